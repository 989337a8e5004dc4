/- Parts of the proof of the law that the last file states; declarations that nothing mentions are left out by a program. No conditions. -/
import Derived.Test.YtledplnlcjfafaaDoorLPaW1q
set_option linter.unusedVariables false
set_option linter.unusedSimpArgs false
namespace Go.Proofs.YtledplnlcjfafaaDoorL
open Go Go.RowKit Go.Proofs.YtledplnlcjfafaaDoorW.PrintWords
def cellB (dim : Bool) (c : TC) : List UInt8 := (if c.dim && !dim then [27, 91, 50, 109] else if dim && !c.dim then [27, 91, 48, 109] else []) ++ c.S.data.toList
def cellsB : Bool → List TC → List UInt8
  | dim, [] => if dim then [27, 91, 48, 109] else []
  | dim, c :: l => cellB dim c ++ cellsB c.dim l
set_option maxRecDepth 100000 in
set_option maxHeartbeats 4000000 in
theorem pcells_calls {B g : Nat} {w : World} {p : Pt} {lv bv v : Value} {L : List RR} {l : List TC} (h : PtO B w g p lv bv L) (hl : SlV w v l) (hl1 : l.length ≤ 1000) (hB : B ≤ w.heap.size) (hn : p.b.length + (cellsB false l).length ≤ 1099511627776) :
    Calls Tryd.prog 55 #[.pointer (some ⟨g, 0, none⟩), v] w fun e w' => e = .returned (.tuple #[]) ∧ ∃ bv', PtO B w' g (p.say (cellsB false l)) lv bv' L ∧ Pf B g w w' := by
  have H := Hd.mk h
  have HS := Hd.mk hl
  have HN := Hd.mk hn
  have HBS := Hd.mk hB
  obtain ⟨A, c, rfl, hc, _⟩ := hl
  obtain ⟨n, hln⟩ : ∃ n, l.length = n := ⟨_, rfl⟩
  have HLN := Hd.mk hln
  rw [hln] at hl1 hc HS ⊢
  obtain ⟨F, hF0⟩ : ∃ F, cellsB false l = F := ⟨_, rfl⟩
  rw [hF0] at HN ⊢
  have HF0 := Hd.mk hF0
  clear h hn hB hln hF0
  go_enter Tryd.func55, Tryd.ntmps55
  go_wp2_with fail
  go_loopg [4, 9] n (fun gk v4 v9 wx => ∃ (k : Nat) (dim : Bool) (pre : List UInt8) (bv' : Value), v4 = .bool dim ∧ v9 = .int .i64 (k : Int) ∧ k + gk = n ∧ Hd (pre ++ cellsB dim (l.drop k) = F) ∧ Hd (PtO B wx g (p.say pre) lv bv' L) ∧ Hd (Pf B g w wx))
  case atStart => exact ⟨0, false, [], bv, rfl, rfl, by omega, ⟨by rw [List.drop_zero, HF0.out]; rfl⟩, ⟨by rw [Pt.say_nil]; exact H.out⟩, ⟨Pf.refl _ _ _⟩⟩
  case round =>
    obtain ⟨k, dim, pre, bv', rfl, rfl, hk, HP, H1, HF⟩ := hrel
    cases gk with
    | zero =>
      have hlt : decide ((k : Int) < (n : Int)) = false := decide_eq_false (by omega)
      have hlt2 : decide (k < n) = false := decide_eq_false (by omega)
      have hlt3 : ¬ k < n := by omega
      have HD : Hd (l.drop k = []) := ⟨List.drop_eq_nil_of_le (by rw [HLN.out]; omega)⟩
      rw [HD.out] at HP
      clear hk HD
      cases dim with
      | false =>
        have HE : Hd (pre = F) := ⟨by rw [← HP.out]; show pre = pre ++ []; rw [List.append_nil]⟩
        rw [HE.out] at H1
        go_wp2
        go_end0
        exact ⟨rfl, bv', H1.out, HF.out⟩
      | true =>
        have HE : Hd (pre ++ [27, 91, 48, 109] = F) := ⟨HP.out⟩
        have X := Hd.mk (say2_calls H1.out ⟨#[27, 91]⟩ ⟨#[48, 109]⟩ (Nat.le_trans HBS.out HF.out.size) (by have h1 := HN.out; rw [← HE.out] at h1; rw [Pt.say_b]; simp only [List.length_append] at h1 ⊢; simp at h1 ⊢; omega))
        clear H1
        go_wp2_with fail
        go_at_call 21
        with_reducible refine X.out.mono ?_
        rintro _ w2 ⟨rfl, bv2, h2, f2⟩
        have H2 : Hd (PtO B w2 g (p.say F) lv bv2 L) := ⟨by rw [Pt.say_say] at h2; rw [← HE.out]; exact h2⟩
        have HF2 := Hd.mk (HF.out.trans f2)
        clear h2 f2 X
        go_wp2
        go_end0
        exact ⟨rfl, bv2, H2.out, HF2.out⟩
    | succ d =>
      have hlt : decide ((k : Int) < (n : Int)) = true := decide_eq_true (by omega)
      have hlt2 : decide (k < n) = true := decide_eq_true (by omega)
      have hlt3 : (k : Int) < (n : Int) := by omega
      have hlt4 : k < n := by omega
      have hk0 : (0 : Int) ≤ (k : Int) := Int.natCast_nonneg _
      have hk1 : (k : Int) ≤ 1000 := by omega
      have hkl : k < l.length := by rw [HLN.out]; exact hlt4
      obtain ⟨A', c', e', _, hne⟩ := HS.out.pf HF.out
      rw [← HLN.out] at e'
      cases e'
      obtain ⟨g0, i0, rfl, hg0, _, hr⟩ := hne (by intro e; rw [e] at hkl; cases hkl)
      replace hr := hr k hkl
      have HD : Hd (l.drop k = getC l k :: l.drop (k + 1)) := ⟨by rw [getC_get hkl]; exact List.drop_eq_getElem_cons hkl⟩
      generalize getC l k = x at *
      rcases x with ⟨S, wd, xd⟩
      dsimp only at hr
      rw [HD.out] at HP
      have HP2 : Hd ((pre ++ cellB dim ⟨S, wd, xd⟩) ++ cellsB xd (l.drop (k + 1)) = F) := ⟨by rw [← HP.out, List.append_assoc]; rfl⟩
      have HC := Hd.mk (Blk.new wr 42 #[.string S, .int .i64 (wd : Int), .bool xd])
      have HFA := Hd.mk (HF.out.alloc (.cells #[.string S, .int .i64 (wd : Int), .bool xd] 42))
      have HA := Hd.mk (H1.out.below ((Below.refl _ wr).alloc (Nat.le_refl _) (.cells #[.string S, .int .i64 (wd : Int), .bool xd] 42)))
      have HLE : Hd (p.b.length + (pre ++ cellB dim ⟨S, wd, xd⟩).length ≤ 1099511627776) := ⟨by have h1 := HN.out; rw [← HP2.out, List.length_append] at h1; omega⟩
      clear HP HD H1 HF hne hkl
      cases xd with
      | true =>
        cases dim with
        | true =>
          have c0 := HC.out.cell 0 rfl
          have c2 := HC.out.cell 2 rfl
          have Y := Hd.mk (say1_calls HA.out S (Nat.le_trans HBS.out HFA.out.size) (by have h1 := HLE.out; rw [Pt.say_b]; simp [cellB] at h1 ⊢; omega))
          rw [World.size_alloc] at Y
          have HF2 := HFA
          go_wp2_with ((with_reducible refine gate_dst (N := 12) rfl ?_); refine wpList_load_mid rfl 42 (.tmp 11) rfl g0 (i0 + k * 3) (by first | rfl | (go_simp; done) | (go_simp; rfl)) [.string S, .int .i64 (wd : Int), .bool true] _ hr Tryd.underlying42 rfl infoCell ?_)
          go_at_call 21
          with_reducible refine Y.out.mono ?_
          rintro _ w3 ⟨rfl, bv3, h3, f3⟩
          have H3 : Hd (PtO B w3 g (p.say (pre ++ cellB true ⟨S, wd, true⟩)) lv bv3 L) := ⟨by rw [Pt.say_say] at h3; exact h3⟩
          have HF3 := Hd.mk (HF2.out.trans f3)
          clear h3 f3 Y HF2 c0 c2
          go_wp2
          go_roundg d
          case measure => omega
          case rel => exact ⟨k + 1, true, pre ++ cellB true ⟨S, wd, true⟩, bv3, rfl, by simp, by omega, HP2, H3, HF3⟩
        | false =>
          have X := Hd.mk (say2_calls HA.out ⟨#[27, 91]⟩ ⟨#[50, 109]⟩ (Nat.le_trans HBS.out HFA.out.size) (by have h1 := HLE.out; rw [Pt.say_b]; simp [cellB] at h1 ⊢; omega))
          rw [World.size_alloc] at X
          go_wp2_with ((with_reducible refine gate_dst (N := 12) rfl ?_); refine wpList_load_mid rfl 42 (.tmp 11) rfl g0 (i0 + k * 3) (by first | rfl | (go_simp; done) | (go_simp; rfl)) [.string S, .int .i64 (wd : Int), .bool true] _ hr Tryd.underlying42 rfl infoCell ?_)
          go_at_call 21
          with_reducible refine X.out.mono ?_
          rintro _ w2 ⟨rfl, bv2, h2, f2⟩
          have HC2 := HC.out.pf f2 (by decide) (by decide)
          have c0 := HC2.cell 0 rfl
          have c2 := HC2.cell 2 rfl
          have HF2 := Hd.mk (HFA.out.trans f2)
          have Y := Hd.mk (say1_calls h2 S (Nat.le_trans HBS.out HF2.out.size) (by have h1 := HLE.out; rw [Pt.say_b, Pt.say_b]; simp [cellB] at h1 ⊢; omega))
          clear h2 f2 X HC2 HA HFA HC
          go_wp2_with fail
          go_at_call 21
          with_reducible refine Y.out.mono ?_
          rintro _ w3 ⟨rfl, bv3, h3, f3⟩
          have H3 : Hd (PtO B w3 g (p.say (pre ++ cellB false ⟨S, wd, true⟩)) lv bv3 L) := ⟨by rw [Pt.say_say, Pt.say_say] at h3; exact h3⟩
          have HF3 := Hd.mk (HF2.out.trans f3)
          clear h3 f3 Y HF2 c0 c2
          go_wp2
          go_roundg d
          case measure => omega
          case rel => exact ⟨k + 1, true, pre ++ cellB false ⟨S, wd, true⟩, bv3, rfl, by simp, by omega, HP2, H3, HF3⟩
      | false =>
        cases dim with
        | true =>
          have X := Hd.mk (say2_calls HA.out ⟨#[27, 91]⟩ ⟨#[48, 109]⟩ (Nat.le_trans HBS.out HFA.out.size) (by have h1 := HLE.out; rw [Pt.say_b]; simp [cellB] at h1 ⊢; omega))
          rw [World.size_alloc] at X
          go_wp2_with ((with_reducible refine gate_dst (N := 12) rfl ?_); refine wpList_load_mid rfl 42 (.tmp 11) rfl g0 (i0 + k * 3) (by first | rfl | (go_simp; done) | (go_simp; rfl)) [.string S, .int .i64 (wd : Int), .bool false] _ hr Tryd.underlying42 rfl infoCell ?_)
          go_at_call 21
          with_reducible refine X.out.mono ?_
          rintro _ w2 ⟨rfl, bv2, h2, f2⟩
          have HC2 := HC.out.pf f2 (by decide) (by decide)
          have c0 := HC2.cell 0 rfl
          have c2 := HC2.cell 2 rfl
          have HF2 := Hd.mk (HFA.out.trans f2)
          have Y := Hd.mk (say1_calls h2 S (Nat.le_trans HBS.out HF2.out.size) (by have h1 := HLE.out; rw [Pt.say_b, Pt.say_b]; simp [cellB] at h1 ⊢; omega))
          clear h2 f2 X HC2 HA HFA HC
          go_wp2_with fail
          go_at_call 21
          with_reducible refine Y.out.mono ?_
          rintro _ w3 ⟨rfl, bv3, h3, f3⟩
          have H3 : Hd (PtO B w3 g (p.say (pre ++ cellB true ⟨S, wd, false⟩)) lv bv3 L) := ⟨by rw [Pt.say_say, Pt.say_say] at h3; exact h3⟩
          have HF3 := Hd.mk (HF2.out.trans f3)
          clear h3 f3 Y HF2 c0 c2
          go_wp2
          go_roundg d
          case measure => omega
          case rel => exact ⟨k + 1, false, pre ++ cellB true ⟨S, wd, false⟩, bv3, rfl, by simp, by omega, HP2, H3, HF3⟩
        | false =>
          have c0 := HC.out.cell 0 rfl
          have c2 := HC.out.cell 2 rfl
          have Y := Hd.mk (say1_calls HA.out S (Nat.le_trans HBS.out HFA.out.size) (by have h1 := HLE.out; rw [Pt.say_b]; simp [cellB] at h1 ⊢; omega))
          rw [World.size_alloc] at Y
          have HF2 := HFA
          go_wp2_with ((with_reducible refine gate_dst (N := 12) rfl ?_); refine wpList_load_mid rfl 42 (.tmp 11) rfl g0 (i0 + k * 3) (by first | rfl | (go_simp; done) | (go_simp; rfl)) [.string S, .int .i64 (wd : Int), .bool false] _ hr Tryd.underlying42 rfl infoCell ?_)
          go_at_call 21
          with_reducible refine Y.out.mono ?_
          rintro _ w3 ⟨rfl, bv3, h3, f3⟩
          have H3 : Hd (PtO B w3 g (p.say (pre ++ cellB false ⟨S, wd, false⟩)) lv bv3 L) := ⟨by rw [Pt.say_say] at h3; exact h3⟩
          have HF3 := Hd.mk (HF2.out.trans f3)
          clear h3 f3 Y HF2 c0 c2
          go_wp2
          go_roundg d
          case measure => omega
          case rel => exact ⟨k + 1, false, pre ++ cellB false ⟨S, wd, false⟩, bv3, rfl, by simp, by omega, HP2, H3, HF3⟩
theorem getC_cut (l : List TC) {a n k : Nat} (hn : n ≤ l.length) (hk : a + k < n) : getC ((l.take n).drop a) k = getC l (a + k) := by
  unfold getC
  rw [List.getD_eq_getElem?_getD, List.getD_eq_getElem?_getD, List.getElem?_drop, List.getElem?_take, if_pos hk]
theorem RowAt.cut {w : World} {r : RR} {l : List TC} (h : RowAt w r l) {a n : Nat} (ha : a < n) (hn : n ≤ l.length) : SlV w (.slice (some ⟨r.g, a * 3, none⟩) (n - a) (r.c - a)) ((l.take n).drop a) := by
  have hlen : ((l.take n).drop a).length = n - a := by rw [List.length_drop, List.length_take, Nat.min_eq_left hn]
  obtain ⟨A, c, e, _, hx⟩ := h.sl
  obtain ⟨g, i, e2, hg, hcs, hr⟩ := hx (by intro e; rw [e] at hn; simp at hn; omega)
  unfold RR.v at e
  injection e with e3 e4 e5
  rw [← e3] at e2
  injection e2 with e2
  injection e2 with e6 e7 e8
  subst e6
  refine ⟨_, _, by rw [hlen], by rw [hlen]; have := h.1; have := h.2.1; omega, fun _ => ⟨r.g, a * 3, rfl, hg, hcs, fun k hk => ?_⟩⟩
  rw [hlen] at hk
  rw [getC_cut l hn (by omega)]
  have h2 := hr (a + k) (by omega)
  rw [show i + (a + k) * 3 = a * 3 + k * 3 by rw [← e7]; omega] at h2
  exact h2
def tailB (from_ : Nat) (l was : List TC) : List UInt8 := if max (endP l l.length) from_ < endP was was.length then [27, 91, 75] else []
def midB (from_ : Nat) (l : List TC) : List UInt8 := if from_ < endP l l.length then cellsB false ((l.take (endP l l.length)).drop from_) else []
def lineB (from_ : Nat) (l was : List TC) : List UInt8 := colB from_ ++ (midB from_ l ++ tailB from_ l was)
set_option maxRecDepth 100000 in
set_option maxHeartbeats 4000000 in
theorem line_calls {B g : Nat} {w : World} {p : Pt} {lv bv v1 v2 : Value} {L : List RR} {l was : List TC} {P1 P2 : Nat → Prop} (h : PtO B w g p lv bv L) (row from_ : Nat) (hl : RowV P1 w v1 l) (hw : RowV P2 w v2 was) (hm : row ≤ 1000000 ∧ from_ ≤ 1000) (hh : 1 ≤ p.high ∧ p.high ≤ 1000000) (hr : p.row ≤ 1000000)
    (hl1 : l.length ≤ 1000) (hl2 : was.length ≤ 1000) (hB : B ≤ w.heap.size) (hn : (p.to row).b.length + (lineB from_ l was).length ≤ 1099511627776) :
    Calls Tryd.prog 36 #[.pointer (some ⟨g, 0, none⟩), .int .i64 (row : Int), .int .i64 (from_ : Int), v1, v2] w fun e w' => e = .returned (.tuple #[]) ∧ ∃ bv', PtO B w' g ((p.to row).say (lineB from_ l was)) lv bv' L ∧ Pf B g w w' := by
  have HN := Hd.mk hn
  have HBS := Hd.mk hB
  have HL := Hd.mk hl
  have HW := Hd.mk hw
  have HLN := Hd.mk (And.intro hl1 hl2)
  have HSZ : Hd ((p.to row).b.length + ((colB from_).length + ((midB from_ l).length + (tailB from_ l was).length)) ≤ 1099511627776) := ⟨by unfold lineB at hn; rw [List.length_append, List.length_append] at hn; exact hn⟩
  have X1 := Hd.mk (pto_calls h row hm.1 hh hr hB (by have h1 := HN.out; have e : (p.to row).b = p.b ++ toB p row := rfl; rw [e, List.length_append] at h1; omega))
  have HFR := Hd.mk hm.2
  have hf1 : (from_ : Int) ≤ 1000 := by omega
  have hf0 : (0 : Int) ≤ (from_ : Int) := Int.natCast_nonneg _
  clear h hh hr hn hB hl hw hl1 hl2 hm
  go_enter Tryd.func36, Tryd.ntmps36
  go_wp2_with fail
  go_at_call 20
  with_reducible refine X1.out.mono ?_
  rintro _ wa ⟨rfl, bva, ha, fa⟩
  have HF := Hd.mk fa
  have X2 := Hd.mk (column_calls ha from_ (by have := HFR.out; omega) (Nat.le_trans HBS.out fa.size) (by have h1 := HSZ.out; omega))
  clear ha fa X1
  go_wp2_with fail
  go_at_call 37
  with_reducible refine X2.out.mono ?_
  rintro _ wb ⟨rfl, bvb, ha, fa⟩
  have HF2 := Hd.mk (HF.out.trans fa)
  have H2 := Hd.mk ha
  have X3 := Hd.mk (pend_calls (HL.out.pf HF2.out).sl HLN.out.1)
  clear ha fa X2 HF
  go_wp2_with fail
  go_at_call 54
  with_reducible refine X3.out.mono ?_
  rintro _ wc ⟨rfl, hb⟩
  have HF3 := Hd.mk (HF2.out.below hb)
  have H3 := Hd.mk (H2.out.below hb)
  have hle := Hd.mk (endP_le l l.length)
  have HM0 : Hd (midB from_ l = if from_ < endP l l.length then cellsB false ((l.take (endP l l.length)).drop from_) else []) := ⟨rfl⟩
  have HT0 : Hd (tailB from_ l was = if max (endP l l.length) from_ < endP was was.length then [27, 91, 75] else []) := ⟨rfl⟩
  have HLB : Hd (lineB from_ l was = colB from_ ++ (midB from_ l ++ tailB from_ l was)) := ⟨rfl⟩
  clear hb X3 HF2 H2
  obtain ⟨n, hn⟩ : ∃ n, endP l l.length = n := ⟨_, rfl⟩
  rw [hn] at HM0 HT0 hle ⊢
  clear hn
  have hn1 : (n : Int) ≤ 1000 := by have := hle.out; have := HLN.out.1; omega
  have hn0 : (0 : Int) ≤ (n : Int) := Int.natCast_nonneg _
  generalize midB from_ l = M at *
  generalize tailB from_ l was = T at *
  obtain ⟨mx, hmx⟩ : ∃ mx, max n from_ = mx := ⟨_, rfl⟩
  rw [hmx] at HT0
  have hmx1 : max (n : Int) (from_ : Int) = (mx : Int) := by omega
  have hmx2 : (if (n : Int) < (from_ : Int) then (from_ : Int) else (n : Int)) = (mx : Int) := by split <;> omega
  have hmx3 : (if (n : Int) ≤ (from_ : Int) then (from_ : Int) else (n : Int)) = (mx : Int) := by split <;> omega
  have hmx4 : (mx : Int) ≤ 1000 := by omega
  clear hmx
  by_cases hfn : from_ < n
  · have p0 : decide ((from_ : Int) < (n : Int)) = true := decide_eq_true (by omega)
    have p1 : decide (from_ < n) = true := decide_eq_true hfn
    have p2 : (from_ : Int) ≤ (n : Int) := by omega
    have p3 : (from_ : Int) < (n : Int) := by omega
    rw [if_pos hfn] at HM0
    have hlr : Hd (∃ r : RR, v1 = r.v ∧ RowAt wc r l) := ⟨by
      rcases HL.out.pf HF3.out with ⟨_, e⟩ | ⟨r, e, hr, _⟩
      · have h1 := hle.out; rw [e] at h1; simp at h1; omega
      · exact ⟨r, e, hr⟩⟩
    obtain ⟨r, rfl, hrow⟩ := hlr.out
    have hrl := hrow.1
    have hrc := hrow.2.1
    have hrm := hrow.2.2.1
    have HCUT := Hd.mk (hrow.cut hfn hle.out)
    have hcl : Hd (((l.take n).drop from_).length ≤ 1000) := ⟨by rw [List.length_drop, List.length_take]; have := HLN.out.1; omega⟩
    have X4 := Hd.mk (pcells_calls H3.out HCUT.out hcl.out (Nat.le_trans HBS.out HF3.out.size) (by rw [← HM0.out, Pt.say_b, List.length_append]; have h1 := HSZ.out; omega))
    rw [← HM0.out] at X4
    have q0 : (n : Int) ≤ (r.c : Int) := by have := hle.out; omega
    have q1 : (n : Int) ≤ (r.n : Int) := by have := hle.out; omega
    have q2 : ¬ r.c = from_ := by have := hle.out; omega
    unfold RR.v
    clear hlr hrow HCUT hcl HM0
    go_wp2_with fail
    go_at_call 55
    with_reducible refine X4.out.mono ?_
    rintro _ wd ⟨rfl, bvd, ha, fa⟩
    have HF4 := Hd.mk (HF3.out.trans fa)
    have H4 := Hd.mk ha
    clear ha fa X4 H3 HF3
    have HEQ : Hd ((((p.to row).say (colB from_)).say M).say T = (p.to row).say (colB from_ ++ (M ++ T))) := ⟨by rw [Pt.say_say, Pt.say_say]⟩
    have X5 := Hd.mk (pend_calls (HW.out.pf HF4.out).sl HLN.out.2)
    obtain ⟨en, hen⟩ : ∃ en, endP was was.length = en := ⟨_, rfl⟩
    have HEN := Hd.mk (endP_le was was.length)
    rw [hen] at X5 HT0 HEN
    clear hen
    go_wp2_with fail
    go_at_call 54
    with_reducible refine X5.out.mono ?_
    rintro _ we ⟨rfl, hb⟩
    have HF5 := Hd.mk (HF4.out.below hb)
    have H5 := Hd.mk (H4.out.below hb)
    clear hb X5 HF4 H4
    by_cases hgt : mx < en
    · have r0 : decide ((mx : Int) < (en : Int)) = true := decide_eq_true (by omega)
      have r1 : decide (mx < en) = true := decide_eq_true hgt
      have r2 : (mx : Int) < (en : Int) := by omega
      rw [if_pos hgt] at HT0
      have X6 := Hd.mk (say2_calls H5.out ⟨#[27, 91]⟩ ⟨#[75]⟩ (Nat.le_trans HBS.out HF5.out.size) (by have h1 := HSZ.out; rw [HT0.out] at h1; rw [Pt.say_b, Pt.say_b, List.length_append, List.length_append]; simp at h1 ⊢; omega))
      clear H5
      go_wp2_with fail
      go_at_call 21
      with_reducible refine X6.out.mono ?_
      rintro _ wf ⟨rfl, bvf, ha, fa⟩
      have HF6 := Hd.mk (HF5.out.trans fa)
      have H6 : Hd (PtO B wf g ((((p.to row).say (colB from_)).say M).say T) lv bvf L) := ⟨by rw [HT0.out]; exact ha⟩
      clear ha fa X6 HF5
      go_wp2
      go_end0
      exact ⟨rfl, bvf, by rw [HLB.out, ← HEQ.out]; exact H6.out, HF6.out⟩
    · have r0 : decide ((mx : Int) < (en : Int)) = false := decide_eq_false (by omega)
      have r1 : decide (mx < en) = false := decide_eq_false hgt
      have r2 : ¬ (mx : Int) < (en : Int) := by omega
      rw [if_neg hgt] at HT0
      go_wp2
      go_end0
      exact ⟨rfl, _, by rw [HLB.out, ← HEQ.out, HT0.out, Pt.say_nil]; exact H5.out, HF5.out⟩
  · have p0 : decide ((from_ : Int) < (n : Int)) = false := decide_eq_false (by omega)
    have p1 : decide (from_ < n) = false := decide_eq_false hfn
    have p2 : ¬ (from_ : Int) < (n : Int) := by omega
    rw [if_neg hfn] at HM0
    have HF4 := HF3
    have H4 : Hd (PtO B wc g (((p.to row).say (colB from_)).say M) lv bvb L) := ⟨by rw [HM0.out, Pt.say_nil]; exact H3.out⟩
    clear H3 HF3 HM0
    have HEQ : Hd ((((p.to row).say (colB from_)).say M).say T = (p.to row).say (colB from_ ++ (M ++ T))) := ⟨by rw [Pt.say_say, Pt.say_say]⟩
    have X5 := Hd.mk (pend_calls (HW.out.pf HF4.out).sl HLN.out.2)
    obtain ⟨en, hen⟩ : ∃ en, endP was was.length = en := ⟨_, rfl⟩
    have HEN := Hd.mk (endP_le was was.length)
    rw [hen] at X5 HT0 HEN
    clear hen
    go_wp2_with fail
    go_at_call 54
    with_reducible refine X5.out.mono ?_
    rintro _ we ⟨rfl, hb⟩
    have HF5 := Hd.mk (HF4.out.below hb)
    have H5 := Hd.mk (H4.out.below hb)
    clear hb X5 HF4 H4
    by_cases hgt : mx < en
    · have r0 : decide ((mx : Int) < (en : Int)) = true := decide_eq_true (by omega)
      have r1 : decide (mx < en) = true := decide_eq_true hgt
      have r2 : (mx : Int) < (en : Int) := by omega
      rw [if_pos hgt] at HT0
      have X6 := Hd.mk (say2_calls H5.out ⟨#[27, 91]⟩ ⟨#[75]⟩ (Nat.le_trans HBS.out HF5.out.size) (by have h1 := HSZ.out; rw [HT0.out] at h1; rw [Pt.say_b, Pt.say_b, List.length_append, List.length_append]; simp at h1 ⊢; omega))
      clear H5
      go_wp2_with fail
      go_at_call 21
      with_reducible refine X6.out.mono ?_
      rintro _ wf ⟨rfl, bvf, ha, fa⟩
      have HF6 := Hd.mk (HF5.out.trans fa)
      have H6 : Hd (PtO B wf g ((((p.to row).say (colB from_)).say M).say T) lv bvf L) := ⟨by rw [HT0.out]; exact ha⟩
      clear ha fa X6 HF5
      go_wp2
      go_end0
      exact ⟨rfl, bvf, by rw [HLB.out, ← HEQ.out]; exact H6.out, HF6.out⟩
    · have r0 : decide ((mx : Int) < (en : Int)) = false := decide_eq_false (by omega)
      have r1 : decide (mx < en) = false := decide_eq_false hgt
      have r2 : ¬ (mx : Int) < (en : Int) := by omega
      rw [if_neg hgt] at HT0
      go_wp2
      go_end0
      exact ⟨rfl, _, by rw [HLB.out, ← HEQ.out, HT0.out, Pt.say_nil]; exact H5.out, HF5.out⟩
end Go.Proofs.YtledplnlcjfafaaDoorL

