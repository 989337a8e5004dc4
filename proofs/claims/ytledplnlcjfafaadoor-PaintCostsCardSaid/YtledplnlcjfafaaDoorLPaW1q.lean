/- Parts of the proof of the law that the last file states; declarations that nothing mentions are left out by a program. No conditions. -/
import Derived.Lib.AppendIntMem
import Derived.Test.YtledplnlcjfafaaDoorLPaHq
import Derived.Test.YtledplnlcjfafaaDoorShelfq
set_option linter.unusedVariables false
set_option linter.unusedSimpArgs false
namespace Go.Proofs.YtledplnlcjfafaaDoorL
open Go Go.RowKit Go.Proofs.YtledplnlcjfafaaDoorW.PrintWords
def flatB : List ByteArray → List UInt8
  | [] => []
  | s :: l => s.data.toList ++ flatB l
theorem flatB_app : ∀ l m : List ByteArray, flatB (l ++ m) = flatB l ++ flatB m
  | [], _ => rfl
  | s :: l, m => by rw [List.cons_append, flatB, flatB, flatB_app l m, List.append_assoc]
theorem flatB_take (l : List ByteArray) (n : Nat) : (flatB (l.take n)).length ≤ (flatB l).length := by
  have h : (flatB (l.take n ++ l.drop n)).length = (flatB l).length := by rw [List.take_append_drop]
  rw [flatB_app, List.length_append] at h
  omega
theorem owns_slice {w : World} {B : Nat} {e : TypeId} {size n : Nat} {v : Value} {xs : List Value} (h : w.ownsRow B e size v n xs) : ∃ A c, v = .slice A n c := by
  rcases h.2 with ⟨rfl, rfl⟩ | ⟨g, c, cur, rfl, _⟩
  · exact ⟨_, _, rfl⟩
  · exact ⟨_, _, rfl⟩
theorem Pt.say_b (p : Pt) (l : List UInt8) : (p.say l).b = p.b ++ l := rfl
set_option maxRecDepth 100000 in
set_option maxHeartbeats 4000000 in
theorem say_calls {B g : Nat} {w : World} {p : Pt} {lv bv : Value} {L : List RR} (h : PtO B w g p lv bv L) (l : List ByteArray) {x : Nat} (hx : Blk w x 9 (l.map Value.string).toArray) (hl : l.length ≤ 1000) (hB : B ≤ w.heap.size) (hn : p.b.length + (flatB l).length ≤ 1099511627776) :
    Calls Tryd.prog 21 #[.pointer (some ⟨g, 0, none⟩), .slice (some ⟨x, 0, none⟩) l.length l.length] w fun e w' => e = .returned (.tuple #[]) ∧ ∃ bv', PtO B w' g (p.say (flatB l)) lv bv' L ∧ Pf B g w w' := by
  have H := Hd.mk h
  have HX := Hd.mk hx
  have HN := Hd.mk hn
  have HBS := Hd.mk hB
  obtain ⟨n, hln⟩ : ∃ n, l.length = n := ⟨_, rfl⟩
  have HLN := Hd.mk hln
  rw [hln] at hl ⊢
  clear h hx hn hB hln
  go_enter Tryd.func21, Tryd.ntmps21
  go_wp2_with fail
  go_loopg [8] n (fun gk v8 wx => ∃ (k : Nat) (bv' : Value), v8 = .int .i64 (k : Int) ∧ k + gk = n ∧ Hd (PtO B wx g (p.say (flatB (l.take k))) lv bv' L) ∧ Hd (Pf B g w wx))
  case atStart => exact ⟨0, bv, rfl, by omega, ⟨by rw [List.take_zero]; unfold flatB; rw [Pt.say_nil]; exact H.out⟩, ⟨Pf.refl _ _ _⟩⟩
  case round =>
    obtain ⟨k, bv', rfl, hk, H1, HF⟩ := hrel
    cases gk with
    | zero =>
      have hlt : decide ((k : Int) < (n : Int)) = false := decide_eq_false (by omega)
      have hlt2 : decide (k < n) = false := decide_eq_false (by omega)
      have hlt3 : ¬ k < n := by omega
      have HE : Hd (l.take k = l) := ⟨List.take_of_length_le (by rw [HLN.out]; omega)⟩
      rw [HE.out] at H1
      clear hk HE
      go_wp2
      go_end0
      exact ⟨rfl, bv', H1.out, HF.out⟩
    | succ d =>
      have hlt : decide ((k : Int) < (n : Int)) = true := decide_eq_true (by omega)
      have hlt2 : decide (k < n) = true := decide_eq_true (by omega)
      have hlt3 : (k : Int) < (n : Int) := by omega
      have hlt4 : k < n := by omega
      have hk0 : (0 : Int) ≤ (k : Int) := Int.natCast_nonneg _
      have hk1 : (k : Int) ≤ 1000 := by omega
      have hkl : k < l.length := by rw [HLN.out]; exact hlt4
      have hs : wr.cell? ⟨x, k, none⟩ = some (.string l[k]) := (HX.out.pf HF.out (by decide) (by decide)).cell k (by simp [hkl])
      have HT : Hd (l.take (k + 1) = l.take k ++ [l[k]]) := ⟨by rw [List.take_add_one, List.getElem?_eq_getElem hkl]; rfl⟩
      have hbl := flatB_take l (k + 1)
      rw [HT.out, flatB_app, List.length_append] at hbl
      have HSZ : Hd (((p.say (flatB (l.take k))).b).length + (l[k]).size ≤ 1099511627776) := ⟨by
        have h1 := HN.out
        have h2 : (flatB [l[k]]).length = (l[k]).size := by simp [flatB]
        rw [Pt.say_b, List.length_append]
        omega⟩
      generalize l[k] = s at *
      obtain ⟨c0, c1, c2, c3⟩ := H1.out.cells_
      have hb0 : B ≤ wr.heap.size := Nat.le_trans HBS.out HF.out.size
      obtain ⟨i0, hi, hz0, hz1, hz2⟩ := info_parts infoByte
      have hu := Tryd.underlying43
      have hu2 := Tryd.underlying9
      clear hbl hkl c0 c1 c2
      have HH := Hd.mk (And.intro hi (And.intro hz0 (And.intro hz1 hz2)))
      clear hi hz0 hz1 hz2
      go_wp2_with (at_builtin; refine Lib.wpList_append_own_string _ rfl _ _ 43 9 rfl B 5 i0 hu hu2 HH.out.1 HH.out.2.1 HH.out.2.2.1 HH.out.2.2.2 bv' _ _ rfl H1.out.q s rfl (by have h1 := HSZ.out; unfold maxLen; omega) (by have h1 := HSZ.out; omega) hb0 ?_; intro v' w2 hown hgrow hnil; obtain ⟨A', c', rfl⟩ := owns_slice hown; have c6 := (H1.out.b.to (hgrow.block _ H1.out.b.lt (H1.out.q.ne H1.out.b (by decide)))).cell 6 rfl; have f6 := (H1.out.b.to (hgrow.block _ H1.out.b.lt (H1.out.q.ne H1.out.b (by decide)))).frozen 6; have HS := Hd.mk (H1.out.said (b' := s.data.toList) (by unfold BufO; rw [bV_app, ← bV_str, List.length_append]; exact hown) hgrow); clear c3 hgrow hown hnil)
      have HT2 : Hd ((p.say (flatB (l.take k))).say s.data.toList = p.say (flatB (l.take (k + 1)))) := ⟨by rw [Pt.say_say, HT.out, flatB_app]; simp [flatB]⟩
      rw [HT2.out] at HS
      have HF2 := Hd.mk (HF.out.trans HS.out.2)
      have HS2 := Hd.mk HS.out.1
      clear HS HF
      go_roundg d
      case measure => omega
      case rel => exact ⟨k + 1, _, by simp, by omega, HS2, HF2⟩
set_option maxRecDepth 100000 in
set_option maxHeartbeats 4000000 in
theorem say1_calls {B g : Nat} {w : World} {p : Pt} {lv bv : Value} {L : List RR} (h : PtO B w g p lv bv L) (s : ByteArray) (hB : B ≤ w.heap.size) (hn : p.b.length + s.data.toList.length ≤ 1099511627776) :
    Calls Tryd.prog 21 #[.pointer (some ⟨g, 0, none⟩), .slice (some ⟨w.heap.size, 0, none⟩) 1 1] (w.alloc (.cells #[.string s] 9)) fun e w' => e = .returned (.tuple #[]) ∧ ∃ bv', PtO B w' g (p.say s.data.toList) lv bv' L ∧ Pf B g w w' := by
  have f : Pf B g w (w.alloc (.cells #[.string s] 9)) := (Pf.refl B g w).alloc _
  have hfl : flatB [s] = s.data.toList := by simp [flatB]
  refine (say_calls (h.below ((Below.refl _ w).alloc (Nat.le_refl _) _)) [s] (Blk.new w 9 #[.string s]) (by simp) (Nat.le_trans hB f.size) (by rw [hfl]; exact hn)).mono ?_
  rintro _ w' ⟨rfl, bv', h1, h2⟩
  rw [hfl] at h1
  exact ⟨rfl, bv', h1, f.trans h2⟩
theorem say2_calls {B g : Nat} {w : World} {p : Pt} {lv bv : Value} {L : List RR} (h : PtO B w g p lv bv L) (s t : ByteArray) (hB : B ≤ w.heap.size) (hn : p.b.length + (s.data.toList.length + t.data.toList.length) ≤ 1099511627776) :
    Calls Tryd.prog 21 #[.pointer (some ⟨g, 0, none⟩), .slice (some ⟨w.heap.size, 0, none⟩) 2 2] (w.alloc (.cells #[.string s, .string t] 9)) fun e w' => e = .returned (.tuple #[]) ∧ ∃ bv', PtO B w' g (p.say (s.data.toList ++ t.data.toList)) lv bv' L ∧ Pf B g w w' := by
  have f : Pf B g w (w.alloc (.cells #[.string s, .string t] 9)) := (Pf.refl B g w).alloc _
  have hfl : flatB [s, t] = s.data.toList ++ t.data.toList := by simp [flatB]
  refine (say_calls (h.below ((Below.refl _ w).alloc (Nat.le_refl _) _)) [s, t] (Blk.new w 9 #[.string s, .string t]) (by simp) (Nat.le_trans hB f.size) (by rw [hfl, List.length_append]; exact hn)).mono ?_
  rintro _ w' ⟨rfl, bv', h1, h2⟩
  rw [hfl] at h1
  exact ⟨rfl, bv', h1, f.trans h2⟩
theorem say3_calls {B g : Nat} {w : World} {p : Pt} {lv bv : Value} {L : List RR} (h : PtO B w g p lv bv L) (s t u : ByteArray) (hB : B ≤ w.heap.size) (hn : p.b.length + (s.data.toList.length + (t.data.toList.length + u.data.toList.length)) ≤ 1099511627776) :
    Calls Tryd.prog 21 #[.pointer (some ⟨g, 0, none⟩), .slice (some ⟨w.heap.size, 0, none⟩) 3 3] (w.alloc (.cells #[.string s, .string t, .string u] 9)) fun e w' => e = .returned (.tuple #[]) ∧ ∃ bv', PtO B w' g (p.say (s.data.toList ++ (t.data.toList ++ u.data.toList))) lv bv' L ∧ Pf B g w w' := by
  have f : Pf B g w (w.alloc (.cells #[.string s, .string t, .string u] 9)) := (Pf.refl B g w).alloc _
  have hfl : flatB [s, t, u] = s.data.toList ++ (t.data.toList ++ u.data.toList) := by simp [flatB]
  refine (say_calls (h.below ((Below.refl _ w).alloc (Nat.le_refl _) _)) [s, t, u] (Blk.new w 9 #[.string s, .string t, .string u]) (by simp) (Nat.le_trans hB f.size) (by rw [hfl, List.length_append, List.length_append]; exact hn)).mono ?_
  rintro _ w' ⟨rfl, bv', h1, h2⟩
  rw [hfl] at h1
  exact ⟨rfl, bv', h1, f.trans h2⟩
set_option maxRecDepth 100000 in
set_option maxHeartbeats 4000000 in
theorem move_calls {B g : Nat} {w : World} {p : Pt} {lv bv : Value} {L : List RR} (h : PtO B w g p lv bv L) (n : Int) (x : UInt8) (h0 : -9223372036854775808 ≤ n) (h1 : n ≤ 9223372036854775807) (hB : B ≤ w.heap.size) (hn : p.b.length + (moveB n x).length ≤ 1099511627776) :
    Calls Tryd.prog 39 #[.pointer (some ⟨g, 0, none⟩), .int .i64 n, .string ⟨#[x]⟩] w fun e w' => e = .returned (.tuple #[]) ∧ ∃ bv', PtO B w' g (p.say (moveB n x)) lv bv' L ∧ Pf B g w w' := by
  have H := Hd.mk h
  have HN := Hd.mk hn
  have HBS := Hd.mk hB
  clear h hn hB
  by_cases hp : 0 < n
  · have p0 : decide (0 < n) = true := decide_eq_true hp
    have p1 : decide (n > 0) = true := decide_eq_true hp
    have X := Hd.mk (Tryd.strconv_Itoa n h0 h1 w H.out.tab)
    have HM : Hd ((⟨#[27, 91]⟩ : ByteArray).data.toList ++ ((⟨(Lib.itoa n).toArray⟩ : ByteArray).data.toList ++ (⟨#[x]⟩ : ByteArray).data.toList) = moveB n x) := ⟨by unfold moveB; rw [if_pos hp]; simp⟩
    clear h0 h1
    go_enter Tryd.func39, Tryd.ntmps39
    go_wp2_with fail
    go_at_call 56
    with_reducible refine X.out.mono ?_
    rintro _ w2 ⟨rfl, k, os, rfl⟩
    have hb := Lib.below_grow w.heap.size w (Nat.le_refl _) k os
    generalize Go.Sort.grow (w.drewN k) os = w2 at *
    have H2 := Hd.mk (H.out.below hb)
    have HF : Hd (Pf B g w w2) := ⟨Pf.of_below hb⟩
    have XS := Hd.mk (say3_calls H2.out ⟨#[27, 91]⟩ ⟨(Lib.itoa n).toArray⟩ ⟨#[x]⟩ (Nat.le_trans HBS.out HF.out.size) (by have h1 := HN.out; rw [← HM.out, List.length_append, List.length_append] at h1; exact h1))
    rw [HM.out] at XS
    clear hb X H
    go_wp2_with fail
    go_at_call 21
    with_reducible refine XS.out.mono ?_
    rintro _ w3 ⟨rfl, bv', h3, f3⟩
    have HE := Hd.mk (And.intro h3 (HF.out.trans f3))
    clear h3 f3 XS
    go_wp2
    go_end0
    exact ⟨rfl, bv', HE.out⟩
  · have p0 : decide (0 < n) = false := decide_eq_false hp
    have p1 : decide (n > 0) = false := decide_eq_false hp
    have HM : Hd (moveB n x = []) := ⟨by unfold moveB; rw [if_neg hp]⟩
    rw [HM.out, Pt.say_nil]
    clear HN HM
    go_enter Tryd.func39, Tryd.ntmps39
    go_wp2
    go_end0
    first | exact ⟨rfl, bv, H.out, Pf.refl _ _ _⟩ | exact ⟨rfl, ⟨bv, H.out⟩, Pf.refl _ _ _⟩
set_option maxRecDepth 100000 in
set_option maxHeartbeats 4000000 in
theorem column_calls {B g : Nat} {w : World} {p : Pt} {lv bv : Value} {L : List RR} (h : PtO B w g p lv bv L) (n : Nat) (hm : n ≤ 1000000) (hB : B ≤ w.heap.size) (hn : p.b.length + (colB n).length ≤ 1099511627776) :
    Calls Tryd.prog 37 #[.pointer (some ⟨g, 0, none⟩), .int .i64 (n : Int)] w fun e w' => e = .returned (.tuple #[]) ∧ ∃ bv', PtO B w' g (p.say (colB n)) lv bv' L ∧ Pf B g w w' := by
  have HN : Hd (p.b.length + (1 + (moveB n 67).length) ≤ 1099511627776) := ⟨by unfold colB at hn; rw [List.length_append] at hn; exact hn⟩
  have X := Hd.mk (say1_calls h ⟨#[13]⟩ hB (by have := HN.out; simp; omega))
  have HBS := Hd.mk hB
  have XM := Hd.mk (fun (w2 : World) bv' (h2 : PtO B w2 g (p.say [13]) lv bv' L) (hs : w.heap.size ≤ w2.heap.size) => move_calls h2 (n : Int) 67 (by omega) (by omega) (Nat.le_trans HBS.out hs) (by have := HN.out; rw [Pt.say_b, List.length_append]; simp; omega))
  clear h hn hB
  have hn1 : (n : Int) ≤ 1000000 := by omega
  go_enter Tryd.func37, Tryd.ntmps37
  go_wp2_with fail
  go_at_call 21
  with_reducible refine X.out.mono ?_
  rintro _ w2 ⟨rfl, bv2, h2, f2⟩
  have H2 := Hd.mk (And.intro h2 f2)
  clear h2 f2 X
  go_wp2_with fail
  go_at_call 39
  with_reducible refine (XM.out _ bv2 H2.out.1 H2.out.2.size).mono ?_
  rintro _ w3 ⟨rfl, bv3, h3, f3⟩
  have H3 := Hd.mk (And.intro h3 f3)
  clear h3 f3 XM
  go_wp2
  go_end0
  exact ⟨rfl, bv3, by rw [Pt.say_say] at H3; exact H3.out.1, H2.out.2.trans H3.out.2⟩
theorem nextB_succ : ∀ n, nextB (n + 1) = nextB n ++ [13, 10]
  | 0 => rfl
  | n + 1 => by
    show [13, 10] ++ nextB (n + 1) = [13, 10] ++ nextB n ++ [13, 10]
    rw [nextB_succ n, List.append_assoc]
theorem nextB_len (n : Nat) : (nextB n).length = 2 * n := by
  induction n with
  | zero => rfl
  | succ n ih => unfold nextB; rw [List.length_append, ih]; simp; omega
def Pt.down (p : Pt) (i j : Nat) : Pt := { p with b := p.b ++ nextB j, row := i + j, high := p.high + j }
theorem Pt.to_down (p : Pt) (row : Nat) : ((p.say (moveB ((p.row : Int) - innP p row) 65)).say (moveB ((innP p row : Int) - p.row) 66)).down (innP p row) (row - innP p row) = p.to row := by
  have h : innP p row ≤ row := by unfold innP; omega
  unfold Pt.down Pt.to Pt.say toB
  simp only [List.append_assoc, Nat.add_sub_cancel' h]
set_option maxRecDepth 100000 in
set_option maxHeartbeats 4000000 in
theorem pto_calls {B g : Nat} {w : World} {p : Pt} {lv bv : Value} {L : List RR} (h : PtO B w g p lv bv L) (row : Nat) (hm : row ≤ 1000000) (hh : 1 ≤ p.high ∧ p.high ≤ 1000000) (hr : p.row ≤ 1000000) (hB : B ≤ w.heap.size) (hn : p.b.length + (toB p row).length ≤ 1099511627776) :
    Calls Tryd.prog 20 #[.pointer (some ⟨g, 0, none⟩), .int .i64 (row : Int)] w fun e w' => e = .returned (.tuple #[]) ∧ ∃ bv', PtO B w' g (p.to row) lv bv' L ∧ Pf B g w w' := by
  have HE := Hd.mk (Pt.to_down p row)
  have hmin0 : min (row : Int) ((p.high : Int) - 1) = (innP p row : Int) := by unfold innP; omega
  have hle : innP p row ≤ row := by unfold innP; omega
  unfold toB at hn
  rw [← HE.out]
  clear HE
  obtain ⟨i, hi⟩ : ∃ i, innP p row = i := ⟨_, rfl⟩
  rw [hi] at hn hmin0 hle ⊢
  clear hi
  have hmin1 : (if (row : Int) < (p.high : Int) - 1 then (row : Int) else (p.high : Int) - 1) = (i : Int) := by split <;> omega
  have hmin2 : (if (row : Int) ≤ (p.high : Int) - 1 then (row : Int) else (p.high : Int) - 1) = (i : Int) := by split <;> omega
  have hmin3 : (if (p.high : Int) - 1 < (row : Int) then (p.high : Int) - 1 else (row : Int)) = (i : Int) := by split <;> omega
  rw [List.length_append, List.length_append, nextB_len] at hn
  have HN := Hd.mk hn
  have HBS := Hd.mk hB
  have HM := Hd.mk (And.intro hm (And.intro hh hr))
  have H := Hd.mk h
  have x1 : (p.high : Int) ≤ 1000000 := by omega
  have x2 : (1 : Int) ≤ (p.high : Int) := by omega
  have x3 : (row : Int) ≤ 1000000 := by omega
  have x4 : (p.row : Int) ≤ 1000000 := by omega
  have x5 : (i : Int) ≤ 1000000 := by omega
  have x6 : (0 : Int) ≤ (p.row : Int) := Int.natCast_nonneg _
  have x7 : (0 : Int) ≤ (i : Int) := Int.natCast_nonneg _
  clear hn hB hh hr hm
  obtain ⟨q, hq⟩ : ∃ q, (p.say (moveB ((p.row : Int) - i) 65)).say (moveB ((i : Int) - p.row) 66) = q := ⟨_, rfl⟩
  rw [hq]
  have HQQ := Hd.mk hq
  clear hq
  obtain ⟨c3, c4, c5, c6⟩ := h.cells_
  clear c3 c6 h
  go_enter Tryd.func20, Tryd.ntmps20
  go_wp2_with fail
  go_at_call 39
  with_reducible refine (move_calls H.out ((p.row : Int) - (i : Int)) 65 (by omega) (by omega) HBS.out (by have := HN.out; omega)).mono ?_
  rintro _ w2 ⟨rfl, bv2, h2, f2⟩
  have H2 := Hd.mk (And.intro h2 f2)
  obtain ⟨c3, d4, d5, c6⟩ := h2.cells_
  have e5 : w2.cell? ⟨g, 5, none⟩ = some (.int .i64 (p.row : Int)) := d5
  clear h2 f2 c4 c5 c3 c6 d4 d5
  go_wp2_with fail
  go_at_call 39
  with_reducible refine (move_calls H2.out.1 ((i : Int) - (p.row : Int)) 66 (by omega) (by omega) (Nat.le_trans HBS.out H2.out.2.size) (by have := HN.out; rw [Pt.say_b, List.length_append]; omega)).mono ?_
  rintro _ w3 ⟨rfl, bv3, h3, f3⟩
  have HF := Hd.mk (H2.out.2.trans f3)
  have H3 := Hd.mk h3
  have c5 := h3.b.cell 5 rfl
  have f5 := h3.b.frozen 5
  clear h3 f3 e5 H2
  go_wp2_with fail
  have H4 := Hd.mk (H3.out.row_ i).1
  have HF4 := Hd.mk (HF.out.trans (H3.out.row_ i).2)
  have HNB : Hd (((p.say (moveB ((p.row : Int) - i) 65)).say (moveB ((i : Int) - p.row) 66)).b.length + 2 * (row - i) ≤ 1099511627776 ∧ ((p.say (moveB ((p.row : Int) - i) 65)).say (moveB ((i : Int) - p.row) 66)).high = p.high) := ⟨by have := HN.out; rw [Pt.say_b, Pt.say_b, List.length_append, List.length_append]; omega, rfl⟩
  clear H3 HF c5 f5
  generalize w3.setCell ⟨g, 5, none⟩ (.int .i64 (i : Int)) = w4 at *
  rw [HQQ.out] at H4 HNB
  go_loopg [] (row - i) (fun gk wx => ∃ (j r hg : Nat) (bv' : Value), j + gk = row - i ∧ r = i + j ∧ hg = q.high + j ∧ Hd (PtO B wx g (q.down i j) lv bv' L) ∧ Hd (Pf B g w wx))
  case atStart => exact ⟨0, i, q.high, bv3, by omega, by omega, by omega, ⟨by unfold Pt.down nextB; rw [List.append_nil]; exact H4.out⟩, HF4⟩
  case round =>
    clear H4 HF4 H
    obtain ⟨j, r, hg, bv', hk, hr, hhg, H1, HF⟩ := hrel
    have c5 : wr.cell? ⟨g, 5, none⟩ = some (.int .i64 (r : Int)) := by rw [hr]; exact H1.out.b.cell 5 rfl
    have y1 : (r : Int) ≤ 1000000 := by omega
    have y0 : (0 : Int) ≤ (r : Int) := Int.natCast_nonneg _
    cases gk with
    | zero =>
      have hlt : decide ((r : Int) < (row : Int)) = false := decide_eq_false (by omega)
      have hlt2 : decide (r < row) = false := decide_eq_false (by omega)
      have hlt3 : ¬ r < row := by omega
      have hj : j = row - i := by omega
      rw [hj] at H1
      clear hk hj hr hhg
      go_wp2
      go_end0
      exact ⟨rfl, bv', H1.out, HF.out⟩
    | succ d =>
      have hlt : decide ((r : Int) < (row : Int)) = true := decide_eq_true (by omega)
      have hlt2 : decide (r < row) = true := decide_eq_true (by omega)
      have hlt3 : (r : Int) < (row : Int) := by omega
      have hlt4 : r < row := by omega
      have X := Hd.mk (say1_calls H1.out ⟨#[13, 10]⟩ (Nat.le_trans HBS.out HF.out.size) (by have h1 := HNB.out.1; show (q.b ++ nextB j).length + 2 ≤ _; rw [List.length_append, nextB_len]; omega))
      have HQ := Hd.mk (And.intro hr (And.intro hhg hk))
      have hhg2 : (hg : Int) ≤ 3000000 := by have h1 := HNB.out.2; have h2 := HM.out; omega
      have hhg3 : (0 : Int) ≤ (hg : Int) := Int.natCast_nonneg _
      clear H1
      go_wp2_with fail
      go_at_call 21
      with_reducible refine X.out.mono ?_
      rintro _ w5 ⟨rfl, bv5, h5, f5⟩
      have HS := Hd.mk h5
      have HF2 := Hd.mk (HF.out.trans f5)
      have e4 : w5.cell? ⟨g, 4, none⟩ = some (.int .i64 (hg : Int)) := by rw [hhg]; exact h5.b.cell 4 rfl
      have f4 := h5.b.frozen 4
      have e5 : w5.cell? ⟨g, 5, none⟩ = some (.int .i64 (r : Int)) := by rw [hr]; exact h5.b.cell 5 rfl
      have f5 := h5.b.frozen 5
      clear h5 X HF c5 hr hhg hk
      go_wp2
      have H6 := Hd.mk (HS.out.high_ (hg + 1))
      have H7 := Hd.mk (H6.out.1.row_ (r + 1))
      have HE : Hd ({ ({ (q.down i j).say [13, 10] with high := hg + 1 } : Pt) with row := r + 1 } = q.down i (j + 1)) := ⟨by
        unfold Pt.down Pt.say
        rw [nextB_succ, List.append_assoc, HQ.out.1, HQ.out.2.1]
        rfl⟩
      have HH : Hd (PtO B ((w5.setCell ⟨g, 4, none⟩ (.int .i64 ((hg + 1 : Nat) : Int))).setCell ⟨g, 5, none⟩ (.int .i64 ((r + 1 : Nat) : Int))) g (q.down i (j + 1)) lv bv5 L) := ⟨HE.out ▸ H7.out.1⟩
      have HF3 := Hd.mk ((HF2.out.trans H6.out.2).trans H7.out.2)
      clear HS HF2 H6 H7 HE e4 f4 e5 f5
      go_roundg d
      case measure => omega
      case rel => exact ⟨j + 1, r + 1, hg + 1, bv5, by have := HQ.out.2.2; omega, by have := HQ.out.1; omega, by have := HQ.out.2.1; omega, HH, HF3⟩
end Go.Proofs.YtledplnlcjfafaaDoorL

