/- Parts of the proof of the law that the last file states; declarations that nothing mentions are left out by a program. No conditions. -/
import Derived.Test.YtledplnlcjfafaaDoorLLayW8q
import Derived.Test.YtledplnlcjfafaaDoorWEqStructq
set_option linter.unusedVariables false
set_option linter.unusedSimpArgs false
namespace Go.Proofs.YtledplnlcjfafaaDoorL
open Go Go.RowKit Go.Proofs.YtledplnlcjfafaaDoorW.PrintWords
def eqC (a b : TC) : Bool := a.S.toList == b.S.toList && ((a.wide : Int) == (b.wide : Int) && (a.dim == b.dim))
theorem eqC_iff (a b : TC) : eqC a b = true ↔ a = b := by
  unfold eqC
  rcases a with ⟨S, k, d⟩
  rcases b with ⟨S', k', d'⟩
  simp only [Bool.and_eq_true, beq_iff_eq, TC.mk.injEq, Lib.toList_data]
  constructor
  · rintro ⟨h1, h2, h3⟩
    refine ⟨?_, by omega, h3⟩
    rcases S with ⟨⟨S⟩⟩
    rcases S' with ⟨⟨S'⟩⟩
    have h4 : S = S' := h1
    rw [h4]
  · rintro ⟨rfl, rfl, rfl⟩
    exact ⟨rfl, rfl, rfl⟩
instance : DecidableEq TC := fun a b => decidable_of_iff (eqC a b = true) (eqC_iff a b)
instance : DecidableEq Fm := fun a b => decidable_of_iff (a.rows = b.rows ∧ a.row = b.row ∧ a.col = b.col) (by rcases a with ⟨_, _, _⟩; rcases b with ⟨_, _, _⟩; simp)
theorem eqC_decide (a b : TC) : eqC a b = decide (a = b) := by
  by_cases h : a = b
  · rw [decide_eq_true h, (eqC_iff a b).2 h]
  · rw [decide_eq_false h]
    cases he : eqC a b
    · rfl
    · exact absurd ((eqC_iff a b).1 he) h
theorem eqCell (d : Nat) (w : World) (a b : TC) : (Op.equalIn (d + 2) 42 (.agg #[.string a.S, .int .i64 (a.wide : Int), .bool a.dim]) (.agg #[.string b.S, .int .i64 (b.wide : Int), .bool b.dim])).run Tryd.prog w = .ok (decide (a = b)) w := by
  rw [← eqC_decide]
  refine eqA_of Tryd.underlying42 (by kernel_rfl) ?_
  refine eqf_cons (by rfl) (by go_simp; rfl) (by go_simp; rfl) (by go_simp) ?_
  refine eqf_cons (by rfl) (by go_simp; rfl) (by go_simp; rfl) (by go_simp) ?_
  exact eqf_last (by rfl) (by go_simp; rfl) (by go_simp; rfl) (by go_simp)
set_option maxRecDepth 100000 in
theorem same11_calls (a b : TC) (w : World) : Calls Tryd.prog 51 #[.agg #[.string a.S, .int .i64 (a.wide : Int), .bool a.dim], .agg #[.string b.S, .int .i64 (b.wide : Int), .bool b.dim]] w fun e w' => e = .returned (.bool (decide (a = b))) ∧ Below w.heap.size w w' := by
  have hE := fun d w => eqCell d w a b
  have hB : Below w.heap.size w ((w.alloc (.cells #[.string a.S, .int .i64 (a.wide : Int), .bool a.dim] 42)).alloc (.cells #[.string b.S, .int .i64 (b.wide : Int), .bool b.dim] 42)) := ((Below.refl _ w).alloc (Nat.le_refl _) _).alloc (by simp) _
  go_enter Tryd.func51, Tryd.ntmps51
  go_wp2
  go_ret
  exact ⟨rfl, hB⟩
set_option maxRecDepth 100000 in
set_option maxHeartbeats 4000000 in
theorem eqrow_calls {w : World} {r1 r2 : RR} {l1 l2 : List TC} (h1 : RowAt w r1 l1) (h2 : RowAt w r2 l2) (hl1 : l1.length ≤ 1000) (hl2 : l2.length ≤ 1000) :
    Calls Tryd.prog 50 #[r1.v, r2.v, .func (.func 51) #[] #[]] w fun e w' => e = .returned (.bool (decide (l1 = l2))) ∧ Below w.heap.size w w' := by
  have H1 := Hd.mk h1
  have H2 := Hd.mk h2
  have hn1 := h1.1
  have hn2 := h2.1
  unfold RR.v
  rw [hn1, hn2]
  clear h1 h2 hn1 hn2
  by_cases hlen : l1.length = l2.length
  · have q0 : ((l1.length : Int) == (l2.length : Int)) = true := by simp [hlen]
    have q1 : ((l1.length : Int) != (l2.length : Int)) = false := by simp [hlen]
    obtain ⟨n, hn⟩ : ∃ n, l1.length = n := ⟨_, rfl⟩
    have HN2 := Hd.mk (hlen.symm.trans hn)
    rw [hn, HN2.out] at q0 q1
    rw [hn, HN2.out]
    have HN1 := Hd.mk hn
    clear hlen
    go_enter Tryd.func50, Tryd.ntmps50
    go_wp2_with fail
    go_loopg [17] n (fun gk v17 wx => ∃ k : Nat, v17 = .int .i64 (k : Int) ∧ k + gk = n ∧ Hd (l1.take k = l2.take k) ∧ Hd (Below w.heap.size w wx))
    case atStart => exact ⟨0, rfl, by omega, ⟨by simp⟩, ⟨Below.refl _ _⟩⟩
    case round =>
      obtain ⟨k, rfl, hk, HT, HB⟩ := hrel
      cases gk with
      | zero =>
        have hlt : decide ((k : Int) < (n : Int)) = false := decide_eq_false (by omega)
        have hlt2 : decide (k < n) = false := decide_eq_false (by omega)
        have hlt3 : ¬ k < n := by omega
        have HE : Hd (l1 = l2) := ⟨by
          have h := HT.out
          rwa [List.take_of_length_le (by rw [HN1.out]; omega), List.take_of_length_le (by rw [HN2.out]; omega)] at h⟩
        clear hk hn
        go_wp2
        go_ret
        exact ⟨by rw [decide_eq_true HE.out]; rfl, HB.out⟩
      | succ d =>
        have hlt : decide ((k : Int) < (n : Int)) = true := decide_eq_true (by omega)
        have hlt2 : decide (k < n) = true := decide_eq_true (by omega)
        have hlt3 : (k : Int) < (n : Int) := by omega
        have hlt4 : k < n := by omega
        have hk0 : (0 : Int) ≤ (k : Int) := Int.natCast_nonneg _
        have hk1 : (k : Int) ≤ 1000 := by omega
        have hr1 := H1.out.to (HB.out.block _ H1.out.lt)
        have hr2 := H2.out.to (HB.out.block _ H2.out.lt)
        obtain ⟨a0, a1, a2⟩ := hr1.three (k := k) (by rw [hn]; omega)
        obtain ⟨b0, b1, b2⟩ := hr2.three (k := k) (by rw [HN2.out]; omega)
        have hg1 : l1[k]? = some (getC l1 k) := by rw [List.getElem?_eq_getElem (by rw [hn]; omega), getC_get (by rw [hn]; omega)]
        have hg2 : l2[k]? = some (getC l2 k) := by rw [List.getElem?_eq_getElem (by rw [HN2.out]; omega), getC_get (by rw [HN2.out]; omega)]
        have HG := Hd.mk (And.intro hg1 hg2)
        generalize getC l1 k = x at *
        generalize getC l2 k = y at *
        have XC := Hd.mk (fun w => same11_calls x y w)
        clear hr1 hr2 hg1 hg2
        have hrg1 : wr.rangeAt r1.g (k * 3) [.string x.S, .int .i64 (x.wide : Int), .bool x.dim] := fun j v hj => by
          match j, hj with
          | 0, hj => cases hj; exact a0
          | 1, hj => cases hj; exact a1
          | 2, hj => cases hj; exact a2
        have hrg2 : wr.rangeAt r2.g (k * 3) [.string y.S, .int .i64 (y.wide : Int), .bool y.dim] := fun j v hj => by
          match j, hj with
          | 0, hj => cases hj; exact b0
          | 1, hj => cases hj; exact b1
          | 2, hj => cases hj; exact b2
        by_cases hxy : x = y
        · rw [decide_eq_true hxy] at XC
          have HXY := Hd.mk hxy
          clear hxy
          go_wp2_with (first | ((with_reducible refine gate_dst (N := 21) rfl ?_); refine wpList_load_mid rfl 42 (.tmp 20) rfl r1.g (k * 3) (by first | rfl | (go_simp; done) | (go_simp; rfl)) [.string x.S, .int .i64 (x.wide : Int), .bool x.dim] _ hrg1 Tryd.underlying42 rfl infoCell ?_) | ((with_reducible refine gate_dst (N := 25) rfl ?_); refine wpList_load_mid rfl 42 (.tmp 24) rfl r2.g (k * 3) (by first | rfl | (go_simp; done) | (go_simp; rfl)) [.string y.S, .int .i64 (y.wide : Int), .bool y.dim] _ (World.rangeAt_alloc hrg2 _) Tryd.underlying42 rfl infoCell ?_))
          go_at_call 51
          have hB2 : Below w.heap.size w ((wr.alloc (.cells #[.string x.S, .int .i64 (x.wide : Int), .bool x.dim] 42)).alloc (.cells #[.string y.S, .int .i64 (y.wide : Int), .bool y.dim] 42)) := (HB.out.alloc HB.out.size _).alloc (by have := HB.out.size; simp; omega) _
          with_reducible refine (XC.out _).mono ?_
          rintro _ w2 ⟨rfl, hb⟩
          have HB2 := Hd.mk (hB2.trans (hb.mono hB2.size))
          clear hb hB2 XC hrg1 hrg2
          go_wp2
          go_roundg d
          case measure => omega
          case rel => exact ⟨k + 1, by simp, by omega, ⟨by rw [List.take_add_one, List.take_add_one, HT.out, HG.out.1, HG.out.2, HXY.out]⟩, HB2⟩
        · rw [decide_eq_false hxy] at XC
          have HXY := Hd.mk hxy
          clear hxy
          go_wp2_with (first | ((with_reducible refine gate_dst (N := 21) rfl ?_); refine wpList_load_mid rfl 42 (.tmp 20) rfl r1.g (k * 3) (by first | rfl | (go_simp; done) | (go_simp; rfl)) [.string x.S, .int .i64 (x.wide : Int), .bool x.dim] _ hrg1 Tryd.underlying42 rfl infoCell ?_) | ((with_reducible refine gate_dst (N := 25) rfl ?_); refine wpList_load_mid rfl 42 (.tmp 24) rfl r2.g (k * 3) (by first | rfl | (go_simp; done) | (go_simp; rfl)) [.string y.S, .int .i64 (y.wide : Int), .bool y.dim] _ (World.rangeAt_alloc hrg2 _) Tryd.underlying42 rfl infoCell ?_))
          go_at_call 51
          have hB2 : Below w.heap.size w ((wr.alloc (.cells #[.string x.S, .int .i64 (x.wide : Int), .bool x.dim] 42)).alloc (.cells #[.string y.S, .int .i64 (y.wide : Int), .bool y.dim] 42)) := (HB.out.alloc HB.out.size _).alloc (by have := HB.out.size; simp; omega) _
          with_reducible refine (XC.out _).mono ?_
          rintro _ w2 ⟨rfl, hb⟩
          have HB2 := Hd.mk (hB2.trans (hb.mono hB2.size))
          clear hb hB2 XC hrg1 hrg2
          go_wp2
          go_ret
          refine ⟨?_, HB2.out⟩
          rw [decide_eq_false (fun e => HXY.out (Option.some.inj (HG.out.1.symm.trans ((congrArg (·[k]?) e).trans HG.out.2))))]
          rfl
  · have q0 : ((l1.length : Int) == (l2.length : Int)) = false := by simp; omega
    have q1 : ((l1.length : Int) != (l2.length : Int)) = true := by simp; omega
    go_enter Tryd.func50, Tryd.ntmps50
    go_wp2
    go_ret
    exact ⟨by rw [decide_eq_false (fun e => hlen (by rw [e]))]; rfl, Below.refl _ _⟩
set_option maxRecDepth 100000 in
set_option maxHeartbeats 4000000 in
theorem s1_calls {w : World} {r1 r2 : RR} {l1 l2 : List TC} (h1 : RowAt w r1 l1) (h2 : RowAt w r2 l2) (hl1 : l1.length ≤ 1000) (hl2 : l2.length ≤ 1000) :
    Calls Tryd.prog 49 #[r1.v, r2.v] w fun e w' => e = .returned (.bool (decide (l1 = l2))) ∧ Below w.heap.size w w' := by
  have X := Hd.mk (eqrow_calls h1 h2 hl1 hl2)
  unfold RR.v at X
  unfold RR.v
  clear h1 h2
  go_enter Tryd.func49, Tryd.ntmps49
  go_wp2_with fail
  go_at_call 50
  with_reducible refine X.out.mono ?_
  rintro _ w2 ⟨rfl, hb⟩
  have HB := Hd.mk hb
  clear hb X
  go_wp2
  go_ret
  exact ⟨rfl, HB.out⟩
set_option maxRecDepth 100000 in
set_option maxHeartbeats 4000000 in
theorem eqrows_calls {w : World} {P1 P2 : Nat → Prop} {A1 A2 : Option Addr} {c1 c2 : Nat} {L1 L2 : List RR} {m1 m2 : List (List TC)} (h1 : RowsO P1 w (.slice A1 m1.length c1) L1 m1) (h2 : RowsO P2 w (.slice A2 m2.length c2) L2 m2) (hl1 : ∀ x ∈ m1, x.length ≤ 1000) (hl2 : ∀ x ∈ m2, x.length ≤ 1000) (hm1 : m1.length ≤ 1000) :
    Calls Tryd.prog 52 #[.slice A1 m1.length c1, .slice A2 m2.length c2, .func (.func 49) #[] #[]] w fun e w' => e = .returned (.bool (decide (m1 = m2))) ∧ Below w.heap.size w w' := by
  have H1 := Hd.mk h1
  have H2 := Hd.mk h2
  have HL := Hd.mk (And.intro hl1 hl2)
  clear h1 h2 hl1 hl2
  by_cases hlen : m1.length = m2.length
  · have q0 : ((m1.length : Int) == (m2.length : Int)) = true := by simp [hlen]
    have q1 : ((m1.length : Int) != (m2.length : Int)) = false := by simp [hlen]
    obtain ⟨n, hn⟩ : ∃ n, m1.length = n := ⟨_, rfl⟩
    have HN2 := Hd.mk (hlen.symm.trans hn)
    rw [hn, HN2.out] at q0 q1
    rw [hn] at H1
    rw [HN2.out] at H2
    rw [hn, HN2.out]
    have HN1 := Hd.mk hn
    clear hlen
    go_enter Tryd.func52, Tryd.ntmps52
    go_wp2_with fail
    go_loopg [17] n (fun gk v17 wx => ∃ k : Nat, v17 = .int .i64 (k : Int) ∧ k + gk = n ∧ Hd (m1.take k = m2.take k) ∧ Hd (Below w.heap.size w wx))
    case atStart => exact ⟨0, rfl, by omega, ⟨by simp⟩, ⟨Below.refl _ _⟩⟩
    case round =>
      obtain ⟨k, rfl, hk, HT, HB⟩ := hrel
      cases gk with
      | zero =>
        have hlt : decide ((k : Int) < (n : Int)) = false := decide_eq_false (by omega)
        have hlt2 : decide (k < n) = false := decide_eq_false (by omega)
        have hlt3 : ¬ k < n := by omega
        have HE : Hd (m1 = m2) := ⟨by
          have h := HT.out
          rwa [List.take_of_length_le (by rw [HN1.out]; omega), List.take_of_length_le (by rw [HN2.out]; omega)] at h⟩
        clear hk hn
        go_wp2
        go_ret
        exact ⟨by rw [decide_eq_true HE.out]; rfl, HB.out⟩
      | succ d =>
        have hlt : decide ((k : Int) < (n : Int)) = true := decide_eq_true (by omega)
        have hlt2 : decide (k < n) = true := decide_eq_true (by omega)
        have hlt3 : (k : Int) < (n : Int) := by omega
        have hlt4 : k < n := by omega
        have hk0 : (0 : Int) ≤ (k : Int) := Int.natCast_nonneg _
        have hk1 : (k : Int) ≤ 1000 := by omega
        have k1 : k < m1.length := by omega
        have k2 : k < m2.length := by rw [HN2.out]; omega
        obtain ⟨x1, ad1, r1, e1, ha1, hr1, _⟩ := (H1.out.below HB.out).look k1
        obtain ⟨x2, ad2, r2, e2, ha2, hr2, _⟩ := (H2.out.below HB.out).look k2
        rw [hn] at e1
        rw [HN2.out] at e2
        cases e1
        cases e2
        have XC := Hd.mk (fun w1 (hb : Below wr.heap.size wr w1) => s1_calls (hr1.to (hb.block _ hr1.lt)) (hr2.to (hb.block _ hr2.lt)) (HL.out.1 _ (List.getElem_mem k1)) (HL.out.2 _ (List.getElem_mem k2)))
        have HG : Hd (m1[k]? = some m1[k] ∧ m2[k]? = some m2[k]) := ⟨⟨List.getElem?_eq_getElem k1, List.getElem?_eq_getElem k2⟩⟩
        generalize m1[k] = x at *
        generalize m2[k] = y at *
        unfold RR.v at ha1 ha2 XC
        clear hr1 hr2
        by_cases hxy : x = y
        · rw [decide_eq_true hxy] at XC
          have HXY := Hd.mk hxy
          clear hxy
          go_wp2_with fail
          go_at_call 49
          with_reducible refine (XC.out _ (Below.refl _ _)).mono ?_
          rintro _ w2 ⟨rfl, hb⟩
          have HB2 := Hd.mk (HB.out.trans (hb.mono HB.out.size))
          clear hb XC ha1 ha2
          go_wp2
          go_roundg d
          case measure => omega
          case rel => exact ⟨k + 1, by simp, by omega, ⟨by rw [List.take_add_one, List.take_add_one, HT.out, HG.out.1, HG.out.2, HXY.out]⟩, HB2⟩
        · rw [decide_eq_false hxy] at XC
          have HXY := Hd.mk hxy
          clear hxy
          go_wp2_with fail
          go_at_call 49
          with_reducible refine (XC.out _ (Below.refl _ _)).mono ?_
          rintro _ w2 ⟨rfl, hb⟩
          have HB2 := Hd.mk (HB.out.trans (hb.mono HB.out.size))
          clear hb XC ha1 ha2
          go_wp2
          go_ret
          refine ⟨?_, HB2.out⟩
          rw [decide_eq_false (fun e => HXY.out (Option.some.inj (HG.out.1.symm.trans ((congrArg (·[k]?) e).trans HG.out.2))))]
          rfl
  · have q0 : ((m1.length : Int) == (m2.length : Int)) = false := by simp; omega
    have q1 : ((m1.length : Int) != (m2.length : Int)) = true := by simp; omega
    go_enter Tryd.func52, Tryd.ntmps52
    go_wp2
    go_ret
    exact ⟨by rw [decide_eq_false (fun e => hlen (by rw [e]))]; rfl, Below.refl _ _⟩
set_option maxRecDepth 100000 in
set_option maxHeartbeats 4000000 in
theorem fsame_calls {w : World} {P1 P2 : Nat → Prop} {lv1 lv2 : Value} {L1 L2 : List RR} {f1 f2 : Fm} (h1 : RowsO P1 w lv1 L1 f1.rows) (h2 : RowsO P2 w lv2 L2 f2.rows) (hl1 : ∀ x ∈ f1.rows, x.length ≤ 1000) (hl2 : ∀ x ∈ f2.rows, x.length ≤ 1000) (hm1 : f1.rows.length ≤ 1000) :
    Calls Tryd.prog 33 #[.agg #[lv1, .int .i64 (f1.row : Int), .int .i64 (f1.col : Int)], .agg #[lv2, .int .i64 (f2.row : Int), .int .i64 (f2.col : Int)]] w fun e w' => e = .returned (.bool (decide (f1 = f2))) ∧ Below w.heap.size w w' := by
  have e1 := h1.len
  have e2 := h2.len
  obtain ⟨A1, c1, rfl, _⟩ := Kd.Q_slice h1.q
  obtain ⟨A2, c2, rfl, _⟩ := Kd.Q_slice h2.q
  rw [e1] at h1
  rw [e2] at h2
  rw [e1, e2]
  clear e1 e2
  have X := Hd.mk (fun w1 (hb : Below w.heap.size w w1) => eqrows_calls (h1.below hb) (h2.below hb) hl1 hl2 hm1)
  clear h1 h2 hl1 hl2
  have HD : Hd (decide (f1 = f2) = (decide (f1.row = f2.row) && decide (f1.col = f2.col) && decide (f1.rows = f2.rows))) := ⟨by
    rcases f1 with ⟨a, b, c⟩
    rcases f2 with ⟨a', b', c'⟩
    simp only [Fm.mk.injEq]
    by_cases ha : a = a' <;> by_cases hb : b = b' <;> by_cases hc : c = c' <;> simp [ha, hb, hc]⟩
  rw [HD.out]
  have HB : Hd (Below w.heap.size w ((w.alloc (.cells #[.slice A1 f1.rows.length c1, .int .i64 (f1.row : Int), .int .i64 (f1.col : Int)] 38)).alloc (.cells #[.slice A2 f2.rows.length c2, .int .i64 (f2.row : Int), .int .i64 (f2.col : Int)] 38))) := ⟨((Below.refl _ w).alloc (Nat.le_refl _) _).alloc (by simp) _⟩
  by_cases ha : f1.row = f2.row
  · have qa : ((f1.row : Int) == (f2.row : Int)) = true := by simp [ha]
    by_cases hb : f1.col = f2.col
    · have qb : ((f1.col : Int) == (f2.col : Int)) = true := by simp [hb]
      rw [decide_eq_true ha, decide_eq_true hb, Bool.true_and, Bool.true_and]
      clear ha hb
      go_enter Tryd.func33, Tryd.ntmps33
      go_wp2_with fail
      go_at_call 52
      with_reducible refine (X.out _ HB.out).mono ?_
      rintro _ w2 ⟨rfl, hb⟩
      have HB2 := Hd.mk (HB.out.trans (hb.mono HB.out.size))
      clear hb X
      go_wp2
      go_ret
      exact ⟨rfl, HB2.out⟩
    · have qb : ((f1.col : Int) == (f2.col : Int)) = false := by simp; omega
      rw [decide_eq_true ha, decide_eq_false hb, Bool.true_and, Bool.false_and]
      clear ha hb
      go_enter Tryd.func33, Tryd.ntmps33
      go_wp2
      go_ret
      exact ⟨rfl, HB.out⟩
  · have qa : ((f1.row : Int) == (f2.row : Int)) = false := by simp; omega
    rw [decide_eq_false ha, Bool.false_and, Bool.false_and]
    clear ha
    go_enter Tryd.func33, Tryd.ntmps33
    go_wp2
    go_ret
    exact ⟨rfl, HB.out⟩
end Go.Proofs.YtledplnlcjfafaaDoorL

