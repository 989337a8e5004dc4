/- Parts of the proof of the law that the last file states; declarations that nothing mentions are left out by a program. No conditions. -/
import Derived.Test.YtledplnlcjfafaaDoorLLayW9q
set_option linter.unusedVariables false
set_option linter.unusedSimpArgs false
namespace Go.Proofs.YtledplnlcjfafaaDoorL
open Go Go.RowKit Go.Proofs.YtledplnlcjfafaaDoorW.PrintWords
def SlV (w : World) (v : Value) (l : List TC) : Prop :=
  ∃ A c, v = .slice A l.length c ∧ l.length ≤ c ∧ (l ≠ [] → ∃ g i, A = some ⟨g, i, none⟩ ∧ g < w.heap.size ∧ (∃ cs, Blk w g 42 cs) ∧ ∀ k, k < l.length → w.rangeAt g (i + k * 3) [.string (getC l k).S, .int .i64 ((getC l k).wide : Int), .bool (getC l k).dim])
theorem range_to {w w' : World} {g o : Nat} {cs : List Value} (h : w'.heap[g]? = w.heap[g]?) (hr : w.rangeAt g o cs) : w'.rangeAt g o cs := fun j v hj => by
  have h1 := hr j v hj
  unfold World.cell? at h1 ⊢
  dsimp only at h1 ⊢
  rw [h]
  exact h1
theorem SlV.to {w w' : World} {v : Value} {l : List TC} (h : SlV w v l) (hs : w.heap.size ≤ w'.heap.size) (hm : ∀ g, v.ownBlock = some g → w'.heap[g]? = w.heap[g]?) : SlV w' v l := by
  obtain ⟨A, c, rfl, hc, h⟩ := h
  refine ⟨A, c, rfl, hc, fun hl => ?_⟩
  obtain ⟨g, i, rfl, hg, ⟨cs, hcs⟩, hr⟩ := h hl
  exact ⟨g, i, rfl, by omega, ⟨cs, hcs.to (hm g rfl)⟩, fun k hk => range_to (hm g rfl) (hr k hk)⟩
theorem SlV.below {w w' : World} {v : Value} {l : List TC} (h : SlV w v l) (hb : Below w.heap.size w w') : SlV w' v l := by
  obtain ⟨A, c, rfl, hc, h⟩ := h
  refine ⟨A, c, rfl, hc, fun hl => ?_⟩
  obtain ⟨g, i, rfl, hg, ⟨cs, hcs⟩, hr⟩ := h hl
  exact ⟨g, i, rfl, by have := hb.size; omega, ⟨cs, hcs.to (hb.block g hg)⟩, fun k hk => range_to (hb.block g hg) (hr k hk)⟩
theorem SlV.nil (w : World) : SlV w (.slice none 0 0) [] := ⟨none, 0, rfl, Nat.le_refl _, fun h => absurd rfl h⟩
theorem RowAt.sl {w : World} {r : RR} {l : List TC} (h : RowAt w r l) : SlV w r.v l := by
  have hn := h.1
  refine ⟨some ⟨r.g, 0, none⟩, r.c, by unfold RR.v; rw [hn], by have := h.2.1; omega, fun _ => ⟨r.g, 0, rfl, h.lt, (by obtain ⟨_, _, _, cur, hcur, _⟩ := h; exact ⟨cur, hcur⟩), fun k hk => ?_⟩⟩
  obtain ⟨a0, a1, a2⟩ := h.three hk
  intro j v hj
  rw [Nat.zero_add]
  match j, hj with
  | 0, hj => cases hj; exact a0
  | 1, hj => cases hj; exact a1
  | 2, hj => cases hj; exact a2
theorem blank3_calls (w : World) : Calls Tryd.prog 41 #[] w fun e w' => e = .returned (.agg #[.string ⟨#[32]⟩, .int .i64 1, .bool false]) ∧ Below w.heap.size w w' := blankc_calls w
theorem getC_out {l : List TC} {k : Nat} (h : l.length ≤ k) : getC l k = ⟨⟨#[32]⟩, 1, false⟩ := by
  unfold getC
  rw [List.getD_eq_getElem?_getD, List.getElem?_eq_none h]
  rfl
set_option maxRecDepth 100000 in
set_option maxHeartbeats 4000000 in
theorem pcell_calls {w : World} {v : Value} {l : List TC} (h : SlV w v l) (hl : l.length ≤ 1000) (k : Nat) (hk : k ≤ 1000) :
    Calls Tryd.prog 53 #[v, .int .i64 (k : Int)] w fun e w' => e = .returned (.agg #[.string (getC l k).S, .int .i64 ((getC l k).wide : Int), .bool (getC l k).dim]) ∧ Below w.heap.size w w' := by
  obtain ⟨A, c, rfl, hc, h⟩ := h
  have E0 := Blk.new w 42 #[.string ⟨#[]⟩, .int .i64 0, .bool false]
  have hB := (Below.refl w.heap.size w).alloc (Nat.le_refl _) (.cells #[.string ⟨#[]⟩, .int .i64 0, .bool false] 42)
  by_cases hlt : k < l.length
  · obtain ⟨g, i, rfl, hg, _, hr⟩ := h (by intro e; rw [e] at hlt; cases hlt)
    replace hr := hr k hlt
    have p0 : decide ((l.length : Int) ≤ (k : Int)) = false := decide_eq_false (by omega)
    have p1 : decide (l.length ≤ k) = false := decide_eq_false (by omega)
    have p2 : ¬ (l.length : Int) ≤ (k : Int) := by omega
    have p3 : (k : Int) < (l.length : Int) := by omega
    have hk0 : (0 : Int) ≤ (k : Int) := Int.natCast_nonneg _
    have hk1 : (k : Int) ≤ 1000 := by omega
    generalize getC l k = x at *
    have HE := Hd.mk (And.intro E0 hB)
    have HR := Hd.mk hr
    clear E0 hB h
    go_enter Tryd.func53, Tryd.ntmps53
    go_wp2_with (first | ((with_reducible refine gate_dst (N := 13) rfl ?_); refine wpList_load_mid rfl 42 (.tmp 12) rfl g (i + k * 3) (by first | rfl | (go_simp; done) | (go_simp; rfl)) [.string x.S, .int .i64 (x.wide : Int), .bool x.dim] _ (World.rangeAt_alloc hr _) Tryd.underlying42 rfl infoCell ?_) | ((with_reducible refine gate_store (t := 42) (p := 4) rfl ?_); refine store_event rfl rfl (g := w.heap.size) (cells := #[.string x.S, .int .i64 (x.wide : Int), .bool x.dim]) (by first | rfl | (go_simp; done) | (go_simp; rfl)) (by first | rfl | (go_simp; done) | (go_simp; rfl)) HE.out.1 infoCell rfl (by simp [Value.oneCell']) ?_; intro ws hx hk2 hz hb))
    exact ret_row (cs := #[.string x.S, .int .i64 (x.wide : Int), .bool x.dim]) rfl rfl Tryd.underlying42 infoCell rfl hx rfl ⟨rfl, hb HE.out.2 (Nat.le_refl _)⟩
  · have p0 : decide ((l.length : Int) ≤ (k : Int)) = true := decide_eq_true (by omega)
    have p1 : decide (l.length ≤ k) = true := decide_eq_true (by omega)
    have p2 : (l.length : Int) ≤ (k : Int) := by omega
    have p3 : l.length ≤ k := by omega
    rw [getC_out (by omega)]
    have HE := Hd.mk (And.intro E0 hB)
    clear E0 hB h
    go_enter Tryd.func53, Tryd.ntmps53
    go_wp2_with fail
    go_at_call 41
    with_reducible refine (blank3_calls _).mono ?_
    rintro _ w2 ⟨rfl, hb⟩
    have HE2 := Hd.mk (And.intro (HE.out.1.belowB hb HE.out.1.lt) (HE.out.2.trans (hb.mono HE.out.2.size)))
    clear hb HE
    go_wp2_with ((with_reducible refine gate_store (t := 42) (p := 4) rfl ?_); refine store_event rfl rfl (g := w.heap.size) (cells := #[.string ⟨#[32]⟩, .int .i64 1, .bool false]) (by first | rfl | (go_simp; done) | (go_simp; rfl)) (by first | rfl | (go_simp; done) | (go_simp; rfl)) HE2.out.1 infoCell rfl (by simp [Value.oneCell']) ?_; intro ws hx hk2 hz hb)
    exact ret_row (cs := #[.string ⟨#[32]⟩, .int .i64 1, .bool false]) rfl rfl Tryd.underlying42 infoCell rfl hx rfl ⟨rfl, hb HE2.out.2 (Nat.le_refl _)⟩
def diffG (a b : List TC) : Nat → Nat → Int
  | 0, _ => -1
  | d + 1, k => if getC a k = getC b k then diffG a b d (k + 1) else if (getC a k).wide = 0 ∨ (getC b k).wide = 0 then (k : Int) - 1 else k
def differP (a b : List TC) : Int := diffG a b (max a.length b.length) 0
set_option maxRecDepth 100000 in
set_option maxHeartbeats 4000000 in
theorem pdiff_calls {w : World} {va vb : Value} {a b : List TC} (h1 : SlV w va a) (h2 : SlV w vb b) (hl1 : a.length ≤ 1000) (hl2 : b.length ≤ 1000) :
    Calls Tryd.prog 35 #[va, vb] w fun e w' => e = .returned (.int .i64 (differP a b)) ∧ Below w.heap.size w w' := by
  have H1 := Hd.mk h1
  have H2 := Hd.mk h2
  have e1 : ∃ A c, va = .slice A a.length c := by obtain ⟨A, c, e, _⟩ := h1; exact ⟨A, c, e⟩
  have e2 : ∃ A c, vb = .slice A b.length c := by obtain ⟨A, c, e, _⟩ := h2; exact ⟨A, c, e⟩
  obtain ⟨A1, c1, rfl⟩ := e1
  obtain ⟨A2, c2, rfl⟩ := e2
  clear h1 h2
  unfold differP
  obtain ⟨n, hn⟩ : ∃ n, max a.length b.length = n := ⟨_, rfl⟩
  have hmx : max (a.length : Int) (b.length : Int) = (n : Int) := by omega
  have hmx1 : (if (a.length : Int) < (b.length : Int) then (b.length : Int) else (a.length : Int)) = (n : Int) := by split <;> omega
  have hmx2 : (if (a.length : Int) ≤ (b.length : Int) then (b.length : Int) else (a.length : Int)) = (n : Int) := by split <;> omega
  have hn1 : n ≤ 1000 := by omega
  rw [hn]
  clear hn
  have HL := Hd.mk (And.intro hl1 hl2)
  go_enter Tryd.func35, Tryd.ntmps35
  go_wp2_with fail
  go_loopg [13] n (fun gk v13 wx => ∃ k : Nat, v13 = .int .i64 (k : Int) ∧ k + gk = n ∧ Hd (diffG a b gk k = diffG a b n 0) ∧ Hd (Below w.heap.size w wx))
  case atStart => exact ⟨0, rfl, by omega, ⟨rfl⟩, ⟨Below.refl _ _⟩⟩
  case round =>
    obtain ⟨k, rfl, hk, HT, HB⟩ := hrel
    cases gk with
    | zero =>
      have hlt : decide ((k : Int) < (n : Int)) = false := decide_eq_false (by omega)
      have hlt2 : decide (k < n) = false := decide_eq_false (by omega)
      have hlt3 : ¬ k < n := by omega
      clear hk
      go_wp2
      go_ret
      exact ⟨by rw [← HT.out]; rfl, HB.out⟩
    | succ d =>
      have hlt : decide ((k : Int) < (n : Int)) = true := decide_eq_true (by omega)
      have hlt2 : decide (k < n) = true := decide_eq_true (by omega)
      have hlt3 : (k : Int) < (n : Int) := by omega
      have hlt4 : k < n := by omega
      have hk0 : (0 : Int) ≤ (k : Int) := Int.natCast_nonneg _
      have hk1 : (k : Int) ≤ 1000 := by omega
      have X1 := Hd.mk (pcell_calls (H1.out.below HB.out) HL.out.1 k (by omega))
      have X2 := Hd.mk (fun w2 (hb : Below wr.heap.size wr w2) => pcell_calls ((H2.out.below HB.out).below hb) HL.out.2 k (by omega))
      have HD : Hd (diffG a b (d + 1) k = if getC a k = getC b k then diffG a b d (k + 1) else if (getC a k).wide = 0 ∨ (getC b k).wide = 0 then (k : Int) - 1 else k) := ⟨rfl⟩
      generalize getC a k = x at *
      generalize getC b k = y at *
      go_wp2_with fail
      go_at_call 53
      with_reducible refine X1.out.mono ?_
      rintro _ w2 ⟨rfl, hb1⟩
      have HB1 := Hd.mk hb1
      clear hb1 X1
      go_wp2_with fail
      go_at_call 53
      with_reducible refine (X2.out _ HB1.out).mono ?_
      rintro _ w3 ⟨rfl, hb1⟩
      have HB2 := Hd.mk (HB.out.trans ((HB1.out.trans (hb1.mono HB1.out.size)).mono HB.out.size))
      clear hb1 X2 HB1 HB
      have S0 := (Blk.new w3 42 #[.string ⟨#[]⟩, .int .i64 0, .bool false]).alloc (.cells #[.string ⟨#[]⟩, .int .i64 0, .bool false] 42)
      have S1 := Blk.new (w3.alloc (.cells #[.string ⟨#[]⟩, .int .i64 0, .bool false] 42)) 42 #[.string ⟨#[]⟩, .int .i64 0, .bool false]
      rw [World.size_alloc] at S1
      have SB := Hd.mk ((HB2.out.alloc HB2.out.size (.cells #[.string ⟨#[]⟩, .int .i64 0, .bool false] 42)).alloc (by have := HB2.out.size; simp; omega) (.cells #[.string ⟨#[]⟩, .int .i64 0, .bool false] 42))
      have hw3 := HB2.out.size
      have hE := fun d w => eqCell d w x y
      clear S0 S1
      by_cases hxy : x = y
      · have HD2 : Hd (diffG a b d (k + 1) = diffG a b n 0) := ⟨by rw [← HT.out, HD.out, if_pos hxy]⟩
        rw [decide_eq_true hxy] at hE
        clear hxy HD HT
        go_wp2
        go_roundg d
        case measure => omega
        case rel => exact ⟨k + 1, by simp, by omega, HD2, ⟨(HB2.out.alloc HB2.out.size _).alloc (by simp; omega) _⟩⟩
      · rw [decide_eq_false hxy] at hE
        by_cases hx0 : x.wide = 0
        · have q0 : ((x.wide : Int) == 0) = true := by simp [hx0]
          have HD2 : Hd (diffG a b n 0 = (k : Int) - 1) := ⟨by rw [← HT.out, HD.out, if_neg hxy, if_pos (.inl hx0)]⟩
          clear hxy HD HT hx0
          go_wp2
          go_ret
          exact ⟨by rw [HD2.out]; first | rfl | (go_simp; done) | (go_simp; rfl), (HB2.out.alloc HB2.out.size _).alloc (by simp; omega) _⟩
        · have q0 : ((x.wide : Int) == 0) = false := by simp; omega
          by_cases hy0 : y.wide = 0
          · have q1 : ((y.wide : Int) == 0) = true := by simp [hy0]
            have HD2 : Hd (diffG a b n 0 = (k : Int) - 1) := ⟨by rw [← HT.out, HD.out, if_neg hxy, if_pos (.inr hy0)]⟩
            clear hxy HD HT hx0 hy0
            go_wp2
            go_ret
            exact ⟨by rw [HD2.out]; first | rfl | (go_simp; done) | (go_simp; rfl), (HB2.out.alloc HB2.out.size _).alloc (by simp; omega) _⟩
          · have q1 : ((y.wide : Int) == 0) = false := by simp; omega
            have HD2 : Hd (diffG a b n 0 = (k : Int)) := ⟨by rw [← HT.out, HD.out, if_neg hxy, if_neg (by rintro (h | h); exact hx0 h; exact hy0 h)]⟩
            clear hxy HD HT hx0 hy0
            go_wp2
            go_ret
            exact ⟨by rw [HD2.out]; first | rfl | (go_simp; done) | (go_simp; rfl), (HB2.out.alloc HB2.out.size _).alloc (by simp; omega) _⟩
def RowV (P : Nat → Prop) (w : World) (v : Value) (l : List TC) : Prop := (v = .slice none 0 0 ∧ l = []) ∨ ∃ r : RR, v = r.v ∧ RowAt w r l ∧ P r.g
theorem RowV.sl {P : Nat → Prop} {w : World} {v : Value} {l : List TC} (h : RowV P w v l) : SlV w v l := by
  rcases h with ⟨rfl, rfl⟩ | ⟨r, rfl, h, _⟩
  · exact SlV.nil w
  · exact h.sl
theorem RowV.move {P : Nat → Prop} {w w' : World} {v : Value} {l : List TC} (h : RowV P w v l) (hm : ∀ k, P k → k < w.heap.size → w'.heap[k]? = w.heap[k]?) : RowV P w' v l := by
  rcases h with ⟨rfl, rfl⟩ | ⟨r, rfl, h, hp⟩
  · exact .inl ⟨rfl, rfl⟩
  · exact .inr ⟨r, rfl, h.to (hm r.g hp h.lt), hp⟩
theorem RowV.below {P : Nat → Prop} {w w' : World} {v : Value} {l : List TC} (h : RowV P w v l) (hb : Below w.heap.size w w') : RowV P w' v l := h.move (fun k _ hk => hb.block k hk)
def rowOf (m : List (List TC)) (k : Nat) : List TC := m.getD k []
theorem rowOf_get {m : List (List TC)} {k : Nat} (h : k < m.length) : rowOf m k = m[k] := by
  unfold rowOf
  rw [List.getD_eq_getElem?_getD, List.getElem?_eq_getElem h]
  rfl
theorem rowOf_out {m : List (List TC)} {k : Nat} (h : m.length ≤ k) : rowOf m k = [] := by
  unfold rowOf
  rw [List.getD_eq_getElem?_getD, List.getElem?_eq_none h]
  rfl
set_option maxRecDepth 100000 in
set_option maxHeartbeats 4000000 in
theorem pat_calls {P : Nat → Prop} {w : World} {lv : Value} {L : List RR} {m : List (List TC)} (h : RowsO P w lv L m) (row col : Nat) (k : Nat) (hm : m.length ≤ 1000) (hk : k ≤ 1000) :
    Calls Tryd.prog 34 #[.agg #[lv, .int .i64 (row : Int), .int .i64 (col : Int)], .int .i64 (k : Int)] w fun e w' => ∃ v, e = .returned v ∧ RowV P w' v (rowOf m k) ∧ Below w.heap.size w w' := by
  have hlen := h.len
  obtain ⟨A, c, rfl, _⟩ := Kd.Q_slice h.q
  rw [hlen] at h
  rw [hlen]
  clear hlen
  have hB := Hd.mk ((Below.refl w.heap.size w).alloc (Nat.le_refl _) (.cells #[.slice A m.length c, .int .i64 (row : Int), .int .i64 (col : Int)] 38))
  have c0 : (w.alloc (.cells #[.slice A m.length c, .int .i64 (row : Int), .int .i64 (col : Int)] 38)).cell? ⟨w.heap.size, 0, none⟩ = some (.slice A m.length c) := (Blk.new w 38 #[.slice A m.length c, .int .i64 (row : Int), .int .i64 (col : Int)]).cell 0 rfl
  by_cases hlt : k < m.length
  · obtain ⟨c', ad, r, e, hcell, hrow, hrp, hLi, _⟩ := h.look hlt
    cases e
    rw [rowOf_get hlt]
    have HR := Hd.mk hrow
    generalize m[k] = lk at *
    have p0 : decide ((m.length : Int) ≤ (k : Int)) = false := decide_eq_false (by omega)
    have p1 : decide (m.length ≤ k) = false := decide_eq_false (by omega)
    have p2 : ¬ (m.length : Int) ≤ (k : Int) := by omega
    have p3 : (k : Int) < (m.length : Int) := by omega
    have hk0 : (0 : Int) ≤ (k : Int) := Int.natCast_nonneg _
    have hk1 : (k : Int) ≤ 1000 := by omega
    have hc1 := Lib.cell?_alloc_some (.cells #[.slice (some ad) m.length c, .int .i64 (row : Int), .int .i64 (col : Int)] 38) hcell
    clear hrow h hLi
    go_enter Tryd.func34, Tryd.ntmps34
    go_wp2
    go_ret
    exact ⟨r.v, rfl, .inr ⟨r, rfl, HR.out.to (hB.out.block _ HR.out.lt), hrp⟩, hB.out⟩
  · have p0 : decide ((m.length : Int) ≤ (k : Int)) = true := decide_eq_true (by omega)
    have p1 : decide (m.length ≤ k) = true := decide_eq_true (by omega)
    have p2 : (m.length : Int) ≤ (k : Int) := by omega
    have p3 : m.length ≤ k := by omega
    rw [rowOf_out p3]
    go_enter Tryd.func34, Tryd.ntmps34
    go_wp2
    go_ret
    exact ⟨_, rfl, .inl ⟨rfl, rfl⟩, hB.out⟩
def endP (l : List TC) : Nat → Nat
  | 0 => 0
  | n + 1 => if getC l n = blankC then endP l n else n + 1
theorem endP_le (l : List TC) : ∀ n, endP l n ≤ n
  | 0 => Nat.le_refl _
  | n + 1 => by unfold endP; split; have := endP_le l n; omega; exact Nat.le_refl _
set_option maxRecDepth 100000 in
set_option maxHeartbeats 4000000 in
theorem pend_calls {w : World} {v : Value} {l : List TC} (h : SlV w v l) (hl : l.length ≤ 1000) :
    Calls Tryd.prog 54 #[v] w fun e w' => e = .returned (.int .i64 (endP l l.length : Int)) ∧ Below w.heap.size w w' := by
  have H := Hd.mk h
  obtain ⟨A, c, rfl, hc, _⟩ := h
  go_enter Tryd.func54, Tryd.ntmps54
  go_wp2_with fail
  go_loopg [3] l.length (fun gk v3 wx => v3 = .int .i64 (gk : Int) ∧ gk ≤ l.length ∧ Hd (endP l gk = endP l l.length) ∧ Hd (Below w.heap.size w wx))
  case atStart => exact ⟨rfl, Nat.le_refl _, ⟨rfl⟩, ⟨Below.refl _ _⟩⟩
  case round =>
    obtain ⟨rfl, hk, HT, HB⟩ := hrel
    cases gk with
    | zero =>
      go_upto_region 2 with fail
      rename_i KQ hKQ
      refine regionH (fun w' : World => Below w.heap.size w w') (by kernel_rfl) (fun wd hb => ?_)
      have hHd : (fun w' : World => Below w.heap.size w w') wd := HB.out.trans (hb.mono HB.out.size)
      clear hb HB
      refine takeH (i := 0) (v := ?v1) rfl (by kernel_rfl) (by kernel_rfl) (by kernel_rfl) (fun _ _ _ h => h) (Or.inl ⟨by rfl, ?hy1⟩) (by assumption) ?rest1
      case hy1 => (intro w hSw; (try dsimp only at hSw); go_simp; try (with_reducible rfl))
      case rest1 =>
      try simp only [Act.put, List.setIfInBounds_toArray, List.set_cons_zero, List.set_cons_succ]
      refine takeH (i := 1) (v := ?v2) rfl (by kernel_rfl) (by kernel_rfl) (by kernel_rfl) (fun _ _ _ h => h) (Or.inl ⟨by rfl, ?hy2⟩) (by assumption) ?rest2
      case hy2 => (intro w hSw; (try dsimp only at hSw); go_simp; try (with_reducible rfl))
      case rest2 =>
      try simp only [Act.put, List.setIfInBounds_toArray, List.set_cons_zero, List.set_cons_succ]
      refine takeH (i := 2) (v := ?v3) rfl (by kernel_rfl) (by kernel_rfl) (by kernel_rfl) (fun _ _ _ h => h) (Or.inl ⟨by rfl, ?hy3⟩) (by assumption) ?rest3
      case hy3 => (intro w hSw; (try dsimp only at hSw); go_simp; try (with_reducible rfl))
      case rest3 =>
      try simp only [Act.put, List.setIfInBounds_toArray, List.set_cons_zero, List.set_cons_succ]
      refine takeH (i := 3) (v := undef) rfl (by kernel_rfl) (by kernel_rfl) (by kernel_rfl) (fun _ _ _ h => h) (Or.inr ⟨by rfl, by rfl⟩) (by assumption) ?rest4
      case rest4 =>
      try simp only [Act.put, List.setIfInBounds_toArray, List.set_cons_zero, List.set_cons_succ]
      refine takeH (i := 4) (v := undef) rfl (by kernel_rfl) (by kernel_rfl) (by kernel_rfl) (fun _ _ _ h => h) (Or.inr ⟨by rfl, by rfl⟩) (by assumption) ?rest5
      case rest5 =>
      try simp only [Act.put, List.setIfInBounds_toArray, List.set_cons_zero, List.set_cons_succ]
      refine takeH (i := 5) (v := undef) rfl (by kernel_rfl) (by kernel_rfl) (by kernel_rfl) (fun _ _ _ h => h) (Or.inr ⟨by rfl, by rfl⟩) (by assumption) ?rest6
      case rest6 =>
      try simp only [Act.put, List.setIfInBounds_toArray, List.set_cons_zero, List.set_cons_succ]
      refine takeH (i := 6) (v := undef) rfl (by kernel_rfl) (by kernel_rfl) (by kernel_rfl) (fun _ _ _ h => h) (Or.inr ⟨by rfl, by rfl⟩) (by assumption) ?rest7
      case rest7 =>
      try simp only [Act.put, List.setIfInBounds_toArray, List.set_cons_zero, List.set_cons_succ]
      refine takeH (i := 7) (v := undef) rfl (by kernel_rfl) (by kernel_rfl) (by kernel_rfl) (fun _ _ _ h => h) (Or.inr ⟨by rfl, by rfl⟩) (by assumption) ?rest8
      case rest8 =>
      try simp only [Act.put, List.setIfInBounds_toArray, List.set_cons_zero, List.set_cons_succ]
      refine takeH (i := 8) (v := undef) rfl (by kernel_rfl) (by kernel_rfl) (by kernel_rfl) (fun _ _ _ h => h) (Or.inr ⟨by rfl, by rfl⟩) (by assumption) ?rest9
      case rest9 =>
      try simp only [Act.put, List.setIfInBounds_toArray, List.set_cons_zero, List.set_cons_succ]
      refine takeH (i := 9) (v := undef) rfl (by kernel_rfl) (by kernel_rfl) (by kernel_rfl) (fun _ _ _ h => h) (Or.inr ⟨by rfl, by rfl⟩) (by assumption) ?rest10
      case rest10 =>
      try simp only [Act.put, List.setIfInBounds_toArray, List.set_cons_zero, List.set_cons_succ]
      refine takeH (i := 10) (v := ?v11) rfl (by kernel_rfl) (by kernel_rfl) (by kernel_rfl) (fun _ _ _ h => h) (Or.inl ⟨by rfl, ?hy11⟩) (by assumption) ?rest11
      case hy11 => (intro w hSw; (try dsimp only at hSw); go_simp; try (with_reducible rfl))
      case rest11 =>
      try simp only [Act.put, List.setIfInBounds_toArray, List.set_cons_zero, List.set_cons_succ]
      refine wpAnyH_done (by kernel_rfl) ?_ _
      refine hKQ _ _ ?_
      have HB2 := Hd.mk hHd
      clear hHd
      go_wp2
      go_ret
      exact ⟨by rw [← HT.out]; rfl, HB2.out⟩
    | succ m =>
      obtain ⟨A', c', e', _, hne⟩ := H.out
      cases e'
      obtain ⟨g, i, rfl, hg, _, hr⟩ := hne (by intro e; rw [e] at hk; cases hk)
      replace hr := Hd.mk (hr m (by omega))
      have HD : Hd (endP l (m + 1) = if getC l m = blankC then endP l m else m + 1) := ⟨rfl⟩
      generalize getC l m = x at *
      have hE : ∀ d w, (Op.equalIn (d + 2) 42 (.agg #[.string x.S, .int .i64 (x.wide : Int), .bool x.dim]) (.agg #[.string ⟨#[32]⟩, .int .i64 1, .bool false])).run Tryd.prog w = .ok (decide (x = blankC)) w := fun d w => eqCell d w x blankC
      obtain ⟨bq, hbq⟩ : ∃ bq, decide (x = blankC) = bq := ⟨_, rfl⟩
      rw [hbq] at hE
      have HQ := Hd.mk hbq
      clear hbq
      have hwm : IntKind.i64.wrap (m : Int) = (m : Int) := by simp [IntKind.wrap, IntKind.bits, IntKind.signed]; omega
      have hm0 : (0 : Int) ≤ (m : Int) := Int.natCast_nonneg _
      have hm1 : (m : Int) ≤ 1000 := by omega
      have p3 : (m : Int) < (l.length : Int) := by omega
      go_upto_region 2 with fail
      rename_i KQ hKQ
      refine regionH (fun w' : World => w'.rangeAt g (i + m * 3) [.string x.S, .int .i64 (x.wide : Int), .bool x.dim] ∧ Below w.heap.size w w') (by kernel_rfl) (fun wd hb => ?_)
      have hHd : (fun w' : World => w'.rangeAt g (i + m * 3) [.string x.S, .int .i64 (x.wide : Int), .bool x.dim] ∧ Below w.heap.size w w') wd := ⟨range_to ((HB.out.trans (hb.mono HB.out.size)).block g hg) hr.out, HB.out.trans (hb.mono HB.out.size)⟩
      clear hb HB
      refine takeH (i := 0) (v := ?v12) rfl (by kernel_rfl) (by kernel_rfl) (by kernel_rfl) (fun _ _ _ h => h) (Or.inl ⟨by rfl, ?hy12⟩) (by assumption) ?rest12
      case hy12 => (intro w hSw; (try dsimp only at hSw); go_simp; try (with_reducible rfl))
      case rest12 =>
      try simp only [Act.put, List.setIfInBounds_toArray, List.set_cons_zero, List.set_cons_succ]
      refine takeH (i := 1) (v := ?v13) rfl (by kernel_rfl) (by kernel_rfl) (by kernel_rfl) (fun _ _ _ h => h) (Or.inl ⟨by rfl, ?hy13⟩) (by assumption) ?rest13
      case hy13 => (intro w hSw; (try dsimp only at hSw); go_simp; try (with_reducible rfl))
      case rest13 =>
      try simp only [Act.put, List.setIfInBounds_toArray, List.set_cons_zero, List.set_cons_succ]
      refine takeH (i := 2) (v := ?v14) rfl (by kernel_rfl) (by kernel_rfl) (by kernel_rfl) (fun _ _ _ h => h) (Or.inl ⟨by rfl, ?hy14⟩) (by assumption) ?rest14
      case hy14 => (intro w hSw; (try dsimp only at hSw); go_simp; try (with_reducible rfl))
      case rest14 =>
      try simp only [Act.put, List.setIfInBounds_toArray, List.set_cons_zero, List.set_cons_succ]
      refine takeH (i := 3) (v := ?v15) rfl (by kernel_rfl) (by kernel_rfl) (by kernel_rfl) (fun _ _ _ h => h) (Or.inl ⟨by rfl, ?hy15⟩) (by assumption) ?rest15
      case hy15 => (intro w hSw; (try dsimp only at hSw); go_simp; try (with_reducible rfl))
      case rest15 =>
      try simp only [Act.put, List.setIfInBounds_toArray, List.set_cons_zero, List.set_cons_succ]
      refine takeH (i := 4) (v := ?v16) rfl (by kernel_rfl) (by kernel_rfl) (by kernel_rfl) (fun _ _ _ h => h) (Or.inl ⟨by rfl, ?hy16⟩) (by assumption) ?rest16
      case hy16 => (intro w hSw; (try dsimp only at hSw); go_simp; try (with_reducible rfl))
      case rest16 =>
      try simp only [Act.put, List.setIfInBounds_toArray, List.set_cons_zero, List.set_cons_succ]
      refine takeH (i := 5) (v := ?v17) rfl (by kernel_rfl) (by kernel_rfl) (by kernel_rfl) (fun _ _ _ h => h) (Or.inl ⟨by rfl, ?hy17⟩) (by assumption) ?rest17
      case hy17 => (intro w hSw; (try dsimp only at hSw); go_simp; try (with_reducible rfl))
      case rest17 =>
      try simp only [Act.put, List.setIfInBounds_toArray, List.set_cons_zero, List.set_cons_succ]
      refine takeH (i := 6) (v := ?v18) rfl (by kernel_rfl) (by kernel_rfl) (by kernel_rfl) (fun _ _ _ h => h) (Or.inl ⟨by rfl, ?hy18⟩) (by assumption) ?rest18
      case hy18 => (intro w hSw; (try dsimp only at hSw); go_simp; try (with_reducible rfl))
      case rest18 =>
      try simp only [Act.put, List.setIfInBounds_toArray, List.set_cons_zero, List.set_cons_succ]
      refine takeH (i := 7) (v := .agg #[.string x.S, .int .i64 (x.wide : Int), .bool x.dim]) rfl (by kernel_rfl) (by kernel_rfl) (by kernel_rfl) (fun _ _ _ h => h) (yieldsIf_load_mid (by rfl) 42 (.tmp 12) rfl g (i + m * 3) (by first | rfl | (go_simp; done) | (go_simp; rfl)) [.string x.S, .int .i64 (x.wide : Int), .bool x.dim] _ (fun w h => h.1) Tryd.underlying42 rfl infoCell) (by assumption) ?_
      try simp only [Act.put, List.setIfInBounds_toArray, List.set_cons_zero, List.set_cons_succ]
      refine wpAnyH_ready (rs := [8]) (by kernel_rfl) (by simp) ?_
      refine consH rfl (fun K hK => ?_) AllReadyH.nil
      go_simp
      go_at_call 41
      with_reducible refine (blank3_calls _).mono ?_
      rintro _ wq ⟨rfl, hb2⟩
      have hHd2 : (fun w' : World => w'.rangeAt g (i + m * 3) [.string x.S, .int .i64 (x.wide : Int), .bool x.dim] ∧ Below w.heap.size w w') wq := ⟨range_to (hb2.block g (by have h1 := hHd.2.size; omega)) hHd.1, hHd.2.trans (hb2.mono hHd.2.size)⟩
      clear hb2 hHd
      have hHd := hHd2
      clear hHd2
      go_simp
      refine hK.out _ _ hHd ?_
      clear hK K
      try simp only [Act.put, List.setIfInBounds_toArray, List.set_cons_zero, List.set_cons_succ]
      refine takeH (i := 9) (v := (.bool bq)) rfl (by kernel_rfl) (by kernel_rfl) (by kernel_rfl) (fun _ _ _ h => h) (Or.inl ⟨by rfl, ?hy19⟩) (by assumption) ?rest19
      case hy19 => (intro w hSw; (try dsimp only at hSw); go_simp; try (first | done | rfl))
      case rest19 =>
      try simp only [Act.put, List.setIfInBounds_toArray, List.set_cons_zero, List.set_cons_succ]
      refine takeH (i := 10) (v := ?v20) rfl (by kernel_rfl) (by kernel_rfl) (by kernel_rfl) (fun _ _ _ h => h) (Or.inl ⟨by rfl, ?hy20⟩) (by assumption) ?rest20
      case hy20 => (intro w hSw; (try dsimp only at hSw); go_simp; try (with_reducible rfl))
      case rest20 =>
      try simp only [Act.put, List.setIfInBounds_toArray, List.set_cons_zero, List.set_cons_succ]
      refine wpAnyH_done (by kernel_rfl) ?_ _
      refine hKQ _ _ ?_
      have HB2 := Hd.mk hHd.2
      clear hHd
      cases bq with
      | true =>
        have HD2 : Hd (endP l m = endP l l.length) := ⟨by rw [← HT.out, HD.out, if_pos (of_decide_eq_true HQ.out)]⟩
        clear HT HD
        go_wp2
        go_roundg m
        case measure => omega
        case rel => exact ⟨by simp, by omega, HD2, HB2⟩
      | false =>
        have HD2 : Hd (endP l l.length = m + 1) := ⟨by rw [← HT.out, HD.out, if_neg (of_decide_eq_false HQ.out)]⟩
        clear HT HD
        go_wp2
        go_ret
        exact ⟨by rw [HD2.out]; first | rfl | (go_simp; done) | (go_simp; rfl), HB2.out⟩
end Go.Proofs.YtledplnlcjfafaaDoorL

