/- Parts of the proof of the law that the last file states; declarations that nothing mentions are left out by a program. No conditions. -/
import Derived.Test.YtledplnlcjfafaaDoorLLayW3q
set_option linter.unusedVariables false
set_option linter.unusedSimpArgs false
namespace Go.Proofs.YtledplnlcjfafaaDoorL
open Go Go.RowKit Go.Proofs.YtledplnlcjfafaaDoorW.PrintWords
structure GB (w : World) (bs ba bc br bw g : Nat) (at_ col room row : Nat) : Prop where
  s : Blk w bs 61 #[.pointer (some ⟨g, 0, none⟩)]
  a : Blk w ba 3 #[.int .i64 (at_ : Int)]
  c : Blk w bc 3 #[.int .i64 (col : Int)]
  r : Blk w br 3 #[.int .i64 (room : Int)]
  w : Blk w bw 3 #[.int .i64 (row : Int)]
section
variable {w w' : World} {bs ba bc br bw g at_ col room row : Nat}
theorem GB.below (h : GB w bs ba bc br bw g at_ col room row) (hb : Below w.heap.size w w') : GB w' bs ba bc br bw g at_ col room row :=
  ⟨h.s.to (hb.block _ h.s.lt), h.a.to (hb.block _ h.a.lt), h.c.to (hb.block _ h.c.lt), h.r.to (hb.block _ h.r.lt), h.w.to (hb.block _ h.w.lt)⟩
theorem GB.only {F : Nat → Prop} (h : GB w bs ba bc br bw g at_ col room row) (ho : Only F w w') (h1 : ¬ F bs) (h2 : ¬ F ba) (h3 : ¬ F bc) (h4 : ¬ F br) (h5 : ¬ F bw) : GB w' bs ba bc br bw g at_ col room row :=
  ⟨h.s.to (ho.block _ h.s.lt h1), h.a.to (ho.block _ h.a.lt h2), h.c.to (ho.block _ h.c.lt h3), h.r.to (ho.block _ h.r.lt h4), h.w.to (ho.block _ h.w.lt h5)⟩
theorem GB.grown (h : GB w bs ba bc br bw g at_ col room row) {rw_ : Option Nat} (hg : w.grownBy w' rw_) (hr : ∀ r, rw_ = some r → ∃ o : Obj, w.heap[r]? = some o ∧ o.isCells = false) : GB w' bs ba bc br bw g at_ col room row :=
  ⟨h.s.grown_ hg hr, h.a.grown_ hg hr, h.c.grown_ hg hr, h.r.grown_ hg hr, h.w.grown_ hg hr⟩
theorem GB.set_ (h : GB w bs ba bc br bw g at_ col room row) (h1 : ba ≠ bc) (h2 : ba ≠ br) (h3 : ba ≠ bw) (n : Nat) : GB (w.setCell ⟨ba, 0, none⟩ (.int .i64 (n : Int))) bs ba bc br bw g n col room row :=
  ⟨h.s.far (fun e => Blk.ne_ h.s h.a (by decide) e) _, h.a.set_ 0 _, h.c.far (fun e => h1 e.symm) _, h.r.far (fun e => h2 e.symm) _, h.w.far (fun e => h3 e.symm) _⟩
end
theorem ShX.ints {w : World} {b g : Nat} {s : Sh} {lv : Value} {L : List RR} {cs : Array Value} (h : ShX w g s lv L) (hb : Blk w b 3 cs) : ¬ exF g lv L b := h.ne hb (by decide) (by decide) (by decide)
theorem ShX.set_ {w : World} {b g : Nat} {s : Sh} {lv : Value} {L : List RR} {cs : Array Value} (h : ShX w g s lv L) (hb : Blk w b 3 cs) (i : Nat) (u : Value) : ShX (w.setCell ⟨b, i, none⟩ u) g s lv L :=
  h.move (fun k hk _ => Below.heap_setCell w ⟨b, i, none⟩ u k (fun e => h.ints hb (by have e2 : k = b := e; rw [← e2]; exact hk)))
set_option maxRecDepth 100000 in
set_option maxHeartbeats 4000000 in
theorem ghost1_calls {w : World} {bs ba bc br bw g at_ col room row : Nat} {s : Sh} {lv : Value} {L : List RR} (hx : ShX w g s lv L) (hB : GB w bs ba bc br bw g at_ col room row) (hG : GK s row at_) (h1 : col ≤ at_) (h2 : at_ ≤ col + room) (h3 : col + room ≤ s.cols) (hn : s.l.length ≤ 10000)
    (n1 : ba ≠ bc) (n2 : ba ≠ br) (n3 : ba ≠ bw) (c : ByteArray) (hc : 0 < c.size ∧ c.size ≤ 1200) :
    Calls Tryd.prog 46 #[.string c, .pointer (some ⟨bs, 0, none⟩), .pointer (some ⟨ba, 0, none⟩), .pointer (some ⟨bc, 0, none⟩), .pointer (some ⟨br, 0, none⟩), .pointer (some ⟨bw, 0, none⟩)] w fun e w' =>
      Only (fun k => exF g lv L k ∨ k = ba) w w' ∧
      ((room < at_ - col + (cellsC s.cols c true).length ∧ e = .returned (.bool false) ∧ ShX w' g s lv L ∧ GB w' bs ba bc br bw g at_ col room row) ∨
      (¬ room < at_ - col + (cellsC s.cols c true).length ∧ e = .returned (.bool true) ∧ ShX w' g (s.lay row at_ (cellsC s.cols c true)) lv L ∧ GB w' bs ba bc br bw g (at_ + (cellsC s.cols c true).length) col room row)) := by
  have hcl := cellsC_le s.cols c true hG.c1
  have X := Hd.mk (fun (w1 : World) (h : ShX w1 g s lv L) => cells_calls (ShAt.cols_ ⟨lv, L, h⟩).1 h.b.lt c hc.1 (by omega) true)
  generalize cellsC s.cols c true = x at *
  have HX := Hd.mk hx
  have HB := Hd.mk hB
  have HG := Hd.mk hG
  have a1 := hB.s.cell 0 rfl
  have m1 : (at_ : Int) ≤ 120 := by have := hG.c2; omega
  have m2 : (col : Int) ≤ (at_ : Int) := by omega
  have m3 : (x.length : Int) ≤ 2 := by omega
  have m4 : (0 : Int) ≤ (col : Int) := Int.natCast_nonneg _
  have HC := Hd.mk (And.intro hcl (And.intro h1 (And.intro h2 (And.intro h3 hn))))
  clear hx hB hG hcl hc h1 h2 h3 hn
  go_enter Tryd.func46, Tryd.ntmps46
  go_wp2_with fail
  go_at_call 30
  with_reducible refine (X.out _ HX.out).mono ?_
  rintro _ w2 ⟨rx, rfl, hrn, hrg, hra, hb⟩
  have HXN := Hd.mk hrn
  have HXR := Hd.mk hra
  have HXL : Hd (∀ k, exF g lv L k → k ≠ rx.g) := ⟨fun k hk e => by have := HX.out.lt hk; omega⟩
  replace HX := Hd.mk (HX.out.below hb)
  replace HB := Hd.mk (HB.out.below hb)
  have HO : Hd (Only (fun k => exF g lv L k ∨ k = ba) w w2) := ⟨Only.of_below hb⟩
  clear hrn hrg hra hb X a1
  unfold RR.v
  rw [HXN.out]
  have a2 := HB.out.a.cell 0 rfl
  have a3 := HB.out.c.cell 0 rfl
  have a4 := HB.out.r.cell 0 rfl
  simp only [List.getElem_toArray, List.getElem_cons_zero] at a2 a3 a4
  by_cases hr : room < at_ - col + x.length
  · have hd : decide ((room : Int) < (at_ : Int) - (col : Int) + (x.length : Int)) = true := decide_eq_true (by omega)
    go_wp2
    go_ret
    exact ⟨HO.out, .inl ⟨hr, rfl, HX.out, HB.out⟩⟩
  · have hd : decide ((room : Int) < (at_ : Int) - (col : Int) + (x.length : Int)) = false := decide_eq_false (by omega)
    go_upto_region 4 with fail
    rename_i KQ hKQ
    clear a2 a3 a4
    have hrow := HG.out.on
    obtain ⟨cc, ad, r, rfl, hcs, hrw, hrp, hrg, hrb, hLi, hf⟩ := ShO.look HX.out hrow
    have hrl := (HG.out.rows _ (List.getElem_mem hrow)).1
    obtain ⟨n4, c4⟩ : r.n = s.cols ∧ s.cols ≤ r.c := ⟨by rw [hrw.1, hrl], by have := hrw.2.1; rw [hrw.1, hrl] at this; exact this⟩
    have HL4 := Hd.mk hLi
    clear hcs hrw hrp hrg hrb hLi hf hd
    refine regionK (fun w' : World => w'.cell? ⟨ba, 0, none⟩ = some (.int .i64 (at_ : Int)) ∧ w'.cell? ⟨bs, 0, none⟩ = some (.pointer (some ⟨g, 0, none⟩)) ∧ w'.cell? ⟨g, 1, none⟩ = some (.slice (some ad) s.l.length cc) ∧ w'.cell? ⟨bw, 0, none⟩ = some (.int .i64 (row : Int)) ∧ w'.cell? (ad.add row) = some (.slice (some ⟨r.g, 0, none⟩) s.cols r.c)) 13 (by kernel_rfl) (fun wd hb => ?_)
    replace HX := Hd.mk (HX.out.below hb)
    replace HB := Hd.mk (HB.out.below hb)
    replace HXR := Hd.mk (HXR.out.to (hb.block rx.g HXR.out.lt))
    replace HO := Hd.mk (HO.out.trans (Only.of_below (F := fun k => exF g (.slice (some ad) s.l.length cc) L k ∨ k = ba) hb) (fun _ _ hk => hk))
    clear hb
    obtain ⟨cc', ad', r', e, hcs, hrw, hrp, hrg, hrb, hLi, hf⟩ := ShO.look HX.out hrow
    cases e
    obtain rfl : r = r' := Option.some.inj (HL4.out.symm.trans hLi)
    have hHd : (fun w' : World => w'.cell? ⟨ba, 0, none⟩ = some (.int .i64 (at_ : Int)) ∧ w'.cell? ⟨bs, 0, none⟩ = some (.pointer (some ⟨g, 0, none⟩)) ∧ w'.cell? ⟨g, 1, none⟩ = some (.slice (some ad) s.l.length cc) ∧ w'.cell? ⟨bw, 0, none⟩ = some (.int .i64 (row : Int)) ∧ w'.cell? (ad.add row) = some (.slice (some ⟨r.g, 0, none⟩) s.cols r.c)) wd := ⟨HB.out.a.cell 0 rfl, HB.out.s.cell 0 rfl, HX.out.b.cell 1 rfl, HB.out.w.cell 0 rfl, by rw [← n4]; exact hcs⟩
    have hC := HC.out
    have c2 := HG.out.c2
    have hlt1 : at_ < s.cols := by omega
    have f1 : (0 : Int) ≤ (at_ : Int) := by omega
    have f2 : (at_ : Int) ≤ (s.cols : Int) := by omega
    have f3 : at_ ≤ s.cols := by omega
    have f4 : ¬ r.c = at_ := by omega
    have f5 : at_ ≤ r.c := by omega
    have f6 : (row : Int) < (s.l.length : Int) := by omega
    have f7 : row < s.l.length := hrow
    have f8 : (0 : Int) ≤ (row : Int) := Int.natCast_nonneg _
    have f9 : (row : Int) ≤ 10000 := by omega
    refine wpAnyK_take (i := 0) (v := ?v1) rfl (by kernel_rfl) (by kernel_rfl) (by kernel_rfl) (by kernel_rfl) (fun _ _ _ h => h) (Or.inl ⟨by rfl, ?hy1⟩) (by assumption) ?rest1
    case hy1 => (intro w hSw; (try dsimp only at hSw); go_simp; try (with_reducible rfl))
    case rest1 =>
    try simp only [Act.put, List.setIfInBounds_toArray, List.set_cons_zero, List.set_cons_succ]
    refine wpAnyK_take (i := 1) (v := ?v2) rfl (by kernel_rfl) (by kernel_rfl) (by kernel_rfl) (by kernel_rfl) (fun _ _ _ h => h) (Or.inl ⟨by rfl, ?hy2⟩) (by assumption) ?rest2
    case hy2 => (intro w hSw; (try dsimp only at hSw); go_simp; try (with_reducible rfl))
    case rest2 =>
    try simp only [Act.put, List.setIfInBounds_toArray, List.set_cons_zero, List.set_cons_succ]
    refine wpAnyK_take (i := 2) (v := ?v3) rfl (by kernel_rfl) (by kernel_rfl) (by kernel_rfl) (by kernel_rfl) (fun _ _ _ h => h) (Or.inl ⟨by rfl, ?hy3⟩) (by assumption) ?rest3
    case hy3 => (intro w hSw; (try dsimp only at hSw); go_simp; try (with_reducible rfl))
    case rest3 =>
    try simp only [Act.put, List.setIfInBounds_toArray, List.set_cons_zero, List.set_cons_succ]
    refine wpAnyK_take (i := 3) (v := ?v4) rfl (by kernel_rfl) (by kernel_rfl) (by kernel_rfl) (by kernel_rfl) (fun _ _ _ h => h) (Or.inl ⟨by rfl, ?hy4⟩) (by assumption) ?rest4
    case hy4 => (intro w hSw; (try dsimp only at hSw); go_simp; try (with_reducible rfl))
    case rest4 =>
    try simp only [Act.put, List.setIfInBounds_toArray, List.set_cons_zero, List.set_cons_succ]
    refine wpAnyK_take (i := 4) (v := ?v5) rfl (by kernel_rfl) (by kernel_rfl) (by kernel_rfl) (by kernel_rfl) (fun _ _ _ h => h) (Or.inl ⟨by rfl, ?hy5⟩) (by assumption) ?rest5
    case hy5 => (intro w hSw; (try dsimp only at hSw); go_simp; try (with_reducible rfl))
    case rest5 =>
    try simp only [Act.put, List.setIfInBounds_toArray, List.set_cons_zero, List.set_cons_succ]
    refine wpAnyK_take (i := 5) (v := ?v6) rfl (by kernel_rfl) (by kernel_rfl) (by kernel_rfl) (by kernel_rfl) (fun _ _ _ h => h) (Or.inl ⟨by rfl, ?hy6⟩) (by assumption) ?rest6
    case hy6 => (intro w hSw; (try dsimp only at hSw); go_simp; try (with_reducible rfl))
    case rest6 =>
    try simp only [Act.put, List.setIfInBounds_toArray, List.set_cons_zero, List.set_cons_succ]
    refine wpAnyK_take (i := 6) (v := ?v7) rfl (by kernel_rfl) (by kernel_rfl) (by kernel_rfl) (by kernel_rfl) (fun _ _ _ h => h) (Or.inl ⟨by rfl, ?hy7⟩) (by assumption) ?rest7
    case hy7 => (intro w hSw; (try dsimp only at hSw); go_simp; try (with_reducible rfl))
    case rest7 =>
    try simp only [Act.put, List.setIfInBounds_toArray, List.set_cons_zero, List.set_cons_succ]
    refine wpAnyK_take (i := 7) (v := ?v8) rfl (by kernel_rfl) (by kernel_rfl) (by kernel_rfl) (by kernel_rfl) (fun _ _ _ h => h) (Or.inl ⟨by rfl, ?hy8⟩) (by assumption) ?rest8
    case hy8 => (intro w hSw; (try dsimp only at hSw); go_simp; try (with_reducible rfl))
    case rest8 =>
    try simp only [Act.put, List.setIfInBounds_toArray, List.set_cons_zero, List.set_cons_succ]
    refine wpAnyK_take (i := 8) (v := ?v9) rfl (by kernel_rfl) (by kernel_rfl) (by kernel_rfl) (by kernel_rfl) (fun _ _ _ h => h) (Or.inl ⟨by rfl, ?hy9⟩) (by assumption) ?rest9
    case hy9 => (intro w hSw; (try dsimp only at hSw); go_simp; try (with_reducible rfl))
    case rest9 =>
    try simp only [Act.put, List.setIfInBounds_toArray, List.set_cons_zero, List.set_cons_succ]
    refine wpAnyK_take (i := 9) (v := .slice (some ⟨r.g, at_ * 3, none⟩) (s.cols - at_) (r.c - at_)) rfl (by kernel_rfl) (by kernel_rfl) (by kernel_rfl) (by kernel_rfl) (fun _ _ _ h => h) (Or.inl ⟨by rfl, ?hy10⟩) (by assumption) ?rest10
    case hy10 => (intro w hSw; (try dsimp only at hSw); clear hSw; go_simp; done)
    case rest10 =>
    try simp only [Act.put, List.setIfInBounds_toArray, List.set_cons_zero, List.set_cons_succ]
    refine wpAnyK_take (i := 10) (v := ?v11) rfl (by kernel_rfl) (by kernel_rfl) (by kernel_rfl) (by kernel_rfl) (fun _ _ _ h => h) (Or.inl ⟨by rfl, ?hy11⟩) (by assumption) ?rest11
    case hy11 => (intro w hSw; (try dsimp only at hSw); go_simp; try (with_reducible rfl))
    case rest11 =>
    try simp only [Act.put, List.setIfInBounds_toArray, List.set_cons_zero, List.set_cons_succ]
    refine wpAnyK_ready (rs := [11]) (by kernel_rfl) (by simp) ?_
    refine AllReadyK.cons rfl (fun K hK => ?_) AllReadyK.nil
    have hmin : x.length.min (s.cols - at_) = x.length := Nat.min_eq_left (by omega)
    obtain ⟨w5, hst, hr5, ho5, hz5, hB5⟩ := hrw.over (n := at_) (x := x) (by rw [hrl]; omega)
    refine copy3_step (w' := w5) (cs := rowV x) rfl rfl rfl rfl ?_ ?_ hst ?_
    · rw [rowV_len, hmin]
    · exact HXR.out.reads
    rw [show goInt (x.length.min (s.cols - at_)) = .int .i64 (x.length : Int) by rw [hmin]; rfl]
    have hs5 := hf w5 at_ x hr5 ho5
    have hc5 := (World.cell?_of_block (a := ad.add row) (ho5.block _ (World.block_lt_of_cell? wd _ hcs) (by rw [addr_add_block]; exact hrb.symm))).trans hcs
    have hnr : ∀ b cs, Blk wd b 3 cs → ¬ b = r.g := fun b cs hb e => HX.out.ints hb (by rw [e]; exact hrp)
    have hB5' := HB.out.only ho5 (fun e => HX.out.ne HB.out.s (by decide) (by decide) (by decide) (by rw [e]; exact hrp)) (hnr _ _ HB.out.a) (hnr _ _ HB.out.c) (hnr _ _ HB.out.r) (hnr _ _ HB.out.w)
    replace HX : Hd (ShX w5 g (s.lay row at_ x) (.slice (some ad) s.l.length cc) L) := ⟨hs5⟩
    replace HB := Hd.mk hB5'
    replace HO := Hd.mk (HO.out.trans ho5 (fun k _ hk => by rw [hk]; exact .inl hrp))
    clear hHd hst hr5 ho5 hz5 hB5 hs5 hcs hrw hrp hrg hrb hLi hf HXR hnr hB5'
    have hHd : (fun w' : World => w'.cell? ⟨ba, 0, none⟩ = some (.int .i64 (at_ : Int)) ∧ w'.cell? ⟨bs, 0, none⟩ = some (.pointer (some ⟨g, 0, none⟩)) ∧ w'.cell? ⟨g, 1, none⟩ = some (.slice (some ad) s.l.length cc) ∧ w'.cell? ⟨bw, 0, none⟩ = some (.int .i64 (row : Int)) ∧ w'.cell? (ad.add row) = some (.slice (some ⟨r.g, 0, none⟩) s.cols r.c)) w5 := ⟨HB.out.a.cell 0 rfl, HB.out.s.cell 0 rfl, HX.out.b.cell 1 rfl, HB.out.w.cell 0 rfl, by rw [← n4]; exact hc5⟩
    refine hK.out _ _ (.inr hHd) ?_
    clear hK K
    try simp only [Act.put, List.setIfInBounds_toArray, List.set_cons_zero, List.set_cons_succ]
    refine wpAnyK_take (i := 12) (v := .int .i64 ((at_ : Int) + (x.length : Int))) rfl (by kernel_rfl) (by kernel_rfl) (by kernel_rfl) (by kernel_rfl) (fun _ _ _ h => h) (Or.inl ⟨by rfl, ?hy12⟩) (by assumption) ?rest12
    case hy12 => (intro w hSw; (try dsimp only at hSw); clear hSw; go_simp; rw [IntKind.wrap_i64]; omega)
    case rest12 =>
    try simp only [Act.put, List.setIfInBounds_toArray, List.set_cons_zero, List.set_cons_succ]
    refine wpAnyK_ready (rs := [13]) (by kernel_rfl) (by simp) ?_
    refine AllReadyK.cons rfl (fun K hK => ?_) AllReadyK.nil
    rw [if_pos (by first | rfl | (go_simp; done) | (go_simp; rfl))]
    refine cell_step rfl rfl (g := ba) (i := 0) (v := .int .i64 ((at_ : Int) + (x.length : Int))) (by first | rfl | (go_simp; done) | (go_simp; rfl)) (by first | rfl | (go_simp; done) | (go_simp; rfl)) (HB.out.a.cell 0 rfl) (HB.out.a.frozen 0) infoInt1 rfl ?_
    refine hK.out _ _ (.inl (by kernel_rfl)) ?_
    clear hK K
    try simp only [Act.put, List.setIfInBounds_toArray, List.set_cons_zero, List.set_cons_succ]
    refine wpAnyK_done (by kernel_rfl) ?_ _
    refine hKQ _ _ ?_
    clear hHd hc5
    have hB6 := HB.out.set_ n1 n2 n3 (at_ + x.length)
    have hX6 := HX.out.set_ HB.out.a 0 (.int .i64 (((at_ + x.length : Nat) : Int)))
    have hO6 := HO.out.setCell (p := ⟨ba, 0, none⟩) (.inl (.inr rfl)) (.int .i64 (((at_ + x.length : Nat) : Int)))
    rw [show (((at_ + x.length : Nat) : Int)) = (at_ : Int) + (x.length : Int) by omega] at hB6 hX6 hO6
    replace HB := Hd.mk hB6
    replace HX := Hd.mk hX6
    replace HO := Hd.mk hO6
    clear hB6 hX6 hO6
    generalize w5.setCell ⟨ba, 0, none⟩ (.int .i64 ((at_ : Int) + (x.length : Int))) = w6 at *
    go_wp2
    go_ret
    exact ⟨HO.out, .inr ⟨hr, rfl, HX.out, HB.out⟩⟩
end Go.Proofs.YtledplnlcjfafaaDoorL

