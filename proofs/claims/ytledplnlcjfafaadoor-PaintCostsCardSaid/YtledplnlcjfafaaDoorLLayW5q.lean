/- Parts of the proof of the law that the last file states; declarations that nothing mentions are left out by a program. No conditions. -/
import Derived.Deep.CutRange
import Derived.Test.YtledplnlcjfafaaDoorLLayW4q
set_option linter.unusedVariables false
set_option linter.unusedSimpArgs false
namespace Go.Proofs.YtledplnlcjfafaaDoorL
open Go Go.RowKit Go.Proofs.YtledplnlcjfafaaDoorW.PrintWords
attribute [local go_sem] Oper.semAt_some
def ghostOpen (row col room : Nat) : Sh → Nat → List (Nat × ByteArray) → Prop
  | _, _, [] => True
  | s, at_, x :: l => ¬ room < at_ - col + (cellsC s.cols x.2 true).length ∧ ghostOpen row col room (s.lay row at_ (cellsC s.cols x.2 true)) (at_ + (cellsC s.cols x.2 true).length) l
section
variable {row col room : Nat}
theorem ghostG_cons (s : Sh) (at_ : Nat) (x : Nat × ByteArray) (l : List (Nat × ByteArray)) : ghostG row col room s at_ (x :: l) = if room < at_ - col + (cellsC s.cols x.2 true).length then (s, at_) else ghostG row col room (s.lay row at_ (cellsC s.cols x.2 true)) (at_ + (cellsC s.cols x.2 true).length) l := by rw [ghostG]
theorem ghostG_app : ∀ (l m : List (Nat × ByteArray)) (s : Sh) (at_ : Nat), ghostOpen row col room s at_ l → ghostG row col room s at_ (l ++ m) = ghostG row col room (ghostG row col room s at_ l).1 (ghostG row col room s at_ l).2 m
  | [], m, s, at_, _ => rfl
  | x :: l, m, s, at_, h => by
    rw [List.cons_append, ghostG_cons, ghostG_cons, if_neg h.1, if_neg h.1]
    exact ghostG_app l m _ _ h.2
theorem ghostOpen_app : ∀ (l m : List (Nat × ByteArray)) (s : Sh) (at_ : Nat), ghostOpen row col room s at_ l → ghostOpen row col room (ghostG row col room s at_ l).1 (ghostG row col room s at_ l).2 m → ghostOpen row col room s at_ (l ++ m)
  | [], m, s, at_, _, h => h
  | x :: l, m, s, at_, h, h2 => by
    rw [ghostG_cons, if_neg h.1] at h2
    exact ⟨h.1, ghostOpen_app l m _ _ h.2 h2⟩
theorem ghostG_one {s : Sh} {at_ : Nat} {x : Nat × ByteArray} (h : ¬ room < at_ - col + (cellsC s.cols x.2 true).length) (m : List (Nat × ByteArray)) : ghostG row col room s at_ (x :: m) = ghostG row col room (s.lay row at_ (cellsC s.cols x.2 true)) (at_ + (cellsC s.cols x.2 true).length) m := by rw [ghostG_cons, if_neg h]
theorem ghostG_stop {s : Sh} {at_ : Nat} {x : Nat × ByteArray} (h : room < at_ - col + (cellsC s.cols x.2 true).length) (m : List (Nat × ByteArray)) : ghostG row col room s at_ (x :: m) = (s, at_) := by rw [ghostG_cons, if_pos h]
end
theorem infoFn1 : (Tryd.prog.info? 89).map (·.size) = some 1 := by kernel_rfl
structure GI (w W : World) (b0 ba br Bn g row col room : Nat) (s : Sh) (lv : Value) (L : List RR) (t : ByteArray) (l : List (Nat × ByteArray)) (f : Value) : Prop where
  op : ghostOpen row col room s col l
  x : ShX W g (ghostG row col room s col l).1 lv L
  b : GB W b0 ba (b0 + 1 + 1) br (b0 + 1) g (ghostG row col room s col l).2 col room row
  f : Blk W (ba + 1) 89 #[f]
  n : Boxed W Bn 9 (.string t)
  o : Only (exF g lv L) w W
theorem GI.grown {w W W' : World} {b0 ba br Bn g row col room B : Nat} {s : Sh} {lv : Value} {L : List RR} {t : ByteArray} {l : List (Nat × ByteArray)} {f : Value} (h : GI w W b0 ba br Bn g row col room s lv L t l f) {rw_ : Option Nat} (hg : W.grownBy W' rw_) (hr : ∀ r, rw_ = some r → B ≤ r ∧ ∃ o : Obj, W.heap[r]? = some o ∧ o.isCells = false) (hB : w.heap.size ≤ B) : GI w W' b0 ba br Bn g row col room s lv L t l f :=
  ⟨h.op, h.x.grown hg (fun r e => (hr r e).2), h.b.grown hg (fun r e => (hr r e).2), h.f.grown_ hg (fun r e => (hr r e).2), Blk.grown_ h.n hg (fun r e => (hr r e).2), h.o.grown hg (fun r e => .inr (Nat.le_trans hB (hr r e).1))⟩
theorem valC_ck {s : ByteArray} (hs : CK (eachL s)) (pre : List (Clu s)) : CK (valC s pre) := fun y hy => by
  unfold valC at hy
  obtain ⟨x, _, rfl⟩ := List.mem_map.1 hy
  exact hs x.1 x.2
set_option maxRecDepth 100000 in
set_option maxHeartbeats 4000000 in
theorem ghost_calls {w : World} {g : Nat} {s : Sh} {lv : Value} {L : List RR} (hx : ShX w g s lv L) (row col : Nat) (hG : GK s row col) (hcol : col < s.cols) (hn : s.l.length ≤ 10000) (t : ByteArray) (ht : t.size ≤ 1200) :
    Calls Tryd.prog 28 #[.pointer (some ⟨g, 0, none⟩), .string t, .int .i64 (row : Int), .int .i64 (col : Int)] w fun e w' =>
      e = .returned (.int .i64 ((s.ghost t row col).2 : Int)) ∧ ShX w' g (s.ghost t row col).1 lv L ∧ Only (exF g lv L) w w' := by
  have hck := eachL_ck ht
  have hlen := eachL_len t
  have HX := Hd.mk hx
  have HGK := Hd.mk hG
  have hc2 := hG.c2
  have e0 : w.cell? ⟨g, 0, none⟩ = some (.int .i64 (s.cols : Int)) := hx.b.cell 0 rfl
  have HLT := Hd.mk hx.b.lt
  clear hx hG
  obtain ⟨p0, hp0⟩ : ∃ p, s.ghost t row col = p := ⟨_, rfl⟩
  have HGH : Hd (p0 = if s.cols - col < sumW t then ((ghostG row col (s.cols - col - 1) s col (eachL t)).1.lay row (ghostG row col (s.cols - col - 1) s col (eachL t)).2 [⟨dotsS, 1, true⟩], (ghostG row col (s.cols - col - 1) s col (eachL t)).2 + 1) else ghostG row col (s.cols - col) s col (eachL t)) := ⟨hp0.symm⟩
  rw [hp0]
  clear hp0
  refine (callsIn_wide (n := 5)).1 ?_
  refine callsIn_of_wp_marks Tryd.func28 rfl trivial ?_ rfl
  simp only [Tryd.ntmps28, List.size_toArray, List.length_cons, List.length_nil, Nat.reduceAdd, Nat.reduceSub, Array.replicate_succ, Array.replicate_zero, List.push_toArray, List.append_toArray, List.nil_append, List.cons_append]
  refine wpIn_wide.2 ?_
  go_wp2_with fail
  have B0 := Blk.new w 61 #[.pointer (some ⟨g, 0, none⟩)]
  have B1 := Blk.new (w.alloc (.cells #[.pointer (some ⟨g, 0, none⟩)] 61)) 3 #[.int .i64 (row : Int)]
  have B2 := Blk.new ((w.alloc (.cells #[.pointer (some ⟨g, 0, none⟩)] 61)).alloc (.cells #[.int .i64 (row : Int)] 3)) 3 #[.int .i64 (col : Int)]
  rw [World.size_alloc] at B1 B2
  rw [World.size_alloc] at B2
  have hB : Below w.heap.size w (((w.alloc (.cells #[.pointer (some ⟨g, 0, none⟩)] 61)).alloc (.cells #[.int .i64 (row : Int)] 3)).alloc (.cells #[.int .i64 (col : Int)] 3)) := (((Below.refl _ w).alloc (Nat.le_refl _) _).alloc (by simp) _).alloc (by simp; omega) _
  have S0 := Hd.mk ((B0.alloc (.cells #[.int .i64 (row : Int)] 3)).alloc (.cells #[.int .i64 (col : Int)] 3))
  have R0 := Hd.mk (B1.alloc (.cells #[.int .i64 (col : Int)] 3))
  have C0 := Hd.mk B2
  have HB := Hd.mk hB
  replace HX := Hd.mk (HX.out.below hB)
  clear B0 B1 B2 hB e0
  generalize hb0 : w.heap.size = b0 at *
  generalize (((w.alloc (.cells #[.pointer (some ⟨g, 0, none⟩)] 61)).alloc (.cells #[.int .i64 (row : Int)] 3)).alloc (.cells #[.int .i64 (col : Int)] 3)) = w1 at *
  go_upto_region 1 with fail
  rename_i KQ hKQ
  refine wp_mono ?_ noP_le
  refine regionH (fun w' : World => w'.cell? ⟨b0, 0, none⟩ = some (.pointer (some ⟨g, 0, none⟩)) ∧ w'.cell? ⟨g, 0, none⟩ = some (.int .i64 (s.cols : Int)) ∧ w'.cell? ⟨b0 + 1 + 1, 0, none⟩ = some (.int .i64 (col : Int))) (by kernel_rfl) (fun wd hb => ?_)
  replace HX := Hd.mk (HX.out.below hb)
  replace S0 := Hd.mk (S0.out.to (hb.block _ S0.out.lt))
  replace R0 := Hd.mk (R0.out.to (hb.block _ R0.out.lt))
  replace C0 := Hd.mk (C0.out.to (hb.block _ C0.out.lt))
  replace HB := Hd.mk (HB.out.trans (hb.mono (by rw [← hb0]; exact HB.out.size)))
  clear hb
  have hHd : (fun w' : World => w'.cell? ⟨b0, 0, none⟩ = some (.pointer (some ⟨g, 0, none⟩)) ∧ w'.cell? ⟨g, 0, none⟩ = some (.int .i64 (s.cols : Int)) ∧ w'.cell? ⟨b0 + 1 + 1, 0, none⟩ = some (.int .i64 (col : Int))) wd := ⟨S0.out.cell 0 rfl, HX.out.b.cell 0 rfl, C0.out.cell 0 rfl⟩
  have m1 : (s.cols : Int) ≤ 120 := by omega
  have m2 : (0 : Int) ≤ (col : Int) := Int.natCast_nonneg _
  have m3 : (col : Int) ≤ (s.cols : Int) := by omega
  refine takeH (i := 0) (v := ?v1) rfl (by kernel_rfl) (by kernel_rfl) (by kernel_rfl) (fun _ _ _ h => h) (Or.inl ⟨by rfl, ?hy1⟩) (by assumption) ?rest1
  case hy1 => (intro w hSw; (try dsimp only at hSw); go_simp; try (with_reducible rfl))
  case rest1 =>
  try simp only [Act.put, List.setIfInBounds_toArray, List.set_cons_zero, List.set_cons_succ]
  refine takeH (i := 1) (v := ?v2) rfl (by kernel_rfl) (by kernel_rfl) (by kernel_rfl) (fun _ _ _ h => h) (Or.inl ⟨by rfl, ?hy2⟩) (by assumption) ?rest2
  case hy2 => (intro w hSw; (try dsimp only at hSw); go_simp; try (with_reducible rfl))
  case rest2 =>
  try simp only [Act.put, List.setIfInBounds_toArray, List.set_cons_zero, List.set_cons_succ]
  refine takeH (i := 2) (v := ?v3) rfl (by kernel_rfl) (by kernel_rfl) (by kernel_rfl) (fun _ _ _ h => h) (Or.inl ⟨by rfl, ?hy3⟩) (by assumption) ?rest3
  case hy3 => (intro w hSw; (try dsimp only at hSw); go_simp; try (with_reducible rfl))
  case rest3 =>
  try simp only [Act.put, List.setIfInBounds_toArray, List.set_cons_zero, List.set_cons_succ]
  refine takeH (i := 3) (v := ?v4) rfl (by kernel_rfl) (by kernel_rfl) (by kernel_rfl) (fun _ _ _ h => h) (Or.inl ⟨by rfl, ?hy4⟩) (by assumption) ?rest4
  case hy4 => (intro w hSw; (try dsimp only at hSw); go_simp; try (with_reducible rfl))
  case rest4 =>
  try simp only [Act.put, List.setIfInBounds_toArray, List.set_cons_zero, List.set_cons_succ]
  refine takeH (i := 4) (v := ?v5) rfl (by kernel_rfl) (by kernel_rfl) (by kernel_rfl) (fun _ _ _ h => h) (Or.inl ⟨by rfl, ?hy5⟩) (by assumption) ?rest5
  case hy5 => (intro w hSw; (try dsimp only at hSw); go_simp; try (with_reducible rfl))
  case rest5 =>
  try simp only [Act.put, List.setIfInBounds_toArray, List.set_cons_zero, List.set_cons_succ]
  refine takeH (i := 5) (v := .int .i64 ((s.cols : Int) - (col : Int))) rfl (by kernel_rfl) (by kernel_rfl) (by kernel_rfl) (fun _ _ _ h => h) (Or.inl ⟨by rfl, ?hy6⟩) (by assumption) ?rest6
  case hy6 => (intro w hSw; (try dsimp only at hSw); clear hSw; go_simp; rw [IntKind.wrap_i64]; omega)
  case rest6 =>
  try simp only [Act.put, List.setIfInBounds_toArray, List.set_cons_zero, List.set_cons_succ]
  refine wpAnyH_ready (rs := [6]) (by kernel_rfl) (by simp) ?_
  refine consH rfl (fun K hK => ?_) AllReadyH.nil
  refine exec_step (by first | rfl | (go_simp; done) | (go_simp; rfl)) (v := .pointer (some ⟨wd.heap.size, 0, none⟩)) (W' := wd.alloc (.cells #[.int .i64 0] 3)) (by first | (go_simp; done) | (go_simp; rfl)) ?_
  have hal := below_alloc (Below.refl _ wd) (.cells #[.int .i64 0] 3)
  have N0 := Hd.mk (Blk.new wd 3 #[.int .i64 0])
  have hR1 : b0 + 1 < wd.heap.size ∧ b0 + 1 + 1 < wd.heap.size ∧ b0 < wd.heap.size := ⟨R0.out.lt, C0.out.lt, S0.out.lt⟩
  have hne : Hd (∀ k, k < wd.heap.size → k ≠ wd.heap.size) := ⟨fun k h => by omega⟩
  have HG0 : Hd (b0 ≤ wd.heap.size) := ⟨by rw [← hb0]; exact HB.out.size⟩
  replace HX := Hd.mk (HX.out.below hal)
  replace S0 := Hd.mk (S0.out.to (hal.block _ S0.out.lt))
  replace R0 := Hd.mk (R0.out.to (hal.block _ R0.out.lt))
  replace C0 := Hd.mk (C0.out.to (hal.block _ C0.out.lt))
  have HNE : Hd (b0 + 1 < wd.heap.size ∧ b0 + 1 + 1 < wd.heap.size ∧ b0 < wd.heap.size) := ⟨hR1⟩
  replace HB := Hd.mk (HB.out.trans (hal.mono (by rw [← hb0]; exact HB.out.size)))
  clear hHd hal
  have hHd : (fun w' : World => w'.cell? ⟨b0, 0, none⟩ = some (.pointer (some ⟨g, 0, none⟩)) ∧ w'.cell? ⟨g, 0, none⟩ = some (.int .i64 (s.cols : Int)) ∧ w'.cell? ⟨b0 + 1 + 1, 0, none⟩ = some (.int .i64 (col : Int))) (wd.alloc (.cells #[.int .i64 0] 3)) := ⟨S0.out.cell 0 rfl, HX.out.b.cell 0 rfl, C0.out.cell 0 rfl⟩
  generalize hbr : wd.heap.size = br at *
  generalize wd.alloc (.cells #[.int .i64 0] 3) = w2 at *
  refine hK.out _ _ hHd ?_
  clear hK K
  try simp only [Act.put, List.setIfInBounds_toArray, List.set_cons_zero, List.set_cons_succ]
  refine wpAnyH_ready (rs := [7]) (by kernel_rfl) (by simp) ?_
  refine consH rfl (fun K hK => ?_) AllReadyH.nil
  rw [if_pos (by first | rfl | (go_simp; done) | (go_simp; rfl))]
  refine cell_step rfl rfl (g := br) (i := 0) (v := .int .i64 ((s.cols : Int) - (col : Int))) (by first | rfl | (go_simp; done) | (go_simp; rfl)) (by first | rfl | (go_simp; done) | (go_simp; rfl)) (N0.out.cell 0 rfl) (N0.out.frozen 0) infoInt1 rfl ?_
  have e1 : ((s.cols : Int) - (col : Int)) = ((s.cols - col : Nat) : Int) := by omega
  rw [e1]
  replace HX := Hd.mk (HX.out.set_ N0.out 0 (.int .i64 (((s.cols - col : Nat) : Int))))
  replace S0 := Hd.mk (S0.out.far (p := ⟨br, 0, none⟩) (show b0 ≠ br by have := HNE.out; omega) (.int .i64 (((s.cols - col : Nat) : Int))))
  replace R0 := Hd.mk (R0.out.far (p := ⟨br, 0, none⟩) (show b0 + 1 ≠ br by have := HNE.out; omega) (.int .i64 (((s.cols - col : Nat) : Int))))
  replace C0 := Hd.mk (C0.out.far (p := ⟨br, 0, none⟩) (show b0 + 1 + 1 ≠ br by have := HNE.out; omega) (.int .i64 (((s.cols - col : Nat) : Int))))
  replace HB := Hd.mk (HB.out.setCell (p := ⟨br, 0, none⟩) (show b0 ≤ br from HG0.out) (.int .i64 (((s.cols - col : Nat) : Int))))
  replace N0 := Hd.mk (show Blk (w2.setCell ⟨br, 0, none⟩ (.int .i64 (((s.cols - col : Nat) : Int)))) br 3 #[.int .i64 (((s.cols - col : Nat) : Int))] from N0.out.set_ 0 _)
  clear hHd
  have hHd : (fun w' : World => w'.cell? ⟨b0, 0, none⟩ = some (.pointer (some ⟨g, 0, none⟩)) ∧ w'.cell? ⟨g, 0, none⟩ = some (.int .i64 (s.cols : Int)) ∧ w'.cell? ⟨b0 + 1 + 1, 0, none⟩ = some (.int .i64 (col : Int))) (w2.setCell ⟨br, 0, none⟩ (.int .i64 (((s.cols - col : Nat) : Int)))) := ⟨S0.out.cell 0 rfl, HX.out.b.cell 0 rfl, C0.out.cell 0 rfl⟩
  generalize w2.setCell ⟨br, 0, none⟩ (.int .i64 (((s.cols - col : Nat) : Int))) = w3 at *
  refine hK.out _ _ hHd ?_
  clear hK K
  try simp only [Act.put, List.setIfInBounds_toArray, List.set_cons_zero, List.set_cons_succ]
  refine wpAnyH_done (by kernel_rfl) ?_ _
  refine hKQ _ _ ?_
  clear hHd
  have c1 : s.cols - col ≤ 120 := by omega
  generalize hrm : s.cols - col = rm at *
  go_upto_region 2 with fail
  rename_i KQ hKQ
  refine wp_mono ?_ noP_le
  refine regionH (fun w' : World => w'.cell? ⟨br, 0, none⟩ = some (.int .i64 (rm : Int))) (by kernel_rfl) (fun wd hb => ?_)
  replace HX := Hd.mk (HX.out.below hb)
  replace S0 := Hd.mk (S0.out.to (hb.block _ S0.out.lt))
  replace R0 := Hd.mk (R0.out.to (hb.block _ R0.out.lt))
  replace C0 := Hd.mk (C0.out.to (hb.block _ C0.out.lt))
  replace N0 := Hd.mk (N0.out.to (hb.block _ N0.out.lt))
  replace HB := Hd.mk (HB.out.trans (hb.mono (by rw [← hb0]; exact HB.out.size)))
  clear hb
  have hHd : (fun w' : World => w'.cell? ⟨br, 0, none⟩ = some (.int .i64 (rm : Int))) wd := N0.out.cell 0 rfl
  refine takeH (i := 0) (v := ?v17) rfl (by kernel_rfl) (by kernel_rfl) (by kernel_rfl) (fun _ _ _ h => h) (Or.inl ⟨by rfl, ?hy17⟩) (by assumption) ?rest17
  case hy17 => (intro w hSw; (try dsimp only at hSw); go_simp; try (with_reducible rfl))
  case rest17 =>
  try simp only [Act.put, List.setIfInBounds_toArray, List.set_cons_zero, List.set_cons_succ]
  refine takeH (i := 2) (v := ?v18) rfl (by kernel_rfl) (by kernel_rfl) (by kernel_rfl) (fun _ _ _ h => h) (Or.inl ⟨by rfl, ?hy18⟩) (by assumption) ?rest18
  case hy18 => (intro w hSw; (try dsimp only at hSw); go_simp; try (with_reducible rfl))
  case rest18 =>
  try simp only [Act.put, List.setIfInBounds_toArray, List.set_cons_zero, List.set_cons_succ]
  refine wpAnyH_ready (rs := [1]) (by kernel_rfl) (by simp) ?_
  refine consH rfl (fun K hK => ?_) AllReadyH.nil
  go_simp
  go_at_call 29
  with_reducible refine (sum_calls t ht wd).mono ?_
  rintro _ w4 ⟨rfl, hb⟩
  replace HX := Hd.mk (HX.out.below hb)
  replace S0 := Hd.mk (S0.out.to (hb.block _ S0.out.lt))
  replace R0 := Hd.mk (R0.out.to (hb.block _ R0.out.lt))
  replace C0 := Hd.mk (C0.out.to (hb.block _ C0.out.lt))
  replace N0 := Hd.mk (N0.out.to (hb.block _ N0.out.lt))
  replace HB := Hd.mk (HB.out.trans (hb.mono (by rw [← hb0]; exact HB.out.size)))
  clear hb
  clear hHd
  have hHd : (fun w' : World => w'.cell? ⟨br, 0, none⟩ = some (.int .i64 (rm : Int))) w4 := N0.out.cell 0 rfl
  go_simp
  refine hK.out _ _ hHd ?_
  clear hK K
  try simp only [Act.put, List.setIfInBounds_toArray, List.set_cons_zero, List.set_cons_succ]
  refine takeH (i := 3) (v := ?v19) rfl (by kernel_rfl) (by kernel_rfl) (by kernel_rfl) (fun _ _ _ h => h) (Or.inl ⟨by rfl, ?hy19⟩) (by assumption) ?rest19
  case hy19 => (intro w hSw; (try dsimp only at hSw); go_simp; try (with_reducible rfl))
  case rest19 =>
  try simp only [Act.put, List.setIfInBounds_toArray, List.set_cons_zero, List.set_cons_succ]
  refine takeH (i := 4) (v := ?v20) rfl (by kernel_rfl) (by kernel_rfl) (by kernel_rfl) (fun _ _ _ h => h) (Or.inl ⟨by rfl, ?hy20⟩) (by assumption) ?rest20
  case hy20 => (intro w hSw; (try dsimp only at hSw); go_simp; try (with_reducible rfl))
  case rest20 =>
  try simp only [Act.put, List.setIfInBounds_toArray, List.set_cons_zero, List.set_cons_succ]
  refine wpAnyH_done (by kernel_rfl) ?_ _
  refine hKQ _ _ ?_
  clear hHd
  generalize hsw : sumW t = sw at *
  go_upto_if 25 with fail
  go_cut [] from 26 to 27 (fun wx => ∃ room : Nat, Hd (room = if rm < sw then rm - 1 else rm) ∧ Hd (ShX wx g s lv L) ∧ Hd (Blk wx b0 61 #[.pointer (some ⟨g, 0, none⟩)]) ∧ Hd (Blk wx (b0 + 1) 3 #[.int .i64 (row : Int)]) ∧ Hd (Blk wx (b0 + 1 + 1) 3 #[.int .i64 (col : Int)]) ∧ Hd (Blk wx br 3 #[.int .i64 (room : Int)]) ∧ Hd (Below b0 w wx))
  case first =>
    have a1 := N0.out.cell 0 rfl
    have a2 := N0.out.frozen 0
    simp only [List.getElem_toArray, List.getElem_cons_zero] at a1
    by_cases hov : rm < sw
    · have q1 : decide ((rm : Int) < (sw : Int)) = true := decide_eq_true (by omega)
      have q2 : decide (rm < sw) = true := decide_eq_true hov
      have q3 : (rm : Int) < (sw : Int) := by omega
      have q4 : (rm : Int) - 1 = ((rm - 1 : Nat) : Int) := by omega
      have q5 : (rm : Int) ≤ 120 := by omega
      have q6 : (1 : Int) ≤ (rm : Int) := by omega
      go_wp2_with fail
      go_meet
      case rel =>
        refine ⟨rm - 1, ⟨by rw [if_pos hov]⟩, ?_⟩
        skip
        exact ⟨⟨HX.out.set_ N0.out 0 _⟩, ⟨S0.out.far (p := ⟨br, 0, none⟩) (show b0 ≠ br by have := HNE.out; omega) _⟩, ⟨R0.out.far (p := ⟨br, 0, none⟩) (show b0 + 1 ≠ br by have := HNE.out; omega) _⟩, ⟨C0.out.far (p := ⟨br, 0, none⟩) (show b0 + 1 + 1 ≠ br by have := HNE.out; omega) _⟩, ⟨by rw [← q4]; exact N0.out.set_ 0 _⟩, ⟨HB.out.setCell (p := ⟨br, 0, none⟩) (show b0 ≤ br from HG0.out) _⟩⟩
    · have q1 : decide ((rm : Int) < (sw : Int)) = false := decide_eq_false (by omega)
      have q2 : decide (rm < sw) = false := decide_eq_false hov
      have q3 : ¬ rm < sw := hov
      go_wp2_with fail
      go_meet
      case rel => exact ⟨rm, ⟨by rw [if_neg hov]⟩, HX, S0, R0, C0, N0, HB⟩
  case rest =>
  obtain ⟨room, HRM, HX, S0, R0, C0, N0, HB⟩ := hcut
  have a1 := C0.out.cell 0 rfl
  simp only [List.getElem_toArray, List.getElem_cons_zero] at a1
  have F0 := Blk.new (wc.alloc (.cells #[.int .i64 (col : Int)] 3)) 89 #[Value.nilFunc]
  rw [World.size_alloc] at F0
  have f1 := F0.cell 0 rfl
  have f2 := F0.frozen 0
  simp only [List.getElem_toArray, List.getElem_cons_zero] at f1
  have A0 := Blk.new wc 3 #[.int .i64 (col : Int)]
  have A1 := A0.alloc (.cells #[Value.nilFunc] 89)
  have hbA : Below wc.heap.size wc ((wc.alloc (.cells #[.int .i64 (col : Int)] 3)).alloc (.cells #[Value.nilFunc] 89)) := ((Below.refl _ wc).alloc (Nat.le_refl _) _).alloc (by simp) _
  have hR1 : b0 + 1 < wc.heap.size ∧ b0 + 1 + 1 < wc.heap.size ∧ b0 < wc.heap.size ∧ br < wc.heap.size := ⟨R0.out.lt, C0.out.lt, S0.out.lt, N0.out.lt⟩
  go_wp2_with (first | ((with_reducible refine gate_store (t := 89) (p := 12) rfl ?_); refine store1_event rfl rfl (g := wc.heap.size + 1) (i := 0) (v := .func (.func 46) #[] #[.pointer (some ⟨b0, 0, none⟩), .pointer (some ⟨wc.heap.size, 0, none⟩), .pointer (some ⟨b0 + 1 + 1, 0, none⟩), .pointer (some ⟨br, 0, none⟩), .pointer (some ⟨b0 + 1, 0, none⟩)]) (by first | rfl | (go_simp; done) | (go_simp; rfl)) (by first | rfl | (go_simp; done) | (go_simp; rfl)) F0 (by simp) infoFn1 rfl ?_; intro w5 hx hk hz hb))
  have hs5 : wc.heap.size < w5.heap.size ∧ wc.heap.size + 1 < w5.heap.size := ⟨by rw [hz]; simp; omega, by rw [hz]; simp⟩
  have hb5 : Below wc.heap.size wc w5 := hb hbA (by omega)
  have A5 := Hd.mk (A1.to (hk.2 _ A1.lt (by show ¬ _ = _; omega)))
  have F5 := Hd.mk (show Blk w5 (wc.heap.size + 1) 89 #[.func (.func 46) #[] #[.pointer (some ⟨b0, 0, none⟩), .pointer (some ⟨wc.heap.size, 0, none⟩), .pointer (some ⟨b0 + 1 + 1, 0, none⟩), .pointer (some ⟨br, 0, none⟩), .pointer (some ⟨b0 + 1, 0, none⟩)]] from hx)
  replace HX := Hd.mk (HX.out.below hb5)
  replace S0 := Hd.mk (S0.out.to (hb5.block _ S0.out.lt))
  replace R0 := Hd.mk (R0.out.to (hb5.block _ R0.out.lt))
  replace C0 := Hd.mk (C0.out.to (hb5.block _ C0.out.lt))
  replace N0 := Hd.mk (N0.out.to (hb5.block _ N0.out.lt))
  replace HB := Hd.mk (HB.out.trans (hb5.mono (by rw [← hb0]; exact HB.out.size)))
  clear hx hk hz hb hb5 F0 f1 f2 A0 A1 hbA a1
  generalize hba : wc.heap.size = ba at *
  go_wp2_with fail
  go_at_call 25
  refine ((callsIn_wide (n := 5)).1 (each_in _ t _)).mono ?_
  rintro e w' ⟨rfl, rfl⟩
  go_wp2_with fail
  rename_i KF hKF
  have bN := Boxed.new w5 9 (.string t)
  have hbn := below_alloc (Below.refl _ w5) (.cells #[.string t] 9)
  have hba2 := hs5.1
  replace HX := Hd.mk (HX.out.below hbn)
  replace S0 := Hd.mk (S0.out.to (hbn.block _ S0.out.lt))
  replace R0 := Hd.mk (R0.out.to (hbn.block _ R0.out.lt))
  replace C0 := Hd.mk (C0.out.to (hbn.block _ C0.out.lt))
  replace N0 := Hd.mk (N0.out.to (hbn.block _ N0.out.lt))
  replace A5 := Hd.mk (A5.out.to (hbn.block _ A5.out.lt))
  replace F5 := Hd.mk (F5.out.to (hbn.block _ F5.out.lt))
  replace HB := Hd.mk (HB.out.trans (hbn.mono (by rw [← hb0]; exact HB.out.size)))
  clear hbn
  obtain ⟨Bn, hBn⟩ : ∃ b, w5.heap.size = b := ⟨_, rfl⟩
  have hsz : (w5.alloc (.cells #[.string t] 9)).heap.size = Bn + 1 := by rw [← hBn]; simp
  rw [hBn] at bN hs5
  have hEQ : (w5.alloc (.cells #[.string t] 9)).heap.size = Bn + 1 ∧ w5.heap.size = Bn := ⟨hsz, hBn⟩
  rw [hBn]
  generalize w5.alloc (.cells #[.string t] 9) = w6 at *
  clear hba2 hsz
  have hroom : col + room ≤ s.cols := by have := HRM.out; split at this <;> omega
  have hO : Only (exF g lv L) w w6 := Only.of_below (by rw [hb0]; exact HB.out)
  have hcc : ∀ (pre : List (Clu t)), GK (ghostG row col room s col (valC t pre)).1 row (ghostG row col room s col (valC t pre)).2 ∧ (ghostG row col room s col (valC t pre)).1.cols = s.cols ∧ (ghostG row col room s col (valC t pre)).1.l.length = s.l.length ∧ col ≤ (ghostG row col room s col (valC t pre)).2 ∧ (ghostG row col room s col (valC t pre)).2 ≤ col + room := fun pre => GK.ghostG _ s col HGK.out (valC_ck hck pre) (Nat.le_refl _) (by omega) hroom
  have hX0 := HX.out.lt (k := g) (.inl rfl)
  have hfin : ∀ (D : Nat) (W : World) (l : List (Nat × ByteArray)), Bn < D → ghostG row col room s col l = ghostG row col room s col (eachL t) → GI w W b0 ba br Bn g row col room s lv L t l (.func (.func 46) #[] #[.pointer (some ⟨b0, 0, none⟩), .pointer (some ⟨ba, 0, none⟩), .pointer (some ⟨b0 + 1 + 1, 0, none⟩), .pointer (some ⟨br, 0, none⟩), .pointer (some ⟨b0 + 1, 0, none⟩)]) → W.heap[D]? = some (.deferred (some [])) → KF { tmps := #[.pointer (some ⟨g, 0, none⟩), .string t, .int .i64 (row : Int), .int .i64 (col : Int), .pointer (some ⟨b0, 0, none⟩), undef, .pointer (some ⟨b0 + 1, 0, none⟩), .pointer (some ⟨b0 + 1 + 1, 0, none⟩), .int .i64 0, .pointer (some ⟨br, 0, none⟩), .bool (decide (rm < sw)), .pointer (some ⟨ba, 0, none⟩), .pointer (some ⟨ba + 1, 0, none⟩), undef, undef, .pointer (some ⟨g, 0, none⟩), .pointer (some ⟨g, 0, none⟩), .pointer (some ⟨g, 0, none⟩), .int .i64 (s.cols : Int), .int .i64 (col : Int), .int .i64 (rm : Int), .string t, .int .i64 (sw : Int), .int .i64 (rm : Int), .bool (decide (rm < sw)), .bool (decide (rm < sw)), u26, u27, .int .i64 (col : Int), .func (.func 46) #[] #[.pointer (some ⟨b0, 0, none⟩), .pointer (some ⟨ba, 0, none⟩), .pointer (some ⟨b0 + 1 + 1, 0, none⟩), .pointer (some ⟨br, 0, none⟩), .pointer (some ⟨b0 + 1, 0, none⟩)], .string t, .func (.func 43) #[] #[.pointer (some ⟨Bn, 0, none⟩)], undef, undef, undef, undef, undef, undef, undef, undef, undef, undef, undef, undef, undef, undef, undef, undef, undef, undef, undef, undef], defers := [{ target := .collected D, args := #[] }] } W := by
    intro D W l hD hl ⟨hop, hX, hGB, hF, hN, hO2⟩ hK
    rw [hl] at hX hGB
    obtain ⟨k1, k2, k3, k4, k5⟩ := GK.ghostG (eachL t) s col HGK.out hck (Nat.le_refl _) (by omega) hroom
    have hrm0 := HRM.out
    by_cases hov : rm < sw
    · have q1 : decide ((rm : Int) < (sw : Int)) = true := decide_eq_true (by omega)
      have q2 : decide (rm < sw) = true := decide_eq_true hov
      rw [if_pos hov] at hrm0
      subst hrm0
      rw [if_pos hov] at HGH
      generalize ghostG row col (rm - 1) s col (eachL t) = p at *
      obtain ⟨q, at_⟩ := p
      dsimp only at *
      refine hKF _ _ ?_
      rw [q2]
      go_upto_region 11 with fail
      rename_i KQ hKQ
      have hrow := k1.on
      obtain ⟨cc, ad, r, rfl, hcs, hrw, hrp, hrg, hrb, hLi, hf⟩ := ShO.look hX hrow
      have hrl := (k1.rows _ (List.getElem_mem hrow)).1
      rw [k2] at hrl
      have n4 : r.n = s.cols := by rw [hrw.1, hrl]
      have HL4 := Hd.mk hLi
      clear hcs hrw hrp hrg hrb hLi hf
      refine wp_mono ?_ noP_le
      refine regionK (fun w' : World => w'.cell? ⟨b0, 0, none⟩ = some (.pointer (some ⟨g, 0, none⟩)) ∧ w'.cell? ⟨g, 1, none⟩ = some (.slice (some ad) q.l.length cc) ∧ w'.cell? ⟨b0 + 1, 0, none⟩ = some (.int .i64 (row : Int)) ∧ w'.cell? (ad.add row) = some (.slice (some ⟨r.g, 0, none⟩) s.cols r.c) ∧ w'.cell? ⟨ba, 0, none⟩ = some (.int .i64 (at_ : Int))) 10 (by kernel_rfl) (fun wd hb => ?_)
      replace hX := hX.below hb
      replace hGB := hGB.below hb
      have hK2 := (hb.block _ (Array.getElem?_eq_some_iff.1 hK).1).trans hK
      replace hO2 := hO2.trans (Only.of_below (F := exF g (.slice (some ad) q.l.length cc) L) hb) (fun _ _ hk => hk)
      clear hb hK
      obtain ⟨cc', ad', r', e, hcs, hrw, hrp, hrg, hrb, hLi, hf⟩ := ShO.look hX hrow
      cases e
      obtain rfl : r = r' := Option.some.inj (HL4.out.symm.trans hLi)
      have hHd : (fun w' : World => w'.cell? ⟨b0, 0, none⟩ = some (.pointer (some ⟨g, 0, none⟩)) ∧ w'.cell? ⟨g, 1, none⟩ = some (.slice (some ad) q.l.length cc) ∧ w'.cell? ⟨b0 + 1, 0, none⟩ = some (.int .i64 (row : Int)) ∧ w'.cell? (ad.add row) = some (.slice (some ⟨r.g, 0, none⟩) s.cols r.c) ∧ w'.cell? ⟨ba, 0, none⟩ = some (.int .i64 (at_ : Int))) wd := ⟨hGB.s.cell 0 rfl, hX.b.cell 1 rfl, hGB.w.cell 0 rfl, by rw [← n4]; exact hcs, hGB.a.cell 0 rfl⟩
      have hq10 : q.l.length ≤ 10000 := by omega
      have hat : at_ < s.cols := by omega
      have g1 : (0 : Int) ≤ (at_ : Int) := Int.natCast_nonneg _
      have g2 : (at_ : Int) < (s.cols : Int) := by omega
      have g3 : (0 : Int) ≤ (row : Int) := Int.natCast_nonneg _
      have g4 : (row : Int) < (q.l.length : Int) := by omega
      have g5 : row < q.l.length := hrow
      have g8 : row < s.l.length := by omega
      have g9 : (row : Int) < (s.l.length : Int) := by omega
      refine wpAnyK_take (i := 0) (v := ?v7) rfl (by kernel_rfl) (by kernel_rfl) (by kernel_rfl) (by kernel_rfl) (fun _ _ _ h => h) (Or.inl ⟨by rfl, ?hy7⟩) (by assumption) ?rest7
      case hy7 => (intro w hSw; (try dsimp only at hSw); go_simp; try (with_reducible rfl))
      case rest7 =>
      try simp only [Act.put, List.setIfInBounds_toArray, List.set_cons_zero, List.set_cons_succ]
      refine wpAnyK_take (i := 1) (v := ?v8) rfl (by kernel_rfl) (by kernel_rfl) (by kernel_rfl) (by kernel_rfl) (fun _ _ _ h => h) (Or.inl ⟨by rfl, ?hy8⟩) (by assumption) ?rest8
      case hy8 => (intro w hSw; (try dsimp only at hSw); go_simp; try (with_reducible rfl))
      case rest8 =>
      try simp only [Act.put, List.setIfInBounds_toArray, List.set_cons_zero, List.set_cons_succ]
      refine wpAnyK_take (i := 2) (v := ?v9) rfl (by kernel_rfl) (by kernel_rfl) (by kernel_rfl) (by kernel_rfl) (fun _ _ _ h => h) (Or.inl ⟨by rfl, ?hy9⟩) (by assumption) ?rest9
      case hy9 => (intro w hSw; (try dsimp only at hSw); go_simp; try (with_reducible rfl))
      case rest9 =>
      try simp only [Act.put, List.setIfInBounds_toArray, List.set_cons_zero, List.set_cons_succ]
      refine wpAnyK_take (i := 3) (v := ?v10) rfl (by kernel_rfl) (by kernel_rfl) (by kernel_rfl) (by kernel_rfl) (fun _ _ _ h => h) (Or.inl ⟨by rfl, ?hy10⟩) (by assumption) ?rest10
      case hy10 => (intro w hSw; (try dsimp only at hSw); go_simp; try (with_reducible rfl))
      case rest10 =>
      try simp only [Act.put, List.setIfInBounds_toArray, List.set_cons_zero, List.set_cons_succ]
      refine wpAnyK_take (i := 4) (v := ?v11) rfl (by kernel_rfl) (by kernel_rfl) (by kernel_rfl) (by kernel_rfl) (fun _ _ _ h => h) (Or.inl ⟨by rfl, ?hy11⟩) (by assumption) ?rest11
      case hy11 => (intro w hSw; (try dsimp only at hSw); go_simp; try (with_reducible rfl))
      case rest11 =>
      try simp only [Act.put, List.setIfInBounds_toArray, List.set_cons_zero, List.set_cons_succ]
      refine wpAnyK_take (i := 5) (v := ?v12) rfl (by kernel_rfl) (by kernel_rfl) (by kernel_rfl) (by kernel_rfl) (fun _ _ _ h => h) (Or.inl ⟨by rfl, ?hy12⟩) (by assumption) ?rest12
      case hy12 => (intro w hSw; (try dsimp only at hSw); go_simp; try (with_reducible rfl))
      case rest12 =>
      try simp only [Act.put, List.setIfInBounds_toArray, List.set_cons_zero, List.set_cons_succ]
      refine wpAnyK_take (i := 6) (v := ?v13) rfl (by kernel_rfl) (by kernel_rfl) (by kernel_rfl) (by kernel_rfl) (fun _ _ _ h => h) (Or.inl ⟨by rfl, ?hy13⟩) (by assumption) ?rest13
      case hy13 => (intro w hSw; (try dsimp only at hSw); go_simp; try (with_reducible rfl))
      case rest13 =>
      try simp only [Act.put, List.setIfInBounds_toArray, List.set_cons_zero, List.set_cons_succ]
      refine wpAnyK_take (i := 7) (v := ?v14) rfl (by kernel_rfl) (by kernel_rfl) (by kernel_rfl) (by kernel_rfl) (fun _ _ _ h => h) (Or.inl ⟨by rfl, ?hy14⟩) (by assumption) ?rest14
      case hy14 => (intro w hSw; (try dsimp only at hSw); go_simp; try (with_reducible rfl))
      case rest14 =>
      try simp only [Act.put, List.setIfInBounds_toArray, List.set_cons_zero, List.set_cons_succ]
      refine wpAnyK_take (i := 8) (v := .agg #[.string ⟨#[226, 128, 166]⟩, .int .i64 1, .bool true]) rfl (by kernel_rfl) (by kernel_rfl) (by kernel_rfl) (by kernel_rfl) (fun _ _ _ h => h) (Or.inl ⟨by rfl, ?hy15⟩) (by assumption) ?rest15
      case hy15 => (intro w hSw; (try dsimp only at hSw); go_simp; try (with_reducible rfl))
      case rest15 =>
      try simp only [Act.put, List.setIfInBounds_toArray, List.set_cons_zero, List.set_cons_succ]
      refine wpAnyK_take (i := 9) (v := .pointer (some ⟨r.g, at_ * 3, none⟩)) rfl (by kernel_rfl) (by kernel_rfl) (by kernel_rfl) (by kernel_rfl) (fun _ _ _ h => h) (Or.inl ⟨by rfl, ?hy16⟩) (by assumption) ?rest16
      case hy16 => (intro w hSw; (try dsimp only at hSw); clear hSw; go_simp; done)
      case rest16 =>
      try simp only [Act.put, List.setIfInBounds_toArray, List.set_cons_zero, List.set_cons_succ]
      refine wpAnyK_ready (rs := [10]) (by kernel_rfl) (by simp) ?_
      refine AllReadyK.cons rfl (fun K hK => ?_) AllReadyK.nil
      rw [if_pos (by first | rfl | (go_simp; done) | (go_simp; rfl))]
      have h6 := hrw.set_ (k := at_) (by rw [hrl]; exact hat) ⟨dotsS, 1, true⟩
      refine wp_store_mid 42 _ _ rfl r.g (at_ * 3) (cV ⟨dotsS, 1, true⟩).toArray (by first | rfl | (go_simp; done) | (go_simp; rfl)) (by first | rfl | (go_simp; done) | (go_simp; rfl)) (fun j hj => ⟨?_, hrw.frozen _⟩) infoCell (by simp [cV, Value.oneCell']) ?_
      · rw [cV_size] at hj
        rw [hrw.cell (by rw [hrl]; exact hat) hj]
        have h3 : (cV (getC q.l[row] at_)).length = 3 := rfl
        rw [List.getElem?_eq_getElem (by omega)]
        rfl
      refine hK.out _ _ (.inl (by kernel_rfl)) ?_
      clear hK K
      try simp only [Act.put, List.setIfInBounds_toArray, List.set_cons_zero, List.set_cons_succ]
      refine wpAnyK_done (by kernel_rfl) ?_ _
      refine hKQ _ _ ?_
      clear hHd
      have hc6 := h6.1
      generalize wd.setCells r.g (at_ * 3) (cV ⟨dotsS, 1, true⟩) = w6 at *
      have hX6 : ShX w6 g (q.lay row at_ [⟨dotsS, 1, true⟩]) (.slice (some ad) q.l.length cc) L := hf w6 at_ [⟨dotsS, 1, true⟩] (by rw [overR_one (by rw [hrl]; exact hat)]; exact hc6) h6.2.1
      have hnr : ∀ b cs, Blk wd b 3 cs → ¬ b = r.g := fun b cs hb e => hX.ints hb (by rw [e]; exact hrp)
      have hB6 := hGB.only h6.2.1 (fun e => hX.ne hGB.s (by decide) (by decide) (by decide) (by rw [e]; exact hrp)) (hnr _ _ hGB.a) (hnr _ _ hGB.c) (hnr _ _ hGB.r) (hnr _ _ hGB.w)
      have hK6 : w6.heap[D]? = some (.deferred (some [])) := (h6.2.1.block D (Array.getElem?_eq_some_iff.1 hK2).1 (fun e => by
        obtain ⟨_, _, _, cur, h7, _⟩ := hrw
        rw [← e, hK2] at h7
        cases h7)).trans hK2
      have hO6 := hO2.trans h6.2.1 (fun k _ hk => by rw [hk]; exact hrp)
      clear h6 hcs hrw hrp hrg hrb hLi hf hX hO2 hK2 hnr hc6
      have a6 := hB6.a.cell 0 rfl
      have a7 := hB6.a.frozen 0
      simp only [List.getElem_toArray, List.getElem_cons_zero] at a6
      have g6 : (at_ : Int) ≤ 120 := by omega
      go_wp2
      have hX7 := hX6.set_ hB6.a 0 (.int .i64 ((at_ : Int) + 1))
      have hK7 : (w6.setCell ⟨ba, 0, none⟩ (.int .i64 ((at_ : Int) + 1))).heap[D]? = some (.deferred (some [])) := (Below.heap_setCell w6 ⟨ba, 0, none⟩ _ D (by show D ≠ ba; omega)).trans hK6
      have hO7 := hO6.setCell (p := ⟨ba, 0, none⟩) (.inr (show w.heap.size ≤ ba by omega)) (.int .i64 ((at_ : Int) + 1))
      generalize w6.setCell ⟨ba, 0, none⟩ (.int .i64 ((at_ : Int) + 1)) = w7 at *
      refine ⟨by simp, .inl ⟨_, _, rfl, run_takeDeferred hK7, ?_⟩⟩
      refine ⟨_, results_tmp rfl _ _ _, by rw [HGH.out]; rfl, ?_, ?_⟩
      · rw [HGH.out]; exact hX7.grown (grownBy_putObj' w7 D _) (fun r e => by cases e; exact ⟨_, hK7, rfl⟩)
      · exact hO7.grown (grownBy_putObj' w7 D _) (fun r e => by cases e; exact .inr (by omega))
    · have q1 : decide ((rm : Int) < (sw : Int)) = false := decide_eq_false (by omega)
      have q2 : decide (rm < sw) = false := decide_eq_false hov
      rw [if_neg hov] at hrm0
      replace hrm0 := hrm0.symm
      subst hrm0
      rw [if_neg hov] at HGH
      generalize ghostG row col rm s col (eachL t) = p at *
      obtain ⟨q, at_⟩ := p
      dsimp only at *
      refine hKF _ _ ?_
      rw [q2]
      have f1 := hGB.a.cell 0 rfl
      simp only [List.getElem_toArray, List.getElem_cons_zero] at f1
      go_wp2
      refine ⟨by simp, .inl ⟨_, _, rfl, run_takeDeferred hK, ?_⟩⟩
      refine ⟨_, results_tmp rfl _ _ _, by rw [HGH.out]; rfl, ?_, ?_⟩
      · rw [HGH.out]; exact hX.grown (grownBy_putObj' W D _) (fun r e => by cases e; exact ⟨_, hK, rfl⟩)
      · exact hO2.grown (grownBy_putObj' W D _) (fun r e => by cases e; exact .inr (by omega))
  refine (wpIn_wide (n := 5)).1 ?_
  refine wpIn_rangeFunc_ownF rfl (by decide) (gf := 43) (lb := #[.pointer (some ⟨Bn, 0, none⟩)]) rfl trivial (enters_of Tryd.func43 (by kernel_rfl) rfl)
    (each_mem 4 (by decide) Bn t (by omega) w6 (by omega) bN.cell) KpE.t (KpE.b (by omega)) (Below.refl _ _) (fun _ => rfl)
    (fun pre W => GI w W b0 ba br Bn g row col room s lv L t (valC t pre) (.func (.func 46) #[] #[.pointer (some ⟨b0, 0, none⟩), .pointer (some ⟨ba, 0, none⟩), .pointer (some ⟨b0 + 1 + 1, 0, none⟩), .pointer (some ⟨br, 0, none⟩), .pointer (some ⟨b0 + 1, 0, none⟩)]))
    (fun c pre W => c = Code.exit 0 ∧ ∃ pre0 x, pre = pre0 ++ [x] ∧ room < (ghostG row col room s col (valC t pre0)).2 - col + (cellsC s.cols x.1.2 true).length ∧ GI w W b0 ba br Bn g row col room s lv L t (valC t pre0) (.func (.func 46) #[] #[.pointer (some ⟨b0, 0, none⟩), .pointer (some ⟨ba, 0, none⟩), .pointer (some ⟨b0 + 1 + 1, 0, none⟩), .pointer (some ⟨br, 0, none⟩), .pointer (some ⟨b0 + 1, 0, none⟩)]))
    (fun pre A B row_ hs hg hr => hs.grown hg hr (by omega))
    (fun c pre A B row_ hs hg hr => by
      obtain ⟨rfl, pre0, x, rfl, hx, hs⟩ := hs
      exact ⟨rfl, pre0, x, rfl, hx, hs.grown hg hr (by omega)⟩)
    ⟨trivial, HX.out, ⟨S0.out, A5.out, C0.out, N0.out, R0.out⟩, F5.out, bN, hO⟩
    (fun x => { tmps := #[.pointer (some ⟨g, 0, none⟩), .string t, .int .i64 (row : Int), .int .i64 (col : Int), .pointer (some ⟨b0, 0, none⟩), undef, .pointer (some ⟨b0 + 1, 0, none⟩), .pointer (some ⟨b0 + 1 + 1, 0, none⟩), .int .i64 0, .pointer (some ⟨br, 0, none⟩), .bool (decide (rm < sw)), .pointer (some ⟨ba, 0, none⟩), .pointer (some ⟨ba + 1, 0, none⟩), undef, .string x.1.2, .pointer (some ⟨g, 0, none⟩), .pointer (some ⟨g, 0, none⟩), .pointer (some ⟨g, 0, none⟩), .int .i64 (s.cols : Int), .int .i64 (col : Int), .int .i64 (rm : Int), .string t, .int .i64 (sw : Int), .int .i64 (rm : Int), .bool (decide (rm < sw)), .bool (decide (rm < sw)), u26, u27, .int .i64 (col : Int), .func (.func 46) #[] #[.pointer (some ⟨b0, 0, none⟩), .pointer (some ⟨ba, 0, none⟩), .pointer (some ⟨b0 + 1 + 1, 0, none⟩), .pointer (some ⟨br, 0, none⟩), .pointer (some ⟨b0 + 1, 0, none⟩)], .string t, .func (.func 43) #[] #[.pointer (some ⟨Bn, 0, none⟩)], .int .i64 x.1.1, .string x.1.2, undef, undef, undef, undef, undef, undef, undef, undef, undef, undef, undef, undef, undef, undef, undef, undef, undef, undef], defers := [] }) ?assign ?body ?done ?stop
  case assign =>
    intro l x W K hK
    dsimp only [encC, encE]
    gi_wp2
    exact hK
  case body =>
    rintro l pre x W ⟨hop, hX, hGB, hF, hN, hO2⟩ hlt
    have hx := hck x.1 x.2
    obtain ⟨k1, k2, k3, k4, k5⟩ := hcc pre
    have hcall := ghost1_calls hX hGB k1 k4 k5 (by rw [k2]; exact hroom) (by rw [k3]; exact hn) (by omega) (by omega) (by omega) x.1.2 hx
    rw [k2] at hcall
    have f1 := hF.cell 0 rfl
    simp only [List.getElem_toArray, List.getElem_cons_zero] at f1
    have keep : ∀ W2, Only (fun k => exF g lv L k ∨ k = ba) W W2 → Blk W2 (ba + 1) 89 #[.func (.func 46) #[] #[.pointer (some ⟨b0, 0, none⟩), .pointer (some ⟨ba, 0, none⟩), .pointer (some ⟨b0 + 1 + 1, 0, none⟩), .pointer (some ⟨br, 0, none⟩), .pointer (some ⟨b0 + 1, 0, none⟩)]] ∧ Boxed W2 Bn 9 (.string t) ∧ Only (exF g lv L) w W2 ∧ KeepsOthers W W2 := fun W2 ho => ⟨hF.to (ho.block _ hF.lt (fun h => h.elim (hX.ne hF (by decide) (by decide) (by decide)) (by omega))), Blk.to hN (ho.block _ (Blk.lt hN) (fun h => h.elim (hX.ne hN (by decide) (by decide) (by decide)) (by omega))), hO2.trans ho (fun k hk h => h.elim id (fun e => by omega)), ho.others (fun k hk _ => hk.elim (fun h => by obtain ⟨cs, t, hc, _⟩ := hX.cells h; exact ⟨cs, t, _, hc⟩) (fun e => ⟨#[.int .i64 (((ghostG row col room s col (valC t pre)).2 : Nat) : Int)], 3, (0, 0), by rw [e]; exact hGB.a⟩))⟩
    by_cases hfit : room < (ghostG row col room s col (valC t pre)).2 - col + (cellsC s.cols x.1.2 true).length
    · gi_wp2_with (refine ⟨trivial, ?_⟩; gi_at_call 46; refine CallsIn.mono (calls_round (hcall.mono (R' := fun e W2 => e = .returned (.bool false) ∧ Only (fun k => exF g lv L k ∨ k = ba) W W2 ∧ ShX W2 g (ghostG row col room s col (valC t pre)).1 lv L ∧ GB W2 b0 ba (b0 + 1 + 1) br (b0 + 1) g (ghostG row col room s col (valC t pre)).2 col room row) (fun e W2 h => h.2.elim (fun h2 => ⟨h2.2.1, h.1, h2.2.2⟩) (fun h2 => absurd hfit h2.1)))) ?_; rintro _ W2 ⟨rfl, ho, hX2, hB2⟩)
      obtain ⟨hF2, hN2, hO3, hko⟩ := keep W2 ho
      exact ⟨hko, rfl, pre, x, rfl, hfit, ⟨hop, hX2, hB2, hF2, hN2, hO3⟩⟩
    · gi_wp2_with (refine ⟨trivial, ?_⟩; gi_at_call 46; refine CallsIn.mono (calls_round (hcall.mono (R' := fun e W2 => e = .returned (.bool true) ∧ Only (fun k => exF g lv L k ∨ k = ba) W W2 ∧ ShX W2 g ((ghostG row col room s col (valC t pre)).1.lay row (ghostG row col room s col (valC t pre)).2 (cellsC s.cols x.1.2 true)) lv L ∧ GB W2 b0 ba (b0 + 1 + 1) br (b0 + 1) g ((ghostG row col room s col (valC t pre)).2 + (cellsC s.cols x.1.2 true).length) col room row) (fun e W2 h => h.2.elim (fun h2 => absurd h2.1 hfit) (fun h2 => ⟨h2.2.1, h.1, h2.2.2⟩)))) ?_; rintro _ W2 ⟨rfl, ho, hX2, hB2⟩)
      obtain ⟨hF2, hN2, hO3, hko⟩ := keep W2 ho
      have e1 : ghostG row col room s col (valC t (pre ++ [x])) = ((ghostG row col room s col (valC t pre)).1.lay row (ghostG row col room s col (valC t pre)).2 (cellsC s.cols x.1.2 true), (ghostG row col room s col (valC t pre)).2 + (cellsC s.cols x.1.2 true).length) := by rw [valC_snoc, ghostG_app _ _ _ _ hop, ghostG_one (by rw [k2]; exact hfit), k2]; rfl
      have e2 : ghostOpen row col room s col (valC t (pre ++ [x])) := by rw [valC_snoc]; exact ghostOpen_app _ _ _ _ hop ⟨by rw [k2]; exact hfit, trivial⟩
      refine ⟨hko, ⟨Eq.trans hN2 (show W.heap[Bn]? = _ from hN).symm, hko.walks⟩, ⟨e2, ?_, ?_, hF2, hN2, hO3⟩⟩
      · rw [e1]; exact hX2
      · rw [e1]; exact hB2
  case done =>
    rintro D ys W hD hys hI hK
    exact hfin D W _ (by omega) (by rw [hys]) hI hK
  case stop =>
    rintro D c pre W hD ⟨z, hz⟩ ⟨rfl, pre0, x, rfl, hfit, hI⟩ hK
    refine wpIn_exit ?_
    refine hfin D W (valC t pre0) (by omega) ?_ hI hK
    rw [← hz, valC_snoc, List.append_assoc, ghostG_app _ _ _ _ hI.op, List.singleton_append, ghostG_stop (by rw [(hcc pre0).2.1]; exact hfit)]
end Go.Proofs.YtledplnlcjfafaaDoorL

