/- Parts of the proof of the law that the last file states; declarations that nothing mentions are left out by a program. No conditions. -/
import Derived.BigQuiet
import Derived.Test.YtledplnlcjfafaaDoorLLayW1q
import Derived.Test.YtledplnlcjfafaaDoorLLayHq
import Derived.Test.YtledplnlcjfafaaDoorLHeldq
set_option linter.unusedVariables false
set_option linter.unusedSimpArgs false
namespace Go.Proofs.YtledplnlcjfafaaDoorL
open Go Go.RowKit Go.Proofs.YtledplnlcjfafaaDoorW.PrintWords
theorem lit_row (w : World) (l : List TC) (cs : Array Value) (h : cs = (rowV l).toArray) (hl : l.length ≤ 1000) : RowAt (w.alloc (.cells cs 42)) ⟨w.heap.size, l.length, l.length⟩ l := by
  subst h
  exact ⟨rfl, Nat.le_refl _, by unfold maxLen; show l.length ≤ _; omega, _, heap_alloc_new w _, by rw [List.size_toArray, rowV_len], by rw [List.toList_toArray, List.take_of_length_le (by rw [rowV_len]; exact Nat.le_refl _)]⟩
theorem exec_step {P : Program} {ops : Array Oper} {o : Oper} {a : Act} {W W' : World} {K : Act → World → Prop} {Q : Exit → Act → World → Prop} (hw : Region.wanted o (yielded ops a.tmps) = true) {v : Value} (hrun : (execOp a.eval o).run P W = .ok (.value v) W') (h : K (a.put o.dst v) W') : if Region.wanted o (yielded ops a.tmps) = true then Oper.wp P o a W K Q else K (a.put o.dst undef) W := by
  rw [if_pos hw]
  unfold Oper.wp
  rw [hrun]
  exact h
theorem addr_add_block (a : Addr) (n : Nat) : (a.add n).block = a.block := by unfold Addr.add; split <;> rfl
theorem infoInt1 : (Tryd.prog.info? 3).map (·.size) = some 1 := by kernel_rfl
theorem spine_one {P : Nat → Prop} {w : World} {v : Value} {L : List RR} (h : rrK.Q 40 w 0 P v L) : v.oneCell' = true := by
  obtain ⟨A, c, rfl, _⟩ := Kd.Q_slice h
  rfl
set_option maxRecDepth 100000 in
set_option maxHeartbeats 4000000 in
theorem cells_calls {w : World} {g cols : Nat} (hg : w.cell? ⟨g, 0, none⟩ = some (.int .i64 (cols : Int))) (hlt : g < w.heap.size) (c : ByteArray) (h0 : 0 < c.size) (h1 : c.size ≤ 1000000) (dim : Bool) :
    Calls Tryd.prog 30 #[.pointer (some ⟨g, 0, none⟩), .string c, .bool dim] w fun e w' => ∃ r : RR, e = .returned r.v ∧ r.n = (cellsC cols c dim).length ∧ w.heap.size ≤ r.g ∧ RowAt w' r (cellsC cols c dim) ∧ Below w.heap.size w w' := by
  have X := Hd.mk (fun w => wide2_calls c h0 h1 w)
  have Y := Hd.mk (fun w => show_calls c h0 h1 w)
  have HG := Hd.mk hg
  have HLT := Hd.mk hlt
  have HE : Hd (cellsC cols c dim = if wideC c = 1 then [⟨showC c, 1, dim⟩] else if cols = 1 then [⟨wrongS, 1, dim⟩] else [⟨showC c, 2, dim⟩, halfC dim]) := ⟨rfl⟩
  obtain ⟨l, hl⟩ : ∃ l, cellsC cols c dim = l := ⟨_, rfl⟩
  rw [hl] at HE
  rw [hl]
  have hwc := wideC_cases c
  clear hg hlt h0 h1 hl
  generalize wideC c = n at *
  generalize showC c = t at *
  go_enter Tryd.func30, Tryd.ntmps30
  go_wp2_with fail
  go_at_call 47
  with_reducible refine (X.out _).mono ?_
  rintro _ w2 ⟨rfl, hb⟩
  have HB2 := Hd.mk hb
  clear hb X
  by_cases hn : n = 1
  · subst hn
    rw [if_pos rfl] at HE
    go_wp2_with fail
    go_at_call 48
    with_reducible refine (Y.out _).mono ?_
    rintro _ w3 ⟨rfl, hb⟩
    have HB3 := Hd.mk (HB2.out.trans (hb.mono HB2.out.size))
    clear hb Y
    have HR := Hd.mk (lit_row w3 [⟨t, 1, dim⟩] #[.string t, .int .i64 1, .bool dim] rfl (by simp))
    go_wp2
    go_ret
    refine ⟨⟨w3.heap.size, 1, 1⟩, rfl, by rw [HE.out]; rfl, HB3.out.size, by rw [HE.out]; exact HR.out, HB3.out.alloc HB3.out.size _⟩
  · have hn1 : ((n : Int) == 1) = false := by simp; omega
    rw [if_neg hn] at HE
    have hg2 := (HB2.out.cell (p := ⟨g, 0, none⟩) HLT.out).trans HG.out
    by_cases hc : cols = 1
    · subst hc
      rw [if_pos rfl] at HE
      clear hn hwc Y
      have HR := Hd.mk (lit_row w2 [⟨wrongS, 1, dim⟩] #[.string ⟨#[239, 191, 189]⟩, .int .i64 1, .bool dim] rfl (by simp))
      go_wp2
      go_ret
      refine ⟨⟨w2.heap.size, 1, 1⟩, rfl, by rw [HE.out]; rfl, HB2.out.size, by rw [HE.out]; exact HR.out, HB2.out.alloc HB2.out.size _⟩
    · have hc1 : ((cols : Int) == 1) = false := by simp; omega
      rw [if_neg hc] at HE
      clear hn hc hwc
      go_wp2_with fail
      go_at_call 48
      with_reducible refine (Y.out _).mono ?_
      rintro _ w3 ⟨rfl, hb⟩
      have HB3 := Hd.mk (HB2.out.trans (hb.mono HB2.out.size))
      clear hb Y
      have HR := Hd.mk (lit_row w3 [⟨t, 2, dim⟩, halfC dim] #[.string t, .int .i64 2, .bool dim, .string ⟨#[]⟩, .int .i64 0, .bool dim] rfl (by simp))
      go_wp2
      go_ret
      refine ⟨⟨w3.heap.size, 2, 2⟩, rfl, by rw [HE.out]; rfl, HB3.out.size, by rw [HE.out]; exact HR.out, HB3.out.alloc HB3.out.size _⟩
set_option maxRecDepth 100000 in
set_option maxHeartbeats 4000000 in
theorem srow_calls {P : Nat → Prop} {w : World} {g : Nat} {s : Sh} (h : ShAt P w g s) (hP : ∀ k, w.heap.size ≤ k → P k) (h1 : 1 ≤ s.cols) (h2 : s.cols ≤ 120) (hn : s.l.length ≤ 100000) :
    Calls Tryd.prog 23 #[.pointer (some ⟨g, 0, none⟩)] w fun e w' => e = .returned (.tuple #[]) ∧ ShAt P w' g s.fresh ∧ Only P w w' := by
  obtain ⟨lv, L, h⟩ := h
  have hlen := Hd.mk h.r.len
  obtain ⟨A, c, rfl, _⟩ := Kd.Q_slice h.r.q
  have HS := Hd.mk h
  have HP := Hd.mk hP
  have HN := Hd.mk hn
  clear h hP hn
  go_enter Tryd.func23, Tryd.ntmps23
  go_upto_region 0 with fail
  rename_i KQ hKQ
  refine regionK (fun w' : World => w'.cell? ⟨g, 1, none⟩ = some (.slice A L.length c) ∧ w'.cell? ⟨g, 0, none⟩ = some (.int .i64 (s.cols : Int))) 16 (by kernel_rfl) (fun wd hb => ?_)
  replace HS := Hd.mk (HS.out.below hb)
  have HB := Hd.mk hb
  clear hb
  have hHd : (fun w' : World => w'.cell? ⟨g, 1, none⟩ = some (.slice A L.length c) ∧ w'.cell? ⟨g, 0, none⟩ = some (.int .i64 (s.cols : Int))) wd := ⟨HS.out.b.cell 1 rfl, HS.out.b.cell 0 rfl⟩
  refine wpAnyK_take (i := 0) (v := ?v1) rfl (by kernel_rfl) (by kernel_rfl) (by kernel_rfl) (by kernel_rfl) (fun _ _ _ h => h) (Or.inl ⟨by rfl, ?hy1⟩) (by assumption) ?rest1
  case hy1 => (intro w hSw; (try dsimp only at hSw); go_simp; try (with_reducible rfl))
  case rest1 =>
  try simp only [Act.put, List.setIfInBounds_toArray, List.set_cons_zero, List.set_cons_succ]
  refine wpAnyK_take (i := 1) (v := ?v2) rfl (by kernel_rfl) (by kernel_rfl) (by kernel_rfl) (by kernel_rfl) (fun _ _ _ h => h) (Or.inl ⟨by rfl, ?hy2⟩) (by assumption) ?rest2
  case hy2 => (intro w hSw; (try dsimp only at hSw); go_simp; try (with_reducible rfl))
  case rest2 =>
  try simp only [Act.put, List.setIfInBounds_toArray, List.set_cons_zero, List.set_cons_succ]
  refine wpAnyK_take (i := 2) (v := ?v3) rfl (by kernel_rfl) (by kernel_rfl) (by kernel_rfl) (by kernel_rfl) (fun _ _ _ h => h) (Or.inl ⟨by rfl, ?hy3⟩) (by assumption) ?rest3
  case hy3 => (intro w hSw; (try dsimp only at hSw); go_simp; try (with_reducible rfl))
  case rest3 =>
  try simp only [Act.put, List.setIfInBounds_toArray, List.set_cons_zero, List.set_cons_succ]
  refine wpAnyK_take (i := 3) (v := ?v4) rfl (by kernel_rfl) (by kernel_rfl) (by kernel_rfl) (by kernel_rfl) (fun _ _ _ h => h) (Or.inl ⟨by rfl, ?hy4⟩) (by assumption) ?rest4
  case hy4 => (intro w hSw; (try dsimp only at hSw); go_simp; try (with_reducible rfl))
  case rest4 =>
  try simp only [Act.put, List.setIfInBounds_toArray, List.set_cons_zero, List.set_cons_succ]
  refine wpAnyK_take (i := 4) (v := ?v5) rfl (by kernel_rfl) (by kernel_rfl) (by kernel_rfl) (by kernel_rfl) (fun _ _ _ h => h) (Or.inl ⟨by rfl, ?hy5⟩) (by assumption) ?rest5
  case hy5 => (intro w hSw; (try dsimp only at hSw); go_simp; try (with_reducible rfl))
  case rest5 =>
  try simp only [Act.put, List.setIfInBounds_toArray, List.set_cons_zero, List.set_cons_succ]
  refine wpAnyK_take (i := 7) (v := ?v6) rfl (by kernel_rfl) (by kernel_rfl) (by kernel_rfl) (by kernel_rfl) (fun _ _ _ h => h) (Or.inl ⟨by rfl, ?hy6⟩) (by assumption) ?rest6
  case hy6 => (intro w hSw; (try dsimp only at hSw); go_simp; try (with_reducible rfl))
  case rest6 =>
  try simp only [Act.put, List.setIfInBounds_toArray, List.set_cons_zero, List.set_cons_succ]
  refine wpAnyK_take (i := 8) (v := ?v7) rfl (by kernel_rfl) (by kernel_rfl) (by kernel_rfl) (by kernel_rfl) (fun _ _ _ h => h) (Or.inl ⟨by rfl, ?hy7⟩) (by assumption) ?rest7
  case hy7 => (intro w hSw; (try dsimp only at hSw); go_simp; try (with_reducible rfl))
  case rest7 =>
  try simp only [Act.put, List.setIfInBounds_toArray, List.set_cons_zero, List.set_cons_succ]
  refine wpAnyK_take (i := 9) (v := ?v8) rfl (by kernel_rfl) (by kernel_rfl) (by kernel_rfl) (by kernel_rfl) (fun _ _ _ h => h) (Or.inl ⟨by rfl, ?hy8⟩) (by assumption) ?rest8
  case hy8 => (intro w hSw; (try dsimp only at hSw); go_simp; try (with_reducible rfl))
  case rest8 =>
  try simp only [Act.put, List.setIfInBounds_toArray, List.set_cons_zero, List.set_cons_succ]
  refine wpAnyK_take (i := 10) (v := ?v9) rfl (by kernel_rfl) (by kernel_rfl) (by kernel_rfl) (by kernel_rfl) (fun _ _ _ h => h) (Or.inl ⟨by rfl, ?hy9⟩) (by assumption) ?rest9
  case hy9 => (intro w hSw; (try dsimp only at hSw); go_simp; try (with_reducible rfl))
  case rest9 =>
  try simp only [Act.put, List.setIfInBounds_toArray, List.set_cons_zero, List.set_cons_succ]
  refine wpAnyK_ready (rs := [5]) (by kernel_rfl) (by simp) ?_
  refine AllReadyK.cons rfl (fun K hK => ?_) AllReadyK.nil
  go_simp
  go_at_call 41
  have XB := blankc_calls wd
  rw [show (cV blankC).toArray = #[.string ⟨#[32]⟩, .int .i64 1, .bool false] from rfl] at XB
  with_reducible refine XB.mono ?_
  rintro _ wr ⟨rfl, hb⟩
  clear XB
  replace HS := Hd.mk (HS.out.below hb)
  replace HB := Hd.mk (HB.out.trans (hb.mono HB.out.size))
  clear hb hHd
  have hHd : (fun w' : World => w'.cell? ⟨g, 1, none⟩ = some (.slice A L.length c) ∧ w'.cell? ⟨g, 0, none⟩ = some (.int .i64 (s.cols : Int))) wr := ⟨HS.out.b.cell 1 rfl, HS.out.b.cell 0 rfl⟩
  go_simp
  refine hK.out _ _ (.inr hHd) ?_
  clear hK K
  try simp only [Act.put, List.setIfInBounds_toArray, List.set_cons_zero, List.set_cons_succ]
  refine wpAnyK_ready (rs := [6]) (by kernel_rfl) (by simp) ?_
  refine AllReadyK.cons rfl (fun K hK => ?_) AllReadyK.nil
  refine exec_step (by first | rfl | (go_simp; done) | (go_simp; rfl)) (v := .slice (some ⟨wr.heap.size, 0, none⟩) 1 1) (W' := wr.alloc (.cells (cV blankC).toArray 42)) (by first | (go_simp; done) | (go_simp; rfl)) ?_
  have hal := below_alloc (Below.refl _ wr) (.cells (cV blankC).toArray 42)
  have BB := Hd.mk (Blk.new wr 42 (cV blankC).toArray)
  replace HS := Hd.mk (HS.out.below hal)
  replace HB := Hd.mk (HB.out.trans (hal.mono HB.out.size))
  clear hal hHd
  have hHd : (fun w' : World => w'.cell? ⟨g, 1, none⟩ = some (.slice A L.length c) ∧ w'.cell? ⟨g, 0, none⟩ = some (.int .i64 (s.cols : Int))) _ := ⟨HS.out.b.cell 1 rfl, HS.out.b.cell 0 rfl⟩
  have XR := Hd.mk (repeat_calls BB.out h1 (by omega))
  generalize wr.alloc (.cells (cV blankC).toArray 42) = wa at *
  generalize wr.heap.size = ga at *
  refine hK.out _ _ (.inr hHd) ?_
  clear hK K
  try simp only [Act.put, List.setIfInBounds_toArray, List.set_cons_zero, List.set_cons_succ]
  refine wpAnyK_ready (rs := [11]) (by kernel_rfl) (by simp) ?_
  refine AllReadyK.cons rfl (fun K hK => ?_) AllReadyK.nil
  go_simp
  go_at_call 40
  with_reducible refine XR.out.mono ?_
  rintro _ wp ⟨rn, rfl, hrn, hrg, hra, hb⟩
  have HRN : Hd (∀ r ∈ L, r.g ≠ rn.g) := ⟨fun r hr e => by have := HS.out.r.lt r hr; omega⟩
  have HRG : Hd (P rn.g) := ⟨HP.out _ (Nat.le_trans HB.out.size hrg)⟩
  have HRA := Hd.mk hra
  replace HS := Hd.mk (HS.out.below hb)
  replace HB := Hd.mk (HB.out.trans (hb.mono HB.out.size))
  clear hrn hrg hra hb XR hHd BB
  have hHd : (fun w' : World => w'.cell? ⟨g, 1, none⟩ = some (.slice A L.length c) ∧ w'.cell? ⟨g, 0, none⟩ = some (.int .i64 (s.cols : Int))) wp := ⟨HS.out.b.cell 1 rfl, HS.out.b.cell 0 rfl⟩
  go_simp
  refine hK.out _ _ (.inr hHd) ?_
  clear hK K
  try simp only [Act.put, List.setIfInBounds_toArray, List.set_cons_zero, List.set_cons_succ]
  refine wpAnyK_ready (rs := [12]) (by kernel_rfl) (by simp) ?_
  refine AllReadyK.cons rfl (fun K hK => ?_) AllReadyK.nil
  refine exec_step (by first | rfl | (go_simp; done) | (go_simp; rfl)) (v := .slice (some ⟨wp.heap.size, 0, none⟩) 1 1) (W' := wp.alloc (.cells #[.slice (some ⟨rn.g, 0, none⟩) rn.n rn.c] 40)) (by first | (unfold RR.v; go_simp; done) | (unfold RR.v; go_simp; rfl)) ?_
  have hb0 := hHd
  clear hHd
  have hHd : (fun w' : World => w'.cell? ⟨g, 1, none⟩ = some (.slice A L.length c) ∧ w'.cell? ⟨g, 0, none⟩ = some (.int .i64 (s.cols : Int))) (wp.alloc (.cells #[.slice (some ⟨rn.g, 0, none⟩) rn.n rn.c] 40)) := ⟨Lib.cell?_alloc_some _ hb0.1, Lib.cell?_alloc_some _ hb0.2⟩
  clear hb0
  refine hK.out _ _ (.inr hHd) ?_
  clear hK K
  try simp only [Act.put, List.setIfInBounds_toArray, List.set_cons_zero, List.set_cons_succ]
  refine wpAnyK_ready (rs := [13]) (by kernel_rfl) (by simp) ?_
  refine AllReadyK.cons rfl (fun K hK => ?_) AllReadyK.nil
  refine Kd.Q_append_step rrK (w0 := wp) (W := wp) 0 (by first | rfl | (go_simp; done) | (go_simp; rfl)) (.tmp 6) (.tmp 14) 36 40 (.slice none 0 0) 24 rfl Tryd.underlying36 infoRowz rfl (by decide) (by omega) (.slice A L.length c) L rn [RR.v rn] P (fun _ => False) rfl rfl rfl (fun _ hk => hk.elim) (fun k hk => HP.out k (Nat.le_trans HB.out.size hk)) HS.out.r.q (Below.refl _ _) (Nat.zero_le _) (by rw [hlen.out]; have := HN.out; omega) ?_
  intro v1 w3 hq_ hb_ hg_ ha_
  have hra3 := HS.out.r.app HRA.out HRN.out HRG.out hq_ hg_
  obtain ⟨hs4, ho4⟩ := HS.out.spine_ hg_ hra3
  have HS4 := Hd.mk hs4
  have HO4 := Hd.mk ((Only.of_below (F := P) HB.out).trans ho4 (fun _ _ hk => hk))
  have hne : some g ≠ (Value.slice A L.length c).ownBlock := Kd.Q_ne HS.out.r.q HS.out.b (by decide)
  have B1 := Hd.mk (HS.out.b.to (hg_.block g HS.out.b.lt hne))
  clear hq_ hb_ hg_ ha_ hra3 hs4 ho4 hne HS HB HRA HRN HRG hHd
  have hHd : (fun w' : World => w'.cell? ⟨g, 1, none⟩ = some (.slice A L.length c) ∧ w'.cell? ⟨g, 0, none⟩ = some (.int .i64 (s.cols : Int))) w3 := ⟨B1.out.cell 1 rfl, B1.out.cell 0 rfl⟩
  refine hK.out _ _ (.inr hHd) ?_
  clear hK K
  try simp only [Act.put, List.setIfInBounds_toArray, List.set_cons_zero, List.set_cons_succ]
  refine wpAnyK_ready (rs := [14]) (by kernel_rfl) (by simp) ?_
  refine AllReadyK.cons rfl (fun K hK => ?_) AllReadyK.nil
  refine exec_step (by first | rfl | (go_simp; done) | (go_simp; rfl)) (v := .pointer (some ⟨g, 0, none⟩)) (W' := w3) (by first | (go_simp; done) | (go_simp; rfl)) ?_
  refine hK.out _ _ (.inr hHd) ?_
  clear hK K
  try simp only [Act.put, List.setIfInBounds_toArray, List.set_cons_zero, List.set_cons_succ]
  refine wpAnyK_take (i := 15) (v := ?v10) rfl (by kernel_rfl) (by kernel_rfl) (by kernel_rfl) (by kernel_rfl) (fun _ _ _ h => h) (Or.inl ⟨by rfl, ?hy10⟩) (by assumption) ?rest10
  case hy10 => (intro w hSw; (try dsimp only at hSw); go_simp; try (with_reducible rfl))
  case rest10 =>
  try simp only [Act.put, List.setIfInBounds_toArray, List.set_cons_zero, List.set_cons_succ]
  refine wpAnyK_ready (rs := [16]) (by kernel_rfl) (by simp) ?_
  refine AllReadyK.cons rfl (fun K hK => ?_) AllReadyK.nil
  rw [if_pos (by first | rfl | (go_simp; done) | (go_simp; rfl))]
  refine cell_step rfl rfl (g := g) (i := 1) (v := v1) (by first | rfl | (go_simp; done) | (go_simp; rfl)) (by first | rfl | (go_simp; done) | (go_simp; rfl)) (B1.out.cell 1 rfl) (B1.out.frozen 1) info_spine1 (spine_one HS4.out.r.q) ?_
  refine hK.out _ _ (.inl (by kernel_rfl)) ?_
  clear hK K
  try simp only [Act.put, List.setIfInBounds_toArray, List.set_cons_zero, List.set_cons_succ]
  refine wpAnyK_done (by kernel_rfl) ?_ _
  refine hKQ _ _ ?_
  clear hHd B1
  generalize w3.setCell ⟨g, 1, none⟩ v1 = w4 at *
  have hc2 := HS4.out.b.cell 2 rfl
  have hf2 := HS4.out.b.frozen 2
  go_wp2
  go_end0
  have h5 := HS4.out.col_ 0
  exact ⟨rfl, ⟨v1, L ++ [rn], h5⟩, HO4.out.setCell (.inl HS4.out.pt) _⟩
set_option maxRecDepth 100000 in
set_option maxHeartbeats 4000000 in
theorem sput_calls {P : Nat → Prop} {w : World} {g : Nat} {s : Sh} (h : ShAt P w g s) (hk : SK s) (hP : ∀ k, w.heap.size ≤ k → P k) (hn : s.l.length ≤ 10000) (c : ByteArray) (hc : 0 < c.size ∧ c.size ≤ 1200) :
    Calls Tryd.prog 26 #[.pointer (some ⟨g, 0, none⟩), .string c] w fun e w' => e = .returned (.tuple #[.int .i64 ((s.at_ c).1 : Int), .int .i64 ((s.at_ c).2 : Int)]) ∧ ShAt P w' g (s.put c) ∧ Only P w w' := by
  have hcl := cellsC_le s.cols c false hk.c1
  have X := Hd.mk (cells_calls (h.cols_.1) h.lt c hc.1 (by omega) false)
  have HE : Hd (s.put c = { (s.room (cellsC s.cols c false).length).lay ((s.room (cellsC s.cols c false).length).l.length - 1) (s.room (cellsC s.cols c false).length).col (cellsC s.cols c false) with col := (s.room (cellsC s.cols c false).length).col + (cellsC s.cols c false).length }) := ⟨put_eq s c⟩
  have HA : Hd (s.at_ c = ((s.room (cellsC s.cols c false).length).l.length - 1, (s.room (cellsC s.cols c false).length).col)) := ⟨at_eq s c⟩
  have HRM := Hd.mk (hk.room hcl.2.2.1)
  obtain ⟨p, hp⟩ : ∃ p, s.put c = p := ⟨_, rfl⟩
  obtain ⟨at_, hat⟩ : ∃ p, s.at_ c = p := ⟨_, rfl⟩
  rw [hp] at HE
  rw [hat] at HA
  rw [hp, hat]
  clear hp hat
  generalize cellsC s.cols c false = x at *
  have HS := Hd.mk h.bound
  have HLT := Hd.mk h.lt
  have HP := Hd.mk hP
  have HN := Hd.mk hn
  have HK := Hd.mk hk
  have HCL := Hd.mk hcl
  clear h hk hP hn hcl hc
  go_enter Tryd.func26, Tryd.ntmps26
  go_wp2_with fail
  go_at_call 30
  with_reducible refine (X.out).mono ?_
  rintro _ w2 ⟨rx, rfl, hrn, hrg, hra, hb⟩
  have HB := Hd.mk hb
  have HX := Hd.mk hra
  have HXN := Hd.mk hrn
  have HS2 := Hd.mk (((HS.out.below hb).mono (P' := fun k => P k ∧ k ≠ rx.g) (fun k hk => ⟨hk.1, by have := hk.2; omega⟩)))
  have HP2 : Hd (∀ k, w2.heap.size ≤ k → P k ∧ k ≠ rx.g) := ⟨fun k hk => ⟨HP.out k (Nat.le_trans hb.size hk), by have := hra.lt; omega⟩⟩
  have HL : Hd ((p = { (s.room x.length).lay ((s.room x.length).l.length - 1) (s.room x.length).col x with col := (s.room x.length).col + x.length }) ∧ (at_ = ((s.room x.length).l.length - 1, (s.room x.length).col))) := ⟨⟨HE.out, HA.out⟩⟩
  obtain ⟨c0, c2⟩ := HS2.out.cols_
  unfold RR.v
  have hsm : (s.col : Int) ≤ 120 := by have h1 := HK.out.col; have h2 := HK.out.c2; omega
  have hxm : (x.length : Int) ≤ 2 := by have h1 := HCL.out; omega
  clear hb hra hrn hrg X HS HE HA
  by_cases hr : s.cols < s.col + x.length
  · have hd : decide ((s.cols : Int) < (s.col : Int) + (x.length : Int)) = true := decide_eq_true (by omega)
    have HRE : Hd (s.room x.length = s.fresh) := ⟨by unfold Sh.room; rw [if_pos hr]⟩
    rw [HXN.out]
    clear hr
    go_wp2_with fail
    go_quiet (fail)
    have hbq := pw_below_drewN (Below.refl w2.heap.size w2) nq
    replace HS2 := Hd.mk (HS2.out.below hbq)
    replace HX := Hd.mk (HX.out.to (hbq.block rx.g HX.out.lt))
    replace HB := Hd.mk (HB.out.trans (hbq.mono HB.out.size))
    replace HP2 : Hd (∀ k, (w2.drewN nq).heap.size ≤ k → P k ∧ k ≠ rx.g) := Hd.mk (fun k hk => HP2.out k (Nat.le_trans hbq.size hk))
    clear hbq c0 c2
    generalize w2.drewN nq = w2 at *
    go_wp2_with fail
    go_at_call 23
    with_reducible refine (srow_calls HS2.out HP2.out HK.out.c1 HK.out.c2 (by have := HN.out; omega)).mono ?_
    rintro _ w3 ⟨rfl, hs, ho⟩
    have HS3 := Hd.mk hs
    have HX3 := Hd.mk (HX.out.to (ho.block rx.g HX.out.lt (fun e => e.2 rfl)))
    have HO3 := Hd.mk ((Only.of_below (F := P) HB.out).trans ho (fun _ _ hk => hk.1))
    have HP3 : Hd (∀ k, w3.heap.size ≤ k → P k) := ⟨fun k hk => HP.out k (Nat.le_trans HB.out.size (Nat.le_trans ho.size hk))⟩
    rw [← HRE.out] at HS3
    clear hs ho HS2 HX HB HP2 HRE
    generalize s.room x.length = q at *
    obtain ⟨hqk, hq1, hq2, hq3, hq4⟩ := HRM.out
    have hqn := hqk.n
    obtain ⟨m, hm⟩ : ∃ m, q.l.length = m + 1 := ⟨q.l.length - 1, by omega⟩
    have hm9 : m ≤ 10000 := by have := HN.out; omega
    obtain ⟨lv, L, hs3⟩ := HS3.out
    have hi : m < q.l.length := by omega
    have hrl := (hqk.rows _ (List.getElem_mem hi)).1
    obtain ⟨cc, ad, r0, rfl, _⟩ := hs3.look hi
    have e1 := hs3.b.cell 1 rfl
    have e2 := hs3.b.cell 2 rfl
    unfold shV at e1 e2
    rw [hm] at e1
    simp only [List.getElem_toArray, List.getElem_cons_zero, List.getElem_cons_succ] at e1 e2
    have m1 : (0 : Int) ≤ (m : Int) := Int.natCast_nonneg _
    have m2 : (m : Int) ≤ 10000 := by omega
    go_wp2_with fail
    go_quiet (fail)
    have hbq := pw_below_drewN (Below.refl w3.heap.size w3) nq
    have hs4 := hs3.below hbq
    replace HX3 := Hd.mk (HX3.out.to (hbq.block rx.g HX3.out.lt))
    replace HO3 := Hd.mk (HO3.out.trans (Only.of_below (F := P) hbq) (fun _ _ hk => hk))
    clear hbq hs3 HS3 e1 e2 HP3
    generalize w3.drewN nq = w4 at *
    obtain ⟨cc', ad', r, e, hcs, hrow, hrp, hrg, hrb, hLi, hf⟩ := hs4.look hi
    cases e
    obtain ⟨n4, c4⟩ : r.n = s.cols ∧ s.cols ≤ r.c := ⟨by rw [hrow.1, hrl, hq2], by have := hrow.2.1; rw [hrow.1, hrl, hq2] at this; exact this⟩
    have HS4 := Hd.mk hs4
    have HL4 := Hd.mk hLi
    have HG4 := Hd.mk (And.intro hrg (And.intro hrb hrp.1))
    clear hs4 hcs hrow hrp hrg hrb hLi hf
    go_upto_region 5 with fail
    rename_i KQ hKQ
    refine regionK (fun w' : World => w'.cell? ⟨g, 1, none⟩ = some (.slice (some ad) (m + 1) cc) ∧ w'.cell? ⟨g, 2, none⟩ = some (.int .i64 (q.col : Int)) ∧ w'.cell? (ad.add m) = some (.slice (some ⟨r.g, 0, none⟩) s.cols r.c)) 18 (by kernel_rfl) (fun wd hb => ?_)
    replace HS4 := Hd.mk (HS4.out.below hb)
    replace HX3 := Hd.mk (HX3.out.to (hb.block rx.g HX3.out.lt))
    replace HO3 := Hd.mk (HO3.out.trans (Only.of_below (F := P) hb) (fun _ _ hk => hk))
    clear hb
    obtain ⟨cc', ad', r', e, hcs, hrow, hrp, hrg, hrb, hLi, hf⟩ := HS4.out.look hi
    cases e
    obtain rfl : r = r' := Option.some.inj (HL4.out.symm.trans hLi)
    have hHd : (fun w' : World => w'.cell? ⟨g, 1, none⟩ = some (.slice (some ad) (m + 1) cc) ∧ w'.cell? ⟨g, 2, none⟩ = some (.int .i64 (q.col : Int)) ∧ w'.cell? (ad.add m) = some (.slice (some ⟨r.g, 0, none⟩) s.cols r.c)) wd := ⟨by have := HS4.out.b.cell 1 rfl; rw [hm] at this; exact this, HS4.out.b.cell 2 rfl, by rw [← n4]; exact hcs⟩
    have f1 : (0 : Int) ≤ (q.col : Int) := Int.natCast_nonneg _
    have hx2 := HCL.out
    have f2 : (q.col : Int) ≤ (s.cols : Int) := by omega
    have f3 : q.col ≤ s.cols := by omega
    have f4 : ¬ r.c = q.col := by omega
    have f5 : q.col ≤ r.c := by omega
    have f6 : (m : Int) < ((m + 1 : Nat) : Int) := by omega
    have f7 : m < m + 1 := by omega
    have f9 : (m : Int) < (m : Int) + 1 := by omega
    have f8 : (q.col : Int) ≤ 120 := by have := HK.out.c2; omega
    refine wpAnyK_take (i := 0) (v := ?v11) rfl (by kernel_rfl) (by kernel_rfl) (by kernel_rfl) (by kernel_rfl) (fun _ _ _ h => h) (Or.inl ⟨by rfl, ?hy11⟩) (by assumption) ?rest11
    case hy11 => (intro w hSw; (try dsimp only at hSw); go_simp; try (with_reducible rfl))
    case rest11 =>
    try simp only [Act.put, List.setIfInBounds_toArray, List.set_cons_zero, List.set_cons_succ]
    refine wpAnyK_take (i := 1) (v := ?v12) rfl (by kernel_rfl) (by kernel_rfl) (by kernel_rfl) (by kernel_rfl) (fun _ _ _ h => h) (Or.inl ⟨by rfl, ?hy12⟩) (by assumption) ?rest12
    case hy12 => (intro w hSw; (try dsimp only at hSw); go_simp; try (with_reducible rfl))
    case rest12 =>
    try simp only [Act.put, List.setIfInBounds_toArray, List.set_cons_zero, List.set_cons_succ]
    refine wpAnyK_take (i := 2) (v := ?v13) rfl (by kernel_rfl) (by kernel_rfl) (by kernel_rfl) (by kernel_rfl) (fun _ _ _ h => h) (Or.inl ⟨by rfl, ?hy13⟩) (by assumption) ?rest13
    case hy13 => (intro w hSw; (try dsimp only at hSw); go_simp; try (with_reducible rfl))
    case rest13 =>
    try simp only [Act.put, List.setIfInBounds_toArray, List.set_cons_zero, List.set_cons_succ]
    refine wpAnyK_take (i := 3) (v := ?v14) rfl (by kernel_rfl) (by kernel_rfl) (by kernel_rfl) (by kernel_rfl) (fun _ _ _ h => h) (Or.inl ⟨by rfl, ?hy14⟩) (by assumption) ?rest14
    case hy14 => (intro w hSw; (try dsimp only at hSw); go_simp; try (with_reducible rfl))
    case rest14 =>
    try simp only [Act.put, List.setIfInBounds_toArray, List.set_cons_zero, List.set_cons_succ]
    refine wpAnyK_take (i := 4) (v := ?v15) rfl (by kernel_rfl) (by kernel_rfl) (by kernel_rfl) (by kernel_rfl) (fun _ _ _ h => h) (Or.inl ⟨by rfl, ?hy15⟩) (by assumption) ?rest15
    case hy15 => (intro w hSw; (try dsimp only at hSw); go_simp; try (with_reducible rfl))
    case rest15 =>
    try simp only [Act.put, List.setIfInBounds_toArray, List.set_cons_zero, List.set_cons_succ]
    refine wpAnyK_take (i := 5) (v := ?v16) rfl (by kernel_rfl) (by kernel_rfl) (by kernel_rfl) (by kernel_rfl) (fun _ _ _ h => h) (Or.inl ⟨by rfl, ?hy16⟩) (by assumption) ?rest16
    case hy16 => (intro w hSw; (try dsimp only at hSw); go_simp; try (with_reducible rfl))
    case rest16 =>
    try simp only [Act.put, List.setIfInBounds_toArray, List.set_cons_zero, List.set_cons_succ]
    refine wpAnyK_take (i := 6) (v := ?v17) rfl (by kernel_rfl) (by kernel_rfl) (by kernel_rfl) (by kernel_rfl) (fun _ _ _ h => h) (Or.inl ⟨by rfl, ?hy17⟩) (by assumption) ?rest17
    case hy17 => (intro w hSw; (try dsimp only at hSw); go_simp; try (with_reducible rfl))
    case rest17 =>
    try simp only [Act.put, List.setIfInBounds_toArray, List.set_cons_zero, List.set_cons_succ]
    refine wpAnyK_take (i := 7) (v := ?v18) rfl (by kernel_rfl) (by kernel_rfl) (by kernel_rfl) (by kernel_rfl) (fun _ _ _ h => h) (Or.inl ⟨by rfl, ?hy18⟩) (by assumption) ?rest18
    case hy18 => (intro w hSw; (try dsimp only at hSw); go_simp; try (with_reducible rfl))
    case rest18 =>
    try simp only [Act.put, List.setIfInBounds_toArray, List.set_cons_zero, List.set_cons_succ]
    refine wpAnyK_take (i := 8) (v := ?v19) rfl (by kernel_rfl) (by kernel_rfl) (by kernel_rfl) (by kernel_rfl) (fun _ _ _ h => h) (Or.inl ⟨by rfl, ?hy19⟩) (by assumption) ?rest19
    case hy19 => (intro w hSw; (try dsimp only at hSw); go_simp; try (with_reducible rfl))
    case rest19 =>
    try simp only [Act.put, List.setIfInBounds_toArray, List.set_cons_zero, List.set_cons_succ]
    refine wpAnyK_take (i := 9) (v := ?v20) rfl (by kernel_rfl) (by kernel_rfl) (by kernel_rfl) (by kernel_rfl) (fun _ _ _ h => h) (Or.inl ⟨by rfl, ?hy20⟩) (by assumption) ?rest20
    case hy20 => (intro w hSw; (try dsimp only at hSw); go_simp; try (with_reducible rfl))
    case rest20 =>
    try simp only [Act.put, List.setIfInBounds_toArray, List.set_cons_zero, List.set_cons_succ]
    refine wpAnyK_take (i := 10) (v := ?v21) rfl (by kernel_rfl) (by kernel_rfl) (by kernel_rfl) (by kernel_rfl) (fun _ _ _ h => h) (Or.inl ⟨by rfl, ?hy21⟩) (by assumption) ?rest21
    case hy21 => (intro w hSw; (try dsimp only at hSw); go_simp; try (with_reducible rfl))
    case rest21 =>
    try simp only [Act.put, List.setIfInBounds_toArray, List.set_cons_zero, List.set_cons_succ]
    refine wpAnyK_take (i := 11) (v := ?v22) rfl (by kernel_rfl) (by kernel_rfl) (by kernel_rfl) (by kernel_rfl) (fun _ _ _ h => h) (Or.inl ⟨by rfl, ?hy22⟩) (by assumption) ?rest22
    case hy22 => (intro w hSw; (try dsimp only at hSw); go_simp; try (with_reducible rfl))
    case rest22 =>
    try simp only [Act.put, List.setIfInBounds_toArray, List.set_cons_zero, List.set_cons_succ]
    refine wpAnyK_take (i := 12) (v := .slice (some ⟨r.g, q.col * 3, none⟩) (s.cols - q.col) (r.c - q.col)) rfl (by kernel_rfl) (by kernel_rfl) (by kernel_rfl) (by kernel_rfl) (fun _ _ _ h => h) (Or.inl ⟨by rfl, ?hy23⟩) (by assumption) ?rest23
    case hy23 => (intro w hSw; (try dsimp only at hSw); clear hSw; go_simp; done)
    case rest23 =>
    try simp only [Act.put, List.setIfInBounds_toArray, List.set_cons_zero, List.set_cons_succ]
    refine wpAnyK_take (i := 13) (v := ?v24) rfl (by kernel_rfl) (by kernel_rfl) (by kernel_rfl) (by kernel_rfl) (fun _ _ _ h => h) (Or.inl ⟨by rfl, ?hy24⟩) (by assumption) ?rest24
    case hy24 => (intro w hSw; (try dsimp only at hSw); go_simp; try (with_reducible rfl))
    case rest24 =>
    try simp only [Act.put, List.setIfInBounds_toArray, List.set_cons_zero, List.set_cons_succ]
    refine wpAnyK_ready (rs := [14]) (by kernel_rfl) (by simp) ?_
    refine AllReadyK.cons rfl (fun K hK => ?_) AllReadyK.nil
    have hmin : x.length.min (s.cols - q.col) = x.length := Nat.min_eq_left (by omega)
    have hov := hrow.over (n := q.col) (x := x) (by rw [hrl, hq2]; exact hq1)
    obtain ⟨w5, hst, hr5, ho5, hz5, hB5⟩ := hov
    refine copy3_step (w' := w5) (cs := rowV x) rfl rfl rfl rfl ?_ ?_ hst ?_
    · rw [rowV_len, hmin]
    · exact HX3.out.reads
    rw [show goInt (x.length.min (s.cols - q.col)) = .int .i64 (x.length : Int) by rw [hmin]; rfl]
    have hs5 := hf w5 q.col x hr5 ho5
    have hc5 := (World.cell?_of_block (a := ad.add m) (ho5.block _ (World.block_lt_of_cell? wd _ hcs) (by rw [addr_add_block]; exact hrb.symm))).trans hcs
    replace HS4 := Hd.mk hs5
    have HO5 := Hd.mk (HO3.out.trans ho5 (fun k _ hk => by rw [hk]; exact hrp.1))
    clear hHd hst hr5 ho5 hz5 hB5 hs5 hcs hrow hrp hrg hrb hLi hf HX3 HO3
    have hHd : (fun w' : World => w'.cell? ⟨g, 1, none⟩ = some (.slice (some ad) (m + 1) cc) ∧ w'.cell? ⟨g, 2, none⟩ = some (.int .i64 (q.col : Int)) ∧ w'.cell? (ad.add m) = some (.slice (some ⟨r.g, 0, none⟩) s.cols r.c)) w5 := ⟨by have := HS4.out.b.cell 1 rfl; rw [hm] at this; exact this, HS4.out.b.cell 2 rfl, by rw [← n4]; exact hc5⟩
    clear hc5
    refine hK.out _ _ (.inr hHd) ?_
    clear hK K
    try simp only [Act.put, List.setIfInBounds_toArray, List.set_cons_zero, List.set_cons_succ]
    refine wpAnyK_take (i := 15) (v := .int .i64 ((q.col : Int) + (x.length : Int))) rfl (by kernel_rfl) (by kernel_rfl) (by kernel_rfl) (by kernel_rfl) (fun _ _ _ h => h) (Or.inl ⟨by rfl, ?hy25⟩) (by assumption) ?rest25
    case hy25 => (intro w hSw; (try dsimp only at hSw); clear hSw; go_simp; rw [IntKind.wrap_i64]; omega)
    case rest25 =>
    try simp only [Act.put, List.setIfInBounds_toArray, List.set_cons_zero, List.set_cons_succ]
    refine wpAnyK_ready (rs := [16]) (by kernel_rfl) (by simp) ?_
    refine AllReadyK.cons rfl (fun K hK => ?_) AllReadyK.nil
    refine exec_step (by first | rfl | (go_simp; done) | (go_simp; rfl)) (v := .pointer (some ⟨g, 0, none⟩)) (W' := w5) (by first | (go_simp; done) | (go_simp; rfl)) ?_
    refine hK.out _ _ (.inr hHd) ?_
    clear hK K
    try simp only [Act.put, List.setIfInBounds_toArray, List.set_cons_zero, List.set_cons_succ]
    refine wpAnyK_take (i := 17) (v := ?v26) rfl (by kernel_rfl) (by kernel_rfl) (by kernel_rfl) (by kernel_rfl) (fun _ _ _ h => h) (Or.inl ⟨by rfl, ?hy26⟩) (by assumption) ?rest26
    case hy26 => (intro w hSw; (try dsimp only at hSw); go_simp; try (with_reducible rfl))
    case rest26 =>
    try simp only [Act.put, List.setIfInBounds_toArray, List.set_cons_zero, List.set_cons_succ]
    refine wpAnyK_ready (rs := [18]) (by kernel_rfl) (by simp) ?_
    refine AllReadyK.cons rfl (fun K hK => ?_) AllReadyK.nil
    rw [if_pos (by first | rfl | (go_simp; done) | (go_simp; rfl))]
    refine cell_step rfl rfl (g := g) (i := 2) (v := .int .i64 ((q.col : Int) + (x.length : Int))) (by first | rfl | (go_simp; done) | (go_simp; rfl)) (by first | rfl | (go_simp; done) | (go_simp; rfl)) (HS4.out.b.cell 2 rfl) (HS4.out.b.frozen 2) infoInt1 rfl ?_
    refine hK.out _ _ (.inl (by kernel_rfl)) ?_
    clear hK K
    try simp only [Act.put, List.setIfInBounds_toArray, List.set_cons_zero, List.set_cons_succ]
    refine wpAnyK_done (by kernel_rfl) ?_ _
    refine hKQ _ _ ?_
    clear hHd
    have h6 := HS4.out.col_ (q.col + x.length)
    rw [show (((q.col + x.length : Nat) : Int)) = (q.col : Int) + (x.length : Int) by omega] at h6
    have HS6 := Hd.mk h6
    have HO6 := Hd.mk (HO5.out.setCell (p := ⟨g, 2, none⟩) (.inl HS4.out.pt.1) (.int .i64 ((q.col : Int) + (x.length : Int))))
    clear h6 HS4 HO5
    generalize w5.setCell ⟨g, 2, none⟩ (.int .i64 ((q.col : Int) + (x.length : Int))) = w6 at *
    go_wp2
    go_ret2
    have hm1 : q.l.length - 1 = m := by omega
    obtain ⟨l1, l2⟩ := HL.out
    rw [hm1] at l1 l2
    subst l1 l2
    exact ⟨rfl, ⟨_, _, HS6.out.mono (fun k hk => hk.1)⟩, HO6.out⟩
  · have hd : decide ((s.cols : Int) < (s.col : Int) + (x.length : Int)) = false := decide_eq_false (by omega)
    have HRE : Hd (s.room x.length = s) := ⟨by unfold Sh.room; rw [if_neg hr]⟩
    rw [HXN.out]
    go_wp2_with fail
    go_quiet (fail)
    have hbq := pw_below_drewN (Below.refl w2.heap.size w2) nq
    replace HS2 := Hd.mk (HS2.out.below hbq)
    replace HX := Hd.mk (HX.out.to (hbq.block rx.g HX.out.lt))
    replace HB := Hd.mk (HB.out.trans (hbq.mono HB.out.size))
    replace HP2 : Hd (∀ k, (w2.drewN nq).heap.size ≤ k → P k ∧ k ≠ rx.g) := Hd.mk (fun k hk => HP2.out k (Nat.le_trans hbq.size hk))
    clear hbq c0 c2
    generalize w2.drewN nq = w2 at *
    have HS3 := Hd.mk HS2.out
    have HX3 := Hd.mk HX.out
    have HO3 := Hd.mk (Only.of_below (F := P) HB.out)
    have HP3 : Hd (∀ k, w2.heap.size ≤ k → P k) := ⟨fun k hk => HP.out k (Nat.le_trans HB.out.size hk)⟩
    rw [← HRE.out] at HS3
    go_upto_region 4 with fail
    clear hr HX HB HP2 HS2 HRE
    generalize w2 = w3 at *
    generalize s.room x.length = q at *
    obtain ⟨hqk, hq1, hq2, hq3, hq4⟩ := HRM.out
    have hqn := hqk.n
    obtain ⟨m, hm⟩ : ∃ m, q.l.length = m + 1 := ⟨q.l.length - 1, by omega⟩
    have hm9 : m ≤ 10000 := by have := HN.out; omega
    obtain ⟨lv, L, hs3⟩ := HS3.out
    have hi : m < q.l.length := by omega
    have hrl := (hqk.rows _ (List.getElem_mem hi)).1
    obtain ⟨cc, ad, r0, rfl, _⟩ := hs3.look hi
    have e1 := hs3.b.cell 1 rfl
    have e2 := hs3.b.cell 2 rfl
    unfold shV at e1 e2
    rw [hm] at e1
    simp only [List.getElem_toArray, List.getElem_cons_zero, List.getElem_cons_succ] at e1 e2
    have m1 : (0 : Int) ≤ (m : Int) := Int.natCast_nonneg _
    have m2 : (m : Int) ≤ 10000 := by omega
    go_wp2_with fail
    go_quiet (fail)
    have hbq := pw_below_drewN (Below.refl w3.heap.size w3) nq
    have hs4 := hs3.below hbq
    replace HX3 := Hd.mk (HX3.out.to (hbq.block rx.g HX3.out.lt))
    replace HO3 := Hd.mk (HO3.out.trans (Only.of_below (F := P) hbq) (fun _ _ hk => hk))
    clear hbq hs3 HS3 e1 e2 HP3
    generalize w3.drewN nq = w4 at *
    obtain ⟨cc', ad', r, e, hcs, hrow, hrp, hrg, hrb, hLi, hf⟩ := hs4.look hi
    cases e
    obtain ⟨n4, c4⟩ : r.n = s.cols ∧ s.cols ≤ r.c := ⟨by rw [hrow.1, hrl, hq2], by have := hrow.2.1; rw [hrow.1, hrl, hq2] at this; exact this⟩
    have HS4 := Hd.mk hs4
    have HL4 := Hd.mk hLi
    have HG4 := Hd.mk (And.intro hrg (And.intro hrb hrp.1))
    clear hs4 hcs hrow hrp hrg hrb hLi hf
    go_upto_region 5 with fail
    rename_i KQ hKQ
    refine regionK (fun w' : World => w'.cell? ⟨g, 1, none⟩ = some (.slice (some ad) (m + 1) cc) ∧ w'.cell? ⟨g, 2, none⟩ = some (.int .i64 (q.col : Int)) ∧ w'.cell? (ad.add m) = some (.slice (some ⟨r.g, 0, none⟩) s.cols r.c)) 18 (by kernel_rfl) (fun wd hb => ?_)
    replace HS4 := Hd.mk (HS4.out.below hb)
    replace HX3 := Hd.mk (HX3.out.to (hb.block rx.g HX3.out.lt))
    replace HO3 := Hd.mk (HO3.out.trans (Only.of_below (F := P) hb) (fun _ _ hk => hk))
    clear hb
    obtain ⟨cc', ad', r', e, hcs, hrow, hrp, hrg, hrb, hLi, hf⟩ := HS4.out.look hi
    cases e
    obtain rfl : r = r' := Option.some.inj (HL4.out.symm.trans hLi)
    have hHd : (fun w' : World => w'.cell? ⟨g, 1, none⟩ = some (.slice (some ad) (m + 1) cc) ∧ w'.cell? ⟨g, 2, none⟩ = some (.int .i64 (q.col : Int)) ∧ w'.cell? (ad.add m) = some (.slice (some ⟨r.g, 0, none⟩) s.cols r.c)) wd := ⟨by have := HS4.out.b.cell 1 rfl; rw [hm] at this; exact this, HS4.out.b.cell 2 rfl, by rw [← n4]; exact hcs⟩
    have f1 : (0 : Int) ≤ (q.col : Int) := Int.natCast_nonneg _
    have hx2 := HCL.out
    have f2 : (q.col : Int) ≤ (s.cols : Int) := by omega
    have f3 : q.col ≤ s.cols := by omega
    have f4 : ¬ r.c = q.col := by omega
    have f5 : q.col ≤ r.c := by omega
    have f6 : (m : Int) < ((m + 1 : Nat) : Int) := by omega
    have f7 : m < m + 1 := by omega
    have f9 : (m : Int) < (m : Int) + 1 := by omega
    have f8 : (q.col : Int) ≤ 120 := by have := HK.out.c2; omega
    refine wpAnyK_take (i := 0) (v := ?v27) rfl (by kernel_rfl) (by kernel_rfl) (by kernel_rfl) (by kernel_rfl) (fun _ _ _ h => h) (Or.inl ⟨by rfl, ?hy27⟩) (by assumption) ?rest27
    case hy27 => (intro w hSw; (try dsimp only at hSw); go_simp; try (with_reducible rfl))
    case rest27 =>
    try simp only [Act.put, List.setIfInBounds_toArray, List.set_cons_zero, List.set_cons_succ]
    refine wpAnyK_take (i := 1) (v := ?v28) rfl (by kernel_rfl) (by kernel_rfl) (by kernel_rfl) (by kernel_rfl) (fun _ _ _ h => h) (Or.inl ⟨by rfl, ?hy28⟩) (by assumption) ?rest28
    case hy28 => (intro w hSw; (try dsimp only at hSw); go_simp; try (with_reducible rfl))
    case rest28 =>
    try simp only [Act.put, List.setIfInBounds_toArray, List.set_cons_zero, List.set_cons_succ]
    refine wpAnyK_take (i := 2) (v := ?v29) rfl (by kernel_rfl) (by kernel_rfl) (by kernel_rfl) (by kernel_rfl) (fun _ _ _ h => h) (Or.inl ⟨by rfl, ?hy29⟩) (by assumption) ?rest29
    case hy29 => (intro w hSw; (try dsimp only at hSw); go_simp; try (with_reducible rfl))
    case rest29 =>
    try simp only [Act.put, List.setIfInBounds_toArray, List.set_cons_zero, List.set_cons_succ]
    refine wpAnyK_take (i := 3) (v := ?v30) rfl (by kernel_rfl) (by kernel_rfl) (by kernel_rfl) (by kernel_rfl) (fun _ _ _ h => h) (Or.inl ⟨by rfl, ?hy30⟩) (by assumption) ?rest30
    case hy30 => (intro w hSw; (try dsimp only at hSw); go_simp; try (with_reducible rfl))
    case rest30 =>
    try simp only [Act.put, List.setIfInBounds_toArray, List.set_cons_zero, List.set_cons_succ]
    refine wpAnyK_take (i := 4) (v := ?v31) rfl (by kernel_rfl) (by kernel_rfl) (by kernel_rfl) (by kernel_rfl) (fun _ _ _ h => h) (Or.inl ⟨by rfl, ?hy31⟩) (by assumption) ?rest31
    case hy31 => (intro w hSw; (try dsimp only at hSw); go_simp; try (with_reducible rfl))
    case rest31 =>
    try simp only [Act.put, List.setIfInBounds_toArray, List.set_cons_zero, List.set_cons_succ]
    refine wpAnyK_take (i := 5) (v := ?v32) rfl (by kernel_rfl) (by kernel_rfl) (by kernel_rfl) (by kernel_rfl) (fun _ _ _ h => h) (Or.inl ⟨by rfl, ?hy32⟩) (by assumption) ?rest32
    case hy32 => (intro w hSw; (try dsimp only at hSw); go_simp; try (with_reducible rfl))
    case rest32 =>
    try simp only [Act.put, List.setIfInBounds_toArray, List.set_cons_zero, List.set_cons_succ]
    refine wpAnyK_take (i := 6) (v := ?v33) rfl (by kernel_rfl) (by kernel_rfl) (by kernel_rfl) (by kernel_rfl) (fun _ _ _ h => h) (Or.inl ⟨by rfl, ?hy33⟩) (by assumption) ?rest33
    case hy33 => (intro w hSw; (try dsimp only at hSw); go_simp; try (with_reducible rfl))
    case rest33 =>
    try simp only [Act.put, List.setIfInBounds_toArray, List.set_cons_zero, List.set_cons_succ]
    refine wpAnyK_take (i := 7) (v := ?v34) rfl (by kernel_rfl) (by kernel_rfl) (by kernel_rfl) (by kernel_rfl) (fun _ _ _ h => h) (Or.inl ⟨by rfl, ?hy34⟩) (by assumption) ?rest34
    case hy34 => (intro w hSw; (try dsimp only at hSw); go_simp; try (with_reducible rfl))
    case rest34 =>
    try simp only [Act.put, List.setIfInBounds_toArray, List.set_cons_zero, List.set_cons_succ]
    refine wpAnyK_take (i := 8) (v := ?v35) rfl (by kernel_rfl) (by kernel_rfl) (by kernel_rfl) (by kernel_rfl) (fun _ _ _ h => h) (Or.inl ⟨by rfl, ?hy35⟩) (by assumption) ?rest35
    case hy35 => (intro w hSw; (try dsimp only at hSw); go_simp; try (with_reducible rfl))
    case rest35 =>
    try simp only [Act.put, List.setIfInBounds_toArray, List.set_cons_zero, List.set_cons_succ]
    refine wpAnyK_take (i := 9) (v := ?v36) rfl (by kernel_rfl) (by kernel_rfl) (by kernel_rfl) (by kernel_rfl) (fun _ _ _ h => h) (Or.inl ⟨by rfl, ?hy36⟩) (by assumption) ?rest36
    case hy36 => (intro w hSw; (try dsimp only at hSw); go_simp; try (with_reducible rfl))
    case rest36 =>
    try simp only [Act.put, List.setIfInBounds_toArray, List.set_cons_zero, List.set_cons_succ]
    refine wpAnyK_take (i := 10) (v := ?v37) rfl (by kernel_rfl) (by kernel_rfl) (by kernel_rfl) (by kernel_rfl) (fun _ _ _ h => h) (Or.inl ⟨by rfl, ?hy37⟩) (by assumption) ?rest37
    case hy37 => (intro w hSw; (try dsimp only at hSw); go_simp; try (with_reducible rfl))
    case rest37 =>
    try simp only [Act.put, List.setIfInBounds_toArray, List.set_cons_zero, List.set_cons_succ]
    refine wpAnyK_take (i := 11) (v := ?v38) rfl (by kernel_rfl) (by kernel_rfl) (by kernel_rfl) (by kernel_rfl) (fun _ _ _ h => h) (Or.inl ⟨by rfl, ?hy38⟩) (by assumption) ?rest38
    case hy38 => (intro w hSw; (try dsimp only at hSw); go_simp; try (with_reducible rfl))
    case rest38 =>
    try simp only [Act.put, List.setIfInBounds_toArray, List.set_cons_zero, List.set_cons_succ]
    refine wpAnyK_take (i := 12) (v := .slice (some ⟨r.g, q.col * 3, none⟩) (s.cols - q.col) (r.c - q.col)) rfl (by kernel_rfl) (by kernel_rfl) (by kernel_rfl) (by kernel_rfl) (fun _ _ _ h => h) (Or.inl ⟨by rfl, ?hy39⟩) (by assumption) ?rest39
    case hy39 => (intro w hSw; (try dsimp only at hSw); clear hSw; go_simp; done)
    case rest39 =>
    try simp only [Act.put, List.setIfInBounds_toArray, List.set_cons_zero, List.set_cons_succ]
    refine wpAnyK_take (i := 13) (v := ?v40) rfl (by kernel_rfl) (by kernel_rfl) (by kernel_rfl) (by kernel_rfl) (fun _ _ _ h => h) (Or.inl ⟨by rfl, ?hy40⟩) (by assumption) ?rest40
    case hy40 => (intro w hSw; (try dsimp only at hSw); go_simp; try (with_reducible rfl))
    case rest40 =>
    try simp only [Act.put, List.setIfInBounds_toArray, List.set_cons_zero, List.set_cons_succ]
    refine wpAnyK_ready (rs := [14]) (by kernel_rfl) (by simp) ?_
    refine AllReadyK.cons rfl (fun K hK => ?_) AllReadyK.nil
    have hmin : x.length.min (s.cols - q.col) = x.length := Nat.min_eq_left (by omega)
    have hov := hrow.over (n := q.col) (x := x) (by rw [hrl, hq2]; exact hq1)
    obtain ⟨w5, hst, hr5, ho5, hz5, hB5⟩ := hov
    refine copy3_step (w' := w5) (cs := rowV x) rfl rfl rfl rfl ?_ ?_ hst ?_
    · rw [rowV_len, hmin]
    · exact HX3.out.reads
    rw [show goInt (x.length.min (s.cols - q.col)) = .int .i64 (x.length : Int) by rw [hmin]; rfl]
    have hs5 := hf w5 q.col x hr5 ho5
    have hc5 := (World.cell?_of_block (a := ad.add m) (ho5.block _ (World.block_lt_of_cell? wd _ hcs) (by rw [addr_add_block]; exact hrb.symm))).trans hcs
    replace HS4 := Hd.mk hs5
    have HO5 := Hd.mk (HO3.out.trans ho5 (fun k _ hk => by rw [hk]; exact hrp.1))
    clear hHd hst hr5 ho5 hz5 hB5 hs5 hcs hrow hrp hrg hrb hLi hf HX3 HO3
    have hHd : (fun w' : World => w'.cell? ⟨g, 1, none⟩ = some (.slice (some ad) (m + 1) cc) ∧ w'.cell? ⟨g, 2, none⟩ = some (.int .i64 (q.col : Int)) ∧ w'.cell? (ad.add m) = some (.slice (some ⟨r.g, 0, none⟩) s.cols r.c)) w5 := ⟨by have := HS4.out.b.cell 1 rfl; rw [hm] at this; exact this, HS4.out.b.cell 2 rfl, by rw [← n4]; exact hc5⟩
    clear hc5
    refine hK.out _ _ (.inr hHd) ?_
    clear hK K
    try simp only [Act.put, List.setIfInBounds_toArray, List.set_cons_zero, List.set_cons_succ]
    refine wpAnyK_take (i := 15) (v := .int .i64 ((q.col : Int) + (x.length : Int))) rfl (by kernel_rfl) (by kernel_rfl) (by kernel_rfl) (by kernel_rfl) (fun _ _ _ h => h) (Or.inl ⟨by rfl, ?hy41⟩) (by assumption) ?rest41
    case hy41 => (intro w hSw; (try dsimp only at hSw); clear hSw; go_simp; rw [IntKind.wrap_i64]; omega)
    case rest41 =>
    try simp only [Act.put, List.setIfInBounds_toArray, List.set_cons_zero, List.set_cons_succ]
    refine wpAnyK_ready (rs := [16]) (by kernel_rfl) (by simp) ?_
    refine AllReadyK.cons rfl (fun K hK => ?_) AllReadyK.nil
    refine exec_step (by first | rfl | (go_simp; done) | (go_simp; rfl)) (v := .pointer (some ⟨g, 0, none⟩)) (W' := w5) (by first | (go_simp; done) | (go_simp; rfl)) ?_
    refine hK.out _ _ (.inr hHd) ?_
    clear hK K
    try simp only [Act.put, List.setIfInBounds_toArray, List.set_cons_zero, List.set_cons_succ]
    refine wpAnyK_take (i := 17) (v := ?v42) rfl (by kernel_rfl) (by kernel_rfl) (by kernel_rfl) (by kernel_rfl) (fun _ _ _ h => h) (Or.inl ⟨by rfl, ?hy42⟩) (by assumption) ?rest42
    case hy42 => (intro w hSw; (try dsimp only at hSw); go_simp; try (with_reducible rfl))
    case rest42 =>
    try simp only [Act.put, List.setIfInBounds_toArray, List.set_cons_zero, List.set_cons_succ]
    refine wpAnyK_ready (rs := [18]) (by kernel_rfl) (by simp) ?_
    refine AllReadyK.cons rfl (fun K hK => ?_) AllReadyK.nil
    rw [if_pos (by first | rfl | (go_simp; done) | (go_simp; rfl))]
    refine cell_step rfl rfl (g := g) (i := 2) (v := .int .i64 ((q.col : Int) + (x.length : Int))) (by first | rfl | (go_simp; done) | (go_simp; rfl)) (by first | rfl | (go_simp; done) | (go_simp; rfl)) (HS4.out.b.cell 2 rfl) (HS4.out.b.frozen 2) infoInt1 rfl ?_
    refine hK.out _ _ (.inl (by kernel_rfl)) ?_
    clear hK K
    try simp only [Act.put, List.setIfInBounds_toArray, List.set_cons_zero, List.set_cons_succ]
    refine wpAnyK_done (by kernel_rfl) ?_ _
    refine hKQ _ _ ?_
    clear hHd
    have h6 := HS4.out.col_ (q.col + x.length)
    rw [show (((q.col + x.length : Nat) : Int)) = (q.col : Int) + (x.length : Int) by omega] at h6
    have HS6 := Hd.mk h6
    have HO6 := Hd.mk (HO5.out.setCell (p := ⟨g, 2, none⟩) (.inl HS4.out.pt.1) (.int .i64 ((q.col : Int) + (x.length : Int))))
    clear h6 HS4 HO5
    generalize w5.setCell ⟨g, 2, none⟩ (.int .i64 ((q.col : Int) + (x.length : Int))) = w6 at *
    go_wp2
    go_ret2
    have hm1 : q.l.length - 1 = m := by omega
    obtain ⟨l1, l2⟩ := HL.out
    rw [hm1] at l1 l2
    subst l1 l2
    exact ⟨rfl, ⟨_, _, HS6.out.mono (fun k hk => hk.1)⟩, HO6.out⟩
end Go.Proofs.YtledplnlcjfafaaDoorL

