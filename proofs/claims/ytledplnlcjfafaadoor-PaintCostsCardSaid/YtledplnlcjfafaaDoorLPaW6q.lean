/- Parts of the proof of the law that the last file states; declarations that nothing mentions are left out by a program. No conditions. -/
import Derived.Test.YtledplnlcjfafaaDoorLPaW4q
set_option linter.unusedVariables false
set_option linter.unusedSimpArgs false
namespace Go.Proofs.YtledplnlcjfafaaDoorL
open Go Go.RowKit Go.Proofs.YtledplnlcjfafaaDoorW.PrintWords
theorem store_stp {P : Program} {o : Oper} {a : Act} {w : World} {K : Act → World → Prop} {Q : Exit → Act → World → Prop} {ty : TypeId} {x y : Operand} (ho : o.op = .store ty x y) (hd : o.dst = none) {g : Nat} {cells : Array Value} (hx : a.eval x = .pointer (some ⟨g, 0, none⟩)) (hy : a.eval y = .agg cells)
    {t : TypeId} {old : Array Value} (hg : Blk w g t old) (hi : (P.info? ty).map (·.size) = some cells.size) (hold : old.size = cells.size) (h1 : cells.all (·.oneCell') = true)
    (h : ∀ w', Blk w' g t cells → YtledplnlcjfafaaDoorW.PrintWords.Kept w w' (fun k => k = g) → w'.heap.size = w.heap.size → (∀ {B w0}, Below B w0 w → B ≤ g → Below B w0 w') → K a w') : Oper.wp P o a w K Q :=
  wp_store_row ty x y ho g cells hx hy t old hg hi hold h1 (show K (a.put o.dst undef) _ by rw [hd]; exact h _ (setRow_heap w g old cells t (0, 0) hg) ⟨by rw [size_setRow]; exact Nat.le_refl _, fun i _ hn => setRow_other w g i cells hn⟩ (size_setRow w g cells) (fun hb hB => below_setRow hb hB cells))
set_option maxRecDepth 100000 in
set_option maxHeartbeats 4000000 in
theorem last_calls {B g : Nat} {w : World} {p : Pt} {lv bv : Value} {L : List RR} (h : PtO B w g p lv bv L) (hl2 : ∀ x ∈ p.last.rows, 1 ≤ x.length ∧ x.length ≤ 1000) (hm2 : p.last.rows.length ≤ 1000) :
    Calls Tryd.prog 11 #[.pointer (some ⟨g, 0, none⟩)] w fun e w' => ∃ lv' L', e = .returned (.tuple #[.agg #[lv', .int .i64 (p.last.row : Int), .int .i64 (p.last.col : Int)], .bool p.is]) ∧ RowsO (fun k => w.heap.size ≤ k) w' lv' L' p.last.rows ∧ Below w.heap.size w w' := by
  have e2 := h.r.len
  obtain ⟨A, c, rfl, _⟩ := Kd.Q_slice h.r.q
  rw [e2] at h
  clear e2
  have HA := Hd.mk ((Below.refl w.heap.size w).alloc (Nat.le_refl _) (.cells #[.slice none 0 0, .int .i64 0, .int .i64 0] 38))
  have HZ := Hd.mk (Blk.new w 38 #[.slice none 0 0, .int .i64 0, .int .i64 0])
  have H := Hd.mk (h.below HA.out)
  have HL := Hd.mk hl2
  have HM := Hd.mk hm2
  clear h hl2 hm2
  go_enter Tryd.func11, Tryd.ntmps11
  go_upto_region 1 with fail
  rename_i KQ hKQ
  refine regionH (fun w' : World => Blk w' g 51 (ptV p (.slice A p.last.rows.length c) bv)) (by kernel_rfl) (fun wd hb => ?_)
  have HB1 := Hd.mk (HA.out.trans (hb.mono HA.out.size))
  have HZ1 := Hd.mk (HZ.out.belowW hb)
  have H1 := Hd.mk (H.out.below hb)
  have hHd : (fun w' : World => Blk w' g 51 (ptV p (.slice A p.last.rows.length c) bv)) wd := H1.out.b
  clear hb HA HZ H
  refine takeH (i := 0) (v := ?v1) rfl (by kernel_rfl) (by kernel_rfl) (by kernel_rfl) (fun _ _ _ h => h) (Or.inl ⟨by rfl, ?hy1⟩) (by assumption) ?rest1
  case hy1 => (intro w hSw; (try dsimp only at hSw); have d0 : w.cell? ⟨g, 0, none⟩ = some (.slice A p.last.rows.length c) := hSw.cell 0 rfl; have d1 : w.cell? ⟨g, 1, none⟩ = some (.int .i64 (p.last.row : Int)) := hSw.cell 1 rfl; have d2 : w.cell? ⟨g, 2, none⟩ = some (.int .i64 (p.last.col : Int)) := hSw.cell 2 rfl; have d3 : w.cell? ⟨g, 3, none⟩ = some (.bool p.is) := hSw.cell 3 rfl; go_simp; first | done | (with_reducible rfl) | rfl)
  case rest1 =>
  try simp only [Act.put, List.setIfInBounds_toArray, List.set_cons_zero, List.set_cons_succ]
  refine takeH (i := 1) (v := ?v2) rfl (by kernel_rfl) (by kernel_rfl) (by kernel_rfl) (fun _ _ _ h => h) (Or.inl ⟨by rfl, ?hy2⟩) (by assumption) ?rest2
  case hy2 => (intro w hSw; (try dsimp only at hSw); have d0 : w.cell? ⟨g, 0, none⟩ = some (.slice A p.last.rows.length c) := hSw.cell 0 rfl; have d1 : w.cell? ⟨g, 1, none⟩ = some (.int .i64 (p.last.row : Int)) := hSw.cell 1 rfl; have d2 : w.cell? ⟨g, 2, none⟩ = some (.int .i64 (p.last.col : Int)) := hSw.cell 2 rfl; have d3 : w.cell? ⟨g, 3, none⟩ = some (.bool p.is) := hSw.cell 3 rfl; go_simp; first | done | (with_reducible rfl) | rfl)
  case rest2 =>
  try simp only [Act.put, List.setIfInBounds_toArray, List.set_cons_zero, List.set_cons_succ]
  refine takeH (i := 2) (v := ?v3) rfl (by kernel_rfl) (by kernel_rfl) (by kernel_rfl) (fun _ _ _ h => h) (Or.inl ⟨by rfl, ?hy3⟩) (by assumption) ?rest3
  case hy3 => (intro w hSw; (try dsimp only at hSw); have d0 : w.cell? ⟨g, 0, none⟩ = some (.slice A p.last.rows.length c) := hSw.cell 0 rfl; have d1 : w.cell? ⟨g, 1, none⟩ = some (.int .i64 (p.last.row : Int)) := hSw.cell 1 rfl; have d2 : w.cell? ⟨g, 2, none⟩ = some (.int .i64 (p.last.col : Int)) := hSw.cell 2 rfl; have d3 : w.cell? ⟨g, 3, none⟩ = some (.bool p.is) := hSw.cell 3 rfl; go_simp; first | done | (with_reducible rfl) | rfl)
  case rest3 =>
  try simp only [Act.put, List.setIfInBounds_toArray, List.set_cons_zero, List.set_cons_succ]
  refine takeH (i := 3) (v := (.agg #[.slice A p.last.rows.length c, .int .i64 (p.last.row : Int), .int .i64 (p.last.col : Int)])) rfl (by kernel_rfl) (by kernel_rfl) (by kernel_rfl) (fun _ _ _ h => h) (Or.inl ⟨by rfl, ?hy4⟩) (by assumption) ?rest4
  case hy4 => (intro w hSw; (try dsimp only at hSw); have d0 : w.cell? ⟨g, 0, none⟩ = some (.slice A p.last.rows.length c) := hSw.cell 0 rfl; have d1 : w.cell? ⟨g, 1, none⟩ = some (.int .i64 (p.last.row : Int)) := hSw.cell 1 rfl; have d2 : w.cell? ⟨g, 2, none⟩ = some (.int .i64 (p.last.col : Int)) := hSw.cell 2 rfl; have d3 : w.cell? ⟨g, 3, none⟩ = some (.bool p.is) := hSw.cell 3 rfl; go_simp; first | done | (with_reducible rfl) | rfl)
  case rest4 =>
  try simp only [Act.put, List.setIfInBounds_toArray, List.set_cons_zero, List.set_cons_succ]
  refine takeH (i := 5) (v := ?v5) rfl (by kernel_rfl) (by kernel_rfl) (by kernel_rfl) (fun _ _ _ h => h) (Or.inl ⟨by rfl, ?hy5⟩) (by assumption) ?rest5
  case hy5 => (intro w hSw; (try dsimp only at hSw); have d0 : w.cell? ⟨g, 0, none⟩ = some (.slice A p.last.rows.length c) := hSw.cell 0 rfl; have d1 : w.cell? ⟨g, 1, none⟩ = some (.int .i64 (p.last.row : Int)) := hSw.cell 1 rfl; have d2 : w.cell? ⟨g, 2, none⟩ = some (.int .i64 (p.last.col : Int)) := hSw.cell 2 rfl; have d3 : w.cell? ⟨g, 3, none⟩ = some (.bool p.is) := hSw.cell 3 rfl; go_simp; first | done | (with_reducible rfl) | rfl)
  case rest5 =>
  try simp only [Act.put, List.setIfInBounds_toArray, List.set_cons_zero, List.set_cons_succ]
  refine takeH (i := 6) (v := ?v6) rfl (by kernel_rfl) (by kernel_rfl) (by kernel_rfl) (fun _ _ _ h => h) (Or.inl ⟨by rfl, ?hy6⟩) (by assumption) ?rest6
  case hy6 => (intro w hSw; (try dsimp only at hSw); have d0 : w.cell? ⟨g, 0, none⟩ = some (.slice A p.last.rows.length c) := hSw.cell 0 rfl; have d1 : w.cell? ⟨g, 1, none⟩ = some (.int .i64 (p.last.row : Int)) := hSw.cell 1 rfl; have d2 : w.cell? ⟨g, 2, none⟩ = some (.int .i64 (p.last.col : Int)) := hSw.cell 2 rfl; have d3 : w.cell? ⟨g, 3, none⟩ = some (.bool p.is) := hSw.cell 3 rfl; go_simp; first | done | (with_reducible rfl) | rfl)
  case rest6 =>
  try simp only [Act.put, List.setIfInBounds_toArray, List.set_cons_zero, List.set_cons_succ]
  refine takeH (i := 7) (v := ?v7) rfl (by kernel_rfl) (by kernel_rfl) (by kernel_rfl) (fun _ _ _ h => h) (Or.inl ⟨by rfl, ?hy7⟩) (by assumption) ?rest7
  case hy7 => (intro w hSw; (try dsimp only at hSw); have d0 : w.cell? ⟨g, 0, none⟩ = some (.slice A p.last.rows.length c) := hSw.cell 0 rfl; have d1 : w.cell? ⟨g, 1, none⟩ = some (.int .i64 (p.last.row : Int)) := hSw.cell 1 rfl; have d2 : w.cell? ⟨g, 2, none⟩ = some (.int .i64 (p.last.col : Int)) := hSw.cell 2 rfl; have d3 : w.cell? ⟨g, 3, none⟩ = some (.bool p.is) := hSw.cell 3 rfl; go_simp; first | done | (with_reducible rfl) | rfl)
  case rest7 =>
  try simp only [Act.put, List.setIfInBounds_toArray, List.set_cons_zero, List.set_cons_succ]
  refine takeH (i := 8) (v := ?v8) rfl (by kernel_rfl) (by kernel_rfl) (by kernel_rfl) (fun _ _ _ h => h) (Or.inl ⟨by rfl, ?hy8⟩) (by assumption) ?rest8
  case hy8 => (intro w hSw; (try dsimp only at hSw); have d0 : w.cell? ⟨g, 0, none⟩ = some (.slice A p.last.rows.length c) := hSw.cell 0 rfl; have d1 : w.cell? ⟨g, 1, none⟩ = some (.int .i64 (p.last.row : Int)) := hSw.cell 1 rfl; have d2 : w.cell? ⟨g, 2, none⟩ = some (.int .i64 (p.last.col : Int)) := hSw.cell 2 rfl; have d3 : w.cell? ⟨g, 3, none⟩ = some (.bool p.is) := hSw.cell 3 rfl; go_simp; first | done | (with_reducible rfl) | rfl)
  case rest8 =>
  try simp only [Act.put, List.setIfInBounds_toArray, List.set_cons_zero, List.set_cons_succ]
  refine wpAnyH_ready (rs := [4]) (by kernel_rfl) (by simp) ?_
  refine consH rfl (fun K hK => ?_) AllReadyH.nil
  go_simp
  go_at_call 19
  with_reducible refine (fcopy_calls H1.out.r HL.out HM.out p.last.row p.last.col).mono ?_
  rintro _ wq ⟨lv', L', rfl, hr, hb2⟩
  have HB2 := Hd.mk (HB1.out.trans (hb2.mono HB1.out.size))
  have HZ2 := Hd.mk (HZ1.out.belowW hb2)
  have HR2 := Hd.mk (hr.mono (P' := fun k => w.heap.size ≤ k) (fun k hk => Nat.le_trans HB1.out.size hk))
  have HRS := Hd.mk (spine_one hr.q)
  have hHd2 : (fun w' : World => Blk w' g 51 (ptV p (.slice A p.last.rows.length c) bv)) wq := hHd.belowW hb2
  clear hr hb2 hHd HB1 HZ1
  have hHd := hHd2
  clear hHd2
  go_simp
  refine hK.out _ _ hHd ?_
  clear hK K
  try simp only [Act.put, List.setIfInBounds_toArray, List.set_cons_zero, List.set_cons_succ]
  refine wpAnyH_ready (rs := [9]) (by kernel_rfl) (by simp) ?_
  refine consH rfl (fun K hK => ?_) AllReadyH.nil
  rw [if_pos (by first | rfl | (go_simp; done) | (go_simp; rfl))]
  refine store_stp rfl rfl (g := w.heap.size) (cells := #[lv', .int .i64 (p.last.row : Int), .int .i64 (p.last.col : Int)]) (by first | rfl | (go_simp; done) | (go_simp; rfl)) (by first | rfl | (go_simp; done) | (go_simp; rfl)) HZ2.out infoFrame3 rfl (by have h1 := HRS.out; simp [Value.oneCell'] at h1 ⊢; exact h1) ?_
  intro ws hx hk2 hz hb
  have HX := Hd.mk hx
  have HBs := Hd.mk (hb HB2.out (Nat.le_refl _))
  have HRs := Hd.mk (((HR2.out.ne HZ2.out (by decide) (by decide)).move (w' := ws) (fun k hp hl => hk2.2 k hl hp.2)).mono (P' := fun k => w.heap.size ≤ k) (fun k hk => hk.1))
  have hHd2 : (fun w' : World => Blk w' g 51 (ptV p (.slice A p.last.rows.length c) bv)) ws := hHd.to (hk2.2 g hHd.lt (hHd.ne_ HZ2.out (by decide)))
  clear hx hk2 hz hb hHd HB2 HZ2 HR2
  have hHd := hHd2
  clear hHd2
  refine hK.out _ _ hHd ?_
  clear hK K
  try simp only [Act.put, List.setIfInBounds_toArray, List.set_cons_zero, List.set_cons_succ]
  refine takeH (i := 10) (v := ?v9) rfl (by kernel_rfl) (by kernel_rfl) (by kernel_rfl) (fun _ _ _ h => h) (Or.inl ⟨by rfl, ?hy9⟩) (by assumption) ?rest9
  case hy9 => (intro w hSw; (try dsimp only at hSw); have d0 : w.cell? ⟨g, 0, none⟩ = some (.slice A p.last.rows.length c) := hSw.cell 0 rfl; have d1 : w.cell? ⟨g, 1, none⟩ = some (.int .i64 (p.last.row : Int)) := hSw.cell 1 rfl; have d2 : w.cell? ⟨g, 2, none⟩ = some (.int .i64 (p.last.col : Int)) := hSw.cell 2 rfl; have d3 : w.cell? ⟨g, 3, none⟩ = some (.bool p.is) := hSw.cell 3 rfl; go_simp; first | done | (with_reducible rfl) | rfl)
  case rest9 =>
  try simp only [Act.put, List.setIfInBounds_toArray, List.set_cons_zero, List.set_cons_succ]
  refine wpAnyH_done (by kernel_rfl) ?_ _
  refine hKQ _ _ ?_
  go_wp2
  exact ret_row_tmp (cs := #[lv', .int .i64 (p.last.row : Int), .int .i64 (p.last.col : Int)]) rfl rfl Tryd.underlying38 infoFrame3 rfl HX.out rfl rfl ⟨lv', rfl, ⟨L', HRs.out⟩, HBs.out⟩
end Go.Proofs.YtledplnlcjfafaaDoorL

