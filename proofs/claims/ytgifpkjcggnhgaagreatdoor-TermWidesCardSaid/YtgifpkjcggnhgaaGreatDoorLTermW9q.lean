/- Parts of the proof of the law that the last file states; declarations that nothing mentions are left out by a program. No conditions. -/
import Derived.Test.YtgifpkjcggnhgaaGreatDoorLTermW8q
set_option linter.unusedVariables false
set_option linter.unusedSimpArgs false
namespace Go.Proofs.YtgifpkjcggnhgaaGreatDoorL
open Go Go.RowKit Go.Proofs.YtgifpkjcggnhgaaGreatDoorW.PrintWords
theorem clone_b {P : Nat → Prop} {w : World} {A : Option Addr} {n c : Nat} {xs : List Int} (hq : (Kd.int .u8).Q 5 w 0 P (.slice A n c) xs) (hn : xs.length ≤ 1000000) :
    Calls Tryz.prog 31 #[.slice A n c] w fun e w' => ∃ A' c', e = .returned (.slice A' xs.length c') ∧ (Kd.int .u8).Q 5 w' w.heap.size (fun k => w.heap.size ≤ k) (.slice A' xs.length c') xs ∧ Below w.heap.size w w' := by
  obtain ⟨hl, hc, hC⟩ := Kd.Q_reads' hq
  subst hl
  have hr := Kd.reads_of_C (enc := Value.int .u8) (d := 0) (h1 := fun _ => rfl) hC
  cases A with
  | none =>
    have h0 : xs = [] := by
      cases xs with
      | nil => rfl
      | cons a l => obtain ⟨ad, h1, _⟩ := hr.2.2 (by simp); cases h1
    subst h0
    exact (clone_nil_calls 0 c w).mono (by rintro _ w' ⟨rfl, rfl⟩; exact ⟨none, 0, rfl, Kd.Q_nil _ _ _ _ _, Below.refl _ _⟩)
  | some ad =>
    have X := clone_bytes_calls ad xs.length c (xs.map (Value.int .u8)) w (by rw [List.length_map, Nat.mul_one]) (fun j u hj => by
      rw [List.getElem?_map] at hj
      obtain ⟨x, hx, rfl⟩ := Option.map_eq_some_iff.1 hj
      obtain ⟨hi, rfl⟩ := List.getElem?_eq_some_iff.1 hx
      obtain ⟨ad', e, h1⟩ := hr.2.2 (by omega)
      cases e
      rw [h1 j hi, List.getD_eq_getElem?_getD, List.getElem?_eq_getElem hi]
      rfl) (fun u hu => by obtain ⟨x, _, rfl⟩ := List.mem_map.1 hu; rfl) hn
    refine X.mono ?_
    rintro _ w' ⟨v', rfl, ho, hb⟩
    have hR := Kd.R_of_own (enc := Value.int .u8) (h1 := fun _ => rfl) (ok := fun _ => True) ho (fun _ _ => trivial)
    have hR2 := Kd.R_of_own (enc := Value.int .u8) (h1 := fun _ => rfl) (ok := fun k => w.heap.size ≤ k) ho (fun k hk => Kd.R_base hR k hk)
    obtain ⟨A', c', rfl, _⟩ := Kd.Q_slice (Kd.Q_of_R hR2)
    exact ⟨A', c', rfl, Kd.Q_of_R hR2, hb⟩
set_option maxRecDepth 100000 in
set_option maxHeartbeats 4000000 in
theorem copy_calls {P : Nat → Prop} {w : World} {T M : Nat} {s : Tm} (h : TermAt P w T s) (hok : OKT M s) :
    Calls Tryz.prog 18 #[.pointer (some ⟨T, 0, none⟩)] w fun e w' => ∃ T', e = .returned (.pointer (some ⟨T', 0, none⟩)) ∧ TermAt (fun k => w.heap.size ≤ k) w' T' s ∧ Below w.heap.size w w' := by
  obtain ⟨lv, gv, bv, L, G, h1⟩ := h
  have hl1 := forall_len h1.fl
  have hl2 := forall_len h1.fg
  obtain ⟨A, c, rfl, _⟩ := Kd.Q_slice h1.ql
  obtain ⟨A2, c2, rfl, _⟩ := Kd.Q_slice h1.qg
  obtain ⟨A3, c3, rfl, _⟩ := Kd.Q_slice h1.qb
  rw [hl1, hl2] at h1
  have H1 := Hd.mk h1.bound
  have HK := Hd.mk hok
  obtain ⟨⟨t0, t1, t2, t3, t4, t5, t6, t7, t8, t9, t10⟩, tf⟩ := h1.all
  clear h1 hok hl1 hl2
  go_enter Tryz.func18, Tryz.ntmps18
  go_upto_region 2 with fail
  rename_i KQ hKQ
  have hal := below_alloc (Below.refl _ w) (.cells (cellsT s (.slice A s.l.length c) (.slice A2 s.gone.length c2) (.slice A3 (nbL s.b).length c3)) 57)
  have B0 := Hd.mk (Blk.new w 57 (cellsT s (.slice A s.l.length c) (.slice A2 s.gone.length c2) (.slice A3 (nbL s.b).length c3)))
  replace H1 := Hd.mk (H1.out.below hal)
  have HB := Hd.mk hal
  clear hal t0 t1 t2 t3 t4 t5 t6 t7 t8 t9 t10 tf
  unfold cellsT at B0 HB H1
  generalize hgz : w.heap.size = g at *
  generalize w.alloc (.cells #[.int .i64 s.cols, .slice A s.l.length c, .slice A2 s.gone.length c2, .int .i64 s.off, .int .i64 s.row, .int .i64 s.col, .bool s.full, .bool s.dim, .int .i64 s.inn, .string s.seq, .slice A3 (nbL s.b).length c3] 57) = wa at *
  skip
  have HL : Hd (∀ x ∈ s.l, 1 ≤ x.length ∧ x.length ≤ 1000) := ⟨fun x hx => by have h1 := (HK.out.rows x hx).1; have h2 := HK.out.c1; have h3 := HK.out.c2; omega⟩
  have HL2 : Hd (∀ x ∈ s.gone, 1 ≤ x.length ∧ x.length ≤ 1000) := ⟨fun x hx => by have h1 := HK.out.gone.2.2 x hx; omega⟩
  have HN : Hd (s.l.length ≤ 1000 ∧ s.gone.length ≤ 1000 ∧ s.b.length ≤ 1000) := ⟨by have h1 := HK.out.r2; have h2 := HK.out.gone.1; have h3 := HK.out.b; omega⟩
  refine regionH (fun w' : World => w'.cell? ⟨T, 1, none⟩ = some (.slice A s.l.length c) ∧ w'.cell? ⟨T, 2, none⟩ = some (.slice A2 s.gone.length c2)) (by kernel_rfl) (fun wd hb => ?_)
  replace H1 := Hd.mk (H1.out.below hb)
  replace B0 := Hd.mk (B0.out.to (hb.block g B0.out.lt))
  replace HB := Hd.mk (HB.out.trans (hb.mono (by rw [← hgz]; exact HB.out.size)))
  clear hb
  have hHd : (fun w' : World => w'.cell? ⟨T, 1, none⟩ = some (.slice A s.l.length c) ∧ w'.cell? ⟨T, 2, none⟩ = some (.slice A2 s.gone.length c2)) wd := ⟨H1.out.all.1.2.1, H1.out.all.1.2.2.1⟩
  refine takeH (i := 0) (v := ?v1) rfl (by kernel_rfl) (by kernel_rfl) (by kernel_rfl) (fun _ _ _ h => h) (Or.inl ⟨by rfl, ?hy1⟩) (by assumption) ?rest1
  case hy1 => (intro w hSw; (try dsimp only at hSw); go_simp; try (with_reducible rfl))
  case rest1 =>
  try simp only [Act.put, List.setIfInBounds_toArray, List.set_cons_zero, List.set_cons_succ]
  refine takeH (i := 1) (v := ?v2) rfl (by kernel_rfl) (by kernel_rfl) (by kernel_rfl) (fun _ _ _ h => h) (Or.inl ⟨by rfl, ?hy2⟩) (by assumption) ?rest2
  case hy2 => (intro w hSw; (try dsimp only at hSw); go_simp; try (with_reducible rfl))
  case rest2 =>
  try simp only [Act.put, List.setIfInBounds_toArray, List.set_cons_zero, List.set_cons_succ]
  refine takeH (i := 2) (v := ?v3) rfl (by kernel_rfl) (by kernel_rfl) (by kernel_rfl) (fun _ _ _ h => h) (Or.inl ⟨by rfl, ?hy3⟩) (by assumption) ?rest3
  case hy3 => (intro w hSw; (try dsimp only at hSw); go_simp; try (with_reducible rfl))
  case rest3 =>
  try simp only [Act.put, List.setIfInBounds_toArray, List.set_cons_zero, List.set_cons_succ]
  refine takeH (i := 3) (v := ?v4) rfl (by kernel_rfl) (by kernel_rfl) (by kernel_rfl) (fun _ _ _ h => h) (Or.inl ⟨by rfl, ?hy4⟩) (by assumption) ?rest4
  case hy4 => (intro w hSw; (try dsimp only at hSw); go_simp; try (with_reducible rfl))
  case rest4 =>
  try simp only [Act.put, List.setIfInBounds_toArray, List.set_cons_zero, List.set_cons_succ]
  refine takeH (i := 5) (v := ?v5) rfl (by kernel_rfl) (by kernel_rfl) (by kernel_rfl) (fun _ _ _ h => h) (Or.inl ⟨by rfl, ?hy5⟩) (by assumption) ?rest5
  case hy5 => (intro w hSw; (try dsimp only at hSw); go_simp; try (with_reducible rfl))
  case rest5 =>
  try simp only [Act.put, List.setIfInBounds_toArray, List.set_cons_zero, List.set_cons_succ]
  refine takeH (i := 6) (v := ?v6) rfl (by kernel_rfl) (by kernel_rfl) (by kernel_rfl) (fun _ _ _ h => h) (Or.inl ⟨by rfl, ?hy6⟩) (by assumption) ?rest6
  case hy6 => (intro w hSw; (try dsimp only at hSw); go_simp; try (with_reducible rfl))
  case rest6 =>
  try simp only [Act.put, List.setIfInBounds_toArray, List.set_cons_zero, List.set_cons_succ]
  refine takeH (i := 7) (v := ?v7) rfl (by kernel_rfl) (by kernel_rfl) (by kernel_rfl) (fun _ _ _ h => h) (Or.inl ⟨by rfl, ?hy7⟩) (by assumption) ?rest7
  case hy7 => (intro w hSw; (try dsimp only at hSw); go_simp; try (with_reducible rfl))
  case rest7 =>
  try simp only [Act.put, List.setIfInBounds_toArray, List.set_cons_zero, List.set_cons_succ]
  refine takeH (i := 8) (v := ?v8) rfl (by kernel_rfl) (by kernel_rfl) (by kernel_rfl) (fun _ _ _ h => h) (Or.inl ⟨by rfl, ?hy8⟩) (by assumption) ?rest8
  case hy8 => (intro w hSw; (try dsimp only at hSw); go_simp; try (with_reducible rfl))
  case rest8 =>
  try simp only [Act.put, List.setIfInBounds_toArray, List.set_cons_zero, List.set_cons_succ]
  refine wpAnyH_ready (rs := [4]) (by kernel_rfl) (by simp) ?_
  refine consH rfl (fun K hK => ?_) AllReadyH.nil
  have XC := Hd.mk (copied_calls H1.out.ql H1.out.fl HL.out HN.out.1)
  go_simp
  go_at_call 30
  with_reducible refine XC.out.mono ?_
  rintro _ wq ⟨v1, L1, rfl, hr, hb⟩
  have HR1 := Hd.mk hr
  have HD1 : Hd (wd.heap.size ≤ wq.heap.size) := ⟨hb.size⟩
  replace H1 := Hd.mk (H1.out.below hb)
  have HGD : Hd (g < wd.heap.size) := ⟨B0.out.lt⟩
  replace B0 := Hd.mk (B0.out.to (hb.block g B0.out.lt))
  replace HB := Hd.mk (HB.out.trans (hb.mono (by rw [← hgz]; exact HB.out.size)))
  obtain ⟨Av, cv, rfl, _⟩ := Kd.Q_slice HR1.out.q
  clear hr hb XC hHd
  have hHd : (fun w' : World => w'.cell? ⟨T, 1, none⟩ = some (.slice A s.l.length c) ∧ w'.cell? ⟨T, 2, none⟩ = some (.slice A2 s.gone.length c2)) wq := ⟨H1.out.all.1.2.1, H1.out.all.1.2.2.1⟩
  go_simp
  refine hK.out _ _ hHd ?_
  clear hK K
  try simp only [Act.put, List.setIfInBounds_toArray, List.set_cons_zero, List.set_cons_succ]
  refine wpAnyH_ready (rs := [9]) (by kernel_rfl) (by simp) ?_
  refine consH rfl (fun K hK => ?_) AllReadyH.nil
  have XC := Hd.mk (copied_calls H1.out.qg H1.out.fg HL2.out HN.out.2.1)
  go_simp
  go_at_call 30
  with_reducible refine XC.out.mono ?_
  rintro _ wr ⟨v2, L2, rfl, hr, hb⟩
  have HR2 := Hd.mk hr
  have HLT1 := Hd.mk HR1.out.lt
  have HSP1 : Hd (∀ k, (Value.slice Av L1.length cv).ownBlock = some k → k < wq.heap.size) := ⟨Kd.Q_lt HR1.out.q⟩
  replace HR1 := Hd.mk (HR1.out.below hb)
  replace H1 := Hd.mk (H1.out.below hb)
  replace B0 := Hd.mk (B0.out.to (hb.block g B0.out.lt))
  replace HB := Hd.mk (HB.out.trans (hb.mono (by rw [← hgz]; exact HB.out.size)))
  obtain ⟨Aw, cw, rfl, _⟩ := Kd.Q_slice HR2.out.q
  clear hr hb XC hHd
  have hHd : (fun w' : World => w'.cell? ⟨T, 1, none⟩ = some (.slice A s.l.length c) ∧ w'.cell? ⟨T, 2, none⟩ = some (.slice A2 s.gone.length c2)) wr := ⟨H1.out.all.1.2.1, H1.out.all.1.2.2.1⟩
  go_simp
  refine hK.out _ _ hHd ?_
  clear hK K
  try simp only [Act.put, List.setIfInBounds_toArray, List.set_cons_zero, List.set_cons_succ]
  refine takeH (i := 10) (v := ?v9) rfl (by kernel_rfl) (by kernel_rfl) (by kernel_rfl) (fun _ _ _ h => h) (Or.inl ⟨by rfl, ?hy9⟩) (by assumption) ?rest9
  case hy9 => (intro w hSw; (try dsimp only at hSw); go_simp; try (with_reducible rfl))
  case rest9 =>
  try simp only [Act.put, List.setIfInBounds_toArray, List.set_cons_zero, List.set_cons_succ]
  refine wpAnyH_ready (rs := [11]) (by kernel_rfl) (by simp) ?_
  refine consH rfl (fun K hK => ?_) AllReadyH.nil
  rw [if_pos (by first | rfl | (go_simp; done) | (go_simp; rfl))]
  refine cell_step rfl rfl (g := g) (i := 1) (v := (.slice Av L1.length cv)) (by first | rfl | (go_simp; done) | (go_simp; rfl)) (by first | rfl | (go_simp; done) | (go_simp; rfl)) (B0.out.cell 1 rfl) (B0.out.frozen 1) info_spine1 rfl ?_
  have H1' := Hd.mk (H1.out.move (w' := wr.setCell ⟨g, 1, none⟩ (.slice Av L1.length cv)) (fun k hk _ => Below.heap_setCell _ ⟨g, 1, none⟩ (.slice Av L1.length cv) k (by have := hk.2; show k ≠ g; omega)))
  have HR1' := Hd.mk (HR1.out.set_ B0.out (i := 1) (.slice Av L1.length cv))
  have HR2' := Hd.mk (HR2.out.set_ B0.out (i := 1) (.slice Av L1.length cv))
  have HB' := Hd.mk (HB.out.setCell (p := ⟨g, 1, none⟩) (Nat.le_refl g) (.slice Av L1.length cv))
  have B0' := Hd.mk (show Blk (wr.setCell ⟨g, 1, none⟩ (.slice Av L1.length cv)) g 57 #[.int .i64 s.cols, .slice Av L1.length cv, .slice A2 s.gone.length c2, .int .i64 s.off, .int .i64 s.row, .int .i64 s.col, .bool s.full, .bool s.dim, .int .i64 s.inn, .string s.seq, .slice A3 (nbL s.b).length c3] from B0.out.set_ 1 (.slice Av L1.length cv))
  clear H1 HR1 HR2 HB B0 hHd
  have H1 := H1'
  have HR1 := HR1'
  have HR2 := HR2'
  have HB := HB'
  have B0 := B0'
  clear H1' HR1' HR2' HB' B0'
  have hHd : (fun w' : World => w'.cell? ⟨T, 1, none⟩ = some (.slice A s.l.length c) ∧ w'.cell? ⟨T, 2, none⟩ = some (.slice A2 s.gone.length c2)) _ := ⟨H1.out.all.1.2.1, H1.out.all.1.2.2.1⟩
  refine hK.out _ _ hHd ?_
  clear hK K
  try simp only [Act.put, List.setIfInBounds_toArray, List.set_cons_zero, List.set_cons_succ]
  refine takeH (i := 12) (v := ?v10) rfl (by kernel_rfl) (by kernel_rfl) (by kernel_rfl) (fun _ _ _ h => h) (Or.inl ⟨by rfl, ?hy10⟩) (by assumption) ?rest10
  case hy10 => (intro w hSw; (try dsimp only at hSw); go_simp; try (with_reducible rfl))
  case rest10 =>
  try simp only [Act.put, List.setIfInBounds_toArray, List.set_cons_zero, List.set_cons_succ]
  refine wpAnyH_ready (rs := [13]) (by kernel_rfl) (by simp) ?_
  refine consH rfl (fun K hK => ?_) AllReadyH.nil
  rw [if_pos (by first | rfl | (go_simp; done) | (go_simp; rfl))]
  refine cell_step rfl rfl (g := g) (i := 2) (v := (.slice Aw L2.length cw)) (by first | rfl | (go_simp; done) | (go_simp; rfl)) (by first | rfl | (go_simp; done) | (go_simp; rfl)) (B0.out.cell 2 rfl) (B0.out.frozen 2) info_spine1 rfl ?_
  have H1' := Hd.mk (H1.out.move (w' := (wr.setCell ⟨g, 1, none⟩ (.slice Av L1.length cv)).setCell ⟨g, 2, none⟩ (.slice Aw L2.length cw)) (fun k hk _ => Below.heap_setCell _ ⟨g, 2, none⟩ (.slice Aw L2.length cw) k (by have := hk.2; show k ≠ g; omega)))
  have HR1' := Hd.mk (HR1.out.set_ B0.out (i := 2) (.slice Aw L2.length cw))
  have HR2' := Hd.mk (HR2.out.set_ B0.out (i := 2) (.slice Aw L2.length cw))
  have HB' := Hd.mk (HB.out.setCell (p := ⟨g, 2, none⟩) (Nat.le_refl g) (.slice Aw L2.length cw))
  have B0' := Hd.mk (show Blk ((wr.setCell ⟨g, 1, none⟩ (.slice Av L1.length cv)).setCell ⟨g, 2, none⟩ (.slice Aw L2.length cw)) g 57 #[.int .i64 s.cols, .slice Av L1.length cv, .slice Aw L2.length cw, .int .i64 s.off, .int .i64 s.row, .int .i64 s.col, .bool s.full, .bool s.dim, .int .i64 s.inn, .string s.seq, .slice A3 (nbL s.b).length c3] from B0.out.set_ 2 (.slice Aw L2.length cw))
  clear H1 HR1 HR2 HB B0 hHd
  have H1 := H1'
  have HR1 := HR1'
  have HR2 := HR2'
  have HB := HB'
  have B0 := B0'
  clear H1' HR1' HR2' HB' B0'
  have hHd : (fun w' : World => w'.cell? ⟨T, 1, none⟩ = some (.slice A s.l.length c) ∧ w'.cell? ⟨T, 2, none⟩ = some (.slice A2 s.gone.length c2)) _ := ⟨H1.out.all.1.2.1, H1.out.all.1.2.2.1⟩
  refine hK.out _ _ hHd ?_
  clear hK K
  try simp only [Act.put, List.setIfInBounds_toArray, List.set_cons_zero, List.set_cons_succ]
  refine wpAnyH_done (by kernel_rfl) ?_ _
  refine hKQ _ _ ?_
  clear hHd
  generalize (wr.setCell ⟨g, 1, none⟩ (.slice Av L1.length cv)).setCell ⟨g, 2, none⟩ (.slice Aw L2.length cw) = w5 at *
  have XB := Hd.mk (clone_b H1.out.qb (by unfold nbL; rw [List.length_map]; have := HN.out.2.2; omega))
  obtain ⟨⟨t0, t1, t2, t3, t4, t5, t6, t7, t8, t9, t10⟩, tf⟩ := H1.out.all
  clear t0 t1 t2 t3 t4 t5 t6 t7 t8 t9
  go_wp2_with fail
  go_at_call 31
  with_reducible refine XB.out.mono ?_
  rintro _ w6 ⟨A9, c9, rfl, hq, hb⟩
  have HQ := Hd.mk hq
  replace HR1 := Hd.mk (HR1.out.below hb)
  replace HR2 := Hd.mk (HR2.out.below hb)
  have HG5 : Hd (g < w5.heap.size) := ⟨B0.out.lt⟩
  replace B0 := Hd.mk (B0.out.to (hb.block g B0.out.lt))
  replace HB := Hd.mk (HB.out.trans (hb.mono (by rw [← hgz]; exact HB.out.size)))
  have d10 := B0.out.cell 10 rfl
  have df := B0.out.frozen 10
  clear hq hb XB t10 tf H1
  go_wp2
  go_ret
  have H7 := HR1.out.set_ B0.out (i := 10) (.slice A9 (nbL s.b).length c9)
  have H8 := HR2.out.set_ B0.out (i := 10) (.slice A9 (nbL s.b).length c9)
  have B1 := B0.out.set_ 10 (.slice A9 (nbL s.b).length c9)
  have e1 := HGD.out
  have e2 := HD1.out
  have e3 := HG5.out
  refine ⟨g, rfl, ⟨_, _, _, L1, L2, B1, by show w.heap.size ≤ g; omega, Kd.Q_mono (Kd.Q_lower H7.q (Nat.zero_le _)) (fun k hk => by omega), Kd.Q_mono (Kd.Q_lower H8.q (Nat.zero_le _)) (fun k hk => by omega), fun k hk e => ?_, ?_, H7.f, H8.f, ?_, ?_⟩, (by rw [hgz]; exact HB.out.setCell (p := ⟨g, 10, none⟩) (Nat.le_refl g) _)⟩
  · have h1 := HSP1.out k hk
    have h2 := Kd.Q_base H8.q k e
    omega
  · exact Kd.Q_mono (Kd.Q_lower (q_frame rfl HQ.out (fun k hk => Below.heap_setCell _ ⟨g, 10, none⟩ _ k (by have := Kd.Q_base HQ.out k hk; show k ≠ g; omega))) (Nat.zero_le _)) (fun k hk => by omega)
  · rw [List.map_append, List.nodup_append]
    refine ⟨H7.nd, H8.nd, fun a ha b hb => ?_⟩
    obtain ⟨r, hr, rfl⟩ := List.mem_map.1 ha
    obtain ⟨r', hr', rfl⟩ := List.mem_map.1 hb
    have h1 := HLT1.out r hr
    have h2 := H8.ge r' hr'
    omega
  · intro r hr
    rcases List.mem_append.1 hr with hr | hr
    · have := H7.ge r hr
      show w.heap.size ≤ r.g
      omega
    · have := H8.ge r hr
      show w.heap.size ≤ r.g
      omega
end Go.Proofs.YtgifpkjcggnhgaaGreatDoorL

