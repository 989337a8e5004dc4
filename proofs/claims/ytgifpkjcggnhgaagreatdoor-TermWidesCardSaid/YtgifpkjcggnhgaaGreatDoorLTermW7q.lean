/- Parts of the proof of the law that the last file states; declarations that nothing mentions are left out by a program. No conditions. -/
import Derived.Test.YtgifpkjcggnhgaaGreatDoorLTermW6q
set_option linter.unusedVariables false
set_option linter.unusedSimpArgs false
namespace Go.Proofs.YtgifpkjcggnhgaaGreatDoorL
open Go Go.RowKit Go.Proofs.YtgifpkjcggnhgaaGreatDoorW.PrintWords
theorem info_int1 : (Tryz.prog.info? 3).map (·.size) = some 1 := by kernel_rfl
theorem info_bool1 : (Tryz.prog.info? 4).map (·.size) = some 1 := by kernel_rfl
set_option maxRecDepth 100000 in
set_option maxHeartbeats 4000000 in
theorem to_calls {P : Nat → Prop} {w : World} {T : Nat} {s : Tm} (h : TermAt P w T s) (hok : 1 ≤ s.l.length ∧ s.l.length ≤ 60 ∧ 1 ≤ s.cols ∧ s.cols ≤ 120) (a b : Int) :
    Calls Tryz.prog 32 #[.pointer (some ⟨T, 0, none⟩), .int .i64 a, .int .i64 b] w fun e w' => e = .returned (.tuple #[]) ∧ TermAt P w' T (s.to_ a b) ∧ Only P w w' := by
  obtain ⟨lv, gv, bv, L, G, h1⟩ := h
  have hlen := forall_len h1.fl
  obtain ⟨hr1, hr2, hc1, hc2⟩ := hok
  obtain ⟨A, c, rfl, hcap⟩ := Kd.Q_slice h1.ql
  have H1 := Hd.mk h1
  have HO : Hd (Only P w w) := ⟨Only.refl P w⟩
  rw [hlen] at H1
  clear hcap h1 hlen
  go_enter Tryz.func32, Tryz.ntmps32
  go_upto_region 0 with fail
  refine regionH (fun w' : World => w'.cell? ⟨T, 0, none⟩ = some (.int .i64 (s.cols : Int)) ∧ w'.cell? ⟨T, 1, none⟩ = some (.slice A s.l.length c)) (by kernel_rfl) (fun wd hb => ?_)
  replace H1 := Hd.mk (H1.out.below hb)
  replace HO := Hd.mk (HO.out.below hb)
  clear hb
  have hHd : (fun w' : World => w'.cell? ⟨T, 0, none⟩ = some (.int .i64 (s.cols : Int)) ∧ w'.cell? ⟨T, 1, none⟩ = some (.slice A s.l.length c)) wd := ⟨H1.out.all.1.1, H1.out.all.1.2.1⟩
  obtain ⟨r, hr⟩ : ∃ r, clampN a s.l.length = r := ⟨_, rfl⟩
  obtain ⟨k, hk⟩ : ∃ k, clampN b s.cols = k := ⟨_, rfl⟩
  have HR : Hd (min (max a 0) ((s.l.length : Int) - 1) = (r : Int)) := ⟨by rw [← hr]; unfold clampN; omega⟩
  have HK : Hd (min (max b 0) ((s.cols : Int) - 1) = (k : Int)) := ⟨by rw [← hk]; unfold clampN; omega⟩
  have HS : Hd (s.to_ a b = { s with row := r, col := k, full := false }) := ⟨by unfold Tm.to_; rw [hr, hk]⟩
  have q1 : (1 : Int) ≤ (s.l.length : Int) := by omega
  have q2 : (s.l.length : Int) ≤ 60 := by omega
  have q3 : (1 : Int) ≤ (s.cols : Int) := by omega
  have q4 : (s.cols : Int) ≤ 120 := by omega
  clear hr hk hr1 hr2 hc1 hc2
  refine takeH (i := 0) (v := ?v1) rfl (by kernel_rfl) (by kernel_rfl) (by kernel_rfl) (fun _ _ _ h => h) (Or.inl ⟨by rfl, ?hy1⟩) (by assumption) ?rest1
  case hy1 => (intro w hSw; (try dsimp only at hSw); go_simp; try (with_reducible rfl))
  case rest1 =>
  try simp only [Act.put, List.setIfInBounds_toArray, List.set_cons_zero, List.set_cons_succ]
  refine takeH (i := 1) (v := ?v2) rfl (by kernel_rfl) (by kernel_rfl) (by kernel_rfl) (fun _ _ _ h => h) (Or.inl ⟨by rfl, ?hy2⟩) (by assumption) ?rest2
  case hy2 => (intro w hSw; (try dsimp only at hSw); go_simp; try (with_reducible rfl))
  case rest2 =>
  try simp only [Act.put, List.setIfInBounds_toArray, List.set_cons_zero, List.set_cons_succ]
  refine takeH (i := 2) (v := ?v3) rfl (by kernel_rfl) (by kernel_rfl) (by kernel_rfl) (fun _ _ _ h => h) (Or.inl ⟨by rfl, ?hy3⟩) (by assumption) ?rest3
  case hy3 => (intro w hSw; (try dsimp only at hSw); go_simp; try (with_reducible rfl))
  case rest3 =>
  try simp only [Act.put, List.setIfInBounds_toArray, List.set_cons_zero, List.set_cons_succ]
  refine takeH (i := 3) (v := ?v4) rfl (by kernel_rfl) (by kernel_rfl) (by kernel_rfl) (fun _ _ _ h => h) (Or.inl ⟨by rfl, ?hy4⟩) (by assumption) ?rest4
  case hy4 => (intro w hSw; (try dsimp only at hSw); go_simp; try (with_reducible rfl))
  case rest4 =>
  try simp only [Act.put, List.setIfInBounds_toArray, List.set_cons_zero, List.set_cons_succ]
  refine takeH (i := 4) (v := ?v5) rfl (by kernel_rfl) (by kernel_rfl) (by kernel_rfl) (fun _ _ _ h => h) (Or.inl ⟨by rfl, ?hy5⟩) (by assumption) ?rest5
  case hy5 => (intro w hSw; (try dsimp only at hSw); go_simp; try (with_reducible rfl))
  case rest5 =>
  try simp only [Act.put, List.setIfInBounds_toArray, List.set_cons_zero, List.set_cons_succ]
  refine takeH (i := 5) (v := ?v6) rfl (by kernel_rfl) (by kernel_rfl) (by kernel_rfl) (fun _ _ _ h => h) (Or.inl ⟨by rfl, ?hy6⟩) (by assumption) ?rest6
  case hy6 => (intro w hSw; (try dsimp only at hSw); go_simp; try (with_reducible rfl))
  case rest6 =>
  try simp only [Act.put, List.setIfInBounds_toArray, List.set_cons_zero, List.set_cons_succ]
  refine takeH (i := 6) (v := ?v7) rfl (by kernel_rfl) (by kernel_rfl) (by kernel_rfl) (fun _ _ _ h => h) (Or.inl ⟨by rfl, ?hy7⟩) (by assumption) ?rest7
  case hy7 => (intro w hSw; (try dsimp only at hSw); go_simp; try (with_reducible rfl))
  case rest7 =>
  try simp only [Act.put, List.setIfInBounds_toArray, List.set_cons_zero, List.set_cons_succ]
  refine takeH (i := 7) (v := ?v8) rfl (by kernel_rfl) (by kernel_rfl) (by kernel_rfl) (fun _ _ _ h => h) (Or.inl ⟨by rfl, ?hy8⟩) (by assumption) ?rest8
  case hy8 => (intro w hSw; (try dsimp only at hSw); go_simp; try (with_reducible rfl))
  case rest8 =>
  try simp only [Act.put, List.setIfInBounds_toArray, List.set_cons_zero, List.set_cons_succ]
  refine takeH (i := 8) (v := ?v9) rfl (by kernel_rfl) (by kernel_rfl) (by kernel_rfl) (fun _ _ _ h => h) (Or.inl ⟨by rfl, ?hy9⟩) (by assumption) ?rest9
  case hy9 => (intro w hSw; (try dsimp only at hSw); go_simp; try (with_reducible rfl))
  case rest9 =>
  try simp only [Act.put, List.setIfInBounds_toArray, List.set_cons_zero, List.set_cons_succ]
  refine takeH (i := 9) (v := ?v10) rfl (by kernel_rfl) (by kernel_rfl) (by kernel_rfl) (fun _ _ _ h => h) (Or.inl ⟨by rfl, ?hy10⟩) (by assumption) ?rest10
  case hy10 => (intro w hSw; (try dsimp only at hSw); go_simp; try (with_reducible rfl))
  case rest10 =>
  try simp only [Act.put, List.setIfInBounds_toArray, List.set_cons_zero, List.set_cons_succ]
  refine takeH (i := 10) (v := ?v11) rfl (by kernel_rfl) (by kernel_rfl) (by kernel_rfl) (fun _ _ _ h => h) (Or.inl ⟨by rfl, ?hy11⟩) (by assumption) ?rest11
  case hy11 => (intro w hSw; (try dsimp only at hSw); go_simp; try (with_reducible rfl))
  case rest11 =>
  try simp only [Act.put, List.setIfInBounds_toArray, List.set_cons_zero, List.set_cons_succ]
  refine takeH (i := 11) (v := (.int .i64 (r : Int))) rfl (by kernel_rfl) (by kernel_rfl) (by kernel_rfl) (fun _ _ _ h => h) (Or.inl ⟨by rfl, ?hy12⟩) (by assumption) ?rest12
  case hy12 => (intro w hSw; (try dsimp only at hSw); go_simp; first | exact HR.out | (rw [← HR.out]; done) | (rw [IntKind.wrap_i64, ← HR.out]; omega))
  case rest12 =>
  try simp only [Act.put, List.setIfInBounds_toArray, List.set_cons_zero, List.set_cons_succ]
  refine takeH (i := 12) (v := ?v13) rfl (by kernel_rfl) (by kernel_rfl) (by kernel_rfl) (fun _ _ _ h => h) (Or.inl ⟨by rfl, ?hy13⟩) (by assumption) ?rest13
  case hy13 => (intro w hSw; (try dsimp only at hSw); go_simp; try (with_reducible rfl))
  case rest13 =>
  try simp only [Act.put, List.setIfInBounds_toArray, List.set_cons_zero, List.set_cons_succ]
  refine takeH (i := 13) (v := ?v14) rfl (by kernel_rfl) (by kernel_rfl) (by kernel_rfl) (fun _ _ _ h => h) (Or.inl ⟨by rfl, ?hy14⟩) (by assumption) ?rest14
  case hy14 => (intro w hSw; (try dsimp only at hSw); go_simp; try (with_reducible rfl))
  case rest14 =>
  try simp only [Act.put, List.setIfInBounds_toArray, List.set_cons_zero, List.set_cons_succ]
  refine takeH (i := 14) (v := ?v15) rfl (by kernel_rfl) (by kernel_rfl) (by kernel_rfl) (fun _ _ _ h => h) (Or.inl ⟨by rfl, ?hy15⟩) (by assumption) ?rest15
  case hy15 => (intro w hSw; (try dsimp only at hSw); go_simp; try (with_reducible rfl))
  case rest15 =>
  try simp only [Act.put, List.setIfInBounds_toArray, List.set_cons_zero, List.set_cons_succ]
  refine takeH (i := 15) (v := ?v16) rfl (by kernel_rfl) (by kernel_rfl) (by kernel_rfl) (fun _ _ _ h => h) (Or.inl ⟨by rfl, ?hy16⟩) (by assumption) ?rest16
  case hy16 => (intro w hSw; (try dsimp only at hSw); go_simp; try (with_reducible rfl))
  case rest16 =>
  try simp only [Act.put, List.setIfInBounds_toArray, List.set_cons_zero, List.set_cons_succ]
  refine takeH (i := 16) (v := ?v17) rfl (by kernel_rfl) (by kernel_rfl) (by kernel_rfl) (fun _ _ _ h => h) (Or.inl ⟨by rfl, ?hy17⟩) (by assumption) ?rest17
  case hy17 => (intro w hSw; (try dsimp only at hSw); go_simp; try (with_reducible rfl))
  case rest17 =>
  try simp only [Act.put, List.setIfInBounds_toArray, List.set_cons_zero, List.set_cons_succ]
  refine takeH (i := 17) (v := ?v18) rfl (by kernel_rfl) (by kernel_rfl) (by kernel_rfl) (fun _ _ _ h => h) (Or.inl ⟨by rfl, ?hy18⟩) (by assumption) ?rest18
  case hy18 => (intro w hSw; (try dsimp only at hSw); go_simp; try (with_reducible rfl))
  case rest18 =>
  try simp only [Act.put, List.setIfInBounds_toArray, List.set_cons_zero, List.set_cons_succ]
  refine takeH (i := 18) (v := ?v19) rfl (by kernel_rfl) (by kernel_rfl) (by kernel_rfl) (fun _ _ _ h => h) (Or.inl ⟨by rfl, ?hy19⟩) (by assumption) ?rest19
  case hy19 => (intro w hSw; (try dsimp only at hSw); go_simp; try (with_reducible rfl))
  case rest19 =>
  try simp only [Act.put, List.setIfInBounds_toArray, List.set_cons_zero, List.set_cons_succ]
  refine takeH (i := 19) (v := (.int .i64 (k : Int))) rfl (by kernel_rfl) (by kernel_rfl) (by kernel_rfl) (fun _ _ _ h => h) (Or.inl ⟨by rfl, ?hy20⟩) (by assumption) ?rest20
  case hy20 => (intro w hSw; (try dsimp only at hSw); go_simp; first | exact HK.out | (rw [← HK.out]; done) | (rw [IntKind.wrap_i64, ← HK.out]; omega))
  case rest20 =>
  try simp only [Act.put, List.setIfInBounds_toArray, List.set_cons_zero, List.set_cons_succ]
  refine takeH (i := 20) (v := ?v21) rfl (by kernel_rfl) (by kernel_rfl) (by kernel_rfl) (fun _ _ _ h => h) (Or.inl ⟨by rfl, ?hy21⟩) (by assumption) ?rest21
  case hy21 => (intro w hSw; (try dsimp only at hSw); go_simp; try (with_reducible rfl))
  case rest21 =>
  try simp only [Act.put, List.setIfInBounds_toArray, List.set_cons_zero, List.set_cons_succ]
  refine takeH (i := 21) (v := ?v22) rfl (by kernel_rfl) (by kernel_rfl) (by kernel_rfl) (fun _ _ _ h => h) (Or.inl ⟨by rfl, ?hy22⟩) (by assumption) ?rest22
  case hy22 => (intro w hSw; (try dsimp only at hSw); go_simp; try (with_reducible rfl))
  case rest22 =>
  try simp only [Act.put, List.setIfInBounds_toArray, List.set_cons_zero, List.set_cons_succ]
  refine wpAnyH_ready (rs := [22]) (by kernel_rfl) (by simp) ?_
  refine consH rfl (fun K hK => ?_) AllReadyH.nil
  rw [if_pos (by first | rfl | (go_simp; done) | (go_simp; rfl))]
  refine cell_step rfl rfl (g := T) (i := 4) (v := (.int .i64 (r : Int))) (by first | rfl | (go_simp; done) | (go_simp; rfl)) (by first | rfl | (go_simp; done) | (go_simp; rfl)) (H1.out.all.1.2.2.2.2.1) (H1.out.all.2 4) info_int1 rfl ?_
  have H2 := Hd.mk (H1.out.row_ r)
  have HO2 : Hd (Only P _ _) := ⟨HO.out.setCell (p := ⟨T, 4, none⟩) (.inl H1.out.pt) (.int .i64 (r : Int))⟩
  have hHd2 : (fun w' : World => w'.cell? ⟨T, 0, none⟩ = some (.int .i64 (s.cols : Int)) ∧ w'.cell? ⟨T, 1, none⟩ = some (.slice A s.l.length c)) _ := ⟨H2.out.all.1.1, H2.out.all.1.2.1⟩
  clear hHd H1 HO
  have H1 := H2
  have HO := HO2
  have hHd := hHd2
  clear H2 HO2 hHd2
  refine hK.out _ _ hHd ?_
  clear hK K
  try simp only [Act.put, List.setIfInBounds_toArray, List.set_cons_zero, List.set_cons_succ]
  refine takeH (i := 23) (v := ?v23) rfl (by kernel_rfl) (by kernel_rfl) (by kernel_rfl) (fun _ _ _ h => h) (Or.inl ⟨by rfl, ?hy23⟩) (by assumption) ?rest23
  case hy23 => (intro w hSw; (try dsimp only at hSw); go_simp; try (with_reducible rfl))
  case rest23 =>
  try simp only [Act.put, List.setIfInBounds_toArray, List.set_cons_zero, List.set_cons_succ]
  refine takeH (i := 24) (v := ?v24) rfl (by kernel_rfl) (by kernel_rfl) (by kernel_rfl) (fun _ _ _ h => h) (Or.inl ⟨by rfl, ?hy24⟩) (by assumption) ?rest24
  case hy24 => (intro w hSw; (try dsimp only at hSw); go_simp; try (with_reducible rfl))
  case rest24 =>
  try simp only [Act.put, List.setIfInBounds_toArray, List.set_cons_zero, List.set_cons_succ]
  refine wpAnyH_ready (rs := [25]) (by kernel_rfl) (by simp) ?_
  refine consH rfl (fun K hK => ?_) AllReadyH.nil
  rw [if_pos (by first | rfl | (go_simp; done) | (go_simp; rfl))]
  refine cell_step rfl rfl (g := T) (i := 5) (v := (.int .i64 (k : Int))) (by first | rfl | (go_simp; done) | (go_simp; rfl)) (by first | rfl | (go_simp; done) | (go_simp; rfl)) (H1.out.all.1.2.2.2.2.2.1) (H1.out.all.2 5) info_int1 rfl ?_
  have H2 := Hd.mk (H1.out.col_ k)
  have HO2 : Hd (Only P _ _) := ⟨HO.out.setCell (p := ⟨T, 5, none⟩) (.inl H1.out.pt) (.int .i64 (k : Int))⟩
  have hHd2 : (fun w' : World => w'.cell? ⟨T, 0, none⟩ = some (.int .i64 (s.cols : Int)) ∧ w'.cell? ⟨T, 1, none⟩ = some (.slice A s.l.length c)) _ := ⟨H2.out.all.1.1, H2.out.all.1.2.1⟩
  clear hHd H1 HO
  have H1 := H2
  have HO := HO2
  have hHd := hHd2
  clear H2 HO2 hHd2
  refine hK.out _ _ hHd ?_
  clear hK K
  try simp only [Act.put, List.setIfInBounds_toArray, List.set_cons_zero, List.set_cons_succ]
  refine takeH (i := 26) (v := ?v25) rfl (by kernel_rfl) (by kernel_rfl) (by kernel_rfl) (fun _ _ _ h => h) (Or.inl ⟨by rfl, ?hy25⟩) (by assumption) ?rest25
  case hy25 => (intro w hSw; (try dsimp only at hSw); go_simp; try (with_reducible rfl))
  case rest25 =>
  try simp only [Act.put, List.setIfInBounds_toArray, List.set_cons_zero, List.set_cons_succ]
  refine takeH (i := 27) (v := ?v26) rfl (by kernel_rfl) (by kernel_rfl) (by kernel_rfl) (fun _ _ _ h => h) (Or.inl ⟨by rfl, ?hy26⟩) (by assumption) ?rest26
  case hy26 => (intro w hSw; (try dsimp only at hSw); go_simp; try (with_reducible rfl))
  case rest26 =>
  try simp only [Act.put, List.setIfInBounds_toArray, List.set_cons_zero, List.set_cons_succ]
  refine wpAnyH_ready (rs := [28]) (by kernel_rfl) (by simp) ?_
  refine consH rfl (fun K hK => ?_) AllReadyH.nil
  rw [if_pos (by first | rfl | (go_simp; done) | (go_simp; rfl))]
  refine cell_step rfl rfl (g := T) (i := 6) (v := (.bool false)) (by first | rfl | (go_simp; done) | (go_simp; rfl)) (by first | rfl | (go_simp; done) | (go_simp; rfl)) (H1.out.all.1.2.2.2.2.2.2.1) (H1.out.all.2 6) info_bool1 rfl ?_
  have H2 := Hd.mk (H1.out.full_ false)
  have HO2 : Hd (Only P _ _) := ⟨HO.out.setCell (p := ⟨T, 6, none⟩) (.inl H1.out.pt) (.bool false)⟩
  have hHd2 : (fun w' : World => w'.cell? ⟨T, 0, none⟩ = some (.int .i64 (s.cols : Int)) ∧ w'.cell? ⟨T, 1, none⟩ = some (.slice A s.l.length c)) _ := ⟨H2.out.all.1.1, H2.out.all.1.2.1⟩
  clear hHd H1 HO
  have H1 := H2
  have HO := HO2
  have hHd := hHd2
  clear H2 HO2 hHd2
  refine hK.out _ _ hHd ?_
  clear hK K
  try simp only [Act.put, List.setIfInBounds_toArray, List.set_cons_zero, List.set_cons_succ]
  refine wpAnyH_done (by kernel_rfl) ?_ _
  go_end0
  exact ⟨rfl, by rw [HS.out]; exact H1.out.at_, HO.out⟩
set_option maxRecDepth 100000 in
set_option maxHeartbeats 4000000 in
theorem ctl_calls {P : Nat → Prop} {w : World} {T M : Nat} {s : Tm} (h : TermAt P w T s) (hok : OKT M s) (hM : M ≤ 1000000) (hP : ∀ k, w.heap.size ≤ k → P k) (x : Nat) (hx : x < 256) :
    Calls Tryz.prog 48 #[.pointer (some ⟨T, 0, none⟩), .int .u8 (x : Int)] w fun e w' => e = .returned (.tuple #[]) ∧ TermAt P w' T (s.control x) ∧ Only P w w' := by
  have hc2 := hok.c2
  have hcol := hok.col
  have XD := Hd.mk (down_calls h hok hM hP)
  obtain ⟨lv, gv, bv, L, G, h1⟩ := h
  have H1 := Hd.mk h1
  obtain ⟨⟨t0, t1, t2, t3, t4, t5, t6, t7, t8, t9, t10⟩, tf⟩ := h1.all
  clear t0 t1 t2 t3 t4 t7 t8 t9 t10 h1 hP hok
  have hk0 : (0 : Int) ≤ (s.col : Int) := Int.natCast_nonneg _
  have hk1 : (s.col : Int) ≤ 120 := by omega
  by_cases e13 : x = 13
  · subst e13
    have HS : Hd (s.control 13 = { s with col := 0, full := false }) := ⟨rfl⟩
    go_enter Tryz.func48, Tryz.ntmps48
    go_wp2_with fail
    go_end0
    exact ⟨rfl, by rw [HS.out]; exact ((H1.out.col_ 0).full_ false).at_, ((Only.refl P w).setCell (p := ⟨T, 5, none⟩) (.inl H1.out.pt) _).setCell (p := ⟨T, 6, none⟩) (.inl H1.out.pt) _⟩
  by_cases e10 : x = 10
  · subst e10
    have HS : Hd (s.control 10 = s.down) := ⟨rfl⟩
    go_enter Tryz.func48, Tryz.ntmps48
    go_wp2_with fail
    go_at_call 46
    with_reducible refine XD.out.mono ?_
    rintro _ w2 ⟨rfl, ht, ho⟩
    have HT := Hd.mk ht
    have HO2 := Hd.mk ho
    clear ht ho XD
    go_wp2
    go_end0
    exact ⟨rfl, by rw [HS.out]; exact HT.out, HO2.out⟩
  by_cases e8 : x = 8
  · subst e8
    obtain ⟨k, hk⟩ : ∃ k, s.col - 1 = k := ⟨_, rfl⟩
    have HS : Hd (s.control 8 = { s with col := k, full := false }) := ⟨by rw [← hk]; rfl⟩
    have HK : Hd (max ((s.col : Int) - 1) 0 = (k : Int)) := ⟨by omega⟩
    clear hk
    go_enter Tryz.func48, Tryz.ntmps48
    go_wp2_with fail
    rw [HK.out]
    go_end0
    exact ⟨rfl, by rw [HS.out]; exact ((H1.out.col_ k).full_ false).at_, ((Only.refl P w).setCell (p := ⟨T, 5, none⟩) (.inl H1.out.pt) _).setCell (p := ⟨T, 6, none⟩) (.inl H1.out.pt) _⟩
  · have HS : Hd (s.control x = s) := ⟨by unfold Tm.control; rw [if_neg e13, if_neg e10, if_neg e8]⟩
    have k13 : ((x : Int) == 13) = false := by simp; omega
    have j13 : decide ((x : Int) = 13) = false := by simp; omega
    have i13 : decide (x = 13) = false := by simp; omega
    have k10 : ((x : Int) == 10) = false := by simp; omega
    have j10 : decide ((x : Int) = 10) = false := by simp; omega
    have i10 : decide (x = 10) = false := by simp; omega
    have k8 : ((x : Int) == 8) = false := by simp; omega
    have j8 : decide ((x : Int) = 8) = false := by simp; omega
    have i8 : decide (x = 8) = false := by simp; omega
    clear e13 e10 e8 t5 t6
    go_enter Tryz.func48, Tryz.ntmps48
    go_wp2_with fail
    go_end0
    exact ⟨rfl, by rw [HS.out]; exact H1.out.at_, Only.refl _ _⟩
theorem RowAt.reads {w : World} {r : RR} {l : List TC} (h : RowAt w r l) : ∀ (j : Nat) (u : Value), (rowV l)[j]? = some u → w.cell? ((⟨r.g, 0, none⟩ : Addr).add j) = some u := by
  intro j u hj
  have hjl := (List.getElem?_eq_some_iff.1 hj).1
  rw [rowV_len] at hjl
  have h1 := h.cell (k := j / 3) (j := j % 3) (by omega) (by omega)
  have h2 := rowV_get l (j / 3) (j % 3) (by omega) (by omega)
  rw [show j / 3 * 3 + j % 3 = j by omega] at h1 h2
  rw [Addr.add_lit_, Nat.zero_add, h1, ← h2, hj]
theorem clone_at {w : World} {r : RR} {l : List TC} (h : RowAt w r l) (h1 : 1 ≤ l.length) (h2 : l.length ≤ 1000) :
    Calls Tryz.prog 26 #[r.v] w fun e w' => ∃ r' : RR, e = .returned r'.v ∧ r'.n = l.length ∧ w.heap.size ≤ r'.g ∧ RowAt w' r' l ∧ Below w.heap.size w w' := by
  have hn := h.1
  have X := clone_row_calls ⟨r.g, 0, none⟩ r.n r.c (rowV l) w (by rw [rowV_len, hn]) h.reads (rowV_one l) (by omega)
  refine X.mono ?_
  rintro _ w' ⟨v', rfl, ho, hb⟩
  obtain ⟨r', rfl, hr, hg, hn'⟩ := RowAt.of_own (l := l) ho hn (by omega)
  exact ⟨r', rfl, by rw [hn', hn], hg, hr, hb⟩
set_option maxRecDepth 100000 in
set_option maxHeartbeats 4000000 in
theorem row_calls {P : Nat → Prop} {w : World} {T M : Nat} {s : Tm} (h : TermAt P w T s) (hok : OKT M s) {k : Nat} (hk : k < s.l.length) :
    Calls Tryz.prog 14 #[.pointer (some ⟨T, 0, none⟩), .int .i64 (k : Int)] w fun e w' => ∃ r : RR, e = .returned r.v ∧ r.n = s.cols ∧ w.heap.size ≤ r.g ∧ RowAt w' r s.l[k] ∧ Below w.heap.size w w' := by
  have hr2 := hok.r2
  have hrw := hok.rowAt hk
  have hc1 := hok.c1
  have hc2 := hok.c2
  obtain ⟨lv, gv, bv, L, G, h1⟩ := h
  obtain ⟨A, cc, ad, r, rfl, rfl, hcell, hrow, hpr, hrt, hcl⟩ := h1.look hk
  have t1 := h1.all.1.2.1
  have XC := Hd.mk (clone_at hrow (by rw [hrw.1]; omega) (by rw [hrw.1]; omega))
  have HL : Hd ((s.l[k]).length = s.cols) := ⟨hrw.1⟩
  clear hcl h1 hpr hrt hrow hrw hok
  generalize s.l[k] = l at *
  have k0 : (0 : Int) ≤ (k : Int) := Int.natCast_nonneg _
  have k1 : (k : Int) < (s.l.length : Int) := by omega
  have k2 : decide ((k : Int) < 0) = false := decide_eq_false (by omega)
  have k3 : decide ((s.l.length : Int) ≤ (k : Int)) = false := decide_eq_false (by omega)
  have k4 : decide (s.l.length ≤ k) = false := decide_eq_false (by omega)
  go_enter Tryz.func14, Tryz.ntmps14
  go_wp2_with fail
  go_at_call 26
  with_reducible refine XC.out.mono ?_
  rintro _ w2 ⟨r', rfl, hn, hg, hr, hb⟩
  have HN := Hd.mk hn
  have HG := Hd.mk hg
  have HR := Hd.mk hr
  have HB := Hd.mk hb
  clear hn hg hr hb XC
  go_wp2
  go_ret
  exact ⟨r', rfl, by rw [HN.out, HL.out], HG.out, HR.out, HB.out⟩
set_option maxRecDepth 100000 in
set_option maxHeartbeats 4000000 in
theorem gone_calls {P : Nat → Prop} {w : World} {T M : Nat} {s : Tm} (h : TermAt P w T s) (hok : OKT M s) (hM : M ≤ 1000000) {k j : Nat} (hj : j < s.gone.length) (hk : k = j + (s.off - s.gone.length)) :
    Calls Tryz.prog 22 #[.pointer (some ⟨T, 0, none⟩), .int .i64 (k : Int)] w fun e w' => ∃ r : RR, e = .returned r.v ∧ r.n = (s.gone[j]).length ∧ w.heap.size ≤ r.g ∧ RowAt w' r s.gone[j] ∧ Below w.heap.size w w' := by
  have hg1 := hok.gone
  have hoff := hok.off
  have hrw := hg1.2.2 _ (List.getElem_mem hj)
  obtain ⟨lv, gv, bv, L, G, h1⟩ := h
  have hlen := forall_len h1.fg
  obtain ⟨A, cc, rfl, hcap⟩ := Kd.Q_slice h1.qg
  obtain ⟨ad, rfl, hcell, hob⟩ := spine_cell h1.qg (i := j) (by omega)
  have hrow := forall_get h1.fg j (by omega) hj
  have t2 := h1.all.1.2.2.1
  have t3 := h1.all.1.2.2.2.1
  rw [hlen] at t2
  have XC := Hd.mk (fun n => clone_at (w := w.drewN n) (hrow.to rfl) hrw.1 (by omega))
  generalize G[j]'(by omega) = r at *
  have HL : Hd (r.n = (s.gone[j]).length) := ⟨hrow.1⟩
  clear h1 hrow hok hob
  generalize s.gone[j] = l at *
  obtain ⟨d, hd⟩ : ∃ d, s.off = d + s.gone.length := ⟨s.off - s.gone.length, by omega⟩
  have hk2 : k = j + d := by omega
  subst hk2
  rw [hd, Int.natCast_add] at t3
  have g1 : s.gone.length ≤ 1000 := hg1.1
  have g2 : d ≤ 1000000 := by omega
  clear hk hg1 hrw hlen hcap hoff
  generalize s.gone.length = n at *
  have k0 : (0 : Int) ≤ (j : Int) := Int.natCast_nonneg _
  have k1 : (j : Int) < (n : Int) := by omega
  have k2 : decide ((j : Int) < 0) = false := decide_eq_false (by omega)
  have k3 : decide ((n : Int) ≤ (j : Int)) = false := decide_eq_false (by omega)
  have k4 : decide (n ≤ j) = false := decide_eq_false (by omega)
  have k5 : (0 : Int) ≤ (d : Int) := Int.natCast_nonneg _
  have k6 : (d : Int) ≤ 1000000 := by omega
  have k7 : (n : Int) ≤ 1000 := by omega
  have e1 : (d : Int) + (n : Int) - (n : Int) = (d : Int) := by omega
  have e2 : (j : Int) + (d : Int) - (d : Int) = (j : Int) := by omega
  have e3 : ((j + d : Nat) : Int) = (j : Int) + (d : Int) := by omega
  rw [e3]
  go_enter Tryz.func22, Tryz.ntmps22
  go_upto_region 1 with fail
  go_quiet (fail)
  go_wp2_with fail
  go_at_call 26
  with_reducible refine (XC.out nq).mono ?_
  rintro _ w2 ⟨r', rfl, hn, hg, hr, hb⟩
  have HN := Hd.mk hn
  have HG := Hd.mk hg
  have HR := Hd.mk hr
  have HB := Hd.mk ((pw_below_drewN (Below.refl _ w) nq).trans hb)
  clear hn hg hr hb XC
  go_wp2
  go_ret
  exact ⟨r', rfl, HN.out, HG.out, HR.out, HB.out⟩
set_option maxRecDepth 100000 in
set_option maxHeartbeats 4000000 in
theorem gone_none {P : Nat → Prop} {w : World} {T M : Nat} {s : Tm} (h : TermAt P w T s) (hok : OKT M s) (hM : M ≤ 1000000) {k : Nat} (hk : s.off ≤ k) (hk2 : k ≤ 1000000) :
    Calls Tryz.prog 22 #[.pointer (some ⟨T, 0, none⟩), .int .i64 (k : Int)] w fun e w' => e = .returned (.slice none 0 0) ∧ Below w.heap.size w w' := by
  have hg1 := hok.gone
  have hoff := hok.off
  obtain ⟨lv, gv, bv, L, G, h1⟩ := h
  have hlen := forall_len h1.fg
  obtain ⟨A, cc, rfl, hcap⟩ := Kd.Q_slice h1.qg
  have t2 := h1.all.1.2.2.1
  have t3 := h1.all.1.2.2.2.1
  rw [hlen] at t2
  clear h1 hok
  obtain ⟨d, hd⟩ : ∃ d, s.off = d + s.gone.length := ⟨s.off - s.gone.length, by omega⟩
  obtain ⟨j, hj⟩ : ∃ j, k = j + d := ⟨k - d, by omega⟩
  have hjn : s.gone.length ≤ j := by omega
  subst hj
  rw [hd, Int.natCast_add] at t3
  have g1 : s.gone.length ≤ 1000 := hg1.1
  have g2 : d ≤ 1000000 := by omega
  clear hk hg1 hlen hcap hoff
  generalize s.gone.length = n at *
  have k0 : (0 : Int) ≤ (j : Int) := Int.natCast_nonneg _
  have k2 : decide ((j : Int) < 0) = false := decide_eq_false (by omega)
  have k3 : decide ((n : Int) ≤ (j : Int)) = true := decide_eq_true (by omega)
  have k4 : decide (n ≤ j) = true := decide_eq_true (by omega)
  have k5 : (0 : Int) ≤ (d : Int) := Int.natCast_nonneg _
  have k6 : (d : Int) ≤ 1000000 := by omega
  have k7 : (n : Int) ≤ 1000 := by omega
  have k8 : (j : Int) ≤ 1000000 := by omega
  have e1 : (d : Int) + (n : Int) - (n : Int) = (d : Int) := by omega
  have e2 : (j : Int) + (d : Int) - (d : Int) = (j : Int) := by omega
  have e3 : ((j + d : Nat) : Int) = (j : Int) + (d : Int) := by omega
  rw [e3]
  go_enter Tryz.func22, Tryz.ntmps22
  go_upto_region 1 with fail
  go_quiet (fail)
  go_wp2_with fail
  go_ret
  exact ⟨rfl, pw_below_drewN (Below.refl _ w) nq⟩
end Go.Proofs.YtgifpkjcggnhgaaGreatDoorL

