/- Parts of the proof of the law that the last file states; declarations that nothing mentions are left out by a program. No conditions. -/
import Derived.Deep.CutBlock
import Derived.Test.YtgifpkjcggnhgaaGreatDoorLTermW10q
set_option linter.unusedVariables false
set_option linter.unusedSimpArgs false
namespace Go.Proofs.YtgifpkjcggnhgaaGreatDoorL
open Go Go.RowKit Go.Proofs.YtgifpkjcggnhgaaGreatDoorW.PrintWords
set_option maxRecDepth 100000 in
set_option maxHeartbeats 4000000 in
theorem sign_ctl {P : Nat → Prop} {w : World} {T M : Nat} {s : Tm} (h : TermAt P w T s) (hok : OKT M s) (hM : M ≤ 900000) (hP : ∀ k, w.heap.size ≤ k → P k) (r : Int) (hc : ctlB r = true) :
    Calls Tryz.prog 36 #[.pointer (some ⟨T, 0, none⟩), .int .i32 r] w fun e w' => e = .returned (.tuple #[]) ∧ TermAt P w' T (s.sign r) ∧ Only P w w' := by
  have XO := Hd.mk (fun w1 => of_calls r w1)
  have XC := Hd.mk (fun w1 => control_calls r w1)
  have HS : Hd (s.sign r = s) := ⟨by unfold Tm.sign; rw [if_pos hc]⟩
  rw [hc] at XC
  have H0 := Hd.mk h
  clear h hok hP
  go_enter Tryz.func36, Tryz.ntmps36
  go_wp2_with fail
  go_at_call 43
  with_reducible refine (XO.out _).mono ?_
  rintro _ w1 ⟨rfl, hb⟩
  have HB := Hd.mk hb
  clear hb XO
  go_wp2_with fail
  go_at_call 44
  with_reducible refine (XC.out _).mono ?_
  rintro _ w2 ⟨rfl, hw2⟩
  subst hw2
  clear XC
  go_wp2_with fail
  exact bodyPost_ret (results_none rfl _ _ _) rfl ⟨rfl, by rw [HS.out]; exact H0.out.below HB.out, Only.of_below HB.out⟩
set_option maxRecDepth 100000 in
set_option maxHeartbeats 4000000 in
theorem sign_zero {P : Nat → Prop} {w : World} {T M : Nat} {s : Tm} (h : TermAt P w T s) (hok : OKT M s) (hM : M ≤ 900000) (hP : ∀ k, w.heap.size ≤ k → P k) (r : Int) (hc : ctlB r = false) (hz : ofR r = 0) :
    Calls Tryz.prog 36 #[.pointer (some ⟨T, 0, none⟩), .int .i32 r] w fun e w' => e = .returned (.tuple #[]) ∧ TermAt P w' T (s.sign r) ∧ Only P w w' := by
  have XO := Hd.mk (fun w1 => of_calls r w1)
  have XC := Hd.mk (fun w1 => control_calls r w1)
  have HS : Hd (s.sign r = s.join (Utf8.encode r)) := ⟨by unfold Tm.sign; rw [if_neg (by rw [hc]; simp), if_pos hz]⟩
  rw [hc] at XC
  rw [hz] at XO
  have XJ := Hd.mk (fun w1 (hb : Below w.heap.size w w1) => join_calls (h.below hb) hok (by omega) (enc_size r).2)
  clear h hok hP
  go_enter Tryz.func36, Tryz.ntmps36
  go_wp2_with fail
  go_at_call 43
  with_reducible refine (XO.out _).mono ?_
  rintro _ w1 ⟨rfl, hb⟩
  have HB := Hd.mk hb
  clear hb XO
  go_wp2_with fail
  go_at_call 44
  with_reducible refine (XC.out _).mono ?_
  rintro _ w2 ⟨rfl, hw2⟩
  subst hw2
  clear XC
  have XJ2 := Hd.mk (XJ.out _ HB.out)
  clear XJ
  go_wp2_with fail
  go_at_call 45
  with_reducible refine XJ2.out.mono ?_
  rintro _ w3 ⟨rfl, ht, ho⟩
  have HT := Hd.mk ht
  have HO := Hd.mk ((Only.of_below (F := P) HB.out).trans ho (fun _ _ h => h))
  clear ht ho XJ2
  go_wp2
  exact bodyPost_ret (results_none rfl _ _ _) rfl ⟨rfl, by rw [HS.out]; exact HT.out, HO.out⟩
theorem half_hw {l : List TC} {k : Nat} {c : TC} (h : RowOK l) (hk : k + 1 < l.length) (hc : c.wide = 2) : ((getC (putR l k c) (k + 1)).wide ≤ 2 ∧ ((getC (putR l k c) (k + 1)).wide = 2 → k + 1 + 1 < (putR l k c).length)) ∧ ((getC (putR l k c) (k + 1)).wide = 0 → 0 < k + 1 ∧ (getC (putR l k c) (k + 1 - 1)).wide = 2) := by
  have e1 := putR_get h (k := k) (by omega) c (k + 1)
  have e2 := putR_get h (k := k) (by omega) c k
  rw [if_pos rfl] at e2
  rw [if_neg (by omega), if_neg (by omega)] at e1
  have hb := blank_wide
  have hw := (h (k + 1) hk).1
  rw [Nat.add_sub_cancel, e2, e1, putR_len]
  refine ⟨?_, fun _ => ⟨by omega, hc⟩⟩
  split
  · omega
  · exact hw
set_option maxRecDepth 100000 in
set_option maxHeartbeats 4000000 in
theorem sign_main {P : Nat → Prop} {w : World} {T M : Nat} {s : Tm} (h : TermAt P w T s) (hok : OKT M s) (hM : M ≤ 900000) (hP : ∀ k, w.heap.size ≤ k → P k) (r : Int) (hc : ctlB r = false) (hz : ofR r ≠ 0) :
    Calls Tryz.prog 36 #[.pointer (some ⟨T, 0, none⟩), .int .i32 r] w fun e w' => e = .returned (.tuple #[]) ∧ TermAt P w' T (s.sign r) ∧ Only P w w' := by
  have XO := Hd.mk (fun w1 => of_calls r w1)
  have XC := Hd.mk (fun w1 => control_calls r w1)
  have h12 : ofR r = 1 ∨ ofR r = 2 := by rcases ofR_cases r with h | h | h; exact absurd h hz; exact .inl h; exact .inr h
  obtain ⟨s1, hs1⟩ : ∃ s1, (if s.full = true then s.fresh else s) = s1 := ⟨_, rfl⟩
  have HK1 : Hd (OKT (M + 1) s1 ∧ s1.full = false ∧ s1.cols = s.cols) := ⟨by
    rw [← hs1]
    by_cases hf : s.full = true
    · rw [if_pos hf]; exact ⟨hok.fresh, hok.down.2.1, hok.down.2.2.1⟩
    · rw [if_neg hf]; exact ⟨hok.mono (Nat.le_succ M), by simpa using hf, rfl⟩⟩
  obtain ⟨r2, w2, hrw⟩ : ∃ (r2 : Int) (w2 : Nat), (if ofR r = 2 ∧ s.cols = 1 then ((65533 : Int), 1) else (r, (ofR r).toNat)) = (r2, w2) := ⟨_, _, rfl⟩
  have hc1 := hok.c1
  have hc2 := hok.c2
  have HS : Hd (s.sign r = s1.print r2 w2) := ⟨by
    unfold Tm.sign
    rw [if_neg (by rw [hc]; simp), if_neg hz, hs1]
    dsimp only
    by_cases h : ofR r = 2 ∧ s.cols = 1
    · rw [if_pos h] at hrw ⊢
      injection hrw with e1 e2
      rw [← e1, ← e2]
    · rw [if_neg h] at hrw ⊢
      injection hrw with e1 e2
      rw [← e1, ← e2]⟩
  have HW : Hd ((w2 = 1 ∨ w2 = 2) ∧ w2 ≤ s.cols) := ⟨by
    by_cases h : ofR r = 2 ∧ s.cols = 1
    · rw [if_pos h] at hrw
      injection hrw with e1 e2
      omega
    · rw [if_neg h] at hrw
      injection hrw with e1 e2
      omega⟩
  have HRW := Hd.mk hrw
  have HS1 := Hd.mk hs1
  have H12 := Hd.mk h12
  have XD := Hd.mk (fun w1 (hb : Below w.heap.size w w1) => down_calls (h.below hb) hok (by omega) (fun k hk => hP k (Nat.le_trans hb.size hk)))
  have H0 := Hd.mk h
  have HP := Hd.mk hP
  have HCT := Hd.mk hc
  have HZ := Hd.mk hz
  rw [hc] at XC
  clear h hok hP hrw hs1 h12 hc hz
  rw [HS.out]
  generalize ofR r = o at *
  go_enter Tryz.func36, Tryz.ntmps36
  go_wp2_with fail
  go_at_call 43
  with_reducible refine (XO.out _).mono ?_
  rintro _ w1 ⟨rfl, hb⟩
  have HB := Hd.mk hb
  clear hb XO
  go_upto_block 0 with fail
  go_cut [] (fun wx => Hd (TermAt P wx T s1) ∧ Hd (Only P w wx))
  case first =>
    have hz : ¬ o = 0 := HZ.out
    have hz2 : (o == 0) = false := by simpa using hz
    have hz3 : decide (o = 0) = false := decide_eq_false hz
    obtain ⟨lv, gv, bv, L, G, h1⟩ := H0.out.below HB.out
    have t6 := h1.all.1.2.2.2.2.2.2.1
    have tf := h1.all.2
    clear h1
    cases hf : s.full with
    | false =>
      rw [hf] at t6
      have HT1 : Hd (TermAt P w1 T s1) := ⟨by have h := HS1.out; rw [hf, if_neg (by simp)] at h; rw [← h]; exact H0.out.below HB.out⟩
      go_wp2_with fail
      go_at_call 44
      with_reducible refine (XC.out _).mono ?_
      rintro _ w2' ⟨rfl, hw2⟩
      subst hw2
      go_wp2_with fail
      go_meet
      case rel => exact ⟨HT1, ⟨Only.of_below HB.out⟩⟩
    | true =>
      rw [hf] at t6
      have HT1 : Hd (∀ w4, TermAt P w4 T s.down → TermAt P (w4.setCell ⟨T, 5, none⟩ (.int .i64 0)) T s1 ∧ P T) := ⟨fun w4 h4 => by
        have h := HS1.out
        rw [hf, if_pos rfl] at h
        rw [← h]
        obtain ⟨lv, gv, bv, L, G, h5⟩ := h4
        exact ⟨(h5.col_ 0).at_, h5.pt⟩⟩
      have XD2 := Hd.mk (XD.out _ HB.out)
      clear XD
      go_wp2_with fail
      go_at_call 44
      with_reducible refine (XC.out _).mono ?_
      rintro _ w2' ⟨rfl, hw2⟩
      subst hw2
      go_wp2_with fail
      go_at_call 46
      with_reducible refine XD2.out.mono ?_
      rintro _ w3 ⟨rfl, ht, ho⟩
      obtain ⟨lv, gv, bv, L, G, h5⟩ := ht
      have d5 := h5.all.1.2.2.2.2.2.1
      have df := h5.all.2
      have HT3 := Hd.mk (HT1.out _ h5.at_)
      have HO3 := Hd.mk ((Only.of_below (F := P) HB.out).trans ho (fun _ _ h => h))
      clear h5 ho XD2 HT1 t6 tf
      go_wp2_with fail
      go_meet
      case rel => exact ⟨⟨HT3.out.1⟩, ⟨HO3.out.setCell (p := ⟨T, 5, none⟩) (.inl HT3.out.2) _⟩⟩
  case rest =>
  obtain ⟨HT, HO⟩ := hcut
  clear XC XD H0 HB HS1
  have hrw := HRW.out
  rcases H12.out with ho | ho
  · rw [if_neg (by omega), ho] at hrw
    injection hrw with e1 e2
    subst e1
    have e2' : w2 = 1 := by rw [← e2]; rfl
    subst e2'
    subst ho
    clear HRW H12 HZ HCT e2
    obtain ⟨lv, gv, bv, L, G, h1⟩ := HT.out
    obtain ⟨⟨t0, t1, t2, t3, t4, t5, t6, t7, t8, t9, t10⟩, tf⟩ := h1.all
    clear h1 t1 t2 t3 t4 t6 t8 t9 t10
    rw [HK1.out.2.2] at t0
    have k0 : (0 : Int) ≤ (s1.col : Int) := Int.natCast_nonneg _
    have k1 : (s1.col : Int) ≤ 120 := by have h1 := HK1.out.1.col; have h2 := HK1.out.2.2; omega
    go_upto_region 9 with fail
    try clear hcc
    try clear hc
    go_quiet (fail)
    go_upto_if 46 with fail
    go_cut [] (fun wx => Hd (TermAt P wx T (s1.roomy 1)) ∧ Hd (Only P w wx))
    case first =>
      by_cases hov : s.cols < s1.col + 1
      · have q1 : decide ((s.cols : Int) < (s1.col : Int) + 1) = true := decide_eq_true (by omega)
        have q2 : decide (s.cols < s1.col + 1) = true := decide_eq_true hov
        have q3 : (s.cols : Int) < (s1.col : Int) + 1 := by omega
        have HRY : Hd (s1.roomy 1 = (s1.put s1.row s1.col blankC).fresh) := ⟨by unfold Tm.roomy; rw [if_pos (by rw [HK1.out.2.2]; exact hov)]⟩
        have HKp := Hd.mk (HK1.out.1.put (r := s1.row) HK1.out.1.col blank_one (by have := HK1.out.1.m; rw [blank_size]; omega))
        have HTq := Hd.mk (HT.out.move (w' := wc.drewN nq) (fun _ _ _ => rfl))
        have HOq := Hd.mk (HO.out.drewN nq)
        go_upto_region 10 with fail
        clear t0 t5 tf
        rename_i KQ hKQ
        refine regionH (fun w' : World => w'.cell? ⟨T, 4, none⟩ = some (.int .i64 (s1.row : Int)) ∧ w'.cell? ⟨T, 5, none⟩ = some (.int .i64 (s1.col : Int))) (by kernel_rfl) (fun wd hb => ?_)
        have HTd := Hd.mk (HTq.out.below hb)
        have HOd := Hd.mk (HOq.out.below hb)
        clear hb HTq HOq
        obtain ⟨lv9, gv9, bv9, L9, G9, h9⟩ := HTd.out
        have hHd : (fun w' : World => w'.cell? ⟨T, 4, none⟩ = some (.int .i64 (s1.row : Int)) ∧ w'.cell? ⟨T, 5, none⟩ = some (.int .i64 (s1.col : Int))) wd := ⟨h9.all.1.2.2.2.2.1, h9.all.1.2.2.2.2.2.1⟩
        clear h9
        refine takeH (i := 0) (v := ?v1) rfl (by kernel_rfl) (by kernel_rfl) (by kernel_rfl) (fun _ _ _ h => h) (Or.inl ⟨by rfl, ?hy1⟩) (by assumption) ?rest1
        case hy1 => (intro w hSw; (try dsimp only at hSw); go_simp; try (with_reducible rfl))
        case rest1 =>
        try simp only [Act.put, List.setIfInBounds_toArray, List.set_cons_zero, List.set_cons_succ]
        refine takeH (i := 1) (v := ?v2) rfl (by kernel_rfl) (by kernel_rfl) (by kernel_rfl) (fun _ _ _ h => h) (Or.inl ⟨by rfl, ?hy2⟩) (by assumption) ?rest2
        case hy2 => (intro w hSw; (try dsimp only at hSw); go_simp; try (with_reducible rfl))
        case rest2 =>
        try simp only [Act.put, List.setIfInBounds_toArray, List.set_cons_zero, List.set_cons_succ]
        refine takeH (i := 2) (v := ?v3) rfl (by kernel_rfl) (by kernel_rfl) (by kernel_rfl) (fun _ _ _ h => h) (Or.inl ⟨by rfl, ?hy3⟩) (by assumption) ?rest3
        case hy3 => (intro w hSw; (try dsimp only at hSw); go_simp; try (with_reducible rfl))
        case rest3 =>
        try simp only [Act.put, List.setIfInBounds_toArray, List.set_cons_zero, List.set_cons_succ]
        refine takeH (i := 3) (v := ?v4) rfl (by kernel_rfl) (by kernel_rfl) (by kernel_rfl) (fun _ _ _ h => h) (Or.inl ⟨by rfl, ?hy4⟩) (by assumption) ?rest4
        case hy4 => (intro w hSw; (try dsimp only at hSw); go_simp; try (with_reducible rfl))
        case rest4 =>
        try simp only [Act.put, List.setIfInBounds_toArray, List.set_cons_zero, List.set_cons_succ]
        refine takeH (i := 4) (v := ?v5) rfl (by kernel_rfl) (by kernel_rfl) (by kernel_rfl) (fun _ _ _ h => h) (Or.inl ⟨by rfl, ?hy5⟩) (by assumption) ?rest5
        case hy5 => (intro w hSw; (try dsimp only at hSw); go_simp; try (with_reducible rfl))
        case rest5 =>
        try simp only [Act.put, List.setIfInBounds_toArray, List.set_cons_zero, List.set_cons_succ]
        refine takeH (i := 5) (v := ?v6) rfl (by kernel_rfl) (by kernel_rfl) (by kernel_rfl) (fun _ _ _ h => h) (Or.inl ⟨by rfl, ?hy6⟩) (by assumption) ?rest6
        case hy6 => (intro w hSw; (try dsimp only at hSw); go_simp; try (with_reducible rfl))
        case rest6 =>
        try simp only [Act.put, List.setIfInBounds_toArray, List.set_cons_zero, List.set_cons_succ]
        refine takeH (i := 6) (v := ?v7) rfl (by kernel_rfl) (by kernel_rfl) (by kernel_rfl) (fun _ _ _ h => h) (Or.inl ⟨by rfl, ?hy7⟩) (by assumption) ?rest7
        case hy7 => (intro w hSw; (try dsimp only at hSw); go_simp; try (with_reducible rfl))
        case rest7 =>
        try simp only [Act.put, List.setIfInBounds_toArray, List.set_cons_zero, List.set_cons_succ]
        refine takeH (i := 7) (v := ?v8) rfl (by kernel_rfl) (by kernel_rfl) (by kernel_rfl) (fun _ _ _ h => h) (Or.inl ⟨by rfl, ?hy8⟩) (by assumption) ?rest8
        case hy8 => (intro w hSw; (try dsimp only at hSw); go_simp; try (with_reducible rfl))
        case rest8 =>
        try simp only [Act.put, List.setIfInBounds_toArray, List.set_cons_zero, List.set_cons_succ]
        refine takeH (i := 8) (v := ?v9) rfl (by kernel_rfl) (by kernel_rfl) (by kernel_rfl) (fun _ _ _ h => h) (Or.inl ⟨by rfl, ?hy9⟩) (by assumption) ?rest9
        case hy9 => (intro w hSw; (try dsimp only at hSw); go_simp; try (with_reducible rfl))
        case rest9 =>
        try simp only [Act.put, List.setIfInBounds_toArray, List.set_cons_zero, List.set_cons_succ]
        refine wpAnyH_ready (rs := [9]) (by kernel_rfl) (by simp) ?_
        refine consH rfl (fun K hK => ?_) AllReadyH.nil
        go_simp
        go_at_call 25
        with_reducible refine (blankc_calls _).mono ?_
        rintro _ wb ⟨rfl, hb⟩
        have HTb := Hd.mk (HTd.out.below hb)
        have HOb := Hd.mk (HOd.out.below hb)
        clear hb HTd HOd hHd
        obtain ⟨lv9, gv9, bv9, L9, G9, h9⟩ := HTb.out
        have hHd : (fun w' : World => w'.cell? ⟨T, 4, none⟩ = some (.int .i64 (s1.row : Int)) ∧ w'.cell? ⟨T, 5, none⟩ = some (.int .i64 (s1.col : Int))) wb := ⟨h9.all.1.2.2.2.2.1, h9.all.1.2.2.2.2.2.1⟩
        clear h9
        go_simp
        refine hK.out _ _ hHd ?_
        clear hK K
        try simp only [Act.put, List.setIfInBounds_toArray, List.set_cons_zero, List.set_cons_succ]
        have hrw := HK1.out.1.rowAt HK1.out.1.row
        have XP := Hd.mk (put_calls HTb.out (fun k hk => HP.out k (Nat.le_trans HOb.out.size hk)) HK1.out.1.row (k := s1.col) (by rw [hrw.1]; exact HK1.out.1.col) hrw.2.1 HK1.out.1.r2 (by rw [hrw.1]; exact HK1.out.1.c2) blankC)
        clear hrw
        refine wpAnyH_ready (rs := [10]) (by kernel_rfl) (by simp) ?_
        refine consH rfl (fun K hK => ?_) AllReadyH.nil
        go_simp
        go_at_call 47
        with_reducible refine XP.out.mono ?_
        rintro _ wp ⟨rfl, ht, ho⟩
        have HT3 := Hd.mk ht
        have HO3 := Hd.mk (HOb.out.trans ho (fun _ _ h => h))
        clear ht ho hHd XP
        obtain ⟨lv9, gv9, bv9, L9, G9, h9⟩ := HT3.out
        have hHd : (fun w' : World => w'.cell? ⟨T, 4, none⟩ = some (.int .i64 (s1.row : Int)) ∧ w'.cell? ⟨T, 5, none⟩ = some (.int .i64 (s1.col : Int))) wp := ⟨h9.all.1.2.2.2.2.1, h9.all.1.2.2.2.2.2.1⟩
        clear h9
        go_simp
        refine hK.out _ _ hHd ?_
        clear hK K
        try simp only [Act.put, List.setIfInBounds_toArray, List.set_cons_zero, List.set_cons_succ]
        refine wpAnyH_done (by kernel_rfl) ?_ _
        refine hKQ _ _ ?_
        clear hHd
        have XD := Hd.mk (down_calls HT3.out HKp.out (by omega) (fun k hk => HP.out k (Nat.le_trans HO3.out.size hk)))
        go_wp2_with fail
        go_at_call 46
        with_reducible refine XD.out.mono ?_
        rintro _ w5 ⟨rfl, ht, ho⟩
        obtain ⟨lv, gv, bv, L, G, h5⟩ := ht
        have d5 := h5.all.1.2.2.2.2.2.1
        have df := h5.all.2
        have HT5 := Hd.mk ((h5.col_ 0).at_)
        have HO5 := Hd.mk ((HO3.out.trans ho (fun _ _ h => h)).setCell (p := ⟨T, 5, none⟩) (.inl h5.pt) (.int .i64 0))
        clear h5 ho XD
        go_wp2_with fail
        go_meet
        case rel => exact ⟨⟨by rw [HRY.out]; exact HT5.out⟩, HO5⟩
      · have q1 : decide ((s.cols : Int) < (s1.col : Int) + 1) = false := decide_eq_false (by omega)
        have q2 : decide (s.cols < s1.col + 1) = false := decide_eq_false hov
        have q3 : ¬ (s.cols : Int) < (s1.col : Int) + 1 := by omega
        have HRY : Hd (s1.roomy 1 = s1) := ⟨by unfold Tm.roomy; rw [if_neg (by rw [HK1.out.2.2]; exact hov)]⟩
        have HTq := Hd.mk (HT.out.move (w' := wc.drewN nq) (fun _ _ _ => rfl))
        have HOq := Hd.mk (HO.out.drewN nq)
        go_wp2_with fail
        go_meet
        case rel => exact ⟨⟨by rw [HRY.out]; exact HTq.out⟩, HOq⟩
    case rest =>
    obtain ⟨HT2, HO2⟩ := hcut
    clear HT HO t0 t5 tf k0 k1
    have HK2 := Hd.mk (OKT.roomy HK1.out.1 HK1.out.2.1 1 (by rw [HK1.out.2.2]; exact HW.out.2))
    have HPR : Hd (s1.print r 1 = (((s1.roomy 1).show_ r 1).half 1).go_on 1) := ⟨rfl⟩
    have HCE : Hd ((s1.roomy 1).cols = s.cols) := ⟨HK2.out.2.2.2.1.trans HK1.out.2.2⟩
    skip
    generalize s1.roomy 1 = s2 at *
    have k0 : (0 : Int) ≤ (s2.col : Int) := Int.natCast_nonneg _
    have k1 : (s2.col : Int) ≤ 120 := by have h1 := HK2.out.1.col; have h2 := HCE.out; omega
    go_upto_region 13 with fail
    rename_i KQ hKQ
    refine regionH (fun w' : World => w'.cell? ⟨T, 4, none⟩ = some (.int .i64 (s2.row : Int)) ∧ w'.cell? ⟨T, 5, none⟩ = some (.int .i64 (s2.col : Int)) ∧ w'.cell? ⟨T, 7, none⟩ = some (.bool s2.dim)) (by kernel_rfl) (fun wd hb => ?_)
    have HTb := Hd.mk (HT2.out.below hb)
    have HOb := Hd.mk (HO2.out.below hb)
    clear hb HT2 HO2
    obtain ⟨lv9, gv9, bv9, L9, G9, h9⟩ := HTb.out
    have hHd : (fun w' : World => w'.cell? ⟨T, 4, none⟩ = some (.int .i64 (s2.row : Int)) ∧ w'.cell? ⟨T, 5, none⟩ = some (.int .i64 (s2.col : Int)) ∧ w'.cell? ⟨T, 7, none⟩ = some (.bool s2.dim)) wd := ⟨h9.all.1.2.2.2.2.1, h9.all.1.2.2.2.2.2.1, h9.all.1.2.2.2.2.2.2.2.1⟩
    clear h9
    have hrw := HK2.out.1.rowAt HK2.out.1.row
    have XP := Hd.mk (put_calls HTb.out (fun k hk => HP.out k (Nat.le_trans HOb.out.size hk)) HK2.out.1.row (k := s2.col) (by rw [hrw.1]; exact HK2.out.1.col) hrw.2.1 HK2.out.1.r2 (by rw [hrw.1]; exact HK2.out.1.c2) ⟨Utf8.encode r, 1, s2.dim⟩)
    rw [show (cV ⟨Utf8.encode r, 1, s2.dim⟩).toArray = #[.string (Utf8.encode r), .int .i64 1, .bool s2.dim] from rfl] at XP
    clear hrw
    refine takeH (i := 0) (v := ?v10) rfl (by kernel_rfl) (by kernel_rfl) (by kernel_rfl) (fun _ _ _ h => h) (Or.inl ⟨by rfl, ?hy10⟩) (by assumption) ?rest10
    case hy10 => (intro w hSw; (try dsimp only at hSw); go_simp; try (with_reducible rfl))
    case rest10 =>
    try simp only [Act.put, List.setIfInBounds_toArray, List.set_cons_zero, List.set_cons_succ]
    refine takeH (i := 1) (v := ?v11) rfl (by kernel_rfl) (by kernel_rfl) (by kernel_rfl) (fun _ _ _ h => h) (Or.inl ⟨by rfl, ?hy11⟩) (by assumption) ?rest11
    case hy11 => (intro w hSw; (try dsimp only at hSw); go_simp; try (with_reducible rfl))
    case rest11 =>
    try simp only [Act.put, List.setIfInBounds_toArray, List.set_cons_zero, List.set_cons_succ]
    refine takeH (i := 2) (v := ?v12) rfl (by kernel_rfl) (by kernel_rfl) (by kernel_rfl) (fun _ _ _ h => h) (Or.inl ⟨by rfl, ?hy12⟩) (by assumption) ?rest12
    case hy12 => (intro w hSw; (try dsimp only at hSw); go_simp; try (with_reducible rfl))
    case rest12 =>
    try simp only [Act.put, List.setIfInBounds_toArray, List.set_cons_zero, List.set_cons_succ]
    refine takeH (i := 3) (v := ?v13) rfl (by kernel_rfl) (by kernel_rfl) (by kernel_rfl) (fun _ _ _ h => h) (Or.inl ⟨by rfl, ?hy13⟩) (by assumption) ?rest13
    case hy13 => (intro w hSw; (try dsimp only at hSw); go_simp; try (with_reducible rfl))
    case rest13 =>
    try simp only [Act.put, List.setIfInBounds_toArray, List.set_cons_zero, List.set_cons_succ]
    refine takeH (i := 4) (v := ?v14) rfl (by kernel_rfl) (by kernel_rfl) (by kernel_rfl) (fun _ _ _ h => h) (Or.inl ⟨by rfl, ?hy14⟩) (by assumption) ?rest14
    case hy14 => (intro w hSw; (try dsimp only at hSw); go_simp; try (with_reducible rfl))
    case rest14 =>
    try simp only [Act.put, List.setIfInBounds_toArray, List.set_cons_zero, List.set_cons_succ]
    refine takeH (i := 5) (v := ?v15) rfl (by kernel_rfl) (by kernel_rfl) (by kernel_rfl) (fun _ _ _ h => h) (Or.inl ⟨by rfl, ?hy15⟩) (by assumption) ?rest15
    case hy15 => (intro w hSw; (try dsimp only at hSw); go_simp; try (with_reducible rfl))
    case rest15 =>
    try simp only [Act.put, List.setIfInBounds_toArray, List.set_cons_zero, List.set_cons_succ]
    refine takeH (i := 6) (v := ?v16) rfl (by kernel_rfl) (by kernel_rfl) (by kernel_rfl) (fun _ _ _ h => h) (Or.inl ⟨by rfl, ?hy16⟩) (by assumption) ?rest16
    case hy16 => (intro w hSw; (try dsimp only at hSw); go_simp; try (with_reducible rfl))
    case rest16 =>
    try simp only [Act.put, List.setIfInBounds_toArray, List.set_cons_zero, List.set_cons_succ]
    refine takeH (i := 7) (v := ?v17) rfl (by kernel_rfl) (by kernel_rfl) (by kernel_rfl) (fun _ _ _ h => h) (Or.inl ⟨by rfl, ?hy17⟩) (by assumption) ?rest17
    case hy17 => (intro w hSw; (try dsimp only at hSw); go_simp; try (with_reducible rfl))
    case rest17 =>
    try simp only [Act.put, List.setIfInBounds_toArray, List.set_cons_zero, List.set_cons_succ]
    refine takeH (i := 8) (v := ?v18) rfl (by kernel_rfl) (by kernel_rfl) (by kernel_rfl) (fun _ _ _ h => h) (Or.inl ⟨by rfl, ?hy18⟩) (by assumption) ?rest18
    case hy18 => (intro w hSw; (try dsimp only at hSw); go_simp; try (with_reducible rfl))
    case rest18 =>
    try simp only [Act.put, List.setIfInBounds_toArray, List.set_cons_zero, List.set_cons_succ]
    refine takeH (i := 9) (v := ?v19) rfl (by kernel_rfl) (by kernel_rfl) (by kernel_rfl) (fun _ _ _ h => h) (Or.inl ⟨by rfl, ?hy19⟩) (by assumption) ?rest19
    case hy19 => (intro w hSw; (try dsimp only at hSw); go_simp; try (with_reducible rfl))
    case rest19 =>
    try simp only [Act.put, List.setIfInBounds_toArray, List.set_cons_zero, List.set_cons_succ]
    refine takeH (i := 10) (v := ?v20) rfl (by kernel_rfl) (by kernel_rfl) (by kernel_rfl) (fun _ _ _ h => h) (Or.inl ⟨by rfl, ?hy20⟩) (by assumption) ?rest20
    case hy20 => (intro w hSw; (try dsimp only at hSw); go_simp; try (with_reducible rfl))
    case rest20 =>
    try simp only [Act.put, List.setIfInBounds_toArray, List.set_cons_zero, List.set_cons_succ]
    refine takeH (i := 11) (v := ?v21) rfl (by kernel_rfl) (by kernel_rfl) (by kernel_rfl) (fun _ _ _ h => h) (Or.inl ⟨by rfl, ?hy21⟩) (by assumption) ?rest21
    case hy21 => (intro w hSw; (try dsimp only at hSw); go_simp; try (with_reducible rfl))
    case rest21 =>
    try simp only [Act.put, List.setIfInBounds_toArray, List.set_cons_zero, List.set_cons_succ]
    refine takeH (i := 12) (v := ?v22) rfl (by kernel_rfl) (by kernel_rfl) (by kernel_rfl) (fun _ _ _ h => h) (Or.inl ⟨by rfl, ?hy22⟩) (by assumption) ?rest22
    case hy22 => (intro w hSw; (try dsimp only at hSw); go_simp; try (with_reducible rfl))
    case rest22 =>
    try simp only [Act.put, List.setIfInBounds_toArray, List.set_cons_zero, List.set_cons_succ]
    refine takeH (i := 13) (v := ?v23) rfl (by kernel_rfl) (by kernel_rfl) (by kernel_rfl) (fun _ _ _ h => h) (Or.inl ⟨by rfl, ?hy23⟩) (by assumption) ?rest23
    case hy23 => (intro w hSw; (try dsimp only at hSw); go_simp; try (with_reducible rfl))
    case rest23 =>
    try simp only [Act.put, List.setIfInBounds_toArray, List.set_cons_zero, List.set_cons_succ]
    refine takeH (i := 14) (v := ?v24) rfl (by kernel_rfl) (by kernel_rfl) (by kernel_rfl) (fun _ _ _ h => h) (Or.inl ⟨by rfl, ?hy24⟩) (by assumption) ?rest24
    case hy24 => (intro w hSw; (try dsimp only at hSw); go_simp; try (with_reducible rfl))
    case rest24 =>
    try simp only [Act.put, List.setIfInBounds_toArray, List.set_cons_zero, List.set_cons_succ]
    refine takeH (i := 15) (v := ?v25) rfl (by kernel_rfl) (by kernel_rfl) (by kernel_rfl) (fun _ _ _ h => h) (Or.inl ⟨by rfl, ?hy25⟩) (by assumption) ?rest25
    case hy25 => (intro w hSw; (try dsimp only at hSw); go_simp; try (with_reducible rfl))
    case rest25 =>
    try simp only [Act.put, List.setIfInBounds_toArray, List.set_cons_zero, List.set_cons_succ]
    refine takeH (i := 16) (v := ?v26) rfl (by kernel_rfl) (by kernel_rfl) (by kernel_rfl) (fun _ _ _ h => h) (Or.inl ⟨by rfl, ?hy26⟩) (by assumption) ?rest26
    case hy26 => (intro w hSw; (try dsimp only at hSw); go_simp; try (with_reducible rfl))
    case rest26 =>
    try simp only [Act.put, List.setIfInBounds_toArray, List.set_cons_zero, List.set_cons_succ]
    refine wpAnyH_ready (rs := [17]) (by kernel_rfl) (by simp) ?_
    refine consH rfl (fun K hK => ?_) AllReadyH.nil
    go_simp
    go_at_call 47
    with_reducible refine XP.out.mono ?_
    rintro _ wp ⟨rfl, ht, ho⟩
    have HT3 := Hd.mk ht
    have HO3 := Hd.mk (HOb.out.trans ho (fun _ _ h => h))
    clear ht ho hHd XP
    obtain ⟨lv9, gv9, bv9, L9, G9, h9⟩ := HT3.out
    have hHd : (fun w' : World => w'.cell? ⟨T, 4, none⟩ = some (.int .i64 (s2.row : Int)) ∧ w'.cell? ⟨T, 5, none⟩ = some (.int .i64 (s2.col : Int)) ∧ w'.cell? ⟨T, 7, none⟩ = some (.bool s2.dim)) wp := ⟨h9.all.1.2.2.2.2.1, h9.all.1.2.2.2.2.2.1, h9.all.1.2.2.2.2.2.2.2.1⟩
    clear h9
    go_simp
    refine hK.out _ _ hHd ?_
    clear hK K
    try simp only [Act.put, List.setIfInBounds_toArray, List.set_cons_zero, List.set_cons_succ]
    refine wpAnyH_done (by kernel_rfl) ?_ _
    refine hKQ _ _ ?_
    clear hHd
    have HC3 : Hd ((s2.put s2.row s2.col ⟨Utf8.encode r, 1, s2.dim⟩).cols = s.cols ∧ (s2.put s2.row s2.col ⟨Utf8.encode r, 1, s2.dim⟩).col = s2.col) := ⟨⟨HCE.out, rfl⟩⟩
    have HQ3 : Hd ((((s2.show_ r 1).half 1).go_on 1) = (s2.put s2.row s2.col ⟨Utf8.encode r, 1, s2.dim⟩).go_on 1) := ⟨rfl⟩
    generalize s2.put s2.row s2.col ⟨Utf8.encode r, 1, s2.dim⟩ = s3 at *
    obtain ⟨lv, gv, bv, L, G, h3⟩ := HT3.out
    obtain ⟨⟨t0, t1, t2, t3, t4, t5, t6, t7, t8, t9, t10⟩, tf⟩ := h3.all
    clear t1 t2 t3 t4 t6 t7 t8 t9 t10
    rw [HC3.out.1] at t0
    rw [HC3.out.2] at t5
    have H3 := Hd.mk h3
    clear h3
    go_upto_region 17 with fail
    have H5 := Hd.mk (H3.out.col_ (s2.col + 1))
    rw [show ((s2.col + 1 : Nat) : Int) = (s2.col : Int) + 1 from rfl] at H5
    have HO5 := Hd.mk (HO3.out.setCell (p := ⟨T, 5, none⟩) (.inl H3.out.pt) (.int .i64 ((s2.col : Int) + 1)))
    generalize wp.setCell ⟨T, 5, none⟩ (.int .i64 ((s2.col : Int) + 1)) = w5 at *
    clear t0 t5 tf H3 HT3 HO3
    obtain ⟨⟨t0, t1, t2, t3, t4, t5, t6, t7, t8, t9, t10⟩, tf⟩ := H5.out.all
    clear t1 t2 t3 t4 t7 t8 t9 t10
    dsimp only at t0 t5 t6
    rw [HC3.out.1] at t0
    rw [show ((s2.col + 1 : Nat) : Int) = (s2.col : Int) + 1 from rfl] at t5
    by_cases hge : s.cols ≤ s2.col + 1
    · have q1 : decide ((s.cols : Int) ≤ (s2.col : Int) + 1) = true := decide_eq_true (by omega)
      have q2 : decide (s.cols ≤ s2.col + 1) = true := decide_eq_true hge
      have q3 : (s.cols : Int) ≤ (s2.col : Int) + 1 := by omega
      go_quiet (fail)
      go_wp2
      go_end0
      have he := ((H5.out.move (w' := w5.drewN nq) (fun _ _ _ => rfl)).col_ (s.cols - 1)).full_ true
      rw [show ((s.cols - 1 : Nat) : Int) = (s.cols : Int) - 1 by omega] at he
      have ho := ((HO5.out.drewN nq).setCell (p := ⟨T, 5, none⟩) (.inl H5.out.pt) (.int .i64 ((s.cols : Int) - 1))).setCell (p := ⟨T, 6, none⟩) (.inl H5.out.pt) (.bool true)
      have hz : s3.go_on 1 = { s3 with col := s.cols - 1, full := true } := by unfold Tm.go_on; rw [HC3.out.1, HC3.out.2, if_pos hge]
      exact ⟨rfl, by rw [HPR.out, HQ3.out, hz]; exact he.at_, ho⟩
    · have q1 : decide ((s.cols : Int) ≤ (s2.col : Int) + 1) = false := decide_eq_false (by omega)
      have q2 : decide (s.cols ≤ s2.col + 1) = false := decide_eq_false hge
      have q3 : ¬ (s.cols : Int) ≤ (s2.col : Int) + 1 := by omega
      go_quiet (fail)
      go_wp2
      go_end0
      have he := H5.out.move (w' := w5.drewN nq) (fun _ _ _ => rfl)
      have hz : s3.go_on 1 = { s3 with col := s2.col + 1 } := by unfold Tm.go_on; rw [HC3.out.1, HC3.out.2, if_neg hge]
      exact ⟨rfl, by rw [HPR.out, HQ3.out, hz]; exact he.at_, HO5.out.drewN nq⟩
  · by_cases hc : s.cols = 1
    · rw [if_pos ⟨ho, hc⟩] at hrw
      injection hrw with e1 e2
      subst e1
      subst e2
      subst ho
      have hcc : (s.cols : Int) = 1 := by omega
      clear HRW H12 HZ HCT
      obtain ⟨lv, gv, bv, L, G, h1⟩ := HT.out
      obtain ⟨⟨t0, t1, t2, t3, t4, t5, t6, t7, t8, t9, t10⟩, tf⟩ := h1.all
      clear h1 t1 t2 t3 t4 t6 t8 t9 t10
      rw [HK1.out.2.2] at t0
      have k0 : (0 : Int) ≤ (s1.col : Int) := Int.natCast_nonneg _
      have k1 : (s1.col : Int) ≤ 120 := by have h1 := HK1.out.1.col; have h2 := HK1.out.2.2; omega
      go_upto_region 9 with fail
      try clear hcc
      try clear hc
      go_quiet (fail)
      go_upto_if 46 with fail
      go_cut [] (fun wx => Hd (TermAt P wx T (s1.roomy 1)) ∧ Hd (Only P w wx))
      case first =>
        by_cases hov : s.cols < s1.col + 1
        · have q1 : decide ((s.cols : Int) < (s1.col : Int) + 1) = true := decide_eq_true (by omega)
          have q2 : decide (s.cols < s1.col + 1) = true := decide_eq_true hov
          have q3 : (s.cols : Int) < (s1.col : Int) + 1 := by omega
          have HRY : Hd (s1.roomy 1 = (s1.put s1.row s1.col blankC).fresh) := ⟨by unfold Tm.roomy; rw [if_pos (by rw [HK1.out.2.2]; exact hov)]⟩
          have HKp := Hd.mk (HK1.out.1.put (r := s1.row) HK1.out.1.col blank_one (by have := HK1.out.1.m; rw [blank_size]; omega))
          have HTq := Hd.mk (HT.out.move (w' := wc.drewN nq) (fun _ _ _ => rfl))
          have HOq := Hd.mk (HO.out.drewN nq)
          go_upto_region 10 with fail
          clear t0 t5 tf
          rename_i KQ hKQ
          refine regionH (fun w' : World => w'.cell? ⟨T, 4, none⟩ = some (.int .i64 (s1.row : Int)) ∧ w'.cell? ⟨T, 5, none⟩ = some (.int .i64 (s1.col : Int))) (by kernel_rfl) (fun wd hb => ?_)
          have HTd := Hd.mk (HTq.out.below hb)
          have HOd := Hd.mk (HOq.out.below hb)
          clear hb HTq HOq
          obtain ⟨lv9, gv9, bv9, L9, G9, h9⟩ := HTd.out
          have hHd : (fun w' : World => w'.cell? ⟨T, 4, none⟩ = some (.int .i64 (s1.row : Int)) ∧ w'.cell? ⟨T, 5, none⟩ = some (.int .i64 (s1.col : Int))) wd := ⟨h9.all.1.2.2.2.2.1, h9.all.1.2.2.2.2.2.1⟩
          clear h9
          refine takeH (i := 0) (v := ?v27) rfl (by kernel_rfl) (by kernel_rfl) (by kernel_rfl) (fun _ _ _ h => h) (Or.inl ⟨by rfl, ?hy27⟩) (by assumption) ?rest27
          case hy27 => (intro w hSw; (try dsimp only at hSw); go_simp; try (with_reducible rfl))
          case rest27 =>
          try simp only [Act.put, List.setIfInBounds_toArray, List.set_cons_zero, List.set_cons_succ]
          refine takeH (i := 1) (v := ?v28) rfl (by kernel_rfl) (by kernel_rfl) (by kernel_rfl) (fun _ _ _ h => h) (Or.inl ⟨by rfl, ?hy28⟩) (by assumption) ?rest28
          case hy28 => (intro w hSw; (try dsimp only at hSw); go_simp; try (with_reducible rfl))
          case rest28 =>
          try simp only [Act.put, List.setIfInBounds_toArray, List.set_cons_zero, List.set_cons_succ]
          refine takeH (i := 2) (v := ?v29) rfl (by kernel_rfl) (by kernel_rfl) (by kernel_rfl) (fun _ _ _ h => h) (Or.inl ⟨by rfl, ?hy29⟩) (by assumption) ?rest29
          case hy29 => (intro w hSw; (try dsimp only at hSw); go_simp; try (with_reducible rfl))
          case rest29 =>
          try simp only [Act.put, List.setIfInBounds_toArray, List.set_cons_zero, List.set_cons_succ]
          refine takeH (i := 3) (v := ?v30) rfl (by kernel_rfl) (by kernel_rfl) (by kernel_rfl) (fun _ _ _ h => h) (Or.inl ⟨by rfl, ?hy30⟩) (by assumption) ?rest30
          case hy30 => (intro w hSw; (try dsimp only at hSw); go_simp; try (with_reducible rfl))
          case rest30 =>
          try simp only [Act.put, List.setIfInBounds_toArray, List.set_cons_zero, List.set_cons_succ]
          refine takeH (i := 4) (v := ?v31) rfl (by kernel_rfl) (by kernel_rfl) (by kernel_rfl) (fun _ _ _ h => h) (Or.inl ⟨by rfl, ?hy31⟩) (by assumption) ?rest31
          case hy31 => (intro w hSw; (try dsimp only at hSw); go_simp; try (with_reducible rfl))
          case rest31 =>
          try simp only [Act.put, List.setIfInBounds_toArray, List.set_cons_zero, List.set_cons_succ]
          refine takeH (i := 5) (v := ?v32) rfl (by kernel_rfl) (by kernel_rfl) (by kernel_rfl) (fun _ _ _ h => h) (Or.inl ⟨by rfl, ?hy32⟩) (by assumption) ?rest32
          case hy32 => (intro w hSw; (try dsimp only at hSw); go_simp; try (with_reducible rfl))
          case rest32 =>
          try simp only [Act.put, List.setIfInBounds_toArray, List.set_cons_zero, List.set_cons_succ]
          refine takeH (i := 6) (v := ?v33) rfl (by kernel_rfl) (by kernel_rfl) (by kernel_rfl) (fun _ _ _ h => h) (Or.inl ⟨by rfl, ?hy33⟩) (by assumption) ?rest33
          case hy33 => (intro w hSw; (try dsimp only at hSw); go_simp; try (with_reducible rfl))
          case rest33 =>
          try simp only [Act.put, List.setIfInBounds_toArray, List.set_cons_zero, List.set_cons_succ]
          refine takeH (i := 7) (v := ?v34) rfl (by kernel_rfl) (by kernel_rfl) (by kernel_rfl) (fun _ _ _ h => h) (Or.inl ⟨by rfl, ?hy34⟩) (by assumption) ?rest34
          case hy34 => (intro w hSw; (try dsimp only at hSw); go_simp; try (with_reducible rfl))
          case rest34 =>
          try simp only [Act.put, List.setIfInBounds_toArray, List.set_cons_zero, List.set_cons_succ]
          refine takeH (i := 8) (v := ?v35) rfl (by kernel_rfl) (by kernel_rfl) (by kernel_rfl) (fun _ _ _ h => h) (Or.inl ⟨by rfl, ?hy35⟩) (by assumption) ?rest35
          case hy35 => (intro w hSw; (try dsimp only at hSw); go_simp; try (with_reducible rfl))
          case rest35 =>
          try simp only [Act.put, List.setIfInBounds_toArray, List.set_cons_zero, List.set_cons_succ]
          refine wpAnyH_ready (rs := [9]) (by kernel_rfl) (by simp) ?_
          refine consH rfl (fun K hK => ?_) AllReadyH.nil
          go_simp
          go_at_call 25
          with_reducible refine (blankc_calls _).mono ?_
          rintro _ wb ⟨rfl, hb⟩
          have HTb := Hd.mk (HTd.out.below hb)
          have HOb := Hd.mk (HOd.out.below hb)
          clear hb HTd HOd hHd
          obtain ⟨lv9, gv9, bv9, L9, G9, h9⟩ := HTb.out
          have hHd : (fun w' : World => w'.cell? ⟨T, 4, none⟩ = some (.int .i64 (s1.row : Int)) ∧ w'.cell? ⟨T, 5, none⟩ = some (.int .i64 (s1.col : Int))) wb := ⟨h9.all.1.2.2.2.2.1, h9.all.1.2.2.2.2.2.1⟩
          clear h9
          go_simp
          refine hK.out _ _ hHd ?_
          clear hK K
          try simp only [Act.put, List.setIfInBounds_toArray, List.set_cons_zero, List.set_cons_succ]
          have hrw := HK1.out.1.rowAt HK1.out.1.row
          have XP := Hd.mk (put_calls HTb.out (fun k hk => HP.out k (Nat.le_trans HOb.out.size hk)) HK1.out.1.row (k := s1.col) (by rw [hrw.1]; exact HK1.out.1.col) hrw.2.1 HK1.out.1.r2 (by rw [hrw.1]; exact HK1.out.1.c2) blankC)
          clear hrw
          refine wpAnyH_ready (rs := [10]) (by kernel_rfl) (by simp) ?_
          refine consH rfl (fun K hK => ?_) AllReadyH.nil
          go_simp
          go_at_call 47
          with_reducible refine XP.out.mono ?_
          rintro _ wp ⟨rfl, ht, ho⟩
          have HT3 := Hd.mk ht
          have HO3 := Hd.mk (HOb.out.trans ho (fun _ _ h => h))
          clear ht ho hHd XP
          obtain ⟨lv9, gv9, bv9, L9, G9, h9⟩ := HT3.out
          have hHd : (fun w' : World => w'.cell? ⟨T, 4, none⟩ = some (.int .i64 (s1.row : Int)) ∧ w'.cell? ⟨T, 5, none⟩ = some (.int .i64 (s1.col : Int))) wp := ⟨h9.all.1.2.2.2.2.1, h9.all.1.2.2.2.2.2.1⟩
          clear h9
          go_simp
          refine hK.out _ _ hHd ?_
          clear hK K
          try simp only [Act.put, List.setIfInBounds_toArray, List.set_cons_zero, List.set_cons_succ]
          refine wpAnyH_done (by kernel_rfl) ?_ _
          refine hKQ _ _ ?_
          clear hHd
          have XD := Hd.mk (down_calls HT3.out HKp.out (by omega) (fun k hk => HP.out k (Nat.le_trans HO3.out.size hk)))
          go_wp2_with fail
          go_at_call 46
          with_reducible refine XD.out.mono ?_
          rintro _ w5 ⟨rfl, ht, ho⟩
          obtain ⟨lv, gv, bv, L, G, h5⟩ := ht
          have d5 := h5.all.1.2.2.2.2.2.1
          have df := h5.all.2
          have HT5 := Hd.mk ((h5.col_ 0).at_)
          have HO5 := Hd.mk ((HO3.out.trans ho (fun _ _ h => h)).setCell (p := ⟨T, 5, none⟩) (.inl h5.pt) (.int .i64 0))
          clear h5 ho XD
          go_wp2_with fail
          go_meet
          case rel => exact ⟨⟨by rw [HRY.out]; exact HT5.out⟩, HO5⟩
        · have q1 : decide ((s.cols : Int) < (s1.col : Int) + 1) = false := decide_eq_false (by omega)
          have q2 : decide (s.cols < s1.col + 1) = false := decide_eq_false hov
          have q3 : ¬ (s.cols : Int) < (s1.col : Int) + 1 := by omega
          have HRY : Hd (s1.roomy 1 = s1) := ⟨by unfold Tm.roomy; rw [if_neg (by rw [HK1.out.2.2]; exact hov)]⟩
          have HTq := Hd.mk (HT.out.move (w' := wc.drewN nq) (fun _ _ _ => rfl))
          have HOq := Hd.mk (HO.out.drewN nq)
          go_wp2_with fail
          go_meet
          case rel => exact ⟨⟨by rw [HRY.out]; exact HTq.out⟩, HOq⟩
      case rest =>
      obtain ⟨HT2, HO2⟩ := hcut
      clear HT HO t0 t5 tf k0 k1
      have HK2 := Hd.mk (OKT.roomy HK1.out.1 HK1.out.2.1 1 (by rw [HK1.out.2.2]; exact HW.out.2))
      have HPR : Hd (s1.print 65533 1 = (((s1.roomy 1).show_ 65533 1).half 1).go_on 1) := ⟨rfl⟩
      have HCE : Hd ((s1.roomy 1).cols = s.cols) := ⟨HK2.out.2.2.2.1.trans HK1.out.2.2⟩
      skip
      generalize s1.roomy 1 = s2 at *
      have k0 : (0 : Int) ≤ (s2.col : Int) := Int.natCast_nonneg _
      have k1 : (s2.col : Int) ≤ 120 := by have h1 := HK2.out.1.col; have h2 := HCE.out; omega
      go_upto_region 13 with fail
      rename_i KQ hKQ
      refine regionH (fun w' : World => w'.cell? ⟨T, 4, none⟩ = some (.int .i64 (s2.row : Int)) ∧ w'.cell? ⟨T, 5, none⟩ = some (.int .i64 (s2.col : Int)) ∧ w'.cell? ⟨T, 7, none⟩ = some (.bool s2.dim)) (by kernel_rfl) (fun wd hb => ?_)
      have HTb := Hd.mk (HT2.out.below hb)
      have HOb := Hd.mk (HO2.out.below hb)
      clear hb HT2 HO2
      obtain ⟨lv9, gv9, bv9, L9, G9, h9⟩ := HTb.out
      have hHd : (fun w' : World => w'.cell? ⟨T, 4, none⟩ = some (.int .i64 (s2.row : Int)) ∧ w'.cell? ⟨T, 5, none⟩ = some (.int .i64 (s2.col : Int)) ∧ w'.cell? ⟨T, 7, none⟩ = some (.bool s2.dim)) wd := ⟨h9.all.1.2.2.2.2.1, h9.all.1.2.2.2.2.2.1, h9.all.1.2.2.2.2.2.2.2.1⟩
      clear h9
      have hrw := HK2.out.1.rowAt HK2.out.1.row
      have XP := Hd.mk (put_calls HTb.out (fun k hk => HP.out k (Nat.le_trans HOb.out.size hk)) HK2.out.1.row (k := s2.col) (by rw [hrw.1]; exact HK2.out.1.col) hrw.2.1 HK2.out.1.r2 (by rw [hrw.1]; exact HK2.out.1.c2) ⟨Utf8.encode 65533, 1, s2.dim⟩)
      rw [show (cV ⟨Utf8.encode 65533, 1, s2.dim⟩).toArray = #[.string (Utf8.encode 65533), .int .i64 1, .bool s2.dim] from rfl] at XP
      clear hrw
      refine takeH (i := 0) (v := ?v36) rfl (by kernel_rfl) (by kernel_rfl) (by kernel_rfl) (fun _ _ _ h => h) (Or.inl ⟨by rfl, ?hy36⟩) (by assumption) ?rest36
      case hy36 => (intro w hSw; (try dsimp only at hSw); go_simp; try (with_reducible rfl))
      case rest36 =>
      try simp only [Act.put, List.setIfInBounds_toArray, List.set_cons_zero, List.set_cons_succ]
      refine takeH (i := 1) (v := ?v37) rfl (by kernel_rfl) (by kernel_rfl) (by kernel_rfl) (fun _ _ _ h => h) (Or.inl ⟨by rfl, ?hy37⟩) (by assumption) ?rest37
      case hy37 => (intro w hSw; (try dsimp only at hSw); go_simp; try (with_reducible rfl))
      case rest37 =>
      try simp only [Act.put, List.setIfInBounds_toArray, List.set_cons_zero, List.set_cons_succ]
      refine takeH (i := 2) (v := ?v38) rfl (by kernel_rfl) (by kernel_rfl) (by kernel_rfl) (fun _ _ _ h => h) (Or.inl ⟨by rfl, ?hy38⟩) (by assumption) ?rest38
      case hy38 => (intro w hSw; (try dsimp only at hSw); go_simp; try (with_reducible rfl))
      case rest38 =>
      try simp only [Act.put, List.setIfInBounds_toArray, List.set_cons_zero, List.set_cons_succ]
      refine takeH (i := 3) (v := ?v39) rfl (by kernel_rfl) (by kernel_rfl) (by kernel_rfl) (fun _ _ _ h => h) (Or.inl ⟨by rfl, ?hy39⟩) (by assumption) ?rest39
      case hy39 => (intro w hSw; (try dsimp only at hSw); go_simp; try (with_reducible rfl))
      case rest39 =>
      try simp only [Act.put, List.setIfInBounds_toArray, List.set_cons_zero, List.set_cons_succ]
      refine takeH (i := 4) (v := ?v40) rfl (by kernel_rfl) (by kernel_rfl) (by kernel_rfl) (fun _ _ _ h => h) (Or.inl ⟨by rfl, ?hy40⟩) (by assumption) ?rest40
      case hy40 => (intro w hSw; (try dsimp only at hSw); go_simp; try (with_reducible rfl))
      case rest40 =>
      try simp only [Act.put, List.setIfInBounds_toArray, List.set_cons_zero, List.set_cons_succ]
      refine takeH (i := 5) (v := ?v41) rfl (by kernel_rfl) (by kernel_rfl) (by kernel_rfl) (fun _ _ _ h => h) (Or.inl ⟨by rfl, ?hy41⟩) (by assumption) ?rest41
      case hy41 => (intro w hSw; (try dsimp only at hSw); go_simp; try (with_reducible rfl))
      case rest41 =>
      try simp only [Act.put, List.setIfInBounds_toArray, List.set_cons_zero, List.set_cons_succ]
      refine takeH (i := 6) (v := ?v42) rfl (by kernel_rfl) (by kernel_rfl) (by kernel_rfl) (fun _ _ _ h => h) (Or.inl ⟨by rfl, ?hy42⟩) (by assumption) ?rest42
      case hy42 => (intro w hSw; (try dsimp only at hSw); go_simp; try (with_reducible rfl))
      case rest42 =>
      try simp only [Act.put, List.setIfInBounds_toArray, List.set_cons_zero, List.set_cons_succ]
      refine takeH (i := 7) (v := ?v43) rfl (by kernel_rfl) (by kernel_rfl) (by kernel_rfl) (fun _ _ _ h => h) (Or.inl ⟨by rfl, ?hy43⟩) (by assumption) ?rest43
      case hy43 => (intro w hSw; (try dsimp only at hSw); go_simp; try (with_reducible rfl))
      case rest43 =>
      try simp only [Act.put, List.setIfInBounds_toArray, List.set_cons_zero, List.set_cons_succ]
      refine takeH (i := 8) (v := ?v44) rfl (by kernel_rfl) (by kernel_rfl) (by kernel_rfl) (fun _ _ _ h => h) (Or.inl ⟨by rfl, ?hy44⟩) (by assumption) ?rest44
      case hy44 => (intro w hSw; (try dsimp only at hSw); go_simp; try (with_reducible rfl))
      case rest44 =>
      try simp only [Act.put, List.setIfInBounds_toArray, List.set_cons_zero, List.set_cons_succ]
      refine takeH (i := 9) (v := ?v45) rfl (by kernel_rfl) (by kernel_rfl) (by kernel_rfl) (fun _ _ _ h => h) (Or.inl ⟨by rfl, ?hy45⟩) (by assumption) ?rest45
      case hy45 => (intro w hSw; (try dsimp only at hSw); go_simp; try (with_reducible rfl))
      case rest45 =>
      try simp only [Act.put, List.setIfInBounds_toArray, List.set_cons_zero, List.set_cons_succ]
      refine takeH (i := 10) (v := ?v46) rfl (by kernel_rfl) (by kernel_rfl) (by kernel_rfl) (fun _ _ _ h => h) (Or.inl ⟨by rfl, ?hy46⟩) (by assumption) ?rest46
      case hy46 => (intro w hSw; (try dsimp only at hSw); go_simp; try (with_reducible rfl))
      case rest46 =>
      try simp only [Act.put, List.setIfInBounds_toArray, List.set_cons_zero, List.set_cons_succ]
      refine takeH (i := 11) (v := ?v47) rfl (by kernel_rfl) (by kernel_rfl) (by kernel_rfl) (fun _ _ _ h => h) (Or.inl ⟨by rfl, ?hy47⟩) (by assumption) ?rest47
      case hy47 => (intro w hSw; (try dsimp only at hSw); go_simp; try (with_reducible rfl))
      case rest47 =>
      try simp only [Act.put, List.setIfInBounds_toArray, List.set_cons_zero, List.set_cons_succ]
      refine takeH (i := 12) (v := ?v48) rfl (by kernel_rfl) (by kernel_rfl) (by kernel_rfl) (fun _ _ _ h => h) (Or.inl ⟨by rfl, ?hy48⟩) (by assumption) ?rest48
      case hy48 => (intro w hSw; (try dsimp only at hSw); go_simp; try (with_reducible rfl))
      case rest48 =>
      try simp only [Act.put, List.setIfInBounds_toArray, List.set_cons_zero, List.set_cons_succ]
      refine takeH (i := 13) (v := ?v49) rfl (by kernel_rfl) (by kernel_rfl) (by kernel_rfl) (fun _ _ _ h => h) (Or.inl ⟨by rfl, ?hy49⟩) (by assumption) ?rest49
      case hy49 => (intro w hSw; (try dsimp only at hSw); go_simp; try (with_reducible rfl))
      case rest49 =>
      try simp only [Act.put, List.setIfInBounds_toArray, List.set_cons_zero, List.set_cons_succ]
      refine takeH (i := 14) (v := ?v50) rfl (by kernel_rfl) (by kernel_rfl) (by kernel_rfl) (fun _ _ _ h => h) (Or.inl ⟨by rfl, ?hy50⟩) (by assumption) ?rest50
      case hy50 => (intro w hSw; (try dsimp only at hSw); go_simp; try (with_reducible rfl))
      case rest50 =>
      try simp only [Act.put, List.setIfInBounds_toArray, List.set_cons_zero, List.set_cons_succ]
      refine takeH (i := 15) (v := ?v51) rfl (by kernel_rfl) (by kernel_rfl) (by kernel_rfl) (fun _ _ _ h => h) (Or.inl ⟨by rfl, ?hy51⟩) (by assumption) ?rest51
      case hy51 => (intro w hSw; (try dsimp only at hSw); go_simp; try (with_reducible rfl))
      case rest51 =>
      try simp only [Act.put, List.setIfInBounds_toArray, List.set_cons_zero, List.set_cons_succ]
      refine takeH (i := 16) (v := ?v52) rfl (by kernel_rfl) (by kernel_rfl) (by kernel_rfl) (fun _ _ _ h => h) (Or.inl ⟨by rfl, ?hy52⟩) (by assumption) ?rest52
      case hy52 => (intro w hSw; (try dsimp only at hSw); go_simp; try (with_reducible rfl))
      case rest52 =>
      try simp only [Act.put, List.setIfInBounds_toArray, List.set_cons_zero, List.set_cons_succ]
      refine wpAnyH_ready (rs := [17]) (by kernel_rfl) (by simp) ?_
      refine consH rfl (fun K hK => ?_) AllReadyH.nil
      go_simp
      go_at_call 47
      with_reducible refine XP.out.mono ?_
      rintro _ wp ⟨rfl, ht, ho⟩
      have HT3 := Hd.mk ht
      have HO3 := Hd.mk (HOb.out.trans ho (fun _ _ h => h))
      clear ht ho hHd XP
      obtain ⟨lv9, gv9, bv9, L9, G9, h9⟩ := HT3.out
      have hHd : (fun w' : World => w'.cell? ⟨T, 4, none⟩ = some (.int .i64 (s2.row : Int)) ∧ w'.cell? ⟨T, 5, none⟩ = some (.int .i64 (s2.col : Int)) ∧ w'.cell? ⟨T, 7, none⟩ = some (.bool s2.dim)) wp := ⟨h9.all.1.2.2.2.2.1, h9.all.1.2.2.2.2.2.1, h9.all.1.2.2.2.2.2.2.2.1⟩
      clear h9
      go_simp
      refine hK.out _ _ hHd ?_
      clear hK K
      try simp only [Act.put, List.setIfInBounds_toArray, List.set_cons_zero, List.set_cons_succ]
      refine wpAnyH_done (by kernel_rfl) ?_ _
      refine hKQ _ _ ?_
      clear hHd
      have HC3 : Hd ((s2.put s2.row s2.col ⟨Utf8.encode 65533, 1, s2.dim⟩).cols = s.cols ∧ (s2.put s2.row s2.col ⟨Utf8.encode 65533, 1, s2.dim⟩).col = s2.col) := ⟨⟨HCE.out, rfl⟩⟩
      have HQ3 : Hd ((((s2.show_ 65533 1).half 1).go_on 1) = (s2.put s2.row s2.col ⟨Utf8.encode 65533, 1, s2.dim⟩).go_on 1) := ⟨rfl⟩
      generalize s2.put s2.row s2.col ⟨Utf8.encode 65533, 1, s2.dim⟩ = s3 at *
      obtain ⟨lv, gv, bv, L, G, h3⟩ := HT3.out
      obtain ⟨⟨t0, t1, t2, t3, t4, t5, t6, t7, t8, t9, t10⟩, tf⟩ := h3.all
      clear t1 t2 t3 t4 t6 t7 t8 t9 t10
      rw [HC3.out.1] at t0
      rw [HC3.out.2] at t5
      have H3 := Hd.mk h3
      clear h3
      go_upto_region 17 with fail
      have H5 := Hd.mk (H3.out.col_ (s2.col + 1))
      rw [show ((s2.col + 1 : Nat) : Int) = (s2.col : Int) + 1 from rfl] at H5
      have HO5 := Hd.mk (HO3.out.setCell (p := ⟨T, 5, none⟩) (.inl H3.out.pt) (.int .i64 ((s2.col : Int) + 1)))
      generalize wp.setCell ⟨T, 5, none⟩ (.int .i64 ((s2.col : Int) + 1)) = w5 at *
      clear t0 t5 tf H3 HT3 HO3
      obtain ⟨⟨t0, t1, t2, t3, t4, t5, t6, t7, t8, t9, t10⟩, tf⟩ := H5.out.all
      clear t1 t2 t3 t4 t7 t8 t9 t10
      dsimp only at t0 t5 t6
      rw [HC3.out.1] at t0
      rw [show ((s2.col + 1 : Nat) : Int) = (s2.col : Int) + 1 from rfl] at t5
      by_cases hge : s.cols ≤ s2.col + 1
      · have q1 : decide ((s.cols : Int) ≤ (s2.col : Int) + 1) = true := decide_eq_true (by omega)
        have q2 : decide (s.cols ≤ s2.col + 1) = true := decide_eq_true hge
        have q3 : (s.cols : Int) ≤ (s2.col : Int) + 1 := by omega
        go_quiet (fail)
        go_wp2
        go_end0
        have he := ((H5.out.move (w' := w5.drewN nq) (fun _ _ _ => rfl)).col_ (s.cols - 1)).full_ true
        rw [show ((s.cols - 1 : Nat) : Int) = (s.cols : Int) - 1 by omega] at he
        have ho := ((HO5.out.drewN nq).setCell (p := ⟨T, 5, none⟩) (.inl H5.out.pt) (.int .i64 ((s.cols : Int) - 1))).setCell (p := ⟨T, 6, none⟩) (.inl H5.out.pt) (.bool true)
        have hz : s3.go_on 1 = { s3 with col := s.cols - 1, full := true } := by unfold Tm.go_on; rw [HC3.out.1, HC3.out.2, if_pos hge]
        exact ⟨rfl, by rw [HPR.out, HQ3.out, hz]; exact he.at_, ho⟩
      · have q1 : decide ((s.cols : Int) ≤ (s2.col : Int) + 1) = false := decide_eq_false (by omega)
        have q2 : decide (s.cols ≤ s2.col + 1) = false := decide_eq_false hge
        have q3 : ¬ (s.cols : Int) ≤ (s2.col : Int) + 1 := by omega
        go_quiet (fail)
        go_wp2
        go_end0
        have he := H5.out.move (w' := w5.drewN nq) (fun _ _ _ => rfl)
        have hz : s3.go_on 1 = { s3 with col := s2.col + 1 } := by unfold Tm.go_on; rw [HC3.out.1, HC3.out.2, if_neg hge]
        exact ⟨rfl, by rw [HPR.out, HQ3.out, hz]; exact he.at_, HO5.out.drewN nq⟩
    · rw [if_neg (by omega), ho] at hrw
      injection hrw with e1 e2
      subst e1
      have e2' : w2 = 2 := by rw [← e2]; rfl
      subst e2'
      subst ho
      have hcc : ¬ (s.cols : Int) = 1 := by omega
      have hcc2 : ((s.cols : Int) == 1) = false := by simp; omega
      clear HRW H12 HZ HCT e2
      obtain ⟨lv, gv, bv, L, G, h1⟩ := HT.out
      obtain ⟨⟨t0, t1, t2, t3, t4, t5, t6, t7, t8, t9, t10⟩, tf⟩ := h1.all
      clear h1 t1 t2 t3 t4 t6 t8 t9 t10
      rw [HK1.out.2.2] at t0
      have k0 : (0 : Int) ≤ (s1.col : Int) := Int.natCast_nonneg _
      have k1 : (s1.col : Int) ≤ 120 := by have h1 := HK1.out.1.col; have h2 := HK1.out.2.2; omega
      go_upto_region 9 with fail
      try clear hcc
      try clear hc
      go_quiet (fail)
      go_upto_if 46 with fail
      go_cut [] (fun wx => Hd (TermAt P wx T (s1.roomy 2)) ∧ Hd (Only P w wx))
      case first =>
        by_cases hov : s.cols < s1.col + 2
        · have q1 : decide ((s.cols : Int) < (s1.col : Int) + 2) = true := decide_eq_true (by omega)
          have q2 : decide (s.cols < s1.col + 2) = true := decide_eq_true hov
          have q3 : (s.cols : Int) < (s1.col : Int) + 2 := by omega
          have HRY : Hd (s1.roomy 2 = (s1.put s1.row s1.col blankC).fresh) := ⟨by unfold Tm.roomy; rw [if_pos (by rw [HK1.out.2.2]; exact hov)]⟩
          have HKp := Hd.mk (HK1.out.1.put (r := s1.row) HK1.out.1.col blank_one (by have := HK1.out.1.m; rw [blank_size]; omega))
          have HTq := Hd.mk (HT.out.move (w' := wc.drewN nq) (fun _ _ _ => rfl))
          have HOq := Hd.mk (HO.out.drewN nq)
          go_upto_region 10 with fail
          clear t0 t5 tf
          rename_i KQ hKQ
          refine regionH (fun w' : World => w'.cell? ⟨T, 4, none⟩ = some (.int .i64 (s1.row : Int)) ∧ w'.cell? ⟨T, 5, none⟩ = some (.int .i64 (s1.col : Int))) (by kernel_rfl) (fun wd hb => ?_)
          have HTd := Hd.mk (HTq.out.below hb)
          have HOd := Hd.mk (HOq.out.below hb)
          clear hb HTq HOq
          obtain ⟨lv9, gv9, bv9, L9, G9, h9⟩ := HTd.out
          have hHd : (fun w' : World => w'.cell? ⟨T, 4, none⟩ = some (.int .i64 (s1.row : Int)) ∧ w'.cell? ⟨T, 5, none⟩ = some (.int .i64 (s1.col : Int))) wd := ⟨h9.all.1.2.2.2.2.1, h9.all.1.2.2.2.2.2.1⟩
          clear h9
          refine takeH (i := 0) (v := ?v53) rfl (by kernel_rfl) (by kernel_rfl) (by kernel_rfl) (fun _ _ _ h => h) (Or.inl ⟨by rfl, ?hy53⟩) (by assumption) ?rest53
          case hy53 => (intro w hSw; (try dsimp only at hSw); go_simp; try (with_reducible rfl))
          case rest53 =>
          try simp only [Act.put, List.setIfInBounds_toArray, List.set_cons_zero, List.set_cons_succ]
          refine takeH (i := 1) (v := ?v54) rfl (by kernel_rfl) (by kernel_rfl) (by kernel_rfl) (fun _ _ _ h => h) (Or.inl ⟨by rfl, ?hy54⟩) (by assumption) ?rest54
          case hy54 => (intro w hSw; (try dsimp only at hSw); go_simp; try (with_reducible rfl))
          case rest54 =>
          try simp only [Act.put, List.setIfInBounds_toArray, List.set_cons_zero, List.set_cons_succ]
          refine takeH (i := 2) (v := ?v55) rfl (by kernel_rfl) (by kernel_rfl) (by kernel_rfl) (fun _ _ _ h => h) (Or.inl ⟨by rfl, ?hy55⟩) (by assumption) ?rest55
          case hy55 => (intro w hSw; (try dsimp only at hSw); go_simp; try (with_reducible rfl))
          case rest55 =>
          try simp only [Act.put, List.setIfInBounds_toArray, List.set_cons_zero, List.set_cons_succ]
          refine takeH (i := 3) (v := ?v56) rfl (by kernel_rfl) (by kernel_rfl) (by kernel_rfl) (fun _ _ _ h => h) (Or.inl ⟨by rfl, ?hy56⟩) (by assumption) ?rest56
          case hy56 => (intro w hSw; (try dsimp only at hSw); go_simp; try (with_reducible rfl))
          case rest56 =>
          try simp only [Act.put, List.setIfInBounds_toArray, List.set_cons_zero, List.set_cons_succ]
          refine takeH (i := 4) (v := ?v57) rfl (by kernel_rfl) (by kernel_rfl) (by kernel_rfl) (fun _ _ _ h => h) (Or.inl ⟨by rfl, ?hy57⟩) (by assumption) ?rest57
          case hy57 => (intro w hSw; (try dsimp only at hSw); go_simp; try (with_reducible rfl))
          case rest57 =>
          try simp only [Act.put, List.setIfInBounds_toArray, List.set_cons_zero, List.set_cons_succ]
          refine takeH (i := 5) (v := ?v58) rfl (by kernel_rfl) (by kernel_rfl) (by kernel_rfl) (fun _ _ _ h => h) (Or.inl ⟨by rfl, ?hy58⟩) (by assumption) ?rest58
          case hy58 => (intro w hSw; (try dsimp only at hSw); go_simp; try (with_reducible rfl))
          case rest58 =>
          try simp only [Act.put, List.setIfInBounds_toArray, List.set_cons_zero, List.set_cons_succ]
          refine takeH (i := 6) (v := ?v59) rfl (by kernel_rfl) (by kernel_rfl) (by kernel_rfl) (fun _ _ _ h => h) (Or.inl ⟨by rfl, ?hy59⟩) (by assumption) ?rest59
          case hy59 => (intro w hSw; (try dsimp only at hSw); go_simp; try (with_reducible rfl))
          case rest59 =>
          try simp only [Act.put, List.setIfInBounds_toArray, List.set_cons_zero, List.set_cons_succ]
          refine takeH (i := 7) (v := ?v60) rfl (by kernel_rfl) (by kernel_rfl) (by kernel_rfl) (fun _ _ _ h => h) (Or.inl ⟨by rfl, ?hy60⟩) (by assumption) ?rest60
          case hy60 => (intro w hSw; (try dsimp only at hSw); go_simp; try (with_reducible rfl))
          case rest60 =>
          try simp only [Act.put, List.setIfInBounds_toArray, List.set_cons_zero, List.set_cons_succ]
          refine takeH (i := 8) (v := ?v61) rfl (by kernel_rfl) (by kernel_rfl) (by kernel_rfl) (fun _ _ _ h => h) (Or.inl ⟨by rfl, ?hy61⟩) (by assumption) ?rest61
          case hy61 => (intro w hSw; (try dsimp only at hSw); go_simp; try (with_reducible rfl))
          case rest61 =>
          try simp only [Act.put, List.setIfInBounds_toArray, List.set_cons_zero, List.set_cons_succ]
          refine wpAnyH_ready (rs := [9]) (by kernel_rfl) (by simp) ?_
          refine consH rfl (fun K hK => ?_) AllReadyH.nil
          go_simp
          go_at_call 25
          with_reducible refine (blankc_calls _).mono ?_
          rintro _ wb ⟨rfl, hb⟩
          have HTb := Hd.mk (HTd.out.below hb)
          have HOb := Hd.mk (HOd.out.below hb)
          clear hb HTd HOd hHd
          obtain ⟨lv9, gv9, bv9, L9, G9, h9⟩ := HTb.out
          have hHd : (fun w' : World => w'.cell? ⟨T, 4, none⟩ = some (.int .i64 (s1.row : Int)) ∧ w'.cell? ⟨T, 5, none⟩ = some (.int .i64 (s1.col : Int))) wb := ⟨h9.all.1.2.2.2.2.1, h9.all.1.2.2.2.2.2.1⟩
          clear h9
          go_simp
          refine hK.out _ _ hHd ?_
          clear hK K
          try simp only [Act.put, List.setIfInBounds_toArray, List.set_cons_zero, List.set_cons_succ]
          have hrw := HK1.out.1.rowAt HK1.out.1.row
          have XP := Hd.mk (put_calls HTb.out (fun k hk => HP.out k (Nat.le_trans HOb.out.size hk)) HK1.out.1.row (k := s1.col) (by rw [hrw.1]; exact HK1.out.1.col) hrw.2.1 HK1.out.1.r2 (by rw [hrw.1]; exact HK1.out.1.c2) blankC)
          clear hrw
          refine wpAnyH_ready (rs := [10]) (by kernel_rfl) (by simp) ?_
          refine consH rfl (fun K hK => ?_) AllReadyH.nil
          go_simp
          go_at_call 47
          with_reducible refine XP.out.mono ?_
          rintro _ wp ⟨rfl, ht, ho⟩
          have HT3 := Hd.mk ht
          have HO3 := Hd.mk (HOb.out.trans ho (fun _ _ h => h))
          clear ht ho hHd XP
          obtain ⟨lv9, gv9, bv9, L9, G9, h9⟩ := HT3.out
          have hHd : (fun w' : World => w'.cell? ⟨T, 4, none⟩ = some (.int .i64 (s1.row : Int)) ∧ w'.cell? ⟨T, 5, none⟩ = some (.int .i64 (s1.col : Int))) wp := ⟨h9.all.1.2.2.2.2.1, h9.all.1.2.2.2.2.2.1⟩
          clear h9
          go_simp
          refine hK.out _ _ hHd ?_
          clear hK K
          try simp only [Act.put, List.setIfInBounds_toArray, List.set_cons_zero, List.set_cons_succ]
          refine wpAnyH_done (by kernel_rfl) ?_ _
          refine hKQ _ _ ?_
          clear hHd
          have XD := Hd.mk (down_calls HT3.out HKp.out (by omega) (fun k hk => HP.out k (Nat.le_trans HO3.out.size hk)))
          go_wp2_with fail
          go_at_call 46
          with_reducible refine XD.out.mono ?_
          rintro _ w5 ⟨rfl, ht, ho⟩
          obtain ⟨lv, gv, bv, L, G, h5⟩ := ht
          have d5 := h5.all.1.2.2.2.2.2.1
          have df := h5.all.2
          have HT5 := Hd.mk ((h5.col_ 0).at_)
          have HO5 := Hd.mk ((HO3.out.trans ho (fun _ _ h => h)).setCell (p := ⟨T, 5, none⟩) (.inl h5.pt) (.int .i64 0))
          clear h5 ho XD
          go_wp2_with fail
          go_meet
          case rel => exact ⟨⟨by rw [HRY.out]; exact HT5.out⟩, HO5⟩
        · have q1 : decide ((s.cols : Int) < (s1.col : Int) + 2) = false := decide_eq_false (by omega)
          have q2 : decide (s.cols < s1.col + 2) = false := decide_eq_false hov
          have q3 : ¬ (s.cols : Int) < (s1.col : Int) + 2 := by omega
          have HRY : Hd (s1.roomy 2 = s1) := ⟨by unfold Tm.roomy; rw [if_neg (by rw [HK1.out.2.2]; exact hov)]⟩
          have HTq := Hd.mk (HT.out.move (w' := wc.drewN nq) (fun _ _ _ => rfl))
          have HOq := Hd.mk (HO.out.drewN nq)
          go_wp2_with fail
          go_meet
          case rel => exact ⟨⟨by rw [HRY.out]; exact HTq.out⟩, HOq⟩
      case rest =>
      obtain ⟨HT2, HO2⟩ := hcut
      clear HT HO t0 t5 tf k0 k1
      have HK2 := Hd.mk (OKT.roomy HK1.out.1 HK1.out.2.1 2 (by rw [HK1.out.2.2]; exact HW.out.2))
      have HPR : Hd (s1.print r 2 = (((s1.roomy 2).show_ r 2).half 2).go_on 2) := ⟨rfl⟩
      have HCE : Hd ((s1.roomy 2).cols = s.cols) := ⟨HK2.out.2.2.2.1.trans HK1.out.2.2⟩
      skip
      generalize s1.roomy 2 = s2 at *
      have k0 : (0 : Int) ≤ (s2.col : Int) := Int.natCast_nonneg _
      have k1 : (s2.col : Int) ≤ 120 := by have h1 := HK2.out.1.col; have h2 := HCE.out; omega
      go_upto_region 13 with fail
      rename_i KQ hKQ
      refine regionH (fun w' : World => w'.cell? ⟨T, 4, none⟩ = some (.int .i64 (s2.row : Int)) ∧ w'.cell? ⟨T, 5, none⟩ = some (.int .i64 (s2.col : Int)) ∧ w'.cell? ⟨T, 7, none⟩ = some (.bool s2.dim)) (by kernel_rfl) (fun wd hb => ?_)
      have HTb := Hd.mk (HT2.out.below hb)
      have HOb := Hd.mk (HO2.out.below hb)
      clear hb HT2 HO2
      obtain ⟨lv9, gv9, bv9, L9, G9, h9⟩ := HTb.out
      have hHd : (fun w' : World => w'.cell? ⟨T, 4, none⟩ = some (.int .i64 (s2.row : Int)) ∧ w'.cell? ⟨T, 5, none⟩ = some (.int .i64 (s2.col : Int)) ∧ w'.cell? ⟨T, 7, none⟩ = some (.bool s2.dim)) wd := ⟨h9.all.1.2.2.2.2.1, h9.all.1.2.2.2.2.2.1, h9.all.1.2.2.2.2.2.2.2.1⟩
      clear h9
      have hrw := HK2.out.1.rowAt HK2.out.1.row
      have XP := Hd.mk (put_calls HTb.out (fun k hk => HP.out k (Nat.le_trans HOb.out.size hk)) HK2.out.1.row (k := s2.col) (by rw [hrw.1]; exact HK2.out.1.col) hrw.2.1 HK2.out.1.r2 (by rw [hrw.1]; exact HK2.out.1.c2) ⟨Utf8.encode r, 2, s2.dim⟩)
      rw [show (cV ⟨Utf8.encode r, 2, s2.dim⟩).toArray = #[.string (Utf8.encode r), .int .i64 2, .bool s2.dim] from rfl] at XP
      clear hrw
      refine takeH (i := 0) (v := ?v62) rfl (by kernel_rfl) (by kernel_rfl) (by kernel_rfl) (fun _ _ _ h => h) (Or.inl ⟨by rfl, ?hy62⟩) (by assumption) ?rest62
      case hy62 => (intro w hSw; (try dsimp only at hSw); go_simp; try (with_reducible rfl))
      case rest62 =>
      try simp only [Act.put, List.setIfInBounds_toArray, List.set_cons_zero, List.set_cons_succ]
      refine takeH (i := 1) (v := ?v63) rfl (by kernel_rfl) (by kernel_rfl) (by kernel_rfl) (fun _ _ _ h => h) (Or.inl ⟨by rfl, ?hy63⟩) (by assumption) ?rest63
      case hy63 => (intro w hSw; (try dsimp only at hSw); go_simp; try (with_reducible rfl))
      case rest63 =>
      try simp only [Act.put, List.setIfInBounds_toArray, List.set_cons_zero, List.set_cons_succ]
      refine takeH (i := 2) (v := ?v64) rfl (by kernel_rfl) (by kernel_rfl) (by kernel_rfl) (fun _ _ _ h => h) (Or.inl ⟨by rfl, ?hy64⟩) (by assumption) ?rest64
      case hy64 => (intro w hSw; (try dsimp only at hSw); go_simp; try (with_reducible rfl))
      case rest64 =>
      try simp only [Act.put, List.setIfInBounds_toArray, List.set_cons_zero, List.set_cons_succ]
      refine takeH (i := 3) (v := ?v65) rfl (by kernel_rfl) (by kernel_rfl) (by kernel_rfl) (fun _ _ _ h => h) (Or.inl ⟨by rfl, ?hy65⟩) (by assumption) ?rest65
      case hy65 => (intro w hSw; (try dsimp only at hSw); go_simp; try (with_reducible rfl))
      case rest65 =>
      try simp only [Act.put, List.setIfInBounds_toArray, List.set_cons_zero, List.set_cons_succ]
      refine takeH (i := 4) (v := ?v66) rfl (by kernel_rfl) (by kernel_rfl) (by kernel_rfl) (fun _ _ _ h => h) (Or.inl ⟨by rfl, ?hy66⟩) (by assumption) ?rest66
      case hy66 => (intro w hSw; (try dsimp only at hSw); go_simp; try (with_reducible rfl))
      case rest66 =>
      try simp only [Act.put, List.setIfInBounds_toArray, List.set_cons_zero, List.set_cons_succ]
      refine takeH (i := 5) (v := ?v67) rfl (by kernel_rfl) (by kernel_rfl) (by kernel_rfl) (fun _ _ _ h => h) (Or.inl ⟨by rfl, ?hy67⟩) (by assumption) ?rest67
      case hy67 => (intro w hSw; (try dsimp only at hSw); go_simp; try (with_reducible rfl))
      case rest67 =>
      try simp only [Act.put, List.setIfInBounds_toArray, List.set_cons_zero, List.set_cons_succ]
      refine takeH (i := 6) (v := ?v68) rfl (by kernel_rfl) (by kernel_rfl) (by kernel_rfl) (fun _ _ _ h => h) (Or.inl ⟨by rfl, ?hy68⟩) (by assumption) ?rest68
      case hy68 => (intro w hSw; (try dsimp only at hSw); go_simp; try (with_reducible rfl))
      case rest68 =>
      try simp only [Act.put, List.setIfInBounds_toArray, List.set_cons_zero, List.set_cons_succ]
      refine takeH (i := 7) (v := ?v69) rfl (by kernel_rfl) (by kernel_rfl) (by kernel_rfl) (fun _ _ _ h => h) (Or.inl ⟨by rfl, ?hy69⟩) (by assumption) ?rest69
      case hy69 => (intro w hSw; (try dsimp only at hSw); go_simp; try (with_reducible rfl))
      case rest69 =>
      try simp only [Act.put, List.setIfInBounds_toArray, List.set_cons_zero, List.set_cons_succ]
      refine takeH (i := 8) (v := ?v70) rfl (by kernel_rfl) (by kernel_rfl) (by kernel_rfl) (fun _ _ _ h => h) (Or.inl ⟨by rfl, ?hy70⟩) (by assumption) ?rest70
      case hy70 => (intro w hSw; (try dsimp only at hSw); go_simp; try (with_reducible rfl))
      case rest70 =>
      try simp only [Act.put, List.setIfInBounds_toArray, List.set_cons_zero, List.set_cons_succ]
      refine takeH (i := 9) (v := ?v71) rfl (by kernel_rfl) (by kernel_rfl) (by kernel_rfl) (fun _ _ _ h => h) (Or.inl ⟨by rfl, ?hy71⟩) (by assumption) ?rest71
      case hy71 => (intro w hSw; (try dsimp only at hSw); go_simp; try (with_reducible rfl))
      case rest71 =>
      try simp only [Act.put, List.setIfInBounds_toArray, List.set_cons_zero, List.set_cons_succ]
      refine takeH (i := 10) (v := ?v72) rfl (by kernel_rfl) (by kernel_rfl) (by kernel_rfl) (fun _ _ _ h => h) (Or.inl ⟨by rfl, ?hy72⟩) (by assumption) ?rest72
      case hy72 => (intro w hSw; (try dsimp only at hSw); go_simp; try (with_reducible rfl))
      case rest72 =>
      try simp only [Act.put, List.setIfInBounds_toArray, List.set_cons_zero, List.set_cons_succ]
      refine takeH (i := 11) (v := ?v73) rfl (by kernel_rfl) (by kernel_rfl) (by kernel_rfl) (fun _ _ _ h => h) (Or.inl ⟨by rfl, ?hy73⟩) (by assumption) ?rest73
      case hy73 => (intro w hSw; (try dsimp only at hSw); go_simp; try (with_reducible rfl))
      case rest73 =>
      try simp only [Act.put, List.setIfInBounds_toArray, List.set_cons_zero, List.set_cons_succ]
      refine takeH (i := 12) (v := ?v74) rfl (by kernel_rfl) (by kernel_rfl) (by kernel_rfl) (fun _ _ _ h => h) (Or.inl ⟨by rfl, ?hy74⟩) (by assumption) ?rest74
      case hy74 => (intro w hSw; (try dsimp only at hSw); go_simp; try (with_reducible rfl))
      case rest74 =>
      try simp only [Act.put, List.setIfInBounds_toArray, List.set_cons_zero, List.set_cons_succ]
      refine takeH (i := 13) (v := ?v75) rfl (by kernel_rfl) (by kernel_rfl) (by kernel_rfl) (fun _ _ _ h => h) (Or.inl ⟨by rfl, ?hy75⟩) (by assumption) ?rest75
      case hy75 => (intro w hSw; (try dsimp only at hSw); go_simp; try (with_reducible rfl))
      case rest75 =>
      try simp only [Act.put, List.setIfInBounds_toArray, List.set_cons_zero, List.set_cons_succ]
      refine takeH (i := 14) (v := ?v76) rfl (by kernel_rfl) (by kernel_rfl) (by kernel_rfl) (fun _ _ _ h => h) (Or.inl ⟨by rfl, ?hy76⟩) (by assumption) ?rest76
      case hy76 => (intro w hSw; (try dsimp only at hSw); go_simp; try (with_reducible rfl))
      case rest76 =>
      try simp only [Act.put, List.setIfInBounds_toArray, List.set_cons_zero, List.set_cons_succ]
      refine takeH (i := 15) (v := ?v77) rfl (by kernel_rfl) (by kernel_rfl) (by kernel_rfl) (fun _ _ _ h => h) (Or.inl ⟨by rfl, ?hy77⟩) (by assumption) ?rest77
      case hy77 => (intro w hSw; (try dsimp only at hSw); go_simp; try (with_reducible rfl))
      case rest77 =>
      try simp only [Act.put, List.setIfInBounds_toArray, List.set_cons_zero, List.set_cons_succ]
      refine takeH (i := 16) (v := ?v78) rfl (by kernel_rfl) (by kernel_rfl) (by kernel_rfl) (fun _ _ _ h => h) (Or.inl ⟨by rfl, ?hy78⟩) (by assumption) ?rest78
      case hy78 => (intro w hSw; (try dsimp only at hSw); go_simp; try (with_reducible rfl))
      case rest78 =>
      try simp only [Act.put, List.setIfInBounds_toArray, List.set_cons_zero, List.set_cons_succ]
      refine wpAnyH_ready (rs := [17]) (by kernel_rfl) (by simp) ?_
      refine consH rfl (fun K hK => ?_) AllReadyH.nil
      go_simp
      go_at_call 47
      with_reducible refine XP.out.mono ?_
      rintro _ wp ⟨rfl, ht, ho⟩
      have HT3 := Hd.mk ht
      have HO3 := Hd.mk (HOb.out.trans ho (fun _ _ h => h))
      clear ht ho hHd XP
      obtain ⟨lv9, gv9, bv9, L9, G9, h9⟩ := HT3.out
      have hHd : (fun w' : World => w'.cell? ⟨T, 4, none⟩ = some (.int .i64 (s2.row : Int)) ∧ w'.cell? ⟨T, 5, none⟩ = some (.int .i64 (s2.col : Int)) ∧ w'.cell? ⟨T, 7, none⟩ = some (.bool s2.dim)) wp := ⟨h9.all.1.2.2.2.2.1, h9.all.1.2.2.2.2.2.1, h9.all.1.2.2.2.2.2.2.2.1⟩
      clear h9
      go_simp
      refine hK.out _ _ hHd ?_
      clear hK K
      try simp only [Act.put, List.setIfInBounds_toArray, List.set_cons_zero, List.set_cons_succ]
      refine wpAnyH_done (by kernel_rfl) ?_ _
      refine hKQ _ _ ?_
      clear hHd
      have hi := HK2.out.1.row
      have hrw := HK2.out.1.rowAt hi
      have hk1 : s2.col + 1 < s2.cols := by have := HK2.out.2.2.1; omega
      have hgl : (s2.put s2.row s2.col ⟨Utf8.encode r, 2, s2.dim⟩).l.length = s2.l.length := put_len ..
      have hge3 : (s2.put s2.row s2.col ⟨Utf8.encode r, 2, s2.dim⟩).l[s2.row]'(by rw [hgl]; exact hi) = putR (s2.l[s2.row]) s2.col ⟨Utf8.encode r, 2, s2.dim⟩ := by unfold Tm.put Tm.onRow; dsimp only; rw [List.getElem_modify, if_pos rfl]
      have HQ3 : Hd ((((s2.show_ r 2).half 2).go_on 2) = ((s2.put s2.row s2.col ⟨Utf8.encode r, 2, s2.dim⟩).put s2.row (s2.col + 1) (halfC s2.dim)).go_on 2) := ⟨rfl⟩
      have HC3 : Hd (((s2.put s2.row s2.col ⟨Utf8.encode r, 2, s2.dim⟩).put s2.row (s2.col + 1) (halfC s2.dim)).cols = s.cols ∧ ((s2.put s2.row s2.col ⟨Utf8.encode r, 2, s2.dim⟩).put s2.row (s2.col + 1) (halfC s2.dim)).col = s2.col) := ⟨⟨HCE.out, rfl⟩⟩
      have HF3 : Hd ((s2.put s2.row s2.col ⟨Utf8.encode r, 2, s2.dim⟩).row = s2.row ∧ (s2.put s2.row s2.col ⟨Utf8.encode r, 2, s2.dim⟩).col = s2.col ∧ (s2.put s2.row s2.col ⟨Utf8.encode r, 2, s2.dim⟩).dim = s2.dim) := ⟨⟨rfl, rfl, rfl⟩⟩
      have HF4 : Hd (((s2.put s2.row s2.col ⟨Utf8.encode r, 2, s2.dim⟩).put s2.row (s2.col + 1) (halfC s2.dim)).row = s2.row ∧ ((s2.put s2.row s2.col ⟨Utf8.encode r, 2, s2.dim⟩).put s2.row (s2.col + 1) (halfC s2.dim)).col = s2.col ∧ ((s2.put s2.row s2.col ⟨Utf8.encode r, 2, s2.dim⟩).put s2.row (s2.col + 1) (halfC s2.dim)).dim = s2.dim) := ⟨⟨rfl, rfl, rfl⟩⟩
      have HX4 : Hd ((s2.put s2.row s2.col ⟨Utf8.encode r, 2, s2.dim⟩).put s2.row (s2.col + 1) (halfC s2.dim) = (s2.put s2.row s2.col ⟨Utf8.encode r, 2, s2.dim⟩).put s2.row (s2.col + 1) (halfC s2.dim)) := ⟨rfl⟩
      have XH := Hd.mk (fun w9 (ht9 : TermAt P w9 T (s2.put s2.row s2.col ⟨Utf8.encode r, 2, s2.dim⟩)) (hs9 : w.heap.size ≤ w9.heap.size) => put_at ht9 (fun k hk => HP.out k (Nat.le_trans hs9 hk)) (i := s2.row) (k := s2.col + 1) (by rw [hgl]; exact hi) (by rw [hge3, putR_len, hrw.1]; exact hk1) (by rw [hge3]; exact half_hw hrw.2.1 (by rw [hrw.1]; exact hk1) rfl) (by rw [hgl]; exact HK2.out.1.r2) (by rw [hge3, putR_len, hrw.1]; exact HK2.out.1.c2) (halfC s2.dim))
      rw [show (cV (halfC s2.dim)).toArray = #[.string ⟨#[]⟩, .int .i64 0, .bool s2.dim] from rfl, show ((s2.col + 1 : Nat) : Int) = (s2.col : Int) + 1 from rfl] at XH
      generalize (s2.put s2.row s2.col ⟨Utf8.encode r, 2, s2.dim⟩).put s2.row (s2.col + 1) (halfC s2.dim) = s4 at *
      clear hge3 hgl hrw hi
      generalize s2.put s2.row s2.col ⟨Utf8.encode r, 2, s2.dim⟩ = s3 at *
      have k2 : (s2.col : Int) + 1 ≤ 120 := by have := HCE.out; omega
      go_upto_region 15 with fail
      rename_i KQ hKQ
      refine regionH (fun w' : World => w'.cell? ⟨T, 4, none⟩ = some (.int .i64 (s2.row : Int)) ∧ w'.cell? ⟨T, 5, none⟩ = some (.int .i64 (s2.col : Int)) ∧ w'.cell? ⟨T, 7, none⟩ = some (.bool s2.dim)) (by kernel_rfl) (fun wd hb => ?_)
      have HTb := Hd.mk (HT3.out.below hb)
      have HOb := Hd.mk (HO3.out.below hb)
      clear hb HT3 HO3
      obtain ⟨lv9, gv9, bv9, L9, G9, h9⟩ := HTb.out
      have hHd : (fun w' : World => w'.cell? ⟨T, 4, none⟩ = some (.int .i64 (s2.row : Int)) ∧ w'.cell? ⟨T, 5, none⟩ = some (.int .i64 (s2.col : Int)) ∧ w'.cell? ⟨T, 7, none⟩ = some (.bool s2.dim)) wd := ⟨by rw [← HF3.out.1]; exact h9.all.1.2.2.2.2.1, by rw [← HF3.out.2.1]; exact h9.all.1.2.2.2.2.2.1, by rw [← HF3.out.2.2]; exact h9.all.1.2.2.2.2.2.2.2.1⟩
      clear h9
      have XP := Hd.mk (XH.out wd HTb.out HOb.out.size)
      clear XH
      refine takeH (i := 0) (v := ?v79) rfl (by kernel_rfl) (by kernel_rfl) (by kernel_rfl) (fun _ _ _ h => h) (Or.inl ⟨by rfl, ?hy79⟩) (by assumption) ?rest79
      case hy79 => (intro w hSw; (try dsimp only at hSw); go_simp; try (with_reducible rfl))
      case rest79 =>
      try simp only [Act.put, List.setIfInBounds_toArray, List.set_cons_zero, List.set_cons_succ]
      refine takeH (i := 1) (v := ?v80) rfl (by kernel_rfl) (by kernel_rfl) (by kernel_rfl) (fun _ _ _ h => h) (Or.inl ⟨by rfl, ?hy80⟩) (by assumption) ?rest80
      case hy80 => (intro w hSw; (try dsimp only at hSw); go_simp; try (with_reducible rfl))
      case rest80 =>
      try simp only [Act.put, List.setIfInBounds_toArray, List.set_cons_zero, List.set_cons_succ]
      refine takeH (i := 2) (v := ?v81) rfl (by kernel_rfl) (by kernel_rfl) (by kernel_rfl) (fun _ _ _ h => h) (Or.inl ⟨by rfl, ?hy81⟩) (by assumption) ?rest81
      case hy81 => (intro w hSw; (try dsimp only at hSw); go_simp; try (with_reducible rfl))
      case rest81 =>
      try simp only [Act.put, List.setIfInBounds_toArray, List.set_cons_zero, List.set_cons_succ]
      refine takeH (i := 3) (v := ?v82) rfl (by kernel_rfl) (by kernel_rfl) (by kernel_rfl) (fun _ _ _ h => h) (Or.inl ⟨by rfl, ?hy82⟩) (by assumption) ?rest82
      case hy82 => (intro w hSw; (try dsimp only at hSw); go_simp; try (with_reducible rfl))
      case rest82 =>
      try simp only [Act.put, List.setIfInBounds_toArray, List.set_cons_zero, List.set_cons_succ]
      refine takeH (i := 4) (v := ?v83) rfl (by kernel_rfl) (by kernel_rfl) (by kernel_rfl) (fun _ _ _ h => h) (Or.inl ⟨by rfl, ?hy83⟩) (by assumption) ?rest83
      case hy83 => (intro w hSw; (try dsimp only at hSw); go_simp; try (with_reducible rfl))
      case rest83 =>
      try simp only [Act.put, List.setIfInBounds_toArray, List.set_cons_zero, List.set_cons_succ]
      refine takeH (i := 5) (v := ?v84) rfl (by kernel_rfl) (by kernel_rfl) (by kernel_rfl) (fun _ _ _ h => h) (Or.inl ⟨by rfl, ?hy84⟩) (by assumption) ?rest84
      case hy84 => (intro w hSw; (try dsimp only at hSw); go_simp; try (with_reducible rfl))
      case rest84 =>
      try simp only [Act.put, List.setIfInBounds_toArray, List.set_cons_zero, List.set_cons_succ]
      refine takeH (i := 6) (v := ?v85) rfl (by kernel_rfl) (by kernel_rfl) (by kernel_rfl) (fun _ _ _ h => h) (Or.inl ⟨by rfl, ?hy85⟩) (by assumption) ?rest85
      case hy85 => (intro w hSw; (try dsimp only at hSw); go_simp; try (with_reducible rfl))
      case rest85 =>
      try simp only [Act.put, List.setIfInBounds_toArray, List.set_cons_zero, List.set_cons_succ]
      refine takeH (i := 7) (v := ?v86) rfl (by kernel_rfl) (by kernel_rfl) (by kernel_rfl) (fun _ _ _ h => h) (Or.inl ⟨by rfl, ?hy86⟩) (by assumption) ?rest86
      case hy86 => (intro w hSw; (try dsimp only at hSw); go_simp; try (with_reducible rfl))
      case rest86 =>
      try simp only [Act.put, List.setIfInBounds_toArray, List.set_cons_zero, List.set_cons_succ]
      refine takeH (i := 8) (v := ?v87) rfl (by kernel_rfl) (by kernel_rfl) (by kernel_rfl) (fun _ _ _ h => h) (Or.inl ⟨by rfl, ?hy87⟩) (by assumption) ?rest87
      case hy87 => (intro w hSw; (try dsimp only at hSw); go_simp; try (with_reducible rfl))
      case rest87 =>
      try simp only [Act.put, List.setIfInBounds_toArray, List.set_cons_zero, List.set_cons_succ]
      refine takeH (i := 9) (v := (.int .i64 ((s2.col : Int) + 1))) rfl (by kernel_rfl) (by kernel_rfl) (by kernel_rfl) (fun _ _ _ h => h) (Or.inl ⟨by rfl, ?hy88⟩) (by assumption) ?rest88
      case hy88 => (intro w hSw; (try dsimp only at hSw); go_simp; first | done | (rw [IntKind.wrap_i64]; omega))
      case rest88 =>
      try simp only [Act.put, List.setIfInBounds_toArray, List.set_cons_zero, List.set_cons_succ]
      refine takeH (i := 10) (v := ?v89) rfl (by kernel_rfl) (by kernel_rfl) (by kernel_rfl) (fun _ _ _ h => h) (Or.inl ⟨by rfl, ?hy89⟩) (by assumption) ?rest89
      case hy89 => (intro w hSw; (try dsimp only at hSw); go_simp; try (with_reducible rfl))
      case rest89 =>
      try simp only [Act.put, List.setIfInBounds_toArray, List.set_cons_zero, List.set_cons_succ]
      refine takeH (i := 11) (v := ?v90) rfl (by kernel_rfl) (by kernel_rfl) (by kernel_rfl) (fun _ _ _ h => h) (Or.inl ⟨by rfl, ?hy90⟩) (by assumption) ?rest90
      case hy90 => (intro w hSw; (try dsimp only at hSw); go_simp; try (with_reducible rfl))
      case rest90 =>
      try simp only [Act.put, List.setIfInBounds_toArray, List.set_cons_zero, List.set_cons_succ]
      refine takeH (i := 12) (v := ?v91) rfl (by kernel_rfl) (by kernel_rfl) (by kernel_rfl) (fun _ _ _ h => h) (Or.inl ⟨by rfl, ?hy91⟩) (by assumption) ?rest91
      case hy91 => (intro w hSw; (try dsimp only at hSw); go_simp; try (with_reducible rfl))
      case rest91 =>
      try simp only [Act.put, List.setIfInBounds_toArray, List.set_cons_zero, List.set_cons_succ]
      refine takeH (i := 13) (v := ?v92) rfl (by kernel_rfl) (by kernel_rfl) (by kernel_rfl) (fun _ _ _ h => h) (Or.inl ⟨by rfl, ?hy92⟩) (by assumption) ?rest92
      case hy92 => (intro w hSw; (try dsimp only at hSw); go_simp; try (with_reducible rfl))
      case rest92 =>
      try simp only [Act.put, List.setIfInBounds_toArray, List.set_cons_zero, List.set_cons_succ]
      refine takeH (i := 14) (v := ?v93) rfl (by kernel_rfl) (by kernel_rfl) (by kernel_rfl) (fun _ _ _ h => h) (Or.inl ⟨by rfl, ?hy93⟩) (by assumption) ?rest93
      case hy93 => (intro w hSw; (try dsimp only at hSw); go_simp; try (with_reducible rfl))
      case rest93 =>
      try simp only [Act.put, List.setIfInBounds_toArray, List.set_cons_zero, List.set_cons_succ]
      refine wpAnyH_ready (rs := [15]) (by kernel_rfl) (by simp) ?_
      refine consH rfl (fun K hK => ?_) AllReadyH.nil
      go_simp
      go_at_call 47
      with_reducible refine XP.out.mono ?_
      rintro _ wp ⟨rfl, ht, ho⟩
      have HT3 := Hd.mk ht
      have HO3 := Hd.mk (HOb.out.trans ho (fun _ _ h => h))
      clear ht ho hHd XP
      obtain ⟨lv9, gv9, bv9, L9, G9, h9⟩ := HT3.out
      have hHd : (fun w' : World => w'.cell? ⟨T, 4, none⟩ = some (.int .i64 (s2.row : Int)) ∧ w'.cell? ⟨T, 5, none⟩ = some (.int .i64 (s2.col : Int)) ∧ w'.cell? ⟨T, 7, none⟩ = some (.bool s2.dim)) wp := ⟨by rw [← HF4.out.1]; exact h9.all.1.2.2.2.2.1, by rw [← HF4.out.2.1]; exact h9.all.1.2.2.2.2.2.1, by rw [← HF4.out.2.2]; exact h9.all.1.2.2.2.2.2.2.2.1⟩
      clear h9
      go_simp
      refine hK.out _ _ hHd ?_
      clear hK K
      try simp only [Act.put, List.setIfInBounds_toArray, List.set_cons_zero, List.set_cons_succ]
      refine wpAnyH_done (by kernel_rfl) ?_ _
      refine hKQ _ _ ?_
      clear hHd
      obtain ⟨lv, gv, bv, L, G, h3⟩ := HT3.out
      obtain ⟨⟨t0, t1, t2, t3, t4, t5, t6, t7, t8, t9, t10⟩, tf⟩ := h3.all
      clear t1 t2 t3 t4 t6 t7 t8 t9 t10
      rw [HC3.out.1] at t0
      rw [HC3.out.2] at t5
      have H3 := Hd.mk h3
      clear h3
      go_upto_region 17 with fail
      have H5 := Hd.mk (H3.out.col_ (s2.col + 2))
      rw [show ((s2.col + 2 : Nat) : Int) = (s2.col : Int) + 2 from rfl] at H5
      have HO5 := Hd.mk (HO3.out.setCell (p := ⟨T, 5, none⟩) (.inl H3.out.pt) (.int .i64 ((s2.col : Int) + 2)))
      generalize wp.setCell ⟨T, 5, none⟩ (.int .i64 ((s2.col : Int) + 2)) = w5 at *
      clear t0 t5 tf H3 HT3 HO3
      obtain ⟨⟨t0, t1, t2, t3, t4, t5, t6, t7, t8, t9, t10⟩, tf⟩ := H5.out.all
      clear t1 t2 t3 t4 t7 t8 t9 t10
      dsimp only at t0 t5 t6
      rw [HC3.out.1] at t0
      rw [show ((s2.col + 2 : Nat) : Int) = (s2.col : Int) + 2 from rfl] at t5
      by_cases hge : s.cols ≤ s2.col + 2
      · have q1 : decide ((s.cols : Int) ≤ (s2.col : Int) + 2) = true := decide_eq_true (by omega)
        have q2 : decide (s.cols ≤ s2.col + 2) = true := decide_eq_true hge
        have q3 : (s.cols : Int) ≤ (s2.col : Int) + 2 := by omega
        go_quiet (fail)
        go_wp2
        go_end0
        have he := ((H5.out.move (w' := w5.drewN nq) (fun _ _ _ => rfl)).col_ (s.cols - 1)).full_ true
        rw [show ((s.cols - 1 : Nat) : Int) = (s.cols : Int) - 1 by omega] at he
        have ho := ((HO5.out.drewN nq).setCell (p := ⟨T, 5, none⟩) (.inl H5.out.pt) (.int .i64 ((s.cols : Int) - 1))).setCell (p := ⟨T, 6, none⟩) (.inl H5.out.pt) (.bool true)
        have hz : s4.go_on 2 = { s4 with col := s.cols - 1, full := true } := by unfold Tm.go_on; rw [HC3.out.1, HC3.out.2, if_pos hge]
        exact ⟨rfl, by rw [HPR.out, HQ3.out, hz]; exact he.at_, ho⟩
      · have q1 : decide ((s.cols : Int) ≤ (s2.col : Int) + 2) = false := decide_eq_false (by omega)
        have q2 : decide (s.cols ≤ s2.col + 2) = false := decide_eq_false hge
        have q3 : ¬ (s.cols : Int) ≤ (s2.col : Int) + 2 := by omega
        go_quiet (fail)
        go_wp2
        go_end0
        have he := H5.out.move (w' := w5.drewN nq) (fun _ _ _ => rfl)
        have hz : s4.go_on 2 = { s4 with col := s2.col + 2 } := by unfold Tm.go_on; rw [HC3.out.1, HC3.out.2, if_neg hge]
        exact ⟨rfl, by rw [HPR.out, HQ3.out, hz]; exact he.at_, HO5.out.drewN nq⟩
theorem sign_calls {P : Nat → Prop} {w : World} {T M : Nat} {s : Tm} (h : TermAt P w T s) (hok : OKT M s) (hM : M ≤ 900000) (hP : ∀ k, w.heap.size ≤ k → P k) (r : Int) :
    Calls Tryz.prog 36 #[.pointer (some ⟨T, 0, none⟩), .int .i32 r] w fun e w' => e = .returned (.tuple #[]) ∧ TermAt P w' T (s.sign r) ∧ Only P w w' := by
  cases hc : ctlB r with
  | true => exact sign_ctl h hok hM hP r hc
  | false =>
    by_cases hz : ofR r = 0
    · exact sign_zero h hok hM hP r hc hz
    · exact sign_main h hok hM hP r hc hz
end Go.Proofs.YtgifpkjcggnhgaaGreatDoorL

