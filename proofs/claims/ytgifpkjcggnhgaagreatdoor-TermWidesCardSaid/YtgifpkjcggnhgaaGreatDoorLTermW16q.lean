/- Parts of the proof of the law that the last file states; declarations that nothing mentions are left out by a program. No conditions. -/
import Derived.Test.YtgifpkjcggnhgaaGreatDoorLTermW15q
set_option linter.unusedVariables false
set_option linter.unusedSimpArgs false
namespace Go.Proofs.YtgifpkjcggnhgaaGreatDoorL
open Go Go.RowKit Go.Proofs.YtgifpkjcggnhgaaGreatDoorW.PrintWords
set_option maxRecDepth 100000 in
set_option maxHeartbeats 4000000 in
theorem ends_H {P : Nat → Prop} {w : World} {T M : Nat} {s : Tm} (h : TermAt P w T s) (hok : OKT M s) (hP : ∀ k, w.heap.size ≤ k → P k) (hT : TabsT w) (q : ByteArray) (hq : q.size ≤ 1000) :
    Calls Tryz.prog 40 #[.pointer (some ⟨T, 0, none⟩), .string q, .int .u8 72] w fun e w' => e = .returned (.tuple #[]) ∧ TermAt P w' T (s.ends q.data.toList 72) ∧ Only P w w' := by
  have XN := Hd.mk (number_calls q hq w hT)
  have HK := Hd.mk hok
  have HP := Hd.mk hP
  have hlt := numberP_lt q.data.toList
  have HS : Hd (s.ends q.data.toList 72 = s.home q.data.toList) := ⟨rfl⟩
  have XH := Hd.mk (fun w1 (hb : Below w.heap.size w w1) => home_calls (h.below hb) hok (hT.below hb) q hq)
  rw [HS.out]
  clear hok hP hT
  go_enter Tryz.func40, Tryz.ntmps40
  go_wp2_with fail
  go_at_call 49
  with_reducible refine XN.out.mono ?_
  rintro _ w1 ⟨rfl, hb⟩
  have HO := Hd.mk (Only.of_below (F := P) hb)
  have H1 := Hd.mk (h.below hb)
  have HB := Hd.mk hb
  clear hb XN h
  have XH2 := Hd.mk (XH.out _ HB.out)
  clear XH
  go_wp2_with fail
  go_at_call 50
  with_reducible refine XH2.out.mono ?_
  rintro _ w2 ⟨rfl, ht, ho⟩
  have HT := Hd.mk ht
  have HO2 := Hd.mk (HO.out.trans ho (fun _ _ h => h))
  clear ht ho XH2
  go_wp2_with fail
  exact bodyPost_ret (results_none rfl _ _ _) rfl ⟨rfl, HT.out, HO2.out⟩
set_option maxRecDepth 100000 in
set_option maxHeartbeats 4000000 in
theorem ends_none {P : Nat → Prop} {w : World} {T M : Nat} {s : Tm} (h : TermAt P w T s) (hok : OKT M s) (hP : ∀ k, w.heap.size ≤ k → P k) (hT : TabsT w) (q : ByteArray) (hq : q.size ≤ 1000) (x : Nat) (hx : x ≠ 72) (hn : (numberP q.data.toList).2 = false) :
    Calls Tryz.prog 40 #[.pointer (some ⟨T, 0, none⟩), .string q, .int .u8 (x : Int)] w fun e w' => e = .returned (.tuple #[]) ∧ TermAt P w' T (s.ends q.data.toList x) ∧ Only P w w' := by
  have XN := Hd.mk (number_calls q hq w hT)
  have HK := Hd.mk hok
  have HP := Hd.mk hP
  have hlt := numberP_lt q.data.toList
  have HS : Hd (s.ends q.data.toList x = s) := ⟨by unfold Tm.ends; rw [if_neg hx, if_pos hn]⟩
  rw [HS.out]
  rw [hn] at XN
  have k72 : ((x : Int) == 72) = false := by simp; omega
  have j72 : decide ((x : Int) = 72) = false := by simp; omega
  have i72 : decide (x = 72) = false := by simp; omega
  clear hok hP hT hx hn
  go_enter Tryz.func40, Tryz.ntmps40
  go_wp2_with fail
  go_at_call 49
  with_reducible refine XN.out.mono ?_
  rintro _ w1 ⟨rfl, hb⟩
  have HO := Hd.mk (Only.of_below (F := P) hb)
  have H1 := Hd.mk (h.below hb)
  have HB := Hd.mk hb
  clear hb XN h
  go_wp2_with fail
  exact bodyPost_ret (results_none rfl _ _ _) rfl ⟨rfl, H1.out, HO.out⟩
set_option maxRecDepth 100000 in
set_option maxHeartbeats 4000000 in
theorem ends_other {P : Nat → Prop} {w : World} {T M : Nat} {s : Tm} (h : TermAt P w T s) (hok : OKT M s) (hP : ∀ k, w.heap.size ≤ k → P k) (hT : TabsT w) (q : ByteArray) (hq : q.size ≤ 1000) (x : Nat) (hx : x ≠ 72 ∧ x ≠ 65 ∧ x ≠ 66 ∧ x ≠ 68 ∧ x ≠ 67 ∧ x ≠ 71 ∧ x ≠ 74 ∧ x ≠ 75 ∧ x ≠ 109) (hn : (numberP q.data.toList).2 = true) :
    Calls Tryz.prog 40 #[.pointer (some ⟨T, 0, none⟩), .string q, .int .u8 (x : Int)] w fun e w' => e = .returned (.tuple #[]) ∧ TermAt P w' T (s.ends q.data.toList x) ∧ Only P w w' := by
  have XN := Hd.mk (number_calls q hq w hT)
  have HK := Hd.mk hok
  have HP := Hd.mk hP
  have hlt := numberP_lt q.data.toList
  obtain ⟨h72, h65, h66, h68, h67, h71, h74, h75, h109⟩ := hx
  have HS : Hd (s.ends q.data.toList x = s) := ⟨by unfold Tm.ends; rw [if_neg h72, if_neg (by rw [hn]; simp)]; dsimp only; rw [if_neg h65, if_neg h66, if_neg h68, if_neg h67, if_neg h71, if_neg h74, if_neg h75, if_neg h109]⟩
  rw [HS.out]
  rw [hn] at XN
  have k72 : ((x : Int) == 72) = false := by simp; omega
  have j72 : decide ((x : Int) = 72) = false := by simp; omega
  have i72 : decide (x = 72) = false := by simp; omega
  have k65 : ((x : Int) == 65) = false := by simp; omega
  have j65 : decide ((x : Int) = 65) = false := by simp; omega
  have i65 : decide (x = 65) = false := by simp; omega
  have k66 : ((x : Int) == 66) = false := by simp; omega
  have j66 : decide ((x : Int) = 66) = false := by simp; omega
  have i66 : decide (x = 66) = false := by simp; omega
  have k68 : ((x : Int) == 68) = false := by simp; omega
  have j68 : decide ((x : Int) = 68) = false := by simp; omega
  have i68 : decide (x = 68) = false := by simp; omega
  have k67 : ((x : Int) == 67) = false := by simp; omega
  have j67 : decide ((x : Int) = 67) = false := by simp; omega
  have i67 : decide (x = 67) = false := by simp; omega
  have k71 : ((x : Int) == 71) = false := by simp; omega
  have j71 : decide ((x : Int) = 71) = false := by simp; omega
  have i71 : decide (x = 71) = false := by simp; omega
  have k74 : ((x : Int) == 74) = false := by simp; omega
  have j74 : decide ((x : Int) = 74) = false := by simp; omega
  have i74 : decide (x = 74) = false := by simp; omega
  have k75 : ((x : Int) == 75) = false := by simp; omega
  have j75 : decide ((x : Int) = 75) = false := by simp; omega
  have i75 : decide (x = 75) = false := by simp; omega
  have k109 : ((x : Int) == 109) = false := by simp; omega
  have j109 : decide ((x : Int) = 109) = false := by simp; omega
  have i109 : decide (x = 109) = false := by simp; omega
  clear hok hP hT h72 h65 h66 h68 h67 h71 h74 h75 h109 hn
  go_enter Tryz.func40, Tryz.ntmps40
  go_wp2_with fail
  go_at_call 49
  with_reducible refine XN.out.mono ?_
  rintro _ w1 ⟨rfl, hb⟩
  have HO := Hd.mk (Only.of_below (F := P) hb)
  have H1 := Hd.mk (h.below hb)
  have HB := Hd.mk hb
  clear hb XN h
  go_wp2_with fail
  go_end0
  exact ⟨rfl, H1.out, HO.out⟩
set_option maxRecDepth 100000 in
set_option maxHeartbeats 4000000 in
theorem ends_A {P : Nat → Prop} {w : World} {T M : Nat} {s : Tm} (h : TermAt P w T s) (hok : OKT M s) (hP : ∀ k, w.heap.size ≤ k → P k) (hT : TabsT w) (q : ByteArray) (hq : q.size ≤ 1000) (hn : (numberP q.data.toList).2 = true) :
    Calls Tryz.prog 40 #[.pointer (some ⟨T, 0, none⟩), .string q, .int .u8 65] w fun e w' => e = .returned (.tuple #[]) ∧ TermAt P w' T (s.ends q.data.toList 65) ∧ Only P w w' := by
  have XN := Hd.mk (number_calls q hq w hT)
  have HK := Hd.mk hok
  have HP := Hd.mk hP
  have hlt := numberP_lt q.data.toList
  obtain ⟨n, hnv⟩ : ∃ n, (numberP q.data.toList).1 = n := ⟨_, rfl⟩
  rw [hn, hnv] at XN
  rw [hnv] at hlt
  obtain ⟨b, hbv⟩ : ∃ b, max n 1 = b := ⟨_, rfl⟩
  have hb1 : max (n : Int) 1 = (b : Int) := by omega
  have hb2 : (b : Int) ≤ 1000 := by omega
  have hb3 : (1 : Int) ≤ (b : Int) := by omega
  have HS : Hd (s.ends q.data.toList 65 = s.to_ ((s.row : Int) - (b : Int)) ((s.col : Int))) := ⟨by unfold Tm.ends; rw [if_neg (by decide), if_neg (by rw [hn]; simp)]; dsimp only; rw [hnv]; rw [if_pos rfl, hbv]⟩
  rw [HS.out]
  have hr1 : (s.row : Int) ≤ 60 := by have := hok.row; have := hok.r2; omega
  have hr0 : (0 : Int) ≤ (s.row : Int) := Int.natCast_nonneg _
  have hc1 : (s.col : Int) ≤ 120 := by have := hok.col; have := hok.c2; omega
  have hc0 : (0 : Int) ≤ (s.col : Int) := Int.natCast_nonneg _
  clear hok hP hT hn hnv hbv
  go_enter Tryz.func40, Tryz.ntmps40
  go_wp2_with fail
  go_at_call 49
  with_reducible refine XN.out.mono ?_
  rintro _ w1 ⟨rfl, hb⟩
  have HO := Hd.mk (Only.of_below (F := P) hb)
  have H1 := Hd.mk (h.below hb)
  have HB := Hd.mk hb
  clear hb XN h
  go_upto_region 15 with fail
  rename_i KQ hKQ
  refine regionK (fun w' : World => w'.cell? ⟨T, 4, none⟩ = some (.int .i64 (s.row : Int)) ∧ w'.cell? ⟨T, 5, none⟩ = some (.int .i64 (s.col : Int))) 11 (by kernel_rfl) (fun wd hb => ?_)
  have HTe := Hd.mk (H1.out.below hb)
  have HOe := Hd.mk (HO.out.below hb)
  clear hb H1 HO
  obtain ⟨lv9, gv9, bv9, L9, G9, h9⟩ := HTe.out
  have hHd : (fun w' : World => w'.cell? ⟨T, 4, none⟩ = some (.int .i64 (s.row : Int)) ∧ w'.cell? ⟨T, 5, none⟩ = some (.int .i64 (s.col : Int))) wd := ⟨h9.all.1.2.2.2.2.1, h9.all.1.2.2.2.2.2.1⟩
  clear h9
  have XT := Hd.mk (to_calls HTe.out ⟨HK.out.r1, HK.out.r2, HK.out.c1, HK.out.c2⟩ ((s.row : Int) - (b : Int)) ((s.col : Int)))
  refine wpAnyK_take2 (i := 0) (v := ?v1) [] rfl (by kernel_rfl) (by kernel_rfl) (by kernel_rfl) (by kernel_rfl) (fun _ _ _ h => h) (Or.inl ⟨by rfl, ?hy1⟩) (by assumption) ?rest1
  case hy1 => (intro w hSw; (try dsimp only at hSw); go_simp; try (with_reducible rfl))
  case rest1 =>
  try simp only [Act.put, List.setIfInBounds_toArray, List.set_cons_zero, List.set_cons_succ]
  refine wpAnyK_take2 (i := 1) (v := ?v2) [6, 4, 3, 2] rfl (by kernel_rfl) (by kernel_rfl) (by kernel_rfl) (by kernel_rfl) (fun _ _ _ h => h) (Or.inl ⟨by rfl, ?hy2⟩) (by assumption) ?rest2
  case hy2 => (intro w hSw; (try dsimp only at hSw); go_simp; try (with_reducible rfl))
  case rest2 =>
  try simp only [Act.put, List.setIfInBounds_toArray, List.set_cons_zero, List.set_cons_succ]
  refine wpAnyK_take2 (i := 2) (v := ?v3) [6, 4, 3] rfl (by kernel_rfl) (by kernel_rfl) (by kernel_rfl) (by kernel_rfl) (fun _ _ _ h => h) (Or.inl ⟨by rfl, ?hy3⟩) (by assumption) ?rest3
  case hy3 => (intro w hSw; (try dsimp only at hSw); go_simp; try (with_reducible rfl))
  case rest3 =>
  try simp only [Act.put, List.setIfInBounds_toArray, List.set_cons_zero, List.set_cons_succ]
  refine wpAnyK_take2 (i := 3) (v := ?v4) [6, 4] rfl (by kernel_rfl) (by kernel_rfl) (by kernel_rfl) (by kernel_rfl) (fun _ _ _ h => h) (Or.inl ⟨by rfl, ?hy4⟩) (by assumption) ?rest4
  case hy4 => (intro w hSw; (try dsimp only at hSw); go_simp; try (with_reducible rfl))
  case rest4 =>
  try simp only [Act.put, List.setIfInBounds_toArray, List.set_cons_zero, List.set_cons_succ]
  refine wpAnyK_take2 (i := 4) (v := ?v5) [6] rfl (by kernel_rfl) (by kernel_rfl) (by kernel_rfl) (by kernel_rfl) (fun _ _ _ h => h) (Or.inl ⟨by rfl, ?hy5⟩) (by assumption) ?rest5
  case hy5 => (intro w hSw; (try dsimp only at hSw); go_simp; try (with_reducible rfl))
  case rest5 =>
  try simp only [Act.put, List.setIfInBounds_toArray, List.set_cons_zero, List.set_cons_succ]
  refine wpAnyK_take2 (i := 5) (v := ?v6) [6] rfl (by kernel_rfl) (by kernel_rfl) (by kernel_rfl) (by kernel_rfl) (fun _ _ _ h => h) (Or.inl ⟨by rfl, ?hy6⟩) (by assumption) ?rest6
  case hy6 => (intro w hSw; (try dsimp only at hSw); go_simp; try (with_reducible rfl))
  case rest6 =>
  try simp only [Act.put, List.setIfInBounds_toArray, List.set_cons_zero, List.set_cons_succ]
  refine wpAnyK_take2 (i := 6) (v := (.int .i64 ((s.row : Int) - (b : Int)))) [] rfl (by kernel_rfl) (by kernel_rfl) (by kernel_rfl) (by kernel_rfl) (fun _ _ _ h => h) (Or.inl ⟨by rfl, ?hy7⟩) (by assumption) ?rest7
  case hy7 => (intro w hSw; (try dsimp only at hSw); go_simp; first | done | (rw [IntKind.wrap_i64]; omega))
  case rest7 =>
  try simp only [Act.put, List.setIfInBounds_toArray, List.set_cons_zero, List.set_cons_succ]
  refine wpAnyK_take2 (i := 7) (v := ?v8) [10, 9, 8] rfl (by kernel_rfl) (by kernel_rfl) (by kernel_rfl) (by kernel_rfl) (fun _ _ _ h => h) (Or.inl ⟨by rfl, ?hy8⟩) (by assumption) ?rest8
  case hy8 => (intro w hSw; (try dsimp only at hSw); go_simp; try (with_reducible rfl))
  case rest8 =>
  try simp only [Act.put, List.setIfInBounds_toArray, List.set_cons_zero, List.set_cons_succ]
  refine wpAnyK_take2 (i := 8) (v := ?v9) [10, 9] rfl (by kernel_rfl) (by kernel_rfl) (by kernel_rfl) (by kernel_rfl) (fun _ _ _ h => h) (Or.inl ⟨by rfl, ?hy9⟩) (by assumption) ?rest9
  case hy9 => (intro w hSw; (try dsimp only at hSw); go_simp; try (with_reducible rfl))
  case rest9 =>
  try simp only [Act.put, List.setIfInBounds_toArray, List.set_cons_zero, List.set_cons_succ]
  refine wpAnyK_take2 (i := 9) (v := ?v10) [10] rfl (by kernel_rfl) (by kernel_rfl) (by kernel_rfl) (by kernel_rfl) (fun _ _ _ h => h) (Or.inl ⟨by rfl, ?hy10⟩) (by assumption) ?rest10
  case hy10 => (intro w hSw; (try dsimp only at hSw); go_simp; try (with_reducible rfl))
  case rest10 =>
  try simp only [Act.put, List.setIfInBounds_toArray, List.set_cons_zero, List.set_cons_succ]
  refine wpAnyK_take2 (i := 10) (v := ?v11) [] rfl (by kernel_rfl) (by kernel_rfl) (by kernel_rfl) (by kernel_rfl) (fun _ _ _ h => h) (Or.inl ⟨by rfl, ?hy11⟩) (by assumption) ?rest11
  case hy11 => (intro w hSw; (try dsimp only at hSw); go_simp; try (with_reducible rfl))
  case rest11 =>
  try simp only [Act.put, List.setIfInBounds_toArray, List.set_cons_zero, List.set_cons_succ]
  refine wpAnyK_ready (rs := [11]) (by kernel_rfl) (by simp) ?_
  refine AllReadyK.cons rfl (fun K hK => ?_) AllReadyK.nil
  go_simp
  go_at_call 32
  with_reducible refine XT.out.mono ?_
  rintro _ wp ⟨rfl, ht, ho⟩
  have HT3 := Hd.mk ht
  have HO3 := Hd.mk (HOe.out.trans ho (fun _ _ h => h))
  clear ht ho hHd XT
  go_simp
  refine hK.out _ _ (.inl (by kernel_rfl)) ?_
  clear hK K
  try simp only [Act.put, List.setIfInBounds_toArray, List.set_cons_zero, List.set_cons_succ]
  refine wpAnyK_done (by kernel_rfl) ?_ _
  refine hKQ _ _ ?_
  go_wp2_with fail
  go_end0
  exact ⟨rfl, HT3.out, HO3.out⟩
set_option maxRecDepth 100000 in
set_option maxHeartbeats 4000000 in
theorem ends_B {P : Nat → Prop} {w : World} {T M : Nat} {s : Tm} (h : TermAt P w T s) (hok : OKT M s) (hP : ∀ k, w.heap.size ≤ k → P k) (hT : TabsT w) (q : ByteArray) (hq : q.size ≤ 1000) (hn : (numberP q.data.toList).2 = true) :
    Calls Tryz.prog 40 #[.pointer (some ⟨T, 0, none⟩), .string q, .int .u8 66] w fun e w' => e = .returned (.tuple #[]) ∧ TermAt P w' T (s.ends q.data.toList 66) ∧ Only P w w' := by
  have XN := Hd.mk (number_calls q hq w hT)
  have HK := Hd.mk hok
  have HP := Hd.mk hP
  have hlt := numberP_lt q.data.toList
  obtain ⟨n, hnv⟩ : ∃ n, (numberP q.data.toList).1 = n := ⟨_, rfl⟩
  rw [hn, hnv] at XN
  rw [hnv] at hlt
  obtain ⟨b, hbv⟩ : ∃ b, max n 1 = b := ⟨_, rfl⟩
  have hb1 : max (n : Int) 1 = (b : Int) := by omega
  have hb2 : (b : Int) ≤ 1000 := by omega
  have hb3 : (1 : Int) ≤ (b : Int) := by omega
  have HS : Hd (s.ends q.data.toList 66 = s.to_ ((s.row : Int) + (b : Int)) ((s.col : Int))) := ⟨by unfold Tm.ends; rw [if_neg (by decide), if_neg (by rw [hn]; simp)]; dsimp only; rw [hnv]; rw [if_neg (by decide), if_pos rfl, hbv]⟩
  rw [HS.out]
  have hr1 : (s.row : Int) ≤ 60 := by have := hok.row; have := hok.r2; omega
  have hr0 : (0 : Int) ≤ (s.row : Int) := Int.natCast_nonneg _
  have hc1 : (s.col : Int) ≤ 120 := by have := hok.col; have := hok.c2; omega
  have hc0 : (0 : Int) ≤ (s.col : Int) := Int.natCast_nonneg _
  clear hok hP hT hn hnv hbv
  go_enter Tryz.func40, Tryz.ntmps40
  go_wp2_with fail
  go_at_call 49
  with_reducible refine XN.out.mono ?_
  rintro _ w1 ⟨rfl, hb⟩
  have HO := Hd.mk (Only.of_below (F := P) hb)
  have H1 := Hd.mk (h.below hb)
  have HB := Hd.mk hb
  clear hb XN h
  go_upto_region 15 with fail
  rename_i KQ hKQ
  refine regionK (fun w' : World => w'.cell? ⟨T, 4, none⟩ = some (.int .i64 (s.row : Int)) ∧ w'.cell? ⟨T, 5, none⟩ = some (.int .i64 (s.col : Int))) 11 (by kernel_rfl) (fun wd hb => ?_)
  have HTe := Hd.mk (H1.out.below hb)
  have HOe := Hd.mk (HO.out.below hb)
  clear hb H1 HO
  obtain ⟨lv9, gv9, bv9, L9, G9, h9⟩ := HTe.out
  have hHd : (fun w' : World => w'.cell? ⟨T, 4, none⟩ = some (.int .i64 (s.row : Int)) ∧ w'.cell? ⟨T, 5, none⟩ = some (.int .i64 (s.col : Int))) wd := ⟨h9.all.1.2.2.2.2.1, h9.all.1.2.2.2.2.2.1⟩
  clear h9
  have XT := Hd.mk (to_calls HTe.out ⟨HK.out.r1, HK.out.r2, HK.out.c1, HK.out.c2⟩ ((s.row : Int) + (b : Int)) ((s.col : Int)))
  refine wpAnyK_take2 (i := 0) (v := ?v12) [] rfl (by kernel_rfl) (by kernel_rfl) (by kernel_rfl) (by kernel_rfl) (fun _ _ _ h => h) (Or.inl ⟨by rfl, ?hy12⟩) (by assumption) ?rest12
  case hy12 => (intro w hSw; (try dsimp only at hSw); go_simp; try (with_reducible rfl))
  case rest12 =>
  try simp only [Act.put, List.setIfInBounds_toArray, List.set_cons_zero, List.set_cons_succ]
  refine wpAnyK_take2 (i := 1) (v := ?v13) [6, 4, 3, 2] rfl (by kernel_rfl) (by kernel_rfl) (by kernel_rfl) (by kernel_rfl) (fun _ _ _ h => h) (Or.inl ⟨by rfl, ?hy13⟩) (by assumption) ?rest13
  case hy13 => (intro w hSw; (try dsimp only at hSw); go_simp; try (with_reducible rfl))
  case rest13 =>
  try simp only [Act.put, List.setIfInBounds_toArray, List.set_cons_zero, List.set_cons_succ]
  refine wpAnyK_take2 (i := 2) (v := ?v14) [6, 4, 3] rfl (by kernel_rfl) (by kernel_rfl) (by kernel_rfl) (by kernel_rfl) (fun _ _ _ h => h) (Or.inl ⟨by rfl, ?hy14⟩) (by assumption) ?rest14
  case hy14 => (intro w hSw; (try dsimp only at hSw); go_simp; try (with_reducible rfl))
  case rest14 =>
  try simp only [Act.put, List.setIfInBounds_toArray, List.set_cons_zero, List.set_cons_succ]
  refine wpAnyK_take2 (i := 3) (v := ?v15) [6, 4] rfl (by kernel_rfl) (by kernel_rfl) (by kernel_rfl) (by kernel_rfl) (fun _ _ _ h => h) (Or.inl ⟨by rfl, ?hy15⟩) (by assumption) ?rest15
  case hy15 => (intro w hSw; (try dsimp only at hSw); go_simp; try (with_reducible rfl))
  case rest15 =>
  try simp only [Act.put, List.setIfInBounds_toArray, List.set_cons_zero, List.set_cons_succ]
  refine wpAnyK_take2 (i := 4) (v := ?v16) [6] rfl (by kernel_rfl) (by kernel_rfl) (by kernel_rfl) (by kernel_rfl) (fun _ _ _ h => h) (Or.inl ⟨by rfl, ?hy16⟩) (by assumption) ?rest16
  case hy16 => (intro w hSw; (try dsimp only at hSw); go_simp; try (with_reducible rfl))
  case rest16 =>
  try simp only [Act.put, List.setIfInBounds_toArray, List.set_cons_zero, List.set_cons_succ]
  refine wpAnyK_take2 (i := 5) (v := ?v17) [6] rfl (by kernel_rfl) (by kernel_rfl) (by kernel_rfl) (by kernel_rfl) (fun _ _ _ h => h) (Or.inl ⟨by rfl, ?hy17⟩) (by assumption) ?rest17
  case hy17 => (intro w hSw; (try dsimp only at hSw); go_simp; try (with_reducible rfl))
  case rest17 =>
  try simp only [Act.put, List.setIfInBounds_toArray, List.set_cons_zero, List.set_cons_succ]
  refine wpAnyK_take2 (i := 6) (v := (.int .i64 ((s.row : Int) + (b : Int)))) [] rfl (by kernel_rfl) (by kernel_rfl) (by kernel_rfl) (by kernel_rfl) (fun _ _ _ h => h) (Or.inl ⟨by rfl, ?hy18⟩) (by assumption) ?rest18
  case hy18 => (intro w hSw; (try dsimp only at hSw); go_simp; first | done | (rw [IntKind.wrap_i64]; omega))
  case rest18 =>
  try simp only [Act.put, List.setIfInBounds_toArray, List.set_cons_zero, List.set_cons_succ]
  refine wpAnyK_take2 (i := 7) (v := ?v19) [10, 9, 8] rfl (by kernel_rfl) (by kernel_rfl) (by kernel_rfl) (by kernel_rfl) (fun _ _ _ h => h) (Or.inl ⟨by rfl, ?hy19⟩) (by assumption) ?rest19
  case hy19 => (intro w hSw; (try dsimp only at hSw); go_simp; try (with_reducible rfl))
  case rest19 =>
  try simp only [Act.put, List.setIfInBounds_toArray, List.set_cons_zero, List.set_cons_succ]
  refine wpAnyK_take2 (i := 8) (v := ?v20) [10, 9] rfl (by kernel_rfl) (by kernel_rfl) (by kernel_rfl) (by kernel_rfl) (fun _ _ _ h => h) (Or.inl ⟨by rfl, ?hy20⟩) (by assumption) ?rest20
  case hy20 => (intro w hSw; (try dsimp only at hSw); go_simp; try (with_reducible rfl))
  case rest20 =>
  try simp only [Act.put, List.setIfInBounds_toArray, List.set_cons_zero, List.set_cons_succ]
  refine wpAnyK_take2 (i := 9) (v := ?v21) [10] rfl (by kernel_rfl) (by kernel_rfl) (by kernel_rfl) (by kernel_rfl) (fun _ _ _ h => h) (Or.inl ⟨by rfl, ?hy21⟩) (by assumption) ?rest21
  case hy21 => (intro w hSw; (try dsimp only at hSw); go_simp; try (with_reducible rfl))
  case rest21 =>
  try simp only [Act.put, List.setIfInBounds_toArray, List.set_cons_zero, List.set_cons_succ]
  refine wpAnyK_take2 (i := 10) (v := ?v22) [] rfl (by kernel_rfl) (by kernel_rfl) (by kernel_rfl) (by kernel_rfl) (fun _ _ _ h => h) (Or.inl ⟨by rfl, ?hy22⟩) (by assumption) ?rest22
  case hy22 => (intro w hSw; (try dsimp only at hSw); go_simp; try (with_reducible rfl))
  case rest22 =>
  try simp only [Act.put, List.setIfInBounds_toArray, List.set_cons_zero, List.set_cons_succ]
  refine wpAnyK_ready (rs := [11]) (by kernel_rfl) (by simp) ?_
  refine AllReadyK.cons rfl (fun K hK => ?_) AllReadyK.nil
  go_simp
  go_at_call 32
  with_reducible refine XT.out.mono ?_
  rintro _ wp ⟨rfl, ht, ho⟩
  have HT3 := Hd.mk ht
  have HO3 := Hd.mk (HOe.out.trans ho (fun _ _ h => h))
  clear ht ho hHd XT
  go_simp
  refine hK.out _ _ (.inl (by kernel_rfl)) ?_
  clear hK K
  try simp only [Act.put, List.setIfInBounds_toArray, List.set_cons_zero, List.set_cons_succ]
  refine wpAnyK_done (by kernel_rfl) ?_ _
  refine hKQ _ _ ?_
  go_wp2_with fail
  go_end0
  exact ⟨rfl, HT3.out, HO3.out⟩
set_option maxRecDepth 100000 in
set_option maxHeartbeats 4000000 in
theorem ends_D {P : Nat → Prop} {w : World} {T M : Nat} {s : Tm} (h : TermAt P w T s) (hok : OKT M s) (hP : ∀ k, w.heap.size ≤ k → P k) (hT : TabsT w) (q : ByteArray) (hq : q.size ≤ 1000) (hn : (numberP q.data.toList).2 = true) :
    Calls Tryz.prog 40 #[.pointer (some ⟨T, 0, none⟩), .string q, .int .u8 68] w fun e w' => e = .returned (.tuple #[]) ∧ TermAt P w' T (s.ends q.data.toList 68) ∧ Only P w w' := by
  have XN := Hd.mk (number_calls q hq w hT)
  have HK := Hd.mk hok
  have HP := Hd.mk hP
  have hlt := numberP_lt q.data.toList
  obtain ⟨n, hnv⟩ : ∃ n, (numberP q.data.toList).1 = n := ⟨_, rfl⟩
  rw [hn, hnv] at XN
  rw [hnv] at hlt
  obtain ⟨b, hbv⟩ : ∃ b, max n 1 = b := ⟨_, rfl⟩
  have hb1 : max (n : Int) 1 = (b : Int) := by omega
  have hb2 : (b : Int) ≤ 1000 := by omega
  have hb3 : (1 : Int) ≤ (b : Int) := by omega
  have HS : Hd (s.ends q.data.toList 68 = s.to_ ((s.row : Int)) ((s.col : Int) - (b : Int))) := ⟨by unfold Tm.ends; rw [if_neg (by decide), if_neg (by rw [hn]; simp)]; dsimp only; rw [hnv]; rw [if_neg (by decide), if_neg (by decide), if_pos rfl, hbv]⟩
  rw [HS.out]
  have hr1 : (s.row : Int) ≤ 60 := by have := hok.row; have := hok.r2; omega
  have hr0 : (0 : Int) ≤ (s.row : Int) := Int.natCast_nonneg _
  have hc1 : (s.col : Int) ≤ 120 := by have := hok.col; have := hok.c2; omega
  have hc0 : (0 : Int) ≤ (s.col : Int) := Int.natCast_nonneg _
  clear hok hP hT hn hnv hbv
  go_enter Tryz.func40, Tryz.ntmps40
  go_wp2_with fail
  go_at_call 49
  with_reducible refine XN.out.mono ?_
  rintro _ w1 ⟨rfl, hb⟩
  have HO := Hd.mk (Only.of_below (F := P) hb)
  have H1 := Hd.mk (h.below hb)
  have HB := Hd.mk hb
  clear hb XN h
  go_upto_region 17 with fail
  rename_i KQ hKQ
  refine regionK (fun w' : World => w'.cell? ⟨T, 4, none⟩ = some (.int .i64 (s.row : Int)) ∧ w'.cell? ⟨T, 5, none⟩ = some (.int .i64 (s.col : Int))) 11 (by kernel_rfl) (fun wd hb => ?_)
  have HTe := Hd.mk (H1.out.below hb)
  have HOe := Hd.mk (HO.out.below hb)
  clear hb H1 HO
  obtain ⟨lv9, gv9, bv9, L9, G9, h9⟩ := HTe.out
  have hHd : (fun w' : World => w'.cell? ⟨T, 4, none⟩ = some (.int .i64 (s.row : Int)) ∧ w'.cell? ⟨T, 5, none⟩ = some (.int .i64 (s.col : Int))) wd := ⟨h9.all.1.2.2.2.2.1, h9.all.1.2.2.2.2.2.1⟩
  clear h9
  have XT := Hd.mk (to_calls HTe.out ⟨HK.out.r1, HK.out.r2, HK.out.c1, HK.out.c2⟩ ((s.row : Int)) ((s.col : Int) - (b : Int)))
  refine wpAnyK_take2 (i := 0) (v := ?v23) [] rfl (by kernel_rfl) (by kernel_rfl) (by kernel_rfl) (by kernel_rfl) (fun _ _ _ h => h) (Or.inl ⟨by rfl, ?hy23⟩) (by assumption) ?rest23
  case hy23 => (intro w hSw; (try dsimp only at hSw); go_simp; try (with_reducible rfl))
  case rest23 =>
  try simp only [Act.put, List.setIfInBounds_toArray, List.set_cons_zero, List.set_cons_succ]
  refine wpAnyK_take2 (i := 1) (v := ?v24) [4, 3, 2] rfl (by kernel_rfl) (by kernel_rfl) (by kernel_rfl) (by kernel_rfl) (fun _ _ _ h => h) (Or.inl ⟨by rfl, ?hy24⟩) (by assumption) ?rest24
  case hy24 => (intro w hSw; (try dsimp only at hSw); go_simp; try (with_reducible rfl))
  case rest24 =>
  try simp only [Act.put, List.setIfInBounds_toArray, List.set_cons_zero, List.set_cons_succ]
  refine wpAnyK_take2 (i := 2) (v := ?v25) [4, 3] rfl (by kernel_rfl) (by kernel_rfl) (by kernel_rfl) (by kernel_rfl) (fun _ _ _ h => h) (Or.inl ⟨by rfl, ?hy25⟩) (by assumption) ?rest25
  case hy25 => (intro w hSw; (try dsimp only at hSw); go_simp; try (with_reducible rfl))
  case rest25 =>
  try simp only [Act.put, List.setIfInBounds_toArray, List.set_cons_zero, List.set_cons_succ]
  refine wpAnyK_take2 (i := 3) (v := ?v26) [4] rfl (by kernel_rfl) (by kernel_rfl) (by kernel_rfl) (by kernel_rfl) (fun _ _ _ h => h) (Or.inl ⟨by rfl, ?hy26⟩) (by assumption) ?rest26
  case hy26 => (intro w hSw; (try dsimp only at hSw); go_simp; try (with_reducible rfl))
  case rest26 =>
  try simp only [Act.put, List.setIfInBounds_toArray, List.set_cons_zero, List.set_cons_succ]
  refine wpAnyK_take2 (i := 4) (v := ?v27) [] rfl (by kernel_rfl) (by kernel_rfl) (by kernel_rfl) (by kernel_rfl) (fun _ _ _ h => h) (Or.inl ⟨by rfl, ?hy27⟩) (by assumption) ?rest27
  case hy27 => (intro w hSw; (try dsimp only at hSw); go_simp; try (with_reducible rfl))
  case rest27 =>
  try simp only [Act.put, List.setIfInBounds_toArray, List.set_cons_zero, List.set_cons_succ]
  refine wpAnyK_take2 (i := 5) (v := ?v28) [10, 8, 7, 6] rfl (by kernel_rfl) (by kernel_rfl) (by kernel_rfl) (by kernel_rfl) (fun _ _ _ h => h) (Or.inl ⟨by rfl, ?hy28⟩) (by assumption) ?rest28
  case hy28 => (intro w hSw; (try dsimp only at hSw); go_simp; try (with_reducible rfl))
  case rest28 =>
  try simp only [Act.put, List.setIfInBounds_toArray, List.set_cons_zero, List.set_cons_succ]
  refine wpAnyK_take2 (i := 6) (v := ?v29) [10, 8, 7] rfl (by kernel_rfl) (by kernel_rfl) (by kernel_rfl) (by kernel_rfl) (fun _ _ _ h => h) (Or.inl ⟨by rfl, ?hy29⟩) (by assumption) ?rest29
  case hy29 => (intro w hSw; (try dsimp only at hSw); go_simp; try (with_reducible rfl))
  case rest29 =>
  try simp only [Act.put, List.setIfInBounds_toArray, List.set_cons_zero, List.set_cons_succ]
  refine wpAnyK_take2 (i := 7) (v := ?v30) [10, 8] rfl (by kernel_rfl) (by kernel_rfl) (by kernel_rfl) (by kernel_rfl) (fun _ _ _ h => h) (Or.inl ⟨by rfl, ?hy30⟩) (by assumption) ?rest30
  case hy30 => (intro w hSw; (try dsimp only at hSw); go_simp; try (with_reducible rfl))
  case rest30 =>
  try simp only [Act.put, List.setIfInBounds_toArray, List.set_cons_zero, List.set_cons_succ]
  refine wpAnyK_take2 (i := 8) (v := ?v31) [10] rfl (by kernel_rfl) (by kernel_rfl) (by kernel_rfl) (by kernel_rfl) (fun _ _ _ h => h) (Or.inl ⟨by rfl, ?hy31⟩) (by assumption) ?rest31
  case hy31 => (intro w hSw; (try dsimp only at hSw); go_simp; try (with_reducible rfl))
  case rest31 =>
  try simp only [Act.put, List.setIfInBounds_toArray, List.set_cons_zero, List.set_cons_succ]
  refine wpAnyK_take2 (i := 9) (v := ?v32) [10] rfl (by kernel_rfl) (by kernel_rfl) (by kernel_rfl) (by kernel_rfl) (fun _ _ _ h => h) (Or.inl ⟨by rfl, ?hy32⟩) (by assumption) ?rest32
  case hy32 => (intro w hSw; (try dsimp only at hSw); go_simp; try (with_reducible rfl))
  case rest32 =>
  try simp only [Act.put, List.setIfInBounds_toArray, List.set_cons_zero, List.set_cons_succ]
  refine wpAnyK_take2 (i := 10) (v := (.int .i64 ((s.col : Int) - (b : Int)))) [] rfl (by kernel_rfl) (by kernel_rfl) (by kernel_rfl) (by kernel_rfl) (fun _ _ _ h => h) (Or.inl ⟨by rfl, ?hy33⟩) (by assumption) ?rest33
  case hy33 => (intro w hSw; (try dsimp only at hSw); go_simp; first | done | (rw [IntKind.wrap_i64]; omega))
  case rest33 =>
  try simp only [Act.put, List.setIfInBounds_toArray, List.set_cons_zero, List.set_cons_succ]
  refine wpAnyK_ready (rs := [11]) (by kernel_rfl) (by simp) ?_
  refine AllReadyK.cons rfl (fun K hK => ?_) AllReadyK.nil
  go_simp
  go_at_call 32
  with_reducible refine XT.out.mono ?_
  rintro _ wp ⟨rfl, ht, ho⟩
  have HT3 := Hd.mk ht
  have HO3 := Hd.mk (HOe.out.trans ho (fun _ _ h => h))
  clear ht ho hHd XT
  go_simp
  refine hK.out _ _ (.inl (by kernel_rfl)) ?_
  clear hK K
  try simp only [Act.put, List.setIfInBounds_toArray, List.set_cons_zero, List.set_cons_succ]
  refine wpAnyK_done (by kernel_rfl) ?_ _
  refine hKQ _ _ ?_
  go_wp2_with fail
  go_end0
  exact ⟨rfl, HT3.out, HO3.out⟩
set_option maxRecDepth 100000 in
set_option maxHeartbeats 4000000 in
theorem ends_C {P : Nat → Prop} {w : World} {T M : Nat} {s : Tm} (h : TermAt P w T s) (hok : OKT M s) (hP : ∀ k, w.heap.size ≤ k → P k) (hT : TabsT w) (q : ByteArray) (hq : q.size ≤ 1000) (hn : (numberP q.data.toList).2 = true) :
    Calls Tryz.prog 40 #[.pointer (some ⟨T, 0, none⟩), .string q, .int .u8 67] w fun e w' => e = .returned (.tuple #[]) ∧ TermAt P w' T (s.ends q.data.toList 67) ∧ Only P w w' := by
  have XN := Hd.mk (number_calls q hq w hT)
  have HK := Hd.mk hok
  have HP := Hd.mk hP
  have hlt := numberP_lt q.data.toList
  obtain ⟨n, hnv⟩ : ∃ n, (numberP q.data.toList).1 = n := ⟨_, rfl⟩
  rw [hn, hnv] at XN
  rw [hnv] at hlt
  obtain ⟨b, hbv⟩ : ∃ b, max n 1 = b := ⟨_, rfl⟩
  have hb1 : max (n : Int) 1 = (b : Int) := by omega
  have hb2 : (b : Int) ≤ 1000 := by omega
  have hb3 : (1 : Int) ≤ (b : Int) := by omega
  have HS : Hd (s.ends q.data.toList 67 = s.to_ ((s.row : Int)) ((s.col : Int) + (b : Int))) := ⟨by unfold Tm.ends; rw [if_neg (by decide), if_neg (by rw [hn]; simp)]; dsimp only; rw [hnv]; rw [if_neg (by decide), if_neg (by decide), if_neg (by decide), if_pos rfl, hbv]⟩
  rw [HS.out]
  have hr1 : (s.row : Int) ≤ 60 := by have := hok.row; have := hok.r2; omega
  have hr0 : (0 : Int) ≤ (s.row : Int) := Int.natCast_nonneg _
  have hc1 : (s.col : Int) ≤ 120 := by have := hok.col; have := hok.c2; omega
  have hc0 : (0 : Int) ≤ (s.col : Int) := Int.natCast_nonneg _
  clear hok hP hT hn hnv hbv
  go_enter Tryz.func40, Tryz.ntmps40
  go_wp2_with fail
  go_at_call 49
  with_reducible refine XN.out.mono ?_
  rintro _ w1 ⟨rfl, hb⟩
  have HO := Hd.mk (Only.of_below (F := P) hb)
  have H1 := Hd.mk (h.below hb)
  have HB := Hd.mk hb
  clear hb XN h
  go_upto_region 17 with fail
  rename_i KQ hKQ
  refine regionK (fun w' : World => w'.cell? ⟨T, 4, none⟩ = some (.int .i64 (s.row : Int)) ∧ w'.cell? ⟨T, 5, none⟩ = some (.int .i64 (s.col : Int))) 11 (by kernel_rfl) (fun wd hb => ?_)
  have HTe := Hd.mk (H1.out.below hb)
  have HOe := Hd.mk (HO.out.below hb)
  clear hb H1 HO
  obtain ⟨lv9, gv9, bv9, L9, G9, h9⟩ := HTe.out
  have hHd : (fun w' : World => w'.cell? ⟨T, 4, none⟩ = some (.int .i64 (s.row : Int)) ∧ w'.cell? ⟨T, 5, none⟩ = some (.int .i64 (s.col : Int))) wd := ⟨h9.all.1.2.2.2.2.1, h9.all.1.2.2.2.2.2.1⟩
  clear h9
  have XT := Hd.mk (to_calls HTe.out ⟨HK.out.r1, HK.out.r2, HK.out.c1, HK.out.c2⟩ ((s.row : Int)) ((s.col : Int) + (b : Int)))
  refine wpAnyK_take2 (i := 0) (v := ?v34) [] rfl (by kernel_rfl) (by kernel_rfl) (by kernel_rfl) (by kernel_rfl) (fun _ _ _ h => h) (Or.inl ⟨by rfl, ?hy34⟩) (by assumption) ?rest34
  case hy34 => (intro w hSw; (try dsimp only at hSw); go_simp; try (with_reducible rfl))
  case rest34 =>
  try simp only [Act.put, List.setIfInBounds_toArray, List.set_cons_zero, List.set_cons_succ]
  refine wpAnyK_take2 (i := 1) (v := ?v35) [4, 3, 2] rfl (by kernel_rfl) (by kernel_rfl) (by kernel_rfl) (by kernel_rfl) (fun _ _ _ h => h) (Or.inl ⟨by rfl, ?hy35⟩) (by assumption) ?rest35
  case hy35 => (intro w hSw; (try dsimp only at hSw); go_simp; try (with_reducible rfl))
  case rest35 =>
  try simp only [Act.put, List.setIfInBounds_toArray, List.set_cons_zero, List.set_cons_succ]
  refine wpAnyK_take2 (i := 2) (v := ?v36) [4, 3] rfl (by kernel_rfl) (by kernel_rfl) (by kernel_rfl) (by kernel_rfl) (fun _ _ _ h => h) (Or.inl ⟨by rfl, ?hy36⟩) (by assumption) ?rest36
  case hy36 => (intro w hSw; (try dsimp only at hSw); go_simp; try (with_reducible rfl))
  case rest36 =>
  try simp only [Act.put, List.setIfInBounds_toArray, List.set_cons_zero, List.set_cons_succ]
  refine wpAnyK_take2 (i := 3) (v := ?v37) [4] rfl (by kernel_rfl) (by kernel_rfl) (by kernel_rfl) (by kernel_rfl) (fun _ _ _ h => h) (Or.inl ⟨by rfl, ?hy37⟩) (by assumption) ?rest37
  case hy37 => (intro w hSw; (try dsimp only at hSw); go_simp; try (with_reducible rfl))
  case rest37 =>
  try simp only [Act.put, List.setIfInBounds_toArray, List.set_cons_zero, List.set_cons_succ]
  refine wpAnyK_take2 (i := 4) (v := ?v38) [] rfl (by kernel_rfl) (by kernel_rfl) (by kernel_rfl) (by kernel_rfl) (fun _ _ _ h => h) (Or.inl ⟨by rfl, ?hy38⟩) (by assumption) ?rest38
  case hy38 => (intro w hSw; (try dsimp only at hSw); go_simp; try (with_reducible rfl))
  case rest38 =>
  try simp only [Act.put, List.setIfInBounds_toArray, List.set_cons_zero, List.set_cons_succ]
  refine wpAnyK_take2 (i := 5) (v := ?v39) [10, 8, 7, 6] rfl (by kernel_rfl) (by kernel_rfl) (by kernel_rfl) (by kernel_rfl) (fun _ _ _ h => h) (Or.inl ⟨by rfl, ?hy39⟩) (by assumption) ?rest39
  case hy39 => (intro w hSw; (try dsimp only at hSw); go_simp; try (with_reducible rfl))
  case rest39 =>
  try simp only [Act.put, List.setIfInBounds_toArray, List.set_cons_zero, List.set_cons_succ]
  refine wpAnyK_take2 (i := 6) (v := ?v40) [10, 8, 7] rfl (by kernel_rfl) (by kernel_rfl) (by kernel_rfl) (by kernel_rfl) (fun _ _ _ h => h) (Or.inl ⟨by rfl, ?hy40⟩) (by assumption) ?rest40
  case hy40 => (intro w hSw; (try dsimp only at hSw); go_simp; try (with_reducible rfl))
  case rest40 =>
  try simp only [Act.put, List.setIfInBounds_toArray, List.set_cons_zero, List.set_cons_succ]
  refine wpAnyK_take2 (i := 7) (v := ?v41) [10, 8] rfl (by kernel_rfl) (by kernel_rfl) (by kernel_rfl) (by kernel_rfl) (fun _ _ _ h => h) (Or.inl ⟨by rfl, ?hy41⟩) (by assumption) ?rest41
  case hy41 => (intro w hSw; (try dsimp only at hSw); go_simp; try (with_reducible rfl))
  case rest41 =>
  try simp only [Act.put, List.setIfInBounds_toArray, List.set_cons_zero, List.set_cons_succ]
  refine wpAnyK_take2 (i := 8) (v := ?v42) [10] rfl (by kernel_rfl) (by kernel_rfl) (by kernel_rfl) (by kernel_rfl) (fun _ _ _ h => h) (Or.inl ⟨by rfl, ?hy42⟩) (by assumption) ?rest42
  case hy42 => (intro w hSw; (try dsimp only at hSw); go_simp; try (with_reducible rfl))
  case rest42 =>
  try simp only [Act.put, List.setIfInBounds_toArray, List.set_cons_zero, List.set_cons_succ]
  refine wpAnyK_take2 (i := 9) (v := ?v43) [10] rfl (by kernel_rfl) (by kernel_rfl) (by kernel_rfl) (by kernel_rfl) (fun _ _ _ h => h) (Or.inl ⟨by rfl, ?hy43⟩) (by assumption) ?rest43
  case hy43 => (intro w hSw; (try dsimp only at hSw); go_simp; try (with_reducible rfl))
  case rest43 =>
  try simp only [Act.put, List.setIfInBounds_toArray, List.set_cons_zero, List.set_cons_succ]
  refine wpAnyK_take2 (i := 10) (v := (.int .i64 ((s.col : Int) + (b : Int)))) [] rfl (by kernel_rfl) (by kernel_rfl) (by kernel_rfl) (by kernel_rfl) (fun _ _ _ h => h) (Or.inl ⟨by rfl, ?hy44⟩) (by assumption) ?rest44
  case hy44 => (intro w hSw; (try dsimp only at hSw); go_simp; first | done | (rw [IntKind.wrap_i64]; omega))
  case rest44 =>
  try simp only [Act.put, List.setIfInBounds_toArray, List.set_cons_zero, List.set_cons_succ]
  refine wpAnyK_ready (rs := [11]) (by kernel_rfl) (by simp) ?_
  refine AllReadyK.cons rfl (fun K hK => ?_) AllReadyK.nil
  go_simp
  go_at_call 32
  with_reducible refine XT.out.mono ?_
  rintro _ wp ⟨rfl, ht, ho⟩
  have HT3 := Hd.mk ht
  have HO3 := Hd.mk (HOe.out.trans ho (fun _ _ h => h))
  clear ht ho hHd XT
  go_simp
  refine hK.out _ _ (.inl (by kernel_rfl)) ?_
  clear hK K
  try simp only [Act.put, List.setIfInBounds_toArray, List.set_cons_zero, List.set_cons_succ]
  refine wpAnyK_done (by kernel_rfl) ?_ _
  refine hKQ _ _ ?_
  go_wp2_with fail
  go_end0
  exact ⟨rfl, HT3.out, HO3.out⟩
set_option maxRecDepth 100000 in
set_option maxHeartbeats 4000000 in
theorem ends_G {P : Nat → Prop} {w : World} {T M : Nat} {s : Tm} (h : TermAt P w T s) (hok : OKT M s) (hP : ∀ k, w.heap.size ≤ k → P k) (hT : TabsT w) (q : ByteArray) (hq : q.size ≤ 1000) (hn : (numberP q.data.toList).2 = true) :
    Calls Tryz.prog 40 #[.pointer (some ⟨T, 0, none⟩), .string q, .int .u8 71] w fun e w' => e = .returned (.tuple #[]) ∧ TermAt P w' T (s.ends q.data.toList 71) ∧ Only P w w' := by
  have XN := Hd.mk (number_calls q hq w hT)
  have HK := Hd.mk hok
  have HP := Hd.mk hP
  have hlt := numberP_lt q.data.toList
  obtain ⟨n, hnv⟩ : ∃ n, (numberP q.data.toList).1 = n := ⟨_, rfl⟩
  rw [hn, hnv] at XN
  rw [hnv] at hlt
  obtain ⟨b, hbv⟩ : ∃ b, max n 1 = b := ⟨_, rfl⟩
  have hb1 : max (n : Int) 1 = (b : Int) := by omega
  have hb2 : (b : Int) ≤ 1000 := by omega
  have hb3 : (1 : Int) ≤ (b : Int) := by omega
  have HS : Hd (s.ends q.data.toList 71 = s.to_ (s.row : Int) ((b : Int) - 1)) := ⟨by unfold Tm.ends; rw [if_neg (by decide), if_neg (by rw [hn]; simp)]; dsimp only; rw [hnv]; rw [if_neg (by decide), if_neg (by decide), if_neg (by decide), if_neg (by decide), if_pos rfl, hbv]⟩
  rw [HS.out]
  have hr1 : (s.row : Int) ≤ 60 := by have := hok.row; have := hok.r2; omega
  have hr0 : (0 : Int) ≤ (s.row : Int) := Int.natCast_nonneg _
  have hc1 : (s.col : Int) ≤ 120 := by have := hok.col; have := hok.c2; omega
  have hc0 : (0 : Int) ≤ (s.col : Int) := Int.natCast_nonneg _
  have XT := Hd.mk (fun w1 (hb : Below w.heap.size w w1) => to_calls (h.below hb) ⟨hok.r1, hok.r2, hok.c1, hok.c2⟩ (s.row : Int) ((b : Int) - 1))
  clear hok hP hT hn hnv hbv
  go_enter Tryz.func40, Tryz.ntmps40
  go_wp2_with fail
  go_at_call 49
  with_reducible refine XN.out.mono ?_
  rintro _ w1 ⟨rfl, hb⟩
  have HO := Hd.mk (Only.of_below (F := P) hb)
  have H1 := Hd.mk (h.below hb)
  have HB := Hd.mk hb
  clear hb XN h
  have XT2 := Hd.mk (XT.out _ HB.out)
  have t4 : w1.cell? ⟨T, 4, none⟩ = some (.int .i64 (s.row : Int)) := by obtain ⟨lv9, gv9, bv9, L9, G9, h9⟩ := H1.out; exact h9.all.1.2.2.2.2.1
  clear XT
  go_wp2_with fail
  go_at_call 32
  with_reducible refine XT2.out.mono ?_
  rintro _ w2 ⟨rfl, ht, ho⟩
  have HT3 := Hd.mk ht
  have HO3 := Hd.mk (HO.out.trans ho (fun _ _ h => h))
  clear ht ho XT2
  go_wp2_with fail
  go_end0
  exact ⟨rfl, HT3.out, HO3.out⟩
set_option maxRecDepth 100000 in
set_option maxHeartbeats 4000000 in
theorem ends_J_no {P : Nat → Prop} {w : World} {T M : Nat} {s : Tm} (h : TermAt P w T s) (hok : OKT M s) (hP : ∀ k, w.heap.size ≤ k → P k) (hT : TabsT w) (q : ByteArray) (hq : q.size ≤ 1000) (hn : (numberP q.data.toList).2 = true) (h0 : (numberP q.data.toList).1 ≠ 0) :
    Calls Tryz.prog 40 #[.pointer (some ⟨T, 0, none⟩), .string q, .int .u8 74] w fun e w' => e = .returned (.tuple #[]) ∧ TermAt P w' T (s.ends q.data.toList 74) ∧ Only P w w' := by
  have XN := Hd.mk (number_calls q hq w hT)
  have HK := Hd.mk hok
  have HP := Hd.mk hP
  have hlt := numberP_lt q.data.toList
  obtain ⟨n, hnv⟩ : ∃ n, (numberP q.data.toList).1 = n := ⟨_, rfl⟩
  rw [hn, hnv] at XN
  rw [hnv] at hlt
  rw [hnv] at h0
  have HS : Hd (s.ends q.data.toList 74 = s) := ⟨by unfold Tm.ends; rw [if_neg (by decide), if_neg (by rw [hn]; simp)]; dsimp only; rw [hnv]; rw [if_neg (by decide), if_neg (by decide), if_neg (by decide), if_neg (by decide), if_neg (by decide), if_pos rfl]; rw [if_neg h0]⟩
  rw [HS.out]
  have z1 : ((n : Int) == 0) = false := by simp; omega
  have z2 : decide ((n : Int) = 0) = false := by simp; omega
  have z3 : decide (n = 0) = false := by simp; omega
  clear hok hP hT hn hnv
  go_enter Tryz.func40, Tryz.ntmps40
  go_wp2_with fail
  go_at_call 49
  with_reducible refine XN.out.mono ?_
  rintro _ w1 ⟨rfl, hb⟩
  have HO := Hd.mk (Only.of_below (F := P) hb)
  have H1 := Hd.mk (h.below hb)
  have HB := Hd.mk hb
  clear hb XN h
  go_wp2_with fail
  go_end0
  exact ⟨rfl, H1.out, HO.out⟩
set_option maxRecDepth 100000 in
set_option maxHeartbeats 4000000 in
theorem ends_K_no {P : Nat → Prop} {w : World} {T M : Nat} {s : Tm} (h : TermAt P w T s) (hok : OKT M s) (hP : ∀ k, w.heap.size ≤ k → P k) (hT : TabsT w) (q : ByteArray) (hq : q.size ≤ 1000) (hn : (numberP q.data.toList).2 = true) (h0 : (numberP q.data.toList).1 ≠ 0) :
    Calls Tryz.prog 40 #[.pointer (some ⟨T, 0, none⟩), .string q, .int .u8 75] w fun e w' => e = .returned (.tuple #[]) ∧ TermAt P w' T (s.ends q.data.toList 75) ∧ Only P w w' := by
  have XN := Hd.mk (number_calls q hq w hT)
  have HK := Hd.mk hok
  have HP := Hd.mk hP
  have hlt := numberP_lt q.data.toList
  obtain ⟨n, hnv⟩ : ∃ n, (numberP q.data.toList).1 = n := ⟨_, rfl⟩
  rw [hn, hnv] at XN
  rw [hnv] at hlt
  rw [hnv] at h0
  have HS : Hd (s.ends q.data.toList 75 = s) := ⟨by unfold Tm.ends; rw [if_neg (by decide), if_neg (by rw [hn]; simp)]; dsimp only; rw [hnv]; rw [if_neg (by decide), if_neg (by decide), if_neg (by decide), if_neg (by decide), if_neg (by decide), if_neg (by decide), if_pos rfl]; rw [if_neg h0]⟩
  rw [HS.out]
  have z1 : ((n : Int) == 0) = false := by simp; omega
  have z2 : decide ((n : Int) = 0) = false := by simp; omega
  have z3 : decide (n = 0) = false := by simp; omega
  clear hok hP hT hn hnv
  go_enter Tryz.func40, Tryz.ntmps40
  go_wp2_with fail
  go_at_call 49
  with_reducible refine XN.out.mono ?_
  rintro _ w1 ⟨rfl, hb⟩
  have HO := Hd.mk (Only.of_below (F := P) hb)
  have H1 := Hd.mk (h.below hb)
  have HB := Hd.mk hb
  clear hb XN h
  go_wp2_with fail
  go_end0
  exact ⟨rfl, H1.out, HO.out⟩
set_option maxRecDepth 100000 in
set_option maxHeartbeats 4000000 in
theorem ends_K {P : Nat → Prop} {w : World} {T M : Nat} {s : Tm} (h : TermAt P w T s) (hok : OKT M s) (hP : ∀ k, w.heap.size ≤ k → P k) (hT : TabsT w) (q : ByteArray) (hq : q.size ≤ 1000) (hn : (numberP q.data.toList).2 = true) (h0 : (numberP q.data.toList).1 = 0) :
    Calls Tryz.prog 40 #[.pointer (some ⟨T, 0, none⟩), .string q, .int .u8 75] w fun e w' => e = .returned (.tuple #[]) ∧ TermAt P w' T (s.ends q.data.toList 75) ∧ Only P w w' := by
  have XN := Hd.mk (number_calls q hq w hT)
  have HK := Hd.mk hok
  have HP := Hd.mk hP
  have hlt := numberP_lt q.data.toList
  rw [hn, h0] at XN
  have HS : Hd (s.ends q.data.toList 75 = s.erase s.row s.col) := ⟨by unfold Tm.ends; rw [if_neg (by decide), if_neg (by rw [hn]; simp)]; dsimp only; rw [h0]; rw [if_neg (by decide), if_neg (by decide), if_neg (by decide), if_neg (by decide), if_neg (by decide), if_neg (by decide), if_pos rfl]; rw [if_pos rfl]⟩
  rw [HS.out]
  clear hok hP hT hn h0 hlt
  go_enter Tryz.func40, Tryz.ntmps40
  go_wp2_with fail
  go_at_call 49
  with_reducible refine XN.out.mono ?_
  rintro _ w1 ⟨rfl, hb⟩
  have HO := Hd.mk (Only.of_below (F := P) hb)
  have H1 := Hd.mk (h.below hb)
  have HB := Hd.mk hb
  clear hb XN h
  go_upto_region 26 with fail
  rename_i KQ hKQ
  refine regionK (fun w' : World => w'.cell? ⟨T, 4, none⟩ = some (.int .i64 (s.row : Int)) ∧ w'.cell? ⟨T, 5, none⟩ = some (.int .i64 (s.col : Int))) 9 (by kernel_rfl) (fun wd hb => ?_)
  have HTe := Hd.mk (H1.out.below hb)
  have HOe := Hd.mk (HO.out.below hb)
  clear hb H1 HO
  obtain ⟨lv9, gv9, bv9, L9, G9, h9⟩ := HTe.out
  have hHd : (fun w' : World => w'.cell? ⟨T, 4, none⟩ = some (.int .i64 (s.row : Int)) ∧ w'.cell? ⟨T, 5, none⟩ = some (.int .i64 (s.col : Int))) wd := ⟨h9.all.1.2.2.2.2.1, h9.all.1.2.2.2.2.2.1⟩
  clear h9
  have XT := Hd.mk (erase_calls HTe.out HK.out (fun k hk => HP.out k (Nat.le_trans HOe.out.size hk)) HK.out.row (k := s.col) (Nat.le_of_lt HK.out.col))
  refine wpAnyK_take2 (i := 0) (v := ?v45) [] rfl (by kernel_rfl) (by kernel_rfl) (by kernel_rfl) (by kernel_rfl) (fun _ _ _ h => h) (Or.inl ⟨by rfl, ?hy45⟩) (by assumption) ?rest45
  case hy45 => (intro w hSw; (try dsimp only at hSw); go_simp; try (with_reducible rfl))
  case rest45 =>
  try simp only [Act.put, List.setIfInBounds_toArray, List.set_cons_zero, List.set_cons_succ]
  refine wpAnyK_take2 (i := 1) (v := ?v46) [4, 3, 2] rfl (by kernel_rfl) (by kernel_rfl) (by kernel_rfl) (by kernel_rfl) (fun _ _ _ h => h) (Or.inl ⟨by rfl, ?hy46⟩) (by assumption) ?rest46
  case hy46 => (intro w hSw; (try dsimp only at hSw); go_simp; try (with_reducible rfl))
  case rest46 =>
  try simp only [Act.put, List.setIfInBounds_toArray, List.set_cons_zero, List.set_cons_succ]
  refine wpAnyK_take2 (i := 2) (v := ?v47) [4, 3] rfl (by kernel_rfl) (by kernel_rfl) (by kernel_rfl) (by kernel_rfl) (fun _ _ _ h => h) (Or.inl ⟨by rfl, ?hy47⟩) (by assumption) ?rest47
  case hy47 => (intro w hSw; (try dsimp only at hSw); go_simp; try (with_reducible rfl))
  case rest47 =>
  try simp only [Act.put, List.setIfInBounds_toArray, List.set_cons_zero, List.set_cons_succ]
  refine wpAnyK_take2 (i := 3) (v := ?v48) [4] rfl (by kernel_rfl) (by kernel_rfl) (by kernel_rfl) (by kernel_rfl) (fun _ _ _ h => h) (Or.inl ⟨by rfl, ?hy48⟩) (by assumption) ?rest48
  case hy48 => (intro w hSw; (try dsimp only at hSw); go_simp; try (with_reducible rfl))
  case rest48 =>
  try simp only [Act.put, List.setIfInBounds_toArray, List.set_cons_zero, List.set_cons_succ]
  refine wpAnyK_take2 (i := 4) (v := ?v49) [] rfl (by kernel_rfl) (by kernel_rfl) (by kernel_rfl) (by kernel_rfl) (fun _ _ _ h => h) (Or.inl ⟨by rfl, ?hy49⟩) (by assumption) ?rest49
  case hy49 => (intro w hSw; (try dsimp only at hSw); go_simp; try (with_reducible rfl))
  case rest49 =>
  try simp only [Act.put, List.setIfInBounds_toArray, List.set_cons_zero, List.set_cons_succ]
  refine wpAnyK_take2 (i := 5) (v := ?v50) [8, 7, 6] rfl (by kernel_rfl) (by kernel_rfl) (by kernel_rfl) (by kernel_rfl) (fun _ _ _ h => h) (Or.inl ⟨by rfl, ?hy50⟩) (by assumption) ?rest50
  case hy50 => (intro w hSw; (try dsimp only at hSw); go_simp; try (with_reducible rfl))
  case rest50 =>
  try simp only [Act.put, List.setIfInBounds_toArray, List.set_cons_zero, List.set_cons_succ]
  refine wpAnyK_take2 (i := 6) (v := ?v51) [8, 7] rfl (by kernel_rfl) (by kernel_rfl) (by kernel_rfl) (by kernel_rfl) (fun _ _ _ h => h) (Or.inl ⟨by rfl, ?hy51⟩) (by assumption) ?rest51
  case hy51 => (intro w hSw; (try dsimp only at hSw); go_simp; try (with_reducible rfl))
  case rest51 =>
  try simp only [Act.put, List.setIfInBounds_toArray, List.set_cons_zero, List.set_cons_succ]
  refine wpAnyK_take2 (i := 7) (v := ?v52) [8] rfl (by kernel_rfl) (by kernel_rfl) (by kernel_rfl) (by kernel_rfl) (fun _ _ _ h => h) (Or.inl ⟨by rfl, ?hy52⟩) (by assumption) ?rest52
  case hy52 => (intro w hSw; (try dsimp only at hSw); go_simp; try (with_reducible rfl))
  case rest52 =>
  try simp only [Act.put, List.setIfInBounds_toArray, List.set_cons_zero, List.set_cons_succ]
  refine wpAnyK_take2 (i := 8) (v := ?v53) [] rfl (by kernel_rfl) (by kernel_rfl) (by kernel_rfl) (by kernel_rfl) (fun _ _ _ h => h) (Or.inl ⟨by rfl, ?hy53⟩) (by assumption) ?rest53
  case hy53 => (intro w hSw; (try dsimp only at hSw); go_simp; try (with_reducible rfl))
  case rest53 =>
  try simp only [Act.put, List.setIfInBounds_toArray, List.set_cons_zero, List.set_cons_succ]
  refine wpAnyK_ready (rs := [9]) (by kernel_rfl) (by simp) ?_
  refine AllReadyK.cons rfl (fun K hK => ?_) AllReadyK.nil
  go_simp
  go_at_call 51
  with_reducible refine XT.out.mono ?_
  rintro _ wp ⟨rfl, ht, ho⟩
  have HT3 := Hd.mk ht
  have HO3 := Hd.mk (HOe.out.trans ho (fun _ _ h => h))
  clear ht ho hHd XT
  go_simp
  refine hK.out _ _ (.inl (by kernel_rfl)) ?_
  clear hK K
  try simp only [Act.put, List.setIfInBounds_toArray, List.set_cons_zero, List.set_cons_succ]
  refine wpAnyK_done (by kernel_rfl) ?_ _
  refine hKQ _ _ ?_
  go_wp2_with fail
  go_end0
  exact ⟨rfl, HT3.out, HO3.out⟩
theorem eraseRest_none (k n : Nat) (s : Tm) (h : n ≤ k) : eraseRest (n - k) k s = s := by
  rw [show n - k = 0 by omega]
  rfl
theorem eraseRest_step (k n : Nat) (s : Tm) (h : k < n) : eraseRest (n - k) k s = eraseRest (n - (k + 1)) (k + 1) (s.erase k 0) := by
  rw [show n - k = (n - (k + 1)) + 1 by omega]
  rfl
theorem erase_same (s : Tm) (i k : Nat) : (s.erase i k).l.length = s.l.length ∧ (s.erase i k).cols = s.cols ∧ (s.erase i k).row = s.row := by
  refine ⟨?_, rfl, rfl⟩
  unfold Tm.erase Tm.onRow
  exact List.length_modify ..
set_option maxRecDepth 100000 in
set_option maxHeartbeats 4000000 in
theorem ends_J {P : Nat → Prop} {w : World} {T M : Nat} {s : Tm} (h : TermAt P w T s) (hok : OKT M s) (hP : ∀ k, w.heap.size ≤ k → P k) (hT : TabsT w) (q : ByteArray) (hq : q.size ≤ 1000) (hn : (numberP q.data.toList).2 = true) (h0 : (numberP q.data.toList).1 = 0) :
    Calls Tryz.prog 40 #[.pointer (some ⟨T, 0, none⟩), .string q, .int .u8 74] w fun e w' => e = .returned (.tuple #[]) ∧ TermAt P w' T (s.ends q.data.toList 74) ∧ Only P w w' := by
  have XN := Hd.mk (number_calls q hq w hT)
  have HK := Hd.mk hok
  have HP := Hd.mk hP
  have hlt := numberP_lt q.data.toList
  rw [hn, h0] at XN
  obtain ⟨R, hR⟩ : ∃ R, eraseRest (s.l.length - (s.row + 1)) (s.row + 1) (s.erase s.row s.col) = R := ⟨_, rfl⟩
  have HS : Hd (s.ends q.data.toList 74 = R) := ⟨by unfold Tm.ends; rw [if_neg (by decide), if_neg (by rw [hn]; simp)]; dsimp only; rw [h0]; rw [if_neg (by decide), if_neg (by decide), if_neg (by decide), if_neg (by decide), if_neg (by decide), if_pos rfl]; rw [if_pos rfl, hR]⟩
  rw [HS.out]
  have HR := Hd.mk hR
  have HLN : Hd (s.l.length ≤ 60 ∧ s.row < s.l.length) := ⟨hok.r2, hok.row⟩
  have hr1 : (s.row : Int) ≤ 60 := by have := hok.row; have := hok.r2; omega
  have hr0 : (0 : Int) ≤ (s.row : Int) := Int.natCast_nonneg _
  clear hok hP hT hn h0 hlt hR
  go_enter Tryz.func40, Tryz.ntmps40
  go_wp2_with fail
  go_at_call 49
  with_reducible refine XN.out.mono ?_
  rintro _ w1 ⟨rfl, hb⟩
  have HO := Hd.mk (Only.of_below (F := P) hb)
  have H1 := Hd.mk (h.below hb)
  have HB := Hd.mk hb
  clear hb XN h
  go_upto_region 20 with fail
  rename_i KQ hKQ
  refine regionK (fun w' : World => w'.cell? ⟨T, 4, none⟩ = some (.int .i64 (s.row : Int)) ∧ w'.cell? ⟨T, 5, none⟩ = some (.int .i64 (s.col : Int))) 9 (by kernel_rfl) (fun wd hb => ?_)
  have HTe := Hd.mk (H1.out.below hb)
  have HOe := Hd.mk (HO.out.below hb)
  clear hb H1 HO
  obtain ⟨lv9, gv9, bv9, L9, G9, h9⟩ := HTe.out
  have hHd : (fun w' : World => w'.cell? ⟨T, 4, none⟩ = some (.int .i64 (s.row : Int)) ∧ w'.cell? ⟨T, 5, none⟩ = some (.int .i64 (s.col : Int))) wd := ⟨h9.all.1.2.2.2.2.1, h9.all.1.2.2.2.2.2.1⟩
  clear h9
  have XT := Hd.mk (erase_calls HTe.out HK.out (fun k hk => HP.out k (Nat.le_trans HOe.out.size hk)) HK.out.row (k := s.col) (Nat.le_of_lt HK.out.col))
  refine wpAnyK_take2 (i := 0) (v := ?v54) [] rfl (by kernel_rfl) (by kernel_rfl) (by kernel_rfl) (by kernel_rfl) (fun _ _ _ h => h) (Or.inl ⟨by rfl, ?hy54⟩) (by assumption) ?rest54
  case hy54 => (intro w hSw; (try dsimp only at hSw); go_simp; try (with_reducible rfl))
  case rest54 =>
  try simp only [Act.put, List.setIfInBounds_toArray, List.set_cons_zero, List.set_cons_succ]
  refine wpAnyK_take2 (i := 1) (v := ?v55) [4, 3, 2] rfl (by kernel_rfl) (by kernel_rfl) (by kernel_rfl) (by kernel_rfl) (fun _ _ _ h => h) (Or.inl ⟨by rfl, ?hy55⟩) (by assumption) ?rest55
  case hy55 => (intro w hSw; (try dsimp only at hSw); go_simp; try (with_reducible rfl))
  case rest55 =>
  try simp only [Act.put, List.setIfInBounds_toArray, List.set_cons_zero, List.set_cons_succ]
  refine wpAnyK_take2 (i := 2) (v := ?v56) [4, 3] rfl (by kernel_rfl) (by kernel_rfl) (by kernel_rfl) (by kernel_rfl) (fun _ _ _ h => h) (Or.inl ⟨by rfl, ?hy56⟩) (by assumption) ?rest56
  case hy56 => (intro w hSw; (try dsimp only at hSw); go_simp; try (with_reducible rfl))
  case rest56 =>
  try simp only [Act.put, List.setIfInBounds_toArray, List.set_cons_zero, List.set_cons_succ]
  refine wpAnyK_take2 (i := 3) (v := ?v57) [4] rfl (by kernel_rfl) (by kernel_rfl) (by kernel_rfl) (by kernel_rfl) (fun _ _ _ h => h) (Or.inl ⟨by rfl, ?hy57⟩) (by assumption) ?rest57
  case hy57 => (intro w hSw; (try dsimp only at hSw); go_simp; try (with_reducible rfl))
  case rest57 =>
  try simp only [Act.put, List.setIfInBounds_toArray, List.set_cons_zero, List.set_cons_succ]
  refine wpAnyK_take2 (i := 4) (v := ?v58) [] rfl (by kernel_rfl) (by kernel_rfl) (by kernel_rfl) (by kernel_rfl) (fun _ _ _ h => h) (Or.inl ⟨by rfl, ?hy58⟩) (by assumption) ?rest58
  case hy58 => (intro w hSw; (try dsimp only at hSw); go_simp; try (with_reducible rfl))
  case rest58 =>
  try simp only [Act.put, List.setIfInBounds_toArray, List.set_cons_zero, List.set_cons_succ]
  refine wpAnyK_take2 (i := 5) (v := ?v59) [8, 7, 6] rfl (by kernel_rfl) (by kernel_rfl) (by kernel_rfl) (by kernel_rfl) (fun _ _ _ h => h) (Or.inl ⟨by rfl, ?hy59⟩) (by assumption) ?rest59
  case hy59 => (intro w hSw; (try dsimp only at hSw); go_simp; try (with_reducible rfl))
  case rest59 =>
  try simp only [Act.put, List.setIfInBounds_toArray, List.set_cons_zero, List.set_cons_succ]
  refine wpAnyK_take2 (i := 6) (v := ?v60) [8, 7] rfl (by kernel_rfl) (by kernel_rfl) (by kernel_rfl) (by kernel_rfl) (fun _ _ _ h => h) (Or.inl ⟨by rfl, ?hy60⟩) (by assumption) ?rest60
  case hy60 => (intro w hSw; (try dsimp only at hSw); go_simp; try (with_reducible rfl))
  case rest60 =>
  try simp only [Act.put, List.setIfInBounds_toArray, List.set_cons_zero, List.set_cons_succ]
  refine wpAnyK_take2 (i := 7) (v := ?v61) [8] rfl (by kernel_rfl) (by kernel_rfl) (by kernel_rfl) (by kernel_rfl) (fun _ _ _ h => h) (Or.inl ⟨by rfl, ?hy61⟩) (by assumption) ?rest61
  case hy61 => (intro w hSw; (try dsimp only at hSw); go_simp; try (with_reducible rfl))
  case rest61 =>
  try simp only [Act.put, List.setIfInBounds_toArray, List.set_cons_zero, List.set_cons_succ]
  refine wpAnyK_take2 (i := 8) (v := ?v62) [] rfl (by kernel_rfl) (by kernel_rfl) (by kernel_rfl) (by kernel_rfl) (fun _ _ _ h => h) (Or.inl ⟨by rfl, ?hy62⟩) (by assumption) ?rest62
  case hy62 => (intro w hSw; (try dsimp only at hSw); go_simp; try (with_reducible rfl))
  case rest62 =>
  try simp only [Act.put, List.setIfInBounds_toArray, List.set_cons_zero, List.set_cons_succ]
  refine wpAnyK_ready (rs := [9]) (by kernel_rfl) (by simp) ?_
  refine AllReadyK.cons rfl (fun K hK => ?_) AllReadyK.nil
  go_simp
  go_at_call 51
  with_reducible refine XT.out.mono ?_
  rintro _ wp ⟨rfl, ht, ho⟩
  have HT3 := Hd.mk ht
  have HO3 := Hd.mk (HOe.out.trans ho (fun _ _ h => h))
  clear ht ho hHd XT
  go_simp
  refine hK.out _ _ (.inl (by kernel_rfl)) ?_
  clear hK K
  try simp only [Act.put, List.setIfInBounds_toArray, List.set_cons_zero, List.set_cons_succ]
  refine wpAnyK_done (by kernel_rfl) ?_ _
  refine hKQ _ _ ?_
  have HK3 := Hd.mk (HK.out.erase s.row s.col (Nat.le_of_lt HK.out.col))
  have HE3 := Hd.mk (erase_same s s.row s.col)
  have t4 : wp.cell? ⟨T, 4, none⟩ = some (.int .i64 (s.row : Int)) := by obtain ⟨lv9, gv9, bv9, L9, G9, h9⟩ := HT3.out; have := h9.all.1.2.2.2.2.1; rwa [HE3.out.2.2] at this
  generalize s.erase s.row s.col = s2 at *
  go_wp2_with fail
  go_loopg [9] 60 (fun gk v9 wx => ∃ (j : Nat) (t : Tm), v9 = .int .i64 (j : Int) ∧ Hd (j ≤ 60 ∧ 60 ≤ j + gk) ∧ Hd (t.l.length = s.l.length) ∧ Hd (eraseRest (s.l.length - j) j t = R) ∧ Hd (OKT M t) ∧ Hd (TermAt P wx T t) ∧ Hd (Only P w wx))
  case atStart => exact ⟨s.row + 1, s2, by simp, ⟨by have := HLN.out; omega⟩, ⟨HE3.out.1⟩, HR, HK3, HT3, HO3⟩
  case round =>
    clear HR HK3 HT3 HO3 HE3 t4
    obtain ⟨j, t, rfl, HJ, HL, HR, HK3, HT3, HO3⟩ := hrel
    have t1 : ∃ A c, wr.cell? ⟨T, 1, none⟩ = some (.slice A s.l.length c) := by
      obtain ⟨lv9, gv9, bv9, L9, G9, h9⟩ := HT3.out
      have hlen := forall_len h9.fl
      obtain ⟨A, c, rfl, hcap⟩ := Kd.Q_slice h9.ql
      exact ⟨A, c, by have := h9.all.1.2.1; rwa [hlen, HL.out] at this⟩
    obtain ⟨A, c, t1⟩ := t1
    obtain ⟨n, hn⟩ : ∃ n, s.l.length = n := ⟨_, rfl⟩
    have HN := Hd.mk hn
    have hn60 : n ≤ 60 := by have := HLN.out; omega
    rw [hn] at t1
    clear hn
    have hj1 := HJ.out
    by_cases hlt : j < n
    · obtain ⟨d, rfl⟩ : ∃ d, gk = d + 1 := ⟨gk - 1, by omega⟩
      have XE := Hd.mk (erase_calls HT3.out HK3.out (fun k hk => HP.out k (Nat.le_trans HO3.out.size hk)) (i := j) (by rw [HL.out, HN.out]; exact hlt) (k := 0) (Nat.zero_le _))
      have HR2 : Hd (eraseRest (s.l.length - (j + 1)) (j + 1) (t.erase j 0) = R) := ⟨by rw [← eraseRest_step j _ t (by rw [HN.out]; exact hlt)]; exact HR.out⟩
      have HK4 := Hd.mk (HK3.out.erase j 0 (Nat.zero_le _))
      have HL2 : Hd ((t.erase j 0).l.length = s.l.length) := ⟨(erase_same t j 0).1.trans HL.out⟩
      rw [show ((0 : Nat) : Int) = 0 from rfl] at XE
      have l1 : decide ((j : Int) < (n : Int)) = true := decide_eq_true (by omega)
      have l2 : decide (j < n) = true := decide_eq_true hlt
      have l3 : (j : Int) < (n : Int) := by omega
      have l4 : (0 : Int) ≤ (j : Int) := by omega
      clear HR HK3 HT3 HL
      go_wp2_with fail
      go_at_call 51
      with_reducible refine XE.out.mono ?_
      rintro _ w2 ⟨rfl, ht, ho⟩
      have HT2 := Hd.mk ht
      have HO2 := Hd.mk (HO3.out.trans ho (fun _ _ h => h))
      clear ht ho XE HO3 t1
      go_wp2
      go_roundg d
      case measure => omega
      case rel => exact ⟨j + 1, _, by simp, ⟨by omega⟩, HL2, HR2, HK4, HT2, HO2⟩
    · have l1 : decide ((j : Int) < (n : Int)) = false := decide_eq_false (by omega)
      have l2 : decide (j < n) = false := decide_eq_false hlt
      have HE : Hd (t = R) := ⟨by rw [← HR.out, eraseRest_none]; rw [HN.out]; omega⟩
      clear HR
      go_wp2
      go_end0
      exact ⟨rfl, by rw [← HE.out]; exact HT3.out, HO3.out⟩
set_option maxRecDepth 100000 in
set_option maxHeartbeats 4000000 in
theorem ends_m {P : Nat → Prop} {w : World} {T M : Nat} {s : Tm} (h : TermAt P w T s) (hok : OKT M s) (hP : ∀ k, w.heap.size ≤ k → P k) (hT : TabsT w) (q : ByteArray) (hq : q.size ≤ 1000) (hn : (numberP q.data.toList).2 = true) :
    Calls Tryz.prog 40 #[.pointer (some ⟨T, 0, none⟩), .string q, .int .u8 109] w fun e w' => e = .returned (.tuple #[]) ∧ TermAt P w' T (s.ends q.data.toList 109) ∧ Only P w w' := by
  have XN := Hd.mk (number_calls q hq w hT)
  have HK := Hd.mk hok
  have HP := Hd.mk hP
  have hlt := numberP_lt q.data.toList
  obtain ⟨n, hnv⟩ : ∃ n, (numberP q.data.toList).1 = n := ⟨_, rfl⟩
  rw [hn, hnv] at XN
  rw [hnv] at hlt
  have HSM : Hd (s.ends q.data.toList 109 = if n = 0 ∨ n = 2 ∨ n = 22 then { s with dim := decide (n = 2) } else s) := ⟨by unfold Tm.ends; rw [if_neg (by decide), if_neg (by rw [hn]; simp)]; dsimp only; rw [hnv]; rw [if_neg (by decide), if_neg (by decide), if_neg (by decide), if_neg (by decide), if_neg (by decide), if_neg (by decide), if_neg (by decide), if_pos rfl]⟩
  clear hok hP hT hn hnv
  by_cases n0 : n = 0
  · subst n0
    have HS : Hd (s.ends q.data.toList 109 = { s with dim := false }) := ⟨by rw [HSM.out, if_pos (.inl rfl)]; rfl⟩
    rw [HS.out]
    go_enter Tryz.func40, Tryz.ntmps40
    go_wp2_with fail
    go_at_call 49
    with_reducible refine XN.out.mono ?_
    rintro _ w1 ⟨rfl, hb⟩
    have HO := Hd.mk (Only.of_below (F := P) hb)
    have H1 := Hd.mk (h.below hb)
    have HB := Hd.mk hb
    clear hb XN h
    obtain ⟨lv9, gv9, bv9, L9, G9, h9⟩ := H1.out
    have t7 := h9.all.1.2.2.2.2.2.2.2.1
    have tf := h9.all.2
    have H9 := Hd.mk h9
    clear h9 H1
    go_wp2_with fail
    go_end0
    exact ⟨rfl, (H9.out.dim_ false).at_, HO.out.setCell (p := ⟨T, 7, none⟩) (.inl H9.out.pt) _⟩
  by_cases n2 : n = 2
  · subst n2
    have HS : Hd (s.ends q.data.toList 109 = { s with dim := true }) := ⟨by rw [HSM.out, if_pos (.inr (.inl rfl))]; rfl⟩
    rw [HS.out]
    go_enter Tryz.func40, Tryz.ntmps40
    go_wp2_with fail
    go_at_call 49
    with_reducible refine XN.out.mono ?_
    rintro _ w1 ⟨rfl, hb⟩
    have HO := Hd.mk (Only.of_below (F := P) hb)
    have H1 := Hd.mk (h.below hb)
    have HB := Hd.mk hb
    clear hb XN h
    obtain ⟨lv9, gv9, bv9, L9, G9, h9⟩ := H1.out
    have t7 := h9.all.1.2.2.2.2.2.2.2.1
    have tf := h9.all.2
    have H9 := Hd.mk h9
    clear h9 H1
    go_wp2_with fail
    go_end0
    exact ⟨rfl, (H9.out.dim_ true).at_, HO.out.setCell (p := ⟨T, 7, none⟩) (.inl H9.out.pt) _⟩
  by_cases n22 : n = 22
  · subst n22
    have HS : Hd (s.ends q.data.toList 109 = { s with dim := false }) := ⟨by rw [HSM.out, if_pos (.inr (.inr rfl))]; rfl⟩
    rw [HS.out]
    go_enter Tryz.func40, Tryz.ntmps40
    go_wp2_with fail
    go_at_call 49
    with_reducible refine XN.out.mono ?_
    rintro _ w1 ⟨rfl, hb⟩
    have HO := Hd.mk (Only.of_below (F := P) hb)
    have H1 := Hd.mk (h.below hb)
    have HB := Hd.mk hb
    clear hb XN h
    obtain ⟨lv9, gv9, bv9, L9, G9, h9⟩ := H1.out
    have t7 := h9.all.1.2.2.2.2.2.2.2.1
    have tf := h9.all.2
    have H9 := Hd.mk h9
    clear h9 H1
    go_wp2_with fail
    go_end0
    exact ⟨rfl, (H9.out.dim_ false).at_, HO.out.setCell (p := ⟨T, 7, none⟩) (.inl H9.out.pt) _⟩
  have HS : Hd (s.ends q.data.toList 109 = s) := ⟨by rw [HSM.out, if_neg (by omega)]⟩
  rw [HS.out]
  have z0a : ((n : Int) == 0) = false := by simp; omega
  have z0b : decide ((n : Int) = 0) = false := by simp; omega
  have z0c : decide (n = 0) = false := by simp; omega
  have z2a : ((n : Int) == 2) = false := by simp; omega
  have z2b : decide ((n : Int) = 2) = false := by simp; omega
  have z2c : decide (n = 2) = false := by simp; omega
  have z22a : ((n : Int) == 22) = false := by simp; omega
  have z22b : decide ((n : Int) = 22) = false := by simp; omega
  have z22c : decide (n = 22) = false := by simp; omega
  go_enter Tryz.func40, Tryz.ntmps40
  go_wp2_with fail
  go_at_call 49
  with_reducible refine XN.out.mono ?_
  rintro _ w1 ⟨rfl, hb⟩
  have HO := Hd.mk (Only.of_below (F := P) hb)
  have H1 := Hd.mk (h.below hb)
  have HB := Hd.mk hb
  clear hb XN h
  go_wp2_with fail
  go_end0
  exact ⟨rfl, H1.out, HO.out⟩
theorem ends_calls {P : Nat → Prop} {w : World} {T M : Nat} {s : Tm} (h : TermAt P w T s) (hok : OKT M s) (hP : ∀ k, w.heap.size ≤ k → P k) (hT : TabsT w) (q : ByteArray) (hq : q.size ≤ 1000) (x : Nat) :
    Calls Tryz.prog 40 #[.pointer (some ⟨T, 0, none⟩), .string q, .int .u8 (x : Int)] w fun e w' => e = .returned (.tuple #[]) ∧ TermAt P w' T (s.ends q.data.toList x) ∧ Only P w w' := by
  by_cases h72 : x = 72
  · subst h72; exact ends_H h hok hP hT q hq
  cases hn : (numberP q.data.toList).2 with
  | false => exact ends_none h hok hP hT q hq x h72 hn
  | true =>
    by_cases h65 : x = 65
    · subst h65; exact ends_A h hok hP hT q hq hn
    by_cases h66 : x = 66
    · subst h66; exact ends_B h hok hP hT q hq hn
    by_cases h68 : x = 68
    · subst h68; exact ends_D h hok hP hT q hq hn
    by_cases h67 : x = 67
    · subst h67; exact ends_C h hok hP hT q hq hn
    by_cases h71 : x = 71
    · subst h71; exact ends_G h hok hP hT q hq hn
    by_cases h74 : x = 74
    · subst h74
      by_cases h0 : (numberP q.data.toList).1 = 0
      · exact ends_J h hok hP hT q hq hn h0
      · exact ends_J_no h hok hP hT q hq hn h0
    by_cases h75 : x = 75
    · subst h75
      by_cases h0 : (numberP q.data.toList).1 = 0
      · exact ends_K h hok hP hT q hq hn h0
      · exact ends_K_no h hok hP hT q hq hn h0
    by_cases h109 : x = 109
    · subst h109; exact ends_m h hok hP hT q hq hn
    exact ends_other h hok hP hT q hq x ⟨h72, h65, h66, h68, h67, h71, h74, h75, h109⟩ hn
end Go.Proofs.YtgifpkjcggnhgaaGreatDoorL

