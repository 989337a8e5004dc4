/- Parts of the proof of the law that the last file states; declarations that nothing mentions are left out by a program. No conditions. -/
import Derived.Test.YtledplnlcjfafaaDoorLOpenq
import Derived.Test.YtledplnlcjfafaaDoorLTermRq
import Derived.Test.YtledplnlcjfafaaDoorLPaTq
set_option linter.unusedVariables false
set_option linter.unusedSimpArgs false
section
namespace Go.Proofs.YtledplnlcjfafaaDoorL
open Go Go.RowKit Go.Proofs.YtledplnlcjfafaaDoorW.PrintWords Go.Proofs.YtledplnlcjfafaaDoor.K
def lenS (x : S27) : Nat := x.f1.f2.size + x.f1.f3.size + x.f1.f4.size + x.f1.f5.size
def lenSumS (l : List S27) : Nat := (l.map lenS).sum
def SizedS (x : S27) : Prop := x.f1.f2.size ≤ 140737488351232 ∧ x.f1.f3.size ≤ 140737488351232 ∧ x.f1.f4.size ≤ 140737488351232 ∧ x.f1.f5.size ≤ 140737488351232
theorem rd_st {l : List S27} {j : Nat} (h : j < l.length) : rd_T27 l (j : Int) = l[j] := by
  unfold rd_T27
  simp [h]
def FewS (l : List S27) : Prop := l.length ≤ 30 ∧ lenSumS l ≤ 3000
theorem lenSumS_take {l : List S27} {j : Nat} (h : j < l.length) : lenSumS (l.take (j + 1)) = lenSumS (l.take j) + lenS l[j] := by
  unfold lenSumS
  rw [List.take_add_one, List.getElem?_eq_getElem h, List.map_append, List.sum_append]
  simp
theorem lenSumS_mem : ∀ {l : List S27} {x : S27}, x ∈ l → lenS x ≤ lenSumS l
  | y :: l, x, h => by
    unfold lenSumS
    rw [List.map_cons, List.sum_cons]
    rcases List.mem_cons.1 h with rfl | h
    · omega
    · have h2 := lenSumS_mem h
      unfold lenSumS at h2
      omega
theorem wrap_small {a : Int} (h0 : 0 ≤ a) (h1 : a ≤ 9000000000000000000) : wrap64 a = a := by unfold wrap64; omega
theorem lenS_wrap (x : S27) (h : SizedS x) : wrap64 (wrap64 (wrap64 ((x.f1.f2.size : Int) + (x.f1.f3.size : Int)) + (x.f1.f4.size : Int)) + (x.f1.f5.size : Int)) = (lenS x : Int) := by
  obtain ⟨s1, s2, s3, s4⟩ := h
  rw [wrap_small (a := (x.f1.f2.size : Int) + (x.f1.f3.size : Int)) (by omega) (by omega), wrap_small (a := (x.f1.f2.size : Int) + (x.f1.f3.size : Int) + (x.f1.f4.size : Int)) (by omega) (by omega), wrap_small (by omega) (by omega)]
  unfold lenS
  omega
theorem few_loopS (l : List S27) (hl : l.length ≤ 4000000000000000000) (hs : ∀ x ∈ l, SizedS x) : ∀ (d j : Nat) (n : Int), j + d = l.length → (l.length ≤ 30 → n = (lenSumS (l.take j) : Int) ∧ n ≤ j * 1000000000000000) →
    ∃ r, souffleurlaw19_few.l0 (d + 1) l n l (l.length : Int) (j : Int) = some r ∧ (r = true → FewS l) ∧ (FewS l → r = true) := by
  intro d
  induction d with
  | zero =>
    intro j n hj hn
    have h1 : ¬ (j : Int) < (l.length : Int) := by omega
    unfold souffleurlaw19_few.l0
    rw [if_neg h1]
    by_cases h2 : (l.length : Int) ≤ 30
    · rw [if_pos h2]
      have h4 := (hn (by omega)).1
      rw [List.take_of_length_le (by omega)] at h4
      refine ⟨_, rfl, fun hr => ⟨by omega, ?_⟩, fun hr => decide_eq_true (by have := hr.2; omega)⟩
      have h3 : n ≤ 3000 := by simpa using hr
      omega
    · rw [if_neg h2]
      exact ⟨false, rfl, fun h => (by cases h), fun h => absurd h.1 (by omega)⟩
  | succ d ih =>
    intro j n hj hn
    have hlt : j < l.length := by omega
    have c1 : (j : Int) < (l.length : Int) := by omega
    have c2 : (0 : Int) ≤ (j : Int) := Int.natCast_nonneg _
    have e : wrap64 ((j : Int) + 1) = ((j + 1 : Nat) : Int) := by unfold wrap64; omega
    have hL := souffleurlaw19_few.l0.eq_2 l n l (l.length : Int) (j : Int) (d + 1)
    rw [if_pos c1, if_pos c2, if_pos c1, rd_st hlt, e] at hL
    rw [hL]
    clear hL
    obtain ⟨s1, s2, s3, s4⟩ := hs _ (List.getElem_mem hlt)
    refine ih (j + 1) _ (by omega) (fun h40 => ?_)
    obtain ⟨n1, n2⟩ := hn h40
    have hj40 : (j : Int) ≤ 30 := by omega
    have hex : (j : Int) * 1000000000000000 ≤ 30 * 1000000000000000 := Int.mul_le_mul_of_nonneg_right hj40 (by omega)
    have hb : lenS l[j] ≤ 1000000000000000 := by unfold lenS; omega
    have hn3 : 0 ≤ n := by omega
    have hk4 : n ≤ 30 * 1000000000000000 := by omega
    have he : ((j + 1 : Nat) : Int) * 1000000000000000 = (j : Int) * 1000000000000000 + 1000000000000000 := by omega
    have w3 := lenS_wrap l[j] ⟨s1, s2, s3, s4⟩
    rw [w3, lenSumS_take hlt]
    clear w3 s1 s2 s3 s4 ih hs
    generalize lenS l[j] = q at *
    generalize lenSumS (l.take j) = z at *
    rw [wrap_small (a := n + (q : Int)) (by omega) (by omega), n1]
    exact ⟨by omega, by omega⟩
theorem few_tellsS (l : List S27) (hl : l.length ≤ 4000000000000000000) (hs : ∀ x ∈ l, SizedS x) : ∃ k r, souffleurlaw19_few.f k l = some r ∧ (r = true → FewS l) ∧ (FewS l → r = true) := by
  obtain ⟨r, h1, h2⟩ := few_loopS l hl hs l.length 0 0 (by omega) (fun _ => ⟨by simp [lenSumS], by omega⟩)
  exact ⟨_, r, h1, h2⟩
theorem cutN_again (x : Int) (m : Nat) (h : 1 ≤ m) : cutN ((cutN x m : Nat) : Int) m = cutN x m := by unfold cutN; omega
set_option maxRecDepth 100000 in
set_option maxHeartbeats 4000000 in
theorem cut19_calls (a b : Int) (w : World) : Calls Tryd.prog 7 #[.agg #[.int .i64 a, .int .i64 b]] w fun e w' => e = .returned (.tuple #[.int .i64 ((cutN a 60 : Nat) : Int), .int .i64 ((cutN b 120 : Nat) : Int)]) ∧ Below w.heap.size w w' := by
  have HB := Hd.mk (Blk.new w 22 #[.int .i64 a, .int .i64 b])
  have ha : min (max a 1) 60 = ((cutN a 60 : Nat) : Int) := by unfold cutN; omega
  have hb' : min (max b 1) 120 = ((cutN b 120 : Nat) : Int) := by unfold cutN; omega
  generalize cutN a 60 = a' at *
  generalize cutN b 120 = b' at *
  go_enter Tryd.func7, Tryd.ntmps7
  go_upto_region 1 with fail
  rename_i KQ hKQ
  refine regionH (fun w' : World => Blk w' w.heap.size 22 #[.int .i64 a, .int .i64 b] ∧ Below w.heap.size w w') (by kernel_rfl) (fun wd hb => ?_)
  have hHd : (fun w' : World => Blk w' w.heap.size 22 #[.int .i64 a, .int .i64 b] ∧ Below w.heap.size w w') wd := ⟨HB.out.belowW hb, (((Below.refl _ w).alloc (Nat.le_refl _) _).trans (hb.mono (by simp)))⟩
  clear hb
  refine takeH (i := 0) (v := ?v1) rfl (by kernel_rfl) (by kernel_rfl) (by kernel_rfl) (fun _ _ _ h => h) (Or.inl ⟨by rfl, ?hy1⟩) (by assumption) ?rest1
  case hy1 => (intro w hSw; (try dsimp only at hSw); obtain ⟨x0, _⟩ := hSw; have e0 := x0.cell 0 rfl; have e1 := x0.cell 1 rfl; go_simp; first | done | (with_reducible rfl) | rfl)
  case rest1 =>
  try simp only [Act.put, List.setIfInBounds_toArray, List.set_cons_zero, List.set_cons_succ]
  refine takeH (i := 1) (v := ?v2) rfl (by kernel_rfl) (by kernel_rfl) (by kernel_rfl) (fun _ _ _ h => h) (Or.inl ⟨by rfl, ?hy2⟩) (by assumption) ?rest2
  case hy2 => (intro w hSw; (try dsimp only at hSw); obtain ⟨x0, _⟩ := hSw; have e0 := x0.cell 0 rfl; have e1 := x0.cell 1 rfl; go_simp; first | done | (with_reducible rfl) | rfl)
  case rest2 =>
  try simp only [Act.put, List.setIfInBounds_toArray, List.set_cons_zero, List.set_cons_succ]
  refine takeH (i := 2) (v := (.int .i64 (max a 1))) rfl (by kernel_rfl) (by kernel_rfl) (by kernel_rfl) (fun _ _ _ h => h) (Or.inl ⟨by rfl, ?hy3⟩) (by assumption) ?rest3
  case hy3 => (intro w hSw; (try dsimp only at hSw); obtain ⟨x0, _⟩ := hSw; have e0 := x0.cell 0 rfl; have e1 := x0.cell 1 rfl; go_simp; first | done | (with_reducible rfl) | rfl)
  case rest3 =>
  try simp only [Act.put, List.setIfInBounds_toArray, List.set_cons_zero, List.set_cons_succ]
  refine takeH (i := 3) (v := (.int .i64 (min (max a 1) 60))) rfl (by kernel_rfl) (by kernel_rfl) (by kernel_rfl) (fun _ _ _ h => h) (Or.inl ⟨by rfl, ?hy4⟩) (by assumption) ?rest4
  case hy4 => (intro w hSw; (try dsimp only at hSw); obtain ⟨x0, _⟩ := hSw; have e0 := x0.cell 0 rfl; have e1 := x0.cell 1 rfl; go_simp; first | done | (with_reducible rfl) | rfl)
  case rest4 =>
  try simp only [Act.put, List.setIfInBounds_toArray, List.set_cons_zero, List.set_cons_succ]
  refine takeH (i := 4) (v := ?v5) rfl (by kernel_rfl) (by kernel_rfl) (by kernel_rfl) (fun _ _ _ h => h) (Or.inl ⟨by rfl, ?hy5⟩) (by assumption) ?rest5
  case hy5 => (intro w hSw; (try dsimp only at hSw); obtain ⟨x0, _⟩ := hSw; have e0 := x0.cell 0 rfl; have e1 := x0.cell 1 rfl; go_simp; first | done | (with_reducible rfl) | rfl)
  case rest5 =>
  try simp only [Act.put, List.setIfInBounds_toArray, List.set_cons_zero, List.set_cons_succ]
  refine takeH (i := 5) (v := ?v6) rfl (by kernel_rfl) (by kernel_rfl) (by kernel_rfl) (fun _ _ _ h => h) (Or.inl ⟨by rfl, ?hy6⟩) (by assumption) ?rest6
  case hy6 => (intro w hSw; (try dsimp only at hSw); obtain ⟨x0, _⟩ := hSw; have e0 := x0.cell 0 rfl; have e1 := x0.cell 1 rfl; go_simp; first | done | (with_reducible rfl) | rfl)
  case rest6 =>
  try simp only [Act.put, List.setIfInBounds_toArray, List.set_cons_zero, List.set_cons_succ]
  refine takeH (i := 6) (v := (.int .i64 (max b 1))) rfl (by kernel_rfl) (by kernel_rfl) (by kernel_rfl) (fun _ _ _ h => h) (Or.inl ⟨by rfl, ?hy7⟩) (by assumption) ?rest7
  case hy7 => (intro w hSw; (try dsimp only at hSw); obtain ⟨x0, _⟩ := hSw; have e0 := x0.cell 0 rfl; have e1 := x0.cell 1 rfl; go_simp; first | done | (with_reducible rfl) | rfl)
  case rest7 =>
  try simp only [Act.put, List.setIfInBounds_toArray, List.set_cons_zero, List.set_cons_succ]
  refine takeH (i := 7) (v := (.int .i64 (min (max b 1) 120))) rfl (by kernel_rfl) (by kernel_rfl) (by kernel_rfl) (fun _ _ _ h => h) (Or.inl ⟨by rfl, ?hy8⟩) (by assumption) ?rest8
  case hy8 => (intro w hSw; (try dsimp only at hSw); obtain ⟨x0, _⟩ := hSw; have e0 := x0.cell 0 rfl; have e1 := x0.cell 1 rfl; go_simp; first | done | (with_reducible rfl) | rfl)
  case rest8 =>
  try simp only [Act.put, List.setIfInBounds_toArray, List.set_cons_zero, List.set_cons_succ]
  refine takeH (i := 8) (v := ?v9) rfl (by kernel_rfl) (by kernel_rfl) (by kernel_rfl) (fun _ _ _ h => h) (Or.inl ⟨by rfl, ?hy9⟩) (by assumption) ?rest9
  case hy9 => (intro w hSw; (try dsimp only at hSw); obtain ⟨x0, _⟩ := hSw; have e0 := x0.cell 0 rfl; have e1 := x0.cell 1 rfl; go_simp; first | done | (with_reducible rfl) | rfl)
  case rest9 =>
  try simp only [Act.put, List.setIfInBounds_toArray, List.set_cons_zero, List.set_cons_succ]
  refine takeH (i := 9) (v := ?v10) rfl (by kernel_rfl) (by kernel_rfl) (by kernel_rfl) (fun _ _ _ h => h) (Or.inl ⟨by rfl, ?hy10⟩) (by assumption) ?rest10
  case hy10 => (intro w hSw; (try dsimp only at hSw); obtain ⟨x0, _⟩ := hSw; have e0 := x0.cell 0 rfl; have e1 := x0.cell 1 rfl; go_simp; first | done | (with_reducible rfl) | rfl)
  case rest10 =>
  try simp only [Act.put, List.setIfInBounds_toArray, List.set_cons_zero, List.set_cons_succ]
  refine wpAnyH_done (by kernel_rfl) ?_ _
  refine hKQ _ _ ?_
  go_wp2
  go_ret2
  exact ⟨rfl, hHd.2⟩
end Go.Proofs.YtledplnlcjfafaaDoorL
end
section
namespace Go.Proofs.YtledplnlcjfafaaDoorL
open Go Go.RowKit Go.ChangeShapes Go.WideShapes Go.Deep Go.Proofs.YtledplnlcjfafaaDoorW.PrintWords Go.Proofs.YtledplnlcjfafaaDoor.K
def SizedV (x : S24) : Prop := x.f2.size ≤ 140737488351232 ∧ x.f3.size ≤ 140737488351232 ∧ x.f4.size ≤ 140737488351232 ∧ x.f5.size ≤ 140737488351232
theorem opensView : Opens Tryd.prog k24 SizedV 24 := by
  intro H enc w base spare held fuel cs x h hw
  obtain ⟨hl, hf⟩ := trod_cells Tryd.underlying24 (by kernel_rfl) (by kernel_rfl) h hw
  obtain ⟨n0, v0, y0, e0, h0, w0⟩ := hf 0 _ rfl
  obtain ⟨n1, v1, y1, e1, h1, w1⟩ := hf 1 _ rfl
  obtain ⟨n2, v2, y2, e2, h2, w2⟩ := hf 2 _ rfl
  obtain ⟨n3, v3, y3, e3, h3, w3⟩ := hf 3 _ rfl
  obtain ⟨n4, v4, y4, e4, h4, w4⟩ := hf 4 _ rfl
  obtain ⟨n5, v5, y5, e5, h5, w5⟩ := hf 5 _ rfl
  obtain ⟨n6, v6, y6, e6, h6, w6⟩ := hf 6 _ rfl
  obtain ⟨a0, g0, _⟩ := opens_int Tryd.underlying3 enc w base spare held _ _ _ h0 w0
  obtain ⟨a1, g1, _⟩ := opens_int Tryd.underlying3 enc w base spare held _ _ _ h1 w1
  obtain ⟨a2, g2, q2⟩ := opens_string Tryd.underlying9 enc w base spare held _ _ _ h2 w2
  obtain ⟨a3, g3, q3⟩ := opens_string Tryd.underlying9 enc w base spare held _ _ _ h3 w3
  obtain ⟨a4, g4, q4⟩ := opens_string Tryd.underlying9 enc w base spare held _ _ _ h4 w4
  obtain ⟨a5, g5, q5⟩ := opens_string Tryd.underlying9 enc w base spare held _ _ _ h5 w5
  obtain ⟨a6, g6, _⟩ := opens_int Tryd.underlying3 enc w base spare held _ _ _ h6 w6
  obtain rfl := int_of g0
  obtain rfl := int_of g1
  obtain rfl := string_of g2
  obtain rfl := string_of g3
  obtain rfl := string_of g4
  obtain rfl := string_of g5
  obtain rfl := int_of g6
  match cs, hl with
  | [c0, c1, c2, c3, c4, c5, c6], _ =>
    simp at e0 e1 e2 e3 e4 e5 e6
    subst e0 e1 e2 e3 e4 e5 e6
    exact ⟨⟨a0, a1, a2, a3, a4, a5, a6⟩, k24_mk w _, q2, q3, q4, q5⟩
end Go.Proofs.YtledplnlcjfafaaDoorL
end
