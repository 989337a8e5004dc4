/- Parts of the proof of the law that the last file states; declarations that nothing mentions are left out by a program. No conditions. -/
import Derived.Test.YtcpkoajnepijkaaDoesk
import Derived.Test.YtcpkoajnepijkaaQx1k
import Derived.Test.YtcpkoajnepijkaaLOpenk
namespace Go.Proofs.Ytcpkoajnepijkaa
set_option linter.unusedVariables false
set_option linter.unusedSimpArgs false
open Go.RowKit Go.Proofs.YtcpkoajnepijkaaL Go.Proofs.YtcpkoajnepijkaaW.PrintWords Go.Proofs.Ytcpkoajnepijkaa.Q
def szOf (x : S34) : Int := (x.f3.length : Int) + x.f5.length + x.f1.size + x.f2.size
def SizedS (x : S34) : Prop := x.f1.size ≤ 140737488351232 ∧ x.f2.size ≤ 140737488351232 ∧ x.f3.length ≤ 140737488351232 ∧ x.f5.length ≤ 140737488351232
theorem w64 {x : Int} (h : -9223372036854775808 ≤ x) (h2 : x ≤ 9223372036854775807) : wrap64 x = x := by
  unfold wrap64
  omega
theorem rd_T34_get {l : List S34} {j : Nat} (h : j < l.length) : rd_T34 l (j : Int) = l[j] := by
  unfold rd_T34
  simp [h]
def FewP (l : List S34) : Prop := l.length ≤ 80 ∧ ∀ x ∈ l, szOf x ≤ 8000
theorem few_loop (l : List S34) (hl : l.length ≤ 4000000000000000000) (hs : ∀ x ∈ l, SizedS x) : ∀ (d j : Nat) (n : Int), j + d = l.length → (l.length ≤ 80 → 0 ≤ n ∧ n ≤ j * 1000000000000000 ∧ ∀ i (hi : i < l.length), i < j → szOf l[i] ≤ n) →
    ∃ r, souffleurlaw10_few.l0 (d + 1) l n l (l.length : Int) (j : Int) = some r ∧ (r = true → FewP l) := by
  intro d
  induction d with
  | zero =>
    intro j n hj hn
    have h1 : ¬ (j : Int) < (l.length : Int) := by omega
    unfold souffleurlaw10_few.l0
    rw [if_neg h1]
    by_cases h2 : (l.length : Int) ≤ 80
    · rw [if_pos h2]
      refine ⟨_, rfl, fun hr => ⟨by omega, fun x hx => ?_⟩⟩
      obtain ⟨i, hi, rfl⟩ := List.mem_iff_getElem.1 hx
      have := (hn (by omega)).2.2 i hi (by omega)
      have h3 : n ≤ 8000 := by simpa using hr
      omega
    · rw [if_neg h2]
      exact ⟨false, rfl, fun h => by cases h⟩
  | succ d ih =>
    intro j n hj hn
    have hlt : j < l.length := by omega
    unfold souffleurlaw10_few.l0
    rw [if_pos (by omega), if_pos (by omega), if_pos (by omega), rd_T34_get hlt]
    have e : wrap64 ((j : Int) + 1) = ((j + 1 : Nat) : Int) := by unfold wrap64; omega
    rw [e]
    have hsz := hs _ (List.getElem_mem hlt)
    refine ih (j + 1) _ (by omega) (fun h80 => ?_)
    obtain ⟨n1, n2, n3⟩ := hn h80
    obtain ⟨s1, s2, s3, s4⟩ := hsz
    have hj80 : (j : Int) ≤ 80 := by omega
    have hex : (j : Int) * 1000000000000000 ≤ 80 * 1000000000000000 := Int.mul_le_mul_of_nonneg_right hj80 (by omega)
    have hw : wrap64 (n + (wrap64 ((wrap64 ((wrap64 (((l[j].f3).length : Int) + ((l[j].f5).length : Int))) + ((l[j].f1).size : Int))) + ((l[j].f2).size : Int)))) = n + szOf l[j] := by
      rw [w64 (x := ((l[j].f3).length : Int) + ((l[j].f5).length : Int)) (by omega) (by omega), w64 (x := ((l[j].f3).length : Int) + ((l[j].f5).length : Int) + ((l[j].f1).size : Int)) (by omega) (by omega), w64 (x := ((l[j].f3).length : Int) + ((l[j].f5).length : Int) + ((l[j].f1).size : Int) + ((l[j].f2).size : Int)) (by omega) (by omega), w64 (by omega) (by omega)]
      rfl
    rw [hw]
    have h0 : 0 ≤ szOf l[j] := by unfold szOf; omega
    have hm : szOf l[j] ≤ 1000000000000000 := by unfold szOf; omega
    have he : ((j + 1 : Nat) : Int) * 1000000000000000 = (j : Int) * 1000000000000000 + 1000000000000000 := by omega
    refine ⟨by omega, by omega, fun i hi hij => ?_⟩
    rcases Nat.lt_or_ge i j with h | h
    · have := n3 i hi h
      omega
    · obtain rfl : i = j := by omega
      omega
theorem few_tells (l : List S34) (hl : l.length ≤ 4000000000000000000) (hs : ∀ x ∈ l, SizedS x) : ∃ k r, souffleurlaw10_few.f k l = some r ∧ (r = true → FewP l) := by
  obtain ⟨r, h1, h2⟩ := few_loop l hl hs l.length 0 0 (by omega) (fun _ => ⟨by omega, by omega, fun i hi h => by omega⟩)
  exact ⟨_, r, h1, h2⟩
theorem opens34 : Opens Try.prog k34 SizedS 34 := by
  intro H enc w base spare held fuel cs x h hw
  obtain ⟨hl, hf⟩ := trod_cells Try.underlying34 (by kernel_rfl) (by kernel_rfl) h hw
  obtain ⟨n0, v0, y0, e0, h0, w0⟩ := hf 0 _ rfl
  obtain ⟨n1, v1, y1, e1, h1, w1⟩ := hf 1 _ rfl
  obtain ⟨n2, v2, y2, e2, h2, w2⟩ := hf 2 _ rfl
  obtain ⟨n3, v3, y3, e3, h3, w3⟩ := hf 3 _ rfl
  obtain ⟨n4, v4, y4, e4, h4, w4⟩ := hf 4 _ rfl
  obtain ⟨n5, v5, y5, e5, h5, w5⟩ := hf 5 _ rfl
  obtain ⟨a0, g0, _⟩ := opens_int Try.underlying3 enc w base spare held _ _ _ h0 w0
  obtain ⟨a1, g1, q1⟩ := opens_string Try.underlying9 enc w base spare held _ _ _ h1 w1
  obtain ⟨a2, g2, q2⟩ := opens_string Try.underlying9 enc w base spare held _ _ _ h2 w2
  obtain ⟨a3, g3, q3, _⟩ := opens_slice Try.underlying31 (by kernel_rfl) (opens_int Try.underlying5) enc w base spare held _ _ _ h3 w3
  obtain ⟨a4, g4, _⟩ := opens_int Try.underlying3 enc w base spare held _ _ _ h4 w4
  obtain ⟨a5, g5, q5, _⟩ := opens_slice Try.underlying32 (by kernel_rfl) (opens_bool Try.underlying4) enc w base spare held _ _ _ h5 w5
  obtain rfl := int_of g0
  obtain rfl := string_of g1
  obtain rfl := string_of g2
  obtain rfl := int_of g4
  obtain ⟨A3, c3, rfl, l3, C3⟩ := slice_read g3
  obtain ⟨A5, c5, rfl, l5, C5⟩ := slice_read g5
  rw [show Try.prog.bytesOf 5 = 1 from by kernel_rfl, Nat.mul_one] at q3
  rw [show Try.prog.bytesOf 4 = 1 from by kernel_rfl, Nat.mul_one] at q5
  match cs, hl with
  | [c0, c1, c2, c3', c4, c5'], _ =>
    simp at e0 e1 e2 e3 e4 e5
    subst e0 e1 e2 e3 e4 e5
    exact ⟨⟨a0, a1, a2, a3, a4, a5⟩, k34_mk w _ l3 C3 l5 C5, q1, q2, q3, q5⟩
theorem opens22 : Opens Try.prog (Kd.slice 34 k34) (fun xs => xs.length * Try.prog.bytesOf 34 ≤ reachBytes ∧ ∀ x ∈ xs, SizedS x) 22 :=
  opens_slice Try.underlying22 (by kernel_rfl) opens34
end Go.Proofs.Ytcpkoajnepijkaa

