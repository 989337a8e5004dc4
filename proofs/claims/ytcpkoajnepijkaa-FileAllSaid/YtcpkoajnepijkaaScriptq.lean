/- Parts of the proof of the law that the last file states; declarations that nothing mentions are left out by a program. No conditions. -/
import Derived.Test.YtcpkoajnepijkaaDoesq
import Derived.Test.YtcpkoajnepijkaaQx1q
import Derived.Test.YtcpkoajnepijkaaLOpenq
import Derived.Test.YtcpkoajnepijkaaNamesq
set_option linter.unusedVariables false
set_option linter.unusedSimpArgs false
section
namespace Go.Proofs.Ytcpkoajnepijkaa
open Go.RowKit Go.Proofs.YtcpkoajnepijkaaL Go.Proofs.YtcpkoajnepijkaaW.PrintWords Go.Proofs.Ytcpkoajnepijkaa.Q
def szOf (x : S34) : Int := (x.f3.length : Int) + x.f5.length + x.f1.size + x.f2.size
def SizedS (x : S34) : Prop := x.f1.size ≤ 140737488351232 ∧ x.f2.size ≤ 140737488351232 ∧ x.f3.length ≤ 140737488351232 ∧ x.f5.length ≤ 140737488351232
theorem w64 {x : Int} (h : -9223372036854775808 ≤ x) (h2 : x ≤ 9223372036854775807) : wrap64 x = x := by
  unfold wrap64
  omega
theorem rd_T34_get {l : List S34} {j : Nat} (h : j < l.length) : rd_T34 l (j : Int) = l[j] := by
  unfold rd_T34
  simp [h]
def FewP (l : List S34) : Prop := l.length ≤ 80 ∧ ∀ x ∈ l, szOf x ≤ 8000
theorem few_loop (l : List S34) (hl : l.length ≤ 4000000000000000000) (hs : ∀ x ∈ l, SizedS x) : ∀ (d j : Nat) (n : Int), j + d = l.length → (l.length ≤ 80 → 0 ≤ n ∧ n ≤ j * 1000000000000000 ∧ ∀ i (hi : i < l.length), i < j → szOf l[i] ≤ n) →
    ∃ r, souffleurlaw10_few.l0 (d + 1) l n l (l.length : Int) (j : Int) = some r ∧ (r = true → FewP l) := by
  intro d
  induction d with
  | zero =>
    intro j n hj hn
    have h1 : ¬ (j : Int) < (l.length : Int) := by omega
    unfold souffleurlaw10_few.l0
    rw [if_neg h1]
    by_cases h2 : (l.length : Int) ≤ 80
    · rw [if_pos h2]
      refine ⟨_, rfl, fun hr => ⟨by omega, fun x hx => ?_⟩⟩
      obtain ⟨i, hi, rfl⟩ := List.mem_iff_getElem.1 hx
      have := (hn (by omega)).2.2 i hi (by omega)
      have h3 : n ≤ 8000 := by simpa using hr
      omega
    · rw [if_neg h2]
      exact ⟨false, rfl, fun h => by cases h⟩
  | succ d ih =>
    intro j n hj hn
    have hlt : j < l.length := by omega
    unfold souffleurlaw10_few.l0
    rw [if_pos (by omega), if_pos (by omega), if_pos (by omega), rd_T34_get hlt]
    have e : wrap64 ((j : Int) + 1) = ((j + 1 : Nat) : Int) := by unfold wrap64; omega
    rw [e]
    have hsz := hs _ (List.getElem_mem hlt)
    refine ih (j + 1) _ (by omega) (fun h80 => ?_)
    obtain ⟨n1, n2, n3⟩ := hn h80
    obtain ⟨s1, s2, s3, s4⟩ := hsz
    have hj80 : (j : Int) ≤ 80 := by omega
    have hex : (j : Int) * 1000000000000000 ≤ 80 * 1000000000000000 := Int.mul_le_mul_of_nonneg_right hj80 (by omega)
    have hw : wrap64 (n + (wrap64 ((wrap64 ((wrap64 (((l[j].f3).length : Int) + ((l[j].f5).length : Int))) + ((l[j].f1).size : Int))) + ((l[j].f2).size : Int)))) = n + szOf l[j] := by
      rw [w64 (x := ((l[j].f3).length : Int) + ((l[j].f5).length : Int)) (by omega) (by omega), w64 (x := ((l[j].f3).length : Int) + ((l[j].f5).length : Int) + ((l[j].f1).size : Int)) (by omega) (by omega), w64 (x := ((l[j].f3).length : Int) + ((l[j].f5).length : Int) + ((l[j].f1).size : Int) + ((l[j].f2).size : Int)) (by omega) (by omega), w64 (by omega) (by omega)]
      rfl
    rw [hw]
    have h0 : 0 ≤ szOf l[j] := by unfold szOf; omega
    have hm : szOf l[j] ≤ 1000000000000000 := by unfold szOf; omega
    have he : ((j + 1 : Nat) : Int) * 1000000000000000 = (j : Int) * 1000000000000000 + 1000000000000000 := by omega
    refine ⟨by omega, by omega, fun i hi hij => ?_⟩
    rcases Nat.lt_or_ge i j with h | h
    · have := n3 i hi h
      omega
    · obtain rfl : i = j := by omega
      omega
theorem few_tells (l : List S34) (hl : l.length ≤ 4000000000000000000) (hs : ∀ x ∈ l, SizedS x) : ∃ k r, souffleurlaw10_few.f k l = some r ∧ (r = true → FewP l) := by
  obtain ⟨r, h1, h2⟩ := few_loop l hl hs l.length 0 0 (by omega) (fun _ => ⟨by omega, by omega, fun i hi h => by omega⟩)
  exact ⟨_, r, h1, h2⟩
end Go.Proofs.Ytcpkoajnepijkaa
end
section
namespace Go.Proofs.Ytcpkoajnepijkaa
open Go.RowKit Go.Proofs.YtcpkoajnepijkaaL Go.Proofs.YtcpkoajnepijkaaW.PrintWords Go.Proofs.Ytcpkoajnepijkaa.Q
def doP (S : PS) (x : S34) : Int × PS :=
  if x.f0 = 0 then writeP S x.f1 x.f3 else if x.f0 = 1 then syncP S x.f1 else if x.f0 = 2 then renameP S x.f1 x.f2 else if x.f0 = 3 then removeP S x.f1 else cutP S x.f1 x.f4
theorem does_do {base : Nat} {Lz : Nat → Prop} {w : World} {F : Nat} {fp : Nat → Prop} {S : PS} {k : Nat} (h : FSat base Lz w F fp S k) (hk : k ≤ 100000) (x : S34) (h0 : 0 ≤ x.f0) (h4 : x.f0 ≤ 4) {A3 A5 : Option Addr} {c3 c5 : Nat} (hb : RB base NoL w (.slice A3 x.f3.length c3) x.f3) (hbl : x.f3.length ≤ 65536) :
    Calls Try.prog 16 #[ptr F, .agg #[.int .i64 x.f0, .string x.f1, .string x.f2, .slice A3 x.f3.length c3, .int .i64 x.f4, .slice A5 x.f5.length c5]] w fun e w' => LeftD base Lz w F fp (k + 1) e w' (doP S x) := by
  obtain ⟨f0, f1, f2, f3, f4, f5⟩ := x
  simp only at h0 h4 hb hbl ⊢
  have hc : f0 = 0 ∨ f0 = 1 ∨ f0 = 2 ∨ f0 = 3 ∨ f0 = 4 := by omega
  rcases hc with rfl | rfl | rfl | rfl | rfl
  · exact does_write h hk hb hbl
  · exact does_sync h hk
  · exact does_rename h hk
  · exact does_remove h hk
  · exact does_cut h hk
theorem WellP.do_ {S : PS} (h : WellP S) (x : S34) : WellP (doP S x).2 := by
  unfold doP
  split
  · exact h.write _ _
  split
  · exact h.sync _
  split
  · exact h.rename _ _
  split
  · exact h.remove _
  · exact h.cut _ _
end Go.Proofs.Ytcpkoajnepijkaa
namespace Go.Proofs.Ytcpkoajnepijkaa
open Go.RowKit Go.Proofs.YtcpkoajnepijkaaL Go.Proofs.YtcpkoajnepijkaaW.PrintWords Go.Proofs.Ytcpkoajnepijkaa.Q
end Go.Proofs.Ytcpkoajnepijkaa
namespace Go.Proofs.Ytcpkoajnepijkaa
open Go.RowKit Go.Proofs.YtcpkoajnepijkaaL Go.Proofs.YtcpkoajnepijkaaW.PrintWords Go.Proofs.Ytcpkoajnepijkaa.Q
end Go.Proofs.Ytcpkoajnepijkaa
end
section
namespace Go.Proofs.Ytcpkoajnepijkaa
open Go.RowKit Go.Proofs.YtcpkoajnepijkaaL
def hrow (n at_ : Nat) : List (List Int) → List PP
  | [] => []
  | b :: r => ⟨n, at_, b⟩ :: hrow (n + 1) (at_ + b.length) r
def hstep (keep : List Bool) (n at_ : Nat) (w b : List Int) : List Int := if keptAt keep n = true ∧ 0 < b.length then (w ++ List.replicate (at_ - w.length) 0) ++ b else w
end Go.Proofs.Ytcpkoajnepijkaa
end
