/- Parts of the proof of the law that the last file states; declarations that nothing mentions are left out by a program. No conditions. -/
import Derived.Test.YtcpkoajnepijkaaFile15q
set_option linter.unusedVariables false
set_option linter.unusedSimpArgs false
namespace Go.Proofs.Ytcpkoajnepijkaa
open Go.RowKit Go.Proofs.YtcpkoajnepijkaaL Go.Proofs.YtcpkoajnepijkaaW.PrintWords Go.MapKept
set_option maxRecDepth 100000 in
set_option maxHeartbeats 1000000 in
theorem equal_calls {base : Nat} {Lz : Nat → Prop} {w : World} {v u : Value} {b c : List Int} (h : RB base Lz w v b) (h2 : RB base Lz w u c) (he : b = c) :
    Calls Try.prog 21 #[v, u] w fun e w' => e = .returned (.bool true) ∧ Below w.heap.size w w' := by
  obtain ⟨A0, c0, rfl, hc0, hC0, _⟩ := h
  obtain ⟨A1, c1, rfl, hc1, hC1, _⟩ := h2
  have hcv3 := Kd.C_string (P := Try.prog) (A := A0) (c := c0) Try.underlying31 Try.underlying5 Try.underlying9 hC0
  have hcv4 := Kd.C_string (P := Try.prog) (A := A1) (c := c1) Try.underlying31 Try.underlying5 Try.underlying9 hC1
  clear hC0 hC1
  subst he
  go_enter Try.func21, Try.ntmps21
  go_wp2
  go_ret
  exact ⟨by simp, Below.refl _ _⟩
end Go.Proofs.Ytcpkoajnepijkaa

