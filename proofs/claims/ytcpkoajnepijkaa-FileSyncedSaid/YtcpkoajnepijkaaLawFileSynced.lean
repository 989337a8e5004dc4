/- The law FileSynced holds of every input: its call tells true, and each argument reads behind it as it read before. No conditions. -/
import Derived.Test.YtcpkoajnepijkaaRows
import Derived.Test.YtcpkoajnepijkaaSynced2
import Derived.WalkKit
import Derived.ProofKit
import Derived.OpenShut
import Derived.ShutString
import Derived.ChangeOld
import Derived.Below
import Derived.SizedLaws
import Derived.Test.YtcpkoajnepijkaaLOpen
namespace Go.Proofs.Ytcpkoajnepijkaa.fileSynced
open Go.ChangeShapes Go.WideShapes Go.ChangeAt Go.RowKit Go.Proofs.YtcpkoajnepijkaaL
open Go.ChangeMaps (open_string shut_string)
set_option linter.unusedVariables false
theorem own : ownKnob Try.prog.godebug = none := by kernel_rfl
theorem laidOut : laidOutB Try.prog = true := by kernel_rfl
set_option maxRecDepth 100000 in
theorem lifted (os : Os) (started : os.Started) (H : Type) (enc : TypeId × Value → H) :
    ReturnsInHanded {} Try.checked os 9 .any (Rows.fileSyncedSpec.pre6 enc Try.prog Try.f9 Rows.fileSyncedRow.domain false) (Rows.fileSyncedSpec.post enc Try.prog Try.f9 false true false false) := by
  refine returnsInHanded_of_change_sized (C := Try.checked) own started (by kernel_rfl) Try.func9
    (ChangeSpec.witness6 (enc := enc) (C := Try.checked) false ⟨#[], #[.slice none 0 0, .slice none 0 0], []⟩ 8 (by kernel_rfl) (by kernel_rfl) (by kernel_rfl) (by kernel_rfl)) ?_
  intro W base args ds gs before hval0 hW hcnd hsz0 _
  have hsz : (DataW.weightsEach Try.prog (Try.f9.params.toList ++ Rows.fileSyncedSpec.plain.varTypes Try.prog) (ds ++ gs)).all (· ≤ reachBytes) = true := hsz0
  have hval : ∀ (j : Nat) t v, Try.f9.params[j]? = some t → args[j]? = some v → Value.okWide Try.prog W .any base t v := hval0
  have hW' := hW
  obtain ⟨p, q, hA0, hV, rfl, hfz, hnd⟩ := hW
  have hA : DataW.TrodAll enc Try.prog W 0 (fun _ => true) true Try.f9.params.toList args.toList ds p := hA0
  rw [Try.params9] at hA hval hsz
  obtain ⟨v0, vs0, d0, ds0, p0, q0, hargs, rfl, rfl, h0, r0⟩ := trodAll_cons hA
  obtain ⟨v1, vs1, d1, ds1, p1, q1, rfl, rfl, rfl, h1, r1⟩ := trodAll_cons r0
  obtain ⟨rfl, rfl, rfl⟩ := trodAll_nil r1
  obtain rfl : args = #[v0, v1] := by cases args; simp_all
  obtain ⟨rfl, rfl⟩ := trodVars_none hV
  have hw0 : (d0.weights Try.prog 22).all (· ≤ reachBytes) = true := List.all_eq_true.2 fun v hv => List.all_eq_true.1 hsz v (DataW.weights_mem_each (j := 0) (t := 22) (d := d0) rfl rfl v hv)
  obtain ⟨A0, len0, c0, rfl⟩ := okWide_slice Try.underlying22 (hval 0 22 v0 rfl rfl)
  have k0 := h0
  have lt0 : ∀ x ∈ p0, x.block < W.heap.size := by obtain ⟨m, hm⟩ := k0; exact DataW.trod_lt m _ _ _ hm
  obtain ⟨fu0, hf0⟩ := h0
  obtain ⟨l0, hK0, hQ0⟩ := (opens22) enc W 0 _ true fu0 _ _ hf0 hw0
  obtain ⟨B0, e0, hv0, hc0, hC0⟩ := slice_read hK0
  obtain ⟨rfl, rfl, rfl⟩ := Value.slice.inj hv0
  have hw1 : (d1.weights Try.prog 32).all (· ≤ reachBytes) = true := List.all_eq_true.2 fun v hv => List.all_eq_true.1 hsz v (DataW.weights_mem_each (j := 1) (t := 32) (d := d1) rfl rfl v hv)
  obtain ⟨A1, len1, c1, rfl⟩ := okWide_slice Try.underlying32 (hval 1 32 v1 rfl rfl)
  have k1 := h1
  have lt1 : ∀ x ∈ p1, x.block < W.heap.size := by obtain ⟨m, hm⟩ := k1; exact DataW.trod_lt m _ _ _ hm
  obtain ⟨fu1, hf1⟩ := h1
  obtain ⟨l1, hK1, hQ1⟩ := (opens_slice Try.underlying32 (by kernel_rfl) (opens_bool Try.underlying4)) enc W 0 _ true fu1 _ _ hf1 hw1
  obtain ⟨B1, e1, hv1, hc1, hC1⟩ := slice_read hK1
  obtain ⟨rfl, rfl, rfl⟩ := Value.slice.inj hv1
  clear hA0 hval0 hsz0 hsz
  refine ((fileSynced_walk hc0 hC0 hQ0 hC1)).mono fun e W' ⟨he, bel⟩ => ?_
  subst he
  exact ⟨_, rfl, _, _, _, [], _, [], hW', trodAll_mk1 (shut_bool Try.underlying4 _), trodAll_cons_mk (Below.trod laidOut (by kernel_rfl) (of_decide_eq_true (by kernel_rfl)) k0 bel lt0) (trodAll_cons_mk (Below.trod laidOut (by kernel_rfl) (of_decide_eq_true (by kernel_rfl)) k1 bel lt1) (trodAll_mk0)), rfl, bel.frame _, fun h => by cases h⟩
theorem over : Rows.fileSyncedRow.holds Try.pinned (OpenSpec.ofChange Rows.fileSyncedSpec) :=
  OpenClaim.holds_of_wide 9 Try.f9 rfl rfl rfl rfl rfl rfl rfl ⟨rfl, rfl, rfl, rfl, rfl⟩ rfl rfl rfl rfl rfl (by kernel_rfl) Try.func9 (by kernel_rfl)
    (of_decide_eq_true (by kernel_rfl)) (by unfold Func.isWrapper; first | (rw [if_pos (by decide +kernel)]; kernel_rfl) | (rw [if_neg (by decide +kernel)]; exact ⟨rfl, rfl⟩))
    (fun os started H enc _ => lifted os started H enc)
theorem proved : Rows.FileSyncedSaid := over
#print axioms proved
end Go.Proofs.Ytcpkoajnepijkaa.fileSynced
namespace Go.Proofs.Ytcpkoajnepijkaa
/-- The row, under a short name, for the claim. -/
theorem fileSynced_holds : Rows.FileSyncedSaid := fileSynced.proved
end Go.Proofs.Ytcpkoajnepijkaa
