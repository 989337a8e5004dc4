/- Parts of the proof of the law that the last file states; declarations that nothing mentions are left out by a program. No conditions. -/
import Derived.Test.YtledplnlcjfafaaDoorRows
import Derived.Test.YtledplnlcjfafaaDoorCards
import Derived.Test.YtledplnlcjfafaaDoorTie
import Derived.Lay
import Derived.SevenTiedAt
import Derived.WalkKit
import Derived.ProofKit
import Derived.OpenShut
import Derived.ShutString
import Derived.ChangeOld
import Derived.Below
import Derived.SizedLaws
import Derived.Test.YtledplnlcjfafaaDoorLPaKxq
import Derived.Test.YtledplnlcjfafaaDoorLPaFq
import Derived.Test.YtledplnlcjfafaaDoorLOpenq
set_option linter.unusedVariables false
set_option linter.unusedSimpArgs false
namespace Go.Proofs.YtledplnlcjfafaaDoor.paintCosts
open Go.ChangeShapes Go.WideShapes Go.ChangeAt Go.RowKit Go.Proofs.YtledplnlcjfafaaDoorL Go.Proofs.YtledplnlcjfafaaDoor.K
open Go.ChangeMaps (open_string shut_string)
theorem own : ownKnob Tryd.prog.godebug = none := by kernel_rfl
theorem laidOut : laidOutB Tryd.prog = true := by kernel_rfl
set_option maxRecDepth 100000 in
theorem lifted (os : Os) (started : os.Started) (H : Type) (enc : TypeId × Value → H) :
    ReturnsInHanded {} Tryd.checked os 3 .any (fun w args => (Rows.paintCostsSpec.pre enc Tryd.prog Tryd.f3 [] false w args ∧ laidMetH Tryd.prog Go.Proofs.YtledplnlcjfafaaDoorL.laidP w) ∧ sizedMet enc Tryd.prog Tryd.f3 (OpenSpec.ofChange Rows.paintCostsSpec) false w args) (Rows.paintCostsSpec.post enc Tryd.prog Tryd.f3 false true false false) := by
  refine returnsInHanded_of_change_and (C := Tryd.checked) (X := fun w _ => laidMetH Tryd.prog Go.Proofs.YtledplnlcjfafaaDoorL.laidP w) (fun _ _ _ hh h => h.of_heap hh) own started (by kernel_rfl) Tryd.func3
    (ChangeSpec.witness_shaped (enc := enc) (C := Tryd.checked) (os := os) (X := fun w _ => laidMetH Tryd.prog Go.Proofs.YtledplnlcjfafaaDoorL.laidP w) false (World.laidAll Tryd.prog os Go.Proofs.YtledplnlcjfafaaDoorL.laidP) #[.agg #[.int .i64 0, .int .i64 0], .agg #[.int .i64 0, .int .i64 0, .string ByteArray.empty, .string ByteArray.empty, .string ByteArray.empty, .string ByteArray.empty, .int .i64 0], .agg #[.int .i64 0, .int .i64 0, .string ByteArray.empty, .string ByteArray.empty, .string ByteArray.empty, .string ByteArray.empty, .int .i64 0]] 8 (World.laidAll_os _ _ _)
      (World.shaped_of_ZipB (by kernel_rfl) (by kernel_rfl)) (by kernel_rfl) (by kernel_rfl) (by kernel_rfl)
      (by rw [MakeChecks.laidMetH_plain _ _ _ (by kernel_rfl)]; exact laidMet_laidAll _ (by kernel_rfl) (by kernel_rfl))) ?_
  intro W base args ds gs before hval0 hW hcnd hsz0 hL0 _
  have hT := hL0
  rw [MakeChecks.laidMetH_plain _ _ _ (by kernel_rfl)] at hT
  replace hT := Go.Proofs.YtledplnlcjfafaaDoorL.tabsP_of hT
  have hsz : (DataW.weightsEach Tryd.prog (Tryd.f3.params.toList ++ Rows.paintCostsSpec.plain.varTypes Tryd.prog) (ds ++ gs)).all (· ≤ reachBytes) = true := hsz0
  have hval : ∀ (j : Nat) t v, Tryd.f3.params[j]? = some t → args[j]? = some v → Value.okWide Tryd.prog W .any base t v := hval0
  have hW' := hW
  obtain ⟨p, q, hA0, hV, rfl, hfz, hnd⟩ := hW
  have hA : DataW.TrodAll enc Tryd.prog W 0 (fun _ => true) true Tryd.f3.params.toList args.toList ds p := hA0
  rw [Tryd.params3] at hA hval hsz
  obtain ⟨v0, vs0, d0, ds0, p0, q0, hargs, rfl, rfl, h0, r0⟩ := trodAll_cons hA
  obtain ⟨v1, vs1, d1, ds1, p1, q1, rfl, rfl, rfl, h1, r1⟩ := trodAll_cons r0
  obtain ⟨v2, vs2, d2, ds2, p2, q2, rfl, rfl, rfl, h2, r2⟩ := trodAll_cons r1
  obtain ⟨rfl, rfl, rfl⟩ := trodAll_nil r2
  obtain rfl : args = #[v0, v1, v2] := by cases args; simp_all
  obtain ⟨rfl, rfl⟩ := trodVars_none hV
  have hw0 : (d0.weights Tryd.prog 22).all (· ≤ reachBytes) = true := List.all_eq_true.2 fun v hv => List.all_eq_true.1 hsz v (DataW.weights_mem_each (j := 0) (t := 22) (d := d0) rfl rfl v hv)
  obtain ⟨cs0, rfl, _⟩ := okWide_array Tryd.underlying22 (hval 0 22 v0 rfl rfl)
  have k0 := h0
  have lt0 : ∀ x ∈ p0, x.block < W.heap.size := by obtain ⟨m, hm⟩ := k0; exact DataW.trod_lt m _ _ _ hm
  obtain ⟨fu0, hf0⟩ := h0
  obtain ⟨x0, hK0, hQ0⟩ := (opensArr2) enc W 0 _ true fu0 _ _ hf0 hw0
  have hw1 : (d1.weights Tryd.prog 24).all (· ≤ reachBytes) = true := List.all_eq_true.2 fun v hv => List.all_eq_true.1 hsz v (DataW.weights_mem_each (j := 1) (t := 24) (d := d1) rfl rfl v hv)
  obtain ⟨cs1, rfl, _⟩ := okWide_struct Tryd.underlying24 (hval 1 24 v1 rfl rfl)
  have k1 := h1
  have lt1 : ∀ x ∈ p1, x.block < W.heap.size := by obtain ⟨m, hm⟩ := k1; exact DataW.trod_lt m _ _ _ hm
  obtain ⟨fu1, hf1⟩ := h1
  obtain ⟨x1, hK1, hQ1⟩ := (opensView) enc W 0 _ true fu1 _ _ hf1 hw1
  have hw2 : (d2.weights Tryd.prog 24).all (· ≤ reachBytes) = true := List.all_eq_true.2 fun v hv => List.all_eq_true.1 hsz v (DataW.weights_mem_each (j := 2) (t := 24) (d := d2) rfl rfl v hv)
  obtain ⟨cs2, rfl, _⟩ := okWide_struct Tryd.underlying24 (hval 2 24 v2 rfl rfl)
  have k2 := h2
  have lt2 : ∀ x ∈ p2, x.block < W.heap.size := by obtain ⟨m, hm⟩ := k2; exact DataW.trod_lt m _ _ _ hm
  obtain ⟨fu2, hf2⟩ := h2
  obtain ⟨x2, hK2, hQ2⟩ := (opensView) enc W 0 _ true fu2 _ _ hf2 hw2
  clear hA0 hval0 hsz0 hsz
  refine (costs_walk' hK0 hK1 hQ1 hK2 hQ2 hT).mono fun e W' ⟨he, bel⟩ => ?_
  subst he
  exact ⟨_, rfl, _, _, _, [], _, [], hW', trodAll_mk1 (shut_bool Tryd.underlying4 _), trodAll_cons_mk (Below.trod laidOut (by kernel_rfl) (of_decide_eq_true (by kernel_rfl)) k0 bel lt0) (trodAll_cons_mk (Below.trod laidOut (by kernel_rfl) (of_decide_eq_true (by kernel_rfl)) k1 bel lt1) (trodAll_cons_mk (Below.trod laidOut (by kernel_rfl) (of_decide_eq_true (by kernel_rfl)) k2 bel lt2) (trodAll_mk0))), rfl, bel.frame _, fun h => by cases h⟩
theorem over : Rows.paintCostsRow.holds Tryd.pinned (OpenSpec.ofChange Rows.paintCostsSpec) :=
  OpenClaim.holds_of_wide 3 Tryd.f3 rfl rfl rfl rfl rfl rfl rfl ⟨rfl, rfl, rfl, rfl, rfl⟩ rfl rfl rfl rfl rfl (by kernel_rfl) Tryd.func3 (by kernel_rfl)
    (of_decide_eq_true (by kernel_rfl)) (by unfold Func.isWrapper; first | (rw [if_pos (by decide +kernel)]; kernel_rfl) | (rw [if_neg (by decide +kernel)]; exact ⟨rfl, rfl⟩))
    (fun os started H enc _ => lifted os started H enc)
theorem card_holds : Rows.PaintCostsCardSaid :=
  Claim7.holds_tied_plain_at .later [] [.data, .data, .data, .data, .pinned] true (true, "14962f16027ae919087a1e76ba5873a021904ef3ada7e98ba8e1cfcf6854bbf9") false over (fun _ h => by cases h) (by kernel_rfl) (fun _ h => by cases h) paintCosts_row_tie rfl ⟨rfl, rfl⟩ (by kernel_rfl) rfl
    (fun f fn hf hfn => by
      obtain rfl : f = 3 := Option.some.inj ((show Tryd.prog.funcNamed "souffleur/souffleurlaw19.PaintCosts" = some 3 by kernel_rfl).symm.trans hf) |>.symm
      obtain rfl : fn = Tryd.f3 := (Option.some.inj (Tryd.func3.symm.trans hfn)).symm
      exact ⟨by kernel_rfl, fun j t ht => by
        rw [Tryd.params3] at ht
        have hm : t ∈ [22, 24, 24] := by simpa using Array.mem_of_getElem? ht
        simp only [List.mem_cons, List.mem_nil_iff, or_false] at hm
        rcases hm with rfl | rfl | rfl <;> (show Tryd.prog.wantsStandIn _ = false; kernel_rfl)⟩)
    (by kernel_rfl)
end Go.Proofs.YtledplnlcjfafaaDoor.paintCosts
namespace Go.Proofs.YtledplnlcjfafaaDoor
theorem paintCosts_holds : Rows.PaintCostsCardSaid := paintCosts.card_holds
end Go.Proofs.YtledplnlcjfafaaDoor

