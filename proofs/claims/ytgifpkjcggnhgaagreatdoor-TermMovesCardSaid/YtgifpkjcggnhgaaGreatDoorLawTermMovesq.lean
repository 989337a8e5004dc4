/- Parts of the proof of the law that the last file states; declarations that nothing mentions are left out by a program. No conditions. -/
import Derived.Test.YtgifpkjcggnhgaaGreatDoorRows
import Derived.Test.YtgifpkjcggnhgaaGreatDoorCards
import Derived.Test.YtgifpkjcggnhgaaGreatDoorTie
import Derived.Lay
import Derived.SevenTiedAt
import Derived.WalkKit
import Derived.ProofKit
import Derived.OpenShut
import Derived.ShutString
import Derived.ChangeOld
import Derived.Below
import Derived.SizedLaws
import Derived.Test.YtgifpkjcggnhgaaGreatDoorLTermMvq
import Derived.Test.YtgifpkjcggnhgaaGreatDoorLTermTq
import Derived.Test.YtgifpkjcggnhgaaGreatDoorLOpenq
set_option linter.unusedVariables false
set_option linter.unusedSimpArgs false
namespace Go.Proofs.YtgifpkjcggnhgaaGreatDoor.termMoves
open Go.ChangeShapes Go.WideShapes Go.ChangeAt Go.RowKit Go.Proofs.YtgifpkjcggnhgaaGreatDoorL Go.Proofs.YtgifpkjcggnhgaaGreatDoor.K
open Go.ChangeMaps (open_string shut_string)
theorem own : ownKnob Tryz.prog.godebug = none := by kernel_rfl
theorem laidOut : laidOutB Tryz.prog = true := by kernel_rfl
set_option maxRecDepth 100000 in
theorem lifted (os : Os) (started : os.Started) (H : Type) (enc : TypeId × Value → H) :
    ReturnsInHanded {} Tryz.checked os 8 .any (fun w args => (Rows.termMovesSpec.pre enc Tryz.prog Tryz.f8 [] false w args ∧ laidMetH Tryz.prog Go.Proofs.YtgifpkjcggnhgaaGreatDoorL.laidT w) ∧ sizedMet enc Tryz.prog Tryz.f8 (OpenSpec.ofChange Rows.termMovesSpec) false w args) (Rows.termMovesSpec.post enc Tryz.prog Tryz.f8 false true false false) := by
  refine handed_shaped (C := Tryz.checked) (X := fun w _ => laidMetH Tryz.prog Go.Proofs.YtgifpkjcggnhgaaGreatDoorL.laidT w) (fun _ _ _ hh h => h.of_heap hh) own started (by kernel_rfl) Tryz.func8
    (ChangeSpec.witness_shaped (enc := enc) (C := Tryz.checked) (os := os) (X := fun w _ => laidMetH Tryz.prog Go.Proofs.YtgifpkjcggnhgaaGreatDoorL.laidT w) false (World.laidAll Tryz.prog os Go.Proofs.YtgifpkjcggnhgaaGreatDoorL.laidT) #[.agg #[.int .i64 0, .int .i64 0], .slice none 0 0, .slice none 0 0] 8 (World.laidAll_os _ _ _)
      (World.shaped_of_ZipB (by kernel_rfl) (by kernel_rfl)) (by kernel_rfl) (by kernel_rfl) (by kernel_rfl)
      (by rw [MakeChecks.laidMetH_plain _ _ _ (by kernel_rfl)]; exact laidMet_laidAll _ (by kernel_rfl) (by kernel_rfl))) ?_
  intro W base args ds gs before hval0 hW hcnd hsz0 hL0 hSh _
  have hT0 := hL0
  rw [MakeChecks.laidMetH_plain _ _ _ (by kernel_rfl)] at hT0
  have hT := Go.Proofs.YtgifpkjcggnhgaaGreatDoorL.tabsT_of hT0 hSh
  have hsz : (DataW.weightsEach Tryz.prog (Tryz.f8.params.toList ++ Rows.termMovesSpec.plain.varTypes Tryz.prog) (ds ++ gs)).all (· ≤ reachBytes) = true := hsz0
  have hval : ∀ (j : Nat) t v, Tryz.f8.params[j]? = some t → args[j]? = some v → Value.okWide Tryz.prog W .any base t v := hval0
  have hW' := hW
  obtain ⟨p, q, hA0, hV, rfl, hfz, hnd⟩ := hW
  have hA : DataW.TrodAll enc Tryz.prog W 0 (fun _ => true) true Tryz.f8.params.toList args.toList ds p := hA0
  rw [Tryz.params8] at hA hval hsz
  obtain ⟨v0, vs0, d0, ds0, p0, q0, hargs, rfl, rfl, h0, r0⟩ := trodAll_cons hA
  obtain ⟨v1, vs1, d1, ds1, p1, q1, rfl, rfl, rfl, h1, r1⟩ := trodAll_cons r0
  obtain ⟨v2, vs2, d2, ds2, p2, q2, rfl, rfl, rfl, h2, r2⟩ := trodAll_cons r1
  obtain ⟨rfl, rfl, rfl⟩ := trodAll_nil r2
  obtain rfl : args = #[v0, v1, v2] := by cases args; simp_all
  obtain ⟨rfl, rfl⟩ := trodVars_none hV
  have hw0 : (d0.weights Tryz.prog 22).all (· ≤ reachBytes) = true := List.all_eq_true.2 fun v hv => List.all_eq_true.1 hsz v (DataW.weights_mem_each (j := 0) (t := 22) (d := d0) rfl rfl v hv)
  obtain ⟨cs0, rfl, _⟩ := okWide_array Tryz.underlying22 (hval 0 22 v0 rfl rfl)
  have k0 := h0
  have lt0 : ∀ x ∈ p0, x.block < W.heap.size := by obtain ⟨m, hm⟩ := k0; exact DataW.trod_lt m _ _ _ hm
  obtain ⟨fu0, hf0⟩ := h0
  obtain ⟨x0, hK0, hQ0⟩ := (opensArr2) enc W 0 _ true fu0 _ _ hf0 hw0
  have hw1 : (d1.weights Tryz.prog 23).all (· ≤ reachBytes) = true := List.all_eq_true.2 fun v hv => List.all_eq_true.1 hsz v (DataW.weights_mem_each (j := 1) (t := 23) (d := d1) rfl rfl v hv)
  obtain ⟨A1, len1, c1, rfl⟩ := okWide_slice Tryz.underlying23 (hval 1 23 v1 rfl rfl)
  have k1 := h1
  have lt1 : ∀ x ∈ p1, x.block < W.heap.size := by obtain ⟨m, hm⟩ := k1; exact DataW.trod_lt m _ _ _ hm
  obtain ⟨fu1, hf1⟩ := h1
  obtain ⟨l1, hK1, hQ1⟩ := (opensEvents) enc W 0 _ true fu1 _ _ hf1 hw1
  obtain ⟨B1, e1, hv1, hc1, hC1⟩ := slice_read hK1
  obtain ⟨rfl, rfl, rfl⟩ := Value.slice.inj hv1
  have hw2 : (d2.weights Tryz.prog 51).all (· ≤ reachBytes) = true := List.all_eq_true.2 fun v hv => List.all_eq_true.1 hsz v (DataW.weights_mem_each (j := 2) (t := 51) (d := d2) rfl rfl v hv)
  obtain ⟨A2, len2, c2, rfl⟩ := okWide_slice Tryz.underlying51 (hval 2 51 v2 rfl rfl)
  have k2 := h2
  have lt2 : ∀ x ∈ p2, x.block < W.heap.size := by obtain ⟨m, hm⟩ := k2; exact DataW.trod_lt m _ _ _ hm
  obtain ⟨fu2, hf2⟩ := h2
  obtain ⟨l2, hK2, hQ2⟩ := (opensMoves) enc W 0 _ true fu2 _ _ hf2 hw2
  obtain ⟨B2, e2, hv2, hc2, hC2⟩ := slice_read hK2
  obtain ⟨rfl, rfl, rfl⟩ := Value.slice.inj hv2
  clear hA0 hval0 hsz0 hsz
  refine (moves_walk' hK0 hc1 hC1 hQ1 hc2 hC2 hT).mono fun e W' ⟨he, bel⟩ => ?_
  subst he
  exact ⟨_, rfl, _, _, _, [], _, [], hW', trodAll_mk1 (shut_bool Tryz.underlying4 _), trodAll_cons_mk (Below.trod laidOut (by kernel_rfl) (of_decide_eq_true (by kernel_rfl)) k0 bel lt0) (trodAll_cons_mk (Below.trod laidOut (by kernel_rfl) (of_decide_eq_true (by kernel_rfl)) k1 bel lt1) (trodAll_cons_mk (Below.trod laidOut (by kernel_rfl) (of_decide_eq_true (by kernel_rfl)) k2 bel lt2) (trodAll_mk0))), rfl, bel.frame _, fun h => by cases h⟩
theorem over : Rows.termMovesRow.holds Tryz.pinned (OpenSpec.ofChange Rows.termMovesSpec) :=
  OpenClaim.holds_of_wide 8 Tryz.f8 rfl rfl rfl rfl rfl rfl rfl ⟨rfl, rfl, rfl, rfl, rfl⟩ rfl rfl rfl rfl rfl (by kernel_rfl) Tryz.func8 (by kernel_rfl)
    (of_decide_eq_true (by kernel_rfl)) (by unfold Func.isWrapper; first | (rw [if_pos (by decide +kernel)]; kernel_rfl) | (rw [if_neg (by decide +kernel)]; exact ⟨rfl, rfl⟩))
    (fun os started H enc _ => lifted os started H enc)
theorem card_holds : Rows.TermMovesCardSaid :=
  Claim7.holds_tied_plain_at .later [] [.data, .data, .data, .data, .sentinel, .sentinel, .pinned] true (true, "48d303ccddb1c992537d5c453766d945c5a3517555b53bd919b223572e26829e") true over (fun _ h => by cases h) (by kernel_rfl) (fun _ h => by cases h) termMoves_row_tie rfl ⟨rfl, rfl⟩ (by kernel_rfl) rfl
    (fun f fn hf hfn => by
      obtain rfl : f = 8 := Option.some.inj ((show Tryz.prog.funcNamed "souffleur/souffleurlaw17.TermMoves" = some 8 by kernel_rfl).symm.trans hf) |>.symm
      obtain rfl : fn = Tryz.f8 := (Option.some.inj (Tryz.func8.symm.trans hfn)).symm
      exact ⟨by kernel_rfl, fun j t ht => by
        rw [Tryz.params8] at ht
        have hm : t ∈ [22, 23, 51] := by simpa using Array.mem_of_getElem? ht
        simp only [List.mem_cons, List.mem_nil_iff, or_false] at hm
        rcases hm with rfl | rfl | rfl <;> (show Tryz.prog.wantsStandIn _ = false; kernel_rfl)⟩)
    (by kernel_rfl)
end Go.Proofs.YtgifpkjcggnhgaaGreatDoor.termMoves
namespace Go.Proofs.YtgifpkjcggnhgaaGreatDoor
theorem termMoves_holds : Rows.TermMovesCardSaid := termMoves.card_holds
end Go.Proofs.YtgifpkjcggnhgaaGreatDoor

