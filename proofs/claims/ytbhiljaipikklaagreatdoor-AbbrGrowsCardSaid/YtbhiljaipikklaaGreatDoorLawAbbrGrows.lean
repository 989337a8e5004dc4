/- The law AbbrGrows holds of every input: its call tells true, and each argument reads behind it as it read before. No conditions. -/
import Derived.Test.YtbhiljaipikklaaGreatDoorRows
import Derived.Test.YtbhiljaipikklaaGreatDoorCards
import Derived.Test.YtbhiljaipikklaaGreatDoorTie
import Derived.Lay
import Derived.SevenTiedAt
import Derived.WalkKit
import Derived.ProofKit
import Derived.OpenShut
import Derived.ShutString
import Derived.ChangeOld
import Derived.Below
import Derived.SizedLaws
import Derived.Test.YtbhiljaipikklaaGreatDoorLGrows8q
import Derived.Test.YtbhiljaipikklaaGreatDoorLTabsq
import Derived.Test.YtbhiljaipikklaaGreatDoorLOpenq
set_option linter.unusedVariables false
set_option linter.unusedSimpArgs false
namespace Go.Proofs.YtbhiljaipikklaaGreatDoor.abbrGrows
open Go.ChangeShapes Go.WideShapes Go.ChangeAt Go.RowKit Go.Proofs.YtbhiljaipikklaaGreatDoorL Go.Proofs.YtbhiljaipikklaaGreatDoor.K
open Go.ChangeMaps (open_string shut_string)
theorem own : ownKnob Tryz.prog.godebug = none := by kernel_rfl
theorem laidOut : laidOutB Tryz.prog = true := by kernel_rfl
set_option maxRecDepth 100000 in
theorem lifted (os : Os) (started : os.Started) (H : Type) (enc : TypeId × Value → H) :
    ReturnsInHanded {} Tryz.checked os 5 .any (fun w args => (Rows.abbrGrowsSpec.pre enc Tryz.prog Tryz.f5 [] false w args ∧ laidMetH Tryz.prog Go.Proofs.YtbhiljaipikklaaGreatDoorL.laidL w) ∧ sizedMet enc Tryz.prog Tryz.f5 (OpenSpec.ofChange Rows.abbrGrowsSpec) false w args) (Rows.abbrGrowsSpec.post enc Tryz.prog Tryz.f5 false true false false) := by
  refine returnsInHanded_of_change_and (C := Tryz.checked) (X := fun w _ => laidMetH Tryz.prog Go.Proofs.YtbhiljaipikklaaGreatDoorL.laidL w) (fun _ _ _ hh h => h.of_heap hh) own started (by kernel_rfl) Tryz.func5
    (ChangeSpec.witness_shaped (enc := enc) (C := Tryz.checked) (os := os) (X := fun w _ => laidMetH Tryz.prog Go.Proofs.YtbhiljaipikklaaGreatDoorL.laidL w) false (World.laidAll Tryz.prog os Go.Proofs.YtbhiljaipikklaaGreatDoorL.laidL) #[.slice none 0 0, .agg #[.string ByteArray.empty, .int .i64 0]] 8 (World.laidAll_os _ _ _)
      (World.shaped_of_ZipB (by kernel_rfl) (by kernel_rfl)) (by kernel_rfl) (by kernel_rfl) (by kernel_rfl)
      (by rw [MakeChecks.laidMetH_plain _ _ _ (by kernel_rfl)]; exact laidMet_laidAll _ (by kernel_rfl) (by kernel_rfl))) ?_
  intro W base args ds gs before hval0 hW hcnd hsz0 hL0 _
  have hT := hL0
  rw [MakeChecks.laidMetH_plain _ _ _ (by kernel_rfl)] at hT
  replace hT := Go.Proofs.YtbhiljaipikklaaGreatDoorL.tabs_of_laid hT
  have hsz : (DataW.weightsEach Tryz.prog (Tryz.f5.params.toList ++ Rows.abbrGrowsSpec.plain.varTypes Tryz.prog) (ds ++ gs)).all (· ≤ reachBytes) = true := hsz0
  have hval : ∀ (j : Nat) t v, Tryz.f5.params[j]? = some t → args[j]? = some v → Value.okWide Tryz.prog W .any base t v := hval0
  have hW' := hW
  obtain ⟨p, q, hA0, hV, rfl, hfz, hnd⟩ := hW
  have hA : DataW.TrodAll enc Tryz.prog W 0 (fun _ => true) true Tryz.f5.params.toList args.toList ds p := hA0
  rw [Tryz.params5] at hA hval hsz
  obtain ⟨v0, vs0, d0, ds0, p0, q0, hargs, rfl, rfl, h0, r0⟩ := trodAll_cons hA
  obtain ⟨v1, vs1, d1, ds1, p1, q1, rfl, rfl, rfl, h1, r1⟩ := trodAll_cons r0
  obtain ⟨rfl, rfl, rfl⟩ := trodAll_nil r1
  obtain rfl : args = #[v0, v1] := by cases args; simp_all
  obtain ⟨rfl, rfl⟩ := trodVars_none hV
  have hw0 : (d0.weights Tryz.prog 22).all (· ≤ reachBytes) = true := List.all_eq_true.2 fun v hv => List.all_eq_true.1 hsz v (DataW.weights_mem_each (j := 0) (t := 22) (d := d0) rfl rfl v hv)
  obtain ⟨A0, len0, c0, rfl⟩ := okWide_slice Tryz.underlying22 (hval 0 22 v0 rfl rfl)
  have k0 := h0
  have lt0 : ∀ x ∈ p0, x.block < W.heap.size := by obtain ⟨m, hm⟩ := k0; exact DataW.trod_lt m _ _ _ hm
  obtain ⟨fu0, hf0⟩ := h0
  obtain ⟨l0, hK0, hQ0⟩ := (opensOps) enc W 0 _ true fu0 _ _ hf0 hw0
  obtain ⟨B0, e0, hv0, hc0, hC0⟩ := slice_read hK0
  obtain ⟨rfl, rfl, rfl⟩ := Value.slice.inj hv0
  have hw1 : (d1.weights Tryz.prog 41).all (· ≤ reachBytes) = true := List.all_eq_true.2 fun v hv => List.all_eq_true.1 hsz v (DataW.weights_mem_each (j := 1) (t := 41) (d := d1) rfl rfl v hv)
  obtain ⟨cs1, rfl, _⟩ := okWide_struct Tryz.underlying41 (hval 1 41 v1 rfl rfl)
  have k1 := h1
  have lt1 : ∀ x ∈ p1, x.block < W.heap.size := by obtain ⟨m, hm⟩ := k1; exact DataW.trod_lt m _ _ _ hm
  obtain ⟨fu1, hf1⟩ := h1
  obtain ⟨x1, hK1, hQ1⟩ := (opensBuf) enc W 0 _ true fu1 _ _ hf1 hw1
  clear hA0 hval0 hsz0 hsz
  refine (abbrGrows_walk hc0 hC0 hQ0 hK1 hQ1 hT).mono fun e W' ⟨he, bel⟩ => ?_
  subst he
  exact ⟨_, rfl, _, _, _, [], _, [], hW', trodAll_mk1 (shut_bool Tryz.underlying4 _), trodAll_cons_mk (Below.trod laidOut (by kernel_rfl) (of_decide_eq_true (by kernel_rfl)) k0 bel lt0) (trodAll_cons_mk (Below.trod laidOut (by kernel_rfl) (of_decide_eq_true (by kernel_rfl)) k1 bel lt1) (trodAll_mk0)), rfl, bel.frame _, fun h => by cases h⟩
theorem over : Rows.abbrGrowsRow.holds Tryz.pinned (OpenSpec.ofChange Rows.abbrGrowsSpec) :=
  OpenClaim.holds_of_wide 5 Tryz.f5 rfl rfl rfl rfl rfl rfl rfl ⟨rfl, rfl, rfl, rfl, rfl⟩ rfl rfl rfl rfl rfl (by kernel_rfl) Tryz.func5 (by kernel_rfl)
    (of_decide_eq_true (by kernel_rfl)) (by unfold Func.isWrapper; first | (rw [if_pos (by decide +kernel)]; kernel_rfl) | (rw [if_neg (by decide +kernel)]; exact ⟨rfl, rfl⟩))
    (fun os started H enc _ => lifted os started H enc)
theorem card_holds : Rows.AbbrGrowsCardSaid :=
  Claim7.holds_tied_plain_at .later [] [.data, .pinned] true (true, "443e4efb83fa6b6bb9ea1eff271d9251f42e6d414b426a423ac3f7d615ec7174") false over (fun _ h => by cases h) (by kernel_rfl) (fun _ h => by cases h) abbrGrows_row_tie rfl ⟨rfl, rfl⟩ (by kernel_rfl) rfl
    (fun f fn hf hfn => by
      obtain rfl : f = 5 := Option.some.inj ((show Tryz.prog.funcNamed "souffleur/souffleurlaw08.AbbrGrows" = some 5 by kernel_rfl).symm.trans hf) |>.symm
      obtain rfl : fn = Tryz.f5 := (Option.some.inj (Tryz.func5.symm.trans hfn)).symm
      exact ⟨by kernel_rfl, fun j t ht => by
        rw [Tryz.params5] at ht
        have hm : t ∈ [22, 41] := by simpa using Array.mem_of_getElem? ht
        simp only [List.mem_cons, List.mem_nil_iff, or_false] at hm
        rcases hm with rfl | rfl <;> (show Tryz.prog.wantsStandIn _ = false; kernel_rfl)⟩)
    (by kernel_rfl)
end Go.Proofs.YtbhiljaipikklaaGreatDoor.abbrGrows
namespace Go.Proofs.YtbhiljaipikklaaGreatDoor
theorem abbrGrows_holds : Rows.AbbrGrowsCardSaid := abbrGrows.card_holds
end Go.Proofs.YtbhiljaipikklaaGreatDoor

