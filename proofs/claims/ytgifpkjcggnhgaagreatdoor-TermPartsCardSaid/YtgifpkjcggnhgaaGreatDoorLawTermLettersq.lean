/- Parts of the proof of the law that the last file states; declarations that nothing mentions are left out by a program. No conditions. -/
import Derived.Test.YtgifpkjcggnhgaaGreatDoorRows
import Derived.Test.YtgifpkjcggnhgaaGreatDoorCards
import Derived.Test.YtgifpkjcggnhgaaGreatDoorTie
import Derived.Lay
import Derived.SevenTiedAt
import Derived.WalkKit
import Derived.ProofKit
import Derived.OpenShut
import Derived.ShutString
import Derived.ChangeOld
import Derived.Below
import Derived.SizedLaws
import Derived.Test.YtgifpkjcggnhgaaGreatDoorProg
import Derived.Test.YtgifpkjcggnhgaaGreatDoorLTermLetq
import Derived.Test.YtgifpkjcggnhgaaGreatDoorLTermTq
import Derived.Test.YtgifpkjcggnhgaaGreatDoorLOpenq
set_option linter.unusedVariables false
set_option linter.unusedSimpArgs false
section
namespace Go.Proofs.YtgifpkjcggnhgaaGreatDoor.termLetters
open Go.ChangeShapes Go.WideShapes Go.ChangeAt Go.RowKit Go.Proofs.YtgifpkjcggnhgaaGreatDoorL Go.Proofs.YtgifpkjcggnhgaaGreatDoor.K
open Go.ChangeMaps (open_string shut_string)
theorem own : ownKnob Tryz.prog.godebug = none := by kernel_rfl
theorem laidOut : laidOutB Tryz.prog = true := by kernel_rfl
set_option maxRecDepth 100000 in
theorem lifted (os : Os) (started : os.Started) (H : Type) (enc : TypeId × Value → H) :
    ReturnsInHanded {} Tryz.checked os 5 .any (fun w args => (Rows.termLettersSpec.pre enc Tryz.prog Tryz.f5 [] false w args ∧ laidMetH Tryz.prog Go.Proofs.YtgifpkjcggnhgaaGreatDoorL.laidT w) ∧ sizedMet enc Tryz.prog Tryz.f5 (OpenSpec.ofChange Rows.termLettersSpec) false w args) (Rows.termLettersSpec.post enc Tryz.prog Tryz.f5 false true false false) := by
  refine handed_shaped (C := Tryz.checked) (X := fun w _ => laidMetH Tryz.prog Go.Proofs.YtgifpkjcggnhgaaGreatDoorL.laidT w) (fun _ _ _ hh h => h.of_heap hh) own started (by kernel_rfl) Tryz.func5
    (ChangeSpec.witness_shaped (enc := enc) (C := Tryz.checked) (os := os) (X := fun w _ => laidMetH Tryz.prog Go.Proofs.YtgifpkjcggnhgaaGreatDoorL.laidT w) false (World.laidAll Tryz.prog os Go.Proofs.YtgifpkjcggnhgaaGreatDoorL.laidT) #[.int .i64 0, .int .i64 0, .int .i64 0] 8 (World.laidAll_os _ _ _)
      (World.shaped_of_ZipB (by kernel_rfl) (by kernel_rfl)) (by kernel_rfl) (by kernel_rfl) (by kernel_rfl)
      (by rw [MakeChecks.laidMetH_plain _ _ _ (by kernel_rfl)]; exact laidMet_laidAll _ (by kernel_rfl) (by kernel_rfl))) ?_
  intro W base args ds gs before hval0 hW hcnd hsz0 hL0 hSh _
  have hT0 := hL0
  rw [MakeChecks.laidMetH_plain _ _ _ (by kernel_rfl)] at hT0
  have hT := Go.Proofs.YtgifpkjcggnhgaaGreatDoorL.tabsT_of hT0 hSh
  have hsz : (DataW.weightsEach Tryz.prog (Tryz.f5.params.toList ++ Rows.termLettersSpec.plain.varTypes Tryz.prog) (ds ++ gs)).all (· ≤ reachBytes) = true := hsz0
  have hval : ∀ (j : Nat) t v, Tryz.f5.params[j]? = some t → args[j]? = some v → Value.okWide Tryz.prog W .any base t v := hval0
  have hW' := hW
  obtain ⟨p, q, hA0, hV, rfl, hfz, hnd⟩ := hW
  have hA : DataW.TrodAll enc Tryz.prog W 0 (fun _ => true) true Tryz.f5.params.toList args.toList ds p := hA0
  rw [Tryz.params5] at hA hval hsz
  obtain ⟨v0, vs0, d0, ds0, p0, q0, hargs, rfl, rfl, h0, r0⟩ := trodAll_cons hA
  obtain ⟨v1, vs1, d1, ds1, p1, q1, rfl, rfl, rfl, h1, r1⟩ := trodAll_cons r0
  obtain ⟨v2, vs2, d2, ds2, p2, q2, rfl, rfl, rfl, h2, r2⟩ := trodAll_cons r1
  obtain ⟨rfl, rfl, rfl⟩ := trodAll_nil r2
  obtain rfl : args = #[v0, v1, v2] := by cases args; simp_all
  obtain ⟨rfl, rfl⟩ := trodVars_none hV
  obtain ⟨a0, rfl, rfl, rfl, w0⟩ := open_int Tryz.underlying3 (hval 0 3 v0 rfl rfl) h0
  obtain ⟨a1, rfl, rfl, rfl, w1⟩ := open_int Tryz.underlying3 (hval 1 3 v1 rfl rfl) h1
  obtain ⟨a2, rfl, rfl, rfl, w2⟩ := open_int Tryz.underlying3 (hval 2 3 v2 rfl rfl) h2
  clear hA0 hval0 hsz0 hsz
  refine (letters_walk a0 a1 a2 W hT).mono fun e W' ⟨he, bel⟩ => ?_
  subst he
  exact ⟨_, rfl, _, _, _, [], _, [], hW', trodAll_mk1 (shut_bool Tryz.underlying4 _), trodAll_cons_mk (shut_int Tryz.underlying3 w0) (trodAll_cons_mk (shut_int Tryz.underlying3 w1) (trodAll_cons_mk (shut_int Tryz.underlying3 w2) (trodAll_mk0))), rfl, bel.frame _, fun h => by cases h⟩
theorem over : Rows.termLettersRow.holds Tryz.pinned (OpenSpec.ofChange Rows.termLettersSpec) :=
  OpenClaim.holds_of_wide 5 Tryz.f5 rfl rfl rfl rfl rfl rfl rfl ⟨rfl, rfl, rfl, rfl, rfl⟩ rfl rfl rfl rfl rfl (by kernel_rfl) Tryz.func5 (by kernel_rfl)
    (of_decide_eq_true (by kernel_rfl)) (by unfold Func.isWrapper; first | (rw [if_pos (by decide +kernel)]; kernel_rfl) | (rw [if_neg (by decide +kernel)]; exact ⟨rfl, rfl⟩))
    (fun os started H enc _ => lifted os started H enc)
theorem card_holds : Rows.TermLettersCardSaid :=
  Claim7.holds_tied_plain_at .later [] [.data, .data, .data, .data, .sentinel, .sentinel, .pinned] true (true, "48d303ccddb1c992537d5c453766d945c5a3517555b53bd919b223572e26829e") true over (fun _ h => by cases h) (by kernel_rfl) (fun _ h => by cases h) termLetters_row_tie rfl ⟨rfl, rfl⟩ (by kernel_rfl) rfl
    (fun f fn hf hfn => by
      obtain rfl : f = 5 := Option.some.inj ((show Tryz.prog.funcNamed "souffleur/souffleurlaw17.TermLetters" = some 5 by kernel_rfl).symm.trans hf) |>.symm
      obtain rfl : fn = Tryz.f5 := (Option.some.inj (Tryz.func5.symm.trans hfn)).symm
      exact ⟨by kernel_rfl, fun j t ht => by
        rw [Tryz.params5] at ht
        have hm : t ∈ [3, 3, 3] := by simpa using Array.mem_of_getElem? ht
        simp only [List.mem_cons, List.mem_nil_iff, or_false] at hm
        rcases hm with rfl | rfl | rfl <;> (show Tryz.prog.wantsStandIn _ = false; kernel_rfl)⟩)
    (by kernel_rfl)
end Go.Proofs.YtgifpkjcggnhgaaGreatDoor.termLetters
namespace Go.Proofs.YtgifpkjcggnhgaaGreatDoor
theorem termLetters_holds : Rows.TermLettersCardSaid := termLetters.card_holds
end Go.Proofs.YtgifpkjcggnhgaaGreatDoor
end
section
namespace Go.Proofs.YtgifpkjcggnhgaaGreatDoorL
open Go Go.RowKit Go.ChangeShapes Go.WideShapes Go.Deep Go.Proofs.YtgifpkjcggnhgaaGreatDoorW.PrintWords
theorem okWide_array {P : Program} {w : World} {r : Reach} {base : Nat} {t : TypeId} {v : Value} {n : Nat} {e : TypeId} (ht : P.underlying t = some (.array n e)) (h : Value.okWide P w r base t v) : ∃ cs, v = .agg cs ∧ cs.size = P.cellsOf t := by
  simp only [Value.okWide, ht] at h
  obtain ⟨cs, h1, h2, _⟩ := h
  exact ⟨cs, h1, h2⟩
def kArr2 : Kd (Int × Int) := Kd.pair (Kd.int .i64) (Kd.int .i64)
theorem kArr2_open {w : World} {x : Int × Int} {cs : List Value} (h : kArr2.K w x cs) : cs = [.int .i64 x.1, .int .i64 x.2] := by
  obtain ⟨a, b, rfl, h1, h2⟩ := h
  rw [show a = [Value.int .i64 x.1] from h1, show b = [Value.int .i64 x.2] from h2]
  rfl
set_option maxRecDepth 100000 in
theorem opensArr2 : Opens Tryz.prog kArr2 (fun _ => True) 22 := by
  intro H enc w base spare held fuel cs x h hw
  obtain ⟨xs, m, rfl, rfl, hl, hx, hf⟩ := DataW.trod_array Tryz.underlying22 h
  rw [show Tryz.prog.cellsOf 3 = 1 by kernel_rfl] at hf
  rw [show Tryz.prog.cellsOf 22 = 2 by kernel_rfl] at hl
  match cs, hl with
  | [c0, c1], _ =>
    have h0 := hf 0 (by decide)
    have h1 := hf 1 (by decide)
    match xs, hx with
    | [y0, y1], _ =>
      simp only [Nat.zero_mul, List.drop_zero, List.take, List.getElem?_cons_zero, Nat.one_mul, List.drop, List.getElem?_cons_succ] at h0 h1
      simp only [DataW.weights, Tryz.underlying22] at hw
      have hws : ∀ y ∈ [y0, y1], (y.1.weights Tryz.prog 3).all (· ≤ reachBytes) = true := by
        intro y hy
        refine List.all_eq_true.2 fun v hv => List.all_eq_true.1 hw v ?_
        exact weightsAll_mem (d := y.1) (List.mem_map.2 ⟨y, hy, rfl⟩) v hv
      obtain ⟨a0, g0, _⟩ := opens_int Tryz.underlying3 enc w base spare held _ _ _ h0 (hws y0 (by simp))
      obtain ⟨a1, g1, _⟩ := opens_int Tryz.underlying3 enc w base spare held _ _ _ h1 (hws y1 (by simp))
      obtain rfl := int_of g0
      obtain rfl := int_of g1
      exact ⟨(a0, a1), ⟨[.int .i64 a0], [.int .i64 a1], rfl, rfl, rfl⟩, trivial⟩
end Go.Proofs.YtgifpkjcggnhgaaGreatDoorL
end
