/- Parts of the proof of the law that the last file states; declarations that nothing mentions are left out by a program. No conditions. -/
import Derived.Test.YtgifpkjcggnhgaaGreatDoorRows
import Derived.Test.YtgifpkjcggnhgaaGreatDoorCards
import Derived.Test.YtgifpkjcggnhgaaGreatDoorTie
import Derived.Lay
import Derived.SevenTiedAt
import Derived.WalkKit
import Derived.ProofKit
import Derived.OpenShut
import Derived.ShutString
import Derived.ChangeOld
import Derived.Below
import Derived.SizedLaws
import Derived.Test.YtgifpkjcggnhgaaGreatDoorLTermCeq
import Derived.Test.YtgifpkjcggnhgaaGreatDoorLTermTq
import Derived.Test.YtgifpkjcggnhgaaGreatDoorLOpenq
import Derived.Test.YtgifpkjcggnhgaaGreatDoorLTermDq
set_option linter.unusedVariables false
set_option linter.unusedSimpArgs false
section
namespace Go.Proofs.YtgifpkjcggnhgaaGreatDoor.termCells
open Go.ChangeShapes Go.WideShapes Go.ChangeAt Go.RowKit Go.Proofs.YtgifpkjcggnhgaaGreatDoorL Go.Proofs.YtgifpkjcggnhgaaGreatDoor.K
open Go.ChangeMaps (open_string shut_string)
theorem own : ownKnob Tryz.prog.godebug = none := by kernel_rfl
theorem laidOut : laidOutB Tryz.prog = true := by kernel_rfl
set_option maxRecDepth 100000 in
theorem lifted (os : Os) (started : os.Started) (H : Type) (enc : TypeId × Value → H) :
    ReturnsInHanded {} Tryz.checked os 3 .any (fun w args => (Rows.termCellsSpec.pre enc Tryz.prog Tryz.f3 [] false w args ∧ laidMetH Tryz.prog Go.Proofs.YtgifpkjcggnhgaaGreatDoorL.laidT w) ∧ sizedMet enc Tryz.prog Tryz.f3 (OpenSpec.ofChange Rows.termCellsSpec) false w args) (Rows.termCellsSpec.post enc Tryz.prog Tryz.f3 false true false false) := by
  refine handed_shaped (C := Tryz.checked) (X := fun w _ => laidMetH Tryz.prog Go.Proofs.YtgifpkjcggnhgaaGreatDoorL.laidT w) (fun _ _ _ hh h => h.of_heap hh) own started (by kernel_rfl) Tryz.func3
    (ChangeSpec.witness_shaped (enc := enc) (C := Tryz.checked) (os := os) (X := fun w _ => laidMetH Tryz.prog Go.Proofs.YtgifpkjcggnhgaaGreatDoorL.laidT w) false (World.laidAll Tryz.prog os Go.Proofs.YtgifpkjcggnhgaaGreatDoorL.laidT) #[.agg #[.int .i64 0, .int .i64 0], .slice none 0 0] 8 (World.laidAll_os _ _ _)
      (World.shaped_of_ZipB (by kernel_rfl) (by kernel_rfl)) (by kernel_rfl) (by kernel_rfl) (by kernel_rfl)
      (by rw [MakeChecks.laidMetH_plain _ _ _ (by kernel_rfl)]; exact laidMet_laidAll _ (by kernel_rfl) (by kernel_rfl))) ?_
  intro W base args ds gs before hval0 hW hcnd hsz0 hL0 hSh _
  have hT0 := hL0
  rw [MakeChecks.laidMetH_plain _ _ _ (by kernel_rfl)] at hT0
  have hT := Go.Proofs.YtgifpkjcggnhgaaGreatDoorL.tabsT_of hT0 hSh
  have hsz : (DataW.weightsEach Tryz.prog (Tryz.f3.params.toList ++ Rows.termCellsSpec.plain.varTypes Tryz.prog) (ds ++ gs)).all (· ≤ reachBytes) = true := hsz0
  have hval : ∀ (j : Nat) t v, Tryz.f3.params[j]? = some t → args[j]? = some v → Value.okWide Tryz.prog W .any base t v := hval0
  have hW' := hW
  obtain ⟨p, q, hA0, hV, rfl, hfz, hnd⟩ := hW
  have hA : DataW.TrodAll enc Tryz.prog W 0 (fun _ => true) true Tryz.f3.params.toList args.toList ds p := hA0
  rw [Tryz.params3] at hA hval hsz
  obtain ⟨v0, vs0, d0, ds0, p0, q0, hargs, rfl, rfl, h0, r0⟩ := trodAll_cons hA
  obtain ⟨v1, vs1, d1, ds1, p1, q1, rfl, rfl, rfl, h1, r1⟩ := trodAll_cons r0
  obtain ⟨rfl, rfl, rfl⟩ := trodAll_nil r1
  obtain rfl : args = #[v0, v1] := by cases args; simp_all
  obtain ⟨rfl, rfl⟩ := trodVars_none hV
  have hw0 : (d0.weights Tryz.prog 22).all (· ≤ reachBytes) = true := List.all_eq_true.2 fun v hv => List.all_eq_true.1 hsz v (DataW.weights_mem_each (j := 0) (t := 22) (d := d0) rfl rfl v hv)
  obtain ⟨cs0, rfl, _⟩ := okWide_array Tryz.underlying22 (hval 0 22 v0 rfl rfl)
  have k0 := h0
  have lt0 : ∀ x ∈ p0, x.block < W.heap.size := by obtain ⟨m, hm⟩ := k0; exact DataW.trod_lt m _ _ _ hm
  obtain ⟨fu0, hf0⟩ := h0
  obtain ⟨x0, hK0, hQ0⟩ := (opensArr2) enc W 0 _ true fu0 _ _ hf0 hw0
  have hw1 : (d1.weights Tryz.prog 23).all (· ≤ reachBytes) = true := List.all_eq_true.2 fun v hv => List.all_eq_true.1 hsz v (DataW.weights_mem_each (j := 1) (t := 23) (d := d1) rfl rfl v hv)
  obtain ⟨A1, len1, c1, rfl⟩ := okWide_slice Tryz.underlying23 (hval 1 23 v1 rfl rfl)
  have k1 := h1
  have lt1 : ∀ x ∈ p1, x.block < W.heap.size := by obtain ⟨m, hm⟩ := k1; exact DataW.trod_lt m _ _ _ hm
  obtain ⟨fu1, hf1⟩ := h1
  obtain ⟨l1, hK1, hQ1⟩ := (opensEvents) enc W 0 _ true fu1 _ _ hf1 hw1
  obtain ⟨B1, e1, hv1, hc1, hC1⟩ := slice_read hK1
  obtain ⟨rfl, rfl, rfl⟩ := Value.slice.inj hv1
  clear hA0 hval0 hsz0 hsz
  refine (cells_walk' hK0 hc1 hC1 hQ1 hT).mono fun e W' ⟨he, bel⟩ => ?_
  subst he
  exact ⟨_, rfl, _, _, _, [], _, [], hW', trodAll_mk1 (shut_bool Tryz.underlying4 _), trodAll_cons_mk (Below.trod laidOut (by kernel_rfl) (of_decide_eq_true (by kernel_rfl)) k0 bel lt0) (trodAll_cons_mk (Below.trod laidOut (by kernel_rfl) (of_decide_eq_true (by kernel_rfl)) k1 bel lt1) (trodAll_mk0)), rfl, bel.frame _, fun h => by cases h⟩
theorem over : Rows.termCellsRow.holds Tryz.pinned (OpenSpec.ofChange Rows.termCellsSpec) :=
  OpenClaim.holds_of_wide 3 Tryz.f3 rfl rfl rfl rfl rfl rfl rfl ⟨rfl, rfl, rfl, rfl, rfl⟩ rfl rfl rfl rfl rfl (by kernel_rfl) Tryz.func3 (by kernel_rfl)
    (of_decide_eq_true (by kernel_rfl)) (by unfold Func.isWrapper; first | (rw [if_pos (by decide +kernel)]; kernel_rfl) | (rw [if_neg (by decide +kernel)]; exact ⟨rfl, rfl⟩))
    (fun os started H enc _ => lifted os started H enc)
theorem card_holds : Rows.TermCellsCardSaid :=
  Claim7.holds_tied_plain_at .later [] [.data, .data, .data, .data, .sentinel, .sentinel, .pinned] true (true, "48d303ccddb1c992537d5c453766d945c5a3517555b53bd919b223572e26829e") true over (fun _ h => by cases h) (by kernel_rfl) (fun _ h => by cases h) termCells_row_tie rfl ⟨rfl, rfl⟩ (by kernel_rfl) rfl
    (fun f fn hf hfn => by
      obtain rfl : f = 3 := Option.some.inj ((show Tryz.prog.funcNamed "souffleur/souffleurlaw17.TermCells" = some 3 by kernel_rfl).symm.trans hf) |>.symm
      obtain rfl : fn = Tryz.f3 := (Option.some.inj (Tryz.func3.symm.trans hfn)).symm
      exact ⟨by kernel_rfl, fun j t ht => by
        rw [Tryz.params3] at ht
        have hm : t ∈ [22, 23] := by simpa using Array.mem_of_getElem? ht
        simp only [List.mem_cons, List.mem_nil_iff, or_false] at hm
        rcases hm with rfl | rfl <;> (show Tryz.prog.wantsStandIn _ = false; kernel_rfl)⟩)
    (by kernel_rfl)
end Go.Proofs.YtgifpkjcggnhgaaGreatDoor.termCells
namespace Go.Proofs.YtgifpkjcggnhgaaGreatDoor
theorem termCells_holds : Rows.TermCellsCardSaid := termCells.card_holds
end Go.Proofs.YtgifpkjcggnhgaaGreatDoor
end
section
namespace Go.Proofs.YtgifpkjcggnhgaaGreatDoorL
open Go Go.RowKit
structure Calm (s : Tm) : Prop where
  inn : s.inn = 0
  b : s.b = []
section
variable {M : Nat} {s t : Tm}
theorem feed_cons' (s : Tm) (x : UInt8) (l : List UInt8) : s.feed (x :: l) = (s.byte x).feed l := by unfold Tm.feed; rw [List.foldl_cons]
theorem feed_nil (s : Tm) : s.feed [] = s := rfl
theorem signs_inn : ∀ (l : List Nat) (s : Tm), (s.signs l).inn = s.inn
  | [], s => rfl
  | r :: l, s => by
    have e : s.signs (r :: l) = (s.sign (r : Int)).signs l := by unfold Tm.signs; rw [List.foldl_cons]
    rw [e, signs_inn l, (sign_keeps s (r : Int)).1]
theorem byte_24 (s : Tm) (hi : s.inn ≤ 2) : (s.byte 24).inn = 0 := by
  have hx : (24 : UInt8).toNat = 24 := rfl
  unfold Tm.byte
  rw [hx, if_neg (by omega)]
  split
  · rename_i h
    rcases h with h | h
    · unfold Tm.plain
      rw [if_neg (by decide), if_pos (.inl (by decide))]
      rw [(control_keeps _ _).2.2]
      show (s.signs _).inn = 0
      rw [signs_inn, h]
    · omega
  rename_i h
  rw [if_neg (by omega), if_neg (by omega), if_neg (by omega)]
theorem byte_13 (s : Tm) (hi : s.inn = 0) : Calm (s.byte 13) ∧ (s.byte 13).col = 0 ∧ (s.byte 13).full = false := by
  have hx : (13 : UInt8).toNat = 13 := rfl
  unfold Tm.byte
  rw [hx, if_neg (by omega), if_pos (.inl hi)]
  unfold Tm.plain
  rw [if_neg (by decide), if_pos (.inl (by decide))]
  unfold Tm.control
  rw [if_pos rfl]
  refine ⟨⟨?_, rfl⟩, rfl, rfl⟩
  show (s.signs _).inn = 0
  rw [signs_inn, hi]
theorem settle (s : Tm) (hi : s.inn ≤ 2) : Calm (s.feed [24, 13]) ∧ (s.feed [24, 13]).col = 0 ∧ (s.feed [24, 13]).full = false := by
  rw [feed_cons', feed_cons', feed_nil]
  exact byte_13 _ (byte_24 s hi)
theorem calm_27 (h : Calm s) : s.byte 27 = { s with inn := 1 } := by
  have hx : (27 : UInt8).toNat = 27 := rfl
  unfold Tm.byte
  rw [hx, if_neg (by omega), if_pos (.inr rfl), h.b]
  unfold Tm.plain
  rw [if_pos rfl]
  have e : ({ s.signs (runesL []) with b := [] } : Tm) = s := by
    show ({ s with b := [] } : Tm) = s
    rw [← h.b]
  rw [e]
  rw [h.b]
theorem open_91 (h : s.inn = 1) : s.byte 91 = { s with inn := 2, seq := ⟨#[]⟩ } := by
  have hx : (91 : UInt8).toNat = 91 := rfl
  unfold Tm.byte
  rw [hx, if_neg (by omega), if_neg (by omega), if_pos ⟨h, rfl⟩]
theorem seq_more (h : s.inn = 2) {x : UInt8} (h1 : 32 ≤ x.toNat) (h2 : x.toNat < 64) (hs : s.seq.size < 16) : s.byte x = { s with seq := s.seq.push x } := by
  unfold Tm.byte
  rw [if_neg (by omega), if_neg (by omega), if_neg (by omega), if_pos ⟨h, h1, h2⟩, if_pos hs]
theorem seq_end (h : s.inn = 2) {x : UInt8} (h1 : 64 ≤ x.toNat) (h2 : x.toNat ≤ 126) : s.byte x = Tm.ends { s with inn := 0 } s.seq.data.toList x.toNat := by
  unfold Tm.byte
  rw [if_neg (by omega), if_neg (by omega), if_neg (by omega), if_neg (by omega), if_pos ⟨h, h1, h2⟩]
theorem esc_three (h : Calm s) {a b c x : UInt8} (ha : 32 ≤ a.toNat ∧ a.toNat < 64) (hb : 32 ≤ b.toNat ∧ b.toNat < 64) (hc : 32 ≤ c.toNat ∧ c.toNat < 64) (h1 : 64 ≤ x.toNat) (h2 : x.toNat ≤ 126) : s.feed [27, 91, a, b, c, x] = Tm.ends { s with inn := 0, seq := ⟨#[a, b, c]⟩ } [a, b, c] x.toNat := by
  rw [feed_cons', feed_cons', feed_cons', feed_cons', feed_cons', feed_cons', feed_nil, calm_27 h, open_91 rfl, seq_more rfl ha.1 ha.2 (by show (0 : Nat) < 16; decide), seq_more rfl hb.1 hb.2 (by show (1 : Nat) < 16; decide), seq_more rfl hc.1 hc.2 (by show (2 : Nat) < 16; decide), seq_end rfl h1 h2]
  rfl
end
end Go.Proofs.YtgifpkjcggnhgaaGreatDoorL
end
