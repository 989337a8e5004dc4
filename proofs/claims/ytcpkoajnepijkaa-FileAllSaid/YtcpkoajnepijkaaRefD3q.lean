/- Parts of the proof of the law that the last file states; declarations that nothing mentions are left out by a program. No conditions. -/
import Derived.Test.YtcpkoajnepijkaaRefD2q
import Derived.Test.YtcpkoajnepijkaaDoesq
import Derived.Test.YtcpkoajnepijkaaAlive2q
import Derived.Test.YtcpkoajnepijkaaFileAq
set_option linter.unusedVariables false
set_option linter.unusedSimpArgs false
section
namespace Go.Proofs.Ytcpkoajnepijkaa
open Go.RowKit Go.Proofs.YtcpkoajnepijkaaL Go.Proofs.YtcpkoajnepijkaaW.PrintWords Go.Proofs.Ytcpkoajnepijkaa.Q
def doA (S : PS) (x : S34) : Int × PS :=
  if x.f0 = 5 then (0, armP S x.f4) else if x.f0 = 6 then (0, armF S x.f4) else if x.f0 = 7 then (0, crashP S x.f5) else if x.f0 = 8 then (0, S) else doP S x
theorem rdo_all {w : World} {P : Nat → Prop} {v : Value} {S : PS} (h : RSt w P v S) (hB : BoundP S) (hN : NumP S) (x : S34) (h0 : 0 ≤ x.f0) (h8 : x.f0 ≤ 8) {A3 A5 : Option Addr} {n3 c3 c5 : Nat} (h3 : Kd.V (Kd.int .u8) 5 w w.heap.size P (.slice A3 n3 c3) x.f3) (hbs : x.f3.length ≤ 1000000)
    {Gk ok : Nat} (hAk : 0 < x.f5.length → A5 = some ⟨Gk, ok, none⟩) (hkeep : ∀ i (hi : i < x.f5.length), w.cell? ⟨Gk, ok + i, none⟩ = some (.bool x.f5[i])) (hkl : x.f5.length ≤ 1000000) :
    Calls Try.prog 15 #[v, .agg #[.int .i64 x.f0, .string x.f1, .string x.f2, .slice A3 n3 c3, .int .i64 x.f4, .slice A5 x.f5.length c5]] w fun e w' =>
      ∃ v', e = .returned (.tuple #[v', .int .i64 (doA S x).1]) ∧ RSt w' (fun k => P k ∨ w.heap.size ≤ k) v' (doA S x).2 ∧ Below w.heap.size w w' := by
  by_cases h4 : x.f0 ≤ 4
  · have e : doA S x = doP S x := by
      unfold doA
      rw [if_neg (by omega), if_neg (by omega), if_neg (by omega), if_neg (by omega)]
    rw [e]
    exact rdo_calls h hB hN x h0 h4 h3 hbs
  · obtain ⟨A, m, c, rfl, hv⟩ := RSt.open_ (base := w.heap.size) h
    obtain ⟨kd, s, t, bs, n, ks⟩ := x
    simp only at h0 h8 h3 hbs hAk hkeep hkl h4 ⊢
    have hc : kd = 5 ∨ kd = 6 ∨ kd = 7 ∨ kd = 8 := by omega
    have hmx : max n (-1) = if n < -1 then -1 else n := by split <;> omega
    rcases hc with rfl | rfl | rfl | rfl
    · exact rdo_arm hv hmx
    · exact rdo_fault hv hmx
    · refine rdo_crash hv (fun G w' hF hV => ?_)
      refine (refcr_calls (V_rebase (base' := w'.heap.size) hV) hB hAk (fun i hi => ?_) hkl).mono ?_
      · have hc := hkeep i hi
        exact (hF.below.cell (World.block_lt_of_cell? w _ hc)).trans hc
      · rintro _ w'' ⟨v', rfl, hr, hb⟩
        obtain ⟨A', m', c', rfl, hv'⟩ := RSt.open_ (base := 0) hr
        exact ⟨A', m', c', rfl, hv', hb⟩
    · exact rdo_copy hv
end Go.Proofs.Ytcpkoajnepijkaa
end
section
namespace Go.Proofs.Ytcpkoajnepijkaa
open Go.RowKit Go.Proofs.YtcpkoajnepijkaaL Go.Proofs.YtcpkoajnepijkaaW.PrintWords
set_option maxRecDepth 100000 in
set_option maxHeartbeats 1000000 in
theorem does_copy {base : Nat} {w : World} {F : Nat} {fp : Nat → Prop} {S : PS} {k : Nat} (h : FSat base NoL w F fp S k) (hk : k ≤ 90000) {s t : ByteArray} {A3 A5 : Option Addr} {n3 c3 n5 c5 : Nat} {n : Int} :
    Calls Try.prog 16 #[ptr F, .agg #[.int .i64 8, .string s, .string t, .slice A3 n3 c3, .int .i64 n, .slice A5 n5 c5]] w fun e w' => ∃ C, e = .returned (.tuple #[ptr C, .int .i64 0]) ∧ (∃ fc, FSat base NoL w' C fc S k ∧ ∀ g, fc g → w.heap.size ≤ g) ∧ Only fp w w' := by
  obtain ⟨w0, hw0⟩ : ∃ w0, w0 = w.alloc (.cells #[.int .i64 8, .string s, .string t, .slice A3 n3 c3, .int .i64 n, .slice A5 n5 c5] 34) := ⟨_, rfl⟩
  have hal : Below w.heap.size w w0 := hw0 ▸ below_alloc (Below.refl _ _) _
  have HF := Zz.mk (h.below hal)
  have HO := Zz.mk (Only.of_below (F := fp) hal)
  have HLT := Zz.mk h.lt
  have HSZ := Zz.mk hal.size
  have HB0 := Zz.mk h.base_le
  have HW0 := Zz.mk hw0
  have XC := Zz.mk ((h.below hal).copy (by omega))
  rw [hw0] at XC
  clear h hal hw0
  go_enter Try.func16, Try.ntmps16
  go_wp2_with fail
  go_at_call 19
  with_reducible refine (XC.out).mono ?_
  rintro e w1 ⟨C, fc, rfl, hc, hfc, hb⟩
  rw [← HW0.out] at hfc hb
  have HC := Zz.mk hc
  have HS0 := Zz.mk hb.size
  replace HF := Zz.mk (HF.out.below hb)
  replace HO := Zz.mk (HO.out.trans (Only.of_below (F := fun _ => False) hb) (fun _ _ h => h.elim))
  have HFC : Zz (∀ g, fc g → w0.heap.size ≤ g) := ⟨hfc⟩
  clear hc hfc hb XC
  have XW : Zz (∀ W c, Below w1.heap.size w1 W → RB base NoL W (.slice (some ⟨c, 0, none⟩) 1 1) [1] → Calls Try.prog 23 #[ptr F, .string { data := #[110, 111, 110, 101] }, .slice (some ⟨c, 0, none⟩) 1 1] W fun e w' => e = .returned (.int .i64 (writeP S { data := #[110, 111, 110, 101] } [1]).1) ∧ (∃ fp', FSat base NoL w' F fp' (writeP S { data := #[110, 111, 110, 101] } [1]).2 (k + 1) ∧ ∀ g, fp' g → fp g ∨ W.heap.size ≤ g) ∧ Only fp W w') :=
    ⟨fun W c hW hr => (HF.out.below hW).write (by omega) _ hr (by decide)⟩
  go_wp2_with fail
  go_at_call 23
  refine (XW.out _ _ (below_alloc (Below.refl _ _) _) (rb_lit _ w1 [1] (by decide))).mono ?_
  rintro e w2 ⟨rfl, ⟨fp2, hf2, hfp2⟩, ho2⟩
  have hal : Below w1.heap.size w1 (w1.alloc (.cells #[.int .u8 1] 5)) := below_alloc (Below.refl _ _) _
  have ho2' : Only fp (w1.alloc (.cells #[.int .u8 1] 5)) w2 := ho2
  have HF2 := Zz.mk hf2
  have HLC : Zz (∀ g, fc g → w0.heap.size ≤ g ∧ g < w1.heap.size) := ⟨fun g hg => ⟨HFC.out g hg, HC.out.lt g hg⟩⟩
  have HP2 : Zz (∀ g, fp2 g → fp g ∨ w1.heap.size ≤ g) := ⟨fun g hg => (hfp2 g hg).imp id (fun h => Nat.le_trans hal.size h)⟩
  have HS1 := HS0
  have HC2 := Zz.mk ((HC.out.below hal).only ho2' (HF.out.below hal).mut (fun g hg hc => by have h1 := HLT.out g hg; have h2 := (HLC.out g hc).1; have h3 := HSZ.out; omega))
  have HO2 := Zz.mk ((HO.out.trans (Only.of_below (F := fun _ => False) hal) (fun _ _ h => h.elim)).trans ho2' (fun _ _ h => h))
  have HS2 := Zz.mk (Nat.le_trans hal.size ho2'.size)
  clear hf2 hfp2 ho2 ho2' hal HF HC HO XW
  have XK : Zz (Calls Try.prog 20 #[ptr F, .slice (some ⟨w2.heap.size, 0, none⟩) 1 1] (w2.alloc (.cells #[.bool true] 4)) fun e w' => e = .returned (.tuple #[]) ∧ FSat base NoL w' F fp2 (crashP (writeP S { data := #[110, 111, 110, 101] } [1]).2 [true]) (k + 1) ∧ Only fp2 (w2.alloc (.cells #[.bool true] 4)) w') :=
    ⟨(HF2.out.below (below_alloc (Below.refl _ _) _)).crash (by omega) (keep := [true]) (Gk := w2.heap.size) (ok := 0) (fun _ => rfl) (fun i hi => by
      have hb := Blk.new w2 4 #[.bool true]
      rcases i with _ | i
      · exact hb.cell 0 rfl
      · simp at hi) (fun _ hg => by have := HF2.out.lt _ hg; omega) (by decide)⟩
  go_wp2_with fail
  go_at_call 20
  with_reducible refine (XK.out).mono ?_
  rintro e w3 ⟨rfl, hf3, ho3⟩
  have hal : Below w2.heap.size w2 (w2.alloc (.cells #[.bool true] 4)) := below_alloc (Below.refl _ _) _
  have HF3 := Zz.mk hf3
  have HC3 := Zz.mk ((HC2.out.below hal).only ho3 (HF2.out.below hal).mut (fun g hg hc => by
    have h2 := HLC.out g hc
    rcases HP2.out g hg with h1 | h1
    · have h3 := HLT.out g h1; have h4 := HSZ.out; omega
    · omega))
  have HO3 := Zz.mk ((HO2.out.trans (Only.of_below (F := fun _ => False) hal) (fun _ _ h => h.elim)).trans ho3 (fun g hg h => by
    rcases HP2.out g h with h1 | h1
    · exact h1
    · have h3 := HS1.out; have h4 := HSZ.out; omega))
  clear hf3 ho3 hal XK HF2 HC2 HO2
  have XR := Zz.mk (HF3.out.remove (by omega) { data := #[97] })
  go_wp2_with fail
  go_at_call 33
  refine (XR.out).mono ?_
  rintro e w4 ⟨rfl, ⟨fp4, hf4, hfp4⟩, ho4⟩
  have HC4 := Zz.mk (HC3.out.only ho4 HF3.out.mut (fun g hg hc => by
    have h2 := HLC.out g hc
    rcases HP2.out g hg with h1 | h1
    · have h3 := HLT.out g h1; have h4 := HSZ.out; omega
    · omega))
  have HO4 := Zz.mk (HO3.out.trans ho4 (fun g hg h => by
    rcases HP2.out g h with h1 | h1
    · exact h1
    · have h3 := HS1.out; have h4 := HSZ.out; omega))
  clear hf4 hfp4 ho4 XR HF3 HC3 HO3
  go_wp2_with fail
  go_ret2
  exact ⟨C, rfl, ⟨fc, HC4.out, fun g hg => Nat.le_trans HSZ.out (HLC.out g hg).1⟩, HO4.out⟩
end Go.Proofs.Ytcpkoajnepijkaa
end
section
namespace Go.Proofs.Ytcpkoajnepijkaa
open Go.RowKit Go.Proofs.YtcpkoajnepijkaaL Go.Proofs.YtcpkoajnepijkaaW.PrintWords
theorem keep_cells {w : World} {A : Option Addr} {xs : List Bool} (h : Kd.bool.C w A xs.length xs) (h0 : 0 < xs.length) : ∃ G o, A = some ⟨G, o, none⟩ ∧ G < w.heap.size ∧ ∀ i (hi : i < xs.length), w.cell? ⟨G, o + i, none⟩ = some (.bool xs[i]) := by
  obtain ⟨ad, e, hc⟩ := h.2.2 h0
  have hcell : ∀ i (hi : i < xs.length), w.cell? (ad.add i) = some (.bool xs[i]) := fun i hi => by
    obtain ⟨c, _, hK, hu⟩ := hc i _ (List.getElem?_eq_getElem hi)
    have hK' : c = [.bool xs[i]] := hK
    have := hu 0 (.bool xs[i]) (by rw [hK']; rfl)
    have e1 : i * Kd.bool.sz + 0 = i := by show i * 1 + 0 = i; omega
    rwa [e1] at this
  obtain ⟨G, o, sp⟩ := ad
  have hsp : sp = none := by
    have := hcell 0 h0
    cases sp with
    | none => rfl
    | some s =>
      unfold World.cell? at this
      split at this
      · simp [Addr.add] at this
      · cases this
  subst hsp
  exact ⟨G, o, e, World.block_lt_of_cell? w _ (hcell 0 h0), fun i hi => by
    have := hcell i hi
    simp only [Addr.add] at this
    split at this
    · rename_i h; have : i = 0 := by simpa using h
      subst this; simpa using ‹_›
    · exact this⟩
end Go.Proofs.Ytcpkoajnepijkaa
end
