/- Parts of the proof of the law that the last file states; declarations that nothing mentions are left out by a program. No conditions. -/
import Derived.Test.YtcpkoajnepijkaaNamesq
set_option linter.unusedVariables false
set_option linter.unusedSimpArgs false
namespace Go.Proofs.Ytcpkoajnepijkaa
open Go.RowKit Go.Proofs.YtcpkoajnepijkaaL Go.Proofs.YtcpkoajnepijkaaW.PrintWords
theorem rb_lit (base : Nat) (w : World) (xs : List Int) (hm : xs.length ≤ 1000000) : RB base NoL (w.alloc (.cells (encs (Value.int .u8) xs).toArray 5)) (.slice (some ⟨w.heap.size, 0, none⟩) xs.length xs.length) xs := by
  refine RB.of_R (ok := fun _ => True) (B := w.heap.size) ?_ (fun _ _ h => h)
  exact Kd.R_of_own (own_lit w w.heap.size 5 .u8 xs (Nat.le_refl _) (by omega)) (fun _ _ => trivial)
theorem bo {B : Nat} {w w1 w2 : World} {G : Nat → Prop} (hb : Below B w w1) (ho : Only G w1 w2) (hG : ∀ g, G g → B ≤ g) (hs : B ≤ w1.heap.size) : Below B w w2 := hb.trans (ho.to_below hG hs)
theorem below_alloc' {B : Nat} {w w1 : World} (hb : Below B w w1) (hs : B ≤ w1.heap.size) (o : Obj) : Below B w (w1.alloc o) ∧ B ≤ (w1.alloc o).heap.size := ⟨hb.alloc hs o, by simp; omega⟩
set_option maxRecDepth 100000 in
set_option maxHeartbeats 4000000 in
theorem alive_walk (w : World) : Calls Try.prog 11 #[] w fun e w' => e = .returned (.bool true) ∧ Below w.heap.size w w' := by
  have XN := Zz.mk (fsat_new (base := w.heap.size) (Lz := NoL) (w := w) (Nat.le_refl _) (fun _ h => h.elim))
  go_enter Try.func11, Try.ntmps11
  go_wp2_with fail
  go_at_call 12
  with_reducible refine (XN.out).mono ?_
  rintro e w1 ⟨F, fp, rfl, hf1, hfp, hb1⟩
  have HF1 := Zz.mk hf1
  have XW := Zz.mk (fun W (hW : Below w1.heap.size w1 W) => (HF1.out.below hW))
  clear hf1
  clear XW
  have XW1 : Zz (∀ W c, Below w1.heap.size w1 W → RB w.heap.size NoL W (.slice (some ⟨c, 0, none⟩) 1 1) [1] → Calls Try.prog 23 #[ptr F, .string nA, .slice (some ⟨c, 0, none⟩) 1 1] W fun e w' => e = .returned (.int .i64 (writeP newP nA [1]).1) ∧ (∃ fp', FSat w.heap.size NoL w' F fp' aS1 1 ∧ ∀ g, fp' g → fp g ∨ W.heap.size ≤ g) ∧ Only fp W w') :=
    ⟨fun W c hW hr => (HF1.out.below hW).write (by omega) nA hr (by omega)⟩
  rw [alive_facts.1] at XW1
  go_wp2_with fail
  go_at_call 23
  refine (XW1.out _ _ (below_alloc (Below.refl _ _) _) (rb_lit _ w1 [1] (by decide))).mono ?_
  rintro e w2 ⟨rfl, ⟨fp2, hf2, hfp2⟩, ho2⟩
  have HF2 := Zz.mk hf2
  have HO2 := Zz.mk ho2
  clear hf2 ho2
  go_wp2_with fail
  have XW2 : Zz (∀ W c, Below w2.heap.size w2 W → RB w.heap.size NoL W (.slice (some ⟨c, 0, none⟩) 1 1) [2] → Calls Try.prog 23 #[ptr F, .string nA, .slice (some ⟨c, 0, none⟩) 1 1] W fun e w' => e = .returned (.int .i64 (writeP aS1 nA [2]).1) ∧ (∃ fp', FSat w.heap.size NoL w' F fp' aS2 2 ∧ ∀ g, fp' g → fp2 g ∨ W.heap.size ≤ g) ∧ Only fp2 W w') :=
    ⟨fun W c hW hr => (HF2.out.below hW).write (by omega) nA hr (by omega)⟩
  rw [alive_facts.2.1] at XW2
  go_at_call 23
  refine (XW2.out _ _ (below_alloc (Below.refl _ _) _) (rb_lit _ w2 [2] (by decide))).mono ?_
  rintro e w3 ⟨rfl, ⟨fp3, hf3, hfp3⟩, ho3⟩
  have HF3 := Zz.mk hf3
  have HO3 := Zz.mk ho3
  clear hf3 ho3
  have XC := Zz.mk (HF3.out.copy (by omega))
  go_wp2_with fail
  go_at_call 19
  with_reducible refine (XC.out).mono ?_
  rintro e w4 ⟨C, fc4, rfl, hc4, hfc4, hb4⟩
  have HF4 := Zz.mk (HF3.out.below hb4)
  have HC4 := Zz.mk hc4
  have HB4 := Zz.mk hb4
  have HFC4 : Zz (∀ g, fc4 g → ¬ fp3 g) := ⟨fun g hg hg3 => by have := hfc4 g hg; have := HF3.out.lt g hg3; omega⟩
  clear hc4 hb4 hfc4
  go_wp2_with fail
  have XK : Zz (Calls Try.prog 20 #[ptr F, .slice (some ⟨w4.heap.size, 0, none⟩) 2 2] (w4.alloc (.cells #[.bool false, .bool true] 4)) fun e w' => e = .returned (.tuple #[]) ∧ FSat w.heap.size NoL w' F fp3 aS3 2 ∧ Only fp3 (w4.alloc (.cells #[.bool false, .bool true] 4)) w') :=
    ⟨(HF4.out.below (below_alloc (Below.refl _ _) _)).crash (by omega) (keep := [false, true]) (Gk := w4.heap.size) (ok := 0) (fun _ => rfl) (fun i hi => by
      have hb := Blk.new w4 4 #[.bool false, .bool true]
      rcases i with _ | _ | i
      · exact hb.cell 0 rfl
      · exact hb.cell 1 rfl
      · simp at hi
        omega) (fun _ hg => by have := HF4.out.lt _ hg; omega) (by decide)⟩
  go_at_call 20
  with_reducible refine (XK.out).mono ?_
  rintro e w5 ⟨rfl, hf5, ho5⟩
  have HF5 := Zz.mk hf5
  have HC5 : Zz (FSat w.heap.size NoL w5 C fc4 aS2 2) := ⟨(HC4.out.below (below_alloc (Below.refl _ _) _)).only ho5 (HF4.out.below (below_alloc (Below.refl _ _) (.cells #[.bool false, .bool true] 4))).mut (fun g hg hc => HFC4.out g hc hg)⟩
  have HO5 := Zz.mk ho5
  clear hf5 ho5
  have XR := Zz.mk (HF5.out.read (by omega) nA)
  rw [show aS3 = aS3 from rfl, alive_facts.2.2.1] at XR
  go_wp2_with fail
  go_at_call 18
  refine (XR.out).mono ?_
  rintro e w6 ⟨v6, rfl, hv6, hb6⟩
  have HV6 := Zz.mk hv6
  have HF6 := Zz.mk (HF5.out.below hb6)
  have HC6 := Zz.mk (HC5.out.below hb6)
  have HB6 := Zz.mk hb6
  clear hv6 hb6
  go_wp2_with fail
  have XA := Zz.mk (HF6.out.arm (n := 0) (by decide))
  go_at_call 24
  with_reducible refine (XA.out).mono ?_
  rintro e w7 ⟨rfl, hf7, ho7⟩
  have HF7 : Zz (FSat w.heap.size NoL w7 F fp3 aS4 2) := ⟨hf7⟩
  have HC7 := Zz.mk (HC6.out.only ho7 HF6.out.mut (fun g hg hc => HFC4.out g hc hg))
  have HO7 := Zz.mk ho7
  clear hf7 ho7
  have XS := Zz.mk (HF7.out.sync (by omega) nA)
  unfold LeftP at XS
  rw [alive_facts.2.2.2.1] at XS
  go_wp2_with fail
  go_at_call 29
  refine (XS.out).mono ?_
  rintro e w8 ⟨rfl, ⟨fp8, hf8, hfp8⟩, ho8⟩
  have HF8 : Zz (FSat w.heap.size NoL w8 F fp8 aS5 3) := ⟨hf8⟩
  have HC8 := Zz.mk (HC7.out.only ho8 HF7.out.mut (fun g hg hc => HFC4.out g hc hg))
  have HO8 := Zz.mk ho8
  clear hf8 ho8
  have XY := Zz.mk (HC8.out.read (by omega) nA)
  rw [alive_facts.2.2.2.2.2.1] at XY
  go_wp2_with fail
  go_at_call 18
  refine (XY.out).mono ?_
  rintro e w9 ⟨v9, rfl, hv9, hb9⟩
  have HV9 := Zz.mk hv9
  have HF9 := Zz.mk (HF8.out.below hb9)
  have HC9 := Zz.mk (HC8.out.below hb9)
  have HB9 := Zz.mk hb9
  clear hv9 hb9
  have XT := Zz.mk (HC9.out.fault (n := 0) (by decide))
  go_wp2_with fail
  go_at_call 28
  with_reducible refine (XT.out).mono ?_
  rintro e w10 ⟨rfl, hc10, ho10⟩
  have HC10 : Zz (FSat w.heap.size NoL w10 C fc4 aC1 2) := ⟨hc10⟩
  have HO10 := Zz.mk ho10
  clear hc10 ho10
  go_wp2_with fail
  have HR6 : Zz (RB w.heap.size NoL w10 v6 [0, 2]) := ⟨(((((RB.of_R HV6.out (fun _ _ h => h)).only HO7.out HF6.out.mut).only HO8.out HF7.out.mut).below HB9.out).only HO10.out HC9.out.mut)⟩
  have HR9 : Zz (RB w.heap.size NoL w10 v9 [1, 2]) := ⟨(RB.of_R HV9.out (fun _ _ h => h)).only HO10.out HC9.out.mut⟩
  have XE := Zz.mk (equal_calls (HR6.out.below (below_alloc (Below.refl _ _) _)) (rb_lit w.heap.size w10 [0, 2] (by decide)) rfl)
  go_at_call 21
  refine (XE.out).mono ?_
  rintro e w11 ⟨rfl, hb11⟩
  have HB11 := Zz.mk (below_alloc (Below.refl w10.heap.size w10) (.cells (encs (Value.int .u8) [0, 2]).toArray 5) |>.trans (hb11.mono (by simp)))
  clear hb11
  have HF10 : Zz (FSat w.heap.size NoL w10 F fp8 aS5 3) := ⟨HF9.out.only HO10.out HC9.out.mut (fun g hc hg => by
    rcases hfp8 g hg with h | h
    · exact HFC4.out g hc h
    · have := HC7.out.lt g hc; omega)⟩
  have HF11 := Zz.mk (HF10.out.below HB11.out)
  have HC11 := Zz.mk (HC10.out.below HB11.out)
  go_wp2_with fail
  have XD := Zz.mk (HF11.out.down)
  rw [alive_facts.2.2.2.2.1] at XD
  go_at_call 25
  with_reducible refine (XD.out).mono ?_
  rintro e w12 ⟨rfl, rfl⟩
  have HR9' := Zz.mk (HR9.out.below HB11.out)
  have XE2 := Zz.mk (equal_calls (HR9'.out.below (below_alloc (Below.refl _ _) _)) (rb_lit w.heap.size w12 [1, 2] (by decide)) rfl)
  go_wp2_with fail
  go_at_call 21
  refine (XE2.out).mono ?_
  rintro e w13 ⟨rfl, hb13⟩
  have HB13 := Zz.mk (below_alloc (Below.refl w12.heap.size w12) (.cells (encs (Value.int .u8) [1, 2]).toArray 5) |>.trans (hb13.mono (by simp)))
  clear hb13
  have HC13 := Zz.mk (HC11.out.below HB13.out)
  have XP := Zz.mk (HC13.out.pending)
  rw [alive_facts.2.2.2.2.2.2.1] at XP
  go_wp2_with fail
  go_at_call 22
  with_reducible refine (XP.out).mono ?_
  rintro e w14 ⟨rfl, rfl⟩
  have XW3 := Zz.mk (HC13.out.write (by omega) nA (RB.nil w.heap.size NoL w14) (by omega))
  rw [alive_facts.2.2.2.2.2.2.2.1] at XW3
  go_wp2_with fail
  go_at_call 23
  refine (XW3.out).mono ?_
  rintro e w15 ⟨rfl, ⟨fc15, hc15, hfc15⟩, ho15⟩
  have HC15 : Zz (FSat w.heap.size NoL w15 C fc15 aC2 3) := ⟨hc15⟩
  have HO15 := Zz.mk ho15
  clear hc15 ho15
  go_wp2_with fail
  have XM := Zz.mk (HC15.out.rename (by omega) nA nB)
  unfold LeftP at XM
  rw [alive_facts.2.2.2.2.2.2.2.2.1] at XM
  go_at_call 31
  refine (XM.out).mono ?_
  rintro e w16 ⟨rfl, ⟨fc16, hc16, hfc16⟩, ho16⟩
  have HC16 : Zz (FSat w.heap.size NoL w16 C fc16 aC3 4) := ⟨hc16⟩
  have HO16 := Zz.mk ho16
  clear hc16 ho16
  go_wp2_with fail
  have HWL : Zz (WellP aC3) := ⟨((((well_new.write nA [1]).write nA [2]).of (S' := aC1) rfl).write nA []).rename nA nB⟩
  have XN1 := Zz.mk (HC16.out.names HWL.out)
  have HWL : Zz (WellP aC3) := ⟨((((well_new.write nA [1]).write nA [2]).of (S' := aC1) rfl).write nA []).rename nA nB⟩
  have hl1 : aC3.l.length = 1 := by decide +kernel
  have hm1 : (aC3.l.map fun f => Value.string f.name) = [.string nB] := by
    have := congrArg (List.map Value.string) alive_facts.2.2.2.2.2.2.2.2.2.1
    simpa [List.map_map, Function.comp_def] using this
  rw [hl1, hm1] at XN1
  clear hl1 hm1
  go_at_call 27
  with_reducible refine (XN1.out).mono ?_
  rintro e w17 ⟨v17, rfl, hv17, hb17⟩
  obtain ⟨A17, c17, rfl, _⟩ := own_slice hv17
  have HC17 := Zz.mk (HC16.out.below hb17)
  have HB17 := Zz.mk hb17
  clear hv17 hb17
  go_wp2_with fail
  have XN2 := Zz.mk (HC17.out.names HWL.out)
  have hl1 : aC3.l.length = 1 := by decide +kernel
  have hm1 : (aC3.l.map fun f => Value.string f.name) = [.string nB] := by
    have := congrArg (List.map Value.string) alive_facts.2.2.2.2.2.2.2.2.2.1
    simpa [List.map_map, Function.comp_def] using this
  rw [hl1, hm1] at XN2
  clear hl1 hm1
  go_at_call 27
  with_reducible refine (XN2.out).mono ?_
  rintro e w18 ⟨v18, rfl, hv18, hb18⟩
  obtain ⟨g18, cp18, cu18, rfl, hbl18, hget18⟩ : ∃ g c cur, v18 = .slice (some ⟨g, 0, none⟩) 1 c ∧ w18.heap[g]? = some (.cells cur 9 (0, 0)) ∧ cur[0]? = some (.string nB) := by
    rcases hv18.2 with ⟨_, h0⟩ | ⟨g, cap, cur, e1, e2, e3, e4, e5, e6, e7⟩
    · cases h0
    · refine ⟨g, cap, cur, e1, e3, ?_⟩
      have h1 := congrArg (fun l : List Value => l[0]?) e7
      simp only [List.getElem?_take] at h1
      simpa using h1
  have hc18 : w18.cell? ⟨g18, 0, none⟩ = some (.string ⟨#[98]⟩) := (cell_of_row w18 g18 0 cu18 9 (0, 0) hbl18).trans hget18
  have HC18 := Zz.mk (HC17.out.below hb18)
  have HB18 := Zz.mk hb18
  clear hv18 hb18 hbl18 hget18
  clear XE XE2 XD HR9' HR6 HR9 XT XY HV9 XS XA HV6 XR XK XC XW1 XW2 XN XP XW3 XM XN1 XN2
  go_wp2_with fail
  have XX := Zz.mk (HC18.out.cut (by omega) nB 1)
  unfold LeftP at XX
  rw [alive_facts.2.2.2.2.2.2.2.2.2.2.1] at XX
  go_at_call 32
  refine (XX.out).mono ?_
  rintro e w19 ⟨rfl, ⟨fc19, hc19, hfc19⟩, ho19⟩
  have HC19 : Zz (FSat w.heap.size NoL w19 C fc19 aC4 5) := ⟨hc19⟩
  have HO19 := Zz.mk ho19
  clear hc19 ho19
  go_wp2_with fail
  have XQ := Zz.mk (HC19.out.remove (by omega) nB)
  unfold LeftP at XQ
  rw [alive_facts.2.2.2.2.2.2.2.2.2.2.2.1] at XQ
  go_at_call 33
  refine (XQ.out).mono ?_
  rintro e w20 ⟨rfl, ⟨fc20, hc20, hfc20⟩, ho20⟩
  have HC20 : Zz (FSat w.heap.size NoL w20 C fc20 aC5 6) := ⟨hc20⟩
  have HO20 := Zz.mk ho20
  clear hc20 ho20
  go_wp2_with fail
  have XO := Zz.mk (HC20.out.ops)
  rw [alive_facts.2.2.2.2.2.2.2.2.2.2.2.2] at XO
  go_at_call 26
  with_reducible refine (XO.out).mono ?_
  rintro e w21 ⟨rfl, rfl⟩
  have HEND : Zz (Below w.heap.size w w21) := ⟨by
    have a2 := below_alloc' hb1 HF1.out.base_le (.cells (encs (Value.int .u8) [1]).toArray 5)
    have b2 := bo a2.1 HO2.out hfp a2.2
    have a3 := below_alloc' b2 HF2.out.base_le (.cells (encs (Value.int .u8) [2]).toArray 5)
    have b3 := bo a3.1 HO3.out (fun g h => (HF2.out.mut g h).1) a3.2
    have b4 := b3.trans (HB4.out.mono HF3.out.base_le)
    have a5 := below_alloc' b4 HF4.out.base_le (.cells #[.bool false, .bool true] 4)
    have b5 := bo a5.1 HO5.out (fun g h => (HF3.out.mut g h).1) a5.2
    have b6 := b5.trans (HB6.out.mono HF5.out.base_le)
    have b7 := bo b6 HO7.out (fun g h => (HF3.out.mut g h).1) HF6.out.base_le
    have b8 := bo b7 HO8.out (fun g h => (HF3.out.mut g h).1) HF7.out.base_le
    have b9 := b8.trans (HB9.out.mono HF8.out.base_le)
    have b10 := bo b9 HO10.out (fun g h => (HC9.out.mut g h).1) HC9.out.base_le
    have b12 := b10.trans (HB11.out.mono HC10.out.base_le)
    have b13 := b12.trans (HB13.out.mono HC11.out.base_le)
    have b15 := bo b13 HO15.out (fun g h => (HC13.out.mut g h).1) HC13.out.base_le
    have b16 := bo b15 HO16.out (fun g h => (HC15.out.mut g h).1) HC15.out.base_le
    have b17 := b16.trans (HB17.out.mono HC16.out.base_le)
    have b18 := b17.trans (HB18.out.mono HC17.out.base_le)
    have b19 := bo b18 HO19.out (fun g h => (HC18.out.mut g h).1) HC18.out.base_le
    exact bo b19 HO20.out (fun g h => (HC19.out.mut g h).1) HC19.out.base_le⟩
  go_wp2
  go_ret
  exact ⟨rfl, HEND.out⟩
end Go.Proofs.Ytcpkoajnepijkaa

