/- Parts of the proof of the law that the last file states; declarations that nothing mentions are left out by a program. No conditions. -/
import Derived.Deep.RegionHeld3
import Derived.Test.YtcpkoajnepijkaaKeeps1k
namespace Go.Proofs.Ytcpkoajnepijkaa
set_option linter.unusedVariables false
set_option linter.unusedSimpArgs false
open Go.RowKit Go.Proofs.YtcpkoajnepijkaaL Go.Proofs.YtcpkoajnepijkaaW.PrintWords Go.Proofs.Ytcpkoajnepijkaa.Q
set_option maxRecDepth 100000 in
set_option maxHeartbeats 8000000 in
theorem keeps_walk {W : World} {A0 : Option Addr} {c0 : Nat} {l0 : List S34} (hr0 : Kd.C k34 W A0 l0.length l0) (hc0 : l0.length ≤ c0) (hfew : FewP l0) {kf : Nat} (hf : souffleurlaw10_few.f kf l0 = some true) :
    Calls Try.prog 4 #[.slice A0 l0.length c0] W fun e w' => e = .returned (.bool true) ∧ Below W.heap.size W w' := by
  have XF := Aside0.mk (souffleurlaw10_few.calls kf A0 c0 l0 true W hr0 hc0 hf)
  have HR0 := Aside0.mk hr0
  have HFW := Aside0.mk hfew
  clear hr0 hc0 hf hfew
  go_enter Try.func4, Try.ntmps4
  have hu29 := Try.underlying29
  have hu34 := Try.underlying34
  have hu47 := Try.underlying47
  go_wp2_with fail
  go_at_call 10
  with_reducible refine (XF.out).mono ?_
  rintro e w0 ⟨rfl, hb0⟩
  have HB0 := Aside0.mk hb0
  clear hb0 XF
  have XN := Aside0.mk (fsat_new (base := W.heap.size) (Lz := NoL) (w := w0) HB0.out.size (fun _ h => h.elim))
  go_wp2_with fail
  go_at_call 12
  with_reducible refine (XN.out).mono ?_
  rintro e w1 ⟨F, fp, rfl, hf1, hfp, hb1⟩
  have HF1 := Aside0.mk hf1
  have HB1 := Aside0.mk (HB0.out.trans (hb1.mono HB0.out.size))
  clear hf1 hfp hb1 XN HB0
  have XR := Aside0.mk (souffleurref10_New.calls [] 0 0 (-1) (-1) false w1 rfl)
  go_wp2_with fail
  go_at_call 13
  with_reducible refine (XR.out).mono ?_
  rintro e w2 ⟨v2, rfl, hv2, hb2⟩
  have HF2 := Aside0.mk (HF1.out.below hb2)
  have HB2 := Aside0.mk (HB1.out.trans (hb2.mono HF1.out.base_le))
  obtain ⟨A, c, rfl⟩ := Kd.R_slice hv2
  have HV2 : Aside0 (Kd.V k47 47 w2 0 (fun k => w1.heap.size ≤ k) (.slice A 0 c) []) := ⟨Kd.V_mono (Kd.N_V (Kd.R_N (Kd.R_bound hv2))) (fun k hk => hk.2.1)⟩
  have HLT : Aside0 (∀ k, fp k → k < w1.heap.size) := ⟨fun k hk => HF1.out.lt k hk⟩
  clear hv2 hb2 XR HB1 HF1
  go_wp2_with (first
    | ((with_reducible refine gate_dst (N := 4) rfl ?_); refine box_event ?hg (N := 4) ?hd (cs := #[.slice none 0 0, .int .i64 0, .int .i64 0, .int .i64 0, .int .i64 0, .bool false]) (t := 29) ?hr ?_; (case hd => rfl); (case hg => rfl); (case hr => first | (go_simp; done) | (go_simp; rfl)); intro g4 hg w3 hx hb; have B4 := Aside0.mk (show Blk w3 g4 29 _ from hx); have HF3 := Aside0.mk (HF2.out.below hb); have HV3 := Aside0.mk (Kd.V_mono (Kd.V_below (Kd.V_bound HV2.out) hb) (fun k hk => (⟨fun e => by have h1 := HLT.out k e; have h2 := hk.1; omega, fun e => by have h1 := hk.2; omega, Nat.lt_of_lt_of_le hk.2 hb.size⟩ : ¬ fp k ∧ k ≠ g4 ∧ k < w3.heap.size))); have HB3 := Aside0.mk (HB2.out.trans (hb.mono HF2.out.base_le)); have HN4 : Aside0 (¬ fp g4 ∧ W.heap.size ≤ g4) := ⟨⟨fun e => by have h1 := HF2.out.lt g4 e; omega, hg ▸ HF2.out.base_le⟩⟩; clear hg hx hb HF2 HV2 HB2 HLT)
    | ((with_reducible refine gate_store (t := 29) (p := 4) rfl ?_); refine store_event rfl rfl (g := g4) (cells := #[.slice A 0 c, .int .i64 0, .int .i64 0, .int .i64 (-1), .int .i64 (-1), .bool false]) (by first | rfl | (go_simp; done) | (go_simp; rfl)) (by first | rfl | (go_simp; done) | (go_simp; rfl)) B4.out info29 rfl (by simp [Value.oneCell']) ?_; intro w4 hx hk hz hb; have H0 : Aside0 (KMid W F g4 0 w4 fp A 0 c newP newP) := ⟨KMid.store (A := none) (m := 0) (c := 0) (S0 := { newP with fuse := 0, fault := 0 }) ⟨HF3.out, .inl ⟨by decide, rfl, rfl⟩, ⟨Nat.le_refl _, Nat.le_refl _⟩, B4.out, Kd.V_nil _ _ _ _ _, HN4.out.1, HN4.out.2, HB3.out⟩ HV3.out hx hk hz hb⟩; clear hx hk hz hb B4 HF3 HV3 HB3 HN4))
  go_loopg [27] l0.length (fun kq v27 w' => ∃ j : Nat, j + kq = l0.length ∧ v27 = .int .i64 j ∧ ∃ fp A m c S, Aside0 (KMid W F g4 j w' fp A m c S S))
  case atStart => exact ⟨0, by omega, rfl, fp, _, _, _, _, H0⟩
  case round =>
    clear H0
    obtain ⟨j, hj, rfl, fpj, Aj, mj, cj, S, H⟩ := hrel
    cases gk with
    | zero =>
      have hlt : decide (j < l0.length) = false := decide_eq_false (by omega)
      have hj80 : j ≤ 80 := by have := HFW.out.1; omega
      have hdn : S.down = false := keeps_up H.out.inv
      have XC1 := Aside0.mk (H.out.fs.copy (by omega))
      have HJ := Aside0.mk hj80
      have HDN := Aside0.mk hdn
      have HLN : Aside0 (S.l.length ≤ 80) := ⟨by have := H.out.len.1; omega⟩
      clear hj hdn hj80
      go_wp2_with fail
      go_at_call 19
      with_reducible refine (XC1.out).mono ?_
      rintro e w3 ⟨Ca, fa, rfl, hca, hfa, hb3⟩
      have HCA := Aside0.mk hca
      have HFS := Aside0.mk (H.out.fs.below hb3)
      have HBX := Aside0.mk (Blk.belowW H.out.box hb3)
      have HVL : Aside0 (Kd.V k47 47 w3 0 (fun k => k < wr.heap.size) (.slice Aj mj cj) (S.l.map toF)) := ⟨V_rebase (Kd.V_mono (Kd.V_below H.out.val hb3) (fun k hk => hk.2.2))⟩
      have HBL := Aside0.mk (H.out.bel.trans (hb3.mono H.out.fs.base_le))
      have HGL := Aside0.mk H.out.box.lt
      have HSZ := Aside0.mk hb3.size
      have HFL : Aside0 ((∀ k, fa k → wr.heap.size ≤ k) ∧ ∀ k, fpj k → k < wr.heap.size) := ⟨⟨hfa, fun k hk => H.out.fs.lt k hk⟩⟩
      clear hca hfa hb3 XC1 H
      have XC2 := Aside0.mk (HFS.out.copy (by have := HJ.out; omega))
      go_wp2_with fail
      go_at_call 19
      with_reducible refine (XC2.out).mono ?_
      rintro e w4 ⟨Cb, fb, rfl, hcb, hfb, hb4⟩
      have HCB := Aside0.mk hcb
      have HFB : Aside0 (∀ k, fb k → ¬ fa k ∧ wr.heap.size ≤ k) := ⟨fun k hk => ⟨fun e => by have h1 := HCA.out.lt k e; have h2 := hfb k hk; omega, by have h1 := hfb k hk; have h2 := HSZ.out; omega⟩⟩
      replace HFS := Aside0.mk (HFS.out.below hb4)
      replace HCA := Aside0.mk (HCA.out.below hb4)
      replace HBX := Aside0.mk (Blk.belowW HBX.out hb4)
      replace HVL := Aside0.mk (V_rebase (base' := 0) (Kd.V_below HVL.out hb4))
      replace HBL := Aside0.mk (HBL.out.trans (hb4.mono (below_size HBL.out)))
      replace HSZ := Aside0.mk (Nat.le_trans HSZ.out hb4.size)
      clear hcb hfb hb4 XC2
      have XK : Aside0 (Calls Try.prog 20 #[ptr Ca, .slice (some ⟨w4.heap.size, 0, none⟩) 1 1] (w4.alloc (.cells #[.bool true] 4)) fun e w' => e = .returned (.tuple #[]) ∧ FSat W.heap.size NoL w' Ca fa (crashP S [true]) j ∧ Only fa (w4.alloc (.cells #[.bool true] 4)) w') :=
        ⟨(HCA.out.below (below_alloc (Below.refl _ _) _)).crash (by have := HJ.out; omega) (keep := [true]) (Gk := w4.heap.size) (ok := 0) (fun _ => rfl) (fun i hi => by
          have hb := Blk.new w4 4 #[.bool true]
          rcases i with _ | i
          · exact hb.cell 0 rfl
          · simp at hi) (fun _ hg => by have := HCA.out.lt _ hg; omega) (by decide)⟩
      go_wp2_with fail
      go_at_call 20
      with_reducible refine (XK.out).mono ?_
      rintro e w5 ⟨rfl, hf5, ho5⟩
      have hal : Below w4.heap.size w4 (w4.alloc (.cells #[.bool true] 4)) := below_alloc (Below.refl _ _) _
      have hmua := (HCA.out.below hal).mut
      replace HFS := Aside0.mk ((HFS.out.below hal).only ho5 hmua (fun g hg hp => by have h1 := HFL.out.1 g hg; have h2 := HFL.out.2 g hp; omega))
      replace HCB := Aside0.mk ((HCB.out.below hal).only ho5 hmua (fun g hg hp => (HFB.out g hp).1 hg))
      replace HBX := Aside0.mk ((Blk.belowW HBX.out hal).to (ho5.block g4 (by have := HGL.out; have := HSZ.out; have := hal.size; omega) (fun e => by have h1 := HFL.out.1 g4 e; have := HGL.out; omega)))
      replace HVL := Aside0.mk (show Kd.V k47 47 w5 0 (fun k => k < wr.heap.size) (.slice Aj mj cj) (S.l.map toF) from Kd.V_map (Kd.V_below HVL.out hal) (fun _ hf => Kd.F_step hf (fun k hk hlt => ho5.block k hlt (fun e => by have h1 := HFL.out.1 k e; omega))))
      replace HBL := Aside0.mk (bo (HBL.out.trans (hal.mono (below_size HBL.out))) ho5 (fun g hg => (hmua g hg).1) (Nat.le_trans (below_size HBL.out) hal.size))
      replace HSZ := Aside0.mk (Nat.le_trans HSZ.out (Nat.le_trans hal.size ho5.size))
      replace HCA := Aside0.mk hf5
      clear hf5 ho5 hal hmua XK
      have XK2 : Aside0 (Calls Try.prog 20 #[ptr Cb, .slice none 0 0] w5 fun e w' => e = .returned (.tuple #[]) ∧ FSat W.heap.size NoL w' Cb fb (crashP S []) j ∧ Only fb w5 w') :=
        ⟨HCB.out.crash (by have := HJ.out; omega) (keep := []) (Gk := 0) (ok := 0) (fun h => absurd h (by decide)) (fun i hi => absurd hi (by simp)) (fun h => absurd h (by decide)) (by decide)⟩
      go_wp2_with fail
      go_at_call 20
      with_reducible refine (XK2.out).mono ?_
      rintro e w6 ⟨rfl, hf6, ho6⟩
      have hmub := HCB.out.mut
      have hbx : Blk w6 g4 29 #[.slice Aj mj cj, .int .i64 S.no, .int .i64 S.ops, .int .i64 S.fuse, .int .i64 S.fault, .bool S.down] := HBX.out.to (ho6.block g4 (by have := HGL.out; have := HSZ.out; omega) (fun e => by have h1 := (HFB.out g4 e).2; have := HGL.out; omega))
      have H0 : Aside0 (KEnd W F Ca Cb j w6 fpj fa fb Aj mj cj S) := ⟨⟨HFS.out.only ho6 hmub (fun g hg hp => by have h1 := (HFB.out g hg).2; have h2 := HFL.out.2 g hp; omega), HCA.out.only ho6 hmub (fun g hg hp => (HFB.out g hg).1 hp), hf6, HDN.out,
        Kd.V_mono (Kd.V_map HVL.out (fun _ hf => Kd.F_step hf (fun k hk hlt => ho6.block k hlt (fun e => by have h1 := (HFB.out k e).2; omega)))) (fun k hk => by have := HSZ.out; have := ho6.size; omega), bo HBL.out ho6 (fun g hg => (hmub g hg).1) (below_size HBL.out)⟩⟩
      have u0 := hbx.cell 0 rfl
      have HM := Aside0.mk (V_len HVL.out)
      clear hf6 ho6 hmub hbx XK2 HFS HCA HCB HBX HVL HBL HSZ HFL HFB HGL
      go_wp2_with fail
      clear u0
      go_loopg [67] mj (fun kq v67 w' => ∃ i : Nat, i + kq = mj ∧ v67 = .int .i64 i ∧ Aside0 (KEnd W F Ca Cb j w' fpj fa fb Aj mj cj S))
      case atStart => exact ⟨0, by omega, rfl, H0⟩
      case round =>
        clear H0
        obtain ⟨i, hi, rfl, HE⟩ := hrel
        cases gk with
        | zero =>
          have hlt : decide (i < mj) = false := decide_eq_false (by omega)
          have XL := Aside0.mk (alive_walk wr)
          clear hi
          go_wp2_with fail
          go_at_call 11
          with_reducible refine (XL.out).mono ?_
          rintro e w7 ⟨rfl, hb7⟩
          replace HE := Aside0.mk (HE.out.below hb7)
          have XP := Aside0.mk HE.out.ca.pending
          have XP2 := Aside0.mk HE.out.cb.pending
          rw [keeps_pending] at XP XP2
          clear hb7 XL
          go_wp2_with (first
            | (go_at_call 22; first | (with_reducible refine (XP.out).mono ?_; rintro e w8 ⟨rfl, rfl⟩) | (with_reducible refine (XP2.out).mono ?_; rintro e w8 ⟨rfl, rfl⟩)))
          go_ret
          exact ⟨rfl, HE.out.bel⟩
        | succ d =>
          have hml := HM.out
          rw [List.length_map] at hml
          obtain ⟨f, hf⟩ : ∃ f, S.l[i]? = some f := ⟨_, List.getElem?_eq_getElem (by omega)⟩
          have hlt : decide ((i : Int) < (mj : Int)) = true := decide_eq_true (by omega)
          have hi0 : (0 : Int) ≤ (i : Int) := Int.natCast_nonneg i
          obtain ⟨ad, a1, m1, k1, a2, m2, k2, hA, y0, y1, y2, v1, v2, hi2⟩ := file_V HE.out.val hf
          subst hA
          have hfi := HE.out.fs.finds (List.mem_of_getElem? hf)
          have HFI := Aside0.mk hfi
          have HI := Aside0.mk hi
          have hal : Below wr.heap.size wr (wr.alloc (.cells #[.string f.name, .slice a1 m1 k1, .slice a2 m2 k2] 47)) := below_alloc (Below.refl _ _) _
          have W1 := Aside0.mk (V_rebase (base' := 0) (Kd.V_below v1 hal))
          have b0 := Aside0.mk (Blk.new wr 47 #[.string f.name, .slice a1 m1 k1, .slice a2 m2 k2])
          replace HE := Aside0.mk (HE.out.below hal)
          have XR := Aside0.mk (HE.out.fs.read (by have := HJ.out; omega) f.name)
          rw [keeps_read hfi HE.out.down] at XR
          clear hml hf v1 v2 hfi hi hal
          go_wp2_with fail
          go_at_call 18
          with_reducible refine (XR.out).mono ?_
          rintro e w7 ⟨v7, rfl, ho7, hb7⟩
          clear y0 y1 y2 hi2 hi0
          have V7 := Aside0.mk (RB.of_R (base := W.heap.size) (Lz := NoL) ho7 (fun _ _ h => h))
          replace HE := Aside0.mk (HE.out.below hb7)
          replace W1 := Aside0.mk (V_rebase (base' := 0) (Kd.V_below W1.out hb7))
          replace b0 := Aside0.mk (Blk.belowW b0.out hb7)
          have XR2 := Aside0.mk (HE.out.ca.read (by have := HJ.out; omega) f.name)
          rw [keeps_all HFI.out] at XR2
          have z0 := b0.out.cell 0 rfl
          clear ho7 hb7 XR
          go_wp2_with fail
          go_at_call 18
          with_reducible refine (XR2.out).mono ?_
          rintro e w8 ⟨v8, rfl, ho8, hb8⟩
          have V8 := Aside0.mk (RB.of_R (base := W.heap.size) (Lz := NoL) ho8 (fun _ _ h => h))
          replace V7 := Aside0.mk (V7.out.below hb8)
          replace HE := Aside0.mk (HE.out.below hb8)
          replace W1 := Aside0.mk (V_rebase (base' := 0) (Kd.V_below W1.out hb8))
          replace b0 := Aside0.mk (Blk.belowW b0.out hb8)
          have XR3 := Aside0.mk (HE.out.cb.read (by have := HJ.out; omega) f.name)
          rw [keeps_none HFI.out] at XR3
          clear z0
          have z0 := b0.out.cell 0 rfl
          clear ho8 hb8 XR2
          go_wp2_with fail
          go_at_call 18
          with_reducible refine (XR3.out).mono ?_
          rintro e w9 ⟨v9, rfl, ho9, hb9⟩
          have V9 := Aside0.mk (ho9)
          replace V7 := Aside0.mk (V7.out.below hb9)
          replace V8 := Aside0.mk (V8.out.below hb9)
          replace HE := Aside0.mk (HE.out.below hb9)
          replace W1 := Aside0.mk (V_rebase (base' := 0) (Kd.V_below W1.out hb9))
          replace b0 := Aside0.mk (Blk.belowW b0.out hb9)
          have XE := Aside0.mk (equal_calls V7.out V8.out rfl)
          clear z0
          have z1 := b0.out.cell 1 rfl
          clear ho9 hb9 XR3
          go_wp2_with fail
          go_at_call 21
          with_reducible refine (XE.out).mono ?_
          rintro e wa ⟨rfl, hba⟩
          have V9' := Aside0.mk ((RB.of_R (base := wa.heap.size) (Lz := NoL) V9.out (fun _ _ h => h)).below hba)
          replace HE := Aside0.mk (HE.out.below hba)
          replace W1 := Aside0.mk (V_rebase (base' := 0) (Kd.V_below W1.out hba))
          replace b0 := Aside0.mk (Blk.belowW b0.out hba)
          have XE2 := Aside0.mk (equal_calls V9'.out (V_RB W1.out (Nat.le_refl _)) rfl)
          clear z1
          have z1 := b0.out.cell 1 rfl
          clear hba XE V7 V8 V9
          go_wp2_with fail
          go_at_call 21
          with_reducible refine (XE2.out).mono ?_
          rintro e wb ⟨rfl, hbb⟩
          replace HE := Aside0.mk (HE.out.below hbb)
          clear hbb XE2 z1
          go_wp2_with fail
          go_roundg d
          case measure => omega
          case rel => exact ⟨i + 1, by have := HI.out; omega, (by have h1 := HI.out; have h2 := HM.out; rw [List.length_map] at h2; have h3 := HLN.out; exact congrArg (Value.int .i64) (by unfold wrap64; omega)), HE⟩
    | succ d =>
      have hlt : decide ((j : Int) < (l0.length : Int)) = true := decide_eq_true (by omega)
      have hjl : j < l0.length := by omega
      obtain ⟨ad, A3, c3, A5, c5, e0, x0, x1, x2, x3, x4, x5, l3, r3, l5, r5⟩ := at_T34 HR0.out (j : Int) (by omega) (by omega)
      rw [rd_T34_get hjl] at x0 x1 x2 x3 x4 x5 l3 r3 l5 r5
      rw [Int.toNat_natCast] at x0 x1 x2 x3 x4 x5
      subst e0
      have hx8 := HFW.out.2 _ (List.getElem_mem hjl)
      have HRB : Aside0 (RB W.heap.size AllL W (.slice A3 (l0[j]).f3.length c3) (l0[j]).f3) := ⟨RB.arg l3 r3⟩
      generalize l0[j] = x at x0 x1 x2 x3 x4 x5 l3 r3 l5 r5 hx8 HRB
      replace x0 := (H.out.bel.cell (World.block_lt_of_cell? W _ x0)).trans x0
      replace x1 := (H.out.bel.cell (World.block_lt_of_cell? W _ x1)).trans x1
      replace x2 := (H.out.bel.cell (World.block_lt_of_cell? W _ x2)).trans x2
      replace x3 := (H.out.bel.cell (World.block_lt_of_cell? W _ x3)).trans x3
      replace x4 := (H.out.bel.cell (World.block_lt_of_cell? W _ x4)).trans x4
      replace x5 := (H.out.bel.cell (World.block_lt_of_cell? W _ x5)).trans x5
      have hz : szOf x = (x.f3.length : Int) + x.f5.length + x.f1.size + x.f2.size := rfl
      have hx3 : x.f3.length ≤ 65536 := by omega
      have HJ := Aside0.mk hj
      have hj80 : j ≤ 80 := by have := HFW.out.1; omega
      have HL3 := Aside0.mk (And.intro l3 r3)
      have HA := Aside0.mk (H.out.below (below_alloc (Below.refl _ _) (.cells #[.int .i64 x.f0, .string x.f1, .string x.f2, .slice A3 x.f3.length c3, .int .i64 x.f4, .slice A5 x.f5.length c5] 34)))
      have HLT : Aside0 (¬ fpj wr.heap.size) := ⟨fun h => by have := H.out.fs.lt _ h; omega⟩
      have hbn := Blk.new wr 34 #[.int .i64 x.f0, .string x.f1, .string x.f2, .slice A3 x.f3.length c3, .int .i64 x.f4, .slice A5 x.f5.length c5]
      have HBO := Aside0.mk (H.out.bounds (by omega))
      clear l3 r3 l5 r5 hx8 hz hj H
      by_cases hkd : 0 ≤ x.f0 ∧ x.f0 ≤ 4
      · obtain ⟨hk0, hk4⟩ := hkd
        have XQ := Aside0.mk (keeps_does (A5 := A5) (c5 := c5) HA.out (by omega) x hk0 hk4 HRB.out hx3)
        have HKD := Aside0.mk (And.intro hk0 hk4)
        have q0 : decide (0 ≤ x.f0) = true := decide_eq_true hk0
        have q4 : decide (x.f0 ≤ 4) = true := decide_eq_true hk4
        clear hk0 hk4
        go_wp2_with fail
        go_at_call 16
        with_reducible refine (XQ.out).mono ?_
        rintro e w3 ⟨rfl, ⟨fp3, h3⟩, ho3⟩
        have H3 := Aside0.mk h3
        have b3 := hbn.to (ho3.block wr.heap.size (by simp) HLT.out)
        obtain ⟨y0, y1, y2, y3, y4, y5, _, _, _, _, _, _⟩ := Blk.six b3
        obtain ⟨u0, u1, u2, u3, u4, u5, _, _, _, _, _, _⟩ := Blk.six H3.out.box
        have XD := Aside0.mk (keeps_ref (A5 := A5) (c5 := c5) H3.out HBO.out.1 HBO.out.2 x HKD.out.1 HKD.out.2 HL3.out.1 HL3.out.2 hx3)
        clear h3 ho3 XQ hbn b3 HA x0 x1 x2 x3 x4 x5
        generalize hdo : (doP S x).2 = S2 at H3 XD
        have HDO := Aside0.mk hdo
        clear hdo
        go_wp2_with (first
          | (go_at_call 15; (with_reducible refine (XD.out).mono ?_); rintro _ w4 ⟨A', m', c', rfl, hv, hb⟩; have HV4 := Aside0.mk hv; have H4 := Aside0.mk (H3.out.below hb); clear hv hb H3 y0 y1 y2 y3 y4 y5 u0 u1 u2 u3 u4 u5)
          | ((with_reducible refine gate_store (t := 29) (p := 4) rfl ?_); refine store_event rfl rfl (g := g4) (cells := #[.slice A' m' c', .int .i64 S2.no, .int .i64 S2.ops, .int .i64 S2.fuse, .int .i64 S2.fault, .bool S2.down]) (by first | rfl | (go_simp; done) | (go_simp; rfl)) (by first | rfl | (go_simp; done) | (go_simp; rfl)) H4.out.box info29 rfl (by simp [Value.oneCell']) ?_; intro w5 hx hk hz hb; have H5 := Aside0.mk (H4.out.store HV4.out hx hk hz hb); clear hx hk hz hb H4 HV4))
        go_roundg d
        case measure => omega
        case rel => exact ⟨j + 1, by have := HJ.out; omega, by go_num, _, _, _, _, _, H5⟩
      · have HN := Aside0.mk HA.out.later
        by_cases hk0 : 0 ≤ x.f0
        · have q0 : decide (0 ≤ x.f0) = true := decide_eq_true hk0
          have q4 : decide (x.f0 ≤ 4) = false := decide_eq_false (by omega)
          clear hkd hk0
          go_wp2_with fail
          go_roundg d
          case measure => omega
          case rel => exact ⟨j + 1, by have := HJ.out; omega, by go_num, _, _, _, _, _, HN⟩
        · have q0 : decide (0 ≤ x.f0) = false := decide_eq_false hk0
          clear hkd hk0
          go_wp2_with fail
          go_roundg d
          case measure => omega
          case rel => exact ⟨j + 1, by have := HJ.out; omega, by go_num, _, _, _, _, _, HN⟩
set_option maxRecDepth 100000 in
set_option maxHeartbeats 2000000 in
theorem keeps_out {W : World} {A0 : Option Addr} {c0 : Nat} {l0 : List S34} (hr0 : Kd.C k34 W A0 l0.length l0) (hc0 : l0.length ≤ c0) {kf : Nat} (hf : souffleurlaw10_few.f kf l0 = some false) :
    Calls Try.prog 4 #[.slice A0 l0.length c0] W fun e w' => e = .returned (.bool true) ∧ Below W.heap.size W w' := by
  have XF := Aside0.mk (souffleurlaw10_few.calls kf A0 c0 l0 false W hr0 hc0 hf)
  clear hf hr0
  go_enter Try.func4, Try.ntmps4
  go_wp2_with fail
  go_at_call 10
  with_reducible refine (XF.out).mono ?_
  rintro e w1 ⟨rfl, hb1⟩
  have HB1 := Aside0.mk hb1
  clear hb1
  go_wp2_with fail
  have XL := Aside0.mk (alive_walk w1)
  go_at_call 11
  with_reducible refine (XL.out).mono ?_
  rintro e w2 ⟨rfl, hb2⟩
  have HB2 := Aside0.mk hb2
  clear hb2 XL
  go_wp2
  go_ret
  exact ⟨rfl, HB1.out.trans (HB2.out.mono HB1.out.size)⟩
theorem fileKeeps_walk {W : World} {A0 : Option Addr} {c0 : Nat} {l0 : List S34} (hc0 : l0.length ≤ c0) (hr0 : Kd.C k34 W A0 l0.length l0) (hs : l0.length * Try.prog.bytesOf 34 ≤ reachBytes ∧ ∀ x ∈ l0, SizedS x) :
    Calls Try.prog 4 #[.slice A0 l0.length c0] W fun e w' => e = .returned (.bool true) ∧ Below W.heap.size W w' := by
  obtain ⟨kf, r, hf, hr⟩ := few_tells l0 (by have := Kd.C_max hr0; have h1 := hs.1; rw [show Try.prog.bytesOf 34 = 96 from by kernel_rfl] at h1; unfold reachBytes at h1; omega) hs.2
  cases r with
  | false => exact keeps_out hr0 hc0 hf
  | true => exact keeps_walk hr0 hc0 (hr rfl) hf
end Go.Proofs.Ytcpkoajnepijkaa

