/- Parts of the proof of the law that the last file states; declarations that nothing mentions are left out by a program. No conditions. -/
import Derived.Deep.RegionHeld3
import Derived.Test.YtcpkoajnepijkaaAll1q
import Derived.Test.YtcpkoajnepijkaaStandsq
set_option linter.unusedVariables false
set_option linter.unusedSimpArgs false
namespace Go.Proofs.Ytcpkoajnepijkaa
open Go.RowKit Go.Proofs.YtcpkoajnepijkaaL Go.Proofs.YtcpkoajnepijkaaW.PrintWords Go.Proofs.Ytcpkoajnepijkaa.Q
set_option maxRecDepth 100000 in
set_option maxHeartbeats 8000000 in
theorem all_walk {W : World} {A0 : Option Addr} {c0 : Nat} {l0 : List S34} (hr0 : Kd.C k34 W A0 l0.length l0) (hc0 : l0.length ≤ c0) (hfew : FewP l0) (hsA : ∀ x ∈ l0, x.f4 ≤ 9223372036854775807) {kf : Nat} (hf : souffleurlaw10_few.f kf l0 = some true) :
    Calls Try.prog 3 #[.slice A0 l0.length c0] W fun e w' => e = .returned (.bool true) ∧ Below W.heap.size W w' := by
  have XF := Zz.mk (souffleurlaw10_few.calls kf A0 c0 l0 true W hr0 hc0 hf)
  have HR0 := Zz.mk hr0
  have HFW := Zz.mk hfew
  have HSA := Zz.mk hsA
  clear hr0 hc0 hf hfew hsA
  go_enter Try.func3, Try.ntmps3
  have hu29 := Try.underlying29
  have hu34 := Try.underlying34
  have hu47 := Try.underlying47
  go_wp2_with fail
  go_at_call 10
  with_reducible refine (XF.out).mono ?_
  rintro e w0 ⟨rfl, hb0⟩
  have HB0 := Zz.mk hb0
  clear hb0 XF
  have XN := Zz.mk (fsat_new (base := W.heap.size) (Lz := NoL) (w := w0) HB0.out.size (fun _ h => h.elim))
  go_wp2_with fail
  go_at_call 12
  with_reducible refine (XN.out).mono ?_
  rintro e w1 ⟨F, fp, rfl, hf1, hfp, hb1⟩
  have HF1 := Zz.mk hf1
  have HB1 := Zz.mk (HB0.out.trans (hb1.mono HB0.out.size))
  clear hf1 hfp hb1 XN HB0
  have XR := Zz.mk (souffleurref10_New.calls [] 0 0 (-1) (-1) false w1 rfl)
  go_wp2_with fail
  go_at_call 13
  with_reducible refine (XR.out).mono ?_
  rintro e w2 ⟨v2, rfl, hv2, hb2⟩
  have HF2 := Zz.mk (HF1.out.below hb2)
  have HB2 := Zz.mk (HB1.out.trans (hb2.mono HF1.out.base_le))
  obtain ⟨A, c, rfl⟩ := Kd.R_slice hv2
  have HV2 : Zz (Kd.V k47 47 w2 0 (fun k => w1.heap.size ≤ k) (.slice A 0 c) []) := ⟨Kd.V_mono (Kd.N_V (Kd.R_N (Kd.R_bound hv2))) (fun k hk => hk.2.1)⟩
  have HLT : Zz (∀ k, fp k → k < w1.heap.size) := ⟨fun k hk => HF1.out.lt k hk⟩
  clear hv2 hb2 XR HB1 HF1
  go_wp2_with (first
    | ((with_reducible refine gate_dst (N := 4) rfl ?_); refine box_event ?hg (N := 4) ?hd (cs := #[.slice none 0 0, .int .i64 0, .int .i64 0, .int .i64 0, .int .i64 0, .bool false]) (t := 29) ?hr ?_; (case hd => rfl); (case hg => rfl); (case hr => first | (go_simp; done) | (go_simp; rfl)); intro g4 hg w3 hx hb; have B4 := Zz.mk (show Blk w3 g4 29 _ from hx); have HF3 := Zz.mk (HF2.out.below hb); have HV3 := Zz.mk (Kd.V_mono (Kd.V_below (Kd.V_bound HV2.out) hb) (fun k hk => (⟨fun e => by have h1 := HLT.out k e; have h2 := hk.1; omega, fun e => by have h1 := hk.2; omega, Nat.lt_of_lt_of_le hk.2 hb.size⟩ : ¬ fp k ∧ k ≠ g4 ∧ k < w3.heap.size))); have HB3 := Zz.mk (HB2.out.trans (hb.mono HF2.out.base_le)); have HN4 : Zz (¬ fp g4 ∧ W.heap.size ≤ g4) := ⟨⟨fun e => by have h1 := HF2.out.lt g4 e; omega, hg ▸ HF2.out.base_le⟩⟩; clear hg hx hb HF2 HV2)
    | ((with_reducible refine gate_store (t := 29) (p := 4) rfl ?_); refine store_event rfl rfl (g := g4) (cells := #[.slice A 0 c, .int .i64 0, .int .i64 0, .int .i64 (-1), .int .i64 (-1), .bool false]) (by first | rfl | (go_simp; done) | (go_simp; rfl)) (by first | rfl | (go_simp; done) | (go_simp; rfl)) B4.out info29 rfl (by simp [Value.oneCell']) ?_; intro w4 hx hk hz hb; have H0 : Zz (AMid W F g4 0 w4 fp A 0 c newP newP) := ⟨(ACore.store (cs := #[.slice none 0 0, .int .i64 0, .int .i64 0, .int .i64 0, .int .i64 0, .bool false]) ⟨HF3.out, well_new, ⟨Nat.le_refl _, Nat.le_refl _⟩, B4.out, HN4.out.1, HN4.out.2, HB3.out⟩ hx hk hb).mid (B := w4.heap.size) (Nat.le_refl _) (V_rebase (Kd.V_mono (Kd.V_kept HV3.out hk (fun k hk => hk.2.1)) (fun k hk => ⟨hk.1, hk.2.1, by rw [hz]; exact hk.2.2⟩)))⟩; clear hx hk hz hb B4 HF3 HV3 HB3 HN4))
  go_loopg [3, 23] l0.length (fun kq v3 v23 w' => ∃ j : Nat, j + kq = l0.length ∧ v23 = .int .i64 j ∧ ∃ F fp A m c S, v3 = ptr F ∧ Zz (AMid W F g4 j w' fp A m c S S))
  case atStart => exact ⟨0, by omega, rfl, F, fp, _, _, _, _, rfl, H0⟩
  case round =>
    clear H0
    obtain ⟨j, hj, rfl, F, fpj, Aj, mj, cj, S, rfl, H⟩ := hrel
    cases gk with
    | zero =>
      have hlt : decide (j < l0.length) = false := decide_eq_false (by omega)
      have hj80 : j ≤ 80 := by have := HFW.out.1; omega
      have XR := Zz.mk (H.out.fs.read (by omega) { data := #[110, 111, 32, 115, 117, 99, 104, 32, 102, 105, 108, 101, 44, 32, 97, 115, 32, 105, 116, 115, 32, 110, 97, 109, 101, 32, 105, 115, 32, 116, 111, 111, 32, 108, 111, 110, 103] })
      rw [read_long H.out.well (by decide)] at XR
      clear hj hj80
      cases hd : S.down
      all_goals
        rw [hd] at XR
        simp only [if_true, Bool.false_eq_true, if_false] at XR
        have HD := Zz.mk hd
        clear hd
        go_wp2_with fail
        go_at_call 18
        with_reducible refine (XR.out).mono ?_
        rintro e w3 ⟨v3, rfl, ho3, hb3⟩
        have H3 := Zz.mk (H.out.below hb3)
        have XL := Zz.mk (alive_walk w3)
        clear ho3 hb3 XR H
        go_wp2_with fail
        go_at_call 11
        with_reducible refine (XL.out).mono ?_
        rintro e w4 ⟨rfl, hb4⟩
        have H4 := Zz.mk (H3.out.below hb4)
        have c5 := H4.out.box.cell 5 rfl
        rw [HD.out] at c5
        clear hb4 XL H3
        go_wp2
        go_ret
        exact ⟨rfl, H4.out.bel⟩
    | succ d =>
      have hlt : decide ((j : Int) < (l0.length : Int)) = true := decide_eq_true (by omega)
      have hjl : j < l0.length := by omega
      obtain ⟨ad, A3, c3, A5, c5, e0, x0, x1, x2, x3, x4, x5, l3, r3, l5, r5⟩ := at_T34 HR0.out (j : Int) (by omega) (by omega)
      rw [rd_T34_get hjl] at x0 x1 x2 x3 x4 x5 l3 r3 l5 r5
      rw [Int.toNat_natCast] at x0 x1 x2 x3 x4 x5
      subst e0
      have hx8 := HFW.out.2 _ (List.getElem_mem hjl)
      have hx4 := HSA.out _ (List.getElem_mem hjl)
      have HRB : Zz (RB W.heap.size AllL W (.slice A3 (l0[j]).f3.length c3) (l0[j]).f3) := ⟨RB.arg l3 r3⟩
      generalize l0[j] = x at x0 x1 x2 x3 x4 x5 l3 r3 l5 r5 hx8 HRB hx4
      replace x0 := (H.out.bel.cell (World.block_lt_of_cell? W _ x0)).trans x0
      replace x1 := (H.out.bel.cell (World.block_lt_of_cell? W _ x1)).trans x1
      replace x2 := (H.out.bel.cell (World.block_lt_of_cell? W _ x2)).trans x2
      replace x3 := (H.out.bel.cell (World.block_lt_of_cell? W _ x3)).trans x3
      replace x4 := (H.out.bel.cell (World.block_lt_of_cell? W _ x4)).trans x4
      replace x5 := (H.out.bel.cell (World.block_lt_of_cell? W _ x5)).trans x5
      have hz : szOf x = (x.f3.length : Int) + x.f5.length + x.f1.size + x.f2.size := rfl
      have hx3 : x.f3.length ≤ 65536 := by omega
      have hx5 : x.f5.length ≤ 1000000 := by omega
      have HJ := Zz.mk hj
      have hj80 : j ≤ 80 := by have := HFW.out.1; omega
      have HL3 := Zz.mk (And.intro l3 r3)
      have HL5 := Zz.mk (And.intro l5 r5)
      have HX := Zz.mk (And.intro hx3 hx5)
      have HX4 := Zz.mk hx4
      clear hx4
      have HJ8 := Zz.mk hj80
      have hal := below_alloc (Below.refl wr.heap.size wr) (.cells #[.int .i64 x.f0, .string x.f1, .string x.f2, .slice A3 x.f3.length c3, .int .i64 x.f4, .slice A5 x.f5.length c5] 34)
      have HA := Zz.mk (H.out.below hal)
      have hbn := Zz.mk (Blk.new wr 34 #[.int .i64 x.f0, .string x.f1, .string x.f2, .slice A3 x.f3.length c3, .int .i64 x.f4, .slice A5 x.f5.length c5])
      have HLT : Zz (¬ fpj wr.heap.size ∧ wr.heap.size ≠ g4) := ⟨fun h => by have := H.out.fs.lt _ h; omega, fun e => by have := H.out.box.lt; omega⟩
      have HWZ : Zz (W.heap.size ≤ wr.heap.size) := ⟨below_size H.out.bel⟩
      have XK : Zz (∀ r, souffleurlaw10_known.f x.f0 x.f1 x.f2 x.f3 x.f4 x.f5 = some r → Calls Try.prog 14 #[.agg #[.int .i64 x.f0, .string x.f1, .string x.f2, .slice A3 x.f3.length c3, .int .i64 x.f4, .slice A5 x.f5.length c5]] (wr.alloc (.cells #[.int .i64 x.f0, .string x.f1, .string x.f2, .slice A3 x.f3.length c3, .int .i64 x.f4, .slice A5 x.f5.length c5] 34)) fun e w' => e = .returned (.bool r) ∧ Below (wr.alloc (.cells #[.int .i64 x.f0, .string x.f1, .string x.f2, .slice A3 x.f3.length c3, .int .i64 x.f4, .slice A5 x.f5.length c5] 34)).heap.size (wr.alloc (.cells #[.int .i64 x.f0, .string x.f1, .string x.f2, .slice A3 x.f3.length c3, .int .i64 x.f4, .slice A5 x.f5.length c5] 34)) w') :=
        ⟨fun r hr => souffleurlaw10_known.calls x.f0 x.f1 x.f2 A3 c3 x.f3 x.f4 A5 c5 x.f5 r _ (Kd.F_now (Kd.F_step (Kd.C_F (Kd.heap_int .u8) r3) (fun k hk hlt => (HA.out.bel.block k hk)))) l3 (Kd.F_now (Kd.F_step (Kd.C_F Kd.heap_bool r5) (fun k hk hlt => (HA.out.bel.block k hk)))) l5 hr⟩
      clear l3 r3 l5 r5 hx8 hz hj H hx3 hx5 hal hj80
      by_cases hkd : 0 ≤ x.f0 ∧ x.f0 ≤ 8
      · obtain ⟨hk0, hk8⟩ := hkd
        have XK2 := Zz.mk (XK.out true (by unfold souffleurlaw10_known.f; rw [if_pos hk0]; simp [hk8]))
        have HKD := Zz.mk (And.intro hk0 hk8)
        clear hk0 hk8 XK
        go_wp2_with fail
        go_at_call 14
        with_reducible refine (XK2.out).mono ?_
        rintro _ w3 ⟨rfl, hb3⟩
        replace HA := Zz.mk (HA.out.below hb3)
        replace hbn := Zz.mk (Blk.belowW hbn.out hb3)
        have HSZ : Zz (wr.heap.size < w3.heap.size) := ⟨hbn.out.lt⟩
        obtain ⟨Gk, ok, hA5, hkc⟩ : ∃ Gk ok, (0 < x.f5.length → A5 = some ⟨Gk, ok, none⟩) ∧ (∀ i (hi : i < x.f5.length), W.cell? ⟨Gk, ok + i, none⟩ = some (.bool x.f5[i])) := by
          rcases Nat.eq_zero_or_pos x.f5.length with h0 | h0
          · exact ⟨0, 0, fun h => by omega, fun i hi => by omega⟩
          · obtain ⟨Gk, ok, eA, _, hkc⟩ := keep_cells HL5.out.2 h0
            exact ⟨Gk, ok, fun _ => eA, hkc⟩
        have HKC := Zz.mk (And.intro hA5 hkc)
        have XD := Zz.mk (all_ref (A5 := A5) (c5 := c5) HA.out (by have := HJ8.out; omega) x HKD.out.1 HKD.out.2 HL3.out.1 HL3.out.2 HX.out.1 HKC.out.1 HKC.out.2 HX.out.2)
        obtain ⟨y0, y1, y2, y3, y4, y5, _, _, _, _, _, _⟩ := Blk.six hbn.out
        obtain ⟨u0, u1, u2, u3, u4, u5, _, _, _, _, _, _⟩ := Blk.six HA.out.box
        have HQ : Zz (∀ (w7 : World) (A' : Option Addr) (m' c' : Nat), AMid W F g4 j w7 fpj A' m' c' (doA S x).2 S → Calls Try.prog 16 #[ptr F, .agg #[.int .i64 x.f0, .string x.f1, .string x.f2, .slice A3 x.f3.length c3, .int .i64 x.f4, .slice A5 x.f5.length c5]] w7 fun e w' => ∃ C, e = .returned (.tuple #[ptr C, .int .i64 (doA S x).1]) ∧ (∃ fp', AMid W C g4 (j + 1) w' fp' A' m' c' (doA S x).2 (doA S x).2) ∧ Only fpj w7 w') :=
          ⟨fun w7 A' m' c' h => all_does x h (by have := HJ8.out; omega) HKD.out.1 HKD.out.2 HX4.out HRB.out HX.out.1 HKC.out.1 HKC.out.2 HX.out.2⟩
        clear hb3 XK2 x0 x1 x2 x3 x4 x5 hA5 hkc
        generalize hdo : (doA S x).2 = S2 at XD HQ
        generalize hdn : (doA S x).1 = n2 at XD HQ
        have HC := Zz.mk HA.out.core
        clear hdo hdn
        go_wp2_with (first
          | (go_at_call 15; (with_reducible refine (XD.out).mono ?_); rintro _ w4 ⟨A', m', c', rfl, hv, hb⟩; have HV4 := Zz.mk hv; have HC4 := Zz.mk (HC.out.below hb); have b64 := Zz.mk (Blk.belowW hbn.out hb); have HSZ4 : Zz (wr.heap.size < w4.heap.size) := ⟨b64.out.lt⟩; clear hv hb HC HA hbn y0 y1 y2 y3 y4 y5 u0 u1 u2 u3 u4 u5)
          | ((with_reducible refine gate_dst (N := 7) rfl ?_); refine box_event ?hg (N := 7) ?hd (cs := #[.slice none 0 0, .int .i64 0, .int .i64 0, .int .i64 0, .int .i64 0, .bool false]) (t := 29) ?hr ?_; (case hd => rfl); (case hg => rfl); (case hr => first | (go_simp; done) | (go_simp; rfl)); intro g7 hg w5 hx hb; have B7 := Zz.mk (show Blk w5 g7 29 _ from hx); have HC5 := Zz.mk (HC4.out.below hb); have b65 := Zz.mk (Blk.belowW b64.out hb); have HV5 := Zz.mk (val_below HV4.out hb); have HN7 : Zz (g7 ≠ g4 ∧ ¬ fpj g7 ∧ W.heap.size ≤ g7 ∧ g7 ≠ wr.heap.size ∧ g7 = w4.heap.size) := ⟨⟨fun e => by have := HC4.out.box.lt; omega, fun e => by have := HC4.out.fs.lt _ e; omega, by have := below_size HC4.out.bel; omega, fun e => by have := HSZ4.out; omega, hg⟩⟩; clear hg hx hb HC4 b64 HV4)
          | ((with_reducible refine gate_store (t := 29) (p := 7) rfl ?_); refine store_event rfl rfl (g := g7) (cells := #[.slice A' m' c', .int .i64 S2.no, .int .i64 S2.ops, .int .i64 S2.fuse, .int .i64 S2.fault, .bool S2.down]) (by first | rfl | (go_simp; done) | (go_simp; rfl)) (by first | rfl | (go_simp; done) | (go_simp; rfl)) B7.out info29 rfl (by simp [Value.oneCell']) ?_; intro w6 hx hk hz hb; have C7 := Zz.mk hx; have HC6 := Zz.mk (HC5.out.put B7.out (by decide) HN7.out.1 HN7.out.2.1 HN7.out.2.2.1 hk hb); have b66 := Zz.mk (show Blk w6 wr.heap.size 34 _ from b65.out.to (hk.2 _ b65.out.lt (fun e => HN7.out.2.2.2.1 e.symm))); have HV6 := Zz.mk (V_rebase (base' := 0) (Kd.V_kept HV5.out hk (fun k hk e => by have h1 := hk.2.2; have h2 := HN7.out.2.2.2.2; omega))); obtain ⟨t0, t1, t2, t3, t4, t5, _, _, _, _, _, _⟩ := Blk.six C7.out; clear hx hk hz hb HC5 b65 HV5 B7)
          | ((with_reducible refine gate_store (t := 29) (p := 4) rfl ?_); refine store_event rfl rfl (g := g4) (cells := #[.slice A' m' c', .int .i64 S2.no, .int .i64 S2.ops, .int .i64 S2.fuse, .int .i64 S2.fault, .bool S2.down]) (by first | rfl | (go_simp; done) | (go_simp; rfl)) (by first | rfl | (go_simp; done) | (go_simp; rfl)) HC6.out.box info29 rfl (by simp [Value.oneCell']) ?_; intro w7 hx hk hz hb; have HA7 := Zz.mk ((HC6.out.store hx hk hb).mid (S0 := S2) (B := w4.heap.size) (by have := HC6.out.box.lt; have h1 := C7.out.lt; have h2 := HN7.out.2.2.2.2; omega) (V_rebase (base' := 0) (Kd.V_kept HV6.out hk (fun k hk => hk.2.1)))); have b67 := Zz.mk (show Blk w7 wr.heap.size 34 _ from b66.out.to (hk.2 _ b66.out.lt HLT.out.2)); clear hx hk hz hb HC6 b66 HV6 C7 t0 t1 t2 t3 t4 t5; obtain ⟨y0, y1, y2, y3, y4, y5, _, _, _, _, _, _⟩ := Blk.six b67.out)
          | fail)
        have XQ := Zz.mk (HQ.out _ _ _ _ HA7.out)
        with_reducible refine (XQ.out).mono ?_
        rintro _ w8 ⟨C, rfl, ⟨fp8, h8⟩, ho8⟩
        have H8 := Zz.mk h8
        have HBO := Zz.mk (h8.bounds (by have := HJ8.out; omega))
        obtain ⟨u0, u1, u2, u3, u4, u5, _, _, _, _, _, _⟩ := Blk.six h8.box
        have XT := Zz.mk (stands_calls (base := W.heap.size) h8.fs (by have := HJ8.out; omega) h8.well HBO.out.1 (V_rebase (base' := w8.heap.size) h8.val))
        clear h8 ho8 HQ XQ HA7 b67 y0 y1 y2 y3 y4 y5 XD
        go_wp2_with fail
        go_at_call 17
        with_reducible refine (XT.out).mono ?_
        rintro _ w9 ⟨rfl, hb9⟩
        have H9 := Zz.mk (H8.out.below hb9)
        clear hb9 XT H8 u0 u1 u2 u3 u4 u5
        go_wp2_with fail
        go_roundg d
        case measure => omega
        case rel => exact ⟨j + 1, by have := HJ.out; omega, (congrArg (Value.int .i64) (by have := HJ8.out; unfold wrap64; omega)), _, _, _, _, _, _, rfl, H9⟩
      · have XK2 := Zz.mk (XK.out false (by
          unfold souffleurlaw10_known.f
          by_cases h0 : 0 ≤ x.f0
          · rw [if_pos h0]
            have : ¬ x.f0 ≤ 8 := fun h => hkd ⟨h0, h⟩
            simp [this]
          · rw [if_neg h0]))
        clear hkd XK
        go_wp2_with fail
        go_at_call 14
        with_reducible refine (XK2.out).mono ?_
        rintro _ w3 ⟨rfl, hb3⟩
        have H3 := Zz.mk ((HA.out.below hb3).later)
        clear hb3 XK2 x0 x1 x2 x3 x4 x5
        go_wp2_with fail
        go_roundg d
        case measure => omega
        case rel => exact ⟨j + 1, by have := HJ.out; omega, (congrArg (Value.int .i64) (by have := HJ8.out; unfold wrap64; omega)), _, _, _, _, _, _, rfl, H3⟩
set_option maxRecDepth 100000 in
set_option maxHeartbeats 2000000 in
theorem all_out {W : World} {A0 : Option Addr} {c0 : Nat} {l0 : List S34} (hr0 : Kd.C k34 W A0 l0.length l0) (hc0 : l0.length ≤ c0) {kf : Nat} (hf : souffleurlaw10_few.f kf l0 = some false) :
    Calls Try.prog 3 #[.slice A0 l0.length c0] W fun e w' => e = .returned (.bool true) ∧ Below W.heap.size W w' := by
  have XF := Zz.mk (souffleurlaw10_few.calls kf A0 c0 l0 false W hr0 hc0 hf)
  clear hf hr0
  go_enter Try.func3, Try.ntmps3
  go_wp2_with fail
  go_at_call 10
  with_reducible refine (XF.out).mono ?_
  rintro e w1 ⟨rfl, hb1⟩
  have HB1 := Zz.mk hb1
  clear hb1
  go_wp2_with fail
  have XL := Zz.mk (alive_walk w1)
  go_at_call 11
  with_reducible refine (XL.out).mono ?_
  rintro e w2 ⟨rfl, hb2⟩
  have HB2 := Zz.mk hb2
  clear hb2 XL
  go_wp2
  go_ret
  exact ⟨rfl, HB1.out.trans (HB2.out.mono HB1.out.size)⟩
theorem fileAll_walk {W : World} {A0 : Option Addr} {c0 : Nat} {l0 : List S34} (hc0 : l0.length ≤ c0) (hr0 : Kd.C k34 W A0 l0.length l0) (hs : l0.length * Try.prog.bytesOf 34 ≤ reachBytes ∧ ∀ x ∈ l0, SizedA x) :
    Calls Try.prog 3 #[.slice A0 l0.length c0] W fun e w' => e = .returned (.bool true) ∧ Below W.heap.size W w' := by
  obtain ⟨kf, r, hf, hr⟩ := few_tells l0 (by have := Kd.C_max hr0; have h1 := hs.1; rw [show Try.prog.bytesOf 34 = 96 from by kernel_rfl] at h1; unfold reachBytes at h1; omega) (fun x hx => (hs.2 x hx).1)
  cases r with
  | false => exact all_out hr0 hc0 hf
  | true => exact all_walk hr0 hc0 (hr rfl) (fun x hx => (hs.2 x hx).2) hf
end Go.Proofs.Ytcpkoajnepijkaa

