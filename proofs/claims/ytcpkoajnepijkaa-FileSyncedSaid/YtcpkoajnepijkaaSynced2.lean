/- FileSynced, its walk. No conditions. -/
import Derived.Test.YtcpkoajnepijkaaSynced1
import Derived.Test.YtcpkoajnepijkaaLRange
import Derived.Test.YtcpkoajnepijkaaKeep
import Derived.Deep.RegionHeld3
namespace Go.Proofs.Ytcpkoajnepijkaa
set_option linter.unusedVariables false
set_option linter.unusedSimpArgs false
open Go.RowKit Go.Proofs.YtcpkoajnepijkaaL Go.Proofs.YtcpkoajnepijkaaW.PrintWords Go.Proofs.Ytcpkoajnepijkaa.Q Go.MapKept

/-- bytes.HasPrefix, where it is one. -/
theorem prefix_calls {base : Nat} {Lz : Nat → Prop} {w : World} {v u : Value} {b c : List Int} (h : RB base Lz w v b) (h2 : RB base Lz w u c) (hp : c <+: b) :
    Calls Try.prog 30 #[v, u] w fun e w' => e = .returned (.bool true) ∧ Below w.heap.size w w' := by
  obtain ⟨A, c1, rfl, _⟩ := id h
  obtain ⟨A2, c2, rfl, _⟩ := id h2
  have hl := hp.length_le
  have ht := h.take hl
  have XE := Aside0.mk (equal_calls ht h2 (by obtain ⟨r, rfl⟩ := hp; simp))
  have hge : decide ((c.length : Int) ≤ (b.length : Int)) = true := decide_eq_true (by omega)
  have hcap := (show b.length ≤ c1 from by obtain ⟨A', c', e, hc, _⟩ := h; injection e with _ _ e3; omega)
  clear h h2 hp ht
  go_enter Try.func30, Try.ntmps30
  go_wp2_with fail
  go_at_call 21
  refine (XE.out).mono ?_
  rintro e w1 ⟨rfl, hb⟩
  have HB := Aside0.mk hb
  clear hb XE
  go_wp2
  go_ret
  exact ⟨rfl, HB.out⟩

/-- What holds behind a call of a script: what was synced was there ahead of it (S0), the file system is as it is behind it (S). -/
structure SMid (W : World) (F M : Nat) (j : Nat) (mv : List (ByteArray × Value)) (w : World) (fp : Nat → Prop) (S0 S : PS) : Prop where
  fs : FSat W.heap.size NoL w F fp S j
  inv : DInv (-1) S
  rows : RowOk S
  map : MapStr w M mv
  nfp : ¬ fp M
  geM : W.heap.size ≤ M
  vals : ∀ p ∈ mv, ∃ b, RB W.heap.size NoL w p.2 b ∧ Here p.1 b S0
  bel : Below W.heap.size W w
section
variable {W w w' : World} {F M j : Nat} {mv mv' : List (ByteArray × Value)} {fp : Nat → Prop} {S0 S : PS}
theorem SMid.below (h : SMid W F M j mv w fp S0 S) (hb : Below w.heap.size w w') : SMid W F M j mv w' fp S0 S :=
  ⟨h.fs.below hb, h.inv, h.rows, h.map.to (hb.block M h.map.lt), h.nfp, h.geM, fun p hp => by obtain ⟨b, h1, h2⟩ := h.vals p hp; exact ⟨b, h1.below hb, h2⟩, h.bel.trans (hb.mono h.fs.base_le)⟩
theorem map_T5 (h : MapStr w M mv) : Mut W.heap.size w (· = M) ↔ W.heap.size ≤ M := ⟨fun hm => (hm M rfl).1, fun hM k hk => ⟨hk ▸ hM, hk ▸ T5_map h⟩⟩
theorem grown_M (hg : w.grownBy w' (some M)) : Only (· = M) w w' := (Only.refl _ w).grown hg (fun g e => .inl (Option.some.inj e).symm)
theorem SMid.turn {S1 : PS} (h : SMid W F M j mv w fp S0 S) (hg : w.grownBy w' (some M)) (hm : MapStr w' M mv') (hv : ∀ p ∈ mv', (p ∈ mv ∧ ∀ b, Here p.1 b S0 → Here p.1 b S1) ∨ ∃ b, RB W.heap.size NoL w p.2 b ∧ Here p.1 b S1) : SMid W F M j mv' w' fp S1 S := by
  have ho := grown_M hg
  have hmu := (map_T5 (W := W) h.map).2 h.geM
  refine ⟨h.fs.only ho hmu (fun g e => by subst e; exact h.nfp), h.inv, h.rows, hm, h.nfp, h.geM, fun p hp => ?_, bo h.bel ho (fun g e => by subst e; exact h.geM) h.fs.base_le⟩
  rcases hv p hp with ⟨hp, hh⟩ | ⟨b, h1, h2⟩
  · obtain ⟨b, h1, h2⟩ := h.vals p hp
    exact ⟨b, h1.only ho hmu, hh b h2⟩
  · exact ⟨b, h1.only ho hmu, h2⟩
/-- What was there is there. -/
theorem SMid.now {S1 : PS} (h : SMid W F M j mv w fp S0 S) (hh : ∀ p ∈ mv, ∀ b, Here p.1 b S0 → Here p.1 b S1) : SMid W F M j mv w fp S1 S :=
  ⟨h.fs, h.inv, h.rows, h.map, h.nfp, h.geM, fun p hp => by obtain ⟨b, h1, h2⟩ := h.vals p hp; exact ⟨b, h1, hh p hp b h2⟩, h.bel⟩
theorem SMid.later (h : SMid W F M j mv w fp S0 S) : SMid W F M (j + 1) mv w fp S0 S := ⟨h.fs.mono (Nat.le_succ _), h.inv, h.rows, h.map, h.nfp, h.geM, h.vals, h.bel⟩
theorem synced_do (h : SMid W F M j mv w fp S S) (hj : j ≤ 100000) (x : S34) (h0 : 0 ≤ x.f0) (h4 : x.f0 ≤ 4) {A3 A5 : Option Addr} {c3 c5 : Nat} (hb : RB W.heap.size AllL W (.slice A3 x.f3.length c3) x.f3) (hbl : x.f3.length ≤ 65536) :
    Calls Try.prog 16 #[ptr F, .agg #[.int .i64 x.f0, .string x.f1, .string x.f2, .slice A3 x.f3.length c3, .int .i64 x.f4, .slice A5 x.f5.length c5]] w fun e w' => e = .returned (.tuple #[ptr F, .int .i64 (doP S x).1]) ∧ (∃ fp', SMid W F M (j + 1) mv w' fp' S (doP S x).2) ∧ Only fp w w' := by
  refine (does_do h.fs hj x h0 h4 (hb.any.below h.bel) hbl).mono ?_
  rintro e w' ⟨rfl, ⟨fp', hf, hfp⟩, ho⟩
  have hmu := h.fs.mut
  refine ⟨rfl, ⟨fp', hf, (dinv_step h.inv x).1, rowOk_do h.rows x, h.map.to (ho.block M h.map.lt h.nfp), fun e => ?_, h.geM, fun p hp => ?_, bo h.bel ho (fun g hg => (hmu g hg).1) h.fs.base_le⟩, ho⟩
  · rcases hfp M e with e | e
    · exact h.nfp e
    · have := h.map.lt; omega
  · obtain ⟨b, h1, h2⟩ := h.vals p hp
    exact ⟨b, h1.only ho hmu, h2⟩
theorem dinv_neg {S : PS} (h : DInv (-1) S) : S.down = false := by
  rcases h with ⟨_, _, h⟩ | ⟨h, _⟩ | ⟨h, _⟩
  · exact h
  · omega
  · omega
theorem drop_vals {s : ByteArray} (hn : (mv.map (·.1)).Nodup) : ∀ p ∈ drop_ s mv, p ∈ mv ∧ p.1 ≠ s := fun p hp => (mem_drop hn).1 hp
end

/-- What holds as the map is ranged over. -/
structure SLoop (W : World) (F M r : Nat) (j : Nat) (mv lf : List (ByteArray × Value)) (w : World) (fp : Nat → Prop) (S : PS) : Prop where
  fs : FSat W.heap.size NoL w F fp S j
  it : Iter w r M mv lf
  sub : ∀ p ∈ lf, p ∈ mv
  vals : ∀ p ∈ mv, ∃ b, RB W.heap.size NoL w p.2 b ∧ ∃ c, readP S p.1 = (c, 0) ∧ b <+: c
  nfr : ¬ fp r
  ger : W.heap.size ≤ r
  bel : Below W.heap.size W w
section
variable {W w w' : World} {F M r j : Nat} {mv lf : List (ByteArray × Value)} {fp : Nat → Prop} {S : PS}
theorem SLoop.below (h : SLoop W F M r j mv lf w fp S) (hb : Below w.heap.size w w') : SLoop W F M r j mv lf w' fp S :=
  ⟨h.fs.below hb, h.it.to (hb.block r h.it.lt) (hb.block M h.it.map.lt), h.sub, fun p hp => by obtain ⟨b, h1, h2⟩ := h.vals p hp; exact ⟨b, h1.below hb, h2⟩, h.nfr, h.ger, h.bel.trans (hb.mono h.fs.base_le)⟩
theorem SLoop.step {i : Nat} (h : SLoop W F M r j mv lf w fp S) (hi : Iter w' r M mv (lf.eraseIdx i)) (ho : Only (· = r) w w') : SLoop W F M r j mv (lf.eraseIdx i) w' fp S := by
  have hmu : Mut W.heap.size w (· = r) := fun k hk => ⟨hk ▸ h.ger, hk ▸ h.it.not_T5⟩
  exact ⟨h.fs.only ho hmu (fun k hk => hk ▸ h.nfr), hi, fun p hp => h.sub p (List.mem_of_mem_eraseIdx hp), fun p hp => by obtain ⟨b, h1, h2⟩ := h.vals p hp; exact ⟨b, h1.only ho hmu, h2⟩, h.nfr, h.ger, bo h.bel ho (fun k hk => hk ▸ h.ger) h.fs.base_le⟩
end

set_option maxRecDepth 100000 in
set_option maxHeartbeats 8000000 in
theorem synced_walk {W : World} {A0 A1 : Option Addr} {c0 c1 : Nat} {l0 : List S34} {keep : List Bool} (hr0 : Kd.C k34 W A0 l0.length l0) (hc0 : l0.length ≤ c0) (hfew : FewP l0) {kf : Nat} (hf : souffleurlaw10_few.f kf l0 = some true) (hk : Kd.bool.C W A1 keep.length keep) (hk2 : keep.length ≤ 200) :
    Calls Try.prog 9 #[.slice A0 l0.length c0, .slice A1 keep.length c1] W fun e w' => e = .returned (.bool true) ∧ Below W.heap.size W w' := by
  have XF := Aside0.mk (souffleurlaw10_few.calls kf A0 c0 l0 true W hr0 hc0 hf)
  have hmm : ∀ V : World, (Instr.makeMap 60 none).run Try.prog V = .ok (.map (some V.heap.size)) (V.alloc (.map #[] 0)) := fun V => by rw [run_makeMap]
  have HR0 := Aside0.mk hr0
  have HFW := Aside0.mk hfew
  have HKP := Aside0.mk hk
  clear hr0 hc0 hf hfew hk
  go_enter Try.func9, Try.ntmps9
  go_wp2_with fail
  go_at_call 10
  with_reducible refine (XF.out).mono ?_
  rintro e w0 ⟨rfl, hb0⟩
  have HB0 := Aside0.mk hb0
  clear hb0 XF
  have XN := Aside0.mk (fsat_new (base := W.heap.size) (Lz := NoL) (w := w0) HB0.out.size (fun _ h => h.elim))
  go_wp2_with fail
  go_at_call 12
  with_reducible refine (XN.out).mono ?_
  rintro e w1 ⟨F, fp, rfl, hf1, hfp, hb1⟩
  obtain ⟨M, hM⟩ : ∃ M, M = w1.heap.size := ⟨_, rfl⟩
  have H0 : Aside0 (SMid W F M 0 [] (w1.alloc (.map #[] 0)) fp newP newP) := ⟨⟨hf1.below (below_alloc (Below.refl _ _) _), .inl ⟨by decide, rfl, rfl⟩, rowOk_new, hM ▸ MapStr.new w1, (fun h => by have := hf1.lt M h; omega), (by have := hf1.base_le; omega), (fun p hp => by cases hp), (below_alloc' (HB0.out.trans (hb1.mono HB0.out.size)) hf1.base_le _).1⟩⟩
  clear hf1 hfp hb1 XN
  go_wp2_with fail
  rw [← hM]
  clear hM
  generalize w1.alloc (.map #[] 0) = w2 at H0 ⊢
  go_loopg [30] l0.length (fun kq v30 w' => ∃ j : Nat, j + kq = l0.length ∧ v30 = .int .i64 j ∧ ∃ mv fp S, Aside0 (SMid W F M j mv w' fp S S))
  case atStart => exact ⟨0, by omega, rfl, [], fp, _, H0⟩
  case round =>
    clear H0
    obtain ⟨j, hj, rfl, mv, fpj, S, H⟩ := hrel
    cases gk with
    | zero =>
      have hlt : decide (j < l0.length) = false := decide_eq_false (by omega)
      have hj80 : j ≤ 80 := by have := HFW.out.1; omega
      obtain ⟨Gk, ok, hA, hkc, hGl⟩ : ∃ Gk ok, (0 < keep.length → A1 = some ⟨Gk, ok, none⟩) ∧ (∀ i (hi : i < keep.length), wr.cell? ⟨Gk, ok + i, none⟩ = some (.bool keep[i])) ∧ (0 < keep.length → Gk < W.heap.size) := by
        by_cases hkp : 0 < keep.length
        · obtain ⟨Gk, ok, eA, hGl, hkc⟩ := keep_cells HKP.out hkp
          exact ⟨Gk, ok, fun _ => eA, fun i hi => (H.out.bel.cell (p := ⟨Gk, ok + i, none⟩) hGl).trans (hkc i hi), fun _ => hGl⟩
        · exact ⟨0, 0, fun h => absurd h hkp, fun i hi => absurd hi (by omega), fun h => absurd h hkp⟩
      have XC := Aside0.mk (H.out.fs.crash (by omega) (keep := keep) (ck := c1) hA hkc (fun h hf => by have := (H.out.fs.mut Gk hf).1; have := hGl h; omega) (by omega))
      clear hA hkc hGl hj
      go_wp2_with fail
      go_at_call 20
      with_reducible refine (XC.out).mono ?_
      rintro e w3 ⟨rfl, hf3, ho3⟩
      have hmu := H.out.fs.mut
      have HF3 := Aside0.mk hf3
      have HM3 := Aside0.mk (H.out.map.to (ho3.block M H.out.map.lt H.out.nfp))
      have HB3 : Aside0 (Below W.heap.size W w3) := ⟨bo H.out.bel ho3 (fun g hg => (hmu g hg).1) H.out.fs.base_le⟩
      have HV3 : Aside0 (∀ p ∈ mv, ∃ b, RB W.heap.size NoL w3 p.2 b ∧ ∃ c, readP (crashP S keep) p.1 = (c, 0) ∧ b <+: c) := ⟨fun p hp => by
        obtain ⟨b, h1, h2⟩ := H.out.vals p hp
        obtain ⟨c, h3, h4⟩ := here_crash H.out.rows h2 keep
        exact ⟨b, h1.only ho3 hmu, c, h3, h4⟩⟩
      clear hf3 ho3 XC hmu H
      go_wp2_with (first | (refine wpList_range_str HM3.out rfl _ rfl Try.underlying60 rfl ?_; intro o2 hit2; have HIT2 := Aside0.mk hit2; clear hit2))
      have H0 : Aside0 (SLoop W F M w3.heap.size j mv mv (w3.alloc o2) fpj (crashP S keep)) := ⟨⟨HF3.out.below (below_alloc (Below.refl _ _) _), HIT2.out, fun p hp => hp, fun p hp => by obtain ⟨b, h1, h2⟩ := HV3.out p hp; exact ⟨b, h1.below (below_alloc (Below.refl _ _) _), h2⟩, fun h => by have := HF3.out.lt _ h; omega, HF3.out.base_le, (below_alloc' HB3.out HF3.out.base_le _).1⟩⟩
      clear HF3 HM3 HB3 HV3 HIT2
      generalize w3.heap.size = r0 at H0 ⊢
      generalize w3.alloc o2 = w4 at H0 ⊢
      generalize crashP S keep = SC at H0
      simp only [Act.put, List.setIfInBounds_toArray, List.set_cons_zero, List.set_cons_succ]
      go_loopg [11] mv.length (fun kq v11 w' => ∃ lf : List (ByteArray × Value), lf.length = kq ∧ Aside0 (SLoop W F M r0 j mv lf w' fpj SC))
      case atStart => exact ⟨mv, rfl, H0⟩
      case round =>
        clear H0
        obtain ⟨lf, hlen, HL⟩ := hrel
        have HLEN := Aside0.mk hlen
        clear hlen
        go_wp2_with (first | (refine wpList_next_str HL.out.it rfl _ rfl rfl ?_ ?_))
        · intro h0
          go_wp2_with fail
          have XL := Aside0.mk (alive_walk wr)
          go_at_call 11
          with_reducible refine (XL.out).mono ?_
          rintro e w5 ⟨rfl, hb5⟩
          have HEND : Aside0 (Below W.heap.size W w5) := ⟨HL.out.bel.trans (hb5.mono HL.out.fs.base_le)⟩
          clear hb5 XL
          go_wp2
          go_ret
          exact ⟨rfl, HEND.out⟩
        · intro i hi w2 hit2 ho2 hs2 hen
          cases gk with
          | zero => have := HLEN.out; omega
          | succ d =>
            have hmem := HL.out.sub _ (List.getElem_mem hi)
            obtain ⟨b, hb1, c, hb2, hb3⟩ := HL.out.vals _ hmem
            have h2 := HL.out.step hit2 ho2
            have HN := Aside0.mk h2
            have hv2 := hb1.only ho2 (fun k hk => ⟨hk ▸ HL.out.ger, hk ▸ HL.out.it.not_T5⟩)
            have HV2 := Aside0.mk hv2
            have HPR := Aside0.mk hb3
            have XR := Aside0.mk (h2.fs.read (by omega) lf[i].1)
            rw [hb2] at XR
            have HLE : Aside0 ((lf.eraseIdx i).length = d) := ⟨by rw [List.length_eraseIdx, if_pos hi, HLEN.out]; rfl⟩
            clear hmem hb1 hb2 hb3 h2 hv2 hit2 ho2 hs2 HL
            generalize lf.eraseIdx i = lf' at HN HLE
            generalize lf[i] = p at hen XR HV2
            obtain ⟨nm, vp⟩ := p
            clear hi
            go_wp2_with fail
            go_at_call 18
            with_reducible refine (XR.out).mono ?_
            rintro e w5 ⟨v5, rfl, ho5, hb5⟩
            have HN5 := Aside0.mk (HN.out.below hb5)
            have XE := Aside0.mk (prefix_calls (RB.of_R (base := W.heap.size) (Lz := NoL) ho5 (fun _ _ h => h)) (HV2.out.below hb5) HPR.out)
            clear ho5 hb5 XR
            go_wp2_with fail
            go_at_call 30
            with_reducible refine (XE.out).mono ?_
            rintro e w6 ⟨rfl, hb6⟩
            have HN6 := Aside0.mk (HN5.out.below hb6)
            clear hb6 XE
            go_wp2
            go_roundg d
            case measure => omega
            case rel => exact ⟨lf', HLE.out, HN6⟩
    | succ d =>
      have hlt : decide ((j : Int) < (l0.length : Int)) = true := decide_eq_true (by omega)
      have hjl : j < l0.length := by omega
      obtain ⟨ad, A3, c3, A5, c5, e0, x0, x1, x2, x3, x4, x5, l3, r3, l5, r5⟩ := at_T34 HR0.out (j : Int) (by omega) (by omega)
      rw [rd_T34_get hjl] at x0 x1 x2 x3 x4 x5 l3 r3 l5 r5
      rw [Int.toNat_natCast] at x0 x1 x2 x3 x4 x5
      subst e0
      have hx8 := HFW.out.2 _ (List.getElem_mem hjl)
      have HRB : Aside0 (RB W.heap.size AllL W (.slice A3 (l0[j]).f3.length c3) (l0[j]).f3) := ⟨RB.arg l3 r3⟩
      generalize l0[j] = x at x0 x1 x2 x3 x4 x5 l3 r3 l5 r5 hx8 HRB
      replace x0 := (H.out.bel.cell (World.block_lt_of_cell? W _ x0)).trans x0
      replace x1 := (H.out.bel.cell (World.block_lt_of_cell? W _ x1)).trans x1
      replace x2 := (H.out.bel.cell (World.block_lt_of_cell? W _ x2)).trans x2
      replace x3 := (H.out.bel.cell (World.block_lt_of_cell? W _ x3)).trans x3
      replace x4 := (H.out.bel.cell (World.block_lt_of_cell? W _ x4)).trans x4
      replace x5 := (H.out.bel.cell (World.block_lt_of_cell? W _ x5)).trans x5
      have hz : szOf x = (x.f3.length : Int) + x.f5.length + x.f1.size + x.f2.size := rfl
      have hx3 : x.f3.length ≤ 65536 := by omega
      have HJ := Aside0.mk hj
      have hj80 : j ≤ 80 := by have := HFW.out.1; omega
      have HA := Aside0.mk (H.out.below (below_alloc (Below.refl _ _) (.cells #[.int .i64 x.f0, .string x.f1, .string x.f2, .slice A3 x.f3.length c3, .int .i64 x.f4, .slice A5 x.f5.length c5] 34)))
      have HLT : Aside0 (¬ fpj wr.heap.size) := ⟨fun h => by have := H.out.fs.lt _ h; omega⟩
      clear l3 r3 l5 r5 hx8 hz hj H
      by_cases hkd : 0 ≤ x.f0 ∧ x.f0 ≤ 4
      · obtain ⟨hk0, hk4⟩ := hkd
        have XQ := Aside0.mk (synced_do (A5 := A5) (c5 := c5) HA.out (by omega) x hk0 hk4 HRB.out hx3)
        have hbn := Blk.new wr 34 #[.int .i64 x.f0, .string x.f1, .string x.f2, .slice A3 x.f3.length c3, .int .i64 x.f4, .slice A5 x.f5.length c5]
        have hkc : x.f0 = 0 ∨ x.f0 = 1 ∨ x.f0 = 2 ∨ x.f0 = 3 ∨ x.f0 = 4 := by omega
        rcases hkc with hk | hk | hk | hk | hk
        · rw [hk] at x0 XQ hbn
          have hdo : doP S x = writeP S x.f1 x.f3 := by simp [doP, hk]
          have HDO := Aside0.mk hdo
          have HND := Aside0.mk HA.out.map.nodup
          clear hdo hk hk0 hk4
          by_cases hq : (doP S x).1 = 0
          · rw [hq] at XQ
            have HQ := Aside0.mk hq
            clear hq
            go_wp2_with fail
            go_at_call 16
            with_reducible refine (XQ.out).mono ?_
            rintro e w3 ⟨rfl, ⟨fp3, h3⟩, ho3⟩
            have H3 := Aside0.mk h3
            have b3 := hbn.to (ho3.block wr.heap.size (by simp) HLT.out)
            have y0 := b3.cell 0 rfl
            have y1 := b3.cell 1 rfl
            have y2 := b3.cell 2 rfl
            have HV3 : Aside0 (wr.heap.size < w3.heap.size) := ⟨b3.lt⟩
            have HMN : Aside0 (wr.heap.size ≠ M) := ⟨fun e => H3.out.map.ne_blk b3 e.symm⟩
            clear h3 ho3 XQ hbn b3
            have HN := Aside0.mk (H3.out.now (S1 := (doP S x).2) (fun p _ b hb => by rw [HDO.out]; exact here_write hb _ _))
            clear H3
            go_wp2
            go_roundg d
            case measure => omega
            case rel => exact ⟨j + 1, by have := HJ.out; omega, by go_num, _, _, _, HN⟩
          · have hq1 : ((doP S x).1 != 0) = true := by rw [bne_iff_ne]; exact hq
            have HQ := Aside0.mk hq
            clear hq
            go_wp2_with fail
            go_at_call 16
            with_reducible refine (XQ.out).mono ?_
            rintro e w3 ⟨rfl, ⟨fp3, h3⟩, ho3⟩
            have H3 := Aside0.mk h3
            have b3 := hbn.to (ho3.block wr.heap.size (by simp) HLT.out)
            have y0 := b3.cell 0 rfl
            have y1 := b3.cell 1 rfl
            have y2 := b3.cell 2 rfl
            have HV3 : Aside0 (wr.heap.size < w3.heap.size) := ⟨b3.lt⟩
            have HMN : Aside0 (wr.heap.size ≠ M) := ⟨fun e => H3.out.map.ne_blk b3 e.symm⟩
            clear h3 ho3 XQ hbn b3
            have HN := Aside0.mk (H3.out.now (S1 := (doP S x).2) (fun p _ b hb => here_bad hb x HQ.out))
            clear H3
            go_wp2
            go_roundg d
            case measure => omega
            case rel => exact ⟨j + 1, by have := HJ.out; omega, by go_num, _, _, _, HN⟩
        · rw [hk] at x0 XQ hbn
          have hdo : doP S x = syncP S x.f1 := by simp [doP, hk]
          have HDO := Aside0.mk hdo
          have HND := Aside0.mk HA.out.map.nodup
          clear hdo hk hk0 hk4
          by_cases hq : (doP S x).1 = 0
          · rw [hq] at XQ
            have HQ := Aside0.mk hq
            clear hq
            go_wp2_with fail
            go_at_call 16
            with_reducible refine (XQ.out).mono ?_
            rintro e w3 ⟨rfl, ⟨fp3, h3⟩, ho3⟩
            have H3 := Aside0.mk h3
            have b3 := hbn.to (ho3.block wr.heap.size (by simp) HLT.out)
            have y0 := b3.cell 0 rfl
            have y1 := b3.cell 1 rfl
            have y2 := b3.cell 2 rfl
            have HV3 : Aside0 (wr.heap.size < w3.heap.size) := ⟨b3.lt⟩
            have HMN : Aside0 (wr.heap.size ≠ M) := ⟨fun e => H3.out.map.ne_blk b3 e.symm⟩
            clear h3 ho3 XQ hbn b3
            obtain ⟨g1, g2⟩ := sync_here (dinv_neg HA.out.inv) (show (syncP S x.f1).1 = 0 from by rw [← HDO.out]; exact HQ.out)
            rw [← HDO.out] at g1 g2
            have HG2 := Aside0.mk g2
            have XR := Aside0.mk ((H3.out.fs.below (below_drew (Below.refl _ _))).read (by omega) x.f1)
            rw [g1] at XR
            clear g1 g2
            go_wp2_with fail
            go_region_held3 (fun w' => w'.cell? ⟨wr.heap.size, 1, none⟩ = some (.string x.f1))
              (first | go_keep | assumption)
              (first
                | (go_at_call 18; refine (XR.out).mono ?_; rintro e w6 ⟨v6, rfl, ho6, hb6⟩
                   have y16 := (hb6.cell (p := ⟨wr.heap.size, 1, none⟩) HV3.out).trans y1
                   have h6 : SMid W F M (j + 1) mv w6 fp3 S (doP S x).2 := (H3.out.below (below_drew (Below.refl _ _))).below hb6
                   obtain ⟨w7, hup, hm7, hg7⟩ := h6.map.update Try.underlying60 Try.underlying9 x.f1 v6
                   have y17 : w7.cell? ⟨wr.heap.size, 1, none⟩ = some (.string x.f1) := (World.cell?_of_block (a := ⟨wr.heap.size, 1, none⟩) (hg7.block wr.heap.size (Nat.lt_of_lt_of_le HV3.out hb6.size) (fun e => HMN.out (Option.some.inj e)))).trans y16
                   have HN : Aside0 (SMid W F M (j + 1) (put x.f1 v6 mv) w7 fp3 (doP S x).2 (doP S x).2) := ⟨h6.turn hg7 hm7 (fun p hp => by
                     rcases (mem_put HND.out).1 hp with rfl | ⟨hp, hne⟩
                     · exact .inr ⟨_, RB.of_R ho6 (fun _ _ h => h), HG2.out⟩
                     · exact .inl ⟨hp, fun b hb => by rw [HDO.out]; exact here_sync hb _ hne⟩)⟩
                   clear ho6 hb6 h6 hm7 hg7))
            go_wp2
            go_roundg d
            case measure => omega
            case rel => exact ⟨j + 1, by have := HJ.out; omega, by go_num, _, _, _, HN⟩
          · have hq1 : ((doP S x).1 != 0) = true := by rw [bne_iff_ne]; exact hq
            have HQ := Aside0.mk hq
            clear hq
            go_wp2_with fail
            go_at_call 16
            with_reducible refine (XQ.out).mono ?_
            rintro e w3 ⟨rfl, ⟨fp3, h3⟩, ho3⟩
            have H3 := Aside0.mk h3
            have b3 := hbn.to (ho3.block wr.heap.size (by simp) HLT.out)
            have y0 := b3.cell 0 rfl
            have y1 := b3.cell 1 rfl
            have y2 := b3.cell 2 rfl
            have HV3 : Aside0 (wr.heap.size < w3.heap.size) := ⟨b3.lt⟩
            have HMN : Aside0 (wr.heap.size ≠ M) := ⟨fun e => H3.out.map.ne_blk b3 e.symm⟩
            clear h3 ho3 XQ hbn b3
            have HN := Aside0.mk (H3.out.now (S1 := (doP S x).2) (fun p _ b hb => here_bad hb x HQ.out))
            clear H3
            go_wp2
            go_roundg d
            case measure => omega
            case rel => exact ⟨j + 1, by have := HJ.out; omega, by go_num, _, _, _, HN⟩
        · rw [hk] at x0 XQ hbn
          have hdo : doP S x = renameP S x.f1 x.f2 := by simp [doP, hk]
          have HDO := Aside0.mk hdo
          have HND := Aside0.mk HA.out.map.nodup
          clear hdo hk hk0 hk4
          by_cases hq : (doP S x).1 = 0
          · rw [hq] at XQ
            have HQ := Aside0.mk hq
            clear hq
            go_wp2_with fail
            go_at_call 16
            with_reducible refine (XQ.out).mono ?_
            rintro e w3 ⟨rfl, ⟨fp3, h3⟩, ho3⟩
            have H3 := Aside0.mk h3
            have b3 := hbn.to (ho3.block wr.heap.size (by simp) HLT.out)
            have y0 := b3.cell 0 rfl
            have y1 := b3.cell 1 rfl
            have y2 := b3.cell 2 rfl
            have HV3 : Aside0 (wr.heap.size < w3.heap.size) := ⟨b3.lt⟩
            have HMN : Aside0 (wr.heap.size ≠ M) := ⟨fun e => H3.out.map.ne_blk b3 e.symm⟩
            clear h3 ho3 XQ hbn b3
            go_wp2_with (first
              | (have tok := HV3.out; refine wpList_delete_str H3.out.map rfl _ _ rfl Try.underlying60 Try.underlying9 x.f1 rfl rfl ?_; intro w7 hm7 hg7; have HN1 : Aside0 (SMid W F M (j + 1) (drop_ x.f1 mv) w7 fp3 S (doP S x).2) := ⟨H3.out.turn hg7 hm7 (fun p hp => .inl ⟨(drop_vals HND.out p hp).1, fun b hb => hb⟩)⟩; have y07 := (World.cell?_of_block (a := ⟨wr.heap.size, 0, none⟩) (hg7.block wr.heap.size HV3.out (fun e => HMN.out (Option.some.inj e)))).trans y0; have y27 := (World.cell?_of_block (a := ⟨wr.heap.size, 2, none⟩) (hg7.block wr.heap.size HV3.out (fun e => HMN.out (Option.some.inj e)))).trans y2; clear hm7 hg7 tok HV3)
              | (have tok := HN1.out; clear tok; refine wpList_delete_str HN1.out.map rfl _ _ rfl Try.underlying60 Try.underlying9 x.f2 rfl rfl ?_; intro w8 hm8 hg8; have HN : Aside0 (SMid W F M (j + 1) (drop_ x.f2 (drop_ x.f1 mv)) w8 fp3 (doP S x).2 (doP S x).2) := ⟨HN1.out.turn hg8 hm8 (fun p hp => by have e1 := drop_vals HN1.out.map.nodup p hp; have e2 := drop_vals HND.out p e1.1; exact .inl ⟨e1.1, fun b hb => by rw [HDO.out]; exact here_rename hb _ _ e2.2 e1.2⟩)⟩; clear hm8 hg8))
            go_roundg d
            case measure => omega
            case rel => exact ⟨j + 1, by have := HJ.out; omega, by go_num, _, _, _, HN⟩
          · have hq1 : ((doP S x).1 != 0) = true := by rw [bne_iff_ne]; exact hq
            have HQ := Aside0.mk hq
            clear hq
            go_wp2_with fail
            go_at_call 16
            with_reducible refine (XQ.out).mono ?_
            rintro e w3 ⟨rfl, ⟨fp3, h3⟩, ho3⟩
            have H3 := Aside0.mk h3
            have b3 := hbn.to (ho3.block wr.heap.size (by simp) HLT.out)
            have y0 := b3.cell 0 rfl
            have y1 := b3.cell 1 rfl
            have y2 := b3.cell 2 rfl
            have HV3 : Aside0 (wr.heap.size < w3.heap.size) := ⟨b3.lt⟩
            have HMN : Aside0 (wr.heap.size ≠ M) := ⟨fun e => H3.out.map.ne_blk b3 e.symm⟩
            clear h3 ho3 XQ hbn b3
            have HN := Aside0.mk (H3.out.now (S1 := (doP S x).2) (fun p _ b hb => here_bad hb x HQ.out))
            clear H3
            go_wp2
            go_roundg d
            case measure => omega
            case rel => exact ⟨j + 1, by have := HJ.out; omega, by go_num, _, _, _, HN⟩
        · rw [hk] at x0 XQ hbn
          have hdo : doP S x = removeP S x.f1 := by simp [doP, hk]
          have HDO := Aside0.mk hdo
          have HND := Aside0.mk HA.out.map.nodup
          clear hdo hk hk0 hk4
          by_cases hq : (doP S x).1 = 0
          · rw [hq] at XQ
            have HQ := Aside0.mk hq
            clear hq
            go_wp2_with fail
            go_at_call 16
            with_reducible refine (XQ.out).mono ?_
            rintro e w3 ⟨rfl, ⟨fp3, h3⟩, ho3⟩
            have H3 := Aside0.mk h3
            have b3 := hbn.to (ho3.block wr.heap.size (by simp) HLT.out)
            have y0 := b3.cell 0 rfl
            have y1 := b3.cell 1 rfl
            have y2 := b3.cell 2 rfl
            have HV3 : Aside0 (wr.heap.size < w3.heap.size) := ⟨b3.lt⟩
            have HMN : Aside0 (wr.heap.size ≠ M) := ⟨fun e => H3.out.map.ne_blk b3 e.symm⟩
            clear h3 ho3 XQ hbn b3
            go_wp2_with (first | (refine wpList_delete_str H3.out.map rfl _ _ rfl Try.underlying60 Try.underlying9 x.f1 rfl rfl ?_; intro w7 hm7 hg7; have HN : Aside0 (SMid W F M (j + 1) (drop_ x.f1 mv) w7 fp3 (doP S x).2 (doP S x).2) := ⟨H3.out.turn hg7 hm7 (fun p hp => .inl ⟨(drop_vals HND.out p hp).1, fun b hb => by rw [HDO.out]; exact here_remove hb _ (drop_vals HND.out p hp).2⟩)⟩; have y07 := (World.cell?_of_block (a := ⟨wr.heap.size, 0, none⟩) (hg7.block wr.heap.size HV3.out (fun e => HMN.out (Option.some.inj e)))).trans y0; clear hm7 hg7))
            go_roundg d
            case measure => omega
            case rel => exact ⟨j + 1, by have := HJ.out; omega, by go_num, _, _, _, HN⟩
          · have hq1 : ((doP S x).1 != 0) = true := by rw [bne_iff_ne]; exact hq
            have HQ := Aside0.mk hq
            clear hq
            go_wp2_with fail
            go_at_call 16
            with_reducible refine (XQ.out).mono ?_
            rintro e w3 ⟨rfl, ⟨fp3, h3⟩, ho3⟩
            have H3 := Aside0.mk h3
            have b3 := hbn.to (ho3.block wr.heap.size (by simp) HLT.out)
            have y0 := b3.cell 0 rfl
            have y1 := b3.cell 1 rfl
            have y2 := b3.cell 2 rfl
            have HV3 : Aside0 (wr.heap.size < w3.heap.size) := ⟨b3.lt⟩
            have HMN : Aside0 (wr.heap.size ≠ M) := ⟨fun e => H3.out.map.ne_blk b3 e.symm⟩
            clear h3 ho3 XQ hbn b3
            have HN := Aside0.mk (H3.out.now (S1 := (doP S x).2) (fun p _ b hb => here_bad hb x HQ.out))
            clear H3
            go_wp2
            go_roundg d
            case measure => omega
            case rel => exact ⟨j + 1, by have := HJ.out; omega, by go_num, _, _, _, HN⟩
        · rw [hk] at x0 XQ hbn
          have hdo : doP S x = cutP S x.f1 x.f4 := by simp [doP, hk]
          have HDO := Aside0.mk hdo
          have HND := Aside0.mk HA.out.map.nodup
          clear hdo hk hk0 hk4
          by_cases hq : (doP S x).1 = 0
          · rw [hq] at XQ
            have HQ := Aside0.mk hq
            clear hq
            go_wp2_with fail
            go_at_call 16
            with_reducible refine (XQ.out).mono ?_
            rintro e w3 ⟨rfl, ⟨fp3, h3⟩, ho3⟩
            have H3 := Aside0.mk h3
            have b3 := hbn.to (ho3.block wr.heap.size (by simp) HLT.out)
            have y0 := b3.cell 0 rfl
            have y1 := b3.cell 1 rfl
            have y2 := b3.cell 2 rfl
            have HV3 : Aside0 (wr.heap.size < w3.heap.size) := ⟨b3.lt⟩
            have HMN : Aside0 (wr.heap.size ≠ M) := ⟨fun e => H3.out.map.ne_blk b3 e.symm⟩
            clear h3 ho3 XQ hbn b3
            go_wp2_with (first | (refine wpList_delete_str H3.out.map rfl _ _ rfl Try.underlying60 Try.underlying9 x.f1 rfl rfl ?_; intro w7 hm7 hg7; have HN : Aside0 (SMid W F M (j + 1) (drop_ x.f1 mv) w7 fp3 (doP S x).2 (doP S x).2) := ⟨H3.out.turn hg7 hm7 (fun p hp => .inl ⟨(drop_vals HND.out p hp).1, fun b hb => by rw [HDO.out]; exact here_cut hb _ _ (drop_vals HND.out p hp).2⟩)⟩; have y07 := (World.cell?_of_block (a := ⟨wr.heap.size, 0, none⟩) (hg7.block wr.heap.size HV3.out (fun e => HMN.out (Option.some.inj e)))).trans y0; clear hm7 hg7))
            go_roundg d
            case measure => omega
            case rel => exact ⟨j + 1, by have := HJ.out; omega, by go_num, _, _, _, HN⟩
          · have hq1 : ((doP S x).1 != 0) = true := by rw [bne_iff_ne]; exact hq
            have HQ := Aside0.mk hq
            clear hq
            go_wp2_with fail
            go_at_call 16
            with_reducible refine (XQ.out).mono ?_
            rintro e w3 ⟨rfl, ⟨fp3, h3⟩, ho3⟩
            have H3 := Aside0.mk h3
            have b3 := hbn.to (ho3.block wr.heap.size (by simp) HLT.out)
            have y0 := b3.cell 0 rfl
            have y1 := b3.cell 1 rfl
            have y2 := b3.cell 2 rfl
            have HV3 : Aside0 (wr.heap.size < w3.heap.size) := ⟨b3.lt⟩
            have HMN : Aside0 (wr.heap.size ≠ M) := ⟨fun e => H3.out.map.ne_blk b3 e.symm⟩
            clear h3 ho3 XQ hbn b3
            have HN := Aside0.mk (H3.out.now (S1 := (doP S x).2) (fun p _ b hb => here_bad hb x HQ.out))
            clear H3
            go_wp2
            go_roundg d
            case measure => omega
            case rel => exact ⟨j + 1, by have := HJ.out; omega, by go_num, _, _, _, HN⟩
      · have hor : (decide (x.f0 < 0) || decide (4 < x.f0)) = true := by
          rcases Int.lt_or_le x.f0 0 with h | h
          · simp [h]
          · have : 4 < x.f0 := by omega
            simp [this]
        have HN := Aside0.mk HA.out.later
        clear hkd
        go_wp2
        all_goals
          go_roundg d
          case measure => omega
          case rel => exact ⟨j + 1, by have := HJ.out; omega, by go_num, _, _, _, HN⟩

set_option maxRecDepth 100000 in
set_option maxHeartbeats 2000000 in
theorem synced_out {W : World} {A0 A1 : Option Addr} {c0 c1 : Nat} {l0 : List S34} {keep : List Bool} (hr0 : Kd.C k34 W A0 l0.length l0) (hc0 : l0.length ≤ c0) {r : Bool} {kf : Nat} (hf : souffleurlaw10_few.f kf l0 = some r) (h : r = false ∨ (r = true ∧ 200 < keep.length)) :
    Calls Try.prog 9 #[.slice A0 l0.length c0, .slice A1 keep.length c1] W fun e w' => e = .returned (.bool true) ∧ Below W.heap.size W w' := by
  have XF := Aside0.mk (souffleurlaw10_few.calls kf A0 c0 l0 r W hr0 hc0 hf)
  clear hf hr0
  rcases h with rfl | ⟨rfl, h⟩
  all_goals
    go_enter Try.func9, Try.ntmps9
    go_wp2_with fail
    go_at_call 10
    with_reducible refine (XF.out).mono ?_
    rintro e w1 ⟨rfl, hb1⟩
    have HB1 := Aside0.mk hb1
    clear hb1
    go_wp2_with fail
    have XL := Aside0.mk (alive_walk w1)
    go_at_call 11
    with_reducible refine (XL.out).mono ?_
    rintro e w2 ⟨rfl, hb2⟩
    have HB2 := Aside0.mk hb2
    clear hb2 XL
    go_wp2
    go_ret
    exact ⟨rfl, HB1.out.trans (HB2.out.mono HB1.out.size)⟩

theorem fileSynced_walk {W : World} {A0 A1 : Option Addr} {c0 c1 : Nat} {l0 : List S34} {keep : List Bool} (hc0 : l0.length ≤ c0) (hr0 : Kd.C k34 W A0 l0.length l0) (hs : l0.length * Try.prog.bytesOf 34 ≤ reachBytes ∧ ∀ x ∈ l0, SizedS x) (hk : Kd.bool.C W A1 keep.length keep) :
    Calls Try.prog 9 #[.slice A0 l0.length c0, .slice A1 keep.length c1] W fun e w' => e = .returned (.bool true) ∧ Below W.heap.size W w' := by
  obtain ⟨kf, r, hf, hr⟩ := few_tells l0 (by have := Kd.C_max hr0; have h1 := hs.1; rw [show Try.prog.bytesOf 34 = 96 from by kernel_rfl] at h1; unfold reachBytes at h1; omega) hs.2
  cases r with
  | false => exact synced_out hr0 hc0 hf (.inl rfl)
  | true =>
    by_cases h : keep.length ≤ 200
    · exact synced_walk hr0 hc0 (hr rfl) hf hk h
    · exact synced_out hr0 hc0 hf (.inr ⟨rfl, by omega⟩)

end Go.Proofs.Ytcpkoajnepijkaa
