/- Parts of the proof of the law that the last file states; declarations that nothing mentions are left out by a program. No conditions. -/
import Derived.Test.YtcpkoajnepijkaaRefWq
set_option linter.unusedVariables false
set_option linter.unusedSimpArgs false
namespace Go.Proofs.Ytcpkoajnepijkaa
open Go.RowKit Go.Proofs.YtcpkoajnepijkaaL Go.Proofs.YtcpkoajnepijkaaW.PrintWords Go.Proofs.Ytcpkoajnepijkaa.Q
theorem i64w (n : Int) : IntKind.i64.wrap n = wrap64 n := by unfold wrap64; exact IntKind.wrap_i64 n
theorem info3 : (Try.prog.info? 3).map (·.size) = some 1 := by kernel_rfl
theorem info45 : (Try.prog.info? 45).map (·.size) = some 1 := by kernel_rfl
theorem known_count3 {w : World} {P : Nat → Prop} {S S2 : PS} (hN : NumP S) (hd : S.down = false) (ho : (countP S).ops = S2.ops) (hf : (countP S).fuse = S2.fuse) (hdn : (countP S).down = S2.down) {m : Nat} {A : Option Addr} {c : Nat} {G : List Nat} {fa : Int} :
    ∀ w', Fr w w' G → Kd.V k47 47 w' 0 (Fp w P G) (.slice A m c) (S.l.map toF) → Calls Try.prog 54 #[.agg #[.slice A m c, .int .i64 S.no, .int .i64 S.ops, .int .i64 S.fuse, .int .i64 fa, .bool false]] w' fun e w'' => ∃ A' c', e = .returned (.agg #[.slice A' m c', .int .i64 S.no, .int .i64 S2.ops, .int .i64 S2.fuse, .int .i64 fa, .bool S2.down]) ∧
      Kd.V k47 47 w'' 0 (fun k => Fp w P G k ∨ w'.heap.size ≤ k) (.slice A' m c') (S.l.map toF) ∧ Below w'.heap.size w' w'' := by
  intro w' hF hV
  have hm := V_len hV
  subst hm
  refine Calls.mono (souffleurref10_count.calls _ A c (S.l.map toF) S.no S.ops S.fuse fa false _ _ _ _ _ _ w' (V_rebase hV) (by have := count_tells S (S.l.map toF) S.no hN.fuse0 hN.fuse1 hN.ops hd fa; rw [hd] at this; exact this)) ?_
  rintro _ w'' ⟨v, rfl, hv2, hb2⟩
  obtain ⟨A', c', rfl⟩ := Kd.V_slice hv2
  exact ⟨A', c', by rw [ho, hf, hdn], V_rebase hv2, hb2⟩
set_option maxRecDepth 100000 in
set_option maxHeartbeats 2000000 in
theorem refw_ok {w : World} {P : Nat → Prop} {A : Option Addr} {c : Nat} {S : PS} (h : Kd.V k47 47 w w.heap.size P (.slice A (S.l.map toF).length c) (S.l.map toF)) (hB : BoundP S) (hN : NumP S) (hd : S.down = false) {kd : Int} {s t : ByteArray} {bs : List Int} {A3 A5 : Option Addr} {n3 n5 c3 c5 : Nat} {n : Int} {f : PF} {idx : Int} (hidx : idxP s S.l 0 = idx) (h3 : Kd.V (Kd.int .u8) 5 w w.heap.size P (.slice A3 n3 c3) bs) (hf : (idx = -1 ∧ f = ⟨s, [], []⟩) ∨ ∃ i : Nat, idx = i ∧ S.l[i]? = some f) (hfn : f.name = s) (hs1 : 1 ≤ s.size) (hs2 : s.size ≤ 20) (hroom : idx < 0 → S.l.length < 8) (hfB : f.b.length ≤ 65536 ∧ RowB f.row) (hlen : (bytesP f).length + bs.length ≤ 65536) (hN : NumP S) {mb : Nat} (hmb : (bytesP f).length = mb) {S2 : PS} (hlx : S2.l = if S.fault = 0 then S.l else withP { f with row := f.row ++ [⟨S.no, mb, bs⟩] } S.l) (hnx : S2.no = if S.fault = 0 then S.no else S.no + 1)
    (ho : (countP S).ops = S2.ops) (hfu : (countP S).fuse = S2.fuse) (hdn : (countP S).down = S2.down) (hfa : decP S.fault = S2.fault) {code : Int} (hcd : code = if S2.down = true then 100 else if S.fault = 0 then 102 else 0) :
    Calls Try.prog 35 #[.agg #[.slice A (S.l.map toF).length c, .int .i64 S.no, .int .i64 S.ops, .int .i64 S.fuse, .int .i64 S.fault, .bool S.down], .agg #[.int .i64 kd, .string s, .string t, .slice A3 n3 c3, .int .i64 n, .slice A5 n5 c5]] w fun e w' =>
      ∃ v', e = .returned (.tuple #[v', .int .i64 code]) ∧ RSt w' (fun k => P k ∨ w.heap.size ≤ k) v' S2 ∧ Below w.heap.size w w' := by
  have X := Zz.mk (known_find h hB s hidx rfl)
  simp only [hd] at X
  rw [hd]
  have HD := Zz.mk hd
  have HL : Zz (S.l.length ≤ 1000000) := ⟨by have := hB.1; omega⟩
  have HFB := Zz.mk hfB
  have HRM := Zz.mk hroom
  have HLB := Zz.mk hlen
  have HFC := Zz.mk hf
  have HFN := Zz.mk hfn
  have HMB := Zz.mk hmb
  have HLX := Zz.mk hlx
  have HNX := Zz.mk hnx
  have HFA := Zz.mk hfa
  have HFX := Zz.mk (And.intro hN.fault0 hN.fault1)
  have HNO := Zz.mk hN.no
  have HCD := Zz.mk hcd
  have HN3 := Zz.mk (V_len h3)
  obtain ⟨mq, hm2⟩ : ∃ mq, ((withP ({ f with row := f.row ++ [⟨S.no, mb, bs⟩] } : PF) S.l).map toF).length = mq := ⟨_, rfl⟩
  have HM2 := Zz.mk hm2
  generalize hm : (S.l.map toF).length = m at X h ⊢
  have HM := Zz.mk hm
  have Y : Zz (∀ (G : List Nat) (A : Option Addr) (c : Nat) w', Fr w w' G → Kd.V k47 47 w' 0 (Fp w P G) (.slice A m c) (S.l.map toF) → Calls Try.prog 54 #[.agg #[.slice A m c, .int .i64 S.no, .int .i64 S.ops, .int .i64 S.fuse, .int .i64 S2.fault, .bool false]] w' fun e w'' => ∃ A' c', e = .returned (.agg #[.slice A' m c', .int .i64 S.no, .int .i64 S2.ops, .int .i64 S2.fuse, .int .i64 S2.fault, .bool S2.down]) ∧
      Kd.V k47 47 w'' 0 (fun k => Fp w P G k ∨ w'.heap.size ≤ k) (.slice A' m c') (S.l.map toF) ∧ Below w'.heap.size w' w'') := ⟨fun G A c => known_count3 hN hd ho hfu hdn⟩
  have HV := Zz.mk (Fp.start (base' := 0) h)
  have V3 := Zz.mk (Fp.start (base' := 0) h3)
  have HF := Zz.mk (Fr.start w)
  have e1 : decide ((s.size : Int) < 1) = false := decide_eq_false (by omega)
  have e2 : decide ((20 : Int) < (s.size : Int)) = false := decide_eq_false (by omega)
  clear h h3 hm hB hd hf hfn hs1 hs2 hroom hfB hlen hmb hlx hnx hfa hN hcd hm2 ho hfu hdn
  go_enter Try.func35, Try.ntmps35
  have hu29 := Try.underlying29
  have hu34 := Try.underlying34
  have hu47 := Try.underlying47
  go_upto_region 2 with (first
      | ((with_reducible refine gate_dst (N := 2) rfl ?_); refine box_event ?hg (N := 2) ?hd (cs := #[.slice A m c, .int .i64 S.no, .int .i64 S.ops, .int .i64 S.fuse, .int .i64 S.fault, .bool false]) (t := 29) ?hr ?_; (case hd => rfl); (case hg => rfl); (case hr => first | (go_simp; done) | (go_simp; rfl)); intro g0 hg w1 hx hb; replace HV := Zz.mk (Fp.box (base' := 0) HV.out hg hb); replace V3 := Zz.mk (Fp.box (base' := 0) V3.out hg hb); replace HF := Zz.mk (HF.out.box hg hb (Blk.lt (show Blk w1 g0 29 _ from hx))); have B0 := Zz.mk (show Blk w1 g0 29 _ from hx); clear hg hx hb; obtain ⟨c00, c01, c02, c03, c04, c05, d00, d01, d02, d03, d04, d05⟩ := Blk.six B0.out)
      | ((with_reducible refine gate_dst (N := 3) rfl ?_); refine box_event ?hg (N := 3) ?hd (cs := #[.int .i64 kd, .string s, .string t, .slice A3 n3 c3, .int .i64 n, .slice A5 n5 c5]) (t := 34) ?hr ?_; (case hd => rfl); (case hg => rfl); (case hr => first | (go_simp; done) | (go_simp; rfl)); intro g1 hg w2 hx hb; have hE01 := HF.out.ne (k := g0) (by simp) hg; have hE10 := hE01.symm; replace B0 := Zz.mk (Blk.belowW B0.out hb); replace HV := Zz.mk (Fp.box (base' := 0) HV.out hg hb); replace V3 := Zz.mk (Fp.box (base' := 0) V3.out hg hb); replace HF := Zz.mk (HF.out.box hg hb (Blk.lt (show Blk w2 g1 34 _ from hx))); have B1 := Zz.mk (show Blk w2 g1 34 _ from hx); clear hg hx hb; clear c00 c01 c02 c03 c04 c05 d00 d01 d02 d03 d04 d05; obtain ⟨c00, c01, c02, c03, c04, c05, d00, d01, d02, d03, d04, d05⟩ := Blk.six B0.out; obtain ⟨c10, c11, c12, c13, c14, c15, d10, d11, d12, d13, d14, d15⟩ := Blk.six B1.out)
      | ((with_reducible refine gate_dst (N := 4) rfl ?_); refine box_event ?hg (N := 4) ?hd (cs := #[.slice none 0 0, .int .i64 0, .int .i64 0, .int .i64 0, .int .i64 0, .bool false]) (t := 29) ?hr ?_; (case hd => rfl); (case hg => rfl); (case hr => first | (go_simp; done) | (go_simp; rfl)); intro g2 hg w3 hx hb; have hE02 := HF.out.ne (k := g0) (by simp) hg; have hE20 := hE02.symm; have hE12 := HF.out.ne (k := g1) (by simp) hg; have hE21 := hE12.symm; replace B0 := Zz.mk (Blk.belowW B0.out hb); replace B1 := Zz.mk (Blk.belowW B1.out hb); replace HV := Zz.mk (Fp.box (base' := 0) HV.out hg hb); replace V3 := Zz.mk (Fp.box (base' := 0) V3.out hg hb); replace HF := Zz.mk (HF.out.box hg hb (Blk.lt (show Blk w3 g2 29 _ from hx))); have B2 := Zz.mk (show Blk w3 g2 29 _ from hx); clear hg hx hb; clear c00 c01 c02 c03 c04 c05 d00 d01 d02 d03 d04 d05; clear c10 c11 c12 c13 c14 c15 d10 d11 d12 d13 d14 d15; obtain ⟨c00, c01, c02, c03, c04, c05, d00, d01, d02, d03, d04, d05⟩ := Blk.six B0.out; obtain ⟨c10, c11, c12, c13, c14, c15, d10, d11, d12, d13, d14, d15⟩ := Blk.six B1.out; obtain ⟨c20, c21, c22, c23, c24, c25, d20, d21, d22, d23, d24, d25⟩ := Blk.six B2.out)
      | (go_at_call 52; (with_reducible refine (X.out _ HF.out.below).mono ?_); rintro _ wc ⟨rfl, hb⟩; skip; replace B0 := Zz.mk (Blk.belowW B0.out hb); replace B1 := Zz.mk (Blk.belowW B1.out hb); replace B2 := Zz.mk (Blk.belowW B2.out hb); replace HV := Zz.mk (Fp.step (base' := 0) HV.out hb); replace V3 := Zz.mk (Fp.step (base' := 0) V3.out hb); replace HF := Zz.mk (HF.out.call hb); clear hb; skip; clear c00 c01 c02 c03 c04 c05 d00 d01 d02 d03 d04 d05; clear c10 c11 c12 c13 c14 c15 d10 d11 d12 d13 d14 d15; clear c20 c21 c22 c23 c24 c25 d20 d21 d22 d23 d24 d25; obtain ⟨c00, c01, c02, c03, c04, c05, d00, d01, d02, d03, d04, d05⟩ := Blk.six B0.out; obtain ⟨c10, c11, c12, c13, c14, c15, d10, d11, d12, d13, d14, d15⟩ := Blk.six B1.out; obtain ⟨c20, c21, c22, c23, c24, c25, d20, d21, d22, d23, d24, d25⟩ := Blk.six B2.out))
  go_cut [33] (fun v33 wx => v33 = .bool false ∧ wx = wc)
  case first =>
    rcases HFC.out with ⟨rfl, hf⟩ | ⟨i, rfl, hf⟩
    · have q1 : decide ((8 : Int) ≤ (m : Int)) = false := decide_eq_false (by have h1 := HRM.out (by decide); have h2 := HM.out; rw [List.length_map] at h2; omega)
      go_wp2
      go_meet
      case rel => exact ⟨rfl, rfl⟩
    · have q1 : decide ((i : Int) < 0) = false := decide_eq_false (by omega)
      go_wp2
      go_meet
      case rel => exact ⟨rfl, rfl⟩
  case rest =>
  obtain ⟨rfl, rfl⟩ := hcut
  go_upto_if 39 with (first
      | ((with_reducible refine gate_dst (N := 7) rfl ?_); refine box_event ?hg (N := 7) ?hd (cs := #[.string ByteArray.empty, .slice none 0 0, .slice none 0 0]) (t := 47) ?hr ?_; (case hd => rfl); (case hg => rfl); (case hr => first | (go_simp; done) | (go_simp; rfl)); intro g3 hg w4 hx hb; have hE03 := HF.out.ne (k := g0) (by simp) hg; have hE30 := hE03.symm; have hE13 := HF.out.ne (k := g1) (by simp) hg; have hE31 := hE13.symm; have hE23 := HF.out.ne (k := g2) (by simp) hg; have hE32 := hE23.symm; replace B0 := Zz.mk (Blk.belowW B0.out hb); replace B1 := Zz.mk (Blk.belowW B1.out hb); replace B2 := Zz.mk (Blk.belowW B2.out hb); replace HV := Zz.mk (Fp.box (base' := 0) HV.out hg hb); replace V3 := Zz.mk (Fp.box (base' := 0) V3.out hg hb); replace HF := Zz.mk (HF.out.box hg hb (Blk.lt (show Blk w4 g3 47 _ from hx))); have B3 := Zz.mk (show Blk w4 g3 47 _ from hx); clear hg hx hb; clear c00 c01 c02 c03 c04 c05 d00 d01 d02 d03 d04 d05; clear c10 c11 c12 c13 c14 c15 d10 d11 d12 d13 d14 d15; clear c20 c21 c22 c23 c24 c25 d20 d21 d22 d23 d24 d25; obtain ⟨c00, c01, c02, c03, c04, c05, d00, d01, d02, d03, d04, d05⟩ := Blk.six B0.out; obtain ⟨c10, c11, c12, c13, c14, c15, d10, d11, d12, d13, d14, d15⟩ := Blk.six B1.out; obtain ⟨c20, c21, c22, c23, c24, c25, d20, d21, d22, d23, d24, d25⟩ := Blk.six B2.out; obtain ⟨c30, c31, c32, d30, d31, d32⟩ := Blk.three B3.out)
      | ((with_reducible refine gate_store (t := 47) (p := 7) rfl ?_); refine store_event rfl rfl (g := g3) (cells := #[.string s, .slice none 0 0, .slice none 0 0]) (by first | rfl | (go_simp; done) | (go_simp; rfl)) (by first | rfl | (go_simp; done) | (go_simp; rfl)) B3.out info47 rfl (by simp [Value.oneCell']) ?_; intro ws hx hk hz hb; replace B3 := Zz.mk (hx); replace B0 := Zz.mk (show Blk ws g0 29 _ from blk_kept B0.out hk hE03); replace B1 := Zz.mk (show Blk ws g1 34 _ from blk_kept B1.out hk hE13); replace B2 := Zz.mk (show Blk ws g2 29 _ from blk_kept B2.out hk hE23); replace HV := Zz.mk (Fp.store (base' := 0) HV.out hk (by simp)); replace V3 := Zz.mk (Fp.store (base' := 0) V3.out hk (by simp)); replace HF := Zz.mk (HF.out.store hz hb (by simp)); clear hx hk hz hb; skip; clear c00 c01 c02 c03 c04 c05 d00 d01 d02 d03 d04 d05; clear c10 c11 c12 c13 c14 c15 d10 d11 d12 d13 d14 d15; clear c20 c21 c22 c23 c24 c25 d20 d21 d22 d23 d24 d25; clear c30 c31 c32 d30 d31 d32; obtain ⟨c00, c01, c02, c03, c04, c05, d00, d01, d02, d03, d04, d05⟩ := Blk.six B0.out; obtain ⟨c10, c11, c12, c13, c14, c15, d10, d11, d12, d13, d14, d15⟩ := Blk.six B1.out; obtain ⟨c20, c21, c22, c23, c24, c25, d20, d21, d22, d23, d24, d25⟩ := Blk.six B2.out; obtain ⟨c30, c31, c32, d30, d31, d32⟩ := Blk.three B3.out))
  go_cut [] (fun wx => ∃ a1 m1 k1 a2 m2 k2, WSt w wx g0 g1 g2 g3 #[.slice A m c, .int .i64 S.no, .int .i64 S.ops, .int .i64 S.fuse, .int .i64 S.fault, .bool false] #[.int .i64 kd, .string s, .string t, .slice A3 n3 c3, .int .i64 n, .slice A5 n5 c5] #[.slice none 0 0, .int .i64 0, .int .i64 0, .int .i64 0, .int .i64 0, .bool false] #[.string f.name, .slice a1 m1 k1, .slice a2 m2 k2] ∧ Kd.V k47 47 wx 0 (Fp w P [g3, g2, g1, g0]) (.slice A m c) (S.l.map toF) ∧ Kd.V (Kd.int .u8) 5 wx 0 (Fp w P [g3, g2, g1, g0]) (.slice A3 n3 c3) (bs) ∧ Kd.V (Kd.int .u8) 5 wx 0 (Fp w P [g3, g2, g1, g0]) (.slice a1 m1 k1) (f.b) ∧ Kd.V k91 91 wx 0 (Fp w P [g3, g2, g1, g0]) (.slice a2 m2 k2) (f.row.map toP))
  case first =>
    rcases HFC.out with ⟨rfl, hf⟩ | ⟨i, rfl, hf⟩
    · go_wp2
      go_meet
      case rel =>
        cases hf
        exact ⟨none, 0, 0, none, 0, 0, ⟨B0.out, B1.out, B2.out, B3.out, HF.out⟩, HV.out, V3.out, Kd.V_nil _ _ _ _ _, Kd.V_nil _ _ _ _ _⟩
    · have hi0 : (0 : Int) ≤ (i : Int) := Int.natCast_nonneg i
      obtain ⟨ad, a1, m1, k1, a2, m2, k2, hA, y0, y1, y2, v1, v2, hi⟩ := file_V HV.out hf
      subst hA
      have W1 := Zz.mk v1
      have W2 := Zz.mk v2
      clear v1 v2 hf
      go_wp2_with (first
      | ((with_reducible refine gate_store (t := 47) (p := 7) rfl ?_); refine store_event rfl rfl (g := g3) (cells := #[.string f.name, .slice a1 m1 k1, .slice a2 m2 k2]) (by first | rfl | (go_simp; done) | (go_simp; rfl)) (by first | rfl | (go_simp; done) | (go_simp; rfl)) B3.out info47 rfl (by simp [Value.oneCell']) ?_; intro ws hx hk hz hb; replace B3 := Zz.mk (hx); replace B0 := Zz.mk (show Blk ws g0 29 _ from blk_kept B0.out hk hE03); replace B1 := Zz.mk (show Blk ws g1 34 _ from blk_kept B1.out hk hE13); replace B2 := Zz.mk (show Blk ws g2 29 _ from blk_kept B2.out hk hE23); replace HV := Zz.mk (Fp.store (base' := 0) HV.out hk (by simp)); replace V3 := Zz.mk (Fp.store (base' := 0) V3.out hk (by simp)); replace W1 := Zz.mk (Fp.store (base' := 0) W1.out hk (by simp)); replace W2 := Zz.mk (Fp.store (base' := 0) W2.out hk (by simp)); replace HF := Zz.mk (HF.out.store hz hb (by simp)); clear hx hk hz hb; clear y0 y1 y2 hi hi0; clear c00 c01 c02 c03 c04 c05 d00 d01 d02 d03 d04 d05; clear c10 c11 c12 c13 c14 c15 d10 d11 d12 d13 d14 d15; clear c20 c21 c22 c23 c24 c25 d20 d21 d22 d23 d24 d25; clear c30 c31 c32 d30 d31 d32; obtain ⟨c00, c01, c02, c03, c04, c05, d00, d01, d02, d03, d04, d05⟩ := Blk.six B0.out; obtain ⟨c10, c11, c12, c13, c14, c15, d10, d11, d12, d13, d14, d15⟩ := Blk.six B1.out; obtain ⟨c20, c21, c22, c23, c24, c25, d20, d21, d22, d23, d24, d25⟩ := Blk.six B2.out; obtain ⟨c30, c31, c32, d30, d31, d32⟩ := Blk.three B3.out))
      go_meet
      case rel => exact ⟨a1, m1, k1, a2, m2, k2, ⟨B0.out, B1.out, B2.out, B3.out, HF.out⟩, HV.out, V3.out, W1.out, W2.out⟩
  case rest =>
  skip
  clear B0 B1 B2 B3 HF HV V3 c00 c01 c02 c03 c04 c05 d00 d01 d02 d03 d04 d05 c10 c11 c12 c13 c14 c15 d10 d11 d12 d13 d14 d15 c20 c21 c22 c23 c24 c25 d20 d21 d22 d23 d24 d25 c30 c31 c32 d30 d31 d32
  obtain ⟨a1, m1, k1, a2, m2, k2, hw, hHV, hV3, hW1, hW2⟩ := hcut
  have B0 := Zz.mk hw.b0
  have B1 := Zz.mk hw.b1
  have B2 := Zz.mk hw.b2
  have B3 := Zz.mk hw.b3
  have HF := Zz.mk hw.fr
  have HV := Zz.mk hHV
  have V3 := Zz.mk hV3
  have W1 := Zz.mk hW1
  have W2 := Zz.mk hW2
  clear hw hHV hV3 hW1 hW2
  obtain ⟨c00, c01, c02, c03, c04, c05, d00, d01, d02, d03, d04, d05⟩ := Blk.six B0.out; obtain ⟨c10, c11, c12, c13, c14, c15, d10, d11, d12, d13, d14, d15⟩ := Blk.six B1.out; obtain ⟨c20, c21, c22, c23, c24, c25, d20, d21, d22, d23, d24, d25⟩ := Blk.six B2.out; obtain ⟨c30, c31, c32, d30, d31, d32⟩ := Blk.three B3.out
  have wr1 : IntKind.i64.wrap ((mb : Int) + (n3 : Int)) = (mb : Int) + (n3 : Int) := (i64w _).trans (by have h1 := HLB.out; have h2 := HN3.out; have h3 := HMB.out; unfold wrap64; omega)
  have q3 : decide ((65536 : Int) < (mb : Int) + (n3 : Int)) = false := decide_eq_false (by have h1 := HLB.out; have h2 := HN3.out; have h3 := HMB.out; omega)
  go_upto_if 60 with (first
      | (go_at_call 53; (with_reducible refine (ref_bytes W1.out W2.out HFB.out.1 HFB.out.2 HMB.out).mono ?_); rintro _ wc ⟨Ab, cb, rfl, hv, hb⟩; have U1 := Zz.mk (Fp.told (P := P) (base' := 0) (Kd.V_mono hv (fun k hk => Or.inr hk)) HF.out); clear hv; replace B0 := Zz.mk (Blk.belowW B0.out hb); replace B1 := Zz.mk (Blk.belowW B1.out hb); replace B2 := Zz.mk (Blk.belowW B2.out hb); replace B3 := Zz.mk (Blk.belowW B3.out hb); replace HV := Zz.mk (Fp.step (base' := 0) HV.out hb); replace V3 := Zz.mk (Fp.step (base' := 0) V3.out hb); replace W1 := Zz.mk (Fp.step (base' := 0) W1.out hb); replace W2 := Zz.mk (Fp.step (base' := 0) W2.out hb); replace HF := Zz.mk (HF.out.call hb); clear hb; skip; clear c00 c01 c02 c03 c04 c05 d00 d01 d02 d03 d04 d05; clear c10 c11 c12 c13 c14 c15 d10 d11 d12 d13 d14 d15; clear c20 c21 c22 c23 c24 c25 d20 d21 d22 d23 d24 d25; clear c30 c31 c32 d30 d31 d32; obtain ⟨c00, c01, c02, c03, c04, c05, d00, d01, d02, d03, d04, d05⟩ := Blk.six B0.out; obtain ⟨c10, c11, c12, c13, c14, c15, d10, d11, d12, d13, d14, d15⟩ := Blk.six B1.out; obtain ⟨c20, c21, c22, c23, c24, c25, d20, d21, d22, d23, d24, d25⟩ := Blk.six B2.out; obtain ⟨c30, c31, c32, d30, d31, d32⟩ := Blk.three B3.out))
  go_cut [] (fun wx => WSt w wx g0 g1 g2 g3 #[.slice A m c, .int .i64 S.no, .int .i64 S.ops, .int .i64 S.fuse, .int .i64 S2.fault, .bool false] #[.int .i64 kd, .string s, .string t, .slice A3 n3 c3, .int .i64 n, .slice A5 n5 c5] #[.slice none 0 0, .int .i64 0, .int .i64 0, .int .i64 0, .int .i64 0, .bool false] #[.string f.name, .slice a1 m1 k1, .slice a2 m2 k2] ∧ Kd.V k47 47 wx 0 (Fp w P [g3, g2, g1, g0]) (.slice A m c) (S.l.map toF) ∧ Kd.V (Kd.int .u8) 5 wx 0 (Fp w P [g3, g2, g1, g0]) (.slice A3 n3 c3) (bs) ∧ Kd.V (Kd.int .u8) 5 wx 0 (Fp w P [g3, g2, g1, g0]) (.slice a1 m1 k1) (f.b) ∧ Kd.V k91 91 wx 0 (Fp w P [g3, g2, g1, g0]) (.slice a2 m2 k2) (f.row.map toP))
  case first =>
    by_cases hge : 0 ≤ S.fault
    · have q1 : decide (0 ≤ S.fault) = true := decide_eq_true hge
      have wr2 : IntKind.i64.wrap (S.fault - 1) = S2.fault := (i64w _).trans (by have h1 := HFA.out; have h2 := HFX.out; unfold decP at h1; rw [if_neg (by omega)] at h1; rw [← h1]; unfold wrap64; omega)
      go_wp2_with (first
      | ((with_reducible refine gate_store (t := 3) (p := 64) rfl ?_); refine store1_event rfl rfl (g := g0) (i := 4) (v := .int .i64 S2.fault) (by first | rfl | (go_simp; done) | (go_simp; rfl)) (by first | rfl | (go_simp; done) | (go_simp; rfl)) B0.out (by simp) info3 rfl ?_; intro ws hx hk hz hb; have n_ := Zz.mk (show Blk ws g0 29 #[.slice A m c, .int .i64 S.no, .int .i64 S.ops, .int .i64 S.fuse, .int .i64 S2.fault, .bool false] from hx); clear B0; have B0 := n_; clear n_; replace B1 := Zz.mk (show Blk ws g1 34 _ from blk_kept B1.out hk hE10); replace B2 := Zz.mk (show Blk ws g2 29 _ from blk_kept B2.out hk hE20); replace B3 := Zz.mk (show Blk ws g3 47 _ from blk_kept B3.out hk hE30); replace HV := Zz.mk (Fp.store (base' := 0) HV.out hk (by simp)); replace V3 := Zz.mk (Fp.store (base' := 0) V3.out hk (by simp)); replace W1 := Zz.mk (Fp.store (base' := 0) W1.out hk (by simp)); replace W2 := Zz.mk (Fp.store (base' := 0) W2.out hk (by simp)); replace HF := Zz.mk (HF.out.store hz hb (by simp)); clear hx hk hz hb; clear c00 c01 c02 c03 c04 c05 d00 d01 d02 d03 d04 d05; clear c10 c11 c12 c13 c14 c15 d10 d11 d12 d13 d14 d15; clear c20 c21 c22 c23 c24 c25 d20 d21 d22 d23 d24 d25; clear c30 c31 c32 d30 d31 d32; obtain ⟨c00, c01, c02, c03, c04, c05, d00, d01, d02, d03, d04, d05⟩ := Blk.six B0.out; obtain ⟨c10, c11, c12, c13, c14, c15, d10, d11, d12, d13, d14, d15⟩ := Blk.six B1.out; obtain ⟨c20, c21, c22, c23, c24, c25, d20, d21, d22, d23, d24, d25⟩ := Blk.six B2.out; obtain ⟨c30, c31, c32, d30, d31, d32⟩ := Blk.three B3.out))
      go_meet
      case rel => exact ⟨⟨B0.out, B1.out, B2.out, B3.out, HF.out⟩, HV.out, V3.out, W1.out, W2.out⟩
    · have q1 : decide (0 ≤ S.fault) = false := decide_eq_false hge
      go_wp2
      go_meet
      case rel =>
        have e1 : S.fault = S2.fault := by have h1 := HFA.out; have h2 := HFX.out; unfold decP at h1; rw [if_pos (by omega)] at h1; omega
        have b0 := B0.out
        rw [e1] at b0
        exact ⟨⟨b0, B1.out, B2.out, B3.out, HF.out⟩, HV.out, V3.out, W1.out, W2.out⟩
  case rest =>
  clear U1 B0 B1 B2 B3 HF HV V3 W1 W2 c00 c01 c02 c03 c04 c05 d00 d01 d02 d03 d04 d05 c10 c11 c12 c13 c14 c15 d10 d11 d12 d13 d14 d15 c20 c21 c22 c23 c24 c25 d20 d21 d22 d23 d24 d25 c30 c31 c32 d30 d31 d32
  obtain ⟨hw, hHV, hV3, hW1, hW2⟩ := hcut
  have B0 := Zz.mk hw.b0
  have B1 := Zz.mk hw.b1
  have B2 := Zz.mk hw.b2
  have B3 := Zz.mk hw.b3
  have HF := Zz.mk hw.fr
  have HV := Zz.mk hHV
  have V3 := Zz.mk hV3
  have W1 := Zz.mk hW1
  have W2 := Zz.mk hW2
  clear hw hHV hV3 hW1 hW2
  obtain ⟨c00, c01, c02, c03, c04, c05, d00, d01, d02, d03, d04, d05⟩ := Blk.six B0.out; obtain ⟨c10, c11, c12, c13, c14, c15, d10, d11, d12, d13, d14, d15⟩ := Blk.six B1.out; obtain ⟨c20, c21, c22, c23, c24, c25, d20, d21, d22, d23, d24, d25⟩ := Blk.six B2.out; obtain ⟨c30, c31, c32, d30, d31, d32⟩ := Blk.three B3.out
  go_upto_if 68 with (first
      | (go_at_call 54; (with_reducible refine (Y.out _ _ _ _ HF.out HV.out).mono ?_); rintro _ wc ⟨A', c', rfl, hv, hb⟩; have N0 := Zz.mk (Fp.told (base' := 0) hv HF.out); clear hv HV; replace B0 := Zz.mk (Blk.belowW B0.out hb); replace B1 := Zz.mk (Blk.belowW B1.out hb); replace B2 := Zz.mk (Blk.belowW B2.out hb); replace B3 := Zz.mk (Blk.belowW B3.out hb); replace V3 := Zz.mk (Fp.step (base' := 0) V3.out hb); replace W1 := Zz.mk (Fp.step (base' := 0) W1.out hb); replace W2 := Zz.mk (Fp.step (base' := 0) W2.out hb); replace HF := Zz.mk (HF.out.call hb); clear hb; have HV := N0; clear N0; clear c00 c01 c02 c03 c04 c05 d00 d01 d02 d03 d04 d05; clear c10 c11 c12 c13 c14 c15 d10 d11 d12 d13 d14 d15; clear c20 c21 c22 c23 c24 c25 d20 d21 d22 d23 d24 d25; clear c30 c31 c32 d30 d31 d32; obtain ⟨c00, c01, c02, c03, c04, c05, d00, d01, d02, d03, d04, d05⟩ := Blk.six B0.out; obtain ⟨c10, c11, c12, c13, c14, c15, d10, d11, d12, d13, d14, d15⟩ := Blk.six B1.out; obtain ⟨c20, c21, c22, c23, c24, c25, d20, d21, d22, d23, d24, d25⟩ := Blk.six B2.out; obtain ⟨c30, c31, c32, d30, d31, d32⟩ := Blk.three B3.out)
      | ((with_reducible refine gate_store (t := 29) (p := 2) rfl ?_); refine store_event rfl rfl (g := g0) (cells := #[.slice A' m c', .int .i64 S.no, .int .i64 S2.ops, .int .i64 S2.fuse, .int .i64 S2.fault, .bool S2.down]) (by first | rfl | (go_simp; done) | (go_simp; rfl)) (by first | rfl | (go_simp; done) | (go_simp; rfl)) B0.out info29 rfl (by simp [Value.oneCell']) ?_; intro ws hx hk hz hb; replace B0 := Zz.mk (hx); replace B1 := Zz.mk (show Blk ws g1 34 _ from blk_kept B1.out hk hE10); replace B2 := Zz.mk (show Blk ws g2 29 _ from blk_kept B2.out hk hE20); replace B3 := Zz.mk (show Blk ws g3 47 _ from blk_kept B3.out hk hE30); replace HV := Zz.mk (Fp.store (base' := 0) HV.out hk (by simp)); replace V3 := Zz.mk (Fp.store (base' := 0) V3.out hk (by simp)); replace W1 := Zz.mk (Fp.store (base' := 0) W1.out hk (by simp)); replace W2 := Zz.mk (Fp.store (base' := 0) W2.out hk (by simp)); replace HF := Zz.mk (HF.out.store hz hb (by simp)); clear hx hk hz hb; skip; clear c00 c01 c02 c03 c04 c05 d00 d01 d02 d03 d04 d05; clear c10 c11 c12 c13 c14 c15 d10 d11 d12 d13 d14 d15; clear c20 c21 c22 c23 c24 c25 d20 d21 d22 d23 d24 d25; clear c30 c31 c32 d30 d31 d32; obtain ⟨c00, c01, c02, c03, c04, c05, d00, d01, d02, d03, d04, d05⟩ := Blk.six B0.out; obtain ⟨c10, c11, c12, c13, c14, c15, d10, d11, d12, d13, d14, d15⟩ := Blk.six B1.out; obtain ⟨c20, c21, c22, c23, c24, c25, d20, d21, d22, d23, d24, d25⟩ := Blk.six B2.out; obtain ⟨c30, c31, c32, d30, d31, d32⟩ := Blk.three B3.out))
  go_cut [9] (fun v9 wx => v9 = .bool (S.fault == 0) ∧ ∃ A9 m9 c9 x3, WSt w wx g0 g1 g2 g3 #[.slice A9 m9 c9, .int .i64 S2.no, .int .i64 S2.ops, .int .i64 S2.fuse, .int .i64 S2.fault, .bool S2.down] #[.int .i64 kd, .string s, .string t, .slice A3 n3 c3, .int .i64 n, .slice A5 n5 c5] #[.slice none 0 0, .int .i64 0, .int .i64 0, .int .i64 0, .int .i64 0, .bool false] x3 ∧ Kd.V k47 47 wx 0 (Fp w P [g3, g2, g1, g0]) (.slice A9 m9 c9) (S2.l.map toF))
  case first =>
    by_cases hz : S.fault = 0
    · have q1 : (S.fault == 0) = true := by simpa using hz
      have q1b : (S.fault != 0) = false := by simp [hz]
      have q2 : decide (S.fault = 0) = true := decide_eq_true hz
      have HZ := Zz.mk hz
      clear hz
      simp only [q1, Bool.not_true]
      go_wp2
      go_meet
      case rel =>
        have h1 := HLX.out
        have h2 := HNX.out
        rw [if_pos HZ.out] at h1 h2
        rw [h1, h2]
        exact ⟨by rw [q1], A', m, c', _, ⟨B0.out, B1.out, B2.out, B3.out, HF.out⟩, HV.out⟩
    · have q1 : (S.fault == 0) = false := by simpa using hz
      have q1b : (S.fault != 0) = true := by simp [hz]
      have q2 : decide (S.fault = 0) = false := decide_eq_false hz
      have HZ := Zz.mk hz
      clear hz
      simp only [q1, Bool.not_false]
      go_upto_region 15 with (first
      | fail)
      go_cut [] (fun wx => ∃ a4 m4 k4, WSt w wx g0 g1 g2 g3 #[.slice A' m c', .int .i64 S.no, .int .i64 S2.ops, .int .i64 S2.fuse, .int .i64 S2.fault, .bool S2.down] #[.int .i64 kd, .string s, .string t, .slice A3 n3 c3, .int .i64 n, .slice A5 n5 c5] #[.slice none 0 0, .int .i64 0, .int .i64 0, .int .i64 0, .int .i64 0, .bool false] #[.string f.name, .slice a1 m1 k1, .slice a4 m4 k4] ∧ Kd.V k47 47 wx 0 (Fp w P [g3, g2, g1, g0]) (.slice A' m c') (S.l.map toF) ∧ Kd.V (Kd.int .u8) 5 wx 0 (Fp w P [g3, g2, g1, g0]) (.slice a1 m1 k1) (f.b) ∧ Kd.V k91 91 wx 0 (Fp w P [g3, g2, g1, g0]) (.slice a4 m4 k4) ((f.row ++ [(⟨S.no, mb, bs⟩ : PP)]).map toP))
      case first =>
        refine regionK (fun w' : World => w'.cell? ⟨g3, 2, none⟩ = some (.slice a2 m2 k2) ∧ w'.cell? ⟨g0, 1, none⟩ = some (.int .i64 S.no) ∧ w'.cell? ⟨g1, 3, none⟩ = some (.slice A3 n3 c3)) 14 (by kernel_rfl) (fun wd hb => ?_)
        replace B0 := Zz.mk (Blk.belowW B0.out hb)
        replace B1 := Zz.mk (Blk.belowW B1.out hb)
        replace B2 := Zz.mk (Blk.belowW B2.out hb)
        replace B3 := Zz.mk (Blk.belowW B3.out hb)
        replace HV := Zz.mk (Fp.step (base' := 0) HV.out hb)
        replace V3 := Zz.mk (Fp.step (base' := 0) V3.out hb)
        replace W1 := Zz.mk (Fp.step (base' := 0) W1.out hb)
        replace W2 := Zz.mk (Fp.step (base' := 0) W2.out hb)
        replace HF := Zz.mk (HF.out.call hb)
        clear hb
        clear c00 c01 c02 c03 c04 c05 d00 d01 d02 d03 d04 d05
        clear c10 c11 c12 c13 c14 c15 d10 d11 d12 d13 d14 d15
        clear c20 c21 c22 c23 c24 c25 d20 d21 d22 d23 d24 d25
        clear c30 c31 c32 d30 d31 d32
        obtain ⟨c00, c01, c02, c03, c04, c05, d00, d01, d02, d03, d04, d05⟩ := Blk.six B0.out
        obtain ⟨c10, c11, c12, c13, c14, c15, d10, d11, d12, d13, d14, d15⟩ := Blk.six B1.out
        obtain ⟨c20, c21, c22, c23, c24, c25, d20, d21, d22, d23, d24, d25⟩ := Blk.six B2.out
        obtain ⟨c30, c31, c32, d30, d31, d32⟩ := Blk.three B3.out
        have hHd : (fun w' : World => w'.cell? ⟨g3, 2, none⟩ = some (.slice a2 m2 k2) ∧ w'.cell? ⟨g0, 1, none⟩ = some (.int .i64 S.no) ∧ w'.cell? ⟨g1, 3, none⟩ = some (.slice A3 n3 c3)) wd := ⟨c32, c01, c13⟩
        have HH : Zz (∀ W', Below wd.heap.size wd W' → (fun w' : World => w'.cell? ⟨g3, 2, none⟩ = some (.slice a2 m2 k2) ∧ w'.cell? ⟨g0, 1, none⟩ = some (.int .i64 S.no) ∧ w'.cell? ⟨g1, 3, none⟩ = some (.slice A3 n3 c3)) W') := ⟨fun W' hb => ⟨(hb.cell (World.block_lt_of_cell? wd _ c32)).trans c32, (hb.cell (World.block_lt_of_cell? wd _ c01)).trans c01, (hb.cell (World.block_lt_of_cell? wd _ c13)).trans c13⟩⟩
        have HBd := Zz.mk (Below.refl wd.heap.size wd)
        refine wpAnyK_take (i := 1) (v := ?v24) rfl (by kernel_rfl) (by kernel_rfl) (by kernel_rfl) (by kernel_rfl) (fun _ _ _ h => h) (Or.inl ⟨by rfl, ?hy24⟩) (by assumption) ?rest24
        case hy24 => (intro w hSw; (try dsimp only at hSw); go_simp; try (with_reducible rfl))
        case rest24 =>
        try simp only [Act.put, List.setIfInBounds_toArray, List.set_cons_zero, List.set_cons_succ]
        refine wpAnyK_take (i := 2) (v := ?v25) rfl (by kernel_rfl) (by kernel_rfl) (by kernel_rfl) (by kernel_rfl) (fun _ _ _ h => h) (Or.inl ⟨by rfl, ?hy25⟩) (by assumption) ?rest25
        case hy25 => (intro w hSw; (try dsimp only at hSw); go_simp; try (with_reducible rfl))
        case rest25 =>
        try simp only [Act.put, List.setIfInBounds_toArray, List.set_cons_zero, List.set_cons_succ]
        refine wpAnyK_take (i := 4) (v := ?v26) rfl (by kernel_rfl) (by kernel_rfl) (by kernel_rfl) (by kernel_rfl) (fun _ _ _ h => h) (Or.inl ⟨by rfl, ?hy26⟩) (by assumption) ?rest26
        case hy26 => (intro w hSw; (try dsimp only at hSw); go_simp; try (with_reducible rfl))
        case rest26 =>
        try simp only [Act.put, List.setIfInBounds_toArray, List.set_cons_zero, List.set_cons_succ]
        refine wpAnyK_take (i := 5) (v := ?v27) rfl (by kernel_rfl) (by kernel_rfl) (by kernel_rfl) (by kernel_rfl) (fun _ _ _ h => h) (Or.inl ⟨by rfl, ?hy27⟩) (by assumption) ?rest27
        case hy27 => (intro w hSw; (try dsimp only at hSw); go_simp; try (with_reducible rfl))
        case rest27 =>
        try simp only [Act.put, List.setIfInBounds_toArray, List.set_cons_zero, List.set_cons_succ]
        refine wpAnyK_take (i := 6) (v := ?v28) rfl (by kernel_rfl) (by kernel_rfl) (by kernel_rfl) (by kernel_rfl) (fun _ _ _ h => h) (Or.inl ⟨by rfl, ?hy28⟩) (by assumption) ?rest28
        case hy28 => (intro w hSw; (try dsimp only at hSw); go_simp; try (with_reducible rfl))
        case rest28 =>
        try simp only [Act.put, List.setIfInBounds_toArray, List.set_cons_zero, List.set_cons_succ]
        refine wpAnyK_take (i := 7) (v := ?v29) rfl (by kernel_rfl) (by kernel_rfl) (by kernel_rfl) (by kernel_rfl) (fun _ _ _ h => h) (Or.inl ⟨by rfl, ?hy29⟩) (by assumption) ?rest29
        case hy29 => (intro w hSw; (try dsimp only at hSw); go_simp; try (with_reducible rfl))
        case rest29 =>
        try simp only [Act.put, List.setIfInBounds_toArray, List.set_cons_zero, List.set_cons_succ]
        refine wpAnyK_take (i := 8) (v := ?v30) rfl (by kernel_rfl) (by kernel_rfl) (by kernel_rfl) (by kernel_rfl) (fun _ _ _ h => h) (Or.inl ⟨by rfl, ?hy30⟩) (by assumption) ?rest30
        case hy30 => (intro w hSw; (try dsimp only at hSw); go_simp; try (with_reducible rfl))
        case rest30 =>
        try simp only [Act.put, List.setIfInBounds_toArray, List.set_cons_zero, List.set_cons_succ]
        refine wpAnyK_take (i := 9) (v := ?v31) rfl (by kernel_rfl) (by kernel_rfl) (by kernel_rfl) (by kernel_rfl) (fun _ _ _ h => h) (Or.inl ⟨by rfl, ?hy31⟩) (by assumption) ?rest31
        case hy31 => (intro w hSw; (try dsimp only at hSw); go_simp; try (with_reducible rfl))
        case rest31 =>
        try simp only [Act.put, List.setIfInBounds_toArray, List.set_cons_zero, List.set_cons_succ]
        refine wpAnyK_take (i := 10) (v := ?v32) rfl (by kernel_rfl) (by kernel_rfl) (by kernel_rfl) (by kernel_rfl) (fun _ _ _ h => h) (Or.inl ⟨by rfl, ?hy32⟩) (by assumption) ?rest32
        case hy32 => (intro w hSw; (try dsimp only at hSw); go_simp; try (with_reducible rfl))
        case rest32 =>
        try simp only [Act.put, List.setIfInBounds_toArray, List.set_cons_zero, List.set_cons_succ]
        refine wpAnyK_ready (rs := [0, 11]) (by kernel_rfl) (by simp) ?_
        refine AllReadyK.cons rfl (fun K hK => ?_) (AllReadyK.cons rfl (fun K hK => ?_) AllReadyK.nil)
        · refine row0_step (ok := (fun k => (Fp w P [g3, g2, g1, g0] k ∧ k < wd.heap.size) ∨ wd.heap.size ≤ k)) (by first | rfl | (go_simp; done) | (go_simp; rfl)) (N := 69) rfl (by first | (go_simp; done) | (go_simp; rfl)) (.inr (below_size HBd.out)) ?_
          intro A0 c0 w0x hn0 hb0
          have NR := Zz.mk (Kd.N_lower hn0 (below_size HBd.out))
          replace HBd := Zz.mk (below_step HBd.out hb0)
          clear hn0 hb0
          refine hK.out _ _ (.inr (HH.out _ HBd.out)) ?_
          clear hK K
          try simp only [Act.put, List.setIfInBounds_toArray, List.set_cons_zero, List.set_cons_succ]
          refine wpAnyK_ready (rs := [3, 11]) (by kernel_rfl) (by simp) ?_
          refine AllReadyK.cons rfl (fun K hK => ?_) (AllReadyK.cons rfl (fun K hK => ?_) AllReadyK.nil)
          · refine app_step (wd := wd) (ok := (fun k => (Fp w P [g3, g2, g1, g0] k ∧ k < wd.heap.size) ∨ wd.heap.size ≤ k)) (by first | rfl | (go_simp; done) | (go_simp; rfl)) (N := 72) rfl (.tmp 69) (.tmp 71) rfl (A := A0) (n := 0) (c := c0) (A2 := a2) (m2 := m2) (c2 := k2) (xs := []) (ys := f.row.map toP) (okp := fun k => Fp w P [g3, g2, g1, g0] k ∧ k < wd.heap.size) (base := 0) rfl rfl NR.out (V_rebase (Kd.V_below (Kd.V_bound W2.out) HBd.out)) (fun k hk => ⟨.inl hk, fun e => by have h1 := Kd.N_base NR.out k e.symm; have h2 := hk.2; omega⟩) (fun k hk => .inr (Nat.le_trans (below_size HBd.out) hk)) HBd.out (by have h1 := HFB.out.2.1; have h2 := V_len W2.out; rw [List.length_map] at h2; simp only [List.length_nil]; omega) ?_
            intro A7 n7 c7 w3x hl7 hn7 hb7 hg7 hat7
            replace NR := Zz.mk hn7
            replace HBd := Zz.mk hb7
            clear hn7 hb7 hg7 hat7
            refine hK.out _ _ (.inr (HH.out _ HBd.out)) ?_
            clear hK K
            try simp only [Act.put, List.setIfInBounds_toArray, List.set_cons_zero, List.set_cons_succ]
            refine wpAnyK_ready (rs := [11]) (by kernel_rfl) (by simp) ?_
            refine AllReadyK.cons rfl (fun K hK => ?_) AllReadyK.nil
            refine rowP_step (x := toP (⟨S.no, mb, bs⟩ : PP)) (ok := (fun k => (fun k => (Fp w P [g3, g2, g1, g0] k ∧ k < wd.heap.size) ∨ wd.heap.size ≤ k) k ∧ some k ≠ (Value.slice A7 n7 c7).ownBlock)) (base := 0) (okp := fun k => Fp w P [g3, g2, g1, g0] k ∧ k < wd.heap.size) (by first | rfl | (go_simp; done) | (go_simp; rfl)) (N := 80) rfl (by first | (go_simp; done) | (go_simp; rfl)) (V_rebase (Kd.V_below (Kd.V_bound V3.out) HBd.out)) (fun k hk => ⟨.inl hk, fun e => by have h1 := Kd.N_base NR.out k e.symm; have h2 := hk.2; omega⟩) ⟨.inr (below_size HBd.out), fun e => by have h1 := Kd.N_lt NR.out _ e.symm; omega⟩ ?_
            intro A1p c1p w1x hn1 hb1
            have NP := Zz.mk (Kd.N_lower hn1 (below_size HBd.out))
            replace NR := Zz.mk (Kd.N_below NR.out hb1)
            replace HBd := Zz.mk (below_step HBd.out hb1)
            clear hn1 hb1
            refine hK.out _ _ (.inr (HH.out _ HBd.out)) ?_
            clear hK K
            try simp only [Act.put, List.setIfInBounds_toArray, List.set_cons_zero, List.set_cons_succ]
            refine wpAnyK_ready (rs := [12]) (by kernel_rfl) (by simp) ?_
            refine AllReadyK.cons rfl (fun K hK => ?_) AllReadyK.nil
            refine app_step (wd := wd) (ok := (fun k => (Fp w P [g3, g2, g1, g0] k ∧ k < wd.heap.size) ∨ wd.heap.size ≤ k)) (by first | rfl | (go_simp; done) | (go_simp; rfl)) (N := 81) rfl (.tmp 72) (.tmp 80) rfl (A := A7) (n := n7) (c := c7) (A2 := A1p) (m2 := 1) (c2 := c1p) (xs := [] ++ f.row.map toP) (ys := [toP (⟨S.no, mb, bs⟩ : PP)]) (okp := fun k => (fun k => (Fp w P [g3, g2, g1, g0] k ∧ k < wd.heap.size) ∨ wd.heap.size ≤ k) k ∧ some k ≠ (Value.slice A7 n7 c7).ownBlock) (base := 0) rfl rfl NR.out (Kd.N_V NP.out) (fun k hk => hk) (fun k hk => .inr (Nat.le_trans (below_size HBd.out) hk)) HBd.out (by have h1 := HFB.out.2.1; rw [List.nil_append, List.length_map]; omega) ?_
            intro A8 n8 c8 w8x hl8 hn8 hb8 hg8 hat8
            replace HBd := Zz.mk hb8
            have VR := Zz.mk (show Kd.V k91 91 w8x 0 (Fp w P [g3, g2, g1, g0]) (.slice A8 n8 c8) ((f.row ++ [(⟨S.no, mb, bs⟩ : PP)]).map toP) from by rw [List.map_append]; exact Fp.told (Kd.V_mono (Kd.N_V (base' := 0) hn8) (fun k hk => hk.elim (fun h => .inl h.1) .inr)) HF.out)
            clear hn8 hg8 hat8
            refine hK.out _ _ (.inr (HH.out _ HBd.out)) ?_
            clear hK K
            try simp only [Act.put, List.setIfInBounds_toArray, List.set_cons_zero, List.set_cons_succ]
            have hHz := HH.out _ HBd.out
            replace B0 := Zz.mk (Blk.belowW B0.out hb8)
            replace B1 := Zz.mk (Blk.belowW B1.out hb8)
            replace B2 := Zz.mk (Blk.belowW B2.out hb8)
            replace B3 := Zz.mk (Blk.belowW B3.out hb8)
            replace HV := Zz.mk (Fp.step (base' := 0) HV.out hb8)
            replace V3 := Zz.mk (Fp.step (base' := 0) V3.out hb8)
            replace W1 := Zz.mk (Fp.step (base' := 0) W1.out hb8)
            replace W2 := Zz.mk (Fp.step (base' := 0) W2.out hb8)
            replace HF := Zz.mk (HF.out.call hb8)
            clear hb8 c00 c01 c02 c03 c04 c05 d00 d01 d02 d03 d04 d05 c10 c11 c12 c13 c14 c15 d10 d11 d12 d13 d14 d15 c20 c21 c22 c23 c24 c25 d20 d21 d22 d23 d24 d25 c30 c31 c32 d30 d31 d32
            obtain ⟨c00, c01, c02, c03, c04, c05, d00, d01, d02, d03, d04, d05⟩ := Blk.six B0.out
            obtain ⟨c10, c11, c12, c13, c14, c15, d10, d11, d12, d13, d14, d15⟩ := Blk.six B1.out
            obtain ⟨c20, c21, c22, c23, c24, c25, d20, d21, d22, d23, d24, d25⟩ := Blk.six B2.out
            obtain ⟨c30, c31, c32, d30, d31, d32⟩ := Blk.three B3.out
            refine wpAnyK_take (i := 13) (v := ?v33) rfl (by kernel_rfl) (by kernel_rfl) (by kernel_rfl) (by kernel_rfl) (fun _ _ _ h => h) (Or.inl ⟨by rfl, ?hy33⟩) (by assumption) ?rest33
            case hy33 => (intro w hSw; (try dsimp only at hSw); go_simp; try (with_reducible rfl))
            case rest33 =>
            try simp only [Act.put, List.setIfInBounds_toArray, List.set_cons_zero, List.set_cons_succ]
            refine wpAnyK_ready (rs := [14]) (by kernel_rfl) (by simp) ?_
            refine AllReadyK.cons rfl (fun K hK => ?_) AllReadyK.nil
            rw [if_pos (by first | rfl | (go_simp; done) | (go_simp; rfl))]
            refine store1_step rfl rfl (g := g3) (i := 2) (v := .slice A8 n8 c8) (by first | rfl | (go_simp; done) | (go_simp; rfl)) (by first | rfl | (go_simp; done) | (go_simp; rfl)) B3.out (by simp) info45 rfl ?_
            intro ws hx hk hz hb
            replace B3 := Zz.mk (show Blk ws g3 47 #[.string f.name, .slice a1 m1 k1, .slice A8 n8 c8] from hx)
            replace B0 := Zz.mk (show Blk ws g0 29 _ from blk_kept B0.out hk hE03)
            replace B1 := Zz.mk (show Blk ws g1 34 _ from blk_kept B1.out hk hE13)
            replace B2 := Zz.mk (show Blk ws g2 29 _ from blk_kept B2.out hk hE23)
            replace HV := Zz.mk (Fp.store (base' := 0) HV.out hk (by simp))
            replace W1 := Zz.mk (Fp.store (base' := 0) W1.out hk (by simp))
            replace VR := Zz.mk (Fp.store (base' := 0) VR.out hk (by simp))
            replace HF := Zz.mk (HF.out.store hz hb (by simp))
            clear hx hk hz hb
            refine hK.out _ _ (.inl (by kernel_rfl)) ?_
            clear hK K
            try simp only [Act.put, List.setIfInBounds_toArray, List.set_cons_zero, List.set_cons_succ]
            refine wpAnyK_done (by kernel_rfl) ?_ _
            go_wp2_with fail
            go_meet
            case rel => exact ⟨A8, n8, c8, ⟨B0.out, B1.out, B2.out, B3.out, HF.out⟩, HV.out, W1.out, VR.out⟩
          · refine rowP_step (x := toP (⟨S.no, mb, bs⟩ : PP)) (ok := (fun k => (fun k => (Fp w P [g3, g2, g1, g0] k ∧ k < wd.heap.size) ∨ wd.heap.size ≤ k) k ∧ some k ≠ (Value.slice A0 0 c0).ownBlock)) (base := 0) (okp := fun k => Fp w P [g3, g2, g1, g0] k ∧ k < wd.heap.size) (by first | rfl | (go_simp; done) | (go_simp; rfl)) (N := 80) rfl (by first | (go_simp; done) | (go_simp; rfl)) (V_rebase (Kd.V_below (Kd.V_bound V3.out) HBd.out)) (fun k hk => ⟨.inl hk, fun e => by have h1 := Kd.N_base NR.out k e.symm; have h2 := hk.2; omega⟩) ⟨.inr (below_size HBd.out), fun e => by have h1 := Kd.N_lt NR.out _ e.symm; omega⟩ ?_
            intro A1p c1p w1x hn1 hb1
            have NP := Zz.mk (Kd.N_lower hn1 (below_size HBd.out))
            replace NR := Zz.mk (Kd.N_below NR.out hb1)
            replace HBd := Zz.mk (below_step HBd.out hb1)
            clear hn1 hb1
            refine hK.out _ _ (.inr (HH.out _ HBd.out)) ?_
            clear hK K
            try simp only [Act.put, List.setIfInBounds_toArray, List.set_cons_zero, List.set_cons_succ]
            refine wpAnyK_ready (rs := [3]) (by kernel_rfl) (by simp) ?_
            refine AllReadyK.cons rfl (fun K hK => ?_) AllReadyK.nil
            refine app_step (wd := wd) (ok := (fun k => (Fp w P [g3, g2, g1, g0] k ∧ k < wd.heap.size) ∨ wd.heap.size ≤ k)) (by first | rfl | (go_simp; done) | (go_simp; rfl)) (N := 72) rfl (.tmp 69) (.tmp 71) rfl (A := A0) (n := 0) (c := c0) (A2 := a2) (m2 := m2) (c2 := k2) (xs := []) (ys := f.row.map toP) (okp := fun k => Fp w P [g3, g2, g1, g0] k ∧ k < wd.heap.size) (base := 0) rfl rfl NR.out (V_rebase (Kd.V_below (Kd.V_bound W2.out) HBd.out)) (fun k hk => ⟨.inl hk, fun e => by have h1 := Kd.N_base NR.out k e.symm; have h2 := hk.2; omega⟩) (fun k hk => .inr (Nat.le_trans (below_size HBd.out) hk)) HBd.out (by have h1 := HFB.out.2.1; have h2 := V_len W2.out; rw [List.length_map] at h2; simp only [List.length_nil]; omega) ?_
            intro A7 n7 c7 w3x hl7 hn7 hb7 hg7 hat7
            replace NP := Zz.mk (Kd.N_after NP.out hg7 hat7)
            replace NR := Zz.mk hn7
            replace HBd := Zz.mk hb7
            clear hn7 hb7 hg7 hat7
            refine hK.out _ _ (.inr (HH.out _ HBd.out)) ?_
            clear hK K
            try simp only [Act.put, List.setIfInBounds_toArray, List.set_cons_zero, List.set_cons_succ]
            refine wpAnyK_ready (rs := [12]) (by kernel_rfl) (by simp) ?_
            refine AllReadyK.cons rfl (fun K hK => ?_) AllReadyK.nil
            refine app_step (wd := wd) (ok := (fun k => (Fp w P [g3, g2, g1, g0] k ∧ k < wd.heap.size) ∨ wd.heap.size ≤ k)) (by first | rfl | (go_simp; done) | (go_simp; rfl)) (N := 81) rfl (.tmp 72) (.tmp 80) rfl (A := A7) (n := n7) (c := c7) (A2 := A1p) (m2 := 1) (c2 := c1p) (xs := [] ++ f.row.map toP) (ys := [toP (⟨S.no, mb, bs⟩ : PP)]) (okp := fun k => (fun k => (Fp w P [g3, g2, g1, g0] k ∧ k < wd.heap.size) ∨ wd.heap.size ≤ k) k ∧ some k ≠ (Value.slice A7 n7 c7).ownBlock) (base := 0) rfl rfl NR.out (Kd.N_V NP.out) (fun k hk => hk) (fun k hk => .inr (Nat.le_trans (below_size HBd.out) hk)) HBd.out (by have h1 := HFB.out.2.1; rw [List.nil_append, List.length_map]; omega) ?_
            intro A8 n8 c8 w8x hl8 hn8 hb8 hg8 hat8
            replace HBd := Zz.mk hb8
            have VR := Zz.mk (show Kd.V k91 91 w8x 0 (Fp w P [g3, g2, g1, g0]) (.slice A8 n8 c8) ((f.row ++ [(⟨S.no, mb, bs⟩ : PP)]).map toP) from by rw [List.map_append]; exact Fp.told (Kd.V_mono (Kd.N_V (base' := 0) hn8) (fun k hk => hk.elim (fun h => .inl h.1) .inr)) HF.out)
            clear hn8 hg8 hat8
            refine hK.out _ _ (.inr (HH.out _ HBd.out)) ?_
            clear hK K
            try simp only [Act.put, List.setIfInBounds_toArray, List.set_cons_zero, List.set_cons_succ]
            have hHz := HH.out _ HBd.out
            replace B0 := Zz.mk (Blk.belowW B0.out hb8)
            replace B1 := Zz.mk (Blk.belowW B1.out hb8)
            replace B2 := Zz.mk (Blk.belowW B2.out hb8)
            replace B3 := Zz.mk (Blk.belowW B3.out hb8)
            replace HV := Zz.mk (Fp.step (base' := 0) HV.out hb8)
            replace V3 := Zz.mk (Fp.step (base' := 0) V3.out hb8)
            replace W1 := Zz.mk (Fp.step (base' := 0) W1.out hb8)
            replace W2 := Zz.mk (Fp.step (base' := 0) W2.out hb8)
            replace HF := Zz.mk (HF.out.call hb8)
            clear hb8 c00 c01 c02 c03 c04 c05 d00 d01 d02 d03 d04 d05 c10 c11 c12 c13 c14 c15 d10 d11 d12 d13 d14 d15 c20 c21 c22 c23 c24 c25 d20 d21 d22 d23 d24 d25 c30 c31 c32 d30 d31 d32
            obtain ⟨c00, c01, c02, c03, c04, c05, d00, d01, d02, d03, d04, d05⟩ := Blk.six B0.out
            obtain ⟨c10, c11, c12, c13, c14, c15, d10, d11, d12, d13, d14, d15⟩ := Blk.six B1.out
            obtain ⟨c20, c21, c22, c23, c24, c25, d20, d21, d22, d23, d24, d25⟩ := Blk.six B2.out
            obtain ⟨c30, c31, c32, d30, d31, d32⟩ := Blk.three B3.out
            refine wpAnyK_take (i := 13) (v := ?v34) rfl (by kernel_rfl) (by kernel_rfl) (by kernel_rfl) (by kernel_rfl) (fun _ _ _ h => h) (Or.inl ⟨by rfl, ?hy34⟩) (by assumption) ?rest34
            case hy34 => (intro w hSw; (try dsimp only at hSw); go_simp; try (with_reducible rfl))
            case rest34 =>
            try simp only [Act.put, List.setIfInBounds_toArray, List.set_cons_zero, List.set_cons_succ]
            refine wpAnyK_ready (rs := [14]) (by kernel_rfl) (by simp) ?_
            refine AllReadyK.cons rfl (fun K hK => ?_) AllReadyK.nil
            rw [if_pos (by first | rfl | (go_simp; done) | (go_simp; rfl))]
            refine store1_step rfl rfl (g := g3) (i := 2) (v := .slice A8 n8 c8) (by first | rfl | (go_simp; done) | (go_simp; rfl)) (by first | rfl | (go_simp; done) | (go_simp; rfl)) B3.out (by simp) info45 rfl ?_
            intro ws hx hk hz hb
            replace B3 := Zz.mk (show Blk ws g3 47 #[.string f.name, .slice a1 m1 k1, .slice A8 n8 c8] from hx)
            replace B0 := Zz.mk (show Blk ws g0 29 _ from blk_kept B0.out hk hE03)
            replace B1 := Zz.mk (show Blk ws g1 34 _ from blk_kept B1.out hk hE13)
            replace B2 := Zz.mk (show Blk ws g2 29 _ from blk_kept B2.out hk hE23)
            replace HV := Zz.mk (Fp.store (base' := 0) HV.out hk (by simp))
            replace W1 := Zz.mk (Fp.store (base' := 0) W1.out hk (by simp))
            replace VR := Zz.mk (Fp.store (base' := 0) VR.out hk (by simp))
            replace HF := Zz.mk (HF.out.store hz hb (by simp))
            clear hx hk hz hb
            refine hK.out _ _ (.inl (by kernel_rfl)) ?_
            clear hK K
            try simp only [Act.put, List.setIfInBounds_toArray, List.set_cons_zero, List.set_cons_succ]
            refine wpAnyK_done (by kernel_rfl) ?_ _
            go_wp2_with fail
            go_meet
            case rel => exact ⟨A8, n8, c8, ⟨B0.out, B1.out, B2.out, B3.out, HF.out⟩, HV.out, W1.out, VR.out⟩
        · refine rowP_step (x := toP (⟨S.no, mb, bs⟩ : PP)) (ok := (fun k => (Fp w P [g3, g2, g1, g0] k ∧ k < wd.heap.size) ∨ wd.heap.size ≤ k)) (base := 0) (okp := fun k => Fp w P [g3, g2, g1, g0] k ∧ k < wd.heap.size) (by first | rfl | (go_simp; done) | (go_simp; rfl)) (N := 80) rfl (by first | (go_simp; done) | (go_simp; rfl)) (V_rebase (Kd.V_below (Kd.V_bound V3.out) HBd.out)) (fun k hk => .inl hk) (.inr (below_size HBd.out)) ?_
          intro A1p c1p w1x hn1 hb1
          have NP := Zz.mk (Kd.N_lower hn1 (below_size HBd.out))
          replace HBd := Zz.mk (below_step HBd.out hb1)
          clear hn1 hb1
          refine hK.out _ _ (.inr (HH.out _ HBd.out)) ?_
          clear hK K
          try simp only [Act.put, List.setIfInBounds_toArray, List.set_cons_zero, List.set_cons_succ]
          refine wpAnyK_ready (rs := [0]) (by kernel_rfl) (by simp) ?_
          refine AllReadyK.cons rfl (fun K hK => ?_) AllReadyK.nil
          refine row0_step (ok := (fun k => (Fp w P [g3, g2, g1, g0] k ∧ k < wd.heap.size) ∨ wd.heap.size ≤ k)) (by first | rfl | (go_simp; done) | (go_simp; rfl)) (N := 69) rfl (by first | (go_simp; done) | (go_simp; rfl)) (.inr (below_size HBd.out)) ?_
          intro A0 c0 w0x hn0 hb0
          have NR := Zz.mk (Kd.N_lower hn0 (below_size HBd.out))
          replace NP := Zz.mk (Kd.N_mono (ok' := fun k => (fun k => (Fp w P [g3, g2, g1, g0] k ∧ k < wd.heap.size) ∨ wd.heap.size ≤ k) k ∧ some k ≠ (Value.slice A0 0 c0).ownBlock) (Kd.N_below (Kd.N_bound NP.out) hb0) (fun k hk => ⟨hk.1, fun e => by have h1 := Kd.N_base hn0 k e.symm; have h2 := hk.2; omega⟩))
          replace HBd := Zz.mk (below_step HBd.out hb0)
          clear hn0 hb0
          refine hK.out _ _ (.inr (HH.out _ HBd.out)) ?_
          clear hK K
          try simp only [Act.put, List.setIfInBounds_toArray, List.set_cons_zero, List.set_cons_succ]
          refine wpAnyK_ready (rs := [3]) (by kernel_rfl) (by simp) ?_
          refine AllReadyK.cons rfl (fun K hK => ?_) AllReadyK.nil
          refine app_step (wd := wd) (ok := (fun k => (Fp w P [g3, g2, g1, g0] k ∧ k < wd.heap.size) ∨ wd.heap.size ≤ k)) (by first | rfl | (go_simp; done) | (go_simp; rfl)) (N := 72) rfl (.tmp 69) (.tmp 71) rfl (A := A0) (n := 0) (c := c0) (A2 := a2) (m2 := m2) (c2 := k2) (xs := []) (ys := f.row.map toP) (okp := fun k => Fp w P [g3, g2, g1, g0] k ∧ k < wd.heap.size) (base := 0) rfl rfl NR.out (V_rebase (Kd.V_below (Kd.V_bound W2.out) HBd.out)) (fun k hk => ⟨.inl hk, fun e => by have h1 := Kd.N_base NR.out k e.symm; have h2 := hk.2; omega⟩) (fun k hk => .inr (Nat.le_trans (below_size HBd.out) hk)) HBd.out (by have h1 := HFB.out.2.1; have h2 := V_len W2.out; rw [List.length_map] at h2; simp only [List.length_nil]; omega) ?_
          intro A7 n7 c7 w3x hl7 hn7 hb7 hg7 hat7
          replace NP := Zz.mk (Kd.N_after NP.out hg7 hat7)
          replace NR := Zz.mk hn7
          replace HBd := Zz.mk hb7
          clear hn7 hb7 hg7 hat7
          refine hK.out _ _ (.inr (HH.out _ HBd.out)) ?_
          clear hK K
          try simp only [Act.put, List.setIfInBounds_toArray, List.set_cons_zero, List.set_cons_succ]
          refine wpAnyK_ready (rs := [12]) (by kernel_rfl) (by simp) ?_
          refine AllReadyK.cons rfl (fun K hK => ?_) AllReadyK.nil
          refine app_step (wd := wd) (ok := (fun k => (Fp w P [g3, g2, g1, g0] k ∧ k < wd.heap.size) ∨ wd.heap.size ≤ k)) (by first | rfl | (go_simp; done) | (go_simp; rfl)) (N := 81) rfl (.tmp 72) (.tmp 80) rfl (A := A7) (n := n7) (c := c7) (A2 := A1p) (m2 := 1) (c2 := c1p) (xs := [] ++ f.row.map toP) (ys := [toP (⟨S.no, mb, bs⟩ : PP)]) (okp := fun k => (fun k => (Fp w P [g3, g2, g1, g0] k ∧ k < wd.heap.size) ∨ wd.heap.size ≤ k) k ∧ some k ≠ (Value.slice A7 n7 c7).ownBlock) (base := 0) rfl rfl NR.out (Kd.N_V NP.out) (fun k hk => hk) (fun k hk => .inr (Nat.le_trans (below_size HBd.out) hk)) HBd.out (by have h1 := HFB.out.2.1; rw [List.nil_append, List.length_map]; omega) ?_
          intro A8 n8 c8 w8x hl8 hn8 hb8 hg8 hat8
          replace HBd := Zz.mk hb8
          have VR := Zz.mk (show Kd.V k91 91 w8x 0 (Fp w P [g3, g2, g1, g0]) (.slice A8 n8 c8) ((f.row ++ [(⟨S.no, mb, bs⟩ : PP)]).map toP) from by rw [List.map_append]; exact Fp.told (Kd.V_mono (Kd.N_V (base' := 0) hn8) (fun k hk => hk.elim (fun h => .inl h.1) .inr)) HF.out)
          clear hn8 hg8 hat8
          refine hK.out _ _ (.inr (HH.out _ HBd.out)) ?_
          clear hK K
          try simp only [Act.put, List.setIfInBounds_toArray, List.set_cons_zero, List.set_cons_succ]
          have hHz := HH.out _ HBd.out
          replace B0 := Zz.mk (Blk.belowW B0.out hb8)
          replace B1 := Zz.mk (Blk.belowW B1.out hb8)
          replace B2 := Zz.mk (Blk.belowW B2.out hb8)
          replace B3 := Zz.mk (Blk.belowW B3.out hb8)
          replace HV := Zz.mk (Fp.step (base' := 0) HV.out hb8)
          replace V3 := Zz.mk (Fp.step (base' := 0) V3.out hb8)
          replace W1 := Zz.mk (Fp.step (base' := 0) W1.out hb8)
          replace W2 := Zz.mk (Fp.step (base' := 0) W2.out hb8)
          replace HF := Zz.mk (HF.out.call hb8)
          clear hb8 c00 c01 c02 c03 c04 c05 d00 d01 d02 d03 d04 d05 c10 c11 c12 c13 c14 c15 d10 d11 d12 d13 d14 d15 c20 c21 c22 c23 c24 c25 d20 d21 d22 d23 d24 d25 c30 c31 c32 d30 d31 d32
          obtain ⟨c00, c01, c02, c03, c04, c05, d00, d01, d02, d03, d04, d05⟩ := Blk.six B0.out
          obtain ⟨c10, c11, c12, c13, c14, c15, d10, d11, d12, d13, d14, d15⟩ := Blk.six B1.out
          obtain ⟨c20, c21, c22, c23, c24, c25, d20, d21, d22, d23, d24, d25⟩ := Blk.six B2.out
          obtain ⟨c30, c31, c32, d30, d31, d32⟩ := Blk.three B3.out
          refine wpAnyK_take (i := 13) (v := ?v35) rfl (by kernel_rfl) (by kernel_rfl) (by kernel_rfl) (by kernel_rfl) (fun _ _ _ h => h) (Or.inl ⟨by rfl, ?hy35⟩) (by assumption) ?rest35
          case hy35 => (intro w hSw; (try dsimp only at hSw); go_simp; try (with_reducible rfl))
          case rest35 =>
          try simp only [Act.put, List.setIfInBounds_toArray, List.set_cons_zero, List.set_cons_succ]
          refine wpAnyK_ready (rs := [14]) (by kernel_rfl) (by simp) ?_
          refine AllReadyK.cons rfl (fun K hK => ?_) AllReadyK.nil
          rw [if_pos (by first | rfl | (go_simp; done) | (go_simp; rfl))]
          refine store1_step rfl rfl (g := g3) (i := 2) (v := .slice A8 n8 c8) (by first | rfl | (go_simp; done) | (go_simp; rfl)) (by first | rfl | (go_simp; done) | (go_simp; rfl)) B3.out (by simp) info45 rfl ?_
          intro ws hx hk hz hb
          replace B3 := Zz.mk (show Blk ws g3 47 #[.string f.name, .slice a1 m1 k1, .slice A8 n8 c8] from hx)
          replace B0 := Zz.mk (show Blk ws g0 29 _ from blk_kept B0.out hk hE03)
          replace B1 := Zz.mk (show Blk ws g1 34 _ from blk_kept B1.out hk hE13)
          replace B2 := Zz.mk (show Blk ws g2 29 _ from blk_kept B2.out hk hE23)
          replace HV := Zz.mk (Fp.store (base' := 0) HV.out hk (by simp))
          replace W1 := Zz.mk (Fp.store (base' := 0) W1.out hk (by simp))
          replace VR := Zz.mk (Fp.store (base' := 0) VR.out hk (by simp))
          replace HF := Zz.mk (HF.out.store hz hb (by simp))
          clear hx hk hz hb
          refine hK.out _ _ (.inl (by kernel_rfl)) ?_
          clear hK K
          try simp only [Act.put, List.setIfInBounds_toArray, List.set_cons_zero, List.set_cons_succ]
          refine wpAnyK_done (by kernel_rfl) ?_ _
          go_wp2_with fail
          go_meet
          case rel => exact ⟨A8, n8, c8, ⟨B0.out, B1.out, B2.out, B3.out, HF.out⟩, HV.out, W1.out, VR.out⟩
      case rest =>
      clear B0 B1 B2 B3 HF HV V3 W1 W2 c00 c01 c02 c03 c04 c05 d00 d01 d02 d03 d04 d05 c10 c11 c12 c13 c14 c15 d10 d11 d12 d13 d14 d15 c20 c21 c22 c23 c24 c25 d20 d21 d22 d23 d24 d25 c30 c31 c32 d30 d31 d32
      obtain ⟨a4, m4, k4, hw, hHV, hW1, hW2⟩ := hcut
      have B0 := Zz.mk hw.b0
      have B1 := Zz.mk hw.b1
      have B2 := Zz.mk hw.b2
      have B3 := Zz.mk hw.b3
      have HF := Zz.mk hw.fr
      have HV := Zz.mk hHV
      have W1 := Zz.mk hW1
      have W2 := Zz.mk hW2
      clear hw hHV hW1 hW2
      obtain ⟨c00, c01, c02, c03, c04, c05, d00, d01, d02, d03, d04, d05⟩ := Blk.six B0.out; obtain ⟨c10, c11, c12, c13, c14, c15, d10, d11, d12, d13, d14, d15⟩ := Blk.six B1.out; obtain ⟨c20, c21, c22, c23, c24, c25, d20, d21, d22, d23, d24, d25⟩ := Blk.six B2.out; obtain ⟨c30, c31, c32, d30, d31, d32⟩ := Blk.three B3.out
      have wr3 : IntKind.i64.wrap ((S.no : Int) + 1) = ((S.no + 1 : Nat) : Int) := (i64w _).trans (by have h1 := HNO.out; unfold wrap64; omega)
      go_wp2_with (first
      | ((with_reducible refine gate_store (t := 3) (p := 86) rfl ?_); refine store1_event rfl rfl (g := g0) (i := 1) (v := .int .i64 ((S.no + 1 : Nat) : Int)) (by first | rfl | (go_simp; done) | (go_simp; rfl)) (by first | rfl | (go_simp; done) | (go_simp; rfl)) B0.out (by simp) info3 rfl ?_; intro ws hx hk hz hb; have n_ := Zz.mk (show Blk ws g0 29 #[.slice A' m c', .int .i64 ((S.no + 1 : Nat) : Int), .int .i64 S2.ops, .int .i64 S2.fuse, .int .i64 S2.fault, .bool S2.down] from hx); clear B0; have B0 := n_; clear n_; replace B1 := Zz.mk (show Blk ws g1 34 _ from blk_kept B1.out hk hE10); replace B2 := Zz.mk (show Blk ws g2 29 _ from blk_kept B2.out hk hE20); replace B3 := Zz.mk (show Blk ws g3 47 _ from blk_kept B3.out hk hE30); replace HV := Zz.mk (Fp.store (base' := 0) HV.out hk (by simp)); replace W1 := Zz.mk (Fp.store (base' := 0) W1.out hk (by simp)); replace W2 := Zz.mk (Fp.store (base' := 0) W2.out hk (by simp)); replace HF := Zz.mk (HF.out.store hz hb (by simp)); clear hx hk hz hb; clear c00 c01 c02 c03 c04 c05 d00 d01 d02 d03 d04 d05; clear c10 c11 c12 c13 c14 c15 d10 d11 d12 d13 d14 d15; clear c20 c21 c22 c23 c24 c25 d20 d21 d22 d23 d24 d25; clear c30 c31 c32 d30 d31 d32; obtain ⟨c00, c01, c02, c03, c04, c05, d00, d01, d02, d03, d04, d05⟩ := Blk.six B0.out; obtain ⟨c10, c11, c12, c13, c14, c15, d10, d11, d12, d13, d14, d15⟩ := Blk.six B1.out; obtain ⟨c20, c21, c22, c23, c24, c25, d20, d21, d22, d23, d24, d25⟩ := Blk.six B2.out; obtain ⟨c30, c31, c32, d30, d31, d32⟩ := Blk.three B3.out)
      | (go_at_call 55; (with_reducible refine (ref_with (f := ({ f with row := f.row ++ [⟨S.no, mb, bs⟩] } : PF)) HV.out W1.out W2.out HL.out HM2.out _ _ _ _ _).mono ?_); rintro _ wc ⟨Aw, cw, rfl, hv, hb⟩; have N0 := Zz.mk (Fp.told (base' := 0) hv HF.out); clear hv HV; replace B0 := Zz.mk (Blk.belowW B0.out hb); replace B1 := Zz.mk (Blk.belowW B1.out hb); replace B2 := Zz.mk (Blk.belowW B2.out hb); replace B3 := Zz.mk (Blk.belowW B3.out hb); replace W1 := Zz.mk (Fp.step (base' := 0) W1.out hb); replace W2 := Zz.mk (Fp.step (base' := 0) W2.out hb); replace HF := Zz.mk (HF.out.call hb); clear hb; have HV := N0; clear N0; clear c00 c01 c02 c03 c04 c05 d00 d01 d02 d03 d04 d05; clear c10 c11 c12 c13 c14 c15 d10 d11 d12 d13 d14 d15; clear c20 c21 c22 c23 c24 c25 d20 d21 d22 d23 d24 d25; clear c30 c31 c32 d30 d31 d32; obtain ⟨c00, c01, c02, c03, c04, c05, d00, d01, d02, d03, d04, d05⟩ := Blk.six B0.out; obtain ⟨c10, c11, c12, c13, c14, c15, d10, d11, d12, d13, d14, d15⟩ := Blk.six B1.out; obtain ⟨c20, c21, c22, c23, c24, c25, d20, d21, d22, d23, d24, d25⟩ := Blk.six B2.out; obtain ⟨c30, c31, c32, d30, d31, d32⟩ := Blk.three B3.out)
      | ((with_reducible refine gate_store (t := 29) (p := 2) rfl ?_); refine store_event rfl rfl (g := g0) (cells := #[.slice Aw mq cw, .int .i64 ((S.no + 1 : Nat) : Int), .int .i64 S2.ops, .int .i64 S2.fuse, .int .i64 S2.fault, .bool S2.down]) (by first | rfl | (go_simp; done) | (go_simp; rfl)) (by first | rfl | (go_simp; done) | (go_simp; rfl)) B0.out info29 rfl (by simp [Value.oneCell']) ?_; intro ws hx hk hz hb; replace B0 := Zz.mk (hx); replace B1 := Zz.mk (show Blk ws g1 34 _ from blk_kept B1.out hk hE10); replace B2 := Zz.mk (show Blk ws g2 29 _ from blk_kept B2.out hk hE20); replace B3 := Zz.mk (show Blk ws g3 47 _ from blk_kept B3.out hk hE30); replace HV := Zz.mk (Fp.store (base' := 0) HV.out hk (by simp)); replace W1 := Zz.mk (Fp.store (base' := 0) W1.out hk (by simp)); replace W2 := Zz.mk (Fp.store (base' := 0) W2.out hk (by simp)); replace HF := Zz.mk (HF.out.store hz hb (by simp)); clear hx hk hz hb; skip; clear c00 c01 c02 c03 c04 c05 d00 d01 d02 d03 d04 d05; clear c10 c11 c12 c13 c14 c15 d10 d11 d12 d13 d14 d15; clear c20 c21 c22 c23 c24 c25 d20 d21 d22 d23 d24 d25; clear c30 c31 c32 d30 d31 d32; obtain ⟨c00, c01, c02, c03, c04, c05, d00, d01, d02, d03, d04, d05⟩ := Blk.six B0.out; obtain ⟨c10, c11, c12, c13, c14, c15, d10, d11, d12, d13, d14, d15⟩ := Blk.six B1.out; obtain ⟨c20, c21, c22, c23, c24, c25, d20, d21, d22, d23, d24, d25⟩ := Blk.six B2.out; obtain ⟨c30, c31, c32, d30, d31, d32⟩ := Blk.three B3.out))
      go_meet
      case rel =>
        have h1 := HLX.out
        have h2 := HNX.out
        rw [if_neg HZ.out] at h1 h2
        rw [h1, h2]
        exact ⟨by rw [q1], Aw, mq, cw, _, ⟨B0.out, B1.out, B2.out, B3.out, HF.out⟩, HV.out⟩
  case rest =>
  clear B0 B1 B2 B3 HF HV V3 W1 W2 c00 c01 c02 c03 c04 c05 d00 d01 d02 d03 d04 d05 c10 c11 c12 c13 c14 c15 d10 d11 d12 d13 d14 d15 c20 c21 c22 c23 c24 c25 d20 d21 d22 d23 d24 d25 c30 c31 c32 d30 d31 d32
  obtain ⟨rfl, A9, m9, c9, x3, hw, hHV⟩ := hcut
  have B0 := Zz.mk hw.b0
  have B1 := Zz.mk hw.b1
  have B2 := Zz.mk hw.b2
  have HF := Zz.mk hw.fr
  have HV := Zz.mk hHV
  clear hw hHV
  obtain ⟨c00, c01, c02, c03, c04, c05, d00, d01, d02, d03, d04, d05⟩ := Blk.six B0.out
  obtain ⟨c10, c11, c12, c13, c14, c15, d10, d11, d12, d13, d14, d15⟩ := Blk.six B1.out
  obtain ⟨c20, c21, c22, c23, c24, c25, d20, d21, d22, d23, d24, d25⟩ := Blk.six B2.out
  by_cases hdn : S2.down = true
  · rw [hdn] at B0 c05
    have hcd := HCD.out
    rw [if_pos hdn] at hcd
    subst hcd
    have HDN := Zz.mk hdn
    clear hdn
    go_upto_region 19 with (first
      | fail)
    iterate 14 go_step
    exact rst_end HF.out (by simp) HV.out ⟨rfl, rfl, rfl, rfl, HDN.out⟩ B2.out rfl rfl rfl rfl
  · have hdf : S2.down = false := by simpa using hdn
    have HDN := Zz.mk hdf
    rw [hdf] at B0 c05
    have hcd := HCD.out
    rw [if_neg hdn] at hcd
    clear hdn hdf
    by_cases hz : S.fault = 0
    · rw [if_pos hz] at hcd
      subst hcd
      have q1 : (S.fault == 0) = true := by simpa using hz
      have q2 : decide (S.fault = 0) = true := decide_eq_true hz
      clear hz
      simp only [q1]
      go_upto_region 21 with (first
      | fail)
      iterate 14 go_step
      exact rst_end HF.out (by simp) HV.out ⟨rfl, rfl, rfl, rfl, HDN.out⟩ B2.out rfl rfl rfl rfl
    · rw [if_neg hz] at hcd
      subst hcd
      have q1 : (S.fault == 0) = false := by simpa using hz
      have q2 : decide (S.fault = 0) = false := decide_eq_false hz
      clear hz
      simp only [q1]
      go_upto_region 22 with (first
      | fail)
      iterate 14 go_step
      exact rst_end HF.out (by simp) HV.out ⟨rfl, rfl, rfl, rfl, HDN.out⟩ B2.out rfl rfl rfl rfl
set_option maxRecDepth 100000 in
set_option maxHeartbeats 2000000 in
theorem refw_full {w : World} {P : Nat → Prop} {A : Option Addr} {c : Nat} {S : PS} (h : Kd.V k47 47 w w.heap.size P (.slice A (S.l.map toF).length c) (S.l.map toF)) (hB : BoundP S) (hN : NumP S) (hd : S.down = false) {kd : Int} {s t : ByteArray} {bs : List Int} {A3 A5 : Option Addr} {n3 n5 c3 c5 : Nat} {n : Int} {f : PF} {idx : Int} (hidx : idxP s S.l 0 = idx) (h3 : Kd.V (Kd.int .u8) 5 w w.heap.size P (.slice A3 n3 c3) bs) (hf : (idx = -1 ∧ f = ⟨s, [], []⟩) ∨ ∃ i : Nat, idx = i ∧ S.l[i]? = some f) (hfn : f.name = s) (hs1 : 1 ≤ s.size) (hs2 : s.size ≤ 20) (hroom : idx < 0 → S.l.length < 8) (hfB : f.b.length ≤ 65536 ∧ RowB f.row) (hlen : (bytesP f).length + bs.length > 65536) (hbs : bs.length ≤ 1000000) {mb : Nat} (hmb2 : mb ≤ 1000000) (hmb : (bytesP f).length = mb) :
    Calls Try.prog 35 #[.agg #[.slice A (S.l.map toF).length c, .int .i64 S.no, .int .i64 S.ops, .int .i64 S.fuse, .int .i64 S.fault, .bool S.down], .agg #[.int .i64 kd, .string s, .string t, .slice A3 n3 c3, .int .i64 n, .slice A5 n5 c5]] w fun e w' =>
      ∃ v', e = .returned (.tuple #[v', .int .i64 103]) ∧ RSt w' (fun k => P k ∨ w.heap.size ≤ k) v' S ∧ Below w.heap.size w w' := by
  have X := Zz.mk (known_find h hB s hidx rfl)
  simp only [hd] at X
  rw [hd]
  have HD := Zz.mk hd
  have HL : Zz (S.l.length ≤ 1000000) := ⟨by have := hB.1; omega⟩
  have HFB := Zz.mk hfB
  have HRM := Zz.mk hroom
  have HLB := Zz.mk hlen
  have HFC := Zz.mk hf
  have HFN := Zz.mk hfn
  have HMB := Zz.mk hmb
  have HBS := Zz.mk (And.intro hbs hmb2)
  have HN3 := Zz.mk (V_len h3)
  generalize hm : (S.l.map toF).length = m at X h ⊢
  have HM := Zz.mk hm
  have HV := Zz.mk (Fp.start (base' := 0) h)
  have V3 := Zz.mk (Fp.start (base' := 0) h3)
  have HF := Zz.mk (Fr.start w)
  have e1 : decide ((s.size : Int) < 1) = false := decide_eq_false (by omega)
  have e2 : decide ((20 : Int) < (s.size : Int)) = false := decide_eq_false (by omega)
  clear h h3 hm hB hd hf hfn hs1 hs2 hroom hfB hlen hmb hbs hmb2
  go_enter Try.func35, Try.ntmps35
  have hu29 := Try.underlying29
  have hu34 := Try.underlying34
  have hu47 := Try.underlying47
  go_upto_region 2 with (first
      | ((with_reducible refine gate_dst (N := 2) rfl ?_); refine box_event ?hg (N := 2) ?hd (cs := #[.slice A m c, .int .i64 S.no, .int .i64 S.ops, .int .i64 S.fuse, .int .i64 S.fault, .bool false]) (t := 29) ?hr ?_; (case hd => rfl); (case hg => rfl); (case hr => first | (go_simp; done) | (go_simp; rfl)); intro g0 hg w1 hx hb; replace HV := Zz.mk (Fp.box (base' := 0) HV.out hg hb); replace V3 := Zz.mk (Fp.box (base' := 0) V3.out hg hb); replace HF := Zz.mk (HF.out.box hg hb (Blk.lt (show Blk w1 g0 29 _ from hx))); have B0 := Zz.mk (show Blk w1 g0 29 _ from hx); clear hg hx hb; obtain ⟨c00, c01, c02, c03, c04, c05, d00, d01, d02, d03, d04, d05⟩ := Blk.six B0.out)
      | ((with_reducible refine gate_dst (N := 3) rfl ?_); refine box_event ?hg (N := 3) ?hd (cs := #[.int .i64 kd, .string s, .string t, .slice A3 n3 c3, .int .i64 n, .slice A5 n5 c5]) (t := 34) ?hr ?_; (case hd => rfl); (case hg => rfl); (case hr => first | (go_simp; done) | (go_simp; rfl)); intro g1 hg w2 hx hb; have hE01 := HF.out.ne (k := g0) (by simp) hg; have hE10 := hE01.symm; replace B0 := Zz.mk (Blk.belowW B0.out hb); replace HV := Zz.mk (Fp.box (base' := 0) HV.out hg hb); replace V3 := Zz.mk (Fp.box (base' := 0) V3.out hg hb); replace HF := Zz.mk (HF.out.box hg hb (Blk.lt (show Blk w2 g1 34 _ from hx))); have B1 := Zz.mk (show Blk w2 g1 34 _ from hx); clear hg hx hb; clear c00 c01 c02 c03 c04 c05 d00 d01 d02 d03 d04 d05; obtain ⟨c00, c01, c02, c03, c04, c05, d00, d01, d02, d03, d04, d05⟩ := Blk.six B0.out; obtain ⟨c10, c11, c12, c13, c14, c15, d10, d11, d12, d13, d14, d15⟩ := Blk.six B1.out)
      | ((with_reducible refine gate_dst (N := 4) rfl ?_); refine box_event ?hg (N := 4) ?hd (cs := #[.slice none 0 0, .int .i64 0, .int .i64 0, .int .i64 0, .int .i64 0, .bool false]) (t := 29) ?hr ?_; (case hd => rfl); (case hg => rfl); (case hr => first | (go_simp; done) | (go_simp; rfl)); intro g2 hg w3 hx hb; have hE02 := HF.out.ne (k := g0) (by simp) hg; have hE20 := hE02.symm; have hE12 := HF.out.ne (k := g1) (by simp) hg; have hE21 := hE12.symm; replace B0 := Zz.mk (Blk.belowW B0.out hb); replace B1 := Zz.mk (Blk.belowW B1.out hb); replace HV := Zz.mk (Fp.box (base' := 0) HV.out hg hb); replace V3 := Zz.mk (Fp.box (base' := 0) V3.out hg hb); replace HF := Zz.mk (HF.out.box hg hb (Blk.lt (show Blk w3 g2 29 _ from hx))); have B2 := Zz.mk (show Blk w3 g2 29 _ from hx); clear hg hx hb; clear c00 c01 c02 c03 c04 c05 d00 d01 d02 d03 d04 d05; clear c10 c11 c12 c13 c14 c15 d10 d11 d12 d13 d14 d15; obtain ⟨c00, c01, c02, c03, c04, c05, d00, d01, d02, d03, d04, d05⟩ := Blk.six B0.out; obtain ⟨c10, c11, c12, c13, c14, c15, d10, d11, d12, d13, d14, d15⟩ := Blk.six B1.out; obtain ⟨c20, c21, c22, c23, c24, c25, d20, d21, d22, d23, d24, d25⟩ := Blk.six B2.out)
      | (go_at_call 52; (with_reducible refine (X.out _ HF.out.below).mono ?_); rintro _ wc ⟨rfl, hb⟩; skip; replace B0 := Zz.mk (Blk.belowW B0.out hb); replace B1 := Zz.mk (Blk.belowW B1.out hb); replace B2 := Zz.mk (Blk.belowW B2.out hb); replace HV := Zz.mk (Fp.step (base' := 0) HV.out hb); replace V3 := Zz.mk (Fp.step (base' := 0) V3.out hb); replace HF := Zz.mk (HF.out.call hb); clear hb; skip; clear c00 c01 c02 c03 c04 c05 d00 d01 d02 d03 d04 d05; clear c10 c11 c12 c13 c14 c15 d10 d11 d12 d13 d14 d15; clear c20 c21 c22 c23 c24 c25 d20 d21 d22 d23 d24 d25; obtain ⟨c00, c01, c02, c03, c04, c05, d00, d01, d02, d03, d04, d05⟩ := Blk.six B0.out; obtain ⟨c10, c11, c12, c13, c14, c15, d10, d11, d12, d13, d14, d15⟩ := Blk.six B1.out; obtain ⟨c20, c21, c22, c23, c24, c25, d20, d21, d22, d23, d24, d25⟩ := Blk.six B2.out))
  go_cut [33] (fun v33 wx => v33 = .bool false ∧ wx = wc)
  case first =>
    rcases HFC.out with ⟨rfl, hf⟩ | ⟨i, rfl, hf⟩
    · have q1 : decide ((8 : Int) ≤ (m : Int)) = false := decide_eq_false (by have h1 := HRM.out (by decide); have h2 := HM.out; rw [List.length_map] at h2; omega)
      go_wp2
      go_meet
      case rel => exact ⟨rfl, rfl⟩
    · have q1 : decide ((i : Int) < 0) = false := decide_eq_false (by omega)
      go_wp2
      go_meet
      case rel => exact ⟨rfl, rfl⟩
  case rest =>
  obtain ⟨rfl, rfl⟩ := hcut
  go_upto_if 39 with (first
      | ((with_reducible refine gate_dst (N := 7) rfl ?_); refine box_event ?hg (N := 7) ?hd (cs := #[.string ByteArray.empty, .slice none 0 0, .slice none 0 0]) (t := 47) ?hr ?_; (case hd => rfl); (case hg => rfl); (case hr => first | (go_simp; done) | (go_simp; rfl)); intro g3 hg w4 hx hb; have hE03 := HF.out.ne (k := g0) (by simp) hg; have hE30 := hE03.symm; have hE13 := HF.out.ne (k := g1) (by simp) hg; have hE31 := hE13.symm; have hE23 := HF.out.ne (k := g2) (by simp) hg; have hE32 := hE23.symm; replace B0 := Zz.mk (Blk.belowW B0.out hb); replace B1 := Zz.mk (Blk.belowW B1.out hb); replace B2 := Zz.mk (Blk.belowW B2.out hb); replace HV := Zz.mk (Fp.box (base' := 0) HV.out hg hb); replace V3 := Zz.mk (Fp.box (base' := 0) V3.out hg hb); replace HF := Zz.mk (HF.out.box hg hb (Blk.lt (show Blk w4 g3 47 _ from hx))); have B3 := Zz.mk (show Blk w4 g3 47 _ from hx); clear hg hx hb; clear c00 c01 c02 c03 c04 c05 d00 d01 d02 d03 d04 d05; clear c10 c11 c12 c13 c14 c15 d10 d11 d12 d13 d14 d15; clear c20 c21 c22 c23 c24 c25 d20 d21 d22 d23 d24 d25; obtain ⟨c00, c01, c02, c03, c04, c05, d00, d01, d02, d03, d04, d05⟩ := Blk.six B0.out; obtain ⟨c10, c11, c12, c13, c14, c15, d10, d11, d12, d13, d14, d15⟩ := Blk.six B1.out; obtain ⟨c20, c21, c22, c23, c24, c25, d20, d21, d22, d23, d24, d25⟩ := Blk.six B2.out; obtain ⟨c30, c31, c32, d30, d31, d32⟩ := Blk.three B3.out)
      | ((with_reducible refine gate_store (t := 47) (p := 7) rfl ?_); refine store_event rfl rfl (g := g3) (cells := #[.string s, .slice none 0 0, .slice none 0 0]) (by first | rfl | (go_simp; done) | (go_simp; rfl)) (by first | rfl | (go_simp; done) | (go_simp; rfl)) B3.out info47 rfl (by simp [Value.oneCell']) ?_; intro ws hx hk hz hb; replace B3 := Zz.mk (hx); replace B0 := Zz.mk (show Blk ws g0 29 _ from blk_kept B0.out hk hE03); replace B1 := Zz.mk (show Blk ws g1 34 _ from blk_kept B1.out hk hE13); replace B2 := Zz.mk (show Blk ws g2 29 _ from blk_kept B2.out hk hE23); replace HV := Zz.mk (Fp.store (base' := 0) HV.out hk (by simp)); replace V3 := Zz.mk (Fp.store (base' := 0) V3.out hk (by simp)); replace HF := Zz.mk (HF.out.store hz hb (by simp)); clear hx hk hz hb; skip; clear c00 c01 c02 c03 c04 c05 d00 d01 d02 d03 d04 d05; clear c10 c11 c12 c13 c14 c15 d10 d11 d12 d13 d14 d15; clear c20 c21 c22 c23 c24 c25 d20 d21 d22 d23 d24 d25; clear c30 c31 c32 d30 d31 d32; obtain ⟨c00, c01, c02, c03, c04, c05, d00, d01, d02, d03, d04, d05⟩ := Blk.six B0.out; obtain ⟨c10, c11, c12, c13, c14, c15, d10, d11, d12, d13, d14, d15⟩ := Blk.six B1.out; obtain ⟨c20, c21, c22, c23, c24, c25, d20, d21, d22, d23, d24, d25⟩ := Blk.six B2.out; obtain ⟨c30, c31, c32, d30, d31, d32⟩ := Blk.three B3.out))
  go_cut [] (fun wx => ∃ a1 m1 k1 a2 m2 k2, WSt w wx g0 g1 g2 g3 #[.slice A m c, .int .i64 S.no, .int .i64 S.ops, .int .i64 S.fuse, .int .i64 S.fault, .bool false] #[.int .i64 kd, .string s, .string t, .slice A3 n3 c3, .int .i64 n, .slice A5 n5 c5] #[.slice none 0 0, .int .i64 0, .int .i64 0, .int .i64 0, .int .i64 0, .bool false] #[.string f.name, .slice a1 m1 k1, .slice a2 m2 k2] ∧ Kd.V k47 47 wx 0 (Fp w P [g3, g2, g1, g0]) (.slice A m c) (S.l.map toF) ∧ Kd.V (Kd.int .u8) 5 wx 0 (Fp w P [g3, g2, g1, g0]) (.slice A3 n3 c3) (bs) ∧ Kd.V (Kd.int .u8) 5 wx 0 (Fp w P [g3, g2, g1, g0]) (.slice a1 m1 k1) (f.b) ∧ Kd.V k91 91 wx 0 (Fp w P [g3, g2, g1, g0]) (.slice a2 m2 k2) (f.row.map toP))
  case first =>
    rcases HFC.out with ⟨rfl, hf⟩ | ⟨i, rfl, hf⟩
    · go_wp2
      go_meet
      case rel =>
        cases hf
        exact ⟨none, 0, 0, none, 0, 0, ⟨B0.out, B1.out, B2.out, B3.out, HF.out⟩, HV.out, V3.out, Kd.V_nil _ _ _ _ _, Kd.V_nil _ _ _ _ _⟩
    · have hi0 : (0 : Int) ≤ (i : Int) := Int.natCast_nonneg i
      obtain ⟨ad, a1, m1, k1, a2, m2, k2, hA, y0, y1, y2, v1, v2, hi⟩ := file_V HV.out hf
      subst hA
      have W1 := Zz.mk v1
      have W2 := Zz.mk v2
      clear v1 v2 hf
      go_wp2_with (first
      | ((with_reducible refine gate_store (t := 47) (p := 7) rfl ?_); refine store_event rfl rfl (g := g3) (cells := #[.string f.name, .slice a1 m1 k1, .slice a2 m2 k2]) (by first | rfl | (go_simp; done) | (go_simp; rfl)) (by first | rfl | (go_simp; done) | (go_simp; rfl)) B3.out info47 rfl (by simp [Value.oneCell']) ?_; intro ws hx hk hz hb; replace B3 := Zz.mk (hx); replace B0 := Zz.mk (show Blk ws g0 29 _ from blk_kept B0.out hk hE03); replace B1 := Zz.mk (show Blk ws g1 34 _ from blk_kept B1.out hk hE13); replace B2 := Zz.mk (show Blk ws g2 29 _ from blk_kept B2.out hk hE23); replace HV := Zz.mk (Fp.store (base' := 0) HV.out hk (by simp)); replace V3 := Zz.mk (Fp.store (base' := 0) V3.out hk (by simp)); replace W1 := Zz.mk (Fp.store (base' := 0) W1.out hk (by simp)); replace W2 := Zz.mk (Fp.store (base' := 0) W2.out hk (by simp)); replace HF := Zz.mk (HF.out.store hz hb (by simp)); clear hx hk hz hb; clear y0 y1 y2 hi hi0; clear c00 c01 c02 c03 c04 c05 d00 d01 d02 d03 d04 d05; clear c10 c11 c12 c13 c14 c15 d10 d11 d12 d13 d14 d15; clear c20 c21 c22 c23 c24 c25 d20 d21 d22 d23 d24 d25; clear c30 c31 c32 d30 d31 d32; obtain ⟨c00, c01, c02, c03, c04, c05, d00, d01, d02, d03, d04, d05⟩ := Blk.six B0.out; obtain ⟨c10, c11, c12, c13, c14, c15, d10, d11, d12, d13, d14, d15⟩ := Blk.six B1.out; obtain ⟨c20, c21, c22, c23, c24, c25, d20, d21, d22, d23, d24, d25⟩ := Blk.six B2.out; obtain ⟨c30, c31, c32, d30, d31, d32⟩ := Blk.three B3.out))
      go_meet
      case rel => exact ⟨a1, m1, k1, a2, m2, k2, ⟨B0.out, B1.out, B2.out, B3.out, HF.out⟩, HV.out, V3.out, W1.out, W2.out⟩
  case rest =>
  skip
  clear B0 B1 B2 B3 HF HV V3 c00 c01 c02 c03 c04 c05 d00 d01 d02 d03 d04 d05 c10 c11 c12 c13 c14 c15 d10 d11 d12 d13 d14 d15 c20 c21 c22 c23 c24 c25 d20 d21 d22 d23 d24 d25 c30 c31 c32 d30 d31 d32
  obtain ⟨a1, m1, k1, a2, m2, k2, hw, hHV, hV3, hW1, hW2⟩ := hcut
  have B0 := Zz.mk hw.b0
  have B1 := Zz.mk hw.b1
  have B2 := Zz.mk hw.b2
  have B3 := Zz.mk hw.b3
  have HF := Zz.mk hw.fr
  have HV := Zz.mk hHV
  have V3 := Zz.mk hV3
  have W1 := Zz.mk hW1
  have W2 := Zz.mk hW2
  clear hw hHV hV3 hW1 hW2
  obtain ⟨c00, c01, c02, c03, c04, c05, d00, d01, d02, d03, d04, d05⟩ := Blk.six B0.out; obtain ⟨c10, c11, c12, c13, c14, c15, d10, d11, d12, d13, d14, d15⟩ := Blk.six B1.out; obtain ⟨c20, c21, c22, c23, c24, c25, d20, d21, d22, d23, d24, d25⟩ := Blk.six B2.out; obtain ⟨c30, c31, c32, d30, d31, d32⟩ := Blk.three B3.out
  have wr1 : IntKind.i64.wrap ((mb : Int) + (n3 : Int)) = (mb : Int) + (n3 : Int) := (i64w _).trans (by have h1 := HBS.out; have h2 := HN3.out; unfold wrap64; omega)
  have q3 : decide ((65536 : Int) < (mb : Int) + (n3 : Int)) = true := decide_eq_true (by have h1 := HLB.out; have h2 := HN3.out; have h3 := HMB.out; omega)
  go_upto_region 9 with (first
      | (go_at_call 53; (with_reducible refine (ref_bytes W1.out W2.out HFB.out.1 HFB.out.2 HMB.out).mono ?_); rintro _ wc ⟨Ab, cb, rfl, hv, hb⟩; have U1 := Zz.mk (Fp.told (P := P) (base' := 0) (Kd.V_mono hv (fun k hk => Or.inr hk)) HF.out); clear hv; replace B0 := Zz.mk (Blk.belowW B0.out hb); replace B1 := Zz.mk (Blk.belowW B1.out hb); replace B2 := Zz.mk (Blk.belowW B2.out hb); replace B3 := Zz.mk (Blk.belowW B3.out hb); replace HV := Zz.mk (Fp.step (base' := 0) HV.out hb); replace V3 := Zz.mk (Fp.step (base' := 0) V3.out hb); replace W1 := Zz.mk (Fp.step (base' := 0) W1.out hb); replace W2 := Zz.mk (Fp.step (base' := 0) W2.out hb); replace HF := Zz.mk (HF.out.call hb); clear hb; skip; clear c00 c01 c02 c03 c04 c05 d00 d01 d02 d03 d04 d05; clear c10 c11 c12 c13 c14 c15 d10 d11 d12 d13 d14 d15; clear c20 c21 c22 c23 c24 c25 d20 d21 d22 d23 d24 d25; clear c30 c31 c32 d30 d31 d32; obtain ⟨c00, c01, c02, c03, c04, c05, d00, d01, d02, d03, d04, d05⟩ := Blk.six B0.out; obtain ⟨c10, c11, c12, c13, c14, c15, d10, d11, d12, d13, d14, d15⟩ := Blk.six B1.out; obtain ⟨c20, c21, c22, c23, c24, c25, d20, d21, d22, d23, d24, d25⟩ := Blk.six B2.out; obtain ⟨c30, c31, c32, d30, d31, d32⟩ := Blk.three B3.out))
  iterate 14 go_step
  exact rst_end HF.out (by simp) HV.out ⟨rfl, rfl, rfl, rfl, HD.out⟩ B2.out rfl rfl rfl rfl
set_option maxRecDepth 100000 in
set_option maxHeartbeats 2000000 in
theorem refw_bad {w : World} {P : Nat → Prop} {A : Option Addr} {c : Nat} {S : PS} (h : Kd.V k47 47 w w.heap.size P (.slice A (S.l.map toF).length c) (S.l.map toF)) (hB : BoundP S) (hN : NumP S) (hd : S.down = false) {kd : Int} {s t : ByteArray} {bs : List Int} {A3 A5 : Option Addr} {n3 n5 c3 c5 : Nat} {n : Int} {f : PF} {idx : Int} (hidx : idxP s S.l 0 = idx) (hbad : s.size < 1 ∨ 20 < s.size ∨ idx < 0 ∧ 8 ≤ S.l.length) :
    Calls Try.prog 35 #[.agg #[.slice A (S.l.map toF).length c, .int .i64 S.no, .int .i64 S.ops, .int .i64 S.fuse, .int .i64 S.fault, .bool S.down], .agg #[.int .i64 kd, .string s, .string t, .slice A3 n3 c3, .int .i64 n, .slice A5 n5 c5]] w fun e w' =>
      ∃ v', e = .returned (.tuple #[v', .int .i64 101]) ∧ RSt w' (fun k => P k ∨ w.heap.size ≤ k) v' S ∧ Below w.heap.size w w' := by
  have X := Zz.mk (known_find h hB s hidx rfl)
  simp only [hd] at X
  rw [hd]
  have HD := Zz.mk hd
  have HL : Zz (S.l.length ≤ 1000000) := ⟨by have := hB.1; omega⟩
  generalize hm : (S.l.map toF).length = m at X h ⊢
  have HM := Zz.mk hm
  have HV := Zz.mk (Fp.start (base' := 0) h)
  have HF := Zz.mk (Fr.start w)
  rcases hbad with hs | hs | ⟨hs, hl⟩
  · have e1 : decide ((s.size : Int) < 1) = true := decide_eq_true (by omega)
    clear h hm hB hd hs
    go_enter Try.func35, Try.ntmps35
    have hu29 := Try.underlying29
    have hu34 := Try.underlying34
    have hu47 := Try.underlying47
    go_upto_region 3 with (first
        | ((with_reducible refine gate_dst (N := 2) rfl ?_); refine box_event ?hg (N := 2) ?hd (cs := #[.slice A m c, .int .i64 S.no, .int .i64 S.ops, .int .i64 S.fuse, .int .i64 S.fault, .bool false]) (t := 29) ?hr ?_; (case hd => rfl); (case hg => rfl); (case hr => first | (go_simp; done) | (go_simp; rfl)); intro g0 hg w1 hx hb; replace HV := Zz.mk (Fp.box (base' := 0) HV.out hg hb); replace HF := Zz.mk (HF.out.box hg hb (Blk.lt (show Blk w1 g0 29 _ from hx))); have B0 := Zz.mk (show Blk w1 g0 29 _ from hx); clear hg hx hb; obtain ⟨c00, c01, c02, c03, c04, c05, d00, d01, d02, d03, d04, d05⟩ := Blk.six B0.out)
        | ((with_reducible refine gate_dst (N := 3) rfl ?_); refine box_event ?hg (N := 3) ?hd (cs := #[.int .i64 kd, .string s, .string t, .slice A3 n3 c3, .int .i64 n, .slice A5 n5 c5]) (t := 34) ?hr ?_; (case hd => rfl); (case hg => rfl); (case hr => first | (go_simp; done) | (go_simp; rfl)); intro g1 hg w2 hx hb; have hE01 := HF.out.ne (k := g0) (by simp) hg; have hE10 := hE01.symm; replace B0 := Zz.mk (Blk.belowW B0.out hb); replace HV := Zz.mk (Fp.box (base' := 0) HV.out hg hb); replace HF := Zz.mk (HF.out.box hg hb (Blk.lt (show Blk w2 g1 34 _ from hx))); have B1 := Zz.mk (show Blk w2 g1 34 _ from hx); clear hg hx hb; clear c00 c01 c02 c03 c04 c05 d00 d01 d02 d03 d04 d05; obtain ⟨c00, c01, c02, c03, c04, c05, d00, d01, d02, d03, d04, d05⟩ := Blk.six B0.out; obtain ⟨c10, c11, c12, c13, c14, c15, d10, d11, d12, d13, d14, d15⟩ := Blk.six B1.out)
        | ((with_reducible refine gate_dst (N := 4) rfl ?_); refine box_event ?hg (N := 4) ?hd (cs := #[.slice none 0 0, .int .i64 0, .int .i64 0, .int .i64 0, .int .i64 0, .bool false]) (t := 29) ?hr ?_; (case hd => rfl); (case hg => rfl); (case hr => first | (go_simp; done) | (go_simp; rfl)); intro g2 hg w3 hx hb; have hE02 := HF.out.ne (k := g0) (by simp) hg; have hE20 := hE02.symm; have hE12 := HF.out.ne (k := g1) (by simp) hg; have hE21 := hE12.symm; replace B0 := Zz.mk (Blk.belowW B0.out hb); replace B1 := Zz.mk (Blk.belowW B1.out hb); replace HV := Zz.mk (Fp.box (base' := 0) HV.out hg hb); replace HF := Zz.mk (HF.out.box hg hb (Blk.lt (show Blk w3 g2 29 _ from hx))); have B2 := Zz.mk (show Blk w3 g2 29 _ from hx); clear hg hx hb; clear c00 c01 c02 c03 c04 c05 d00 d01 d02 d03 d04 d05; clear c10 c11 c12 c13 c14 c15 d10 d11 d12 d13 d14 d15; obtain ⟨c00, c01, c02, c03, c04, c05, d00, d01, d02, d03, d04, d05⟩ := Blk.six B0.out; obtain ⟨c10, c11, c12, c13, c14, c15, d10, d11, d12, d13, d14, d15⟩ := Blk.six B1.out; obtain ⟨c20, c21, c22, c23, c24, c25, d20, d21, d22, d23, d24, d25⟩ := Blk.six B2.out)
        | (go_at_call 52; (with_reducible refine (X.out _ HF.out.below).mono ?_); rintro _ wc ⟨rfl, hb⟩; skip; replace B0 := Zz.mk (Blk.belowW B0.out hb); replace B1 := Zz.mk (Blk.belowW B1.out hb); replace B2 := Zz.mk (Blk.belowW B2.out hb); replace HV := Zz.mk (Fp.step (base' := 0) HV.out hb); replace HF := Zz.mk (HF.out.call hb); clear hb; skip; clear c00 c01 c02 c03 c04 c05 d00 d01 d02 d03 d04 d05; clear c10 c11 c12 c13 c14 c15 d10 d11 d12 d13 d14 d15; clear c20 c21 c22 c23 c24 c25 d20 d21 d22 d23 d24 d25; obtain ⟨c00, c01, c02, c03, c04, c05, d00, d01, d02, d03, d04, d05⟩ := Blk.six B0.out; obtain ⟨c10, c11, c12, c13, c14, c15, d10, d11, d12, d13, d14, d15⟩ := Blk.six B1.out; obtain ⟨c20, c21, c22, c23, c24, c25, d20, d21, d22, d23, d24, d25⟩ := Blk.six B2.out))
    iterate 14 go_step
    exact rst_end HF.out (by simp) HV.out ⟨rfl, rfl, rfl, rfl, HD.out⟩ B2.out rfl rfl rfl rfl
  · have e1 : decide ((s.size : Int) < 1) = false := decide_eq_false (by omega)
    have e2 : decide ((20 : Int) < (s.size : Int)) = true := decide_eq_true (by omega)
    clear h hm hB hd hs
    go_enter Try.func35, Try.ntmps35
    have hu29 := Try.underlying29
    have hu34 := Try.underlying34
    have hu47 := Try.underlying47
    go_upto_region 3 with (first
        | ((with_reducible refine gate_dst (N := 2) rfl ?_); refine box_event ?hg (N := 2) ?hd (cs := #[.slice A m c, .int .i64 S.no, .int .i64 S.ops, .int .i64 S.fuse, .int .i64 S.fault, .bool false]) (t := 29) ?hr ?_; (case hd => rfl); (case hg => rfl); (case hr => first | (go_simp; done) | (go_simp; rfl)); intro g0 hg w1 hx hb; replace HV := Zz.mk (Fp.box (base' := 0) HV.out hg hb); replace HF := Zz.mk (HF.out.box hg hb (Blk.lt (show Blk w1 g0 29 _ from hx))); have B0 := Zz.mk (show Blk w1 g0 29 _ from hx); clear hg hx hb; obtain ⟨c00, c01, c02, c03, c04, c05, d00, d01, d02, d03, d04, d05⟩ := Blk.six B0.out)
        | ((with_reducible refine gate_dst (N := 3) rfl ?_); refine box_event ?hg (N := 3) ?hd (cs := #[.int .i64 kd, .string s, .string t, .slice A3 n3 c3, .int .i64 n, .slice A5 n5 c5]) (t := 34) ?hr ?_; (case hd => rfl); (case hg => rfl); (case hr => first | (go_simp; done) | (go_simp; rfl)); intro g1 hg w2 hx hb; have hE01 := HF.out.ne (k := g0) (by simp) hg; have hE10 := hE01.symm; replace B0 := Zz.mk (Blk.belowW B0.out hb); replace HV := Zz.mk (Fp.box (base' := 0) HV.out hg hb); replace HF := Zz.mk (HF.out.box hg hb (Blk.lt (show Blk w2 g1 34 _ from hx))); have B1 := Zz.mk (show Blk w2 g1 34 _ from hx); clear hg hx hb; clear c00 c01 c02 c03 c04 c05 d00 d01 d02 d03 d04 d05; obtain ⟨c00, c01, c02, c03, c04, c05, d00, d01, d02, d03, d04, d05⟩ := Blk.six B0.out; obtain ⟨c10, c11, c12, c13, c14, c15, d10, d11, d12, d13, d14, d15⟩ := Blk.six B1.out)
        | ((with_reducible refine gate_dst (N := 4) rfl ?_); refine box_event ?hg (N := 4) ?hd (cs := #[.slice none 0 0, .int .i64 0, .int .i64 0, .int .i64 0, .int .i64 0, .bool false]) (t := 29) ?hr ?_; (case hd => rfl); (case hg => rfl); (case hr => first | (go_simp; done) | (go_simp; rfl)); intro g2 hg w3 hx hb; have hE02 := HF.out.ne (k := g0) (by simp) hg; have hE20 := hE02.symm; have hE12 := HF.out.ne (k := g1) (by simp) hg; have hE21 := hE12.symm; replace B0 := Zz.mk (Blk.belowW B0.out hb); replace B1 := Zz.mk (Blk.belowW B1.out hb); replace HV := Zz.mk (Fp.box (base' := 0) HV.out hg hb); replace HF := Zz.mk (HF.out.box hg hb (Blk.lt (show Blk w3 g2 29 _ from hx))); have B2 := Zz.mk (show Blk w3 g2 29 _ from hx); clear hg hx hb; clear c00 c01 c02 c03 c04 c05 d00 d01 d02 d03 d04 d05; clear c10 c11 c12 c13 c14 c15 d10 d11 d12 d13 d14 d15; obtain ⟨c00, c01, c02, c03, c04, c05, d00, d01, d02, d03, d04, d05⟩ := Blk.six B0.out; obtain ⟨c10, c11, c12, c13, c14, c15, d10, d11, d12, d13, d14, d15⟩ := Blk.six B1.out; obtain ⟨c20, c21, c22, c23, c24, c25, d20, d21, d22, d23, d24, d25⟩ := Blk.six B2.out)
        | (go_at_call 52; (with_reducible refine (X.out _ HF.out.below).mono ?_); rintro _ wc ⟨rfl, hb⟩; skip; replace B0 := Zz.mk (Blk.belowW B0.out hb); replace B1 := Zz.mk (Blk.belowW B1.out hb); replace B2 := Zz.mk (Blk.belowW B2.out hb); replace HV := Zz.mk (Fp.step (base' := 0) HV.out hb); replace HF := Zz.mk (HF.out.call hb); clear hb; skip; clear c00 c01 c02 c03 c04 c05 d00 d01 d02 d03 d04 d05; clear c10 c11 c12 c13 c14 c15 d10 d11 d12 d13 d14 d15; clear c20 c21 c22 c23 c24 c25 d20 d21 d22 d23 d24 d25; obtain ⟨c00, c01, c02, c03, c04, c05, d00, d01, d02, d03, d04, d05⟩ := Blk.six B0.out; obtain ⟨c10, c11, c12, c13, c14, c15, d10, d11, d12, d13, d14, d15⟩ := Blk.six B1.out; obtain ⟨c20, c21, c22, c23, c24, c25, d20, d21, d22, d23, d24, d25⟩ := Blk.six B2.out))
    iterate 14 go_step
    exact rst_end HF.out (by simp) HV.out ⟨rfl, rfl, rfl, rfl, HD.out⟩ B2.out rfl rfl rfl rfl
  · by_cases e0 : (s.size : Int) < 1
    · have e1 : decide ((s.size : Int) < 1) = true := decide_eq_true e0
      clear h hm hB hd hs hl e0
      go_enter Try.func35, Try.ntmps35
      have hu29 := Try.underlying29
      have hu34 := Try.underlying34
      have hu47 := Try.underlying47
      go_upto_region 3 with (first
          | ((with_reducible refine gate_dst (N := 2) rfl ?_); refine box_event ?hg (N := 2) ?hd (cs := #[.slice A m c, .int .i64 S.no, .int .i64 S.ops, .int .i64 S.fuse, .int .i64 S.fault, .bool false]) (t := 29) ?hr ?_; (case hd => rfl); (case hg => rfl); (case hr => first | (go_simp; done) | (go_simp; rfl)); intro g0 hg w1 hx hb; replace HV := Zz.mk (Fp.box (base' := 0) HV.out hg hb); replace HF := Zz.mk (HF.out.box hg hb (Blk.lt (show Blk w1 g0 29 _ from hx))); have B0 := Zz.mk (show Blk w1 g0 29 _ from hx); clear hg hx hb; obtain ⟨c00, c01, c02, c03, c04, c05, d00, d01, d02, d03, d04, d05⟩ := Blk.six B0.out)
          | ((with_reducible refine gate_dst (N := 3) rfl ?_); refine box_event ?hg (N := 3) ?hd (cs := #[.int .i64 kd, .string s, .string t, .slice A3 n3 c3, .int .i64 n, .slice A5 n5 c5]) (t := 34) ?hr ?_; (case hd => rfl); (case hg => rfl); (case hr => first | (go_simp; done) | (go_simp; rfl)); intro g1 hg w2 hx hb; have hE01 := HF.out.ne (k := g0) (by simp) hg; have hE10 := hE01.symm; replace B0 := Zz.mk (Blk.belowW B0.out hb); replace HV := Zz.mk (Fp.box (base' := 0) HV.out hg hb); replace HF := Zz.mk (HF.out.box hg hb (Blk.lt (show Blk w2 g1 34 _ from hx))); have B1 := Zz.mk (show Blk w2 g1 34 _ from hx); clear hg hx hb; clear c00 c01 c02 c03 c04 c05 d00 d01 d02 d03 d04 d05; obtain ⟨c00, c01, c02, c03, c04, c05, d00, d01, d02, d03, d04, d05⟩ := Blk.six B0.out; obtain ⟨c10, c11, c12, c13, c14, c15, d10, d11, d12, d13, d14, d15⟩ := Blk.six B1.out)
          | ((with_reducible refine gate_dst (N := 4) rfl ?_); refine box_event ?hg (N := 4) ?hd (cs := #[.slice none 0 0, .int .i64 0, .int .i64 0, .int .i64 0, .int .i64 0, .bool false]) (t := 29) ?hr ?_; (case hd => rfl); (case hg => rfl); (case hr => first | (go_simp; done) | (go_simp; rfl)); intro g2 hg w3 hx hb; have hE02 := HF.out.ne (k := g0) (by simp) hg; have hE20 := hE02.symm; have hE12 := HF.out.ne (k := g1) (by simp) hg; have hE21 := hE12.symm; replace B0 := Zz.mk (Blk.belowW B0.out hb); replace B1 := Zz.mk (Blk.belowW B1.out hb); replace HV := Zz.mk (Fp.box (base' := 0) HV.out hg hb); replace HF := Zz.mk (HF.out.box hg hb (Blk.lt (show Blk w3 g2 29 _ from hx))); have B2 := Zz.mk (show Blk w3 g2 29 _ from hx); clear hg hx hb; clear c00 c01 c02 c03 c04 c05 d00 d01 d02 d03 d04 d05; clear c10 c11 c12 c13 c14 c15 d10 d11 d12 d13 d14 d15; obtain ⟨c00, c01, c02, c03, c04, c05, d00, d01, d02, d03, d04, d05⟩ := Blk.six B0.out; obtain ⟨c10, c11, c12, c13, c14, c15, d10, d11, d12, d13, d14, d15⟩ := Blk.six B1.out; obtain ⟨c20, c21, c22, c23, c24, c25, d20, d21, d22, d23, d24, d25⟩ := Blk.six B2.out)
          | (go_at_call 52; (with_reducible refine (X.out _ HF.out.below).mono ?_); rintro _ wc ⟨rfl, hb⟩; skip; replace B0 := Zz.mk (Blk.belowW B0.out hb); replace B1 := Zz.mk (Blk.belowW B1.out hb); replace B2 := Zz.mk (Blk.belowW B2.out hb); replace HV := Zz.mk (Fp.step (base' := 0) HV.out hb); replace HF := Zz.mk (HF.out.call hb); clear hb; skip; clear c00 c01 c02 c03 c04 c05 d00 d01 d02 d03 d04 d05; clear c10 c11 c12 c13 c14 c15 d10 d11 d12 d13 d14 d15; clear c20 c21 c22 c23 c24 c25 d20 d21 d22 d23 d24 d25; obtain ⟨c00, c01, c02, c03, c04, c05, d00, d01, d02, d03, d04, d05⟩ := Blk.six B0.out; obtain ⟨c10, c11, c12, c13, c14, c15, d10, d11, d12, d13, d14, d15⟩ := Blk.six B1.out; obtain ⟨c20, c21, c22, c23, c24, c25, d20, d21, d22, d23, d24, d25⟩ := Blk.six B2.out))
      iterate 14 go_step
      exact rst_end HF.out (by simp) HV.out ⟨rfl, rfl, rfl, rfl, HD.out⟩ B2.out rfl rfl rfl rfl
    · have e1 : decide ((s.size : Int) < 1) = false := decide_eq_false e0
      by_cases e0' : (20 : Int) < (s.size : Int)
      · have e2 : decide ((20 : Int) < (s.size : Int)) = true := decide_eq_true e0'
        clear h hm hB hd hs hl e0 e0'
        go_enter Try.func35, Try.ntmps35
        have hu29 := Try.underlying29
        have hu34 := Try.underlying34
        have hu47 := Try.underlying47
        go_upto_region 3 with (first
            | ((with_reducible refine gate_dst (N := 2) rfl ?_); refine box_event ?hg (N := 2) ?hd (cs := #[.slice A m c, .int .i64 S.no, .int .i64 S.ops, .int .i64 S.fuse, .int .i64 S.fault, .bool false]) (t := 29) ?hr ?_; (case hd => rfl); (case hg => rfl); (case hr => first | (go_simp; done) | (go_simp; rfl)); intro g0 hg w1 hx hb; replace HV := Zz.mk (Fp.box (base' := 0) HV.out hg hb); replace HF := Zz.mk (HF.out.box hg hb (Blk.lt (show Blk w1 g0 29 _ from hx))); have B0 := Zz.mk (show Blk w1 g0 29 _ from hx); clear hg hx hb; obtain ⟨c00, c01, c02, c03, c04, c05, d00, d01, d02, d03, d04, d05⟩ := Blk.six B0.out)
            | ((with_reducible refine gate_dst (N := 3) rfl ?_); refine box_event ?hg (N := 3) ?hd (cs := #[.int .i64 kd, .string s, .string t, .slice A3 n3 c3, .int .i64 n, .slice A5 n5 c5]) (t := 34) ?hr ?_; (case hd => rfl); (case hg => rfl); (case hr => first | (go_simp; done) | (go_simp; rfl)); intro g1 hg w2 hx hb; have hE01 := HF.out.ne (k := g0) (by simp) hg; have hE10 := hE01.symm; replace B0 := Zz.mk (Blk.belowW B0.out hb); replace HV := Zz.mk (Fp.box (base' := 0) HV.out hg hb); replace HF := Zz.mk (HF.out.box hg hb (Blk.lt (show Blk w2 g1 34 _ from hx))); have B1 := Zz.mk (show Blk w2 g1 34 _ from hx); clear hg hx hb; clear c00 c01 c02 c03 c04 c05 d00 d01 d02 d03 d04 d05; obtain ⟨c00, c01, c02, c03, c04, c05, d00, d01, d02, d03, d04, d05⟩ := Blk.six B0.out; obtain ⟨c10, c11, c12, c13, c14, c15, d10, d11, d12, d13, d14, d15⟩ := Blk.six B1.out)
            | ((with_reducible refine gate_dst (N := 4) rfl ?_); refine box_event ?hg (N := 4) ?hd (cs := #[.slice none 0 0, .int .i64 0, .int .i64 0, .int .i64 0, .int .i64 0, .bool false]) (t := 29) ?hr ?_; (case hd => rfl); (case hg => rfl); (case hr => first | (go_simp; done) | (go_simp; rfl)); intro g2 hg w3 hx hb; have hE02 := HF.out.ne (k := g0) (by simp) hg; have hE20 := hE02.symm; have hE12 := HF.out.ne (k := g1) (by simp) hg; have hE21 := hE12.symm; replace B0 := Zz.mk (Blk.belowW B0.out hb); replace B1 := Zz.mk (Blk.belowW B1.out hb); replace HV := Zz.mk (Fp.box (base' := 0) HV.out hg hb); replace HF := Zz.mk (HF.out.box hg hb (Blk.lt (show Blk w3 g2 29 _ from hx))); have B2 := Zz.mk (show Blk w3 g2 29 _ from hx); clear hg hx hb; clear c00 c01 c02 c03 c04 c05 d00 d01 d02 d03 d04 d05; clear c10 c11 c12 c13 c14 c15 d10 d11 d12 d13 d14 d15; obtain ⟨c00, c01, c02, c03, c04, c05, d00, d01, d02, d03, d04, d05⟩ := Blk.six B0.out; obtain ⟨c10, c11, c12, c13, c14, c15, d10, d11, d12, d13, d14, d15⟩ := Blk.six B1.out; obtain ⟨c20, c21, c22, c23, c24, c25, d20, d21, d22, d23, d24, d25⟩ := Blk.six B2.out)
            | (go_at_call 52; (with_reducible refine (X.out _ HF.out.below).mono ?_); rintro _ wc ⟨rfl, hb⟩; skip; replace B0 := Zz.mk (Blk.belowW B0.out hb); replace B1 := Zz.mk (Blk.belowW B1.out hb); replace B2 := Zz.mk (Blk.belowW B2.out hb); replace HV := Zz.mk (Fp.step (base' := 0) HV.out hb); replace HF := Zz.mk (HF.out.call hb); clear hb; skip; clear c00 c01 c02 c03 c04 c05 d00 d01 d02 d03 d04 d05; clear c10 c11 c12 c13 c14 c15 d10 d11 d12 d13 d14 d15; clear c20 c21 c22 c23 c24 c25 d20 d21 d22 d23 d24 d25; obtain ⟨c00, c01, c02, c03, c04, c05, d00, d01, d02, d03, d04, d05⟩ := Blk.six B0.out; obtain ⟨c10, c11, c12, c13, c14, c15, d10, d11, d12, d13, d14, d15⟩ := Blk.six B1.out; obtain ⟨c20, c21, c22, c23, c24, c25, d20, d21, d22, d23, d24, d25⟩ := Blk.six B2.out))
        iterate 14 go_step
        exact rst_end HF.out (by simp) HV.out ⟨rfl, rfl, rfl, rfl, HD.out⟩ B2.out rfl rfl rfl rfl
      · have e2 : decide ((20 : Int) < (s.size : Int)) = false := decide_eq_false e0'
        have e3 : decide (idx < 0) = true := decide_eq_true hs
        have e4 : decide ((8 : Int) ≤ (m : Int)) = true := decide_eq_true (by rw [← hm, List.length_map]; omega)
        clear h hm hB hd hs hl e0 e0'
        go_enter Try.func35, Try.ntmps35
        have hu29 := Try.underlying29
        have hu34 := Try.underlying34
        have hu47 := Try.underlying47
        go_upto_region 3 with (first
            | ((with_reducible refine gate_dst (N := 2) rfl ?_); refine box_event ?hg (N := 2) ?hd (cs := #[.slice A m c, .int .i64 S.no, .int .i64 S.ops, .int .i64 S.fuse, .int .i64 S.fault, .bool false]) (t := 29) ?hr ?_; (case hd => rfl); (case hg => rfl); (case hr => first | (go_simp; done) | (go_simp; rfl)); intro g0 hg w1 hx hb; replace HV := Zz.mk (Fp.box (base' := 0) HV.out hg hb); replace HF := Zz.mk (HF.out.box hg hb (Blk.lt (show Blk w1 g0 29 _ from hx))); have B0 := Zz.mk (show Blk w1 g0 29 _ from hx); clear hg hx hb; obtain ⟨c00, c01, c02, c03, c04, c05, d00, d01, d02, d03, d04, d05⟩ := Blk.six B0.out)
            | ((with_reducible refine gate_dst (N := 3) rfl ?_); refine box_event ?hg (N := 3) ?hd (cs := #[.int .i64 kd, .string s, .string t, .slice A3 n3 c3, .int .i64 n, .slice A5 n5 c5]) (t := 34) ?hr ?_; (case hd => rfl); (case hg => rfl); (case hr => first | (go_simp; done) | (go_simp; rfl)); intro g1 hg w2 hx hb; have hE01 := HF.out.ne (k := g0) (by simp) hg; have hE10 := hE01.symm; replace B0 := Zz.mk (Blk.belowW B0.out hb); replace HV := Zz.mk (Fp.box (base' := 0) HV.out hg hb); replace HF := Zz.mk (HF.out.box hg hb (Blk.lt (show Blk w2 g1 34 _ from hx))); have B1 := Zz.mk (show Blk w2 g1 34 _ from hx); clear hg hx hb; clear c00 c01 c02 c03 c04 c05 d00 d01 d02 d03 d04 d05; obtain ⟨c00, c01, c02, c03, c04, c05, d00, d01, d02, d03, d04, d05⟩ := Blk.six B0.out; obtain ⟨c10, c11, c12, c13, c14, c15, d10, d11, d12, d13, d14, d15⟩ := Blk.six B1.out)
            | ((with_reducible refine gate_dst (N := 4) rfl ?_); refine box_event ?hg (N := 4) ?hd (cs := #[.slice none 0 0, .int .i64 0, .int .i64 0, .int .i64 0, .int .i64 0, .bool false]) (t := 29) ?hr ?_; (case hd => rfl); (case hg => rfl); (case hr => first | (go_simp; done) | (go_simp; rfl)); intro g2 hg w3 hx hb; have hE02 := HF.out.ne (k := g0) (by simp) hg; have hE20 := hE02.symm; have hE12 := HF.out.ne (k := g1) (by simp) hg; have hE21 := hE12.symm; replace B0 := Zz.mk (Blk.belowW B0.out hb); replace B1 := Zz.mk (Blk.belowW B1.out hb); replace HV := Zz.mk (Fp.box (base' := 0) HV.out hg hb); replace HF := Zz.mk (HF.out.box hg hb (Blk.lt (show Blk w3 g2 29 _ from hx))); have B2 := Zz.mk (show Blk w3 g2 29 _ from hx); clear hg hx hb; clear c00 c01 c02 c03 c04 c05 d00 d01 d02 d03 d04 d05; clear c10 c11 c12 c13 c14 c15 d10 d11 d12 d13 d14 d15; obtain ⟨c00, c01, c02, c03, c04, c05, d00, d01, d02, d03, d04, d05⟩ := Blk.six B0.out; obtain ⟨c10, c11, c12, c13, c14, c15, d10, d11, d12, d13, d14, d15⟩ := Blk.six B1.out; obtain ⟨c20, c21, c22, c23, c24, c25, d20, d21, d22, d23, d24, d25⟩ := Blk.six B2.out)
            | (go_at_call 52; (with_reducible refine (X.out _ HF.out.below).mono ?_); rintro _ wc ⟨rfl, hb⟩; skip; replace B0 := Zz.mk (Blk.belowW B0.out hb); replace B1 := Zz.mk (Blk.belowW B1.out hb); replace B2 := Zz.mk (Blk.belowW B2.out hb); replace HV := Zz.mk (Fp.step (base' := 0) HV.out hb); replace HF := Zz.mk (HF.out.call hb); clear hb; skip; clear c00 c01 c02 c03 c04 c05 d00 d01 d02 d03 d04 d05; clear c10 c11 c12 c13 c14 c15 d10 d11 d12 d13 d14 d15; clear c20 c21 c22 c23 c24 c25 d20 d21 d22 d23 d24 d25; obtain ⟨c00, c01, c02, c03, c04, c05, d00, d01, d02, d03, d04, d05⟩ := Blk.six B0.out; obtain ⟨c10, c11, c12, c13, c14, c15, d10, d11, d12, d13, d14, d15⟩ := Blk.six B1.out; obtain ⟨c20, c21, c22, c23, c24, c25, d20, d21, d22, d23, d24, d25⟩ := Blk.six B2.out))
        iterate 14 go_step
        exact rst_end HF.out (by simp) HV.out ⟨rfl, rfl, rfl, rfl, HD.out⟩ B2.out rfl rfl rfl rfl
end Go.Proofs.Ytcpkoajnepijkaa

