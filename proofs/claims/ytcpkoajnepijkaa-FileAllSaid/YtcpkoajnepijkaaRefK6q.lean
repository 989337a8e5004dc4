/- Parts of the proof of the law that the last file states; declarations that nothing mentions are left out by a program. No conditions. -/
import Derived.Test.YtcpkoajnepijkaaRefK5q
import Derived.Test.YtcpkoajnepijkaaLHeldq
set_option linter.unusedVariables false
set_option linter.unusedSimpArgs false
namespace Go.Proofs.Ytcpkoajnepijkaa
open Go.RowKit Go.Proofs.YtcpkoajnepijkaaL Go.Proofs.YtcpkoajnepijkaaW.PrintWords Go.Proofs.Ytcpkoajnepijkaa.Q
set_option maxRecDepth 100000 in
set_option maxHeartbeats 1000000 in
theorem known_cut0 {w : World} {P : Nat → Prop} {A : Option Addr} {c : Nat} {S : PS} (h : Kd.V k47 47 w w.heap.size P (.slice A (S.l.map toF).length c) (S.l.map toF)) (hB : BoundP S) (hN : NumP S) (hd : S.down = false) {s t : ByteArray} {A3 A5 : Option Addr} {n3 n5 c3 c5 : Nat} {n : Int} {i : Nat} {f : PF} (hf : idxP s S.l 0 = (i : Int)) (hi : S.l[i]? = some f) (hfu : S.fuse ≠ 0) (hn : n < 0) :
    Calls Try.prog 36 #[.agg #[.slice A (S.l.map toF).length c, .int .i64 S.no, .int .i64 S.ops, .int .i64 S.fuse, .int .i64 S.fault, .bool S.down], .agg #[.int .i64 4, .string s, .string t, .slice A3 n3 c3, .int .i64 n, .slice A5 n5 c5]] w fun e w' =>
      ∃ v', e = .returned (.tuple #[v', .int .i64 0]) ∧ RSt w' (fun k => P k ∨ w.heap.size ≤ k) v' { countP S with l := withP ⟨f.name, (bytesP f).take 0, []⟩ S.l } ∧ Below w.heap.size w w' := by
  have X := Zz.mk (known_find h hB s hf rfl)
  obtain ⟨o1, ho⟩ : ∃ o1, (countP S).ops = o1 := ⟨_, rfl⟩
  obtain ⟨f1, hf1⟩ : ∃ f1, (countP S).fuse = f1 := ⟨_, rfl⟩
  have HO := Zz.mk (And.intro ho hf1)
  simp only [hd] at X
  rw [hd]
  have HD := Zz.mk hd
  have HU := Zz.mk hfu
  have HL : Zz (S.l.length ≤ 1000000) := ⟨by have := hB.1; omega⟩
  have HFB := Zz.mk (hB.2 f (List.mem_of_getElem? hi))
  generalize hm : (S.l.map toF).length = m at X h ⊢
  have Y : Zz (∀ (G : List Nat) (A : Option Addr) (c : Nat) w', Fr w w' G → Kd.V k47 47 w' 0 (Fp w P G) (.slice A m c) (S.l.map toF) → Calls Try.prog 54 #[.agg #[.slice A m c, .int .i64 S.no, .int .i64 S.ops, .int .i64 S.fuse, .int .i64 S.fault, .bool false]] w' fun e w'' => ∃ A' c', e = .returned (.agg #[.slice A' m c', .int .i64 S.no, .int .i64 o1, .int .i64 f1, .int .i64 S.fault, .bool false]) ∧
      Kd.V k47 47 w'' 0 (fun k => Fp w P G k ∨ w'.heap.size ≤ k) (.slice A' m c') (S.l.map toF) ∧ Below w'.heap.size w' w'') := ⟨fun G A c => known_count2 hN hd hfu ho hf1⟩
  have HV := Zz.mk (Fp.start (base' := 0) h)
  have HF := Zz.mk (Fr.start w)
  have HI := Zz.mk hi
  have i0 : decide ((i : Int) < 0) = false := decide_eq_false (by omega)
  obtain ⟨mq, hmq⟩ : ∃ mq, ((withP ⟨f.name, (bytesP f).take 0, []⟩ S.l).map toF).length = mq := ⟨_, rfl⟩
  have HM2 := Zz.mk hmq
  clear hmq
  obtain ⟨mb, hmb⟩ : ∃ mb, (bytesP f).length = mb := ⟨_, rfl⟩
  have HMB := Zz.mk hmb
  clear hmb
  have t1 : decide (n < 0) = true := decide_eq_true hn
  have t2 : decide ((mb : Int) < 0) = false := decide_eq_false (by omega)
  have HNB : Zz (0 ≤ mb) := ⟨Nat.zero_le _⟩
  clear hn
  clear h hf hm hB hN hd hfu ho hf1 hi
  go_enter Try.func36, Try.ntmps36
  have hu29 := Try.underlying29
  have hu34 := Try.underlying34
  have hu47 := Try.underlying47
  go_wp2_with (first
      | ((with_reducible refine gate_dst (N := 2) rfl ?_); refine box_event ?hg (N := 2) ?hd (cs := #[.slice A m c, .int .i64 S.no, .int .i64 S.ops, .int .i64 S.fuse, .int .i64 S.fault, .bool false]) (t := 29) ?hr ?_; (case hd => rfl); (case hg => rfl); (case hr => first | (go_simp; done) | (go_simp; rfl)); intro g0 hg w1 hx hb; replace HV := Zz.mk (Fp.box (base' := 0) HV.out hg hb); replace HF := Zz.mk (HF.out.box hg hb (Blk.lt (show Blk w1 g0 29 _ from hx))); have B0 := Zz.mk (show Blk w1 g0 29 _ from hx); clear hg hx hb; obtain ⟨c00, c01, c02, c03, c04, c05, d00, d01, d02, d03, d04, d05⟩ := Blk.six B0.out)
      | ((with_reducible refine gate_dst (N := 3) rfl ?_); refine box_event ?hg (N := 3) ?hd (cs := #[.int .i64 4, .string s, .string t, .slice A3 n3 c3, .int .i64 n, .slice A5 n5 c5]) (t := 34) ?hr ?_; (case hd => rfl); (case hg => rfl); (case hr => first | (go_simp; done) | (go_simp; rfl)); intro g1 hg w2 hx hb; have hE01 := HF.out.ne (k := g0) (by simp) hg; have hE10 := hE01.symm; replace B0 := Zz.mk (Blk.belowW B0.out hb); replace HV := Zz.mk (Fp.box (base' := 0) HV.out hg hb); replace HF := Zz.mk (HF.out.box hg hb (Blk.lt (show Blk w2 g1 34 _ from hx))); have B1 := Zz.mk (show Blk w2 g1 34 _ from hx); clear hg hx hb; clear c00 c01 c02 c03 c04 c05 d00 d01 d02 d03 d04 d05; obtain ⟨c00, c01, c02, c03, c04, c05, d00, d01, d02, d03, d04, d05⟩ := Blk.six B0.out; obtain ⟨c10, c11, c12, c13, c14, c15, d10, d11, d12, d13, d14, d15⟩ := Blk.six B1.out)
      | ((with_reducible refine gate_dst (N := 4) rfl ?_); refine box_event ?hg (N := 4) ?hd (cs := #[.slice none 0 0, .int .i64 0, .int .i64 0, .int .i64 0, .int .i64 0, .bool false]) (t := 29) ?hr ?_; (case hd => rfl); (case hg => rfl); (case hr => first | (go_simp; done) | (go_simp; rfl)); intro g2 hg w3 hx hb; have hE02 := HF.out.ne (k := g0) (by simp) hg; have hE20 := hE02.symm; have hE12 := HF.out.ne (k := g1) (by simp) hg; have hE21 := hE12.symm; replace B0 := Zz.mk (Blk.belowW B0.out hb); replace B1 := Zz.mk (Blk.belowW B1.out hb); replace HV := Zz.mk (Fp.box (base' := 0) HV.out hg hb); replace HF := Zz.mk (HF.out.box hg hb (Blk.lt (show Blk w3 g2 29 _ from hx))); have B2 := Zz.mk (show Blk w3 g2 29 _ from hx); clear hg hx hb; clear c00 c01 c02 c03 c04 c05 d00 d01 d02 d03 d04 d05; clear c10 c11 c12 c13 c14 c15 d10 d11 d12 d13 d14 d15; obtain ⟨c00, c01, c02, c03, c04, c05, d00, d01, d02, d03, d04, d05⟩ := Blk.six B0.out; obtain ⟨c10, c11, c12, c13, c14, c15, d10, d11, d12, d13, d14, d15⟩ := Blk.six B1.out; obtain ⟨c20, c21, c22, c23, c24, c25, d20, d21, d22, d23, d24, d25⟩ := Blk.six B2.out)
      | ((with_reducible refine gate_dst (N := 7) rfl ?_); refine box_event ?hg (N := 7) ?hd (cs := #[.string ByteArray.empty, .slice none 0 0, .slice none 0 0]) (t := 47) ?hr ?_; (case hd => rfl); (case hg => rfl); (case hr => first | (go_simp; done) | (go_simp; rfl)); intro g3 hg w4 hx hb; have hE03 := HF.out.ne (k := g0) (by simp) hg; have hE30 := hE03.symm; have hE13 := HF.out.ne (k := g1) (by simp) hg; have hE31 := hE13.symm; have hE23 := HF.out.ne (k := g2) (by simp) hg; have hE32 := hE23.symm; replace B0 := Zz.mk (Blk.belowW B0.out hb); replace B1 := Zz.mk (Blk.belowW B1.out hb); replace B2 := Zz.mk (Blk.belowW B2.out hb); replace HV := Zz.mk (Fp.box (base' := 0) HV.out hg hb); replace W1 := Zz.mk (Fp.box (base' := 0) W1.out hg hb); replace W2 := Zz.mk (Fp.box (base' := 0) W2.out hg hb); replace HF := Zz.mk (HF.out.box hg hb (Blk.lt (show Blk w4 g3 47 _ from hx))); have B3 := Zz.mk (show Blk w4 g3 47 _ from hx); clear hg hx hb; clear c00 c01 c02 c03 c04 c05 d00 d01 d02 d03 d04 d05; clear c10 c11 c12 c13 c14 c15 d10 d11 d12 d13 d14 d15; clear c20 c21 c22 c23 c24 c25 d20 d21 d22 d23 d24 d25; obtain ⟨c00, c01, c02, c03, c04, c05, d00, d01, d02, d03, d04, d05⟩ := Blk.six B0.out; obtain ⟨c10, c11, c12, c13, c14, c15, d10, d11, d12, d13, d14, d15⟩ := Blk.six B1.out; obtain ⟨c20, c21, c22, c23, c24, c25, d20, d21, d22, d23, d24, d25⟩ := Blk.six B2.out; obtain ⟨c30, c31, c32, d30, d31, d32⟩ := Blk.three B3.out)
      | (go_at_call 52; (with_reducible refine (X.out _ HF.out.below).mono ?_); rintro _ wc ⟨rfl, hb⟩; skip; replace B0 := Zz.mk (Blk.belowW B0.out hb); replace B1 := Zz.mk (Blk.belowW B1.out hb); replace B2 := Zz.mk (Blk.belowW B2.out hb); replace HV := Zz.mk (Fp.step (base' := 0) HV.out hb); replace HF := Zz.mk (HF.out.call hb); clear hb; skip; clear c00 c01 c02 c03 c04 c05 d00 d01 d02 d03 d04 d05; clear c10 c11 c12 c13 c14 c15 d10 d11 d12 d13 d14 d15; clear c20 c21 c22 c23 c24 c25 d20 d21 d22 d23 d24 d25; obtain ⟨c00, c01, c02, c03, c04, c05, d00, d01, d02, d03, d04, d05⟩ := Blk.six B0.out; obtain ⟨c10, c11, c12, c13, c14, c15, d10, d11, d12, d13, d14, d15⟩ := Blk.six B1.out; obtain ⟨c20, c21, c22, c23, c24, c25, d20, d21, d22, d23, d24, d25⟩ := Blk.six B2.out)
      | (go_at_call 54; (with_reducible refine (Y.out _ _ _ _ HF.out HV.out).mono ?_); rintro _ wc ⟨A', c', rfl, hv, hb⟩; have N0 := Zz.mk (Fp.told (base' := 0) hv HF.out); clear hv HV; replace B0 := Zz.mk (Blk.belowW B0.out hb); replace B1 := Zz.mk (Blk.belowW B1.out hb); replace B2 := Zz.mk (Blk.belowW B2.out hb); replace HF := Zz.mk (HF.out.call hb); clear hb; have HV := N0; clear N0; clear c00 c01 c02 c03 c04 c05 d00 d01 d02 d03 d04 d05; clear c10 c11 c12 c13 c14 c15 d10 d11 d12 d13 d14 d15; clear c20 c21 c22 c23 c24 c25 d20 d21 d22 d23 d24 d25; obtain ⟨c00, c01, c02, c03, c04, c05, d00, d01, d02, d03, d04, d05⟩ := Blk.six B0.out; obtain ⟨c10, c11, c12, c13, c14, c15, d10, d11, d12, d13, d14, d15⟩ := Blk.six B1.out; obtain ⟨c20, c21, c22, c23, c24, c25, d20, d21, d22, d23, d24, d25⟩ := Blk.six B2.out)
      | ((with_reducible refine gate_store (t := 47) (p := 7) rfl ?_); refine store_event rfl rfl (g := g3) (cells := #[.string f.name, .slice a1 m1 k1, .slice a2 m2 k2]) (by first | rfl | (go_simp; done) | (go_simp; rfl)) (by first | rfl | (go_simp; done) | (go_simp; rfl)) B3.out info47 rfl (by simp [Value.oneCell']) ?_; intro ws hx hk hz hb; replace B3 := Zz.mk (hx); replace B0 := Zz.mk (show Blk ws g0 29 _ from blk_kept B0.out hk hE03); replace B1 := Zz.mk (show Blk ws g1 34 _ from blk_kept B1.out hk hE13); replace B2 := Zz.mk (show Blk ws g2 29 _ from blk_kept B2.out hk hE23); replace HV := Zz.mk (Fp.store (base' := 0) HV.out hk (by simp)); replace W1 := Zz.mk (Fp.store (base' := 0) W1.out hk (by simp)); replace W2 := Zz.mk (Fp.store (base' := 0) W2.out hk (by simp)); replace HF := Zz.mk (HF.out.store hz hb (by simp)); clear hx hk hz hb; clear y0 y1 y2 hi hi0; clear c00 c01 c02 c03 c04 c05 d00 d01 d02 d03 d04 d05; clear c10 c11 c12 c13 c14 c15 d10 d11 d12 d13 d14 d15; clear c20 c21 c22 c23 c24 c25 d20 d21 d22 d23 d24 d25; clear c30 c31 c32 d30 d31 d32; obtain ⟨c00, c01, c02, c03, c04, c05, d00, d01, d02, d03, d04, d05⟩ := Blk.six B0.out; obtain ⟨c10, c11, c12, c13, c14, c15, d10, d11, d12, d13, d14, d15⟩ := Blk.six B1.out; obtain ⟨c20, c21, c22, c23, c24, c25, d20, d21, d22, d23, d24, d25⟩ := Blk.six B2.out; obtain ⟨c30, c31, c32, d30, d31, d32⟩ := Blk.three B3.out)
      | ((with_reducible refine gate_store (t := 29) (p := 2) rfl ?_); refine store_event rfl rfl (g := g0) (cells := #[.slice A' m c', .int .i64 S.no, .int .i64 o1, .int .i64 f1, .int .i64 S.fault, .bool false]) (by first | rfl | (go_simp; done) | (go_simp; rfl)) (by first | rfl | (go_simp; done) | (go_simp; rfl)) B0.out info29 rfl (by simp [Value.oneCell']) ?_; intro ws hx hk hz hb; replace B0 := Zz.mk (hx); replace B1 := Zz.mk (show Blk ws g1 34 _ from blk_kept B1.out hk hE10); replace B2 := Zz.mk (show Blk ws g2 29 _ from blk_kept B2.out hk hE20); replace HV := Zz.mk (Fp.store (base' := 0) HV.out hk (by simp)); replace HF := Zz.mk (HF.out.store hz hb (by simp)); clear hx hk hz hb; obtain ⟨ad, a1, m1, k1, a2, m2, k2, hA, y0, y1, y2, v1, v2, hi⟩ := file_V HV.out HI.out; subst hA; have W1 := Zz.mk v1; have W2 := Zz.mk v2; clear v1 v2; have hi0 : (0 : Int) ≤ (i : Int) := Int.natCast_nonneg i; clear c00 c01 c02 c03 c04 c05 d00 d01 d02 d03 d04 d05; clear c10 c11 c12 c13 c14 c15 d10 d11 d12 d13 d14 d15; clear c20 c21 c22 c23 c24 c25 d20 d21 d22 d23 d24 d25; obtain ⟨c00, c01, c02, c03, c04, c05, d00, d01, d02, d03, d04, d05⟩ := Blk.six B0.out; obtain ⟨c10, c11, c12, c13, c14, c15, d10, d11, d12, d13, d14, d15⟩ := Blk.six B1.out; obtain ⟨c20, c21, c22, c23, c24, c25, d20, d21, d22, d23, d24, d25⟩ := Blk.six B2.out)
      | (go_at_call 53; (with_reducible refine (ref_bytes W1.out W2.out HFB.out.1 HFB.out.2 HMB.out).mono ?_); rintro _ wc ⟨Ab, cb, rfl, hv, hb⟩; have U1 := Zz.mk (Fp.told (P := P) (base' := 0) (Kd.V_mono hv (fun k hk => Or.inr hk)) HF.out); clear hv; replace B0 := Zz.mk (Blk.belowW B0.out hb); replace B1 := Zz.mk (Blk.belowW B1.out hb); replace B2 := Zz.mk (Blk.belowW B2.out hb); replace B3 := Zz.mk (Blk.belowW B3.out hb); replace HV := Zz.mk (Fp.step (base' := 0) HV.out hb); replace W1 := Zz.mk (Fp.step (base' := 0) W1.out hb); replace W2 := Zz.mk (Fp.step (base' := 0) W2.out hb); replace HF := Zz.mk (HF.out.call hb); clear hb; skip; clear c00 c01 c02 c03 c04 c05 d00 d01 d02 d03 d04 d05; clear c10 c11 c12 c13 c14 c15 d10 d11 d12 d13 d14 d15; clear c20 c21 c22 c23 c24 c25 d20 d21 d22 d23 d24 d25; clear c30 c31 c32 d30 d31 d32; obtain ⟨c00, c01, c02, c03, c04, c05, d00, d01, d02, d03, d04, d05⟩ := Blk.six B0.out; obtain ⟨c10, c11, c12, c13, c14, c15, d10, d11, d12, d13, d14, d15⟩ := Blk.six B1.out; obtain ⟨c20, c21, c22, c23, c24, c25, d20, d21, d22, d23, d24, d25⟩ := Blk.six B2.out; obtain ⟨c30, c31, c32, d30, d31, d32⟩ := Blk.three B3.out))
  have hroom : ((0 : Int) : Int) ≤ (cb : Int) := by have h1 := V_room U1.out; have h2 := HNB.out; omega
  have n_ := Zz.mk (V_cut (base' := 0) (N := 0) U1.out HNB.out)
  clear U1
  have U1 := n_
  clear n_
  rename_i KK hKK
  refine regionK (fun w' : World => w'.cell? ⟨g3, 0, none⟩ = some (.string f.name) ∧ w'.cell? ⟨g3, 1, none⟩ = some (.slice a1 m1 k1) ∧ w'.cell? ⟨g3, 2, none⟩ = some (.slice a2 m2 k2) ∧ w'.cell? ⟨g0, 0, none⟩ = some (.slice (some ad) m c') ∧ w'.cell? ⟨g0, 1, none⟩ = some (.int .i64 S.no) ∧ w'.cell? ⟨g0, 2, none⟩ = some (.int .i64 o1) ∧ w'.cell? ⟨g0, 3, none⟩ = some (.int .i64 f1) ∧ w'.cell? ⟨g0, 4, none⟩ = some (.int .i64 S.fault) ∧ w'.cell? ⟨g0, 5, none⟩ = some (.bool false)) 8 (by kernel_rfl) (fun wd hb => ?_)
  replace B0 := Zz.mk (Blk.belowW B0.out hb)
  replace B1 := Zz.mk (Blk.belowW B1.out hb)
  replace B2 := Zz.mk (Blk.belowW B2.out hb)
  replace B3 := Zz.mk (Blk.belowW B3.out hb)
  replace HV := Zz.mk (Fp.step (base' := 0) HV.out hb)
  replace W1 := Zz.mk (Fp.step (base' := 0) W1.out hb)
  replace W2 := Zz.mk (Fp.step (base' := 0) W2.out hb)
  replace U1 := Zz.mk (Fp.step (base' := 0) U1.out hb)
  replace HF := Zz.mk (HF.out.call hb)
  clear hb
  clear c00 c01 c02 c03 c04 c05 d00 d01 d02 d03 d04 d05
  clear c10 c11 c12 c13 c14 c15 d10 d11 d12 d13 d14 d15
  clear c20 c21 c22 c23 c24 c25 d20 d21 d22 d23 d24 d25
  clear c30 c31 c32 d30 d31 d32
  obtain ⟨c00, c01, c02, c03, c04, c05, d00, d01, d02, d03, d04, d05⟩ := Blk.six B0.out
  obtain ⟨c10, c11, c12, c13, c14, c15, d10, d11, d12, d13, d14, d15⟩ := Blk.six B1.out
  obtain ⟨c20, c21, c22, c23, c24, c25, d20, d21, d22, d23, d24, d25⟩ := Blk.six B2.out
  obtain ⟨c30, c31, c32, d30, d31, d32⟩ := Blk.three B3.out
  have hHeld : (fun w' : World => w'.cell? ⟨g3, 0, none⟩ = some (.string f.name) ∧ w'.cell? ⟨g3, 1, none⟩ = some (.slice a1 m1 k1) ∧ w'.cell? ⟨g3, 2, none⟩ = some (.slice a2 m2 k2) ∧ w'.cell? ⟨g0, 0, none⟩ = some (.slice (some ad) m c') ∧ w'.cell? ⟨g0, 1, none⟩ = some (.int .i64 S.no) ∧ w'.cell? ⟨g0, 2, none⟩ = some (.int .i64 o1) ∧ w'.cell? ⟨g0, 3, none⟩ = some (.int .i64 f1) ∧ w'.cell? ⟨g0, 4, none⟩ = some (.int .i64 S.fault) ∧ w'.cell? ⟨g0, 5, none⟩ = some (.bool false)) wd := ⟨c30, c31, c32, c00, c01, c02, c03, c04, c05⟩
  refine wpAnyK_take (i := 0) (v := ?v6) rfl (by kernel_rfl) (by kernel_rfl) (by kernel_rfl) (by kernel_rfl) (fun _ _ _ h => h) (Or.inl ⟨by rfl, ?hy6⟩) (by assumption) ?rest6
  case hy6 => (intro w hSw; (try dsimp only at hSw); go_simp; try (with_reducible rfl))
  case rest6 =>
  try simp only [Act.put, List.setIfInBounds_toArray, List.set_cons_zero, List.set_cons_succ]
  refine wpAnyK_take (i := 1) (v := ?v7) rfl (by kernel_rfl) (by kernel_rfl) (by kernel_rfl) (by kernel_rfl) (fun _ _ _ h => h) (Or.inl ⟨by rfl, ?hy7⟩) (by assumption) ?rest7
  case hy7 => (intro w hSw; (try dsimp only at hSw); go_simp; try (with_reducible rfl))
  case rest7 =>
  try simp only [Act.put, List.setIfInBounds_toArray, List.set_cons_zero, List.set_cons_succ]
  refine wpAnyK_take (i := 2) (v := ?v8) rfl (by kernel_rfl) (by kernel_rfl) (by kernel_rfl) (by kernel_rfl) (fun _ _ _ h => h) (Or.inl ⟨by rfl, ?hy8⟩) (by assumption) ?rest8
  case hy8 => (intro w hSw; (try dsimp only at hSw); go_simp; try (with_reducible rfl))
  case rest8 =>
  try simp only [Act.put, List.setIfInBounds_toArray, List.set_cons_zero, List.set_cons_succ]
  refine wpAnyK_take (i := 3) (v := ?v9) rfl (by kernel_rfl) (by kernel_rfl) (by kernel_rfl) (by kernel_rfl) (fun _ _ _ h => h) (Or.inl ⟨by rfl, ?hy9⟩) (by assumption) ?rest9
  case hy9 => (intro w hSw; (try dsimp only at hSw); go_simp; try (with_reducible rfl))
  case rest9 =>
  try simp only [Act.put, List.setIfInBounds_toArray, List.set_cons_zero, List.set_cons_succ]
  refine wpAnyK_take (i := 4) (v := ?v10) rfl (by kernel_rfl) (by kernel_rfl) (by kernel_rfl) (by kernel_rfl) (fun _ _ _ h => h) (Or.inl ⟨by rfl, ?hy10⟩) (by assumption) ?rest10
  case hy10 => (intro w hSw; (try dsimp only at hSw); go_simp; try (with_reducible rfl))
  case rest10 =>
  try simp only [Act.put, List.setIfInBounds_toArray, List.set_cons_zero, List.set_cons_succ]
  refine wpAnyK_take (i := 5) (v := ?v11) rfl (by kernel_rfl) (by kernel_rfl) (by kernel_rfl) (by kernel_rfl) (fun _ _ _ h => h) (Or.inl ⟨by rfl, ?hy11⟩) (by assumption) ?rest11
  case hy11 => (intro w hSw; (try dsimp only at hSw); go_simp; try (with_reducible rfl))
  case rest11 =>
  try simp only [Act.put, List.setIfInBounds_toArray, List.set_cons_zero, List.set_cons_succ]
  refine wpAnyK_take (i := 6) (v := ?v12) rfl (by kernel_rfl) (by kernel_rfl) (by kernel_rfl) (by kernel_rfl) (fun _ _ _ h => h) (Or.inl ⟨by rfl, ?hy12⟩) (by assumption) ?rest12
  case hy12 => (intro w hSw; (try dsimp only at hSw); go_simp; try (with_reducible rfl))
  case rest12 =>
  try simp only [Act.put, List.setIfInBounds_toArray, List.set_cons_zero, List.set_cons_succ]
  refine wpAnyK_ready (rs := [7]) (by kernel_rfl) (by simp) ?_
  refine AllReadyK.cons rfl (fun K hK => ?_) AllReadyK.nil
  go_simp
  go_at_call 55
  with_reducible refine (ref_with0 HV.out U1.out HL.out HM2.out _ _ _ _ _).mono ?_
  rintro _ wc ⟨Aw, cw, rfl, hv, hb⟩
  have N0 := Zz.mk (Fp.told (base' := 0) hv HF.out)
  clear hv HV
  replace B0 := Zz.mk (Blk.belowW B0.out hb)
  replace B1 := Zz.mk (Blk.belowW B1.out hb)
  replace B2 := Zz.mk (Blk.belowW B2.out hb)
  replace B3 := Zz.mk (Blk.belowW B3.out hb)
  replace W1 := Zz.mk (Fp.step (base' := 0) W1.out hb)
  replace W2 := Zz.mk (Fp.step (base' := 0) W2.out hb)
  replace U1 := Zz.mk (Fp.step (base' := 0) U1.out hb)
  replace HF := Zz.mk (HF.out.call hb)
  clear hb
  have HV := N0
  clear N0
  clear c00 c01 c02 c03 c04 c05 d00 d01 d02 d03 d04 d05
  clear c10 c11 c12 c13 c14 c15 d10 d11 d12 d13 d14 d15
  clear c20 c21 c22 c23 c24 c25 d20 d21 d22 d23 d24 d25
  clear c30 c31 c32 d30 d31 d32
  obtain ⟨c00, c01, c02, c03, c04, c05, d00, d01, d02, d03, d04, d05⟩ := Blk.six B0.out
  obtain ⟨c10, c11, c12, c13, c14, c15, d10, d11, d12, d13, d14, d15⟩ := Blk.six B1.out
  obtain ⟨c20, c21, c22, c23, c24, c25, d20, d21, d22, d23, d24, d25⟩ := Blk.six B2.out
  obtain ⟨c30, c31, c32, d30, d31, d32⟩ := Blk.three B3.out
  go_simp
  clear hHeld
  have hHeld : (fun w' : World => w'.cell? ⟨g3, 0, none⟩ = some (.string f.name) ∧ w'.cell? ⟨g3, 1, none⟩ = some (.slice a1 m1 k1) ∧ w'.cell? ⟨g3, 2, none⟩ = some (.slice a2 m2 k2) ∧ w'.cell? ⟨g0, 0, none⟩ = some (.slice (some ad) m c') ∧ w'.cell? ⟨g0, 1, none⟩ = some (.int .i64 S.no) ∧ w'.cell? ⟨g0, 2, none⟩ = some (.int .i64 o1) ∧ w'.cell? ⟨g0, 3, none⟩ = some (.int .i64 f1) ∧ w'.cell? ⟨g0, 4, none⟩ = some (.int .i64 S.fault) ∧ w'.cell? ⟨g0, 5, none⟩ = some (.bool false)) wc := ⟨c30, c31, c32, c00, c01, c02, c03, c04, c05⟩
  refine hK.out _ _ (.inr hHeld) ?_
  clear hK K
  try simp only [Act.put, List.setIfInBounds_toArray, List.set_cons_zero, List.set_cons_succ]
  refine wpAnyK_ready (rs := [8]) (by kernel_rfl) (by simp) ?_
  refine AllReadyK.cons rfl (fun K hK => ?_) AllReadyK.nil
  rw [if_pos (by first | rfl | (go_simp; done) | (go_simp; rfl))]
  refine store_step (ops := #[]) rfl rfl (g := g0) (cells := #[.slice Aw mq cw, .int .i64 S.no, .int .i64 o1, .int .i64 f1, .int .i64 S.fault, .bool false]) (by first | rfl | (go_simp; done) | (go_simp; rfl)) (by first | rfl | (go_simp; done) | (go_simp; rfl)) B0.out info29 rfl (by simp [Value.oneCell']) ?_
  intro ws hx hk hz hb
  replace B0 := Zz.mk (hx)
  replace B1 := Zz.mk (show Blk ws g1 34 _ from blk_kept B1.out hk hE10)
  replace B2 := Zz.mk (show Blk ws g2 29 _ from blk_kept B2.out hk hE20)
  replace B3 := Zz.mk (show Blk ws g3 47 _ from blk_kept B3.out hk hE30)
  replace HV := Zz.mk (Fp.store (base' := 0) HV.out hk (by simp))
  replace W1 := Zz.mk (Fp.store (base' := 0) W1.out hk (by simp))
  replace W2 := Zz.mk (Fp.store (base' := 0) W2.out hk (by simp))
  replace HF := Zz.mk (HF.out.store hz hb (by simp))
  clear hx hk hz hb hHeld
  clear c00 c01 c02 c03 c04 c05 d00 d01 d02 d03 d04 d05
  clear c10 c11 c12 c13 c14 c15 d10 d11 d12 d13 d14 d15
  clear c20 c21 c22 c23 c24 c25 d20 d21 d22 d23 d24 d25
  clear c30 c31 c32 d30 d31 d32
  obtain ⟨c00, c01, c02, c03, c04, c05, d00, d01, d02, d03, d04, d05⟩ := Blk.six B0.out
  obtain ⟨c10, c11, c12, c13, c14, c15, d10, d11, d12, d13, d14, d15⟩ := Blk.six B1.out
  obtain ⟨c20, c21, c22, c23, c24, c25, d20, d21, d22, d23, d24, d25⟩ := Blk.six B2.out
  obtain ⟨c30, c31, c32, d30, d31, d32⟩ := Blk.three B3.out
  refine hK.out _ _ (.inl (by kernel_rfl)) ?_
  clear hK K
  try simp only [Act.put, List.setIfInBounds_toArray, List.set_cons_zero, List.set_cons_succ]
  refine wpAnyK_done (by kernel_rfl) ?_ _
  refine hKK _ _ ?_
  iterate 15 go_step
  exact known_ok_end HF.out (by simp) HV.out HO.out.1 HO.out.2 HD.out HU.out B2.out rfl rfl rfl rfl
set_option maxRecDepth 100000 in
set_option maxHeartbeats 1000000 in
theorem known_cut1 {w : World} {P : Nat → Prop} {A : Option Addr} {c : Nat} {S : PS} (h : Kd.V k47 47 w w.heap.size P (.slice A (S.l.map toF).length c) (S.l.map toF)) (hB : BoundP S) (hN : NumP S) (hd : S.down = false) {s t : ByteArray} {A3 A5 : Option Addr} {n3 n5 c3 c5 : Nat} {n : Int} {i : Nat} {f : PF} (hf : idxP s S.l 0 = (i : Int)) (hi : S.l[i]? = some f) (hfu : S.fuse ≠ 0) {mb : Nat} (hmb : (bytesP f).length = mb) (hn : (mb : Int) < n) :
    Calls Try.prog 36 #[.agg #[.slice A (S.l.map toF).length c, .int .i64 S.no, .int .i64 S.ops, .int .i64 S.fuse, .int .i64 S.fault, .bool S.down], .agg #[.int .i64 4, .string s, .string t, .slice A3 n3 c3, .int .i64 n, .slice A5 n5 c5]] w fun e w' =>
      ∃ v', e = .returned (.tuple #[v', .int .i64 0]) ∧ RSt w' (fun k => P k ∨ w.heap.size ≤ k) v' { countP S with l := withP ⟨f.name, (bytesP f).take mb, []⟩ S.l } ∧ Below w.heap.size w w' := by
  have X := Zz.mk (known_find h hB s hf rfl)
  obtain ⟨o1, ho⟩ : ∃ o1, (countP S).ops = o1 := ⟨_, rfl⟩
  obtain ⟨f1, hf1⟩ : ∃ f1, (countP S).fuse = f1 := ⟨_, rfl⟩
  have HO := Zz.mk (And.intro ho hf1)
  simp only [hd] at X
  rw [hd]
  have HD := Zz.mk hd
  have HU := Zz.mk hfu
  have HL : Zz (S.l.length ≤ 1000000) := ⟨by have := hB.1; omega⟩
  have HFB := Zz.mk (hB.2 f (List.mem_of_getElem? hi))
  generalize hm : (S.l.map toF).length = m at X h ⊢
  have Y : Zz (∀ (G : List Nat) (A : Option Addr) (c : Nat) w', Fr w w' G → Kd.V k47 47 w' 0 (Fp w P G) (.slice A m c) (S.l.map toF) → Calls Try.prog 54 #[.agg #[.slice A m c, .int .i64 S.no, .int .i64 S.ops, .int .i64 S.fuse, .int .i64 S.fault, .bool false]] w' fun e w'' => ∃ A' c', e = .returned (.agg #[.slice A' m c', .int .i64 S.no, .int .i64 o1, .int .i64 f1, .int .i64 S.fault, .bool false]) ∧
      Kd.V k47 47 w'' 0 (fun k => Fp w P G k ∨ w'.heap.size ≤ k) (.slice A' m c') (S.l.map toF) ∧ Below w'.heap.size w' w'') := ⟨fun G A c => known_count2 hN hd hfu ho hf1⟩
  have HV := Zz.mk (Fp.start (base' := 0) h)
  have HF := Zz.mk (Fr.start w)
  have HI := Zz.mk hi
  have i0 : decide ((i : Int) < 0) = false := decide_eq_false (by omega)
  obtain ⟨mq, hmq⟩ : ∃ mq, ((withP ⟨f.name, (bytesP f).take mb, []⟩ S.l).map toF).length = mq := ⟨_, rfl⟩
  have HM2 := Zz.mk hmq
  clear hmq
  have HMB := Zz.mk hmb
  have t1 : decide (n < 0) = false := decide_eq_false (by omega)
  have t2 : decide ((mb : Int) < n) = true := decide_eq_true hn
  have HNB : Zz (mb ≤ mb) := ⟨Nat.le_refl _⟩
  clear hn hmb
  clear h hf hm hB hN hd hfu ho hf1 hi
  go_enter Try.func36, Try.ntmps36
  have hu29 := Try.underlying29
  have hu34 := Try.underlying34
  have hu47 := Try.underlying47
  go_wp2_with (first
      | ((with_reducible refine gate_dst (N := 2) rfl ?_); refine box_event ?hg (N := 2) ?hd (cs := #[.slice A m c, .int .i64 S.no, .int .i64 S.ops, .int .i64 S.fuse, .int .i64 S.fault, .bool false]) (t := 29) ?hr ?_; (case hd => rfl); (case hg => rfl); (case hr => first | (go_simp; done) | (go_simp; rfl)); intro g0 hg w1 hx hb; replace HV := Zz.mk (Fp.box (base' := 0) HV.out hg hb); replace HF := Zz.mk (HF.out.box hg hb (Blk.lt (show Blk w1 g0 29 _ from hx))); have B0 := Zz.mk (show Blk w1 g0 29 _ from hx); clear hg hx hb; obtain ⟨c00, c01, c02, c03, c04, c05, d00, d01, d02, d03, d04, d05⟩ := Blk.six B0.out)
      | ((with_reducible refine gate_dst (N := 3) rfl ?_); refine box_event ?hg (N := 3) ?hd (cs := #[.int .i64 4, .string s, .string t, .slice A3 n3 c3, .int .i64 n, .slice A5 n5 c5]) (t := 34) ?hr ?_; (case hd => rfl); (case hg => rfl); (case hr => first | (go_simp; done) | (go_simp; rfl)); intro g1 hg w2 hx hb; have hE01 := HF.out.ne (k := g0) (by simp) hg; have hE10 := hE01.symm; replace B0 := Zz.mk (Blk.belowW B0.out hb); replace HV := Zz.mk (Fp.box (base' := 0) HV.out hg hb); replace HF := Zz.mk (HF.out.box hg hb (Blk.lt (show Blk w2 g1 34 _ from hx))); have B1 := Zz.mk (show Blk w2 g1 34 _ from hx); clear hg hx hb; clear c00 c01 c02 c03 c04 c05 d00 d01 d02 d03 d04 d05; obtain ⟨c00, c01, c02, c03, c04, c05, d00, d01, d02, d03, d04, d05⟩ := Blk.six B0.out; obtain ⟨c10, c11, c12, c13, c14, c15, d10, d11, d12, d13, d14, d15⟩ := Blk.six B1.out)
      | ((with_reducible refine gate_dst (N := 4) rfl ?_); refine box_event ?hg (N := 4) ?hd (cs := #[.slice none 0 0, .int .i64 0, .int .i64 0, .int .i64 0, .int .i64 0, .bool false]) (t := 29) ?hr ?_; (case hd => rfl); (case hg => rfl); (case hr => first | (go_simp; done) | (go_simp; rfl)); intro g2 hg w3 hx hb; have hE02 := HF.out.ne (k := g0) (by simp) hg; have hE20 := hE02.symm; have hE12 := HF.out.ne (k := g1) (by simp) hg; have hE21 := hE12.symm; replace B0 := Zz.mk (Blk.belowW B0.out hb); replace B1 := Zz.mk (Blk.belowW B1.out hb); replace HV := Zz.mk (Fp.box (base' := 0) HV.out hg hb); replace HF := Zz.mk (HF.out.box hg hb (Blk.lt (show Blk w3 g2 29 _ from hx))); have B2 := Zz.mk (show Blk w3 g2 29 _ from hx); clear hg hx hb; clear c00 c01 c02 c03 c04 c05 d00 d01 d02 d03 d04 d05; clear c10 c11 c12 c13 c14 c15 d10 d11 d12 d13 d14 d15; obtain ⟨c00, c01, c02, c03, c04, c05, d00, d01, d02, d03, d04, d05⟩ := Blk.six B0.out; obtain ⟨c10, c11, c12, c13, c14, c15, d10, d11, d12, d13, d14, d15⟩ := Blk.six B1.out; obtain ⟨c20, c21, c22, c23, c24, c25, d20, d21, d22, d23, d24, d25⟩ := Blk.six B2.out)
      | ((with_reducible refine gate_dst (N := 7) rfl ?_); refine box_event ?hg (N := 7) ?hd (cs := #[.string ByteArray.empty, .slice none 0 0, .slice none 0 0]) (t := 47) ?hr ?_; (case hd => rfl); (case hg => rfl); (case hr => first | (go_simp; done) | (go_simp; rfl)); intro g3 hg w4 hx hb; have hE03 := HF.out.ne (k := g0) (by simp) hg; have hE30 := hE03.symm; have hE13 := HF.out.ne (k := g1) (by simp) hg; have hE31 := hE13.symm; have hE23 := HF.out.ne (k := g2) (by simp) hg; have hE32 := hE23.symm; replace B0 := Zz.mk (Blk.belowW B0.out hb); replace B1 := Zz.mk (Blk.belowW B1.out hb); replace B2 := Zz.mk (Blk.belowW B2.out hb); replace HV := Zz.mk (Fp.box (base' := 0) HV.out hg hb); replace W1 := Zz.mk (Fp.box (base' := 0) W1.out hg hb); replace W2 := Zz.mk (Fp.box (base' := 0) W2.out hg hb); replace HF := Zz.mk (HF.out.box hg hb (Blk.lt (show Blk w4 g3 47 _ from hx))); have B3 := Zz.mk (show Blk w4 g3 47 _ from hx); clear hg hx hb; clear c00 c01 c02 c03 c04 c05 d00 d01 d02 d03 d04 d05; clear c10 c11 c12 c13 c14 c15 d10 d11 d12 d13 d14 d15; clear c20 c21 c22 c23 c24 c25 d20 d21 d22 d23 d24 d25; obtain ⟨c00, c01, c02, c03, c04, c05, d00, d01, d02, d03, d04, d05⟩ := Blk.six B0.out; obtain ⟨c10, c11, c12, c13, c14, c15, d10, d11, d12, d13, d14, d15⟩ := Blk.six B1.out; obtain ⟨c20, c21, c22, c23, c24, c25, d20, d21, d22, d23, d24, d25⟩ := Blk.six B2.out; obtain ⟨c30, c31, c32, d30, d31, d32⟩ := Blk.three B3.out)
      | (go_at_call 52; (with_reducible refine (X.out _ HF.out.below).mono ?_); rintro _ wc ⟨rfl, hb⟩; skip; replace B0 := Zz.mk (Blk.belowW B0.out hb); replace B1 := Zz.mk (Blk.belowW B1.out hb); replace B2 := Zz.mk (Blk.belowW B2.out hb); replace HV := Zz.mk (Fp.step (base' := 0) HV.out hb); replace HF := Zz.mk (HF.out.call hb); clear hb; skip; clear c00 c01 c02 c03 c04 c05 d00 d01 d02 d03 d04 d05; clear c10 c11 c12 c13 c14 c15 d10 d11 d12 d13 d14 d15; clear c20 c21 c22 c23 c24 c25 d20 d21 d22 d23 d24 d25; obtain ⟨c00, c01, c02, c03, c04, c05, d00, d01, d02, d03, d04, d05⟩ := Blk.six B0.out; obtain ⟨c10, c11, c12, c13, c14, c15, d10, d11, d12, d13, d14, d15⟩ := Blk.six B1.out; obtain ⟨c20, c21, c22, c23, c24, c25, d20, d21, d22, d23, d24, d25⟩ := Blk.six B2.out)
      | (go_at_call 54; (with_reducible refine (Y.out _ _ _ _ HF.out HV.out).mono ?_); rintro _ wc ⟨A', c', rfl, hv, hb⟩; have N0 := Zz.mk (Fp.told (base' := 0) hv HF.out); clear hv HV; replace B0 := Zz.mk (Blk.belowW B0.out hb); replace B1 := Zz.mk (Blk.belowW B1.out hb); replace B2 := Zz.mk (Blk.belowW B2.out hb); replace HF := Zz.mk (HF.out.call hb); clear hb; have HV := N0; clear N0; clear c00 c01 c02 c03 c04 c05 d00 d01 d02 d03 d04 d05; clear c10 c11 c12 c13 c14 c15 d10 d11 d12 d13 d14 d15; clear c20 c21 c22 c23 c24 c25 d20 d21 d22 d23 d24 d25; obtain ⟨c00, c01, c02, c03, c04, c05, d00, d01, d02, d03, d04, d05⟩ := Blk.six B0.out; obtain ⟨c10, c11, c12, c13, c14, c15, d10, d11, d12, d13, d14, d15⟩ := Blk.six B1.out; obtain ⟨c20, c21, c22, c23, c24, c25, d20, d21, d22, d23, d24, d25⟩ := Blk.six B2.out)
      | ((with_reducible refine gate_store (t := 47) (p := 7) rfl ?_); refine store_event rfl rfl (g := g3) (cells := #[.string f.name, .slice a1 m1 k1, .slice a2 m2 k2]) (by first | rfl | (go_simp; done) | (go_simp; rfl)) (by first | rfl | (go_simp; done) | (go_simp; rfl)) B3.out info47 rfl (by simp [Value.oneCell']) ?_; intro ws hx hk hz hb; replace B3 := Zz.mk (hx); replace B0 := Zz.mk (show Blk ws g0 29 _ from blk_kept B0.out hk hE03); replace B1 := Zz.mk (show Blk ws g1 34 _ from blk_kept B1.out hk hE13); replace B2 := Zz.mk (show Blk ws g2 29 _ from blk_kept B2.out hk hE23); replace HV := Zz.mk (Fp.store (base' := 0) HV.out hk (by simp)); replace W1 := Zz.mk (Fp.store (base' := 0) W1.out hk (by simp)); replace W2 := Zz.mk (Fp.store (base' := 0) W2.out hk (by simp)); replace HF := Zz.mk (HF.out.store hz hb (by simp)); clear hx hk hz hb; clear y0 y1 y2 hi hi0; clear c00 c01 c02 c03 c04 c05 d00 d01 d02 d03 d04 d05; clear c10 c11 c12 c13 c14 c15 d10 d11 d12 d13 d14 d15; clear c20 c21 c22 c23 c24 c25 d20 d21 d22 d23 d24 d25; clear c30 c31 c32 d30 d31 d32; obtain ⟨c00, c01, c02, c03, c04, c05, d00, d01, d02, d03, d04, d05⟩ := Blk.six B0.out; obtain ⟨c10, c11, c12, c13, c14, c15, d10, d11, d12, d13, d14, d15⟩ := Blk.six B1.out; obtain ⟨c20, c21, c22, c23, c24, c25, d20, d21, d22, d23, d24, d25⟩ := Blk.six B2.out; obtain ⟨c30, c31, c32, d30, d31, d32⟩ := Blk.three B3.out)
      | ((with_reducible refine gate_store (t := 29) (p := 2) rfl ?_); refine store_event rfl rfl (g := g0) (cells := #[.slice A' m c', .int .i64 S.no, .int .i64 o1, .int .i64 f1, .int .i64 S.fault, .bool false]) (by first | rfl | (go_simp; done) | (go_simp; rfl)) (by first | rfl | (go_simp; done) | (go_simp; rfl)) B0.out info29 rfl (by simp [Value.oneCell']) ?_; intro ws hx hk hz hb; replace B0 := Zz.mk (hx); replace B1 := Zz.mk (show Blk ws g1 34 _ from blk_kept B1.out hk hE10); replace B2 := Zz.mk (show Blk ws g2 29 _ from blk_kept B2.out hk hE20); replace HV := Zz.mk (Fp.store (base' := 0) HV.out hk (by simp)); replace HF := Zz.mk (HF.out.store hz hb (by simp)); clear hx hk hz hb; obtain ⟨ad, a1, m1, k1, a2, m2, k2, hA, y0, y1, y2, v1, v2, hi⟩ := file_V HV.out HI.out; subst hA; have W1 := Zz.mk v1; have W2 := Zz.mk v2; clear v1 v2; have hi0 : (0 : Int) ≤ (i : Int) := Int.natCast_nonneg i; clear c00 c01 c02 c03 c04 c05 d00 d01 d02 d03 d04 d05; clear c10 c11 c12 c13 c14 c15 d10 d11 d12 d13 d14 d15; clear c20 c21 c22 c23 c24 c25 d20 d21 d22 d23 d24 d25; obtain ⟨c00, c01, c02, c03, c04, c05, d00, d01, d02, d03, d04, d05⟩ := Blk.six B0.out; obtain ⟨c10, c11, c12, c13, c14, c15, d10, d11, d12, d13, d14, d15⟩ := Blk.six B1.out; obtain ⟨c20, c21, c22, c23, c24, c25, d20, d21, d22, d23, d24, d25⟩ := Blk.six B2.out)
      | (go_at_call 53; (with_reducible refine (ref_bytes W1.out W2.out HFB.out.1 HFB.out.2 HMB.out).mono ?_); rintro _ wc ⟨Ab, cb, rfl, hv, hb⟩; have U1 := Zz.mk (Fp.told (P := P) (base' := 0) (Kd.V_mono hv (fun k hk => Or.inr hk)) HF.out); clear hv; replace B0 := Zz.mk (Blk.belowW B0.out hb); replace B1 := Zz.mk (Blk.belowW B1.out hb); replace B2 := Zz.mk (Blk.belowW B2.out hb); replace B3 := Zz.mk (Blk.belowW B3.out hb); replace HV := Zz.mk (Fp.step (base' := 0) HV.out hb); replace W1 := Zz.mk (Fp.step (base' := 0) W1.out hb); replace W2 := Zz.mk (Fp.step (base' := 0) W2.out hb); replace HF := Zz.mk (HF.out.call hb); clear hb; skip; clear c00 c01 c02 c03 c04 c05 d00 d01 d02 d03 d04 d05; clear c10 c11 c12 c13 c14 c15 d10 d11 d12 d13 d14 d15; clear c20 c21 c22 c23 c24 c25 d20 d21 d22 d23 d24 d25; clear c30 c31 c32 d30 d31 d32; obtain ⟨c00, c01, c02, c03, c04, c05, d00, d01, d02, d03, d04, d05⟩ := Blk.six B0.out; obtain ⟨c10, c11, c12, c13, c14, c15, d10, d11, d12, d13, d14, d15⟩ := Blk.six B1.out; obtain ⟨c20, c21, c22, c23, c24, c25, d20, d21, d22, d23, d24, d25⟩ := Blk.six B2.out; obtain ⟨c30, c31, c32, d30, d31, d32⟩ := Blk.three B3.out))
  have hroom : ((mb : Nat) : Int) ≤ (cb : Int) := by have h1 := V_room U1.out; have h2 := HNB.out; omega
  have hN0 : (0 : Int) ≤ ((mb : Nat) : Int) := Int.natCast_nonneg _
  have n_ := Zz.mk (V_cut (base' := 0) (N := mb) U1.out HNB.out)
  clear U1
  have U1 := n_
  clear n_
  rename_i KK hKK
  refine regionK (fun w' : World => w'.cell? ⟨g3, 0, none⟩ = some (.string f.name) ∧ w'.cell? ⟨g3, 1, none⟩ = some (.slice a1 m1 k1) ∧ w'.cell? ⟨g3, 2, none⟩ = some (.slice a2 m2 k2) ∧ w'.cell? ⟨g0, 0, none⟩ = some (.slice (some ad) m c') ∧ w'.cell? ⟨g0, 1, none⟩ = some (.int .i64 S.no) ∧ w'.cell? ⟨g0, 2, none⟩ = some (.int .i64 o1) ∧ w'.cell? ⟨g0, 3, none⟩ = some (.int .i64 f1) ∧ w'.cell? ⟨g0, 4, none⟩ = some (.int .i64 S.fault) ∧ w'.cell? ⟨g0, 5, none⟩ = some (.bool false)) 8 (by kernel_rfl) (fun wd hb => ?_)
  replace B0 := Zz.mk (Blk.belowW B0.out hb)
  replace B1 := Zz.mk (Blk.belowW B1.out hb)
  replace B2 := Zz.mk (Blk.belowW B2.out hb)
  replace B3 := Zz.mk (Blk.belowW B3.out hb)
  replace HV := Zz.mk (Fp.step (base' := 0) HV.out hb)
  replace W1 := Zz.mk (Fp.step (base' := 0) W1.out hb)
  replace W2 := Zz.mk (Fp.step (base' := 0) W2.out hb)
  replace U1 := Zz.mk (Fp.step (base' := 0) U1.out hb)
  replace HF := Zz.mk (HF.out.call hb)
  clear hb
  clear c00 c01 c02 c03 c04 c05 d00 d01 d02 d03 d04 d05
  clear c10 c11 c12 c13 c14 c15 d10 d11 d12 d13 d14 d15
  clear c20 c21 c22 c23 c24 c25 d20 d21 d22 d23 d24 d25
  clear c30 c31 c32 d30 d31 d32
  obtain ⟨c00, c01, c02, c03, c04, c05, d00, d01, d02, d03, d04, d05⟩ := Blk.six B0.out
  obtain ⟨c10, c11, c12, c13, c14, c15, d10, d11, d12, d13, d14, d15⟩ := Blk.six B1.out
  obtain ⟨c20, c21, c22, c23, c24, c25, d20, d21, d22, d23, d24, d25⟩ := Blk.six B2.out
  obtain ⟨c30, c31, c32, d30, d31, d32⟩ := Blk.three B3.out
  have hHeld : (fun w' : World => w'.cell? ⟨g3, 0, none⟩ = some (.string f.name) ∧ w'.cell? ⟨g3, 1, none⟩ = some (.slice a1 m1 k1) ∧ w'.cell? ⟨g3, 2, none⟩ = some (.slice a2 m2 k2) ∧ w'.cell? ⟨g0, 0, none⟩ = some (.slice (some ad) m c') ∧ w'.cell? ⟨g0, 1, none⟩ = some (.int .i64 S.no) ∧ w'.cell? ⟨g0, 2, none⟩ = some (.int .i64 o1) ∧ w'.cell? ⟨g0, 3, none⟩ = some (.int .i64 f1) ∧ w'.cell? ⟨g0, 4, none⟩ = some (.int .i64 S.fault) ∧ w'.cell? ⟨g0, 5, none⟩ = some (.bool false)) wd := ⟨c30, c31, c32, c00, c01, c02, c03, c04, c05⟩
  refine wpAnyK_take (i := 0) (v := ?v13) rfl (by kernel_rfl) (by kernel_rfl) (by kernel_rfl) (by kernel_rfl) (fun _ _ _ h => h) (Or.inl ⟨by rfl, ?hy13⟩) (by assumption) ?rest13
  case hy13 => (intro w hSw; (try dsimp only at hSw); go_simp; try (with_reducible rfl))
  case rest13 =>
  try simp only [Act.put, List.setIfInBounds_toArray, List.set_cons_zero, List.set_cons_succ]
  refine wpAnyK_take (i := 1) (v := ?v14) rfl (by kernel_rfl) (by kernel_rfl) (by kernel_rfl) (by kernel_rfl) (fun _ _ _ h => h) (Or.inl ⟨by rfl, ?hy14⟩) (by assumption) ?rest14
  case hy14 => (intro w hSw; (try dsimp only at hSw); go_simp; try (with_reducible rfl))
  case rest14 =>
  try simp only [Act.put, List.setIfInBounds_toArray, List.set_cons_zero, List.set_cons_succ]
  refine wpAnyK_take (i := 2) (v := ?v15) rfl (by kernel_rfl) (by kernel_rfl) (by kernel_rfl) (by kernel_rfl) (fun _ _ _ h => h) (Or.inl ⟨by rfl, ?hy15⟩) (by assumption) ?rest15
  case hy15 => (intro w hSw; (try dsimp only at hSw); go_simp; try (with_reducible rfl))
  case rest15 =>
  try simp only [Act.put, List.setIfInBounds_toArray, List.set_cons_zero, List.set_cons_succ]
  refine wpAnyK_take (i := 3) (v := ?v16) rfl (by kernel_rfl) (by kernel_rfl) (by kernel_rfl) (by kernel_rfl) (fun _ _ _ h => h) (Or.inl ⟨by rfl, ?hy16⟩) (by assumption) ?rest16
  case hy16 => (intro w hSw; (try dsimp only at hSw); go_simp; try (with_reducible rfl))
  case rest16 =>
  try simp only [Act.put, List.setIfInBounds_toArray, List.set_cons_zero, List.set_cons_succ]
  refine wpAnyK_take (i := 4) (v := ?v17) rfl (by kernel_rfl) (by kernel_rfl) (by kernel_rfl) (by kernel_rfl) (fun _ _ _ h => h) (Or.inl ⟨by rfl, ?hy17⟩) (by assumption) ?rest17
  case hy17 => (intro w hSw; (try dsimp only at hSw); go_simp; try (with_reducible rfl))
  case rest17 =>
  try simp only [Act.put, List.setIfInBounds_toArray, List.set_cons_zero, List.set_cons_succ]
  refine wpAnyK_take (i := 5) (v := ?v18) rfl (by kernel_rfl) (by kernel_rfl) (by kernel_rfl) (by kernel_rfl) (fun _ _ _ h => h) (Or.inl ⟨by rfl, ?hy18⟩) (by assumption) ?rest18
  case hy18 => (intro w hSw; (try dsimp only at hSw); go_simp; try (with_reducible rfl))
  case rest18 =>
  try simp only [Act.put, List.setIfInBounds_toArray, List.set_cons_zero, List.set_cons_succ]
  refine wpAnyK_take (i := 6) (v := ?v19) rfl (by kernel_rfl) (by kernel_rfl) (by kernel_rfl) (by kernel_rfl) (fun _ _ _ h => h) (Or.inl ⟨by rfl, ?hy19⟩) (by assumption) ?rest19
  case hy19 => (intro w hSw; (try dsimp only at hSw); go_simp; try (with_reducible rfl))
  case rest19 =>
  try simp only [Act.put, List.setIfInBounds_toArray, List.set_cons_zero, List.set_cons_succ]
  refine wpAnyK_ready (rs := [7]) (by kernel_rfl) (by simp) ?_
  refine AllReadyK.cons rfl (fun K hK => ?_) AllReadyK.nil
  go_simp
  go_at_call 55
  with_reducible refine (ref_with0 HV.out U1.out HL.out HM2.out _ _ _ _ _).mono ?_
  rintro _ wc ⟨Aw, cw, rfl, hv, hb⟩
  have N0 := Zz.mk (Fp.told (base' := 0) hv HF.out)
  clear hv HV
  replace B0 := Zz.mk (Blk.belowW B0.out hb)
  replace B1 := Zz.mk (Blk.belowW B1.out hb)
  replace B2 := Zz.mk (Blk.belowW B2.out hb)
  replace B3 := Zz.mk (Blk.belowW B3.out hb)
  replace W1 := Zz.mk (Fp.step (base' := 0) W1.out hb)
  replace W2 := Zz.mk (Fp.step (base' := 0) W2.out hb)
  replace U1 := Zz.mk (Fp.step (base' := 0) U1.out hb)
  replace HF := Zz.mk (HF.out.call hb)
  clear hb
  have HV := N0
  clear N0
  clear c00 c01 c02 c03 c04 c05 d00 d01 d02 d03 d04 d05
  clear c10 c11 c12 c13 c14 c15 d10 d11 d12 d13 d14 d15
  clear c20 c21 c22 c23 c24 c25 d20 d21 d22 d23 d24 d25
  clear c30 c31 c32 d30 d31 d32
  obtain ⟨c00, c01, c02, c03, c04, c05, d00, d01, d02, d03, d04, d05⟩ := Blk.six B0.out
  obtain ⟨c10, c11, c12, c13, c14, c15, d10, d11, d12, d13, d14, d15⟩ := Blk.six B1.out
  obtain ⟨c20, c21, c22, c23, c24, c25, d20, d21, d22, d23, d24, d25⟩ := Blk.six B2.out
  obtain ⟨c30, c31, c32, d30, d31, d32⟩ := Blk.three B3.out
  go_simp
  clear hHeld
  have hHeld : (fun w' : World => w'.cell? ⟨g3, 0, none⟩ = some (.string f.name) ∧ w'.cell? ⟨g3, 1, none⟩ = some (.slice a1 m1 k1) ∧ w'.cell? ⟨g3, 2, none⟩ = some (.slice a2 m2 k2) ∧ w'.cell? ⟨g0, 0, none⟩ = some (.slice (some ad) m c') ∧ w'.cell? ⟨g0, 1, none⟩ = some (.int .i64 S.no) ∧ w'.cell? ⟨g0, 2, none⟩ = some (.int .i64 o1) ∧ w'.cell? ⟨g0, 3, none⟩ = some (.int .i64 f1) ∧ w'.cell? ⟨g0, 4, none⟩ = some (.int .i64 S.fault) ∧ w'.cell? ⟨g0, 5, none⟩ = some (.bool false)) wc := ⟨c30, c31, c32, c00, c01, c02, c03, c04, c05⟩
  refine hK.out _ _ (.inr hHeld) ?_
  clear hK K
  try simp only [Act.put, List.setIfInBounds_toArray, List.set_cons_zero, List.set_cons_succ]
  refine wpAnyK_ready (rs := [8]) (by kernel_rfl) (by simp) ?_
  refine AllReadyK.cons rfl (fun K hK => ?_) AllReadyK.nil
  rw [if_pos (by first | rfl | (go_simp; done) | (go_simp; rfl))]
  refine store_step (ops := #[]) rfl rfl (g := g0) (cells := #[.slice Aw mq cw, .int .i64 S.no, .int .i64 o1, .int .i64 f1, .int .i64 S.fault, .bool false]) (by first | rfl | (go_simp; done) | (go_simp; rfl)) (by first | rfl | (go_simp; done) | (go_simp; rfl)) B0.out info29 rfl (by simp [Value.oneCell']) ?_
  intro ws hx hk hz hb
  replace B0 := Zz.mk (hx)
  replace B1 := Zz.mk (show Blk ws g1 34 _ from blk_kept B1.out hk hE10)
  replace B2 := Zz.mk (show Blk ws g2 29 _ from blk_kept B2.out hk hE20)
  replace B3 := Zz.mk (show Blk ws g3 47 _ from blk_kept B3.out hk hE30)
  replace HV := Zz.mk (Fp.store (base' := 0) HV.out hk (by simp))
  replace W1 := Zz.mk (Fp.store (base' := 0) W1.out hk (by simp))
  replace W2 := Zz.mk (Fp.store (base' := 0) W2.out hk (by simp))
  replace HF := Zz.mk (HF.out.store hz hb (by simp))
  clear hx hk hz hb hHeld
  clear c00 c01 c02 c03 c04 c05 d00 d01 d02 d03 d04 d05
  clear c10 c11 c12 c13 c14 c15 d10 d11 d12 d13 d14 d15
  clear c20 c21 c22 c23 c24 c25 d20 d21 d22 d23 d24 d25
  clear c30 c31 c32 d30 d31 d32
  obtain ⟨c00, c01, c02, c03, c04, c05, d00, d01, d02, d03, d04, d05⟩ := Blk.six B0.out
  obtain ⟨c10, c11, c12, c13, c14, c15, d10, d11, d12, d13, d14, d15⟩ := Blk.six B1.out
  obtain ⟨c20, c21, c22, c23, c24, c25, d20, d21, d22, d23, d24, d25⟩ := Blk.six B2.out
  obtain ⟨c30, c31, c32, d30, d31, d32⟩ := Blk.three B3.out
  refine hK.out _ _ (.inl (by kernel_rfl)) ?_
  clear hK K
  try simp only [Act.put, List.setIfInBounds_toArray, List.set_cons_zero, List.set_cons_succ]
  refine wpAnyK_done (by kernel_rfl) ?_ _
  refine hKK _ _ ?_
  iterate 15 go_step
  exact known_ok_end HF.out (by simp) HV.out HO.out.1 HO.out.2 HD.out HU.out B2.out rfl rfl rfl rfl
set_option maxRecDepth 100000 in
set_option maxHeartbeats 1000000 in
theorem known_cut2 {w : World} {P : Nat → Prop} {A : Option Addr} {c : Nat} {S : PS} (h : Kd.V k47 47 w w.heap.size P (.slice A (S.l.map toF).length c) (S.l.map toF)) (hB : BoundP S) (hN : NumP S) (hd : S.down = false) {s t : ByteArray} {A3 A5 : Option Addr} {n3 n5 c3 c5 : Nat} {n : Int} {i : Nat} {f : PF} (hf : idxP s S.l 0 = (i : Int)) (hi : S.l[i]? = some f) (hfu : S.fuse ≠ 0) {mb N : Nat} (hmb : (bytesP f).length = mb) (hNN : N ≤ mb) :
    Calls Try.prog 36 #[.agg #[.slice A (S.l.map toF).length c, .int .i64 S.no, .int .i64 S.ops, .int .i64 S.fuse, .int .i64 S.fault, .bool S.down], .agg #[.int .i64 4, .string s, .string t, .slice A3 n3 c3, .int .i64 ((N : Nat) : Int), .slice A5 n5 c5]] w fun e w' =>
      ∃ v', e = .returned (.tuple #[v', .int .i64 0]) ∧ RSt w' (fun k => P k ∨ w.heap.size ≤ k) v' { countP S with l := withP ⟨f.name, (bytesP f).take N, []⟩ S.l } ∧ Below w.heap.size w w' := by
  have X := Zz.mk (known_find h hB s hf rfl)
  obtain ⟨o1, ho⟩ : ∃ o1, (countP S).ops = o1 := ⟨_, rfl⟩
  obtain ⟨f1, hf1⟩ : ∃ f1, (countP S).fuse = f1 := ⟨_, rfl⟩
  have HO := Zz.mk (And.intro ho hf1)
  simp only [hd] at X
  rw [hd]
  have HD := Zz.mk hd
  have HU := Zz.mk hfu
  have HL : Zz (S.l.length ≤ 1000000) := ⟨by have := hB.1; omega⟩
  have HFB := Zz.mk (hB.2 f (List.mem_of_getElem? hi))
  generalize hm : (S.l.map toF).length = m at X h ⊢
  have Y : Zz (∀ (G : List Nat) (A : Option Addr) (c : Nat) w', Fr w w' G → Kd.V k47 47 w' 0 (Fp w P G) (.slice A m c) (S.l.map toF) → Calls Try.prog 54 #[.agg #[.slice A m c, .int .i64 S.no, .int .i64 S.ops, .int .i64 S.fuse, .int .i64 S.fault, .bool false]] w' fun e w'' => ∃ A' c', e = .returned (.agg #[.slice A' m c', .int .i64 S.no, .int .i64 o1, .int .i64 f1, .int .i64 S.fault, .bool false]) ∧
      Kd.V k47 47 w'' 0 (fun k => Fp w P G k ∨ w'.heap.size ≤ k) (.slice A' m c') (S.l.map toF) ∧ Below w'.heap.size w' w'') := ⟨fun G A c => known_count2 hN hd hfu ho hf1⟩
  have HV := Zz.mk (Fp.start (base' := 0) h)
  have HF := Zz.mk (Fr.start w)
  have HI := Zz.mk hi
  have i0 : decide ((i : Int) < 0) = false := decide_eq_false (by omega)
  obtain ⟨mq, hmq⟩ : ∃ mq, ((withP ⟨f.name, (bytesP f).take N, []⟩ S.l).map toF).length = mq := ⟨_, rfl⟩
  have HM2 := Zz.mk hmq
  clear hmq
  have HMB := Zz.mk hmb
  have t1 : decide ((N : Int) < 0) = false := decide_eq_false (by omega)
  have t2 : decide ((mb : Int) < (N : Int)) = false := decide_eq_false (by omega)
  have t3 : decide (mb < N) = false := decide_eq_false (by omega)
  have HNB : Zz (N ≤ mb) := ⟨hNN⟩
  clear hNN hmb
  clear h hf hm hB hN hd hfu ho hf1 hi
  go_enter Try.func36, Try.ntmps36
  have hu29 := Try.underlying29
  have hu34 := Try.underlying34
  have hu47 := Try.underlying47
  go_wp2_with (first
      | ((with_reducible refine gate_dst (N := 2) rfl ?_); refine box_event ?hg (N := 2) ?hd (cs := #[.slice A m c, .int .i64 S.no, .int .i64 S.ops, .int .i64 S.fuse, .int .i64 S.fault, .bool false]) (t := 29) ?hr ?_; (case hd => rfl); (case hg => rfl); (case hr => first | (go_simp; done) | (go_simp; rfl)); intro g0 hg w1 hx hb; replace HV := Zz.mk (Fp.box (base' := 0) HV.out hg hb); replace HF := Zz.mk (HF.out.box hg hb (Blk.lt (show Blk w1 g0 29 _ from hx))); have B0 := Zz.mk (show Blk w1 g0 29 _ from hx); clear hg hx hb; obtain ⟨c00, c01, c02, c03, c04, c05, d00, d01, d02, d03, d04, d05⟩ := Blk.six B0.out)
      | ((with_reducible refine gate_dst (N := 3) rfl ?_); refine box_event ?hg (N := 3) ?hd (cs := #[.int .i64 4, .string s, .string t, .slice A3 n3 c3, .int .i64 ((N : Nat) : Int), .slice A5 n5 c5]) (t := 34) ?hr ?_; (case hd => rfl); (case hg => rfl); (case hr => first | (go_simp; done) | (go_simp; rfl)); intro g1 hg w2 hx hb; have hE01 := HF.out.ne (k := g0) (by simp) hg; have hE10 := hE01.symm; replace B0 := Zz.mk (Blk.belowW B0.out hb); replace HV := Zz.mk (Fp.box (base' := 0) HV.out hg hb); replace HF := Zz.mk (HF.out.box hg hb (Blk.lt (show Blk w2 g1 34 _ from hx))); have B1 := Zz.mk (show Blk w2 g1 34 _ from hx); clear hg hx hb; clear c00 c01 c02 c03 c04 c05 d00 d01 d02 d03 d04 d05; obtain ⟨c00, c01, c02, c03, c04, c05, d00, d01, d02, d03, d04, d05⟩ := Blk.six B0.out; obtain ⟨c10, c11, c12, c13, c14, c15, d10, d11, d12, d13, d14, d15⟩ := Blk.six B1.out)
      | ((with_reducible refine gate_dst (N := 4) rfl ?_); refine box_event ?hg (N := 4) ?hd (cs := #[.slice none 0 0, .int .i64 0, .int .i64 0, .int .i64 0, .int .i64 0, .bool false]) (t := 29) ?hr ?_; (case hd => rfl); (case hg => rfl); (case hr => first | (go_simp; done) | (go_simp; rfl)); intro g2 hg w3 hx hb; have hE02 := HF.out.ne (k := g0) (by simp) hg; have hE20 := hE02.symm; have hE12 := HF.out.ne (k := g1) (by simp) hg; have hE21 := hE12.symm; replace B0 := Zz.mk (Blk.belowW B0.out hb); replace B1 := Zz.mk (Blk.belowW B1.out hb); replace HV := Zz.mk (Fp.box (base' := 0) HV.out hg hb); replace HF := Zz.mk (HF.out.box hg hb (Blk.lt (show Blk w3 g2 29 _ from hx))); have B2 := Zz.mk (show Blk w3 g2 29 _ from hx); clear hg hx hb; clear c00 c01 c02 c03 c04 c05 d00 d01 d02 d03 d04 d05; clear c10 c11 c12 c13 c14 c15 d10 d11 d12 d13 d14 d15; obtain ⟨c00, c01, c02, c03, c04, c05, d00, d01, d02, d03, d04, d05⟩ := Blk.six B0.out; obtain ⟨c10, c11, c12, c13, c14, c15, d10, d11, d12, d13, d14, d15⟩ := Blk.six B1.out; obtain ⟨c20, c21, c22, c23, c24, c25, d20, d21, d22, d23, d24, d25⟩ := Blk.six B2.out)
      | ((with_reducible refine gate_dst (N := 7) rfl ?_); refine box_event ?hg (N := 7) ?hd (cs := #[.string ByteArray.empty, .slice none 0 0, .slice none 0 0]) (t := 47) ?hr ?_; (case hd => rfl); (case hg => rfl); (case hr => first | (go_simp; done) | (go_simp; rfl)); intro g3 hg w4 hx hb; have hE03 := HF.out.ne (k := g0) (by simp) hg; have hE30 := hE03.symm; have hE13 := HF.out.ne (k := g1) (by simp) hg; have hE31 := hE13.symm; have hE23 := HF.out.ne (k := g2) (by simp) hg; have hE32 := hE23.symm; replace B0 := Zz.mk (Blk.belowW B0.out hb); replace B1 := Zz.mk (Blk.belowW B1.out hb); replace B2 := Zz.mk (Blk.belowW B2.out hb); replace HV := Zz.mk (Fp.box (base' := 0) HV.out hg hb); replace W1 := Zz.mk (Fp.box (base' := 0) W1.out hg hb); replace W2 := Zz.mk (Fp.box (base' := 0) W2.out hg hb); replace HF := Zz.mk (HF.out.box hg hb (Blk.lt (show Blk w4 g3 47 _ from hx))); have B3 := Zz.mk (show Blk w4 g3 47 _ from hx); clear hg hx hb; clear c00 c01 c02 c03 c04 c05 d00 d01 d02 d03 d04 d05; clear c10 c11 c12 c13 c14 c15 d10 d11 d12 d13 d14 d15; clear c20 c21 c22 c23 c24 c25 d20 d21 d22 d23 d24 d25; obtain ⟨c00, c01, c02, c03, c04, c05, d00, d01, d02, d03, d04, d05⟩ := Blk.six B0.out; obtain ⟨c10, c11, c12, c13, c14, c15, d10, d11, d12, d13, d14, d15⟩ := Blk.six B1.out; obtain ⟨c20, c21, c22, c23, c24, c25, d20, d21, d22, d23, d24, d25⟩ := Blk.six B2.out; obtain ⟨c30, c31, c32, d30, d31, d32⟩ := Blk.three B3.out)
      | (go_at_call 52; (with_reducible refine (X.out _ HF.out.below).mono ?_); rintro _ wc ⟨rfl, hb⟩; skip; replace B0 := Zz.mk (Blk.belowW B0.out hb); replace B1 := Zz.mk (Blk.belowW B1.out hb); replace B2 := Zz.mk (Blk.belowW B2.out hb); replace HV := Zz.mk (Fp.step (base' := 0) HV.out hb); replace HF := Zz.mk (HF.out.call hb); clear hb; skip; clear c00 c01 c02 c03 c04 c05 d00 d01 d02 d03 d04 d05; clear c10 c11 c12 c13 c14 c15 d10 d11 d12 d13 d14 d15; clear c20 c21 c22 c23 c24 c25 d20 d21 d22 d23 d24 d25; obtain ⟨c00, c01, c02, c03, c04, c05, d00, d01, d02, d03, d04, d05⟩ := Blk.six B0.out; obtain ⟨c10, c11, c12, c13, c14, c15, d10, d11, d12, d13, d14, d15⟩ := Blk.six B1.out; obtain ⟨c20, c21, c22, c23, c24, c25, d20, d21, d22, d23, d24, d25⟩ := Blk.six B2.out)
      | (go_at_call 54; (with_reducible refine (Y.out _ _ _ _ HF.out HV.out).mono ?_); rintro _ wc ⟨A', c', rfl, hv, hb⟩; have N0 := Zz.mk (Fp.told (base' := 0) hv HF.out); clear hv HV; replace B0 := Zz.mk (Blk.belowW B0.out hb); replace B1 := Zz.mk (Blk.belowW B1.out hb); replace B2 := Zz.mk (Blk.belowW B2.out hb); replace HF := Zz.mk (HF.out.call hb); clear hb; have HV := N0; clear N0; clear c00 c01 c02 c03 c04 c05 d00 d01 d02 d03 d04 d05; clear c10 c11 c12 c13 c14 c15 d10 d11 d12 d13 d14 d15; clear c20 c21 c22 c23 c24 c25 d20 d21 d22 d23 d24 d25; obtain ⟨c00, c01, c02, c03, c04, c05, d00, d01, d02, d03, d04, d05⟩ := Blk.six B0.out; obtain ⟨c10, c11, c12, c13, c14, c15, d10, d11, d12, d13, d14, d15⟩ := Blk.six B1.out; obtain ⟨c20, c21, c22, c23, c24, c25, d20, d21, d22, d23, d24, d25⟩ := Blk.six B2.out)
      | ((with_reducible refine gate_store (t := 47) (p := 7) rfl ?_); refine store_event rfl rfl (g := g3) (cells := #[.string f.name, .slice a1 m1 k1, .slice a2 m2 k2]) (by first | rfl | (go_simp; done) | (go_simp; rfl)) (by first | rfl | (go_simp; done) | (go_simp; rfl)) B3.out info47 rfl (by simp [Value.oneCell']) ?_; intro ws hx hk hz hb; replace B3 := Zz.mk (hx); replace B0 := Zz.mk (show Blk ws g0 29 _ from blk_kept B0.out hk hE03); replace B1 := Zz.mk (show Blk ws g1 34 _ from blk_kept B1.out hk hE13); replace B2 := Zz.mk (show Blk ws g2 29 _ from blk_kept B2.out hk hE23); replace HV := Zz.mk (Fp.store (base' := 0) HV.out hk (by simp)); replace W1 := Zz.mk (Fp.store (base' := 0) W1.out hk (by simp)); replace W2 := Zz.mk (Fp.store (base' := 0) W2.out hk (by simp)); replace HF := Zz.mk (HF.out.store hz hb (by simp)); clear hx hk hz hb; clear y0 y1 y2 hi hi0; clear c00 c01 c02 c03 c04 c05 d00 d01 d02 d03 d04 d05; clear c10 c11 c12 c13 c14 c15 d10 d11 d12 d13 d14 d15; clear c20 c21 c22 c23 c24 c25 d20 d21 d22 d23 d24 d25; clear c30 c31 c32 d30 d31 d32; obtain ⟨c00, c01, c02, c03, c04, c05, d00, d01, d02, d03, d04, d05⟩ := Blk.six B0.out; obtain ⟨c10, c11, c12, c13, c14, c15, d10, d11, d12, d13, d14, d15⟩ := Blk.six B1.out; obtain ⟨c20, c21, c22, c23, c24, c25, d20, d21, d22, d23, d24, d25⟩ := Blk.six B2.out; obtain ⟨c30, c31, c32, d30, d31, d32⟩ := Blk.three B3.out)
      | ((with_reducible refine gate_store (t := 29) (p := 2) rfl ?_); refine store_event rfl rfl (g := g0) (cells := #[.slice A' m c', .int .i64 S.no, .int .i64 o1, .int .i64 f1, .int .i64 S.fault, .bool false]) (by first | rfl | (go_simp; done) | (go_simp; rfl)) (by first | rfl | (go_simp; done) | (go_simp; rfl)) B0.out info29 rfl (by simp [Value.oneCell']) ?_; intro ws hx hk hz hb; replace B0 := Zz.mk (hx); replace B1 := Zz.mk (show Blk ws g1 34 _ from blk_kept B1.out hk hE10); replace B2 := Zz.mk (show Blk ws g2 29 _ from blk_kept B2.out hk hE20); replace HV := Zz.mk (Fp.store (base' := 0) HV.out hk (by simp)); replace HF := Zz.mk (HF.out.store hz hb (by simp)); clear hx hk hz hb; obtain ⟨ad, a1, m1, k1, a2, m2, k2, hA, y0, y1, y2, v1, v2, hi⟩ := file_V HV.out HI.out; subst hA; have W1 := Zz.mk v1; have W2 := Zz.mk v2; clear v1 v2; have hi0 : (0 : Int) ≤ (i : Int) := Int.natCast_nonneg i; clear c00 c01 c02 c03 c04 c05 d00 d01 d02 d03 d04 d05; clear c10 c11 c12 c13 c14 c15 d10 d11 d12 d13 d14 d15; clear c20 c21 c22 c23 c24 c25 d20 d21 d22 d23 d24 d25; obtain ⟨c00, c01, c02, c03, c04, c05, d00, d01, d02, d03, d04, d05⟩ := Blk.six B0.out; obtain ⟨c10, c11, c12, c13, c14, c15, d10, d11, d12, d13, d14, d15⟩ := Blk.six B1.out; obtain ⟨c20, c21, c22, c23, c24, c25, d20, d21, d22, d23, d24, d25⟩ := Blk.six B2.out)
      | (go_at_call 53; (with_reducible refine (ref_bytes W1.out W2.out HFB.out.1 HFB.out.2 HMB.out).mono ?_); rintro _ wc ⟨Ab, cb, rfl, hv, hb⟩; have U1 := Zz.mk (Fp.told (P := P) (base' := 0) (Kd.V_mono hv (fun k hk => Or.inr hk)) HF.out); clear hv; replace B0 := Zz.mk (Blk.belowW B0.out hb); replace B1 := Zz.mk (Blk.belowW B1.out hb); replace B2 := Zz.mk (Blk.belowW B2.out hb); replace B3 := Zz.mk (Blk.belowW B3.out hb); replace HV := Zz.mk (Fp.step (base' := 0) HV.out hb); replace W1 := Zz.mk (Fp.step (base' := 0) W1.out hb); replace W2 := Zz.mk (Fp.step (base' := 0) W2.out hb); replace HF := Zz.mk (HF.out.call hb); clear hb; skip; clear c00 c01 c02 c03 c04 c05 d00 d01 d02 d03 d04 d05; clear c10 c11 c12 c13 c14 c15 d10 d11 d12 d13 d14 d15; clear c20 c21 c22 c23 c24 c25 d20 d21 d22 d23 d24 d25; clear c30 c31 c32 d30 d31 d32; obtain ⟨c00, c01, c02, c03, c04, c05, d00, d01, d02, d03, d04, d05⟩ := Blk.six B0.out; obtain ⟨c10, c11, c12, c13, c14, c15, d10, d11, d12, d13, d14, d15⟩ := Blk.six B1.out; obtain ⟨c20, c21, c22, c23, c24, c25, d20, d21, d22, d23, d24, d25⟩ := Blk.six B2.out; obtain ⟨c30, c31, c32, d30, d31, d32⟩ := Blk.three B3.out))
  have hroom : ((N : Nat) : Int) ≤ (cb : Int) := by have h1 := V_room U1.out; have h2 := HNB.out; omega
  have hN0 : (0 : Int) ≤ ((N : Nat) : Int) := Int.natCast_nonneg _
  have n_ := Zz.mk (V_cut (base' := 0) (N := N) U1.out HNB.out)
  clear U1
  have U1 := n_
  clear n_
  rename_i KK hKK
  refine regionK (fun w' : World => w'.cell? ⟨g3, 0, none⟩ = some (.string f.name) ∧ w'.cell? ⟨g3, 1, none⟩ = some (.slice a1 m1 k1) ∧ w'.cell? ⟨g3, 2, none⟩ = some (.slice a2 m2 k2) ∧ w'.cell? ⟨g0, 0, none⟩ = some (.slice (some ad) m c') ∧ w'.cell? ⟨g0, 1, none⟩ = some (.int .i64 S.no) ∧ w'.cell? ⟨g0, 2, none⟩ = some (.int .i64 o1) ∧ w'.cell? ⟨g0, 3, none⟩ = some (.int .i64 f1) ∧ w'.cell? ⟨g0, 4, none⟩ = some (.int .i64 S.fault) ∧ w'.cell? ⟨g0, 5, none⟩ = some (.bool false)) 8 (by kernel_rfl) (fun wd hb => ?_)
  replace B0 := Zz.mk (Blk.belowW B0.out hb)
  replace B1 := Zz.mk (Blk.belowW B1.out hb)
  replace B2 := Zz.mk (Blk.belowW B2.out hb)
  replace B3 := Zz.mk (Blk.belowW B3.out hb)
  replace HV := Zz.mk (Fp.step (base' := 0) HV.out hb)
  replace W1 := Zz.mk (Fp.step (base' := 0) W1.out hb)
  replace W2 := Zz.mk (Fp.step (base' := 0) W2.out hb)
  replace U1 := Zz.mk (Fp.step (base' := 0) U1.out hb)
  replace HF := Zz.mk (HF.out.call hb)
  clear hb
  clear c00 c01 c02 c03 c04 c05 d00 d01 d02 d03 d04 d05
  clear c10 c11 c12 c13 c14 c15 d10 d11 d12 d13 d14 d15
  clear c20 c21 c22 c23 c24 c25 d20 d21 d22 d23 d24 d25
  clear c30 c31 c32 d30 d31 d32
  obtain ⟨c00, c01, c02, c03, c04, c05, d00, d01, d02, d03, d04, d05⟩ := Blk.six B0.out
  obtain ⟨c10, c11, c12, c13, c14, c15, d10, d11, d12, d13, d14, d15⟩ := Blk.six B1.out
  obtain ⟨c20, c21, c22, c23, c24, c25, d20, d21, d22, d23, d24, d25⟩ := Blk.six B2.out
  obtain ⟨c30, c31, c32, d30, d31, d32⟩ := Blk.three B3.out
  have hHeld : (fun w' : World => w'.cell? ⟨g3, 0, none⟩ = some (.string f.name) ∧ w'.cell? ⟨g3, 1, none⟩ = some (.slice a1 m1 k1) ∧ w'.cell? ⟨g3, 2, none⟩ = some (.slice a2 m2 k2) ∧ w'.cell? ⟨g0, 0, none⟩ = some (.slice (some ad) m c') ∧ w'.cell? ⟨g0, 1, none⟩ = some (.int .i64 S.no) ∧ w'.cell? ⟨g0, 2, none⟩ = some (.int .i64 o1) ∧ w'.cell? ⟨g0, 3, none⟩ = some (.int .i64 f1) ∧ w'.cell? ⟨g0, 4, none⟩ = some (.int .i64 S.fault) ∧ w'.cell? ⟨g0, 5, none⟩ = some (.bool false)) wd := ⟨c30, c31, c32, c00, c01, c02, c03, c04, c05⟩
  refine wpAnyK_take (i := 0) (v := ?v20) rfl (by kernel_rfl) (by kernel_rfl) (by kernel_rfl) (by kernel_rfl) (fun _ _ _ h => h) (Or.inl ⟨by rfl, ?hy20⟩) (by assumption) ?rest20
  case hy20 => (intro w hSw; (try dsimp only at hSw); go_simp; try (with_reducible rfl))
  case rest20 =>
  try simp only [Act.put, List.setIfInBounds_toArray, List.set_cons_zero, List.set_cons_succ]
  refine wpAnyK_take (i := 1) (v := ?v21) rfl (by kernel_rfl) (by kernel_rfl) (by kernel_rfl) (by kernel_rfl) (fun _ _ _ h => h) (Or.inl ⟨by rfl, ?hy21⟩) (by assumption) ?rest21
  case hy21 => (intro w hSw; (try dsimp only at hSw); go_simp; try (with_reducible rfl))
  case rest21 =>
  try simp only [Act.put, List.setIfInBounds_toArray, List.set_cons_zero, List.set_cons_succ]
  refine wpAnyK_take (i := 2) (v := ?v22) rfl (by kernel_rfl) (by kernel_rfl) (by kernel_rfl) (by kernel_rfl) (fun _ _ _ h => h) (Or.inl ⟨by rfl, ?hy22⟩) (by assumption) ?rest22
  case hy22 => (intro w hSw; (try dsimp only at hSw); go_simp; try (with_reducible rfl))
  case rest22 =>
  try simp only [Act.put, List.setIfInBounds_toArray, List.set_cons_zero, List.set_cons_succ]
  refine wpAnyK_take (i := 3) (v := ?v23) rfl (by kernel_rfl) (by kernel_rfl) (by kernel_rfl) (by kernel_rfl) (fun _ _ _ h => h) (Or.inl ⟨by rfl, ?hy23⟩) (by assumption) ?rest23
  case hy23 => (intro w hSw; (try dsimp only at hSw); go_simp; try (with_reducible rfl))
  case rest23 =>
  try simp only [Act.put, List.setIfInBounds_toArray, List.set_cons_zero, List.set_cons_succ]
  refine wpAnyK_take (i := 4) (v := ?v24) rfl (by kernel_rfl) (by kernel_rfl) (by kernel_rfl) (by kernel_rfl) (fun _ _ _ h => h) (Or.inl ⟨by rfl, ?hy24⟩) (by assumption) ?rest24
  case hy24 => (intro w hSw; (try dsimp only at hSw); go_simp; try (with_reducible rfl))
  case rest24 =>
  try simp only [Act.put, List.setIfInBounds_toArray, List.set_cons_zero, List.set_cons_succ]
  refine wpAnyK_take (i := 5) (v := ?v25) rfl (by kernel_rfl) (by kernel_rfl) (by kernel_rfl) (by kernel_rfl) (fun _ _ _ h => h) (Or.inl ⟨by rfl, ?hy25⟩) (by assumption) ?rest25
  case hy25 => (intro w hSw; (try dsimp only at hSw); go_simp; try (with_reducible rfl))
  case rest25 =>
  try simp only [Act.put, List.setIfInBounds_toArray, List.set_cons_zero, List.set_cons_succ]
  refine wpAnyK_take (i := 6) (v := ?v26) rfl (by kernel_rfl) (by kernel_rfl) (by kernel_rfl) (by kernel_rfl) (fun _ _ _ h => h) (Or.inl ⟨by rfl, ?hy26⟩) (by assumption) ?rest26
  case hy26 => (intro w hSw; (try dsimp only at hSw); go_simp; try (with_reducible rfl))
  case rest26 =>
  try simp only [Act.put, List.setIfInBounds_toArray, List.set_cons_zero, List.set_cons_succ]
  refine wpAnyK_ready (rs := [7]) (by kernel_rfl) (by simp) ?_
  refine AllReadyK.cons rfl (fun K hK => ?_) AllReadyK.nil
  go_simp
  go_at_call 55
  with_reducible refine (ref_with0 HV.out U1.out HL.out HM2.out _ _ _ _ _).mono ?_
  rintro _ wc ⟨Aw, cw, rfl, hv, hb⟩
  have N0 := Zz.mk (Fp.told (base' := 0) hv HF.out)
  clear hv HV
  replace B0 := Zz.mk (Blk.belowW B0.out hb)
  replace B1 := Zz.mk (Blk.belowW B1.out hb)
  replace B2 := Zz.mk (Blk.belowW B2.out hb)
  replace B3 := Zz.mk (Blk.belowW B3.out hb)
  replace W1 := Zz.mk (Fp.step (base' := 0) W1.out hb)
  replace W2 := Zz.mk (Fp.step (base' := 0) W2.out hb)
  replace U1 := Zz.mk (Fp.step (base' := 0) U1.out hb)
  replace HF := Zz.mk (HF.out.call hb)
  clear hb
  have HV := N0
  clear N0
  clear c00 c01 c02 c03 c04 c05 d00 d01 d02 d03 d04 d05
  clear c10 c11 c12 c13 c14 c15 d10 d11 d12 d13 d14 d15
  clear c20 c21 c22 c23 c24 c25 d20 d21 d22 d23 d24 d25
  clear c30 c31 c32 d30 d31 d32
  obtain ⟨c00, c01, c02, c03, c04, c05, d00, d01, d02, d03, d04, d05⟩ := Blk.six B0.out
  obtain ⟨c10, c11, c12, c13, c14, c15, d10, d11, d12, d13, d14, d15⟩ := Blk.six B1.out
  obtain ⟨c20, c21, c22, c23, c24, c25, d20, d21, d22, d23, d24, d25⟩ := Blk.six B2.out
  obtain ⟨c30, c31, c32, d30, d31, d32⟩ := Blk.three B3.out
  go_simp
  clear hHeld
  have hHeld : (fun w' : World => w'.cell? ⟨g3, 0, none⟩ = some (.string f.name) ∧ w'.cell? ⟨g3, 1, none⟩ = some (.slice a1 m1 k1) ∧ w'.cell? ⟨g3, 2, none⟩ = some (.slice a2 m2 k2) ∧ w'.cell? ⟨g0, 0, none⟩ = some (.slice (some ad) m c') ∧ w'.cell? ⟨g0, 1, none⟩ = some (.int .i64 S.no) ∧ w'.cell? ⟨g0, 2, none⟩ = some (.int .i64 o1) ∧ w'.cell? ⟨g0, 3, none⟩ = some (.int .i64 f1) ∧ w'.cell? ⟨g0, 4, none⟩ = some (.int .i64 S.fault) ∧ w'.cell? ⟨g0, 5, none⟩ = some (.bool false)) wc := ⟨c30, c31, c32, c00, c01, c02, c03, c04, c05⟩
  refine hK.out _ _ (.inr hHeld) ?_
  clear hK K
  try simp only [Act.put, List.setIfInBounds_toArray, List.set_cons_zero, List.set_cons_succ]
  refine wpAnyK_ready (rs := [8]) (by kernel_rfl) (by simp) ?_
  refine AllReadyK.cons rfl (fun K hK => ?_) AllReadyK.nil
  rw [if_pos (by first | rfl | (go_simp; done) | (go_simp; rfl))]
  refine store_step (ops := #[]) rfl rfl (g := g0) (cells := #[.slice Aw mq cw, .int .i64 S.no, .int .i64 o1, .int .i64 f1, .int .i64 S.fault, .bool false]) (by first | rfl | (go_simp; done) | (go_simp; rfl)) (by first | rfl | (go_simp; done) | (go_simp; rfl)) B0.out info29 rfl (by simp [Value.oneCell']) ?_
  intro ws hx hk hz hb
  replace B0 := Zz.mk (hx)
  replace B1 := Zz.mk (show Blk ws g1 34 _ from blk_kept B1.out hk hE10)
  replace B2 := Zz.mk (show Blk ws g2 29 _ from blk_kept B2.out hk hE20)
  replace B3 := Zz.mk (show Blk ws g3 47 _ from blk_kept B3.out hk hE30)
  replace HV := Zz.mk (Fp.store (base' := 0) HV.out hk (by simp))
  replace W1 := Zz.mk (Fp.store (base' := 0) W1.out hk (by simp))
  replace W2 := Zz.mk (Fp.store (base' := 0) W2.out hk (by simp))
  replace HF := Zz.mk (HF.out.store hz hb (by simp))
  clear hx hk hz hb hHeld
  clear c00 c01 c02 c03 c04 c05 d00 d01 d02 d03 d04 d05
  clear c10 c11 c12 c13 c14 c15 d10 d11 d12 d13 d14 d15
  clear c20 c21 c22 c23 c24 c25 d20 d21 d22 d23 d24 d25
  clear c30 c31 c32 d30 d31 d32
  obtain ⟨c00, c01, c02, c03, c04, c05, d00, d01, d02, d03, d04, d05⟩ := Blk.six B0.out
  obtain ⟨c10, c11, c12, c13, c14, c15, d10, d11, d12, d13, d14, d15⟩ := Blk.six B1.out
  obtain ⟨c20, c21, c22, c23, c24, c25, d20, d21, d22, d23, d24, d25⟩ := Blk.six B2.out
  obtain ⟨c30, c31, c32, d30, d31, d32⟩ := Blk.three B3.out
  refine hK.out _ _ (.inl (by kernel_rfl)) ?_
  clear hK K
  try simp only [Act.put, List.setIfInBounds_toArray, List.set_cons_zero, List.set_cons_succ]
  refine wpAnyK_done (by kernel_rfl) ?_ _
  refine hKK _ _ ?_
  iterate 15 go_step
  exact known_ok_end HF.out (by simp) HV.out HO.out.1 HO.out.2 HD.out HU.out B2.out rfl rfl rfl rfl
end Go.Proofs.Ytcpkoajnepijkaa

