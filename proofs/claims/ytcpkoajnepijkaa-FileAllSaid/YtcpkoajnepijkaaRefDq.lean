/- Parts of the proof of the law that the last file states; declarations that nothing mentions are left out by a program. No conditions. -/
import Derived.Test.YtcpkoajnepijkaaRefK7q
set_option linter.unusedVariables false
set_option linter.unusedSimpArgs false
namespace Go.Proofs.Ytcpkoajnepijkaa
open Go.RowKit Go.Proofs.YtcpkoajnepijkaaL Go.Proofs.YtcpkoajnepijkaaW.PrintWords Go.Proofs.Ytcpkoajnepijkaa.Q
theorem rdo_end {fn : Func} {w w6 : World} {P : Nat → Prop} {A' : Option Addr} {c' m g2 : Nat} {code : Int} {S2 : PS} {G : List Nat} {a : Act} (hF : Fr w w6 G) (hg : g2 ∈ G) (hv : Kd.V k47 47 w6 0 (Fp w P G) (.slice A' m c') (S2.l.map toF))
    (hB : Blk w6 g2 29 #[.slice A' m c', .int .i64 S2.no, .int .i64 S2.ops, .int .i64 S2.fuse, .int .i64 S2.fault, .bool S2.down]) (hr : fn.results = #[.cell 4 29, .tmp 5]) (hp : a.tmps.getD 4 undef = .pointer (some ⟨g2, 0, none⟩)) (he : a.tmps.getD 5 undef = .int .i64 code) (hd0 : a.defers = []) :
    bodyPost Try.prog fn (fun e w' => ∃ v', e = .returned (.tuple #[v', .int .i64 code]) ∧ RSt w' (fun k => P k ∨ w.heap.size ≤ k) v' S2 ∧ Below w.heap.size w w') .ret a w6 := by
  have hm := V_len hv
  subst hm
  refine ret29 hr hp hB rfl he hd0 ⟨_, rfl, ⟨A', c', rfl, ?_⟩, hF.below⟩
  exact V_rebase (Kd.V_mono hv (fun k hk => hk.1))
set_option maxRecDepth 100000 in
set_option maxHeartbeats 1000000 in
theorem rdo_write {w : World} {P : Nat → Prop} {A : Option Addr} {c : Nat} {S : PS} (h : Kd.V k47 47 w w.heap.size P (.slice A (S.l.map toF).length c) (S.l.map toF)) {kd : Int} {s t : ByteArray} {bs : List Int} {A3 A5 : Option Addr} {n3 n5 c3 c5 : Nat} {n : Int} (h3 : Kd.V (Kd.int .u8) 5 w w.heap.size P (.slice A3 n3 c3) bs) (hd : S.down = false) (hk : kd = 0) {S2 : PS} {code : Int} (hK : ∀ (G : List Nat) (w' : World), Fr w w' G → Kd.V k47 47 w' 0 (Fp w P G) (.slice A (S.l.map toF).length c) (S.l.map toF) → Kd.V (Kd.int .u8) 5 w' 0 (Fp w P G) (.slice A3 n3 c3) bs → Calls Try.prog 35 #[.agg #[.slice A (S.l.map toF).length c, .int .i64 S.no, .int .i64 S.ops, .int .i64 S.fuse, .int .i64 S.fault, .bool false], .agg #[.int .i64 kd, .string s, .string t, .slice A3 n3 c3, .int .i64 n, .slice A5 n5 c5]] w' fun e w'' =>
      ∃ A' m' c', e = .returned (.tuple #[.agg #[.slice A' m' c', .int .i64 S2.no, .int .i64 S2.ops, .int .i64 S2.fuse, .int .i64 S2.fault, .bool S2.down], .int .i64 code]) ∧ Kd.V k47 47 w'' 0 (fun k => Fp w P G k ∨ w'.heap.size ≤ k) (.slice A' m' c') (S2.l.map toF) ∧ Below w'.heap.size w' w'') :
    Calls Try.prog 15 #[.agg #[.slice A (S.l.map toF).length c, .int .i64 S.no, .int .i64 S.ops, .int .i64 S.fuse, .int .i64 S.fault, .bool S.down], .agg #[.int .i64 kd, .string s, .string t, .slice A3 n3 c3, .int .i64 n, .slice A5 n5 c5]] w fun e w' =>
      ∃ v', e = .returned (.tuple #[v', .int .i64 code]) ∧ RSt w' (fun k => P k ∨ w.heap.size ≤ k) v' S2 ∧ Below w.heap.size w w' := by
  have K := Zz.mk hK
  have hdd : S.down = false := hd
  rw [hdd]
  generalize hm : (S.l.map toF).length = m at h K ⊢
  have HV := Zz.mk (Fp.start (base' := 0) h)
  have V3 := Zz.mk (Fp.start (base' := 0) h3)
  have HF := Zz.mk (Fr.start w)
  have k5 : decide (kd = 5) = false := decide_eq_false (by omega)
  have l5 : (kd == 5) = false := by rw [beq_eq_false_iff_ne]; omega
  have k6 : decide (kd = 6) = false := decide_eq_false (by omega)
  have l6 : (kd == 6) = false := by rw [beq_eq_false_iff_ne]; omega
  have k7 : decide (kd = 7) = false := decide_eq_false (by omega)
  have l7 : (kd == 7) = false := by rw [beq_eq_false_iff_ne]; omega
  have k8 : decide (kd = 8) = false := decide_eq_false (by omega)
  have l8 : (kd == 8) = false := by rw [beq_eq_false_iff_ne]; omega
  have k0 : decide (kd = 0) = true := decide_eq_true hk
  have l0 : (kd == 0) = true := by rw [beq_iff_eq]; exact hk
  clear h h3 hK hm hd hdd hk
  go_enter Try.func15, Try.ntmps15
  have hu29 := Try.underlying29
  have hu34 := Try.underlying34
  go_wp2_with (first
      | ((with_reducible refine gate_dst (N := 2) rfl ?_); refine box_event ?hg (N := 2) ?hd (cs := #[.slice A m c, .int .i64 S.no, .int .i64 S.ops, .int .i64 S.fuse, .int .i64 S.fault, .bool false]) (t := 29) ?hr ?_; (case hd => rfl); (case hg => rfl); (case hr => first | (go_simp; done) | (go_simp; rfl)); intro g0 hg w1 hx hb; replace HV := Zz.mk (Fp.box (base' := 0) HV.out hg hb); replace V3 := Zz.mk (Fp.box (base' := 0) V3.out hg hb); replace HF := Zz.mk (HF.out.box hg hb (Blk.lt (show Blk w1 g0 29 _ from hx))); have B0 := Zz.mk (show Blk w1 g0 29 _ from hx); clear hg hx hb; obtain ⟨c00, c01, c02, c03, c04, c05, d00, d01, d02, d03, d04, d05⟩ := Blk.six B0.out)
      | ((with_reducible refine gate_dst (N := 3) rfl ?_); refine box_event ?hg (N := 3) ?hd (cs := #[.int .i64 kd, .string s, .string t, .slice A3 n3 c3, .int .i64 n, .slice A5 n5 c5]) (t := 34) ?hr ?_; (case hd => rfl); (case hg => rfl); (case hr => first | (go_simp; done) | (go_simp; rfl)); intro g1 hg w2 hx hb; have hE01 := HF.out.ne (k := g0) (by simp) hg; have hE10 := hE01.symm; replace B0 := Zz.mk (Blk.belowW B0.out hb); replace HV := Zz.mk (Fp.box (base' := 0) HV.out hg hb); replace V3 := Zz.mk (Fp.box (base' := 0) V3.out hg hb); replace HF := Zz.mk (HF.out.box hg hb (Blk.lt (show Blk w2 g1 34 _ from hx))); have B1 := Zz.mk (show Blk w2 g1 34 _ from hx); clear hg hx hb; clear c00 c01 c02 c03 c04 c05 d00 d01 d02 d03 d04 d05; obtain ⟨c00, c01, c02, c03, c04, c05, d00, d01, d02, d03, d04, d05⟩ := Blk.six B0.out; obtain ⟨c10, c11, c12, c13, c14, c15, d10, d11, d12, d13, d14, d15⟩ := Blk.six B1.out)
      | ((with_reducible refine gate_dst (N := 4) rfl ?_); refine box_event ?hg (N := 4) ?hd (cs := #[.slice none 0 0, .int .i64 0, .int .i64 0, .int .i64 0, .int .i64 0, .bool false]) (t := 29) ?hr ?_; (case hd => rfl); (case hg => rfl); (case hr => first | (go_simp; done) | (go_simp; rfl)); intro g2 hg w3 hx hb; have hE02 := HF.out.ne (k := g0) (by simp) hg; have hE20 := hE02.symm; have hE12 := HF.out.ne (k := g1) (by simp) hg; have hE21 := hE12.symm; replace B0 := Zz.mk (Blk.belowW B0.out hb); replace B1 := Zz.mk (Blk.belowW B1.out hb); replace HV := Zz.mk (Fp.box (base' := 0) HV.out hg hb); replace V3 := Zz.mk (Fp.box (base' := 0) V3.out hg hb); replace HF := Zz.mk (HF.out.box hg hb (Blk.lt (show Blk w3 g2 29 _ from hx))); have B2 := Zz.mk (show Blk w3 g2 29 _ from hx); clear hg hx hb; clear c00 c01 c02 c03 c04 c05 d00 d01 d02 d03 d04 d05; clear c10 c11 c12 c13 c14 c15 d10 d11 d12 d13 d14 d15; obtain ⟨c00, c01, c02, c03, c04, c05, d00, d01, d02, d03, d04, d05⟩ := Blk.six B0.out; obtain ⟨c10, c11, c12, c13, c14, c15, d10, d11, d12, d13, d14, d15⟩ := Blk.six B1.out; obtain ⟨c20, c21, c22, c23, c24, c25, d20, d21, d22, d23, d24, d25⟩ := Blk.six B2.out)
      | (go_at_call 35; (with_reducible refine (K.out _ _ HF.out HV.out V3.out).mono ?_); rintro _ wc ⟨A', m', c', rfl, hv, hb⟩; have N0 := Zz.mk (Fp.told (base' := 0) hv HF.out); clear hv HV; replace B0 := Zz.mk (Blk.belowW B0.out hb); replace B1 := Zz.mk (Blk.belowW B1.out hb); replace B2 := Zz.mk (Blk.belowW B2.out hb); replace V3 := Zz.mk (Fp.step (base' := 0) V3.out hb); replace HF := Zz.mk (HF.out.call hb); clear hb; have HV := N0; clear N0; clear c00 c01 c02 c03 c04 c05 d00 d01 d02 d03 d04 d05; clear c10 c11 c12 c13 c14 c15 d10 d11 d12 d13 d14 d15; clear c20 c21 c22 c23 c24 c25 d20 d21 d22 d23 d24 d25; obtain ⟨c00, c01, c02, c03, c04, c05, d00, d01, d02, d03, d04, d05⟩ := Blk.six B0.out; obtain ⟨c10, c11, c12, c13, c14, c15, d10, d11, d12, d13, d14, d15⟩ := Blk.six B1.out; obtain ⟨c20, c21, c22, c23, c24, c25, d20, d21, d22, d23, d24, d25⟩ := Blk.six B2.out)
      | ((with_reducible refine gate_store (t := 29) (p := 4) rfl ?_); refine store_event rfl rfl (g := g2) (cells := #[.slice A' m' c', .int .i64 S2.no, .int .i64 S2.ops, .int .i64 S2.fuse, .int .i64 S2.fault, .bool S2.down]) (by first | rfl | (go_simp; done) | (go_simp; rfl)) (by first | rfl | (go_simp; done) | (go_simp; rfl)) B2.out info29 rfl (by simp [Value.oneCell']) ?_; intro ws hx hk hz hb; replace B2 := Zz.mk (hx); replace B0 := Zz.mk (show Blk ws g0 29 _ from blk_kept B0.out hk hE02); replace B1 := Zz.mk (show Blk ws g1 34 _ from blk_kept B1.out hk hE12); replace HV := Zz.mk (Fp.store (base' := 0) HV.out hk (by simp)); replace V3 := Zz.mk (Fp.store (base' := 0) V3.out hk (by simp)); replace HF := Zz.mk (HF.out.store hz hb (by simp)); clear hx hk hz hb; skip; clear c00 c01 c02 c03 c04 c05 d00 d01 d02 d03 d04 d05; clear c10 c11 c12 c13 c14 c15 d10 d11 d12 d13 d14 d15; clear c20 c21 c22 c23 c24 c25 d20 d21 d22 d23 d24 d25; obtain ⟨c00, c01, c02, c03, c04, c05, d00, d01, d02, d03, d04, d05⟩ := Blk.six B0.out; obtain ⟨c10, c11, c12, c13, c14, c15, d10, d11, d12, d13, d14, d15⟩ := Blk.six B1.out; obtain ⟨c20, c21, c22, c23, c24, c25, d20, d21, d22, d23, d24, d25⟩ := Blk.six B2.out))
  exact rdo_end HF.out (by simp) HV.out B2.out rfl rfl rfl rfl
set_option maxRecDepth 100000 in
set_option maxHeartbeats 1000000 in
theorem rdo_known {w : World} {P : Nat → Prop} {A : Option Addr} {c : Nat} {S : PS} (h : Kd.V k47 47 w w.heap.size P (.slice A (S.l.map toF).length c) (S.l.map toF)) {kd : Int} {s t : ByteArray} {bs : List Int} {A3 A5 : Option Addr} {n3 n5 c3 c5 : Nat} {n : Int} (h3 : Kd.V (Kd.int .u8) 5 w w.heap.size P (.slice A3 n3 c3) bs) (hd : S.down = false) (hk : 1 ≤ kd ∧ kd ≤ 4) {S2 : PS} {code : Int} (hK : ∀ (G : List Nat) (w' : World), Fr w w' G → Kd.V k47 47 w' 0 (Fp w P G) (.slice A (S.l.map toF).length c) (S.l.map toF) → Kd.V (Kd.int .u8) 5 w' 0 (Fp w P G) (.slice A3 n3 c3) bs → Calls Try.prog 36 #[.agg #[.slice A (S.l.map toF).length c, .int .i64 S.no, .int .i64 S.ops, .int .i64 S.fuse, .int .i64 S.fault, .bool false], .agg #[.int .i64 kd, .string s, .string t, .slice A3 n3 c3, .int .i64 n, .slice A5 n5 c5]] w' fun e w'' =>
      ∃ A' m' c', e = .returned (.tuple #[.agg #[.slice A' m' c', .int .i64 S2.no, .int .i64 S2.ops, .int .i64 S2.fuse, .int .i64 S2.fault, .bool S2.down], .int .i64 code]) ∧ Kd.V k47 47 w'' 0 (fun k => Fp w P G k ∨ w'.heap.size ≤ k) (.slice A' m' c') (S2.l.map toF) ∧ Below w'.heap.size w' w'') :
    Calls Try.prog 15 #[.agg #[.slice A (S.l.map toF).length c, .int .i64 S.no, .int .i64 S.ops, .int .i64 S.fuse, .int .i64 S.fault, .bool S.down], .agg #[.int .i64 kd, .string s, .string t, .slice A3 n3 c3, .int .i64 n, .slice A5 n5 c5]] w fun e w' =>
      ∃ v', e = .returned (.tuple #[v', .int .i64 code]) ∧ RSt w' (fun k => P k ∨ w.heap.size ≤ k) v' S2 ∧ Below w.heap.size w w' := by
  have K := Zz.mk hK
  have hdd : S.down = false := hd
  rw [hdd]
  generalize hm : (S.l.map toF).length = m at h K ⊢
  have HV := Zz.mk (Fp.start (base' := 0) h)
  have V3 := Zz.mk (Fp.start (base' := 0) h3)
  have HF := Zz.mk (Fr.start w)
  have k5 : decide (kd = 5) = false := decide_eq_false (by omega)
  have l5 : (kd == 5) = false := by rw [beq_eq_false_iff_ne]; omega
  have k6 : decide (kd = 6) = false := decide_eq_false (by omega)
  have l6 : (kd == 6) = false := by rw [beq_eq_false_iff_ne]; omega
  have k7 : decide (kd = 7) = false := decide_eq_false (by omega)
  have l7 : (kd == 7) = false := by rw [beq_eq_false_iff_ne]; omega
  have k8 : decide (kd = 8) = false := decide_eq_false (by omega)
  have l8 : (kd == 8) = false := by rw [beq_eq_false_iff_ne]; omega
  have k0 : decide (kd = 0) = false := decide_eq_false (by omega)
  have l0 : (kd == 0) = false := by rw [beq_eq_false_iff_ne]; omega
  clear h h3 hK hm hd hdd hk
  go_enter Try.func15, Try.ntmps15
  have hu29 := Try.underlying29
  have hu34 := Try.underlying34
  go_wp2_with (first
      | ((with_reducible refine gate_dst (N := 2) rfl ?_); refine box_event ?hg (N := 2) ?hd (cs := #[.slice A m c, .int .i64 S.no, .int .i64 S.ops, .int .i64 S.fuse, .int .i64 S.fault, .bool false]) (t := 29) ?hr ?_; (case hd => rfl); (case hg => rfl); (case hr => first | (go_simp; done) | (go_simp; rfl)); intro g0 hg w1 hx hb; replace HV := Zz.mk (Fp.box (base' := 0) HV.out hg hb); replace V3 := Zz.mk (Fp.box (base' := 0) V3.out hg hb); replace HF := Zz.mk (HF.out.box hg hb (Blk.lt (show Blk w1 g0 29 _ from hx))); have B0 := Zz.mk (show Blk w1 g0 29 _ from hx); clear hg hx hb; obtain ⟨c00, c01, c02, c03, c04, c05, d00, d01, d02, d03, d04, d05⟩ := Blk.six B0.out)
      | ((with_reducible refine gate_dst (N := 3) rfl ?_); refine box_event ?hg (N := 3) ?hd (cs := #[.int .i64 kd, .string s, .string t, .slice A3 n3 c3, .int .i64 n, .slice A5 n5 c5]) (t := 34) ?hr ?_; (case hd => rfl); (case hg => rfl); (case hr => first | (go_simp; done) | (go_simp; rfl)); intro g1 hg w2 hx hb; have hE01 := HF.out.ne (k := g0) (by simp) hg; have hE10 := hE01.symm; replace B0 := Zz.mk (Blk.belowW B0.out hb); replace HV := Zz.mk (Fp.box (base' := 0) HV.out hg hb); replace V3 := Zz.mk (Fp.box (base' := 0) V3.out hg hb); replace HF := Zz.mk (HF.out.box hg hb (Blk.lt (show Blk w2 g1 34 _ from hx))); have B1 := Zz.mk (show Blk w2 g1 34 _ from hx); clear hg hx hb; clear c00 c01 c02 c03 c04 c05 d00 d01 d02 d03 d04 d05; obtain ⟨c00, c01, c02, c03, c04, c05, d00, d01, d02, d03, d04, d05⟩ := Blk.six B0.out; obtain ⟨c10, c11, c12, c13, c14, c15, d10, d11, d12, d13, d14, d15⟩ := Blk.six B1.out)
      | ((with_reducible refine gate_dst (N := 4) rfl ?_); refine box_event ?hg (N := 4) ?hd (cs := #[.slice none 0 0, .int .i64 0, .int .i64 0, .int .i64 0, .int .i64 0, .bool false]) (t := 29) ?hr ?_; (case hd => rfl); (case hg => rfl); (case hr => first | (go_simp; done) | (go_simp; rfl)); intro g2 hg w3 hx hb; have hE02 := HF.out.ne (k := g0) (by simp) hg; have hE20 := hE02.symm; have hE12 := HF.out.ne (k := g1) (by simp) hg; have hE21 := hE12.symm; replace B0 := Zz.mk (Blk.belowW B0.out hb); replace B1 := Zz.mk (Blk.belowW B1.out hb); replace HV := Zz.mk (Fp.box (base' := 0) HV.out hg hb); replace V3 := Zz.mk (Fp.box (base' := 0) V3.out hg hb); replace HF := Zz.mk (HF.out.box hg hb (Blk.lt (show Blk w3 g2 29 _ from hx))); have B2 := Zz.mk (show Blk w3 g2 29 _ from hx); clear hg hx hb; clear c00 c01 c02 c03 c04 c05 d00 d01 d02 d03 d04 d05; clear c10 c11 c12 c13 c14 c15 d10 d11 d12 d13 d14 d15; obtain ⟨c00, c01, c02, c03, c04, c05, d00, d01, d02, d03, d04, d05⟩ := Blk.six B0.out; obtain ⟨c10, c11, c12, c13, c14, c15, d10, d11, d12, d13, d14, d15⟩ := Blk.six B1.out; obtain ⟨c20, c21, c22, c23, c24, c25, d20, d21, d22, d23, d24, d25⟩ := Blk.six B2.out)
      | (go_at_call 36; (with_reducible refine (K.out _ _ HF.out HV.out V3.out).mono ?_); rintro _ wc ⟨A', m', c', rfl, hv, hb⟩; have N0 := Zz.mk (Fp.told (base' := 0) hv HF.out); clear hv HV; replace B0 := Zz.mk (Blk.belowW B0.out hb); replace B1 := Zz.mk (Blk.belowW B1.out hb); replace B2 := Zz.mk (Blk.belowW B2.out hb); replace V3 := Zz.mk (Fp.step (base' := 0) V3.out hb); replace HF := Zz.mk (HF.out.call hb); clear hb; have HV := N0; clear N0; clear c00 c01 c02 c03 c04 c05 d00 d01 d02 d03 d04 d05; clear c10 c11 c12 c13 c14 c15 d10 d11 d12 d13 d14 d15; clear c20 c21 c22 c23 c24 c25 d20 d21 d22 d23 d24 d25; obtain ⟨c00, c01, c02, c03, c04, c05, d00, d01, d02, d03, d04, d05⟩ := Blk.six B0.out; obtain ⟨c10, c11, c12, c13, c14, c15, d10, d11, d12, d13, d14, d15⟩ := Blk.six B1.out; obtain ⟨c20, c21, c22, c23, c24, c25, d20, d21, d22, d23, d24, d25⟩ := Blk.six B2.out)
      | ((with_reducible refine gate_store (t := 29) (p := 4) rfl ?_); refine store_event rfl rfl (g := g2) (cells := #[.slice A' m' c', .int .i64 S2.no, .int .i64 S2.ops, .int .i64 S2.fuse, .int .i64 S2.fault, .bool S2.down]) (by first | rfl | (go_simp; done) | (go_simp; rfl)) (by first | rfl | (go_simp; done) | (go_simp; rfl)) B2.out info29 rfl (by simp [Value.oneCell']) ?_; intro ws hx hk hz hb; replace B2 := Zz.mk (hx); replace B0 := Zz.mk (show Blk ws g0 29 _ from blk_kept B0.out hk hE02); replace B1 := Zz.mk (show Blk ws g1 34 _ from blk_kept B1.out hk hE12); replace HV := Zz.mk (Fp.store (base' := 0) HV.out hk (by simp)); replace V3 := Zz.mk (Fp.store (base' := 0) V3.out hk (by simp)); replace HF := Zz.mk (HF.out.store hz hb (by simp)); clear hx hk hz hb; skip; clear c00 c01 c02 c03 c04 c05 d00 d01 d02 d03 d04 d05; clear c10 c11 c12 c13 c14 c15 d10 d11 d12 d13 d14 d15; clear c20 c21 c22 c23 c24 c25 d20 d21 d22 d23 d24 d25; obtain ⟨c00, c01, c02, c03, c04, c05, d00, d01, d02, d03, d04, d05⟩ := Blk.six B0.out; obtain ⟨c10, c11, c12, c13, c14, c15, d10, d11, d12, d13, d14, d15⟩ := Blk.six B1.out; obtain ⟨c20, c21, c22, c23, c24, c25, d20, d21, d22, d23, d24, d25⟩ := Blk.six B2.out))
  exact rdo_end HF.out (by simp) HV.out B2.out rfl rfl rfl rfl
set_option maxRecDepth 100000 in
set_option maxHeartbeats 1000000 in
theorem rdo_down {w : World} {P : Nat → Prop} {A : Option Addr} {c : Nat} {S : PS} (h : Kd.V k47 47 w w.heap.size P (.slice A (S.l.map toF).length c) (S.l.map toF)) {kd : Int} {s t : ByteArray} {bs : List Int} {A3 A5 : Option Addr} {n3 n5 c3 c5 : Nat} {n : Int} (h3 : Kd.V (Kd.int .u8) 5 w w.heap.size P (.slice A3 n3 c3) bs) (hd : S.down = true) (hk : 0 ≤ kd ∧ kd ≤ 4) :
    Calls Try.prog 15 #[.agg #[.slice A (S.l.map toF).length c, .int .i64 S.no, .int .i64 S.ops, .int .i64 S.fuse, .int .i64 S.fault, .bool S.down], .agg #[.int .i64 kd, .string s, .string t, .slice A3 n3 c3, .int .i64 n, .slice A5 n5 c5]] w fun e w' =>
      ∃ v', e = .returned (.tuple #[v', .int .i64 100]) ∧ RSt w' (fun k => P k ∨ w.heap.size ≤ k) v' S ∧ Below w.heap.size w w' := by
  have hdd : S.down = true := hd
  rw [hdd]
  generalize hm : (S.l.map toF).length = m at h ⊢
  have HV := Zz.mk (Fp.start (base' := 0) h)
  have V3 := Zz.mk (Fp.start (base' := 0) h3)
  have HF := Zz.mk (Fr.start w)
  have k5 : decide (kd = 5) = false := decide_eq_false (by omega)
  have l5 : (kd == 5) = false := by rw [beq_eq_false_iff_ne]; omega
  have k6 : decide (kd = 6) = false := decide_eq_false (by omega)
  have l6 : (kd == 6) = false := by rw [beq_eq_false_iff_ne]; omega
  have k7 : decide (kd = 7) = false := decide_eq_false (by omega)
  have l7 : (kd == 7) = false := by rw [beq_eq_false_iff_ne]; omega
  have k8 : decide (kd = 8) = false := decide_eq_false (by omega)
  have l8 : (kd == 8) = false := by rw [beq_eq_false_iff_ne]; omega
  skip
  have HD := Zz.mk hd
  clear h h3 hm hd hdd hk
  go_enter Try.func15, Try.ntmps15
  have hu29 := Try.underlying29
  have hu34 := Try.underlying34
  go_upto_region 13 with (first
      | ((with_reducible refine gate_dst (N := 2) rfl ?_); refine box_event ?hg (N := 2) ?hd (cs := #[.slice A m c, .int .i64 S.no, .int .i64 S.ops, .int .i64 S.fuse, .int .i64 S.fault, .bool true]) (t := 29) ?hr ?_; (case hd => rfl); (case hg => rfl); (case hr => first | (go_simp; done) | (go_simp; rfl)); intro g0 hg w1 hx hb; replace HV := Zz.mk (Fp.box (base' := 0) HV.out hg hb); replace V3 := Zz.mk (Fp.box (base' := 0) V3.out hg hb); replace HF := Zz.mk (HF.out.box hg hb (Blk.lt (show Blk w1 g0 29 _ from hx))); have B0 := Zz.mk (show Blk w1 g0 29 _ from hx); clear hg hx hb; obtain ⟨c00, c01, c02, c03, c04, c05, d00, d01, d02, d03, d04, d05⟩ := Blk.six B0.out)
      | ((with_reducible refine gate_dst (N := 3) rfl ?_); refine box_event ?hg (N := 3) ?hd (cs := #[.int .i64 kd, .string s, .string t, .slice A3 n3 c3, .int .i64 n, .slice A5 n5 c5]) (t := 34) ?hr ?_; (case hd => rfl); (case hg => rfl); (case hr => first | (go_simp; done) | (go_simp; rfl)); intro g1 hg w2 hx hb; have hE01 := HF.out.ne (k := g0) (by simp) hg; have hE10 := hE01.symm; replace B0 := Zz.mk (Blk.belowW B0.out hb); replace HV := Zz.mk (Fp.box (base' := 0) HV.out hg hb); replace V3 := Zz.mk (Fp.box (base' := 0) V3.out hg hb); replace HF := Zz.mk (HF.out.box hg hb (Blk.lt (show Blk w2 g1 34 _ from hx))); have B1 := Zz.mk (show Blk w2 g1 34 _ from hx); clear hg hx hb; clear c00 c01 c02 c03 c04 c05 d00 d01 d02 d03 d04 d05; obtain ⟨c00, c01, c02, c03, c04, c05, d00, d01, d02, d03, d04, d05⟩ := Blk.six B0.out; obtain ⟨c10, c11, c12, c13, c14, c15, d10, d11, d12, d13, d14, d15⟩ := Blk.six B1.out)
      | ((with_reducible refine gate_dst (N := 4) rfl ?_); refine box_event ?hg (N := 4) ?hd (cs := #[.slice none 0 0, .int .i64 0, .int .i64 0, .int .i64 0, .int .i64 0, .bool false]) (t := 29) ?hr ?_; (case hd => rfl); (case hg => rfl); (case hr => first | (go_simp; done) | (go_simp; rfl)); intro g2 hg w3 hx hb; have hE02 := HF.out.ne (k := g0) (by simp) hg; have hE20 := hE02.symm; have hE12 := HF.out.ne (k := g1) (by simp) hg; have hE21 := hE12.symm; replace B0 := Zz.mk (Blk.belowW B0.out hb); replace B1 := Zz.mk (Blk.belowW B1.out hb); replace HV := Zz.mk (Fp.box (base' := 0) HV.out hg hb); replace V3 := Zz.mk (Fp.box (base' := 0) V3.out hg hb); replace HF := Zz.mk (HF.out.box hg hb (Blk.lt (show Blk w3 g2 29 _ from hx))); have B2 := Zz.mk (show Blk w3 g2 29 _ from hx); clear hg hx hb; clear c00 c01 c02 c03 c04 c05 d00 d01 d02 d03 d04 d05; clear c10 c11 c12 c13 c14 c15 d10 d11 d12 d13 d14 d15; obtain ⟨c00, c01, c02, c03, c04, c05, d00, d01, d02, d03, d04, d05⟩ := Blk.six B0.out; obtain ⟨c10, c11, c12, c13, c14, c15, d10, d11, d12, d13, d14, d15⟩ := Blk.six B1.out; obtain ⟨c20, c21, c22, c23, c24, c25, d20, d21, d22, d23, d24, d25⟩ := Blk.six B2.out))
  iterate 14 go_step
  exact rst_end HF.out (by simp) HV.out ⟨rfl, rfl, rfl, rfl, HD.out⟩ B2.out rfl rfl rfl rfl
theorem RSt.open_ {w : World} {base : Nat} {P : Nat → Prop} {v : Value} {S : PS} (h : RSt w P v S) : ∃ A m c, v = .agg #[.slice A m c, .int .i64 S.no, .int .i64 S.ops, .int .i64 S.fuse, .int .i64 S.fault, .bool S.down] ∧ Kd.V k47 47 w base P (.slice A m c) (S.l.map toF) := by
  obtain ⟨A, c, rfl, h⟩ := h
  exact ⟨A, _, c, rfl, V_rebase h⟩
theorem rdo_calls {w : World} {P : Nat → Prop} {v : Value} {S : PS} (h : RSt w P v S) (hB : BoundP S) (hN : NumP S) (x : S34) (h0 : 0 ≤ x.f0) (h4 : x.f0 ≤ 4) {A3 A5 : Option Addr} {n3 n5 c3 c5 : Nat} (h3 : Kd.V (Kd.int .u8) 5 w w.heap.size P (.slice A3 n3 c3) x.f3) (hbs : x.f3.length ≤ 1000000) :
    Calls Try.prog 15 #[v, .agg #[.int .i64 x.f0, .string x.f1, .string x.f2, .slice A3 n3 c3, .int .i64 x.f4, .slice A5 n5 c5]] w fun e w' =>
      ∃ v', e = .returned (.tuple #[v', .int .i64 (doP S x).1]) ∧ RSt w' (fun k => P k ∨ w.heap.size ≤ k) v' (doP S x).2 ∧ Below w.heap.size w w' := by
  obtain ⟨A, c, rfl, h⟩ := h
  cases hd : S.down with
  | true =>
    have hdo : doP S x = (100, S) := by
      unfold doP writeP syncP renameP removeP cutP beginP
      simp [hd]
    rw [hdo, ← hd]
    exact rdo_down h h3 hd ⟨h0, h4⟩
  | false =>
    rw [← hd]
    by_cases hk : x.f0 = 0
    · refine rdo_write h h3 hd hk (fun G w' hF hV hV3 => ?_)
      have := refw_calls (S := S) (V_rebase (base' := w'.heap.size) hV) hB hN hd x hk (A5 := A5) (n5 := n5) (c5 := c5) (V_rebase (base' := w'.heap.size) hV3) hbs
      rw [hd] at this
      refine this.mono ?_
      rintro _ w'' ⟨v', rfl, hr, hb⟩
      obtain ⟨A', m', c', rfl, hv⟩ := RSt.open_ (base := 0) hr
      exact ⟨A', m', c', rfl, hv, hb⟩
    · refine rdo_known h h3 hd ⟨by omega, h4⟩ (fun G w' hF hV hV3 => ?_)
      have := known_calls (S := S) (V_rebase (base' := w'.heap.size) hV) hB hN hd x (by omega) h4 (A3 := A3) (n3 := n3) (c3 := c3) (A5 := A5) (n5 := n5) (c5 := c5)
      rw [hd] at this
      refine this.mono ?_
      rintro _ w'' ⟨v', rfl, hr, hb⟩
      obtain ⟨A', m', c', rfl, hv⟩ := RSt.open_ (base := 0) hr
      exact ⟨A', m', c', rfl, hv, hb⟩
end Go.Proofs.Ytcpkoajnepijkaa

