/- Parts of the proof of the law that the last file states; declarations that nothing mentions are left out by a program. No conditions. -/
import Derived.Test.YtcpkoajnepijkaaRefKq
set_option linter.unusedVariables false
set_option linter.unusedSimpArgs false
namespace Go.Proofs.Ytcpkoajnepijkaa
open Go.RowKit Go.Proofs.YtcpkoajnepijkaaL Go.Proofs.YtcpkoajnepijkaaW.PrintWords Go.Proofs.Ytcpkoajnepijkaa.Q
theorem known_find {w : World} {P : Nat → Prop} {A : Option Addr} {c : Nat} {S : PS} (h : Kd.V k47 47 w w.heap.size P (.slice A (S.l.map toF).length c) (S.l.map toF)) (hB : BoundP S) (s : ByteArray) {i : Int} (hi : idxP s S.l 0 = i) {m : Nat} (hm : (S.l.map toF).length = m) :
    ∀ w', Below w.heap.size w w' → Calls Try.prog 52 #[.agg #[.slice A m c, .int .i64 S.no, .int .i64 S.ops, .int .i64 S.fuse, .int .i64 S.fault, .bool S.down], .string s] w' fun e w'' => e = .returned (.int .i64 i) ∧ Below w'.heap.size w' w'' := by
  intro w' hb
  subst hm
  have := refFind_calls (Kd.V_below h hb) hB s
  rw [hi] at this
  exact this
theorem known_count {w : World} {P : Nat → Prop} {A : Option Addr} {c : Nat} {S : PS} (h : Kd.V k47 47 w w.heap.size P (.slice A (S.l.map toF).length c) (S.l.map toF)) (hN : NumP S) (hd : S.down = false) {m : Nat} (hm : (S.l.map toF).length = m) :
    ∀ w', Below w.heap.size w w' → Calls Try.prog 54 #[.agg #[.slice A m c, .int .i64 S.no, .int .i64 S.ops, .int .i64 S.fuse, .int .i64 S.fault, .bool S.down]] w' fun e w'' => ∃ A' c', e = .returned (.agg #[.slice A' m c', .int .i64 S.no, .int .i64 (countP S).ops, .int .i64 (countP S).fuse, .int .i64 S.fault, .bool (countP S).down]) ∧
      Kd.V k47 47 w'' w''.heap.size (fun k => (P k ∧ k < w.heap.size) ∨ w'.heap.size ≤ k) (.slice A' (S.l.map toF).length c') (S.l.map toF) ∧ Below w'.heap.size w' w'' := by
  intro w' hb
  subst hm
  have hv := Kd.V_below (Kd.V_bound h) hb
  refine (souffleurref10_count.calls _ A c (S.l.map toF) S.no S.ops S.fuse S.fault S.down _ _ _ _ _ _ w' (V_any hv) (count_tells S _ _ hN.fuse0 hN.fuse1 hN.ops hd _)).mono ?_
  rintro _ w'' ⟨v, rfl, hv2, hb2⟩
  obtain ⟨A', c', rfl⟩ := Kd.V_slice hv2
  exact ⟨A', c', rfl, V_any hv2, hb2⟩
theorem known_down_end {fn : Func} {w w2 w4 w6 : World} {P : Nat → Prop} {A' : Option Addr} {c' m g0 g2 : Nat} {S S1 : PS} {a : Act} (hS : S1.l = S.l ∧ S1.no = S.no ∧ S1.fault = S.fault) (hm : (S.l.map toF).length = m) (hdn : S1.down = true)
    (hv : Kd.V k47 47 w6 w6.heap.size (fun k => (P k ∧ k < w.heap.size) ∨ w4.heap.size ≤ k) (.slice A' m c') (S.l.map toF)) (h0 : g0 = w.heap.size) (h2 : g2 = w2.heap.size) (hs2 : w.heap.size ≤ w2.heap.size) (hs4 : w.heap.size ≤ w4.heap.size) (hl2 : g2 < w4.heap.size)
    {x0 x1 x2 x3 x4 x5 : Value} (hB : Blk w6 g2 29 #[x0, x1, x2, x3, x4, x5]) (hb : Below w.heap.size w w6) (hr : fn.results = #[.cell 4 29, .tmp 5]) (hp : a.tmps.getD 4 undef = .pointer (some ⟨g2, 0, none⟩)) (he : a.tmps.getD 5 undef = .int .i64 100) (hd : a.defers = []) :
    bodyPost Try.prog fn (fun e w' => ∃ v', e = .returned (.tuple #[v', .int .i64 100]) ∧ RSt w' (fun k => P k ∨ w.heap.size ≤ k) v' S1 ∧ Below w.heap.size w w') .ret a
      ((((((w6.setCell ⟨g2, 0, none⟩ (.slice A' m c')).setCell ⟨g2, 1, none⟩ (.int .i64 S.no)).setCell ⟨g2, 2, none⟩ (.int .i64 S1.ops)).setCell ⟨g2, 3, none⟩ (.int .i64 S1.fuse)).setCell ⟨g2, 4, none⟩ (.int .i64 S.fault)).setCell ⟨g2, 5, none⟩ (.bool true)) := by
  obtain ⟨e1, e2, e3⟩ := hS
  refine ret29 hr hp (Blk.fill hB _ _ _ _ _ _) rfl he hd ⟨_, rfl, ?_, fill_below hb (by omega) _ _ _ _ _ _⟩
  refine ⟨A', c', by rw [e1, e2, e3, hm, hdn], ?_⟩
  rw [e1, hm]
  exact Kd.V_mono (V_fill hv (fun k hk => by rcases hk with hk | hk <;> omega) _ _ _ _ _ _) (fun k hk => hk.elim (fun h => .inl h.1) (fun h => .inr (Nat.le_trans hs4 h)))
set_option maxRecDepth 100000 in
set_option maxHeartbeats 1000000 in
theorem known_down {w : World} {P : Nat → Prop} {A : Option Addr} {c : Nat} {S : PS} (h : Kd.V k47 47 w w.heap.size P (.slice A (S.l.map toF).length c) (S.l.map toF)) (hB : BoundP S) (hN : NumP S) (hd : S.down = false) {kd : Int} {s t : ByteArray} {A3 A5 : Option Addr} {n3 n5 c3 c5 : Nat} {n : Int} {i : Nat} (hf : idxP s S.l 0 = (i : Int))
    (ht : kd = 2 → 1 ≤ t.size ∧ t.size ≤ 20) (hfu : S.fuse = 0) :
    Calls Try.prog 36 #[.agg #[.slice A (S.l.map toF).length c, .int .i64 S.no, .int .i64 S.ops, .int .i64 S.fuse, .int .i64 S.fault, .bool S.down], .agg #[.int .i64 kd, .string s, .string t, .slice A3 n3 c3, .int .i64 n, .slice A5 n5 c5]] w fun e w' =>
      ∃ v', e = .returned (.tuple #[v', .int .i64 100]) ∧ RSt w' (fun k => P k ∨ w.heap.size ≤ k) v' (countP S) ∧ Below w.heap.size w w' := by
  have X := Zz.mk (known_find h hB s hf rfl)
  have Y := Zz.mk (known_count h hN hd rfl)
  generalize hm : (S.l.map toF).length = m at X Y ⊢
  rw [hm] at h
  have HV := Zz.mk h
  have HM := Zz.mk hm
  have hdn : (countP S).down = true := by simp [countP, hfu]
  have hS1 : Zz ((countP S).l = S.l ∧ (countP S).no = S.no ∧ (countP S).fault = S.fault) := ⟨⟨rfl, rfl, rfl⟩⟩
  generalize countP S = S1 at Y hdn hS1 ⊢
  have i0 : decide ((i : Int) < 0) = false := decide_eq_false (by omega)
  clear h hf hm hB hN hd hfu
  by_cases hk : kd = 2
  · subst hk
    obtain ⟨ht1, ht2⟩ := ht rfl
    have ht1b : decide ((t.size : Int) < 1) = false := decide_eq_false (by omega)
    have ht2b : decide ((20 : Int) < (t.size : Int)) = false := decide_eq_false (by omega)
    clear ht ht1 ht2
    go_enter Try.func36, Try.ntmps36
    have hu29 := Try.underlying29
    have hu34 := Try.underlying34
    have hu47 := Try.underlying47
    go_wp2_with (first
      | ((with_reducible refine gate_dst (N := 2) rfl ?_); refine box_event ?hg (N := 2) ?hd (cs := #[.slice A m c, .int .i64 S.no, .int .i64 S.ops, .int .i64 S.fuse, .int .i64 S.fault, .bool S.down]) (t := 29) ?hr ?_; (case hd => rfl); (case hg => rfl); (case hr => first | (go_simp; done) | (go_simp; rfl)); intro g0 hg0 w1 hx0 hb0; have HB := Zz.mk hb0; have B0 := Zz.mk (show Blk w1 g0 29 _ from hx0); have HG := Zz.mk hg0; clear hg0 hx0 hb0)
      | ((with_reducible refine gate_dst (N := 3) rfl ?_); refine box_event ?hg (N := 3) ?hd (cs := #[.int .i64 2, .string s, .string t, .slice A3 n3 c3, .int .i64 n, .slice A5 n5 c5]) (t := 34) ?hr ?_; (case hd => rfl); (case hg => rfl); (case hr => first | (go_simp; done) | (go_simp; rfl)); intro g1 hg1 w2 hx1 hb1; have HS1 := Zz.mk (below_size HB.out); have HB2 := Zz.mk (below_step HB.out hb1); have n0 := Zz.mk (Blk.belowW B0.out hb1); clear B0 HB; have B0 := n0; have HB := HB2; have B1 := Zz.mk (show Blk w2 g1 34 _ from hx1); have HG1 := Zz.mk hg1; clear HB2 n0 hx1 hb1 hg1)
      | ((with_reducible refine gate_dst (N := 4) rfl ?_); refine box_event ?hg (N := 4) ?hd (cs := #[.slice none 0 0, .int .i64 0, .int .i64 0, .int .i64 0, .int .i64 0, .bool false]) (t := 29) ?hr ?_; (case hd => rfl); (case hg => rfl); (case hr => first | (go_simp; done) | (go_simp; rfl)); intro g2 hg2 w3 hx2 hb2; have hn10 := (Blk.ne_ (show Blk w2 g1 34 _ from B1.out) (show Blk w2 g0 29 _ from B0.out) (by decide)); have hn20 := Nat.ne_of_gt (show g0 < g2 from hg2 ▸ Blk.lt B0.out); have hn02 := Nat.ne_of_lt (show g0 < g2 from hg2 ▸ Blk.lt B0.out); have hn12 := Nat.ne_of_lt (show g1 < g2 from hg2 ▸ Blk.lt B1.out); have n0 := Zz.mk (Blk.belowW B0.out hb2); have n1 := Zz.mk (Blk.belowW B1.out hb2); have HS2 := Zz.mk (below_size HB.out); have n2 := Zz.mk (below_step HB.out hb2); clear B0 B1 HB; have B0 := n0; have B1 := n1; have HB := n2; have B2 := Zz.mk (show Blk w3 g2 29 _ from hx2); have HG2 := Zz.mk hg2; clear n0 n1 n2 hx2 hb2 hg2; obtain ⟨c00, c01, c02, c03, c04, c05, d00, d01, d02, d03, d04, d05⟩ := Blk.six B0.out; obtain ⟨c10, c11, c12, c13, c14, c15, d10, d11, d12, d13, d14, d15⟩ := Blk.six B1.out)
      | (go_at_call 52; (with_reducible refine (X.out _ HB.out).mono ?_); rintro _ w4 ⟨rfl, hb4⟩; have n0 := Zz.mk (Blk.belowB B0.out hb4 (Blk.lt B0.out)); have n1 := Zz.mk (Blk.belowB B1.out hb4 (Blk.lt B1.out)); have n3 := Zz.mk (Blk.belowB B2.out hb4 (Blk.lt B2.out)); have n2 := Zz.mk (below_step HB.out hb4); clear B0 B1 HB B2; have B0 := n0; have B1 := n1; have HB := n2; have B2 := n3; clear n0 n1 n2 n3 hb4; clear c00 c01 c02 c03 c04 c05 d00 d01 d02 d03 d04 d05 c10 c11 c12 c13 c14 c15 d10 d11 d12 d13 d14 d15; obtain ⟨c00, c01, c02, c03, c04, c05, d00, d01, d02, d03, d04, d05⟩ := Blk.six B0.out; obtain ⟨c10, c11, c12, c13, c14, c15, d10, d11, d12, d13, d14, d15⟩ := Blk.six B1.out)
      | (go_at_call 54; (with_reducible refine (Y.out _ HB.out).mono ?_); rintro _ w5 ⟨A', c', rfl, hv5, hb4⟩; have HL := Zz.mk (Blk.lt B0.out); have HL2 := Zz.mk (Blk.lt B2.out); have HS4 := Zz.mk (below_size HB.out); have HV5 := Zz.mk hv5; clear hv5; have n0 := Zz.mk (Blk.belowB B0.out hb4 (Blk.lt B0.out)); have n1 := Zz.mk (Blk.belowB B1.out hb4 (Blk.lt B1.out)); have n3 := Zz.mk (Blk.belowB B2.out hb4 (Blk.lt B2.out)); have n2 := Zz.mk (below_step HB.out hb4); clear B0 B1 HB B2; have B0 := n0; have B1 := n1; have HB := n2; have B2 := n3; clear n0 n1 n2 n3 hb4; clear c00 c01 c02 c03 c04 c05 d00 d01 d02 d03 d04 d05 c10 c11 c12 c13 c14 c15 d10 d11 d12 d13 d14 d15)
      | ((with_reducible refine gate_store (t := 29) (p := 2) rfl ?_); refine store_event rfl rfl (g := g0) (cells := #[.slice A' m c', .int .i64 S.no, .int .i64 S1.ops, .int .i64 S1.fuse, .int .i64 S.fault, .bool S1.down]) (by first | rfl | (go_simp; done) | (go_simp; rfl)) (by first | rfl | (go_simp; done) | (go_simp; rfl)) B0.out info29 rfl (by simp [Value.oneCell']) ?_; intro w6 hx6 hk6 hz6 hb6; have n0 := Zz.mk hx6; have n1 := Zz.mk (show Blk w6 g1 34 _ from blk_kept B1.out hk6 hn10); have n2 := Zz.mk (show Blk w6 g2 29 _ from blk_kept B2.out hk6 hn20); have n3 := Zz.mk (hb6 HB.out (Nat.le_of_eq HG.out.symm)); have n4 := Zz.mk (V_any (base' := w6.heap.size) (Kd.V_kept HV5.out hk6 (fun k hk => by have h1 := HG.out; have h2 := HL.out; rcases hk with hk | hk <;> omega))); clear B0 B1 B2 HB HV5 hx6 hk6 hz6 hb6; have B0 := n0; have B1 := n1; have B2 := n2; have HB := n3; have HV5 := n4; clear n0 n1 n2 n3 n4; obtain ⟨c00, c01, c02, c03, c04, c05, d00, d01, d02, d03, d04, d05⟩ := Blk.six B0.out; obtain ⟨c10, c11, c12, c13, c14, c15, d10, d11, d12, d13, d14, d15⟩ := Blk.six B1.out; obtain ⟨c20, c21, c22, c23, c24, c25, d20, d21, d22, d23, d24, d25⟩ := Blk.six B2.out))
    exact known_down_end hS1.out HM.out hdn HV5.out HG.out HG2.out HS2.out HS4.out HL2.out B2.out HB.out rfl rfl rfl rfl
  · have hkb : (kd == 2) = false := beq_eq_false_iff_ne.mpr hk
    have hkc : decide (kd = 2) = false := decide_eq_false hk
    clear ht hk
    go_enter Try.func36, Try.ntmps36
    have hu29 := Try.underlying29
    have hu34 := Try.underlying34
    have hu47 := Try.underlying47
    go_wp2_with (first
      | ((with_reducible refine gate_dst (N := 2) rfl ?_); refine box_event ?hg (N := 2) ?hd (cs := #[.slice A m c, .int .i64 S.no, .int .i64 S.ops, .int .i64 S.fuse, .int .i64 S.fault, .bool S.down]) (t := 29) ?hr ?_; (case hd => rfl); (case hg => rfl); (case hr => first | (go_simp; done) | (go_simp; rfl)); intro g0 hg0 w1 hx0 hb0; have HB := Zz.mk hb0; have B0 := Zz.mk (show Blk w1 g0 29 _ from hx0); have HG := Zz.mk hg0; clear hg0 hx0 hb0)
      | ((with_reducible refine gate_dst (N := 3) rfl ?_); refine box_event ?hg (N := 3) ?hd (cs := #[.int .i64 kd, .string s, .string t, .slice A3 n3 c3, .int .i64 n, .slice A5 n5 c5]) (t := 34) ?hr ?_; (case hd => rfl); (case hg => rfl); (case hr => first | (go_simp; done) | (go_simp; rfl)); intro g1 hg1 w2 hx1 hb1; have HS1 := Zz.mk (below_size HB.out); have HB2 := Zz.mk (below_step HB.out hb1); have n0 := Zz.mk (Blk.belowW B0.out hb1); clear B0 HB; have B0 := n0; have HB := HB2; have B1 := Zz.mk (show Blk w2 g1 34 _ from hx1); have HG1 := Zz.mk hg1; clear HB2 n0 hx1 hb1 hg1)
      | ((with_reducible refine gate_dst (N := 4) rfl ?_); refine box_event ?hg (N := 4) ?hd (cs := #[.slice none 0 0, .int .i64 0, .int .i64 0, .int .i64 0, .int .i64 0, .bool false]) (t := 29) ?hr ?_; (case hd => rfl); (case hg => rfl); (case hr => first | (go_simp; done) | (go_simp; rfl)); intro g2 hg2 w3 hx2 hb2; have hn10 := (Blk.ne_ (show Blk w2 g1 34 _ from B1.out) (show Blk w2 g0 29 _ from B0.out) (by decide)); have hn20 := Nat.ne_of_gt (show g0 < g2 from hg2 ▸ Blk.lt B0.out); have hn02 := Nat.ne_of_lt (show g0 < g2 from hg2 ▸ Blk.lt B0.out); have hn12 := Nat.ne_of_lt (show g1 < g2 from hg2 ▸ Blk.lt B1.out); have n0 := Zz.mk (Blk.belowW B0.out hb2); have n1 := Zz.mk (Blk.belowW B1.out hb2); have HS2 := Zz.mk (below_size HB.out); have n2 := Zz.mk (below_step HB.out hb2); clear B0 B1 HB; have B0 := n0; have B1 := n1; have HB := n2; have B2 := Zz.mk (show Blk w3 g2 29 _ from hx2); have HG2 := Zz.mk hg2; clear n0 n1 n2 hx2 hb2 hg2; obtain ⟨c00, c01, c02, c03, c04, c05, d00, d01, d02, d03, d04, d05⟩ := Blk.six B0.out; obtain ⟨c10, c11, c12, c13, c14, c15, d10, d11, d12, d13, d14, d15⟩ := Blk.six B1.out)
      | (go_at_call 52; (with_reducible refine (X.out _ HB.out).mono ?_); rintro _ w4 ⟨rfl, hb4⟩; have n0 := Zz.mk (Blk.belowB B0.out hb4 (Blk.lt B0.out)); have n1 := Zz.mk (Blk.belowB B1.out hb4 (Blk.lt B1.out)); have n3 := Zz.mk (Blk.belowB B2.out hb4 (Blk.lt B2.out)); have n2 := Zz.mk (below_step HB.out hb4); clear B0 B1 HB B2; have B0 := n0; have B1 := n1; have HB := n2; have B2 := n3; clear n0 n1 n2 n3 hb4; clear c00 c01 c02 c03 c04 c05 d00 d01 d02 d03 d04 d05 c10 c11 c12 c13 c14 c15 d10 d11 d12 d13 d14 d15; obtain ⟨c00, c01, c02, c03, c04, c05, d00, d01, d02, d03, d04, d05⟩ := Blk.six B0.out; obtain ⟨c10, c11, c12, c13, c14, c15, d10, d11, d12, d13, d14, d15⟩ := Blk.six B1.out)
      | (go_at_call 54; (with_reducible refine (Y.out _ HB.out).mono ?_); rintro _ w5 ⟨A', c', rfl, hv5, hb4⟩; have HL := Zz.mk (Blk.lt B0.out); have HL2 := Zz.mk (Blk.lt B2.out); have HS4 := Zz.mk (below_size HB.out); have HV5 := Zz.mk hv5; clear hv5; have n0 := Zz.mk (Blk.belowB B0.out hb4 (Blk.lt B0.out)); have n1 := Zz.mk (Blk.belowB B1.out hb4 (Blk.lt B1.out)); have n3 := Zz.mk (Blk.belowB B2.out hb4 (Blk.lt B2.out)); have n2 := Zz.mk (below_step HB.out hb4); clear B0 B1 HB B2; have B0 := n0; have B1 := n1; have HB := n2; have B2 := n3; clear n0 n1 n2 n3 hb4; clear c00 c01 c02 c03 c04 c05 d00 d01 d02 d03 d04 d05 c10 c11 c12 c13 c14 c15 d10 d11 d12 d13 d14 d15)
      | ((with_reducible refine gate_store (t := 29) (p := 2) rfl ?_); refine store_event rfl rfl (g := g0) (cells := #[.slice A' m c', .int .i64 S.no, .int .i64 S1.ops, .int .i64 S1.fuse, .int .i64 S.fault, .bool S1.down]) (by first | rfl | (go_simp; done) | (go_simp; rfl)) (by first | rfl | (go_simp; done) | (go_simp; rfl)) B0.out info29 rfl (by simp [Value.oneCell']) ?_; intro w6 hx6 hk6 hz6 hb6; have n0 := Zz.mk hx6; have n1 := Zz.mk (show Blk w6 g1 34 _ from blk_kept B1.out hk6 hn10); have n2 := Zz.mk (show Blk w6 g2 29 _ from blk_kept B2.out hk6 hn20); have n3 := Zz.mk (hb6 HB.out (Nat.le_of_eq HG.out.symm)); have n4 := Zz.mk (V_any (base' := w6.heap.size) (Kd.V_kept HV5.out hk6 (fun k hk => by have h1 := HG.out; have h2 := HL.out; rcases hk with hk | hk <;> omega))); clear B0 B1 B2 HB HV5 hx6 hk6 hz6 hb6; have B0 := n0; have B1 := n1; have B2 := n2; have HB := n3; have HV5 := n4; clear n0 n1 n2 n3 n4; obtain ⟨c00, c01, c02, c03, c04, c05, d00, d01, d02, d03, d04, d05⟩ := Blk.six B0.out; obtain ⟨c10, c11, c12, c13, c14, c15, d10, d11, d12, d13, d14, d15⟩ := Blk.six B1.out; obtain ⟨c20, c21, c22, c23, c24, c25, d20, d21, d22, d23, d24, d25⟩ := Blk.six B2.out))
    exact known_down_end hS1.out HM.out hdn HV5.out HG.out HG2.out HS2.out HS4.out HL2.out B2.out HB.out rfl rfl rfl rfl
set_option maxRecDepth 100000 in
set_option maxHeartbeats 1000000 in
theorem known_bad {w : World} {P : Nat → Prop} {A : Option Addr} {c : Nat} {S : PS} (h : Kd.V k47 47 w w.heap.size P (.slice A (S.l.map toF).length c) (S.l.map toF)) (hB : BoundP S) {s t : ByteArray} {A3 A5 : Option Addr} {n3 n5 c3 c5 : Nat} {n : Int} {i : Nat} (hf : idxP s S.l 0 = (i : Int)) (ht : t.size < 1 ∨ 20 < t.size) :
    Calls Try.prog 36 #[.agg #[.slice A (S.l.map toF).length c, .int .i64 S.no, .int .i64 S.ops, .int .i64 S.fuse, .int .i64 S.fault, .bool S.down], .agg #[.int .i64 2, .string s, .string t, .slice A3 n3 c3, .int .i64 n, .slice A5 n5 c5]] w fun e w' =>
      ∃ v', e = .returned (.tuple #[v', .int .i64 101]) ∧ RSt w' (fun k => P k ∨ w.heap.size ≤ k) v' S ∧ Below w.heap.size w w' := by
  have X := Zz.mk (known_find h hB s hf rfl)
  generalize hm : (S.l.map toF).length = m at X ⊢
  rw [hm] at h
  have HV := Zz.mk h
  have HM := Zz.mk hm
  have i0 : decide ((i : Int) < 0) = false := decide_eq_false (by omega)
  clear h hf hm hB
  by_cases h1 : t.size < 1
  · have ht1b : decide ((t.size : Int) < 1) = true := decide_eq_true (by omega)
    clear ht h1
    go_enter Try.func36, Try.ntmps36
    have hu29 := Try.underlying29
    have hu34 := Try.underlying34
    have hu47 := Try.underlying47
    go_wp2_with (first
      | ((with_reducible refine gate_dst (N := 2) rfl ?_); refine box_event ?hg (N := 2) ?hd (cs := #[.slice A m c, .int .i64 S.no, .int .i64 S.ops, .int .i64 S.fuse, .int .i64 S.fault, .bool S.down]) (t := 29) ?hr ?_; (case hd => rfl); (case hg => rfl); (case hr => first | (go_simp; done) | (go_simp; rfl)); intro g0 hg0 w1 hx0 hb0; have HB := Zz.mk hb0; have B0 := Zz.mk (show Blk w1 g0 29 _ from hx0); have HG := Zz.mk hg0; clear hg0 hx0 hb0)
      | ((with_reducible refine gate_dst (N := 3) rfl ?_); refine box_event ?hg (N := 3) ?hd (cs := #[.int .i64 2, .string s, .string t, .slice A3 n3 c3, .int .i64 n, .slice A5 n5 c5]) (t := 34) ?hr ?_; (case hd => rfl); (case hg => rfl); (case hr => first | (go_simp; done) | (go_simp; rfl)); intro g1 hg1 w2 hx1 hb1; have HS1 := Zz.mk (below_size HB.out); have HB2 := Zz.mk (below_step HB.out hb1); have n0 := Zz.mk (Blk.belowW B0.out hb1); clear B0 HB; have B0 := n0; have HB := HB2; have B1 := Zz.mk (show Blk w2 g1 34 _ from hx1); have HG1 := Zz.mk hg1; clear HB2 n0 hx1 hb1 hg1)
      | ((with_reducible refine gate_dst (N := 4) rfl ?_); refine box_event ?hg (N := 4) ?hd (cs := #[.slice none 0 0, .int .i64 0, .int .i64 0, .int .i64 0, .int .i64 0, .bool false]) (t := 29) ?hr ?_; (case hd => rfl); (case hg => rfl); (case hr => first | (go_simp; done) | (go_simp; rfl)); intro g2 hg2 w3 hx2 hb2; have hn10 := (Blk.ne_ (show Blk w2 g1 34 _ from B1.out) (show Blk w2 g0 29 _ from B0.out) (by decide)); have hn20 := Nat.ne_of_gt (show g0 < g2 from hg2 ▸ Blk.lt B0.out); have hn02 := Nat.ne_of_lt (show g0 < g2 from hg2 ▸ Blk.lt B0.out); have hn12 := Nat.ne_of_lt (show g1 < g2 from hg2 ▸ Blk.lt B1.out); have n0 := Zz.mk (Blk.belowW B0.out hb2); have n1 := Zz.mk (Blk.belowW B1.out hb2); have HS2 := Zz.mk (below_size HB.out); have n2 := Zz.mk (below_step HB.out hb2); clear B0 B1 HB; have B0 := n0; have B1 := n1; have HB := n2; have B2 := Zz.mk (show Blk w3 g2 29 _ from hx2); have HG2 := Zz.mk hg2; clear n0 n1 n2 hx2 hb2 hg2; obtain ⟨c00, c01, c02, c03, c04, c05, d00, d01, d02, d03, d04, d05⟩ := Blk.six B0.out; obtain ⟨c10, c11, c12, c13, c14, c15, d10, d11, d12, d13, d14, d15⟩ := Blk.six B1.out)
      | (go_at_call 52; (with_reducible refine (X.out _ HB.out).mono ?_); rintro _ w4 ⟨rfl, hb4⟩; have n0 := Zz.mk (Blk.belowB B0.out hb4 (Blk.lt B0.out)); have n1 := Zz.mk (Blk.belowB B1.out hb4 (Blk.lt B1.out)); have n3 := Zz.mk (Blk.belowB B2.out hb4 (Blk.lt B2.out)); have n2 := Zz.mk (below_step HB.out hb4); clear B0 B1 HB B2; have B0 := n0; have B1 := n1; have HB := n2; have B2 := n3; clear n0 n1 n2 n3 hb4; clear c00 c01 c02 c03 c04 c05 d00 d01 d02 d03 d04 d05 c10 c11 c12 c13 c14 c15 d10 d11 d12 d13 d14 d15; obtain ⟨c00, c01, c02, c03, c04, c05, d00, d01, d02, d03, d04, d05⟩ := Blk.six B0.out; obtain ⟨c10, c11, c12, c13, c14, c15, d10, d11, d12, d13, d14, d15⟩ := Blk.six B1.out; obtain ⟨c20, c21, c22, c23, c24, c25, d20, d21, d22, d23, d24, d25⟩ := Blk.six B2.out))
    have hg2 := HG2.out
    have hs2 := HS2.out
    refine ret29 rfl rfl (Blk.fill B2.out _ _ _ _ _ _) rfl rfl rfl ⟨_, rfl, ?_, fill_below HB.out (by omega) _ _ _ _ _ _⟩
    refine ⟨A, c, by rw [HM.out], ?_⟩
    rw [HM.out]
    have hv := Kd.V_below (Kd.V_bound HV.out) HB.out
    have hne : ∀ k, P k ∧ k < w.heap.size → k ≠ g2 := fun k hk => (by have := hk.2; omega)
    exact Kd.V_mono (V_fill hv hne _ _ _ _ _ _) (fun k hk => .inl hk.1)
  · have ht1b : decide ((t.size : Int) < 1) = false := decide_eq_false (by omega)
    have ht2b : decide ((20 : Int) < (t.size : Int)) = true := decide_eq_true (by omega)
    clear ht h1
    go_enter Try.func36, Try.ntmps36
    have hu29 := Try.underlying29
    have hu34 := Try.underlying34
    have hu47 := Try.underlying47
    go_wp2_with (first
      | ((with_reducible refine gate_dst (N := 2) rfl ?_); refine box_event ?hg (N := 2) ?hd (cs := #[.slice A m c, .int .i64 S.no, .int .i64 S.ops, .int .i64 S.fuse, .int .i64 S.fault, .bool S.down]) (t := 29) ?hr ?_; (case hd => rfl); (case hg => rfl); (case hr => first | (go_simp; done) | (go_simp; rfl)); intro g0 hg0 w1 hx0 hb0; have HB := Zz.mk hb0; have B0 := Zz.mk (show Blk w1 g0 29 _ from hx0); have HG := Zz.mk hg0; clear hg0 hx0 hb0)
      | ((with_reducible refine gate_dst (N := 3) rfl ?_); refine box_event ?hg (N := 3) ?hd (cs := #[.int .i64 2, .string s, .string t, .slice A3 n3 c3, .int .i64 n, .slice A5 n5 c5]) (t := 34) ?hr ?_; (case hd => rfl); (case hg => rfl); (case hr => first | (go_simp; done) | (go_simp; rfl)); intro g1 hg1 w2 hx1 hb1; have HS1 := Zz.mk (below_size HB.out); have HB2 := Zz.mk (below_step HB.out hb1); have n0 := Zz.mk (Blk.belowW B0.out hb1); clear B0 HB; have B0 := n0; have HB := HB2; have B1 := Zz.mk (show Blk w2 g1 34 _ from hx1); have HG1 := Zz.mk hg1; clear HB2 n0 hx1 hb1 hg1)
      | ((with_reducible refine gate_dst (N := 4) rfl ?_); refine box_event ?hg (N := 4) ?hd (cs := #[.slice none 0 0, .int .i64 0, .int .i64 0, .int .i64 0, .int .i64 0, .bool false]) (t := 29) ?hr ?_; (case hd => rfl); (case hg => rfl); (case hr => first | (go_simp; done) | (go_simp; rfl)); intro g2 hg2 w3 hx2 hb2; have hn10 := (Blk.ne_ (show Blk w2 g1 34 _ from B1.out) (show Blk w2 g0 29 _ from B0.out) (by decide)); have hn20 := Nat.ne_of_gt (show g0 < g2 from hg2 ▸ Blk.lt B0.out); have hn02 := Nat.ne_of_lt (show g0 < g2 from hg2 ▸ Blk.lt B0.out); have hn12 := Nat.ne_of_lt (show g1 < g2 from hg2 ▸ Blk.lt B1.out); have n0 := Zz.mk (Blk.belowW B0.out hb2); have n1 := Zz.mk (Blk.belowW B1.out hb2); have HS2 := Zz.mk (below_size HB.out); have n2 := Zz.mk (below_step HB.out hb2); clear B0 B1 HB; have B0 := n0; have B1 := n1; have HB := n2; have B2 := Zz.mk (show Blk w3 g2 29 _ from hx2); have HG2 := Zz.mk hg2; clear n0 n1 n2 hx2 hb2 hg2; obtain ⟨c00, c01, c02, c03, c04, c05, d00, d01, d02, d03, d04, d05⟩ := Blk.six B0.out; obtain ⟨c10, c11, c12, c13, c14, c15, d10, d11, d12, d13, d14, d15⟩ := Blk.six B1.out)
      | (go_at_call 52; (with_reducible refine (X.out _ HB.out).mono ?_); rintro _ w4 ⟨rfl, hb4⟩; have n0 := Zz.mk (Blk.belowB B0.out hb4 (Blk.lt B0.out)); have n1 := Zz.mk (Blk.belowB B1.out hb4 (Blk.lt B1.out)); have n3 := Zz.mk (Blk.belowB B2.out hb4 (Blk.lt B2.out)); have n2 := Zz.mk (below_step HB.out hb4); clear B0 B1 HB B2; have B0 := n0; have B1 := n1; have HB := n2; have B2 := n3; clear n0 n1 n2 n3 hb4; clear c00 c01 c02 c03 c04 c05 d00 d01 d02 d03 d04 d05 c10 c11 c12 c13 c14 c15 d10 d11 d12 d13 d14 d15; obtain ⟨c00, c01, c02, c03, c04, c05, d00, d01, d02, d03, d04, d05⟩ := Blk.six B0.out; obtain ⟨c10, c11, c12, c13, c14, c15, d10, d11, d12, d13, d14, d15⟩ := Blk.six B1.out; obtain ⟨c20, c21, c22, c23, c24, c25, d20, d21, d22, d23, d24, d25⟩ := Blk.six B2.out))
    have hg2 := HG2.out
    have hs2 := HS2.out
    refine ret29 rfl rfl (Blk.fill B2.out _ _ _ _ _ _) rfl rfl rfl ⟨_, rfl, ?_, fill_below HB.out (by omega) _ _ _ _ _ _⟩
    refine ⟨A, c, by rw [HM.out], ?_⟩
    rw [HM.out]
    have hv := Kd.V_below (Kd.V_bound HV.out) HB.out
    have hne : ∀ k, P k ∧ k < w.heap.size → k ≠ g2 := fun k hk => (by have := hk.2; omega)
    exact Kd.V_mono (V_fill hv hne _ _ _ _ _ _) (fun k hk => .inl hk.1)
end Go.Proofs.Ytcpkoajnepijkaa

