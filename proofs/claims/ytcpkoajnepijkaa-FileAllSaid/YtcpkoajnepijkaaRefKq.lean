/- Parts of the proof of the law that the last file states; declarations that nothing mentions are left out by a program. No conditions. -/
import Derived.Test.YtcpkoajnepijkaaRefQq
set_option linter.unusedVariables false
set_option linter.unusedSimpArgs false
namespace Go.Proofs.Ytcpkoajnepijkaa
open Go.RowKit Go.Proofs.YtcpkoajnepijkaaL Go.Proofs.YtcpkoajnepijkaaW.PrintWords Go.Proofs.Ytcpkoajnepijkaa.Q
def RSt (w : World) (P : Nat → Prop) (v : Value) (S : PS) : Prop :=
  ∃ A c, v = .agg #[.slice A (S.l.map toF).length c, .int .i64 S.no, .int .i64 S.ops, .int .i64 S.fuse, .int .i64 S.fault, .bool S.down] ∧ Kd.V k47 47 w w.heap.size P (.slice A (S.l.map toF).length c) (S.l.map toF)
section
variable {w w' : World} {P Q : Nat → Prop} {v : Value} {S : PS}
end
structure NumP (S : PS) : Prop where
  no : S.no ≤ 1000000
  ops : S.ops ≤ 1000000
  fuse0 : -1 ≤ S.fuse
  fuse1 : S.fuse ≤ 9223372036854775807
  fault0 : -1 ≤ S.fault
  fault1 : S.fault ≤ 9223372036854775807
theorem refFind_calls {w : World} {base : Nat} {P : Nat → Prop} {A : Option Addr} {c : Nat} {S : PS} (h : Kd.V k47 47 w base P (.slice A (S.l.map toF).length c) (S.l.map toF)) (hB : BoundP S) (s : ByteArray) :
    Calls Try.prog 52 #[.agg #[.slice A (S.l.map toF).length c, .int .i64 S.no, .int .i64 S.ops, .int .i64 S.fuse, .int .i64 S.fault, .bool S.down], .string s] w fun e w' => e = .returned (.int .i64 (idxP s S.l 0)) ∧ Below w.heap.size w w' := by
  obtain ⟨_, hc, hF⟩ := Kd.V_at h
  exact souffleurref10_find.calls (S.l.length + 1) A c (S.l.map toF) _ _ _ _ _ s _ w (Kd.F_now hF) hc (find_tells S.l (by have := hB.1; omega) s _ _ _ _ _ (by omega))
theorem Blk.six {w : World} {g : Nat} {t : TypeId} {a b c d e f : Value} (h : Blk w g t #[a, b, c, d, e, f]) : w.cell? ⟨g, 0, none⟩ = some a ∧ w.cell? ⟨g, 1, none⟩ = some b ∧ w.cell? ⟨g, 2, none⟩ = some c ∧ w.cell? ⟨g, 3, none⟩ = some d ∧ w.cell? ⟨g, 4, none⟩ = some e ∧ w.cell? ⟨g, 5, none⟩ = some f ∧
    w.frozen? ⟨g, 0, none⟩ = false ∧ w.frozen? ⟨g, 1, none⟩ = false ∧ w.frozen? ⟨g, 2, none⟩ = false ∧ w.frozen? ⟨g, 3, none⟩ = false ∧ w.frozen? ⟨g, 4, none⟩ = false ∧ w.frozen? ⟨g, 5, none⟩ = false :=
  ⟨h.cell 0 rfl, h.cell 1 rfl, h.cell 2 rfl, h.cell 3 rfl, h.cell 4 rfl, h.cell 5 rfl, h.frozen 0, h.frozen 1, h.frozen 2, h.frozen 3, h.frozen 4, h.frozen 5⟩
theorem Blk.belowB {w w' : World} {g B : Nat} {t : TypeId} {cs : Array Value} (h : Blk w g t cs) (hb : Below B w w') (hg : g < B) : Blk w' g t cs := (hb.block g hg).trans h
theorem Blk.belowW {w w' : World} {g : Nat} {t : TypeId} {cs : Array Value} (h : Blk w g t cs) (hb : Below w.heap.size w w') : Blk w' g t cs := Blk.belowB h hb (Blk.lt h)
theorem Blk.fill {w : World} {g : Nat} {t : TypeId} {x0 x1 x2 x3 x4 x5 : Value} (h : Blk w g t #[x0, x1, x2, x3, x4, x5]) (a b c d e f : Value) :
    Blk ((((((w.setCell ⟨g, 0, none⟩ a).setCell ⟨g, 1, none⟩ b).setCell ⟨g, 2, none⟩ c).setCell ⟨g, 3, none⟩ d).setCell ⟨g, 4, none⟩ e).setCell ⟨g, 5, none⟩ f) g t #[a, b, c, d, e, f] := by
  have := Blk.set_ (Blk.set_ (Blk.set_ (Blk.set_ (Blk.set_ (Blk.set_ h 0 a) 1 b) 2 c) 3 d) 4 e) 5 f
  simpa using this
theorem fill_below {w0 w : World} {g : Nat} (h : Below w0.heap.size w0 w) (hg : w0.heap.size ≤ g) (a b c d e f : Value) :
    Below w0.heap.size w0 ((((((w.setCell ⟨g, 0, none⟩ a).setCell ⟨g, 1, none⟩ b).setCell ⟨g, 2, none⟩ c).setCell ⟨g, 3, none⟩ d).setCell ⟨g, 4, none⟩ e).setCell ⟨g, 5, none⟩ f) :=
  below_set (below_set (below_set (below_set (below_set (below_set h hg) hg) hg) hg) hg) hg
theorem V_any {w : World} {base base' : Nat} {P : Nat → Prop} {v : Value} {xs : List S47} (h : Kd.V k47 47 w base P v xs) : Kd.V k47 47 w base' P v xs := Kd.V_map h (fun _ hf => hf)
theorem V_fill {w : World} {base base' g : Nat} {P : Nat → Prop} {v : Value} {xs : List S47} (h : Kd.V k47 47 w base P v xs) (hg : ∀ k, P k → k ≠ g) (a b c d e f : Value) :
    Kd.V k47 47 ((((((w.setCell ⟨g, 0, none⟩ a).setCell ⟨g, 1, none⟩ b).setCell ⟨g, 2, none⟩ c).setCell ⟨g, 3, none⟩ d).setCell ⟨g, 4, none⟩ e).setCell ⟨g, 5, none⟩ f) base' P v xs :=
  V_any <| Kd.V_far (Kd.V_far (Kd.V_far (Kd.V_far (Kd.V_far (Kd.V_far h hg _) hg _) hg _) hg _) hg _) hg _
theorem info29 : (Try.prog.info? 29).map (·.size) = some 6 := by kernel_rfl
set_option maxRecDepth 100000 in
theorem ret29 {fn : Func} {R : Ending → World → Prop} (h : fn.results = #[.cell 4 29, .tmp 5]) {a : Act} {w : World} {g : Nat} {cs : Array Value} {n : Int} (hp : a.tmps.getD 4 undef = .pointer (some ⟨g, 0, none⟩)) (hB : Blk w g 29 cs) (hs : cs.size = 6) (he : a.tmps.getD 5 undef = .int .i64 n) (hd : a.defers = [])
    (hR : R (.returned (.tuple #[.agg cs, .int .i64 n])) w) : bodyPost Try.prog fn R .ret a w := by
  refine bodyPost_ret ?_ hd hR
  rw [results_cell_tmp h, hp, he]
  simp [asAddr, Result.andThen, run_loadVar_row w g 29 29 cs (0, 0) _ hB Try.underlying29 rfl (by rw [hs]; exact info29)]
theorem store_event {P : Program} {ops : Array Oper} {rest : List Oper} {o : Oper} {a : Act} {w : World} {Q : Exit → Act → World → Prop} {ty : TypeId} {x y : Operand} (ho : o.op = .store ty x y) (hgd : o.guard = none) {g : Nat} {cells : Array Value} (hx : a.eval x = .pointer (some ⟨g, 0, none⟩)) (hy : a.eval y = .agg cells)
    {t : TypeId} {old : Array Value} (hg : Blk w g t old) (hi : (P.info? ty).map (·.size) = some cells.size) (hold : old.size = cells.size) (h1 : cells.all (·.oneCell') = true)
    (h : ∀ w', Blk w' g t cells → YtcpkoajnepijkaaW.PrintWords.Kept w w' (fun k => k = g) → w'.heap.size = w.heap.size → (∀ {B w0}, Below B w0 w → B ≤ g → Below B w0 w') → wpList P ops Q rest (a.put o.dst undef) w') : wpList P ops Q (o :: rest) a w :=
  wpList_store_row hgd ty x y ho g cells hx hy t old hg hi hold h1 (h _ (setRow_heap w g old cells t (0, 0) hg) ⟨by rw [size_setRow]; exact Nat.le_refl _, fun i _ hn => setRow_other w g i cells hn⟩ (size_setRow w g cells) (fun hb hB => below_setRow hb hB cells))
set_option maxRecDepth 100000 in
set_option maxHeartbeats 400000 in
theorem known_no {w : World} {P : Nat → Prop} {A : Option Addr} {c : Nat} {S : PS} (h : Kd.V k47 47 w w.heap.size P (.slice A (S.l.map toF).length c) (S.l.map toF)) (hB : BoundP S) {kd : Int} {s t : ByteArray} {A3 A5 : Option Addr} {n3 n5 c3 c5 : Nat} {n : Int} (hf : findP s S.l = none) :
    Calls Try.prog 36 #[.agg #[.slice A (S.l.map toF).length c, .int .i64 S.no, .int .i64 S.ops, .int .i64 S.fuse, .int .i64 S.fault, .bool S.down], .agg #[.int .i64 kd, .string s, .string t, .slice A3 n3 c3, .int .i64 n, .slice A5 n5 c5]] w fun e w' =>
      ∃ v', e = .returned (.tuple #[v', .int .i64 101]) ∧ RSt w' (fun k => P k ∨ w.heap.size ≤ k) v' S ∧ Below w.heap.size w w' := by
  have hix : idxP s S.l 0 = -1 := by
    rcases idx_find s S.l 0 with ⟨h1, h2⟩ | ⟨i, f, h1, h2, h3⟩
    · exact h1
    · rw [hf] at h3; cases h3
  have X : Zz (∀ w', Below w.heap.size w w' → Calls Try.prog 52 #[.agg #[.slice A (S.l.map toF).length c, .int .i64 S.no, .int .i64 S.ops, .int .i64 S.fuse, .int .i64 S.fault, .bool S.down], .string s] w' fun e w'' => e = .returned (.int .i64 (-1)) ∧ Below w'.heap.size w' w'') := ⟨fun w' hb => by
    have := refFind_calls (Kd.V_below h hb) hB s
    rw [hix] at this
    exact this⟩
  have HV := Zz.mk h
  have HE := Zz.mk (rfl : (S.l.map toF).length = (S.l.map toF).length)
  generalize hm : (S.l.map toF).length = m at X
  have HM := Zz.mk hm
  clear h hf hix HE hm
  go_enter Try.func36, Try.ntmps36
  have hu29 := Try.underlying29
  have hu34 := Try.underlying34
  have hu47 := Try.underlying47
  go_wp2_with (first
    | ((with_reducible refine gate_dst (N := 2) rfl ?_); refine box_event ?hg (N := 2) ?hd (cs := #[.slice A m c, .int .i64 S.no, .int .i64 S.ops, .int .i64 S.fuse, .int .i64 S.fault, .bool S.down]) (t := 29) ?hr ?_; (case hd => rfl); (case hg => rfl); (case hr => first | (go_simp; done) | (go_simp; rfl)); intro g0 hg0 w1 hx0 hb0; have HB := Zz.mk hb0; have B0 := Zz.mk (show Blk w1 g0 29 _ from hx0); have HG := Zz.mk hg0; clear hg0 hx0 hb0)
    | ((with_reducible refine gate_dst (N := 3) rfl ?_); refine box_event ?hg (N := 3) ?hd (cs := #[.int .i64 kd, .string s, .string t, .slice A3 n3 c3, .int .i64 n, .slice A5 n5 c5]) (t := 34) ?hr ?_; (case hd => rfl); (case hg => rfl); (case hr => first | (go_simp; done) | (go_simp; rfl)); intro g1 hg1 w2 hx1 hb1; have HS1 := Zz.mk (below_size HB.out); have HB2 := Zz.mk (below_step HB.out hb1); have n0 := Zz.mk (Blk.belowW B0.out hb1); clear B0 HB; have B0 := n0; have HB := HB2; have B1 := Zz.mk (show Blk w2 g1 34 _ from hx1); have HG1 := Zz.mk hg1; clear HB2 n0 hx1 hb1 hg1)
    | ((with_reducible refine gate_dst (N := 4) rfl ?_); refine box_event ?hg (N := 4) ?hd (cs := #[.slice none 0 0, .int .i64 0, .int .i64 0, .int .i64 0, .int .i64 0, .bool false]) (t := 29) ?hr ?_; (case hd => rfl); (case hg => rfl); (case hr => first | (go_simp; done) | (go_simp; rfl)); intro g2 hg2 w3 hx2 hb2; have n0 := Zz.mk (Blk.belowW B0.out hb2); have n1 := Zz.mk (Blk.belowW B1.out hb2); have HS2 := Zz.mk (below_size HB.out); have n2 := Zz.mk (below_step HB.out hb2); clear B0 B1 HB; have B0 := n0; have B1 := n1; have HB := n2; have B2 := Zz.mk (show Blk w3 g2 29 _ from hx2); have hn20 := (Blk.ne_ (show Blk w3 g1 34 _ from B1.out) (show Blk w3 g2 29 _ from hx2) (by decide)); have HG2 := Zz.mk hg2; clear n0 n1 n2 hx2 hb2 hg2; obtain ⟨c00, c01, c02, c03, c04, c05, d00, d01, d02, d03, d04, d05⟩ := Blk.six B0.out; obtain ⟨c10, c11, c12, c13, c14, c15, d10, d11, d12, d13, d14, d15⟩ := Blk.six B1.out)
    | (go_at_call 52; (with_reducible refine (X.out _ HB.out).mono ?_); rintro _ w4 ⟨rfl, hb4⟩; have n0 := Zz.mk (Blk.belowB B0.out hb4 (Blk.lt B0.out)); have n1 := Zz.mk (Blk.belowB B1.out hb4 (Blk.lt B1.out)); have n3 := Zz.mk (Blk.belowB B2.out hb4 (Blk.lt B2.out)); have n2 := Zz.mk (below_step HB.out hb4); clear B0 B1 HB B2; have B0 := n0; have B1 := n1; have HB := n2; have B2 := n3; clear n0 n1 n2 n3 hb4 c00 c01 c02 c03 c04 c05 d00 d01 d02 d03 d04 d05 c10 c11 c12 c13 c14 c15 d10 d11 d12 d13 d14 d15; obtain ⟨c00, c01, c02, c03, c04, c05, d00, d01, d02, d03, d04, d05⟩ := Blk.six B0.out; obtain ⟨c20, c21, c22, c23, c24, c25, d20, d21, d22, d23, d24, d25⟩ := Blk.six B2.out))
  have hg0 := HG.out
  have hg1 := HG1.out
  have hg2 := HG2.out
  have hs1 := HS1.out
  have hs2 := HS2.out
  refine ret29 rfl rfl (Blk.fill B2.out _ _ _ _ _ _) rfl rfl rfl ⟨_, rfl, ?_, fill_below HB.out (by omega) _ _ _ _ _ _⟩
  refine ⟨A, c, by rw [HM.out], ?_⟩
  have hv := Kd.V_below (Kd.V_bound HV.out) HB.out
  have hne : ∀ k, P k ∧ k < w.heap.size → k ≠ g2 := fun k hk => by have := hk.2; omega
  clear HM X HV B0 B1 B2 HB HG HG1 HG2 HS1 HS2
  exact Kd.V_mono (V_fill hv hne _ _ _ _ _ _) (fun k hk => .inl hk.1)
end Go.Proofs.Ytcpkoajnepijkaa

