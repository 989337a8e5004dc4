/- Parts of the proof of the law that the last file states; declarations that nothing mentions are left out by a program. No conditions. -/
import Derived.Test.YtcpkoajnepijkaaRefK3q
import Derived.Test.YtcpkoajnepijkaaLHeldq
set_option linter.unusedVariables false
set_option linter.unusedSimpArgs false
namespace Go.Proofs.Ytcpkoajnepijkaa
open Go.RowKit Go.Proofs.YtcpkoajnepijkaaL Go.Proofs.YtcpkoajnepijkaaW.PrintWords Go.Proofs.Ytcpkoajnepijkaa.Q
theorem Blk.three {w : World} {g : Nat} {t : TypeId} {a b c : Value} (h : Blk w g t #[a, b, c]) : w.cell? ⟨g, 0, none⟩ = some a ∧ w.cell? ⟨g, 1, none⟩ = some b ∧ w.cell? ⟨g, 2, none⟩ = some c ∧ w.frozen? ⟨g, 0, none⟩ = false ∧ w.frozen? ⟨g, 1, none⟩ = false ∧ w.frozen? ⟨g, 2, none⟩ = false :=
  ⟨h.cell 0 rfl, h.cell 1 rfl, h.cell 2 rfl, h.frozen 0, h.frozen 1, h.frozen 2⟩
theorem info47 : (Try.prog.info? 47).map (·.size) = some 3 := by kernel_rfl
theorem info9 : (Try.prog.info? 9).map (·.size) = some 1 := by kernel_rfl
theorem store1_event {P : Program} {ops : Array Oper} {rest : List Oper} {o : Oper} {a : Act} {w : World} {Q : Exit → Act → World → Prop} {ty : TypeId} {x y : Operand} (ho : o.op = .store ty x y) (hgd : o.guard = none) {g i : Nat} {v : Value} (hx : a.eval x = .pointer (some ⟨g, i, none⟩)) (hy : a.eval y = v)
    {t : TypeId} {old : Array Value} (hg : Blk w g t old) (hi : i < old.size) (hs : (P.info? ty).map (·.size) = some 1) (h1 : v.oneCell' = true)
    (h : ∀ w', Blk w' g t (old.setIfInBounds i v) → YtcpkoajnepijkaaW.PrintWords.Kept w w' (fun k => k = g) → w'.heap.size = w.heap.size → (∀ {B w0}, Below B w0 w → B ≤ g → Below B w0 w') → wpList P ops Q rest (a.put o.dst undef) w') : wpList P ops Q (o :: rest) a w := by
  have hc : v.cells = #[v] := by cases v <;> first | rfl | cases h1
  have hr : (storeVar ty ⟨g, i, none⟩ v).run P w = .ok () (w.setCell ⟨g, i, none⟩ v) := by
    cases hq : P.info? ty with
    | none => simp [hq] at hs
    | some ii =>
      have hs' : ii.size = 1 := by simpa [hq] using hs
      have c1 := hg.cell i (v := old[i]) (by simp [hi])
      have f1 := hg.frozen i
      simp [storeVar, sizeOf, typeInfo, hq, hc, hs', storeCells, Sem.run_bind, Addr.add]
      rw [run_store P _ _ v _ h1, c1]
      simp [f1]
  refine wpList_plain hgd fun _ hK => ?_
  unfold Oper.wp execOp
  simp only [ho, hx, hy, Instr.storeAt, Instr.sureAddr, Sem.run_bind, Sem.run_pure, Result.andThen_ok, hr]
  exact hK _ _ (h _ (Blk.set_ hg i v) ⟨by simp, fun k _ hn => Below.heap_setCell w ⟨g, i, none⟩ v k hn⟩ (by simp) (fun hb hB => hb.setCell hB _))
theorem ref_with0 {w : World} {base base1 : Nat} {Q : Nat → Prop} {A A1 : Option Addr} {m c n1 c1 m2 : Nat} {l : List PF} {s : ByteArray} {bs : List Int} (h : Kd.V k47 47 w base Q (.slice A m c) (l.map toF)) (h1 : Kd.V (Kd.int .u8) 5 w base1 Q (.slice A1 n1 c1) bs) (hl : l.length ≤ 1000000) (hm2 : ((withP ⟨s, bs, []⟩ l).map toF).length = m2) (a b e x : Int) (g : Bool) :
    Calls Try.prog 55 #[.agg #[.slice A m c, .int .i64 a, .int .i64 b, .int .i64 e, .int .i64 x, .bool g], .agg #[.string s, .slice A1 n1 c1, .slice none 0 0]] w fun y w' => ∃ A' c', y = .returned (.agg #[.slice A' m2 c', .int .i64 a, .int .i64 b, .int .i64 e, .int .i64 x, .bool g]) ∧
      Kd.V k47 47 w' w'.heap.size (fun k => Q k ∨ w.heap.size ≤ k) (.slice A' m2 c') ((withP ⟨s, bs, []⟩ l).map toF) ∧ Below w.heap.size w w' :=
  ref_with (f := ⟨s, bs, []⟩) h h1 (Kd.V_nil k91 91 w w.heap.size Q) hl hm2 a b e x g
theorem V_cut {α : Type} {d : Kd α} {e base base' n c N : Nat} {A : Option Addr} {w : World} {Q : Nat → Prop} {xs : List α} (h : Kd.V d e w base Q (.slice A n c) xs) (hN : N ≤ n) : Kd.V d e w base' Q (.slice A N c) (xs.take N) := by
  have hn := V_len h
  subst hn
  obtain ⟨_, hc, hF⟩ := Kd.V_at h
  have hl : (xs.take N).length = N := by rw [List.length_take, Nat.min_eq_left hN]
  exact ⟨A, c, by rw [hl], by rw [hl]; omega, Kd.F_take hF hN⟩
theorem V_room {α : Type} {d : Kd α} {e base n c : Nat} {A : Option Addr} {w : World} {Q : Nat → Prop} {xs : List α} (h : Kd.V d e w base Q (.slice A n c) xs) : n ≤ c := by
  have hn := V_len h
  subst hn
  obtain ⟨_, hc, hF⟩ := Kd.V_at h
  exact hc
theorem store_step {P : Program} {ops : Array Oper} {o : Oper} {a : Act} {w : World} {K : Act → World → Prop} {Q : Exit → Act → World → Prop} {ty : TypeId} {x y : Operand} (ho : o.op = .store ty x y) (hd : o.dst = none) {g : Nat} {cells : Array Value} (hx : a.eval x = .pointer (some ⟨g, 0, none⟩)) (hy : a.eval y = .agg cells)
    {t : TypeId} {old : Array Value} (hg : Blk w g t old) (hi : (P.info? ty).map (·.size) = some cells.size) (hold : old.size = cells.size) (h1 : cells.all (·.oneCell') = true)
    (h : ∀ w', Blk w' g t cells → YtcpkoajnepijkaaW.PrintWords.Kept w w' (fun k => k = g) → w'.heap.size = w.heap.size → (∀ {B w0}, Below B w0 w → B ≤ g → Below B w0 w') → K a w') : Oper.wp P o a w K Q :=
  wp_store_row ty x y ho g cells hx hy t old hg hi hold h1 (show K (a.put o.dst undef) _ by rw [hd]; exact h _ (setRow_heap w g old cells t (0, 0) hg) ⟨by rw [size_setRow]; exact Nat.le_refl _, fun i _ hn => setRow_other w g i cells hn⟩ (size_setRow w g cells) (fun hb hB => below_setRow hb hB cells))
theorem known_count2 {w : World} {P : Nat → Prop} {S : PS} (hN : NumP S) (hd : S.down = false) (hfu : S.fuse ≠ 0) {o1 : Nat} {f1 : Int} (ho : (countP S).ops = o1) (hf : (countP S).fuse = f1) {m : Nat} {A : Option Addr} {c : Nat} {G : List Nat} :
    ∀ w', Fr w w' G → Kd.V k47 47 w' 0 (Fp w P G) (.slice A m c) (S.l.map toF) → Calls Try.prog 54 #[.agg #[.slice A m c, .int .i64 S.no, .int .i64 S.ops, .int .i64 S.fuse, .int .i64 S.fault, .bool false]] w' fun e w'' => ∃ A' c', e = .returned (.agg #[.slice A' m c', .int .i64 S.no, .int .i64 o1, .int .i64 f1, .int .i64 S.fault, .bool false]) ∧
      Kd.V k47 47 w'' 0 (fun k => Fp w P G k ∨ w'.heap.size ≤ k) (.slice A' m c') (S.l.map toF) ∧ Below w'.heap.size w' w'' := by
  intro w' hF hV
  have hm := V_len hV
  subst ho hf hm
  refine Calls.mono (souffleurref10_count.calls _ A c (S.l.map toF) S.no S.ops S.fuse S.fault false _ _ _ _ _ _ w' (V_rebase hV) (by have := count_tells S (S.l.map toF) S.no hN.fuse0 hN.fuse1 hN.ops hd S.fault; rw [hd] at this; exact this)) ?_
  rintro _ w'' ⟨v, rfl, hv2, hb2⟩
  obtain ⟨A', c', rfl⟩ := Kd.V_slice hv2
  have hdn : (countP S).down = false := by simpa [countP] using hfu
  exact ⟨A', c', by rw [hdn], V_rebase hv2, hb2⟩
theorem known_ok_end {fn : Func} {w w6 : World} {P : Nat → Prop} {A' : Option Addr} {c' m g2 o1 : Nat} {f1 : Int} {S : PS} {l : List PF} {G : List Nat} {a : Act} (hF : Fr w w6 G) (hg : g2 ∈ G) (hv : Kd.V k47 47 w6 0 (Fp w P G) (.slice A' m c') (l.map toF)) (ho : (countP S).ops = o1) (hf : (countP S).fuse = f1) (hd : S.down = false) (hfu : S.fuse ≠ 0)
    {x0 x1 x2 x3 x4 x5 : Value} (hB : Blk w6 g2 29 #[x0, x1, x2, x3, x4, x5]) (hr : fn.results = #[.cell 4 29, .tmp 5]) (hp : a.tmps.getD 4 undef = .pointer (some ⟨g2, 0, none⟩)) (he : a.tmps.getD 5 undef = .int .i64 0) (hd0 : a.defers = []) :
    bodyPost Try.prog fn (fun e w' => ∃ v', e = .returned (.tuple #[v', .int .i64 0]) ∧ RSt w' (fun k => P k ∨ w.heap.size ≤ k) v' { countP S with l := l } ∧ Below w.heap.size w w') .ret a
      ((((((w6.setCell ⟨g2, 0, none⟩ (.slice A' m c')).setCell ⟨g2, 1, none⟩ (.int .i64 S.no)).setCell ⟨g2, 2, none⟩ (.int .i64 o1)).setCell ⟨g2, 3, none⟩ (.int .i64 f1)).setCell ⟨g2, 4, none⟩ (.int .i64 S.fault)).setCell ⟨g2, 5, none⟩ (.bool false)) := by
  have hm := V_len hv
  subst ho hf hm
  have hdn : (countP S).down = false := by simpa [countP] using hfu
  refine ret29 hr hp (Blk.fill hB _ _ _ _ _ _) rfl he hd0 ⟨_, rfl, ?_, fill_below hF.below (hF.lt _ hg).1 _ _ _ _ _ _⟩
  refine ⟨A', c', by rw [← hdn]; rfl, ?_⟩
  exact Kd.V_mono (V_fill hv (fun k hk e => hk.2 (e ▸ hg)) _ _ _ _ _ _) (fun k hk => hk.1)
set_option maxRecDepth 100000 in
set_option maxHeartbeats 1000000 in
theorem known_sync {w : World} {P : Nat → Prop} {A : Option Addr} {c : Nat} {S : PS} (h : Kd.V k47 47 w w.heap.size P (.slice A (S.l.map toF).length c) (S.l.map toF)) (hB : BoundP S) (hN : NumP S) (hd : S.down = false) {s t : ByteArray} {A3 A5 : Option Addr} {n3 n5 c3 c5 : Nat} {n : Int} {i : Nat} {f : PF} (hf : idxP s S.l 0 = (i : Int)) (hi : S.l[i]? = some f) (hfu : S.fuse ≠ 0) :
    Calls Try.prog 36 #[.agg #[.slice A (S.l.map toF).length c, .int .i64 S.no, .int .i64 S.ops, .int .i64 S.fuse, .int .i64 S.fault, .bool S.down], .agg #[.int .i64 1, .string s, .string t, .slice A3 n3 c3, .int .i64 n, .slice A5 n5 c5]] w fun e w' =>
      ∃ v', e = .returned (.tuple #[v', .int .i64 0]) ∧ RSt w' (fun k => P k ∨ w.heap.size ≤ k) v' { countP S with l := withP ⟨f.name, bytesP f, []⟩ S.l } ∧ Below w.heap.size w w' := by
  have X := Zz.mk (known_find h hB s hf rfl)
  obtain ⟨o1, ho⟩ : ∃ o1, (countP S).ops = o1 := ⟨_, rfl⟩
  obtain ⟨f1, hf1⟩ : ∃ f1, (countP S).fuse = f1 := ⟨_, rfl⟩
  have HO := Zz.mk (And.intro ho hf1)
  simp only [hd] at X
  rw [hd]
  have HD := Zz.mk hd
  have HU := Zz.mk hfu
  have HL : Zz (S.l.length ≤ 1000000) := ⟨by have := hB.1; omega⟩
  have HFB := Zz.mk (hB.2 f (List.mem_of_getElem? hi))
  generalize hm : (S.l.map toF).length = m at X h ⊢
  have Y : Zz (∀ (G : List Nat) (A : Option Addr) (c : Nat) w', Fr w w' G → Kd.V k47 47 w' 0 (Fp w P G) (.slice A m c) (S.l.map toF) → Calls Try.prog 54 #[.agg #[.slice A m c, .int .i64 S.no, .int .i64 S.ops, .int .i64 S.fuse, .int .i64 S.fault, .bool false]] w' fun e w'' => ∃ A' c', e = .returned (.agg #[.slice A' m c', .int .i64 S.no, .int .i64 o1, .int .i64 f1, .int .i64 S.fault, .bool false]) ∧
      Kd.V k47 47 w'' 0 (fun k => Fp w P G k ∨ w'.heap.size ≤ k) (.slice A' m c') (S.l.map toF) ∧ Below w'.heap.size w' w'') := ⟨fun G A c => known_count2 hN hd hfu ho hf1⟩
  have HV := Zz.mk (Fp.start (base' := 0) h)
  have HF := Zz.mk (Fr.start w)
  have HI := Zz.mk hi
  have i0 : decide ((i : Int) < 0) = false := decide_eq_false (by omega)
  obtain ⟨mq, hmq⟩ : ∃ mq, ((withP ⟨f.name, bytesP f, []⟩ S.l).map toF).length = mq := ⟨_, rfl⟩
  have HM2 := Zz.mk hmq
  clear hmq
  obtain ⟨mb, hmb⟩ : ∃ mb, (bytesP f).length = mb := ⟨_, rfl⟩
  have HMB := Zz.mk hmb
  clear hmb
  clear h hf hm hB hN hd hfu ho hf1 hi
  go_enter Try.func36, Try.ntmps36
  have hu29 := Try.underlying29
  have hu34 := Try.underlying34
  have hu47 := Try.underlying47
  go_wp2_with (first
      | ((with_reducible refine gate_dst (N := 2) rfl ?_); refine box_event ?hg (N := 2) ?hd (cs := #[.slice A m c, .int .i64 S.no, .int .i64 S.ops, .int .i64 S.fuse, .int .i64 S.fault, .bool false]) (t := 29) ?hr ?_; (case hd => rfl); (case hg => rfl); (case hr => first | (go_simp; done) | (go_simp; rfl)); intro g0 hg w1 hx hb; replace HV := Zz.mk (Fp.box (base' := 0) HV.out hg hb); replace HF := Zz.mk (HF.out.box hg hb (Blk.lt (show Blk w1 g0 29 _ from hx))); have B0 := Zz.mk (show Blk w1 g0 29 _ from hx); clear hg hx hb; obtain ⟨c00, c01, c02, c03, c04, c05, d00, d01, d02, d03, d04, d05⟩ := Blk.six B0.out)
      | ((with_reducible refine gate_dst (N := 3) rfl ?_); refine box_event ?hg (N := 3) ?hd (cs := #[.int .i64 1, .string s, .string t, .slice A3 n3 c3, .int .i64 n, .slice A5 n5 c5]) (t := 34) ?hr ?_; (case hd => rfl); (case hg => rfl); (case hr => first | (go_simp; done) | (go_simp; rfl)); intro g1 hg w2 hx hb; have hE01 := HF.out.ne (k := g0) (by simp) hg; have hE10 := hE01.symm; replace B0 := Zz.mk (Blk.belowW B0.out hb); replace HV := Zz.mk (Fp.box (base' := 0) HV.out hg hb); replace HF := Zz.mk (HF.out.box hg hb (Blk.lt (show Blk w2 g1 34 _ from hx))); have B1 := Zz.mk (show Blk w2 g1 34 _ from hx); clear hg hx hb; clear c00 c01 c02 c03 c04 c05 d00 d01 d02 d03 d04 d05; obtain ⟨c00, c01, c02, c03, c04, c05, d00, d01, d02, d03, d04, d05⟩ := Blk.six B0.out; obtain ⟨c10, c11, c12, c13, c14, c15, d10, d11, d12, d13, d14, d15⟩ := Blk.six B1.out)
      | ((with_reducible refine gate_dst (N := 4) rfl ?_); refine box_event ?hg (N := 4) ?hd (cs := #[.slice none 0 0, .int .i64 0, .int .i64 0, .int .i64 0, .int .i64 0, .bool false]) (t := 29) ?hr ?_; (case hd => rfl); (case hg => rfl); (case hr => first | (go_simp; done) | (go_simp; rfl)); intro g2 hg w3 hx hb; have hE02 := HF.out.ne (k := g0) (by simp) hg; have hE20 := hE02.symm; have hE12 := HF.out.ne (k := g1) (by simp) hg; have hE21 := hE12.symm; replace B0 := Zz.mk (Blk.belowW B0.out hb); replace B1 := Zz.mk (Blk.belowW B1.out hb); replace HV := Zz.mk (Fp.box (base' := 0) HV.out hg hb); replace HF := Zz.mk (HF.out.box hg hb (Blk.lt (show Blk w3 g2 29 _ from hx))); have B2 := Zz.mk (show Blk w3 g2 29 _ from hx); clear hg hx hb; clear c00 c01 c02 c03 c04 c05 d00 d01 d02 d03 d04 d05; clear c10 c11 c12 c13 c14 c15 d10 d11 d12 d13 d14 d15; obtain ⟨c00, c01, c02, c03, c04, c05, d00, d01, d02, d03, d04, d05⟩ := Blk.six B0.out; obtain ⟨c10, c11, c12, c13, c14, c15, d10, d11, d12, d13, d14, d15⟩ := Blk.six B1.out; obtain ⟨c20, c21, c22, c23, c24, c25, d20, d21, d22, d23, d24, d25⟩ := Blk.six B2.out)
      | ((with_reducible refine gate_dst (N := 7) rfl ?_); refine box_event ?hg (N := 7) ?hd (cs := #[.string ByteArray.empty, .slice none 0 0, .slice none 0 0]) (t := 47) ?hr ?_; (case hd => rfl); (case hg => rfl); (case hr => first | (go_simp; done) | (go_simp; rfl)); intro g3 hg w4 hx hb; have hE03 := HF.out.ne (k := g0) (by simp) hg; have hE30 := hE03.symm; have hE13 := HF.out.ne (k := g1) (by simp) hg; have hE31 := hE13.symm; have hE23 := HF.out.ne (k := g2) (by simp) hg; have hE32 := hE23.symm; replace B0 := Zz.mk (Blk.belowW B0.out hb); replace B1 := Zz.mk (Blk.belowW B1.out hb); replace B2 := Zz.mk (Blk.belowW B2.out hb); replace HV := Zz.mk (Fp.box (base' := 0) HV.out hg hb); replace W1 := Zz.mk (Fp.box (base' := 0) W1.out hg hb); replace W2 := Zz.mk (Fp.box (base' := 0) W2.out hg hb); replace HF := Zz.mk (HF.out.box hg hb (Blk.lt (show Blk w4 g3 47 _ from hx))); have B3 := Zz.mk (show Blk w4 g3 47 _ from hx); clear hg hx hb; clear c00 c01 c02 c03 c04 c05 d00 d01 d02 d03 d04 d05; clear c10 c11 c12 c13 c14 c15 d10 d11 d12 d13 d14 d15; clear c20 c21 c22 c23 c24 c25 d20 d21 d22 d23 d24 d25; obtain ⟨c00, c01, c02, c03, c04, c05, d00, d01, d02, d03, d04, d05⟩ := Blk.six B0.out; obtain ⟨c10, c11, c12, c13, c14, c15, d10, d11, d12, d13, d14, d15⟩ := Blk.six B1.out; obtain ⟨c20, c21, c22, c23, c24, c25, d20, d21, d22, d23, d24, d25⟩ := Blk.six B2.out; obtain ⟨c30, c31, c32, d30, d31, d32⟩ := Blk.three B3.out)
      | (go_at_call 52; (with_reducible refine (X.out _ HF.out.below).mono ?_); rintro _ wc ⟨rfl, hb⟩; skip; replace B0 := Zz.mk (Blk.belowW B0.out hb); replace B1 := Zz.mk (Blk.belowW B1.out hb); replace B2 := Zz.mk (Blk.belowW B2.out hb); replace HV := Zz.mk (Fp.step (base' := 0) HV.out hb); replace HF := Zz.mk (HF.out.call hb); clear hb; skip; clear c00 c01 c02 c03 c04 c05 d00 d01 d02 d03 d04 d05; clear c10 c11 c12 c13 c14 c15 d10 d11 d12 d13 d14 d15; clear c20 c21 c22 c23 c24 c25 d20 d21 d22 d23 d24 d25; obtain ⟨c00, c01, c02, c03, c04, c05, d00, d01, d02, d03, d04, d05⟩ := Blk.six B0.out; obtain ⟨c10, c11, c12, c13, c14, c15, d10, d11, d12, d13, d14, d15⟩ := Blk.six B1.out; obtain ⟨c20, c21, c22, c23, c24, c25, d20, d21, d22, d23, d24, d25⟩ := Blk.six B2.out)
      | (go_at_call 54; (with_reducible refine (Y.out _ _ _ _ HF.out HV.out).mono ?_); rintro _ wc ⟨A', c', rfl, hv, hb⟩; have N0 := Zz.mk (Fp.told (base' := 0) hv HF.out); clear hv HV; replace B0 := Zz.mk (Blk.belowW B0.out hb); replace B1 := Zz.mk (Blk.belowW B1.out hb); replace B2 := Zz.mk (Blk.belowW B2.out hb); replace HF := Zz.mk (HF.out.call hb); clear hb; have HV := N0; clear N0; clear c00 c01 c02 c03 c04 c05 d00 d01 d02 d03 d04 d05; clear c10 c11 c12 c13 c14 c15 d10 d11 d12 d13 d14 d15; clear c20 c21 c22 c23 c24 c25 d20 d21 d22 d23 d24 d25; obtain ⟨c00, c01, c02, c03, c04, c05, d00, d01, d02, d03, d04, d05⟩ := Blk.six B0.out; obtain ⟨c10, c11, c12, c13, c14, c15, d10, d11, d12, d13, d14, d15⟩ := Blk.six B1.out; obtain ⟨c20, c21, c22, c23, c24, c25, d20, d21, d22, d23, d24, d25⟩ := Blk.six B2.out)
      | ((with_reducible refine gate_store (t := 47) (p := 7) rfl ?_); refine store_event rfl rfl (g := g3) (cells := #[.string f.name, .slice a1 m1 k1, .slice a2 m2 k2]) (by first | rfl | (go_simp; done) | (go_simp; rfl)) (by first | rfl | (go_simp; done) | (go_simp; rfl)) B3.out info47 rfl (by simp [Value.oneCell']) ?_; intro ws hx hk hz hb; replace B3 := Zz.mk (hx); replace B0 := Zz.mk (show Blk ws g0 29 _ from blk_kept B0.out hk hE03); replace B1 := Zz.mk (show Blk ws g1 34 _ from blk_kept B1.out hk hE13); replace B2 := Zz.mk (show Blk ws g2 29 _ from blk_kept B2.out hk hE23); replace HV := Zz.mk (Fp.store (base' := 0) HV.out hk (by simp)); replace W1 := Zz.mk (Fp.store (base' := 0) W1.out hk (by simp)); replace W2 := Zz.mk (Fp.store (base' := 0) W2.out hk (by simp)); replace HF := Zz.mk (HF.out.store hz hb (by simp)); clear hx hk hz hb; clear y0 y1 y2 hi hi0; clear c00 c01 c02 c03 c04 c05 d00 d01 d02 d03 d04 d05; clear c10 c11 c12 c13 c14 c15 d10 d11 d12 d13 d14 d15; clear c20 c21 c22 c23 c24 c25 d20 d21 d22 d23 d24 d25; clear c30 c31 c32 d30 d31 d32; obtain ⟨c00, c01, c02, c03, c04, c05, d00, d01, d02, d03, d04, d05⟩ := Blk.six B0.out; obtain ⟨c10, c11, c12, c13, c14, c15, d10, d11, d12, d13, d14, d15⟩ := Blk.six B1.out; obtain ⟨c20, c21, c22, c23, c24, c25, d20, d21, d22, d23, d24, d25⟩ := Blk.six B2.out; obtain ⟨c30, c31, c32, d30, d31, d32⟩ := Blk.three B3.out)
      | ((with_reducible refine gate_store (t := 29) (p := 2) rfl ?_); refine store_event rfl rfl (g := g0) (cells := #[.slice A' m c', .int .i64 S.no, .int .i64 o1, .int .i64 f1, .int .i64 S.fault, .bool false]) (by first | rfl | (go_simp; done) | (go_simp; rfl)) (by first | rfl | (go_simp; done) | (go_simp; rfl)) B0.out info29 rfl (by simp [Value.oneCell']) ?_; intro ws hx hk hz hb; replace B0 := Zz.mk (hx); replace B1 := Zz.mk (show Blk ws g1 34 _ from blk_kept B1.out hk hE10); replace B2 := Zz.mk (show Blk ws g2 29 _ from blk_kept B2.out hk hE20); replace HV := Zz.mk (Fp.store (base' := 0) HV.out hk (by simp)); replace HF := Zz.mk (HF.out.store hz hb (by simp)); clear hx hk hz hb; obtain ⟨ad, a1, m1, k1, a2, m2, k2, hA, y0, y1, y2, v1, v2, hi⟩ := file_V HV.out HI.out; subst hA; have W1 := Zz.mk v1; have W2 := Zz.mk v2; clear v1 v2; have hi0 : (0 : Int) ≤ (i : Int) := Int.natCast_nonneg i; clear c00 c01 c02 c03 c04 c05 d00 d01 d02 d03 d04 d05; clear c10 c11 c12 c13 c14 c15 d10 d11 d12 d13 d14 d15; clear c20 c21 c22 c23 c24 c25 d20 d21 d22 d23 d24 d25; obtain ⟨c00, c01, c02, c03, c04, c05, d00, d01, d02, d03, d04, d05⟩ := Blk.six B0.out; obtain ⟨c10, c11, c12, c13, c14, c15, d10, d11, d12, d13, d14, d15⟩ := Blk.six B1.out; obtain ⟨c20, c21, c22, c23, c24, c25, d20, d21, d22, d23, d24, d25⟩ := Blk.six B2.out))
  rename_i KK hKK
  refine regionK (fun w' : World => w'.cell? ⟨g3, 0, none⟩ = some (.string f.name) ∧ w'.cell? ⟨g3, 1, none⟩ = some (.slice a1 m1 k1) ∧ w'.cell? ⟨g3, 2, none⟩ = some (.slice a2 m2 k2) ∧ w'.cell? ⟨g0, 0, none⟩ = some (.slice (some ad) m c') ∧ w'.cell? ⟨g0, 1, none⟩ = some (.int .i64 S.no) ∧ w'.cell? ⟨g0, 2, none⟩ = some (.int .i64 o1) ∧ w'.cell? ⟨g0, 3, none⟩ = some (.int .i64 f1) ∧ w'.cell? ⟨g0, 4, none⟩ = some (.int .i64 S.fault) ∧ w'.cell? ⟨g0, 5, none⟩ = some (.bool false)) 7 (by kernel_rfl) (fun wd hb => ?_)
  replace B0 := Zz.mk (Blk.belowW B0.out hb)
  replace B1 := Zz.mk (Blk.belowW B1.out hb)
  replace B2 := Zz.mk (Blk.belowW B2.out hb)
  replace B3 := Zz.mk (Blk.belowW B3.out hb)
  replace HV := Zz.mk (Fp.step (base' := 0) HV.out hb)
  replace W1 := Zz.mk (Fp.step (base' := 0) W1.out hb)
  replace W2 := Zz.mk (Fp.step (base' := 0) W2.out hb)
  replace HF := Zz.mk (HF.out.call hb)
  clear hb
  clear c00 c01 c02 c03 c04 c05 d00 d01 d02 d03 d04 d05
  clear c10 c11 c12 c13 c14 c15 d10 d11 d12 d13 d14 d15
  clear c20 c21 c22 c23 c24 c25 d20 d21 d22 d23 d24 d25
  clear c30 c31 c32 d30 d31 d32
  obtain ⟨c00, c01, c02, c03, c04, c05, d00, d01, d02, d03, d04, d05⟩ := Blk.six B0.out
  obtain ⟨c10, c11, c12, c13, c14, c15, d10, d11, d12, d13, d14, d15⟩ := Blk.six B1.out
  obtain ⟨c20, c21, c22, c23, c24, c25, d20, d21, d22, d23, d24, d25⟩ := Blk.six B2.out
  obtain ⟨c30, c31, c32, d30, d31, d32⟩ := Blk.three B3.out
  have hHeld : (fun w' : World => w'.cell? ⟨g3, 0, none⟩ = some (.string f.name) ∧ w'.cell? ⟨g3, 1, none⟩ = some (.slice a1 m1 k1) ∧ w'.cell? ⟨g3, 2, none⟩ = some (.slice a2 m2 k2) ∧ w'.cell? ⟨g0, 0, none⟩ = some (.slice (some ad) m c') ∧ w'.cell? ⟨g0, 1, none⟩ = some (.int .i64 S.no) ∧ w'.cell? ⟨g0, 2, none⟩ = some (.int .i64 o1) ∧ w'.cell? ⟨g0, 3, none⟩ = some (.int .i64 f1) ∧ w'.cell? ⟨g0, 4, none⟩ = some (.int .i64 S.fault) ∧ w'.cell? ⟨g0, 5, none⟩ = some (.bool false)) wd := ⟨c30, c31, c32, c00, c01, c02, c03, c04, c05⟩
  refine wpAnyK_take (i := 0) (v := ?v1) rfl (by kernel_rfl) (by kernel_rfl) (by kernel_rfl) (by kernel_rfl) (fun _ _ _ h => h) (Or.inl ⟨by rfl, ?hy1⟩) (by assumption) ?rest1
  case hy1 => (intro w hSw; (try dsimp only at hSw); go_simp; try (with_reducible rfl))
  case rest1 =>
  try simp only [Act.put, List.setIfInBounds_toArray, List.set_cons_zero, List.set_cons_succ]
  refine wpAnyK_take (i := 1) (v := ?v2) rfl (by kernel_rfl) (by kernel_rfl) (by kernel_rfl) (by kernel_rfl) (fun _ _ _ h => h) (Or.inl ⟨by rfl, ?hy2⟩) (by assumption) ?rest2
  case hy2 => (intro w hSw; (try dsimp only at hSw); go_simp; try (with_reducible rfl))
  case rest2 =>
  try simp only [Act.put, List.setIfInBounds_toArray, List.set_cons_zero, List.set_cons_succ]
  refine wpAnyK_take (i := 2) (v := ?v3) rfl (by kernel_rfl) (by kernel_rfl) (by kernel_rfl) (by kernel_rfl) (fun _ _ _ h => h) (Or.inl ⟨by rfl, ?hy3⟩) (by assumption) ?rest3
  case hy3 => (intro w hSw; (try dsimp only at hSw); go_simp; try (with_reducible rfl))
  case rest3 =>
  try simp only [Act.put, List.setIfInBounds_toArray, List.set_cons_zero, List.set_cons_succ]
  refine wpAnyK_take (i := 3) (v := ?v4) rfl (by kernel_rfl) (by kernel_rfl) (by kernel_rfl) (by kernel_rfl) (fun _ _ _ h => h) (Or.inl ⟨by rfl, ?hy4⟩) (by assumption) ?rest4
  case hy4 => (intro w hSw; (try dsimp only at hSw); go_simp; try (with_reducible rfl))
  case rest4 =>
  try simp only [Act.put, List.setIfInBounds_toArray, List.set_cons_zero, List.set_cons_succ]
  refine wpAnyK_ready (rs := [4]) (by kernel_rfl) (by simp) ?_
  refine AllReadyK.cons rfl (fun K hK => ?_) AllReadyK.nil
  go_simp
  go_at_call 53
  with_reducible refine (ref_bytes W1.out W2.out HFB.out.1 HFB.out.2 HMB.out).mono ?_
  rintro _ wc ⟨Ab, cb, rfl, hv, hb⟩
  have U1 := Zz.mk (Fp.told (P := P) (base' := 0) (Kd.V_mono hv (fun k hk => Or.inr hk)) HF.out)
  clear hv
  replace B0 := Zz.mk (Blk.belowW B0.out hb)
  replace B1 := Zz.mk (Blk.belowW B1.out hb)
  replace B2 := Zz.mk (Blk.belowW B2.out hb)
  replace B3 := Zz.mk (Blk.belowW B3.out hb)
  replace HV := Zz.mk (Fp.step (base' := 0) HV.out hb)
  replace W1 := Zz.mk (Fp.step (base' := 0) W1.out hb)
  replace W2 := Zz.mk (Fp.step (base' := 0) W2.out hb)
  replace HF := Zz.mk (HF.out.call hb)
  clear hb
  clear c00 c01 c02 c03 c04 c05 d00 d01 d02 d03 d04 d05
  clear c10 c11 c12 c13 c14 c15 d10 d11 d12 d13 d14 d15
  clear c20 c21 c22 c23 c24 c25 d20 d21 d22 d23 d24 d25
  clear c30 c31 c32 d30 d31 d32
  obtain ⟨c00, c01, c02, c03, c04, c05, d00, d01, d02, d03, d04, d05⟩ := Blk.six B0.out
  obtain ⟨c10, c11, c12, c13, c14, c15, d10, d11, d12, d13, d14, d15⟩ := Blk.six B1.out
  obtain ⟨c20, c21, c22, c23, c24, c25, d20, d21, d22, d23, d24, d25⟩ := Blk.six B2.out
  obtain ⟨c30, c31, c32, d30, d31, d32⟩ := Blk.three B3.out
  go_simp
  clear hHeld
  have hHeld : (fun w' : World => w'.cell? ⟨g3, 0, none⟩ = some (.string f.name) ∧ w'.cell? ⟨g3, 1, none⟩ = some (.slice a1 m1 k1) ∧ w'.cell? ⟨g3, 2, none⟩ = some (.slice a2 m2 k2) ∧ w'.cell? ⟨g0, 0, none⟩ = some (.slice (some ad) m c') ∧ w'.cell? ⟨g0, 1, none⟩ = some (.int .i64 S.no) ∧ w'.cell? ⟨g0, 2, none⟩ = some (.int .i64 o1) ∧ w'.cell? ⟨g0, 3, none⟩ = some (.int .i64 f1) ∧ w'.cell? ⟨g0, 4, none⟩ = some (.int .i64 S.fault) ∧ w'.cell? ⟨g0, 5, none⟩ = some (.bool false)) wc := ⟨c30, c31, c32, c00, c01, c02, c03, c04, c05⟩
  refine hK.out _ _ (.inr hHeld) ?_
  clear hK K
  try simp only [Act.put, List.setIfInBounds_toArray, List.set_cons_zero, List.set_cons_succ]
  refine wpAnyK_take (i := 5) (v := ?v5) rfl (by kernel_rfl) (by kernel_rfl) (by kernel_rfl) (by kernel_rfl) (fun _ _ _ h => h) (Or.inl ⟨by rfl, ?hy5⟩) (by assumption) ?rest5
  case hy5 => (intro w hSw; (try dsimp only at hSw); go_simp; try (with_reducible rfl))
  case rest5 =>
  try simp only [Act.put, List.setIfInBounds_toArray, List.set_cons_zero, List.set_cons_succ]
  refine wpAnyK_ready (rs := [6]) (by kernel_rfl) (by simp) ?_
  refine AllReadyK.cons rfl (fun K hK => ?_) AllReadyK.nil
  go_simp
  go_at_call 55
  with_reducible refine (ref_with0 HV.out U1.out HL.out HM2.out _ _ _ _ _).mono ?_
  rintro _ wc ⟨Aw, cw, rfl, hv, hb⟩
  have N0 := Zz.mk (Fp.told (base' := 0) hv HF.out)
  clear hv HV
  replace B0 := Zz.mk (Blk.belowW B0.out hb)
  replace B1 := Zz.mk (Blk.belowW B1.out hb)
  replace B2 := Zz.mk (Blk.belowW B2.out hb)
  replace B3 := Zz.mk (Blk.belowW B3.out hb)
  replace W1 := Zz.mk (Fp.step (base' := 0) W1.out hb)
  replace W2 := Zz.mk (Fp.step (base' := 0) W2.out hb)
  replace U1 := Zz.mk (Fp.step (base' := 0) U1.out hb)
  replace HF := Zz.mk (HF.out.call hb)
  clear hb
  have HV := N0
  clear N0
  clear c00 c01 c02 c03 c04 c05 d00 d01 d02 d03 d04 d05
  clear c10 c11 c12 c13 c14 c15 d10 d11 d12 d13 d14 d15
  clear c20 c21 c22 c23 c24 c25 d20 d21 d22 d23 d24 d25
  clear c30 c31 c32 d30 d31 d32
  obtain ⟨c00, c01, c02, c03, c04, c05, d00, d01, d02, d03, d04, d05⟩ := Blk.six B0.out
  obtain ⟨c10, c11, c12, c13, c14, c15, d10, d11, d12, d13, d14, d15⟩ := Blk.six B1.out
  obtain ⟨c20, c21, c22, c23, c24, c25, d20, d21, d22, d23, d24, d25⟩ := Blk.six B2.out
  obtain ⟨c30, c31, c32, d30, d31, d32⟩ := Blk.three B3.out
  go_simp
  clear hHeld
  have hHeld : (fun w' : World => w'.cell? ⟨g3, 0, none⟩ = some (.string f.name) ∧ w'.cell? ⟨g3, 1, none⟩ = some (.slice a1 m1 k1) ∧ w'.cell? ⟨g3, 2, none⟩ = some (.slice a2 m2 k2) ∧ w'.cell? ⟨g0, 0, none⟩ = some (.slice (some ad) m c') ∧ w'.cell? ⟨g0, 1, none⟩ = some (.int .i64 S.no) ∧ w'.cell? ⟨g0, 2, none⟩ = some (.int .i64 o1) ∧ w'.cell? ⟨g0, 3, none⟩ = some (.int .i64 f1) ∧ w'.cell? ⟨g0, 4, none⟩ = some (.int .i64 S.fault) ∧ w'.cell? ⟨g0, 5, none⟩ = some (.bool false)) wc := ⟨c30, c31, c32, c00, c01, c02, c03, c04, c05⟩
  refine hK.out _ _ (.inr hHeld) ?_
  clear hK K
  try simp only [Act.put, List.setIfInBounds_toArray, List.set_cons_zero, List.set_cons_succ]
  refine wpAnyK_ready (rs := [7]) (by kernel_rfl) (by simp) ?_
  refine AllReadyK.cons rfl (fun K hK => ?_) AllReadyK.nil
  rw [if_pos (by first | rfl | (go_simp; done) | (go_simp; rfl))]
  refine store_step (ops := #[]) rfl rfl (g := g0) (cells := #[.slice Aw mq cw, .int .i64 S.no, .int .i64 o1, .int .i64 f1, .int .i64 S.fault, .bool false]) (by first | rfl | (go_simp; done) | (go_simp; rfl)) (by first | rfl | (go_simp; done) | (go_simp; rfl)) B0.out info29 rfl (by simp [Value.oneCell']) ?_
  intro ws hx hk hz hb
  replace B0 := Zz.mk (hx)
  replace B1 := Zz.mk (show Blk ws g1 34 _ from blk_kept B1.out hk hE10)
  replace B2 := Zz.mk (show Blk ws g2 29 _ from blk_kept B2.out hk hE20)
  replace B3 := Zz.mk (show Blk ws g3 47 _ from blk_kept B3.out hk hE30)
  replace HV := Zz.mk (Fp.store (base' := 0) HV.out hk (by simp))
  replace W1 := Zz.mk (Fp.store (base' := 0) W1.out hk (by simp))
  replace W2 := Zz.mk (Fp.store (base' := 0) W2.out hk (by simp))
  replace HF := Zz.mk (HF.out.store hz hb (by simp))
  clear hx hk hz hb hHeld
  clear c00 c01 c02 c03 c04 c05 d00 d01 d02 d03 d04 d05
  clear c10 c11 c12 c13 c14 c15 d10 d11 d12 d13 d14 d15
  clear c20 c21 c22 c23 c24 c25 d20 d21 d22 d23 d24 d25
  clear c30 c31 c32 d30 d31 d32
  obtain ⟨c00, c01, c02, c03, c04, c05, d00, d01, d02, d03, d04, d05⟩ := Blk.six B0.out
  obtain ⟨c10, c11, c12, c13, c14, c15, d10, d11, d12, d13, d14, d15⟩ := Blk.six B1.out
  obtain ⟨c20, c21, c22, c23, c24, c25, d20, d21, d22, d23, d24, d25⟩ := Blk.six B2.out
  obtain ⟨c30, c31, c32, d30, d31, d32⟩ := Blk.three B3.out
  refine hK.out _ _ (.inl (by kernel_rfl)) ?_
  clear hK K
  try simp only [Act.put, List.setIfInBounds_toArray, List.set_cons_zero, List.set_cons_succ]
  refine wpAnyK_done (by kernel_rfl) ?_ _
  refine hKK _ _ ?_
  iterate 15 go_step
  exact known_ok_end HF.out (by simp) HV.out HO.out.1 HO.out.2 HD.out HU.out B2.out rfl rfl rfl rfl
set_option maxRecDepth 100000 in
set_option maxHeartbeats 1000000 in
theorem known_rename {w : World} {P : Nat → Prop} {A : Option Addr} {c : Nat} {S : PS} (h : Kd.V k47 47 w w.heap.size P (.slice A (S.l.map toF).length c) (S.l.map toF)) (hB : BoundP S) (hN : NumP S) (hd : S.down = false) {s t : ByteArray} {A3 A5 : Option Addr} {n3 n5 c3 c5 : Nat} {n : Int} {i : Nat} {f : PF} (hf : idxP s S.l 0 = (i : Int)) (hi : S.l[i]? = some f) (hfu : S.fuse ≠ 0) (ht1 : 1 ≤ t.size) (ht2 : t.size ≤ 20) :
    Calls Try.prog 36 #[.agg #[.slice A (S.l.map toF).length c, .int .i64 S.no, .int .i64 S.ops, .int .i64 S.fuse, .int .i64 S.fault, .bool S.down], .agg #[.int .i64 2, .string s, .string t, .slice A3 n3 c3, .int .i64 n, .slice A5 n5 c5]] w fun e w' =>
      ∃ v', e = .returned (.tuple #[v', .int .i64 0]) ∧ RSt w' (fun k => P k ∨ w.heap.size ≤ k) v' { countP S with l := withP ({ f with name := t } : PF) (withoutP f.name S.l) } ∧ Below w.heap.size w w' := by
  have X := Zz.mk (known_find h hB s hf rfl)
  obtain ⟨o1, ho⟩ : ∃ o1, (countP S).ops = o1 := ⟨_, rfl⟩
  obtain ⟨f1, hf1⟩ : ∃ f1, (countP S).fuse = f1 := ⟨_, rfl⟩
  have HO := Zz.mk (And.intro ho hf1)
  simp only [hd] at X
  rw [hd]
  have HD := Zz.mk hd
  have HU := Zz.mk hfu
  have HL : Zz (S.l.length ≤ 1000000) := ⟨by have := hB.1; omega⟩
  have HFB := Zz.mk (hB.2 f (List.mem_of_getElem? hi))
  generalize hm : (S.l.map toF).length = m at X h ⊢
  have Y : Zz (∀ (G : List Nat) (A : Option Addr) (c : Nat) w', Fr w w' G → Kd.V k47 47 w' 0 (Fp w P G) (.slice A m c) (S.l.map toF) → Calls Try.prog 54 #[.agg #[.slice A m c, .int .i64 S.no, .int .i64 S.ops, .int .i64 S.fuse, .int .i64 S.fault, .bool false]] w' fun e w'' => ∃ A' c', e = .returned (.agg #[.slice A' m c', .int .i64 S.no, .int .i64 o1, .int .i64 f1, .int .i64 S.fault, .bool false]) ∧
      Kd.V k47 47 w'' 0 (fun k => Fp w P G k ∨ w'.heap.size ≤ k) (.slice A' m c') (S.l.map toF) ∧ Below w'.heap.size w' w'') := ⟨fun G A c => known_count2 hN hd hfu ho hf1⟩
  have HV := Zz.mk (Fp.start (base' := 0) h)
  have HF := Zz.mk (Fr.start w)
  have HI := Zz.mk hi
  have i0 : decide ((i : Int) < 0) = false := decide_eq_false (by omega)
  obtain ⟨mq, hmq⟩ : ∃ mq, ((withoutP f.name S.l).map toF).length = mq := ⟨_, rfl⟩
  have HM2 := Zz.mk hmq
  clear hmq
  obtain ⟨mw, hmw⟩ : ∃ mw, ((withP ({ f with name := t } : PF) (withoutP f.name S.l)).map toF).length = mw := ⟨_, rfl⟩
  have HM3 := Zz.mk hmw
  clear hmw
  have HL2 : Zz ((withoutP f.name S.l).length ≤ 1000000) := ⟨Nat.le_trans (List.length_filter_le _ _) HL.out⟩
  have ht1b : decide ((t.size : Int) < 1) = false := decide_eq_false (by omega)
  have ht2b : decide ((20 : Int) < (t.size : Int)) = false := decide_eq_false (by omega)
  clear ht1 ht2
  clear h hf hm hB hN hd hfu ho hf1 hi
  go_enter Try.func36, Try.ntmps36
  have hu29 := Try.underlying29
  have hu34 := Try.underlying34
  have hu47 := Try.underlying47
  go_upto_region 25 with (first
      | ((with_reducible refine gate_dst (N := 2) rfl ?_); refine box_event ?hg (N := 2) ?hd (cs := #[.slice A m c, .int .i64 S.no, .int .i64 S.ops, .int .i64 S.fuse, .int .i64 S.fault, .bool false]) (t := 29) ?hr ?_; (case hd => rfl); (case hg => rfl); (case hr => first | (go_simp; done) | (go_simp; rfl)); intro g0 hg w1 hx hb; replace HV := Zz.mk (Fp.box (base' := 0) HV.out hg hb); replace HF := Zz.mk (HF.out.box hg hb (Blk.lt (show Blk w1 g0 29 _ from hx))); have B0 := Zz.mk (show Blk w1 g0 29 _ from hx); clear hg hx hb; obtain ⟨c00, c01, c02, c03, c04, c05, d00, d01, d02, d03, d04, d05⟩ := Blk.six B0.out)
      | ((with_reducible refine gate_dst (N := 3) rfl ?_); refine box_event ?hg (N := 3) ?hd (cs := #[.int .i64 2, .string s, .string t, .slice A3 n3 c3, .int .i64 n, .slice A5 n5 c5]) (t := 34) ?hr ?_; (case hd => rfl); (case hg => rfl); (case hr => first | (go_simp; done) | (go_simp; rfl)); intro g1 hg w2 hx hb; have hE01 := HF.out.ne (k := g0) (by simp) hg; have hE10 := hE01.symm; replace B0 := Zz.mk (Blk.belowW B0.out hb); replace HV := Zz.mk (Fp.box (base' := 0) HV.out hg hb); replace HF := Zz.mk (HF.out.box hg hb (Blk.lt (show Blk w2 g1 34 _ from hx))); have B1 := Zz.mk (show Blk w2 g1 34 _ from hx); clear hg hx hb; clear c00 c01 c02 c03 c04 c05 d00 d01 d02 d03 d04 d05; obtain ⟨c00, c01, c02, c03, c04, c05, d00, d01, d02, d03, d04, d05⟩ := Blk.six B0.out; obtain ⟨c10, c11, c12, c13, c14, c15, d10, d11, d12, d13, d14, d15⟩ := Blk.six B1.out)
      | ((with_reducible refine gate_dst (N := 4) rfl ?_); refine box_event ?hg (N := 4) ?hd (cs := #[.slice none 0 0, .int .i64 0, .int .i64 0, .int .i64 0, .int .i64 0, .bool false]) (t := 29) ?hr ?_; (case hd => rfl); (case hg => rfl); (case hr => first | (go_simp; done) | (go_simp; rfl)); intro g2 hg w3 hx hb; have hE02 := HF.out.ne (k := g0) (by simp) hg; have hE20 := hE02.symm; have hE12 := HF.out.ne (k := g1) (by simp) hg; have hE21 := hE12.symm; replace B0 := Zz.mk (Blk.belowW B0.out hb); replace B1 := Zz.mk (Blk.belowW B1.out hb); replace HV := Zz.mk (Fp.box (base' := 0) HV.out hg hb); replace HF := Zz.mk (HF.out.box hg hb (Blk.lt (show Blk w3 g2 29 _ from hx))); have B2 := Zz.mk (show Blk w3 g2 29 _ from hx); clear hg hx hb; clear c00 c01 c02 c03 c04 c05 d00 d01 d02 d03 d04 d05; clear c10 c11 c12 c13 c14 c15 d10 d11 d12 d13 d14 d15; obtain ⟨c00, c01, c02, c03, c04, c05, d00, d01, d02, d03, d04, d05⟩ := Blk.six B0.out; obtain ⟨c10, c11, c12, c13, c14, c15, d10, d11, d12, d13, d14, d15⟩ := Blk.six B1.out; obtain ⟨c20, c21, c22, c23, c24, c25, d20, d21, d22, d23, d24, d25⟩ := Blk.six B2.out)
      | ((with_reducible refine gate_dst (N := 7) rfl ?_); refine box_event ?hg (N := 7) ?hd (cs := #[.string ByteArray.empty, .slice none 0 0, .slice none 0 0]) (t := 47) ?hr ?_; (case hd => rfl); (case hg => rfl); (case hr => first | (go_simp; done) | (go_simp; rfl)); intro g3 hg w4 hx hb; have hE03 := HF.out.ne (k := g0) (by simp) hg; have hE30 := hE03.symm; have hE13 := HF.out.ne (k := g1) (by simp) hg; have hE31 := hE13.symm; have hE23 := HF.out.ne (k := g2) (by simp) hg; have hE32 := hE23.symm; replace B0 := Zz.mk (Blk.belowW B0.out hb); replace B1 := Zz.mk (Blk.belowW B1.out hb); replace B2 := Zz.mk (Blk.belowW B2.out hb); replace HV := Zz.mk (Fp.box (base' := 0) HV.out hg hb); replace W1 := Zz.mk (Fp.box (base' := 0) W1.out hg hb); replace W2 := Zz.mk (Fp.box (base' := 0) W2.out hg hb); replace HF := Zz.mk (HF.out.box hg hb (Blk.lt (show Blk w4 g3 47 _ from hx))); have B3 := Zz.mk (show Blk w4 g3 47 _ from hx); clear hg hx hb; clear c00 c01 c02 c03 c04 c05 d00 d01 d02 d03 d04 d05; clear c10 c11 c12 c13 c14 c15 d10 d11 d12 d13 d14 d15; clear c20 c21 c22 c23 c24 c25 d20 d21 d22 d23 d24 d25; obtain ⟨c00, c01, c02, c03, c04, c05, d00, d01, d02, d03, d04, d05⟩ := Blk.six B0.out; obtain ⟨c10, c11, c12, c13, c14, c15, d10, d11, d12, d13, d14, d15⟩ := Blk.six B1.out; obtain ⟨c20, c21, c22, c23, c24, c25, d20, d21, d22, d23, d24, d25⟩ := Blk.six B2.out; obtain ⟨c30, c31, c32, d30, d31, d32⟩ := Blk.three B3.out)
      | (go_at_call 52; (with_reducible refine (X.out _ HF.out.below).mono ?_); rintro _ wc ⟨rfl, hb⟩; skip; replace B0 := Zz.mk (Blk.belowW B0.out hb); replace B1 := Zz.mk (Blk.belowW B1.out hb); replace B2 := Zz.mk (Blk.belowW B2.out hb); replace HV := Zz.mk (Fp.step (base' := 0) HV.out hb); replace HF := Zz.mk (HF.out.call hb); clear hb; skip; clear c00 c01 c02 c03 c04 c05 d00 d01 d02 d03 d04 d05; clear c10 c11 c12 c13 c14 c15 d10 d11 d12 d13 d14 d15; clear c20 c21 c22 c23 c24 c25 d20 d21 d22 d23 d24 d25; obtain ⟨c00, c01, c02, c03, c04, c05, d00, d01, d02, d03, d04, d05⟩ := Blk.six B0.out; obtain ⟨c10, c11, c12, c13, c14, c15, d10, d11, d12, d13, d14, d15⟩ := Blk.six B1.out; obtain ⟨c20, c21, c22, c23, c24, c25, d20, d21, d22, d23, d24, d25⟩ := Blk.six B2.out)
      | (go_at_call 54; (with_reducible refine (Y.out _ _ _ _ HF.out HV.out).mono ?_); rintro _ wc ⟨A', c', rfl, hv, hb⟩; have N0 := Zz.mk (Fp.told (base' := 0) hv HF.out); clear hv HV; replace B0 := Zz.mk (Blk.belowW B0.out hb); replace B1 := Zz.mk (Blk.belowW B1.out hb); replace B2 := Zz.mk (Blk.belowW B2.out hb); replace HF := Zz.mk (HF.out.call hb); clear hb; have HV := N0; clear N0; clear c00 c01 c02 c03 c04 c05 d00 d01 d02 d03 d04 d05; clear c10 c11 c12 c13 c14 c15 d10 d11 d12 d13 d14 d15; clear c20 c21 c22 c23 c24 c25 d20 d21 d22 d23 d24 d25; obtain ⟨c00, c01, c02, c03, c04, c05, d00, d01, d02, d03, d04, d05⟩ := Blk.six B0.out; obtain ⟨c10, c11, c12, c13, c14, c15, d10, d11, d12, d13, d14, d15⟩ := Blk.six B1.out; obtain ⟨c20, c21, c22, c23, c24, c25, d20, d21, d22, d23, d24, d25⟩ := Blk.six B2.out)
      | ((with_reducible refine gate_store (t := 47) (p := 7) rfl ?_); refine store_event rfl rfl (g := g3) (cells := #[.string f.name, .slice a1 m1 k1, .slice a2 m2 k2]) (by first | rfl | (go_simp; done) | (go_simp; rfl)) (by first | rfl | (go_simp; done) | (go_simp; rfl)) B3.out info47 rfl (by simp [Value.oneCell']) ?_; intro ws hx hk hz hb; replace B3 := Zz.mk (hx); replace B0 := Zz.mk (show Blk ws g0 29 _ from blk_kept B0.out hk hE03); replace B1 := Zz.mk (show Blk ws g1 34 _ from blk_kept B1.out hk hE13); replace B2 := Zz.mk (show Blk ws g2 29 _ from blk_kept B2.out hk hE23); replace HV := Zz.mk (Fp.store (base' := 0) HV.out hk (by simp)); replace W1 := Zz.mk (Fp.store (base' := 0) W1.out hk (by simp)); replace W2 := Zz.mk (Fp.store (base' := 0) W2.out hk (by simp)); replace HF := Zz.mk (HF.out.store hz hb (by simp)); clear hx hk hz hb; clear y0 y1 y2 hi hi0; clear c00 c01 c02 c03 c04 c05 d00 d01 d02 d03 d04 d05; clear c10 c11 c12 c13 c14 c15 d10 d11 d12 d13 d14 d15; clear c20 c21 c22 c23 c24 c25 d20 d21 d22 d23 d24 d25; clear c30 c31 c32 d30 d31 d32; obtain ⟨c00, c01, c02, c03, c04, c05, d00, d01, d02, d03, d04, d05⟩ := Blk.six B0.out; obtain ⟨c10, c11, c12, c13, c14, c15, d10, d11, d12, d13, d14, d15⟩ := Blk.six B1.out; obtain ⟨c20, c21, c22, c23, c24, c25, d20, d21, d22, d23, d24, d25⟩ := Blk.six B2.out; obtain ⟨c30, c31, c32, d30, d31, d32⟩ := Blk.three B3.out)
      | ((with_reducible refine gate_store (t := 9) (p := 63) rfl ?_); refine store1_event rfl rfl (g := g3) (i := 0) (v := .string t) (by first | rfl | (go_simp; done) | (go_simp; rfl)) (by first | rfl | (go_simp; done) | (go_simp; rfl)) B3.out (by simp) info9 rfl ?_; intro ws hx hk hz hb; have n_ := Zz.mk (show Blk ws g3 47 #[.string t, .slice a1 m1 k1, .slice a2 m2 k2] from hx); clear B3; have B3 := n_; clear n_; replace B0 := Zz.mk (show Blk ws g0 29 _ from blk_kept B0.out hk hE03); replace B1 := Zz.mk (show Blk ws g1 34 _ from blk_kept B1.out hk hE13); replace B2 := Zz.mk (show Blk ws g2 29 _ from blk_kept B2.out hk hE23); replace HV := Zz.mk (Fp.store (base' := 0) HV.out hk (by simp)); replace W1 := Zz.mk (Fp.store (base' := 0) W1.out hk (by simp)); replace W2 := Zz.mk (Fp.store (base' := 0) W2.out hk (by simp)); replace HF := Zz.mk (HF.out.store hz hb (by simp)); clear hx hk hz hb; clear c00 c01 c02 c03 c04 c05 d00 d01 d02 d03 d04 d05; clear c10 c11 c12 c13 c14 c15 d10 d11 d12 d13 d14 d15; clear c20 c21 c22 c23 c24 c25 d20 d21 d22 d23 d24 d25; clear c30 c31 c32 d30 d31 d32; obtain ⟨c00, c01, c02, c03, c04, c05, d00, d01, d02, d03, d04, d05⟩ := Blk.six B0.out; obtain ⟨c10, c11, c12, c13, c14, c15, d10, d11, d12, d13, d14, d15⟩ := Blk.six B1.out; obtain ⟨c20, c21, c22, c23, c24, c25, d20, d21, d22, d23, d24, d25⟩ := Blk.six B2.out; obtain ⟨c30, c31, c32, d30, d31, d32⟩ := Blk.three B3.out)
      | (go_at_call 56; (with_reducible refine (ref_without HV.out HL.out HM2.out _ _ _ _ _).mono ?_); rintro _ wc ⟨A4, c4, rfl, hv, hb⟩; have N0 := Zz.mk (Fp.told (base' := 0) hv HF.out); clear hv HV; replace B0 := Zz.mk (Blk.belowW B0.out hb); replace B1 := Zz.mk (Blk.belowW B1.out hb); replace B2 := Zz.mk (Blk.belowW B2.out hb); replace B3 := Zz.mk (Blk.belowW B3.out hb); replace W1 := Zz.mk (Fp.step (base' := 0) W1.out hb); replace W2 := Zz.mk (Fp.step (base' := 0) W2.out hb); replace HF := Zz.mk (HF.out.call hb); clear hb; have HV := N0; clear N0; clear c00 c01 c02 c03 c04 c05 d00 d01 d02 d03 d04 d05; clear c10 c11 c12 c13 c14 c15 d10 d11 d12 d13 d14 d15; clear c20 c21 c22 c23 c24 c25 d20 d21 d22 d23 d24 d25; clear c30 c31 c32 d30 d31 d32; obtain ⟨c00, c01, c02, c03, c04, c05, d00, d01, d02, d03, d04, d05⟩ := Blk.six B0.out; obtain ⟨c10, c11, c12, c13, c14, c15, d10, d11, d12, d13, d14, d15⟩ := Blk.six B1.out; obtain ⟨c20, c21, c22, c23, c24, c25, d20, d21, d22, d23, d24, d25⟩ := Blk.six B2.out; obtain ⟨c30, c31, c32, d30, d31, d32⟩ := Blk.three B3.out)
      | (go_at_call 55; (with_reducible refine (ref_with (f := ({ f with name := t } : PF)) HV.out W1.out W2.out HL2.out HM3.out _ _ _ _ _).mono ?_); rintro _ wc ⟨A5q, c5q, rfl, hv, hb⟩; have N0 := Zz.mk (Fp.told (base' := 0) hv HF.out); clear hv HV; replace B0 := Zz.mk (Blk.belowW B0.out hb); replace B1 := Zz.mk (Blk.belowW B1.out hb); replace B2 := Zz.mk (Blk.belowW B2.out hb); replace B3 := Zz.mk (Blk.belowW B3.out hb); replace W1 := Zz.mk (Fp.step (base' := 0) W1.out hb); replace W2 := Zz.mk (Fp.step (base' := 0) W2.out hb); replace HF := Zz.mk (HF.out.call hb); clear hb; have HV := N0; clear N0; clear c00 c01 c02 c03 c04 c05 d00 d01 d02 d03 d04 d05; clear c10 c11 c12 c13 c14 c15 d10 d11 d12 d13 d14 d15; clear c20 c21 c22 c23 c24 c25 d20 d21 d22 d23 d24 d25; clear c30 c31 c32 d30 d31 d32; obtain ⟨c00, c01, c02, c03, c04, c05, d00, d01, d02, d03, d04, d05⟩ := Blk.six B0.out; obtain ⟨c10, c11, c12, c13, c14, c15, d10, d11, d12, d13, d14, d15⟩ := Blk.six B1.out; obtain ⟨c20, c21, c22, c23, c24, c25, d20, d21, d22, d23, d24, d25⟩ := Blk.six B2.out; obtain ⟨c30, c31, c32, d30, d31, d32⟩ := Blk.three B3.out)
      | ((with_reducible refine gate_store (t := 29) (p := 2) rfl ?_); refine store_event rfl rfl (g := g0) (cells := #[.slice A' m c', .int .i64 S.no, .int .i64 o1, .int .i64 f1, .int .i64 S.fault, .bool false]) (by first | rfl | (go_simp; done) | (go_simp; rfl)) (by first | rfl | (go_simp; done) | (go_simp; rfl)) B0.out info29 rfl (by simp [Value.oneCell']) ?_; intro ws hx hk hz hb; replace B0 := Zz.mk (hx); replace B1 := Zz.mk (show Blk ws g1 34 _ from blk_kept B1.out hk hE10); replace B2 := Zz.mk (show Blk ws g2 29 _ from blk_kept B2.out hk hE20); replace HV := Zz.mk (Fp.store (base' := 0) HV.out hk (by simp)); replace HF := Zz.mk (HF.out.store hz hb (by simp)); clear hx hk hz hb; obtain ⟨ad, a1, m1, k1, a2, m2, k2, hA, y0, y1, y2, v1, v2, hi⟩ := file_V HV.out HI.out; subst hA; have W1 := Zz.mk v1; have W2 := Zz.mk v2; clear v1 v2; have hi0 : (0 : Int) ≤ (i : Int) := Int.natCast_nonneg i; clear c00 c01 c02 c03 c04 c05 d00 d01 d02 d03 d04 d05; clear c10 c11 c12 c13 c14 c15 d10 d11 d12 d13 d14 d15; clear c20 c21 c22 c23 c24 c25 d20 d21 d22 d23 d24 d25; obtain ⟨c00, c01, c02, c03, c04, c05, d00, d01, d02, d03, d04, d05⟩ := Blk.six B0.out; obtain ⟨c10, c11, c12, c13, c14, c15, d10, d11, d12, d13, d14, d15⟩ := Blk.six B1.out; obtain ⟨c20, c21, c22, c23, c24, c25, d20, d21, d22, d23, d24, d25⟩ := Blk.six B2.out)
      | ((with_reducible refine gate_store (t := 29) (p := 2) rfl ?_); refine store_event rfl rfl (g := g0) (cells := #[.slice A4 mq c4, .int .i64 S.no, .int .i64 o1, .int .i64 f1, .int .i64 S.fault, .bool false]) (by first | rfl | (go_simp; done) | (go_simp; rfl)) (by first | rfl | (go_simp; done) | (go_simp; rfl)) B0.out info29 rfl (by simp [Value.oneCell']) ?_; intro ws hx hk hz hb; replace B0 := Zz.mk (hx); replace B1 := Zz.mk (show Blk ws g1 34 _ from blk_kept B1.out hk hE10); replace B2 := Zz.mk (show Blk ws g2 29 _ from blk_kept B2.out hk hE20); replace B3 := Zz.mk (show Blk ws g3 47 _ from blk_kept B3.out hk hE30); replace HV := Zz.mk (Fp.store (base' := 0) HV.out hk (by simp)); replace W1 := Zz.mk (Fp.store (base' := 0) W1.out hk (by simp)); replace W2 := Zz.mk (Fp.store (base' := 0) W2.out hk (by simp)); replace HF := Zz.mk (HF.out.store hz hb (by simp)); clear hx hk hz hb; skip; clear c00 c01 c02 c03 c04 c05 d00 d01 d02 d03 d04 d05; clear c10 c11 c12 c13 c14 c15 d10 d11 d12 d13 d14 d15; clear c20 c21 c22 c23 c24 c25 d20 d21 d22 d23 d24 d25; clear c30 c31 c32 d30 d31 d32; obtain ⟨c00, c01, c02, c03, c04, c05, d00, d01, d02, d03, d04, d05⟩ := Blk.six B0.out; obtain ⟨c10, c11, c12, c13, c14, c15, d10, d11, d12, d13, d14, d15⟩ := Blk.six B1.out; obtain ⟨c20, c21, c22, c23, c24, c25, d20, d21, d22, d23, d24, d25⟩ := Blk.six B2.out; obtain ⟨c30, c31, c32, d30, d31, d32⟩ := Blk.three B3.out)
      | ((with_reducible refine gate_store (t := 29) (p := 2) rfl ?_); refine store_event rfl rfl (g := g0) (cells := #[.slice A5q mw c5q, .int .i64 S.no, .int .i64 o1, .int .i64 f1, .int .i64 S.fault, .bool false]) (by first | rfl | (go_simp; done) | (go_simp; rfl)) (by first | rfl | (go_simp; done) | (go_simp; rfl)) B0.out info29 rfl (by simp [Value.oneCell']) ?_; intro ws hx hk hz hb; replace B0 := Zz.mk (hx); replace B1 := Zz.mk (show Blk ws g1 34 _ from blk_kept B1.out hk hE10); replace B2 := Zz.mk (show Blk ws g2 29 _ from blk_kept B2.out hk hE20); replace B3 := Zz.mk (show Blk ws g3 47 _ from blk_kept B3.out hk hE30); replace HV := Zz.mk (Fp.store (base' := 0) HV.out hk (by simp)); replace W1 := Zz.mk (Fp.store (base' := 0) W1.out hk (by simp)); replace W2 := Zz.mk (Fp.store (base' := 0) W2.out hk (by simp)); replace HF := Zz.mk (HF.out.store hz hb (by simp)); clear hx hk hz hb; skip; clear c00 c01 c02 c03 c04 c05 d00 d01 d02 d03 d04 d05; clear c10 c11 c12 c13 c14 c15 d10 d11 d12 d13 d14 d15; clear c20 c21 c22 c23 c24 c25 d20 d21 d22 d23 d24 d25; clear c30 c31 c32 d30 d31 d32; obtain ⟨c00, c01, c02, c03, c04, c05, d00, d01, d02, d03, d04, d05⟩ := Blk.six B0.out; obtain ⟨c10, c11, c12, c13, c14, c15, d10, d11, d12, d13, d14, d15⟩ := Blk.six B1.out; obtain ⟨c20, c21, c22, c23, c24, c25, d20, d21, d22, d23, d24, d25⟩ := Blk.six B2.out; obtain ⟨c30, c31, c32, d30, d31, d32⟩ := Blk.three B3.out))
  iterate 14 go_step
  exact known_ok_end HF.out (by simp) HV.out HO.out.1 HO.out.2 HD.out HU.out B2.out rfl rfl rfl rfl
set_option maxRecDepth 100000 in
set_option maxHeartbeats 1000000 in
theorem known_remove {w : World} {P : Nat → Prop} {A : Option Addr} {c : Nat} {S : PS} (h : Kd.V k47 47 w w.heap.size P (.slice A (S.l.map toF).length c) (S.l.map toF)) (hB : BoundP S) (hN : NumP S) (hd : S.down = false) {s t : ByteArray} {A3 A5 : Option Addr} {n3 n5 c3 c5 : Nat} {n : Int} {i : Nat} {f : PF} (hf : idxP s S.l 0 = (i : Int)) (hi : S.l[i]? = some f) (hfu : S.fuse ≠ 0) :
    Calls Try.prog 36 #[.agg #[.slice A (S.l.map toF).length c, .int .i64 S.no, .int .i64 S.ops, .int .i64 S.fuse, .int .i64 S.fault, .bool S.down], .agg #[.int .i64 3, .string s, .string t, .slice A3 n3 c3, .int .i64 n, .slice A5 n5 c5]] w fun e w' =>
      ∃ v', e = .returned (.tuple #[v', .int .i64 0]) ∧ RSt w' (fun k => P k ∨ w.heap.size ≤ k) v' { countP S with l := withoutP f.name S.l } ∧ Below w.heap.size w w' := by
  have X := Zz.mk (known_find h hB s hf rfl)
  obtain ⟨o1, ho⟩ : ∃ o1, (countP S).ops = o1 := ⟨_, rfl⟩
  obtain ⟨f1, hf1⟩ : ∃ f1, (countP S).fuse = f1 := ⟨_, rfl⟩
  have HO := Zz.mk (And.intro ho hf1)
  simp only [hd] at X
  rw [hd]
  have HD := Zz.mk hd
  have HU := Zz.mk hfu
  have HL : Zz (S.l.length ≤ 1000000) := ⟨by have := hB.1; omega⟩
  have HFB := Zz.mk (hB.2 f (List.mem_of_getElem? hi))
  generalize hm : (S.l.map toF).length = m at X h ⊢
  have Y : Zz (∀ (G : List Nat) (A : Option Addr) (c : Nat) w', Fr w w' G → Kd.V k47 47 w' 0 (Fp w P G) (.slice A m c) (S.l.map toF) → Calls Try.prog 54 #[.agg #[.slice A m c, .int .i64 S.no, .int .i64 S.ops, .int .i64 S.fuse, .int .i64 S.fault, .bool false]] w' fun e w'' => ∃ A' c', e = .returned (.agg #[.slice A' m c', .int .i64 S.no, .int .i64 o1, .int .i64 f1, .int .i64 S.fault, .bool false]) ∧
      Kd.V k47 47 w'' 0 (fun k => Fp w P G k ∨ w'.heap.size ≤ k) (.slice A' m c') (S.l.map toF) ∧ Below w'.heap.size w' w'') := ⟨fun G A c => known_count2 hN hd hfu ho hf1⟩
  have HV := Zz.mk (Fp.start (base' := 0) h)
  have HF := Zz.mk (Fr.start w)
  have HI := Zz.mk hi
  have i0 : decide ((i : Int) < 0) = false := decide_eq_false (by omega)
  obtain ⟨mq, hm2⟩ : ∃ mq, ((withoutP f.name S.l).map toF).length = mq := ⟨_, rfl⟩
  have HM2 := Zz.mk hm2
  clear hm2
  clear h hf hm hB hN hd hfu ho hf1 hi
  go_enter Try.func36, Try.ntmps36
  have hu29 := Try.underlying29
  have hu34 := Try.underlying34
  have hu47 := Try.underlying47
  go_upto_region 25 with (first
      | ((with_reducible refine gate_dst (N := 2) rfl ?_); refine box_event ?hg (N := 2) ?hd (cs := #[.slice A m c, .int .i64 S.no, .int .i64 S.ops, .int .i64 S.fuse, .int .i64 S.fault, .bool false]) (t := 29) ?hr ?_; (case hd => rfl); (case hg => rfl); (case hr => first | (go_simp; done) | (go_simp; rfl)); intro g0 hg w1 hx hb; replace HV := Zz.mk (Fp.box (base' := 0) HV.out hg hb); replace HF := Zz.mk (HF.out.box hg hb (Blk.lt (show Blk w1 g0 29 _ from hx))); have B0 := Zz.mk (show Blk w1 g0 29 _ from hx); clear hg hx hb; obtain ⟨c00, c01, c02, c03, c04, c05, d00, d01, d02, d03, d04, d05⟩ := Blk.six B0.out)
      | ((with_reducible refine gate_dst (N := 3) rfl ?_); refine box_event ?hg (N := 3) ?hd (cs := #[.int .i64 3, .string s, .string t, .slice A3 n3 c3, .int .i64 n, .slice A5 n5 c5]) (t := 34) ?hr ?_; (case hd => rfl); (case hg => rfl); (case hr => first | (go_simp; done) | (go_simp; rfl)); intro g1 hg w2 hx hb; have hE01 := HF.out.ne (k := g0) (by simp) hg; have hE10 := hE01.symm; replace B0 := Zz.mk (Blk.belowW B0.out hb); replace HV := Zz.mk (Fp.box (base' := 0) HV.out hg hb); replace HF := Zz.mk (HF.out.box hg hb (Blk.lt (show Blk w2 g1 34 _ from hx))); have B1 := Zz.mk (show Blk w2 g1 34 _ from hx); clear hg hx hb; clear c00 c01 c02 c03 c04 c05 d00 d01 d02 d03 d04 d05; obtain ⟨c00, c01, c02, c03, c04, c05, d00, d01, d02, d03, d04, d05⟩ := Blk.six B0.out; obtain ⟨c10, c11, c12, c13, c14, c15, d10, d11, d12, d13, d14, d15⟩ := Blk.six B1.out)
      | ((with_reducible refine gate_dst (N := 4) rfl ?_); refine box_event ?hg (N := 4) ?hd (cs := #[.slice none 0 0, .int .i64 0, .int .i64 0, .int .i64 0, .int .i64 0, .bool false]) (t := 29) ?hr ?_; (case hd => rfl); (case hg => rfl); (case hr => first | (go_simp; done) | (go_simp; rfl)); intro g2 hg w3 hx hb; have hE02 := HF.out.ne (k := g0) (by simp) hg; have hE20 := hE02.symm; have hE12 := HF.out.ne (k := g1) (by simp) hg; have hE21 := hE12.symm; replace B0 := Zz.mk (Blk.belowW B0.out hb); replace B1 := Zz.mk (Blk.belowW B1.out hb); replace HV := Zz.mk (Fp.box (base' := 0) HV.out hg hb); replace HF := Zz.mk (HF.out.box hg hb (Blk.lt (show Blk w3 g2 29 _ from hx))); have B2 := Zz.mk (show Blk w3 g2 29 _ from hx); clear hg hx hb; clear c00 c01 c02 c03 c04 c05 d00 d01 d02 d03 d04 d05; clear c10 c11 c12 c13 c14 c15 d10 d11 d12 d13 d14 d15; obtain ⟨c00, c01, c02, c03, c04, c05, d00, d01, d02, d03, d04, d05⟩ := Blk.six B0.out; obtain ⟨c10, c11, c12, c13, c14, c15, d10, d11, d12, d13, d14, d15⟩ := Blk.six B1.out; obtain ⟨c20, c21, c22, c23, c24, c25, d20, d21, d22, d23, d24, d25⟩ := Blk.six B2.out)
      | ((with_reducible refine gate_dst (N := 7) rfl ?_); refine box_event ?hg (N := 7) ?hd (cs := #[.string ByteArray.empty, .slice none 0 0, .slice none 0 0]) (t := 47) ?hr ?_; (case hd => rfl); (case hg => rfl); (case hr => first | (go_simp; done) | (go_simp; rfl)); intro g3 hg w4 hx hb; have hE03 := HF.out.ne (k := g0) (by simp) hg; have hE30 := hE03.symm; have hE13 := HF.out.ne (k := g1) (by simp) hg; have hE31 := hE13.symm; have hE23 := HF.out.ne (k := g2) (by simp) hg; have hE32 := hE23.symm; replace B0 := Zz.mk (Blk.belowW B0.out hb); replace B1 := Zz.mk (Blk.belowW B1.out hb); replace B2 := Zz.mk (Blk.belowW B2.out hb); replace HV := Zz.mk (Fp.box (base' := 0) HV.out hg hb); replace W1 := Zz.mk (Fp.box (base' := 0) W1.out hg hb); replace W2 := Zz.mk (Fp.box (base' := 0) W2.out hg hb); replace HF := Zz.mk (HF.out.box hg hb (Blk.lt (show Blk w4 g3 47 _ from hx))); have B3 := Zz.mk (show Blk w4 g3 47 _ from hx); clear hg hx hb; clear c00 c01 c02 c03 c04 c05 d00 d01 d02 d03 d04 d05; clear c10 c11 c12 c13 c14 c15 d10 d11 d12 d13 d14 d15; clear c20 c21 c22 c23 c24 c25 d20 d21 d22 d23 d24 d25; obtain ⟨c00, c01, c02, c03, c04, c05, d00, d01, d02, d03, d04, d05⟩ := Blk.six B0.out; obtain ⟨c10, c11, c12, c13, c14, c15, d10, d11, d12, d13, d14, d15⟩ := Blk.six B1.out; obtain ⟨c20, c21, c22, c23, c24, c25, d20, d21, d22, d23, d24, d25⟩ := Blk.six B2.out; obtain ⟨c30, c31, c32, d30, d31, d32⟩ := Blk.three B3.out)
      | (go_at_call 52; (with_reducible refine (X.out _ HF.out.below).mono ?_); rintro _ wc ⟨rfl, hb⟩; skip; replace B0 := Zz.mk (Blk.belowW B0.out hb); replace B1 := Zz.mk (Blk.belowW B1.out hb); replace B2 := Zz.mk (Blk.belowW B2.out hb); replace HV := Zz.mk (Fp.step (base' := 0) HV.out hb); replace HF := Zz.mk (HF.out.call hb); clear hb; skip; clear c00 c01 c02 c03 c04 c05 d00 d01 d02 d03 d04 d05; clear c10 c11 c12 c13 c14 c15 d10 d11 d12 d13 d14 d15; clear c20 c21 c22 c23 c24 c25 d20 d21 d22 d23 d24 d25; obtain ⟨c00, c01, c02, c03, c04, c05, d00, d01, d02, d03, d04, d05⟩ := Blk.six B0.out; obtain ⟨c10, c11, c12, c13, c14, c15, d10, d11, d12, d13, d14, d15⟩ := Blk.six B1.out; obtain ⟨c20, c21, c22, c23, c24, c25, d20, d21, d22, d23, d24, d25⟩ := Blk.six B2.out)
      | (go_at_call 54; (with_reducible refine (Y.out _ _ _ _ HF.out HV.out).mono ?_); rintro _ wc ⟨A', c', rfl, hv, hb⟩; have N0 := Zz.mk (Fp.told (base' := 0) hv HF.out); clear hv HV; replace B0 := Zz.mk (Blk.belowW B0.out hb); replace B1 := Zz.mk (Blk.belowW B1.out hb); replace B2 := Zz.mk (Blk.belowW B2.out hb); replace HF := Zz.mk (HF.out.call hb); clear hb; have HV := N0; clear N0; clear c00 c01 c02 c03 c04 c05 d00 d01 d02 d03 d04 d05; clear c10 c11 c12 c13 c14 c15 d10 d11 d12 d13 d14 d15; clear c20 c21 c22 c23 c24 c25 d20 d21 d22 d23 d24 d25; obtain ⟨c00, c01, c02, c03, c04, c05, d00, d01, d02, d03, d04, d05⟩ := Blk.six B0.out; obtain ⟨c10, c11, c12, c13, c14, c15, d10, d11, d12, d13, d14, d15⟩ := Blk.six B1.out; obtain ⟨c20, c21, c22, c23, c24, c25, d20, d21, d22, d23, d24, d25⟩ := Blk.six B2.out)
      | ((with_reducible refine gate_store (t := 47) (p := 7) rfl ?_); refine store_event rfl rfl (g := g3) (cells := #[.string f.name, .slice a1 m1 k1, .slice a2 m2 k2]) (by first | rfl | (go_simp; done) | (go_simp; rfl)) (by first | rfl | (go_simp; done) | (go_simp; rfl)) B3.out info47 rfl (by simp [Value.oneCell']) ?_; intro ws hx hk hz hb; replace B3 := Zz.mk (hx); replace B0 := Zz.mk (show Blk ws g0 29 _ from blk_kept B0.out hk hE03); replace B1 := Zz.mk (show Blk ws g1 34 _ from blk_kept B1.out hk hE13); replace B2 := Zz.mk (show Blk ws g2 29 _ from blk_kept B2.out hk hE23); replace HV := Zz.mk (Fp.store (base' := 0) HV.out hk (by simp)); replace W1 := Zz.mk (Fp.store (base' := 0) W1.out hk (by simp)); replace W2 := Zz.mk (Fp.store (base' := 0) W2.out hk (by simp)); replace HF := Zz.mk (HF.out.store hz hb (by simp)); clear hx hk hz hb; clear y0 y1 y2 hi hi0; clear c00 c01 c02 c03 c04 c05 d00 d01 d02 d03 d04 d05; clear c10 c11 c12 c13 c14 c15 d10 d11 d12 d13 d14 d15; clear c20 c21 c22 c23 c24 c25 d20 d21 d22 d23 d24 d25; clear c30 c31 c32 d30 d31 d32; obtain ⟨c00, c01, c02, c03, c04, c05, d00, d01, d02, d03, d04, d05⟩ := Blk.six B0.out; obtain ⟨c10, c11, c12, c13, c14, c15, d10, d11, d12, d13, d14, d15⟩ := Blk.six B1.out; obtain ⟨c20, c21, c22, c23, c24, c25, d20, d21, d22, d23, d24, d25⟩ := Blk.six B2.out; obtain ⟨c30, c31, c32, d30, d31, d32⟩ := Blk.three B3.out)
      | (go_at_call 56; (with_reducible refine (ref_without HV.out HL.out HM2.out _ _ _ _ _).mono ?_); rintro _ wc ⟨A4, c4, rfl, hv, hb⟩; have N0 := Zz.mk (Fp.told (base' := 0) hv HF.out); clear hv HV; replace B0 := Zz.mk (Blk.belowW B0.out hb); replace B1 := Zz.mk (Blk.belowW B1.out hb); replace B2 := Zz.mk (Blk.belowW B2.out hb); replace B3 := Zz.mk (Blk.belowW B3.out hb); replace W1 := Zz.mk (Fp.step (base' := 0) W1.out hb); replace W2 := Zz.mk (Fp.step (base' := 0) W2.out hb); replace HF := Zz.mk (HF.out.call hb); clear hb; have HV := N0; clear N0; clear c00 c01 c02 c03 c04 c05 d00 d01 d02 d03 d04 d05; clear c10 c11 c12 c13 c14 c15 d10 d11 d12 d13 d14 d15; clear c20 c21 c22 c23 c24 c25 d20 d21 d22 d23 d24 d25; clear c30 c31 c32 d30 d31 d32; obtain ⟨c00, c01, c02, c03, c04, c05, d00, d01, d02, d03, d04, d05⟩ := Blk.six B0.out; obtain ⟨c10, c11, c12, c13, c14, c15, d10, d11, d12, d13, d14, d15⟩ := Blk.six B1.out; obtain ⟨c20, c21, c22, c23, c24, c25, d20, d21, d22, d23, d24, d25⟩ := Blk.six B2.out; obtain ⟨c30, c31, c32, d30, d31, d32⟩ := Blk.three B3.out)
      | ((with_reducible refine gate_store (t := 29) (p := 2) rfl ?_); refine store_event rfl rfl (g := g0) (cells := #[.slice A' m c', .int .i64 S.no, .int .i64 o1, .int .i64 f1, .int .i64 S.fault, .bool false]) (by first | rfl | (go_simp; done) | (go_simp; rfl)) (by first | rfl | (go_simp; done) | (go_simp; rfl)) B0.out info29 rfl (by simp [Value.oneCell']) ?_; intro ws hx hk hz hb; replace B0 := Zz.mk (hx); replace B1 := Zz.mk (show Blk ws g1 34 _ from blk_kept B1.out hk hE10); replace B2 := Zz.mk (show Blk ws g2 29 _ from blk_kept B2.out hk hE20); replace HV := Zz.mk (Fp.store (base' := 0) HV.out hk (by simp)); replace HF := Zz.mk (HF.out.store hz hb (by simp)); clear hx hk hz hb; obtain ⟨ad, a1, m1, k1, a2, m2, k2, hA, y0, y1, y2, v1, v2, hi⟩ := file_V HV.out HI.out; subst hA; have W1 := Zz.mk v1; have W2 := Zz.mk v2; clear v1 v2; have hi0 : (0 : Int) ≤ (i : Int) := Int.natCast_nonneg i; clear c00 c01 c02 c03 c04 c05 d00 d01 d02 d03 d04 d05; clear c10 c11 c12 c13 c14 c15 d10 d11 d12 d13 d14 d15; clear c20 c21 c22 c23 c24 c25 d20 d21 d22 d23 d24 d25; obtain ⟨c00, c01, c02, c03, c04, c05, d00, d01, d02, d03, d04, d05⟩ := Blk.six B0.out; obtain ⟨c10, c11, c12, c13, c14, c15, d10, d11, d12, d13, d14, d15⟩ := Blk.six B1.out; obtain ⟨c20, c21, c22, c23, c24, c25, d20, d21, d22, d23, d24, d25⟩ := Blk.six B2.out)
      | ((with_reducible refine gate_store (t := 29) (p := 2) rfl ?_); refine store_event rfl rfl (g := g0) (cells := #[.slice A4 mq c4, .int .i64 S.no, .int .i64 o1, .int .i64 f1, .int .i64 S.fault, .bool false]) (by first | rfl | (go_simp; done) | (go_simp; rfl)) (by first | rfl | (go_simp; done) | (go_simp; rfl)) B0.out info29 rfl (by simp [Value.oneCell']) ?_; intro ws hx hk hz hb; replace B0 := Zz.mk (hx); replace B1 := Zz.mk (show Blk ws g1 34 _ from blk_kept B1.out hk hE10); replace B2 := Zz.mk (show Blk ws g2 29 _ from blk_kept B2.out hk hE20); replace B3 := Zz.mk (show Blk ws g3 47 _ from blk_kept B3.out hk hE30); replace HV := Zz.mk (Fp.store (base' := 0) HV.out hk (by simp)); replace W1 := Zz.mk (Fp.store (base' := 0) W1.out hk (by simp)); replace W2 := Zz.mk (Fp.store (base' := 0) W2.out hk (by simp)); replace HF := Zz.mk (HF.out.store hz hb (by simp)); clear hx hk hz hb; skip; clear c00 c01 c02 c03 c04 c05 d00 d01 d02 d03 d04 d05; clear c10 c11 c12 c13 c14 c15 d10 d11 d12 d13 d14 d15; clear c20 c21 c22 c23 c24 c25 d20 d21 d22 d23 d24 d25; clear c30 c31 c32 d30 d31 d32; obtain ⟨c00, c01, c02, c03, c04, c05, d00, d01, d02, d03, d04, d05⟩ := Blk.six B0.out; obtain ⟨c10, c11, c12, c13, c14, c15, d10, d11, d12, d13, d14, d15⟩ := Blk.six B1.out; obtain ⟨c20, c21, c22, c23, c24, c25, d20, d21, d22, d23, d24, d25⟩ := Blk.six B2.out; obtain ⟨c30, c31, c32, d30, d31, d32⟩ := Blk.three B3.out))
  iterate 14 go_step
  exact known_ok_end HF.out (by simp) HV.out HO.out.1 HO.out.2 HD.out HU.out B2.out rfl rfl rfl rfl
end Go.Proofs.Ytcpkoajnepijkaa

