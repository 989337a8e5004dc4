/- Parts of the proof of the law that the last file states; declarations that nothing mentions are left out by a program. No conditions. -/
import Derived.Test.YtcpkoajnepijkaaRefK5q
import Derived.Test.YtcpkoajnepijkaaLHeldq
set_option linter.unusedVariables false
set_option linter.unusedSimpArgs false
namespace Go.Proofs.Ytcpkoajnepijkaa
open Go.RowKit Go.Proofs.YtcpkoajnepijkaaL Go.Proofs.YtcpkoajnepijkaaW.PrintWords Go.Proofs.Ytcpkoajnepijkaa.Q
theorem infoZ91 : (Try.prog.info? 91).map (fun i => (i.zero, i.size, i.bytes)) = some (some (.agg #[.int .i64 0, .int .i64 0, .slice none 0 0]), 3, 40) := by kernel_rfl
section
variable {ops : Array Oper} {o : Oper} {a : Act} {Q : Exit → Act → World → Prop} {Kc : Act → World → Prop} {W : World} {ok : Nat → Prop}
theorem row0_step (hw : Region.wanted o (yielded ops a.tmps) = true) {N : Tmp} (hd : o.dst = some N) (hrun : (execOp a.eval o).run Try.prog W = .ok (.value (.slice (some ⟨W.heap.size, 0, none⟩) 0 0)) (W.alloc (.cells #[] 91))) (hok : ok W.heap.size)
    (h : ∀ A c w1, Kd.N k91 91 w1 W.heap.size ok (.slice A 0 c) [] → Below W.heap.size W w1 → Kc (a.put (some N) (.slice A 0 c)) w1) : if Region.wanted o (yielded ops a.tmps) = true then Oper.wp Try.prog o a W Kc Q else Kc (a.put o.dst undef) W := by
  refine Kd.N_lit_step k91 (w0 := W) W.heap.size 91 hw hd (xs := []) (inner := []) (ok := ok) (okp := fun _ => False) hrun (Reps.none _ _) (fun _ hk => hk.elim) hok (Below.refl _ _) (Nat.le_refl _) (by simp) ?_
  intro v1 w1 hn hb _ _
  obtain ⟨A, c, rfl⟩ := Kd.N_slice hn
  rw [hd]
  exact h A c w1 hn hb
theorem rowP_step (hw : Region.wanted o (yielded ops a.tmps) = true) {N : Tmp} (hd : o.dst = some N) {x : S91} {A2 : Option Addr} {n2 c2 base : Nat} {okp : Nat → Prop} (hrun : (execOp a.eval o).run Try.prog W = .ok (.value (.slice (some ⟨W.heap.size, 0, none⟩) 1 1)) (W.alloc (.cells #[.int .i64 x.f0, .int .i64 x.f1, .slice A2 n2 c2] 91)))
    (hv : Kd.V (Kd.int .u8) 5 W base okp (.slice A2 n2 c2) x.f2) (hokp : ∀ k, okp k → ok k) (hok : ok W.heap.size)
    (h : ∀ A c w1, Kd.N k91 91 w1 W.heap.size ok (.slice A 1 c) [x] → Below W.heap.size W w1 → Kc (a.put (some N) (.slice A 1 c)) w1) : if Region.wanted o (yielded ops a.tmps) = true then Oper.wp Try.prog o a W Kc Q else Kc (a.put o.dst undef) W := by
  have hn2 := V_len hv
  subst hn2
  obtain ⟨_, l2, g2⟩ := Kd.V_at hv
  refine Kd.N_lit_step k91 (w0 := W) W.heap.size 91 hw hd (xs := [x]) (inner := [.int .i64 x.f0, .int .i64 x.f1, .slice A2 x.f2.length c2]) (ok := ok) (okp := okp) hrun ?_ hokp hok (Below.refl _ _) (Nat.le_refl _) (by simp) ?_
  · have := Reps.snoc (Reps.none (Kd.FK k91 W okp) k91.sz) (k91_mkF W okp x l2 g2) rfl
    simpa using this
  · intro v1 w1 hn hb _ _
    obtain ⟨A, c, rfl⟩ := Kd.N_slice hn
    rw [hd]
    exact h A c w1 hn hb
theorem app_step {wd : World} (hw : Region.wanted o (yielded ops a.tmps) = true) {N : Tmp} (hd : o.dst = some N) (s x : Operand) (ho : o.op = .call { callee := .builtin .append, args := #[s, x], argTypes := #[45, 45] }) {A A2 : Option Addr} {n c m2 c2 base : Nat} {xs ys : List S91} {okp : Nat → Prop} (hs : a.eval s = .slice A n c) (hx : a.eval x = .slice A2 m2 c2)
    (HO : Kd.N k91 91 W wd.heap.size ok (.slice A n c) xs) (HR : Kd.V k91 91 W base okp (.slice A2 m2 c2) ys) (hokp : ∀ k, okp k → ok k ∧ some k ≠ (Value.slice A n c).ownBlock) (hfresh : ∀ k, W.heap.size ≤ k → ok k) (HB : Below wd.heap.size wd W) (hl : xs.length + m2 ≤ 1000000)
    (h : ∀ A1 n1 c1 w1, Zz (n1 = (xs ++ ys).length) → Kd.N k91 91 w1 wd.heap.size ok (.slice A1 n1 c1) (xs ++ ys) → Below wd.heap.size wd w1 → W.grownBy w1 (Value.slice A n c).ownBlock → ((Value.slice A1 n1 c1).ownBlock = (Value.slice A n c).ownBlock ∨ ∃ b, (Value.slice A1 n1 c1).ownBlock = some b ∧ W.heap.size ≤ b) → Kc (a.put (some N) (.slice A1 n1 c1)) w1) :
    if Region.wanted o (yielded ops a.tmps) = true then Oper.wp Try.prog o a W Kc Q else Kc (a.put o.dst undef) W := by
  have hm2 := V_len HR
  subst hm2
  obtain ⟨_, _, g2⟩ := Kd.V_at HR
  refine Kd.N_append_rows_step k91 (w0 := wd) wd.heap.size hw s x 45 91 (.agg #[.int .i64 0, .int .i64 0, .slice none 0 0]) 40 ho Try.underlying45 infoZ91 rfl (by decide) (by omega) (.slice A n c) xs ys A2 _ c2 ok okp hs hx HO g2 hokp hfresh HB (below_size HB) (by omega) ?_
  intro v1 w1 hn hb hg hat
  obtain ⟨A1, c1, rfl⟩ := Kd.N_slice hn
  rw [hd]
  exact h A1 _ c1 w1 ⟨rfl⟩ hn hb hg hat
end
theorem store1_step {P : Program} {o : Oper} {a : Act} {w : World} {K : Act → World → Prop} {Q : Exit → Act → World → Prop} {ty : TypeId} {x y : Operand} (ho : o.op = .store ty x y) (hd : o.dst = none) {g i : Nat} {v : Value} (hx : a.eval x = .pointer (some ⟨g, i, none⟩)) (hy : a.eval y = v)
    {t : TypeId} {old : Array Value} (hg : Blk w g t old) (hi : i < old.size) (hs : (P.info? ty).map (·.size) = some 1) (h1 : v.oneCell' = true)
    (h : ∀ w', Blk w' g t (old.setIfInBounds i v) → YtcpkoajnepijkaaW.PrintWords.Kept w w' (fun k => k = g) → w'.heap.size = w.heap.size → (∀ {B w0}, Below B w0 w → B ≤ g → Below B w0 w') → K a w') : Oper.wp P o a w K Q := by
  have hc : v.cells = #[v] := by cases v <;> first | rfl | cases h1
  have hr : (storeVar ty ⟨g, i, none⟩ v).run P w = .ok () (w.setCell ⟨g, i, none⟩ v) := by
    cases hq : P.info? ty with
    | none => simp [hq] at hs
    | some ii =>
      have hs' : ii.size = 1 := by simpa [hq] using hs
      have c1 := hg.cell i (v := old[i]) (by simp [hi])
      have f1 := hg.frozen i
      simp [storeVar, sizeOf, typeInfo, hq, hc, hs', storeCells, Sem.run_bind, Addr.add]
      rw [run_store P _ _ v _ h1, c1]
      simp [f1]
  unfold Oper.wp execOp
  simp only [ho, hx, hy, Instr.storeAt, Instr.sureAddr, Sem.run_bind, Sem.run_pure, Result.andThen_ok, hr]
  show K (a.put o.dst undef) _
  rw [hd]
  exact h _ (Blk.set_ hg i v) ⟨by simp, fun k _ hn => Below.heap_setCell w ⟨g, i, none⟩ v k hn⟩ (by simp) (fun hb hB => hb.setCell hB _)
structure WSt (w0 wx : World) (g0 g1 g2 g3 : Nat) (c0 c1 c2 c3 : Array Value) : Prop where
  b0 : Blk wx g0 29 c0
  b1 : Blk wx g1 34 c1
  b2 : Blk wx g2 29 c2
  b3 : Blk wx g3 47 c3
  fr : Fr w0 wx [g3, g2, g1, g0]
theorem rst_end {fn : Func} {w w6 : World} {P : Nat → Prop} {A' : Option Addr} {c' m g2 o1 no1 : Nat} {f1 fa code : Int} {dn : Bool} {S2 : PS} {G : List Nat} {a : Act} (hF : Fr w w6 G) (hg : g2 ∈ G) (hv : Kd.V k47 47 w6 0 (Fp w P G) (.slice A' m c') (S2.l.map toF)) (hS : S2.no = no1 ∧ S2.ops = o1 ∧ S2.fuse = f1 ∧ S2.fault = fa ∧ S2.down = dn)
    {x0 x1 x2 x3 x4 x5 : Value} (hB : Blk w6 g2 29 #[x0, x1, x2, x3, x4, x5]) (hr : fn.results = #[.cell 4 29, .tmp 5]) (hp : a.tmps.getD 4 undef = .pointer (some ⟨g2, 0, none⟩)) (he : a.tmps.getD 5 undef = .int .i64 code) (hd0 : a.defers = []) :
    bodyPost Try.prog fn (fun e w' => ∃ v', e = .returned (.tuple #[v', .int .i64 code]) ∧ RSt w' (fun k => P k ∨ w.heap.size ≤ k) v' S2 ∧ Below w.heap.size w w') .ret a
      ((((((w6.setCell ⟨g2, 0, none⟩ (.slice A' m c')).setCell ⟨g2, 1, none⟩ (.int .i64 no1)).setCell ⟨g2, 2, none⟩ (.int .i64 o1)).setCell ⟨g2, 3, none⟩ (.int .i64 f1)).setCell ⟨g2, 4, none⟩ (.int .i64 fa)).setCell ⟨g2, 5, none⟩ (.bool dn)) := by
  have hm := V_len hv
  obtain ⟨h1, h2, h3, h4, h5⟩ := hS
  subst hm h1 h2 h3 h4 h5
  refine ret29 hr hp (Blk.fill hB _ _ _ _ _ _) rfl he hd0 ⟨_, rfl, ?_, fill_below hF.below (hF.lt _ hg).1 _ _ _ _ _ _⟩
  refine ⟨A', c', rfl, ?_⟩
  exact Kd.V_mono (V_fill hv (fun k hk e => hk.2 (e ▸ hg)) _ _ _ _ _ _) (fun k hk => hk.1)
end Go.Proofs.Ytcpkoajnepijkaa

