/- Parts of the proof of the law that the last file states; declarations that nothing mentions are left out by a program. No conditions. -/
import Derived.Test.YtledplnlcjfafaaDoorLTermW3q
set_option linter.unusedVariables false
set_option linter.unusedSimpArgs false
section
namespace Go.Proofs.YtledplnlcjfafaaDoorL
open Go Go.RowKit Go.Proofs.YtledplnlcjfafaaDoorW.PrintWords
set_option maxRecDepth 100000 in
set_option maxHeartbeats 2000000 in
theorem blank_calls (n : Nat) (h1 : 1 ≤ n) (h2 : n ≤ 1000) (w : World) : Calls Tryd.prog 32 #[.int .i64 (n : Int)] w fun e w' => ∃ r : RR, e = .returned r.v ∧ r.n = n ∧ w.heap.size ≤ r.g ∧ RowAt w' r (blankR n) ∧ Below w.heap.size w w' := by
  go_enter Tryd.func32, Tryd.ntmps32
  go_wp2_with fail
  go_at_call 41
  have XB := blankc_calls w
  rw [show (cV blankC).toArray = #[.string ⟨#[32]⟩, .int .i64 1, .bool false] from rfl] at XB
  with_reducible refine XB.mono ?_
  rintro _ w1 ⟨rfl, hb⟩
  clear XB
  have HB := Hd.mk hb
  have hal := below_alloc (Below.refl _ w1) (.cells #[.string ⟨#[32]⟩, .int .i64 1, .bool false] 42)
  have XR := Hd.mk (repeat_calls (show Blk (w1.alloc (.cells #[.string ⟨#[32]⟩, .int .i64 1, .bool false] 42)) w1.heap.size 42 (cV blankC).toArray from Blk.new w1 42 #[.string ⟨#[32]⟩, .int .i64 1, .bool false]) h1 h2)
  have HB2 := Hd.mk (HB.out.trans (hal.mono HB.out.size))
  clear hb hal
  go_wp2_with fail
  go_at_call 40
  with_reducible refine (XR.out).mono ?_
  rintro _ w2 ⟨r, rfl, hn, hg, hr, hb⟩
  have HE := Hd.mk (HB2.out.trans (hb.mono HB2.out.size))
  have HR := Hd.mk hr
  have HG : Hd (w.heap.size ≤ r.g) := ⟨Nat.le_trans HB2.out.size hg⟩
  clear hr hb hg XR
  go_wp2
  go_ret
  exact ⟨r, by rfl, hn, HG.out, HR.out, HE.out⟩
set_option maxRecDepth 100000 in
set_option maxHeartbeats 2000000 in
theorem cutn_calls (a b : Int) (w : World) : Calls Tryd.prog 31 #[.int .i64 a, .int .i64 b] w fun e w' => e = .returned (.tuple #[.int .i64 ((cutN a 60 : Nat) : Int), .int .i64 ((cutN b 120 : Nat) : Int)]) ∧ w' = w := by
  have ha : min (max a 1) 60 = ((cutN a 60 : Nat) : Int) := by unfold cutN; omega
  have hb : min (max b 1) 120 = ((cutN b 120 : Nat) : Int) := by unfold cutN; omega
  go_enter Tryd.func31, Tryd.ntmps31
  go_wp2
  go_ret2
  exact ⟨rfl, rfl⟩
set_option maxRecDepth 100000 in
set_option maxHeartbeats 2000000 in
theorem size_calls {P : Nat → Prop} {w : World} {T : Nat} {s : Tm} (h : TermAt P w T s) : Calls Tryd.prog 16 #[.pointer (some ⟨T, 0, none⟩)] w fun e w' => e = .returned (.tuple #[.int .i64 (s.l.length : Int), .int .i64 (s.cols : Int)]) ∧ Below w.heap.size w w' := by
  obtain ⟨lv, gv, bv, L, G, h⟩ := h
  obtain ⟨⟨t0, t1, t2, t3, t4, t5, t6, t7, t8, t9, t10⟩, tf⟩ := h.all
  have hlen := forall_len h.fl
  obtain ⟨A, c, rfl, hc⟩ := Kd.Q_slice h.ql
  rw [hlen] at t1
  clear tf hc h
  go_enter Tryd.func16, Tryd.ntmps16
  go_upto_region 1 with fail
  go_quiet (fail)
  go_wp2
  go_ret2
  exact ⟨rfl, by repeat (first | exact Below.refl _ _ | apply below_drew1 | apply pw_below_drewN)⟩
end Go.Proofs.YtledplnlcjfafaaDoorL
end
section
namespace Go.Proofs.YtledplnlcjfafaaDoorL
open Go Go.RowKit Go.Proofs.YtledplnlcjfafaaDoorW.PrintWords
theorem all2_app {α β : Type} {R : α → β → Prop} : ∀ {l : List α} {m : List β} {a : α} {b : β}, All2 R l m → R a b → All2 R (l ++ [a]) (m ++ [b])
  | _, _, _, _, .nil, h => .cons h .nil
  | _, _, _, _, .cons h t, k => .cons h (all2_app t k)
theorem all2_drop {α β : Type} {R : α → β → Prop} : ∀ {l : List α} {m : List β} (n : Nat), All2 R l m → All2 R (l.drop n) (m.drop n)
  | _, _, 0, h => h
  | _, _, n + 1, .nil => by simpa using All2.nil
  | _, _, n + 1, .cons h t => all2_drop n t
theorem all2_take {α β : Type} {R : α → β → Prop} : ∀ {l : List α} {m : List β} (n : Nat), All2 R l m → All2 R (l.take n) (m.take n)
  | _, _, 0, h => by simpa using All2.nil
  | _, _, n + 1, .nil => by simpa using All2.nil
  | _, _, n + 1, .cons h t => .cons h (all2_take n t)
section
variable {P : Nat → Prop} {w w' w1 : World} {T : Nat} {s s' : Tm} {lv gv bv lv1 gv1 : Value} {L G L1 : List RR}
theorem cell_step {P : Program} {o : Oper} {a : Act} {w : World} {K : Act → World → Prop} {Q : Exit → Act → World → Prop} {ty : TypeId} {x y : Operand} (ho : o.op = .store ty x y) (hd : o.dst = none) {g i : Nat} {u v : Value} (hx : a.eval x = .pointer (some ⟨g, i, none⟩)) (hy : a.eval y = v)
    (hc : w.cell? ⟨g, i, none⟩ = some u) (hf : w.frozen? ⟨g, i, none⟩ = false) (hs : (P.info? ty).map (·.size) = some 1) (h1 : v.oneCell' = true) (h : K a (w.setCell ⟨g, i, none⟩ v)) : Oper.wp P o a w K Q := by
  have hcs : v.cells = #[v] := by cases v <;> first | rfl | cases h1
  have hr : (storeVar ty ⟨g, i, none⟩ v).run P w = .ok () (w.setCell ⟨g, i, none⟩ v) := by
    cases hq : P.info? ty with
    | none => simp [hq] at hs
    | some ii =>
      have hs' : ii.size = 1 := by simpa [hq] using hs
      simp [storeVar, sizeOf, typeInfo, hq, hcs, hs', storeCells, Sem.run_bind, Addr.add]
      rw [run_store P _ _ v _ h1, hc]
      simp [hf]
  unfold Oper.wp execOp
  simp only [ho, hx, hy, Instr.storeAt, Instr.sureAddr, Sem.run_bind, Sem.run_pure, Result.andThen_ok, hr]
  show K (a.put o.dst undef) _
  rw [hd]
  exact h
theorem build1_step {ops : Array Oper} {o : Oper} {a : Act} {W : World} {K : Act → World → Prop} {Q : Exit → Act → World → Prop} (hw : Region.wanted o (yielded ops a.tmps) = true) {N : Tmp} (hd : o.dst = some N) {v : Value} {e : TypeId} (hrun : (execOp a.eval o).run Tryd.prog W = .ok (.value (.slice (some ⟨W.heap.size, 0, none⟩) 1 1)) (W.alloc (.cells #[v] e)))
    (h : K (a.put (some N) (.slice (some ⟨W.heap.size, 0, none⟩) 1 1)) (W.alloc (.cells #[v] e))) : if Region.wanted o (yielded ops a.tmps) = true then Oper.wp Tryd.prog o a W K Q else K (a.put o.dst undef) W := by
  rw [if_pos hw]
  unfold Oper.wp
  rw [hrun]
  show K (a.put o.dst _) _
  rw [hd]
  exact h
theorem pure_step {P : Program} {ops : Array Oper} {o : Oper} {a : Act} {W : World} {K : Act → World → Prop} {Q : Exit → Act → World → Prop} (hw : Region.wanted o (yielded ops a.tmps) = true) {v : Value} (hrun : (execOp a.eval o).run P W = .ok (.value v) W) (h : K (a.put o.dst v) W) : if Region.wanted o (yielded ops a.tmps) = true then Oper.wp P o a W K Q else K (a.put o.dst undef) W := by
  rw [if_pos hw]
  unfold Oper.wp
  rw [hrun]
  exact h
end
end Go.Proofs.YtledplnlcjfafaaDoorL
end
section
namespace Go.Proofs.YtledplnlcjfafaaDoorL
open Go Go.RowKit Go.Proofs.YtledplnlcjfafaaDoorW.PrintWords
theorem addr_add_zero (a : Addr) : a.add 0 = a := by unfold Addr.add; split <;> simp_all
end Go.Proofs.YtledplnlcjfafaaDoorL
end
section
namespace Go.Proofs.YtledplnlcjfafaaDoorL
open Go Go.RowKit Go.Proofs.YtledplnlcjfafaaDoorW.PrintWords
theorem RowAt.reads {w : World} {r : RR} {l : List TC} (h : RowAt w r l) : ∀ (j : Nat) (u : Value), (rowV l)[j]? = some u → w.cell? ((⟨r.g, 0, none⟩ : Addr).add j) = some u := by
  intro j u hj
  have hjl := (List.getElem?_eq_some_iff.1 hj).1
  rw [rowV_len] at hjl
  have h1 := h.cell (k := j / 3) (j := j % 3) (by omega) (by omega)
  have h2 := rowV_get l (j / 3) (j % 3) (by omega) (by omega)
  rw [show j / 3 * 3 + j % 3 = j by omega] at h1 h2
  rw [Addr.add_lit_, Nat.zero_add, h1, ← h2, hj]
theorem clone_at {w : World} {r : RR} {l : List TC} (h : RowAt w r l) (h1 : 1 ≤ l.length) (h2 : l.length ≤ 1000) :
    Calls Tryd.prog 38 #[r.v] w fun e w' => ∃ r' : RR, e = .returned r'.v ∧ r'.n = l.length ∧ w.heap.size ≤ r'.g ∧ RowAt w' r' l ∧ Below w.heap.size w w' := by
  have hn := h.1
  have X := clone_row_calls ⟨r.g, 0, none⟩ r.n r.c (rowV l) w (by rw [rowV_len, hn]) h.reads (rowV_one l) (by omega)
  refine X.mono ?_
  rintro _ w' ⟨v', rfl, ho, hb⟩
  obtain ⟨r', rfl, hr, hg, hn'⟩ := RowAt.of_own (l := l) ho hn (by omega)
  exact ⟨r', rfl, by rw [hn', hn], hg, hr, hb⟩
end Go.Proofs.YtledplnlcjfafaaDoorL
end
