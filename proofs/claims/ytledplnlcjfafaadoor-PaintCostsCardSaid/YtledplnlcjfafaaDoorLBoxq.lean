/- Parts of the proof of the law that the last file states; declarations that nothing mentions are left out by a program. No conditions. -/
import Derived.Test.YtledplnlcjfafaaDoorProg
import Derived.Laws.CopyOwn
import Derived.Laws.Tables
import Derived.Deep.RegionHeld
import Derived.WalkSmall
import Derived.Test.YtledplnlcjfafaaDoorLHeapq
import Derived.Test.YtledplnlcjfafaaDoorWWordsq
import Derived.Test.YtledplnlcjfafaaDoorWLastq
import Derived.Test.YtledplnlcjfafaaDoorWApartq
import Derived.Test.YtledplnlcjfafaaDoorWEqStructq
import Derived.Test.YtledplnlcjfafaaDoorWMoreq
set_option linter.unusedVariables false
set_option linter.unusedSimpArgs false
namespace Go.Proofs.YtledplnlcjfafaaDoorL
open Go Go.RowKit Go.Proofs.YtledplnlcjfafaaDoorW.PrintWords
structure Hd (p : Prop) : Prop where mk :: (out : p)
theorem Blk.belowB {w w' : World} {g B : Nat} {t : TypeId} {cs : Array Value} (h : Blk w g t cs) (hb : Below B w w') (hg : g < B) : Blk w' g t cs := (hb.block g hg).trans h
theorem Blk.belowW {w w' : World} {g : Nat} {t : TypeId} {cs : Array Value} (h : Blk w g t cs) (hb : Below w.heap.size w w') : Blk w' g t cs := Blk.belowB h hb (Blk.lt h)
theorem store_event {P : Program} {ops : Array Oper} {rest : List Oper} {o : Oper} {a : Act} {w : World} {Q : Exit → Act → World → Prop} {ty : TypeId} {x y : Operand} (ho : o.op = .store ty x y) (hgd : o.guard = none) {g : Nat} {cells : Array Value} (hx : a.eval x = .pointer (some ⟨g, 0, none⟩)) (hy : a.eval y = .agg cells)
    {t : TypeId} {old : Array Value} (hg : Blk w g t old) (hi : (P.info? ty).map (·.size) = some cells.size) (hold : old.size = cells.size) (h1 : cells.all (·.oneCell') = true)
    (h : ∀ w', Blk w' g t cells → YtledplnlcjfafaaDoorW.PrintWords.Kept w w' (fun k => k = g) → w'.heap.size = w.heap.size → (∀ {B w0}, Below B w0 w → B ≤ g → Below B w0 w') → wpList P ops Q rest (a.put o.dst undef) w') : wpList P ops Q (o :: rest) a w :=
  wpList_store_row hgd ty x y ho g cells hx hy t old hg hi hold h1 (h _ (setRow_heap w g old cells t (0, 0) hg) ⟨by rw [size_setRow]; exact Nat.le_refl _, fun i _ hn => setRow_other w g i cells hn⟩ (size_setRow w g cells) (fun hb hB => below_setRow hb hB cells))
theorem store1_event {P : Program} {ops : Array Oper} {rest : List Oper} {o : Oper} {a : Act} {w : World} {Q : Exit → Act → World → Prop} {ty : TypeId} {x y : Operand} (ho : o.op = .store ty x y) (hgd : o.guard = none) {g i : Nat} {v : Value} (hx : a.eval x = .pointer (some ⟨g, i, none⟩)) (hy : a.eval y = v)
    {t : TypeId} {old : Array Value} (hg : Blk w g t old) (hi : i < old.size) (hs : (P.info? ty).map (·.size) = some 1) (h1 : v.oneCell' = true)
    (h : ∀ w', Blk w' g t (old.setIfInBounds i v) → YtledplnlcjfafaaDoorW.PrintWords.Kept w w' (fun k => k = g) → w'.heap.size = w.heap.size → (∀ {B w0}, Below B w0 w → B ≤ g → Below B w0 w') → wpList P ops Q rest (a.put o.dst undef) w') : wpList P ops Q (o :: rest) a w := by
  have hc : v.cells = #[v] := by cases v <;> first | rfl | cases h1
  have hr : (storeVar ty ⟨g, i, none⟩ v).run P w = .ok () (w.setCell ⟨g, i, none⟩ v) := by
    cases hq : P.info? ty with
    | none => simp [hq] at hs
    | some ii =>
      have hs' : ii.size = 1 := by simpa [hq] using hs
      have c1 := hg.cell i (v := old[i]) (by simp [hi])
      have f1 := hg.frozen i
      simp [storeVar, sizeOf, typeInfo, hq, hc, hs', storeCells, Sem.run_bind, Addr.add]
      rw [run_store P _ _ v _ h1, c1]
      simp [f1]
  refine wpList_plain hgd fun _ hK => ?_
  unfold Oper.wp execOp
  simp only [ho, hx, hy, Instr.storeAt, Instr.sureAddr, Sem.run_bind, Sem.run_pure, Result.andThen_ok, hr]
  exact hK _ _ (h _ (Blk.set_ hg i v) ⟨by simp, fun k _ hn => Below.heap_setCell w ⟨g, i, none⟩ v k hn⟩ (by simp) (fun hb hB => hb.setCell hB _))
section
variable {w0 w w' w1 : World} {G : List Nat} {g : Nat} {P : Nat → Prop}
variable {α : Type} {d : Kd α} {e base base' : Nat} {v : Value} {xs : List α}
end
def rowD : TypeDesc → Bool
  | .struct _ | .array _ _ => true
  | _ => false
theorem ret_row {fn : Func} {R : Ending → World → Prop} {p : Tmp} {T : TypeId} (h : fn.results = #[.cell p T]) {a : Act} {w : World} {g : Nat} {cs : Array Value} {d : TypeDesc} (hd : rowD d = true) (hu : Tryd.prog.underlying T = some d) (hi : (Tryd.prog.info? T).map (·.size) = some cs.size)
    (hp : a.tmps.getD p undef = .pointer (some ⟨g, 0, none⟩)) (hB : Blk w g T cs) (hdf : a.defers = []) (hR : R (.returned (.agg cs)) w) : bodyPost Tryd.prog fn R .ret a w := by
  cases d <;> first
    | (cases hd; done)
    | exact bodyPost_ret (results_cell_row h _ _ g T cs (0, 0) _ hp hB hu rfl hi) hdf hR
theorem ret_row_tmp {fn : Func} {R : Ending → World → Prop} {p q : Tmp} {T : TypeId} (h : fn.results = #[.cell p T, .tmp q]) {a : Act} {w : World} {g : Nat} {cs : Array Value} {v : Value} {d : TypeDesc} (hd : rowD d = true) (hu : Tryd.prog.underlying T = some d) (hi : (Tryd.prog.info? T).map (·.size) = some cs.size)
    (hp : a.tmps.getD p undef = .pointer (some ⟨g, 0, none⟩)) (hB : Blk w g T cs) (he : a.tmps.getD q undef = v) (hdf : a.defers = []) (hR : R (.returned (.tuple #[.agg cs, v])) w) : bodyPost Tryd.prog fn R .ret a w := by
  refine bodyPost_ret ?_ hdf hR
  rw [results_cell_tmp h, hp, he]
  cases d <;> first
    | (cases hd; done)
    | simp [asAddr, Result.andThen, run_loadVar_row w g T T cs (0, 0) _ hB hu rfl hi]
end Go.Proofs.YtledplnlcjfafaaDoorL

