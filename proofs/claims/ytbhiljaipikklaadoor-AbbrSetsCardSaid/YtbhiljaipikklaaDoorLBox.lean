/- Boxes: blocks of cells that a call lays, reads and stores. No conditions. -/
import Derived.Test.YtbhiljaipikklaaDoorLHeap
import Derived.Test.YtbhiljaipikklaaDoorProg
import Derived.Test.YtbhiljaipikklaaDoorWWords
import Derived.Test.YtbhiljaipikklaaDoorWLast
import Derived.Test.YtbhiljaipikklaaDoorWTab
import Derived.Test.YtbhiljaipikklaaDoorWFour
import Derived.Test.YtbhiljaipikklaaDoorWQPut
import Derived.Test.YtbhiljaipikklaaDoorWApart
import Derived.Test.YtbhiljaipikklaaDoorWArr
import Derived.Test.YtbhiljaipikklaaDoorWZeros
import Derived.Test.YtbhiljaipikklaaDoorWFoot
import Derived.Test.YtbhiljaipikklaaDoorWKept
import Derived.Test.YtbhiljaipikklaaDoorWShare
import Derived.Test.YtbhiljaipikklaaDoorWN
import Derived.Test.YtbhiljaipikklaaDoorWFootNe
import Derived.Test.YtbhiljaipikklaaDoorWAt
import Derived.Test.YtbhiljaipikklaaDoorWEqStruct
import Derived.Test.YtbhiljaipikklaaDoorWRepsOne
import Derived.Test.YtbhiljaipikklaaDoorWInv
import Derived.Test.YtbhiljaipikklaaDoorWInvWords
import Derived.Test.YtbhiljaipikklaaDoorWGuard
import Derived.Test.YtbhiljaipikklaaDoorWNEv
import Derived.Test.YtbhiljaipikklaaDoorWMore
import Derived.Laws.CopyOwn
import Derived.Laws.Tables
import Derived.Deep.RegionHeld
import Derived.WalkSmall
namespace Go.Proofs.YtbhiljaipikklaaDoorL
set_option linter.unusedVariables false
set_option linter.unusedSimpArgs false
open Go Go.RowKit Go.Proofs.YtbhiljaipikklaaDoorW.PrintWords

/-- A fact that is kept out of the walk's sight. -/
structure Hd (p : Prop) : Prop where mk :: (out : p)
theorem Blk.belowB {w w' : World} {g B : Nat} {t : TypeId} {cs : Array Value} (h : Blk w g t cs) (hb : Below B w w') (hg : g < B) : Blk w' g t cs := (hb.block g hg).trans h
theorem Blk.belowW {w w' : World} {g : Nat} {t : TypeId} {cs : Array Value} (h : Blk w g t cs) (hb : Below w.heap.size w w') : Blk w' g t cs := Blk.belowB h hb (Blk.lt h)

/-- A struct's store into its box: the world behind it, by what it keeps. -/
theorem store_event {P : Program} {ops : Array Oper} {rest : List Oper} {o : Oper} {a : Act} {w : World} {Q : Exit → Act → World → Prop} {ty : TypeId} {x y : Operand} (ho : o.op = .store ty x y) (hgd : o.guard = none) {g : Nat} {cells : Array Value} (hx : a.eval x = .pointer (some ⟨g, 0, none⟩)) (hy : a.eval y = .agg cells)
    {t : TypeId} {old : Array Value} (hg : Blk w g t old) (hi : (P.info? ty).map (·.size) = some cells.size) (hold : old.size = cells.size) (h1 : cells.all (·.oneCell') = true)
    (h : ∀ w', Blk w' g t cells → YtbhiljaipikklaaDoorW.PrintWords.Kept w w' (fun k => k = g) → w'.heap.size = w.heap.size → (∀ {B w0}, Below B w0 w → B ≤ g → Below B w0 w') → wpList P ops Q rest (a.put o.dst undef) w') : wpList P ops Q (o :: rest) a w :=
  wpList_store_row hgd ty x y ho g cells hx hy t old hg hi hold h1 (h _ (setRow_heap w g old cells t (0, 0) hg) ⟨by rw [size_setRow]; exact Nat.le_refl _, fun i _ hn => setRow_other w g i cells hn⟩ (size_setRow w g cells) (fun hb hB => below_setRow hb hB cells))

theorem store1_event {P : Program} {ops : Array Oper} {rest : List Oper} {o : Oper} {a : Act} {w : World} {Q : Exit → Act → World → Prop} {ty : TypeId} {x y : Operand} (ho : o.op = .store ty x y) (hgd : o.guard = none) {g i : Nat} {v : Value} (hx : a.eval x = .pointer (some ⟨g, i, none⟩)) (hy : a.eval y = v)
    {t : TypeId} {old : Array Value} (hg : Blk w g t old) (hi : i < old.size) (hs : (P.info? ty).map (·.size) = some 1) (h1 : v.oneCell' = true)
    (h : ∀ w', Blk w' g t (old.setIfInBounds i v) → YtbhiljaipikklaaDoorW.PrintWords.Kept w w' (fun k => k = g) → w'.heap.size = w.heap.size → (∀ {B w0}, Below B w0 w → B ≤ g → Below B w0 w') → wpList P ops Q rest (a.put o.dst undef) w') : wpList P ops Q (o :: rest) a w := by
  have hc : v.cells = #[v] := by cases v <;> first | rfl | cases h1
  have hr : (storeVar ty ⟨g, i, none⟩ v).run P w = .ok () (w.setCell ⟨g, i, none⟩ v) := by
    cases hq : P.info? ty with
    | none => simp [hq] at hs
    | some ii =>
      have hs' : ii.size = 1 := by simpa [hq] using hs
      have c1 := hg.cell i (v := old[i]) (by simp [hi])
      have f1 := hg.frozen i
      simp [storeVar, sizeOf, typeInfo, hq, hc, hs', storeCells, Sem.run_bind, Addr.add]
      rw [run_store P _ _ v _ h1, c1]
      simp [f1]
  refine wpList_plain hgd fun _ hK => ?_
  unfold Oper.wp execOp
  simp only [ho, hx, hy, Instr.storeAt, Instr.sureAddr, Sem.run_bind, Sem.run_pure, Result.andThen_ok, hr]
  exact hK _ _ (h _ (Blk.set_ hg i v) ⟨by simp, fun k _ hn => Below.heap_setCell w ⟨g, i, none⟩ v k hn⟩ (by simp) (fun hb hB => hb.setCell hB _))
/-- What of memory a value may lie in: P's, or new, but not these boxes. -/
def Fp (w0 : World) (P : Nat → Prop) (G : List Nat) (k : Nat) : Prop := (P k ∨ w0.heap.size ≤ k) ∧ k ∉ G
/-- A later world, with boxes of its own. -/
structure Fr (w0 w : World) (G : List Nat) : Prop where
  below : Below w0.heap.size w0 w
  lt : ∀ g ∈ G, w0.heap.size ≤ g ∧ g < w.heap.size
section
variable {w0 w w' w1 : World} {G : List Nat} {g : Nat} {P : Nat → Prop}
theorem Fr.start (w0 : World) : Fr w0 w0 [] := ⟨Below.refl _ _, fun g hg => by cases hg⟩
theorem Fr.call (h : Fr w0 w G) (hb : Below w.heap.size w w') : Fr w0 w' G := ⟨below_step h.below hb, fun g hg => ⟨(h.lt g hg).1, Nat.lt_of_lt_of_le (h.lt g hg).2 hb.size⟩⟩
theorem Fr.size (h : Fr w0 w G) : w0.heap.size ≤ w.heap.size := below_size h.below
theorem Fr.box (h : Fr w0 w G) (hg : g = w.heap.size) (hb : Below w.heap.size w w1) (hl : g < w1.heap.size) : Fr w0 w1 (g :: G) := ⟨below_step h.below hb, fun k hk => by
  rcases List.mem_cons.1 hk with rfl | hk
  · exact ⟨hg ▸ h.size, hl⟩
  · exact ⟨(h.lt k hk).1, Nat.lt_of_lt_of_le (h.lt k hk).2 hb.size⟩⟩
theorem Fr.store (h : Fr w0 w G) (hz : w'.heap.size = w.heap.size) (hb : ∀ {B w0}, Below B w0 w → B ≤ g → Below B w0 w') (hg : g ∈ G) : Fr w0 w' G := ⟨hb h.below (h.lt g hg).1, fun k hk => ⟨(h.lt k hk).1, by rw [hz]; exact (h.lt k hk).2⟩⟩
theorem Fr.ne (h : Fr w0 w G) {k : Nat} (hk : k ∈ G) (hg : g = w.heap.size) : k ≠ g := fun e => by have := (h.lt k hk).2; omega
variable {α : Type} {d : Kd α} {e base base' : Nat} {v : Value} {xs : List α}
theorem Fp.start (h : Kd.V d e w0 base P v xs) : Kd.V d e w0 base' (Fp w0 P []) v xs := Kd.V_map h (fun _ hf => Kd.F_mono hf (fun k hk => ⟨.inl hk, by simp⟩))
theorem Fp.step (h : Kd.V d e w base (Fp w0 P G) v xs) (hb : Below w.heap.size w w') : Kd.V d e w' base' (Fp w0 P G) v xs := Kd.V_map (Kd.V_below h hb) (fun _ hf => hf)
theorem Fp.box (h : Kd.V d e w base (Fp w0 P G) v xs) (hg : g = w.heap.size) (hb : Below w.heap.size w w1) : Kd.V d e w1 base' (Fp w0 P (g :: G)) v xs :=
  Kd.V_map (Kd.V_below (Kd.V_bound h) hb) (fun _ hf => Kd.F_mono hf (fun k hk => ⟨hk.1.1, by
    intro hm
    rcases List.mem_cons.1 hm with rfl | hm
    · have := hk.2; omega
    · exact hk.1.2 hm⟩))
theorem Fp.store (h : Kd.V d e w base (Fp w0 P G) v xs) (hk : YtbhiljaipikklaaDoorW.PrintWords.Kept w w' (fun k => k = g)) (hg : g ∈ G) : Kd.V d e w' base' (Fp w0 P G) v xs :=
  Kd.V_map (Kd.V_kept h hk (fun k hk e => hk.2 (e ▸ hg))) (fun _ hf => hf)
theorem Fp.told (h : Kd.V d e w' base (fun k => Fp w0 P G k ∨ w.heap.size ≤ k) v xs) (hF : Fr w0 w G) : Kd.V d e w' base' (Fp w0 P G) v xs :=
  Kd.V_map h (fun _ hf => Kd.F_mono hf (fun k hk => by
    rcases hk with hk | hk
    · exact hk
    · exact ⟨.inr (Nat.le_trans hF.size hk), fun hm => by have := (hF.lt k hm).2; omega⟩))
end

theorem V_rebase {α : Type} {d : Kd α} {e base base' : Nat} {w : World} {P : Nat → Prop} {v : Value} {xs : List α} (h : Kd.V d e w base P v xs) : Kd.V d e w base' P v xs := Kd.V_map h (fun _ hf => hf)
theorem V_len {α : Type} {d : Kd α} {e base m c : Nat} {A : Option Addr} {w : World} {P : Nat → Prop} {xs : List α} (h : Kd.V d e w base P (.slice A m c) xs) : m = xs.length := by
  obtain ⟨A', c', e, _⟩ := h
  cases e
  rfl

def rowD : TypeDesc → Bool
  | .struct _ | .array _ _ => true
  | _ => false
theorem ret_row {fn : Func} {R : Ending → World → Prop} {p : Tmp} {T : TypeId} (h : fn.results = #[.cell p T]) {a : Act} {w : World} {g : Nat} {cs : Array Value} {d : TypeDesc} (hd : rowD d = true) (hu : Tryd.prog.underlying T = some d) (hi : (Tryd.prog.info? T).map (·.size) = some cs.size)
    (hp : a.tmps.getD p undef = .pointer (some ⟨g, 0, none⟩)) (hB : Blk w g T cs) (hdf : a.defers = []) (hR : R (.returned (.agg cs)) w) : bodyPost Tryd.prog fn R .ret a w := by
  cases d <;> first
    | (cases hd; done)
    | exact bodyPost_ret (results_cell_row h _ _ g T cs (0, 0) _ hp hB hu rfl hi) hdf hR
theorem ret_row_tmp {fn : Func} {R : Ending → World → Prop} {p q : Tmp} {T : TypeId} (h : fn.results = #[.cell p T, .tmp q]) {a : Act} {w : World} {g : Nat} {cs : Array Value} {v : Value} {d : TypeDesc} (hd : rowD d = true) (hu : Tryd.prog.underlying T = some d) (hi : (Tryd.prog.info? T).map (·.size) = some cs.size)
    (hp : a.tmps.getD p undef = .pointer (some ⟨g, 0, none⟩)) (hB : Blk w g T cs) (he : a.tmps.getD q undef = v) (hdf : a.defers = []) (hR : R (.returned (.tuple #[.agg cs, v])) w) : bodyPost Tryd.prog fn R .ret a w := by
  refine bodyPost_ret ?_ hdf hR
  rw [results_cell_tmp h, hp, he]
  cases d <;> first
    | (cases hd; done)
    | simp [asAddr, Result.andThen, run_loadVar_row w g T T cs (0, 0) _ hB hu rfl hi]
end Go.Proofs.YtbhiljaipikklaaDoorL
