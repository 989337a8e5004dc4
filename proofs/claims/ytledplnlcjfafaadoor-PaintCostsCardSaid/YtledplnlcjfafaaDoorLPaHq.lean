/- Parts of the proof of the law that the last file states; declarations that nothing mentions are left out by a program. No conditions. -/
import Derived.Lib.AppendStr
import Derived.Lib.ItoaMem
import Derived.Test.YtledplnlcjfafaaDoorLLayW10q
set_option linter.unusedVariables false
set_option linter.unusedSimpArgs false
namespace Go.Proofs.YtledplnlcjfafaaDoorL
open Go Go.RowKit Go.Proofs.YtledplnlcjfafaaDoorW.PrintWords
structure Pt where
  last : Fm
  is : Bool
  high : Nat
  row : Nat
  b : List UInt8
def ptNew : Pt := ⟨⟨[], 0, 0⟩, false, 1, 0, []⟩
def Pt.say (p : Pt) (l : List UInt8) : Pt := { p with b := p.b ++ l }
theorem Pt.say_say (p : Pt) (l m : List UInt8) : (p.say l).say m = p.say (l ++ m) := by unfold Pt.say; simp [List.append_assoc]
theorem Pt.say_nil (p : Pt) : p.say [] = p := by unfold Pt.say; simp
def moveB (n : Int) (x : UInt8) : List UInt8 := if 0 < n then [27, 91] ++ Lib.itoa n ++ [x] else []
def innP (p : Pt) (row : Nat) : Nat := min row (p.high - 1)
def nextB : Nat → List UInt8
  | 0 => []
  | n + 1 => [13, 10] ++ nextB n
def toB (p : Pt) (row : Nat) : List UInt8 := moveB ((p.row : Int) - innP p row) 65 ++ moveB ((innP p row : Int) - p.row) 66 ++ nextB (row - innP p row)
def Pt.to (p : Pt) (row : Nat) : Pt := { p with b := p.b ++ toB p row, row := row, high := p.high + (row - innP p row) }
def colB (n : Nat) : List UInt8 := [13] ++ moveB n 67
def bV (b : List UInt8) : List Value := b.map fun x => .int .u8 x.toNat
theorem bV_app (a b : List UInt8) : bV (a ++ b) = bV a ++ bV b := List.map_append ..
theorem bV_str (s : ByteArray) : Lib.strCells s = bV s.data.toList := rfl
def ptV (p : Pt) (lv bv : Value) : Array Value := #[lv, .int .i64 (p.last.row : Int), .int .i64 (p.last.col : Int), .bool p.is, .int .i64 (p.high : Int), .int .i64 (p.row : Int), bv]
def BufO (B : Nat) (w : World) (bv : Value) (b : List UInt8) : Prop := w.ownsRow B 5 1 bv b.length (bV b)
structure PtO (B : Nat) (w : World) (g : Nat) (p : Pt) (lv bv : Value) (L : List RR) : Prop where
  b : Blk w g 51 (ptV p lv bv)
  q : BufO B w bv p.b
  r : RowsO (fun _ => True) w lv L p.last.rows
  t : 2 < B ∧ 2 ≠ g
  tab : Lib.TabIs Tryd.prog w "internal/strconv.uint64pow10" .u64 Lib.pow10Tab
structure Pf (B g : Nat) (w w' : World) : Prop where
  o : Only (fun k => k = g ∨ B ≤ k) w w'
  ty : ∀ k, k < w.heap.size → (∀ cs, ¬ Blk w k 5 cs) → (∀ cs, ¬ Blk w k 51 cs) → w'.heap[k]? = w.heap[k]?
section
variable {B g : Nat} {w w1 w' : World} {p : Pt} {lv bv : Value} {L : List RR}
theorem Pf.refl (B g : Nat) (w : World) : Pf B g w w := ⟨Only.refl _ _, fun _ _ _ _ => rfl⟩
theorem Pf.size (h : Pf B g w w') : w.heap.size ≤ w'.heap.size := h.o.size
theorem Pf.trans (h : Pf B g w w1) (h' : Pf B g w1 w') : Pf B g w w' := by
  refine ⟨h.o.trans h'.o (fun _ _ hf => hf), fun k hk h1 h2 => ?_⟩
  have e := h.ty k hk h1 h2
  refine (h'.ty k (Nat.lt_of_lt_of_le hk h.size) (fun cs hb => h1 cs ?_) (fun cs hb => h2 cs ?_)).trans e
  · exact e.symm.trans hb
  · exact e.symm.trans hb
theorem Pf.of_below (h : Below w.heap.size w w') : Pf B g w w' := ⟨Only.of_below h, fun k hk _ _ => h.block k hk⟩
theorem Pf.below (h : Pf B g w w1) (h' : Below w1.heap.size w1 w') : Pf B g w w' := h.trans (Pf.of_below h')
theorem Pf.alloc (h : Pf B g w w1) (o : Obj) : Pf B g w (w1.alloc o) := h.below ((Below.refl _ w1).alloc (Nat.le_refl _) o)
theorem Pf.set_ {cs : Array Value} (hb : Blk w g 51 cs) (i : Nat) (u : Value) : Pf B g w (w.setCell ⟨g, i, none⟩ u) := by
  refine ⟨(Only.refl _ w).setCell (.inl (.inl rfl)) u, fun k hk h1 h2 => ?_⟩
  exact Below.heap_setCell w ⟨g, i, none⟩ u k (fun e => h2 cs (by rw [show k = g from e]; exact hb))
theorem Pf.grown {b : List UInt8} (hq : BufO B w bv b) (hg : w.grownBy w' bv.ownBlock) : Pf B g w w' := by
  refine ⟨(Only.refl _ w).grown hg (fun k hk => .inl (.inr (hq.lt k hk).1)), fun k hk h1 h2 => ?_⟩
  refine hg.block k hk (fun e => ?_)
  rcases hq.2 with ⟨rfl, _⟩ | ⟨x, cap, cur, rfl, _, hx, _⟩
  · cases e
  · have e1 : k = x := Option.some.inj e
    exact h1 cur (by rw [e1]; exact hx)
theorem BufO.ne {b : List UInt8} {t : TypeId} {cs : Array Value} (hq : BufO B w bv b) (hb : Blk w g t cs) (ht : t ≠ 5) : some g ≠ bv.ownBlock := by
  rcases hq.2 with ⟨rfl, _⟩ | ⟨x, cap, cur, rfl, _, hx, _⟩
  · intro e; cases e
  · intro e
    have e1 : g = x := Option.some.inj e
    rw [e1] at hb
    have h1 := hb.symm.trans hx
    injection h1 with h1
    injection h1 with _ h2
    exact ht h2
theorem BufO.to {b : List UInt8} (hq : BufO B w bv b) (h : ∀ k, bv.ownBlock = some k → w'.heap[k]? = w.heap[k]?) : BufO B w' bv b := by
  refine ⟨hq.1, ?_⟩
  rcases hq.2 with h1 | ⟨x, cap, cur, rfl, h2, hx, h3⟩
  · exact .inl h1
  · exact .inr ⟨x, cap, cur, rfl, h2, (h x rfl).trans hx, h3⟩
theorem Pf.tab (h : Pf B g w w') (ht : 2 < B ∧ 2 ≠ g) (hT : Lib.TabIs Tryd.prog w "internal/strconv.uint64pow10" .u64 Lib.pow10Tab) : Lib.TabIs Tryd.prog w' "internal/strconv.uint64pow10" .u64 Lib.pow10Tab := by
  have hg2 : Tryd.prog.globalNamed "internal/strconv.uint64pow10" = some 2 := by kernel_rfl
  unfold Lib.TabIs World.var? at *
  rw [hg2] at hT ⊢
  simp only [Option.bind_some] at hT ⊢
  have hlt : 2 < w.heap.size := by
    rcases Nat.lt_or_ge 2 w.heap.size with h' | h'
    · exact h'
    · rw [Array.getElem?_eq_none h'] at hT; simp at hT
  rw [h.o.block _ hlt (by rintro (e | e); exact ht.2 e; omega)]
  exact hT
theorem RowsO.apart {P : Nat → Prop} {l : List (List TC)} (h : RowsO P w lv L l) : RowsO (fun k => P k ∧ (∀ cs, ¬ Blk w k 5 cs) ∧ (∀ cs, ¬ Blk w k 51 cs)) w lv L l := by
  refine ⟨⟨fun k hk => ⟨h.q.1 k hk, fun cs hb => Kd.Q_ne h.q hb (by decide) hk.symm, fun cs hb => Kd.Q_ne h.q hb (by decide) hk.symm⟩, (Kd.Q_mono h.q (fun k hk => hk)).2⟩, h.f, h.nd, fun r hr => ?_⟩
  obtain ⟨x, hx⟩ := h.at_ hr
  exact ⟨h.pr r hr, fun cs hb => hx.ne_blk hb (by decide) rfl, fun cs hb => hx.ne_blk hb (by decide) rfl⟩
theorem RowsO.pf {P : Nat → Prop} {l : List (List TC)} (h : RowsO P w lv L l) (f : Pf B g w w') : RowsO P w' lv L l :=
  (h.apart.move (fun k hk hl => f.ty k hl hk.2.1 hk.2.2)).mono (fun k hk => hk.1)
theorem RowV.pf {P : Nat → Prop} {v : Value} {l : List TC} (h : RowV P w v l) (f : Pf B g w w') : RowV P w' v l := by
  rcases h with h | ⟨r, e, h, hp⟩
  · exact .inl h
  · exact .inr ⟨r, e, h.to (f.ty r.g h.lt (fun cs hb => h.ne_blk hb (by decide) rfl) (fun cs hb => h.ne_blk hb (by decide) rfl)), hp⟩
theorem SlV.pf {v : Value} {l : List TC} (h : SlV w v l) (f : Pf B g w w') : SlV w' v l := by
  obtain ⟨A, c, rfl, hc, h⟩ := h
  refine ⟨A, c, rfl, hc, fun hl => ?_⟩
  obtain ⟨x, i, rfl, hg, ⟨cs, hcs⟩, hr⟩ := h hl
  have e := f.ty x hg (fun cs' hb => (hcs.ne_ hb (by decide)) rfl) (fun cs' hb => (hcs.ne_ hb (by decide)) rfl)
  exact ⟨x, i, rfl, Nat.lt_of_lt_of_le hg f.size, ⟨cs, hcs.to e⟩, fun k hk => range_to e (hr k hk)⟩
theorem Blk.pf {x : Nat} {t : TypeId} {cs : Array Value} (h : Blk w x t cs) (f : Pf B g w w') (h1 : t ≠ 5) (h2 : t ≠ 51) : Blk w' x t cs :=
  h.to (f.ty x h.lt (fun cs' hb => (h.ne_ hb h1) rfl) (fun cs' hb => (h.ne_ hb h2) rfl))
theorem PtO.below (h : PtO B w g p lv bv L) (hb : Below w.heap.size w w') : PtO B w' g p lv bv L :=
  ⟨h.b.belowW hb, h.q.to (fun k hk => hb.block k (h.q.lt k hk).2), h.r.below hb, h.t, (Pf.of_below (B := B) (g := g) hb).tab h.t h.tab⟩
theorem PtO.said {b' : List UInt8} {bv' : Value} (h : PtO B w g p lv bv L) (hq : BufO B w1 bv' (p.b ++ b')) (hg : w.grownBy w1 bv.ownBlock) : PtO B (w1.setCell ⟨g, 6, none⟩ bv') g (p.say b') lv bv' L ∧ Pf B g w (w1.setCell ⟨g, 6, none⟩ bv') := by
  have f1 : Pf B g w w1 := Pf.grown h.q hg
  have b1 : Blk w1 g 51 (ptV p lv bv) := h.b.to (hg.block g h.b.lt (h.q.ne h.b (by decide)))
  have f2 : Pf B g w1 (w1.setCell ⟨g, 6, none⟩ bv') := Pf.set_ b1 6 bv'
  refine ⟨⟨b1.set_ 6 bv', hq.to (fun k hk => Below.heap_setCell w1 ⟨g, 6, none⟩ bv' k (fun e => hq.ne b1 (by decide) (by rw [hk, ← show k = g from e]))), (h.r.pf f1).pf f2, h.t, f2.tab h.t (f1.tab h.t h.tab)⟩, f1.trans f2⟩
theorem PtO.row_ (h : PtO B w g p lv bv L) (n : Nat) : PtO B (w.setCell ⟨g, 5, none⟩ (.int .i64 (n : Int))) g { p with row := n } lv bv L ∧ Pf B g w (w.setCell ⟨g, 5, none⟩ (.int .i64 (n : Int))) := by
  have f2 : Pf B g w (w.setCell ⟨g, 5, none⟩ (.int .i64 (n : Int))) := Pf.set_ h.b 5 _
  exact ⟨⟨h.b.set_ 5 _, h.q.to (fun k hk => Below.heap_setCell w ⟨g, 5, none⟩ _ k (fun e => h.q.ne h.b (by decide) (by rw [hk, ← show k = g from e]))), h.r.pf f2, h.t, f2.tab h.t h.tab⟩, f2⟩
theorem PtO.high_ (h : PtO B w g p lv bv L) (n : Nat) : PtO B (w.setCell ⟨g, 4, none⟩ (.int .i64 (n : Int))) g { p with high := n } lv bv L ∧ Pf B g w (w.setCell ⟨g, 4, none⟩ (.int .i64 (n : Int))) := by
  have f2 : Pf B g w (w.setCell ⟨g, 4, none⟩ (.int .i64 (n : Int))) := Pf.set_ h.b 4 _
  exact ⟨⟨h.b.set_ 4 _, h.q.to (fun k hk => Below.heap_setCell w ⟨g, 4, none⟩ _ k (fun e => h.q.ne h.b (by decide) (by rw [hk, ← show k = g from e]))), h.r.pf f2, h.t, f2.tab h.t h.tab⟩, f2⟩
theorem PtO.cells_ (h : PtO B w g p lv bv L) : w.cell? ⟨g, 3, none⟩ = some (.bool p.is) ∧ w.cell? ⟨g, 4, none⟩ = some (.int .i64 (p.high : Int)) ∧ w.cell? ⟨g, 5, none⟩ = some (.int .i64 (p.row : Int)) ∧ w.cell? ⟨g, 6, none⟩ = some bv :=
  ⟨h.b.cell 3 rfl, h.b.cell 4 rfl, h.b.cell 5 rfl, h.b.cell 6 rfl⟩
end
theorem infoPainter : (Tryd.prog.info? 51).map (·.size) = some 7 := by kernel_rfl
end Go.Proofs.YtledplnlcjfafaaDoorL

