/- Parts of the proof of the law that the last file states; declarations that nothing mentions are left out by a program. No conditions. -/
import Derived.Lib.ItoaLen
import Derived.Test.YtledplnlcjfafaaDoorLPaQq
set_option linter.unusedVariables false
set_option linter.unusedSimpArgs false
section
namespace Go.Proofs.YtledplnlcjfafaaDoorL
open Go Go.RowKit
theorem moveB_len (n : Int) (x : UInt8) (h0 : -9223372036854775808 ≤ n) (h1 : n ≤ 9223372036854775807) : (moveB n x).length ≤ 24 := by
  unfold moveB
  split
  · have h := Lib.itoa_length_le n h0 h1
    simp only [List.length_append, List.length_cons, List.length_nil]
    omega
  · exact Nat.zero_le _
theorem toB_len {M : Nat} {p : Pt} (h : HiOK M p) (hM : M ≤ 100000) {k : Nat} (hk : k ≤ M) : (toB p k).length ≤ 48 + 2 * k := by
  obtain ⟨a, b, c⟩ := h
  have hi : innP p k ≤ k := by unfold innP; omega
  have h1 := moveB_len ((p.row : Int) - innP p k) 65 (by omega) (by omega)
  have h2 := moveB_len ((innP p k : Int) - p.row) 66 (by omega) (by omega)
  unfold toB
  rw [List.length_append, List.length_append, nextB_len]
  omega
theorem colB_len {n : Nat} (hn : n ≤ 100000) : (colB n).length ≤ 25 := by
  have h1 := moveB_len (n : Int) 67 (by omega) (by omega)
  unfold colB
  rw [List.length_append]
  simp only [List.length_cons, List.length_nil]
  omega
theorem cellsB_len {M : Nat} : ∀ (l : List TC) (prev : Bool), (∀ c ∈ l, c.S.size ≤ M) → (cellsB prev l).length ≤ l.length * (M + 4) + 4
  | [], prev, _ => by unfold cellsB; split <;> simp
  | c :: l, prev, h => by
    have h1 := cellsB_len l c.dim (fun x hx => h x (.tail _ hx))
    have h2 := h c (.head _)
    have h3 : c.S.data.toList.length = c.S.size := by rw [Array.length_toList]; rfl
    have h4 : (cellB prev c).length ≤ 4 + M := by
      unfold cellB
      rw [List.length_append, h3]
      split
      · simp only [List.length_cons, List.length_nil]; omega
      · split
        · simp only [List.length_cons, List.length_nil]; omega
        · simp only [List.length_nil]; omega
    unfold cellsB
    rw [List.length_append, List.length_cons, Nat.add_mul, Nat.one_mul]
    omega
theorem lineB_len {M from_ : Nat} {l was : List TC} (hl : ∀ c ∈ l, c.S.size ≤ M) (hn : l.length ≤ 1000) (hf : from_ ≤ 1000) : (lineB from_ l was).length ≤ 1000 * (M + 4) + 40 := by
  have h1 := colB_len (n := from_) (by omega)
  have h2 : (midB from_ l).length ≤ 1000 * (M + 4) + 4 := by
    unfold midB
    split
    · have h3 := cellsB_len (M := M) ((l.take (endP l l.length)).drop from_) false (fun c hc => hl c (List.mem_of_mem_take (List.mem_of_mem_drop hc)))
      have h4 : ((l.take (endP l l.length)).drop from_).length ≤ 1000 := by rw [List.length_drop, List.length_take]; omega
      have h5 : ((l.take (endP l l.length)).drop from_).length * (M + 4) ≤ 1000 * (M + 4) := Nat.mul_le_mul_right _ h4
      omega
    · exact Nat.zero_le _
  have h3 : (tailB from_ l was).length ≤ 3 := by unfold tailB; split <;> simp
  unfold lineB
  rw [List.length_append, List.length_append]
  omega
theorem linesP_len {M K : Nat} (hK : 1000 * (M + 4) + 3000 = K) {fr lr : List (List TC)} (h1 : ∀ x ∈ fr, x.length ≤ 1000 ∧ ∀ c ∈ x, c.S.size ≤ M) (h2 : ∀ x ∈ lr, x.length ≤ 1000) : ∀ d k (p : Pt), HiOK 1000 p → k + d ≤ 1001 → (linesP fr lr d k p).b.length ≤ p.b.length + d * K
  | 0, k, p, _, _ => by show p.b.length ≤ _; omega
  | d + 1, k, p, h, hk => by
    unfold linesP
    have hr : ∀ c ∈ rowOf fr k, c.S.size ≤ M := by
      by_cases hlt : k < fr.length
      · rw [rowOf_get hlt]; exact (h1 _ (List.getElem_mem hlt)).2
      · rw [rowOf_out (by omega)]; intro c hc; cases hc
    have hl1 := rowOf_len (fun x hx => (h1 x hx).1) k
    have hl2 := rowOf_len h2 k
    have hdl := differP_lt (rowOf fr k) (rowOf lr k)
    by_cases h0 : 0 ≤ differP (rowOf fr k) (rowOf lr k)
    · rw [if_pos h0]
      have i := linesP_len hK h1 h2 d (k + 1) _ ((h.to (show k ≤ 1000 by omega)).say (lineB (differP (rowOf fr k) (rowOf lr k)).toNat (rowOf fr k) (rowOf lr k))) (by omega)
      have t1 := toB_len h (by omega) (show k ≤ 1000 by omega)
      have t2 := lineB_len (M := M) (from_ := (differP (rowOf fr k) (rowOf lr k)).toNat) (was := rowOf lr k) hr hl1 (by omega)
      rw [Pt.say_b, (Pt.to_rs p k).2, List.length_append, List.length_append] at i
      have t3 : (p.rs.toB k).length ≤ 48 + 2 * k := t1
      have e := Nat.succ_mul d K
      generalize d * K = dK at *
      generalize (d + 1) * K = eK at *
      omega
    · rw [if_neg h0]
      have i := linesP_len hK h1 h2 d (k + 1) p h (by omega)
      have e := Nat.succ_mul d K
      generalize d * K = dK at *
      generalize (d + 1) * K = eK at *
      omega
theorem draw_len {p : Pt} {f : Fm} {M : Nat} (hM : M ≤ 100000) (hb : p.b = []) (hi : HiOK 1000 p) (h1 : ∀ x ∈ f.rows, x.length ≤ 1000 ∧ ∀ c ∈ x, c.S.size ≤ M) (h2 : ∀ x ∈ p.last.rows, x.length ≤ 1000) (hm1 : f.rows.length ≤ 1000) (hm2 : p.last.rows.length ≤ 1000) (hf : f.row ≤ 1000 ∧ f.col ≤ 1000) :
    (p.draw f).b.length ≤ 1001 * (1000 * (M + 4) + 3000) + 3000 := by
  unfold Pt.draw
  split
  · rw [hb]; exact Nat.zero_le _
  · obtain ⟨K, hK⟩ : ∃ K, 1000 * (M + 4) + 3000 = K := ⟨_, rfl⟩
    rw [hK]
    have i := linesP_len hK h1 h2 (max f.rows.length p.last.rows.length) 0 p hi (by omega)
    have q := linesP_hi f.rows p.last.rows (max f.rows.length p.last.rows.length) 0 p hi (by omega)
    have t2 := colB_len (n := f.col) (by omega)
    show (((linesP f.rows p.last.rows (max f.rows.length p.last.rows.length) 0 p).to f.row).say (colB f.col)).b.length ≤ _
    rw [hb, List.length_nil] at i
    generalize linesP f.rows p.last.rows (max f.rows.length p.last.rows.length) 0 p = z at *
    have t1 := toB_len q (by omega) hf.1
    rw [Pt.say_b, show (z.to f.row).b = z.b ++ toB z f.row from rfl, List.length_append, List.length_append]
    have t4 : max f.rows.length p.last.rows.length * K ≤ 1000 * K := Nat.mul_le_mul_right _ (by omega)
    generalize max f.rows.length p.last.rows.length * K = mK at *
    omega
end Go.Proofs.YtledplnlcjfafaaDoorL
end
section
namespace Go.Proofs.YtledplnlcjfafaaDoorL
open Go Go.RowKit
structure PtK (cols : Nat) (p : Pt) : Prop where
  b : p.b = []
  i : p.is = true ↔ p.last.rows.length ≠ 0
  h : HiOK 1000 p
  l : p.last.rows = [] ∨ FK cols p.last
theorem FK.ok {cols : Nat} {f : Fm} (h : FK cols f) : Fm.ok cols f.rows := fun x hx => by
  obtain ⟨h1, h2, _⟩ := h.rows x hx
  refine ⟨h1, fun e => ?_⟩
  have h3 := ((h2 0 (by rw [h1]; exact h.c1)).2.1).1 e
  exact absurd h3.1 (Nat.lt_irrefl 0)
theorem FK.len {cols : Nat} {f : Fm} (h : FK cols f) : (∀ x ∈ f.rows, 1 ≤ x.length ∧ x.length ≤ 1000) ∧ f.rows.length ≤ 1000 ∧ f.row ≤ 1000 ∧ f.col ≤ 1000 ∧ ∀ x ∈ f.rows, x.length ≤ 1000 ∧ ∀ c ∈ x, c.S.size ≤ cellM := by
  have h1 := h.c1
  have h2 := h.c2
  have h3 := h.n2
  have h4 := h.row
  have h5 := h.col
  refine ⟨fun x hx => ?_, by omega, by omega, by omega, fun x hx => ?_⟩
  · rw [(h.rows x hx).1]; omega
  · exact ⟨by rw [(h.rows x hx).1]; omega, (h.rows x hx).2.2⟩
theorem PtK.ok {cols : Nat} {p : Pt} (h : PtK cols p) : Fm.ok cols p.last.rows := by
  rcases h.l with e | e
  · rw [e]; intro x hx; cases hx
  · exact e.ok
theorem PtK.len {cols : Nat} {p : Pt} (h : PtK cols p) : (∀ x ∈ p.last.rows, 1 ≤ x.length ∧ x.length ≤ 1000) ∧ p.last.rows.length ≤ 1000 := by
  rcases h.l with e | e
  · rw [e]; exact ⟨fun x hx => (by cases hx), Nat.zero_le _⟩
  · exact ⟨e.len.1, e.len.2.1⟩
theorem PtK.new (cols : Nat) : PtK cols ptNew := ⟨rfl, by decide, HiOK.new, .inl rfl⟩
theorem draw_last (p : Pt) (f : Fm) : (p.draw f).last = p.last ∨ (p.draw f).last = f := by
  unfold Pt.draw
  split
  · exact .inl rfl
  · exact .inr rfl
theorem PtK.draw {cols : Nat} {p : Pt} {f : Fm} (h : PtK cols p) (hf : FK cols f) : PtK cols { p.draw f with b := [] } := by
  have hl := hf.len
  have hd := h.h.draw (f := f) hl.2.1 h.len.2 hl.2.2.1
  have hi := (draw_law h.b h.i hf.ok h.ok hf.c1).2.2
  refine ⟨rfl, hi, ⟨hd.1, hd.2.1, hd.2.2⟩, ?_⟩
  show (p.draw f).last.rows = [] ∨ FK cols (p.draw f).last
  rcases draw_last p f with e | e
  · rw [e]; exact h.l
  · rw [e]; exact .inr hf
theorem PtK.bytes {cols : Nat} {p : Pt} {f : Fm} (h : PtK cols p) (hf : FK cols f) : (p.draw f).b.length ≤ 10000000000 := by
  have hl := hf.len
  have h1 := draw_len (M := cellM) (by decide) h.b h.h hl.2.2.2.2 (fun x hx => (h.len.1 x hx).2) hl.2.1 h.len.2 ⟨hl.2.2.1, hl.2.2.2.1⟩
  exact Nat.le_trans h1 (by decide)
theorem PtK.bytesF {cols : Nat} {p : Pt} {f : Fm} (h : PtK cols p) (hf : FK cols f) : (p.finishB f).length ≤ 20000000000 := by
  have h1 := h.bytes hf
  have hl := hf.len
  have hn := hf.n2
  have hd := h.h.draw (f := f) hl.2.1 h.len.2 hl.2.2.1
  have ht := toB_len hd (by omega) (show f.rows.length - 1 ≤ 1000 by omega)
  unfold Pt.finishB
  split
  · exact Nat.zero_le _
  · rw [Pt.say_b, show ((p.draw f).to (f.rows.length - 1)).b = (p.draw f).b ++ toB (p.draw f) (f.rows.length - 1) from rfl, List.length_append, List.length_append]
    simp only [List.length_cons, List.length_nil]
    omega
theorem PtK.bytesR {cols : Nat} {p : Pt} (h : PtK cols p) : p.resizeB.length ≤ 1000 := by
  have ht := toB_len h.h (by omega) (show 0 ≤ 1000 by omega)
  unfold Pt.resizeB
  split
  · rw [Pt.say_b, show (p.to 0).b = p.b ++ toB p 0 from rfl, List.length_append, List.length_append, h.b]
    simp only [List.length_cons, List.length_nil]
    omega
  · exact Nat.zero_le _
section
variable {B g cols : Nat} {w : World} {p : Pt} {lv bv lvf : Value} {L Lf : List RR} {f : Fm} {P : Nat → Prop}
theorem PtO.rebase {B' : Nat} (h : PtO B w g p lv bv L) (hb : p.b = []) (hv : bv = .slice none 0 0) (ht : 2 < B') : PtO B' w g p lv bv L :=
  ⟨h.b, by rw [hb, hv]; exact BufO.nil _ _, h.r, ⟨ht, h.t.2⟩, h.tab⟩
theorem last_step (h : PtO B w g p lv bv L) (hk : PtK cols p) :
    Calls Tryd.prog 11 #[.pointer (some ⟨g, 0, none⟩)] w fun e w' => ∃ lv' L', e = .returned (.tuple #[.agg #[lv', .int .i64 (p.last.row : Int), .int .i64 (p.last.col : Int)], .bool p.is]) ∧ RowsO (fun k => w.heap.size ≤ k) w' lv' L' p.last.rows ∧ Below w.heap.size w w' :=
  last_calls h hk.len.1 hk.len.2
end
def tellP (p : Pt) : Pt := { p with b := [] }
def aliveV (t : ByteArray) : Vw := ⟨2, 8, ⟨#[]⟩, ⟨#[]⟩, ⟨#[]⟩, t, 2⟩
theorem alive_plain : (ptNew.draw (ofP (aliveV ⟨#[97, 98]⟩))).b = [13, 97, 98, 13, 27, 91, 50, 67] ∧
    ((tellP (ptNew.draw (ofP (aliveV ⟨#[97, 98]⟩)))).draw (ofP (aliveV ⟨#[97, 99]⟩))).b = [13, 27, 91, 49, 67, 99, 13, 27, 91, 50, 67] ∧ (ofP (aliveV ⟨#[97, 99]⟩)).col = 2 := by decide +kernel
end Go.Proofs.YtledplnlcjfafaaDoorL
end
