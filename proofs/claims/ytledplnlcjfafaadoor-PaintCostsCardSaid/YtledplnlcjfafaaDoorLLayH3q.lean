/- Parts of the proof of the law that the last file states; declarations that nothing mentions are left out by a program. No conditions. -/
import Derived.Test.YtledplnlcjfafaaDoorLLayW5q
set_option linter.unusedVariables false
set_option linter.unusedSimpArgs false
namespace Go.Proofs.YtledplnlcjfafaaDoorL
open Go Go.RowKit Go.Proofs.YtledplnlcjfafaaDoorW.PrintWords
def vwV (v : Vw) : Array Value := #[.int .i64 v.rows, .int .i64 v.cols, .string v.left, .string v.right, .string v.ghost, .string v.text, .int .i64 v.at_]
structure DI (w W : World) (b0 g bs : Nat) (v : Vw) (s : Sh) (lv : Value) (L : List RR) (row col : Nat) (Ds : List Nat) : Prop where
  vb : Blk W b0 35 (vwV v)
  rb : Blk W (b0 + 1) 3 #[.int .i64 (row : Int)]
  cb : Blk W (b0 + 1 + 1) 3 #[.int .i64 (col : Int)]
  sb : Blk W bs 61 #[.pointer (some ⟨g, 0, none⟩)]
  x : ShX W g s lv L
  f : ∀ k, exF g lv L k → b0 ≤ k
  b : Below b0 w W
  d : ∀ D ∈ Ds, b0 ≤ D ∧ W.heap[D]? = some (.deferred (some []))
  n : w.heap.size = b0
section
variable {w W W' : World} {b0 g bs row col : Nat} {v : Vw} {s : Sh} {lv : Value} {L : List RR} {Ds : List Nat}
theorem DI.sz (h : DI w W b0 g bs v s lv L row col Ds) : b0 ≤ W.heap.size := by have := h.b.size; have := h.n; omega
theorem DI.below (h : DI w W b0 g bs v s lv L row col Ds) (hb : Below W.heap.size W W') : DI w W' b0 g bs v s lv L row col Ds :=
  ⟨h.vb.to (hb.block _ h.vb.lt), h.rb.to (hb.block _ h.rb.lt), h.cb.to (hb.block _ h.cb.lt), h.sb.to (hb.block _ h.sb.lt), h.x.below hb, h.f, h.b.trans (hb.mono h.sz), fun D hD => ⟨(h.d D hD).1, (hb.block D (Array.getElem?_eq_some_iff.1 (h.d D hD).2).1).trans (h.d D hD).2⟩, h.n⟩
theorem DI.grown (h : DI w W b0 g bs v s lv L row col Ds) {B : Nat} {rw_ : Option Nat} (hg : W.grownBy W' rw_) (hr : ∀ r, rw_ = some r → B ≤ r ∧ ∃ o : Obj, W.heap[r]? = some o ∧ o.isCells = false) (hB : b0 ≤ B) (hD : ∀ D ∈ Ds, D < B) : DI w W' b0 g bs v s lv L row col Ds :=
  have hr2 := fun r e => (hr r e).2
  ⟨h.vb.grown_ hg hr2, h.rb.grown_ hg hr2, h.cb.grown_ hg hr2, h.sb.grown_ hg hr2, h.x.grown hg hr2, h.f, h.b.grown hg h.sz (fun r e => Nat.le_trans hB (hr r e).1), fun D hm => ⟨(h.d D hm).1, (hg.block D (Array.getElem?_eq_some_iff.1 (h.d D hm).2).1 (fun e => by have := (hr D e.symm).1; have := hD D hm; omega)).trans (h.d D hm).2⟩, h.n⟩
theorem DI.sheet {s' : Sh} {lv' : Value} {L' : List RR} (h : DI w W b0 g bs v s lv L row col Ds) (hx : ShX W' g s' lv' L') (hf : ∀ k, exF g lv' L' k → exF g lv L k ∨ W.heap.size ≤ k) (ho : Only (exF g lv L) W W') : DI w W' b0 g bs v s' lv' L' row col Ds :=
  ⟨h.vb.to (ho.block _ h.vb.lt (h.x.ne h.vb (by decide) (by decide) (by decide))), h.rb.to (ho.block _ h.rb.lt (h.x.ints h.rb)), h.cb.to (ho.block _ h.cb.lt (h.x.ints h.cb)), h.sb.to (ho.block _ h.sb.lt (h.x.ne h.sb (by decide) (by decide) (by decide))), hx, fun k hk => (hf k hk).elim (h.f k) (fun e => Nat.le_trans h.sz e), h.b.trans (ho.to_below (fun k hk => h.f k hk) h.sz), fun D hD => ⟨(h.d D hD).1, (ho.block D (Array.getElem?_eq_some_iff.1 (h.d D hD).2).1 (fun hk => by
    obtain ⟨cs, t, hc, _⟩ := h.x.cells hk
    rw [(h.d D hD).2] at hc
    cases hc)).trans (h.d D hD).2⟩, h.n⟩
theorem DI.others (h : DI w W b0 g bs v s lv L row col Ds) (ho : Only (exF g lv L) W W') : KeepsOthers W W' := h.x.others ho
theorem DI.set_ (h : DI w W b0 g bs v s lv L row col Ds) {b : Nat} {cs : Array Value} (hb : Blk W b 3 cs) (h0 : b0 ≤ b) (h1 : b ≠ b0 + 1) (h2 : b ≠ b0 + 1 + 1) (u : Value) : DI w (W.setCell ⟨b, 0, none⟩ u) b0 g bs v s lv L row col Ds :=
  ⟨h.vb.far (fun e => Blk.ne_ h.vb hb (by decide) e) u, h.rb.far (fun e => h1 e.symm) u, h.cb.far (fun e => h2 e.symm) u, h.sb.far (fun e => Blk.ne_ h.sb hb (by decide) e) u, h.x.set_ hb 0 u, h.f, h.b.setCell (p := ⟨b, 0, none⟩) h0 u, fun D hD => ⟨(h.d D hD).1, (Below.heap_setCell W ⟨b, 0, none⟩ u D (fun e => by
    have e2 : D = b := e
    have h3 := (h.d D hD).2
    rw [e2] at h3
    unfold Blk at hb
    rw [hb] at h3
    cases h3)).trans (h.d D hD).2⟩, h.n⟩
theorem DI.setr (h : DI w W b0 g bs v s lv L row col Ds) (n : Nat) : DI w (W.setCell ⟨b0 + 1, 0, none⟩ (.int .i64 (n : Int))) b0 g bs v s lv L n col Ds :=
  ⟨h.vb.far (fun e => Blk.ne_ h.vb h.rb (by decide) e) _, h.rb.set_ 0 _, h.cb.far (fun e => by have e2 : b0 + 1 + 1 = b0 + 1 := e; omega) _, h.sb.far (fun e => Blk.ne_ h.sb h.rb (by decide) e) _, h.x.set_ h.rb 0 _, h.f, h.b.setCell (p := ⟨b0 + 1, 0, none⟩) (show b0 ≤ b0 + 1 by omega) _, fun D hD => ⟨(h.d D hD).1, (Below.heap_setCell W ⟨b0 + 1, 0, none⟩ _ D (fun e => by
    have e2 : D = b0 + 1 := e
    have h3 := (h.d D hD).2
    have hb := h.rb
    rw [e2] at h3
    unfold Blk at hb
    rw [hb] at h3
    cases h3)).trans (h.d D hD).2⟩, h.n⟩
theorem DI.setc (h : DI w W b0 g bs v s lv L row col Ds) (n : Nat) : DI w (W.setCell ⟨b0 + 1 + 1, 0, none⟩ (.int .i64 (n : Int))) b0 g bs v s lv L row n Ds :=
  ⟨h.vb.far (fun e => Blk.ne_ h.vb h.cb (by decide) e) _, h.rb.far (fun e => by have e2 : b0 + 1 = b0 + 1 + 1 := e; omega) _, h.cb.set_ 0 _, h.sb.far (fun e => Blk.ne_ h.sb h.cb (by decide) e) _, h.x.set_ h.cb 0 _, h.f, h.b.setCell (p := ⟨b0 + 1 + 1, 0, none⟩) (show b0 ≤ b0 + 1 + 1 by omega) _, fun D hD => ⟨(h.d D hD).1, (Below.heap_setCell W ⟨b0 + 1 + 1, 0, none⟩ _ D (fun e => by
    have e2 : D = b0 + 1 + 1 := e
    have h3 := (h.d D hD).2
    have hb := h.cb
    rw [e2] at h3
    unfold Blk at hb
    rw [hb] at h3
    cases h3)).trans (h.d D hD).2⟩, h.n⟩
theorem DI.col_ (h : DI w W b0 g bs v s lv L row col Ds) (n : Nat) : DI w (W.setCell ⟨g, 2, none⟩ (.int .i64 (n : Int))) b0 g bs v { s with col := n } lv L row col Ds := by
  have hc : ShX (W.setCell ⟨g, 2, none⟩ (.int .i64 (n : Int))) g { s with col := n } lv L := ShO.col_ h.x n
  exact h.sheet hc (fun k hk => .inl hk) ((Only.refl _ W).setCell (.inl (.inl rfl)) _)
theorem DI.more (h : DI w W b0 g bs v s lv L row col Ds) {D : Nat} (h0 : b0 ≤ D) (hD : W.heap[D]? = some (.deferred (some []))) : DI w W b0 g bs v s lv L row col (D :: Ds) :=
  { h with d := fun E hE => (List.mem_cons.1 hE).elim (fun e => by rw [e]; exact ⟨h0, hD⟩) (h.d E) }
theorem DI.keepB (h : DI w W b0 g bs v s lv L row col Ds) (ho : Only (exF g lv L) W W') {b : Nat} {t : TypeId} {cs : Array Value} (hb : Blk W b t cs) (h0 : t ≠ 63) (h1 : t ≠ 40) (h2 : t ≠ 42) : Blk W' b t cs := hb.to (ho.block _ hb.lt (h.x.ne hb h0 h1 h2))
end
end Go.Proofs.YtledplnlcjfafaaDoorL

