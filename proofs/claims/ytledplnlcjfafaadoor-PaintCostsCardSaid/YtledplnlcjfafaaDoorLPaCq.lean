/- Parts of the proof of the law that the last file states; declarations that nothing mentions are left out by a program. No conditions. -/
import Derived.Test.YtledplnlcjfafaaDoorLPaBq
set_option linter.unusedVariables false
set_option linter.unusedSimpArgs false
namespace Go.Proofs.YtledplnlcjfafaaDoorL
open Go Go.RowKit
theorem nDigits_four {u : Nat} (h : u < 10000) : Lib.nDigits u ≤ 4 := by
  rcases Nat.lt_or_ge u 10 with h1 | h1
  · rw [Lib.nDigits_small h1]; omega
  · rw [Lib.nDigits_big (by omega)]
    rcases Nat.lt_or_ge (u / 10) 10 with h2 | h2
    · rw [Lib.nDigits_small h2]; omega
    · rw [Lib.nDigits_big (by omega)]
      rcases Nat.lt_or_ge (u / 10 / 10) 10 with h3 | h3
      · rw [Lib.nDigits_small h3]; omega
      · rw [Lib.nDigits_big (by omega), Lib.nDigits_small (by omega)]; omega
theorem moveB_seven (n : Int) (x : UInt8) (h : n < 10000) : (moveB n x).length ≤ if 0 < n then 7 else 0 := by
  unfold moveB
  split
  · rename_i h0
    obtain ⟨u, rfl⟩ : ∃ u : Nat, n = u := ⟨n.toNat, by omega⟩
    rw [Lib.itoa_nonneg, List.length_append, List.length_append, Lib.decDigits_length]
    have := nDigits_four (u := u) (by omega)
    simp only [List.length_cons, List.length_nil]
    omega
  · exact Nat.le_refl _
theorem colB_eight {n : Nat} (hn : n < 10000) : (colB n).length ≤ 8 := by
  have h1 := moveB_seven (n : Int) 67 (by omega)
  have h2 : (moveB (n : Int) 67).length ≤ 7 := by split at h1 <;> omega
  unfold colB
  rw [List.length_append]
  simp only [List.length_cons, List.length_nil]
  omega
theorem toB_few {p : Pt} (h : HiOK 1000 p) {k : Nat} (hk : k ≤ 1000) : (toB p k).length + 2 * p.high ≤ 7 + 2 * (p.to k).high ∧ (p.to k).high ≤ max p.high (k + 1) ∧ p.high ≤ (p.to k).high := by
  obtain ⟨a, b, c⟩ := h
  have h1 := moveB_seven ((p.row : Int) - innP p k) 65 (by omega)
  have h2 := moveB_seven ((innP p k : Int) - p.row) 66 (by unfold innP; omega)
  have h3 : (p.to k).high = p.high + (k - innP p k) := rfl
  rw [h3]
  refine ⟨?_, by unfold innP; omega, by omega⟩
  unfold toB
  rw [List.length_append, List.length_append, nextB_len]
  split at h1 <;> split at h2 <;> omega
def sizeR : List TC → Nat
  | [] => 0
  | c :: l => c.S.size + sizeR l
theorem sizeR_app : ∀ (a b : List TC), sizeR (a ++ b) = sizeR a + sizeR b
  | [], b => by show _ = 0 + _; rw [Nat.zero_add]; rfl
  | c :: a, b => by show c.S.size + sizeR (a ++ b) = c.S.size + sizeR a + sizeR b; rw [sizeR_app a b]; omega
theorem sizeR_part (l : List TC) (a b : Nat) : sizeR ((l.take a).drop b) ≤ sizeR l := by
  have h1 := sizeR_app (l.take a) (l.drop a)
  rw [List.take_append_drop] at h1
  have h2 := sizeR_app ((l.take a).take b) ((l.take a).drop b)
  rw [List.take_append_drop] at h2
  omega
theorem textsB_few : ∀ (l : List TC) (p : Bool), (textsB p l).length ≤ 8 * l.length + sizeR l
  | [], _ => Nat.zero_le _
  | c :: r, p => by
    have h := textsB_few r c.dim
    have h3 : c.S.data.toList.length = c.S.size := by rw [Array.length_toList]; rfl
    unfold textsB
    simp only [List.length_append, List.length_cons, h3]
    have e : sizeR (c :: r) = c.S.size + sizeR r := rfl
    rw [e]
    have h5 : (if (c.dim && !p) = true then ([27, 91, 50, 109] : List UInt8) else []).length ≤ 4 := by split <;> simp
    have h6 : (if (c.dim && !headDim r) = true then ([27, 91, 48, 109] : List UInt8) else []).length ≤ 4 := by split <;> simp
    omega
theorem lineB_few {from_ : Nat} {l was : List TC} (hf : from_ < 10000) : (lineB from_ l was).length ≤ 11 + 8 * l.length + sizeR l := by
  have h1 := colB_eight hf
  have h2 : (midB from_ l).length ≤ 8 * l.length + sizeR l := by
    unfold midB
    split
    · rw [cellsB_texts0]
      have h3 := textsB_few ((l.take (endP l l.length)).drop from_) false
      have h4 := sizeR_part l (endP l l.length) from_
      have h5 : ((l.take (endP l l.length)).drop from_).length ≤ l.length := by rw [List.length_drop, List.length_take]; omega
      omega
    · exact Nat.zero_le _
  have h3 : (tailB from_ l was).length ≤ 3 := by unfold tailB; split <;> simp
  unfold lineB
  rw [List.length_append, List.length_append]
  omega
def sizeF : List (List TC) → Nat
  | [] => 0
  | r :: m => sizeR r + sizeF m
def sizeK (m : List (List TC)) : Nat → Nat → Nat
  | 0, _ => 0
  | d + 1, k => (8 * (rowOf m k).length + sizeR (rowOf m k)) + sizeK m d (k + 1)
theorem sizeK_out (m : List (List TC)) : ∀ d k, m.length ≤ k → sizeK m d k = 0
  | 0, _, _ => rfl
  | d + 1, k, h => by unfold sizeK; rw [rowOf_out h, sizeK_out m d (k + 1) (by omega)]; rfl
theorem sizeF_drop (m : List (List TC)) (k : Nat) (h : k < m.length) : sizeF (m.drop k) = sizeR m[k] + sizeF (m.drop (k + 1)) := by
  rw [List.drop_eq_getElem_cons h]; rfl
theorem sizeK_le {m : List (List TC)} {cols : Nat} (hc : ∀ x ∈ m, x.length ≤ cols) : ∀ d k, sizeK m d k ≤ 8 * ((m.length - k) * cols) + sizeF (m.drop k)
  | 0, _ => Nat.zero_le _
  | d + 1, k => by
    by_cases h : k < m.length
    · unfold sizeK
      have i := sizeK_le hc d (k + 1)
      have h1 := hc _ (List.getElem_mem h)
      rw [rowOf_get h, sizeF_drop m k h, show m.length - k = (m.length - (k + 1)) + 1 by omega, Nat.add_mul (m.length - (k + 1)) 1 cols, Nat.one_mul]
      generalize (m.length - (k + 1)) * cols = z at *
      omega
    · rw [sizeK_out m (d + 1) k (by omega)]; exact Nat.zero_le _
theorem linesP_few {fr lr : List (List TC)} (h1 : ∀ x ∈ fr, x.length ≤ 1000) (h2 : ∀ x ∈ lr, x.length ≤ 1000) : ∀ d k (p : Pt), HiOK 1000 p → k + d ≤ 1001 →
    (linesP fr lr d k p).b.length + 2 * p.high ≤ p.b.length + 18 * d + sizeK fr d k + 2 * (linesP fr lr d k p).high ∧ (linesP fr lr d k p).high ≤ max p.high (k + d)
  | 0, k, p, _, _ => ⟨by show p.b.length + _ ≤ _ + 18 * 0 + 0 + 2 * p.high; omega, by show p.high ≤ _; omega⟩
  | d + 1, k, p, h, hk => by
    unfold linesP sizeK
    have hl1 := rowOf_len h1 k
    have hl2 := rowOf_len h2 k
    have hdl := differP_lt (rowOf fr k) (rowOf lr k)
    by_cases h0 : 0 ≤ differP (rowOf fr k) (rowOf lr k)
    · rw [if_pos h0]
      obtain ⟨t1, t3, t4⟩ := toB_few h (show k ≤ 1000 by omega)
      have t2 := lineB_few (from_ := (differP (rowOf fr k) (rowOf lr k)).toNat) (l := rowOf fr k) (was := rowOf lr k) (by omega)
      obtain ⟨i, j⟩ := linesP_few h1 h2 d (k + 1) ((p.to k).say (lineB (differP (rowOf fr k) (rowOf lr k)).toNat (rowOf fr k) (rowOf lr k))) ((h.to (show k ≤ 1000 by omega)).say _) (by omega)
      rw [Pt.say_b, show (p.to k).b = p.b ++ toB p k from rfl, List.length_append, List.length_append] at i
      have e : ((p.to k).say (lineB (differP (rowOf fr k) (rowOf lr k)).toNat (rowOf fr k) (rowOf lr k))).high = (p.to k).high := rfl
      rw [e] at i j
      exact ⟨by omega, by omega⟩
    · rw [if_neg h0]
      obtain ⟨i, j⟩ := linesP_few h1 h2 d (k + 1) p h (by omega)
      exact ⟨by omega, by omega⟩
theorem draw_few {cols : Nat} {p : Pt} {f : Fm} (h : PtK cols p) (hf : FK cols f) : (p.draw f).b.length ≤ sizeF f.rows + 8 * f.rows.length * cols + 24 * (f.rows.length + p.last.rows.length) + 24 := by
  have hl := hf.len
  unfold Pt.draw
  split
  · rw [h.b]; exact Nat.zero_le _
  · obtain ⟨i, j⟩ := linesP_few (fun x hx => (hl.1 x hx).2) (fun x hx => (h.len.1 x hx).2) (max f.rows.length p.last.rows.length) 0 p h.h (by have := h.len.2; omega)
    have q := linesP_hi f.rows p.last.rows (max f.rows.length p.last.rows.length) 0 p h.h (by have := h.len.2; omega)
    have s := sizeK_le (m := f.rows) (cols := cols) (fun x hx => by rw [(hf.rows x hx).1]; exact Nat.le_refl _) (max f.rows.length p.last.rows.length) 0
    rw [Nat.sub_zero, List.drop_zero] at s
    show (((linesP f.rows p.last.rows (max f.rows.length p.last.rows.length) 0 p).to f.row).say (colB f.col)).b.length ≤ _
    rw [h.b, List.length_nil] at i
    generalize linesP f.rows p.last.rows (max f.rows.length p.last.rows.length) 0 p = z at *
    obtain ⟨t1, t3, t4⟩ := toB_few q (show f.row ≤ 1000 by omega)
    have t2 := colB_eight (n := f.col) (by have := hf.col; have := hf.c2; omega)
    have hr := hf.row
    rw [Pt.say_b, show (z.to f.row).b = z.b ++ toB z f.row from rfl, List.length_append, List.length_append, Nat.mul_assoc]
    generalize f.rows.length * cols = fc at *
    have h1 := h.h.1
    omega
theorem draw_again {cols : Nat} {p : Pt} {f : Fm} (h : PtK cols p) (hf : FK cols f) : (tellP (p.draw f)).draw f = tellP (p.draw f) ∧ (p.draw f).last = f := by
  have hn := hf.n1
  have hc : ¬ f.rows.length = 0 := by omega
  unfold Pt.draw
  by_cases h1 : f.rows.length = 0 ∨ (p.is = true ∧ f = p.last)
  · rw [if_pos h1]
    have h2 := h1.resolve_left hc
    exact ⟨if_pos (.inr ⟨h2.1, h2.2⟩), h2.2.symm⟩
  · rw [if_neg h1]
    exact ⟨if_pos (.inr ⟨rfl, rfl⟩), rfl⟩
end Go.Proofs.YtledplnlcjfafaaDoorL

