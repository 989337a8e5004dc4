/- Parts of the proof of the law that the last file states; declarations that nothing mentions are left out by a program. No conditions. -/
import Derived.Test.YtgifpkjcggnhgaaGreatDoorLTermSq
set_option linter.unusedVariables false
set_option linter.unusedSimpArgs false
namespace Go.Proofs.YtgifpkjcggnhgaaGreatDoorL
open Go Go.RowKit
structure Scr (R C q : Nat) (line : Nat → List TC) (s : Tm) : Prop where
  cols : s.cols = C
  len : s.l.length = R
  r1 : 1 ≤ R
  row : s.row = min q (R - 1)
  off : s.off = q - (R - 1)
  glen : s.gone.length = s.off
  gone : ∀ i, i < s.off → s.gone.getD i [] = line i
  rows : ∀ i, i < R → s.l.getD i [] = line (s.off + i)
section
variable {R C q : Nat} {line line' : Nat → List TC} {s : Tm}
theorem Scr.more (h : Scr R C q line s) : q = s.off + s.row := by have h1 := h.row; have h2 := h.off; have h3 := h.r1; omega
theorem getD_append1 {α : Type} {l : List α} {x d : α} {i : Nat} : (l ++ [x]).getD i d = if i < l.length then l.getD i d else if i = l.length then x else d := by
  rw [List.getD_eq_getElem?_getD, List.getD_eq_getElem?_getD]
  split
  · rw [List.getElem?_append_left (by assumption)]
  · rw [List.getElem?_append_right (by omega)]
    split
    · rw [show i - l.length = 0 by omega]; rfl
    · rw [List.getElem?_eq_none (by simp; omega)]; rfl
theorem getD_tail {α : Type} {l : List α} {d : α} {i : Nat} : l.tail.getD i d = l.getD (i + 1) d := by
  cases l with
  | nil => rfl
  | cons a l => rfl
theorem Scr.down (h : Scr R C q line s) (hb : line (q + 1) = blankR C) (hq : q + 1 ≤ 1000) : Scr R C (q + 1) line s.down := by
  have hr := h.row
  have ho := h.off
  have h1 := h.r1
  have hl := h.len
  have hg := h.glen
  unfold Tm.down
  rw [hl]
  by_cases hlt : s.row + 1 < R
  · rw [if_pos hlt]
    exact ⟨h.cols, h.len, h.r1, by show s.row + 1 = _; omega, by show s.off = _; omega, h.glen, h.gone, h.rows⟩
  · rw [if_neg hlt]
    have hk : keptL (s.gone ++ [s.l.headD []]) = s.gone ++ [s.l.headD []] := by
      unfold keptL
      rw [List.length_append, List.length_singleton, show s.gone.length + 1 - 1000 = 0 by omega]
      rfl
    have hh : s.l.headD [] = line s.off := by
      have := h.rows 0 (by omega)
      rw [Nat.add_zero] at this
      rw [← this]
      cases s.l <;> rfl
    have es : ({ s with full := false } : Tm).scroll = { s with full := false, gone := s.gone ++ [s.l.headD []], off := s.off + 1, l := s.l.tail ++ [blankR s.cols] } := by unfold Tm.scroll; dsimp only; rw [hk]
    rw [es]
    clear es hk
    refine ⟨h.cols, ?_, h.r1, ?_, ?_, ?_, fun i hi => ?_, fun i hi => ?_⟩
    · show (s.l.tail ++ [blankR s.cols]).length = R
      rw [List.length_append, List.length_tail, List.length_singleton]; omega
    · show s.row = min (q + 1) (R - 1)
      omega
    · show s.off + 1 = q + 1 - (R - 1)
      omega
    · show (s.gone ++ [s.l.headD []]).length = s.off + 1
      rw [List.length_append, List.length_singleton]; omega
    · show (s.gone ++ [s.l.headD []]).getD i [] = line i
      have hi2 : i < s.off + 1 := hi
      rw [getD_append1]
      split
      · exact h.gone i (by omega)
      · rw [if_pos (by omega), hh]
        congr 1
        omega
    · show (s.l.tail ++ [blankR s.cols]).getD i [] = line (s.off + 1 + i)
      have ht : s.l.tail.length = R - 1 := by rw [List.length_tail, hl]
      rw [getD_append1, ht]
      split
      · rw [getD_tail, h.rows (i + 1) (by omega)]
        congr 1
        omega
      · rw [if_pos (by omega), h.cols, ← hb]
        congr 1
        omega
theorem Scr.fresh (h : Scr R C q line s) (hb : line (q + 1) = blankR C) (hq : q + 1 ≤ 1000) : Scr R C (q + 1) line s.fresh := by
  have h' := h.down hb hq
  exact ⟨h'.cols, h'.len, h'.r1, h'.row, h'.off, h'.glen, h'.gone, h'.rows⟩
theorem getD_modify {α : Type} {l : List α} {k i : Nat} {f : α → α} {d : α} (hk : k < l.length) : (l.modify k f).getD i d = if i = k then f (l.getD k d) else l.getD i d := by
  rw [List.getD_eq_getElem?_getD, List.getElem?_modify, List.getD_eq_getElem?_getD, List.getD_eq_getElem?_getD]
  by_cases h : k = i
  · subst h
    rw [if_pos rfl, List.getElem?_eq_getElem hk]
    simp
  · rw [if_neg (fun e => h e.symm)]
    simp [h]
theorem Scr.onRow (h : Scr R C q line s) {f : List TC → List TC} (hf : f (line q) = line' q) (ho : ∀ i, i ≠ q → line' i = line i) : Scr R C q line' (s.onRow s.row f) := by
  have hm := h.more
  have hrr := h.row
  have hoo := h.off
  have h1 := h.r1
  refine ⟨h.cols, (dims_onRow s s.row f).2.trans h.len, h.r1, h.row, h.off, h.glen, fun i hi => ?_, fun i hi => ?_⟩
  · have hi2 : i < s.off := hi
    rw [ho i (by omega)]
    exact h.gone i hi
  · show (s.l.modify s.row f).getD i [] = line' (s.off + i)
    rw [getD_modify (by rw [h.len]; omega)]
    split
    · rename_i e
      subst e
      rw [h.rows s.row (by omega), ← hm]
      exact hf
    · rw [h.rows i hi]
      exact (ho _ (by omega)).symm
theorem Scr.go_on (h : Scr R C q line s) (w : Nat) : Scr R C q line (s.go_on w) := by
  unfold Tm.go_on
  split <;> exact ⟨h.cols, h.len, h.r1, h.row, h.off, h.glen, h.gone, h.rows⟩
theorem putR_one {l : List TC} {k : Nat} {c : TC} (h : (getC l k).wide = 1) : putR l k c = l.set k c := by
  have h1 : put1 l k = l := by unfold put1; rw [if_neg (by omega)]
  unfold putR put2
  rw [h1, if_neg (by omega)]
end
theorem list_ext_getC {l m : List TC} (hl : l.length = m.length) (h : ∀ j, j < l.length → getC l j = getC m j) : l = m := by
  refine List.ext_getElem hl (fun j h1 h2 => ?_)
  have := h j h1
  rwa [getC_get h1, getC_get h2] at this
theorem div_next {C k : Nat} (hC : 1 ≤ C) : (k % C + 1 = C → (k + 1) % C = 0 ∧ (k + 1) / C = k / C + 1) ∧ (k % C + 1 ≠ C → (k + 1) % C = k % C + 1 ∧ (k + 1) / C = k / C) := by
  have hm := Nat.mod_lt k (show 0 < C by omega)
  have hd := Nat.div_add_mod k C
  constructor
  · intro h
    have e : k + 1 = C * (k / C + 1) := by rw [Nat.mul_add, Nat.mul_one]; omega
    exact ⟨by rw [e]; exact Nat.mul_mod_right .., by rw [e, Nat.mul_div_cancel_left _ (by omega)]⟩
  · intro h
    have e : k + 1 = k % C + 1 + C * (k / C) := by omega
    constructor
    · rw [e, Nat.add_mul_mod_self_left, Nat.mod_eq_of_lt (by omega)]
    · rw [e, Nat.add_mul_div_left _ _ (by omega), Nat.div_eq_of_lt (by omega), Nat.zero_add]
end Go.Proofs.YtgifpkjcggnhgaaGreatDoorL

