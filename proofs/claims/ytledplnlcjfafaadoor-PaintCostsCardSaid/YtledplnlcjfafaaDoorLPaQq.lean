/- Parts of the proof of the law that the last file states; declarations that nothing mentions are left out by a program. No conditions. -/
import Derived.Test.YtledplnlcjfafaaDoorLPaW6q
set_option linter.unusedVariables false
set_option linter.unusedSimpArgs false
namespace Go.Proofs.YtledplnlcjfafaaDoorL
open Go Go.RowKit
def headDim : List TC → Bool
  | [] => false
  | c :: _ => c.dim
def textsB : Bool → List TC → List UInt8
  | _, [] => []
  | prev, c :: r => ((if c.dim && !prev then [27, 91, 50, 109] else []) ++ c.S.data.toList) ++ ((if c.dim && !headDim r then [27, 91, 48, 109] else []) ++ textsB c.dim r)
theorem cellsB_texts : ∀ (l : List TC) (prev : Bool), cellsB prev l = (if prev && !headDim l then [27, 91, 48, 109] else []) ++ textsB prev l
  | [], prev => by cases prev <;> simp [cellsB, textsB, headDim]
  | c :: r, prev => by
    unfold cellsB textsB cellB
    rw [cellsB_texts r c.dim]
    cases hp : prev <;> cases hd : c.dim <;> simp [headDim, hd]
theorem cellsB_texts0 (l : List TC) : cellsB false l = textsB false l := by rw [cellsB_texts]; simp
def fromG (a b : List TC) : Nat → Nat → Nat
  | 0, k => k
  | d + 1, k => if getC a k = getC b k then fromG a b d (k + 1) else k
theorem fromG_le (a b : List TC) : ∀ d k, k ≤ fromG a b d k ∧ fromG a b d k ≤ k + d
  | 0, k => ⟨Nat.le_refl _, Nat.le_refl _⟩
  | d + 1, k => by
    unfold fromG
    split
    · have := fromG_le a b d (k + 1); omega
    · omega
theorem diffG_from (a b : List TC) : ∀ d k, diffG a b d k = if fromG a b d k = k + d then -1 else if (getC a (fromG a b d k)).wide = 0 ∨ (getC b (fromG a b d k)).wide = 0 then (fromG a b d k : Int) - 1 else fromG a b d k
  | 0, k => by unfold diffG fromG; rw [if_pos (by omega)]
  | d + 1, k => by
    unfold diffG fromG
    by_cases h : getC a k = getC b k
    · rw [if_pos h, if_pos h, diffG_from a b d (k + 1), show k + 1 + d = k + (d + 1) by omega]
    · rw [if_neg h, if_neg h, if_neg (show ¬ k = k + (d + 1) by omega)]
theorem fromG_congr {a b a' b' : List TC} (ha : ∀ k, getC a k = getC a' k) (hb : ∀ k, getC b k = getC b' k) : ∀ d k, fromG a b d k = fromG a' b' d k
  | 0, k => rfl
  | d + 1, k => by unfold fromG; rw [ha, hb, fromG_congr ha hb d (k + 1)]
def padR (l : List TC) (cols : Nat) : List TC := l ++ List.replicate (cols - l.length) blankC
theorem padR_len {l : List TC} {cols : Nat} (h : l.length ≤ cols) : (padR l cols).length = cols := by unfold padR; rw [List.length_append, List.length_replicate]; omega
theorem getC_padR (l : List TC) (cols k : Nat) : getC (padR l cols) k = getC l k := by
  unfold getC padR
  rw [List.getD_eq_getElem?_getD, List.getD_eq_getElem?_getD]
  by_cases h : k < l.length
  · rw [List.getElem?_append_left h]
  · rw [List.getElem?_append_right (by omega), List.getElem?_eq_none (l := l) (by omega), List.getElem?_replicate]
    split <;> rfl
theorem endP_congr {a b : List TC} : ∀ n, (∀ k, k < n → getC a k = getC b k) → endP a n = endP b n
  | 0, _ => rfl
  | n + 1, h => by unfold endP; rw [h n (by omega), endP_congr n (fun k hk => h k (by omega))]
theorem endP_blank (l : List TC) {m : Nat} : ∀ d, (∀ k, m ≤ k → getC l k = blankC) → endP l (m + d) = endP l m
  | 0, _ => rfl
  | d + 1, h => by rw [show m + (d + 1) = (m + d) + 1 by omega, endP, if_pos (h _ (by omega)), endP_blank l d h]
theorem endP_padR {l : List TC} {cols : Nat} (h : l.length ≤ cols) : endP (padR l cols) cols = endP l l.length := by
  rw [endP_congr cols (fun k _ => getC_padR l cols k), show cols = l.length + (cols - l.length) by omega]
  exact endP_blank l _ (fun k hk => by rw [getC_out hk]; rfl)
structure Rs where
  last : Fm
  high : Nat
  row : Nat
def Pt.rs (p : Pt) : Rs := ⟨p.last, p.high, p.row⟩
def Rs.inn (s : Rs) (row : Nat) : Nat := min row (s.high - 1)
def Rs.toB (s : Rs) (row : Nat) : List UInt8 := moveB ((s.row : Int) - s.inn row) 65 ++ moveB ((s.inn row : Int) - s.row) 66 ++ nextB (row - s.inn row)
def Rs.to (s : Rs) (row : Nat) : Rs := { s with row := row, high := s.high + (row - s.inn row) }
theorem Pt.to_rs (p : Pt) (row : Nat) : (p.to row).rs = p.rs.to row ∧ (p.to row).b = p.b ++ p.rs.toB row := ⟨rfl, rfl⟩
def fromR (l was : List TC) : Nat := if 0 < fromG l was l.length 0 ∧ ((getC l (fromG l was l.length 0)).wide = 0 ∨ (getC was (fromG l was l.length 0)).wide = 0) then fromG l was l.length 0 - 1 else fromG l was l.length 0
def rowB (from_ : Nat) (l was : List TC) : List UInt8 :=
  ([13] ++ moveB (from_ : Int) 67) ++ (textsB false ((l.take (max (endP l l.length) from_)).drop from_) ++ (if max (endP l l.length) from_ < endP was was.length then [27, 91, 75] else []))
def Rs.write (s : Rs) (k : Nat) (l was : List TC) : Rs × List UInt8 :=
  if fromG l was l.length 0 = l.length then (s, []) else (s.to k, s.toB k ++ rowB (fromR l was) l was)
theorem lineB_row {cols from_ : Nat} {l was : List TC} (h1 : l.length = 0 ∨ l.length = cols) (h2 : was.length = 0 ∨ was.length = cols) (hf : from_ ≤ cols) : lineB from_ l was = rowB from_ (padR l cols) (padR was cols) := by
  have g1 : l.length ≤ cols := by omega
  have g2 : was.length ≤ cols := by omega
  unfold lineB rowB colB midB tailB
  rw [padR_len g1, padR_len g2, endP_padR g1, endP_padR g2]
  have hle := endP_le l l.length
  congr 1
  congr 1
  · by_cases h : from_ < endP l l.length
    · rw [if_pos h, Nat.max_eq_left (show from_ ≤ endP l l.length by omega), cellsB_texts0]
      have hl : l.length = cols := by omega
      have e : padR l cols = l := by unfold padR; rw [hl, Nat.sub_self, List.replicate_zero, List.append_nil]
      rw [e]
    · rw [if_neg h, Nat.max_eq_right (show endP l l.length ≤ from_ by omega), List.drop_eq_nil_of_le (show ((padR l cols).take from_).length ≤ from_ by rw [List.length_take]; omega)]
      rfl
theorem step_write {p : Pt} {k cols : Nat} {l was : List TC} (h1 : l.length = 0 ∨ l.length = cols) (h2 : was.length = 0 ∨ was.length = cols) (h3 : l.length = cols ∨ was.length = cols) (hc : 1 ≤ cols)
    (hw : (getC l 0).wide ≠ 0 ∧ (getC was 0).wide ≠ 0) :
    (if 0 ≤ differP l was then (p.to k).say (lineB (differP l was).toNat l was) else p).rs = (p.rs.write k (padR l cols) (padR was cols)).1 ∧
    (if 0 ≤ differP l was then (p.to k).say (lineB (differP l was).toNat l was) else p).b = p.b ++ (p.rs.write k (padR l cols) (padR was cols)).2 := by
  have g1 : l.length ≤ cols := by omega
  have g2 : was.length ≤ cols := by omega
  have hm : max l.length was.length = cols := by omega
  have hd : differP l was = diffG l was cols 0 := by unfold differP; rw [hm]
  have hfr : fromG (padR l cols) (padR was cols) (padR l cols).length 0 = fromG l was cols 0 := by
    rw [padR_len g1]; exact fromG_congr (fun k => getC_padR l cols k) (fun k => getC_padR was cols k) cols 0
  have hlt := fromG_le l was cols 0
  rw [hd, diffG_from]
  unfold Rs.write fromR
  rw [hfr, padR_len g1, getC_padR, getC_padR]
  generalize hF : fromG l was cols 0 = F at *
  by_cases hz : F = cols
  · rw [if_pos (show F = 0 + cols by omega), if_neg (show ¬ (0 : Int) ≤ -1 by omega), if_pos hz]
    exact ⟨rfl, by rw [List.append_nil]⟩
  · rw [if_neg (show ¬ F = 0 + cols by omega), if_neg hz]
    by_cases hw2 : (getC l F).wide = 0 ∨ (getC was F).wide = 0
    · have hF0 : 0 < F := by
        rcases Nat.eq_zero_or_pos F with h | h
        · rw [h] at hw2; rcases hw2 with h | h; exact absurd h hw.1; exact absurd h hw.2
        · exact h
      rw [if_pos hw2, if_pos (show (0 : Int) ≤ (F : Int) - 1 by omega), if_pos ⟨hF0, hw2⟩, show ((F : Int) - 1).toNat = F - 1 by omega, lineB_row h1 h2 (by omega)]
      exact ⟨rfl, by rw [Pt.say_b, (p.to_rs k).2, List.append_assoc]⟩
    · rw [if_neg hw2, if_pos (show (0 : Int) ≤ (F : Int) by omega), if_neg (fun h => hw2 h.2), Int.toNat_natCast, lineB_row h1 h2 (by omega)]
      exact ⟨rfl, by rw [Pt.say_b, (p.to_rs k).2, List.append_assoc]⟩
def Rs.lines (fr lr : List (List TC)) (cols : Nat) : Nat → Nat → Rs → Rs × List UInt8
  | 0, _, s => (s, [])
  | d + 1, k, s => ((Rs.lines fr lr cols d (k + 1) (s.write k (padR (rowOf fr k) cols) (padR (rowOf lr k) cols)).1).1, (s.write k (padR (rowOf fr k) cols) (padR (rowOf lr k) cols)).2 ++ (Rs.lines fr lr cols d (k + 1) (s.write k (padR (rowOf fr k) cols) (padR (rowOf lr k) cols)).1).2)
def Fm.ok (cols : Nat) (m : List (List TC)) : Prop := ∀ x ∈ m, x.length = cols ∧ (getC x 0).wide ≠ 0
theorem rowOf_ok {cols : Nat} {m : List (List TC)} (h : Fm.ok cols m) (k : Nat) : ((rowOf m k).length = 0 ∧ m.length ≤ k ∨ (rowOf m k).length = cols) ∧ (getC (rowOf m k) 0).wide ≠ 0 := by
  by_cases hk : k < m.length
  · rw [rowOf_get hk]
    exact ⟨.inr (h _ (List.getElem_mem hk)).1, (h _ (List.getElem_mem hk)).2⟩
  · rw [rowOf_out (by omega)]
    exact ⟨.inl ⟨rfl, by omega⟩, by decide⟩
theorem lines_write {fr lr : List (List TC)} {cols : Nat} (h1 : Fm.ok cols fr) (h2 : Fm.ok cols lr) (hc : 1 ≤ cols) : ∀ d k (p : Pt), k + d ≤ max fr.length lr.length →
    (linesP fr lr d k p).rs = (Rs.lines fr lr cols d k p.rs).1 ∧ (linesP fr lr d k p).b = p.b ++ (Rs.lines fr lr cols d k p.rs).2
  | 0, k, p, _ => ⟨rfl, by unfold linesP Rs.lines; rw [List.append_nil]⟩
  | d + 1, k, p, hk => by
    obtain ⟨a1, b1⟩ := rowOf_ok h1 k
    obtain ⟨a2, b2⟩ := rowOf_ok h2 k
    obtain ⟨s1, s2⟩ := step_write (p := p) (k := k) (cols := cols) (l := rowOf fr k) (was := rowOf lr k) (by omega) (by omega) (by omega) hc ⟨b1, b2⟩
    unfold linesP Rs.lines
    obtain ⟨i1, i2⟩ := lines_write h1 h2 hc d (k + 1) (if 0 ≤ differP (rowOf fr k) (rowOf lr k) then (p.to k).say (lineB (differP (rowOf fr k) (rowOf lr k)).toNat (rowOf fr k) (rowOf lr k)) else p) (by omega)
    rw [i1, i2, s1, s2, List.append_assoc]
    exact ⟨rfl, rfl⟩
def Rs.draw (s : Rs) (f : Fm) (cols : Nat) : Rs × List UInt8 :=
  if f.rows.length = 0 ∨ (s.last.rows.length ≠ 0 ∧ f = s.last) then (s, [])
  else ({ ((Rs.lines f.rows s.last.rows cols (max f.rows.length s.last.rows.length) 0 s).1.to f.row) with last := f }, (Rs.lines f.rows s.last.rows cols (max f.rows.length s.last.rows.length) 0 s).2 ++ ((Rs.lines f.rows s.last.rows cols (max f.rows.length s.last.rows.length) 0 s).1.toB f.row ++ colB f.col))
theorem draw_law {p : Pt} {f : Fm} {cols : Nat} (hb : p.b = []) (hi : p.is = true ↔ p.last.rows.length ≠ 0) (h1 : Fm.ok cols f.rows) (h2 : Fm.ok cols p.last.rows) (hc : 1 ≤ cols) :
    (p.draw f).rs = (p.rs.draw f cols).1 ∧ (p.draw f).b = (p.rs.draw f cols).2 ∧ ((p.draw f).is = true ↔ (p.draw f).last.rows.length ≠ 0) := by
  unfold Pt.draw Rs.draw
  by_cases h : f.rows.length = 0 ∨ (p.is = true ∧ f = p.last)
  · rw [if_pos h, if_pos (show f.rows.length = 0 ∨ (p.rs.last.rows.length ≠ 0 ∧ f = p.rs.last) from h.imp id (fun h => ⟨hi.1 h.1, h.2⟩))]
    exact ⟨rfl, hb, hi⟩
  · rw [if_neg h, if_neg (show ¬ (f.rows.length = 0 ∨ (p.rs.last.rows.length ≠ 0 ∧ f = p.rs.last)) from fun h' => h (h'.imp id (fun h => ⟨hi.2 h.1, h.2⟩)))]
    obtain ⟨i1, i2⟩ := lines_write h1 h2 hc (max f.rows.length p.last.rows.length) 0 p (by omega)
    unfold Pt.drawn
    refine ⟨?_, ?_, ?_⟩
    · show ({ ((linesP f.rows p.last.rows (max f.rows.length p.last.rows.length) 0 p).to f.row).rs with last := f } : Rs) = _
      rw [(Pt.to_rs _ _).1, i1]
      rfl
    · show (((linesP f.rows p.last.rows (max f.rows.length p.last.rows.length) 0 p).to f.row).say (colB f.col)).b = _
      rw [Pt.say_b, (Pt.to_rs _ _).2, i1, i2, hb]
      simp only [List.nil_append, List.append_assoc]
      rfl
    · show true = true ↔ f.rows.length ≠ 0
      exact ⟨fun _ e => h (.inl e), fun _ => rfl⟩
end Go.Proofs.YtledplnlcjfafaaDoorL

