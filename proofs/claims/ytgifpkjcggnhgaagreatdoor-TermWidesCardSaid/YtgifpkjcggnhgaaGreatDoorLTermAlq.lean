/- Parts of the proof of the law that the last file states; declarations that nothing mentions are left out by a program. No conditions. -/
import Derived.Test.YtgifpkjcggnhgaaGreatDoorLTermQq
set_option linter.unusedVariables false
set_option linter.unusedSimpArgs false
namespace Go.Proofs.YtgifpkjcggnhgaaGreatDoorL
open Go
def al0 : Tm := newT 2 3
def al1 : Tm := al0.feed [97, 98, 27, 91, 50, 109, 99]
def al2 : Tm := al1.feed [100]
def al3 : Tm := al2.feed [10, 13, 27, 91, 65, 27, 91, 75]
def al4 : Tm := al3.resize 1 1
theorem al1_full : al1.full = true := by decide +kernel
theorem al2_cur : al2.row = 1 ∧ al2.col = 1 ∧ al2.l.length = 2 ∧ al2.off = 0 := by decide +kernel
theorem al2_cells : ((al2.l.getD 0 []).map (fun c => (c.S, c.wide, c.dim))) = [(⟨#[97]⟩, 1, false), (⟨#[98]⟩, 1, false), (⟨#[99]⟩, 1, true)] := by decide +kernel
theorem al3_size : al3.l.length = 2 ∧ al3.cols = 3 ∧ al3.off = 1 ∧ al3.gone.length = 1 := by decide +kernel
theorem al3_gone : ((al3.gone.getD 0 []).map (fun c => (c.S, c.wide, c.dim))) = [(⟨#[97]⟩, 1, false), (⟨#[98]⟩, 1, false), (⟨#[99]⟩, 1, true)] := by decide +kernel
theorem al4_rows : al4.l.length = 1 ∧ (al4.l.getD 0 []).length = 1 ∧ al4.off = 1 ∧ al4.cols = 1 := by decide +kernel
theorem tc_inj {a b : TC} (h : (a.S, a.wide, a.dim) = (b.S, b.wide, b.dim)) : a = b := by
  cases a
  cases b
  simp only [Prod.mk.injEq] at h
  obtain ⟨rfl, rfl, rfl⟩ := h
  rfl
theorem tc_eq : ∀ {l m : List TC}, l.map (fun c => (c.S, c.wide, c.dim)) = m.map (fun c => (c.S, c.wide, c.dim)) → l = m
  | [], [], _ => rfl
  | [], _ :: _, h => by simp at h
  | _ :: _, [], h => by simp at h
  | a :: l, b :: m, h => by
    rw [List.map_cons, List.map_cons, List.cons.injEq] at h
    rw [tc_inj h.1, tc_eq h.2]
def alRow : List TC := [⟨⟨#[97]⟩, 1, false⟩, ⟨⟨#[98]⟩, 1, false⟩, ⟨⟨#[99]⟩, 1, true⟩]
theorem al2_row : al2.l.getD 0 [] = alRow := tc_eq al2_cells
theorem al3_row : al3.gone.getD 0 [] = alRow := tc_eq al3_gone
end Go.Proofs.YtgifpkjcggnhgaaGreatDoorL

