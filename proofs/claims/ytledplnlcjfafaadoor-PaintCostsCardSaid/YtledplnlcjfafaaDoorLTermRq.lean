/- Parts of the proof of the law that the last file states; declarations that nothing mentions are left out by a program. No conditions. -/
import Derived.Test.YtledplnlcjfafaaDoorProg
import Derived.Test.YtledplnlcjfafaaDoorLOpenq
set_option linter.unusedVariables false
set_option linter.unusedSimpArgs false
namespace Go.Proofs.YtledplnlcjfafaaDoorL
open Go Go.RowKit Go.ChangeShapes Go.WideShapes Go.Deep Go.Proofs.YtledplnlcjfafaaDoorW.PrintWords
theorem okWide_array {P : Program} {w : World} {r : Reach} {base : Nat} {t : TypeId} {v : Value} {n : Nat} {e : TypeId} (ht : P.underlying t = some (.array n e)) (h : Value.okWide P w r base t v) : ∃ cs, v = .agg cs ∧ cs.size = P.cellsOf t := by
  simp only [Value.okWide, ht] at h
  obtain ⟨cs, h1, h2, _⟩ := h
  exact ⟨cs, h1, h2⟩
def kArr2 : Kd (Int × Int) := Kd.pair (Kd.int .i64) (Kd.int .i64)
theorem kArr2_open {w : World} {x : Int × Int} {cs : List Value} (h : kArr2.K w x cs) : cs = [.int .i64 x.1, .int .i64 x.2] := by
  obtain ⟨a, b, rfl, h1, h2⟩ := h
  rw [show a = [Value.int .i64 x.1] from h1, show b = [Value.int .i64 x.2] from h2]
  rfl
set_option maxRecDepth 100000 in
theorem opensArr2 : Opens Tryd.prog kArr2 (fun _ => True) 22 := by
  intro H enc w base spare held fuel cs x h hw
  obtain ⟨xs, m, rfl, rfl, hl, hx, hf⟩ := DataW.trod_array Tryd.underlying22 h
  rw [show Tryd.prog.cellsOf 3 = 1 by kernel_rfl] at hf
  rw [show Tryd.prog.cellsOf 22 = 2 by kernel_rfl] at hl
  match cs, hl with
  | [c0, c1], _ =>
    have h0 := hf 0 (by decide)
    have h1 := hf 1 (by decide)
    match xs, hx with
    | [y0, y1], _ =>
      simp only [Nat.zero_mul, List.drop_zero, List.take, List.getElem?_cons_zero, Nat.one_mul, List.drop, List.getElem?_cons_succ] at h0 h1
      simp only [DataW.weights, Tryd.underlying22] at hw
      have hws : ∀ y ∈ [y0, y1], (y.1.weights Tryd.prog 3).all (· ≤ reachBytes) = true := by
        intro y hy
        refine List.all_eq_true.2 fun v hv => List.all_eq_true.1 hw v ?_
        exact weightsAll_mem (d := y.1) (List.mem_map.2 ⟨y, hy, rfl⟩) v hv
      obtain ⟨a0, g0, _⟩ := opens_int Tryd.underlying3 enc w base spare held _ _ _ h0 (hws y0 (by simp))
      obtain ⟨a1, g1, _⟩ := opens_int Tryd.underlying3 enc w base spare held _ _ _ h1 (hws y1 (by simp))
      obtain rfl := int_of g0
      obtain rfl := int_of g1
      exact ⟨(a0, a1), ⟨[.int .i64 a0], [.int .i64 a1], rfl, rfl, rfl⟩, trivial⟩
end Go.Proofs.YtledplnlcjfafaaDoorL

