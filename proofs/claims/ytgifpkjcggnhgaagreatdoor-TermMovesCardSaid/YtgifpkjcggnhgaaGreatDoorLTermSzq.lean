/- Parts of the proof of the law that the last file states; declarations that nothing mentions are left out by a program. No conditions. -/
import Derived.Test.YtgifpkjcggnhgaaGreatDoorProg
import Derived.Test.YtgifpkjcggnhgaaGreatDoorLTermSq
import Derived.Test.YtgifpkjcggnhgaaGreatDoorLTermDq
import Derived.Test.YtgifpkjcggnhgaaGreatDoorLOpenq
set_option linter.unusedVariables false
set_option linter.unusedSimpArgs false
section
namespace Go.Proofs.YtgifpkjcggnhgaaGreatDoorL
open Go Go.RowKit Go.Proofs.YtgifpkjcggnhgaaGreatDoorW.PrintWords Go.Proofs.YtgifpkjcggnhgaaGreatDoor.K
theorem ev_at {w wx : World} {A0 : Option Addr} {l : List S46} (hE : Kd.C k46 w A0 l.length l) (hb : Below w.heap.size w wx) {j : Nat} (hj : j < l.length) : ∃ ad A3 c3, A0 = some ad ∧ wx.cell? (ad.add (j * 4)) = some (.bool l[j].f0) ∧ wx.cell? ⟨(ad.add (j * 4)).block, (ad.add (j * 4)).off + 1, none⟩ = some (.int .i64 l[j].f1) ∧ wx.cell? ⟨(ad.add (j * 4)).block, (ad.add (j * 4)).off + 2, none⟩ = some (.int .i64 l[j].f2) ∧ wx.cell? ⟨(ad.add (j * 4)).block, (ad.add (j * 4)).off + 3, none⟩ = some (.slice A3 (l[j].f3).length c3) ∧ (l[j].f3).length ≤ c3 ∧ (Kd.int .u8).C w A3 (l[j].f3).length l[j].f3 := by
  obtain ⟨ad, A3, c3, rfl, h0, h1, h2, h3, hl, hC⟩ := at_T46 hE (j : Int) (by omega) (by omega)
  rw [rd_ev hj] at h0 h1 h2 h3 hl hC
  rw [Int.toNat_natCast] at h0 h1 h2 h3
  have mv : ∀ {a : Addr} {v : Value}, w.cell? a = some v → wx.cell? a = some v := fun h => cell_move h (hb.block _ (Lib.lt_of_cell h))
  exact ⟨ad, A3, c3, rfl, mv h0, mv h1, mv h2, mv h3, hl, hC⟩
theorem feed_ev {w0 w : World} {F : Nat → Prop} {T M : Nat} {s : Tm} (h : St w0 w F T s) (hk : TK M s) (hT : TabsT w0) {A : Option Addr} {c : Nat} {xs : List Int} (hC : (Kd.int .u8).C w0 A xs.length xs) (hw : ∀ b ∈ xs, (Lit.int .u8 b).wf = true) (hM : M + 32 * xs.length + 64 ≤ 900000) :
    Calls Tryz.prog 17 #[.pointer (some ⟨T, 0, none⟩), .slice A xs.length c] w fun e w' => e = .returned (.tuple #[]) ∧ Told F w T (s.feed (toB xs)) w' := by
  by_cases hn : 0 < xs.length
  · obtain ⟨ad, rfl, hcell⟩ := int_cell hC hw hn
    have X := feed_ta h.ta hk (toB xs) (by rw [toB_len]; exact hM) (hT.below h.bl) (h.outT hT) (A := some ad) (c := c) (ad := ad) (fun _ => ⟨rfl, fun hF => by
      have h1 := Lib.lt_of_cell (hcell 0 (by rw [toB_len]; exact hn))
      rw [add_block] at h1
      have := h.own _ hF
      omega, by
      have h1 := Lib.lt_of_cell (hcell 0 (by rw [toB_len]; exact hn))
      rw [add_block] at h1
      have := h.bl.size
      omega⟩) (fun i hi => cell_move (hcell i hi) (h.bl.block _ (Lib.lt_of_cell (hcell i hi))))
    rw [toB_len] at X
    exact X
  · have h0 : xs = [] := List.eq_nil_of_length_eq_zero (by omega)
    subst h0
    exact feed_ta h.ta hk (toB []) hM (hT.below h.bl) (h.outT hT) (A := A) (c := c) (ad := ⟨0, 0, none⟩) (fun hp => absurd hp (Nat.lt_irrefl 0)) (fun i hi => absurd hi (Nat.not_lt_zero i))
end Go.Proofs.YtgifpkjcggnhgaaGreatDoorL
end
section
namespace Go.Proofs.YtgifpkjcggnhgaaGreatDoorL
open Go Go.RowKit Go.ChangeShapes Go.WideShapes Go.Deep Go.Proofs.YtgifpkjcggnhgaaGreatDoorW.PrintWords
theorem okWide_array {P : Program} {w : World} {r : Reach} {base : Nat} {t : TypeId} {v : Value} {n : Nat} {e : TypeId} (ht : P.underlying t = some (.array n e)) (h : Value.okWide P w r base t v) : ∃ cs, v = .agg cs ∧ cs.size = P.cellsOf t := by
  simp only [Value.okWide, ht] at h
  obtain ⟨cs, h1, h2, _⟩ := h
  exact ⟨cs, h1, h2⟩
def kArr2 : Kd (Int × Int) := Kd.pair (Kd.int .i64) (Kd.int .i64)
theorem kArr2_open {w : World} {x : Int × Int} {cs : List Value} (h : kArr2.K w x cs) : cs = [.int .i64 x.1, .int .i64 x.2] := by
  obtain ⟨a, b, rfl, h1, h2⟩ := h
  rw [show a = [Value.int .i64 x.1] from h1, show b = [Value.int .i64 x.2] from h2]
  rfl
set_option maxRecDepth 100000 in
theorem opensArr2 : Opens Tryz.prog kArr2 (fun _ => True) 22 := by
  intro H enc w base spare held fuel cs x h hw
  obtain ⟨xs, m, rfl, rfl, hl, hx, hf⟩ := DataW.trod_array Tryz.underlying22 h
  rw [show Tryz.prog.cellsOf 3 = 1 by kernel_rfl] at hf
  rw [show Tryz.prog.cellsOf 22 = 2 by kernel_rfl] at hl
  match cs, hl with
  | [c0, c1], _ =>
    have h0 := hf 0 (by decide)
    have h1 := hf 1 (by decide)
    match xs, hx with
    | [y0, y1], _ =>
      simp only [Nat.zero_mul, List.drop_zero, List.take, List.getElem?_cons_zero, Nat.one_mul, List.drop, List.getElem?_cons_succ] at h0 h1
      simp only [DataW.weights, Tryz.underlying22] at hw
      have hws : ∀ y ∈ [y0, y1], (y.1.weights Tryz.prog 3).all (· ≤ reachBytes) = true := by
        intro y hy
        refine List.all_eq_true.2 fun v hv => List.all_eq_true.1 hw v ?_
        exact weightsAll_mem (d := y.1) (List.mem_map.2 ⟨y, hy, rfl⟩) v hv
      obtain ⟨a0, g0, _⟩ := opens_int Tryz.underlying3 enc w base spare held _ _ _ h0 (hws y0 (by simp))
      obtain ⟨a1, g1, _⟩ := opens_int Tryz.underlying3 enc w base spare held _ _ _ h1 (hws y1 (by simp))
      obtain rfl := int_of g0
      obtain rfl := int_of g1
      exact ⟨(a0, a1), ⟨[.int .i64 a0], [.int .i64 a1], rfl, rfl, rfl⟩, trivial⟩
end Go.Proofs.YtgifpkjcggnhgaaGreatDoorL
end
