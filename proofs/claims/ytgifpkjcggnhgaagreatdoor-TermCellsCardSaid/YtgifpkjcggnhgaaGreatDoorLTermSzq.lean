/- Parts of the proof of the law that the last file states; declarations that nothing mentions are left out by a program. No conditions. -/
import Derived.Test.YtgifpkjcggnhgaaGreatDoorLTermSq
set_option linter.unusedVariables false
set_option linter.unusedSimpArgs false
namespace Go.Proofs.YtgifpkjcggnhgaaGreatDoorL
open Go Go.RowKit Go.Proofs.YtgifpkjcggnhgaaGreatDoorW.PrintWords Go.Proofs.YtgifpkjcggnhgaaGreatDoor.K
theorem ev_at {w wx : World} {A0 : Option Addr} {l : List S46} (hE : Kd.C k46 w A0 l.length l) (hb : Below w.heap.size w wx) {j : Nat} (hj : j < l.length) : ∃ ad A3 c3, A0 = some ad ∧ wx.cell? (ad.add (j * 4)) = some (.bool l[j].f0) ∧ wx.cell? ⟨(ad.add (j * 4)).block, (ad.add (j * 4)).off + 1, none⟩ = some (.int .i64 l[j].f1) ∧ wx.cell? ⟨(ad.add (j * 4)).block, (ad.add (j * 4)).off + 2, none⟩ = some (.int .i64 l[j].f2) ∧ wx.cell? ⟨(ad.add (j * 4)).block, (ad.add (j * 4)).off + 3, none⟩ = some (.slice A3 (l[j].f3).length c3) ∧ (l[j].f3).length ≤ c3 ∧ (Kd.int .u8).C w A3 (l[j].f3).length l[j].f3 := by
  obtain ⟨ad, A3, c3, rfl, h0, h1, h2, h3, hl, hC⟩ := at_T46 hE (j : Int) (by omega) (by omega)
  rw [rd_ev hj] at h0 h1 h2 h3 hl hC
  rw [Int.toNat_natCast] at h0 h1 h2 h3
  have mv : ∀ {a : Addr} {v : Value}, w.cell? a = some v → wx.cell? a = some v := fun h => cell_move h (hb.block _ (Lib.lt_of_cell h))
  exact ⟨ad, A3, c3, rfl, mv h0, mv h1, mv h2, mv h3, hl, hC⟩
theorem feed_ev {w0 w : World} {F : Nat → Prop} {T M : Nat} {s : Tm} (h : St w0 w F T s) (hk : TK M s) (hT : TabsT w0) {A : Option Addr} {c : Nat} {xs : List Int} (hC : (Kd.int .u8).C w0 A xs.length xs) (hw : ∀ b ∈ xs, (Lit.int .u8 b).wf = true) (hM : M + 32 * xs.length + 64 ≤ 900000) :
    Calls Tryz.prog 17 #[.pointer (some ⟨T, 0, none⟩), .slice A xs.length c] w fun e w' => e = .returned (.tuple #[]) ∧ Told F w T (s.feed (toB xs)) w' := by
  by_cases hn : 0 < xs.length
  · obtain ⟨ad, rfl, hcell⟩ := int_cell hC hw hn
    have X := feed_ta h.ta hk (toB xs) (by rw [toB_len]; exact hM) (hT.below h.bl) (h.outT hT) (A := some ad) (c := c) (ad := ad) (fun _ => ⟨rfl, fun hF => by
      have h1 := Lib.lt_of_cell (hcell 0 (by rw [toB_len]; exact hn))
      rw [add_block] at h1
      have := h.own _ hF
      omega, by
      have h1 := Lib.lt_of_cell (hcell 0 (by rw [toB_len]; exact hn))
      rw [add_block] at h1
      have := h.bl.size
      omega⟩) (fun i hi => cell_move (hcell i hi) (h.bl.block _ (Lib.lt_of_cell (hcell i hi))))
    rw [toB_len] at X
    exact X
  · have h0 : xs = [] := List.eq_nil_of_length_eq_zero (by omega)
    subst h0
    exact feed_ta h.ta hk (toB []) hM (hT.below h.bl) (h.outT hT) (A := A) (c := c) (ad := ⟨0, 0, none⟩) (fun hp => absurd hp (Nat.lt_irrefl 0)) (fun i hi => absurd hi (Nat.not_lt_zero i))
end Go.Proofs.YtgifpkjcggnhgaaGreatDoorL

