/- Flags that came in, cell by cell. No conditions. -/
import Derived.Test.YtcpkoajnepijkaaFileA
namespace Go.Proofs.Ytcpkoajnepijkaa
set_option linter.unusedVariables false
set_option linter.unusedSimpArgs false
open Go.RowKit Go.Proofs.YtcpkoajnepijkaaL Go.Proofs.YtcpkoajnepijkaaW.PrintWords

theorem keep_cells {w : World} {A : Option Addr} {xs : List Bool} (h : Kd.bool.C w A xs.length xs) (h0 : 0 < xs.length) : ∃ G o, A = some ⟨G, o, none⟩ ∧ G < w.heap.size ∧ ∀ i (hi : i < xs.length), w.cell? ⟨G, o + i, none⟩ = some (.bool xs[i]) := by
  obtain ⟨ad, e, hc⟩ := h.2.2 h0
  have hcell : ∀ i (hi : i < xs.length), w.cell? (ad.add i) = some (.bool xs[i]) := fun i hi => by
    obtain ⟨c, _, hK, hu⟩ := hc i _ (List.getElem?_eq_getElem hi)
    have hK' : c = [.bool xs[i]] := hK
    have := hu 0 (.bool xs[i]) (by rw [hK']; rfl)
    have e1 : i * Kd.bool.sz + 0 = i := by show i * 1 + 0 = i; omega
    rwa [e1] at this
  obtain ⟨G, o, sp⟩ := ad
  have hsp : sp = none := by
    have := hcell 0 h0
    cases sp with
    | none => rfl
    | some s =>
      unfold World.cell? at this
      split at this
      · simp [Addr.add] at this
      · cases this
  subst hsp
  exact ⟨G, o, e, World.block_lt_of_cell? w _ (hcell 0 h0), fun i hi => by
    have := hcell i hi
    simp only [Addr.add] at this
    split at this
    · rename_i h; have : i = 0 := by simpa using h
      subst this; simpa using ‹_›
    · exact this⟩

end Go.Proofs.Ytcpkoajnepijkaa
