/- The names, in order. No conditions. -/
import Derived.Test.YtcpkoajnepijkaaSim10
namespace Go.Proofs.Ytcpkoajnepijkaa
set_option linter.unusedVariables false
set_option linter.unusedSimpArgs false
open Go.RowKit Go.Proofs.YtcpkoajnepijkaaL

theorem eq_of_sorted_perm {l l' : List (List UInt8)} (hp : l.Perm l') (h : l.Pairwise (· ≤ ·)) (h' : l'.Pairwise (· ≤ ·)) : l = l' := by
  induction l generalizing l' with
  | nil => exact hp.nil_eq
  | cons a l ih =>
    cases l' with
    | nil => exact absurd hp.length_eq (by simp)
    | cons b l' =>
      have h1 := List.pairwise_cons.1 h
      have h2 := List.pairwise_cons.1 h'
      have hab : a = b := by
        have ha : a ∈ b :: l' := hp.subset List.mem_cons_self
        have hb : b ∈ a :: l := hp.symm.subset List.mem_cons_self
        rcases List.mem_cons.1 ha with e | ha
        · exact e
        · rcases List.mem_cons.1 hb with e | hb
          · exact e.symm
          · exact List.le_antisymm (h1.1 b hb) (h2.1 a ha)
      subst hab
      rw [ih (List.Perm.cons_inv hp) h1.2 h2.2]

theorem Rel.names {st : FS} {S : PS} {nos : List Nat} (h : Rel st S nos) : (st.files.map (·.1.toList)).Perm (S.l.map (·.name.toList)) := by
  have h1 : (S.l.map (·.name)).Nodup := List.pairwise_map.2 (h.sorted.imp (fun hlt => ltN_ne hlt))
  have h2 : (st.files.map (·.1)).Perm (S.l.map (·.name)) := by
    refine (List.perm_ext_iff_of_nodup h.nd h1).2 (fun s => ?_)
    constructor
    · intro hs
      obtain ⟨p, hp, rfl⟩ := List.mem_map.1 hs
      obtain ⟨f, hf, e⟩ := h.bwd p hp
      exact List.mem_map.2 ⟨f, hf, e⟩
    · intro hs
      obtain ⟨f, hf, rfl⟩ := List.mem_map.1 hs
      obtain ⟨g, hg, _⟩ := h.fwd f hf
      exact List.mem_map.2 ⟨_, hg, rfl⟩
  have := h2.map ByteArray.toList
  simpa [List.map_map, Function.comp_def] using this
theorem Rel.namesSorted {st : FS} {S : PS} {nos : List Nat} (h : Rel st S nos) {ss : List (List UInt8)} (hs : ss.Perm (st.files.map (·.1.toList))) : ss.mergeSort (fun x y => decide (x ≤ y)) = S.l.map (·.name.toList) := by
  refine eq_of_sorted_perm ((List.mergeSort_perm ss _).trans (hs.trans h.names)) ?_ ?_
  · have := List.pairwise_mergeSort (le := fun x y : List UInt8 => decide (x ≤ y)) (fun a b c h1 h2 => by
      simp only [decide_eq_true_eq] at *
      exact List.le_trans h1 h2) (fun a b => by
      simp only [Bool.or_eq_true, decide_eq_true_eq]
      exact List.le_total a b) ss
    exact this.imp (fun h => by simpa using h)
  · refine List.pairwise_map.2 (h.sorted.imp (fun hlt => ?_))
    simp only [ltN, decide_eq_true_eq] at hlt
    exact List.le_of_lt hlt

end Go.Proofs.Ytcpkoajnepijkaa
