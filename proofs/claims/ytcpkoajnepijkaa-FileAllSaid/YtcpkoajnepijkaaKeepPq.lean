/- Parts of the proof of the law that the last file states; declarations that nothing mentions are left out by a program. No conditions. -/
import Derived.Test.YtcpkoajnepijkaaRefDq
set_option linter.unusedVariables false
set_option linter.unusedSimpArgs false
namespace Go.Proofs.Ytcpkoajnepijkaa
open Go.RowKit Go.Proofs.YtcpkoajnepijkaaL Go.Proofs.YtcpkoajnepijkaaW.PrintWords Go.Proofs.Ytcpkoajnepijkaa.Q
theorem insP_len (f : PF) : ∀ l : List PF, (insP f l).length = l.length + 1
  | [] => by simp [insP]
  | x :: l => by
    unfold insP
    split
    · rfl
    · simp [insP_len f l]
theorem withoutP_len (s : ByteArray) (l : List PF) : (withoutP s l).length ≤ l.length := List.length_filter_le _ _
theorem withP_len (f : PF) (l : List PF) : (withP f l).length ≤ l.length + 1 := by
  unfold withP
  rw [insP_len]
  have := withoutP_len f.name l
  omega
theorem doP_len (S : PS) (x : S34) : (doP S x).2.l.length ≤ S.l.length + 1 ∧ (doP S x).2.no ≤ S.no + 1 := by
  have hb : ∀ s may, ∀ r, beginP S s may = r → r.2.2.l = S.l ∧ r.2.2.no = S.no := by
    intro s may r hr
    unfold beginP at hr
    split at hr
    · subst hr; exact ⟨rfl, rfl⟩
    · split at hr
      · subst hr; exact ⟨rfl, rfl⟩
      · split at hr
        · subst hr; exact ⟨rfl, rfl⟩
        · split at hr
          · subst hr; exact ⟨rfl, rfl⟩
          · subst hr; exact ⟨rfl, rfl⟩
  unfold doP
  split
  · unfold writeP
    split
    · exact ⟨Nat.le_succ _, Nat.le_succ _⟩
    · split
      · exact ⟨Nat.le_succ _, Nat.le_succ _⟩
      · simp only
        split
        · exact ⟨Nat.le_succ _, Nat.le_succ _⟩
        · split
          · exact ⟨Nat.le_succ _, Nat.le_succ _⟩
          · exact ⟨withP_len _ _, Nat.le_refl _⟩
  · split
    · unfold syncP
      split
      · rename_i f n S' h
        have := hb _ _ _ h
        simp only at this ⊢
        rw [this.1, this.2]
        exact ⟨withP_len _ _, Nat.le_succ _⟩
      · rename_i n S' h
        have := hb _ _ _ h
        simp only at this ⊢
        rw [this.1, this.2]
        exact ⟨Nat.le_succ _, Nat.le_succ _⟩
    · split
      · unfold renameP
        split
        · rename_i f n S' h
          have := hb _ _ _ h
          simp only at this ⊢
          rw [this.1, this.2]
          exact ⟨Nat.le_trans (withP_len _ _) (Nat.succ_le_succ (withoutP_len _ _)), Nat.le_succ _⟩
        · rename_i n S' h
          have := hb _ _ _ h
          simp only at this ⊢
          rw [this.1, this.2]
          exact ⟨Nat.le_succ _, Nat.le_succ _⟩
      · split
        · unfold removeP
          split
          · rename_i f n S' h
            have := hb _ _ _ h
            simp only at this ⊢
            rw [this.1, this.2]
            exact ⟨Nat.le_trans (withoutP_len _ _) (Nat.le_succ _), Nat.le_succ _⟩
          · rename_i n S' h
            have := hb _ _ _ h
            simp only at this ⊢
            rw [this.1, this.2]
            exact ⟨Nat.le_succ _, Nat.le_succ _⟩
        · unfold cutP
          split
          · rename_i f n S' h
            have := hb _ _ _ h
            simp only at this ⊢
            rw [this.1, this.2]
            exact ⟨withP_len _ _, Nat.le_succ _⟩
          · rename_i n S' h
            have := hb _ _ _ h
            simp only at this ⊢
            rw [this.1, this.2]
            exact ⟨Nat.le_succ _, Nat.le_succ _⟩
theorem FSat.numP {base : Nat} {Lz : Nat → Prop} {w : World} {F : Nat} {fp : Nat → Prop} {S : PS} {k : Nat} (h : FSat base Lz w F fp S k) (hk : k ≤ 100000) (hn : S.no ≤ 1000000) : NumP S := by
  obtain ⟨st, nos, _, hr, hk2⟩ := h
  exact ⟨hn, by rw [hr.ops]; exact Nat.le_trans hk2.ops (by omega), by rw [hr.fuse]; exact hk2.fuse0, by rw [hr.fuse]; exact hk2.fuse1, by rw [hr.fault]; exact hk2.fault0, by rw [hr.fault]; exact hk2.fault1⟩
theorem rowOf_mem {row : List Wr} {nos : List Nat} {g : Nat} {p : PP} (h : p ∈ rowOf row nos g) : ∃ x ∈ row, p.at_ = x.at_ ∧ p.b = x.b := by
  unfold rowOf at h
  obtain ⟨y, hy, rfl⟩ := List.mem_map.1 h
  have := (List.mem_filter.1 hy).1
  exact ⟨y.1, (List.of_mem_zip this).1, rfl, rfl⟩
theorem FSat.boundP {base : Nat} {Lz : Nat → Prop} {w : World} {F : Nat} {fp : Nat → Prop} {S : PS} {k : Nat} (h : FSat base Lz w F fp S k) (hk : k ≤ 100000) (hl : S.l.length ≤ 1000) : BoundP S := by
  obtain ⟨st, nos, _, hr, hk2⟩ := h
  refine ⟨hl, fun f hf => ?_⟩
  obtain ⟨g, h1, h2, h3, h4⟩ := hr.fwd f hf
  refine ⟨by rw [← h2]; exact hk2.sb g, ?_, fun p hp => ?_⟩
  · rw [h4]
    unfold rowOf
    rw [List.length_map]
    refine Nat.le_trans (List.length_filter_le _ _) ?_
    rw [List.length_zip]
    exact Nat.le_trans (Nat.min_le_left _ _) (Nat.le_trans hk2.rowl hk)
  · rw [h4] at hp
    obtain ⟨x, hx, e1, e2⟩ := rowOf_mem hp
    rw [e1, e2]
    exact hk2.row x hx
end Go.Proofs.Ytcpkoajnepijkaa

