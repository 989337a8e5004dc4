/- Parts of the proof of the law that the last file states; declarations that nothing mentions are left out by a program. No conditions. -/
import Derived.Test.YtbhiljaipikklaaGreatDoorLKeepsPq
set_option linter.unusedVariables false
set_option linter.unusedSimpArgs false
namespace Go.Proofs.YtbhiljaipikklaaGreatDoorL
open Go Go.Lib Go.RowKit
theorem onG_mem (at_ : Int) (z : Nat) : ∀ l : List Nat, onG at_ z l = z ∨ onG at_ z l ∈ l
  | [] => .inl rfl
  | x :: l => by
    unfold onG
    split
    · exact .inr List.mem_cons_self
    · rcases onG_mem at_ z l with h | h
      · exact .inl h
      · exact .inr (List.mem_cons_of_mem _ h)
theorem onL_mem (s : ByteArray) (at_ : Int) : onL s at_ ∈ boundsL s := by
  unfold onL
  rcases onG_mem at_ s.size (boundsL s) with h | h
  · rw [h]; exact size_bound s
  · exact h
def RightB (c : ByteArray × Nat) : Prop := makeS c.1 = c.1 ∧ backL c.1 (c.2 : Int) = c.2
theorem grown_right (S : ByteArray) (at_ : Int) {l : List (ByteArray × ByteArray)} (hl : WellT l) : RightB (growP (makeS S) (backL (makeS S) at_) l).1 := by
  obtain ⟨rs, hg, e⟩ := makeS_enc S
  have h6 := makeS_six S
  have ha := backL_mem (makeS S) at_
  have hz := growP_600 (makeS S) (backL (makeS S) at_) l h6
  generalize backL (makeS S) at_ = a at ha hz ⊢
  rw [e] at h6 ha hz ⊢
  rcases grow_yes hg h6 ha hl with ⟨h1, h2⟩ | ⟨p0, q0, p1, q1, t, e0, e1, f1, hlt, hgp, hs, f0, h1, h2⟩
  · rw [h2]
    exact ⟨makeS_good hg h6, backL_at ha⟩
  · obtain ⟨ps, hps, ep⟩ := plainS_enc t
    rw [h1] at hz ⊢
    dsimp only at hz
    have ee : encS p0 ++ plainS t ++ encS q1 = encS (p0 ++ ps ++ q1) := by rw [encS_append, encS_append, ep]
    refine ⟨?_, backL_at (onL_mem _ _)⟩
    dsimp only
    rw [ee] at hz ⊢
    refine makeS_good (fun r hr => ?_) hz
    rcases List.mem_append.1 hr with hr | hr
    · rcases List.mem_append.1 hr with hr | hr
      · exact hg r (by rw [e0]; exact List.mem_append_left _ hr)
      · exact hps r hr
    · exact hg r (by rw [e1]; exact List.mem_append_right _ hr)
end Go.Proofs.YtbhiljaipikklaaGreatDoorL

