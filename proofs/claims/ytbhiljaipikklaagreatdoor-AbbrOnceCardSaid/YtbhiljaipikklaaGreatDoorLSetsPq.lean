/- Parts of the proof of the law that the last file states; declarations that nothing mentions are left out by a program. No conditions. -/
import Derived.Test.YtbhiljaipikklaaGreatDoorLScriptq
import Derived.Test.YtbhiljaipikklaaGreatDoorLDropsPq
set_option linter.unusedVariables false
set_option linter.unusedSimpArgs false
namespace Go.Proofs.YtbhiljaipikklaaGreatDoorL
open Go Go.RowKit Go.Proofs.YtbhiljaipikklaaGreatDoor.K
theorem fnd_of_mem {s t : ByteArray} : ∀ {l : List (ByteArray × ByteArray)}, (l.map (·.1)).Nodup → (s, t) ∈ l → fnd s l = some t
  | p :: l, hn, h => by
    rw [List.map_cons, List.nodup_cons] at hn
    unfold fnd
    rcases List.mem_cons.1 h with rfl | h
    · simp
    · by_cases e : p.1 = s
      · exfalso
        exact hn.1 (List.mem_map.2 ⟨(s, t), h, e.symm⟩)
      · rw [if_neg e]
        exact fnd_of_mem hn.2 h
theorem fnd_perm {l l' : List (ByteArray × ByteArray)} (hp : l.Perm l') (hn : (l.map (·.1)).Nodup) (s : ByteArray) : fnd s l = fnd s l' := by
  have hn' : (l'.map (·.1)).Nodup := (hp.map _).nodup_iff.1 hn
  cases hf : fnd s l with
  | none =>
    have h1 := fnd_none.1 hf
    exact (fnd_none.2 (fun h => h1 ((hp.map _).mem_iff.2 h))).symm
  | some t =>
    obtain ⟨p, hm, e1, e2⟩ := fnd_mem hf
    have : p = (s, t) := Prod.ext e1 e2
    subst this
    exact (fnd_of_mem hn' (hp.subset hm)).symm
theorem getP_perm {l l' : List (ByteArray × ByteArray)} (hp : l.Perm l') (hn : (l.map (·.1)).Nodup) (s : ByteArray) : getP s l = getP s l' := by
  unfold getP
  rw [fnd_perm hp hn s]
end Go.Proofs.YtbhiljaipikklaaGreatDoorL

