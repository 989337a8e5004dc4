/- Abbreviations: AbbrSets by the plain model. No conditions. -/
import Derived.Test.YtbhiljaipikklaaDoorLScript
import Derived.Test.YtbhiljaipikklaaDoorLDropsP
namespace Go.Proofs.YtbhiljaipikklaaDoorL
set_option linter.unusedVariables false
set_option linter.unusedSimpArgs false
open Go Go.RowKit Go.Proofs.YtbhiljaipikklaaDoor.K

/-- What a table holds behind Sets of names that are all unlike, and few. -/
def tabP (l : List S31) : List (ByteArray × ByteArray) := l.filterMap fun o => if namedS o.f1 = true ∧ (plainS o.f2).size ≤ 100 then some (o.f1, plainS o.f2) else none
theorem tabP_names {l : List S31} {s : ByteArray} (h : s ∈ (tabP l).map (·.1)) : s ∈ l.map (·.f1) := by
  obtain ⟨p, hp, rfl⟩ := List.mem_map.1 h
  obtain ⟨o, ho, e⟩ := List.mem_filterMap.1 hp
  split at e
  · injection e with e
    subst e
    exact List.mem_map.2 ⟨o, ho, rfl⟩
  · cases e
theorem tabP_length (l : List S31) : (tabP l).length ≤ l.length := List.length_filterMap_le _ _
theorem tabP_step {l : List S31} {o : S31} (hn : o.f1 ∉ l.map (·.f1)) (hl : l.length < 16) : (setP o.f1 o.f2 (tabP l)).2 = tabP (l ++ [o]) := by
  have hf : fnd o.f1 (tabP l) = none := fnd_none.2 (fun h => hn (tabP_names h))
  have hz := tabP_length l
  unfold setP
  split
  · rename_i h
    unfold tabP
    rw [List.filterMap_append]
    simp [h]
  split
  · rename_i h1 h2
    have h3 : ¬ (plainS o.f2).size ≤ 100 := by omega
    unfold tabP
    rw [List.filterMap_append]
    simp [h3]
  split
  · rename_i h
    omega
  · rename_i h1 h2 h3
    show put o.f1 (plainS o.f2) (tabP l) = _
    rw [put_fresh hf]
    unfold tabP
    rw [List.filterMap_append]
    have h4 : namedS o.f1 = true := by simpa using h1
    have h5 : (plainS o.f2).size ≤ 100 := by omega
    simp [h4, h5]
theorem fnd_of_mem {s t : ByteArray} : ∀ {l : List (ByteArray × ByteArray)}, (l.map (·.1)).Nodup → (s, t) ∈ l → fnd s l = some t
  | p :: l, hn, h => by
    rw [List.map_cons, List.nodup_cons] at hn
    unfold fnd
    rcases List.mem_cons.1 h with rfl | h
    · simp
    · by_cases e : p.1 = s
      · exfalso
        exact hn.1 (List.mem_map.2 ⟨(s, t), h, e.symm⟩)
      · rw [if_neg e]
        exact fnd_of_mem hn.2 h
theorem fnd_perm {l l' : List (ByteArray × ByteArray)} (hp : l.Perm l') (hn : (l.map (·.1)).Nodup) (s : ByteArray) : fnd s l = fnd s l' := by
  have hn' : (l'.map (·.1)).Nodup := (hp.map _).nodup_iff.1 hn
  cases hf : fnd s l with
  | none =>
    have h1 := fnd_none.1 hf
    exact (fnd_none.2 (fun h => h1 ((hp.map _).mem_iff.2 h))).symm
  | some t =>
    obtain ⟨p, hm, e1, e2⟩ := fnd_mem hf
    have : p = (s, t) := Prod.ext e1 e2
    subst this
    exact (fnd_of_mem hn' (hp.subset hm)).symm
theorem getP_perm {l l' : List (ByteArray × ByteArray)} (hp : l.Perm l') (hn : (l.map (·.1)).Nodup) (s : ByteArray) : getP s l = getP s l' := by
  unfold getP
  rw [fnd_perm hp hn s]
theorem namesP_perm {l l' : List (ByteArray × ByteArray)} (hp : l.Perm l') : namesP l = namesP l' := sortB_eq (hp.map _)
/-- Calls, the last ones first. -/
def turned (l : List S31) (k : Nat) : List S31 := l.drop k ++ l.take k
theorem turned_perm (l : List S31) (k : Nat) : (turned l k).Perm l := by
  unfold turned
  refine List.perm_append_comm.trans (List.Perm.of_eq ?_)
  exact List.take_append_drop k l
theorem turned_length (l : List S31) (k : Nat) : (turned l k).length = l.length := (turned_perm l k).length_eq
theorem tab_perm (l : List S31) (k : Nat) : (tabP l).Perm (tabP (turned l k)) := ((turned_perm l k).symm).filterMap _
theorem take_step {l : List S31} {j : Nat} (hj : j < l.length) : l.take (j + 1) = l.take j ++ [l[j]] := by
  rw [List.take_add_one, List.getElem?_eq_getElem hj]
  rfl
theorem take_fresh {l : List S31} (hn : (l.map (·.f1)).Nodup) {j : Nat} (hj : j < l.length) : l[j].f1 ∉ (l.take j).map (·.f1) := by
  intro h
  have h2 : ((l.take (j + 1)).map (·.f1)).Nodup := hn.sublist ((List.take_sublist _ _).map _)
  rw [take_step hj, List.map_append, List.nodup_append] at h2
  exact h2.2.2 _ h _ (by simp) rfl
theorem take_nodup {l : List S31} {o : S31} (hn : (l.map (·.f1)).Nodup) (h : o.f1 ∉ l.map (·.f1)) : ((l ++ [o]).map (·.f1)).Nodup := by
  rw [List.map_append, List.nodup_append]
  refine ⟨hn, by simp, fun a ha b hb e => ?_⟩
  have hb : b = o.f1 := by simpa using hb
  subst hb
  subst e
  exact h ha
/-- What has been seen. -/
def seenP (l : List S31) : List (ByteArray × Value) := l.map fun o => (o.f1, Value.int .i64 1)
theorem seen_fnd {l : List S31} {s : ByteArray} : (s ∈ l.map (·.f1) ∧ fnd s (seenP l) = some (.int .i64 1)) ∨ (s ∉ l.map (·.f1) ∧ fnd s (seenP l) = none) := by
  induction l with
  | nil => exact .inr ⟨by simp, rfl⟩
  | cons o l ih =>
    unfold seenP at ih ⊢
    rw [List.map_cons, List.map_cons]
    unfold fnd
    by_cases e : o.f1 = s
    · left
      simp [e]
    · simp only [e, if_false, List.mem_cons]
      have e2 : ¬ s = o.f1 := fun x => e x.symm
      simpa [e2] using ih
theorem seen_snoc (l : List S31) (o : S31) (h : o.f1 ∉ l.map (·.f1)) : put o.f1 (.int .i64 1) (seenP l) = seenP (l ++ [o]) := by
  rcases seen_fnd (l := l) (s := o.f1) with ⟨h1, _⟩ | ⟨_, h2⟩
  · exact absurd h1 h
  · rw [put_fresh h2]
    unfold seenP
    simp
end Go.Proofs.YtbhiljaipikklaaDoorL
