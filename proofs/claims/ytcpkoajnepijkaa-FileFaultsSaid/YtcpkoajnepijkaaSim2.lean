/- The plain model: lists. No conditions. -/
import Derived.Test.YtcpkoajnepijkaaSim1
namespace Go.Proofs.Ytcpkoajnepijkaa
set_option linter.unusedVariables false
set_option linter.unusedSimpArgs false
open Go.RowKit Go.Proofs.YtcpkoajnepijkaaL

theorem toList_inj {a b : ByteArray} (h : a.toList = b.toList) : a = b := by
  have := toList_eq_iff a b
  rw [h] at this
  simpa using this
theorem ltN_irr (s : ByteArray) : ltN s s = false := by simp [ltN, List.lt_irrefl]
theorem ltN_trans {a b c : ByteArray} (h1 : ltN a b = true) (h2 : ltN b c = true) : ltN a c = true := by
  simp only [ltN, decide_eq_true_eq] at *
  exact List.lt_trans h1 h2
theorem ltN_total {a b : ByteArray} (h : ltN a b = false) (hne : a ≠ b) : ltN b a = true := by
  simp only [ltN, decide_eq_true_eq, decide_eq_false_iff_not] at *
  have hle : b.toList ≤ a.toList := List.not_lt.1 h
  by_cases h2 : b.toList < a.toList
  · exact h2
  · exact absurd (toList_inj (List.le_antisymm (List.not_lt.1 h2) hle)) hne
theorem ltN_ne {a b : ByteArray} (h : ltN a b = true) : a ≠ b := fun e => by rw [e, ltN_irr] at h; cases h

/-- Rising by name. -/
def SortedP (l : List PF) : Prop := l.Pairwise fun x y => ltN x.name y.name = true

theorem findP_some {s : ByteArray} {f : PF} : ∀ {l : List PF}, findP s l = some f → f ∈ l ∧ f.name = s
  | [], h => by cases h
  | x :: l, h => by
    by_cases hx : x.name = s
    · rw [findP, if_pos hx] at h
      injection h with h
      subst h
      exact ⟨List.mem_cons_self, hx⟩
    · rw [findP, if_neg hx] at h
      exact ⟨List.mem_cons_of_mem _ (findP_some h).1, (findP_some h).2⟩
theorem findP_none {s : ByteArray} : ∀ {l : List PF}, findP s l = none → ∀ f ∈ l, f.name ≠ s
  | [], _, f, hf => by cases hf
  | x :: l, h, f, hf => by
    by_cases hx : x.name = s
    · rw [findP, if_pos hx] at h; cases h
    · rw [findP, if_neg hx] at h
      rcases List.mem_cons.1 hf with rfl | hf
      · exact hx
      · exact findP_none h f hf
theorem sortedP_uniq {l : List PF} (h : SortedP l) : ∀ x ∈ l, ∀ y ∈ l, x.name = y.name → x = y := by
  induction l with
  | nil => intro x hx; cases hx
  | cons a l ih =>
    have h' := List.pairwise_cons.1 h
    intro x hx y hy e
    rcases List.mem_cons.1 hx with hx1 | hx1
    · rcases List.mem_cons.1 hy with hy1 | hy1
      · rw [hx1, hy1]
      · exact absurd (hx1 ▸ e) (ltN_ne (h'.1 y hy1))
    · rcases List.mem_cons.1 hy with hy1 | hy1
      · exact absurd (hy1 ▸ e.symm) (ltN_ne (h'.1 x hx1))
      · exact ih h'.2 x hx1 y hy1 e
theorem findP_of {l : List PF} (h : SortedP l) {f : PF} (hf : f ∈ l) : findP f.name l = some f := by
  cases hx : findP f.name l with
  | none => exact absurd rfl (findP_none hx f hf)
  | some x => exact congrArg some (sortedP_uniq h x (findP_some hx).1 f hf (findP_some hx).2)

theorem mem_withoutP {s : ByteArray} {l : List PF} {x : PF} : x ∈ withoutP s l ↔ x ∈ l ∧ x.name ≠ s := by
  simp [withoutP]
theorem sorted_withoutP {s : ByteArray} {l : List PF} (h : SortedP l) : SortedP (withoutP s l) := List.Pairwise.filter _ h
theorem mem_insP {f x : PF} : ∀ {l : List PF}, x ∈ insP f l ↔ x = f ∨ x ∈ l
  | [] => by simp [insP]
  | y :: l => by
    unfold insP
    split
    · simp
    · rw [List.mem_cons, mem_insP, List.mem_cons]
      constructor
      · rintro (h | h | h)
        · exact .inr (.inl h)
        · exact .inl h
        · exact .inr (.inr h)
      · rintro (h | h | h)
        · exact .inr (.inl h)
        · exact .inl h
        · exact .inr (.inr h)
theorem length_insP (f : PF) : ∀ l : List PF, (insP f l).length = l.length + 1
  | [] => rfl
  | y :: l => by
    unfold insP
    split
    · simp
    · simp [length_insP f l]
theorem sorted_insP {f : PF} : ∀ {l : List PF}, SortedP l → (∀ x ∈ l, x.name ≠ f.name) → SortedP (insP f l)
  | [], _, _ => List.pairwise_singleton _ _
  | y :: l, h, hn => by
    have h' := List.pairwise_cons.1 h
    unfold insP
    by_cases hy : ltN f.name y.name = true
    · rw [if_pos hy]
      refine List.pairwise_cons.2 ⟨fun z hz => ?_, h⟩
      rcases List.mem_cons.1 hz with rfl | hz
      · exact hy
      · exact ltN_trans hy (h'.1 z hz)
    · rw [if_neg hy]
      have hyf : ltN y.name f.name = true := ltN_total (by simpa using hy) (fun e => hn y List.mem_cons_self e.symm)
      refine List.pairwise_cons.2 ⟨fun z hz => ?_, sorted_insP h'.2 (fun x hx => hn x (List.mem_cons_of_mem _ hx))⟩
      rcases mem_insP.1 hz with rfl | hz
      · exact hyf
      · exact h'.1 z hz
theorem mem_withP {f x : PF} {l : List PF} : x ∈ withP f l ↔ x = f ∨ (x ∈ l ∧ x.name ≠ f.name) := by
  unfold withP
  rw [mem_insP, mem_withoutP]
theorem sorted_withP {f : PF} {l : List PF} (h : SortedP l) : SortedP (withP f l) := sorted_insP (sorted_withoutP h) (fun x hx => (mem_withoutP.1 hx).2)
theorem withoutP_none {s : ByteArray} {l : List PF} (h : findP s l = none) : withoutP s l = l := by
  refine List.filter_eq_self.2 (fun x hx => ?_)
  simp [findP_none h x hx]
theorem length_withoutP {s : ByteArray} {f : PF} : ∀ {l : List PF}, SortedP l → findP s l = some f → (withoutP s l).length + 1 = l.length
  | [], _, h => by cases h
  | y :: l, hs, h => by
    have h' := List.pairwise_cons.1 hs
    by_cases hy : y.name = s
    · have : withoutP s l = l := by
        refine List.filter_eq_self.2 (fun x hx => ?_)
        have := ltN_ne (h'.1 x hx)
        have h3 : ¬ x.name = s := fun e => this (hy.trans e.symm)
        simp [h3]
      unfold withoutP
      rw [List.filter_cons_of_neg (by simp [hy])]
      show (withoutP s l).length + 1 = _
      rw [this]
      rfl
    · rw [findP, if_neg hy] at h
      have := length_withoutP h'.2 h
      unfold withoutP
      rw [List.filter_cons_of_pos (by simp [hy])]
      simp only [List.length_cons]
      unfold withoutP at this
      omega

theorem length_put {β : Type} {s : ByteArray} {v : β} : ∀ {l : List (ByteArray × β)}, (put s v l).length = if (fnd s l).isSome = true then l.length else l.length + 1
  | [] => by simp [put, fnd]
  | p :: l => by
    by_cases hp : p.1 = s
    · simp [put, fnd, hp]
    · simp only [put, fnd, hp, if_false, List.length_cons, length_put]
      split <;> rfl
theorem length_drop {β : Type} {s : ByteArray} : ∀ {l : List (ByteArray × β)}, (fnd s l).isSome = true → (drop_ s l).length + 1 = l.length
  | [], h => by simp [fnd] at h
  | p :: l, h => by
    by_cases hp : p.1 = s
    · simp [drop_, hp]
    · simp only [fnd, hp, if_false] at h
      simp only [drop_, hp, if_false, List.length_cons, length_drop h]
theorem mem_put {β : Type} {s : ByteArray} {v : β} {p : ByteArray × β} : ∀ {l : List (ByteArray × β)}, (l.map (·.1)).Nodup → (p ∈ put s v l ↔ p = (s, v) ∨ (p ∈ l ∧ p.1 ≠ s))
  | [], _ => by simp [put]
  | q :: l, hn => by
    rw [List.map_cons, List.nodup_cons] at hn
    by_cases hq : q.1 = s
    · simp only [put, hq, if_true, List.mem_cons]
      constructor
      · rintro (h | h)
        · exact .inl h
        · exact .inr ⟨.inr h, fun e => hn.1 (by rw [hq, ← e]; exact List.mem_map.2 ⟨p, h, rfl⟩)⟩
      · rintro (h | ⟨h | h, h2⟩)
        · exact .inl h
        · exact absurd (h ▸ hq) h2
        · exact .inr h
    · simp only [put, hq, if_false, List.mem_cons, mem_put hn.2]
      constructor
      · rintro (h | h | h)
        · exact .inr ⟨.inl h, h ▸ hq⟩
        · exact .inl h
        · exact .inr ⟨.inr h.1, h.2⟩
      · rintro (h | ⟨h | h, h2⟩)
        · exact .inr (.inl h)
        · exact .inl h
        · exact .inr (.inr ⟨h, h2⟩)
theorem mem_drop {β : Type} {s : ByteArray} {p : ByteArray × β} : ∀ {l : List (ByteArray × β)}, (l.map (·.1)).Nodup → (p ∈ drop_ s l ↔ p ∈ l ∧ p.1 ≠ s)
  | [], _ => by simp [drop_]
  | q :: l, hn => by
    rw [List.map_cons, List.nodup_cons] at hn
    by_cases hq : q.1 = s
    · simp only [drop_, hq, if_true, List.mem_cons]
      constructor
      · intro h
        exact ⟨.inr h, fun e => hn.1 (by rw [hq, ← e]; exact List.mem_map.2 ⟨p, h, rfl⟩)⟩
      · rintro ⟨h | h, h2⟩
        · exact absurd (h ▸ hq) h2
        · exact h
    · simp only [drop_, hq, if_false, List.mem_cons, mem_drop hn.2]
      constructor
      · rintro (h | h)
        · exact ⟨.inl h, h ▸ hq⟩
        · exact ⟨.inr h.1, h.2⟩
      · rintro ⟨h | h, h2⟩
        · exact .inl h
        · exact .inr ⟨h, h2⟩
theorem nodup_put {β : Type} {s : ByteArray} {v : β} : ∀ {l : List (ByteArray × β)}, (l.map (·.1)).Nodup → ((put s v l).map (·.1)).Nodup
  | [], _ => by simp [put]
  | q :: l, hn => by
    have hn' := hn
    rw [List.map_cons, List.nodup_cons] at hn
    by_cases hq : q.1 = s
    · simp only [put, hq, if_true, List.map_cons]
      rw [List.map_cons, hq] at hn'
      exact hn'
    · simp only [put, hq, if_false, List.map_cons]
      refine List.nodup_cons.2 ⟨fun h => ?_, nodup_put hn.2⟩
      obtain ⟨p, hp, e⟩ := List.mem_map.1 h
      rcases (mem_put hn.2).1 hp with rfl | ⟨hp, _⟩
      · exact hq e.symm
      · exact hn.1 (e ▸ List.mem_map.2 ⟨p, hp, rfl⟩)
theorem nodup_drop {β : Type} {s : ByteArray} {l : List (ByteArray × β)} (hn : (l.map (·.1)).Nodup) : ((drop_ s l).map (·.1)).Nodup := by
  induction l with
  | nil => simp [drop_]
  | cons q l ih =>
    rw [List.map_cons, List.nodup_cons] at hn
    by_cases hq : q.1 = s
    · simp only [drop_, hq, if_true]
      exact hn.2
    · simp only [drop_, hq, if_false, List.map_cons]
      refine List.nodup_cons.2 ⟨fun h => ?_, ih hn.2⟩
      obtain ⟨p, hp, e⟩ := List.mem_map.1 h
      exact hn.1 (e ▸ List.mem_map.2 ⟨p, ((mem_drop hn.2).1 hp).1, rfl⟩)

/-- How a name is found here and there. -/
theorem Rel.find {st : FS} {S : PS} {nos : List Nat} (h : Rel st S nos) (s : ByteArray) :
    (findP s S.l = none ∧ fnd s st.files = none) ∨ ∃ f g, findP s S.l = some f ∧ f ∈ S.l ∧ f.name = s ∧ fnd s st.files = some g ∧ (s, g) ∈ st.files ∧ st.sb g = f.b ∧ st.sz g = (bytesP f).length ∧ f.row = rowOf st.row nos g ∧ bytesP f = allL st g := by
  cases hf : findP s S.l with
  | none =>
    left
    refine ⟨rfl, ?_⟩
    cases hg : fnd s st.files with
    | none => rfl
    | some g =>
      obtain ⟨f, h1, h2⟩ := h.bwd _ (fnd_mem hg)
      exact absurd h2 (findP_none hf f h1)
  | some f =>
    right
    obtain ⟨h1, h2⟩ := findP_some hf
    obtain ⟨g, h3, h4, h5, h6⟩ := h.fwd f h1
    rw [h2] at h3
    exact ⟨f, g, rfl, h1, h2, fnd_of_mem h.nd h3, h3, h4, h5, h6, bytesP_row h.nlen h4 h6⟩

theorem Rel.read {st : FS} {S : PS} {nos : List Nat} (h : Rel st S nos) (s : ByteArray) : readL st s = readP S s := by
  unfold readL readP
  rw [h.down]
  split
  · rfl
  · rcases h.find s with ⟨h1, h2⟩ | ⟨f, g, h1, _, _, h2, _, _, _, _, h3⟩
    · rw [h1, h2]
    · rw [h1, h2]
      simp only [h3]

end Go.Proofs.Ytcpkoajnepijkaa
