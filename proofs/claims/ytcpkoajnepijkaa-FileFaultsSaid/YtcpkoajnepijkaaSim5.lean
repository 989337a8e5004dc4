/- The plain model: the calls. No conditions. -/
import Derived.Test.YtcpkoajnepijkaaSim4
namespace Go.Proofs.Ytcpkoajnepijkaa
set_option linter.unusedVariables false
set_option linter.unusedSimpArgs false
open Go.RowKit Go.Proofs.YtcpkoajnepijkaaL

section
variable {st : FS} {S : PS} {nos : List Nat}
theorem Rel.begin_ (h : Rel st S nos) (s : ByteArray) (may : Bool) :
    (∃ n st' S', begunL st s may = (none, n, st') ∧ beginP S s may = (none, n, S') ∧ Rel st' S' nos) ∨
    ∃ f g, begunL st s may = (some g, 0, opS st) ∧ beginP S s may = (some f, 0, countP S) ∧ f ∈ S.l ∧ f.name = s ∧ fnd s st.files = some g ∧ (s, g) ∈ st.files ∧ st.sz g = (bytesP f).length ∧ bytesP f = allL st g := by
  unfold begunL beginP
  rw [h.down]
  by_cases hd : st.down = true
  · exact .inl ⟨_, _, _, by rw [if_pos hd], by rw [if_pos hd], h⟩
  · rw [if_neg hd, if_neg hd]
    rcases h.find s with ⟨h1, h2⟩ | ⟨f, g, h1, h1m, h1n, h2, h2m, _, h3, _, h4⟩
    · rw [h1, h2]
      exact .inl ⟨_, _, _, rfl, rfl, h⟩
    · rw [h1, h2]
      simp only
      cases may with
      | false => exact .inl ⟨_, _, _, rfl, rfl, h⟩
      | true =>
        rw [h.fuse]
        cases hf : (st.fuse == 0) with
        | true => exact .inl ⟨100, _, _, by simp, by simp, h.count⟩
        | false => exact .inr ⟨f, g, by simp, by simp, h1m, h1n, rfl, h2m, h3, h4⟩

theorem Rel.sync (h : Rel st S nos) (s : ByteArray) : (syncL st s).1 = (syncP S s).1 ∧ ∃ nos', Rel (syncL st s).2 (syncP S s).2 nos' := by
  unfold syncL syncP
  rcases h.begin_ s true with ⟨n, st', S', h1, h2, h3⟩ | ⟨f, g, h1, h2, hf, hn, hg, hgm, hsz, hb⟩
  · rw [h1, h2]
    exact ⟨rfl, _, h3⟩
  · rw [h1, h2]
    refine ⟨rfl, nosBut st.row nos g, ?_⟩
    subst hn
    have := h.count.set hf hgm (b := bytesP f)
    rw [← hsz, hb] at this
    simp only
    rw [hb]
    exact this

theorem Rel.cut (h : Rel st S nos) (s : ByteArray) (k : Int) : (cutL st s k).1 = (cutP S s k).1 ∧ ∃ nos', Rel (cutL st s k).2 (cutP S s k).2 nos' := by
  unfold cutL cutP
  rcases h.begin_ s true with ⟨n, st', S', h1, h2, h3⟩ | ⟨f, g, h1, h2, hf, hn, hg, hgm, hsz, hb⟩
  · rw [h1, h2]
    exact ⟨rfl, _, h3⟩
  · rw [h1, h2]
    refine ⟨rfl, nosBut st.row nos g, ?_⟩
    subst hn
    have := h.count.set hf hgm (b := (bytesP f).take (cutN k (bytesP f).length))
    rw [List.length_take, Nat.min_eq_left (cutN_le _ _), hb] at this
    simp only
    rw [hb]
    exact this

theorem Rel.remove_ (h : Rel st S nos) (s : ByteArray) : (removeL st s).1 = (removeP S s).1 ∧ ∃ nos', Rel (removeL st s).2 (removeP S s).2 nos' := by
  unfold removeL removeP
  rcases h.begin_ s true with ⟨n, st', S', h1, h2, h3⟩ | ⟨f, g, h1, h2, hf, hn, hg, hgm, hsz, hb⟩
  · rw [h1, h2]
    exact ⟨rfl, _, h3⟩
  · rw [h1, h2]
    subst hn
    exact ⟨rfl, nosBut st.row nos g, h.count.remove hf hgm⟩

theorem withoutP_comm (s t : ByteArray) (l : List PF) : withoutP s (withoutP t l) = withoutP t (withoutP s l) := by
  unfold withoutP
  rw [List.filter_filter, List.filter_filter]
  exact List.filter_congr (fun x _ => Bool.and_comm _ _)
theorem withoutP_idem (s : ByteArray) (l : List PF) : withoutP s (withoutP s l) = withoutP s l := by
  unfold withoutP
  rw [List.filter_filter]
  exact List.filter_congr (fun x _ => Bool.and_self _)
theorem withoutP_ins {f : PF} : ∀ l : List PF, withoutP f.name (insP f l) = withoutP f.name l
  | [] => by simp [insP, withoutP]
  | y :: l => by
    unfold insP
    split
    · unfold withoutP
      rw [List.filter_cons_of_neg (by simp)]
    · have ih := withoutP_ins (f := f) l
      unfold withoutP at ih ⊢
      by_cases hy : y.name = f.name
      · rw [List.filter_cons_of_neg (by simp [hy]), List.filter_cons_of_neg (by simp [hy]), ih]
      · rw [List.filter_cons_of_pos (by simp [hy]), List.filter_cons_of_pos (by simp [hy]), ih]
theorem withP_withP {f f' : PF} (e : f'.name = f.name) (l : List PF) : withP f' (withP f l) = withP f' l := by
  unfold withP
  rw [e, withoutP_ins, withoutP_idem]

theorem ins_without {f : PF} : ∀ {l : List PF}, SortedP l → f ∈ l → insP f (withoutP f.name l) = l
  | [], _, h => by cases h
  | y :: l, hs, h => by
    have h' := List.pairwise_cons.1 hs
    by_cases hy : y.name = f.name
    · have hyf : y = f := sortedP_uniq hs y List.mem_cons_self f h hy
      subst hyf
      have e : withoutP y.name l = l := List.filter_eq_self.2 (fun x hx => by
        have := ltN_ne (h'.1 x hx)
        have h3 : ¬ x.name = y.name := fun e => this e.symm
        simp [h3])
      have e2 : withoutP y.name (y :: l) = l := by
        show List.filter _ (y :: l) = l
        rw [List.filter_cons_of_neg (by simp)]
        exact e
      rw [e2]
      cases l with
      | nil => rfl
      | cons z l => rw [insP, if_pos (h'.1 z List.mem_cons_self)]
    · have hf : f ∈ l := by
        rcases List.mem_cons.1 h with h | h
        · exact absurd (by rw [h]) hy
        · exact h
      have e2 : withoutP f.name (y :: l) = y :: withoutP f.name l := by
        show List.filter _ (y :: l) = _
        rw [List.filter_cons_of_pos (by simp [hy])]
        rfl
      have hyf := h'.1 f hf
      have hn : ¬ ltN f.name y.name = true := fun e => by
        have := ltN_trans hyf e
        rw [ltN_irr] at this
        cases this
      rw [e2, insP, if_neg hn, ins_without h'.2 hf]

/-- Rename to the name that it has; Rename to another. -/
theorem Rel.rename (h : Rel st S nos) (s t : ByteArray) : (renameL st s t).1 = (renameP S s t).1 ∧ ∃ nos', Rel (renameL st s t).2 (renameP S s t).2 nos' := by
  unfold renameL renameP
  rcases h.begin_ s (namedB t) with ⟨n, st', S', h1, h2, h3⟩ | ⟨f, g, h1, h2, hf, hn, hg, hgm, hsz, hb⟩
  · rw [h1, h2]
    exact ⟨rfl, _, h3⟩
  · rw [h1, h2]
    subst hn
    by_cases hst : f.name = t
    · subst hst
      simp only [if_true]
      refine ⟨trivial, nos, ?_⟩
      have e : withP { f with name := f.name } (withoutP f.name (countP S).l) = (countP S).l := by
        show insP f (withoutP f.name (withoutP f.name S.l)) = S.l
        rw [withoutP_idem]
        exact ins_without h.sorted hf
      rw [e]
      exact h.count
    · simp only [hst, if_false]
      rcases h.find t with ⟨t1, t2⟩ | ⟨f2, old, t1, t1m, t1n, t2, t2m, _⟩
      · refine ⟨trivial, nos, ?_⟩
        have := h.count.rename1 hf hgm t1
        unfold renameS
        rw [show (opS st).files = st.files from rfl, t2]
        exact this
      · refine ⟨trivial, nosBut st.row nos old, ?_⟩
        subst t1n
        have hr := h.count.remove t1m t2m
        have hd := nodup_drop (s := f2.name) h.nd
        have ht' : findP f2.name (withoutP f2.name S.l) = none := by
          cases hx : findP f2.name (withoutP f2.name S.l) with
          | none => rfl
          | some x => exact absurd (findP_some hx).2 (mem_withoutP.1 (findP_some hx).1).2
        have h2 := hr.rename1 (f := f) (g := g) (t := f2.name) (mem_withoutP.2 ⟨hf, hst⟩) ((mem_drop h.nd).2 ⟨hgm, hst⟩) ht'
        have h3 := h2.files (files := put f2.name g (drop_ f.name st.files)) (fun p => ?_) (nodup_put (nodup_drop h.nd)) ?_
        · unfold renameS
          rw [show (opS st).files = st.files from rfl, t2]
          have e : withP { f with name := f2.name } (withoutP f.name (withoutP f2.name S.l)) = withP { f with name := f2.name } (withoutP f.name S.l) := by
            unfold withP
            simp only
            rw [withoutP_comm f.name f2.name, withoutP_idem]
          have h4 : Rel _ { countP S with l := withP { f with name := f2.name } (withoutP f.name (withoutP f2.name S.l)) } (nosBut st.row nos old) := h3
          rw [e] at h4
          exact h4
        · show p ∈ put f2.name g (drop_ f.name st.files) ↔ p ∈ put f2.name g (drop_ f.name (drop_ f2.name st.files))
          rw [mem_put (nodup_drop h.nd), mem_put (nodup_drop hd), mem_drop h.nd, mem_drop hd, mem_drop h.nd]
          constructor
          · rintro (a | ⟨⟨a, b⟩, c⟩)
            · exact .inl a
            · exact .inr ⟨⟨⟨a, c⟩, b⟩, c⟩
          · rintro (a | ⟨⟨⟨a, c⟩, b⟩, _⟩)
            · exact .inl a
            · exact .inr ⟨⟨a, b⟩, c⟩
        · show (put f2.name g (drop_ f.name st.files)).length = (put f2.name g (drop_ f.name (drop_ f2.name st.files))).length
          have hft := fnd_of_mem (nodup_drop (s := f.name) h.nd) ((mem_drop h.nd).2 ⟨t2m, fun e => hst e.symm⟩)
          have hfn : fnd f2.name (drop_ f.name (drop_ f2.name st.files)) = none := by
            cases hx : fnd f2.name (drop_ f.name (drop_ f2.name st.files)) with
            | none => rfl
            | some x => exact absurd rfl ((mem_drop h.nd).1 ((mem_drop hd).1 (fnd_mem hx)).1).2
          rw [length_put, length_put, hft, hfn]
          have l1 := length_drop (s := f.name) (l := st.files) (by rw [hg]; rfl)
          have l2 := length_drop (s := f2.name) (l := st.files) (by rw [t2]; rfl)
          have l3 := length_drop (s := f.name) (l := drop_ f2.name st.files) (by rw [fnd_of_mem hd ((mem_drop h.nd).2 ⟨hgm, hst⟩)]; rfl)
          simp
          omega
end

end Go.Proofs.Ytcpkoajnepijkaa
