/- The plain model: another name, a write more, a new file. No conditions. -/
import Derived.Test.YtcpkoajnepijkaaSim3
namespace Go.Proofs.Ytcpkoajnepijkaa
set_option linter.unusedVariables false
set_option linter.unusedSimpArgs false
open Go.RowKit Go.Proofs.YtcpkoajnepijkaaL

section
variable {st : FS} {S : PS} {nos : List Nat}
/-- The order of the names in the map does not tell. -/
theorem Rel.files (h : Rel st S nos) {files : List (ByteArray × Nat)} (hm : ∀ p, p ∈ files ↔ p ∈ st.files) (hn : (files.map (·.1)).Nodup) (hl : files.length = st.files.length) : Rel { st with files } S nos := by
  refine ⟨h.sorted, hl.trans h.len, hn, fun p hp q hq => h.inj p ((hm p).1 hp) q ((hm q).1 hq), fun f hf => ?_, fun p hp => h.bwd p ((hm p).1 hp), fun x hx => ?_, h.nlen, h.ninc, h.nlt, h.ops, h.fuse, h.fault, h.down⟩
  · obtain ⟨g, h1, h2⟩ := h.fwd f hf
    exact ⟨g, (hm _).2 h1, h2⟩
  · obtain ⟨s, hs⟩ := h.rows x hx
    exact ⟨s, (hm _).2 hs⟩

theorem Rel.fndNone (h : Rel st S nos) {t : ByteArray} (ht : findP t S.l = none) : fnd t st.files = none := by
  rcases h.find t with ⟨_, h2⟩ | ⟨f, g, h1, _⟩
  · exact h2
  · rw [ht] at h1; cases h1
theorem fnd_none_mem {β : Type} {s : ByteArray} : ∀ {l : List (ByteArray × β)}, fnd s l = none → ∀ p ∈ l, p.1 ≠ s
  | [], _, p, hp => by cases hp
  | q :: l, h, p, hp => by
    by_cases hq : q.1 = s
    · simp [fnd, hq] at h
    · rw [fnd, if_neg hq] at h
      rcases List.mem_cons.1 hp with rfl | hp
      · exact hq
      · exact fnd_none_mem h p hp

/-- Another name, that no file has. -/
theorem Rel.rename1 (h : Rel st S nos) {f : PF} {g : Nat} (hf : f ∈ S.l) (hg : (f.name, g) ∈ st.files) {t : ByteArray} (ht : findP t S.l = none) :
    Rel { st with files := put t g (drop_ f.name st.files) } { S with l := withP { f with name := t } (withoutP f.name S.l) } nos := by
  have hfn := findP_of h.sorted hf
  have htn := fnd_none_mem (h.fndNone ht)
  have hnd := nodup_drop (s := f.name) h.nd
  have hft : fnd t (drop_ f.name st.files) = none := by
    cases hx : fnd t (drop_ f.name st.files) with
    | none => rfl
    | some k => exact absurd rfl (htn _ ((mem_drop h.nd).1 (fnd_mem hx)).1)
  have hpt : findP t (withoutP f.name S.l) = none := by
    cases hx : findP t (withoutP f.name S.l) with
    | none => rfl
    | some x =>
      obtain ⟨h1, h2⟩ := findP_some hx
      exact absurd h2 (findP_none ht x (mem_withoutP.1 h1).1)
  have hmem : ∀ p, p ∈ put t g (drop_ f.name st.files) ↔ p = (t, g) ∨ (p ∈ st.files ∧ p.1 ≠ f.name) := fun p => by
    rw [mem_put hnd, mem_drop h.nd]
    constructor
    · rintro (h | h)
      · exact .inl h
      · exact .inr h.1
    · rintro (h | h)
      · exact .inl h
      · exact .inr ⟨h, htn _ h.1⟩
  refine ⟨sorted_withP (sorted_withoutP h.sorted), ?_, nodup_put hnd, fun p hp q hq e => ?_, fun f0 h0 => ?_, fun p hp => ?_, fun x hx => ?_, h.nlen, h.ninc, h.nlt, h.ops, h.fuse, h.fault, h.down⟩
  · show (put t g (drop_ f.name st.files)).length = (withP { f with name := t } (withoutP f.name S.l)).length
    rw [length_put, hft, withP, length_insP, withoutP_none hpt]
    have h1 := length_withoutP h.sorted hfn
    have h2 := length_drop (s := f.name) (l := st.files) (by rw [fnd_of_mem h.nd hg]; rfl)
    have h3 := h.len
    simp
    omega
  · rcases (hmem p).1 hp with rfl | ⟨hp1, hp2⟩
    · rcases (hmem q).1 hq with rfl | ⟨hq1, hq2⟩
      · rfl
      · exact absurd (congrArg Prod.fst (h.inj q hq1 _ hg e.symm)) hq2
    · rcases (hmem q).1 hq with rfl | ⟨hq1, hq2⟩
      · exact absurd (congrArg Prod.fst (h.inj p hp1 _ hg e)) hp2
      · exact h.inj p hp1 q hq1 e
  · rcases mem_withP.1 h0 with rfl | ⟨h0, _⟩
    · obtain ⟨g', h1, h2, h3, h4⟩ := h.fwd f hf
      have : g' = g := by
        have a := fnd_of_mem h.nd h1
        rw [fnd_of_mem h.nd hg] at a
        exact (Option.some.inj a).symm
      subst this
      exact ⟨g', (hmem _).2 (.inl rfl), h2, h3, h4⟩
    · obtain ⟨h0, hn⟩ := mem_withoutP.1 h0
      obtain ⟨g0, h1, h2, h3, h4⟩ := h.fwd f0 h0
      exact ⟨g0, (hmem _).2 (.inr ⟨h1, hn⟩), h2, h3, h4⟩
  · rcases (hmem p).1 hp with rfl | ⟨hp1, hp2⟩
    · exact ⟨_, mem_withP.2 (.inl rfl), rfl⟩
    · obtain ⟨f0, h1, h2⟩ := h.bwd p hp1
      exact ⟨f0, mem_withP.2 (.inr ⟨mem_withoutP.2 ⟨h1, fun e => hp2 (h2.symm.trans e)⟩, fun e => htn _ hp1 (h2.symm.trans e)⟩), h2⟩
  · obtain ⟨s, hs⟩ := h.rows x hx
    by_cases e : s = f.name
    · have : x.tgt = g := by
        have a := fnd_of_mem h.nd hs
        rw [e, fnd_of_mem h.nd hg] at a
        exact (Option.some.inj a).symm
      exact ⟨t, (hmem _).2 (.inl (by rw [this]))⟩
    · exact ⟨s, (hmem _).2 (.inr ⟨hs, e⟩)⟩

theorem rowOf_snoc {row : List Wr} {nos : List Nat} (h : nos.length = row.length) (x : Wr) (n k : Nat) : rowOf (row ++ [x]) (nos ++ [n]) k = rowOf row nos k ++ (if x.tgt = k then [⟨n, x.at_, x.b⟩] else []) := by
  unfold rowOf
  rw [List.zip_append h.symm, List.filter_append, List.map_append]
  congr 1
  by_cases e : x.tgt = k
  · simp [e]
  · simp [e]

/-- A write more. -/
theorem Rel.append (h : Rel st S nos) {f : PF} {g : Nat} (hf : f ∈ S.l) (hg : (f.name, g) ∈ st.files) {b : List Int} :
    Rel { st with files := put f.name g st.files, row := st.row ++ [⟨g, st.sz g, b⟩], sz := upd st.sz g (st.sz g + b.length) } { S with l := withP { f with row := f.row ++ [⟨S.no, (bytesP f).length, b⟩] } S.l, no := S.no + 1 } (nos ++ [S.no]) := by
  have hfn := findP_of h.sorted hf
  have hfg := fnd_of_mem h.nd hg
  have hmem : ∀ p, p ∈ put f.name g st.files ↔ p ∈ st.files := fun p => by
    rw [mem_put h.nd]
    constructor
    · rintro (rfl | h)
      · exact hg
      · exact h.1
    · intro hp
      by_cases e : p.1 = f.name
      · left
        have a := fnd_of_mem h.nd (s := p.1) (b := p.2) hp
        rw [e, hfg] at a
        exact Prod.ext e (Option.some.inj a).symm
      · exact .inr ⟨hp, e⟩
  have hne : ∀ f0 g0, (f0, g0) ∈ st.files → f0 ≠ f.name → g0 ≠ g := fun f0 g0 h0 hn e => hn (congrArg Prod.fst (h.inj _ h0 _ hg e))
  obtain ⟨g', h1, h2, h3, h4⟩ := h.fwd f hf
  have hgg : g' = g := by
    have a := fnd_of_mem h.nd h1
    rw [hfg] at a
    exact (Option.some.inj a).symm
  subst hgg
  refine ⟨sorted_withP h.sorted, ?_, nodup_put h.nd, fun p hp q hq => h.inj p ((hmem p).1 hp) q ((hmem q).1 hq), fun f0 h0 => ?_, fun p hp => ?_, fun x hx => ?_, by simp [h.nlen], ?_, ?_, h.ops, h.fuse, h.fault, h.down⟩
  · show (put f.name g' st.files).length = (withP _ S.l).length
    rw [length_put, hfg, withP, length_insP, length_withoutP h.sorted hfn]
    exact h.len
  · rcases mem_withP.1 h0 with rfl | ⟨h0, hn⟩
    · refine ⟨g', (hmem _).2 hg, h2, ?_, ?_⟩
      · show upd st.sz g' (st.sz g' + b.length) g' = _
        rw [upd_same]
        have e : bytesP { f with row := f.row ++ [⟨S.no, (bytesP f).length, b⟩] } = overP (bytesP f) ⟨S.no, (bytesP f).length, b⟩ := by simp [bytesP]
        rw [e, h3]
        show _ = (laidL (bytesP f) (bytesP f).length b).length
        rw [laidL_length]
        split <;> omega
      · show f.row ++ _ = rowOf (st.row ++ [⟨g', st.sz g', b⟩]) (nos ++ [S.no]) g'
        rw [rowOf_snoc h.nlen, if_pos rfl, h4, h3]
    · obtain ⟨g0, a1, a2, a3, a4⟩ := h.fwd f0 h0
      have hg0 := hne _ _ a1 hn
      refine ⟨g0, (hmem _).2 a1, a2, ?_, ?_⟩
      · show upd st.sz g' (st.sz g' + b.length) g0 = _
        rw [upd_other _ _ hg0, a3]
      · show f0.row = rowOf (st.row ++ [⟨g', st.sz g', b⟩]) (nos ++ [S.no]) g0
        rw [rowOf_snoc h.nlen, if_neg (Ne.symm hg0), List.append_nil, a4]
  · obtain ⟨f0, a1, a2⟩ := h.bwd p ((hmem p).1 hp)
    by_cases e : p.1 = f.name
    · exact ⟨_, mem_withP.2 (.inl rfl), e.symm⟩
    · exact ⟨f0, mem_withP.2 (.inr ⟨a1, fun e2 => e (a2.symm.trans e2)⟩), a2⟩
  · rcases List.mem_append.1 hx with hx | hx
    · obtain ⟨s, hs⟩ := h.rows x hx
      exact ⟨s, (hmem _).2 hs⟩
    · rw [List.mem_singleton.1 hx]
      exact ⟨f.name, (hmem _).2 hg⟩
  · rw [List.pairwise_append]
    refine ⟨h.ninc, List.pairwise_singleton _ _, fun a ha b hb => ?_⟩
    rw [List.mem_singleton.1 hb]
    exact h.nlt a ha
  · intro n hn
    rcases List.mem_append.1 hn with hn | hn
    · have := h.nlt n hn
      show n < S.no + 1
      omega
    · rw [List.mem_singleton.1 hn]
      show S.no < S.no + 1
      omega

/-- A new file. -/
theorem Rel.create (h : Rel st S nos) {s : ByteArray} (hs : findP s S.l = none) {k : Nat} (hk : ∀ p ∈ st.files, p.2 ≠ k) {live : List Nat} :
    Rel { st with live := live, files := put s k st.files, sb := upd st.sb k [], sz := upd st.sz k 0 } { S with l := withP ⟨s, [], []⟩ S.l } nos := by
  have hfs := h.fndNone hs
  have hsn := fnd_none_mem hfs
  have hmem : ∀ p, p ∈ put s k st.files ↔ p = (s, k) ∨ p ∈ st.files := fun p => by
    rw [mem_put h.nd]
    constructor
    · rintro (h | h)
      · exact .inl h
      · exact .inr h.1
    · rintro (h | h)
      · exact .inl h
      · exact .inr ⟨h, hsn _ h⟩
  have hrk : ∀ x ∈ st.row, x.tgt ≠ k := fun x hx e => by
    obtain ⟨s', hs'⟩ := h.rows x hx
    exact hk _ hs' e
  have hro : rowOf st.row nos k = [] := by
    unfold rowOf
    rw [List.filter_eq_nil_iff.2 (fun x hx => by
      have := hrk x.1 (List.of_mem_zip hx).1
      simpa using this)]
    rfl
  refine ⟨sorted_withP h.sorted, ?_, nodup_put h.nd, fun p hp q hq e => ?_, fun f0 h0 => ?_, fun p hp => ?_, fun x hx => ?_, h.nlen, h.ninc, h.nlt, h.ops, h.fuse, h.fault, h.down⟩
  · show (put s k st.files).length = (withP ⟨s, [], []⟩ S.l).length
    rw [length_put, hfs, withP, length_insP, withoutP_none hs, h.len]
    rfl
  · rcases (hmem p).1 hp with rfl | hp1
    · rcases (hmem q).1 hq with rfl | hq1
      · rfl
      · exact absurd e.symm (hk q hq1)
    · rcases (hmem q).1 hq with rfl | hq1
      · exact absurd e (hk p hp1)
      · exact h.inj p hp1 q hq1 e
  · rcases mem_withP.1 h0 with rfl | ⟨h0, _⟩
    · refine ⟨k, (hmem _).2 (.inl rfl), upd_same _ _ _, ?_, ?_⟩
      · show upd st.sz k 0 k = _
        rw [upd_same]; rfl
      · show [] = rowOf st.row nos k
        rw [hro]
    · obtain ⟨g0, a1, a2, a3, a4⟩ := h.fwd f0 h0
      have hg0 := hk _ a1
      refine ⟨g0, (hmem _).2 (.inr a1), ?_, ?_, a4⟩
      · show upd st.sb k [] g0 = _
        rw [upd_other _ _ hg0, a2]
      · show upd st.sz k 0 g0 = _
        rw [upd_other _ _ hg0, a3]
  · rcases (hmem p).1 hp with rfl | hp1
    · exact ⟨_, mem_withP.2 (.inl rfl), rfl⟩
    · obtain ⟨f0, a1, a2⟩ := h.bwd p hp1
      exact ⟨f0, mem_withP.2 (.inr ⟨a1, fun e => hsn _ hp1 (a2.symm.trans e)⟩), a2⟩
  · obtain ⟨s', hs'⟩ := h.rows x hx
    exact ⟨s', (hmem _).2 (.inr hs')⟩
end

end Go.Proofs.Ytcpkoajnepijkaa
