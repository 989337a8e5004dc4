/- Names tells the names in order. No conditions. -/
import Derived.Test.YtcpkoajnepijkaaIter
import Derived.Test.YtcpkoajnepijkaaSim11
namespace Go.Proofs.Ytcpkoajnepijkaa
set_option linter.unusedVariables false
set_option linter.unusedSimpArgs false
open Go.RowKit Go.Proofs.YtcpkoajnepijkaaL Go.Proofs.YtcpkoajnepijkaaW.PrintWords Go.Maps Go.MapKept

/-- Names and files are few. -/
def WellP (S : PS) : Prop := (∀ f ∈ S.l, namedB f.name = true) ∧ S.l.length ≤ 8
theorem WellP.of {S S' : PS} (h : WellP S) (e : S'.l = S.l) : WellP S' := by unfold WellP; rw [e]; exact h
theorem WellP.without {S S' : PS} (h : WellP S) {s : ByteArray} (e : S'.l = withoutP s S.l) : WellP S' := by
  unfold WellP
  rw [e]
  exact ⟨fun f hf => h.1 f (mem_withoutP.1 hf).1, Nat.le_trans (List.length_filter_le _ _) h.2⟩
theorem length_without_in {s : ByteArray} : ∀ {l : List PF} {f : PF}, f ∈ l → f.name = s → (withoutP s l).length + 1 ≤ l.length
  | x :: l, f, hf, e => by
    unfold withoutP
    rcases List.mem_cons.1 hf with rfl | hf
    · rw [List.filter_cons_of_neg (by simp [e])]
      have := List.length_filter_le (fun f => !decide (f.name = s)) l
      simp only [List.length_cons]
      omega
    · have ih := length_without_in hf e
      unfold withoutP at ih
      have : ((x :: l).filter fun f => !decide (f.name = s)).length ≤ (l.filter fun f => !decide (f.name = s)).length + 1 := by
        rw [List.filter_cons]
        split <;> simp
      simp only [List.length_cons]
      omega
theorem WellP.with_ {S S' : PS} (h : WellP S) {f g : PF} (hg : g ∈ S.l) (hn : g.name = f.name) (e : S'.l = withP f S.l) : WellP S' := by
  unfold WellP
  rw [e]
  refine ⟨fun x hx => ?_, ?_⟩
  · rcases mem_withP.1 hx with rfl | hx
    · rw [← hn]; exact h.1 _ hg
    · exact h.1 x hx.1
  · unfold withP
    rw [length_insP]
    exact Nat.le_trans (length_without_in hg hn) h.2
theorem beginP_cases (S : PS) (s : ByteArray) (may : Bool) : (∃ n S', beginP S s may = (none, n, S') ∧ S'.l = S.l) ∨ (∃ f, beginP S s may = (some f, 0, countP S) ∧ findP s S.l = some f ∧ may = true) := by
  unfold beginP
  split
  · exact .inl ⟨_, _, rfl, rfl⟩
  · split
    · exact .inl ⟨_, _, rfl, rfl⟩
    · rename_i f hf
      split
      · exact .inl ⟨_, _, rfl, rfl⟩
      · split
        · exact .inl ⟨_, _, rfl, rfl⟩
        · exact .inr ⟨f, rfl, hf, by rename_i h _; simpa using h⟩
theorem well_new : WellP newP := ⟨(fun f hf => by simp [newP] at hf), by decide⟩
theorem WellP.sync {S : PS} (h : WellP S) (s : ByteArray) : WellP (syncP S s).2 := by
  unfold syncP
  rcases beginP_cases S s true with ⟨n, S', e, el⟩ | ⟨f, e, hf, _⟩
  · rw [e]; exact h.of el
  · rw [e]
    obtain ⟨h1, h2⟩ := findP_some hf
    exact h.with_ (f := { f with b := bytesP f, row := [] }) h1 rfl rfl
theorem WellP.cut {S : PS} (h : WellP S) (s : ByteArray) (k : Int) : WellP (cutP S s k).2 := by
  unfold cutP
  rcases beginP_cases S s true with ⟨n, S', e, el⟩ | ⟨f, e, hf, _⟩
  · rw [e]; exact h.of el
  · rw [e]
    obtain ⟨h1, h2⟩ := findP_some hf
    exact h.with_ (f := { f with b := (bytesP f).take (cutN k (bytesP f).length), row := [] }) h1 rfl rfl
theorem WellP.remove {S : PS} (h : WellP S) (s : ByteArray) : WellP (removeP S s).2 := by
  unfold removeP
  rcases beginP_cases S s true with ⟨n, S', e, el⟩ | ⟨f, e, hf, _⟩
  · rw [e]; exact h.of el
  · rw [e]; exact h.without rfl
theorem WellP.rename {S : PS} (h : WellP S) (s t : ByteArray) : WellP (renameP S s t).2 := by
  unfold renameP
  rcases beginP_cases S s (namedB t) with ⟨n, S', e, el⟩ | ⟨f, e, hf, ht⟩
  · rw [e]; exact h.of el
  · rw [e]
    obtain ⟨h1, h2⟩ := findP_some hf
    refine ⟨fun x hx => ?_, ?_⟩
    · rcases mem_withP.1 hx with rfl | hx
      · exact ht
      · exact h.1 x (mem_withoutP.1 hx.1).1
    · show (withP { f with name := t } (withoutP s S.l)).length ≤ 8
      unfold withP
      rw [length_insP]
      have := length_without_in h1 h2
      have h3 : (withoutP t (withoutP s S.l)).length ≤ (withoutP s S.l).length := List.length_filter_le _ _
      have := h.2
      show (withoutP t (withoutP s S.l)).length + 1 ≤ 8
      omega
theorem WellP.write {S : PS} (h : WellP S) (s : ByteArray) (b : List Int) : WellP (writeP S s b).2 := by
  unfold writeP
  split
  · exact h
  split
  · exact h
  rename_i hn
  have hn1 : namedB s = true := by
    cases hb : namedB s
    · exact absurd (.inl hb) hn
    · rfl
  simp only
  split
  · exact h
  split
  · exact h
  cases hf : findP s S.l with
  | some f =>
    obtain ⟨h1, h2⟩ := findP_some hf
    exact h.with_ (f := { f with row := f.row ++ [⟨S.no, (bytesP f).length, b⟩] }) h1 rfl rfl
  | none =>
    have hl : S.l.length < 8 := by
      rcases Nat.lt_or_ge S.l.length 8 with hl | hl
      · exact hl
      · exact absurd (.inr ⟨hf, hl⟩) hn
    refine ⟨fun x hx => ?_, ?_⟩
    · rcases mem_withP.1 hx with rfl | hx
      · exact hn1
      · exact h.1 x hx.1
    · show (withP _ S.l).length ≤ 8
      unfold withP
      rw [length_insP]
      have h3 : (withoutP s S.l).length ≤ S.l.length := List.length_filter_le _ _
      show (withoutP s S.l).length + 1 ≤ 8
      omega
theorem WellP.crash {S : PS} (h : WellP S) (keep : List Bool) : WellP (crashP S keep) := by
  refine ⟨fun x hx => ?_, ?_⟩
  · obtain ⟨f, hf, rfl⟩ := List.mem_map.1 hx
    exact h.1 f hf
  · show (S.l.map _).length ≤ 8
    rw [List.length_map]
    exact h.2

end Go.Proofs.Ytcpkoajnepijkaa
