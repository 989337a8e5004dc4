/- FileSynced, by the plain model. No conditions. -/
import Derived.Test.YtcpkoajnepijkaaDown
import Derived.Test.YtcpkoajnepijkaaHoles1
namespace Go.Proofs.Ytcpkoajnepijkaa
set_option linter.unusedVariables false
set_option linter.unusedSimpArgs false
open Go.RowKit Go.Proofs.YtcpkoajnepijkaaL Go.Proofs.YtcpkoajnepijkaaW.PrintWords Go.Proofs.Ytcpkoajnepijkaa.Q

theorem findP_ins_self {f : PF} : ∀ {l : List PF}, (∀ x ∈ l, x.name ≠ f.name) → findP f.name (insP f l) = some f
  | [], _ => by simp [insP, findP]
  | x :: l, h => by
    unfold insP
    split
    · simp [findP]
    · simp only [findP]
      rw [if_neg (h x List.mem_cons_self), findP_ins_self (fun y hy => h y (List.mem_cons_of_mem _ hy))]
theorem findP_ins_other {f : PF} {t : ByteArray} (ht : t ≠ f.name) : ∀ {l : List PF}, findP t (insP f l) = findP t l
  | [] => by simp [insP, findP, Ne.symm ht]
  | x :: l => by
    unfold insP
    split
    · simp only [findP]
      rw [if_neg (Ne.symm ht)]
    · simp only [findP]
      rw [findP_ins_other ht]
theorem findP_without {s t : ByteArray} (ht : t ≠ s) : ∀ {l : List PF}, findP t (withoutP s l) = findP t l
  | [] => rfl
  | x :: l => by
    have ih := findP_without ht (l := l)
    unfold withoutP at ih ⊢
    rw [List.filter_cons]
    by_cases hx : x.name = s
    · rw [if_neg (by simp [hx]), ih]
      simp only [findP]
      rw [if_neg (fun e => ht (by rw [← e, hx]))]
    · rw [if_pos (by simp [hx])]
      simp only [findP]
      rw [ih]
theorem findP_with_self (f : PF) (l : List PF) : findP f.name (withP f l) = some f := findP_ins_self (fun x hx => (mem_withoutP.1 hx).2)
theorem findP_with_eq {f : PF} {s : ByteArray} (h : f.name = s) (l : List PF) : findP s (withP f l) = some f := by
  subst h
  exact findP_with_self f l
theorem readP_some {S : PS} {s : ByteArray} {f : PF} (hd : S.down = false) (h : findP s S.l = some f) : readP S s = (bytesP f, 0) := by simp [readP, hd, h]
theorem findP_with_other {f : PF} {t : ByteArray} (ht : t ≠ f.name) (l : List PF) : findP t (withP f l) = findP t l := by
  unfold withP
  rw [findP_ins_other ht, findP_without ht]
theorem laidL_len (b : List Int) (k : Nat) (c : List Int) : b.length ≤ (laidL b k c).length := by
  rw [laidL_length]; split <;> omega
theorem bytesP_len (f : PF) : f.b.length ≤ (bytesP f).length := by
  unfold bytesP
  have : ∀ (row : List PP) (b : List Int), b.length ≤ (row.foldl overP b).length := by
    intro row
    induction row with
    | nil => intro b; exact Nat.le_refl _
    | cons p row ih => intro b; exact Nat.le_trans (laidL_len _ _ _) (ih _)
  exact this _ _
theorem over_prefix {c b : List Int} {p : PP} (h : c <+: b) (hc : c.length ≤ p.at_) : c <+: overP b p := by
  unfold overP laidL
  split
  · exact h
  · obtain ⟨r, rfl⟩ := h
    unfold splice
    have e : c.length ≤ p.at_ := hc
    rw [List.append_assoc, List.take_append, List.take_of_length_le e, List.append_assoc]
    exact ⟨_, rfl⟩
/-- Writes stand behind what is synced. -/
def RowOk (S : PS) : Prop := ∀ f ∈ S.l, ∀ p ∈ f.row, f.b.length ≤ p.at_
/-- What was synced is there. -/
def Here (s : ByteArray) (b : List Int) (S : PS) : Prop := ∃ f, findP s S.l = some f ∧ b <+: f.b
theorem rowOk_new : RowOk newP := fun f hf => by simp [newP] at hf
theorem RowOk.with_ {S S' : PS} (h : RowOk S) {f : PF} (hf : ∀ p ∈ f.row, f.b.length ≤ p.at_) (e : S'.l = withP f S.l) : RowOk S' := by
  intro g hg
  rw [e] at hg
  rcases mem_withP.1 hg with rfl | hg
  · exact hf
  · exact h g hg.1
theorem RowOk.of {S S' : PS} (h : RowOk S) (e : S'.l = S.l) : RowOk S' := fun f hf => h f (e ▸ hf)
theorem Here.of {s : ByteArray} {b : List Int} {S S' : PS} (h : Here s b S) (e : S'.l = S.l) : Here s b S' := by
  obtain ⟨f, h1, h2⟩ := h
  exact ⟨f, by rw [e]; exact h1, h2⟩
theorem rowOk_do {S : PS} (h : RowOk S) (x : S34) : RowOk (doP S x).2 := by
  unfold doP
  split
  · unfold writeP
    split
    · exact h
    split
    · exact h
    simp only
    split
    · exact h
    split
    · exact h
    refine h.with_ (f := { (findP x.f1 S.l).getD ⟨x.f1, [], []⟩ with row := ((findP x.f1 S.l).getD ⟨x.f1, [], []⟩).row ++ [⟨S.no, (bytesP ((findP x.f1 S.l).getD ⟨x.f1, [], []⟩)).length, x.f3⟩] }) ?_ rfl
    intro p hp
    rcases List.mem_append.1 hp with hp | hp
    · cases hf : findP x.f1 S.l with
      | none => rw [hf] at hp; simp at hp
      | some f =>
        rw [hf] at hp
        exact h f (findP_some hf).1 p hp
    · rw [List.mem_singleton.1 hp]
      exact bytesP_len ((findP x.f1 S.l).getD ⟨x.f1, [], []⟩)
  split
  · unfold syncP
    rcases beginP_cases S x.f1 true with ⟨n, S', e, el⟩ | ⟨f, e, hf, _⟩
    · rw [e]; exact h.of el
    · rw [e]
      exact h.with_ (f := { f with b := bytesP f, row := [] }) (fun p hp => by simp at hp) rfl
  split
  · unfold renameP
    rcases beginP_cases S x.f1 (namedB x.f2) with ⟨n, S', e, el⟩ | ⟨f, e, hf, _⟩
    · rw [e]; exact h.of el
    · rw [e]
      intro g hg
      rcases mem_withP.1 hg with rfl | hg
      · exact h f (findP_some hf).1
      · exact h g (mem_withoutP.1 hg.1).1
  split
  · unfold removeP
    rcases beginP_cases S x.f1 true with ⟨n, S', e, el⟩ | ⟨f, e, hf, _⟩
    · rw [e]; exact h.of el
    · rw [e]
      exact fun g hg => h g (mem_withoutP.1 hg).1
  · unfold cutP
    rcases beginP_cases S x.f1 true with ⟨n, S', e, el⟩ | ⟨f, e, hf, _⟩
    · rw [e]; exact h.of el
    · rw [e]
      exact h.with_ (f := { f with b := (bytesP f).take (cutN x.f4 (bytesP f).length), row := [] }) (fun p hp => by simp at hp) rfl
theorem here_write {S : PS} {t : ByteArray} {c : List Int} (h : Here t c S) (s : ByteArray) (b : List Int) : Here t c (writeP S s b).2 := by
  unfold writeP
  split
  · exact h
  split
  · exact h
  simp only
  split
  · exact h
  split
  · exact h
  obtain ⟨f, h1, h2⟩ := h
  have hn : ((findP s S.l).getD ⟨s, [], []⟩).name = s := by
    cases hf : findP s S.l with
    | none => rfl
    | some g => exact (findP_some hf).2
  generalize hg : (findP s S.l).getD ⟨s, [], []⟩ = g at hn
  have hfs := findP_with_eq (f := { g with row := g.row ++ [⟨S.no, (bytesP g).length, b⟩] }) (s := s) hn S.l
  by_cases ht : t = s
  · subst ht
    refine ⟨{ g with row := g.row ++ [⟨S.no, (bytesP g).length, b⟩] }, hfs, ?_⟩
    rw [h1] at hg
    have : g = f := hg.symm
    subst this
    exact h2
  · refine ⟨f, ?_, h2⟩
    have := findP_with_other (f := { g with row := g.row ++ [⟨S.no, (bytesP g).length, b⟩] }) (t := t) (by rw [show ({ g with row := g.row ++ [⟨S.no, (bytesP g).length, b⟩] } : PF).name = s from hn]; exact ht) S.l
    exact this.trans h1
/-- A call that is not answered OK leaves what was synced. -/
theorem here_bad {S : PS} {t : ByteArray} {c : List Int} (h : Here t c S) (x : S34) (hx : (doP S x).1 ≠ 0) : Here t c (doP S x).2 := by
  unfold doP at hx ⊢
  split at hx
  · rename_i h0; rw [if_pos h0]; exact here_write h _ _
  rename_i h0; rw [if_neg h0]
  split at hx
  · rename_i h1; rw [if_pos h1]
    unfold syncP at hx ⊢
    rcases beginP_cases S x.f1 true with ⟨n, S', e, el⟩ | ⟨f, e, hf, _⟩
    · rw [e]; exact h.of el
    · rw [e] at hx; exact absurd rfl hx
  rename_i h1; rw [if_neg h1]
  split at hx
  · rename_i h2; rw [if_pos h2]
    unfold renameP at hx ⊢
    rcases beginP_cases S x.f1 (namedB x.f2) with ⟨n, S', e, el⟩ | ⟨f, e, hf, _⟩
    · rw [e]; exact h.of el
    · rw [e] at hx; exact absurd rfl hx
  rename_i h2; rw [if_neg h2]
  split at hx
  · rename_i h3; rw [if_pos h3]
    unfold removeP at hx ⊢
    rcases beginP_cases S x.f1 true with ⟨n, S', e, el⟩ | ⟨f, e, hf, _⟩
    · rw [e]; exact h.of el
    · rw [e] at hx; exact absurd rfl hx
  · rename_i h3; rw [if_neg h3]
    unfold cutP at hx ⊢
    rcases beginP_cases S x.f1 true with ⟨n, S', e, el⟩ | ⟨f, e, hf, _⟩
    · rw [e]; exact h.of el
    · rw [e] at hx; exact absurd rfl hx
theorem here_other {S S' : PS} {s t : ByteArray} {c : List Int} (h : Here t c S) (ht : t ≠ s) {f : PF} (hf : f.name = s) (e : S'.l = withP f S.l) : Here t c S' := by
  obtain ⟨g, h1, h2⟩ := h
  exact ⟨g, by rw [e, findP_with_other (by rw [hf]; exact ht)]; exact h1, h2⟩
theorem here_sync {S : PS} {t : ByteArray} {c : List Int} (h : Here t c S) (s : ByteArray) (ht : t ≠ s) : Here t c (syncP S s).2 := by
  unfold syncP
  rcases beginP_cases S s true with ⟨n, S', e, el⟩ | ⟨f, e, hf, _⟩
  · rw [e]; exact h.of el
  · rw [e]; exact here_other h ht (f := { f with b := bytesP f, row := [] }) (findP_some hf).2 rfl
theorem sync_here {S : PS} {s : ByteArray} (hd : S.down = false) (h : (syncP S s).1 = 0) : readP (syncP S s).2 s = ((readP (syncP S s).2 s).1, 0) ∧ Here s (readP (syncP S s).2 s).1 (syncP S s).2 := by
  unfold syncP at h ⊢
  rcases begin_up hd s true with e | ⟨h0, e⟩ | ⟨h0, f, e⟩
  · rw [e] at h; cases h
  · rw [e] at h; cases h
  · rcases beginP_cases S s true with ⟨n, S', e2, el⟩ | ⟨g, e2, hg, _⟩
    · rw [e] at e2; cases e2
    · rw [e] at e2
      obtain rfl : f = g := by injection e2 with e2 _; injection e2
      rw [e]
      simp only
      have hn : f.name = s := (findP_some hg).2
      have hfs := findP_with_eq (f := { f with b := bytesP f, row := [] }) (s := s) hn S.l
      have hr : readP { countP S with l := withP { f with b := bytesP f, row := [] } (countP S).l } s = (bytesP f, 0) := readP_some (f := { f with b := bytesP f, row := [] }) (by simp [countP, h0]) hfs
      rw [hr]
      exact ⟨rfl, ⟨{ f with b := bytesP f, row := [] }, hfs, ⟨[], by simp⟩⟩⟩
theorem here_rename {S : PS} {u : ByteArray} {c : List Int} (h : Here u c S) (s t : ByteArray) (hs : u ≠ s) (ht : u ≠ t) : Here u c (renameP S s t).2 := by
  unfold renameP
  rcases beginP_cases S s (namedB t) with ⟨n, S', e, el⟩ | ⟨f, e, hf, _⟩
  · rw [e]; exact h.of el
  · rw [e]
    obtain ⟨g, h1, h2⟩ := h
    refine ⟨g, ?_, h2⟩
    show findP u (withP { f with name := t } (withoutP s S.l)) = some g
    rw [findP_with_other ht, findP_without hs]
    exact h1
theorem here_remove {S : PS} {u : ByteArray} {c : List Int} (h : Here u c S) (s : ByteArray) (hs : u ≠ s) : Here u c (removeP S s).2 := by
  unfold removeP
  rcases beginP_cases S s true with ⟨n, S', e, el⟩ | ⟨f, e, hf, _⟩
  · rw [e]; exact h.of el
  · rw [e]
    obtain ⟨g, h1, h2⟩ := h
    exact ⟨g, by show findP u (withoutP s S.l) = _; rw [findP_without hs]; exact h1, h2⟩
theorem here_cut {S : PS} {u : ByteArray} {c : List Int} (h : Here u c S) (s : ByteArray) (k : Int) (hs : u ≠ s) : Here u c (cutP S s k).2 := by
  unfold cutP
  rcases beginP_cases S s true with ⟨n, S', e, el⟩ | ⟨f, e, hf, _⟩
  · rw [e]; exact h.of el
  · rw [e]; exact here_other h hs (f := { f with b := (bytesP f).take (cutN k (bytesP f).length), row := [] }) (findP_some hf).2 rfl
/-- It survives a crash. -/
theorem here_crash {S : PS} (hr : RowOk S) {s : ByteArray} {c : List Int} (h : Here s c S) (keep : List Bool) : ∃ b, readP (crashP S keep) s = (b, 0) ∧ c <+: b := by
  obtain ⟨f, h1, h2⟩ := h
  obtain ⟨hf, hn⟩ := findP_some h1
  have hmap : ∀ (l : List PF) (g : PF → PF), (∀ f, (g f).name = f.name) → findP s (l.map g) = (findP s l).map g := by
    intro l g hg
    induction l with
    | nil => rfl
    | cons x l ih =>
      simp only [List.map_cons, findP, hg]
      split
      · rfl
      · exact ih
  refine ⟨(f.row.filter fun p => keptAt keep (rankP S p.no)).foldl overP f.b, ?_, ?_⟩
  · have e := hmap S.l (fun f => { f with b := (f.row.filter fun p => keptAt keep (rankP S p.no)).foldl overP f.b, row := [] }) (fun _ => rfl)
    rw [h1] at e
    exact readP_some (S := crashP S keep) (f := { f with b := (f.row.filter fun p => keptAt keep (rankP S p.no)).foldl overP f.b, row := [] }) rfl e
  · have hcl : c.length ≤ f.b.length := h2.length_le
    have : ∀ (row : List PP) (b : List Int), c <+: b → (∀ p ∈ row, f.b.length ≤ p.at_) → c <+: row.foldl overP b := by
      intro row
      induction row with
      | nil => intro b hb _; exact hb
      | cons p row ih => intro b hb hp; exact ih _ (over_prefix hb (Nat.le_trans hcl (hp p List.mem_cons_self))) (fun q hq => hp q (List.mem_cons_of_mem _ hq))
    exact this _ _ h2 (fun p hp => hr f hf p (List.mem_filter.1 hp).1)

end Go.Proofs.Ytcpkoajnepijkaa
