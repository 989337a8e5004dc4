/- Parts of the proof of the law that the last file states; declarations that nothing mentions are left out by a program. No conditions. -/
import Derived.Test.YtcpkoajnepijkaaFile16q
set_option linter.unusedVariables false
set_option linter.unusedSimpArgs false
namespace Go.Proofs.Ytcpkoajnepijkaa
open Go.RowKit Go.Proofs.YtcpkoajnepijkaaL
structure PP where
  no : Nat
  at_ : Nat
  b : List Int
deriving DecidableEq
structure PF where
  name : ByteArray
  b : List Int
  row : List PP
deriving DecidableEq
structure PS where
  l : List PF
  no : Nat
  ops : Nat
  fuse : Int
  fault : Int
  down : Bool
deriving DecidableEq
def ltN (s t : ByteArray) : Bool := decide (s.toList < t.toList)
def newP : PS := ⟨[], 0, 0, -1, -1, false⟩
def overP (b : List Int) (p : PP) : List Int := laidL b p.at_ p.b
def bytesP (f : PF) : List Int := f.row.foldl overP f.b
def findP (s : ByteArray) : List PF → Option PF
  | [] => none
  | f :: r => if f.name = s then some f else findP s r
def withoutP (s : ByteArray) (l : List PF) : List PF := l.filter fun f => !decide (f.name = s)
def insP (f : PF) : List PF → List PF
  | [] => [f]
  | x :: r => if ltN f.name x.name = true then f :: x :: r else x :: insP f r
def withP (f : PF) (l : List PF) : List PF := insP f (withoutP f.name l)
def decP (n : Int) : Int := if n - 1 < -1 then -1 else n - 1
def countP (S : PS) : PS := { S with ops := S.ops + 1, fuse := decP S.fuse, down := S.fuse == 0 }
def readP (S : PS) (s : ByteArray) : List Int × Int :=
  if S.down = true then ([], 100) else match findP s S.l with | none => ([], 101) | some f => (bytesP f, 0)
def pendingP (S : PS) : Nat := (S.l.map fun f => f.row.length).sum
def writeP (S : PS) (s : ByteArray) (b : List Int) : Int × PS :=
  if S.down = true then (100, S) else
  if namedB s = false ∨ (findP s S.l = none ∧ 8 ≤ S.l.length) then (101, S) else
  let f := (findP s S.l).getD ⟨s, [], []⟩
  if (bytesP f).length + b.length > 65536 then (103, S) else
  let S1 := countP { S with fault := decP S.fault }
  if S.fault == 0 then (if S.fuse == 0 then 100 else 102, S1) else
  (if S.fuse == 0 then 100 else 0, { S1 with l := withP { f with row := f.row ++ [⟨S.no, (bytesP f).length, b⟩] } S.l, no := S.no + 1 })
def beginP (S : PS) (s : ByteArray) (may : Bool) : Option PF × Int × PS :=
  if S.down = true then (none, 100, S) else
  match findP s S.l with
  | none => (none, 101, S)
  | some f => if may = false then (none, 101, S) else if S.fuse == 0 then (none, 100, countP S) else (some f, 0, countP S)
def syncP (S : PS) (s : ByteArray) : Int × PS :=
  match beginP S s true with
  | (some f, n, S') => (n, { S' with l := withP { f with b := bytesP f, row := [] } S'.l })
  | (none, n, S') => (n, S')
def renameP (S : PS) (s t : ByteArray) : Int × PS :=
  match beginP S s (namedB t) with
  | (some f, n, S') => (n, { S' with l := withP { f with name := t } (withoutP s S'.l) })
  | (none, n, S') => (n, S')
def removeP (S : PS) (s : ByteArray) : Int × PS :=
  match beginP S s true with
  | (some _, n, S') => (n, { S' with l := withoutP s S'.l })
  | (none, n, S') => (n, S')
def cutP (S : PS) (s : ByteArray) (k : Int) : Int × PS :=
  match beginP S s true with
  | (some f, n, S') => (n, { S' with l := withP { f with b := (bytesP f).take (cutN k (bytesP f).length), row := [] } S'.l })
  | (none, n, S') => (n, S')
def rankP (S : PS) (no : Nat) : Nat := (S.l.map fun f => (f.row.filter fun p => decide (p.no < no)).length).sum
def crashP (S : PS) (keep : List Bool) : PS :=
  { S with l := S.l.map fun f => { f with b := (f.row.filter fun p => keptAt keep (rankP S p.no)).foldl overP f.b, row := [] }, fuse := -1, fault := -1, down := false }
def rowOf (row : List Wr) (nos : List Nat) (g : Nat) : List PP := ((row.zip nos).filter fun x => x.1.tgt == g).map fun x => ⟨x.2, x.1.at_, x.1.b⟩
structure Rel (st : FS) (S : PS) (nos : List Nat) : Prop where
  sorted : S.l.Pairwise fun x y => ltN x.name y.name = true
  len : st.files.length = S.l.length
  nd : (st.files.map (·.1)).Nodup
  inj : ∀ p ∈ st.files, ∀ q ∈ st.files, p.2 = q.2 → p = q
  fwd : ∀ f ∈ S.l, ∃ g, (f.name, g) ∈ st.files ∧ st.sb g = f.b ∧ st.sz g = (bytesP f).length ∧ f.row = rowOf st.row nos g
  bwd : ∀ p ∈ st.files, ∃ f ∈ S.l, f.name = p.1
  rows : ∀ x ∈ st.row, ∃ s, (s, x.tgt) ∈ st.files
  nlen : nos.length = st.row.length
  ninc : nos.Pairwise (· < ·)
  nlt : ∀ n ∈ nos, n < S.no
  ops : S.ops = st.ops
  fuse : S.fuse = st.fuse
  fault : S.fault = st.fault
  down : S.down = st.down
theorem rel_new : Rel newS newP [] :=
  ⟨List.Pairwise.nil, rfl, List.nodup_nil, (fun p h => by cases h), (fun p h => by cases h), (fun p h => by cases h), (fun p h => by cases h), rfl, List.Pairwise.nil, (fun p h => by cases h), rfl, rfl, rfl, rfl⟩
theorem bytesP_row {st : FS} {nos : List Nat} {g : Nat} (hn : nos.length = st.row.length) {f : PF} (hb : st.sb g = f.b) (hr : f.row = rowOf st.row nos g) : bytesP f = allL st g := by
  unfold bytesP allL layAll
  rw [hr, hb]
  have : ∀ (row : List Wr) (nos : List Nat) (b : List Int), nos.length = row.length → (rowOf row nos g).foldl overP b = row.foldl (fun b x => if x.tgt = g then laidL b x.at_ x.b else b) b := by
    intro row
    induction row with
    | nil => intro nos b _; simp [rowOf]
    | cons x row ih =>
      intro nos b hn
      cases nos with
      | nil => simp at hn
      | cons n nos =>
        have hn' : nos.length = row.length := by simpa using hn
        by_cases h : x.tgt = g
        · have h2 := ih nos (laidL b x.at_ x.b) hn'
          simp only [rowOf, List.zip_cons_cons, List.foldl_cons, h, if_true] at h2 ⊢
          rw [List.filter_cons_of_pos (by simp [h]), List.map_cons, List.foldl_cons]
          exact h2
        · have h2 := ih nos b hn'
          simp only [rowOf, List.zip_cons_cons, List.foldl_cons, h, if_false] at h2 ⊢
          rw [List.filter_cons_of_neg (by simp [h])]
          exact h2
  exact this st.row nos f.b hn
end Go.Proofs.Ytcpkoajnepijkaa
namespace Go.Proofs.Ytcpkoajnepijkaa
open Go.RowKit Go.Proofs.YtcpkoajnepijkaaL
theorem toList_inj {a b : ByteArray} (h : a.toList = b.toList) : a = b := by
  have := toList_eq_iff a b
  rw [h] at this
  simpa using this
theorem ltN_irr (s : ByteArray) : ltN s s = false := by simp [ltN, List.lt_irrefl]
theorem ltN_trans {a b c : ByteArray} (h1 : ltN a b = true) (h2 : ltN b c = true) : ltN a c = true := by
  simp only [ltN, decide_eq_true_eq] at *
  exact List.lt_trans h1 h2
theorem ltN_total {a b : ByteArray} (h : ltN a b = false) (hne : a ≠ b) : ltN b a = true := by
  simp only [ltN, decide_eq_true_eq, decide_eq_false_iff_not] at *
  have hle : b.toList ≤ a.toList := List.not_lt.1 h
  by_cases h2 : b.toList < a.toList
  · exact h2
  · exact absurd (toList_inj (List.le_antisymm (List.not_lt.1 h2) hle)) hne
theorem ltN_ne {a b : ByteArray} (h : ltN a b = true) : a ≠ b := fun e => by rw [e, ltN_irr] at h; cases h
def SortedP (l : List PF) : Prop := l.Pairwise fun x y => ltN x.name y.name = true
theorem findP_some {s : ByteArray} {f : PF} : ∀ {l : List PF}, findP s l = some f → f ∈ l ∧ f.name = s
  | [], h => by cases h
  | x :: l, h => by
    by_cases hx : x.name = s
    · rw [findP, if_pos hx] at h
      injection h with h
      subst h
      exact ⟨List.mem_cons_self, hx⟩
    · rw [findP, if_neg hx] at h
      exact ⟨List.mem_cons_of_mem _ (findP_some h).1, (findP_some h).2⟩
theorem findP_none {s : ByteArray} : ∀ {l : List PF}, findP s l = none → ∀ f ∈ l, f.name ≠ s
  | [], _, f, hf => by cases hf
  | x :: l, h, f, hf => by
    by_cases hx : x.name = s
    · rw [findP, if_pos hx] at h; cases h
    · rw [findP, if_neg hx] at h
      rcases List.mem_cons.1 hf with rfl | hf
      · exact hx
      · exact findP_none h f hf
theorem sortedP_uniq {l : List PF} (h : SortedP l) : ∀ x ∈ l, ∀ y ∈ l, x.name = y.name → x = y := by
  induction l with
  | nil => intro x hx; cases hx
  | cons a l ih =>
    have h' := List.pairwise_cons.1 h
    intro x hx y hy e
    rcases List.mem_cons.1 hx with hx1 | hx1
    · rcases List.mem_cons.1 hy with hy1 | hy1
      · rw [hx1, hy1]
      · exact absurd (hx1 ▸ e) (ltN_ne (h'.1 y hy1))
    · rcases List.mem_cons.1 hy with hy1 | hy1
      · exact absurd (hy1 ▸ e.symm) (ltN_ne (h'.1 x hx1))
      · exact ih h'.2 x hx1 y hy1 e
theorem findP_of {l : List PF} (h : SortedP l) {f : PF} (hf : f ∈ l) : findP f.name l = some f := by
  cases hx : findP f.name l with
  | none => exact absurd rfl (findP_none hx f hf)
  | some x => exact congrArg some (sortedP_uniq h x (findP_some hx).1 f hf (findP_some hx).2)
theorem mem_withoutP {s : ByteArray} {l : List PF} {x : PF} : x ∈ withoutP s l ↔ x ∈ l ∧ x.name ≠ s := by
  simp [withoutP]
theorem sorted_withoutP {s : ByteArray} {l : List PF} (h : SortedP l) : SortedP (withoutP s l) := List.Pairwise.filter _ h
theorem mem_insP {f x : PF} : ∀ {l : List PF}, x ∈ insP f l ↔ x = f ∨ x ∈ l
  | [] => by simp [insP]
  | y :: l => by
    unfold insP
    split
    · simp
    · rw [List.mem_cons, mem_insP, List.mem_cons]
      constructor
      · rintro (h | h | h)
        · exact .inr (.inl h)
        · exact .inl h
        · exact .inr (.inr h)
      · rintro (h | h | h)
        · exact .inr (.inl h)
        · exact .inl h
        · exact .inr (.inr h)
theorem length_insP (f : PF) : ∀ l : List PF, (insP f l).length = l.length + 1
  | [] => rfl
  | y :: l => by
    unfold insP
    split
    · simp
    · simp [length_insP f l]
theorem sorted_insP {f : PF} : ∀ {l : List PF}, SortedP l → (∀ x ∈ l, x.name ≠ f.name) → SortedP (insP f l)
  | [], _, _ => List.pairwise_singleton _ _
  | y :: l, h, hn => by
    have h' := List.pairwise_cons.1 h
    unfold insP
    by_cases hy : ltN f.name y.name = true
    · rw [if_pos hy]
      refine List.pairwise_cons.2 ⟨fun z hz => ?_, h⟩
      rcases List.mem_cons.1 hz with rfl | hz
      · exact hy
      · exact ltN_trans hy (h'.1 z hz)
    · rw [if_neg hy]
      have hyf : ltN y.name f.name = true := ltN_total (by simpa using hy) (fun e => hn y List.mem_cons_self e.symm)
      refine List.pairwise_cons.2 ⟨fun z hz => ?_, sorted_insP h'.2 (fun x hx => hn x (List.mem_cons_of_mem _ hx))⟩
      rcases mem_insP.1 hz with rfl | hz
      · exact hyf
      · exact h'.1 z hz
theorem mem_withP {f x : PF} {l : List PF} : x ∈ withP f l ↔ x = f ∨ (x ∈ l ∧ x.name ≠ f.name) := by
  unfold withP
  rw [mem_insP, mem_withoutP]
theorem sorted_withP {f : PF} {l : List PF} (h : SortedP l) : SortedP (withP f l) := sorted_insP (sorted_withoutP h) (fun x hx => (mem_withoutP.1 hx).2)
theorem withoutP_none {s : ByteArray} {l : List PF} (h : findP s l = none) : withoutP s l = l := by
  refine List.filter_eq_self.2 (fun x hx => ?_)
  simp [findP_none h x hx]
theorem length_withoutP {s : ByteArray} {f : PF} : ∀ {l : List PF}, SortedP l → findP s l = some f → (withoutP s l).length + 1 = l.length
  | [], _, h => by cases h
  | y :: l, hs, h => by
    have h' := List.pairwise_cons.1 hs
    by_cases hy : y.name = s
    · have : withoutP s l = l := by
        refine List.filter_eq_self.2 (fun x hx => ?_)
        have := ltN_ne (h'.1 x hx)
        have h3 : ¬ x.name = s := fun e => this (hy.trans e.symm)
        simp [h3]
      unfold withoutP
      rw [List.filter_cons_of_neg (by simp [hy])]
      show (withoutP s l).length + 1 = _
      rw [this]
      rfl
    · rw [findP, if_neg hy] at h
      have := length_withoutP h'.2 h
      unfold withoutP
      rw [List.filter_cons_of_pos (by simp [hy])]
      simp only [List.length_cons]
      unfold withoutP at this
      omega
theorem length_put {β : Type} {s : ByteArray} {v : β} : ∀ {l : List (ByteArray × β)}, (put s v l).length = if (fnd s l).isSome = true then l.length else l.length + 1
  | [] => by simp [put, fnd]
  | p :: l => by
    by_cases hp : p.1 = s
    · simp [put, fnd, hp]
    · simp only [put, fnd, hp, if_false, List.length_cons, length_put]
      split <;> rfl
theorem length_drop {β : Type} {s : ByteArray} : ∀ {l : List (ByteArray × β)}, (fnd s l).isSome = true → (drop_ s l).length + 1 = l.length
  | [], h => by simp [fnd] at h
  | p :: l, h => by
    by_cases hp : p.1 = s
    · simp [drop_, hp]
    · simp only [fnd, hp, if_false] at h
      simp only [drop_, hp, if_false, List.length_cons, length_drop h]
theorem mem_put {β : Type} {s : ByteArray} {v : β} {p : ByteArray × β} : ∀ {l : List (ByteArray × β)}, (l.map (·.1)).Nodup → (p ∈ put s v l ↔ p = (s, v) ∨ (p ∈ l ∧ p.1 ≠ s))
  | [], _ => by simp [put]
  | q :: l, hn => by
    rw [List.map_cons, List.nodup_cons] at hn
    by_cases hq : q.1 = s
    · simp only [put, hq, if_true, List.mem_cons]
      constructor
      · rintro (h | h)
        · exact .inl h
        · exact .inr ⟨.inr h, fun e => hn.1 (by rw [hq, ← e]; exact List.mem_map.2 ⟨p, h, rfl⟩)⟩
      · rintro (h | ⟨h | h, h2⟩)
        · exact .inl h
        · exact absurd (h ▸ hq) h2
        · exact .inr h
    · simp only [put, hq, if_false, List.mem_cons, mem_put hn.2]
      constructor
      · rintro (h | h | h)
        · exact .inr ⟨.inl h, h ▸ hq⟩
        · exact .inl h
        · exact .inr ⟨.inr h.1, h.2⟩
      · rintro (h | ⟨h | h, h2⟩)
        · exact .inr (.inl h)
        · exact .inl h
        · exact .inr (.inr ⟨h, h2⟩)
theorem mem_drop {β : Type} {s : ByteArray} {p : ByteArray × β} : ∀ {l : List (ByteArray × β)}, (l.map (·.1)).Nodup → (p ∈ drop_ s l ↔ p ∈ l ∧ p.1 ≠ s)
  | [], _ => by simp [drop_]
  | q :: l, hn => by
    rw [List.map_cons, List.nodup_cons] at hn
    by_cases hq : q.1 = s
    · simp only [drop_, hq, if_true, List.mem_cons]
      constructor
      · intro h
        exact ⟨.inr h, fun e => hn.1 (by rw [hq, ← e]; exact List.mem_map.2 ⟨p, h, rfl⟩)⟩
      · rintro ⟨h | h, h2⟩
        · exact absurd (h ▸ hq) h2
        · exact h
    · simp only [drop_, hq, if_false, List.mem_cons, mem_drop hn.2]
      constructor
      · rintro (h | h)
        · exact ⟨.inl h, h ▸ hq⟩
        · exact ⟨.inr h.1, h.2⟩
      · rintro ⟨h | h, h2⟩
        · exact .inl h
        · exact .inr ⟨h, h2⟩
theorem nodup_put {β : Type} {s : ByteArray} {v : β} : ∀ {l : List (ByteArray × β)}, (l.map (·.1)).Nodup → ((put s v l).map (·.1)).Nodup
  | [], _ => by simp [put]
  | q :: l, hn => by
    have hn' := hn
    rw [List.map_cons, List.nodup_cons] at hn
    by_cases hq : q.1 = s
    · simp only [put, hq, if_true, List.map_cons]
      rw [List.map_cons, hq] at hn'
      exact hn'
    · simp only [put, hq, if_false, List.map_cons]
      refine List.nodup_cons.2 ⟨fun h => ?_, nodup_put hn.2⟩
      obtain ⟨p, hp, e⟩ := List.mem_map.1 h
      rcases (mem_put hn.2).1 hp with rfl | ⟨hp, _⟩
      · exact hq e.symm
      · exact hn.1 (e ▸ List.mem_map.2 ⟨p, hp, rfl⟩)
theorem nodup_drop {β : Type} {s : ByteArray} {l : List (ByteArray × β)} (hn : (l.map (·.1)).Nodup) : ((drop_ s l).map (·.1)).Nodup := by
  induction l with
  | nil => simp [drop_]
  | cons q l ih =>
    rw [List.map_cons, List.nodup_cons] at hn
    by_cases hq : q.1 = s
    · simp only [drop_, hq, if_true]
      exact hn.2
    · simp only [drop_, hq, if_false, List.map_cons]
      refine List.nodup_cons.2 ⟨fun h => ?_, ih hn.2⟩
      obtain ⟨p, hp, e⟩ := List.mem_map.1 h
      exact hn.1 (e ▸ List.mem_map.2 ⟨p, ((mem_drop hn.2).1 hp).1, rfl⟩)
theorem Rel.find {st : FS} {S : PS} {nos : List Nat} (h : Rel st S nos) (s : ByteArray) :
    (findP s S.l = none ∧ fnd s st.files = none) ∨ ∃ f g, findP s S.l = some f ∧ f ∈ S.l ∧ f.name = s ∧ fnd s st.files = some g ∧ (s, g) ∈ st.files ∧ st.sb g = f.b ∧ st.sz g = (bytesP f).length ∧ f.row = rowOf st.row nos g ∧ bytesP f = allL st g := by
  cases hf : findP s S.l with
  | none =>
    left
    refine ⟨rfl, ?_⟩
    cases hg : fnd s st.files with
    | none => rfl
    | some g =>
      obtain ⟨f, h1, h2⟩ := h.bwd _ (fnd_mem hg)
      exact absurd h2 (findP_none hf f h1)
  | some f =>
    right
    obtain ⟨h1, h2⟩ := findP_some hf
    obtain ⟨g, h3, h4, h5, h6⟩ := h.fwd f h1
    rw [h2] at h3
    exact ⟨f, g, rfl, h1, h2, fnd_of_mem h.nd h3, h3, h4, h5, h6, bytesP_row h.nlen h4 h6⟩
theorem Rel.read {st : FS} {S : PS} {nos : List Nat} (h : Rel st S nos) (s : ByteArray) : readL st s = readP S s := by
  unfold readL readP
  rw [h.down]
  split
  · rfl
  · rcases h.find s with ⟨h1, h2⟩ | ⟨f, g, h1, _, _, h2, _, _, _, _, h3⟩
    · rw [h1, h2]
    · rw [h1, h2]
      simp only [h3]
end Go.Proofs.Ytcpkoajnepijkaa
namespace Go.Proofs.Ytcpkoajnepijkaa
open Go.RowKit Go.Proofs.YtcpkoajnepijkaaL
def nosBut (row : List Wr) (nos : List Nat) (g : Nat) : List Nat := ((row.zip nos).filter fun x => !(x.1.tgt == g)).map (·.2)
theorem zip_but (g : Nat) : ∀ (row : List Wr) (nos : List Nat), nos.length = row.length → (row.filter fun x => !(x.tgt == g)).zip (nosBut row nos g) = (row.zip nos).filter fun x => !(x.1.tgt == g)
  | [], nos, h => by simp
  | x :: row, [], h => by simp at h
  | x :: row, n :: nos, h => by
    have ih := zip_but g row nos (by simpa using h)
    unfold nosBut at ih ⊢
    by_cases hx : x.tgt = g
    · simp only [List.zip_cons_cons]
      rw [List.filter_cons_of_neg (by simp [hx]), List.filter_cons_of_neg (by simp [hx])]
      exact ih
    · simp only [List.zip_cons_cons]
      rw [List.filter_cons_of_pos (by simp [hx]), List.filter_cons_of_pos (by simp [hx]), List.map_cons, List.zip_cons_cons, ih]
theorem length_but (g : Nat) (row : List Wr) (nos : List Nat) (h : nos.length = row.length) : (nosBut row nos g).length = (row.filter fun x => !(x.tgt == g)).length := by
  have e : (row.zip nos).map (·.1) = row := List.map_fst_zip (by omega)
  have : ((row.zip nos).filter fun x => !(x.1.tgt == g)).map (·.1) = row.filter fun x => !(x.tgt == g) := by
    conv => rhs; rw [← e, List.filter_map]
    rfl
  rw [← this]
  simp [nosBut]
theorem sub_but (g : Nat) (row : List Wr) (nos : List Nat) (h : nos.length = row.length) : (nosBut row nos g).Sublist nos := by
  have e : (row.zip nos).map (·.2) = nos := List.map_snd_zip (by omega)
  have h2 : (nosBut row nos g).Sublist ((row.zip nos).map (·.2)) := List.Sublist.map _ List.filter_sublist
  rwa [e] at h2
theorem rowOf_but (g k : Nat) (row : List Wr) (nos : List Nat) (h : nos.length = row.length) : rowOf (row.filter fun x => !(x.tgt == g)) (nosBut row nos g) k = if k = g then [] else rowOf row nos k := by
  unfold rowOf
  rw [zip_but g row nos h, List.filter_filter]
  split
  · rename_i e
    subst e
    have : ((row.zip nos).filter fun x => (x.1.tgt == k) && !(x.1.tgt == k)) = [] := List.filter_eq_nil_iff.2 (fun x _ => by simp)
    rw [this]
    rfl
  · rename_i e
    congr 1
    refine List.filter_congr (fun x _ => ?_)
    by_cases hx : x.1.tgt = k
    · have : ¬ x.1.tgt = g := fun h => e (hx.symm.trans h)
      simp [hx, e]
    · simp [hx]
section
variable {st : FS} {S : PS} {nos : List Nat}
theorem Rel.count (h : Rel st S nos) : Rel (opS st) (countP S) nos :=
  ⟨h.sorted, h.len, h.nd, h.inj, h.fwd, h.bwd, h.rows, h.nlen, h.ninc, h.nlt, congrArg (· + 1) h.ops, by show decP S.fuse = _; rw [h.fuse]; rfl, h.fault, by show (S.fuse == 0) = _; rw [h.fuse]; rfl⟩
theorem Rel.fault_ (h : Rel st S nos) : Rel (faultS st) { S with fault := decP S.fault } nos :=
  ⟨h.sorted, h.len, h.nd, h.inj, h.fwd, h.bwd, h.rows, h.nlen, h.ninc, h.nlt, h.ops, h.fuse, by show decP S.fault = _; rw [h.fault]; rfl, h.down⟩
theorem Rel.arm (h : Rel st S nos) (n : Int) : Rel { st with fuse := n } { S with fuse := n } nos := ⟨h.sorted, h.len, h.nd, h.inj, h.fwd, h.bwd, h.rows, h.nlen, h.ninc, h.nlt, h.ops, rfl, h.fault, h.down⟩
theorem Rel.armFault (h : Rel st S nos) (n : Int) : Rel { st with fault := n } { S with fault := n } nos := ⟨h.sorted, h.len, h.nd, h.inj, h.fwd, h.bwd, h.rows, h.nlen, h.ninc, h.nlt, h.ops, h.fuse, rfl, h.down⟩
theorem Rel.set (h : Rel st S nos) {f : PF} {g : Nat} (hf : f ∈ S.l) (hg : (f.name, g) ∈ st.files) {b : List Int} :
    Rel { forgetS st g with sb := upd st.sb g b, sz := upd st.sz g b.length } { S with l := withP { f with b := b, row := [] } S.l } (nosBut st.row nos g) := by
  have hfn := findP_of h.sorted hf
  have hne : ∀ f0 g0, (f0, g0) ∈ st.files → f0 ≠ f.name → g0 ≠ g := fun f0 g0 h0 hn e => hn (congrArg Prod.fst (h.inj _ h0 _ hg e))
  refine ⟨sorted_withP h.sorted, ?_, h.nd, h.inj, fun f0 h0 => ?_, fun p hp => ?_, fun x hx => h.rows x (List.mem_filter.1 hx).1, ?_, h.ninc.sublist (sub_but g _ _ h.nlen), fun n hn => h.nlt n ((sub_but g _ _ h.nlen).subset hn), h.ops, h.fuse, h.fault, h.down⟩
  · show st.files.length = _
    rw [h.len, withP, length_insP, length_withoutP h.sorted hfn]
  · rcases mem_withP.1 h0 with rfl | ⟨h0, hn⟩
    · refine ⟨g, hg, upd_same _ _ _, ?_, ?_⟩
      · show upd st.sz g b.length g = _
        rw [upd_same]; rfl
      · show [] = rowOf _ _ g
        rw [show (forgetS st g).row = st.row.filter fun x => !(x.tgt == g) from rfl, rowOf_but g g _ _ h.nlen, if_pos rfl]
    · obtain ⟨g0, h1, h2, h3, h4⟩ := h.fwd f0 h0
      have hg0 := hne _ _ h1 hn
      refine ⟨g0, h1, ?_, ?_, ?_⟩
      · show upd st.sb g b g0 = _
        rw [upd_other _ _ hg0, h2]
      · show upd st.sz g b.length g0 = _
        rw [upd_other _ _ hg0, h3]
      · rw [h4, show (forgetS st g).row = st.row.filter fun x => !(x.tgt == g) from rfl, rowOf_but g g0 _ _ h.nlen, if_neg hg0]
  · obtain ⟨f0, h1, h2⟩ := h.bwd p hp
    by_cases e : p.1 = f.name
    · exact ⟨_, mem_withP.2 (.inl rfl), e.symm⟩
    · exact ⟨f0, mem_withP.2 (.inr ⟨h1, fun e2 => e (h2.symm.trans e2)⟩), h2⟩
  · rw [length_but g _ _ h.nlen]; rfl
theorem Rel.remove (h : Rel st S nos) {f : PF} {g : Nat} (hf : f ∈ S.l) (hg : (f.name, g) ∈ st.files) :
    Rel { forgetS st g with files := drop_ f.name st.files } { S with l := withoutP f.name S.l } (nosBut st.row nos g) := by
  have hfn := findP_of h.sorted hf
  have hne : ∀ f0 g0, (f0, g0) ∈ st.files → f0 ≠ f.name → g0 ≠ g := fun f0 g0 h0 hn e => hn (congrArg Prod.fst (h.inj _ h0 _ hg e))
  refine ⟨sorted_withoutP h.sorted, ?_, nodup_drop h.nd, fun p hp q hq => h.inj p ((mem_drop h.nd).1 hp).1 q ((mem_drop h.nd).1 hq).1, fun f0 h0 => ?_, fun p hp => ?_, fun x hx => ?_, ?_, h.ninc.sublist (sub_but g _ _ h.nlen), fun n hn => h.nlt n ((sub_but g _ _ h.nlen).subset hn), h.ops, h.fuse, h.fault, h.down⟩
  · show (drop_ f.name st.files).length = (withoutP f.name S.l).length
    have h1 := length_withoutP h.sorted hfn
    have h2 := length_drop (s := f.name) (l := st.files) (by rw [fnd_of_mem h.nd hg]; rfl)
    have h3 := h.len
    omega
  · obtain ⟨h0, hn⟩ := mem_withoutP.1 h0
    obtain ⟨g0, h1, h2, h3, h4⟩ := h.fwd f0 h0
    have hg0 := hne _ _ h1 hn
    refine ⟨g0, (mem_drop h.nd).2 ⟨h1, hn⟩, h2, h3, ?_⟩
    rw [h4, show (forgetS st g).row = st.row.filter fun x => !(x.tgt == g) from rfl, rowOf_but g g0 _ _ h.nlen, if_neg hg0]
  · obtain ⟨hp, hn⟩ := (mem_drop h.nd).1 hp
    obtain ⟨f0, h1, h2⟩ := h.bwd p hp
    exact ⟨f0, mem_withoutP.2 ⟨h1, fun e => hn (h2.symm.trans e)⟩, h2⟩
  · obtain ⟨hx, hx2⟩ := List.mem_filter.1 hx
    obtain ⟨s, hs⟩ := h.rows x hx
    refine ⟨s, (mem_drop h.nd).2 ⟨hs, fun e => ?_⟩⟩
    have := congrArg Prod.snd (h.inj _ hs _ hg (by
      have e2 : (s, x.tgt) = (f.name, x.tgt) := by rw [show s = f.name from e]
      have h5 := fnd_of_mem h.nd hs
      have h6 := fnd_of_mem h.nd hg
      rw [show s = f.name from e, h6] at h5
      exact (Option.some.inj h5).symm))
    simp at hx2
    exact hx2 this
  · rw [length_but g _ _ h.nlen]; rfl
end
end Go.Proofs.Ytcpkoajnepijkaa
namespace Go.Proofs.Ytcpkoajnepijkaa
open Go.RowKit Go.Proofs.YtcpkoajnepijkaaL
section
variable {st : FS} {S : PS} {nos : List Nat}
theorem Rel.files (h : Rel st S nos) {files : List (ByteArray × Nat)} (hm : ∀ p, p ∈ files ↔ p ∈ st.files) (hn : (files.map (·.1)).Nodup) (hl : files.length = st.files.length) : Rel { st with files } S nos := by
  refine ⟨h.sorted, hl.trans h.len, hn, fun p hp q hq => h.inj p ((hm p).1 hp) q ((hm q).1 hq), fun f hf => ?_, fun p hp => h.bwd p ((hm p).1 hp), fun x hx => ?_, h.nlen, h.ninc, h.nlt, h.ops, h.fuse, h.fault, h.down⟩
  · obtain ⟨g, h1, h2⟩ := h.fwd f hf
    exact ⟨g, (hm _).2 h1, h2⟩
  · obtain ⟨s, hs⟩ := h.rows x hx
    exact ⟨s, (hm _).2 hs⟩
theorem Rel.fndNone (h : Rel st S nos) {t : ByteArray} (ht : findP t S.l = none) : fnd t st.files = none := by
  rcases h.find t with ⟨_, h2⟩ | ⟨f, g, h1, _⟩
  · exact h2
  · rw [ht] at h1; cases h1
theorem fnd_none_mem {β : Type} {s : ByteArray} : ∀ {l : List (ByteArray × β)}, fnd s l = none → ∀ p ∈ l, p.1 ≠ s
  | [], _, p, hp => by cases hp
  | q :: l, h, p, hp => by
    by_cases hq : q.1 = s
    · simp [fnd, hq] at h
    · rw [fnd, if_neg hq] at h
      rcases List.mem_cons.1 hp with rfl | hp
      · exact hq
      · exact fnd_none_mem h p hp
theorem Rel.rename1 (h : Rel st S nos) {f : PF} {g : Nat} (hf : f ∈ S.l) (hg : (f.name, g) ∈ st.files) {t : ByteArray} (ht : findP t S.l = none) :
    Rel { st with files := put t g (drop_ f.name st.files) } { S with l := withP { f with name := t } (withoutP f.name S.l) } nos := by
  have hfn := findP_of h.sorted hf
  have htn := fnd_none_mem (h.fndNone ht)
  have hnd := nodup_drop (s := f.name) h.nd
  have hft : fnd t (drop_ f.name st.files) = none := by
    cases hx : fnd t (drop_ f.name st.files) with
    | none => rfl
    | some k => exact absurd rfl (htn _ ((mem_drop h.nd).1 (fnd_mem hx)).1)
  have hpt : findP t (withoutP f.name S.l) = none := by
    cases hx : findP t (withoutP f.name S.l) with
    | none => rfl
    | some x =>
      obtain ⟨h1, h2⟩ := findP_some hx
      exact absurd h2 (findP_none ht x (mem_withoutP.1 h1).1)
  have hmem : ∀ p, p ∈ put t g (drop_ f.name st.files) ↔ p = (t, g) ∨ (p ∈ st.files ∧ p.1 ≠ f.name) := fun p => by
    rw [mem_put hnd, mem_drop h.nd]
    constructor
    · rintro (h | h)
      · exact .inl h
      · exact .inr h.1
    · rintro (h | h)
      · exact .inl h
      · exact .inr ⟨h, htn _ h.1⟩
  refine ⟨sorted_withP (sorted_withoutP h.sorted), ?_, nodup_put hnd, fun p hp q hq e => ?_, fun f0 h0 => ?_, fun p hp => ?_, fun x hx => ?_, h.nlen, h.ninc, h.nlt, h.ops, h.fuse, h.fault, h.down⟩
  · show (put t g (drop_ f.name st.files)).length = (withP { f with name := t } (withoutP f.name S.l)).length
    rw [length_put, hft, withP, length_insP, withoutP_none hpt]
    have h1 := length_withoutP h.sorted hfn
    have h2 := length_drop (s := f.name) (l := st.files) (by rw [fnd_of_mem h.nd hg]; rfl)
    have h3 := h.len
    simp
    omega
  · rcases (hmem p).1 hp with rfl | ⟨hp1, hp2⟩
    · rcases (hmem q).1 hq with rfl | ⟨hq1, hq2⟩
      · rfl
      · exact absurd (congrArg Prod.fst (h.inj q hq1 _ hg e.symm)) hq2
    · rcases (hmem q).1 hq with rfl | ⟨hq1, hq2⟩
      · exact absurd (congrArg Prod.fst (h.inj p hp1 _ hg e)) hp2
      · exact h.inj p hp1 q hq1 e
  · rcases mem_withP.1 h0 with rfl | ⟨h0, _⟩
    · obtain ⟨g', h1, h2, h3, h4⟩ := h.fwd f hf
      have : g' = g := by
        have a := fnd_of_mem h.nd h1
        rw [fnd_of_mem h.nd hg] at a
        exact (Option.some.inj a).symm
      subst this
      exact ⟨g', (hmem _).2 (.inl rfl), h2, h3, h4⟩
    · obtain ⟨h0, hn⟩ := mem_withoutP.1 h0
      obtain ⟨g0, h1, h2, h3, h4⟩ := h.fwd f0 h0
      exact ⟨g0, (hmem _).2 (.inr ⟨h1, hn⟩), h2, h3, h4⟩
  · rcases (hmem p).1 hp with rfl | ⟨hp1, hp2⟩
    · exact ⟨_, mem_withP.2 (.inl rfl), rfl⟩
    · obtain ⟨f0, h1, h2⟩ := h.bwd p hp1
      exact ⟨f0, mem_withP.2 (.inr ⟨mem_withoutP.2 ⟨h1, fun e => hp2 (h2.symm.trans e)⟩, fun e => htn _ hp1 (h2.symm.trans e)⟩), h2⟩
  · obtain ⟨s, hs⟩ := h.rows x hx
    by_cases e : s = f.name
    · have : x.tgt = g := by
        have a := fnd_of_mem h.nd hs
        rw [e, fnd_of_mem h.nd hg] at a
        exact (Option.some.inj a).symm
      exact ⟨t, (hmem _).2 (.inl (by rw [this]))⟩
    · exact ⟨s, (hmem _).2 (.inr ⟨hs, e⟩)⟩
theorem rowOf_snoc {row : List Wr} {nos : List Nat} (h : nos.length = row.length) (x : Wr) (n k : Nat) : rowOf (row ++ [x]) (nos ++ [n]) k = rowOf row nos k ++ (if x.tgt = k then [⟨n, x.at_, x.b⟩] else []) := by
  unfold rowOf
  rw [List.zip_append h.symm, List.filter_append, List.map_append]
  congr 1
  by_cases e : x.tgt = k
  · simp [e]
  · simp [e]
theorem Rel.append (h : Rel st S nos) {f : PF} {g : Nat} (hf : f ∈ S.l) (hg : (f.name, g) ∈ st.files) {b : List Int} :
    Rel { st with files := put f.name g st.files, row := st.row ++ [⟨g, st.sz g, b⟩], sz := upd st.sz g (st.sz g + b.length) } { S with l := withP { f with row := f.row ++ [⟨S.no, (bytesP f).length, b⟩] } S.l, no := S.no + 1 } (nos ++ [S.no]) := by
  have hfn := findP_of h.sorted hf
  have hfg := fnd_of_mem h.nd hg
  have hmem : ∀ p, p ∈ put f.name g st.files ↔ p ∈ st.files := fun p => by
    rw [mem_put h.nd]
    constructor
    · rintro (rfl | h)
      · exact hg
      · exact h.1
    · intro hp
      by_cases e : p.1 = f.name
      · left
        have a := fnd_of_mem h.nd (s := p.1) (b := p.2) hp
        rw [e, hfg] at a
        exact Prod.ext e (Option.some.inj a).symm
      · exact .inr ⟨hp, e⟩
  have hne : ∀ f0 g0, (f0, g0) ∈ st.files → f0 ≠ f.name → g0 ≠ g := fun f0 g0 h0 hn e => hn (congrArg Prod.fst (h.inj _ h0 _ hg e))
  obtain ⟨g', h1, h2, h3, h4⟩ := h.fwd f hf
  have hgg : g' = g := by
    have a := fnd_of_mem h.nd h1
    rw [hfg] at a
    exact (Option.some.inj a).symm
  subst hgg
  refine ⟨sorted_withP h.sorted, ?_, nodup_put h.nd, fun p hp q hq => h.inj p ((hmem p).1 hp) q ((hmem q).1 hq), fun f0 h0 => ?_, fun p hp => ?_, fun x hx => ?_, by simp [h.nlen], ?_, ?_, h.ops, h.fuse, h.fault, h.down⟩
  · show (put f.name g' st.files).length = (withP _ S.l).length
    rw [length_put, hfg, withP, length_insP, length_withoutP h.sorted hfn]
    exact h.len
  · rcases mem_withP.1 h0 with rfl | ⟨h0, hn⟩
    · refine ⟨g', (hmem _).2 hg, h2, ?_, ?_⟩
      · show upd st.sz g' (st.sz g' + b.length) g' = _
        rw [upd_same]
        have e : bytesP { f with row := f.row ++ [⟨S.no, (bytesP f).length, b⟩] } = overP (bytesP f) ⟨S.no, (bytesP f).length, b⟩ := by simp [bytesP]
        rw [e, h3]
        show _ = (laidL (bytesP f) (bytesP f).length b).length
        rw [laidL_length]
        split <;> omega
      · show f.row ++ _ = rowOf (st.row ++ [⟨g', st.sz g', b⟩]) (nos ++ [S.no]) g'
        rw [rowOf_snoc h.nlen, if_pos rfl, h4, h3]
    · obtain ⟨g0, a1, a2, a3, a4⟩ := h.fwd f0 h0
      have hg0 := hne _ _ a1 hn
      refine ⟨g0, (hmem _).2 a1, a2, ?_, ?_⟩
      · show upd st.sz g' (st.sz g' + b.length) g0 = _
        rw [upd_other _ _ hg0, a3]
      · show f0.row = rowOf (st.row ++ [⟨g', st.sz g', b⟩]) (nos ++ [S.no]) g0
        rw [rowOf_snoc h.nlen, if_neg (Ne.symm hg0), List.append_nil, a4]
  · obtain ⟨f0, a1, a2⟩ := h.bwd p ((hmem p).1 hp)
    by_cases e : p.1 = f.name
    · exact ⟨_, mem_withP.2 (.inl rfl), e.symm⟩
    · exact ⟨f0, mem_withP.2 (.inr ⟨a1, fun e2 => e (a2.symm.trans e2)⟩), a2⟩
  · rcases List.mem_append.1 hx with hx | hx
    · obtain ⟨s, hs⟩ := h.rows x hx
      exact ⟨s, (hmem _).2 hs⟩
    · rw [List.mem_singleton.1 hx]
      exact ⟨f.name, (hmem _).2 hg⟩
  · rw [List.pairwise_append]
    refine ⟨h.ninc, List.pairwise_singleton _ _, fun a ha b hb => ?_⟩
    rw [List.mem_singleton.1 hb]
    exact h.nlt a ha
  · intro n hn
    rcases List.mem_append.1 hn with hn | hn
    · have := h.nlt n hn
      show n < S.no + 1
      omega
    · rw [List.mem_singleton.1 hn]
      show S.no < S.no + 1
      omega
theorem Rel.create (h : Rel st S nos) {s : ByteArray} (hs : findP s S.l = none) {k : Nat} (hk : ∀ p ∈ st.files, p.2 ≠ k) {live : List Nat} :
    Rel { st with live := live, files := put s k st.files, sb := upd st.sb k [], sz := upd st.sz k 0 } { S with l := withP ⟨s, [], []⟩ S.l } nos := by
  have hfs := h.fndNone hs
  have hsn := fnd_none_mem hfs
  have hmem : ∀ p, p ∈ put s k st.files ↔ p = (s, k) ∨ p ∈ st.files := fun p => by
    rw [mem_put h.nd]
    constructor
    · rintro (h | h)
      · exact .inl h
      · exact .inr h.1
    · rintro (h | h)
      · exact .inl h
      · exact .inr ⟨h, hsn _ h⟩
  have hrk : ∀ x ∈ st.row, x.tgt ≠ k := fun x hx e => by
    obtain ⟨s', hs'⟩ := h.rows x hx
    exact hk _ hs' e
  have hro : rowOf st.row nos k = [] := by
    unfold rowOf
    rw [List.filter_eq_nil_iff.2 (fun x hx => by
      have := hrk x.1 (List.of_mem_zip hx).1
      simpa using this)]
    rfl
  refine ⟨sorted_withP h.sorted, ?_, nodup_put h.nd, fun p hp q hq e => ?_, fun f0 h0 => ?_, fun p hp => ?_, fun x hx => ?_, h.nlen, h.ninc, h.nlt, h.ops, h.fuse, h.fault, h.down⟩
  · show (put s k st.files).length = (withP ⟨s, [], []⟩ S.l).length
    rw [length_put, hfs, withP, length_insP, withoutP_none hs, h.len]
    rfl
  · rcases (hmem p).1 hp with rfl | hp1
    · rcases (hmem q).1 hq with rfl | hq1
      · rfl
      · exact absurd e.symm (hk q hq1)
    · rcases (hmem q).1 hq with rfl | hq1
      · exact absurd e (hk p hp1)
      · exact h.inj p hp1 q hq1 e
  · rcases mem_withP.1 h0 with rfl | ⟨h0, _⟩
    · refine ⟨k, (hmem _).2 (.inl rfl), upd_same _ _ _, ?_, ?_⟩
      · show upd st.sz k 0 k = _
        rw [upd_same]; rfl
      · show [] = rowOf st.row nos k
        rw [hro]
    · obtain ⟨g0, a1, a2, a3, a4⟩ := h.fwd f0 h0
      have hg0 := hk _ a1
      refine ⟨g0, (hmem _).2 (.inr a1), ?_, ?_, a4⟩
      · show upd st.sb k [] g0 = _
        rw [upd_other _ _ hg0, a2]
      · show upd st.sz k 0 g0 = _
        rw [upd_other _ _ hg0, a3]
  · rcases (hmem p).1 hp with rfl | hp1
    · exact ⟨_, mem_withP.2 (.inl rfl), rfl⟩
    · obtain ⟨f0, a1, a2⟩ := h.bwd p hp1
      exact ⟨f0, mem_withP.2 (.inr ⟨a1, fun e => hsn _ hp1 (a2.symm.trans e)⟩), a2⟩
  · obtain ⟨s', hs'⟩ := h.rows x hx
    exact ⟨s', (hmem _).2 (.inr hs')⟩
end
end Go.Proofs.Ytcpkoajnepijkaa
namespace Go.Proofs.Ytcpkoajnepijkaa
open Go.RowKit Go.Proofs.YtcpkoajnepijkaaL
section
variable {st : FS} {S : PS} {nos : List Nat}
theorem Rel.begin_ (h : Rel st S nos) (s : ByteArray) (may : Bool) :
    (∃ n st' S', begunL st s may = (none, n, st') ∧ beginP S s may = (none, n, S') ∧ Rel st' S' nos) ∨
    ∃ f g, begunL st s may = (some g, 0, opS st) ∧ beginP S s may = (some f, 0, countP S) ∧ f ∈ S.l ∧ f.name = s ∧ fnd s st.files = some g ∧ (s, g) ∈ st.files ∧ st.sz g = (bytesP f).length ∧ bytesP f = allL st g := by
  unfold begunL beginP
  rw [h.down]
  by_cases hd : st.down = true
  · exact .inl ⟨_, _, _, by rw [if_pos hd], by rw [if_pos hd], h⟩
  · rw [if_neg hd, if_neg hd]
    rcases h.find s with ⟨h1, h2⟩ | ⟨f, g, h1, h1m, h1n, h2, h2m, _, h3, _, h4⟩
    · rw [h1, h2]
      exact .inl ⟨_, _, _, rfl, rfl, h⟩
    · rw [h1, h2]
      simp only
      cases may with
      | false => exact .inl ⟨_, _, _, rfl, rfl, h⟩
      | true =>
        rw [h.fuse]
        cases hf : (st.fuse == 0) with
        | true => exact .inl ⟨100, _, _, by simp, by simp, h.count⟩
        | false => exact .inr ⟨f, g, by simp, by simp, h1m, h1n, rfl, h2m, h3, h4⟩
theorem Rel.sync (h : Rel st S nos) (s : ByteArray) : (syncL st s).1 = (syncP S s).1 ∧ ∃ nos', Rel (syncL st s).2 (syncP S s).2 nos' := by
  unfold syncL syncP
  rcases h.begin_ s true with ⟨n, st', S', h1, h2, h3⟩ | ⟨f, g, h1, h2, hf, hn, hg, hgm, hsz, hb⟩
  · rw [h1, h2]
    exact ⟨rfl, _, h3⟩
  · rw [h1, h2]
    refine ⟨rfl, nosBut st.row nos g, ?_⟩
    subst hn
    have := h.count.set hf hgm (b := bytesP f)
    rw [← hsz, hb] at this
    simp only
    rw [hb]
    exact this
theorem Rel.cut (h : Rel st S nos) (s : ByteArray) (k : Int) : (cutL st s k).1 = (cutP S s k).1 ∧ ∃ nos', Rel (cutL st s k).2 (cutP S s k).2 nos' := by
  unfold cutL cutP
  rcases h.begin_ s true with ⟨n, st', S', h1, h2, h3⟩ | ⟨f, g, h1, h2, hf, hn, hg, hgm, hsz, hb⟩
  · rw [h1, h2]
    exact ⟨rfl, _, h3⟩
  · rw [h1, h2]
    refine ⟨rfl, nosBut st.row nos g, ?_⟩
    subst hn
    have := h.count.set hf hgm (b := (bytesP f).take (cutN k (bytesP f).length))
    rw [List.length_take, Nat.min_eq_left (cutN_le _ _), hb] at this
    simp only
    rw [hb]
    exact this
theorem Rel.remove_ (h : Rel st S nos) (s : ByteArray) : (removeL st s).1 = (removeP S s).1 ∧ ∃ nos', Rel (removeL st s).2 (removeP S s).2 nos' := by
  unfold removeL removeP
  rcases h.begin_ s true with ⟨n, st', S', h1, h2, h3⟩ | ⟨f, g, h1, h2, hf, hn, hg, hgm, hsz, hb⟩
  · rw [h1, h2]
    exact ⟨rfl, _, h3⟩
  · rw [h1, h2]
    subst hn
    exact ⟨rfl, nosBut st.row nos g, h.count.remove hf hgm⟩
theorem withoutP_comm (s t : ByteArray) (l : List PF) : withoutP s (withoutP t l) = withoutP t (withoutP s l) := by
  unfold withoutP
  rw [List.filter_filter, List.filter_filter]
  exact List.filter_congr (fun x _ => Bool.and_comm _ _)
theorem withoutP_idem (s : ByteArray) (l : List PF) : withoutP s (withoutP s l) = withoutP s l := by
  unfold withoutP
  rw [List.filter_filter]
  exact List.filter_congr (fun x _ => Bool.and_self _)
theorem withoutP_ins {f : PF} : ∀ l : List PF, withoutP f.name (insP f l) = withoutP f.name l
  | [] => by simp [insP, withoutP]
  | y :: l => by
    unfold insP
    split
    · unfold withoutP
      rw [List.filter_cons_of_neg (by simp)]
    · have ih := withoutP_ins (f := f) l
      unfold withoutP at ih ⊢
      by_cases hy : y.name = f.name
      · rw [List.filter_cons_of_neg (by simp [hy]), List.filter_cons_of_neg (by simp [hy]), ih]
      · rw [List.filter_cons_of_pos (by simp [hy]), List.filter_cons_of_pos (by simp [hy]), ih]
theorem withP_withP {f f' : PF} (e : f'.name = f.name) (l : List PF) : withP f' (withP f l) = withP f' l := by
  unfold withP
  rw [e, withoutP_ins, withoutP_idem]
theorem ins_without {f : PF} : ∀ {l : List PF}, SortedP l → f ∈ l → insP f (withoutP f.name l) = l
  | [], _, h => by cases h
  | y :: l, hs, h => by
    have h' := List.pairwise_cons.1 hs
    by_cases hy : y.name = f.name
    · have hyf : y = f := sortedP_uniq hs y List.mem_cons_self f h hy
      subst hyf
      have e : withoutP y.name l = l := List.filter_eq_self.2 (fun x hx => by
        have := ltN_ne (h'.1 x hx)
        have h3 : ¬ x.name = y.name := fun e => this e.symm
        simp [h3])
      have e2 : withoutP y.name (y :: l) = l := by
        show List.filter _ (y :: l) = l
        rw [List.filter_cons_of_neg (by simp)]
        exact e
      rw [e2]
      cases l with
      | nil => rfl
      | cons z l => rw [insP, if_pos (h'.1 z List.mem_cons_self)]
    · have hf : f ∈ l := by
        rcases List.mem_cons.1 h with h | h
        · exact absurd (by rw [h]) hy
        · exact h
      have e2 : withoutP f.name (y :: l) = y :: withoutP f.name l := by
        show List.filter _ (y :: l) = _
        rw [List.filter_cons_of_pos (by simp [hy])]
        rfl
      have hyf := h'.1 f hf
      have hn : ¬ ltN f.name y.name = true := fun e => by
        have := ltN_trans hyf e
        rw [ltN_irr] at this
        cases this
      rw [e2, insP, if_neg hn, ins_without h'.2 hf]
theorem Rel.rename (h : Rel st S nos) (s t : ByteArray) : (renameL st s t).1 = (renameP S s t).1 ∧ ∃ nos', Rel (renameL st s t).2 (renameP S s t).2 nos' := by
  unfold renameL renameP
  rcases h.begin_ s (namedB t) with ⟨n, st', S', h1, h2, h3⟩ | ⟨f, g, h1, h2, hf, hn, hg, hgm, hsz, hb⟩
  · rw [h1, h2]
    exact ⟨rfl, _, h3⟩
  · rw [h1, h2]
    subst hn
    by_cases hst : f.name = t
    · subst hst
      simp only [if_true]
      refine ⟨trivial, nos, ?_⟩
      have e : withP { f with name := f.name } (withoutP f.name (countP S).l) = (countP S).l := by
        show insP f (withoutP f.name (withoutP f.name S.l)) = S.l
        rw [withoutP_idem]
        exact ins_without h.sorted hf
      rw [e]
      exact h.count
    · simp only [hst, if_false]
      rcases h.find t with ⟨t1, t2⟩ | ⟨f2, old, t1, t1m, t1n, t2, t2m, _⟩
      · refine ⟨trivial, nos, ?_⟩
        have := h.count.rename1 hf hgm t1
        unfold renameS
        rw [show (opS st).files = st.files from rfl, t2]
        exact this
      · refine ⟨trivial, nosBut st.row nos old, ?_⟩
        subst t1n
        have hr := h.count.remove t1m t2m
        have hd := nodup_drop (s := f2.name) h.nd
        have ht' : findP f2.name (withoutP f2.name S.l) = none := by
          cases hx : findP f2.name (withoutP f2.name S.l) with
          | none => rfl
          | some x => exact absurd (findP_some hx).2 (mem_withoutP.1 (findP_some hx).1).2
        have h2 := hr.rename1 (f := f) (g := g) (t := f2.name) (mem_withoutP.2 ⟨hf, hst⟩) ((mem_drop h.nd).2 ⟨hgm, hst⟩) ht'
        have h3 := h2.files (files := put f2.name g (drop_ f.name st.files)) (fun p => ?_) (nodup_put (nodup_drop h.nd)) ?_
        · unfold renameS
          rw [show (opS st).files = st.files from rfl, t2]
          have e : withP { f with name := f2.name } (withoutP f.name (withoutP f2.name S.l)) = withP { f with name := f2.name } (withoutP f.name S.l) := by
            unfold withP
            simp only
            rw [withoutP_comm f.name f2.name, withoutP_idem]
          have h4 : Rel _ { countP S with l := withP { f with name := f2.name } (withoutP f.name (withoutP f2.name S.l)) } (nosBut st.row nos old) := h3
          rw [e] at h4
          exact h4
        · show p ∈ put f2.name g (drop_ f.name st.files) ↔ p ∈ put f2.name g (drop_ f.name (drop_ f2.name st.files))
          rw [mem_put (nodup_drop h.nd), mem_put (nodup_drop hd), mem_drop h.nd, mem_drop hd, mem_drop h.nd]
          constructor
          · rintro (a | ⟨⟨a, b⟩, c⟩)
            · exact .inl a
            · exact .inr ⟨⟨⟨a, c⟩, b⟩, c⟩
          · rintro (a | ⟨⟨⟨a, c⟩, b⟩, _⟩)
            · exact .inl a
            · exact .inr ⟨⟨a, b⟩, c⟩
        · show (put f2.name g (drop_ f.name st.files)).length = (put f2.name g (drop_ f.name (drop_ f2.name st.files))).length
          have hft := fnd_of_mem (nodup_drop (s := f.name) h.nd) ((mem_drop h.nd).2 ⟨t2m, fun e => hst e.symm⟩)
          have hfn : fnd f2.name (drop_ f.name (drop_ f2.name st.files)) = none := by
            cases hx : fnd f2.name (drop_ f.name (drop_ f2.name st.files)) with
            | none => rfl
            | some x => exact absurd rfl ((mem_drop h.nd).1 ((mem_drop hd).1 (fnd_mem hx)).1).2
          rw [length_put, length_put, hft, hfn]
          have l1 := length_drop (s := f.name) (l := st.files) (by rw [hg]; rfl)
          have l2 := length_drop (s := f2.name) (l := st.files) (by rw [t2]; rfl)
          have l3 := length_drop (s := f.name) (l := drop_ f2.name st.files) (by rw [fnd_of_mem hd ((mem_drop h.nd).2 ⟨hgm, hst⟩)]; rfl)
          simp
          omega
end
end Go.Proofs.Ytcpkoajnepijkaa
namespace Go.Proofs.Ytcpkoajnepijkaa
open Go.RowKit Go.Proofs.YtcpkoajnepijkaaL
section
variable {st : FS} {S : PS} {nos : List Nat}
theorem Rel.write (h : Rel st S nos) (s : ByteArray) (b : List Int) {new : Nat} (hnew : ∀ p ∈ st.files, p.2 ≠ new) : (writeL st s b new).1 = (writeP S s b).1 ∧ ∃ nos', Rel (writeL st s b new).2 (writeP S s b).2 nos' := by
  unfold writeL writeP
  rw [h.down]
  by_cases hd : st.down = true
  · rw [if_pos hd, if_pos hd]
    exact ⟨rfl, _, h⟩
  rw [if_neg hd, if_neg hd]
  rcases h.find s with ⟨h1, h2⟩ | ⟨f, g, h1, h1m, h1n, h2, h2m, _, h3, _, h4⟩
  · rw [h1, h2]
    simp only [true_and, Option.map_none, Option.getD_none, h.len]
    by_cases hn : namedB s = false ∨ 8 ≤ S.l.length
    · rw [if_pos hn, if_pos hn]
      exact ⟨rfl, _, h⟩
    rw [if_neg hn, if_neg hn]
    have hb0 : (bytesP ⟨s, [], []⟩).length = 0 := rfl
    rw [hb0]
    by_cases hfull : 0 + b.length > 65536
    · rw [if_pos hfull, if_pos hfull]
      exact ⟨rfl, _, h⟩
    rw [if_neg hfull, if_neg hfull, h.fault]
    cases hft : (st.fault == 0) with
    | true =>
      simp only [if_true]
      refine ⟨by rw [h.fuse], nos, ?_⟩
      have := h.fault_.count
      rw [h.fault] at this
      exact this
    | false =>
      simp only [Bool.false_eq_true, if_false]
      refine ⟨by rw [h.fuse], nos ++ [S.no], ?_⟩
      have hc := ((h.create h1 hnew (live := new :: st.live)).fault_.count).append (f := ⟨s, [], []⟩) (g := new) (b := b) (mem_withP.2 (.inl rfl)) (by
        show (s, new) ∈ put s new st.files
        rw [mem_put h.nd]
        exact .inl rfl)
      have hmem : ∀ p, p ∈ put s new st.files ↔ p ∈ put s new (put s new st.files) := fun p => by
        rw [mem_put (nodup_put h.nd), mem_put h.nd]
        constructor
        · rintro (a | a)
          · exact .inl a
          · exact .inr ⟨.inr a, a.2⟩
        · rintro (a | ⟨a, _⟩)
          · exact .inl a
          · exact a
      have hp : fnd s (put s new st.files) = some new := fnd_of_mem (nodup_put h.nd) (by rw [mem_put h.nd]; exact .inl rfl)
      have hc2 := hc.files (files := put s new st.files) hmem (nodup_put h.nd) (by
        show _ = (put s new (put s new st.files)).length
        rw [length_put (l := put s new st.files), hp]; rfl)
      have e0 : upd st.sz new 0 new = 0 := by simp [upd]
      have e1 : withP { (⟨s, [], []⟩ : PF) with row := [] ++ [⟨S.no, 0, b⟩] } (withP ⟨s, [], []⟩ S.l) = withP { (⟨s, [], []⟩ : PF) with row := [] ++ [⟨S.no, 0, b⟩] } S.l := withP_withP (f := ⟨s, [], []⟩) (f' := ⟨s, [], [] ++ [⟨S.no, 0, b⟩]⟩) rfl _
      rw [e0]
      have hc3 : Rel _ { countP { S with fault := decP S.fault } with l := withP { (⟨s, [], []⟩ : PF) with row := [] ++ [⟨S.no, 0, b⟩] } (withP ⟨s, [], []⟩ S.l), no := S.no + 1 } (nos ++ [S.no]) := hc2
      rw [e1, h.fault] at hc3
      have e2 : ∀ x : FS, x.sz = upd (upd st.sz new 0) new (upd st.sz new 0 new + b.length) → x.sz = upd (upd st.sz new 0) new (0 + b.length) := fun x hx => by rw [hx, e0]
      simp only [opS, faultS] at hc3 ⊢
      rw [e0] at hc3
      exact hc3
  · rw [h1, h2]
    have hcf : ¬ (namedB s = false ∨ ((some f : Option PF) = none ∧ 8 ≤ S.l.length)) ↔ ¬ namedB s = false := by simp
    have hcg : ¬ (namedB s = false ∨ ((some g : Option Nat) = none ∧ 8 ≤ st.files.length)) ↔ ¬ namedB s = false := by simp
    by_cases hn : namedB s = false
    · rw [if_pos (.inl hn), if_pos (.inl hn)]
      exact ⟨rfl, _, h⟩
    rw [if_neg (hcf.2 hn), if_neg (hcg.2 hn)]
    simp only [Option.map_some, Option.getD_some]
    rw [h3]
    by_cases hfull : (bytesP f).length + b.length > 65536
    · rw [if_pos hfull, if_pos hfull]
      exact ⟨rfl, _, h⟩
    rw [if_neg hfull, if_neg hfull, h.fault]
    cases hft : (st.fault == 0) with
    | true =>
      simp only [if_true]
      refine ⟨by rw [h.fuse], nos, ?_⟩
      have := h.fault_.count
      rw [h.fault] at this
      exact this
    | false =>
      simp only [Bool.false_eq_true, if_false]
      refine ⟨by rw [h.fuse], nos ++ [S.no], ?_⟩
      subst h1n
      have hc := (h.fault_.count).append (f := f) (g := g) (b := b) h1m h2m
      have hc3 : Rel _ { countP { S with fault := decP S.fault } with l := withP { f with row := f.row ++ [⟨S.no, (bytesP f).length, b⟩] } S.l, no := S.no + 1 } (nos ++ [S.no]) := hc
      rw [h.fault] at hc3
      simp only [opS, faultS] at hc3 ⊢
      rw [h3] at hc3
      exact hc3
theorem rowOf_map {st st' : FS} {f : Nat → Nat} {g : Nat} (nos : List Nat) (hrow : st'.row = st.row.map (fun x => { x with tgt := f x.tgt })) (hi : ∀ x ∈ st.row, f x.tgt = f g → x.tgt = g) : rowOf st'.row nos (f g) = rowOf st.row nos g := by
  rw [hrow]
  have : ∀ (row : List Wr) (nos : List Nat), (∀ x ∈ row, f x.tgt = f g → x.tgt = g) → rowOf (row.map (fun x => { x with tgt := f x.tgt })) nos (f g) = rowOf row nos g := by
    intro row
    induction row with
    | nil => intro nos _; simp [rowOf]
    | cons x row ih =>
      intro nos hi
      cases nos with
      | nil => simp [rowOf]
      | cons n nos =>
        have h2 := ih nos (fun y hy => hi y (List.mem_cons_of_mem _ hy))
        unfold rowOf at h2 ⊢
        simp only [List.map_cons, List.zip_cons_cons]
        by_cases e : x.tgt = g
        · rw [List.filter_cons_of_pos (by simp [e]), List.filter_cons_of_pos (by simp [e]), List.map_cons, List.map_cons, h2]
        · rw [List.filter_cons_of_neg (by
            have : ¬ f x.tgt = f g := fun e2 => e (hi x List.mem_cons_self e2)
            simpa using this), List.filter_cons_of_neg (by simp [e]), h2]
  exact this st.row nos hi
theorem Rel.copied (h : Rel st S nos) {st' : FS} (hnd : (st'.files.map (·.1)).Nodup) (hc : Copied st st') : Rel st' S nos := by
  obtain ⟨f, c1, c2, c3, c4, c5, _, _, c8, c9, c10, c11⟩ := hc
  have hmem : ∀ s k, (s, k) ∈ st'.files ↔ ∃ g, (s, g) ∈ st.files ∧ k = f g := fun s k => by
    constructor
    · intro hk
      have a := fnd_of_mem hnd hk
      rw [c1] at a
      cases hg : fnd s st.files with
      | none => rw [hg] at a; cases a
      | some g => rw [hg] at a; exact ⟨g, fnd_mem hg, (Option.some.inj a).symm⟩
    · rintro ⟨g, hg, rfl⟩
      refine fnd_mem ?_
      rw [c1, fnd_of_mem h.nd hg]
      rfl
  have hus : ∀ s g, (s, g) ∈ st.files → ((∃ s, fnd s st.files = some g) ∨ ∃ x ∈ st.row, x.tgt = g) := fun s g hg => .inl ⟨s, fnd_of_mem h.nd hg⟩
  refine ⟨h.sorted, c2.trans h.len, hnd, fun p hp q hq e => ?_, fun f0 h0 => ?_, fun p hp => ?_, fun x hx => ?_, by rw [c3, List.length_map]; exact h.nlen, h.ninc, h.nlt, h.ops.trans c8.symm, h.fuse.trans c9.symm, h.fault.trans c10.symm, h.down.trans c11.symm⟩
  · obtain ⟨g, hg, e1⟩ := (hmem p.1 p.2).1 hp
    obtain ⟨g', hg', e2⟩ := (hmem q.1 q.2).1 hq
    have e3 : g = g' := c4 g g' (hus _ _ hg) (hus _ _ hg') (by rw [← e1, ← e2, e])
    have := congrArg Prod.fst (h.inj _ hg _ hg' e3)
    exact Prod.ext this e
  · obtain ⟨g, h1, h2, h3, h4⟩ := h.fwd f0 h0
    obtain ⟨a1, a2⟩ := c5 g (hus _ _ h1)
    refine ⟨f g, (hmem _ _).2 ⟨g, h1, rfl⟩, a1.trans h2, a2.trans h3, ?_⟩
    rw [rowOf_map nos c3 (fun x hx e => c4 _ _ (.inr ⟨x, hx, rfl⟩) (hus _ _ h1) e), h4]
  · obtain ⟨g, hg, _⟩ := (hmem p.1 p.2).1 hp
    obtain ⟨f0, a, b⟩ := h.bwd (p.1, g) hg
    exact ⟨f0, a, b⟩
  · rw [c3] at hx
    obtain ⟨y, hy, rfl⟩ := List.mem_map.1 hx
    obtain ⟨s, hs⟩ := h.rows y hy
    exact ⟨s, (hmem _ _).2 ⟨y.tgt, hs, rfl⟩⟩
end
end Go.Proofs.Ytcpkoajnepijkaa
namespace Go.Proofs.Ytcpkoajnepijkaa
open Go.RowKit Go.Proofs.YtcpkoajnepijkaaL
theorem sum_one {t : Nat} : ∀ {ks : List Nat} (F : Nat → Nat), ks.Nodup → t ∈ ks → (ks.map fun k => (if t = k then 1 else 0) + F k).sum = 1 + (ks.map F).sum
  | [], _, _, h => by cases h
  | k :: ks, F, hn, h => by
    rw [List.nodup_cons] at hn
    simp only [List.map_cons, List.sum_cons]
    by_cases e : t = k
    · subst e
      have : (ks.map fun k => (if t = k then 1 else 0) + F k) = ks.map F := List.map_congr_left (fun x hx => by
        have : ¬ t = x := fun e => hn.1 (e ▸ hx)
        simp [this])
      rw [this]
      simp
      omega
    · have hm : t ∈ ks := by
        rcases List.mem_cons.1 h with h | h
        · exact absurd h e
        · exact h
      rw [sum_one F hn.2 hm]
      simp [e]
      omega
theorem sum_part {α : Type} {ks : List Nat} (hn : ks.Nodup) (t : α → Nat) (q : α → Bool) : ∀ {zs : List α}, (∀ z ∈ zs, t z ∈ ks) → (ks.map fun k => (zs.filter fun z => (t z == k) && q z).length).sum = (zs.filter q).length
  | [], _ => by
    simp only [List.filter_nil, List.length_nil]
    induction ks with
    | nil => rfl
    | cons k ks ih => simpa using ih (List.nodup_cons.1 hn).2
  | z :: zs, h => by
    have ih := sum_part hn t q (zs := zs) (fun y hy => h y (List.mem_cons_of_mem _ hy))
    have hz := h z List.mem_cons_self
    by_cases hq : q z = true
    · have e : (fun k => ((z :: zs).filter fun z => (t z == k) && q z).length) = fun k => (if t z = k then 1 else 0) + (zs.filter fun z => (t z == k) && q z).length := by
        funext k
        by_cases e : t z = k
        · rw [List.filter_cons_of_pos (by simp [e, hq])]
          simp [e]
          omega
        · rw [List.filter_cons_of_neg (by simp [e])]
          simp [e]
      rw [e, sum_one _ hn hz, ih, List.filter_cons_of_pos hq, List.length_cons]
      omega
    · have e : (fun k => ((z :: zs).filter fun z => (t z == k) && q z).length) = fun k => (zs.filter fun z => (t z == k) && q z).length := by
        funext k
        rw [List.filter_cons_of_neg (by simp [hq])]
      rw [e, ih, List.filter_cons_of_neg hq]
section
variable {st : FS} {S : PS} {nos : List Nat}
def gOf (st : FS) (f : PF) : Nat := (fnd f.name st.files).getD 0
theorem Rel.gOf_ (h : Rel st S nos) {f : PF} (hf : f ∈ S.l) : (f.name, gOf st f) ∈ st.files ∧ f.row = rowOf st.row nos (gOf st f) ∧ st.sb (gOf st f) = f.b := by
  obtain ⟨g, h1, h2, h3, h4⟩ := h.fwd f hf
  have : gOf st f = g := by simp [gOf, fnd_of_mem h.nd h1]
  rw [this]
  exact ⟨h1, h4, h2⟩
theorem Rel.gOfNodup (h : Rel st S nos) : (S.l.map (gOf st)).Nodup := by
  refine List.pairwise_map.2 (h.sorted.imp_of_mem (fun {x y} hx hy hlt e => ?_))
  have h1 := (h.gOf_ hx).1
  have h2 := (h.gOf_ hy).1
  have := congrArg Prod.fst (h.inj _ h1 _ h2 e)
  exact ltN_ne hlt this
theorem Rel.tgtMem (h : Rel st S nos) {x : Wr} (hx : x ∈ st.row) : x.tgt ∈ S.l.map (gOf st) := by
  obtain ⟨s, hs⟩ := h.rows x hx
  obtain ⟨f, hf, e⟩ := h.bwd _ hs
  refine List.mem_map.2 ⟨f, hf, ?_⟩
  have h1 := fnd_of_mem h.nd hs
  have e' : f.name = s := e
  simp [gOf, e', h1]
theorem Rel.sumRows (h : Rel st S nos) (q : PP → Bool) : (S.l.map fun f => (f.row.filter q).length).sum = ((st.row.zip nos).filter fun x => q ⟨x.2, x.1.at_, x.1.b⟩).length := by
  have hp := sum_part h.gOfNodup (fun x : Wr × Nat => x.1.tgt) (fun x => q ⟨x.2, x.1.at_, x.1.b⟩) (zs := st.row.zip nos) (fun z hz => h.tgtMem (List.of_mem_zip hz).1)
  rw [← hp, List.map_map]
  congr 1
  refine List.map_congr_left (fun f hf => ?_)
  rw [(h.gOf_ hf).2.1]
  unfold rowOf
  rw [List.filter_map, List.length_map, List.filter_filter]
  simp only [Function.comp_def]
  congr 1
  exact List.filter_congr (fun x _ => Bool.and_comm _ _)
theorem Rel.pending (h : Rel st S nos) : st.row.length = pendingP S := by
  have := h.sumRows (fun _ => true)
  have e1 : ∀ l : List PP, l.filter (fun _ => true) = l := fun l => List.filter_eq_self.2 (fun _ _ => rfl)
  have e2 : (st.row.zip nos).filter (fun _ => true) = st.row.zip nos := List.filter_eq_self.2 (fun _ _ => rfl)
  rw [e2, List.length_zip, h.nlen, Nat.min_self] at this
  simp only [e1] at this
  exact this.symm
theorem count_lt : ∀ {nos : List Nat} (_ : nos.Pairwise (· < ·)) {i : Nat} (hi : i < nos.length), (nos.filter fun n => decide (n < nos[i])).length = i
  | [], _, i, hi => by simp at hi
  | n :: nos, hp, 0, _ => by
    have h' := List.pairwise_cons.1 hp
    rw [List.filter_eq_nil_iff.2 (fun x hx => by
      rcases List.mem_cons.1 hx with rfl | hx
      · simp
      · have := h'.1 x hx
        simp
        omega)]
    rfl
  | n :: nos, hp, i + 1, hi => by
    have h' := List.pairwise_cons.1 hp
    have hi' : i < nos.length := by simpa using hi
    simp only [List.getElem_cons_succ]
    rw [List.filter_cons_of_pos (by simpa using h'.1 _ (List.getElem_mem hi')), List.length_cons, count_lt h'.2 hi']
theorem Rel.rank (h : Rel st S nos) {i : Nat} (hi : i < nos.length) : rankP S nos[i] = i := by
  have := h.sumRows (fun p => decide (p.no < nos[i]))
  unfold rankP
  rw [this]
  have e : ((st.row.zip nos).filter fun x => decide (x.2 < nos[i])).length = (((st.row.zip nos).map (·.2)).filter fun n => decide (n < nos[i])).length := by
    rw [List.filter_map, List.length_map]
    rfl
  rw [e, List.map_snd_zip (by rw [h.nlen]; exact Nat.le_refl _), count_lt h.ninc hi]
theorem crash_at (keep : List Bool) (g : Nat) : ∀ (l : List (Wr × Nat)) (sb : Nat → List Int), (l.foldl (crash1 keep) sb) g = l.foldl (fun b x => if x.1.tgt = g ∧ keptAt keep x.2 = true then laidL b x.1.at_ x.1.b else b) (sb g)
  | [], sb => rfl
  | x :: l, sb => by
    rw [List.foldl_cons, List.foldl_cons, crash_at keep g l]
    congr 1
    unfold crash1
    by_cases hk : keptAt keep x.2 = true
    · by_cases ht : x.1.tgt = g
      · simp [hk, ht, upd]
      · have : ¬ g = x.1.tgt := fun e => ht e.symm
        simp [hk, ht, upd, this]
    · simp [hk]
theorem Rel.zipIdx (h : Rel st S nos) : (st.row.zip nos).map (fun x => (x.1, rankP S x.2)) = st.row.zipIdx := by
  refine List.ext_getElem (by simp [h.nlen]) (fun i h1 h2 => ?_)
  have hi : i < nos.length := by simp [h.nlen] at h1; rw [h.nlen]; exact h1
  simp [h.rank hi]
theorem foldl_rowOf (q : Nat → Bool) (g : Nat) : ∀ (zs : List (Wr × Nat)) (b : List Int),
    (((zs.filter fun x => x.1.tgt == g).map fun x => (⟨x.2, x.1.at_, x.1.b⟩ : PP)).filter fun p => q p.no).foldl overP b = zs.foldl (fun b x => if x.1.tgt = g ∧ q x.2 = true then laidL b x.1.at_ x.1.b else b) b
  | [], b => rfl
  | z :: zs, b => by
    by_cases ht : z.1.tgt = g
    · rw [List.filter_cons_of_pos (by simp [ht]), List.map_cons, List.foldl_cons]
      by_cases hk : q z.2 = true
      · rw [List.filter_cons_of_pos (p := fun p : PP => q p.no) hk, List.foldl_cons, foldl_rowOf q g zs, if_pos ⟨ht, hk⟩]
        rfl
      · rw [List.filter_cons_of_neg (p := fun p : PP => q p.no) hk, foldl_rowOf q g zs, if_neg (fun e => hk e.2)]
    · rw [List.filter_cons_of_neg (by simp [ht]), List.foldl_cons, foldl_rowOf q g zs, if_neg (fun e => ht e.1)]
theorem Rel.crash (h : Rel st S nos) (keep : List Bool) : Rel (crashL st keep) (crashP S keep) [] := by
  have hsb : ∀ f ∈ S.l, crashSb keep st.row st.sb (gOf st f) = (f.row.filter fun p => keptAt keep (rankP S p.no)).foldl overP f.b := fun f hf => by
    obtain ⟨h1, h2, h3⟩ := h.gOf_ hf
    rw [h2]
    unfold crashSb rowOf
    rw [crash_at, foldl_rowOf (fun n => keptAt keep (rankP S n)), ← h.zipIdx, List.foldl_map, h3]
  refine ⟨List.pairwise_map.2 h.sorted, by show st.files.length = (S.l.map _).length; rw [List.length_map]; exact h.len, h.nd, h.inj, fun f0 h0 => ?_, fun p hp => ?_, (fun x hx => by cases hx), rfl, List.Pairwise.nil, (fun n hn => by cases hn), h.ops, rfl, rfl, rfl⟩
  · obtain ⟨f, hf, rfl⟩ := List.mem_map.1 h0
    refine ⟨gOf st f, (h.gOf_ hf).1, hsb f hf, ?_, rfl⟩
    show (if gOf st f ∈ st.files.map (·.2) then (crashSb keep st.row st.sb (gOf st f)).length else st.sz (gOf st f)) = _
    rw [if_pos (List.mem_map.2 ⟨_, (h.gOf_ hf).1, rfl⟩), hsb f hf]
    rfl
  · obtain ⟨f, hf, e⟩ := h.bwd p hp
    exact ⟨_, List.mem_map.2 ⟨f, hf, rfl⟩, e⟩
end
end Go.Proofs.Ytcpkoajnepijkaa
namespace Go.Proofs.Ytcpkoajnepijkaa
open Go.RowKit Go.Proofs.YtcpkoajnepijkaaL
structure Kept (st : FS) (k : Nat) : Prop where
  ops : st.ops ≤ k
  rowl : st.row.length ≤ k
  fuse0 : -1 ≤ st.fuse
  fuse1 : st.fuse ≤ 9223372036854775807
  fault0 : -1 ≤ st.fault
  fault1 : st.fault ≤ 9223372036854775807
  sb : ∀ g, (st.sb g).length ≤ 65536
  sz : ∀ g, st.sz g ≤ 65536
  row : ∀ x ∈ st.row, x.at_ + x.b.length ≤ 65536
section
variable {st : FS} {k : Nat}
theorem Kept.fine (h : Kept st k) (hk : k ≤ 100000) : Fine st := ⟨Nat.le_trans h.ops (by omega), h.fuse0, h.fuse1, h.fault0, h.fault1⟩
theorem Kept.sized (h : Kept st k) (hk : k ≤ 100000) : Sized st := ⟨fun g _ => h.sb g, h.row, Nat.le_trans h.rowl (by omega)⟩
theorem Kept.mono (h : Kept st k) {m : Nat} (hk : k ≤ m) : Kept st m := ⟨Nat.le_trans h.ops hk, Nat.le_trans h.rowl hk, h.fuse0, h.fuse1, h.fault0, h.fault1, h.sb, h.sz, h.row⟩
theorem kept_new : Kept newS 0 := ⟨Nat.le_refl _, Nat.le_refl _, by decide, by decide, by decide, by decide, fun _ => by simp [newS], fun _ => by simp [newS], fun x h => by cases h⟩
theorem Kept.count (h : Kept st k) : Kept (opS st) (k + 1) := by
  refine ⟨Nat.succ_le_succ h.ops, Nat.le_trans h.rowl (Nat.le_succ _), ?_, ?_, h.fault0, h.fault1, h.sb, h.sz, h.row⟩
  · show -1 ≤ (if st.fuse - 1 < -1 then -1 else st.fuse - 1)
    split <;> omega
  · show (if st.fuse - 1 < -1 then -1 else st.fuse - 1) ≤ _
    have := h.fuse1
    split <;> omega
theorem Kept.fault_ (h : Kept st k) : Kept (faultS st) k := by
  refine ⟨h.ops, h.rowl, h.fuse0, h.fuse1, ?_, ?_, h.sb, h.sz, h.row⟩
  · show -1 ≤ (if st.fault - 1 < -1 then -1 else st.fault - 1)
    split <;> omega
  · show (if st.fault - 1 < -1 then -1 else st.fault - 1) ≤ _
    have := h.fault1
    split <;> omega
theorem Kept.all (h : Kept st k) (g : Nat) : (allL st g).length ≤ 65536 := layAll_le (h.sb g) h.row
theorem Kept.forget (h : Kept st k) (g : Nat) : Kept (forgetS st g) k :=
  ⟨h.ops, Nat.le_trans (List.length_filter_le _ _) h.rowl, h.fuse0, h.fuse1, h.fault0, h.fault1, h.sb, h.sz, fun x hx => h.row x (List.mem_filter.1 hx).1⟩
theorem upd_le {f : Nat → Nat} {g n m : Nat} (h : ∀ k, f k ≤ m) (hn : n ≤ m) : ∀ k, upd f g n k ≤ m := fun k => by
  unfold upd
  split
  · exact hn
  · exact h k
theorem updB_le {f : Nat → List Int} {g m : Nat} {b : List Int} (h : ∀ k, (f k).length ≤ m) (hn : b.length ≤ m) : ∀ k, (upd f g b k).length ≤ m := fun k => by
  unfold upd
  split
  · exact hn
  · exact h k
theorem Kept.begun_ (h : Kept st k) (s : ByteArray) (may : Bool) : Kept (begunL st s may).2.2 (k + 1) := by
  unfold begunL
  split
  · exact h.mono (Nat.le_succ _)
  · split
    · exact h.mono (Nat.le_succ _)
    · split
      · exact h.mono (Nat.le_succ _)
      · split
        · exact h.count
        · exact h.count
theorem Kept.sync (h : Kept st k) (s : ByteArray) : Kept (syncL st s).2 (k + 1) := by
  have hb := h.begun_ s true
  unfold syncL
  split
  · rename_i g n st' e
    rw [e] at hb
    have h2 : Kept { st' with sb := upd st'.sb g (allL st' g), sz := upd st'.sz g (st'.sz g) } (k + 1) := ⟨hb.ops, hb.rowl, hb.fuse0, hb.fuse1, hb.fault0, hb.fault1, updB_le hb.sb (hb.all g), upd_le hb.sz (hb.sz g), hb.row⟩
    exact h2.forget g
  · rename_i n st' e
    rw [e] at hb
    exact hb
theorem Kept.cut (h : Kept st k) (s : ByteArray) (i : Int) : Kept (cutL st s i).2 (k + 1) := by
  have hb := h.begun_ s true
  unfold cutL
  split
  · rename_i g n st' e
    rw [e] at hb
    have h2 := hb.forget g
    have hc : cutN i (allL st' g).length ≤ 65536 := Nat.le_trans (cutN_le _ _) (hb.all g)
    exact ⟨h2.ops, h2.rowl, h2.fuse0, h2.fuse1, h2.fault0, h2.fault1, updB_le h2.sb (by rw [List.length_take]; omega), upd_le h2.sz hc, h2.row⟩
  · rename_i n st' e
    rw [e] at hb
    exact hb
theorem Kept.remove (h : Kept st k) (s : ByteArray) : Kept (removeL st s).2 (k + 1) := by
  have hb := h.begun_ s true
  unfold removeL
  split
  · rename_i g n st' e
    rw [e] at hb
    have h2 := hb.forget g
    exact ⟨h2.ops, h2.rowl, h2.fuse0, h2.fuse1, h2.fault0, h2.fault1, h2.sb, h2.sz, h2.row⟩
  · rename_i n st' e
    rw [e] at hb
    exact hb
theorem Kept.rename (h : Kept st k) (s t : ByteArray) : Kept (renameL st s t).2 (k + 1) := by
  have hb := h.begun_ s (namedB t)
  unfold renameL
  split
  · rename_i g n st' e
    rw [e] at hb
    split
    · exact hb
    · unfold renameS
      split
      · rename_i old _
        have h2 := hb.forget old
        exact ⟨h2.ops, h2.rowl, h2.fuse0, h2.fuse1, h2.fault0, h2.fault1, h2.sb, h2.sz, h2.row⟩
      · exact ⟨hb.ops, hb.rowl, hb.fuse0, hb.fuse1, hb.fault0, hb.fault1, hb.sb, hb.sz, hb.row⟩
  · rename_i n st' e
    rw [e] at hb
    exact hb
theorem Kept.crash (h : Kept st k) (keep : List Bool) : Kept (crashL st keep) k := by
  have hc := crashSb_le (keep := keep) h.sb h.row
  refine ⟨h.ops, Nat.zero_le _, by show (-1 : Int) ≤ -1; decide, by show (-1 : Int) ≤ _; decide, by show (-1 : Int) ≤ -1; decide, by show (-1 : Int) ≤ _; decide, hc, fun g => ?_, fun x hx => by cases hx⟩
  show (if g ∈ st.files.map (·.2) then (crashSb keep st.row st.sb g).length else st.sz g) ≤ 65536
  split
  · exact hc g
  · exact h.sz g
end
end Go.Proofs.Ytcpkoajnepijkaa
namespace Go.Proofs.Ytcpkoajnepijkaa
open Go.RowKit Go.Proofs.YtcpkoajnepijkaaL Go.Proofs.YtcpkoajnepijkaaW.PrintWords
theorem Kept.write {st : FS} {k : Nat} (h : Kept st k) (s : ByteArray) (b : List Int) (new : Nat) : Kept (writeL st s b new).2 (k + 1) := by
  unfold writeL
  split
  · exact h.mono (Nat.le_succ _)
  split
  · exact h.mono (Nat.le_succ _)
  split
  · exact h.mono (Nat.le_succ _)
  rename_i hfull
  split
  · exact h.fault_.count
  have hle : ((fnd s st.files).map st.sz).getD 0 + b.length ≤ 65536 := by omega
  cases hg : fnd s st.files with
  | none =>
    rw [hg] at hle
    simp only [Option.map_none, Option.getD_none] at hle
    have h1 : Kept { st with live := new :: st.live, sb := upd st.sb new [], sz := upd st.sz new 0 } k := ⟨h.ops, h.rowl, h.fuse0, h.fuse1, h.fault0, h.fault1, updB_le h.sb (by simp), upd_le h.sz (by omega), h.row⟩
    have h2 := h1.fault_.count
    have e0 : upd st.sz new 0 new = 0 := by simp [upd]
    simp only [Option.getD_none]
    refine ⟨h2.ops, ?_, h2.fuse0, h2.fuse1, h2.fault0, h2.fault1, h2.sb, ?_, ?_⟩
    · show (st.row ++ [_]).length ≤ k + 1
      rw [List.length_append]
      have := h.rowl
      simp
      omega
    · exact upd_le h2.sz (by rw [e0]; omega)
    · intro x hx
      rcases List.mem_append.1 hx with hx | hx
      · exact h.row x hx
      · rw [List.mem_singleton.1 hx]
        show upd st.sz new 0 new + b.length ≤ 65536
        rw [e0]; omega
  | some g =>
    rw [hg] at hle
    simp only [Option.map_some, Option.getD_some] at hle
    have h2 := h.fault_.count
    simp only [Option.getD_some]
    refine ⟨h2.ops, ?_, h2.fuse0, h2.fuse1, h2.fault0, h2.fault1, h2.sb, ?_, ?_⟩
    · show (st.row ++ [_]).length ≤ k + 1
      rw [List.length_append]
      have := h.rowl
      simp
      omega
    · exact upd_le h2.sz hle
    · intro x hx
      rcases List.mem_append.1 hx with hx | hx
      · exact h.row x hx
      · rw [List.mem_singleton.1 hx]
        exact hle
theorem Kept.copied {st st' : FS} {k : Nat} (h : Kept st k) (hc : Copied st st') : Kept st' k := by
  obtain ⟨f, c1, c2, c3, c4, c5, c6, c7, c8, c9, c10, c11⟩ := hc
  refine ⟨c8 ▸ h.ops, by rw [c3, List.length_map]; exact h.rowl, c9 ▸ h.fuse0, c9 ▸ h.fuse1, c10 ▸ h.fault0, c10 ▸ h.fault1, fun g => ?_, fun g => ?_, fun x hx => ?_⟩
  · rcases c6 g with e | ⟨g0, e⟩
    · rw [e]; simp
    · rw [e]; exact h.sb g0
  · rcases c7 g with e | ⟨g0, e⟩
    · rw [e]; omega
    · rw [e]; exact h.sz g0
  · rw [c3] at hx
    obtain ⟨y, hy, rfl⟩ := List.mem_map.1 hx
    exact h.row y hy
def FSat (base : Nat) (Lz : Nat → Prop) (w : World) (F : Nat) (fp : Nat → Prop) (S : PS) (k : Nat) : Prop := ∃ st nos, FRep base Lz w F fp st ∧ Rel st S nos ∧ Kept st k
section
variable {base : Nat} {Lz : Nat → Prop} {w w' : World} {F : Nat} {fp : Nat → Prop} {S : PS} {k : Nat}
theorem FSat.only {G : Nat → Prop} (h : FSat base Lz w F fp S k) (ho : Only G w w') (hG : Mut base w G) (hd : ∀ g, G g → ¬ fp g) : FSat base Lz w' F fp S k := by
  obtain ⟨st, nos, h1, h2, h3⟩ := h
  exact ⟨st, nos, h1.only ho hG hd, h2, h3⟩
theorem FSat.mono (h : FSat base Lz w F fp S k) {m : Nat} (hk : k ≤ m) : FSat base Lz w F fp S m := by
  obtain ⟨st, nos, h1, h2, h3⟩ := h
  exact ⟨st, nos, h1, h2, h3.mono hk⟩
theorem FSat.base_le (h : FSat base Lz w F fp S k) : base ≤ w.heap.size := by
  obtain ⟨st, nos, ⟨M, rv, cells, h1⟩, h2, h3⟩ := h
  exact h1.hbase
theorem FSat.below (h : FSat base Lz w F fp S k) (hb : Below w.heap.size w w') : FSat base Lz w' F fp S k := by
  obtain ⟨st, nos, h1, h2, h3⟩ := h
  exact ⟨st, nos, h1.below hb, h2, h3⟩
theorem FSat.mut (h : FSat base Lz w F fp S k) : Mut base w fp := by
  obtain ⟨st, nos, ⟨M, rv, cells, h1⟩, h2, h3⟩ := h
  exact h1.fpb
theorem FSat.lt (h : FSat base Lz w F fp S k) : ∀ g, fp g → g < w.heap.size := by
  obtain ⟨st, nos, ⟨M, rv, cells, h1⟩, h2, h3⟩ := h
  exact h1.fpl
theorem FSat.write (h : FSat base Lz w F fp S k) (hk : k ≤ 100000) (s : ByteArray) {A : Option Addr} {n c : Nat} {b : List Int} (hb : RB base NoL w (.slice A n c) b) (hn : n ≤ 65536) :
    Calls Try.prog 23 #[ptr F, .string s, .slice A n c] w fun e w' => e = .returned (.int .i64 (writeP S s b).1) ∧ (∃ fp', FSat base Lz w' F fp' (writeP S s b).2 (k + 1) ∧ ∀ g, fp' g → fp g ∨ w.heap.size ≤ g) ∧ Only fp w w' := by
  obtain ⟨st, nos, h1, h2, h3⟩ := h
  have hnew : ∀ p ∈ st.files, p.2 ≠ w.heap.size := fun p hp => by
    obtain ⟨M, rv, cells, hx⟩ := h1
    obtain ⟨v, hv, _⟩ := hx.ino _ (hx.filesLive p hp)
    have := hv.lt
    omega
  have hr := h2.write s b hnew
  refine (write_calls h1 (h3.fine hk) s A n c b hb hn (Nat.le_trans h3.rowl hk) (fun g _ => h3.sz g)).mono ?_
  rintro e w' ⟨rfl, ⟨fp', a1, a2⟩, a3⟩
  obtain ⟨r1, nos', r2⟩ := hr
  rw [r1]
  exact ⟨rfl, ⟨fp', ⟨_, nos', a1, r2, h3.write s b _⟩, a2⟩, a3⟩
theorem FSat.read (h : FSat base Lz w F fp S k) (hk : k ≤ 100000) (s : ByteArray) :
    Calls Try.prog 18 #[ptr F, .string s] w fun e w' => ∃ v', e = .returned (.tuple #[v', .int .i64 (readP S s).2]) ∧ Own w' w.heap.size v' (readP S s).1 ∧ Below w.heap.size w w' := by
  obtain ⟨st, nos, h1, h2, h3⟩ := h
  rw [← h2.read s]
  exact read_calls h1 (h3.sized hk) s
theorem FSat.down (h : FSat base Lz w F fp S k) : Calls Try.prog 25 #[ptr F] w fun e w' => e = .returned (.bool S.down) ∧ w' = w := by
  obtain ⟨st, nos, h1, h2, h3⟩ := h
  rw [h2.down]
  exact down_calls h1
theorem FSat.ops (h : FSat base Lz w F fp S k) : Calls Try.prog 26 #[ptr F] w fun e w' => e = .returned (.int .i64 S.ops) ∧ w' = w := by
  obtain ⟨st, nos, h1, h2, h3⟩ := h
  rw [h2.ops]
  exact ops_calls h1
theorem FSat.pending (h : FSat base Lz w F fp S k) : Calls Try.prog 22 #[ptr F] w fun e w' => e = .returned (.int .i64 (pendingP S)) ∧ w' = w := by
  obtain ⟨st, nos, h1, h2, h3⟩ := h
  rw [← h2.pending]
  exact pending_calls h1
end
end Go.Proofs.Ytcpkoajnepijkaa
namespace Go.Proofs.Ytcpkoajnepijkaa
open Go.RowKit Go.Proofs.YtcpkoajnepijkaaL Go.Proofs.YtcpkoajnepijkaaW.PrintWords
def LeftP (base : Nat) (Lz : Nat → Prop) (w : World) (F : Nat) (fp : Nat → Prop) (k : Nat) (e : Ending) (w' : World) (x : Int × PS) : Prop :=
  e = .returned (.int .i64 x.1) ∧ (∃ fp', FSat base Lz w' F fp' x.2 k ∧ ∀ g, fp' g → fp g ∨ w.heap.size ≤ g) ∧ Only fp w w'
section
variable {base : Nat} {Lz : Nat → Prop} {w w' : World} {F : Nat} {fp : Nat → Prop} {S : PS} {k : Nat}
theorem fsat_new (hb : base ≤ w.heap.size) (hlz : ∀ g, Lz g → g < w.heap.size) :
    Calls Try.prog 12 #[] w fun e w' => ∃ F fp, e = .returned (ptr F) ∧ FSat base Lz w' F fp newP 0 ∧ (∀ g, fp g → w.heap.size ≤ g) ∧ Below w.heap.size w w' := by
  refine (new_calls hb hlz).mono ?_
  rintro e w' ⟨F, rfl, h1, h2⟩
  exact ⟨F, _, rfl, ⟨newS, [], h1, rel_new, kept_new⟩, fun g hg => hg.1, h2⟩
theorem FSat.sync (h : FSat base Lz w F fp S k) (hk : k ≤ 100000) (s : ByteArray) : Calls Try.prog 29 #[ptr F, .string s] w fun e w' => LeftP base Lz w F fp (k + 1) e w' (syncP S s) := by
  obtain ⟨st, nos, h1, h2, h3⟩ := h
  obtain ⟨r1, nos', r2⟩ := h2.sync s
  refine (sync_calls h1 (h3.fine hk) (h3.sized hk) s).mono ?_
  rintro e w' ⟨a1, ⟨fp', a2, a3⟩, a4⟩
  exact ⟨by rw [a1, r1], ⟨fp', ⟨_, nos', a2, r2, h3.sync s⟩, a3⟩, a4⟩
theorem FSat.cut (h : FSat base Lz w F fp S k) (hk : k ≤ 100000) (s : ByteArray) (i : Int) : Calls Try.prog 32 #[ptr F, .string s, .int .i64 i] w fun e w' => LeftP base Lz w F fp (k + 1) e w' (cutP S s i) := by
  obtain ⟨st, nos, h1, h2, h3⟩ := h
  obtain ⟨r1, nos', r2⟩ := h2.cut s i
  refine (cut_calls h1 (h3.fine hk) (h3.sized hk) s i).mono ?_
  rintro e w' ⟨a1, ⟨fp', a2, a3⟩, a4⟩
  exact ⟨by rw [a1, r1], ⟨fp', ⟨_, nos', a2, r2, h3.cut s i⟩, a3⟩, a4⟩
theorem FSat.remove (h : FSat base Lz w F fp S k) (hk : k ≤ 100000) (s : ByteArray) : Calls Try.prog 33 #[ptr F, .string s] w fun e w' => LeftP base Lz w F fp (k + 1) e w' (removeP S s) := by
  obtain ⟨st, nos, h1, h2, h3⟩ := h
  obtain ⟨r1, nos', r2⟩ := h2.remove_ s
  refine (remove_calls h1 (h3.fine hk) (h3.sized hk) s).mono ?_
  rintro e w' ⟨a1, ⟨fp', a2, a3⟩, a4⟩
  exact ⟨by rw [a1, r1], ⟨fp', ⟨_, nos', a2, r2, h3.remove s⟩, a3⟩, a4⟩
theorem FSat.rename (h : FSat base Lz w F fp S k) (hk : k ≤ 100000) (s t : ByteArray) : Calls Try.prog 31 #[ptr F, .string s, .string t] w fun e w' => LeftP base Lz w F fp (k + 1) e w' (renameP S s t) := by
  obtain ⟨st, nos, h1, h2, h3⟩ := h
  obtain ⟨r1, nos', r2⟩ := h2.rename s t
  refine (rename_calls h1 (h3.fine hk) (h3.sized hk) s t).mono ?_
  rintro e w' ⟨a1, ⟨fp', a2, a3⟩, a4⟩
  exact ⟨by rw [a1, r1], ⟨fp', ⟨_, nos', a2, r2, h3.rename s t⟩, a3⟩, a4⟩
theorem FSat.arm (h : FSat base Lz w F fp S k) {n : Int} (hn : n ≤ 9223372036854775807) : Calls Try.prog 24 #[ptr F, .int .i64 n] w fun e w' => e = .returned (.tuple #[]) ∧ FSat base Lz w' F fp { S with fuse := if n < -1 then -1 else n } k ∧ Only fp w w' := by
  obtain ⟨st, nos, h1, h2, h3⟩ := h
  refine (arm_calls h1 n).mono ?_
  rintro e w' ⟨rfl, a1, a2⟩
  refine ⟨rfl, ⟨_, nos, a1, h2.arm _, ⟨h3.ops, h3.rowl, ?_, ?_, h3.fault0, h3.fault1, h3.sb, h3.sz, h3.row⟩⟩, a2.mono (fun g _ e => e ▸ h1.fpF)⟩
  · show -1 ≤ (if n < -1 then -1 else n)
    split <;> omega
  · show (if n < -1 then -1 else n) ≤ _
    split <;> omega
theorem FSat.fault (h : FSat base Lz w F fp S k) {n : Int} (hn : n ≤ 9223372036854775807) : Calls Try.prog 28 #[ptr F, .int .i64 n] w fun e w' => e = .returned (.tuple #[]) ∧ FSat base Lz w' F fp { S with fault := if n < -1 then -1 else n } k ∧ Only fp w w' := by
  obtain ⟨st, nos, h1, h2, h3⟩ := h
  refine (fault_calls h1 n).mono ?_
  rintro e w' ⟨rfl, a1, a2⟩
  refine ⟨rfl, ⟨_, nos, a1, h2.armFault _, ⟨h3.ops, h3.rowl, h3.fuse0, h3.fuse1, ?_, ?_, h3.sb, h3.sz, h3.row⟩⟩, a2.mono (fun g _ e => e ▸ h1.fpF)⟩
  · show -1 ≤ (if n < -1 then -1 else n)
    split <;> omega
  · show (if n < -1 then -1 else n) ≤ _
    split <;> omega
theorem FSat.crash (h : FSat base Lz w F fp S k) (hk : k ≤ 100000) {Gk ok ck : Nat} {Ak : Option Addr} {keep : List Bool} (hAk : 0 < keep.length → Ak = some ⟨Gk, ok, none⟩)
    (hkeep : ∀ i (hi : i < keep.length), w.cell? ⟨Gk, ok + i, none⟩ = some (.bool keep[i])) (hkfp : 0 < keep.length → ¬ fp Gk) (hkl : keep.length ≤ 1000000) :
    Calls Try.prog 20 #[ptr F, .slice Ak keep.length ck] w fun e w' => e = .returned (.tuple #[]) ∧ FSat base Lz w' F fp (crashP S keep) k ∧ Only fp w w' := by
  obtain ⟨st, nos, h1, h2, h3⟩ := h
  refine (crash_calls h1 (h3.sized hk) h3.sb hAk hkeep hkfp hkl).mono ?_
  rintro e w' ⟨rfl, a1, a2⟩
  exact ⟨rfl, ⟨_, [], a1, h2.crash keep, h3.crash keep⟩, a2⟩
theorem FSat.copy (h : FSat base Lz w F fp S k) (hk : k ≤ 100000) :
    Calls Try.prog 19 #[ptr F] w fun e w' => ∃ C fp', e = .returned (ptr C) ∧ FSat base Lz w' C fp' S k ∧ (∀ g, fp' g → w.heap.size ≤ g) ∧ Below w.heap.size w w' := by
  obtain ⟨st, nos, h1, h2, h3⟩ := h
  refine (copy_calls h1 (h3.sized hk)).mono ?_
  rintro e w' ⟨C, fp', st', rfl, a1, a2, a3, a4⟩
  have hnd : (st'.files.map (·.1)).Nodup := by
    obtain ⟨M, rv, cells, hx⟩ := a1
    have := hx.map.nodup
    rwa [List.map_map] at this
  exact ⟨C, fp', rfl, ⟨st', nos, a1, h2.copied hnd a2, h3.copied a2⟩, a3, a4⟩
end
end Go.Proofs.Ytcpkoajnepijkaa
namespace Go.Proofs.Ytcpkoajnepijkaa
open Go.RowKit Go.Proofs.YtcpkoajnepijkaaL
theorem eq_of_sorted_perm {l l' : List (List UInt8)} (hp : l.Perm l') (h : l.Pairwise (· ≤ ·)) (h' : l'.Pairwise (· ≤ ·)) : l = l' := by
  induction l generalizing l' with
  | nil => exact hp.nil_eq
  | cons a l ih =>
    cases l' with
    | nil => exact absurd hp.length_eq (by simp)
    | cons b l' =>
      have h1 := List.pairwise_cons.1 h
      have h2 := List.pairwise_cons.1 h'
      have hab : a = b := by
        have ha : a ∈ b :: l' := hp.subset List.mem_cons_self
        have hb : b ∈ a :: l := hp.symm.subset List.mem_cons_self
        rcases List.mem_cons.1 ha with e | ha
        · exact e
        · rcases List.mem_cons.1 hb with e | hb
          · exact e.symm
          · exact List.le_antisymm (h1.1 b hb) (h2.1 a ha)
      subst hab
      rw [ih (List.Perm.cons_inv hp) h1.2 h2.2]
theorem Rel.names {st : FS} {S : PS} {nos : List Nat} (h : Rel st S nos) : (st.files.map (·.1.toList)).Perm (S.l.map (·.name.toList)) := by
  have h1 : (S.l.map (·.name)).Nodup := List.pairwise_map.2 (h.sorted.imp (fun hlt => ltN_ne hlt))
  have h2 : (st.files.map (·.1)).Perm (S.l.map (·.name)) := by
    refine (List.perm_ext_iff_of_nodup h.nd h1).2 (fun s => ?_)
    constructor
    · intro hs
      obtain ⟨p, hp, rfl⟩ := List.mem_map.1 hs
      obtain ⟨f, hf, e⟩ := h.bwd p hp
      exact List.mem_map.2 ⟨f, hf, e⟩
    · intro hs
      obtain ⟨f, hf, rfl⟩ := List.mem_map.1 hs
      obtain ⟨g, hg, _⟩ := h.fwd f hf
      exact List.mem_map.2 ⟨_, hg, rfl⟩
  have := h2.map ByteArray.toList
  simpa [List.map_map, Function.comp_def] using this
theorem Rel.namesSorted {st : FS} {S : PS} {nos : List Nat} (h : Rel st S nos) {ss : List (List UInt8)} (hs : ss.Perm (st.files.map (·.1.toList))) : ss.mergeSort (fun x y => decide (x ≤ y)) = S.l.map (·.name.toList) := by
  refine eq_of_sorted_perm ((List.mergeSort_perm ss _).trans (hs.trans h.names)) ?_ ?_
  · have := List.pairwise_mergeSort (le := fun x y : List UInt8 => decide (x ≤ y)) (fun a b c h1 h2 => by
      simp only [decide_eq_true_eq] at *
      exact List.le_trans h1 h2) (fun a b => by
      simp only [Bool.or_eq_true, decide_eq_true_eq]
      exact List.le_total a b) ss
    exact this.imp (fun h => by simpa using h)
  · refine List.pairwise_map.2 (h.sorted.imp (fun hlt => ?_))
    simp only [ltN, decide_eq_true_eq] at hlt
    exact List.le_of_lt hlt
end Go.Proofs.Ytcpkoajnepijkaa

