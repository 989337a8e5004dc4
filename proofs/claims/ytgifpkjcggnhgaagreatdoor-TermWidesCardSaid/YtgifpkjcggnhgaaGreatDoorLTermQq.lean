/- Parts of the proof of the law that the last file states; declarations that nothing mentions are left out by a program. No conditions. -/
import Derived.Lib.MapLaws
import Derived.Test.YtgifpkjcggnhgaaGreatDoorLTermPq
set_option linter.unusedVariables false
set_option linter.unusedSimpArgs false
namespace Go.Proofs.YtgifpkjcggnhgaaGreatDoorL
open Go Go.RowKit
theorem getC_set {l : List TC} {i j : Nat} {c : TC} (hi : i < l.length) : getC (l.set i c) j = if i = j then c else getC l j := by
  unfold getC
  rw [List.getD_eq_getElem?_getD, List.getD_eq_getElem?_getD, List.getElem?_set]
  by_cases h : i = j
  · subst h; simp [hi]
  · simp [h]
theorem getC_mem {l : List TC} {j : Nat} (h : j < l.length) : getC l j ∈ l := by
  unfold getC
  rw [List.getD_eq_getElem?_getD, List.getElem?_eq_getElem h]
  exact List.getElem_mem h
theorem getC_get {l : List TC} {j : Nat} (h : j < l.length) : getC l j = l[j] := by
  unfold getC
  rw [List.getD_eq_getElem?_getD, List.getElem?_eq_getElem h]
  rfl
theorem getC_blankR (n j : Nat) : getC (blankR n) j = blankC := by
  unfold getC blankR
  rw [List.getD_eq_getElem?_getD, List.getElem?_replicate]
  split <;> rfl
theorem blankR_len (n : Nat) : (blankR n).length = n := List.length_replicate ..
theorem put1_len (l : List TC) (k : Nat) : (put1 l k).length = l.length := by unfold put1; split <;> simp
theorem put2_len (l : List TC) (k : Nat) : (put2 l k).length = l.length := by unfold put2; split <;> simp
theorem putR_len (l : List TC) (k : Nat) (c : TC) : (putR l k c).length = l.length := by unfold putR; rw [List.length_set, put2_len, put1_len]
theorem blank_wide : blankC.wide = 1 := rfl
theorem blank_size : blankC.S.size = 1 := rfl
theorem putR_get {l : List TC} (h : RowOK l) {k : Nat} (hk : k < l.length) (c : TC) (j : Nat) :
    getC (putR l k c) j = if j = k then c else if j + 1 = k ∧ (getC l k).wide = 0 then blankC else if j = k + 1 ∧ (getC l k).wide = 2 then blankC else getC l j := by
  have hw := h k hk
  have e1 : ∀ j, getC (put1 l k) j = if j + 1 = k ∧ (getC l k).wide = 0 then blankC else getC l j := by
    intro j
    unfold put1
    by_cases h0 : (getC l k).wide = 0
    · have h1 := (hw.2.1.1 h0)
      rw [if_pos ⟨h0, h1.2⟩, getC_set (by omega)]
      by_cases hj : k - 1 = j
      · rw [if_pos hj, if_pos ⟨by omega, h0⟩]
      · rw [if_neg hj, if_neg (by omega)]
    · rw [if_neg (fun x => h0 x.1), if_neg (fun x => h0 x.2)]
  have e2 : ∀ j, getC (put2 (put1 l k) k) j = if j = k + 1 ∧ (getC l k).wide = 2 then blankC else getC (put1 l k) j := by
    intro j
    have ek : getC (put1 l k) k = getC l k := by rw [e1, if_neg (by omega)]
    unfold put2
    rw [ek]
    by_cases h2 : (getC l k).wide = 2
    · have h3 := hw.1.2 h2
      rw [if_pos h2, getC_set (by rw [put1_len]; omega)]
      by_cases hj : k + 1 = j
      · rw [if_pos hj, if_pos ⟨hj.symm, h2⟩]
      · rw [if_neg hj, if_neg (fun x => hj x.1.symm)]
    · rw [if_neg h2, if_neg (fun x => h2 x.2)]
  unfold putR
  rw [getC_set (by rw [put2_len, put1_len]; exact hk)]
  by_cases hj : k = j
  · rw [if_pos hj, if_pos hj.symm]
  · rw [if_neg hj, if_neg (fun x => hj x.symm), e2, e1]
    by_cases h5 : j + 1 = k ∧ (getC l k).wide = 0
    · rw [if_pos h5, if_neg (by omega), if_pos h5]
    · rw [if_neg h5, if_neg h5]
def One (c : TC) : Prop := c.wide = 1 ∧ 0 < c.S.size
theorem blank_one : One blankC := ⟨rfl, Nat.one_pos⟩
theorem putR_ok {l : List TC} (h : RowOK l) {k : Nat} (hk : k < l.length) {c : TC} (hc : One c) : RowOK (putR l k c) := by
  obtain ⟨hc1, hc2⟩ := hc
  intro j hj
  rw [putR_len] at hj ⊢
  have hw := h k hk
  have hwj := h j hj
  have hb1 := blank_wide
  have hb2 := blank_size
  have gm : 0 < j → ((getC l (j - 1)).wide ≤ 2 ∧ ((getC l (j - 1)).wide = 2 → j < l.length)) ∧ ((getC l (j - 1)).wide = 0 ↔ 0 < j - 1 ∧ (getC l (j - 1 - 1)).wide = 2) := fun hp => by
    have := h (j - 1) (by omega)
    exact ⟨⟨this.1.1, fun e => by have := this.1.2 e; omega⟩, this.2.1⟩
  have gk : k + 1 < l.length → ((getC l (k + 1)).wide = 0 ↔ (getC l k).wide = 2) := fun hp => by
    have := (h (k + 1) hp).2.1
    rw [Nat.add_sub_cancel] at this
    rw [this]
    exact ⟨fun x => x.2, fun x => ⟨by omega, x⟩⟩
  rw [putR_get h hk, putR_get h hk]
  by_cases e : j = k
  · subst e
    rw [if_pos rfl]
    rw [hc1]
    refine ⟨⟨by omega, by omega⟩, ⟨by omega, fun ⟨x, y⟩ => ?_⟩, by omega⟩
    rw [if_neg (by omega)] at y
    by_cases h0 : (getC l j).wide = 0
    · rw [if_pos ⟨by omega, h0⟩] at y
      omega
    · rw [if_neg (fun z => h0 z.2), if_neg (by omega)] at y
      exact absurd (hwj.2.1.2 ⟨x, y⟩) h0
  · rw [if_neg e]
    by_cases e1 : j + 1 = k ∧ (getC l k).wide = 0
    · rw [if_pos e1]
      refine ⟨⟨by omega, by omega⟩, ⟨by omega, fun ⟨x, y⟩ => ?_⟩, by omega⟩
      rw [if_neg (by omega), if_neg (by omega), if_neg (by omega)] at y
      have h2 := (hw.2.1.1 e1.2)
      have : k - 1 = j := by omega
      rw [this] at h2
      have := hwj.2.1.2 ⟨x, y⟩
      omega
    · rw [if_neg e1]
      by_cases e2 : j = k + 1 ∧ (getC l k).wide = 2
      · rw [if_pos e2]
        refine ⟨⟨by omega, by omega⟩, ⟨by omega, fun ⟨x, y⟩ => ?_⟩, by omega⟩
        rw [if_pos (by omega)] at y
        omega
      · rw [if_neg e2]
        refine ⟨hwj.1, ?_, hwj.2.2⟩
        rw [hwj.2.1]
        by_cases e3 : 0 < j
        · have g := gm e3
          by_cases e4 : j - 1 = k
          · rw [if_pos e4]
            have ej : j = k + 1 := by omega
            subst ej
            have g2 := gk hj
            simp only [Nat.add_sub_cancel] at *
            rw [hc1]
            constructor
            · intro x; exact absurd x.2 (fun z => e2 (by simpa using z))
            · intro x; omega
          · rw [if_neg e4]
            by_cases e5 : j - 1 + 1 = k ∧ (getC l k).wide = 0
            · exact absurd (show j = k by omega) e
            · rw [if_neg e5]
              by_cases e6 : j - 1 = k + 1 ∧ (getC l k).wide = 2
              · rw [if_pos e6]
                have h2 := gk (by omega)
                have e7 : getC l (j - 1) = getC l (k + 1) := by rw [e6.1]
                rw [e7]
                have h3 := h2.2 e6.2
                constructor
                · intro x; omega
                · intro x; omega
              · rw [if_neg e6]
        · constructor
          · intro x; exact absurd x.1 e3
          · intro x; exact absurd x.1 e3
theorem putR_two {l : List TC} (h : RowOK l) {k : Nat} (hk : k + 1 < l.length) {c d : TC} (hc : c.wide = 2) (hc2 : 0 < c.S.size) (hd : d.wide = 0) (hd2 : d.S.size = 0) :
    RowOK (putR (putR l k c) (k + 1) d) ∧ ∀ j, getC (putR (putR l k c) (k + 1) d) j = if j = k then c else if j = k + 1 then d else if j + 1 = k ∧ (getC l k).wide = 0 then blankC else if j = k + 2 ∧ (getC l (k + 1)).wide = 2 then blankC else getC l j := by
  have hk' : k < l.length := by omega
  have g := putR_get h hk' c
  have hw := h k hk'
  have hw1 := h (k + 1) hk
  rw [Nat.add_sub_cancel] at hw1
  have hlen := putR_len l k c
  have g1 : getC (putR l k c) (k + 1) = if (getC l k).wide = 2 then blankC else getC l (k + 1) := by
    rw [g, if_neg (by omega), if_neg (by omega)]
    by_cases h2 : (getC l k).wide = 2
    · rw [if_pos ⟨rfl, h2⟩, if_pos h2]
    · rw [if_neg (fun x => h2 x.2), if_neg h2]
  have g1w : (getC (putR l k c) (k + 1)).wide ≠ 0 := by
    rw [g1]
    split
    · decide
    · rename_i h2
      intro h0
      exact h2 (hw1.2.1.1 h0).2
  have g1t : (getC (putR l k c) (k + 1)).wide = 2 ↔ (getC l (k + 1)).wide = 2 := by
    rw [g1]
    split
    · rename_i h2
      have h0 := hw1.2.1.2 ⟨by omega, h2⟩
      rw [blank_wide]
      omega
    · exact Iff.rfl
  have e1 : put1 (putR l k c) (k + 1) = putR l k c := by
    unfold put1
    rw [if_neg (fun x => g1w x.1)]
  have hget : ∀ j, getC (putR (putR l k c) (k + 1) d) j = if j = k then c else if j = k + 1 then d else if j + 1 = k ∧ (getC l k).wide = 0 then blankC else if j = k + 2 ∧ (getC l (k + 1)).wide = 2 then blankC else getC l j := by
    intro j
    have e2 : ∀ j, getC (put2 (putR l k c) (k + 1)) j = if j = k + 2 ∧ (getC l (k + 1)).wide = 2 then blankC else getC (putR l k c) j := by
      intro j
      unfold put2
      by_cases h2 : (getC l (k + 1)).wide = 2
      · have h3 := hw1.1.2 h2
        rw [if_pos (g1t.2 h2), getC_set (by rw [hlen]; omega)]
        by_cases hj : k + 1 + 1 = j
        · rw [if_pos hj, if_pos ⟨by omega, h2⟩]
        · rw [if_neg hj, if_neg (fun x => hj (by omega))]
      · rw [if_neg (fun x => h2 (g1t.1 x)), if_neg (fun x => h2 x.2)]
    unfold putR
    have e1' : put1 ((put2 (put1 l k) k).set k c) (k + 1) = putR l k c := e1
    rw [e1', getC_set (by rw [put2_len, hlen]; exact hk)]
    by_cases hj : k + 1 = j
    · rw [if_pos hj, if_neg (by omega), if_pos hj.symm]
    · rw [if_neg hj, e2, g]
      by_cases hjk : j = k
      · rw [if_neg (by omega), if_pos hjk, if_pos hjk]
      · rw [if_neg hjk, if_neg hjk, if_neg (show ¬ j = k + 1 from fun x => hj x.symm)]
        by_cases h5 : j + 1 = k ∧ (getC l k).wide = 0
        · rw [if_pos h5, if_pos h5, if_neg (show ¬ (j = k + 2 ∧ (getC l (k + 1)).wide = 2) by omega)]
        · rw [if_neg h5, if_neg h5, if_neg (show ¬ (j = k + 1 ∧ (getC l k).wide = 2) by omega)]
  refine ⟨?_, hget⟩
  intro j hj
  rw [putR_len, putR_len] at hj ⊢
  have hwj := h j hj
  have hb1 := blank_wide
  have hb2 := blank_size
  rw [hget, hget]
  by_cases a1 : j = k
  · subst a1
    rw [if_pos rfl]
    refine ⟨⟨by omega, by omega⟩, ⟨by omega, fun ⟨x, y⟩ => ?_⟩, by omega⟩
    rw [if_neg (by omega), if_neg (by omega)] at y
    by_cases h0 : (getC l j).wide = 0
    · rw [if_pos ⟨by omega, h0⟩] at y
      omega
    · rw [if_neg (fun z => h0 z.2), if_neg (by omega)] at y
      exact absurd (hwj.2.1.2 ⟨x, y⟩) h0
  · rw [if_neg a1]
    by_cases a2 : j = k + 1
    · rw [if_pos a2]
      refine ⟨⟨by omega, by omega⟩, ⟨fun _ => ⟨by omega, ?_⟩, fun _ => hd⟩, by omega⟩
      rw [if_pos (by omega)]
      exact hc
    · rw [if_neg a2]
      by_cases a3 : j + 1 = k ∧ (getC l k).wide = 0
      · rw [if_pos a3]
        refine ⟨⟨by omega, by omega⟩, ⟨by omega, fun ⟨x, y⟩ => ?_⟩, by omega⟩
        rw [if_neg (by omega), if_neg (by omega), if_neg (by omega), if_neg (by omega)] at y
        have h2 := (hw.2.1.1 a3.2)
        have : k - 1 = j := by omega
        rw [this] at h2
        have := hwj.2.1.2 ⟨x, y⟩
        omega
      · rw [if_neg a3]
        by_cases a4 : j = k + 2 ∧ (getC l (k + 1)).wide = 2
        · rw [if_pos a4]
          refine ⟨⟨by omega, by omega⟩, ⟨by omega, fun ⟨x, y⟩ => ?_⟩, by omega⟩
          rw [if_neg (by omega), if_pos (by omega)] at y
          omega
        · rw [if_neg a4]
          refine ⟨hwj.1, ?_, hwj.2.2⟩
          rw [hwj.2.1]
          by_cases a5 : j = k + 2
          · subst a5
            have : k + 2 - 1 = k + 1 := by omega
            rw [this, if_neg (by omega), if_pos rfl, hd]
            constructor
            · intro x; exact absurd x.2 (fun z => a4 ⟨rfl, z⟩)
            · intro x; omega
          · by_cases a6 : 0 < j
            · rw [if_neg (by omega), if_neg (by omega), if_neg (by omega)]
              by_cases a7 : j - 1 = k + 2 ∧ (getC l (k + 1)).wide = 2
              · rw [if_pos a7, hb1]
                have h3 := (h (k + 2) (by omega)).2.1
                have h4 : k + 2 - 1 = k + 1 := by omega
                rw [h4] at h3
                have h5 := h3.2 ⟨by omega, a7.2⟩
                rw [a7.1]
                constructor
                · intro x; omega
                · intro x; omega
              · rw [if_neg a7]
            · constructor
              · intro x; exact absurd x.1 a6
              · intro x; exact absurd x.1 a6
section
variable {n M M' : Nat} {r l : List TC} {s : Tm}
theorem OKrow.mono (h : OKrow n M r) (hM : M ≤ M') : OKrow n M' r := ⟨h.1, h.2.1, fun c hc => Nat.le_trans (h.2.2 c hc) hM⟩
theorem mem_put {l : List TC} {k : Nat} {c x : TC} (h : x ∈ putR l k c) : x = c ∨ x = blankC ∨ x ∈ l := by
  unfold putR put2 put1 at h
  rcases List.mem_or_eq_of_mem_set h with h | h
  · by_cases h0 : (getC l k).wide = 0 ∧ (getC l (k - 1)).wide = 2
    · rw [if_pos h0] at h
      split at h
      · rcases List.mem_or_eq_of_mem_set h with h | h
        · rcases List.mem_or_eq_of_mem_set h with h | h
          · exact .inr (.inr h)
          · exact .inr (.inl h)
        · exact .inr (.inl h)
      · rcases List.mem_or_eq_of_mem_set h with h | h
        · exact .inr (.inr h)
        · exact .inr (.inl h)
    · rw [if_neg h0] at h
      split at h
      · rcases List.mem_or_eq_of_mem_set h with h | h
        · exact .inr (.inr h)
        · exact .inr (.inl h)
      · exact .inr (.inr h)
  · exact .inl h
theorem OKrow.put (h : OKrow n M r) {k : Nat} (hk : k < n) {c : TC} (hc : One c) (hM : c.S.size ≤ M) (h1 : 1 ≤ M) : OKrow n M (putR r k c) := by
  refine ⟨by rw [putR_len]; exact h.1, putR_ok h.2.1 (by rw [h.1]; exact hk) hc, fun x hx => ?_⟩
  rcases mem_put hx with rfl | rfl | hx
  · exact hM
  · exact h1
  · exact h.2.2 x hx
theorem OKrow.two (h : OKrow n M r) {k : Nat} (hk : k + 1 < n) {c d : TC} (hc : c.wide = 2) (hc2 : 0 < c.S.size) (hd : d.wide = 0) (hd2 : d.S.size = 0) (hM : c.S.size ≤ M) (h1 : 1 ≤ M) : OKrow n M (putR (putR r k c) (k + 1) d) := by
  refine ⟨by rw [putR_len, putR_len]; exact h.1, (putR_two h.2.1 (by rw [h.1]; exact hk) hc hc2 hd hd2).1, fun x hx => ?_⟩
  rcases mem_put hx with rfl | rfl | hx
  · omega
  · exact h1
  · rcases mem_put hx with rfl | rfl | hx
    · exact hM
    · exact h1
    · exact h.2.2 x hx
theorem RowOK.blank (n : Nat) : RowOK (blankR n) := fun j hj => by
  rw [getC_blankR, getC_blankR]
  have := blank_wide
  have := blank_size
  omega
theorem OKrow.blank (h1 : 1 ≤ M) : OKrow n M (blankR n) := ⟨blankR_len n, RowOK.blank n, fun c hc => by
  unfold blankR at hc
  rw [(List.mem_replicate.1 hc).2]
  exact h1⟩
theorem OKrow.erase (h1 : 1 ≤ M) : ∀ (d k : Nat) (r : List TC), OKrow n M r → k + d ≤ n → OKrow n M (eraseR d k r)
  | 0, _, _, h, _ => h
  | d + 1, k, r, h, hk => OKrow.erase h1 d (k + 1) _ (h.put (by omega) blank_one h1 h1) (by omega)
theorem OKrow.join (h : OKrow n M r) {k : Nat} (hk : k < n) {t : ByteArray} (hM : M + t.size ≤ M') : OKrow n M' (joinR r k t) := by
  have hkl : k < r.length := by rw [h.1]; exact hk
  have hw := h.2.1 k hkl
  unfold joinR
  obtain ⟨j, hj⟩ : ∃ j, (if (getC r k).wide = 0 then k - 1 else k) = j := ⟨_, rfl⟩
  rw [hj]
  have hjl : j < r.length := by
    rw [← hj]
    split <;> omega
  have hjw : (getC r j).wide ≠ 0 := by
    intro h0
    by_cases hk0 : (getC r k).wide = 0
    · rw [if_pos hk0] at hj
      subst hj
      have := hw.2.1.1 hk0
      omega
    · rw [if_neg hk0] at hj
      subst hj
      exact hk0 h0
  have hjs := h.2.1 j hjl
  have hmem := h.2.2 _ (getC_mem hjl)
  refine ⟨by rw [List.length_set]; exact h.1, fun i hi => ?_, fun c hc => ?_⟩
  · rw [List.length_set] at hi ⊢
    have hwi := h.2.1 i hi
    have e : ∀ i, (getC (r.set j { getC r j with S := (getC r j).S ++ t }) i).wide = (getC r i).wide := fun i => by
      rw [getC_set hjl]
      split
      · rename_i h; rw [h]
      · rfl
    rw [e, e]
    refine ⟨hwi.1, hwi.2.1, ?_⟩
    rw [getC_set hjl]
    split
    · rename_i h
      subst h
      show ((getC r j).S ++ t).size = 0 ↔ _
      rw [ByteArray.size_append]
      omega
    · exact hwi.2.2
  · rcases List.mem_or_eq_of_mem_set hc with hc | rfl
    · have := h.2.2 c hc
      omega
    · show ((getC r j).S ++ t).size ≤ M'
      rw [ByteArray.size_append]
      omega
theorem OKT.mono (h : OKT M s) (hM : M ≤ M') : OKT M' s := { h with m := Nat.le_trans h.m hM, rows := fun r hr => (h.rows r hr).mono hM, off := Nat.le_trans h.off hM }
theorem mem_modify {α : Type} {f : α → α} {x : α} : ∀ {l : List α} {i : Nat}, x ∈ l.modify i f → x ∈ l ∨ ∃ y ∈ l, x = f y
  | [], i, h => by simp at h
  | a :: l, 0, h => by
    simp only [List.modify_zero_cons, List.mem_cons] at h
    rcases h with rfl | h
    · exact .inr ⟨a, List.mem_cons_self, rfl⟩
    · exact .inl (List.mem_cons_of_mem _ h)
  | a :: l, i + 1, h => by
    simp only [List.modify_succ_cons, List.mem_cons] at h
    rcases h with rfl | h
    · exact .inl List.mem_cons_self
    · rcases mem_modify h with h | ⟨y, hy, rfl⟩
      · exact .inl (List.mem_cons_of_mem _ h)
      · exact .inr ⟨y, List.mem_cons_of_mem _ hy, rfl⟩
theorem OKT.onRow (h : OKT M s) {i : Nat} {f : List TC → List TC} (hM : M ≤ M') (hf : ∀ r, OKrow s.cols M r → OKrow s.cols M' (f r)) : OKT M' (s.onRow i f) := by
  have h' := h.mono hM
  refine { h' with r1 := ?_, r2 := ?_, rows := fun r hr => ?_, row := ?_ }
  · show 1 ≤ (s.l.modify i f).length
    rw [List.length_modify]; exact h.r1
  · show (s.l.modify i f).length ≤ 60
    rw [List.length_modify]; exact h.r2
  · rcases mem_modify hr with hr | ⟨y, hy, rfl⟩
    · exact (h.rows r hr).mono hM
    · exact hf y (h.rows y hy)
  · show s.row < (s.l.modify i f).length
    rw [List.length_modify]; exact h.row
theorem keptL_len (g : List (List TC)) : (keptL g).length = min g.length 1000 := by unfold keptL; rw [List.length_drop]; omega
theorem keptL_mem {g : List (List TC)} {r : List TC} (h : r ∈ keptL g) : r ∈ g := List.mem_of_mem_drop h
theorem headD_mem {α : Type} {l : List α} (h : 1 ≤ l.length) (d : α) : l.headD d ∈ l := by
  cases l with
  | nil => simp at h
  | cons a l => exact List.mem_cons_self
theorem OKT.gone_next (h : OKT M s) : (keptL (s.gone ++ [s.l.headD []])).length ≤ 1000 ∧ (keptL (s.gone ++ [s.l.headD []])).length ≤ s.off + 1 ∧ ∀ r ∈ keptL (s.gone ++ [s.l.headD []]), 1 ≤ r.length ∧ r.length ≤ 120 := by
  have h2 := h.gone
  refine ⟨by rw [keptL_len]; omega, by rw [keptL_len, List.length_append, List.length_singleton]; omega, fun r hr => ?_⟩
  rcases List.mem_append.1 (keptL_mem hr) with hr | hr
  · exact h2.2.2 r hr
  · have e := List.mem_singleton.1 hr
    subst e
    have h3 := (h.rows _ (headD_mem h.r1 [])).1
    have := h.c1
    have := h.c2
    omega
theorem OKT.scroll (h : OKT M s) : OKT (M + 1) s.scroll := by
  have h' := h.mono (Nat.le_succ M)
  have hl : (s.l.tail ++ [blankR s.cols]).length = s.l.length := by
    have := h.r1
    rw [List.length_append, List.length_tail, List.length_singleton]
    omega
  refine { h' with r1 := ?_, r2 := ?_, rows := fun r hr => ?_, row := ?_, gone := ?_, off := ?_ }
  · exact hl ▸ h.r1
  · exact hl ▸ h.r2
  · rcases List.mem_append.1 hr with hr | hr
    · exact h'.rows r (List.mem_of_mem_tail hr)
    · rw [List.mem_singleton.1 hr]
      exact OKrow.blank (by have := h.m; omega)
  · exact hl ▸ h.row
  · simp only [Tm.scroll]
    exact h.gone_next
  · show s.off + 1 ≤ M + 1
    have := h.off
    omega
theorem OKT.unfull (h : OKT M s) : OKT M { s with full := false } := { h with full := fun e => by cases e }
theorem OKT.down (h : OKT M s) : OKT (M + 1) s.down ∧ s.down.full = false ∧ s.down.cols = s.cols ∧ s.down.col = s.col ∧ s.down.dim = s.dim ∧ s.down.inn = s.inn ∧ s.down.seq = s.seq ∧ s.down.b = s.b := by
  unfold Tm.down
  split
  · rename_i hr
    exact ⟨{ h.unfull.mono (Nat.le_succ M) with row := hr }, rfl, rfl, rfl, rfl, rfl, rfl, rfl⟩
  · exact ⟨h.unfull.scroll, rfl, rfl, rfl, rfl, rfl, rfl, rfl⟩
theorem OKT.fresh (h : OKT M s) : OKT (M + 1) s.fresh := { h.down.1 with col := by have := h.down.1.c1; exact this, full := fun e => by have := h.down.2.1; rw [show s.fresh.full = s.down.full from rfl, this] at e; cases e }
set_option maxRecDepth 10000 in
theorem enc_size (r : Int) : 0 < (Utf8.encode r).size ∧ (Utf8.encode r).size ≤ 4 := by
  unfold Utf8.encode
  split
  · dsimp only
    split
    · refine ⟨?_, ?_⟩ <;> simp [ByteArray.size]
    · split
      · refine ⟨?_, ?_⟩ <;> simp [ByteArray.size]
      · split
        · refine ⟨?_, ?_⟩ <;> simp [ByteArray.size]
        · refine ⟨?_, ?_⟩ <;> simp [ByteArray.size]
  · exact ⟨by decide, by decide⟩
theorem OKT.put (h : OKT M s) {r k : Nat} (hk : k < s.cols) {c : TC} (hc : One c) (hM : c.S.size ≤ M) : OKT M (s.put r k c) := h.onRow (Nat.le_refl _) (fun _ hr => hr.put hk hc hM (by have := h.m; omega))
theorem OKT.roomy (h : OKT M s) (hf : s.full = false) (w : Nat) (hw : w ≤ s.cols) : OKT (M + 1) (s.roomy w) ∧ (s.roomy w).full = false ∧ (s.roomy w).col + w ≤ (s.roomy w).cols ∧ (s.roomy w).cols = s.cols ∧ (s.roomy w).dim = s.dim ∧ (s.roomy w).inn = s.inn ∧ (s.roomy w).seq = s.seq ∧ (s.roomy w).b = s.b := by
  unfold Tm.roomy
  split
  · have hp := h.put (r := s.row) h.col blank_one (by have := h.m; rw [blank_size]; omega)
    have hd := hp.down
    have hfr := hp.fresh
    exact ⟨hfr, hd.2.1, by
      show 0 + w ≤ (s.put s.row s.col blankC).down.cols
      rw [hd.2.2.1]
      show 0 + w ≤ s.cols
      omega, hd.2.2.1, hd.2.2.2.2.1, hd.2.2.2.2.2.1, hd.2.2.2.2.2.2.1, hd.2.2.2.2.2.2.2⟩
  · rename_i hn
    exact ⟨h.mono (Nat.le_succ M), hf, by omega, rfl, rfl, rfl, rfl, rfl⟩
theorem onRow_onRow (s : Tm) (i : Nat) (f g : List TC → List TC) : (s.onRow i f).onRow i g = s.onRow i (fun r => g (f r)) := by
  unfold Tm.onRow
  simp only [List.modify_modify_eq]
  rfl
theorem OKT.print (h : OKT M s) (hf : s.full = false) (r : Int) {w : Nat} (hw1 : w = 1 ∨ w = 2) (hw : w ≤ s.cols) : OKT (M + 1) (s.print r w) := by
  obtain ⟨h1, f1, c1, e1, _⟩ := h.roomy hf w hw
  unfold Tm.print
  generalize s.roomy w = t at *
  have he := enc_size r
  have hm := h.m
  rcases hw1 with rfl | rfl
  · have h2 := h1.put (r := t.row) h1.col (c := ⟨Utf8.encode r, 1, t.dim⟩) ⟨rfl, he.1⟩ (show (Utf8.encode r).size ≤ M + 1 by omega)
    have h3 : (t.show_ r 1).half 1 = t.put t.row t.col ⟨Utf8.encode r, 1, t.dim⟩ := rfl
    rw [h3]
    generalize hu : t.put t.row t.col ⟨Utf8.encode r, 1, t.dim⟩ = u at *
    have hc : u.cols = t.cols := by rw [← hu]; rfl
    have hcl : u.col = t.col := by rw [← hu]; rfl
    have hfl : u.full = t.full := by rw [← hu]; rfl
    unfold Tm.go_on
    have := h2.c1
    split
    · exact { h2 with col := by show u.cols - 1 < u.cols; omega, full := fun _ => by show u.cols - 1 + 1 = u.cols; omega }
    · exact { h2 with col := by show u.col + 1 < u.cols; omega, full := fun e => absurd (show u.full = true from e) (by rw [hfl, f1]; decide) }
  · have h2 : OKT (M + 1) ((t.show_ r 2).half 2) := by
      have e : (t.show_ r 2).half 2 = t.onRow t.row (fun x => putR (putR x t.col ⟨Utf8.encode r, 2, t.dim⟩) (t.col + 1) (halfC t.dim)) := by
        exact onRow_onRow t t.row (fun x => putR x t.col ⟨Utf8.encode r, 2, t.dim⟩) (fun x => putR x (t.col + 1) (halfC t.dim))
      rw [e]
      exact h1.onRow (Nat.le_refl _) (fun x hx => hx.two (by omega) rfl he.1 rfl rfl (show (Utf8.encode r).size ≤ M + 1 by omega) (by omega))
    have hc : ((t.show_ r 2).half 2).cols = t.cols := rfl
    have hcl : ((t.show_ r 2).half 2).col = t.col := rfl
    have hfl : ((t.show_ r 2).half 2).full = t.full := rfl
    generalize (t.show_ r 2).half 2 = u at *
    unfold Tm.go_on
    have := h2.c1
    split
    · exact { h2 with col := by show u.cols - 1 < u.cols; omega, full := fun _ => by show u.cols - 1 + 1 = u.cols; omega }
    · exact { h2 with col := by show u.col + 2 < u.cols; omega, full := fun e => absurd (show u.full = true from e) (by rw [hfl, f1]; decide) }
theorem ofR_cases (r : Int) : ofR r = 0 ∨ ofR r = 1 ∨ ofR r = 2 := by
  unfold ofR
  split
  · exact .inl rfl
  · split
    · exact .inr (.inr rfl)
    · exact .inr (.inl rfl)
theorem OKT.join (h : OKT M s) {t : ByteArray} (ht : t.size ≤ 4) : OKT (M + 4) (s.join t) := by
  unfold Tm.join
  split
  · exact h.onRow (by omega) (fun x hx => hx.join h.col (by omega))
  · split
    · exact h.mono (by omega)
    · exact h.onRow (by omega) (fun x hx => hx.join (by have := h.col; omega) (by omega))
theorem OKT.sign (h : OKT M s) (r : Int) : OKT (M + 4) (s.sign r) := by
  unfold Tm.sign
  split
  · exact h.mono (by omega)
  split
  · exact h.join (enc_size r).2
  rename_i h0 h1
  have hs : OKT (M + 1) (if s.full = true then s.fresh else s) ∧ (if s.full = true then s.fresh else s).full = false ∧ (if s.full = true then s.fresh else s).cols = s.cols := by
    split
    · exact ⟨h.fresh, h.down.2.1, h.down.2.2.1⟩
    · rename_i hf
      exact ⟨h.mono (by omega), by simpa using hf, rfl⟩
  have hc := h.c1
  dsimp only
  generalize (if s.full = true then s.fresh else s) = t at *
  obtain ⟨h2, h3, h4⟩ := hs
  split
  · exact (h2.print h3 65533 (.inl rfl) (by omega)).mono (by omega)
  · rename_i h5
    rcases ofR_cases r with e | e | e
    · exact absurd e h1
    · rw [e]
      exact (h2.print h3 r (.inl rfl) (by rw [h4]; exact hc)).mono (by omega)
    · rw [e]
      exact (h2.print h3 r (.inr rfl) (by
        rw [h4]
        show 2 ≤ s.cols
        have : ¬ s.cols = 1 := fun x => h5 ⟨e, x⟩
        omega)).mono (by omega)
end
section
variable {n M M' : Nat} {r l : List TC} {s : Tm}
theorem OKT.signs : ∀ (l : List Nat) (M : Nat) (s : Tm), OKT M s → OKT (M + 4 * l.length) (s.signs l)
  | [], M, s, h => h
  | x :: l, M, s, h => by
    have := OKT.signs l _ _ (h.sign (x : Int))
    refine this.mono ?_
    rw [List.length_cons]
    omega
theorem print_keeps (s : Tm) (r : Int) (w : Nat) : (s.print r w).inn = s.inn ∧ (s.print r w).seq = s.seq ∧ (s.print r w).b = s.b ∧ (s.print r w).cols = s.cols ∧ (s.print r w).dim = s.dim := by
  unfold Tm.print Tm.go_on Tm.half Tm.show_ Tm.roomy Tm.fresh Tm.down Tm.scroll Tm.put Tm.onRow
  split <;> split <;> split <;> (try split) <;> exact ⟨rfl, rfl, rfl, rfl, rfl⟩
theorem sign_keeps (s : Tm) (r : Int) : (s.sign r).inn = s.inn ∧ (s.sign r).seq = s.seq ∧ (s.sign r).b = s.b ∧ (s.sign r).cols = s.cols ∧ (s.sign r).dim = s.dim := by
  unfold Tm.sign
  split
  · exact ⟨rfl, rfl, rfl, rfl, rfl⟩
  split
  · unfold Tm.join Tm.onRow
    split
    · exact ⟨rfl, rfl, rfl, rfl, rfl⟩
    · split <;> exact ⟨rfl, rfl, rfl, rfl, rfl⟩
  have hs : (if s.full = true then s.fresh else s).inn = s.inn ∧ (if s.full = true then s.fresh else s).seq = s.seq ∧ (if s.full = true then s.fresh else s).b = s.b ∧ (if s.full = true then s.fresh else s).cols = s.cols ∧ (if s.full = true then s.fresh else s).dim = s.dim := by
    split
    · unfold Tm.fresh Tm.down Tm.scroll
      split <;> exact ⟨rfl, rfl, rfl, rfl, rfl⟩
    · exact ⟨rfl, rfl, rfl, rfl, rfl⟩
  dsimp only
  generalize (if s.full = true then s.fresh else s) = t at *
  obtain ⟨h1, h2, h3, h4, h5⟩ := hs
  split
  · obtain ⟨g1, g2, g3, g4, g5⟩ := print_keeps t 65533 1
    exact ⟨g1.trans h1, g2.trans h2, g3.trans h3, g4.trans h4, g5.trans h5⟩
  · obtain ⟨g1, g2, g3, g4, g5⟩ := print_keeps t r (ofR r).toNat
    exact ⟨g1.trans h1, g2.trans h2, g3.trans h3, g4.trans h4, g5.trans h5⟩
theorem OKT.control (h : OKT M s) (x : Nat) : OKT (M + 1) (s.control x) := by
  have h' := h.mono (Nat.le_succ M)
  unfold Tm.control
  split
  · exact { h' with col := (by have := h.c1; exact this), full := fun e => by cases e }
  split
  · exact h.down.1
  split
  · exact { h' with col := (by have := h.col; show s.col - 1 < s.cols; omega), full := fun e => by cases e }
  · exact h'
theorem clampN_lt (x : Int) {n : Nat} (h : 1 ≤ n) : clampN x n < n := by unfold clampN; omega
theorem OKT.to_ (h : OKT M s) (a b : Int) : OKT M (s.to_ a b) := { h with row := clampN_lt a h.r1, col := clampN_lt b h.c1, full := fun e => by cases e }
theorem OKT.home (h : OKT M s) (q : List UInt8) : OKT M (s.home q) := by
  unfold Tm.home
  dsimp only
  split
  · exact h
  · exact h.to_ _ _
theorem OKT.erase (h : OKT M s) (r k : Nat) (hk : k ≤ s.cols) : OKT M (s.erase r k) := h.onRow (Nat.le_refl _) (fun x hx => OKrow.erase (by have := h.m; omega) _ _ _ hx (by omega))
theorem OKT.eraseRest : ∀ (n k : Nat) (s : Tm), OKT M s → OKT M (eraseRest n k s)
  | 0, _, _, h => h
  | n + 1, k, s, h => OKT.eraseRest n (k + 1) _ (h.erase k 0 (Nat.zero_le _))
theorem ite_ind {α : Type} (p : α → Prop) {c : Prop} [Decidable c] {a b : α} (h1 : c → p a) (h2 : ¬ c → p b) : p (if c then a else b) := by
  by_cases h : c
  · rw [if_pos h]; exact h1 h
  · rw [if_neg h]; exact h2 h
theorem OKT.ends (h : OKT M s) (q : List UInt8) (x : Nat) : OKT M (s.ends q x) := by
  have hc := h.col
  unfold Tm.ends
  refine ite_ind (OKT M) (fun _ => h.home q) (fun _ => ite_ind (OKT M) (fun _ => h) (fun _ => ?_))
  dsimp only
  refine ite_ind (OKT M) (fun _ => h.to_ _ _) (fun _ => ite_ind (OKT M) (fun _ => h.to_ _ _) (fun _ => ite_ind (OKT M) (fun _ => h.to_ _ _) (fun _ => ite_ind (OKT M) (fun _ => h.to_ _ _) (fun _ => ite_ind (OKT M) (fun _ => h.to_ _ _) (fun _ => ?_)))))
  refine ite_ind (OKT M) (fun _ => ite_ind (OKT M) (fun _ => OKT.eraseRest _ _ _ (h.erase _ _ (by omega))) (fun _ => h)) (fun _ => ?_)
  refine ite_ind (OKT M) (fun _ => ite_ind (OKT M) (fun _ => h.erase _ _ (by omega)) (fun _ => h)) (fun _ => ?_)
  exact ite_ind (OKT M) (fun _ => ite_ind (OKT M) (fun _ => { h with }) (fun _ => h)) (fun _ => h)
theorem OKT.setB (h : OKT M s) {l : List UInt8} (hl : l.length ≤ 4) : OKT M { s with b := l } := { h with b := hl }
theorem OKT.setI (h : OKT M s) {k : Nat} (hk : k ≤ 2) : OKT M { s with inn := k } := { h with inn := hk }
theorem OKT.drain : ∀ (n M : Nat) (s : Tm), OKT M s → OKT (M + 4 * n) (drainT n s)
  | 0, M, s, h => h
  | n + 1, M, s, h => by
    unfold drainT
    split
    · refine (OKT.drain n (M + 4) _ ((h.sign _).setB ?_)).mono (by omega)
      rw [List.length_drop]
      have := h.b
      omega
    · exact h.mono (by omega)
theorem wholeG_false : ∀ (n lo hi : Nat) (l : List UInt8), wholeG n lo hi l = false → l.length < n
  | 0, _, _, _, h => by cases h
  | n + 1, lo, hi, [], h => Nat.succ_pos n
  | n + 1, lo, hi, x :: l, h => by
    have h' : (if x.toNat < lo ∨ hi < x.toNat then true else wholeG n 128 191 l) = false := h
    split at h'
    · cases h'
    · have := wholeG_false n 128 191 l h'
      rw [List.length_cons]
      omega
theorem tailsP_le (x : Nat) : (tailsP x).1 ≤ 3 := by
  unfold tailsP
  repeat' split
  all_goals decide
theorem whole_false {l : List UInt8} (h : wholeL l = false) : l.length ≤ 3 := by
  cases l with
  | nil => exact Nat.zero_le _
  | cons x l =>
    have h1 := wholeG_false _ _ _ _ h
    have h2 := tailsP_le x.toNat
    rw [List.length_cons]
    omega
theorem drain_b : ∀ (n : Nat) (s : Tm), s.b.length < n → wholeL (drainT n s).b = false
  | 0, s, h => absurd h (Nat.not_lt_zero _)
  | n + 1, s, h => by
    unfold drainT
    split
    · refine drain_b n _ ?_
      show (s.b.drop (Lib.decodeL (s.b.take 4)).2).length < n
      have hw := Lib.decodeL_width (s.b.take 4)
      rw [List.length_drop]
      rename_i hwh
      have : s.b ≠ [] := by
        intro e
        rw [e] at hwh
        cases hwh
      have := List.length_pos_iff.2 this
      omega
    · rename_i hwh
      simpa using hwh
def Waits (s : Tm) : Prop := wholeL s.b = false
theorem runesG_le : ∀ (n : Nat) (l : List UInt8), (runesG n l).length ≤ n
  | 0, l => by simp [runesG]
  | n + 1, l => by
    unfold runesG
    split
    · simp
    · simp only [List.length_cons]
      have := runesG_le n (l.drop (Lib.decodeL l).2)
      omega
theorem runesL_le (l : List UInt8) : (runesL l).length ≤ l.length := runesG_le _ _
theorem ends_keeps (s : Tm) (q : List UInt8) (x : Nat) : (s.ends q x).b = s.b ∧ (s.ends q x).cols = s.cols := by
  have he : ∀ (n k : Nat) (s : Tm), (eraseRest n k s).b = s.b ∧ (eraseRest n k s).cols = s.cols := by
    intro n
    induction n with
    | zero => intro k s; exact ⟨rfl, rfl⟩
    | succ n ih => intro k s; exact ih (k + 1) (s.erase k 0)
  unfold Tm.ends
  refine ite_ind (fun t : Tm => t.b = s.b ∧ t.cols = s.cols) (fun _ => ?_) (fun _ => ite_ind (fun t : Tm => t.b = s.b ∧ t.cols = s.cols) (fun _ => ⟨rfl, rfl⟩) (fun _ => ?_))
  · unfold Tm.home
    dsimp only
    split <;> exact ⟨rfl, rfl⟩
  dsimp only
  refine ite_ind (fun t : Tm => t.b = s.b ∧ t.cols = s.cols) (fun _ => ⟨rfl, rfl⟩) (fun _ => ite_ind (fun t : Tm => t.b = s.b ∧ t.cols = s.cols) (fun _ => ⟨rfl, rfl⟩) (fun _ => ite_ind (fun t : Tm => t.b = s.b ∧ t.cols = s.cols) (fun _ => ⟨rfl, rfl⟩) (fun _ => ite_ind (fun t : Tm => t.b = s.b ∧ t.cols = s.cols) (fun _ => ⟨rfl, rfl⟩) (fun _ => ite_ind (fun t : Tm => t.b = s.b ∧ t.cols = s.cols) (fun _ => ⟨rfl, rfl⟩) (fun _ => ?_)))))
  refine ite_ind (fun t : Tm => t.b = s.b ∧ t.cols = s.cols) (fun _ => ite_ind (fun t : Tm => t.b = s.b ∧ t.cols = s.cols) (fun _ => he _ _ _) (fun _ => ⟨rfl, rfl⟩)) (fun _ => ?_)
  refine ite_ind (fun t : Tm => t.b = s.b ∧ t.cols = s.cols) (fun _ => ite_ind (fun t : Tm => t.b = s.b ∧ t.cols = s.cols) (fun _ => ⟨rfl, rfl⟩) (fun _ => ⟨rfl, rfl⟩)) (fun _ => ?_)
  exact ite_ind (fun t : Tm => t.b = s.b ∧ t.cols = s.cols) (fun _ => ite_ind (fun t : Tm => t.b = s.b ∧ t.cols = s.cols) (fun _ => ⟨rfl, rfl⟩) (fun _ => ⟨rfl, rfl⟩)) (fun _ => ⟨rfl, rfl⟩)
theorem control_keeps (s : Tm) (x : Nat) : (s.control x).b = s.b ∧ (s.control x).cols = s.cols ∧ (s.control x).inn = s.inn := by
  unfold Tm.control Tm.down Tm.scroll
  split
  · exact ⟨rfl, rfl, rfl⟩
  split
  · split <;> exact ⟨rfl, rfl, rfl⟩
  split <;> exact ⟨rfl, rfl, rfl⟩
theorem plain_b (s : Tm) (x : Nat) : (s.plain x).b = s.b := by
  unfold Tm.plain
  split
  · rfl
  split
  · exact (control_keeps s x).1
  · exact (sign_keeps s x).2.2.1
theorem OKT.plain (h : OKT M s) (x : Nat) : OKT (M + 4) (s.plain x) := by
  unfold Tm.plain
  split
  · exact (h.setI (k := 1) (by omega)).mono (by omega)
  split
  · exact (h.control x).mono (by omega)
  · exact h.sign _
theorem OKT.byte (h : OKT M s) (hw : Waits s) (x : UInt8) : OKT (M + 32) (s.byte x) ∧ Waits (s.byte x) := by
  have hb := whole_false hw
  unfold Tm.byte
  split
  · constructor
    · refine (OKT.drain _ M _ (h.setB ?_)).mono ?_
      · rw [List.length_append, List.length_singleton]; omega
      · omega
    · exact drain_b _ _ (by show (s.b ++ [x]).length < s.b.length + 1 + 1; rw [List.length_append, List.length_singleton]; omega)
  split
  · constructor
    · refine ((((OKT.signs _ M _ h).setB (l := []) (by simp))).plain x.toNat).mono ?_
      have := runesL_le s.b
      omega
    · show wholeL (Tm.plain _ _).b = false
      rw [plain_b]
      rfl
  split
  · exact ⟨{ h.mono (show M ≤ M + 32 by omega) with inn := Nat.le_refl 2, seq := Nat.zero_le _ }, hw⟩
  split
  · refine ⟨{ h.mono (show M ≤ M + 32 by omega) with seq := ?_ }, hw⟩
    have := h.seq
    show (if s.seq.size < 16 then s.seq.push x else s.seq).size ≤ 16
    split
    · rw [ByteArray.size_push]; omega
    · exact this
  split
  · exact ⟨((h.setI (k := 0) (by omega)).ends _ _).mono (by omega), by
      show wholeL (Tm.ends _ _ _).b = false
      rw [(ends_keeps _ _ _).1]
      exact hw⟩
  · exact ⟨(h.setI (k := 0) (by omega)).mono (by omega), hw⟩
theorem OKT.feed : ∀ (l : List UInt8) (M : Nat) (s : Tm), OKT M s → Waits s → OKT (M + 32 * l.length) (s.feed l) ∧ Waits (s.feed l)
  | [], M, s, h, hw => ⟨h, hw⟩
  | x :: l, M, s, h, hw => by
    have h1 := h.byte hw x
    have h2 := OKT.feed l _ _ h1.1 h1.2
    refine ⟨h2.1.mono ?_, h2.2⟩
    rw [List.length_cons]
    omega
theorem cutN_le (x : Int) {n : Nat} (h : 1 ≤ n) : 1 ≤ cutN x n ∧ cutN x n ≤ n := by unfold cutN; omega
theorem newT_ok (rows cols : Int) : OKT 4 (newT rows cols) ∧ Waits (newT rows cols) := by
  have h1 := cutN_le rows (n := 60) (by omega)
  have h2 := cutN_le cols (n := 120) (by omega)
  refine ⟨⟨Nat.le_refl _, h2.1, h2.2, ?_, ?_, fun r hr => ?_, ?_, h2.1, (fun e => by cases e), ⟨Nat.zero_le _, Nat.zero_le _, (fun r hr => by cases hr)⟩, Nat.zero_le _, Nat.zero_le _, Nat.zero_le _, Nat.zero_le _⟩, rfl⟩
  · show 1 ≤ (List.replicate _ _).length
    rw [List.length_replicate]; exact h1.1
  · show (List.replicate _ _).length ≤ 60
    rw [List.length_replicate]; exact h1.2
  · rw [(List.mem_replicate.1 hr).2]
    exact OKrow.blank (by omega)
  · show 0 < (List.replicate _ _).length
    rw [List.length_replicate]; exact h1.1
theorem OKT.goOff (h : OKT M s) (hr : 1 ≤ s.row) : OKT (M + 1) s.goOff := by
  have h' := h.mono (Nat.le_succ M)
  have h2 := h.row
  have hl : s.l.tail.length + 1 = s.l.length := by rw [List.length_tail]; omega
  refine { h' with r1 := ?_, r2 := ?_, rows := fun r hr => ?_, row := ?_, gone := ?_, off := ?_ }
  · show 1 ≤ s.l.tail.length
    omega
  · show s.l.tail.length ≤ 60
    have := h.r2
    omega
  · exact h'.rows r (List.mem_of_mem_tail hr)
  · show s.row - 1 < s.l.tail.length
    omega
  · simp only [Tm.goOff]
    exact h.gone_next
  · show s.off + 1 ≤ M + 1
    have := h.off
    omega
theorem OKT.goOffs_ : ∀ (n rows M : Nat) (s : Tm), OKT M s → 1 ≤ rows → OKT (M + n) (goOffs n rows s) ∧ (s.row < n → (goOffs n rows s).row < rows)
  | 0, rows, M, s, h, h1 => ⟨h, fun x => absurd x (Nat.not_lt_zero _)⟩
  | n + 1, rows, M, s, h, h1 => by
    unfold goOffs
    split
    · rename_i hr
      have h2 := OKT.goOffs_ n rows _ _ (h.goOff (by omega)) h1
      refine ⟨h2.1.mono (by omega), fun x => h2.2 ?_⟩
      show s.row - 1 < n
      omega
    · exact ⟨h.mono (by omega), fun _ => by omega⟩
theorem fitR_len (n : Nat) (l : List TC) : (fitR n l).length = n := by
  unfold fitR
  dsimp only
  rw [List.length_append, blankR_len]
  split
  · split
    · rw [List.length_take, List.length_set]; omega
    · rw [List.length_take]; omega
  · omega
theorem getC_take {l : List TC} {n j : Nat} (h : j < n) : getC (l.take n) j = getC l j := by
  unfold getC
  rw [List.getD_eq_getElem?_getD, List.getD_eq_getElem?_getD, List.getElem?_take, if_pos h]
theorem getC_append {a b : List TC} (j : Nat) : getC (a ++ b) j = if j < a.length then getC a j else getC b (j - a.length) := by
  unfold getC
  rw [List.getD_eq_getElem?_getD, List.getD_eq_getElem?_getD, List.getD_eq_getElem?_getD]
  split
  · rw [List.getElem?_append_left (by assumption)]
  · rw [List.getElem?_append_right (by omega)]
theorem OKrow.fit {m : Nat} (h : OKrow m M r) (hn : 1 ≤ n) (h1 : 1 ≤ M) : OKrow n M (fitR n r) := by
  refine ⟨fitR_len n r, ?_, fun c hc => ?_⟩
  · unfold fitR
    dsimp only
    by_cases hlt : n < r.length
    · rw [if_pos hlt]
      have e : blankR (n - (List.take n (if (getC r n).wide = 0 then r.set (n - 1) blankC else r)).length) = [] := by
        have : (List.take n (if (getC r n).wide = 0 then r.set (n - 1) blankC else r)).length = n := by
          rw [List.length_take]
          split
          · rw [List.length_set]; omega
          · omega
        rw [this, Nat.sub_self]
        rfl
      rw [e, List.append_nil]
      have hwn := (h.2.1 n hlt)
      have hb := blank_wide
      have hs := blank_size
      intro j hj
      rw [List.length_take] at hj ⊢
      have hll : (if (getC r n).wide = 0 then r.set (n - 1) blankC else r).length = r.length := by
        split
        · exact List.length_set ..
        · rfl
      rw [hll] at hj ⊢
      have hjn : j < n := by omega
      have hjl : j < r.length := by omega
      have hwj := h.2.1 j hjl
      rw [getC_take hjn, getC_take (by omega)]
      by_cases h0 : (getC r n).wide = 0
      · rw [if_pos h0, getC_set (by omega), getC_set (by omega)]
        by_cases e1 : n - 1 = j
        · rw [if_pos e1]
          refine ⟨⟨by omega, by omega⟩, ⟨by omega, fun ⟨x, y⟩ => ?_⟩, by omega⟩
          rw [if_neg (by omega)] at y
          have h2 := (hwn.2.1.1 h0).2
          rw [e1] at h2
          have := hwj.2.1.2 ⟨x, y⟩
          omega
        · rw [if_neg e1]
          refine ⟨⟨hwj.1.1, fun x => ?_⟩, ?_, hwj.2.2⟩
          · by_cases e2 : j + 1 < n
            · omega
            · omega
          · rw [hwj.2.1]
            by_cases e3 : n - 1 = j - 1
            · have : j = 0 := by omega
              constructor
              · intro x; omega
              · intro x; omega
            · rw [if_neg e3]
      · rw [if_neg h0]
        refine ⟨⟨hwj.1.1, fun x => ?_⟩, hwj.2.1, hwj.2.2⟩
        by_cases e1 : j + 1 < n
        · omega
        · exfalso
          have e2 : n - 1 = j := by omega
          exact h0 (hwn.2.1.2 ⟨by omega, by rw [e2]; exact x⟩)
    · rw [if_neg hlt]
      have hb := blank_wide
      have hs := blank_size
      intro j hj
      rw [List.length_append, blankR_len] at hj ⊢
      rw [getC_append, getC_append]
      by_cases e1 : j < r.length
      · have hwj := h.2.1 j e1
        rw [if_pos e1, if_pos (by omega)]
        refine ⟨⟨hwj.1.1, fun x => ?_⟩, hwj.2.1, hwj.2.2⟩
        have := hwj.1.2 x
        omega
      · rw [if_neg e1, getC_blankR]
        refine ⟨⟨by omega, by omega⟩, ⟨by omega, fun ⟨x, y⟩ => ?_⟩, by omega⟩
        by_cases e2 : j - 1 < r.length
        · rw [if_pos e2] at y
          have := (h.2.1 (j - 1) e2).1.2 y
          omega
        · rw [if_neg e2, getC_blankR] at y
          omega
  · unfold fitR at hc
    dsimp only at hc
    have hbl : ∀ k, c ∈ blankR k → c.S.size ≤ M := fun k hk => by
      rw [(List.mem_replicate.1 hk).2]
      exact h1
    rcases List.mem_append.1 hc with hc | hc
    · split at hc
      · have hc := List.mem_of_mem_take hc
        split at hc
        · rcases List.mem_or_eq_of_mem_set hc with hc | rfl
          · exact h.2.2 c hc
          · exact h1
        · exact h.2.2 c hc
      · exact h.2.2 c hc
    · exact hbl _ hc
theorem OKT.resize (h : OKT M s) (rows cols : Int) : OKT (M + 64) (s.resize rows cols) := by
  have h1 := cutN_le rows (n := 60) (by omega)
  have h2 := cutN_le cols (n := 120) (by omega)
  unfold Tm.resize
  dsimp only
  have hg := OKT.goOffs_ (s.row + 1) (cutN rows 60) M s h h1.1
  have hrow := hg.2 (by omega)
  have h3 := hg.1
  generalize goOffs (s.row + 1) (cutN rows 60) s = t at *
  generalize cutN rows 60 = R at *
  generalize cutN cols 120 = C at *
  have hs := h.row
  have hr2 := h.r2
  have hm := h.m
  obtain ⟨L, hL⟩ : ∃ L, (t.l.take R).map (fitR C) = L := ⟨_, rfl⟩
  have hLl : L.length = min R t.l.length := by rw [← hL, List.length_map, List.length_take]
  rw [hL]
  have ht := h3.row
  have hlen : (L ++ List.replicate (R - L.length) (blankR C)).length = R := by
    rw [List.length_append, List.length_replicate]
    omega
  refine { h3.mono (show M + (s.row + 1) ≤ M + 64 by omega) with c1 := h2.1, c2 := h2.2, r1 := ?_, r2 := ?_, rows := fun r hr => ?_, row := ?_, col := ?_, full := fun e => by cases e }
  · show 1 ≤ (L ++ List.replicate (R - L.length) (blankR C)).length
    omega
  · show (L ++ List.replicate (R - L.length) (blankR C)).length ≤ 60
    omega
  · rcases List.mem_append.1 hr with hr | hr
    · rw [← hL] at hr
      obtain ⟨y, hy, rfl⟩ := List.mem_map.1 hr
      exact ((h3.rows y (List.mem_of_mem_take hy)).fit h2.1 (by omega)).mono (by omega)
    · rw [(List.mem_replicate.1 hr).2]
      exact OKrow.blank (by omega)
  · exact clampN_lt _ (by show 1 ≤ (L ++ List.replicate (R - L.length) (blankR C)).length; omega)
  · exact clampN_lt _ h2.1
end
end Go.Proofs.YtgifpkjcggnhgaaGreatDoorL

