/- Parts of the proof of the law that the last file states; declarations that nothing mentions are left out by a program. No conditions. -/
import Derived.Lib.MapLaws
import Derived.Test.YtledplnlcjfafaaDoorLTextPq
set_option linter.unusedVariables false
set_option linter.unusedSimpArgs false
namespace Go.Proofs.YtledplnlcjfafaaDoorL
open Go Go.RowKit
theorem getC_set {l : List TC} {i j : Nat} {c : TC} (hi : i < l.length) : getC (l.set i c) j = if i = j then c else getC l j := by
  unfold getC
  rw [List.getD_eq_getElem?_getD, List.getD_eq_getElem?_getD, List.getElem?_set]
  by_cases h : i = j
  · subst h; simp [hi]
  · simp [h]
theorem getC_get {l : List TC} {j : Nat} (h : j < l.length) : getC l j = l[j] := by
  unfold getC
  rw [List.getD_eq_getElem?_getD, List.getElem?_eq_getElem h]
  rfl
theorem getC_blankR (n j : Nat) : getC (blankR n) j = blankC := by
  unfold getC blankR
  rw [List.getD_eq_getElem?_getD, List.getElem?_replicate]
  split <;> rfl
theorem blankR_len (n : Nat) : (blankR n).length = n := List.length_replicate ..
theorem put1_len (l : List TC) (k : Nat) : (put1 l k).length = l.length := by unfold put1; split <;> simp
theorem put2_len (l : List TC) (k : Nat) : (put2 l k).length = l.length := by unfold put2; split <;> simp
theorem putR_len (l : List TC) (k : Nat) (c : TC) : (putR l k c).length = l.length := by unfold putR; rw [List.length_set, put2_len, put1_len]
theorem blank_wide : blankC.wide = 1 := rfl
theorem blank_size : blankC.S.size = 1 := rfl
theorem putR_get {l : List TC} (h : RowOK l) {k : Nat} (hk : k < l.length) (c : TC) (j : Nat) :
    getC (putR l k c) j = if j = k then c else if j + 1 = k ∧ (getC l k).wide = 0 then blankC else if j = k + 1 ∧ (getC l k).wide = 2 then blankC else getC l j := by
  have hw := h k hk
  have e1 : ∀ j, getC (put1 l k) j = if j + 1 = k ∧ (getC l k).wide = 0 then blankC else getC l j := by
    intro j
    unfold put1
    by_cases h0 : (getC l k).wide = 0
    · have h1 := (hw.2.1.1 h0)
      rw [if_pos ⟨h0, h1.2⟩, getC_set (by omega)]
      by_cases hj : k - 1 = j
      · rw [if_pos hj, if_pos ⟨by omega, h0⟩]
      · rw [if_neg hj, if_neg (by omega)]
    · rw [if_neg (fun x => h0 x.1), if_neg (fun x => h0 x.2)]
  have e2 : ∀ j, getC (put2 (put1 l k) k) j = if j = k + 1 ∧ (getC l k).wide = 2 then blankC else getC (put1 l k) j := by
    intro j
    have ek : getC (put1 l k) k = getC l k := by rw [e1, if_neg (by omega)]
    unfold put2
    rw [ek]
    by_cases h2 : (getC l k).wide = 2
    · have h3 := hw.1.2 h2
      rw [if_pos h2, getC_set (by rw [put1_len]; omega)]
      by_cases hj : k + 1 = j
      · rw [if_pos hj, if_pos ⟨hj.symm, h2⟩]
      · rw [if_neg hj, if_neg (fun x => hj x.1.symm)]
    · rw [if_neg h2, if_neg (fun x => h2 x.2)]
  unfold putR
  rw [getC_set (by rw [put2_len, put1_len]; exact hk)]
  by_cases hj : k = j
  · rw [if_pos hj, if_pos hj.symm]
  · rw [if_neg hj, if_neg (fun x => hj x.symm), e2, e1]
    by_cases h5 : j + 1 = k ∧ (getC l k).wide = 0
    · rw [if_pos h5, if_neg (by omega), if_pos h5]
    · rw [if_neg h5, if_neg h5]
def One (c : TC) : Prop := c.wide = 1 ∧ 0 < c.S.size
theorem putR_ok {l : List TC} (h : RowOK l) {k : Nat} (hk : k < l.length) {c : TC} (hc : One c) : RowOK (putR l k c) := by
  obtain ⟨hc1, hc2⟩ := hc
  intro j hj
  rw [putR_len] at hj ⊢
  have hw := h k hk
  have hwj := h j hj
  have hb1 := blank_wide
  have hb2 := blank_size
  have gm : 0 < j → ((getC l (j - 1)).wide ≤ 2 ∧ ((getC l (j - 1)).wide = 2 → j < l.length)) ∧ ((getC l (j - 1)).wide = 0 ↔ 0 < j - 1 ∧ (getC l (j - 1 - 1)).wide = 2) := fun hp => by
    have := h (j - 1) (by omega)
    exact ⟨⟨this.1.1, fun e => by have := this.1.2 e; omega⟩, this.2.1⟩
  have gk : k + 1 < l.length → ((getC l (k + 1)).wide = 0 ↔ (getC l k).wide = 2) := fun hp => by
    have := (h (k + 1) hp).2.1
    rw [Nat.add_sub_cancel] at this
    rw [this]
    exact ⟨fun x => x.2, fun x => ⟨by omega, x⟩⟩
  rw [putR_get h hk, putR_get h hk]
  by_cases e : j = k
  · subst e
    rw [if_pos rfl]
    rw [hc1]
    refine ⟨⟨by omega, by omega⟩, ⟨by omega, fun ⟨x, y⟩ => ?_⟩, by omega⟩
    rw [if_neg (by omega)] at y
    by_cases h0 : (getC l j).wide = 0
    · rw [if_pos ⟨by omega, h0⟩] at y
      omega
    · rw [if_neg (fun z => h0 z.2), if_neg (by omega)] at y
      exact absurd (hwj.2.1.2 ⟨x, y⟩) h0
  · rw [if_neg e]
    by_cases e1 : j + 1 = k ∧ (getC l k).wide = 0
    · rw [if_pos e1]
      refine ⟨⟨by omega, by omega⟩, ⟨by omega, fun ⟨x, y⟩ => ?_⟩, by omega⟩
      rw [if_neg (by omega), if_neg (by omega), if_neg (by omega)] at y
      have h2 := (hw.2.1.1 e1.2)
      have : k - 1 = j := by omega
      rw [this] at h2
      have := hwj.2.1.2 ⟨x, y⟩
      omega
    · rw [if_neg e1]
      by_cases e2 : j = k + 1 ∧ (getC l k).wide = 2
      · rw [if_pos e2]
        refine ⟨⟨by omega, by omega⟩, ⟨by omega, fun ⟨x, y⟩ => ?_⟩, by omega⟩
        rw [if_pos (by omega)] at y
        omega
      · rw [if_neg e2]
        refine ⟨hwj.1, ?_, hwj.2.2⟩
        rw [hwj.2.1]
        by_cases e3 : 0 < j
        · have g := gm e3
          by_cases e4 : j - 1 = k
          · rw [if_pos e4]
            have ej : j = k + 1 := by omega
            subst ej
            have g2 := gk hj
            simp only [Nat.add_sub_cancel] at *
            rw [hc1]
            constructor
            · intro x; exact absurd x.2 (fun z => e2 (by simpa using z))
            · intro x; omega
          · rw [if_neg e4]
            by_cases e5 : j - 1 + 1 = k ∧ (getC l k).wide = 0
            · exact absurd (show j = k by omega) e
            · rw [if_neg e5]
              by_cases e6 : j - 1 = k + 1 ∧ (getC l k).wide = 2
              · rw [if_pos e6]
                have h2 := gk (by omega)
                have e7 : getC l (j - 1) = getC l (k + 1) := by rw [e6.1]
                rw [e7]
                have h3 := h2.2 e6.2
                constructor
                · intro x; omega
                · intro x; omega
              · rw [if_neg e6]
        · constructor
          · intro x; exact absurd x.1 e3
          · intro x; exact absurd x.1 e3
theorem putR_two {l : List TC} (h : RowOK l) {k : Nat} (hk : k + 1 < l.length) {c d : TC} (hc : c.wide = 2) (hc2 : 0 < c.S.size) (hd : d.wide = 0) (hd2 : d.S.size = 0) :
    RowOK (putR (putR l k c) (k + 1) d) ∧ ∀ j, getC (putR (putR l k c) (k + 1) d) j = if j = k then c else if j = k + 1 then d else if j + 1 = k ∧ (getC l k).wide = 0 then blankC else if j = k + 2 ∧ (getC l (k + 1)).wide = 2 then blankC else getC l j := by
  have hk' : k < l.length := by omega
  have g := putR_get h hk' c
  have hw := h k hk'
  have hw1 := h (k + 1) hk
  rw [Nat.add_sub_cancel] at hw1
  have hlen := putR_len l k c
  have g1 : getC (putR l k c) (k + 1) = if (getC l k).wide = 2 then blankC else getC l (k + 1) := by
    rw [g, if_neg (by omega), if_neg (by omega)]
    by_cases h2 : (getC l k).wide = 2
    · rw [if_pos ⟨rfl, h2⟩, if_pos h2]
    · rw [if_neg (fun x => h2 x.2), if_neg h2]
  have g1w : (getC (putR l k c) (k + 1)).wide ≠ 0 := by
    rw [g1]
    split
    · decide
    · rename_i h2
      intro h0
      exact h2 (hw1.2.1.1 h0).2
  have g1t : (getC (putR l k c) (k + 1)).wide = 2 ↔ (getC l (k + 1)).wide = 2 := by
    rw [g1]
    split
    · rename_i h2
      have h0 := hw1.2.1.2 ⟨by omega, h2⟩
      rw [blank_wide]
      omega
    · exact Iff.rfl
  have e1 : put1 (putR l k c) (k + 1) = putR l k c := by
    unfold put1
    rw [if_neg (fun x => g1w x.1)]
  have hget : ∀ j, getC (putR (putR l k c) (k + 1) d) j = if j = k then c else if j = k + 1 then d else if j + 1 = k ∧ (getC l k).wide = 0 then blankC else if j = k + 2 ∧ (getC l (k + 1)).wide = 2 then blankC else getC l j := by
    intro j
    have e2 : ∀ j, getC (put2 (putR l k c) (k + 1)) j = if j = k + 2 ∧ (getC l (k + 1)).wide = 2 then blankC else getC (putR l k c) j := by
      intro j
      unfold put2
      by_cases h2 : (getC l (k + 1)).wide = 2
      · have h3 := hw1.1.2 h2
        rw [if_pos (g1t.2 h2), getC_set (by rw [hlen]; omega)]
        by_cases hj : k + 1 + 1 = j
        · rw [if_pos hj, if_pos ⟨by omega, h2⟩]
        · rw [if_neg hj, if_neg (fun x => hj (by omega))]
      · rw [if_neg (fun x => h2 (g1t.1 x)), if_neg (fun x => h2 x.2)]
    unfold putR
    have e1' : put1 ((put2 (put1 l k) k).set k c) (k + 1) = putR l k c := e1
    rw [e1', getC_set (by rw [put2_len, hlen]; exact hk)]
    by_cases hj : k + 1 = j
    · rw [if_pos hj, if_neg (by omega), if_pos hj.symm]
    · rw [if_neg hj, e2, g]
      by_cases hjk : j = k
      · rw [if_neg (by omega), if_pos hjk, if_pos hjk]
      · rw [if_neg hjk, if_neg hjk, if_neg (show ¬ j = k + 1 from fun x => hj x.symm)]
        by_cases h5 : j + 1 = k ∧ (getC l k).wide = 0
        · rw [if_pos h5, if_pos h5, if_neg (show ¬ (j = k + 2 ∧ (getC l (k + 1)).wide = 2) by omega)]
        · rw [if_neg h5, if_neg h5, if_neg (show ¬ (j = k + 1 ∧ (getC l k).wide = 2) by omega)]
  refine ⟨?_, hget⟩
  intro j hj
  rw [putR_len, putR_len] at hj ⊢
  have hwj := h j hj
  have hb1 := blank_wide
  have hb2 := blank_size
  rw [hget, hget]
  by_cases a1 : j = k
  · subst a1
    rw [if_pos rfl]
    refine ⟨⟨by omega, by omega⟩, ⟨by omega, fun ⟨x, y⟩ => ?_⟩, by omega⟩
    rw [if_neg (by omega), if_neg (by omega)] at y
    by_cases h0 : (getC l j).wide = 0
    · rw [if_pos ⟨by omega, h0⟩] at y
      omega
    · rw [if_neg (fun z => h0 z.2), if_neg (by omega)] at y
      exact absurd (hwj.2.1.2 ⟨x, y⟩) h0
  · rw [if_neg a1]
    by_cases a2 : j = k + 1
    · rw [if_pos a2]
      refine ⟨⟨by omega, by omega⟩, ⟨fun _ => ⟨by omega, ?_⟩, fun _ => hd⟩, by omega⟩
      rw [if_pos (by omega)]
      exact hc
    · rw [if_neg a2]
      by_cases a3 : j + 1 = k ∧ (getC l k).wide = 0
      · rw [if_pos a3]
        refine ⟨⟨by omega, by omega⟩, ⟨by omega, fun ⟨x, y⟩ => ?_⟩, by omega⟩
        rw [if_neg (by omega), if_neg (by omega), if_neg (by omega), if_neg (by omega)] at y
        have h2 := (hw.2.1.1 a3.2)
        have : k - 1 = j := by omega
        rw [this] at h2
        have := hwj.2.1.2 ⟨x, y⟩
        omega
      · rw [if_neg a3]
        by_cases a4 : j = k + 2 ∧ (getC l (k + 1)).wide = 2
        · rw [if_pos a4]
          refine ⟨⟨by omega, by omega⟩, ⟨by omega, fun ⟨x, y⟩ => ?_⟩, by omega⟩
          rw [if_neg (by omega), if_pos (by omega)] at y
          omega
        · rw [if_neg a4]
          refine ⟨hwj.1, ?_, hwj.2.2⟩
          rw [hwj.2.1]
          by_cases a5 : j = k + 2
          · subst a5
            have : k + 2 - 1 = k + 1 := by omega
            rw [this, if_neg (by omega), if_pos rfl, hd]
            constructor
            · intro x; exact absurd x.2 (fun z => a4 ⟨rfl, z⟩)
            · intro x; omega
          · by_cases a6 : 0 < j
            · rw [if_neg (by omega), if_neg (by omega), if_neg (by omega)]
              by_cases a7 : j - 1 = k + 2 ∧ (getC l (k + 1)).wide = 2
              · rw [if_pos a7, hb1]
                have h3 := (h (k + 2) (by omega)).2.1
                have h4 : k + 2 - 1 = k + 1 := by omega
                rw [h4] at h3
                have h5 := h3.2 ⟨by omega, a7.2⟩
                rw [a7.1]
                constructor
                · intro x; omega
                · intro x; omega
              · rw [if_neg a7]
            · constructor
              · intro x; exact absurd x.1 a6
              · intro x; exact absurd x.1 a6
section
variable {n M M' : Nat} {r l : List TC} {s : Tm}
theorem mem_put {l : List TC} {k : Nat} {c x : TC} (h : x ∈ putR l k c) : x = c ∨ x = blankC ∨ x ∈ l := by
  unfold putR put2 put1 at h
  rcases List.mem_or_eq_of_mem_set h with h | h
  · by_cases h0 : (getC l k).wide = 0 ∧ (getC l (k - 1)).wide = 2
    · rw [if_pos h0] at h
      split at h
      · rcases List.mem_or_eq_of_mem_set h with h | h
        · rcases List.mem_or_eq_of_mem_set h with h | h
          · exact .inr (.inr h)
          · exact .inr (.inl h)
        · exact .inr (.inl h)
      · rcases List.mem_or_eq_of_mem_set h with h | h
        · exact .inr (.inr h)
        · exact .inr (.inl h)
    · rw [if_neg h0] at h
      split at h
      · rcases List.mem_or_eq_of_mem_set h with h | h
        · exact .inr (.inr h)
        · exact .inr (.inl h)
      · exact .inr (.inr h)
  · exact .inl h
theorem OKrow.put (h : OKrow n M r) {k : Nat} (hk : k < n) {c : TC} (hc : One c) (hM : c.S.size ≤ M) (h1 : 1 ≤ M) : OKrow n M (putR r k c) := by
  refine ⟨by rw [putR_len]; exact h.1, putR_ok h.2.1 (by rw [h.1]; exact hk) hc, fun x hx => ?_⟩
  rcases mem_put hx with rfl | rfl | hx
  · exact hM
  · exact h1
  · exact h.2.2 x hx
theorem OKrow.two (h : OKrow n M r) {k : Nat} (hk : k + 1 < n) {c d : TC} (hc : c.wide = 2) (hc2 : 0 < c.S.size) (hd : d.wide = 0) (hd2 : d.S.size = 0) (hM : c.S.size ≤ M) (h1 : 1 ≤ M) : OKrow n M (putR (putR r k c) (k + 1) d) := by
  refine ⟨by rw [putR_len, putR_len]; exact h.1, (putR_two h.2.1 (by rw [h.1]; exact hk) hc hc2 hd hd2).1, fun x hx => ?_⟩
  rcases mem_put hx with rfl | rfl | hx
  · omega
  · exact h1
  · rcases mem_put hx with rfl | rfl | hx
    · exact hM
    · exact h1
    · exact h.2.2 x hx
theorem RowOK.blank (n : Nat) : RowOK (blankR n) := fun j hj => by
  rw [getC_blankR, getC_blankR]
  have := blank_wide
  have := blank_size
  omega
theorem OKrow.blank (h1 : 1 ≤ M) : OKrow n M (blankR n) := ⟨blankR_len n, RowOK.blank n, fun c hc => by
  unfold blankR at hc
  rw [(List.mem_replicate.1 hc).2]
  exact h1⟩
theorem mem_modify {α : Type} {f : α → α} {x : α} : ∀ {l : List α} {i : Nat}, x ∈ l.modify i f → x ∈ l ∨ ∃ y ∈ l, x = f y
  | [], i, h => by simp at h
  | a :: l, 0, h => by
    simp only [List.modify_zero_cons, List.mem_cons] at h
    rcases h with rfl | h
    · exact .inr ⟨a, List.mem_cons_self, rfl⟩
    · exact .inl (List.mem_cons_of_mem _ h)
  | a :: l, i + 1, h => by
    simp only [List.modify_succ_cons, List.mem_cons] at h
    rcases h with rfl | h
    · exact .inl List.mem_cons_self
    · rcases mem_modify h with h | ⟨y, hy, rfl⟩
      · exact .inl (List.mem_cons_of_mem _ h)
      · exact .inr ⟨y, List.mem_cons_of_mem _ hy, rfl⟩
set_option maxRecDepth 10000 in
theorem enc_size (r : Int) : 0 < (Utf8.encode r).size ∧ (Utf8.encode r).size ≤ 4 := by
  unfold Utf8.encode
  split
  · dsimp only
    split
    · refine ⟨?_, ?_⟩ <;> simp [ByteArray.size]
    · split
      · refine ⟨?_, ?_⟩ <;> simp [ByteArray.size]
      · split
        · refine ⟨?_, ?_⟩ <;> simp [ByteArray.size]
        · refine ⟨?_, ?_⟩ <;> simp [ByteArray.size]
  · exact ⟨by decide, by decide⟩
theorem ofR_cases (r : Int) : ofR r = 0 ∨ ofR r = 1 ∨ ofR r = 2 := by
  unfold ofR
  split
  · exact .inl rfl
  · split
    · exact .inr (.inr rfl)
    · exact .inr (.inl rfl)
end
section
variable {n M M' : Nat} {r l : List TC} {s : Tm}
theorem cutN_le (x : Int) {n : Nat} (h : 1 ≤ n) : 1 ≤ cutN x n ∧ cutN x n ≤ n := by unfold cutN; omega
theorem getC_take {l : List TC} {n j : Nat} (h : j < n) : getC (l.take n) j = getC l j := by
  unfold getC
  rw [List.getD_eq_getElem?_getD, List.getD_eq_getElem?_getD, List.getElem?_take, if_pos h]
end
end Go.Proofs.YtledplnlcjfafaaDoorL

