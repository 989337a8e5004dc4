/- Abbreviations: AbbrDrops by the plain model. No conditions. -/
import Derived.Test.YtbhiljaipikklaaDoorLState
import Derived.Test.YtbhiljaipikklaaDoorLRunes
namespace Go.Proofs.YtbhiljaipikklaaDoorL
set_option linter.unusedVariables false
set_option linter.unusedSimpArgs false
open Go Go.RowKit

theorem plainS_twice (s : ByteArray) : plainS (plainS s) = plainS s := by
  unfold plainS
  exact congrArg (fun l : List UInt8 => (⟨l.toArray⟩ : ByteArray)) (plainL_twice s.data.toList)
theorem makeS_self {s : ByteArray} (h : plainS s = s) (hs : s.size ≤ 600) : makeS s = s := by
  unfold makeS
  rw [h, if_neg (by omega)]
theorem backG_last (at_ : Int) (z : Nat) (hz : (z : Int) ≤ at_) : ∀ (l : List Nat) (o : Nat), backG at_ (l ++ [z]) o = z
  | [], o => by simp [backG, hz]
  | x :: l, o => by
    show backG at_ (l ++ [z]) _ = z
    exact backG_last at_ z hz l _
theorem backL_end (s : ByteArray) {at_ : Int} (h : (s.size : Int) ≤ at_) : backL s at_ = s.size := backG_last at_ s.size h _ 0
theorem backL_zero (s : ByteArray) : backL s 0 = 0 := by
  have := backL_bd s 0 (Int.le_refl _)
  omega
theorem backL_empty (at_ : Int) : backL ⟨#[]⟩ at_ = 0 := by
  have h : backL ⟨#[]⟩ at_ ≤ 0 := backL_le ⟨#[]⟩ at_
  omega
theorem size_zero {s : ByteArray} (h : s.size = 0) : s = ⟨#[]⟩ := bytes_empty h
theorem named_head {s : ByteArray} (h : namedS s = true) : (⟨(Lib.trimLeftB s.data.toList 32).toArray⟩ : ByteArray) = s := by
  unfold namedS at h
  simp only [Bool.and_eq_true, decide_eq_true_eq, Bool.not_eq_true', decide_eq_false_iff_not] at h
  obtain ⟨h1, _, _, h2⟩ := h
  have e : Lib.trimLeftB s.data.toList 32 = s.data.toList := by
    cases hl : s.data.toList with
    | nil => rfl
    | cons b l =>
      rw [hl] at h2
      unfold Lib.trimLeftB
      by_cases hb : (b == 32) = true
      · exfalso
        apply h2
        unfold Lib.indexByte
        rw [if_pos hb]
        exact Int.le_refl _
      · rw [List.dropWhile_cons_of_neg (by simpa using hb)]
  rw [e]
theorem extract_all (s : ByteArray) : s.extract 0 s.size = s := by simp
theorem nameOf_end {s : ByteArray} (h : namedS s = true) : nameOf s s.size = s := by
  unfold nameOf
  rw [extract_all]
  exact named_head h
theorem stuck_end (s : ByteArray) : stuck s s.size = false := by
  unfold stuck
  simp
theorem getP_one (s t : ByteArray) : getP s [(s, t)] = (t, true) := by
  unfold getP
  simp [fnd]
theorem getP_nil (s : ByteArray) : getP s [] = (⟨#[]⟩, false) := rfl
theorem drop_one (s t : ByteArray) : drop_ s [(s, t)] = [] := by simp [drop_]
theorem set_one {s t : ByteArray} (h : namedS s = true) (ht : (plainS t).size ≤ 100) : setP s t [] = (0, [(s, plainS t)]) := by
  unfold setP
  rw [if_neg (by simp [h]), if_neg (by omega), if_neg (by simp)]
  rfl
theorem set_zero {s t : ByteArray} {l : List (ByteArray × ByteArray)} (h : (setP s t l).1 = 0) : namedS s = true ∧ (plainS t).size ≤ 100 := by
  unfold setP at h
  split at h
  · cases h
  split at h
  · cases h
  rename_i h1 h2
  exact ⟨by simpa using h1, by omega⟩
theorem grow_none (s : ByteArray) (a : Nat) : growP s a [] = ((s, a), false) := growP_no (.inl (by rw [getP_nil]))
theorem without_all (s : ByteArray) : withoutS s 0 s.size = ⟨#[]⟩ := by
  apply size_zero
  rw [withoutS_size s 0 s.size (Nat.zero_le _) (Nat.le_refl _)]
  omega
theorem makeS_empty : makeS ⟨#[]⟩ = ⟨#[]⟩ := by
  apply size_zero
  have := makeS_size ⟨#[]⟩
  have h2 := plainS_size ⟨#[]⟩
  have h3 : (⟨#[]⟩ : ByteArray).size = 0 := rfl
  omega
theorem putIn_empty (p : ByteArray) : putIn ⟨#[]⟩ 0 p = p := by
  unfold putIn
  ext1
  simp
theorem grow_one {s t : ByteArray} (h : namedS s = true) (ht : (plainS t).size ≤ 100) : growP s s.size [(s, plainS t)] = (((plainS t, onL (plainS t) ((plainS t).size : Int))), neB (plainS t, onL (plainS t) ((plainS t).size : Int)) (s, s.size)) := by
  obtain ⟨h0, h20, hp⟩ := named_size h
  have hm : makeS s = s := makeS_self hp (by omega)
  have e1 : backL s ((s.size : Int) - (s.size : Int)) = 0 := by rw [Int.sub_self]; exact backL_zero s
  have e2 : backL s (s.size : Int) = s.size := backL_end s (Int.le_refl _)
  have hc : cutP s s.size 0 s.size = (⟨#[]⟩, 0) := by
    unfold cutP
    rw [if_neg (by omega), without_all, makeS_empty, backL_empty]
  have hi : insP ⟨#[]⟩ 0 (plainS t) = (((plainS t, onL (plainS t) ((plainS t).size : Int))), 0) := by
    unfold insP
    have hz : (⟨#[]⟩ : ByteArray).size = 0 := rfl
    rw [if_neg (by omega), putIn_empty]
    simp
  unfold growP
  rw [nameOf_end h, getP_one, stuck_end, hm, e1, e2, hc]
  simp only [makeS_empty, backL_empty, plainS_twice, hi]
  simp
/-- What AbbrDrops asks. -/
theorem drops_law {s t : ByteArray} (h : namedS s = true) (ht : (plainS t).size ≤ 100) :
    ((growP s s.size [(s, plainS t)]).2 = true → (growP s s.size [(s, plainS t)]).1.1 = plainS t) ∧ ((growP s s.size [(s, plainS t)]).2 = false → plainS t = s) := by
  rw [grow_one h ht]
  refine ⟨fun _ => rfl, fun hn => ?_⟩
  have hn : neB (plainS t, onL (plainS t) ((plainS t).size : Int)) (s, s.size) = false := hn
  by_cases e : (plainS t, onL (plainS t) ((plainS t).size : Int)) = (s, s.size)
  · exact congrArg Prod.fst e
  · rw [(neB_iff _ _).2 e] at hn
    cases hn
end Go.Proofs.YtbhiljaipikklaaDoorL
