/- Parts of the proof of the law that the last file states; declarations that nothing mentions are left out by a program. No conditions. -/
import Derived.Test.YtbhiljaipikklaaGreatDoorRx9q
import Derived.Test.YtbhiljaipikklaaGreatDoorLRefSetPq
import Derived.Test.YtbhiljaipikklaaGreatDoorLRefCutPq
import Derived.Test.YtbhiljaipikklaaGreatDoorLOncePq
set_option linter.unusedVariables false
set_option linter.unusedSimpArgs false
namespace Go.Proofs.YtbhiljaipikklaaGreatDoorL
open Go Go.Lib Go.RowKit Go.Proofs.YtbhiljaipikklaaGreatDoorW.PrintWords Go.Proofs.YtbhiljaipikklaaGreatDoor.R
def natI (l : List Nat) : List Int := l.map fun (x : Nat) => (x : Int)
theorem natI_len (l : List Nat) : (natI l).length = l.length := List.length_map ..
theorem rd_natI {l : List Nat} {i : Nat} (h : i < l.length) : rd (natI l) (i : Int) = (l[i] : Int) := by
  unfold rd natI
  rw [Int.toNat_natCast, List.getD_eq_getElem?_getD, List.getElem?_map, List.getElem?_eq_getElem h]
  rfl
theorem startsG_len : ∀ (l : List ByteArray) (a : Nat), (startsG a l).length = l.length + 1
  | [], _ => rfl
  | c :: l, a => by unfold startsG; rw [List.length_cons, startsG_len l, List.length_cons]
theorem startsG_last : ∀ (l : List ByteArray) (a : Nat), (startsG a l)[l.length]'(by rw [startsG_len]; omega) = a + sumL l
  | [], a => by simp [startsG, sumL]
  | c :: l, a => by
    have := startsG_last l (a + c.size)
    simp only [startsG, List.length_cons, List.getElem_cons_succ]
    rw [this]
    simp [sumL]
    omega
theorem bounds_tells (s : ByteArray) (hs : s.size ≤ 1000000) (k : Nat) (hk : s.size + 3 ≤ k) : souffleurref02_Bounds.f k s = some (natI (boundsL s)) := by
  unfold souffleurref02_Bounds.f Go.Proofs.YtbhiljaipikklaaGreatDoor.souffleurref02_Cut.f
  rw [if_pos hs, Option.bind_some]
  have hcb := cut_bounds s
  obtain ⟨l, hl⟩ : ∃ l, cutR (s.size + 1) [] s = l := ⟨_, rfl⟩
  rw [hl] at hcb ⊢
  rw [← hcb]
  have hz : l.length + 1 ≤ s.size + 2 := by
    rw [← startsG_len l 0, hcb]
    exact boundsL_len s
  have hsum : sumL l ≤ s.size := by
    have h1 := startsG_last l 0
    have h2 := boundsL_le s ((startsG 0 l)[l.length]'(by rw [startsG_len]; omega)) (by rw [← hcb]; exact List.getElem_mem _)
    omega
  have loop : ∀ (d j k : Nat), j + d = l.length → d < k → souffleurref02_Bounds.l0 k (natI (startsG 0 (l.take j))) l (j : Int) = some (natI (startsG 0 l)) := by
    intro d
    induction d with
    | zero =>
      intro j k hj hk
      obtain ⟨k, rfl⟩ : ∃ i, k = i + 1 := ⟨k - 1, by omega⟩
      unfold souffleurref02_Bounds.l0
      rw [if_neg (by omega), List.take_of_length_le (by omega)]
    | succ d ih =>
      intro j k hj hk
      obtain ⟨k, rfl⟩ : ∃ i, k = i + 1 := ⟨k - 1, by omega⟩
      have hjl : j < l.length := by omega
      have htl : (l.take j).length = j := by rw [List.length_take]; omega
      have hsl : (startsG 0 (l.take j)).length = j + 1 := by rw [startsG_len, htl]
      have hlast : rd (natI (startsG 0 (l.take j))) (j : Int) = ((sumL (l.take j) : Nat) : Int) := by
        rw [rd_natI (by omega)]
        have h1 := startsG_last (l.take j) 0
        have h2 : (startsG 0 (l.take j))[j]'(by omega) = (startsG 0 (l.take j))[(l.take j).length]'(by omega) := by congr 1; exact htl.symm
        rw [h2, h1, Nat.zero_add]
      have hsz : sumL (l.take j) + l[j].size ≤ s.size := by
        have e : l.take (j + 1) = l.take j ++ [l[j]] := by rw [List.take_add_one, List.getElem?_eq_getElem hjl]; rfl
        have h1 : sumL (l.take (j + 1)) ≤ sumL l := by
          have : sumL l = sumL (l.take (j + 1)) + sumL (l.drop (j + 1)) := by
            unfold sumL
            rw [← List.sum_append, ← List.map_append, List.take_append_drop]
          omega
        rw [e, sumL_snoc] at h1
        omega
      unfold souffleurref02_Bounds.l0
      rw [if_pos (by omega), if_pos (by omega), if_pos (by rw [natI_len, hsl]; omega), if_pos (by rw [natI_len, hsl]; omega), hlast]
      have hrd : rdOf ByteArray.empty l (j : Int) = l[j] := by unfold rdOf; rw [Int.toNat_natCast, List.getD_eq_getElem?_getD, List.getElem?_eq_getElem hjl]; rfl
      have hw : wrap64 (((sumL (l.take j) : Nat) : Int) + (l[j].size : Int)) = ((0 + sumL (l.take j) + l[j].size : Nat) : Int) := by unfold wrap64; omega
      have hw2 : wrap64 ((j : Int) + 1) = ((j + 1 : Nat) : Int) := by unfold wrap64; omega
      rw [hrd, hw, hw2]
      have e : natI (startsG 0 (l.take j)) ++ [((0 + sumL (l.take j) + l[j].size : Nat) : Int)] = natI (startsG 0 (l.take (j + 1))) := by
        rw [List.take_add_one, List.getElem?_eq_getElem hjl, Option.toList_some, startsG_snoc]
        unfold natI
        rw [List.map_append]
        rfl
      rw [e]
      exact ih (j + 1) k (by omega) (by omega)
  have h0 := loop l.length 0 k (by omega) (by omega)
  rw [List.take_zero] at h0
  exact h0
theorem bounds_get_le {s : ByteArray} {i j : Nat} (hj : j < (boundsL s).length) (hij : i ≤ j) : (boundsL s)[i]'(by omega) ≤ (boundsL s)[j] := by
  rcases Nat.lt_or_ge i j with h | h
  · exact List.pairwise_iff_getElem.1 (boundsL_sorted s) i j (by omega) hj h
  · have : i = j := by omega
    subst this
    exact Nat.le_refl _
theorem bounds_zero (s : ByteArray) : (boundsL s)[0]'(boundsL_pos s) = 0 := by
  obtain ⟨j, hj, e⟩ := List.mem_iff_getElem.1 (zero_bound s)
  have := bounds_get_le hj (Nat.zero_le j)
  omega
theorem backG_none {at_ : Int} : ∀ (l : List Nat) (o : Nat), (∀ x ∈ l, ¬ (x : Int) ≤ at_) → backG at_ l o = o
  | [], o, _ => rfl
  | x :: l, o, h => by
    show backG at_ l _ = o
    rw [if_neg (h x List.mem_cons_self)]
    exact backG_none l o (fun y hy => h y (List.mem_cons_of_mem _ hy))
theorem back_loop (s : ByteArray) (at_ : Int) : ∀ (i k : Nat), (hi : i < (boundsL s).length) → i < k → (boundsL s).length ≤ 2000000 → (∀ j, (hj : j < (boundsL s).length) → i < j → at_ < ((boundsL s)[j] : Int)) →
    souffleurref03_Back.l0 k at_ (natI (boundsL s)) (i : Int) = some (backL s at_ : Int) := by
  intro i
  induction i with
  | zero =>
    intro k hi hk hz hall
    obtain ⟨k, rfl⟩ : ∃ i, k = i + 1 := ⟨k - 1, by omega⟩
    unfold souffleurref03_Back.l0
    rw [if_neg (by omega), if_pos (by omega), if_pos (by rw [natI_len]; omega), rd_natI hi, bounds_zero]
    congr 2
    obtain ⟨j, hj, e⟩ := List.mem_iff_getElem.1 (backL_mem s at_)
    by_cases h0 : j = 0
    · subst h0
      rw [← e, bounds_zero]
    · have h1 := hall j hj (by omega)
      by_cases hneg : at_ < 0
      · unfold backL
        rw [backG_none _ _ (fun x hx => by omega)]
      · have := backL_bd s at_ (by omega)
        omega
  | succ i ih =>
    intro k hi hk hz hall
    obtain ⟨k, rfl⟩ : ∃ i, k = i + 1 := ⟨k - 1, by omega⟩
    unfold souffleurref03_Back.l0
    rw [if_pos (by omega), if_pos (by omega), if_pos (by rw [natI_len]; omega), rd_natI hi]
    by_cases hgt : at_ < ((boundsL s)[i + 1] : Int)
    · rw [if_pos hgt, show wrap64 (((i + 1 : Nat) : Int) - 1) = (i : Int) by unfold wrap64; omega]
      refine ih k (by omega) (by omega) hz (fun j hj hij => ?_)
      rcases Nat.lt_or_ge (i + 1) j with h | h
      · exact hall j hj h
      · have : j = i + 1 := by omega
        subst this
        exact hgt
    · rw [if_neg hgt]
      congr 2
      have h1 := backL_ge s at_ (List.getElem_mem hi) (by omega)
      obtain ⟨j, hj, e⟩ := List.mem_iff_getElem.1 (backL_mem s at_)
      have h2 := backL_bd s at_ (by omega)
      rcases Nat.lt_or_ge (i + 1) j with h | h
      · have := hall j hj h
        omega
      · have := bounds_get_le hi h
        omega
theorem back_tells (s : ByteArray) (at_ : Int) (hs : s.size ≤ 1000000) (k : Nat) (hk : s.size + 5 ≤ k) : souffleurref03_Back.f k s at_ = some (backL s at_ : Int) := by
  have hl := boundsL_len s
  have hp := boundsL_pos s
  unfold souffleurref03_Back.f
  rw [bounds_tells s hs k (by omega), Option.bind_some, natI_len, show wrap64 (((boundsL s).length : Int) - 1) = (((boundsL s).length - 1 : Nat) : Int) by unfold wrap64; omega]
  exact back_loop s at_ _ k (by omega) (by omega) (by omega) (fun j hj h => by omega)
theorem onG_at {at_ : Int} {z : Nat} : ∀ (l : List Nat) (i : Nat) (hi : i < l.length), (∀ j, (hj : j < l.length) → j < i → (l[j] : Int) < at_) → (at_ ≤ (l[i] : Int) ∨ (i + 1 = l.length ∧ l[i] = z)) → onG at_ z l = l[i]
  | x :: l, 0, hi, _, h => by
    unfold onG
    rcases h with h | ⟨h1, h2⟩
    · have h : at_ ≤ (x : Int) := h
      rw [if_pos h]
      rfl
    · have : l = [] := List.eq_nil_of_length_eq_zero (by simpa using h1)
      subst this
      have h2 : x = z := h2
      subst h2
      split
      · rfl
      · rfl
  | x :: l, i + 1, hi, hall, h => by
    unfold onG
    have := hall 0 (by simp) (by omega)
    rw [if_neg (by simpa using this)]
    exact onG_at l i (by simpa using hi) (fun j hj hji => hall (j + 1) (by simpa using hj) (by omega)) (by simpa using h)
theorem bounds_last (s : ByteArray) : (boundsL s)[(boundsL s).length - 1]'(by have := boundsL_pos s; omega) = s.size := by
  unfold boundsL
  simp
theorem on_loop (s : ByteArray) (at_ : Int) : ∀ (d i k : Nat), (hi : i < (boundsL s).length) → i + d + 1 = (boundsL s).length → d < k → (boundsL s).length ≤ 2000000 → (∀ j, (hj : j < (boundsL s).length) → j < i → ((boundsL s)[j] : Int) < at_) →
    souffleurref03_On.l0 k at_ (natI (boundsL s)) (i : Int) = some (onL s at_ : Int) := by
  intro d
  induction d with
  | zero =>
    intro i k hi hd hk hz hall
    obtain ⟨k, rfl⟩ : ∃ i, k = i + 1 := ⟨k - 1, by omega⟩
    have hl := bounds_last s
    unfold souffleurref03_On.l0
    rw [natI_len, show wrap64 (((boundsL s).length : Int) - 1) = (((boundsL s).length - 1 : Nat) : Int) by unfold wrap64; omega, if_neg (by omega), if_pos (by omega), if_pos (by omega), rd_natI hi]
    congr 2
    unfold onL
    rw [onG_at (boundsL s) i hi hall (.inr ⟨by omega, by rw [← hl]; congr 1; omega⟩)]
  | succ d ih =>
    intro i k hi hd hk hz hall
    obtain ⟨k, rfl⟩ : ∃ i, k = i + 1 := ⟨k - 1, by omega⟩
    unfold souffleurref03_On.l0
    rw [natI_len, show wrap64 (((boundsL s).length : Int) - 1) = (((boundsL s).length - 1 : Nat) : Int) by unfold wrap64; omega, if_pos (by omega), if_pos (by omega), if_pos (by omega), rd_natI hi]
    by_cases hlt : ((boundsL s)[i] : Int) < at_
    · rw [if_pos hlt, show wrap64 ((i : Int) + 1) = ((i + 1 : Nat) : Int) by unfold wrap64; omega]
      refine ih (i + 1) k (by omega) (by omega) (by omega) hz (fun j hj hij => ?_)
      rcases Nat.lt_or_ge j i with h | h
      · exact hall j hj h
      · have : j = i := by omega
        subst this
        exact hlt
    · rw [if_neg hlt]
      congr 2
      unfold onL
      rw [onG_at (boundsL s) i hi hall (.inl (by omega))]
theorem on_tells (s : ByteArray) (at_ : Int) (hs : s.size ≤ 1000000) (k : Nat) (hk : s.size + 5 ≤ k) : souffleurref03_On.f k s at_ = some (onL s at_ : Int) := by
  have hl := boundsL_len s
  have hp := boundsL_pos s
  unfold souffleurref03_On.f
  rw [bounds_tells s hs k (by omega), Option.bind_some]
  exact on_loop s at_ _ 0 k (by omega) (show 0 + ((boundsL s).length - 1) + 1 = _ by omega) (by omega) (by omega) (fun j hj h => by omega)
theorem make_tells (s : ByteArray) (at_ : Int) (hs : s.size ≤ 10000) (k : Nat) (hk : 200000 ≤ k) : souffleurref03_Make.f k s at_ = some (makeS s, (backL (makeS s) at_ : Int)) := by
  have hp := plainS_size s
  have hb := backL_le (plainS s) 600
  unfold souffleurref03_Make.f Go.Proofs.YtbhiljaipikklaaGreatDoor.souffleurref03_Plain.f
  rw [if_pos (by omega), Option.bind_some]
  unfold makeS
  by_cases h6 : 600 < (plainS s).size
  · rw [if_pos (by omega), if_pos h6, back_tells _ _ (by omega) k (by omega), Option.bind_some, if_pos (by omega), if_pos (by omega), Int.toNat_natCast]
    have hc : ((plainS s).extract 0 (backL (plainS s) 600)).size = backL (plainS s) 600 := cutS_size _ _ hb
    rw [back_tells _ _ (by omega) k (by omega), Option.bind_some]
    rfl
  · rw [if_neg (by omega), if_neg h6, back_tells _ _ (by omega) k (by omega), Option.bind_some]
end Go.Proofs.YtbhiljaipikklaaGreatDoorL

