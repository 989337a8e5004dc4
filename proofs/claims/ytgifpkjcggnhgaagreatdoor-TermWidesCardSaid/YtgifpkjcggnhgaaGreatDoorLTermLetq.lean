/- Parts of the proof of the law that the last file states; declarations that nothing mentions are left out by a program. No conditions. -/
import Derived.Test.YtgifpkjcggnhgaaGreatDoorLTermSq
import Derived.Test.YtgifpkjcggnhgaaGreatDoorLTermLPq
set_option linter.unusedVariables false
set_option linter.unusedSimpArgs false
section
namespace Go.Proofs.YtgifpkjcggnhgaaGreatDoorL
open Go Go.RowKit Go.Proofs.YtgifpkjcggnhgaaGreatDoorW.PrintWords
theorem lines_q {C k q : Nat} (hC : 1 ≤ C) (hk : 1 ≤ k) (hq : (if 0 < k ∧ k % C = 0 then k / C - 1 else k / C) = q) : (k + C - 1) / C = q + 1 := by
  have hd := Nat.div_add_mod k C
  have hm := Nat.mod_lt k (show 0 < C by omega)
  have hC0 : 0 < C := by omega
  by_cases h : 0 < k ∧ k % C = 0
  · rw [if_pos h] at hq
    have h1 : 1 ≤ k / C := by
      rcases Nat.eq_zero_or_pos (k / C) with e | e
      · rw [e] at hd
        omega
      · exact e
    rw [show k + C - 1 = (C - 1) + C * (k / C) by omega, Nat.add_mul_div_left _ _ hC0, Nat.div_eq_of_lt (by omega)]
    omega
  · rw [if_neg h] at hq
    rw [show k + C - 1 = (k % C - 1) + C * (k / C + 1) by rw [Nat.mul_add, Nat.mul_one]; omega, Nat.add_mul_div_left _ _ hC0, Nat.div_eq_of_lt (by omega)]
    omega
theorem div_le_q {C k q i j : Nat} (hC : 1 ≤ C) (hj : j < k) (hq : (if 0 < k ∧ k % C = 0 then k / C - 1 else k / C) = q) (hi : j / C = i) : i ≤ q := by
  have h1 : j / C ≤ (k - 1) / C := Nat.div_le_div_right (by omega)
  have hd := Nat.div_add_mod k C
  have hm := Nat.mod_lt k (show 0 < C by omega)
  have hC0 : 0 < C := by omega
  by_cases h : 0 < k ∧ k % C = 0
  · rw [if_pos h] at hq
    have h2 : 1 ≤ k / C := by
      rcases Nat.eq_zero_or_pos (k / C) with e | e
      · rw [e] at hd
        omega
      · exact e
    have e : C * (k / C) = C * (k / C - 1) + C := by rw [← Nat.mul_succ]; congr 1; omega
    have h3 : (k - 1) / C = k / C - 1 := by
      rw [show k - 1 = (C - 1) + C * (k / C - 1) by omega, Nat.add_mul_div_left _ _ hC0, Nat.div_eq_of_lt (by omega)]
      omega
    omega
  · rw [if_neg h] at hq
    have h3 : (k - 1) / C ≤ k / C := Nat.div_le_div_right (by omega)
    omega
end Go.Proofs.YtgifpkjcggnhgaaGreatDoorL
end
section
namespace Go.Proofs.YtgifpkjcggnhgaaGreatDoorL
open Go Go.RowKit
section
variable {M : Nat} {s t : Tm}
theorem feed_cons' (s : Tm) (x : UInt8) (l : List UInt8) : s.feed (x :: l) = (s.byte x).feed l := by unfold Tm.feed; rw [List.foldl_cons]
theorem feed_nil (s : Tm) : s.feed [] = s := rfl
end
end Go.Proofs.YtgifpkjcggnhgaaGreatDoorL
end
