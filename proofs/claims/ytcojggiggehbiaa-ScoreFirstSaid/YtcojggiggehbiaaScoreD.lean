/- The plain law of ScoreBetter: which of two ranks is better is what the document says; just one of two that are unlike is. No conditions. -/
import Derived.Test.YtcojggiggehbiaaPx6
import Derived.Test.YtcojggiggehbiaaPx7
import Derived.Test.YtcojggiggehbiaaScoreA
namespace Go.Proofs.Ytcojggiggehbiaa.Pure
open Go.RowKit Go.Proofs.Ytcojggiggehbiaa.P Go.Proofs.YtcojggiggehbiaaW.PrintWords Go.Proofs.YtcojggiggehbiaaW.PrintLast

/-- Which of two numbers is greater, as cmp.Compare tells it. -/
def cmpI (a b : Int) : Int := if a < b then -1 else if a > b then 1 else 0
theorem compare_int (a b : Int) : cmp_Compare_int.f a b = some (cmpI a b) := by
  unfold cmp_Compare_int.f cmp_isNaN_int.f cmpI
  simp
  repeat' split
  all_goals rfl
def cmpS (a b : ByteArray) : Int := if Op.bytesLess a.toList b.toList = true then -1 else if a.toList = b.toList then 0 else 1
theorem compare_str (a b : ByteArray) : cmp_Compare_string.f a b = some (cmpS a b) := by
  unfold cmp_Compare_string.f cmpS
  repeat' split
  all_goals rfl
def orI (a b c : Int) : Int := if a = 0 then (if b = 0 then c else b) else a
theorem or_int (a b c : Int) : Ev (fun k => cmp_Or_int.f k [a, b, c]) (orI a b c) := by
  refine ⟨4, fun k hk => ?_⟩
  obtain ⟨k, rfl⟩ : ∃ m, k = m + 4 := ⟨k - 4, by omega⟩
  simp only [cmp_Or_int.f, cmp_Or_int.l0, orI, rd, List.length_cons, List.length_nil]
  have e1 : wrap64 (0 + 1) = 1 := wrap64_id (by omega) (by omega)
  have e2 : wrap64 (1 + 1) = 2 := wrap64_id (by omega) (by omega)
  have e3 : wrap64 (2 + 1) = 3 := wrap64_id (by omega) (by omega)
  simp only [e1, e2, e3]
  simp
  by_cases ha : a = 0
  · by_cases hb : b = 0
    · by_cases hc : c = 0
      · simp [ha, hb, hc]
      · simp [ha, hb, hc]
    · simp [ha, hb]
  · simp [ha]

/-- Is one rank ahead of another? -/
def betterB (x y : Int × Int × ByteArray) : Bool :=
  if x.1 = y.1 then (if x.2.1 = y.2.1 then Op.bytesLess x.2.2.toList y.2.2.toList else decide (x.2.1 > y.2.1)) else decide (x.1 > y.1)
theorem refBetter_eq (x y : Int × Int × ByteArray) : souffleurref14_Better.f x.1 x.2.1 x.2.2 y.1 y.2.1 y.2.2 = some (betterB x y) := by
  unfold souffleurref14_Better.f betterB
  repeat' split
  all_goals rfl
theorem better_ev (x y : Int × Int × ByteArray) : Ev (fun k => score_Better.f k x.1 x.2.1 x.2.2 y.1 y.2.1 y.2.2) (betterB x y) := by
  unfold score_Better.f
  simp only [compare_int, compare_str, Option.bind_some]
  refine Ev.bind (f := fun _ t => some (decide (t < 0))) (or_int _ _ _) ?_
  refine Ev.congr (f := fun _ => some (betterB x y)) (fun k => ?_) (Ev.now _)
  congr 1
  unfold orI cmpI cmpS betterB
  by_cases h1 : x.1 = y.1
  · by_cases h2 : x.2.1 = y.2.1
    · simp [h1, h2]
      by_cases h3 : Op.bytesLess x.2.2.toList y.2.2.toList = true
      · simp [h3]
      · simp [h3]
        split <;> omega
    · simp [h1, h2]
      repeat' split
      all_goals omega
  · simp [h1]
    repeat' split
    all_goals omega

/-! Byte by byte: an order in a line. -/
theorem bl_irrefl : ∀ x, Op.bytesLess x x = false
  | [] => rfl
  | a :: x => by simp [Op.bytesLess, bl_irrefl x]
theorem bl_asymm : ∀ x y, Op.bytesLess x y = true → Op.bytesLess y x = false
  | _, [] => by intro h; simp [Op.bytesLess] at h
  | [], b :: y => by intro _; rfl
  | a :: x, b :: y => by
    intro h
    simp only [Op.bytesLess, Bool.or_eq_true, Bool.and_eq_true, decide_eq_true_eq, beq_iff_eq] at h
    simp only [Op.bytesLess, Bool.or_eq_false_iff, Bool.and_eq_false_iff, decide_eq_false_iff_not, beq_eq_false_iff_ne]
    rcases h with h | ⟨rfl, h⟩
    · exact ⟨UInt8.lt_asymm h, .inl (fun e => by subst e; exact UInt8.lt_irrefl _ h)⟩
    · exact ⟨UInt8.lt_irrefl _, .inr (bl_asymm x y h)⟩
theorem bl_trans : ∀ x y z, Op.bytesLess x y = true → Op.bytesLess y z = true → Op.bytesLess x z = true
  | _, _, [] => by intro _ h; simp [Op.bytesLess] at h
  | _, [], _ :: _ => by intro h; simp [Op.bytesLess] at h
  | [], _ :: _, _ :: _ => by intro _ _; rfl
  | a :: x, b :: y, c :: z => by
    intro h k
    simp only [Op.bytesLess, Bool.or_eq_true, Bool.and_eq_true, decide_eq_true_eq, beq_iff_eq] at h k ⊢
    rcases h with h | ⟨rfl, h⟩
    · rcases k with k | ⟨rfl, k⟩
      · exact .inl (UInt8.lt_trans h k)
      · exact .inl h
    · rcases k with k | ⟨rfl, k⟩
      · exact .inl k
      · exact .inr ⟨rfl, bl_trans x y z h k⟩
theorem bl_tri : ∀ x y, Op.bytesLess x y = false → Op.bytesLess y x = false → x = y
  | [], [] => fun _ _ => rfl
  | [], b :: y => fun h _ => by simp [Op.bytesLess] at h
  | a :: x, [] => fun _ h => by simp [Op.bytesLess] at h
  | a :: x, b :: y => by
    intro h k
    simp only [Op.bytesLess, Bool.or_eq_false_iff, Bool.and_eq_false_iff, decide_eq_false_iff_not, beq_eq_false_iff_ne] at h k
    have e : a = b := by
      have h1 := UInt8.not_lt.1 h.1
      have h2 := UInt8.not_lt.1 k.1
      exact UInt8.le_antisymm h2 h1
    subst e
    have hx : Op.bytesLess x y = false := by
      rcases h.2 with h | h
      · exact absurd rfl h
      · exact h
    have hy : Op.bytesLess y x = false := by
      rcases k.2 with h | h
      · exact absurd rfl h
      · exact h
    rw [bl_tri x y hx hy]

theorem better_irrefl (x : Int × Int × ByteArray) : betterB x x = false := by simp [betterB, bl_irrefl]
theorem better_asymm {x y : Int × Int × ByteArray} (h : betterB x y = true) : betterB y x = false := by
  unfold betterB at h ⊢
  by_cases h1 : x.1 = y.1
  · by_cases h2 : x.2.1 = y.2.1
    · simp [h1, h2] at h ⊢
      exact bl_asymm _ _ h
    · have h2' : ¬ y.2.1 = x.2.1 := fun e => h2 e.symm
      simp [h1, h2, h2'] at h ⊢
      omega
  · have h1' : ¬ y.1 = x.1 := fun e => h1 e.symm
    simp [h1, h1'] at h ⊢
    omega
theorem better_trans {x y z : Int × Int × ByteArray} (h : betterB x y = true) (k : betterB y z = true) : betterB x z = true := by
  unfold betterB at h k ⊢
  by_cases h1 : x.1 = y.1 <;> by_cases k1 : y.1 = z.1
  · by_cases h2 : x.2.1 = y.2.1 <;> by_cases k2 : y.2.1 = z.2.1
    · simp [h1, k1, h2, k2] at h k ⊢
      exact bl_trans _ _ _ h k
    · simp [h1, k1, h2, k2] at h k ⊢
      exact k
    · have : ¬ x.2.1 = z.2.1 := fun e => h2 (e.trans k2.symm)
      simp [h1, k1, h2, this] at h ⊢
      omega
    · simp [h1, k1, h2, k2] at h k
      have : ¬ x.2.1 = z.2.1 := by omega
      simp [h1, k1, this]
      omega
  · simp [h1, k1] at k ⊢
    exact k
  · have : ¬ x.1 = z.1 := fun e => h1 (e.trans k1.symm)
    simp [h1, this] at h ⊢
    omega
  · simp [h1, k1] at h k
    have : ¬ x.1 = z.1 := by omega
    simp [this]
    omega
theorem better_tri {x y : Int × Int × ByteArray} (h : betterB x y = false) (k : betterB y x = false) : x = y := by
  unfold betterB at h k
  by_cases h1 : x.1 = y.1
  · by_cases h2 : x.2.1 = y.2.1
    · simp [h1, h2] at h k
      have h3 := bl_tri _ _ h k
      have h4 : x.2.2 = y.2.2 := by
        rw [ByteArray.toList_eq, ByteArray.toList_eq] at h3
        exact ByteArray.ext (Array.ext' h3)
      exact Prod.ext h1 (Prod.ext h2 h4)
    · have h2' : ¬ y.2.1 = x.2.1 := fun e => h2 e.symm
      simp [h1, h2, h2'] at h k
      omega
  · have h1' : ¬ y.1 = x.1 := fun e => h1 e.symm
    simp [h1, h1'] at h k
    omega

theorem ScoreBetter (x y : Int × Int × ByteArray) : ∃ k, souffleurlaw14_ScoreBetter.f k x.1 x.2.1 x.2.2 y.1 y.2.1 y.2.2 = some true := by
  refine Ev.rounds ?_
  unfold souffleurlaw14_ScoreBetter.f
  refine Ev.bind alive_ev ?_
  simp only [if_true, refBetter_eq, Option.bind_some]
  refine Ev.bind (f := fun k t179 => (if (t179 == betterB x y) = true then ((score_Better.f k y.1 y.2.1 y.2.2 x.1 x.2.1 x.2.2).bind fun t181 => (if (!(x.1 == y.1) || (!(x.2.1 == y.2.1) || (!(x.2.2.toList == y.2.2.toList)))) = true then (some (t181 == (!betterB x y))) else (some (t181 == false)))) else (some false))) (better_ev x y) ?_
  simp only [beq_self_eq_true, if_true]
  refine Ev.bind (f := fun _ t181 => (if (!(x.1 == y.1) || (!(x.2.1 == y.2.1) || (!(x.2.2.toList == y.2.2.toList)))) = true then (some (t181 == (!betterB x y))) else (some (t181 == false)))) (better_ev y x) ?_
  refine Ev.congr (f := fun _ => some true) (fun k => ?_) (Ev.now _)
  by_cases hxy : x = y
  · subst hxy
    simp [better_irrefl]
  · have hne : (!(x.1 == y.1) || (!(x.2.1 == y.2.1) || (!(x.2.2.toList == y.2.2.toList)))) = true := by
      rw [← Bool.not_eq_false]
      intro e
      simp only [Bool.or_eq_false_iff, Bool.not_eq_false', beq_iff_eq] at e
      exact hxy (better_tri (by simp [betterB, e, bl_irrefl]) (by simp [betterB, e, bl_irrefl]))
    rw [if_pos hne]
    cases h : betterB x y with
    | true => simp [better_asymm h]
    | false =>
      cases h' : betterB y x with
      | true => rfl
      | false => exact absurd (better_tri h h') hxy

end Go.Proofs.Ytcojggiggehbiaa.Pure
