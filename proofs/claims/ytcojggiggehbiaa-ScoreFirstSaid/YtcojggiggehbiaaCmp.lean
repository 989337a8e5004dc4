/- By hand: what the calls of cmp.Compare at strings come to. No conditions. -/
import Derived.Test.YtcojggiggehbiaaProg
import Derived.Test.YtcojggiggehbiaaWWords
import Derived.WalkKit
import Derived.WalkLawsBesides
namespace Go.Proofs.Ytcojggiggehbiaa
open Go.RowKit Go.Proofs.YtcojggiggehbiaaW.PrintWords

theorem cmp_isNaN_string_calls (a0 : ByteArray) (w : World) : Calls Try.prog 26 #[.string a0] w fun e w' => e = .returned (.bool false) ∧ w' = w := by
  go_enter Try.func26, Try.ntmps26
  go_wp2
  go_ret
  exact ⟨by simp, rfl⟩

def cmp_Compare_string.f (a0 a1 : ByteArray) : Option Int :=
  if Op.bytesLess a0.toList a1.toList = true then some (-1) else if a0.toList = a1.toList then some 0 else some 1

theorem cmp_Compare_string.calls (a0 a1 : ByteArray) (r : Int) (w : World) (h : cmp_Compare_string.f a0 a1 = some r) :
    Calls Try.prog 24 #[.string a0, .string a1] w fun e w' => e = .returned (.int .i64 r) ∧ Drawn0 w w' := by
  unfold cmp_Compare_string.f at h
  by_cases c1 : Op.bytesLess a0.toList a1.toList = true
  · rw [if_pos c1] at h
    obtain rfl := Option.some.inj h
    go_enter Try.func24, Try.ntmps24
    go_wp2_with (first | (go_at_call 26; refine (cmp_isNaN_string_calls _ _).mono ?_; rintro e w' ⟨rfl, rfl⟩))
    go_ret
    exact ⟨rfl, Drawn0.refl _⟩
  · rw [if_neg c1] at h
    have c1' : Op.bytesLess a0.toList a1.toList = false := by simpa using c1
    clear c1
    by_cases c2 : a0.toList = a1.toList
    · rw [if_pos c2] at h
      obtain rfl := Option.some.inj h
      have c2' : (a0.toList == a1.toList) = true := by simpa using c2
      have c3' : (!(a0.toList == a1.toList)) = false := by simpa using c2
      clear c2
      go_enter Try.func24, Try.ntmps24
      go_wp2_with (first | (go_at_call 26; refine (cmp_isNaN_string_calls _ _).mono ?_; rintro e w' ⟨rfl, rfl⟩))
      go_ret
      exact ⟨rfl, Drawn0.refl _⟩
    · rw [if_neg c2] at h
      obtain rfl := Option.some.inj h
      have c2' : (a0.toList == a1.toList) = false := by simpa using c2
      have c3' : (!(a0.toList == a1.toList)) = true := by simpa using c2
      clear c2
      go_enter Try.func24, Try.ntmps24
      go_wp2_with (first | (go_at_call 26; refine (cmp_isNaN_string_calls _ _).mono ?_; rintro e w' ⟨rfl, rfl⟩))
      go_ret
      exact ⟨rfl, Drawn0.refl _⟩

end Go.Proofs.Ytcojggiggehbiaa
