/- Parts of the proof of the law that the last file states; declarations that nothing mentions are left out by a program. No conditions. -/
import Derived.Test.YtbhiljaipikklaaGreatDoorLSetsPq
import Derived.Test.YtbhiljaipikklaaGreatDoorRx2q
set_option linter.unusedVariables false
set_option linter.unusedSimpArgs false
namespace Go.Proofs.YtbhiljaipikklaaGreatDoor.R
open Go.RowKit Go.Proofs.YtbhiljaipikklaaGreatDoorW.PrintWords Go.Proofs.YtbhiljaipikklaaGreatDoorW.PrintLast Go.Proofs.YtbhiljaipikklaaGreatDoorW.PrintMore
attribute [local go_sem] max2_int min2_int max_two min_two max_three min_three max_four min_four   -- for this text's walks alone
mutual
def souffleurref02_Of.j0 : Nat → Int → Bool → Option (Int)
  | 0, _, _ => none
  | k + 1, x0, x28 => if x28 = true then (some 0) else ((souffleurref02_between.f x0 4352 4447).bind fun t167 => (if t167 = true then (souffleurref02_Of.j1 k x0 true) else ((souffleurref02_between.f x0 11904 12350).bind fun t168 => (if t168 = true then (souffleurref02_Of.j1 k x0 true) else ((souffleurref02_between.f x0 12353 42191).bind fun t169 => (if t169 = true then (souffleurref02_Of.j1 k x0 true) else ((souffleurref02_between.f x0 44032 55203).bind fun t170 => (if t170 = true then (souffleurref02_Of.j1 k x0 true) else ((souffleurref02_between.f x0 63744 64255).bind fun t171 => (souffleurref02_Of.j1 k x0 t171))))))))))
def souffleurref02_Of.j1 : Nat → Int → Bool → Option (Int)
  | 0, _, _ => none
  | k + 1, x0, x46 => if x46 = true then (some 2) else ((souffleurref02_between.f x0 65072 65135).bind fun t172 => (if t172 = true then (some 2) else ((souffleurref02_between.f x0 65281 65376).bind fun t173 => (if t173 = true then (some 2) else ((souffleurref02_between.f x0 65504 65510).bind fun t174 => (if t174 = true then (some 2) else ((souffleurref02_between.f x0 127744 129791).bind fun t175 => (if t175 = true then (some 2) else ((souffleurref02_between.f x0 131072 262141).bind fun t176 => (if t176 = true then (some 2) else (some 1)))))))))))
end
def souffleurref02_Of.f (k : Nat) (a0 : Int) : Option (Int) := (souffleurref02_between.f a0 768 879).bind fun t160 => (if t160 = true then (souffleurref02_Of.j0 k a0 true) else ((souffleurref02_between.f a0 6832 6911).bind fun t161 => (if t161 = true then (souffleurref02_Of.j0 k a0 true) else ((souffleurref02_between.f a0 7616 7679).bind fun t162 => (if t162 = true then (souffleurref02_Of.j0 k a0 true) else ((souffleurref02_between.f a0 8203 8205).bind fun t163 => (if t163 = true then (souffleurref02_Of.j0 k a0 true) else ((souffleurref02_between.f a0 8400 8447).bind fun t164 => (if t164 = true then (souffleurref02_Of.j0 k a0 true) else ((souffleurref02_between.f a0 65024 65039).bind fun t165 => (if t165 = true then (souffleurref02_Of.j0 k a0 true) else ((souffleurref02_between.f a0 65056 65071).bind fun t166 => (souffleurref02_Of.j0 k a0 t166)))))))))))))
set_option maxHeartbeats 8000000 in
set_option maxRecDepth 100000 in
theorem souffleurref02_Of.calls (k : Nat) (a0 : Int) (r : Int) (w : World) (h : souffleurref02_Of.f k a0 = some r) :
    Calls Tryz.prog 110 #[.int .i64 a0] w fun e w' => e = .returned (.int .i64 r) ∧ Drawn0 w w' := by
  have H : ((souffleurref02_between.f a0 768 879).bind fun t160 => (if t160 = true then (souffleurref02_Of.j0 k a0 true) else ((souffleurref02_between.f a0 6832 6911).bind fun t161 => (if t161 = true then (souffleurref02_Of.j0 k a0 true) else ((souffleurref02_between.f a0 7616 7679).bind fun t162 => (if t162 = true then (souffleurref02_Of.j0 k a0 true) else ((souffleurref02_between.f a0 8203 8205).bind fun t163 => (if t163 = true then (souffleurref02_Of.j0 k a0 true) else ((souffleurref02_between.f a0 8400 8447).bind fun t164 => (if t164 = true then (souffleurref02_Of.j0 k a0 true) else ((souffleurref02_between.f a0 65024 65039).bind fun t165 => (if t165 = true then (souffleurref02_Of.j0 k a0 true) else ((souffleurref02_between.f a0 65056 65071).bind fun t166 => (souffleurref02_Of.j0 k a0 t166)))))))))))))) = some r := h
  clear h
  have HC2 := Zz.mk H
  clear H
  go_enter Tryz.func110, Tryz.ntmps110
  go_upto_region 1 with (fail)
  go_cut [28] (fun v28 wc => ∃ (kq : Nat) (x28_1 : Bool), v28 = .bool x28_1 ∧ Zz (souffleurref02_Of.j0 kq a0 x28_1 = some r) ∧ Zz (kq ≤ k) ∧ Drawn0 w wc)
  case first =>
    have H := HC2.out
    clear HC2
    replace H := Option.bind_eq_some_iff.mp H
    obtain ⟨t160, A30, H⟩ := H
    replace H : (if t160 = true then (souffleurref02_Of.j0 k a0 true) else ((souffleurref02_between.f a0 6832 6911).bind fun t161 => (if t161 = true then (souffleurref02_Of.j0 k a0 true) else ((souffleurref02_between.f a0 7616 7679).bind fun t162 => (if t162 = true then (souffleurref02_Of.j0 k a0 true) else ((souffleurref02_between.f a0 8203 8205).bind fun t163 => (if t163 = true then (souffleurref02_Of.j0 k a0 true) else ((souffleurref02_between.f a0 8400 8447).bind fun t164 => (if t164 = true then (souffleurref02_Of.j0 k a0 true) else ((souffleurref02_between.f a0 65024 65039).bind fun t165 => (if t165 = true then (souffleurref02_Of.j0 k a0 true) else ((souffleurref02_between.f a0 65056 65071).bind fun t166 => (souffleurref02_Of.j0 k a0 t166))))))))))))) = some r := H
    have A3 := Zz.mk A30
    clear A30
    by_cases c4 : t160 = true
    · subst c4
      have H1 : (souffleurref02_Of.j0 k a0 true) = some r := by rw [if_pos rfl] at H; exact H
      clear H
      have H := H1
      clear H1
      have H' := Zz.mk H
      clear H
      go_wp2_with (first | ((with_reducible refine gate_callee (f := 119) rfl ?_); refine goesL_ (some 4) rfl rfl Tryz.func119 (by kernel_rfl) rfl #[.int .i64 a0, .int .i64 768, .int .i64 879] rfl (by (try simp only [List.map_toArray, List.map_cons, List.map_nil]); first | done | rfl | (simp only [List.length_drop, List.length_take]; rfl)) ?_; (with_reducible refine (souffleurref02_between.calls a0 768 879 true _ A3.out).mono ?_); rintro e w' ⟨rfl, ⟨nd, rfl⟩⟩; refine ⟨_, rfl, ?_⟩))
      go_meet
      case rel => exact ⟨_, (true), (by first | rfl | (simp; done) | (simp [*]; done)), H', ⟨by first | omega | exact Nat.le_refl _⟩, by repeat (first | exact Drawn0.refl _ | apply Drawn0.step)⟩
    · replace c4 := Bool.eq_false_iff.mpr c4
      subst c4
      have H1 : ((souffleurref02_between.f a0 6832 6911).bind fun t161 => (if t161 = true then (souffleurref02_Of.j0 k a0 true) else ((souffleurref02_between.f a0 7616 7679).bind fun t162 => (if t162 = true then (souffleurref02_Of.j0 k a0 true) else ((souffleurref02_between.f a0 8203 8205).bind fun t163 => (if t163 = true then (souffleurref02_Of.j0 k a0 true) else ((souffleurref02_between.f a0 8400 8447).bind fun t164 => (if t164 = true then (souffleurref02_Of.j0 k a0 true) else ((souffleurref02_between.f a0 65024 65039).bind fun t165 => (if t165 = true then (souffleurref02_Of.j0 k a0 true) else ((souffleurref02_between.f a0 65056 65071).bind fun t166 => (souffleurref02_Of.j0 k a0 t166)))))))))))) = some r := by rw [if_neg (show ¬ (false = true) by decide)] at H; exact H
      clear H
      have H := H1
      clear H1
      replace H := Option.bind_eq_some_iff.mp H
      obtain ⟨t161, A50, H⟩ := H
      replace H : (if t161 = true then (souffleurref02_Of.j0 k a0 true) else ((souffleurref02_between.f a0 7616 7679).bind fun t162 => (if t162 = true then (souffleurref02_Of.j0 k a0 true) else ((souffleurref02_between.f a0 8203 8205).bind fun t163 => (if t163 = true then (souffleurref02_Of.j0 k a0 true) else ((souffleurref02_between.f a0 8400 8447).bind fun t164 => (if t164 = true then (souffleurref02_Of.j0 k a0 true) else ((souffleurref02_between.f a0 65024 65039).bind fun t165 => (if t165 = true then (souffleurref02_Of.j0 k a0 true) else ((souffleurref02_between.f a0 65056 65071).bind fun t166 => (souffleurref02_Of.j0 k a0 t166))))))))))) = some r := H
      have A5 := Zz.mk A50
      clear A50
      by_cases c6 : t161 = true
      · subst c6
        have H1 : (souffleurref02_Of.j0 k a0 true) = some r := by rw [if_pos rfl] at H; exact H
        clear H
        have H := H1
        clear H1
        have H' := Zz.mk H
        clear H
        go_wp2_with (first | ((with_reducible refine gate_callee (f := 119) rfl ?_); refine goesL_ (some 4) rfl rfl Tryz.func119 (by kernel_rfl) rfl #[.int .i64 a0, .int .i64 768, .int .i64 879] rfl (by (try simp only [List.map_toArray, List.map_cons, List.map_nil]); first | done | rfl | (simp only [List.length_drop, List.length_take]; rfl)) ?_; (with_reducible refine (souffleurref02_between.calls a0 768 879 false _ A3.out).mono ?_); rintro e w' ⟨rfl, ⟨nd, rfl⟩⟩; refine ⟨_, rfl, ?_⟩) | (go_at_call 119; (with_reducible refine (souffleurref02_between.calls a0 6832 6911 true _ A5.out).mono ?_); rintro e w' ⟨rfl, ⟨nd, rfl⟩⟩))
        go_meet
        case rel => exact ⟨_, (true), (by first | rfl | (simp; done) | (simp [*]; done)), H', ⟨by first | omega | exact Nat.le_refl _⟩, by repeat (first | exact Drawn0.refl _ | apply Drawn0.step)⟩
      · replace c6 := Bool.eq_false_iff.mpr c6
        subst c6
        have H1 : ((souffleurref02_between.f a0 7616 7679).bind fun t162 => (if t162 = true then (souffleurref02_Of.j0 k a0 true) else ((souffleurref02_between.f a0 8203 8205).bind fun t163 => (if t163 = true then (souffleurref02_Of.j0 k a0 true) else ((souffleurref02_between.f a0 8400 8447).bind fun t164 => (if t164 = true then (souffleurref02_Of.j0 k a0 true) else ((souffleurref02_between.f a0 65024 65039).bind fun t165 => (if t165 = true then (souffleurref02_Of.j0 k a0 true) else ((souffleurref02_between.f a0 65056 65071).bind fun t166 => (souffleurref02_Of.j0 k a0 t166)))))))))) = some r := by rw [if_neg (show ¬ (false = true) by decide)] at H; exact H
        clear H
        have H := H1
        clear H1
        replace H := Option.bind_eq_some_iff.mp H
        obtain ⟨t162, A70, H⟩ := H
        replace H : (if t162 = true then (souffleurref02_Of.j0 k a0 true) else ((souffleurref02_between.f a0 8203 8205).bind fun t163 => (if t163 = true then (souffleurref02_Of.j0 k a0 true) else ((souffleurref02_between.f a0 8400 8447).bind fun t164 => (if t164 = true then (souffleurref02_Of.j0 k a0 true) else ((souffleurref02_between.f a0 65024 65039).bind fun t165 => (if t165 = true then (souffleurref02_Of.j0 k a0 true) else ((souffleurref02_between.f a0 65056 65071).bind fun t166 => (souffleurref02_Of.j0 k a0 t166))))))))) = some r := H
        have A7 := Zz.mk A70
        clear A70
        by_cases c8 : t162 = true
        · subst c8
          have H1 : (souffleurref02_Of.j0 k a0 true) = some r := by rw [if_pos rfl] at H; exact H
          clear H
          have H := H1
          clear H1
          have H' := Zz.mk H
          clear H
          go_wp2_with (first | ((with_reducible refine gate_callee (f := 119) rfl ?_); refine goesL_ (some 4) rfl rfl Tryz.func119 (by kernel_rfl) rfl #[.int .i64 a0, .int .i64 768, .int .i64 879] rfl (by (try simp only [List.map_toArray, List.map_cons, List.map_nil]); first | done | rfl | (simp only [List.length_drop, List.length_take]; rfl)) ?_; (with_reducible refine (souffleurref02_between.calls a0 768 879 false _ A3.out).mono ?_); rintro e w' ⟨rfl, ⟨nd, rfl⟩⟩; refine ⟨_, rfl, ?_⟩) | (go_at_call 119; (with_reducible refine (souffleurref02_between.calls a0 6832 6911 false _ A5.out).mono ?_); rintro e w' ⟨rfl, ⟨nd, rfl⟩⟩) | (go_at_call 119; (with_reducible refine (souffleurref02_between.calls a0 7616 7679 true _ A7.out).mono ?_); rintro e w' ⟨rfl, ⟨nd, rfl⟩⟩))
          go_meet
          case rel => exact ⟨_, (true), (by first | rfl | (simp; done) | (simp [*]; done)), H', ⟨by first | omega | exact Nat.le_refl _⟩, by repeat (first | exact Drawn0.refl _ | apply Drawn0.step)⟩
        · replace c8 := Bool.eq_false_iff.mpr c8
          subst c8
          have H1 : ((souffleurref02_between.f a0 8203 8205).bind fun t163 => (if t163 = true then (souffleurref02_Of.j0 k a0 true) else ((souffleurref02_between.f a0 8400 8447).bind fun t164 => (if t164 = true then (souffleurref02_Of.j0 k a0 true) else ((souffleurref02_between.f a0 65024 65039).bind fun t165 => (if t165 = true then (souffleurref02_Of.j0 k a0 true) else ((souffleurref02_between.f a0 65056 65071).bind fun t166 => (souffleurref02_Of.j0 k a0 t166)))))))) = some r := by rw [if_neg (show ¬ (false = true) by decide)] at H; exact H
          clear H
          have H := H1
          clear H1
          replace H := Option.bind_eq_some_iff.mp H
          obtain ⟨t163, A90, H⟩ := H
          replace H : (if t163 = true then (souffleurref02_Of.j0 k a0 true) else ((souffleurref02_between.f a0 8400 8447).bind fun t164 => (if t164 = true then (souffleurref02_Of.j0 k a0 true) else ((souffleurref02_between.f a0 65024 65039).bind fun t165 => (if t165 = true then (souffleurref02_Of.j0 k a0 true) else ((souffleurref02_between.f a0 65056 65071).bind fun t166 => (souffleurref02_Of.j0 k a0 t166))))))) = some r := H
          have A9 := Zz.mk A90
          clear A90
          by_cases c10 : t163 = true
          · subst c10
            have H1 : (souffleurref02_Of.j0 k a0 true) = some r := by rw [if_pos rfl] at H; exact H
            clear H
            have H := H1
            clear H1
            have H' := Zz.mk H
            clear H
            go_wp2_with (first | ((with_reducible refine gate_callee (f := 119) rfl ?_); refine goesL_ (some 4) rfl rfl Tryz.func119 (by kernel_rfl) rfl #[.int .i64 a0, .int .i64 768, .int .i64 879] rfl (by (try simp only [List.map_toArray, List.map_cons, List.map_nil]); first | done | rfl | (simp only [List.length_drop, List.length_take]; rfl)) ?_; (with_reducible refine (souffleurref02_between.calls a0 768 879 false _ A3.out).mono ?_); rintro e w' ⟨rfl, ⟨nd, rfl⟩⟩; refine ⟨_, rfl, ?_⟩) | (go_at_call 119; (with_reducible refine (souffleurref02_between.calls a0 6832 6911 false _ A5.out).mono ?_); rintro e w' ⟨rfl, ⟨nd, rfl⟩⟩) | (go_at_call 119; (with_reducible refine (souffleurref02_between.calls a0 7616 7679 false _ A7.out).mono ?_); rintro e w' ⟨rfl, ⟨nd, rfl⟩⟩) | (go_at_call 119; (with_reducible refine (souffleurref02_between.calls a0 8203 8205 true _ A9.out).mono ?_); rintro e w' ⟨rfl, ⟨nd, rfl⟩⟩))
            go_meet
            case rel => exact ⟨_, (true), (by first | rfl | (simp; done) | (simp [*]; done)), H', ⟨by first | omega | exact Nat.le_refl _⟩, by repeat (first | exact Drawn0.refl _ | apply Drawn0.step)⟩
          · replace c10 := Bool.eq_false_iff.mpr c10
            subst c10
            have H1 : ((souffleurref02_between.f a0 8400 8447).bind fun t164 => (if t164 = true then (souffleurref02_Of.j0 k a0 true) else ((souffleurref02_between.f a0 65024 65039).bind fun t165 => (if t165 = true then (souffleurref02_Of.j0 k a0 true) else ((souffleurref02_between.f a0 65056 65071).bind fun t166 => (souffleurref02_Of.j0 k a0 t166)))))) = some r := by rw [if_neg (show ¬ (false = true) by decide)] at H; exact H
            clear H
            have H := H1
            clear H1
            replace H := Option.bind_eq_some_iff.mp H
            obtain ⟨t164, A110, H⟩ := H
            replace H : (if t164 = true then (souffleurref02_Of.j0 k a0 true) else ((souffleurref02_between.f a0 65024 65039).bind fun t165 => (if t165 = true then (souffleurref02_Of.j0 k a0 true) else ((souffleurref02_between.f a0 65056 65071).bind fun t166 => (souffleurref02_Of.j0 k a0 t166))))) = some r := H
            have A11 := Zz.mk A110
            clear A110
            by_cases c12 : t164 = true
            · subst c12
              have H1 : (souffleurref02_Of.j0 k a0 true) = some r := by rw [if_pos rfl] at H; exact H
              clear H
              have H := H1
              clear H1
              have H' := Zz.mk H
              clear H
              go_wp2_with (first | ((with_reducible refine gate_callee (f := 119) rfl ?_); refine goesL_ (some 4) rfl rfl Tryz.func119 (by kernel_rfl) rfl #[.int .i64 a0, .int .i64 768, .int .i64 879] rfl (by (try simp only [List.map_toArray, List.map_cons, List.map_nil]); first | done | rfl | (simp only [List.length_drop, List.length_take]; rfl)) ?_; (with_reducible refine (souffleurref02_between.calls a0 768 879 false _ A3.out).mono ?_); rintro e w' ⟨rfl, ⟨nd, rfl⟩⟩; refine ⟨_, rfl, ?_⟩) | (go_at_call 119; (with_reducible refine (souffleurref02_between.calls a0 6832 6911 false _ A5.out).mono ?_); rintro e w' ⟨rfl, ⟨nd, rfl⟩⟩) | (go_at_call 119; (with_reducible refine (souffleurref02_between.calls a0 7616 7679 false _ A7.out).mono ?_); rintro e w' ⟨rfl, ⟨nd, rfl⟩⟩) | (go_at_call 119; (with_reducible refine (souffleurref02_between.calls a0 8203 8205 false _ A9.out).mono ?_); rintro e w' ⟨rfl, ⟨nd, rfl⟩⟩) | (go_at_call 119; (with_reducible refine (souffleurref02_between.calls a0 8400 8447 true _ A11.out).mono ?_); rintro e w' ⟨rfl, ⟨nd, rfl⟩⟩))
              go_meet
              case rel => exact ⟨_, (true), (by first | rfl | (simp; done) | (simp [*]; done)), H', ⟨by first | omega | exact Nat.le_refl _⟩, by repeat (first | exact Drawn0.refl _ | apply Drawn0.step)⟩
            · replace c12 := Bool.eq_false_iff.mpr c12
              subst c12
              have H1 : ((souffleurref02_between.f a0 65024 65039).bind fun t165 => (if t165 = true then (souffleurref02_Of.j0 k a0 true) else ((souffleurref02_between.f a0 65056 65071).bind fun t166 => (souffleurref02_Of.j0 k a0 t166)))) = some r := by rw [if_neg (show ¬ (false = true) by decide)] at H; exact H
              clear H
              have H := H1
              clear H1
              replace H := Option.bind_eq_some_iff.mp H
              obtain ⟨t165, A130, H⟩ := H
              replace H : (if t165 = true then (souffleurref02_Of.j0 k a0 true) else ((souffleurref02_between.f a0 65056 65071).bind fun t166 => (souffleurref02_Of.j0 k a0 t166))) = some r := H
              have A13 := Zz.mk A130
              clear A130
              by_cases c14 : t165 = true
              · subst c14
                have H1 : (souffleurref02_Of.j0 k a0 true) = some r := by rw [if_pos rfl] at H; exact H
                clear H
                have H := H1
                clear H1
                have H' := Zz.mk H
                clear H
                go_wp2_with (first | ((with_reducible refine gate_callee (f := 119) rfl ?_); refine goesL_ (some 4) rfl rfl Tryz.func119 (by kernel_rfl) rfl #[.int .i64 a0, .int .i64 768, .int .i64 879] rfl (by (try simp only [List.map_toArray, List.map_cons, List.map_nil]); first | done | rfl | (simp only [List.length_drop, List.length_take]; rfl)) ?_; (with_reducible refine (souffleurref02_between.calls a0 768 879 false _ A3.out).mono ?_); rintro e w' ⟨rfl, ⟨nd, rfl⟩⟩; refine ⟨_, rfl, ?_⟩) | (go_at_call 119; (with_reducible refine (souffleurref02_between.calls a0 6832 6911 false _ A5.out).mono ?_); rintro e w' ⟨rfl, ⟨nd, rfl⟩⟩) | (go_at_call 119; (with_reducible refine (souffleurref02_between.calls a0 7616 7679 false _ A7.out).mono ?_); rintro e w' ⟨rfl, ⟨nd, rfl⟩⟩) | (go_at_call 119; (with_reducible refine (souffleurref02_between.calls a0 8203 8205 false _ A9.out).mono ?_); rintro e w' ⟨rfl, ⟨nd, rfl⟩⟩) | (go_at_call 119; (with_reducible refine (souffleurref02_between.calls a0 8400 8447 false _ A11.out).mono ?_); rintro e w' ⟨rfl, ⟨nd, rfl⟩⟩) | (go_at_call 119; (with_reducible refine (souffleurref02_between.calls a0 65024 65039 true _ A13.out).mono ?_); rintro e w' ⟨rfl, ⟨nd, rfl⟩⟩))
                go_meet
                case rel => exact ⟨_, (true), (by first | rfl | (simp; done) | (simp [*]; done)), H', ⟨by first | omega | exact Nat.le_refl _⟩, by repeat (first | exact Drawn0.refl _ | apply Drawn0.step)⟩
              · replace c14 := Bool.eq_false_iff.mpr c14
                subst c14
                have H1 : ((souffleurref02_between.f a0 65056 65071).bind fun t166 => (souffleurref02_Of.j0 k a0 t166)) = some r := by rw [if_neg (show ¬ (false = true) by decide)] at H; exact H
                clear H
                have H := H1
                clear H1
                replace H := Option.bind_eq_some_iff.mp H
                obtain ⟨t166, A150, H⟩ := H
                replace H : (souffleurref02_Of.j0 k a0 t166) = some r := H
                have A15 := Zz.mk A150
                clear A150
                have H' := Zz.mk H
                clear H
                go_wp2_with (first | ((with_reducible refine gate_callee (f := 119) rfl ?_); refine goesL_ (some 4) rfl rfl Tryz.func119 (by kernel_rfl) rfl #[.int .i64 a0, .int .i64 768, .int .i64 879] rfl (by (try simp only [List.map_toArray, List.map_cons, List.map_nil]); first | done | rfl | (simp only [List.length_drop, List.length_take]; rfl)) ?_; (with_reducible refine (souffleurref02_between.calls a0 768 879 false _ A3.out).mono ?_); rintro e w' ⟨rfl, ⟨nd, rfl⟩⟩; refine ⟨_, rfl, ?_⟩) | (go_at_call 119; (with_reducible refine (souffleurref02_between.calls a0 6832 6911 false _ A5.out).mono ?_); rintro e w' ⟨rfl, ⟨nd, rfl⟩⟩) | (go_at_call 119; (with_reducible refine (souffleurref02_between.calls a0 7616 7679 false _ A7.out).mono ?_); rintro e w' ⟨rfl, ⟨nd, rfl⟩⟩) | (go_at_call 119; (with_reducible refine (souffleurref02_between.calls a0 8203 8205 false _ A9.out).mono ?_); rintro e w' ⟨rfl, ⟨nd, rfl⟩⟩) | (go_at_call 119; (with_reducible refine (souffleurref02_between.calls a0 8400 8447 false _ A11.out).mono ?_); rintro e w' ⟨rfl, ⟨nd, rfl⟩⟩) | (go_at_call 119; (with_reducible refine (souffleurref02_between.calls a0 65024 65039 false _ A13.out).mono ?_); rintro e w' ⟨rfl, ⟨nd, rfl⟩⟩) | (go_at_call 119; (with_reducible refine (souffleurref02_between.calls a0 65056 65071 t166 _ A15.out).mono ?_); rintro e w' ⟨rfl, ⟨nd, rfl⟩⟩))
                go_meet
                case rel => exact ⟨_, (t166), (by first | rfl | (simp; done) | (simp [*]; done)), H', ⟨by first | omega | exact Nat.le_refl _⟩, by repeat (first | exact Drawn0.refl _ | apply Drawn0.step)⟩
  case rest =>
    clear HC2
    try clear c1
    try clear p2
    try clear c4
    try clear c6
    try clear c8
    try clear c10
    try clear c11
    try clear c12
    try clear c14
    obtain ⟨kq, x28_1, rfl, HA, HJ1, ⟨mc1, rfl⟩⟩ := hcut
    cases kq with
    | zero => exact absurd HA.out (by simp [souffleurref02_Of.j0])
    | succ kj1 =>
      have H := HA.out
      clear HA
      simp only [souffleurref02_Of.j0] at H
      by_cases c16 : x28_1 = true
      · subst c16
        have H1 : (some 0) = some r := by rw [if_pos rfl] at H; exact H
        clear H
        have H := H1
        clear H1
        obtain rfl := Option.some.inj H
        go_wp2
        go_ret
        exact ⟨by first | rfl | (simp; done) | (simp [*]; done), by repeat (first | exact Drawn0.refl _ | apply Drawn0.step)⟩
      · replace c16 := Bool.eq_false_iff.mpr c16
        subst c16
        have H1 : ((souffleurref02_between.f a0 4352 4447).bind fun t167 => (if t167 = true then (souffleurref02_Of.j1 kj1 a0 true) else ((souffleurref02_between.f a0 11904 12350).bind fun t168 => (if t168 = true then (souffleurref02_Of.j1 kj1 a0 true) else ((souffleurref02_between.f a0 12353 42191).bind fun t169 => (if t169 = true then (souffleurref02_Of.j1 kj1 a0 true) else ((souffleurref02_between.f a0 44032 55203).bind fun t170 => (if t170 = true then (souffleurref02_Of.j1 kj1 a0 true) else ((souffleurref02_between.f a0 63744 64255).bind fun t171 => (souffleurref02_Of.j1 kj1 a0 t171)))))))))) = some r := by rw [if_neg (show ¬ (false = true) by decide)] at H; exact H
        clear H
        have H := H1
        clear H1
        have HC17 := Zz.mk H
        clear H
        go_upto_region 3 with (fail)
        go_cut [46] (fun v46 wc => ∃ (kq : Nat) (x46_16 : Bool), v46 = .bool x46_16 ∧ Zz (souffleurref02_Of.j1 kq a0 x46_16 = some r) ∧ Zz (kq ≤ kj1) ∧ Drawn0 w wc)
        case first =>
          have H := HC17.out
          clear HC17
          replace H := Option.bind_eq_some_iff.mp H
          obtain ⟨t167, A180, H⟩ := H
          replace H : (if t167 = true then (souffleurref02_Of.j1 kj1 a0 true) else ((souffleurref02_between.f a0 11904 12350).bind fun t168 => (if t168 = true then (souffleurref02_Of.j1 kj1 a0 true) else ((souffleurref02_between.f a0 12353 42191).bind fun t169 => (if t169 = true then (souffleurref02_Of.j1 kj1 a0 true) else ((souffleurref02_between.f a0 44032 55203).bind fun t170 => (if t170 = true then (souffleurref02_Of.j1 kj1 a0 true) else ((souffleurref02_between.f a0 63744 64255).bind fun t171 => (souffleurref02_Of.j1 kj1 a0 t171))))))))) = some r := H
          have A18 := Zz.mk A180
          clear A180
          by_cases c19 : t167 = true
          · subst c19
            have H1 : (souffleurref02_Of.j1 kj1 a0 true) = some r := by rw [if_pos rfl] at H; exact H
            clear H
            have H := H1
            clear H1
            have H' := Zz.mk H
            clear H
            go_wp2_with (first | ((with_reducible refine gate_callee (f := 119) rfl ?_); refine goesL_ (some 30) rfl rfl Tryz.func119 (by kernel_rfl) rfl #[.int .i64 a0, .int .i64 4352, .int .i64 4447] rfl (by (try simp only [List.map_toArray, List.map_cons, List.map_nil]); first | done | rfl | (simp only [List.length_drop, List.length_take]; rfl)) ?_; (with_reducible refine (souffleurref02_between.calls a0 4352 4447 true _ A18.out).mono ?_); rintro e w' ⟨rfl, ⟨nd, rfl⟩⟩; refine ⟨_, rfl, ?_⟩))
            go_meet
            case rel => exact ⟨_, (true), (by first | rfl | (simp; done) | (simp [*]; done)), H', ⟨by have := HJ1.out; first | omega | exact Nat.le_refl _⟩, by repeat (first | exact Drawn0.refl _ | apply Drawn0.step)⟩
          · replace c19 := Bool.eq_false_iff.mpr c19
            subst c19
            have H1 : ((souffleurref02_between.f a0 11904 12350).bind fun t168 => (if t168 = true then (souffleurref02_Of.j1 kj1 a0 true) else ((souffleurref02_between.f a0 12353 42191).bind fun t169 => (if t169 = true then (souffleurref02_Of.j1 kj1 a0 true) else ((souffleurref02_between.f a0 44032 55203).bind fun t170 => (if t170 = true then (souffleurref02_Of.j1 kj1 a0 true) else ((souffleurref02_between.f a0 63744 64255).bind fun t171 => (souffleurref02_Of.j1 kj1 a0 t171)))))))) = some r := by rw [if_neg (show ¬ (false = true) by decide)] at H; exact H
            clear H
            have H := H1
            clear H1
            replace H := Option.bind_eq_some_iff.mp H
            obtain ⟨t168, A200, H⟩ := H
            replace H : (if t168 = true then (souffleurref02_Of.j1 kj1 a0 true) else ((souffleurref02_between.f a0 12353 42191).bind fun t169 => (if t169 = true then (souffleurref02_Of.j1 kj1 a0 true) else ((souffleurref02_between.f a0 44032 55203).bind fun t170 => (if t170 = true then (souffleurref02_Of.j1 kj1 a0 true) else ((souffleurref02_between.f a0 63744 64255).bind fun t171 => (souffleurref02_Of.j1 kj1 a0 t171))))))) = some r := H
            have A20 := Zz.mk A200
            clear A200
            by_cases c21 : t168 = true
            · subst c21
              have H1 : (souffleurref02_Of.j1 kj1 a0 true) = some r := by rw [if_pos rfl] at H; exact H
              clear H
              have H := H1
              clear H1
              have H' := Zz.mk H
              clear H
              go_wp2_with (first | ((with_reducible refine gate_callee (f := 119) rfl ?_); refine goesL_ (some 30) rfl rfl Tryz.func119 (by kernel_rfl) rfl #[.int .i64 a0, .int .i64 4352, .int .i64 4447] rfl (by (try simp only [List.map_toArray, List.map_cons, List.map_nil]); first | done | rfl | (simp only [List.length_drop, List.length_take]; rfl)) ?_; (with_reducible refine (souffleurref02_between.calls a0 4352 4447 false _ A18.out).mono ?_); rintro e w' ⟨rfl, ⟨nd, rfl⟩⟩; refine ⟨_, rfl, ?_⟩) | (go_at_call 119; (with_reducible refine (souffleurref02_between.calls a0 11904 12350 true _ A20.out).mono ?_); rintro e w' ⟨rfl, ⟨nd, rfl⟩⟩))
              go_meet
              case rel => exact ⟨_, (true), (by first | rfl | (simp; done) | (simp [*]; done)), H', ⟨by have := HJ1.out; first | omega | exact Nat.le_refl _⟩, by repeat (first | exact Drawn0.refl _ | apply Drawn0.step)⟩
            · replace c21 := Bool.eq_false_iff.mpr c21
              subst c21
              have H1 : ((souffleurref02_between.f a0 12353 42191).bind fun t169 => (if t169 = true then (souffleurref02_Of.j1 kj1 a0 true) else ((souffleurref02_between.f a0 44032 55203).bind fun t170 => (if t170 = true then (souffleurref02_Of.j1 kj1 a0 true) else ((souffleurref02_between.f a0 63744 64255).bind fun t171 => (souffleurref02_Of.j1 kj1 a0 t171)))))) = some r := by rw [if_neg (show ¬ (false = true) by decide)] at H; exact H
              clear H
              have H := H1
              clear H1
              replace H := Option.bind_eq_some_iff.mp H
              obtain ⟨t169, A220, H⟩ := H
              replace H : (if t169 = true then (souffleurref02_Of.j1 kj1 a0 true) else ((souffleurref02_between.f a0 44032 55203).bind fun t170 => (if t170 = true then (souffleurref02_Of.j1 kj1 a0 true) else ((souffleurref02_between.f a0 63744 64255).bind fun t171 => (souffleurref02_Of.j1 kj1 a0 t171))))) = some r := H
              have A22 := Zz.mk A220
              clear A220
              by_cases c23 : t169 = true
              · subst c23
                have H1 : (souffleurref02_Of.j1 kj1 a0 true) = some r := by rw [if_pos rfl] at H; exact H
                clear H
                have H := H1
                clear H1
                have H' := Zz.mk H
                clear H
                go_wp2_with (first | ((with_reducible refine gate_callee (f := 119) rfl ?_); refine goesL_ (some 30) rfl rfl Tryz.func119 (by kernel_rfl) rfl #[.int .i64 a0, .int .i64 4352, .int .i64 4447] rfl (by (try simp only [List.map_toArray, List.map_cons, List.map_nil]); first | done | rfl | (simp only [List.length_drop, List.length_take]; rfl)) ?_; (with_reducible refine (souffleurref02_between.calls a0 4352 4447 false _ A18.out).mono ?_); rintro e w' ⟨rfl, ⟨nd, rfl⟩⟩; refine ⟨_, rfl, ?_⟩) | (go_at_call 119; (with_reducible refine (souffleurref02_between.calls a0 11904 12350 false _ A20.out).mono ?_); rintro e w' ⟨rfl, ⟨nd, rfl⟩⟩) | (go_at_call 119; (with_reducible refine (souffleurref02_between.calls a0 12353 42191 true _ A22.out).mono ?_); rintro e w' ⟨rfl, ⟨nd, rfl⟩⟩))
                go_meet
                case rel => exact ⟨_, (true), (by first | rfl | (simp; done) | (simp [*]; done)), H', ⟨by have := HJ1.out; first | omega | exact Nat.le_refl _⟩, by repeat (first | exact Drawn0.refl _ | apply Drawn0.step)⟩
              · replace c23 := Bool.eq_false_iff.mpr c23
                subst c23
                have H1 : ((souffleurref02_between.f a0 44032 55203).bind fun t170 => (if t170 = true then (souffleurref02_Of.j1 kj1 a0 true) else ((souffleurref02_between.f a0 63744 64255).bind fun t171 => (souffleurref02_Of.j1 kj1 a0 t171)))) = some r := by rw [if_neg (show ¬ (false = true) by decide)] at H; exact H
                clear H
                have H := H1
                clear H1
                replace H := Option.bind_eq_some_iff.mp H
                obtain ⟨t170, A240, H⟩ := H
                replace H : (if t170 = true then (souffleurref02_Of.j1 kj1 a0 true) else ((souffleurref02_between.f a0 63744 64255).bind fun t171 => (souffleurref02_Of.j1 kj1 a0 t171))) = some r := H
                have A24 := Zz.mk A240
                clear A240
                by_cases c25 : t170 = true
                · subst c25
                  have H1 : (souffleurref02_Of.j1 kj1 a0 true) = some r := by rw [if_pos rfl] at H; exact H
                  clear H
                  have H := H1
                  clear H1
                  have H' := Zz.mk H
                  clear H
                  go_wp2_with (first | ((with_reducible refine gate_callee (f := 119) rfl ?_); refine goesL_ (some 30) rfl rfl Tryz.func119 (by kernel_rfl) rfl #[.int .i64 a0, .int .i64 4352, .int .i64 4447] rfl (by (try simp only [List.map_toArray, List.map_cons, List.map_nil]); first | done | rfl | (simp only [List.length_drop, List.length_take]; rfl)) ?_; (with_reducible refine (souffleurref02_between.calls a0 4352 4447 false _ A18.out).mono ?_); rintro e w' ⟨rfl, ⟨nd, rfl⟩⟩; refine ⟨_, rfl, ?_⟩) | (go_at_call 119; (with_reducible refine (souffleurref02_between.calls a0 11904 12350 false _ A20.out).mono ?_); rintro e w' ⟨rfl, ⟨nd, rfl⟩⟩) | (go_at_call 119; (with_reducible refine (souffleurref02_between.calls a0 12353 42191 false _ A22.out).mono ?_); rintro e w' ⟨rfl, ⟨nd, rfl⟩⟩) | (go_at_call 119; (with_reducible refine (souffleurref02_between.calls a0 44032 55203 true _ A24.out).mono ?_); rintro e w' ⟨rfl, ⟨nd, rfl⟩⟩))
                  go_meet
                  case rel => exact ⟨_, (true), (by first | rfl | (simp; done) | (simp [*]; done)), H', ⟨by have := HJ1.out; first | omega | exact Nat.le_refl _⟩, by repeat (first | exact Drawn0.refl _ | apply Drawn0.step)⟩
                · replace c25 := Bool.eq_false_iff.mpr c25
                  subst c25
                  have H1 : ((souffleurref02_between.f a0 63744 64255).bind fun t171 => (souffleurref02_Of.j1 kj1 a0 t171)) = some r := by rw [if_neg (show ¬ (false = true) by decide)] at H; exact H
                  clear H
                  have H := H1
                  clear H1
                  replace H := Option.bind_eq_some_iff.mp H
                  obtain ⟨t171, A260, H⟩ := H
                  replace H : (souffleurref02_Of.j1 kj1 a0 t171) = some r := H
                  have A26 := Zz.mk A260
                  clear A260
                  have H' := Zz.mk H
                  clear H
                  go_wp2_with (first | ((with_reducible refine gate_callee (f := 119) rfl ?_); refine goesL_ (some 30) rfl rfl Tryz.func119 (by kernel_rfl) rfl #[.int .i64 a0, .int .i64 4352, .int .i64 4447] rfl (by (try simp only [List.map_toArray, List.map_cons, List.map_nil]); first | done | rfl | (simp only [List.length_drop, List.length_take]; rfl)) ?_; (with_reducible refine (souffleurref02_between.calls a0 4352 4447 false _ A18.out).mono ?_); rintro e w' ⟨rfl, ⟨nd, rfl⟩⟩; refine ⟨_, rfl, ?_⟩) | (go_at_call 119; (with_reducible refine (souffleurref02_between.calls a0 11904 12350 false _ A20.out).mono ?_); rintro e w' ⟨rfl, ⟨nd, rfl⟩⟩) | (go_at_call 119; (with_reducible refine (souffleurref02_between.calls a0 12353 42191 false _ A22.out).mono ?_); rintro e w' ⟨rfl, ⟨nd, rfl⟩⟩) | (go_at_call 119; (with_reducible refine (souffleurref02_between.calls a0 44032 55203 false _ A24.out).mono ?_); rintro e w' ⟨rfl, ⟨nd, rfl⟩⟩) | (go_at_call 119; (with_reducible refine (souffleurref02_between.calls a0 63744 64255 t171 _ A26.out).mono ?_); rintro e w' ⟨rfl, ⟨nd, rfl⟩⟩))
                  go_meet
                  case rel => exact ⟨_, (t171), (by first | rfl | (simp; done) | (simp [*]; done)), H', ⟨by have := HJ1.out; first | omega | exact Nat.le_refl _⟩, by repeat (first | exact Drawn0.refl _ | apply Drawn0.step)⟩
        case rest =>
          clear HC17
          try clear c1
          try clear c2
          try clear p2
          try clear c4
          try clear c6
          try clear c8
          try clear c10
          try clear c11
          try clear c12
          try clear c14
          try clear c16
          try clear c19
          try clear c21
          try clear c23
          try clear c25
          try clear p2
          obtain ⟨kq, x46_16, rfl, HA, HJ16, ⟨mc16, rfl⟩⟩ := hcut
          cases kq with
          | zero => exact absurd HA.out (by simp [souffleurref02_Of.j1])
          | succ kj16 =>
            have H := HA.out
            clear HA
            simp only [souffleurref02_Of.j1] at H
            by_cases c27 : x46_16 = true
            · subst c27
              have H1 : (some 2) = some r := by rw [if_pos rfl] at H; exact H
              clear H
              have H := H1
              clear H1
              obtain rfl := Option.some.inj H
              go_wp2
              go_ret
              exact ⟨by first | rfl | (simp; done) | (simp [*]; done), by repeat (first | exact Drawn0.refl _ | apply Drawn0.step)⟩
            · replace c27 := Bool.eq_false_iff.mpr c27
              subst c27
              have H1 : ((souffleurref02_between.f a0 65072 65135).bind fun t172 => (if t172 = true then (some 2) else ((souffleurref02_between.f a0 65281 65376).bind fun t173 => (if t173 = true then (some 2) else ((souffleurref02_between.f a0 65504 65510).bind fun t174 => (if t174 = true then (some 2) else ((souffleurref02_between.f a0 127744 129791).bind fun t175 => (if t175 = true then (some 2) else ((souffleurref02_between.f a0 131072 262141).bind fun t176 => (if t176 = true then (some 2) else (some 1))))))))))) = some r := by rw [if_neg (show ¬ (false = true) by decide)] at H; exact H
              clear H
              have H := H1
              clear H1
              replace H := Option.bind_eq_some_iff.mp H
              obtain ⟨t172, A280, H⟩ := H
              replace H : (if t172 = true then (some 2) else ((souffleurref02_between.f a0 65281 65376).bind fun t173 => (if t173 = true then (some 2) else ((souffleurref02_between.f a0 65504 65510).bind fun t174 => (if t174 = true then (some 2) else ((souffleurref02_between.f a0 127744 129791).bind fun t175 => (if t175 = true then (some 2) else ((souffleurref02_between.f a0 131072 262141).bind fun t176 => (if t176 = true then (some 2) else (some 1)))))))))) = some r := H
              have A28 := Zz.mk A280
              clear A280
              by_cases c29 : t172 = true
              · subst c29
                have H1 : (some 2) = some r := by rw [if_pos rfl] at H; exact H
                clear H
                have H := H1
                clear H1
                obtain rfl := Option.some.inj H
                go_wp2_with (first | ((with_reducible refine gate_callee (f := 119) rfl ?_); refine goesL_ (some 48) rfl rfl Tryz.func119 (by kernel_rfl) rfl #[.int .i64 a0, .int .i64 65072, .int .i64 65135] rfl (by (try simp only [List.map_toArray, List.map_cons, List.map_nil]); first | done | rfl | (simp only [List.length_drop, List.length_take]; rfl)) ?_; (with_reducible refine (souffleurref02_between.calls a0 65072 65135 true _ A28.out).mono ?_); rintro e w' ⟨rfl, ⟨nd, rfl⟩⟩; refine ⟨_, rfl, ?_⟩))
                go_ret
                exact ⟨by first | rfl | (simp; done) | (simp [*]; done), by repeat (first | exact Drawn0.refl _ | apply Drawn0.step)⟩
              · replace c29 := Bool.eq_false_iff.mpr c29
                subst c29
                have H1 : ((souffleurref02_between.f a0 65281 65376).bind fun t173 => (if t173 = true then (some 2) else ((souffleurref02_between.f a0 65504 65510).bind fun t174 => (if t174 = true then (some 2) else ((souffleurref02_between.f a0 127744 129791).bind fun t175 => (if t175 = true then (some 2) else ((souffleurref02_between.f a0 131072 262141).bind fun t176 => (if t176 = true then (some 2) else (some 1))))))))) = some r := by rw [if_neg (show ¬ (false = true) by decide)] at H; exact H
                clear H
                have H := H1
                clear H1
                replace H := Option.bind_eq_some_iff.mp H
                obtain ⟨t173, A300, H⟩ := H
                replace H : (if t173 = true then (some 2) else ((souffleurref02_between.f a0 65504 65510).bind fun t174 => (if t174 = true then (some 2) else ((souffleurref02_between.f a0 127744 129791).bind fun t175 => (if t175 = true then (some 2) else ((souffleurref02_between.f a0 131072 262141).bind fun t176 => (if t176 = true then (some 2) else (some 1)))))))) = some r := H
                have A30 := Zz.mk A300
                clear A300
                by_cases c31 : t173 = true
                · subst c31
                  have H1 : (some 2) = some r := by rw [if_pos rfl] at H; exact H
                  clear H
                  have H := H1
                  clear H1
                  obtain rfl := Option.some.inj H
                  go_wp2_with (first | ((with_reducible refine gate_callee (f := 119) rfl ?_); refine goesL_ (some 48) rfl rfl Tryz.func119 (by kernel_rfl) rfl #[.int .i64 a0, .int .i64 65072, .int .i64 65135] rfl (by (try simp only [List.map_toArray, List.map_cons, List.map_nil]); first | done | rfl | (simp only [List.length_drop, List.length_take]; rfl)) ?_; (with_reducible refine (souffleurref02_between.calls a0 65072 65135 false _ A28.out).mono ?_); rintro e w' ⟨rfl, ⟨nd, rfl⟩⟩; refine ⟨_, rfl, ?_⟩) | (go_at_call 119; (with_reducible refine (souffleurref02_between.calls a0 65281 65376 true _ A30.out).mono ?_); rintro e w' ⟨rfl, ⟨nd, rfl⟩⟩))
                  go_ret
                  exact ⟨by first | rfl | (simp; done) | (simp [*]; done), by repeat (first | exact Drawn0.refl _ | apply Drawn0.step)⟩
                · replace c31 := Bool.eq_false_iff.mpr c31
                  subst c31
                  have H1 : ((souffleurref02_between.f a0 65504 65510).bind fun t174 => (if t174 = true then (some 2) else ((souffleurref02_between.f a0 127744 129791).bind fun t175 => (if t175 = true then (some 2) else ((souffleurref02_between.f a0 131072 262141).bind fun t176 => (if t176 = true then (some 2) else (some 1))))))) = some r := by rw [if_neg (show ¬ (false = true) by decide)] at H; exact H
                  clear H
                  have H := H1
                  clear H1
                  replace H := Option.bind_eq_some_iff.mp H
                  obtain ⟨t174, A320, H⟩ := H
                  replace H : (if t174 = true then (some 2) else ((souffleurref02_between.f a0 127744 129791).bind fun t175 => (if t175 = true then (some 2) else ((souffleurref02_between.f a0 131072 262141).bind fun t176 => (if t176 = true then (some 2) else (some 1)))))) = some r := H
                  have A32 := Zz.mk A320
                  clear A320
                  by_cases c33 : t174 = true
                  · subst c33
                    have H1 : (some 2) = some r := by rw [if_pos rfl] at H; exact H
                    clear H
                    have H := H1
                    clear H1
                    obtain rfl := Option.some.inj H
                    go_wp2_with (first | ((with_reducible refine gate_callee (f := 119) rfl ?_); refine goesL_ (some 48) rfl rfl Tryz.func119 (by kernel_rfl) rfl #[.int .i64 a0, .int .i64 65072, .int .i64 65135] rfl (by (try simp only [List.map_toArray, List.map_cons, List.map_nil]); first | done | rfl | (simp only [List.length_drop, List.length_take]; rfl)) ?_; (with_reducible refine (souffleurref02_between.calls a0 65072 65135 false _ A28.out).mono ?_); rintro e w' ⟨rfl, ⟨nd, rfl⟩⟩; refine ⟨_, rfl, ?_⟩) | (go_at_call 119; (with_reducible refine (souffleurref02_between.calls a0 65281 65376 false _ A30.out).mono ?_); rintro e w' ⟨rfl, ⟨nd, rfl⟩⟩) | (go_at_call 119; (with_reducible refine (souffleurref02_between.calls a0 65504 65510 true _ A32.out).mono ?_); rintro e w' ⟨rfl, ⟨nd, rfl⟩⟩))
                    go_ret
                    exact ⟨by first | rfl | (simp; done) | (simp [*]; done), by repeat (first | exact Drawn0.refl _ | apply Drawn0.step)⟩
                  · replace c33 := Bool.eq_false_iff.mpr c33
                    subst c33
                    have H1 : ((souffleurref02_between.f a0 127744 129791).bind fun t175 => (if t175 = true then (some 2) else ((souffleurref02_between.f a0 131072 262141).bind fun t176 => (if t176 = true then (some 2) else (some 1))))) = some r := by rw [if_neg (show ¬ (false = true) by decide)] at H; exact H
                    clear H
                    have H := H1
                    clear H1
                    replace H := Option.bind_eq_some_iff.mp H
                    obtain ⟨t175, A340, H⟩ := H
                    replace H : (if t175 = true then (some 2) else ((souffleurref02_between.f a0 131072 262141).bind fun t176 => (if t176 = true then (some 2) else (some 1)))) = some r := H
                    have A34 := Zz.mk A340
                    clear A340
                    by_cases c35 : t175 = true
                    · subst c35
                      have H1 : (some 2) = some r := by rw [if_pos rfl] at H; exact H
                      clear H
                      have H := H1
                      clear H1
                      obtain rfl := Option.some.inj H
                      go_wp2_with (first | ((with_reducible refine gate_callee (f := 119) rfl ?_); refine goesL_ (some 48) rfl rfl Tryz.func119 (by kernel_rfl) rfl #[.int .i64 a0, .int .i64 65072, .int .i64 65135] rfl (by (try simp only [List.map_toArray, List.map_cons, List.map_nil]); first | done | rfl | (simp only [List.length_drop, List.length_take]; rfl)) ?_; (with_reducible refine (souffleurref02_between.calls a0 65072 65135 false _ A28.out).mono ?_); rintro e w' ⟨rfl, ⟨nd, rfl⟩⟩; refine ⟨_, rfl, ?_⟩) | (go_at_call 119; (with_reducible refine (souffleurref02_between.calls a0 65281 65376 false _ A30.out).mono ?_); rintro e w' ⟨rfl, ⟨nd, rfl⟩⟩) | (go_at_call 119; (with_reducible refine (souffleurref02_between.calls a0 65504 65510 false _ A32.out).mono ?_); rintro e w' ⟨rfl, ⟨nd, rfl⟩⟩) | (go_at_call 119; (with_reducible refine (souffleurref02_between.calls a0 127744 129791 true _ A34.out).mono ?_); rintro e w' ⟨rfl, ⟨nd, rfl⟩⟩))
                      go_ret
                      exact ⟨by first | rfl | (simp; done) | (simp [*]; done), by repeat (first | exact Drawn0.refl _ | apply Drawn0.step)⟩
                    · replace c35 := Bool.eq_false_iff.mpr c35
                      subst c35
                      have H1 : ((souffleurref02_between.f a0 131072 262141).bind fun t176 => (if t176 = true then (some 2) else (some 1))) = some r := by rw [if_neg (show ¬ (false = true) by decide)] at H; exact H
                      clear H
                      have H := H1
                      clear H1
                      replace H := Option.bind_eq_some_iff.mp H
                      obtain ⟨t176, A360, H⟩ := H
                      replace H : (if t176 = true then (some 2) else (some 1)) = some r := H
                      have A36 := Zz.mk A360
                      clear A360
                      by_cases c37 : t176 = true
                      · subst c37
                        have H1 : (some 2) = some r := by rw [if_pos rfl] at H; exact H
                        clear H
                        have H := H1
                        clear H1
                        obtain rfl := Option.some.inj H
                        go_wp2_with (first | ((with_reducible refine gate_callee (f := 119) rfl ?_); refine goesL_ (some 48) rfl rfl Tryz.func119 (by kernel_rfl) rfl #[.int .i64 a0, .int .i64 65072, .int .i64 65135] rfl (by (try simp only [List.map_toArray, List.map_cons, List.map_nil]); first | done | rfl | (simp only [List.length_drop, List.length_take]; rfl)) ?_; (with_reducible refine (souffleurref02_between.calls a0 65072 65135 false _ A28.out).mono ?_); rintro e w' ⟨rfl, ⟨nd, rfl⟩⟩; refine ⟨_, rfl, ?_⟩) | (go_at_call 119; (with_reducible refine (souffleurref02_between.calls a0 65281 65376 false _ A30.out).mono ?_); rintro e w' ⟨rfl, ⟨nd, rfl⟩⟩) | (go_at_call 119; (with_reducible refine (souffleurref02_between.calls a0 65504 65510 false _ A32.out).mono ?_); rintro e w' ⟨rfl, ⟨nd, rfl⟩⟩) | (go_at_call 119; (with_reducible refine (souffleurref02_between.calls a0 127744 129791 false _ A34.out).mono ?_); rintro e w' ⟨rfl, ⟨nd, rfl⟩⟩) | (go_at_call 119; (with_reducible refine (souffleurref02_between.calls a0 131072 262141 true _ A36.out).mono ?_); rintro e w' ⟨rfl, ⟨nd, rfl⟩⟩))
                        go_ret
                        exact ⟨by first | rfl | (simp; done) | (simp [*]; done), by repeat (first | exact Drawn0.refl _ | apply Drawn0.step)⟩
                      · replace c37 := Bool.eq_false_iff.mpr c37
                        subst c37
                        have H1 : (some 1) = some r := by rw [if_neg (show ¬ (false = true) by decide)] at H; exact H
                        clear H
                        have H := H1
                        clear H1
                        obtain rfl := Option.some.inj H
                        go_wp2_with (first | ((with_reducible refine gate_callee (f := 119) rfl ?_); refine goesL_ (some 48) rfl rfl Tryz.func119 (by kernel_rfl) rfl #[.int .i64 a0, .int .i64 65072, .int .i64 65135] rfl (by (try simp only [List.map_toArray, List.map_cons, List.map_nil]); first | done | rfl | (simp only [List.length_drop, List.length_take]; rfl)) ?_; (with_reducible refine (souffleurref02_between.calls a0 65072 65135 false _ A28.out).mono ?_); rintro e w' ⟨rfl, ⟨nd, rfl⟩⟩; refine ⟨_, rfl, ?_⟩) | (go_at_call 119; (with_reducible refine (souffleurref02_between.calls a0 65281 65376 false _ A30.out).mono ?_); rintro e w' ⟨rfl, ⟨nd, rfl⟩⟩) | (go_at_call 119; (with_reducible refine (souffleurref02_between.calls a0 65504 65510 false _ A32.out).mono ?_); rintro e w' ⟨rfl, ⟨nd, rfl⟩⟩) | (go_at_call 119; (with_reducible refine (souffleurref02_between.calls a0 127744 129791 false _ A34.out).mono ?_); rintro e w' ⟨rfl, ⟨nd, rfl⟩⟩) | (go_at_call 119; (with_reducible refine (souffleurref02_between.calls a0 131072 262141 false _ A36.out).mono ?_); rintro e w' ⟨rfl, ⟨nd, rfl⟩⟩))
                        go_ret
                        exact ⟨by first | rfl | (simp; done) | (simp [*]; done), by repeat (first | exact Drawn0.refl _ | apply Drawn0.step)⟩
def souffleurref08_Drop.l0 : Nat → List (S37) → ByteArray → List (S37) → Int → Option ((List (S37)))
  | 0, _, _, _, _ => none
  | k + 1, x0, x1, x5, x6 => if x6 < (x0.length : Int) then (if 0 ≤ x6 then (if ((rd_T37 x0 x6).f0).toList = x1.toList then (souffleurref08_Drop.l0 k x0 x1 x5 (wrap64 (x6 + 1))) else (if x5.length < 4398046511104 then (souffleurref08_Drop.l0 k x0 x1 (x5 ++ [(⟨(rd_T37 x0 x6).f0, (rd_T37 x0 x6).f1⟩ : S37)]) (wrap64 (x6 + 1))) else (none))) else (none)) else (some x5)
def souffleurref08_Drop.f (k : Nat) (l0 : List (S37)) (a1 : ByteArray) : Option ((List (S37))) := souffleurref08_Drop.l0 k l0 a1 ([] : List (S37)) 0
set_option maxHeartbeats 8000000 in
set_option maxRecDepth 100000 in
theorem souffleurref08_Drop.calls (k : Nat) (A0 : Option Addr) (c0 : Nat) (l0 : List (S37)) (a1 : ByteArray) (r : List (S37)) (w : World) (hr0 : Kd.C k37 w A0 l0.length l0) (hc0 : l0.length ≤ c0) (h : souffleurref08_Drop.f k l0 a1 = some r) :
    Calls Tryz.prog 19 #[.slice A0 l0.length c0, .string a1] w fun e w' => ∃ v0_ : Value, e = .returned (v0_) ∧ Kd.R k37 37 w' w.heap.size (fun _ => True) v0_ r ∧ Below w.heap.size w w' := by
  have hu37 := Tryz.underlying37
  have HR0 := Zz.mk hr0
  have HC0 := Zz.mk hc0
  clear hr0 hc0
  have HB := Zz.mk (Below.refl w.heap.size w)
  have H : (souffleurref08_Drop.l0 k l0 a1 ([] : List (S37)) 0) = some r := h
  clear h
  have H' := Zz.mk H
  clear H
  go_enter Tryz.func19, Tryz.ntmps19
  go_wp2
  go_loopg [5, 6] k (fun kq v5 v6 w' => ∃ (x5_1 : List (S37)) (x6_1 : Int), v6 = .int .i64 x6_1 ∧ Zz (souffleurref08_Drop.l0 kq l0 a1 x5_1 x6_1 = some r) ∧ Zz (kq ≤ k) ∧ Zz (Kd.R k37 37 w' w.heap.size (fun _ => True) v5 x5_1) ∧ Zz (Below w.heap.size w w'))
  case atStart => exact ⟨(([] : List (S37))), (0), (by first | rfl | (simp; done) | (simp [*]; done)), H', ⟨Nat.le_refl _⟩, ⟨by first | exact Kd.R_nil _ _ _ _ _ | exact Kd.N_nil _ _ _ _ _ | exact Kd.V_nil _ _ _ _ _ | exact Kd.Q_nil _ _ _ _ _ | exact Kd.S_nil _ _ _ _ _⟩, ⟨by repeat (first | (with_reducible first | exact HB.out | apply below_alloc | apply pw_below_drewN | apply below_drew1) | exact HB.out)⟩⟩
  case round =>
    clear H'
    try clear c1
    try clear p2
    obtain ⟨x5_1, x6_1, rfl, HA, HK1, HO_5, HB⟩ := hrel
    cases gk with
    | zero => exact absurd HA.out (by simp [souffleurref08_Drop.l0])
    | succ k1 =>
      have H := HA.out
      clear HA
      simp only [souffleurref08_Drop.l0] at H
      by_cases c3 : x6_1 < (l0.length : Int)
      · rw [if_pos c3] at H
        have c3b0 : decide (x6_1 < (l0.length : Int)) = true := decide_eq_true c3
        clear c3
        by_cases c4 : 0 ≤ x6_1
        · rw [if_pos c4] at H
          have c4b0 : decide (0 ≤ x6_1) = true := decide_eq_true c4
          clear c4
          by_cases c5 : ((rd_T37 l0 x6_1).f0).toList = a1.toList
          · rw [if_pos c5] at H
            have c5b0 : (((rd_T37 l0 x6_1).f0).toList == a1.toList) = true := beq_iff_eq.mpr c5
            have c5b1 : (((rd_T37 l0 x6_1).f0).toList != a1.toList) = false := bne_eq_false_iff_eq.mpr c5
            clear c5
            have H' := Zz.mk H
            clear H
            have p187 : 0 ≤ (x6_1 : Int) := of_decide_eq_true (by first | (with_reducible assumption) | assumption)
            have q187 : x6_1 < (l0.length : Int) := of_decide_eq_true (by first | (with_reducible assumption) | assumption)
            obtain ⟨ad187, e187, hx187_0, hx187_1⟩ := at_T37 HR0.out x6_1 p187 q187
            cases e187
            replace hx187_0 := (HB.out.cell (World.block_lt_of_cell? w _ hx187_0)).trans hx187_0
            replace hx187_1 := (HB.out.cell (World.block_lt_of_cell? w _ hx187_1)).trans hx187_1
            replace p187 := eq_true p187
            replace q187 := eq_true q187
            go_wp2
            go_roundg k1
            case measure => have := HK1.out; omega
            case rel => exact ⟨(x5_1), (wrap64 (x6_1 + 1)), (by first | rfl | (simp; done) | (simp [*]; done)), H', ⟨by have := HK1.out; omega⟩, ⟨by (with_reducible repeat (first | apply Kd.R_alloc | apply Kd.R_drewN | apply Kd.R_drew)); exact HO_5.out⟩, ⟨by repeat (first | (with_reducible first | exact HB.out | apply below_alloc | apply pw_below_drewN | apply below_drew1) | exact HB.out)⟩⟩
          · rw [if_neg c5] at H
            have c5b0 : (((rd_T37 l0 x6_1).f0).toList == a1.toList) = false := beq_eq_false_iff_ne.mpr c5
            have c5b1 : (((rd_T37 l0 x6_1).f0).toList != a1.toList) = true := bne_iff_ne.mpr c5
            by_cases c6 : x5_1.length < 4398046511104
            · rw [if_pos c6] at H
              have LMc6 := Zz.mk c6
              clear c6
              obtain ⟨y189, hy189⟩ : ∃ y_ : List (S37), y_ = (x5_1 ++ [(⟨(rd_T37 l0 x6_1).f0, (rd_T37 l0 x6_1).f1⟩ : S37)]) := ⟨_, rfl⟩
              replace H : (souffleurref08_Drop.l0 k1 l0 a1 y189 (wrap64 (x6_1 + 1))) = some r := by first | (rw [hy189]; with_reducible exact H) | (have H2_ := (Option.bind_some _ _).symm.trans H; rw [hy189]; with_reducible exact H2_) | (have H2_ := (Option.bind_some _ _).symm.trans H; with_reducible exact H2_) | with_reducible exact H | (rw [hy189]; exact H) | exact H
              have Ny189 := Zz.mk hy189
              clear hy189
              have H' := Zz.mk H
              clear H
              have p187 : 0 ≤ (x6_1 : Int) := of_decide_eq_true (by first | (with_reducible assumption) | assumption)
              have q187 : x6_1 < (l0.length : Int) := of_decide_eq_true (by first | (with_reducible assumption) | assumption)
              obtain ⟨ad187, e187, hx187_0, hx187_1⟩ := at_T37 HR0.out x6_1 p187 q187
              cases e187
              replace hx187_0 := (HB.out.cell (World.block_lt_of_cell? w _ hx187_0)).trans hx187_0
              replace hx187_1 := (HB.out.cell (World.block_lt_of_cell? w _ hx187_1)).trans hx187_1
              replace p187 := eq_true p187
              replace q187 := eq_true q187
              have p188 : 0 ≤ (x6_1 : Int) := of_decide_eq_true (by first | (with_reducible assumption) | assumption)
              have q188 : x6_1 < (l0.length : Int) := of_decide_eq_true (by first | (with_reducible assumption) | assumption)
              obtain ⟨ad188, e188, hx188_0, hx188_1⟩ := at_T37 HR0.out x6_1 p188 q188
              obtain rfl : ad187 = ad188 := (by injection e188)
              replace hx188_0 := (HB.out.cell (World.block_lt_of_cell? w _ hx188_0)).trans hx188_0
              replace hx188_1 := (HB.out.cell (World.block_lt_of_cell? w _ hx188_1)).trans hx188_1
              replace p188 := eq_true p188
              replace q188 := eq_true q188
              go_wp2_with (first | ((with_reducible refine gate_builtin (b := .append) (xs := #[.tmp 20, .tmp 25]) rfl ?_); at_builtin; refine Kd.R_append k37 (w0 := w) w.heap.size rfl (.tmp 20) (.tmp 25) 28 37 (.agg #[(.string ⟨#[]⟩), (.string ⟨#[]⟩)]) 32 rfl Tryz.underlying28 info37 rfl (by decide) (by omega) u5 x5_1 (⟨(rd_T37 l0 x6_1).f0, (rd_T37 l0 x6_1).f1⟩ : S37) [.string ((rd_T37 l0 x6_1).f0), .string ((rd_T37 l0 x6_1).f1)] (fun _ => True) (fun _ => False) rfl rfl ?aP (fun _ hk => hk.elim) ?aF ?aO ?aB ?aS ?aL ?_; (case aP => exact k37_mkM _ _ _ (⟨(rd_T37 l0 x6_1).f0, (rd_T37 l0 x6_1).f1⟩ : S37)); (case aB => exact (by repeat (first | (with_reducible first | exact HB.out | apply below_alloc | apply pw_below_drewN | apply below_drew1) | exact HB.out))); (case aF => exact (fun _ _ => trivial)); (case aO => exact (by (with_reducible repeat (first | apply Kd.R_alloc | apply Kd.R_drewN | apply Kd.R_drew)); exact HO_5.out)); (case aS => exact (below_size (by repeat (first | (with_reducible first | exact HB.out | apply below_alloc | apply pw_below_drewN | apply below_drew1) | exact HB.out)))); (case aL => have := LMc6.out; omega); intro v190 w7 ho hb hg hat; rw [← Ny189.out] at ho; have n0_ := Zz.mk (hb); have n1_ := Zz.mk (ho); clear HB; clear HO_5; have HB := n0_; have HO191 := n1_; clear n0_ n1_; clear ho hb hg hat))
              go_roundg k1
              case measure => have := HK1.out; omega
              case rel => exact ⟨(y189), (wrap64 (x6_1 + 1)), (by first | rfl | (simp; done) | (simp [*]; done)), H', ⟨by have := HK1.out; omega⟩, ⟨by (with_reducible repeat (first | apply Kd.R_alloc | apply Kd.R_drewN | apply Kd.R_drew)); exact HO191.out⟩, ⟨by repeat (first | (with_reducible first | exact HB.out | apply below_alloc | apply pw_below_drewN | apply below_drew1) | exact HB.out)⟩⟩
            · rw [if_neg c6] at H
              exact absurd H (by simp)
        · rw [if_neg c4] at H
          exact absurd H (by simp)
      · rw [if_neg c3] at H
        have c3b0 : decide (x6_1 < (l0.length : Int)) = false := decide_eq_false c3
        clear c3
        obtain rfl := Option.some.inj H
        go_wp2
        go_ret
        exact ⟨_, by first | rfl | (simp [errW_none, errW_some] <;> rfl) | (simp [*, errW_none, errW_some] <;> rfl), by (with_reducible repeat (first | apply Kd.R_alloc | apply Kd.R_drewN | apply Kd.R_drew)); exact HO_5.out, by repeat (first | (with_reducible first | exact HB.out | apply below_alloc | apply pw_below_drewN | apply below_drew1) | exact HB.out)⟩
def souffleurlaw08_few.l0 : Nat → List (S30) → Int → List (S30) → Int → Int → Option (Bool)
  | 0, _, _, _, _, _ => none
  | k + 1, x0, x3, x6, x7, x8 => if x8 < x7 then (if 0 ≤ x8 then (if x8 < (x6.length : Int) then (souffleurlaw08_few.l0 k x0 (wrap64 (x3 + (wrap64 ((((rd_T30 x6 x8).f1).size : Int) + (((rd_T30 x6 x8).f2).size : Int))))) x6 x7 (wrap64 (x8 + 1))) else (none)) else (none)) else (if (x0.length : Int) ≤ 100 then (some (decide (x3 ≤ 6000))) else (some false))
def souffleurlaw08_few.f (k : Nat) (l0 : List (S30)) : Option (Bool) := souffleurlaw08_few.l0 k l0 0 l0 (l0.length : Int) 0
set_option maxHeartbeats 8000000 in
set_option maxRecDepth 100000 in
theorem souffleurlaw08_few.calls (k : Nat) (A0 : Option Addr) (c0 : Nat) (l0 : List (S30)) (r : Bool) (w : World) (hr0 : Kd.C k30 w A0 l0.length l0) (hc0 : l0.length ≤ c0) (h : souffleurlaw08_few.f k l0 = some r) :
    Calls Tryz.prog 6 #[.slice A0 l0.length c0] w fun e w' => e = .returned (.bool r) ∧ Below w.heap.size w w' := by
  have hu30 := Tryz.underlying30
  have HR0 := Zz.mk hr0
  have HC0 := Zz.mk hc0
  clear hr0 hc0
  have HB := Zz.mk (Below.refl w.heap.size w)
  have H : (souffleurlaw08_few.l0 k l0 0 l0 (l0.length : Int) 0) = some r := h
  clear h
  have H' := Zz.mk H
  clear H
  go_enter Tryz.func6, Tryz.ntmps6
  go_wp2
  go_loopg [3, 8] k (fun kq v3 v8 w' => ∃ (x3_1 : Int) (x8_1 : Int), v3 = .int .i64 x3_1 ∧ v8 = .int .i64 x8_1 ∧ Zz (souffleurlaw08_few.l0 kq l0 x3_1 l0 (l0.length : Int) x8_1 = some r) ∧ Zz (kq ≤ k) ∧ Zz (Below w.heap.size w w'))
  case atStart => exact ⟨(0), (0), (by first | rfl | (simp; done) | (simp [*]; done)), (by first | rfl | (simp; done) | (simp [*]; done)), H', ⟨Nat.le_refl _⟩, ⟨by repeat (first | (with_reducible first | exact HB.out | apply below_alloc | apply pw_below_drewN | apply below_drew1) | exact HB.out)⟩⟩
  case round =>
    clear H'
    obtain ⟨x3_1, x8_1, rfl, rfl, HA, HK1, HB⟩ := hrel
    cases gk with
    | zero => exact absurd HA.out (by simp [souffleurlaw08_few.l0])
    | succ k1 =>
      have H := HA.out
      clear HA
      simp only [souffleurlaw08_few.l0] at H
      by_cases c2 : x8_1 < (l0.length : Int)
      · rw [if_pos c2] at H
        have c2b0 : decide (x8_1 < (l0.length : Int)) = true := decide_eq_true c2
        clear c2
        by_cases c3 : 0 ≤ x8_1
        · rw [if_pos c3] at H
          have c3b0 : decide (0 ≤ x8_1) = true := decide_eq_true c3
          clear c3
          by_cases c4 : x8_1 < (l0.length : Int)
          · rw [if_pos c4] at H
            have c4b0 : decide (x8_1 < (l0.length : Int)) = true := decide_eq_true c4
            clear c4
            have H' := Zz.mk H
            clear H
            have p192 : 0 ≤ (x8_1 : Int) := of_decide_eq_true (by first | (with_reducible assumption) | assumption)
            have q192 : x8_1 < (l0.length : Int) := of_decide_eq_true (by first | (with_reducible assumption) | assumption)
            obtain ⟨ad192, e192, hx192_0, hx192_1, hx192_2⟩ := at_T30 HR0.out x8_1 p192 q192
            cases e192
            replace hx192_0 := (HB.out.cell (World.block_lt_of_cell? w _ hx192_0)).trans hx192_0
            replace hx192_1 := (HB.out.cell (World.block_lt_of_cell? w _ hx192_1)).trans hx192_1
            replace hx192_2 := (HB.out.cell (World.block_lt_of_cell? w _ hx192_2)).trans hx192_2
            replace p192 := eq_true p192
            replace q192 := eq_true q192
            go_wp2_with (first | ((with_reducible refine gate_dst (N := 5) rfl ?_); refine box_event ?hg (N := 5) ?hd (cs := #[.int .i64 0, .string (⟨#[]⟩ : ByteArray), .string (⟨#[]⟩ : ByteArray)]) (t := 30) ?hr ?_; (case hd => rfl); (case hg => rfl); (case hr => first | (go_simp; done) | (go_simp; rfl)); intro gb193 hg w5 hbox hb; have n0_ := Zz.mk (below_step (by repeat (first | (with_reducible first | exact HB.out | apply below_alloc | apply pw_below_drewN | apply below_drew1) | exact HB.out)) hb); have n1_ := Zz.mk (hbox); have n2_ := Zz.mk ((by rw [hg]; exact (below_size (by repeat (first | (with_reducible first | exact HB.out | apply below_alloc | apply pw_below_drewN | apply below_drew1) | exact HB.out))) : w.heap.size ≤ gb193)); have n3_ := Zz.mk ((by rw [hg]; exact (below_size (by repeat (first | (with_reducible first | exact HB.out | apply below_alloc | apply pw_below_drewN | apply below_drew1) | exact HB.out))) : w.heap.size ≤ gb193)); clear HB; have HB := n0_; have BK193 := n1_; have GW193 := n2_; have GE193 := n3_; clear n0_ n1_ n2_ n3_; clear hb hbox hg; have hcz6_0 : w5.cell? ⟨gb193, 0, none⟩ = some (.int .i64 0) := (blk_cell BK193.out 0).trans rfl; have hcz6_1 : w5.cell? ⟨gb193, 1, none⟩ = some (.string (⟨#[]⟩ : ByteArray)) := (blk_cell BK193.out 1).trans rfl; have hcz6_2 : w5.cell? ⟨gb193, 2, none⟩ = some (.string (⟨#[]⟩ : ByteArray)) := (blk_cell BK193.out 2).trans rfl; have hfz6_0 := blk_frozen BK193.out 0; have hfz6_1 := blk_frozen BK193.out 1; have hfz6_2 := blk_frozen BK193.out 2))
            go_roundg k1
            case measure => have := HK1.out; omega
            case rel => exact ⟨(wrap64 (x3_1 + (wrap64 ((((rd_T30 l0 x8_1).f1).size : Int) + (((rd_T30 l0 x8_1).f2).size : Int))))), (wrap64 (x8_1 + 1)), (by first | rfl | (simp; done) | (simp [*]; done)), (by first | rfl | (simp; done) | (simp [*]; done)), H', ⟨by have := HK1.out; omega⟩, ⟨by repeat (first | (with_reducible first | exact HB.out | apply below_alloc | apply pw_below_drewN | apply below_drew1 | refine below_set ?_ GE193.out) | exact HB.out)⟩⟩
          · rw [if_neg c4] at H
            exact absurd H (by simp)
        · rw [if_neg c3] at H
          exact absurd H (by simp)
      · rw [if_neg c2] at H
        have c2b0 : decide (x8_1 < (l0.length : Int)) = false := decide_eq_false c2
        clear c2
        by_cases c7 : (l0.length : Int) ≤ 100
        · rw [if_pos c7] at H
          have c7b0 : decide ((l0.length : Int) ≤ 100) = true := decide_eq_true c7
          have c7b1 : decide (l0.length ≤ 100) = true := decide_eq_true (by omega)
          clear c7
          obtain rfl := Option.some.inj H
          go_wp2
          go_ret
          exact ⟨by first | rfl | (simp [errW_none, errW_some] <;> rfl) | (simp [*, errW_none, errW_some] <;> rfl), by repeat (first | (with_reducible first | exact HB.out | apply below_alloc | apply pw_below_drewN | apply below_drew1) | exact HB.out)⟩
        · rw [if_neg c7] at H
          have c7b0 : decide ((l0.length : Int) ≤ 100) = false := decide_eq_false c7
          have c7b1 : decide (l0.length ≤ 100) = false := decide_eq_false (by omega)
          clear c7
          obtain rfl := Option.some.inj H
          go_wp2
          go_ret
          exact ⟨by first | rfl | (simp [errW_none, errW_some] <;> rfl) | (simp [*, errW_none, errW_some] <;> rfl), by repeat (first | (with_reducible first | exact HB.out | apply below_alloc | apply pw_below_drewN | apply below_drew1) | exact HB.out)⟩
end Go.Proofs.YtbhiljaipikklaaGreatDoor.R

