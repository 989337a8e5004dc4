/- Parts of the proof of the law that the last file states; declarations that nothing mentions are left out by a program. No conditions. -/
import Derived.Test.YtbhiljaipikklaaGreatDoorLSetsPq
import Derived.Test.YtbhiljaipikklaaGreatDoorRx1q
set_option linter.unusedVariables false
set_option linter.unusedSimpArgs false
namespace Go.Proofs.YtbhiljaipikklaaGreatDoor.R
open Go.RowKit Go.Proofs.YtbhiljaipikklaaGreatDoorW.PrintWords Go.Proofs.YtbhiljaipikklaaGreatDoorW.PrintLast Go.Proofs.YtbhiljaipikklaaGreatDoorW.PrintMore
attribute [local go_sem] max2_int min2_int max_two min_two max_three min_three max_four min_four   -- for this text's walks alone
mutual
def souffleurref01_Next.j0 : Nat → List Int → Int → Int → Int → Int → Bool → Option (Int × Int)
  | 0, _, _, _, _, _, _ => none
  | k + 1, x0, x4, x5, x6, x7, x65 => if x65 = true then (some (x5, 2)) else (if x4 ≥ 224 then (if x4 < 240 then ((souffleurref01_low.f x0 2).bind fun t134 => (if t134 ≥ 0 then ((souffleurref01_Bytes.f k x6).bind fun t135 => ((souffleurref01_begins.f k x0 t135).bind fun t138 => (if t138 = true then ((souffleurref01_Bytes.f k x6).bind fun t139 => (souffleurref01_Next.j1 k x0 x4 x6 x7 ((t139.length : Int) == 3))) else (souffleurref01_Next.j1 k x0 x4 x6 x7 false)))) else (souffleurref01_Next.j1 k x0 x4 x6 x7 false))) else (souffleurref01_Next.j1 k x0 x4 x6 x7 false)) else (souffleurref01_Next.j1 k x0 x4 x6 x7 false))
def souffleurref01_Next.j1 : Nat → List Int → Int → Int → Int → Bool → Option (Int × Int)
  | 0, _, _, _, _, _ => none
  | k + 1, x0, x4, x6, x7, x89 => if x89 = true then (some (x6, 3)) else (if x4 ≥ 240 then (if x4 < 248 then ((souffleurref01_low.f x0 3).bind fun t142 => (if t142 ≥ 0 then ((souffleurref01_Bytes.f k x7).bind fun t143 => ((souffleurref01_begins.f k x0 t143).bind fun t146 => (if t146 = true then ((souffleurref01_Bytes.f k x7).bind fun t147 => (if (t147.length : Int) = 4 then (some (x7, 4)) else (some (65533, 1)))) else (some (65533, 1))))) else (some (65533, 1)))) else (some (65533, 1))) else (some (65533, 1)))
end
def souffleurref01_Next.f (k : Nat) (l0 : List Int) : Option (Int × Int) := if (l0.length : Int) = 0 then (some (0, 0)) else (if 0 < (l0.length : Int) then (if (wrap64 (rd l0 0)) < 128 then (some (wrap64 (rd l0 0), 1)) else ((souffleurref01_low.f l0 1).bind fun t121 => ((souffleurref01_low.f l0 1).bind fun t122 => ((souffleurref01_low.f l0 2).bind fun t123 => ((souffleurref01_low.f l0 1).bind fun t124 => ((souffleurref01_low.f l0 2).bind fun t125 => ((souffleurref01_low.f l0 3).bind fun t126 => (if (wrap64 (rd l0 0)) ≥ 192 then (if (wrap64 (rd l0 0)) < 224 then ((souffleurref01_Bytes.f k (wrap64 ((wrap64 (64 * (wrap64 ((wrap64 (rd l0 0)) - 192)))) + t121))).bind fun t127 => ((souffleurref01_begins.f k l0 t127).bind fun t130 => (if t130 = true then ((souffleurref01_Bytes.f k (wrap64 ((wrap64 (64 * (wrap64 ((wrap64 (rd l0 0)) - 192)))) + t121))).bind fun t131 => (souffleurref01_Next.j0 k l0 (wrap64 (rd l0 0)) (wrap64 ((wrap64 (64 * (wrap64 ((wrap64 (rd l0 0)) - 192)))) + t121)) (wrap64 ((wrap64 ((wrap64 (4096 * (wrap64 ((wrap64 (rd l0 0)) - 224)))) + (wrap64 (64 * t122)))) + t123)) (wrap64 ((wrap64 ((wrap64 ((wrap64 (262144 * (wrap64 ((wrap64 (rd l0 0)) - 240)))) + (wrap64 (4096 * t124)))) + (wrap64 (64 * t125)))) + t126)) ((t131.length : Int) == 2))) else (souffleurref01_Next.j0 k l0 (wrap64 (rd l0 0)) (wrap64 ((wrap64 (64 * (wrap64 ((wrap64 (rd l0 0)) - 192)))) + t121)) (wrap64 ((wrap64 ((wrap64 (4096 * (wrap64 ((wrap64 (rd l0 0)) - 224)))) + (wrap64 (64 * t122)))) + t123)) (wrap64 ((wrap64 ((wrap64 ((wrap64 (262144 * (wrap64 ((wrap64 (rd l0 0)) - 240)))) + (wrap64 (4096 * t124)))) + (wrap64 (64 * t125)))) + t126)) false)))) else (souffleurref01_Next.j0 k l0 (wrap64 (rd l0 0)) (wrap64 ((wrap64 (64 * (wrap64 ((wrap64 (rd l0 0)) - 192)))) + t121)) (wrap64 ((wrap64 ((wrap64 (4096 * (wrap64 ((wrap64 (rd l0 0)) - 224)))) + (wrap64 (64 * t122)))) + t123)) (wrap64 ((wrap64 ((wrap64 ((wrap64 (262144 * (wrap64 ((wrap64 (rd l0 0)) - 240)))) + (wrap64 (4096 * t124)))) + (wrap64 (64 * t125)))) + t126)) false)) else (souffleurref01_Next.j0 k l0 (wrap64 (rd l0 0)) (wrap64 ((wrap64 (64 * (wrap64 ((wrap64 (rd l0 0)) - 192)))) + t121)) (wrap64 ((wrap64 ((wrap64 (4096 * (wrap64 ((wrap64 (rd l0 0)) - 224)))) + (wrap64 (64 * t122)))) + t123)) (wrap64 ((wrap64 ((wrap64 ((wrap64 (262144 * (wrap64 ((wrap64 (rd l0 0)) - 240)))) + (wrap64 (4096 * t124)))) + (wrap64 (64 * t125)))) + t126)) false))))))))) else (none))
set_option maxHeartbeats 8000000 in
set_option maxRecDepth 100000 in
theorem souffleurref01_Next.calls (k : Nat) (A0 : Option Addr) (c0 : Nat) (l0 : List Int) (r1 : Int) (r2 : Int) (w : World) (hr0 : Kd.C (Kd.int .u8) w A0 l0.length l0) (hc0 : l0.length ≤ c0) (h : souffleurref01_Next.f k l0 = some (r1, r2)) :
    Calls Tryz.prog 77 #[.slice A0 l0.length c0] w fun e w' => e = .returned (.tuple #[.int .i64 r1, .int .i64 r2]) ∧ Below w.heap.size w w' := by
  have HR0 := Zz.mk hr0
  have HC0 := Zz.mk hc0
  clear hr0 hc0
  have HB := Zz.mk (Below.refl w.heap.size w)
  have H : (if (l0.length : Int) = 0 then (some (0, 0)) else (if 0 < (l0.length : Int) then (if (wrap64 (rd l0 0)) < 128 then (some (wrap64 (rd l0 0), 1)) else ((souffleurref01_low.f l0 1).bind fun t121 => ((souffleurref01_low.f l0 1).bind fun t122 => ((souffleurref01_low.f l0 2).bind fun t123 => ((souffleurref01_low.f l0 1).bind fun t124 => ((souffleurref01_low.f l0 2).bind fun t125 => ((souffleurref01_low.f l0 3).bind fun t126 => (if (wrap64 (rd l0 0)) ≥ 192 then (if (wrap64 (rd l0 0)) < 224 then ((souffleurref01_Bytes.f k (wrap64 ((wrap64 (64 * (wrap64 ((wrap64 (rd l0 0)) - 192)))) + t121))).bind fun t127 => ((souffleurref01_begins.f k l0 t127).bind fun t130 => (if t130 = true then ((souffleurref01_Bytes.f k (wrap64 ((wrap64 (64 * (wrap64 ((wrap64 (rd l0 0)) - 192)))) + t121))).bind fun t131 => (souffleurref01_Next.j0 k l0 (wrap64 (rd l0 0)) (wrap64 ((wrap64 (64 * (wrap64 ((wrap64 (rd l0 0)) - 192)))) + t121)) (wrap64 ((wrap64 ((wrap64 (4096 * (wrap64 ((wrap64 (rd l0 0)) - 224)))) + (wrap64 (64 * t122)))) + t123)) (wrap64 ((wrap64 ((wrap64 ((wrap64 (262144 * (wrap64 ((wrap64 (rd l0 0)) - 240)))) + (wrap64 (4096 * t124)))) + (wrap64 (64 * t125)))) + t126)) ((t131.length : Int) == 2))) else (souffleurref01_Next.j0 k l0 (wrap64 (rd l0 0)) (wrap64 ((wrap64 (64 * (wrap64 ((wrap64 (rd l0 0)) - 192)))) + t121)) (wrap64 ((wrap64 ((wrap64 (4096 * (wrap64 ((wrap64 (rd l0 0)) - 224)))) + (wrap64 (64 * t122)))) + t123)) (wrap64 ((wrap64 ((wrap64 ((wrap64 (262144 * (wrap64 ((wrap64 (rd l0 0)) - 240)))) + (wrap64 (4096 * t124)))) + (wrap64 (64 * t125)))) + t126)) false)))) else (souffleurref01_Next.j0 k l0 (wrap64 (rd l0 0)) (wrap64 ((wrap64 (64 * (wrap64 ((wrap64 (rd l0 0)) - 192)))) + t121)) (wrap64 ((wrap64 ((wrap64 (4096 * (wrap64 ((wrap64 (rd l0 0)) - 224)))) + (wrap64 (64 * t122)))) + t123)) (wrap64 ((wrap64 ((wrap64 ((wrap64 (262144 * (wrap64 ((wrap64 (rd l0 0)) - 240)))) + (wrap64 (4096 * t124)))) + (wrap64 (64 * t125)))) + t126)) false)) else (souffleurref01_Next.j0 k l0 (wrap64 (rd l0 0)) (wrap64 ((wrap64 (64 * (wrap64 ((wrap64 (rd l0 0)) - 192)))) + t121)) (wrap64 ((wrap64 ((wrap64 (4096 * (wrap64 ((wrap64 (rd l0 0)) - 224)))) + (wrap64 (64 * t122)))) + t123)) (wrap64 ((wrap64 ((wrap64 ((wrap64 (262144 * (wrap64 ((wrap64 (rd l0 0)) - 240)))) + (wrap64 (4096 * t124)))) + (wrap64 (64 * t125)))) + t126)) false))))))))) else (none))) = some (r1, r2) := h
  clear h
  by_cases c2 : (l0.length : Int) = 0
  · rw [if_pos c2] at H
    have c2b0 : ((l0.length : Int) == 0) = true := beq_iff_eq.mpr c2
    have c2b1 : ((l0.length : Int) != 0) = false := bne_eq_false_iff_eq.mpr c2
    clear c2
    simp only [Option.some.injEq, Prod.mk.injEq] at H
    obtain ⟨rfl, rfl⟩ := H
    go_enter Tryz.func77, Tryz.ntmps77
    go_wp2
    go_ret2
    exact ⟨by first | rfl | (simp [errW_none, errW_some] <;> rfl) | (simp [*, errW_none, errW_some] <;> rfl), by repeat (first | (with_reducible first | exact HB.out | apply below_alloc | apply pw_below_drewN | apply below_drew1) | exact HB.out)⟩
  · rw [if_neg c2] at H
    have c2b0 : ((l0.length : Int) == 0) = false := beq_eq_false_iff_ne.mpr c2
    have c2b1 : ((l0.length : Int) != 0) = true := bne_iff_ne.mpr c2
    have c2b2 : ¬ (l0 = []) := fun h_ => c2 (by rw [h_]; rfl)
    by_cases c3 : 0 < (l0.length : Int)
    · rw [if_pos c3] at H
      have c3b0 : decide (0 < (l0.length : Int)) = true := decide_eq_true c3
      have c3b1 : decide (0 < l0.length) = true := decide_eq_true (by omega)
      clear c3
      by_cases c4 : (wrap64 (rd l0 0)) < 128
      · rw [if_pos c4] at H
        have c4b0 : decide ((wrap64 (rd l0 0)) < 128) = true := decide_eq_true c4
        clear c4
        simp only [Option.some.injEq, Prod.mk.injEq] at H
        obtain ⟨rfl, rfl⟩ := H
        have p120 : 0 ≤ (0 : Int) := (by omega)
        have q120 : 0 < (l0.length : Int) := of_decide_eq_true (by first | (with_reducible assumption) | assumption)
        obtain ⟨ad120, e120, hx120_0⟩ := Kd.at_int HR0.out 0 p120 q120
        cases e120
        have qi120 : (0 < l0.length) = True := eq_true (by omega)
        (try rw [show ((0 : Int)).toNat = 0 from rfl] at hx120_0)
        (try rw [Addr.add_zero'] at hx120_0)
        replace p120 := eq_true p120
        replace q120 := eq_true q120
        go_enter Tryz.func77, Tryz.ntmps77
        go_wp2
        go_ret2
        exact ⟨by first | rfl | (simp [errW_none, errW_some] <;> rfl) | (simp [*, errW_none, errW_some] <;> rfl), by repeat (first | (with_reducible first | exact HB.out | apply below_alloc | apply pw_below_drewN | apply below_drew1) | exact HB.out)⟩
      · rw [if_neg c4] at H
        have c4b0 : decide ((wrap64 (rd l0 0)) < 128) = false := decide_eq_false c4
        clear c4
        replace H := Option.bind_eq_some_iff.mp H
        obtain ⟨t121, A50, H⟩ := H
        replace H : ((souffleurref01_low.f l0 1).bind fun t122 => ((souffleurref01_low.f l0 2).bind fun t123 => ((souffleurref01_low.f l0 1).bind fun t124 => ((souffleurref01_low.f l0 2).bind fun t125 => ((souffleurref01_low.f l0 3).bind fun t126 => (if (wrap64 (rd l0 0)) ≥ 192 then (if (wrap64 (rd l0 0)) < 224 then ((souffleurref01_Bytes.f k (wrap64 ((wrap64 (64 * (wrap64 ((wrap64 (rd l0 0)) - 192)))) + t121))).bind fun t127 => ((souffleurref01_begins.f k l0 t127).bind fun t130 => (if t130 = true then ((souffleurref01_Bytes.f k (wrap64 ((wrap64 (64 * (wrap64 ((wrap64 (rd l0 0)) - 192)))) + t121))).bind fun t131 => (souffleurref01_Next.j0 k l0 (wrap64 (rd l0 0)) (wrap64 ((wrap64 (64 * (wrap64 ((wrap64 (rd l0 0)) - 192)))) + t121)) (wrap64 ((wrap64 ((wrap64 (4096 * (wrap64 ((wrap64 (rd l0 0)) - 224)))) + (wrap64 (64 * t122)))) + t123)) (wrap64 ((wrap64 ((wrap64 ((wrap64 (262144 * (wrap64 ((wrap64 (rd l0 0)) - 240)))) + (wrap64 (4096 * t124)))) + (wrap64 (64 * t125)))) + t126)) ((t131.length : Int) == 2))) else (souffleurref01_Next.j0 k l0 (wrap64 (rd l0 0)) (wrap64 ((wrap64 (64 * (wrap64 ((wrap64 (rd l0 0)) - 192)))) + t121)) (wrap64 ((wrap64 ((wrap64 (4096 * (wrap64 ((wrap64 (rd l0 0)) - 224)))) + (wrap64 (64 * t122)))) + t123)) (wrap64 ((wrap64 ((wrap64 ((wrap64 (262144 * (wrap64 ((wrap64 (rd l0 0)) - 240)))) + (wrap64 (4096 * t124)))) + (wrap64 (64 * t125)))) + t126)) false)))) else (souffleurref01_Next.j0 k l0 (wrap64 (rd l0 0)) (wrap64 ((wrap64 (64 * (wrap64 ((wrap64 (rd l0 0)) - 192)))) + t121)) (wrap64 ((wrap64 ((wrap64 (4096 * (wrap64 ((wrap64 (rd l0 0)) - 224)))) + (wrap64 (64 * t122)))) + t123)) (wrap64 ((wrap64 ((wrap64 ((wrap64 (262144 * (wrap64 ((wrap64 (rd l0 0)) - 240)))) + (wrap64 (4096 * t124)))) + (wrap64 (64 * t125)))) + t126)) false)) else (souffleurref01_Next.j0 k l0 (wrap64 (rd l0 0)) (wrap64 ((wrap64 (64 * (wrap64 ((wrap64 (rd l0 0)) - 192)))) + t121)) (wrap64 ((wrap64 ((wrap64 (4096 * (wrap64 ((wrap64 (rd l0 0)) - 224)))) + (wrap64 (64 * t122)))) + t123)) (wrap64 ((wrap64 ((wrap64 ((wrap64 (262144 * (wrap64 ((wrap64 (rd l0 0)) - 240)))) + (wrap64 (4096 * t124)))) + (wrap64 (64 * t125)))) + t126)) false))))))) = some (r1, r2) := H
        have A5 := Zz.mk A50
        clear A50
        replace H := Option.bind_eq_some_iff.mp H
        obtain ⟨t122, A60, H⟩ := H
        replace H : ((souffleurref01_low.f l0 2).bind fun t123 => ((souffleurref01_low.f l0 1).bind fun t124 => ((souffleurref01_low.f l0 2).bind fun t125 => ((souffleurref01_low.f l0 3).bind fun t126 => (if (wrap64 (rd l0 0)) ≥ 192 then (if (wrap64 (rd l0 0)) < 224 then ((souffleurref01_Bytes.f k (wrap64 ((wrap64 (64 * (wrap64 ((wrap64 (rd l0 0)) - 192)))) + t121))).bind fun t127 => ((souffleurref01_begins.f k l0 t127).bind fun t130 => (if t130 = true then ((souffleurref01_Bytes.f k (wrap64 ((wrap64 (64 * (wrap64 ((wrap64 (rd l0 0)) - 192)))) + t121))).bind fun t131 => (souffleurref01_Next.j0 k l0 (wrap64 (rd l0 0)) (wrap64 ((wrap64 (64 * (wrap64 ((wrap64 (rd l0 0)) - 192)))) + t121)) (wrap64 ((wrap64 ((wrap64 (4096 * (wrap64 ((wrap64 (rd l0 0)) - 224)))) + (wrap64 (64 * t122)))) + t123)) (wrap64 ((wrap64 ((wrap64 ((wrap64 (262144 * (wrap64 ((wrap64 (rd l0 0)) - 240)))) + (wrap64 (4096 * t124)))) + (wrap64 (64 * t125)))) + t126)) ((t131.length : Int) == 2))) else (souffleurref01_Next.j0 k l0 (wrap64 (rd l0 0)) (wrap64 ((wrap64 (64 * (wrap64 ((wrap64 (rd l0 0)) - 192)))) + t121)) (wrap64 ((wrap64 ((wrap64 (4096 * (wrap64 ((wrap64 (rd l0 0)) - 224)))) + (wrap64 (64 * t122)))) + t123)) (wrap64 ((wrap64 ((wrap64 ((wrap64 (262144 * (wrap64 ((wrap64 (rd l0 0)) - 240)))) + (wrap64 (4096 * t124)))) + (wrap64 (64 * t125)))) + t126)) false)))) else (souffleurref01_Next.j0 k l0 (wrap64 (rd l0 0)) (wrap64 ((wrap64 (64 * (wrap64 ((wrap64 (rd l0 0)) - 192)))) + t121)) (wrap64 ((wrap64 ((wrap64 (4096 * (wrap64 ((wrap64 (rd l0 0)) - 224)))) + (wrap64 (64 * t122)))) + t123)) (wrap64 ((wrap64 ((wrap64 ((wrap64 (262144 * (wrap64 ((wrap64 (rd l0 0)) - 240)))) + (wrap64 (4096 * t124)))) + (wrap64 (64 * t125)))) + t126)) false)) else (souffleurref01_Next.j0 k l0 (wrap64 (rd l0 0)) (wrap64 ((wrap64 (64 * (wrap64 ((wrap64 (rd l0 0)) - 192)))) + t121)) (wrap64 ((wrap64 ((wrap64 (4096 * (wrap64 ((wrap64 (rd l0 0)) - 224)))) + (wrap64 (64 * t122)))) + t123)) (wrap64 ((wrap64 ((wrap64 ((wrap64 (262144 * (wrap64 ((wrap64 (rd l0 0)) - 240)))) + (wrap64 (4096 * t124)))) + (wrap64 (64 * t125)))) + t126)) false)))))) = some (r1, r2) := H
        have A6 := Zz.mk A60
        clear A60
        replace H := Option.bind_eq_some_iff.mp H
        obtain ⟨t123, A70, H⟩ := H
        replace H : ((souffleurref01_low.f l0 1).bind fun t124 => ((souffleurref01_low.f l0 2).bind fun t125 => ((souffleurref01_low.f l0 3).bind fun t126 => (if (wrap64 (rd l0 0)) ≥ 192 then (if (wrap64 (rd l0 0)) < 224 then ((souffleurref01_Bytes.f k (wrap64 ((wrap64 (64 * (wrap64 ((wrap64 (rd l0 0)) - 192)))) + t121))).bind fun t127 => ((souffleurref01_begins.f k l0 t127).bind fun t130 => (if t130 = true then ((souffleurref01_Bytes.f k (wrap64 ((wrap64 (64 * (wrap64 ((wrap64 (rd l0 0)) - 192)))) + t121))).bind fun t131 => (souffleurref01_Next.j0 k l0 (wrap64 (rd l0 0)) (wrap64 ((wrap64 (64 * (wrap64 ((wrap64 (rd l0 0)) - 192)))) + t121)) (wrap64 ((wrap64 ((wrap64 (4096 * (wrap64 ((wrap64 (rd l0 0)) - 224)))) + (wrap64 (64 * t122)))) + t123)) (wrap64 ((wrap64 ((wrap64 ((wrap64 (262144 * (wrap64 ((wrap64 (rd l0 0)) - 240)))) + (wrap64 (4096 * t124)))) + (wrap64 (64 * t125)))) + t126)) ((t131.length : Int) == 2))) else (souffleurref01_Next.j0 k l0 (wrap64 (rd l0 0)) (wrap64 ((wrap64 (64 * (wrap64 ((wrap64 (rd l0 0)) - 192)))) + t121)) (wrap64 ((wrap64 ((wrap64 (4096 * (wrap64 ((wrap64 (rd l0 0)) - 224)))) + (wrap64 (64 * t122)))) + t123)) (wrap64 ((wrap64 ((wrap64 ((wrap64 (262144 * (wrap64 ((wrap64 (rd l0 0)) - 240)))) + (wrap64 (4096 * t124)))) + (wrap64 (64 * t125)))) + t126)) false)))) else (souffleurref01_Next.j0 k l0 (wrap64 (rd l0 0)) (wrap64 ((wrap64 (64 * (wrap64 ((wrap64 (rd l0 0)) - 192)))) + t121)) (wrap64 ((wrap64 ((wrap64 (4096 * (wrap64 ((wrap64 (rd l0 0)) - 224)))) + (wrap64 (64 * t122)))) + t123)) (wrap64 ((wrap64 ((wrap64 ((wrap64 (262144 * (wrap64 ((wrap64 (rd l0 0)) - 240)))) + (wrap64 (4096 * t124)))) + (wrap64 (64 * t125)))) + t126)) false)) else (souffleurref01_Next.j0 k l0 (wrap64 (rd l0 0)) (wrap64 ((wrap64 (64 * (wrap64 ((wrap64 (rd l0 0)) - 192)))) + t121)) (wrap64 ((wrap64 ((wrap64 (4096 * (wrap64 ((wrap64 (rd l0 0)) - 224)))) + (wrap64 (64 * t122)))) + t123)) (wrap64 ((wrap64 ((wrap64 ((wrap64 (262144 * (wrap64 ((wrap64 (rd l0 0)) - 240)))) + (wrap64 (4096 * t124)))) + (wrap64 (64 * t125)))) + t126)) false))))) = some (r1, r2) := H
        have A7 := Zz.mk A70
        clear A70
        replace H := Option.bind_eq_some_iff.mp H
        obtain ⟨t124, A80, H⟩ := H
        replace H : ((souffleurref01_low.f l0 2).bind fun t125 => ((souffleurref01_low.f l0 3).bind fun t126 => (if (wrap64 (rd l0 0)) ≥ 192 then (if (wrap64 (rd l0 0)) < 224 then ((souffleurref01_Bytes.f k (wrap64 ((wrap64 (64 * (wrap64 ((wrap64 (rd l0 0)) - 192)))) + t121))).bind fun t127 => ((souffleurref01_begins.f k l0 t127).bind fun t130 => (if t130 = true then ((souffleurref01_Bytes.f k (wrap64 ((wrap64 (64 * (wrap64 ((wrap64 (rd l0 0)) - 192)))) + t121))).bind fun t131 => (souffleurref01_Next.j0 k l0 (wrap64 (rd l0 0)) (wrap64 ((wrap64 (64 * (wrap64 ((wrap64 (rd l0 0)) - 192)))) + t121)) (wrap64 ((wrap64 ((wrap64 (4096 * (wrap64 ((wrap64 (rd l0 0)) - 224)))) + (wrap64 (64 * t122)))) + t123)) (wrap64 ((wrap64 ((wrap64 ((wrap64 (262144 * (wrap64 ((wrap64 (rd l0 0)) - 240)))) + (wrap64 (4096 * t124)))) + (wrap64 (64 * t125)))) + t126)) ((t131.length : Int) == 2))) else (souffleurref01_Next.j0 k l0 (wrap64 (rd l0 0)) (wrap64 ((wrap64 (64 * (wrap64 ((wrap64 (rd l0 0)) - 192)))) + t121)) (wrap64 ((wrap64 ((wrap64 (4096 * (wrap64 ((wrap64 (rd l0 0)) - 224)))) + (wrap64 (64 * t122)))) + t123)) (wrap64 ((wrap64 ((wrap64 ((wrap64 (262144 * (wrap64 ((wrap64 (rd l0 0)) - 240)))) + (wrap64 (4096 * t124)))) + (wrap64 (64 * t125)))) + t126)) false)))) else (souffleurref01_Next.j0 k l0 (wrap64 (rd l0 0)) (wrap64 ((wrap64 (64 * (wrap64 ((wrap64 (rd l0 0)) - 192)))) + t121)) (wrap64 ((wrap64 ((wrap64 (4096 * (wrap64 ((wrap64 (rd l0 0)) - 224)))) + (wrap64 (64 * t122)))) + t123)) (wrap64 ((wrap64 ((wrap64 ((wrap64 (262144 * (wrap64 ((wrap64 (rd l0 0)) - 240)))) + (wrap64 (4096 * t124)))) + (wrap64 (64 * t125)))) + t126)) false)) else (souffleurref01_Next.j0 k l0 (wrap64 (rd l0 0)) (wrap64 ((wrap64 (64 * (wrap64 ((wrap64 (rd l0 0)) - 192)))) + t121)) (wrap64 ((wrap64 ((wrap64 (4096 * (wrap64 ((wrap64 (rd l0 0)) - 224)))) + (wrap64 (64 * t122)))) + t123)) (wrap64 ((wrap64 ((wrap64 ((wrap64 (262144 * (wrap64 ((wrap64 (rd l0 0)) - 240)))) + (wrap64 (4096 * t124)))) + (wrap64 (64 * t125)))) + t126)) false)))) = some (r1, r2) := H
        have A8 := Zz.mk A80
        clear A80
        replace H := Option.bind_eq_some_iff.mp H
        obtain ⟨t125, A90, H⟩ := H
        replace H : ((souffleurref01_low.f l0 3).bind fun t126 => (if (wrap64 (rd l0 0)) ≥ 192 then (if (wrap64 (rd l0 0)) < 224 then ((souffleurref01_Bytes.f k (wrap64 ((wrap64 (64 * (wrap64 ((wrap64 (rd l0 0)) - 192)))) + t121))).bind fun t127 => ((souffleurref01_begins.f k l0 t127).bind fun t130 => (if t130 = true then ((souffleurref01_Bytes.f k (wrap64 ((wrap64 (64 * (wrap64 ((wrap64 (rd l0 0)) - 192)))) + t121))).bind fun t131 => (souffleurref01_Next.j0 k l0 (wrap64 (rd l0 0)) (wrap64 ((wrap64 (64 * (wrap64 ((wrap64 (rd l0 0)) - 192)))) + t121)) (wrap64 ((wrap64 ((wrap64 (4096 * (wrap64 ((wrap64 (rd l0 0)) - 224)))) + (wrap64 (64 * t122)))) + t123)) (wrap64 ((wrap64 ((wrap64 ((wrap64 (262144 * (wrap64 ((wrap64 (rd l0 0)) - 240)))) + (wrap64 (4096 * t124)))) + (wrap64 (64 * t125)))) + t126)) ((t131.length : Int) == 2))) else (souffleurref01_Next.j0 k l0 (wrap64 (rd l0 0)) (wrap64 ((wrap64 (64 * (wrap64 ((wrap64 (rd l0 0)) - 192)))) + t121)) (wrap64 ((wrap64 ((wrap64 (4096 * (wrap64 ((wrap64 (rd l0 0)) - 224)))) + (wrap64 (64 * t122)))) + t123)) (wrap64 ((wrap64 ((wrap64 ((wrap64 (262144 * (wrap64 ((wrap64 (rd l0 0)) - 240)))) + (wrap64 (4096 * t124)))) + (wrap64 (64 * t125)))) + t126)) false)))) else (souffleurref01_Next.j0 k l0 (wrap64 (rd l0 0)) (wrap64 ((wrap64 (64 * (wrap64 ((wrap64 (rd l0 0)) - 192)))) + t121)) (wrap64 ((wrap64 ((wrap64 (4096 * (wrap64 ((wrap64 (rd l0 0)) - 224)))) + (wrap64 (64 * t122)))) + t123)) (wrap64 ((wrap64 ((wrap64 ((wrap64 (262144 * (wrap64 ((wrap64 (rd l0 0)) - 240)))) + (wrap64 (4096 * t124)))) + (wrap64 (64 * t125)))) + t126)) false)) else (souffleurref01_Next.j0 k l0 (wrap64 (rd l0 0)) (wrap64 ((wrap64 (64 * (wrap64 ((wrap64 (rd l0 0)) - 192)))) + t121)) (wrap64 ((wrap64 ((wrap64 (4096 * (wrap64 ((wrap64 (rd l0 0)) - 224)))) + (wrap64 (64 * t122)))) + t123)) (wrap64 ((wrap64 ((wrap64 ((wrap64 (262144 * (wrap64 ((wrap64 (rd l0 0)) - 240)))) + (wrap64 (4096 * t124)))) + (wrap64 (64 * t125)))) + t126)) false))) = some (r1, r2) := H
        have A9 := Zz.mk A90
        clear A90
        replace H := Option.bind_eq_some_iff.mp H
        obtain ⟨t126, A100, H⟩ := H
        replace H : (if (wrap64 (rd l0 0)) ≥ 192 then (if (wrap64 (rd l0 0)) < 224 then ((souffleurref01_Bytes.f k (wrap64 ((wrap64 (64 * (wrap64 ((wrap64 (rd l0 0)) - 192)))) + t121))).bind fun t127 => ((souffleurref01_begins.f k l0 t127).bind fun t130 => (if t130 = true then ((souffleurref01_Bytes.f k (wrap64 ((wrap64 (64 * (wrap64 ((wrap64 (rd l0 0)) - 192)))) + t121))).bind fun t131 => (souffleurref01_Next.j0 k l0 (wrap64 (rd l0 0)) (wrap64 ((wrap64 (64 * (wrap64 ((wrap64 (rd l0 0)) - 192)))) + t121)) (wrap64 ((wrap64 ((wrap64 (4096 * (wrap64 ((wrap64 (rd l0 0)) - 224)))) + (wrap64 (64 * t122)))) + t123)) (wrap64 ((wrap64 ((wrap64 ((wrap64 (262144 * (wrap64 ((wrap64 (rd l0 0)) - 240)))) + (wrap64 (4096 * t124)))) + (wrap64 (64 * t125)))) + t126)) ((t131.length : Int) == 2))) else (souffleurref01_Next.j0 k l0 (wrap64 (rd l0 0)) (wrap64 ((wrap64 (64 * (wrap64 ((wrap64 (rd l0 0)) - 192)))) + t121)) (wrap64 ((wrap64 ((wrap64 (4096 * (wrap64 ((wrap64 (rd l0 0)) - 224)))) + (wrap64 (64 * t122)))) + t123)) (wrap64 ((wrap64 ((wrap64 ((wrap64 (262144 * (wrap64 ((wrap64 (rd l0 0)) - 240)))) + (wrap64 (4096 * t124)))) + (wrap64 (64 * t125)))) + t126)) false)))) else (souffleurref01_Next.j0 k l0 (wrap64 (rd l0 0)) (wrap64 ((wrap64 (64 * (wrap64 ((wrap64 (rd l0 0)) - 192)))) + t121)) (wrap64 ((wrap64 ((wrap64 (4096 * (wrap64 ((wrap64 (rd l0 0)) - 224)))) + (wrap64 (64 * t122)))) + t123)) (wrap64 ((wrap64 ((wrap64 ((wrap64 (262144 * (wrap64 ((wrap64 (rd l0 0)) - 240)))) + (wrap64 (4096 * t124)))) + (wrap64 (64 * t125)))) + t126)) false)) else (souffleurref01_Next.j0 k l0 (wrap64 (rd l0 0)) (wrap64 ((wrap64 (64 * (wrap64 ((wrap64 (rd l0 0)) - 192)))) + t121)) (wrap64 ((wrap64 ((wrap64 (4096 * (wrap64 ((wrap64 (rd l0 0)) - 224)))) + (wrap64 (64 * t122)))) + t123)) (wrap64 ((wrap64 ((wrap64 ((wrap64 (262144 * (wrap64 ((wrap64 (rd l0 0)) - 240)))) + (wrap64 (4096 * t124)))) + (wrap64 (64 * t125)))) + t126)) false)) = some (r1, r2) := H
        have A10 := Zz.mk A100
        clear A100
        have HC11 := Zz.mk H
        clear H
        have p120 : 0 ≤ (0 : Int) := (by omega)
        have q120 : 0 < (l0.length : Int) := of_decide_eq_true (by first | (with_reducible assumption) | assumption)
        obtain ⟨ad120, e120, hx120_0⟩ := Kd.at_int HR0.out 0 p120 q120
        cases e120
        have qi120 : (0 < l0.length) = True := eq_true (by omega)
        (try rw [show ((0 : Int)).toNat = 0 from rfl] at hx120_0)
        (try rw [Addr.add_zero'] at hx120_0)
        replace p120 := eq_true p120
        replace q120 := eq_true q120
        go_enter Tryz.func77, Tryz.ntmps77
        go_upto_region 9 with (first | ((with_reducible refine gate_callee (f := 101) rfl ?_); refine goesL_ (some 22) rfl rfl Tryz.func101 (by kernel_rfl) rfl #[.slice (some ad120) l0.length c0, .int .i64 1] rfl (by (try simp only [List.map_toArray, List.map_cons, List.map_nil]); first | done | rfl | (simp only [List.length_drop, List.length_take]; rfl)) ?_; (with_reducible refine (souffleurref01_low.calls _ _ l0 1 t121 _ ?side1 ?side2 A5.out).mono ?_); (case side1 => repeat (first | exact HR0.out | (with_reducible refine Kd.C_alloc ?_ _) | (with_reducible refine Kd.C_drewN ?_ _) | (with_reducible refine Kd.C_drew ?_))); (case side2 => exact HC0.out); rintro e w' ⟨rfl, ⟨nd, rfl⟩⟩; refine ⟨_, rfl, ?_⟩) | ((with_reducible refine gate_callee (f := 101) rfl ?_); refine goesL_ (some 28) rfl rfl Tryz.func101 (by kernel_rfl) rfl #[.slice (some ad120) l0.length c0, .int .i64 1] rfl (by (try simp only [List.map_toArray, List.map_cons, List.map_nil]); first | done | rfl | (simp only [List.length_drop, List.length_take]; rfl)) ?_; (with_reducible refine (souffleurref01_low.calls _ _ l0 1 t122 _ ?side1 ?side2 A6.out).mono ?_); (case side1 => repeat (first | exact HR0.out | (with_reducible refine Kd.C_alloc ?_ _) | (with_reducible refine Kd.C_drewN ?_ _) | (with_reducible refine Kd.C_drew ?_))); (case side2 => exact HC0.out); rintro e w' ⟨rfl, ⟨nd, rfl⟩⟩; refine ⟨_, rfl, ?_⟩) | ((with_reducible refine gate_callee (f := 101) rfl ?_); refine goesL_ (some 32) rfl rfl Tryz.func101 (by kernel_rfl) rfl #[.slice (some ad120) l0.length c0, .int .i64 2] rfl (by (try simp only [List.map_toArray, List.map_cons, List.map_nil]); first | done | rfl | (simp only [List.length_drop, List.length_take]; rfl)) ?_; (with_reducible refine (souffleurref01_low.calls _ _ l0 2 t123 _ ?side1 ?side2 A7.out).mono ?_); (case side1 => repeat (first | exact HR0.out | (with_reducible refine Kd.C_alloc ?_ _) | (with_reducible refine Kd.C_drewN ?_ _) | (with_reducible refine Kd.C_drew ?_))); (case side2 => exact HC0.out); rintro e w' ⟨rfl, ⟨nd, rfl⟩⟩; refine ⟨_, rfl, ?_⟩) | ((with_reducible refine gate_callee (f := 101) rfl ?_); refine goesL_ (some 38) rfl rfl Tryz.func101 (by kernel_rfl) rfl #[.slice (some ad120) l0.length c0, .int .i64 1] rfl (by (try simp only [List.map_toArray, List.map_cons, List.map_nil]); first | done | rfl | (simp only [List.length_drop, List.length_take]; rfl)) ?_; (with_reducible refine (souffleurref01_low.calls _ _ l0 1 t124 _ ?side1 ?side2 A8.out).mono ?_); (case side1 => repeat (first | exact HR0.out | (with_reducible refine Kd.C_alloc ?_ _) | (with_reducible refine Kd.C_drewN ?_ _) | (with_reducible refine Kd.C_drew ?_))); (case side2 => exact HC0.out); rintro e w' ⟨rfl, ⟨nd, rfl⟩⟩; refine ⟨_, rfl, ?_⟩) | ((with_reducible refine gate_callee (f := 101) rfl ?_); refine goesL_ (some 42) rfl rfl Tryz.func101 (by kernel_rfl) rfl #[.slice (some ad120) l0.length c0, .int .i64 2] rfl (by (try simp only [List.map_toArray, List.map_cons, List.map_nil]); first | done | rfl | (simp only [List.length_drop, List.length_take]; rfl)) ?_; (with_reducible refine (souffleurref01_low.calls _ _ l0 2 t125 _ ?side1 ?side2 A9.out).mono ?_); (case side1 => repeat (first | exact HR0.out | (with_reducible refine Kd.C_alloc ?_ _) | (with_reducible refine Kd.C_drewN ?_ _) | (with_reducible refine Kd.C_drew ?_))); (case side2 => exact HC0.out); rintro e w' ⟨rfl, ⟨nd, rfl⟩⟩; refine ⟨_, rfl, ?_⟩) | ((with_reducible refine gate_callee (f := 101) rfl ?_); refine goesL_ (some 46) rfl rfl Tryz.func101 (by kernel_rfl) rfl #[.slice (some ad120) l0.length c0, .int .i64 3] rfl (by (try simp only [List.map_toArray, List.map_cons, List.map_nil]); first | done | rfl | (simp only [List.length_drop, List.length_take]; rfl)) ?_; (with_reducible refine (souffleurref01_low.calls _ _ l0 3 t126 _ ?side1 ?side2 A10.out).mono ?_); (case side1 => repeat (first | exact HR0.out | (with_reducible refine Kd.C_alloc ?_ _) | (with_reducible refine Kd.C_drewN ?_ _) | (with_reducible refine Kd.C_drew ?_))); (case side2 => exact HC0.out); rintro e w' ⟨rfl, ⟨nd, rfl⟩⟩; refine ⟨_, rfl, ?_⟩))
        (try simp only [Act.put, List.setIfInBounds_toArray, List.set_cons_zero, List.set_cons_succ])
        go_cut [65] (fun v65 wc => ∃ (kq : Nat) (x65_10 : Bool), v65 = .bool x65_10 ∧ Zz (souffleurref01_Next.j0 kq l0 (wrap64 (rd l0 0)) (wrap64 ((wrap64 (64 * (wrap64 ((wrap64 (rd l0 0)) - 192)))) + t121)) (wrap64 ((wrap64 ((wrap64 (4096 * (wrap64 ((wrap64 (rd l0 0)) - 224)))) + (wrap64 (64 * t122)))) + t123)) (wrap64 ((wrap64 ((wrap64 ((wrap64 (262144 * (wrap64 ((wrap64 (rd l0 0)) - 240)))) + (wrap64 (4096 * t124)))) + (wrap64 (64 * t125)))) + t126)) x65_10 = some (r1, r2)) ∧ Zz (kq ≤ k) ∧ Zz (Below w.heap.size w wc))
        case first =>
          have H := HC11.out
          clear HC11
          by_cases c12 : (wrap64 (rd l0 0)) ≥ 192
          · rw [if_pos c12] at H
            have c12b0 : decide (192 ≤ (wrap64 (rd l0 0))) = true := decide_eq_true c12
            clear c12
            (first | rw [c12b0] | (simp only [i64_w, i32_w]; rw [c12b0]) | skip)
            by_cases c13 : (wrap64 (rd l0 0)) < 224
            · rw [if_pos c13] at H
              have c13b0 : decide ((wrap64 (rd l0 0)) < 224) = true := decide_eq_true c13
              clear c13
              replace H := Option.bind_eq_some_iff.mp H
              obtain ⟨t127, A140, H⟩ := H
              replace H : ((souffleurref01_begins.f k l0 t127).bind fun t130 => (if t130 = true then ((souffleurref01_Bytes.f k (wrap64 ((wrap64 (64 * (wrap64 ((wrap64 (rd l0 0)) - 192)))) + t121))).bind fun t131 => (souffleurref01_Next.j0 k l0 (wrap64 (rd l0 0)) (wrap64 ((wrap64 (64 * (wrap64 ((wrap64 (rd l0 0)) - 192)))) + t121)) (wrap64 ((wrap64 ((wrap64 (4096 * (wrap64 ((wrap64 (rd l0 0)) - 224)))) + (wrap64 (64 * t122)))) + t123)) (wrap64 ((wrap64 ((wrap64 ((wrap64 (262144 * (wrap64 ((wrap64 (rd l0 0)) - 240)))) + (wrap64 (4096 * t124)))) + (wrap64 (64 * t125)))) + t126)) ((t131.length : Int) == 2))) else (souffleurref01_Next.j0 k l0 (wrap64 (rd l0 0)) (wrap64 ((wrap64 (64 * (wrap64 ((wrap64 (rd l0 0)) - 192)))) + t121)) (wrap64 ((wrap64 ((wrap64 (4096 * (wrap64 ((wrap64 (rd l0 0)) - 224)))) + (wrap64 (64 * t122)))) + t123)) (wrap64 ((wrap64 ((wrap64 ((wrap64 (262144 * (wrap64 ((wrap64 (rd l0 0)) - 240)))) + (wrap64 (4096 * t124)))) + (wrap64 (64 * t125)))) + t126)) false))) = some (r1, r2) := H
              have A14 := Zz.mk A140
              clear A140
              replace H := Option.bind_eq_some_iff.mp H
              obtain ⟨t130, A150, H⟩ := H
              replace H : (if t130 = true then ((souffleurref01_Bytes.f k (wrap64 ((wrap64 (64 * (wrap64 ((wrap64 (rd l0 0)) - 192)))) + t121))).bind fun t131 => (souffleurref01_Next.j0 k l0 (wrap64 (rd l0 0)) (wrap64 ((wrap64 (64 * (wrap64 ((wrap64 (rd l0 0)) - 192)))) + t121)) (wrap64 ((wrap64 ((wrap64 (4096 * (wrap64 ((wrap64 (rd l0 0)) - 224)))) + (wrap64 (64 * t122)))) + t123)) (wrap64 ((wrap64 ((wrap64 ((wrap64 (262144 * (wrap64 ((wrap64 (rd l0 0)) - 240)))) + (wrap64 (4096 * t124)))) + (wrap64 (64 * t125)))) + t126)) ((t131.length : Int) == 2))) else (souffleurref01_Next.j0 k l0 (wrap64 (rd l0 0)) (wrap64 ((wrap64 (64 * (wrap64 ((wrap64 (rd l0 0)) - 192)))) + t121)) (wrap64 ((wrap64 ((wrap64 (4096 * (wrap64 ((wrap64 (rd l0 0)) - 224)))) + (wrap64 (64 * t122)))) + t123)) (wrap64 ((wrap64 ((wrap64 ((wrap64 (262144 * (wrap64 ((wrap64 (rd l0 0)) - 240)))) + (wrap64 (4096 * t124)))) + (wrap64 (64 * t125)))) + t126)) false)) = some (r1, r2) := H
              have A15 := Zz.mk A150
              clear A150
              by_cases c16 : t130 = true
              · subst c16
                have H1 : ((souffleurref01_Bytes.f k (wrap64 ((wrap64 (64 * (wrap64 ((wrap64 (rd l0 0)) - 192)))) + t121))).bind fun t131 => (souffleurref01_Next.j0 k l0 (wrap64 (rd l0 0)) (wrap64 ((wrap64 (64 * (wrap64 ((wrap64 (rd l0 0)) - 192)))) + t121)) (wrap64 ((wrap64 ((wrap64 (4096 * (wrap64 ((wrap64 (rd l0 0)) - 224)))) + (wrap64 (64 * t122)))) + t123)) (wrap64 ((wrap64 ((wrap64 ((wrap64 (262144 * (wrap64 ((wrap64 (rd l0 0)) - 240)))) + (wrap64 (4096 * t124)))) + (wrap64 (64 * t125)))) + t126)) ((t131.length : Int) == 2))) = some (r1, r2) := by rw [if_pos rfl] at H; exact H
                clear H
                have H := H1
                clear H1
                replace H := Option.bind_eq_some_iff.mp H
                obtain ⟨t131, A170, H⟩ := H
                obtain rfl : t127 = t131 := Option.some.inj (A14.out.symm.trans A170)
                replace H : (souffleurref01_Next.j0 k l0 (wrap64 (rd l0 0)) (wrap64 ((wrap64 (64 * (wrap64 ((wrap64 (rd l0 0)) - 192)))) + t121)) (wrap64 ((wrap64 ((wrap64 (4096 * (wrap64 ((wrap64 (rd l0 0)) - 224)))) + (wrap64 (64 * t122)))) + t123)) (wrap64 ((wrap64 ((wrap64 ((wrap64 (262144 * (wrap64 ((wrap64 (rd l0 0)) - 240)))) + (wrap64 (4096 * t124)))) + (wrap64 (64 * t125)))) + t126)) ((t127.length : Int) == 2)) = some (r1, r2) := H
                have A17 := Zz.mk A170
                clear A170
                have H' := Zz.mk H
                clear H
                go_wp2_with (first | (go_at_call 59; (with_reducible refine (souffleurref01_Bytes.calls k (wrap64 ((wrap64 (64 * (wrap64 ((wrap64 (rd l0 0)) - 192)))) + t121)) t127 _ A14.out).mono ?_); rintro e w18 ⟨v128, rfl, ho0, hb⟩; have n0_ := Zz.mk (Kd.R_lower ho0 (below_size (by repeat (first | (with_reducible first | exact HB.out | apply below_alloc | apply pw_below_drewN | apply below_drew1) | exact HB.out)))); have n1_ := Zz.mk (below_step (by repeat (first | (with_reducible first | exact HB.out | apply below_alloc | apply pw_below_drewN | apply below_drew1) | exact HB.out)) hb); clear HB; have HO129 := n0_; have HB := n1_; clear n0_ n1_; (try clear hb); (try clear hb2); (try clear hk); (try clear hi); (try clear ho0); obtain ⟨Ao19, co19, eo19⟩ := Kd.R_slice HO129.out; subst eo19) | (go_at_call 102; (with_reducible refine (souffleurref01_begins.calls k _ _ l0 _ _ t127 true _ ?side1 ?side2 ?side3 ?side4 A15.out).mono ?_); (case side1 => repeat (first | exact (Kd.C_below HR0.out HB.out) | (with_reducible refine Kd.C_alloc ?_ _) | (with_reducible refine Kd.C_drewN ?_ _) | (with_reducible refine Kd.C_drew ?_))); (case side2 => exact HC0.out); (case side3 => repeat (first | exact (Kd.R_reads' HO129.out).2.2 | (with_reducible refine Kd.C_alloc ?_ _) | (with_reducible refine Kd.C_drewN ?_ _) | (with_reducible refine Kd.C_drew ?_))); (case side4 => exact (Kd.R_reads' HO129.out).2.1); rintro e w' ⟨rfl, ⟨nd, rfl⟩⟩) | (go_at_call 59; (with_reducible refine (souffleurref01_Bytes.calls k (wrap64 ((wrap64 (64 * (wrap64 ((wrap64 (rd l0 0)) - 192)))) + t121)) t127 _ A17.out).mono ?_); rintro e w20 ⟨v132, rfl, ho0, hb⟩; have n0_ := Zz.mk (Kd.R_elder' (by (with_reducible repeat (first | apply Kd.R_alloc | apply Kd.R_drewN | apply Kd.R_drew)); exact HO129.out) (Kd.R_base ho0) hb); have n1_ := Zz.mk (Kd.R_lower (Kd.R_new' ho0 (Kd.R_lt (by (with_reducible repeat (first | apply Kd.R_alloc | apply Kd.R_drewN | apply Kd.R_drew)); exact HO129.out))) (below_size (by repeat (first | (with_reducible first | exact HB.out | apply below_alloc | apply pw_below_drewN | apply below_drew1) | exact HB.out)))); have n2_ := Zz.mk (below_step (by repeat (first | (with_reducible first | exact HB.out | apply below_alloc | apply pw_below_drewN | apply below_drew1) | exact HB.out)) hb); clear HO129; clear HB; have HO129 := n0_; have HO133 := n1_; have HB := n2_; clear n0_ n1_ n2_; (try clear hb); (try clear hb2); (try clear hk); (try clear hi); (try clear ho0); obtain ⟨Ao21, co21, eo21⟩ := Kd.R_slice HO133.out; subst eo21))
                go_meet
                case rel => exact ⟨_, (((t127.length : Int) == 2)), (by first | rfl | (simp; done) | (simp [*]; done)), H', ⟨by first | omega | exact Nat.le_refl _⟩, ⟨by repeat (first | (with_reducible first | exact HB.out | apply below_alloc | apply pw_below_drewN | apply below_drew1) | exact HB.out)⟩⟩
              · replace c16 := Bool.eq_false_iff.mpr c16
                subst c16
                have H1 : (souffleurref01_Next.j0 k l0 (wrap64 (rd l0 0)) (wrap64 ((wrap64 (64 * (wrap64 ((wrap64 (rd l0 0)) - 192)))) + t121)) (wrap64 ((wrap64 ((wrap64 (4096 * (wrap64 ((wrap64 (rd l0 0)) - 224)))) + (wrap64 (64 * t122)))) + t123)) (wrap64 ((wrap64 ((wrap64 ((wrap64 (262144 * (wrap64 ((wrap64 (rd l0 0)) - 240)))) + (wrap64 (4096 * t124)))) + (wrap64 (64 * t125)))) + t126)) false) = some (r1, r2) := by rw [if_neg (show ¬ (false = true) by decide)] at H; exact H
                clear H
                have H := H1
                clear H1
                have H' := Zz.mk H
                clear H
                go_wp2_with (first | (go_at_call 59; (with_reducible refine (souffleurref01_Bytes.calls k (wrap64 ((wrap64 (64 * (wrap64 ((wrap64 (rd l0 0)) - 192)))) + t121)) t127 _ A14.out).mono ?_); rintro e w22 ⟨v128, rfl, ho0, hb⟩; have n0_ := Zz.mk (Kd.R_lower ho0 (below_size (by repeat (first | (with_reducible first | exact HB.out | apply below_alloc | apply pw_below_drewN | apply below_drew1) | exact HB.out)))); have n1_ := Zz.mk (below_step (by repeat (first | (with_reducible first | exact HB.out | apply below_alloc | apply pw_below_drewN | apply below_drew1) | exact HB.out)) hb); clear HB; have HO129 := n0_; have HB := n1_; clear n0_ n1_; (try clear hb); (try clear hb2); (try clear hk); (try clear hi); (try clear ho0); obtain ⟨Ao23, co23, eo23⟩ := Kd.R_slice HO129.out; subst eo23) | (go_at_call 102; (with_reducible refine (souffleurref01_begins.calls k _ _ l0 _ _ t127 false _ ?side1 ?side2 ?side3 ?side4 A15.out).mono ?_); (case side1 => repeat (first | exact (Kd.C_below HR0.out HB.out) | (with_reducible refine Kd.C_alloc ?_ _) | (with_reducible refine Kd.C_drewN ?_ _) | (with_reducible refine Kd.C_drew ?_))); (case side2 => exact HC0.out); (case side3 => repeat (first | exact (Kd.R_reads' HO129.out).2.2 | (with_reducible refine Kd.C_alloc ?_ _) | (with_reducible refine Kd.C_drewN ?_ _) | (with_reducible refine Kd.C_drew ?_))); (case side4 => exact (Kd.R_reads' HO129.out).2.1); rintro e w' ⟨rfl, ⟨nd, rfl⟩⟩))
                go_meet
                case rel => exact ⟨_, (false), (by first | rfl | (simp; done) | (simp [*]; done)), H', ⟨by first | omega | exact Nat.le_refl _⟩, ⟨by repeat (first | (with_reducible first | exact HB.out | apply below_alloc | apply pw_below_drewN | apply below_drew1) | exact HB.out)⟩⟩
            · rw [if_neg c13] at H
              have c13b0 : decide ((wrap64 (rd l0 0)) < 224) = false := decide_eq_false c13
              clear c13
              have H' := Zz.mk H
              clear H
              go_wp2
              go_meet
              case rel => exact ⟨_, (false), (by first | rfl | (simp; done) | (simp [*]; done)), H', ⟨by first | omega | exact Nat.le_refl _⟩, ⟨by repeat (first | (with_reducible first | exact HB.out | apply below_alloc | apply pw_below_drewN | apply below_drew1) | exact HB.out)⟩⟩
          · rw [if_neg c12] at H
            have c12b0 : decide (192 ≤ (wrap64 (rd l0 0))) = false := decide_eq_false c12
            clear c12
            (first | rw [c12b0] | (simp only [i64_w, i32_w]; rw [c12b0]) | skip)
            have H' := Zz.mk H
            clear H
            go_wp2
            go_meet
            case rel => exact ⟨_, (false), (by first | rfl | (simp; done) | (simp [*]; done)), H', ⟨by first | omega | exact Nat.le_refl _⟩, ⟨by repeat (first | (with_reducible first | exact HB.out | apply below_alloc | apply pw_below_drewN | apply below_drew1) | exact HB.out)⟩⟩
        case rest =>
          clear HC11
          try clear c1
          try clear p1
          try clear q1
          try clear hx1
          try clear qi1
          try clear c2
          try clear c2b0
          try clear c2b1
          try clear c2b2
          try clear p2
          try clear c3
          try clear c3b0
          try clear c3b1
          try clear c4
          try clear c4b0
          try clear p6
          try clear c7
          try clear c10
          try clear c12
          try clear c12b0
          try clear p12
          try clear q12
          try clear hx12
          try clear qi12
          try clear c13
          try clear c13b0
          try clear c16
          try clear hx120_0
          try clear p120
          try clear q120
          obtain ⟨kq, x65_10, rfl, HA, HJ10, HB⟩ := hcut
          cases kq with
          | zero => exact absurd HA.out (by simp [souffleurref01_Next.j0])
          | succ kj10 =>
            have H := HA.out
            clear HA
            simp only [souffleurref01_Next.j0] at H
            by_cases c24 : x65_10 = true
            · subst c24
              have H1 : (some ((wrap64 ((wrap64 (64 * (wrap64 ((wrap64 (rd l0 0)) - 192)))) + t121)), 2)) = some (r1, r2) := by rw [if_pos rfl] at H; exact H
              clear H
              have H := H1
              clear H1
              simp only [Option.some.injEq, Prod.mk.injEq] at H
              obtain ⟨rfl, rfl⟩ := H
              go_wp2
              go_ret2
              exact ⟨by first | rfl | (simp [errW_none, errW_some] <;> rfl) | (simp [*, errW_none, errW_some] <;> rfl), by repeat (first | (with_reducible first | exact HB.out | apply below_alloc | apply pw_below_drewN | apply below_drew1) | exact HB.out)⟩
            · replace c24 := Bool.eq_false_iff.mpr c24
              subst c24
              have H1 : (if (wrap64 (rd l0 0)) ≥ 224 then (if (wrap64 (rd l0 0)) < 240 then ((souffleurref01_low.f l0 2).bind fun t134 => (if t134 ≥ 0 then ((souffleurref01_Bytes.f kj10 (wrap64 ((wrap64 ((wrap64 (4096 * (wrap64 ((wrap64 (rd l0 0)) - 224)))) + (wrap64 (64 * t122)))) + t123))).bind fun t135 => ((souffleurref01_begins.f kj10 l0 t135).bind fun t138 => (if t138 = true then ((souffleurref01_Bytes.f kj10 (wrap64 ((wrap64 ((wrap64 (4096 * (wrap64 ((wrap64 (rd l0 0)) - 224)))) + (wrap64 (64 * t122)))) + t123))).bind fun t139 => (souffleurref01_Next.j1 kj10 l0 (wrap64 (rd l0 0)) (wrap64 ((wrap64 ((wrap64 (4096 * (wrap64 ((wrap64 (rd l0 0)) - 224)))) + (wrap64 (64 * t122)))) + t123)) (wrap64 ((wrap64 ((wrap64 ((wrap64 (262144 * (wrap64 ((wrap64 (rd l0 0)) - 240)))) + (wrap64 (4096 * t124)))) + (wrap64 (64 * t125)))) + t126)) ((t139.length : Int) == 3))) else (souffleurref01_Next.j1 kj10 l0 (wrap64 (rd l0 0)) (wrap64 ((wrap64 ((wrap64 (4096 * (wrap64 ((wrap64 (rd l0 0)) - 224)))) + (wrap64 (64 * t122)))) + t123)) (wrap64 ((wrap64 ((wrap64 ((wrap64 (262144 * (wrap64 ((wrap64 (rd l0 0)) - 240)))) + (wrap64 (4096 * t124)))) + (wrap64 (64 * t125)))) + t126)) false)))) else (souffleurref01_Next.j1 kj10 l0 (wrap64 (rd l0 0)) (wrap64 ((wrap64 ((wrap64 (4096 * (wrap64 ((wrap64 (rd l0 0)) - 224)))) + (wrap64 (64 * t122)))) + t123)) (wrap64 ((wrap64 ((wrap64 ((wrap64 (262144 * (wrap64 ((wrap64 (rd l0 0)) - 240)))) + (wrap64 (4096 * t124)))) + (wrap64 (64 * t125)))) + t126)) false))) else (souffleurref01_Next.j1 kj10 l0 (wrap64 (rd l0 0)) (wrap64 ((wrap64 ((wrap64 (4096 * (wrap64 ((wrap64 (rd l0 0)) - 224)))) + (wrap64 (64 * t122)))) + t123)) (wrap64 ((wrap64 ((wrap64 ((wrap64 (262144 * (wrap64 ((wrap64 (rd l0 0)) - 240)))) + (wrap64 (4096 * t124)))) + (wrap64 (64 * t125)))) + t126)) false)) else (souffleurref01_Next.j1 kj10 l0 (wrap64 (rd l0 0)) (wrap64 ((wrap64 ((wrap64 (4096 * (wrap64 ((wrap64 (rd l0 0)) - 224)))) + (wrap64 (64 * t122)))) + t123)) (wrap64 ((wrap64 ((wrap64 ((wrap64 (262144 * (wrap64 ((wrap64 (rd l0 0)) - 240)))) + (wrap64 (4096 * t124)))) + (wrap64 (64 * t125)))) + t126)) false)) = some (r1, r2) := by rw [if_neg (show ¬ (false = true) by decide)] at H; exact H
              clear H
              have H := H1
              clear H1
              have HC25 := Zz.mk H
              clear H
              go_upto_region 11 with (fail)
              go_cut [89] (fun v89 wc => ∃ (kq : Nat) (x89_24 : Bool), v89 = .bool x89_24 ∧ Zz (souffleurref01_Next.j1 kq l0 (wrap64 (rd l0 0)) (wrap64 ((wrap64 ((wrap64 (4096 * (wrap64 ((wrap64 (rd l0 0)) - 224)))) + (wrap64 (64 * t122)))) + t123)) (wrap64 ((wrap64 ((wrap64 ((wrap64 (262144 * (wrap64 ((wrap64 (rd l0 0)) - 240)))) + (wrap64 (4096 * t124)))) + (wrap64 (64 * t125)))) + t126)) x89_24 = some (r1, r2)) ∧ Zz (kq ≤ kj10) ∧ Zz (Below w.heap.size w wc))
              case first =>
                have H := HC25.out
                clear HC25
                by_cases c26 : (wrap64 (rd l0 0)) ≥ 224
                · rw [if_pos c26] at H
                  have c26b0 : decide (224 ≤ (wrap64 (rd l0 0))) = true := decide_eq_true c26
                  clear c26
                  (first | rw [c26b0] | (simp only [i64_w, i32_w]; rw [c26b0]) | skip)
                  by_cases c27 : (wrap64 (rd l0 0)) < 240
                  · rw [if_pos c27] at H
                    have c27b0 : decide ((wrap64 (rd l0 0)) < 240) = true := decide_eq_true c27
                    clear c27
                    replace H := Option.bind_eq_some_iff.mp H
                    obtain ⟨t134, A280, H⟩ := H
                    replace H : (if t134 ≥ 0 then ((souffleurref01_Bytes.f kj10 (wrap64 ((wrap64 ((wrap64 (4096 * (wrap64 ((wrap64 (rd l0 0)) - 224)))) + (wrap64 (64 * t122)))) + t123))).bind fun t135 => ((souffleurref01_begins.f kj10 l0 t135).bind fun t138 => (if t138 = true then ((souffleurref01_Bytes.f kj10 (wrap64 ((wrap64 ((wrap64 (4096 * (wrap64 ((wrap64 (rd l0 0)) - 224)))) + (wrap64 (64 * t122)))) + t123))).bind fun t139 => (souffleurref01_Next.j1 kj10 l0 (wrap64 (rd l0 0)) (wrap64 ((wrap64 ((wrap64 (4096 * (wrap64 ((wrap64 (rd l0 0)) - 224)))) + (wrap64 (64 * t122)))) + t123)) (wrap64 ((wrap64 ((wrap64 ((wrap64 (262144 * (wrap64 ((wrap64 (rd l0 0)) - 240)))) + (wrap64 (4096 * t124)))) + (wrap64 (64 * t125)))) + t126)) ((t139.length : Int) == 3))) else (souffleurref01_Next.j1 kj10 l0 (wrap64 (rd l0 0)) (wrap64 ((wrap64 ((wrap64 (4096 * (wrap64 ((wrap64 (rd l0 0)) - 224)))) + (wrap64 (64 * t122)))) + t123)) (wrap64 ((wrap64 ((wrap64 ((wrap64 (262144 * (wrap64 ((wrap64 (rd l0 0)) - 240)))) + (wrap64 (4096 * t124)))) + (wrap64 (64 * t125)))) + t126)) false)))) else (souffleurref01_Next.j1 kj10 l0 (wrap64 (rd l0 0)) (wrap64 ((wrap64 ((wrap64 (4096 * (wrap64 ((wrap64 (rd l0 0)) - 224)))) + (wrap64 (64 * t122)))) + t123)) (wrap64 ((wrap64 ((wrap64 ((wrap64 (262144 * (wrap64 ((wrap64 (rd l0 0)) - 240)))) + (wrap64 (4096 * t124)))) + (wrap64 (64 * t125)))) + t126)) false)) = some (r1, r2) := H
                    have A28 := Zz.mk A280
                    clear A280
                    by_cases c29 : t134 ≥ 0
                    · rw [if_pos c29] at H
                      have c29b0 : decide (0 ≤ t134) = true := decide_eq_true c29
                      clear c29
                      replace H := Option.bind_eq_some_iff.mp H
                      obtain ⟨t135, A300, H⟩ := H
                      replace H : ((souffleurref01_begins.f kj10 l0 t135).bind fun t138 => (if t138 = true then ((souffleurref01_Bytes.f kj10 (wrap64 ((wrap64 ((wrap64 (4096 * (wrap64 ((wrap64 (rd l0 0)) - 224)))) + (wrap64 (64 * t122)))) + t123))).bind fun t139 => (souffleurref01_Next.j1 kj10 l0 (wrap64 (rd l0 0)) (wrap64 ((wrap64 ((wrap64 (4096 * (wrap64 ((wrap64 (rd l0 0)) - 224)))) + (wrap64 (64 * t122)))) + t123)) (wrap64 ((wrap64 ((wrap64 ((wrap64 (262144 * (wrap64 ((wrap64 (rd l0 0)) - 240)))) + (wrap64 (4096 * t124)))) + (wrap64 (64 * t125)))) + t126)) ((t139.length : Int) == 3))) else (souffleurref01_Next.j1 kj10 l0 (wrap64 (rd l0 0)) (wrap64 ((wrap64 ((wrap64 (4096 * (wrap64 ((wrap64 (rd l0 0)) - 224)))) + (wrap64 (64 * t122)))) + t123)) (wrap64 ((wrap64 ((wrap64 ((wrap64 (262144 * (wrap64 ((wrap64 (rd l0 0)) - 240)))) + (wrap64 (4096 * t124)))) + (wrap64 (64 * t125)))) + t126)) false))) = some (r1, r2) := H
                      have A30 := Zz.mk A300
                      clear A300
                      replace H := Option.bind_eq_some_iff.mp H
                      obtain ⟨t138, A310, H⟩ := H
                      replace H : (if t138 = true then ((souffleurref01_Bytes.f kj10 (wrap64 ((wrap64 ((wrap64 (4096 * (wrap64 ((wrap64 (rd l0 0)) - 224)))) + (wrap64 (64 * t122)))) + t123))).bind fun t139 => (souffleurref01_Next.j1 kj10 l0 (wrap64 (rd l0 0)) (wrap64 ((wrap64 ((wrap64 (4096 * (wrap64 ((wrap64 (rd l0 0)) - 224)))) + (wrap64 (64 * t122)))) + t123)) (wrap64 ((wrap64 ((wrap64 ((wrap64 (262144 * (wrap64 ((wrap64 (rd l0 0)) - 240)))) + (wrap64 (4096 * t124)))) + (wrap64 (64 * t125)))) + t126)) ((t139.length : Int) == 3))) else (souffleurref01_Next.j1 kj10 l0 (wrap64 (rd l0 0)) (wrap64 ((wrap64 ((wrap64 (4096 * (wrap64 ((wrap64 (rd l0 0)) - 224)))) + (wrap64 (64 * t122)))) + t123)) (wrap64 ((wrap64 ((wrap64 ((wrap64 (262144 * (wrap64 ((wrap64 (rd l0 0)) - 240)))) + (wrap64 (4096 * t124)))) + (wrap64 (64 * t125)))) + t126)) false)) = some (r1, r2) := H
                      have A31 := Zz.mk A310
                      clear A310
                      by_cases c32 : t138 = true
                      · subst c32
                        have H1 : ((souffleurref01_Bytes.f kj10 (wrap64 ((wrap64 ((wrap64 (4096 * (wrap64 ((wrap64 (rd l0 0)) - 224)))) + (wrap64 (64 * t122)))) + t123))).bind fun t139 => (souffleurref01_Next.j1 kj10 l0 (wrap64 (rd l0 0)) (wrap64 ((wrap64 ((wrap64 (4096 * (wrap64 ((wrap64 (rd l0 0)) - 224)))) + (wrap64 (64 * t122)))) + t123)) (wrap64 ((wrap64 ((wrap64 ((wrap64 (262144 * (wrap64 ((wrap64 (rd l0 0)) - 240)))) + (wrap64 (4096 * t124)))) + (wrap64 (64 * t125)))) + t126)) ((t139.length : Int) == 3))) = some (r1, r2) := by rw [if_pos rfl] at H; exact H
                        clear H
                        have H := H1
                        clear H1
                        replace H := Option.bind_eq_some_iff.mp H
                        obtain ⟨t139, A330, H⟩ := H
                        obtain rfl : t135 = t139 := Option.some.inj (A30.out.symm.trans A330)
                        replace H : (souffleurref01_Next.j1 kj10 l0 (wrap64 (rd l0 0)) (wrap64 ((wrap64 ((wrap64 (4096 * (wrap64 ((wrap64 (rd l0 0)) - 224)))) + (wrap64 (64 * t122)))) + t123)) (wrap64 ((wrap64 ((wrap64 ((wrap64 (262144 * (wrap64 ((wrap64 (rd l0 0)) - 240)))) + (wrap64 (4096 * t124)))) + (wrap64 (64 * t125)))) + t126)) ((t135.length : Int) == 3)) = some (r1, r2) := H
                        have A33 := Zz.mk A330
                        clear A330
                        have H' := Zz.mk H
                        clear H
                        go_wp2_with (first | (go_at_call 101; (with_reducible refine (souffleurref01_low.calls _ _ l0 2 t134 _ ?side1 ?side2 A28.out).mono ?_); (case side1 => repeat (first | exact (Kd.C_below HR0.out HB.out) | (with_reducible refine Kd.C_alloc ?_ _) | (with_reducible refine Kd.C_drewN ?_ _) | (with_reducible refine Kd.C_drew ?_))); (case side2 => exact HC0.out); rintro e w' ⟨rfl, ⟨nd, rfl⟩⟩) | (go_at_call 59; (with_reducible refine (souffleurref01_Bytes.calls kj10 (wrap64 ((wrap64 ((wrap64 (4096 * (wrap64 ((wrap64 (rd l0 0)) - 224)))) + (wrap64 (64 * t122)))) + t123)) t135 _ A30.out).mono ?_); rintro e w34 ⟨v136, rfl, ho0, hb⟩; have n0_ := Zz.mk (Kd.R_lower ho0 (below_size (by repeat (first | (with_reducible first | exact HB.out | apply below_alloc | apply pw_below_drewN | apply below_drew1) | exact HB.out)))); have n1_ := Zz.mk (below_step (by repeat (first | (with_reducible first | exact HB.out | apply below_alloc | apply pw_below_drewN | apply below_drew1) | exact HB.out)) hb); clear HB; have HO137 := n0_; have HB := n1_; clear n0_ n1_; (try clear hb); (try clear hb2); (try clear hk); (try clear hi); (try clear ho0); obtain ⟨Ao35, co35, eo35⟩ := Kd.R_slice HO137.out; subst eo35) | (go_at_call 102; (with_reducible refine (souffleurref01_begins.calls kj10 _ _ l0 _ _ t135 true _ ?side1 ?side2 ?side3 ?side4 A31.out).mono ?_); (case side1 => repeat (first | exact (Kd.C_below HR0.out HB.out) | (with_reducible refine Kd.C_alloc ?_ _) | (with_reducible refine Kd.C_drewN ?_ _) | (with_reducible refine Kd.C_drew ?_))); (case side2 => exact HC0.out); (case side3 => repeat (first | exact (Kd.R_reads' HO137.out).2.2 | (with_reducible refine Kd.C_alloc ?_ _) | (with_reducible refine Kd.C_drewN ?_ _) | (with_reducible refine Kd.C_drew ?_))); (case side4 => exact (Kd.R_reads' HO137.out).2.1); rintro e w' ⟨rfl, ⟨nd, rfl⟩⟩) | (go_at_call 59; (with_reducible refine (souffleurref01_Bytes.calls kj10 (wrap64 ((wrap64 ((wrap64 (4096 * (wrap64 ((wrap64 (rd l0 0)) - 224)))) + (wrap64 (64 * t122)))) + t123)) t135 _ A33.out).mono ?_); rintro e w36 ⟨v140, rfl, ho0, hb⟩; have n0_ := Zz.mk (Kd.R_elder' (by (with_reducible repeat (first | apply Kd.R_alloc | apply Kd.R_drewN | apply Kd.R_drew)); exact HO137.out) (Kd.R_base ho0) hb); have n1_ := Zz.mk (Kd.R_lower (Kd.R_new' ho0 (Kd.R_lt (by (with_reducible repeat (first | apply Kd.R_alloc | apply Kd.R_drewN | apply Kd.R_drew)); exact HO137.out))) (below_size (by repeat (first | (with_reducible first | exact HB.out | apply below_alloc | apply pw_below_drewN | apply below_drew1) | exact HB.out)))); have n2_ := Zz.mk (below_step (by repeat (first | (with_reducible first | exact HB.out | apply below_alloc | apply pw_below_drewN | apply below_drew1) | exact HB.out)) hb); clear HO137; clear HB; have HO137 := n0_; have HO141 := n1_; have HB := n2_; clear n0_ n1_ n2_; (try clear hb); (try clear hb2); (try clear hk); (try clear hi); (try clear ho0); obtain ⟨Ao37, co37, eo37⟩ := Kd.R_slice HO141.out; subst eo37))
                        go_meet
                        case rel => exact ⟨_, (((t135.length : Int) == 3)), (by first | rfl | (simp; done) | (simp [*]; done)), H', ⟨by have := HJ10.out; first | omega | exact Nat.le_refl _⟩, ⟨by repeat (first | (with_reducible first | exact HB.out | apply below_alloc | apply pw_below_drewN | apply below_drew1) | exact HB.out)⟩⟩
                      · replace c32 := Bool.eq_false_iff.mpr c32
                        subst c32
                        have H1 : (souffleurref01_Next.j1 kj10 l0 (wrap64 (rd l0 0)) (wrap64 ((wrap64 ((wrap64 (4096 * (wrap64 ((wrap64 (rd l0 0)) - 224)))) + (wrap64 (64 * t122)))) + t123)) (wrap64 ((wrap64 ((wrap64 ((wrap64 (262144 * (wrap64 ((wrap64 (rd l0 0)) - 240)))) + (wrap64 (4096 * t124)))) + (wrap64 (64 * t125)))) + t126)) false) = some (r1, r2) := by rw [if_neg (show ¬ (false = true) by decide)] at H; exact H
                        clear H
                        have H := H1
                        clear H1
                        have H' := Zz.mk H
                        clear H
                        go_wp2_with (first | (go_at_call 101; (with_reducible refine (souffleurref01_low.calls _ _ l0 2 t134 _ ?side1 ?side2 A28.out).mono ?_); (case side1 => repeat (first | exact (Kd.C_below HR0.out HB.out) | (with_reducible refine Kd.C_alloc ?_ _) | (with_reducible refine Kd.C_drewN ?_ _) | (with_reducible refine Kd.C_drew ?_))); (case side2 => exact HC0.out); rintro e w' ⟨rfl, ⟨nd, rfl⟩⟩) | (go_at_call 59; (with_reducible refine (souffleurref01_Bytes.calls kj10 (wrap64 ((wrap64 ((wrap64 (4096 * (wrap64 ((wrap64 (rd l0 0)) - 224)))) + (wrap64 (64 * t122)))) + t123)) t135 _ A30.out).mono ?_); rintro e w38 ⟨v136, rfl, ho0, hb⟩; have n0_ := Zz.mk (Kd.R_lower ho0 (below_size (by repeat (first | (with_reducible first | exact HB.out | apply below_alloc | apply pw_below_drewN | apply below_drew1) | exact HB.out)))); have n1_ := Zz.mk (below_step (by repeat (first | (with_reducible first | exact HB.out | apply below_alloc | apply pw_below_drewN | apply below_drew1) | exact HB.out)) hb); clear HB; have HO137 := n0_; have HB := n1_; clear n0_ n1_; (try clear hb); (try clear hb2); (try clear hk); (try clear hi); (try clear ho0); obtain ⟨Ao39, co39, eo39⟩ := Kd.R_slice HO137.out; subst eo39) | (go_at_call 102; (with_reducible refine (souffleurref01_begins.calls kj10 _ _ l0 _ _ t135 false _ ?side1 ?side2 ?side3 ?side4 A31.out).mono ?_); (case side1 => repeat (first | exact (Kd.C_below HR0.out HB.out) | (with_reducible refine Kd.C_alloc ?_ _) | (with_reducible refine Kd.C_drewN ?_ _) | (with_reducible refine Kd.C_drew ?_))); (case side2 => exact HC0.out); (case side3 => repeat (first | exact (Kd.R_reads' HO137.out).2.2 | (with_reducible refine Kd.C_alloc ?_ _) | (with_reducible refine Kd.C_drewN ?_ _) | (with_reducible refine Kd.C_drew ?_))); (case side4 => exact (Kd.R_reads' HO137.out).2.1); rintro e w' ⟨rfl, ⟨nd, rfl⟩⟩))
                        go_meet
                        case rel => exact ⟨_, (false), (by first | rfl | (simp; done) | (simp [*]; done)), H', ⟨by have := HJ10.out; first | omega | exact Nat.le_refl _⟩, ⟨by repeat (first | (with_reducible first | exact HB.out | apply below_alloc | apply pw_below_drewN | apply below_drew1) | exact HB.out)⟩⟩
                    · rw [if_neg c29] at H
                      have c29b0 : decide (0 ≤ t134) = false := decide_eq_false c29
                      clear c29
                      have H' := Zz.mk H
                      clear H
                      go_wp2_with (first | (go_at_call 101; (with_reducible refine (souffleurref01_low.calls _ _ l0 2 t134 _ ?side1 ?side2 A28.out).mono ?_); (case side1 => repeat (first | exact (Kd.C_below HR0.out HB.out) | (with_reducible refine Kd.C_alloc ?_ _) | (with_reducible refine Kd.C_drewN ?_ _) | (with_reducible refine Kd.C_drew ?_))); (case side2 => exact HC0.out); rintro e w' ⟨rfl, ⟨nd, rfl⟩⟩))
                      go_meet
                      case rel => exact ⟨_, (false), (by first | rfl | (simp; done) | (simp [*]; done)), H', ⟨by have := HJ10.out; first | omega | exact Nat.le_refl _⟩, ⟨by repeat (first | (with_reducible first | exact HB.out | apply below_alloc | apply pw_below_drewN | apply below_drew1) | exact HB.out)⟩⟩
                  · rw [if_neg c27] at H
                    have c27b0 : decide ((wrap64 (rd l0 0)) < 240) = false := decide_eq_false c27
                    clear c27
                    have H' := Zz.mk H
                    clear H
                    go_wp2
                    go_meet
                    case rel => exact ⟨_, (false), (by first | rfl | (simp; done) | (simp [*]; done)), H', ⟨by have := HJ10.out; first | omega | exact Nat.le_refl _⟩, ⟨by repeat (first | (with_reducible first | exact HB.out | apply below_alloc | apply pw_below_drewN | apply below_drew1) | exact HB.out)⟩⟩
                · rw [if_neg c26] at H
                  have c26b0 : decide (224 ≤ (wrap64 (rd l0 0))) = false := decide_eq_false c26
                  clear c26
                  (first | rw [c26b0] | (simp only [i64_w, i32_w]; rw [c26b0]) | skip)
                  have H' := Zz.mk H
                  clear H
                  go_wp2
                  go_meet
                  case rel => exact ⟨_, (false), (by first | rfl | (simp; done) | (simp [*]; done)), H', ⟨by have := HJ10.out; first | omega | exact Nat.le_refl _⟩, ⟨by repeat (first | (with_reducible first | exact HB.out | apply below_alloc | apply pw_below_drewN | apply below_drew1) | exact HB.out)⟩⟩
              case rest =>
                clear HC25
                try clear c1
                try clear p1
                try clear q1
                try clear hx1
                try clear qi1
                try clear c2
                try clear c2b0
                try clear c2b1
                try clear c2b2
                try clear p2
                try clear c3
                try clear c3b0
                try clear c3b1
                try clear c4
                try clear c4b0
                try clear p6
                try clear c7
                try clear c10
                try clear c12
                try clear c12b0
                try clear p12
                try clear q12
                try clear hx12
                try clear qi12
                try clear c13
                try clear c13b0
                try clear c16
                try clear c24
                try clear c26
                try clear c26b0
                try clear c27
                try clear c27b0
                try clear c29
                try clear c29b0
                try clear c32
                try clear hx120_0
                try clear p1
                try clear p12
                try clear p120
                try clear p2
                try clear p6
                try clear q1
                try clear q12
                try clear q120
                obtain ⟨kq, x89_24, rfl, HA, HJ24, HB⟩ := hcut
                cases kq with
                | zero => exact absurd HA.out (by simp [souffleurref01_Next.j1])
                | succ kj24 =>
                  have H := HA.out
                  clear HA
                  simp only [souffleurref01_Next.j1] at H
                  by_cases c40 : x89_24 = true
                  · subst c40
                    have H1 : (some ((wrap64 ((wrap64 ((wrap64 (4096 * (wrap64 ((wrap64 (rd l0 0)) - 224)))) + (wrap64 (64 * t122)))) + t123)), 3)) = some (r1, r2) := by rw [if_pos rfl] at H; exact H
                    clear H
                    have H := H1
                    clear H1
                    simp only [Option.some.injEq, Prod.mk.injEq] at H
                    obtain ⟨rfl, rfl⟩ := H
                    go_wp2
                    go_ret2
                    exact ⟨by first | rfl | (simp [errW_none, errW_some] <;> rfl) | (simp [*, errW_none, errW_some] <;> rfl), by repeat (first | (with_reducible first | exact HB.out | apply below_alloc | apply pw_below_drewN | apply below_drew1) | exact HB.out)⟩
                  · replace c40 := Bool.eq_false_iff.mpr c40
                    subst c40
                    have H1 : (if (wrap64 (rd l0 0)) ≥ 240 then (if (wrap64 (rd l0 0)) < 248 then ((souffleurref01_low.f l0 3).bind fun t142 => (if t142 ≥ 0 then ((souffleurref01_Bytes.f kj24 (wrap64 ((wrap64 ((wrap64 ((wrap64 (262144 * (wrap64 ((wrap64 (rd l0 0)) - 240)))) + (wrap64 (4096 * t124)))) + (wrap64 (64 * t125)))) + t126))).bind fun t143 => ((souffleurref01_begins.f kj24 l0 t143).bind fun t146 => (if t146 = true then ((souffleurref01_Bytes.f kj24 (wrap64 ((wrap64 ((wrap64 ((wrap64 (262144 * (wrap64 ((wrap64 (rd l0 0)) - 240)))) + (wrap64 (4096 * t124)))) + (wrap64 (64 * t125)))) + t126))).bind fun t147 => (if (t147.length : Int) = 4 then (some ((wrap64 ((wrap64 ((wrap64 ((wrap64 (262144 * (wrap64 ((wrap64 (rd l0 0)) - 240)))) + (wrap64 (4096 * t124)))) + (wrap64 (64 * t125)))) + t126)), 4)) else (some (65533, 1)))) else (some (65533, 1))))) else (some (65533, 1)))) else (some (65533, 1))) else (some (65533, 1))) = some (r1, r2) := by rw [if_neg (show ¬ (false = true) by decide)] at H; exact H
                    clear H
                    have H := H1
                    clear H1
                    by_cases c41 : (wrap64 (rd l0 0)) ≥ 240
                    · rw [if_pos c41] at H
                      have c41b0 : decide (240 ≤ (wrap64 (rd l0 0))) = true := decide_eq_true c41
                      clear c41
                      by_cases c42 : (wrap64 (rd l0 0)) < 248
                      · rw [if_pos c42] at H
                        have c42b0 : decide ((wrap64 (rd l0 0)) < 248) = true := decide_eq_true c42
                        clear c42
                        replace H := Option.bind_eq_some_iff.mp H
                        obtain ⟨t142, A430, H⟩ := H
                        replace H : (if t142 ≥ 0 then ((souffleurref01_Bytes.f kj24 (wrap64 ((wrap64 ((wrap64 ((wrap64 (262144 * (wrap64 ((wrap64 (rd l0 0)) - 240)))) + (wrap64 (4096 * t124)))) + (wrap64 (64 * t125)))) + t126))).bind fun t143 => ((souffleurref01_begins.f kj24 l0 t143).bind fun t146 => (if t146 = true then ((souffleurref01_Bytes.f kj24 (wrap64 ((wrap64 ((wrap64 ((wrap64 (262144 * (wrap64 ((wrap64 (rd l0 0)) - 240)))) + (wrap64 (4096 * t124)))) + (wrap64 (64 * t125)))) + t126))).bind fun t147 => (if (t147.length : Int) = 4 then (some ((wrap64 ((wrap64 ((wrap64 ((wrap64 (262144 * (wrap64 ((wrap64 (rd l0 0)) - 240)))) + (wrap64 (4096 * t124)))) + (wrap64 (64 * t125)))) + t126)), 4)) else (some (65533, 1)))) else (some (65533, 1))))) else (some (65533, 1))) = some (r1, r2) := H
                        have A43 := Zz.mk A430
                        clear A430
                        by_cases c44 : t142 ≥ 0
                        · rw [if_pos c44] at H
                          have c44b0 : decide (0 ≤ t142) = true := decide_eq_true c44
                          clear c44
                          replace H := Option.bind_eq_some_iff.mp H
                          obtain ⟨t143, A450, H⟩ := H
                          replace H : ((souffleurref01_begins.f kj24 l0 t143).bind fun t146 => (if t146 = true then ((souffleurref01_Bytes.f kj24 (wrap64 ((wrap64 ((wrap64 ((wrap64 (262144 * (wrap64 ((wrap64 (rd l0 0)) - 240)))) + (wrap64 (4096 * t124)))) + (wrap64 (64 * t125)))) + t126))).bind fun t147 => (if (t147.length : Int) = 4 then (some ((wrap64 ((wrap64 ((wrap64 ((wrap64 (262144 * (wrap64 ((wrap64 (rd l0 0)) - 240)))) + (wrap64 (4096 * t124)))) + (wrap64 (64 * t125)))) + t126)), 4)) else (some (65533, 1)))) else (some (65533, 1)))) = some (r1, r2) := H
                          have A45 := Zz.mk A450
                          clear A450
                          replace H := Option.bind_eq_some_iff.mp H
                          obtain ⟨t146, A460, H⟩ := H
                          replace H : (if t146 = true then ((souffleurref01_Bytes.f kj24 (wrap64 ((wrap64 ((wrap64 ((wrap64 (262144 * (wrap64 ((wrap64 (rd l0 0)) - 240)))) + (wrap64 (4096 * t124)))) + (wrap64 (64 * t125)))) + t126))).bind fun t147 => (if (t147.length : Int) = 4 then (some ((wrap64 ((wrap64 ((wrap64 ((wrap64 (262144 * (wrap64 ((wrap64 (rd l0 0)) - 240)))) + (wrap64 (4096 * t124)))) + (wrap64 (64 * t125)))) + t126)), 4)) else (some (65533, 1)))) else (some (65533, 1))) = some (r1, r2) := H
                          have A46 := Zz.mk A460
                          clear A460
                          by_cases c47 : t146 = true
                          · subst c47
                            have H1 : ((souffleurref01_Bytes.f kj24 (wrap64 ((wrap64 ((wrap64 ((wrap64 (262144 * (wrap64 ((wrap64 (rd l0 0)) - 240)))) + (wrap64 (4096 * t124)))) + (wrap64 (64 * t125)))) + t126))).bind fun t147 => (if (t147.length : Int) = 4 then (some ((wrap64 ((wrap64 ((wrap64 ((wrap64 (262144 * (wrap64 ((wrap64 (rd l0 0)) - 240)))) + (wrap64 (4096 * t124)))) + (wrap64 (64 * t125)))) + t126)), 4)) else (some (65533, 1)))) = some (r1, r2) := by rw [if_pos rfl] at H; exact H
                            clear H
                            have H := H1
                            clear H1
                            replace H := Option.bind_eq_some_iff.mp H
                            obtain ⟨t147, A480, H⟩ := H
                            obtain rfl : t143 = t147 := Option.some.inj (A45.out.symm.trans A480)
                            replace H : (if (t143.length : Int) = 4 then (some ((wrap64 ((wrap64 ((wrap64 ((wrap64 (262144 * (wrap64 ((wrap64 (rd l0 0)) - 240)))) + (wrap64 (4096 * t124)))) + (wrap64 (64 * t125)))) + t126)), 4)) else (some (65533, 1))) = some (r1, r2) := H
                            have A48 := Zz.mk A480
                            clear A480
                            by_cases c49 : (t143.length : Int) = 4
                            · rw [if_pos c49] at H
                              have c49b0 : ((t143.length : Int) == 4) = true := beq_iff_eq.mpr c49
                              have c49b1 : ((t143.length : Int) != 4) = false := bne_eq_false_iff_eq.mpr c49
                              clear c49
                              simp only [Option.some.injEq, Prod.mk.injEq] at H
                              obtain ⟨rfl, rfl⟩ := H
                              go_wp2_with (first | (go_at_call 101; (with_reducible refine (souffleurref01_low.calls _ _ l0 3 t142 _ ?side1 ?side2 A43.out).mono ?_); (case side1 => repeat (first | exact (Kd.C_below HR0.out HB.out) | (with_reducible refine Kd.C_alloc ?_ _) | (with_reducible refine Kd.C_drewN ?_ _) | (with_reducible refine Kd.C_drew ?_))); (case side2 => exact HC0.out); rintro e w' ⟨rfl, ⟨nd, rfl⟩⟩) | (go_at_call 59; (with_reducible refine (souffleurref01_Bytes.calls kj24 (wrap64 ((wrap64 ((wrap64 ((wrap64 (262144 * (wrap64 ((wrap64 (rd l0 0)) - 240)))) + (wrap64 (4096 * t124)))) + (wrap64 (64 * t125)))) + t126)) t143 _ A45.out).mono ?_); rintro e w50 ⟨v144, rfl, ho0, hb⟩; have n0_ := Zz.mk (Kd.R_lower ho0 (below_size (by repeat (first | (with_reducible first | exact HB.out | apply below_alloc | apply pw_below_drewN | apply below_drew1) | exact HB.out)))); have n1_ := Zz.mk (below_step (by repeat (first | (with_reducible first | exact HB.out | apply below_alloc | apply pw_below_drewN | apply below_drew1) | exact HB.out)) hb); clear HB; have HO145 := n0_; have HB := n1_; clear n0_ n1_; (try clear hb); (try clear hb2); (try clear hk); (try clear hi); (try clear ho0); obtain ⟨Ao51, co51, eo51⟩ := Kd.R_slice HO145.out; subst eo51) | (go_at_call 102; (with_reducible refine (souffleurref01_begins.calls kj24 _ _ l0 _ _ t143 true _ ?side1 ?side2 ?side3 ?side4 A46.out).mono ?_); (case side1 => repeat (first | exact (Kd.C_below HR0.out HB.out) | (with_reducible refine Kd.C_alloc ?_ _) | (with_reducible refine Kd.C_drewN ?_ _) | (with_reducible refine Kd.C_drew ?_))); (case side2 => exact HC0.out); (case side3 => repeat (first | exact (Kd.R_reads' HO145.out).2.2 | (with_reducible refine Kd.C_alloc ?_ _) | (with_reducible refine Kd.C_drewN ?_ _) | (with_reducible refine Kd.C_drew ?_))); (case side4 => exact (Kd.R_reads' HO145.out).2.1); rintro e w' ⟨rfl, ⟨nd, rfl⟩⟩) | (go_at_call 59; (with_reducible refine (souffleurref01_Bytes.calls kj24 (wrap64 ((wrap64 ((wrap64 ((wrap64 (262144 * (wrap64 ((wrap64 (rd l0 0)) - 240)))) + (wrap64 (4096 * t124)))) + (wrap64 (64 * t125)))) + t126)) t143 _ A48.out).mono ?_); rintro e w52 ⟨v148, rfl, ho0, hb⟩; have n0_ := Zz.mk (Kd.R_elder' (by (with_reducible repeat (first | apply Kd.R_alloc | apply Kd.R_drewN | apply Kd.R_drew)); exact HO145.out) (Kd.R_base ho0) hb); have n1_ := Zz.mk (Kd.R_lower (Kd.R_new' ho0 (Kd.R_lt (by (with_reducible repeat (first | apply Kd.R_alloc | apply Kd.R_drewN | apply Kd.R_drew)); exact HO145.out))) (below_size (by repeat (first | (with_reducible first | exact HB.out | apply below_alloc | apply pw_below_drewN | apply below_drew1) | exact HB.out)))); have n2_ := Zz.mk (below_step (by repeat (first | (with_reducible first | exact HB.out | apply below_alloc | apply pw_below_drewN | apply below_drew1) | exact HB.out)) hb); clear HO145; clear HB; have HO145 := n0_; have HO149 := n1_; have HB := n2_; clear n0_ n1_ n2_; (try clear hb); (try clear hb2); (try clear hk); (try clear hi); (try clear ho0); obtain ⟨Ao53, co53, eo53⟩ := Kd.R_slice HO149.out; subst eo53))
                              go_ret2
                              exact ⟨by first | rfl | (simp [errW_none, errW_some] <;> rfl) | (simp [*, errW_none, errW_some] <;> rfl), by repeat (first | (with_reducible first | exact HB.out | apply below_alloc | apply pw_below_drewN | apply below_drew1) | exact HB.out)⟩
                            · rw [if_neg c49] at H
                              have c49b0 : ((t143.length : Int) == 4) = false := beq_eq_false_iff_ne.mpr c49
                              have c49b1 : ((t143.length : Int) != 4) = true := bne_iff_ne.mpr c49
                              simp only [Option.some.injEq, Prod.mk.injEq] at H
                              obtain ⟨rfl, rfl⟩ := H
                              go_wp2_with (first | (go_at_call 101; (with_reducible refine (souffleurref01_low.calls _ _ l0 3 t142 _ ?side1 ?side2 A43.out).mono ?_); (case side1 => repeat (first | exact (Kd.C_below HR0.out HB.out) | (with_reducible refine Kd.C_alloc ?_ _) | (with_reducible refine Kd.C_drewN ?_ _) | (with_reducible refine Kd.C_drew ?_))); (case side2 => exact HC0.out); rintro e w' ⟨rfl, ⟨nd, rfl⟩⟩) | (go_at_call 59; (with_reducible refine (souffleurref01_Bytes.calls kj24 (wrap64 ((wrap64 ((wrap64 ((wrap64 (262144 * (wrap64 ((wrap64 (rd l0 0)) - 240)))) + (wrap64 (4096 * t124)))) + (wrap64 (64 * t125)))) + t126)) t143 _ A45.out).mono ?_); rintro e w54 ⟨v144, rfl, ho0, hb⟩; have n0_ := Zz.mk (Kd.R_lower ho0 (below_size (by repeat (first | (with_reducible first | exact HB.out | apply below_alloc | apply pw_below_drewN | apply below_drew1) | exact HB.out)))); have n1_ := Zz.mk (below_step (by repeat (first | (with_reducible first | exact HB.out | apply below_alloc | apply pw_below_drewN | apply below_drew1) | exact HB.out)) hb); clear HB; have HO145 := n0_; have HB := n1_; clear n0_ n1_; (try clear hb); (try clear hb2); (try clear hk); (try clear hi); (try clear ho0); obtain ⟨Ao55, co55, eo55⟩ := Kd.R_slice HO145.out; subst eo55) | (go_at_call 102; (with_reducible refine (souffleurref01_begins.calls kj24 _ _ l0 _ _ t143 true _ ?side1 ?side2 ?side3 ?side4 A46.out).mono ?_); (case side1 => repeat (first | exact (Kd.C_below HR0.out HB.out) | (with_reducible refine Kd.C_alloc ?_ _) | (with_reducible refine Kd.C_drewN ?_ _) | (with_reducible refine Kd.C_drew ?_))); (case side2 => exact HC0.out); (case side3 => repeat (first | exact (Kd.R_reads' HO145.out).2.2 | (with_reducible refine Kd.C_alloc ?_ _) | (with_reducible refine Kd.C_drewN ?_ _) | (with_reducible refine Kd.C_drew ?_))); (case side4 => exact (Kd.R_reads' HO145.out).2.1); rintro e w' ⟨rfl, ⟨nd, rfl⟩⟩) | (go_at_call 59; (with_reducible refine (souffleurref01_Bytes.calls kj24 (wrap64 ((wrap64 ((wrap64 ((wrap64 (262144 * (wrap64 ((wrap64 (rd l0 0)) - 240)))) + (wrap64 (4096 * t124)))) + (wrap64 (64 * t125)))) + t126)) t143 _ A48.out).mono ?_); rintro e w56 ⟨v148, rfl, ho0, hb⟩; have n0_ := Zz.mk (Kd.R_elder' (by (with_reducible repeat (first | apply Kd.R_alloc | apply Kd.R_drewN | apply Kd.R_drew)); exact HO145.out) (Kd.R_base ho0) hb); have n1_ := Zz.mk (Kd.R_lower (Kd.R_new' ho0 (Kd.R_lt (by (with_reducible repeat (first | apply Kd.R_alloc | apply Kd.R_drewN | apply Kd.R_drew)); exact HO145.out))) (below_size (by repeat (first | (with_reducible first | exact HB.out | apply below_alloc | apply pw_below_drewN | apply below_drew1) | exact HB.out)))); have n2_ := Zz.mk (below_step (by repeat (first | (with_reducible first | exact HB.out | apply below_alloc | apply pw_below_drewN | apply below_drew1) | exact HB.out)) hb); clear HO145; clear HB; have HO145 := n0_; have HO149 := n1_; have HB := n2_; clear n0_ n1_ n2_; (try clear hb); (try clear hb2); (try clear hk); (try clear hi); (try clear ho0); obtain ⟨Ao57, co57, eo57⟩ := Kd.R_slice HO149.out; subst eo57))
                              go_ret2
                              exact ⟨by first | rfl | (simp [errW_none, errW_some] <;> rfl) | (simp [*, errW_none, errW_some] <;> rfl), by repeat (first | (with_reducible first | exact HB.out | apply below_alloc | apply pw_below_drewN | apply below_drew1) | exact HB.out)⟩
                          · replace c47 := Bool.eq_false_iff.mpr c47
                            subst c47
                            have H1 : (some (65533, 1)) = some (r1, r2) := by rw [if_neg (show ¬ (false = true) by decide)] at H; exact H
                            clear H
                            have H := H1
                            clear H1
                            simp only [Option.some.injEq, Prod.mk.injEq] at H
                            obtain ⟨rfl, rfl⟩ := H
                            go_wp2_with (first | (go_at_call 101; (with_reducible refine (souffleurref01_low.calls _ _ l0 3 t142 _ ?side1 ?side2 A43.out).mono ?_); (case side1 => repeat (first | exact (Kd.C_below HR0.out HB.out) | (with_reducible refine Kd.C_alloc ?_ _) | (with_reducible refine Kd.C_drewN ?_ _) | (with_reducible refine Kd.C_drew ?_))); (case side2 => exact HC0.out); rintro e w' ⟨rfl, ⟨nd, rfl⟩⟩) | (go_at_call 59; (with_reducible refine (souffleurref01_Bytes.calls kj24 (wrap64 ((wrap64 ((wrap64 ((wrap64 (262144 * (wrap64 ((wrap64 (rd l0 0)) - 240)))) + (wrap64 (4096 * t124)))) + (wrap64 (64 * t125)))) + t126)) t143 _ A45.out).mono ?_); rintro e w58 ⟨v144, rfl, ho0, hb⟩; have n0_ := Zz.mk (Kd.R_lower ho0 (below_size (by repeat (first | (with_reducible first | exact HB.out | apply below_alloc | apply pw_below_drewN | apply below_drew1) | exact HB.out)))); have n1_ := Zz.mk (below_step (by repeat (first | (with_reducible first | exact HB.out | apply below_alloc | apply pw_below_drewN | apply below_drew1) | exact HB.out)) hb); clear HB; have HO145 := n0_; have HB := n1_; clear n0_ n1_; (try clear hb); (try clear hb2); (try clear hk); (try clear hi); (try clear ho0); obtain ⟨Ao59, co59, eo59⟩ := Kd.R_slice HO145.out; subst eo59) | (go_at_call 102; (with_reducible refine (souffleurref01_begins.calls kj24 _ _ l0 _ _ t143 false _ ?side1 ?side2 ?side3 ?side4 A46.out).mono ?_); (case side1 => repeat (first | exact (Kd.C_below HR0.out HB.out) | (with_reducible refine Kd.C_alloc ?_ _) | (with_reducible refine Kd.C_drewN ?_ _) | (with_reducible refine Kd.C_drew ?_))); (case side2 => exact HC0.out); (case side3 => repeat (first | exact (Kd.R_reads' HO145.out).2.2 | (with_reducible refine Kd.C_alloc ?_ _) | (with_reducible refine Kd.C_drewN ?_ _) | (with_reducible refine Kd.C_drew ?_))); (case side4 => exact (Kd.R_reads' HO145.out).2.1); rintro e w' ⟨rfl, ⟨nd, rfl⟩⟩))
                            go_ret2
                            exact ⟨by first | rfl | (simp [errW_none, errW_some] <;> rfl) | (simp [*, errW_none, errW_some] <;> rfl), by repeat (first | (with_reducible first | exact HB.out | apply below_alloc | apply pw_below_drewN | apply below_drew1) | exact HB.out)⟩
                        · rw [if_neg c44] at H
                          have c44b0 : decide (0 ≤ t142) = false := decide_eq_false c44
                          clear c44
                          simp only [Option.some.injEq, Prod.mk.injEq] at H
                          obtain ⟨rfl, rfl⟩ := H
                          go_wp2_with (first | (go_at_call 101; (with_reducible refine (souffleurref01_low.calls _ _ l0 3 t142 _ ?side1 ?side2 A43.out).mono ?_); (case side1 => repeat (first | exact (Kd.C_below HR0.out HB.out) | (with_reducible refine Kd.C_alloc ?_ _) | (with_reducible refine Kd.C_drewN ?_ _) | (with_reducible refine Kd.C_drew ?_))); (case side2 => exact HC0.out); rintro e w' ⟨rfl, ⟨nd, rfl⟩⟩))
                          go_ret2
                          exact ⟨by first | rfl | (simp [errW_none, errW_some] <;> rfl) | (simp [*, errW_none, errW_some] <;> rfl), by repeat (first | (with_reducible first | exact HB.out | apply below_alloc | apply pw_below_drewN | apply below_drew1) | exact HB.out)⟩
                      · rw [if_neg c42] at H
                        have c42b0 : decide ((wrap64 (rd l0 0)) < 248) = false := decide_eq_false c42
                        clear c42
                        simp only [Option.some.injEq, Prod.mk.injEq] at H
                        obtain ⟨rfl, rfl⟩ := H
                        go_wp2
                        go_ret2
                        exact ⟨by first | rfl | (simp [errW_none, errW_some] <;> rfl) | (simp [*, errW_none, errW_some] <;> rfl), by repeat (first | (with_reducible first | exact HB.out | apply below_alloc | apply pw_below_drewN | apply below_drew1) | exact HB.out)⟩
                    · rw [if_neg c41] at H
                      have c41b0 : decide (240 ≤ (wrap64 (rd l0 0))) = false := decide_eq_false c41
                      clear c41
                      simp only [Option.some.injEq, Prod.mk.injEq] at H
                      obtain ⟨rfl, rfl⟩ := H
                      go_wp2
                      go_ret2
                      exact ⟨by first | rfl | (simp [errW_none, errW_some] <;> rfl) | (simp [*, errW_none, errW_some] <;> rfl), by repeat (first | (with_reducible first | exact HB.out | apply below_alloc | apply pw_below_drewN | apply below_drew1) | exact HB.out)⟩
    · rw [if_neg c3] at H
      exact absurd H (by simp)
def souffleurref01_Runes.l0 : Nat → List Int → List Int → Option (List Int)
  | 0, _, _ => none
  | k + 1, x0, x3 => if (x0.length : Int) > 0 then ((souffleurref01_Next.f k x0).bind fun bt150 => (if x3.length < 17592186044416 then (if 0 ≤ bt150.2 then (if bt150.2 ≤ (x0.length : Int) then (souffleurref01_Runes.l0 k (x0.drop (bt150.2 : Int).toNat) (x3 ++ [bt150.1])) else (none)) else (none)) else (none))) else (some x3)
def souffleurref01_Runes.f (k : Nat) (l0 : List Int) : Option (List Int) := souffleurref01_Runes.l0 k l0 ([] : List Int)
set_option maxHeartbeats 8000000 in
set_option maxRecDepth 100000 in
theorem souffleurref01_Runes.calls (k : Nat) (P0_ : Nat → Prop) (A0 : Option Addr) (c0 : Nat) (l0 : List Int) (r : List Int) (w : World) (hs0 : Kd.V (Kd.int .u8) 5 w w.heap.size (fun k_ => P0_ k_) (.slice A0 l0.length c0) l0) (h : souffleurref01_Runes.f k l0 = some r) :
    Calls Tryz.prog 57 #[.slice A0 l0.length c0] w fun e w' => ∃ v0_ : Value, e = .returned (v0_) ∧ Kd.R (Kd.int .i64) 3 w' w.heap.size (fun k_ => (w.heap.size ≤ k_)) v0_ r ∧ Below w.heap.size w w' := by
  have HO0 := Zz.mk (show Kd.V (Kd.int .u8) 5 w w.heap.size (fun k_ => (P0_ k_ ∨ w.heap.size ≤ k_)) (.slice A0 l0.length c0) l0 from Kd.V_mono hs0 (fun k_ hk => .inl hk))
  have HB := Zz.mk (Below.refl w.heap.size w)
  have H : (souffleurref01_Runes.l0 k l0 ([] : List Int)) = some r := h
  clear h
  have H' := Zz.mk H
  clear H
  go_enter Tryz.func57, Tryz.ntmps57
  go_wp2
  go_loopg [0, 3] k (fun kq v0 v3 w' => ∃ (x0_1 : List Int) (x3_1 : List Int), Zz (souffleurref01_Runes.l0 kq x0_1 x3_1 = some r) ∧ Zz (kq ≤ k) ∧ Zz (Kd.V (Kd.int .u8) 5 w' w.heap.size (fun k_ => (P0_ k_ ∨ w.heap.size ≤ k_) ∧ some k_ ≠ (v3 : Value).ownBlock) v0 x0_1) ∧ Zz (Kd.R (Kd.int .i64) 3 w' w.heap.size (fun k_ => (w.heap.size ≤ k_)) v3 x3_1) ∧ Zz (Below w.heap.size w w'))
  case atStart => exact ⟨(l0), (([] : List Int)), H', ⟨Nat.le_refl _⟩, ⟨by (with_reducible repeat (first | apply Kd.V_alloc | apply Kd.V_drewN | apply Kd.V_drew)); exact Kd.V_mono HO0.out (fun _ hk => ⟨hk, (by simp [Value.ownBlock])⟩)⟩, ⟨by first | exact Kd.R_nil _ _ _ _ _ | exact Kd.N_nil _ _ _ _ _ | exact Kd.V_nil _ _ _ _ _ | exact Kd.Q_nil _ _ _ _ _ | exact Kd.S_nil _ _ _ _ _⟩, ⟨by repeat (first | (with_reducible first | exact HB.out | apply below_alloc | apply pw_below_drewN | apply below_drew1) | exact HB.out)⟩⟩
  case round =>
    clear H'
    obtain ⟨x0_1, x3_1, HA, HK1, HO_0, HO_3, HB⟩ := hrel
    cases gk with
    | zero => exact absurd HA.out (by simp [souffleurref01_Runes.l0])
    | succ k1 =>
      have H := HA.out
      clear HA
      simp only [souffleurref01_Runes.l0] at H
      by_cases c2 : (x0_1.length : Int) > 0
      · rw [if_pos c2] at H
        have c2b0 : decide (0 < (x0_1.length : Int)) = true := decide_eq_true c2
        have c2b1 : decide (0 < x0_1.length) = true := decide_eq_true (by omega)
        clear c2
        replace H := Option.bind_eq_some_iff.mp H
        obtain ⟨⟨t150, t151⟩, A30, H⟩ := H
        replace H : (if x3_1.length < 17592186044416 then (if 0 ≤ t151 then (if t151 ≤ (x0_1.length : Int) then (souffleurref01_Runes.l0 k1 (x0_1.drop (t151 : Int).toNat) (x3_1 ++ [t150])) else (none)) else (none)) else (none)) = some r := H
        have A3 := Zz.mk A30
        clear A30
        by_cases c4 : x3_1.length < 17592186044416
        · rw [if_pos c4] at H
          have LMc4 := Zz.mk c4
          clear c4
          obtain ⟨y152, hy152⟩ : ∃ y_ : List Int, y_ = (x3_1 ++ [t150]) := ⟨_, rfl⟩
          replace H : (if 0 ≤ t151 then (if t151 ≤ (x0_1.length : Int) then (souffleurref01_Runes.l0 k1 (x0_1.drop (t151 : Int).toNat) y152) else (none)) else (none)) = some r := by first | (rw [hy152]; with_reducible exact H) | (have H2_ := (Option.bind_some _ _).symm.trans H; rw [hy152]; with_reducible exact H2_) | (have H2_ := (Option.bind_some _ _).symm.trans H; with_reducible exact H2_) | with_reducible exact H | (rw [hy152]; exact H) | exact H
          have Ny152 := Zz.mk hy152
          clear hy152
          by_cases c5 : 0 ≤ t151
          · rw [if_pos c5] at H
            have c5b0 := eq_true c5
            have c5b1 : decide (0 ≤ t151) = true := decide_eq_true c5
            clear c5
            by_cases c6 : t151 ≤ (x0_1.length : Int)
            · rw [if_pos c6] at H
              have c6b0 := eq_true c6
              have c6b1 : decide (t151 ≤ (x0_1.length : Int)) = true := decide_eq_true c6
              clear c6
              obtain ⟨y155, hy155⟩ : ∃ y_ : List Int, y_ = (x0_1.drop (t151 : Int).toNat) := ⟨_, rfl⟩
              replace H : (souffleurref01_Runes.l0 k1 y155 y152) = some r := by first | (rw [hy155]; with_reducible exact H) | (have H2_ := (Option.bind_some _ _).symm.trans H; rw [hy155]; with_reducible exact H2_) | (have H2_ := (Option.bind_some _ _).symm.trans H; with_reducible exact H2_) | with_reducible exact H | (rw [hy155]; exact H) | exact H
              have Ny155 := Zz.mk hy155
              clear hy155
              have H' := Zz.mk H
              clear H
              obtain ⟨Ao7, co7, eo7⟩ := Kd.V_slice HO_0.out
              subst eo7
              go_wp2_with (first | ((with_reducible refine gate_callee (f := 77) rfl ?_); refine goesL_ (some 11) rfl rfl Tryz.func77 (by kernel_rfl) rfl #[.slice Ao7 x0_1.length co7] rfl (by (try simp only [List.map_toArray, List.map_cons, List.map_nil]); first | done | rfl | (simp only [List.length_drop, List.length_take]; rfl)) ?_; (with_reducible refine (souffleurref01_Next.calls k1 _ _ x0_1 t150 t151 _ ?side1 ?side2 A3.out).mono ?_); (case side1 => repeat (first | exact (Kd.V_reads' HO_0.out).2.2 | (with_reducible refine Kd.C_alloc ?_ _) | (with_reducible refine Kd.C_drewN ?_ _) | (with_reducible refine Kd.C_drew ?_))); (case side2 => exact (Kd.V_reads' HO_0.out).2.1); rintro e w8 ⟨rfl, hb⟩; refine ⟨_, rfl, ?_⟩; have n0_ := Zz.mk (Kd.V_below (by (with_reducible repeat (first | apply Kd.V_alloc | apply Kd.V_drewN | apply Kd.V_drew)); exact HO_0.out) hb); have n1_ := Zz.mk (Kd.R_below (by (with_reducible repeat (first | apply Kd.R_alloc | apply Kd.R_drewN | apply Kd.R_drew)); exact HO_3.out) hb); have n2_ := Zz.mk (below_step (by repeat (first | (with_reducible first | exact HB.out | apply below_alloc | apply pw_below_drewN | apply below_drew1) | exact HB.out)) hb); clear HO_0; clear HO_3; clear HB; have HO_0 := n0_; have HO_3 := n1_; have HB := n2_; clear n0_ n1_ n2_; (try clear hb); (try clear hb2); (try clear hk); (try clear hi)) | ((with_reducible refine gate_builtin (b := .append) (xs := #[.tmp 14, .tmp 16]) rfl ?_); at_builtin; refine Kd.R_append (Kd.int .i64) (w0 := w) w.heap.size rfl (.tmp 14) (.tmp 16) 83 3 (.int .i64 0) 8 rfl Tryz.underlying83 info3 rfl (by decide) (by omega) u3 x3_1 t150 [.int .i64 t150] (fun k_ => (w.heap.size ≤ k_)) (fun _ => False) rfl rfl ?aP (fun _ hk => hk.elim) ?aF ?aO ?aB ?aS ?aL ?_; (case aP => exact rfl); (case aB => exact (by repeat (first | (with_reducible first | exact HB.out | apply below_alloc | apply pw_below_drewN | apply below_drew1) | exact HB.out))); (case aF => exact (fun k_ hk => (Nat.le_trans (below_size (by repeat (first | (with_reducible first | exact HB.out | apply below_alloc | apply pw_below_drewN | apply below_drew1) | exact HB.out))) hk))); (case aO => exact (by (with_reducible repeat (first | apply Kd.R_alloc | apply Kd.R_drewN | apply Kd.R_drew)); exact HO_3.out)); (case aS => exact (below_size (by repeat (first | (with_reducible first | exact HB.out | apply below_alloc | apply pw_below_drewN | apply below_drew1) | exact HB.out)))); (case aL => have := LMc4.out; omega); intro v153 w9 ho hb hg hat; rw [← Ny152.out] at ho; have n0_ := Zz.mk (Kd.V_afterv (ok := (fun k_ => (P0_ k_ ∨ w.heap.size ≤ k_))) (by (with_reducible repeat (first | apply Kd.V_alloc | apply Kd.V_drewN | apply Kd.V_drew)); exact HO_0.out) hg hat); have n1_ := Zz.mk (hb); have n2_ := Zz.mk (ho); clear HO_0; clear HB; clear HO_3; have HO_0 := n0_; have HB := n1_; have HO154 := n2_; clear n0_ n1_ n2_; clear ho hb hg hat; have q10 : (t151 : Int) ≤ ((x0_1.length : Int) : Int) := of_decide_eq_true (by first | (with_reducible assumption) | assumption); obtain ⟨i010, hi010, _, hsz10, _⟩ := info_parts info5; have hroom10 : x0_1.length ≤ co7 := (Kd.V_reads' HO_0.out).2.1; have hC10 : Kd.F (Kd.int .u8) _ _ Ao7 x0_1.length x0_1 := (Kd.V_at (base := w.heap.size) HO_0.out).2.2; have q010 : (0 : Int) ≤ (t151 : Int) := of_decide_eq_true (by first | (with_reducible assumption) | assumption); have hcut10 := cut_from (P := Tryz.prog) 95 5 .i64 Tryz.underlying95 hi010 1 hsz10 Ao7 x0_1.length co7 t151 q010 q10; have hr10 := Kd.F_cut (m := (t151 : Int).toNat) (c := co7) hC10 (by omega) hroom10; obtain ⟨A10, hA10⟩ : ∃ A1, A1 = (if co7 = (t151 : Int).toNat then Ao7 else (Ao7 : Option Addr).map (·.add ((t151 : Int).toNat * 1))) := ⟨_, rfl⟩; obtain ⟨c10, hc10⟩ : ∃ c1, c1 = co7 - (t151 : Int).toNat := ⟨_, rfl⟩; have hy10 : y155.length = x0_1.length - (t151 : Int).toNat := (by rw [Ny155.out, List.length_drop] <;> omega); rw [show (x0_1).drop (t151 : Int).toNat = y155 from Ny155.out.symm] at hr10; replace hr10 : Kd.F (Kd.int .u8) _ _ A10 y155.length y155 := (by rw [hA10]; exact hr10); rw [← hy10, ← hA10, ← hc10] at hcut10; have HO159 := Zz.mk (show Kd.V (Kd.int .u8) 5 _ w.heap.size _ (.slice A10 y155.length c10) y155 from Kd.V_mk (by rw [hy10, hc10]; exact Nat.sub_le_sub_right hroom10 _) hr10); have HC159 := Zz.mk (show y155.length ≤ c10 from by rw [hy10, hc10]; exact Nat.sub_le_sub_right hroom10 _); clear hr10 hC10 hroom10 hi010 hsz10 hc10; have KY10 := Zz.mk hy10; have KA10 := Zz.mk hA10; clear hy10 hA10; replace q10 := eq_true q10))
              go_roundg k1
              case measure => have := HK1.out; omega
              case rel => exact ⟨(y155), (y152), H', ⟨by have := HK1.out; omega⟩, ⟨by (with_reducible repeat (first | apply Kd.V_alloc | apply Kd.V_drewN | apply Kd.V_drew)); exact HO159.out⟩, ⟨by (with_reducible repeat (first | apply Kd.R_alloc | apply Kd.R_drewN | apply Kd.R_drew)); exact HO154.out⟩, ⟨by repeat (first | (with_reducible first | exact HB.out | apply below_alloc | apply pw_below_drewN | apply below_drew1) | exact HB.out)⟩⟩
            · rw [if_neg c6] at H
              exact absurd H (by simp)
          · rw [if_neg c5] at H
            exact absurd H (by simp)
        · rw [if_neg c4] at H
          exact absurd H (by simp)
      · rw [if_neg c2] at H
        have c2b0 : decide (0 < (x0_1.length : Int)) = false := decide_eq_false c2
        have c2b1 : decide (0 < x0_1.length) = false := decide_eq_false (by omega)
        clear c2
        obtain rfl := Option.some.inj H
        obtain ⟨Ao11, co11, eo11⟩ := Kd.V_slice HO_0.out
        subst eo11
        go_wp2
        go_ret
        exact ⟨_, by first | rfl | (simp [errW_none, errW_some] <;> rfl) | (simp [*, errW_none, errW_some] <;> rfl), by (with_reducible repeat (first | apply Kd.R_alloc | apply Kd.R_drewN | apply Kd.R_drew)); exact HO_3.out, by repeat (first | (with_reducible first | exact HB.out | apply below_alloc | apply pw_below_drewN | apply below_drew1) | exact HB.out)⟩
def souffleurref02_Control.f (a0 : Int) : Option (Bool) := if a0 ≤ 31 then (some true) else (if a0 ≥ 127 then (some (decide (a0 ≤ 159))) else (some false))
set_option maxHeartbeats 8000000 in
set_option maxRecDepth 100000 in
theorem souffleurref02_Control.calls (a0 : Int) (r : Bool) (w : World) (h : souffleurref02_Control.f a0 = some r) :
    Calls Tryz.prog 58 #[.int .i64 a0] w fun e w' => e = .returned (.bool r) ∧ Drawn0 w w' := by
  have H : (if a0 ≤ 31 then (some true) else (if a0 ≥ 127 then (some (decide (a0 ≤ 159))) else (some false))) = some r := h
  clear h
  by_cases c2 : a0 ≤ 31
  · rw [if_pos c2] at H
    have c2b0 : decide (a0 ≤ 31) = true := decide_eq_true c2
    clear c2
    obtain rfl := Option.some.inj H
    go_enter Tryz.func58, Tryz.ntmps58
    go_wp2
    go_ret
    exact ⟨by first | rfl | (simp; done) | (simp [*]; done), by repeat (first | exact Drawn0.refl _ | apply Drawn0.step)⟩
  · rw [if_neg c2] at H
    have c2b0 : decide (a0 ≤ 31) = false := decide_eq_false c2
    clear c2
    by_cases c3 : a0 ≥ 127
    · rw [if_pos c3] at H
      have c3b0 : decide (127 ≤ a0) = true := decide_eq_true c3
      clear c3
      obtain rfl := Option.some.inj H
      go_enter Tryz.func58, Tryz.ntmps58
      go_wp2
      go_ret
      exact ⟨by first | rfl | (simp; done) | (simp [*]; done), by repeat (first | exact Drawn0.refl _ | apply Drawn0.step)⟩
    · rw [if_neg c3] at H
      have c3b0 : decide (127 ≤ a0) = false := decide_eq_false c3
      clear c3
      obtain rfl := Option.some.inj H
      go_enter Tryz.func58, Tryz.ntmps58
      go_wp2
      go_ret
      exact ⟨by first | rfl | (simp; done) | (simp [*]; done), by repeat (first | exact Drawn0.refl _ | apply Drawn0.step)⟩
def souffleurref02_between.f (a0 : Int) (a1 : Int) (a2 : Int) : Option (Bool) := if a0 ≥ a1 then (some (decide (a0 ≤ a2))) else (some false)
set_option maxHeartbeats 8000000 in
set_option maxRecDepth 100000 in
theorem souffleurref02_between.calls (a0 : Int) (a1 : Int) (a2 : Int) (r : Bool) (w : World) (h : souffleurref02_between.f a0 a1 a2 = some r) :
    Calls Tryz.prog 119 #[.int .i64 a0, .int .i64 a1, .int .i64 a2] w fun e w' => e = .returned (.bool r) ∧ Drawn0 w w' := by
  have H : (if a0 ≥ a1 then (some (decide (a0 ≤ a2))) else (some false)) = some r := h
  clear h
  by_cases c4 : a0 ≥ a1
  · rw [if_pos c4] at H
    have c4b0 : decide (a1 ≤ a0) = true := decide_eq_true c4
    clear c4
    obtain rfl := Option.some.inj H
    go_enter Tryz.func119, Tryz.ntmps119
    go_wp2
    go_ret
    exact ⟨by first | rfl | (simp; done) | (simp [*]; done), by repeat (first | exact Drawn0.refl _ | apply Drawn0.step)⟩
  · rw [if_neg c4] at H
    have c4b0 : decide (a1 ≤ a0) = false := decide_eq_false c4
    clear c4
    obtain rfl := Option.some.inj H
    go_enter Tryz.func119, Tryz.ntmps119
    go_wp2
    go_ret
    exact ⟨by first | rfl | (simp; done) | (simp [*]; done), by repeat (first | exact Drawn0.refl _ | apply Drawn0.step)⟩
end Go.Proofs.YtbhiljaipikklaaGreatDoor.R

