/- By hand: what the calls of Weight and Most come to. No conditions. -/
import Derived.Test.YtcojggiggehbiaaProg
import Derived.WalkKit
import Derived.KernelRfl
import Derived.Handy
namespace Go.Proofs.Ytcojggiggehbiaa
open Go.RowKit

def bks : Value := .agg #[.int .i64 4, .int .i64 100, .int .i64 16, .int .i64 70, .int .i64 64, .int .i64 50, .int .i64 256, .int .i64 30]

theorem buckets_calls (w : World) : Calls Try.prog 21 #[] w fun e w' => e = .returned bks ∧ Below w.heap.size w w' := by
  go_enter Try.func21, Try.ntmps21
  go_wp2
  refine bodyPost_ret (v := bks) ?_ rfl ⟨rfl, ?_⟩
  · simp [results, Try.results21, go_sem, bks]
  · exact (Below.refl _ _).alloc (Nat.le_refl _) _

theorem ix0 : ∀ w, (Instr.index 51 bks (.int .i64 0)).run Try.prog w = .ok (.agg #[.int .i64 4, .int .i64 100]) w := fun _ => by kernel_rfl
theorem ix1 : ∀ w, (Instr.index 51 bks (.int .i64 1)).run Try.prog w = .ok (.agg #[.int .i64 16, .int .i64 70]) w := fun _ => by kernel_rfl
theorem ix2 : ∀ w, (Instr.index 51 bks (.int .i64 2)).run Try.prog w = .ok (.agg #[.int .i64 64, .int .i64 50]) w := fun _ => by kernel_rfl
theorem ix3 : ∀ w, (Instr.index 51 bks (.int .i64 3)).run Try.prog w = .ok (.agg #[.int .i64 256, .int .i64 30]) w := fun _ => by kernel_rfl
theorem ix01 : ∀ w, (Instr.index 50 (.agg #[.int .i64 4, .int .i64 100]) (.int .i64 1)).run Try.prog w = .ok (.int .i64 100) w := fun _ => by kernel_rfl

def score_Weight.f (a0 : Int) : Option Int := if a0 < 4 then some 100 else if a0 < 16 then some 70 else if a0 < 64 then some 50 else if a0 < 256 then some 30 else some 10

theorem ret_int {k : IntKind} {a b : Int} (h : a = b) : Ending.returned (.int k a) = .returned (.int k b) := by rw [h]

theorem score_Weight.calls (a0 : Int) (r : Int) (w : World) (h : score_Weight.f a0 = some r) :
    Calls Try.prog 15 #[.int .i64 a0] w fun e w' => e = .returned (.int .i64 r) ∧ Below w.heap.size w w' := by
  have i0 := ix0
  have i1 := ix1
  have i2 := ix2
  have i3 := ix3
  unfold score_Weight.f at h
  by_cases h1 : a0 < 4
  · rw [if_pos h1] at h
    injection h with h
    subst h
    go_enter Try.func15, Try.ntmps15
    go_wp2_with (refine (buckets_calls _).mono ?_; rintro e w1 ⟨rfl, hb⟩)
    go_rounds 1
    go_ret
    exact ⟨rfl, hb.alloc hb.size _⟩
  rw [if_neg h1] at h
  by_cases h2 : a0 < 16
  · rw [if_pos h2] at h
    injection h with h
    subst h
    go_enter Try.func15, Try.ntmps15
    go_wp2_with (refine (buckets_calls _).mono ?_; rintro e w1 ⟨rfl, hb⟩)
    go_rounds 2
    go_ret
    refine ⟨rfl, ?_⟩
    repeat (first | exact hb | refine Below.alloc ?_ (by have := hb.size; simp; try omega) _)
  rw [if_neg h2] at h
  by_cases h3 : a0 < 64
  · rw [if_pos h3] at h
    injection h with h
    subst h
    go_enter Try.func15, Try.ntmps15
    go_wp2_with (refine (buckets_calls _).mono ?_; rintro e w1 ⟨rfl, hb⟩)
    go_rounds 3
    go_ret
    refine ⟨rfl, ?_⟩
    repeat (first | exact hb | refine Below.alloc ?_ (by have := hb.size; simp; try omega) _)
  rw [if_neg h3] at h
  by_cases h4 : a0 < 256
  · rw [if_pos h4] at h
    injection h with h
    subst h
    go_enter Try.func15, Try.ntmps15
    go_wp2_with (refine (buckets_calls _).mono ?_; rintro e w1 ⟨rfl, hb⟩)
    go_rounds 4
    go_ret
    refine ⟨rfl, ?_⟩
    repeat (first | exact hb | refine Below.alloc ?_ (by have := hb.size; simp; try omega) _)
  · rw [if_neg h4] at h
    injection h with h
    subst h
    go_enter Try.func15, Try.ntmps15
    go_wp2_with (refine (buckets_calls _).mono ?_; rintro e w1 ⟨rfl, hb⟩)
    go_rounds 5
    go_ret
    refine ⟨rfl, ?_⟩
    repeat (first | exact hb | refine Below.alloc ?_ (by have := hb.size; simp; try omega) _)

def score_Most.f (a0 : Int) : Option Int := some (if a0 < 0 then 0 else if 1000 < a0 then 1000 else if 8 ≤ a0 then 1000 else 125 * a0)

theorem score_Most.calls (a0 : Int) (r : Int) (w : World) (h : score_Most.f a0 = some r) :
    Calls Try.prog 14 #[.int .i64 a0] w fun e w' => e = .returned (.int .i64 r) ∧ Below w.heap.size w w' := by
  have i0 := ix0
  have i1 := ix01
  injection h with hM
  go_enter Try.func14, Try.ntmps14
  go_wp2_with (refine (buckets_calls _).mono ?_; rintro e w1 ⟨rfl, hb⟩)
  all_goals
    go_ret
    refine ⟨ret_int ?_, hb⟩
    (repeat' split at hM) <;> (repeat' split at *) <;> omega

end Go.Proofs.Ytcojggiggehbiaa
