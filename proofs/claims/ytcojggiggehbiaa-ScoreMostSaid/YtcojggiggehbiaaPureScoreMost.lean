/- The plain law of ScoreMost: so many uses that are just now, and here, reach the greatest score. No conditions. -/
import Derived.Test.YtcojggiggehbiaaPx7
import Derived.Test.YtcojggiggehbiaaScoreA
namespace Go.Proofs.Ytcojggiggehbiaa.Pure
open Go.RowKit Go.Proofs.Ytcojggiggehbiaa.P Go.Proofs.YtcojggiggehbiaaW.PrintWords Go.Proofs.YtcojggiggehbiaaW.PrintLast

def just (now : Int) : S47 := ⟨now, ⟨#[47]⟩⟩

theorem total_just (now : Int) (n : Nat) : total now ⟨#[47]⟩ (List.replicate n (just now)) = 125 * n := by
  induction n with
  | zero => rfl
  | succ n ih =>
    rw [List.replicate_succ]
    simp only [total, ih]
    simp [uw, just, wt]
    omega

theorem most_from (a0 now : Int) (h0 : a0 ≤ 100) (hn : 0 ≤ now) (hn' : now ≤ 1099511627776) (d : Nat) :
    ∀ i : Nat, i + d = (mx a0 0).toNat → Ev (fun k => souffleurlaw14_ScoreMost.l0 k a0 now (List.replicate i (just now)) (mx a0 0) (i : Int)) true := by
  have hm : 0 ≤ mx a0 0 ∧ mx a0 0 ≤ 100 ∧ (a0 ≤ 0 → mx a0 0 = 0) ∧ (0 ≤ a0 → mx a0 0 = a0) := by unfold mx; split <;> omega
  induction d with
  | zero =>
    intro i hi
    have hof := of_ev now ⟨#[47]⟩ hn hn' (List.replicate i (just now)) (by simp; omega) (fun u hu => by
      rw [List.eq_of_mem_replicate hu]
      exact ⟨hn, hn'⟩)
    refine Ev.step (f := fun k => (souffleurlaw14_alive.f k).bind fun t228 => (if t228 = true then ((score_Of.f k (List.replicate i (just now)) now (⟨#[47]⟩ : ByteArray)).bind fun t229 => ((score_Most.f a0).bind fun t230 => (if t229 = t230 then ((score_Most.f a0).bind fun t231 => (some (decide (t231 ≤ 1000)))) else (some false)))) else (some false))) (fun k => ?_) ?_
    · simp only [souffleurlaw14_ScoreMost.l0]
      rw [if_neg (by omega)]
    · refine Ev.bind alive_ev ?_
      simp only [if_true]
      refine Ev.bind (f := fun k t229 => (score_Most.f a0).bind fun t230 => (if t229 = t230 then ((score_Most.f a0).bind fun t231 => (some (decide (t231 ≤ 1000)))) else (some false))) hof ?_
      refine Ev.congr (f := fun _ => some true) (fun k => ?_) (Ev.now _)
      rw [total_just]
      unfold score_Most.f
      simp only [Option.bind_some]
      rw [if_pos]
      · simp
        repeat' split
        all_goals omega
      · unfold mn
        repeat' split
        all_goals omega
  | succ d ih =>
    intro i hi
    refine Ev.step (f := fun k => souffleurlaw14_ScoreMost.l0 k a0 now (List.replicate (i + 1) (just now)) (mx a0 0) ((i + 1 : Nat) : Int)) (fun k => ?_) (ih (i + 1) (by omega))
    simp only [souffleurlaw14_ScoreMost.l0]
    rw [if_pos (by omega), if_pos (by simp; omega), wrap64_id (by omega) (by omega), List.replicate_succ']
    rfl

theorem ScoreMost : souffleurlaw14_ScoreMost.Pure := by
  intro a0 a1 _ _
  have alive_j : ∀ a0 a1, Ev (fun k => souffleurlaw14_ScoreMost.j0 k a0 a1 true) true := fun a0 a1 => by
    refine Ev.step (f := fun k => (souffleurlaw14_alive.f k).bind fun t224 => (some t224)) (fun k => ?_) ?_
    · simp only [souffleurlaw14_ScoreMost.j0, if_true]
    · exact Ev.bind alive_ev (Ev.now _)
  unfold souffleurlaw14_ScoreMost.f
  by_cases h1 : a0 > 100
  · simp only [if_pos h1]
    exact (alive_j _ _).rounds
  simp only [if_neg h1]
  by_cases h2 : a1 < 0
  · simp only [if_pos h2]
    exact (alive_j _ _).rounds
  simp only [if_neg h2]
  by_cases h3 : a1 > 1099511627776
  · simp only [h3, decide_true]
    exact (alive_j _ _).rounds
  · simp only [h3, decide_false]
    have hm : 0 ≤ mx a0 0 := by unfold mx; split <;> omega
    have := most_from a0 a1 (by omega) (by omega) (by omega) (mx a0 0).toNat 0 (by omega)
    refine (Ev.step (f := fun k => souffleurlaw14_ScoreMost.l0 k a0 a1 [] (mx a0 0) 0) (fun k => ?_) this).rounds
    simp only [souffleurlaw14_ScoreMost.j0]
    rw [if_neg (by decide)]

end Go.Proofs.Ytcojggiggehbiaa.Pure
