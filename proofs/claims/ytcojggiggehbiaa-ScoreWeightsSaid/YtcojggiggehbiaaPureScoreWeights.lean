/- The plain law of ScoreWeights: how much an age counts is what the document says, and older does not count more. No conditions. -/
import Derived.Test.YtcojggiggehbiaaPx5
import Derived.Test.YtcojggiggehbiaaScoreA
import Derived.OpenShut
namespace Go.Proofs.Ytcojggiggehbiaa.Pure
open Go.RowKit Go.Proofs.Ytcojggiggehbiaa.P Go.Proofs.YtcojggiggehbiaaW.PrintWords Go.Proofs.YtcojggiggehbiaaW.PrintLast

theorem ScoreWeights : souffleurlaw14_ScoreWeights.Pure := by
  intro a hw
  refine ⟨20, ?_⟩
  unfold souffleurlaw14_ScoreWeights.f
  rw [alive_true]
  simp only [Option.bind_some, if_true, weight_wt, refWeight_wt]
  by_cases e : a = 9223372036854775807
  · rw [if_pos e]
  · rw [if_neg e]
    have hr : -9223372036854775808 ≤ a ∧ a ≤ 9223372036854775807 := by
      exact bounds_i64 hw
    rw [wrap64_id (by omega) (by omega)]
    have := wt_mono (show a ≤ a + 1 by omega)
    simp [this]

end Go.Proofs.Ytcojggiggehbiaa.Pure
