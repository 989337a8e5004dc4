/- Parts of the proof of the law that the last file states; declarations that nothing mentions are left out by a program. No conditions. -/
import Derived.Test.YtcpkoajnepijkaaAlive1k
namespace Go.Proofs.Ytcpkoajnepijkaa
set_option linter.unusedVariables false
set_option linter.unusedSimpArgs false
open Go.RowKit Go.Proofs.YtcpkoajnepijkaaL
def hrow (n at_ : Nat) : List (List Int) → List PP
  | [] => []
  | b :: r => ⟨n, at_, b⟩ :: hrow (n + 1) (at_ + b.length) r
def hstep (keep : List Bool) (n at_ : Nat) (w b : List Int) : List Int := if keptAt keep n = true ∧ 0 < b.length then (w ++ List.replicate (at_ - w.length) 0) ++ b else w
end Go.Proofs.Ytcpkoajnepijkaa

