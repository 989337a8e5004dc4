/-
  No cell of these rows narrows 'for every input' (looked for: loops, veiled, ifaces, maps, wideKeys, modest, calm, conditions, laid).
  DERIVED. THE GIVEN ROWS OF THIS SEAT. 5 by the template 'for every input the law returns true; each argument reads behind the call as it read before'; 0 by the template 'total and deterministic' (their statements: YtcojggiggehbiaaTotals.lean).
  GIVEN WITH THE SEED: the statements are not yours to turn. If you find one false, say at which input.
  Laid BY PROGRAM, IN A SANDBOX (cutbox-rows.mjs): the forced cells as the released guide's own fill.sh prints them over the translation d568c296e488158b… (all of the seat's roots in one cut). By AI agents, Wed Nov 11 2026. No macro, syntax, notation, axiom, sorry.
-/
import Derived.Test.YtcojggiggehbiaaChecked
import GoSem.Claim
import GoSem.ClaimJoined
import GoSem.ClaimMapViews
import Derived.JoinedTies
import Derived.KernelRfl
namespace Go.Proofs.Ytcojggiggehbiaa
/- THE CELL 'sum', in the pinned program and in every row, IS THE sha256 OF THE DUMP (.gsa) THAT YtcojggiggehbiaaProg.lean LOADS. Nothing in Lean hashes anything: it is a label: what it is worth is what the hold of that sum in a sandbox is worth. -/
noncomputable def Try.pinned : Pinned := { name := "ytcojggiggehbiaa", sum := "d568c296e488158b957156dd71f0914f5b112211d78fd7672356a74fa17f446b", checked := Try.checked }
namespace Rows
def none {H : Type} : Left H := { results := [], args := [] }

/-- 'souffleurlaw14.ScoreOf': WHATEVER THE INPUT: true; the input reads as it did. -/
def scoreOfSpec : ChangeSpec := { name := "scoreOf", fn := fun _ => fun
  | [d1, d2, d3] => { results := [.lit (.bool true)], args := [d1, d2, d3] }
  | _ => none }
def scoreOfRow : OpenClaim := { program := "ytcojggiggehbiaa", sum := "d568c296e488158b957156dd71f0914f5b112211d78fd7672356a74fa17f446b", func := "souffleur/souffleurlaw14.ScoreOf", spec := "scoreOf", apart := false }
def ScoreOfSaid : Prop := scoreOfRow.holds Try.pinned (OpenSpec.ofChange scoreOfSpec)

/-- ITS FALSE NEIGHBOUR: 'it returns false'. Refute it at one input. -/
def scoreOfWrong : ChangeSpec := { name := "scoreOf", fn := fun _ => fun
  | [d1, d2, d3] => { results := [.lit (.bool false)], args := [d1, d2, d3] }
  | _ => none }
def ScoreOfWrongFalsely : Prop := scoreOfRow.holds Try.pinned (OpenSpec.ofChange scoreOfWrong)

/-- 'souffleurlaw14.ScoreWeights': WHATEVER THE INPUT: true; the input reads as it did. -/
def scoreWeightsSpec : ChangeSpec := { name := "scoreWeights", fn := fun _ => fun
  | [d] => { results := [.lit (.bool true)], args := [d] }
  | _ => none }
def scoreWeightsRow : OpenClaim := { program := "ytcojggiggehbiaa", sum := "d568c296e488158b957156dd71f0914f5b112211d78fd7672356a74fa17f446b", func := "souffleur/souffleurlaw14.ScoreWeights", spec := "scoreWeights", apart := false }
def ScoreWeightsSaid : Prop := scoreWeightsRow.holds Try.pinned (OpenSpec.ofChange scoreWeightsSpec)

/-- ITS FALSE NEIGHBOUR: 'it returns false'. Refute it at one input. -/
def scoreWeightsWrong : ChangeSpec := { name := "scoreWeights", fn := fun _ => fun
  | [d] => { results := [.lit (.bool false)], args := [d] }
  | _ => none }
def ScoreWeightsWrongFalsely : Prop := scoreWeightsRow.holds Try.pinned (OpenSpec.ofChange scoreWeightsWrong)

/-- 'souffleurlaw14.ScoreBetter': WHATEVER THE INPUT: true; the input reads as it did. -/
def scoreBetterSpec : ChangeSpec := { name := "scoreBetter", fn := fun _ => fun
  | [d1, d2] => { results := [.lit (.bool true)], args := [d1, d2] }
  | _ => none }
def scoreBetterRow : OpenClaim := { program := "ytcojggiggehbiaa", sum := "d568c296e488158b957156dd71f0914f5b112211d78fd7672356a74fa17f446b", func := "souffleur/souffleurlaw14.ScoreBetter", spec := "scoreBetter", apart := false }
def ScoreBetterSaid : Prop := scoreBetterRow.holds Try.pinned (OpenSpec.ofChange scoreBetterSpec)

/-- ITS FALSE NEIGHBOUR: 'it returns false'. Refute it at one input. -/
def scoreBetterWrong : ChangeSpec := { name := "scoreBetter", fn := fun _ => fun
  | [d1, d2] => { results := [.lit (.bool false)], args := [d1, d2] }
  | _ => none }
def ScoreBetterWrongFalsely : Prop := scoreBetterRow.holds Try.pinned (OpenSpec.ofChange scoreBetterWrong)

/-- 'souffleurlaw14.ScoreFirst': WHATEVER THE INPUT: true; the input reads as it did. -/
def scoreFirstSpec : ChangeSpec := { name := "scoreFirst", fn := fun _ => fun
  | [d1, d2] => { results := [.lit (.bool true)], args := [d1, d2] }
  | _ => none }
def scoreFirstRow : OpenClaim := { program := "ytcojggiggehbiaa", sum := "d568c296e488158b957156dd71f0914f5b112211d78fd7672356a74fa17f446b", func := "souffleur/souffleurlaw14.ScoreFirst", spec := "scoreFirst", apart := false }
def ScoreFirstSaid : Prop := scoreFirstRow.holds Try.pinned (OpenSpec.ofChange scoreFirstSpec)

/-- ITS FALSE NEIGHBOUR: 'it returns false'. Refute it at one input. -/
def scoreFirstWrong : ChangeSpec := { name := "scoreFirst", fn := fun _ => fun
  | [d1, d2] => { results := [.lit (.bool false)], args := [d1, d2] }
  | _ => none }
def ScoreFirstWrongFalsely : Prop := scoreFirstRow.holds Try.pinned (OpenSpec.ofChange scoreFirstWrong)

/-- 'souffleurlaw14.ScoreMost': WHATEVER THE INPUT: true; the input reads as it did. -/
def scoreMostSpec : ChangeSpec := { name := "scoreMost", fn := fun _ => fun
  | [d1, d2] => { results := [.lit (.bool true)], args := [d1, d2] }
  | _ => none }
def scoreMostRow : OpenClaim := { program := "ytcojggiggehbiaa", sum := "d568c296e488158b957156dd71f0914f5b112211d78fd7672356a74fa17f446b", func := "souffleur/souffleurlaw14.ScoreMost", spec := "scoreMost", apart := false }
def ScoreMostSaid : Prop := scoreMostRow.holds Try.pinned (OpenSpec.ofChange scoreMostSpec)

/-- ITS FALSE NEIGHBOUR: 'it returns false'. Refute it at one input. -/
def scoreMostWrong : ChangeSpec := { name := "scoreMost", fn := fun _ => fun
  | [d1, d2] => { results := [.lit (.bool false)], args := [d1, d2] }
  | _ => none }
def ScoreMostWrongFalsely : Prop := scoreMostRow.holds Try.pinned (OpenSpec.ofChange scoreMostWrong)

/- THE SECOND FORM. 'bulk': how many values and letters a reading holds, each counted each time it is reached (what is shared counts as often as it is met; a slice's spare places count too). A statement '..UptoSaid' is the law's where the arguments, and the package variables that the reading takes, are together of bulk at most 1048576: NARROWER than '..Said'. Prove '..Said' where nothing that the law and all that it calls make is longer than what came in: it says more and counts as full. Else prove '..UptoSaid'. A law counts once. -/
mutual
def uptoBulk {H : Type} : DataW H → Nat
  | .lit (.string bytes) => bytes.length + 1
  | .lit _ => 1
  | .nil => 1
  | .ptr d => uptoBulk d + 1
  | .slice elems spare => uptoBulkAll elems + uptoBulkAll spare + 1
  | .agg parts => uptoBulkAll parts + 1
  | .iface _ d => uptoBulk d + 1
  | .map entries => uptoBulkEntries entries + 1
  | .held _ => 1
def uptoBulkAll {H : Type} : List (DataW H) → Nat
  | [] => 0
  | d :: r => uptoBulk d + uptoBulkAll r
def uptoBulkEntries {H : Type} : List (Lit × DataW H) → Nat
  | [] => 0
  | x :: r => uptoBulkEntry x + uptoBulkEntries r
def uptoBulkEntry {H : Type} : Lit × DataW H → Nat
  | (.string bytes, d) => bytes.length + uptoBulk d + 1
  | (_, d) => uptoBulk d + 1
 end
def uptoSmall : (H : Type) → List (DataW H) → Bool := fun _ ds => decide (uptoBulkAll ds ≤ 1048576)
def OpenSpec.upto (s : _root_.Go.ChangeSpec) : _root_.Go.OpenSpec := { _root_.Go.OpenSpec.ofChange s with cond := some uptoSmall }

/-- 'souffleurlaw14.ScoreOf', WHERE WHAT IT READS IS OF BULK AT MOST 1048576: true; the input reads as it did. -/
def scoreOfUptoRow : OpenClaim := { program := "ytcojggiggehbiaa", sum := "d568c296e488158b957156dd71f0914f5b112211d78fd7672356a74fa17f446b", func := "souffleur/souffleurlaw14.ScoreOf", spec := "scoreOf", apart := false, narrowed := true }
def ScoreOfUptoSaid : Prop := scoreOfUptoRow.holds Try.pinned (OpenSpec.upto scoreOfSpec)

/-- 'souffleurlaw14.ScoreWeights', WHERE WHAT IT READS IS OF BULK AT MOST 1048576: true; the input reads as it did. -/
def scoreWeightsUptoRow : OpenClaim := { program := "ytcojggiggehbiaa", sum := "d568c296e488158b957156dd71f0914f5b112211d78fd7672356a74fa17f446b", func := "souffleur/souffleurlaw14.ScoreWeights", spec := "scoreWeights", apart := false, narrowed := true }
def ScoreWeightsUptoSaid : Prop := scoreWeightsUptoRow.holds Try.pinned (OpenSpec.upto scoreWeightsSpec)

/-- 'souffleurlaw14.ScoreBetter', WHERE WHAT IT READS IS OF BULK AT MOST 1048576: true; the input reads as it did. -/
def scoreBetterUptoRow : OpenClaim := { program := "ytcojggiggehbiaa", sum := "d568c296e488158b957156dd71f0914f5b112211d78fd7672356a74fa17f446b", func := "souffleur/souffleurlaw14.ScoreBetter", spec := "scoreBetter", apart := false, narrowed := true }
def ScoreBetterUptoSaid : Prop := scoreBetterUptoRow.holds Try.pinned (OpenSpec.upto scoreBetterSpec)

/-- 'souffleurlaw14.ScoreFirst', WHERE WHAT IT READS IS OF BULK AT MOST 1048576: true; the input reads as it did. -/
def scoreFirstUptoRow : OpenClaim := { program := "ytcojggiggehbiaa", sum := "d568c296e488158b957156dd71f0914f5b112211d78fd7672356a74fa17f446b", func := "souffleur/souffleurlaw14.ScoreFirst", spec := "scoreFirst", apart := false, narrowed := true }
def ScoreFirstUptoSaid : Prop := scoreFirstUptoRow.holds Try.pinned (OpenSpec.upto scoreFirstSpec)

/-- 'souffleurlaw14.ScoreMost', WHERE WHAT IT READS IS OF BULK AT MOST 1048576: true; the input reads as it did. -/
def scoreMostUptoRow : OpenClaim := { program := "ytcojggiggehbiaa", sum := "d568c296e488158b957156dd71f0914f5b112211d78fd7672356a74fa17f446b", func := "souffleur/souffleurlaw14.ScoreMost", spec := "scoreMost", apart := false, narrowed := true }
def ScoreMostUptoSaid : Prop := scoreMostUptoRow.holds Try.pinned (OpenSpec.upto scoreMostSpec)

end Rows
end Go.Proofs.Ytcojggiggehbiaa
