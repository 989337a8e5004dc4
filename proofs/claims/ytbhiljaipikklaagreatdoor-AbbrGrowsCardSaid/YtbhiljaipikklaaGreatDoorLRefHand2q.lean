/- Parts of the proof of the law that the last file states; declarations that nothing mentions are left out by a program. No conditions. -/
import Derived.Test.YtbhiljaipikklaaGreatDoorLRefCutq
set_option linter.unusedVariables false
set_option linter.unusedSimpArgs false
namespace Go.Proofs.YtbhiljaipikklaaGreatDoor
open Go Go.RowKit Go.Proofs.YtbhiljaipikklaaGreatDoorL Go.Proofs.YtbhiljaipikklaaGreatDoorW.PrintWords
def souffleurref02_Cut.f (a0 : ByteArray) : Option (List ByteArray) := if a0.size ≤ 1000000 then some (cutR (a0.size + 1) [] a0) else none
theorem souffleurref02_Cut.calls (a0 : ByteArray) (r : List ByteArray) (w : World) (h : souffleurref02_Cut.f a0 = some r) :
    Calls Tryz.prog 93 #[.string a0] w fun e w' => ∃ v0_ : Value, e = .returned (v0_) ∧ Kd.R Kd.string 9 w' w.heap.size (fun _ => True) v0_ r ∧ Below w.heap.size w w' := by
  unfold souffleurref02_Cut.f at h
  split at h
  · injection h with h
    subst h
    exact rcut_calls a0 (by assumption) w
  · cases h
end Go.Proofs.YtbhiljaipikklaaGreatDoor

