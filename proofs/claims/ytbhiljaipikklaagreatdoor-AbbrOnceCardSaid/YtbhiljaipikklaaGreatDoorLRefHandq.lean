/- Parts of the proof of the law that the last file states; declarations that nothing mentions are left out by a program. No conditions. -/
import Derived.Test.YtbhiljaipikklaaGreatDoorLRefPlain2q
set_option linter.unusedVariables false
set_option linter.unusedSimpArgs false
namespace Go.Proofs.YtbhiljaipikklaaGreatDoor
open Go Go.RowKit Go.Proofs.YtbhiljaipikklaaGreatDoorL
def souffleurref03_Plain.f (a0 : ByteArray) : Option ByteArray := if a0.size ≤ 4294967296 then some (plainS a0) else none
theorem souffleurref03_Plain.calls (a0 : ByteArray) (r : ByteArray) (w : World) (h : souffleurref03_Plain.f a0 = some r) :
    Calls Tryz.prog 37 #[.string a0] w fun e w' => e = .returned (.string r) ∧ Below w.heap.size w w' := by
  unfold souffleurref03_Plain.f at h
  split at h
  · injection h with h
    subst h
    exact rplain_calls a0 (by assumption) w
  · cases h
end Go.Proofs.YtbhiljaipikklaaGreatDoor

