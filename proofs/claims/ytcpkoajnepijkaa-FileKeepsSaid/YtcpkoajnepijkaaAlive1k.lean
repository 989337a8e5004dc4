/- Parts of the proof of the law that the last file states; declarations that nothing mentions are left out by a program. No conditions. -/
import Derived.Test.YtcpkoajnepijkaaSimk
namespace Go.Proofs.Ytcpkoajnepijkaa
set_option linter.unusedVariables false
set_option linter.unusedSimpArgs false
open Go.RowKit Go.Proofs.YtcpkoajnepijkaaL
def nA : ByteArray := ⟨#[97]⟩
def nB : ByteArray := ⟨#[98]⟩
def aS1 : PS := (writeP newP nA [1]).2
def aS2 : PS := (writeP aS1 nA [2]).2
def aS3 : PS := crashP aS2 [false, true]
def aS4 : PS := { aS3 with fuse := 0 }
def aS5 : PS := (syncP aS4 nA).2
def aC1 : PS := { aS2 with fault := 0 }
def aC2 : PS := (writeP aC1 nA []).2
def aC3 : PS := (renameP aC2 nA nB).2
def aC4 : PS := (cutP aC3 nB 1).2
def aC5 : PS := (removeP aC4 nB).2
theorem alive_facts : (writeP newP nA [1]).1 = 0 ∧ (writeP aS1 nA [2]).1 = 0 ∧ readP aS3 nA = ([0, 2], 0) ∧ (syncP aS4 nA).1 = 100 ∧ aS5.down = true ∧ readP aS2 nA = ([1, 2], 0) ∧ pendingP aC1 = 2 ∧ (writeP aC1 nA []).1 = 102 ∧ (renameP aC2 nA nB).1 = 0 ∧ aC3.l.map (·.name) = [nB] ∧ (cutP aC3 nB 1).1 = 0 ∧ (removeP aC4 nB).1 = 0 ∧ aC5.ops = 6 := by
  refine ⟨?_, ?_, ?_, ?_, ?_, ?_, ?_, ?_, ?_, ?_, ?_, ?_, ?_⟩ <;> decide +kernel
end Go.Proofs.Ytcpkoajnepijkaa

