/- Parts of the proof of the law that the last file states; declarations that nothing mentions are left out by a program. No conditions. -/
import Derived.Test.YtbhiljaipikklaaGreatDoorRows
import Derived.PinnedBridge
import Derived.Lib.LaidU8T
import Derived.Test.YtbhiljaipikklaaGreatDoorShelfq
set_option linter.unusedVariables false
set_option linter.unusedSimpArgs false
namespace Go.Proofs.YtbhiljaipikklaaGreatDoorL
open Go Go.Shelf Go.Lib
set_option maxRecDepth 100000
def laidL : List (String × DataW Unit) := [("unicode/utf8.acceptRanges", Go.Proofs.YtbhiljaipikklaaGreatDoor.Rows.laid_unicode_utf8_acceptRanges), ("unicode/utf8.first", Go.Proofs.YtbhiljaipikklaaGreatDoor.Rows.laid_unicode_utf8_first)]
theorem accept_eq : (Go.Proofs.YtbhiljaipikklaaGreatDoor.Rows.laid_unicode_utf8_acceptRanges : DataW Unit) = acceptData := by kernel_rfl
theorem first_eq : Go.Proofs.YtbhiljaipikklaaGreatDoor.Rows.laid_unicode_utf8_first = firstData := Pinned.utf8First_eq
theorem tabs_of_laid {w : World} (hL : laidMet Tryz.prog laidL w) : Lib.Utf8Tabs 0 1 w :=
  utf8Tabs_of_readsT (ρ := Tryz.lays230_ren) { Tryz.lays230 with } ⟨by kernel_rfl, by kernel_rfl, by kernel_rfl, by kernel_rfl, by kernel_rfl, by kernel_rfl, by kernel_rfl⟩ (first_eq ▸ Lib.laidMet.reads hL (.tail _ (.head _))) (accept_eq ▸ Lib.laidMet.reads hL (.head _))
end Go.Proofs.YtbhiljaipikklaaGreatDoorL

