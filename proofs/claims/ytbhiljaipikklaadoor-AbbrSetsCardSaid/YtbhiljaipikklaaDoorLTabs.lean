/- The tables of unicode/utf8, of what the row lists. No conditions. -/
import Derived.Test.YtbhiljaipikklaaDoorRows
import Derived.Test.YtbhiljaipikklaaDoorShelf
import Derived.PinnedBridge
import Derived.Lib.LaidU8T
namespace Go.Proofs.YtbhiljaipikklaaDoorL
open Go Go.Shelf Go.Lib
set_option maxRecDepth 100000
def laidL : List (String × DataW Unit) := [("unicode/utf8.acceptRanges", Go.Proofs.YtbhiljaipikklaaDoor.Rows.laid_unicode_utf8_acceptRanges), ("unicode/utf8.first", Go.Proofs.YtbhiljaipikklaaDoor.Rows.laid_unicode_utf8_first)]
theorem accept_eq : (Go.Proofs.YtbhiljaipikklaaDoor.Rows.laid_unicode_utf8_acceptRanges : DataW Unit) = acceptData := by kernel_rfl
theorem first_eq : Go.Proofs.YtbhiljaipikklaaDoor.Rows.laid_unicode_utf8_first = firstData := Pinned.utf8First_eq
theorem tabs_of_laid {w : World} (hL : laidMet Tryd.prog laidL w) : Lib.Utf8Tabs 0 1 w :=
  utf8Tabs_of_readsT (ρ := Tryd.lays230_ren) { Tryd.lays230 with } ⟨by kernel_rfl, by kernel_rfl, by kernel_rfl, by kernel_rfl, by kernel_rfl, by kernel_rfl, by kernel_rfl⟩ (first_eq ▸ Lib.laidMet.reads hL (.tail _ (.head _))) (accept_eq ▸ Lib.laidMet.reads hL (.head _))
end Go.Proofs.YtbhiljaipikklaaDoorL
