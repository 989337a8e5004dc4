/- Parts of the proof of the law that the last file states; declarations that nothing mentions are left out by a program. No conditions. -/
import Derived.Test.YtbhiljaipikklaaGreatDoorLNamesq
import Derived.Test.YtbhiljaipikklaaGreatDoorLRunesq
set_option linter.unusedVariables false
set_option linter.unusedSimpArgs false
namespace Go.Proofs.YtbhiljaipikklaaGreatDoorL
open Go Go.RowKit
theorem makeS_self {s : ByteArray} (h : plainS s = s) (hs : s.size ≤ 600) : makeS s = s := by
  unfold makeS
  rw [h, if_neg (by omega)]
end Go.Proofs.YtbhiljaipikklaaGreatDoorL

