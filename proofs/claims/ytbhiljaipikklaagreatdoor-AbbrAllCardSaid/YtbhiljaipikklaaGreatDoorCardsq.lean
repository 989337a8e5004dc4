/- Parts of the proof of the law that the last file states; declarations that nothing mentions are left out by a program. No conditions. -/
import Derived.Test.YtbhiljaipikklaaGreatDoorRows
import GoSem.ClaimSeven
set_option linter.unusedVariables false
set_option linter.unusedSimpArgs false
namespace Go.Proofs.YtbhiljaipikklaaGreatDoor
namespace Rows
def abbrAllCard : Claim7 := { stood := { row := abbrAllRow, standIns := [], harness := (true, "443e4efb83fa6b6bb9ea1eff271d9251f42e6d414b426a423ac3f7d615ec7174"), looks := false }, kinds := [], alts := [], laidByText := true, laidKinds := [.data, .pinned], laidTests := true, laidLooks := .later }
def AbbrAllCardSaid : Prop := Claim7.holds Tryz.pinned (.plain (OpenSpec.ofChange abbrAllSpec)) abbrAllCard
end Rows
end Go.Proofs.YtbhiljaipikklaaGreatDoor

