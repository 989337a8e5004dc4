/-
  DERIVED. GIVEN WITH THE SEED: THE CARDS: each row of YtbhiljaipikklaaDoorRows.lean that lists a variable, with what it lists TIED to the program's text (the seventh form; the later family's looks); each row that meets fmt, with fmt's text TOLD by the authors' own Lean function (tested against real Go, not proved from fmt's source: count such statements apart). THE CARD IS WHAT COUNTS. Prove the row's statement (the work); the ties are given (YtbhiljaipikklaaDoorTie.lean); close each card by the builder's one call (the guide's Derived/Test/ToyasCard.lean, 'card_holds'). Laid BY PROGRAM, IN A SANDBOX (cutbox-door.mjs). By AI agents, Wed Nov 11 2026. No macro, syntax, notation, axiom, sorry.
-/
import Derived.Test.YtbhiljaipikklaaDoorRows
import GoSem.ClaimSeven
namespace Go.Proofs.YtbhiljaipikklaaDoor
namespace Rows

/-- THE TIED CARD OF 'souffleurlaw08.AbbrKeeps'. -/
def abbrKeepsCard : Claim7 := { stood := { row := abbrKeepsRow, standIns := [], harness := (true, "4c9eb02149a5e6916c9f772a132ee4b8f7f1ce7c20a7c364d57f27260c9793ff"), looks := false }, kinds := [], alts := [], laidByText := true, laidKinds := [.data, .pinned], laidTests := true, laidLooks := .later }
def AbbrKeepsCardSaid : Prop := Claim7.holds Tryd.pinned (.plain (OpenSpec.ofChange abbrKeepsSpec)) abbrKeepsCard

/-- THE TIED CARD OF 'souffleurlaw08.AbbrDrops'. -/
def abbrDropsCard : Claim7 := { stood := { row := abbrDropsRow, standIns := [], harness := (true, "4c9eb02149a5e6916c9f772a132ee4b8f7f1ce7c20a7c364d57f27260c9793ff"), looks := false }, kinds := [], alts := [], laidByText := true, laidKinds := [.data, .pinned], laidTests := true, laidLooks := .later }
def AbbrDropsCardSaid : Prop := Claim7.holds Tryd.pinned (.plain (OpenSpec.ofChange abbrDropsSpec)) abbrDropsCard

/-- THE TIED CARD OF 'souffleurlaw08.AbbrSets'. -/
def abbrSetsCard : Claim7 := { stood := { row := abbrSetsRow, standIns := [], harness := (true, "4c9eb02149a5e6916c9f772a132ee4b8f7f1ce7c20a7c364d57f27260c9793ff"), looks := false }, kinds := [], alts := [], laidByText := true, laidKinds := [.data, .pinned], laidTests := true, laidLooks := .later }
def AbbrSetsCardSaid : Prop := Claim7.holds Tryd.pinned (.plain (OpenSpec.ofChange abbrSetsSpec)) abbrSetsCard

/-- THE SECOND FORM's CARD OF 'souffleurlaw08.AbbrKeeps'. -/
def abbrKeepsUptoCard : Claim7 := { stood := { row := abbrKeepsUptoRow, standIns := [], harness := (true, "4c9eb02149a5e6916c9f772a132ee4b8f7f1ce7c20a7c364d57f27260c9793ff"), looks := false }, kinds := [], alts := [], laidByText := true, laidKinds := [.data, .pinned], laidTests := true, laidLooks := .later }
def AbbrKeepsUptoCardSaid : Prop := Claim7.holds Tryd.pinned (.plain (OpenSpec.upto abbrKeepsSpec)) abbrKeepsUptoCard

/-- THE SECOND FORM's CARD OF 'souffleurlaw08.AbbrDrops'. -/
def abbrDropsUptoCard : Claim7 := { stood := { row := abbrDropsUptoRow, standIns := [], harness := (true, "4c9eb02149a5e6916c9f772a132ee4b8f7f1ce7c20a7c364d57f27260c9793ff"), looks := false }, kinds := [], alts := [], laidByText := true, laidKinds := [.data, .pinned], laidTests := true, laidLooks := .later }
def AbbrDropsUptoCardSaid : Prop := Claim7.holds Tryd.pinned (.plain (OpenSpec.upto abbrDropsSpec)) abbrDropsUptoCard

/-- THE SECOND FORM's CARD OF 'souffleurlaw08.AbbrSets'. -/
def abbrSetsUptoCard : Claim7 := { stood := { row := abbrSetsUptoRow, standIns := [], harness := (true, "4c9eb02149a5e6916c9f772a132ee4b8f7f1ce7c20a7c364d57f27260c9793ff"), looks := false }, kinds := [], alts := [], laidByText := true, laidKinds := [.data, .pinned], laidTests := true, laidLooks := .later }
def AbbrSetsUptoCardSaid : Prop := Claim7.holds Tryd.pinned (.plain (OpenSpec.upto abbrSetsSpec)) abbrSetsUptoCard
end Rows
end Go.Proofs.YtbhiljaipikklaaDoor
