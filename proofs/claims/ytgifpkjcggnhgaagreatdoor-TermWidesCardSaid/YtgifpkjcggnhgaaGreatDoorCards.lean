/-
  DERIVED. GIVEN WITH THE SEED: THE CARDS: each row of YtgifpkjcggnhgaaGreatDoorRows.lean that lists a variable, with what it lists TIED to the program's text (the seventh form; the later family's looks); each row that meets fmt, with fmt's text TOLD by the authors' own Lean function (tested against real Go, not proved from fmt's source: count such statements apart). THE CARD IS WHAT COUNTS. Prove the row's statement (the work); the ties are given (YtgifpkjcggnhgaaGreatDoorTie.lean); close each card by the builder's one call (the guide's Derived/Test/ToyasCard.lean, 'card_holds'). Laid BY PROGRAM, IN A SANDBOX (cutbox-door.mjs). By AI agents, Wed Nov 11 2026. No macro, syntax, notation, axiom, sorry.
-/
import Derived.Test.YtgifpkjcggnhgaaGreatDoorRows
import GoSem.ClaimSeven
namespace Go.Proofs.YtgifpkjcggnhgaaGreatDoor
namespace Rows

/-- THE TIED CARD OF 'souffleurlaw17.TermCells'. -/
def termCellsCard : Claim7 := { stood := { row := termCellsRow, standIns := [], harness := (true, "48d303ccddb1c992537d5c453766d945c5a3517555b53bd919b223572e26829e"), looks := true }, kinds := [], alts := [], laidByText := true, laidKinds := [.data, .data, .data, .data, .sentinel, .sentinel, .pinned], laidTests := true, laidLooks := .later }
def TermCellsCardSaid : Prop := Claim7.holds Tryz.pinned (.plain (OpenSpec.ofChange termCellsSpec)) termCellsCard

/-- THE TIED CARD OF 'souffleurlaw17.TermParts'. -/
def termPartsCard : Claim7 := { stood := { row := termPartsRow, standIns := [], harness := (true, "48d303ccddb1c992537d5c453766d945c5a3517555b53bd919b223572e26829e"), looks := true }, kinds := [], alts := [], laidByText := true, laidKinds := [.data, .data, .data, .data, .sentinel, .sentinel, .pinned], laidTests := true, laidLooks := .later }
def TermPartsCardSaid : Prop := Claim7.holds Tryz.pinned (.plain (OpenSpec.ofChange termPartsSpec)) termPartsCard

/-- THE TIED CARD OF 'souffleurlaw17.TermLetters'. -/
def termLettersCard : Claim7 := { stood := { row := termLettersRow, standIns := [], harness := (true, "48d303ccddb1c992537d5c453766d945c5a3517555b53bd919b223572e26829e"), looks := true }, kinds := [], alts := [], laidByText := true, laidKinds := [.data, .data, .data, .data, .sentinel, .sentinel, .pinned], laidTests := true, laidLooks := .later }
def TermLettersCardSaid : Prop := Claim7.holds Tryz.pinned (.plain (OpenSpec.ofChange termLettersSpec)) termLettersCard

/-- THE TIED CARD OF 'souffleurlaw17.TermSizes'. -/
def termSizesCard : Claim7 := { stood := { row := termSizesRow, standIns := [], harness := (true, "48d303ccddb1c992537d5c453766d945c5a3517555b53bd919b223572e26829e"), looks := true }, kinds := [], alts := [], laidByText := true, laidKinds := [.data, .data, .data, .data, .sentinel, .sentinel, .pinned], laidTests := true, laidLooks := .later }
def TermSizesCardSaid : Prop := Claim7.holds Tryz.pinned (.plain (OpenSpec.ofChange termSizesSpec)) termSizesCard

/-- THE TIED CARD OF 'souffleurlaw17.TermErases'. -/
def termErasesCard : Claim7 := { stood := { row := termErasesRow, standIns := [], harness := (true, "48d303ccddb1c992537d5c453766d945c5a3517555b53bd919b223572e26829e"), looks := true }, kinds := [], alts := [], laidByText := true, laidKinds := [.data, .data, .data, .data, .sentinel, .sentinel, .pinned], laidTests := true, laidLooks := .later }
def TermErasesCardSaid : Prop := Claim7.holds Tryz.pinned (.plain (OpenSpec.ofChange termErasesSpec)) termErasesCard

/-- THE TIED CARD OF 'souffleurlaw17.TermMoves'. -/
def termMovesCard : Claim7 := { stood := { row := termMovesRow, standIns := [], harness := (true, "48d303ccddb1c992537d5c453766d945c5a3517555b53bd919b223572e26829e"), looks := true }, kinds := [], alts := [], laidByText := true, laidKinds := [.data, .data, .data, .data, .sentinel, .sentinel, .pinned], laidTests := true, laidLooks := .later }
def TermMovesCardSaid : Prop := Claim7.holds Tryz.pinned (.plain (OpenSpec.ofChange termMovesSpec)) termMovesCard

/-- THE TIED CARD OF 'souffleurlaw17.TermWides'. -/
def termWidesCard : Claim7 := { stood := { row := termWidesRow, standIns := [], harness := (true, "48d303ccddb1c992537d5c453766d945c5a3517555b53bd919b223572e26829e"), looks := true }, kinds := [], alts := [], laidByText := true, laidKinds := [.data, .data, .data, .data, .sentinel, .sentinel, .pinned], laidTests := true, laidLooks := .later }
def TermWidesCardSaid : Prop := Claim7.holds Tryz.pinned (.plain (OpenSpec.ofChange termWidesSpec)) termWidesCard

/-- THE SECOND FORM's CARD OF 'souffleurlaw17.TermCells'. -/
def termCellsUptoCard : Claim7 := { stood := { row := termCellsUptoRow, standIns := [], harness := (true, "48d303ccddb1c992537d5c453766d945c5a3517555b53bd919b223572e26829e"), looks := true }, kinds := [], alts := [], laidByText := true, laidKinds := [.data, .data, .data, .data, .sentinel, .sentinel, .pinned], laidTests := true, laidLooks := .later }
def TermCellsUptoCardSaid : Prop := Claim7.holds Tryz.pinned (.plain (OpenSpec.upto termCellsSpec)) termCellsUptoCard

/-- THE SECOND FORM's CARD OF 'souffleurlaw17.TermParts'. -/
def termPartsUptoCard : Claim7 := { stood := { row := termPartsUptoRow, standIns := [], harness := (true, "48d303ccddb1c992537d5c453766d945c5a3517555b53bd919b223572e26829e"), looks := true }, kinds := [], alts := [], laidByText := true, laidKinds := [.data, .data, .data, .data, .sentinel, .sentinel, .pinned], laidTests := true, laidLooks := .later }
def TermPartsUptoCardSaid : Prop := Claim7.holds Tryz.pinned (.plain (OpenSpec.upto termPartsSpec)) termPartsUptoCard

/-- THE SECOND FORM's CARD OF 'souffleurlaw17.TermLetters'. -/
def termLettersUptoCard : Claim7 := { stood := { row := termLettersUptoRow, standIns := [], harness := (true, "48d303ccddb1c992537d5c453766d945c5a3517555b53bd919b223572e26829e"), looks := true }, kinds := [], alts := [], laidByText := true, laidKinds := [.data, .data, .data, .data, .sentinel, .sentinel, .pinned], laidTests := true, laidLooks := .later }
def TermLettersUptoCardSaid : Prop := Claim7.holds Tryz.pinned (.plain (OpenSpec.upto termLettersSpec)) termLettersUptoCard

/-- THE SECOND FORM's CARD OF 'souffleurlaw17.TermSizes'. -/
def termSizesUptoCard : Claim7 := { stood := { row := termSizesUptoRow, standIns := [], harness := (true, "48d303ccddb1c992537d5c453766d945c5a3517555b53bd919b223572e26829e"), looks := true }, kinds := [], alts := [], laidByText := true, laidKinds := [.data, .data, .data, .data, .sentinel, .sentinel, .pinned], laidTests := true, laidLooks := .later }
def TermSizesUptoCardSaid : Prop := Claim7.holds Tryz.pinned (.plain (OpenSpec.upto termSizesSpec)) termSizesUptoCard

/-- THE SECOND FORM's CARD OF 'souffleurlaw17.TermErases'. -/
def termErasesUptoCard : Claim7 := { stood := { row := termErasesUptoRow, standIns := [], harness := (true, "48d303ccddb1c992537d5c453766d945c5a3517555b53bd919b223572e26829e"), looks := true }, kinds := [], alts := [], laidByText := true, laidKinds := [.data, .data, .data, .data, .sentinel, .sentinel, .pinned], laidTests := true, laidLooks := .later }
def TermErasesUptoCardSaid : Prop := Claim7.holds Tryz.pinned (.plain (OpenSpec.upto termErasesSpec)) termErasesUptoCard

/-- THE SECOND FORM's CARD OF 'souffleurlaw17.TermMoves'. -/
def termMovesUptoCard : Claim7 := { stood := { row := termMovesUptoRow, standIns := [], harness := (true, "48d303ccddb1c992537d5c453766d945c5a3517555b53bd919b223572e26829e"), looks := true }, kinds := [], alts := [], laidByText := true, laidKinds := [.data, .data, .data, .data, .sentinel, .sentinel, .pinned], laidTests := true, laidLooks := .later }
def TermMovesUptoCardSaid : Prop := Claim7.holds Tryz.pinned (.plain (OpenSpec.upto termMovesSpec)) termMovesUptoCard

/-- THE SECOND FORM's CARD OF 'souffleurlaw17.TermWides'. -/
def termWidesUptoCard : Claim7 := { stood := { row := termWidesUptoRow, standIns := [], harness := (true, "48d303ccddb1c992537d5c453766d945c5a3517555b53bd919b223572e26829e"), looks := true }, kinds := [], alts := [], laidByText := true, laidKinds := [.data, .data, .data, .data, .sentinel, .sentinel, .pinned], laidTests := true, laidLooks := .later }
def TermWidesUptoCardSaid : Prop := Claim7.holds Tryz.pinned (.plain (OpenSpec.upto termWidesSpec)) termWidesUptoCard
end Rows
end Go.Proofs.YtgifpkjcggnhgaaGreatDoor
