/-
  DERIVED. GIVEN WITH THE SEED: THE CARDS: each row of YtledplnlcjfafaaDoorRows.lean that lists a variable, with what it lists TIED to the program's text (the seventh form; the later family's looks); each row that meets fmt, with fmt's text TOLD by the authors' own Lean function (tested against real Go, not proved from fmt's source: count such statements apart). THE CARD IS WHAT COUNTS. Prove the row's statement (the work); the ties are given (YtledplnlcjfafaaDoorTie.lean); close each card by the builder's one call (the guide's Derived/Test/ToyasCard.lean, 'card_holds'). Laid BY PROGRAM, IN A SANDBOX (cutbox-door.mjs). By AI agents, Wed Nov 11 2026. No macro, syntax, notation, axiom, sorry.
-/
import Derived.Test.YtledplnlcjfafaaDoorRows
import GoSem.ClaimSeven
namespace Go.Proofs.YtledplnlcjfafaaDoor
namespace Rows

/-- THE TIED CARD OF 'souffleurlaw19.PaintCosts'. -/
def paintCostsCard : Claim7 := { stood := { row := paintCostsRow, standIns := [], harness := (true, "14962f16027ae919087a1e76ba5873a021904ef3ada7e98ba8e1cfcf6854bbf9"), looks := false }, kinds := [], alts := [], laidByText := true, laidKinds := [.data, .data, .data, .data, .pinned], laidTests := true, laidLooks := .later }
def PaintCostsCardSaid : Prop := Claim7.holds Tryd.pinned (.plain (OpenSpec.ofChange paintCostsSpec)) paintCostsCard

/-- THE SECOND FORM's CARD OF 'souffleurlaw19.PaintCosts'. -/
def paintCostsUptoCard : Claim7 := { stood := { row := paintCostsUptoRow, standIns := [], harness := (true, "14962f16027ae919087a1e76ba5873a021904ef3ada7e98ba8e1cfcf6854bbf9"), looks := false }, kinds := [], alts := [], laidByText := true, laidKinds := [.data, .data, .data, .data, .pinned], laidTests := true, laidLooks := .later }
def PaintCostsUptoCardSaid : Prop := Claim7.holds Tryd.pinned (.plain (OpenSpec.upto paintCostsSpec)) paintCostsUptoCard
end Rows
end Go.Proofs.YtledplnlcjfafaaDoor
