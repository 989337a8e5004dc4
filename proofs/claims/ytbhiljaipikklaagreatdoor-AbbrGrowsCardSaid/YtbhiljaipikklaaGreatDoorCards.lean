/-
  DERIVED. GIVEN WITH THE SEED: THE CARDS: each row of YtbhiljaipikklaaGreatDoorRows.lean that lists a variable, with what it lists TIED to the program's text (the seventh form; the later family's looks); each row that meets fmt, with fmt's text TOLD by the authors' own Lean function (tested against real Go, not proved from fmt's source: count such statements apart). THE CARD IS WHAT COUNTS. Prove the row's statement (the work); the ties are given (YtbhiljaipikklaaGreatDoorTie.lean); close each card by the builder's one call (the guide's Derived/Test/ToyasCard.lean, 'card_holds'). Laid BY PROGRAM, IN A SANDBOX (cutbox-door.mjs). By AI agents, Wed Nov 11 2026. No macro, syntax, notation, axiom, sorry.
-/
import Derived.Test.YtbhiljaipikklaaGreatDoorRows
import GoSem.ClaimSeven
namespace Go.Proofs.YtbhiljaipikklaaGreatDoor
namespace Rows

/-- THE TIED CARD OF 'souffleurlaw08.AbbrAll'. -/
def abbrAllCard : Claim7 := { stood := { row := abbrAllRow, standIns := [], harness := (true, "443e4efb83fa6b6bb9ea1eff271d9251f42e6d414b426a423ac3f7d615ec7174"), looks := false }, kinds := [], alts := [], laidByText := true, laidKinds := [.data, .pinned], laidTests := true, laidLooks := .later }
def AbbrAllCardSaid : Prop := Claim7.holds Tryz.pinned (.plain (OpenSpec.ofChange abbrAllSpec)) abbrAllCard

/-- THE TIED CARD OF 'souffleurlaw08.AbbrOnce'. -/
def abbrOnceCard : Claim7 := { stood := { row := abbrOnceRow, standIns := [], harness := (true, "443e4efb83fa6b6bb9ea1eff271d9251f42e6d414b426a423ac3f7d615ec7174"), looks := false }, kinds := [], alts := [], laidByText := true, laidKinds := [.data, .pinned], laidTests := true, laidLooks := .later }
def AbbrOnceCardSaid : Prop := Claim7.holds Tryz.pinned (.plain (OpenSpec.ofChange abbrOnceSpec)) abbrOnceCard

/-- THE TIED CARD OF 'souffleurlaw08.AbbrGrows'. -/
def abbrGrowsCard : Claim7 := { stood := { row := abbrGrowsRow, standIns := [], harness := (true, "443e4efb83fa6b6bb9ea1eff271d9251f42e6d414b426a423ac3f7d615ec7174"), looks := false }, kinds := [], alts := [], laidByText := true, laidKinds := [.data, .pinned], laidTests := true, laidLooks := .later }
def AbbrGrowsCardSaid : Prop := Claim7.holds Tryz.pinned (.plain (OpenSpec.ofChange abbrGrowsSpec)) abbrGrowsCard

/-- THE SECOND FORM's CARD OF 'souffleurlaw08.AbbrAll'. -/
def abbrAllUptoCard : Claim7 := { stood := { row := abbrAllUptoRow, standIns := [], harness := (true, "443e4efb83fa6b6bb9ea1eff271d9251f42e6d414b426a423ac3f7d615ec7174"), looks := false }, kinds := [], alts := [], laidByText := true, laidKinds := [.data, .pinned], laidTests := true, laidLooks := .later }
def AbbrAllUptoCardSaid : Prop := Claim7.holds Tryz.pinned (.plain (OpenSpec.upto abbrAllSpec)) abbrAllUptoCard

/-- THE SECOND FORM's CARD OF 'souffleurlaw08.AbbrOnce'. -/
def abbrOnceUptoCard : Claim7 := { stood := { row := abbrOnceUptoRow, standIns := [], harness := (true, "443e4efb83fa6b6bb9ea1eff271d9251f42e6d414b426a423ac3f7d615ec7174"), looks := false }, kinds := [], alts := [], laidByText := true, laidKinds := [.data, .pinned], laidTests := true, laidLooks := .later }
def AbbrOnceUptoCardSaid : Prop := Claim7.holds Tryz.pinned (.plain (OpenSpec.upto abbrOnceSpec)) abbrOnceUptoCard

/-- THE SECOND FORM's CARD OF 'souffleurlaw08.AbbrGrows'. -/
def abbrGrowsUptoCard : Claim7 := { stood := { row := abbrGrowsUptoRow, standIns := [], harness := (true, "443e4efb83fa6b6bb9ea1eff271d9251f42e6d414b426a423ac3f7d615ec7174"), looks := false }, kinds := [], alts := [], laidByText := true, laidKinds := [.data, .pinned], laidTests := true, laidLooks := .later }
def AbbrGrowsUptoCardSaid : Prop := Claim7.holds Tryz.pinned (.plain (OpenSpec.upto abbrGrowsSpec)) abbrGrowsUptoCard
end Rows
end Go.Proofs.YtbhiljaipikklaaGreatDoor
