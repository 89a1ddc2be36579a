/-
  DERIVED. GIVEN WITH THE SEED: THE CARDS: each row of YtbeafnkcimfeeaaDoorRows.lean that lists a variable, with what it lists TIED to the program's text (the seventh form; the later family's looks); each row that meets fmt, with fmt's text TOLD by the authors' own Lean function (tested against real Go, not proved from fmt's source: count such statements apart). THE CARD IS WHAT COUNTS. Prove the row's statement (the work); the ties are given (YtbeafnkcimfeeaaDoorTie.lean); close each card by the builder's one call (the guide's Derived/Test/ToyasCard.lean, 'card_holds'). Laid BY PROGRAM, IN A SANDBOX (cutbox-door.mjs). By AI agents, Wed Nov 11 2026. No macro, syntax, notation, axiom, sorry.
-/
import Derived.Test.YtbeafnkcimfeeaaDoorRows
import GoSem.ClaimSeven
namespace Go.Proofs.YtbeafnkcimfeeaaDoor
namespace Rows

/-- THE TIED CARD OF 'rowlocklaw07.LeafFolds'. -/
def leafFoldsCard : Claim7 := { stood := { row := leafFoldsRow, standIns := [], harness := (true, "79ebe65e9b1e09f4f94758a4b36191ec528ba2cf4280a7bad23045d56850fc97"), looks := true }, kinds := [], alts := [], laidByText := true, laidKinds := [.handle], laidTests := true, laidLooks := .later }
def LeafFoldsCardSaid : Prop := Claim7.holds Tryd.pinned (.plain (OpenSpec.ofChange leafFoldsSpec)) leafFoldsCard

/-- THE TIED CARD OF 'rowlocklaw07.LeafSearches'. -/
def leafSearchesCard : Claim7 := { stood := { row := leafSearchesRow, standIns := [], harness := (true, "79ebe65e9b1e09f4f94758a4b36191ec528ba2cf4280a7bad23045d56850fc97"), looks := true }, kinds := [], alts := [], laidByText := true, laidKinds := [.handle], laidTests := true, laidLooks := .later }
def LeafSearchesCardSaid : Prop := Claim7.holds Tryd.pinned (.plain (OpenSpec.ofChange leafSearchesSpec)) leafSearchesCard

/-- THE TIED CARD OF 'rowlocklaw07.LeafPuts'. -/
def leafPutsCard : Claim7 := { stood := { row := leafPutsRow, standIns := [], harness := (true, "79ebe65e9b1e09f4f94758a4b36191ec528ba2cf4280a7bad23045d56850fc97"), looks := true }, kinds := [], alts := [], laidByText := true, laidKinds := [.handle], laidTests := true, laidLooks := .later }
def LeafPutsCardSaid : Prop := Claim7.holds Tryd.pinned (.plain (OpenSpec.ofChange leafPutsSpec)) leafPutsCard

/-- THE TIED CARD OF 'rowlocklaw10.PageSame'. -/
def pageSameCard : Claim7 := { stood := { row := pageSameRow, standIns := [], harness := (true, "79ebe65e9b1e09f4f94758a4b36191ec528ba2cf4280a7bad23045d56850fc97"), looks := true }, kinds := [], alts := [], laidByText := true, laidKinds := [.handle], laidTests := true, laidLooks := .later }
def PageSameCardSaid : Prop := Claim7.holds Tryd.pinned (.plain (OpenSpec.ofChange pageSameSpec)) pageSameCard

/-- THE SECOND FORM's CARD OF 'rowlocklaw07.LeafFolds'. -/
def leafFoldsUptoCard : Claim7 := { stood := { row := leafFoldsUptoRow, standIns := [], harness := (true, "79ebe65e9b1e09f4f94758a4b36191ec528ba2cf4280a7bad23045d56850fc97"), looks := true }, kinds := [], alts := [], laidByText := true, laidKinds := [.handle], laidTests := true, laidLooks := .later }
def LeafFoldsUptoCardSaid : Prop := Claim7.holds Tryd.pinned (.plain (OpenSpec.upto leafFoldsSpec)) leafFoldsUptoCard

/-- THE SECOND FORM's CARD OF 'rowlocklaw07.LeafSearches'. -/
def leafSearchesUptoCard : Claim7 := { stood := { row := leafSearchesUptoRow, standIns := [], harness := (true, "79ebe65e9b1e09f4f94758a4b36191ec528ba2cf4280a7bad23045d56850fc97"), looks := true }, kinds := [], alts := [], laidByText := true, laidKinds := [.handle], laidTests := true, laidLooks := .later }
def LeafSearchesUptoCardSaid : Prop := Claim7.holds Tryd.pinned (.plain (OpenSpec.upto leafSearchesSpec)) leafSearchesUptoCard

/-- THE SECOND FORM's CARD OF 'rowlocklaw07.LeafPuts'. -/
def leafPutsUptoCard : Claim7 := { stood := { row := leafPutsUptoRow, standIns := [], harness := (true, "79ebe65e9b1e09f4f94758a4b36191ec528ba2cf4280a7bad23045d56850fc97"), looks := true }, kinds := [], alts := [], laidByText := true, laidKinds := [.handle], laidTests := true, laidLooks := .later }
def LeafPutsUptoCardSaid : Prop := Claim7.holds Tryd.pinned (.plain (OpenSpec.upto leafPutsSpec)) leafPutsUptoCard

/-- THE SECOND FORM's CARD OF 'rowlocklaw10.PageSame'. -/
def pageSameUptoCard : Claim7 := { stood := { row := pageSameUptoRow, standIns := [], harness := (true, "79ebe65e9b1e09f4f94758a4b36191ec528ba2cf4280a7bad23045d56850fc97"), looks := true }, kinds := [], alts := [], laidByText := true, laidKinds := [.handle], laidTests := true, laidLooks := .later }
def PageSameUptoCardSaid : Prop := Claim7.holds Tryd.pinned (.plain (OpenSpec.upto pageSameSpec)) pageSameUptoCard
end Rows
end Go.Proofs.YtbeafnkcimfeeaaDoor
