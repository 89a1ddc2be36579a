/-
  DERIVED. GIVEN WITH THE SEED: THE CARDS: each row of YtbeafnkcimfeeaaGreatDoorRows.lean that lists a variable, with what it lists TIED to the program's text (the seventh form; the later family's looks); each row that meets fmt, with fmt's text TOLD by the authors' own Lean function (tested against real Go, not proved from fmt's source: count such statements apart). THE CARD IS WHAT COUNTS. Prove the row's statement (the work); the ties are given (YtbeafnkcimfeeaaGreatDoorTie.lean); close each card by the builder's one call (the guide's Derived/Test/ToyasCard.lean, 'card_holds'). Laid BY PROGRAM, IN A SANDBOX (cutbox-door.mjs). By AI agents, Wed Nov 11 2026. No macro, syntax, notation, axiom, sorry.
-/
import Derived.Test.YtbeafnkcimfeeaaGreatDoorRows
import GoSem.ClaimSeven
namespace Go.Proofs.YtbeafnkcimfeeaaGreatDoor
namespace Rows

/-- THE TIED CARD OF 'rowlocktop.TopEnds'. -/
def topEndsCard : Claim7 := { stood := { row := topEndsRow, standIns := [], harness := (true, "c581dd70c384e0557497e72bdeb2735ce5f0074cff35844a10c14d34e5e6aa7d"), looks := true }, kinds := [], alts := [], laidByText := true, laidKinds := [.handle], laidTests := true, laidLooks := .later }
def TopEndsCardSaid : Prop := Claim7.holds Tryz.pinned (.plain (OpenSpec.ofChange topEndsSpec)) topEndsCard

/-- THE TIED CARD OF 'rowlocktop.TopLinear'. -/
def topLinearCard : Claim7 := { stood := { row := topLinearRow, standIns := [], harness := (true, "c581dd70c384e0557497e72bdeb2735ce5f0074cff35844a10c14d34e5e6aa7d"), looks := true }, kinds := [], alts := [], laidByText := true, laidKinds := [.handle], laidTests := true, laidLooks := .later }
def TopLinearCardSaid : Prop := Claim7.holds Tryz.pinned (.plain (OpenSpec.ofChange topLinearSpec)) topLinearCard

/-- THE TIED CARD OF 'rowlocklaw10.PageMeans'. -/
def pageMeansCard : Claim7 := { stood := { row := pageMeansRow, standIns := [], harness := (true, "c581dd70c384e0557497e72bdeb2735ce5f0074cff35844a10c14d34e5e6aa7d"), looks := true }, kinds := [], alts := [], laidByText := true, laidKinds := [.handle], laidTests := true, laidLooks := .later }
def PageMeansCardSaid : Prop := Claim7.holds Tryz.pinned (.plain (OpenSpec.ofChange pageMeansSpec)) pageMeansCard

/-- THE TIED CARD OF 'rowlocklaw10.PageKeeps'. -/
def pageKeepsCard : Claim7 := { stood := { row := pageKeepsRow, standIns := [], harness := (true, "c581dd70c384e0557497e72bdeb2735ce5f0074cff35844a10c14d34e5e6aa7d"), looks := true }, kinds := [], alts := [], laidByText := true, laidKinds := [.handle], laidTests := true, laidLooks := .later }
def PageKeepsCardSaid : Prop := Claim7.holds Tryz.pinned (.plain (OpenSpec.ofChange pageKeepsSpec)) pageKeepsCard

/-- THE TIED CARD OF 'rowlocklaw10.PageLoads'. -/
def pageLoadsCard : Claim7 := { stood := { row := pageLoadsRow, standIns := [], harness := (true, "c581dd70c384e0557497e72bdeb2735ce5f0074cff35844a10c14d34e5e6aa7d"), looks := true }, kinds := [], alts := [], laidByText := true, laidKinds := [.handle], laidTests := true, laidLooks := .later }
def PageLoadsCardSaid : Prop := Claim7.holds Tryz.pinned (.plain (OpenSpec.ofChange pageLoadsSpec)) pageLoadsCard

/-- THE SECOND FORM's CARD OF 'rowlocktop.TopEnds'. -/
def topEndsUptoCard : Claim7 := { stood := { row := topEndsUptoRow, standIns := [], harness := (true, "c581dd70c384e0557497e72bdeb2735ce5f0074cff35844a10c14d34e5e6aa7d"), looks := true }, kinds := [], alts := [], laidByText := true, laidKinds := [.handle], laidTests := true, laidLooks := .later }
def TopEndsUptoCardSaid : Prop := Claim7.holds Tryz.pinned (.plain (OpenSpec.upto topEndsSpec)) topEndsUptoCard

/-- THE SECOND FORM's CARD OF 'rowlocktop.TopLinear'. -/
def topLinearUptoCard : Claim7 := { stood := { row := topLinearUptoRow, standIns := [], harness := (true, "c581dd70c384e0557497e72bdeb2735ce5f0074cff35844a10c14d34e5e6aa7d"), looks := true }, kinds := [], alts := [], laidByText := true, laidKinds := [.handle], laidTests := true, laidLooks := .later }
def TopLinearUptoCardSaid : Prop := Claim7.holds Tryz.pinned (.plain (OpenSpec.upto topLinearSpec)) topLinearUptoCard

/-- THE SECOND FORM's CARD OF 'rowlocklaw10.PageMeans'. -/
def pageMeansUptoCard : Claim7 := { stood := { row := pageMeansUptoRow, standIns := [], harness := (true, "c581dd70c384e0557497e72bdeb2735ce5f0074cff35844a10c14d34e5e6aa7d"), looks := true }, kinds := [], alts := [], laidByText := true, laidKinds := [.handle], laidTests := true, laidLooks := .later }
def PageMeansUptoCardSaid : Prop := Claim7.holds Tryz.pinned (.plain (OpenSpec.upto pageMeansSpec)) pageMeansUptoCard

/-- THE SECOND FORM's CARD OF 'rowlocklaw10.PageKeeps'. -/
def pageKeepsUptoCard : Claim7 := { stood := { row := pageKeepsUptoRow, standIns := [], harness := (true, "c581dd70c384e0557497e72bdeb2735ce5f0074cff35844a10c14d34e5e6aa7d"), looks := true }, kinds := [], alts := [], laidByText := true, laidKinds := [.handle], laidTests := true, laidLooks := .later }
def PageKeepsUptoCardSaid : Prop := Claim7.holds Tryz.pinned (.plain (OpenSpec.upto pageKeepsSpec)) pageKeepsUptoCard

/-- THE SECOND FORM's CARD OF 'rowlocklaw10.PageLoads'. -/
def pageLoadsUptoCard : Claim7 := { stood := { row := pageLoadsUptoRow, standIns := [], harness := (true, "c581dd70c384e0557497e72bdeb2735ce5f0074cff35844a10c14d34e5e6aa7d"), looks := true }, kinds := [], alts := [], laidByText := true, laidKinds := [.handle], laidTests := true, laidLooks := .later }
def PageLoadsUptoCardSaid : Prop := Claim7.holds Tryz.pinned (.plain (OpenSpec.upto pageLoadsSpec)) pageLoadsUptoCard
end Rows
end Go.Proofs.YtbeafnkcimfeeaaGreatDoor
