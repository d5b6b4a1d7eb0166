/-
  DERIVED. GIVEN WITH THE SEED: THE CARDS: each row of YtojdgajdhacjdaaGreatDoorRows.lean that lists a variable, with what it lists TIED to the program's text (the seventh form; the later family's looks); each row that meets fmt, with fmt's text TOLD by the authors' own Lean function (tested against real Go, not proved from fmt's source: count such statements apart). THE CARD IS WHAT COUNTS. Prove the row's statement (the work); the ties are given (YtojdgajdhacjdaaGreatDoorTie.lean); close each card by the builder's one call (the guide's Derived/Test/ToyasCard.lean, 'card_holds'). Laid BY PROGRAM, IN A SANDBOX (cutbox-door.mjs). By AI agents, Wed Nov 11 2026. No macro, syntax, notation, axiom, sorry.
-/
import Derived.Test.YtojdgajdhacjdaaGreatDoorRows
import GoSem.ClaimSeven
namespace Go.Proofs.YtojdgajdhacjdaaGreatDoor
namespace Rows

/-- THE TIED CARD OF 'merlonlaw11.UsesParses'. -/
def usesParsesCard : Claim7 := { stood := { row := usesParsesRow, standIns := [], harness := (true, "684fcf519b79c1b9e40698e0da37ed1b3ea91b984afe3b6a544cb9805a18dcb0"), looks := true }, kinds := [], alts := [], laidByText := true, laidKinds := [.data, .data, .data, .handle, .sentinel, .sentinel], laidTests := true, laidLooks := .later }
def UsesParsesCardSaid : Prop := Claim7.holds Tryz.pinned (.plain (OpenSpec.ofChange usesParsesSpec)) usesParsesCard

/-- THE TIED CARD OF 'merlonlaw11.UsesPrints'. -/
def usesPrintsCard : Claim7 := { stood := { row := usesPrintsRow, standIns := [], harness := (true, "684fcf519b79c1b9e40698e0da37ed1b3ea91b984afe3b6a544cb9805a18dcb0"), looks := true }, kinds := [], alts := [], laidByText := true, laidKinds := [.data, .data, .data, .handle, .sentinel, .sentinel], laidTests := true, laidLooks := .later }
def UsesPrintsCardSaid : Prop := Claim7.holds Tryz.pinned (.plain (OpenSpec.ofChange usesPrintsSpec)) usesPrintsCard

/-- THE SECOND FORM's CARD OF 'merlonlaw11.UsesParses'. -/
def usesParsesUptoCard : Claim7 := { stood := { row := usesParsesUptoRow, standIns := [], harness := (true, "684fcf519b79c1b9e40698e0da37ed1b3ea91b984afe3b6a544cb9805a18dcb0"), looks := true }, kinds := [], alts := [], laidByText := true, laidKinds := [.data, .data, .data, .handle, .sentinel, .sentinel], laidTests := true, laidLooks := .later }
def UsesParsesUptoCardSaid : Prop := Claim7.holds Tryz.pinned (.plain (OpenSpec.upto usesParsesSpec)) usesParsesUptoCard

/-- THE SECOND FORM's CARD OF 'merlonlaw11.UsesPrints'. -/
def usesPrintsUptoCard : Claim7 := { stood := { row := usesPrintsUptoRow, standIns := [], harness := (true, "684fcf519b79c1b9e40698e0da37ed1b3ea91b984afe3b6a544cb9805a18dcb0"), looks := true }, kinds := [], alts := [], laidByText := true, laidKinds := [.data, .data, .data, .handle, .sentinel, .sentinel], laidTests := true, laidLooks := .later }
def UsesPrintsUptoCardSaid : Prop := Claim7.holds Tryz.pinned (.plain (OpenSpec.upto usesPrintsSpec)) usesPrintsUptoCard
end Rows
end Go.Proofs.YtojdgajdhacjdaaGreatDoor
