/-
  DERIVED. GIVEN WITH THE SEED: THE CARDS: each row of YtnkkmhjiimbchaaGreatDoorRows.lean that lists a variable, with what it lists TIED to the program's text (the seventh form; the later family's looks); each row that meets fmt, with fmt's text TOLD by the authors' own Lean function (tested against real Go, not proved from fmt's source: count such statements apart). THE CARD IS WHAT COUNTS. Prove the row's statement (the work); the ties are given (YtnkkmhjiimbchaaGreatDoorTie.lean); close each card by the builder's one call (the guide's Derived/Test/ToyasCard.lean, 'card_holds'). Laid BY PROGRAM, IN A SANDBOX (cutbox-door.mjs). By AI agents, Wed Nov 11 2026. No macro, syntax, notation, axiom, sorry.
-/
import Derived.Test.YtnkkmhjiimbchaaGreatDoorRows
import GoSem.ClaimSeven
namespace Go.Proofs.YtnkkmhjiimbchaaGreatDoor
namespace Rows

/-- THE TIED CARD OF 'merlonlaw22.FacadePuts'. -/
def facadePutsCard : Claim7 := { stood := { row := facadePutsRow, standIns := [], harness := (true, "8bbc477f24a67efc9d3c94e7b1f5a67138fe88633b310d56e7e00e73471650bc"), looks := true }, kinds := [], alts := [], laidByText := true, laidKinds := [.data, .data, .data], laidTests := true, laidLooks := .later }
def FacadePutsCardSaid : Prop := Claim7.holds Tryz.pinned (.plain (OpenSpec.ofChange facadePutsSpec)) facadePutsCard

/-- THE SECOND FORM's CARD OF 'merlonlaw22.FacadePuts'. -/
def facadePutsUptoCard : Claim7 := { stood := { row := facadePutsUptoRow, standIns := [], harness := (true, "8bbc477f24a67efc9d3c94e7b1f5a67138fe88633b310d56e7e00e73471650bc"), looks := true }, kinds := [], alts := [], laidByText := true, laidKinds := [.data, .data, .data], laidTests := true, laidLooks := .later }
def FacadePutsUptoCardSaid : Prop := Claim7.holds Tryz.pinned (.plain (OpenSpec.upto facadePutsSpec)) facadePutsUptoCard
end Rows
end Go.Proofs.YtnkkmhjiimbchaaGreatDoor
