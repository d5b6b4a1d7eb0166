/-
  DERIVED. GIVEN WITH THE SEED: THE CARDS: each row of YtgekkmmmidgkbaaGreatDoorRows.lean that lists a variable, with what it lists TIED to the program's text (the seventh form; the later family's looks); each row that meets fmt, with fmt's text TOLD by the authors' own Lean function (tested against real Go, not proved from fmt's source: count such statements apart). THE CARD IS WHAT COUNTS. Prove the row's statement (the work); the ties are given (YtgekkmmmidgkbaaGreatDoorTie.lean); close each card by the builder's one call (the guide's Derived/Test/ToyasCard.lean, 'card_holds'). Laid BY PROGRAM, IN A SANDBOX (cutbox-door.mjs). By AI agents, Wed Nov 11 2026. No macro, syntax, notation, axiom, sorry.
-/
import Derived.Test.YtgekkmmmidgkbaaGreatDoorRows
import GoSem.ClaimSeven
namespace Go.Proofs.YtgekkmmmidgkbaaGreatDoor
namespace Rows

/-- THE TIED CARD OF 'merlonlaw11.UsesChecks'. -/
def usesChecksCard : Claim7 := { stood := { row := usesChecksRow, standIns := [], harness := (true, "2f8f14492e47540112a98ce0430e4715feb76ef2db93de155ab7dc44b4dc6cab"), looks := true }, kinds := [], alts := [], laidByText := true, laidKinds := [.data, .data, .data, .handle, .sentinel, .sentinel], laidTests := true, laidLooks := .later }
def UsesChecksCardSaid : Prop := Claim7.holds Tryz.pinned (.plain (OpenSpec.ofChange usesChecksSpec)) usesChecksCard

/-- THE TIED CARD OF 'merlonlaw11.UsesLess'. -/
def usesLessCard : Claim7 := { stood := { row := usesLessRow, standIns := [], harness := (true, "2f8f14492e47540112a98ce0430e4715feb76ef2db93de155ab7dc44b4dc6cab"), looks := true }, kinds := [], alts := [], laidByText := true, laidKinds := [.data, .data, .data, .handle, .sentinel, .sentinel], laidTests := true, laidLooks := .later }
def UsesLessCardSaid : Prop := Claim7.holds Tryz.pinned (.plain (OpenSpec.ofChange usesLessSpec)) usesLessCard

/-- THE SECOND FORM's CARD OF 'merlonlaw11.UsesChecks'. -/
def usesChecksUptoCard : Claim7 := { stood := { row := usesChecksUptoRow, standIns := [], harness := (true, "2f8f14492e47540112a98ce0430e4715feb76ef2db93de155ab7dc44b4dc6cab"), looks := true }, kinds := [], alts := [], laidByText := true, laidKinds := [.data, .data, .data, .handle, .sentinel, .sentinel], laidTests := true, laidLooks := .later }
def UsesChecksUptoCardSaid : Prop := Claim7.holds Tryz.pinned (.plain (OpenSpec.upto usesChecksSpec)) usesChecksUptoCard

/-- THE SECOND FORM's CARD OF 'merlonlaw11.UsesLess'. -/
def usesLessUptoCard : Claim7 := { stood := { row := usesLessUptoRow, standIns := [], harness := (true, "2f8f14492e47540112a98ce0430e4715feb76ef2db93de155ab7dc44b4dc6cab"), looks := true }, kinds := [], alts := [], laidByText := true, laidKinds := [.data, .data, .data, .handle, .sentinel, .sentinel], laidTests := true, laidLooks := .later }
def UsesLessUptoCardSaid : Prop := Claim7.holds Tryz.pinned (.plain (OpenSpec.upto usesLessSpec)) usesLessUptoCard
end Rows
end Go.Proofs.YtgekkmmmidgkbaaGreatDoor
