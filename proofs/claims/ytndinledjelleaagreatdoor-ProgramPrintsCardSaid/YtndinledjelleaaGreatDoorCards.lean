/-
  DERIVED. GIVEN WITH THE SEED: THE CARDS: each row of YtndinledjelleaaGreatDoorRows.lean that lists a variable, with what it lists TIED to the program's text (the seventh form; the later family's looks); each row that meets fmt, with fmt's text TOLD by the authors' own Lean function (tested against real Go, not proved from fmt's source: count such statements apart). THE CARD IS WHAT COUNTS. Prove the row's statement (the work); the ties are given (YtndinledjelleaaGreatDoorTie.lean); close each card by the builder's one call (the guide's Derived/Test/ToyasCard.lean, 'card_holds'). Laid BY PROGRAM, IN A SANDBOX (cutbox-door.mjs). By AI agents, Wed Nov 11 2026. No macro, syntax, notation, axiom, sorry.
-/
import Derived.Test.YtndinledjelleaaGreatDoorRows
import GoSem.ClaimSeven
namespace Go.Proofs.YtndinledjelleaaGreatDoor
namespace Rows

/-- THE TIED CARD OF 'merlonlaw24.InferLeast'. -/
def inferLeastCard : Claim7 := { stood := { row := inferLeastRow, standIns := [], harness := (true, "29d5d8f112fdeb22e197ed7146e648c07bef00487b32dcab9997a8bdda3cc6bd"), looks := true }, kinds := [], alts := [], laidByText := true, laidKinds := [.data, .data, .data, .handle, .sentinel, .sentinel], laidTests := true, laidLooks := .later }
def InferLeastCardSaid : Prop := Claim7.holds Tryz.pinned (.plain (OpenSpec.ofChange inferLeastSpec)) inferLeastCard

/-- THE TIED CARD OF 'merlonlaw24.InferOuter'. -/
def inferOuterCard : Claim7 := { stood := { row := inferOuterRow, standIns := [], harness := (true, "29d5d8f112fdeb22e197ed7146e648c07bef00487b32dcab9997a8bdda3cc6bd"), looks := true }, kinds := [], alts := [], laidByText := true, laidKinds := [.data, .data, .data, .handle, .sentinel, .sentinel], laidTests := true, laidLooks := .later }
def InferOuterCardSaid : Prop := Claim7.holds Tryz.pinned (.plain (OpenSpec.ofChange inferOuterSpec)) inferOuterCard

/-- THE TIED CARD OF 'merlonlaw26.ProgramPrints'. -/
def programPrintsCard : Claim7 := { stood := { row := programPrintsRow, standIns := [], harness := (true, "29d5d8f112fdeb22e197ed7146e648c07bef00487b32dcab9997a8bdda3cc6bd"), looks := true }, kinds := [], alts := [], laidByText := true, laidKinds := [.data, .data, .data, .handle, .sentinel, .sentinel], laidTests := true, laidLooks := .later }
def ProgramPrintsCardSaid : Prop := Claim7.holds Tryz.pinned (.plain (OpenSpec.ofChange programPrintsSpec)) programPrintsCard

/-- THE TIED CARD OF 'merlonlaw26.ProgramChecks'. -/
def programChecksCard : Claim7 := { stood := { row := programChecksRow, standIns := [], harness := (true, "29d5d8f112fdeb22e197ed7146e648c07bef00487b32dcab9997a8bdda3cc6bd"), looks := true }, kinds := [], alts := [], laidByText := true, laidKinds := [.data, .data, .data, .handle, .sentinel, .sentinel], laidTests := true, laidLooks := .later }
def ProgramChecksCardSaid : Prop := Claim7.holds Tryz.pinned (.plain (OpenSpec.ofChange programChecksSpec)) programChecksCard

/-- THE SECOND FORM's CARD OF 'merlonlaw24.InferLeast'. -/
def inferLeastUptoCard : Claim7 := { stood := { row := inferLeastUptoRow, standIns := [], harness := (true, "29d5d8f112fdeb22e197ed7146e648c07bef00487b32dcab9997a8bdda3cc6bd"), looks := true }, kinds := [], alts := [], laidByText := true, laidKinds := [.data, .data, .data, .handle, .sentinel, .sentinel], laidTests := true, laidLooks := .later }
def InferLeastUptoCardSaid : Prop := Claim7.holds Tryz.pinned (.plain (OpenSpec.upto inferLeastSpec)) inferLeastUptoCard

/-- THE SECOND FORM's CARD OF 'merlonlaw24.InferOuter'. -/
def inferOuterUptoCard : Claim7 := { stood := { row := inferOuterUptoRow, standIns := [], harness := (true, "29d5d8f112fdeb22e197ed7146e648c07bef00487b32dcab9997a8bdda3cc6bd"), looks := true }, kinds := [], alts := [], laidByText := true, laidKinds := [.data, .data, .data, .handle, .sentinel, .sentinel], laidTests := true, laidLooks := .later }
def InferOuterUptoCardSaid : Prop := Claim7.holds Tryz.pinned (.plain (OpenSpec.upto inferOuterSpec)) inferOuterUptoCard

/-- THE SECOND FORM's CARD OF 'merlonlaw26.ProgramPrints'. -/
def programPrintsUptoCard : Claim7 := { stood := { row := programPrintsUptoRow, standIns := [], harness := (true, "29d5d8f112fdeb22e197ed7146e648c07bef00487b32dcab9997a8bdda3cc6bd"), looks := true }, kinds := [], alts := [], laidByText := true, laidKinds := [.data, .data, .data, .handle, .sentinel, .sentinel], laidTests := true, laidLooks := .later }
def ProgramPrintsUptoCardSaid : Prop := Claim7.holds Tryz.pinned (.plain (OpenSpec.upto programPrintsSpec)) programPrintsUptoCard

/-- THE SECOND FORM's CARD OF 'merlonlaw26.ProgramChecks'. -/
def programChecksUptoCard : Claim7 := { stood := { row := programChecksUptoRow, standIns := [], harness := (true, "29d5d8f112fdeb22e197ed7146e648c07bef00487b32dcab9997a8bdda3cc6bd"), looks := true }, kinds := [], alts := [], laidByText := true, laidKinds := [.data, .data, .data, .handle, .sentinel, .sentinel], laidTests := true, laidLooks := .later }
def ProgramChecksUptoCardSaid : Prop := Claim7.holds Tryz.pinned (.plain (OpenSpec.upto programChecksSpec)) programChecksUptoCard
end Rows
end Go.Proofs.YtndinledjelleaaGreatDoor
