/-
  DERIVED. GIVEN WITH THE SEED: THE CARDS: each row of YtbgkkoloflcnbaaGreatDoorRows.lean that lists a variable, with what it lists TIED to the program's text (the seventh form; the later family's looks); each row that meets fmt, with fmt's text TOLD by the authors' own Lean function (tested against real Go, not proved from fmt's source: count such statements apart). THE CARD IS WHAT COUNTS. Prove the row's statement (the work); the ties are given (YtbgkkoloflcnbaaGreatDoorTie.lean); close each card by the builder's one call (the guide's Derived/Test/ToyasCard.lean, 'card_holds'). Laid BY PROGRAM, IN A SANDBOX (cutbox-door.mjs). By AI agents, Wed Nov 11 2026. No macro, syntax, notation, axiom, sorry.
-/
import Derived.Test.YtbgkkoloflcnbaaGreatDoorRows
import GoSem.ClaimSeven
namespace Go.Proofs.YtbgkkoloflcnbaaGreatDoor
namespace Rows

/-- THE TIED CARD OF 'merlonlaw19.LockTells'. -/
def lockTellsCard : Claim7 := { stood := { row := lockTellsRow, standIns := [], harness := (true, "af6b0c83708b6f1453c69e4f4127a14ba4e68b12aaacb718b78b7680f18943b1"), looks := true }, kinds := [], alts := [], laidByText := true, laidKinds := [.data, .data, .data, .data, .handle, .pinned], laidTests := true, laidLooks := .later }
def LockTellsCardSaid : Prop := Claim7.holds Tryz.pinned (.plain (OpenSpec.ofChange lockTellsSpec)) lockTellsCard

/-- THE TIED CARD OF 'merlonlaw05.ExprParses'. -/
def exprParsesCard : Claim7 := { stood := { row := exprParsesRow, standIns := [], harness := (true, "af6b0c83708b6f1453c69e4f4127a14ba4e68b12aaacb718b78b7680f18943b1"), looks := true }, kinds := [], alts := [], laidByText := true, laidKinds := [.data, .data, .data, .handle, .sentinel, .sentinel], laidTests := true, laidLooks := .later }
def ExprParsesCardSaid : Prop := Claim7.holds Tryz.pinned (.plain (OpenSpec.ofChange exprParsesSpec)) exprParsesCard

/-- THE TIED CARD OF 'merlonlaw05.ExprAt'. -/
def exprAtCard : Claim7 := { stood := { row := exprAtRow, standIns := [], harness := (true, "af6b0c83708b6f1453c69e4f4127a14ba4e68b12aaacb718b78b7680f18943b1"), looks := true }, kinds := [], alts := [], laidByText := true, laidKinds := [.data, .data, .data, .handle, .sentinel, .sentinel], laidTests := true, laidLooks := .later }
def ExprAtCardSaid : Prop := Claim7.holds Tryz.pinned (.plain (OpenSpec.ofChange exprAtSpec)) exprAtCard

/-- THE TIED CARD OF 'merlonlaw06.SyntaxParses'. -/
def syntaxParsesCard : Claim7 := { stood := { row := syntaxParsesRow, standIns := [], harness := (true, "af6b0c83708b6f1453c69e4f4127a14ba4e68b12aaacb718b78b7680f18943b1"), looks := true }, kinds := [], alts := [], laidByText := true, laidKinds := [.data, .data, .data, .handle, .sentinel, .sentinel], laidTests := true, laidLooks := .later }
def SyntaxParsesCardSaid : Prop := Claim7.holds Tryz.pinned (.plain (OpenSpec.ofChange syntaxParsesSpec)) syntaxParsesCard

/-- THE TIED CARD OF 'merlonlaw06.SyntaxPrints'. -/
def syntaxPrintsCard : Claim7 := { stood := { row := syntaxPrintsRow, standIns := [], harness := (true, "af6b0c83708b6f1453c69e4f4127a14ba4e68b12aaacb718b78b7680f18943b1"), looks := true }, kinds := [], alts := [], laidByText := true, laidKinds := [.data, .data, .data, .handle, .sentinel, .sentinel], laidTests := true, laidLooks := .later }
def SyntaxPrintsCardSaid : Prop := Claim7.holds Tryz.pinned (.plain (OpenSpec.ofChange syntaxPrintsSpec)) syntaxPrintsCard

/-- THE TIED CARD OF 'merlonlaw06.SyntaxBack'. -/
def syntaxBackCard : Claim7 := { stood := { row := syntaxBackRow, standIns := [], harness := (true, "af6b0c83708b6f1453c69e4f4127a14ba4e68b12aaacb718b78b7680f18943b1"), looks := true }, kinds := [], alts := [], laidByText := true, laidKinds := [.data, .data, .data, .handle, .sentinel, .sentinel], laidTests := true, laidLooks := .later }
def SyntaxBackCardSaid : Prop := Claim7.holds Tryz.pinned (.plain (OpenSpec.ofChange syntaxBackSpec)) syntaxBackCard

/-- THE SECOND FORM's CARD OF 'merlonlaw19.LockTells'. -/
def lockTellsUptoCard : Claim7 := { stood := { row := lockTellsUptoRow, standIns := [], harness := (true, "af6b0c83708b6f1453c69e4f4127a14ba4e68b12aaacb718b78b7680f18943b1"), looks := true }, kinds := [], alts := [], laidByText := true, laidKinds := [.data, .data, .data, .data, .handle, .pinned], laidTests := true, laidLooks := .later }
def LockTellsUptoCardSaid : Prop := Claim7.holds Tryz.pinned (.plain (OpenSpec.upto lockTellsSpec)) lockTellsUptoCard

/-- THE SECOND FORM's CARD OF 'merlonlaw05.ExprParses'. -/
def exprParsesUptoCard : Claim7 := { stood := { row := exprParsesUptoRow, standIns := [], harness := (true, "af6b0c83708b6f1453c69e4f4127a14ba4e68b12aaacb718b78b7680f18943b1"), looks := true }, kinds := [], alts := [], laidByText := true, laidKinds := [.data, .data, .data, .handle, .sentinel, .sentinel], laidTests := true, laidLooks := .later }
def ExprParsesUptoCardSaid : Prop := Claim7.holds Tryz.pinned (.plain (OpenSpec.upto exprParsesSpec)) exprParsesUptoCard

/-- THE SECOND FORM's CARD OF 'merlonlaw05.ExprAt'. -/
def exprAtUptoCard : Claim7 := { stood := { row := exprAtUptoRow, standIns := [], harness := (true, "af6b0c83708b6f1453c69e4f4127a14ba4e68b12aaacb718b78b7680f18943b1"), looks := true }, kinds := [], alts := [], laidByText := true, laidKinds := [.data, .data, .data, .handle, .sentinel, .sentinel], laidTests := true, laidLooks := .later }
def ExprAtUptoCardSaid : Prop := Claim7.holds Tryz.pinned (.plain (OpenSpec.upto exprAtSpec)) exprAtUptoCard

/-- THE SECOND FORM's CARD OF 'merlonlaw06.SyntaxParses'. -/
def syntaxParsesUptoCard : Claim7 := { stood := { row := syntaxParsesUptoRow, standIns := [], harness := (true, "af6b0c83708b6f1453c69e4f4127a14ba4e68b12aaacb718b78b7680f18943b1"), looks := true }, kinds := [], alts := [], laidByText := true, laidKinds := [.data, .data, .data, .handle, .sentinel, .sentinel], laidTests := true, laidLooks := .later }
def SyntaxParsesUptoCardSaid : Prop := Claim7.holds Tryz.pinned (.plain (OpenSpec.upto syntaxParsesSpec)) syntaxParsesUptoCard

/-- THE SECOND FORM's CARD OF 'merlonlaw06.SyntaxPrints'. -/
def syntaxPrintsUptoCard : Claim7 := { stood := { row := syntaxPrintsUptoRow, standIns := [], harness := (true, "af6b0c83708b6f1453c69e4f4127a14ba4e68b12aaacb718b78b7680f18943b1"), looks := true }, kinds := [], alts := [], laidByText := true, laidKinds := [.data, .data, .data, .handle, .sentinel, .sentinel], laidTests := true, laidLooks := .later }
def SyntaxPrintsUptoCardSaid : Prop := Claim7.holds Tryz.pinned (.plain (OpenSpec.upto syntaxPrintsSpec)) syntaxPrintsUptoCard

/-- THE SECOND FORM's CARD OF 'merlonlaw06.SyntaxBack'. -/
def syntaxBackUptoCard : Claim7 := { stood := { row := syntaxBackUptoRow, standIns := [], harness := (true, "af6b0c83708b6f1453c69e4f4127a14ba4e68b12aaacb718b78b7680f18943b1"), looks := true }, kinds := [], alts := [], laidByText := true, laidKinds := [.data, .data, .data, .handle, .sentinel, .sentinel], laidTests := true, laidLooks := .later }
def SyntaxBackUptoCardSaid : Prop := Claim7.holds Tryz.pinned (.plain (OpenSpec.upto syntaxBackSpec)) syntaxBackUptoCard
end Rows
end Go.Proofs.YtbgkkoloflcnbaaGreatDoor
