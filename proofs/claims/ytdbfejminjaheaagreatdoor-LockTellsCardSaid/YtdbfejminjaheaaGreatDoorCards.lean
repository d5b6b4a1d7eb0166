/-
  DERIVED. GIVEN WITH THE SEED: THE CARDS: each row of YtdbfejminjaheaaGreatDoorRows.lean that lists a variable, with what it lists TIED to the program's text (the seventh form; the later family's looks); each row that meets fmt, with fmt's text TOLD by the authors' own Lean function (tested against real Go, not proved from fmt's source: count such statements apart). THE CARD IS WHAT COUNTS. Prove the row's statement (the work); the ties are given (YtdbfejminjaheaaGreatDoorTie.lean); close each card by the builder's one call (the guide's Derived/Test/ToyasCard.lean, 'card_holds'). Laid BY PROGRAM, IN A SANDBOX (cutbox-door.mjs). By AI agents, Wed Nov 11 2026. No macro, syntax, notation, axiom, sorry.
-/
import Derived.Test.YtdbfejminjaheaaGreatDoorRows
import GoSem.ClaimSeven
namespace Go.Proofs.YtdbfejminjaheaaGreatDoor
namespace Rows

/-- THE TIED CARD OF 'merlonlaw19.LockTells'. -/
def lockTellsCard : Claim7 := { stood := { row := lockTellsRow, standIns := [], harness := (true, "a1dc8f70128d303b550508ffb8c8850b59f82872548b25599d93716a17a0e351"), looks := true }, kinds := [], alts := [], laidByText := true, laidKinds := [.data, .data, .data, .data, .handle, .pinned], laidTests := true, laidLooks := .later }
def LockTellsCardSaid : Prop := Claim7.holds Tryz.pinned (.plain (OpenSpec.ofChange lockTellsSpec)) lockTellsCard

/-- THE TIED CARD OF 'merlonlaw23.TermBack'. -/
def termBackCard : Claim7 := { stood := { row := termBackRow, standIns := [], harness := (true, "a1dc8f70128d303b550508ffb8c8850b59f82872548b25599d93716a17a0e351"), looks := true }, kinds := [], alts := [], laidByText := true, laidKinds := [.data, .data, .data, .handle, .sentinel, .sentinel], laidTests := true, laidLooks := .later }
def TermBackCardSaid : Prop := Claim7.holds Tryz.pinned (.plain (OpenSpec.ofChange termBackSpec)) termBackCard

/-- THE TIED CARD OF 'merlonlaw23.TermTells'. -/
def termTellsCard : Claim7 := { stood := { row := termTellsRow, standIns := [], harness := (true, "a1dc8f70128d303b550508ffb8c8850b59f82872548b25599d93716a17a0e351"), looks := true }, kinds := [], alts := [], laidByText := true, laidKinds := [.data, .data, .data, .handle, .sentinel, .sentinel], laidTests := true, laidLooks := .later }
def TermTellsCardSaid : Prop := Claim7.holds Tryz.pinned (.plain (OpenSpec.ofChange termTellsSpec)) termTellsCard

/-- THE TIED CARD OF 'merlonlaw25.ReduceTells'. -/
def reduceTellsCard : Claim7 := { stood := { row := reduceTellsRow, standIns := [], harness := (true, "a1dc8f70128d303b550508ffb8c8850b59f82872548b25599d93716a17a0e351"), looks := true }, kinds := [], alts := [], laidByText := true, laidKinds := [.data, .data, .data, .sentinel, .sentinel], laidTests := true, laidLooks := .later }
def ReduceTellsCardSaid : Prop := Claim7.holds Tryz.pinned (.plain (OpenSpec.ofChange reduceTellsSpec)) reduceTellsCard

/-- THE TIED CARD OF 'merlonlaw25.ReduceParts'. -/
def reducePartsCard : Claim7 := { stood := { row := reducePartsRow, standIns := [], harness := (true, "a1dc8f70128d303b550508ffb8c8850b59f82872548b25599d93716a17a0e351"), looks := true }, kinds := [], alts := [], laidByText := true, laidKinds := [.data, .data, .data, .sentinel, .sentinel], laidTests := true, laidLooks := .later }
def ReducePartsCardSaid : Prop := Claim7.holds Tryz.pinned (.plain (OpenSpec.ofChange reducePartsSpec)) reducePartsCard

/-- THE SECOND FORM's CARD OF 'merlonlaw19.LockTells'. -/
def lockTellsUptoCard : Claim7 := { stood := { row := lockTellsUptoRow, standIns := [], harness := (true, "a1dc8f70128d303b550508ffb8c8850b59f82872548b25599d93716a17a0e351"), looks := true }, kinds := [], alts := [], laidByText := true, laidKinds := [.data, .data, .data, .data, .handle, .pinned], laidTests := true, laidLooks := .later }
def LockTellsUptoCardSaid : Prop := Claim7.holds Tryz.pinned (.plain (OpenSpec.upto lockTellsSpec)) lockTellsUptoCard

/-- THE SECOND FORM's CARD OF 'merlonlaw23.TermBack'. -/
def termBackUptoCard : Claim7 := { stood := { row := termBackUptoRow, standIns := [], harness := (true, "a1dc8f70128d303b550508ffb8c8850b59f82872548b25599d93716a17a0e351"), looks := true }, kinds := [], alts := [], laidByText := true, laidKinds := [.data, .data, .data, .handle, .sentinel, .sentinel], laidTests := true, laidLooks := .later }
def TermBackUptoCardSaid : Prop := Claim7.holds Tryz.pinned (.plain (OpenSpec.upto termBackSpec)) termBackUptoCard

/-- THE SECOND FORM's CARD OF 'merlonlaw23.TermTells'. -/
def termTellsUptoCard : Claim7 := { stood := { row := termTellsUptoRow, standIns := [], harness := (true, "a1dc8f70128d303b550508ffb8c8850b59f82872548b25599d93716a17a0e351"), looks := true }, kinds := [], alts := [], laidByText := true, laidKinds := [.data, .data, .data, .handle, .sentinel, .sentinel], laidTests := true, laidLooks := .later }
def TermTellsUptoCardSaid : Prop := Claim7.holds Tryz.pinned (.plain (OpenSpec.upto termTellsSpec)) termTellsUptoCard

/-- THE SECOND FORM's CARD OF 'merlonlaw25.ReduceTells'. -/
def reduceTellsUptoCard : Claim7 := { stood := { row := reduceTellsUptoRow, standIns := [], harness := (true, "a1dc8f70128d303b550508ffb8c8850b59f82872548b25599d93716a17a0e351"), looks := true }, kinds := [], alts := [], laidByText := true, laidKinds := [.data, .data, .data, .sentinel, .sentinel], laidTests := true, laidLooks := .later }
def ReduceTellsUptoCardSaid : Prop := Claim7.holds Tryz.pinned (.plain (OpenSpec.upto reduceTellsSpec)) reduceTellsUptoCard

/-- THE SECOND FORM's CARD OF 'merlonlaw25.ReduceParts'. -/
def reducePartsUptoCard : Claim7 := { stood := { row := reducePartsUptoRow, standIns := [], harness := (true, "a1dc8f70128d303b550508ffb8c8850b59f82872548b25599d93716a17a0e351"), looks := true }, kinds := [], alts := [], laidByText := true, laidKinds := [.data, .data, .data, .sentinel, .sentinel], laidTests := true, laidLooks := .later }
def ReducePartsUptoCardSaid : Prop := Claim7.holds Tryz.pinned (.plain (OpenSpec.upto reducePartsSpec)) reducePartsUptoCard
end Rows
end Go.Proofs.YtdbfejminjaheaaGreatDoor
