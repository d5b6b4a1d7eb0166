/-
  DERIVED. GIVEN WITH THE SEED: THE CARDS: each row of YtihbegkefjjhpaaGreatDoorRows.lean that lists a variable, with what it lists TIED to the program's text (the seventh form; the later family's looks); each row that meets fmt, with fmt's text TOLD by the authors' own Lean function (tested against real Go, not proved from fmt's source: count such statements apart). THE CARD IS WHAT COUNTS. Prove the row's statement (the work); the ties are given (YtihbegkefjjhpaaGreatDoorTie.lean); close each card by the builder's one call (the guide's Derived/Test/ToyasCard.lean, 'card_holds'). Laid BY PROGRAM, IN A SANDBOX (cutbox-door.mjs). By AI agents, Wed Nov 11 2026. No macro, syntax, notation, axiom, sorry.
-/
import Derived.Test.YtihbegkefjjhpaaGreatDoorRows
import GoSem.ClaimSeven
namespace Go.Proofs.YtihbegkefjjhpaaGreatDoor
namespace Rows

/-- THE TIED CARD OF 'merlonlaw23.TermBack'. -/
def termBackCard : Claim7 := { stood := { row := termBackRow, standIns := [], harness := (true, "94b0ddb0698ffd6d04e285a74fc9615418af1487c51c71dfd5647cf845bfae92"), looks := true }, kinds := [], alts := [], laidByText := true, laidKinds := [.data, .data, .data, .handle, .sentinel, .sentinel], laidTests := true, laidLooks := .later }
def TermBackCardSaid : Prop := Claim7.holds Tryz.pinned (.plain (OpenSpec.ofChange termBackSpec)) termBackCard

/-- THE TIED CARD OF 'merlonlaw23.TermTells'. -/
def termTellsCard : Claim7 := { stood := { row := termTellsRow, standIns := [], harness := (true, "94b0ddb0698ffd6d04e285a74fc9615418af1487c51c71dfd5647cf845bfae92"), looks := true }, kinds := [], alts := [], laidByText := true, laidKinds := [.data, .data, .data, .handle, .sentinel, .sentinel], laidTests := true, laidLooks := .later }
def TermTellsCardSaid : Prop := Claim7.holds Tryz.pinned (.plain (OpenSpec.ofChange termTellsSpec)) termTellsCard

/-- THE TIED CARD OF 'merlonlaw25.ReduceTells'. -/
def reduceTellsCard : Claim7 := { stood := { row := reduceTellsRow, standIns := [], harness := (true, "94b0ddb0698ffd6d04e285a74fc9615418af1487c51c71dfd5647cf845bfae92"), looks := true }, kinds := [], alts := [], laidByText := true, laidKinds := [.data, .data, .data, .sentinel, .sentinel], laidTests := true, laidLooks := .later }
def ReduceTellsCardSaid : Prop := Claim7.holds Tryz.pinned (.plain (OpenSpec.ofChange reduceTellsSpec)) reduceTellsCard

/-- THE TIED CARD OF 'merlonlaw25.ReduceParts'. -/
def reducePartsCard : Claim7 := { stood := { row := reducePartsRow, standIns := [], harness := (true, "94b0ddb0698ffd6d04e285a74fc9615418af1487c51c71dfd5647cf845bfae92"), looks := true }, kinds := [], alts := [], laidByText := true, laidKinds := [.data, .data, .data, .sentinel, .sentinel], laidTests := true, laidLooks := .later }
def ReducePartsCardSaid : Prop := Claim7.holds Tryz.pinned (.plain (OpenSpec.ofChange reducePartsSpec)) reducePartsCard

/-- THE SECOND FORM's CARD OF 'merlonlaw23.TermBack'. -/
def termBackUptoCard : Claim7 := { stood := { row := termBackUptoRow, standIns := [], harness := (true, "94b0ddb0698ffd6d04e285a74fc9615418af1487c51c71dfd5647cf845bfae92"), looks := true }, kinds := [], alts := [], laidByText := true, laidKinds := [.data, .data, .data, .handle, .sentinel, .sentinel], laidTests := true, laidLooks := .later }
def TermBackUptoCardSaid : Prop := Claim7.holds Tryz.pinned (.plain (OpenSpec.upto termBackSpec)) termBackUptoCard

/-- THE SECOND FORM's CARD OF 'merlonlaw23.TermTells'. -/
def termTellsUptoCard : Claim7 := { stood := { row := termTellsUptoRow, standIns := [], harness := (true, "94b0ddb0698ffd6d04e285a74fc9615418af1487c51c71dfd5647cf845bfae92"), looks := true }, kinds := [], alts := [], laidByText := true, laidKinds := [.data, .data, .data, .handle, .sentinel, .sentinel], laidTests := true, laidLooks := .later }
def TermTellsUptoCardSaid : Prop := Claim7.holds Tryz.pinned (.plain (OpenSpec.upto termTellsSpec)) termTellsUptoCard

/-- THE SECOND FORM's CARD OF 'merlonlaw25.ReduceTells'. -/
def reduceTellsUptoCard : Claim7 := { stood := { row := reduceTellsUptoRow, standIns := [], harness := (true, "94b0ddb0698ffd6d04e285a74fc9615418af1487c51c71dfd5647cf845bfae92"), looks := true }, kinds := [], alts := [], laidByText := true, laidKinds := [.data, .data, .data, .sentinel, .sentinel], laidTests := true, laidLooks := .later }
def ReduceTellsUptoCardSaid : Prop := Claim7.holds Tryz.pinned (.plain (OpenSpec.upto reduceTellsSpec)) reduceTellsUptoCard

/-- THE SECOND FORM's CARD OF 'merlonlaw25.ReduceParts'. -/
def reducePartsUptoCard : Claim7 := { stood := { row := reducePartsUptoRow, standIns := [], harness := (true, "94b0ddb0698ffd6d04e285a74fc9615418af1487c51c71dfd5647cf845bfae92"), looks := true }, kinds := [], alts := [], laidByText := true, laidKinds := [.data, .data, .data, .sentinel, .sentinel], laidTests := true, laidLooks := .later }
def ReducePartsUptoCardSaid : Prop := Claim7.holds Tryz.pinned (.plain (OpenSpec.upto reducePartsSpec)) reducePartsUptoCard
end Rows
end Go.Proofs.YtihbegkefjjhpaaGreatDoor
