/- A part of the proofs of the seat YtdbfejminjaheaaGreatDoor: the abstract machine, the contracts of the functions, the laws. No condition of its own. -/
import Derived.LaidMore
import Derived.LaidHandle
import Derived.Lay
import Derived.ProofKit
import Derived.Test.YtdbfejminjaheaaGreatDoorRows
set_option linter.unusedSimpArgs false
set_option linter.unusedVariables false
set_option linter.unusedSectionVars false
namespace Go.Proofs.YtdbfejminjaheaaGreatDoor
open Go.ChangeShapes Go.WideShapes Go.ChangeAt Go.RowKit
set_option maxRecDepth 100000
set_option maxHeartbeats 40000000
abbrev laid6 : List (String × DataW Unit) := [("math/bits.deBruijn32tab", Rows.laid_math_bits_deBruijn32tab), ("math/bits.deBruijn64tab", Rows.laid_math_bits_deBruijn64tab), ("internal/strconv.uint64pow10", Rows.laid_internal_strconv_uint64pow10), ("unicode/utf8.acceptRanges", Rows.laid_unicode_utf8_acceptRanges), ("errors.errorType", Rows.laid_errors_errorType), ("unicode/utf8.first", Rows.laid_unicode_utf8_first)]
theorem lf1 : (laid6.filter fun x => x.2.handleName?.isSome) = [("errors.errorType", Rows.laid_errors_errorType)] := by kernel_rfl
theorem lf2 : (laid6.filter fun x => x.2.handleName?.isNone) = [("math/bits.deBruijn32tab", Rows.laid_math_bits_deBruijn32tab), ("math/bits.deBruijn64tab", Rows.laid_math_bits_deBruijn64tab), ("internal/strconv.uint64pow10", Rows.laid_internal_strconv_uint64pow10), ("unicode/utf8.acceptRanges", Rows.laid_unicode_utf8_acceptRanges), ("unicode/utf8.first", Rows.laid_unicode_utf8_first)] := by kernel_rfl
abbrev pins : List (String × DataW Unit) := laid6.filter fun x => x.2.handleName?.isNone
noncomputable def door6 (os : Os) : World := (World.doorLaid Tryz.prog 79 os).layVars Tryz.prog pins
theorem pins1 : (pins.filter fun x => (pins.map (·.1)).contains x.1) = pins := by kernel_rfl
theorem pins2 : (pins.filter fun x => !(pins.map (·.1)).contains x.1) = [] := by kernel_rfl
theorem door_fits (os : Os) : (World.doorLaid Tryz.prog 79 os).layFits Tryz.prog pins [] = true := by kernel_rfl
theorem door_ifaces (os : Os) : (World.doorLaid Tryz.prog 79 os).layIfaces Tryz.prog pins (door6 os) = true := by kernel_rfl
theorem door_pins (os : Os) : laidMet Tryz.prog pins (door6 os) :=
  laidMet_layVars (w0 := World.doorLaid Tryz.prog 79 os) (pins.map (·.1)) [] (by rw [pins1]; rfl) (by rw [pins1]; exact door_fits os) (by rw [pins1]; exact door_ifaces os) (by rw [pins2]; exact LaidIn.none)
/-- The start's heap meets the condition. -/
theorem door_met (os : Os) (args : Array Value) : laidMetH Tryz.prog laid6 ((door6 os).forCall (fun _ _ => 0) ⟨#[], args, []⟩).memory :=
  laidMetH_of_parts3 (fuel := 8) ((door_pins os).of_heap (by simp [World.memory, World.forCall, Input.heap])) (by kernel_rfl) (by kernel_rfl)
theorem door_os (os : Os) : (door6 os).os = os := (World.layVars_os _ _ _).trans rfl
theorem door_shape (os : Os) : (door6 os).Shaped Tryz.prog := World.shaped_of_ZipB (by kernel_rfl) (by kernel_rfl)
end Go.Proofs.YtdbfejminjaheaaGreatDoor
