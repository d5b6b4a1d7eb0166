/- A part of the proofs: machine, contracts, laws. No condition of its own. -/
import Derived.Test.YtndinledjelleaaGreatDoorRows
import Derived.SevenTiedAt
import Derived.KernelRfl
set_option linter.unusedSimpArgs false
set_option linter.unusedVariables false
set_option linter.unusedSectionVars false
namespace Go.Proofs.YtndinledjelleaaGreatDoor
set_option maxRecDepth 100000
set_option maxHeartbeats 40000000
theorem pg_goes : false = Rows.programPrintsRow.goesBy Tryz.pinned.checked.prog := by kernel_rfl
end Go.Proofs.YtndinledjelleaaGreatDoor
