/- A part of the proofs: machine, contracts, laws. No condition of its own. -/
import Derived.Test.YtndinledjelleaaGreatDoorRows
import Derived.JoinedOf
import Derived.KernelRfl
set_option linter.unusedSimpArgs false
set_option linter.unusedVariables false
set_option linter.unusedSectionVars false
namespace Go.Proofs.YtndinledjelleaaGreatDoor
set_option maxRecDepth 100000
set_option maxHeartbeats 40000000
theorem pg_joined : joinedFacts Tryz.pinned.checked.prog 5 Tryz.f5 Rows.programPrintsSpec Rows.programPrintsRow = true := by
 unfold joinedFacts
 iterate 31 refine Bool.and_eq_true_iff.2 ⟨?_, by as_aux_lemma => kernel_rfl⟩
 as_aux_lemma => kernel_rfl
end Go.Proofs.YtndinledjelleaaGreatDoor
