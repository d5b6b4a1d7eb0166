/- A part of the proofs of the seat YtojdgajdhacjdaaGreatDoor: the abstract machine, the contracts of the functions, the laws. No condition of its own. -/
import Derived.Test.YtojdgajdhacjdaaGreatDoorMvEvP
import Derived.Test.YtojdgajdhacjdaaGreatDoorFact
set_option linter.unusedSimpArgs false
set_option linter.unusedVariables false
set_option linter.unusedSectionVars false
open Go Go.Proofs Go.Proofs.Mv.V
namespace Go.Proofs.Mv.App
theorem ev_mixed : Tryz.prog.follows .mixedOrders = true := by kernel_rfl
theorem ev_names : Tryz.prog.funcs.all (fun fn => !(fn.name == "runtime.NumGoroutine")) = true := by kernel_rfl
theorem run_at [GI] (fuel k : Nat) {f : FuncId} {args : List D} {x : Value} (ha : belowL 0 args = true)
    (h : (match callE Tryz.prog noOrc (fun _ => false) fuel k f args [] with | some (.v y, _, _) => eqVE y x | _ => false) = true) (m : Mem) (n : Nat) :
    ACalls Tryz.prog f args m n (fun d' m' n' => d' = .v x ∧ m' = m ∧ n' = n) := run_flat noOrc_cs ev_mixed ev_names _ fuel k ha h m n
end Go.Proofs.Mv.App
