/- A part of the proofs of the seat YtdbfejminjaheaaGreatDoor: the abstract machine, the contracts of the functions, the laws. No condition of its own. -/
import Derived.Test.YtdbfejminjaheaaGreatDoorTy
set_option linter.unusedSimpArgs false
set_option linter.unusedVariables false
set_option linter.unusedSectionVars false
open Go Go.Proofs Go.Proofs.Mv.V
namespace Go.Proofs.Mv.App
theorem decF_snoc (s : List UInt8) (x : UInt8) : decF (s ++ [x]) = 10 * decF s + (x.toNat - 48) := by simp [decF]
theorem decF_small {s : List UInt8} (h : s.all isDigit = true) (hl : s.length ≤ 9) : decF s < 1000000000 := by
  have h1 := decA_lt s 0 h
  have h2 : 10 ^ s.length ≤ 10 ^ 9 := Nat.pow_le_pow_right (by omega) hl
  have h9 : (10 : Nat) ^ 9 = 1000000000 := by decide
  have : decF s = decA 0 s := rfl
  omega
end Go.Proofs.Mv.App
