/- A part of the proofs of the seat YtdbfejminjaheaaGreatDoor: the abstract machine, the contracts of the functions, the laws. No condition of its own. -/
import Derived.Test.YtdbfejminjaheaaGreatDoorTyA
set_option linter.unusedSimpArgs false
set_option linter.unusedVariables false
set_option linter.unusedSectionVars false
open Go Go.Proofs Go.Proofs.Mv.V
namespace Go.Proofs.Mv.App
theorem small_len {s : List UInt8} (h : smallN s = true) : s.length ≤ 20 := (small_parts h).2.2.1
def linesF (l : List (List UInt8)) : List UInt8 := (l.map (· ++ [10])).flatten
theorem linesF_snoc (l : List (List UInt8)) (s : List UInt8) : linesF (l ++ [s]) = linesF l ++ s ++ [10] := by simp [linesF]
theorem linesF_len {B : Nat} : ∀ {l : List (List UInt8)}, (∀ s ∈ l, s.length ≤ B) → (linesF l).length ≤ l.length * (B + 1)
  | [], _ => by simp [linesF]
  | s :: l, h => by
    have h1 := linesF_len (l := l) fun t ht => h t (by simp [ht])
    have h2 := h s (by simp)
    simp only [linesF, List.map_cons, List.flatten_cons, List.length_append, List.length_cons, List.length_nil, Nat.add_mul] at h1 ⊢
    omega
end Go.Proofs.Mv.App
