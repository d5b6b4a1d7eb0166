/- A part of the proofs of the seat YtdbfejminjaheaaGreatDoor: the abstract machine, the contracts of the functions, the laws. No condition of its own. -/
import Derived.Test.YtdbfejminjaheaaGreatDoorTy
set_option linter.unusedSimpArgs false
set_option linter.unusedVariables false
set_option linter.unusedSectionVars false
open Go Go.Proofs Go.Proofs.Mv.V
set_option maxRecDepth 10000
namespace Go.Proofs.Mv.App
theorem firstT_le2 (x : UInt8) (r : List UInt8) : (firstT (x :: r)).2 ≤ r.length + 1 := firstT_le x r
theorem toks_ok : ∀ (k : Nat) (s : List UInt8) (a : Nat), (tokF k s a).1.length ≤ s.length ∧ ∀ t ∈ (tokF k s a).1, t.text.length ≤ s.length := by
  intro k
  induction k with
  | zero => intro s a; simp [tokF]
  | succ k ih =>
    intro s a
    match s with
    | [] => simp [tokF]
    | x :: r =>
      have drop : ∀ q b, ((tokF k ((x :: r).drop q) b).1.length ≤ (x :: r).length - q) ∧ ∀ t ∈ (tokF k ((x :: r).drop q) b).1, t.text.length ≤ (x :: r).length - q := by
        intro q b
        have := ih ((x :: r).drop q) b
        rw [List.length_drop] at this
        exact this
      simp only [tokF]
      split
      · have := ih r (a + 1)
        simp only [List.length_cons]
        exact ⟨by omega, fun t ht => by have := this.2 t ht; omega⟩
      · split
        · have := drop (runN (fun y => !decide (y.toNat = 10)) (x :: r)) (a + runN (fun y => !decide (y.toNat = 10)) (x :: r))
          exact ⟨by omega, fun t ht => by have := this.2 t ht; omega⟩
        · split
          · simp
          · rename_i hf
            have := drop (firstT (x :: r)).2 (a + (firstT (x :: r)).2)
            have hl := firstT_le x r
            refine ⟨by simp only [List.length_cons] at this ⊢; omega, fun t ht => ?_⟩
            rcases List.mem_cons.1 ht with rfl | ht
            · simp only [List.length_take]; omega
            · have := this.2 t ht; omega
theorem toks_tk {s : List UInt8} (h : s.length ≤ 1000000) : TkOk (toksAt s 0).1 :=
  ⟨by have := (toks_ok (s.length + 1) s 0).1; unfold toksAt; omega, fun t ht => by have := (toks_ok (s.length + 1) s 0).2 t (by simpa [toksAt] using ht); omega⟩
end Go.Proofs.Mv.App
