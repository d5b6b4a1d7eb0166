/- A part of the proofs: machine, contracts, laws. No condition of its own. -/
import Derived.Test.YtndinledjelleaaGreatDoorMvD
set_option linter.unusedSimpArgs false
set_option linter.unusedVariables false
set_option linter.unusedSectionVars false
namespace Go.Proofs.Mv.V
variable [GI]
theorem LeE.con {w : World} {ν : Nu} {F : Nat → Prop} {z : Nat} {l l' : List (List D)} (h : LeE l l') : ∀ b o, ConEs w ν F z l b o → ConEs w ν F z l' b o := by
 induction h with
 | nil => intro b o h; exact h
 | cons h _ ih =>
  intro b o hh
  simp only [ConEs] at hh ⊢
  obtain ⟨h1, h2, h3⟩ := hh
  exact ⟨by rw [← h.len]; exact h1, Le_of_conCs h _ _ h2, ih _ _ h3⟩
def Fin (n : Nat) (m : Mem) (k : Nat) (o : Obj) (X : D → Prop) : D → Mem → Nat → Prop := Hq (fun d m' _ => X d ∧ m' k = some o ∧ ∀ j, j < n → j ≠ k → m' j = m j) tg
end Go.Proofs.Mv.V
