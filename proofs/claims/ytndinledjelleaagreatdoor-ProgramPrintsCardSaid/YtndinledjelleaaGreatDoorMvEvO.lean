/- A part of the proofs: machine, contracts, laws. No condition of its own. -/
import Derived.Test.YtndinledjelleaaGreatDoorMvEvL
set_option linter.unusedSimpArgs false
set_option linter.unusedVariables false
set_option linter.unusedSectionVars false
namespace Go.Proofs.Mv.V
structure AnsO where
 f : FuncId
 z : Nat
 es : List (List D)
 rest : List D
 d : D
def orcO : List AnsO → CallE
 | [], _, _, _ => none
 | a :: r, id, args, M => match args with
  | .own k g o n z :: rest => match M[k]? with
   | some ob => if Nat.beq id a.f && Nat.beq z a.z && Nat.beq o 0 && Nat.beq ob.g g && Nat.beq ob.z z && Nat.beq n a.es.length && Nat.ble n ob.es.length && eqLLE (ob.es.take n) a.es && leLE rest a.rest then some (a.d, M, []) else orcO r id args M
   | none => orcO r id args M
  | _ => orcO r id args M
def orcB (a b : CallE) : CallE := fun id args M => match a id args M with
 | some r => some r
 | none => b id args M
variable [GI]
theorem orcB_cs {P : Program} {a b : CallE} (ha : CS P a) (hb : CS P b) : CS P (orcB a b) := fun id args M d M' W h => by
 unfold orcB at h
 split at h
 ·rename_i r hr
  obtain rfl := Option.some.inj h
  exact ha _ _ _ _ _ _ hr
 ·exact hb _ _ _ _ _ _ h
theorem orcO_cs {P : Program} : ∀ (l : List AnsO), (∀ a ∈ l, ∀ m n dl, Lst m a.z a.es dl → ACalls P a.f (dl :: a.rest) m n (fun d' m' n' => d' = a.d ∧ m' = m ∧ n' = n)) → CS P (orcO l)
 | [], _ => fun id args M d M' W h => by simp only [orcO] at h; cases h
 | a :: r, ha => fun id args M d M' W h => by
  have ih := orcO_cs r fun b hb => ha b (by simp [hb])
  simp only [orcO] at h
  split at h
  ·rename_i k g o n z rest
   split at h
   ·rename_i ob hob
    split at h
    ·rename_i h1
     simp only [Bool.and_eq_true] at h1
     obtain ⟨⟨⟨⟨⟨⟨⟨⟨q1, q2⟩, q3⟩, q4⟩, q5⟩, q6⟩, q7⟩, q8⟩, q9⟩ := h1
     simp only [Option.some.injEq, Prod.mk.injEq] at h
     obtain ⟨rfl, rfl, rfl⟩ := h
     have e1 := Nat.eq_of_beq_eq_true q1
     have e2 := Nat.eq_of_beq_eq_true q2
     have e3 := Nat.eq_of_beq_eq_true q3
     have e4 := Nat.eq_of_beq_eq_true q4
     have e5 := Nat.eq_of_beq_eq_true q5
     have e6 := Nat.eq_of_beq_eq_true q6
     have e7 := Nat.le_of_ble_eq_true q7
     have e8 := eqLLE_eq _ _ q8
     subst e1; subst e2; subst e3; subst e4; subst e6
     have hL : Lst (toMem M) a.z a.es (.own k ob.g 0 a.es.length a.z) := Lst.mk (es' := ob.es) (by show M[k]? = _; rw [hob, ← e5]) rfl e7 e8
     exact ⟨acalls_le (.cons (Le.refl _) (leLE_le _ _ q9)) (ha a (by simp) (toMem M) M.length _ hL), FrE.refl _ _⟩
    ·exact ih _ _ _ _ _ _ h
   ·exact ih _ _ _ _ _ _ h
  ·exact ih _ _ _ _ _ _ h
end Go.Proofs.Mv.V
