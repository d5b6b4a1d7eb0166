/- A part of the proofs: machine, contracts, laws. No condition of its own. -/
import Derived.Test.YtndinledjelleaaGreatDoorMvEvN
import Derived.Test.YtndinledjelleaaGreatDoorMvD
set_option linter.unusedSimpArgs false
set_option linter.unusedVariables false
set_option linter.unusedSectionVars false
namespace Go.Proofs.Mv.V
def isNilV : Value → Bool
 | .slice none 0 0 => true
 | _ => false
theorem isNilV_eq {x : Value} (h : isNilV x = true) : x = .slice none 0 0 := by
 unfold isNilV at h
 split at h
 ·rfl
 ·cases h
mutual
def leE : D → D → Bool
 | .v x, b => match b with
  | .v y => eqVE x y
  | .sl _ [] => isNilV x
  | _ => false
 | .mt, b => match b with
  | .mt => true
  | .sl _ [] => true
  | _ => false
 | .sl z l, b => match b with
  | .sl z' l' => Nat.beq z z' && leLLE l l'
  | _ => false
 | .agg l, b => match b with
  | .agg l' => leLE l l'
  | _ => false
 | .tup l, b => match b with
  | .tup l' => leLE l l'
  | _ => false
 | .iface t d, b => match b with
  | .iface t' d' => Nat.beq t t' && leE d d'
  | _ => false
 | .rptr _ l, b => match b with
  | .rptr none l' => leLE l l'
  | _ => false
 | .any, b => eqE .any b
 | .bb, b => eqE .bb b
 | .ptr k g i j, b => eqE (.ptr k g i j) b
 | .own k g o n z, b => eqE (.own k g o n z) b
 | .func f a c, b => eqE (.func f a c) b
def leLE : List D → List D → Bool
 | [], b => b.isEmpty
 | x :: l, b => match b with
  | y :: r => leE x y && leLE l r
  | [] => false
def leLLE : List (List D) → List (List D) → Bool
 | [], b => b.isEmpty
 | x :: l, b => match b with
  | y :: r => leLE x y && leLLE l r
  | [] => false
end
variable [GI]
theorem le_of_eqE {a b : D} (h : eqE a b = true) : Le a b := by rw [eqE_eq a b h]; exact Le.refl b
mutual
theorem leE_le : ∀ (a b : D), leE a b = true → Le a b
 | .v x, b, h => by
  simp only [leE] at h
  split at h
  ·rw [eqVE_eq h]; exact Le.refl _
  ·rw [isNilV_eq h]; exact Le_nil _
  ·cases h
 | .mt, b, h => by
  simp only [leE] at h
  split at h
  ·exact Le.refl _
  ·exact Le_mt _
  ·cases h
 | .sl z l, b, h => by
  simp only [leE] at h
  split at h
  ·simp only [Bool.and_eq_true] at h
   rw [Nat.eq_of_beq_eq_true h.1]
   exact Le_sl (leLLE_le l _ h.2)
  ·cases h
 | .agg l, b, h => by
  simp only [leE] at h
  split at h
  ·exact Le_agg (leLE_le l _ h)
  ·cases h
 | .tup l, b, h => by
  simp only [leE] at h
  split at h
  ·exact Le_tup (leLE_le l _ h)
  ·cases h
 | .iface t d, b, h => by
  simp only [leE] at h
  split at h
  ·simp only [Bool.and_eq_true] at h
   rw [Nat.eq_of_beq_eq_true h.1]
   exact Le_iface (leE_le d _ h.2)
  ·cases h
 | .rptr t l, b, h => by
  simp only [leE] at h
  split at h
  ·intro w ν F y hy
   exact Le_rptr (leLE_le l _ h) w ν F y (Le_rptr_none w ν F y hy)
  ·cases h
 | .any, b, h => le_of_eqE (by simpa only [leE] using h)
 | .bb, b, h => le_of_eqE (by simpa only [leE] using h)
 | .ptr k g i j, b, h => le_of_eqE (by simpa only [leE] using h)
 | .own k g o n z, b, h => le_of_eqE (by simpa only [leE] using h)
 | .func f a c, b, h => le_of_eqE (by simpa only [leE] using h)
theorem leLE_le : ∀ (a b : List D), leLE a b = true → LeL a b
 | [], b, h => by
  simp only [leLE, List.isEmpty_iff] at h
  subst h; exact .nil
 | x :: l, b, h => by
  simp only [leLE] at h
  split at h
  ·simp only [Bool.and_eq_true] at h
   exact .cons (leE_le x _ h.1) (leLE_le l _ h.2)
  ·cases h
theorem leLLE_le : ∀ (a b : List (List D)), leLLE a b = true → LeE a b
 | [], b, h => by
  simp only [leLLE, List.isEmpty_iff] at h
  subst h; exact .nil
 | x :: l, b, h => by
  simp only [leLLE] at h
  split at h
  ·simp only [Bool.and_eq_true] at h
   exact .cons (leLE_le x _ h.1) (leLLE_le l _ h.2)
  ·cases h
end
structure AnsE where
 f : FuncId
 args : List D
 d : D
def orcL : List AnsE → CallE
 | [], _, _, _ => none
 | a :: r, id, args, M => if Nat.beq id a.f && leLE args a.args then some (a.d, M, []) else orcL r id args M
theorem orcL_cs {P : Program} : ∀ (l : List AnsE), (∀ a ∈ l, ∀ m n, ACalls P a.f a.args m n (fun d' m' n' => d' = a.d ∧ m' = m ∧ n' = n)) → CS P (orcL l)
 | [], _ => fun id args M d M' W h => by simp only [orcL] at h; cases h
 | a :: r, ha => fun id args M d M' W h => by
  simp only [orcL] at h
  split at h
  ·rename_i h1
   simp only [Bool.and_eq_true] at h1
   simp only [Option.some.injEq, Prod.mk.injEq] at h
   obtain ⟨rfl, rfl, rfl⟩ := h
   have e := Nat.eq_of_beq_eq_true h1.1
   subst e
   exact ⟨acalls_le (leLE_le _ _ h1.2) (ha a (by simp) (toMem M) M.length), FrE.refl _ _⟩
  ·exact orcL_cs r (fun b hb => ha b (by simp [hb])) id args M d M' W h
end Go.Proofs.Mv.V
