/- A part of the proofs: machine, contracts, laws. No condition of its own. -/
import Derived.Test.YtndinledjelleaaGreatDoorP04
import Derived.Test.YtndinledjelleaaGreatDoorP02
set_option linter.unusedSimpArgs false
set_option linter.unusedVariables false
set_option linter.unusedSectionVars false
open Go Go.Proofs Go.Proofs.Mv.V
namespace Go.Proofs.Mv.App
/-! What a type's text is, token by token. -/
def joinK (sep : Sk) : List (List Sk) → List Sk
 | [] => []
 | [s] => s
 | s :: r => s ++ sep :: joinK sep r
def nk (g : Bool) : Int := if g then 2 else 1
def LxP (s : List UInt8) (k : List Sk) : Prop := ∀ r kr, stopW r → r.head? ≠ some 46 → Lx r kr → Lx (s ++ r) (k ++ kr)
theorem joinB_cons {sep s : List UInt8} {r : List (List UInt8)} (h : r ≠ []) : joinB sep (s :: r) = s ++ sep ++ joinB sep r := by cases r <;> simp_all [joinB]
theorem joinK_cons {sep : Sk} {s : List Sk} {r : List (List Sk)} (h : r ≠ []) : joinK sep (s :: r) = s ++ sep :: joinK sep r := by cases r <;> simp_all [joinK]
inductive LxL : List (List UInt8) → List (List Sk) → Prop where
 | nil : LxL [] []
 | cons {s : List UInt8} {k : List Sk} {ss : List (List UInt8)} {ks : List (List Sk)} (h : LxP s k) (hl : LxL ss ks) : LxL (s :: ss) (k :: ks)
theorem LxL.len {ss : List (List UInt8)} {ks : List (List Sk)} (h : LxL ss ks) : ss = [] ↔ ks = [] := by cases h <;> simp
theorem LxL.join {ss : List (List UInt8)} {ks : List (List Sk)} (h : LxL ss ks) : LxP (joinB comma ss) (joinK (4, [44]) ks) := by
 induction h with
 | nil => intro r kr _ _ h; exact h
 | cons h hl ih =>
  rename_i s k ss ks
  intro r kr h1 h2 h3
  by_cases e : ss = []
  ·have e' := hl.len.1 e
   subst e; subst e'
   exact h r kr h1 h2 h3
  ·have e' : ks ≠ [] := fun q => e (hl.len.2 q)
   rw [joinB_cons e, joinK_cons e']
   have h4 : Lx (44 :: 32 :: (joinB comma ss ++ r)) ((4, [44]) :: (joinK (4, [44]) ks ++ kr)) := by
    exact Lx.sign (by decide) (Lx.sp (ih r kr h1 h2 h3))
   have := h _ _ (stopW_cons (by decide)) (by simp) h4
   simpa [comma, List.append_assoc] using this
theorem LxL.dropLast {ss : List (List UInt8)} {ks : List (List Sk)} (h : LxL ss ks) : LxL ss.dropLast ks.dropLast := by
 induction h with
 | nil => exact .nil
 | cons h hl ih =>
  rename_i s k ss ks
  by_cases e : ss = []
  ·have e' := hl.len.1 e
   subst e; subst e'; exact .nil
  ·have e' : ks ≠ [] := fun q => e (hl.len.2 q)
   rw [List.dropLast_cons_of_ne_nil e, List.dropLast_cons_of_ne_nil e']
   exact .cons h ih
theorem LxL.last {ss : List (List UInt8)} {ks : List (List Sk)} (h : LxL ss ks) (hne : ss ≠ []) : LxP (ss.getLastD []) (ks.getLastD []) := by
 induction h with
 | nil => exact absurd rfl hne
 | cons h hl ih =>
  rename_i s k ss ks
  by_cases e : ss = []
  ·have e' := hl.len.1 e
   subst e; subst e'; exact h
  ·have e' : ks ≠ [] := fun q => e (hl.len.2 q)
   have := ih e
   cases ss with
   | nil => exact absurd rfl e
   | cons a ss => cases ks with
    | nil => exact absurd rfl e'
    | cons b ks => simpa using this
theorem stepOk_nam {g : Bool} {l : List (List UInt8)} (h : risingN g l = true) : ∀ x ∈ l, namOk g x = true := by
 intro x hx
 obtain ⟨i, hi, rfl⟩ := List.mem_iff_getElem.1 hx
 have := List.all_eq_true.1 h i (List.mem_range.2 hi)
 simp only [stepOk, Bool.and_eq_true] at this
 rw [List.getD_eq_getElem?_getD, List.getElem?_eq_getElem hi] at this
 exact this.1
theorem LxP.sign {x : UInt8} {s : List UInt8} {k : List Sk} (hx : x ∈ ([123, 125, 40, 41, 91, 93, 60, 62, 44, 58, 61] : List UInt8)) (h : LxP s k) : LxP (x :: s) ((4, [x]) :: k) :=
 fun r kr h1 h2 h3 => Lx.sign hx (h r kr h1 h2 h3)
theorem LxP.sp {s : List UInt8} {k : List Sk} (h : LxP s k) : LxP (32 :: s) k := fun r kr h1 h2 h3 => (h r kr h1 h2 h3).sp
theorem LxP.name {g : Bool} {w : List UInt8} (h1 : namOk g w = true) : LxP w [(if g then 2 else 1, w)] := fun r kr h2 h3 h4 => Lx.name h1 h2 h4
theorem LxP.word {w : List UInt8} (h : w.head?.any isGreat = true) (hw : w.all isWord = true) : LxP w [(2, w)] := fun r kr h2 h3 h4 => Lx.upper h hw h2 h4
theorem shape_parts {t : Ty} (h : shapeT t = true) : t.subs.length ≤ 20 ∧ shapeK t = true := by simpa [shapeT] using h
/-! What is read. -/
section
variable {l : List Tok} {a c : Nat} {x : Sk} {r : List Sk}
end
/-! names that rise -/
theorem emptyT_parts {k : Int} {p : List UInt8} {j : Int} {m n : List UInt8} {ns : List (List UInt8)} {ts : List Ty} (h : emptyT (.mk k p j m n ns ts) = true) : p = [] ∧ j = 0 ∧ m = [] ∧ n = [] := by
 simp only [emptyT, Ty.pkg, Ty.major, Ty.mod, Ty.name, Bool.and_eq_true, decide_eq_true_eq] at h
 exact ⟨h.1.1.1, h.1.1.2, h.1.2, h.2⟩
theorem deepTs_mem {t : Ty} : ∀ {l : List Ty}, t ∈ l → deepT t ≤ deepTs l
 | [], h => by cases h
 | x :: l, h => by
  simp only [deepTs]
  rcases List.mem_cons.1 h with rfl | h
  ·omega
  ·have := deepTs_mem h; omega
end Go.Proofs.Mv.App
