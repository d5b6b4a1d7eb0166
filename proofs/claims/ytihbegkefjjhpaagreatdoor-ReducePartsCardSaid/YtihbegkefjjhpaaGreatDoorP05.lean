/- A part of the proofs: machine, contracts, laws. No condition of its own. -/
import Derived.Test.YtihbegkefjjhpaaGreatDoorP04
set_option linter.unusedSimpArgs false
set_option linter.unusedVariables false
set_option linter.unusedSectionVars false
open Go Go.Proofs Go.Proofs.Mv.V
namespace Go.Proofs.Mv.App
/-! What a type's text is, token by token. -/
def LxP (s : List UInt8) (k : List Sk) : Prop := ∀ r kr, stopW r → r.head? ≠ some 46 → Lx r kr → Lx (s ++ r) (k ++ kr)
inductive LxL : List (List UInt8) → List (List Sk) → Prop where
  | nil : LxL [] []
  | cons {s : List UInt8} {k : List Sk} {ss : List (List UInt8)} {ks : List (List Sk)} (h : LxP s k) (hl : LxL ss ks) : LxL (s :: ss) (k :: ks)
theorem LxL.len {ss : List (List UInt8)} {ks : List (List Sk)} (h : LxL ss ks) : ss = [] ↔ ks = [] := by cases h <;> simp
theorem LxL.dropLast {ss : List (List UInt8)} {ks : List (List Sk)} (h : LxL ss ks) : LxL ss.dropLast ks.dropLast := by
  induction h with
  | nil => exact .nil
  | cons h hl ih =>
    rename_i s k ss ks
    by_cases e : ss = []
    · have e' := hl.len.1 e
      subst e; subst e'; exact .nil
    · have e' : ks ≠ [] := fun q => e (hl.len.2 q)
      rw [List.dropLast_cons_of_ne_nil e, List.dropLast_cons_of_ne_nil e']
      exact .cons h ih
theorem LxP.app {s s' : List UInt8} {k k' : List Sk} (h : LxP s k) (h' : LxP s' k') (hs : ∀ r, stopW (s' ++ r) ∧ (s' ++ r).head? ≠ some 46) : LxP (s ++ s') (k ++ k') := fun r kr h1 h2 h3 => by
  rw [List.append_assoc, List.append_assoc]; exact h _ _ (hs r).1 (hs r).2 (h' r kr h1 h2 h3)
theorem LxP.sp {s : List UInt8} {k : List Sk} (h : LxP s k) : LxP (32 :: s) k := fun r kr h1 h2 h3 => (h r kr h1 h2 h3).sp
theorem LxP.name {g : Bool} {w : List UInt8} (h1 : namOk g w = true) : LxP w [(if g then 2 else 1, w)] := fun r kr h2 h3 h4 => Lx.name h1 h2 h4
theorem LxP.word {w : List UInt8} (h : w.head?.any isGreat = true) (hw : w.all isWord = true) : LxP w [(2, w)] := fun r kr h2 h3 h4 => Lx.upper h hw h2 h4
theorem shape_parts {t : Ty} (h : shapeT t = true) : t.subs.length ≤ 20 ∧ shapeK t = true := by simpa [shapeT] using h
/-! What is read. -/
section
variable {l : List Tok} {a c : Nat} {x : Sk} {r : List Sk}
end
/-! names that rise -/
theorem emptyT_parts {k : Int} {p : List UInt8} {j : Int} {m n : List UInt8} {ns : List (List UInt8)} {ts : List Ty} (h : emptyT (.mk k p j m n ns ts) = true) : p = [] ∧ j = 0 ∧ m = [] ∧ n = [] := by
  simp only [emptyT, Ty.pkg, Ty.major, Ty.mod, Ty.name, Bool.and_eq_true, decide_eq_true_eq] at h
  exact ⟨h.1.1.1, h.1.1.2, h.1.2, h.2⟩
theorem deepTs_mem {t : Ty} : ∀ {l : List Ty}, t ∈ l → deepT t ≤ deepTs l
  | [], h => by cases h
  | x :: l, h => by
    simp only [deepTs]
    rcases List.mem_cons.1 h with rfl | h
    · omega
    · have := deepTs_mem h; omega
end Go.Proofs.Mv.App
