/- A part of the proofs: machine, contracts, laws. No condition of its own. -/
import Derived.Test.YtihbegkefjjhpaaGreatDoorP00
import Derived.Test.YtihbegkefjjhpaaGreatDoorP03
import Derived.Lib.ParseIntB
set_option linter.unusedSimpArgs false
set_option linter.unusedVariables false
set_option linter.unusedSectionVars false
open Go Go.Proofs Go.Proofs.Mv.V
namespace Go.Proofs.Mv.App
def stepOk (g : Bool) (l : List (List UInt8)) (i : Nat) : Bool := namOk g (l.getD i []) && (decide (i = 0) || ltB (l.getD (i - 1) []) (l.getD i []))
def risingN (g : Bool) (l : List (List UInt8)) : Bool := (List.range l.length).all (stepOk g l)
def emptyT (t : Ty) : Bool := decide (t.pkg = []) && decide (t.major = 0) && decide (t.mod = []) && decide (t.name = [])
def shapeK (t : Ty) : Bool :=
  let n := t.subs.length
  let k := t.names.length
  if t.kind = 1 ∨ t.kind = 2 ∨ t.kind = 3 then emptyT t && decide (n = 0) && decide (k = 0)
  else if t.kind = 4 then emptyT t && decide (n = 1) && decide (k = 0)
  else if t.kind = 5 then emptyT t && decide (n = k) && risingN false t.names
  else if t.kind = 6 then emptyT t && decide (1 ≤ n) && decide (n = k) && risingN true t.names
  else if t.kind = 7 then emptyT t && decide (1 ≤ n) && decide (k = 0)
  else if t.kind = 8 then decide (t.pkg = []) && decide (t.major = 0) && decide (n = 0) && decide (k = 0) && greatN t.name && (decide (t.mod = []) || smallN t.mod)
  else if t.kind = 9 then decide (n = 0) && decide (k = 0) && smallN t.pkg && smallN t.mod && greatN t.name && decide (1 ≤ t.major) && decide (t.major ≤ 999999999)
  else false
def shapeT (t : Ty) : Bool := decide (t.subs.length ≤ 20) && shapeK t
mutual
def allT : Ty → Bool
  | .mk a b c d e f subs => shapeT (.mk a b c d e f subs) && allTs subs
def allTs : List Ty → Bool
  | [] => true
  | t :: ts => allT t && allTs ts
end
def mayT (t : Ty) : Bool := allT t && decide (manyT t ≤ 500) && decide (deepT t ≤ 32)
theorem allTs_eq : ∀ l : List Ty, allTs l = l.all allT
  | [] => by simp [allTs]
  | t :: ts => by simp [allTs, allTs_eq ts]
theorem allT_eq (t : Ty) : allT t = (shapeT t && t.subs.all allT) := by cases t; simp [allT, allTs_eq, Ty.subs]
end Go.Proofs.Mv.App
open Go Go.Proofs Go.Proofs.Mv.V
namespace Go.Proofs.Mv.App
end Go.Proofs.Mv.App
open Go Go.Proofs Go.Proofs.Mv.V
namespace Go.Proofs.Mv.App
abbrev Sk := Int × List UInt8
def skel (t : Tok) : Sk := (t.kind, t.text)
def Lx (s : List UInt8) (k : List Sk) : Prop := ∀ a, (toksAt s a).1.map skel = k ∧ (toksAt s a).2 = none
def stopW (s : List UInt8) : Prop := ∀ x, s.head? = some x → isWord x = false
theorem Lx.nil : Lx [] [] := fun a => ⟨rfl, rfl⟩
theorem Lx.blank {x : UInt8} {s : List UInt8} {k : List Sk} (hx : isBlank x = true) (h : Lx s k) : Lx (x :: s) k := fun a => by rw [toksAt_blank s a hx]; exact h (a + 1)
theorem Lx.sp {s : List UInt8} {k : List Sk} (h : Lx s k) : Lx (32 :: s) k := h.blank (by decide)
theorem Lx.tok {x : UInt8} {w s : List UInt8} {kd : Nat} {k : List Sk} (hb : isBlank x = false) (hh : ¬ x = 35) (hf : firstT (x :: w ++ s) = (kd, w.length + 1)) (h : Lx s k) : Lx (x :: w ++ s) (((kd : Int), x :: w) :: k) := by
  intro a
  rw [List.cons_append] at hf ⊢
  have h2 : (firstT (x :: (w ++ s))).2 = w.length + 1 := by rw [hf]
  have h1 : (firstT (x :: (w ++ s))).1 = kd := by rw [hf]
  rw [toksAt_tok (w ++ s) a hb hh (by omega), h2, h1]
  have e1 : (x :: (w ++ s)).drop (w.length + 1) = s := by simp
  have e2 : (x :: (w ++ s)).take (w.length + 1) = x :: w := by simp
  rw [e1, e2]
  exact ⟨by simp only [List.map_cons, skel, (h _).1], (h _).2⟩
theorem takeWhile_stop {p : UInt8 → Bool} {w s : List UInt8} (hw : w.all p = true) (hs : ∀ x, s.head? = some x → p x = false) : (w ++ s).takeWhile p = w := by
  induction w with
  | nil =>
    cases s with
    | nil => rfl
    | cons x s => simp [List.takeWhile_cons, hs x rfl]
  | cons x w ih =>
    simp only [List.all_cons, Bool.and_eq_true] at hw
    simp [List.takeWhile_cons, hw.1, ih hw.2]
theorem small_cls {x : UInt8} (h : isSmall x = true) : isBlank x = false ∧ ¬ x = 35 ∧ isWord x = true := by
  simp only [isSmall, Bool.and_eq_true, decide_eq_true_eq] at h
  refine ⟨by simp [isBlank]; omega, fun e => by subst e; simp at h, by simp [isWord, isSmall, h]⟩
theorem great_cls {x : UInt8} (h : isGreat x = true) : isBlank x = false ∧ ¬ x = 35 ∧ isWord x = true ∧ isSmall x = false := by
  simp only [isGreat, Bool.and_eq_true, decide_eq_true_eq] at h
  refine ⟨by simp [isBlank]; omega, fun e => by subst e; simp at h, by simp [isWord, isGreat, h], by simp [isSmall]; omega⟩
theorem digit_cls {x : UInt8} (h : isDigit x = true) : isBlank x = false ∧ ¬ x = 35 ∧ isWord x = true ∧ isSmall x = false ∧ isGreat x = false := by
  simp only [isDigit, Bool.and_eq_true, decide_eq_true_eq] at h
  refine ⟨by simp [isBlank]; omega, fun e => by subst e; simp at h, by simp [isWord, isDigit, h], by simp [isSmall]; omega, by simp [isGreat]; omega⟩
theorem Lx.lower {w s : List UInt8} {k : List Sk} (h1 : w.head?.any isSmall = true) (hw : w.all isWord = true) (hs : stopW s) (h : Lx s k) : Lx (w ++ s) ((1, w) :: k) := by
  cases w with
  | nil => cases h1
  | cons x w =>
    simp only [List.head?_cons, Option.any_some] at h1
    obtain ⟨a, b, c⟩ := small_cls h1
    refine Lx.tok (kd := 1) a b ?_ h
    rw [List.cons_append, firstT, if_pos h1, runN, ← List.cons_append, takeWhile_stop hw hs]; rfl
theorem Lx.upper {w s : List UInt8} {k : List Sk} (h1 : w.head?.any isGreat = true) (hw : w.all isWord = true) (hs : stopW s) (h : Lx s k) : Lx (w ++ s) ((2, w) :: k) := by
  cases w with
  | nil => cases h1
  | cons x w =>
    simp only [List.head?_cons, Option.any_some] at h1
    obtain ⟨a, b, c, d⟩ := great_cls h1
    refine Lx.tok (kd := 2) a b ?_ h
    rw [List.cons_append, firstT, if_neg (by simp [d]), if_pos h1, runN, ← List.cons_append, takeWhile_stop hw hs]; rfl
theorem Lx.num {w s : List UInt8} {k : List Sk} (h1 : w ≠ []) (hw : w.all isDigit = true) (hs : ∀ x, s.head? = some x → isDigit x = false) (h : Lx s k) : Lx (w ++ s) ((3, w) :: k) := by
  cases w with
  | nil => exact absurd rfl h1
  | cons x w =>
    have hx : isDigit x = true := by simp only [List.all_cons, Bool.and_eq_true] at hw; exact hw.1
    obtain ⟨a, b, c, d, e⟩ := digit_cls hx
    refine Lx.tok (kd := 3) a b ?_ h
    rw [List.cons_append, firstT, if_neg (by simp [d]), if_neg (by simp [e]), if_pos hx, runN, ← List.cons_append, takeWhile_stop hw hs]; rfl
/-! names -/
theorem let_word {g : Bool} {x : UInt8} (h : isLet g x = true) : isWord x = true := by
  simp only [isLet, Bool.or_eq_true, Bool.and_eq_true] at h
  simp only [isWord, Bool.or_eq_true]
  rcases h with (h | h) | h
  · exact .inl (.inl h)
  · exact .inr h
  · exact .inl (.inr h.2)
theorem word_all {g : Bool} {s : List UInt8} (h : wordOk g s = true) : s.all isWord = true := by
  simp only [wordOk, Bool.and_eq_true] at h
  exact List.all_eq_true.2 fun x hx => let_word (List.all_eq_true.1 h.1.1 x hx)
theorem small_parts {s : List UInt8} (h : smallN s = true) : s.head?.any isSmall = true ∧ s.all isWord = true ∧ s.length ≤ 20 ∧ s ≠ [] := by
  simp only [smallN, Bool.and_eq_true] at h
  refine ⟨h.1.2, word_all h.1.1, word_len h.1.1, fun e => by subst e; simp at h⟩
theorem great_parts {s : List UInt8} (h : greatN s = true) : s.head?.any isGreat = true ∧ s.all isWord = true ∧ s.length ≤ 20 ∧ s ≠ [] := by
  simp only [greatN, Bool.and_eq_true] at h
  refine ⟨h.1.1.1.1.2, word_all h.1.1.1.1.1, word_len h.1.1.1.1.1, fun e => by subst e; simp at h⟩
theorem Lx.name {g : Bool} {w s : List UInt8} {k : List Sk} (h1 : namOk g w = true) (hs : stopW s) (h : Lx s k) : Lx (w ++ s) ((if g then 2 else 1, w) :: k) := by
  cases g
  · have := small_parts (s := w) h1; exact Lx.lower this.1 this.2.1 hs h
  · have := great_parts (s := w) h1; exact Lx.upper this.1 this.2.1 hs h
/-! numbers -/
end Go.Proofs.Mv.App
open Go Go.Proofs Go.Proofs.Mv.V
namespace Go.Proofs.Mv.App
end Go.Proofs.Mv.App
