/- A part of the proofs: machine, contracts, laws. No condition of its own. -/
import Derived.Test.YtndinledjelleaaGreatDoorP01
import Derived.Test.YtndinledjelleaaGreatDoorP02
set_option linter.unusedSimpArgs false
set_option linter.unusedVariables false
set_option linter.unusedSectionVars false
open Go Go.Proofs Go.Proofs.Mv.V
namespace Go.Proofs.Mv.App
namespace Ty
@[reducible] def kind : Ty → Int | .mk k _ _ _ _ _ _ => k
@[reducible] def pkg : Ty → List UInt8 | .mk _ p _ _ _ _ _ => p
@[reducible] def major : Ty → Int | .mk _ _ j _ _ _ _ => j
@[reducible] def mod : Ty → List UInt8 | .mk _ _ _ m _ _ _ => m
@[reducible] def name : Ty → List UInt8 | .mk _ _ _ _ n _ _ => n
@[reducible] def names : Ty → List (List UInt8) | .mk _ _ _ _ _ l _ => l
@[reducible] def subs : Ty → List Ty | .mk _ _ _ _ _ _ l => l
end Ty
mutual
def manyT : Ty → Nat
 | .mk _ _ _ _ _ _ subs => 1 + manyTs subs
def manyTs : List Ty → Nat
 | [] => 0
 | t :: ts => manyT t + manyTs ts
end
mutual
def deepT : Ty → Nat
 | .mk _ _ _ _ _ _ subs => deepTs subs + 1
def deepTs : List Ty → Nat
 | [] => 0
 | t :: ts => max (deepT t) (deepTs ts)
end
mutual
def fewT : Ty → Int → Int
 | .mk _ _ _ _ _ names subs, most => if most - 1 < 0 ∨ 200 < names.length then -1 else fewTs subs (most - 1)
def fewTs : List Ty → Int → Int
 | [], most => most
 | t :: ts, most => if 0 ≤ most then fewTs ts (fewT t most) else most
end
theorem manyTs_eq : ∀ l : List Ty, manyTs l = (l.map manyT).sum
 | [] => by simp [manyTs]
 | t :: ts => by simp [manyTs, manyTs_eq ts]
theorem manyT_eq (t : Ty) : manyT t = 1 + (t.subs.map manyT).sum := by cases t; simp [manyT, manyTs_eq, Ty.subs]
theorem manyT_pos (t : Ty) : 1 ≤ manyT t := by rw [manyT_eq]; omega
theorem deepT_eq (t : Ty) : deepT t = deepTs t.subs + 1 := by cases t; simp [deepT, Ty.subs]
theorem deepTs_append : ∀ (l r : List Ty), deepTs (l ++ r) = max (deepTs l) (deepTs r)
 | [], r => by simp [deepTs]
 | t :: ts, r => by simp only [List.cons_append, deepTs, deepTs_append ts r]; omega
theorem manyTs_append : ∀ (l r : List Ty), manyTs (l ++ r) = manyTs l + manyTs r
 | [], r => by simp [manyTs]
 | t :: ts, r => by simp only [List.cons_append, manyTs, manyTs_append ts r]; omega
mutual
def sameT : Ty → Ty → Bool
 | .mk k p j m n ns ts, .mk k' p' j' m' n' ns' ts' => decide (k = k') && decide (p = p') && decide (j = j') && decide (m = m') && decide (n = n') && decide (ns = ns') && sameTs ts ts'
def sameTs : List Ty → List Ty → Bool
 | [], [] => true
 | t :: ts, u :: us => sameT t u && sameTs ts us
 | [], _ :: _ => false
 | _ :: _, [] => false
end
mutual
theorem sameT_iff : ∀ (t u : Ty), sameT t u = true ↔ t = u
 | .mk k p j m n ns ts, .mk k' p' j' m' n' ns' ts' => by
  simp only [sameT, Bool.and_eq_true, decide_eq_true_eq, sameTs_iff ts ts', Ty.mk.injEq]
  constructor
  ·rintro ⟨⟨⟨⟨⟨⟨h1, h2⟩, h3⟩, h4⟩, h5⟩, h6⟩, h7⟩; exact ⟨h1, h2, h3, h4, h5, h6, h7⟩
  ·rintro ⟨h1, h2, h3, h4, h5, h6, h7⟩; exact ⟨⟨⟨⟨⟨⟨h1, h2⟩, h3⟩, h4⟩, h5⟩, h6⟩, h7⟩
theorem sameTs_iff : ∀ (t u : List Ty), sameTs t u = true ↔ t = u
 | [], [] => by simp [sameTs]
 | t :: ts, u :: us => by simp only [sameTs, Bool.and_eq_true, sameT_iff t u, sameTs_iff ts us, List.cons.injEq]
 | [], _ :: _ => by simp [sameTs]
 | _ :: _, [] => by simp [sameTs]
end
instance : DecidableEq Ty := fun a b => decidable_of_iff (sameT a b = true) (sameT_iff a b)
inductive TyW : Ty → Prop where
 | mk (kind : Int) (pkg : List UInt8) (major : Int) (mod name : List UInt8) (names : List (List UInt8)) (subs : List Ty) (h1 : names.length ≤ 9223372036854775807) (h2 : subs.length ≤ 9223372036854775807)
   (h3 : pkg.length ≤ 9223372036854775807) (h4 : mod.length ≤ 9223372036854775807) (h5 : name.length ≤ 9223372036854775807) (h6 : ∀ s ∈ names, s.length ≤ 9223372036854775807) (h7 : ∀ t ∈ subs, TyW t) : TyW (.mk kind pkg major mod name names subs)
/-! few -/
theorem fewTs_neg : ∀ (l : List Ty) (m : Int), m < 0 → fewTs l m = m
 | [], m, _ => by simp [fewTs]
 | t :: ts, m, h => by simp only [fewTs]; rw [if_neg (by omega)]
mutual
theorem fewT_spec : ∀ (t : Ty) (m : Int), 0 ≤ fewT t m → fewT t m = m - manyT t
 | .mk _ _ _ _ _ names subs, m, h => by
  simp only [fewT] at h ⊢
  split at h
  ·omega
  ·rename_i e
   rw [if_neg e, fewTs_spec subs _ h]; simp only [manyT]; omega
theorem fewTs_spec : ∀ (l : List Ty) (m : Int), 0 ≤ fewTs l m → fewTs l m = m - manyTs l
 | [], m, h => by simp [fewTs, manyTs]
 | t :: ts, m, h => by
  simp only [fewTs] at h ⊢
  split at h
  ·rename_i e
   rw [if_pos e]
   have h1 : 0 ≤ fewT t m := by
    rcases Int.lt_or_le (fewT t m) 0 with hn | hn
    ·rw [fewTs_neg _ _ hn] at h; omega
    ·exact hn
   rw [fewTs_spec ts _ h, fewT_spec t m h1]; simp only [manyTs]; omega
  ·omega
end
mutual
theorem fewT_le : ∀ (t : Ty) (m : Int), -1 ≤ m → -1 ≤ fewT t m ∧ fewT t m ≤ max (m - 1) (-1)
 | .mk _ _ _ _ _ names subs, m, h => by
  simp only [fewT]
  split
  ·omega
  ·rename_i e
   have := fewTs_le subs (m - 1) (by omega); omega
theorem fewTs_le : ∀ (l : List Ty) (m : Int), -1 ≤ m → -1 ≤ fewTs l m ∧ fewTs l m ≤ m
 | [], m, h => by simp [fewTs]; exact h
 | t :: ts, m, h => by
  simp only [fewTs]
  split
  ·have h1 := fewT_le t m h
   have h2 := fewTs_le ts (fewT t m) h1.1; omega
  ·omega
end
theorem fewTs_snoc : ∀ (l : List Ty) (x : Ty) (m : Int), fewTs (l ++ [x]) m = if 0 ≤ fewTs l m then fewT x (fewTs l m) else fewTs l m
 | [], x, m => by by_cases h : 0 ≤ m <;> simp [fewTs, h]
 | t :: ts, x, m => by
  by_cases h : 0 ≤ m
  ·simp only [List.cons_append, fewTs, if_pos h]; exact fewTs_snoc ts x _
  ·simp only [List.cons_append, fewTs, if_neg h]
theorem fewTs_stop : ∀ (l r : List Ty) (m : Int), fewTs l m < 0 → fewTs (l ++ r) m = fewTs l m
 | [], r, m, h => by simp only [fewTs] at h; simp only [List.nil_append, fewTs]; exact fewTs_neg r m h
 | t :: ts, r, m, h => by
  simp only [List.cons_append, fewTs] at h ⊢
  split
  ·rename_i e; rw [if_pos e] at h; exact fewTs_stop ts r _ h
  ·rfl
def few3 (t : Ty) : Bool := decide (0 ≤ fewT t 3000)
theorem few_many {t : Ty} (h : few3 t = true) : manyT t ≤ 3000 := by
 simp only [few3, decide_eq_true_eq] at h
 have := fewT_spec t 3000 h; omega
mutual
theorem deep_many : ∀ t : Ty, deepT t ≤ manyT t
 | .mk _ _ _ _ _ _ subs => by simp only [deepT, manyT]; have := deeps_manys subs; omega
theorem deeps_manys : ∀ l : List Ty, deepTs l ≤ manyTs l
 | [] => by simp [deepTs]
 | t :: ts => by simp only [deepTs, manyTs]; have := deep_many t; have := deeps_manys ts; omega
end
theorem manyTs_snoc (l : List Ty) (x : Ty) : manyTs (l ++ [x]) = manyTs l + manyT x := by rw [manyTs_append]; simp [manyTs]
theorem deepTs_snoc (l : List Ty) (x : Ty) : deepTs (l ++ [x]) = max (deepTs l) (deepT x) := by rw [deepTs_append]; simp [deepTs]
theorem take_snoc {α : Type} {l : List α} {i : Nat} (h : i < l.length) : l.take (i + 1) = l.take i ++ [l[i]] := List.take_succ_eq_append_getElem h
theorem manyTs_take (l : List Ty) (i : Nat) : manyTs (l.take i) ≤ manyTs l := by
 have := manyTs_append (l.take i) (l.drop i); rw [List.take_append_drop] at this; omega
end Go.Proofs.Mv.App
open Go Go.Proofs Go.Proofs.Mv.V
namespace Go.Proofs.Mv.App
def stepOk (g : Bool) (l : List (List UInt8)) (i : Nat) : Bool := namOk g (l.getD i []) && (decide (i = 0) || ltB (l.getD (i - 1) []) (l.getD i []))
def risingN (g : Bool) (l : List (List UInt8)) : Bool := (List.range l.length).all (stepOk g l)
def emptyT (t : Ty) : Bool := decide (t.pkg = []) && decide (t.major = 0) && decide (t.mod = []) && decide (t.name = [])
def shapeK (t : Ty) : Bool :=
 let n := t.subs.length
 let k := t.names.length
 if t.kind = 1 ∨ t.kind = 2 ∨ t.kind = 3 then emptyT t && decide (n = 0) && decide (k = 0)
 else if t.kind = 4 then emptyT t && decide (n = 1) && decide (k = 0)
 else if t.kind = 5 then emptyT t && decide (n = k) && risingN false t.names
 else if t.kind = 6 then emptyT t && decide (1 ≤ n) && decide (n = k) && risingN true t.names
 else if t.kind = 7 then emptyT t && decide (1 ≤ n) && decide (k = 0)
 else if t.kind = 8 then decide (t.pkg = []) && decide (t.major = 0) && decide (n = 0) && decide (k = 0) && greatN t.name && (decide (t.mod = []) || smallN t.mod)
 else if t.kind = 9 then decide (n = 0) && decide (k = 0) && smallN t.pkg && smallN t.mod && greatN t.name && decide (1 ≤ t.major) && decide (t.major ≤ 999999999)
 else false
def shapeT (t : Ty) : Bool := decide (t.subs.length ≤ 20) && shapeK t
mutual
def allT : Ty → Bool
 | .mk a b c d e f subs => shapeT (.mk a b c d e f subs) && allTs subs
def allTs : List Ty → Bool
 | [] => true
 | t :: ts => allT t && allTs ts
end
def mayT (t : Ty) : Bool := allT t && decide (manyT t ≤ 500) && decide (deepT t ≤ 32)
def joinB (sep : List UInt8) : List (List UInt8) → List UInt8
 | [] => []
 | [s] => s
 | s :: r => s ++ sep ++ joinB sep r
def comma : List UInt8 := [44, 32]
def digitsF : Nat → Nat → List UInt8
 | 0, _ => []
 | f + 1, n => if n < 10 then [UInt8.ofNat (48 + n)] else digitsF f (n / 10) ++ [UInt8.ofNat (48 + n % 10)]
def digits (n : Nat) : List UInt8 := digitsF 20 n
mutual
def textT : Ty → List UInt8
 | .mk kind pkg major mod name names subs =>
  if kind = 1 then wInt
  else if kind = 2 then wText
  else if kind = 3 then wBool
  else if kind = 4 then wList ++ [40] ++ joinB comma (textTs names subs) ++ [41]
  else if kind = 5 then [123] ++ joinB comma (textTs names subs) ++ [125]
  else if kind = 6 then [91] ++ joinB comma (textTs names subs) ++ [93]
  else if kind = 7 then [40] ++ joinB comma (textTs [] subs).dropLast ++ [41, 32, 45, 62, 32] ++ (textTs [] subs).getLastD []
  else if kind = 9 then [60] ++ pkg ++ [32] ++ digits major.toNat ++ [32] ++ mod ++ [32] ++ name ++ [62]
  else if mod = [] then name else mod ++ [46] ++ name
def textTs : List (List UInt8) → List Ty → List (List UInt8)
 | _, [] => []
 | [], t :: ts => textT t :: textTs [] ts
 | n :: ns, t :: ts => (n ++ [58, 32] ++ textT t) :: textTs ns ts
end
theorem allTs_eq : ∀ l : List Ty, allTs l = l.all allT
 | [] => by simp [allTs]
 | t :: ts => by simp [allTs, allTs_eq ts]
theorem allT_eq (t : Ty) : allT t = (shapeT t && t.subs.all allT) := by cases t; simp [allT, allTs_eq, Ty.subs]
theorem textTs_len : ∀ (ns : List (List UInt8)) (l : List Ty), (textTs ns l).length = l.length
 | _, [] => by simp [textTs]
 | [], t :: ts => by simp [textTs, textTs_len [] ts]
 | n :: ns, t :: ts => by simp [textTs, textTs_len ns ts]
theorem textTs_nil : ∀ (l : List Ty), textTs [] l = l.map textT
 | [] => by simp [textTs]
 | t :: ts => by simp [textTs, textTs_nil ts]
theorem textTs_get : ∀ (ns : List (List UInt8)) (l : List Ty) (i : Nat) (h : i < l.length) (h' : i < ns.length), (textTs ns l)[i]? = some (ns[i] ++ [58, 32] ++ textT l[i])
 | n :: ns, t :: ts, 0, _, _ => by simp [textTs]
 | n :: ns, t :: ts, i + 1, h, h' => by
  simp only [textTs, List.getElem?_cons_succ, List.getElem_cons_succ]
  exact textTs_get ns ts i (by simpa using h) (by simpa using h')
end Go.Proofs.Mv.App
open Go Go.Proofs Go.Proofs.Mv.V
namespace Go.Proofs.Mv.App
abbrev Sk := Int × List UInt8
def skel (t : Tok) : Sk := (t.kind, t.text)
def Lx (s : List UInt8) (k : List Sk) : Prop := ∀ a, (toksAt s a).1.map skel = k ∧ (toksAt s a).2 = none
def stopW (s : List UInt8) : Prop := ∀ x, s.head? = some x → isWord x = false
theorem stopW_cons {x : UInt8} {s : List UInt8} (h : isWord x = false) : stopW (x :: s) := by intro y e; cases e; exact h
theorem Lx.nil : Lx [] [] := fun a => ⟨rfl, rfl⟩
theorem Lx.blank {x : UInt8} {s : List UInt8} {k : List Sk} (hx : isBlank x = true) (h : Lx s k) : Lx (x :: s) k := fun a => by rw [toksAt_blank s a hx]; exact h (a + 1)
theorem Lx.sp {s : List UInt8} {k : List Sk} (h : Lx s k) : Lx (32 :: s) k := h.blank (by decide)
theorem Lx.tok {x : UInt8} {w s : List UInt8} {kd : Nat} {k : List Sk} (hb : isBlank x = false) (hh : ¬ x = 35) (hf : firstT (x :: w ++ s) = (kd, w.length + 1)) (h : Lx s k) : Lx (x :: w ++ s) (((kd : Int), x :: w) :: k) := by
 intro a
 rw [List.cons_append] at hf ⊢
 have h2 : (firstT (x :: (w ++ s))).2 = w.length + 1 := by rw [hf]
 have h1 : (firstT (x :: (w ++ s))).1 = kd := by rw [hf]
 rw [toksAt_tok (w ++ s) a hb hh (by omega), h2, h1]
 have e1 : (x :: (w ++ s)).drop (w.length + 1) = s := by simp
 have e2 : (x :: (w ++ s)).take (w.length + 1) = x :: w := by simp
 rw [e1, e2]
 exact ⟨by simp only [List.map_cons, skel, (h _).1], (h _).2⟩
theorem takeWhile_stop {p : UInt8 → Bool} {w s : List UInt8} (hw : w.all p = true) (hs : ∀ x, s.head? = some x → p x = false) : (w ++ s).takeWhile p = w := by
 induction w with
 | nil =>
  cases s with
  | nil => rfl
  | cons x s => simp [List.takeWhile_cons, hs x rfl]
 | cons x w ih =>
  simp only [List.all_cons, Bool.and_eq_true] at hw
  simp [List.takeWhile_cons, hw.1, ih hw.2]
theorem small_cls {x : UInt8} (h : isSmall x = true) : isBlank x = false ∧ ¬ x = 35 ∧ isWord x = true := by
 simp only [isSmall, Bool.and_eq_true, decide_eq_true_eq] at h
 refine ⟨by simp [isBlank]; omega, fun e => by subst e; simp at h, by simp [isWord, isSmall, h]⟩
theorem great_cls {x : UInt8} (h : isGreat x = true) : isBlank x = false ∧ ¬ x = 35 ∧ isWord x = true ∧ isSmall x = false := by
 simp only [isGreat, Bool.and_eq_true, decide_eq_true_eq] at h
 refine ⟨by simp [isBlank]; omega, fun e => by subst e; simp at h, by simp [isWord, isGreat, h], by simp [isSmall]; omega⟩
theorem digit_cls {x : UInt8} (h : isDigit x = true) : isBlank x = false ∧ ¬ x = 35 ∧ isWord x = true ∧ isSmall x = false ∧ isGreat x = false := by
 simp only [isDigit, Bool.and_eq_true, decide_eq_true_eq] at h
 refine ⟨by simp [isBlank]; omega, fun e => by subst e; simp at h, by simp [isWord, isDigit, h], by simp [isSmall]; omega, by simp [isGreat]; omega⟩
theorem Lx.lower {w s : List UInt8} {k : List Sk} (h1 : w.head?.any isSmall = true) (hw : w.all isWord = true) (hs : stopW s) (h : Lx s k) : Lx (w ++ s) ((1, w) :: k) := by
 cases w with
 | nil => cases h1
 | cons x w =>
  simp only [List.head?_cons, Option.any_some] at h1
  obtain ⟨a, b, c⟩ := small_cls h1
  refine Lx.tok (kd := 1) a b ?_ h
  rw [List.cons_append, firstT, if_pos h1, runN, ← List.cons_append, takeWhile_stop hw hs]; rfl
theorem Lx.upper {w s : List UInt8} {k : List Sk} (h1 : w.head?.any isGreat = true) (hw : w.all isWord = true) (hs : stopW s) (h : Lx s k) : Lx (w ++ s) ((2, w) :: k) := by
 cases w with
 | nil => cases h1
 | cons x w =>
  simp only [List.head?_cons, Option.any_some] at h1
  obtain ⟨a, b, c, d⟩ := great_cls h1
  refine Lx.tok (kd := 2) a b ?_ h
  rw [List.cons_append, firstT, if_neg (by simp [d]), if_pos h1, runN, ← List.cons_append, takeWhile_stop hw hs]; rfl
theorem Lx.num {w s : List UInt8} {k : List Sk} (h1 : w ≠ []) (hw : w.all isDigit = true) (hs : ∀ x, s.head? = some x → isDigit x = false) (h : Lx s k) : Lx (w ++ s) ((3, w) :: k) := by
 cases w with
 | nil => exact absurd rfl h1
 | cons x w =>
  have hx : isDigit x = true := by simp only [List.all_cons, Bool.and_eq_true] at hw; exact hw.1
  obtain ⟨a, b, c, d, e⟩ := digit_cls hx
  refine Lx.tok (kd := 3) a b ?_ h
  rw [List.cons_append, firstT, if_neg (by simp [d]), if_neg (by simp [e]), if_pos hx, runN, ← List.cons_append, takeWhile_stop hw hs]; rfl
theorem stopW_digit {s : List UInt8} (h : stopW s) : ∀ x, s.head? = some x → isDigit x = false := fun x e => by
 have := h x e; simp only [isWord, Bool.or_eq_false_iff] at this; exact this.2
theorem Lx.sign {x : UInt8} {s : List UInt8} {k : List Sk} (hx : x ∈ ([123, 125, 40, 41, 91, 93, 60, 62, 44, 58, 61] : List UInt8)) (h : Lx s k) : Lx (x :: s) ((4, [x]) :: k) := by
 have hc : isBlank x = false ∧ ¬ x = 35 ∧ isSmall x = false ∧ isGreat x = false ∧ isDigit x = false ∧ isSign x = true ∧ ¬ x = 45 ∧ ¬ x = 46 := by
  have : ([123, 125, 40, 41, 91, 93, 60, 62, 44, 58, 61] : List UInt8).all (fun x => decide (isBlank x = false ∧ ¬ x = 35 ∧ isSmall x = false ∧ isGreat x = false ∧ isDigit x = false ∧ isSign x = true ∧ ¬ x = 45 ∧ ¬ x = 46)) = true := by decide
  simpa using List.all_eq_true.1 this x hx
 obtain ⟨a, b, c, d, e, f, g, i⟩ := hc
 refine Lx.tok (kd := 4) (w := []) a b ?_ h
 have p1 : pre [45, 62] (x :: s) = false := by simp [pre, g]
 have p2 : pre [46, 46] (x :: s) = false := by simp [pre, i]
 show firstT (x :: s) = _
 rw [firstT]; simp [c, d, e, p1, p2, f]
/-! names -/
theorem let_word {g : Bool} {x : UInt8} (h : isLet g x = true) : isWord x = true := by
 simp only [isLet, Bool.or_eq_true, Bool.and_eq_true] at h
 simp only [isWord, Bool.or_eq_true]
 rcases h with (h | h) | h
 ·exact .inl (.inl h)
 ·exact .inr h
 ·exact .inl (.inr h.2)
theorem word_all {g : Bool} {s : List UInt8} (h : wordOk g s = true) : s.all isWord = true := by
 simp only [wordOk, Bool.and_eq_true] at h
 exact List.all_eq_true.2 fun x hx => let_word (List.all_eq_true.1 h.1.1 x hx)
theorem small_parts {s : List UInt8} (h : smallN s = true) : s.head?.any isSmall = true ∧ s.all isWord = true ∧ s.length ≤ 20 ∧ s ≠ [] := by
 simp only [smallN, Bool.and_eq_true] at h
 refine ⟨h.1.2, word_all h.1.1, word_len h.1.1, fun e => by subst e; simp at h⟩
theorem great_parts {s : List UInt8} (h : greatN s = true) : s.head?.any isGreat = true ∧ s.all isWord = true ∧ s.length ≤ 20 ∧ s ≠ [] := by
 simp only [greatN, Bool.and_eq_true] at h
 refine ⟨h.1.1.1.1.2, word_all h.1.1.1.1.1, word_len h.1.1.1.1.1, fun e => by subst e; simp at h⟩
theorem Lx.name {g : Bool} {w s : List UInt8} {k : List Sk} (h1 : namOk g w = true) (hs : stopW s) (h : Lx s k) : Lx (w ++ s) ((if g then 2 else 1, w) :: k) := by
 cases g
 ·have := small_parts (s := w) h1; exact Lx.lower this.1 this.2.1 hs h
 ·have := great_parts (s := w) h1; exact Lx.upper this.1 this.2.1 hs h
/-! numbers -/
theorem decA_snoc (s : List UInt8) (x : UInt8) (acc : Nat) : decA acc (s ++ [x]) = 10 * decA acc s + (x.toNat - 48) := by simp [decA]
theorem digitsF_spec : ∀ (f n : Nat), n < 10 ^ f → (digitsF f n).all isDigit = true ∧ decF (digitsF f n) = n ∧ (1 ≤ f → digitsF f n ≠ [] ∧ (1 ≤ n → (digitsF f n).head? ≠ some 48)) ∧ ∀ k, 1 ≤ k → n < 10 ^ k → (digitsF f n).length ≤ k
 | 0, n, h => by
  have : n = 0 := by simpa using h
  subst this
  exact ⟨rfl, rfl, by omega, fun k _ _ => by simp [digitsF]⟩
 | f + 1, n, h => by
  simp only [digitsF]
  have hd : ∀ m, m < 10 → (UInt8.ofNat (48 + m)).toNat = 48 + m := fun m hm => by rw [UInt8.toNat_ofNat']; omega
  split
  ·rename_i h10
   have := hd n h10
   refine ⟨by simp [isDigit, this]; omega, ?_, fun _ => ⟨by simp, fun hn e => ?_⟩, fun k hk _ => by simpa using hk⟩
   ·show decA 0 [_] = n; simp only [decA, List.foldl_cons, List.foldl_nil, this]; omega
   ·simp only [List.head?_cons, Option.some.injEq] at e
    rw [e] at this; simp at this; omega
  ·rename_i h10
   have hf : n / 10 < 10 ^ f := by rw [Nat.pow_succ] at h; omega
   obtain ⟨i1, i2, i3, i4⟩ := digitsF_spec f (n / 10) hf
   have hf1 : 1 ≤ f := by
    cases f with
    | zero => simp at hf; omega
    | succ f => omega
   obtain ⟨j1, j2⟩ := i3 hf1
   have := hd (n % 10) (by omega)
   refine ⟨?_, ?_, fun _ => ⟨by simp, fun hn => ?_⟩, fun k hk hn => ?_⟩
   ·rw [List.all_append, i1]; simp [isDigit, this]; omega
   ·show decA 0 _ = n
    rw [decA_snoc, this]
    have : decA 0 (digitsF f (n / 10)) = n / 10 := i2
    omega
   ·rw [List.head?_append]
    cases e : digitsF f (n / 10) with
    | nil => exact absurd e j1
    | cons y r => have := j2 (by omega); rw [e] at this; simpa using this
   ·rw [List.length_append]
    match k, hk with
    | 1, _ => simp at hn; omega
    | k + 2, _ =>
     have := i4 (k + 1) (by omega) (by rw [Nat.pow_succ] at hn; omega)
     simp only [List.length_singleton]; omega
theorem digits_ok {n : Nat} (h1 : 1 ≤ n) (h2 : n ≤ 999999999) : numOk (digits n) = true ∧ decF (digits n) = n := by
 obtain ⟨a, b, c, d⟩ := digitsF_spec 20 n (by have : (10 : Nat) ^ 20 = 100000000000000000000 := by decide
                                              omega)
 obtain ⟨c1, c2⟩ := c (by omega)
 refine ⟨?_, b⟩
 have hl := d 9 (by omega) (by have : (10 : Nat) ^ 9 = 1000000000 := by decide
                               omega)
 have hne : 1 ≤ (digitsF 20 n).length := by
  rcases Nat.eq_zero_or_pos (digitsF 20 n).length with h | h
  ·exact absurd (List.length_eq_zero_iff.1 h) c1
  ·exact h
 have c3 := c2 h1
 unfold numOk digits
 rw [a]
 simp only [Bool.and_true, Bool.and_eq_true]
 exact ⟨⟨decide_eq_true hne, decide_eq_true hl⟩, decide_eq_true c3⟩
theorem Lx.digits {n : Nat} {s : List UInt8} {k : List Sk} (h1 : 1 ≤ n) (h2 : n ≤ 999999999) (hs : stopW s) (h : Lx s k) : Lx (digits n ++ s) ((3, digits n) :: k) := by
 have := (digits_ok h1 h2).1
 simp only [numOk, Bool.and_eq_true, decide_eq_true_eq] at this
 exact Lx.num (fun e => by rw [e] at this; simp at this) this.1.2 (stopW_digit hs) h
end Go.Proofs.Mv.App
