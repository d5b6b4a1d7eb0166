/- A part of the proofs: machine, contracts, laws. No condition of its own. -/
import Derived.Test.YtihbegkefjjhpaaGreatDoorP04
import Derived.Test.YtihbegkefjjhpaaGreatDoorP02
set_option linter.unusedSimpArgs false
set_option linter.unusedVariables false
set_option linter.unusedSectionVars false
open Go Go.Proofs Go.Proofs.Mv.V
namespace Go.Proofs.Mv.App
abbrev Sk := Int × List UInt8
def skel (t : Tok) : Sk := (t.kind, t.text)
def Lx (s : List UInt8) (k : List Sk) : Prop := ∀ a, (toksAt s a).1.map skel = k ∧ (toksAt s a).2 = none
def stopW (s : List UInt8) : Prop := ∀ x, s.head? = some x → isWord x = false
theorem stopW_nil : stopW [] := by intro x h; cases h
theorem stopW_cons {x : UInt8} {s : List UInt8} (h : isWord x = false) : stopW (x :: s) := by intro y e; cases e; exact h
theorem Lx.nil : Lx [] [] := fun a => ⟨rfl, rfl⟩
theorem Lx.blank {x : UInt8} {s : List UInt8} {k : List Sk} (hx : isBlank x = true) (h : Lx s k) : Lx (x :: s) k := fun a => by rw [toksAt_blank s a hx]; exact h (a + 1)
theorem Lx.sp {s : List UInt8} {k : List Sk} (h : Lx s k) : Lx (32 :: s) k := h.blank (by decide)
theorem Lx.nl {s : List UInt8} {k : List Sk} (h : Lx s k) : Lx (10 :: s) k := h.blank (by decide)
theorem Lx.tok {x : UInt8} {w s : List UInt8} {kd : Nat} {k : List Sk} (hb : isBlank x = false) (hh : ¬ x = 35) (hf : firstT (x :: w ++ s) = (kd, w.length + 1)) (h : Lx s k) : Lx (x :: w ++ s) (((kd : Int), x :: w) :: k) := by
 intro a
 rw [List.cons_append] at hf ⊢
 have h2 : (firstT (x :: (w ++ s))).2 = w.length + 1 := by rw [hf]
 have h1 : (firstT (x :: (w ++ s))).1 = kd := by rw [hf]
 rw [toksAt_tok (w ++ s) a hb hh (by omega), h2, h1]
 have e1 : (x :: (w ++ s)).drop (w.length + 1) = s := by simp
 have e2 : (x :: (w ++ s)).take (w.length + 1) = x :: w := by simp
 rw [e1, e2]
 exact ⟨by simp only [List.map_cons, skel, (h _).1], (h _).2⟩
theorem takeWhile_stop {p : UInt8 → Bool} {w s : List UInt8} (hw : w.all p = true) (hs : ∀ x, s.head? = some x → p x = false) : (w ++ s).takeWhile p = w := by
 induction w with
 | nil =>
  cases s with
  | nil => rfl
  | cons x s => simp [List.takeWhile_cons, hs x rfl]
 | cons x w ih =>
  simp only [List.all_cons, Bool.and_eq_true] at hw
  simp [List.takeWhile_cons, hw.1, ih hw.2]
theorem small_cls {x : UInt8} (h : isSmall x = true) : isBlank x = false ∧ ¬ x = 35 ∧ isWord x = true := by
 simp only [isSmall, Bool.and_eq_true, decide_eq_true_eq] at h
 refine ⟨by simp [isBlank]; omega, fun e => by subst e; simp at h, by simp [isWord, isSmall, h]⟩
theorem great_cls {x : UInt8} (h : isGreat x = true) : isBlank x = false ∧ ¬ x = 35 ∧ isWord x = true ∧ isSmall x = false := by
 simp only [isGreat, Bool.and_eq_true, decide_eq_true_eq] at h
 refine ⟨by simp [isBlank]; omega, fun e => by subst e; simp at h, by simp [isWord, isGreat, h], by simp [isSmall]; omega⟩
theorem digit_cls {x : UInt8} (h : isDigit x = true) : isBlank x = false ∧ ¬ x = 35 ∧ isWord x = true ∧ isSmall x = false ∧ isGreat x = false := by
 simp only [isDigit, Bool.and_eq_true, decide_eq_true_eq] at h
 refine ⟨by simp [isBlank]; omega, fun e => by subst e; simp at h, by simp [isWord, isDigit, h], by simp [isSmall]; omega, by simp [isGreat]; omega⟩
theorem Lx.lower {w s : List UInt8} {k : List Sk} (h1 : w.head?.any isSmall = true) (hw : w.all isWord = true) (hs : stopW s) (h : Lx s k) : Lx (w ++ s) ((1, w) :: k) := by
 cases w with
 | nil => cases h1
 | cons x w =>
  simp only [List.head?_cons, Option.any_some] at h1
  obtain ⟨a, b, c⟩ := small_cls h1
  refine Lx.tok (kd := 1) a b ?_ h
  rw [List.cons_append, firstT, if_pos h1, runN, ← List.cons_append, takeWhile_stop hw hs]; rfl
theorem Lx.upper {w s : List UInt8} {k : List Sk} (h1 : w.head?.any isGreat = true) (hw : w.all isWord = true) (hs : stopW s) (h : Lx s k) : Lx (w ++ s) ((2, w) :: k) := by
 cases w with
 | nil => cases h1
 | cons x w =>
  simp only [List.head?_cons, Option.any_some] at h1
  obtain ⟨a, b, c, d⟩ := great_cls h1
  refine Lx.tok (kd := 2) a b ?_ h
  rw [List.cons_append, firstT, if_neg (by simp [d]), if_pos h1, runN, ← List.cons_append, takeWhile_stop hw hs]; rfl
theorem Lx.num {w s : List UInt8} {k : List Sk} (h1 : w ≠ []) (hw : w.all isDigit = true) (hs : ∀ x, s.head? = some x → isDigit x = false) (h : Lx s k) : Lx (w ++ s) ((3, w) :: k) := by
 cases w with
 | nil => exact absurd rfl h1
 | cons x w =>
  have hx : isDigit x = true := by simp only [List.all_cons, Bool.and_eq_true] at hw; exact hw.1
  obtain ⟨a, b, c, d, e⟩ := digit_cls hx
  refine Lx.tok (kd := 3) a b ?_ h
  rw [List.cons_append, firstT, if_neg (by simp [d]), if_neg (by simp [e]), if_pos hx, runN, ← List.cons_append, takeWhile_stop hw hs]; rfl
theorem stopW_digit {s : List UInt8} (h : stopW s) : ∀ x, s.head? = some x → isDigit x = false := fun x e => by
 have := h x e; simp only [isWord, Bool.or_eq_false_iff] at this; exact this.2
theorem Lx.sign {x : UInt8} {s : List UInt8} {k : List Sk} (hx : x ∈ ([123, 125, 40, 41, 91, 93, 60, 62, 44, 58, 61] : List UInt8)) (h : Lx s k) : Lx (x :: s) ((4, [x]) :: k) := by
 have hc : isBlank x = false ∧ ¬ x = 35 ∧ isSmall x = false ∧ isGreat x = false ∧ isDigit x = false ∧ isSign x = true ∧ ¬ x = 45 ∧ ¬ x = 46 := by
  have : ([123, 125, 40, 41, 91, 93, 60, 62, 44, 58, 61] : List UInt8).all (fun x => decide (isBlank x = false ∧ ¬ x = 35 ∧ isSmall x = false ∧ isGreat x = false ∧ isDigit x = false ∧ isSign x = true ∧ ¬ x = 45 ∧ ¬ x = 46)) = true := by decide
  simpa using List.all_eq_true.1 this x hx
 obtain ⟨a, b, c, d, e, f, g, i⟩ := hc
 refine Lx.tok (kd := 4) (w := []) a b ?_ h
 have p1 : pre [45, 62] (x :: s) = false := by simp [pre, g]
 have p2 : pre [46, 46] (x :: s) = false := by simp [pre, i]
 show firstT (x :: s) = _
 rw [firstT]; simp [c, d, e, p1, p2, f]
theorem Lx.dot {s : List UInt8} {k : List Sk} (hs : s.head? ≠ some 46) (h : Lx s k) : Lx (46 :: s) ((4, [46]) :: k) := by
 refine Lx.tok (kd := 4) (w := []) (by decide) (by decide) ?_ h
 have p1 : pre [45, 62] (46 :: s) = false := by simp [pre]
 have p2 : pre [46, 46] (46 :: s) = false := by cases s <;> simp_all [pre]
 show firstT (46 :: s) = _
 rw [firstT]; simp [p1, p2, show isSmall 46 = false by decide, show isGreat 46 = false by decide, show isDigit 46 = false by decide, show isSign 46 = true by decide]
theorem Lx.arrow {s : List UInt8} {k : List Sk} (h : Lx s k) : Lx (45 :: 62 :: s) ((4, [45, 62]) :: k) := by
 refine Lx.tok (kd := 4) (w := [62]) (by decide) (by decide) ?_ h
 have p1 : pre [45, 62] (45 :: 62 :: s) = true := by simp [pre]
 show firstT (45 :: 62 :: s) = _
 rw [firstT]; simp [p1, show isSmall 45 = false by decide, show isGreat 45 = false by decide, show isDigit 45 = false by decide]
/-! names -/
theorem let_word {g : Bool} {x : UInt8} (h : isLet g x = true) : isWord x = true := by
 simp only [isLet, Bool.or_eq_true, Bool.and_eq_true] at h
 simp only [isWord, Bool.or_eq_true]
 rcases h with (h | h) | h
 ·exact .inl (.inl h)
 ·exact .inr h
 ·exact .inl (.inr h.2)
theorem word_all {g : Bool} {s : List UInt8} (h : wordOk g s = true) : s.all isWord = true := by
 simp only [wordOk, Bool.and_eq_true] at h
 exact List.all_eq_true.2 fun x hx => let_word (List.all_eq_true.1 h.1.1 x hx)
theorem small_parts {s : List UInt8} (h : smallN s = true) : s.head?.any isSmall = true ∧ s.all isWord = true ∧ s.length ≤ 20 ∧ s ≠ [] := by
 simp only [smallN, Bool.and_eq_true] at h
 refine ⟨h.1.2, word_all h.1.1, word_len h.1.1, fun e => by subst e; simp at h⟩
theorem great_parts {s : List UInt8} (h : greatN s = true) : s.head?.any isGreat = true ∧ s.all isWord = true ∧ s.length ≤ 20 ∧ s ≠ [] := by
 simp only [greatN, Bool.and_eq_true] at h
 refine ⟨h.1.1.1.1.2, word_all h.1.1.1.1.1, word_len h.1.1.1.1.1, fun e => by subst e; simp at h⟩
theorem Lx.name {g : Bool} {w s : List UInt8} {k : List Sk} (h1 : namOk g w = true) (hs : stopW s) (h : Lx s k) : Lx (w ++ s) ((if g then 2 else 1, w) :: k) := by
 cases g
 ·have := small_parts (s := w) h1; exact Lx.lower this.1 this.2.1 hs h
 ·have := great_parts (s := w) h1; exact Lx.upper this.1 this.2.1 hs h
/-! numbers -/
theorem decA_snoc (s : List UInt8) (x : UInt8) (acc : Nat) : decA acc (s ++ [x]) = 10 * decA acc s + (x.toNat - 48) := by simp [decA]
theorem digitsF_spec : ∀ (f n : Nat), n < 10 ^ f → (digitsF f n).all isDigit = true ∧ decF (digitsF f n) = n ∧ (1 ≤ f → digitsF f n ≠ [] ∧ (1 ≤ n → (digitsF f n).head? ≠ some 48)) ∧ ∀ k, 1 ≤ k → n < 10 ^ k → (digitsF f n).length ≤ k
 | 0, n, h => by
  have : n = 0 := by simpa using h
  subst this
  exact ⟨rfl, rfl, by omega, fun k _ _ => by simp [digitsF]⟩
 | f + 1, n, h => by
  simp only [digitsF]
  have hd : ∀ m, m < 10 → (UInt8.ofNat (48 + m)).toNat = 48 + m := fun m hm => by rw [UInt8.toNat_ofNat']; omega
  split
  ·rename_i h10
   have := hd n h10
   refine ⟨by simp [isDigit, this]; omega, ?_, fun _ => ⟨by simp, fun hn e => ?_⟩, fun k hk _ => by simpa using hk⟩
   ·show decA 0 [_] = n; simp only [decA, List.foldl_cons, List.foldl_nil, this]; omega
   ·simp only [List.head?_cons, Option.some.injEq] at e
    rw [e] at this; simp at this; omega
  ·rename_i h10
   have hf : n / 10 < 10 ^ f := by rw [Nat.pow_succ] at h; omega
   obtain ⟨i1, i2, i3, i4⟩ := digitsF_spec f (n / 10) hf
   have hf1 : 1 ≤ f := by
    cases f with
    | zero => simp at hf; omega
    | succ f => omega
   obtain ⟨j1, j2⟩ := i3 hf1
   have := hd (n % 10) (by omega)
   refine ⟨?_, ?_, fun _ => ⟨by simp, fun hn => ?_⟩, fun k hk hn => ?_⟩
   ·rw [List.all_append, i1]; simp [isDigit, this]; omega
   ·show decA 0 _ = n
    rw [decA_snoc, this]
    have : decA 0 (digitsF f (n / 10)) = n / 10 := i2
    omega
   ·rw [List.head?_append]
    cases e : digitsF f (n / 10) with
    | nil => exact absurd e j1
    | cons y r => have := j2 (by omega); rw [e] at this; simpa using this
   ·rw [List.length_append]
    match k, hk with
    | 1, _ => simp at hn; omega
    | k + 2, _ =>
     have := i4 (k + 1) (by omega) (by rw [Nat.pow_succ] at hn; omega)
     simp only [List.length_singleton]; omega
theorem digits_ok {n : Nat} (h1 : 1 ≤ n) (h2 : n ≤ 999999999) : numOk (digits n) = true ∧ decF (digits n) = n := by
 obtain ⟨a, b, c, d⟩ := digitsF_spec 20 n (by have : (10 : Nat) ^ 20 = 100000000000000000000 := by decide
                                              omega)
 obtain ⟨c1, c2⟩ := c (by omega)
 refine ⟨?_, b⟩
 have hl := d 9 (by omega) (by have : (10 : Nat) ^ 9 = 1000000000 := by decide
                               omega)
 have hne : 1 ≤ (digitsF 20 n).length := by
  rcases Nat.eq_zero_or_pos (digitsF 20 n).length with h | h
  ·exact absurd (List.length_eq_zero_iff.1 h) c1
  ·exact h
 have c3 := c2 h1
 unfold numOk digits
 rw [a]
 simp only [Bool.and_true, Bool.and_eq_true]
 exact ⟨⟨decide_eq_true hne, decide_eq_true hl⟩, decide_eq_true c3⟩
theorem Lx.digits {n : Nat} {s : List UInt8} {k : List Sk} (h1 : 1 ≤ n) (h2 : n ≤ 999999999) (hs : stopW s) (h : Lx s k) : Lx (digits n ++ s) ((3, digits n) :: k) := by
 have := (digits_ok h1 h2).1
 simp only [numOk, Bool.and_eq_true, decide_eq_true_eq] at this
 exact Lx.num (fun e => by rw [e] at this; simp at this) this.1.2 (stopW_digit hs) h
end Go.Proofs.Mv.App
