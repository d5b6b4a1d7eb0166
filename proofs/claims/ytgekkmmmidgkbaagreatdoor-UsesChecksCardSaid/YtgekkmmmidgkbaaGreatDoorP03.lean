/- A part of the proofs of the seat YtgekkmmmidgkbaaGreatDoor: the abstract machine, the contracts of the functions, the laws. No condition of its own. -/
import Derived.Test.YtgekkmmmidgkbaaGreatDoorP00
import Derived.Test.YtgekkmmmidgkbaaGreatDoorP02
import Derived.Lib.ParseIntB
set_option linter.unusedSimpArgs false
set_option linter.unusedVariables false
set_option linter.unusedSectionVars false
open Go Go.Proofs Go.Proofs.Mv.V
namespace Go.Proofs.Mv.App
/-- May a name stand there, behind the one ahead of it? -/
def stepOk (g : Bool) (l : List (List UInt8)) (i : Nat) : Bool := namOk g (l.getD i []) && (decide (i = 0) || ltB (l.getD (i - 1) []) (l.getD i []))
def risingN (g : Bool) (l : List (List UInt8)) : Bool := (List.range l.length).all (stepOk g l)
def emptyT (t : Ty) : Bool := decide (t.pkg = []) && decide (t.major = 0) && decide (t.mod = []) && decide (t.name = [])
def shapeK (t : Ty) : Bool :=
  let n := t.subs.length
  let k := t.names.length
  if t.kind = 1 ∨ t.kind = 2 ∨ t.kind = 3 then emptyT t && decide (n = 0) && decide (k = 0)
  else if t.kind = 4 then emptyT t && decide (n = 1) && decide (k = 0)
  else if t.kind = 5 then emptyT t && decide (n = k) && risingN false t.names
  else if t.kind = 6 then emptyT t && decide (1 ≤ n) && decide (n = k) && risingN true t.names
  else if t.kind = 7 then emptyT t && decide (1 ≤ n) && decide (k = 0)
  else if t.kind = 8 then decide (t.pkg = []) && decide (t.major = 0) && decide (n = 0) && decide (k = 0) && greatN t.name && (decide (t.mod = []) || smallN t.mod)
  else if t.kind = 9 then decide (n = 0) && decide (k = 0) && smallN t.pkg && smallN t.mod && greatN t.name && decide (1 ≤ t.major) && decide (t.major ≤ 999999999)
  else false
def shapeT (t : Ty) : Bool := decide (t.subs.length ≤ 20) && shapeK t
mutual
def allT : Ty → Bool
  | .mk a b c d e f subs => shapeT (.mk a b c d e f subs) && allTs subs
def allTs : List Ty → Bool
  | [] => true
  | t :: ts => allT t && allTs ts
end
def mayT (t : Ty) : Bool := allT t && decide (manyT t ≤ 500) && decide (deepT t ≤ 32)
theorem allTs_eq : ∀ l : List Ty, allTs l = l.all allT
  | [] => by simp [allTs]
  | t :: ts => by simp [allTs, allTs_eq ts]
theorem allT_eq (t : Ty) : allT t = (shapeT t && t.subs.all allT) := by cases t; simp [allT, allTs_eq, Ty.subs]
end Go.Proofs.Mv.App
open Go Go.Proofs Go.Proofs.Mv.V
namespace Go.Proofs.Mv.App
def decA (acc : Nat) (s : List UInt8) : Nat := s.foldl (fun n x => 10 * n + (x.toNat - 48)) acc
theorem decA_cons (acc : Nat) (x : UInt8) (s : List UInt8) : decA acc (x :: s) = decA (10 * acc + (x.toNat - 48)) s := by unfold decA; rw [List.foldl_cons]
theorem decA_ge (s : List UInt8) : ∀ acc, acc * 10 ^ s.length ≤ decA acc s := by
  induction s with
  | nil => intro acc; simp [decA]
  | cons x s ih =>
    intro acc
    have h1 := ih (10 * acc + (x.toNat - 48))
    rw [decA_cons, List.length_cons, Nat.pow_succ]
    generalize 10 ^ s.length = q at h1 ⊢
    have h2 : 10 * acc * q ≤ (10 * acc + (x.toNat - 48)) * q := Nat.mul_le_mul_right _ (by omega)
    have h3 : acc * (q * 10) = 10 * acc * q := by rw [Nat.mul_comm q 10, ← Nat.mul_assoc, Nat.mul_comm acc 10]
    omega
theorem decA_lt (s : List UInt8) : ∀ acc, s.all isDigit = true → decA acc s < (acc + 1) * 10 ^ s.length := by
  induction s with
  | nil => intro acc _; simp [decA]
  | cons x s ih =>
    intro acc h
    simp only [List.all_cons, Bool.and_eq_true] at h
    have hx : x.toNat ≤ 57 := by have := h.1; simp [isDigit] at this; omega
    have h1 := ih (10 * acc + (x.toNat - 48)) h.2
    rw [decA_cons, List.length_cons, Nat.pow_succ]
    generalize 10 ^ s.length = q at h1 ⊢
    have h2 : (10 * acc + (x.toNat - 48) + 1) * q ≤ (10 * (acc + 1)) * q := Nat.mul_le_mul_right _ (by omega)
    have h3 : (acc + 1) * (q * 10) = 10 * (acc + 1) * q := by rw [Nat.mul_comm q 10, ← Nat.mul_assoc, Nat.mul_comm (acc + 1) 10]
    omega
theorem decA_mono (s : List UInt8) (acc : Nat) : acc ≤ decA acc s :=
  Nat.le_trans (by exact Nat.le_mul_of_pos_right _ (Nat.pow_pos (by omega))) (decA_ge s acc)
theorem pm_ok : ∀ (s : List UInt8) (acc : Nat), s.all isDigit = true → decA acc s ≤ 4294967295 → Lib.parseUintM (2 ^ 32 - 1) acc s = .ok (decA acc s)
  | [], acc, _, _ => rfl
  | x :: s, acc, h, hle => by
    simp only [List.all_cons, Bool.and_eq_true] at h
    have hx : 48 ≤ x.toNat ∧ x.toNat ≤ 57 := by have := h.1; simpa [isDigit] using this
    rw [decA_cons] at hle ⊢
    have hm := decA_mono s (10 * acc + (x.toNat - 48))
    rw [Lib.parseUintM, if_pos hx, if_neg (by omega), if_neg (by omega), Nat.mul_comm acc 10]
    exact pm_ok s _ h.2 hle
theorem pm_inv (M : Nat) : ∀ (s : List UInt8) (acc u : Nat), Lib.parseUintM M acc s = .ok u → s.all isDigit = true ∧ u = decA acc s
  | [], acc, u, h => by simp only [Lib.parseUintM, Lib.NumEnd.ok.injEq] at h; exact ⟨rfl, h.symm⟩
  | x :: s, acc, u, h => by
    rw [Lib.parseUintM] at h
    split at h
    · rename_i hx
      split at h
      · cases h
      · split at h
        · cases h
        · obtain ⟨h1, h2⟩ := pm_inv M s _ u h
          rw [Nat.mul_comm acc 10] at h2
          exact ⟨by simp [List.all_cons, h1, isDigit, hx], h2⟩
    · cases h
theorem numOk_of {s : List UInt8} {u : Nat} (h : Lib.parseUintB 32 s = .ok u) (h1 : 1 ≤ u) (h2 : u ≤ 999999999) (h3 : s.head? ≠ some 48) : numOk s = true ∧ u = decF s := by
  unfold Lib.parseUintB at h
  split at h
  · cases h
  rename_i hne
  obtain ⟨hd, hu⟩ := pm_inv _ s 0 u h
  refine ⟨?_, hu⟩
  match s, hne with
  | x :: r, _ =>
    simp only [List.all_cons, Bool.and_eq_true] at hd
    have hx : 48 ≤ x.toNat ∧ x.toNat ≤ 57 := by have := hd.1; simpa [isDigit] using this
    have hx0 : x.toNat ≠ 48 := fun e => h3 (by simp; exact UInt8.toNat_inj.1 e)
    have hlen : (x :: r).length ≤ 9 := by
      rw [decA_cons] at hu
      have hge := decA_ge r (10 * 0 + (x.toNat - 48))
      have : 1 * 10 ^ r.length ≤ (10 * 0 + (x.toNat - 48)) * 10 ^ r.length := Nat.mul_le_mul_right _ (by omega)
      rcases Nat.lt_or_ge r.length 9 with hl | hl
      · simp only [List.length_cons]; omega
      · have hp : 10 ^ 9 ≤ 10 ^ r.length := Nat.pow_le_pow_right (by omega) hl
        have : (10 : Nat) ^ 9 = 1000000000 := by decide
        omega
    simp only [numOk, List.all_cons, hd.1, hd.2, Bool.and_self, Bool.and_true, Bool.and_eq_true, decide_eq_true_eq]
    exact ⟨⟨by simp, hlen⟩, h3⟩
theorem of_numOk {s : List UInt8} (h : numOk s = true) : Lib.parseUintB 32 s = .ok (decF s) ∧ 1 ≤ decF s ∧ decF s ≤ 999999999 ∧ s.head? ≠ some 48 ∧ s ≠ [] := by
  simp only [numOk, Bool.and_eq_true, decide_eq_true_eq] at h
  obtain ⟨⟨⟨h1, h2⟩, h3⟩, h4⟩ := h
  match s, h1, h2, h3, h4 with
  | x :: r, h1, h2, h3, h4 =>
    have h3' := h3
    simp only [List.all_cons, Bool.and_eq_true] at h3
    have hx : 48 ≤ x.toNat ∧ x.toNat ≤ 57 := by have := h3.1; simpa [isDigit] using this
    have hx0 : x.toNat ≠ 48 := fun e => h4 (by simp; exact UInt8.toNat_inj.1 e)
    have hlt := decA_lt (x :: r) 0 h3'
    have hp : 10 ^ (x :: r).length ≤ 10 ^ 9 := Nat.pow_le_pow_right (by omega) h2
    have h9 : (10 : Nat) ^ 9 = 1000000000 := by decide
    have hle : decF (x :: r) ≤ 999999999 := by show decA 0 (x :: r) ≤ _; omega
    have hge : 1 ≤ decF (x :: r) := by
      show 1 ≤ decA 0 (x :: r)
      rw [decA_cons]
      exact Nat.le_trans (by omega) (decA_mono r _)
    refine ⟨?_, hge, hle, h4, by simp⟩
    unfold Lib.parseUintB
    rw [if_neg (by simp)]
    exact pm_ok (x :: r) 0 h3' (by show decF _ ≤ _; omega)
end Go.Proofs.Mv.App
open Go Go.Proofs Go.Proofs.Mv.V
namespace Go.Proofs.Mv.App
abbrev Sk := Int × List UInt8
def skel (t : Tok) : Sk := (t.kind, t.text)
/-- A text is read as these. -/
def Lx (s : List UInt8) (k : List Sk) : Prop := ∀ a, (toksAt s a).1.map skel = k ∧ (toksAt s a).2 = none
/-- A text doesn't go on with a word. -/
def stopW (s : List UInt8) : Prop := ∀ x, s.head? = some x → isWord x = false
theorem Lx.nil : Lx [] [] := fun a => ⟨rfl, rfl⟩
theorem Lx.blank {x : UInt8} {s : List UInt8} {k : List Sk} (hx : isBlank x = true) (h : Lx s k) : Lx (x :: s) k := fun a => by rw [toksAt_blank s a hx]; exact h (a + 1)
theorem Lx.sp {s : List UInt8} {k : List Sk} (h : Lx s k) : Lx (32 :: s) k := h.blank (by decide)
theorem Lx.nl {s : List UInt8} {k : List Sk} (h : Lx s k) : Lx (10 :: s) k := h.blank (by decide)
theorem Lx.tok {x : UInt8} {w s : List UInt8} {kd : Nat} {k : List Sk} (hb : isBlank x = false) (hh : ¬ x = 35) (hf : firstT (x :: w ++ s) = (kd, w.length + 1)) (h : Lx s k) : Lx (x :: w ++ s) (((kd : Int), x :: w) :: k) := by
  intro a
  rw [List.cons_append] at hf ⊢
  have h2 : (firstT (x :: (w ++ s))).2 = w.length + 1 := by rw [hf]
  have h1 : (firstT (x :: (w ++ s))).1 = kd := by rw [hf]
  rw [toksAt_tok (w ++ s) a hb hh (by omega), h2, h1]
  have e1 : (x :: (w ++ s)).drop (w.length + 1) = s := by simp
  have e2 : (x :: (w ++ s)).take (w.length + 1) = x :: w := by simp
  rw [e1, e2]
  exact ⟨by simp only [List.map_cons, skel, (h _).1], (h _).2⟩
theorem takeWhile_stop {p : UInt8 → Bool} {w s : List UInt8} (hw : w.all p = true) (hs : ∀ x, s.head? = some x → p x = false) : (w ++ s).takeWhile p = w := by
  induction w with
  | nil =>
    cases s with
    | nil => rfl
    | cons x s => simp [List.takeWhile_cons, hs x rfl]
  | cons x w ih =>
    simp only [List.all_cons, Bool.and_eq_true] at hw
    simp [List.takeWhile_cons, hw.1, ih hw.2]
theorem small_cls {x : UInt8} (h : isSmall x = true) : isBlank x = false ∧ ¬ x = 35 ∧ isWord x = true := by
  simp only [isSmall, Bool.and_eq_true, decide_eq_true_eq] at h
  refine ⟨by simp [isBlank]; omega, fun e => by subst e; simp at h, by simp [isWord, isSmall, h]⟩
theorem great_cls {x : UInt8} (h : isGreat x = true) : isBlank x = false ∧ ¬ x = 35 ∧ isWord x = true ∧ isSmall x = false := by
  simp only [isGreat, Bool.and_eq_true, decide_eq_true_eq] at h
  refine ⟨by simp [isBlank]; omega, fun e => by subst e; simp at h, by simp [isWord, isGreat, h], by simp [isSmall]; omega⟩
theorem digit_cls {x : UInt8} (h : isDigit x = true) : isBlank x = false ∧ ¬ x = 35 ∧ isWord x = true ∧ isSmall x = false ∧ isGreat x = false := by
  simp only [isDigit, Bool.and_eq_true, decide_eq_true_eq] at h
  refine ⟨by simp [isBlank]; omega, fun e => by subst e; simp at h, by simp [isWord, isDigit, h], by simp [isSmall]; omega, by simp [isGreat]; omega⟩
/-- A word that begins small. -/
theorem Lx.lower {w s : List UInt8} {k : List Sk} (h1 : w.head?.any isSmall = true) (hw : w.all isWord = true) (hs : stopW s) (h : Lx s k) : Lx (w ++ s) ((1, w) :: k) := by
  cases w with
  | nil => cases h1
  | cons x w =>
    simp only [List.head?_cons, Option.any_some] at h1
    obtain ⟨a, b, c⟩ := small_cls h1
    refine Lx.tok (kd := 1) a b ?_ h
    rw [List.cons_append, firstT, if_pos h1, runN, ← List.cons_append, takeWhile_stop hw hs]; rfl
theorem Lx.upper {w s : List UInt8} {k : List Sk} (h1 : w.head?.any isGreat = true) (hw : w.all isWord = true) (hs : stopW s) (h : Lx s k) : Lx (w ++ s) ((2, w) :: k) := by
  cases w with
  | nil => cases h1
  | cons x w =>
    simp only [List.head?_cons, Option.any_some] at h1
    obtain ⟨a, b, c, d⟩ := great_cls h1
    refine Lx.tok (kd := 2) a b ?_ h
    rw [List.cons_append, firstT, if_neg (by simp [d]), if_pos h1, runN, ← List.cons_append, takeWhile_stop hw hs]; rfl
theorem Lx.num {w s : List UInt8} {k : List Sk} (h1 : w ≠ []) (hw : w.all isDigit = true) (hs : ∀ x, s.head? = some x → isDigit x = false) (h : Lx s k) : Lx (w ++ s) ((3, w) :: k) := by
  cases w with
  | nil => exact absurd rfl h1
  | cons x w =>
    have hx : isDigit x = true := by simp only [List.all_cons, Bool.and_eq_true] at hw; exact hw.1
    obtain ⟨a, b, c, d, e⟩ := digit_cls hx
    refine Lx.tok (kd := 3) a b ?_ h
    rw [List.cons_append, firstT, if_neg (by simp [d]), if_neg (by simp [e]), if_pos hx, runN, ← List.cons_append, takeWhile_stop hw hs]; rfl
/-! names -/
theorem let_word {g : Bool} {x : UInt8} (h : isLet g x = true) : isWord x = true := by
  simp only [isLet, Bool.or_eq_true, Bool.and_eq_true] at h
  simp only [isWord, Bool.or_eq_true]
  rcases h with (h | h) | h
  · exact .inl (.inl h)
  · exact .inr h
  · exact .inl (.inr h.2)
theorem word_all {g : Bool} {s : List UInt8} (h : wordOk g s = true) : s.all isWord = true := by
  simp only [wordOk, Bool.and_eq_true] at h
  exact List.all_eq_true.2 fun x hx => let_word (List.all_eq_true.1 h.1.1 x hx)
theorem small_parts {s : List UInt8} (h : smallN s = true) : s.head?.any isSmall = true ∧ s.all isWord = true ∧ s.length ≤ 20 ∧ s ≠ [] := by
  simp only [smallN, Bool.and_eq_true] at h
  refine ⟨h.1.2, word_all h.1.1, word_len h.1.1, fun e => by subst e; simp at h⟩
theorem great_parts {s : List UInt8} (h : greatN s = true) : s.head?.any isGreat = true ∧ s.all isWord = true ∧ s.length ≤ 20 ∧ s ≠ [] := by
  simp only [greatN, Bool.and_eq_true] at h
  refine ⟨h.1.1.1.1.2, word_all h.1.1.1.1.1, word_len h.1.1.1.1.1, fun e => by subst e; simp at h⟩
theorem Lx.name {g : Bool} {w s : List UInt8} {k : List Sk} (h1 : namOk g w = true) (hs : stopW s) (h : Lx s k) : Lx (w ++ s) ((if g then 2 else 1, w) :: k) := by
  cases g
  · have := small_parts (s := w) h1; exact Lx.lower this.1 this.2.1 hs h
  · have := great_parts (s := w) h1; exact Lx.upper this.1 this.2.1 hs h
/-! numbers -/
end Go.Proofs.Mv.App
open Go Go.Proofs Go.Proofs.Mv.V
namespace Go.Proofs.Mv.App
/-- No later one is less. -/
def SortedN (l : List Nm) : Prop := l.Pairwise fun a b => ltB b.1 a.1 = false
theorem insF_perm (x : Nm) : ∀ l : List Nm, (insF x l).Perm (x :: l)
  | [] => .refl _
  | y :: ys => by
    simp only [insF]; split
    · exact .refl _
    · exact ((insF_perm x ys).cons y).trans (.swap _ _ _)
theorem insF_sorted (x : Nm) : ∀ {l : List Nm}, SortedN l → SortedN (insF x l)
  | [], _ => by simp [SortedN, insF]
  | y :: ys, h => by
    have h' := List.pairwise_cons.1 h
    simp only [insF]; split
    · rename_i e
      refine List.pairwise_cons.2 ⟨fun z hz => ?_, h⟩
      rcases List.mem_cons.1 hz with rfl | hz
      · exact ltB_asymm e
      · exact ltB_ntr (h'.1 z hz) (ltB_asymm e)
    · rename_i e
      refine List.pairwise_cons.2 ⟨fun z hz => ?_, insF_sorted x h'.2⟩
      have := (insF_perm x ys).mem_iff.1 hz
      rcases List.mem_cons.1 this with rfl | hz'
      · simpa using e
      · exact h'.1 z hz'
theorem sortF_spec (ps : List Nm) : (sortF ps).Perm ps ∧ SortedN (sortF ps) := by
  have : ∀ (r acc : List Nm), SortedN acc → (r.foldl (fun acc x => insF x acc) acc).Perm (acc ++ r) ∧ SortedN (r.foldl (fun acc x => insF x acc) acc) := by
    intro r
    induction r with
    | nil => intro acc h; simp [h]
    | cons x r ih =>
      intro acc h
      obtain ⟨h1, h2⟩ := ih (insF x acc) (insF_sorted x h)
      refine ⟨h1.trans ?_, h2⟩
      refine ((insF_perm x acc).append_right r).trans ?_
      exact (List.perm_middle (a := x) (l₁ := acc) (l₂ := r)).symm
  have := this ps [] (by simp [SortedN])
  simpa [sortF] using this
theorem sorted_uniq {l l' ps : List Nm} (hd : (ps.map (·.1)).Nodup) (h : l.Perm ps) (h' : l'.Perm ps) (hs : SortedN l) (hs' : SortedN l') : l = l' := by
  refine List.Perm.eq_of_pairwise (le := fun a b : Nm => ltB b.1 a.1 = false) ?_ hs hs' (h.trans h'.symm)
  intro a b ha hb h1 h2
  have hn : a.1 = b.1 := ltB_anti h2 h1
  have ha' : a ∈ ps := h.mem_iff.1 ha
  have hb' : b ∈ ps := h'.mem_iff.1 hb
  have key : ∀ l : List Nm, (l.map (·.1)).Nodup → a ∈ l → b ∈ l → a = b := by
    intro l
    induction l with
    | nil => intro _ h; cases h
    | cons x l ih =>
      intro hd ha hb
      simp only [List.map_cons, List.nodup_cons, List.mem_map, not_exists, not_and] at hd
      rcases List.mem_cons.1 ha with rfl | ha2
      · rcases List.mem_cons.1 hb with rfl | hb
        · rfl
        · exact absurd hn.symm (hd.1 b hb)
      · rcases List.mem_cons.1 hb with rfl | hb
        · exact absurd hn (hd.1 a ha2)
        · exact ih hd.2 ha2 hb
  exact key ps hd ha' hb'
end Go.Proofs.Mv.App
