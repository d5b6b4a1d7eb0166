/- A part of the proofs of the seat YtdbfejminjaheaaGreatDoor: the abstract machine, the contracts of the functions, the laws. No condition of its own. -/
import Derived.Test.YtdbfejminjaheaaGreatDoorVerD
set_option linter.unusedSimpArgs false
set_option linter.unusedVariables false
set_option linter.unusedSectionVars false
open Go Go.Proofs Go.Proofs.Mv.V
namespace Go.Proofs.Mv.App
def splitD : List UInt8 → List (List UInt8)
  | [] => [[]]
  | x :: s => if x = 46 then [] :: splitD s else match splitD s with
    | p :: ps => (x :: p) :: ps
    | [] => [[x]]
def parseP (s : List UInt8) : Option Ver := match splitD s with
  | [x, y, z] => if mayV ⟨partF x, partF y, partF z⟩ then some ⟨partF x, partF y, partF z⟩ else none
  | _ => none
theorem splitD_ne : ∀ s, splitD s ≠ []
  | [] => by simp [splitD]
  | x :: s => by
    unfold splitD
    split
    · simp
    · split <;> simp
theorem digit_ne {x : UInt8} (h : isDigit x = true) : x ≠ 46 := by
  intro e; subst e; simp [isDigit] at h
theorem splitD_last : ∀ (p : List UInt8), p.all isDigit = true → splitD p = [p]
  | [], _ => rfl
  | x :: p, h => by
    simp only [List.all_cons, Bool.and_eq_true] at h
    rw [splitD, if_neg (digit_ne h.1), splitD_last p h.2]
theorem splitD_part : ∀ (p s : List UInt8), p.all isDigit = true → splitD (p ++ 46 :: s) = p :: splitD s
  | [], s, _ => by rw [List.nil_append, splitD, if_pos rfl]
  | x :: p, s, h => by
    simp only [List.all_cons, Bool.and_eq_true] at h
    rw [List.cons_append, splitD, if_neg (digit_ne h.1), splitD_part p s h.2]
/-- What was split by dots is put together again. -/
def joinD : List (List UInt8) → List UInt8
  | [] => []
  | [p] => p
  | p :: q :: r => p ++ 46 :: joinD (q :: r)
theorem joinD_cons {p : List UInt8} {l : List (List UInt8)} (h : l ≠ []) : joinD (p :: l) = p ++ 46 :: joinD l := by
  cases l with
  | nil => exact absurd rfl h
  | cons q r => rfl
theorem splitD_join : ∀ s, joinD (splitD s) = s
  | [] => rfl
  | x :: s => by
    have ih := splitD_join s
    have hn := splitD_ne s
    unfold splitD
    split
    · rename_i e
      rw [joinD_cons hn, ih, e]; rfl
    · split
      · rename_i p ps hp
        rw [hp] at ih
        cases ps with
        | nil => simp only [joinD] at ih ⊢; rw [ih]
        | cons q r => rw [joinD_cons (by simp)] at ih ⊢; rw [List.cons_append, ih]
      · rename_i hp; exact absurd hp hn
theorem decF_pos {x : UInt8} {r : List UInt8} (hx : isDigit x = true) (h : x ≠ 48) : 1 ≤ decF (x :: r) := by
  show 1 ≤ decA 0 (x :: r)
  rw [decA_cons]
  have h1 : 48 ≤ x.toNat := by simp [isDigit] at hx; omega
  have h2 : x.toNat ≠ 48 := fun e => h (UInt8.toNat_inj.1 e)
  exact Nat.le_trans (by omega) (decA_mono r _)
theorem digitsF_canon : ∀ (f : Nat) (x : List UInt8), x.length ≤ f → 1 ≤ x.length → x.all isDigit = true → (1 < x.length → x.head? ≠ some 48) → digitsF f (decF x) = x
  | 0, x, h1, h2, _, _ => by omega
  | f + 1, x, h1, h2, h3, h4 => by
    obtain ⟨p, d, rfl⟩ : ∃ p d, x = p ++ [d] := by
      have hne : x ≠ [] := by intro e; subst e; simp at h2
      exact ⟨x.dropLast, x.getLast hne, (List.dropLast_concat_getLast hne).symm⟩
    simp only [List.all_append, List.all_cons, List.all_nil, Bool.and_true, Bool.and_eq_true] at h3
    have hd : 48 ≤ d.toNat ∧ d.toNat ≤ 57 := by have := h3.2; simp [isDigit] at this; omega
    have ed : UInt8.ofNat (48 + (d.toNat - 48)) = d := by
      apply UInt8.toNat_inj.1; rw [UInt8.toNat_ofNat']; omega
    rw [decF_snoc]
    cases p with
    | nil =>
      have e0 : decF [] = 0 := rfl
      rw [e0, digitsF, if_pos (by omega)]
      simp only [Nat.mul_zero, Nat.zero_add, ed, List.nil_append]
    | cons y r =>
      have hh := h4 (by simp only [List.length_append, List.length_cons, List.length_nil]; omega)
      have hy : y ≠ 48 := fun e => hh (by rw [e]; rfl)
      have hyd : isDigit y = true := by have := h3.1; simp only [List.all_cons, Bool.and_eq_true] at this; exact this.1
      have hp := decF_pos (r := r) hyd hy
      rw [digitsF, if_neg (by omega)]
      have e1 : (10 * decF (y :: r) + (d.toNat - 48)) / 10 = decF (y :: r) := by omega
      have e2 : (10 * decF (y :: r) + (d.toNat - 48)) % 10 = d.toNat - 48 := by omega
      rw [e1, e2, ed, digitsF_canon f (y :: r) (by simp only [List.length_append, List.length_cons, List.length_nil] at h1 ⊢; omega) (by simp) h3.1 (fun _ e => hy (by simpa using e))]
theorem okNum_parts {x : List UInt8} (h : okNum x = true) : 1 ≤ x.length ∧ x.length ≤ 9 ∧ (1 < x.length → x.head? ≠ some 48) ∧ x.all isDigit = true := by
  simp only [okNum, Bool.and_eq_true, decide_eq_true_eq, Bool.not_eq_true', Bool.and_eq_false_iff, decide_eq_false_iff_not] at h
  refine ⟨h.1.1.1, h.1.1.2, fun h1 => ?_, h.2⟩
  rcases h.1.2 with e | e
  · exact absurd h1 e
  · exact e
theorem part_canon {x : List UInt8} (h : okNum x = true) : digits (decF x) = x := by
  obtain ⟨h1, h2, h3, h4⟩ := okNum_parts h
  exact digitsF_canon 20 x (by omega) h1 h4 h3
theorem part_digits {n : Nat} (h : n ≤ 999999999) : okNum (digits n) = true ∧ decF (digits n) = n := by
  rcases Nat.eq_zero_or_pos n with e | e
  · subst e; exact ⟨by decide +kernel, by decide +kernel⟩
  · obtain ⟨a, b⟩ := digits_ok e h
    refine ⟨?_, b⟩
    simp only [numOk, Bool.and_eq_true, decide_eq_true_eq] at a
    obtain ⟨⟨⟨a1, a2⟩, a3⟩, a4⟩ := a
    simp [okNum, a1, a2, a3, a4]
theorem part_of {x : List UInt8} (h : 0 ≤ partF x) : okNum x = true ∧ partF x = decF x := by
  unfold partF at h ⊢
  split at h
  · rename_i e; exact ⟨e, by rw [if_pos e]⟩
  · omega
/-! reading on -/
theorem Sc.put_put (q : Sc) (v w : Int) : (q.put v).put w = q.put w := by
  obtain ⟨a, b, c, k⟩ := q; unfold Sc.put; match k with | 0 => rfl | 1 => rfl | k + 2 => rfl
theorem Sc.cur_put (q : Sc) (v : Int) : (q.put v).cur = v := by
  obtain ⟨a, b, c, k⟩ := q; unfold Sc.put Sc.cur; match k with | 0 => rfl | 1 => rfl | k + 2 => rfl
theorem scan_dig : ∀ (x r : List UInt8) (q : Sc) (acc : Nat), x.all isDigit = true → q.cur = acc → x ≠ [] → decA acc x ≤ 999999999 → scanF (x ++ r) q = scanF r (q.put (decA acc x : Nat))
  | [], _, _, _, _, _, h, _ => absurd rfl h
  | d :: x, r, q, acc, h1, h2, _, h4 => by
    simp only [List.all_cons, Bool.and_eq_true] at h1
    have hd : 48 ≤ d.toNat := by have := h1.1; simp [isDigit] at this; omega
    rw [decA_cons] at h4 ⊢
    have hm := decA_mono x (10 * acc + (d.toNat - 48))
    have hst : stepSc d q = some (q.put (10 * q.cur + d.toNat - 48)) := by
      unfold stepSc
      rw [if_neg (digit_ne h1.1), if_pos ⟨h1.1, by rw [h2]; omega⟩]
    have hv : (10 * q.cur + d.toNat - 48 : Int) = ((10 * acc + (d.toNat - 48) : Nat) : Int) := by rw [h2]; omega
    rw [List.cons_append, scanF, hst]
    simp only
    rw [hv]
    cases x with
    | nil => rfl
    | cons y s =>
      rw [scan_dig (y :: s) r (q.put ((10 * acc + (d.toNat - 48) : Nat) : Int)) (10 * acc + (d.toNat - 48)) h1.2 (Sc.cur_put _ _) (by simp) h4, Sc.put_put]
theorem mayV_nat {v : Ver} (h : mayV v = true) : ∃ a b c : Nat, v = ⟨a, b, c⟩ ∧ a ≤ 999999999 ∧ b ≤ 999999999 ∧ c ≤ 999999999 := by
  obtain ⟨⟨h1, h2⟩, ⟨h3, h4⟩, h5, h6⟩ := mayV_parts h
  obtain ⟨a, b, c⟩ := v
  simp only at h1 h2 h3 h4 h5 h6
  refine ⟨a.toNat, b.toNat, c.toNat, ?_, by omega, by omega, by omega⟩
  rw [Int.toNat_of_nonneg (by omega), Int.toNat_of_nonneg (by omega), Int.toNat_of_nonneg (by omega)]
theorem textV_nat (a b c : Nat) : textV ⟨a, b, c⟩ = digits a ++ 46 :: (digits b ++ 46 :: digits c) := by
  simp [textV]
theorem parseP_text {v : Ver} (h : mayV v = true) : parseP (textV v) = some v := by
  obtain ⟨a, b, c, rfl, ha, hb, hc⟩ := mayV_nat h
  obtain ⟨a1, a2⟩ := part_digits ha
  obtain ⟨b1, b2⟩ := part_digits hb
  obtain ⟨c1, c2⟩ := part_digits hc
  have hs : splitD (textV ⟨a, b, c⟩) = [digits a, digits b, digits c] := by
    rw [textV_nat, splitD_part _ _ (okNum_parts a1).2.2.2, splitD_part _ _ (okNum_parts b1).2.2.2, splitD_last _ (okNum_parts c1).2.2.2]
  have e1 : partF (digits a) = a := by unfold partF; rw [if_pos a1, a2]
  have e2 : partF (digits b) = b := by unfold partF; rw [if_pos b1, b2]
  have e3 : partF (digits c) = c := by unfold partF; rw [if_pos c1, c2]
  unfold parseP
  rw [hs]
  simp only [e1, e2, e3]
  rw [if_pos h]
theorem parseR_text {v : Ver} (h : mayV v = true) : parseR (textV v) = some v := by
  have h0 := h
  obtain ⟨a, b, c, rfl, ha, hb, hc⟩ := mayV_nat h
  obtain ⟨a1, a2⟩ := part_digits ha
  obtain ⟨b1, b2⟩ := part_digits hb
  obtain ⟨c1, c2⟩ := part_digits hc
  obtain ⟨p1, p2, _, p4⟩ := okNum_parts a1
  obtain ⟨r1, r2, _, r4⟩ := okNum_parts b1
  obtain ⟨s1, s2, _, s4⟩ := okNum_parts c1
  have ne : ∀ {x : List UInt8}, 1 ≤ x.length → x ≠ [] := fun h e => by rw [e] at h; simp at h
  have d1 : decA 0 (digits a) = a := a2
  have d2 : decA 0 (digits b) = b := b2
  have d3 : decA 0 (digits c) = c := c2
  have hl : ¬ 40 < (textV ⟨a, b, c⟩).length := by
    rw [textV_nat]; simp only [List.length_append, List.length_cons]; omega
  have hst : ∀ q : Sc, q.k < 2 → stepSc 46 q = some { q with k := q.k + 1 } := fun q hq => by
    unfold stepSc; rw [if_pos rfl, if_neg (by omega)]
  have hsc : scanF (textV ⟨a, b, c⟩) ⟨0, 0, 0, 0⟩ = some ⟨a, b, c, 2⟩ := by
    rw [textV_nat, scan_dig _ _ ⟨0, 0, 0, 0⟩ 0 p4 rfl (ne p1) (by rw [d1]; exact ha), d1, scanF, hst _ (by simp [Sc.put])]
    simp only
    rw [scan_dig (digits b) _ _ 0 r4 rfl (ne r1) (by rw [d2]; exact hb), d2, scanF, hst _ (by simp [Sc.put])]
    simp only
    have hz := scan_dig (digits c) [] ⟨a, b, 0, 2⟩ 0 s4 rfl (ne s1) (by rw [d3]; exact hc)
    rw [List.append_nil, d3] at hz
    exact hz
  unfold parseR
  rw [if_neg hl, hsc]
  simp only [Sc.ver]
  rw [if_pos ⟨h, trivial⟩]
theorem parseR_some {s : List UInt8} {v : Ver} (h : parseR s = some v) : mayV v = true ∧ textV v = s := by
  unfold parseR at h
  split at h
  · cases h
  · split at h
    · split at h
      · rename_i e
        obtain rfl := Option.some.inj h
        exact e
      · cases h
    · cases h
theorem parseP_some {s : List UInt8} {v : Ver} (h : parseP s = some v) : mayV v = true ∧ textV v = s := by
  have hj := splitD_join s
  unfold parseP at h
  split at h
  · rename_i x y z hs
    split at h
    · rename_i hm
      obtain rfl := Option.some.inj h
      refine ⟨hm, ?_⟩
      obtain ⟨⟨m1, _⟩, ⟨m2, _⟩, m3, _⟩ := mayV_parts hm
      simp only at m1 m2 m3
      obtain ⟨x1, x2⟩ := part_of (x := x) (by omega)
      obtain ⟨y1, y2⟩ := part_of (x := y) m2
      obtain ⟨z1, z2⟩ := part_of (x := z) m3
      rw [hs] at hj
      rw [x2, y2, z2, textV_nat, part_canon x1, part_canon y1, part_canon z1, ← hj]
      rfl
    · cases h
  · cases h
/-- A version read by dots is as the document reads it. -/
theorem parse_eq (s : List UInt8) : parseP s = parseR s := by
  cases h : parseP s with
  | some v =>
    obtain ⟨h1, h2⟩ := parseP_some h
    rw [← h2, parseR_text h1]
  | none =>
    cases h' : parseR s with
    | none => rfl
    | some v =>
      obtain ⟨h1, h2⟩ := parseR_some h'
      rw [← h2, parseP_text h1] at h
      cases h
end Go.Proofs.Mv.App
