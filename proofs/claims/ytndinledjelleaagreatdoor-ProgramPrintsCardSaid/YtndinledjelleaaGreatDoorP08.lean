/- A part of the proofs: machine, contracts, laws. No condition of its own. -/
import Derived.Test.YtndinledjelleaaGreatDoorP07
import Derived.Test.YtndinledjelleaaGreatDoorP06
set_option linter.unusedSimpArgs false
set_option linter.unusedVariables false
set_option linter.unusedSectionVars false
open Go Go.Proofs Go.Proofs.Mv.V
namespace Go.Proofs.Mv.App
def wordsT : List (List UInt8) := [[102, 110], [105, 102], [116, 104, 101, 110], [101, 108, 115, 101], [99, 97, 115, 101], [111, 102], [101, 110, 100], [108, 101, 116]]
def nameN (s : List UInt8) : Bool := smallN s && !decide (s ∈ wordsT)
def wTrue : List UInt8 := [84, 114, 117, 101]
def wFalse : List UInt8 := [70, 97, 108, 115, 101]
def tagN (s : List UInt8) : Bool := greatN s && !decide (s = wTrue) && !decide (s = wFalse)
def stepO (ok : List UInt8 → Bool) (l : List (List UInt8)) (i : Nat) : Bool := ok (l.getD i []) && (decide (i = 0) || ltB (l.getD (i - 1) []) (l.getD i []))
def risO (ok : List UInt8 → Bool) (l : List (List UInt8)) : Bool := (List.range l.length).all (stepO ok l)
theorem risO_no {ok : List UInt8 → Bool} {l : List (List UInt8)} {i : Nat} (hi : i < l.length) (h : stepO ok l i = false) : risO ok l = false :=
 List.all_eq_false.2 ⟨i, by simpa using hi, by simp [h]⟩
theorem risO_yes {ok : List UInt8 → Bool} {l : List (List UInt8)} (h : ∀ j, j < l.length → stepO ok l j = true) : risO ok l = true :=
 List.all_eq_true.2 fun j hj => h j (by simpa using hj)
theorem risO_step {ok : List UInt8 → Bool} {l : List (List UInt8)} (h : risO ok l = true) {j : Nat} (hj : j < l.length) : stepO ok l j = true :=
 List.all_eq_true.1 h j (by simpa using hj)
theorem stepO_get {ok : List UInt8 → Bool} {l : List (List UInt8)} {i : Nat} (hi : i < l.length) : stepO ok l i = (ok l[i] && (decide (i = 0) || ltB (l.getD (i - 1) []) l[i])) := by
 simp [stepO, hi]
def distN (l : List (List UInt8)) : Bool := (List.range l.length).all fun i => !decide (l.getD i [] ∈ l.take i)
theorem distN_no {l : List (List UInt8)} {i : Nat} (hi : i < l.length) (h : l[i] ∈ l.take i) : distN l = false :=
 List.all_eq_false.2 ⟨i, by simpa using hi, by simp [hi, h]⟩
theorem distN_yes {l : List (List UInt8)} (h : ∀ j (hj : j < l.length), l[j] ∉ l.take j) : distN l = true :=
 List.all_eq_true.2 fun j hj => by
  have hj' : j < l.length := by simpa using hj
  simp [hj', h j hj']
theorem distN_step {l : List (List UInt8)} (h : distN l = true) {j : Nat} (hj : j < l.length) : l[j] ∉ l.take j := by
 have := List.all_eq_true.1 h j (by simpa using hj)
 simpa [hj] using this
theorem ris_lt {ok : List UInt8 → Bool} {l : List (List UInt8)} (h : risO ok l = true) : ∀ (d j : Nat) (hj : j + d + 1 < l.length), ltB (l[j]'(by omega)) l[j + d + 1] = true
 | 0, j, hj => by
  have := risO_step h hj
  rw [stepO_get hj] at this
  simp only [Bool.and_eq_true, Bool.or_eq_true, decide_eq_true_eq] at this
  rcases this.2 with e | e
  ·omega
  ·have e2 : l.getD (j + 0 + 1 - 1) [] = l[j]'(by omega) := by simp [show j < l.length by omega]
   rw [e2] at e; exact e
 | d + 1, j, hj => by
  have h1 := ris_lt h d j (by omega)
  have h2 := ris_lt h 0 (j + d + 1) (by omega)
  exact ltB_tr h1 h2
theorem ris_dist {ok : List UInt8 → Bool} {l : List (List UInt8)} (h : risO ok l = true) : distN l = true := by
 refine distN_yes fun j hj hm => ?_
 rw [List.mem_take_iff_getElem] at hm
 obtain ⟨i, hi, he⟩ := hm
 have h1 := ris_lt h (j - i - 1) i (by omega)
 have e : i + (j - i - 1) + 1 = j := by omega
 simp only [e] at h1
 rw [he, ltB_irr] at h1
 cases h1
def cntsT (names vars : List (List UInt8)) (types : List Ty) (subs : List Tm) (n v y s : Nat) : Bool := decide (names.length = n) && decide (vars.length = v) && decide (types.length = y) && decide (subs.length = s)
def kindTm (k N : Int) (mod nm : List UInt8) (names vars : List (List UInt8)) (types : List Ty) (subs : List Tm) : Bool :=
 if k = 1 then cntsT names vars types subs 0 0 0 0 && decide (0 ≤ N) && decide (N ≤ 999999999)
 else if k = 2 then cntsT names vars types subs 0 0 0 0 && (decide (N = 0) || decide (N = 1))
 else if k = 3 then cntsT names vars types subs 0 0 0 0 && nameN nm
 else if k = 4 then cntsT names vars types subs 0 0 0 0 && nameN nm && nameN mod
 else if k = 5 then cntsT names vars types subs names.length 0 0 names.length && risO nameN names
 else if k = 6 then cntsT names vars types subs 0 0 0 1 && nameN nm
 else if k = 7 then cntsT names vars types subs 0 0 0 1 && tagN nm
 else if k = 8 then cntsT names vars types subs names.length 0 names.length 1 && names.all nameN && distN names && types.all mayT
 else if k = 9 ∨ k = 10 then cntsT names vars types subs 0 0 0 subs.length && decide (1 ≤ subs.length)
 else if k = 11 then cntsT names vars types subs 0 0 0 3
 else if k = 12 then decide (1 ≤ names.length) && cntsT names vars types subs names.length names.length 0 (names.length + 1) && risO tagN names && vars.all nameN
 else false
def fitsT (names vars : List (List UInt8)) (types : List Ty) (subs : List Tm) : Bool := decide (names.length ≤ 21) && decide (vars.length ≤ 21) && decide (types.length ≤ 21) && decide (subs.length ≤ 21)
def bareTm (k N : Int) (mod nm : List UInt8) : Bool := (decide (N = 0) || decide (k = 1) || decide (k = 2)) && (decide (mod = []) || decide (k = 4)) && (decide (nm = []) || decide (k = 3) || decide (k = 4) || decide (k = 6) || decide (k = 7))
def shapeTm : Tm → Bool
 | .mk k N mod nm names vars types subs => fitsT names vars types subs && bareTm k N mod nm && kindTm k N mod nm names vars types subs
mutual
def allTm : Tm → Bool
 | .mk k N mod nm names vars types subs => shapeTm (.mk k N mod nm names vars types subs) && allTms subs
def allTms : List Tm → Bool
 | [] => true
 | t :: ts => allTm t && allTms ts
end
theorem allTms_eq : ∀ l : List Tm, allTms l = l.all allTm
 | [] => rfl
 | t :: ts => by simp [allTms, allTms_eq ts]
def mayTm (t : Tm) : Bool := allTm t && decide (manyTm t ≤ 300) && decide (deepTm t ≤ 32)
/-! As the document reckons it: all names and variables are looked at, whatever the kind. -/
def nmR (k : Int) (l : List (List UInt8)) (i : Nat) : Bool :=
 (!(decide (k = 5) || decide (k = 8)) || nameN (l.getD i [])) && (!decide (k = 12) || tagN (l.getD i [])) && (!(decide (k = 5) || decide (k = 12)) || decide (i = 0) || ltB (l.getD (i - 1) []) (l.getD i [])) && !decide (l.getD i [] ∈ l.take i)
def namesR (k : Int) (l : List (List UInt8)) : Bool := (List.range l.length).all (nmR k l)
def endR (k N : Int) (mod nm : List UInt8) (names vars : List (List UInt8)) (types : List Ty) (subs : List Tm) : Bool :=
 if k = 1 then cntsT names vars types subs 0 0 0 0 && decide (0 ≤ N) && decide (N ≤ 999999999)
 else if k = 2 then cntsT names vars types subs 0 0 0 0 && (decide (N = 0) || decide (N = 1))
 else if k = 3 then cntsT names vars types subs 0 0 0 0 && nameN nm
 else if k = 4 then cntsT names vars types subs 0 0 0 0 && nameN nm && nameN mod
 else if k = 5 then cntsT names vars types subs names.length 0 0 names.length
 else if k = 6 then cntsT names vars types subs 0 0 0 1 && nameN nm
 else if k = 7 then cntsT names vars types subs 0 0 0 1 && tagN nm
 else if k = 8 then cntsT names vars types subs names.length 0 names.length 1
 else if k = 9 ∨ k = 10 then cntsT names vars types subs 0 0 0 subs.length && decide (1 ≤ subs.length)
 else if k = 11 then cntsT names vars types subs 0 0 0 3
 else if k = 12 then decide (1 ≤ names.length) && cntsT names vars types subs names.length names.length 0 (names.length + 1)
 else false
def ownR : Tm → Bool
 | .mk k N mod nm names vars types subs => fitsT names vars types subs && bareTm k N mod nm && namesR k names && vars.all nameN && types.all mayT && endR k N mod nm names vars types subs
theorem namesR_nil (k : Int) : namesR k [] = true := rfl
theorem namesR_5 (l : List (List UInt8)) : namesR 5 l = risO nameN l := by
 rw [Bool.eq_iff_iff]
 constructor
 ·intro h
  refine risO_yes fun j hj => ?_
  have := List.all_eq_true.1 h j (by simpa using hj)
  simp [nmR] at this
  rw [stepO_get hj]
  simp only [List.getD_eq_getElem?_getD, List.getElem?_eq_getElem hj, Option.getD_some] at this
  simp only [Bool.and_eq_true, Bool.or_eq_true, decide_eq_true_eq]
  exact ⟨this.1.1, by simpa [List.getD_eq_getElem?_getD] using this.1.2⟩
 ·intro h
  refine List.all_eq_true.2 fun j hj => ?_
  have hj' : j < l.length := by simpa using hj
  have h1 := risO_step h hj'
  rw [stepO_get hj'] at h1
  simp only [Bool.and_eq_true, Bool.or_eq_true, decide_eq_true_eq] at h1
  have h2 := distN_step (ris_dist h) hj'
  simp [nmR, hj', h1.1, h2]
  simpa [List.getD_eq_getElem?_getD] using h1.2
theorem namesR_12 (l : List (List UInt8)) : namesR 12 l = risO tagN l := by
 rw [Bool.eq_iff_iff]
 constructor
 ·intro h
  refine risO_yes fun j hj => ?_
  have := List.all_eq_true.1 h j (by simpa using hj)
  simp [nmR] at this
  rw [stepO_get hj]
  simp only [List.getD_eq_getElem?_getD, List.getElem?_eq_getElem hj, Option.getD_some] at this
  simp only [Bool.and_eq_true, Bool.or_eq_true, decide_eq_true_eq]
  exact ⟨this.1.1, by simpa [List.getD_eq_getElem?_getD] using this.1.2⟩
 ·intro h
  refine List.all_eq_true.2 fun j hj => ?_
  have hj' : j < l.length := by simpa using hj
  have h1 := risO_step h hj'
  rw [stepO_get hj'] at h1
  simp only [Bool.and_eq_true, Bool.or_eq_true, decide_eq_true_eq] at h1
  have h2 := distN_step (ris_dist h) hj'
  simp [nmR, hj', h1.1, h2]
  simpa [List.getD_eq_getElem?_getD] using h1.2
theorem namesR_8 (l : List (List UInt8)) : namesR 8 l = (l.all nameN && distN l) := by
 rw [Bool.eq_iff_iff, Bool.and_eq_true]
 constructor
 ·intro h
  have key : ∀ j (hj : j < l.length), nameN l[j] = true ∧ l[j] ∉ l.take j := fun j hj => by
   have := List.all_eq_true.1 h j (by simpa using hj)
   simpa [nmR, hj] using this
  refine ⟨List.all_eq_true.2 fun x hx => ?_, distN_yes fun j hj => (key j hj).2⟩
  obtain ⟨j, hj, rfl⟩ := List.getElem_of_mem hx
  exact (key j hj).1
 ·rintro ⟨h1, h2⟩
  refine List.all_eq_true.2 fun j hj => ?_
  have hj' : j < l.length := by simpa using hj
  have a := List.all_eq_true.1 h1 _ (List.getElem_mem hj')
  have b := distN_step h2 hj'
  simp [nmR, hj', a, b]
theorem cntsT_parts {names vars : List (List UInt8)} {types : List Ty} {subs : List Tm} {n v y s : Nat} (h : cntsT names vars types subs n v y s = true) : names.length = n ∧ vars.length = v ∧ types.length = y ∧ subs.length = s := by
 simp only [cntsT, Bool.and_eq_true, decide_eq_true_eq] at h; exact ⟨h.1.1.1, h.1.1.2, h.1.2, h.2⟩
theorem and_ite {c : Prop} [Decidable c] {x a b a' b' : Bool} (h1 : c → (x && a) = a') (h2 : ¬ c → (x && b) = b') : (x && (if c then a else b)) = (if c then a' else b') := by
 by_cases h : c
 ·rw [if_pos h, if_pos h]; exact h1 h
 ·rw [if_neg h, if_neg h]; exact h2 h
theorem ownR_eq (t : Tm) : ownR t = shapeTm t := by
 obtain ⟨k, N, mod, nm, names, vars, types, subs⟩ := t
 simp only [ownR, shapeTm]
 cases fitsT names vars types subs with
 | false => simp
 | true =>
 cases bareTm k N mod nm with
 | false => simp
 | true =>
 simp only [Bool.true_and]
 have nil4 : ∀ (s : Nat) (b : Bool), (namesR k names && vars.all nameN && types.all mayT && (cntsT names vars types subs 0 0 0 s && b)) = (cntsT names vars types subs 0 0 0 s && b) := fun s b => by
  cases c : cntsT names vars types subs 0 0 0 s with
  | false => simp
  | true =>
   obtain ⟨h1, h2, h3, _⟩ := cntsT_parts c
   have e1 : names = [] := List.length_eq_zero_iff.1 h1
   have e2 : vars = [] := List.length_eq_zero_iff.1 h2
   have e3 : types = [] := List.length_eq_zero_iff.1 h3
   subst e1; subst e2; subst e3
   simp [namesR_nil]
 unfold endR kindTm
 refine and_ite (fun _ => ?_) fun _ => ?_
 ·rw [Bool.and_assoc (cntsT _ _ _ _ _ _ _ _), nil4]
 refine and_ite (fun _ => ?_) fun _ => ?_
 ·rw [nil4]
 refine and_ite (fun _ => ?_) fun _ => ?_
 ·rw [nil4]
 refine and_ite (fun _ => ?_) fun _ => ?_
 ·rw [Bool.and_assoc (cntsT _ _ _ _ _ _ _ _), nil4]
 refine and_ite (fun h5 => ?_) fun _ => ?_
 ·subst h5
  rw [namesR_5]
  cases c : cntsT names vars types subs names.length 0 0 names.length with
  | false => simp
  | true =>
   obtain ⟨_, h2, h3, _⟩ := cntsT_parts c
   have e2 : vars = [] := List.length_eq_zero_iff.1 h2
   have e3 : types = [] := List.length_eq_zero_iff.1 h3
   subst e2; subst e3
   simp
 refine and_ite (fun _ => ?_) fun _ => ?_
 ·rw [nil4]
 refine and_ite (fun _ => ?_) fun _ => ?_
 ·rw [nil4]
 refine and_ite (fun h8 => ?_) fun _ => ?_
 ·subst h8
  rw [namesR_8]
  cases c : cntsT names vars types subs names.length 0 names.length 1 with
  | false => simp
  | true =>
   obtain ⟨_, h2, _, _⟩ := cntsT_parts c
   have e2 : vars = [] := List.length_eq_zero_iff.1 h2
   subst e2
   simp
 refine and_ite (fun _ => ?_) fun _ => ?_
 ·rw [nil4]
 refine and_ite (fun _ => ?_) fun _ => ?_
 ·have := nil4 3 true
  simpa using this
 refine and_ite (fun h12 => ?_) fun _ => ?_
 ·subst h12
  rw [namesR_12]
  cases c : cntsT names vars types subs names.length names.length 0 (names.length + 1) with
  | false => simp
  | true =>
   obtain ⟨_, _, h3, _⟩ := cntsT_parts c
   have e3 : types = [] := List.length_eq_zero_iff.1 h3
   subst e3
   cases decide (1 ≤ names.length) <;> cases risO tagN names <;> cases vars.all nameN <;> simp
 ·simp
end Go.Proofs.Mv.App
open Go Go.Proofs Go.Proofs.Mv.V
namespace Go.Proofs.Mv.App
theorem manyTm_pos : ∀ t : Tm, 1 ≤ manyTm t
 | .mk _ _ _ _ _ _ _ subs => by simp only [manyTm]; omega
theorem deepTms_mem {t : Tm} : ∀ {l : List Tm}, t ∈ l → deepTm t ≤ deepTms l
 | x :: l, h => by
  simp only [deepTms]
  rcases List.mem_cons.1 h with rfl | h
  ·omega
  ·have := deepTms_mem h; omega
def cntTm (t : Tm) (depth most : Int) : Int := if allTm t = true ∧ (deepTm t : Int) ≤ depth ∧ (manyTm t : Int) ≤ most then manyTm t else 0
theorem cntTm_pos {t : Tm} {d q : Int} : 0 < cntTm t d q ↔ (allTm t = true ∧ (deepTm t : Int) ≤ d ∧ (manyTm t : Int) ≤ q) := by
 unfold cntTm
 have := manyTm_pos t
 split
 ·rename_i h; simp only [h, and_self, iff_true]; omega
 ·rename_i h; simp only [h, iff_false]; omega
theorem cntTm_eq {t : Tm} {d q : Int} (h : cntTm t d q ≠ 0) : cntTm t d q = manyTm t ∧ allTm t = true ∧ (deepTm t : Int) ≤ d ∧ (manyTm t : Int) ≤ q := by
 unfold cntTm at h ⊢
 split
 ·rename_i e; exact ⟨rfl, e⟩
 ·rename_i e; rw [if_neg e] at h; exact absurd rfl h
theorem mayTm_cnt (t : Tm) : mayTm t = decide (0 < cntTm t 32 300) := by
 rw [Bool.eq_iff_iff, decide_eq_true_eq, cntTm_pos]
 simp only [mayTm, Bool.and_eq_true, decide_eq_true_eq]
 constructor
 ·rintro ⟨⟨h1, h2⟩, h3⟩; exact ⟨h1, by omega, by omega⟩
 ·rintro ⟨h1, h2, h3⟩; exact ⟨⟨h1, by omega⟩, by omega⟩
theorem cntTm_le (t : Tm) (d q : Int) : 0 ≤ cntTm t d q ∧ (0 ≤ q → cntTm t d q ≤ q) := by
 unfold cntTm
 split <;> omega
theorem allTms_append : ∀ l r : List Tm, allTms (l ++ r) = (allTms l && allTms r)
 | [], r => by simp [allTms]
 | t :: ts, r => by simp [allTms, allTms_append ts r, Bool.and_assoc]
theorem allTms_take {l : List Tm} (h : allTms l = true) (i : Nat) : allTms (l.take i) = true := by
 have := allTms_append (l.take i) (l.drop i)
 rw [List.take_append_drop, h] at this
 have h2 := this.symm
 simp only [Bool.and_eq_true] at h2
 exact h2.1
theorem allTms_mem {l : List Tm} (h : allTms l = true) : ∀ t ∈ l, allTm t = true := by
 rw [allTms_eq] at h; exact List.all_eq_true.1 h
structure CntOkT (subs : List Tm) (depth most : Int) (i : Nat) : Prop where
 al : allTms (subs.take i) = true
 dp : (deepTms (subs.take i) : Int) ≤ depth - 1
 mn : (1 : Int) + manyTms (subs.take i) ≤ most
theorem CntOkT.zero {subs : List Tm} {depth most : Int} (h1 : 1 ≤ depth) (h2 : 1 ≤ most) : CntOkT subs depth most 0 :=
 ⟨by simp [allTms], by simp [deepTms]; omega, by simp [manyTms]; omega⟩
theorem CntOkT.step {subs : List Tm} {depth most : Int} {i : Nat} (h : CntOkT subs depth most i) (hi : i < subs.length) (hk : cntTm subs[i] (depth - 1) (most - (1 + manyTms (subs.take i))) ≠ 0) : CntOkT subs depth most (i + 1) := by
 obtain ⟨_, h1, h2, h3⟩ := cntTm_eq hk
 refine ⟨?_, ?_, ?_⟩
 ·rw [take_snoc hi, allTms_append, h.al]; simp [allTms, h1]
 ·rw [take_snoc hi, deepTms_snoc]; have := h.dp; omega
 ·rw [take_snoc hi, manyTms_snoc]; omega
theorem CntOkT.stop {kind num : Int} {mod name : List UInt8} {names vars : List (List UInt8)} {types : List Ty} {subs : List Tm} {depth most : Int} {i : Nat} (hi : i < subs.length)
  (hk : cntTm subs[i] (depth - 1) (most - (1 + manyTms (subs.take i))) = 0) : cntTm (.mk kind num mod name names vars types subs) depth most = 0 := by
 unfold cntTm
 rw [if_neg]
 rintro ⟨h1, h2, h3⟩
 simp only [allTm, Bool.and_eq_true, deepTm, manyTm] at h1 h2 h3
 have hp : 0 < cntTm subs[i] (depth - 1) (most - (1 + manyTms (subs.take i))) := by
  refine cntTm_pos.2 ⟨allTms_mem h1.2 _ (List.getElem_mem hi), ?_, ?_⟩
  ·have := deepTms_mem (List.getElem_mem hi); omega
  ·have := manyTms_snoc (subs.take i) subs[i]
   rw [← take_snoc hi] at this
   have := manyTms_take subs (i + 1)
   omega
 omega
theorem CntOkT.all {kind num : Int} {mod name : List UInt8} {names vars : List (List UInt8)} {types : List Ty} {subs : List Tm} {depth most : Int} {i : Nat} (hs : shapeTm (.mk kind num mod name names vars types subs) = true) (h : CntOkT subs depth most i) (hi : subs.length ≤ i) :
  cntTm (.mk kind num mod name names vars types subs) depth most = 1 + manyTms subs := by
 obtain ⟨h1, h2, h3⟩ := h
 rw [List.take_of_length_le hi] at h1 h2 h3
 unfold cntTm
 rw [if_pos]
 ·simp only [manyTm]; omega
 ·simp only [allTm, hs, h1, deepTm, manyTm]
  refine ⟨rfl, by omega, by omega⟩
theorem cntTm_no {t : Tm} {depth most : Int} (h : depth < 1 ∨ most < 1 ∨ shapeTm t = false) : cntTm t depth most = 0 := by
 unfold cntTm
 rw [if_neg]
 rintro ⟨h1, h2, h3⟩
 have h4 := manyTm_pos t
 have h5 : 1 ≤ deepTm t := by obtain ⟨⟩ := t; simp [deepTm]
 rcases h with h | h | h
 ·omega
 ·omega
 ·obtain ⟨⟩ := t; simp [allTm, h] at h1
end Go.Proofs.Mv.App
open Go Go.Proofs Go.Proofs.Mv.V
namespace Go.Proofs.Mv.App
inductive TmF : Tm → Prop where
 | mk (kind num : Int) (mod name : List UInt8) (names vars : List (List UInt8)) (types : List Ty) (subs : List Tm) (h1 : ∀ y ∈ types, manyT y ≤ 1000000) (h2 : ∀ t ∈ subs, TmF t) : TmF (.mk kind num mod name names vars types subs)
mutual
theorem fewTm_ok : ∀ (t : Tm) (m : Int), 0 ≤ fewTm t m → TmF t ∧ manyTm t + fewTm t m = m
 | .mk kind num mod name names vars types subs, m, h => by
  simp only [fewTm] at h ⊢
  by_cases c : m - 1 < 0 ∨ 100 < names.length ∨ 100 < vars.length ∨ 100 < types.length
  ·rw [if_pos c] at h; omega
  rw [if_neg c] at h ⊢
  by_cases c2 : types.all few3 = true
  ·rw [if_pos c2] at h ⊢
   obtain ⟨h1, h2⟩ := fewTms_ok subs (m - 1) (by omega) h
   refine ⟨.mk _ _ _ _ _ _ _ _ (fun y hy => ?_) h1, ?_⟩
   ·have := few_many (List.all_eq_true.1 c2 y hy); omega
   ·simp only [manyTm]; omega
  ·rw [if_neg c2] at h; omega
theorem fewTms_ok : ∀ (l : List Tm) (m : Int), 0 ≤ m → 0 ≤ fewTms l m → (∀ t ∈ l, TmF t) ∧ manyTms l + fewTms l m = m
 | [], m, h0, h => by simp [fewTms, manyTms]
 | t :: ts, m, h0, h => by
  simp only [fewTms, if_pos h0, manyTms] at h ⊢
  have h4 : 0 ≤ fewTm t m := by
   by_cases c : 0 ≤ fewTm t m
   ·exact c
   ·rw [fewTms_neg ts _ (by omega)] at h; omega
  obtain ⟨a1, a2⟩ := fewTm_ok t m h4
  obtain ⟨b1, b2⟩ := fewTms_ok ts _ h4 h
  refine ⟨fun u hu => ?_, by omega⟩
  rcases List.mem_cons.1 hu with rfl | hu
  ·exact a1
  ·exact b1 u hu
end
theorem fewTm3_ok {t : Tm} (h : fewTm3 t = true) : TmF t ∧ manyTm t ≤ 2000 := by
 simp only [fewTm3, decide_eq_true_eq] at h
 obtain ⟨a, b⟩ := fewTm_ok t 2000 h
 exact ⟨a, by omega⟩
end Go.Proofs.Mv.App
open Go Go.Proofs Go.Proofs.Mv.V
namespace Go.Proofs.Mv.App
def parK (k : Int) (s : List UInt8) : List UInt8 := if k = 8 ∨ k = 11 ∨ k = 12 then [40] ++ s ++ [41] else s
def kindTmK : Tm → Int
 | .mk k _ _ _ _ _ _ _ => k
def kindH : List Tm → Int
 | [] => 0
 | t :: _ => kindTmK t
def makL (names T : List (List UInt8)) : List (List UInt8) := (List.range names.length).map fun i => names.getD i [] ++ [32, 61, 32] ++ T.getD i []
def fnL (names Y : List (List UInt8)) : List (List UInt8) := (List.range names.length).map fun i => names.getD i [] ++ [58, 32] ++ Y.getD i []
def brOne (names vars T : List (List UInt8)) (i : Nat) : List UInt8 := names.getD i [] ++ [40] ++ vars.getD i [] ++ [41, 32, 45, 62, 32] ++ T.getD (i + 1) [] ++ [32]
def brL (names vars T : List (List UInt8)) : Nat → List UInt8
 | 0 => []
 | i + 1 => brL names vars T i ++ brOne names vars T i
def textK (k N : Int) (mod nm : List UInt8) (names vars Y : List (List UInt8)) (kh : Int) (T : List (List UInt8)) : List UInt8 :=
 if k = 1 then digits N.toNat
 else if k = 2 then (if N = 1 then wTrue else wFalse)
 else if k = 3 then nm
 else if k = 4 then mod ++ [58] ++ nm
 else if k = 5 then [123] ++ joinB comma (makL names T) ++ [125]
 else if k = 6 then parK kh (T.getD 0 []) ++ [46] ++ nm
 else if k = 7 then nm ++ [40] ++ T.getD 0 [] ++ [41]
 else if k = 8 then [102, 110, 40] ++ joinB comma (fnL names Y) ++ [41, 32] ++ T.getD 0 []
 else if k = 9 then parK kh (T.getD 0 []) ++ [40] ++ joinB comma (T.drop 1) ++ [41]
 else if k = 10 then [91] ++ joinB comma T ++ [93]
 else if k = 11 then [105, 102, 32] ++ T.getD 0 [] ++ [32, 116, 104, 101, 110, 32] ++ T.getD 1 [] ++ [32, 101, 108, 115, 101, 32] ++ T.getD 2 []
 else [99, 97, 115, 101, 32] ++ T.getD 0 [] ++ [32, 111, 102, 32] ++ brL names vars T names.length ++ [101, 110, 100]
mutual
def textTm : Tm → List UInt8
 | .mk k N mod nm names vars types subs => textK k N mod nm names vars (types.map textT) (kindH subs) (textTms subs)
def textTms : List Tm → List (List UInt8)
 | [] => []
 | t :: ts => textTm t :: textTms ts
end
theorem textTms_eq : ∀ l : List Tm, textTms l = l.map textTm
 | [] => by simp [textTms]
 | t :: ts => by simp [textTms, textTms_eq ts]
theorem nameN_len {s : List UInt8} (h : nameN s = true) : s.length ≤ 20 := by
 simp only [nameN, Bool.and_eq_true] at h
 exact (small_parts h.1).2.2.1
theorem tagN_len {s : List UInt8} (h : tagN s = true) : s.length ≤ 20 := by
 simp only [tagN, Bool.and_eq_true] at h
 exact (great_parts h.1.1).2.2.1
theorem risO_mem {ok : List UInt8 → Bool} {l : List (List UInt8)} (h : risO ok l = true) {s : List UInt8} (hs : s ∈ l) : ok s = true := by
 obtain ⟨j, hj, rfl⟩ := List.getElem_of_mem hs
 have := risO_step h hj
 rw [stepO_get hj] at this
 simp only [Bool.and_eq_true] at this
 exact this.1
structure TmSm (mod nm : List UInt8) (names vars : List (List UInt8)) (types : List Ty) (subs : List Tm) : Prop where
 ln : names.length ≤ 21
 lv : vars.length ≤ 21
 ly : types.length ≤ 21
 ls : subs.length ≤ 21
 sm : mod.length ≤ 20
 sn : nm.length ≤ 20
 nn : ∀ s ∈ names, s.length ≤ 20
 nv : ∀ s ∈ vars, s.length ≤ 20
 ny : ∀ y ∈ types, mayT y = true
def cntK (k : Int) (n v y s : Nat) : Prop :=
 (k = 1 ∨ k = 2 ∨ k = 3 ∨ k = 4) ∧ n = 0 ∧ v = 0 ∧ y = 0 ∧ s = 0 ∨ k = 5 ∧ v = 0 ∧ y = 0 ∧ s = n ∨ (k = 6 ∨ k = 7) ∧ n = 0 ∧ v = 0 ∧ y = 0 ∧ s = 1 ∨ k = 8 ∧ v = 0 ∧ y = n ∧ s = 1 ∨
  (k = 9 ∨ k = 10) ∧ n = 0 ∧ v = 0 ∧ y = 0 ∧ 1 ≤ s ∨ k = 11 ∧ n = 0 ∧ v = 0 ∧ y = 0 ∧ s = 3 ∨ k = 12 ∧ 1 ≤ n ∧ v = n ∧ y = 0 ∧ s = n + 1
theorem fitsT_parts {names vars : List (List UInt8)} {types : List Ty} {subs : List Tm} (h : fitsT names vars types subs = true) : names.length ≤ 21 ∧ vars.length ≤ 21 ∧ types.length ≤ 21 ∧ subs.length ≤ 21 := by
 simp only [fitsT, Bool.and_eq_true, decide_eq_true_eq] at h; exact ⟨h.1.1.1, h.1.1.2, h.1.2, h.2⟩
theorem bareTm_parts {k N : Int} {mod nm : List UInt8} (h : bareTm k N mod nm = true) : (N = 0 ∨ k = 1 ∨ k = 2) ∧ (mod = [] ∨ k = 4) ∧ (nm = [] ∨ k = 3 ∨ k = 4 ∨ k = 6 ∨ k = 7) := by
 simp only [bareTm, Bool.and_eq_true, Bool.or_eq_true, decide_eq_true_eq] at h
 exact ⟨or_assoc.1 h.1.1, h.1.2, or_assoc.1 (or_assoc.1 (or_assoc.1 h.2))⟩
structure KindOk (k N : Int) (mod nm : List UInt8) (names vars : List (List UInt8)) (types : List Ty) (subs : List Tm) : Prop where
 cn : cntK k names.length vars.length types.length subs.length
 n1 : k = 1 → 0 ≤ N ∧ N ≤ 999999999
 n2 : k = 2 → N = 0 ∨ N = 1
 nm3 : k = 3 ∨ k = 4 ∨ k = 6 → nameN nm = true
 md4 : k = 4 → nameN mod = true
 tg7 : k = 7 → tagN nm = true
 r5 : k = 5 → risO nameN names = true
 r8 : k = 8 → names.all nameN = true ∧ distN names = true ∧ types.all mayT = true
 r12 : k = 12 → risO tagN names = true ∧ vars.all nameN = true
theorem kindTm_ok {k N : Int} {mod nm : List UInt8} {names vars : List (List UInt8)} {types : List Ty} {subs : List Tm} (h : kindTm k N mod nm names vars types subs = true) : KindOk k N mod nm names vars types subs := by
 have dq : ∀ {a b : Int}, a ≠ b → k = a → ¬ k = b := fun h1 h2 h3 => h1 (h2.symm.trans h3)
 unfold kindTm at h
 split at h
 ·rename_i e; subst e
  simp only [Bool.and_eq_true, decide_eq_true_eq] at h
  obtain ⟨a, b, c, d⟩ := cntsT_parts h.1.1
  exact ⟨.inl ⟨.inl rfl, a, b, c, d⟩, fun _ => ⟨h.1.2, h.2⟩, by omega, by omega, by omega, by omega, by omega, by omega, by omega⟩
 split at h
 ·rename_i e; subst e
  simp only [Bool.and_eq_true, Bool.or_eq_true, decide_eq_true_eq] at h
  obtain ⟨a, b, c, d⟩ := cntsT_parts h.1
  exact ⟨.inl ⟨.inr (.inl rfl), a, b, c, d⟩, by omega, fun _ => h.2, by omega, by omega, by omega, by omega, by omega, by omega⟩
 split at h
 ·rename_i e; subst e
  simp only [Bool.and_eq_true] at h
  obtain ⟨a, b, c, d⟩ := cntsT_parts h.1
  exact ⟨.inl ⟨.inr (.inr (.inl rfl)), a, b, c, d⟩, by omega, by omega, fun _ => h.2, by omega, by omega, by omega, by omega, by omega⟩
 split at h
 ·rename_i e; subst e
  simp only [Bool.and_eq_true] at h
  obtain ⟨a, b, c, d⟩ := cntsT_parts h.1.1
  exact ⟨.inl ⟨.inr (.inr (.inr rfl)), a, b, c, d⟩, by omega, by omega, fun _ => h.1.2, fun _ => h.2, by omega, by omega, by omega, by omega⟩
 split at h
 ·rename_i e; subst e
  simp only [Bool.and_eq_true] at h
  obtain ⟨a, b, c, d⟩ := cntsT_parts h.1
  exact ⟨.inr (.inl ⟨rfl, b, c, d⟩), by omega, by omega, by omega, by omega, by omega, fun _ => h.2, by omega, by omega⟩
 split at h
 ·rename_i e; subst e
  simp only [Bool.and_eq_true] at h
  obtain ⟨a, b, c, d⟩ := cntsT_parts h.1
  exact ⟨.inr (.inr (.inl ⟨.inl rfl, a, b, c, d⟩)), by omega, by omega, fun _ => h.2, by omega, by omega, by omega, by omega, by omega⟩
 split at h
 ·rename_i e; subst e
  simp only [Bool.and_eq_true] at h
  obtain ⟨a, b, c, d⟩ := cntsT_parts h.1
  exact ⟨.inr (.inr (.inl ⟨.inr rfl, a, b, c, d⟩)), by omega, by omega, by omega, by omega, fun _ => h.2, by omega, by omega, by omega⟩
 split at h
 ·rename_i e; subst e
  simp only [Bool.and_eq_true] at h
  obtain ⟨a, b, c, d⟩ := cntsT_parts h.1.1.1
  exact ⟨.inr (.inr (.inr (.inl ⟨rfl, b, c, d⟩))), by omega, by omega, by omega, by omega, by omega, by omega, fun _ => ⟨h.1.1.2, h.1.2, h.2⟩, by omega⟩
 split at h
 ·rename_i e
  simp only [Bool.and_eq_true, decide_eq_true_eq] at h
  obtain ⟨a, b, c, d⟩ := cntsT_parts h.1
  exact ⟨.inr (.inr (.inr (.inr (.inl ⟨e, a, b, c, h.2⟩)))), by omega, by omega, by omega, by omega, by omega, by omega, by omega, by omega⟩
 split at h
 ·rename_i e; subst e
  obtain ⟨a, b, c, d⟩ := cntsT_parts h
  exact ⟨.inr (.inr (.inr (.inr (.inr (.inl ⟨rfl, a, b, c, d⟩))))), by omega, by omega, by omega, by omega, by omega, by omega, by omega, by omega⟩
 split at h
 ·rename_i e; subst e
  simp only [Bool.and_eq_true, decide_eq_true_eq] at h
  obtain ⟨a, b, c, d⟩ := cntsT_parts h.1.1.2
  exact ⟨.inr (.inr (.inr (.inr (.inr (.inr ⟨rfl, h.1.1.1, b, c, d⟩))))), by omega, by omega, by omega, by omega, by omega, by omega, by omega, fun _ => ⟨h.1.2, h.2⟩⟩
 ·cases h
theorem KindOk.sm {k N : Int} {mod nm : List UInt8} {names vars : List (List UInt8)} {types : List Ty} {subs : List Tm} (h : KindOk k N mod nm names vars types subs) (hf : fitsT names vars types subs = true) (hb : bareTm k N mod nm = true) : TmSm mod nm names vars types subs := by
 obtain ⟨f1, f2, f3, f4⟩ := fitsT_parts hf
 obtain ⟨b1, b2, b3⟩ := bareTm_parts hb
 have hc := h.cn
 unfold cntK at hc
 have nil : ∀ {α : Type} {l : List α} {p : α → Prop}, l.length = 0 → ∀ x ∈ l, p x := fun e x hx => by
  rw [List.length_eq_zero_iff] at e; subst e; cases hx
 refine ⟨f1, f2, f3, f4, ?_, ?_, ?_, ?_, ?_⟩
 ·rcases b2 with rfl | e
  ·simp
  ·exact nameN_len (h.md4 e)
 ·rcases b3 with rfl | e | e | e | e
  ·simp
  ·exact nameN_len (h.nm3 (.inl e))
  ·exact nameN_len (h.nm3 (.inr (.inl e)))
  ·exact nameN_len (h.nm3 (.inr (.inr e)))
  ·exact tagN_len (h.tg7 e)
 ·by_cases k5 : k = 5
  ·exact fun s hs => nameN_len (risO_mem (h.r5 k5) hs)
  by_cases k8 : k = 8
  ·exact fun s hs => nameN_len (List.all_eq_true.1 (h.r8 k8).1 s hs)
  by_cases k12 : k = 12
  ·exact fun s hs => tagN_len (risO_mem (h.r12 k12).1 hs)
  exact nil (by omega)
 ·by_cases k12 : k = 12
  ·exact fun s hs => nameN_len (List.all_eq_true.1 (h.r12 k12).2 s hs)
  exact nil (by omega)
 ·by_cases k8 : k = 8
  ·exact fun s hs => List.all_eq_true.1 (h.r8 k8).2.2 s hs
  exact nil (by omega)
theorem shapeTm_parts {k N : Int} {mod nm : List UInt8} {names vars : List (List UInt8)} {types : List Ty} {subs : List Tm} (h : shapeTm (.mk k N mod nm names vars types subs) = true) : KindOk k N mod nm names vars types subs ∧ TmSm mod nm names vars types subs := by
 simp only [shapeTm, Bool.and_eq_true] at h
 have := kindTm_ok h.2
 exact ⟨this, this.sm h.1.1 h.1.2⟩
/-! How long. -/
def smL (c : Nat) (l : List (List UInt8)) : Nat := (l.map fun s => s.length + c).sum
theorem smL_get {c : Nat} : ∀ (l : List (List UInt8)) (i : Nat), (l.getD i []).length ≤ smL c l
 | [], i => by simp [smL]
 | s :: l, 0 => by simp [smL]; omega
 | s :: l, i + 1 => by
  have := smL_get (c := c) l i
  simp only [List.getD_cons_succ, smL, List.map_cons, List.sum_cons] at this ⊢; omega
theorem smL_range {c B : Nat} (g : Nat → List UInt8) (T : List (List UInt8)) (h : ∀ i, (g i).length + 2 ≤ (T.getD i []).length + B) : ∀ (k : Nat), k ≤ T.length → (((List.range k).map g).map fun s => s.length + comma.length).sum ≤ smL c (T.take k) + B * k
 | 0, _ => by simp [smL]
 | k + 1, hk => by
  have ih := smL_range (c := c) g T h k (by omega)
  have := h k
  have e : T.getD k [] = T[k]'(by omega) := by simp [List.getD_eq_getElem?_getD, show k < T.length by omega]
  rw [e] at this
  rw [List.range_succ, List.map_append, List.map_append, List.sum_append, take_snoc (show k < T.length by omega)]
  simp only [smL, List.map_append, List.sum_append, List.map_cons, List.map_nil, List.sum_cons, List.sum_nil, comma, List.length_cons, List.length_nil] at ih ⊢
  have : B * (k + 1) = B * k + B := Nat.mul_succ B k
  omega
theorem smL_take (c : Nat) (T : List (List UInt8)) (k : Nat) : smL c (T.take k) ≤ smL c T := by
 conv => rhs; rw [← List.take_append_drop k T]
 simp only [smL, List.map_append, List.sum_append]; omega
theorem smL_drop (c : Nat) (T : List (List UInt8)) (k : Nat) : smL c (T.drop k) ≤ smL c T := by
 conv => rhs; rw [← List.take_append_drop k T]
 simp only [smL, List.map_append, List.sum_append]; omega
theorem smL_mono {c d : Nat} (h : c ≤ d) (T : List (List UInt8)) : smL c T ≤ smL d T := by
 induction T with
 | nil => simp [smL]
 | cons s T ih => simp only [smL, List.map_cons, List.sum_cons] at ih ⊢; omega
theorem join_sum (T : List (List UInt8)) : (joinB comma T).length ≤ smL 100 T := by
 have h1 : (joinB comma T).length ≤ smL 2 T := joinB_len comma T
 have h2 := smL_mono (show 2 ≤ 100 by omega) T
 omega
theorem brL_len {names vars T : List (List UInt8)} (hn : ∀ s ∈ names, s.length ≤ 20) (hv : ∀ s ∈ vars, s.length ≤ 20) : ∀ (k : Nat), k + 1 ≤ T.length → (brL names vars T k).length ≤ smL 100 ((T.drop 1).take k)
 | 0, _ => by simp [brL]
 | k + 1, hk => by
  have hk2 : k + 1 ≤ T.length := by omega
  have ih := brL_len hn hv k hk2
  have gd : ∀ {l : List (List UInt8)} {i : Nat}, (∀ s ∈ l, s.length ≤ 20) → (l.getD i []).length ≤ 20 := fun {l i} h => by
   by_cases hi : i < l.length
   ·rw [List.getD_eq_getElem?_getD, List.getElem?_eq_getElem hi]; exact h _ (List.getElem_mem hi)
   ·simp [List.getD_eq_getElem?_getD, List.getElem?_eq_none (show l.length ≤ i by omega)]
  have h1 := gd (i := k) hn
  have h2 := gd (i := k) hv
  rw [take_snoc (show k < (T.drop 1).length by simp; omega)]
  have e : (T.drop 1)[k]'(by simp; omega) = T.getD (k + 1) [] := by
   rw [List.getD_eq_getElem?_getD, List.getElem?_eq_getElem (show k + 1 < T.length by omega)]
   simp [List.getElem_drop, Nat.add_comm 1 k]
  rw [e]
  simp only [brL, brOne, List.length_append, List.length_cons, List.length_nil, smL, List.map_append, List.sum_append, List.map_cons, List.map_nil, List.sum_cons, List.sum_nil] at ih ⊢
  omega
theorem parK_len (k : Int) (s : List UInt8) : (parK k s).length ≤ s.length + 2 := by
 unfold parK; split <;> simp <;> omega
theorem getD_small {l : List (List UInt8)} {B : Nat} (h : ∀ s ∈ l, s.length ≤ B) (i : Nat) : (l.getD i []).length ≤ B := by
 by_cases hi : i < l.length
 ·rw [List.getD_eq_getElem?_getD, List.getElem?_eq_getElem hi]; exact h _ (List.getElem_mem hi)
 ·simp [List.getD_eq_getElem?_getD, List.getElem?_eq_none (show l.length ≤ i by omega)]
theorem fnL_sum {names Y : List (List UInt8)} (hl : names.length ≤ 21) (hn : ∀ s ∈ names, s.length ≤ 20) (hy : ∀ s ∈ Y, s.length ≤ 65000) : ((fnL names Y).map fun s => s.length + comma.length).sum ≤ 1366000 := by
 have : ∀ k, (((List.range k).map fun i => names.getD i [] ++ [58, 32] ++ Y.getD i []).map fun s => s.length + comma.length).sum ≤ 65024 * k := by
  intro k
  induction k with
  | zero => simp
  | succ k ih =>
   have h1 := getD_small hn k
   have h2 := getD_small hy k
   rw [List.range_succ, List.map_append, List.map_append, List.sum_append]
   simp only [List.map_cons, List.map_nil, List.sum_cons, List.sum_nil, List.length_append, List.length_cons, List.length_nil, comma] at ih ⊢
   omega
 have := this names.length
 unfold fnL
 omega
theorem may_text {y : Ty} (h : mayT y = true) : (textT y).length ≤ 65000 := by
 simp only [mayT, Bool.and_eq_true, decide_eq_true_eq] at h
 have := text_len y h.1.1
 omega
theorem makL_sum {names T : List (List UInt8)} (hn : ∀ s ∈ names, s.length ≤ 20) (he : T.length = names.length) : ((makL names T).map fun s => s.length + comma.length).sum ≤ smL 100 T := by
 have h1 := fun i => getD_small hn i
 have := smL_range (c := 0) (B := 25) (fun i => names.getD i [] ++ [32, 61, 32] ++ T.getD i []) T (fun i => by have := h1 i; simp only [List.length_append, List.length_cons, List.length_nil]; omega) names.length (by omega)
 unfold makL
 rw [List.take_of_length_le (by omega)] at this
 have h2 : smL 0 T + 25 * T.length ≤ smL 100 T := by
  clear this he
  induction T with
  | nil => simp [smL]
  | cons s T ih => simp only [smL, List.map_cons, List.sum_cons, List.length_cons] at ih ⊢; omega
 rw [← he] at this ⊢
 omega
theorem textK_len {k N : Int} {mod nm : List UInt8} {names vars : List (List UInt8)} {types : List Ty} {subs : List Tm} (hk : KindOk k N mod nm names vars types subs) (hs : TmSm mod nm names vars types subs) (kh : Int) {T : List (List UInt8)} (hT : T.length = subs.length) :
  (textK k N mod nm names vars (types.map textT) kh T).length + 100 ≤ smL 100 T + 2000000 := by
 have h0 := smL_get (c := 100) T 0
 have hd := digits_len N.toNat
 have hp := parK_len kh (T.getD 0 [])
 have hc := hk.cn
 have q1 := hs.sm
 have q2 := hs.sn
 unfold cntK at hc
 obtain ⟨B, hB⟩ : ∃ B : Nat, B = 2000000 := ⟨_, rfl⟩
 rw [← hB]
 obtain ⟨SS, hSS⟩ : ∃ SS : Nat, SS = smL 100 T := ⟨_, rfl⟩
 rw [← hSS] at h0 ⊢
 unfold textK
 by_cases k1 : k = 1
 ·rw [if_pos k1]
  omega
 rw [if_neg k1]
 by_cases k2 : k = 2
 ·rw [if_pos k2]
  by_cases n1 : N = 1
  ·rw [if_pos n1]
   have : wTrue.length = 4 := rfl
   omega
  ·rw [if_neg n1]
   have : wFalse.length = 5 := rfl
   omega
 rw [if_neg k2]
 by_cases k3 : k = 3
 ·rw [if_pos k3]
  omega
 rw [if_neg k3]
 by_cases k4 : k = 4
 ·rw [if_pos k4]
  simp only [List.length_append, List.length_cons, List.length_nil]; omega
 rw [if_neg k4]
 by_cases k5 : k = 5
 ·rw [if_pos k5]
  have h1 := joinB_len comma (makL names T)
  have h2 := makL_sum (T := T) hs.nn (by omega)
  rw [← hSS] at h2
  simp only [List.length_append, List.length_cons, List.length_nil]; omega
 rw [if_neg k5]
 by_cases k6 : k = 6
 ·rw [if_pos k6]
  simp only [List.length_append, List.length_cons, List.length_nil]; omega
 rw [if_neg k6]
 by_cases k7 : k = 7
 ·rw [if_pos k7]
  simp only [List.length_append, List.length_cons, List.length_nil]; omega
 rw [if_neg k7]
 by_cases k8 : k = 8
 ·rw [if_pos k8]
  have h1 := joinB_len comma (fnL names (types.map textT))
  have h2 := fnL_sum (Y := types.map textT) hs.ln hs.nn (fun s h => by obtain ⟨y, hy, rfl⟩ := List.mem_map.1 h; exact may_text (hs.ny y hy))
  simp only [List.length_append, List.length_cons, List.length_nil]; omega
 rw [if_neg k8]
 by_cases k9 : k = 9
 ·rw [if_pos k9]
  have h1 := join_sum (T.drop 1)
  cases T with
  | nil => simp [joinB] at *; omega
  | cons x T =>
   simp only [List.drop_succ_cons, List.drop_zero] at h1 ⊢
   simp only [List.getD_cons_zero] at hp ⊢
   simp only [smL, List.map_cons, List.sum_cons] at h1 hSS
   simp only [List.length_append, List.length_cons, List.length_nil]; omega
 rw [if_neg k9]
 by_cases k10 : k = 10
 ·rw [if_pos k10]
  have h1 := join_sum T
  rw [← hSS] at h1
  simp only [List.length_append, List.length_cons, List.length_nil]; omega
 rw [if_neg k10]
 by_cases k11 : k = 11
 ·rw [if_pos k11]
  have h3 : T.length = 3 := by omega
  match T, h3 with
  | [a, b, c], _ =>
   simp [smL] at hSS
   simp
   omega
 rw [if_neg k11]
 ·have h1 := brL_len (T := T) hs.nn hs.nv names.length (by omega)
  have h2 := smL_take 100 (T.drop 1) names.length
  cases T with
  | nil => simp at hT; omega
  | cons x T =>
   simp only [List.drop_succ_cons, List.drop_zero] at h1 h2 ⊢
   simp only [List.getD_cons_zero] at hp ⊢
   simp only [smL, List.map_cons, List.sum_cons] at h1 h2 hSS
   simp only [List.length_append, List.length_cons, List.length_nil]; omega
theorem textTms_len (l : List Tm) : (textTms l).length = l.length := by rw [textTms_eq]; simp
mutual
theorem textTm_len : ∀ t : Tm, allTm t = true → (textTm t).length + 100 ≤ 2000000 * manyTm t
 | .mk k N mod nm names vars types subs, h => by
  simp only [allTm, Bool.and_eq_true] at h
  obtain ⟨h1, h2⟩ := shapeTm_parts h.1
  have h3 := textK_len h1 h2 (kindH subs) (T := textTms subs) (textTms_len subs)
  have h4 := textTms_sum subs h.2
  simp only [textTm, manyTm]
  omega
theorem textTms_sum : ∀ l : List Tm, allTms l = true → smL 100 (textTms l) ≤ 2000000 * manyTms l
 | [], _ => by simp [textTms, smL]
 | t :: ts, h => by
  simp only [allTms, Bool.and_eq_true] at h
  have h1 := textTm_len t h.1
  have h2 := textTms_sum ts h.2
  simp only [textTms, smL, List.map_cons, List.sum_cons, manyTms] at h2 ⊢
  omega
end
theorem textTm_small {t : Tm} (h : allTm t = true) (hm : manyTm t ≤ 500) : (textTm t).length ≤ 1000000000 := by
 have := textTm_len t h; omega
theorem textTms_small {l : List Tm} (h : allTms l = true) (hm : manyTms l ≤ 500) : smL 100 (textTms l) ≤ 1000000000 := by
 have := textTms_sum l h; omega
end Go.Proofs.Mv.App
