/- A part of the proofs: machine, contracts, laws. No condition of its own. -/
import Derived.Test.YtihbegkefjjhpaaGreatDoorP05
import Derived.Test.YtihbegkefjjhpaaGreatDoorP02
set_option linter.unusedSimpArgs false
set_option linter.unusedVariables false
set_option linter.unusedSectionVars false
open Go Go.Proofs Go.Proofs.Mv.V
namespace Go.Proofs.Mv.App
/-! how long -/
end Go.Proofs.Mv.App
open Go Go.Proofs Go.Proofs.Mv.V
namespace Go.Proofs.Mv.App
def cntT (t : Ty) (depth most : Int) : Int := if allT t = true ∧ (deepT t : Int) ≤ depth ∧ (manyT t : Int) ≤ most then manyT t else 0
theorem cntT_pos {t : Ty} {d q : Int} : 0 < cntT t d q ↔ (allT t = true ∧ (deepT t : Int) ≤ d ∧ (manyT t : Int) ≤ q) := by
  unfold cntT
  have := manyT_pos t
  split
  · rename_i h; simp only [h, and_self, iff_true]; omega
  · rename_i h; simp only [h, iff_false]; omega
theorem cntT_eq {t : Ty} {d q : Int} (h : cntT t d q ≠ 0) : cntT t d q = manyT t ∧ allT t = true ∧ (deepT t : Int) ≤ d ∧ (manyT t : Int) ≤ q := by
  unfold cntT at h ⊢
  split
  · rename_i e; exact ⟨rfl, e⟩
  · rename_i e; rw [if_neg e] at h; exact absurd rfl h
theorem mayT_cnt (t : Ty) : mayT t = decide (0 < cntT t 32 500) := by
  rw [Bool.eq_iff_iff, decide_eq_true_eq, cntT_pos]
  simp only [mayT, Bool.and_eq_true, decide_eq_true_eq]
  constructor
  · rintro ⟨⟨h1, h2⟩, h3⟩; exact ⟨h1, by omega, by omega⟩
  · rintro ⟨h1, h2, h3⟩; exact ⟨⟨h1, by omega⟩, by omega⟩
theorem cntT_le (t : Ty) (d q : Int) : 0 ≤ cntT t d q ∧ (0 ≤ q → cntT t d q ≤ q) := by
  unfold cntT
  split <;> omega
theorem allTs_append : ∀ l r : List Ty, allTs (l ++ r) = (allTs l && allTs r)
  | [], r => by simp [allTs]
  | t :: ts, r => by simp [allTs, allTs_append ts r, Bool.and_assoc]
theorem allTs_mem {l : List Ty} (h : allTs l = true) : ∀ t ∈ l, allT t = true := by
  rw [allTs_eq] at h; exact List.all_eq_true.1 h
structure CntOk (subs : List Ty) (depth most : Int) (i : Nat) : Prop where
  al : allTs (subs.take i) = true
  dp : (deepTs (subs.take i) : Int) ≤ depth - 1
  mn : (1 : Int) + manyTs (subs.take i) ≤ most
theorem CntOk.zero {subs : List Ty} {depth most : Int} (h1 : 1 ≤ depth) (h2 : 1 ≤ most) : CntOk subs depth most 0 :=
  ⟨by simp [allTs], by simp [deepTs]; omega, by simp [manyTs]; omega⟩
theorem CntOk.step {subs : List Ty} {depth most : Int} {i : Nat} (h : CntOk subs depth most i) (hi : i < subs.length) (hk : cntT subs[i] (depth - 1) (most - (1 + manyTs (subs.take i))) ≠ 0) : CntOk subs depth most (i + 1) := by
  obtain ⟨_, h1, h2, h3⟩ := cntT_eq hk
  refine ⟨?_, ?_, ?_⟩
  · rw [take_snoc hi, allTs_append, h.al]; simp [allTs, h1]
  · rw [take_snoc hi, deepTs_snoc]; have := h.dp; omega
  · rw [take_snoc hi, manyTs_snoc]; omega
theorem CntOk.stop {kind : Int} {pkg : List UInt8} {major : Int} {mod name : List UInt8} {names : List (List UInt8)} {subs : List Ty} {depth most : Int} {i : Nat} (hi : i < subs.length)
    (hk : cntT subs[i] (depth - 1) (most - (1 + manyTs (subs.take i))) = 0) : cntT (.mk kind pkg major mod name names subs) depth most = 0 := by
  unfold cntT
  rw [if_neg]
  rintro ⟨h1, h2, h3⟩
  simp only [allT, Bool.and_eq_true, deepT, manyT] at h1 h2 h3
  have hp : 0 < cntT subs[i] (depth - 1) (most - (1 + manyTs (subs.take i))) := by
    refine cntT_pos.2 ⟨allTs_mem h1.2 _ (List.getElem_mem hi), ?_, ?_⟩
    · have := deepTs_mem (List.getElem_mem hi); omega
    · have := manyTs_snoc (subs.take i) subs[i]
      rw [← take_snoc hi] at this
      have := manyTs_take subs (i + 1)
      omega
  omega
theorem CntOk.all {kind : Int} {pkg : List UInt8} {major : Int} {mod name : List UInt8} {names : List (List UInt8)} {subs : List Ty} {depth most : Int} {i : Nat} (hs : shapeT (.mk kind pkg major mod name names subs) = true) (h : CntOk subs depth most i) (hi : subs.length ≤ i) :
    cntT (.mk kind pkg major mod name names subs) depth most = 1 + manyTs subs := by
  obtain ⟨h1, h2, h3⟩ := h
  rw [List.take_of_length_le hi] at h1 h2 h3
  unfold cntT
  rw [if_pos]
  · simp only [manyT]; omega
  · simp only [allT, hs, h1, deepT, manyT]
    refine ⟨rfl, by omega, by omega⟩
theorem cntT_no {t : Ty} {depth most : Int} (h : depth < 1 ∨ most < 1 ∨ shapeT t = false) : cntT t depth most = 0 := by
  unfold cntT
  rw [if_neg]
  rintro ⟨h1, h2, h3⟩
  have h4 := manyT_pos t
  have h5 : 1 ≤ deepT t := by rw [deepT_eq]; omega
  rcases h with h | h | h
  · omega
  · omega
  · rw [allT_eq, h] at h1; cases h1
/-! texts one behind the other -/
end Go.Proofs.Mv.App
open Go Go.Proofs Go.Proofs.Mv.V
namespace Go.Proofs.Mv.App
def barePkg (k : Int) (p : List UInt8) : List UInt8 := if k = 9 then [] else p
def bareMaj (k j : Int) : Int := if k = 9 then 0 else j
def bareMod (k : Int) (p : List UInt8) : List UInt8 := if k = 8 ∨ k = 9 then [] else p
def bareOk (t : Ty) : Prop := barePkg t.kind t.pkg = [] ∧ bareMaj t.kind t.major = 0 ∧ bareMod t.kind t.mod = [] ∧ bareMod t.kind t.name = [] ∧ t.subs.length ≤ 20
def shapeB (t : Ty) : Bool :=
  if t.kind = 1 ∨ t.kind = 2 ∨ t.kind = 3 then decide (t.subs.length = 0) && decide (t.names.length = 0)
  else if t.kind = 4 then decide (t.subs.length = 1) && decide (t.names.length = 0)
  else if t.kind = 5 then decide (t.subs.length = t.names.length) && risingN false t.names
  else if t.kind = 6 then decide (1 ≤ t.subs.length) && decide (t.subs.length = t.names.length) && risingN true t.names
  else if t.kind = 7 then decide (1 ≤ t.subs.length) && decide (t.names.length = 0)
  else if t.kind = 8 then decide (t.subs.length = 0) && decide (t.names.length = 0) && greatN t.name && (decide (t.mod = []) || smallN t.mod)
  else if t.kind = 9 then decide (t.subs.length = 0) && decide (t.names.length = 0) && smallN t.pkg && smallN t.mod && greatN t.name && decide (1 ≤ t.major) && decide (t.major ≤ 999999999)
  else false
theorem shapeT_no {t : Ty} (h : ¬ bareOk t) : shapeT t = false := by
  cases hs : shapeT t
  · rfl
  · exfalso; apply h
    obtain ⟨hn, hs⟩ := shape_parts hs
    obtain ⟨kind, pkg, major, mod, name, names, subs⟩ := t
    simp only [shapeK, Ty.kind, Ty.pkg, Ty.major, Ty.mod, Ty.name, Ty.names, Ty.subs] at hs hn
    simp only [bareOk, barePkg, bareMaj, bareMod, Ty.kind, Ty.pkg, Ty.major, Ty.mod, Ty.name, Ty.names, Ty.subs]
    by_cases k9 : kind = 9
    · simp [k9, hn]
    by_cases k8 : kind = 8
    · subst k8
      simp at hs
      simp [hs, hn]
    simp only [k8, k9, or_self, if_false] at hs ⊢
    have he : emptyT (.mk kind pkg major mod name names subs) = true := by
      repeat' split at hs
      all_goals (try simp only [Bool.and_eq_true] at hs)
      all_goals first | exact hs.1.1 | exact hs.1.1.1 | cases hs
    obtain ⟨rfl, rfl, rfl, rfl⟩ := emptyT_parts he
    simp [hn]
theorem shapeT_yes {t : Ty} (h : bareOk t) : shapeT t = shapeB t := by
  obtain ⟨kind, pkg, major, mod, name, names, subs⟩ := t
  simp only [bareOk, barePkg, bareMaj, bareMod, Ty.kind, Ty.pkg, Ty.major, Ty.mod, Ty.name, Ty.names, Ty.subs] at h
  simp only [shapeT, shapeK, shapeB, emptyT, Ty.kind, Ty.pkg, Ty.major, Ty.mod, Ty.name, Ty.names, Ty.subs]
  by_cases k9 : kind = 9
  · subst k9; simp at h ⊢; omega
  by_cases k8 : kind = 8
  · subst k8; simp at h ⊢; simp [h]
  simp only [k8, k9, or_self, if_false] at h ⊢
  obtain ⟨rfl, rfl, rfl, rfl, hn⟩ := h
  simp [hn]
end Go.Proofs.Mv.App
open Go Go.Proofs Go.Proofs.Mv.V
namespace Go.Proofs.Mv.App
def wordsT : List (List UInt8) := [[102, 110], [105, 102], [116, 104, 101, 110], [101, 108, 115, 101], [99, 97, 115, 101], [111, 102], [101, 110, 100], [108, 101, 116]]
def nameN (s : List UInt8) : Bool := smallN s && !decide (s ∈ wordsT)
def wTrue : List UInt8 := [84, 114, 117, 101]
def wFalse : List UInt8 := [70, 97, 108, 115, 101]
def tagN (s : List UInt8) : Bool := greatN s && !decide (s = wTrue) && !decide (s = wFalse)
def stepO (ok : List UInt8 → Bool) (l : List (List UInt8)) (i : Nat) : Bool := ok (l.getD i []) && (decide (i = 0) || ltB (l.getD (i - 1) []) (l.getD i []))
def risO (ok : List UInt8 → Bool) (l : List (List UInt8)) : Bool := (List.range l.length).all (stepO ok l)
theorem risO_no {ok : List UInt8 → Bool} {l : List (List UInt8)} {i : Nat} (hi : i < l.length) (h : stepO ok l i = false) : risO ok l = false :=
  List.all_eq_false.2 ⟨i, by simpa using hi, by simp [h]⟩
theorem risO_yes {ok : List UInt8 → Bool} {l : List (List UInt8)} (h : ∀ j, j < l.length → stepO ok l j = true) : risO ok l = true :=
  List.all_eq_true.2 fun j hj => h j (by simpa using hj)
theorem risO_step {ok : List UInt8 → Bool} {l : List (List UInt8)} (h : risO ok l = true) {j : Nat} (hj : j < l.length) : stepO ok l j = true :=
  List.all_eq_true.1 h j (by simpa using hj)
theorem stepO_get {ok : List UInt8 → Bool} {l : List (List UInt8)} {i : Nat} (hi : i < l.length) : stepO ok l i = (ok l[i] && (decide (i = 0) || ltB (l.getD (i - 1) []) l[i])) := by
  simp [stepO, hi]
def distN (l : List (List UInt8)) : Bool := (List.range l.length).all fun i => !decide (l.getD i [] ∈ l.take i)
theorem distN_no {l : List (List UInt8)} {i : Nat} (hi : i < l.length) (h : l[i] ∈ l.take i) : distN l = false :=
  List.all_eq_false.2 ⟨i, by simpa using hi, by simp [hi, h]⟩
theorem distN_yes {l : List (List UInt8)} (h : ∀ j (hj : j < l.length), l[j] ∉ l.take j) : distN l = true :=
  List.all_eq_true.2 fun j hj => by
    have hj' : j < l.length := by simpa using hj
    simp [hj', h j hj']
def cntsT (names vars : List (List UInt8)) (types : List Ty) (subs : List Tm) (n v y s : Nat) : Bool := decide (names.length = n) && decide (vars.length = v) && decide (types.length = y) && decide (subs.length = s)
def kindTm (k N : Int) (mod nm : List UInt8) (names vars : List (List UInt8)) (types : List Ty) (subs : List Tm) : Bool :=
  if k = 1 then cntsT names vars types subs 0 0 0 0 && decide (0 ≤ N) && decide (N ≤ 999999999)
  else if k = 2 then cntsT names vars types subs 0 0 0 0 && (decide (N = 0) || decide (N = 1))
  else if k = 3 then cntsT names vars types subs 0 0 0 0 && nameN nm
  else if k = 4 then cntsT names vars types subs 0 0 0 0 && nameN nm && nameN mod
  else if k = 5 then cntsT names vars types subs names.length 0 0 names.length && risO nameN names
  else if k = 6 then cntsT names vars types subs 0 0 0 1 && nameN nm
  else if k = 7 then cntsT names vars types subs 0 0 0 1 && tagN nm
  else if k = 8 then cntsT names vars types subs names.length 0 names.length 1 && names.all nameN && distN names && types.all mayT
  else if k = 9 ∨ k = 10 then cntsT names vars types subs 0 0 0 subs.length && decide (1 ≤ subs.length)
  else if k = 11 then cntsT names vars types subs 0 0 0 3
  else if k = 12 then decide (1 ≤ names.length) && cntsT names vars types subs names.length names.length 0 (names.length + 1) && risO tagN names && vars.all nameN
  else false
def fitsT (names vars : List (List UInt8)) (types : List Ty) (subs : List Tm) : Bool := decide (names.length ≤ 21) && decide (vars.length ≤ 21) && decide (types.length ≤ 21) && decide (subs.length ≤ 21)
def bareTm (k N : Int) (mod nm : List UInt8) : Bool := (decide (N = 0) || decide (k = 1) || decide (k = 2)) && (decide (mod = []) || decide (k = 4)) && (decide (nm = []) || decide (k = 3) || decide (k = 4) || decide (k = 6) || decide (k = 7))
def shapeTm : Tm → Bool
  | .mk k N mod nm names vars types subs => fitsT names vars types subs && bareTm k N mod nm && kindTm k N mod nm names vars types subs
mutual
def allTm : Tm → Bool
  | .mk k N mod nm names vars types subs => shapeTm (.mk k N mod nm names vars types subs) && allTms subs
def allTms : List Tm → Bool
  | [] => true
  | t :: ts => allTm t && allTms ts
end
theorem allTms_eq : ∀ l : List Tm, allTms l = l.all allTm
  | [] => rfl
  | t :: ts => by simp [allTms, allTms_eq ts]
def mayTm (t : Tm) : Bool := allTm t && decide (manyTm t ≤ 300) && decide (deepTm t ≤ 32)
/-! As the document reckons it: all names and variables are looked at, whatever the kind. -/
def nmR (k : Int) (l : List (List UInt8)) (i : Nat) : Bool :=
  (!(decide (k = 5) || decide (k = 8)) || nameN (l.getD i [])) && (!decide (k = 12) || tagN (l.getD i [])) && (!(decide (k = 5) || decide (k = 12)) || decide (i = 0) || ltB (l.getD (i - 1) []) (l.getD i [])) && !decide (l.getD i [] ∈ l.take i)
def endR (k N : Int) (mod nm : List UInt8) (names vars : List (List UInt8)) (types : List Ty) (subs : List Tm) : Bool :=
  if k = 1 then cntsT names vars types subs 0 0 0 0 && decide (0 ≤ N) && decide (N ≤ 999999999)
  else if k = 2 then cntsT names vars types subs 0 0 0 0 && (decide (N = 0) || decide (N = 1))
  else if k = 3 then cntsT names vars types subs 0 0 0 0 && nameN nm
  else if k = 4 then cntsT names vars types subs 0 0 0 0 && nameN nm && nameN mod
  else if k = 5 then cntsT names vars types subs names.length 0 0 names.length
  else if k = 6 then cntsT names vars types subs 0 0 0 1 && nameN nm
  else if k = 7 then cntsT names vars types subs 0 0 0 1 && tagN nm
  else if k = 8 then cntsT names vars types subs names.length 0 names.length 1
  else if k = 9 ∨ k = 10 then cntsT names vars types subs 0 0 0 subs.length && decide (1 ≤ subs.length)
  else if k = 11 then cntsT names vars types subs 0 0 0 3
  else if k = 12 then decide (1 ≤ names.length) && cntsT names vars types subs names.length names.length 0 (names.length + 1)
  else false
theorem cntsT_parts {names vars : List (List UInt8)} {types : List Ty} {subs : List Tm} {n v y s : Nat} (h : cntsT names vars types subs n v y s = true) : names.length = n ∧ vars.length = v ∧ types.length = y ∧ subs.length = s := by
  simp only [cntsT, Bool.and_eq_true, decide_eq_true_eq] at h; exact ⟨h.1.1.1, h.1.1.2, h.1.2, h.2⟩
end Go.Proofs.Mv.App
open Go Go.Proofs Go.Proofs.Mv.V
namespace Go.Proofs.Mv.App
theorem manyTm_pos : ∀ t : Tm, 1 ≤ manyTm t
  | .mk _ _ _ _ _ _ _ subs => by simp only [manyTm]; omega
theorem deepTms_mem {t : Tm} : ∀ {l : List Tm}, t ∈ l → deepTm t ≤ deepTms l
  | x :: l, h => by
    simp only [deepTms]
    rcases List.mem_cons.1 h with rfl | h
    · omega
    · have := deepTms_mem h; omega
def cntTm (t : Tm) (depth most : Int) : Int := if allTm t = true ∧ (deepTm t : Int) ≤ depth ∧ (manyTm t : Int) ≤ most then manyTm t else 0
theorem cntTm_pos {t : Tm} {d q : Int} : 0 < cntTm t d q ↔ (allTm t = true ∧ (deepTm t : Int) ≤ d ∧ (manyTm t : Int) ≤ q) := by
  unfold cntTm
  have := manyTm_pos t
  split
  · rename_i h; simp only [h, and_self, iff_true]; omega
  · rename_i h; simp only [h, iff_false]; omega
theorem cntTm_eq {t : Tm} {d q : Int} (h : cntTm t d q ≠ 0) : cntTm t d q = manyTm t ∧ allTm t = true ∧ (deepTm t : Int) ≤ d ∧ (manyTm t : Int) ≤ q := by
  unfold cntTm at h ⊢
  split
  · rename_i e; exact ⟨rfl, e⟩
  · rename_i e; rw [if_neg e] at h; exact absurd rfl h
theorem mayTm_cnt (t : Tm) : mayTm t = decide (0 < cntTm t 32 300) := by
  rw [Bool.eq_iff_iff, decide_eq_true_eq, cntTm_pos]
  simp only [mayTm, Bool.and_eq_true, decide_eq_true_eq]
  constructor
  · rintro ⟨⟨h1, h2⟩, h3⟩; exact ⟨h1, by omega, by omega⟩
  · rintro ⟨h1, h2, h3⟩; exact ⟨⟨h1, by omega⟩, by omega⟩
theorem cntTm_le (t : Tm) (d q : Int) : 0 ≤ cntTm t d q ∧ (0 ≤ q → cntTm t d q ≤ q) := by
  unfold cntTm
  split <;> omega
theorem allTms_append : ∀ l r : List Tm, allTms (l ++ r) = (allTms l && allTms r)
  | [], r => by simp [allTms]
  | t :: ts, r => by simp [allTms, allTms_append ts r, Bool.and_assoc]
theorem allTms_mem {l : List Tm} (h : allTms l = true) : ∀ t ∈ l, allTm t = true := by
  rw [allTms_eq] at h; exact List.all_eq_true.1 h
structure CntOkT (subs : List Tm) (depth most : Int) (i : Nat) : Prop where
  al : allTms (subs.take i) = true
  dp : (deepTms (subs.take i) : Int) ≤ depth - 1
  mn : (1 : Int) + manyTms (subs.take i) ≤ most
theorem CntOkT.zero {subs : List Tm} {depth most : Int} (h1 : 1 ≤ depth) (h2 : 1 ≤ most) : CntOkT subs depth most 0 :=
  ⟨by simp [allTms], by simp [deepTms]; omega, by simp [manyTms]; omega⟩
theorem CntOkT.step {subs : List Tm} {depth most : Int} {i : Nat} (h : CntOkT subs depth most i) (hi : i < subs.length) (hk : cntTm subs[i] (depth - 1) (most - (1 + manyTms (subs.take i))) ≠ 0) : CntOkT subs depth most (i + 1) := by
  obtain ⟨_, h1, h2, h3⟩ := cntTm_eq hk
  refine ⟨?_, ?_, ?_⟩
  · rw [take_snoc hi, allTms_append, h.al]; simp [allTms, h1]
  · rw [take_snoc hi, deepTms_snoc]; have := h.dp; omega
  · rw [take_snoc hi, manyTms_snoc]; omega
theorem CntOkT.stop {kind num : Int} {mod name : List UInt8} {names vars : List (List UInt8)} {types : List Ty} {subs : List Tm} {depth most : Int} {i : Nat} (hi : i < subs.length)
    (hk : cntTm subs[i] (depth - 1) (most - (1 + manyTms (subs.take i))) = 0) : cntTm (.mk kind num mod name names vars types subs) depth most = 0 := by
  unfold cntTm
  rw [if_neg]
  rintro ⟨h1, h2, h3⟩
  simp only [allTm, Bool.and_eq_true, deepTm, manyTm] at h1 h2 h3
  have hp : 0 < cntTm subs[i] (depth - 1) (most - (1 + manyTms (subs.take i))) := by
    refine cntTm_pos.2 ⟨allTms_mem h1.2 _ (List.getElem_mem hi), ?_, ?_⟩
    · have := deepTms_mem (List.getElem_mem hi); omega
    · have := manyTms_snoc (subs.take i) subs[i]
      rw [← take_snoc hi] at this
      have := manyTms_take subs (i + 1)
      omega
  omega
theorem CntOkT.all {kind num : Int} {mod name : List UInt8} {names vars : List (List UInt8)} {types : List Ty} {subs : List Tm} {depth most : Int} {i : Nat} (hs : shapeTm (.mk kind num mod name names vars types subs) = true) (h : CntOkT subs depth most i) (hi : subs.length ≤ i) :
    cntTm (.mk kind num mod name names vars types subs) depth most = 1 + manyTms subs := by
  obtain ⟨h1, h2, h3⟩ := h
  rw [List.take_of_length_le hi] at h1 h2 h3
  unfold cntTm
  rw [if_pos]
  · simp only [manyTm]; omega
  · simp only [allTm, hs, h1, deepTm, manyTm]
    refine ⟨rfl, by omega, by omega⟩
theorem cntTm_no {t : Tm} {depth most : Int} (h : depth < 1 ∨ most < 1 ∨ shapeTm t = false) : cntTm t depth most = 0 := by
  unfold cntTm
  rw [if_neg]
  rintro ⟨h1, h2, h3⟩
  have h4 := manyTm_pos t
  have h5 : 1 ≤ deepTm t := by obtain ⟨⟩ := t; simp [deepTm]
  rcases h with h | h | h
  · omega
  · omega
  · obtain ⟨⟩ := t; simp [allTm, h] at h1
end Go.Proofs.Mv.App
