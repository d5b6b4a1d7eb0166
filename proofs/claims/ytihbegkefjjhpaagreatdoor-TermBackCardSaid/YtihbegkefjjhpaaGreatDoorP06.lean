/- A part of the proofs: machine, contracts, laws. No condition of its own. -/
import Derived.Test.YtihbegkefjjhpaaGreatDoorP05
import Derived.Test.YtihbegkefjjhpaaGreatDoorP01
set_option linter.unusedSimpArgs false
set_option linter.unusedVariables false
set_option linter.unusedSectionVars false
open Go Go.Proofs Go.Proofs.Mv.V
namespace Go.Proofs.Mv.App
/-! What a type's text is, token by token. -/
def joinK (sep : Sk) : List (List Sk) → List Sk
 | [] => []
 | [s] => s
 | s :: r => s ++ sep :: joinK sep r
def nk (g : Bool) : Int := if g then 2 else 1
mutual
def skT : Ty → List Sk
 | .mk kind pkg major mod name names subs =>
  if kind = 1 then [(2, wInt)]
  else if kind = 2 then [(2, wText)]
  else if kind = 3 then [(2, wBool)]
  else if kind = 4 then (2, wList) :: (4, [40]) :: (joinK (4, [44]) (skTs false names subs) ++ [(4, [41])])
  else if kind = 5 then (4, [123]) :: (joinK (4, [44]) (skTs false names subs) ++ [(4, [125])])
  else if kind = 6 then (4, [91]) :: (joinK (4, [44]) (skTs true names subs) ++ [(4, [93])])
  else if kind = 7 then (4, [40]) :: (joinK (4, [44]) (skTs false [] subs).dropLast ++ (4, [41]) :: (4, [45, 62]) :: (skTs false [] subs).getLastD [])
  else if kind = 9 then [(4, [60]), (1, pkg), (3, digits major.toNat), (1, mod), (2, name), (4, [62])]
  else if mod = [] then [(2, name)] else [(1, mod), (4, [46]), (2, name)]
def skTs (g : Bool) : List (List UInt8) → List Ty → List (List Sk)
 | _, [] => []
 | [], t :: ts => skT t :: skTs g [] ts
 | n :: ns, t :: ts => ((nk g, n) :: (4, [58]) :: skT t) :: skTs g ns ts
end
def LxP (s : List UInt8) (k : List Sk) : Prop := ∀ r kr, stopW r → r.head? ≠ some 46 → Lx r kr → Lx (s ++ r) (k ++ kr)
theorem joinB_cons {sep s : List UInt8} {r : List (List UInt8)} (h : r ≠ []) : joinB sep (s :: r) = s ++ sep ++ joinB sep r := by cases r <;> simp_all [joinB]
theorem joinK_cons {sep : Sk} {s : List Sk} {r : List (List Sk)} (h : r ≠ []) : joinK sep (s :: r) = s ++ sep :: joinK sep r := by cases r <;> simp_all [joinK]
inductive LxL : List (List UInt8) → List (List Sk) → Prop where
 | nil : LxL [] []
 | cons {s : List UInt8} {k : List Sk} {ss : List (List UInt8)} {ks : List (List Sk)} (h : LxP s k) (hl : LxL ss ks) : LxL (s :: ss) (k :: ks)
theorem LxL.len {ss : List (List UInt8)} {ks : List (List Sk)} (h : LxL ss ks) : ss = [] ↔ ks = [] := by cases h <;> simp
theorem LxL.join {ss : List (List UInt8)} {ks : List (List Sk)} (h : LxL ss ks) : LxP (joinB comma ss) (joinK (4, [44]) ks) := by
 induction h with
 | nil => intro r kr _ _ h; exact h
 | cons h hl ih =>
  rename_i s k ss ks
  intro r kr h1 h2 h3
  by_cases e : ss = []
  ·have e' := hl.len.1 e
   subst e; subst e'
   exact h r kr h1 h2 h3
  ·have e' : ks ≠ [] := fun q => e (hl.len.2 q)
   rw [joinB_cons e, joinK_cons e']
   have h4 : Lx (44 :: 32 :: (joinB comma ss ++ r)) ((4, [44]) :: (joinK (4, [44]) ks ++ kr)) := by
    exact Lx.sign (by decide) (Lx.sp (ih r kr h1 h2 h3))
   have := h _ _ (stopW_cons (by decide)) (by simp) h4
   simpa [comma, List.append_assoc] using this
theorem LxL.dropLast {ss : List (List UInt8)} {ks : List (List Sk)} (h : LxL ss ks) : LxL ss.dropLast ks.dropLast := by
 induction h with
 | nil => exact .nil
 | cons h hl ih =>
  rename_i s k ss ks
  by_cases e : ss = []
  ·have e' := hl.len.1 e
   subst e; subst e'; exact .nil
  ·have e' : ks ≠ [] := fun q => e (hl.len.2 q)
   rw [List.dropLast_cons_of_ne_nil e, List.dropLast_cons_of_ne_nil e']
   exact .cons h ih
theorem LxL.last {ss : List (List UInt8)} {ks : List (List Sk)} (h : LxL ss ks) (hne : ss ≠ []) : LxP (ss.getLastD []) (ks.getLastD []) := by
 induction h with
 | nil => exact absurd rfl hne
 | cons h hl ih =>
  rename_i s k ss ks
  by_cases e : ss = []
  ·have e' := hl.len.1 e
   subst e; subst e'; exact h
  ·have e' : ks ≠ [] := fun q => e (hl.len.2 q)
   have := ih e
   cases ss with
   | nil => exact absurd rfl e
   | cons a ss => cases ks with
    | nil => exact absurd rfl e'
    | cons b ks => simpa using this
theorem stepOk_nam {g : Bool} {l : List (List UInt8)} (h : risingN g l = true) : ∀ x ∈ l, namOk g x = true := by
 intro x hx
 obtain ⟨i, hi, rfl⟩ := List.mem_iff_getElem.1 hx
 have := List.all_eq_true.1 h i (List.mem_range.2 hi)
 simp only [stepOk, Bool.and_eq_true] at this
 rw [List.getD_eq_getElem?_getD, List.getElem?_eq_getElem hi] at this
 exact this.1
theorem LxP.sign {x : UInt8} {s : List UInt8} {k : List Sk} (hx : x ∈ ([123, 125, 40, 41, 91, 93, 60, 62, 44, 58, 61] : List UInt8)) (h : LxP s k) : LxP (x :: s) ((4, [x]) :: k) :=
 fun r kr h1 h2 h3 => Lx.sign hx (h r kr h1 h2 h3)
theorem LxP.end1 {x : UInt8} (hx : x ∈ ([123, 125, 40, 41, 91, 93, 60, 62, 44, 58, 61] : List UInt8)) : LxP [x] [(4, [x])] := fun r kr h1 h2 h3 => Lx.sign hx h3
theorem LxP.app {s s' : List UInt8} {k k' : List Sk} (h : LxP s k) (h' : LxP s' k') (hs : ∀ r, stopW (s' ++ r) ∧ (s' ++ r).head? ≠ some 46) : LxP (s ++ s') (k ++ k') := fun r kr h1 h2 h3 => by
 rw [List.append_assoc, List.append_assoc]; exact h _ _ (hs r).1 (hs r).2 (h' r kr h1 h2 h3)
theorem LxP.sp {s : List UInt8} {k : List Sk} (h : LxP s k) : LxP (32 :: s) k := fun r kr h1 h2 h3 => (h r kr h1 h2 h3).sp
theorem LxP.name {g : Bool} {w : List UInt8} (h1 : namOk g w = true) : LxP w [(if g then 2 else 1, w)] := fun r kr h2 h3 h4 => Lx.name h1 h2 h4
theorem LxP.word {w : List UInt8} (h : w.head?.any isGreat = true) (hw : w.all isWord = true) : LxP w [(2, w)] := fun r kr h2 h3 h4 => Lx.upper h hw h2 h4
theorem LxP.name_then {g : Bool} {w s : List UInt8} {k : List Sk} (h1 : namOk g w = true) (h : LxP s k) (hs : ∀ r, stopW (s ++ r) ∧ (s ++ r).head? ≠ some 46) : LxP (w ++ s) ((if g then 2 else 1, w) :: k) := LxP.app (LxP.name h1) h hs
theorem hd_ok {x : UInt8} {s : List UInt8} (h : isWord x = false) (h2 : x ≠ 46) : ∀ r, stopW (x :: s ++ r) ∧ (x :: s ++ r).head? ≠ some 46 := fun r => ⟨stopW_cons h, by simpa using h2⟩
theorem shape_parts {t : Ty} (h : shapeT t = true) : t.subs.length ≤ 20 ∧ shapeK t = true := by simpa [shapeT] using h
mutual
theorem lxT : ∀ t : Ty, allT t = true → LxP (textT t) (skT t)
 | .mk kind pkg major mod name names subs, h => by
  simp only [allT, Bool.and_eq_true] at h
  obtain ⟨hs, ha⟩ := h
  obtain ⟨hn, hs⟩ := shape_parts hs
  simp only [shapeK, Ty.kind, Ty.pkg, Ty.major, Ty.mod, Ty.name, Ty.names, Ty.subs] at hs hn
  simp only [textT, skT]
  by_cases k1 : kind = 1
  ·simp only [k1, if_true]; exact LxP.word (by decide) (by decide)
  by_cases k2 : kind = 2
  ·simp only [k2, if_true]; exact LxP.word (by decide) (by decide)
  by_cases k3 : kind = 3
  ·simp only [k3, if_true]; exact LxP.word (by decide) (by decide)
  simp only [k1, k2, k3, or_self, if_false] at hs ⊢
  by_cases k4 : kind = 4
  ·simp only [k4, if_true] at hs ⊢
   simp only [Bool.and_eq_true, decide_eq_true_eq, List.length_eq_zero_iff] at hs
   obtain ⟨⟨_, _⟩, rfl⟩ := hs
   have := (lxTs false subs [] ha (by simp) (.inl rfl)).join
   refine LxP.app (s := wList ++ [40] ++ _) (k := (2, wList) :: (4, [40]) :: _) ?_ (LxP.end1 (by decide)) (hd_ok (by decide) (by decide))
   show LxP (wList ++ (40 :: _)) _
   exact LxP.app (k := [(2, wList)]) (LxP.word (by decide) (by decide)) (LxP.sign (by decide) this) (hd_ok (by decide) (by decide))
  by_cases k5 : kind = 5
  ·simp only [k5, if_true, if_false, show ¬ (5 : Int) = 4 by omega, show ¬ (6 : Int) = 4 by omega, show ¬ (6 : Int) = 5 by omega, show ¬ (7 : Int) = 4 by omega, show ¬ (7 : Int) = 5 by omega, show ¬ (7 : Int) = 6 by omega] at hs ⊢
   simp only [Bool.and_eq_true, decide_eq_true_eq] at hs
   have := (lxTs false subs names ha (stepOk_nam hs.2) (.inr hs.1.2.symm)).join
   exact LxP.sign (by decide) (LxP.app this (LxP.end1 (by decide)) (hd_ok (by decide) (by decide)))
  by_cases k6 : kind = 6
  ·simp only [k6, if_true, if_false, show ¬ (5 : Int) = 4 by omega, show ¬ (6 : Int) = 4 by omega, show ¬ (6 : Int) = 5 by omega, show ¬ (7 : Int) = 4 by omega, show ¬ (7 : Int) = 5 by omega, show ¬ (7 : Int) = 6 by omega] at hs ⊢
   simp only [Bool.and_eq_true, decide_eq_true_eq] at hs
   have := (lxTs true subs names ha (stepOk_nam hs.2) (.inr hs.1.2.symm)).join
   exact LxP.sign (by decide) (LxP.app this (LxP.end1 (by decide)) (hd_ok (by decide) (by decide)))
  by_cases k7 : kind = 7
  ·simp only [k7, if_true, if_false, show ¬ (5 : Int) = 4 by omega, show ¬ (6 : Int) = 4 by omega, show ¬ (6 : Int) = 5 by omega, show ¬ (7 : Int) = 4 by omega, show ¬ (7 : Int) = 5 by omega, show ¬ (7 : Int) = 6 by omega] at hs ⊢
   simp only [Bool.and_eq_true, decide_eq_true_eq, List.length_eq_zero_iff] at hs
   obtain ⟨⟨_, hn1⟩, rfl⟩ := hs
   have hl := lxTs false subs [] ha (by simp) (.inl rfl)
   have h1 := hl.dropLast.join
   have h2 := hl.last (by intro e; have := textTs_len [] subs; rw [e] at this; simp at this; omega)
   have h3 : LxP (41 :: 32 :: 45 :: 62 :: 32 :: (textTs [] subs).getLastD []) ((4, [41]) :: (4, [45, 62]) :: (skTs false [] subs).getLastD []) :=
    LxP.sign (by decide) (LxP.sp (fun r kr a b c => Lx.arrow ((h2.sp) r kr a b c)))
   have := LxP.sign (x := 40) (by decide) (LxP.app h1 h3 (hd_ok (by decide) (by decide)))
   simpa [List.append_assoc] using this
  simp only [k4, k5, k6, k7, if_false] at hs ⊢
  by_cases k9 : kind = 9
  ·have k8 : ¬ kind = 8 := by omega
   simp only [k8, if_false, k9, if_true] at hs ⊢
   simp only [show ¬ (9 : Int) = 8 by omega, if_false] at hs
   simp only [Bool.and_eq_true, decide_eq_true_eq] at hs
   obtain ⟨⟨⟨⟨⟨_, hp⟩, hm⟩, hg⟩, hj1⟩, hj2⟩ := hs
   intro r kr a b c
   have c1 : Lx (62 :: r) ((4, [62]) :: kr) := Lx.sign (by decide) c
   have c2 := Lx.name (g := true) hg (stopW_cons (by decide)) c1
   have c3 := Lx.name (g := false) hm (stopW_cons (by decide)) c2.sp
   have c4 := Lx.digits (n := major.toNat) (by omega) (by omega) (stopW_cons (by decide)) c3.sp
   have c5 := Lx.name (g := false) hp (stopW_cons (by decide)) c4.sp
   have c6 := Lx.sign (x := 60) (by decide) c5
   simpa [List.append_assoc] using c6
  simp only [k9, if_false] at hs ⊢
  by_cases k8 : kind = 8
  ·simp only [k8, if_true] at hs
   simp only [Bool.and_eq_true, Bool.or_eq_true, decide_eq_true_eq] at hs
   obtain ⟨⟨_, hg⟩, hm⟩ := hs
   by_cases em : mod = []
   ·simp only [em, if_true]; exact LxP.name (g := true) hg
   ·simp only [em, if_false]
    have hm' : smallN mod = true := hm.resolve_left em
    obtain ⟨gh, gw, gl, gn⟩ := great_parts hg
    have hd : name.head? ≠ some 46 := by
     intro e; rw [e] at gh; revert gh; decide
    intro r kr a b c
    have c1 := Lx.name (g := true) hg a c
    have c2 := Lx.dot (s := name ++ r) (by cases name with
     | nil => exact absurd rfl gn
     | cons y z => simpa using hd) c1
    have c3 := Lx.name (g := false) hm' (stopW_cons (by decide)) c2
    simpa [List.append_assoc] using c3
  ·simp only [k8, if_false] at hs; cases hs
theorem lxTs (g : Bool) : ∀ (ts : List Ty) (ns : List (List UInt8)), allTs ts = true → (∀ x ∈ ns, namOk g x = true) → (ns = [] ∨ ns.length = ts.length) → LxL (textTs ns ts) (skTs g ns ts)
 | [], ns, _, _, _ => by simp only [textTs, skTs]; exact .nil
 | t :: ts, [], h, hn, hl => by
  simp only [allTs, Bool.and_eq_true] at h
  simp only [textTs, skTs]
  exact .cons (lxT t h.1) (lxTs g ts [] h.2 hn (.inl rfl))
 | t :: ts, n :: ns, h, hn, hl => by
  simp only [allTs, Bool.and_eq_true] at h
  simp only [textTs, skTs]
  refine .cons ?_ (lxTs g ts ns h.2 (fun x hx => hn x (by simp [hx])) (.inr (by rcases hl with hl | hl <;> simp_all)))
  rw [List.append_assoc]
  exact LxP.name_then (hn n (by simp)) (LxP.sign (by decide) (LxP.sp (lxT t h.1))) (hd_ok (by decide) (by decide))
end
/-! What is read. -/
def Sees (l : List Tok) (a : Nat) (k : List Sk) : Prop := (l.drop a).map skel = k
theorem sees_get {l : List Tok} {a : Nat} {x : Sk} {r : List Sk} (h : Sees l a (x :: r)) : (∃ t, l[a]? = some t ∧ t.kind = x.1 ∧ t.text = x.2) ∧ Sees l (a + 1) r := by
 unfold Sees at h ⊢
 cases e : l.drop a with
 | nil => rw [e] at h; cases h
 | cons t q =>
  rw [e] at h
  simp only [List.map_cons, List.cons.injEq] at h
  refine ⟨⟨t, ?_, by rw [← h.1]; rfl, by rw [← h.1]; rfl⟩, ?_⟩
  ·have := congrArg List.head? e; rwa [List.head?_drop] at this
  ·rw [← List.drop_drop, e]; exact h.2
section
variable {l : List Tok} {a c : Nat} {x : Sk} {r : List Sk}
theorem cur_sees (h : Sees l a (x :: r)) : ∃ t, cur l ⟨a, c, 0⟩ = some t ∧ t.kind = x.1 ∧ t.text = x.2 := by
 obtain ⟨⟨t, h1, h2⟩, _⟩ := sees_get h; exact ⟨t, by simp [cur, h1], h2⟩
theorem isSig_sees (s : List UInt8) (h : Sees l a (x :: r)) : isSig s l ⟨a, c, 0⟩ = (decide (x.1 = 4) && decide (x.2 = s)) := by
 obtain ⟨t, h1, h2, h3⟩ := cur_sees (c := c) h; simp [isSig, h1, h2, h3]
theorem isNam_sees (g : Bool) (h : Sees l a (x :: r)) : isNam g l ⟨a, c, 0⟩ = (decide (x.1 = if g then 2 else 1) && namOk g x.2) := by
 obtain ⟨t, h1, h2, h3⟩ := cur_sees (c := c) h; simp [isNam, h1, h2, h3]
theorem isNum_sees (h : Sees l a (x :: r)) : isNum l ⟨a, c, 0⟩ = (decide (x.1 = 3) && numOk x.2) := by
 obtain ⟨t, h1, h2, h3⟩ := cur_sees (c := c) h; simp [isNum, h1, h2, h3]
theorem curT_sees (h : Sees l a (x :: r)) : curT l ⟨a, c, 0⟩ = x.2 := by
 obtain ⟨t, h1, h2, h3⟩ := cur_sees (c := c) h; simp [curT, h1, h3]
theorem mustF_sees {s : List UInt8} (h : Sees l a ((4, s) :: r)) : mustF s l ⟨a, c, 0⟩ = ⟨a + 1, c, 0⟩ := by
 simp [mustF, isSig_sees s h, stepF]
theorem nameF_sees {g : Bool} {s : List UInt8} (hs : namOk g s = true) (h : Sees l a ((if g then 2 else 1, s) :: r)) : nameF g l ⟨a, c, 0⟩ = (s, ⟨a + 1, c, 0⟩) := by
 simp [nameF, isNam_sees g h, hs, curT_sees h, stepF]
theorem numF_sees {s : List UInt8} (hs : numOk s = true) (h : Sees l a ((3, s) :: r)) : numF l ⟨a, c, 0⟩ = (decF s, ⟨a + 1, c, 0⟩) := by
 simp [numF, isNum_sees h, hs, curT_sees h, stepF]
theorem sees_app {k k' : List Sk} (h : Sees l a (k ++ k')) : Sees l (a + k.length) k' := by
 induction k generalizing a with
 | nil => exact h
 | cons x k ih =>
  have := ih (sees_get h).2
  rwa [show a + 1 + k.length = a + (x :: k).length by simp; omega] at this
end
def RdOk (l : List Tok) (rec : PS → Ty × PS) (t : Ty) : Prop := ∀ a c r, Sees l a (skT t ++ r) → c + manyT t ≤ 500 → rec ⟨a, c, 0⟩ = (t, ⟨a + (skT t).length, c + manyT t, 0⟩)
theorem great_nots {s : List UInt8} (h : greatN s = true) : baseN s = 0 ∧ s ≠ wList ∧ s ≠ [123] ∧ s ≠ [91] ∧ s ≠ [40] ∧ s ≠ [60] := by
 have h1 := (great_parts h).1
 simp only [greatN, Bool.and_eq_true, Bool.not_eq_true', decide_eq_false_iff_not] at h
 obtain ⟨⟨⟨⟨_, e1⟩, e2⟩, e3⟩, e4⟩ := h
 refine ⟨by simp [baseN, wInt, wText, wBool, e1, e2, e3], e4, ?_, ?_, ?_, ?_⟩ <;> (intro e; rw [e] at h1; revert h1; decide)
theorem skT_beg : ∀ (t : Ty), allT t = true → ∃ x r, skT t = x :: r ∧ begT ⟨x.1, 0, x.2⟩ = true
 | .mk kind pkg major mod name names subs, h => by
  simp only [allT, Bool.and_eq_true] at h
  obtain ⟨hs, ha⟩ := h
  obtain ⟨hn, hs⟩ := shape_parts hs
  simp only [shapeK, Ty.kind, Ty.pkg, Ty.major, Ty.mod, Ty.name, Ty.names, Ty.subs] at hs hn
  simp only [skT]
  by_cases k1 : kind = 1
  ·simp only [k1, if_true]; exact ⟨_, _, rfl, by decide⟩
  by_cases k2 : kind = 2
  ·simp only [k2, if_true]; exact ⟨_, _, rfl, by decide⟩
  by_cases k3 : kind = 3
  ·simp only [k3, if_true]; exact ⟨_, _, rfl, by decide⟩
  simp only [k1, k2, k3, or_self, if_false] at hs ⊢
  by_cases k4 : kind = 4
  ·simp only [k4, if_true]; exact ⟨_, _, rfl, by decide⟩
  by_cases k5 : kind = 5
  ·simp only [k5, if_true]; exact ⟨_, _, rfl, by decide⟩
  by_cases k6 : kind = 6
  ·simp only [k6, if_true]; exact ⟨_, _, rfl, by decide⟩
  by_cases k7 : kind = 7
  ·simp only [k7, if_true]; exact ⟨_, _, rfl, by decide⟩
  simp only [k4, k5, k6, k7, if_false] at hs ⊢
  by_cases k9 : kind = 9
  ·simp only [k9, if_true]; exact ⟨_, _, rfl, by decide⟩
  simp only [k9, if_false] at hs ⊢
  by_cases k8 : kind = 8
  ·simp only [k8, if_true, Bool.and_eq_true, Bool.or_eq_true, decide_eq_true_eq] at hs
   obtain ⟨⟨_, hg⟩, hm⟩ := hs
   by_cases em : mod = []
   ·simp only [em, if_true]; exact ⟨_, _, rfl, by simp [begT, hg]⟩
   ·simp only [em, if_false]; exact ⟨_, _, rfl, by simp [begT, hm.resolve_left em]⟩
  ·simp only [k8, if_false] at hs; cases hs
theorem skTs_len (g : Bool) : ∀ (ns : List (List UInt8)) (l : List Ty), (skTs g ns l).length = l.length
 | _, [] => by simp [skTs]
 | [], t :: ts => by simp [skTs, skTs_len g [] ts]
 | n :: ns, t :: ts => by simp [skTs, skTs_len g ns ts]
theorem skTs_nil (g : Bool) : ∀ (l : List Ty), skTs g [] l = l.map skT
 | [] => by simp [skTs]
 | t :: ts => by simp [skTs, skTs_nil g ts]
theorem named_rt {l : List Tok} {g : Bool} {en : List UInt8} {rec : PS → Ty × PS} (hen : en ≠ [44]) : ∀ (ns : List (List UInt8)) (ts : List Ty) (k a c : Nat) (ps : List Nm) (r : List Sk),
  ns.length = ts.length → ns ≠ [] → ns.length ≤ k → (∀ x ∈ ns, namOk g x = true) → (ps.map (·.1) ++ ns).Nodup → ps.length + ns.length ≤ 20 → (∀ t ∈ ts, RdOk l rec t) → c + manyTs ts ≤ 500 →
  Sees l a (joinK (4, [44]) (skTs g ns ts) ++ (4, en) :: r) →
  namedF l g en rec k ps ⟨a, c, 0⟩ = (ps ++ ns.zip ts, ⟨a + (joinK (4, [44]) (skTs g ns ts)).length + 1, c + manyTs ts, 0⟩)
 | [], _, _, _, _, _, _, _, h, _, _, _, _, _, _, _ => absurd rfl h
 | n :: ns, [], _, _, _, _, _, h, _, _, _, _, _, _, _, _ => by simp at h
 | n :: ns, t :: ts, 0, _, _, _, _, _, _, h, _, _, _, _, _, _ => by simp at h
 | n :: ns, t :: ts, k + 1, a, c, ps, r, hl, _, hk, hn, hd, h20, hr, hc, hsee => by
  simp only [manyTs] at hc
  have hnn := hn n (by simp)
  have hnp : n ∉ ps.map (·.1) := fun h => by
   rw [List.nodup_append] at hd
   exact hd.2.2 n h n (by simp) rfl
  have hlt : ¬ 20 ≤ ps.length := by simp at h20; omega
  have hR := hr t (by simp)
  -- the head
  have step : ∀ tail : List Sk, Sees l a (((nk g, n) :: (4, [58]) :: skT t) ++ tail) →
    isNam g l ⟨a, c, 0⟩ = true ∧ curT l ⟨a, c, 0⟩ = n ∧ rec (mustF [58] l (stepF ⟨a, c, 0⟩)) = (t, ⟨a + ((skT t).length + 2), c + manyT t, 0⟩) ∧ Sees l (a + ((skT t).length + 2)) tail := by
   intro tail h
   rw [List.cons_append, List.cons_append] at h
   have h1 := (sees_get h).2
   have h2 := (sees_get h1).2
   have h3 := hR (a + 1 + 1) c tail h2 (by omega)
   refine ⟨by rw [isNam_sees g h]; simp [nk, hnn], curT_sees h, ?_, ?_⟩
   ·show rec (mustF [58] l ⟨a + 1, c, 0⟩) = _
    rw [mustF_sees h1, h3]; congr 2; omega
   ·have := sees_app h2
    rwa [show a + 1 + 1 + (skT t).length = a + ((skT t).length + 2) by omega] at this
  by_cases e : ns = []
  ·subst e
   have e' : ts = [] := by simpa using hl
   subst e'
   simp only [skTs, joinK] at hsee ⊢
   obtain ⟨s1, s2, s3, s4⟩ := step _ hsee
   simp only [namedF, s1, s2, hnp, s3, hlt, ne_eq, not_true_eq_false, if_false, Bool.true_eq_false]
   rw [isSig_sees en s4]
   simp [stepF, manyTs]
  ·have hts : ts ≠ [] := by intro q; subst q; simp at hl; exact e hl
   have hne : skTs g ns ts ≠ [] := fun q => by have := skTs_len g ns ts; rw [q] at this; simp only [List.length_nil] at this; exact hts (List.length_eq_zero_iff.1 this.symm)
   simp only [skTs] at hsee ⊢
   rw [joinK_cons hne] at hsee ⊢
   rw [List.append_assoc] at hsee
   obtain ⟨s1, s2, s3, s4⟩ := step _ hsee
   have s5 : Sees l (a + ((skT t).length + 2)) ((4, [44]) :: (joinK (4, [44]) (skTs g ns ts) ++ (4, en) :: r)) := by simpa using s4
   have s6 := (sees_get s5).2
   have ih := named_rt (rec := rec) hen ns ts k (a + ((skT t).length + 2) + 1) (c + manyT t) (ps ++ [(n, t)]) r (by simpa using hl) e (by simp at hk; omega) (fun x hx => hn x (by simp [hx])) (by simpa using hd) (by simp at h20 ⊢; omega) (fun x hx => hr x (by simp [hx])) (by omega) s6
   have hs : isSig en l ⟨a + ((skT t).length + 2), c + manyT t, 0⟩ = false := by rw [isSig_sees en s5]; simp; exact fun h => hen h.symm
   simp only [namedF, s1, s2, hnp, s3, hlt, ne_eq, not_true_eq_false, if_false, Bool.true_eq_false, hs, Bool.false_eq_true]
   rw [mustF_sees s5, ih]
   simp [manyTs]; omega
theorem fun_rt {l : List Tok} {rec : PS → Ty × PS} : ∀ (ts : List Ty) (k a c : Nat) (qs : List Ty) (r : List Sk),
  ts ≠ [] → ts.length ≤ k → qs.length + ts.length ≤ 20 → (∀ t ∈ ts, RdOk l rec t) → c + manyTs ts ≤ 500 →
  Sees l a (joinK (4, [44]) (ts.map skT) ++ (4, [41]) :: r) →
  funF l rec k qs ⟨a, c, 0⟩ = (qs ++ ts, ⟨a + (joinK (4, [44]) (ts.map skT)).length + 1, c + manyTs ts, 0⟩)
 | [], _, _, _, _, _, h, _, _, _, _, _ => absurd rfl h
 | t :: ts, 0, _, _, _, _, _, h, _, _, _, _ => by simp at h
 | t :: ts, k + 1, a, c, qs, r, _, hk, h20, hr, hc, hsee => by
  simp only [manyTs] at hc
  have hlt : ¬ 20 ≤ qs.length := by simp at h20; omega
  have hR := hr t (by simp)
  have hsub : ∀ tail, Sees l a (skT t ++ tail) → subF l rec qs.length ⟨a, c, 0⟩ = (t, ⟨a + (skT t).length, c + manyT t, 0⟩) := fun tail h => by
   rw [subF, if_neg (by simp [hlt]), hR a c tail h (by omega)]
  by_cases e : ts = []
  ·subst e
   simp only [List.map_cons, List.map_nil, joinK] at hsee ⊢
   have s4 := sees_app hsee
   simp only [funF, ne_eq, not_true_eq_false, if_false, hsub _ hsee]
   rw [isSig_sees [41] s4]
   simp [stepF, manyTs]
  ·have hne : ts.map skT ≠ [] := by simpa using e
   simp only [List.map_cons] at hsee ⊢
   rw [joinK_cons hne] at hsee ⊢
   rw [List.append_assoc] at hsee
   have s5 : Sees l (a + (skT t).length) ((4, [44]) :: (joinK (4, [44]) (ts.map skT) ++ (4, [41]) :: r)) := by simpa using sees_app hsee
   have s6 := (sees_get s5).2
   have ih := fun_rt (rec := rec) ts k (a + (skT t).length + 1) (c + manyT t) (qs ++ [t]) r e (by simp at hk; omega) (by simp at h20 ⊢; omega) (fun x hx => hr x (by simp [hx])) (by omega) s6
   have hs : isSig [41] l ⟨a + (skT t).length, c + manyT t, 0⟩ = false := by rw [isSig_sees [41] s5]; simp
   simp only [funF, ne_eq, not_true_eq_false, if_false, hsub _ hsee, hs, Bool.false_eq_true]
   rw [mustF_sees s5, ih]
   simp [manyTs]; omega
/-! names that rise -/
theorem rising_lt {g : Bool} {l : List (List UInt8)} (h : risingN g l = true) : l.Pairwise fun a b => ltB a b = true := by
 have h1 : ∀ i (hi : i + 1 < l.length), ltB l[i] l[i + 1] = true := by
  intro i hi
  have := List.all_eq_true.1 h (i + 1) (List.mem_range.2 hi)
  simp only [stepOk, Bool.and_eq_true, Bool.or_eq_true, decide_eq_true_eq, Nat.add_sub_cancel] at this
  have h2 := this.2.resolve_left (by omega)
  rwa [List.getD_eq_getElem?_getD, List.getD_eq_getElem?_getD, List.getElem?_eq_getElem (by omega), List.getElem?_eq_getElem hi] at h2
 clear h
 induction l with
 | nil => exact .nil
 | cons x l ih =>
  have ih' := ih fun i hi => h1 (i + 1) (by simpa using hi)
  refine List.pairwise_cons.2 ⟨?_, ih'⟩
  cases l with
  | nil => simp
  | cons y l =>
   have hxy : ltB x y = true := h1 0 (by simp)
   intro z hz
   rcases List.mem_cons.1 hz with rfl | hz
   ·exact hxy
   ·exact ltB_tr hxy ((List.pairwise_cons.1 ih').1 z hz)
theorem rising_nodup {g : Bool} {l : List (List UInt8)} (h : risingN g l = true) : l.Nodup :=
 (rising_lt h).imp fun {a b} hab e => by subst e; rw [ltB_irr] at hab; cases hab
theorem sortF_rising {ps : List Nm} (h : (ps.map (·.1)).Pairwise fun a b => ltB a b = true) : sortF ps = ps := by
 have hs : SortedN ps := by
  have := List.pairwise_map.1 h
  exact this.imp fun {a b} hab => ltB_asymm hab
 have hn : (ps.map (·.1)).Nodup := h.imp fun {a b} hab e => by subst e; rw [ltB_irr] at hab; cases hab
 exact sorted_uniq hn (sortF_spec ps).1 (.refl _) (sortF_spec ps).2 hs
theorem zip_fst {α β : Type} : ∀ (a : List α) (b : List β), a.length = b.length → (a.zip b).map (·.1) = a ∧ (a.zip b).map (·.2) = b
 | [], [], _ => ⟨rfl, rfl⟩
 | x :: a, y :: b, h => by
  obtain ⟨h1, h2⟩ := zip_fst a b (by simpa using h)
  exact ⟨by simp [h1], by simp [h2]⟩
theorem recT_rising {g : Bool} {kd : Int} {ns : List (List UInt8)} {ts : List Ty} (h : risingN g ns = true) (hl : ns.length = ts.length) : recT kd (ns.zip ts) = .mk kd [] 0 [] [] ns ts := by
 obtain ⟨h1, h2⟩ := zip_fst ns ts hl
 have := sortF_rising (ps := ns.zip ts) (by rw [h1]; exact rising_lt h)
 rw [recT, this, h1, h2]
theorem emptyT_parts {k : Int} {p : List UInt8} {j : Int} {m n : List UInt8} {ns : List (List UInt8)} {ts : List Ty} (h : emptyT (.mk k p j m n ns ts) = true) : p = [] ∧ j = 0 ∧ m = [] ∧ n = [] := by
 simp only [emptyT, Ty.pkg, Ty.major, Ty.mod, Ty.name, Bool.and_eq_true, decide_eq_true_eq] at h
 exact ⟨h.1.1.1, h.1.1.2, h.1.2, h.2⟩
theorem deepTs_mem {t : Ty} : ∀ {l : List Ty}, t ∈ l → deepT t ≤ deepTs l
 | [], h => by cases h
 | x :: l, h => by
  simp only [deepTs]
  rcases List.mem_cons.1 h with rfl | h
  ·omega
  ·have := deepTs_mem h; omega
theorem rtF_step {l : List Tok} {k a c : Nat} {x : Sk} {r : List Sk} (h : Sees l a (x :: r)) (hb : begT ⟨x.1, 0, x.2⟩ = true) (hc : c < 500) :
  ∃ t : Tok, t.kind = x.1 ∧ t.text = x.2 ∧ typF l (k + 1) ⟨a, c, 0⟩ = bodyF l t (typF l k) ⟨a + 1, c + 1, 0⟩ := by
 obtain ⟨t, h1, h2, h3⟩ := cur_sees (c := c) h
 refine ⟨t, h2, h3, ?_⟩
 have hb' : begT t = true := by simpa [begT, h2, h3] using hb
 simp only [typF, h1, hb', Bool.true_eq_false, if_false]
 rw [if_neg (by omega)]
theorem typ_rt (l : List Tok) : ∀ (k : Nat) (t : Ty), allT t = true → deepT t ≤ k → RdOk l (typF l k) t
 | 0, t, _, h => by rw [deepT_eq] at h; omega
 | k + 1, .mk kind pkg major mod name names subs, h, hd => by
  intro a c r hsee hc
  obtain ⟨x, r0, hx, hxb⟩ := skT_beg _ h
  simp only [allT, Bool.and_eq_true] at h
  obtain ⟨hs, ha⟩ := h
  simp only [manyT] at hc
  have ha' : ∀ t ∈ subs, allT t = true := by rw [allTs_eq] at ha; exact List.all_eq_true.1 ha
  have hsub : ∀ t ∈ subs, RdOk l (typF l k) t := fun t ht => typ_rt l k t (ha' t ht) (by
   have := deepTs_mem ht
   simp only [deepT] at hd; omega)
  obtain ⟨hn, hs⟩ := shape_parts hs
  simp only [shapeK, Ty.kind, Ty.pkg, Ty.major, Ty.mod, Ty.name, Ty.names, Ty.subs] at hs hn
  obtain ⟨t, e1, e2, e3⟩ := rtF_step (k := k) (c := c) (by rw [hx] at hsee; exact hsee) hxb (by omega)
  rw [e3]
  have hsee1 := (sees_get (by rw [hx] at hsee; exact hsee)).2
  simp only [manyT]
  simp only [skT] at hx hsee ⊢
  have base : ∀ (w : List UInt8) (kd : Nat), 0 < baseN w → baseN w = kd → w ≠ wList → w ≠ [123] → w ≠ [91] → w ≠ [40] → w ≠ [60] → t.kind = 2 → t.text = w → bodyF l t (typF l k) ⟨a + 1, c + 1, 0⟩ = (.mk kd [] 0 [] [] [] [], ⟨a + 1, c + 1, 0⟩) := by
   intro w kd h0 h1 n1 n2 n3 n4 n5 q1 q2
   have h0' : 0 < kd := by omega
   unfold bodyF; simp [q1, q2, n1, n2, n3, n4, n5, h1, h0']
  by_cases k1 : kind = 1
  ·simp only [k1, if_true, true_or] at hs hx ⊢
   obtain ⟨rfl, rfl⟩ : x = (2, wInt) ∧ r0 = [] := by simpa [eq_comm] using hx
   simp only [Bool.and_eq_true, decide_eq_true_eq, List.length_eq_zero_iff] at hs
   obtain ⟨⟨hs, rfl⟩, rfl⟩ := hs
   obtain ⟨rfl, rfl, rfl, rfl⟩ := emptyT_parts hs
   rw [base wInt 1 (by decide) (by decide) (by decide) (by decide) (by decide) (by decide) (by decide) e1 e2]; simp [manyTs]
  by_cases k2 : kind = 2
  ·simp only [k2, if_true, true_or, or_true, show ¬ (2 : Int) = 1 by omega, if_false] at hs hx ⊢
   obtain ⟨rfl, rfl⟩ : x = (2, wText) ∧ r0 = [] := by simpa [eq_comm] using hx
   simp only [Bool.and_eq_true, decide_eq_true_eq, List.length_eq_zero_iff] at hs
   obtain ⟨⟨hs, rfl⟩, rfl⟩ := hs
   obtain ⟨rfl, rfl, rfl, rfl⟩ := emptyT_parts hs
   rw [base wText 2 (by decide) (by decide) (by decide) (by decide) (by decide) (by decide) (by decide) e1 e2]; simp [manyTs]
  by_cases k3 : kind = 3
  ·simp only [k3, if_true, or_true, show ¬ (3 : Int) = 1 by omega, show ¬ (3 : Int) = 2 by omega, if_false] at hs hx ⊢
   obtain ⟨rfl, rfl⟩ : x = (2, wBool) ∧ r0 = [] := by simpa [eq_comm] using hx
   simp only [Bool.and_eq_true, decide_eq_true_eq, List.length_eq_zero_iff] at hs
   obtain ⟨⟨hs, rfl⟩, rfl⟩ := hs
   obtain ⟨rfl, rfl, rfl, rfl⟩ := emptyT_parts hs
   rw [base wBool 3 (by decide) (by decide) (by decide) (by decide) (by decide) (by decide) (by decide) e1 e2]; simp [manyTs]
  simp only [k1, k2, k3, or_self, if_false] at hs hx hsee ⊢
  by_cases k4 : kind = 4
  ·simp only [k4, if_true] at hs hx hsee ⊢
   simp only [Bool.and_eq_true, decide_eq_true_eq, List.length_eq_zero_iff] at hs
   obtain ⟨⟨hs, h1⟩, rfl⟩ := hs
   obtain ⟨rfl, rfl, rfl, rfl⟩ := emptyT_parts hs
   obtain ⟨u, rfl⟩ := List.length_eq_one_iff.1 h1
   simp only [skTs, joinK] at hx hsee ⊢
   obtain ⟨rfl, rfl⟩ : x = (2, wList) ∧ r0 = (4, [40]) :: (skT u ++ [(4, [41])]) := by simpa [eq_comm] using hx
   have s1 : Sees l (a + 1) ((4, [40]) :: (skT u ++ ((4, [41]) :: r))) := by simpa using hsee1
   have s2 := (sees_get s1).2
   have s3 := sees_app s2
   have hu := hsub u (by simp) _ (c + 1) _ s2 (by simp only [manyTs] at hc; omega)
   unfold bodyF; rw [if_neg (by simp [e1]), if_pos e2]
   unfold listF; rw [mustF_sees s1, hu]
   simp only; rw [mustF_sees s3]
   simp [manyTs]; omega
  have parts : ∀ g : Bool, (kind = if g then 6 else 5) → t.kind = 4 → t.text = (if g then [91] else [123]) → emptyT (.mk kind pkg major mod name names subs) = true → subs.length = names.length → (g = true → 1 ≤ subs.length) → risingN g names = true →
    Sees l (a + 1) (joinK (4, [44]) (skTs g names subs) ++ ((4, if g then [93] else [125]) :: r)) →
    bodyF l t (typF l k) ⟨a + 1, c + 1, 0⟩ = (.mk kind pkg major mod name names subs, ⟨a + ((joinK (4, [44]) (skTs g names subs)).length + 1 + 1), c + (1 + manyTs subs), 0⟩) := by
   intro g hk q1 q2 he hl h1 hri s1
   obtain ⟨rfl, rfl, rfl, rfl⟩ := emptyT_parts he
   have hbody : bodyF l t (typF l k) ⟨a + 1, c + 1, 0⟩ = partsF l g (typF l k) ⟨a + 1, c + 1, 0⟩ := by
    unfold bodyF
    cases g
    ·simp only [Bool.false_eq_true, if_false] at q2
     rw [if_neg (by omega), if_neg (by rw [q2]; decide), if_pos q2]
    ·simp only [if_true] at q2
     rw [if_neg (by omega), if_neg (by rw [q2]; decide), if_neg (by rw [q2]; decide), if_pos q2]
   rw [hbody, partsF]
   by_cases e : names = []
   ·subst e
    have e' : subs = [] := by simpa using hl
    subst e'
    cases g
    ·simp only [skTs, joinK, List.nil_append, Bool.false_eq_true, if_false] at s1
     have hsig : isSig [125] l ⟨a + 1, c + 1, 0⟩ = true := by rw [isSig_sees _ s1]; simp
     simp only [hsig, true_and, if_true, Bool.false_eq_true, if_false]
     rw [hk]
     simp [recT, sortF, stepF, skTs, joinK, manyTs]
    ·simp at h1
   ·have hen : (if g then [93] else [125] : List UInt8) ≠ [44] := by cases g <;> decide
    have := named_rt (rec := typF l k) hen names subs 22 (a + 1) (c + 1) [] r hl.symm e (by omega) (stepOk_nam hri) (by simpa using rising_nodup hri) (by simp; omega) hsub (by omega) s1
    have hsig : ¬ (g = false ∧ isSig [125] l ⟨a + 1, c + 1, 0⟩ = true) := by
     rintro ⟨rfl, h⟩
     obtain ⟨n0, ns0, rfl⟩ := List.exists_cons_of_ne_nil e
     cases subs with
     | nil => simp at hl
     | cons u us =>
      obtain ⟨q, hq⟩ : ∃ q, joinK (4, [44]) (skTs false (n0 :: ns0) (u :: us)) = (nk false, n0) :: q := by
       simp only [skTs]
       by_cases e : skTs false ns0 us = []
       ·rw [e]; exact ⟨_, rfl⟩
       ·rw [joinK_cons e]; exact ⟨_, rfl⟩
      rw [hq, List.cons_append] at s1
      rw [isSig_sees _ s1] at h
      simp [nk] at h
    rw [if_neg hsig, this]
    simp only [List.nil_append]
    rw [← hk, recT_rising hri hl.symm]
    congr 2 <;> omega
  by_cases k5 : kind = 5
  ·simp only [k5, if_true, if_false, show ¬ (5 : Int) = 4 by omega, show ¬ (6 : Int) = 4 by omega, show ¬ (6 : Int) = 5 by omega, show ¬ (7 : Int) = 4 by omega, show ¬ (7 : Int) = 5 by omega, show ¬ (7 : Int) = 6 by omega] at hs hx hsee parts ⊢
   simp only [Bool.and_eq_true, decide_eq_true_eq] at hs
   obtain ⟨rfl, rfl⟩ : x = (4, [123]) ∧ r0 = joinK (4, [44]) (skTs false names subs) ++ [(4, [125])] := by simpa [eq_comm] using hx
   have := parts false (by simp) e1 (by simpa using e2) hs.1.1 hs.1.2 (by simp) hs.2 (by simpa [List.append_assoc] using hsee1)
   rw [this]; simp
  by_cases k6 : kind = 6
  ·simp only [k6, if_true, show ¬ (6 : Int) = 4 by omega, show ¬ (6 : Int) = 5 by omega, if_false] at hs hx hsee parts ⊢
   simp only [Bool.and_eq_true, decide_eq_true_eq] at hs
   obtain ⟨rfl, rfl⟩ : x = (4, [91]) ∧ r0 = joinK (4, [44]) (skTs true names subs) ++ [(4, [93])] := by simpa [eq_comm] using hx
   have := parts true (by simp) e1 (by simpa using e2) hs.1.1.1 hs.1.2 (fun _ => hs.1.1.2) hs.2 (by simpa [List.append_assoc] using hsee1)
   rw [this]; simp
  clear parts
  by_cases k7 : kind = 7
  ·simp only [k7, if_true, show ¬ (7 : Int) = 4 by omega, show ¬ (7 : Int) = 5 by omega, show ¬ (7 : Int) = 6 by omega, if_false] at hs hx hsee ⊢
   simp only [Bool.and_eq_true, decide_eq_true_eq, List.length_eq_zero_iff] at hs
   obtain ⟨⟨hs, h1⟩, rfl⟩ := hs
   obtain ⟨rfl, rfl, rfl, rfl⟩ := emptyT_parts hs
   obtain ⟨ts, u, rfl⟩ : ∃ ts u, subs = ts ++ [u] := ⟨subs.dropLast, subs.getLast (by intro e; subst e; simp at h1), (List.dropLast_concat_getLast _).symm⟩
   simp only [skTs_nil, List.map_append, List.map_cons, List.map_nil, List.dropLast_concat] at hx hsee ⊢
   have hlast : (ts.map skT ++ [skT u]).getLastD [] = skT u := by simp
   rw [hlast] at hx hsee ⊢
   obtain ⟨rfl, rfl⟩ : x = (4, [40]) ∧ r0 = joinK (4, [44]) (ts.map skT) ++ (4, [41]) :: (4, [45, 62]) :: skT u := by simpa [eq_comm] using hx
   have s1 : Sees l (a + 1) (joinK (4, [44]) (ts.map skT) ++ ((4, [41]) :: (4, [45, 62]) :: (skT u ++ r))) := by simpa using hsee1
   rw [manyTs_append] at hc ⊢
   have hl20 : ts.length + 1 ≤ 20 := by simpa using hn
   have hbody : bodyF l t (typF l k) ⟨a + 1, c + 1, 0⟩ = funcF l (typF l k) ⟨a + 1, c + 1, 0⟩ := by
    unfold bodyF
    have e2' : t.text = [40] := e2
    rw [if_neg (by simp [e1]), if_neg (by rw [e2']; decide), if_neg (by rw [e2']; decide), if_neg (by rw [e2']; decide), if_pos e2']
   rw [hbody, funcF]
   have hps : (if isSig [41] l ⟨a + 1, c + 1, 0⟩ = true then (([] : List Ty), stepF ⟨a + 1, c + 1, 0⟩) else funF l (typF l k) 22 [] ⟨a + 1, c + 1, 0⟩) = (ts, ⟨a + 1 + (joinK (4, [44]) (ts.map skT)).length + 1, c + 1 + manyTs ts, 0⟩) := by
    by_cases e : ts = []
    ·subst e
     simp only [List.map_nil, joinK, List.nil_append] at s1
     rw [if_pos (by rw [isSig_sees _ s1]; simp)]
     simp [stepF, joinK, manyTs]
    ·have hns : isSig [41] l ⟨a + 1, c + 1, 0⟩ = false := by
      obtain ⟨u0, us0, rfl⟩ := List.exists_cons_of_ne_nil e
      obtain ⟨y, q, hq, hyb⟩ := skT_beg u0 (ha' u0 (by simp))
      obtain ⟨q', hq'⟩ : ∃ q', joinK (4, [44]) ((u0 :: us0).map skT) = y :: q' := by
       simp only [List.map_cons]
       by_cases e : us0.map skT = []
       ·rw [e]; exact ⟨_, hq⟩
       ·rw [joinK_cons e, hq]; exact ⟨_, rfl⟩
      rw [hq', List.cons_append] at s1
      rw [isSig_sees _ s1]
      obtain ⟨y1, y2⟩ := y
      by_cases h : y1 = 4 ∧ y2 = [41]
      ·obtain ⟨rfl, rfl⟩ := h; revert hyb; decide
      ·simp only [Bool.and_eq_false_iff, decide_eq_false_iff_not]
       by_cases h4 : y1 = 4
       ·exact .inr fun e => h ⟨h4, e⟩
       ·exact .inl h4
     rw [hns, if_neg (by simp)]
     have := fun_rt (rec := typF l k) ts 22 (a + 1) (c + 1) [] _ e (by omega) (by simp; omega) (fun t ht => hsub t (by simp [ht])) (by omega) s1
     simpa using this
   rw [hps]
   have s2 : Sees l (a + 1 + (joinK (4, [44]) (ts.map skT)).length + 1) ((4, [45, 62]) :: (skT u ++ r)) := (sees_get (sees_app s1)).2
   have s3 := (sees_get s2).2
   simp only [manyTs] at hc ⊢
   rw [mustF_sees s2, subF, if_neg (by omega), hsub u (by simp) _ (c + 1 + manyTs ts) r s3 (by omega)]
   simp; omega
  simp only [k4, k5, k6, k7, if_false] at hs hx hsee ⊢
  by_cases k9 : kind = 9
  ·simp only [k9, if_true, show ¬ (9 : Int) = 8 by omega, if_false] at hs hx hsee ⊢
   simp only [Bool.and_eq_true, decide_eq_true_eq, List.length_eq_zero_iff] at hs
   obtain ⟨⟨⟨⟨⟨⟨rfl, rfl⟩, hp⟩, hm⟩, hg⟩, hj1⟩, hj2⟩ := hs
   obtain ⟨rfl, rfl⟩ : x = (4, [60]) ∧ r0 = [(1, pkg), (3, digits major.toNat), (1, mod), (2, name), (4, [62])] := by simpa [eq_comm] using hx
   have s1 : Sees l (a + 1) ((1, pkg) :: (3, digits major.toNat) :: (1, mod) :: (2, name) :: (4, [62]) :: r) := by simpa using hsee1
   have s2 := (sees_get s1).2
   have s3 := (sees_get s2).2
   have s4 := (sees_get s3).2
   have s5 := (sees_get s4).2
   have e2' : t.text = [60] := e2
   obtain ⟨d1, d2⟩ := digits_ok (n := major.toNat) (by omega) (by omega)
   unfold bodyF
   rw [if_neg (by simp [e1]), if_neg (by rw [e2']; decide), if_neg (by rw [e2']; decide), if_neg (by rw [e2']; decide), if_neg (by rw [e2']; decide), if_pos e2']
   unfold openF
   rw [nameF_sees (g := false) hp s1]; simp only
   rw [numF_sees d1 s2]; simp only
   rw [nameF_sees (g := false) hm s3]; simp only
   rw [nameF_sees (g := true) hg s4]; simp only
   rw [mustF_sees s5, d2]
   have : (major.toNat : Int) = major := by omega
   simp [this, manyTs]
  simp only [k9, if_false] at hs hx hsee ⊢
  by_cases k8 : kind = 8
  ·simp only [k8, if_true, Bool.and_eq_true, Bool.or_eq_true, decide_eq_true_eq, List.length_eq_zero_iff] at hs
   obtain ⟨⟨⟨⟨⟨rfl, rfl⟩, rfl⟩, rfl⟩, hg⟩, hm⟩ := hs
   by_cases em : mod = []
   ·subst em
    simp only [if_true] at hx hsee ⊢
    obtain ⟨rfl, rfl⟩ : x = (2, name) ∧ r0 = [] := by simpa [eq_comm] using hx
    obtain ⟨n0, n1, n2, n3, n4, n5⟩ := great_nots hg
    have e2' : t.text = name := e2
    unfold bodyF
    rw [if_neg (by simp [e1]), if_neg (by rw [e2']; exact n1), if_neg (by rw [e2']; exact n2), if_neg (by rw [e2']; exact n3), if_neg (by rw [e2']; exact n4), if_neg (by rw [e2']; exact n5), if_neg (by rw [e2']; omega)]
    simp [localT, e2', manyTs, k8]
   ·simp only [em, if_false] at hx hsee ⊢
    obtain ⟨rfl, rfl⟩ : x = (1, mod) ∧ r0 = [(4, [46]), (2, name)] := by simpa [eq_comm] using hx
    have s1 : Sees l (a + 1) ((4, [46]) :: (2, name) :: r) := by simpa using hsee1
    have s2 := (sees_get s1).2
    have e2' : t.text = mod := e2
    unfold bodyF
    rw [if_pos e1, mustF_sees s1]
    simp only
    rw [nameF_sees (g := true) hg s2]
    simp [localT, e2', manyTs, k8]
  ·simp only [k8, if_false] at hs; cases hs
end Go.Proofs.Mv.App
open Go Go.Proofs Go.Proofs.Mv.V
namespace Go.Proofs.Mv.App
theorem shape_sm {t : Ty} (h : shapeT t = true) : t.pkg.length ≤ 20 ∧ t.mod.length ≤ 20 ∧ t.name.length ≤ 20 ∧ t.names.length ≤ 20 ∧ t.subs.length ≤ 20 ∧ ∀ s ∈ t.names, s.length ≤ 20 := by
 obtain ⟨hn, hs⟩ := shape_parts h
 obtain ⟨kind, pkg, major, mod, name, names, subs⟩ := t
 simp only [shapeK, Ty.kind, Ty.pkg, Ty.major, Ty.mod, Ty.name, Ty.names, Ty.subs] at hs hn ⊢
 have hri : ∀ g, risingN g names = true → ∀ s ∈ names, s.length ≤ 20 := fun g h s hs => by
  have := stepOk_nam h s hs
  cases g
  ·exact (small_parts this).2.2.1
  ·exact (great_parts this).2.2.1
 repeat' split at hs
 ·simp only [Bool.and_eq_true, decide_eq_true_eq, List.length_eq_zero_iff] at hs
  obtain ⟨⟨he, _⟩, rfl⟩ := hs
  obtain ⟨rfl, rfl, rfl, rfl⟩ := emptyT_parts he
  simp [hn]
 ·simp only [Bool.and_eq_true, decide_eq_true_eq, List.length_eq_zero_iff] at hs
  obtain ⟨⟨he, _⟩, rfl⟩ := hs
  obtain ⟨rfl, rfl, rfl, rfl⟩ := emptyT_parts he
  simp [hn]
 ·simp only [Bool.and_eq_true, decide_eq_true_eq, List.length_eq_zero_iff] at hs
  obtain ⟨⟨he, e⟩, hr⟩ := hs
  obtain ⟨rfl, rfl, rfl, rfl⟩ := emptyT_parts he
  exact ⟨by simp, by simp, by simp, by omega, hn, hri _ hr⟩
 ·simp only [Bool.and_eq_true, decide_eq_true_eq, List.length_eq_zero_iff] at hs
  obtain ⟨⟨⟨he, _⟩, e⟩, hr⟩ := hs
  obtain ⟨rfl, rfl, rfl, rfl⟩ := emptyT_parts he
  exact ⟨by simp, by simp, by simp, by omega, hn, hri _ hr⟩
 ·simp only [Bool.and_eq_true, decide_eq_true_eq, List.length_eq_zero_iff] at hs
  obtain ⟨⟨he, _⟩, rfl⟩ := hs
  obtain ⟨rfl, rfl, rfl, rfl⟩ := emptyT_parts he
  simp [hn]
 ·simp only [Bool.and_eq_true, Bool.or_eq_true, decide_eq_true_eq, List.length_eq_zero_iff] at hs
  obtain ⟨⟨⟨⟨⟨rfl, rfl⟩, rfl⟩, rfl⟩, hg⟩, hm⟩ := hs
  refine ⟨by simp, ?_, (great_parts hg).2.2.1, by simp, by simp, by simp⟩
  rcases hm with rfl | hm
  ·simp
  ·exact (small_parts hm).2.2.1
 ·simp only [Bool.and_eq_true, decide_eq_true_eq, List.length_eq_zero_iff] at hs
  obtain ⟨⟨⟨⟨⟨⟨rfl, rfl⟩, hp⟩, hm⟩, hg⟩, hj1⟩, hj2⟩ := hs
  exact ⟨(small_parts hp).2.2.1, (small_parts hm).2.2.1, (great_parts hg).2.2.1, by simp, by simp, by simp⟩
 ·cases hs
mutual
theorem allT_w : ∀ t : Ty, allT t = true → TyW t
 | .mk kind pkg major mod name names subs, h => by
  simp only [allT, Bool.and_eq_true] at h
  obtain ⟨a, b, c, d, e, f⟩ := shape_sm h.1
  simp only [Ty.pkg, Ty.mod, Ty.name, Ty.names, Ty.subs] at a b c d e f
  exact .mk _ _ _ _ _ _ _ (by omega) (by omega) (by omega) (by omega) (by omega) (fun s hs => by have := f s hs; omega) (allTs_w subs h.2)
theorem allTs_w : ∀ l : List Ty, allTs l = true → ∀ t ∈ l, TyW t
 | [], _, _, h => by cases h
 | t :: ts, h, u, hu => by
  simp only [allTs, Bool.and_eq_true] at h
  rcases List.mem_cons.1 hu with e | hu
  ·rw [e]; exact allT_w t h.1
  ·exact allTs_w ts h.2 u hu
end
/-! how long -/
theorem joinB_len (sep : List UInt8) : ∀ l : List (List UInt8), (joinB sep l).length ≤ (l.map fun s => s.length + sep.length).sum
 | [] => by simp [joinB]
 | [s] => by simp [joinB]
 | s :: t :: r => by
  have := joinB_len sep (t :: r)
  rw [joinB_cons (by simp)]
  simp only [List.map_cons, List.sum_cons, List.length_append] at this ⊢
  omega
theorem digitsF_len : ∀ (f n : Nat), (digitsF f n).length ≤ f
 | 0, _ => by simp [digitsF]
 | f + 1, n => by
  simp only [digitsF]
  split
  ·simp
  ·have := digitsF_len f (n / 10); simp; omega
theorem digits_len (n : Nat) : (digits n).length ≤ 20 := digitsF_len 20 n
mutual
theorem text_len : ∀ t : Ty, allT t = true → (textT t).length + 30 ≤ 130 * manyT t
 | .mk kind pkg major mod name names subs, h => by
  simp only [allT, Bool.and_eq_true] at h
  obtain ⟨a, b, c, d, e, f⟩ := shape_sm h.1
  simp only [Ty.pkg, Ty.mod, Ty.name, Ty.names, Ty.subs] at a b c d e f
  have h1 := texts_len subs names h.2 f
  have h2 := texts_len subs [] h.2 (by simp)
  have h3 := joinB_len comma (textTs names subs)
  have h4 := joinB_len comma ((textTs [] subs).dropLast)
  have h5 : ((textTs [] subs).dropLast.map fun s => s.length + comma.length).sum + ((textTs [] subs).getLastD []).length ≤ ((textTs [] subs).map fun s => s.length + comma.length).sum := by
   rcases List.eq_nil_or_concat (textTs [] subs) with e | ⟨q, x, e⟩
   ·rw [e]; simp
   ·rw [e]; simp <;> omega
  have h6 := digits_len major.toNat
  simp only [textT, manyT]
  repeat' split
  all_goals (try simp only [wInt, wText, wBool, wList, List.length_append, List.length_cons, List.length_nil])
  all_goals (try omega)
theorem texts_len : ∀ (l : List Ty) (ns : List (List UInt8)), allTs l = true → (∀ s ∈ ns, s.length ≤ 20) → ((textTs ns l).map fun s => s.length + comma.length).sum ≤ 130 * manyTs l
 | [], ns, _, _ => by simp [textTs]
 | t :: ts, [], h, hn => by
  simp only [allTs, Bool.and_eq_true] at h
  have h1 := text_len t h.1
  have h2 := texts_len ts [] h.2 hn
  simp only [textTs, List.map_cons, List.sum_cons, manyTs, comma, List.length_cons, List.length_nil] at h2 ⊢
  omega
 | t :: ts, n :: ns, h, hn => by
  simp only [allTs, Bool.and_eq_true] at h
  have h1 := text_len t h.1
  have h2 := texts_len ts ns h.2 (fun s hs => hn s (by simp [hs]))
  have h3 := hn n (by simp)
  simp only [textTs, List.map_cons, List.sum_cons, manyTs, comma, List.length_cons, List.length_nil, List.length_append] at h2 ⊢
  omega
end
end Go.Proofs.Mv.App
