/- A part of the proofs: machine, contracts, laws. No condition of its own. -/
import Derived.Test.YtihbegkefjjhpaaGreatDoorP07
import Derived.Test.YtihbegkefjjhpaaGreatDoorP06
import Derived.Test.YtihbegkefjjhpaaGreatDoorP15
set_option linter.unusedSimpArgs false
set_option linter.unusedVariables false
set_option linter.unusedSectionVars false
open Go Go.Proofs Go.Proofs.Mv.V
namespace Go.Proofs.Mv.App
def LxQ (s : List UInt8) (k : List Sk) : Prop := ∀ r kr, stopW r → Lx r kr → Lx (s ++ r) (k ++ kr)
def LxE (s : List UInt8) (k : List Sk) : Prop := ∀ r kr, Lx r kr → Lx (s ++ r) (k ++ kr)
inductive LxW : List (List UInt8) → List (List Sk) → Prop where
 | nil : LxW [] []
 | cons {s : List UInt8} {k : List Sk} {ss : List (List UInt8)} {ks : List (List Sk)} (h : LxQ s k) (hl : LxW ss ks) : LxW (s :: ss) (k :: ks)
theorem LxW.len {ss : List (List UInt8)} {ks : List (List Sk)} (h : LxW ss ks) : ss.length = ks.length := by
 induction h with
 | nil => rfl
 | cons _ _ ih => simp [ih]
theorem LxW.get {ss : List (List UInt8)} {ks : List (List Sk)} (h : LxW ss ks) : ∀ i, LxQ (ss.getD i []) (ks.getD i []) := by
 induction h with
 | nil => intro i r kr _ h; simpa using h
 | cons h _ ih =>
  intro i
  cases i with
  | zero => simpa using h
  | succ i => simpa using ih i
theorem LxW.nil_iff {ss : List (List UInt8)} {ks : List (List Sk)} (h : LxW ss ks) : ss = [] ↔ ks = [] := by cases h <;> simp
theorem LxW.join {ss : List (List UInt8)} {ks : List (List Sk)} (h : LxW ss ks) : LxQ (joinB comma ss) (joinK (4, [44]) ks) := by
 induction h with
 | nil => intro r kr _ h; exact h
 | cons h hl ih =>
  rename_i s k ss ks
  intro r kr h1 h3
  by_cases e : ss = []
  ·have e' := hl.nil_iff.1 e
   subst e; subst e'
   exact h r kr h1 h3
  ·have e' : ks ≠ [] := fun q => e (hl.nil_iff.2 q)
   rw [joinB_cons e, joinK_cons e']
   have h4 : Lx (44 :: 32 :: (joinB comma ss ++ r)) ((4, [44]) :: (joinK (4, [44]) ks ++ kr)) := Lx.sign (by decide) (Lx.sp (ih r kr h1 h3))
   have := h _ _ (stopW_cons (by decide)) h4
   simpa [comma, List.append_assoc] using this
theorem LxW.tail {ss : List (List UInt8)} {ks : List (List Sk)} (h : LxW ss ks) : LxW (ss.drop 1) (ks.drop 1) := by
 cases h with
 | nil => exact .nil
 | cons _ h => simpa using h
theorem LxW.map {f : Nat → List UInt8} {g : Nat → List Sk} : ∀ (l : List Nat), (∀ i ∈ l, LxQ (f i) (g i)) → LxW (l.map f) (l.map g)
 | [], _ => .nil
 | i :: l, h => .cons (h i (by simp)) (LxW.map l fun j hj => h j (by simp [hj]))
theorem LxL.map {f : Nat → List UInt8} {g : Nat → List Sk} : ∀ (l : List Nat), (∀ i ∈ l, LxP (f i) (g i)) → LxL (l.map f) (l.map g)
 | [], _ => .nil
 | i :: l, h => .cons (h i (by simp)) (LxL.map l fun j hj => h j (by simp [hj]))
theorem LxE.map {f : Nat → List UInt8} {g : Nat → List Sk} : ∀ (l : List Nat), (∀ i ∈ l, LxE (f i) (g i)) → LxE (l.map f).flatten (l.map g).flatten
 | [], _ => fun r kr h => by simpa using h
 | i :: l, h => fun r kr h2 => by
  have := h i (by simp) _ _ (LxE.map l (fun j hj => h j (by simp [hj])) r kr h2)
  simpa [List.append_assoc] using this
/-! The tokens. -/
def parKs (k : Int) (s : List Sk) : List Sk := if k = 8 ∨ k = 11 ∨ k = 12 then (4, [40]) :: (s ++ [(4, [41])]) else s
def makS (names : List (List UInt8)) (T : List (List Sk)) : List (List Sk) := (List.range names.length).map fun i => (1, names.getD i []) :: (4, [61]) :: T.getD i []
def fnS (names : List (List UInt8)) (Y : List (List Sk)) : List (List Sk) := (List.range names.length).map fun i => (1, names.getD i []) :: (4, [58]) :: Y.getD i []
def brOneS (names vars : List (List UInt8)) (T : List (List Sk)) (i : Nat) : List Sk := (2, names.getD i []) :: (4, [40]) :: (1, vars.getD i []) :: (4, [41]) :: (4, [45, 62]) :: T.getD (i + 1) []
def brS (names vars : List (List UInt8)) (T : List (List Sk)) (n : Nat) : List Sk := ((List.range n).map (brOneS names vars T)).flatten
def skK (k N : Int) (mod nm : List UInt8) (names vars : List (List UInt8)) (Y : List (List Sk)) (kh : Int) (T : List (List Sk)) : List Sk :=
 if k = 1 then [(3, digits N.toNat)]
 else if k = 2 then [(2, if N = 1 then wTrue else wFalse)]
 else if k = 3 then [(1, nm)]
 else if k = 4 then [(1, mod), (4, [58]), (1, nm)]
 else if k = 5 then (4, [123]) :: (joinK (4, [44]) (makS names T) ++ [(4, [125])])
 else if k = 6 then parKs kh (T.getD 0 []) ++ [(4, [46]), (1, nm)]
 else if k = 7 then (2, nm) :: (4, [40]) :: (T.getD 0 [] ++ [(4, [41])])
 else if k = 8 then (1, [102, 110]) :: (4, [40]) :: (joinK (4, [44]) (fnS names Y) ++ (4, [41]) :: T.getD 0 [])
 else if k = 9 then parKs kh (T.getD 0 []) ++ (4, [40]) :: (joinK (4, [44]) (T.drop 1) ++ [(4, [41])])
 else if k = 10 then (4, [91]) :: (joinK (4, [44]) T ++ [(4, [93])])
 else if k = 11 then (1, [105, 102]) :: (T.getD 0 [] ++ (1, [116, 104, 101, 110]) :: (T.getD 1 [] ++ (1, [101, 108, 115, 101]) :: T.getD 2 []))
 else (1, [99, 97, 115, 101]) :: (T.getD 0 [] ++ (1, [111, 102]) :: (brS names vars T names.length ++ [(1, [101, 110, 100])]))
mutual
def skTm : Tm → List Sk
 | .mk k N mod nm names vars types subs => skK k N mod nm names vars (types.map skT) (kindH subs) (skTms subs)
def skTms : List Tm → List (List Sk)
 | [] => []
 | t :: ts => skTm t :: skTms ts
end
theorem skTms_eq : ∀ l : List Tm, skTms l = l.map skTm
 | [] => by simp [skTms]
 | t :: ts => by simp [skTms, skTms_eq ts]
theorem digits_all (n : Nat) (h : n ≤ 999999999) : (digits n).all isDigit = true ∧ digits n ≠ [] := by
 obtain ⟨a, b, c, d⟩ := digitsF_spec 20 n (by have : (10 : Nat) ^ 20 = 100000000000000000000 := by decide
                                              omega)
 exact ⟨a, (c (by omega)).1⟩
theorem nameN_lx {w s : List UInt8} {k : List Sk} (h : nameN w = true) (hs : stopW s) (hk : Lx s k) : Lx (w ++ s) ((1, w) :: k) := by
 simp only [nameN, Bool.and_eq_true] at h
 exact Lx.name (g := false) h.1 hs hk
theorem tagN_lx {w s : List UInt8} {k : List Sk} (h : tagN w = true) (hs : stopW s) (hk : Lx s k) : Lx (w ++ s) ((2, w) :: k) := by
 simp only [tagN, Bool.and_eq_true] at h
 exact Lx.name (g := true) h.1.1 hs hk
theorem nameN_head {w s : List UInt8} (h : nameN w = true) : (w ++ s).head? ≠ some 46 := by
 simp only [nameN, Bool.and_eq_true] at h
 have := small_parts h.1
 cases w with
 | nil => exact absurd rfl this.2.2.2
 | cons x w =>
  intro e
  simp only [List.cons_append, List.head?_cons, Option.some.injEq] at e
  subst e
  have := this.1
  simp only [List.head?_cons, Option.any_some] at this
  revert this; decide
theorem par_lx {k : Int} {s : List UInt8} {ks : List Sk} (h : LxQ s ks) : LxQ (parK k s) (parKs k ks) := by
 unfold parK parKs
 split
 ·intro r kr h1 h2
  have := Lx.sign (x := 40) (by decide) (h (41 :: r) _ (stopW_cons (by decide)) (Lx.sign (by decide) h2))
  simpa [List.append_assoc] using this
 ·exact h
theorem getD_ok {ok : List UInt8 → Bool} {l : List (List UInt8)} (h : ∀ s ∈ l, ok s = true) {i : Nat} (hi : i < l.length) : ok (l.getD i []) = true := by
 rw [List.getD_eq_getElem?_getD, List.getElem?_eq_getElem hi]; exact h _ (List.getElem_mem hi)
theorem brL_eq (names vars T : List (List UInt8)) : ∀ n, brL names vars T n = ((List.range n).map (brOne names vars T)).flatten
 | 0 => rfl
 | n + 1 => by rw [brL, brL_eq names vars T n, List.range_succ]; simp
theorem lxK {k N : Int} {mod nm : List UInt8} {names vars : List (List UInt8)} {types : List Ty} {subs : List Tm} (hk : KindOk k N mod nm names vars types subs) (kh : Int) {T : List (List UInt8)} {S : List (List Sk)} (hT : LxW T S) :
  LxQ (textK k N mod nm names vars (types.map textT) kh T) (skK k N mod nm names vars (types.map skT) kh S) := by
 have hc := hk.cn
 unfold cntK at hc
 unfold textK skK
 by_cases k1 : k = 1
 ·rw [if_pos k1, if_pos k1]
  intro r kr h1 h2
  have := digits_all N.toNat (by have := hk.n1 k1; omega)
  exact Lx.num this.2 this.1 (stopW_digit h1) h2
 rw [if_neg k1, if_neg k1]
 by_cases k2 : k = 2
 ·rw [if_pos k2, if_pos k2]
  intro r kr h1 h2
  by_cases e : N = 1
  ·rw [if_pos e]; exact Lx.upper (by decide) (by decide) h1 h2
  ·rw [if_neg e]; exact Lx.upper (by decide) (by decide) h1 h2
 rw [if_neg k2, if_neg k2]
 by_cases k3 : k = 3
 ·rw [if_pos k3, if_pos k3]
  intro r kr h1 h2
  exact nameN_lx (hk.nm3 (.inl k3)) h1 h2
 rw [if_neg k3, if_neg k3]
 by_cases k4 : k = 4
 ·rw [if_pos k4, if_pos k4]
  intro r kr h1 h2
  have := nameN_lx (hk.md4 k4) (stopW_cons (x := 58) (by decide)) (Lx.sign (by decide) (nameN_lx (hk.nm3 (.inr (.inl k4))) h1 h2))
  simpa [List.append_assoc] using this
 rw [if_neg k4, if_neg k4]
 by_cases k5 : k = 5
 ·rw [if_pos k5, if_pos k5]
  have hw : LxW (makL names T) (makS names S) := LxW.map _ fun i hi => by
   intro r kr h1 h2
   have h3 := getD_ok (fun s hs => risO_mem (hk.r5 k5) hs) (List.mem_range.1 hi)
   have := nameN_lx h3 (stopW_cons (x := 32) (by decide)) (Lx.sp (Lx.sign (x := 61) (by decide) (Lx.sp (hT.get i r kr h1 h2))))
   simpa [List.append_assoc] using this
  intro r kr h1 h2
  have := Lx.sign (x := 123) (by decide) (hw.join (125 :: r) _ (stopW_cons (by decide)) (Lx.sign (by decide) h2))
  simpa [List.append_assoc] using this
 rw [if_neg k5, if_neg k5]
 by_cases k6 : k = 6
 ·rw [if_pos k6, if_pos k6]
  intro r kr h1 h2
  have hn := hk.nm3 (.inr (.inr k6))
  have := par_lx (k := kh) (hT.get 0) (46 :: (nm ++ r)) _ (stopW_cons (by decide)) (Lx.dot (nameN_head hn) (nameN_lx hn h1 h2))
  simpa [List.append_assoc] using this
 rw [if_neg k6, if_neg k6]
 by_cases k7 : k = 7
 ·rw [if_pos k7, if_pos k7]
  intro r kr h1 h2
  have := tagN_lx (hk.tg7 k7) (stopW_cons (x := 40) (by decide)) (Lx.sign (by decide) (hT.get 0 (41 :: r) _ (stopW_cons (by decide)) (Lx.sign (by decide) h2)))
  simpa [List.append_assoc] using this
 rw [if_neg k7, if_neg k7]
 by_cases k8 : k = 8
 ·rw [if_pos k8, if_pos k8]
  obtain ⟨r1, r2, r3⟩ := hk.r8 k8
  have hw : LxL (fnL names (types.map textT)) (fnS names (types.map skT)) := LxL.map _ fun i hi => by
   intro r kr h1 h2 h4
   have hi' := List.mem_range.1 hi
   have h3 := getD_ok (fun s hs => List.all_eq_true.1 r1 s hs) hi'
   have hi2 : i < types.length := by omega
   have e1 : (types.map textT).getD i [] = textT types[i] := by simp [hi2]
   have e2 : (types.map skT).getD i [] = skT types[i] := by simp [hi2]
   have hm := List.all_eq_true.1 r3 _ (List.getElem_mem hi2)
   simp only [mayT, Bool.and_eq_true] at hm
   have := nameN_lx h3 (stopW_cons (x := 58) (by decide)) (Lx.sign (by decide) (Lx.sp (lxT types[i] hm.1.1 r kr h1 h2 h4)))
   rw [e1, e2]
   simpa [List.append_assoc] using this
  intro r kr h1 h2
  have c1 := Lx.sign (x := 41) (by decide) (Lx.sp (hT.get 0 r kr h1 h2))
  have c2 := Lx.sign (x := 40) (by decide) (hw.join _ _ (stopW_cons (by decide)) (by simp) c1)
  have := Lx.lower (w := [102, 110]) (by decide) (by decide) (stopW_cons (by decide)) c2
  simpa [List.append_assoc] using this
 rw [if_neg k8, if_neg k8]
 by_cases k9 : k = 9
 ·rw [if_pos k9, if_pos k9]
  intro r kr h1 h2
  have := par_lx (k := kh) (hT.get 0) (40 :: _) _ (stopW_cons (by decide)) (Lx.sign (by decide) (hT.tail.join (41 :: r) _ (stopW_cons (by decide)) (Lx.sign (by decide) h2)))
  simpa [List.append_assoc] using this
 rw [if_neg k9, if_neg k9]
 by_cases k10 : k = 10
 ·rw [if_pos k10, if_pos k10]
  intro r kr h1 h2
  have := Lx.sign (x := 91) (by decide) (hT.join (93 :: r) _ (stopW_cons (by decide)) (Lx.sign (by decide) h2))
  simpa [List.append_assoc] using this
 rw [if_neg k10, if_neg k10]
 by_cases k11 : k = 11
 ·rw [if_pos k11, if_pos k11]
  intro r kr h1 h2
  have c1 := Lx.sp (Lx.lower (w := [101, 108, 115, 101]) (by decide) (by decide) (stopW_cons (x := 32) (by decide)) (Lx.sp (hT.get 2 r kr h1 h2)))
  have c2 := Lx.sp (Lx.lower (w := [116, 104, 101, 110]) (by decide) (by decide) (stopW_cons (x := 32) (by decide)) (Lx.sp (hT.get 1 _ _ (stopW_cons (by decide)) c1)))
  have := Lx.lower (w := [105, 102]) (by decide) (by decide) (stopW_cons (x := 32) (by decide)) (Lx.sp (hT.get 0 _ _ (stopW_cons (by decide)) c2))
  simpa [List.append_assoc] using this
 rw [if_neg k11, if_neg k11]
 have k12 : k = 12 := by omega
 obtain ⟨r1, r2⟩ := hk.r12 k12
 have hb : LxE (brL names vars T names.length) (brS names vars S names.length) := by
  rw [brL_eq, brS]
  refine LxE.map _ fun i hi => ?_
  intro r kr h2
  have hi' := List.mem_range.1 hi
  have h3 := getD_ok (fun s hs => risO_mem r1 hs) hi'
  have h4 := getD_ok (l := vars) (fun s hs => List.all_eq_true.1 r2 s hs) (i := i) (by omega)
  have c1 := hT.get (i + 1) (32 :: r) kr (stopW_cons (by decide)) (Lx.sp h2)
  have c2 := Lx.sign (x := 41) (by decide) (Lx.sp (Lx.arrow (Lx.sp c1)))
  have := tagN_lx h3 (stopW_cons (x := 40) (by decide)) (Lx.sign (by decide) (nameN_lx h4 (stopW_cons (by decide)) c2))
  simpa [brOne, brOneS, List.append_assoc] using this
 intro r kr h1 h2
 have c1 := hb _ _ (Lx.lower (w := [101, 110, 100]) (by decide) (by decide) h1 h2)
 have c2 := Lx.sp (Lx.lower (w := [111, 102]) (by decide) (by decide) (stopW_cons (x := 32) (by decide)) (Lx.sp c1))
 have := Lx.lower (w := [99, 97, 115, 101]) (by decide) (by decide) (stopW_cons (x := 32) (by decide)) (Lx.sp (hT.get 0 _ _ (stopW_cons (by decide)) c2))
 simpa [List.append_assoc] using this
mutual
theorem lxTm : ∀ t : Tm, allTm t = true → LxQ (textTm t) (skTm t)
 | .mk k N mod nm names vars types subs, h => by
  simp only [allTm, Bool.and_eq_true] at h
  simp only [textTm, skTm]
  exact lxK (shapeTm_parts h.1).1 _ (lxTms subs h.2)
theorem lxTms : ∀ l : List Tm, allTms l = true → LxW (textTms l) (skTms l)
 | [], _ => by simp only [textTms, skTms]; exact .nil
 | t :: ts, h => by
  simp only [allTms, Bool.and_eq_true] at h
  simp only [textTms, skTms]
  exact .cons (lxTm t h.1) (lxTms ts h.2)
end
theorem lx_term {t : Tm} (h : allTm t = true) : Lx (textTm t) (skTm t) := by
 have := lxTm t h [] [] stopW_nil Lx.nil
 simpa using this
end Go.Proofs.Mv.App
open Go Go.Proofs Go.Proofs.Mv.V
set_option maxRecDepth 10000
namespace Go.Proofs.Mv.App
section
variable {l : List Tok} {a c : Nat} {x : Sk} {r : List Sk}
theorem kF_sees {kd : Int} {ok : List UInt8 → Bool} (h : Sees l a (x :: r)) : kF kd ok l ⟨a, c, 0⟩ = (decide (x.1 = kd) && ok x.2) := by
 obtain ⟨t, h1, h2, h3⟩ := cur_sees (c := c) h; simp [kF, h1, h2, h3]
theorem isT_sees {kd : Int} {s : List UInt8} (h : Sees l a (x :: r)) : isT kd s l ⟨a, c, 0⟩ = (decide (x.1 = kd) && (x.2 == s)) := by unfold isT; exact kF_sees h
theorem cur_end (h : Sees l a []) : cur l ⟨a, c, 0⟩ = none := by
 have : l.drop a = [] := by simpa [Sees] using h
 have h2 : l[a]? = none := by rw [← List.head?_drop, this]; rfl
 simp [cur, h2]
theorem isT_end {kd : Int} {s : List UInt8} (h : Sees l a []) : isT kd s l ⟨a, c, 0⟩ = false := by simp [isT, kF, cur_end h]
theorem mustT_sees {kd : Int} {s : List UInt8} (h : Sees l a ((kd, s) :: r)) : mustT kd s l ⟨a, c, 0⟩ = ⟨a + 1, c, 0⟩ := by
 simp [mustT, isT_sees h, stepF]
theorem namedT_sees {kd : Int} {ok : List UInt8 → Bool} {s : List UInt8} (hs : ok s = true) (h : Sees l a ((kd, s) :: r)) : namedT kd ok l ⟨a, c, 0⟩ = (s, ⟨a + 1, c, 0⟩) := by
 simp [namedT, kF_sees h, hs, takeF, curT_sees h, stepF]
theorem freshT_sees {kd : Int} {ok : List UInt8 → Bool} {s : List UInt8} {ns : List (List UInt8)} (hs : ok s = true) (hn : s ∉ ns) (h : Sees l a ((kd, s) :: r)) : freshT kd ok ns l ⟨a, c, 0⟩ = (s, ⟨a + 1, c, 0⟩) := by
 have : twiceT kd ok ns l ⟨a, c, 0⟩ = false := by simp [twiceT, curT_sees h, hn]
 rw [freshT, this, if_neg (by simp)]
 exact namedT_sees hs h
theorem kindC_sees (h : Sees l a (x :: r)) : kindC l ⟨a, c, 0⟩ = x.1 := by
 obtain ⟨t, h1, h2, h3⟩ := cur_sees (c := c) h; simp [kindC, h1, h2]
theorem lt_sees (h : Sees l a (x :: r)) : a < l.length := by
 rcases Nat.lt_or_ge a l.length with h1 | h1
 ·exact h1
 ·unfold Sees at h; rw [List.drop_eq_nil_of_le h1] at h; cases h
theorem typZ_sees {t : Ty} (ht : mayT t = true) (h : Sees l a (skT t ++ r)) : typS l ⟨a, c, 0⟩ = (t, ⟨a + (skT t).length, c, 0⟩) := by
 simp only [mayT, Bool.and_eq_true, decide_eq_true_eq] at ht
 obtain ⟨⟨h1, h2⟩, h3⟩ := ht
 have h4 := typ_rt l 32 t h1 h3 a 0 r h (by omega)
 obtain ⟨x, q, e, _⟩ := skT_beg t h1
 have hle : a < l.length := by rw [e, List.cons_append] at h; exact lt_sees h
 have hat : atF l (a : Int) = (t, a + (skT t).length, none) := by
  unfold atF
  rw [if_neg (by omega)]
  rw [show ((a : Int).toNat) = a by omega, h4]
  simp
 simp [typS, hat]
end
def NF (r : List Sk) : Prop := ∀ x, r.head? = some x → x ≠ (4, [46]) ∧ x ≠ (4, [40]) ∧ x ≠ (4, [58])
theorem nf_cons {x : Sk} {r : List Sk} (h1 : x ≠ (4, [46])) (h2 : x ≠ (4, [40])) (h3 : x ≠ (4, [58])) : NF (x :: r) := fun y e => by cases e; exact ⟨h1, h2, h3⟩
theorem nf_nil : NF [] := fun x h => by cases h
theorem isT_nf {l : List Tok} {a c : Nat} {r : List Sk} (h : Sees l a r) (hn : NF r) : isT 4 [46] l ⟨a, c, 0⟩ = false ∧ isT 4 [40] l ⟨a, c, 0⟩ = false := by
 cases r with
 | nil => exact ⟨isT_end h, isT_end h⟩
 | cons x r =>
  obtain ⟨h1, h2, _⟩ := hn x rfl
  obtain ⟨k, s⟩ := x
  rw [isT_sees h, isT_sees h]
  constructor
  ·by_cases e : k = 4
   ·subst e
    have : s ≠ [46] := fun e => h1 (by rw [e])
    simp [this]
   ·simp [e]
  ·by_cases e : k = 4
   ·subst e
    have : s ≠ [40] := fun e => h2 (by rw [e])
    simp [this]
   ·simp [e]
def RdT (l : List Tok) (rec : PS → Option (Tm × PS)) (t : Tm) : Prop := ∀ a c r, Sees l a (skTm t ++ r) → NF r → rec ⟨a, c, 0⟩ = some (t, ⟨a + (skTm t).length, c, 0⟩)
section
variable {l : List Tok} {rec : PS → Option (Tm × PS)}
theorem sever_rt {en : List UInt8} (h1 : en ≠ [44]) (h2 : en ≠ [46]) (h3 : en ≠ [40]) (h4 : en ≠ [58]) : ∀ (ts : List Tm) (f : Nat) (acc : List Tm) (a c : Nat) (r : List Sk), ts ≠ [] → ts.length ≤ f → (∀ t ∈ ts, RdT l rec t) →
  Sees l a (joinK (4, [44]) (ts.map skTm) ++ ((4, en) :: r)) → severO l rec en f acc ⟨a, c, 0⟩ = some (acc ++ ts, ⟨a + (joinK (4, [44]) (ts.map skTm)).length + 1, c, 0⟩)
 | [], _, _, _, _, _, h, _, _, _ => absurd rfl h
 | t :: ts, 0, _, _, _, _, _, h, _, _ => by simp at h
 | t :: ts, f + 1, acc, a, c, r, _, hf, hr, hs => by
  by_cases e : ts = []
  ·subst e
   simp only [List.map_cons, List.map_nil, joinK] at hs ⊢
   have := hr t (by simp) a c _ hs (nf_cons (by simp [h2]) (by simp [h3]) (by simp [h4]))
   have s2 := sees_app hs
   unfold severO
   rw [this]
   simp only
   rw [if_pos (by rw [isT_sees s2]; simp)]
   simp [stepF]
  ·have e' : ts.map skTm ≠ [] := by simpa using e
   simp only [List.map_cons] at hs ⊢
   rw [joinK_cons e'] at hs ⊢
   rw [List.append_assoc, List.cons_append] at hs
   have := hr t (by simp) a c _ hs (nf_cons (by decide) (by decide) (by decide))
   have s2 := sees_app hs
   have s3 := (sees_get s2).2
   have ih := sever_rt h1 h2 h3 h4 ts f (acc ++ [t]) (a + (skTm t).length + 1) c r e (by simp at hf; omega) (fun u hu => hr u (by simp [hu])) s3
   unfold severO
   rw [this]
   simp only
   rw [if_neg (by rw [isT_sees s2]; simp [Ne.symm h1]), mustT_sees s2, if_pos rfl, ih]
   simp only [List.append_assoc, List.cons_append, List.nil_append, List.length_append, List.length_cons, Option.some.injEq, Prod.mk.injEq, PS.mk.injEq, and_true, true_and]
   omega
def bndS (b : Bnd) : List Sk := (1, b.1) :: (4, [61]) :: skTm b.2
theorem flds_rt : ∀ (bs : List Bnd) (f : Nat) (acc : List Bnd) (a c : Nat) (r : List Sk), bs ≠ [] → bs.length ≤ f → (∀ b ∈ bs, nameN b.1 = true ∧ RdT l rec b.2) → ((acc ++ bs).map (·.1)).Nodup →
  Sees l a (joinK (4, [44]) (bs.map bndS) ++ ((4, [125]) :: r)) → fldsO l rec f acc ⟨a, c, 0⟩ = some (acc ++ bs, ⟨a + (joinK (4, [44]) (bs.map bndS)).length + 1, c, 0⟩)
 | [], _, _, _, _, _, h, _, _, _, _ => absurd rfl h
 | b :: bs, 0, _, _, _, _, _, h, _, _, _ => by simp at h
 | b :: bs, f + 1, acc, a, c, r, _, hf, hr, hn, hs => by
  have hb := hr b (by simp)
  have hni : b.1 ∉ acc.map (·.1) := by
   rw [List.map_append, List.map_cons, List.nodup_append] at hn
   exact fun h => hn.2.2 _ h _ (by simp) rfl
  by_cases e : bs = []
  ·subst e
   simp only [List.map_cons, List.map_nil, joinK] at hs ⊢
   have hs' : Sees l a ((1, b.1) :: (4, [61]) :: (skTm b.2 ++ ((4, [125]) :: r))) := by simpa [bndS] using hs
   have s1 := (sees_get hs').2
   have s2 := (sees_get s1).2
   have := hb.2 (a + 1 + 1) c _ s2 (nf_cons (by decide) (by decide) (by decide))
   have s3 := sees_app s2
   unfold fldsO
   rw [freshT_sees hb.1 hni hs']
   simp only
   rw [mustT_sees s1, this]
   simp only
   rw [if_pos (by rw [isT_sees s3]; simp)]
   simp only [stepF, bndS, List.length_cons, Option.some.injEq, Prod.mk.injEq, PS.mk.injEq, and_true, true_and]
   omega
  ·have e' : bs.map bndS ≠ [] := by simpa using e
   simp only [List.map_cons] at hs ⊢
   rw [joinK_cons e'] at hs ⊢
   have hs' : Sees l a ((1, b.1) :: (4, [61]) :: (skTm b.2 ++ ((4, [44]) :: (joinK (4, [44]) (bs.map bndS) ++ ((4, [125]) :: r))))) := by simpa [bndS] using hs
   have s1 := (sees_get hs').2
   have s2 := (sees_get s1).2
   have := hb.2 (a + 1 + 1) c _ s2 (nf_cons (by decide) (by decide) (by decide))
   have s3 := sees_app s2
   have s4 := (sees_get s3).2
   have ih := flds_rt bs f (acc ++ [b]) (a + 1 + 1 + (skTm b.2).length + 1) c r e (by simp at hf; omega) (fun u hu => hr u (by simp [hu])) (by simpa using hn) s4
   unfold fldsO
   rw [freshT_sees hb.1 hni hs']
   simp only
   rw [mustT_sees s1, this]
   simp only
   rw [if_neg (by rw [isT_sees s3]; simp), mustT_sees s3, if_pos rfl, ih]
   simp only [bndS, List.append_assoc, List.cons_append, List.nil_append, List.length_append, List.length_cons, Option.some.injEq, Prod.mk.injEq, PS.mk.injEq, and_true, true_and]
   omega
def parS (b : List UInt8 × Ty) : List Sk := (1, b.1) :: (4, [58]) :: skT b.2
theorem pars_rt : ∀ (bs : List (List UInt8 × Ty)) (f : Nat) (ns : List (List UInt8)) (ys : List Ty) (a c : Nat) (r : List Sk), bs ≠ [] → bs.length ≤ f → (∀ b ∈ bs, nameN b.1 = true ∧ mayT b.2 = true) → (ns ++ bs.map (·.1)).Nodup →
  Sees l a (joinK (4, [44]) (bs.map parS) ++ ((4, [41]) :: r)) → parsO l f ns ys ⟨a, c, 0⟩ = some (ns ++ bs.map (·.1), ys ++ bs.map (·.2), ⟨a + (joinK (4, [44]) (bs.map parS)).length + 1, c, 0⟩)
 | [], _, _, _, _, _, _, h, _, _, _, _ => absurd rfl h
 | b :: bs, 0, _, _, _, _, _, _, h, _, _, _ => by simp at h
 | b :: bs, f + 1, ns, ys, a, c, r, _, hf, hr, hn, hs => by
  have hb := hr b (by simp)
  have hni : b.1 ∉ ns := by
   rw [List.map_cons, List.nodup_append] at hn
   exact fun h => hn.2.2 _ h _ (by simp) rfl
  by_cases e : bs = []
  ·subst e
   simp only [List.map_cons, List.map_nil, joinK] at hs ⊢
   have hs' : Sees l a ((1, b.1) :: (4, [58]) :: (skT b.2 ++ ((4, [41]) :: r))) := by simpa [parS] using hs
   have s1 := (sees_get hs').2
   have s2 := (sees_get s1).2
   have s3 := sees_app s2
   unfold parsO
   simp only
   rw [freshT_sees hb.1 hni hs']
   simp only
   rw [mustT_sees s1, typZ_sees hb.2 s2]
   simp only
   rw [if_pos (by rw [isT_sees s3]; simp)]
   simp only [stepF, parS, List.length_cons, Option.some.injEq, Prod.mk.injEq, PS.mk.injEq, and_true, true_and]
   omega
  ·have e' : bs.map parS ≠ [] := by simpa using e
   simp only [List.map_cons] at hs ⊢
   rw [joinK_cons e'] at hs ⊢
   have hs' : Sees l a ((1, b.1) :: (4, [58]) :: (skT b.2 ++ ((4, [44]) :: (joinK (4, [44]) (bs.map parS) ++ ((4, [41]) :: r))))) := by simpa [parS] using hs
   have s1 := (sees_get hs').2
   have s2 := (sees_get s1).2
   have s3 := sees_app s2
   have s4 := (sees_get s3).2
   have ih := pars_rt bs f (ns ++ [b.1]) (ys ++ [b.2]) (a + 1 + 1 + (skT b.2).length + 1) c r e (by simp at hf; omega) (fun u hu => hr u (by simp [hu])) (by simpa using hn) s4
   unfold parsO
   simp only
   rw [freshT_sees hb.1 hni hs']
   simp only
   rw [mustT_sees s1, typZ_sees hb.2 s2]
   simp only
   rw [if_neg (by rw [isT_sees s3]; simp), mustT_sees s3, if_pos rfl, ih]
   simp only [parS, List.append_assoc, List.cons_append, List.nil_append, List.length_append, List.length_cons, Option.some.injEq, Prod.mk.injEq, PS.mk.injEq, and_true, true_and]
   omega
def brcS (b : Brc) : List Sk := (2, b.1) :: (4, [40]) :: (1, b.2.1) :: (4, [41]) :: (4, [45, 62]) :: skTm b.2.2
theorem brs_rt : ∀ (bs : List Brc) (f : Nat) (acc : List Brc) (a c : Nat) (r : List Sk), bs ≠ [] → bs.length ≤ f → (∀ b ∈ bs, tagN b.1 = true ∧ nameN b.2.1 = true ∧ RdT l rec b.2.2) → ((acc ++ bs).map (·.1)).Nodup →
  Sees l a ((bs.map brcS).flatten ++ ((1, wEnd) :: r)) → brsO l rec f acc ⟨a, c, 0⟩ = some (acc ++ bs, ⟨a + (bs.map brcS).flatten.length + 1, c, 0⟩)
 | [], _, _, _, _, _, h, _, _, _, _ => absurd rfl h
 | b :: bs, 0, _, _, _, _, _, h, _, _, _ => by simp at h
 | b :: bs, f + 1, acc, a, c, r, _, hf, hr, hn, hs => by
  obtain ⟨hb1, hb2, hb3⟩ := hr b (by simp)
  have hni : b.1 ∉ acc.map (·.1) := by
   rw [List.map_append, List.map_cons, List.nodup_append] at hn
   exact fun h => hn.2.2 _ h _ (by simp) rfl
  have hs' : Sees l a ((2, b.1) :: (4, [40]) :: (1, b.2.1) :: (4, [41]) :: (4, [45, 62]) :: (skTm b.2.2 ++ ((bs.map brcS).flatten ++ ((1, wEnd) :: r)))) := by simpa [brcS] using hs
  have s1 := (sees_get hs').2
  have s2 := (sees_get s1).2
  have s3 := (sees_get s2).2
  have s4 := (sees_get s3).2
  have s5 := (sees_get s4).2
  have hbr : brhO l (acc.map (·.1)) ⟨a, c, 0⟩ = (b.1, b.2.1, ⟨a + 1 + 1 + 1 + 1 + 1, c, 0⟩) := by
   unfold brhO
   simp only
   rw [freshT_sees hb1 hni hs']
   simp only
   rw [mustT_sees s1, namedT_sees hb2 s2]
   simp only
   rw [mustT_sees s3, mustT_sees s4]
  by_cases e : bs = []
  ·subst e
   simp only [List.map_nil, List.flatten_nil, List.nil_append] at s5
   have := hb3 _ c _ s5 (nf_cons (by decide) (by decide) (by decide))
   have s6 := sees_app s5
   unfold brsO
   rw [hbr]
   simp only
   rw [this]
   simp only
   rw [if_pos trivial, if_pos (by rw [isT_sees s6]; simp)]
   simp only [stepF, brcS, List.map_cons, List.map_nil, List.flatten_cons, List.flatten_nil, List.append_nil, List.length_cons, Option.some.injEq, Prod.mk.injEq, PS.mk.injEq, and_true, true_and]
   omega
  ·obtain ⟨b2, bs2, rfl⟩ := List.exists_cons_of_ne_nil e
   have hnf : NF (((b2 :: bs2).map brcS).flatten ++ ((1, wEnd) :: r)) := by
    simp only [List.map_cons, List.flatten_cons, brcS, List.cons_append]
    exact nf_cons (by simp) (by simp) (by simp)
   have := hb3 _ c _ s5 hnf
   have s6 := sees_app s5
   have ih := brs_rt (b2 :: bs2) f (acc ++ [b]) _ c r e (by simp at hf ⊢; omega) (fun u hu => hr u (by simp at hu ⊢; exact .inr hu)) (by simpa using hn) s6
   have s7 : Sees l (a + 1 + 1 + 1 + 1 + 1 + (skTm b.2.2).length) ((2, b2.1) :: (brcS b2).tail ++ ((bs2.map brcS).flatten ++ ((1, wEnd) :: r))) := by simpa [brcS] using s6
   unfold brsO
   rw [hbr]
   simp only
   rw [this]
   simp only
   rw [if_pos trivial, if_neg (by rw [isT_sees s7]; simp), ih]
   simp only [List.map_cons, List.flatten_cons, List.append_assoc, List.cons_append, List.nil_append, List.length_append, List.length_cons, Option.some.injEq, Prod.mk.injEq, PS.mk.injEq, and_true, true_and]
   simp only [brcS, List.length_cons]
   omega
end
/-! Sorted as they stand. -/
theorem ris_pairwise {ok : List UInt8 → Bool} {l : List (List UInt8)} (h : risO ok l = true) : l.Pairwise fun a b => ltB a b = true := by
 rw [List.pairwise_iff_getElem]
 intro i j hi hj hij
 have := ris_lt h (j - i - 1) i (by omega)
 have e : i + (j - i - 1) + 1 = j := by omega
 simpa only [e] using this
theorem ris_nodup {ok : List UInt8 → Bool} {l : List (List UInt8)} (h : risO ok l = true) : l.Nodup := (ris_pairwise h).imp fun h e => by
 subst e
 have := ltB_asymm h
 rw [h] at this; cases this
theorem sortB_ris : ∀ {bs : List Bnd}, (bs.map (·.1)).Pairwise (fun a b => ltB a b = true) → sortB bs = bs
 | [], _ => rfl
 | x :: r, h => by
  simp only [List.map_cons, List.pairwise_cons] at h
  rw [sortB, sortB_ris h.2]
  cases r with
  | nil => rfl
  | cons y r => rw [insB, if_pos (h.1 y.1 (by simp))]
theorem sortR_ris : ∀ {bs : List Brc}, (bs.map (·.1)).Pairwise (fun a b => ltB a b = true) → sortR bs = bs
 | [], _ => rfl
 | x :: r, h => by
  simp only [List.map_cons, List.pairwise_cons] at h
  rw [sortR, sortR_ris h.2]
  cases r with
  | nil => rfl
  | cons y r => rw [insR, if_pos (h.1 y.1 (by simp))]
theorem dist_nodup {l : List (List UInt8)} (h : distN l = true) : l.Nodup := by
 rw [List.nodup_iff_pairwise_ne, List.pairwise_iff_getElem]
 intro i j hi hj hij e
 refine distN_step h hj ?_
 rw [← e]
 exact List.mem_take_iff_getElem.2 ⟨i, by omega, rfl⟩
theorem makS_zip {names : List (List UInt8)} {subs : List Tm} (h : names.length = subs.length) : makS names (subs.map skTm) = (names.zip subs).map bndS := by
 unfold makS
 refine List.ext_getElem (by simp; omega) fun i h1 h2 => ?_
 simp only [List.length_map, List.length_range] at h1
 simp [bndS, h1, show i < subs.length by omega]
theorem fnS_zip {names : List (List UInt8)} {types : List Ty} (h : names.length = types.length) : fnS names (types.map skT) = (names.zip types).map parS := by
 unfold fnS
 refine List.ext_getElem (by simp; omega) fun i h1 h2 => ?_
 simp only [List.length_map, List.length_range] at h1
 simp [parS, h1, show i < types.length by omega]
theorem brS_zip {names vars : List (List UInt8)} {t : Tm} {subs : List Tm} (h : names.length = subs.length) (h' : vars.length = names.length) : brS names vars (skTm t :: subs.map skTm) names.length = ((names.zip (vars.zip subs)).map brcS).flatten := by
 unfold brS
 congr 1
 refine List.ext_getElem (by simp; omega) fun i h1 h2 => ?_
 simp only [List.length_map, List.length_range] at h1
 simp [brcS, brOneS, h1, show i < subs.length by omega, show i < vars.length by omega]
theorem joinK_mem {sep : Sk} {k : List Sk} : ∀ {ks : List (List Sk)}, k ∈ ks → k.length ≤ (joinK sep ks).length
 | [x], h => by simp at h; subst h; exact Nat.le_refl _
 | x :: y :: r, h => by
  rw [joinK_cons (by simp)]
  simp only [List.length_append, List.length_cons]
  rcases List.mem_cons.1 h with rfl | h
  ·omega
  ·have := joinK_mem (sep := sep) h; omega
theorem joinK_len {sep : Sk} : ∀ {ks : List (List Sk)}, (∀ k ∈ ks, 1 ≤ k.length) → ks.length ≤ (joinK sep ks).length
 | [], _ => by simp
 | [x], h => by have := h x (by simp); simpa [joinK] using this
 | x :: y :: r, h => by
  have h1 := h x (by simp)
  have ih := joinK_len (sep := sep) (ks := y :: r) (fun k hk => h k (by simp at hk ⊢; exact .inr hk))
  rw [joinK_cons (by simp)]
  simp only [List.length_append, List.length_cons] at ih ⊢
  omega
theorem flatS_mem {k : List Sk} : ∀ {ks : List (List Sk)}, k ∈ ks → k.length ≤ ks.flatten.length
 | x :: r, h => by
  simp only [List.flatten_cons, List.length_append]
  rcases List.mem_cons.1 h with rfl | h
  ·omega
  ·have := flatS_mem h; omega
theorem flatS_len : ∀ {ks : List (List Sk)}, (∀ k ∈ ks, 1 ≤ k.length) → ks.length ≤ ks.flatten.length
 | [], _ => by simp
 | x :: r, h => by
  have h1 := h x (by simp)
  have ih := flatS_len (ks := r) (fun k hk => h k (by simp [hk]))
  simp only [List.flatten_cons, List.length_append, List.length_cons] at ih ⊢
  omega
end Go.Proofs.Mv.App
open Go Go.Proofs Go.Proofs.Mv.V
set_option maxRecDepth 10000
namespace Go.Proofs.Mv.App
theorem nameN_words {s : List UInt8} (h : nameN s = true) : s ≠ wFn ∧ s ≠ wIf ∧ s ≠ wCase := by
 simp only [nameN, Bool.and_eq_true, Bool.not_eq_true', decide_eq_false_iff_not] at h
 refine ⟨fun e => h.2 ?_, fun e => h.2 ?_, fun e => h.2 ?_⟩ <;> subst e <;> decide
structure BegT (dg : List UInt8 → Int) (t : Tm) (s : List Sk) (x : Sk) (r : List Sk) : Prop where
 eq : s = x :: r
 bg : begB dg x.1 x.2 = true
 nw : (s = skTm t → kindTmK t ≠ 8 ∧ kindTmK t ≠ 11 ∧ kindTmK t ≠ 12) → ¬ (x.1 = 1 ∧ (x.2 = wFn ∨ x.2 = wIf ∨ x.2 = wCase))
theorem kindH_cons (t : Tm) (l : List Tm) : kindH (t :: l) = kindTmK t := by cases t; rfl
theorem parKs_eq {k : Int} {s : List Sk} (h : k ≠ 8 ∧ k ≠ 11 ∧ k ≠ 12) : parKs k s = s := by
 unfold parKs; rw [if_neg (by omega)]
theorem parKs_br {k : Int} {s : List Sk} (h : ¬ (k ≠ 8 ∧ k ≠ 11 ∧ k ≠ 12)) : parKs k s = (4, [40]) :: (s ++ [(4, [41])]) := by
 unfold parKs; rw [if_pos (by omega)]
def HdK (k : Int) : Prop := k ≠ 8 ∧ k ≠ 11 ∧ k ≠ 12
def BegOk (dg : List UInt8 → Int) (k : Int) (s : List Sk) : Prop := ∃ x r, s = x :: r ∧ begB dg x.1 x.2 = true ∧ (HdK k → ¬ (x.1 = 1 ∧ (x.2 = wFn ∨ x.2 = wIf ∨ x.2 = wCase)))
theorem beg_par {dg : List UInt8 → Int} {k : Int} {s : List Sk} (h : BegOk dg k s) (k' : Int) (r : List Sk) : BegOk dg k' (parKs k s ++ r) := by
 by_cases hk : k ≠ 8 ∧ k ≠ 11 ∧ k ≠ 12
 ·rw [parKs_eq hk]
  obtain ⟨x, q, rfl, h2, h3⟩ := h
  exact ⟨x, q ++ r, rfl, h2, fun _ => h3 hk⟩
 ·rw [parKs_br hk]
  exact ⟨(4, [40]), _, rfl, rfl, fun _ h => by simp at h⟩
theorem beg_tm {dg : List UInt8 → Int} (hdg : ∀ n, n ≤ 999999999 → dg (digits n) = (n : Int)) : ∀ (n : Nat) (t : Tm), manyTm t ≤ n → allTm t = true → BegOk dg (kindTmK t) (skTm t)
 | 0, t, h, _ => by have := manyTm_pos t; omega
 | n + 1, .mk k N mod nm names vars types subs, hn, ha => by
  simp only [allTm, Bool.and_eq_true] at ha
  obtain ⟨hk, hs⟩ := shapeTm_parts ha.1
  have hc := hk.cn
  unfold cntK at hc
  simp only [manyTm] at hn
  simp only [skTm, kindTmK]
  have hd : ∀ r, k = 6 ∨ k = 9 → BegOk dg k (parKs (kindH subs) ((skTms subs).getD 0 []) ++ r) := fun r hkk => by
   cases subs with
   | nil => simp at hc; omega
   | cons h ts =>
    rw [kindH_cons]
    simp only [skTms, List.getD_cons_zero]
    simp only [manyTms] at hn
    simp only [allTms, Bool.and_eq_true] at ha
    exact beg_par (beg_tm hdg n h (by omega) ha.2.1) k r
  unfold skK
  by_cases k1 : k = 1
  ·rw [if_pos k1]
   refine ⟨_, _, rfl, ?_, fun _ h => by simp at h⟩
   have := hdg N.toNat (by have := hk.n1 k1; omega)
   simp only [begB, if_true, this, decide_eq_true_eq]; omega
  rw [if_neg k1]
  by_cases k2 : k = 2
  ·rw [if_pos k2]
   refine ⟨_, _, rfl, ?_, fun _ h => by simp at h⟩
   by_cases e : N = 1
   ·rw [if_pos e]; rfl
   ·rw [if_neg e]; rfl
  rw [if_neg k2]
  by_cases k3 : k = 3
  ·rw [if_pos k3]
   have h3 := hk.nm3 (.inl k3)
   have hw := nameN_words h3
   exact ⟨_, _, rfl, by simp [begB, h3], fun _ h => by rcases h.2 with e | e | e <;> simp_all⟩
  rw [if_neg k3]
  by_cases k4 : k = 4
  ·rw [if_pos k4]
   have h3 := hk.md4 k4
   have hw := nameN_words h3
   exact ⟨_, _, rfl, by simp [begB, h3], fun _ h => by rcases h.2 with e | e | e <;> simp_all⟩
  rw [if_neg k4]
  by_cases k5 : k = 5
  ·rw [if_pos k5]; exact ⟨_, _, rfl, rfl, fun _ h => by simp at h⟩
  rw [if_neg k5]
  by_cases k6 : k = 6
  ·rw [if_pos k6]; exact hd _ (.inl k6)
  rw [if_neg k6]
  by_cases k7 : k = 7
  ·rw [if_pos k7]
   exact ⟨_, _, rfl, by simp [begB, hk.tg7 k7], fun _ h => by simp at h⟩
  rw [if_neg k7]
  by_cases k8 : k = 8
  ·rw [if_pos k8]; exact ⟨_, _, rfl, by simp [begB, wFn], fun h => by unfold HdK at h; omega⟩
  rw [if_neg k8]
  by_cases k9 : k = 9
  ·rw [if_pos k9]; exact hd _ (.inr k9)
  rw [if_neg k9]
  by_cases k10 : k = 10
  ·rw [if_pos k10]; exact ⟨_, _, rfl, rfl, fun _ h => by simp at h⟩
  rw [if_neg k10]
  by_cases k11 : k = 11
  ·rw [if_pos k11]; exact ⟨_, _, rfl, by simp [begB, wIf], fun h => by unfold HdK at h; omega⟩
  rw [if_neg k11]
  exact ⟨_, _, rfl, by simp [begB, wCase], fun h => by unfold HdK at h; omega⟩
def NC (r : List Sk) : Prop := r.head? ≠ some (4, [58])
theorem nf_nc {r : List Sk} (h : NF r) : NC r := fun e => (h _ e).2.2 rfl
section
variable (l : List Tok) (dg : List UInt8 → Int)
def RdA (t : Tm) : Prop := ∀ (f dp a c : Nat) (r : List Sk), (skTm t).length + 2 ≤ f → dp + 2 * deepTm t ≤ 2000 → Sees l a (skTm t ++ r) → NF r → termX l dg f dp ⟨a, c, 0⟩ = some (t, ⟨a + (skTm t).length, c, 0⟩)
def RdB (s : List Sk) (t : Tm) : Prop := ∀ (f dp a c : Nat) (r : List Sk), s.length + 1 ≤ f → dp + 1 + 2 * deepTm t ≤ 2001 → Sees l a (s ++ r) → NC r → ∃ t0 q0, priO l dg (termX l dg f (dp + 1)) f ⟨a, c, 0⟩ = some (t0, q0) ∧
 ∀ F, s.length ≤ F → ∃ F', F ≤ F' + s.length ∧ behO l (termX l dg f (dp + 1)) f F t0 q0 = behO l (termX l dg f (dp + 1)) f F' t ⟨a + s.length, c, 0⟩
end
section
variable {l : List Tok} {dg : List UInt8 → Int}
theorem pri_kind {rec : PS → Option (Tm × PS)} {f a c : Nat} {x : Sk} {r : List Sk} (h : Sees l a (x :: r)) : priO l dg rec f ⟨a, c, 0⟩ = (if x.1 = 3 then some (.mk 1 (dg x.2) [] [] [] [] [] [], ⟨a + 1, c, 0⟩)
 else if x.1 = 1 then (if isT 4 [58] l ⟨a + 1, c, 0⟩ then some (.mk 4 0 x.2 (namedT 1 nameN l (stepF ⟨a + 1, c, 0⟩)).1 [] [] [] [], (namedT 1 nameN l (stepF ⟨a + 1, c, 0⟩)).2) else some (.mk 3 0 [] x.2 [] [] [] [], ⟨a + 1, c, 0⟩))
 else if x.1 = 2 then (if x.2 = wTrue then some (.mk 2 1 [] [] [] [] [] [], ⟨a + 1, c, 0⟩) else if x.2 = wFalse then some (.mk 2 0 [] [] [] [] [] [], ⟨a + 1, c, 0⟩) else match rec (mustT 4 [40] l ⟨a + 1, c, 0⟩) with
  | none => none
  | some (t, q) => some (.mk 7 0 [] x.2 [] [] [] [t], mustT 4 [41] l q))
 else if x.2 = [123] then fieldsO l rec f ⟨a + 1, c, 0⟩
 else if x.2 = [91] then (sevO l rec f [93] false ⟨a + 1, c, 0⟩).map fun r => (.mk 10 0 [] [] [] [] [] r.1, r.2)
 else match rec ⟨a + 1, c, 0⟩ with
  | none => none
  | some (t, q) => some (t, mustT 4 [41] l q)) := by
 unfold priO
 simp only [kindC_sees h, curT_sees h, stepF]
 rfl
theorem rdA_T {t : Tm} {f dp : Nat} (h : RdA l dg t) (hf : (skTm t).length + 2 ≤ f) (hd : dp + 2 * deepTm t ≤ 2000) : RdT l (termX l dg f dp) t := fun a c r h1 h2 => h f dp a c r hf hd h1 h2
theorem rdB_of {t : Tm} (hA : RdA l dg t) (hB : HdK (kindTmK t) → RdB l dg (skTm t) t) (f dp a c : Nat) (r : List Sk) (hf : (parKs (kindTmK t) (skTm t)).length + 1 ≤ f) (hd : dp + 1 + 2 * deepTm t ≤ 2000) (hs : Sees l a (parKs (kindTmK t) (skTm t) ++ r)) (hnc : NC r) : ∃ t0 q0, priO l dg (termX l dg f (dp + 1)) f ⟨a, c, 0⟩ = some (t0, q0) ∧
  ∀ F, (parKs (kindTmK t) (skTm t)).length ≤ F → ∃ F', F ≤ F' + (parKs (kindTmK t) (skTm t)).length ∧ behO l (termX l dg f (dp + 1)) f F t0 q0 = behO l (termX l dg f (dp + 1)) f F' t ⟨a + (parKs (kindTmK t) (skTm t)).length, c, 0⟩ := by
 by_cases hk : kindTmK t ≠ 8 ∧ kindTmK t ≠ 11 ∧ kindTmK t ≠ 12
 ·rw [parKs_eq hk] at hf hs ⊢
  exact hB hk f dp a c r hf (by omega) hs hnc
 ·rw [parKs_br hk] at hf hs ⊢
  simp only [List.length_cons, List.length_append, List.length_nil] at hf ⊢
  have hs' : Sees l a ((4, [40]) :: (skTm t ++ ((4, [41]) :: r))) := by simpa using hs
  have s1 := (sees_get hs').2
  have h1 := hA f (dp + 1) (a + 1) c _ (by omega) hd s1 (nf_cons (by decide) (by decide) (by decide))
  have s2 := sees_app s1
  refine ⟨t, ⟨a + ((skTm t).length + (0 + 1) + 1), c, 0⟩, ?_, fun F _ => ⟨F, by omega, rfl⟩⟩
  rw [pri_kind hs']
  rw [if_neg (by simp), if_neg (by simp), if_neg (by simp), if_neg (by simp), if_neg (by simp), h1]
  simp only
  rw [mustT_sees s2]
  simp only [Option.some.injEq, Prod.mk.injEq, PS.mk.injEq, and_true, true_and]
  omega
theorem beh_dot {rec : PS → Option (Tm × PS)} {g F a c : Nat} {t : Tm} {nm : List UInt8} {r : List Sk} (hn : nameN nm = true) (h : Sees l a ((4, [46]) :: (1, nm) :: r)) : behO l rec g (F + 1) t ⟨a, c, 0⟩ = behO l rec g F (.mk 6 0 [] nm [] [] [] [t]) ⟨a + 1 + 1, c, 0⟩ := by
 have s1 := (sees_get h).2
 conv => lhs; unfold behO
 rw [if_pos rfl, if_pos (by rw [isT_sees h]; simp)]
 simp only [stepF]
 rw [namedT_sees hn s1]
theorem beh_call {rec : PS → Option (Tm × PS)} {g F a c : Nat} {t : Tm} {ts : List Tm} {q : PS} {r : List Sk} (h : Sees l a ((4, [40]) :: r)) (hs : sevO l rec g [41] true ⟨a + 1, c, 0⟩ = some (ts, q)) : behO l rec g (F + 1) t ⟨a, c, 0⟩ = behO l rec g F (.mk 9 0 [] [] [] [] [] (t :: ts)) q := by
 conv => lhs; unfold behO
 rw [if_pos rfl, if_neg (by rw [isT_sees h]; simp), if_pos (by rw [isT_sees h]; simp)]
 simp only [stepF]
 rw [hs]
theorem beh_stop {rec : PS → Option (Tm × PS)} {g F a c : Nat} {t : Tm} {r : List Sk} (h : Sees l a r) (hn : NF r) : behO l rec g (F + 1) t ⟨a, c, 0⟩ = some (t, ⟨a, c, 0⟩) := by
 obtain ⟨h1, h2⟩ := isT_nf (c := c) h hn
 unfold behO
 rw [if_pos rfl, if_neg (by simp [h1]), if_neg (by simp [h2])]
theorem sk_pos {dg : List UInt8 → Int} {k : Int} {s : List Sk} (h : BegOk dg k s) : 1 ≤ s.length := by
 obtain ⟨x, r, rfl, _⟩ := h; simp
theorem sev_rt {rec : PS → Option (Tm × PS)} {en : List UInt8} {non : Bool} (h1 : en ≠ [44]) (h2 : en ≠ [46]) (h3 : en ≠ [40]) (h4 : en ≠ [58]) (hb : ∀ y, begB dg 4 y = true → y ≠ en) {ts : List Tm} {f a c : Nat} {r : List Sk} (hne : non = false → ts ≠ []) (hbeg : ∀ t ∈ ts, BegOk dg (kindTmK t) (skTm t)) (hf : (joinK (4, [44]) (ts.map skTm)).length ≤ f) (hr : ∀ t ∈ ts, RdT l rec t)
  (hs : Sees l a (joinK (4, [44]) (ts.map skTm) ++ ((4, en) :: r))) : sevO l rec f en non ⟨a, c, 0⟩ = some (ts, ⟨a + (joinK (4, [44]) (ts.map skTm)).length + 1, c, 0⟩) := by
 unfold sevO
 rw [if_pos rfl]
 by_cases e : ts = []
 ·subst e
  simp only [List.map_nil, joinK, List.nil_append] at hs ⊢
  have hn : non = true := by cases non <;> simp_all
  rw [if_pos (by rw [isT_sees hs]; simp [hn])]
  simp [stepF]
 ·have hlen : ts.length ≤ f := by
   have := joinK_len (sep := (4, [44])) (ks := ts.map skTm) (fun k hk => by obtain ⟨t, ht, rfl⟩ := List.mem_map.1 hk; exact sk_pos (hbeg t ht))
   simp only [List.length_map] at this
   omega
  have hnot : isT 4 en l ⟨a, c, 0⟩ = false := by
   obtain ⟨t, ts, rfl⟩ := List.exists_cons_of_ne_nil e
   obtain ⟨x, q, e1, e2, e3⟩ := hbeg t (by simp)
   have : ∃ q', joinK (4, [44]) ((t :: ts).map skTm) ++ ((4, en) :: r) = x :: q' := by
    simp only [List.map_cons]
    by_cases e : ts.map skTm = []
    ·rw [e]; simp only [joinK, e1]; exact ⟨_, rfl⟩
    ·rw [joinK_cons e, e1]; exact ⟨_, rfl⟩
   obtain ⟨q', hq⟩ := this
   rw [hq] at hs
   rw [isT_sees hs]
   by_cases h4 : x.1 = 4
   ·rw [h4] at e2
    have := hb _ e2
    simp [this]
   ·simp [h4]
  rw [hnot, if_neg (by simp)]
  have := sever_rt (rec := rec) h1 h2 h3 h4 ts f [] a c r e hlen hr hs
  simpa using this
theorem beg4 {dg : List UInt8 → Int} {y : List UInt8} (h : begB dg 4 y = true) : y = [123] ∨ y = [91] ∨ y = [40] := by
 simp [begB] at h
 rcases h with (h | h) | h
 ·exact .inl h
 ·exact .inr (.inl h)
 ·exact .inr (.inr h)
end
end Go.Proofs.Mv.App
