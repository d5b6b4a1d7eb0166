/- A part of the proofs: machine, contracts, laws. No condition of its own. -/
import Derived.Test.YtndinledjelleaaGreatDoorP06
import Derived.Test.YtndinledjelleaaGreatDoorP08
import Derived.Test.YtndinledjelleaaGreatDoorP07
import Derived.WalkKit
import Derived.LoopTactic
import Derived.Handy
import Derived.Test.YtndinledjelleaaGreatDoorMvFl
set_option linter.unusedSimpArgs false
set_option linter.unusedVariables false
set_option linter.unusedSectionVars false
open Go Go.Proofs Go.Proofs.Mv.V
set_option maxRecDepth 10000
namespace Go.Proofs.Mv.App
structure Lt where
 name : List UInt8
 term : Tm
structure Pg where
 imps : List Imp
 lets : List Lt
def ltD (l : Lt) : List D := S l.name :: tmD l.term
def pgD (p : Pg) : List D := [.sl 4 (p.imps.map impD), .sl 9 (p.lets.map ltD)]
@[simp] theorem ltD_len (l : Lt) : (ltD l).length = 9 := by simp [ltD]
theorem pur_lt (l : Lt) : ∀ d ∈ ltD l, Pur d := by
 intro d hd
 simp only [ltD, List.mem_cons] at hd
 rcases hd with rfl | hd
 ·exact pur_S _
 ·exact pur_tm _ d hd
theorem pur_pg (p : Pg) : ∀ d ∈ pgD p, Pur d := by
 intro d hd
 simp only [pgD, List.mem_cons, List.not_mem_nil, or_false] at hd
 rcases hd with rfl | rfl
 ·exact Pur.sl pur_imps
 ·exact Pur.sl fun e he d hd => by obtain ⟨i, _, rfl⟩ := List.mem_map.1 he; exact pur_lt i d hd
structure LtW (l : Lt) : Prop where
 h1 : l.name.length ≤ 9223372036854775807
 h2 : TmW l.term
structure PgW (p : Pg) : Prop where
 h1 : p.imps.length ≤ 9223372036854775807
 h2 : p.lets.length ≤ 9223372036854775807
 h3 : ∀ i ∈ p.imps, ImpWU i
 h4 : ∀ l ∈ p.lets, LtW l
def ltOk (l : Lt) : Bool := nameN l.name && mayTm l.term
def mayP (p : Pg) : Bool := decide (p.imps.length ≤ 20) && decide (p.lets.length ≤ 40) && p.imps.all impOkU && p.lets.all ltOk
def fewLt (l : Lt) : Bool := fewTm3 l.term && decide (l.name.length ≤ 500)
def fewP (p : Pg) : Bool := decide (p.imps.length ≤ 100) && decide (p.lets.length ≤ 60) && p.lets.all fewLt
def ltTx (l : Lt) : List UInt8 := [108, 101, 116, 32] ++ l.name ++ [32, 61, 32] ++ textTm l.term ++ [10]
def impsP (p : Pg) (i : Nat) : List UInt8 := ((p.imps.take i).map impLnU).flatten
def ltsP (p : Pg) (i : Nat) : List UInt8 := (p.imps.map impLnU).flatten ++ ((p.lets.take i).map ltTx).flatten
def textP (p : Pg) : List UInt8 := ltsP p p.lets.length
theorem impsP_zero (p : Pg) : impsP p 0 = [] := by simp [impsP]
theorem impsP_snoc {p : Pg} {i : Nat} (h : i < p.imps.length) : impsP p (i + 1) = impsP p i ++ impLnU p.imps[i] := by
 simp only [impsP]
 rw [List.take_succ_eq_append_getElem h, List.map_append, List.flatten_append]
 simp only [List.map_cons, List.map_nil, List.flatten_cons, List.flatten_nil, List.append_nil]
theorem impsP_all (p : Pg) : impsP p p.imps.length = ltsP p 0 := by simp [impsP, ltsP]
theorem ltsP_snoc {p : Pg} {i : Nat} (h : i < p.lets.length) : ltsP p (i + 1) = ltsP p i ++ ltTx p.lets[i] := by
 simp only [ltsP]
 rw [List.take_succ_eq_append_getElem h, List.map_append, List.flatten_append]
 simp only [List.map_cons, List.map_nil, List.flatten_cons, List.flatten_nil, List.append_nil, List.append_assoc]
theorem mayP_parts {p : Pg} (h : mayP p = true) : p.imps.length ≤ 20 ∧ p.lets.length ≤ 40 ∧ (∀ i ∈ p.imps, impOkU i = true) ∧ ∀ l ∈ p.lets, ltOk l = true := by
 simp only [mayP, Bool.and_eq_true, decide_eq_true_eq, List.all_eq_true] at h
 exact ⟨h.1.1.1, h.1.1.2, h.1.2, h.2⟩
theorem lt_parts {l : Lt} (h : ltOk l = true) : l.name.length ≤ 20 ∧ mayTm l.term = true ∧ allTm l.term = true ∧ manyTm l.term ≤ 300 ∧ (textTm l.term).length ≤ 600000000 := by
 simp only [ltOk, Bool.and_eq_true] at h
 have hm := h.2
 simp only [mayTm, Bool.and_eq_true, decide_eq_true_eq] at hm
 have := textTm_len l.term hm.1.1
 exact ⟨nameN_len h.1, h.2, hm.1.1, hm.1.2, by omega⟩
theorem ltTx_len {l : Lt} (h : ltOk l = true) : (ltTx l).length ≤ 600000100 := by
 obtain ⟨h1, _, _, _, h2⟩ := lt_parts h
 simp [ltTx]; omega
theorem impsP_len {p : Pg} (h : mayP p = true) (i : Nat) : (impsP p i).length ≤ 4000 := by
 obtain ⟨h1, h2, h3, h4⟩ := mayP_parts h
 have h5 : (impsP p i).length ≤ (p.imps.take i).length * 200 := flat_len fun a ha => impLnU_len (h3 a (List.mem_of_mem_take ha))
 rw [List.length_take] at h5
 have : min i p.imps.length * 200 ≤ 20 * 200 := Nat.mul_le_mul_right _ (by omega)
 omega
theorem ltsP_len {p : Pg} (h : mayP p = true) (i : Nat) : (ltsP p i).length ≤ 30000000000 := by
 obtain ⟨h1, h2, h3, h4⟩ := mayP_parts h
 have h5 : ((p.imps.map impLnU).flatten).length ≤ p.imps.length * 200 := flat_len fun a ha => impLnU_len (h3 a ha)
 have h6 : (((p.lets.take i).map ltTx).flatten).length ≤ (p.lets.take i).length * 600000100 := flat_len fun a ha => ltTx_len (h4 a (List.mem_of_mem_take ha))
 rw [List.length_take] at h6
 have : min i p.lets.length * 600000100 ≤ 40 * 600000100 := Nat.mul_le_mul_right _ (by omega)
 have : p.imps.length * 200 ≤ 20 * 200 := Nat.mul_le_mul_right _ (by omega)
 simp only [ltsP, List.length_append]; omega
theorem fewP_parts {p : Pg} (h : fewP p = true) : p.imps.length ≤ 100 ∧ p.lets.length ≤ 60 ∧ ∀ l ∈ p.lets, fewTm3 l.term = true := by
 simp only [fewP, Bool.and_eq_true, decide_eq_true_eq, List.all_eq_true] at h
 exact ⟨h.1.1, h.1.2, fun d hd => by have := h.2 d hd; simp only [fewLt, Bool.and_eq_true] at this; exact this.1⟩
theorem may_var (s : List UInt8) : mayTm (.mk 3 0 [] s [] [] [] []) = nameN s := by
 have : shapeTm (.mk 3 0 [] s [] [] [] []) = nameN s := by simp [shapeTm, fitsT, bareTm, kindTm, cntsT]
 simp [mayTm, allTm, allTms, this, manyTm, manyTms, deepTm, deepTms]
end Go.Proofs.Mv.App
open Go Go.Proofs Go.Proofs.Mv.V
set_option maxRecDepth 10000
namespace Go.Proofs.Mv.App
variable [GI]
def mayFn (g : Bool) : D := .func (.func (if g then 249 else 72)) [] []
theorem cNam (g : Bool) (s : List UInt8) (hs : s.length ≤ 9223372036854775807) (m : Mem) (n : Nat) : ACalls Tryz.prog (if g then 249 else 72) [S s] m n (fun d m' n' => d = Tt (namOk g s) ∧ m' = m ∧ n' = n) := by
 cases g
 ·exact cSmall s hs m n
 ·exact cGreat s hs m n
structure NmsInv (g : Bool) (l : List (List UInt8)) (M : Mem) (n0 : Nat) (i : Nat) (σ : Nat → D) (m2 : Mem) (n2 : Nat) : Prop where
 h0 : σ 0 = sl1 l
 h1 : σ 1 = mayFn g
 h7 : σ 7 = sl1 l
 h8 : σ 8 = I l.length
 h9 : σ 9 = I i
 le : i ≤ l.length
 al : ∀ j, j < i → stepOk g l j = true
 mm : m2 = M
 nn : n2 = n0
theorem rising_no {g : Bool} {l : List (List UInt8)} {i : Nat} (hi : i < l.length) (h : stepOk g l i = false) : risingN g l = false := by
 cases e : risingN g l
 ·rfl
 ·have := List.all_eq_true.1 e i (List.mem_range.2 hi); rw [h] at this; cases this
theorem rising_yes {g : Bool} {l : List (List UInt8)} {i : Nat} (hi : l.length ≤ i) (h : ∀ j, j < i → stepOk g l j = true) : risingN g l = true :=
 List.all_eq_true.2 fun j hj => h j (by have := List.mem_range.1 hj; omega)
set_option maxHeartbeats 1000000 in
theorem cNames (g : Bool) (l : List (List UInt8)) (hl : l.length ≤ 9223372036854775807) (hs : ∀ s ∈ l, s.length ≤ 9223372036854775807) (m : Mem) (n : Nat) :
  ACalls Tryz.prog 263 [sl1 l, mayFn g] m n (fun d m' n' => d = Tt (risingN g l) ∧ m' = m ∧ n' = n) := by
 refine acalls_vc [0, 1, 4, 5, 6, 7, 8, 9, 10, 30] Tryz.func263 Tryz.ntmps263 (by kernel_rfl) rfl rfl (by simp) ?_
 simp -dsimp [sl1]
 refine vloop_of (β := Nat) (NmsInv g l m n) (fun i => l.length - i) 0 ⟨by simp [sl1], by simp, by simp [sl1], by simp [I], by simp [I], by omega, by omega, rfl, rfl⟩ ?_
 rintro i σ m2 n2 ⟨h0, h1, h7, h8, h9, le, al, rfl, rfl⟩
 by_cases hi : (i : Int) < l.length
 ·have hi' : i < l.length := by omega
  have wi : IntKind.i64.wrap ((i : Int) + 1) = (i : Int) + 1 := wrap_i64 (by omega) (by omega)
  simp -dsimp [h0, h1, h7, h8, h9, I, sl1, hi, hi', mayFn]
  refine aCall_of (cNam g l[i] (hs _ (List.getElem_mem hi')) _ _) ?_
  rintro d m' n' ⟨rfl, rfl, rfl⟩
  have hgi : l.getD i [] = l[i] := by rw [List.getD_eq_getElem?_getD, List.getElem?_eq_getElem hi']; rfl
  by_cases c : namOk g l[i] = true
  ·by_cases i0 : i = 0
   ·subst i0
    have w01 : IntKind.i64.wrap 1 = 1 := wrap_i64 (by omega) (by omega)
    have hst : stepOk g l 0 = true := by unfold stepOk; rw [hgi, c]; simp
    simp -dsimp [h0, h1, h7, h8, h9, I, Tt, sl1, c, wi]
    exact ⟨1, by omega, by simp [sl1, S], by simp [mayFn], by simp [sl1, S], by simp [I], by simp [I, w01], by omega, fun j hj => by rw [show j = 0 by omega]; exact hst, rfl, rfl⟩
   ·have i1 : (0 : Int) < i := by omega
    have i1' : 0 < i := by omega
    have w1 : IntKind.i64.wrap ((i : Int) - 1) = ((i - 1 : Nat) : Int) := by rw [wrap_i64 (by omega) (by omega)]; omega
    have hp : i - 1 < l.length := by omega
    have hgp : l.getD (i - 1) [] = l[i - 1] := by rw [List.getD_eq_getElem?_getD, List.getElem?_eq_getElem hp]; rfl
    have hlt : Op.bytesLess l[i - 1] l[i] = ltB l[i - 1] l[i] := rfl
    cases c2 : ltB l[i - 1] l[i]
    ·have hst : stepOk g l i = false := by unfold stepOk; rw [hgi, hgp, c2]; simp [i0]
     simp -dsimp [h0, h1, h7, h8, h9, I, Tt, sl1, S, c, wi, w1, i1, i1', hp, hlt, c2]
     rw [rising_no hi' hst]
    ·have hst : stepOk g l i = true := by unfold stepOk; rw [hgi, hgp, c2, c]; simp
     simp -dsimp [h0, h1, h7, h8, h9, I, Tt, sl1, S, c, wi, w1, i1, i1', hp, hlt, c2]
     exact ⟨i + 1, by omega, by simp [sl1, S], by simp [mayFn], by simp [sl1, S], by simp [I], by simp [I], by omega, fun j hj => by
      by_cases e : j = i
      ·rw [e]; exact hst
      ·exact al j (by omega), rfl, rfl⟩
  ·have c' : namOk g l[i] = false := by simpa using c
   have hst : stepOk g l i = false := by simp only [stepOk, hgi, c', Bool.false_and]
   simp -dsimp [h0, h1, h7, h8, h9, I, Tt, sl1, c']
   rw [rising_no hi' hst]
 ·simp -dsimp [h0, h1, h7, h8, h9, I, hi, Tt]
  rw [rising_yes (by omega) al]
theorem cBare {kind : Int} {pkg : List UInt8} {major : Int} {mod name : List UInt8} {NL SL : List (List D)} (pN : Pur (.sl 1 NL)) (pS : Pur (.sl 7 SL)) (m : Mem) (n : Nat) :
  ACalls Tryz.prog 262 [.agg [I kind, S pkg, I major, S mod, S name, .sl 1 NL, .sl 7 SL]] m n (fun d m' n' =>
   d = .agg [I kind, S (barePkg kind pkg), I (bareMaj kind major), S (bareMod kind mod), S (bareMod kind name), .sl 1 NL, .sl 7 SL] ∧ m' = m ∧ n' = n) := by
 refine acalls_done (R' := Hq (fun d m' n' => d = .agg [I kind, S (barePkg kind pkg), I (bareMaj kind major), S (bareMod kind mod), S (bareMod kind name), .sl 1 NL, .sl 7 SL] ∧ ∀ j, j < n → m' j = m j) tg) ?_ ?_
 ·have fr : ∀ o o' o'' o''' j, j < n → ((((m.set n o).set (n + 1) o').set n o'').set (n + 1) o''') j = m j := fun o o' o'' o''' j hj => by rw [set_ne _ _ _ _ (by omega), set_ne _ _ _ _ (by omega), set_ne _ _ _ _ (by omega), set_ne _ _ _ _ (by omega)]
  have nn1 : n ≠ n + 1 := by omega
  have n1n : n + 1 ≠ n := by omega
  refine acalls_vcC [0, 1, 2, 4, 5, 9] Tryz.func262 Tryz.ntmps262 (by kernel_rfl) rfl rfl (by simp) ?_
  by_cases c8 : kind = 8
  ·subst c8
   simp -dsimp [I, nn1, n1n]
   refine hq ⟨by simp [barePkg, bareMaj, bareMod, I, S], fun j hj => ?_⟩
   have h1 : j ≠ n := by omega
   have h2 : j ≠ n + 1 := by omega
   simp [set_ne, h1, h2]
  by_cases c9 : kind = 9
  ·subst c9
   simp -dsimp [I, nn1, n1n]
   refine hq ⟨by simp [barePkg, bareMaj, bareMod, I, S], fun j hj => ?_⟩
   have h1 : j ≠ n := by omega
   have h2 : j ≠ n + 1 := by omega
   simp [set_ne, h1, h2]
  ·have c8' : (kind == 8) = false := by simpa using c8
   have c9' : (kind == 9) = false := by simpa using c9
   simp -dsimp [I, nn1, n1n, c8', c9']
   refine hq ⟨by simp [barePkg, bareMaj, bareMod, I, S, c8, c9], fun j hj => ?_⟩
   have h1 : j ≠ n := by omega
   have h2 : j ≠ n + 1 := by omega
   simp [set_ne, h1, h2]
 ·rintro d m' n' ⟨rfl, h⟩
  refine ⟨_, (Pur.agg ?_).pub, h, rfl⟩
  intro d hd
  simp only [List.mem_cons, List.not_mem_nil, or_false] at hd
  rcases hd with rfl | rfl | rfl | rfl | rfl | rfl | rfl
  ·exact pur_I _
  ·exact pur_S _
  ·exact pur_I _
  ·exact pur_S _
  ·exact pur_S _
  ·exact pN
  ·exact pS
end Go.Proofs.Mv.App
open Go Go.Proofs Go.Proofs.Mv.V
set_option maxRecDepth 10000
namespace Go.Proofs.Mv.App
variable [GI]
set_option maxHeartbeats 4000000 in
theorem cShape {t : Ty} (ht : TyW t) (m : Mem) (n : Nat) : ACalls Tryz.prog 208 [.agg (tyD t)] m n (fun d m' n' => d = Tt (shapeT t) ∧ m' = m ∧ n' = n) := by
 refine acalls_done (R' := Hq (fun d m' n' => d = Tt (shapeT t) ∧ ∀ j, j < n → m' j = m j) tg) ?_ ?_
 ·cases ht with
  | mk kind pkg major mod name names subs l1 l2 l3 l4 l5 l6 l7 =>
   have hL1 : (names.map fun s => [S s]).length = names.length := by simp
   have hL2 : (tysD subs).length = subs.length := by rw [tysD_eq]; simp
   have pN := pur_sl1 names
   have pS : Pur (.sl 7 (tysD subs)) := Pur.sl (pur_tys subs)
   have hcn := fun g m n => cNames g names l1 l6 m n
   obtain ⟨ns, hns⟩ : ∃ k, subs.length = k := ⟨_, rfl⟩
   obtain ⟨ks, hks⟩ : ∃ k, names.length = k := ⟨_, rfl⟩
   have hyes := shapeT_yes (t := .mk kind pkg major mod name names subs)
   have hno := shapeT_no (t := .mk kind pkg major mod name names subs)
   simp only [bareOk, shapeB, Ty.kind, Ty.pkg, Ty.major, Ty.mod, Ty.name, Ty.names, Ty.subs, hns, hks] at hyes hno
   generalize shapeT (.mk kind pkg major mod name names subs) = SH at hyes hno
   rw [hks] at hL1
   rw [hns] at hL2
   simp only [tyD, sl1] at pN hcn ⊢
   generalize (names.map fun s => [S s]) = NL at hL1 pN hcn
   generalize tysD subs = SL at hL2 pS
   have frp : ∀ (o1 o2 : V.Obj) j, j < n → ((m.set n o1).set (n + 1) o2) j = m j := fun o1 o2 j hj => by
    rw [set_ne _ _ _ _ (by omega), set_ne _ _ _ _ (by omega)]
   have nn1 : n ≠ n + 1 := by omega
   have n1n : n + 1 ≠ n := by omega
   refine acalls_vc [0, 1, 2, 3, 4, 31, 33, 34, 46, 56, 68, 84, 94, 119] Tryz.func208 Tryz.ntmps208 (by kernel_rfl) rfl rfl (by simp) ?_
   simp -dsimp [I]
   refine aCall_of (cBare pN pS _ _) ?_
   rintro d m' n' ⟨rfl, rfl, rfl⟩
   generalize barePkg kind pkg = b1 at hyes hno
   generalize bareMaj kind major = b2 at hyes hno
   generalize bareMod kind mod = b3 at hyes hno
   generalize bareMod kind name = b4 at hyes hno
   by_cases c1 : b1 = []
   case neg =>
    have c1' : (b1 == []) = false := by simpa using c1
    simp -dsimp [I, S, nn1, n1n, hL2, c1, c1']
    exact hq ⟨by rw [hno (fun h => c1 h.1)]; rfl, frp _ _⟩
   subst c1
   by_cases c2 : b2 = 0
   case neg =>
    have c2' : (b2 != 0) = true := by simpa using c2
    simp -dsimp [I, S, nn1, n1n, hL2, c2']
    exact hq ⟨by rw [hno (fun h => c2 h.2.1)]; rfl, frp _ _⟩
   subst c2
   by_cases c3 : b3 = []
   case neg =>
    have c3' : (b3 == []) = false := by simpa using c3
    simp -dsimp [I, S, nn1, n1n, hL2, c3, c3']
    exact hq ⟨by rw [hno (fun h => c3 h.2.2.1)]; rfl, frp _ _⟩
   subst c3
   by_cases c4 : b4 = []
   case neg =>
    have c4' : (b4 == []) = false := by simpa using c4
    simp -dsimp [I, S, nn1, n1n, hL2, c4, c4']
    exact hq ⟨by rw [hno (fun h => c4 h.2.2.2.1)]; rfl, frp _ _⟩
   subst c4
   by_cases c5 : (20 : Int) < ns
   ·simp -dsimp [I, S, nn1, n1n, hL2, c5]
    exact hq ⟨by rw [hno (fun h => by have := h.2.2.2.2; omega)]; rfl, frp _ _⟩
   have hy := hyes ⟨rfl, rfl, rfl, rfl, by omega⟩
   clear hyes hno
   simp -dsimp [I, S, nn1, n1n, hL2, c5]
   by_cases k1 : kind = 1
   ·subst k1
    simp only [true_or, or_true, if_true] at hy
    rw [hy]
    by_cases e1 : ns = 0
    ·have e1' : ((ns : Int) == 0) = true := by simpa using e1
     by_cases e2 : ks = 0
     ·have e2' : ((ks : Int) == 0) = true := by simpa using e2
      simp -dsimp [I, nn1, n1n, hL1, hL2, e1', e2']
      exact hq ⟨by simp [Tt, e1, e2], frp _ _⟩
     ·have e2' : ((ks : Int) == 0) = false := by simpa using e2
      simp -dsimp [I, nn1, n1n, hL1, hL2, e1', e2']
      exact hq ⟨by simp [Tt, e1, e2], frp _ _⟩
    ·have e1' : ((ns : Int) == 0) = false := by simpa using e1
     simp -dsimp [I, nn1, n1n, hL1, hL2, e1']
     exact hq ⟨by simp [Tt, e1], frp _ _⟩
   by_cases k2 : kind = 2
   ·subst k2
    simp only [true_or, or_true, if_true] at hy
    rw [hy]
    by_cases e1 : ns = 0
    ·have e1' : ((ns : Int) == 0) = true := by simpa using e1
     by_cases e2 : ks = 0
     ·have e2' : ((ks : Int) == 0) = true := by simpa using e2
      simp -dsimp [I, nn1, n1n, hL1, hL2, e1', e2']
      exact hq ⟨by simp [Tt, e1, e2], frp _ _⟩
     ·have e2' : ((ks : Int) == 0) = false := by simpa using e2
      simp -dsimp [I, nn1, n1n, hL1, hL2, e1', e2']
      exact hq ⟨by simp [Tt, e1, e2], frp _ _⟩
    ·have e1' : ((ns : Int) == 0) = false := by simpa using e1
     simp -dsimp [I, nn1, n1n, hL1, hL2, e1']
     exact hq ⟨by simp [Tt, e1], frp _ _⟩
   by_cases k3 : kind = 3
   ·subst k3
    simp only [true_or, or_true, if_true] at hy
    rw [hy]
    by_cases e1 : ns = 0
    ·have e1' : ((ns : Int) == 0) = true := by simpa using e1
     by_cases e2 : ks = 0
     ·have e2' : ((ks : Int) == 0) = true := by simpa using e2
      simp -dsimp [I, nn1, n1n, hL1, hL2, e1', e2']
      exact hq ⟨by simp [Tt, e1, e2], frp _ _⟩
     ·have e2' : ((ks : Int) == 0) = false := by simpa using e2
      simp -dsimp [I, nn1, n1n, hL1, hL2, e1', e2']
      exact hq ⟨by simp [Tt, e1, e2], frp _ _⟩
    ·have e1' : ((ns : Int) == 0) = false := by simpa using e1
     simp -dsimp [I, nn1, n1n, hL1, hL2, e1']
     exact hq ⟨by simp [Tt, e1], frp _ _⟩
   simp only [k1, k2, k3, or_self, if_false] at hy
   have k1' : (kind == 1) = false := by simpa using k1
   have k2' : (kind == 2) = false := by simpa using k2
   have k3' : (kind == 3) = false := by simpa using k3
   simp -dsimp [k1', k2', k3']
   by_cases k4 : kind = 4
   ·subst k4
    simp only [if_true] at hy
    rw [hy]
    by_cases e1 : ns = 1
    ·have e1' : ((ns : Int) == 1) = true := by simp [e1]
     by_cases e2 : ks = 0
     ·have e2' : ((ks : Int) == 0) = true := by simpa using e2
      simp -dsimp [I, nn1, n1n, hL1, hL2, e1', e2']
      exact hq ⟨by simp [Tt, e1, e2], frp _ _⟩
     ·have e2' : ((ks : Int) == 0) = false := by simpa using e2
      simp -dsimp [I, nn1, n1n, hL1, hL2, e1', e2']
      exact hq ⟨by simp [Tt, e1, e2], frp _ _⟩
    ·have e1' : ((ns : Int) == 1) = false := by simp; omega
     simp -dsimp [I, nn1, n1n, hL1, hL2, e1']
     exact hq ⟨by simp [Tt, e1], frp _ _⟩
   have k4' : (kind == 4) = false := by simpa using k4
   simp -dsimp [k4']
   simp only [k4, if_false] at hy
   by_cases k5 : kind = 5
   ·subst k5
    simp only [if_true, show ¬ (5 : Int) = 4 by omega, if_false] at hy
    rw [hy]
    by_cases e1 : ns = ks
    ·have e1' : ((ns : Int) == ks) = true := by simp [e1]
     simp -dsimp [I, nn1, n1n, hL1, hL2, e1']
     refine aCall_of (hcn false _ _) ?_
     rintro d m' n' ⟨rfl, rfl, rfl⟩
     simp -dsimp [I]
     exact hq ⟨by simp [Tt, e1], frp _ _⟩
    ·have e1' : ((ns : Int) == ks) = false := by simp; omega
     simp -dsimp [I, nn1, n1n, hL1, hL2, e1']
     exact hq ⟨by simp [Tt, e1], frp _ _⟩
   have k5' : (kind == 5) = false := by simpa using k5
   simp -dsimp [k5']
   simp only [k5, if_false] at hy
   by_cases k6 : kind = 6
   ·subst k6
    simp only [if_true] at hy
    rw [hy]
    by_cases e0 : (1 : Int) ≤ ns
    ·have e00 : 1 ≤ ns := by omega
     by_cases e1 : ns = ks
     ·have e1' : ((ns : Int) == ks) = true := by simp [e1]
      simp -dsimp [I, nn1, n1n, hL1, hL2, e0, e00, e1']
      refine aCall_of (hcn true _ _) ?_
      rintro d m' n' ⟨rfl, rfl, rfl⟩
      simp -dsimp [I]
      exact hq ⟨by simp [Tt, e00, ← e1], frp _ _⟩
     ·have e1' : ((ns : Int) == ks) = false := by simp; omega
      simp -dsimp [I, nn1, n1n, hL1, hL2, e0, e00, e1']
      exact hq ⟨by simp [Tt, e1], frp _ _⟩
    ·have e00 : ¬ 1 ≤ ns := by omega
     simp -dsimp [I, nn1, n1n, hL1, hL2, e0, e00]
     exact hq ⟨by simp [Tt, e00], frp _ _⟩
   have k6' : (kind == 6) = false := by simpa using k6
   simp -dsimp [k6']
   simp only [k6, if_false] at hy
   by_cases k7 : kind = 7
   ·subst k7
    simp only [if_true] at hy
    rw [hy]
    by_cases e0 : (1 : Int) ≤ ns
    ·have e00 : 1 ≤ ns := by omega
     by_cases e2 : ks = 0
     ·have e2' : ((ks : Int) == 0) = true := by simpa using e2
      simp -dsimp [I, nn1, n1n, hL1, hL2, e0, e00, e2']
      exact hq ⟨by simp [Tt, e00, e2], frp _ _⟩
     ·have e2' : ((ks : Int) == 0) = false := by simpa using e2
      simp -dsimp [I, nn1, n1n, hL1, hL2, e0, e00, e2']
      exact hq ⟨by simp [Tt, e2], frp _ _⟩
    ·have e00 : ¬ 1 ≤ ns := by omega
     simp -dsimp [I, nn1, n1n, hL1, hL2, e0, e00]
     exact hq ⟨by simp [Tt, e00], frp _ _⟩
   have k7' : (kind == 7) = false := by simpa using k7
   simp -dsimp [k7']
   simp only [k7, if_false] at hy
   by_cases k8 : kind = 8
   ·subst k8
    simp only [if_true] at hy
    rw [hy]
    by_cases e1 : ns = 0
    case neg =>
     have e1' : ((ns : Int) == 0) = false := by simpa using e1
     simp -dsimp [I, nn1, n1n, hL1, hL2, e1']
     exact hq ⟨by simp [Tt, e1], frp _ _⟩
    have e1' : ((ns : Int) == 0) = true := by simpa using e1
    by_cases e2 : ks = 0
    case neg =>
     have e2' : ((ks : Int) == 0) = false := by simpa using e2
     simp -dsimp [I, nn1, n1n, hL1, hL2, e1', e2']
     exact hq ⟨by simp [Tt, e2], frp _ _⟩
    have e2' : ((ks : Int) == 0) = true := by simpa using e2
    simp -dsimp [I, nn1, n1n, hL1, hL2, e1', e2']
    refine aCall_of (cGreat name l5 _ _) ?_
    rintro d m' n' ⟨rfl, rfl, rfl⟩
    cases e3 : greatN name with
    | false =>
     simp -dsimp [I, Tt]
     exact hq ⟨by simp [Tt], frp _ _⟩
    | true =>
    by_cases e4 : mod = []
    ·subst e4
     simp -dsimp [I, Tt, nn1, n1n]
     exact hq ⟨by simp [Tt, e1, e2], frp _ _⟩
    ·have e4' : (mod == []) = false := by simpa using e4
     simp -dsimp [I, Tt, nn1, n1n, e4']
     refine aCall_of (cSmall mod l4 _ _) ?_
     rintro d m' n' ⟨rfl, rfl, rfl⟩
     simp -dsimp [I, Tt]
     exact hq ⟨by simp [Tt, e1, e2, e4], frp _ _⟩
   have k8' : (kind == 8) = false := by simpa using k8
   simp -dsimp [k8']
   simp only [k8, if_false] at hy
   by_cases k9 : kind = 9
   ·subst k9
    simp only [if_true] at hy
    rw [hy]
    by_cases e1 : ns = 0
    case neg =>
     have e1' : ((ns : Int) == 0) = false := by simpa using e1
     simp -dsimp [I, nn1, n1n, hL1, hL2, e1']
     exact hq ⟨by simp [Tt, e1], frp _ _⟩
    have e1' : ((ns : Int) == 0) = true := by simpa using e1
    by_cases e2 : ks = 0
    case neg =>
     have e2' : ((ks : Int) == 0) = false := by simpa using e2
     simp -dsimp [I, nn1, n1n, hL1, hL2, e1', e2']
     exact hq ⟨by simp [Tt, e2], frp _ _⟩
    have e2' : ((ks : Int) == 0) = true := by simpa using e2
    simp -dsimp [I, nn1, n1n, hL1, hL2, e1', e2']
    refine aCall_of (cSmall pkg l3 _ _) ?_
    rintro d m' n' ⟨rfl, rfl, rfl⟩
    cases e3 : smallN pkg with
    | false =>
     simp -dsimp [I, Tt]
     exact hq ⟨by simp [Tt], frp _ _⟩
    | true =>
    simp -dsimp [I, Tt, nn1, n1n]
    refine aCall_of (cSmall mod l4 _ _) ?_
    rintro d m' n' ⟨rfl, rfl, rfl⟩
    cases e4 : smallN mod with
    | false =>
     simp -dsimp [I, Tt]
     exact hq ⟨by simp [Tt], frp _ _⟩
    | true =>
    simp -dsimp [I, Tt, nn1, n1n]
    refine aCall_of (cGreat name l5 _ _) ?_
    rintro d m' n' ⟨rfl, rfl, rfl⟩
    cases e5 : greatN name with
    | false =>
     simp -dsimp [I, Tt]
     exact hq ⟨by simp [Tt], frp _ _⟩
    | true =>
    by_cases e6 : 1 ≤ major
    ·by_cases e7 : major ≤ 999999999
     ·simp -dsimp [I, Tt, nn1, n1n, e6, e7]
      exact hq ⟨by simp [Tt, e1, e2, e6, e7], frp _ _⟩
     ·simp -dsimp [I, Tt, nn1, n1n, e6, e7]
      exact hq ⟨by simp [Tt, e7], frp _ _⟩
    ·simp -dsimp [I, Tt, nn1, n1n, e6]
     exact hq ⟨by simp [Tt, e6], frp _ _⟩
   have k9' : (kind == 9) = false := by simpa using k9
   simp -dsimp [k9']
   simp only [k9, if_false] at hy
   rw [hy]
   exact hq ⟨rfl, frp _ _⟩
 ·rintro d m' n' ⟨rfl, h⟩
  exact ⟨_, (pur_T _).pub, h, rfl⟩
end Go.Proofs.Mv.App
open Go Go.Proofs Go.Proofs.Mv.V
set_option maxRecDepth 10000
namespace Go.Proofs.Mv.App
variable [GI]
structure CntInv (kind : Int) (pkg : List UInt8) (major : Int) (mod name : List UInt8) (NL SL : List (List D)) (subs : List Ty) (depth most : Int) (m : Mem) (n : Nat) (i : Nat) (σ : Nat → D) (m2 : Mem) (n2 : Nat) : Prop where
 h1 : σ 1 = I depth
 h2 : σ 2 = I most
 h3 : σ 3 = .ptr n 0 0 0
 h7 : σ 7 = I (1 + manyTs (subs.take i))
 h23 : σ 23 = .sl 7 SL
 h24 : σ 24 = I subs.length
 h25 : σ 25 = I i
 le : i ≤ subs.length
 ok : CntOk subs depth most i
 nn : n + 1 ≤ n2
 fr : ∀ j, j < n → m2 j = m j
set_option maxHeartbeats 2000000 in
theorem cCount {t : Ty} (ht : TyW t) : ∀ (depth most : Int) (m : Mem) (n : Nat), depth ≤ 1000000 → 0 ≤ depth → most ≤ 1000000 → -1000000 ≤ most → ACalls Tryz.prog 140 [.agg (tyD t), I depth, I most] m n (fun d m' n' => d = I (cntT t depth most) ∧ m' = m ∧ n' = n) := by
 induction ht with
 | mk kind pkg major mod name names subs l1 l2 l3 l4 l5 l6 l7 ih =>
  intro depth most m n d1 d2 q1 q2
  refine acalls_done (R' := Hq (fun d m' n' => d = I (cntT (.mk kind pkg major mod name names subs) depth most) ∧ ∀ j, j < n → m' j = m j) tg) ?_ ?_
  ·have fr : ∀ o j, j < n → (m.set n o) j = m j := fun o j hj => by rw [set_ne _ _ _ _ (by omega)]
   have hL2 : (tysD subs).length = subs.length := by rw [tysD_eq]; simp
   have hG2 : ∀ i (h : i < subs.length), (tysD subs)[i]? = some (tyD subs[i]) := fun i h => by rw [tysD_eq]; simp [h]
   have hcs := fun m n => cShape (.mk kind pkg major mod name names subs l1 l2 l3 l4 l5 l6 l7) m n
   have hno : ∀ h, cntT (.mk kind pkg major mod name names subs) depth most = 0 := fun h => cntT_no h
   have hst : ∀ {i : Nat} (hi : i < subs.length), cntT subs[i] (depth - 1) (most - (1 + manyTs (subs.take i))) = 0 → cntT (.mk kind pkg major mod name names subs) depth most = 0 := fun hi h => CntOk.stop hi h
   have hal : ∀ {i : Nat}, shapeT (.mk kind pkg major mod name names subs) = true → CntOk subs depth most i → subs.length ≤ i → cntT (.mk kind pkg major mod name names subs) depth most = 1 + manyTs subs := fun h1 h2 h3 => CntOk.all h1 h2 h3
   simp only [tyD, sl1] at hcs ⊢
   generalize cntT (.mk kind pkg major mod name names subs) depth most = CT at hno hst hal
   generalize shapeT (.mk kind pkg major mod name names subs) = SH at hno hcs hal
   generalize (names.map fun s => [S s]) = NL at hcs
   generalize tysD subs = SL at hL2 hG2 hcs
   refine acalls_vc [0, 1, 2, 3, 6, 7, 9, 10, 21, 23, 24, 25, 26, 37] Tryz.func140 Tryz.ntmps140 (by kernel_rfl) rfl rfl (by simp) ?_
   by_cases c1 : depth < 1
   ·simp -dsimp [I, c1]
    exact hq ⟨by rw [hno (.inl c1)]; rfl, fr _⟩
   by_cases c2 : most < 1
   ·simp -dsimp [I, c1, c2]
    exact hq ⟨by rw [hno (.inr (.inl c2))]; rfl, fr _⟩
   simp -dsimp [I, c1, c2]
   refine aCall_of (hcs _ _) ?_
   rintro d m' n' ⟨rfl, rfl, rfl⟩
   cases hS : SH with
   | false =>
    simp -dsimp [I, c1, c2, Tt]
    exact hq ⟨by rw [hno (.inr (.inr hS))]; rfl, fr _⟩
   | true =>
   simp -dsimp [I, c1, c2, Tt]
   refine vloop_of (β := Nat) (CntInv kind pkg major mod name NL SL subs depth most m n) (fun i => subs.length - i) 0 ⟨by simp [I], by simp [I], by simp, by simp [I, manyTs], by simp, by simp [I, hL2], by simp [I], by omega, CntOk.zero (by omega) (by omega), by omega, fr _⟩ ?_
   rintro i σ m2 n2 ⟨h1, h2, h3, h7, h23, h24, h25, le, ok, nn, fr2⟩
   by_cases hi : (i : Int) < subs.length
   ·have hi' : i < subs.length := by omega
    have wi : IntKind.i64.wrap ((i : Int) + 1) = (i : Int) + 1 := wrap_i64 (by omega) (by omega)
    have hiN : i < SL.length := by omega
    have hgi : SL[i] = tyD subs[i] := get_opt (hG2 i hi') hiN
    have hsn := manyTs_snoc (subs.take i) subs[i]
    rw [← take_snoc hi'] at hsn
    have hmn := ok.mn
    have hstp := ok.step hi'
    have hs0 := hst hi'
    have hih := fun m n => ih subs[i] (List.getElem_mem hi') (depth - 1) (most - (1 + manyTs (subs.take i))) m n (by omega) (by omega) (by omega) (by omega)
    have hcl := cntT_le subs[i] (depth - 1) (most - (1 + manyTs (subs.take i)))
    have hce := cntT_eq (t := subs[i]) (d := depth - 1) (q := most - (1 + manyTs (subs.take i)))
    have wd : IntKind.i64.wrap (depth - 1) = depth - 1 := wrap_i64 (by omega) (by omega)
    have wm : IntKind.i64.wrap (most - (1 + (manyTs (subs.take i) : Int))) = most - (1 + (manyTs (subs.take i) : Int)) := wrap_i64 (by omega) (by omega)
    have h77 := tyD_len subs[i]
    generalize tyD subs[i] = TT at hgi hih h77
    have ht7 : List.take 7 TT = TT := List.take_of_length_le (by omega)
    simp -dsimp [h1, h2, h3, h7, h23, h24, h25, I, hi, hi', hiN, hgi, h77, ht7, wd, wm]
    refine aCall_of (hih _ _) ?_
    rintro d m' n' ⟨rfl, rfl, rfl⟩
    generalize cntT subs[i] (depth - 1) (most - (1 + manyTs (subs.take i))) = CK at hstp hs0 hcl hce
    by_cases c3 : CK = 0
    ·have c3' : (CK == 0) = true := by simpa using c3
     simp -dsimp [h1, h2, h3, h7, h23, h24, h25, I, c3']
     exact hq ⟨by rw [hs0 c3]; rfl, fun j hj => by rw [set_ne _ _ _ _ (by omega)]; exact fr2 j hj⟩
    ·have hke := (hce c3).1
     have c3' : (CK == 0) = false := by simpa using c3
     have hcl2 := hcl.2 (by omega)
     have ws : IntKind.i64.wrap (1 + (manyTs (subs.take i) : Int) + CK) = 1 + (manyTs (subs.take i) : Int) + CK := wrap_i64 (by omega) (by omega)
     simp -dsimp [h1, h2, h3, h7, h23, h24, h25, I, c3', ws, wi]
     refine ⟨i + 1, by omega, by simp [I], by simp [I], by simp, by simp [I, hsn]; omega, by simp, by simp [I], by simp [I], by omega, hstp c3, by omega, fun j hj => by rw [set_ne _ _ _ _ (by omega)]; exact fr2 j hj⟩
   ·have ht : subs.take i = subs := List.take_of_length_le (by omega)
    rw [ht] at h7
    simp -dsimp [h1, h2, h3, h7, h23, h24, h25, I, hi]
    exact hq ⟨by rw [hal hS ok (by omega)]; rfl, fr2⟩
  ·rintro d m' n' ⟨rfl, h⟩
   exact ⟨_, (pur_I _).pub, h, rfl⟩
theorem cSize {t : Ty} (ht : TyW t) (m : Mem) (n : Nat) : ACalls Tryz.prog 82 [.agg (tyD t)] m n (fun d m' n' => d = I (cntT t 32 500) ∧ m' = m ∧ n' = n) := by
 refine acalls_done (R' := Hq (fun d m' n' => d = I (cntT t 32 500) ∧ ∀ j, j < n → m' j = m j) tg) ?_ ?_
 ·have h7 := tyD_len t
  have hc := fun m n => cCount ht 32 500 m n (by omega) (by omega) (by omega) (by omega)
  generalize tyD t = TT at h7 hc
  have ht7 : List.take 7 TT = TT := List.take_of_length_le (by omega)
  refine acalls_vc [0, 1, 2] Tryz.func82 Tryz.ntmps82 (by kernel_rfl) rfl rfl (by simp) ?_
  simp -dsimp [h7, ht7]
  refine aCall_of (hc _ _) ?_
  rintro d m' n' ⟨rfl, rfl, rfl⟩
  simp -dsimp [I]
  exact hq ⟨rfl, fun j hj => by rw [set_ne _ _ _ _ (by omega)]⟩
 ·rintro d m' n' ⟨rfl, h⟩
  exact ⟨_, (pur_I _).pub, h, rfl⟩
theorem cMay {t : Ty} (ht : TyW t) (m : Mem) (n : Nat) : ACalls Tryz.prog 38 [.agg (tyD t)] m n (fun d m' n' => d = Tt (mayT t) ∧ m' = m ∧ n' = n) := by
 refine acalls_done (R' := Hq (fun d m' n' => d = Tt (mayT t) ∧ ∀ j, j < n → m' j = m j) tg) ?_ ?_
 ·have h7 := tyD_len t
  have hc := fun m n => cSize ht m n
  generalize tyD t = TT at h7 hc
  have ht7 : List.take 7 TT = TT := List.take_of_length_le (by omega)
  refine acalls_vc [0, 1, 2] Tryz.func38 Tryz.ntmps38 (by kernel_rfl) rfl rfl (by simp) ?_
  simp -dsimp [h7, ht7]
  refine aCall_of (hc _ _) ?_
  rintro d m' n' ⟨rfl, rfl, rfl⟩
  simp -dsimp [I]
  exact hq ⟨by simp [Tt, mayT_cnt], fun j hj => by rw [set_ne _ _ _ _ (by omega)]⟩
 ·rintro d m' n' ⟨rfl, h⟩
  exact ⟨_, (pur_T _).pub, h, rfl⟩
end Go.Proofs.Mv.App
open Go Go.Proofs Go.Proofs.Mv.V
set_option maxRecDepth 10000
namespace Go.Proofs.Mv.App
theorem cIdxUI {l : List (Imp)} {q : Imp → Bool} {fp : FuncId} {cs : List D} (hcs : List.length cs ≤ 3) (hp : ∀ x ∈ l, Pc Tryz.prog fp (.agg (impD x) :: cs) (Tt (q x))) (hlen : l.length ≤ 9223372036854775807) :
  Pc Tryz.prog 104 [.sl 4 (l.map impD), .func (.func fp) [] cs] (I (findI q l)) := by
 refine pc_of (pur_I _) (fun m n => ?_)
 have hL2 : (l.map impD).length = l.length := by simp
 have hG2 : ∀ i (h : i < l.length), (l.map impD)[i]? = some (impD l[i]) := fun i h => by simp [h]
 generalize l.map impD = EL at hL2 hG2
 refine acalls_vc [0, 1, 4, 5, 7, 8, 9, 16] Tryz.func104 Tryz.ntmps104 (by kernel_rfl) rfl rfl (by simp) ?_
 simp -dsimp [hL2, I]
 refine vloop_as (β := Nat) (fun i => [(0, .sl 4 EL), (1, .func (.func fp) [] cs), (7, I l.length), (8, I i)]) (fun i m2 n2 => m2 = m ∧ n2 = n ∧ i ≤ l.length ∧ ∀ x ∈ l.take i, q x = false) (fun i => l.length - i) 0 (by simp [I]) ⟨rfl, rfl, by omega, by simp⟩ ?_
 rintro i m2 n2 ⟨rfl, rfl, le, hno⟩
 by_cases hi : (i : Int) < l.length
 ·have hi' : i < l.length := by omega
  have wi : IntKind.i64.wrap ((i : Int) + 1) = (i : Int) + 1 := wrap_i64 (by omega) (by omega)
  have hiN : i < EL.length := by omega
  have hgi : EL[i] = impD l[i] := get_opt (hG2 i hi') hiN
  have hz : (impD l[i]).length = 4 := by simp
  have hc := hp l[i] (List.getElem_mem hi')
  generalize impD l[i] = XX at hgi hz hc
  have htz : List.take 4 XX = XX := List.take_of_length_le (by omega)
  simp -dsimp [I, Tt, hi, hi', hiN, hgi, hz, htz]
  refine pcall hc ?_
  cases e : q l[i] with
  | true =>
   simp -dsimp [I, Tt]
   exact pcq' (by rw [findI_hit hi' e hno])
  | false =>
   simp -dsimp [I, Tt, wi]
   refine rnd (i + 1) (by omega) (by simp [I]) ⟨rfl, rfl, by omega, fun x hx => ?_⟩
   rw [List.take_succ_eq_append_getElem hi'] at hx
   rcases List.mem_append.1 hx with hx | hx
   ·exact hno x hx
   ·simp at hx; rw [hx]; exact e
 ·have : i = l.length := by omega
  subst this
  rw [List.take_length] at hno
  simp -dsimp [I, Tt, hi]
  exact pcq' (by rw [findI_no hno])
theorem cHasUI {l : List (Imp)} {q : Imp → Bool} {fp : FuncId} {cs : List D} (hcs : List.length cs ≤ 3) (hp : ∀ x ∈ l, Pc Tryz.prog fp (.agg (impD x) :: cs) (Tt (q x))) (hlen : l.length ≤ 9223372036854775807) :
  Pc Tryz.prog 58 [.sl 4 (l.map impD), .func (.func fp) [] cs] (Tt (l.any q)) := by
 refine pc_of (pur_T _) (fun m n => ?_)
 have hc := cIdxUI hcs hp hlen
 generalize l.map impD = EL at hc
 refine acalls_vc [0, 1, 4] Tryz.func58 Tryz.ntmps58 (by kernel_rfl) rfl rfl (by simp) ?_
 simp -dsimp
 refine pcall hc ?_
 have h := findI_any q l
 cases e : l.any q with
 | true =>
  have : 0 ≤ findI q l := h.2 e
  simp -dsimp [I, Tt, this]
  exact pcq' rfl
 | false =>
  have : ¬ 0 ≤ findI q l := fun h' => by rw [h.1 h'] at e; cases e
  simp -dsimp [I, Tt, this]
  exact pcq' rfl
end Go.Proofs.Mv.App
open Go Go.Proofs Go.Proofs.Mv.V Go.RowKit
namespace Go.Proofs.Mv.App
variable [GI]
set_option maxRecDepth 100000 in
set_option maxHeartbeats 2000000 in
theorem sizes_w {W : World} {v0 v1 v2 v3 : Value} {a4 a5 a6 a7 : Option Addr} {n4 n5 n6 n7 c4 c5 c6 c7 : Nat} :
  Calls Tryz.prog 183 #[.agg #[v0, v1, v2, v3, .slice a4 n4 c4, .slice a5 n5 c5, .slice a6 n6 c6, .slice a7 n7 c7]] W fun e w' => e = .returned (.agg #[.int .i64 n4, .int .i64 n5, .int .i64 n6, .int .i64 n7]) ∧ Blw W.heap.size W w' := by
 refine calls_of_wp Tryz.func183 rfl ?_
 simp only [Tryz.ntmps183, List.size_toArray, List.length_cons, List.length_nil, Nat.reduceAdd, Nat.reduceSub, Array.replicate_succ, Array.replicate_zero, List.push_toArray, List.append_toArray, List.nil_append, List.cons_append]
 go_wp2_with fail
 go_returns
 exact ⟨rfl, ((Blw.refl _ W).alloc (Nat.le_refl _) _).alloc (by simp) _⟩
set_option maxRecDepth 100000 in
set_option maxHeartbeats 2000000 in
theorem max_w {W : World} {b : Nat} {n0 n1 n2 n3 : Int} (h0 : W.cell? ⟨b, 0, none⟩ = some (.int .i64 n0)) (h1 : W.cell? ⟨b, 1, none⟩ = some (.int .i64 n1)) (h2 : W.cell? ⟨b, 2, none⟩ = some (.int .i64 n2)) (h3 : W.cell? ⟨b, 3, none⟩ = some (.int .i64 n3)) :
  Calls Tryz.prog 184 #[.slice (some ⟨b, 0, none⟩) 4 4] W fun e w' => (∃ r : Int, e = .returned (.int .i64 r) ∧ (r ≤ 21 ↔ (n0 ≤ 21 ∧ n1 ≤ 21 ∧ n2 ≤ 21 ∧ n3 ≤ 21))) ∧ Blw W.heap.size W w' := by
 refine calls_of_wp Tryz.func184 rfl ?_
 simp only [Tryz.ntmps184, List.size_toArray, List.length_cons, List.length_nil, Nat.reduceAdd, Nat.reduceSub, Array.replicate_succ, Array.replicate_zero, List.push_toArray, List.append_toArray, List.nil_append, List.cons_append]
 go_wp2_with fail
 refine wp_loop_rounds 4 ?_
 rw [rounds_succ]
 go_wp2_with fail
 all_goals (rw [rounds_succ]; go_wp2_with fail)
 all_goals (rw [rounds_succ]; go_wp2_with fail)
 all_goals (rw [rounds_succ]; go_wp2_with fail)
 all_goals
  go_ret
  exact ⟨⟨_, rfl, by omega⟩, Blw.refl _ _⟩
end Go.Proofs.Mv.App
