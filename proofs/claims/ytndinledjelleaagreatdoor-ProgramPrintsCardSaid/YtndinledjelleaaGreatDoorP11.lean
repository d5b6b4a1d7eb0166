/- A part of the proofs: machine, contracts, laws. No condition of its own. -/
import Derived.Test.YtndinledjelleaaGreatDoorP09
import Derived.Test.YtndinledjelleaaGreatDoorMvD
import Derived.Test.YtndinledjelleaaGreatDoorMvC
import Derived.Test.YtndinledjelleaaGreatDoorP08
set_option linter.unusedSimpArgs false
set_option linter.unusedVariables false
set_option linter.unusedSectionVars false
open Go Go.Proofs Go.Proofs.Mv.V
set_option maxRecDepth 10000
namespace Go.Proofs.Mv.App
variable [GI]
theorem leB (a b : List UInt8) : (Op.bytesLess a b || (a == b)) = !ltB b a := by
 show (ltB a b || (a == b)) = _
 cases h1 : ltB b a
 ·cases h2 : ltB a b
  ·have := ltB_anti h2 h1; subst this; simp
  ·simp
 ·have h3 := ltB_asymm h1
  have h4 : (a == b) = false := by
   cases e : a == b
   ·rfl
   ·have := eq_of_beq e; subst this; rw [ltB_irr] at h1; cases h1
  rw [h3, h4]; rfl
def badNm (kind : Int) (l : List (List UInt8)) (i : Nat) : Bool :=
 (decide (kind = 5) && !smallN (l.getD i [])) || (decide (kind = 6) && !greatN (l.getD i [])) || (decide (0 < i) && !ltB (l.getD (i - 1) []) (l.getD i []))
theorem bad_shape {t : Ty} {i : Nat} (hi : i < t.names.length) (h : badNm t.kind t.names i = true) : shapeT t = false := by
 cases hs : shapeT t
 ·rfl
 ·exfalso
  obtain ⟨hn, hs⟩ := shape_parts hs
  obtain ⟨kind, pkg, major, mod, name, names, subs⟩ := t
  simp only [shapeK, Ty.kind, Ty.pkg, Ty.major, Ty.mod, Ty.name, Ty.names, Ty.subs] at hs hn hi h
  have hri : ∀ g, risingN g names = true → (g = false → ¬ kind = 6) → (g = true → ¬ kind = 5) → False := by
   intro g hr h5 h6
   have := List.all_eq_true.1 hr i (List.mem_range.2 hi)
   simp only [stepOk, Bool.and_eq_true, Bool.or_eq_true, decide_eq_true_eq] at this
   simp only [badNm, Bool.and_eq_true, Bool.or_eq_true, decide_eq_true_eq, Bool.not_eq_true'] at h
   rcases h with (⟨h1, h2⟩ | ⟨h1, h2⟩) | ⟨h1, h2⟩
   ·cases g
    ·have := this.1; simp only [namOk, Bool.false_eq_true, if_false] at this; rw [h2] at this; cases this
    ·exact h6 rfl h1
   ·cases g
    ·exact h5 rfl h1
    ·have := this.1; simp only [namOk, if_true] at this; rw [h2] at this; cases this
   ·rcases this.2 with e | e
    ·omega
    ·rw [h2] at e; cases e
  have hnil : names.length = 0 → False := by omega
  by_cases k5 : kind = 5
  ·subst k5
   simp at hs
   exact hri false hs.2 (by simp) (by simp)
  by_cases k6 : kind = 6
  ·subst k6
   simp at hs
   exact hri true hs.2 (by simp) (by simp)
  simp only [k5, k6, if_false] at hs
  apply hnil
  repeat' split at hs
  all_goals (try simp only [Bool.and_eq_true, decide_eq_true_eq] at hs)
  all_goals first | exact hs.2 | exact hs.1.1.2 | exact hs.1.1.1.1.1.2 | (cases hs; done) | (simp at hs; omega)
def shapeR (t : Ty) : Bool :=
 if t.kind = 1 ∨ t.kind = 2 ∨ t.kind = 3 then emptyT t && decide (t.subs.length = 0) && decide (t.names.length = 0)
 else if t.kind = 4 then emptyT t && decide (t.subs.length = 1) && decide (t.names.length = 0)
 else if t.kind = 5 then emptyT t && decide (t.subs.length = t.names.length)
 else if t.kind = 6 then emptyT t && decide (t.subs.length = t.names.length) && decide (0 < t.subs.length)
 else if t.kind = 7 then emptyT t && decide (0 < t.subs.length) && decide (t.names.length = 0)
 else if t.kind = 8 then decide (t.subs.length = 0) && decide (t.names.length = 0) && decide (t.pkg = []) && decide (t.major = 0) && greatN t.name && (smallN t.mod || decide (t.mod = []))
 else if t.kind = 9 then decide (t.subs.length = 0) && decide (t.names.length = 0) && smallN t.pkg && smallN t.mod && greatN t.name && decide (1 ≤ t.major) && decide (t.major ≤ 999999999)
 else false
theorem shape_row {t : Ty} (h : ∀ j, j < t.names.length → badNm t.kind t.names j = false) (hn : t.subs.length ≤ 20) : shapeT t = shapeR t := by
 obtain ⟨kind, pkg, major, mod, name, names, subs⟩ := t
 have hri : ∀ g, (g = false → kind = 5) → (g = true → kind = 6) → risingN g names = true := by
  intro g h5 h6
  refine List.all_eq_true.2 fun j hj => ?_
  have := h j (List.mem_range.1 hj)
  simp only [badNm, Bool.or_eq_false_iff, Bool.and_eq_false_iff, decide_eq_false_iff_not, Bool.not_eq_false'] at this
  obtain ⟨⟨a, b⟩, c⟩ := this
  simp only [stepOk, Bool.and_eq_true, Bool.or_eq_true, decide_eq_true_eq]
  refine ⟨?_, ?_⟩
  ·cases g
   ·exact a.resolve_left (fun e => e (h5 rfl))
   ·exact b.resolve_left (fun e => e (h6 rfl))
  ·by_cases e : j = 0
   ·exact .inl e
   ·exact .inr (c.resolve_left (fun q => q (by omega)))
 simp only [Ty.subs] at hn
 simp only [shapeT, shapeK, shapeR, Ty.kind, Ty.pkg, Ty.major, Ty.mod, Ty.name, Ty.names, Ty.subs, hn, decide_true, Bool.true_and]
 by_cases k5 : kind = 5
 ·subst k5; simp [hri false (by simp) (by simp)]
 by_cases k6 : kind = 6
 ·subst k6
  simp only [show ¬ (6 : Int) = 1 by omega, show ¬ (6 : Int) = 2 by omega, show ¬ (6 : Int) = 3 by omega, show ¬ (6 : Int) = 4 by omega, show ¬ (6 : Int) = 5 by omega, or_self, if_false, if_true, hri true (by simp) (by simp), Bool.and_true]
  rw [Bool.and_assoc, Bool.and_assoc, Bool.and_comm (decide (1 ≤ subs.length))]; rfl
 simp only [k5, k6, if_false]
 by_cases k8 : kind = 8
 ·subst k8
  simp only [show ¬ (8 : Int) = 1 by omega, show ¬ (8 : Int) = 2 by omega, show ¬ (8 : Int) = 3 by omega, show ¬ (8 : Int) = 4 by omega, show ¬ (8 : Int) = 7 by omega, or_self, if_false, if_true]
  rw [Bool.or_comm]
  cases decide (pkg = []) <;> cases decide (major = 0) <;> cases decide (subs.length = 0) <;> cases decide (names.length = 0) <;> simp
 simp only [k8, if_false]
 rfl
structure OwnInv (kind : Int) (names : List (List UInt8)) (ns ks : Nat) (M : Mem) (n : Nat) (i : Nat) (σ : Nat → D) (m2 : Mem) (n2 : Nat) : Prop where
 h1 : σ 1 = .ptr n 0 0 0
 h3 : σ 3 = I ns
 h4 : σ 4 = I ks
 h5 : σ 5 = I i
 le : i ≤ ks
 al : ∀ j, j < i → badNm kind names j = false
 mm : m2 = M
 nn : n2 = n + 1
structure OwnAft (kind : Int) (names : List (List UInt8)) (ns ks : Nat) (M : Mem) (n : Nat) (σ : Nat → D) (m2 : Mem) (n2 : Nat) : Prop where
 h1 : σ 1 = .ptr n 0 0 0
 h3 : σ 3 = I ns
 h4 : σ 4 = I ks
 al : ∀ j, j < ks → badNm kind names j = false
 mm : m2 = M
 nn : n2 = n + 1
structure OwnMid (E : Bool) (ns ks : Nat) (M : Mem) (n : Nat) (σ : Nat → D) (m2 : Mem) (n2 : Nat) : Prop where
 h1 : σ 1 = .ptr n 0 0 0
 h3 : σ 3 = I ns
 h4 : σ 4 = I ks
 h8 : σ 8 = Tt E
 mm : m2 = M
 nn : n2 = n + 1
set_option maxHeartbeats 4000000 in
theorem cOwn {t : Ty} (ht : TyW t) (m : Mem) (n : Nat) : ACalls Tryz.prog 278 [.agg (tyD t)] m n (fun d m' n' => d = Tt (shapeT t) ∧ m' = m ∧ n' = n) := by
 refine acalls_done (R' := Hq (fun d m' n' => d = Tt (shapeT t) ∧ ∀ j, j < n → m' j = m j) tg) ?_ ?_
 ·cases ht with
  | mk kind pkg major mod name names subs l1 l2 l3 l4 l5 l6 l7 =>
   have fr : ∀ o j, j < n → (m.set n o) j = m j := fun o j hj => by rw [set_ne _ _ _ _ (by omega)]
   have hL1 : (names.map fun s => [S s]).length = names.length := by simp
   have hG1 : ∀ i (h : i < names.length), (names.map fun s => [S s])[i]? = some [S names[i]] := fun i h => by simp [h]
   have hL2 : (tysD subs).length = subs.length := by rw [tysD_eq]; simp
   obtain ⟨ns, hns⟩ : ∃ k, subs.length = k := ⟨_, rfl⟩
   obtain ⟨ks, hks⟩ : ∃ k, names.length = k := ⟨_, rfl⟩
   have hbad : ∀ i, i < ks → badNm kind names i = true → shapeT (.mk kind pkg major mod name names subs) = false := fun i hi h => bad_shape (t := .mk kind pkg major mod name names subs) (by show i < names.length; omega) h
   have hbig : ¬ ns ≤ 20 → shapeT (.mk kind pkg major mod name names subs) = false := fun h => by
    unfold shapeT
    have : decide ((Ty.mk kind pkg major mod name names subs).subs.length ≤ 20) = false := by simp only [Ty.subs, hns, decide_eq_false_iff_not]; exact h
    rw [this]; rfl
   have hrow : (∀ j, j < ks → badNm kind names j = false) → ns ≤ 20 → shapeT (.mk kind pkg major mod name names subs) = shapeR (.mk kind pkg major mod name names subs) := fun h hn =>
    shape_row (t := .mk kind pkg major mod name names subs) (fun j hj => h j (by have : j < names.length := hj; omega)) (by show subs.length ≤ 20; omega)
   generalize shapeT (.mk kind pkg major mod name names subs) = SH at hbad hbig hrow
   simp only [shapeR, emptyT, Ty.kind, Ty.pkg, Ty.major, Ty.mod, Ty.name, Ty.names, Ty.subs, hns, hks] at hrow
   rw [hks] at hL1
   rw [hns] at hL2
   simp only [tyD, sl1]
   generalize (names.map fun s => [S s]) = NL at hL1 hG1
   generalize tysD subs = SL at hL2
   obtain ⟨E, hE⟩ : ∃ E, (decide (pkg = []) && decide (major = 0) && decide (mod = []) && decide (name = [])) = E := ⟨_, rfl⟩
   rw [hE] at hrow
   refine acalls_vc [0, 1, 2, 3, 4, 5, 6, 7, 8, 9, 10, 11, 19, 22, 70, 99, 100, 113, 124, 132, 144, 155, 184] Tryz.func278 Tryz.ntmps278 (by kernel_rfl) rfl rfl (by simp) ?_
   simp -dsimp [-vc_block, I, hL1, hL2]
   by_cases c5 : (20 : Int) < ns
   ·simp -dsimp [I, c5]
    exact hq ⟨by rw [hbig (by omega)]; rfl, fr _⟩
   simp -dsimp [-vc_block, I, c5]
   refine vc_mid (OwnAft kind names ns ks (m.set n (tyO kind pkg major mod name NL SL)) n) ?_ ?_
   ·rw [vc_block]
    refine vloop_of (β := Nat) (OwnInv kind names ns ks (m.set n (tyO kind pkg major mod name NL SL)) n) (fun i => ks - i) 0 ⟨by simp, by simp [I], by simp [I], by simp [I], by omega, by omega, rfl, rfl⟩ ?_
    rintro i σ m2 n2 ⟨h1, h3, h4, h5, le, al, rfl, rfl⟩
    by_cases hi : (i : Int) < ks
    ·have hi' : i < ks := by omega
     have wi : IntKind.i64.wrap ((i : Int) + 1) = (i : Int) + 1 := wrap_i64 (by omega) (by omega)
     have hiN : i < NL.length := by omega
     have hiM : i < names.length := by omega
     have hgi : NL[i] = [S names[i]] := get_opt (hG1 i hiM) hiN
     have hgd : names.getD i [] = names[i] := by rw [List.getD_eq_getElem?_getD, List.getElem?_eq_getElem hiM]; rfl
     have hbi := hbad i hi'
     have hst : badNm kind names i = false → ∀ j, j < i + 1 → badNm kind names j = false := fun h j hj => by
      by_cases e : j = i
      ·rw [e]; exact h
      ·exact al j (by omega)
     simp only [badNm, hgd] at hbi
     have hst' := hst
     simp only [badNm, hgd] at hst'
     simp -dsimp [h1, h3, h4, h5, I, tyO, hi, hi', hiN, hgi]
     refine aCall_of (cRefSmall names[i] _ _) ?_
     rintro d m' n' ⟨rfl, rfl, rfl⟩
     simp -dsimp [h1, h3, h4, h5, I, tyO, hi', hiN, hgi]
     refine aCall_of (cRefGreat names[i] _ _) ?_
     rintro d m' n' ⟨rfl, rfl, rfl⟩
     have w01 : IntKind.i64.wrap 1 = 1 := wrap_i64 (by omega) (by omega)
     by_cases k5 : kind = 5
     ·subst k5
      cases s5 : smallN names[i] with
      | false =>
       simp -dsimp [h1, h3, h4, h5, I, Tt, tyO, hi', hiN, hgi, s5]
       refine vdraw_treeM (.rd 0 (.rd 1 (.rd 2 (.rd 3 (.rd 4 (.rd 5 (.rd 6 (.rd 7 (.rd 8 (.rd 9 (.rd 10 (.rd 11 (.rd 12 (.rd 13 (.rd 14 (.rd 15 (.rd 16 (.rd 17 (.rd 18 (.rd 19 (.rd 20 (.rd 21 (.rd 22 (.rd 23 (.rd 24 (.rd 25 (.rd 26 (.rd 27 (.rd 28 (.rd 29 (.rd 30 (.rd 31 (.rd 32 (.rd 33 (.fin))))))))))))))))))))))))))))))))))) (by kernel_rfl) (by kernel_rfl) ?_; intro mk
       simp -dsimp [h1, h3, h4, h5, I, Tt, tyO, hi', hiN, hgi, s5]
       exact hq ⟨by rw [hbi (by simp [s5])]; rfl, fr _⟩
      | true =>
      simp -dsimp [h1, h3, h4, h5, I, Tt, tyO, hi', hiN, hgi, s5]
      by_cases i0 : i = 0
      ·subst i0
       refine vdraw_treeM (.rd 0 (.rd 1 (.rd 2 (.rd 3 (.rd 4 (.rd 5 (.rd 6 (.rd 7 (.rd 8 (.rd 9 (.rd 10 (.rd 11 (.rd 12 (.rd 13 (.rd 14 (.rd 15 (.rd 16 (.rd 17 (.rd 18 (.rd 19 (.rd 20 (.rd 21 (.rd 22 (.rd 23 (.rd 24 (.rd 25 (.rd 26 (.rd 27 (.rd 28 (.rd 29 (.rd 30 (.rd 31 (.rd 32 (.rd 33 (.fin))))))))))))))))))))))))))))))))))) (by kernel_rfl) (by kernel_rfl) ?_; intro mk
       simp -dsimp [h1, h3, h4, h5, I, Tt, tyO, hi', hiN, hgi, s5]
       exact ⟨1, by omega, by simp, by simp [I], by simp [I], by simp [I, w01], by omega, hst' (by simp [s5]), rfl, rfl⟩
      ·have i1 : (0 : Int) < i := by omega
       have i1' : 0 < i := by omega
       have w1 : IntKind.i64.wrap ((i : Int) - 1) = ((i - 1 : Nat) : Int) := by rw [wrap_i64 (by omega) (by omega)]; omega
       have hpN : i - 1 < NL.length := by omega
       have hpM : i - 1 < names.length := by omega
       have hpk : i - 1 < ks := by omega
       have hgp : NL[i - 1] = [S names[i - 1]] := get_opt (hG1 (i - 1) hpM) hpN
       have hgq : names.getD (i - 1) [] = names[i - 1] := by rw [List.getD_eq_getElem?_getD, List.getElem?_eq_getElem hpM]; rfl
       have hle := leB names[i] names[i - 1]
       rw [hgq] at hbi hst'
       refine vdraw_treeM (.rd 0 (.rd 1 (.rd 2 (.rd 3 (.rd 4 (.rd 5 (.rd 6 (.rd 7 (.rd 8 (.rd 9 (.rd 10 (.rd 11 (.rd 12 (.rd 13 (.rd 14 (.rd 15 (.rd 16 (.rd 17 (.rd 18 (.rd 19 (.rd 20 (.rd 21 (.rd 22 (.rd 23 (.rd 24 (.rd 25 (.rd 26 (.rd 27 (.rd 28 (.rd 29 (.rd 30 (.rd 31 (.rd 32 (.rd 33 (.fin))))))))))))))))))))))))))))))))))) (by kernel_rfl) (by kernel_rfl) ?_; intro mk
       cases c2 : ltB names[i - 1] names[i] with
       | false =>
        rw [c2] at hle
        simp -dsimp [h1, h3, h4, h5, I, Tt, S, tyO, hi', hiN, hgi, i1, i1', w1, hpN, hpk, hgp, hle, s5]
        exact hq ⟨by rw [hbi (by simp [i1', c2, s5])]; rfl, fr _⟩
       | true =>
        rw [c2] at hle
        simp -dsimp [h1, h3, h4, h5, I, Tt, S, tyO, hi', hiN, hgi, i1, i1', w1, hpN, hpk, hgp, hle, wi, s5]
        exact ⟨i + 1, by omega, by simp, by simp [I], by simp [I], by simp [I], by omega, hst' (by simp [c2, s5]), rfl, rfl⟩
     have k5' : (kind == 5) = false := by simpa using k5
     by_cases k6 : kind = 6
     ·subst k6
      cases s6 : greatN names[i] with
      | false =>
       simp -dsimp [h1, h3, h4, h5, I, Tt, tyO, hi', hiN, hgi, s6]
       refine vdraw_treeM (.rd 0 (.rd 1 (.rd 2 (.rd 3 (.rd 4 (.rd 5 (.rd 6 (.rd 7 (.rd 8 (.rd 9 (.rd 10 (.rd 11 (.rd 12 (.rd 13 (.rd 14 (.rd 15 (.rd 16 (.rd 17 (.rd 18 (.rd 19 (.rd 20 (.rd 21 (.rd 22 (.rd 23 (.rd 24 (.rd 25 (.rd 26 (.rd 27 (.rd 28 (.rd 29 (.rd 30 (.rd 31 (.rd 32 (.rd 33 (.fin))))))))))))))))))))))))))))))))))) (by kernel_rfl) (by kernel_rfl) ?_; intro mk
       simp -dsimp [h1, h3, h4, h5, I, Tt, tyO, hi', hiN, hgi, s6]
       exact hq ⟨by rw [hbi (by simp [s6])]; rfl, fr _⟩
      | true =>
      simp -dsimp [h1, h3, h4, h5, I, Tt, tyO, hi', hiN, hgi, s6]
      by_cases i0 : i = 0
      ·subst i0
       refine vdraw_treeM (.rd 0 (.rd 1 (.rd 2 (.rd 3 (.rd 4 (.rd 5 (.rd 6 (.rd 7 (.rd 8 (.rd 9 (.rd 10 (.rd 11 (.rd 12 (.rd 13 (.rd 14 (.rd 15 (.rd 16 (.rd 17 (.rd 18 (.rd 19 (.rd 20 (.rd 21 (.rd 22 (.rd 23 (.rd 24 (.rd 25 (.rd 26 (.rd 27 (.rd 28 (.rd 29 (.rd 30 (.rd 31 (.rd 32 (.rd 33 (.fin))))))))))))))))))))))))))))))))))) (by kernel_rfl) (by kernel_rfl) ?_; intro mk
       simp -dsimp [h1, h3, h4, h5, I, Tt, tyO, hi', hiN, hgi, s6]
       exact ⟨1, by omega, by simp, by simp [I], by simp [I], by simp [I, w01], by omega, hst' (by simp [s6]), rfl, rfl⟩
      ·have i1 : (0 : Int) < i := by omega
       have i1' : 0 < i := by omega
       have w1 : IntKind.i64.wrap ((i : Int) - 1) = ((i - 1 : Nat) : Int) := by rw [wrap_i64 (by omega) (by omega)]; omega
       have hpN : i - 1 < NL.length := by omega
       have hpM : i - 1 < names.length := by omega
       have hpk : i - 1 < ks := by omega
       have hgp : NL[i - 1] = [S names[i - 1]] := get_opt (hG1 (i - 1) hpM) hpN
       have hgq : names.getD (i - 1) [] = names[i - 1] := by rw [List.getD_eq_getElem?_getD, List.getElem?_eq_getElem hpM]; rfl
       have hle := leB names[i] names[i - 1]
       rw [hgq] at hbi hst'
       refine vdraw_treeM (.rd 0 (.rd 1 (.rd 2 (.rd 3 (.rd 4 (.rd 5 (.rd 6 (.rd 7 (.rd 8 (.rd 9 (.rd 10 (.rd 11 (.rd 12 (.rd 13 (.rd 14 (.rd 15 (.rd 16 (.rd 17 (.rd 18 (.rd 19 (.rd 20 (.rd 21 (.rd 22 (.rd 23 (.rd 24 (.rd 25 (.rd 26 (.rd 27 (.rd 28 (.rd 29 (.rd 30 (.rd 31 (.rd 32 (.rd 33 (.fin))))))))))))))))))))))))))))))))))) (by kernel_rfl) (by kernel_rfl) ?_; intro mk
       cases c2 : ltB names[i - 1] names[i] with
       | false =>
        rw [c2] at hle
        simp -dsimp [h1, h3, h4, h5, I, Tt, S, tyO, hi', hiN, hgi, i1, i1', w1, hpN, hpk, hgp, hle, s6]
        exact hq ⟨by rw [hbi (by simp [i1', c2, s6])]; rfl, fr _⟩
       | true =>
        rw [c2] at hle
        simp -dsimp [h1, h3, h4, h5, I, Tt, S, tyO, hi', hiN, hgi, i1, i1', w1, hpN, hpk, hgp, hle, wi, s6]
        exact ⟨i + 1, by omega, by simp, by simp [I], by simp [I], by simp [I], by omega, hst' (by simp [c2, s6]), rfl, rfl⟩
     have k6' : (kind == 6) = false := by simpa using k6
     ·simp -dsimp [h1, h3, h4, h5, I, Tt, tyO, hi', hiN, hgi, k5', k6']
      by_cases i0 : i = 0
      ·subst i0
       refine vdraw_treeM (.rd 0 (.rd 1 (.rd 2 (.rd 3 (.rd 4 (.rd 5 (.rd 6 (.rd 7 (.rd 8 (.rd 9 (.rd 10 (.rd 11 (.rd 12 (.rd 13 (.rd 14 (.rd 15 (.rd 16 (.rd 17 (.rd 18 (.rd 19 (.rd 20 (.rd 21 (.rd 22 (.rd 23 (.rd 24 (.rd 25 (.rd 26 (.rd 27 (.rd 28 (.rd 29 (.rd 30 (.rd 31 (.rd 32 (.rd 33 (.fin))))))))))))))))))))))))))))))))))) (by kernel_rfl) (by kernel_rfl) ?_; intro mk
       simp -dsimp [h1, h3, h4, h5, I, Tt, tyO, hi', hiN, hgi, k5', k6']
       exact ⟨1, by omega, by simp, by simp [I], by simp [I], by simp [I, w01], by omega, hst' (by simp [k5, k6]), rfl, rfl⟩
      ·have i1 : (0 : Int) < i := by omega
       have i1' : 0 < i := by omega
       have w1 : IntKind.i64.wrap ((i : Int) - 1) = ((i - 1 : Nat) : Int) := by rw [wrap_i64 (by omega) (by omega)]; omega
       have hpN : i - 1 < NL.length := by omega
       have hpM : i - 1 < names.length := by omega
       have hpk : i - 1 < ks := by omega
       have hgp : NL[i - 1] = [S names[i - 1]] := get_opt (hG1 (i - 1) hpM) hpN
       have hgq : names.getD (i - 1) [] = names[i - 1] := by rw [List.getD_eq_getElem?_getD, List.getElem?_eq_getElem hpM]; rfl
       have hle := leB names[i] names[i - 1]
       rw [hgq] at hbi hst'
       refine vdraw_treeM (.rd 0 (.rd 1 (.rd 2 (.rd 3 (.rd 4 (.rd 5 (.rd 6 (.rd 7 (.rd 8 (.rd 9 (.rd 10 (.rd 11 (.rd 12 (.rd 13 (.rd 14 (.rd 15 (.rd 16 (.rd 17 (.rd 18 (.rd 19 (.rd 20 (.rd 21 (.rd 22 (.rd 23 (.rd 24 (.rd 25 (.rd 26 (.rd 27 (.rd 28 (.rd 29 (.rd 30 (.rd 31 (.rd 32 (.rd 33 (.fin))))))))))))))))))))))))))))))))))) (by kernel_rfl) (by kernel_rfl) ?_; intro mk
       cases c2 : ltB names[i - 1] names[i] with
       | false =>
        rw [c2] at hle
        simp -dsimp [h1, h3, h4, h5, I, Tt, S, tyO, hi', hiN, hgi, i1, i1', w1, hpN, hpk, hgp, hle, k5', k6']
        exact hq ⟨by rw [hbi (by simp [i1', c2, k5, k6])]; rfl, fr _⟩
       | true =>
        rw [c2] at hle
        simp -dsimp [h1, h3, h4, h5, I, Tt, S, tyO, hi', hiN, hgi, i1, i1', w1, hpN, hpk, hgp, hle, wi, k5', k6']
        exact ⟨i + 1, by omega, by simp, by simp [I], by simp [I], by simp [I], by omega, hst' (by simp [c2, k5, k6]), rfl, rfl⟩
    ·simp -dsimp [h1, h3, h4, h5, I, hi]
     exact ⟨by simp, by simp [I], by simp [I], fun j hj => al j (by omega), rfl, rfl⟩
   rintro σ m2 n2 ⟨h1, h3, h4, al, rfl, rfl⟩
   have hy := hrow al (by omega)
   rw [vc_seq]
   refine vc_mid (OwnMid E ns ks (m.set n (tyO kind pkg major mod name NL SL)) n) ?_ ?_
   ·have fin : ∀ {b : Bool} {σ' : Nat → D}, b = E → σ' 1 = .ptr n 0 0 0 → σ' 3 = I ns → σ' 4 = I ks → σ' 8 = Tt b → OwnMid E ns ks (m.set n (tyO kind pkg major mod name NL SL)) n σ' (m.set n (tyO kind pkg major mod name NL SL)) (n + 1) := fun e a b c d => ⟨a, b, c, by rw [← e]; exact d, rfl, rfl⟩
    by_cases p1 : pkg = []
    case neg =>
     have p1' : (pkg == []) = false := by simpa using p1
     simp -dsimp [h1, h3, h4, I, S, tyO, p1']
     exact fin (b := false) (by rw [← hE]; simp [p1]) (by simp) (by simp [I]) (by simp [I]) (by simp [Tt])
    subst p1
    by_cases p2 : major = 0
    case neg =>
     have p2' : (major == 0) = false := by simpa using p2
     simp -dsimp [h1, h3, h4, I, S, tyO, p2']
     exact fin (b := false) (by rw [← hE]; simp [p2]) (by simp) (by simp [I]) (by simp [I]) (by simp [Tt])
    subst p2
    by_cases p3 : mod = []
    case neg =>
     have p3' : (mod == []) = false := by simpa using p3
     simp -dsimp [h1, h3, h4, I, S, tyO, p3']
     exact fin (b := false) (by rw [← hE]; simp [p3]) (by simp) (by simp [I]) (by simp [I]) (by simp [Tt])
    subst p3
    by_cases p4 : name = []
    case neg =>
     have p4' : (name == []) = false := by simpa using p4
     simp -dsimp [h1, h3, h4, I, S, tyO, p4']
     exact fin (b := false) (by rw [← hE]; simp [p4]) (by simp) (by simp [I]) (by simp [I]) (by simp [Tt])
    ·subst p4
     simp -dsimp [h1, h3, h4, I, S, tyO]
     exact fin (b := true) (by rw [← hE]; simp) (by simp) (by simp [I]) (by simp [I]) (by simp [Tt])
   rintro σ m2 n2 ⟨h1, h3, h4, h8, rfl, rfl⟩
   clear hE al hbad hbig hrow
   simp -dsimp [h1, h3, h4, h8, I, S, Tt, tyO]
   refine aCall_of (cRefGreat name _ _) ?_
   rintro d m' n' ⟨rfl, rfl, rfl⟩
   simp -dsimp [h1, h3, h4, h8, I, S, Tt, tyO]
   refine aCall_of (cRefSmall mod _ _) ?_
   rintro d m' n' ⟨rfl, rfl, rfl⟩
   simp -dsimp [h1, h3, h4, h8, I, S, Tt, tyO]
   refine aCall_of (cRefSmall pkg _ _) ?_
   rintro d m' n' ⟨rfl, rfl, rfl⟩
   simp -dsimp [h1, h3, h4, h8, I, S, Tt, tyO]
   by_cases k1 : kind = 1
   ·subst k1
    simp only [true_or, or_true, if_true] at hy
    rw [hy]
    cases E with
    | false =>
     simp -dsimp [h1, h3, h4, h8, I, S, Tt, tyO]
     exact hq ⟨by simp [Tt], fr _⟩
    | true =>
    by_cases e1 : ns = 0
    ·have e1' : ((ns : Int) == 0) = true := by simpa using e1
     by_cases e2 : ks = 0
     ·have e2' : ((ks : Int) == 0) = true := by simpa using e2
      simp -dsimp [h1, h3, h4, h8, I, S, Tt, tyO, e1', e2']
      exact hq ⟨by simp [Tt, e1, e2], fr _⟩
     ·have e2' : ((ks : Int) == 0) = false := by simpa using e2
      simp -dsimp [h1, h3, h4, h8, I, S, Tt, tyO, e1', e2']
      exact hq ⟨by simp [Tt, e2], fr _⟩
    ·have e1' : ((ns : Int) == 0) = false := by simpa using e1
     simp -dsimp [h1, h3, h4, h8, I, S, Tt, tyO, e1']
     exact hq ⟨by simp [Tt, e1], fr _⟩
   have k1' : (kind == 1) = false := by simpa using k1
   by_cases k2 : kind = 2
   ·subst k2
    simp only [true_or, or_true, if_true] at hy
    rw [hy]
    cases E with
    | false =>
     simp -dsimp [h1, h3, h4, h8, I, S, Tt, tyO]
     exact hq ⟨by simp [Tt], fr _⟩
    | true =>
    by_cases e1 : ns = 0
    ·have e1' : ((ns : Int) == 0) = true := by simpa using e1
     by_cases e2 : ks = 0
     ·have e2' : ((ks : Int) == 0) = true := by simpa using e2
      simp -dsimp [h1, h3, h4, h8, I, S, Tt, tyO, e1', e2']
      exact hq ⟨by simp [Tt, e1, e2], fr _⟩
     ·have e2' : ((ks : Int) == 0) = false := by simpa using e2
      simp -dsimp [h1, h3, h4, h8, I, S, Tt, tyO, e1', e2']
      exact hq ⟨by simp [Tt, e2], fr _⟩
    ·have e1' : ((ns : Int) == 0) = false := by simpa using e1
     simp -dsimp [h1, h3, h4, h8, I, S, Tt, tyO, e1']
     exact hq ⟨by simp [Tt, e1], fr _⟩
   have k2' : (kind == 2) = false := by simpa using k2
   by_cases k3 : kind = 3
   ·subst k3
    simp only [true_or, or_true, if_true] at hy
    rw [hy]
    cases E with
    | false =>
     simp -dsimp [h1, h3, h4, h8, I, S, Tt, tyO]
     exact hq ⟨by simp [Tt], fr _⟩
    | true =>
    by_cases e1 : ns = 0
    ·have e1' : ((ns : Int) == 0) = true := by simpa using e1
     by_cases e2 : ks = 0
     ·have e2' : ((ks : Int) == 0) = true := by simpa using e2
      simp -dsimp [h1, h3, h4, h8, I, S, Tt, tyO, e1', e2']
      exact hq ⟨by simp [Tt, e1, e2], fr _⟩
     ·have e2' : ((ks : Int) == 0) = false := by simpa using e2
      simp -dsimp [h1, h3, h4, h8, I, S, Tt, tyO, e1', e2']
      exact hq ⟨by simp [Tt, e2], fr _⟩
    ·have e1' : ((ns : Int) == 0) = false := by simpa using e1
     simp -dsimp [h1, h3, h4, h8, I, S, Tt, tyO, e1']
     exact hq ⟨by simp [Tt, e1], fr _⟩
   have k3' : (kind == 3) = false := by simpa using k3
   simp only [k1, k2, k3, or_self, if_false] at hy
   simp -dsimp [k1', k2', k3']
   by_cases k4 : kind = 4
   ·subst k4
    simp only [if_true] at hy
    rw [hy]
    cases E with
    | false =>
     simp -dsimp [h1, h3, h4, h8, I, S, Tt, tyO]
     exact hq ⟨by simp [Tt], fr _⟩
    | true =>
    by_cases e1 : ns = 1
    ·have e1' : ((ns : Int) == 1) = true := by simp [e1]
     by_cases e2 : ks = 0
     ·have e2' : ((ks : Int) == 0) = true := by simpa using e2
      simp -dsimp [h1, h3, h4, h8, I, S, Tt, tyO, e1', e2']
      exact hq ⟨by simp [Tt, e1, e2], fr _⟩
     ·have e2' : ((ks : Int) == 0) = false := by simpa using e2
      simp -dsimp [h1, h3, h4, h8, I, S, Tt, tyO, e1', e2']
      exact hq ⟨by simp [Tt, e2], fr _⟩
    ·have e1' : ((ns : Int) == 1) = false := by simp; omega
     simp -dsimp [h1, h3, h4, h8, I, S, Tt, tyO, e1']
     exact hq ⟨by simp [Tt, e1], fr _⟩
   have k4' : (kind == 4) = false := by simpa using k4
   simp only [k4, if_false] at hy
   simp -dsimp [k4']
   by_cases k5 : kind = 5
   ·subst k5
    simp only [if_true] at hy
    rw [hy]
    cases E with
    | false =>
     simp -dsimp [h1, h3, h4, h8, I, S, Tt, tyO]
     exact hq ⟨by simp [Tt], fr _⟩
    | true =>
    by_cases e1 : ns = ks
    ·have e1' : ((ns : Int) == ks) = true := by simp [e1]
     simp -dsimp [h1, h3, h4, h8, I, S, Tt, tyO, e1']
     exact hq ⟨by simp [Tt, e1], fr _⟩
    ·have e1' : ((ns : Int) == ks) = false := by simp; omega
     simp -dsimp [h1, h3, h4, h8, I, S, Tt, tyO, e1']
     exact hq ⟨by simp [Tt, e1], fr _⟩
   have k5' : (kind == 5) = false := by simpa using k5
   simp only [k5, if_false] at hy
   simp -dsimp [k5']
   by_cases k6 : kind = 6
   ·subst k6
    simp only [if_true] at hy
    rw [hy]
    cases E with
    | false =>
     simp -dsimp [h1, h3, h4, h8, I, S, Tt, tyO]
     exact hq ⟨by simp [Tt], fr _⟩
    | true =>
    by_cases e1 : ns = ks
    ·have e1' : ((ns : Int) == ks) = true := by simp [e1]
     by_cases e0 : (0 : Int) < ns
     ·have e00 : 0 < ns := by omega
      simp -dsimp [h1, h3, h4, h8, I, S, Tt, tyO, e1', e0, e00]
      exact hq ⟨by simp [Tt, ← e1, e00], fr _⟩
     ·have e00 : ¬ 0 < ns := by omega
      simp -dsimp [h1, h3, h4, h8, I, S, Tt, tyO, e1', e0, e00]
      exact hq ⟨by simp [Tt]; omega, fr _⟩
    ·have e1' : ((ns : Int) == ks) = false := by simp; omega
     simp -dsimp [h1, h3, h4, h8, I, S, Tt, tyO, e1']
     exact hq ⟨by simp [Tt, e1], fr _⟩
   have k6' : (kind == 6) = false := by simpa using k6
   simp only [k6, if_false] at hy
   simp -dsimp [k6']
   by_cases k7 : kind = 7
   ·subst k7
    simp only [if_true] at hy
    rw [hy]
    cases E with
    | false =>
     simp -dsimp [h1, h3, h4, h8, I, S, Tt, tyO]
     exact hq ⟨by simp [Tt], fr _⟩
    | true =>
    by_cases e0 : (0 : Int) < ns
    ·have e00 : 0 < ns := by omega
     by_cases e2 : ks = 0
     ·have e2' : ((ks : Int) == 0) = true := by simpa using e2
      simp -dsimp [h1, h3, h4, h8, I, S, Tt, tyO, e0, e00, e2']
      exact hq ⟨by simp [Tt, e00, e2], fr _⟩
     ·have e2' : ((ks : Int) == 0) = false := by simpa using e2
      simp -dsimp [h1, h3, h4, h8, I, S, Tt, tyO, e0, e00, e2']
      exact hq ⟨by simp [Tt, e2], fr _⟩
    ·have e00 : ¬ 0 < ns := by omega
     simp -dsimp [h1, h3, h4, h8, I, S, Tt, tyO, e0, e00]
     exact hq ⟨by simp [Tt]; omega, fr _⟩
   have k7' : (kind == 7) = false := by simpa using k7
   simp only [k7, if_false] at hy
   simp -dsimp [k7']
   by_cases k8 : kind = 8
   ·subst k8
    simp only [if_true] at hy
    rw [hy]
    by_cases e1 : ns = 0
    case neg =>
     have e1' : ((ns : Int) == 0) = false := by simpa using e1
     simp -dsimp [h1, h3, h4, h8, I, S, Tt, tyO, e1']
     exact hq ⟨by simp [Tt, e1], fr _⟩
    have e1' : ((ns : Int) == 0) = true := by simpa using e1
    by_cases e2 : ks = 0
    case neg =>
     have e2' : ((ks : Int) == 0) = false := by simpa using e2
     simp -dsimp [h1, h3, h4, h8, I, S, Tt, tyO, e1', e2']
     exact hq ⟨by simp [Tt, e2], fr _⟩
    have e2' : ((ks : Int) == 0) = true := by simpa using e2
    by_cases p1 : pkg = []
    case neg =>
     have p1' : (pkg == []) = false := by simpa using p1
     simp -dsimp [h1, h3, h4, h8, I, S, Tt, tyO, e1', e2', p1']
     exact hq ⟨by simp [Tt, p1], fr _⟩
    by_cases p2 : major = 0
    case neg =>
     have p2' : (major == 0) = false := by simpa using p2
     simp -dsimp [h1, h3, h4, h8, I, S, Tt, tyO, e1', e2', p1, p2']
     exact hq ⟨by simp [Tt, p2], fr _⟩
    cases e3 : greatN name with
    | false =>
     simp -dsimp [h1, h3, h4, h8, I, S, Tt, tyO, e1', e2', p1, p2, e3]
     exact hq ⟨by simp [Tt], fr _⟩
    | true =>
    cases e4 : smallN mod with
    | true =>
     simp -dsimp [h1, h3, h4, h8, I, S, Tt, tyO, e1', e2', p1, p2, e3, e4]
     exact hq ⟨by simp [Tt, e1, e2, p1, p2], fr _⟩
    | false =>
     by_cases p3 : mod = []
     ·simp -dsimp [h1, h3, h4, h8, I, S, Tt, tyO, e1', e2', p1, p2, e3, e4, p3]
      exact hq ⟨by simp [Tt, e1, e2, p1, p2, p3], fr _⟩
     ·have p3' : (mod == []) = false := by simpa using p3
      simp -dsimp [h1, h3, h4, h8, I, S, Tt, tyO, e1', e2', p1, p2, e3, e4, p3']
      exact hq ⟨by simp [Tt, p3], fr _⟩
   have k8' : (kind == 8) = false := by simpa using k8
   simp only [k8, if_false] at hy
   simp -dsimp [k8']
   by_cases k9 : kind = 9
   ·subst k9
    simp only [if_true] at hy
    rw [hy]
    by_cases e1 : ns = 0
    case neg =>
     have e1' : ((ns : Int) == 0) = false := by simpa using e1
     simp -dsimp [h1, h3, h4, h8, I, S, Tt, tyO, e1']
     exact hq ⟨by simp [Tt, e1], fr _⟩
    have e1' : ((ns : Int) == 0) = true := by simpa using e1
    by_cases e2 : ks = 0
    case neg =>
     have e2' : ((ks : Int) == 0) = false := by simpa using e2
     simp -dsimp [h1, h3, h4, h8, I, S, Tt, tyO, e1', e2']
     exact hq ⟨by simp [Tt, e2], fr _⟩
    have e2' : ((ks : Int) == 0) = true := by simpa using e2
    cases e3 : smallN pkg with
    | false =>
     simp -dsimp [h1, h3, h4, h8, I, S, Tt, tyO, e1', e2', e3]
     exact hq ⟨by simp [Tt], fr _⟩
    | true =>
    cases e4 : smallN mod with
    | false =>
     simp -dsimp [h1, h3, h4, h8, I, S, Tt, tyO, e1', e2', e3, e4]
     exact hq ⟨by simp [Tt], fr _⟩
    | true =>
    cases e5 : greatN name with
    | false =>
     simp -dsimp [h1, h3, h4, h8, I, S, Tt, tyO, e1', e2', e3, e4, e5]
     exact hq ⟨by simp [Tt], fr _⟩
    | true =>
    by_cases e6 : 1 ≤ major
    ·by_cases e7 : major ≤ 999999999
     ·simp -dsimp [h1, h3, h4, h8, I, S, Tt, tyO, e1', e2', e3, e4, e5, e6, e7]
      exact hq ⟨by simp [Tt, e1, e2, e6, e7], fr _⟩
     ·simp -dsimp [h1, h3, h4, h8, I, S, Tt, tyO, e1', e2', e3, e4, e5, e6, e7]
      exact hq ⟨by simp [Tt, e7], fr _⟩
    ·simp -dsimp [h1, h3, h4, h8, I, S, Tt, tyO, e1', e2', e3, e4, e5, e6]
     exact hq ⟨by simp [Tt, e6], fr _⟩
   have k9' : (kind == 9) = false := by simpa using k9
   simp only [k9, if_false] at hy
   simp -dsimp [k9']
   rw [hy]
   exact hq ⟨rfl, fr _⟩
 ·rintro d m' n' ⟨rfl, h⟩
  exact ⟨_, (pur_T _).pub, h, rfl⟩
structure AllInv (kind : Int) (pkg : List UInt8) (major : Int) (mod name : List UInt8) (NL SL : List (List D)) (subs : List Ty) (sh : Bool) (m : Mem) (n : Nat) (i : Nat) (σ : Nat → D) (m2 : Mem) (n2 : Nat) : Prop where
 h1 : σ 1 = .ptr n 0 0 0
 h3 : σ 3 = Tt (sh && allTs (subs.take i))
 h4 : σ 4 = I i
 le : i ≤ subs.length
 mm : m2 = m.set n (tyO kind pkg major mod name NL SL)
 nn : n2 = n + 1
set_option maxHeartbeats 2000000 in
theorem cAll {t : Ty} (ht : TyW t) : ∀ (m : Mem) (n : Nat), ACalls Tryz.prog 221 [.agg (tyD t)] m n (fun d m' n' => d = Tt (allT t) ∧ m' = m ∧ n' = n) := by
 induction ht with
 | mk kind pkg major mod name names subs l1 l2 l3 l4 l5 l6 l7 ih =>
  intro m n
  refine acalls_done (R' := Hq (fun d m' n' => d = Tt (allT (.mk kind pkg major mod name names subs)) ∧ ∀ j, j < n → m' j = m j) tg) ?_ ?_
  ·have fr : ∀ o j, j < n → (m.set n o) j = m j := fun o j hj => by rw [set_ne _ _ _ _ (by omega)]
   have hL2 : (tysD subs).length = subs.length := by rw [tysD_eq]; simp
   have hG2 : ∀ i (h : i < subs.length), (tysD subs)[i]? = some (tyD subs[i]) := fun i h => by rw [tysD_eq]; simp [h]
   have hown := fun m n => cOwn (.mk kind pkg major mod name names subs l1 l2 l3 l4 l5 l6 l7) m n
   have hsplit : ∀ i, allTs (subs.take i) = false → allTs subs = false := fun i h => by
    cases e : allTs subs
    ·rfl
    ·rw [allTs_take e i] at h; cases h
   simp only [tyD, sl1, allT] at hown ⊢
   generalize shapeT (.mk kind pkg major mod name names subs) = SH at hown ⊢
   generalize (names.map fun s => [S s]) = NL at hown
   generalize tysD subs = SL at hL2 hG2 hown
   refine acalls_vc [0, 1, 2, 3, 4, 14] Tryz.func221 Tryz.ntmps221 (by kernel_rfl) rfl rfl (by simp) ?_
   simp -dsimp [I]
   refine aCall_of (hown _ _) ?_
   rintro d m' n' ⟨rfl, rfl, rfl⟩
   simp -dsimp [I, Tt]
   refine vloop_of (β := Nat) (AllInv kind pkg major mod name NL SL subs SH m n) (fun i => subs.length - i) 0 ⟨by simp, by simp [allTs, Tt], by simp [I], by omega, rfl, rfl⟩ ?_
   rintro i σ m2 n2 ⟨h1, h3, h4, le, rfl, rfl⟩
   cases hb : (SH && allTs (subs.take i)) with
   | false =>
    rw [hb] at h3
    simp -dsimp [h1, h3, h4, I, Tt, tyO, hL2]
    refine hq ⟨?_, fr _⟩
    have : (SH && allTs subs) = false := by
     rcases Bool.and_eq_false_iff.1 hb with h | h
     ·simp [h]
     ·simp [hsplit i h]
    rw [this]; rfl
   | true =>
   rw [hb] at h3
   by_cases hi : (i : Int) < subs.length
   ·have hi' : i < subs.length := by omega
    have wi : IntKind.i64.wrap ((i : Int) + 1) = (i : Int) + 1 := wrap_i64 (by omega) (by omega)
    have hiN : i < SL.length := by omega
    have hgi : SL[i] = tyD subs[i] := get_opt (hG2 i hi') hiN
    have hih := fun m n => ih subs[i] (List.getElem_mem hi') m n
    have hsn : allTs (subs.take (i + 1)) = (allTs (subs.take i) && allT subs[i]) := by rw [take_snoc hi', allTs_append]; simp [allTs]
    have h77 := tyD_len subs[i]
    generalize tyD subs[i] = TT at hgi hih h77
    have ht7 : List.take 7 TT = TT := List.take_of_length_le (by omega)
    simp -dsimp [h1, h3, h4, I, Tt, tyO, hL2, hi, hi', hiN, hgi, h77, ht7]
    refine aCall_of (hih _ _) ?_
    rintro d m' n' ⟨rfl, rfl, rfl⟩
    simp -dsimp [h1, h3, h4, I, wi]
    refine ⟨i + 1, by omega, by simp, ?_, by simp [I], by omega, rfl, rfl⟩
    simp only [Bool.and_eq_true] at hb
    simp [hsn, hb, Tt]
   ·have ht : subs.take i = subs := List.take_of_length_le (by omega)
    rw [ht] at hb
    simp -dsimp [h1, h3, h4, I, Tt, tyO, hL2, hi]
    exact hq ⟨by rw [hb]; rfl, fr _⟩
  ·rintro d m' n' ⟨rfl, h⟩
   exact ⟨_, (pur_T _).pub, h, rfl⟩
theorem cRMay {t : Ty} (ht : TyW t) (hb : manyT t ≤ 1000000) (m : Mem) (n : Nat) : ACalls Tryz.prog 159 [.agg (tyD t)] m n (fun d m' n' => d = Tt (mayT t) ∧ m' = m ∧ n' = n) := by
 refine acalls_done (R' := Hq (fun d m' n' => d = Tt (mayT t) ∧ ∀ j, j < n → m' j = m j) tg) ?_ ?_
 ·have fr : ∀ o j, j < n → (m.set n o) j = m j := fun o j hj => by rw [set_ne _ _ _ _ (by omega)]
  have h7 := tyD_len t
  have h1 := fun m n => cAll ht m n
  have h2 := fun m n => cMany ht m n hb
  have h3 := fun m n => cDeep ht m n hb
  generalize tyD t = TT at h7 h1 h2 h3
  have ht7 : List.take 7 TT = TT := List.take_of_length_le (by omega)
  unfold mayT
  refine acalls_vc [0, 1, 2, 3] Tryz.func159 Tryz.ntmps159 (by kernel_rfl) rfl rfl (by simp) ?_
  simp -dsimp [h7, ht7]
  refine aCall_of (h1 _ _) ?_
  rintro d m' n' ⟨rfl, rfl, rfl⟩
  cases e1 : allT t with
  | false =>
   simp -dsimp [I, Tt]
   exact hq ⟨by simp [Tt], fr _⟩
  | true =>
  simp -dsimp [I, Tt, h7, ht7]
  refine aCall_of (h2 _ _) ?_
  rintro d m' n' ⟨rfl, rfl, rfl⟩
  by_cases e2 : manyT t ≤ 500
  ·have e2' : (manyT t : Int) ≤ 500 := by omega
   simp -dsimp [I, Tt, h7, ht7, e2, e2']
   refine aCall_of (h3 _ _) ?_
   rintro d m' n' ⟨rfl, rfl, rfl⟩
   simp -dsimp [I, Tt]
   refine hq ⟨?_, fr _⟩
   have : (decide ((deepT t : Int) ≤ 32)) = decide (deepT t ≤ 32) := by
    by_cases e : deepT t ≤ 32
    ·simp [e]; omega
    ·simp [e]; omega
   simp [Tt, e2, this]
  ·have e2' : ¬ (manyT t : Int) ≤ 500 := by omega
   simp -dsimp [I, Tt, e2, e2']
   exact hq ⟨by simp [Tt]; omega, fr _⟩
 ·rintro d m' n' ⟨rfl, h⟩
  exact ⟨_, (pur_T _).pub, h, rfl⟩
end Go.Proofs.Mv.App
open Go Go.Proofs Go.Proofs.Mv.V
set_option maxRecDepth 10000
namespace Go.Proofs.Mv.App
theorem cRSm (s : List UInt8) : Pc Tryz.prog 51 [S s] (Tt (smallN s)) := fun m n => cRefSmall s m n
theorem cRGr (s : List UInt8) : Pc Tryz.prog 277 [S s] (Tt (greatN s)) := fun m n => cRefGreat s m n
end Go.Proofs.Mv.App
open Go Go.Proofs Go.Proofs.Mv.V
set_option maxRecDepth 10000
namespace Go.Proofs.Mv.App
theorem beq_no {a b : List UInt8} (h : ¬ a = b) : (a == b) = false := by simpa using h
theorem word_cases {s : List UInt8} : s ∈ wordsT ↔ (s = [102, 110] ∨ s = [105, 102] ∨ s = [116, 104, 101, 110] ∨ s = [101, 108, 115, 101] ∨ s = [99, 97, 115, 101] ∨ s = [111, 102] ∨ s = [101, 110, 100] ∨ s = [108, 101, 116]) := by
 simp [wordsT]
set_option maxHeartbeats 1000000 in
theorem cRNameT (s : List UInt8) : Pc Tryz.prog 52 [S s] (Tt (nameN s)) := by
 refine pc_of (pur_T _) (fun m n => ?_)
 refine acalls_vc [0, 2, 3] Tryz.func52 Tryz.ntmps52 (by kernel_rfl) rfl rfl (by simp) ?_
 simp -dsimp [S]
 refine pcall (cRSm s) ?_
 cases h : smallN s
 ·simp -dsimp [Tt]
  exact pcq' (by simp [nameN, h])
 ·by_cases hw : s ∈ wordsT
  ·have hn : nameN s = false := by simp [nameN, hw]
   rw [hn]
   rw [word_cases] at hw
   rcases hw with rfl | rfl | rfl | rfl | rfl | rfl | rfl | rfl
   all_goals
    simp -dsimp [S, Tt]
    exact pcq' rfl
  ·have hn : nameN s = true := by simp [nameN, h, hw]
   rw [hn]
   rw [word_cases] at hw
   simp only [not_or] at hw
   obtain ⟨e1, e2, e3, e4, e5, e6, e7, e8⟩ := hw
   simp -dsimp [S, Tt, beq_no e1, beq_no e2, beq_no e3, beq_no e4, beq_no e5, beq_no e6, beq_no e7, beq_no e8]
   exact pcq' rfl
theorem cRTagT (s : List UInt8) : Pc Tryz.prog 220 [S s] (Tt (tagN s)) := by
 refine pc_of (pur_T _) (fun m n => ?_)
 refine acalls_vc [0, 2, 3] Tryz.func220 Tryz.ntmps220 (by kernel_rfl) rfl rfl (by simp) ?_
 simp -dsimp [S]
 refine pcall (cRGr s) ?_
 cases h : greatN s
 ·simp -dsimp [Tt]
  exact pcq' (by simp [tagN, h])
 ·by_cases e1 : s = wTrue
  ·subst e1
   simp -dsimp [S, Tt, wTrue]
   exact pcq' (by simp [tagN, wTrue, wFalse])
  ·by_cases e2 : s = wFalse
   ·subst e2
    simp -dsimp [S, Tt, wFalse]
    exact pcq' (by simp [tagN, wTrue, wFalse])
   ·have hn : tagN s = true := by simp [tagN, h, e1, e2]
    rw [hn]
    simp only [wTrue, wFalse] at e1 e2
    simp -dsimp [S, Tt, beq_no e1, beq_no e2]
    exact pcq' rfl
theorem cWordT (s : List UInt8) : Pc Tryz.prog 248 [S s] (Tt (decide (s ∈ wordsT))) := by
 refine pc_of (pur_T _) (fun m n => ?_)
 refine acalls_vc [0, 2] Tryz.func248 Tryz.ntmps248 (by kernel_rfl) rfl rfl (by simp) ?_
 simp -dsimp [S]
 refine aCall_of (cContainsStr wordsT s n _ _ (by decide) (by simp [wordsT, S])) ?_
 rintro d m' n' ⟨rfl, rfl, rfl⟩
 simp -dsimp [Tt]
 exact pcq rfl fun j hj => set_ne _ _ _ _ (by omega)
theorem cNameT {s : List UInt8} (hs : s.length ≤ 9223372036854775807) : Pc Tryz.prog 186 [S s] (Tt (nameN s)) := by
 refine pc_of (pur_T _) (fun m n => ?_)
 refine acalls_vc [0, 2] Tryz.func186 Tryz.ntmps186 (by kernel_rfl) rfl rfl (by simp) ?_
 simp -dsimp [S]
 refine pcall (fun m n => cSmall s hs m n) ?_
 cases h : smallN s
 ·simp -dsimp [Tt]
  exact pcq' (by simp [nameN, h])
 ·simp -dsimp [Tt, S]
  refine pcall (cWordT s) ?_
  simp -dsimp [Tt]
  exact pcq' (by simp [nameN, h])
theorem cTagT {s : List UInt8} (hs : s.length ≤ 9223372036854775807) : Pc Tryz.prog 188 [S s] (Tt (tagN s)) := by
 refine pc_of (pur_T _) (fun m n => ?_)
 refine acalls_vc [0, 2] Tryz.func188 Tryz.ntmps188 (by kernel_rfl) rfl rfl (by simp) ?_
 simp -dsimp [S]
 refine pcall (fun m n => cGreat s hs m n) ?_
 cases h : greatN s
 ·simp -dsimp [Tt]
  exact pcq' (by simp [tagN, h])
 ·by_cases e1 : s = wTrue
  ·subst e1
   simp -dsimp [S, Tt, wTrue]
   exact pcq' (by simp [tagN, wTrue, wFalse])
  ·by_cases e2 : s = wFalse
   ·subst e2
    simp -dsimp [S, Tt, wFalse]
    exact pcq' (by simp [tagN, wTrue, wFalse])
   ·have hn : tagN s = true := by simp [tagN, h, e1, e2]
    rw [hn]
    simp only [wTrue, wFalse] at e1 e2
    simp -dsimp [S, Tt, beq_no e1, beq_no e2]
    exact pcq' rfl
end Go.Proofs.Mv.App
