/- A part of the proofs: machine, contracts, laws. No condition of its own. -/
import Derived.Test.YtihbegkefjjhpaaGreatDoorP08
import Derived.Test.YtihbegkefjjhpaaGreatDoorMvD
import Derived.Test.YtihbegkefjjhpaaGreatDoorP06
import Derived.Test.YtihbegkefjjhpaaGreatDoorP00
set_option linter.unusedSimpArgs false
set_option linter.unusedVariables false
set_option linter.unusedSectionVars false
open Go Go.Proofs Go.Proofs.Mv.V
set_option maxRecDepth 10000
namespace Go.Proofs.Mv.App
section
variable [GI]
end
section
variable [GI]
def TyQ (l : List Tok) (k : Nat) (m : Mem) (n : Nat) (t : Ty) (q : PS) : D → Mem → Nat → Prop :=
  Hq (fun d m' n' => ∃ t', PubAs n m' d (.agg (tyD t')) ∧ (q.bad = 0 → t' = t) ∧ m' k = some (pObj l q) ∧ ∀ j, j < n → j ≠ k → m' j = m j) tg
end
@[simp] theorem okD_toks [GI] (l : List Tok) : okD (toksD l) = true := rfl
@[simp] theorem cellsOf_toks [GI] (l : List Tok) : cellsOf (toksD l) = [toksD l] := rfl
@[simp] theorem okD_errO' [GI] (a c : Int) : okD (spotE a c) = true := rfl
@[simp] theorem cellsOf_spotE [GI] (a c : Int) : cellsOf (spotE a c) = [spotE a c] := rfl
inductive PErr where
  | none
  | large
  | spot (a : Int) (c : Nat)
end Go.Proofs.Mv.App
open Go Go.Proofs Go.Proofs.Mv.V
set_option maxRecDepth 10000
namespace Go.Proofs.Mv.App
structure Imp where
  pkg : List UInt8
  major : Int
  mod : List UInt8
  as_ : List UInt8
def impD (i : Imp) : List D := [S i.pkg, I i.major, S i.mod, S i.as_]
end Go.Proofs.Mv.App
open Go Go.Proofs Go.Proofs.Mv.V
set_option maxRecDepth 10000
namespace Go.Proofs.Mv.App
structure Ln where
  kind : Int
  mod : List UInt8
  name : List UInt8
  typ : Ty
def lnD (x : Ln) : List D := I x.kind :: S x.mod :: S x.name :: tyD x.typ
@[simp] theorem lnD_len (x : Ln) : (lnD x).length = 10 := by simp [lnD, tyD_len]
structure Us where
  imps : List Imp
  lines : List Ln
end Go.Proofs.Mv.App
open Go Go.Proofs Go.Proofs.Mv.V
set_option maxRecDepth 10000
namespace Go.Proofs.Mv.App
structure ImpWU (i : Imp) : Prop where
  h1 : i.pkg.length ≤ 9223372036854775807
  h2 : i.mod.length ≤ 9223372036854775807
  h3 : i.as_.length ≤ 9223372036854775807
structure LnW (d : Ln) : Prop where
  h1 : d.mod.length ≤ 9223372036854775807
  h2 : d.name.length ≤ 9223372036854775807
  h3 : TyW d.typ
structure UsW (x : Us) : Prop where
  h1 : x.imps.length ≤ 9223372036854775807
  h2 : x.lines.length ≤ 9223372036854775807
  h3 : ∀ i ∈ x.imps, ImpWU i
  h4 : ∀ d ∈ x.lines, LnW d
@[simp] theorem impD_len (i : Imp) : (impD i).length = 4 := rfl
end Go.Proofs.Mv.App
open Go Go.Proofs Go.Proofs.Mv.V
set_option maxRecDepth 10000
namespace Go.Proofs.Mv.App
variable [GI]
def mayFn (g : Bool) : D := .func (.func (if g then 158 else 156)) [] []
theorem cNam (g : Bool) (s : List UInt8) (hs : s.length ≤ 9223372036854775807) (m : Mem) (n : Nat) : ACalls Tryz.prog (if g then 158 else 156) [S s] m n (fun d m' n' => d = Tt (namOk g s) ∧ m' = m ∧ n' = n) := by
  cases g
  · exact cSmall s hs m n
  · exact cGreat s hs m n
structure NmsInv (g : Bool) (l : List (List UInt8)) (M : Mem) (n0 : Nat) (i : Nat) (σ : Nat → D) (m2 : Mem) (n2 : Nat) : Prop where
  h0 : σ 0 = sl1 l
  h1 : σ 1 = mayFn g
  h7 : σ 7 = sl1 l
  h8 : σ 8 = I l.length
  h9 : σ 9 = I i
  le : i ≤ l.length
  al : ∀ j, j < i → stepOk g l j = true
  mm : m2 = M
  nn : n2 = n0
theorem rising_no {g : Bool} {l : List (List UInt8)} {i : Nat} (hi : i < l.length) (h : stepOk g l i = false) : risingN g l = false := by
  cases e : risingN g l
  · rfl
  · have := List.all_eq_true.1 e i (List.mem_range.2 hi); rw [h] at this; cases this
theorem rising_yes {g : Bool} {l : List (List UInt8)} {i : Nat} (hi : l.length ≤ i) (h : ∀ j, j < i → stepOk g l j = true) : risingN g l = true :=
  List.all_eq_true.2 fun j hj => h j (by have := List.mem_range.1 hj; omega)
set_option maxHeartbeats 1000000 in
theorem cNames (g : Bool) (l : List (List UInt8)) (hl : l.length ≤ 9223372036854775807) (hs : ∀ s ∈ l, s.length ≤ 9223372036854775807) (m : Mem) (n : Nat) :
    ACalls Tryz.prog 247 [sl1 l, mayFn g] m n (fun d m' n' => d = Tt (risingN g l) ∧ m' = m ∧ n' = n) := by
  refine acalls_vc [0, 1, 4, 5, 6, 7, 8, 9, 10, 30] Tryz.func247 Tryz.ntmps247 (by kernel_rfl) rfl rfl (by simp) ?_
  simp -dsimp [sl1]
  refine vloop_of (β := Nat) (NmsInv g l m n) (fun i => l.length - i) 0 ⟨by simp [sl1], by simp, by simp [sl1], by simp [I], by simp [I], by omega, by omega, rfl, rfl⟩ ?_
  rintro i σ m2 n2 ⟨h0, h1, h7, h8, h9, le, al, rfl, rfl⟩
  by_cases hi : (i : Int) < l.length
  · have hi' : i < l.length := by omega
    have wi : IntKind.i64.wrap ((i : Int) + 1) = (i : Int) + 1 := wrap_i64 (by omega) (by omega)
    simp -dsimp [h0, h1, h7, h8, h9, I, sl1, hi, hi', mayFn]
    refine aCall_of (cNam g l[i] (hs _ (List.getElem_mem hi')) _ _) ?_
    rintro d m' n' ⟨rfl, rfl, rfl⟩
    have hgi : l.getD i [] = l[i] := by rw [List.getD_eq_getElem?_getD, List.getElem?_eq_getElem hi']; rfl
    by_cases c : namOk g l[i] = true
    · by_cases i0 : i = 0
      · subst i0
        have w01 : IntKind.i64.wrap 1 = 1 := wrap_i64 (by omega) (by omega)
        have hst : stepOk g l 0 = true := by unfold stepOk; rw [hgi, c]; simp
        simp -dsimp [h0, h1, h7, h8, h9, I, Tt, sl1, c, wi]
        exact ⟨1, by omega, by simp [sl1, S], by simp [mayFn], by simp [sl1, S], by simp [I], by simp [I, w01], by omega, fun j hj => by rw [show j = 0 by omega]; exact hst, rfl, rfl⟩
      · have i1 : (0 : Int) < i := by omega
        have i1' : 0 < i := by omega
        have w1 : IntKind.i64.wrap ((i : Int) - 1) = ((i - 1 : Nat) : Int) := by rw [wrap_i64 (by omega) (by omega)]; omega
        have hp : i - 1 < l.length := by omega
        have hgp : l.getD (i - 1) [] = l[i - 1] := by rw [List.getD_eq_getElem?_getD, List.getElem?_eq_getElem hp]; rfl
        have hlt : Op.bytesLess l[i - 1] l[i] = ltB l[i - 1] l[i] := rfl
        cases c2 : ltB l[i - 1] l[i]
        · have hst : stepOk g l i = false := by unfold stepOk; rw [hgi, hgp, c2]; simp [i0]
          simp -dsimp [h0, h1, h7, h8, h9, I, Tt, sl1, S, c, wi, w1, i1, i1', hp, hlt, c2]
          rw [rising_no hi' hst]
        · have hst : stepOk g l i = true := by unfold stepOk; rw [hgi, hgp, c2, c]; simp
          simp -dsimp [h0, h1, h7, h8, h9, I, Tt, sl1, S, c, wi, w1, i1, i1', hp, hlt, c2]
          exact ⟨i + 1, by omega, by simp [sl1, S], by simp [mayFn], by simp [sl1, S], by simp [I], by simp [I], by omega, fun j hj => by
            by_cases e : j = i
            · rw [e]; exact hst
            · exact al j (by omega), rfl, rfl⟩
    · have c' : namOk g l[i] = false := by simpa using c
      have hst : stepOk g l i = false := by simp only [stepOk, hgi, c', Bool.false_and]
      simp -dsimp [h0, h1, h7, h8, h9, I, Tt, sl1, c']
      rw [rising_no hi' hst]
  · simp -dsimp [h0, h1, h7, h8, h9, I, hi, Tt]
    rw [rising_yes (by omega) al]
theorem cBare {kind : Int} {pkg : List UInt8} {major : Int} {mod name : List UInt8} {NL SL : List (List D)} (pN : Pur (.sl 1 NL)) (pS : Pur (.sl 7 SL)) (m : Mem) (n : Nat) :
    ACalls Tryz.prog 246 [.agg [I kind, S pkg, I major, S mod, S name, .sl 1 NL, .sl 7 SL]] m n (fun d m' n' =>
      d = .agg [I kind, S (barePkg kind pkg), I (bareMaj kind major), S (bareMod kind mod), S (bareMod kind name), .sl 1 NL, .sl 7 SL] ∧ m' = m ∧ n' = n) := by
  refine acalls_done (R' := Hq (fun d m' n' => d = .agg [I kind, S (barePkg kind pkg), I (bareMaj kind major), S (bareMod kind mod), S (bareMod kind name), .sl 1 NL, .sl 7 SL] ∧ ∀ j, j < n → m' j = m j) tg) ?_ ?_
  · have fr : ∀ o o' o'' o''' j, j < n → ((((m.set n o).set (n + 1) o').set n o'').set (n + 1) o''') j = m j := fun o o' o'' o''' j hj => by rw [set_ne _ _ _ _ (by omega), set_ne _ _ _ _ (by omega), set_ne _ _ _ _ (by omega), set_ne _ _ _ _ (by omega)]
    have nn1 : n ≠ n + 1 := by omega
    have n1n : n + 1 ≠ n := by omega
    refine acalls_vcC [0, 1, 2, 4, 5, 9] Tryz.func246 Tryz.ntmps246 (by kernel_rfl) rfl rfl (by simp) ?_
    by_cases c8 : kind = 8
    · subst c8
      simp -dsimp [I, nn1, n1n]
      refine hq ⟨by simp [barePkg, bareMaj, bareMod, I, S], fun j hj => ?_⟩
      have h1 : j ≠ n := by omega
      have h2 : j ≠ n + 1 := by omega
      simp [set_ne, h1, h2]
    by_cases c9 : kind = 9
    · subst c9
      simp -dsimp [I, nn1, n1n]
      refine hq ⟨by simp [barePkg, bareMaj, bareMod, I, S], fun j hj => ?_⟩
      have h1 : j ≠ n := by omega
      have h2 : j ≠ n + 1 := by omega
      simp [set_ne, h1, h2]
    · have c8' : (kind == 8) = false := by simpa using c8
      have c9' : (kind == 9) = false := by simpa using c9
      simp -dsimp [I, nn1, n1n, c8', c9']
      refine hq ⟨by simp [barePkg, bareMaj, bareMod, I, S, c8, c9], fun j hj => ?_⟩
      have h1 : j ≠ n := by omega
      have h2 : j ≠ n + 1 := by omega
      simp [set_ne, h1, h2]
  · rintro d m' n' ⟨rfl, h⟩
    refine ⟨_, (Pur.agg ?_).pub, h, rfl⟩
    intro d hd
    simp only [List.mem_cons, List.not_mem_nil, or_false] at hd
    rcases hd with rfl | rfl | rfl | rfl | rfl | rfl | rfl
    · exact pur_I _
    · exact pur_S _
    · exact pur_I _
    · exact pur_S _
    · exact pur_S _
    · exact pN
    · exact pS
end Go.Proofs.Mv.App
open Go Go.Proofs Go.Proofs.Mv.V
set_option maxRecDepth 10000
namespace Go.Proofs.Mv.App
variable [GI]
set_option maxHeartbeats 4000000 in
theorem cShape {t : Ty} (ht : TyW t) (m : Mem) (n : Nat) : ACalls Tryz.prog 223 [.agg (tyD t)] m n (fun d m' n' => d = Tt (shapeT t) ∧ m' = m ∧ n' = n) := by
  refine acalls_done (R' := Hq (fun d m' n' => d = Tt (shapeT t) ∧ ∀ j, j < n → m' j = m j) tg) ?_ ?_
  · cases ht with
    | mk kind pkg major mod name names subs l1 l2 l3 l4 l5 l6 l7 =>
      have hL1 : (names.map fun s => [S s]).length = names.length := by simp
      have hL2 : (tysD subs).length = subs.length := by rw [tysD_eq]; simp
      have pN := pur_sl1 names
      have pS : Pur (.sl 7 (tysD subs)) := Pur.sl (pur_tys subs)
      have hcn := fun g m n => cNames g names l1 l6 m n
      obtain ⟨ns, hns⟩ : ∃ k, subs.length = k := ⟨_, rfl⟩
      obtain ⟨ks, hks⟩ : ∃ k, names.length = k := ⟨_, rfl⟩
      have hyes := shapeT_yes (t := .mk kind pkg major mod name names subs)
      have hno := shapeT_no (t := .mk kind pkg major mod name names subs)
      simp only [bareOk, shapeB, Ty.kind, Ty.pkg, Ty.major, Ty.mod, Ty.name, Ty.names, Ty.subs, hns, hks] at hyes hno
      generalize shapeT (.mk kind pkg major mod name names subs) = SH at hyes hno
      rw [hks] at hL1
      rw [hns] at hL2
      simp only [tyD, sl1] at pN hcn ⊢
      generalize (names.map fun s => [S s]) = NL at hL1 pN hcn
      generalize tysD subs = SL at hL2 pS
      have frp : ∀ (o1 o2 : V.Obj) j, j < n → ((m.set n o1).set (n + 1) o2) j = m j := fun o1 o2 j hj => by
        rw [set_ne _ _ _ _ (by omega), set_ne _ _ _ _ (by omega)]
      have nn1 : n ≠ n + 1 := by omega
      have n1n : n + 1 ≠ n := by omega
      refine acalls_vc [0, 1, 2, 3, 4, 31, 33, 34, 46, 56, 68, 84, 94, 119] Tryz.func223 Tryz.ntmps223 (by kernel_rfl) rfl rfl (by simp) ?_
      simp -dsimp [I]
      refine aCall_of (cBare pN pS _ _) ?_
      rintro d m' n' ⟨rfl, rfl, rfl⟩
      generalize barePkg kind pkg = b1 at hyes hno
      generalize bareMaj kind major = b2 at hyes hno
      generalize bareMod kind mod = b3 at hyes hno
      generalize bareMod kind name = b4 at hyes hno
      by_cases c1 : b1 = []
      case neg =>
        have c1' : (b1 == []) = false := by simpa using c1
        simp -dsimp [I, S, nn1, n1n, hL2, c1, c1']
        exact hq ⟨by rw [hno (fun h => c1 h.1)]; rfl, frp _ _⟩
      subst c1
      by_cases c2 : b2 = 0
      case neg =>
        have c2' : (b2 != 0) = true := by simpa using c2
        simp -dsimp [I, S, nn1, n1n, hL2, c2']
        exact hq ⟨by rw [hno (fun h => c2 h.2.1)]; rfl, frp _ _⟩
      subst c2
      by_cases c3 : b3 = []
      case neg =>
        have c3' : (b3 == []) = false := by simpa using c3
        simp -dsimp [I, S, nn1, n1n, hL2, c3, c3']
        exact hq ⟨by rw [hno (fun h => c3 h.2.2.1)]; rfl, frp _ _⟩
      subst c3
      by_cases c4 : b4 = []
      case neg =>
        have c4' : (b4 == []) = false := by simpa using c4
        simp -dsimp [I, S, nn1, n1n, hL2, c4, c4']
        exact hq ⟨by rw [hno (fun h => c4 h.2.2.2.1)]; rfl, frp _ _⟩
      subst c4
      by_cases c5 : (20 : Int) < ns
      · simp -dsimp [I, S, nn1, n1n, hL2, c5]
        exact hq ⟨by rw [hno (fun h => by have := h.2.2.2.2; omega)]; rfl, frp _ _⟩
      have hy := hyes ⟨rfl, rfl, rfl, rfl, by omega⟩
      clear hyes hno
      simp -dsimp [I, S, nn1, n1n, hL2, c5]
      by_cases k1 : kind = 1
      · subst k1
        simp only [true_or, or_true, if_true] at hy
        rw [hy]
        by_cases e1 : ns = 0
        · have e1' : ((ns : Int) == 0) = true := by simpa using e1
          by_cases e2 : ks = 0
          · have e2' : ((ks : Int) == 0) = true := by simpa using e2
            simp -dsimp [I, nn1, n1n, hL1, hL2, e1', e2']
            exact hq ⟨by simp [Tt, e1, e2], frp _ _⟩
          · have e2' : ((ks : Int) == 0) = false := by simpa using e2
            simp -dsimp [I, nn1, n1n, hL1, hL2, e1', e2']
            exact hq ⟨by simp [Tt, e1, e2], frp _ _⟩
        · have e1' : ((ns : Int) == 0) = false := by simpa using e1
          simp -dsimp [I, nn1, n1n, hL1, hL2, e1']
          exact hq ⟨by simp [Tt, e1], frp _ _⟩
      by_cases k2 : kind = 2
      · subst k2
        simp only [true_or, or_true, if_true] at hy
        rw [hy]
        by_cases e1 : ns = 0
        · have e1' : ((ns : Int) == 0) = true := by simpa using e1
          by_cases e2 : ks = 0
          · have e2' : ((ks : Int) == 0) = true := by simpa using e2
            simp -dsimp [I, nn1, n1n, hL1, hL2, e1', e2']
            exact hq ⟨by simp [Tt, e1, e2], frp _ _⟩
          · have e2' : ((ks : Int) == 0) = false := by simpa using e2
            simp -dsimp [I, nn1, n1n, hL1, hL2, e1', e2']
            exact hq ⟨by simp [Tt, e1, e2], frp _ _⟩
        · have e1' : ((ns : Int) == 0) = false := by simpa using e1
          simp -dsimp [I, nn1, n1n, hL1, hL2, e1']
          exact hq ⟨by simp [Tt, e1], frp _ _⟩
      by_cases k3 : kind = 3
      · subst k3
        simp only [true_or, or_true, if_true] at hy
        rw [hy]
        by_cases e1 : ns = 0
        · have e1' : ((ns : Int) == 0) = true := by simpa using e1
          by_cases e2 : ks = 0
          · have e2' : ((ks : Int) == 0) = true := by simpa using e2
            simp -dsimp [I, nn1, n1n, hL1, hL2, e1', e2']
            exact hq ⟨by simp [Tt, e1, e2], frp _ _⟩
          · have e2' : ((ks : Int) == 0) = false := by simpa using e2
            simp -dsimp [I, nn1, n1n, hL1, hL2, e1', e2']
            exact hq ⟨by simp [Tt, e1, e2], frp _ _⟩
        · have e1' : ((ns : Int) == 0) = false := by simpa using e1
          simp -dsimp [I, nn1, n1n, hL1, hL2, e1']
          exact hq ⟨by simp [Tt, e1], frp _ _⟩
      simp only [k1, k2, k3, or_self, if_false] at hy
      have k1' : (kind == 1) = false := by simpa using k1
      have k2' : (kind == 2) = false := by simpa using k2
      have k3' : (kind == 3) = false := by simpa using k3
      simp -dsimp [k1', k2', k3']
      by_cases k4 : kind = 4
      · subst k4
        simp only [if_true] at hy
        rw [hy]
        by_cases e1 : ns = 1
        · have e1' : ((ns : Int) == 1) = true := by simp [e1]
          by_cases e2 : ks = 0
          · have e2' : ((ks : Int) == 0) = true := by simpa using e2
            simp -dsimp [I, nn1, n1n, hL1, hL2, e1', e2']
            exact hq ⟨by simp [Tt, e1, e2], frp _ _⟩
          · have e2' : ((ks : Int) == 0) = false := by simpa using e2
            simp -dsimp [I, nn1, n1n, hL1, hL2, e1', e2']
            exact hq ⟨by simp [Tt, e1, e2], frp _ _⟩
        · have e1' : ((ns : Int) == 1) = false := by simp; omega
          simp -dsimp [I, nn1, n1n, hL1, hL2, e1']
          exact hq ⟨by simp [Tt, e1], frp _ _⟩
      have k4' : (kind == 4) = false := by simpa using k4
      simp -dsimp [k4']
      simp only [k4, if_false] at hy
      by_cases k5 : kind = 5
      · subst k5
        simp only [if_true, show ¬ (5 : Int) = 4 by omega, if_false] at hy
        rw [hy]
        by_cases e1 : ns = ks
        · have e1' : ((ns : Int) == ks) = true := by simp [e1]
          simp -dsimp [I, nn1, n1n, hL1, hL2, e1']
          refine aCall_of (hcn false _ _) ?_
          rintro d m' n' ⟨rfl, rfl, rfl⟩
          simp -dsimp [I]
          exact hq ⟨by simp [Tt, e1], frp _ _⟩
        · have e1' : ((ns : Int) == ks) = false := by simp; omega
          simp -dsimp [I, nn1, n1n, hL1, hL2, e1']
          exact hq ⟨by simp [Tt, e1], frp _ _⟩
      have k5' : (kind == 5) = false := by simpa using k5
      simp -dsimp [k5']
      simp only [k5, if_false] at hy
      by_cases k6 : kind = 6
      · subst k6
        simp only [if_true] at hy
        rw [hy]
        by_cases e0 : (1 : Int) ≤ ns
        · have e00 : 1 ≤ ns := by omega
          by_cases e1 : ns = ks
          · have e1' : ((ns : Int) == ks) = true := by simp [e1]
            simp -dsimp [I, nn1, n1n, hL1, hL2, e0, e00, e1']
            refine aCall_of (hcn true _ _) ?_
            rintro d m' n' ⟨rfl, rfl, rfl⟩
            simp -dsimp [I]
            exact hq ⟨by simp [Tt, e00, ← e1], frp _ _⟩
          · have e1' : ((ns : Int) == ks) = false := by simp; omega
            simp -dsimp [I, nn1, n1n, hL1, hL2, e0, e00, e1']
            exact hq ⟨by simp [Tt, e1], frp _ _⟩
        · have e00 : ¬ 1 ≤ ns := by omega
          simp -dsimp [I, nn1, n1n, hL1, hL2, e0, e00]
          exact hq ⟨by simp [Tt, e00], frp _ _⟩
      have k6' : (kind == 6) = false := by simpa using k6
      simp -dsimp [k6']
      simp only [k6, if_false] at hy
      by_cases k7 : kind = 7
      · subst k7
        simp only [if_true] at hy
        rw [hy]
        by_cases e0 : (1 : Int) ≤ ns
        · have e00 : 1 ≤ ns := by omega
          by_cases e2 : ks = 0
          · have e2' : ((ks : Int) == 0) = true := by simpa using e2
            simp -dsimp [I, nn1, n1n, hL1, hL2, e0, e00, e2']
            exact hq ⟨by simp [Tt, e00, e2], frp _ _⟩
          · have e2' : ((ks : Int) == 0) = false := by simpa using e2
            simp -dsimp [I, nn1, n1n, hL1, hL2, e0, e00, e2']
            exact hq ⟨by simp [Tt, e2], frp _ _⟩
        · have e00 : ¬ 1 ≤ ns := by omega
          simp -dsimp [I, nn1, n1n, hL1, hL2, e0, e00]
          exact hq ⟨by simp [Tt, e00], frp _ _⟩
      have k7' : (kind == 7) = false := by simpa using k7
      simp -dsimp [k7']
      simp only [k7, if_false] at hy
      by_cases k8 : kind = 8
      · subst k8
        simp only [if_true] at hy
        rw [hy]
        by_cases e1 : ns = 0
        case neg =>
          have e1' : ((ns : Int) == 0) = false := by simpa using e1
          simp -dsimp [I, nn1, n1n, hL1, hL2, e1']
          exact hq ⟨by simp [Tt, e1], frp _ _⟩
        have e1' : ((ns : Int) == 0) = true := by simpa using e1
        by_cases e2 : ks = 0
        case neg =>
          have e2' : ((ks : Int) == 0) = false := by simpa using e2
          simp -dsimp [I, nn1, n1n, hL1, hL2, e1', e2']
          exact hq ⟨by simp [Tt, e2], frp _ _⟩
        have e2' : ((ks : Int) == 0) = true := by simpa using e2
        simp -dsimp [I, nn1, n1n, hL1, hL2, e1', e2']
        refine aCall_of (cGreat name l5 _ _) ?_
        rintro d m' n' ⟨rfl, rfl, rfl⟩
        cases e3 : greatN name with
        | false =>
          simp -dsimp [I, Tt]
          exact hq ⟨by simp [Tt], frp _ _⟩
        | true =>
        by_cases e4 : mod = []
        · subst e4
          simp -dsimp [I, Tt, nn1, n1n]
          exact hq ⟨by simp [Tt, e1, e2], frp _ _⟩
        · have e4' : (mod == []) = false := by simpa using e4
          simp -dsimp [I, Tt, nn1, n1n, e4']
          refine aCall_of (cSmall mod l4 _ _) ?_
          rintro d m' n' ⟨rfl, rfl, rfl⟩
          simp -dsimp [I, Tt]
          exact hq ⟨by simp [Tt, e1, e2, e4], frp _ _⟩
      have k8' : (kind == 8) = false := by simpa using k8
      simp -dsimp [k8']
      simp only [k8, if_false] at hy
      by_cases k9 : kind = 9
      · subst k9
        simp only [if_true] at hy
        rw [hy]
        by_cases e1 : ns = 0
        case neg =>
          have e1' : ((ns : Int) == 0) = false := by simpa using e1
          simp -dsimp [I, nn1, n1n, hL1, hL2, e1']
          exact hq ⟨by simp [Tt, e1], frp _ _⟩
        have e1' : ((ns : Int) == 0) = true := by simpa using e1
        by_cases e2 : ks = 0
        case neg =>
          have e2' : ((ks : Int) == 0) = false := by simpa using e2
          simp -dsimp [I, nn1, n1n, hL1, hL2, e1', e2']
          exact hq ⟨by simp [Tt, e2], frp _ _⟩
        have e2' : ((ks : Int) == 0) = true := by simpa using e2
        simp -dsimp [I, nn1, n1n, hL1, hL2, e1', e2']
        refine aCall_of (cSmall pkg l3 _ _) ?_
        rintro d m' n' ⟨rfl, rfl, rfl⟩
        cases e3 : smallN pkg with
        | false =>
          simp -dsimp [I, Tt]
          exact hq ⟨by simp [Tt], frp _ _⟩
        | true =>
        simp -dsimp [I, Tt, nn1, n1n]
        refine aCall_of (cSmall mod l4 _ _) ?_
        rintro d m' n' ⟨rfl, rfl, rfl⟩
        cases e4 : smallN mod with
        | false =>
          simp -dsimp [I, Tt]
          exact hq ⟨by simp [Tt], frp _ _⟩
        | true =>
        simp -dsimp [I, Tt, nn1, n1n]
        refine aCall_of (cGreat name l5 _ _) ?_
        rintro d m' n' ⟨rfl, rfl, rfl⟩
        cases e5 : greatN name with
        | false =>
          simp -dsimp [I, Tt]
          exact hq ⟨by simp [Tt], frp _ _⟩
        | true =>
        by_cases e6 : 1 ≤ major
        · by_cases e7 : major ≤ 999999999
          · simp -dsimp [I, Tt, nn1, n1n, e6, e7]
            exact hq ⟨by simp [Tt, e1, e2, e6, e7], frp _ _⟩
          · simp -dsimp [I, Tt, nn1, n1n, e6, e7]
            exact hq ⟨by simp [Tt, e7], frp _ _⟩
        · simp -dsimp [I, Tt, nn1, n1n, e6]
          exact hq ⟨by simp [Tt, e6], frp _ _⟩
      have k9' : (kind == 9) = false := by simpa using k9
      simp -dsimp [k9']
      simp only [k9, if_false] at hy
      rw [hy]
      exact hq ⟨rfl, frp _ _⟩
  · rintro d m' n' ⟨rfl, h⟩
    exact ⟨_, (pur_T _).pub, h, rfl⟩
end Go.Proofs.Mv.App
