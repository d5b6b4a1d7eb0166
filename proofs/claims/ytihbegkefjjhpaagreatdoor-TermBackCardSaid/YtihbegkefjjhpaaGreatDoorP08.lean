/- A part of the proofs: machine, contracts, laws. No condition of its own. -/
import Derived.Test.YtihbegkefjjhpaaGreatDoorP03
import Derived.Test.YtihbegkefjjhpaaGreatDoorP07
import Derived.Test.YtihbegkefjjhpaaGreatDoorP06
import Derived.Test.YtihbegkefjjhpaaGreatDoorP04
import Derived.Test.YtihbegkefjjhpaaGreatDoorMvD
import Derived.Test.YtihbegkefjjhpaaGreatDoorMvC
set_option linter.unusedSimpArgs false
set_option linter.unusedVariables false
set_option linter.unusedSectionVars false
open Go Go.Proofs Go.Proofs.Mv.V
set_option maxRecDepth 10000
namespace Go.Proofs.Mv.App
def wFn : List UInt8 := [102, 110]
def wIf : List UInt8 := [105, 102]
def wThen : List UInt8 := [116, 104, 101, 110]
def wElse : List UInt8 := [101, 108, 115, 101]
def wCase : List UInt8 := [99, 97, 115, 101]
def wOf : List UInt8 := [111, 102]
def wEnd : List UInt8 := [101, 110, 100]
def pTC [GI] (l : List Tok) (dp : Nat) (p : PS) : List D := [toksD l, I p.at_, I dp, errS p]
def pTObj [GI] (l : List Tok) (dp : Nat) (p : PS) : V.Obj := ⟨4, [pTC l dp p], 0⟩
theorem pur_pT [GI] (l : List Tok) (dp : Nat) (p : PS) : ∀ e ∈ (pTObj l dp p).es, ∀ d ∈ e, Pur d := by
 intro e he d hd
 simp only [pTObj, List.mem_singleton] at he
 subst he
 simp only [pTC, List.mem_cons, List.not_mem_nil, or_false] at hd
 rcases hd with rfl | rfl | rfl | rfl
 ·exact pur_toks _
 ·exact pur_I _
 ·exact pur_I _
 ·exact pur_errS _
def isT (kd : Int) (s : List UInt8) (l : List Tok) (p : PS) : Bool := kF kd (fun t => t == s) l p
def mustT (kd : Int) (s : List UInt8) (l : List Tok) (p : PS) : PS := if isT kd s l p then stepF p else failS 2 p
def namedT (kd : Int) (ok : List UInt8 → Bool) (l : List Tok) (p : PS) : List UInt8 × PS := takeF (kF kd ok l p) l p
def twiceT (kd : Int) (ok : List UInt8 → Bool) (names : List (List UInt8)) (l : List Tok) (p : PS) : Bool := kF kd ok l p && decide (curT l p ∈ names)
def freshT (kd : Int) (ok : List UInt8 → Bool) (names : List (List UInt8)) (l : List Tok) (p : PS) : List UInt8 × PS := namedT kd ok l (if twiceT kd ok names l p then failS 5 p else p)
def begB (dg : List UInt8 → Int) (kd : Int) (tx : List UInt8) : Bool :=
 if kd = 3 then decide (0 ≤ dg tx)
 else if kd = 1 then nameN tx || decide (tx = wFn) || decide (tx = wIf) || decide (tx = wCase)
 else if kd = 2 then decide (tx = wTrue) || decide (tx = wFalse) || tagN tx
 else decide (kd = 4) && (decide (tx = [123]) || decide (tx = [91]) || decide (tx = [40]))
def kindC (l : List Tok) (p : PS) : Int := match cur l p with
 | some t => t.kind
 | none => 0
section
variable (l : List Tok) (dg : List UInt8 → Int) (rec : PS → Option (Tm × PS))
def severO (en : List UInt8) : Nat → List Tm → PS → Option (List Tm × PS)
 | 0, _, _ => none
 | f + 1, acc, p => match rec p with
  | none => none
  | some (t, q) => if isT 4 en l q then some (acc ++ [t], stepF q) else if (mustT 4 [44] l q).bad = 0 then severO en f (acc ++ [t]) (mustT 4 [44] l q) else some (acc ++ [t], mustT 4 [44] l q)
def sevO (f : Nat) (en : List UInt8) (non : Bool) (p : PS) : Option (List Tm × PS) :=
 if p.bad = 0 then (if non && isT 4 en l p then some ([], stepF p) else severO l rec en f [] p) else some ([], p)
def fldsO : Nat → List Bnd → PS → Option (List Bnd × PS)
 | 0, _, _ => none
 | f + 1, acc, p => match rec (mustT 4 [61] l (freshT 1 nameN (acc.map (·.1)) l p).2) with
  | none => none
  | some (t, q) => if isT 4 [125] l q then some (acc ++ [((freshT 1 nameN (acc.map (·.1)) l p).1, t)], stepF q)
   else if (mustT 4 [44] l q).bad = 0 then fldsO f (acc ++ [((freshT 1 nameN (acc.map (·.1)) l p).1, t)]) (mustT 4 [44] l q) else some (acc ++ [((freshT 1 nameN (acc.map (·.1)) l p).1, t)], mustT 4 [44] l q)
def insB (x : Bnd) : List Bnd → List Bnd
 | [] => [x]
 | y :: r => if ltB x.1 y.1 then x :: y :: r else y :: insB x r
def sortB : List Bnd → List Bnd
 | [] => []
 | x :: r => insB x (sortB r)
def makeB (l : List Bnd) : Tm := .mk 5 0 [] [] (l.map (·.1)) [] [] (l.map (·.2))
def fieldsO (f : Nat) (p : PS) : Option (Tm × PS) :=
 if p.bad = 0 then (if isT 4 [125] l p then some (makeB [], stepF p) else (fldsO l rec f [] p).map fun r => (makeB (sortB r.1), r.2)) else some (makeB [], p)
def parsO : Nat → List (List UInt8) → List Ty → PS → Option (List (List UInt8) × List Ty × PS)
 | 0, _, _, _ => none
 | f + 1, ns, ys, p =>
  let n := freshT 1 nameN ns l p
  let y := typS l (mustT 4 [58] l n.2)
  if isT 4 [41] l y.2 then some (ns ++ [n.1], ys ++ [y.1], stepF y.2)
  else if (mustT 4 [44] l y.2).bad = 0 then parsO f (ns ++ [n.1]) (ys ++ [y.1]) (mustT 4 [44] l y.2) else some (ns ++ [n.1], ys ++ [y.1], mustT 4 [44] l y.2)
def parO (f : Nat) (p : PS) : Option (List (List UInt8) × List Ty × PS) :=
 if p.bad = 0 then (if isT 4 [41] l p then some ([], [], stepF p) else parsO l f [] [] p) else some ([], [], p)
def funO (f : Nat) (p : PS) : Option (Tm × PS) := match parO l f (mustT 4 [40] l p) with
 | none => none
 | some (ns, ys, q) => match rec q with
  | none => none
  | some (t, q2) => some (.mk 8 0 [] [] ns [] ys [t], q2)
def choO (p : PS) : Option (Tm × PS) := match rec p with
 | none => none
 | some (a, p1) => match rec (mustT 1 wThen l p1) with
  | none => none
  | some (b, p2) => match rec (mustT 1 wElse l p2) with
   | none => none
   | some (c, p3) => some (.mk 11 0 [] [] [] [] [] [a, b, c], p3)
def priO (f : Nat) (p : PS) : Option (Tm × PS) :=
 let kd := kindC l p
 let tx := curT l p
 let p1 := stepF p
 if kd = 3 then some (.mk 1 (dg tx) [] [] [] [] [] [], p1)
 else if kd = 1 then (if isT 4 [58] l p1 then some (.mk 4 0 tx (namedT 1 nameN l (stepF p1)).1 [] [] [] [], (namedT 1 nameN l (stepF p1)).2) else some (.mk 3 0 [] tx [] [] [] [], p1))
 else if kd = 2 then (if tx = wTrue then some (.mk 2 1 [] [] [] [] [] [], p1) else if tx = wFalse then some (.mk 2 0 [] [] [] [] [] [], p1) else match rec (mustT 4 [40] l p1) with
  | none => none
  | some (t, q) => some (.mk 7 0 [] tx [] [] [] [t], mustT 4 [41] l q))
 else if tx = [123] then fieldsO l rec f p1
 else if tx = [91] then (sevO l rec f [93] false p1).map fun r => (.mk 10 0 [] [] [] [] [] r.1, r.2)
 else match rec p1 with
  | none => none
  | some (t, q) => some (t, mustT 4 [41] l q)
def behO (g : Nat) : Nat → Tm → PS → Option (Tm × PS)
 | 0, _, _ => none
 | f + 1, t, p => if p.bad = 0 then
     (if isT 4 [46] l p then behO g f (.mk 6 0 [] (namedT 1 nameN l (stepF p)).1 [] [] [] [t]) (namedT 1 nameN l (stepF p)).2
      else if isT 4 [40] l p then (match sevO l rec g [41] true (stepF p) with
       | none => none
       | some (ts, q) => behO g f (.mk 9 0 [] [] [] [] [] (t :: ts)) q)
      else some (t, p)) else some (t, p)
end
end Go.Proofs.Mv.App
open Go Go.Proofs Go.Proofs.Mv.V
set_option maxRecDepth 10000
namespace Go.Proofs.Mv.App
structure ImpWU (i : Imp) : Prop where
 h1 : i.pkg.length ≤ 9223372036854775807
 h2 : i.mod.length ≤ 9223372036854775807
 h3 : i.as_.length ≤ 9223372036854775807
structure LnW (d : Ln) : Prop where
 h1 : d.mod.length ≤ 9223372036854775807
 h2 : d.name.length ≤ 9223372036854775807
 h3 : TyW d.typ
structure UsW (x : Us) : Prop where
 h1 : x.imps.length ≤ 9223372036854775807
 h2 : x.lines.length ≤ 9223372036854775807
 h3 : ∀ i ∈ x.imps, ImpWU i
 h4 : ∀ d ∈ x.lines, LnW d
@[simp] theorem impD_len (i : Imp) : (impD i).length = 4 := rfl
end Go.Proofs.Mv.App
open Go Go.Proofs Go.Proofs.Mv.V
set_option maxRecDepth 10000
namespace Go.Proofs.Mv.App
variable [GI]
def mayFn (g : Bool) : D := .func (.func (if g then 158 else 156)) [] []
theorem cNam (g : Bool) (s : List UInt8) (hs : s.length ≤ 9223372036854775807) (m : Mem) (n : Nat) : ACalls Tryz.prog (if g then 158 else 156) [S s] m n (fun d m' n' => d = Tt (namOk g s) ∧ m' = m ∧ n' = n) := by
 cases g
 ·exact cSmall s hs m n
 ·exact cGreat s hs m n
structure NmsInv (g : Bool) (l : List (List UInt8)) (M : Mem) (n0 : Nat) (i : Nat) (σ : Nat → D) (m2 : Mem) (n2 : Nat) : Prop where
 h0 : σ 0 = sl1 l
 h1 : σ 1 = mayFn g
 h7 : σ 7 = sl1 l
 h8 : σ 8 = I l.length
 h9 : σ 9 = I i
 le : i ≤ l.length
 al : ∀ j, j < i → stepOk g l j = true
 mm : m2 = M
 nn : n2 = n0
theorem rising_no {g : Bool} {l : List (List UInt8)} {i : Nat} (hi : i < l.length) (h : stepOk g l i = false) : risingN g l = false := by
 cases e : risingN g l
 ·rfl
 ·have := List.all_eq_true.1 e i (List.mem_range.2 hi); rw [h] at this; cases this
theorem rising_yes {g : Bool} {l : List (List UInt8)} {i : Nat} (hi : l.length ≤ i) (h : ∀ j, j < i → stepOk g l j = true) : risingN g l = true :=
 List.all_eq_true.2 fun j hj => h j (by have := List.mem_range.1 hj; omega)
set_option maxHeartbeats 1000000 in
theorem cNames (g : Bool) (l : List (List UInt8)) (hl : l.length ≤ 9223372036854775807) (hs : ∀ s ∈ l, s.length ≤ 9223372036854775807) (m : Mem) (n : Nat) :
  ACalls Tryz.prog 247 [sl1 l, mayFn g] m n (fun d m' n' => d = Tt (risingN g l) ∧ m' = m ∧ n' = n) := by
 refine acalls_vc [0, 1, 4, 5, 6, 7, 8, 9, 10, 30] Tryz.func247 Tryz.ntmps247 (by kernel_rfl) rfl rfl (by simp) ?_
 simp -dsimp [sl1]
 refine vloop_of (β := Nat) (NmsInv g l m n) (fun i => l.length - i) 0 ⟨by simp [sl1], by simp, by simp [sl1], by simp [I], by simp [I], by omega, by omega, rfl, rfl⟩ ?_
 rintro i σ m2 n2 ⟨h0, h1, h7, h8, h9, le, al, rfl, rfl⟩
 by_cases hi : (i : Int) < l.length
 ·have hi' : i < l.length := by omega
  have wi : IntKind.i64.wrap ((i : Int) + 1) = (i : Int) + 1 := wrap_i64 (by omega) (by omega)
  simp -dsimp [h0, h1, h7, h8, h9, I, sl1, hi, hi', mayFn]
  refine aCall_of (cNam g l[i] (hs _ (List.getElem_mem hi')) _ _) ?_
  rintro d m' n' ⟨rfl, rfl, rfl⟩
  have hgi : l.getD i [] = l[i] := by rw [List.getD_eq_getElem?_getD, List.getElem?_eq_getElem hi']; rfl
  by_cases c : namOk g l[i] = true
  ·by_cases i0 : i = 0
   ·subst i0
    have w01 : IntKind.i64.wrap 1 = 1 := wrap_i64 (by omega) (by omega)
    have hst : stepOk g l 0 = true := by unfold stepOk; rw [hgi, c]; simp
    simp -dsimp [h0, h1, h7, h8, h9, I, Tt, sl1, c, wi]
    exact ⟨1, by omega, by simp [sl1, S], by simp [mayFn], by simp [sl1, S], by simp [I], by simp [I, w01], by omega, fun j hj => by rw [show j = 0 by omega]; exact hst, rfl, rfl⟩
   ·have i1 : (0 : Int) < i := by omega
    have i1' : 0 < i := by omega
    have w1 : IntKind.i64.wrap ((i : Int) - 1) = ((i - 1 : Nat) : Int) := by rw [wrap_i64 (by omega) (by omega)]; omega
    have hp : i - 1 < l.length := by omega
    have hgp : l.getD (i - 1) [] = l[i - 1] := by rw [List.getD_eq_getElem?_getD, List.getElem?_eq_getElem hp]; rfl
    have hlt : Op.bytesLess l[i - 1] l[i] = ltB l[i - 1] l[i] := rfl
    cases c2 : ltB l[i - 1] l[i]
    ·have hst : stepOk g l i = false := by unfold stepOk; rw [hgi, hgp, c2]; simp [i0]
     simp -dsimp [h0, h1, h7, h8, h9, I, Tt, sl1, S, c, wi, w1, i1, i1', hp, hlt, c2]
     rw [rising_no hi' hst]
    ·have hst : stepOk g l i = true := by unfold stepOk; rw [hgi, hgp, c2, c]; simp
     simp -dsimp [h0, h1, h7, h8, h9, I, Tt, sl1, S, c, wi, w1, i1, i1', hp, hlt, c2]
     exact ⟨i + 1, by omega, by simp [sl1, S], by simp [mayFn], by simp [sl1, S], by simp [I], by simp [I], by omega, fun j hj => by
      by_cases e : j = i
      ·rw [e]; exact hst
      ·exact al j (by omega), rfl, rfl⟩
  ·have c' : namOk g l[i] = false := by simpa using c
   have hst : stepOk g l i = false := by simp only [stepOk, hgi, c', Bool.false_and]
   simp -dsimp [h0, h1, h7, h8, h9, I, Tt, sl1, c']
   rw [rising_no hi' hst]
 ·simp -dsimp [h0, h1, h7, h8, h9, I, hi, Tt]
  rw [rising_yes (by omega) al]
theorem cBare {kind : Int} {pkg : List UInt8} {major : Int} {mod name : List UInt8} {NL SL : List (List D)} (pN : Pur (.sl 1 NL)) (pS : Pur (.sl 7 SL)) (m : Mem) (n : Nat) :
  ACalls Tryz.prog 246 [.agg [I kind, S pkg, I major, S mod, S name, .sl 1 NL, .sl 7 SL]] m n (fun d m' n' =>
   d = .agg [I kind, S (barePkg kind pkg), I (bareMaj kind major), S (bareMod kind mod), S (bareMod kind name), .sl 1 NL, .sl 7 SL] ∧ m' = m ∧ n' = n) := by
 refine acalls_done (R' := Hq (fun d m' n' => d = .agg [I kind, S (barePkg kind pkg), I (bareMaj kind major), S (bareMod kind mod), S (bareMod kind name), .sl 1 NL, .sl 7 SL] ∧ ∀ j, j < n → m' j = m j) tg) ?_ ?_
 ·have fr : ∀ o o' o'' o''' j, j < n → ((((m.set n o).set (n + 1) o').set n o'').set (n + 1) o''') j = m j := fun o o' o'' o''' j hj => by rw [set_ne _ _ _ _ (by omega), set_ne _ _ _ _ (by omega), set_ne _ _ _ _ (by omega), set_ne _ _ _ _ (by omega)]
  have nn1 : n ≠ n + 1 := by omega
  have n1n : n + 1 ≠ n := by omega
  refine acalls_vcC [0, 1, 2, 4, 5, 9] Tryz.func246 Tryz.ntmps246 (by kernel_rfl) rfl rfl (by simp) ?_
  by_cases c8 : kind = 8
  ·subst c8
   simp -dsimp [I, nn1, n1n]
   refine hq ⟨by simp [barePkg, bareMaj, bareMod, I, S], fun j hj => ?_⟩
   have h1 : j ≠ n := by omega
   have h2 : j ≠ n + 1 := by omega
   simp [set_ne, h1, h2]
  by_cases c9 : kind = 9
  ·subst c9
   simp -dsimp [I, nn1, n1n]
   refine hq ⟨by simp [barePkg, bareMaj, bareMod, I, S], fun j hj => ?_⟩
   have h1 : j ≠ n := by omega
   have h2 : j ≠ n + 1 := by omega
   simp [set_ne, h1, h2]
  ·have c8' : (kind == 8) = false := by simpa using c8
   have c9' : (kind == 9) = false := by simpa using c9
   simp -dsimp [I, nn1, n1n, c8', c9']
   refine hq ⟨by simp [barePkg, bareMaj, bareMod, I, S, c8, c9], fun j hj => ?_⟩
   have h1 : j ≠ n := by omega
   have h2 : j ≠ n + 1 := by omega
   simp [set_ne, h1, h2]
 ·rintro d m' n' ⟨rfl, h⟩
  refine ⟨_, (Pur.agg ?_).pub, h, rfl⟩
  intro d hd
  simp only [List.mem_cons, List.not_mem_nil, or_false] at hd
  rcases hd with rfl | rfl | rfl | rfl | rfl | rfl | rfl
  ·exact pur_I _
  ·exact pur_S _
  ·exact pur_I _
  ·exact pur_S _
  ·exact pur_S _
  ·exact pN
  ·exact pS
end Go.Proofs.Mv.App
open Go Go.Proofs Go.Proofs.Mv.V
set_option maxRecDepth 10000
namespace Go.Proofs.Mv.App
variable [GI]
set_option maxHeartbeats 4000000 in
theorem cShape {t : Ty} (ht : TyW t) (m : Mem) (n : Nat) : ACalls Tryz.prog 223 [.agg (tyD t)] m n (fun d m' n' => d = Tt (shapeT t) ∧ m' = m ∧ n' = n) := by
 refine acalls_done (R' := Hq (fun d m' n' => d = Tt (shapeT t) ∧ ∀ j, j < n → m' j = m j) tg) ?_ ?_
 ·cases ht with
  | mk kind pkg major mod name names subs l1 l2 l3 l4 l5 l6 l7 =>
   have hL1 : (names.map fun s => [S s]).length = names.length := by simp
   have hL2 : (tysD subs).length = subs.length := by rw [tysD_eq]; simp
   have pN := pur_sl1 names
   have pS : Pur (.sl 7 (tysD subs)) := Pur.sl (pur_tys subs)
   have hcn := fun g m n => cNames g names l1 l6 m n
   obtain ⟨ns, hns⟩ : ∃ k, subs.length = k := ⟨_, rfl⟩
   obtain ⟨ks, hks⟩ : ∃ k, names.length = k := ⟨_, rfl⟩
   have hyes := shapeT_yes (t := .mk kind pkg major mod name names subs)
   have hno := shapeT_no (t := .mk kind pkg major mod name names subs)
   simp only [bareOk, shapeB, Ty.kind, Ty.pkg, Ty.major, Ty.mod, Ty.name, Ty.names, Ty.subs, hns, hks] at hyes hno
   generalize shapeT (.mk kind pkg major mod name names subs) = SH at hyes hno
   rw [hks] at hL1
   rw [hns] at hL2
   simp only [tyD, sl1] at pN hcn ⊢
   generalize (names.map fun s => [S s]) = NL at hL1 pN hcn
   generalize tysD subs = SL at hL2 pS
   have frp : ∀ (o1 o2 : V.Obj) j, j < n → ((m.set n o1).set (n + 1) o2) j = m j := fun o1 o2 j hj => by
    rw [set_ne _ _ _ _ (by omega), set_ne _ _ _ _ (by omega)]
   have nn1 : n ≠ n + 1 := by omega
   have n1n : n + 1 ≠ n := by omega
   refine acalls_vc [0, 1, 2, 3, 4, 31, 33, 34, 46, 56, 68, 84, 94, 119] Tryz.func223 Tryz.ntmps223 (by kernel_rfl) rfl rfl (by simp) ?_
   simp -dsimp [I]
   refine aCall_of (cBare pN pS _ _) ?_
   rintro d m' n' ⟨rfl, rfl, rfl⟩
   generalize barePkg kind pkg = b1 at hyes hno
   generalize bareMaj kind major = b2 at hyes hno
   generalize bareMod kind mod = b3 at hyes hno
   generalize bareMod kind name = b4 at hyes hno
   by_cases c1 : b1 = []
   case neg =>
    have c1' : (b1 == []) = false := by simpa using c1
    simp -dsimp [I, S, nn1, n1n, hL2, c1, c1']
    exact hq ⟨by rw [hno (fun h => c1 h.1)]; rfl, frp _ _⟩
   subst c1
   by_cases c2 : b2 = 0
   case neg =>
    have c2' : (b2 != 0) = true := by simpa using c2
    simp -dsimp [I, S, nn1, n1n, hL2, c2']
    exact hq ⟨by rw [hno (fun h => c2 h.2.1)]; rfl, frp _ _⟩
   subst c2
   by_cases c3 : b3 = []
   case neg =>
    have c3' : (b3 == []) = false := by simpa using c3
    simp -dsimp [I, S, nn1, n1n, hL2, c3, c3']
    exact hq ⟨by rw [hno (fun h => c3 h.2.2.1)]; rfl, frp _ _⟩
   subst c3
   by_cases c4 : b4 = []
   case neg =>
    have c4' : (b4 == []) = false := by simpa using c4
    simp -dsimp [I, S, nn1, n1n, hL2, c4, c4']
    exact hq ⟨by rw [hno (fun h => c4 h.2.2.2.1)]; rfl, frp _ _⟩
   subst c4
   by_cases c5 : (20 : Int) < ns
   ·simp -dsimp [I, S, nn1, n1n, hL2, c5]
    exact hq ⟨by rw [hno (fun h => by have := h.2.2.2.2; omega)]; rfl, frp _ _⟩
   have hy := hyes ⟨rfl, rfl, rfl, rfl, by omega⟩
   clear hyes hno
   simp -dsimp [I, S, nn1, n1n, hL2, c5]
   by_cases k1 : kind = 1
   ·subst k1
    simp only [true_or, or_true, if_true] at hy
    rw [hy]
    by_cases e1 : ns = 0
    ·have e1' : ((ns : Int) == 0) = true := by simpa using e1
     by_cases e2 : ks = 0
     ·have e2' : ((ks : Int) == 0) = true := by simpa using e2
      simp -dsimp [I, nn1, n1n, hL1, hL2, e1', e2']
      exact hq ⟨by simp [Tt, e1, e2], frp _ _⟩
     ·have e2' : ((ks : Int) == 0) = false := by simpa using e2
      simp -dsimp [I, nn1, n1n, hL1, hL2, e1', e2']
      exact hq ⟨by simp [Tt, e1, e2], frp _ _⟩
    ·have e1' : ((ns : Int) == 0) = false := by simpa using e1
     simp -dsimp [I, nn1, n1n, hL1, hL2, e1']
     exact hq ⟨by simp [Tt, e1], frp _ _⟩
   by_cases k2 : kind = 2
   ·subst k2
    simp only [true_or, or_true, if_true] at hy
    rw [hy]
    by_cases e1 : ns = 0
    ·have e1' : ((ns : Int) == 0) = true := by simpa using e1
     by_cases e2 : ks = 0
     ·have e2' : ((ks : Int) == 0) = true := by simpa using e2
      simp -dsimp [I, nn1, n1n, hL1, hL2, e1', e2']
      exact hq ⟨by simp [Tt, e1, e2], frp _ _⟩
     ·have e2' : ((ks : Int) == 0) = false := by simpa using e2
      simp -dsimp [I, nn1, n1n, hL1, hL2, e1', e2']
      exact hq ⟨by simp [Tt, e1, e2], frp _ _⟩
    ·have e1' : ((ns : Int) == 0) = false := by simpa using e1
     simp -dsimp [I, nn1, n1n, hL1, hL2, e1']
     exact hq ⟨by simp [Tt, e1], frp _ _⟩
   by_cases k3 : kind = 3
   ·subst k3
    simp only [true_or, or_true, if_true] at hy
    rw [hy]
    by_cases e1 : ns = 0
    ·have e1' : ((ns : Int) == 0) = true := by simpa using e1
     by_cases e2 : ks = 0
     ·have e2' : ((ks : Int) == 0) = true := by simpa using e2
      simp -dsimp [I, nn1, n1n, hL1, hL2, e1', e2']
      exact hq ⟨by simp [Tt, e1, e2], frp _ _⟩
     ·have e2' : ((ks : Int) == 0) = false := by simpa using e2
      simp -dsimp [I, nn1, n1n, hL1, hL2, e1', e2']
      exact hq ⟨by simp [Tt, e1, e2], frp _ _⟩
    ·have e1' : ((ns : Int) == 0) = false := by simpa using e1
     simp -dsimp [I, nn1, n1n, hL1, hL2, e1']
     exact hq ⟨by simp [Tt, e1], frp _ _⟩
   simp only [k1, k2, k3, or_self, if_false] at hy
   have k1' : (kind == 1) = false := by simpa using k1
   have k2' : (kind == 2) = false := by simpa using k2
   have k3' : (kind == 3) = false := by simpa using k3
   simp -dsimp [k1', k2', k3']
   by_cases k4 : kind = 4
   ·subst k4
    simp only [if_true] at hy
    rw [hy]
    by_cases e1 : ns = 1
    ·have e1' : ((ns : Int) == 1) = true := by simp [e1]
     by_cases e2 : ks = 0
     ·have e2' : ((ks : Int) == 0) = true := by simpa using e2
      simp -dsimp [I, nn1, n1n, hL1, hL2, e1', e2']
      exact hq ⟨by simp [Tt, e1, e2], frp _ _⟩
     ·have e2' : ((ks : Int) == 0) = false := by simpa using e2
      simp -dsimp [I, nn1, n1n, hL1, hL2, e1', e2']
      exact hq ⟨by simp [Tt, e1, e2], frp _ _⟩
    ·have e1' : ((ns : Int) == 1) = false := by simp; omega
     simp -dsimp [I, nn1, n1n, hL1, hL2, e1']
     exact hq ⟨by simp [Tt, e1], frp _ _⟩
   have k4' : (kind == 4) = false := by simpa using k4
   simp -dsimp [k4']
   simp only [k4, if_false] at hy
   by_cases k5 : kind = 5
   ·subst k5
    simp only [if_true, show ¬ (5 : Int) = 4 by omega, if_false] at hy
    rw [hy]
    by_cases e1 : ns = ks
    ·have e1' : ((ns : Int) == ks) = true := by simp [e1]
     simp -dsimp [I, nn1, n1n, hL1, hL2, e1']
     refine aCall_of (hcn false _ _) ?_
     rintro d m' n' ⟨rfl, rfl, rfl⟩
     simp -dsimp [I]
     exact hq ⟨by simp [Tt, e1], frp _ _⟩
    ·have e1' : ((ns : Int) == ks) = false := by simp; omega
     simp -dsimp [I, nn1, n1n, hL1, hL2, e1']
     exact hq ⟨by simp [Tt, e1], frp _ _⟩
   have k5' : (kind == 5) = false := by simpa using k5
   simp -dsimp [k5']
   simp only [k5, if_false] at hy
   by_cases k6 : kind = 6
   ·subst k6
    simp only [if_true] at hy
    rw [hy]
    by_cases e0 : (1 : Int) ≤ ns
    ·have e00 : 1 ≤ ns := by omega
     by_cases e1 : ns = ks
     ·have e1' : ((ns : Int) == ks) = true := by simp [e1]
      simp -dsimp [I, nn1, n1n, hL1, hL2, e0, e00, e1']
      refine aCall_of (hcn true _ _) ?_
      rintro d m' n' ⟨rfl, rfl, rfl⟩
      simp -dsimp [I]
      exact hq ⟨by simp [Tt, e00, ← e1], frp _ _⟩
     ·have e1' : ((ns : Int) == ks) = false := by simp; omega
      simp -dsimp [I, nn1, n1n, hL1, hL2, e0, e00, e1']
      exact hq ⟨by simp [Tt, e1], frp _ _⟩
    ·have e00 : ¬ 1 ≤ ns := by omega
     simp -dsimp [I, nn1, n1n, hL1, hL2, e0, e00]
     exact hq ⟨by simp [Tt, e00], frp _ _⟩
   have k6' : (kind == 6) = false := by simpa using k6
   simp -dsimp [k6']
   simp only [k6, if_false] at hy
   by_cases k7 : kind = 7
   ·subst k7
    simp only [if_true] at hy
    rw [hy]
    by_cases e0 : (1 : Int) ≤ ns
    ·have e00 : 1 ≤ ns := by omega
     by_cases e2 : ks = 0
     ·have e2' : ((ks : Int) == 0) = true := by simpa using e2
      simp -dsimp [I, nn1, n1n, hL1, hL2, e0, e00, e2']
      exact hq ⟨by simp [Tt, e00, e2], frp _ _⟩
     ·have e2' : ((ks : Int) == 0) = false := by simpa using e2
      simp -dsimp [I, nn1, n1n, hL1, hL2, e0, e00, e2']
      exact hq ⟨by simp [Tt, e2], frp _ _⟩
    ·have e00 : ¬ 1 ≤ ns := by omega
     simp -dsimp [I, nn1, n1n, hL1, hL2, e0, e00]
     exact hq ⟨by simp [Tt, e00], frp _ _⟩
   have k7' : (kind == 7) = false := by simpa using k7
   simp -dsimp [k7']
   simp only [k7, if_false] at hy
   by_cases k8 : kind = 8
   ·subst k8
    simp only [if_true] at hy
    rw [hy]
    by_cases e1 : ns = 0
    case neg =>
     have e1' : ((ns : Int) == 0) = false := by simpa using e1
     simp -dsimp [I, nn1, n1n, hL1, hL2, e1']
     exact hq ⟨by simp [Tt, e1], frp _ _⟩
    have e1' : ((ns : Int) == 0) = true := by simpa using e1
    by_cases e2 : ks = 0
    case neg =>
     have e2' : ((ks : Int) == 0) = false := by simpa using e2
     simp -dsimp [I, nn1, n1n, hL1, hL2, e1', e2']
     exact hq ⟨by simp [Tt, e2], frp _ _⟩
    have e2' : ((ks : Int) == 0) = true := by simpa using e2
    simp -dsimp [I, nn1, n1n, hL1, hL2, e1', e2']
    refine aCall_of (cGreat name l5 _ _) ?_
    rintro d m' n' ⟨rfl, rfl, rfl⟩
    cases e3 : greatN name with
    | false =>
     simp -dsimp [I, Tt]
     exact hq ⟨by simp [Tt], frp _ _⟩
    | true =>
    by_cases e4 : mod = []
    ·subst e4
     simp -dsimp [I, Tt, nn1, n1n]
     exact hq ⟨by simp [Tt, e1, e2], frp _ _⟩
    ·have e4' : (mod == []) = false := by simpa using e4
     simp -dsimp [I, Tt, nn1, n1n, e4']
     refine aCall_of (cSmall mod l4 _ _) ?_
     rintro d m' n' ⟨rfl, rfl, rfl⟩
     simp -dsimp [I, Tt]
     exact hq ⟨by simp [Tt, e1, e2, e4], frp _ _⟩
   have k8' : (kind == 8) = false := by simpa using k8
   simp -dsimp [k8']
   simp only [k8, if_false] at hy
   by_cases k9 : kind = 9
   ·subst k9
    simp only [if_true] at hy
    rw [hy]
    by_cases e1 : ns = 0
    case neg =>
     have e1' : ((ns : Int) == 0) = false := by simpa using e1
     simp -dsimp [I, nn1, n1n, hL1, hL2, e1']
     exact hq ⟨by simp [Tt, e1], frp _ _⟩
    have e1' : ((ns : Int) == 0) = true := by simpa using e1
    by_cases e2 : ks = 0
    case neg =>
     have e2' : ((ks : Int) == 0) = false := by simpa using e2
     simp -dsimp [I, nn1, n1n, hL1, hL2, e1', e2']
     exact hq ⟨by simp [Tt, e2], frp _ _⟩
    have e2' : ((ks : Int) == 0) = true := by simpa using e2
    simp -dsimp [I, nn1, n1n, hL1, hL2, e1', e2']
    refine aCall_of (cSmall pkg l3 _ _) ?_
    rintro d m' n' ⟨rfl, rfl, rfl⟩
    cases e3 : smallN pkg with
    | false =>
     simp -dsimp [I, Tt]
     exact hq ⟨by simp [Tt], frp _ _⟩
    | true =>
    simp -dsimp [I, Tt, nn1, n1n]
    refine aCall_of (cSmall mod l4 _ _) ?_
    rintro d m' n' ⟨rfl, rfl, rfl⟩
    cases e4 : smallN mod with
    | false =>
     simp -dsimp [I, Tt]
     exact hq ⟨by simp [Tt], frp _ _⟩
    | true =>
    simp -dsimp [I, Tt, nn1, n1n]
    refine aCall_of (cGreat name l5 _ _) ?_
    rintro d m' n' ⟨rfl, rfl, rfl⟩
    cases e5 : greatN name with
    | false =>
     simp -dsimp [I, Tt]
     exact hq ⟨by simp [Tt], frp _ _⟩
    | true =>
    by_cases e6 : 1 ≤ major
    ·by_cases e7 : major ≤ 999999999
     ·simp -dsimp [I, Tt, nn1, n1n, e6, e7]
      exact hq ⟨by simp [Tt, e1, e2, e6, e7], frp _ _⟩
     ·simp -dsimp [I, Tt, nn1, n1n, e6, e7]
      exact hq ⟨by simp [Tt, e7], frp _ _⟩
    ·simp -dsimp [I, Tt, nn1, n1n, e6]
     exact hq ⟨by simp [Tt, e6], frp _ _⟩
   have k9' : (kind == 9) = false := by simpa using k9
   simp -dsimp [k9']
   simp only [k9, if_false] at hy
   rw [hy]
   exact hq ⟨rfl, frp _ _⟩
 ·rintro d m' n' ⟨rfl, h⟩
  exact ⟨_, (pur_T _).pub, h, rfl⟩
end Go.Proofs.Mv.App
open Go Go.Proofs Go.Proofs.Mv.V
set_option maxRecDepth 10000
namespace Go.Proofs.Mv.App
variable [GI]
structure CntInv (kind : Int) (pkg : List UInt8) (major : Int) (mod name : List UInt8) (NL SL : List (List D)) (subs : List Ty) (depth most : Int) (m : Mem) (n : Nat) (i : Nat) (σ : Nat → D) (m2 : Mem) (n2 : Nat) : Prop where
 h1 : σ 1 = I depth
 h2 : σ 2 = I most
 h3 : σ 3 = .ptr n 0 0 0
 h7 : σ 7 = I (1 + manyTs (subs.take i))
 h23 : σ 23 = .sl 7 SL
 h24 : σ 24 = I subs.length
 h25 : σ 25 = I i
 le : i ≤ subs.length
 ok : CntOk subs depth most i
 nn : n + 1 ≤ n2
 fr : ∀ j, j < n → m2 j = m j
set_option maxHeartbeats 2000000 in
theorem cCount {t : Ty} (ht : TyW t) : ∀ (depth most : Int) (m : Mem) (n : Nat), depth ≤ 1000000 → 0 ≤ depth → most ≤ 1000000 → -1000000 ≤ most → ACalls Tryz.prog 190 [.agg (tyD t), I depth, I most] m n (fun d m' n' => d = I (cntT t depth most) ∧ m' = m ∧ n' = n) := by
 induction ht with
 | mk kind pkg major mod name names subs l1 l2 l3 l4 l5 l6 l7 ih =>
  intro depth most m n d1 d2 q1 q2
  refine acalls_done (R' := Hq (fun d m' n' => d = I (cntT (.mk kind pkg major mod name names subs) depth most) ∧ ∀ j, j < n → m' j = m j) tg) ?_ ?_
  ·have fr : ∀ o j, j < n → (m.set n o) j = m j := fun o j hj => by rw [set_ne _ _ _ _ (by omega)]
   have hL2 : (tysD subs).length = subs.length := by rw [tysD_eq]; simp
   have hG2 : ∀ i (h : i < subs.length), (tysD subs)[i]? = some (tyD subs[i]) := fun i h => by rw [tysD_eq]; simp [h]
   have hcs := fun m n => cShape (.mk kind pkg major mod name names subs l1 l2 l3 l4 l5 l6 l7) m n
   have hno : ∀ h, cntT (.mk kind pkg major mod name names subs) depth most = 0 := fun h => cntT_no h
   have hst : ∀ {i : Nat} (hi : i < subs.length), cntT subs[i] (depth - 1) (most - (1 + manyTs (subs.take i))) = 0 → cntT (.mk kind pkg major mod name names subs) depth most = 0 := fun hi h => CntOk.stop hi h
   have hal : ∀ {i : Nat}, shapeT (.mk kind pkg major mod name names subs) = true → CntOk subs depth most i → subs.length ≤ i → cntT (.mk kind pkg major mod name names subs) depth most = 1 + manyTs subs := fun h1 h2 h3 => CntOk.all h1 h2 h3
   simp only [tyD, sl1] at hcs ⊢
   generalize cntT (.mk kind pkg major mod name names subs) depth most = CT at hno hst hal
   generalize shapeT (.mk kind pkg major mod name names subs) = SH at hno hcs hal
   generalize (names.map fun s => [S s]) = NL at hcs
   generalize tysD subs = SL at hL2 hG2 hcs
   refine acalls_vc [0, 1, 2, 3, 6, 7, 9, 10, 21, 23, 24, 25, 26, 37] Tryz.func190 Tryz.ntmps190 (by kernel_rfl) rfl rfl (by simp) ?_
   by_cases c1 : depth < 1
   ·simp -dsimp [I, c1]
    exact hq ⟨by rw [hno (.inl c1)]; rfl, fr _⟩
   by_cases c2 : most < 1
   ·simp -dsimp [I, c1, c2]
    exact hq ⟨by rw [hno (.inr (.inl c2))]; rfl, fr _⟩
   simp -dsimp [I, c1, c2]
   refine aCall_of (hcs _ _) ?_
   rintro d m' n' ⟨rfl, rfl, rfl⟩
   cases hS : SH with
   | false =>
    simp -dsimp [I, c1, c2, Tt]
    exact hq ⟨by rw [hno (.inr (.inr hS))]; rfl, fr _⟩
   | true =>
   simp -dsimp [I, c1, c2, Tt]
   refine vloop_of (β := Nat) (CntInv kind pkg major mod name NL SL subs depth most m n) (fun i => subs.length - i) 0 ⟨by simp [I], by simp [I], by simp, by simp [I, manyTs], by simp, by simp [I, hL2], by simp [I], by omega, CntOk.zero (by omega) (by omega), by omega, fr _⟩ ?_
   rintro i σ m2 n2 ⟨h1, h2, h3, h7, h23, h24, h25, le, ok, nn, fr2⟩
   by_cases hi : (i : Int) < subs.length
   ·have hi' : i < subs.length := by omega
    have wi : IntKind.i64.wrap ((i : Int) + 1) = (i : Int) + 1 := wrap_i64 (by omega) (by omega)
    have hiN : i < SL.length := by omega
    have hgi : SL[i] = tyD subs[i] := get_opt (hG2 i hi') hiN
    have hsn := manyTs_snoc (subs.take i) subs[i]
    rw [← take_snoc hi'] at hsn
    have hmn := ok.mn
    have hstp := ok.step hi'
    have hs0 := hst hi'
    have hih := fun m n => ih subs[i] (List.getElem_mem hi') (depth - 1) (most - (1 + manyTs (subs.take i))) m n (by omega) (by omega) (by omega) (by omega)
    have hcl := cntT_le subs[i] (depth - 1) (most - (1 + manyTs (subs.take i)))
    have hce := cntT_eq (t := subs[i]) (d := depth - 1) (q := most - (1 + manyTs (subs.take i)))
    have wd : IntKind.i64.wrap (depth - 1) = depth - 1 := wrap_i64 (by omega) (by omega)
    have wm : IntKind.i64.wrap (most - (1 + (manyTs (subs.take i) : Int))) = most - (1 + (manyTs (subs.take i) : Int)) := wrap_i64 (by omega) (by omega)
    have h77 := tyD_len subs[i]
    generalize tyD subs[i] = TT at hgi hih h77
    have ht7 : List.take 7 TT = TT := List.take_of_length_le (by omega)
    simp -dsimp [h1, h2, h3, h7, h23, h24, h25, I, hi, hi', hiN, hgi, h77, ht7, wd, wm]
    refine aCall_of (hih _ _) ?_
    rintro d m' n' ⟨rfl, rfl, rfl⟩
    generalize cntT subs[i] (depth - 1) (most - (1 + manyTs (subs.take i))) = CK at hstp hs0 hcl hce
    by_cases c3 : CK = 0
    ·have c3' : (CK == 0) = true := by simpa using c3
     simp -dsimp [h1, h2, h3, h7, h23, h24, h25, I, c3']
     exact hq ⟨by rw [hs0 c3]; rfl, fun j hj => by rw [set_ne _ _ _ _ (by omega)]; exact fr2 j hj⟩
    ·have hke := (hce c3).1
     have c3' : (CK == 0) = false := by simpa using c3
     have hcl2 := hcl.2 (by omega)
     have ws : IntKind.i64.wrap (1 + (manyTs (subs.take i) : Int) + CK) = 1 + (manyTs (subs.take i) : Int) + CK := wrap_i64 (by omega) (by omega)
     simp -dsimp [h1, h2, h3, h7, h23, h24, h25, I, c3', ws, wi]
     refine ⟨i + 1, by omega, by simp [I], by simp [I], by simp, by simp [I, hsn]; omega, by simp, by simp [I], by simp [I], by omega, hstp c3, by omega, fun j hj => by rw [set_ne _ _ _ _ (by omega)]; exact fr2 j hj⟩
   ·have ht : subs.take i = subs := List.take_of_length_le (by omega)
    rw [ht] at h7
    simp -dsimp [h1, h2, h3, h7, h23, h24, h25, I, hi]
    exact hq ⟨by rw [hal hS ok (by omega)]; rfl, fr2⟩
  ·rintro d m' n' ⟨rfl, h⟩
   exact ⟨_, (pur_I _).pub, h, rfl⟩
theorem cSize {t : Ty} (ht : TyW t) (m : Mem) (n : Nat) : ACalls Tryz.prog 160 [.agg (tyD t)] m n (fun d m' n' => d = I (cntT t 32 500) ∧ m' = m ∧ n' = n) := by
 refine acalls_done (R' := Hq (fun d m' n' => d = I (cntT t 32 500) ∧ ∀ j, j < n → m' j = m j) tg) ?_ ?_
 ·have h7 := tyD_len t
  have hc := fun m n => cCount ht 32 500 m n (by omega) (by omega) (by omega) (by omega)
  generalize tyD t = TT at h7 hc
  have ht7 : List.take 7 TT = TT := List.take_of_length_le (by omega)
  refine acalls_vc [0, 1, 2] Tryz.func160 Tryz.ntmps160 (by kernel_rfl) rfl rfl (by simp) ?_
  simp -dsimp [h7, ht7]
  refine aCall_of (hc _ _) ?_
  rintro d m' n' ⟨rfl, rfl, rfl⟩
  simp -dsimp [I]
  exact hq ⟨rfl, fun j hj => by rw [set_ne _ _ _ _ (by omega)]⟩
 ·rintro d m' n' ⟨rfl, h⟩
  exact ⟨_, (pur_I _).pub, h, rfl⟩
theorem cMay {t : Ty} (ht : TyW t) (m : Mem) (n : Nat) : ACalls Tryz.prog 121 [.agg (tyD t)] m n (fun d m' n' => d = Tt (mayT t) ∧ m' = m ∧ n' = n) := by
 refine acalls_done (R' := Hq (fun d m' n' => d = Tt (mayT t) ∧ ∀ j, j < n → m' j = m j) tg) ?_ ?_
 ·have h7 := tyD_len t
  have hc := fun m n => cSize ht m n
  generalize tyD t = TT at h7 hc
  have ht7 : List.take 7 TT = TT := List.take_of_length_le (by omega)
  refine acalls_vc [0, 1, 2] Tryz.func121 Tryz.ntmps121 (by kernel_rfl) rfl rfl (by simp) ?_
  simp -dsimp [h7, ht7]
  refine aCall_of (hc _ _) ?_
  rintro d m' n' ⟨rfl, rfl, rfl⟩
  simp -dsimp [I]
  exact hq ⟨by simp [Tt, mayT_cnt], fun j hj => by rw [set_ne _ _ _ _ (by omega)]⟩
 ·rintro d m' n' ⟨rfl, h⟩
  exact ⟨_, (pur_T _).pub, h, rfl⟩
end Go.Proofs.Mv.App
open Go Go.Proofs Go.Proofs.Mv.V
set_option maxRecDepth 10000
namespace Go.Proofs.Mv.App
end Go.Proofs.Mv.App
open Go Go.Proofs Go.Proofs.Mv.V
set_option maxRecDepth 10000
namespace Go.Proofs.Mv.App
variable [GI]
def badNm (kind : Int) (l : List (List UInt8)) (i : Nat) : Bool :=
 (decide (kind = 5) && !smallN (l.getD i [])) || (decide (kind = 6) && !greatN (l.getD i [])) || (decide (0 < i) && !ltB (l.getD (i - 1) []) (l.getD i []))
structure OwnInv (kind : Int) (names : List (List UInt8)) (ns ks : Nat) (M : Mem) (n : Nat) (i : Nat) (σ : Nat → D) (m2 : Mem) (n2 : Nat) : Prop where
 h1 : σ 1 = .ptr n 0 0 0
 h3 : σ 3 = I ns
 h4 : σ 4 = I ks
 h5 : σ 5 = I i
 le : i ≤ ks
 al : ∀ j, j < i → badNm kind names j = false
 mm : m2 = M
 nn : n2 = n + 1
structure OwnAft (kind : Int) (names : List (List UInt8)) (ns ks : Nat) (M : Mem) (n : Nat) (σ : Nat → D) (m2 : Mem) (n2 : Nat) : Prop where
 h1 : σ 1 = .ptr n 0 0 0
 h3 : σ 3 = I ns
 h4 : σ 4 = I ks
 al : ∀ j, j < ks → badNm kind names j = false
 mm : m2 = M
 nn : n2 = n + 1
structure OwnMid (E : Bool) (ns ks : Nat) (M : Mem) (n : Nat) (σ : Nat → D) (m2 : Mem) (n2 : Nat) : Prop where
 h1 : σ 1 = .ptr n 0 0 0
 h3 : σ 3 = I ns
 h4 : σ 4 = I ks
 h8 : σ 8 = Tt E
 mm : m2 = M
 nn : n2 = n + 1
structure AllInv (kind : Int) (pkg : List UInt8) (major : Int) (mod name : List UInt8) (NL SL : List (List D)) (subs : List Ty) (sh : Bool) (m : Mem) (n : Nat) (i : Nat) (σ : Nat → D) (m2 : Mem) (n2 : Nat) : Prop where
 h1 : σ 1 = .ptr n 0 0 0
 h3 : σ 3 = Tt (sh && allTs (subs.take i))
 h4 : σ 4 = I i
 le : i ≤ subs.length
 mm : m2 = m.set n (tyO kind pkg major mod name NL SL)
 nn : n2 = n + 1
end Go.Proofs.Mv.App
open Go Go.Proofs Go.Proofs.Mv.V
set_option maxRecDepth 10000
namespace Go.Proofs.Mv.App
end Go.Proofs.Mv.App
open Go Go.Proofs Go.Proofs.Mv.V
set_option maxRecDepth 10000
namespace Go.Proofs.Mv.App
theorem beq_no {a b : List UInt8} (h : ¬ a = b) : (a == b) = false := by simpa using h
theorem cWordT (s : List UInt8) : Pc Tryz.prog 157 [S s] (Tt (decide (s ∈ wordsT))) := by
 refine pc_of (pur_T _) (fun m n => ?_)
 refine acalls_vc [0, 2] Tryz.func157 Tryz.ntmps157 (by kernel_rfl) rfl rfl (by simp) ?_
 simp -dsimp [S]
 refine aCall_of (cContainsStr wordsT s n _ _ (by decide) (by simp [wordsT, S])) ?_
 rintro d m' n' ⟨rfl, rfl, rfl⟩
 simp -dsimp [Tt]
 exact pcq rfl fun j hj => set_ne _ _ _ _ (by omega)
theorem cNameT {s : List UInt8} (hs : s.length ≤ 9223372036854775807) : Pc Tryz.prog 115 [S s] (Tt (nameN s)) := by
 refine pc_of (pur_T _) (fun m n => ?_)
 refine acalls_vc [0, 2] Tryz.func115 Tryz.ntmps115 (by kernel_rfl) rfl rfl (by simp) ?_
 simp -dsimp [S]
 refine pcall (fun m n => cSmall s hs m n) ?_
 cases h : smallN s
 ·simp -dsimp [Tt]
  exact pcq' (by simp [nameN, h])
 ·simp -dsimp [Tt, S]
  refine pcall (cWordT s) ?_
  simp -dsimp [Tt]
  exact pcq' (by simp [nameN, h])
theorem cTagT {s : List UInt8} (hs : s.length ≤ 9223372036854775807) : Pc Tryz.prog 117 [S s] (Tt (tagN s)) := by
 refine pc_of (pur_T _) (fun m n => ?_)
 refine acalls_vc [0, 2] Tryz.func117 Tryz.ntmps117 (by kernel_rfl) rfl rfl (by simp) ?_
 simp -dsimp [S]
 refine pcall (fun m n => cGreat s hs m n) ?_
 cases h : greatN s
 ·simp -dsimp [Tt]
  exact pcq' (by simp [tagN, h])
 ·by_cases e1 : s = wTrue
  ·subst e1
   simp -dsimp [S, Tt, wTrue]
   exact pcq' (by simp [tagN, wTrue, wFalse])
  ·by_cases e2 : s = wFalse
   ·subst e2
    simp -dsimp [S, Tt, wFalse]
    exact pcq' (by simp [tagN, wTrue, wFalse])
   ·have hn : tagN s = true := by simp [tagN, h, e1, e2]
    rw [hn]
    simp only [wTrue, wFalse] at e1 e2
    simp -dsimp [S, Tt, beq_no e1, beq_no e2]
    exact pcq' rfl
end Go.Proofs.Mv.App
