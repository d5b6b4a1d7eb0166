/- A part of the proofs: machine, contracts, laws. No condition of its own. -/
import Derived.Test.YtndinledjelleaaGreatDoorP11
import Derived.Test.YtndinledjelleaaGreatDoorP06
import Derived.Test.YtndinledjelleaaGreatDoorP10
import Derived.Test.YtndinledjelleaaGreatDoorP08
import Derived.Test.YtndinledjelleaaGreatDoorP09
import Derived.Test.YtndinledjelleaaGreatDoorMvC
import Derived.Shelf.LaysM
import Derived.Ground.NamesProg
import Derived.Test.YtndinledjelleaaGreatDoorProg
set_option linter.unusedSimpArgs false
set_option linter.unusedVariables false
set_option linter.unusedSectionVars false
open Go Go.Proofs Go.Proofs.Mv.V
set_option maxRecDepth 10000
namespace Go.Proofs.Mv.App
theorem cIndexSl {l : List (List UInt8)} (hl : l.length ≤ 9223372036854775807) (x : List UInt8) : Pc Tryz.prog 204 [sl1 l, S x] (I (findI (fun s => decide (s = x)) l)) := by
 refine pc_of (pur_I _) (fun m n => ?_)
 have hL : (l.map fun s => [S s]).length = l.length := by simp
 have hG : ∀ i (h : i < l.length), (l.map fun s => [S s])[i]? = some [S l[i]] := fun i h => by simp [h]
 simp only [sl1]
 generalize (l.map fun s => [S s]) = EL at hL hG
 refine acalls_vc [0, 1, 4, 5, 7, 8, 9, 16] Tryz.func204 Tryz.ntmps204 (by kernel_rfl) rfl rfl (by simp) ?_
 simp -dsimp [S, I, hL]
 refine vloop_as (β := Nat) (fun i => [(0, .sl 1 EL), (1, S x), (7, I l.length), (8, I i)]) (fun i m2 n2 => m2 = m ∧ n2 = n ∧ i ≤ l.length ∧ ∀ s ∈ l.take i, decide (s = x) = false) (fun i => l.length - i) 0 (by simp [I, S]) ⟨rfl, rfl, by omega, by simp⟩ ?_
 rintro i m2 n2 ⟨rfl, rfl, le, al⟩
 by_cases hi : (i : Int) < l.length
 ·have hi' : i < l.length := by omega
  have wi : IntKind.i64.wrap ((i : Int) + 1) = (i : Int) + 1 := wrap_i64 (by omega) (by omega)
  have hiN : i < EL.length := by omega
  have hgi : EL[i] = [S l[i]] := get_opt (hG i hi') hiN
  by_cases c : l[i] = x
  ·have c' : (x == l[i]) = true := by simp [c]
   simp -dsimp [I, S, Tt, hL, hi, hi', hiN, hgi, c']
   exact pcq' (by rw [findI_hit hi' (by simpa using c) al])
  ·have c' : (x == l[i]) = false := by
    have : ¬ x = l[i] := fun e => c e.symm
    simpa using this
   simp -dsimp [I, S, Tt, hL, hi, hi', hiN, hgi, c', wi]
   refine rnd (i + 1) (by omega) (by simp [I, S]) ⟨rfl, rfl, by omega, fun s hs => ?_⟩
   rw [List.take_succ_eq_append_getElem hi'] at hs
   rcases List.mem_append.1 hs with hs | hs
   ·exact al s hs
   ·simp at hs; rw [hs]; simpa using c
 ·rw [List.take_of_length_le (by omega)] at al
  simp -dsimp [I, S, Tt, hL, hi]
  exact pcq' (by rw [findI_no al])
theorem findI_mem {l : List (List UInt8)} {x : List UInt8} : 0 ≤ findI (fun s => decide (s = x)) l ↔ x ∈ l := by
 rw [findI_any, List.any_eq_true]
 constructor
 ·rintro ⟨s, hs, e⟩; rw [← (by simpa using e : s = x)]; exact hs
 ·intro h; exact ⟨x, h, by simp⟩
theorem cContainsSl {l : List (List UInt8)} (hl : l.length ≤ 9223372036854775807) (x : List UInt8) : Pc Tryz.prog 135 [sl1 l, S x] (Tt (decide (x ∈ l))) := by
 refine pc_of (pur_T _) (fun m n => ?_)
 have hc := cIndexSl hl x
 have hm := findI_mem (l := l) (x := x)
 generalize findI (fun s => decide (s = x)) l = F at hc hm
 simp only [sl1] at hc ⊢
 generalize (l.map fun s => [S s]) = EL at hc
 refine acalls_vc [0, 1, 4] Tryz.func135 Tryz.ntmps135 (by kernel_rfl) rfl rfl (by simp) ?_
 simp -dsimp [S]
 refine pcall hc ?_
 by_cases h : x ∈ l
 ·have := hm.2 h
  simp -dsimp [I, Tt, this]
  exact pcq' (by simp [Tt, h])
 ·have : ¬ 0 ≤ F := fun e => h (hm.1 e)
  simp -dsimp [I, Tt, this]
  exact pcq' (by simp [Tt, h])
set_option maxHeartbeats 1000000 in
theorem cRisingT {ok : List UInt8 → Bool} {fp : FuncId} {l : List (List UInt8)} (hl : l.length ≤ 9223372036854775807) (hp : ∀ s ∈ l, Pc Tryz.prog fp [S s] (Tt (ok s))) :
  Pc Tryz.prog 187 [sl1 l, .func (.func fp) [] []] (Tt (risO ok l)) := by
 refine pc_of (pur_T _) (fun m n => ?_)
 have hL : (l.map fun s => [S s]).length = l.length := by simp
 have hG : ∀ i (h : i < l.length), (l.map fun s => [S s])[i]? = some [S l[i]] := fun i h => by simp [h]
 simp only [sl1]
 generalize (l.map fun s => [S s]) = EL at hL hG
 refine acalls_vc [0, 1, 4, 5, 6, 7, 8, 9, 10, 30] Tryz.func187 Tryz.ntmps187 (by kernel_rfl) rfl rfl (by simp) ?_
 simp -dsimp [S, I, hL]
 refine vloop_as (β := Nat) (fun i => [(0, .sl 1 EL), (1, .func (.func fp) [] []), (7, .sl 1 EL), (8, I l.length), (9, I i)]) (fun i m2 n2 => m2 = m ∧ n2 = n ∧ i ≤ l.length ∧ ∀ j, j < i → stepO ok l j = true) (fun i => l.length - i) 0 (by simp [I, S]) ⟨rfl, rfl, by omega, fun j h => by omega⟩ ?_
 rintro i m2 n2 ⟨rfl, rfl, le, al⟩
 by_cases hi : (i : Int) < l.length
 ·have hi' : i < l.length := by omega
  have wi : IntKind.i64.wrap ((i : Int) + 1) = (i : Int) + 1 := wrap_i64 (by omega) (by omega)
  have hiN : i < EL.length := by omega
  have hgi : EL[i] = [S l[i]] := get_opt (hG i hi') hiN
  have hc := hp l[i] (List.getElem_mem hi')
  have hst := stepO_get (ok := ok) hi'
  have hno := fun h => risO_no (ok := ok) hi' h
  have nx : stepO ok l i = true → ∀ j, j < i + 1 → stepO ok l j = true := fun h j hj => by
   rcases Nat.lt_or_eq_of_le (show j ≤ i by omega) with c | c
   ·exact al j c
   ·subst c; exact h
  simp -dsimp [I, S, Tt, hL, hi, hi', hiN, hgi]
  refine pcall hc ?_
  cases e : ok l[i] with
  | false =>
   simp -dsimp [I, S, Tt]
   exact pcq' (by rw [hno (by rw [hst, e]; rfl)])
  | true =>
   rw [e, Bool.true_and] at hst
   by_cases i0 : i = 0
   ·subst i0
    simp -dsimp [I, S, Tt, hL, hi, hi', hiN, hgi, wi]
    have w1 : IntKind.i64.wrap 1 = 1 := wrap_i64 (by omega) (by omega)
    exact rnd 1 (by omega) (by simp [I, S, w1]) ⟨rfl, rfl, by omega, nx (by rw [hst]; simp)⟩
   ·have i1 : (0 : Int) < i := by omega
    have i1' : 0 < i := by omega
    have w1 : IntKind.i64.wrap ((i : Int) - 1) = ((i - 1 : Nat) : Int) := by rw [wrap_i64 (by omega) (by omega)]; omega
    have hp1 : i - 1 < l.length := by omega
    have hp2 : i - 1 < EL.length := by omega
    have hp3 : ((i - 1 : Nat) : Int) < l.length := by omega
    have hgp : EL[i - 1] = [S l[i - 1]] := get_opt (hG _ hp1) hp2
    have hgp' : EL[i - 1]? = some [S l[i - 1]] := hG _ hp1
    have hgd : l.getD (i - 1) [] = l[i - 1] := by rw [List.getD_eq_getElem?_getD, List.getElem?_eq_getElem hp1]; rfl
    have hlt : Op.bytesLess l[i - 1] l[i] = ltB l[i - 1] l[i] := rfl
    rw [hgd, decide_eq_false i0, Bool.false_or] at hst
    cases c2 : ltB l[i - 1] l[i]
    ·simp -dsimp [I, S, Tt, hL, hi, hi', hiN, hgi, i1, i1', w1, hp1, hp2, hp3, hgp, hgp', hlt, c2]
     exact pcq' (by rw [hno (by rw [hst, c2])])
    ·simp -dsimp [I, S, Tt, hL, hi, hi', hiN, hgi, i1, i1', w1, hp1, hp2, hp3, hgp, hgp', hlt, c2, wi]
     exact rnd (i + 1) (by omega) (by simp [I, S]) ⟨rfl, rfl, by omega, nx (by rw [hst, c2])⟩
 ·simp -dsimp [I, S, Tt, hL, hi]
  exact pcq' (by rw [risO_yes fun j hj => al j (by omega)])
set_option maxHeartbeats 1000000 in
theorem cDistinctT {l : List (List UInt8)} (hl : l.length ≤ 9223372036854775807) (hs : ∀ s ∈ l, s.length ≤ 9223372036854775807) :
  Pc Tryz.prog 189 [sl1 l] (Tt (l.all nameN && distN l)) := by
 refine pc_of (pur_T _) (fun m n => ?_)
 have hL : (l.map fun s => [S s]).length = l.length := by simp
 have hG : ∀ i (h : i < l.length), (l.map fun s => [S s])[i]? = some [S l[i]] := fun i h => by simp [h]
 have hC : ∀ i (h : i < l.length), Pc Tryz.prog 135 [.sl 1 ((l.map fun s => [S s]).take i), S l[i]] (Tt (decide (l[i] ∈ l.take i))) := fun i h => by
  have := cContainsSl (l := l.take i) (by simp; omega) l[i]
  simp only [sl1, List.map_take] at this
  exact this
 simp only [sl1]
 generalize (l.map fun s => [S s]) = EL at hL hG hC
 refine acalls_vc [0, 2, 3, 4, 5, 6, 7, 8, 21] Tryz.func189 Tryz.ntmps189 (by kernel_rfl) rfl rfl (by simp) ?_
 simp -dsimp [S, I, hL]
 refine vloop_as (β := Nat) (fun i => [(0, .sl 1 EL), (5, .sl 1 EL), (6, I l.length), (7, I i)]) (fun i m2 n2 => m2 = m ∧ n2 = n ∧ i ≤ l.length ∧ (∀ s ∈ l.take i, nameN s = true) ∧ ∀ j (hj : j < l.length), j < i → l[j] ∉ l.take j) (fun i => l.length - i) 0 (by simp [I, S]) ⟨rfl, rfl, by omega, by simp, fun j h h2 => by omega⟩ ?_
 rintro i m2 n2 ⟨rfl, rfl, le, al, ad⟩
 by_cases hi : (i : Int) < l.length
 ·have hi' : i < l.length := by omega
  have wi : IntKind.i64.wrap ((i : Int) + 1) = (i : Int) + 1 := wrap_i64 (by omega) (by omega)
  have hiN : i < EL.length := by omega
  have hgi : EL[i] = [S l[i]] := get_opt (hG i hi') hiN
  have hn := cNameT (hs _ (List.getElem_mem hi'))
  have hc := hC i hi'
  have le2 : (i : Int) ≤ l.length := by omega
  simp -dsimp [I, S, Tt, hL, hi, hi', hiN, hgi]
  refine pcall hn ?_
  cases e : nameN l[i] with
  | false =>
   simp -dsimp [I, S, Tt]
   refine pcq' ?_
   rw [show l.all nameN = false from List.all_eq_false.2 ⟨_, List.getElem_mem hi', by simp [e]⟩]; rfl
  | true =>
   simp -dsimp [I, S, Tt, hL, hi, hi', hiN, hgi, le, le2]
   refine pcall hc ?_
   by_cases h : l[i] ∈ l.take i
   ·simp -dsimp [I, S, Tt, h]
    exact pcq' (by rw [distN_no hi' h, Bool.and_false])
   ·simp -dsimp [I, S, Tt, h, wi]
    refine rnd (i + 1) (by omega) (by simp [I, S]) ⟨rfl, rfl, by omega, fun s hs => ?_, fun j hj hji => ?_⟩
    ·rw [List.take_succ_eq_append_getElem hi'] at hs
     rcases List.mem_append.1 hs with hs | hs
     ·exact al s hs
     ·simp at hs; rw [hs]; exact e
    ·rcases Nat.lt_or_eq_of_le (show j ≤ i by omega) with c | c
     ·exact ad j hj c
     ·subst c; exact h
 ·rw [List.take_of_length_le (by omega)] at al
  simp -dsimp [I, S, Tt, hL, hi]
  refine pcq' ?_
  rw [show l.all nameN = true from List.all_eq_true.2 al, distN_yes fun j hj => ad j hj (by omega)]; rfl
end Go.Proofs.Mv.App
open Go Go.Proofs Go.Proofs.Mv.V
set_option maxRecDepth 10000
namespace Go.Proofs.Mv.App
def encS (s : List UInt8) : List D := [S s]
theorem cIdxTyS {l : List (Ty)} {q : Ty → Bool} {fp : FuncId} {cs : List D} (hcs : List.length cs ≤ 3) (hp : ∀ x ∈ l, Pc Tryz.prog fp (.agg (tyD x) :: cs) (Tt (q x))) (hlen : l.length ≤ 9223372036854775807) :
  Pc Tryz.prog 141 [.sl 7 (l.map tyD), .func (.func fp) [] cs] (I (findI q l)) := by
 refine pc_of (pur_I _) (fun m n => ?_)
 have hL2 : (l.map tyD).length = l.length := by simp
 have hG2 : ∀ i (h : i < l.length), (l.map tyD)[i]? = some (tyD l[i]) := fun i h => by simp [h]
 generalize l.map tyD = EL at hL2 hG2
 refine acalls_vc [0, 1, 4, 5, 7, 8, 9, 16] Tryz.func141 Tryz.ntmps141 (by kernel_rfl) rfl rfl (by simp) ?_
 simp -dsimp [hL2, I]
 refine vloop_as (β := Nat) (fun i => [(0, .sl 7 EL), (1, .func (.func fp) [] cs), (7, I l.length), (8, I i)]) (fun i m2 n2 => m2 = m ∧ n2 = n ∧ i ≤ l.length ∧ ∀ x ∈ l.take i, q x = false) (fun i => l.length - i) 0 (by simp [I]) ⟨rfl, rfl, by omega, by simp⟩ ?_
 rintro i m2 n2 ⟨rfl, rfl, le, hno⟩
 by_cases hi : (i : Int) < l.length
 ·have hi' : i < l.length := by omega
  have wi : IntKind.i64.wrap ((i : Int) + 1) = (i : Int) + 1 := wrap_i64 (by omega) (by omega)
  have hiN : i < EL.length := by omega
  have hgi : EL[i] = tyD l[i] := get_opt (hG2 i hi') hiN
  have hz : (tyD l[i]).length = 7 := by simp
  have hc := hp l[i] (List.getElem_mem hi')
  generalize tyD l[i] = XX at hgi hz hc
  have htz : List.take 7 XX = XX := List.take_of_length_le (by omega)
  simp -dsimp [I, Tt, hi, hi', hiN, hgi, hz, htz]
  refine pcall hc ?_
  cases e : q l[i] with
  | true =>
   simp -dsimp [I, Tt]
   exact pcq' (by rw [findI_hit hi' e hno])
  | false =>
   simp -dsimp [I, Tt, wi]
   refine rnd (i + 1) (by omega) (by simp [I]) ⟨rfl, rfl, by omega, fun x hx => ?_⟩
   rw [List.take_succ_eq_append_getElem hi'] at hx
   rcases List.mem_append.1 hx with hx | hx
   ·exact hno x hx
   ·simp at hx; rw [hx]; exact e
 ·have : i = l.length := by omega
  subst this
  rw [List.take_length] at hno
  simp -dsimp [I, Tt, hi]
  exact pcq' (by rw [findI_no hno])
theorem cHasTyS {l : List (Ty)} {q : Ty → Bool} {fp : FuncId} {cs : List D} (hcs : List.length cs ≤ 3) (hp : ∀ x ∈ l, Pc Tryz.prog fp (.agg (tyD x) :: cs) (Tt (q x))) (hlen : l.length ≤ 9223372036854775807) :
  Pc Tryz.prog 83 [.sl 7 (l.map tyD), .func (.func fp) [] cs] (Tt (l.any q)) := by
 refine pc_of (pur_T _) (fun m n => ?_)
 have hc := cIdxTyS hcs hp hlen
 generalize l.map tyD = EL at hc
 refine acalls_vc [0, 1, 4] Tryz.func83 Tryz.ntmps83 (by kernel_rfl) rfl rfl (by simp) ?_
 simp -dsimp
 refine pcall hc ?_
 have h := findI_any q l
 cases e : l.any q with
 | true =>
  have : 0 ≤ findI q l := h.2 e
  simp -dsimp [I, Tt, this]
  exact pcq' rfl
 | false =>
  have : ¬ 0 ≤ findI q l := fun h' => by rw [h.1 h'] at e; cases e
  simp -dsimp [I, Tt, this]
  exact pcq' rfl
theorem cIdxStrS {l : List (List UInt8)} {q : List UInt8 → Bool} {fp : FuncId} {cs : List D} (hcs : List.length cs ≤ 3) (hp : ∀ x ∈ l, Pc Tryz.prog fp (S x :: cs) (Tt (q x))) (hlen : l.length ≤ 9223372036854775807) :
  Pc Tryz.prog 205 [.sl 1 (l.map encS), .func (.func fp) [] cs] (I (findI q l)) := by
 refine pc_of (pur_I _) (fun m n => ?_)
 have hL2 : (l.map encS).length = l.length := by simp
 have hG2 : ∀ i (h : i < l.length), (l.map encS)[i]? = some (encS l[i]) := fun i h => by simp [h]
 generalize l.map encS = EL at hL2 hG2
 refine acalls_vc [0, 1, 4, 5, 7, 8, 9, 16] Tryz.func205 Tryz.ntmps205 (by kernel_rfl) rfl rfl (by simp) ?_
 simp -dsimp [hL2, I]
 refine vloop_as (β := Nat) (fun i => [(0, .sl 1 EL), (1, .func (.func fp) [] cs), (7, I l.length), (8, I i)]) (fun i m2 n2 => m2 = m ∧ n2 = n ∧ i ≤ l.length ∧ ∀ x ∈ l.take i, q x = false) (fun i => l.length - i) 0 (by simp [I]) ⟨rfl, rfl, by omega, by simp⟩ ?_
 rintro i m2 n2 ⟨rfl, rfl, le, hno⟩
 by_cases hi : (i : Int) < l.length
 ·have hi' : i < l.length := by omega
  have wi : IntKind.i64.wrap ((i : Int) + 1) = (i : Int) + 1 := wrap_i64 (by omega) (by omega)
  have hiN : i < EL.length := by omega
  have hgi : EL[i] = encS l[i] := get_opt (hG2 i hi') hiN
  have hc := hp l[i] (List.getElem_mem hi')
  simp -dsimp [I, Tt, hi, hi', hiN, hgi, S, encS]
  refine pcall hc ?_
  cases e : q l[i] with
  | true =>
   simp -dsimp [I, Tt]
   exact pcq' (by rw [findI_hit hi' e hno])
  | false =>
   simp -dsimp [I, Tt, wi]
   refine rnd (i + 1) (by omega) (by simp [I]) ⟨rfl, rfl, by omega, fun x hx => ?_⟩
   rw [List.take_succ_eq_append_getElem hi'] at hx
   rcases List.mem_append.1 hx with hx | hx
   ·exact hno x hx
   ·simp at hx; rw [hx]; exact e
 ·have : i = l.length := by omega
  subst this
  rw [List.take_length] at hno
  simp -dsimp [I, Tt, hi]
  exact pcq' (by rw [findI_no hno])
theorem cHasStrS {l : List (List UInt8)} {q : List UInt8 → Bool} {fp : FuncId} {cs : List D} (hcs : List.length cs ≤ 3) (hp : ∀ x ∈ l, Pc Tryz.prog fp (S x :: cs) (Tt (q x))) (hlen : l.length ≤ 9223372036854775807) :
  Pc Tryz.prog 136 [.sl 1 (l.map encS), .func (.func fp) [] cs] (Tt (l.any q)) := by
 refine pc_of (pur_T _) (fun m n => ?_)
 have hc := cIdxStrS hcs hp hlen
 generalize l.map encS = EL at hc
 refine acalls_vc [0, 1, 4] Tryz.func136 Tryz.ntmps136 (by kernel_rfl) rfl rfl (by simp) ?_
 simp -dsimp
 refine pcall hc ?_
 have h := findI_any q l
 cases e : l.any q with
 | true =>
  have : 0 ≤ findI q l := h.2 e
  simp -dsimp [I, Tt, this]
  exact pcq' rfl
 | false =>
  have : ¬ 0 ≤ findI q l := fun h' => by rw [h.1 h'] at e; cases e
  simp -dsimp [I, Tt, this]
  exact pcq' rfl
theorem cShape1 {t : Ty} (ht : TyW t) : Pc Tryz.prog 190 [.agg (tyD t)] (Tt (!mayT t)) := by
 refine pc_of (pur_T _) (fun m n => ?_)
 have hc : Pc Tryz.prog 38 [.agg (tyD t)] (Tt (mayT t)) := cMay ht
 have hz : (tyD t).length = 7 := by simp
 generalize tyD t = XX at hc hz
 have htz : List.take 7 XX = XX := List.take_of_length_le (by omega)
 refine acalls_vc [0, 1, 2] Tryz.func190 Tryz.ntmps190 (by kernel_rfl) rfl rfl (by simp) ?_
 simp -dsimp [hz, htz]
 refine pcall hc ?_
 simp -dsimp [Tt]
 exact pcq rfl fun j hj => set_ne _ _ _ _ (by omega)
theorem cShape2 {s : List UInt8} (hs : s.length ≤ 9223372036854775807) : Pc Tryz.prog 191 [S s] (Tt (!nameN s)) := by
 refine pc_of (pur_T _) (fun m n => ?_)
 have hc := cNameT hs
 refine acalls_vc [0, 2] Tryz.func191 Tryz.ntmps191 (by kernel_rfl) rfl rfl (by simp) ?_
 simp -dsimp [S]
 refine pcall hc ?_
 simp -dsimp [Tt]
 exact pcq' rfl
def bareV (t : Tm) (x y z : Bool) : Bool := match t with
 | .mk _ N mod nm _ _ _ _ => (x || decide (N = 0)) && (y || decide (mod = [])) && (z || decide (nm = []))
set_option maxHeartbeats 2000000 in
theorem cBareT (t : Tm) (x y z : Bool) : Pc Tryz.prog 185 [.agg (tmD t), Tt x, Tt y, Tt z] (Tt (bareV t x y z)) := by
 refine pc_of (pur_T _) (fun m n => ?_)
 obtain ⟨k, N, mod, nm, names, vars, types, subs⟩ := t
 have fr : ∀ o j, j < n → (m.set n o) j = m j := fun o j hj => set_ne _ _ _ _ (by omega)
 simp only [tmD, bareV, sl1]
 generalize (names.map fun s => [S s]) = NL
 generalize (vars.map fun s => [S s]) = VL
 generalize types.map tyD = YL
 generalize tmsD subs = SL
 obtain ⟨c1, b1, g1⟩ : ∃ c : Bool, (N == 0) = c ∧ decide (N = 0) = c := ⟨N == 0, rfl, by rw [Bool.eq_iff_iff]; simp⟩
 obtain ⟨c2, b2, g2⟩ : ∃ c : Bool, (mod == []) = c ∧ decide (mod = []) = c := ⟨mod == [], rfl, by rw [Bool.eq_iff_iff]; simp⟩
 obtain ⟨c3, b3, g3⟩ : ∃ c : Bool, (nm == []) = c ∧ decide (nm = []) = c := ⟨nm == [], rfl, by rw [Bool.eq_iff_iff]; simp⟩
 rw [g1, g2, g3]
 refine acalls_vc [0, 1, 2, 3, 4, 8] Tryz.func185 Tryz.ntmps185 (by kernel_rfl) rfl rfl (by simp) ?_
 cases x <;> cases y <;> cases z <;> cases c1 <;> cases c2 <;> cases c3 <;>
  (simp -dsimp [I, S, Tt, b1, b2, b3]; exact pcq rfl (fr _))
end Go.Proofs.Mv.App
open Go Go.Proofs Go.Proofs.Mv.V
set_option maxRecDepth 10000
namespace Go.Proofs.Mv.App
theorem sl_len {w : World} {ν : Nu} {F : Nat → Prop} {z : Nat} {es : List (List D)} {y : Value} (h : Con w ν F (.sl z es) y) : ∃ a c, y = .slice a es.length c := by
 simp only [Con] at h
 rcases h with ⟨b, o, c, rfl, _⟩ | ⟨rfl, a, rfl⟩
 ·exact ⟨_, _, rfl⟩
 ·exact ⟨a, 0, rfl⟩
theorem ans_of {P : Program} {f : FuncId} {args : List D} {b : Bool} {w : World} {ν : Nu} {F : Nat → Prop} {m : Mem} {n : Nat} {vals : Array Value} (hst : St w ν F m n) (hp : Pc P f args (Tt b)) (ha : belowL 0 args = true) (hv : ConVs w ν F args vals.toList) : Ans P f vals w (.bool b) := by
 intro W hb
 refine (calls_all (hp _ _) ha (st_blw hst hb) (ConVs.mono (ext_blw hst hb) _ _ hv)).mono ?_
 rintro e w' ⟨v, rfl, hb2, ν', F', hcv⟩
 simp only [Con, Tt] at hcv; subst hcv
 exact ⟨rfl, hb2⟩
theorem blw_pur {d : D} (h : Pur d) : below 0 d = true := h.2 0
set_option maxHeartbeats 4000000 in
theorem cShapeT {t : Tm} (ht : TmW t) : Pc Tryz.prog 121 [.agg (tmD t)] (Tt (shapeTm t)) := by
 intro m n
 refine acalls_blw ⟨_, Tryz.func121, by kernel_rfl, by kernel_rfl⟩ fun w ν F vals hst hv => ?_
 obtain ⟨y, rfl, hy⟩ := conVs_arr1 hv
 obtain ⟨k, N, mod, nm, names, vars, types, subs⟩ := t
 cases ht with | mk _ _ _ _ _ _ _ _ w1 w2 w3 w4 w5 w6 w7 w8 w9 w10 =>
 have hy0 := hy
 have hT : TmW (.mk k N mod nm names vars types subs) := .mk _ _ _ _ _ _ _ _ w1 w2 w3 w4 w5 w6 w7 w8 w9 w10
 simp only [tmD, sl1] at hy
 rw [Con] at hy
 obtain ⟨ys, rfl, hys, _⟩ := hy
 simp only [ConVs] at hys
 obtain ⟨v0, r0, e0, h0, v1, r1, e1, h1, v2, r2, e2, h2, v3, r3, e3, h3, v4, r4, e4, h4, v5, r5, e5, h5, v6, r6, e6, h6, v7, r7, e7, h7, e8⟩ := hys
 subst e8; subst e7; subst e6; subst e5; subst e4; subst e3; subst e2; subst e1
 obtain rfl : ys = #[v0, v1, v2, v3, v4, v5, v6, v7] := Array.toList_inj.1 e0
 obtain ⟨a4, c4, rfl⟩ := sl_len h4
 obtain ⟨a5, c5, rfl⟩ := sl_len h5
 obtain ⟨a6, c6, rfl⟩ := sl_len h6
 obtain ⟨a7, c7, rfl⟩ := sl_len h7
 simp only [Con, S, I] at h0 h1 h2 h3
 subst h0; subst h1; subst h2; subst h3
 simp only [List.length_map, tmsD_eq] at hy0 h4 h5 h6 h7 ⊢
 have hbare : ∀ x y z, Ans Tryz.prog 185 #[.agg #[.int .i64 k, .int .i64 N, .string (ofL mod), .string (ofL nm), .slice a4 names.length c4, .slice a5 vars.length c5, .slice a6 types.length c6, .slice a7 subs.length c7], .bool x, .bool y, .bool z] w (.bool (bareV (.mk k N mod nm names vars types subs) x y z)) := fun x y z =>
  ans_of hst (cBareT _ x y z) (by have := blw_pur (pur_tmA (.mk k N mod nm names vars types subs)); simp [belowL, below, Tt] at this ⊢; exact this) (by simp only [ConVs]; exact ⟨_, _, rfl, hy0, by simp [ConVs, Con, Tt]⟩)
 have hnm : Ans Tryz.prog 186 #[.string (ofL nm)] w (.bool (nameN nm)) := ans_of hst (cNameT w6) rfl (by simp [ConVs, Con, S])
 have hmod : Ans Tryz.prog 186 #[.string (ofL mod)] w (.bool (nameN mod)) := ans_of hst (cNameT w5) rfl (by simp [ConVs, Con, S])
 have htag : Ans Tryz.prog 188 #[.string (ofL nm)] w (.bool (tagN nm)) := ans_of hst (cTagT w6) rfl (by simp [ConVs, Con, S])
 have hbn : below 0 (sl1 names) = true := blw_pur (pur_sl1 names)
 have hbv : below 0 (sl1 vars) = true := blw_pur (pur_sl1 vars)
 have hby : below 0 (.sl 7 (types.map tyD)) = true := blw_pur (Pur.sl (pur_tym types))
 have hrn : Ans Tryz.prog 187 #[.slice a4 names.length c4, .func (.func 186) #[] #[]] w (.bool (risO nameN names)) :=
  ans_of hst (cRisingT w1 fun s hs => cNameT (w7 s hs)) (by simp only [belowL, hbn, Bool.true_and]; rfl) (by simp only [ConVs]; exact ⟨_, _, rfl, h4, _, _, rfl, by simp [Con, ConVs], rfl⟩)
 have hrt : Ans Tryz.prog 187 #[.slice a4 names.length c4, .func (.func 188) #[] #[]] w (.bool (risO tagN names)) :=
  ans_of hst (cRisingT w1 fun s hs => cTagT (w7 s hs)) (by simp only [belowL, hbn, Bool.true_and]; rfl) (by simp only [ConVs]; exact ⟨_, _, rfl, h4, _, _, rfl, by simp [Con, ConVs], rfl⟩)
 have hdist : Ans Tryz.prog 189 #[.slice a4 names.length c4] w (.bool (names.all nameN && distN names)) :=
  ans_of hst (cDistinctT w1 w7) (by simp only [belowL, hbn, Bool.true_and]) (by simp only [ConVs]; exact ⟨_, _, rfl, h4, rfl⟩)
 have hty : Ans Tryz.prog 83 #[.slice a6 types.length c6, .func (.func 190) #[] #[]] w (.bool (types.any fun t => !mayT t)) :=
  ans_of hst (cHasTyS (q := fun t => !mayT t) (by simp) (fun x hx => cShape1 (w9 x hx)) w3) (by simp only [belowL, hby, Bool.true_and]; rfl) (by simp only [ConVs]; exact ⟨_, _, rfl, h6, _, _, rfl, by simp [Con, ConVs], rfl⟩)
 have hbv' : below 0 (.sl 1 (vars.map encS)) = true := hbv
 have hvr : Ans Tryz.prog 136 #[.slice a5 vars.length c5, .func (.func 191) #[] #[]] w (.bool (vars.any fun s => !nameN s)) :=
  ans_of hst (cHasStrS (l := vars) (q := fun s => !nameN s) (by simp) (fun x hx => cShape2 (w8 x hx)) w2) (by simp only [belowL, hbv', Bool.true_and]; rfl) (by simp only [ConVs]; exact ⟨_, _, rfl, h5, _, _, rfl, by simp [Con, ConVs], rfl⟩)
 have hY : (!(types.any fun t => !mayT t)) = types.all mayT := by simp [List.all_eq_not_any_not]
 have hV : (!(vars.any fun s => !nameN s)) = vars.all nameN := by simp [List.all_eq_not_any_not]
 have hF : decide (names.length ≤ 21 ∧ vars.length ≤ 21 ∧ types.length ≤ 21 ∧ subs.length ≤ 21) = fitsT names vars types subs := by simp [fitsT, Bool.and_assoc]
 have hZ : ∀ a b c d : Nat, decide (names.length = a ∧ vars.length = b ∧ types.length = c ∧ subs.length = d) = cntsT names vars types subs a b c d := fun a b c d => by simp [cntsT, Bool.and_assoc]
 have fin : ∀ {b : Bool}, Calls Tryz.prog 121 #[.agg #[.int .i64 k, .int .i64 N, .string (ofL mod), .string (ofL nm), .slice a4 names.length c4, .slice a5 vars.length c5, .slice a6 types.length c6, .slice a7 subs.length c7]] w (fun e w' => e = .returned (.bool b) ∧ Blw w.heap.size w w') → b = shapeTm (.mk k N mod nm names vars types subs) →
   Calls Tryz.prog 121 #[.agg #[.int .i64 k, .int .i64 N, .string (ofL mod), .string (ofL nm), .slice a4 names.length c4, .slice a5 vars.length c5, .slice a6 types.length c6, .slice a7 subs.length c7]] w (fun e w' => ∃ v, e = .returned v ∧ Blw w.heap.size w w' ∧ ∃ d, Con w' ν F d v ∧ d = Tt (shapeTm (.mk k N mod nm names vars types subs)) ∧ True ∧ True) := fun {b} h e => by
  subst e
  refine h.mono ?_
  rintro e w' ⟨rfl, hb⟩
  exact ⟨_, rfl, hb, Tt _, by simp [Con, Tt], rfl, trivial, trivial⟩
 have hB : ∀ x y z, x = (decide (k = 1) || decide (k = 2)) → y = decide (k = 4) → z = (decide (k = 3) || decide (k = 4) || decide (k = 6) || decide (k = 7)) → bareV (.mk k N mod nm names vars types subs) x y z = bareTm k N mod nm := fun x y z hx hy hz => by
  subst hx; subst hy; subst hz
  simp only [bareV, bareTm]
  ac_rfl
 by_cases k1 : k = 1
 ·subst k1
  refine fin (shape_1 hF (hbare true false false) rfl rfl (hZ 0 0 0 0)) ?_
  rw [hB true false false rfl rfl rfl]
  simp [shapeTm, kindTm]
  try ac_rfl
 by_cases k2 : k = 2
 ·subst k2
  refine fin (shape_2 hF (hbare true false false) rfl (hZ 0 0 0 0)) ?_
  rw [hB true false false rfl rfl rfl]
  simp [shapeTm, kindTm]
  try ac_rfl
 by_cases k3 : k = 3
 ·subst k3
  refine fin (shape_3 hF (hbare false false true) hnm (hZ 0 0 0 0)) ?_
  rw [hB false false true rfl rfl rfl]
  simp [shapeTm, kindTm]
  try ac_rfl
 by_cases k4 : k = 4
 ·subst k4
  refine fin (shape_4 hF (hbare false true true) hmod hnm (hZ 0 0 0 0)) ?_
  rw [hB false true true rfl rfl rfl]
  simp [shapeTm, kindTm]
  try ac_rfl
 by_cases k5 : k = 5
 ·subst k5
  refine fin (shape_5 hF (hbare false false false) (hZ names.length 0 0 names.length) hrn) ?_
  rw [hB false false false rfl rfl rfl]
  simp [shapeTm, kindTm]
  try ac_rfl
 by_cases k6 : k = 6
 ·subst k6
  refine fin (shape_6 hF (hbare false false true) (hZ 0 0 0 1) hnm) ?_
  rw [hB false false true rfl rfl rfl]
  simp [shapeTm, kindTm]
  try ac_rfl
 by_cases k7 : k = 7
 ·subst k7
  refine fin (shape_7 hF (hbare false false true) (hZ 0 0 0 1) htag) ?_
  rw [hB false false true rfl rfl rfl]
  simp [shapeTm, kindTm]
  try ac_rfl
 by_cases k8 : k = 8
 ·subst k8
  refine fin (shape_8 hF (hbare false false false) (hZ names.length 0 names.length 1) hdist hty) ?_
  rw [hB false false false rfl rfl rfl, hY]
  simp [shapeTm, kindTm]
  try ac_rfl
 by_cases k9 : k = 9
 ·subst k9
  refine fin (shape_9 hF (hbare false false false) (hZ 0 0 0 subs.length) rfl) ?_
  rw [hB false false false rfl rfl rfl]
  simp [shapeTm, kindTm]
  try ac_rfl
 by_cases k10 : k = 10
 ·subst k10
  refine fin (shape_10 hF (hbare false false false) (hZ 0 0 0 subs.length) rfl) ?_
  rw [hB false false false rfl rfl rfl]
  simp [shapeTm, kindTm]
  try ac_rfl
 by_cases k11 : k = 11
 ·subst k11
  refine fin (shape_11 hF (hbare false false false) (hZ 0 0 0 3)) ?_
  rw [hB false false false rfl rfl rfl]
  simp [shapeTm, kindTm]
  try ac_rfl
 by_cases k12 : k = 12
 ·subst k12
  refine fin (shape_12 hF (hbare false false false) rfl (hZ names.length names.length 0 (names.length + 1)) hrt hvr) ?_
  rw [hB false false false rfl rfl rfl, hV]
  simp [shapeTm, kindTm]
  try ac_rfl
 refine fin (shape_0 hF k1 k2 k3 k4 k5 k6 k7 k8 k9 k10 k11 k12) ?_
 simp [shapeTm, kindTm, k1, k2, k3, k4, k5, k6, k7, k8, k9, k10, k11, k12]
end Go.Proofs.Mv.App
open Go Go.Proofs Go.Proofs.Mv.V
set_option maxRecDepth 10000
namespace Go.Proofs.Mv.App
structure CntInvT (SL : List (List D)) (subs : List Tm) (depth most : Int) (m : Mem) (n : Nat) (i : Nat) (σ : Nat → D) (m2 : Mem) (n2 : Nat) : Prop where
 h1 : σ 1 = I depth
 h2 : σ 2 = I most
 h3 : σ 3 = .ptr n 0 0 0
 h7 : σ 7 = I (1 + manyTms (subs.take i))
 h23 : σ 23 = .sl 8 SL
 h24 : σ 24 = I subs.length
 h25 : σ 25 = I i
 le : i ≤ subs.length
 ok : CntOkT subs depth most i
 nn : n + 1 ≤ n2
 fr : ∀ j, j < n → m2 j = m j
set_option maxHeartbeats 2000000 in
theorem cCountTm {t : Tm} (ht : TmW t) : ∀ (depth most : Int) (m : Mem) (n : Nat), depth ≤ 1000000 → 0 ≤ depth → most ≤ 1000000 → -1000000 ≤ most → ACalls Tryz.prog 70 [.agg (tmD t), I depth, I most] m n (fun d m' n' => d = I (cntTm t depth most) ∧ m' = m ∧ n' = n) := by
 induction ht with
 | mk kind num mod name names vars types subs l1 l2 l3 l4 l5 l6 l7 l8 l9 l10 ih =>
  intro depth most m n d1 d2 q1 q2
  refine acalls_done (R' := Hq (fun d m' n' => d = I (cntTm (.mk kind num mod name names vars types subs) depth most) ∧ ∀ j, j < n → m' j = m j) tg) ?_ ?_
  ·have fr : ∀ o j, j < n → (m.set n o) j = m j := fun o j hj => by rw [set_ne _ _ _ _ (by omega)]
   have hL2 : (tmsD subs).length = subs.length := by rw [tmsD_eq]; simp
   have hG2 : ∀ i (h : i < subs.length), (tmsD subs)[i]? = some (tmD subs[i]) := fun i h => by rw [tmsD_eq]; simp [h]
   have hcs := fun m n => cShapeT (.mk kind num mod name names vars types subs l1 l2 l3 l4 l5 l6 l7 l8 l9 l10) m n
   have hno : ∀ h, cntTm (.mk kind num mod name names vars types subs) depth most = 0 := fun h => cntTm_no h
   have hst : ∀ {i : Nat} (hi : i < subs.length), cntTm subs[i] (depth - 1) (most - (1 + manyTms (subs.take i))) = 0 → cntTm (.mk kind num mod name names vars types subs) depth most = 0 := fun hi h => CntOkT.stop hi h
   have hal : ∀ {i : Nat}, shapeTm (.mk kind num mod name names vars types subs) = true → CntOkT subs depth most i → subs.length ≤ i → cntTm (.mk kind num mod name names vars types subs) depth most = 1 + manyTms subs := fun h1 h2 h3 => CntOkT.all h1 h2 h3
   simp only [tmD, sl1] at hcs ⊢
   generalize cntTm (.mk kind num mod name names vars types subs) depth most = CT at hno hst hal
   generalize shapeTm (.mk kind num mod name names vars types subs) = SH at hno hcs hal
   generalize (names.map fun s => [S s]) = NL at hcs
   generalize (vars.map fun s => [S s]) = VL at hcs
   generalize types.map tyD = YL at hcs
   generalize tmsD subs = SL at hL2 hG2 hcs
   refine acalls_vc [0, 1, 2, 3, 6, 7, 9, 10, 21, 23, 24, 25, 26, 37] Tryz.func70 Tryz.ntmps70 (by kernel_rfl) rfl rfl (by simp) ?_
   by_cases c1 : depth < 1
   ·simp -dsimp [I, c1]
    exact hq ⟨by rw [hno (.inl c1)]; rfl, fr _⟩
   by_cases c2 : most < 1
   ·simp -dsimp [I, c1, c2]
    exact hq ⟨by rw [hno (.inr (.inl c2))]; rfl, fr _⟩
   simp -dsimp [I, c1, c2]
   refine aCall_of (hcs _ _) ?_
   rintro d m' n' ⟨rfl, rfl, rfl⟩
   cases hS : SH with
   | false =>
    simp -dsimp [I, c1, c2, Tt]
    exact hq ⟨by rw [hno (.inr (.inr hS))]; rfl, fr _⟩
   | true =>
   simp -dsimp [I, c1, c2, Tt]
   refine vloop_of (β := Nat) (CntInvT SL subs depth most m n) (fun i => subs.length - i) 0 ⟨by simp [I], by simp [I], by simp, by simp [I, manyTms], by simp, by simp [I, hL2], by simp [I], by omega, CntOkT.zero (by omega) (by omega), by omega, fr _⟩ ?_
   rintro i σ m2 n2 ⟨h1, h2, h3, h7, h23, h24, h25, le, ok, nn, fr2⟩
   by_cases hi : (i : Int) < subs.length
   ·have hi' : i < subs.length := by omega
    have wi : IntKind.i64.wrap ((i : Int) + 1) = (i : Int) + 1 := wrap_i64 (by omega) (by omega)
    have hiN : i < SL.length := by omega
    have hgi : SL[i] = tmD subs[i] := get_opt (hG2 i hi') hiN
    have hsn := manyTms_snoc (subs.take i) subs[i]
    rw [← take_snoc hi'] at hsn
    have hmn := ok.mn
    have hstp := ok.step hi'
    have hs0 := hst hi'
    have hih := fun m n => ih subs[i] (List.getElem_mem hi') (depth - 1) (most - (1 + manyTms (subs.take i))) m n (by omega) (by omega) (by omega) (by omega)
    have hcl := cntTm_le subs[i] (depth - 1) (most - (1 + manyTms (subs.take i)))
    have hce := cntTm_eq (t := subs[i]) (d := depth - 1) (q := most - (1 + manyTms (subs.take i)))
    have wd : IntKind.i64.wrap (depth - 1) = depth - 1 := wrap_i64 (by omega) (by omega)
    have wm : IntKind.i64.wrap (most - (1 + (manyTms (subs.take i) : Int))) = most - (1 + (manyTms (subs.take i) : Int)) := wrap_i64 (by omega) (by omega)
    have h77 := tmD_len subs[i]
    generalize tmD subs[i] = TT at hgi hih h77
    have ht7 : List.take 8 TT = TT := List.take_of_length_le (by omega)
    simp -dsimp [h1, h2, h3, h7, h23, h24, h25, I, hi, hi', hiN, hgi, h77, ht7, wd, wm]
    refine aCall_of (hih _ _) ?_
    rintro d m' n' ⟨rfl, rfl, rfl⟩
    generalize cntTm subs[i] (depth - 1) (most - (1 + manyTms (subs.take i))) = CK at hstp hs0 hcl hce
    by_cases c3 : CK = 0
    ·have c3' : (CK == 0) = true := by simpa using c3
     simp -dsimp [h1, h2, h3, h7, h23, h24, h25, I, c3']
     exact hq ⟨by rw [hs0 c3]; rfl, fun j hj => by rw [set_ne _ _ _ _ (by omega)]; exact fr2 j hj⟩
    ·have hke := (hce c3).1
     have c3' : (CK == 0) = false := by simpa using c3
     have hcl2 := hcl.2 (by omega)
     have ws : IntKind.i64.wrap (1 + (manyTms (subs.take i) : Int) + CK) = 1 + (manyTms (subs.take i) : Int) + CK := wrap_i64 (by omega) (by omega)
     simp -dsimp [h1, h2, h3, h7, h23, h24, h25, I, c3', ws, wi]
     refine ⟨i + 1, by omega, by simp [I], by simp [I], by simp, by simp [I, hsn]; omega, by simp, by simp [I], by simp [I], by omega, hstp c3, by omega, fun j hj => by rw [set_ne _ _ _ _ (by omega)]; exact fr2 j hj⟩
   ·have ht : subs.take i = subs := List.take_of_length_le (by omega)
    rw [ht] at h7
    simp -dsimp [h1, h2, h3, h7, h23, h24, h25, I, hi]
    exact hq ⟨by rw [hal hS ok (by omega)]; rfl, fr2⟩
  ·rintro d m' n' ⟨rfl, h⟩
   exact ⟨_, (pur_I _).pub, h, rfl⟩
theorem cMayTm {t : Tm} (ht : TmW t) : Pc Tryz.prog 33 [.agg (tmD t)] (Tt (mayTm t)) := by
 refine pc_of (pur_T _) (fun m n => ?_)
 have h8 := tmD_len t
 have hc := fun m n => cCountTm ht 32 300 m n (by omega) (by omega) (by omega) (by omega)
 rw [mayTm_cnt]
 generalize cntTm t 32 300 = CT at hc
 generalize tmD t = TT at h8 hc
 have ht8 : List.take 8 TT = TT := List.take_of_length_le (by omega)
 refine acalls_vc [0, 1, 2] Tryz.func33 Tryz.ntmps33 (by kernel_rfl) rfl rfl (by simp) ?_
 simp -dsimp [h8, ht8]
 refine aCall_of (hc _ _) ?_
 rintro d m' n' ⟨rfl, rfl, rfl⟩
 simp -dsimp [I]
 exact pcq rfl fun j hj => set_ne _ _ _ _ (by omega)
end Go.Proofs.Mv.App
open Go Go.Proofs Go.Proofs.Mv.V
set_option maxRecDepth 10000
namespace Go.Proofs.Mv.App
set_option maxHeartbeats 1000000 in
theorem cPImpOk {i : Imp} (hi : ImpWU i) (m : Mem) (n : Nat) : ACalls Tryz.prog 55 [.agg (impD i)] m n (fun d m' n' => d = Tt (impOkU i) ∧ m' = m ∧ n' = n) := by
 obtain ⟨pkg, major, mod, as_⟩ := i
 obtain ⟨q1, q2, q3⟩ := hi
 simp only at q1 q2 q3
 refine acalls_done (R' := Hq (fun d m' n' => d = Tt (impOkU ⟨pkg, major, mod, as_⟩) ∧ ∀ j, j < n → m' j = m j) tg) ?_ ?_
 ·have fr : ∀ o j, j < n → (m.set n o) j = m j := fun o j hj => by rw [set_ne _ _ _ _ (by omega)]
  simp only [impD, impOkU]
  refine acalls_vc [0, 1, 2] Tryz.func55 Tryz.ntmps55 (by kernel_rfl) rfl rfl (by simp) ?_
  simp -dsimp [I, S]
  refine aCall_of (cSmall pkg q1 _ _) ?_
  rintro d m' n' ⟨rfl, rfl, rfl⟩
  cases h1 : smallN pkg with
  | false =>
   simp -dsimp [I, S, Tt]
   exact hq ⟨by simp [Tt], fr _⟩
  | true =>
  simp -dsimp [I, S, Tt]
  refine aCall_of (cSmall mod q2 _ _) ?_
  rintro d m' n' ⟨rfl, rfl, rfl⟩
  cases h2 : smallN mod with
  | false =>
   simp -dsimp [I, S, Tt]
   exact hq ⟨by simp [Tt], fr _⟩
  | true =>
  simp -dsimp [I, S, Tt]
  refine aCall_of (cSmall as_ q3 _ _) ?_
  rintro d m' n' ⟨rfl, rfl, rfl⟩
  cases h3 : smallN as_ with
  | false =>
   simp -dsimp [I, S, Tt]
   exact hq ⟨by simp [Tt], fr _⟩
  | true =>
  by_cases h4 : 1 ≤ major
  ·simp -dsimp [I, S, Tt, h4]
   exact hq ⟨by simp [Tt, h4], fr _⟩
  ·simp -dsimp [I, S, Tt, h4]
   exact hq ⟨by simp [Tt, h4], fr _⟩
 ·rintro d m' n' ⟨rfl, h⟩
  exact ⟨_, (pur_T _).pub, h, rfl⟩
theorem cPOdd1 {i : Imp} (hi : ImpWU i) : Pc Tryz.prog 54 [.agg (impD i)] (Tt (!impOkU i)) := by
 refine pc_of (pur_T _) (fun m n => ?_)
 have hc := fun m n => cPImpOk hi m n
 have hz : (impD i).length = 4 := by simp
 generalize impD i = XX at hc hz
 have htz : List.take 4 XX = XX := List.take_of_length_le (by omega)
 refine acalls_vc [0, 1, 2] Tryz.func54 Tryz.ntmps54 (by kernel_rfl) rfl rfl (by simp) ?_
 simp -dsimp [hz, htz]
 refine pcall hc ?_
 simp -dsimp [Tt]
 exact pcq (by simp [Tt]) fun j hj => set_ne _ _ _ _ (by omega)
theorem cIdxLt {l : List (Lt)} {q : Lt → Bool} {fp : FuncId} {cs : List D} (hcs : List.length cs ≤ 3) (hp : ∀ x ∈ l, Pc Tryz.prog fp (.agg (ltD x) :: cs) (Tt (q x))) (hlen : l.length ≤ 9223372036854775807) :
  Pc Tryz.prog 105 [.sl 9 (l.map ltD), .func (.func fp) [] cs] (I (findI q l)) := by
 refine pc_of (pur_I _) (fun m n => ?_)
 have hL2 : (l.map ltD).length = l.length := by simp
 have hG2 : ∀ i (h : i < l.length), (l.map ltD)[i]? = some (ltD l[i]) := fun i h => by simp [h]
 generalize l.map ltD = EL at hL2 hG2
 refine acalls_vc [0, 1, 4, 5, 7, 8, 9, 16] Tryz.func105 Tryz.ntmps105 (by kernel_rfl) rfl rfl (by simp) ?_
 simp -dsimp [hL2, I]
 refine vloop_as (β := Nat) (fun i => [(0, .sl 9 EL), (1, .func (.func fp) [] cs), (7, I l.length), (8, I i)]) (fun i m2 n2 => m2 = m ∧ n2 = n ∧ i ≤ l.length ∧ ∀ x ∈ l.take i, q x = false) (fun i => l.length - i) 0 (by simp [I]) ⟨rfl, rfl, by omega, by simp⟩ ?_
 rintro i m2 n2 ⟨rfl, rfl, le, hno⟩
 by_cases hi : (i : Int) < l.length
 ·have hi' : i < l.length := by omega
  have wi : IntKind.i64.wrap ((i : Int) + 1) = (i : Int) + 1 := wrap_i64 (by omega) (by omega)
  have hiN : i < EL.length := by omega
  have hgi : EL[i] = ltD l[i] := get_opt (hG2 i hi') hiN
  have hz : (ltD l[i]).length = 9 := by simp
  have hc := hp l[i] (List.getElem_mem hi')
  generalize ltD l[i] = XX at hgi hz hc
  have htz : List.take 9 XX = XX := List.take_of_length_le (by omega)
  simp -dsimp [I, Tt, hi, hi', hiN, hgi, hz, htz]
  refine pcall hc ?_
  cases e : q l[i] with
  | true =>
   simp -dsimp [I, Tt]
   exact pcq' (by rw [findI_hit hi' e hno])
  | false =>
   simp -dsimp [I, Tt, wi]
   refine rnd (i + 1) (by omega) (by simp [I]) ⟨rfl, rfl, by omega, fun x hx => ?_⟩
   rw [List.take_succ_eq_append_getElem hi'] at hx
   rcases List.mem_append.1 hx with hx | hx
   ·exact hno x hx
   ·simp at hx; rw [hx]; exact e
 ·have : i = l.length := by omega
  subst this
  rw [List.take_length] at hno
  simp -dsimp [I, Tt, hi]
  exact pcq' (by rw [findI_no hno])
theorem cHasLt {l : List (Lt)} {q : Lt → Bool} {fp : FuncId} {cs : List D} (hcs : List.length cs ≤ 3) (hp : ∀ x ∈ l, Pc Tryz.prog fp (.agg (ltD x) :: cs) (Tt (q x))) (hlen : l.length ≤ 9223372036854775807) :
  Pc Tryz.prog 59 [.sl 9 (l.map ltD), .func (.func fp) [] cs] (Tt (l.any q)) := by
 refine pc_of (pur_T _) (fun m n => ?_)
 have hc := cIdxLt hcs hp hlen
 generalize l.map ltD = EL at hc
 refine acalls_vc [0, 1, 4] Tryz.func59 Tryz.ntmps59 (by kernel_rfl) rfl rfl (by simp) ?_
 simp -dsimp
 refine pcall hc ?_
 have h := findI_any q l
 cases e : l.any q with
 | true =>
  have : 0 ≤ findI q l := h.2 e
  simp -dsimp [I, Tt, this]
  exact pcq' rfl
 | false =>
  have : ¬ 0 ≤ findI q l := fun h' => by rw [h.1 h'] at e; cases e
  simp -dsimp [I, Tt, this]
  exact pcq' rfl
theorem cPVar (s : List UInt8) (hs : s.length ≤ 9223372036854775807) : Pc Tryz.prog 57 [S s] (Tt (nameN s)) := by
 refine pc_of (pur_T _) (fun m n => ?_)
 have hw : TmW (.mk 3 0 [] s [] [] [] []) := .mk _ _ _ _ _ _ _ _ (by simp) (by simp) (by simp) (by simp) (by simp) hs (by simp) (by simp) (by simp) (by simp)
 have hc := cMayTm hw
 rw [may_var] at hc
 simp only [tmD, tmsD, sl1, List.map_nil, I, S] at hc
 refine acalls_vc [0, 2] Tryz.func57 Tryz.ntmps57 (by kernel_rfl) rfl rfl (by simp) ?_
 simp -dsimp [S]
 refine aCall_le (.cons (Le_agg (.cons (Le.refl _) (.cons (Le.refl _) (.cons (Le.refl _) (.cons (Le.refl _) (.cons (Le_nil 1) (.cons (Le_nil 1) (.cons (Le_nil 7) (.cons (Le_nil 8) .nil))))))))) .nil) ?_
 refine pcall hc ?_
 simp -dsimp [Tt]
 exact pcq' rfl
set_option maxHeartbeats 1000000 in
theorem cPOdd2 {l : Lt} (hl : LtW l) : Pc Tryz.prog 56 [.agg (ltD l)] (Tt (!ltOk l)) := by
 refine pc_of (pur_T _) (fun m n => ?_)
 have fr : ∀ o j, j < n → (m.set n o) j = m j := fun o j hj => set_ne _ _ _ _ (by omega)
 have h1 := cPVar l.name hl.h1
 have h2 := cMayTm hl.h2
 have hz := tmD_len l.term
 have hx : ltOk l = (nameN l.name && mayTm l.term) := rfl
 rw [hx]
 simp only [ltD, S] at h1 ⊢
 generalize tmD l.term = X at h2 hz
 have htz : List.take 8 X = X := List.take_of_length_le (by omega)
 refine acalls_vc [0, 1, 2] Tryz.func56 Tryz.ntmps56 (by kernel_rfl) rfl rfl (by simp) ?_
 simp -dsimp [hz, htz, S]
 refine pcall h1 ?_
 cases e1 : nameN l.name with
 | false =>
  simp -dsimp [Tt, hz, htz]
  exact pcq rfl (fr _)
 | true =>
  simp -dsimp [Tt, hz, htz, S]
  refine pcall h2 ?_
  simp -dsimp [Tt]
  exact pcq (by simp [Tt]) (fr _)
set_option maxHeartbeats 1000000 in
theorem cPMay {p : Pg} (hp : PgW p) : Pc Tryz.prog 21 [.agg (pgD p)] (Tt (mayP p)) := by
 obtain ⟨imps, lets⟩ := p
 obtain ⟨q1, q2, q3, q4⟩ := hp
 simp only at q1 q2 q3 q4
 refine pc_of (pur_T _) (fun m n => ?_)
 have fr : ∀ o j, j < n → (m.set n o) j = m j := fun o j hj => set_ne _ _ _ _ (by omega)
 have c1 := cHasUI (l := imps) (q := fun i => !impOkU i) (fp := 54) (cs := []) (by simp) (fun i hi => cPOdd1 (q3 i hi)) q1
 have c2 := cHasLt (l := lets) (q := fun l => !ltOk l) (fp := 56) (cs := []) (by simp) (fun l hl => cPOdd2 (q4 l hl)) q2
 have hL1 : (imps.map impD).length = imps.length := by simp
 have hL2 : (lets.map ltD).length = lets.length := by simp
 have a1 : (imps.any fun i => !impOkU i) = !imps.all impOkU := by rw [List.all_eq_not_any_not]; simp
 have a2 : (lets.any fun l => !ltOk l) = !lets.all ltOk := by rw [List.all_eq_not_any_not]; simp
 rw [a1] at c1
 rw [a2] at c2
 simp only [pgD, mayP]
 generalize imps.map impD = IL at hL1 c1
 generalize lets.map ltD = DL at hL2 c2
 refine acalls_vc [0, 1, 2, 3, 4] Tryz.func21 Tryz.ntmps21 (by kernel_rfl) rfl rfl (by simp) ?_
 by_cases h1 : imps.length ≤ 20
 case neg =>
  have h1' : decide ((imps.length : Int) ≤ 20) = false := decide_eq_false (by omega)
  simp -dsimp [hL1, hL2, h1, h1']
  exact pcq (by simp [Tt, h1]) (fr _)
 have h1' : decide ((imps.length : Int) ≤ 20) = true := decide_eq_true (by omega)
 by_cases h2 : lets.length ≤ 40
 case neg =>
  have h2' : decide ((lets.length : Int) ≤ 40) = false := decide_eq_false (by omega)
  simp -dsimp [hL1, hL2, h1, h1', h2, h2']
  exact pcq (by simp [Tt, h2]) (fr _)
 have h2' : decide ((lets.length : Int) ≤ 40) = true := decide_eq_true (by omega)
 simp -dsimp [hL1, hL2, h1, h1', h2, h2']
 refine pcall c1 ?_
 cases e1 : imps.all impOkU with
 | false =>
  simp -dsimp [Tt]
  exact pcq (by simp [Tt]) (fr _)
 | true =>
  simp -dsimp [Tt]
  refine pcall c2 ?_
  simp -dsimp [Tt]
  exact pcq (by simp [Tt, h1, h2]) (fr _)
end Go.Proofs.Mv.App
namespace Go.Proofs
open Go.Shelf
def Tryz.laysSt_ren : Go.Shelf.Ren := ⟨fun | 169 => 50 | n => n, fun | 70 => 90 | 9 => 9 | 0 => 0 | 72 => 93 | 37 => 91 | 127 => 148 | 3 => 3 | 5 => 5 | n => n, fun | n => n⟩
theorem Tryz.laysSt : Go.Proofs.Lays.n169 Tryz.prog Tryz.laysSt_ren := {
 mixed := by kernel_rfl
 f169 := Tryz.func50.trans (congrArg some (by kernel_rfl))
 t0 := Tryz.underlying0
 a0 := Tryz.isAgg0
 z0 := Tryz.sizeOf0
 v0 := Tryz.zeroValue0
 t3 := Tryz.underlying3
 a3 := Tryz.isAgg3
 z3 := Tryz.sizeOf3
 v3 := Tryz.zeroValue3
 t9 := Tryz.underlying9
 a9 := Tryz.isAgg9
 z9 := Tryz.sizeOf9
 v9 := Tryz.zeroValue9
 t37 := Tryz.underlying91
 a37 := Tryz.isAgg91
 z37 := Tryz.sizeOf91
 v37 := Tryz.zeroValue91
 t70 := Tryz.underlying90
 a70 := Tryz.isAgg90
 z70 := Tryz.sizeOf90
 v70 := Tryz.zeroValue90
 t72 := Tryz.underlying93
 a72 := Tryz.isAgg93
 z72 := Tryz.sizeOf93
 v72 := Tryz.zeroValue93
 t127 := Tryz.underlying148
 a127 := Tryz.isAgg148
 z127 := Tryz.sizeOf148
 v127 := Tryz.zeroValue148 }
end Go.Proofs
