/- A part of the proofs: machine, contracts, laws. No condition of its own. -/
import Derived.Test.YtihbegkefjjhpaaGreatDoorP00
import Derived.Test.YtihbegkefjjhpaaGreatDoorMvPc
import Derived.Test.YtihbegkefjjhpaaGreatDoorP03
import Derived.Test.YtihbegkefjjhpaaGreatDoorP01
set_option linter.unusedSimpArgs false
set_option linter.unusedVariables false
set_option linter.unusedSectionVars false
open Go Go.Proofs Go.Proofs.Mv.V
namespace Go.Proofs.Mv.App
def findI {α : Type} (q : α → Bool) : List α → Int
 | [] => -1
 | x :: l => if q x then 0 else if findI q l < 0 then -1 else findI q l + 1
theorem findI_le {α : Type} (q : α → Bool) : ∀ l : List α, -1 ≤ findI q l
 | [] => by simp [findI]
 | x :: l => by
  have := findI_le q l
  simp only [findI]; split
  ·omega
  ·split <;> omega
theorem findI_no {α : Type} {q : α → Bool} : ∀ {l : List α}, (∀ x ∈ l, q x = false) → findI q l = -1
 | [], _ => rfl
 | x :: l, h => by
  have h1 := h x (by simp)
  have h2 := findI_no (l := l) fun y hy => h y (by simp [hy])
  simp [findI, h1, h2]
theorem findI_hit {α : Type} {q : α → Bool} : ∀ {l : List α} {i : Nat} (hi : i < l.length), q l[i] = true → (∀ x ∈ l.take i, q x = false) → findI q l = i
 | x :: l, 0, _, h, _ => by simp at h; simp [findI, h]
 | x :: l, i + 1, hi, h, hn => by
  have h1 := hn x (by simp)
  have h2 := findI_hit (l := l) (i := i) (by simpa using hi) (by simpa using h) fun y hy => hn y (by simp [hy])
  have h3 : ¬ ((i : Int) < 0) := by omega
  simp [findI, h1, h2, h3]
theorem findI_any {α : Type} (q : α → Bool) : ∀ l : List α, 0 ≤ findI q l ↔ l.any q = true
 | [] => by simp [findI]
 | x :: l => by
  have ih := findI_any q l
  have hle := findI_le q l
  simp only [findI, List.any_cons, Bool.or_eq_true]
  by_cases e : q x = true
  ·simp [e]
  ·rw [if_neg e]
   have h0 : q x = true ↔ False := ⟨e, False.elim⟩
   rw [h0, false_or, ← ih]
   by_cases h : findI q l < 0
   ·rw [if_pos h]; omega
   ·rw [if_neg h]; omega
end Go.Proofs.Mv.App
open Go Go.Proofs Go.Proofs.Mv.V
set_option maxRecDepth 10000
namespace Go.Proofs.Mv.App
variable [GI]
end Go.Proofs.Mv.App
open Go Go.Proofs Go.Proofs.Mv.V
set_option maxRecDepth 10000
namespace Go.Proofs.Mv.App
variable [GI]
end Go.Proofs.Mv.App
open Go Go.Proofs Go.Proofs.Mv.V
set_option maxRecDepth 10000
namespace Go.Proofs.Mv.App
mutual
def fewTm : Tm → Int → Int
 | .mk _ _ _ _ names vars types subs, most => if most - 1 < 0 ∨ 100 < names.length ∨ 100 < vars.length ∨ 100 < types.length then -1 else if types.all few3 = true then fewTms subs (most - 1) else -1
def fewTms : List Tm → Int → Int
 | [], m => m
 | t :: ts, m => if 0 ≤ m then fewTms ts (fewTm t m) else m
end
theorem fewTms_neg : ∀ (l : List Tm) (m : Int), m < 0 → fewTms l m = m
 | [], m, _ => by simp [fewTms]
 | t :: ts, m, h => by simp only [fewTms]; rw [if_neg (by omega)]
mutual
theorem fewTm_le : ∀ (t : Tm) (m : Int), -1 ≤ m → -1 ≤ fewTm t m ∧ fewTm t m ≤ m
 | .mk _ _ _ _ names vars types subs, m, h => by
  simp only [fewTm]
  split
  ·omega
  ·split
   ·have := fewTms_le subs (m - 1) (by omega); omega
   ·omega
theorem fewTms_le : ∀ (l : List Tm) (m : Int), -1 ≤ m → -1 ≤ fewTms l m ∧ fewTms l m ≤ m
 | [], m, h => by simp only [fewTms]; omega
 | t :: ts, m, h => by
  simp only [fewTms]
  split
  ·have h1 := fewTm_le t m h
   have h2 := fewTms_le ts (fewTm t m) h1.1
   omega
  ·omega
end
theorem fewTms_snoc : ∀ (l : List Tm) (t : Tm) (m : Int), fewTms (l ++ [t]) m = if 0 ≤ fewTms l m then fewTm t (fewTms l m) else fewTms l m
 | [], t, m => by by_cases h : 0 ≤ m <;> simp [fewTms, h]
 | x :: l, t, m => by
  by_cases h : 0 ≤ m
  ·simp only [List.cons_append, fewTms, if_pos h]; exact fewTms_snoc l t _
  ·simp only [List.cons_append, fewTms, if_neg h]
theorem fewTms_stop : ∀ (l r : List Tm) (m : Int), fewTms l m < 0 → fewTms (l ++ r) m = fewTms l m
 | [], r, m, h => by simp only [fewTms] at h; simp only [List.nil_append, fewTms]; exact fewTms_neg r m h
 | x :: l, r, m, h => by
  simp only [List.cons_append, fewTms] at h ⊢
  by_cases h0 : 0 ≤ m
  ·rw [if_pos h0] at h; rw [if_pos h0, if_pos h0]; exact fewTms_stop l r _ h
  ·rw [if_neg h0, if_neg h0]
variable [GI]
set_option maxHeartbeats 2000000 in
theorem cRFewTm {t : Tm} (ht : TmW t) : ∀ (most : Int), -1 ≤ most → most ≤ 100000 → Pc Tryz.prog 29 [.agg (tmD t), I most] (I (fewTm t most)) := by
 induction ht with
 | mk kind num mod name names vars types subs l1 l2 l3 l4 l5 l6 l7 l8 l9 l10 ih =>
  intro most hm0 hm1
  refine pc_of (pur_I _) (fun m n => ?_)
  have hL1 : (names.map fun s => [S s]).length = names.length := by simp
  have hL2 : (vars.map fun s => [S s]).length = vars.length := by simp
  have hL3 : (types.map tyD).length = types.length := by simp
  have hG3 : ∀ i (h : i < types.length), (types.map tyD)[i]? = some (tyD types[i]) := fun i h => by simp [h]
  have hL4 : (subs.map tmD).length = subs.length := by simp
  have hG4 : ∀ i (h : i < subs.length), (subs.map tmD)[i]? = some (tmD subs[i]) := fun i h => by simp [h]
  have wm : IntKind.i64.wrap (most - 1) = most - 1 := wrap_i64 (by omega) (by omega)
  have fr : ∀ o j, j < n → (m.set n o) j = m j := fun o j hj => by rw [set_ne _ _ _ _ (by omega)]
  simp only [tmD, sl1, tmsD_eq, fewTm]
  generalize (names.map fun s => [S s]) = NL at hL1
  generalize (vars.map fun s => [S s]) = VL at hL2
  generalize types.map tyD = YL at hL3 hG3
  generalize subs.map tmD = SL at hL4 hG4
  refine acalls_vc [0, 1, 2, 4, 5, 6, 7, 29, 34, 44, 53] Tryz.func29 Tryz.ntmps29 (by kernel_rfl) rfl rfl (by simp) ?_
  by_cases c1 : most - 1 < 0
  ·rw [if_pos (.inl c1)]
   simp -dsimp [I, wm, c1]
   exact pcq rfl (fr _)
  by_cases c2 : (100 : Int) < names.length
  ·rw [if_pos (.inr (.inl (by omega)))]
   simp -dsimp [I, wm, c1, c2, hL1]
   exact pcq rfl (fr _)
  by_cases c3 : (100 : Int) < vars.length
  ·rw [if_pos (.inr (.inr (.inl (by omega))))]
   simp -dsimp [I, wm, c1, c2, c3, hL1, hL2]
   exact pcq rfl (fr _)
  by_cases c4 : (100 : Int) < types.length
  ·rw [if_pos (.inr (.inr (.inr (by omega))))]
   simp -dsimp [I, wm, c1, c2, c3, c4, hL1, hL2, hL3]
   exact pcq rfl (fr _)
  rw [if_neg (by omega)]
  simp -dsimp [I, wm, c1, c2, c3, c4, hL1, hL2, hL3]
  refine vloop_as (β := Nat) (fun i => [(2, .ptr n 0 0 0), (1, I (most - 1)), (5, I i)]) (fun i m2 n2 => m2 = m.set n (tmO kind num mod name NL VL YL SL) ∧ n2 = n + 1 ∧ i ≤ types.length ∧ (types.take i).all few3 = true) (fun i => types.length - i) 0 (by simp [I]) ⟨rfl, rfl, by omega, by simp⟩ ?_
  rintro i m2 n2 ⟨rfl, rfl, le, hall⟩
  by_cases hi : (i : Int) < types.length
  ·have hi' : i < types.length := by omega
   have wi : IntKind.i64.wrap ((i : Int) + 1) = (i : Int) + 1 := wrap_i64 (by omega) (by omega)
   have hiN : i < YL.length := by omega
   have hgi : YL[i] = tyD types[i] := get_opt (hG3 i hi') hiN
   have hc : Pc Tryz.prog 53 [.agg (tyD types[i])] (Tt (few3 types[i])) := fun m n => cFewT (l9 _ (List.getElem_mem hi')) m n
   simp -dsimp [I, Tt, hi, hi', hL3, hiN, hgi, tmO]
   refine pcall hc ?_
   cases hv : few3 types[i]
   ·simp -dsimp [I, Tt]
    refine pcq ?_ (fr _)
    rw [if_neg]
    intro h
    have := h _ (List.getElem_mem hi')
    rw [hv] at this; cases this
   ·simp -dsimp [I, Tt, wi]
    refine rnd (i + 1) (by omega) (by simp [I]) ⟨rfl, rfl, by omega, ?_⟩
    rw [take_snoc hi', List.all_append, hall]
    simp [hv]
  ·have : types.take i = types := List.take_of_length_le (by omega)
   rw [this] at hall
   rw [if_pos hall]
   simp -dsimp [I, Tt, hi, hL3, tmO]
   refine vloop_as (β := Nat) (fun i => [(2, .ptr n 0 0 0), (1, I (fewTms (subs.take i) (most - 1))), (7, I i)]) (fun i m2 n2 => m2 = m.set n (tmO kind num mod name NL VL YL SL) ∧ n2 = n + 1 ∧ i ≤ subs.length) (fun i => subs.length - i) 0 (by simp [I, fewTms]) ⟨rfl, rfl, by omega⟩ ?_
   rintro i m2 n2 ⟨rfl, rfl, le⟩
   have hb := fewTms_le (subs.take i) (most - 1) (by omega)
   by_cases hi : (i : Int) < subs.length
   ·have hi' : i < subs.length := by omega
    have wi : IntKind.i64.wrap ((i : Int) + 1) = (i : Int) + 1 := wrap_i64 (by omega) (by omega)
    have hiN : i < SL.length := by omega
    have hgi : SL[i] = tmD subs[i] := get_opt (hG4 i hi') hiN
    have hsn := fewTms_snoc (subs.take i) subs[i] (most - 1)
    rw [← take_snoc hi'] at hsn
    have hst := fewTms_stop (subs.take i) (subs.drop i) (most - 1)
    rw [List.take_append_drop] at hst
    generalize fewTms (subs.take i) (most - 1) = q at hb hsn hst
    by_cases c5 : 0 ≤ q
    ·rw [if_pos c5] at hsn
     simp -dsimp [I, Tt, hi, hi', c5, hL4, hiN, hgi, tmO]
     refine pcall (ih subs[i] (List.getElem_mem hi') q (by omega) (by omega)) ?_
     simp -dsimp [I, Tt, wi]
     exact rnd (i + 1) (by omega) (by simp [I, hsn]) ⟨rfl, rfl, by omega⟩
    ·simp -dsimp [I, Tt, hi, hi', c5, hL4, tmO]
     exact pcq (by rw [hst (by omega)]) (fr _)
   ·have : subs.take i = subs := List.take_of_length_le (by omega)
    rw [this]
    simp -dsimp [I, Tt, hi, hL4, tmO]
    exact pcq rfl (fr _)
def fewTm3 (t : Tm) : Bool := decide (0 ≤ fewTm t 2000)
theorem cRFewT {t : Tm} (ht : TmW t) : Pc Tryz.prog 8 [.agg (tmD t)] (Tt (fewTm3 t)) := by
 refine pc_of (pur_T _) (fun m n => ?_)
 have hc := cRFewTm ht 2000 (by omega) (by omega)
 have hz : (tmD t).length = 8 := by simp
 unfold fewTm3
 generalize tmD t = XX at hc hz
 have htz : List.take 8 XX = XX := List.take_of_length_le (by omega)
 refine acalls_vc [0, 1, 2] Tryz.func8 Tryz.ntmps8 (by kernel_rfl) rfl rfl (by simp) ?_
 simp -dsimp [hz, htz]
 refine pcall hc ?_
 by_cases h : 0 ≤ fewTm t 2000
 ·simp -dsimp [I, Tt, h]
  exact pcq rfl (fun j hj => by rw [set_ne _ _ _ _ (by omega)])
 ·simp -dsimp [I, Tt, h]
  exact pcq rfl (fun j hj => by rw [set_ne _ _ _ _ (by omega)])
end Go.Proofs.Mv.App
open Go Go.Proofs Go.Proofs.Mv.V
set_option maxRecDepth 10000
namespace Go.Proofs.Mv.App
variable [GI]
set_option maxHeartbeats 4000000 in
theorem cSameT {a : Ty} (ha : TyW a) : ∀ {b : Ty}, Pc Tryz.prog 33 [.agg (tyD a), .agg (tyD b)] (Tt (sameT a b)) := by
 induction ha with
 | mk kind pkg major mod name names subs l1 l2 l3 l4 l5 l6 l7 ih =>
  intro b
  obtain ⟨kind', pkg', major', mod', name', names', subs'⟩ := b
  refine pc_of (pur_T _) (fun m n => ?_)
  have nn1 : n ≠ n + 1 := by omega
  have n1n : n + 1 ≠ n := by omega
  have fr : ∀ o o' j, j < n → ((m.set n o).set (n + 1) o') j = m j := fun o o' j hj => by rw [set_ne _ _ _ _ (by omega), set_ne _ _ _ _ (by omega)]
  have hL1 : (names.map fun s => [S s]).length = names.length := by simp
  have hG1 : ∀ i (h : i < names.length), (names.map fun s => [S s])[i]? = some [S names[i]] := fun i h => by simp [h]
  have hL1' : (names'.map fun s => [S s]).length = names'.length := by simp
  have hG1' : ∀ i (h : i < names'.length), (names'.map fun s => [S s])[i]? = some [S names'[i]] := fun i h => by simp [h]
  have hL2 : (tysD subs).length = subs.length := by rw [tysD_eq]; simp
  have hG2 : ∀ i (h : i < subs.length), (tysD subs)[i]? = some (tyD subs[i]) := fun i h => by rw [tysD_eq]; simp [h]
  have hL2' : (tysD subs').length = subs'.length := by rw [tysD_eq]; simp
  have hG2' : ∀ i (h : i < subs'.length), (tysD subs')[i]? = some (tyD subs'[i]) := fun i h => by rw [tysD_eq]; simp [h]
  have hno : ¬ (kind = kind' ∧ pkg = pkg' ∧ major = major' ∧ mod = mod' ∧ name = name' ∧ names = names' ∧ subs = subs') → sameT (.mk kind pkg major mod name names subs) (.mk kind' pkg' major' mod' name' names' subs') = false := fun h => by
   cases e : sameT (.mk kind pkg major mod name names subs) (.mk kind' pkg' major' mod' name' names' subs')
   ·rfl
   ·exact absurd (by simpa using (sameT_iff _ _).1 e) h
  have hyes : (kind = kind' ∧ pkg = pkg' ∧ major = major' ∧ mod = mod' ∧ name = name' ∧ names = names' ∧ subs = subs') → sameT (.mk kind pkg major mod name names subs) (.mk kind' pkg' major' mod' name' names' subs') = true := fun h => by
   rw [sameT_iff]; simpa using h
  generalize sameT (.mk kind pkg major mod name names subs) (.mk kind' pkg' major' mod' name' names' subs') = R at hno hyes
  simp only [tyD, sl1]
  generalize (names.map fun s => [S s]) = NL at hL1 hG1
  generalize (names'.map fun s => [S s]) = NL' at hL1' hG1'
  generalize tysD subs = SL at hL2 hG2
  generalize tysD subs' = SL' at hL2' hG2'
  refine acalls_vc [0, 1, 2, 3, 4, 5, 6, 7, 58, 63, 76, 81, 96] Tryz.func33 Tryz.ntmps33 (by kernel_rfl) rfl rfl (by simp) ?_
  by_cases c1 : kind = kind'
  ·subst c1
   by_cases c2 : pkg = pkg'
   ·subst c2
    by_cases c3 : major = major'
    ·subst c3
     by_cases c4 : mod = mod'
     ·subst c4
      by_cases c5 : name = name'
      ·subst c5
       by_cases c6 : names.length = names'.length
       ·have c6' : (names.length : Int) = names'.length := by omega
        by_cases c7 : subs.length = subs'.length
        ·have c7' : (subs.length : Int) = subs'.length := by omega
         simp -dsimp [I, S, Tt, set_ne, nn1, n1n, hL1, hL2, hL1', hL2', c6', c7']
         refine vloop_as (β := Nat) (fun i => [(2, .ptr n 0 0 0), (3, .ptr (n + 1) 0 0 0), (5, I i)]) (fun i m2 n2 => m2 = (m.set n (tyO kind pkg major mod name NL SL)).set (n + 1) (tyO kind pkg major mod name NL' SL') ∧ n2 = n + 1 + 1 ∧ i ≤ names.length ∧ names.take i = names'.take i) (fun i => names.length - i) 0 (by simp [I]) ⟨rfl, rfl, by omega, by simp⟩ ?_
         rintro i m2 n2 ⟨rfl, rfl, le, heq⟩
         by_cases hi : (i : Int) < names.length
         ·have hi' : i < names.length := by omega
          have hi2 : i < names'.length := by omega
          have wi : IntKind.i64.wrap ((i : Int) + 1) = (i : Int) + 1 := wrap_i64 (by omega) (by omega)
          have hiN : i < NL.length := by omega
          have hgi : NL[i] = [S names[i]] := get_opt (hG1 i hi') hiN
          have hiN' : i < NL'.length := by omega
          have hgi' : NL'[i] = [S names'[i]] := get_opt (hG1' i hi2) hiN'
          have hi3 : (i : Int) < names'.length := by omega
          simp -dsimp [I, S, Tt, set_ne, nn1, n1n, hL1, hL2, hL1', hL2', hi, hi', hi2, hi3, c6', tyO]
          refine vdraw_of [0, 1, 0, 7, 15, 0, 32, 0, 224, 480, 1023] [0, 1, 2, 3, 4, 5, 6, 7, 8, 9, 10] (by kernel_rfl) (by kernel_rfl) ?_
          by_cases ce : names[i] = names'[i]
          ·have ce' : (names[i] == names'[i]) = true := by simpa using ce
           simp -dsimp [I, S, Tt, set_ne, nn1, n1n, hL1, hL2, hL1', hL2', hi, hi', hi2, hi3, hiN, hgi, hiN', hgi', wi, ce', c6']
           refine rnd (i + 1) (by omega) (by simp [I]) ⟨rfl, rfl, by omega, ?_⟩
           rw [List.take_succ_eq_append_getElem hi', List.take_succ_eq_append_getElem hi2, heq, ce]
          ·have ce' : (names[i] == names'[i]) = false := by simpa using ce
           rw [hno (fun h => ce (by have := h.2.2.2.2.2.1; subst this; rfl))]
           simp -dsimp [I, S, Tt, set_ne, nn1, n1n, hL1, hL2, hL1', hL2', hi, hi', hi2, hi3, hiN, hgi, hiN', hgi', wi, ce', c6']
           exact pcq rfl (fr _ _)
         ·have e1 : names.take i = names := List.take_of_length_le (by omega)
          have e2 : names'.take i = names' := List.take_of_length_le (by omega)
          rw [e1, e2] at heq
          have hi3 : ¬ (i : Int) < names'.length := by omega
          have hi4 : ¬ i < names'.length := by omega
          simp -dsimp [I, S, Tt, set_ne, nn1, n1n, hL1, hL2, hL1', hL2', hi, hi3, hi4, c6', tyO]
          refine vloop_as (β := Nat) (fun i => [(2, .ptr n 0 0 0), (3, .ptr (n + 1) 0 0 0), (6, I i)]) (fun i m2 n2 => m2 = (m.set n (tyO kind pkg major mod name NL SL)).set (n + 1) (tyO kind pkg major mod name NL' SL') ∧ n2 = n + 1 + 1 ∧ i ≤ subs.length ∧ subs.take i = subs'.take i) (fun i => subs.length - i) 0 (by simp [I]) ⟨rfl, rfl, by omega, by simp⟩ ?_
          rintro i m2 n2 ⟨rfl, rfl, le, heq2⟩
          by_cases hi : (i : Int) < subs.length
          ·have hi' : i < subs.length := by omega
           have hi2 : i < subs'.length := by omega
           have hi3 : (i : Int) < subs'.length := by omega
           have wi : IntKind.i64.wrap ((i : Int) + 1) = (i : Int) + 1 := wrap_i64 (by omega) (by omega)
           have hiN : i < SL.length := by omega
           have hgi : SL[i] = tyD subs[i] := get_opt (hG2 i hi') hiN
           have hiN' : i < SL'.length := by omega
           have hgi' : SL'[i] = tyD subs'[i] := get_opt (hG2' i hi2) hiN'
           simp -dsimp [I, S, Tt, set_ne, nn1, n1n, hL1, hL2, hL1', hL2', hi, hi', hi2, hi3, c7', tyO]
           refine vdraw_of [0, 1, 0, 7, 15, 0, 32, 0, 224, 480, 1023, 2047] [0, 1, 2, 3, 4, 5, 6, 7, 8, 9, 10, 11] (by kernel_rfl) (by kernel_rfl) ?_
           simp -dsimp [I, S, Tt, set_ne, nn1, n1n, hL1, hL2, hL1', hL2', hi, hi', hi2, hi3, hiN, hgi, hiN', hgi', wi, c7']
           refine pcall (ih subs[i] (List.getElem_mem hi') (b := subs'[i])) ?_
           cases ce : sameT subs[i] subs'[i]
           ·rw [hno (fun h => by
             have h2 := h.2.2.2.2.2.2
             subst h2
             rw [(sameT_iff _ _).2 rfl] at ce; cases ce)]
            simp -dsimp [I, S, Tt, set_ne, nn1, n1n]
            exact pcq rfl (fr _ _)
           ·simp -dsimp [I, S, Tt, set_ne, nn1, n1n, wi]
            refine rnd (i + 1) (by omega) (by simp [I]) ⟨rfl, rfl, by omega, ?_⟩
            rw [List.take_succ_eq_append_getElem hi', List.take_succ_eq_append_getElem hi2, heq2, (sameT_iff _ _).1 ce]
          ·have e1 : subs.take i = subs := List.take_of_length_le (by omega)
           have e2 : subs'.take i = subs' := List.take_of_length_le (by omega)
           rw [e1, e2] at heq2
           rw [hyes ⟨rfl, rfl, rfl, rfl, rfl, heq, heq2⟩]
           have hi3 : ¬ (i : Int) < subs'.length := by omega
           have hi4 : ¬ i < subs'.length := by omega
           simp -dsimp [I, S, Tt, set_ne, nn1, n1n, hL1, hL2, hL1', hL2', hi, hi3, hi4, c7', tyO]
           exact pcq rfl (fr _ _)
        ·have d7 : ((subs.length : Int) == subs'.length) = false := by rw [beq_eq_false_iff_ne]; omega
         have d7' : ((subs.length : Int) != subs'.length) = true := by rw [bne_iff_ne]; omega
         rw [hno (fun h => c7 (by rw [h.2.2.2.2.2.2]))]
         simp -dsimp [I, S, Tt, set_ne, nn1, n1n, hL1, hL2, hL1', hL2', c6', d7, d7']
         exact pcq rfl (fr _ _)
       ·have d6 : ((names.length : Int) == names'.length) = false := by rw [beq_eq_false_iff_ne]; omega
        have d6' : ((names.length : Int) != names'.length) = true := by rw [bne_iff_ne]; omega
        rw [hno (fun h => c6 (by rw [h.2.2.2.2.2.1]))]
        simp -dsimp [I, S, Tt, set_ne, nn1, n1n, hL1, hL2, hL1', hL2', d6, d6']
        exact pcq rfl (fr _ _)
      ·have d5 : (name == name') = false := by simpa using c5
       rw [hno (fun h => c5 h.2.2.2.2.1)]
       simp -dsimp [I, S, Tt, set_ne, nn1, n1n, hL1, hL2, hL1', hL2', d5]
       exact pcq rfl (fr _ _)
     ·have d4 : (mod == mod') = false := by simpa using c4
      rw [hno (fun h => c4 h.2.2.2.1)]
      simp -dsimp [I, S, Tt, set_ne, nn1, n1n, hL1, hL2, hL1', hL2', d4]
      exact pcq rfl (fr _ _)
    ·have d3 : (major != major') = true := by simpa using c3
     rw [hno (fun h => c3 h.2.2.1)]
     simp -dsimp [I, S, Tt, set_ne, nn1, n1n, hL1, hL2, hL1', hL2', c3, d3]
     exact pcq rfl (fr _ _)
   ·have d2 : (pkg == pkg') = false := by simpa using c2
    rw [hno (fun h => c2 h.2.1)]
    simp -dsimp [I, S, Tt, set_ne, nn1, n1n, hL1, hL2, hL1', hL2', d2]
    exact pcq rfl (fr _ _)
  ·have d1 : (kind != kind') = true := by simpa using c1
   rw [hno (fun h => c1 h.1)]
   simp -dsimp [I, S, Tt, set_ne, nn1, n1n, hL1, hL2, hL1', hL2', c1, d1]
   exact pcq rfl (fr _ _)
end Go.Proofs.Mv.App
open Go Go.Proofs Go.Proofs.Mv.V
set_option maxRecDepth 10000
namespace Go.Proofs.Mv.App
variable [GI]
theorem cRTexts {a : List (List UInt8)} (ha : a.length ≤ 9223372036854775807) (b : List (List UInt8)) : Pc Tryz.prog 32 [sl1 a, sl1 b] (Tt (decide (a = b))) := by
 refine pc_of (pur_T _) (fun m n => ?_)
 have hL1 : (a.map fun s => [S s]).length = a.length := by simp
 have hG1 : ∀ i (h : i < a.length), (a.map fun s => [S s])[i]? = some [S a[i]] := fun i h => by simp [h]
 have hL2 : (b.map fun s => [S s]).length = b.length := by simp
 have hG2 : ∀ i (h : i < b.length), (b.map fun s => [S s])[i]? = some [S b[i]] := fun i h => by simp [h]
 have hno : ¬ a = b → decide (a = b) = false := fun h => by simpa using h
 have hyes : a = b → decide (a = b) = true := fun h => by simpa using h
 generalize decide (a = b) = R at hno hyes
 simp only [sl1]
 generalize (a.map fun s => [S s]) = NL at hL1 hG1
 generalize (b.map fun s => [S s]) = ML at hL2 hG2
 refine acalls_vc [0, 1, 4, 5, 10, 14, 25] Tryz.func32 Tryz.ntmps32 (by kernel_rfl) rfl rfl (by simp) ?_
 by_cases c : a.length = b.length
 ·have c' : ((a.length : Int) == b.length) = true := by rw [beq_iff_eq]; omega
  have c2 : ((a.length : Int) != b.length) = false := by rw [bne_eq_false_iff_eq]; omega
  simp -dsimp [I, S, Tt, hL1, hL2, c', c2]
  refine vloop_as (β := Nat) (fun i => [(0, .sl 1 NL), (1, .sl 1 ML), (5, I i)]) (fun i m2 n2 => m2 = m ∧ n2 = n ∧ i ≤ a.length ∧ a.take i = b.take i) (fun i => a.length - i) 0 (by simp [I]) ⟨rfl, rfl, by omega, by simp⟩ ?_
  rintro i m2 n2 ⟨rfl, rfl, le, heq⟩
  by_cases hi : (i : Int) < a.length
  ·have hi' : i < a.length := by omega
   have hi2 : i < b.length := by omega
   have hi3 : (i : Int) < b.length := by omega
   have wi : IntKind.i64.wrap ((i : Int) + 1) = (i : Int) + 1 := wrap_i64 (by omega) (by omega)
   have hiN : i < NL.length := by omega
   have hgi : NL[i] = [S a[i]] := get_opt (hG1 i hi') hiN
   have hiN' : i < ML.length := by omega
   have hgi' : ML[i] = [S b[i]] := get_opt (hG2 i hi2) hiN'
   simp -dsimp [I, S, Tt, hL1, hL2, hi, hi', hi2, hi3]
   refine vdraw_of [0, 0, 3, 7, 0, 0, 48, 112, 255] [0, 1, 2, 3, 4, 5, 6, 7, 8] (by kernel_rfl) (by kernel_rfl) ?_
   by_cases ce : a[i] = b[i]
   ·have ce' : (a[i] == b[i]) = true := by simpa using ce
    simp -dsimp [I, S, Tt, hL1, hL2, hi, hi', hi2, hi3, hiN, hgi, hiN', hgi', wi, ce']
    refine rnd (i + 1) (by omega) (by simp [I]) ⟨rfl, rfl, by omega, ?_⟩
    rw [List.take_succ_eq_append_getElem hi', List.take_succ_eq_append_getElem hi2, heq, ce]
   ·have ce' : (a[i] == b[i]) = false := by simpa using ce
    rw [hno (fun h => ce (by subst h; rfl))]
    simp -dsimp [I, S, Tt, hL1, hL2, hi, hi', hi2, hi3, hiN, hgi, hiN', hgi', wi, ce']
    exact pcq' rfl
  ·have e1 : a.take i = a := List.take_of_length_le (by omega)
   have e2 : b.take i = b := List.take_of_length_le (by omega)
   rw [e1, e2] at heq
   rw [hyes heq]
   simp -dsimp [I, S, Tt, hL1, hL2, hi]
   exact pcq' rfl
 ·have c' : ((a.length : Int) == b.length) = false := by rw [beq_eq_false_iff_ne]; omega
  have c2 : ((a.length : Int) != b.length) = true := by rw [bne_iff_ne]; omega
  rw [hno (fun h => c (by rw [h]))]
  simp -dsimp [I, S, Tt, hL1, hL2, c', c2]
  exact pcq' rfl
end Go.Proofs.Mv.App
open Go Go.Proofs Go.Proofs.Mv.V
set_option maxRecDepth 10000
namespace Go.Proofs.Mv.App
mutual
def sameTm : Tm → Tm → Bool
 | .mk k u m n ns vs ts ss, .mk k' u' m' n' ns' vs' ts' ss' => decide (k = k') && decide (u = u') && decide (m = m') && decide (n = n') && decide (ns = ns') && decide (vs = vs') && decide (ts = ts') && sameTms ss ss'
def sameTms : List Tm → List Tm → Bool
 | [], [] => true
 | a :: l, b :: r => sameTm a b && sameTms l r
 | [], _ :: _ => false
 | _ :: _, [] => false
end
mutual
theorem sameTm_iff : ∀ a b : Tm, sameTm a b = true ↔ a = b
 | .mk k u m n ns vs ts ss, .mk k' u' m' n' ns' vs' ts' ss' => by
  simp only [sameTm, Bool.and_eq_true, decide_eq_true_eq, sameTms_iff ss ss', Tm.mk.injEq, and_assoc]
theorem sameTms_iff : ∀ a b : List Tm, sameTms a b = true ↔ a = b
 | [], [] => by simp [sameTms]
 | a :: l, b :: r => by simp only [sameTms, Bool.and_eq_true, sameTm_iff a b, sameTms_iff l r, List.cons.injEq]
 | [], _ :: _ => by simp [sameTms]
 | _ :: _, [] => by simp [sameTms]
end
instance : DecidableEq Tm := fun a b => decidable_of_iff (sameTm a b = true) (sameTm_iff a b)
variable [GI]
set_option maxHeartbeats 4000000 in
theorem cRSameTm {a : Tm} (ha : TmW a) : ∀ {b : Tm}, Pc Tryz.prog 11 [.agg (tmD a), .agg (tmD b)] (Tt (sameTm a b)) := by
 induction ha with
 | mk kind num mod name names vars types subs l1 l2 l3 l4 l5 l6 l7 l8 l9 l10 ih =>
  intro b
  obtain ⟨kind', num', mod', name', names', vars', types', subs'⟩ := b
  refine pc_of (pur_T _) (fun m n => ?_)
  have nn1 : n ≠ n + 1 := by omega
  have n1n : n + 1 ≠ n := by omega
  have fr : ∀ o o' j, j < n → ((m.set n o).set (n + 1) o') j = m j := fun o o' j hj => by rw [set_ne _ _ _ _ (by omega), set_ne _ _ _ _ (by omega)]
  have cN := cRTexts l1 names'
  have cV := cRTexts l2 vars'
  have hL3 : (types.map tyD).length = types.length := by simp
  have hG3 : ∀ i (h : i < types.length), (types.map tyD)[i]? = some (tyD types[i]) := fun i h => by simp [h]
  have hL3' : (types'.map tyD).length = types'.length := by simp
  have hG3' : ∀ i (h : i < types'.length), (types'.map tyD)[i]? = some (tyD types'[i]) := fun i h => by simp [h]
  have hL4 : (subs.map tmD).length = subs.length := by simp
  have hG4 : ∀ i (h : i < subs.length), (subs.map tmD)[i]? = some (tmD subs[i]) := fun i h => by simp [h]
  have hL4' : (subs'.map tmD).length = subs'.length := by simp
  have hG4' : ∀ i (h : i < subs'.length), (subs'.map tmD)[i]? = some (tmD subs'[i]) := fun i h => by simp [h]
  have hno : ¬ (kind = kind' ∧ num = num' ∧ mod = mod' ∧ name = name' ∧ names = names' ∧ vars = vars' ∧ types = types' ∧ subs = subs') → sameTm (.mk kind num mod name names vars types subs) (.mk kind' num' mod' name' names' vars' types' subs') = false := fun h => by
   cases e : sameTm (.mk kind num mod name names vars types subs) (.mk kind' num' mod' name' names' vars' types' subs')
   ·rfl
   ·exact absurd (by simpa using (sameTm_iff _ _).1 e) h
  have hyes : (kind = kind' ∧ num = num' ∧ mod = mod' ∧ name = name' ∧ names = names' ∧ vars = vars' ∧ types = types' ∧ subs = subs') → sameTm (.mk kind num mod name names vars types subs) (.mk kind' num' mod' name' names' vars' types' subs') = true := fun h => by
   rw [sameTm_iff]; simpa using h
  generalize sameTm (.mk kind num mod name names vars types subs) (.mk kind' num' mod' name' names' vars' types' subs') = R at hno hyes
  simp only [tmD, tmsD_eq]
  simp only [sl1] at cN cV ⊢
  generalize (names.map fun s => [S s]) = NL at cN
  generalize (names'.map fun s => [S s]) = NL' at cN
  generalize (vars.map fun s => [S s]) = VL at cV
  generalize (vars'.map fun s => [S s]) = VL' at cV
  generalize types.map tyD = YL at hL3 hG3
  generalize types'.map tyD = YL' at hL3' hG3'
  generalize subs.map tmD = SL at hL4 hG4
  generalize subs'.map tmD = SL' at hL4' hG4'
  refine acalls_vc [0, 1, 2, 3, 4, 5, 6, 7, 8, 9, 10, 72, 77, 92, 97, 112] Tryz.func11 Tryz.ntmps11 (by kernel_rfl) rfl rfl (by simp) ?_
  simp -dsimp [I, S, Tt, set_ne, nn1, n1n]
  refine pcall cN ?_
  simp -dsimp [I, S, Tt, set_ne, nn1, n1n]
  refine pcall cV ?_
  by_cases c1 : kind = kind'
  ·subst c1
   by_cases c2 : num = num'
   ·subst c2
    by_cases c3 : mod = mod'
    ·subst c3
     by_cases c4 : name = name'
     ·subst c4
      by_cases c5 : names = names'
      ·subst c5
       by_cases c6 : vars = vars'
       ·subst c6
        by_cases c7 : types.length = types'.length
        ·have c7' : (types.length : Int) = types'.length := by omega
         by_cases c8 : subs.length = subs'.length
         ·have c8' : (subs.length : Int) = subs'.length := by omega
          simp -dsimp [I, S, Tt, set_ne, nn1, n1n, hL3, hL4, hL3', hL4', c7', c8']
          refine vloop_as (β := Nat) (fun i => [(2, .ptr n 0 0 0), (3, .ptr (n + 1) 0 0 0), (7, I i)]) (fun i m2 n2 => m2 = (m.set n (tmO kind num mod name NL VL YL SL)).set (n + 1) (tmO kind num mod name NL' VL' YL' SL') ∧ n2 = n + 1 + 1 ∧ i ≤ types.length ∧ types.take i = types'.take i) (fun i => types.length - i) 0 (by simp [I]) ⟨rfl, rfl, by omega, by simp⟩ ?_
          rintro i m2 n2 ⟨rfl, rfl, le, heq⟩
          by_cases hi : (i : Int) < types.length
          ·have hi' : i < types.length := by omega
           have hi2 : i < types'.length := by omega
           have hi3 : (i : Int) < types'.length := by omega
           have wi : IntKind.i64.wrap ((i : Int) + 1) = (i : Int) + 1 := wrap_i64 (by omega) (by omega)
           have hiN : i < YL.length := by omega
           have hgi : YL[i] = tyD types[i] := get_opt (hG3 i hi') hiN
           have hiN' : i < YL'.length := by omega
           have hgi' : YL'[i] = tyD types'[i] := get_opt (hG3' i hi2) hiN'
           simp -dsimp [I, S, Tt, set_ne, nn1, n1n, hL3, hL4, hL3', hL4', hi, hi', hi2, hi3, c7', tmO]
           refine vdraw_of [0, 1, 0, 7, 15, 0, 32, 0, 224, 480, 1023, 2047] [0, 1, 2, 3, 4, 5, 6, 7, 8, 9, 10, 11] (by kernel_rfl) (by kernel_rfl) ?_
           simp -dsimp [I, S, Tt, set_ne, nn1, n1n, hL3, hL4, hL3', hL4', hi, hi', hi2, hi3, hiN, hgi, hiN', hgi', wi, c7']
           refine pcall (cSameT (l9 _ (List.getElem_mem hi')) (b := types'[i])) ?_
           cases ce : sameT types[i] types'[i]
           ·rw [hno (fun h => by
             have h2 := h.2.2.2.2.2.2.1
             subst h2
             rw [(sameT_iff _ _).2 rfl] at ce; cases ce)]
            simp -dsimp [I, S, Tt, set_ne, nn1, n1n]
            exact pcq rfl (fr _ _)
           ·simp -dsimp [I, S, Tt, set_ne, nn1, n1n, wi]
            refine rnd (i + 1) (by omega) (by simp [I]) ⟨rfl, rfl, by omega, ?_⟩
            rw [List.take_succ_eq_append_getElem hi', List.take_succ_eq_append_getElem hi2, heq, (sameT_iff _ _).1 ce]
          ·have e1 : types.take i = types := List.take_of_length_le (by omega)
           have e2 : types'.take i = types' := List.take_of_length_le (by omega)
           rw [e1, e2] at heq
           have hi3 : ¬ (i : Int) < types'.length := by omega
           have hi4 : ¬ i < types'.length := by omega
           simp -dsimp [I, S, Tt, set_ne, nn1, n1n, hL3, hL4, hL3', hL4', hi, hi3, hi4, c7', tmO]
           refine vloop_as (β := Nat) (fun i => [(2, .ptr n 0 0 0), (3, .ptr (n + 1) 0 0 0), (9, I i)]) (fun i m2 n2 => m2 = (m.set n (tmO kind num mod name NL VL YL SL)).set (n + 1) (tmO kind num mod name NL' VL' YL' SL') ∧ n2 = n + 1 + 1 ∧ i ≤ subs.length ∧ subs.take i = subs'.take i) (fun i => subs.length - i) 0 (by simp [I]) ⟨rfl, rfl, by omega, by simp⟩ ?_
           rintro i m2 n2 ⟨rfl, rfl, le, heq2⟩
           by_cases hi : (i : Int) < subs.length
           ·have hi' : i < subs.length := by omega
            have hi2 : i < subs'.length := by omega
            have hi3 : (i : Int) < subs'.length := by omega
            have wi : IntKind.i64.wrap ((i : Int) + 1) = (i : Int) + 1 := wrap_i64 (by omega) (by omega)
            have hiN : i < SL.length := by omega
            have hgi : SL[i] = tmD subs[i] := get_opt (hG4 i hi') hiN
            have hiN' : i < SL'.length := by omega
            have hgi' : SL'[i] = tmD subs'[i] := get_opt (hG4' i hi2) hiN'
            simp -dsimp [I, S, Tt, set_ne, nn1, n1n, hL3, hL4, hL3', hL4', hi, hi', hi2, hi3, c8', tmO]
            refine vdraw_of [0, 1, 0, 7, 15, 0, 32, 0, 224, 480, 1023, 2047] [0, 1, 2, 3, 4, 5, 6, 7, 8, 9, 10, 11] (by kernel_rfl) (by kernel_rfl) ?_
            simp -dsimp [I, S, Tt, set_ne, nn1, n1n, hL3, hL4, hL3', hL4', hi, hi', hi2, hi3, hiN, hgi, hiN', hgi', wi, c8']
            refine pcall (ih subs[i] (List.getElem_mem hi') (b := subs'[i])) ?_
            cases ce : sameTm subs[i] subs'[i]
            ·rw [hno (fun h => by
              have h2 := h.2.2.2.2.2.2.2
              subst h2
              rw [(sameTm_iff _ _).2 rfl] at ce; cases ce)]
             simp -dsimp [I, S, Tt, set_ne, nn1, n1n]
             exact pcq rfl (fr _ _)
            ·simp -dsimp [I, S, Tt, set_ne, nn1, n1n, wi]
             refine rnd (i + 1) (by omega) (by simp [I]) ⟨rfl, rfl, by omega, ?_⟩
             rw [List.take_succ_eq_append_getElem hi', List.take_succ_eq_append_getElem hi2, heq2, (sameTm_iff _ _).1 ce]
           ·have e1 : subs.take i = subs := List.take_of_length_le (by omega)
            have e2 : subs'.take i = subs' := List.take_of_length_le (by omega)
            rw [e1, e2] at heq2
            rw [hyes ⟨rfl, rfl, rfl, rfl, rfl, rfl, heq, heq2⟩]
            have hi3 : ¬ (i : Int) < subs'.length := by omega
            have hi4 : ¬ i < subs'.length := by omega
            simp -dsimp [I, S, Tt, set_ne, nn1, n1n, hL3, hL4, hL3', hL4', hi, hi3, hi4, c8', tmO]
            exact pcq rfl (fr _ _)
         ·have d8 : ((subs.length : Int) == subs'.length) = false := by rw [beq_eq_false_iff_ne]; omega
          have d8' : ((subs.length : Int) != subs'.length) = true := by rw [bne_iff_ne]; omega
          rw [hno (fun h => c8 (by rw [h.2.2.2.2.2.2.2]))]
          simp -dsimp [I, S, Tt, set_ne, nn1, n1n, hL3, hL4, hL3', hL4', c7', d8, d8']
          exact pcq rfl (fr _ _)
        ·have d7 : ((types.length : Int) == types'.length) = false := by rw [beq_eq_false_iff_ne]; omega
         have d7' : ((types.length : Int) != types'.length) = true := by rw [bne_iff_ne]; omega
         rw [hno (fun h => c7 (by rw [h.2.2.2.2.2.2.1]))]
         simp -dsimp [I, S, Tt, set_ne, nn1, n1n, hL3, hL4, hL3', hL4', d7, d7']
         exact pcq rfl (fr _ _)
       ·have d6 : decide (vars = vars') = false := by simpa using c6
        rw [hno (fun h => c6 h.2.2.2.2.2.1), d6]
        simp -dsimp [I, S, Tt, set_ne, nn1, n1n]
        exact pcq rfl (fr _ _)
      ·have d5 : decide (names = names') = false := by simpa using c5
       rw [hno (fun h => c5 h.2.2.2.2.1), d5]
       simp -dsimp [I, S, Tt, set_ne, nn1, n1n]
       exact pcq rfl (fr _ _)
     ·have d4 : (name == name') = false := by simpa using c4
      rw [hno (fun h => c4 h.2.2.2.1)]
      simp -dsimp [I, S, Tt, set_ne, nn1, n1n, d4]
      exact pcq rfl (fr _ _)
    ·have d3 : (mod == mod') = false := by simpa using c3
     rw [hno (fun h => c3 h.2.2.1)]
     simp -dsimp [I, S, Tt, set_ne, nn1, n1n, d3]
     exact pcq rfl (fr _ _)
   ·have d2 : (num != num') = true := by simpa using c2
    rw [hno (fun h => c2 h.2.1)]
    simp -dsimp [I, S, Tt, set_ne, nn1, n1n, c2, d2]
    exact pcq rfl (fr _ _)
  ·have d1 : (kind != kind') = true := by simpa using c1
   rw [hno (fun h => c1 h.1)]
   simp -dsimp [I, S, Tt, set_ne, nn1, n1n, c1, d1]
   exact pcq rfl (fr _ _)
end Go.Proofs.Mv.App
open Go Go.Proofs Go.Proofs.Mv.V
set_option maxRecDepth 10000
namespace Go.Proofs.Mv.App
mutual
def deepTm : Tm → Nat
 | .mk _ _ _ _ _ _ _ subs => deepTms subs + 1
def deepTms : List Tm → Nat
 | [] => 0
 | t :: ts => max (deepTm t) (deepTms ts)
end
theorem manyTms_append : ∀ (l r : List Tm), manyTms (l ++ r) = manyTms l + manyTms r
 | [], r => by simp [manyTms]
 | t :: ts, r => by simp only [List.cons_append, manyTms, manyTms_append ts r]; omega
theorem manyTms_snoc (l : List Tm) (x : Tm) : manyTms (l ++ [x]) = manyTms l + manyTm x := by rw [manyTms_append]; simp [manyTms]
theorem manyTms_take (l : List Tm) (i : Nat) : manyTms (l.take i) ≤ manyTms l := by
 have := manyTms_append (l.take i) (l.drop i); rw [List.take_append_drop] at this; omega
theorem deepTms_append : ∀ (l r : List Tm), deepTms (l ++ r) = max (deepTms l) (deepTms r)
 | [], r => by simp [deepTms]
 | t :: ts, r => by simp only [List.cons_append, deepTms, deepTms_append ts r]; omega
theorem deepTms_snoc (l : List Tm) (x : Tm) : deepTms (l ++ [x]) = max (deepTms l) (deepTm x) := by rw [deepTms_append]; simp [deepTms]
variable [GI]
end Go.Proofs.Mv.App
open Go Go.Proofs Go.Proofs.Mv.V
namespace Go.Proofs.Mv.App
def stepOk (g : Bool) (l : List (List UInt8)) (i : Nat) : Bool := namOk g (l.getD i []) && (decide (i = 0) || ltB (l.getD (i - 1) []) (l.getD i []))
def risingN (g : Bool) (l : List (List UInt8)) : Bool := (List.range l.length).all (stepOk g l)
def emptyT (t : Ty) : Bool := decide (t.pkg = []) && decide (t.major = 0) && decide (t.mod = []) && decide (t.name = [])
def shapeK (t : Ty) : Bool :=
 let n := t.subs.length
 let k := t.names.length
 if t.kind = 1 ∨ t.kind = 2 ∨ t.kind = 3 then emptyT t && decide (n = 0) && decide (k = 0)
 else if t.kind = 4 then emptyT t && decide (n = 1) && decide (k = 0)
 else if t.kind = 5 then emptyT t && decide (n = k) && risingN false t.names
 else if t.kind = 6 then emptyT t && decide (1 ≤ n) && decide (n = k) && risingN true t.names
 else if t.kind = 7 then emptyT t && decide (1 ≤ n) && decide (k = 0)
 else if t.kind = 8 then decide (t.pkg = []) && decide (t.major = 0) && decide (n = 0) && decide (k = 0) && greatN t.name && (decide (t.mod = []) || smallN t.mod)
 else if t.kind = 9 then decide (n = 0) && decide (k = 0) && smallN t.pkg && smallN t.mod && greatN t.name && decide (1 ≤ t.major) && decide (t.major ≤ 999999999)
 else false
def shapeT (t : Ty) : Bool := decide (t.subs.length ≤ 20) && shapeK t
mutual
def allT : Ty → Bool
 | .mk a b c d e f subs => shapeT (.mk a b c d e f subs) && allTs subs
def allTs : List Ty → Bool
 | [] => true
 | t :: ts => allT t && allTs ts
end
def mayT (t : Ty) : Bool := allT t && decide (manyT t ≤ 500) && decide (deepT t ≤ 32)
def joinB (sep : List UInt8) : List (List UInt8) → List UInt8
 | [] => []
 | [s] => s
 | s :: r => s ++ sep ++ joinB sep r
def comma : List UInt8 := [44, 32]
def digitsF : Nat → Nat → List UInt8
 | 0, _ => []
 | f + 1, n => if n < 10 then [UInt8.ofNat (48 + n)] else digitsF f (n / 10) ++ [UInt8.ofNat (48 + n % 10)]
def digits (n : Nat) : List UInt8 := digitsF 20 n
mutual
def textT : Ty → List UInt8
 | .mk kind pkg major mod name names subs =>
  if kind = 1 then wInt
  else if kind = 2 then wText
  else if kind = 3 then wBool
  else if kind = 4 then wList ++ [40] ++ joinB comma (textTs names subs) ++ [41]
  else if kind = 5 then [123] ++ joinB comma (textTs names subs) ++ [125]
  else if kind = 6 then [91] ++ joinB comma (textTs names subs) ++ [93]
  else if kind = 7 then [40] ++ joinB comma (textTs [] subs).dropLast ++ [41, 32, 45, 62, 32] ++ (textTs [] subs).getLastD []
  else if kind = 9 then [60] ++ pkg ++ [32] ++ digits major.toNat ++ [32] ++ mod ++ [32] ++ name ++ [62]
  else if mod = [] then name else mod ++ [46] ++ name
def textTs : List (List UInt8) → List Ty → List (List UInt8)
 | _, [] => []
 | [], t :: ts => textT t :: textTs [] ts
 | n :: ns, t :: ts => (n ++ [58, 32] ++ textT t) :: textTs ns ts
end
theorem allTs_eq : ∀ l : List Ty, allTs l = l.all allT
 | [] => by simp [allTs]
 | t :: ts => by simp [allTs, allTs_eq ts]
theorem allT_eq (t : Ty) : allT t = (shapeT t && t.subs.all allT) := by cases t; simp [allT, allTs_eq, Ty.subs]
theorem textTs_len : ∀ (ns : List (List UInt8)) (l : List Ty), (textTs ns l).length = l.length
 | _, [] => by simp [textTs]
 | [], t :: ts => by simp [textTs, textTs_len [] ts]
 | n :: ns, t :: ts => by simp [textTs, textTs_len ns ts]
theorem textTs_nil : ∀ (l : List Ty), textTs [] l = l.map textT
 | [] => by simp [textTs]
 | t :: ts => by simp [textTs, textTs_nil ts]
theorem textTs_get : ∀ (ns : List (List UInt8)) (l : List Ty) (i : Nat) (h : i < l.length) (h' : i < ns.length), (textTs ns l)[i]? = some (ns[i] ++ [58, 32] ++ textT l[i])
 | n :: ns, t :: ts, 0, _, _ => by simp [textTs]
 | n :: ns, t :: ts, i + 1, h, h' => by
  simp only [textTs, List.getElem?_cons_succ, List.getElem_cons_succ]
  exact textTs_get ns ts i (by simpa using h) (by simpa using h')
end Go.Proofs.Mv.App
