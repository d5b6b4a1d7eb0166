/- A part of the proofs: machine, contracts, laws. No condition of its own. -/
import Derived.Test.YtihbegkefjjhpaaGreatDoorP01
import Derived.WalkKit
import Derived.LaidEql
import Derived.Stop.Asserts
import Derived.RowKitTokens
import Derived.Test.YtihbegkefjjhpaaGreatDoorFact
import Derived.Test.YtihbegkefjjhpaaGreatDoorMvD
import Derived.Lib.ItoaNum
set_option linter.unusedSimpArgs false
set_option linter.unusedVariables false
set_option linter.unusedSectionVars false
open Go Go.Proofs Go.Proofs.Mv.V
set_option maxRecDepth 10000
namespace Go.Proofs.Mv.App
variable [GI]
theorem cRTexts {a : List (List UInt8)} (ha : a.length ≤ 9223372036854775807) (b : List (List UInt8)) : Pc Tryz.prog 32 [sl1 a, sl1 b] (Tt (decide (a = b))) := by
  refine pc_of (pur_T _) (fun m n => ?_)
  have hL1 : (a.map fun s => [S s]).length = a.length := by simp
  have hG1 : ∀ i (h : i < a.length), (a.map fun s => [S s])[i]? = some [S a[i]] := fun i h => by simp [h]
  have hL2 : (b.map fun s => [S s]).length = b.length := by simp
  have hG2 : ∀ i (h : i < b.length), (b.map fun s => [S s])[i]? = some [S b[i]] := fun i h => by simp [h]
  have hno : ¬ a = b → decide (a = b) = false := fun h => by simpa using h
  have hyes : a = b → decide (a = b) = true := fun h => by simpa using h
  generalize decide (a = b) = R at hno hyes
  simp only [sl1]
  generalize (a.map fun s => [S s]) = NL at hL1 hG1
  generalize (b.map fun s => [S s]) = ML at hL2 hG2
  refine acalls_vc [0, 1, 4, 5, 10, 14, 25] Tryz.func32 Tryz.ntmps32 (by kernel_rfl) rfl rfl (by simp) ?_
  by_cases c : a.length = b.length
  · have c' : ((a.length : Int) == b.length) = true := by rw [beq_iff_eq]; omega
    have c2 : ((a.length : Int) != b.length) = false := by rw [bne_eq_false_iff_eq]; omega
    simp -dsimp [I, S, Tt, hL1, hL2, c', c2]
    refine vloop_as (β := Nat) (fun i => [(0, .sl 1 NL), (1, .sl 1 ML), (5, I i)]) (fun i m2 n2 => m2 = m ∧ n2 = n ∧ i ≤ a.length ∧ a.take i = b.take i) (fun i => a.length - i) 0 (by simp [I]) ⟨rfl, rfl, by omega, by simp⟩ ?_
    rintro i m2 n2 ⟨rfl, rfl, le, heq⟩
    by_cases hi : (i : Int) < a.length
    · have hi' : i < a.length := by omega
      have hi2 : i < b.length := by omega
      have hi3 : (i : Int) < b.length := by omega
      have wi : IntKind.i64.wrap ((i : Int) + 1) = (i : Int) + 1 := wrap_i64 (by omega) (by omega)
      have hiN : i < NL.length := by omega
      have hgi : NL[i] = [S a[i]] := get_opt (hG1 i hi') hiN
      have hiN' : i < ML.length := by omega
      have hgi' : ML[i] = [S b[i]] := get_opt (hG2 i hi2) hiN'
      simp -dsimp [I, S, Tt, hL1, hL2, hi, hi', hi2, hi3]
      refine vdraw_of [0, 0, 3, 7, 0, 0, 48, 112, 255] [0, 1, 2, 3, 4, 5, 6, 7, 8] (by kernel_rfl) (by kernel_rfl) ?_
      by_cases ce : a[i] = b[i]
      · have ce' : (a[i] == b[i]) = true := by simpa using ce
        simp -dsimp [I, S, Tt, hL1, hL2, hi, hi', hi2, hi3, hiN, hgi, hiN', hgi', wi, ce']
        refine rnd (i + 1) (by omega) (by simp [I]) ⟨rfl, rfl, by omega, ?_⟩
        rw [List.take_succ_eq_append_getElem hi', List.take_succ_eq_append_getElem hi2, heq, ce]
      · have ce' : (a[i] == b[i]) = false := by simpa using ce
        rw [hno (fun h => ce (by subst h; rfl))]
        simp -dsimp [I, S, Tt, hL1, hL2, hi, hi', hi2, hi3, hiN, hgi, hiN', hgi', wi, ce']
        exact pcq' rfl
    · have e1 : a.take i = a := List.take_of_length_le (by omega)
      have e2 : b.take i = b := List.take_of_length_le (by omega)
      rw [e1, e2] at heq
      rw [hyes heq]
      simp -dsimp [I, S, Tt, hL1, hL2, hi]
      exact pcq' rfl
  · have c' : ((a.length : Int) == b.length) = false := by rw [beq_eq_false_iff_ne]; omega
    have c2 : ((a.length : Int) != b.length) = true := by rw [bne_iff_ne]; omega
    rw [hno (fun h => c (by rw [h]))]
    simp -dsimp [I, S, Tt, hL1, hL2, c', c2]
    exact pcq' rfl
end Go.Proofs.Mv.App
open Go Go.Proofs Go.Proofs.Mv.V
set_option maxRecDepth 10000
namespace Go.Proofs.Mv.App
mutual
def sameTm : Tm → Tm → Bool
  | .mk k u m n ns vs ts ss, .mk k' u' m' n' ns' vs' ts' ss' => decide (k = k') && decide (u = u') && decide (m = m') && decide (n = n') && decide (ns = ns') && decide (vs = vs') && decide (ts = ts') && sameTms ss ss'
def sameTms : List Tm → List Tm → Bool
  | [], [] => true
  | a :: l, b :: r => sameTm a b && sameTms l r
  | [], _ :: _ => false
  | _ :: _, [] => false
end
mutual
theorem sameTm_iff : ∀ a b : Tm, sameTm a b = true ↔ a = b
  | .mk k u m n ns vs ts ss, .mk k' u' m' n' ns' vs' ts' ss' => by
    simp only [sameTm, Bool.and_eq_true, decide_eq_true_eq, sameTms_iff ss ss', Tm.mk.injEq, and_assoc]
theorem sameTms_iff : ∀ a b : List Tm, sameTms a b = true ↔ a = b
  | [], [] => by simp [sameTms]
  | a :: l, b :: r => by simp only [sameTms, Bool.and_eq_true, sameTm_iff a b, sameTms_iff l r, List.cons.injEq]
  | [], _ :: _ => by simp [sameTms]
  | _ :: _, [] => by simp [sameTms]
end
instance : DecidableEq Tm := fun a b => decidable_of_iff (sameTm a b = true) (sameTm_iff a b)
variable [GI]
set_option maxHeartbeats 4000000 in
theorem cRSameTm {a : Tm} (ha : TmW a) : ∀ {b : Tm}, Pc Tryz.prog 11 [.agg (tmD a), .agg (tmD b)] (Tt (sameTm a b)) := by
  induction ha with
  | mk kind num mod name names vars types subs l1 l2 l3 l4 l5 l6 l7 l8 l9 l10 ih =>
    intro b
    obtain ⟨kind', num', mod', name', names', vars', types', subs'⟩ := b
    refine pc_of (pur_T _) (fun m n => ?_)
    have nn1 : n ≠ n + 1 := by omega
    have n1n : n + 1 ≠ n := by omega
    have fr : ∀ o o' j, j < n → ((m.set n o).set (n + 1) o') j = m j := fun o o' j hj => by rw [set_ne _ _ _ _ (by omega), set_ne _ _ _ _ (by omega)]
    have cN := cRTexts l1 names'
    have cV := cRTexts l2 vars'
    have hL3 : (types.map tyD).length = types.length := by simp
    have hG3 : ∀ i (h : i < types.length), (types.map tyD)[i]? = some (tyD types[i]) := fun i h => by simp [h]
    have hL3' : (types'.map tyD).length = types'.length := by simp
    have hG3' : ∀ i (h : i < types'.length), (types'.map tyD)[i]? = some (tyD types'[i]) := fun i h => by simp [h]
    have hL4 : (subs.map tmD).length = subs.length := by simp
    have hG4 : ∀ i (h : i < subs.length), (subs.map tmD)[i]? = some (tmD subs[i]) := fun i h => by simp [h]
    have hL4' : (subs'.map tmD).length = subs'.length := by simp
    have hG4' : ∀ i (h : i < subs'.length), (subs'.map tmD)[i]? = some (tmD subs'[i]) := fun i h => by simp [h]
    have hno : ¬ (kind = kind' ∧ num = num' ∧ mod = mod' ∧ name = name' ∧ names = names' ∧ vars = vars' ∧ types = types' ∧ subs = subs') → sameTm (.mk kind num mod name names vars types subs) (.mk kind' num' mod' name' names' vars' types' subs') = false := fun h => by
      cases e : sameTm (.mk kind num mod name names vars types subs) (.mk kind' num' mod' name' names' vars' types' subs')
      · rfl
      · exact absurd (by simpa using (sameTm_iff _ _).1 e) h
    have hyes : (kind = kind' ∧ num = num' ∧ mod = mod' ∧ name = name' ∧ names = names' ∧ vars = vars' ∧ types = types' ∧ subs = subs') → sameTm (.mk kind num mod name names vars types subs) (.mk kind' num' mod' name' names' vars' types' subs') = true := fun h => by
      rw [sameTm_iff]; simpa using h
    generalize sameTm (.mk kind num mod name names vars types subs) (.mk kind' num' mod' name' names' vars' types' subs') = R at hno hyes
    simp only [tmD, tmsD_eq]
    simp only [sl1] at cN cV ⊢
    generalize (names.map fun s => [S s]) = NL at cN
    generalize (names'.map fun s => [S s]) = NL' at cN
    generalize (vars.map fun s => [S s]) = VL at cV
    generalize (vars'.map fun s => [S s]) = VL' at cV
    generalize types.map tyD = YL at hL3 hG3
    generalize types'.map tyD = YL' at hL3' hG3'
    generalize subs.map tmD = SL at hL4 hG4
    generalize subs'.map tmD = SL' at hL4' hG4'
    refine acalls_vc [0, 1, 2, 3, 4, 5, 6, 7, 8, 9, 10, 72, 77, 92, 97, 112] Tryz.func11 Tryz.ntmps11 (by kernel_rfl) rfl rfl (by simp) ?_
    simp -dsimp [I, S, Tt, set_ne, nn1, n1n]
    refine pcall cN ?_
    simp -dsimp [I, S, Tt, set_ne, nn1, n1n]
    refine pcall cV ?_
    by_cases c1 : kind = kind'
    · subst c1
      by_cases c2 : num = num'
      · subst c2
        by_cases c3 : mod = mod'
        · subst c3
          by_cases c4 : name = name'
          · subst c4
            by_cases c5 : names = names'
            · subst c5
              by_cases c6 : vars = vars'
              · subst c6
                by_cases c7 : types.length = types'.length
                · have c7' : (types.length : Int) = types'.length := by omega
                  by_cases c8 : subs.length = subs'.length
                  · have c8' : (subs.length : Int) = subs'.length := by omega
                    simp -dsimp [I, S, Tt, set_ne, nn1, n1n, hL3, hL4, hL3', hL4', c7', c8']
                    refine vloop_as (β := Nat) (fun i => [(2, .ptr n 0 0 0), (3, .ptr (n + 1) 0 0 0), (7, I i)]) (fun i m2 n2 => m2 = (m.set n (tmO kind num mod name NL VL YL SL)).set (n + 1) (tmO kind num mod name NL' VL' YL' SL') ∧ n2 = n + 1 + 1 ∧ i ≤ types.length ∧ types.take i = types'.take i) (fun i => types.length - i) 0 (by simp [I]) ⟨rfl, rfl, by omega, by simp⟩ ?_
                    rintro i m2 n2 ⟨rfl, rfl, le, heq⟩
                    by_cases hi : (i : Int) < types.length
                    · have hi' : i < types.length := by omega
                      have hi2 : i < types'.length := by omega
                      have hi3 : (i : Int) < types'.length := by omega
                      have wi : IntKind.i64.wrap ((i : Int) + 1) = (i : Int) + 1 := wrap_i64 (by omega) (by omega)
                      have hiN : i < YL.length := by omega
                      have hgi : YL[i] = tyD types[i] := get_opt (hG3 i hi') hiN
                      have hiN' : i < YL'.length := by omega
                      have hgi' : YL'[i] = tyD types'[i] := get_opt (hG3' i hi2) hiN'
                      simp -dsimp [I, S, Tt, set_ne, nn1, n1n, hL3, hL4, hL3', hL4', hi, hi', hi2, hi3, c7', tmO]
                      refine vdraw_of [0, 1, 0, 7, 15, 0, 32, 0, 224, 480, 1023, 2047] [0, 1, 2, 3, 4, 5, 6, 7, 8, 9, 10, 11] (by kernel_rfl) (by kernel_rfl) ?_
                      simp -dsimp [I, S, Tt, set_ne, nn1, n1n, hL3, hL4, hL3', hL4', hi, hi', hi2, hi3, hiN, hgi, hiN', hgi', wi, c7']
                      refine pcall (cSameT (l9 _ (List.getElem_mem hi')) (b := types'[i])) ?_
                      cases ce : sameT types[i] types'[i]
                      · rw [hno (fun h => by
                          have h2 := h.2.2.2.2.2.2.1
                          subst h2
                          rw [(sameT_iff _ _).2 rfl] at ce; cases ce)]
                        simp -dsimp [I, S, Tt, set_ne, nn1, n1n]
                        exact pcq rfl (fr _ _)
                      · simp -dsimp [I, S, Tt, set_ne, nn1, n1n, wi]
                        refine rnd (i + 1) (by omega) (by simp [I]) ⟨rfl, rfl, by omega, ?_⟩
                        rw [List.take_succ_eq_append_getElem hi', List.take_succ_eq_append_getElem hi2, heq, (sameT_iff _ _).1 ce]
                    · have e1 : types.take i = types := List.take_of_length_le (by omega)
                      have e2 : types'.take i = types' := List.take_of_length_le (by omega)
                      rw [e1, e2] at heq
                      have hi3 : ¬ (i : Int) < types'.length := by omega
                      have hi4 : ¬ i < types'.length := by omega
                      simp -dsimp [I, S, Tt, set_ne, nn1, n1n, hL3, hL4, hL3', hL4', hi, hi3, hi4, c7', tmO]
                      refine vloop_as (β := Nat) (fun i => [(2, .ptr n 0 0 0), (3, .ptr (n + 1) 0 0 0), (9, I i)]) (fun i m2 n2 => m2 = (m.set n (tmO kind num mod name NL VL YL SL)).set (n + 1) (tmO kind num mod name NL' VL' YL' SL') ∧ n2 = n + 1 + 1 ∧ i ≤ subs.length ∧ subs.take i = subs'.take i) (fun i => subs.length - i) 0 (by simp [I]) ⟨rfl, rfl, by omega, by simp⟩ ?_
                      rintro i m2 n2 ⟨rfl, rfl, le, heq2⟩
                      by_cases hi : (i : Int) < subs.length
                      · have hi' : i < subs.length := by omega
                        have hi2 : i < subs'.length := by omega
                        have hi3 : (i : Int) < subs'.length := by omega
                        have wi : IntKind.i64.wrap ((i : Int) + 1) = (i : Int) + 1 := wrap_i64 (by omega) (by omega)
                        have hiN : i < SL.length := by omega
                        have hgi : SL[i] = tmD subs[i] := get_opt (hG4 i hi') hiN
                        have hiN' : i < SL'.length := by omega
                        have hgi' : SL'[i] = tmD subs'[i] := get_opt (hG4' i hi2) hiN'
                        simp -dsimp [I, S, Tt, set_ne, nn1, n1n, hL3, hL4, hL3', hL4', hi, hi', hi2, hi3, c8', tmO]
                        refine vdraw_of [0, 1, 0, 7, 15, 0, 32, 0, 224, 480, 1023, 2047] [0, 1, 2, 3, 4, 5, 6, 7, 8, 9, 10, 11] (by kernel_rfl) (by kernel_rfl) ?_
                        simp -dsimp [I, S, Tt, set_ne, nn1, n1n, hL3, hL4, hL3', hL4', hi, hi', hi2, hi3, hiN, hgi, hiN', hgi', wi, c8']
                        refine pcall (ih subs[i] (List.getElem_mem hi') (b := subs'[i])) ?_
                        cases ce : sameTm subs[i] subs'[i]
                        · rw [hno (fun h => by
                            have h2 := h.2.2.2.2.2.2.2
                            subst h2
                            rw [(sameTm_iff _ _).2 rfl] at ce; cases ce)]
                          simp -dsimp [I, S, Tt, set_ne, nn1, n1n]
                          exact pcq rfl (fr _ _)
                        · simp -dsimp [I, S, Tt, set_ne, nn1, n1n, wi]
                          refine rnd (i + 1) (by omega) (by simp [I]) ⟨rfl, rfl, by omega, ?_⟩
                          rw [List.take_succ_eq_append_getElem hi', List.take_succ_eq_append_getElem hi2, heq2, (sameTm_iff _ _).1 ce]
                      · have e1 : subs.take i = subs := List.take_of_length_le (by omega)
                        have e2 : subs'.take i = subs' := List.take_of_length_le (by omega)
                        rw [e1, e2] at heq2
                        rw [hyes ⟨rfl, rfl, rfl, rfl, rfl, rfl, heq, heq2⟩]
                        have hi3 : ¬ (i : Int) < subs'.length := by omega
                        have hi4 : ¬ i < subs'.length := by omega
                        simp -dsimp [I, S, Tt, set_ne, nn1, n1n, hL3, hL4, hL3', hL4', hi, hi3, hi4, c8', tmO]
                        exact pcq rfl (fr _ _)
                  · have d8 : ((subs.length : Int) == subs'.length) = false := by rw [beq_eq_false_iff_ne]; omega
                    have d8' : ((subs.length : Int) != subs'.length) = true := by rw [bne_iff_ne]; omega
                    rw [hno (fun h => c8 (by rw [h.2.2.2.2.2.2.2]))]
                    simp -dsimp [I, S, Tt, set_ne, nn1, n1n, hL3, hL4, hL3', hL4', c7', d8, d8']
                    exact pcq rfl (fr _ _)
                · have d7 : ((types.length : Int) == types'.length) = false := by rw [beq_eq_false_iff_ne]; omega
                  have d7' : ((types.length : Int) != types'.length) = true := by rw [bne_iff_ne]; omega
                  rw [hno (fun h => c7 (by rw [h.2.2.2.2.2.2.1]))]
                  simp -dsimp [I, S, Tt, set_ne, nn1, n1n, hL3, hL4, hL3', hL4', d7, d7']
                  exact pcq rfl (fr _ _)
              · have d6 : decide (vars = vars') = false := by simpa using c6
                rw [hno (fun h => c6 h.2.2.2.2.2.1), d6]
                simp -dsimp [I, S, Tt, set_ne, nn1, n1n]
                exact pcq rfl (fr _ _)
            · have d5 : decide (names = names') = false := by simpa using c5
              rw [hno (fun h => c5 h.2.2.2.2.1), d5]
              simp -dsimp [I, S, Tt, set_ne, nn1, n1n]
              exact pcq rfl (fr _ _)
          · have d4 : (name == name') = false := by simpa using c4
            rw [hno (fun h => c4 h.2.2.2.1)]
            simp -dsimp [I, S, Tt, set_ne, nn1, n1n, d4]
            exact pcq rfl (fr _ _)
        · have d3 : (mod == mod') = false := by simpa using c3
          rw [hno (fun h => c3 h.2.2.1)]
          simp -dsimp [I, S, Tt, set_ne, nn1, n1n, d3]
          exact pcq rfl (fr _ _)
      · have d2 : (num != num') = true := by simpa using c2
        rw [hno (fun h => c2 h.2.1)]
        simp -dsimp [I, S, Tt, set_ne, nn1, n1n, c2, d2]
        exact pcq rfl (fr _ _)
    · have d1 : (kind != kind') = true := by simpa using c1
      rw [hno (fun h => c1 h.1)]
      simp -dsimp [I, S, Tt, set_ne, nn1, n1n, c1, d1]
      exact pcq rfl (fr _ _)
end Go.Proofs.Mv.App
open Go Go.Proofs Go.Proofs.Mv.V
set_option maxRecDepth 10000
namespace Go.Proofs.Mv.App
mutual
def deepTm : Tm → Nat
  | .mk _ _ _ _ _ _ _ subs => deepTms subs + 1
def deepTms : List Tm → Nat
  | [] => 0
  | t :: ts => max (deepTm t) (deepTms ts)
end
theorem manyTms_append : ∀ (l r : List Tm), manyTms (l ++ r) = manyTms l + manyTms r
  | [], r => by simp [manyTms]
  | t :: ts, r => by simp only [List.cons_append, manyTms, manyTms_append ts r]; omega
theorem manyTms_snoc (l : List Tm) (x : Tm) : manyTms (l ++ [x]) = manyTms l + manyTm x := by rw [manyTms_append]; simp [manyTms]
theorem manyTms_take (l : List Tm) (i : Nat) : manyTms (l.take i) ≤ manyTms l := by
  have := manyTms_append (l.take i) (l.drop i); rw [List.take_append_drop] at this; omega
theorem manyTms_pre (l : List Tm) {i : Nat} (h : i < l.length) : manyTms (l.take i) + manyTm l[i] ≤ manyTms l := by
  rw [← manyTms_snoc, ← take_snoc h]; exact manyTms_take l (i + 1)
theorem deepTms_append : ∀ (l r : List Tm), deepTms (l ++ r) = max (deepTms l) (deepTms r)
  | [], r => by simp [deepTms]
  | t :: ts, r => by simp only [List.cons_append, deepTms, deepTms_append ts r]; omega
theorem deepTms_snoc (l : List Tm) (x : Tm) : deepTms (l ++ [x]) = max (deepTms l) (deepTm x) := by rw [deepTms_append]; simp [deepTms]
mutual
theorem deep_manyTm : ∀ t : Tm, deepTm t ≤ manyTm t
  | .mk _ _ _ _ _ _ _ subs => by simp only [deepTm, manyTm]; have := deeps_manyTms subs; omega
theorem deeps_manyTms : ∀ l : List Tm, deepTms l ≤ manyTms l
  | [] => by simp [deepTms]
  | t :: ts => by simp only [deepTms, manyTms]; have := deep_manyTm t; have := deeps_manyTms ts; omega
end
variable [GI]
set_option maxHeartbeats 1000000 in
theorem cRManyTm {t : Tm} (ht : TmW t) : manyTm t ≤ 1000000 → Pc Tryz.prog 37 [.agg (tmD t)] (I (manyTm t)) := by
  induction ht with
  | mk kind num mod name names vars types subs l1 l2 l3 l4 l5 l6 l7 l8 l9 l10 ih =>
    intro hbig
    simp only [manyTm] at hbig
    refine pc_of (pur_I _) (fun m n => ?_)
    have fr : ∀ o j, j < n → (m.set n o) j = m j := fun o j hj => by rw [set_ne _ _ _ _ (by omega)]
    have hL4 : (subs.map tmD).length = subs.length := by simp
    have hG4 : ∀ i (h : i < subs.length), (subs.map tmD)[i]? = some (tmD subs[i]) := fun i h => by simp [h]
    simp only [tmD, sl1, tmsD_eq, manyTm]
    generalize (names.map fun s => [S s]) = NL
    generalize (vars.map fun s => [S s]) = VL
    generalize types.map tyD = YL
    generalize subs.map tmD = SL at hL4 hG4
    refine acalls_vc [0, 1, 2, 3, 4, 9] Tryz.func37 Tryz.ntmps37 (by kernel_rfl) rfl rfl (by simp) ?_
    simp -dsimp [I]
    refine vloop_as (β := Nat) (fun i => [(1, .ptr n 0 0 0), (3, I (1 + manyTms (subs.take i))), (4, I i)]) (fun i m2 n2 => m2 = m.set n (tmO kind num mod name NL VL YL SL) ∧ n2 = n + 1 ∧ i ≤ subs.length) (fun i => subs.length - i) 0 (by simp [I, manyTms]) ⟨rfl, rfl, by omega⟩ ?_
    rintro i m2 n2 ⟨rfl, rfl, le⟩
    by_cases hi : (i : Int) < subs.length
    · have hi' : i < subs.length := by omega
      have wi : IntKind.i64.wrap ((i : Int) + 1) = (i : Int) + 1 := wrap_i64 (by omega) (by omega)
      have hiN : i < SL.length := by omega
      have hgi : SL[i] = tmD subs[i] := get_opt (hG4 i hi') hiN
      have hp := manyTms_pre subs hi'
      have hsn := manyTms_snoc (subs.take i) subs[i]
      rw [← take_snoc hi'] at hsn
      generalize manyTms (subs.take i) = q at hp hsn
      have ws : IntKind.i64.wrap ((1 : Int) + q + manyTm subs[i]) = (1 : Int) + q + manyTm subs[i] := wrap_i64 (by omega) (by omega)
      simp -dsimp [I, hL4, hi, hi', hiN, hgi, tmO]
      refine pcall (ih subs[i] (List.getElem_mem hi') (by omega)) ?_
      simp -dsimp [I, wi, ws]
      exact rnd (i + 1) (by omega) (by simp [I, hsn]; omega) ⟨rfl, rfl, by omega⟩
    · have : subs.take i = subs := List.take_of_length_le (by omega)
      rw [this]
      simp -dsimp [I, hL4, hi, tmO]
      exact pcq (by simp [I]) (fr _)
set_option maxHeartbeats 1000000 in
theorem cRDeepTm {t : Tm} (ht : TmW t) : manyTm t ≤ 1000000 → Pc Tryz.prog 38 [.agg (tmD t)] (I (deepTm t)) := by
  induction ht with
  | mk kind num mod name names vars types subs l1 l2 l3 l4 l5 l6 l7 l8 l9 l10 ih =>
    intro hbig
    simp only [manyTm] at hbig
    refine pc_of (pur_I _) (fun m n => ?_)
    have fr : ∀ o j, j < n → (m.set n o) j = m j := fun o j hj => by rw [set_ne _ _ _ _ (by omega)]
    have hL4 : (subs.map tmD).length = subs.length := by simp
    have hG4 : ∀ i (h : i < subs.length), (subs.map tmD)[i]? = some (tmD subs[i]) := fun i h => by simp [h]
    have hdm := deeps_manyTms subs
    simp only [tmD, sl1, tmsD_eq, deepTm]
    generalize (names.map fun s => [S s]) = NL
    generalize (vars.map fun s => [S s]) = VL
    generalize types.map tyD = YL
    generalize subs.map tmD = SL at hL4 hG4
    refine acalls_vc [0, 1, 2, 3, 4, 5, 10, 21] Tryz.func38 Tryz.ntmps38 (by kernel_rfl) rfl rfl (by simp) ?_
    simp -dsimp [I]
    refine vloop_as (β := Nat) (fun i => [(1, .ptr n 0 0 0), (3, I (deepTms (subs.take i))), (4, I i)]) (fun i m2 n2 => m2 = m.set n (tmO kind num mod name NL VL YL SL) ∧ n2 = n + 1 ∧ i ≤ subs.length) (fun i => subs.length - i) 0 (by simp [I, deepTms]) ⟨rfl, rfl, by omega⟩ ?_
    rintro i m2 n2 ⟨rfl, rfl, le⟩
    by_cases hi : (i : Int) < subs.length
    · have hi' : i < subs.length := by omega
      have wi : IntKind.i64.wrap ((i : Int) + 1) = (i : Int) + 1 := wrap_i64 (by omega) (by omega)
      have hiN : i < SL.length := by omega
      have hgi : SL[i] = tmD subs[i] := get_opt (hG4 i hi') hiN
      have hp := manyTms_pre subs hi'
      have hsn := deepTms_snoc (subs.take i) subs[i]
      rw [← take_snoc hi'] at hsn
      generalize deepTms (subs.take i) = q at hsn
      simp -dsimp [I, hL4, hi, hi', hiN, hgi, tmO]
      refine pcall (ih subs[i] (List.getElem_mem hi') (by omega)) ?_
      by_cases c : (q : Int) < deepTm subs[i]
      · have c' : q < deepTm subs[i] := by omega
        simp -dsimp [I, wi, c, c']
        exact rnd (i + 1) (by omega) (by simp [I, hsn]; omega) ⟨rfl, rfl, by omega⟩
      · have c' : ¬ q < deepTm subs[i] := by omega
        simp -dsimp [I, wi, c, c']
        exact rnd (i + 1) (by omega) (by simp [I, hsn]; omega) ⟨rfl, rfl, by omega⟩
    · have : subs.take i = subs := List.take_of_length_le (by omega)
      rw [this]
      have ws : IntKind.i64.wrap ((deepTms subs : Int) + 1) = (deepTms subs : Int) + 1 := wrap_i64 (by omega) (by omega)
      simp -dsimp [I, hL4, hi, tmO, ws]
      exact pcq (by simp [I]) (fr _)
end Go.Proofs.Mv.App
namespace Go.Proofs.Mv.V
open Go.RowKit Go.Extern.Stop Go.Stop Go.Extern Go

abbrev tyHandle (t : Nat) : Value := .pointer (some ⟨7, t, none⟩)
abbrev tyErr : Value := .iface 138 (.agg #[tyHandle 31])
theorem ia_valueOf2 (t : Addr) (w : World) : (ReflectliteValue.unpack (.iface 74 (.pointer (some t)))).run Tryz.prog w
    = .ok (.agg #[tyHandle 74, .pointer (some ⟨w.heap.size, 0, none⟩), .int .u64 150]) (w.alloc (.cells #[.pointer (some t)] 74)) := by kernel_rfl
theorem ia_type2 (a : Addr) (w : World) : (ReflectliteValue.methodAny (ReflectliteValue.valueError "reflectlite.Value.Type" 0) (fun t _ _ _ => ReflectliteType.toType t) #[.agg #[tyHandle 74, .pointer (some a), .int .u64 150]]).run Tryz.prog w
    = .ok (.iface 138 (.agg #[tyHandle 74])) w := by kernel_rfl
theorem ia_methodKind (h : Value) (w : World) : (Go.method 396 138 (.agg #[h]) "Kind").run Tryz.prog w = .ok (279, h) w := by kernel_rfl
theorem ia_kind2 (w : World) : ((ReflectliteType.abiMethod fun t => (fun a : Nat => Value.int IntKind.u8 (a : Int)) <$> Rtype.kind t) #[tyHandle 74]).run Tryz.prog w = .ok (.int .u8 22) w := by kernel_rfl
theorem ia_kind1 (w : World) : ((ReflectliteType.abiMethod fun t => (fun a : Nat => Value.int IntKind.u8 (a : Int)) <$> Rtype.kind t) #[tyHandle 62]).run Tryz.prog w = .ok (.int .u8 22) w := by kernel_rfl
theorem ia_rlm (z : Sem Value) (f : TypeId → Addr → Nat → Nat → Sem Value) (v : Value) :
    ReflectliteValue.method z f #[v] = (do match ← ReflectliteValue.parts v with | none => z | some (t, a, fl) => f t a fl (fl % 32)) := rfl
theorem ia_parts2 (a : Addr) (w : World) : (ReflectliteValue.parts (.agg #[tyHandle 74, .pointer (some a), .int .u64 150])).run Tryz.prog w = .ok (some (74, a, 150)) w := by kernel_rfl
theorem ia_isNil2 (a p : Addr) (W : World) (ha : W.cell? a = some (.pointer (some p))) :
    (ReflectliteValue.method (ReflectliteValue.valueError "reflectlite.Value.IsNil" 0) ReflectliteValue.isNil #[.agg #[tyHandle 74, .pointer (some a), .int .u64 150]]).run Tryz.prog W = .ok (.bool false) W := by
  rw [ia_rlm]
  simp only [Sem.run_bind, ia_parts2, Result.andThen]
  simp [ReflectliteValue.isNil, loadVar, isAgg, underlying, Tryz.underlying74, ha, Result.andThen]
theorem ia_methodElem (h : Value) (w : World) : (Go.method 396 138 (.agg #[h]) "Elem").run Tryz.prog w = .ok (291, .agg #[h]) w := by kernel_rfl
theorem ia_methodImplements (h : Value) (w : World) : (Go.method 396 138 (.agg #[h]) "Implements").run Tryz.prog w = .ok (292, .agg #[h]) w := by kernel_rfl
theorem ia_methodAssignableTo (h : Value) (w : World) : (Go.method 396 138 (.agg #[h]) "AssignableTo").run Tryz.prog w = .ok (289, .agg #[h]) w := by kernel_rfl
theorem ia_elem2 (w : World) : (ReflectliteType.method ReflectliteType.elem #[.agg #[tyHandle 74]]).run Tryz.prog w = .ok (.iface 138 (.agg #[tyHandle 62])) w := by kernel_rfl
theorem ia_implements1 (w : World) : (ReflectliteType.relation "Implements" ReflectliteType.implements_ #[.agg #[tyHandle 62], tyErr]).run Tryz.prog w = .ok (.bool true) w := by kernel_rfl
theorem ia_typeOf1 (v : Value) (w : World) : (ReflectliteType.typeOf #[.iface 62 v]).run Tryz.prog w = .ok (.iface 138 (.agg #[tyHandle 62])) w := by kernel_rfl
theorem ia_assignable1 (w : World) : (ReflectliteType.relation "AssignableTo" ReflectliteType.assignableTo #[.agg #[tyHandle 62], .iface 138 (.agg #[tyHandle 62])]).run Tryz.prog w = .ok (.bool true) w := by kernel_rfl
theorem ia_valueOf1 (e : Addr) (w : World) : (ReflectliteValue.unpack (.iface 62 (.pointer (some e)))).run Tryz.prog w
    = .ok (.agg #[tyHandle 62, .pointer (some ⟨w.heap.size, 0, none⟩), .int .u64 150]) (w.alloc (.cells #[.pointer (some e)] 62)) := by kernel_rfl
theorem ia_elemOf2 (w : World) : (Rtype.elem? 74).run Tryz.prog w = .ok (some 62) w := by kernel_rfl
theorem ia_mk1 (p : Addr) (w : World) : (ReflectliteValue.mk 62 p ReflectliteValue.flagAddr).run Tryz.prog w = .ok (.agg #[tyHandle 62, .pointer (some p), .int .u64 406]) w := by kernel_rfl
theorem ia_elemV2 (a p : Addr) (W : World) (ha : W.cell? a = some (.pointer (some p))) :
    (ReflectliteValue.method (ReflectliteValue.valueError "reflectlite.Value.Elem" 0) ReflectliteValue.elem #[.agg #[tyHandle 74, .pointer (some a), .int .u64 150]]).run Tryz.prog W
      = .ok (.agg #[tyHandle 62, .pointer (some p), .int .u64 406]) W := by
  rw [ia_rlm]
  simp only [Sem.run_bind, ia_parts2, Result.andThen]
  simp [ReflectliteValue.elem, loadVar, isAgg, underlying, Tryz.underlying74, ha, Result.andThen, ia_elemOf2, ia_mk1]
theorem ia_rls (v x : Value) : ReflectliteValue.set #[v, x] = (do
    let (some (dst, a, fl), some (src, b, _)) := (← ReflectliteValue.parts v, ← ReflectliteValue.parts x)
      | unsupported (.noEntry "extern/(internal/reflectlite.Value).Set.zeroValue")
    if fl / ReflectliteValue.flagAddr % 2 == 0 then unsupported (.noEntry "extern/(internal/reflectlite.Value).Set.unaddressable")
    let val ← loadVar src b
    if ← Rtype.directlyAssignable dst src then storeVar dst a val
    else if ← Rtype.implements dst src then
      if (← Rtype.kind src) == 20 then
        match val with
        | .nilIface => unsupported (.noEntry "extern/reflectlite: a nil value of one interface type handed on as a value of another")
        | _ => storeVar dst a val
      else storeVar dst a (.iface src val)
    else panicString ("reflectlite.Set: value of type " ++ (← Rtype.spelt src) ++ " is not assignable to type " ++ (← Rtype.spelt dst))
    pure (.tuple #[])) := rfl
theorem ia_parts1a (a : Addr) (w : World) : (ReflectliteValue.parts (.agg #[tyHandle 62, .pointer (some a), .int .u64 406])).run Tryz.prog w = .ok (some (62, a, 406)) w := by kernel_rfl
theorem ia_parts1 (a : Addr) (w : World) : (ReflectliteValue.parts (.agg #[tyHandle 62, .pointer (some a), .int .u64 150])).run Tryz.prog w = .ok (some (62, a, 150)) w := by kernel_rfl
theorem ia_direct1 (w : World) : (Rtype.directlyAssignable 62 62).run Tryz.prog w = .ok true w := by kernel_rfl
theorem ia_set1 (ta b e : Addr) (old : Value) (W : World) (hb : W.cell? b = some (.pointer (some e))) (ht : W.cell? ta = some old) (hf : W.frozen? ta = false) :
    (ReflectliteValue.set #[.agg #[tyHandle 62, .pointer (some ta), .int .u64 406], .agg #[tyHandle 62, .pointer (some b), .int .u64 150]]).run Tryz.prog W
      = .ok (.tuple #[]) (W.setCell ta (.pointer (some e))) := by
  rw [ia_rls]
  simp only [Sem.run_bind, ia_parts1a, ia_parts1, Result.andThen]
  simp [ReflectliteValue.flagAddr, loadVar, isAgg, underlying, Tryz.underlying62, hb, Result.andThen, ia_direct1, storeVar, Value.cells, storeCells, Addr.add]
  rw [run_store Tryz.prog W ta _ _ (by rfl)]
  simp [ht, hf]

set_option maxHeartbeats 4000000 in
theorem as_hit (e t : Addr) (old : Value) (w : World) (hg : w.cell? ⟨0, 0, none⟩ = some tyErr) (ht0 : w.cell? t = some old) (hf0 : w.frozen? t = false) :
    Calls Tryz.prog 51 #[.iface 62 (.pointer (some e)), .iface 74 (.pointer (some t))] w fun ev w' => ev = .returned (.bool true) ∧ w' = ((((w.alloc (.cells #[.pointer (some t)] 74)).alloc (.cells #[tyHandle 74, .pointer (some ⟨w.heap.size, 0, none⟩), .int .u64 150] 105)).alloc (.cells #[tyHandle 74, .pointer (some ⟨w.heap.size, 0, none⟩), .int .u64 150] 105)).alloc (.cells #[.pointer (some e)] 62)).setCell t (.pointer (some e)) := by
  have h6 := @run_callFunc_extern Tryz.prog 85 _ (fun args => ReflectliteValue.unpack (args.getD 0 (.tuple #[]))) Tryz.func85 (by kernel_rfl) (by kernel_rfl) (by kernel_rfl) (by kernel_rfl)
  have h7 := @run_callFunc_extern Tryz.prog 86 _ (ReflectliteValue.methodAny (ReflectliteValue.valueError "reflectlite.Value.Type" 0) (fun t _ _ _ => ReflectliteType.toType t)) Tryz.func86 (by kernel_rfl) (by kernel_rfl) (by kernel_rfl) (by kernel_rfl)
  have h8 := @run_callFunc_extern Tryz.prog 87 _ (ReflectliteValue.method (ReflectliteValue.valueError "reflectlite.Value.IsNil" 0) ReflectliteValue.isNil) Tryz.func87 (by kernel_rfl) (by kernel_rfl) (by kernel_rfl) (by kernel_rfl)
  have h27 := @run_callFunc_extern Tryz.prog 279 _ (ReflectliteType.abiMethod fun t => do pure (.int .u8 (← Rtype.kind t))) Tryz.func279 (by kernel_rfl) (by kernel_rfl) (by kernel_rfl) (by kernel_rfl)
  have h37 := @run_callFunc_extern Tryz.prog 291 _ (ReflectliteType.method ReflectliteType.elem) Tryz.func291 (by kernel_rfl) (by kernel_rfl) (by kernel_rfl) (by kernel_rfl)
  have h38 := @run_callFunc_extern Tryz.prog 292 _ (ReflectliteType.relation "Implements" ReflectliteType.implements_) Tryz.func292 (by kernel_rfl) (by kernel_rfl) (by kernel_rfl) (by kernel_rfl)
  have h10 := @run_callFunc_extern Tryz.prog 89 _ ReflectliteType.typeOf Tryz.func89 (by kernel_rfl) (by kernel_rfl) (by kernel_rfl) (by kernel_rfl)
  have h35 := @run_callFunc_extern Tryz.prog 289 _ (ReflectliteType.relation "AssignableTo" ReflectliteType.assignableTo) Tryz.func289 (by kernel_rfl) (by kernel_rfl) (by kernel_rfl) (by kernel_rfl)
  have h11 := @run_callFunc_extern Tryz.prog 131 _ (ReflectliteValue.method (ReflectliteValue.valueError "reflectlite.Value.Elem" 0) ReflectliteValue.elem) Tryz.func131 (by kernel_rfl) (by kernel_rfl) (by kernel_rfl) (by kernel_rfl)
  have h12 := @run_callFunc_extern Tryz.prog 132 _ ReflectliteValue.set Tryz.func132 (by kernel_rfl) (by kernel_rfl) (by kernel_rfl) (by kernel_rfl)
  have tO := ia_typeOf1
  have mA := ia_methodAssignableTo
  have a25 := ia_assignable1
  have v25 := ia_valueOf1
  have f6 := ia_valueOf2
  have f7 := ia_type2
  have mK := ia_methodKind
  have mE := ia_methodElem
  have mI := ia_methodImplements
  have k27 := ia_kind2
  have k25 := ia_kind1
  have e27 := ia_elem2
  have i25 := ia_implements1
  have n8 := ia_isNil2 ⟨w.heap.size, 0, none⟩ t ((w.alloc (.cells #[.pointer (some t)] 74)).alloc (.cells #[tyHandle 74, .pointer (some ⟨w.heap.size, 0, none⟩), .int .u64 150] 105)) (by simp)
  have hlt : 0 < w.heap.size := by
    rcases Nat.lt_or_ge 0 w.heap.size with h | h
    · exact h
    · simp [World.cell?, Array.getElem?_eq_none h] at hg
  have hg2 : ((w.alloc (.cells #[.pointer (some t)] 74)).alloc (.cells #[tyHandle 74, .pointer (some ⟨w.heap.size, 0, none⟩), .int .u64 150] 105)).cell? ⟨0, 0, none⟩ = some tyErr := by
    rw [World.cell?_alloc_lt _ _ ⟨0, 0, none⟩ (by simp <;> omega), World.cell?_alloc_lt _ _ ⟨0, 0, none⟩ hlt]; exact hg
  have htl : t.block < w.heap.size := by
    rcases Nat.lt_or_ge t.block w.heap.size with h | h
    · exact h
    · simp [World.cell?, Array.getElem?_eq_none h] at ht0
  have el := ia_elemV2 ⟨w.heap.size, 0, none⟩ t (((w.alloc (.cells #[.pointer (some t)] 74)).alloc (.cells #[tyHandle 74, .pointer (some ⟨w.heap.size, 0, none⟩), .int .u64 150] 105)).alloc (.cells #[tyHandle 74, .pointer (some ⟨w.heap.size, 0, none⟩), .int .u64 150] 105)) (by rw [World.cell?_alloc_lt _ _ ⟨w.heap.size, 0, none⟩ (by simp; omega)]; simp)
  have st := ia_set1 t ⟨w.heap.size + 1 + 1 + 1, 0, none⟩ e old ((((w.alloc (.cells #[.pointer (some t)] 74)).alloc (.cells #[tyHandle 74, .pointer (some ⟨w.heap.size, 0, none⟩), .int .u64 150] 105)).alloc (.cells #[tyHandle 74, .pointer (some ⟨w.heap.size, 0, none⟩), .int .u64 150] 105)).alloc (.cells #[.pointer (some e)] 62))
    (by rw [World.cell?_alloc_at _ _ _ _ (by simp)]; rfl)
    (by rw [World.cell?_alloc_lt _ _ t (by simp; omega), World.cell?_alloc_lt _ _ t (by simp; omega), World.cell?_alloc_lt _ _ t (by simp; omega), World.cell?_alloc_lt _ _ t htl]; exact ht0)
    (by rw [World.frozen?_alloc_old _ _ t (by simp; omega), World.frozen?_alloc_old _ _ t (by simp; omega), World.frozen?_alloc_old _ _ t (by simp; omega), World.frozen?_alloc_old _ _ t (Nat.ne_of_lt htl)]; exact hf0)
  go_enter Tryz.func51, Tryz.ntmps51
  go_wp2
  refine wp_loop_rounds 1 ?_
  rw [rounds_succ]
  go_wp2
  go_ret
  exact ⟨rfl, rfl⟩
end Go.Proofs.Mv.V
namespace Go.Proofs.Mv.V
open Go.RowKit Go.Extern.Stop Go.Stop Go.Extern Go
theorem ii_typeOf (v : Value) (w : World) : (Extern.ReflectliteType.typeOf #[.iface 39 v]).run Tryz.prog w = .ok (.iface 138 (.agg #[tyHandle 39])) w := by kernel_rfl
def compEntry : Array Value → Sem Value := Extern.ReflectliteType.method fun t => do Extern.Rtype.noPackHeld "Comparable" t; pure (.bool (← typeInfo t).comparable)
theorem ii_comparable (w : World) : (compEntry #[.agg #[tyHandle 39]]).run Tryz.prog w = .ok (.bool true) w := by kernel_rfl
theorem ii_methodComparable (v : Value) (w : World) : (Go.method 396 138 v "Comparable").run Tryz.prog w = .ok (290, v) w := by kernel_rfl
theorem ii_noIsC (v : Value) (xT : TypeId) (w : World) : (Instr.typeAssert (.iface 39 v) xT 150 true).run Tryz.prog w = .ok (.tuple #[.nilIface, .bool false]) w := run_typeAssert_lacksB Tryz.underlying150 (by kernel_rfl) (by kernel_rfl) v xT w
theorem ii_noIsS (v : Value) (xT : TypeId) (w : World) : (Instr.typeAssert (.iface 62 v) xT 150 true).run Tryz.prog w = .ok (.tuple #[.nilIface, .bool false]) w := run_typeAssert_lacksB Tryz.underlying150 (by kernel_rfl) (by kernel_rfl) v xT w
theorem ii_hasUnwrapS (v : Value) (xT : TypeId) (w : World) : (Instr.typeAssert (.iface 62 v) xT 145 true).run Tryz.prog w = .ok (.tuple #[.iface 62 v, .bool true]) w := run_typeAssert_hasB Tryz.underlying145 (by kernel_rfl) v xT w
theorem ii_methodUnwrap (v : Value) (w : World) : (Go.method 396 62 v "Unwrap").run Tryz.prog w = .ok (284, v) w := by kernel_rfl
theorem ii_comp : (Tryz.prog.info? 39).map (·.comparable) = some true := by kernel_rfl
theorem ii_eq (c : Int) (w : World) : (Go.binOp .eql 31 (.iface 39 (.int .i64 c)) (.iface 39 (.int .i64 c))).run Tryz.prog w = .ok (.bool true) w := by
  obtain ⟨i, hi, hcmp⟩ := Option.map_eq_some_iff.1 ii_comp
  simp only [Go.binOp]
  have h : ∀ d : Nat, (Op.equalIn (d + 2) 31 (.iface 39 (.int .i64 c)) (.iface 39 (.int .i64 c))).run Tryz.prog w = .ok true w := fun d => by
    simp [Op.equalIn, run_underlying Tryz.underlying31, run_underlying Tryz.underlying39, typeInfo, hi, hcmp]
  simp [Op.equal, Op.maxDepth, h 9998]
set_option maxHeartbeats 4000000 in
theorem is_spot (pb po : Nat) (c : Int) (w : World) (h1 : w.cell? ⟨pb, po + 1, none⟩ = some (.iface 39 (.int .i64 c))) :
    Calls Tryz.prog 52 #[.iface 62 (.pointer (some ⟨pb, po, none⟩)), .iface 39 (.int .i64 c)] w fun e w' => e = .returned (.bool true) ∧ w' = w := by
  have h8 := @run_callFunc_extern Tryz.prog 89 _ Extern.ReflectliteType.typeOf Tryz.func89 (by kernel_rfl) (by kernel_rfl) (by kernel_rfl) (by kernel_rfl)
  have h32 := @run_callFunc_extern Tryz.prog 290 _ compEntry Tryz.func290 (by kernel_rfl) (by kernel_rfl) (by kernel_rfl) (by kernel_rfl)
  have tT := ii_typeOf
  have cT := ii_comparable
  have mR := ii_methodComparable
  have nE := ii_noIsC
  have nW := ii_noIsS
  have uW := ii_hasUnwrapS
  have mU := ii_methodUnwrap
  have hty := run_eql_iface_types (P := Tryz.prog) 62 39 (.pointer (some ⟨pb, po, none⟩)) (.int .i64 c) Tryz.underlying31 (by decide) w
  have heq := ii_eq c w
  go_enter Tryz.func52, Tryz.ntmps52
  go_wp2
  refine wp_loop_rounds 2 ?_
  rw [rounds_succ]
  go_wp2
  rw [rounds_succ]
  go_wp2
  go_ret
  exact ⟨rfl, rfl⟩
end Go.Proofs.Mv.V
namespace Go.Proofs.Mv.V
open Go.RowKit Go.Extern.Stop Go.Stop Go.Extern Go
theorem as_hit' (e : Addr) (tb : Nat) (old : Value) (w : World) (hg : w.cell? ⟨0, 0, none⟩ = some tyErr) (ht0 : w.cell? ⟨tb, 0, none⟩ = some old) (hf0 : w.frozen? ⟨tb, 0, none⟩ = false) :
    Calls Tryz.prog 51 #[.iface 62 (.pointer (some e)), .iface 74 (.pointer (some ⟨tb, 0, none⟩))] w fun ev w' => ev = .returned (.bool true) ∧ w'.cell? ⟨tb, 0, none⟩ = some (.pointer (some e)) ∧ Below tb w w' := by
  refine (as_hit e ⟨tb, 0, none⟩ old w hg ht0 hf0).mono ?_
  rintro ev w' ⟨rfl, rfl⟩
  have htl : tb < w.heap.size := by
    rcases Nat.lt_or_ge tb w.heap.size with h | h
    · exact h
    · simp [World.cell?, Array.getElem?_eq_none h] at ht0
  refine ⟨rfl, ?_, ?_⟩
  · refine World.cell?_setCell_same' _ _ _ ?_
    rw [World.cell?_alloc_lt _ _ ⟨tb, 0, none⟩ (by simp; omega), World.cell?_alloc_lt _ _ ⟨tb, 0, none⟩ (by simp; omega), World.cell?_alloc_lt _ _ ⟨tb, 0, none⟩ (by simp; omega), World.cell?_alloc_lt _ _ ⟨tb, 0, none⟩ htl, ht0]; rfl
  · refine Below.setCell (p := ⟨tb, 0, none⟩) ?_ (Nat.le_refl tb) _
    exact Below.alloc (Below.alloc (Below.alloc (Below.alloc (Below.refl _ _) (by omega) _) (by simp <;> omega) _) (by simp <;> omega) _) (by simp <;> omega) _
theorem is_cmp : (Tryz.prog.info? 62).map (·.comparable) = some true := by kernel_rfl
theorem is_info : (Tryz.prog.info? 64).isSome = true := by kernel_rfl
theorem ptr_neq (a : Addr) (w : World) : (Go.binOp .neq 31 (.iface 62 (.pointer (some a))) (.iface 62 (.pointer (some a)))).run Tryz.prog w = .ok (.bool false) w := by
  obtain ⟨i, hi, hcmp⟩ := Option.map_eq_some_iff.1 is_cmp
  obtain ⟨j, hj⟩ := Option.isSome_iff_exists.1 is_info
  simp only [Go.binOp]
  simp [Op.equal, Op.maxDepth, run_equalIn_iface_ptr_same w 9998 a Tryz.underlying31 Tryz.underlying62 hi hcmp hj]
set_option maxHeartbeats 4000000 in
theorem is_calls (pb po : Nat) (at_ c : Int) (w : World) (hg : w.cell? ⟨0, 0, none⟩ = some tyErr) (h0 : w.cell? ⟨pb, po, none⟩ = some (.int .i64 at_)) (h1 : w.cell? ⟨pb, po + 1, none⟩ = some (.iface 39 (.int .i64 c))) :
    Calls Tryz.prog 28 #[.iface 62 (.pointer (some ⟨pb, po, none⟩)), .int .i64 at_, .int .i64 c] w fun e w' => e = .returned (.bool true) ∧ Below w.heap.size w w' := by
  have hlt : pb < w.heap.size := by
    rcases Nat.lt_or_ge pb w.heap.size with h | h
    · exact h
    · simp [World.cell?, Array.getElem?_eq_none h] at h0
  have hlg : 0 < w.heap.size := by
    rcases Nat.lt_or_ge 0 w.heap.size with h | h
    · exact h
    · simp [World.cell?, Array.getElem?_eq_none h] at hg
  have heq := ii_eq c
  have hpn := ptr_neq ⟨pb, po, none⟩
  have hgA : (w.alloc (.cells #[.pointer none] 62)).cell? ⟨0, 0, none⟩ = some tyErr := by
    rw [World.cell?_alloc_lt _ _ ⟨0, 0, none⟩ hlg]; exact hg
  have htA : (w.alloc (.cells #[.pointer none] 62)).cell? ⟨w.heap.size, 0, none⟩ = some (.pointer none) := by simp
  have hfA : (w.alloc (.cells #[.pointer none] 62)).frozen? ⟨w.heap.size, 0, none⟩ = false := by simp
  go_enter Tryz.func28, Tryz.ntmps28
  go_wp2_with (go_at_call 51; refine (as_hit' ⟨pb, po, none⟩ w.heap.size (.pointer none) _ hgA htA hfA).mono ?_)
  rintro e W1 ⟨rfl, hc, hb⟩
  have hb1 : Below w.heap.size w W1 := (Below.alloc (Below.refl _ _) (Nat.le_refl _) _).trans hb
  have c0 : W1.cell? ⟨pb, po, none⟩ = some (.int .i64 at_) := (hb1.cell (show (⟨pb, po, none⟩ : Addr).block < w.heap.size from hlt)).trans h0
  have c1 : W1.cell? ⟨pb, po + 1, none⟩ = some (.iface 39 (.int .i64 c)) := (hb1.cell (show (⟨pb, po + 1, none⟩ : Addr).block < w.heap.size from hlt)).trans h1
  clear hb hgA htA hfA h0 h1 hg
  go_wp2_with (go_at_call 52; refine (is_spot pb po c _ c1).mono ?_)
  rintro e W2 ⟨rfl, rfl⟩
  go_wp2
  go_ret
  exact ⟨rfl, hb1⟩
structure Laid (w : World) (F : Nat → Prop) : Prop where
  f0 : F 0
  f1 : F 5
  f2 : F 6
  f3 : F 1
  c0 : w.cell? ⟨0, 0, none⟩ = some tyErr
  c1 : ∃ te pe, w.cell? ⟨5, 0, none⟩ = some (.iface te pe)
  c2 : ∃ te pe, w.cell? ⟨6, 0, none⟩ = some (.iface te pe)
  c3 : w.var? Tryz.prog "internal/strconv.uint64pow10" = some (Lib.pow10Tab.map fun z => Value.int .u64 z).toArray
theorem pow10_g : Tryz.prog.globalNamed "internal/strconv.uint64pow10" = some 1 := by kernel_rfl
instance laidGI : GI where
  inv := Laid
  keep := by
    intro w w' F F' h k
    have e : ∀ b, F b → w'.cell? ⟨b, 0, none⟩ = w.cell? ⟨b, 0, none⟩ := fun b hb => by simp only [World.cell?, (k b hb).2]
    have e3 : w'.var? Tryz.prog "internal/strconv.uint64pow10" = w.var? Tryz.prog "internal/strconv.uint64pow10" := by simp only [World.var?, pow10_g, Option.bind_some, (k _ h.f3).2]
    exact ⟨(k _ h.f0).1, (k _ h.f1).1, (k _ h.f2).1, (k _ h.f3).1, by rw [e _ h.f0]; exact h.c0, by rw [e _ h.f1]; exact h.c1, by rw [e _ h.f2]; exact h.c2, by rw [e3]; exact h.c3⟩
abbrev spotD (t : Option (Nat × Nat)) (at_ c : Int) : D := .iface 62 (.rptr t [.v (.int .i64 at_), .iface 39 (.v (.int .i64 c))])
theorem a_is (t : Option (Nat × Nat)) (at_ c : Int) (m : Mem) (n : Nat) : ACalls Tryz.prog 28 [spotD t at_ c, .v (.int .i64 at_), .v (.int .i64 c)] m n (fun d m' n' => d = .v (.bool true) ∧ m' = m ∧ n' = n) := by
  refine acalls_lib ⟨_, Tryz.func28, by kernel_rfl, by kernel_rfl⟩ fun w ν F vals hst hv => ?_
  obtain ⟨x, y, z, rfl, h1, h2, h3⟩ := conVs_arr3 hv
  simp only [Con, ConCs] at h1 h2 h3
  subst h2; subst h3
  obtain ⟨y', rfl, b, o, rfl, hF, _, ⟨y1, hc1, _, rfl⟩, ⟨y2, hc2, _, y3, rfl, rfl⟩, _⟩ := h1
  refine (is_calls b o at_ c w hst.gi.c0 hc1 hc2).mono ?_
  rintro e w' ⟨rfl, hb⟩
  exact ⟨_, rfl, hb, .v (.bool true), by simp [Con], rfl, rfl, rfl⟩
end Go.Proofs.Mv.V
