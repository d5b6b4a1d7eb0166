/- A part of the proofs: machine, contracts, laws. No condition of its own. -/
import Derived.Test.YtihbegkefjjhpaaGreatDoorP06
import Derived.Test.YtihbegkefjjhpaaGreatDoorP01
import Derived.Test.YtihbegkefjjhpaaGreatDoorP23
import Derived.Test.YtihbegkefjjhpaaGreatDoorP20
import Derived.Test.YtihbegkefjjhpaaGreatDoorP21
import Derived.Test.YtihbegkefjjhpaaGreatDoorP22
import Derived.Test.YtihbegkefjjhpaaGreatDoorP02
set_option linter.unusedSimpArgs false
set_option linter.unusedVariables false
set_option linter.unusedSectionVars false
open Go Go.Proofs Go.Proofs.Mv.V
namespace Go.Proofs.Mv.App
inductive TmF : Tm → Prop where
  | mk (kind num : Int) (mod name : List UInt8) (names vars : List (List UInt8)) (types : List Ty) (subs : List Tm) (h1 : ∀ y ∈ types, manyT y ≤ 1000000) (h2 : ∀ t ∈ subs, TmF t) : TmF (.mk kind num mod name names vars types subs)
mutual
theorem fewTm_ok : ∀ (t : Tm) (m : Int), 0 ≤ fewTm t m → TmF t ∧ manyTm t + fewTm t m = m
  | .mk kind num mod name names vars types subs, m, h => by
    simp only [fewTm] at h ⊢
    by_cases c : m - 1 < 0 ∨ 100 < names.length ∨ 100 < vars.length ∨ 100 < types.length
    · rw [if_pos c] at h; omega
    rw [if_neg c] at h ⊢
    by_cases c2 : types.all few3 = true
    · rw [if_pos c2] at h ⊢
      obtain ⟨h1, h2⟩ := fewTms_ok subs (m - 1) (by omega) h
      refine ⟨.mk _ _ _ _ _ _ _ _ (fun y hy => ?_) h1, ?_⟩
      · have := few_many (List.all_eq_true.1 c2 y hy); omega
      · simp only [manyTm]; omega
    · rw [if_neg c2] at h; omega
theorem fewTms_ok : ∀ (l : List Tm) (m : Int), 0 ≤ m → 0 ≤ fewTms l m → (∀ t ∈ l, TmF t) ∧ manyTms l + fewTms l m = m
  | [], m, h0, h => by simp [fewTms, manyTms]
  | t :: ts, m, h0, h => by
    simp only [fewTms, if_pos h0, manyTms] at h ⊢
    have h4 : 0 ≤ fewTm t m := by
      by_cases c : 0 ≤ fewTm t m
      · exact c
      · rw [fewTms_neg ts _ (by omega)] at h; omega
    obtain ⟨a1, a2⟩ := fewTm_ok t m h4
    obtain ⟨b1, b2⟩ := fewTms_ok ts _ h4 h
    refine ⟨fun u hu => ?_, by omega⟩
    rcases List.mem_cons.1 hu with rfl | hu
    · exact a1
    · exact b1 u hu
end
theorem fewTm3_ok {t : Tm} (h : fewTm3 t = true) : TmF t ∧ manyTm t ≤ 2000 := by
  simp only [fewTm3, decide_eq_true_eq] at h
  obtain ⟨a, b⟩ := fewTm_ok t 2000 h
  exact ⟨a, by omega⟩
end Go.Proofs.Mv.App
open Go Go.Proofs Go.Proofs.Mv.V
set_option maxRecDepth 10000
namespace Go.Proofs.Mv.App
set_option maxHeartbeats 2000000 in
theorem cRAllTm {t : Tm} (ht : TmW t) : TmF t → Pc Tryz.prog 36 [.agg (tmD t)] (Tt (allTm t)) := by
  induction ht with
  | mk kind num mod name names vars types subs l1 l2 l3 l4 l5 l6 l7 l8 l9 l10 ih =>
    intro hf
    cases hf with
    | mk _ _ _ _ _ _ _ _ hty hfs =>
    refine pc_of (pur_T _) (fun m n => ?_)
    have fr : ∀ o j, j < n → (m.set n o) j = m j := fun o j hj => by rw [set_ne _ _ _ _ (by omega)]
    have hL4 : (subs.map tmD).length = subs.length := by simp
    have hG4 : ∀ i (h : i < subs.length), (subs.map tmD)[i]? = some (tmD subs[i]) := fun i h => by simp [h]
    have hown := cROwnT (.mk kind num mod name names vars types subs l1 l2 l3 l4 l5 l6 l7 l8 l9 l10) hty
    have hsplit : ∀ i, allTms (subs.take i) = false → allTms subs = false := fun i h => by
      cases e : allTms subs
      · rfl
      · rw [allTms_take e i] at h; cases h
    rw [ownR_eq] at hown
    simp only [tmD, sl1, tmsD_eq, allTm] at hown ⊢
    generalize shapeTm (.mk kind num mod name names vars types subs) = SH at hown ⊢
    generalize (names.map fun s => [S s]) = NL at hown
    generalize (vars.map fun s => [S s]) = VL at hown
    generalize types.map tyD = YL at hown
    generalize subs.map tmD = SL at hL4 hG4 hown
    refine acalls_vc [0, 1, 2, 3, 4, 14] Tryz.func36 Tryz.ntmps36 (by kernel_rfl) rfl rfl (by simp) ?_
    simp -dsimp [I]
    simp only [I] at hown
    refine pcall hown ?_
    simp -dsimp [I, Tt]
    refine vloop_as (β := Nat) (fun i => [(1, .ptr n 0 0 0), (3, Tt (SH && allTms (subs.take i))), (4, I i)]) (fun i m2 n2 => m2 = m.set n (tmO kind num mod name NL VL YL SL) ∧ n2 = n + 1 ∧ i ≤ subs.length) (fun i => subs.length - i) 0 (by simp [I, Tt, allTms]) ⟨rfl, rfl, by omega⟩ ?_
    rintro i m2 n2 ⟨rfl, rfl, le⟩
    cases hb : (SH && allTms (subs.take i)) with
    | false =>
      simp -dsimp [I, Tt, tmO, hL4]
      refine pcq ?_ (fr _)
      have : (SH && allTms subs) = false := by
        rcases Bool.and_eq_false_iff.1 hb with h | h
        · simp [h]
        · simp [hsplit i h]
      rw [this]
    | true =>
    by_cases hi : (i : Int) < subs.length
    · have hi' : i < subs.length := by omega
      have wi : IntKind.i64.wrap ((i : Int) + 1) = (i : Int) + 1 := wrap_i64 (by omega) (by omega)
      have hiN : i < SL.length := by omega
      have hgi : SL[i] = tmD subs[i] := get_opt (hG4 i hi') hiN
      have hsn : allTms (subs.take (i + 1)) = (allTms (subs.take i) && allTm subs[i]) := by rw [take_snoc hi', allTms_append]; simp [allTms]
      simp -dsimp [I, Tt, tmO, hL4, hi, hi', hiN, hgi]
      refine pcall (ih subs[i] (List.getElem_mem hi') (hfs _ (List.getElem_mem hi'))) ?_
      simp -dsimp [I, wi]
      refine rnd (i + 1) (by omega) ?_ ⟨rfl, rfl, by omega⟩
      simp only [Bool.and_eq_true] at hb
      simp [hsn, hb, Tt, I]
    · have e : subs.take i = subs := List.take_of_length_le (by omega)
      rw [e] at hb
      simp -dsimp [I, Tt, tmO, hL4, hi]
      exact pcq (by rw [hb]) (fr _)
theorem cRMayTm {t : Tm} (ht : TmW t) (hf : TmF t) (hb : allTm t = true → manyTm t ≤ 1000000) : Pc Tryz.prog 13 [.agg (tmD t)] (Tt (mayTm t)) := by
  refine pc_of (pur_T _) (fun m n => ?_)
  have fr : ∀ o j, j < n → (m.set n o) j = m j := fun o j hj => by rw [set_ne _ _ _ _ (by omega)]
  have hz : (tmD t).length = 8 := by simp
  have h1 := cRAllTm ht hf
  have h2 := fun h => cRManyTm ht (hb h)
  have h3 := fun h => cRDeepTm ht (hb h)
  unfold mayTm
  generalize tmD t = XX at h1 h2 h3 hz
  have htz : List.take 8 XX = XX := List.take_of_length_le (by omega)
  refine acalls_vc [0, 1, 2, 3] Tryz.func13 Tryz.ntmps13 (by kernel_rfl) rfl rfl (by simp) ?_
  simp -dsimp [hz, htz]
  refine pcall h1 ?_
  cases e1 : allTm t with
  | false =>
    simp -dsimp [I, Tt]
    exact pcq (by simp [Tt]) (fr _)
  | true =>
  simp -dsimp [I, Tt, hz, htz]
  refine pcall (h2 e1) ?_
  by_cases e2 : manyTm t ≤ 300
  · have e2' : (manyTm t : Int) ≤ 300 := by omega
    simp -dsimp [I, Tt, hz, htz, e2, e2']
    refine pcall (h3 e1) ?_
    simp -dsimp [I, Tt]
    refine pcq ?_ (fr _)
    have : (decide ((deepTm t : Int) ≤ 32)) = decide (deepTm t ≤ 32) := by
      by_cases e : deepTm t ≤ 32
      · simp [e]; omega
      · simp [e]; omega
    simp [Tt, e2, this]
  · have e2' : ¬ (manyTm t : Int) ≤ 300 := by omega
    simp -dsimp [I, Tt, e2, e2']
    exact pcq (by first | (simp [Tt]; done) | (simp [Tt]; omega)) (fr _)
end Go.Proofs.Mv.App
open Go Go.Proofs Go.Proofs.Mv.V
set_option maxRecDepth 10000
namespace Go.Proofs.Mv.App
theorem sameTm_self (a : Tm) : sameTm a a = true := (sameTm_iff a a).2 rfl
set_option maxHeartbeats 4000000 in
theorem cTermTells {x y : Tm} (hx : TmW x) (hy : TmW y) : Pc Tryz.prog 4 [.agg (tmD x), .agg (tmD y)] (Tt true) := by
  refine pc_of (pur_T _) (fun m n => ?_)
  have f1 := cRFewT hx
  have f2 := cRFewT hy
  have m1 : fewTm3 x = true → Pc Tryz.prog 13 [.agg (tmD x)] (Tt (mayTm x)) := fun h => cRMayTm hx (fewTm3_ok h).1 fun _ => by have := (fewTm3_ok h).2; omega
  have m2 : fewTm3 y = true → Pc Tryz.prog 13 [.agg (tmD y)] (Tt (mayTm y)) := fun h => cRMayTm hy (fewTm3_ok h).1 fun _ => by have := (fewTm3_ok h).2; omega
  have c1 := cPrintTm hx
  have c2 := cMayTm hx
  have c3 : mayTm x = true → Pc Tryz.prog 15 [.agg (tmD x)] (S (textTm x)) := fun h => by
    simp only [mayTm, Bool.and_eq_true, decide_eq_true_eq] at h
    exact cRPrintTm hx h.1.1 (by omega)
  have c4 := cRSameTm hx (b := y)
  have c5 := cSameTmK hx hy
  have c6 := cSameTmK hx hx
  rw [sameTm_self, Bool.and_true, Bool.and_self] at c6
  have fr : ∀ o o' j, j < n → ((m.set n o).set (n + 1) o') j = m j := fun o o' j hj => by rw [set_ne _ _ _ _ (by omega), set_ne _ _ _ _ (by omega)]
  have nn1 : n ≠ n + 1 := by omega
  have n1n : n + 1 ≠ n := by omega
  have hz : (tmD x).length = 8 := by simp
  have hzy : (tmD y).length = 8 := by simp
  generalize tmD x = X at f1 m1 c1 c2 c3 c4 c5 c6 hz
  generalize tmD y = Y at f2 m2 c4 c5 hzy
  have htz : List.take 8 X = X := List.take_of_length_le (by omega)
  have hty : List.take 8 Y = Y := List.take_of_length_le (by omega)
  refine acalls_vc [0, 1, 2, 3, 4, 5, 6, 7, 8, 9, 10, 11, 12, 23, 63] Tryz.func4 Tryz.ntmps4 (by kernel_rfl) rfl rfl (by simp) ?_
  simp -dsimp [hz, htz, hzy, hty, set_ne, nn1, n1n]
  refine pcall cUp23 ?_
  simp -dsimp [Tt, hz, htz, hzy, hty, set_ne, nn1, n1n]
  refine pcall f1 ?_
  simp -dsimp [Tt, hz, htz, hzy, hty, set_ne, nn1, n1n]
  refine pcall f2 ?_
  cases h1 : fewTm3 x with
  | false =>
    simp -dsimp [Tt]
    exact pcq rfl (fr _ _)
  | true =>
  cases h2 : fewTm3 y with
  | false =>
    simp -dsimp [Tt]
    exact pcq rfl (fr _ _)
  | true =>
  have m1 := m1 h1
  have m2 := m2 h2
  simp -dsimp [Tt, hz, htz, hzy, hty, set_ne, nn1, n1n]
  refine pcall m1 ?_
  simp -dsimp [Tt, hz, htz, hzy, hty, set_ne, nn1, n1n]
  refine pcall m2 ?_
  simp -dsimp [Tt, hz, htz, hzy, hty, set_ne, nn1, n1n]
  refine pcall c1 ?_
  cases hm : mayTm x with
  | false =>
    rw [hm] at c2 c5 c6
    simp only [Bool.false_and] at c5
    simp -dsimp [Tt, S, argE, hz, htz, hzy, hty, set_ne, nn1, n1n]
    refine pcall c2 ?_
    simp -dsimp [Tt, S, argE, hz, htz, hzy, hty, set_ne, nn1, n1n]
    refine pcall c5 ?_
    simp -dsimp [Tt, S, argE, hz, htz, hzy, hty, set_ne, nn1, n1n]
    refine pcall c6 ?_
    simp -dsimp [Tt, S, argE, hz, htz, hzy, hty, set_ne, nn1, n1n]
    exact pcq rfl (fr _ _)
  | true =>
    rw [hm] at c2 c5 c6
    have c3 := c3 hm
    simp only [Bool.true_and] at c5
    simp -dsimp [Tt, S, argE, nilE, hz, htz, hzy, hty, set_ne, nn1, n1n]
    refine pcall c2 ?_
    simp -dsimp [Tt, S, argE, nilE, hz, htz, hzy, hty, set_ne, nn1, n1n]
    refine pcall c3 ?_
    cases hn : mayTm y with
    | false =>
      rw [hn] at c5
      simp only [Bool.false_and] at c5
      simp -dsimp [Tt, S, argE, hz, htz, hzy, hty, set_ne, nn1, n1n]
      refine pcall c5 ?_
      simp -dsimp [Tt, S, argE, hz, htz, hzy, hty, set_ne, nn1, n1n]
      refine pcall c6 ?_
      simp -dsimp [Tt, S, argE, hz, htz, hzy, hty, set_ne, nn1, n1n]
      exact pcq rfl (fr _ _)
    | true =>
      rw [hn] at c5
      simp only [Bool.true_and] at c5
      simp -dsimp [Tt, S, argE, hz, htz, hzy, hty, set_ne, nn1, n1n]
      refine pcall c4 ?_
      simp -dsimp [Tt, S, argE, hz, htz, hzy, hty, set_ne, nn1, n1n]
      refine pcall c5 ?_
      cases hs : sameTm x y
      all_goals
        simp -dsimp [Tt, S, argE, hz, htz, hzy, hty, set_ne, nn1, n1n]
        refine pcall c6 ?_
        simp -dsimp [Tt, S, argE, hz, htz, hzy, hty, set_ne, nn1, n1n]
        exact pcq rfl (fr _ _)
end Go.Proofs.Mv.App
