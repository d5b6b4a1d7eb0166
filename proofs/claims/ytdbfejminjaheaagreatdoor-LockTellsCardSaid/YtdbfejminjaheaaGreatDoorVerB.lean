/- A part of the proofs of the seat YtdbfejminjaheaaGreatDoor: the abstract machine, the contracts of the functions, the laws. No condition of its own. -/
import Derived.Test.YtdbfejminjaheaaGreatDoorVerA
set_option linter.unusedSimpArgs false
set_option linter.unusedVariables false
set_option linter.unusedSectionVars false
open Go Go.Proofs Go.Proofs.Mv.V
set_option maxRecDepth 10000
namespace Go.Proofs.Mv.App
def cmpI (a b : Int) : Int := if a < b then -1 else if b < a then 1 else 0
def orI (x y z : Int) : Int := if x = 0 then (if y = 0 then z else y) else x
def cmpVer (a b : Ver) : Int := orI (cmpI a.major b.major) (cmpI a.minor b.minor) (cmpI a.patch b.patch)
theorem cmpVer_lt (a b : Ver) : cmpVer a b < 0 ↔ belowV a b = true := by
  unfold cmpVer belowV orI cmpI
  by_cases h1 : a.major = b.major
  · have e1 : ¬ a.major < b.major := by omega
    have e2 : ¬ b.major < a.major := by omega
    rw [if_neg e1, if_neg e2, if_pos rfl, if_pos h1]
    by_cases h2 : a.minor = b.minor
    · have e3 : ¬ a.minor < b.minor := by omega
      have e4 : ¬ b.minor < a.minor := by omega
      rw [if_neg e3, if_neg e4, if_pos rfl, if_pos h2]
      by_cases h3 : a.patch < b.patch
      · simp [h3]
      · by_cases h4 : b.patch < a.patch
        · simp [h3, h4]
        · simp [h3, h4]
    · rw [if_neg h2]
      by_cases h3 : a.minor < b.minor
      · simp [h3]
      · have h4 : b.minor < a.minor := by omega
        simp [h3, h4]
  · rw [if_neg h1]
    by_cases h3 : a.major < b.major
    · simp [h3]
    · have h4 : b.major < a.major := by omega
      simp [h3, h4]
theorem cNaNI (a : Int) (m : Mem) (n : Nat) : ACalls Tryz.prog 218 [I a] m n (fun d m' n' => d = Tt false ∧ m' = m ∧ n' = n) := by
  refine acalls_done (R' := Hq (fun d m' n' => d = Tt false ∧ ∀ j, j < n → m' j = m j) tg) ?_ ?_
  · refine acalls_vc [0, 2] Tryz.func218 Tryz.ntmps218 (by kernel_rfl) rfl rfl (by simp) ?_
    simp -dsimp [I]
    exact hq ⟨by simp [Tt], fun _ _ => rfl⟩
  · rintro d m' n' ⟨rfl, h⟩
    exact ⟨_, (pur_T _).pub, h, rfl⟩
theorem cCompareI (a b : Int) (m : Mem) (n : Nat) : ACalls Tryz.prog 151 [I a, I b] m n (fun d m' n' => d = I (cmpI a b) ∧ m' = m ∧ n' = n) := by
  refine acalls_done (R' := Hq (fun d m' n' => d = I (cmpI a b) ∧ ∀ j, j < n → m' j = m j) tg) ?_ ?_
  · refine acalls_vc [0, 1, 4, 5, 6, 11, 12, 13, 16, 19] Tryz.func151 Tryz.ntmps151 (by kernel_rfl) rfl rfl (by simp) ?_
    simp -dsimp [I]
    refine aCall_of (cNaNI a _ _) ?_
    rintro d m' n' ⟨rfl, rfl, rfl⟩
    simp -dsimp [I]
    refine aCall_of (cNaNI b _ _) ?_
    rintro d m' n' ⟨rfl, rfl, rfl⟩
    by_cases h1 : a < b
    · simp -dsimp [I, Tt, h1]
      exact hq ⟨by simp [I, cmpI, h1], fun _ _ => rfl⟩
    by_cases h2 : b < a
    · simp -dsimp [I, Tt, h1, h2]
      exact hq ⟨by simp [I, cmpI, h1, h2], fun _ _ => rfl⟩
    simp -dsimp [I, Tt, h1, h2]
    exact hq ⟨by simp [I, cmpI, h1, h2], fun _ _ => rfl⟩
  · rintro d m' n' ⟨rfl, h⟩
    exact ⟨_, (pur_I _).pub, h, rfl⟩
structure OrI (k : Nat) (x y z : Int) (m : Mem) (n : Nat) (i : Nat) (σ : Nat → D) (m2 : Mem) (n2 : Nat) : Prop where
  le : i ≤ 3
  h3 : σ 3 = I 0
  h6 : σ 6 = .own k 0 0 3 1
  h7 : σ 7 = I 3
  h8 : σ 8 = I i
  z0 : 0 < i → x = 0
  z1 : 1 < i → y = 0
  z2 : 2 < i → z = 0
  mm : m2 = m
  nn : n2 = n
theorem cOr3 (k : Nat) (x y z : Int) (m : Mem) (n : Nat) (hm : m k = some ⟨1, [[I x], [I y], [I z]], 0⟩) : ACalls Tryz.prog 150 [.own k 0 0 3 1] m n (Hq (fun d m' n' => d = I (orI x y z) ∧ m' = m ∧ n' = n) tg) := by
  refine acalls_vc [0, 2, 3, 5, 6, 7, 8, 9, 14] Tryz.func150 Tryz.ntmps150 (by kernel_rfl) rfl rfl (by simp) ?_
  simp -dsimp [I]
  refine vloop_of (β := Nat) (OrI k x y z m n) (fun i => 3 - i) 0 ⟨by omega, by simp [I], by simp, by simp [I], by simp [I], by omega, by omega, by omega, rfl, rfl⟩ ?_
  have w1 : IntKind.i64.wrap 1 = 1 := wrap_i64 (by omega) (by omega)
  have w2 : IntKind.i64.wrap 2 = 2 := wrap_i64 (by omega) (by omega)
  have w3 : IntKind.i64.wrap 3 = 3 := wrap_i64 (by omega) (by omega)
  rintro i σ m2 n2 ⟨le, h3, h6, h7, h8, z0, z1, z2, rfl, rfl⟩
  obtain rfl | rfl | rfl | rfl : i = 0 ∨ i = 1 ∨ i = 2 ∨ i = 3 := by omega
  · by_cases e : x = 0
    · subst e
      simp -dsimp [h3, h6, h7, h8, I, hm, w1, w2, w3]
      exact ⟨1, by omega, by omega, by simp [I], by simp, by simp [I], by simp [I], fun _ => rfl, by omega, by omega, rfl, rfl⟩
    · have e' : (x != 0) = true := by simpa using e
      simp -dsimp [h3, h6, h7, h8, I, hm, e']
      exact hq ⟨by simp [I, orI, e], rfl, rfl⟩
  · have hx := z0 (by omega)
    subst hx
    by_cases e : y = 0
    · subst e
      simp -dsimp [h3, h6, h7, h8, I, hm, w1, w2, w3]
      exact ⟨2, by omega, by omega, by simp [I], by simp, by simp [I], by simp [I], fun _ => rfl, fun _ => rfl, by omega, rfl, rfl⟩
    · have e' : (y != 0) = true := by simpa using e
      simp -dsimp [h3, h6, h7, h8, I, hm, e']
      exact hq ⟨by simp [I, orI, e], rfl, rfl⟩
  · have hx := z0 (by omega)
    have hy := z1 (by omega)
    subst hx; subst hy
    by_cases e : z = 0
    · subst e
      simp -dsimp [h3, h6, h7, h8, I, hm, w1, w2, w3]
      exact ⟨3, by omega, by omega, by simp [I], by simp, by simp [I], by simp [I], fun _ => rfl, fun _ => rfl, fun _ => rfl, rfl, rfl⟩
    · have e' : (z != 0) = true := by simpa using e
      simp -dsimp [h3, h6, h7, h8, I, hm, e']
      exact hq ⟨by simp [I, orI, e], rfl, rfl⟩
  · have hx := z0 (by omega)
    have hy := z1 (by omega)
    have hz := z2 (by omega)
    subst hx; subst hy; subst hz
    simp -dsimp [h3, h6, h7, h8, I, hm, w1, w2, w3]
    exact hq ⟨by simp [I, orI], rfl, rfl⟩
set_option maxHeartbeats 1000000 in
theorem cCmpV (a b : Ver) (m : Mem) (n : Nat) : ACalls Tryz.prog 95 [.agg (verD a), .agg (verD b)] m n (fun d m' n' => d = I (cmpVer a b) ∧ m' = m ∧ n' = n) := by
  obtain ⟨a1, a2, a3⟩ := a
  obtain ⟨b1, b2, b3⟩ := b
  refine acalls_done (R' := Hq (fun d m' n' => d = I (cmpVer ⟨a1, a2, a3⟩ ⟨b1, b2, b3⟩) ∧ ∀ j, j < n → m' j = m j) tg) ?_ ?_
  · have nn1 : n ≠ n + 1 := by omega
    have n1n : n + 1 ≠ n := by omega
    have c1 := fun m n => cCompareI a1 b1 m n
    have c2 := fun m n => cCompareI a2 b2 m n
    have c3 := fun m n => cCompareI a3 b3 m n
    simp only [verD, cmpVer]
    generalize cmpI a1 b1 = x1 at c1 ⊢
    generalize cmpI a2 b2 = x2 at c2 ⊢
    generalize cmpI a3 b3 = x3 at c3 ⊢
    refine acalls_vc [0, 1, 2, 3, 4] Tryz.func95 Tryz.ntmps95 (by kernel_rfl) rfl rfl (by simp) ?_
    simp -dsimp [I, set_ne, nn1, n1n]
    refine vdraw_tree [0, 1, 0, 4, 15, 0, 32, 0, 128, 511, 0, 1024, 0, 4096, 16383, 32767, 65535, 131071] (.rd 0 (.rd 1 (.rd 2 (.rd 3 (.rd 5 (.rd 6 (.rd 7 (.rd 8 (.rd 10 (.rd 11 (.rd 12 (.rd 13 (.wr (.cons 4 (.wr (.cons 9 (.wr (.cons 14 (.wr (.cons 15 (.wr (.cons 16 (.rd 17 (.fin)) (.nil))) (.nil))) (.nil))) (.nil))) (.nil))))))))))))))) (by kernel_rfl) (by kernel_rfl) ?_
    simp -dsimp [I, set_ne, nn1, n1n]
    repeat' (with_reducible apply And.intro)
    all_goals (first | refine aCall_of (c1 _ _) ?_ | refine aCall_of (c2 _ _) ?_ | refine aCall_of (c3 _ _) ?_)
    all_goals (rintro d m' n' ⟨rfl, rfl, rfl⟩; simp -dsimp [I, set_ne, nn1, n1n])
    all_goals (repeat' (with_reducible apply And.intro))
    all_goals (first | refine aCall_of (c1 _ _) ?_ | refine aCall_of (c2 _ _) ?_ | refine aCall_of (c3 _ _) ?_)
    all_goals (rintro d m' n' ⟨rfl, rfl, rfl⟩; simp -dsimp [I, set_ne, nn1, n1n])
    all_goals (repeat' (with_reducible apply And.intro))
    all_goals (first | refine aCall_of (c1 _ _) ?_ | refine aCall_of (c2 _ _) ?_ | refine aCall_of (c3 _ _) ?_)
    all_goals (rintro d m' n' ⟨rfl, rfl, rfl⟩; simp -dsimp [I, set_ne, nn1, n1n])
    all_goals (refine aCall_of (cOr3 (n + 1 + 1) x1 x2 x3 _ _ (by simp [I])) ?_)
    all_goals (rintro d m' n' ⟨rfl, rfl, rfl⟩; simp -dsimp [I])
    all_goals (refine hq ⟨rfl, fun j hj => ?_⟩; rw [set_ne _ _ _ _ (by omega), set_ne _ _ _ _ (by omega), set_ne _ _ _ _ (by omega)])
  · rintro d m' n' ⟨rfl, h⟩
    exact ⟨_, (pur_I _).pub, h, rfl⟩
theorem cMayRg (a b : Ver) (m : Mem) (n : Nat) : ACalls Tryz.prog 49 [.agg (verD a ++ verD b)] m n (fun d m' n' => d = Tt (mayRg a b) ∧ m' = m ∧ n' = n) := by
  obtain ⟨a1, a2, a3⟩ := a
  obtain ⟨b1, b2, b3⟩ := b
  refine acalls_done (R' := Hq (fun d m' n' => d = Tt (mayRg ⟨a1, a2, a3⟩ ⟨b1, b2, b3⟩) ∧ ∀ j, j < n → m' j = m j) tg) ?_ ?_
  · have fr : ∀ o j, j < n → (m.set n o) j = m j := fun o j hj => by rw [set_ne _ _ _ _ (by omega)]
    have c1 := fun m n => cMayV ⟨a1, a2, a3⟩ m n
    have c2 := fun m n => cMayV ⟨b1, b2, b3⟩ m n
    have c3 := fun m n => cCmpV ⟨a1, a2, a3⟩ ⟨b1, b2, b3⟩ m n
    have hc := cmpVer_lt ⟨a1, a2, a3⟩ ⟨b1, b2, b3⟩
    simp only [verD, mayRg, List.cons_append, List.nil_append] at c1 c2 c3 ⊢
    refine acalls_vc [0, 1, 2] Tryz.func49 Tryz.ntmps49 (by kernel_rfl) rfl rfl (by simp) ?_
    simp -dsimp [I]
    refine aCall_of (c1 _ _) ?_
    rintro d m' n' ⟨rfl, rfl, rfl⟩
    cases h1 : mayV ⟨a1, a2, a3⟩ with
    | false => simp -dsimp [I, Tt]; exact hq ⟨by simp [Tt], fr _⟩
    | true =>
    simp -dsimp [I, Tt]
    refine aCall_of (c2 _ _) ?_
    rintro d m' n' ⟨rfl, rfl, rfl⟩
    cases h2 : mayV ⟨b1, b2, b3⟩ with
    | false => simp -dsimp [I, Tt]; exact hq ⟨by simp [Tt], fr _⟩
    | true =>
    by_cases h3 : a1 = b1
    case neg =>
      have h3' : (a1 == b1) = false := by simpa using h3
      simp -dsimp [I, Tt, h3']
      exact hq ⟨by simp [Tt, h3], fr _⟩
    subst h3
    simp -dsimp [I, Tt]
    refine aCall_of (c3 _ _) ?_
    rintro d m' n' ⟨rfl, rfl, rfl⟩
    generalize cmpVer ⟨a1, a2, a3⟩ ⟨a1, b2, b3⟩ = q at hc ⊢
    by_cases h4 : q < 0
    · simp -dsimp [I, Tt, h4]
      exact hq ⟨by simp [Tt, hc.1 h4], fr _⟩
    · have h5 : belowV ⟨a1, a2, a3⟩ ⟨a1, b2, b3⟩ = false := by
        cases e : belowV ⟨a1, a2, a3⟩ ⟨a1, b2, b3⟩ with
        | false => rfl
        | true => exact absurd (hc.2 e) h4
      simp -dsimp [I, Tt, h4]
      exact hq ⟨by simp [Tt, h5], fr _⟩
  · rintro d m' n' ⟨rfl, h⟩
    exact ⟨_, (pur_T _).pub, h, rfl⟩
theorem mayV_parts {v : Ver} (h : mayV v = true) : (0 < v.major ∧ v.major ≤ 999999999) ∧ (0 ≤ v.minor ∧ v.minor ≤ 999999999) ∧ 0 ≤ v.patch ∧ v.patch ≤ 999999999 := by
  simp only [mayV, partOk, Bool.and_eq_true, decide_eq_true_eq] at h
  omega
theorem textV_len (v : Ver) : (textV v).length ≤ 62 := by
  have h1 := digits_len v.major.toNat
  have h2 := digits_len v.minor.toNat
  have h3 := digits_len v.patch.toNat
  simp [textV]; omega
set_option maxHeartbeats 1000000 in
theorem cPrintV (v : Ver) (m : Mem) (n : Nat) : ACalls Tryz.prog 42 [.agg (verD v)] m n (fun d m' n' => d = .tup [S (if mayV v then textV v else []), argE (mayV v)] ∧ m' = m ∧ n' = n) := by
  refine acalls_done (R' := Hq (fun d m' n' => d = .tup [S (if mayV v then textV v else []), argE (mayV v)] ∧ ∀ j, j < n → m' j = m j) tg) ?_ ?_
  · obtain ⟨a, b, c⟩ := v
    have fr : ∀ o j, j < n → (m.set n o) j = m j := fun o j hj => by rw [set_ne _ _ _ _ (by omega)]
    have c0 := fun m n => cMayV ⟨a, b, c⟩ m n
    simp only [verD] at c0 ⊢
    refine acalls_vc [0, 1, 2, 3, 6] Tryz.func42 Tryz.ntmps42 (by kernel_rfl) rfl rfl (by simp) ?_
    simp -dsimp [I]
    refine aCall_of (c0 _ _) ?_
    rintro d m' n' ⟨rfl, rfl, rfl⟩
    cases hm : mayV ⟨a, b, c⟩ with
    | false =>
      simp -dsimp [I, Tt]
      exact hq ⟨by simp [S, argE, code, I], fr _⟩
    | true =>
    obtain ⟨p1, p2, p3, p4⟩ := mayV_parts hm
    simp only at p1 p2 p3 p4
    have c1 := fun m n => cItoa (i := a) (by omega) (by omega) m n
    have c2 := fun m n => cItoa (i := b) (by omega) (by omega) m n
    have c3 := fun m n => cItoa (i := c) (by omega) (by omega) m n
    have l1 := digits_len a.toNat
    have l2 := digits_len b.toNat
    have l3 := digits_len c.toNat
    simp only [textV]
    generalize digits a.toNat = x1 at c1 l1 ⊢
    generalize digits b.toNat = x2 at c2 l2 ⊢
    generalize digits c.toNat = x3 at c3 l3 ⊢
    simp -dsimp [I, Tt]
    refine vdraw_tree [0, 1, 3, 7, 0, 16, 55, 127, 255, 0, 512, 1655, 4095, 8191, 16383] (.rd 0 (.rd 1 (.rd 4 (.rd 5 (.rd 9 (.rd 10 (.wr (.cons 2 (.rd 3 (.wr (.cons 6 (.rd 7 (.rd 8 (.wr (.cons 11 (.rd 12 (.rd 13 (.rd 14 (.fin)))) (.nil))))) (.nil)))) (.nil))))))))) (by kernel_rfl) (by kernel_rfl) ?_
    simp -dsimp [I]
    repeat' (with_reducible apply And.intro)
    all_goals (first | omega | refine aCall_of (c1 _ _) ?_ | refine aCall_of (c2 _ _) ?_ | refine aCall_of (c3 _ _) ?_)
    all_goals (rintro d m' n' ⟨rfl, rfl, rfl⟩; simp -dsimp [I, S])
    all_goals (repeat' (with_reducible apply And.intro))
    all_goals (first | omega | refine aCall_of (c1 _ _) ?_ | refine aCall_of (c2 _ _) ?_ | refine aCall_of (c3 _ _) ?_)
    all_goals (rintro d m' n' ⟨rfl, rfl, rfl⟩; simp -dsimp [I, S])
    all_goals (repeat' (with_reducible apply And.intro))
    all_goals (first | omega | refine aCall_of (c1 _ _) ?_ | refine aCall_of (c2 _ _) ?_ | refine aCall_of (c3 _ _) ?_)
    all_goals (rintro d m' n' ⟨rfl, rfl, rfl⟩; simp -dsimp [I, S])
    all_goals (repeat' (with_reducible apply And.intro))
    all_goals (first | omega | exact hq ⟨by simp [S, argE, nilE], fr _⟩)
  · rintro d m' n' ⟨rfl, h⟩
    refine ⟨_, pub_pair (pur_S _).pub ?_, h, rfl⟩
    unfold argE
    cases mayV v
    · exact (pur_code _).pub
    · exact pur_nilE.pub
set_option maxHeartbeats 1000000 in
theorem cRPrintV (v : Ver) (hm : mayV v = true) (m : Mem) (n : Nat) : ACalls Tryz.prog 51 [.agg (verD v)] m n (fun d m' n' => d = S (textV v) ∧ m' = m ∧ n' = n) := by
  refine acalls_done (R' := Hq (fun d m' n' => d = S (textV v) ∧ ∀ j, j < n → m' j = m j) tg) ?_ ?_
  · obtain ⟨a, b, c⟩ := v
    have fr : ∀ o j, j < n → (m.set n o) j = m j := fun o j hj => by rw [set_ne _ _ _ _ (by omega)]
    obtain ⟨p1, p2, p3, p4⟩ := mayV_parts hm
    simp only at p1 p2 p3 p4
    have c1 := fun m n => cDigitsI (j := a) (by omega) (by omega) m n
    have c2 := fun m n => cDigitsI (j := b) (by omega) (by omega) m n
    have c3 := fun m n => cDigitsI (j := c) (by omega) (by omega) m n
    have l1 := digits_len a.toNat
    have l2 := digits_len b.toNat
    have l3 := digits_len c.toNat
    simp only [textV, verD]
    generalize digits a.toNat = x1 at c1 l1 ⊢
    generalize digits b.toNat = x2 at c2 l2 ⊢
    generalize digits c.toNat = x3 at c3 l3 ⊢
    refine acalls_vc [0, 1, 2] Tryz.func51 Tryz.ntmps51 (by kernel_rfl) rfl rfl (by simp) ?_
    simp -dsimp [I, Tt]
    refine vdraw_tree [0, 1, 3, 7, 0, 16, 55, 127, 255, 0, 512, 1655, 4095, 8191] (.rd 0 (.rd 1 (.rd 4 (.rd 5 (.rd 9 (.rd 10 (.wr (.cons 2 (.rd 3 (.wr (.cons 6 (.rd 7 (.rd 8 (.wr (.cons 11 (.rd 12 (.rd 13 (.fin))) (.nil))))) (.nil)))) (.nil))))))))) (by kernel_rfl) (by kernel_rfl) ?_
    simp -dsimp [I]
    repeat' (with_reducible apply And.intro)
    all_goals (first | omega | refine aCall_of (c1 _ _) ?_ | refine aCall_of (c2 _ _) ?_ | refine aCall_of (c3 _ _) ?_)
    all_goals (rintro d m' n' ⟨rfl, rfl, rfl⟩; simp -dsimp [I, S])
    all_goals (repeat' (with_reducible apply And.intro))
    all_goals (first | omega | refine aCall_of (c1 _ _) ?_ | refine aCall_of (c2 _ _) ?_ | refine aCall_of (c3 _ _) ?_)
    all_goals (rintro d m' n' ⟨rfl, rfl, rfl⟩; simp -dsimp [I, S])
    all_goals (repeat' (with_reducible apply And.intro))
    all_goals (first | omega | refine aCall_of (c1 _ _) ?_ | refine aCall_of (c2 _ _) ?_ | refine aCall_of (c3 _ _) ?_)
    all_goals (rintro d m' n' ⟨rfl, rfl, rfl⟩; simp -dsimp [I, S])
    all_goals (repeat' (with_reducible apply And.intro))
    all_goals (first | omega | exact hq ⟨by simp [S], fr _⟩)
  · rintro d m' n' ⟨rfl, h⟩
    exact ⟨_, (pur_S _).pub, h, rfl⟩
end Go.Proofs.Mv.App
