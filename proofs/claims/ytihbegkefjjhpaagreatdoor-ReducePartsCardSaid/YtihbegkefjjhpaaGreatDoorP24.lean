/- A part of the proofs: machine, contracts, laws. No condition of its own. -/
import Derived.Test.YtihbegkefjjhpaaGreatDoorP21
import Derived.Test.YtihbegkefjjhpaaGreatDoorP22
import Derived.Test.YtihbegkefjjhpaaGreatDoorP23
import Derived.Test.YtihbegkefjjhpaaGreatDoorP19
set_option linter.unusedSimpArgs false
set_option linter.unusedVariables false
set_option linter.unusedSectionVars false
open Go Go.Proofs Go.Proofs.Mv.V
set_option maxRecDepth 10000
namespace Go.Proofs.Mv.App
theorem own_code {l : List Df} {k : Int} {mod nm : List UInt8} {names vars : Nms} {subs : List Tm} : (ownS l k mod nm names vars subs).1 = 0 ∨ (ownS l k mod nm names vars subs).1 = 9 ∨ (ownS l k mod nm names vars subs).1 = 12 := by
  unfold ownS
  simp only
  repeat' split
  all_goals simp
mutual
theorem step_code {l : List Df} : ∀ t : Tm, (stepT l t).1 = 0 ∨ (stepT l t).1 = 9 ∨ (stepT l t).1 = 12
  | .mk k N mod nm names vars types subs => by
    simp only [stepT]
    split
    · rename_i c l' hm
      split at hm
      · cases hm
      split at hm
      · exact step_code1 subs c l' hm
      · exact step_codeL subs c l' hm
    · exact own_code
theorem step_codeL {l : List Df} : ∀ (ts : List Tm) (c : Int) (l' : List Tm), stepL l ts = some (c, l') → c = 0 ∨ c = 9 ∨ c = 12
  | [], c, l', h => by simp only [stepL] at h; cases h
  | t :: ts, c, l', h => by
    simp only [stepL] at h
    split at h
    · obtain ⟨⟨c', l2⟩, h1, h2⟩ := Option.map_eq_some_iff.1 h
      simp only [Prod.mk.injEq] at h2
      obtain ⟨rfl, rfl⟩ := h2
      exact step_codeL ts _ _ h1
    · simp only [Option.some.injEq, Prod.mk.injEq] at h
      obtain ⟨rfl, rfl⟩ := h
      exact step_code t
theorem step_code1 {l : List Df} : ∀ (ts : List Tm) (c : Int) (l' : List Tm), step1 l ts = some (c, l') → c = 0 ∨ c = 9 ∨ c = 12
  | [], c, l', h => by simp only [step1] at h; cases h
  | t :: ts, c, l', h => by
    simp only [step1] at h
    split at h
    · cases h
    · simp only [Option.some.injEq, Prod.mk.injEq] at h
      obtain ⟨rfl, rfl⟩ := h
      exact step_code t
end
theorem cCodeN [GI] (c : Int) (h0 : 0 < c) (h1 : c ≤ 12) : Pc Tryz.prog 26 [.iface 39 (.v (.int .i64 c))] (I c) := by
  refine pc_of (pur_I _) (fun m n => ?_)
  refine acalls_vc [0, 2, 3, 5, 7, 13] Tryz.func26 Tryz.ntmps26 (by kernel_rfl) rfl rfl (by simp) ?_
  have hc : ¬ c = 0 := by omega
  simp -dsimp
  refine vloop_as (β := Nat) (fun i => [(0, .iface 39 (.v (.int .i64 c))), (3, I i)]) (fun i m2 n2 => 1 ≤ i ∧ (i : Int) ≤ c ∧ m2 = m ∧ n2 = n) (fun i => 13 - i) 1 (by simp [I]) ⟨by omega, by omega, rfl, rfl⟩ ?_
  rintro i m2 n2 ⟨hi, hi2, rfl, rfl⟩
  have q : ¬ (12 : Int) < i := by omega
  have q' : (i : Int) ≤ 12 := by omega
  have wi : IntKind.i64.wrap ((i : Int) + 1) = (i : Int) + 1 := wrap_i64 (by omega) (by omega)
  by_cases e : c = i
  · have eb : (c == (i : Int)) = true := by simpa using e
    simp -dsimp [I, q, q', eb, e]
    exact pcq' (by first | rfl | rw [e])
  · have eb : (c == (i : Int)) = false := by simpa using e
    simp -dsimp [I, q, q', eb, e, wi]
    exact rnd (i + 1) (by omega) (by simp [I]) ⟨by omega, by omega, rfl, rfl⟩
end Go.Proofs.Mv.App
open Go Go.Proofs Go.Proofs.Mv.V
set_option maxRecDepth 10000
namespace Go.Proofs.Mv.App
def runK (l : List Df) : Nat → Tm → Int × Nat × Tm
  | 0, t => if valT t then (0, 0, t) else (8, 0, Tm0)
  | k + 1, t => if valT t then (0, 0, t) else if (onceF l t).1 ≠ 0 then ((onceF l t).1, 0, Tm0) else ((runK l k (onceF l t).2.2).1, (runK l k (onceF l t).2.2).2.1 + 1, (runK l k (onceF l t).2.2).2.2)
def runF (l : List Df) (t : Tm) (fuel : Int) : Int × Nat × Tm := if fairF l t = true ∧ 0 ≤ fuel ∧ fuel ≤ 10000 then runK l fuel.toNat t else (1, 0, Tm0)
def resRn [GI] (r : Int × Nat × Tm) : D := .tup [.agg (tmD r.2.2), I r.2.1, erC r.1]
theorem pub_resRn [GI] {n : Nat} {m : Mem} {d e : D} {i : Int} {r : Int × Nat × Tm} (h1 : PubAs n m d (.agg (tmD r.2.2))) (h2 : i = r.2.1) (h3 : e = erC r.1) : PubAs n m (.tup [d, .v (.int .i64 i), e]) (resRn r) := by
  subst h2 h3
  refine .tup (.cons h1 (.cons (pur_I _).pub (.cons ?_ .nil)))
  unfold erC
  split
  · exact (Pur.v _).pub
  · exact (Pur.iface (Pur.v _)).pub
structure RunL [GI] (l : List Df) (t : Tm) (F : Nat) (m : Mem) (n : Nat) (b : Nat × Tm) (m3 : Mem) (n3 : Nat) : Prop where
  o0 : m3 n = some ⟨8, [tmD b.2], 0⟩
  o1 : m3 (n + 1) = some zTo
  fr : ∀ j, j < n → m3 j = m j
  nn : n + 2 ≤ n3
  le : b.1 ≤ F
  w : TmW b.2
  al : allTm b.2 = true
  eq : runK l F t = ((runK l (F - b.1) b.2).1, (runK l (F - b.1) b.2).2.1 + b.1, (runK l (F - b.1) b.2).2.2)
theorem once_all {l : List Df} {t : Tm} (hv : valT t = false) (h0 : (onceF l t).1 = 0) : allTm (onceF l t).2.2 = true := by
  unfold onceF at h0 ⊢
  rw [hv] at h0 ⊢
  simp only [Bool.false_eq_true, if_false] at h0 ⊢
  by_cases h1 : (stepT l t).1 ≠ 0
  · rw [if_pos h1] at h0; exact absurd h0 h1
  rw [if_neg h1] at h0 ⊢
  by_cases h2 : mayTm (stepT l t).2 = true
  · rw [if_pos h2]
    simp only [mayTm, Bool.and_eq_true] at h2
    exact h2.1.1
  · rw [if_neg h2] at h0
    simp at h0
set_option maxHeartbeats 4000000 in
theorem cRunR {l : List Df} (hl : l.length ≤ 9223372036854775807) (hd : ∀ d ∈ l, TmW d.term) {t : Tm} (ht : TmW t) {fuel : Int} : Pc Tryz.prog 27 [.sl 10 (l.map dfD), .agg (tmD t), I fuel] (resRn (runF l t fuel)) := by
  refine pc_pub (fun m n => ?_)
  have nn1 : n ≠ n + 1 := by omega
  have n1n : n + 1 ≠ n := by omega
  have hfr := cFairW hl hd ht
  have h8 : (tmD t).length = 8 := by simp
  by_cases hgo : fairF l t = true ∧ 0 ≤ fuel ∧ fuel ≤ 10000
  case neg =>
    have ho : runF l t fuel = (1, 0, Tm0) := by unfold runF; rw [if_neg hgo]
    rw [ho]
    have hcs : fairF l t = false ∨ (fairF l t = true ∧ fuel < 0) ∨ (fairF l t = true ∧ ¬ fuel < 0 ∧ 10000 < fuel) := by
      cases hf : fairF l t with
      | false => exact .inl rfl
      | true =>
        rw [hf] at hgo
        by_cases h0 : fuel < 0
        · exact .inr (.inl ⟨rfl, h0⟩)
        · exact .inr (.inr ⟨rfl, h0, by by_cases h : 10000 < fuel; exact h; exact absurd ⟨rfl, by omega, by omega⟩ hgo⟩)
    generalize tmD t = T at hfr h8
    have hT : List.take 8 T = T := List.take_of_length_le (by omega)
    refine acalls_vcC [0, 1, 2, 4, 6, 7, 8, 9, 10, 12, 24, 30, 36, 48] Tryz.func27 Tryz.ntmps27 (by kernel_rfl) rfl rfl (by simp) ?_
    simp -dsimp [I, h8, hT, set_ne, nn1, n1n]
    refine pcall hfr ?_
    rcases hcs with h1 | ⟨h1, h2⟩ | ⟨h1, h2, h3⟩
    · rw [h1]
      simp -dsimp [I, Tt, h8, hT, set_ne, nn1, n1n]
      exact pcp (pub_resRn (r := (1, 0, Tm0)) pub_zt rfl (by simp [erC, code])) fun j hj => by simp [set_ne, show j ≠ n by omega, show j ≠ n + 1 by omega]
    · rw [h1]
      simp -dsimp [I, Tt, h2, h8, hT, set_ne, nn1, n1n]
      exact pcp (pub_resRn (r := (1, 0, Tm0)) pub_zt rfl (by simp [erC, code])) fun j hj => by simp [set_ne, show j ≠ n by omega, show j ≠ n + 1 by omega]
    · rw [h1]
      simp -dsimp [I, Tt, h2, h3, h8, hT, set_ne, nn1, n1n]
      exact pcp (pub_resRn (r := (1, 0, Tm0)) pub_zt rfl (by simp [erC, code])) fun j hj => by simp [set_ne, show j ≠ n by omega, show j ≠ n + 1 by omega]
  obtain ⟨hf, hf0, hf1⟩ := hgo
  have ho : runF l t fuel = runK l fuel.toNat t := by unfold runF; rw [if_pos ⟨hf, hf0, hf1⟩]
  rw [ho]
  rw [hf] at hfr
  obtain ⟨F, rfl⟩ : ∃ F : Nat, fuel = F := ⟨fuel.toNat, by omega⟩
  simp only [Int.toNat_natCast]
  have g0 : ¬ (F : Int) < 0 := by omega
  have g1 : ¬ (10000 : Int) < (F : Int) := by omega
  have hTe : ∃ T, T = tmD t := ⟨_, rfl⟩
  obtain ⟨T, hTe⟩ := hTe
  rw [← hTe] at hfr h8 ⊢
  have hT : List.take 8 T = T := List.take_of_length_le (by omega)
  refine acalls_vcC [0, 1, 2, 4, 6, 7, 8, 9, 10, 12, 24, 30, 36, 48] Tryz.func27 Tryz.ntmps27 (by kernel_rfl) rfl rfl (by simp) ?_
  simp -dsimp [I, h8, hT, set_ne, nn1, n1n]
  refine pcall hfr ?_
  simp -dsimp [I, Tt, g0, g1, h8, hT, set_ne, nn1, n1n]
  refine vloop_as (β := Nat × Tm) (fun b => [(0, .sl 10 (l.map dfD)), (2, I F), (4, .ptr n 0 0 0), (6, .ptr (n + 1) 0 0 0), (9, I b.1)]) (RunL l t F m n) (fun b => F + 1 - b.1) (0, t) (by simp [I])
    ⟨by rw [set_ne _ _ _ _ nn1, hTe]; simp, by simp [zTo], fun j hj => by simp [set_ne, show j ≠ n by omega, show j ≠ n + 1 by omega], by omega, by omega, ht, fair_all hf, by simp⟩ ?_
  clear hTe hT hfr h8
  rintro ⟨j, x⟩ m3 n3 ⟨o0, o1, pfr, pnn, jle, xw, xa, heq⟩
  simp only at o0 jle xw xa heq
  have x0 : n ≠ n3 := by omega
  have x1 : n + 1 ≠ n3 := by omega
  have hdn := cDone xw
  have hon := cOnce hl hd xw xa
  have hcp := cCopied xw (all_c _ xa)
  have hx8 : (tmD x).length = 8 := by simp
  have hpx := pur_tmA x
  have hPx : ∀ Y, Y = tmD x → ∀ n (m : Mem), PubAs n m (.agg Y) (.agg (tmD x)) := fun Y h n m => by subst h; exact hpx.pub
  have wj : IntKind.i64.wrap ((j : Int) + 1) = (j : Int) + 1 := wrap_i64 (by omega) (by omega)
  cases hv : valT x with
  | true =>
    have hr : runK l F t = (0, j, x) := by
      rw [heq]
      have : ∀ k, runK l k x = (0, 0, x) := fun k => by cases k <;> simp [runK, hv]
      rw [this]; simp
    rw [hr]
    rw [hv] at hdn
    generalize hXX : tmD x = X at o0 hdn hcp hx8
    have hX : List.take 8 X = X := List.take_of_length_le (by omega)
    simp -dsimp [I, o0, o1, hx8, hX, set_ne]
    refine pcall hdn ?_
    simp -dsimp [I, Tt, o0, o1, hx8, hX, set_ne]
    refine pcall hcp ?_
    simp -dsimp [I, Tt, o0, o1, zTo, hx8, hX, set_ne]
    exact pcp (pub_resRn (r := (0, j, x)) (hPx X hXX.symm _ _) rfl (by simp [erC, nilE])) fun i hi => by rw [set_ne _ _ _ _ (by omega)]; exact pfr i hi
  | false =>
    rw [hv] at hdn
    by_cases hjF : j = F
    · subst hjF
      have hr : runK l j t = (8, j, Tm0) := by
        rw [heq]
        simp [runK, hv]
      rw [hr]
      generalize tmD x = X at o0 hdn hx8
      have hX : List.take 8 X = X := List.take_of_length_le (by omega)
      simp -dsimp [I, o0, o1, hx8, hX, set_ne]
      refine pcall hdn ?_
      simp -dsimp [I, Tt, o0, o1, zTo, hx8, hX, set_ne]
      exact pcp (pub_resRn (r := (8, j, Tm0)) pub_zt rfl (by simp [erC, code])) fun i hi => by rw [set_ne _ _ _ _ (by omega)]; exact pfr i hi
    · have hjb : ((j : Int) == (F : Int)) = false := by simp; omega
      have hji : ¬ (j : Int) = (F : Int) := by omega
      obtain ⟨k, hk⟩ : ∃ k, F - j = k + 1 := ⟨F - j - 1, by omega⟩
      have hk2 : F - (j + 1) = k := by omega
      have hz := onceF_z (l := l) (t := x)
      have hY8 : (tmD (onceF l x).2.2).length = 8 := by simp
      unfold resTb at hon
      by_cases h0 : (onceF l x).1 = 0
      · have hon2 := hon
        rw [h0, show erC (0 : Int) = .v .nilIface by simp [erC, nilE]] at hon
        have hyw := once_w (l := l) hd xw
        have hya := once_all hv h0
        have hnx : runK l F t = ((runK l (F - (j + 1)) (onceF l x).2.2).1, (runK l (F - (j + 1)) (onceF l x).2.2).2.1 + (j + 1), (runK l (F - (j + 1)) (onceF l x).2.2).2.2) := by
          rw [heq, hk, hk2]
          simp only [runK, hv, Bool.false_eq_true, if_false, h0, ne_eq, not_true_eq_false]
          congr 2
          omega
        generalize hYY : tmD (onceF l x).2.2 = Y at hon hY8
        have hY : List.take 8 Y = Y := List.take_of_length_le (by omega)
        generalize tmD x = X at o0 hdn hon hx8
        have hX : List.take 8 X = X := List.take_of_length_le (by omega)
        have hdX : List.drop 8 X = [] := List.drop_eq_nil_of_le (by omega)
        simp -dsimp [I, o0, o1, hx8, hX, set_ne]
        refine pcall hdn ?_
        simp -dsimp [I, Tt, hjb, hji, o0, o1, hx8, hX, set_ne]
        refine pcall hon ?_
        simp -dsimp [I, Tt, hjb, hji, o0, o1, hx8, hX, hdX, hY8, hY, wj, set_ne, x0, x1, x0.symm, x1.symm]
        refine rnd (j + 1, (onceF l x).2.2) (by simp; omega) (by simp [I]) ⟨?_, ?_, fun i hi => ?_, by omega, by simp only; omega, hyw, hya, hnx⟩
        · simp only; rw [hYY]; simp
        · rw [set_ne _ _ _ _ (by omega), set_ne _ _ _ _ (by omega)]; exact o1
        · rw [set_ne _ _ _ _ (by omega), set_ne _ _ _ _ (by omega)]; exact pfr i hi
      · have hz := hz h0
        have hE : erC (onceF l x).1 = .iface 39 (.v (.int .i64 (onceF l x).1)) := by simp [erC, code, h0]
        rw [hE] at hon
        have hr : runK l F t = ((onceF l x).1, j, Tm0) := by
          rw [heq, hk]
          simp [runK, hv, h0]
        rw [hr]
        generalize tmD (onceF l x).2.2 = Y at hon hY8
        have hY : List.take 8 Y = Y := List.take_of_length_le (by omega)
        generalize tmD x = X at o0 hdn hon hx8
        have hX : List.take 8 X = X := List.take_of_length_le (by omega)
        simp -dsimp [I, o0, o1, hx8, hX, set_ne]
        refine pcall hdn ?_
        simp -dsimp [I, Tt, hjb, hji, o0, o1, hx8, hX, set_ne]
        refine pcall hon ?_
        simp -dsimp [I, Tt, hjb, hji, o0, o1, zTo, hx8, hX, hY8, hY, set_ne, x0, x1, x0.symm, x1.symm]
        exact pcp (pub_resRn (r := ((onceF l x).1, j, Tm0)) pub_zt rfl hE.symm) fun i hi => by rw [set_ne _ _ _ _ (by omega), set_ne _ _ _ _ (by omega)]; exact pfr i hi
end Go.Proofs.Mv.App
