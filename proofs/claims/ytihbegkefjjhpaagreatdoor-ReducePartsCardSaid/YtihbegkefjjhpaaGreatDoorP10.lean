/- A part of the proofs: machine, contracts, laws. No condition of its own. -/
import Derived.Test.YtihbegkefjjhpaaGreatDoorP09
import Derived.Test.YtihbegkefjjhpaaGreatDoorP00
set_option linter.unusedSimpArgs false
set_option linter.unusedVariables false
set_option linter.unusedSectionVars false
open Go Go.Proofs Go.Proofs.Mv.V
set_option maxRecDepth 10000
namespace Go.Proofs.Mv.App
variable [GI]
structure CntInv (kind : Int) (pkg : List UInt8) (major : Int) (mod name : List UInt8) (NL SL : List (List D)) (subs : List Ty) (depth most : Int) (m : Mem) (n : Nat) (i : Nat) (σ : Nat → D) (m2 : Mem) (n2 : Nat) : Prop where
  h1 : σ 1 = I depth
  h2 : σ 2 = I most
  h3 : σ 3 = .ptr n 0 0 0
  h7 : σ 7 = I (1 + manyTs (subs.take i))
  h23 : σ 23 = .sl 7 SL
  h24 : σ 24 = I subs.length
  h25 : σ 25 = I i
  le : i ≤ subs.length
  ok : CntOk subs depth most i
  nn : n + 1 ≤ n2
  fr : ∀ j, j < n → m2 j = m j
set_option maxHeartbeats 2000000 in
theorem cCount {t : Ty} (ht : TyW t) : ∀ (depth most : Int) (m : Mem) (n : Nat), depth ≤ 1000000 → 0 ≤ depth → most ≤ 1000000 → -1000000 ≤ most → ACalls Tryz.prog 190 [.agg (tyD t), I depth, I most] m n (fun d m' n' => d = I (cntT t depth most) ∧ m' = m ∧ n' = n) := by
  induction ht with
  | mk kind pkg major mod name names subs l1 l2 l3 l4 l5 l6 l7 ih =>
    intro depth most m n d1 d2 q1 q2
    refine acalls_done (R' := Hq (fun d m' n' => d = I (cntT (.mk kind pkg major mod name names subs) depth most) ∧ ∀ j, j < n → m' j = m j) tg) ?_ ?_
    · have fr : ∀ o j, j < n → (m.set n o) j = m j := fun o j hj => by rw [set_ne _ _ _ _ (by omega)]
      have hL2 : (tysD subs).length = subs.length := by rw [tysD_eq]; simp
      have hG2 : ∀ i (h : i < subs.length), (tysD subs)[i]? = some (tyD subs[i]) := fun i h => by rw [tysD_eq]; simp [h]
      have hcs := fun m n => cShape (.mk kind pkg major mod name names subs l1 l2 l3 l4 l5 l6 l7) m n
      have hno : ∀ h, cntT (.mk kind pkg major mod name names subs) depth most = 0 := fun h => cntT_no h
      have hst : ∀ {i : Nat} (hi : i < subs.length), cntT subs[i] (depth - 1) (most - (1 + manyTs (subs.take i))) = 0 → cntT (.mk kind pkg major mod name names subs) depth most = 0 := fun hi h => CntOk.stop hi h
      have hal : ∀ {i : Nat}, shapeT (.mk kind pkg major mod name names subs) = true → CntOk subs depth most i → subs.length ≤ i → cntT (.mk kind pkg major mod name names subs) depth most = 1 + manyTs subs := fun h1 h2 h3 => CntOk.all h1 h2 h3
      simp only [tyD, sl1] at hcs ⊢
      generalize cntT (.mk kind pkg major mod name names subs) depth most = CT at hno hst hal
      generalize shapeT (.mk kind pkg major mod name names subs) = SH at hno hcs hal
      generalize (names.map fun s => [S s]) = NL at hcs
      generalize tysD subs = SL at hL2 hG2 hcs
      refine acalls_vc [0, 1, 2, 3, 6, 7, 9, 10, 21, 23, 24, 25, 26, 37] Tryz.func190 Tryz.ntmps190 (by kernel_rfl) rfl rfl (by simp) ?_
      by_cases c1 : depth < 1
      · simp -dsimp [I, c1]
        exact hq ⟨by rw [hno (.inl c1)]; rfl, fr _⟩
      by_cases c2 : most < 1
      · simp -dsimp [I, c1, c2]
        exact hq ⟨by rw [hno (.inr (.inl c2))]; rfl, fr _⟩
      simp -dsimp [I, c1, c2]
      refine aCall_of (hcs _ _) ?_
      rintro d m' n' ⟨rfl, rfl, rfl⟩
      cases hS : SH with
      | false =>
        simp -dsimp [I, c1, c2, Tt]
        exact hq ⟨by rw [hno (.inr (.inr hS))]; rfl, fr _⟩
      | true =>
      simp -dsimp [I, c1, c2, Tt]
      refine vloop_of (β := Nat) (CntInv kind pkg major mod name NL SL subs depth most m n) (fun i => subs.length - i) 0 ⟨by simp [I], by simp [I], by simp, by simp [I, manyTs], by simp, by simp [I, hL2], by simp [I], by omega, CntOk.zero (by omega) (by omega), by omega, fr _⟩ ?_
      rintro i σ m2 n2 ⟨h1, h2, h3, h7, h23, h24, h25, le, ok, nn, fr2⟩
      by_cases hi : (i : Int) < subs.length
      · have hi' : i < subs.length := by omega
        have wi : IntKind.i64.wrap ((i : Int) + 1) = (i : Int) + 1 := wrap_i64 (by omega) (by omega)
        have hiN : i < SL.length := by omega
        have hgi : SL[i] = tyD subs[i] := get_opt (hG2 i hi') hiN
        have hsn := manyTs_snoc (subs.take i) subs[i]
        rw [← take_snoc hi'] at hsn
        have hmn := ok.mn
        have hstp := ok.step hi'
        have hs0 := hst hi'
        have hih := fun m n => ih subs[i] (List.getElem_mem hi') (depth - 1) (most - (1 + manyTs (subs.take i))) m n (by omega) (by omega) (by omega) (by omega)
        have hcl := cntT_le subs[i] (depth - 1) (most - (1 + manyTs (subs.take i)))
        have hce := cntT_eq (t := subs[i]) (d := depth - 1) (q := most - (1 + manyTs (subs.take i)))
        have wd : IntKind.i64.wrap (depth - 1) = depth - 1 := wrap_i64 (by omega) (by omega)
        have wm : IntKind.i64.wrap (most - (1 + (manyTs (subs.take i) : Int))) = most - (1 + (manyTs (subs.take i) : Int)) := wrap_i64 (by omega) (by omega)
        have h77 := tyD_len subs[i]
        generalize tyD subs[i] = TT at hgi hih h77
        have ht7 : List.take 7 TT = TT := List.take_of_length_le (by omega)
        simp -dsimp [h1, h2, h3, h7, h23, h24, h25, I, hi, hi', hiN, hgi, h77, ht7, wd, wm]
        refine aCall_of (hih _ _) ?_
        rintro d m' n' ⟨rfl, rfl, rfl⟩
        generalize cntT subs[i] (depth - 1) (most - (1 + manyTs (subs.take i))) = CK at hstp hs0 hcl hce
        by_cases c3 : CK = 0
        · have c3' : (CK == 0) = true := by simpa using c3
          simp -dsimp [h1, h2, h3, h7, h23, h24, h25, I, c3']
          exact hq ⟨by rw [hs0 c3]; rfl, fun j hj => by rw [set_ne _ _ _ _ (by omega)]; exact fr2 j hj⟩
        · have hke := (hce c3).1
          have c3' : (CK == 0) = false := by simpa using c3
          have hcl2 := hcl.2 (by omega)
          have ws : IntKind.i64.wrap (1 + (manyTs (subs.take i) : Int) + CK) = 1 + (manyTs (subs.take i) : Int) + CK := wrap_i64 (by omega) (by omega)
          simp -dsimp [h1, h2, h3, h7, h23, h24, h25, I, c3', ws, wi]
          refine ⟨i + 1, by omega, by simp [I], by simp [I], by simp, by simp [I, hsn]; omega, by simp, by simp [I], by simp [I], by omega, hstp c3, by omega, fun j hj => by rw [set_ne _ _ _ _ (by omega)]; exact fr2 j hj⟩
      · have ht : subs.take i = subs := List.take_of_length_le (by omega)
        rw [ht] at h7
        simp -dsimp [h1, h2, h3, h7, h23, h24, h25, I, hi]
        exact hq ⟨by rw [hal hS ok (by omega)]; rfl, fr2⟩
    · rintro d m' n' ⟨rfl, h⟩
      exact ⟨_, (pur_I _).pub, h, rfl⟩
theorem cSize {t : Ty} (ht : TyW t) (m : Mem) (n : Nat) : ACalls Tryz.prog 160 [.agg (tyD t)] m n (fun d m' n' => d = I (cntT t 32 500) ∧ m' = m ∧ n' = n) := by
  refine acalls_done (R' := Hq (fun d m' n' => d = I (cntT t 32 500) ∧ ∀ j, j < n → m' j = m j) tg) ?_ ?_
  · have h7 := tyD_len t
    have hc := fun m n => cCount ht 32 500 m n (by omega) (by omega) (by omega) (by omega)
    generalize tyD t = TT at h7 hc
    have ht7 : List.take 7 TT = TT := List.take_of_length_le (by omega)
    refine acalls_vc [0, 1, 2] Tryz.func160 Tryz.ntmps160 (by kernel_rfl) rfl rfl (by simp) ?_
    simp -dsimp [h7, ht7]
    refine aCall_of (hc _ _) ?_
    rintro d m' n' ⟨rfl, rfl, rfl⟩
    simp -dsimp [I]
    exact hq ⟨rfl, fun j hj => by rw [set_ne _ _ _ _ (by omega)]⟩
  · rintro d m' n' ⟨rfl, h⟩
    exact ⟨_, (pur_I _).pub, h, rfl⟩
theorem cMay {t : Ty} (ht : TyW t) (m : Mem) (n : Nat) : ACalls Tryz.prog 121 [.agg (tyD t)] m n (fun d m' n' => d = Tt (mayT t) ∧ m' = m ∧ n' = n) := by
  refine acalls_done (R' := Hq (fun d m' n' => d = Tt (mayT t) ∧ ∀ j, j < n → m' j = m j) tg) ?_ ?_
  · have h7 := tyD_len t
    have hc := fun m n => cSize ht m n
    generalize tyD t = TT at h7 hc
    have ht7 : List.take 7 TT = TT := List.take_of_length_le (by omega)
    refine acalls_vc [0, 1, 2] Tryz.func121 Tryz.ntmps121 (by kernel_rfl) rfl rfl (by simp) ?_
    simp -dsimp [h7, ht7]
    refine aCall_of (hc _ _) ?_
    rintro d m' n' ⟨rfl, rfl, rfl⟩
    simp -dsimp [I]
    exact hq ⟨by simp [Tt, mayT_cnt], fun j hj => by rw [set_ne _ _ _ _ (by omega)]⟩
  · rintro d m' n' ⟨rfl, h⟩
    exact ⟨_, (pur_T _).pub, h, rfl⟩
end Go.Proofs.Mv.App
open Go Go.Proofs Go.Proofs.Mv.V
set_option maxRecDepth 10000
namespace Go.Proofs.Mv.App
end Go.Proofs.Mv.App
