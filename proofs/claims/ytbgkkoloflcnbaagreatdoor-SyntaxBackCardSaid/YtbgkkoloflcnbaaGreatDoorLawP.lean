/- A part of the proofs of the seat YtbgkkoloflcnbaaGreatDoor: the abstract machine, the contracts of the functions, the laws. No condition of its own. -/
import Derived.Test.YtbgkkoloflcnbaaGreatDoorLawS
import Derived.Test.YtbgkkoloflcnbaaGreatDoorTyH
import Derived.Test.YtbgkkoloflcnbaaGreatDoorTyG
set_option linter.unusedSimpArgs false
set_option linter.unusedVariables false
set_option linter.unusedSectionVars false
open Go Go.Proofs Go.Proofs.Mv.V
set_option maxRecDepth 10000
namespace Go.Proofs.Mv.App
set_option maxHeartbeats 1000000 in
theorem cSyntaxPrints {x : Md} (hx : MdW x) (m : Mem) (n : Nat) : ACalls Tryz.prog 7 [.agg (mdD x)] m n (fun d m' n' => d = Tt true ∧ m' = m ∧ n' = n) := by
  refine acalls_done (R' := Hq (fun d m' n' => d = Tt true ∧ ∀ j, j < n → m' j = m j) tg) ?_ ?_
  · have hln : (mdD x).length = 3 := rfl
    have h1 := fun m n => cFewM hx m n
    have h2 := fun m n => cPrintM hx m n
    have h3 := fun hf m n => cRMayM hx hf m n
    have h4 := fun m n => cMayM hx m n
    have h5 := fun hm m n => cRPrintM hx hm m n
    generalize mdD x = MM at hln h1 h2 h3 h4 h5
    have ht3 : List.take 3 MM = MM := List.take_of_length_le (by omega)
    refine acalls_vc [0, 1, 2, 3, 4, 5, 6, 7, 12, 22] Tryz.func7 Tryz.ntmps7 (by kernel_rfl) rfl rfl (by simp) ?_
    simp -dsimp [hln, ht3]
    refine aCall_of (cUpS _ _) ?_
    rintro d m' n' ⟨rfl, rfl, rfl⟩
    simp -dsimp [hln, ht3]
    refine aCall_of (h1 _ _) ?_
    rintro d m' n' ⟨rfl, rfl, rfl⟩
    cases hf : fewM x with
    | false =>
      simp -dsimp [Tt, hln, ht3]
      exact hq ⟨rfl, fun j hj => set_ne _ _ _ _ (by omega)⟩
    | true =>
    simp -dsimp [Tt, hln, ht3]
    refine aCall_of (h2 _ _) ?_
    rintro d m' n' ⟨rfl, rfl, rfl⟩
    simp -dsimp [Tt, hln, ht3]
    refine aCall_of (h3 hf _ _) ?_
    rintro d m' n' ⟨rfl, rfl, rfl⟩
    cases hm : mayM x with
    | false =>
      simp -dsimp [Tt, S, argE, hln, ht3]
      refine aCall_of (h4 _ _) ?_
      rintro d m' n' ⟨rfl, rfl, rfl⟩
      simp -dsimp [Tt, hm]
      exact hq ⟨rfl, fun j hj => set_ne _ _ _ _ (by omega)⟩
    | true =>
      simp -dsimp [Tt, S, argE, nilE, hln, ht3]
      refine aCall_of (h4 _ _) ?_
      rintro d m' n' ⟨rfl, rfl, rfl⟩
      simp -dsimp [Tt, hm, hln, ht3]
      refine aCall_of (h5 hm _ _) ?_
      rintro d m' n' ⟨rfl, rfl, rfl⟩
      simp -dsimp [Tt, S]
      exact hq ⟨rfl, fun j hj => set_ne _ _ _ _ (by omega)⟩
  · rintro d m' n' ⟨rfl, h⟩
    exact ⟨_, (pur_T _).pub, h, rfl⟩
theorem mod_done {s : List UInt8} : (modF s).2 = .none ∨ ∃ e, (modF s).2 = e ∧ e ≠ .none := by
  by_cases h : (modF s).2 = .none
  · exact .inl h
  · exact .inr ⟨_, rfl, h⟩
set_option maxHeartbeats 1000000 in
theorem cSyntaxBack {x : Md} (hx : MdW x) (s : List UInt8) (m : Mem) (n : Nat) : ACalls Tryz.prog 8 [.agg (mdD x), S s] m n (fun d m' n' => d = Tt true ∧ m' = m ∧ n' = n) := by
  refine acalls_done (R' := Hq (fun d m' n' => d = Tt true ∧ ∀ j, j < n → m' j = m j) tg) ?_ ?_
  · have hln : ∀ x, (mdD x).length = 3 := fun _ => rfl
    have ht3 : ∀ x, List.take 3 (mdD x) = mdD x := fun _ => List.take_of_length_le (by simp [hln])
    refine acalls_vc [0, 1, 2, 4, 5, 6, 7, 8, 9, 10, 11, 12, 13, 14, 15, 16, 17, 27, 39, 46, 59, 66] Tryz.func8 Tryz.ntmps8 (by kernel_rfl) rfl rfl (by simp) ?_
    simp -dsimp [hln, ht3]
    refine aCall_of (cUpS _ _) ?_
    rintro d m' n' ⟨rfl, rfl, rfl⟩
    simp -dsimp [hln, ht3]
    refine aCall_of (cFewM hx _ _) ?_
    rintro d m' n' ⟨rfl, rfl, rfl⟩
    cases hf : fewM x with
    | false =>
      simp -dsimp [Tt, hln, ht3]
      exact hq ⟨rfl, fun j hj => set_ne _ _ _ _ (by omega)⟩
    | true =>
    by_cases hl : (20000 : Int) < s.length
    · have hl' : 20000 < s.length := by omega
      simp -dsimp [Tt, S, hln, ht3, hl, hl']
      exact hq ⟨rfl, fun j hj => set_ne _ _ _ _ (by omega)⟩
    have hl' : ¬ 20000 < s.length := by omega
    simp -dsimp [Tt, S, hln, ht3, hl, hl']
    refine aCall_of (cCopyM hx (fewM_sm hf) _ _) ?_
    rintro d m' n' ⟨rfl, rfl, rfl⟩
    simp -dsimp [hln, ht3]
    refine aCall_of (cPrintM hx _ _) ?_
    rintro d m' n' ⟨rfl, rfl, rfl⟩
    simp -dsimp [hln, ht3]
    refine aCall_of (cSameM (fewM_sm hf) _ _) ?_
    rintro d m' n' ⟨rfl, rfl, rfl⟩
    simp -dsimp [Tt, hln, ht3]
    have q01 : n ≠ n + 1 := by omega
    have q02 : n ≠ n + 1 + 1 := by omega
    have q03 : n ≠ n + 1 + 1 + 1 := by omega
    have q04 : n ≠ n + 1 + 1 + 1 + 1 := by omega
    have q10 : n + 1 ≠ n := by omega
    have q12 : n + 1 ≠ n + 1 + 1 := by omega
    have q13 : n + 1 ≠ n + 1 + 1 + 1 := by omega
    have q14 : n + 1 ≠ n + 1 + 1 + 1 + 1 := by omega
    have q20 : n + 1 + 1 ≠ n := by omega
    have q21 : n + 1 + 1 ≠ n + 1 := by omega
    have q23 : n + 1 + 1 ≠ n + 1 + 1 + 1 := by omega
    have q24 : n + 1 + 1 ≠ n + 1 + 1 + 1 + 1 := by omega
    have q30 : n + 1 + 1 + 1 ≠ n := by omega
    have q31 : n + 1 + 1 + 1 ≠ n + 1 := by omega
    have q32 : n + 1 + 1 + 1 ≠ n + 1 + 1 := by omega
    have q34 : n + 1 + 1 + 1 ≠ n + 1 + 1 + 1 + 1 := by omega
    have q40 : n + 1 + 1 + 1 + 1 ≠ n := by omega
    have q41 : n + 1 + 1 + 1 + 1 ≠ n + 1 := by omega
    have q42 : n + 1 + 1 + 1 + 1 ≠ n + 1 + 1 := by omega
    have q43 : n + 1 + 1 + 1 + 1 ≠ n + 1 + 1 + 1 := by omega
    cases hm : mayM x with
    | false =>
      simp -dsimp [Tt, argE, code, I, S, hln, ht3, set_ne, q01, q02, q03, q04, q10, q12, q13, q14, q20, q21, q23, q24, q30, q31, q32, q34, q40, q41, q42, q43]
      refine aCall_of (cYParse s _ _) ?_
      rintro d m2 n2 ⟨rfl, rfl, rfl⟩
      have hsm := modF_sm s
      have hmay := mod_may (s := s)
      generalize modF s = Y at hsm hmay ⊢
      obtain ⟨y, e⟩ := Y
      cases e with
      | large =>
        simp -dsimp [errP, code, I, Tt, hln, ht3]
        exact hq ⟨rfl, fun j hj => by
          have j0 : j ≠ n := by omega
          have j1 : j ≠ n + 1 := by omega
          have j2 : j ≠ n + 1 + 1 := by omega
          have j3 : j ≠ n + 1 + 1 + 1 := by omega
          have j4 : j ≠ n + 1 + 1 + 1 + 1 := by omega
          simp [set_ne, j0, j1, j2, j3, j4]⟩
      | spot a c =>
        simp -dsimp [errP, spotE, I, Tt, hln, ht3]
        exact hq ⟨rfl, fun j hj => by
          have j0 : j ≠ n := by omega
          have j1 : j ≠ n + 1 := by omega
          have j2 : j ≠ n + 1 + 1 := by omega
          have j3 : j ≠ n + 1 + 1 + 1 := by omega
          have j4 : j ≠ n + 1 + 1 + 1 + 1 := by omega
          simp [set_ne, j0, j1, j2, j3, j4]⟩
      | none =>
        have hy := hmay rfl
        simp only at hy hsm
        simp -dsimp [errP, nilE, Tt, hln, ht3, set_ne, q01, q02, q03, q04, q10, q12, q13, q14, q20, q21, q23, q24, q30, q31, q32, q34, q40, q41, q42, q43]
        refine aCall_of (cPrintM (mayM_w hy) _ _) ?_
        rintro d m3 n3 ⟨rfl, rfl, rfl⟩
        rw [if_pos hy, hy]
        simp -dsimp [argE, nilE, S, Tt, hln, ht3, set_ne, q01, q02, q03, q04, q10, q12, q13, q14, q20, q21, q23, q24, q30, q31, q32, q34, q40, q41, q42, q43]
        refine aCall_of (cYParse (textM y) _ _) ?_
        rintro d m4 n4 ⟨rfl, rfl, rfl⟩
        by_cases hl2 : (20000 : Int) < (textM y).length
        · have hl2' : 20000 < (textM y).length := by omega
          have hp : modF (textM y) = (Md0, .large) := by rw [modF, if_pos hl2']
          rw [hp]
          simp -dsimp [errP, code, nilE, S, I, Tt, hln, ht3, set_ne, hl2, hl2', q01, q02, q03, q04, q10, q12, q13, q14, q20, q21, q23, q24, q30, q31, q32, q34, q40, q41, q42, q43]
          exact hq ⟨rfl, fun j hj => by
            have j0 : j ≠ n := by omega
            have j1 : j ≠ n + 1 := by omega
            have j2 : j ≠ n + 1 + 1 := by omega
            have j3 : j ≠ n + 1 + 1 + 1 := by omega
            have j4 : j ≠ n + 1 + 1 + 1 + 1 := by omega
            simp [set_ne, j0, j1, j2, j3, j4]⟩
        · have hl2' : ¬ 20000 < (textM y).length := by omega
          rw [mod_rt hy (by omega)]
          simp -dsimp [errP, nilE, S, I, Tt, hln, ht3, set_ne, hl2, hl2', q01, q02, q03, q04, q10, q12, q13, q14, q20, q21, q23, q24, q30, q31, q32, q34, q40, q41, q42, q43]
          refine aCall_of (cSameM hsm _ _) ?_
          rintro d m5 n5 ⟨rfl, rfl, rfl⟩
          simp -dsimp [Tt]
          exact hq ⟨rfl, fun j hj => by
            have j0 : j ≠ n := by omega
            have j1 : j ≠ n + 1 := by omega
            have j2 : j ≠ n + 1 + 1 := by omega
            have j3 : j ≠ n + 1 + 1 + 1 := by omega
            have j4 : j ≠ n + 1 + 1 + 1 + 1 := by omega
            simp [set_ne, j0, j1, j2, j3, j4]⟩
    | true =>
      by_cases hp : ((textM x).length : Int) ≤ 20000
      case neg =>
        have hp' : ¬ (textM x).length ≤ 20000 := by omega
        simp -dsimp [Tt, argE, nilE, I, S, hln, ht3, set_ne, hp, hp', q01, q02, q03, q04, q10, q12, q13, q14, q20, q21, q23, q24, q30, q31, q32, q34, q40, q41, q42, q43]
        refine aCall_of (cYParse s _ _) ?_
        rintro d m2 n2 ⟨rfl, rfl, rfl⟩
        have hsm := modF_sm s
        have hmay := mod_may (s := s)
        generalize modF s = Y at hsm hmay ⊢
        obtain ⟨y, e⟩ := Y
        cases e with
        | large =>
          simp -dsimp [errP, code, I, Tt, hln, ht3]
          exact hq ⟨rfl, fun j hj => by
            have j0 : j ≠ n := by omega
            have j1 : j ≠ n + 1 := by omega
            have j2 : j ≠ n + 1 + 1 := by omega
            have j3 : j ≠ n + 1 + 1 + 1 := by omega
            have j4 : j ≠ n + 1 + 1 + 1 + 1 := by omega
            simp [set_ne, j0, j1, j2, j3, j4]⟩
        | spot a c =>
          simp -dsimp [errP, spotE, I, Tt, hln, ht3]
          exact hq ⟨rfl, fun j hj => by
            have j0 : j ≠ n := by omega
            have j1 : j ≠ n + 1 := by omega
            have j2 : j ≠ n + 1 + 1 := by omega
            have j3 : j ≠ n + 1 + 1 + 1 := by omega
            have j4 : j ≠ n + 1 + 1 + 1 + 1 := by omega
            simp [set_ne, j0, j1, j2, j3, j4]⟩
        | none =>
          have hy := hmay rfl
          simp only at hy hsm
          simp -dsimp [errP, nilE, Tt, hln, ht3, set_ne, q01, q02, q03, q04, q10, q12, q13, q14, q20, q21, q23, q24, q30, q31, q32, q34, q40, q41, q42, q43]
          refine aCall_of (cPrintM (mayM_w hy) _ _) ?_
          rintro d m3 n3 ⟨rfl, rfl, rfl⟩
          rw [if_pos hy, hy]
          simp -dsimp [argE, nilE, S, Tt, hln, ht3, set_ne, q01, q02, q03, q04, q10, q12, q13, q14, q20, q21, q23, q24, q30, q31, q32, q34, q40, q41, q42, q43]
          refine aCall_of (cYParse (textM y) _ _) ?_
          rintro d m4 n4 ⟨rfl, rfl, rfl⟩
          by_cases hl2 : (20000 : Int) < (textM y).length
          · have hl2' : 20000 < (textM y).length := by omega
            have hp : modF (textM y) = (Md0, .large) := by rw [modF, if_pos hl2']
            rw [hp]
            simp -dsimp [errP, code, nilE, S, I, Tt, hln, ht3, set_ne, hl2, hl2', q01, q02, q03, q04, q10, q12, q13, q14, q20, q21, q23, q24, q30, q31, q32, q34, q40, q41, q42, q43]
            exact hq ⟨rfl, fun j hj => by
              have j0 : j ≠ n := by omega
              have j1 : j ≠ n + 1 := by omega
              have j2 : j ≠ n + 1 + 1 := by omega
              have j3 : j ≠ n + 1 + 1 + 1 := by omega
              have j4 : j ≠ n + 1 + 1 + 1 + 1 := by omega
              simp [set_ne, j0, j1, j2, j3, j4]⟩
          · have hl2' : ¬ 20000 < (textM y).length := by omega
            rw [mod_rt hy (by omega)]
            simp -dsimp [errP, nilE, S, I, Tt, hln, ht3, set_ne, hl2, hl2', q01, q02, q03, q04, q10, q12, q13, q14, q20, q21, q23, q24, q30, q31, q32, q34, q40, q41, q42, q43]
            refine aCall_of (cSameM hsm _ _) ?_
            rintro d m5 n5 ⟨rfl, rfl, rfl⟩
            simp -dsimp [Tt]
            exact hq ⟨rfl, fun j hj => by
              have j0 : j ≠ n := by omega
              have j1 : j ≠ n + 1 := by omega
              have j2 : j ≠ n + 1 + 1 := by omega
              have j3 : j ≠ n + 1 + 1 + 1 := by omega
              have j4 : j ≠ n + 1 + 1 + 1 + 1 := by omega
              simp [set_ne, j0, j1, j2, j3, j4]⟩
      case pos =>
        have hp' : (textM x).length ≤ 20000 := by omega
        simp -dsimp [Tt, argE, nilE, I, S, hln, ht3, set_ne, hp, hp', q01, q02, q03, q04, q10, q12, q13, q14, q20, q21, q23, q24, q30, q31, q32, q34, q40, q41, q42, q43]
        refine aCall_of (cYParse (textM x) _ _) ?_
        rintro d m1 n1 ⟨rfl, rfl, rfl⟩
        rw [mod_rt hm hp']
        simp -dsimp [Tt, errP, nilE, I, S, hln, ht3, set_ne, q01, q02, q03, q04, q10, q12, q13, q14, q20, q21, q23, q24, q30, q31, q32, q34, q40, q41, q42, q43]
        refine aCall_of (cSameM (fewM_sm hf) _ _) ?_
        rintro d m1 n1 ⟨rfl, rfl, rfl⟩
        simp -dsimp [Tt, hln, ht3, set_ne, q01, q02, q03, q04, q10, q12, q13, q14, q20, q21, q23, q24, q30, q31, q32, q34, q40, q41, q42, q43]
        refine aCall_of (cYParse s _ _) ?_
        rintro d m2 n2 ⟨rfl, rfl, rfl⟩
        have hsm := modF_sm s
        have hmay := mod_may (s := s)
        generalize modF s = Y at hsm hmay ⊢
        obtain ⟨y, e⟩ := Y
        cases e with
        | large =>
          simp -dsimp [errP, code, I, Tt, hln, ht3]
          exact hq ⟨rfl, fun j hj => by
            have j0 : j ≠ n := by omega
            have j1 : j ≠ n + 1 := by omega
            have j2 : j ≠ n + 1 + 1 := by omega
            have j3 : j ≠ n + 1 + 1 + 1 := by omega
            have j4 : j ≠ n + 1 + 1 + 1 + 1 := by omega
            simp [set_ne, j0, j1, j2, j3, j4]⟩
        | spot a c =>
          simp -dsimp [errP, spotE, I, Tt, hln, ht3]
          exact hq ⟨rfl, fun j hj => by
            have j0 : j ≠ n := by omega
            have j1 : j ≠ n + 1 := by omega
            have j2 : j ≠ n + 1 + 1 := by omega
            have j3 : j ≠ n + 1 + 1 + 1 := by omega
            have j4 : j ≠ n + 1 + 1 + 1 + 1 := by omega
            simp [set_ne, j0, j1, j2, j3, j4]⟩
        | none =>
          have hy := hmay rfl
          simp only at hy hsm
          simp -dsimp [errP, nilE, Tt, hln, ht3, set_ne, q01, q02, q03, q04, q10, q12, q13, q14, q20, q21, q23, q24, q30, q31, q32, q34, q40, q41, q42, q43]
          refine aCall_of (cPrintM (mayM_w hy) _ _) ?_
          rintro d m3 n3 ⟨rfl, rfl, rfl⟩
          rw [if_pos hy, hy]
          simp -dsimp [argE, nilE, S, Tt, hln, ht3, set_ne, q01, q02, q03, q04, q10, q12, q13, q14, q20, q21, q23, q24, q30, q31, q32, q34, q40, q41, q42, q43]
          refine aCall_of (cYParse (textM y) _ _) ?_
          rintro d m4 n4 ⟨rfl, rfl, rfl⟩
          by_cases hl2 : (20000 : Int) < (textM y).length
          · have hl2' : 20000 < (textM y).length := by omega
            have hp : modF (textM y) = (Md0, .large) := by rw [modF, if_pos hl2']
            rw [hp]
            simp -dsimp [errP, code, nilE, S, I, Tt, hln, ht3, set_ne, hl2, hl2', q01, q02, q03, q04, q10, q12, q13, q14, q20, q21, q23, q24, q30, q31, q32, q34, q40, q41, q42, q43]
            exact hq ⟨rfl, fun j hj => by
              have j0 : j ≠ n := by omega
              have j1 : j ≠ n + 1 := by omega
              have j2 : j ≠ n + 1 + 1 := by omega
              have j3 : j ≠ n + 1 + 1 + 1 := by omega
              have j4 : j ≠ n + 1 + 1 + 1 + 1 := by omega
              simp [set_ne, j0, j1, j2, j3, j4]⟩
          · have hl2' : ¬ 20000 < (textM y).length := by omega
            rw [mod_rt hy (by omega)]
            simp -dsimp [errP, nilE, S, I, Tt, hln, ht3, set_ne, hl2, hl2', q01, q02, q03, q04, q10, q12, q13, q14, q20, q21, q23, q24, q30, q31, q32, q34, q40, q41, q42, q43]
            refine aCall_of (cSameM hsm _ _) ?_
            rintro d m5 n5 ⟨rfl, rfl, rfl⟩
            simp -dsimp [Tt]
            exact hq ⟨rfl, fun j hj => by
              have j0 : j ≠ n := by omega
              have j1 : j ≠ n + 1 := by omega
              have j2 : j ≠ n + 1 + 1 := by omega
              have j3 : j ≠ n + 1 + 1 + 1 := by omega
              have j4 : j ≠ n + 1 + 1 + 1 + 1 := by omega
              simp [set_ne, j0, j1, j2, j3, j4]⟩
  · rintro d m' n' ⟨rfl, h⟩
    exact ⟨_, (pur_T _).pub, h, rfl⟩
end Go.Proofs.Mv.App
