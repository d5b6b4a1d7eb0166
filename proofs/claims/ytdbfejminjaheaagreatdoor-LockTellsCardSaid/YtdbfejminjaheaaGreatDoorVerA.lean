/- A part of the proofs of the seat YtdbfejminjaheaaGreatDoor: the abstract machine, the contracts of the functions, the laws. No condition of its own. -/
import Derived.Test.YtdbfejminjaheaaGreatDoorTyF
set_option linter.unusedSimpArgs false
set_option linter.unusedVariables false
set_option linter.unusedSectionVars false
open Go Go.Proofs Go.Proofs.Mv.V
set_option maxRecDepth 10000
namespace Go.Proofs.Mv.App
structure Ver where
  major : Int
  minor : Int
  patch : Int
def verD (v : Ver) : List D := [I v.major, I v.minor, I v.patch]
def partOk (i : Int) : Bool := decide (0 ≤ i) && decide (i ≤ 999999999)
def mayV (v : Ver) : Bool := partOk v.major && decide (0 < v.major) && partOk v.minor && partOk v.patch
def belowV (a b : Ver) : Bool := if a.major = b.major then (if a.minor = b.minor then decide (a.patch < b.patch) else decide (a.minor < b.minor)) else decide (a.major < b.major)
def mayRg (a b : Ver) : Bool := mayV a && mayV b && decide (a.major = b.major) && belowV a b
def textV (v : Ver) : List UInt8 := digits v.major.toNat ++ [46] ++ digits v.minor.toNat ++ [46] ++ digits v.patch.toNat
theorem cPart (i : Int) (m : Mem) (n : Nat) : ACalls Tryz.prog 94 [I i] m n (fun d m' n' => d = Tt (partOk i) ∧ m' = m ∧ n' = n) := by
  refine acalls_done (R' := Hq (fun d m' n' => d = Tt (partOk i) ∧ ∀ j, j < n → m' j = m j) tg) ?_ ?_
  · refine acalls_vc [0, 2] Tryz.func94 Tryz.ntmps94 (by kernel_rfl) rfl rfl (by simp) ?_
    by_cases h : 0 ≤ i
    · simp -dsimp [I, h]
      exact hq ⟨by simp [Tt, partOk, h], fun _ _ => rfl⟩
    · simp -dsimp [I, h]
      exact hq ⟨by simp [Tt, partOk, h], fun _ _ => rfl⟩
  · rintro d m' n' ⟨rfl, h⟩
    exact ⟨_, (pur_T _).pub, h, rfl⟩
theorem cMayV (v : Ver) (m : Mem) (n : Nat) : ACalls Tryz.prog 48 [.agg (verD v)] m n (fun d m' n' => d = Tt (mayV v) ∧ m' = m ∧ n' = n) := by
  obtain ⟨a, b, c⟩ := v
  refine acalls_done (R' := Hq (fun d m' n' => d = Tt (mayV ⟨a, b, c⟩) ∧ ∀ j, j < n → m' j = m j) tg) ?_ ?_
  · have fr : ∀ o j, j < n → (m.set n o) j = m j := fun o j hj => by rw [set_ne _ _ _ _ (by omega)]
    simp only [verD, mayV]
    refine acalls_vc [0, 1, 2] Tryz.func48 Tryz.ntmps48 (by kernel_rfl) rfl rfl (by simp) ?_
    simp -dsimp [I]
    refine aCall_of (cPart a _ _) ?_
    rintro d m' n' ⟨rfl, rfl, rfl⟩
    cases h1 : partOk a with
    | false =>
      simp -dsimp [I, Tt]
      exact hq ⟨by simp [Tt], fr _⟩
    | true =>
    by_cases h2 : 0 < a
    case neg =>
      simp -dsimp [I, Tt, h2]
      exact hq ⟨by simp [Tt, h2], fr _⟩
    simp -dsimp [I, Tt, h2]
    refine aCall_of (cPart b _ _) ?_
    rintro d m' n' ⟨rfl, rfl, rfl⟩
    cases h3 : partOk b with
    | false =>
      simp -dsimp [I, Tt]
      exact hq ⟨by simp [Tt], fr _⟩
    | true =>
    simp -dsimp [I, Tt]
    refine aCall_of (cPart c _ _) ?_
    rintro d m' n' ⟨rfl, rfl, rfl⟩
    simp -dsimp [Tt]
    exact hq ⟨by simp [Tt, h2], fr _⟩
  · rintro d m' n' ⟨rfl, h⟩
    exact ⟨_, (pur_T _).pub, h, rfl⟩
theorem mayV_eq (a b c : Int) : mayV ⟨a, b, c⟩ = (decide (1 ≤ a) && decide (a ≤ 999999999) && decide (0 ≤ b) && decide (b ≤ 999999999) && decide (0 ≤ c) && decide (c ≤ 999999999)) := by
  simp only [mayV, partOk]
  by_cases h1 : 1 ≤ a
  · have h0 : 0 ≤ a := by omega
    have h2 : 0 < a := by omega
    simp [h0, h1, h2, Bool.and_assoc]
  · have h2 : ¬ 0 < a := by omega
    simp [h1, h2]
theorem cRMayV (v : Ver) (m : Mem) (n : Nat) : ACalls Tryz.prog 46 [.agg (verD v)] m n (fun d m' n' => d = Tt (mayV v) ∧ m' = m ∧ n' = n) := by
  obtain ⟨a, b, c⟩ := v
  refine acalls_done (R' := Hq (fun d m' n' => d = Tt (mayV ⟨a, b, c⟩) ∧ ∀ j, j < n → m' j = m j) tg) ?_ ?_
  · have fr : ∀ o j, j < n → (m.set n o) j = m j := fun o j hj => by rw [set_ne _ _ _ _ (by omega)]
    rw [mayV_eq]
    simp only [verD]
    refine acalls_vc [0, 1, 2] Tryz.func46 Tryz.ntmps46 (by kernel_rfl) rfl rfl (by simp) ?_
    by_cases h1 : 1 ≤ a
    case neg => simp -dsimp [I, h1]; exact hq ⟨by simp [Tt, h1], fr _⟩
    by_cases h2 : a ≤ 999999999
    case neg => simp -dsimp [I, h1, h2]; exact hq ⟨by simp [Tt, h2], fr _⟩
    by_cases h3 : 0 ≤ b
    case neg => simp -dsimp [I, h1, h2, h3]; exact hq ⟨by simp [Tt, h3], fr _⟩
    by_cases h4 : b ≤ 999999999
    case neg => simp -dsimp [I, h1, h2, h3, h4]; exact hq ⟨by simp [Tt, h4], fr _⟩
    by_cases h5 : 0 ≤ c
    case neg => simp -dsimp [I, h1, h2, h3, h4, h5]; exact hq ⟨by simp [Tt, h5], fr _⟩
    simp -dsimp [I, h1, h2, h3, h4, h5]
    exact hq ⟨by simp [Tt, h1, h2, h3, h4, h5], fr _⟩
  · rintro d m' n' ⟨rfl, h⟩
    exact ⟨_, (pur_T _).pub, h, rfl⟩
theorem cRBelow (a b : Ver) (m : Mem) (n : Nat) : ACalls Tryz.prog 96 [.agg (verD a), .agg (verD b)] m n (fun d m' n' => d = Tt (belowV a b) ∧ m' = m ∧ n' = n) := by
  obtain ⟨a1, a2, a3⟩ := a
  obtain ⟨b1, b2, b3⟩ := b
  refine acalls_done (R' := Hq (fun d m' n' => d = Tt (belowV ⟨a1, a2, a3⟩ ⟨b1, b2, b3⟩) ∧ ∀ j, j < n → m' j = m j) tg) ?_ ?_
  · have fr : ∀ o o' j, j < n → ((m.set n o).set (n + 1) o') j = m j := fun o o' j hj => by rw [set_ne _ _ _ _ (by omega), set_ne _ _ _ _ (by omega)]
    have nn1 : n ≠ n + 1 := by omega
    simp only [verD, belowV]
    refine acalls_vc [0, 1, 2, 3, 4, 9, 19] Tryz.func96 Tryz.ntmps96 (by kernel_rfl) rfl rfl (by simp) ?_
    by_cases h1 : a1 = b1
    case neg =>
      have h1' : (a1 != b1) = true := by simpa using h1
      simp -dsimp [I, h1', set_ne, nn1]
      exact hq ⟨by simp [Tt, h1], fr _ _⟩
    by_cases h2 : a2 = b2
    case neg =>
      have h2' : (a2 != b2) = true := by simpa using h2
      simp -dsimp [I, h1, h2', set_ne, nn1]
      exact hq ⟨by simp [Tt, h1, h2], fr _ _⟩
    simp -dsimp [I, h1, h2, set_ne, nn1]
    exact hq ⟨by simp [Tt, h1, h2], fr _ _⟩
  · rintro d m' n' ⟨rfl, h⟩
    exact ⟨_, (pur_T _).pub, h, rfl⟩
theorem cRMayRg (a b : Ver) (m : Mem) (n : Nat) : ACalls Tryz.prog 50 [.agg (verD a ++ verD b)] m n (fun d m' n' => d = Tt (mayRg a b) ∧ m' = m ∧ n' = n) := by
  obtain ⟨a1, a2, a3⟩ := a
  obtain ⟨b1, b2, b3⟩ := b
  refine acalls_done (R' := Hq (fun d m' n' => d = Tt (mayRg ⟨a1, a2, a3⟩ ⟨b1, b2, b3⟩) ∧ ∀ j, j < n → m' j = m j) tg) ?_ ?_
  · have fr : ∀ o j, j < n → (m.set n o) j = m j := fun o j hj => by rw [set_ne _ _ _ _ (by omega)]
    have c1 := fun m n => cRMayV ⟨a1, a2, a3⟩ m n
    have c2 := fun m n => cRMayV ⟨b1, b2, b3⟩ m n
    have c3 := fun m n => cRBelow ⟨a1, a2, a3⟩ ⟨b1, b2, b3⟩ m n
    simp only [verD, mayRg, List.cons_append, List.nil_append] at c1 c2 c3 ⊢
    refine acalls_vc [0, 1, 2, 3, 4] Tryz.func50 Tryz.ntmps50 (by kernel_rfl) rfl rfl (by simp) ?_
    simp -dsimp [I]
    refine aCall_of (c1 _ _) ?_
    rintro d m' n' ⟨rfl, rfl, rfl⟩
    simp -dsimp [I]
    refine aCall_of (c2 _ _) ?_
    rintro d m' n' ⟨rfl, rfl, rfl⟩
    cases h1 : mayV ⟨a1, a2, a3⟩ with
    | false => simp -dsimp [I, Tt]; exact hq ⟨by simp [Tt], fr _⟩
    | true =>
    cases h2 : mayV ⟨b1, b2, b3⟩ with
    | false => simp -dsimp [I, Tt]; exact hq ⟨by simp [Tt], fr _⟩
    | true =>
    by_cases h3 : a1 = b1
    case neg =>
      have h3' : (a1 == b1) = false := by simpa using h3
      simp -dsimp [I, Tt, h3']
      exact hq ⟨by simp [Tt, h3], fr _⟩
    simp -dsimp [I, Tt, h3]
    rw [h3] at c3
    refine aCall_of (c3 _ _) ?_
    rintro d m' n' ⟨rfl, rfl, rfl⟩
    simp -dsimp [Tt]
    exact hq ⟨by simp [Tt, h3], fr _⟩
  · rintro d m' n' ⟨rfl, h⟩
    exact ⟨_, (pur_T _).pub, h, rfl⟩
end Go.Proofs.Mv.App
