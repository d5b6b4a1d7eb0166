/- A part of the proofs: machine, contracts, laws. No condition of its own. -/
import Derived.Test.YtihbegkefjjhpaaGreatDoorP10
import Derived.Test.YtihbegkefjjhpaaGreatDoorMvD
import Derived.Test.YtihbegkefjjhpaaGreatDoorMvC
import Derived.Test.YtihbegkefjjhpaaGreatDoorP06
set_option linter.unusedSimpArgs false
set_option linter.unusedVariables false
set_option linter.unusedSectionVars false
open Go Go.Proofs Go.Proofs.Mv.V
set_option maxRecDepth 10000
namespace Go.Proofs.Mv.App
variable [GI]
def badNm (kind : Int) (l : List (List UInt8)) (i : Nat) : Bool :=
  (decide (kind = 5) && !smallN (l.getD i [])) || (decide (kind = 6) && !greatN (l.getD i [])) || (decide (0 < i) && !ltB (l.getD (i - 1) []) (l.getD i []))
structure OwnInv (kind : Int) (names : List (List UInt8)) (ns ks : Nat) (M : Mem) (n : Nat) (i : Nat) (σ : Nat → D) (m2 : Mem) (n2 : Nat) : Prop where
  h1 : σ 1 = .ptr n 0 0 0
  h3 : σ 3 = I ns
  h4 : σ 4 = I ks
  h5 : σ 5 = I i
  le : i ≤ ks
  al : ∀ j, j < i → badNm kind names j = false
  mm : m2 = M
  nn : n2 = n + 1
structure OwnAft (kind : Int) (names : List (List UInt8)) (ns ks : Nat) (M : Mem) (n : Nat) (σ : Nat → D) (m2 : Mem) (n2 : Nat) : Prop where
  h1 : σ 1 = .ptr n 0 0 0
  h3 : σ 3 = I ns
  h4 : σ 4 = I ks
  al : ∀ j, j < ks → badNm kind names j = false
  mm : m2 = M
  nn : n2 = n + 1
structure OwnMid (E : Bool) (ns ks : Nat) (M : Mem) (n : Nat) (σ : Nat → D) (m2 : Mem) (n2 : Nat) : Prop where
  h1 : σ 1 = .ptr n 0 0 0
  h3 : σ 3 = I ns
  h4 : σ 4 = I ks
  h8 : σ 8 = Tt E
  mm : m2 = M
  nn : n2 = n + 1
structure AllInv (kind : Int) (pkg : List UInt8) (major : Int) (mod name : List UInt8) (NL SL : List (List D)) (subs : List Ty) (sh : Bool) (m : Mem) (n : Nat) (i : Nat) (σ : Nat → D) (m2 : Mem) (n2 : Nat) : Prop where
  h1 : σ 1 = .ptr n 0 0 0
  h3 : σ 3 = Tt (sh && allTs (subs.take i))
  h4 : σ 4 = I i
  le : i ≤ subs.length
  mm : m2 = m.set n (tyO kind pkg major mod name NL SL)
  nn : n2 = n + 1
end Go.Proofs.Mv.App
open Go Go.Proofs Go.Proofs.Mv.V
set_option maxRecDepth 10000
namespace Go.Proofs.Mv.App
end Go.Proofs.Mv.App
open Go Go.Proofs Go.Proofs.Mv.V
set_option maxRecDepth 10000
namespace Go.Proofs.Mv.App
theorem beq_no {a b : List UInt8} (h : ¬ a = b) : (a == b) = false := by simpa using h
theorem cWordT (s : List UInt8) : Pc Tryz.prog 157 [S s] (Tt (decide (s ∈ wordsT))) := by
  refine pc_of (pur_T _) (fun m n => ?_)
  refine acalls_vc [0, 2] Tryz.func157 Tryz.ntmps157 (by kernel_rfl) rfl rfl (by simp) ?_
  simp -dsimp [S]
  refine aCall_of (cContainsStr wordsT s n _ _ (by decide) (by simp [wordsT, S])) ?_
  rintro d m' n' ⟨rfl, rfl, rfl⟩
  simp -dsimp [Tt]
  exact pcq rfl fun j hj => set_ne _ _ _ _ (by omega)
theorem cNameT {s : List UInt8} (hs : s.length ≤ 9223372036854775807) : Pc Tryz.prog 115 [S s] (Tt (nameN s)) := by
  refine pc_of (pur_T _) (fun m n => ?_)
  refine acalls_vc [0, 2] Tryz.func115 Tryz.ntmps115 (by kernel_rfl) rfl rfl (by simp) ?_
  simp -dsimp [S]
  refine pcall (fun m n => cSmall s hs m n) ?_
  cases h : smallN s
  · simp -dsimp [Tt]
    exact pcq' (by simp [nameN, h])
  · simp -dsimp [Tt, S]
    refine pcall (cWordT s) ?_
    simp -dsimp [Tt]
    exact pcq' (by simp [nameN, h])
theorem cTagT {s : List UInt8} (hs : s.length ≤ 9223372036854775807) : Pc Tryz.prog 117 [S s] (Tt (tagN s)) := by
  refine pc_of (pur_T _) (fun m n => ?_)
  refine acalls_vc [0, 2] Tryz.func117 Tryz.ntmps117 (by kernel_rfl) rfl rfl (by simp) ?_
  simp -dsimp [S]
  refine pcall (fun m n => cGreat s hs m n) ?_
  cases h : greatN s
  · simp -dsimp [Tt]
    exact pcq' (by simp [tagN, h])
  · by_cases e1 : s = wTrue
    · subst e1
      simp -dsimp [S, Tt, wTrue]
      exact pcq' (by simp [tagN, wTrue, wFalse])
    · by_cases e2 : s = wFalse
      · subst e2
        simp -dsimp [S, Tt, wFalse]
        exact pcq' (by simp [tagN, wTrue, wFalse])
      · have hn : tagN s = true := by simp [tagN, h, e1, e2]
        rw [hn]
        simp only [wTrue, wFalse] at e1 e2
        simp -dsimp [S, Tt, beq_no e1, beq_no e2]
        exact pcq' rfl
end Go.Proofs.Mv.App
