/- A part of the proofs of the seat YtojdgajdhacjdaaGreatDoor: the abstract machine, the contracts of the functions, the laws. No condition of its own. -/
import Derived.Test.YtojdgajdhacjdaaGreatDoorEvl
import Derived.Test.YtojdgajdhacjdaaGreatDoorUsB
import Derived.KernelRfl
set_option linter.unusedSimpArgs false
set_option linter.unusedVariables false
set_option linter.unusedSectionVars false
open Go Go.Proofs Go.Proofs.Mv.V
set_option maxRecDepth 10000
namespace Go.Proofs.Mv.App
theorem cIsU (a : Int) (c : Int) (m : Mem) (n : Nat) : ACalls Tryz.prog 9 [spotE a c, I a, I c] m n (fun d m' n' => d = Tt true ∧ m' = m ∧ n' = n) := a_is none a c m n
def utx : List UInt8 := [105, 109, 112, 111, 114, 116, 32, 112, 32, 49, 32, 109, 32, 97, 115, 32, 109, 32, 117, 115, 101, 32, 109, 46, 102, 32, 58, 32, 73, 110, 116]
def utU : Us := ⟨[⟨[112], 1, [109], [109]⟩], [⟨1, [109], [102], .mk 1 [] 0 [] [] [] []⟩]⟩
theorem utP : usesF utx = (utU, .none) := by rfl
/-- A copy of no texts. -/
theorem cClone0 (m : Mem) (n : Nat) : ACalls Tryz.prog 169 [.sl 1 []] m n (fun d m' n' => d = .sl 1 [] ∧ m' = m ∧ n' = n) := by
  refine acalls_done (R' := Hq (fun d m' n' => PubAs n m' d (.sl 1 []) ∧ ∀ j, j < n → m' j = m j) tg) ?_ ?_
  · refine acalls_vc [0, 2, 4] Tryz.func169 Tryz.ntmps169 (by kernel_rfl) rfl rfl (by simp) ?_
    simp -dsimp
    refine ⟨hq ⟨pub_nil 1, fun _ _ => rfl⟩, hq ⟨?_, fun j hj => ?_⟩⟩
    · exact .lst (Lst.own (es := []) (set_same _ _ _)) (fun k hk => by simp [kof] at hk; omega) .nil
    · exact set_ne _ _ _ _ (by omega)
  · rintro d m' n' ⟨h1, h2⟩
    exact ⟨_, h1, h2, rfl⟩
/-- The calls that are answered for by contracts. -/
def orcU : CallE := fun id args M =>
  if Nat.beq id 6 then (if eqLE args [S utx] then some (.tup [.agg (usD utU), nilE], M, []) else none)
  else if Nat.beq id 9 then (if eqLE args [spotE 0 9, I 0, I 9] then some (Tt true, M, []) else none)
  else if Nat.beq id 169 then (if eqLE args [.sl 1 []] then some (.sl 1 [], M, []) else none)
  else none
theorem orcU_cs : CS Tryz.prog orcU := by
  intro id args M d M' W h
  unfold orcU at h
  split at h
  · rename_i h1
    split at h
    · rename_i h2
      have e1 := Nat.eq_of_beq_eq_true h1
      have e2 := eqLE_eq _ _ h2
      simp only [Option.some.injEq, Prod.mk.injEq] at h
      obtain ⟨rfl, rfl, rfl⟩ := h
      subst e1; subst e2
      refine ⟨?_, FrE.refl _ _⟩
      have := cUParse utx (toMem M) M.length
      rw [utP] at this
      exact this
    · cases h
  · split at h
    · rename_i h1
      split at h
      · rename_i h2
        have e1 := Nat.eq_of_beq_eq_true h1
        have e2 := eqLE_eq _ _ h2
        simp only [Option.some.injEq, Prod.mk.injEq] at h
        obtain ⟨rfl, rfl, rfl⟩ := h
        subst e1; subst e2
        exact ⟨cIsU 0 9 (toMem M) M.length, FrE.refl _ _⟩
      · cases h
    · split at h
      · rename_i h1
        split at h
        · rename_i h2
          have e1 := Nat.eq_of_beq_eq_true h1
          have e2 := eqLE_eq _ _ h2
          simp only [Option.some.injEq, Prod.mk.injEq] at h
          obtain ⟨rfl, rfl, rfl⟩ := h
          subst e1; subst e2
          exact ⟨cClone0 (toMem M) M.length, FrE.refl _ _⟩
        · cases h
      · cases h
theorem cUpU (m : Mem) (n : Nat) : ACalls Tryz.prog 5 [] m n (fun d m' n' => d = Tt true ∧ m' = m ∧ n' = n) :=
  run_true orcU_cs ev_mixed ev_names (fun _ => false) 200 30 (by kernel_rfl) m n
end Go.Proofs.Mv.App
