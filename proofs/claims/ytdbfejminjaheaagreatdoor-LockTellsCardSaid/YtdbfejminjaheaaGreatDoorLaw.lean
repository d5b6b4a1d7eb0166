/- A part of the proofs of the seat YtdbfejminjaheaaGreatDoor: the abstract machine, the contracts of the functions, the laws. No condition of its own. -/
import Derived.Test.YtdbfejminjaheaaGreatDoorEvl
import Derived.Test.YtdbfejminjaheaaGreatDoorLckH
import Derived.Test.YtdbfejminjaheaaGreatDoorPrt
set_option linter.unusedSimpArgs false
set_option linter.unusedVariables false
set_option linter.unusedSectionVars false
open Go Go.Proofs Go.Proofs.Mv.V
set_option maxRecDepth 10000
namespace Go.Proofs.Mv.App
def newS : D := .rptr none [.v (.slice none 0 0)]
theorem cMeets0 (m : Mem) (n : Nat) : ACalls Tryz.prog 40 [newS, .v (.slice none 0 0), .v (.slice none 0 0), .v (.slice none 0 0)] m n (fun d m' n' => d = Tt true ∧ m' = m ∧ n' = n) :=
  run_at 200 20 (by rfl) (by kernel_rfl) m n
theorem cMeetsN (m : Mem) (n : Nat) : ACalls Tryz.prog 40 [.v (.pointer none), .v (.slice none 0 0), .v (.slice none 0 0), .v (.slice none 0 0)] m n (fun d m' n' => d = Tt false ∧ m' = m ∧ n' = n) :=
  run_at 200 20 (by rfl) (by kernel_rfl) m n
theorem cTold0 (m : Mem) (n : Nat) : ACalls Tryz.prog 17 [nilE, I 0, I (-1)] m n (fun d m' n' => d = Tt true ∧ m' = m ∧ n' = n) :=
  run_at 200 20 (by rfl) (by kernel_rfl) m n
theorem cTold2 (m : Mem) (n : Nat) : ACalls Tryz.prog 17 [code 2, I 2, I (-1)] m n (fun d m' n' => d = Tt true ∧ m' = m ∧ n' = n) :=
  run_at 200 20 (by rfl) (by kernel_rfl) m n
theorem lp1 : lpR [112, 32, 49, 46, 48, 46, 48] = ([⟨[112], ⟨1, 0, 0⟩⟩], nilE) := by kernel_rfl
theorem lp2 : lpR [112, 32, 49, 46, 48] = ([], code 2) := by kernel_rfl
theorem cStateNew (m : Mem) (n : Nat) : ACalls Tryz.prog 41 [] m n (fun d m' n' => d = newS ∧ m' = m ∧ n' = n) := by
  refine acalls_done (R' := Hq (fun d m' n' => d = .ptr n 0 0 0 ∧ m' n = some ⟨1, [[.v (.slice none 0 0)]], 0⟩ ∧ ∀ j, j < n → m' j = m j) tg) ?_ ?_
  · refine acalls_vc [0] Tryz.func41 Tryz.ntmps41 (by kernel_rfl) rfl rfl (by simp) ?_
    simp -dsimp
    exact hq ⟨rfl, by simp, fun j hj => by rw [set_ne _ _ _ _ (by omega)]⟩
  · rintro d m' n' ⟨rfl, h1, h2⟩
    exact ⟨_, .ptr h1 (Nat.le_refl _) (.cons (Pur.v _).pub .nil), h2, rfl⟩
set_option maxHeartbeats 1000000 in
theorem cUp19 (hM : ∀ {w : World} {F : Nat → Prop}, GI.inv w F → ∃ x : Int, w.cell? ⟨2, 0, none⟩ = some (.int .i64 x)) (m : Mem) (n : Nat) :
    ACalls Tryz.prog 8 [] m n (fun d m' n' => d = Tt true ∧ m' = m ∧ n' = n) := by
  refine pc_of (pur_T _) (fun m n => ?_) m n
  refine acalls_vc [0, 1, 2, 4] Tryz.func8 Tryz.ntmps8 (by kernel_rfl) rfl rfl (by simp) ?_
  have p1 := fun m n => cLockParse hM [112, 32, 49, 46, 48, 46, 48] m n
  have p2 := fun m n => cLockParse hM [112, 32, 49, 46, 48] m n
  rw [lp1] at p1
  rw [lp2] at p2
  simp -dsimp
  refine pcall (fun m n => p1 m n) ?_
  simp -dsimp
  refine pcall (fun m n => p2 m n) ?_
  simp -dsimp [pkD, verD, nilE, S, I]
  refine pcall (fun m n => cStateNew m n) ?_
  simp -dsimp
  refine pcall (fun m n => cMeets0 m n) ?_
  simp -dsimp [Tt, code, S, I]
  refine pcall (fun m n => cMeetsN m n) ?_
  simp -dsimp [Tt]
  exact pcq' rfl
theorem cTold19 (a : Int) (ha : 0 ≤ a) (m : Mem) (n : Nat) : ACalls Tryz.prog 17 [spotE a 2, I 2, I a] m n (fun d m' n' => d = Tt true ∧ m' = m ∧ n' = n) := by
  refine acalls_vc [0, 1, 2, 6, 8] Tryz.func17 Tryz.ntmps17 (by kernel_rfl) rfl rfl (by simp) ?_
  have h : ¬ a < 0 := by omega
  simp -dsimp [I, h]
  refine aCall_of (a_is none a 2 _ _) ?_
  rintro d m' n' ⟨rfl, rfl, rfl⟩
  simp -dsimp [Tt]
theorem lpR_len (s : List UInt8) : (lpR s).1.length ≤ 200 := by
  unfold lpR
  split
  · simp
  · split
    · simp
    · split
      · rename_i p hp
        simp only [lockF] at hp
        split at hp
        · split at hp
          · split at hp
            · rename_i hm
              cases hp
              exact (mayL_parts hm).1
            · cases hp
          · cases hp
        · cases hp
      · simp
theorem lpR_pos (s : List UInt8) : True := trivial
theorem lpR_err (s : List UInt8) : True := trivial
set_option maxHeartbeats 4000000 in
theorem cLock19 (hM : ∀ {w : World} {F : Nat → Prop}, GI.inv w F → ∃ x : Int, w.cell? ⟨2, 0, none⟩ = some (.int .i64 x)) {l : List Pck} {g : List Dpn} (s : List UInt8)
    (hw : ∀ p ∈ l, p.pkg.length ≤ 9223372036854775807) (hg : ∀ p ∈ g, p.pkg.length ≤ 9223372036854775807) : Pc Tryz.prog 3 [.sl 4 (l.map pkD), .sl 7 (g.map dpD), S s] (Tt true) := by
  refine pc_of (pur_T _) (fun m n => ?_)
  refine acalls_vc [0, 1, 2, 6, 7, 8, 9, 10, 11, 12, 13, 14, 15, 24, 69, 77] Tryz.func3 Tryz.ntmps3 (by kernel_rfl) rfl rfl (by simp) ?_
  simp -dsimp
  refine pcall (fun m n => cUp19 hM m n) ?_
  by_cases hl : 300 < l.length
  · have hl' : (300 : Int) < l.length := by omega
    simp -dsimp [hl', Tt]
    exact pcq' rfl
  have hl' : ¬ (300 : Int) < l.length := by omega
  by_cases hd : 100 < g.length
  · have hd' : (100 : Int) < g.length := by omega
    simp -dsimp [hl', hd', Tt]
    exact pcq' rfl
  have hd' : ¬ (100 : Int) < g.length := by omega
  have cP := fun m n => cLockPrint hw (show l.length ≤ 1000000 by omega) m n
  have cM := fun m n => cRLockMay (show l.length ≤ 1000000 by omega) m n
  have cM2 := fun m n => cLockMay hw (show l.length ≤ 1000000 by omega) m n
  have cN := fun m n => cLockNeeds hg (show g.length ≤ 1000000 by omega) m n
  have cN2 := fun m n => cRLockNeeds (show g.length ≤ 1000000 by omega) m n
  have cX := fun m n => cLockParse hM s m n
  have cT := cRLockPrint (l := l)
  generalize mayN g = b at cN cN2
  simp -dsimp [hl', hd', Tt]
  refine pcall cP ?_
  have hp := lpR_pos s
  have hq := lpR_err s
  have hlen := lpR_len s
  cases hm : mayL l
  · rw [hm] at cM cM2
    simp -dsimp [argE, nilE, Tt]
    refine pcall cM ?_
    simp -dsimp [Tt]
    refine pcall cM2 ?_
    simp -dsimp [Tt]
    refine pcall cN ?_
    simp -dsimp [Tt]
    refine pcall cN2 ?_
    simp -dsimp [Tt, S, I]
    refine pcall cX ?_
    simp -dsimp [Tt, S, I]
    by_cases hs : 20000 < s.length
    · have hs' : (20000 : Int) < s.length := by omega
      have hlp : lpR s = ([], code 3) := by rw [lpR, if_pos hs]
      rw [hlp]
      simp -dsimp [hs', Tt, code, I, S]
      exact pcq' rfl
    have hs' : ¬ (20000 : Int) < s.length := by omega
    have hcp := fun m n => cRParseL s (by omega) m n
    have hlp : lpR s = match (toksAt s 0).2 with
      | some a => ([], spotE a 2)
      | none => match lockF (toksAt s 0).1 with
        | some p => (p, nilE)
        | none => ([], code 2) := by rw [lpR, if_neg hs]; rfl
    have cS := cSameL (l := (lpR s).1) (by omega)
    generalize lpR s = X at hlp cS ⊢
    cases ht : (toksAt s 0).2 with
    | some a =>
      rw [ht] at hlp hcp
      simp only at hlp hcp
      subst hlp
      simp -dsimp [hs', Tt, I, S]
      refine pcall hcp ?_
      simp -dsimp [hs', Tt, I, S]
      refine pcall (cTold19 a (by omega)) ?_
      simp -dsimp [Tt]
      refine pcall cS ?_
      simp -dsimp [Tt]
      exact pcq' rfl
    | none =>
      rw [ht] at hlp hcp
      simp only at hlp hcp
      cases hk : lockF (toksAt s 0).1 with
      | some p =>
        rw [hk] at hlp hcp
        simp only at hlp hcp
        subst hlp
        simp -dsimp [hs', Tt, I, S]
        refine pcall hcp ?_
        simp -dsimp [hs', Tt, I, S]
        refine pcall cTold0 ?_
        simp -dsimp [Tt]
        refine pcall cS ?_
        simp -dsimp [Tt]
        exact pcq' rfl
      | none =>
        rw [hk] at hlp hcp
        simp only at hlp hcp
        subst hlp
        simp -dsimp [hs', Tt, I, S]
        refine pcall hcp ?_
        simp -dsimp [hs', Tt, I, S]
        refine pcall cTold2 ?_
        simp -dsimp [Tt]
        refine pcall cS ?_
        simp -dsimp [Tt]
        exact pcq' rfl
  · rw [hm] at cM cM2
    simp -dsimp [argE, nilE, Tt]
    refine pcall cM ?_
    simp -dsimp [Tt]
    refine pcall cM2 ?_
    simp -dsimp [Tt]
    refine pcall cN ?_
    simp -dsimp [Tt]
    refine pcall cN2 ?_
    simp -dsimp [Tt]
    refine pcall (fun m n => cT hm m n) ?_
    simp -dsimp [Tt, S, I]
    refine pcall cX ?_
    simp -dsimp [Tt, S, I]
    by_cases hs : 20000 < s.length
    · have hs' : (20000 : Int) < s.length := by omega
      have hlp : lpR s = ([], code 3) := by rw [lpR, if_pos hs]
      rw [hlp]
      simp -dsimp [hs', Tt, code, I, S]
      exact pcq' rfl
    have hs' : ¬ (20000 : Int) < s.length := by omega
    have hcp := fun m n => cRParseL s (by omega) m n
    have hlp : lpR s = match (toksAt s 0).2 with
      | some a => ([], spotE a 2)
      | none => match lockF (toksAt s 0).1 with
        | some p => (p, nilE)
        | none => ([], code 2) := by rw [lpR, if_neg hs]; rfl
    have cS := cSameL (l := (lpR s).1) (by omega)
    generalize lpR s = X at hlp cS ⊢
    cases ht : (toksAt s 0).2 with
    | some a =>
      rw [ht] at hlp hcp
      simp only at hlp hcp
      subst hlp
      simp -dsimp [hs', Tt, I, S]
      refine pcall hcp ?_
      simp -dsimp [hs', Tt, I, S]
      refine pcall (cTold19 a (by omega)) ?_
      simp -dsimp [Tt]
      refine pcall cS ?_
      simp -dsimp [Tt]
      exact pcq' rfl
    | none =>
      rw [ht] at hlp hcp
      simp only at hlp hcp
      cases hk : lockF (toksAt s 0).1 with
      | some p =>
        rw [hk] at hlp hcp
        simp only at hlp hcp
        subst hlp
        simp -dsimp [hs', Tt, I, S]
        refine pcall hcp ?_
        simp -dsimp [hs', Tt, I, S]
        refine pcall cTold0 ?_
        simp -dsimp [Tt]
        refine pcall cS ?_
        simp -dsimp [Tt]
        exact pcq' rfl
      | none =>
        rw [hk] at hlp hcp
        simp only at hlp hcp
        subst hlp
        simp -dsimp [hs', Tt, I, S]
        refine pcall hcp ?_
        simp -dsimp [hs', Tt, I, S]
        refine pcall cTold2 ?_
        simp -dsimp [Tt]
        refine pcall cS ?_
        simp -dsimp [Tt]
        exact pcq' rfl
end Go.Proofs.Mv.App
