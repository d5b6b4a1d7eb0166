/- A part of the proofs: machine, contracts, laws. No condition of its own. -/
import Derived.Test.YtihbegkefjjhpaaGreatDoorP21
import Derived.Test.YtihbegkefjjhpaaGreatDoorP22
import Derived.Test.YtihbegkefjjhpaaGreatDoorP24
set_option linter.unusedSimpArgs false
set_option linter.unusedVariables false
set_option linter.unusedSectionVars false
open Go Go.Proofs Go.Proofs.Mv.V
set_option maxRecDepth 10000
namespace Go.Proofs.Mv.App
theorem own_code {l : List Df} {k : Int} {mod nm : List UInt8} {names vars : Nms} {subs : List Tm} : (ownS l k mod nm names vars subs).1 = 0 ∨ (ownS l k mod nm names vars subs).1 = 9 ∨ (ownS l k mod nm names vars subs).1 = 12 := by
  unfold ownS
  simp only
  repeat' split
  all_goals simp
mutual
theorem step_code {l : List Df} : ∀ t : Tm, (stepT l t).1 = 0 ∨ (stepT l t).1 = 9 ∨ (stepT l t).1 = 12
  | .mk k N mod nm names vars types subs => by
    simp only [stepT]
    split
    · rename_i c l' hm
      split at hm
      · cases hm
      split at hm
      · exact step_code1 subs c l' hm
      · exact step_codeL subs c l' hm
    · exact own_code
theorem step_codeL {l : List Df} : ∀ (ts : List Tm) (c : Int) (l' : List Tm), stepL l ts = some (c, l') → c = 0 ∨ c = 9 ∨ c = 12
  | [], c, l', h => by simp only [stepL] at h; cases h
  | t :: ts, c, l', h => by
    simp only [stepL] at h
    split at h
    · obtain ⟨⟨c', l2⟩, h1, h2⟩ := Option.map_eq_some_iff.1 h
      simp only [Prod.mk.injEq] at h2
      obtain ⟨rfl, rfl⟩ := h2
      exact step_codeL ts _ _ h1
    · simp only [Option.some.injEq, Prod.mk.injEq] at h
      obtain ⟨rfl, rfl⟩ := h
      exact step_code t
theorem step_code1 {l : List Df} : ∀ (ts : List Tm) (c : Int) (l' : List Tm), step1 l ts = some (c, l') → c = 0 ∨ c = 9 ∨ c = 12
  | [], c, l', h => by simp only [step1] at h; cases h
  | t :: ts, c, l', h => by
    simp only [step1] at h
    split at h
    · cases h
    · simp only [Option.some.injEq, Prod.mk.injEq] at h
      obtain ⟨rfl, rfl⟩ := h
      exact step_code t
end
theorem cCodeN [GI] (c : Int) (h0 : 0 < c) (h1 : c ≤ 12) : Pc Tryz.prog 26 [.iface 39 (.v (.int .i64 c))] (I c) := by
  refine pc_of (pur_I _) (fun m n => ?_)
  refine acalls_vc [0, 2, 3, 5, 7, 13] Tryz.func26 Tryz.ntmps26 (by kernel_rfl) rfl rfl (by simp) ?_
  have hc : ¬ c = 0 := by omega
  simp -dsimp
  refine vloop_as (β := Nat) (fun i => [(0, .iface 39 (.v (.int .i64 c))), (3, I i)]) (fun i m2 n2 => 1 ≤ i ∧ (i : Int) ≤ c ∧ m2 = m ∧ n2 = n) (fun i => 13 - i) 1 (by simp [I]) ⟨by omega, by omega, rfl, rfl⟩ ?_
  rintro i m2 n2 ⟨hi, hi2, rfl, rfl⟩
  have q : ¬ (12 : Int) < i := by omega
  have q' : (i : Int) ≤ 12 := by omega
  have wi : IntKind.i64.wrap ((i : Int) + 1) = (i : Int) + 1 := wrap_i64 (by omega) (by omega)
  by_cases e : c = i
  · have eb : (c == (i : Int)) = true := by simpa using e
    simp -dsimp [I, q, q', eb, e]
    exact pcq' (by first | rfl | rw [e])
  · have eb : (c == (i : Int)) = false := by simpa using e
    simp -dsimp [I, q, q', eb, e, wi]
    exact rnd (i + 1) (by omega) (by simp [I]) ⟨by omega, by omega, rfl, rfl⟩
theorem Le_zt [GI] : Le (.agg [.v (.int .i64 0), .v (.int .i64 0), .v (.string (ofL [])), .v (.string (ofL [])), .v (.slice none 0 0), .v (.slice none 0 0), .v (.slice none 0 0), .v (.slice none 0 0)]) (.agg (tmD Tm0)) := by
  rw [tmD_zero]
  exact Le_agg (.cons (Le.refl _) (.cons (Le.refl _) (.cons (Le.refl _) (.cons (Le.refl _) (.cons (Le_nil _) (.cons (Le_nil _) (.cons (Le_nil _) (.cons (Le_nil _) .nil))))))))
theorem may_300 {t : Tm} (h : mayTm t = true) : manyTm t ≤ 300 := by
  simp only [mayTm, Bool.and_eq_true, decide_eq_true_eq] at h; omega
set_option maxHeartbeats 8000000 in
theorem cReduceTells {l : List Df} {t : Tm} (hl : l.length ≤ 9223372036854775807) (hd : ∀ d ∈ l, TmW d.term) (ht : TmW t) : Pc Tryz.prog 5 [.sl 10 (l.map dfD), .agg (tmD t)] (Tt true) := by
  refine pc_of (pur_T _) (fun m n => ?_)
  have nn1 : n ≠ n + 1 := by omega
  have n1n : n + 1 ≠ n := by omega
  have nn2 : n ≠ n + 1 + 1 := by omega
  have n2n : n + 1 + 1 ≠ n := by omega
  have n12 : n + 1 ≠ n + 1 + 1 := by omega
  have n21 : n + 1 + 1 ≠ n + 1 := by omega
  have s0 := cShort hl hd ht
  have fr0 : ∀ o, ∀ j, j < n → (m.set n o) j = m j := fun o j hj => by rw [set_ne _ _ _ _ (by omega)]
  have fr1 : ∀ o o', ∀ j, j < n → ((m.set n o).set (n + 1) o') j = m j := fun o o' j hj => by rw [set_ne _ _ _ _ (by omega), set_ne _ _ _ _ (by omega)]
  have fr2 : ∀ o o' o'', ∀ j, j < n → (((m.set n o).set (n + 1) o').set (n + 1 + 1) o'') j = m j := fun o o' o'' j hj => by rw [set_ne _ _ _ _ (by omega), set_ne _ _ _ _ (by omega), set_ne _ _ _ _ (by omega)]
  cases hs : shortF l t with
  | false =>
    rw [hs] at s0
    have h8 : (tmD t).length = 8 := by simp
    generalize tmD t = T at s0 h8
    have hT : List.take 8 T = T := List.take_of_length_le (by omega)
    refine acalls_vc [0, 1, 3, 4, 5, 6, 7, 8, 9, 10, 11, 12, 13, 14, 15, 21, 44, 56, 72, 99, 101] Tryz.func5 Tryz.ntmps5 (by kernel_rfl) rfl rfl (by simp) ?_
    simp -dsimp [h8, hT, set_ne]
    refine pcall cUp25 ?_
    simp -dsimp [Tt, h8, hT, set_ne]
    refine pcall s0 ?_
    simp -dsimp [Tt, h8, hT, set_ne]
    exact pcq rfl (fr0 _)
  | true =>
  rw [hs] at s0
  have hs' := hs
  simp only [shortF, Bool.and_eq_true, decide_eq_true_eq, List.all_eq_true] at hs'
  obtain ⟨⟨htf, _⟩, hdf⟩ := hs'
  have c1 : Pc Tryz.prog 13 [.agg (tmD t)] (Tt (mayTm t)) := cRMayTm ht (fewTm3_ok htf).1 fun _ => by have := (fewTm3_ok htf).2; omega
  have c2 := fun h => cRClosed0 ht h
  have c3 := cRValue ht
  have p1 := cClosedW ht
  have p2 := cValueW ht
  have p3 := cStepR hl hd ht
  have c4 := cRFair hl hd ht hdf htf
  have c5 := fun h1 h2 h3 => cRStep hl ht h1 h2 h3
  have sz := cRSameTm tmw0 (b := Tm0)
  rw [show sameTm Tm0 Tm0 = true from (sameTm_iff _ _).2 rfl] at sz
  have st := cRSameTm ht (b := t)
  rw [show sameTm t t = true from (sameTm_iff _ _).2 rfl] at st
  have hw2 : TmW (stepT l t).2 := her_step her_w hd tmw0 t ht
  have sr := cRSameTm hw2 (b := (stepT l t).2)
  rw [show sameTm (stepT l t).2 (stepT l t).2 = true from (sameTm_iff _ _).2 rfl] at sr
  have hcd := step_code (l := l) t
  have h8 : (tmD t).length = 8 := by simp
  have h80 : (tmD Tm0).length = 8 := by simp
  have h82 : (tmD (stepT l t).2).length = 8 := by simp
  -- the values that both tell
  have hval : valF t = (mayTm t && cloT t [] && valT t) := rfl
  cases hf : fairF l t with
  | false =>
    rw [hf] at c4
    have hso : stpF l t = (1, false, Tm0) := by simp [stpF, hf]
    rw [hso] at p3
    unfold resTb at p3
    simp only at p3
    rw [show erC (1 : Int) = .iface 39 (.v (.int .i64 1)) by simp [erC, code]] at p3
    generalize hZ : tmD Tm0 = Z at p3 sz h80
    generalize tmD t = T at s0 c1 c2 c3 p1 p2 p3 c4 h8
    have hT : List.take 8 T = T := List.take_of_length_le (by omega)
    have hZ8 : List.take 8 Z = Z := List.take_of_length_le (by omega)
    have hle := Le_zt
    rw [hZ] at hle
    refine acalls_vc [0, 1, 3, 4, 5, 6, 7, 8, 9, 10, 11, 12, 13, 14, 15, 21, 44, 56, 72, 99, 101] Tryz.func5 Tryz.ntmps5 (by kernel_rfl) rfl rfl (by simp) ?_
    simp -dsimp [h8, hT, set_ne]
    refine pcall cUp25 ?_
    simp -dsimp [Tt, h8, hT, set_ne]
    refine pcall s0 ?_
    simp -dsimp [Tt, h8, hT, set_ne]
    refine pcall c1 ?_
    rw [hval] at p2
    cases hm : mayTm t with
    | false =>
      rw [hm] at p1 p2
      simp only [Bool.false_and] at p1 p2
      simp -dsimp [Tt, h8, hT, set_ne]
      refine pcall p1 ?_
      simp -dsimp [Tt, h8, hT, set_ne]
      refine pcall p2 ?_
      simp -dsimp [Tt, h8, hT, set_ne]
      refine pcall p3 ?_
      simp -dsimp [Tt, h8, hT, h80, hZ8, set_ne, nn1, n1n]
      refine pcall c4 ?_
      simp -dsimp [Tt, h8, hT, h80, hZ8, set_ne, nn1, n1n]
      refine aCall_le (.cons (Le.refl _) (.cons hle .nil)) ?_
      refine pcall sz ?_
      simp -dsimp [Tt]
      exact pcq rfl (fr1 _ _)
    | true =>
      have c2 := c2 hm
      rw [hm] at p1 p2
      simp only [Bool.true_and] at p1 p2
      simp -dsimp [Tt, h8, hT, set_ne]
      refine pcall c2 ?_
      cases hcl : cloT t [] with
      | false =>
        rw [hcl] at p1 p2
        simp only [Bool.false_and] at p2
        simp -dsimp [Tt, h8, hT, set_ne]
        refine pcall p1 ?_
        simp -dsimp [Tt, h8, hT, set_ne]
        refine pcall p2 ?_
        simp -dsimp [Tt, h8, hT, set_ne]
        refine pcall p3 ?_
        simp -dsimp [Tt, h8, hT, h80, hZ8, set_ne, nn1, n1n]
        refine pcall c4 ?_
        simp -dsimp [Tt, h8, hT, h80, hZ8, set_ne, nn1, n1n]
        refine aCall_le (.cons (Le.refl _) (.cons hle .nil)) ?_
        refine pcall sz ?_
        simp -dsimp [Tt]
        exact pcq rfl (fr1 _ _)
      | true =>
        rw [hcl] at p1 p2
        simp only [Bool.true_and] at p2
        simp -dsimp [Tt, h8, hT, set_ne]
        refine pcall c3 ?_
        simp -dsimp [Tt, h8, hT, set_ne]
        refine pcall p1 ?_
        simp -dsimp [Tt, h8, hT, set_ne]
        refine pcall p2 ?_
        simp -dsimp [Tt, h8, hT, set_ne]
        refine pcall p3 ?_
        simp -dsimp [Tt, h8, hT, h80, hZ8, set_ne, nn1, n1n]
        refine pcall c4 ?_
        simp -dsimp [Tt, h8, hT, h80, hZ8, set_ne, nn1, n1n]
        refine aCall_le (.cons (Le.refl _) (.cons hle .nil)) ?_
        refine pcall sz ?_
        simp -dsimp [Tt]
        exact pcq rfl (fr1 _ _)
  | true =>
    rw [hf] at c4
    have hso : stpF l t = onceF l t := by simp [stpF, hf]
    rw [hso] at p3
    have hff := hf
    simp only [fairF, Bool.and_eq_true, List.all_eq_true] at hff
    obtain ⟨⟨⟨hm, hcl⟩, _⟩, hdv⟩ := hff
    have c2 := c2 hm
    rw [hval] at p2
    rw [hm, hcl] at p1 p2
    rw [hm] at c1
    rw [hcl] at c2
    simp only [Bool.true_and, Bool.and_true] at p1 p2
    cases hv : valT t with
    | true =>
      rw [hv] at c3 p2
      have ho : onceF l t = (0, false, t) := by simp [onceF, hv]
      rw [ho] at p3
      unfold resTb at p3
      simp only at p3
      rw [show erC (0 : Int) = .v .nilIface by simp [erC, nilE]] at p3
      generalize tmD t = T at s0 c1 c2 c3 p1 p2 p3 c4 st h8
      have hT : List.take 8 T = T := List.take_of_length_le (by omega)
      refine acalls_vc [0, 1, 3, 4, 5, 6, 7, 8, 9, 10, 11, 12, 13, 14, 15, 21, 44, 56, 72, 99, 101] Tryz.func5 Tryz.ntmps5 (by kernel_rfl) rfl rfl (by simp) ?_
      simp -dsimp [h8, hT, set_ne]
      refine pcall cUp25 ?_
      simp -dsimp [Tt, h8, hT, set_ne]
      refine pcall s0 ?_
      simp -dsimp [Tt, h8, hT, set_ne]
      refine pcall c1 ?_
      simp -dsimp [Tt, h8, hT, set_ne]
      refine pcall c2 ?_
      simp -dsimp [Tt, h8, hT, set_ne]
      refine pcall c3 ?_
      simp -dsimp [Tt, h8, hT, set_ne]
      refine pcall p1 ?_
      simp -dsimp [Tt, h8, hT, set_ne]
      refine pcall p2 ?_
      simp -dsimp [Tt, h8, hT, set_ne]
      refine pcall p3 ?_
      simp -dsimp [Tt, h8, hT, set_ne, nn1, n1n]
      refine pcall c4 ?_
      simp -dsimp [Tt, h8, hT, set_ne, nn1, n1n]
      refine pcall st ?_
      simp -dsimp [Tt]
      exact pcq rfl (fr1 _ _)
    | false =>
      rw [hv] at c3 p2
      have c5 := c5 (fair_all hf) hcl hv
      unfold resTi at c5
      have hmy : Pc Tryz.prog 13 [.agg (tmD (stepT l t).2)] (Tt (mayTm (stepT l t).2)) := cRMayTm hw2 (her_step her_f (fun d h => (fewTm3_ok (hdf d h)).1) (.mk _ _ _ _ _ _ _ _ (by simp) (by simp)) t (fewTm3_ok htf).1) fun _ => by
        have := many_step (defs := l) (fun d h => may_300 (by have := hdv d h; simp only [valF, Bool.and_eq_true] at this; exact this.1.1)) t (may_300 hm)
        have := may_300 hm
        omega
      by_cases h0 : (stepT l t).1 = 0
      · cases hmr : mayTm (stepT l t).2 with
        | true =>
          rw [hmr] at hmy
          have ho : onceF l t = (0, true, (stepT l t).2) := by simp [onceF, hv, h0, hmr]
          rw [ho] at p3
          unfold resTb at p3
          simp only at p3
          rw [show erC (0 : Int) = .v .nilIface by simp [erC, nilE]] at p3
          rw [h0] at c5
          generalize tmD (stepT l t).2 = R at p3 c5 hmy sr h82
          have hR : List.take 8 R = R := List.take_of_length_le (by omega)
          generalize tmD t = T at s0 c1 c2 c3 p1 p2 p3 c4 c5 st h8
          have hT : List.take 8 T = T := List.take_of_length_le (by omega)
          refine acalls_vc [0, 1, 3, 4, 5, 6, 7, 8, 9, 10, 11, 12, 13, 14, 15, 21, 44, 56, 72, 99, 101] Tryz.func5 Tryz.ntmps5 (by kernel_rfl) rfl rfl (by simp) ?_
          simp -dsimp [h8, hT, set_ne]
          refine pcall cUp25 ?_
          simp -dsimp [Tt, h8, hT, set_ne]
          refine pcall s0 ?_
          simp -dsimp [Tt, h8, hT, set_ne]
          refine pcall c1 ?_
          simp -dsimp [Tt, h8, hT, set_ne]
          refine pcall c2 ?_
          simp -dsimp [Tt, h8, hT, set_ne]
          refine pcall c3 ?_
          simp -dsimp [Tt, h8, hT, set_ne]
          refine pcall p1 ?_
          simp -dsimp [Tt, h8, hT, set_ne]
          refine pcall p2 ?_
          simp -dsimp [Tt, h8, hT, set_ne]
          refine pcall p3 ?_
          simp -dsimp [Tt, h8, hT, h82, hR, set_ne, nn1, n1n]
          refine pcall c4 ?_
          simp -dsimp [Tt, h8, hT, h82, hR, set_ne, nn1, n1n]
          refine pcall c5 ?_
          simp -dsimp [Tt, I, h8, hT, h82, hR, set_ne, nn1, n1n, nn2, n2n, n12, n21]
          refine pcall hmy ?_
          simp -dsimp [Tt, I, h8, hT, h82, hR, set_ne, nn1, n1n, nn2, n2n, n12, n21]
          refine pcall sr ?_
          simp -dsimp [Tt]
          exact pcq rfl (fr2 _ _ _)
        | false =>
          rw [hmr] at hmy
          have ho : onceF l t = (3, false, Tm0) := by simp [onceF, hv, h0, hmr]
          rw [ho] at p3
          unfold resTb at p3
          simp only at p3
          rw [show erC (3 : Int) = .iface 39 (.v (.int .i64 3)) by simp [erC, code]] at p3
          rw [h0] at c5
          have ce := cCodeN 3 (by omega) (by omega)
          simp only [I] at ce
          generalize hZ : tmD Tm0 = Z at p3 sz h80
          have hZ8 : List.take 8 Z = Z := List.take_of_length_le (by omega)
          have hle := Le_zt
          rw [hZ] at hle
          generalize tmD (stepT l t).2 = R at c5 hmy h82
          have hR : List.take 8 R = R := List.take_of_length_le (by omega)
          generalize tmD t = T at s0 c1 c2 c3 p1 p2 p3 c4 c5 st h8
          have hT : List.take 8 T = T := List.take_of_length_le (by omega)
          refine acalls_vc [0, 1, 3, 4, 5, 6, 7, 8, 9, 10, 11, 12, 13, 14, 15, 21, 44, 56, 72, 99, 101] Tryz.func5 Tryz.ntmps5 (by kernel_rfl) rfl rfl (by simp) ?_
          simp -dsimp [h8, hT, set_ne]
          refine pcall cUp25 ?_
          simp -dsimp [Tt, h8, hT, set_ne]
          refine pcall s0 ?_
          simp -dsimp [Tt, h8, hT, set_ne]
          refine pcall c1 ?_
          simp -dsimp [Tt, h8, hT, set_ne]
          refine pcall c2 ?_
          simp -dsimp [Tt, h8, hT, set_ne]
          refine pcall c3 ?_
          simp -dsimp [Tt, h8, hT, set_ne]
          refine pcall p1 ?_
          simp -dsimp [Tt, h8, hT, set_ne]
          refine pcall p2 ?_
          simp -dsimp [Tt, h8, hT, set_ne]
          refine pcall p3 ?_
          simp -dsimp [Tt, h8, hT, h80, hZ8, set_ne, nn1, n1n]
          refine pcall c4 ?_
          simp -dsimp [Tt, h8, hT, h80, hZ8, set_ne, nn1, n1n]
          refine pcall c5 ?_
          simp -dsimp [Tt, I, h8, hT, h82, hR, h80, hZ8, set_ne, nn1, n1n, nn2, n2n, n12, n21]
          refine pcall hmy ?_
          simp -dsimp [Tt, I, h8, hT, h82, hR, h80, hZ8, set_ne, nn1, n1n, nn2, n2n, n12, n21]
          refine pcall ce ?_
          simp -dsimp [Tt, I, h8, hT, h82, hR, h80, hZ8, set_ne, nn1, n1n, nn2, n2n, n12, n21]
          refine aCall_le (.cons (Le.refl _) (.cons hle .nil)) ?_
          refine pcall sz ?_
          simp -dsimp [Tt]
          exact pcq rfl (fr2 _ _ _)
      · have ho : onceF l t = ((stepT l t).1, false, Tm0) := by simp [onceF, hv, h0]
        rw [ho] at p3
        unfold resTb at p3
        simp only at p3
        rw [show erC (stepT l t).1 = .iface 39 (.v (.int .i64 (stepT l t).1)) by simp [erC, code, h0]] at p3
        have ce := cCodeN (stepT l t).1 (by omega) (by omega)
        simp only [I] at ce
        have h0b : ((stepT l t).1 == 0) = false := by simpa using h0
        have h0c : ((stepT l t).1 != 0) = true := by simpa using h0
        generalize hZ : tmD Tm0 = Z at p3 sz h80
        have hZ8 : List.take 8 Z = Z := List.take_of_length_le (by omega)
        have hle := Le_zt
        rw [hZ] at hle
        generalize tmD (stepT l t).2 = R at c5 hmy h82
        have hR : List.take 8 R = R := List.take_of_length_le (by omega)
        generalize (stepT l t).1 = C at p3 c5 ce h0 h0b h0c
        generalize tmD t = T at s0 c1 c2 c3 p1 p2 p3 c4 c5 st h8
        have hT : List.take 8 T = T := List.take_of_length_le (by omega)
        refine acalls_vc [0, 1, 3, 4, 5, 6, 7, 8, 9, 10, 11, 12, 13, 14, 15, 21, 44, 56, 72, 99, 101] Tryz.func5 Tryz.ntmps5 (by kernel_rfl) rfl rfl (by simp) ?_
        simp -dsimp [h8, hT, set_ne]
        refine pcall cUp25 ?_
        simp -dsimp [Tt, h8, hT, set_ne]
        refine pcall s0 ?_
        simp -dsimp [Tt, h8, hT, set_ne]
        refine pcall c1 ?_
        simp -dsimp [Tt, h8, hT, set_ne]
        refine pcall c2 ?_
        simp -dsimp [Tt, h8, hT, set_ne]
        refine pcall c3 ?_
        simp -dsimp [Tt, h8, hT, set_ne]
        refine pcall p1 ?_
        simp -dsimp [Tt, h8, hT, set_ne]
        refine pcall p2 ?_
        simp -dsimp [Tt, h8, hT, set_ne]
        refine pcall p3 ?_
        simp -dsimp [Tt, h8, hT, h80, hZ8, set_ne, nn1, n1n]
        refine pcall c4 ?_
        simp -dsimp [Tt, h8, hT, h80, hZ8, set_ne, nn1, n1n]
        refine pcall c5 ?_
        simp -dsimp [Tt, I, h0, h0b, h0c, h8, hT, h82, hR, h80, hZ8, set_ne, nn1, n1n, nn2, n2n, n12, n21]
        refine pcall ce ?_
        simp -dsimp [Tt, I, h0, h0b, h0c, h8, hT, h82, hR, h80, hZ8, set_ne, nn1, n1n, nn2, n2n, n12, n21]
        refine aCall_le (.cons (Le.refl _) (.cons hle .nil)) ?_
        refine pcall sz ?_
        simp -dsimp [Tt]
        exact pcq rfl (fr2 _ _ _)
end Go.Proofs.Mv.App
