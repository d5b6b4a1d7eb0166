/- A part of the proofs: machine, contracts, laws. No condition of its own. -/
import Derived.Test.YtihbegkefjjhpaaGreatDoorP23
import Derived.Test.YtihbegkefjjhpaaGreatDoorP15
import Derived.Test.YtihbegkefjjhpaaGreatDoorP14
import Derived.Test.YtihbegkefjjhpaaGreatDoorP01
set_option linter.unusedSimpArgs false
set_option linter.unusedVariables false
set_option linter.unusedSectionVars false
open Go Go.Proofs Go.Proofs.Mv.V
set_option maxRecDepth 10000
namespace Go.Proofs.Mv.App
set_option maxHeartbeats 2000000 in
theorem cRAllTm {t : Tm} (ht : TmW t) : TmF t → Pc Tryz.prog 36 [.agg (tmD t)] (Tt (allTm t)) := by
  induction ht with
  | mk kind num mod name names vars types subs l1 l2 l3 l4 l5 l6 l7 l8 l9 l10 ih =>
    intro hf
    cases hf with
    | mk _ _ _ _ _ _ _ _ hty hfs =>
    refine pc_of (pur_T _) (fun m n => ?_)
    have fr : ∀ o j, j < n → (m.set n o) j = m j := fun o j hj => by rw [set_ne _ _ _ _ (by omega)]
    have hL4 : (subs.map tmD).length = subs.length := by simp
    have hG4 : ∀ i (h : i < subs.length), (subs.map tmD)[i]? = some (tmD subs[i]) := fun i h => by simp [h]
    have hown := cROwnT (.mk kind num mod name names vars types subs l1 l2 l3 l4 l5 l6 l7 l8 l9 l10) hty
    have hsplit : ∀ i, allTms (subs.take i) = false → allTms subs = false := fun i h => by
      cases e : allTms subs
      · rfl
      · rw [allTms_take e i] at h; cases h
    rw [ownR_eq] at hown
    simp only [tmD, sl1, tmsD_eq, allTm] at hown ⊢
    generalize shapeTm (.mk kind num mod name names vars types subs) = SH at hown ⊢
    generalize (names.map fun s => [S s]) = NL at hown
    generalize (vars.map fun s => [S s]) = VL at hown
    generalize types.map tyD = YL at hown
    generalize subs.map tmD = SL at hL4 hG4 hown
    refine acalls_vc [0, 1, 2, 3, 4, 14] Tryz.func36 Tryz.ntmps36 (by kernel_rfl) rfl rfl (by simp) ?_
    simp -dsimp [I]
    simp only [I] at hown
    refine pcall hown ?_
    simp -dsimp [I, Tt]
    refine vloop_as (β := Nat) (fun i => [(1, .ptr n 0 0 0), (3, Tt (SH && allTms (subs.take i))), (4, I i)]) (fun i m2 n2 => m2 = m.set n (tmO kind num mod name NL VL YL SL) ∧ n2 = n + 1 ∧ i ≤ subs.length) (fun i => subs.length - i) 0 (by simp [I, Tt, allTms]) ⟨rfl, rfl, by omega⟩ ?_
    rintro i m2 n2 ⟨rfl, rfl, le⟩
    cases hb : (SH && allTms (subs.take i)) with
    | false =>
      simp -dsimp [I, Tt, tmO, hL4]
      refine pcq ?_ (fr _)
      have : (SH && allTms subs) = false := by
        rcases Bool.and_eq_false_iff.1 hb with h | h
        · simp [h]
        · simp [hsplit i h]
      rw [this]
    | true =>
    by_cases hi : (i : Int) < subs.length
    · have hi' : i < subs.length := by omega
      have wi : IntKind.i64.wrap ((i : Int) + 1) = (i : Int) + 1 := wrap_i64 (by omega) (by omega)
      have hiN : i < SL.length := by omega
      have hgi : SL[i] = tmD subs[i] := get_opt (hG4 i hi') hiN
      have hsn : allTms (subs.take (i + 1)) = (allTms (subs.take i) && allTm subs[i]) := by rw [take_snoc hi', allTms_append]; simp [allTms]
      simp -dsimp [I, Tt, tmO, hL4, hi, hi', hiN, hgi]
      refine pcall (ih subs[i] (List.getElem_mem hi') (hfs _ (List.getElem_mem hi'))) ?_
      simp -dsimp [I, wi]
      refine rnd (i + 1) (by omega) ?_ ⟨rfl, rfl, by omega⟩
      simp only [Bool.and_eq_true] at hb
      simp [hsn, hb, Tt, I]
    · have e : subs.take i = subs := List.take_of_length_le (by omega)
      rw [e] at hb
      simp -dsimp [I, Tt, tmO, hL4, hi]
      exact pcq (by rw [hb]) (fr _)
theorem cRMayTm {t : Tm} (ht : TmW t) (hf : TmF t) (hb : allTm t = true → manyTm t ≤ 1000000) : Pc Tryz.prog 13 [.agg (tmD t)] (Tt (mayTm t)) := by
  refine pc_of (pur_T _) (fun m n => ?_)
  have fr : ∀ o j, j < n → (m.set n o) j = m j := fun o j hj => by rw [set_ne _ _ _ _ (by omega)]
  have hz : (tmD t).length = 8 := by simp
  have h1 := cRAllTm ht hf
  have h2 := fun h => cRManyTm ht (hb h)
  have h3 := fun h => cRDeepTm ht (hb h)
  unfold mayTm
  generalize tmD t = XX at h1 h2 h3 hz
  have htz : List.take 8 XX = XX := List.take_of_length_le (by omega)
  refine acalls_vc [0, 1, 2, 3] Tryz.func13 Tryz.ntmps13 (by kernel_rfl) rfl rfl (by simp) ?_
  simp -dsimp [hz, htz]
  refine pcall h1 ?_
  cases e1 : allTm t with
  | false =>
    simp -dsimp [I, Tt]
    exact pcq (by simp [Tt]) (fr _)
  | true =>
  simp -dsimp [I, Tt, hz, htz]
  refine pcall (h2 e1) ?_
  by_cases e2 : manyTm t ≤ 300
  · have e2' : (manyTm t : Int) ≤ 300 := by omega
    simp -dsimp [I, Tt, hz, htz, e2, e2']
    refine pcall (h3 e1) ?_
    simp -dsimp [I, Tt]
    refine pcq ?_ (fr _)
    have : (decide ((deepTm t : Int) ≤ 32)) = decide (deepTm t ≤ 32) := by
      by_cases e : deepTm t ≤ 32
      · simp [e]; omega
      · simp [e]; omega
    simp [Tt, e2, this]
  · have e2' : ¬ (manyTm t : Int) ≤ 300 := by omega
    simp -dsimp [I, Tt, e2, e2']
    exact pcq (by first | (simp [Tt]; done) | (simp [Tt]; omega)) (fr _)
end Go.Proofs.Mv.App
open Go Go.Proofs Go.Proofs.Mv.V
set_option maxRecDepth 10000
namespace Go.Proofs.Mv.App
def inL (k : Int) (names vars ns : Nms) (i : Nat) : Nms := if k = 8 then ns ++ names else if k = 12 ∧ 0 < i then ns ++ [vars.getD (i - 1) []] else ns
theorem cloTs_iff : ∀ (l : List Tm) (ns : Nms), cloTs l ns = true ↔ ∀ j (h : j < l.length), cloT l[j] ns = true
  | [], _ => by simp [cloTs]
  | t :: ts, ns => by
    simp only [cloTs, Bool.and_eq_true, cloTs_iff ts ns]
    constructor
    · rintro ⟨h1, h2⟩ j hj
      cases j with
      | zero => exact h1
      | succ j => exact h2 j (by simpa using hj)
    · intro h
      exact ⟨h 0 (by simp), fun j hj => h (j + 1) (by simpa using hj)⟩
structure RcL [GI] (k N : Int) (mod nm : List UInt8) (NL VL YL SL : List (List D)) (names vars ns : Nms) (subs : List Tm) (m : Mem) (n : Nat) (i : Nat) (m2 : Mem) (n2 : Nat) : Prop where
  o0 : m2 n = some ⟨8, [[I k, I N, S mod, S nm, .sl 1 NL, .sl 1 VL, .sl 7 YL, .sl 8 SL]], 0⟩
  fr : ∀ j, j < n → m2 j = m j
  nn : n + 1 ≤ n2
  le : i ≤ subs.length
  al : ∀ j (h : j < subs.length), j < i → cloT subs[j] (inL k names vars ns j) = true
set_option maxHeartbeats 4000000 in
theorem cRClosedT {t : Tm} (ht : TmW t) : ∀ {ns : Nms}, allTm t = true → ns.length + 21 * deepTm t ≤ 990 → Pc Tryz.prog 19 [.agg (tmD t), sl1 ns] (Tt (cloT t ns)) := by
  induction ht with
  | mk k N mod nm names vars types subs l1 l2 l3 l4 l5 l6 l7 l8 l9 l10 ih =>
  intro ns ha hb
  refine pc_of (pur_T _) (fun m n => ?_)
  have fr : ∀ o j, j < n → (m.set n o) j = m j := fun o j hj => by rw [set_ne _ _ _ _ (by omega)]
  have has : ∀ s ∈ subs, allTm s = true := by
    simp only [allTm, Bool.and_eq_true, allTms_eq, List.all_eq_true] at ha
    exact ha.2
  have hds : ∀ s ∈ subs, deepTm s + 1 ≤ deepTm (.mk k N mod nm names vars types subs) := by
    intro s hs
    simp only [deepTm]
    have := deepTms_mem hs
    omega
  have ih' : ∀ s ∈ subs, ∀ ms : Nms, ms.length ≤ ns.length + 21 → Pc Tryz.prog 19 [.agg (tmD s), sl1 ms] (Tt (cloT s ms)) := fun s hs ms h => ih s hs (has s hs) (by have := hds s hs; omega)
  have hsp : shapeTm (.mk k N mod nm names vars types subs) = true := by
    simp only [allTm, Bool.and_eq_true] at ha; exact ha.1
  obtain ⟨kk, sm⟩ := shapeTm_parts hsp
  have hNL : (ns.map fun s => [S s]).length = ns.length := by simp
  have hNG : ∀ i (h : i < ns.length), (ns.map fun s => [S s])[i]? = some [S ns[i]] := fun i h => by simp [h]
  by_cases k3 : k = 3
  · subst k3
    simp only [tmD, cloT, if_true, sl1]
    generalize (ns.map fun s => [S s]) = NS at hNL hNG ⊢
    generalize (names.map fun s => [S s]) = NL
    generalize (vars.map fun s => [S s]) = VL
    generalize tmsD subs = SL
    generalize types.map tyD = YL
    refine acalls_vc [0, 1, 2, 4, 5, 6, 7, 8, 11, 15, 24, 29, 37, 48, 66] Tryz.func19 Tryz.ntmps19 (by kernel_rfl) rfl rfl (by simp) ?_
    simp -dsimp [I, S]
    refine vloop_as (β := Nat) (fun i => [(1, .sl 1 NS), (2, .ptr n 0 0 0), (5, I i)]) (fun i m2 n2 => m2 = m.set n ⟨8, [[.v (.int .i64 3), .v (.int .i64 N), .v (.string (ofL mod)), .v (.string (ofL nm)), .sl 1 NL, .sl 1 VL, .sl 7 YL, .sl 8 SL]], 0⟩ ∧ i ≤ ns.length ∧ ∀ x ∈ ns.take i, x ≠ nm) (fun i => ns.length - i) 0 (by simp [I]) ⟨rfl, by omega, by simp⟩ ?_
    rintro i m2 n2 ⟨rfl, le, hno⟩
    by_cases hi : (i : Int) < ns.length
    · have hi' : i < ns.length := by omega
      have wi : IntKind.i64.wrap ((i : Int) + 1) = (i : Int) + 1 := wrap_i64 (by omega) (by omega)
      have hiN : i < NS.length := by omega
      have hgi : NS[i] = [S ns[i]] := get_opt (hNG i hi') hiN
      simp -dsimp [I, S, hi, hNL]
      refine vdraw_of [0, 0, 3, 7, 0, 16, 63] [0, 1, 2, 3, 4, 5, 6] (by kernel_rfl) (by kernel_rfl) ?_
      simp -dsimp [I, S, hi, hi', hiN, hgi]
      by_cases he : ns[i] = nm
      · simp -dsimp [he]
        exact pcq (by simp [Tt]; rw [← he]; exact List.getElem_mem hi') (fr _)
      · have he' : (ns[i] == nm) = false := by simpa using he
        simp -dsimp [he', wi]
        refine rnd (i + 1) (by omega) (by simp [I]) ⟨rfl, by omega, fun x hx => ?_⟩
        rw [List.take_succ_eq_append_getElem hi'] at hx
        rcases List.mem_append.1 hx with hx | hx
        · exact hno x hx
        · simp at hx; rw [hx]; exact he
    · have e : i = ns.length := by omega
      subst e
      rw [List.take_length] at hno
      simp -dsimp [I, hi, hNL]
      exact pcq (by simp [Tt]; exact fun h => hno nm h rfl) (fr _)
  have b3 : (k == 3) = false := by simpa using k3
  have hcl : cloT (.mk k N mod nm names vars types subs) ns = true ↔ ∀ j (h : j < subs.length), cloT subs[j] (inL k names vars ns j) = true := by
    by_cases k8 : k = 8
    · subst k8
      simp only [cloT, if_neg k3, if_true, inL, cloTs_iff]
    by_cases k12 : k = 12
    · subst k12
      have hcn := kk.cn
      simp only [cntK] at hcn
      obtain ⟨s0, ss, rfl, hsl⟩ : ∃ s0 ss, subs = s0 :: ss ∧ ss.length = vars.length := by
        cases subs with
        | nil => simp at hcn
        | cons a r => exact ⟨a, r, rfl, by simp at hcn; omega⟩
      simp only [cloT, if_neg k3, if_neg k8, if_true, cloC, Bool.and_eq_true, cloB_iff ss vars ns hsl, inL, true_and]
      constructor
      · rintro ⟨h1, h2⟩ j hj
        cases j with
        | zero => simpa using h1
        | succ j =>
          have hj' : j < ss.length := by simpa using hj
          have hv : j < vars.length := by omega
          have := h2 j hj' hv
          simpa [hv] using this
      · intro h
        have h00 := h 0 (by simp)
        simp only [Nat.lt_irrefl, if_false, List.getElem_cons_zero] at h00
        refine ⟨h00, fun j q1 q2 => ?_⟩
        have := h (j + 1) (by simpa using q1)
        simpa [q2] using this
    · simp only [cloT, if_neg k3, if_neg k8, if_neg k12, inL, k12, false_and, if_false, cloTs_iff]
  have hT : cloT (.mk k N mod nm names vars types subs) ns = (List.range subs.length).all fun j => cloT (subs.getD j Tm0) (inL k names vars ns j) := by
    rw [Bool.eq_iff_iff, hcl, List.all_eq_true]
    constructor
    · intro h j hj
      have hj' : j < subs.length := by simpa using hj
      simpa [hj'] using h j hj'
    · intro h j hj
      have := h j (by simpa using hj)
      simpa [hj] using this
  have hIL : ∀ j, j < subs.length → (inL k names vars ns j).length ≤ ns.length + 21 := by
    intro j hj
    unfold inL
    have := sm.ln
    split
    · simp; omega
    · split
      · simp
      · omega
  have hsl21 := sm.ls
  have hSL : (subs.map tmD).length = subs.length := by simp
  have hSG : ∀ i (h : i < subs.length), (subs.map tmD)[i]? = some (tmD subs[i]) := fun i h => by simp [h]
  have hVL : (vars.map fun s => [S s]).length = vars.length := by simp
  have hVG : ∀ i (h : i < vars.length), (vars.map fun s => [S s])[i]? = some [S vars[i]] := fun i h => by simp [h]
  have hvn : k = 12 → subs.length = vars.length + 1 := fun e => by
    have hcn := kk.cn
    subst e
    simp only [cntK] at hcn
    omega
  have hml : names.length ≤ 21 := sm.ln
  simp only [tmD, tmsD_eq, sl1]
  generalize hNS : (ns.map fun s => [S s]) = NS at hNL hNG ⊢
  generalize hNM : (names.map fun s => [S s]) = NM
  have hNMl : NM.length = names.length := by rw [← hNM]; simp
  generalize (vars.map fun s => [S s]) = VL at hVL hVG ⊢
  generalize (subs.map tmD) = SL at hSL hSG ⊢
  generalize types.map tyD = YL
  refine acalls_vc [0, 1, 2, 4, 5, 6, 7, 8, 11, 15, 24, 29, 37, 48, 66] Tryz.func19 Tryz.ntmps19 (by kernel_rfl) rfl rfl (by simp) ?_
  simp -dsimp [I, S, b3]
  refine vloop_as (β := Nat) (fun i => [(1, .sl 1 NS), (2, .ptr n 0 0 0), (6, I i)]) (RcL k N mod nm NM VL YL SL names vars ns subs m n) (fun i => subs.length - i) 0 (by simp [I]) ⟨by simp [I, S], fr _, by omega, by omega, by simp⟩ ?_
  rintro i m2 n2 ⟨o0, hfr, hn2, le, hall⟩
  have h0n : n ≠ n2 := by omega
  have h1n : n ≠ n2 + 1 := by omega
  by_cases hi : (i : Int) < subs.length
  · have hi' : i < subs.length := by omega
    have wi : IntKind.i64.wrap ((i : Int) + 1) = (i : Int) + 1 := wrap_i64 (by omega) (by omega)
    have hiS : i < SL.length := by omega
    have hgs : SL[i]? = some (tmD subs[i]) := hSG i hi'
    have hcli := ih' subs[i] (List.getElem_mem hi') _ (hIL i hi')
    have hz : (tmD subs[i]).length = 8 := by simp
    have hpX := pur_tm subs[i]
    generalize tmD subs[i] = X at hgs hz hcli hpX
    have hX : List.take 8 X = X := List.take_of_length_le (by omega)
    by_cases k8 : k = 8
    · subst k8
      simp -dsimp [I, S, o0, hi, hSL, hNL, hNMl, hgs, hiS, hz, hX, set_ne, h0n, show ((8 : Int) == 12) = false by decide]
      refine ⟨by omega, ?_⟩
      have hin : inL 8 names vars ns i = ns ++ names := by simp [inL, show ((8 : Int) == 12) = false by decide]
      rw [hin] at hcli
      refine ⟨by omega, ?_⟩
      refine aCall_pubS (pre := [.agg X]) (post := []) (z := 1) (es := (ns ++ names).map fun s => [S s]) ?_ pur_ss (fun x hx => ?_) (by simp) ?_
      · exact .mk (es' := List.take ns.length NS ++ NM) (set_same _ _ _) (by simp) (by simp; omega) (by rw [List.take_of_length_le (by simp; omega), List.take_of_length_le (by omega), List.map_append, hNS, hNM])
      · simp only [List.mem_singleton] at hx
        subst hx
        exact Pur.agg hpX
      intro m3 hm3
      have hk3 : ∀ j, j < n2 → m3 j = m2 j := fun j hj => by
        rw [hm3 j (fun e => by simp [kof] at e; omega)]
        simp [set_ne, show j ≠ n2 by omega, show j ≠ n2 + 1 by omega]
      refine pcall hcli ?_
      cases hce : cloT subs[i] (ns ++ names) with
      | true =>
        simp -dsimp [I, S, Tt, wi]
        refine rnd (i + 1) (by omega) (by simp [I]) ⟨by rw [hk3 n (by omega)]; exact o0, fun j hj => by rw [hk3 j (by omega)]; exact hfr j hj, by omega, by omega, fun j q1 q3 => ?_⟩
        rcases Nat.lt_or_ge j i with q | q
        · exact hall j q1 q
        · obtain rfl : j = i := by omega
          rw [hin]
          exact hce
      | false =>
        simp -dsimp [I, S, Tt, wi]
        refine pcq ?_ fun j hj => by rw [hk3 j (by omega)]; exact hfr j hj
        have : cloT (.mk 8 N mod nm names vars types subs) ns = false := by
          rw [Bool.eq_false_iff]
          intro h
          have := hcl.1 h i hi'
          rw [hin, hce] at this
          cases this
        simp [this, Tt]
    have b8 : (k == 8) = false := by simpa using k8
    by_cases kx : k = 12 ∧ 0 < i
    · obtain ⟨rfl, hi0⟩ := kx
      have hi0' : (0 : Int) < (i : Int) := by omega
      have wm : IntKind.i64.wrap ((i : Int) - 1) = ((i - 1 : Nat) : Int) := by rw [wrap_i64 (by omega) (by omega)]; omega
      have hv := hvn rfl
      have hiV : i - 1 < VL.length := by omega
      have hgv : VL[i - 1] = [S vars[i - 1]] := get_opt (hVG (i - 1) (by omega)) hiV
      simp -dsimp [I, S, o0, hi, hSL, hNL, hNMl, hgs, hiS, hz, hX, set_ne, h0n, k8, b8, hi0, hi0', wm, hiV, hgv]
      refine ⟨by omega, ?_⟩
      have hin : inL 12 names vars ns i = ns ++ [vars.getD (i - 1) []] := by simp [inL, k8, b8, hi0, hi0', wm, hiV, hgv]
      rw [hin] at hcli
      refine ⟨by omega, ?_⟩
      simp -dsimp [I, S, o0, hgs, hz, hX, set_ne, h0n, h1n]
      refine ⟨by omega, ?_⟩
      refine aCall_pubS (pre := [.agg X]) (post := []) (z := 1) (es := (ns ++ [vars.getD (i - 1) []]).map fun s => [S s]) ?_ pur_ss (fun x hx => ?_) (by simp) ?_
      · exact .mk (es' := List.take ns.length NS ++ [[S vars[i - 1]]]) (by simp [set_ne, S]) (by simp) (by simp; omega) (by rw [List.take_of_length_le (by simp; omega), List.take_of_length_le (by omega), List.map_append, hNS]; simp [show i - 1 < vars.length by omega])
      · simp only [List.mem_singleton] at hx
        subst hx
        exact Pur.agg hpX
      intro m3 hm3
      have hk3 : ∀ j, j < n2 → m3 j = m2 j := fun j hj => by
        rw [hm3 j (fun e => by simp [kof] at e; omega)]
        simp [set_ne, show j ≠ n2 by omega, show j ≠ n2 + 1 by omega]
      refine pcall hcli ?_
      cases hce : cloT subs[i] (ns ++ [vars.getD (i - 1) []]) with
      | true =>
        simp -dsimp [I, S, Tt, wi]
        refine rnd (i + 1) (by omega) (by simp [I]) ⟨by rw [hk3 n (by omega)]; exact o0, fun j hj => by rw [hk3 j (by omega)]; exact hfr j hj, by omega, by omega, fun j q1 q3 => ?_⟩
        rcases Nat.lt_or_ge j i with q | q
        · exact hall j q1 q
        · obtain rfl : j = i := by omega
          rw [hin]
          exact hce
      | false =>
        simp -dsimp [I, S, Tt, wi]
        refine pcq ?_ fun j hj => by rw [hk3 j (by omega)]; exact hfr j hj
        have : cloT (.mk 12 N mod nm names vars types subs) ns = false := by
          rw [Bool.eq_false_iff]
          intro h
          have := hcl.1 h i hi'
          rw [hin, hce] at this
          cases this
        simp [this, Tt]
    · by_cases k12 : k = 12
      · subst k12
        have hi0 : ¬ 0 < i := fun h => kx ⟨rfl, h⟩
        have hi0' : ¬ (0 : Int) < (i : Int) := by omega
        simp -dsimp [I, S, o0, hi, hSL, hNL, hNMl, hgs, hiS, hz, hX, set_ne, h0n, k8, b8, hi0, hi0']
        refine ⟨by omega, ?_⟩
        have hin : inL 12 names vars ns i = ns := by simp [inL, k8, b8, hi0, hi0']
        rw [hin] at hcli
        refine aCall_pubS (pre := [.agg X]) (post := []) (z := 1) (es := (ns).map fun s => [S s]) ?_ pur_ss (fun x hx => ?_) (by simp) ?_
        · exact .mk (es' := NS) (set_same _ _ _) (by simp) (by omega) (by rw [List.take_of_length_le (by omega), hNS])
        · simp only [List.mem_singleton] at hx
          subst hx
          exact Pur.agg hpX
        intro m3 hm3
        have hk3 : ∀ j, j < n2 → m3 j = m2 j := fun j hj => by
          rw [hm3 j (fun e => by simp [kof] at e; omega)]
          simp [set_ne, show j ≠ n2 by omega, show j ≠ n2 + 1 by omega]
        refine pcall hcli ?_
        cases hce : cloT subs[i] (ns) with
        | true =>
          simp -dsimp [I, S, Tt, wi]
          refine rnd (i + 1) (by omega) (by simp [I]) ⟨by rw [hk3 n (by omega)]; exact o0, fun j hj => by rw [hk3 j (by omega)]; exact hfr j hj, by omega, by omega, fun j q1 q3 => ?_⟩
          rcases Nat.lt_or_ge j i with q | q
          · exact hall j q1 q
          · obtain rfl : j = i := by omega
            rw [hin]
            exact hce
        | false =>
          simp -dsimp [I, S, Tt, wi]
          refine pcq ?_ fun j hj => by rw [hk3 j (by omega)]; exact hfr j hj
          have : cloT (.mk 12 N mod nm names vars types subs) ns = false := by
            rw [Bool.eq_false_iff]
            intro h
            have := hcl.1 h i hi'
            rw [hin, hce] at this
            cases this
          simp [this, Tt]
      · have b12 : (k == 12) = false := by simpa using k12
        simp -dsimp [I, S, o0, hi, hSL, hNL, hNMl, hgs, hiS, hz, hX, set_ne, h0n, k8, b8, k12, b12]
        refine ⟨by omega, ?_⟩
        have hin : inL k names vars ns i = ns := by simp [inL, k8, b8, k12, b12]
        rw [hin] at hcli
        refine aCall_pubS (pre := [.agg X]) (post := []) (z := 1) (es := (ns).map fun s => [S s]) ?_ pur_ss (fun x hx => ?_) (by simp) ?_
        · exact .mk (es' := NS) (set_same _ _ _) (by simp) (by omega) (by rw [List.take_of_length_le (by omega), hNS])
        · simp only [List.mem_singleton] at hx
          subst hx
          exact Pur.agg hpX
        intro m3 hm3
        have hk3 : ∀ j, j < n2 → m3 j = m2 j := fun j hj => by
          rw [hm3 j (fun e => by simp [kof] at e; omega)]
          simp [set_ne, show j ≠ n2 by omega, show j ≠ n2 + 1 by omega]
        refine pcall hcli ?_
        cases hce : cloT subs[i] (ns) with
        | true =>
          simp -dsimp [I, S, Tt, wi]
          refine rnd (i + 1) (by omega) (by simp [I]) ⟨by rw [hk3 n (by omega)]; exact o0, fun j hj => by rw [hk3 j (by omega)]; exact hfr j hj, by omega, by omega, fun j q1 q3 => ?_⟩
          rcases Nat.lt_or_ge j i with q | q
          · exact hall j q1 q
          · obtain rfl : j = i := by omega
            rw [hin]
            exact hce
        | false =>
          simp -dsimp [I, S, Tt, wi]
          refine pcq ?_ fun j hj => by rw [hk3 j (by omega)]; exact hfr j hj
          have : cloT (.mk k N mod nm names vars types subs) ns = false := by
            rw [Bool.eq_false_iff]
            intro h
            have := hcl.1 h i hi'
            rw [hin, hce] at this
            cases this
          simp [this, Tt]
  · have e : i = subs.length := by omega
    subst e
    have hc : cloT (.mk k N mod nm names vars types subs) ns = true := hcl.2 fun j h => hall j h h
    rw [hc]
    simp -dsimp [I, o0, hi, hSL]
    exact pcq rfl hfr
end Go.Proofs.Mv.App
open Go Go.Proofs Go.Proofs.Mv.V
set_option maxRecDepth 10000
namespace Go.Proofs.Mv.App
theorem cRClosed0 {t : Tm} (ht : TmW t) (hm : mayTm t = true) : Pc Tryz.prog 19 [.agg (tmD t), .v (.slice none 0 0)] (Tt (cloT t [])) := fun m n => by
  simp only [mayTm, Bool.and_eq_true, decide_eq_true_eq] at hm
  exact acalls_le (.cons (Le.refl _) (.cons (Le_nil 1) .nil)) (cRClosedT ht (ns := []) hm.1.1 (by simp; omega) m n)
set_option maxHeartbeats 2000000 in
theorem cRFair {l : List Df} {t : Tm} (hl : l.length ≤ 9223372036854775807) (hd : ∀ d ∈ l, TmW d.term) (ht : TmW t) (hdf : ∀ d ∈ l, fewTm3 d.term = true) (htf : fewTm3 t = true) : Pc Tryz.prog 24 [.sl 10 (l.map dfD), .agg (tmD t)] (Tt (fairF l t)) := by
  refine pc_of (pur_T _) (fun m n => ?_)
  have fr : ∀ o j, j < n → (m.set n o) j = m j := fun o j hj => by rw [set_ne _ _ _ _ (by omega)]
  have mm : ∀ {t : Tm}, TmW t → fewTm3 t = true → Pc Tryz.prog 13 [.agg (tmD t)] (Tt (mayTm t)) := fun hw h => cRMayTm hw (fewTm3_ok h).1 fun _ => by have := (fewTm3_ok h).2; omega
  have hz : (tmD t).length = 8 := by simp
  have c1 := mm ht htf
  have c2 := fun h => cRClosed0 ht h
  have hLL : (l.map dfD).length = l.length := by simp
  have hLG : ∀ i (h : i < l.length), (l.map dfD)[i]? = some (dfD l[i]) := fun i h => by simp [h]
  unfold fairF
  generalize tmD t = X at c1 c2 hz
  generalize l.map dfD = L at hLL hLG
  have hX : List.take 8 X = X := List.take_of_length_le (by omega)
  refine acalls_vc [0, 1, 3, 4, 5, 6, 7, 8, 17, 26] Tryz.func24 Tryz.ntmps24 (by kernel_rfl) rfl rfl (by simp) ?_
  simp -dsimp [hz, hX, hLL]
  refine pcall c1 ?_
  cases hm : mayTm t with
  | false =>
    simp -dsimp [Tt]
    exact pcq rfl (fr _)
  | true =>
  have c2 := c2 hm
  by_cases h40 : l.length ≤ 40
  case neg =>
    have h40' : (40 : Int) < (l.length : Int) := by omega
    simp -dsimp [Tt, hLL, h40']
    exact pcq (by simp [Tt, h40]) (fr _)
  have h40' : ¬ (40 : Int) < (l.length : Int) := by omega
  simp -dsimp [Tt, hLL, h40', hz, hX]
  refine pcall c2 ?_
  simp -dsimp [Tt, hLL]
  refine vloop_as (β := Nat × Bool) (fun b => [(0, .sl 10 L), (6, .v (.bool b.2)), (7, I b.1)]) (fun b m2 n2 => m2 = m.set n ⟨8, [X], 0⟩ ∧ n2 = n + 1 ∧ b.1 ≤ l.length ∧ b.2 = (cloT t [] && (l.take b.1).all fun d => valF d.term)) (fun b => l.length - b.1) (0, cloT t []) (by simp [I]) ⟨rfl, rfl, by simp, by simp⟩ ?_
  rintro ⟨i, ok⟩ m2 n2 ⟨rfl, rfl, le, hok⟩
  simp only at le hok
  by_cases hi : (i : Int) < l.length
  · have hi' : i < l.length := by omega
    cases ok with
    | false =>
      simp -dsimp [I, Tt, hi, hLL]
      refine pcq ?_ (fr _)
      have : (cloT t [] && l.all fun d => valF d.term) = false := by
        rw [Bool.eq_false_iff]
        intro h
        simp only [Bool.and_eq_true, List.all_eq_true] at h
        have : (cloT t [] && (l.take i).all fun d => valF d.term) = true := by
          simp only [Bool.and_eq_true, List.all_eq_true]
          exact ⟨h.1, fun x hx => h.2 x (List.mem_of_mem_take hx)⟩
        rw [this] at hok
        cases hok
      simp only [Bool.and_eq_false_iff] at this
      simp [Tt, h40]
      rcases this with h | h
      · intro h2; rw [h] at h2; cases h2
      · intro _
        have := List.all_eq_false.1 h
        simpa using this
    | true =>
      have wi : IntKind.i64.wrap ((i : Int) + 1) = (i : Int) + 1 := wrap_i64 (by omega) (by omega)
      have hiL : i < L.length := by omega
      have hgi : L[i] = dfD l[i] := get_opt (hLG i hi') hiL
      have hdm : l[i] ∈ l := List.getElem_mem hi'
      have e1 := mm (hd _ hdm) (hdf _ hdm)
      have e2 := fun h => cRClosed0 (hd _ hdm) h
      have e3 := cRValue (hd _ hdm)
      have hzY : (tmD l[i].term).length = 8 := by simp
      simp only [dfD] at hgi
      have hvd : valF l[i].term = (mayTm l[i].term && cloT l[i].term [] && valT l[i].term) := rfl
      generalize tmD l[i].term = Y at hgi e1 e2 e3 hzY
      have hY : List.take 8 Y = Y := List.take_of_length_le (by omega)
      have hnx : ∀ b, b = valF l[i].term → b = (cloT t [] && (l.take (i + 1)).all fun d => valF d.term) := fun b hb => by
        rw [List.take_succ_eq_append_getElem hi', List.all_append, ← Bool.and_assoc, ← hok]
        simp [hb]
      simp -dsimp [I, S, Tt, hi, hi', hiL, hLL, hgi, hzY, hY]
      refine pcall e1 ?_
      cases hq : mayTm l[i].term with
      | false =>
        simp -dsimp [I, S, Tt, wi]
        exact rnd (i + 1, false) (by simp; omega) (by simp [I]) ⟨rfl, rfl, by simp; omega, hnx _ (by rw [hvd, hq]; rfl)⟩
      | true =>
        have e2 := e2 hq
        simp -dsimp [I, S, Tt, hi, hi', hiL, hLL, hgi, hzY, hY]
        refine pcall e2 ?_
        cases hq2 : cloT l[i].term [] with
        | false =>
          simp -dsimp [I, S, Tt, wi]
          exact rnd (i + 1, false) (by simp; omega) (by simp [I]) ⟨rfl, rfl, by simp; omega, hnx _ (by rw [hvd, hq, hq2]; rfl)⟩
        | true =>
          simp -dsimp [I, S, Tt, hi, hi', hiL, hLL, hgi, hzY, hY]
          refine pcall e3 ?_
          simp -dsimp [I, S, Tt, wi]
          exact rnd (i + 1, valT l[i].term) (by simp; omega) (by simp [I]) ⟨rfl, rfl, by simp; omega, hnx _ (by rw [hvd, hq, hq2]; rfl)⟩
  · have e : i = l.length := by omega
    subst e
    rw [List.take_length] at hok
    simp -dsimp [I, Tt, hi, hLL]
    refine pcq ?_ (fr _)
    rw [hok]
    simp [Tt, h40]
def shortF (l : List Df) (t : Tm) : Bool := fewTm3 t && decide (l.length ≤ 100) && l.all fun d => fewTm3 d.term
theorem cShort {l : List Df} {t : Tm} (hl : l.length ≤ 9223372036854775807) (hd : ∀ d ∈ l, TmW d.term) (ht : TmW t) : Pc Tryz.prog 18 [.sl 10 (l.map dfD), .agg (tmD t)] (Tt (shortF l t)) := by
  refine pc_of (pur_T _) (fun m n => ?_)
  have fr : ∀ o j, j < n → (m.set n o) j = m j := fun o j hj => by rw [set_ne _ _ _ _ (by omega)]
  have hz : (tmD t).length = 8 := by simp
  have c1 := cRFewT ht
  have hLL : (l.map dfD).length = l.length := by simp
  have hLG : ∀ i (h : i < l.length), (l.map dfD)[i]? = some (dfD l[i]) := fun i h => by simp [h]
  unfold shortF
  generalize tmD t = X at c1 hz
  generalize l.map dfD = L at hLL hLG
  have hX : List.take 8 X = X := List.take_of_length_le (by omega)
  refine acalls_vc [0, 1, 3, 4, 5, 6, 7, 16, 20, 30] Tryz.func18 Tryz.ntmps18 (by kernel_rfl) rfl rfl (by simp) ?_
  simp -dsimp [hz, hX, hLL]
  refine pcall c1 ?_
  cases hm : fewTm3 t with
  | false =>
    simp -dsimp [Tt]
    exact pcq rfl (fr _)
  | true =>
  by_cases h40 : l.length ≤ 100
  case neg =>
    have h40' : (100 : Int) < (l.length : Int) := by omega
    simp -dsimp [Tt, hLL, h40']
    exact pcq (by simp [Tt, h40]) (fr _)
  have h40' : ¬ (100 : Int) < (l.length : Int) := by omega
  simp -dsimp [Tt, hLL, h40', hz, hX]
  refine vloop_as (β := Nat) (fun i => [(0, .sl 10 L), (6, I i)]) (fun i m2 n2 => m2 = m.set n ⟨8, [X], 0⟩ ∧ n2 = n + 1 ∧ i ≤ l.length ∧ ∀ d ∈ l.take i, fewTm3 d.term = true) (fun i => l.length - i) 0 (by simp [I]) ⟨rfl, rfl, by simp, by simp⟩ ?_
  rintro i m2 n2 ⟨rfl, rfl, le, hok⟩
  by_cases hi : (i : Int) < l.length
  · have hi' : i < l.length := by omega
    have wi : IntKind.i64.wrap ((i : Int) + 1) = (i : Int) + 1 := wrap_i64 (by omega) (by omega)
    have hiL : i < L.length := by omega
    have hgi : L[i] = dfD l[i] := get_opt (hLG i hi') hiL
    have hdm : l[i] ∈ l := List.getElem_mem hi'
    have e1 := cRFewT (hd _ hdm)
    have hzY : (tmD l[i].term).length = 8 := by simp
    simp only [dfD] at hgi
    generalize tmD l[i].term = Y at hgi e1 hzY
    have hY : List.take 8 Y = Y := List.take_of_length_le (by omega)
    simp -dsimp [I, S, Tt, hi, hi', hiL, hLL, hgi, hzY, hY]
    refine pcall e1 ?_
    cases hq : fewTm3 l[i].term with
    | false =>
      simp -dsimp [I, S, Tt, wi]
      refine pcq ?_ (fr _)
      have : (l.all fun d => fewTm3 d.term) = false := by
        rw [Bool.eq_false_iff]
        intro h
        rw [List.all_eq_true.1 h _ hdm] at hq
        cases hq
      rw [this]
      simp [Tt]
    | true =>
      simp -dsimp [I, S, Tt, wi]
      refine rnd (i + 1) (by omega) (by simp [I]) ⟨rfl, rfl, by omega, fun x hx => ?_⟩
      rw [List.take_succ_eq_append_getElem hi'] at hx
      rcases List.mem_append.1 hx with hx | hx
      · exact hok x hx
      · simp at hx; rw [hx]; exact hq
  · have e : i = l.length := by omega
    subst e
    rw [List.take_length] at hok
    simp -dsimp [I, Tt, hi, hLL]
    refine pcq ?_ (fr _)
    simp [Tt, h40, List.all_eq_true]
    exact hok
end Go.Proofs.Mv.App
