/- A part of the proofs: machine, contracts, laws. No condition of its own. -/
import Derived.Test.YtihbegkefjjhpaaGreatDoorP17
import Derived.Test.YtihbegkefjjhpaaGreatDoorP01
import Derived.Test.YtihbegkefjjhpaaGreatDoorP00
import Derived.Test.YtihbegkefjjhpaaGreatDoorP10
import Derived.Test.YtihbegkefjjhpaaGreatDoorP05
set_option linter.unusedSimpArgs false
set_option linter.unusedVariables false
set_option linter.unusedSectionVars false
open Go Go.Proofs Go.Proofs.Mv.V
set_option maxRecDepth 10000
namespace Go.Proofs.Mv.App
section
variable [GI]
def LsX (m : Mem) (z : Nat) (EL : List (List D)) (n n' : Nat) (d : D) : Prop := (EL = [] ∧ d = .v (.slice none 0 0)) ∨ ∃ k g, d = .own k g 0 EL.length z ∧ m k = some ⟨z, EL, g⟩ ∧ n ≤ k ∧ k < n'
theorem LsX.lst {m : Mem} {z n n' : Nat} {EL : List (List D)} {d : D} (h : LsX m z EL n n' d) : Lst m z EL d := by
  rcases h with ⟨rfl, rfl⟩ | ⟨k, g, rfl, h1, _⟩
  · exact .nil
  · exact .own h1
theorem LsX.kof {m : Mem} {z n n' : Nat} {EL : List (List D)} {d : D} (h : LsX m z EL n n' d) : ∀ j, kof d = some j → n ≤ j ∧ j < n' := by
  rcases h with ⟨rfl, rfl⟩ | ⟨k, g, rfl, h1, h2, h3⟩
  · intro j h; simp at h
  · intro j h; simp at h; omega
theorem LsX.frame {m m' : Mem} {z n n' n'' : Nat} {EL : List (List D)} {d : D} (h : LsX m z EL n n' d) (hf : ∀ j, n ≤ j → j < n' → m' j = m j) (hn : n' ≤ n'') : LsX m' z EL n n'' d := by
  rcases h with ⟨h1, h2⟩ | ⟨k, g, h1, h2, h3, h4⟩
  · exact .inl ⟨h1, h2⟩
  · exact .inr ⟨k, g, h1, by rw [hf k h3 h4]; exact h2, h3, by omega⟩
theorem rCloneTmX {EL : List (List D)} (hl : EL.length ≤ 1000000) (m : Mem) (n : Nat) : ACalls Tryz.prog 83 [.sl 8 EL] m n
    (fun d m' n' => LsX m' 8 EL n n' d ∧ n ≤ n' ∧ ∀ j, j < n → m' j = m j) := by
  cases EL with
  | nil =>
    refine acalls_vc [0, 2, 4] Tryz.func83 Tryz.ntmps83 (by kernel_rfl) rfl rfl (by simp) ?_
    simp -dsimp
    exact ⟨.inl ⟨rfl, rfl⟩, .inr ⟨_, _, rfl, set_same _ _ _, by omega, by omega⟩, fun j hj => set_ne _ _ _ _ (by omega)⟩
  | cons a r =>
    simp only [List.length_cons] at hl
    refine acalls_vc [0, 2, 4] Tryz.func83 Tryz.ntmps83 (by kernel_rfl) rfl rfl (by simp) ?_
    simp -dsimp
    exact ⟨by omega, .inr ⟨_, _, rfl, set_same _ _ _, by omega, by omega⟩, fun j hj => set_ne _ _ _ _ (by omega)⟩
end
set_option maxHeartbeats 8000000 in
theorem cStepT (hwo : WoutC) {l : List Df} (hl : l.length ≤ 9223372036854775807) {t : Tm} (ht : TmW t) : allTm t = true → Pc Tryz.prog 81 [.sl 10 (l.map dfD), .agg (tmD t)] (resTm (stepT l t)) := by
  induction ht with
  | mk k N mod nm names vars types subs l1 l2 l3 l4 l5 l6 l7 l8 l9 l10 ih =>
  intro ha
  refine pc_pub (fun m n => ?_)
  have nn1 : n ≠ n + 1 := by omega
  have n1n : n + 1 ≠ n := by omega
  have nn2 : n ≠ n + 1 + 1 := by omega
  have n2n : n + 1 + 1 ≠ n := by omega
  have n12 : n + 1 ≠ n + 1 + 1 := by omega
  have n21 : n + 1 + 1 ≠ n + 1 := by omega
  have haa := ha
  simp only [allTm, Bool.and_eq_true] at haa
  obtain ⟨kk, sm⟩ := shapeTm_parts haa.1
  have has : ∀ s ∈ subs, allTm s = true := by have := haa.2; rw [allTms_eq, List.all_eq_true] at this; exact this
  have cn := kk.cn
  simp only [cntK] at cn
  have htw : TmW (.mk k N mod nm names vars types subs) := .mk k N mod nm names vars types subs l1 l2 l3 l4 l5 l6 l7 l8 l9 l10
  have hnx := cNextT htw (fun k' N' mod' nm' names' vars' types' subs' e hk => by
    simp only [Tm.mk.injEq] at e
    obtain ⟨rfl, _, _, _, _, _, _, rfl⟩ := e
    omega)
  have ho := cOwnR hwo hl htw ha
  rcases step_find (defs := l) (k := k) (N := N) (mod := mod) (nm := nm) (names := names) (vars := vars) (types := types) (subs := subs) with ⟨h1, h2⟩ | ⟨i, hi, h1, h2⟩
  · rw [h1] at hnx
    rw [h2]
    obtain ⟨X, E, hr, hX8, hXp, hEp, _⟩ := resTm_tup (ownS l k mod nm names vars subs)
    rw [hr] at ho ⊢
    have hX : List.take 8 X = X := List.take_of_length_le (by omega)
    have h8 : (tmD (.mk k N mod nm names vars types subs)).length = 8 := by simp
    generalize tmD (.mk k N mod nm names vars types subs) = T at ho hnx h8 ⊢
    have hT : List.take 8 T = T := List.take_of_length_le (by omega)
    refine acalls_vcC [0, 1, 3, 4, 5, 6, 7, 8, 12, 29] Tryz.func81 Tryz.ntmps81 (by kernel_rfl) rfl rfl (by simp) ?_
    simp -dsimp [h8, hT, I, set_ne, nn1, n1n]
    refine pcall hnx ?_
    simp -dsimp [h8, hT, I, set_ne, nn1, n1n]
    refine pcall ho ?_
    simp -dsimp [h8, hT, hX8, hX, I, set_ne, nn1, n1n]
    exact pcp (pub_tup2 rfl hXp hEp) fun j hj => by simp [set_ne, show j ≠ n by omega, show j ≠ n + 1 by omega]
  · rw [h1] at hnx
    rw [h2]
    have hneg : ¬ (i : Int) < 0 := by omega
    have hst := ih subs[i] (List.getElem_mem hi) (has _ (List.getElem_mem hi))
    obtain ⟨X, E, hr, hX8, hXp, hEp, hok, her⟩ := resTm_tup (stepT l subs[i])
    rw [hr] at hst
    have hX : List.take 8 X = X := List.take_of_length_le (by omega)
    have hSL : (subs.map tmD).length = subs.length := by simp
    have hSG : (subs.map tmD)[i]? = some (tmD subs[i]) := by simp [hi]
    have hset : (subs.set i (stepT l subs[i]).2).map tmD = (subs.map tmD).set i (tmD (stepT l subs[i]).2) := by rw [List.map_set]
    have hz : (tmD subs[i]).length = 8 := by simp
    have hps := pur_tmm subs
    have hpy : ∀ e ∈ types.map tyD, ∀ d ∈ e, Pur d := fun e he d hd => by
      obtain ⟨y, _, rfl⟩ := List.mem_map.1 he
      exact pur_ty y d hd
    have hpn : ∀ e ∈ names.map fun s => [S s], ∀ d ∈ e, Pur d := pur_ss
    have hpv : ∀ e ∈ vars.map fun s => [S s], ∀ d ∈ e, Pur d := pur_ss
    have hres : ∀ {n : Nat} {m : Mem} {d : D}, (stepT l subs[i]).1 = 0 → PubAs n m d (.agg [I k, I N, S mod, S nm, sl1 names, sl1 vars, .sl 7 (types.map tyD), .sl 8 ((subs.map tmD).set i (tmD (stepT l subs[i]).2))]) → PubAs n m (.tup [d, .v .nilIface]) (resTm ((stepT l subs[i]).1, .mk k N mod nm names vars types (subs.set i (stepT l subs[i]).2))) := fun {n m d} h hd => by
      refine pub_res_ok h ?_
      simp only [tmD, tmsD_eq]
      rw [hset]; exact hd
    have hrer : ∀ {n : Nat} {m : Mem}, (stepT l subs[i]).1 ≠ 0 → PubAs n m (.tup [.agg [.v (.int .i64 0), .v (.int .i64 0), .v (.string (ofL [])), .v (.string (ofL [])), .v (.slice none 0 0), .v (.slice none 0 0), .v (.slice none 0 0), .v (.slice none 0 0)], .iface 39 (.v (.int .i64 (stepT l subs[i]).1))]) (resTm ((stepT l subs[i]).1, .mk k N mod nm names vars types (subs.set i (stepT l subs[i]).2))) := fun {n m} h => pub_res_er (r := ((stepT l subs[i]).1, Tm.mk k N mod nm names vars types (subs.set i (stepT l subs[i]).2))) h
    simp only [tmD, tmsD_eq, sl1] at hnx hres ⊢
    generalize (names.map fun s => [S s]) = NL at hnx hpn hres ⊢
    generalize (vars.map fun s => [S s]) = VL at hnx hpv hres ⊢
    generalize types.map tyD = YL at hnx hpy hres ⊢
    generalize subs.map tmD = SL at hSL hSG hps hnx hres ⊢
    have hiS : i < SL.length := by omega
    have hgs : SL[i] = tmD subs[i] := get_opt hSG hiS
    generalize tmD subs[i] = A at hgs hz hst
    have hA : List.take 8 A = A := List.take_of_length_le (by omega)
    have hdA : List.drop 8 A = [] := List.drop_eq_nil_of_le (by omega)
    have hcl := fun M N => rCloneTmX (EL := SL) (by have := sm.ls; omega) M N
    refine acalls_vcC [0, 1, 3, 4, 5, 6, 7, 8, 12, 29] Tryz.func81 Tryz.ntmps81 (by kernel_rfl) rfl rfl (by simp) ?_
    simp -dsimp [I, S, hneg, set_ne, nn1, n1n]
    refine pcall hnx ?_
    simp -dsimp [I, S, hneg, hi, hiS, hgs, hz, hA, set_ne, nn1, n1n]
    refine pcall hst ?_
    by_cases h0 : (stepT l subs[i]).1 = 0
    · obtain ⟨hXX, rfl⟩ := hok h0
      simp -dsimp [I, S, hX8, hX, set_ne, nn1, n1n, nn2, n2n, n12, n21]
      refine aCall_of (hcl _ _) ?_
      rintro d m' n' ⟨q1, q2, q3⟩
      have p0 := q3 n (by omega)
      have p1 := q3 (n + 1) (by omega)
      have p2 := q3 (n + 1 + 1) (by omega)
      rcases q1 with ⟨rfl, rfl⟩ | ⟨kx, g, rfl, r1, r2, r3⟩
      · simp at hiS
      · simp -dsimp [set_ne, nn1, n1n, nn2, n2n, n12, n21] at p0 p1 p2
        have x0 : n ≠ kx := by omega
        have x1 : n + 1 ≠ kx := by omega
        have x2 : n + 1 + 1 ≠ kx := by omega
        simp -dsimp [I, S, p0, p1, p2, r1, hi, hiS, hgs, hz, hA, hdA, hX8, hX, set_ne, nn1, n1n, nn2, n2n, n12, n21, x0, x1, x2, x0.symm, x1.symm, x2.symm]
        refine pcp (hres h0 ?_) fun j hj => ?_
        · refine .agg (.cons (pur_I _).pub (.cons (pur_I _).pub (.cons (pur_S _).pub (.cons (pur_S _).pub (.cons (Pur.sl hpn).pub (.cons (Pur.sl hpv).pub (.cons (Pur.sl hpy).pub (.cons ?_ .nil))))))))
          subst hXX
          refine .lstP (Lst.mk (es' := SL.set i (tmD (stepT l subs[i]).2)) (g := g) ?_ (by simp) (by simp) (List.take_of_length_le (by simp))) (fun j hj => by simp at hj; omega) ?_
          · rw [set_ne _ _ _ _ (by omega), set_same]
          · intro e he d hd
            rcases List.mem_or_eq_of_mem_set he with he | he
            · exact hps e he d hd
            · rw [he] at hd; exact pur_tm _ d hd
        · rw [set_ne _ _ _ _ (by omega), set_ne _ _ _ _ (by omega), set_ne _ _ _ _ (by omega), q3 j (by omega)]
          simp [set_ne, show j ≠ n by omega, show j ≠ n + 1 by omega, show j ≠ n + 1 + 1 by omega]
    · obtain ⟨hXX, rfl⟩ := her h0
      simp -dsimp [I, S, hX8, hX, set_ne, nn1, n1n, nn2, n2n, n12, n21]
      exact pcp (hrer h0) fun j hj => by simp [set_ne, show j ≠ n by omega, show j ≠ n + 1 by omega, show j ≠ n + 1 + 1 by omega]
end Go.Proofs.Mv.App
open Go Go.Proofs Go.Proofs.Mv.V
set_option maxRecDepth 10000
namespace Go.Proofs.Mv.App
variable [GI]
end Go.Proofs.Mv.App
open Go Go.Proofs Go.Proofs.Mv.V
set_option maxRecDepth 10000
namespace Go.Proofs.Mv.App
variable [GI]
end Go.Proofs.Mv.App
open Go Go.Proofs Go.Proofs.Mv.V
set_option maxRecDepth 10000
namespace Go.Proofs.Mv.App
variable [GI]
end Go.Proofs.Mv.App
open Go Go.Proofs Go.Proofs.Mv.V
set_option maxRecDepth 10000
namespace Go.Proofs.Mv.App
theorem TyW.subs {t : Ty} (h : TyW t) : ∀ x ∈ t.subs, TyW x := by
  cases h with
  | mk kind pkg major mod name names subs l1 l2 l3 l4 l5 l6 l7 => exact l7
variable [GI]
end Go.Proofs.Mv.App
