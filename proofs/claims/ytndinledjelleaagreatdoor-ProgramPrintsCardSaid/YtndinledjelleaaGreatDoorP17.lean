/- A part of the proofs: machine, contracts, laws. No condition of its own. -/
import Derived.Test.YtndinledjelleaaGreatDoorP16
import Derived.Test.YtndinledjelleaaGreatDoorP08
import Derived.Test.YtndinledjelleaaGreatDoorP12
import Derived.Test.YtndinledjelleaaGreatDoorP11
import Derived.Test.YtndinledjelleaaGreatDoorP06
import Derived.Test.YtndinledjelleaaGreatDoorP13
import Derived.Test.YtndinledjelleaaGreatDoorP14
set_option linter.unusedSimpArgs false
set_option linter.unusedVariables false
set_option linter.unusedSectionVars false
open Go Go.Proofs Go.Proofs.Mv.V
set_option maxRecDepth 10000
namespace Go.Proofs.Mv.App
set_option maxHeartbeats 2000000 in
theorem cRAllTm {t : Tm} (ht : TmW t) : TmF t → Pc Tryz.prog 101 [.agg (tmD t)] (Tt (allTm t)) := by
 induction ht with
 | mk kind num mod name names vars types subs l1 l2 l3 l4 l5 l6 l7 l8 l9 l10 ih =>
  intro hf
  cases hf with
  | mk _ _ _ _ _ _ _ _ hty hfs =>
  refine pc_of (pur_T _) (fun m n => ?_)
  have fr : ∀ o j, j < n → (m.set n o) j = m j := fun o j hj => by rw [set_ne _ _ _ _ (by omega)]
  have hL4 : (subs.map tmD).length = subs.length := by simp
  have hG4 : ∀ i (h : i < subs.length), (subs.map tmD)[i]? = some (tmD subs[i]) := fun i h => by simp [h]
  have hown := cROwnT (.mk kind num mod name names vars types subs l1 l2 l3 l4 l5 l6 l7 l8 l9 l10) hty
  have hsplit : ∀ i, allTms (subs.take i) = false → allTms subs = false := fun i h => by
   cases e : allTms subs
   ·rfl
   ·rw [allTms_take e i] at h; cases h
  rw [ownR_eq] at hown
  simp only [tmD, sl1, tmsD_eq, allTm] at hown ⊢
  generalize shapeTm (.mk kind num mod name names vars types subs) = SH at hown ⊢
  generalize (names.map fun s => [S s]) = NL at hown
  generalize (vars.map fun s => [S s]) = VL at hown
  generalize types.map tyD = YL at hown
  generalize subs.map tmD = SL at hL4 hG4 hown
  refine acalls_vc [0, 1, 2, 3, 4, 14] Tryz.func101 Tryz.ntmps101 (by kernel_rfl) rfl rfl (by simp) ?_
  simp -dsimp [I]
  simp only [I] at hown
  refine pcall hown ?_
  simp -dsimp [I, Tt]
  refine vloop_as (β := Nat) (fun i => [(1, .ptr n 0 0 0), (3, Tt (SH && allTms (subs.take i))), (4, I i)]) (fun i m2 n2 => m2 = m.set n (tmO kind num mod name NL VL YL SL) ∧ n2 = n + 1 ∧ i ≤ subs.length) (fun i => subs.length - i) 0 (by simp [I, Tt, allTms]) ⟨rfl, rfl, by omega⟩ ?_
  rintro i m2 n2 ⟨rfl, rfl, le⟩
  cases hb : (SH && allTms (subs.take i)) with
  | false =>
   simp -dsimp [I, Tt, tmO, hL4]
   refine pcq ?_ (fr _)
   have : (SH && allTms subs) = false := by
    rcases Bool.and_eq_false_iff.1 hb with h | h
    ·simp [h]
    ·simp [hsplit i h]
   rw [this]
  | true =>
  by_cases hi : (i : Int) < subs.length
  ·have hi' : i < subs.length := by omega
   have wi : IntKind.i64.wrap ((i : Int) + 1) = (i : Int) + 1 := wrap_i64 (by omega) (by omega)
   have hiN : i < SL.length := by omega
   have hgi : SL[i] = tmD subs[i] := get_opt (hG4 i hi') hiN
   have hsn : allTms (subs.take (i + 1)) = (allTms (subs.take i) && allTm subs[i]) := by rw [take_snoc hi', allTms_append]; simp [allTms]
   simp -dsimp [I, Tt, tmO, hL4, hi, hi', hiN, hgi]
   refine pcall (ih subs[i] (List.getElem_mem hi') (hfs _ (List.getElem_mem hi'))) ?_
   simp -dsimp [I, wi]
   refine rnd (i + 1) (by omega) ?_ ⟨rfl, rfl, by omega⟩
   simp only [Bool.and_eq_true] at hb
   simp [hsn, hb, Tt, I]
  ·have e : subs.take i = subs := List.take_of_length_le (by omega)
   rw [e] at hb
   simp -dsimp [I, Tt, tmO, hL4, hi]
   exact pcq (by rw [hb]) (fr _)
theorem cRMayTm {t : Tm} (ht : TmW t) (hf : TmF t) (hb : allTm t = true → manyTm t ≤ 1000000) : Pc Tryz.prog 53 [.agg (tmD t)] (Tt (mayTm t)) := by
 refine pc_of (pur_T _) (fun m n => ?_)
 have fr : ∀ o j, j < n → (m.set n o) j = m j := fun o j hj => by rw [set_ne _ _ _ _ (by omega)]
 have hz : (tmD t).length = 8 := by simp
 have h1 := cRAllTm ht hf
 have h2 := fun h => cRManyTm ht (hb h)
 have h3 := fun h => cRDeepTm ht (hb h)
 unfold mayTm
 generalize tmD t = XX at h1 h2 h3 hz
 have htz : List.take 8 XX = XX := List.take_of_length_le (by omega)
 refine acalls_vc [0, 1, 2, 3] Tryz.func53 Tryz.ntmps53 (by kernel_rfl) rfl rfl (by simp) ?_
 simp -dsimp [hz, htz]
 refine pcall h1 ?_
 cases e1 : allTm t with
 | false =>
  simp -dsimp [I, Tt]
  exact pcq (by simp [Tt]) (fr _)
 | true =>
 simp -dsimp [I, Tt, hz, htz]
 refine pcall (h2 e1) ?_
 by_cases e2 : manyTm t ≤ 300
 ·have e2' : (manyTm t : Int) ≤ 300 := by omega
  simp -dsimp [I, Tt, hz, htz, e2, e2']
  refine pcall (h3 e1) ?_
  simp -dsimp [I, Tt]
  refine pcq ?_ (fr _)
  have : (decide ((deepTm t : Int) ≤ 32)) = decide (deepTm t ≤ 32) := by
   by_cases e : deepTm t ≤ 32
   ·simp [e]; omega
   ·simp [e]; omega
  simp [Tt, e2, this]
 ·have e2' : ¬ (manyTm t : Int) ≤ 300 := by omega
  simp -dsimp [I, Tt, e2, e2']
  exact pcq (by first | (simp [Tt]; done) | (simp [Tt]; omega)) (fr _)
end Go.Proofs.Mv.App
open Go Go.Proofs Go.Proofs.Mv.V
set_option maxRecDepth 10000
namespace Go.Proofs.Mv.App
set_option maxHeartbeats 2000000 in
theorem cRPFew {x : Pg} (hx : PgW x) : Pc Tryz.prog 18 [.agg (pgD x)] (Tt (fewP x)) := by
 obtain ⟨imps, lets⟩ := x
 obtain ⟨q1, q2, q3, q4⟩ := hx
 simp only at q1 q2 q3 q4
 refine pc_of (pur_T _) (fun m n => ?_)
 have fr : ∀ o j, j < n → (m.set n o) j = m j := fun o j hj => set_ne _ _ _ _ (by omega)
 have hL1 : (imps.map impD).length = imps.length := by simp
 have hL2 : (lets.map ltD).length = lets.length := by simp
 have hG2 : ∀ i (h : i < lets.length), (lets.map ltD)[i]? = some (ltD lets[i]) := fun i h => by simp [h]
 have hfm : fewP ⟨imps, lets⟩ = (decide (imps.length ≤ 100) && decide (lets.length ≤ 60) && lets.all fewLt) := rfl
 rw [hfm]
 simp only [pgD]
 generalize imps.map impD = IL at hL1
 generalize lets.map ltD = DL at hL2 hG2
 refine acalls_vc [0, 1, 2, 3, 4, 14, 19, 40] Tryz.func18 Tryz.ntmps18 (by kernel_rfl) rfl rfl (by simp) ?_
 by_cases h2 : (100 : Int) < imps.length
 ·have h2' : 100 < imps.length := by omega
  simp -dsimp [S, hL1, hL2, h2, h2']
  exact pcq (by simp [Tt, show ¬ imps.length ≤ 100 by omega]) (fr _)
 have h2' : ¬ 100 < imps.length := by omega
 by_cases h3 : (60 : Int) < lets.length
 ·have h3' : 60 < lets.length := by omega
  simp -dsimp [S, hL1, hL2, h2, h2', h3, h3']
  exact pcq (by simp [Tt, show ¬ lets.length ≤ 60 by omega]) (fr _)
 have h3' : ¬ 60 < lets.length := by omega
 have e : (decide (imps.length ≤ 100) && decide (lets.length ≤ 60) && lets.all fewLt) = lets.all fewLt := by
  simp [show imps.length ≤ 100 by omega, show lets.length ≤ 60 by omega]
 rw [e]
 simp -dsimp [S, hL1, hL2, h2, h2', h3, h3']
 refine vloop_as (β := Nat) (fun i => [(1, .ptr n 0 0 0), (3, I i)]) (fun i m2 n2 => m2 = m.set n ⟨2, [[.sl 4 IL, .sl 9 DL]], 0⟩ ∧ n2 = n + 1 ∧ i ≤ lets.length ∧ ∀ d ∈ lets.take i, fewLt d = true) (fun i => lets.length - i) 0 (by simp [I]) ⟨rfl, rfl, by omega, by simp⟩ ?_
 rintro i m2 n2 ⟨rfl, rfl, le, al⟩
 by_cases hi : (i : Int) < lets.length
 ·have hi' : i < lets.length := by omega
  have wi : IntKind.i64.wrap ((i : Int) + 1) = (i : Int) + 1 := wrap_i64 (by omega) (by omega)
  have hiN : i < DL.length := by omega
  have hgi : DL[i] = ltD lets[i] := get_opt (hG2 i hi') hiN
  have him : ltD lets[i] = S lets[i].name :: tmD lets[i].term := rfl
  have hmem := List.getElem_mem hi'
  have hc := cRFewT (q4 _ hmem).h2
  have h7 := tmD_len lets[i].term
  have hbad : fewLt lets[i] = false → lets.all fewLt = false := fun h => by
   rw [List.all_eq_false]; exact ⟨_, hmem, by simp [h]⟩
  have hfd : fewLt lets[i] = (fewTm3 lets[i].term && decide (lets[i].name.length ≤ 500)) := rfl
  generalize tmD lets[i].term = TT at h7 him hc
  have ht7 : List.take 8 TT = TT := List.take_of_length_le (by omega)
  simp -dsimp [I, S, hL2, hi, hi', hiN, hgi, him, h7, ht7]
  refine pcall hc ?_
  cases e1 : fewTm3 lets[i].term with
  | false =>
   simp -dsimp [I, S, Tt]
   exact pcq (by rw [hbad (by simp [hfd, e1])]) (fr _)
  | true =>
  by_cases e2 : (500 : Int) < lets[i].name.length
  ·have e2' : 500 < lets[i].name.length := by omega
   simp -dsimp [I, S, Tt, hL2, hi, hi', hiN, hgi, him, h7, ht7, e2, e2']
   exact pcq (by rw [hbad (by simp [hfd, e1]; try omega)]) (fr _)
  ·have e2' : ¬ 500 < lets[i].name.length := by omega
   simp -dsimp [I, S, Tt, hL2, hi, hi', hiN, hgi, him, h7, ht7, e2, e2', wi]
   refine rnd (i + 1) (by omega) (by simp [I]) ⟨by simp [S], rfl, by omega, ?_⟩
   intro x hx
   rw [List.take_succ_eq_append_getElem hi'] at hx
   rcases List.mem_append.1 hx with hx | hx
   ·exact al x hx
   ·simp at hx; rw [hx]; simp [hfd, e1]; try omega
 ·have : lets.take i = lets := List.take_of_length_le (by omega)
  rw [this] at al
  have hall : lets.all fewLt = true := List.all_eq_true.2 al
  simp -dsimp [I, S, hL2, hi]
  exact pcq (by rw [hall]; rfl) (fr _)
set_option maxHeartbeats 4000000 in
theorem cRPMay {x : Pg} (hx : PgW x) (hf : fewP x = true) : Pc Tryz.prog 20 [.agg (pgD x)] (Tt (mayP x)) := by
 have hfp := (fewP_parts hf).2.2
 obtain ⟨imps, lets⟩ := x
 obtain ⟨q1, q2, q3, q4⟩ := hx
 simp only at q1 q2 q3 q4 hfp
 refine pc_of (pur_T _) (fun m n => ?_)
 have fr : ∀ o j, j < n → (m.set n o) j = m j := fun o j hj => set_ne _ _ _ _ (by omega)
 have hL1 : (imps.map impD).length = imps.length := by simp
 have hG1 : ∀ i (h : i < imps.length), (imps.map impD)[i]? = some (impD imps[i]) := fun i h => by simp [h]
 have hL2 : (lets.map ltD).length = lets.length := by simp
 have hG2 : ∀ i (h : i < lets.length), (lets.map ltD)[i]? = some (ltD lets[i]) := fun i h => by simp [h]
 simp only [pgD, mayP]
 generalize imps.map impD = IL at hL1 hG1
 generalize lets.map ltD = DL at hL2 hG2
 refine acalls_vc [0, 1, 2, 3, 4, 5, 6, 7, 8, 9, 10, 20, 25, 61, 66, 88] Tryz.func20 Tryz.ntmps20 (by kernel_rfl) rfl rfl (by simp) ?_
 by_cases h2 : (20 : Int) < imps.length
 ·have h2' : 20 < imps.length := by omega
  simp -dsimp [I, S, Tt, hL1, hL2, h2, h2']
  exact pcq (by simp [Tt, show ¬ imps.length ≤ 20 by omega]) (fr _)
 have h2' : ¬ 20 < imps.length := by omega
 by_cases h3 : (40 : Int) < lets.length
 ·have h3' : 40 < lets.length := by omega
  simp -dsimp [I, S, Tt, hL1, hL2, h2, h2', h3, h3']
  exact pcq (by simp [Tt, show ¬ lets.length ≤ 40 by omega]) (fr _)
 have h3' : ¬ 40 < lets.length := by omega
 have e : (decide (imps.length ≤ 20) && decide (lets.length ≤ 40) && imps.all impOkU && lets.all ltOk) = (imps.all impOkU && lets.all ltOk) := by
  simp [show imps.length ≤ 20 by omega, show lets.length ≤ 40 by omega]
 rw [e]
 simp -dsimp [I, S, Tt, hL1, hL2, h2, h2', h3, h3']
 refine vloop_as (β := Nat) (fun i => [(1, .ptr n 0 0 0), (3, I i)]) (fun i m2 n2 => (∀ j, j < n + 1 → m2 j = (m.set n ⟨2, [[.sl 4 IL, .sl 9 DL]], 0⟩) j) ∧ n + 1 ≤ n2 ∧ i ≤ imps.length ∧ ∀ d ∈ imps.take i, impOkU d = true) (fun i => imps.length - i) 0 (by simp [I]) ⟨fun _ _ => rfl, by omega, by omega, by simp⟩ ?_
 rintro i m2 n2 ⟨hm2, nn, le, al⟩
 have e0 : m2 n = some ⟨2, [[.sl 4 IL, .sl 9 DL]], 0⟩ := by rw [hm2 n (by omega)]; simp
 have frn : ∀ o j, j < n → (m2.set n2 o) j = m j := fun o j hj => by rw [set_ne _ _ _ _ (by omega), hm2 j (by omega), set_ne _ _ _ _ (by omega)]
 have a1 : n2 ≠ n := by omega
 have a2 : n ≠ n2 := by omega
 by_cases hi : (i : Int) < imps.length
 ·have hi' : i < imps.length := by omega
  have wi : IntKind.i64.wrap ((i : Int) + 1) = (i : Int) + 1 := wrap_i64 (by omega) (by omega)
  have hiN : i < IL.length := by omega
  have hgi : IL[i] = impD imps[i] := get_opt (hG1 i hi') hiN
  have him : impD imps[i] = [S imps[i].pkg, I imps[i].major, S imps[i].mod, S imps[i].as_] := rfl
  have hmem := List.getElem_mem hi'
  have hbad : impOkU imps[i] = false → (imps.all impOkU && lets.all ltOk) = false := fun h => by
   rw [show imps.all impOkU = false from List.all_eq_false.2 ⟨_, hmem, by simp [h]⟩]; rfl
  have hok : impOkU imps[i] = (smallN imps[i].pkg && smallN imps[i].mod && smallN imps[i].as_ && decide (1 ≤ imps[i].major) && decide (imps[i].major ≤ 999999999)) := rfl
  simp -dsimp [I, S, Tt, e0, set_ne, a1, a2, hL1, hi, hi', hiN, hgi, him]
  refine pcall (cRSm imps[i].pkg) ?_
  simp -dsimp [I, S, Tt, set_ne, a1, a2]
  refine pcall (cRSm imps[i].mod) ?_
  simp -dsimp [I, S, Tt, set_ne, a1, a2]
  refine pcall (cRSm imps[i].as_) ?_
  cases e1 : smallN imps[i].pkg
  ·simp -dsimp [I, S, Tt]
   exact pcq (by rw [hbad (by simp [hok, e1])]) (frn _)
  cases e2 : smallN imps[i].mod
  ·simp -dsimp [I, S, Tt]
   exact pcq (by rw [hbad (by simp [hok, e1, e2])]) (frn _)
  cases e3 : smallN imps[i].as_
  ·simp -dsimp [I, S, Tt]
   exact pcq (by rw [hbad (by simp [hok, e1, e2, e3])]) (frn _)
  by_cases h4 : imps[i].major < 1
  ·simp -dsimp [I, S, Tt, h4]
   exact pcq (by rw [hbad (by simp [hok]; try omega)]) (frn _)
  by_cases h5 : 999999999 < imps[i].major
  ·simp -dsimp [I, S, Tt, h4, h5]
   exact pcq (by rw [hbad (by simp [hok]; try omega)]) (frn _)
  simp -dsimp [I, S, Tt, h4, h5, wi]
  refine rnd (i + 1) (by omega) (by simp [I]) ⟨fun j hj => by rw [set_ne _ _ _ _ (by omega)]; exact hm2 j hj, by omega, by omega, ?_⟩
  intro x hx
  rw [List.take_succ_eq_append_getElem hi'] at hx
  rcases List.mem_append.1 hx with hx | hx
  ·exact al x hx
  ·simp at hx; rw [hx]; simp [hok, e1, e2, e3]; try omega
 ·have : imps.take i = imps := List.take_of_length_le (by omega)
  rw [this] at al
  have hall : imps.all impOkU = true := List.all_eq_true.2 al
  rw [hall, Bool.true_and]
  simp -dsimp [I, S, Tt, e0, hL1, hi]
  refine vloop_as (β := Nat) (fun i => [(1, .ptr n 0 0 0), (8, I i)]) (fun i m2 n2 => (∀ j, j < n + 1 → m2 j = (m.set n ⟨2, [[.sl 4 IL, .sl 9 DL]], 0⟩) j) ∧ n + 1 ≤ n2 ∧ i ≤ lets.length ∧ ∀ d ∈ lets.take i, ltOk d = true) (fun i => lets.length - i) 0 (by simp [I]) ⟨hm2, by omega, by omega, by simp⟩ ?_
  clear al hm2 nn le hi this e0 frn a1 a2
  clear n2 m2 i
  rintro i m2 n2 ⟨hm2, nn, le, al⟩
  have e0 : m2 n = some ⟨2, [[.sl 4 IL, .sl 9 DL]], 0⟩ := by rw [hm2 n (by omega)]; simp
  have frm : ∀ j, j < n → m2 j = m j := fun j hj => by rw [hm2 j (by omega), set_ne _ _ _ _ (by omega)]
  have frn : ∀ o j, j < n → (m2.set n2 o) j = m j := fun o j hj => by rw [set_ne _ _ _ _ (by omega), hm2 j (by omega), set_ne _ _ _ _ (by omega)]
  have a1 : n2 ≠ n := by omega
  have a2 : n ≠ n2 := by omega
  by_cases hi : (i : Int) < lets.length
  ·have hi' : i < lets.length := by omega
   have wi : IntKind.i64.wrap ((i : Int) + 1) = (i : Int) + 1 := wrap_i64 (by omega) (by omega)
   have hiN : i < DL.length := by omega
   have hgi : DL[i] = ltD lets[i] := get_opt (hG2 i hi') hiN
   have him : ltD lets[i] = S lets[i].name :: tmD lets[i].term := rfl
   have hmem := List.getElem_mem hi'
   have hc := cRMayTm (q4 _ hmem).h2 (fewTm3_ok (hfp _ hmem)).1 fun _ => by have := (fewTm3_ok (hfp _ hmem)).2; omega
   have hnm := cRNameT lets[i].name
   have h7 := tmD_len lets[i].term
   have hbad : ltOk lets[i] = false → lets.all ltOk = false := fun h => by
    rw [List.all_eq_false]; exact ⟨_, hmem, by simp [h]⟩
   have hok : ltOk lets[i] = (nameN lets[i].name && mayTm lets[i].term) := rfl
   generalize tmD lets[i].term = TT at h7 him hc
   have ht7 : List.take 8 TT = TT := List.take_of_length_le (by omega)
   have nxt : ltOk lets[i] = true → ∀ x ∈ lets.take (i + 1), ltOk x = true := by
    intro h x hx
    rw [List.take_succ_eq_append_getElem hi'] at hx
    rcases List.mem_append.1 hx with hx | hx
    ·exact al x hx
    ·simp at hx; rw [hx]; exact h
   simp only [S] at hnm
   simp -dsimp [I, S, Tt, e0, set_ne, a1, a2, hL2, hi, hi', hiN, hgi, him, h7, ht7]
   refine pcall hnm ?_
   simp -dsimp [I, S, Tt, e0, set_ne, a1, a2, hL2, hi, hi', hiN, hgi, him, h7, ht7]
   refine pcall hc ?_
   cases e1 : nameN lets[i].name
   ·simp -dsimp [I, S, Tt]
    exact pcq (by rw [hbad (by simp [hok, e1])]) frm
   cases e2 : mayTm lets[i].term
   ·simp -dsimp [I, S, Tt]
    exact pcq (by rw [hbad (by simp [hok, e1, e2])]) frm
   simp -dsimp [I, S, Tt, wi]
   exact rnd (i + 1) (by omega) (by simp [I]) ⟨hm2, by omega, by omega, nxt (by simp [hok, e1, e2])⟩
  ·have : lets.take i = lets := List.take_of_length_le (by omega)
   rw [this] at al
   have hall : lets.all ltOk = true := List.all_eq_true.2 al
   simp -dsimp [I, S, Tt, e0, hL2, hi]
   exact pcq (by rw [hall]) fun j hj => by rw [hm2 j (by omega), set_ne _ _ _ _ (by omega)]
end Go.Proofs.Mv.App
open Go Go.Proofs Go.Proofs.Mv.V
set_option maxRecDepth 10000
namespace Go.Proofs.Mv.App
theorem byt_dig (k : Nat) : byt (48 + (k : Int)) = UInt8.ofNat (48 + k) := by
 unfold byt
 apply UInt8.toNat_inj.1
 simp only [UInt8.toNat_ofNat']
 omega
set_option maxHeartbeats 1000000 in
theorem cDigits0 (k : Nat) : k ≤ 9223372036854775807 → ∀ (m : Mem) (n : Nat), ACalls Tryz.prog 60 [I k] m n (fun d m' n' => d = S (Lib.decDigits k) ∧ m' = m ∧ n' = n) := by
 induction k using Nat.strongRecOn with
 | _ k ih =>
  intro hb m n
  refine acalls_done (R' := Hq (fun d m' n' => d = S (Lib.decDigits k) ∧ ∀ j, j < n → m' j = m j) tg) ?_ ?_
  ·have fr : ∀ o j, j < n → (m.set n o) j = m j := fun o j hj => by rw [set_ne _ _ _ _ (by omega)]
   have hdd := Lib.decDigits.eq_1 k
   by_cases c' : k < 10
   ·have c : (k : Int) < 10 := by omega
    rw [dif_pos c'] at hdd
    have w1 : IntKind.i64.wrap (48 + (k : Int)) = 48 + (k : Int) := wrap_i64 (by omega) (by omega)
    refine acalls_vc [0, 2, 4] Tryz.func60 Tryz.ntmps60 (by kernel_rfl) rfl rfl (by simp) ?_
    simp -dsimp [I, c, c', w1]
    exact hq ⟨by rw [hdd, byt_dig]; rfl, fr _⟩
   ·have c : ¬ (k : Int) < 10 := by omega
    rw [dif_neg c'] at hdd
    have ek : (k : Int) / 10 = ((k / 10 : Nat) : Int) := by omega
    have hi : ∀ (m : Mem) (n : Nat), ACalls Tryz.prog 60 [I ((k : Int) / 10)] m n (fun d m' n' => d = S (Lib.decDigits (k / 10)) ∧ m' = m ∧ n' = n) := fun m n => by
     rw [ek]; exact ih (k / 10) (by omega) (by omega) m n
    have w2 : IntKind.i64.wrap ((k : Int) / 10) = ((k / 10 : Nat) : Int) := by rw [wrap_i64 (by omega) (by omega)]; omega
    have w1 : IntKind.i64.wrap (48 + (k : Int).tmod 10) = 48 + ((k % 10 : Nat) : Int) := by
     have : (k : Int).tmod 10 = ((k % 10 : Nat) : Int) := rfl
     rw [this]; exact wrap_i64 (by omega) (by omega)
    have hdl : (Lib.decDigits (k / 10)).length ≤ 20 := by rw [← digits_lib (by omega)]; exact digits_len _
    refine acalls_vc [0, 2, 4] Tryz.func60 Tryz.ntmps60 (by kernel_rfl) rfl rfl (by simp) ?_
    simp -dsimp [I, c, c']
    refine vdraw_tree [0, 1, 3, 0, 8, 24, 56, 120, 248, 511, 1023] (.rd 0 (.rd 1 (.rd 3 (.rd 4 (.rd 5 (.rd 6 (.wr (.cons 2 (.wr (.cons 7 (.rd 8 (.rd 9 (.rd 10 (.fin)))) (.nil))) (.cons 7 (.rd 8 (.wr (.cons 2 (.rd 9 (.rd 10 (.fin))) (.nil)))) (.nil)))))))))) (by kernel_rfl) (by kernel_rfl) ?_
    simp -dsimp [I, c, c', w2, w1]
    have fin : ∀ {m2 : Mem} {n2 : Nat} {s : List UInt8}, s = Lib.decDigits (k / 10) ++ [byt (48 + ((k % 10 : Nat) : Int))] → (∀ j, j < n → m2 j = m j) → Hq (fun d m' n' => d = S (Lib.decDigits k) ∧ ∀ j, j < n → m' j = m j) tg (.v (.string (ofL s))) m2 n2 := fun e h => hq ⟨by rw [e, hdd, byt_dig]; rfl, h⟩
    refine ⟨?_, ?_⟩
    ·refine aCall_of (hi _ _) ?_
     rintro d m' n' ⟨rfl, rfl, rfl⟩
     simp -dsimp [I, S, c, c', w2, w1]
     exact ⟨by omega, fin (by simp) (fr _)⟩
    ·refine aCall_of (hi _ _) ?_
     rintro d m' n' ⟨rfl, rfl, rfl⟩
     simp -dsimp [I, S, c, c', w2, w1]
     exact ⟨by omega, fin (by simp) (fr _)⟩
  ·rintro d m' n' ⟨rfl, h⟩
   exact ⟨_, (pur_S _).pub, h, rfl⟩
structure RwInv (l : List Ty) (T : List (List UInt8)) (dn : D) (SL : List (List D)) (q : Nat) (m : Mem) (n : Nat) (i : Nat) (σ : Nat → D) (m2 : Mem) (n2 : Nat) : Prop where
 h0 : σ 0 = .sl 7 SL
 h1 : σ 1 = dn
 h2 : σ 2 = I q
 h7 : σ 7 = S (joinB comma (T.take i))
 h8 : σ 8 = I i
 le : i ≤ q
 mm : m2 = m
 nn : n2 = n
set_option maxHeartbeats 2000000 in
theorem cRow {l : List Ty} {ns : List (List UInt8)} {dn : D} {q : Nat} (hdn : dn = sl1 ns ∧ ns.length = l.length ∨ dn = .v (.slice none 0 0) ∧ ns = []) (H : ∀ t ∈ l, ∀ m n, ACalls Tryz.prog 107 [.agg (tyD t)] m n (fun d m' n' => d = S (textT t) ∧ m' = m ∧ n' = n))
  (hlen : l.length ≤ 1000) (hq : q ≤ l.length) (hb : ((textTs ns l).map fun s => s.length + comma.length).sum ≤ 1000000000) (m : Mem) (n : Nat) :
  ACalls Tryz.prog 158 [.sl 7 (tysD l), dn, I q] m n (fun d m' n' => d = S (joinB comma ((textTs ns l).take q)) ∧ m' = m ∧ n' = n) := by
 have hL2 : (tysD l).length = l.length := by rw [tysD_eq]; simp
 have hG2 : ∀ i (h : i < l.length), (tysD l)[i]? = some (tyD l[i]) := fun i h => by rw [tysD_eq]; simp [h]
 generalize tysD l = SL at hL2 hG2
 have hTl := textTs_len ns l
 have hTn : ns.length = l.length → ∀ i (h : i < l.length) (h' : i < ns.length), (textTs ns l)[i]? = some (ns[i] ++ [58, 32] ++ textT l[i]) := fun e i h h' => textTs_get ns l i h h'
 have hT0 : ns = [] → ∀ i (h : i < l.length), (textTs ns l)[i]? = some (textT l[i]) := fun e i h => by rw [e]; exact textTs_get0 l i h
 have hjs := joinB_sub comma (textTs ns l)
 generalize textTs ns l = T at hTl hTn hT0 hb hjs
 obtain ⟨BB, hBB⟩ : ∃ BB, BB = (T.map fun s => s.length + comma.length).sum := ⟨_, rfl⟩
 rw [← hBB] at hb
 simp only [← hBB] at hjs
 clear hBB
 refine acalls_vc [0, 1, 2, 6, 7, 8, 11, 15, 20] Tryz.func158 Tryz.ntmps158 (by kernel_rfl) rfl rfl (by simp) ?_
 simp -dsimp [I, S]
 refine vloop_of (β := Nat) (RwInv l T dn SL q m n) (fun i => q - i) 0 ⟨by simp, by simp, by simp [I], by simp [S, joinB], by simp [I], by omega, rfl, rfl⟩ ?_
 rintro i σ m2 n2 ⟨h0, h1, h2, h7, h8, le, rfl, rfl⟩
 by_cases hi : (i : Int) < q
 ·have hi' : i < q := by omega
  have hil : i < l.length := by omega
  have wi : IntKind.i64.wrap ((i : Int) + 1) = (i : Int) + 1 := wrap_i64 (by omega) (by omega)
  have w01 : IntKind.i64.wrap 1 = 1 := wrap_i64 (by omega) (by omega)
  have hiN : i < SL.length := by omega
  have hgi : SL[i] = tyD l[i] := get_opt (hG2 i hil) hiN
  have hH := H l[i] (List.getElem_mem hil)
  have h77 := tyD_len l[i]
  generalize tyD l[i] = TT at hgi hH h77
  have ht7 : List.take 7 TT = TT := List.take_of_length_le (by omega)
  have hTi : i < T.length := by omega
  have hj1 := hjs (i + 1)
  have hcl : comma.length = 2 := rfl
  have hj0 := hjs i
  have hsn : joinB comma (T.take (i + 1)) = if i = 0 then T[i] else joinB comma (T.take i) ++ comma ++ T[i] := by
   rw [take_snoc hTi, joinB_snoc]
   by_cases e : i = 0
   ·subst e; simp
   ·rw [if_neg e, if_neg]
    intro h
    have := congrArg List.length h
    rw [List.length_take] at this; simp only [List.length_nil] at this; omega
  rcases hdn with ⟨rfl, hn⟩ | ⟨rfl, rfl⟩
  ·have hpos : (0 : Int) < ns.length := by omega
   have hpos' : 0 < ns.length := by omega
   have hin : i < ns.length := by omega
   have hTe : T[i] = ns[i] ++ [58, 32] ++ textT l[i] := get_opt (hTn hn i hil hin) hTi
   by_cases i0 : i = 0
   ·subst i0
    rw [if_pos rfl] at hsn
    rw [hsn, hTe] at hj1
    simp only [List.length_append, List.length_cons, List.length_nil] at hj1
    simp only [List.take_zero, joinB] at h7
    simp -dsimp [h0, h1, h2, h7, h8, I, S, sl1, hi, hi', hpos, hpos', hin, hiN, hgi, h77, ht7]
    refine ⟨by omega, by omega, ?_⟩
    refine aCall_of (hH _ _) ?_
    rintro d m3 n3 ⟨rfl, rfl, rfl⟩
    simp -dsimp [h0, h1, h2, h7, h8, I, S, wi, w01]
    refine ⟨by omega, ?_⟩
    exact ⟨1, by omega, by simp [S], by simp [S, sl1], by simp [I], by rw [show (1 : Nat) = 0 + 1 from rfl, hsn, hTe]; simp [S], by simp [I], by omega, rfl, rfl⟩
   ·have i1 : (0 : Int) < i := by omega
    have i1' : 0 < i := by omega
    rw [if_neg i0] at hsn
    rw [hsn, hTe] at hj1
    simp only [List.length_append, List.length_cons, List.length_nil, hcl] at hj1
    simp -dsimp [h0, h1, h2, h7, h8, I, S, sl1, hi, hi', i1, i1', hpos, hpos', hin, hiN, hgi, h77, ht7]
    refine ⟨by omega, by omega, by omega, ?_⟩
    refine aCall_of (hH _ _) ?_
    rintro d m3 n3 ⟨rfl, rfl, rfl⟩
    simp -dsimp [h0, h1, h2, h7, h8, I, S, wi, w01]
    refine ⟨by omega, ?_⟩
    exact ⟨i + 1, by omega, by simp [S], by simp [S, sl1], by simp [I], by rw [hsn, hTe]; simp [S, comma], by simp [I], by omega, rfl, rfl⟩
  ·have hTe : T[i] = textT l[i] := get_opt (hT0 rfl i hil) hTi
   by_cases i0 : i = 0
   ·subst i0
    rw [if_pos rfl] at hsn
    rw [hsn, hTe] at hj1
    simp only [List.take_zero, joinB] at h7
    simp -dsimp [h0, h1, h2, h7, h8, I, S, hi, hi', hiN, hgi, h77, ht7]
    refine aCall_of (hH _ _) ?_
    rintro d m3 n3 ⟨rfl, rfl, rfl⟩
    simp -dsimp [h0, h1, h2, h7, h8, I, S, wi, w01]
    refine ⟨by omega, ?_⟩
    exact ⟨1, by omega, by simp [S], by simp [S, sl1], by simp [I], by rw [show (1 : Nat) = 0 + 1 from rfl, hsn, hTe]; simp [S], by simp [I], by omega, rfl, rfl⟩
   ·have i1 : (0 : Int) < i := by omega
    have i1' : 0 < i := by omega
    rw [if_neg i0] at hsn
    rw [hsn, hTe] at hj1
    simp only [List.length_append, List.length_cons, List.length_nil, hcl] at hj1
    simp -dsimp [h0, h1, h2, h7, h8, I, S, hi, hi', i1, i1', hiN, hgi, h77, ht7]
    refine ⟨by omega, ?_⟩
    refine aCall_of (hH _ _) ?_
    rintro d m3 n3 ⟨rfl, rfl, rfl⟩
    simp -dsimp [h0, h1, h2, h7, h8, I, S, wi, w01]
    refine ⟨by omega, ?_⟩
    exact ⟨i + 1, by omega, by simp [S], by simp [S, sl1], by simp [I], by rw [hsn, hTe]; simp [S, comma], by simp [I], by omega, rfl, rfl⟩
 ·have : i = q := by omega
  subst this
  simp -dsimp [h0, h1, h2, h7, h8, I, S, hi]
end Go.Proofs.Mv.App
open Go Go.Proofs Go.Proofs.Mv.V
set_option maxRecDepth 10000
namespace Go.Proofs.Mv.App
theorem cDigits {k : Nat} (h : k ≤ 9223372036854775807) (m : Mem) (n : Nat) : ACalls Tryz.prog 60 [I k] m n (fun d m' n' => d = S (digits k) ∧ m' = m ∧ n' = n) := by
 rw [digits_lib h]; exact cDigits0 k h m n
theorem cDigitsI {j : Int} (h0 : 0 ≤ j) (h1 : j ≤ 9223372036854775807) (m : Mem) (n : Nat) : ACalls Tryz.prog 60 [I j] m n (fun d m' n' => d = S (digits j.toNat) ∧ m' = m ∧ n' = n) := by
 have := cDigits (k := j.toNat) (by omega) m n
 rwa [show ((j.toNat : Nat) : Int) = j by omega] at this
set_option maxHeartbeats 4000000 in
theorem cPrintR {t : Ty} (ht : TyW t) : allT t = true → manyT t ≤ 100000 → ∀ (m : Mem) (n : Nat), ACalls Tryz.prog 107 [.agg (tyD t)] m n (fun d m' n' => d = S (textT t) ∧ m' = m ∧ n' = n) := by
 induction ht with
 | mk kind pkg major mod name names subs l1 l2 l3 l4 l5 l6 l7 ih =>
  intro ha hm m n
  refine acalls_done (R' := Hq (fun d m' n' => d = S (textT (.mk kind pkg major mod name names subs)) ∧ ∀ j, j < n → m' j = m j) tg) ?_ ?_
  ·have fr : ∀ o j, j < n → (m.set n o) j = m j := fun o j hj => by rw [set_ne _ _ _ _ (by omega)]
   have ha0 := ha
   simp only [allT, Bool.and_eq_true] at ha
   obtain ⟨hs, hall⟩ := ha
   obtain ⟨e1, e2, e3, e4, e5, e6⟩ := shape_sm hs
   obtain ⟨hn, hs⟩ := shape_parts hs
   simp only [manyT] at hm
   simp only [shapeK, Ty.kind, Ty.pkg, Ty.major, Ty.mod, Ty.name, Ty.names, Ty.subs] at hs hn e1 e2 e3 e4 e5 e6
   have hsub : ∀ t ∈ subs, ∀ (m : Mem) (n : Nat), ACalls Tryz.prog 107 [.agg (tyD t)] m n (fun d m' n' => d = S (textT t) ∧ m' = m ∧ n' = n) := fun t h => ih t h (allTs_mem hall t h) (by have := manyTs_le_mem h; omega)
   have hsm : ∀ t ∈ subs, (textT t).length ≤ 13000000 := fun t h => text_small (allTs_mem hall t h) (by have := manyTs_le_mem h; omega)
   have hLs : subs.length = names.length → ∀ m n, ACalls Tryz.prog 158 [.sl 7 (tysD subs), sl1 names, I subs.length] m n (fun d m' n' => d = S (joinB comma (textTs names subs)) ∧ m' = m ∧ n' = n) := fun e m n => by
    have := cRow (l := subs) (ns := names) (q := subs.length) (.inl ⟨rfl, e.symm⟩) hsub (by omega) (Nat.le_refl _) (texts_small hall e6 (by omega)) m n
    rw [List.take_of_length_le (by rw [textTs_len]; exact Nat.le_refl _)] at this
    exact this
   have hLb : (joinB comma (textTs names subs)).length ≤ 1000000000 := by
    have h1 := joinB_len comma (textTs names subs)
    have h2 := texts_small hall e6 (show manyTs subs ≤ 100000 by omega)
    omega
   have hL7 : 1 ≤ subs.length → ∀ m n, ACalls Tryz.prog 158 [.sl 7 (tysD subs), .v (.slice none 0 0), I ((subs.length - 1 : Nat) : Int)] m n (fun d m' n' => d = S (joinB comma (textTs [] subs).dropLast) ∧ m' = m ∧ n' = n) := fun e m n => by
    have := cRow (l := subs) (ns := []) (q := subs.length - 1) (.inr ⟨rfl, rfl⟩) hsub (by omega) (by omega) (texts_small hall (by simp) (by omega)) m n
    rw [List.dropLast_eq_take, textTs_len]
    exact this
   have hL2 : (tysD subs).length = subs.length := by rw [tysD_eq]; simp
   simp only [tyD, sl1, textT] at hLs ⊢
   by_cases k1 : kind = 1
   ·subst k1
    generalize (names.map fun s => [S s]) = NL
    generalize tysD subs = SL at hL2
    refine acalls_vc [0, 1, 2, 3, 8, 9, 11, 13, 15, 24, 34, 44, 61, 82] Tryz.func107 Tryz.ntmps107 (by kernel_rfl) rfl rfl (by simp) ?_
    simp -dsimp [I, S, hL2]
    exact hq ⟨by simp [S, wInt], fr _⟩
   by_cases k2 : kind = 2
   ·subst k2
    generalize (names.map fun s => [S s]) = NL
    generalize tysD subs = SL at hL2
    refine acalls_vc [0, 1, 2, 3, 8, 9, 11, 13, 15, 24, 34, 44, 61, 82] Tryz.func107 Tryz.ntmps107 (by kernel_rfl) rfl rfl (by simp) ?_
    simp -dsimp [I, S, hL2]
    exact hq ⟨by simp [S, wText], fr _⟩
   by_cases k3 : kind = 3
   ·subst k3
    generalize (names.map fun s => [S s]) = NL
    generalize tysD subs = SL at hL2
    refine acalls_vc [0, 1, 2, 3, 8, 9, 11, 13, 15, 24, 34, 44, 61, 82] Tryz.func107 Tryz.ntmps107 (by kernel_rfl) rfl rfl (by simp) ?_
    simp -dsimp [I, S, hL2]
    exact hq ⟨by simp [S, wBool], fr _⟩
   simp only [k1, k2, k3, or_self, if_false] at hs ⊢
   by_cases k4 : kind = 4
   ·subst k4
    simp only [if_true, Bool.and_eq_true, decide_eq_true_eq, List.length_eq_zero_iff] at hs
    obtain ⟨⟨_, h1⟩, rfl⟩ := hs
    obtain ⟨u, rfl⟩ := List.length_eq_one_iff.1 h1
    have hu := hsub u (by simp)
    have hul := hsm u (by simp)
    have h77 := tyD_len u
    simp only [tysD]
    generalize tyD u = TT at hu h77
    have ht7 : List.take 7 TT = TT := List.take_of_length_le (by omega)
    refine acalls_vc [0, 1, 2, 3, 8, 9, 11, 13, 15, 24, 34, 44, 61, 82] Tryz.func107 Tryz.ntmps107 (by kernel_rfl) rfl rfl (by simp) ?_
    simp -dsimp [I, S, h77, ht7]
    refine aCall_of (hu _ _) ?_
    rintro d m' n' ⟨rfl, rfl, rfl⟩
    simp -dsimp [S]
    refine ⟨by omega, by omega, ?_⟩
    exact hq ⟨by simp [S, wList, textTs, joinB], fr _⟩
   have k1' : (kind == 1) = false := by simpa using k1
   have k2' : (kind == 2) = false := by simpa using k2
   have k3' : (kind == 3) = false := by simpa using k3
   have k4' : (kind == 4) = false := by simpa using k4
   simp only [k4, if_false] at hs ⊢
   by_cases k5 : kind = 5
   ·subst k5
    simp only [if_true, Bool.and_eq_true, decide_eq_true_eq] at hs
    have hc := hLs hs.1.2
    generalize (names.map fun s => [S s]) = NL at hc
    generalize tysD subs = SL at hc hL2
    refine acalls_vc [0, 1, 2, 3, 8, 9, 11, 13, 15, 24, 34, 44, 61, 82] Tryz.func107 Tryz.ntmps107 (by kernel_rfl) rfl rfl (by simp) ?_
    simp -dsimp [I, S, hL2]
    simp -dsimp only [I] at hc
    refine aCall_of (hc _ _) ?_
    rintro d m' n' ⟨rfl, rfl, rfl⟩
    simp -dsimp [S]
    refine ⟨by omega, by omega, ?_⟩
    exact hq ⟨by simp [S], fr _⟩
   have k5' : (kind == 5) = false := by simpa using k5
   simp only [k5, if_false] at hs ⊢
   by_cases k6 : kind = 6
   ·subst k6
    simp only [if_true, Bool.and_eq_true, decide_eq_true_eq] at hs
    have hc := hLs hs.1.2
    generalize (names.map fun s => [S s]) = NL at hc
    generalize tysD subs = SL at hc hL2
    refine acalls_vc [0, 1, 2, 3, 8, 9, 11, 13, 15, 24, 34, 44, 61, 82] Tryz.func107 Tryz.ntmps107 (by kernel_rfl) rfl rfl (by simp) ?_
    simp -dsimp [I, S, hL2]
    simp -dsimp only [I] at hc
    refine aCall_of (hc _ _) ?_
    rintro d m' n' ⟨rfl, rfl, rfl⟩
    simp -dsimp [S]
    refine ⟨by omega, by omega, ?_⟩
    exact hq ⟨by simp [S], fr _⟩
   have k6' : (kind == 6) = false := by simpa using k6
   simp only [k6, if_false] at hs ⊢
   by_cases k7 : kind = 7
   ·subst k7
    simp only [if_true, Bool.and_eq_true, decide_eq_true_eq] at hs
    have h1 := hs.1.2
    have hne : subs ≠ [] := by intro e; subst e; simp at h1
    have hc := hL7 h1
    have hlast := last_texts hne
    have hu := hsub _ (List.getLast_mem hne)
    have hul := hsm _ (List.getLast_mem hne)
    have hjb : (joinB comma (textTs [] subs).dropLast).length ≤ 1000000000 := by
     have := text_small ha0 (by simp only [manyT]; omega)
     simp [textT] at this
     omega
    have hgl : (tysD subs)[subs.length - 1]? = some (tyD (subs.getLast hne)) := by
     rw [tysD_eq, List.getElem?_map, List.getElem?_eq_getElem (by omega), List.getLast_eq_getElem]; rfl
    rw [hlast]
    have h77 := tyD_len (subs.getLast hne)
    have w1 : IntKind.i64.wrap ((subs.length : Int) - 1) = ((subs.length - 1 : Nat) : Int) := by rw [wrap_i64 (by omega) (by omega)]; omega
    obtain ⟨q, hq0⟩ : ∃ q, subs.length = q + 1 := ⟨subs.length - 1, by omega⟩
    simp only [hq0, Nat.add_sub_cancel, I] at w1 hgl hc
    generalize tyD (subs.getLast hne) = TT at hu h77 hgl
    have ht7 : List.take 7 TT = TT := List.take_of_length_le (by omega)
    generalize (names.map fun s => [S s]) = NL
    generalize tysD subs = SL at hc hgl hL2
    rw [hq0] at hL2
    have hqN : q < SL.length := by omega
    have hgi : SL[q] = TT := get_opt hgl hqN
    have w2 : IntKind.i64.wrap (q : Int) = (q : Int) := wrap_i64 (by omega) (by omega)
    refine acalls_vc [0, 1, 2, 3, 8, 9, 11, 13, 15, 24, 34, 44, 61, 82] Tryz.func107 Tryz.ntmps107 (by kernel_rfl) rfl rfl (by simp) ?_
    simp -dsimp [I, S, hL2, w1, w2]
    refine vdraw_tree [0, 1, 0, 4, 15, 31, 63, 0, 128, 0, 512, 1920, 3968, 8095, 16383, 32767] (.rd 0 (.rd 1 (.rd 2 (.rd 3 (.rd 7 (.rd 8 (.rd 9 (.rd 10 (.rd 11 (.rd 12 (.wr (.cons 4 (.rd 5 (.rd 6 (.wr (.cons 13 (.rd 14 (.rd 15 (.fin))) (.nil))))) (.nil))))))))))))) (by kernel_rfl) (by kernel_rfl) ?_
    simp -dsimp [I, S, hL2, w1, w2, hqN, hgi, h77, ht7]
    refine ⟨by omega, ?_⟩
    refine aCall_of (hc _ _) ?_
    rintro d m' n' ⟨rfl, rfl, rfl⟩
    simp -dsimp [I, S, hL2, w1, w2, hqN, hgi, h77, ht7]
    refine ⟨by omega, by omega, ?_⟩
    refine aCall_of (hu _ _) ?_
    rintro d m' n' ⟨rfl, rfl, rfl⟩
    simp -dsimp [I, S, hL2, w1, w2, hqN, hgi, h77, ht7]
    refine ⟨by omega, hq ⟨by simp [S], fr _⟩⟩
   have k7' : (kind == 7) = false := by simpa using k7
   simp only [k7, if_false] at hs ⊢
   by_cases k9 : kind = 9
   ·subst k9
    simp only [if_true, show ¬ (9 : Int) = 8 by omega, if_false, Bool.and_eq_true, decide_eq_true_eq] at hs
    generalize (names.map fun s => [S s]) = NL
    generalize tysD subs = SL at hL2
    have hj := hs.1.2
    have hdl := digits_len major.toNat
    refine acalls_vc [0, 1, 2, 3, 8, 9, 11, 13, 15, 24, 34, 44, 61, 82] Tryz.func107 Tryz.ntmps107 (by kernel_rfl) rfl rfl (by simp) ?_
    simp -dsimp [I, S]
    refine vdraw_tree [0, 1, 3, 7, 0, 16, 48, 127, 255, 0, 512, 2047, 4095, 0, 8192, 32767, 65535, 131071] (.rd 0 (.rd 1 (.rd 2 (.rd 3 (.rd 4 (.rd 5 (.rd 9 (.rd 10 (.rd 13 (.rd 14 (.wr (.cons 6 (.rd 7 (.rd 8 (.rd 11 (.rd 12 (.rd 15 (.rd 16 (.rd 17 (.fin)))))))) (.nil))))))))))))) (by kernel_rfl) (by kernel_rfl) ?_
    simp -dsimp [I, S]
    refine ⟨by omega, by omega, ?_⟩
    refine aCall_of (cDigitsI (j := major) (by omega) (by omega) _ _) ?_
    rintro d m' n' ⟨rfl, rfl, rfl⟩
    simp -dsimp [I, S]
    refine ⟨by omega, by omega, by omega, by omega, by omega, by omega, hq ⟨by simp [S], fr _⟩⟩
   have k9' : (kind == 9) = false := by simpa using k9
   simp only [k9, if_false] at hs ⊢
   generalize (names.map fun s => [S s]) = NL
   generalize tysD subs = SL at hL2
   by_cases em : mod = []
   ·subst em
    refine acalls_vc [0, 1, 2, 3, 8, 9, 11, 13, 15, 24, 34, 44, 61, 82] Tryz.func107 Tryz.ntmps107 (by kernel_rfl) rfl rfl (by simp) ?_
    simp -dsimp [I, S, k1', k2', k3', k4', k5', k6', k7', k9']
    exact hq ⟨by simp [S, k1, k2, k3, k4, k5, k6, k7, k9], fr _⟩
   ·have em' : (mod == []) = false := by simpa using em
    refine acalls_vc [0, 1, 2, 3, 8, 9, 11, 13, 15, 24, 34, 44, 61, 82] Tryz.func107 Tryz.ntmps107 (by kernel_rfl) rfl rfl (by simp) ?_
    simp -dsimp [I, S, k1', k2', k3', k4', k5', k6', k7', k9', em']
    refine ⟨by omega, by omega, ?_⟩
    exact hq ⟨by simp [S, em, k1, k2, k3, k4, k5, k6, k7, k9], fr _⟩
  ·rintro d m' n' ⟨rfl, h⟩
   exact ⟨_, (pur_S _).pub, h, rfl⟩
end Go.Proofs.Mv.App
open Go Go.Proofs Go.Proofs.Mv.V
set_option maxRecDepth 10000
namespace Go.Proofs.Mv.App
set_option maxHeartbeats 2000000 in
theorem cRHeadTm {t : Tm} (h : Pc Tryz.prog 61 [.agg (tmD t)] (S (textTm t))) (hl : (textTm t).length ≤ 1000000000) : Pc Tryz.prog 106 [.agg (tmD t)] (S (parK (kindTmK t) (textTm t))) := by
 refine pc_of (pur_S _) (fun m n => ?_)
 have fr : ∀ o j, j < n → (m.set n o) j = m j := fun o j hj => by rw [set_ne _ _ _ _ (by omega)]
 obtain ⟨k, N, mod, nm, names, vars, types, subs⟩ := t
 generalize textTm (.mk k N mod nm names vars types subs) = X at h hl
 simp only [kindTmK, tmD, sl1, tmsD_eq] at h ⊢
 generalize (names.map fun s => [S s]) = NL at h
 generalize (vars.map fun s => [S s]) = VL at h
 generalize types.map tyD = YL at h
 generalize subs.map tmD = SL at h
 simp only [I, S] at h
 refine acalls_vc [0, 1, 2, 15] Tryz.func106 Tryz.ntmps106 (by kernel_rfl) rfl rfl (by simp) ?_
 by_cases k8 : k = 8
 ·subst k8
  simp -dsimp [I, S, Tt]
  refine pcall h ?_
  simp -dsimp [S]
  exact ⟨by omega, by omega, pcq (by simp [parK, S]) (fr _)⟩
 have b8 : (k == 8) = false := by simpa using k8
 by_cases k11 : k = 11
 ·subst k11
  simp -dsimp [I, S, Tt]
  refine pcall h ?_
  simp -dsimp [S]
  exact ⟨by omega, by omega, pcq (by simp [parK, S]) (fr _)⟩
 have b11 : (k == 11) = false := by simpa using k11
 by_cases k12 : k = 12
 ·subst k12
  simp -dsimp [I, S, Tt]
  refine pcall h ?_
  simp -dsimp [S]
  exact ⟨by omega, by omega, pcq (by simp [parK, S]) (fr _)⟩
 have b12 : (k == 12) = false := by simpa using k12
 simp -dsimp [I, S, Tt, b8, b11, b12]
 refine pcall h ?_
 simp -dsimp [S]
 exact pcq (by simp [parK, S, k8, k11, k12]) (fr _)
theorem smL_drop0 (T : List (List UInt8)) (q : Nat) : ((T.drop q).map fun s => s.length + comma.length).sum ≤ smL 100 T := by
 have h0 : ((T.drop q).map fun s => s.length + comma.length).sum = smL 2 (T.drop q) := rfl
 have h1 := smL_drop 2 T q
 have h2 := smL_mono (show 2 ≤ 100 by omega) T
 omega
set_option maxHeartbeats 2000000 in
theorem cRRowTm {l : List Tm} (H : ∀ t ∈ l, Pc Tryz.prog 61 [.agg (tmD t)] (S (textTm t))) {q : Nat} (hq : q ≤ l.length) (hlen : l.length ≤ 1000) (hb : smL 100 (textTms l) ≤ 1000000000) :
  Pc Tryz.prog 108 [.sl 8 (l.map tmD), I q] (S (joinB comma ((textTms l).drop q))) := by
 refine pc_of (pur_S _) (fun m n => ?_)
 have hL2 : (l.map tmD).length = l.length := by simp
 have hG2 : ∀ i (h : i < l.length), (l.map tmD)[i]? = some (tmD l[i]) := fun i h => by simp [h]
 generalize l.map tmD = SL at hL2 hG2
 have hTl := textTms_len l
 have hTi : ∀ j (h : q + j < l.length) (h' : j < ((textTms l).drop q).length), ((textTms l).drop q)[j] = textTm l[q + j] := fun j h h' => by
  rw [List.getElem_drop]; exact textTms_get l h _
 have hjs := fun j => Nat.le_trans (joinB_sub comma ((textTms l).drop q) j) (smL_drop0 (textTms l) q)
 have hTl' : ((textTms l).drop q).length = l.length - q := by simp [hTl]
 have hsm : ∀ s ∈ (textTms l).drop q, s.length ≤ 1000000000 := fun s hs => Nat.le_trans (smL_mem (List.mem_of_mem_drop hs)) hb
 generalize (textTms l).drop q = T at hTi hjs hTl' hsm
 generalize smL 100 (textTms l) = BB at hb hjs
 refine acalls_vc [0, 1, 4, 5, 6, 11, 16] Tryz.func108 Tryz.ntmps108 (by kernel_rfl) rfl rfl (by simp) ?_
 simp -dsimp [I, S]
 refine vloop_as (β := Nat) (fun p => [(0, .sl 8 SL), (1, I q), (5, S (joinB comma (T.take (p - q)))), (6, I p)]) (fun p m2 n2 => m2 = m ∧ n2 = n ∧ q ≤ p ∧ p ≤ l.length) (fun p => l.length - p) q (by simp [I, S, joinB]) ⟨rfl, rfl, by omega, by omega⟩ ?_
 rintro p m2 n2 ⟨rfl, rfl, ge, le⟩
 by_cases hi : (p : Int) < l.length
 ·have hi' : p < l.length := by omega
  have wi : IntKind.i64.wrap ((p : Int) + 1) = (p : Int) + 1 := wrap_i64 (by omega) (by omega)
  have hiN : p < SL.length := by omega
  have hgi : SL[p] = tmD l[p] := get_opt (hG2 _ hi') hiN
  have hH := H l[p] (List.getElem_mem hi')
  obtain ⟨j, hj⟩ : ∃ j, p - q = j := ⟨_, rfl⟩
  have hTj : j < T.length := by omega
  have hTe := hTi j (by omega) hTj
  have epj : q + j = p := by omega
  simp only [epj] at hTe
  have h77 := tmD_len l[p]
  generalize tmD l[p] = TT at hgi hH h77
  have ht7 : List.take 8 TT = TT := List.take_of_length_le (by omega)
  have hj1 := hjs (j + 1)
  have hj0 := hjs j
  have hxl := hsm _ (List.getElem_mem hTj)
  have hsn : joinB comma (T.take (j + 1)) = if j = 0 then T[j] else joinB comma (T.take j) ++ comma ++ T[j] := by
   rw [take_snoc hTj, joinB_snoc]
   by_cases e : j = 0
   ·subst e; simp
   ·rw [if_neg e, if_neg]
    intro h
    have := congrArg List.length h
    rw [List.length_take] at this; simp only [List.length_nil] at this; omega
  rw [hTe] at hsn hxl
  have hcl : comma.length = 2 := rfl
  have ep1 : p + 1 - q = j + 1 := by omega
  simp only [hj]
  generalize textTm l[p] = X at hH hsn hxl
  by_cases j0 : j = 0
  ·subst j0
   have c1 : ¬ ((q : Nat) : Int) < (p : Int) := by omega
   have c1' : ¬ q < p := by omega
   simp only [List.take_zero, joinB]
   rw [if_pos rfl] at hsn
   simp -dsimp [I, S, hL2, hi, hi', hiN, hgi, h77, ht7, wi, c1, c1']
   refine pcall hH ?_
   simp -dsimp [I, S, wi]
   exact ⟨by omega, rnd (p + 1) (by omega) (by simp [I, S, hsn, ep1]) ⟨rfl, rfl, by omega, by omega⟩⟩
  ·have c1 : ((q : Nat) : Int) < (p : Int) := by omega
   have c1' : q < p := by omega
   rw [if_neg j0] at hsn
   rw [hsn] at hj1
   generalize joinB comma (T.take j) = OO at hsn hj0 hj1
   simp only [List.length_append, hcl] at hj1
   simp -dsimp [I, S, hL2, hi, hi', hiN, hgi, h77, ht7, wi, c1, c1']
   refine ⟨by omega, ?_⟩
   refine pcall hH ?_
   simp -dsimp [I, S, wi]
   exact ⟨by omega, rnd (p + 1) (by omega) (by simp [I, S, ep1]; rw [hsn]; simp [comma]) ⟨rfl, rfl, by omega, by omega⟩⟩
 ·have e : T.take (p - q) = T := List.take_of_length_le (by omega)
  rw [e]
  simp -dsimp [I, S, hL2, hi]
  exact pcq' rfl
end Go.Proofs.Mv.App
