/- A part of the proofs of the seat YtgekkmmmidgkbaaGreatDoor: the abstract machine, the contracts of the functions, the laws. No condition of its own. -/
import Derived.Test.YtgekkmmmidgkbaaGreatDoorP11
import Derived.Test.YtgekkmmmidgkbaaGreatDoorP15
import Derived.Test.YtgekkmmmidgkbaaGreatDoorP14
import Derived.Test.YtgekkmmmidgkbaaGreatDoorP09
set_option linter.unusedSimpArgs false
set_option linter.unusedVariables false
set_option linter.unusedSectionVars false
open Go Go.Proofs Go.Proofs.Mv.V
set_option maxRecDepth 10000
namespace Go.Proofs.Mv.App
theorem cRSm (s : List UInt8) : Pc Tryz.prog 29 [S s] (Tt (smallN s)) := fun m n => cRefSmall s m n
theorem cRGr (s : List UInt8) : Pc Tryz.prog 30 [S s] (Tt (greatN s)) := fun m n => cRefGreat s m n
set_option maxHeartbeats 2000000 in
theorem cRUFew {x : Us} (hx : UsW x) : Pc Tryz.prog 6 [.agg (usD x)] (Tt (fewU x)) := by
  obtain ⟨imps, lines⟩ := x
  obtain ⟨q1, q2, q3, q4⟩ := hx
  simp only at q1 q2 q3 q4
  refine pc_of (pur_T _) (fun m n => ?_)
  have fr : ∀ o j, j < n → (m.set n o) j = m j := fun o j hj => set_ne _ _ _ _ (by omega)
  have hL1 : (imps.map impD).length = imps.length := by simp
  have hL2 : (lines.map lnD).length = lines.length := by simp
  have hG2 : ∀ i (h : i < lines.length), (lines.map lnD)[i]? = some (lnD lines[i]) := fun i h => by simp [h]
  have hfm : fewU ⟨imps, lines⟩ = (decide (imps.length ≤ 100) && decide (lines.length ≤ 100) && lines.all fewLn) := rfl
  rw [hfm]
  simp only [usD]
  generalize imps.map impD = IL at hL1
  generalize lines.map lnD = DL at hL2 hG2
  refine acalls_vc [0, 1, 2, 3, 4, 14, 19, 40] Tryz.func6 Tryz.ntmps6 (by kernel_rfl) rfl rfl (by simp) ?_
  by_cases h2 : (100 : Int) < imps.length
  · have h2' : 100 < imps.length := by omega
    simp -dsimp [S, hL1, hL2, h2, h2']
    exact pcq (by simp [Tt, show ¬ imps.length ≤ 100 by omega]) (fr _)
  have h2' : ¬ 100 < imps.length := by omega
  by_cases h3 : (100 : Int) < lines.length
  · have h3' : 100 < lines.length := by omega
    simp -dsimp [S, hL1, hL2, h2, h2', h3, h3']
    exact pcq (by simp [Tt, show ¬ lines.length ≤ 100 by omega]) (fr _)
  have h3' : ¬ 100 < lines.length := by omega
  have e : (decide (imps.length ≤ 100) && decide (lines.length ≤ 100) && lines.all fewLn) = lines.all fewLn := by
    simp [show imps.length ≤ 100 by omega, show lines.length ≤ 100 by omega]
  rw [e]
  simp -dsimp [S, hL1, hL2, h2, h2', h3, h3']
  refine vloop_as (β := Nat) (fun i => [(1, .ptr n 0 0 0), (3, I i)]) (fun i m2 n2 => m2 = m.set n ⟨2, [[.sl 4 IL, .sl 10 DL]], 0⟩ ∧ n2 = n + 1 ∧ i ≤ lines.length ∧ ∀ d ∈ lines.take i, fewLn d = true) (fun i => lines.length - i) 0 (by simp [I]) ⟨rfl, rfl, by omega, by simp⟩ ?_
  rintro i m2 n2 ⟨rfl, rfl, le, al⟩
  by_cases hi : (i : Int) < lines.length
  · have hi' : i < lines.length := by omega
    have wi : IntKind.i64.wrap ((i : Int) + 1) = (i : Int) + 1 := wrap_i64 (by omega) (by omega)
    have hiN : i < DL.length := by omega
    have hgi : DL[i] = lnD lines[i] := get_opt (hG2 i hi') hiN
    have him : lnD lines[i] = I lines[i].kind :: S lines[i].mod :: S lines[i].name :: tyD lines[i].typ := rfl
    have hmem := List.getElem_mem hi'
    have hc := fun m n => cFewT (q4 _ hmem).h3 m n
    have h7 := tyD_len lines[i].typ
    have hbad : fewLn lines[i] = false → lines.all fewLn = false := fun h => by
      rw [List.all_eq_false]; exact ⟨_, hmem, by simp [h]⟩
    have hfd : fewLn lines[i] = (few3 lines[i].typ && decide (lines[i].name.length ≤ 500)) := rfl
    generalize tyD lines[i].typ = TT at h7 him hc
    have ht7 : List.take 7 TT = TT := List.take_of_length_le (by omega)
    simp -dsimp [I, S, hL2, hi, hi', hiN, hgi, him, h7, ht7]
    refine pcall hc ?_
    cases e1 : few3 lines[i].typ with
    | false =>
      simp -dsimp [I, S, Tt]
      exact pcq (by rw [hbad (by simp [hfd, e1])]) (fr _)
    | true =>
    by_cases e2 : (500 : Int) < lines[i].name.length
    · have e2' : 500 < lines[i].name.length := by omega
      simp -dsimp [I, S, Tt, hL2, hi, hi', hiN, hgi, him, h7, ht7, e2, e2']
      exact pcq (by rw [hbad (by simp [hfd, e1]; try omega)]) (fr _)
    · have e2' : ¬ 500 < lines[i].name.length := by omega
      simp -dsimp [I, S, Tt, hL2, hi, hi', hiN, hgi, him, h7, ht7, e2, e2', wi]
      refine rnd (i + 1) (by omega) (by simp [I]) ⟨by simp [S], rfl, by omega, ?_⟩
      intro x hx
      rw [List.take_succ_eq_append_getElem hi'] at hx
      rcases List.mem_append.1 hx with hx | hx
      · exact al x hx
      · simp at hx; rw [hx]; simp [hfd, e1]; try omega
  · have : lines.take i = lines := List.take_of_length_le (by omega)
    rw [this] at al
    have hall : lines.all fewLn = true := List.all_eq_true.2 al
    simp -dsimp [I, S, hL2, hi]
    exact pcq (by rw [hall]; rfl) (fr _)
set_option maxHeartbeats 4000000 in
theorem cRUMay {x : Us} (hx : UsW x) (hf : fewU x = true) : Pc Tryz.prog 14 [.agg (usD x)] (Tt (mayU x)) := by
  have hfp := (fewU_parts hf).2.2
  obtain ⟨imps, lines⟩ := x
  obtain ⟨q1, q2, q3, q4⟩ := hx
  simp only at q1 q2 q3 q4 hfp
  refine pc_of (pur_T _) (fun m n => ?_)
  have fr : ∀ o j, j < n → (m.set n o) j = m j := fun o j hj => set_ne _ _ _ _ (by omega)
  have hL1 : (imps.map impD).length = imps.length := by simp
  have hG1 : ∀ i (h : i < imps.length), (imps.map impD)[i]? = some (impD imps[i]) := fun i h => by simp [h]
  have hL2 : (lines.map lnD).length = lines.length := by simp
  have hG2 : ∀ i (h : i < lines.length), (lines.map lnD)[i]? = some (lnD lines[i]) := fun i h => by simp [h]
  simp only [usD, mayU]
  generalize imps.map impD = IL at hL1 hG1
  generalize lines.map lnD = DL at hL2 hG2
  refine acalls_vc [0, 1, 2, 3, 4, 5, 6, 7, 8, 9, 10, 11, 12, 13, 23, 28, 64, 69, 111] Tryz.func14 Tryz.ntmps14 (by kernel_rfl) rfl rfl (by simp) ?_
  by_cases h2 : (20 : Int) < imps.length
  · have h2' : 20 < imps.length := by omega
    simp -dsimp [I, S, Tt, hL1, hL2, h2, h2']
    exact pcq (by simp [Tt, show ¬ imps.length ≤ 20 by omega]) (fr _)
  have h2' : ¬ 20 < imps.length := by omega
  by_cases h3 : (60 : Int) < lines.length
  · have h3' : 60 < lines.length := by omega
    simp -dsimp [I, S, Tt, hL1, hL2, h2, h2', h3, h3']
    exact pcq (by simp [Tt, show ¬ lines.length ≤ 60 by omega]) (fr _)
  have h3' : ¬ 60 < lines.length := by omega
  have e : (decide (imps.length ≤ 20) && decide (lines.length ≤ 60) && imps.all impOkU && lines.all lnOk) = (imps.all impOkU && lines.all lnOk) := by
    simp [show imps.length ≤ 20 by omega, show lines.length ≤ 60 by omega]
  rw [e]
  simp -dsimp [I, S, Tt, hL1, hL2, h2, h2', h3, h3']
  refine vloop_as (β := Nat) (fun i => [(1, .ptr n 0 0 0), (3, I i)]) (fun i m2 n2 => (∀ j, j < n + 1 → m2 j = (m.set n ⟨2, [[.sl 4 IL, .sl 10 DL]], 0⟩) j) ∧ n + 1 ≤ n2 ∧ i ≤ imps.length ∧ ∀ d ∈ imps.take i, impOkU d = true) (fun i => imps.length - i) 0 (by simp [I]) ⟨fun _ _ => rfl, by omega, by omega, by simp⟩ ?_
  rintro i m2 n2 ⟨hm2, nn, le, al⟩
  have e0 : m2 n = some ⟨2, [[.sl 4 IL, .sl 10 DL]], 0⟩ := by rw [hm2 n (by omega)]; simp
  have frn : ∀ o j, j < n → (m2.set n2 o) j = m j := fun o j hj => by rw [set_ne _ _ _ _ (by omega), hm2 j (by omega), set_ne _ _ _ _ (by omega)]
  have a1 : n2 ≠ n := by omega
  have a2 : n ≠ n2 := by omega
  by_cases hi : (i : Int) < imps.length
  · have hi' : i < imps.length := by omega
    have wi : IntKind.i64.wrap ((i : Int) + 1) = (i : Int) + 1 := wrap_i64 (by omega) (by omega)
    have hiN : i < IL.length := by omega
    have hgi : IL[i] = impD imps[i] := get_opt (hG1 i hi') hiN
    have him : impD imps[i] = [S imps[i].pkg, I imps[i].major, S imps[i].mod, S imps[i].as_] := rfl
    have hmem := List.getElem_mem hi'
    have hbad : impOkU imps[i] = false → (imps.all impOkU && lines.all lnOk) = false := fun h => by
      rw [show imps.all impOkU = false from List.all_eq_false.2 ⟨_, hmem, by simp [h]⟩]; rfl
    have hok : impOkU imps[i] = (smallN imps[i].pkg && smallN imps[i].mod && smallN imps[i].as_ && decide (1 ≤ imps[i].major) && decide (imps[i].major ≤ 999999999)) := rfl
    simp -dsimp [I, S, Tt, e0, set_ne, a1, a2, hL1, hi, hi', hiN, hgi, him]
    refine pcall (cRSm imps[i].pkg) ?_
    simp -dsimp [I, S, Tt, set_ne, a1, a2]
    refine pcall (cRSm imps[i].mod) ?_
    simp -dsimp [I, S, Tt, set_ne, a1, a2]
    refine pcall (cRSm imps[i].as_) ?_
    cases e1 : smallN imps[i].pkg
    · simp -dsimp [I, S, Tt]
      exact pcq (by rw [hbad (by simp [hok, e1])]) (frn _)
    cases e2 : smallN imps[i].mod
    · simp -dsimp [I, S, Tt]
      exact pcq (by rw [hbad (by simp [hok, e1, e2])]) (frn _)
    cases e3 : smallN imps[i].as_
    · simp -dsimp [I, S, Tt]
      exact pcq (by rw [hbad (by simp [hok, e1, e2, e3])]) (frn _)
    by_cases h4 : imps[i].major < 1
    · simp -dsimp [I, S, Tt, h4]
      exact pcq (by rw [hbad (by simp [hok]; try omega)]) (frn _)
    by_cases h5 : 999999999 < imps[i].major
    · simp -dsimp [I, S, Tt, h4, h5]
      exact pcq (by rw [hbad (by simp [hok]; try omega)]) (frn _)
    simp -dsimp [I, S, Tt, h4, h5, wi]
    refine rnd (i + 1) (by omega) (by simp [I]) ⟨fun j hj => by rw [set_ne _ _ _ _ (by omega)]; exact hm2 j hj, by omega, by omega, ?_⟩
    intro x hx
    rw [List.take_succ_eq_append_getElem hi'] at hx
    rcases List.mem_append.1 hx with hx | hx
    · exact al x hx
    · simp at hx; rw [hx]; simp [hok, e1, e2, e3]; try omega
  · have : imps.take i = imps := List.take_of_length_le (by omega)
    rw [this] at al
    have hall : imps.all impOkU = true := List.all_eq_true.2 al
    rw [hall, Bool.true_and]
    simp -dsimp [I, S, Tt, e0, hL1, hi]
    refine vloop_as (β := Nat) (fun i => [(1, .ptr n 0 0 0), (8, I i)]) (fun i m2 n2 => (∀ j, j < n + 1 → m2 j = (m.set n ⟨2, [[.sl 4 IL, .sl 10 DL]], 0⟩) j) ∧ n + 1 ≤ n2 ∧ i ≤ lines.length ∧ ∀ d ∈ lines.take i, lnOk d = true) (fun i => lines.length - i) 0 (by simp [I]) ⟨hm2, by omega, by omega, by simp⟩ ?_
    clear al hm2 nn le hi this e0 frn a1 a2
    clear n2 m2 i
    rintro i m2 n2 ⟨hm2, nn, le, al⟩
    have e0 : m2 n = some ⟨2, [[.sl 4 IL, .sl 10 DL]], 0⟩ := by rw [hm2 n (by omega)]; simp
    have frn : ∀ o j, j < n → (m2.set n2 o) j = m j := fun o j hj => by rw [set_ne _ _ _ _ (by omega), hm2 j (by omega), set_ne _ _ _ _ (by omega)]
    have a1 : n2 ≠ n := by omega
    have a2 : n ≠ n2 := by omega
    by_cases hi : (i : Int) < lines.length
    · have hi' : i < lines.length := by omega
      have wi : IntKind.i64.wrap ((i : Int) + 1) = (i : Int) + 1 := wrap_i64 (by omega) (by omega)
      have hiN : i < DL.length := by omega
      have hgi : DL[i] = lnD lines[i] := get_opt (hG2 i hi') hiN
      have him : lnD lines[i] = I lines[i].kind :: S lines[i].mod :: S lines[i].name :: tyD lines[i].typ := rfl
      have hmem := List.getElem_mem hi'
      have hc := fun m n => cRMay (q4 _ hmem).h3 (by have := few3_manyU (hfp _ hmem); omega) m n
      have h7 := tyD_len lines[i].typ
      have hbad : lnOk lines[i] = false → lines.all lnOk = false := fun h => by
        rw [List.all_eq_false]; exact ⟨_, hmem, by simp [h]⟩
      have hok : lnOk lines[i] = (((decide (lines[i].kind = 1) && smallN lines[i].name) || (decide (lines[i].kind = 2) && greatN lines[i].name)) && smallN lines[i].mod && mayT lines[i].typ) := rfl
      generalize tyD lines[i].typ = TT at h7 him hc
      have ht7 : List.take 7 TT = TT := List.take_of_length_le (by omega)
      have nxt : lnOk lines[i] = true → ∀ x ∈ lines.take (i + 1), lnOk x = true := by
        intro h x hx
        rw [List.take_succ_eq_append_getElem hi'] at hx
        rcases List.mem_append.1 hx with hx | hx
        · exact al x hx
        · simp at hx; rw [hx]; exact h
      simp -dsimp [I, S, Tt, e0, set_ne, a1, a2, hL2, hi, hi', hiN, hgi, him, h7, ht7]
      refine pcall (cRSm lines[i].name) ?_
      simp -dsimp [I, S, Tt, set_ne, a1, a2]
      refine pcall (cRGr lines[i].name) ?_
      simp -dsimp [I, S, Tt, set_ne, a1, a2]
      refine pcall (cRSm lines[i].mod) ?_
      simp -dsimp [I, S, Tt, set_ne, a1, a2, h7, ht7]
      refine pcall hc ?_
      cases e1 : smallN lines[i].mod
      · simp -dsimp [I, S, Tt]
        exact pcq (by rw [hbad (by simp [hok, e1])]) (frn _)
      cases e2 : mayT lines[i].typ
      · simp -dsimp [I, S, Tt]
        exact pcq (by rw [hbad (by simp [hok, e1, e2])]) (frn _)
      by_cases k1 : lines[i].kind = 1
      · cases e3 : smallN lines[i].name
        · simp -dsimp [I, S, Tt, k1]
          exact pcq (by rw [hbad (by simp [hok, e1, e2, e3, k1])]) (frn _)
        · simp -dsimp [I, S, Tt, k1, wi]
          exact rnd (i + 1) (by omega) (by simp [I]) ⟨fun j hj => by rw [set_ne _ _ _ _ (by omega)]; exact hm2 j hj, by omega, by omega, nxt (by simp [hok, e1, e2, e3, k1])⟩
      · have k1' : (lines[i].kind == 1) = false := by simp [k1]
        by_cases k2 : lines[i].kind = 2
        · cases e3 : greatN lines[i].name
          · simp -dsimp [I, S, Tt, k1', k2]
            exact pcq (by rw [hbad (by simp [hok, e1, e2, e3, k2])]) (frn _)
          · simp -dsimp [I, S, Tt, k1', k2, wi]
            exact rnd (i + 1) (by omega) (by simp [I]) ⟨fun j hj => by rw [set_ne _ _ _ _ (by omega)]; exact hm2 j hj, by omega, by omega, nxt (by simp [hok, e1, e2, e3, k2])⟩
        · have k2' : (lines[i].kind == 2) = false := by simp [k2]
          simp -dsimp [I, S, Tt, k1', k2']
          exact pcq (by rw [hbad (by simp [hok, e1, e2, k1, k2])]) (frn _)
    · have : lines.take i = lines := List.take_of_length_le (by omega)
      rw [this] at al
      have hall : lines.all lnOk = true := List.all_eq_true.2 al
      simp -dsimp [I, S, Tt, e0, hL2, hi]
      exact pcq (by rw [hall]) fun j hj => by rw [hm2 j (by omega), set_ne _ _ _ _ (by omega)]
end Go.Proofs.Mv.App
open Go Go.Proofs Go.Proofs.Mv.V
set_option maxRecDepth 10000
namespace Go.Proofs.Mv.App
theorem dupAt_get {imps : List Imp} {i : Nat} (h : i < imps.length) : dupAt imps i = (imps.take i).any fun y => decide (y.as_ = imps[i].as_) := by simp [dupAt, h]
theorem dupAt_hit {imps : List Imp} {i k : Nat} (h : i < imps.length) (hk : k < i) (e : (imps[k]'(by omega)).as_ = imps[i].as_) : dupAt imps i = true := by
  rw [dupAt_get h]
  exact List.any_eq_true.2 ⟨imps[k]'(by omega), by rw [List.mem_take_iff_getElem]; exact ⟨k, by omega, rfl⟩, by simpa using e⟩
theorem dupAt_none {imps : List Imp} {i : Nat} (h : i < imps.length) (al : ∀ k (hk : k < i), ¬ (imps[k]'(by omega)).as_ = imps[i].as_) : dupAt imps i = false := by
  rw [dupAt_get h]
  refine List.any_eq_false.2 fun x hx => ?_
  rw [List.mem_take_iff_getElem] at hx
  obtain ⟨k, hk, rfl⟩ := hx
  simpa using al k (by omega)
/-- What is amiss with a module without declarations: an error's number, and its place. -/
def chkN (md : List UInt8) (imps : List Imp) : Int × Int := if mayX md imps then (match dupI imps with | some i => (5, i) | none => (0, -1)) else (1, -1)
theorem chkN_ok (md : List UInt8) (imps : List Imp) : (chkN md imps).1 = 0 ↔ okX md imps = true := by
  unfold chkN okX
  cases mayX md imps with
  | false => simp
  | true =>
    cases dupI imps with
    | none => simp
    | some i => simp
set_option maxHeartbeats 2000000 in
theorem cReach0 {md : List UInt8} {imps : List Imp} {t : Ty} (ht : TyW t) (hb : manyT t ≤ 1000000) : Pc Tryz.prog 76 [.agg (mdX md imps), .agg (tyD t)] (.sl 1 []) := by
  refine pc_pub (fun m n => ?_)
  have nn1 : n ≠ n + 1 := by omega
  have n1n : n + 1 ≠ n := by omega
  have nn2 : n ≠ n + 1 + 1 := by omega
  have n2n : n + 1 + 1 ≠ n := by omega
  have n12 : n + 1 ≠ n + 1 + 1 := by omega
  have n21 : n + 1 + 1 ≠ n + 1 := by omega
  have hl := cRLocals ht hb
  have hf := fun s => cRFind7 (md := md) (imps := imps) s
  have hlen := locs_len t
  have z1 := tyD_len t
  have hL : ((locs t).map tyD).length = (locs t).length := by simp
  have hG : ∀ i (h : i < (locs t).length), ((locs t).map tyD)[i]? = some (tyD (locs t)[i]) := fun i h => by simp [h]
  generalize locs t = LT at hl hlen hL hG
  generalize tyD t = XX at hl z1
  have t1 : List.take 7 XX = XX := List.take_of_length_le (by omega)
  simp only [mdX] at hf ⊢
  generalize imps.map impD = IL at hf
  generalize LT.map tyD = LL at hl hL hG
  refine acalls_vc [0, 1, 2, 3, 4, 5, 6, 7, 8, 9, 16, 20, 28, 44, 54] Tryz.func76 Tryz.ntmps76 (by kernel_rfl) rfl rfl (by simp) ?_
  simp -dsimp [I, S, Tt, set_ne, nn1, n1n, z1, t1]
  refine pcall hl ?_
  simp -dsimp [I, S, Tt, set_ne, nn1, n1n, z1, t1]
  refine vloop_as (β := Bool) (fun b => [(2, .ptr n 0 0 0), (5, .own (n + 1 + 1) 0 0 0 1), (6, .sl 7 LL), (7, Tt b)]) (fun _ mm nn => mm n = some ⟨3, [[S md, .sl 4 IL, .sl 9 []]], 0⟩ ∧ mm (n + 1 + 1) = some ⟨1, [], 0⟩ ∧ (∀ j, j < n → mm j = m j) ∧ n + 1 + 1 + 1 ≤ nn) (fun b => if b then 1 else 0) true (by simp [I, Tt]) ⟨by simp [set_ne, nn1, nn2, S], by simp [set_ne], fun j hj => by rw [set_ne _ _ _ _ (by omega), set_ne _ _ _ _ (by omega), set_ne _ _ _ _ (by omega)], by omega⟩ ?_
  rintro b mm nn ⟨e0, e2, fr, hn⟩
  cases b with
  | false =>
    simp -dsimp [I, S, Tt]
    exact pcp (.lst (Lst.own (es := []) e2) (fun j hj => by rw [kof_own] at hj; obtain rfl := Option.some.inj hj; omega) .nil) fr
  | true =>
    simp -dsimp [I, S, Tt]
    refine vloop_as (β := Nat) (fun i => [(2, .ptr n 0 0 0), (5, .own (n + 1 + 1) 0 0 0 1), (6, .sl 7 LL), (7, Tt false), (8, I i)]) (fun i m2 n2 => m2 = mm ∧ n2 = nn ∧ i ≤ LT.length) (fun i => LT.length - i) 0 (by simp [I, Tt]) ⟨rfl, rfl, by omega⟩ ?_
    rintro i m2 n2 ⟨rfl, rfl, le⟩
    by_cases hi : (i : Int) < LT.length
    · have hi' : i < LT.length := by omega
      have wi : IntKind.i64.wrap ((i : Int) + 1) = (i : Int) + 1 := wrap_i64 (by omega) (by omega)
      have hiN : i < LL.length := by omega
      have hgi : LL[i] = tyD LT[i] := get_opt (hG i hi') hiN
      rcases hti : LT[i] with ⟨k1, p1, j1, m1, n1, na, sa⟩
      rw [hti] at hgi
      simp only [tyD, sl1] at hgi
      by_cases c1 : m1 = []
      · subst c1
        simp -dsimp [I, S, Tt, hL, hi, hi', hiN, hgi, e0]
        refine vdraw_tree [0, 0, 0, 6, 14, 30, 63, 127] (.rd 0 (.rd 1 (.rd 2 (.rd 3 (.rd 4 (.rd 5 (.wr (.cons 6 (.rd 7 (.fin)) (.nil))))))))) (by kernel_rfl) (by kernel_rfl) ?_
        simp -dsimp [I, S, Tt, hL, hi, hi', hiN, hgi, e0]
        refine pcall (hf _) ?_
        simp -dsimp [I, S, Tt, wi]
        exact rnd (i + 1) (by omega) (by simp [I, Tt]) ⟨rfl, rfl, by omega⟩
      · have d1 : m1.isEmpty = false := by cases m1 <;> simp_all
        simp -dsimp [I, S, Tt, hL, hi, hi', hiN, hgi, d1, e0, wi]
        exact rnd (i + 1) (by omega) (by simp [I, Tt]) ⟨rfl, rfl, by omega⟩
    · simp -dsimp [I, S, Tt, hL, hi]
      exact rnd false (by simp) (by simp [I, Tt]) ⟨e0, e2, fr, hn⟩
theorem cRImpX (i : Imp) : Pc Tryz.prog 155 [.agg (impD i)] (Tt (impOkU i)) := by
  obtain ⟨pkg, major, mod, as_⟩ := i
  refine pc_of (pur_T _) (fun m n => ?_)
  have fr : ∀ o j, j < n → (m.set n o) j = m j := fun o j hj => set_ne _ _ _ _ (by omega)
  simp only [impD, impOkU]
  refine acalls_vc [0, 1, 2, 3, 4, 5] Tryz.func155 Tryz.ntmps155 (by kernel_rfl) rfl rfl (by simp) ?_
  simp -dsimp [I, S]
  refine pcall (cRSm pkg) ?_
  simp -dsimp [I, S]
  refine pcall (cRSm mod) ?_
  simp -dsimp [I, S]
  refine pcall (cRSm as_) ?_
  cases h1 : smallN pkg with
  | false =>
    simp -dsimp [I, S, Tt]
    exact pcq (by simp [Tt]) (fr _)
  | true =>
  cases h2 : smallN mod with
  | false =>
    simp -dsimp [I, S, Tt]
    exact pcq (by simp [Tt]) (fr _)
  | true =>
  cases h3 : smallN as_ with
  | false =>
    simp -dsimp [I, S, Tt]
    exact pcq (by simp [Tt]) (fr _)
  | true =>
  by_cases h4 : 1 ≤ major
  · simp -dsimp [I, S, Tt, h4]
    exact pcq (by simp [Tt, h4]) (fr _)
  · simp -dsimp [I, S, Tt, h4]
    exact pcq (by simp [Tt, h4]) (fr _)
set_option maxHeartbeats 2000000 in
theorem cRMayX {md : List UInt8} {imps : List Imp} : Pc Tryz.prog 112 [.agg (mdX md imps)] (Tt (mayX md imps)) := by
  refine pc_of (pur_T _) (fun m n => ?_)
  have fr : ∀ o j, j < n → (m.set n o) j = m j := fun o j hj => set_ne _ _ _ _ (by omega)
  have hL : (imps.map impD).length = imps.length := by simp
  have hG : ∀ i (h : i < imps.length), (imps.map impD)[i]? = some (impD imps[i]) := fun i h => by simp [h]
  simp only [mdX, mayX]
  generalize imps.map impD = IL at hL hG
  refine acalls_vc [0, 1, 2, 3, 4, 5, 22, 30, 46] Tryz.func112 Tryz.ntmps112 (by kernel_rfl) rfl rfl (by simp) ?_
  simp -dsimp [I, S, Tt]
  refine pcall (cRSm md) ?_
  cases h1 : smallN md with
  | false =>
    simp -dsimp [I, S, Tt]
    exact pcq (by simp [Tt]) (fr _)
  | true =>
  by_cases h2 : (20 : Int) < imps.length
  · simp -dsimp [I, S, Tt, hL, h2]
    exact pcq (by simp [Tt, show ¬ imps.length ≤ 20 by omega]) (fr _)
  have h2' : imps.length ≤ 20 := by omega
  rw [show (true && decide (imps.length ≤ 20) && imps.all impOkU) = imps.all impOkU by simp [h2']]
  simp -dsimp [I, S, Tt, hL, h2, -vc_block]
  rw [vc_block]
  simp -dsimp [I, S, Tt, hL, h2, -vc_block]
  refine vloop_as (β := Nat × Bool) (fun b => [(1, .ptr n 0 0 0), (3, Tt b.2), (4, I b.1)]) (fun b m2 n2 => m2 = m.set n ⟨3, [[S md, .sl 4 IL, .sl 9 []]], 0⟩ ∧ n2 = n + 1 ∧ b.1 ≤ imps.length ∧ b.2 = (imps.take b.1).all impOkU) (fun b => imps.length - b.1) (0, true) (by simp [I, Tt]) ⟨by simp [S], rfl, by simp, by simp⟩ ?_
  rintro ⟨i, b⟩ m2 n2 ⟨rfl, rfl, le, hb⟩
  simp only at le hb ⊢
  by_cases hi : (i : Int) < imps.length
  · have hi' : i < imps.length := by omega
    cases b with
    | false =>
      have hall : imps.all impOkU = false := by
        obtain ⟨x, hx, hq⟩ := List.all_eq_false.1 hb.symm
        exact List.all_eq_false.2 ⟨x, List.mem_of_mem_take hx, hq⟩
      simp -dsimp [I, S, Tt, hL, hi, hi', -vc_block]
      rw [vc_block]
      simp -dsimp [I, S, Tt, hL, hi, hi', -vc_block]
      refine vloop_as (β := Unit) (fun _ => [(1, .ptr n 0 0 0), (3, Tt false), (5, I 0)]) (fun _ m2 n2 => m2 = m.set n ⟨3, [[S md, .sl 4 IL, .sl 9 []]], 0⟩) (fun _ => 0) () (by simp [I, Tt]) rfl ?_
      rintro _ m2 n2 rfl
      simp -dsimp [I, S, Tt]
      exact pcq (by rw [hall]) (fr _)
    | true =>
      have wi : IntKind.i64.wrap ((i : Int) + 1) = (i : Int) + 1 := wrap_i64 (by omega) (by omega)
      have hiN : i < IL.length := by omega
      have hgi : IL[i] = impD imps[i] := get_opt (hG i hi') hiN
      have hc := cRImpX imps[i]
      have hz : (impD imps[i]).length = 4 := rfl
      generalize impD imps[i] = TT at hgi hc hz
      have ht4 : List.take 4 TT = TT := List.take_of_length_le (by omega)
      simp -dsimp [I, S, Tt, hL, hi, hi', hiN, hgi, hz, ht4, -vc_block]
      rw [vc_block]
      simp -dsimp [I, S, Tt, hL, hi, hi', hiN, hgi, hz, ht4, -vc_block]
      refine pcall hc ?_
      simp -dsimp [I, S, Tt, wi, -vc_block]
      refine rnd (i + 1, impOkU imps[i]) (by simp only; omega) (by simp [I, Tt]) ⟨by simp [S], rfl, by simp only; omega, ?_⟩
      rw [List.take_succ_eq_append_getElem hi', List.all_append, ← hb]; simp
  · rw [List.take_of_length_le (by omega)] at hb
    simp -dsimp [I, S, Tt, hL, hi, -vc_block]
    rw [vc_block]
    simp -dsimp [I, S, Tt, hL, hi, -vc_block]
    refine vloop_as (β := Unit) (fun _ => [(1, .ptr n 0 0 0), (3, Tt b), (5, I 0)]) (fun _ m2 n2 => m2 = m.set n ⟨3, [[S md, .sl 4 IL, .sl 9 []]], 0⟩) (fun _ => 0) () (by simp [I, Tt]) rfl ?_
    rintro _ m2 n2 rfl
    simp -dsimp [I, S, Tt]
    exact pcq (by rw [hb]) (fr _)
set_option maxHeartbeats 2000000 in
theorem cRCheck7 {md : List UInt8} {imps : List Imp} : Pc Tryz.prog 73 [.agg (mdX md imps)] (.tup [I (chkN md imps).1, I (chkN md imps).2]) := by
  refine pc_of (Pur.tup (by simp; exact ⟨pur_I _, pur_I _⟩)) (fun m n => ?_)
  have fr : ∀ o j, j < n → (m.set n o) j = m j := fun o j hj => set_ne _ _ _ _ (by omega)
  have hM := cRMayX (md := md) (imps := imps)
  have hL : (imps.map impD).length = imps.length := by simp
  have hG : ∀ i (h : i < imps.length), (imps.map impD)[i]? = some (impD imps[i]) := fun i h => by simp [h]
  have hml : mayX md imps = true → imps.length ≤ 20 := fun h => by simp only [mayX, Bool.and_eq_true, decide_eq_true_eq] at h; exact h.1.2
  unfold chkN
  simp only [mdX] at hM ⊢
  generalize imps.map impD = IL at hM hL hG
  generalize mayX md imps = MU at hM hml
  refine acalls_vc [0, 1, 2, 3, 4, 5, 6, 7, 8, 9, 10, 14, 19, 24, 39, 43, 50, 60] Tryz.func73 Tryz.ntmps73 (by kernel_rfl) rfl rfl (by simp) ?_
  simp -dsimp [I, S, Tt]
  refine pcall hM ?_
  cases MU with
  | false =>
    simp -dsimp [I, S, Tt]
    exact pcq (by simp [I]) (fr _)
  | true =>
  have hml := hml rfl
  rw [if_pos rfl]
  simp -dsimp [I, S, Tt]
  refine vloop_as (β := Nat) (fun i => [(1, .ptr n 0 0 0), (5, I i)]) (fun i m2 n2 => m2 = m.set n ⟨3, [[S md, .sl 4 IL, .sl 9 []]], 0⟩ ∧ n2 = n + 1 ∧ i ≤ imps.length ∧ ∀ q, q < i → dupAt imps q = false) (fun i => imps.length - i) 0 (by simp [I]) ⟨by simp [S], rfl, by omega, fun q h => by omega⟩ ?_
  rintro i m2 n2 ⟨rfl, rfl, le, hno⟩
  by_cases hi : (i : Int) < imps.length
  · have hi' : i < imps.length := by omega
    have wi : IntKind.i64.wrap ((i : Int) + 1) = (i : Int) + 1 := wrap_i64 (by omega) (by omega)
    have hiN : i < IL.length := by omega
    have hgi : IL[i] = impD imps[i] := get_opt (hG i hi') hiN
    have him : impD imps[i] = [S imps[i].pkg, I imps[i].major, S imps[i].mod, S imps[i].as_] := rfl
    simp -dsimp [I, S, Tt, hL, hi, hi']
    refine vloop_as (β := Nat) (fun k => [(1, .ptr n 0 0 0), (5, I i), (6, I k)]) (fun k m2 n2 => m2 = m.set n ⟨3, [[S md, .sl 4 IL, .sl 9 []]], 0⟩ ∧ n2 = n + 1 ∧ k ≤ i ∧ ∀ q (h : q < k) (h' : k ≤ i), ¬ (imps[q]'(by omega)).as_ = imps[i].as_) (fun k => i - k) 0 (by simp [I]) ⟨rfl, rfl, by omega, fun q h => by omega⟩ ?_
    rintro k m2 n2 ⟨rfl, rfl, lek, al⟩
    by_cases hk : (k : Int) < i
    · have hk' : k < i := by omega
      have hk2 : k < imps.length := by omega
      have wk : IntKind.i64.wrap ((k : Int) + 1) = (k : Int) + 1 := wrap_i64 (by omega) (by omega)
      have hkN : k < IL.length := by omega
      have hgk : IL[k] = impD imps[k] := get_opt (hG k hk2) hkN
      have hkm : impD imps[k] = [S imps[k].pkg, I imps[k].major, S imps[k].mod, S imps[k].as_] := rfl
      simp -dsimp [I, S, Tt, hL, hi, hi', hk, hk', hk2]
      refine vdraw_of [0, 1, 0, 7, 15, 31, 0, 64, 0, 448, 960, 1984, 4095] [0, 1, 2, 3, 4, 5, 6, 7, 8, 9, 10, 11, 12] (by kernel_rfl) (by kernel_rfl) ?_
      by_cases c : imps[k].as_ = imps[i].as_
      · have c' : (imps[k].as_ == imps[i].as_) = true := by simpa using c
        rw [dupI_at hi' (dupAt_hit hi' hk' c) hno]
        simp -dsimp [I, S, Tt, hL, hi, hi', hiN, hgi, him, hk, hk', hk2, hkN, hgk, hkm, c']
        exact pcq (by simp [I]) (fr _)
      · have c' : (imps[k].as_ == imps[i].as_) = false := by simpa using c
        simp -dsimp [I, S, Tt, hL, hi, hi', hiN, hgi, him, hk, hk', hk2, hkN, hgk, hkm, c', wk]
        refine rnd (k + 1) (by omega) (by simp [I]) ⟨rfl, rfl, by omega, fun q hq h' => ?_⟩
        rcases Nat.lt_or_eq_of_le (show q ≤ k by omega) with h | h
        · exact al q h lek
        · subst h; exact c
    · have hki : k = i := by omega
      simp -dsimp [I, S, Tt, hk, wi]
      refine rnd (i + 1) (by omega) (by simp [I]) ⟨by simp [S], rfl, by omega, fun q hq => ?_⟩
      rcases Nat.lt_or_eq_of_le (show q ≤ i by omega) with h | h
      · exact hno q h
      · subst h; exact dupAt_none hi' fun p hp => al p (by omega) (by omega)
  · rw [dupI_no fun j hj => hno j (by omega)]
    simp -dsimp [I, S, Tt, hL, hi]
    refine vloop_as (β := Nat) (fun c => [(1, .ptr n 0 0 0), (8, I c)]) (fun c mm nn => mm n = some ⟨3, [[S md, .sl 4 IL, .sl 9 []]], 0⟩ ∧ (∀ j, j < n → mm j = m j) ∧ c ≤ 4) (fun c => 4 - c) 0 (by simp [I]) ⟨by simp [set_ne, S], fun j hj => by rw [set_ne _ _ _ _ (by omega)]; exact fr _ j hj, by omega⟩ ?_
    rintro c mm nn ⟨e0, frm, lec⟩
    by_cases hc : (c : Int) < 4
    · have wc : IntKind.i64.wrap ((c : Int) + 1) = (c : Int) + 1 := wrap_i64 (by omega) (by omega)
      have hc' : c < 4 := by omega
      simp -dsimp [I, S, Tt, hc, hc']
      refine vloop_as (β := Unit) (fun _ => [(1, .ptr n 0 0 0), (8, I c), (9, I 0)]) (fun _ m2 n2 => m2 = mm) (fun _ => 0) () (by simp [I]) rfl ?_
      rintro _ m2 n2 rfl
      simp -dsimp [I, S, Tt, e0, wc]
      exact rnd (c + 1) (by omega) (by simp [I]) ⟨e0, frm, by omega⟩
    · have hc' : ¬ c < 4 := by omega
      simp -dsimp [I, S, Tt, hc, hc']
      exact pcq rfl frm
end Go.Proofs.Mv.App
open Go Go.Proofs Go.Proofs.Mv.V
set_option maxRecDepth 10000
namespace Go.Proofs.Mv.App
def fewN (l : List Nm) : Bool := l.all fun x => few3 x.2
def fewI (f : Ifc) : Bool := decide (f.types.length ≤ 200) && decide (f.vals.length ≤ 200) && fewN f.types && fewN f.vals
def fewE (env : List Ifc) : Bool := decide (env.length ≤ 200) && env.all fewI
theorem fewE_len {env : List Ifc} (h : fewE env = true) : env.length ≤ 200 := by
  simp only [fewE, Bool.and_eq_true, decide_eq_true_eq] at h; exact h.1
theorem fewE_mem {env : List Ifc} (h : fewE env = true) : ∀ f ∈ env, f.types.length ≤ 200 ∧ f.vals.length ≤ 200 ∧ (∀ x ∈ f.types, manyT x.2 ≤ 3000) ∧ ∀ x ∈ f.vals, manyT x.2 ≤ 3000 := fun f hf => by
  simp only [fewE, fewI, fewN, Bool.and_eq_true, decide_eq_true_eq, List.all_eq_true] at h
  obtain ⟨⟨⟨h1, h2⟩, h3⟩, h4⟩ := h.2 f hf
  exact ⟨h1, h2, fun x hx => few3_manyU (h3 x hx), fun x hx => few3_manyU (h4 x hx)⟩
theorem all_no {α : Type} {q : α → Bool} {l : List α} {x : α} (hx : x ∈ l) (h : q x = false) : l.all q = false := List.all_eq_false.2 ⟨x, hx, by simp [h]⟩
theorem all_next {α : Type} {q : α → Bool} {l : List α} {i : Nat} (h : i < l.length) (al : ∀ x ∈ l.take i, q x = true) (e : q l[i] = true) : ∀ x ∈ l.take (i + 1), q x = true := fun x hx => by
  rw [List.take_succ_eq_append_getElem h] at hx
  rcases List.mem_append.1 hx with hx | hx
  · exact al x hx
  · simp at hx; rw [hx]; exact e
theorem all_fin {α : Type} {q : α → Bool} {l : List α} {i : Nat} (h : l.length ≤ i) (al : ∀ x ∈ l.take i, q x = true) : l.all q = true := by
  rw [List.take_of_length_le h] at al; exact List.all_eq_true.2 al
set_option maxHeartbeats 4000000 in
theorem cRFewE {env : List Ifc} (hw : ∀ f ∈ env, IfcW f) : Pc Tryz.prog 7 [.sl 5 (env.map ifD)] (Tt (fewE env)) := by
  refine pc_of (pur_T _) (fun m n => ?_)
  have hL : (env.map ifD).length = env.length := by simp
  have hG : ∀ i (h : i < env.length), (env.map ifD)[i]? = some (ifD env[i]) := fun i h => by simp [h]
  have hfe : fewE env = (decide (env.length ≤ 200) && env.all fewI) := rfl
  rw [hfe]
  generalize env.map ifD = EL at hL hG
  refine acalls_vc [0, 2, 3, 4, 5, 6, 7, 10, 14, 32, 40, 54, 62, 76] Tryz.func7 Tryz.ntmps7 (by kernel_rfl) rfl rfl (by simp) ?_
  by_cases c : (200 : Int) < env.length
  · simp -dsimp [I, S, Tt, hL, c]
    exact pcq' (by simp [Tt, show ¬ env.length ≤ 200 by omega])
  rw [show decide (env.length ≤ 200) = true by simp; omega, Bool.true_and]
  simp -dsimp [I, S, Tt, hL, c]
  refine vloop_as (β := Nat) (fun i => [(0, .sl 5 EL), (3, I i)]) (fun i m2 n2 => m2 = m ∧ n2 = n ∧ i ≤ env.length ∧ ∀ f ∈ env.take i, fewI f = true) (fun i => env.length - i) 0 (by simp [I]) ⟨rfl, rfl, by omega, by simp⟩ ?_
  rintro i m2 n2 ⟨rfl, rfl, le, al⟩
  by_cases hi : (i : Int) < env.length
  · have hi' : i < env.length := by omega
    have wi : IntKind.i64.wrap ((i : Int) + 1) = (i : Int) + 1 := wrap_i64 (by omega) (by omega)
    have hiN : i < EL.length := by omega
    have hgi : EL[i] = ifD env[i] := get_opt (hG i hi') hiN
    have hmem := List.getElem_mem hi'
    have him : ifD env[i] = [S env[i].pkg, I env[i].major, S env[i].mod, .sl 8 (env[i].types.map nnD), .sl 8 (env[i].vals.map nnD)] := rfl
    have hwf := hw _ hmem
    have hno : fewI env[i] = false → env.all fewI = false := fun h => all_no hmem h
    have hnx := fun h => all_next (q := fewI) hi' al h
    have hfi : fewI env[i] = (decide (env[i].types.length ≤ 200) && decide (env[i].vals.length ≤ 200) && fewN env[i].types && fewN env[i].vals) := rfl
    clear al
    obtain ⟨w1, w2, w3, w4, w5, w6⟩ := hwf
    generalize env[i].types = T1 at *
    generalize env[i].vals = V1 at *
    have hL1 : (T1.map nnD).length = T1.length := by simp
    have hG1 : ∀ i (h : i < T1.length), (T1.map nnD)[i]? = some (nnD T1[i]) := fun i h => by simp [h]
    have hL2 : (V1.map nnD).length = V1.length := by simp
    have hG2 : ∀ i (h : i < V1.length), (V1.map nnD)[i]? = some (nnD V1[i]) := fun i h => by simp [h]
    generalize T1.map nnD = TL at hL1 hG1 him
    generalize V1.map nnD = VL at hL2 hG2 him
    by_cases c1 : (200 : Int) < T1.length
    · simp -dsimp [I, S, Tt, hL, hi, hi', hiN, hgi, him, hL1, hL2, c1]
      exact pcq' (by rw [hno (by rw [hfi]; simp [show ¬ T1.length ≤ 200 by omega])])
    by_cases c2 : (200 : Int) < V1.length
    · simp -dsimp [I, S, Tt, hL, hi, hi', hiN, hgi, him, hL1, hL2, c1, c2]
      exact pcq' (by rw [hno (by rw [hfi]; simp [show ¬ V1.length ≤ 200 by omega])])
    rw [show decide (T1.length ≤ 200) = true by simp; omega, show decide (V1.length ≤ 200) = true by simp; omega, Bool.true_and, Bool.true_and] at hfi
    simp -dsimp [I, S, Tt, hL, hi, hi', hiN, hgi, him, hL1, hL2, c1, c2]
    refine vloop_as (β := Nat) (fun k => [(0, .sl 5 EL), (3, I i), (4, I k)]) (fun k m3 n3 => m3 = m2 ∧ n3 = n2 ∧ k ≤ T1.length ∧ ∀ x ∈ T1.take k, few3 x.2 = true) (fun k => T1.length - k) 0 (by simp [I]) ⟨rfl, rfl, by omega, by simp⟩ ?_
    rintro k m3 n3 ⟨rfl, rfl, le1, al1⟩
    by_cases hk : (k : Int) < T1.length
    · have hk' : k < T1.length := by omega
      have wk : IntKind.i64.wrap ((k : Int) + 1) = (k : Int) + 1 := wrap_i64 (by omega) (by omega)
      have hkN : k < TL.length := by omega
      have hgk : TL[k] = nnD T1[k] := get_opt (hG1 k hk') hkN
      have hkm : nnD T1[k] = S T1[k].1 :: tyD T1[k].2 := rfl
      have hc := fun m n => cFewT (w3 _ (List.getElem_mem hk')).h2 m n
      have hn1 : few3 T1[k].2 = false → fewN T1 = false := fun h => all_no (q := fun x : Nm => few3 x.2) (List.getElem_mem hk') h
      have hx1 := fun h => all_next (q := fun x : Nm => few3 x.2) hk' al1 h
      have h7 := tyD_len T1[k].2
      generalize tyD T1[k].2 = TT at h7 hkm hc
      have ht7 : List.take 7 TT = TT := List.take_of_length_le (by omega)
      simp -dsimp [I, S, Tt, hL, hi, hi', hiN, hgi, him, hL1, hk, hk', hkN, hgk, hkm, h7, ht7]
      refine pcall hc ?_
      cases e : few3 T1[k].2 with
      | false =>
        simp -dsimp [I, S, Tt]
        exact pcq' (by rw [hno (by rw [hfi, hn1 e]; rfl)])
      | true =>
        simp -dsimp [I, S, Tt, wk]
        exact rnd (k + 1) (by omega) (by simp [I]) ⟨rfl, rfl, by omega, hx1 e⟩
    · have hT1 : fewN T1 = true := all_fin (q := fun x : Nm => few3 x.2) (by omega) al1
      rw [hT1, Bool.true_and] at hfi
      simp -dsimp [I, S, Tt, hL, hi, hi', hiN, hgi, him, hL1, hk]
      refine vloop_as (β := Nat) (fun k => [(0, .sl 5 EL), (3, I i), (6, I k)]) (fun k m4 n4 => m4 = m3 ∧ n4 = n3 ∧ k ≤ V1.length ∧ ∀ x ∈ V1.take k, few3 x.2 = true) (fun k => V1.length - k) 0 (by simp [I]) ⟨rfl, rfl, by omega, by simp⟩ ?_
      clear hk al1 le1 k
      rintro k m4 n4 ⟨rfl, rfl, le1, al1⟩
      by_cases hk : (k : Int) < V1.length
      · have hk' : k < V1.length := by omega
        have wk : IntKind.i64.wrap ((k : Int) + 1) = (k : Int) + 1 := wrap_i64 (by omega) (by omega)
        have hkN : k < VL.length := by omega
        have hgk : VL[k] = nnD V1[k] := get_opt (hG2 k hk') hkN
        have hkm : nnD V1[k] = S V1[k].1 :: tyD V1[k].2 := rfl
        have hc := fun m n => cFewT (w4 _ (List.getElem_mem hk')).h2 m n
        have hn1 : few3 V1[k].2 = false → fewN V1 = false := fun h => all_no (q := fun x : Nm => few3 x.2) (List.getElem_mem hk') h
        have hx1 := fun h => all_next (q := fun x : Nm => few3 x.2) hk' al1 h
        have h7 := tyD_len V1[k].2
        generalize tyD V1[k].2 = TT at h7 hkm hc
        have ht7 : List.take 7 TT = TT := List.take_of_length_le (by omega)
        simp -dsimp [I, S, Tt, hL, hi, hi', hiN, hgi, him, hL2, hk, hk', hkN, hgk, hkm, h7, ht7]
        refine pcall hc ?_
        cases e : few3 V1[k].2 with
        | false =>
          simp -dsimp [I, S, Tt]
          exact pcq' (by rw [hno (by rw [hfi, hn1 e])])
        | true =>
          simp -dsimp [I, S, Tt, wk]
          exact rnd (k + 1) (by omega) (by simp [I]) ⟨rfl, rfl, by omega, hx1 e⟩
      · have hV1 : fewN V1 = true := all_fin (q := fun x : Nm => few3 x.2) (by omega) al1
        simp -dsimp [I, S, Tt, hL, hi, hi', hiN, hgi, him, hL2, hk, wi]
        exact rnd (i + 1) (by omega) (by simp [I]) ⟨rfl, rfl, by omega, hnx (by rw [hfi, hV1])⟩
  · have hall : env.all fewI = true := all_fin (by omega) al
    simp -dsimp [I, S, Tt, hL, hi]
    exact pcq' (by rw [hall])
end Go.Proofs.Mv.App
