/- A part of the proofs of the seat YtojdgajdhacjdaaGreatDoor: the abstract machine, the contracts of the functions, the laws. No condition of its own. -/
import Derived.Test.YtojdgajdhacjdaaGreatDoorUp
import Derived.Test.YtojdgajdhacjdaaGreatDoorTyF
set_option linter.unusedSimpArgs false
set_option linter.unusedVariables false
set_option linter.unusedSectionVars false
open Go Go.Proofs Go.Proofs.Mv.V
set_option maxRecDepth 10000
namespace Go.Proofs.Mv.App
theorem cRSm (s : List UInt8) : Pc Tryz.prog 34 [S s] (Tt (smallN s)) := fun m n => cRefSmall s m n
theorem cRGr (s : List UInt8) : Pc Tryz.prog 35 [S s] (Tt (greatN s)) := fun m n => cRefGreat s m n
set_option maxHeartbeats 2000000 in
theorem cRUFew {x : Us} (hx : UsW x) : Pc Tryz.prog 10 [.agg (usD x)] (Tt (fewU x)) := by
  obtain ⟨imps, lines⟩ := x
  obtain ⟨q1, q2, q3, q4⟩ := hx
  simp only at q1 q2 q3 q4
  refine pc_of (pur_T _) (fun m n => ?_)
  have fr : ∀ o j, j < n → (m.set n o) j = m j := fun o j hj => set_ne _ _ _ _ (by omega)
  have hL1 : (imps.map impD).length = imps.length := by simp
  have hL2 : (lines.map lnD).length = lines.length := by simp
  have hG2 : ∀ i (h : i < lines.length), (lines.map lnD)[i]? = some (lnD lines[i]) := fun i h => by simp [h]
  have hfm : fewU ⟨imps, lines⟩ = (decide (imps.length ≤ 100) && decide (lines.length ≤ 100) && lines.all fewLn) := rfl
  rw [hfm]
  simp only [usD]
  generalize imps.map impD = IL at hL1
  generalize lines.map lnD = DL at hL2 hG2
  refine acalls_vc [0, 1, 2, 3, 4, 14, 19, 40] Tryz.func10 Tryz.ntmps10 (by kernel_rfl) rfl rfl (by simp) ?_
  by_cases h2 : (100 : Int) < imps.length
  · have h2' : 100 < imps.length := by omega
    simp -dsimp [S, hL1, hL2, h2, h2']
    exact pcq (by simp [Tt, show ¬ imps.length ≤ 100 by omega]) (fr _)
  have h2' : ¬ 100 < imps.length := by omega
  by_cases h3 : (100 : Int) < lines.length
  · have h3' : 100 < lines.length := by omega
    simp -dsimp [S, hL1, hL2, h2, h2', h3, h3']
    exact pcq (by simp [Tt, show ¬ lines.length ≤ 100 by omega]) (fr _)
  have h3' : ¬ 100 < lines.length := by omega
  have e : (decide (imps.length ≤ 100) && decide (lines.length ≤ 100) && lines.all fewLn) = lines.all fewLn := by
    simp [show imps.length ≤ 100 by omega, show lines.length ≤ 100 by omega]
  rw [e]
  simp -dsimp [S, hL1, hL2, h2, h2', h3, h3']
  refine vloop_as (β := Nat) (fun i => [(1, .ptr n 0 0 0), (3, I i)]) (fun i m2 n2 => m2 = m.set n ⟨2, [[.sl 4 IL, .sl 10 DL]], 0⟩ ∧ n2 = n + 1 ∧ i ≤ lines.length ∧ ∀ d ∈ lines.take i, fewLn d = true) (fun i => lines.length - i) 0 (by simp [I]) ⟨rfl, rfl, by omega, by simp⟩ ?_
  rintro i m2 n2 ⟨rfl, rfl, le, al⟩
  by_cases hi : (i : Int) < lines.length
  · have hi' : i < lines.length := by omega
    have wi : IntKind.i64.wrap ((i : Int) + 1) = (i : Int) + 1 := wrap_i64 (by omega) (by omega)
    have hiN : i < DL.length := by omega
    have hgi : DL[i] = lnD lines[i] := get_opt (hG2 i hi') hiN
    have him : lnD lines[i] = I lines[i].kind :: S lines[i].mod :: S lines[i].name :: tyD lines[i].typ := rfl
    have hmem := List.getElem_mem hi'
    have hc := fun m n => cFewT (q4 _ hmem).h3 m n
    have h7 := tyD_len lines[i].typ
    have hbad : fewLn lines[i] = false → lines.all fewLn = false := fun h => by
      rw [List.all_eq_false]; exact ⟨_, hmem, by simp [h]⟩
    have hfd : fewLn lines[i] = (few3 lines[i].typ && decide (lines[i].name.length ≤ 500)) := rfl
    generalize tyD lines[i].typ = TT at h7 him hc
    have ht7 : List.take 7 TT = TT := List.take_of_length_le (by omega)
    simp -dsimp [I, S, hL2, hi, hi', hiN, hgi, him, h7, ht7]
    refine pcall hc ?_
    cases e1 : few3 lines[i].typ with
    | false =>
      simp -dsimp [I, S, Tt]
      exact pcq (by rw [hbad (by simp [hfd, e1])]) (fr _)
    | true =>
    by_cases e2 : (500 : Int) < lines[i].name.length
    · have e2' : 500 < lines[i].name.length := by omega
      simp -dsimp [I, S, Tt, hL2, hi, hi', hiN, hgi, him, h7, ht7, e2, e2']
      exact pcq (by rw [hbad (by simp [hfd, e1]; try omega)]) (fr _)
    · have e2' : ¬ 500 < lines[i].name.length := by omega
      simp -dsimp [I, S, Tt, hL2, hi, hi', hiN, hgi, him, h7, ht7, e2, e2', wi]
      refine rnd (i + 1) (by omega) (by simp [I]) ⟨by simp [S], rfl, by omega, ?_⟩
      intro x hx
      rw [List.take_succ_eq_append_getElem hi'] at hx
      rcases List.mem_append.1 hx with hx | hx
      · exact al x hx
      · simp at hx; rw [hx]; simp [hfd, e1]; try omega
  · have : lines.take i = lines := List.take_of_length_le (by omega)
    rw [this] at al
    have hall : lines.all fewLn = true := List.all_eq_true.2 al
    simp -dsimp [I, S, hL2, hi]
    exact pcq (by rw [hall]; rfl) (fr _)
set_option maxHeartbeats 4000000 in
theorem cRUMay {x : Us} (hx : UsW x) (hf : fewU x = true) : Pc Tryz.prog 12 [.agg (usD x)] (Tt (mayU x)) := by
  have hfp := (fewU_parts hf).2.2
  obtain ⟨imps, lines⟩ := x
  obtain ⟨q1, q2, q3, q4⟩ := hx
  simp only at q1 q2 q3 q4 hfp
  refine pc_of (pur_T _) (fun m n => ?_)
  have fr : ∀ o j, j < n → (m.set n o) j = m j := fun o j hj => set_ne _ _ _ _ (by omega)
  have hL1 : (imps.map impD).length = imps.length := by simp
  have hG1 : ∀ i (h : i < imps.length), (imps.map impD)[i]? = some (impD imps[i]) := fun i h => by simp [h]
  have hL2 : (lines.map lnD).length = lines.length := by simp
  have hG2 : ∀ i (h : i < lines.length), (lines.map lnD)[i]? = some (lnD lines[i]) := fun i h => by simp [h]
  simp only [usD, mayU]
  generalize imps.map impD = IL at hL1 hG1
  generalize lines.map lnD = DL at hL2 hG2
  refine acalls_vc [0, 1, 2, 3, 4, 5, 6, 7, 8, 9, 10, 11, 12, 13, 23, 28, 64, 69, 111] Tryz.func12 Tryz.ntmps12 (by kernel_rfl) rfl rfl (by simp) ?_
  by_cases h2 : (20 : Int) < imps.length
  · have h2' : 20 < imps.length := by omega
    simp -dsimp [I, S, Tt, hL1, hL2, h2, h2']
    exact pcq (by simp [Tt, show ¬ imps.length ≤ 20 by omega]) (fr _)
  have h2' : ¬ 20 < imps.length := by omega
  by_cases h3 : (60 : Int) < lines.length
  · have h3' : 60 < lines.length := by omega
    simp -dsimp [I, S, Tt, hL1, hL2, h2, h2', h3, h3']
    exact pcq (by simp [Tt, show ¬ lines.length ≤ 60 by omega]) (fr _)
  have h3' : ¬ 60 < lines.length := by omega
  have e : (decide (imps.length ≤ 20) && decide (lines.length ≤ 60) && imps.all impOkU && lines.all lnOk) = (imps.all impOkU && lines.all lnOk) := by
    simp [show imps.length ≤ 20 by omega, show lines.length ≤ 60 by omega]
  rw [e]
  simp -dsimp [I, S, Tt, hL1, hL2, h2, h2', h3, h3']
  refine vloop_as (β := Nat) (fun i => [(1, .ptr n 0 0 0), (3, I i)]) (fun i m2 n2 => (∀ j, j < n + 1 → m2 j = (m.set n ⟨2, [[.sl 4 IL, .sl 10 DL]], 0⟩) j) ∧ n + 1 ≤ n2 ∧ i ≤ imps.length ∧ ∀ d ∈ imps.take i, impOkU d = true) (fun i => imps.length - i) 0 (by simp [I]) ⟨fun _ _ => rfl, by omega, by omega, by simp⟩ ?_
  rintro i m2 n2 ⟨hm2, nn, le, al⟩
  have e0 : m2 n = some ⟨2, [[.sl 4 IL, .sl 10 DL]], 0⟩ := by rw [hm2 n (by omega)]; simp
  have frn : ∀ o j, j < n → (m2.set n2 o) j = m j := fun o j hj => by rw [set_ne _ _ _ _ (by omega), hm2 j (by omega), set_ne _ _ _ _ (by omega)]
  have a1 : n2 ≠ n := by omega
  have a2 : n ≠ n2 := by omega
  by_cases hi : (i : Int) < imps.length
  · have hi' : i < imps.length := by omega
    have wi : IntKind.i64.wrap ((i : Int) + 1) = (i : Int) + 1 := wrap_i64 (by omega) (by omega)
    have hiN : i < IL.length := by omega
    have hgi : IL[i] = impD imps[i] := get_opt (hG1 i hi') hiN
    have him : impD imps[i] = [S imps[i].pkg, I imps[i].major, S imps[i].mod, S imps[i].as_] := rfl
    have hmem := List.getElem_mem hi'
    have hbad : impOkU imps[i] = false → (imps.all impOkU && lines.all lnOk) = false := fun h => by
      rw [show imps.all impOkU = false from List.all_eq_false.2 ⟨_, hmem, by simp [h]⟩]; rfl
    have hok : impOkU imps[i] = (smallN imps[i].pkg && smallN imps[i].mod && smallN imps[i].as_ && decide (1 ≤ imps[i].major) && decide (imps[i].major ≤ 999999999)) := rfl
    simp -dsimp [I, S, Tt, e0, set_ne, a1, a2, hL1, hi, hi', hiN, hgi, him]
    refine pcall (cRSm imps[i].pkg) ?_
    simp -dsimp [I, S, Tt, set_ne, a1, a2]
    refine pcall (cRSm imps[i].mod) ?_
    simp -dsimp [I, S, Tt, set_ne, a1, a2]
    refine pcall (cRSm imps[i].as_) ?_
    cases e1 : smallN imps[i].pkg
    · simp -dsimp [I, S, Tt]
      exact pcq (by rw [hbad (by simp [hok, e1])]) (frn _)
    cases e2 : smallN imps[i].mod
    · simp -dsimp [I, S, Tt]
      exact pcq (by rw [hbad (by simp [hok, e1, e2])]) (frn _)
    cases e3 : smallN imps[i].as_
    · simp -dsimp [I, S, Tt]
      exact pcq (by rw [hbad (by simp [hok, e1, e2, e3])]) (frn _)
    by_cases h4 : imps[i].major < 1
    · simp -dsimp [I, S, Tt, h4]
      exact pcq (by rw [hbad (by simp [hok]; try omega)]) (frn _)
    by_cases h5 : 999999999 < imps[i].major
    · simp -dsimp [I, S, Tt, h4, h5]
      exact pcq (by rw [hbad (by simp [hok]; try omega)]) (frn _)
    simp -dsimp [I, S, Tt, h4, h5, wi]
    refine rnd (i + 1) (by omega) (by simp [I]) ⟨fun j hj => by rw [set_ne _ _ _ _ (by omega)]; exact hm2 j hj, by omega, by omega, ?_⟩
    intro x hx
    rw [List.take_succ_eq_append_getElem hi'] at hx
    rcases List.mem_append.1 hx with hx | hx
    · exact al x hx
    · simp at hx; rw [hx]; simp [hok, e1, e2, e3]; try omega
  · have : imps.take i = imps := List.take_of_length_le (by omega)
    rw [this] at al
    have hall : imps.all impOkU = true := List.all_eq_true.2 al
    rw [hall, Bool.true_and]
    simp -dsimp [I, S, Tt, e0, hL1, hi]
    refine vloop_as (β := Nat) (fun i => [(1, .ptr n 0 0 0), (8, I i)]) (fun i m2 n2 => (∀ j, j < n + 1 → m2 j = (m.set n ⟨2, [[.sl 4 IL, .sl 10 DL]], 0⟩) j) ∧ n + 1 ≤ n2 ∧ i ≤ lines.length ∧ ∀ d ∈ lines.take i, lnOk d = true) (fun i => lines.length - i) 0 (by simp [I]) ⟨hm2, by omega, by omega, by simp⟩ ?_
    clear al hm2 nn le hi this e0 frn a1 a2
    clear n2 m2 i
    rintro i m2 n2 ⟨hm2, nn, le, al⟩
    have e0 : m2 n = some ⟨2, [[.sl 4 IL, .sl 10 DL]], 0⟩ := by rw [hm2 n (by omega)]; simp
    have frn : ∀ o j, j < n → (m2.set n2 o) j = m j := fun o j hj => by rw [set_ne _ _ _ _ (by omega), hm2 j (by omega), set_ne _ _ _ _ (by omega)]
    have a1 : n2 ≠ n := by omega
    have a2 : n ≠ n2 := by omega
    by_cases hi : (i : Int) < lines.length
    · have hi' : i < lines.length := by omega
      have wi : IntKind.i64.wrap ((i : Int) + 1) = (i : Int) + 1 := wrap_i64 (by omega) (by omega)
      have hiN : i < DL.length := by omega
      have hgi : DL[i] = lnD lines[i] := get_opt (hG2 i hi') hiN
      have him : lnD lines[i] = I lines[i].kind :: S lines[i].mod :: S lines[i].name :: tyD lines[i].typ := rfl
      have hmem := List.getElem_mem hi'
      have hc := fun m n => cRMay (q4 _ hmem).h3 (by have := few3_manyU (hfp _ hmem); omega) m n
      have h7 := tyD_len lines[i].typ
      have hbad : lnOk lines[i] = false → lines.all lnOk = false := fun h => by
        rw [List.all_eq_false]; exact ⟨_, hmem, by simp [h]⟩
      have hok : lnOk lines[i] = (((decide (lines[i].kind = 1) && smallN lines[i].name) || (decide (lines[i].kind = 2) && greatN lines[i].name)) && smallN lines[i].mod && mayT lines[i].typ) := rfl
      generalize tyD lines[i].typ = TT at h7 him hc
      have ht7 : List.take 7 TT = TT := List.take_of_length_le (by omega)
      have nxt : lnOk lines[i] = true → ∀ x ∈ lines.take (i + 1), lnOk x = true := by
        intro h x hx
        rw [List.take_succ_eq_append_getElem hi'] at hx
        rcases List.mem_append.1 hx with hx | hx
        · exact al x hx
        · simp at hx; rw [hx]; exact h
      simp -dsimp [I, S, Tt, e0, set_ne, a1, a2, hL2, hi, hi', hiN, hgi, him, h7, ht7]
      refine pcall (cRSm lines[i].name) ?_
      simp -dsimp [I, S, Tt, set_ne, a1, a2]
      refine pcall (cRGr lines[i].name) ?_
      simp -dsimp [I, S, Tt, set_ne, a1, a2]
      refine pcall (cRSm lines[i].mod) ?_
      simp -dsimp [I, S, Tt, set_ne, a1, a2, h7, ht7]
      refine pcall hc ?_
      cases e1 : smallN lines[i].mod
      · simp -dsimp [I, S, Tt]
        exact pcq (by rw [hbad (by simp [hok, e1])]) (frn _)
      cases e2 : mayT lines[i].typ
      · simp -dsimp [I, S, Tt]
        exact pcq (by rw [hbad (by simp [hok, e1, e2])]) (frn _)
      by_cases k1 : lines[i].kind = 1
      · cases e3 : smallN lines[i].name
        · simp -dsimp [I, S, Tt, k1]
          exact pcq (by rw [hbad (by simp [hok, e1, e2, e3, k1])]) (frn _)
        · simp -dsimp [I, S, Tt, k1, wi]
          exact rnd (i + 1) (by omega) (by simp [I]) ⟨fun j hj => by rw [set_ne _ _ _ _ (by omega)]; exact hm2 j hj, by omega, by omega, nxt (by simp [hok, e1, e2, e3, k1])⟩
      · have k1' : (lines[i].kind == 1) = false := by simp [k1]
        by_cases k2 : lines[i].kind = 2
        · cases e3 : greatN lines[i].name
          · simp -dsimp [I, S, Tt, k1', k2]
            exact pcq (by rw [hbad (by simp [hok, e1, e2, e3, k2])]) (frn _)
          · simp -dsimp [I, S, Tt, k1', k2, wi]
            exact rnd (i + 1) (by omega) (by simp [I]) ⟨fun j hj => by rw [set_ne _ _ _ _ (by omega)]; exact hm2 j hj, by omega, by omega, nxt (by simp [hok, e1, e2, e3, k2])⟩
        · have k2' : (lines[i].kind == 2) = false := by simp [k2]
          simp -dsimp [I, S, Tt, k1', k2']
          exact pcq (by rw [hbad (by simp [hok, e1, e2, k1, k2])]) (frn _)
    · have : lines.take i = lines := List.take_of_length_le (by omega)
      rw [this] at al
      have hall : lines.all lnOk = true := List.all_eq_true.2 al
      simp -dsimp [I, S, Tt, e0, hL2, hi]
      exact pcq (by rw [hall]) fun j hj => by rw [hm2 j (by omega), set_ne _ _ _ _ (by omega)]
end Go.Proofs.Mv.App
open Go Go.Proofs Go.Proofs.Mv.V
set_option maxRecDepth 10000
namespace Go.Proofs.Mv.App
set_option maxHeartbeats 4000000 in
theorem cRUPrint {x : Us} (hx : UsW x) (hm : mayU x = true) : Pc Tryz.prog 14 [.agg (usD x)] (S (textU x)) := by
  refine pc_of (pur_S _) (fun m n => ?_)
  have hmd : usD x = [.sl 4 (x.imps.map impD), .sl 10 (x.lines.map lnD)] := rfl
  have hL1 : (x.imps.map impD).length = x.imps.length := by simp
  have hG1 : ∀ i (h : i < x.imps.length), (x.imps.map impD)[i]? = some (impD x.imps[i]) := fun i h => by simp [h]
  have hL2 : (x.lines.map lnD).length = x.lines.length := by simp
  have hG2 : ∀ i (h : i < x.lines.length), (x.lines.map lnD)[i]? = some (lnD x.lines[i]) := fun i h => by simp [h]
  rw [hmd]
  generalize x.imps.map impD = IL at hL1 hG1
  generalize x.lines.map lnD = DL at hL2 hG2
  obtain ⟨r1, r2, r3, r4⟩ := mayU_parts hm
  have wl := impsU_len hm
  have wd := lnsU_len hm
  refine acalls_vc [0, 1, 2, 3, 4, 5, 6, 7, 12, 43, 53] Tryz.func14 Tryz.ntmps14 (by kernel_rfl) rfl rfl (by simp) ?_
  simp -dsimp [I, S, hL1]
  refine vloop_as (β := Nat) (fun i => [(1, .ptr n 0 0 0), (3, S (impsU x i)), (4, I i)]) (fun i m2 n2 => m2 n = some ⟨2, [[.sl 4 IL, .sl 10 DL]], 0⟩ ∧ (∀ j, j < n → m2 j = m j) ∧ n + 1 ≤ n2 ∧ i ≤ x.imps.length) (fun i => x.imps.length - i) 0 (by simp [I, S, impsU_zero]) ⟨by simp, fun j hj => set_ne _ _ _ _ (by omega), by omega, by omega⟩ ?_
  rintro i m2 n2 ⟨mo, fr, nn, le⟩
  have kn : n ≠ n2 := by omega
  have nk : n2 ≠ n := by omega
  by_cases hi : (i : Int) < x.imps.length
  · have hi' : i < x.imps.length := by omega
    have wi : IntKind.i64.wrap ((i : Int) + 1) = (i : Int) + 1 := wrap_i64 (by omega) (by omega)
    have hiN : i < IL.length := by omega
    have hgi : IL[i] = impD x.imps[i] := get_opt (hG1 i hi') hiN
    obtain ⟨t1, t2, t3, t4, t5⟩ := imp_partsU (r3 _ (List.getElem_mem hi'))
    have hdl := digits_len x.imps[i].major.toNat
    have hsn := impsU_snoc hi'
    have hll := wl i
    have him : impD x.imps[i] = [S x.imps[i].pkg, I x.imps[i].major, S x.imps[i].mod, S x.imps[i].as_] := rfl
    have hlin : impLnU x.imps[i] = impLnU ⟨x.imps[i].pkg, x.imps[i].major, x.imps[i].mod, x.imps[i].as_⟩ := rfl
    rw [hlin] at hsn
    generalize x.imps[i].pkg = y1 at t1 him hsn
    generalize x.imps[i].major = y2 at t4 t5 him hsn hdl
    generalize x.imps[i].mod = y3 at t2 him hsn
    generalize x.imps[i].as_ = y4 at t3 him hsn
    simp -dsimp [mo, I, S, hL1, hi, hi', hiN, hgi, him, set_ne, kn, nk]
    refine vdraw_tree [0, 1, 0, 4, 15, 31, 0, 64, 192, 511, 1023, 0, 2048, 8191, 16383, 0, 32768, 131071, 262143, 524287] (.rd 0 (.rd 1 (.rd 2 (.rd 3 (.rd 4 (.rd 5 (.rd 6 (.rd 7 (.rd 11 (.rd 12 (.rd 15 (.rd 16 (.wr (.cons 8 (.rd 9 (.rd 10 (.rd 13 (.rd 14 (.rd 17 (.rd 18 (.rd 19 (.fin)))))))) (.nil))))))))))))))) (by kernel_rfl) (by kernel_rfl) ?_
    simp -dsimp [mo, I, S, hL1, hi, hi', hiN, hgi, him, set_ne, kn, nk]
    refine ⟨by omega, by omega, by omega, ?_⟩
    refine aCall_of (cDigitsI (j := y2) (by omega) (by omega) _ _) ?_
    rintro d m3 n3 ⟨rfl, rfl, rfl⟩
    simp -dsimp [mo, I, S, hL1, set_ne, kn, nk, wi]
    refine ⟨by omega, by omega, by omega, by omega, by omega, by omega, ?_⟩
    exact rnd (i + 1) (by omega) (by simp [I, S, hsn, impLnU, wImp]) ⟨by rw [set_ne _ _ _ _ kn]; exact mo, fun j hj => by rw [set_ne _ _ _ _ (by omega)]; exact fr j hj, by omega, by omega⟩
  · have : i = x.imps.length := by omega
    subst this
    rw [impsU_all]
    simp -dsimp [mo, I, S, hL1, hL2]
    refine vloop_as (β := Nat) (fun i => [(1, .ptr n 0 0 0), (3, S (lnsU x i)), (6, I i)]) (fun i m2 n2 => m2 n = some ⟨2, [[.sl 4 IL, .sl 10 DL]], 0⟩ ∧ (∀ j, j < n → m2 j = m j) ∧ n + 1 ≤ n2 ∧ i ≤ x.lines.length) (fun i => x.lines.length - i) 0 (by simp [I, S]) ⟨mo, fr, nn, by omega⟩ ?_
    clear mo fr nn le hi kn nk
    clear m2 n2
    rintro i m2 n2 ⟨mo, fr, nn, le⟩
    have kn : n ≠ n2 := by omega
    have nk : n2 ≠ n := by omega
    by_cases hi : (i : Int) < x.lines.length
    · have hi' : i < x.lines.length := by omega
      have wi : IntKind.i64.wrap ((i : Int) + 1) = (i : Int) + 1 := wrap_i64 (by omega) (by omega)
      have hiN : i < DL.length := by omega
      have hgi : DL[i] = lnD x.lines[i] := get_opt (hG2 i hi') hiN
      have hok := r4 _ (List.getElem_mem hi')
      obtain ⟨t1, t2, tm⟩ := ln_parts hok
      have htl := mayT_lenU tm
      have hc : ∀ m n, ACalls Tryz.prog 44 [.agg (tyD x.lines[i].typ)] m n (fun d m' n' => d = S (textT x.lines[i].typ) ∧ m' = m ∧ n' = n) := fun m n => cPrintR (allT_w _ (mayT_all tm).1) (mayT_all tm).1 (by have := (mayT_all tm).2; omega) m n
      have hsn := lnsU_snoc hi'
      have hll := wd i
      have him : lnD x.lines[i] = I x.lines[i].kind :: S x.lines[i].mod :: S x.lines[i].name :: tyD x.lines[i].typ := rfl
      have h7 := tyD_len x.lines[i].typ
      unfold lnTx lnHd at hsn
      generalize tyD x.lines[i].typ = TT at h7 him hc
      generalize textT x.lines[i].typ = tt at hsn htl hc
      generalize x.lines[i].kind = y1 at him hsn
      generalize x.lines[i].mod = y2 at him hsn t1
      generalize x.lines[i].name = y3 at him hsn t2
      have ht7 : List.take 7 TT = TT := List.take_of_length_le (by omega)
      by_cases k1 : y1 = 1
      · subst k1
        simp -dsimp [mo, I, S, hL2, hi, hi', hiN, hgi, him, set_ne, kn, nk, h7, ht7]
        repeat refine ⟨by omega, ?_⟩
        refine pcall hc ?_
        simp -dsimp [mo, I, S, set_ne, kn, nk, wi]
        refine ⟨by omega, by omega, ?_⟩
        exact rnd (i + 1) (by omega) (by simp [I, S, hsn]) ⟨by rw [set_ne _ _ _ _ kn]; exact mo, fun j hj => by rw [set_ne _ _ _ _ (by omega)]; exact fr j hj, by omega, by omega⟩
      · have k1' : (y1 == 1) = false := by simp [k1]
        simp -dsimp [mo, I, S, hL2, hi, hi', hiN, hgi, him, set_ne, kn, nk, h7, ht7, k1']
        repeat refine ⟨by omega, ?_⟩
        refine pcall hc ?_
        simp -dsimp [mo, I, S, set_ne, kn, nk, wi]
        refine ⟨by omega, by omega, ?_⟩
        exact rnd (i + 1) (by omega) (by simp [I, S, hsn, k1]) ⟨by rw [set_ne _ _ _ _ kn]; exact mo, fun j hj => by rw [set_ne _ _ _ _ (by omega)]; exact fr j hj, by omega, by omega⟩
    · have : i = x.lines.length := by omega
      subst this
      simp -dsimp [mo, I, S, hL2]
      exact pcq rfl fr
end Go.Proofs.Mv.App
