/- A part of the proofs of the seat YtgekkmmmidgkbaaGreatDoor: the abstract machine, the contracts of the functions, the laws. No condition of its own. -/
import Derived.Test.YtgekkmmmidgkbaaGreatDoorP11
import Derived.Test.YtgekkmmmidgkbaaGreatDoorP14
import Derived.Test.YtgekkmmmidgkbaaGreatDoorP09
import Derived.Test.YtgekkmmmidgkbaaGreatDoorP13
import Derived.Test.YtgekkmmmidgkbaaGreatDoorMvP2
set_option linter.unusedSimpArgs false
set_option linter.unusedVariables false
set_option linter.unusedSectionVars false
open Go Go.Proofs Go.Proofs.Mv.V
set_option maxRecDepth 10000
namespace Go.Proofs.Mv.App
theorem cRSm (s : List UInt8) : Pc Tryz.prog 29 [S s] (Tt (smallN s)) := fun m n => cRefSmall s m n
theorem cRGr (s : List UInt8) : Pc Tryz.prog 30 [S s] (Tt (greatN s)) := fun m n => cRefGreat s m n
set_option maxHeartbeats 2000000 in
theorem cRUFew {x : Us} (hx : UsW x) : Pc Tryz.prog 6 [.agg (usD x)] (Tt (fewU x)) := by
  obtain ⟨imps, lines⟩ := x
  obtain ⟨q1, q2, q3, q4⟩ := hx
  simp only at q1 q2 q3 q4
  refine pc_of (pur_T _) (fun m n => ?_)
  have fr : ∀ o j, j < n → (m.set n o) j = m j := fun o j hj => set_ne _ _ _ _ (by omega)
  have hL1 : (imps.map impD).length = imps.length := by simp
  have hL2 : (lines.map lnD).length = lines.length := by simp
  have hG2 : ∀ i (h : i < lines.length), (lines.map lnD)[i]? = some (lnD lines[i]) := fun i h => by simp [h]
  have hfm : fewU ⟨imps, lines⟩ = (decide (imps.length ≤ 100) && decide (lines.length ≤ 100) && lines.all fewLn) := rfl
  rw [hfm]
  simp only [usD]
  generalize imps.map impD = IL at hL1
  generalize lines.map lnD = DL at hL2 hG2
  refine acalls_vc [0, 1, 2, 3, 4, 14, 19, 40] Tryz.func6 Tryz.ntmps6 (by kernel_rfl) rfl rfl (by simp) ?_
  by_cases h2 : (100 : Int) < imps.length
  · have h2' : 100 < imps.length := by omega
    simp -dsimp [S, hL1, hL2, h2, h2']
    exact pcq (by simp [Tt, show ¬ imps.length ≤ 100 by omega]) (fr _)
  have h2' : ¬ 100 < imps.length := by omega
  by_cases h3 : (100 : Int) < lines.length
  · have h3' : 100 < lines.length := by omega
    simp -dsimp [S, hL1, hL2, h2, h2', h3, h3']
    exact pcq (by simp [Tt, show ¬ lines.length ≤ 100 by omega]) (fr _)
  have h3' : ¬ 100 < lines.length := by omega
  have e : (decide (imps.length ≤ 100) && decide (lines.length ≤ 100) && lines.all fewLn) = lines.all fewLn := by
    simp [show imps.length ≤ 100 by omega, show lines.length ≤ 100 by omega]
  rw [e]
  simp -dsimp [S, hL1, hL2, h2, h2', h3, h3']
  refine vloop_as (β := Nat) (fun i => [(1, .ptr n 0 0 0), (3, I i)]) (fun i m2 n2 => m2 = m.set n ⟨2, [[.sl 4 IL, .sl 10 DL]], 0⟩ ∧ n2 = n + 1 ∧ i ≤ lines.length ∧ ∀ d ∈ lines.take i, fewLn d = true) (fun i => lines.length - i) 0 (by simp [I]) ⟨rfl, rfl, by omega, by simp⟩ ?_
  rintro i m2 n2 ⟨rfl, rfl, le, al⟩
  by_cases hi : (i : Int) < lines.length
  · have hi' : i < lines.length := by omega
    have wi : IntKind.i64.wrap ((i : Int) + 1) = (i : Int) + 1 := wrap_i64 (by omega) (by omega)
    have hiN : i < DL.length := by omega
    have hgi : DL[i] = lnD lines[i] := get_opt (hG2 i hi') hiN
    have him : lnD lines[i] = I lines[i].kind :: S lines[i].mod :: S lines[i].name :: tyD lines[i].typ := rfl
    have hmem := List.getElem_mem hi'
    have hc := fun m n => cFewT (q4 _ hmem).h3 m n
    have h7 := tyD_len lines[i].typ
    have hbad : fewLn lines[i] = false → lines.all fewLn = false := fun h => by
      rw [List.all_eq_false]; exact ⟨_, hmem, by simp [h]⟩
    have hfd : fewLn lines[i] = (few3 lines[i].typ && decide (lines[i].name.length ≤ 500)) := rfl
    generalize tyD lines[i].typ = TT at h7 him hc
    have ht7 : List.take 7 TT = TT := List.take_of_length_le (by omega)
    simp -dsimp [I, S, hL2, hi, hi', hiN, hgi, him, h7, ht7]
    refine pcall hc ?_
    cases e1 : few3 lines[i].typ with
    | false =>
      simp -dsimp [I, S, Tt]
      exact pcq (by rw [hbad (by simp [hfd, e1])]) (fr _)
    | true =>
    by_cases e2 : (500 : Int) < lines[i].name.length
    · have e2' : 500 < lines[i].name.length := by omega
      simp -dsimp [I, S, Tt, hL2, hi, hi', hiN, hgi, him, h7, ht7, e2, e2']
      exact pcq (by rw [hbad (by simp [hfd, e1]; try omega)]) (fr _)
    · have e2' : ¬ 500 < lines[i].name.length := by omega
      simp -dsimp [I, S, Tt, hL2, hi, hi', hiN, hgi, him, h7, ht7, e2, e2', wi]
      refine rnd (i + 1) (by omega) (by simp [I]) ⟨by simp [S], rfl, by omega, ?_⟩
      intro x hx
      rw [List.take_succ_eq_append_getElem hi'] at hx
      rcases List.mem_append.1 hx with hx | hx
      · exact al x hx
      · simp at hx; rw [hx]; simp [hfd, e1]; try omega
  · have : lines.take i = lines := List.take_of_length_le (by omega)
    rw [this] at al
    have hall : lines.all fewLn = true := List.all_eq_true.2 al
    simp -dsimp [I, S, hL2, hi]
    exact pcq (by rw [hall]; rfl) (fr _)
set_option maxHeartbeats 4000000 in
theorem cRUMay {x : Us} (hx : UsW x) (hf : fewU x = true) : Pc Tryz.prog 14 [.agg (usD x)] (Tt (mayU x)) := by
  have hfp := (fewU_parts hf).2.2
  obtain ⟨imps, lines⟩ := x
  obtain ⟨q1, q2, q3, q4⟩ := hx
  simp only at q1 q2 q3 q4 hfp
  refine pc_of (pur_T _) (fun m n => ?_)
  have fr : ∀ o j, j < n → (m.set n o) j = m j := fun o j hj => set_ne _ _ _ _ (by omega)
  have hL1 : (imps.map impD).length = imps.length := by simp
  have hG1 : ∀ i (h : i < imps.length), (imps.map impD)[i]? = some (impD imps[i]) := fun i h => by simp [h]
  have hL2 : (lines.map lnD).length = lines.length := by simp
  have hG2 : ∀ i (h : i < lines.length), (lines.map lnD)[i]? = some (lnD lines[i]) := fun i h => by simp [h]
  simp only [usD, mayU]
  generalize imps.map impD = IL at hL1 hG1
  generalize lines.map lnD = DL at hL2 hG2
  refine acalls_vc [0, 1, 2, 3, 4, 5, 6, 7, 8, 9, 10, 11, 12, 13, 23, 28, 64, 69, 111] Tryz.func14 Tryz.ntmps14 (by kernel_rfl) rfl rfl (by simp) ?_
  by_cases h2 : (20 : Int) < imps.length
  · have h2' : 20 < imps.length := by omega
    simp -dsimp [I, S, Tt, hL1, hL2, h2, h2']
    exact pcq (by simp [Tt, show ¬ imps.length ≤ 20 by omega]) (fr _)
  have h2' : ¬ 20 < imps.length := by omega
  by_cases h3 : (60 : Int) < lines.length
  · have h3' : 60 < lines.length := by omega
    simp -dsimp [I, S, Tt, hL1, hL2, h2, h2', h3, h3']
    exact pcq (by simp [Tt, show ¬ lines.length ≤ 60 by omega]) (fr _)
  have h3' : ¬ 60 < lines.length := by omega
  have e : (decide (imps.length ≤ 20) && decide (lines.length ≤ 60) && imps.all impOkU && lines.all lnOk) = (imps.all impOkU && lines.all lnOk) := by
    simp [show imps.length ≤ 20 by omega, show lines.length ≤ 60 by omega]
  rw [e]
  simp -dsimp [I, S, Tt, hL1, hL2, h2, h2', h3, h3']
  refine vloop_as (β := Nat) (fun i => [(1, .ptr n 0 0 0), (3, I i)]) (fun i m2 n2 => (∀ j, j < n + 1 → m2 j = (m.set n ⟨2, [[.sl 4 IL, .sl 10 DL]], 0⟩) j) ∧ n + 1 ≤ n2 ∧ i ≤ imps.length ∧ ∀ d ∈ imps.take i, impOkU d = true) (fun i => imps.length - i) 0 (by simp [I]) ⟨fun _ _ => rfl, by omega, by omega, by simp⟩ ?_
  rintro i m2 n2 ⟨hm2, nn, le, al⟩
  have e0 : m2 n = some ⟨2, [[.sl 4 IL, .sl 10 DL]], 0⟩ := by rw [hm2 n (by omega)]; simp
  have frn : ∀ o j, j < n → (m2.set n2 o) j = m j := fun o j hj => by rw [set_ne _ _ _ _ (by omega), hm2 j (by omega), set_ne _ _ _ _ (by omega)]
  have a1 : n2 ≠ n := by omega
  have a2 : n ≠ n2 := by omega
  by_cases hi : (i : Int) < imps.length
  · have hi' : i < imps.length := by omega
    have wi : IntKind.i64.wrap ((i : Int) + 1) = (i : Int) + 1 := wrap_i64 (by omega) (by omega)
    have hiN : i < IL.length := by omega
    have hgi : IL[i] = impD imps[i] := get_opt (hG1 i hi') hiN
    have him : impD imps[i] = [S imps[i].pkg, I imps[i].major, S imps[i].mod, S imps[i].as_] := rfl
    have hmem := List.getElem_mem hi'
    have hbad : impOkU imps[i] = false → (imps.all impOkU && lines.all lnOk) = false := fun h => by
      rw [show imps.all impOkU = false from List.all_eq_false.2 ⟨_, hmem, by simp [h]⟩]; rfl
    have hok : impOkU imps[i] = (smallN imps[i].pkg && smallN imps[i].mod && smallN imps[i].as_ && decide (1 ≤ imps[i].major) && decide (imps[i].major ≤ 999999999)) := rfl
    simp -dsimp [I, S, Tt, e0, set_ne, a1, a2, hL1, hi, hi', hiN, hgi, him]
    refine pcall (cRSm imps[i].pkg) ?_
    simp -dsimp [I, S, Tt, set_ne, a1, a2]
    refine pcall (cRSm imps[i].mod) ?_
    simp -dsimp [I, S, Tt, set_ne, a1, a2]
    refine pcall (cRSm imps[i].as_) ?_
    cases e1 : smallN imps[i].pkg
    · simp -dsimp [I, S, Tt]
      exact pcq (by rw [hbad (by simp [hok, e1])]) (frn _)
    cases e2 : smallN imps[i].mod
    · simp -dsimp [I, S, Tt]
      exact pcq (by rw [hbad (by simp [hok, e1, e2])]) (frn _)
    cases e3 : smallN imps[i].as_
    · simp -dsimp [I, S, Tt]
      exact pcq (by rw [hbad (by simp [hok, e1, e2, e3])]) (frn _)
    by_cases h4 : imps[i].major < 1
    · simp -dsimp [I, S, Tt, h4]
      exact pcq (by rw [hbad (by simp [hok]; try omega)]) (frn _)
    by_cases h5 : 999999999 < imps[i].major
    · simp -dsimp [I, S, Tt, h4, h5]
      exact pcq (by rw [hbad (by simp [hok]; try omega)]) (frn _)
    simp -dsimp [I, S, Tt, h4, h5, wi]
    refine rnd (i + 1) (by omega) (by simp [I]) ⟨fun j hj => by rw [set_ne _ _ _ _ (by omega)]; exact hm2 j hj, by omega, by omega, ?_⟩
    intro x hx
    rw [List.take_succ_eq_append_getElem hi'] at hx
    rcases List.mem_append.1 hx with hx | hx
    · exact al x hx
    · simp at hx; rw [hx]; simp [hok, e1, e2, e3]; try omega
  · have : imps.take i = imps := List.take_of_length_le (by omega)
    rw [this] at al
    have hall : imps.all impOkU = true := List.all_eq_true.2 al
    rw [hall, Bool.true_and]
    simp -dsimp [I, S, Tt, e0, hL1, hi]
    refine vloop_as (β := Nat) (fun i => [(1, .ptr n 0 0 0), (8, I i)]) (fun i m2 n2 => (∀ j, j < n + 1 → m2 j = (m.set n ⟨2, [[.sl 4 IL, .sl 10 DL]], 0⟩) j) ∧ n + 1 ≤ n2 ∧ i ≤ lines.length ∧ ∀ d ∈ lines.take i, lnOk d = true) (fun i => lines.length - i) 0 (by simp [I]) ⟨hm2, by omega, by omega, by simp⟩ ?_
    clear al hm2 nn le hi this e0 frn a1 a2
    clear n2 m2 i
    rintro i m2 n2 ⟨hm2, nn, le, al⟩
    have e0 : m2 n = some ⟨2, [[.sl 4 IL, .sl 10 DL]], 0⟩ := by rw [hm2 n (by omega)]; simp
    have frn : ∀ o j, j < n → (m2.set n2 o) j = m j := fun o j hj => by rw [set_ne _ _ _ _ (by omega), hm2 j (by omega), set_ne _ _ _ _ (by omega)]
    have a1 : n2 ≠ n := by omega
    have a2 : n ≠ n2 := by omega
    by_cases hi : (i : Int) < lines.length
    · have hi' : i < lines.length := by omega
      have wi : IntKind.i64.wrap ((i : Int) + 1) = (i : Int) + 1 := wrap_i64 (by omega) (by omega)
      have hiN : i < DL.length := by omega
      have hgi : DL[i] = lnD lines[i] := get_opt (hG2 i hi') hiN
      have him : lnD lines[i] = I lines[i].kind :: S lines[i].mod :: S lines[i].name :: tyD lines[i].typ := rfl
      have hmem := List.getElem_mem hi'
      have hc := fun m n => cRMay (q4 _ hmem).h3 (by have := few3_manyU (hfp _ hmem); omega) m n
      have h7 := tyD_len lines[i].typ
      have hbad : lnOk lines[i] = false → lines.all lnOk = false := fun h => by
        rw [List.all_eq_false]; exact ⟨_, hmem, by simp [h]⟩
      have hok : lnOk lines[i] = (((decide (lines[i].kind = 1) && smallN lines[i].name) || (decide (lines[i].kind = 2) && greatN lines[i].name)) && smallN lines[i].mod && mayT lines[i].typ) := rfl
      generalize tyD lines[i].typ = TT at h7 him hc
      have ht7 : List.take 7 TT = TT := List.take_of_length_le (by omega)
      have nxt : lnOk lines[i] = true → ∀ x ∈ lines.take (i + 1), lnOk x = true := by
        intro h x hx
        rw [List.take_succ_eq_append_getElem hi'] at hx
        rcases List.mem_append.1 hx with hx | hx
        · exact al x hx
        · simp at hx; rw [hx]; exact h
      simp -dsimp [I, S, Tt, e0, set_ne, a1, a2, hL2, hi, hi', hiN, hgi, him, h7, ht7]
      refine pcall (cRSm lines[i].name) ?_
      simp -dsimp [I, S, Tt, set_ne, a1, a2]
      refine pcall (cRGr lines[i].name) ?_
      simp -dsimp [I, S, Tt, set_ne, a1, a2]
      refine pcall (cRSm lines[i].mod) ?_
      simp -dsimp [I, S, Tt, set_ne, a1, a2, h7, ht7]
      refine pcall hc ?_
      cases e1 : smallN lines[i].mod
      · simp -dsimp [I, S, Tt]
        exact pcq (by rw [hbad (by simp [hok, e1])]) (frn _)
      cases e2 : mayT lines[i].typ
      · simp -dsimp [I, S, Tt]
        exact pcq (by rw [hbad (by simp [hok, e1, e2])]) (frn _)
      by_cases k1 : lines[i].kind = 1
      · cases e3 : smallN lines[i].name
        · simp -dsimp [I, S, Tt, k1]
          exact pcq (by rw [hbad (by simp [hok, e1, e2, e3, k1])]) (frn _)
        · simp -dsimp [I, S, Tt, k1, wi]
          exact rnd (i + 1) (by omega) (by simp [I]) ⟨fun j hj => by rw [set_ne _ _ _ _ (by omega)]; exact hm2 j hj, by omega, by omega, nxt (by simp [hok, e1, e2, e3, k1])⟩
      · have k1' : (lines[i].kind == 1) = false := by simp [k1]
        by_cases k2 : lines[i].kind = 2
        · cases e3 : greatN lines[i].name
          · simp -dsimp [I, S, Tt, k1', k2]
            exact pcq (by rw [hbad (by simp [hok, e1, e2, e3, k2])]) (frn _)
          · simp -dsimp [I, S, Tt, k1', k2, wi]
            exact rnd (i + 1) (by omega) (by simp [I]) ⟨fun j hj => by rw [set_ne _ _ _ _ (by omega)]; exact hm2 j hj, by omega, by omega, nxt (by simp [hok, e1, e2, e3, k2])⟩
        · have k2' : (lines[i].kind == 2) = false := by simp [k2]
          simp -dsimp [I, S, Tt, k1', k2']
          exact pcq (by rw [hbad (by simp [hok, e1, e2, k1, k2])]) (frn _)
    · have : lines.take i = lines := List.take_of_length_le (by omega)
      rw [this] at al
      have hall : lines.all lnOk = true := List.all_eq_true.2 al
      simp -dsimp [I, S, Tt, e0, hL2, hi]
      exact pcq (by rw [hall]) fun j hj => by rw [hm2 j (by omega), set_ne _ _ _ _ (by omega)]
end Go.Proofs.Mv.App
open Go Go.Proofs Go.Proofs.Mv.V
set_option maxRecDepth 10000
namespace Go.Proofs.Mv.App
def fewN (l : List Nm) : Bool := l.all fun x => few3 x.2
def fewI (f : Ifc) : Bool := decide (f.types.length ≤ 200) && decide (f.vals.length ≤ 200) && fewN f.types && fewN f.vals
def fewE (env : List Ifc) : Bool := decide (env.length ≤ 200) && env.all fewI
theorem fewE_len {env : List Ifc} (h : fewE env = true) : env.length ≤ 200 := by
  simp only [fewE, Bool.and_eq_true, decide_eq_true_eq] at h; exact h.1
theorem fewE_mem {env : List Ifc} (h : fewE env = true) : ∀ f ∈ env, f.types.length ≤ 200 ∧ f.vals.length ≤ 200 ∧ (∀ x ∈ f.types, manyT x.2 ≤ 3000) ∧ ∀ x ∈ f.vals, manyT x.2 ≤ 3000 := fun f hf => by
  simp only [fewE, fewI, fewN, Bool.and_eq_true, decide_eq_true_eq, List.all_eq_true] at h
  obtain ⟨⟨⟨h1, h2⟩, h3⟩, h4⟩ := h.2 f hf
  exact ⟨h1, h2, fun x hx => few3_manyU (h3 x hx), fun x hx => few3_manyU (h4 x hx)⟩
theorem all_no {α : Type} {q : α → Bool} {l : List α} {x : α} (hx : x ∈ l) (h : q x = false) : l.all q = false := List.all_eq_false.2 ⟨x, hx, by simp [h]⟩
theorem all_next {α : Type} {q : α → Bool} {l : List α} {i : Nat} (h : i < l.length) (al : ∀ x ∈ l.take i, q x = true) (e : q l[i] = true) : ∀ x ∈ l.take (i + 1), q x = true := fun x hx => by
  rw [List.take_succ_eq_append_getElem h] at hx
  rcases List.mem_append.1 hx with hx | hx
  · exact al x hx
  · simp at hx; rw [hx]; exact e
theorem all_fin {α : Type} {q : α → Bool} {l : List α} {i : Nat} (h : l.length ≤ i) (al : ∀ x ∈ l.take i, q x = true) : l.all q = true := by
  rw [List.take_of_length_le h] at al; exact List.all_eq_true.2 al
set_option maxHeartbeats 4000000 in
theorem cRFewE {env : List Ifc} (hw : ∀ f ∈ env, IfcW f) : Pc Tryz.prog 7 [.sl 5 (env.map ifD)] (Tt (fewE env)) := by
  refine pc_of (pur_T _) (fun m n => ?_)
  have hL : (env.map ifD).length = env.length := by simp
  have hG : ∀ i (h : i < env.length), (env.map ifD)[i]? = some (ifD env[i]) := fun i h => by simp [h]
  have hfe : fewE env = (decide (env.length ≤ 200) && env.all fewI) := rfl
  rw [hfe]
  generalize env.map ifD = EL at hL hG
  refine acalls_vc [0, 2, 3, 4, 5, 6, 7, 10, 14, 32, 40, 54, 62, 76] Tryz.func7 Tryz.ntmps7 (by kernel_rfl) rfl rfl (by simp) ?_
  by_cases c : (200 : Int) < env.length
  · simp -dsimp [I, S, Tt, hL, c]
    exact pcq' (by simp [Tt, show ¬ env.length ≤ 200 by omega])
  rw [show decide (env.length ≤ 200) = true by simp; omega, Bool.true_and]
  simp -dsimp [I, S, Tt, hL, c]
  refine vloop_as (β := Nat) (fun i => [(0, .sl 5 EL), (3, I i)]) (fun i m2 n2 => m2 = m ∧ n2 = n ∧ i ≤ env.length ∧ ∀ f ∈ env.take i, fewI f = true) (fun i => env.length - i) 0 (by simp [I]) ⟨rfl, rfl, by omega, by simp⟩ ?_
  rintro i m2 n2 ⟨rfl, rfl, le, al⟩
  by_cases hi : (i : Int) < env.length
  · have hi' : i < env.length := by omega
    have wi : IntKind.i64.wrap ((i : Int) + 1) = (i : Int) + 1 := wrap_i64 (by omega) (by omega)
    have hiN : i < EL.length := by omega
    have hgi : EL[i] = ifD env[i] := get_opt (hG i hi') hiN
    have hmem := List.getElem_mem hi'
    have him : ifD env[i] = [S env[i].pkg, I env[i].major, S env[i].mod, .sl 8 (env[i].types.map nnD), .sl 8 (env[i].vals.map nnD)] := rfl
    have hwf := hw _ hmem
    have hno : fewI env[i] = false → env.all fewI = false := fun h => all_no hmem h
    have hnx := fun h => all_next (q := fewI) hi' al h
    have hfi : fewI env[i] = (decide (env[i].types.length ≤ 200) && decide (env[i].vals.length ≤ 200) && fewN env[i].types && fewN env[i].vals) := rfl
    clear al
    obtain ⟨w1, w2, w3, w4, w5, w6⟩ := hwf
    generalize env[i].types = T1 at *
    generalize env[i].vals = V1 at *
    have hL1 : (T1.map nnD).length = T1.length := by simp
    have hG1 : ∀ i (h : i < T1.length), (T1.map nnD)[i]? = some (nnD T1[i]) := fun i h => by simp [h]
    have hL2 : (V1.map nnD).length = V1.length := by simp
    have hG2 : ∀ i (h : i < V1.length), (V1.map nnD)[i]? = some (nnD V1[i]) := fun i h => by simp [h]
    generalize T1.map nnD = TL at hL1 hG1 him
    generalize V1.map nnD = VL at hL2 hG2 him
    by_cases c1 : (200 : Int) < T1.length
    · simp -dsimp [I, S, Tt, hL, hi, hi', hiN, hgi, him, hL1, hL2, c1]
      exact pcq' (by rw [hno (by rw [hfi]; simp [show ¬ T1.length ≤ 200 by omega])])
    by_cases c2 : (200 : Int) < V1.length
    · simp -dsimp [I, S, Tt, hL, hi, hi', hiN, hgi, him, hL1, hL2, c1, c2]
      exact pcq' (by rw [hno (by rw [hfi]; simp [show ¬ V1.length ≤ 200 by omega])])
    rw [show decide (T1.length ≤ 200) = true by simp; omega, show decide (V1.length ≤ 200) = true by simp; omega, Bool.true_and, Bool.true_and] at hfi
    simp -dsimp [I, S, Tt, hL, hi, hi', hiN, hgi, him, hL1, hL2, c1, c2]
    refine vloop_as (β := Nat) (fun k => [(0, .sl 5 EL), (3, I i), (4, I k)]) (fun k m3 n3 => m3 = m2 ∧ n3 = n2 ∧ k ≤ T1.length ∧ ∀ x ∈ T1.take k, few3 x.2 = true) (fun k => T1.length - k) 0 (by simp [I]) ⟨rfl, rfl, by omega, by simp⟩ ?_
    rintro k m3 n3 ⟨rfl, rfl, le1, al1⟩
    by_cases hk : (k : Int) < T1.length
    · have hk' : k < T1.length := by omega
      have wk : IntKind.i64.wrap ((k : Int) + 1) = (k : Int) + 1 := wrap_i64 (by omega) (by omega)
      have hkN : k < TL.length := by omega
      have hgk : TL[k] = nnD T1[k] := get_opt (hG1 k hk') hkN
      have hkm : nnD T1[k] = S T1[k].1 :: tyD T1[k].2 := rfl
      have hc := fun m n => cFewT (w3 _ (List.getElem_mem hk')).h2 m n
      have hn1 : few3 T1[k].2 = false → fewN T1 = false := fun h => all_no (q := fun x : Nm => few3 x.2) (List.getElem_mem hk') h
      have hx1 := fun h => all_next (q := fun x : Nm => few3 x.2) hk' al1 h
      have h7 := tyD_len T1[k].2
      generalize tyD T1[k].2 = TT at h7 hkm hc
      have ht7 : List.take 7 TT = TT := List.take_of_length_le (by omega)
      simp -dsimp [I, S, Tt, hL, hi, hi', hiN, hgi, him, hL1, hk, hk', hkN, hgk, hkm, h7, ht7]
      refine pcall hc ?_
      cases e : few3 T1[k].2 with
      | false =>
        simp -dsimp [I, S, Tt]
        exact pcq' (by rw [hno (by rw [hfi, hn1 e]; rfl)])
      | true =>
        simp -dsimp [I, S, Tt, wk]
        exact rnd (k + 1) (by omega) (by simp [I]) ⟨rfl, rfl, by omega, hx1 e⟩
    · have hT1 : fewN T1 = true := all_fin (q := fun x : Nm => few3 x.2) (by omega) al1
      rw [hT1, Bool.true_and] at hfi
      simp -dsimp [I, S, Tt, hL, hi, hi', hiN, hgi, him, hL1, hk]
      refine vloop_as (β := Nat) (fun k => [(0, .sl 5 EL), (3, I i), (6, I k)]) (fun k m4 n4 => m4 = m3 ∧ n4 = n3 ∧ k ≤ V1.length ∧ ∀ x ∈ V1.take k, few3 x.2 = true) (fun k => V1.length - k) 0 (by simp [I]) ⟨rfl, rfl, by omega, by simp⟩ ?_
      clear hk al1 le1 k
      rintro k m4 n4 ⟨rfl, rfl, le1, al1⟩
      by_cases hk : (k : Int) < V1.length
      · have hk' : k < V1.length := by omega
        have wk : IntKind.i64.wrap ((k : Int) + 1) = (k : Int) + 1 := wrap_i64 (by omega) (by omega)
        have hkN : k < VL.length := by omega
        have hgk : VL[k] = nnD V1[k] := get_opt (hG2 k hk') hkN
        have hkm : nnD V1[k] = S V1[k].1 :: tyD V1[k].2 := rfl
        have hc := fun m n => cFewT (w4 _ (List.getElem_mem hk')).h2 m n
        have hn1 : few3 V1[k].2 = false → fewN V1 = false := fun h => all_no (q := fun x : Nm => few3 x.2) (List.getElem_mem hk') h
        have hx1 := fun h => all_next (q := fun x : Nm => few3 x.2) hk' al1 h
        have h7 := tyD_len V1[k].2
        generalize tyD V1[k].2 = TT at h7 hkm hc
        have ht7 : List.take 7 TT = TT := List.take_of_length_le (by omega)
        simp -dsimp [I, S, Tt, hL, hi, hi', hiN, hgi, him, hL2, hk, hk', hkN, hgk, hkm, h7, ht7]
        refine pcall hc ?_
        cases e : few3 V1[k].2 with
        | false =>
          simp -dsimp [I, S, Tt]
          exact pcq' (by rw [hno (by rw [hfi, hn1 e])])
        | true =>
          simp -dsimp [I, S, Tt, wk]
          exact rnd (k + 1) (by omega) (by simp [I]) ⟨rfl, rfl, by omega, hx1 e⟩
      · have hV1 : fewN V1 = true := all_fin (q := fun x : Nm => few3 x.2) (by omega) al1
        simp -dsimp [I, S, Tt, hL, hi, hi', hiN, hgi, him, hL2, hk, wi]
        exact rnd (i + 1) (by omega) (by simp [I]) ⟨rfl, rfl, by omega, hnx (by rw [hfi, hV1])⟩
  · have hall : env.all fewI = true := all_fin (by omega) al
    simp -dsimp [I, S, Tt, hL, hi]
    exact pcq' (by rw [hall])
end Go.Proofs.Mv.App
open Go Go.Proofs Go.Proofs.Mv.V
set_option maxRecDepth 10000
namespace Go.Proofs.Mv.App
theorem chkD_nil {r : Int × Int} (h : r.1 = 0) : chkD r = nilE := by unfold chkD; rw [if_pos h]
theorem chkD_ne {r : Int × Int} (h : ¬ r.1 = 0) : ∃ t v, chkD r = .iface t v := by
  unfold chkD
  rw [if_neg h]
  split
  · exact ⟨_, _, rfl⟩
  · exact ⟨_, _, rfl⟩
structure LsA (x : Us) (env : List Ifc) (y : Ifc) (a : Int) (m : Mem) (n : Nat) (σ : Nat → D) (m2 : Mem) (n2 : Nat) : Prop where
  h1 : σ 1 = .sl 5 (env.map ifD)
  h3 : σ 3 = I a
  h4 : σ 4 = .ptr n 0 0 0
  h6 : σ 6 = .ptr (n + 1) 0 0 0
  h9 : σ 9 = Tt true
  h10 : σ 10 = Tt (fewU x)
  h11 : σ 11 = Tt (fewE (env ++ [y]))
  m0 : m2 n = some ⟨2, [usD x], 0⟩
  m1 : m2 (n + 1) = some ⟨5, [ifD y], 0⟩
  fr : ∀ j, j < n → m2 j = m j
  nn : n + 1 + 1 ≤ n2
structure LsA2 (x : Us) (env : List Ifc) (y : Ifc) (m : Mem) (n : Nat) (σ : Nat → D) (m2 : Mem) (n2 : Nat) : Prop where
  h1 : σ 1 = .sl 5 (env.map ifD)
  h3 : ∃ b : Nat, (b : Int) ≤ 9223372036854775807 ∧ σ 3 = I b
  h4 : σ 4 = .ptr n 0 0 0
  h6 : σ 6 = .ptr (n + 1) 0 0 0
  h9 : σ 9 = Tt true
  m0 : m2 n = some ⟨2, [usD x], 0⟩
  m1 : m2 (n + 1) = some ⟨5, [ifD y], 0⟩
  fr : ∀ j, j < n → m2 j = m j
  nn : n + 1 + 1 ≤ n2
structure LsB (x : Us) (env : List Ifc) (y : Ifc) (k : Nat) (m : Mem) (n : Nat) (σ : Nat → D) (m2 : Mem) (n2 : Nat) : Prop where
  h1 : σ 1 = .sl 5 (env.map ifD)
  h4 : σ 4 = .ptr n 0 0 0
  h6 : σ 6 = .ptr (n + 1) 0 0 0
  h9 : σ 9 = Tt true
  m0 : m2 n = some ⟨2, [usD x], 0⟩
  m1 : m2 (n + 1) = some ⟨5, [ifD y], 0⟩
  fr : ∀ j, j < n → m2 j = m j
  nn : n + 1 + 1 ≤ n2
  ex : ∃ q dL, σ 14 = .ptr q 0 0 0 ∧ n + 1 < q ∧ q < n2 ∧ m2 q = some ⟨2, [[.sl 4 (x.imps.map impD), dL]], 0⟩ ∧ Lst m2 10 ((x.lines.take k ++ x.lines.drop (k + 1)).map lnD) dL ∧ ∀ j, kof dL = some j → n + 1 < j ∧ j < n2 ∧ j ≠ q
structure LsC (m : Mem) (n : Nat) (σ : Nat → D) (m2 : Mem) (n2 : Nat) : Prop where
  h9 : σ 9 = Tt true
  h15 : σ 15 = nilE
  h16 : σ 16 = nilE
  fr : ∀ j, j < n → m2 j = m j
set_option maxHeartbeats 4000000 in
theorem cUsesLess (hup : Pc Tryz.prog 5 [] (Tt true)) {x : Us} {env : List Ifc} {y : Ifc} {a : Int} (hx : UsW x) (hw : ∀ f ∈ env, IfcW f) (hy : IfcW y) (hel : (env.length + 1) * 88 ≤ 140737488355328) (ha0 : -9223372036854775808 ≤ a) (ha1 : a ≤ 9223372036854775807) :
    Pc Tryz.prog 4 [.agg (usD x), .sl 5 (env.map ifD), .agg (ifD y), I a] (Tt true) := by
  refine pc_of (pur_T _) (fun m n => ?_)
  have hw2 : ∀ f ∈ env ++ [y], IfcW f := fun f hf => by
    rcases List.mem_append.1 hf with h | h
    · exact hw f h
    · simp at h; rw [h]; exact hy
  have c1 := cRUFew hx
  have c2 := cRFewE hw2
  rw [List.map_append] at c2
  simp only [List.map_cons, List.map_nil] at c2
  have hL : (env.map ifD).length = env.length := by simp
  have hP := fun (e : List D) (h : e ∈ env.map ifD ++ [ifD y]) (d : D) (hd : d ∈ e) => (by
    rcases List.mem_append.1 h with h | h
    · obtain ⟨i, _, rfl⟩ := List.mem_map.1 h; exact pur_if i d hd
    · simp at h; subst h; exact pur_if y d hd : Pur d)
  have hz : (usD x).length = 2 := rfl
  have htz : List.take 2 (usD x) = usD x := rfl
  have hzy : (ifD y).length = 5 := rfl
  have hty : List.take 5 (ifD y) = ifD y := rfl
  have e01 : n ≠ n + 1 := by omega
  have e10 : n + 1 ≠ n := by omega
  refine acalls_vc [0, 1, 2, 3, 4, 6, 8, 9, 10, 11, 12, 13, 14, 15, 16, 43, 49, 52] Tryz.func4 Tryz.ntmps4 (by kernel_rfl) rfl rfl (by simp) ?_
  rw [vc_seq]
  simp -dsimp [hz, htz, hzy, e01, e10, set_ne, -vc_seq]
  rw [vc_seq]
  simp -dsimp [hz, htz, hzy, e01, e10, set_ne, -vc_seq]
  refine pcall hup ?_
  simp -dsimp [hz, htz, hzy, e01, e10, set_ne, Tt, -vc_seq]
  rw [vc_seq]
  simp -dsimp [hz, htz, hzy, e01, e10, set_ne, Tt, -vc_seq]
  refine pcall c1 ?_
  simp -dsimp [hz, htz, hzy, e01, e10, set_ne, Tt, -vc_seq]
  rw [vc_seq]
  refine vc_mid (LsA x env y a m n) ?_ ?_
  · simp -dsimp [Tt]
    refine vdraw_tree [0, 0, 3, 0, 8, 31, 63, 127] (.rd 1 (.rd 3 (.wr (.cons 0 (.wr (.cons 2 (.wr (.cons 4 (.wr (.cons 5 (.wr (.cons 6 (.rd 7 (.fin)) (.nil))) (.nil))) (.nil))) (.cons 4 (.wr (.cons 2 (.wr (.cons 5 (.wr (.cons 6 (.rd 7 (.fin)) (.nil))) (.nil))) (.nil))) (.nil)))) (.cons 4 (.wr (.cons 0 (.wr (.cons 2 (.wr (.cons 5 (.wr (.cons 6 (.rd 7 (.fin)) (.nil))) (.nil))) (.nil))) (.nil))) (.nil)))))) (by kernel_rfl) (by kernel_rfl) ?_
    have key : ∀ (g q : Nat) (m2 : Mem), n + 1 < q → m2 q = some ⟨5, env.map ifD ++ [ifD y], g⟩ → ∀ K : D → Mem → Nat → Prop, ∀ n2, (∀ m3, (∀ j, j ≠ q → m3 j = m2 j) → K (Tt (fewE (env ++ [y]))) m3 n2) → aCall Tryz.prog 7 [.own q g 0 (env.length + 1) 5] m2 n2 K tg := by
      intro g q m2 hq hm K n2 hk
      refine aCall_pubS (pre := []) (post := []) (Lst.mk (es := env.map ifD ++ [ifD y]) hm (by simp) (by simp) (List.take_of_length_le (by simp))) hP (by simp) (by simp) fun m3 h3 => ?_
      refine pcall c2 ?_
      exact hk m3 fun j hj => h3 j (by rw [kof_own]; intro e; exact hj (Option.some.inj e).symm)
    simp -dsimp [hz, htz, hzy, hty, e01, e10, set_ne, Tt]
    refine ⟨⟨⟨by omega, by omega, ?_⟩, ⟨by omega, by omega, ?_⟩⟩, ⟨by omega, by omega, ?_⟩⟩
    all_goals
      refine key _ _ _ (by omega) (by simp) _ _ fun m3 h3 => ?_
      simp -dsimp [hz, htz, hzy, hty, e01, e10, set_ne, Tt]
      have hh : ∀ j, j < n + 1 + 1 → m3 j = ((m.set n ⟨2, [usD x], 0⟩).set (n + 1) ⟨5, [ifD y], 0⟩) j := fun j hj => by
        rw [h3 j (by omega)]
        repeat rw [set_ne _ _ _ _ (show j ≠ n + 1 + 1 by omega)]
        repeat rw [set_ne _ _ _ _ (show j ≠ n + 1 + 1 + 1 by omega)]
        repeat rw [set_ne _ _ _ _ (show j ≠ n + 1 + 1 by omega)]
      exact ⟨by simp, by simp [I], by simp, by simp, by simp [Tt], by simp [Tt], by simp [Tt], by rw [hh n (by omega), set_ne _ _ _ _ e01]; simp, by rw [hh (n + 1) (by omega)]; simp, fun j hj => by rw [hh j (by omega), set_ne _ _ _ _ (by omega), set_ne _ _ _ _ (by omega)], by omega⟩
  rintro σ m2 n2 ⟨h1, h3, h4, h6, h9, h10, h11, m0, m1, fr, nn⟩
  cases hf : fewU x with
  | false =>
    rw [hf] at h10
    simp -dsimp [h9, h10, Tt]
    exact pcq rfl fr
  | true =>
  cases hfe : fewE (env ++ [y]) with
  | false =>
    rw [hf] at h10
    rw [hfe] at h11
    simp -dsimp [h9, h10, h11, Tt]
    exact pcq rfl fr
  | true =>
  rw [hf] at h10
  rw [hfe] at h11
  have hLl : (x.lines.map lnD).length = x.lines.length := by simp
  have hfp := fewU_parts hf
  have hus : usD x = [.sl 4 (x.imps.map impD), .sl 10 (x.lines.map lnD)] := rfl
  have hel2 := fewE_len hfe
  simp at hel2
  have c3 := cCheckU (x := x) (env := env) hx (by omega) (by omega) (by omega) hw
  by_cases c0 : x.lines.length = 0
  · have c0' : (x.lines.length : Int) = 0 := by omega
    rw [hus] at m0
    simp -dsimp [h1, h4, h9, h10, h11, Tt, I, m0, hLl, c0, c0', hL]
    exact pcq rfl fr
  have c0' : ¬ (x.lines.length : Int) = 0 := by omega
  have c0b : ((x.lines.length : Int) == 0) = false := by simpa using c0'
  by_cases c99 : (99 : Int) < env.length
  · rw [hus] at m0
    simp -dsimp [h1, h4, h9, h10, h11, Tt, I, m0, hLl, c0b, c99, hL]
    exact pcq rfl fr
  rw [hus] at m0 c3
  rw [vc_seq, vc_seq]
  simp -dsimp [h1, h4, h9, h10, h11, Tt, I, m0, hLl, c0b, c99, hL, -vc_seq]
  rw [vc_seq]
  simp -dsimp [h1, h4, h9, h10, h11, Tt, I, m0, hLl, c0b, c99, hL, -vc_seq]
  refine pcall c3 ?_
  by_cases ok : (chkU x env).1 = 0
  case neg =>
    obtain ⟨t, v, hv⟩ := chkD_ne ok
    rw [hv]
    simp -dsimp [h1, h4, h9, h10, h11, Tt, I, m0, hLl, c0b, c99, hL]
    exact pcq rfl fr
  have hok := chk_iff.1 ok
  rw [chkD_nil ok]
  simp -dsimp [h1, h4, h9, h10, h11, Tt, I, m0, hLl, c0b, c99, hL, -vc_seq, nilE]
  rw [vc_seq, vc_seq]
  simp -dsimp [h1, h4, h9, h10, h11, Tt, I, m0, hLl, c0b, c99, hL, -vc_seq, nilE]
  rw [vc_seq]
  refine vc_mid (LsA2 x env y m n) ?_ ?_
  · by_cases ca : a < 0
    · have w1 : IntKind.i64.wrap (a + 1) = a + 1 := wrap_i64 (by omega) (by omega)
      have w2 : IntKind.i64.wrap (-(a + 1)) = -(a + 1) := wrap_i64 (by omega) (by omega)
      simp -dsimp [h1, h3, h4, h9, I, ca, w1, w2]
      refine ⟨by simp [h1], ⟨(-(a + 1)).toNat, by omega, ?_⟩, by simp [h4], by simp [h6], by simp [h9, Tt], by rw [hus]; exact m0, m1, fr, nn⟩
      rw [Int.toNat_of_nonneg (by omega)]; simp [I]
    · simp -dsimp [h1, h3, h4, h9, I, ca]
      refine ⟨by simp [h1], ⟨a.toNat, by omega, ?_⟩, by simp [h4], by simp [h6], by simp [h9, Tt], by rw [hus]; exact m0, m1, fr, nn⟩
      rw [Int.toNat_of_nonneg (by omega)]; simp [I, h3]
  clear h1 h3 h4 h6 h9 h10 h11 m0 m1 fr nn σ m2 n2
  rintro σ m2 n2 ⟨h1, ⟨b, hb, h3⟩, h4, h6, h9, m0, m1, fr, nn⟩
  rw [vc_seq]
  rw [hus] at m0
  simp -dsimp [h1, h3, h4, h9, Tt, I, m0, hLl, c0b, hL, -vc_seq]
  refine ⟨by intro e; simp [e] at c0, ?_⟩
  rw [vc_seq]
  obtain ⟨k, hkd⟩ : ∃ k, k = b % x.lines.length := ⟨_, rfl⟩
  have hk1 : k < x.lines.length := by rw [hkd]; exact Nat.mod_lt _ (by omega)
  refine vc_mid (LsB x env y k m n) ?_ ?_
  · have hk3 : (b : Int) % (x.lines.length : Int) = (k : Int) := by rw [hkd]; simp
    have hk2 : Int.tmod (b : Int) (x.lines.length : Int) = (k : Int) := by
      rw [Int.tmod_eq_emod_of_nonneg (by omega), hk3]
    simp -dsimp [h1, h3, h4, h9, Tt, I, m0, hLl, hL, hk2, hk3]
    have wk : IntKind.i64.wrap ((k : Int) + 1) = (k : Int) + 1 := wrap_i64 (by omega) (by omega)
    have tk : ((k : Int) + 1).toNat = k + 1 := by omega
    have mk : min k x.lines.length = k := by omega
    have mk2 : k + (x.lines.length - (k + 1)) = x.lines.length - 1 := by omega
    have b1 : (k : Int) ≤ x.lines.length := by omega
    have b2 : (k : Int) + 1 ≤ x.lines.length := by omega
    have b3 : (0 : Int) ≤ (k : Int) + 1 := by omega
    have a1 : n ≠ n2 := by omega
    have a2 : n2 ≠ n := by omega
    have a3 : n ≠ n2 + 1 := by omega
    have a4 : n2 + 1 ≠ n := by omega
    have a5 : n2 ≠ n2 + 1 := by omega
    have a6 : n2 + 1 ≠ n2 := by omega
    have fin : ∀ (σ' : Nat → D) (q c : Nat) (m3 : Mem) (n3 : Nat), σ' 1 = .sl 5 (env.map ifD) → σ' 4 = .ptr n 0 0 0 → σ' 6 = .ptr (n + 1) 0 0 0 → σ' 9 = Tt true → σ' 14 = .ptr q 0 0 0 → n2 ≤ q → n2 ≤ c → q < n3 → c < n3 → c ≠ q →
        m3 c = some ⟨10, List.take k (List.take k (x.lines.map lnD)) ++ List.drop (k + 1) (x.lines.map lnD), 2⟩ → m3 q = some ⟨2, [[.sl 4 (x.imps.map impD), .own c 2 0 (x.lines.length - 1) 10]], 0⟩ → (∀ j, j < n2 → m3 j = m2 j) → LsB x env y k m n σ' m3 n3 := by
      intro σ' q c m3 n3 g1 g4 g6 g9 g14 q1 q2 q3 q4 q5 q6 q7 q8
      have el : List.take k (List.take k (x.lines.map lnD)) ++ List.drop (k + 1) (x.lines.map lnD) = (x.lines.take k ++ x.lines.drop (k + 1)).map lnD := by
        rw [List.map_append, List.map_take, List.map_drop, List.take_take, Nat.min_self]
      rw [el] at q6
      have ez : x.lines.length - 1 = ((x.lines.take k ++ x.lines.drop (k + 1)).map lnD).length := by
        simp only [List.length_map, List.length_append, List.length_take, List.length_drop]; omega
      exact ⟨g1, g4, g6, g9, by rw [q8 _ (by omega), hus]; exact m0, by rw [q8 _ (by omega)]; exact m1, fun j hj => by rw [q8 _ (by omega)]; exact fr j hj, by omega,
        q, _, g14, by omega, q3, q7, Lst.mk q6 ez (by rw [← ez]; rw [ez]; exact Nat.le_refl _) (List.take_of_length_le (by rw [ez]; exact Nat.le_refl _)), fun j hj => by
          rw [kof_own] at hj; obtain rfl := Option.some.inj hj; exact ⟨by omega, q4, q5⟩⟩
    refine vdraw_tree [0, 1, 0, 0, 8, 0, 56, 124, 0, 256, 0, 1024, 3840, 8188, 16383, 0, 65535] (.rd 0 (.rd 1 (.rd 3 (.rd 4 (.rd 5 (.rd 6 (.rd 8 (.rd 9 (.rd 10 (.rd 11 (.rd 12 (.wr (.cons 2 (.wr (.cons 7 (.wr (.cons 13 (.rd 14 (.wr (.cons 15 (.wr (.cons 16 (.fin) (.nil))) (.nil)))) (.cons 15 (.wr (.cons 13 (.rd 14 (.wr (.cons 16 (.fin) (.nil)))) (.nil))) (.nil)))) (.cons 15 (.wr (.cons 7 (.wr (.cons 13 (.rd 14 (.wr (.cons 16 (.fin) (.nil)))) (.nil))) (.nil))) (.nil)))) (.cons 15 (.wr (.cons 2 (.wr (.cons 7 (.wr (.cons 13 (.rd 14 (.wr (.cons 16 (.fin) (.nil)))) (.nil))) (.nil))) (.nil))) (.nil))))))))))))))) (by kernel_rfl) (by kernel_rfl) ?_
    simp -dsimp [h1, h3, h4, h9, Tt, I, m0, hLl, hL, wk, tk, mk, mk2, b1, b2, b3, hk2, hk3, a1, a2, a3, a4, a5, a6, set_ne]
    repeat' apply And.intro
    all_goals try omega
    · exact fin _ (n2 + 1) n2 _ _ (by simp) (by simp) (by simp [h6]) (by simp [Tt]) (by simp) (by omega) (by omega) (by omega) (by omega) (by omega) (by simp [set_ne, a5, a6]) (by simp [set_ne, a5, a6]) (fun j hj => by repeat rw [set_ne _ _ _ _ (by omega)])
    · exact fin _ (n2 + 1) n2 _ _ (by simp) (by simp) (by simp [h6]) (by simp [Tt]) (by simp) (by omega) (by omega) (by omega) (by omega) (by omega) (by simp [set_ne, a5, a6]) (by simp [set_ne, a5, a6]) (fun j hj => by repeat rw [set_ne _ _ _ _ (by omega)])
    · exact fin _ (n2 + 1) n2 _ _ (by simp) (by simp) (by simp [h6]) (by simp [Tt]) (by simp) (by omega) (by omega) (by omega) (by omega) (by omega) (by simp [set_ne, a5, a6]) (by simp [set_ne, a5, a6]) (fun j hj => by repeat rw [set_ne _ _ _ _ (by omega)])
    · exact fin _ n2 (n2 + 1) _ _ (by simp) (by simp) (by simp [h6]) (by simp [Tt]) (by simp) (by omega) (by omega) (by omega) (by omega) (by omega) (by simp [set_ne, a5, a6]) (by simp [set_ne, a5, a6]) (fun j hj => by repeat rw [set_ne _ _ _ _ (by omega)])
  clear h1 h3 h4 h6 h9 m0 m1 fr nn hkd hk1 σ m2 n2
  rintro σ m2 n2 ⟨h1, h4, h6, h9, m0, m1, fr, nn, q, dL, h14, q1, q2, q3, q4, q5⟩
  have hok1 := ok_less hok k
  have hx2 : UsW ⟨x.imps, x.lines.take k ++ x.lines.drop (k + 1)⟩ := ⟨hx.h1, by simp only [List.length_append, List.length_take, List.length_drop]; have := hx.h2; omega, hx.h3, fun d hd => by
    rcases List.mem_append.1 hd with h | h
    · exact hx.h4 d (List.mem_of_mem_take h)
    · exact hx.h4 d (List.mem_of_mem_drop h)⟩
  have c4 := cCheckU (x := ⟨x.imps, x.lines.take k ++ x.lines.drop (k + 1)⟩) (env := env) hx2 (by simp only; omega) (by simp only [List.length_append, List.length_take, List.length_drop]; omega) (by omega) hw
  rw [chkD_nil (chk_iff.2 hok1)] at c4
  have c5 := cCheckU (x := x) (env := env ++ [y]) hx (by omega) (by omega) (by simp; omega) hw2
  rw [chkD_nil (chk_iff.2 (ok_more y (by omega) hok))] at c5
  simp only [usD] at c4 c5
  rw [List.map_append (l₁ := env)] at c5
  simp only [List.map_cons, List.map_nil] at c5
  rw [vc_seq]
  have hlz := okD_lst q4
  have hPl : ∀ e ∈ (x.lines.take k ++ x.lines.drop (k + 1)).map lnD, ∀ d ∈ e, Pur d := pur_lns
  simp -dsimp [h1, h4, h9, h14, q3, Tt, I, -vc_seq]
  refine aCall_pubG (pre := [.sl 4 (x.imps.map impD)]) (post := []) q4 hPl (by simp; exact Pur.sl pur_imps) (by simp) (by simp; exact Pur.sl (fun e he => by obtain ⟨i, _, rfl⟩ := List.mem_map.1 he; exact pur_if i)) fun m3 h3 => ?_
  refine pcall c4 ?_
  have g0 : m3 n = some ⟨2, [usD x], 0⟩ := by rw [h3 n (fun e => by have := q5 n e; omega)]; exact m0
  have g1 : m3 (n + 1) = some ⟨5, [ifD y], 0⟩ := by rw [h3 (n + 1) (fun e => by have := q5 _ e; omega)]; exact m1
  have gf : ∀ j, j < n → m3 j = m j := fun j hj => by rw [h3 j (fun e => by have := q5 _ e; omega)]; exact fr j hj
  simp -dsimp [h1, h4, h9, h14, q3, Tt, I, -vc_seq]
  rw [vc_seq]
  refine vc_mid (LsC m n) ?_ ?_
  · simp -dsimp [h1, h4, h6, h9, h14, g0, g1, Tt, I, nilE]
    have a1 : n ≠ n2 := by omega
    have a2 : n2 ≠ n := by omega
    have a3 : n ≠ n2 + 1 := by omega
    have a4 : n2 + 1 ≠ n := by omega
    have a5 : n2 ≠ n2 + 1 := by omega
    have a6 : n2 + 1 ≠ n2 := by omega
    have a7 : n + 1 ≠ n2 := by omega
    have a8 : n2 ≠ n + 1 := by omega
    have a9 : n + 1 ≠ n2 + 1 := by omega
    have b1 : n2 + 1 ≠ n + 1 := by omega
    refine vdraw_tree [0, 0, 0, 6, 0, 16, 62, 127, 255] (.rd 0 (.rd 2 (.rd 4 (.wr (.cons 1 (.wr (.cons 3 (.wr (.cons 5 (.wr (.cons 6 (.wr (.cons 7 (.rd 8 (.fin)) (.nil))) (.nil))) (.nil))) (.cons 5 (.wr (.cons 3 (.wr (.cons 6 (.wr (.cons 7 (.rd 8 (.fin)) (.nil))) (.nil))) (.nil))) (.nil)))) (.cons 5 (.wr (.cons 1 (.wr (.cons 3 (.wr (.cons 6 (.wr (.cons 7 (.rd 8 (.fin)) (.nil))) (.nil))) (.nil))) (.nil))) (.nil))))))) (by kernel_rfl) (by kernel_rfl) ?_
    have key : ∀ (g q : Nat) (m2 : Mem), n + 1 < q → m2 q = some ⟨5, env.map ifD ++ [ifD y], g⟩ → ∀ K : D → Mem → Nat → Prop, ∀ n2, (∀ m3, (∀ j, j ≠ q → m3 j = m2 j) → K nilE m3 n2) → aCall Tryz.prog 10 [.agg (usD x), .own q g 0 (env.length + 1) 5] m2 n2 K tg := by
      intro g q m2 hq hm K n2 hk
      refine aCall_pubS (pre := [.agg (usD x)]) (post := []) (Lst.mk (es := env.map ifD ++ [ifD y]) hm (by simp) (by simp) (List.take_of_length_le (by simp))) hP (by simp; exact Pur.agg (pur_us x)) (by simp) fun m3 h3 => ?_
      refine pcall c5 ?_
      exact hk m3 fun j hj => h3 j (by rw [kof_own]; intro e; exact hj (Option.some.inj e).symm)
    simp -dsimp [h1, h4, h6, h9, h14, g0, g1, hz, htz, hzy, hty, set_ne, Tt, I, a1, a2, a3, a4, a5, a6, a7, a8, a9, b1, hL]
    refine ⟨⟨⟨by omega, by omega, ?_⟩, ⟨by omega, by omega, ?_⟩⟩, ⟨by omega, by omega, ?_⟩⟩
    all_goals
      refine key _ _ _ (by omega) (by simp) _ _ fun m4 h5 => ?_
      simp -dsimp [h1, h4, h6, h9, h14, hz, htz, hzy, hty, set_ne, Tt, I, nilE]
      refine ⟨by simp [Tt], by simp [nilE], by simp [nilE], fun j hj => ?_⟩
      rw [h5 j (by omega)]
      repeat rw [set_ne _ _ _ _ (show j ≠ n2 by omega)]
      repeat rw [set_ne _ _ _ _ (show j ≠ n2 + 1 by omega)]
      repeat rw [set_ne _ _ _ _ (show j ≠ n2 by omega)]
      exact gf j hj
  · rintro σ m2 n2 ⟨h9, h15, h16, fr⟩
    simp -dsimp [h9, h15, h16, Tt, nilE]
    exact pcq rfl fr
end Go.Proofs.Mv.App
