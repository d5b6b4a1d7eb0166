/- A part of the proofs of the seat YtgekkmmmidgkbaaGreatDoor: the abstract machine, the contracts of the functions, the laws. No condition of its own. -/
import Derived.Test.YtgekkmmmidgkbaaGreatDoorP09
import Derived.Test.YtgekkmmmidgkbaaGreatDoorP00
import Derived.Test.YtgekkmmmidgkbaaGreatDoorP05
import Derived.Test.YtgekkmmmidgkbaaGreatDoorP10
set_option linter.unusedSimpArgs false
set_option linter.unusedVariables false
set_option linter.unusedSectionVars false
open Go Go.Proofs Go.Proofs.Mv.V
set_option maxRecDepth 10000
namespace Go.Proofs.Mv.App
set_option maxHeartbeats 1000000 in
theorem cUImpOk {i : Imp} (hi : ImpWU i) (m : Mem) (n : Nat) : ACalls Tryz.prog 39 [.agg (impD i)] m n (fun d m' n' => d = Tt (impOkU i) ∧ m' = m ∧ n' = n) := by
  obtain ⟨pkg, major, mod, as_⟩ := i
  obtain ⟨q1, q2, q3⟩ := hi
  simp only at q1 q2 q3
  refine acalls_done (R' := Hq (fun d m' n' => d = Tt (impOkU ⟨pkg, major, mod, as_⟩) ∧ ∀ j, j < n → m' j = m j) tg) ?_ ?_
  · have fr : ∀ o j, j < n → (m.set n o) j = m j := fun o j hj => by rw [set_ne _ _ _ _ (by omega)]
    simp only [impD, impOkU]
    refine acalls_vc [0, 1, 2] Tryz.func39 Tryz.ntmps39 (by kernel_rfl) rfl rfl (by simp) ?_
    simp -dsimp [I, S]
    refine aCall_of (cSmall pkg q1 _ _) ?_
    rintro d m' n' ⟨rfl, rfl, rfl⟩
    cases h1 : smallN pkg with
    | false =>
      simp -dsimp [I, S, Tt]
      exact hq ⟨by simp [Tt], fr _⟩
    | true =>
    simp -dsimp [I, S, Tt]
    refine aCall_of (cSmall mod q2 _ _) ?_
    rintro d m' n' ⟨rfl, rfl, rfl⟩
    cases h2 : smallN mod with
    | false =>
      simp -dsimp [I, S, Tt]
      exact hq ⟨by simp [Tt], fr _⟩
    | true =>
    simp -dsimp [I, S, Tt]
    refine aCall_of (cSmall as_ q3 _ _) ?_
    rintro d m' n' ⟨rfl, rfl, rfl⟩
    cases h3 : smallN as_ with
    | false =>
      simp -dsimp [I, S, Tt]
      exact hq ⟨by simp [Tt], fr _⟩
    | true =>
    by_cases h4 : 1 ≤ major
    · simp -dsimp [I, S, Tt, h4]
      exact hq ⟨by simp [Tt, h4], fr _⟩
    · simp -dsimp [I, S, Tt, h4]
      exact hq ⟨by simp [Tt, h4], fr _⟩
  · rintro d m' n' ⟨rfl, h⟩
    exact ⟨_, (pur_T _).pub, h, rfl⟩
theorem cUOdd1 {i : Imp} (hi : ImpWU i) : Pc Tryz.prog 38 [.agg (impD i)] (Tt (!impOkU i)) := by
  refine pc_of (pur_T _) (fun m n => ?_)
  have hc := fun m n => cUImpOk hi m n
  have hz : (impD i).length = 4 := by simp
  generalize impD i = XX at hc hz
  have htz : List.take 4 XX = XX := List.take_of_length_le (by omega)
  refine acalls_vc [0, 1, 2] Tryz.func38 Tryz.ntmps38 (by kernel_rfl) rfl rfl (by simp) ?_
  simp -dsimp [hz, htz]
  refine pcall hc ?_
  simp -dsimp [Tt]
  exact pcq (by simp [Tt]) fun j hj => set_ne _ _ _ _ (by omega)
set_option maxHeartbeats 1000000 in
theorem cUSaid {d : Ln} (hd : LnW d) : Pc Tryz.prog 41 [.agg (lnD d)] (Tt (lnOk d)) := by
  obtain ⟨kind, mod, name, typ⟩ := d
  obtain ⟨q1, q2, q3⟩ := hd
  simp only at q1 q2 q3
  refine pc_of (pur_T _) (fun m n => ?_)
  have hc := fun m n => cMay q3 m n
  have h7 := tyD_len typ
  simp only [lnD, lnOk, lnNm]
  generalize tyD typ = TT at hc h7
  have ht7 : List.take 7 TT = TT := List.take_of_length_le (by omega)
  have fr : ∀ o j, j < n → (m.set n o) j = m j := fun o j hj => set_ne _ _ _ _ (by omega)
  have rest : ∀ (nm : Bool) (K : D → Mem → Nat → Prop), True := fun _ _ => trivial
  refine acalls_vc [0, 1, 2, 3] Tryz.func41 Tryz.ntmps41 (by kernel_rfl) rfl rfl (by simp) ?_
  by_cases k1 : kind = 1
  · subst k1
    simp -dsimp [I, S, h7, ht7]
    refine pcall (fun m n => cSmall name q2 m n) ?_
    cases e1 : smallN name
    · simp -dsimp [I, S, Tt, h7, ht7]
      exact pcq (by simp [Tt]) (fr _)
    · simp -dsimp [I, S, Tt, h7, ht7]
      refine pcall (fun m n => cSmall mod q1 m n) ?_
      cases e2 : smallN mod
      · simp -dsimp [I, S, Tt, h7, ht7]
        exact pcq (by simp [Tt]) (fr _)
      · simp -dsimp [I, S, Tt, h7, ht7]
        refine pcall hc ?_
        simp -dsimp [I, S, Tt, h7, ht7]
        exact pcq (by simp [Tt]) (fr _)
  · have k1' : (kind == 1) = false := by simp [k1]
    by_cases k2 : kind = 2
    · subst k2
      simp -dsimp [I, S, h7, ht7, k1']
      refine pcall (fun m n => cGreat name q2 m n) ?_
      cases e1 : greatN name
      · simp -dsimp [I, S, Tt, h7, ht7]
        exact pcq (by simp [Tt]) (fr _)
      · simp -dsimp [I, S, Tt, h7, ht7]
        refine pcall (fun m n => cSmall mod q1 m n) ?_
        cases e2 : smallN mod
        · simp -dsimp [I, S, Tt, h7, ht7]
          exact pcq (by simp [Tt]) (fr _)
        · simp -dsimp [I, S, Tt, h7, ht7]
          refine pcall hc ?_
          simp -dsimp [I, S, Tt, h7, ht7]
          exact pcq (by simp [Tt]) (fr _)
    · have k2' : (kind == 2) = false := by simp [k2]
      simp -dsimp [I, S, h7, ht7, k1', k2']
      exact pcq (by simp [Tt, k1, k2]) (fr _)
theorem cUOdd2 {d : Ln} (hd : LnW d) : Pc Tryz.prog 40 [.agg (lnD d)] (Tt (!lnOk d)) := by
  refine pc_of (pur_T _) (fun m n => ?_)
  have hc := cUSaid hd
  have hz : (lnD d).length = 10 := by simp
  generalize lnD d = XX at hc hz
  have htz : List.take 10 XX = XX := List.take_of_length_le (by omega)
  refine acalls_vc [0, 1, 2] Tryz.func40 Tryz.ntmps40 (by kernel_rfl) rfl rfl (by simp) ?_
  simp -dsimp [hz, htz]
  refine pcall hc ?_
  simp -dsimp [Tt]
  exact pcq (by simp [Tt]) fun j hj => set_ne _ _ _ _ (by omega)
theorem cIdxUI {l : List (Imp)} {q : Imp → Bool} {fp : FuncId} {cs : List D} (hcs : List.length cs ≤ 3) (hp : ∀ x ∈ l, Pc Tryz.prog fp (.agg (impD x) :: cs) (Tt (q x))) (hlen : l.length ≤ 9223372036854775807) :
    Pc Tryz.prog 43 [.sl 4 (l.map impD), .func (.func fp) [] cs] (I (findI q l)) := by
  refine pc_of (pur_I _) (fun m n => ?_)
  have hL2 : (l.map impD).length = l.length := by simp
  have hG2 : ∀ i (h : i < l.length), (l.map impD)[i]? = some (impD l[i]) := fun i h => by simp [h]
  generalize l.map impD = EL at hL2 hG2
  refine acalls_vc [0, 1, 4, 5, 7, 8, 9, 16] Tryz.func43 Tryz.ntmps43 (by kernel_rfl) rfl rfl (by simp) ?_
  simp -dsimp [hL2, I]
  refine vloop_as (β := Nat) (fun i => [(0, .sl 4 EL), (1, .func (.func fp) [] cs), (7, I l.length), (8, I i)]) (fun i m2 n2 => m2 = m ∧ n2 = n ∧ i ≤ l.length ∧ ∀ x ∈ l.take i, q x = false) (fun i => l.length - i) 0 (by simp [I]) ⟨rfl, rfl, by omega, by simp⟩ ?_
  rintro i m2 n2 ⟨rfl, rfl, le, hno⟩
  by_cases hi : (i : Int) < l.length
  · have hi' : i < l.length := by omega
    have wi : IntKind.i64.wrap ((i : Int) + 1) = (i : Int) + 1 := wrap_i64 (by omega) (by omega)
    have hiN : i < EL.length := by omega
    have hgi : EL[i] = impD l[i] := get_opt (hG2 i hi') hiN
    have hz : (impD l[i]).length = 4 := by simp
    have hc := hp l[i] (List.getElem_mem hi')
    generalize impD l[i] = XX at hgi hz hc
    have htz : List.take 4 XX = XX := List.take_of_length_le (by omega)
    simp -dsimp [I, Tt, hi, hi', hiN, hgi, hz, htz]
    refine pcall hc ?_
    cases e : q l[i] with
    | true =>
      simp -dsimp [I, Tt]
      exact pcq' (by rw [findI_hit hi' e hno])
    | false =>
      simp -dsimp [I, Tt, wi]
      refine rnd (i + 1) (by omega) (by simp [I]) ⟨rfl, rfl, by omega, fun x hx => ?_⟩
      rw [List.take_succ_eq_append_getElem hi'] at hx
      rcases List.mem_append.1 hx with hx | hx
      · exact hno x hx
      · simp at hx; rw [hx]; exact e
  · have : i = l.length := by omega
    subst this
    rw [List.take_length] at hno
    simp -dsimp [I, Tt, hi]
    exact pcq' (by rw [findI_no hno])
theorem cHasUI {l : List (Imp)} {q : Imp → Bool} {fp : FuncId} {cs : List D} (hcs : List.length cs ≤ 3) (hp : ∀ x ∈ l, Pc Tryz.prog fp (.agg (impD x) :: cs) (Tt (q x))) (hlen : l.length ≤ 9223372036854775807) :
    Pc Tryz.prog 18 [.sl 4 (l.map impD), .func (.func fp) [] cs] (Tt (l.any q)) := by
  refine pc_of (pur_T _) (fun m n => ?_)
  have hc := cIdxUI hcs hp hlen
  generalize l.map impD = EL at hc
  refine acalls_vc [0, 1, 4] Tryz.func18 Tryz.ntmps18 (by kernel_rfl) rfl rfl (by simp) ?_
  simp -dsimp
  refine pcall hc ?_
  have h := findI_any q l
  cases e : l.any q with
  | true =>
    have : 0 ≤ findI q l := h.2 e
    simp -dsimp [I, Tt, this]
    exact pcq' rfl
  | false =>
    have : ¬ 0 ≤ findI q l := fun h' => by rw [h.1 h'] at e; cases e
    simp -dsimp [I, Tt, this]
    exact pcq' rfl
theorem cIdxUL {l : List (Ln)} {q : Ln → Bool} {fp : FuncId} {cs : List D} (hcs : List.length cs ≤ 3) (hp : ∀ x ∈ l, Pc Tryz.prog fp (.agg (lnD x) :: cs) (Tt (q x))) (hlen : l.length ≤ 9223372036854775807) :
    Pc Tryz.prog 81 [.sl 10 (l.map lnD), .func (.func fp) [] cs] (I (findI q l)) := by
  refine pc_of (pur_I _) (fun m n => ?_)
  have hL2 : (l.map lnD).length = l.length := by simp
  have hG2 : ∀ i (h : i < l.length), (l.map lnD)[i]? = some (lnD l[i]) := fun i h => by simp [h]
  generalize l.map lnD = EL at hL2 hG2
  refine acalls_vc [0, 1, 4, 5, 7, 8, 9, 16] Tryz.func81 Tryz.ntmps81 (by kernel_rfl) rfl rfl (by simp) ?_
  simp -dsimp [hL2, I]
  refine vloop_as (β := Nat) (fun i => [(0, .sl 10 EL), (1, .func (.func fp) [] cs), (7, I l.length), (8, I i)]) (fun i m2 n2 => m2 = m ∧ n2 = n ∧ i ≤ l.length ∧ ∀ x ∈ l.take i, q x = false) (fun i => l.length - i) 0 (by simp [I]) ⟨rfl, rfl, by omega, by simp⟩ ?_
  rintro i m2 n2 ⟨rfl, rfl, le, hno⟩
  by_cases hi : (i : Int) < l.length
  · have hi' : i < l.length := by omega
    have wi : IntKind.i64.wrap ((i : Int) + 1) = (i : Int) + 1 := wrap_i64 (by omega) (by omega)
    have hiN : i < EL.length := by omega
    have hgi : EL[i] = lnD l[i] := get_opt (hG2 i hi') hiN
    have hz : (lnD l[i]).length = 10 := by simp
    have hc := hp l[i] (List.getElem_mem hi')
    generalize lnD l[i] = XX at hgi hz hc
    have htz : List.take 10 XX = XX := List.take_of_length_le (by omega)
    simp -dsimp [I, Tt, hi, hi', hiN, hgi, hz, htz]
    refine pcall hc ?_
    cases e : q l[i] with
    | true =>
      simp -dsimp [I, Tt]
      exact pcq' (by rw [findI_hit hi' e hno])
    | false =>
      simp -dsimp [I, Tt, wi]
      refine rnd (i + 1) (by omega) (by simp [I]) ⟨rfl, rfl, by omega, fun x hx => ?_⟩
      rw [List.take_succ_eq_append_getElem hi'] at hx
      rcases List.mem_append.1 hx with hx | hx
      · exact hno x hx
      · simp at hx; rw [hx]; exact e
  · have : i = l.length := by omega
    subst this
    rw [List.take_length] at hno
    simp -dsimp [I, Tt, hi]
    exact pcq' (by rw [findI_no hno])
theorem cHasUL {l : List (Ln)} {q : Ln → Bool} {fp : FuncId} {cs : List D} (hcs : List.length cs ≤ 3) (hp : ∀ x ∈ l, Pc Tryz.prog fp (.agg (lnD x) :: cs) (Tt (q x))) (hlen : l.length ≤ 9223372036854775807) :
    Pc Tryz.prog 42 [.sl 10 (l.map lnD), .func (.func fp) [] cs] (Tt (l.any q)) := by
  refine pc_of (pur_T _) (fun m n => ?_)
  have hc := cIdxUL hcs hp hlen
  generalize l.map lnD = EL at hc
  refine acalls_vc [0, 1, 4] Tryz.func42 Tryz.ntmps42 (by kernel_rfl) rfl rfl (by simp) ?_
  simp -dsimp
  refine pcall hc ?_
  have h := findI_any q l
  cases e : l.any q with
  | true =>
    have : 0 ≤ findI q l := h.2 e
    simp -dsimp [I, Tt, this]
    exact pcq' rfl
  | false =>
    have : ¬ 0 ≤ findI q l := fun h' => by rw [h.1 h'] at e; cases e
    simp -dsimp [I, Tt, this]
    exact pcq' rfl
theorem any_not {α : Type} (p : α → Bool) (l : List α) : (l.any fun x => !p x) = !l.all p := by
  induction l with
  | nil => rfl
  | cons x l ih => simp [List.any_cons, List.all_cons, ih]
set_option maxHeartbeats 1000000 in
theorem cUMay {x : Us} (hx : UsW x) : Pc Tryz.prog 17 [.agg (usD x)] (Tt (mayU x)) := by
  obtain ⟨imps, lines⟩ := x
  obtain ⟨q1, q2, q3, q4⟩ := hx
  simp only at q1 q2 q3 q4
  refine pc_of (pur_T _) (fun m n => ?_)
  have fr : ∀ o j, j < n → (m.set n o) j = m j := fun o j hj => set_ne _ _ _ _ (by omega)
  have c1 := cHasUI (l := imps) (q := fun i => !impOkU i) (fp := 38) (cs := []) (by simp) (fun i hi => cUOdd1 (q3 i hi)) q1
  have c2 := cHasUL (l := lines) (q := fun d => !lnOk d) (fp := 40) (cs := []) (by simp) (fun d hd => cUOdd2 (q4 d hd)) q2
  rw [any_not] at c1 c2
  have hL1 : (imps.map impD).length = imps.length := by simp
  have hL2 : (lines.map lnD).length = lines.length := by simp
  simp only [usD, mayU]
  generalize imps.map impD = IL at hL1 c1
  generalize lines.map lnD = DL at hL2 c2
  refine acalls_vc [0, 1, 2, 3, 4] Tryz.func17 Tryz.ntmps17 (by kernel_rfl) rfl rfl (by simp) ?_
  by_cases h2 : (imps.length : Int) ≤ 20
  case neg =>
    have h2' : ¬ imps.length ≤ 20 := by omega
    simp -dsimp [I, S, Tt, hL1, hL2, h2, h2']
    exact pcq (by simp [Tt, h2']) (fr _)
  have h2' : imps.length ≤ 20 := by omega
  by_cases h3 : (lines.length : Int) ≤ 60
  case neg =>
    have h3' : ¬ lines.length ≤ 60 := by omega
    simp -dsimp [I, S, Tt, hL1, hL2, h2, h2', h3, h3']
    exact pcq (by simp [Tt, h3']) (fr _)
  have h3' : lines.length ≤ 60 := by omega
  simp -dsimp [I, S, Tt, hL1, hL2, h2, h2', h3, h3']
  refine pcall c1 ?_
  cases h4 : imps.all impOkU with
  | false =>
    simp -dsimp [I, S, Tt]
    exact pcq (by simp [Tt]) (fr _)
  | true =>
  simp -dsimp [I, S, Tt, hL1, hL2]
  refine pcall c2 ?_
  simp -dsimp [Tt]
  exact pcq (by simp [Tt, h2', h3']) (fr _)
end Go.Proofs.Mv.App
open Go Go.Proofs Go.Proofs.Mv.V
set_option maxRecDepth 10000
namespace Go.Proofs.Mv.App
def mayX (md : List UInt8) (imps : List Imp) : Bool := smallN md && decide (imps.length ≤ 20) && imps.all impOkU
variable [GI]
set_option maxHeartbeats 1000000 in
theorem cImpX {i : Imp} (hi : ImpWU i) : Pc Tryz.prog 159 [.agg (impD i)] (Tt (impOkU i)) := by
  intro m n
  obtain ⟨pkg, major, mod, as_⟩ := i
  obtain ⟨q1, q2, q3⟩ := hi
  simp only at q1 q2 q3
  refine acalls_done (R' := Hq (fun d m' n' => d = Tt (impOkU ⟨pkg, major, mod, as_⟩) ∧ ∀ j, j < n → m' j = m j) tg) ?_ ?_
  · have fr : ∀ o j, j < n → (m.set n o) j = m j := fun o j hj => by rw [set_ne _ _ _ _ (by omega)]
    simp only [impD, impOkU]
    refine acalls_vc [0, 1, 2] Tryz.func159 Tryz.ntmps159 (by kernel_rfl) rfl rfl (by simp) ?_
    simp -dsimp [I, S]
    refine aCall_of (cSmall pkg q1 _ _) ?_
    rintro d m' n' ⟨rfl, rfl, rfl⟩
    cases h1 : smallN pkg with
    | false =>
      simp -dsimp [I, S, Tt]
      exact hq ⟨by simp [Tt], fr _⟩
    | true =>
    simp -dsimp [I, S, Tt]
    refine aCall_of (cSmall mod q2 _ _) ?_
    rintro d m' n' ⟨rfl, rfl, rfl⟩
    cases h2 : smallN mod with
    | false =>
      simp -dsimp [I, S, Tt]
      exact hq ⟨by simp [Tt], fr _⟩
    | true =>
    simp -dsimp [I, S, Tt]
    refine aCall_of (cSmall as_ q3 _ _) ?_
    rintro d m' n' ⟨rfl, rfl, rfl⟩
    cases h3 : smallN as_ with
    | false =>
      simp -dsimp [I, S, Tt]
      exact hq ⟨by simp [Tt], fr _⟩
    | true =>
    by_cases h4 : 1 ≤ major
    · simp -dsimp [I, S, Tt, h4]
      exact hq ⟨by simp [Tt, h4], fr _⟩
    · simp -dsimp [I, S, Tt, h4]
      exact hq ⟨by simp [Tt, h4], fr _⟩
  · rintro d m' n' ⟨rfl, h⟩
    exact ⟨_, (pur_T _).pub, h, rfl⟩
theorem cAllX1 {i : Imp} (hi : ImpWU i) {k : Nat} {m : Mem} {n : Nat} (hk : k < n) (hm : m k = some ⟨1, [[.func (.func 159) [] []]], 0⟩) :
    PcAt Tryz.prog 190 [.agg (impD i), .ptr k 0 0 0] (Tt (!impOkU i)) m n := by
  refine pcat_of (pur_T _) ?_
  have kn : k ≠ n := by omega
  have nk : n ≠ k := by omega
  have fr : ∀ o j, j < n → (m.set n o) j = m j := fun o j hj => set_ne _ _ _ _ (by omega)
  have hc := cImpX hi
  have hz : (impD i).length = 4 := by simp
  generalize impD i = XX at hc hz
  have htz : List.take 4 XX = XX := List.take_of_length_le (by omega)
  refine acalls_vc [0, 1, 2, 3] Tryz.func190 Tryz.ntmps190 (by kernel_rfl) rfl rfl (by simp) ?_
  simp -dsimp [set_ne, kn, nk, hm, hz, htz]
  refine pcall hc ?_
  simp -dsimp [Tt]
  exact pcq rfl (fr _)
theorem cAllX {imps : List Imp} (hl : imps.length ≤ 9223372036854775807) (hi : ∀ i ∈ imps, ImpWU i) : Pc Tryz.prog 158 [.sl 4 (imps.map impD), .func (.func 159) [] []] (Tt (imps.all impOkU)) := by
  refine pc_of (pur_T _) (fun m n => ?_)
  have fr : ∀ o j, j < n → (m.set n o) j = m j := fun o j hj => set_ne _ _ _ _ (by omega)
  have hc := fun m (h : m n = some ⟨1, [[.func (.func 159) [] []]], 0⟩) => cHasImA (l := imps) (q := fun i => !impOkU i) (fp := 190) (cs := [.ptr n 0 0 0]) (m := m) (n := n + 1) (by simp) (fun i hi' => cAllX1 (hi i hi') (by omega) h) hl
  rw [any_nt] at hc
  generalize imps.map impD = IL at hc
  refine acalls_vc [0, 1, 3, 4] Tryz.func158 Tryz.ntmps158 (by kernel_rfl) rfl rfl (by simp) ?_
  simp -dsimp [Tt]
  refine pcallAt (hc _ (by simp)) ?_
  simp -dsimp [Tt]
  exact pcq (by simp [Tt]) (fr _)
theorem cAllD0 : Pc Tryz.prog 160 [.sl 9 [], .func (.func 161) [] []] (Tt true) := by
  refine pc_of (pur_T _) (fun m n => ?_)
  have fr : ∀ o j, j < n → (m.set n o) j = m j := fun o j hj => set_ne _ _ _ _ (by omega)
  have hc := fun m => cHasDcA (l := []) (q := fun _ => true) (fp := 192) (cs := [.ptr n 0 0 0]) (m := m) (n := n + 1) (by simp) (fun x hx => by simp at hx) (by simp)
  simp only [List.map_nil, List.any_nil] at hc
  refine acalls_vc [0, 1, 3, 4] Tryz.func160 Tryz.ntmps160 (by kernel_rfl) rfl rfl (by simp) ?_
  simp -dsimp [Tt]
  refine pcallAt (hc _) ?_
  simp -dsimp [Tt]
  exact pcq rfl (fr _)
theorem cMayX {md : List UInt8} {imps : List Imp} (hmd : md.length ≤ 9223372036854775807) (hl : imps.length ≤ 9223372036854775807) (hi : ∀ i ∈ imps, ImpWU i) : Pc Tryz.prog 117 [.agg (mdX md imps)] (Tt (mayX md imps)) := by
  refine pc_of (pur_T _) (fun m n => ?_)
  have fr : ∀ o j, j < n → (m.set n o) j = m j := fun o j hj => set_ne _ _ _ _ (by omega)
  have h1 := fun m n => cSmall md hmd m n
  have h2 := cAllX hl hi
  have h3 := cAllD0
  have hL : (imps.map impD).length = imps.length := by simp
  simp only [mdX, mayX]
  generalize imps.map impD = IL at h2 hL
  generalize imps.all impOkU = R at h2
  refine acalls_vc [0, 1, 2] Tryz.func117 Tryz.ntmps117 (by kernel_rfl) rfl rfl (by simp) ?_
  simp -dsimp [I, S, Tt]
  refine aCall_of (h1 _ _) ?_
  rintro d m' n' ⟨rfl, rfl, rfl⟩
  cases smallN md with
  | false =>
    simp -dsimp [I, S, Tt, hL]
    exact pcq (by simp [Tt]) (fr _)
  | true =>
  by_cases c : (imps.length : Int) ≤ 20
  · have c' : imps.length ≤ 20 := by omega
    simp -dsimp [I, S, Tt, hL, c, c']
    refine pcall h2 ?_
    cases R with
    | false =>
      simp -dsimp [I, S, Tt, hL]
      exact pcq (by simp [Tt]) (fr _)
    | true =>
      simp -dsimp [I, S, Tt, hL]
      refine pcall h3 ?_
      simp -dsimp [I, S, Tt, hL]
      exact pcq (by simp [Tt, c']) (fr _)
  · have c' : ¬ imps.length ≤ 20 := by omega
    simp -dsimp [I, S, Tt, hL, c, c']
    exact pcq (by simp [Tt, c']) (fr _)
end Go.Proofs.Mv.App
open Go Go.Proofs Go.Proofs.Mv.V
set_option maxRecDepth 10000
namespace Go.Proofs.Mv.App
/-- Is there an import of that name ahead of one? -/
def dupAt (imps : List Imp) (i : Nat) : Bool := (imps.take i).any fun y => decide (y.as_ = (imps.getD i ⟨[], 0, [], []⟩).as_)
def dupI (imps : List Imp) : Option Nat := (List.range imps.length).find? (dupAt imps)
theorem dupI_at {imps : List Imp} {i : Nat} (hi : i < imps.length) (h : dupAt imps i = true) (hno : ∀ j, j < i → dupAt imps j = false) : dupI imps = some i := by
  have := find_at (q := dupAt imps) (l := List.range imps.length) (i := i) (by simpa using hi) (by simpa using h) (fun j hj hji => by simpa using hno j hji)
  simpa [dupI] using this
theorem dupI_no {imps : List Imp} (hno : ∀ j, j < imps.length → dupAt imps j = false) : dupI imps = none := find_no fun j hj => by simpa using hno j (by simpa using hj)
variable [GI]
def dupE (o : Option Nat) : D := match o with
  | some i => spotE i 5
  | none => nilE
def chkX (md : List UInt8) (imps : List Imp) : D := if mayX md imps then dupE (dupI imps) else code 1
theorem cChk1 {i l : Imp} {k : Nat} {m : Mem} {n : Nat} (hk : k < n) (hm : m k = some ⟨4, [impD l], 0⟩) : PcAt Tryz.prog 118 [.agg (impD i), .ptr k 0 0 0] (Tt (decide (i.as_ = l.as_))) m n := by
  refine pcat_of (pur_T _) ?_
  have kn : k ≠ n := by omega
  have nk : n ≠ k := by omega
  have fr : ∀ o j, j < n → (m.set n o) j = m j := fun o j hj => set_ne _ _ _ _ (by omega)
  obtain ⟨p2, j2, m2, a2⟩ := i
  obtain ⟨p1, j1, m1, a1⟩ := l
  simp only [impD] at hm ⊢
  refine acalls_vc [0, 1, 2, 3] Tryz.func118 Tryz.ntmps118 (by kernel_rfl) rfl rfl (by simp) ?_
  by_cases c1 : a2 = a1
  · subst c1
    simp -dsimp [I, S, Tt, hm, set_ne, kn, nk]
    exact pcq (by simp [Tt]) (fr _)
  · have d1 : (a2 == a1) = false := by simpa using c1
    simp -dsimp [I, S, Tt, hm, set_ne, kn, nk, d1]
    exact pcq (by simp [Tt, c1]) (fr _)
set_option maxHeartbeats 4000000 in
theorem cChkX {md : List UInt8} {imps : List Imp} (hmd : md.length ≤ 9223372036854775807) (hl : imps.length ≤ 1000000) (hi : ∀ i ∈ imps, ImpWU i) : Pc Tryz.prog 82 [.agg (mdX md imps)] (chkX md imps) := by
  refine pc_pub (fun m n => ?_)
  have h1 := cMayX (md := md) (imps := imps) hmd (by omega) hi
  have fr : ∀ o j, j < n → (m.set n o) j = m j := fun o j hj => set_ne _ _ _ _ (by omega)
  have hL : (imps.map impD).length = imps.length := by simp
  have hG : ∀ i (h : i < imps.length), (imps.map impD)[i]? = some (impD imps[i]) := fun i h => by simp [h]
  have hc : ∀ i (h : i < imps.length) m n, m n = some ⟨4, [impD imps[i]], 0⟩ → PcAt Tryz.prog 18 [.sl 4 ((imps.map impD).take i), .func (.func 118) [] [.ptr n 0 0 0]] (Tt (dupAt imps i)) m (n + 1) := fun i h m n hm => by
    have := cHasImA (l := imps.take i) (q := fun y => decide (y.as_ = imps[i].as_)) (fp := 118) (cs := [.ptr n 0 0 0]) (m := m) (n := n + 1) (by simp) (fun x _ => cChk1 (by omega) hm) (by simp; omega)
    rw [List.map_take] at this
    have e : dupAt imps i = (imps.take i).any fun y => decide (y.as_ = imps[i].as_) := by unfold dupAt; simp [h]
    rw [e]; exact this
  simp only [mdX, chkX] at h1 ⊢
  generalize imps.map impD = IL at h1 hL hG hc ⊢
  refine acalls_vc [0, 1, 2, 3, 4, 6, 7, 10, 13, 14, 15, 16, 25, 32, 33, 34, 35, 40, 41, 42, 47] Tryz.func82 Tryz.ntmps82 (by kernel_rfl) rfl rfl (by simp) ?_
  cases cm : mayX md imps with
  | false =>
    rw [cm] at h1
    simp -dsimp [I, S, Tt]
    refine pcall h1 ?_
    simp -dsimp [I, S, Tt]
    exact pcp (pur_code 1).pub (fr _)
  | true =>
  rw [cm] at h1
  simp -dsimp [I, S, Tt]
  refine pcall h1 ?_
  simp -dsimp [I, S, Tt, hL]
  refine vloop_as (β := Nat) (fun i => [(1, .ptr n 0 0 0), (13, .sl 4 IL), (14, I imps.length), (15, I i)]) (fun i mm nn => mm n = some ⟨3, [[S md, .sl 4 IL, .sl 9 []]], 0⟩ ∧ (∀ j, j < n → mm j = m j) ∧ n + 1 ≤ nn ∧ i ≤ imps.length ∧ ∀ q, q < i → dupAt imps q = false) (fun i => imps.length - i) 0 (by simp [I]) ⟨by simp [S], fun j hj => fr _ _ hj, by omega, by omega, fun q h => by omega⟩ ?_
  rintro i mm nn ⟨e0, frm, hn, le, hno⟩
  by_cases c : (i : Int) < imps.length
  · have c' : i < imps.length := by omega
    have wi : IntKind.i64.wrap ((i : Int) + 1) = (i : Int) + 1 := wrap_i64 (by omega) (by omega)
    have hiI : i < IL.length := by omega
    have g1 : IL[i] = impD imps[i] := get_opt (hG i c') hiI
    have a1 : nn ≠ n := by omega
    have a2 : n ≠ nn := by omega
    have hci := hc i c'
    have hd := dupI_at (imps := imps) c'
    have z1 := impD_len imps[i]
    generalize impD imps[i] = XX at g1 hci z1
    have t1 : List.take 4 XX = XX := List.take_of_length_le (by omega)
    have le2 : (i : Int) ≤ imps.length := by omega
    simp -dsimp [I, S, Tt, set_ne, a1, a2, e0, c, c', hiI, g1, hL, z1, t1, le, le2]
    refine pcallAt (hci _ _ (by simp)) ?_
    cases cd : dupAt imps i with
    | true =>
      rw [hd cd hno]
      simp -dsimp [I, S, Tt]
      exact pcp (.iface (.ptr (z := 2) (cs := [I i, code 5]) (by simp [I, code]) (by omega) (.cons (pur_I _).pub (.cons (pur_code _).pub .nil)))) (fun j hj => by rw [set_ne _ _ _ _ (by omega), set_ne _ _ _ _ (by omega)]; exact frm j hj)
    | false =>
      simp -dsimp [I, S, Tt, wi]
      exact rnd (i + 1) (by omega) (by simp [I]) ⟨by rw [set_ne _ _ _ _ a2, e0], fun j hj => by rw [set_ne _ _ _ _ (by omega)]; exact frm j hj, by omega, by omega, fun q hq0 => by
        rcases Nat.lt_or_eq_of_le (show q ≤ i by omega) with c | c
        · exact hno q c
        · subst c; exact cd⟩
  · rw [dupI_no fun j hj => hno j (by omega)]
    have nk : nn ≠ n := by omega
    have kn : n ≠ nn := by omega
    simp -dsimp [I, S, Tt, c]
    refine vloop_as (β := Nat) (fun i => [(1, .ptr n 0 0 0), (32, .own nn 0 0 4 1), (33, I 4), (34, I i)]) (fun i m2 n2 => m2 n = some ⟨3, [[S md, .sl 4 IL, .sl 9 []]], 0⟩ ∧ m2 nn = some ⟨1, [[I 5], [I 4], [I 6], [I 10]], 0⟩ ∧ (∀ j, j < n → m2 j = m j) ∧ i ≤ 4) (fun i => 4 - i) 0 (by simp [I]) ⟨by rw [set_ne _ _ _ _ kn]; exact e0, by simp [I], fun j hj => by rw [set_ne _ _ _ _ (by omega)]; exact frm j hj, by omega⟩ ?_
    rintro i2 m2 n2 ⟨e02, e12, frm2, le2⟩
    by_cases c2 : (i2 : Int) < 4
    · have h4 : i2 = 0 ∨ i2 = 1 ∨ i2 = 2 ∨ i2 = 3 := by omega
      have w1 : IntKind.i64.wrap 1 = 1 := wrap_i64 (by omega) (by omega)
      have w2 : IntKind.i64.wrap 2 = 2 := wrap_i64 (by omega) (by omega)
      have w3 : IntKind.i64.wrap 3 = 3 := wrap_i64 (by omega) (by omega)
      have w4 : IntKind.i64.wrap 4 = 4 := wrap_i64 (by omega) (by omega)
      rcases h4 with rfl | rfl | rfl | rfl
      · simp -dsimp [I, S, Tt, e02, e12]
        refine vloop_as (β := Unit) (fun _ => [(1, .ptr n 0 0 0), (32, .own nn 0 0 4 1), (33, I 4), (34, I 0), (40, I 0), (41, I 0)]) (fun _ m3 n3 => m3 = m2 ∧ n3 = n2) (fun _ => 0) () (by simp [I]) ⟨rfl, rfl⟩ ?_
        rintro _ m3 n3 ⟨rfl, rfl⟩
        simp -dsimp [I, S, Tt, w1, w2, w3, w4]
        exact rnd 1 (by omega) (by simp [I]) ⟨e02, e12, frm2, by omega⟩
      · simp -dsimp [I, S, Tt, e02, e12]
        refine vloop_as (β := Unit) (fun _ => [(1, .ptr n 0 0 0), (32, .own nn 0 0 4 1), (33, I 4), (34, I 1), (40, I 0), (41, I 0)]) (fun _ m3 n3 => m3 = m2 ∧ n3 = n2) (fun _ => 0) () (by simp [I]) ⟨rfl, rfl⟩ ?_
        rintro _ m3 n3 ⟨rfl, rfl⟩
        simp -dsimp [I, S, Tt, w1, w2, w3, w4]
        exact rnd 2 (by omega) (by simp [I]) ⟨e02, e12, frm2, by omega⟩
      · simp -dsimp [I, S, Tt, e02, e12]
        refine vloop_as (β := Unit) (fun _ => [(1, .ptr n 0 0 0), (32, .own nn 0 0 4 1), (33, I 4), (34, I 2), (40, I 0), (41, I 0)]) (fun _ m3 n3 => m3 = m2 ∧ n3 = n2) (fun _ => 0) () (by simp [I]) ⟨rfl, rfl⟩ ?_
        rintro _ m3 n3 ⟨rfl, rfl⟩
        simp -dsimp [I, S, Tt, w1, w2, w3, w4]
        exact rnd 3 (by omega) (by simp [I]) ⟨e02, e12, frm2, by omega⟩
      · simp -dsimp [I, S, Tt, e02, e12]
        refine vloop_as (β := Unit) (fun _ => [(1, .ptr n 0 0 0), (32, .own nn 0 0 4 1), (33, I 4), (34, I 3), (40, I 0), (41, I 0)]) (fun _ m3 n3 => m3 = m2 ∧ n3 = n2) (fun _ => 0) () (by simp [I]) ⟨rfl, rfl⟩ ?_
        rintro _ m3 n3 ⟨rfl, rfl⟩
        simp -dsimp [I, S, Tt, w1, w2, w3, w4]
        exact rnd 4 (by omega) (by simp [I]) ⟨e02, e12, frm2, by omega⟩
    · simp -dsimp [I, S, Tt, c2]
      exact pcp (pur_nilE).pub frm2
section
variable {md : List UInt8} {imps : List Imp} {pkg : List UInt8} {major : Int} {env : List Ifc} {left : Int} {large : Bool} {k : Nat} {m : Mem} {n : Nat}
set_option maxHeartbeats 4000000 in
theorem cComplete (hmd : md.length ≤ 9223372036854775807) (hi : imps.length ≤ 1000000) (hiw : ∀ i ∈ imps, ImpWU i) (he : env.length ≤ 9223372036854775807) (hw : ∀ f ∈ env, IfcW f) {t : Ty} (ht : TyW t) (hk : k < n) (hm : m k = some (exO md imps pkg major env left large)) :
    PcAt Tryz.prog 85 [.ptr k 0 0 0, .agg (tyD t)] (Tt (eachT (hadT imps env) t)) m n := by
  refine pcat_of (pur_T _) ?_
  have kn : k ≠ n := by omega
  have nk : n ≠ k := by omega
  have kn1 : k ≠ n + 1 := by omega
  have n1k : n + 1 ≠ k := by omega
  have nn1 : n ≠ n + 1 := by omega
  have n1n : n + 1 ≠ n := by omega
  have fr : ∀ o o' j, j < n → ((m.set n o).set (n + 1) o') j = m j := fun o o' j hj => by rw [set_ne _ _ _ _ (by omega), set_ne _ _ _ _ (by omega)]
  have h1 := fun m0 (h : m0 k = some (exO md imps pkg major env left large)) => cEach (fp := 124) (fs := [.ptr k 0 0 0]) (by simp) (q := hadT imps env) (m0 := m0) (n0 := n + 1 + 1) (fun l m n' hf => cHad (m := m) (n := n') hi he hw l (by have := hf.1; omega) (by rw [hf.2 k (by omega)]; exact h)) ht m0 (n + 1 + 1) (.refl _ _)
  have h2 := cMentionsX (md := md) (imps := imps) ht (cMayX hmd (by omega) hiw)
  have h3 := fun m n => cHasStA (l := []) (q := fun _ => true) (fp := 127) (cs := [.ptr n 0 0 0]) (m := m) (n := n + 1 + 1) (by simp) (fun x hx => by simp at hx) (by simp)
  simp only [List.map_nil, List.any_nil] at h3
  have z1 := tyD_len t
  generalize tyD t = XX at h1 h2 z1
  have t1 : List.take 7 XX = XX := List.take_of_length_le (by omega)
  generalize eachT (hadT imps env) t = R at h1
  simp only [exO, exC, mdX] at hm h1 h2
  generalize imps.map impD = IL at hm h1 h2
  generalize env.map ifD = EL at hm h1
  refine acalls_vc [0, 1, 2, 3, 4, 9] Tryz.func85 Tryz.ntmps85 (by kernel_rfl) rfl rfl (by simp) ?_
  simp -dsimp [I, S, Tt, set_ne, kn, nk, kn1, n1k, nn1, n1n, z1, t1]
  refine pcallAt (h1 _ (by simp [set_ne, kn, kn1, hm])) ?_
  cases R with
  | false =>
    simp -dsimp [I, S, Tt, set_ne, kn, nk, kn1, n1k, nn1, n1n, z1, t1]
    exact pcq rfl (fr _ _)
  | true =>
    simp -dsimp [I, S, Tt, set_ne, kn, nk, kn1, n1k, nn1, n1n, z1, t1]
    refine vdraw_tree [0, 1, 3, 7, 0, 31, 0, 127, 255, 511] (.rd 0 (.rd 1 (.rd 2 (.rd 3 (.rd 4 (.rd 6 (.wr (.cons 5 (.wr (.cons 7 (.rd 8 (.rd 9 (.fin))) (.nil))) (.nil))))))))) (by kernel_rfl) (by kernel_rfl) ?_
    simp -dsimp [I, S, Tt, set_ne, kn, nk, kn1, n1k, nn1, n1n, z1, t1, hm]
    refine pcall h2 ?_
    simp -dsimp [I, S, Tt, set_ne, kn, nk, kn1, n1k, nn1, n1n, z1, t1, hm]
    refine pcallAt (h3 _ _) ?_
    simp -dsimp [I, S, Tt, set_ne, kn, nk, kn1, n1k, nn1, n1n, z1, t1, hm]
    exact pcq rfl (fr _ _)
end
end Go.Proofs.Mv.App
open Go Go.Proofs Go.Proofs.Mv.V
namespace Go.Proofs.Mv.App
/-- How many types may still come; too large. -/
abbrev ExS := Int × Bool
mutual
/-- What a type comes to, so deep; what a Local comes to is given. -/
def exT (g : Ty → Int → ExS → Ty × ExS) : Ty → Int → ExS → Ty × ExS
  | .mk kind pkg major mod name names subs, dp, st =>
    if kind = 8 then g (.mk kind pkg major mod name names subs) dp st
    else if st.2 = true ∨ st.1 - 1 < 0 ∨ 32 < dp then (Ty0, (st.1 - 1, true))
    else (.mk kind pkg major mod name names (exTs g subs (dp + 1) (st.1 - 1, false)).1, (exTs g subs (dp + 1) (st.1 - 1, false)).2)
def exTs (g : Ty → Int → ExS → Ty × ExS) : List Ty → Int → ExS → List Ty × ExS
  | [], _, st => ([], st)
  | t :: ts, dp, st => ((exT g t dp st).1 :: (exTs g ts dp (exT g t dp st).2).1, (exTs g ts dp (exT g t dp st).2).2)
end
theorem exTs_snoc (g : Ty → Int → ExS → Ty × ExS) (t : Ty) (dp : Int) : ∀ (l : List Ty) (st : ExS),
    exTs g (l ++ [t]) dp st = ((exTs g l dp st).1 ++ [(exT g t dp (exTs g l dp st).2).1], (exT g t dp (exTs g l dp st).2).2)
  | [], st => by simp [exTs]
  | x :: l, st => by
    simp only [List.cons_append, exTs, exTs_snoc g t dp l]
mutual
/-- How many types come, at most. -/
def szE (w : Ty → Nat) : Ty → Nat
  | .mk kind pkg major mod name names subs => if kind = 8 then w (.mk kind pkg major mod name names subs) else 1 + szEs w subs
def szEs (w : Ty → Nat) : List Ty → Nat
  | [] => 0
  | t :: ts => szE w t + szEs w ts
end
theorem szEs_take {w : Ty → Nat} : ∀ {l : List Ty} {i : Nat} (h : i < l.length), szEs w (l.take i) + szE w l[i] = szEs w (l.take (i + 1))
  | t :: ts, 0, _ => by simp [szEs]
  | t :: ts, i + 1, h => by
    have := szEs_take (w := w) (l := ts) (i := i) (by simpa using h)
    simp only [List.take_succ_cons, szEs, List.getElem_cons_succ]; omega
theorem szEs_le {w : Ty → Nat} : ∀ (l : List Ty) (i : Nat), szEs w (l.take i) ≤ szEs w l
  | [], i => by simp
  | t :: ts, 0 => by simp [szEs]
  | t :: ts, i + 1 => by have := szEs_le (w := w) ts i; simp only [List.take_succ_cons, szEs]; omega
/-- What a Local comes to takes no more than it may. -/
def GOk (q : Ty → Bool) (g : Ty → Int → ExS → Ty × ExS) (w : Ty → Nat) : Prop := ∀ l dp st, q l = true → st.1 - w l ≤ (g l dp st).2.1 ∧ (g l dp st).2.1 ≤ st.1
mutual
theorem exT_left {q : Ty → Bool} {g : Ty → Int → ExS → Ty × ExS} {w : Ty → Nat} (hg : GOk q g w) : ∀ (t : Ty) (dp : Int) (st : ExS), eachT q t = true → st.1 - szE w t ≤ (exT g t dp st).2.1 ∧ (exT g t dp st).2.1 ≤ st.1
  | .mk kind pkg major mod name names subs, dp, st, h => by
    rw [eachT, Bool.and_eq_true] at h
    rw [exT, szE]
    by_cases k8 : kind = 8
    · rw [if_pos k8, if_pos k8]
      exact hg _ dp st (by have := h.1; simpa [k8] using this)
    · rw [if_neg k8, if_neg k8]
      split
      · simp only; omega
      · have := exTs_left hg subs (dp + 1) (st.1 - 1, false) h.2
        simp only at this ⊢; omega
theorem exTs_left {q : Ty → Bool} {g : Ty → Int → ExS → Ty × ExS} {w : Ty → Nat} (hg : GOk q g w) : ∀ (l : List Ty) (dp : Int) (st : ExS), eachTs q l = true → st.1 - szEs w l ≤ (exTs g l dp st).2.1 ∧ (exTs g l dp st).2.1 ≤ st.1
  | [], dp, st, _ => by simp [exTs, szEs]
  | t :: ts, dp, st, h => by
    rw [eachTs, Bool.and_eq_true] at h
    have h1 := exT_left hg t dp st h.1
    have h2 := exTs_left hg ts dp (exT g t dp st).2 h.2
    simp only [exTs, szEs]; omega
end
theorem eachTs_take {q : Ty → Bool} {l : List Ty} (h : eachTs q l = true) (i : Nat) : eachTs q (l.take i) = true := by
  rw [eachTs_eq, List.all_eq_true] at h ⊢
  exact fun x hx => h x (List.mem_of_mem_take hx)
theorem eachTs_get {q : Ty → Bool} {l : List Ty} (h : eachTs q l = true) {i : Nat} (hi : i < l.length) : eachT q l[i] = true := by
  rw [eachTs_eq, List.all_eq_true] at h
  exact h _ (List.getElem_mem _)
theorem exTs_len (g : Ty → Int → ExS → Ty × ExS) (dp : Int) : ∀ (l : List Ty) (st : ExS), (exTs g l dp st).1.length = l.length
  | [], st => by simp [exTs]
  | t :: ts, st => by simp [exTs, exTs_len g dp ts]
theorem names_le {t : Ty} (h : shapeK t = true) : t.names.length ≤ t.subs.length := by
  unfold shapeK at h
  simp only [Bool.and_eq_true, decide_eq_true_eq] at h
  split at h
  · simp at h; simp [h]
  · split at h
    · simp at h; simp [h]
    · split at h
      · simp at h; omega
      · split at h
        · simp at h; omega
        · split at h
          · simp at h; simp [h]
          · split at h
            · simp at h; simp [h]
            · split at h
              · simp at h; simp [h]
              · cases h
end Go.Proofs.Mv.App
