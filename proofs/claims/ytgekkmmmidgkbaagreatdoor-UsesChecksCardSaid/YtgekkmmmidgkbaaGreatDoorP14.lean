/- A part of the proofs of the seat YtgekkmmmidgkbaaGreatDoor: the abstract machine, the contracts of the functions, the laws. No condition of its own. -/
import Derived.Test.YtgekkmmmidgkbaaGreatDoorP13
import Derived.Test.YtgekkmmmidgkbaaGreatDoorP10
set_option linter.unusedSimpArgs false
set_option linter.unusedVariables false
set_option linter.unusedSectionVars false
open Go Go.Proofs Go.Proofs.Mv.V
namespace Go.Proofs.Mv.App
theorem exTs_append (g : Ty → Int → ExS → Ty × ExS) (dp : Int) : ∀ (a b : List Ty) (st : ExS),
    exTs g (a ++ b) dp st = ((exTs g a dp st).1 ++ (exTs g b dp (exTs g a dp st).2).1, (exTs g b dp (exTs g a dp st).2).2)
  | [], b, st => by simp [exTs]
  | x :: a, b, st => by simp only [List.cons_append, exTs, exTs_append g dp a b]
/-- A type, and how many types came; 0: more than may. -/
def exR (g : Ty → Int → ExS → Ty × ExS) (t : Ty) (most depth : Int) : Ty × Int :=
  if (exT g t (33 - depth) (most, false)).2.2 = true then (Ty0, 0) else ((exT g t (33 - depth) (most, false)).1, most - (exT g t (33 - depth) (most, false)).2.1)
theorem exT_take {q : Ty → Bool} {g : Ty → Int → ExS → Ty × ExS} (hg : GLg q g) {subs : List Ty} {dp : Int} {st : ExS} (he : eachTs q subs = true) (i : Nat) (h : (exTs g (subs.take i) dp st).2.2 = true) : (exTs g subs dp st).2.2 = true := by
  have e : subs = subs.take i ++ subs.drop i := (List.take_append_drop i subs).symm
  rw [e, exTs_append]
  refine exTs_large hg _ _ _ ?_ h
  rw [eachTs_eq, List.all_eq_true] at he ⊢
  exact fun x hx => he x (List.mem_of_mem_drop hx)
/-- What comes of one that is not too large takes some, and leaves none below. -/
theorem exR_some {q : Ty → Bool} {g : Ty → Int → ExS → Ty × ExS} (hl : GLg q g) (hk : GOkP q g) {t : Ty} {most depth : Int} (he : eachT q t = true) (ha : allT t = true)
    (h : ¬ (exT g t (33 - depth) (most, false)).2.2 = true) : 1 ≤ most - (exT g t (33 - depth) (most, false)).2.1 ∧ 0 ≤ (exT g t (33 - depth) (most, false)).2.1 := by
  obtain ⟨h1, h2, h3, h4, h5⟩ := exT_ok hl hk t (33 - depth) most he ha (by simpa using h)
  have := manyT_pos (exT g t (33 - depth) (most, false)).1
  omega
theorem exR_local {g : Ty → Int → ExS → Ty × ExS} {t : Ty} (h : t.kind = 8) (most depth : Int) : exT g t (33 - depth) (most, false) = g t (33 - depth) (most, false) := by
  obtain ⟨kind, pkg, major, mod, name, names, subs⟩ := t
  simp only [Ty.kind] at h
  rw [exT, if_pos h]
/-! Where a name stands. -/
theorem findI_cons {α : Type} (q : α → Bool) (x : α) (l : List α) : findI q (x :: l) = if q x then 0 else if findI q l < 0 then -1 else findI q l + 1 := rfl
theorem fieldT_find : ∀ (ns : List (List UInt8)) (ts : List Ty) (s : List UInt8), ns.length = ts.length →
    (findI (fun x => decide (x = s)) ns < 0 → fieldT ns ts s = none) ∧ ∀ k : Nat, findI (fun x => decide (x = s)) ns = k → ∃ h : k < ts.length, fieldT ns ts s = some ts[k]
  | [], ts, s, h => by simp [findI, fieldT]
  | n :: ns, [], s, h => by simp at h
  | n :: ns, t :: ts, s, h => by
    obtain ⟨h1, h2⟩ := fieldT_find ns ts s (by simpa using h)
    rw [findI_cons, fieldT]
    by_cases e : n = s
    · simp only [e, decide_true, if_true]
      refine ⟨fun h => absurd h (by omega), fun k hk => ?_⟩
      obtain rfl : k = 0 := by omega
      exact ⟨by simp, by simp⟩
    · simp only [e, decide_false, Bool.false_eq_true, if_false]
      by_cases c : findI (fun x => decide (x = s)) ns < 0
      · rw [if_pos c]
        refine ⟨fun _ => h1 c, fun k hk => by omega⟩
      · rw [if_neg c]
        refine ⟨fun h => absurd h (by omega), fun k hk => ?_⟩
        obtain ⟨j, rfl⟩ : ∃ j, k = j + 1 := ⟨k - 1, by omega⟩
        obtain ⟨q1, q2⟩ := h2 j (by omega)
        exact ⟨by simpa using q1, by simpa using q2⟩
end Go.Proofs.Mv.App
open Go Go.Proofs Go.Proofs.Mv.V
set_option maxRecDepth 10000
namespace Go.Proofs.Mv.App
variable [GI]
theorem no_next {α : Type} {q : α → Bool} {l : List α} {i : Nat} (h : i < l.length) (al : ∀ x ∈ l.take i, q x = false) (e : q l[i] = false) : ∀ x ∈ l.take (i + 1), q x = false := fun x hx => by
  rw [List.take_succ_eq_append_getElem h] at hx
  rcases List.mem_append.1 hx with hx | hx
  · exact al x hx
  · simp at hx; rw [hx]; exact e
theorem no_end {α : Type} {q : α → Bool} {l : List α} {i : Nat} (h : l.length ≤ i) (al : ∀ x ∈ l.take i, q x = false) : findI q l = -1 := by
  rw [List.take_of_length_le h] at al; exact findI_no al
theorem cROf9 {l : List (List UInt8)} (hl : l.length ≤ 1000000) (s : List UInt8) : Pc Tryz.prog 79 [sl1 l, S s] (I (findI (fun x => decide (x = s)) l)) := by
  refine pc_of (pur_I _) (fun m n => ?_)
  have hL : (l.map fun s => [S s]).length = l.length := by simp
  have hG : ∀ i (h : i < l.length), (l.map fun s => [S s])[i]? = some [S l[i]] := fun i h => by simp [h]
  simp only [sl1]
  generalize (l.map fun s => [S s]) = EL at hL hG
  refine acalls_vc [0, 1, 4, 5, 9, 17] Tryz.func79 Tryz.ntmps79 (by kernel_rfl) rfl rfl (by simp) ?_
  simp -dsimp [I, S, Tt]
  refine vloop_as (β := Nat) (fun i => [(0, .sl 1 EL), (1, S s), (5, I i)]) (fun i m2 n2 => m2 = m ∧ n2 = n ∧ i ≤ l.length ∧ ∀ x ∈ l.take i, decide (x = s) = false) (fun i => l.length - i) 0 (by simp [I, S]) ⟨rfl, rfl, by omega, by simp⟩ ?_
  rintro i m2 n2 ⟨rfl, rfl, le, al⟩
  by_cases hi : (i : Int) < l.length
  · have hi' : i < l.length := by omega
    have wi : IntKind.i64.wrap ((i : Int) + 1) = (i : Int) + 1 := wrap_i64 (by omega) (by omega)
    have hiN : i < EL.length := by omega
    have hgi : EL[i] = [S l[i]] := get_opt (hG i hi') hiN
    by_cases c : l[i] = s
    · have c' : (l[i] == s) = true := by simpa using c
      simp -dsimp [I, S, Tt, hL, hi, hi', hiN, hgi, c']
      exact pcq' (by rw [findI_hit hi' (by simpa using c) al])
    · have c' : (l[i] == s) = false := by simpa using c
      simp -dsimp [I, S, Tt, hL, hi, hi', hiN, hgi, c', wi]
      exact rnd (i + 1) (by omega) (by simp [I, S]) ⟨rfl, rfl, by omega, no_next hi' al (by simpa using c)⟩
  · simp -dsimp [I, S, Tt, hL, hi]
    exact pcq' (by rw [no_end (by omega) al])
theorem cROf8 {l : List Nm} (hl : l.length ≤ 1000000) (s : List UInt8) : Pc Tryz.prog 34 [.sl 8 (l.map nnD), S s] (I (findI (fun x => decide (x.1 = s)) l)) := by
  refine pc_of (pur_I _) (fun m n => ?_)
  have hL : (l.map nnD).length = l.length := by simp
  have hG : ∀ i (h : i < l.length), (l.map nnD)[i]? = some (nnD l[i]) := fun i h => by simp [h]
  generalize l.map nnD = EL at hL hG
  refine acalls_vc [0, 1, 4, 5, 9, 18] Tryz.func34 Tryz.ntmps34 (by kernel_rfl) rfl rfl (by simp) ?_
  simp -dsimp [I, S, Tt]
  refine vloop_as (β := Nat) (fun i => [(0, .sl 8 EL), (1, S s), (5, I i)]) (fun i m2 n2 => m2 = m ∧ n2 = n ∧ i ≤ l.length ∧ ∀ x ∈ l.take i, decide (x.1 = s) = false) (fun i => l.length - i) 0 (by simp [I, S]) ⟨rfl, rfl, by omega, by simp⟩ ?_
  rintro i m2 n2 ⟨rfl, rfl, le, al⟩
  by_cases hi : (i : Int) < l.length
  · have hi' : i < l.length := by omega
    have wi : IntKind.i64.wrap ((i : Int) + 1) = (i : Int) + 1 := wrap_i64 (by omega) (by omega)
    have hiN : i < EL.length := by omega
    have hgi : EL[i] = nnD l[i] := get_opt (hG i hi') hiN
    have hkm : nnD l[i] = S l[i].1 :: tyD l[i].2 := rfl
    generalize tyD l[i].2 = TT at hkm
    by_cases c : l[i].1 = s
    · have c' : (l[i].1 == s) = true := by simpa using c
      simp -dsimp [I, S, Tt, hL, hi, hi', hiN, hgi, hkm, c']
      exact pcq' (by rw [findI_hit hi' (by simpa using c) al])
    · have c' : (l[i].1 == s) = false := by simpa using c
      simp -dsimp [I, S, Tt, hL, hi, hi', hiN, hgi, hkm, c', wi]
      exact rnd (i + 1) (by omega) (by simp [I, S]) ⟨rfl, rfl, by omega, no_next hi' al (by simpa using c)⟩
  · simp -dsimp [I, S, Tt, hL, hi]
    exact pcq' (by rw [no_end (by omega) al])
theorem cRFind8 {env : List Ifc} (hl : env.length ≤ 1000000) (x : Imp) : Pc Tryz.prog 33 [.sl 5 (env.map ifD), S x.pkg, I x.major, S x.mod] (I (findI (forI x) env)) := by
  refine pc_of (pur_I _) (fun m n => ?_)
  have hL : (env.map ifD).length = env.length := by simp
  have hG : ∀ i (h : i < env.length), (env.map ifD)[i]? = some (ifD env[i]) := fun i h => by simp [h]
  generalize env.map ifD = EL at hL hG
  obtain ⟨pkg, major, mod, as_⟩ := x
  simp only
  refine acalls_vc [0, 1, 2, 3, 8, 9, 13, 40] Tryz.func33 Tryz.ntmps33 (by kernel_rfl) rfl rfl (by simp) ?_
  simp -dsimp [I, S, Tt]
  refine vloop_as (β := Nat) (fun i => [(0, .sl 5 EL), (1, S pkg), (2, I major), (3, S mod), (9, I i)]) (fun i m2 n2 => m2 = m ∧ n2 = n ∧ i ≤ env.length ∧ ∀ f ∈ env.take i, forI ⟨pkg, major, mod, as_⟩ f = false) (fun i => env.length - i) 0 (by simp [I, S]) ⟨rfl, rfl, by omega, by simp⟩ ?_
  rintro i m2 n2 ⟨rfl, rfl, le, al⟩
  by_cases hi : (i : Int) < env.length
  · have hi' : i < env.length := by omega
    have wi : IntKind.i64.wrap ((i : Int) + 1) = (i : Int) + 1 := wrap_i64 (by omega) (by omega)
    have hiN : i < EL.length := by omega
    have hgi : EL[i] = ifD env[i] := get_opt (hG i hi') hiN
    have him : ifD env[i] = [S env[i].pkg, I env[i].major, S env[i].mod, .sl 8 (env[i].types.map nnD), .sl 8 (env[i].vals.map nnD)] := rfl
    have hf : forI ⟨pkg, major, mod, as_⟩ env[i] = (decide (env[i].pkg = pkg) && decide (env[i].major = major) && decide (env[i].mod = mod)) := rfl
    have hit := fun h => findI_hit (q := forI ⟨pkg, major, mod, as_⟩) hi' h al
    have nx := fun h => no_next (q := forI ⟨pkg, major, mod, as_⟩) hi' al h
    clear al
    generalize forI ⟨pkg, major, mod, as_⟩ env[i] = R at hf hit nx
    generalize env[i].types.map nnD = TL at him
    generalize env[i].vals.map nnD = VL at him
    generalize env[i].pkg = p1 at *
    generalize env[i].major = j1 at *
    generalize env[i].mod = m1 at *
    by_cases c1 : p1 = pkg
    case neg =>
      have d1 : (p1 == pkg) = false := by simpa using c1
      simp -dsimp [I, S, Tt, hL, hi, hi', hiN, hgi, him, d1, wi]
      exact rnd (i + 1) (by omega) (by simp [I, S]) ⟨rfl, rfl, by omega, nx (by rw [hf]; simp [c1])⟩
    subst c1
    by_cases c2 : j1 = major
    case neg =>
      have d2 : (j1 == major) = false := by simpa using c2
      simp -dsimp [I, S, Tt, hL, hi, hi', hiN, hgi, him, d2, wi]
      exact rnd (i + 1) (by omega) (by simp [I, S]) ⟨rfl, rfl, by omega, nx (by rw [hf]; simp [c2])⟩
    subst c2
    by_cases c3 : m1 = mod
    case neg =>
      have d3 : (m1 == mod) = false := by simpa using c3
      simp -dsimp [I, S, Tt, hL, hi, hi', hiN, hgi, him, d3, wi]
      exact rnd (i + 1) (by omega) (by simp [I, S]) ⟨rfl, rfl, by omega, nx (by rw [hf]; simp [c3])⟩
    subst c3
    simp -dsimp [I, S, Tt, hL, hi, hi', hiN, hgi, him]
    exact pcq' (by rw [hit (by rw [hf]; simp)])
  · simp -dsimp [I, S, Tt, hL, hi]
    exact pcq' (by rw [no_end (by omega) al])
theorem cRFind7 {md : List UInt8} {imps : List Imp} (s : List UInt8) : Pc Tryz.prog 114 [.agg (mdX md imps), S s] (I (-1)) := by
  refine pc_of (pur_I _) (fun m n => ?_)
  have fr : ∀ o j, j < n → (m.set n o) j = m j := fun o j hj => set_ne _ _ _ _ (by omega)
  simp only [mdX]
  generalize imps.map impD = IL
  refine acalls_vc [0, 1, 2, 4, 5, 10, 29] Tryz.func114 Tryz.ntmps114 (by kernel_rfl) rfl rfl (by simp) ?_
  simp -dsimp [I, S, Tt]
  refine vloop_as (β := Unit) (fun _ => [(1, S s), (2, .ptr n 0 0 0), (5, I 0)]) (fun _ m2 n2 => m2 = m.set n ⟨3, [[S md, .sl 4 IL, .sl 9 []]], 0⟩ ∧ n2 = n + 1) (fun _ => 0) () (by simp [I, S]) ⟨by simp [S], rfl⟩ ?_
  rintro _ m2 n2 ⟨rfl, rfl⟩
  simp -dsimp [I, S, Tt]
  exact pcq rfl (fr _)
set_option maxHeartbeats 1000000 in
theorem cRKnown {md : List UInt8} {imps : List Imp} (hi : imps.length ≤ 1000000) (t : Ty) : Pc Tryz.prog 75 [.agg (mdX md imps), .agg (tyD t)] (Tt (knownT imps t)) := by
  refine pc_of (pur_T _) (fun m n => ?_)
  have nn1 : n ≠ n + 1 := by omega
  have n1n : n + 1 ≠ n := by omega
  have fr : ∀ o o' j, j < n → ((m.set n o).set (n + 1) o') j = m j := fun o o' j hj => by rw [set_ne _ _ _ _ (by omega), set_ne _ _ _ _ (by omega)]
  have hf := fun s => cRFind7 (md := md) (imps := imps) s
  obtain ⟨k1, p1, j1, m1, n1, na, sa⟩ := t
  have hkn : knownT imps (.mk k1 p1 j1 m1 n1 na sa) = (decide (m1 ≠ []) && imps.any fun i => decide (i.as_ = m1)) := rfl
  rw [hkn]
  have hL : (imps.map impD).length = imps.length := by simp
  have hG : ∀ i (h : i < imps.length), (imps.map impD)[i]? = some (impD imps[i]) := fun i h => by simp [h]
  simp only [tyD, sl1, mdX] at hf ⊢
  generalize imps.map impD = IL at hf hL hG
  generalize (na.map fun s => [S s]) = NA
  generalize tysD sa = SA
  refine acalls_vc [0, 1, 2, 3, 4, 5, 8, 18, 29] Tryz.func75 Tryz.ntmps75 (by kernel_rfl) rfl rfl (by simp) ?_
  by_cases c1 : m1 = []
  · subst c1
    simp -dsimp [I, S, Tt, set_ne, nn1, n1n]
    refine pcall (hf _) ?_
    simp -dsimp [I, S, Tt]
    exact pcq (by simp [Tt]) (fr _ _)
  · have d1 : (m1 == []) = false := by simpa using c1
    simp -dsimp [I, S, Tt, set_ne, nn1, n1n, c1, d1]
    refine vloop_as (β := Nat) (fun i => [(2, .ptr n 0 0 0), (3, .ptr (n + 1) 0 0 0), (5, I i)]) (fun i m2 n2 => m2 = (m.set n ⟨3, [[S md, .sl 4 IL, .sl 9 []]], 0⟩).set (n + 1) ⟨7, [[I k1, S p1, I j1, S m1, S n1, .sl 1 NA, .sl 7 SA]], 0⟩ ∧ n2 = n + 1 + 1 ∧ i ≤ imps.length ∧ ∀ x ∈ imps.take i, decide (x.as_ = m1) = false) (fun i => imps.length - i) 0 (by simp [I]) ⟨by simp [I, S], rfl, by omega, by simp⟩ ?_
    rintro i m2 n2 ⟨rfl, rfl, le, al⟩
    by_cases hi : (i : Int) < imps.length
    · have hi' : i < imps.length := by omega
      have wi : IntKind.i64.wrap ((i : Int) + 1) = (i : Int) + 1 := wrap_i64 (by omega) (by omega)
      have hiN : i < IL.length := by omega
      have hgi : IL[i] = impD imps[i] := get_opt (hG i hi') hiN
      have him : impD imps[i] = [S imps[i].pkg, I imps[i].major, S imps[i].mod, S imps[i].as_] := rfl
      simp -dsimp [I, S, Tt, set_ne, nn1, n1n, hL, hi, hi', hiN, hgi, him]
      refine vdraw_of [0, 1, 0, 7, 15, 31, 0, 64, 255] [0, 1, 2, 3, 4, 5, 6, 7, 8] (by kernel_rfl) (by kernel_rfl) ?_
      by_cases c : imps[i].as_ = m1
      · have c' : (imps[i].as_ == m1) = true := by simpa using c
        simp -dsimp [I, S, Tt, set_ne, nn1, n1n, hL, hi, hi', hiN, hgi, him, c']
        refine pcq ?_ (fr _ _)
        rw [show (imps.any fun i => decide (i.as_ = m1)) = true from List.any_eq_true.2 ⟨_, List.getElem_mem hi', by simpa using c⟩]; simp [c1]
      · have c' : (imps[i].as_ == m1) = false := by simpa using c
        simp -dsimp [I, S, Tt, set_ne, nn1, n1n, hL, hi, hi', hiN, hgi, him, c', wi]
        exact rnd (i + 1) (by omega) (by simp [I]) ⟨by simp [I, S], rfl, by omega, no_next hi' al (by simpa using c)⟩
    · rw [List.take_of_length_le (by omega)] at al
      simp -dsimp [I, S, Tt, set_ne, nn1, n1n, hL, hi]
      refine pcq ?_ (fr _ _)
      rw [show (imps.any fun i => decide (i.as_ = m1)) = false from List.any_eq_false.2 fun x hx => by simpa using al x hx]; simp
end Go.Proofs.Mv.App
open Go Go.Proofs Go.Proofs.Mv.V
set_option maxRecDepth 10000
namespace Go.Proofs.Mv.App
mutual
theorem locs_len : ∀ t : Ty, (locs t).length ≤ manyT t
  | .mk kind pkg major mod name names subs => by
    have := locss_len subs
    rw [locs, manyT, List.length_append]
    split <;> simp <;> omega
theorem locss_len : ∀ l : List Ty, (locs.locss l).length ≤ manyTs l
  | [] => by simp [locs.locss]
  | t :: ts => by
    have h1 := locs_len t
    have h2 := locss_len ts
    rw [locs.locss, manyTs, List.length_append]; omega
end
theorem locss_app : ∀ a b : List Ty, locs.locss (a ++ b) = locs.locss a ++ locs.locss b
  | [], b => rfl
  | x :: a, b => by rw [List.cons_append, locs.locss, locs.locss, locss_app a b, List.append_assoc]
theorem locss_take {l : List Ty} {i : Nat} (h : i < l.length) : locs.locss (l.take (i + 1)) = locs.locss (l.take i) ++ locs l[i] := by
  rw [List.take_succ_eq_append_getElem h, locss_app, locs.locss, locs.locss, List.append_nil]
theorem manyTs_get {l : List Ty} {i : Nat} (h : i < l.length) : manyTs (l.take i) + manyT l[i] ≤ manyTs l := by
  induction l generalizing i with
  | nil => simp at h
  | cons x l ihl =>
    cases i with
    | zero => simp [manyTs]
    | succ i =>
      have := ihl (i := i) (by simpa using h)
      simp only [List.take_succ_cons, manyTs, List.getElem_cons_succ]; omega
variable [GI]
theorem pur_tyl {l : List Ty} : ∀ e ∈ l.map tyD, ∀ d ∈ e, Pur d := by
  intro e he d hd
  obtain ⟨i, _, rfl⟩ := List.mem_map.1 he
  exact pur_ty i d hd
set_option maxHeartbeats 1000000 in
theorem cRPlain {t : Ty} (ht : TyW t) : Pc Tryz.prog 35 [.agg (tyD t)] (Tt (plainT t)) := by
  induction ht with
  | mk kind pkg major mod name names subs l1 l2 l3 l4 l5 l6 l7 ih =>
    refine pc_of (pur_T _) (fun m n => ?_)
    have fr : ∀ o j, j < n → (m.set n o) j = m j := fun o j hj => set_ne _ _ _ _ (by omega)
    have hL : (subs.map tyD).length = subs.length := by simp
    have hG : ∀ i (h : i < subs.length), (subs.map tyD)[i]? = some (tyD subs[i]) := fun i h => by simp [h]
    have hp : plainT (.mk kind pkg major mod name names subs) = (!(decide (kind = 8)) && plainTs subs) := by rw [plainT]; simp
    have hps : plainTs subs = subs.all plainT := by
      clear hp ih hG hL l1 l2 l7
      induction subs with
      | nil => rfl
      | cons x l ihl => rw [plainTs, List.all_cons, ihl]
    rw [hp, hps]
    simp only [tyD, tysD_eq, sl1]
    generalize (names.map fun s => [S s]) = NA
    generalize subs.map tyD = SA at hL hG
    refine acalls_vc [0, 1, 2, 3, 4, 7, 12, 22] Tryz.func35 Tryz.ntmps35 (by kernel_rfl) rfl rfl (by simp) ?_
    have hk : kind = 8 ∨ ¬ kind = 8 := by omega
    rcases hk with k8 | k8
    · subst k8
      simp -dsimp [I, S, Tt]
      exact pcq rfl (fr _)
    · have k8' : (kind == 8) = false := by simpa using k8
      simp -dsimp [I, S, Tt, k8', hL]
      refine vloop_as (β := Nat) (fun i => [(1, .ptr n 0 0 0), (3, I i)]) (fun i m2 n2 => m2 = m.set n ⟨7, [[I kind, S pkg, I major, S mod, S name, .sl 1 NA, .sl 7 SA]], 0⟩ ∧ n2 = n + 1 ∧ i ≤ subs.length ∧ ∀ x ∈ subs.take i, plainT x = true) (fun i => subs.length - i) 0 (by simp [I]) ⟨by simp [I, S], rfl, by omega, by simp⟩ ?_
      rintro i m2 n2 ⟨rfl, rfl, le, al⟩
      by_cases c : (i : Int) < subs.length
      · have c' : i < subs.length := by omega
        have wi : IntKind.i64.wrap ((i : Int) + 1) = (i : Int) + 1 := wrap_i64 (by omega) (by omega)
        have hiA : i < SA.length := by omega
        have g1 : SA[i] = tyD subs[i] := get_opt (hG i c') hiA
        have hc := ih subs[i] (List.getElem_mem c')
        have z1 := tyD_len subs[i]
        generalize tyD subs[i] = XX at g1 hc z1
        have t1 : List.take 7 XX = XX := List.take_of_length_le (by omega)
        simp -dsimp [I, S, Tt, c, c', hiA, g1, hL, z1, t1]
        refine pcall hc ?_
        cases e : plainT subs[i] with
        | false =>
          simp -dsimp [I, S, Tt]
          refine pcq ?_ (fr _)
          rw [show subs.all plainT = false from List.all_eq_false.2 ⟨_, List.getElem_mem c', by simp [e]⟩]; simp
        | true =>
          simp -dsimp [I, S, Tt, wi]
          refine rnd (i + 1) (by omega) (by simp [I]) ⟨by simp [I, S], rfl, by omega, fun x hx => ?_⟩
          rw [List.take_succ_eq_append_getElem c'] at hx
          rcases List.mem_append.1 hx with hx | hx
          · exact al x hx
          · simp at hx; rw [hx]; exact e
      · rw [List.take_of_length_le (by omega)] at al
        simp -dsimp [I, S, Tt, c, hL]
        refine pcq ?_ (fr _)
        rw [show subs.all plainT = true from List.all_eq_true.2 al]; simp [k8]
def LcM (o : V.Obj) (pre : List Ty) (m : Mem) (n : Nat) (σ : Nat → D) (m2 : Mem) (n2 : Nat) : Prop :=
  σ 1 = .ptr n 0 0 0 ∧ m2 n = some o ∧ (∀ j, j < n → m2 j = m j) ∧ n + 1 ≤ n2 ∧ Lst m2 7 (pre.map tyD) (σ 3) ∧ ∀ j, kof (σ 3) = some j → n + 1 ≤ j ∧ j < n2
set_option maxHeartbeats 2000000 in
theorem cRLocals {t : Ty} (ht : TyW t) : manyT t ≤ 1000000 → Pc Tryz.prog 74 [.agg (tyD t)] (.sl 7 ((locs t).map tyD)) := by
  induction ht with
  | mk kind pkg major mod name names subs l1 l2 l3 l4 l5 l6 l7 ih =>
    intro hb
    refine pc_pub (fun m n => ?_)
    rw [manyT] at hb
    have hL : (subs.map tyD).length = subs.length := by simp
    have hG : ∀ i (h : i < subs.length), (subs.map tyD)[i]? = some (tyD subs[i]) := fun i h => by simp [h]
    obtain ⟨pre, hpre⟩ : ∃ pre, pre = (if kind = 8 then [Ty.mk kind pkg major mod name names subs] else []) := ⟨_, rfl⟩
    have hlo : locs (.mk kind pkg major mod name names subs) = pre ++ locs.locss subs := by rw [locs, hpre]
    have hpl : pre.length ≤ 1 := by rw [hpre]; split <;> simp
    have htyD : tyD (.mk kind pkg major mod name names subs) = [I kind, S pkg, I major, S mod, S name, sl1 names, .sl 7 (subs.map tyD)] := by simp only [tyD, tysD_eq]
    have hz7 := tyD_len (.mk kind pkg major mod name names subs)
    rw [hlo]
    rw [htyD] at hz7 ⊢
    generalize hBX : [I kind, S pkg, I major, S mod, S name, sl1 names, .sl 7 (subs.map tyD)] = BX at hz7
    have hpm : pre.map tyD = if kind = 8 then [BX] else [] := by
      rw [hpre, ← hBX, ← htyD]; split <;> rfl
    refine acalls_vc [0, 1, 2, 3, 4, 7, 16] Tryz.func74 Tryz.ntmps74 (by kernel_rfl) rfl rfl (by simp) ?_
    have tb : List.take 7 BX = BX := List.take_of_length_le (by omega)
    rw [vc_seq]
    simp -dsimp [hz7, tb, -vc_seq]
    rw [vc_seq]
    simp -dsimp [hz7, tb, -vc_seq]
    rw [vc_seq]
    refine vc_mid (LcM ⟨7, [BX], 0⟩ pre m n) ?_ ?_
    · by_cases k8 : kind = 8
      · subst k8
        rw [if_pos rfl] at hpm
        subst hBX
        simp -dsimp [I, S, Tt, hz7, sl1]
        refine ⟨by simp, ?_, fun j hj => by rw [set_ne _ _ _ _ (by omega), set_ne _ _ _ _ (by omega), set_ne _ _ _ _ (by omega)], by omega, ?_, ?_⟩
        · rw [set_ne _ _ _ _ (by omega), set_ne _ _ _ _ (by omega)]; exact set_same _ _ _
        · rw [hpm]
          show Lst _ 7 _ (.own (n + 1 + 1) 0 0 1 7)
          exact Lst.own (es := [_]) (set_same _ _ _)
        · show ∀ j, kof (.own (n + 1 + 1) 0 0 1 7) = some j → _
          intro j hj
          rw [kof_own] at hj; obtain rfl := Option.some.inj hj
          omega
      · rw [if_neg k8] at hpm
        have k8' : (kind == 8) = false := by simpa using k8
        subst hBX
        simp -dsimp [I, S, Tt, hz7, sl1, k8']
        exact ⟨by simp, set_same _ _ _, fun j hj => set_ne _ _ _ _ (by omega), by omega, by rw [hpm]; simpa using Lst.nil, by simp⟩
    · rintro σ m2 n2 ⟨h1, e0, fr, nn, hS, kS⟩
      subst hBX
      generalize subs.map tyD = SA at e0 hL hG
      simp -dsimp [h1, e0, I, S, Tt, -vc_block]
      rw [vc_block]
      simp -dsimp [h1, e0, I, S, Tt, -vc_block]
      refine vloop_as (β := Nat × D) (fun b => [(1, .ptr n 0 0 0), (3, b.2), (4, I b.1)]) (fun b mm nn => mm n = some ⟨7, [[I kind, S pkg, I major, S mod, S name, sl1 names, .sl 7 SA]], 0⟩ ∧ (∀ j, j < n → mm j = m j) ∧ n + 1 ≤ nn ∧ b.1 ≤ subs.length ∧ Lst mm 7 ((pre ++ locs.locss (subs.take b.1)).map tyD) b.2 ∧ ∀ j, kof b.2 = some j → n + 1 ≤ j ∧ j < nn) (fun b => subs.length - b.1) (0, σ 3) (by simp [I, h1]) ⟨e0, fr, nn, by simp, by simpa [locs.locss] using hS, kS⟩ ?_
      clear hS kS e0 fr nn h1
      rintro ⟨i, dl⟩ mm nn ⟨e0, fr, nn1, le, hS, kS⟩
      simp only at le hS kS ⊢
      by_cases c : (i : Int) < subs.length
      · have c' : i < subs.length := by omega
        have wi : IntKind.i64.wrap ((i : Int) + 1) = (i : Int) + 1 := wrap_i64 (by omega) (by omega)
        have hiA : i < SA.length := by omega
        have g1 : SA[i] = tyD subs[i] := get_opt (hG i c') hiA
        have hm1 := manyTs_get c'
        have hc := ih subs[i] (List.getElem_mem c') (by omega)
        have z1 := tyD_len subs[i]
        generalize tyD subs[i] = XX at g1 hc z1
        have t1 : List.take 7 XX = XX := List.take_of_length_le (by omega)
        have l1 := locs_len subs[i]
        have l2 := locss_len (subs.take i)
        simp -dsimp [I, S, Tt, e0, c, c', hiA, g1, hL, z1, t1, -vc_block]
        rw [vc_block]
        simp -dsimp [I, S, Tt, e0, c, c', hiA, g1, hL, z1, t1, -vc_block]
        refine pcall hc ?_
        simp -dsimp [I, S, Tt, e0, c, c', hiA, g1, hL, z1, t1, -vc_block]
        refine b4_append hS (fun j hj => by have := kS j hj; omega) trivial trivial (by omega) (by simp only [List.length_map, List.length_append]; omega) ?_
        intro d5 m5 n5 p1 p2 p3 p4
        simp -dsimp [I, S, Tt, wi, okD_lst p1, -vc_block]
        refine rnd (i + 1, d5) (by simp only; omega) (by simp [I]) ⟨?_, fun j hj => ?_, by omega, by simp only; omega, ?_, fun j hj => ?_⟩
        · rw [p4 n (by omega) (fun e => by have := kS n e; omega)]; exact e0
        · rw [p4 j (by omega) (fun e => by have := kS j e; omega)]; exact fr j hj
        · refine p1.map_eq ?_
          simp only
          rw [locss_take c', ← List.map_append, List.append_assoc]
        · have := p3 j hj
          rcases this.2 with h | h
          · have := kS j h; omega
          · omega
      · have : i = subs.length := by omega
        subst this
        rw [List.take_length] at hS
        simp -dsimp [I, S, Tt, e0, c, hL]
        rw [← List.map_append]
        exact pcp (.lstP hS (fun j hj => by have := kS j hj; omega) pur_tyl) fr
end Go.Proofs.Mv.App
