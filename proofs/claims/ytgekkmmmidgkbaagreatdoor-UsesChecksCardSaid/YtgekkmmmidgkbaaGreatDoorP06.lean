/- A part of the proofs of the seat YtgekkmmmidgkbaaGreatDoor: the abstract machine, the contracts of the functions, the laws. No condition of its own. -/
import Derived.Test.YtgekkmmmidgkbaaGreatDoorP00
import Derived.Test.YtgekkmmmidgkbaaGreatDoorP05
import Derived.Test.YtgekkmmmidgkbaaGreatDoorP04
set_option linter.unusedSimpArgs false
set_option linter.unusedVariables false
set_option linter.unusedSectionVars false
open Go Go.Proofs Go.Proofs.Mv.V
set_option maxRecDepth 10000
namespace Go.Proofs.Mv.App
variable [GI]
mutual
def plainT : Ty → Bool
  | .mk kind _ _ _ _ _ subs => decide (kind ≠ 8) && plainTs subs
def plainTs : List Ty → Bool
  | [] => true
  | t :: ts => plainT t && plainTs ts
end
theorem plainTs_eq : ∀ l : List Ty, plainTs l = l.all plainT
  | [] => rfl
  | t :: ts => by simp [plainTs, plainTs_eq ts]
theorem cEqS {a : List (List UInt8)} (ha : a.length ≤ 9223372036854775807) (b : List (List UInt8)) : Pc Tryz.prog 135 [sl1 a, sl1 b] (Tt (decide (a = b))) := by
  refine pc_of (pur_T _) (fun m n => ?_)
  have hL1 : (a.map fun s => [S s]).length = a.length := by simp
  have hG1 : ∀ i (h : i < a.length), (a.map fun s => [S s])[i]? = some [S a[i]] := fun i h => by simp [h]
  have hL2 : (b.map fun s => [S s]).length = b.length := by simp
  have hG2 : ∀ i (h : i < b.length), (b.map fun s => [S s])[i]? = some [S b[i]] := fun i h => by simp [h]
  have hno : ¬ a = b → decide (a = b) = false := fun h => by simpa using h
  have hyes : a = b → decide (a = b) = true := fun h => by simpa using h
  generalize decide (a = b) = R at hno hyes
  simp only [sl1]
  generalize (a.map fun s => [S s]) = NL at hL1 hG1
  generalize (b.map fun s => [S s]) = ML at hL2 hG2
  refine acalls_vc [0, 1, 4, 5, 10, 12, 13, 14, 24] Tryz.func135 Tryz.ntmps135 (by kernel_rfl) rfl rfl (by simp) ?_
  by_cases c : a.length = b.length
  · have c' : ((a.length : Int) == b.length) = true := by rw [beq_iff_eq]; omega
    have c2 : ((a.length : Int) != b.length) = false := by rw [bne_eq_false_iff_eq]; omega
    simp -dsimp [I, S, Tt, hL1, hL2, c', c2]
    refine vloop_as (β := Nat) (fun i => [(0, .sl 1 NL), (1, .sl 1 ML), (12, I a.length), (13, I i)]) (fun i m2 n2 => m2 = m ∧ n2 = n ∧ i ≤ a.length ∧ a.take i = b.take i) (fun i => a.length - i) 0 (by simp [I]) ⟨rfl, rfl, by omega, by simp⟩ ?_
    rintro i m2 n2 ⟨rfl, rfl, le, heq⟩
    by_cases hi : (i : Int) < a.length
    · have hi' : i < a.length := by omega
      have hi2 : i < b.length := by omega
      have hi3 : (i : Int) < b.length := by omega
      have wi : IntKind.i64.wrap ((i : Int) + 1) = (i : Int) + 1 := wrap_i64 (by omega) (by omega)
      have hiN : i < NL.length := by omega
      have hgi : NL[i] = [S a[i]] := get_opt (hG1 i hi') hiN
      have hiN' : i < ML.length := by omega
      have hgi' : ML[i] = [S b[i]] := get_opt (hG2 i hi2) hiN'
      simp -dsimp [I, S, Tt, hL1, hL2, hi, hi', hi2, hi3]
      refine vdraw_of [0, 0, 3, 7, 0, 0, 48, 112, 255] [0, 1, 2, 3, 4, 5, 6, 7, 8] (by kernel_rfl) (by kernel_rfl) ?_
      by_cases ce : a[i] = b[i]
      · have ce' : (a[i] == b[i]) = true := by simpa using ce
        simp -dsimp [I, S, Tt, hL1, hL2, hi, hi', hi2, hi3, hiN, hgi, hiN', hgi', wi, ce']
        refine rnd (i + 1) (by omega) (by simp [I]) ⟨rfl, rfl, by omega, ?_⟩
        rw [List.take_succ_eq_append_getElem hi', List.take_succ_eq_append_getElem hi2, heq, ce]
      · have ce' : (a[i] == b[i]) = false := by simpa using ce
        rw [hno (fun h => ce (by subst h; rfl))]
        simp -dsimp [I, S, Tt, hL1, hL2, hi, hi', hi2, hi3, hiN, hgi, hiN', hgi', wi, ce']
        exact pcq' rfl
    · have e1 : a.take i = a := List.take_of_length_le (by omega)
      have e2 : b.take i = b := List.take_of_length_le (by omega)
      rw [e1, e2] at heq
      rw [hyes heq]
      simp -dsimp [I, S, Tt, hL1, hL2, hi]
      exact pcq' rfl
  · have c' : ((a.length : Int) == b.length) = false := by rw [beq_eq_false_iff_ne]; omega
    have c2 : ((a.length : Int) != b.length) = true := by rw [bne_iff_ne]; omega
    rw [hno (fun h => c (by rw [h]))]
    simp -dsimp [I, S, Tt, hL1, hL2, c', c2]
    exact pcq' rfl
theorem cIdxTy {l : List (Ty)} {q : Ty → Bool} {fp : FuncId} {cs : List D} (hcs : List.length cs ≤ 3) (hp : ∀ x ∈ l, Pc Tryz.prog fp (.agg (tyD x) :: cs) (Tt (q x))) (hlen : l.length ≤ 9223372036854775807) :
    Pc Tryz.prog 166 [.sl 7 (l.map tyD), .func (.func fp) [] cs] (I (findI q l)) := by
  refine pc_of (pur_I _) (fun m n => ?_)
  have hL2 : (l.map tyD).length = l.length := by simp
  have hG2 : ∀ i (h : i < l.length), (l.map tyD)[i]? = some (tyD l[i]) := fun i h => by simp [h]
  generalize l.map tyD = EL at hL2 hG2
  refine acalls_vc [0, 1, 4, 5, 7, 8, 9, 16] Tryz.func166 Tryz.ntmps166 (by kernel_rfl) rfl rfl (by simp) ?_
  simp -dsimp [hL2, I]
  refine vloop_as (β := Nat) (fun i => [(0, .sl 7 EL), (1, .func (.func fp) [] cs), (7, I l.length), (8, I i)]) (fun i m2 n2 => m2 = m ∧ n2 = n ∧ i ≤ l.length ∧ ∀ x ∈ l.take i, q x = false) (fun i => l.length - i) 0 (by simp [I]) ⟨rfl, rfl, by omega, by simp⟩ ?_
  rintro i m2 n2 ⟨rfl, rfl, le, hno⟩
  by_cases hi : (i : Int) < l.length
  · have hi' : i < l.length := by omega
    have wi : IntKind.i64.wrap ((i : Int) + 1) = (i : Int) + 1 := wrap_i64 (by omega) (by omega)
    have hiN : i < EL.length := by omega
    have hgi : EL[i] = tyD l[i] := get_opt (hG2 i hi') hiN
    have hz : (tyD l[i]).length = 7 := by simp
    have hc := hp l[i] (List.getElem_mem hi')
    generalize tyD l[i] = XX at hgi hz hc
    have htz : List.take 7 XX = XX := List.take_of_length_le (by omega)
    simp -dsimp [I, Tt, hi, hi', hiN, hgi, hz, htz]
    refine pcall hc ?_
    cases e : q l[i] with
    | true =>
      simp -dsimp [I, Tt]
      exact pcq' (by rw [findI_hit hi' e hno])
    | false =>
      simp -dsimp [I, Tt, wi]
      refine rnd (i + 1) (by omega) (by simp [I]) ⟨rfl, rfl, by omega, fun x hx => ?_⟩
      rw [List.take_succ_eq_append_getElem hi'] at hx
      rcases List.mem_append.1 hx with hx | hx
      · exact hno x hx
      · simp at hx; rw [hx]; exact e
  · have : i = l.length := by omega
    subst this
    rw [List.take_length] at hno
    simp -dsimp [I, Tt, hi]
    exact pcq' (by rw [findI_no hno])
theorem cHasTy {l : List (Ty)} {q : Ty → Bool} {fp : FuncId} {cs : List D} (hcs : List.length cs ≤ 3) (hp : ∀ x ∈ l, Pc Tryz.prog fp (.agg (tyD x) :: cs) (Tt (q x))) (hlen : l.length ≤ 9223372036854775807) :
    Pc Tryz.prog 120 [.sl 7 (l.map tyD), .func (.func fp) [] cs] (Tt (l.any q)) := by
  refine pc_of (pur_T _) (fun m n => ?_)
  have hc := cIdxTy hcs hp hlen
  generalize l.map tyD = EL at hc
  refine acalls_vc [0, 1, 4] Tryz.func120 Tryz.ntmps120 (by kernel_rfl) rfl rfl (by simp) ?_
  simp -dsimp
  refine pcall hc ?_
  have h := findI_any q l
  cases e : l.any q with
  | true =>
    have : 0 ≤ findI q l := h.2 e
    simp -dsimp [I, Tt, this]
    exact pcq' rfl
  | false =>
    have : ¬ 0 ≤ findI q l := fun h' => by rw [h.1 h'] at e; cases e
    simp -dsimp [I, Tt, this]
    exact pcq' rfl
set_option maxHeartbeats 1000000 in
theorem cEqTy {a : List Ty} (ha : a.length ≤ 9223372036854775807) {b : List Ty} {fp : FuncId} (H : ∀ x ∈ a, ∀ y : Ty, Pc Tryz.prog fp [.agg (tyD x), .agg (tyD y)] (Tt (sameT x y))) :
    Pc Tryz.prog 136 [.sl 7 (a.map tyD), .sl 7 (b.map tyD), .func (.func fp) [] []] (Tt (decide (a = b))) := by
  refine pc_of (pur_T _) (fun m n => ?_)
  have hL1 : (a.map tyD).length = a.length := by simp
  have hG1 : ∀ i (h : i < a.length), (a.map tyD)[i]? = some (tyD a[i]) := fun i h => by simp [h]
  have hL2 : (b.map tyD).length = b.length := by simp
  have hG2 : ∀ i (h : i < b.length), (b.map tyD)[i]? = some (tyD b[i]) := fun i h => by simp [h]
  have hno : ¬ a = b → decide (a = b) = false := fun h => by simpa using h
  have hyes : a = b → decide (a = b) = true := fun h => by simpa using h
  generalize decide (a = b) = R at hno hyes
  generalize a.map tyD = NL at hL1 hG1
  generalize b.map tyD = ML at hL2 hG2
  refine acalls_vc [0, 1, 2, 6, 7, 8, 9, 14, 15, 16, 17, 18, 30] Tryz.func136 Tryz.ntmps136 (by kernel_rfl) rfl rfl (by simp) ?_
  by_cases c : a.length = b.length
  · have c' : ((a.length : Int) == b.length) = true := by rw [beq_iff_eq]; omega
    have c2 : ((a.length : Int) != b.length) = false := by rw [bne_eq_false_iff_eq]; omega
    simp -dsimp [I, S, Tt, hL1, hL2, c', c2]
    refine vloop_as (β := Nat) (fun i => [(0, .sl 7 NL), (1, .sl 7 ML), (2, .func (.func fp) [] []), (15, .sl 7 NL), (16, I a.length), (17, I i)]) (fun i m2 n2 => (∀ j, j < n → m2 j = m j) ∧ n ≤ n2 ∧ i ≤ a.length ∧ a.take i = b.take i) (fun i => a.length - i) 0 (by simp [I]) ⟨fun _ _ => rfl, by omega, by omega, by simp⟩ ?_
    rintro i m2 n2 ⟨hm2, nn, le, heq⟩
    by_cases hi : (i : Int) < a.length
    · have hi' : i < a.length := by omega
      have hi2 : i < b.length := by omega
      have hi3 : (i : Int) < b.length := by omega
      have wi : IntKind.i64.wrap ((i : Int) + 1) = (i : Int) + 1 := wrap_i64 (by omega) (by omega)
      have hiN : i < NL.length := by omega
      have hgi : NL[i] = tyD a[i] := get_opt (hG1 i hi') hiN
      have hiN' : i < ML.length := by omega
      have hgi' : ML[i] = tyD b[i] := get_opt (hG2 i hi2) hiN'
      have hc := H a[i] (List.getElem_mem hi') b[i]
      have z1 := tyD_len a[i]
      have z2 := tyD_len b[i]
      generalize tyD a[i] = XX at hgi hc z1
      generalize tyD b[i] = YY at hgi' hc z2
      have t1 : List.take 7 XX = XX := List.take_of_length_le (by omega)
      have t2 : List.take 7 YY = YY := List.take_of_length_le (by omega)
      have a1 : n2 ≠ n2 + 1 := by omega
      have a2 : n2 + 1 ≠ n2 := by omega
      have fr2 : ∀ o o' j, j < n → ((m2.set n2 o).set (n2 + 1) o') j = m j := fun o o' j hj => by rw [set_ne _ _ _ _ (by omega), set_ne _ _ _ _ (by omega)]; exact hm2 j hj
      simp -dsimp [I, S, Tt, hL1, hL2, hi, hi', hi2, hi3, hiN, hgi, hiN', hgi', z1, z2, t1, t2, set_ne, a1, a2]
      refine pcall hc ?_
      cases ce : sameT a[i] b[i]
      · rw [hno (fun h => by subst h; rw [(sameT_iff _ _).2 rfl] at ce; cases ce)]
        simp -dsimp [I, S, Tt]
        exact pcq rfl (fr2 _ _)
      · simp -dsimp [I, S, Tt, wi]
        refine rnd (i + 1) (by omega) (by simp [I]) ⟨fr2 _ _, by omega, by omega, ?_⟩
        rw [List.take_succ_eq_append_getElem hi', List.take_succ_eq_append_getElem hi2, heq, (sameT_iff _ _).1 ce]
    · have e1 : a.take i = a := List.take_of_length_le (by omega)
      have e2 : b.take i = b := List.take_of_length_le (by omega)
      rw [e1, e2] at heq
      rw [hyes heq]
      simp -dsimp [I, S, Tt, hL1, hL2, hi]
      exact pcq rfl hm2
  · have c' : ((a.length : Int) == b.length) = false := by rw [beq_eq_false_iff_ne]; omega
    have c2 : ((a.length : Int) != b.length) = true := by rw [bne_iff_ne]; omega
    rw [hno (fun h => c (by rw [h]))]
    simp -dsimp [I, S, Tt, hL1, hL2, c', c2]
    exact pcq' rfl
set_option maxHeartbeats 2000000 in
theorem cAlike {a : Ty} (ha : TyW a) : ∀ (b : Ty), Pc Tryz.prog 92 [.agg (tyD a), .agg (tyD b)] (Tt (sameT a b)) := by
  induction ha with
  | mk kind pkg major mod name names subs l1 l2 l3 l4 l5 l6 l7 ih =>
    intro b
    obtain ⟨kind', pkg', major', mod', name', names', subs'⟩ := b
    refine pc_of (pur_T _) (fun m n => ?_)
    have nn1 : n ≠ n + 1 := by omega
    have n1n : n + 1 ≠ n := by omega
    have fr : ∀ o o' j, j < n → ((m.set n o).set (n + 1) o') j = m j := fun o o' j hj => by rw [set_ne _ _ _ _ (by omega), set_ne _ _ _ _ (by omega)]
    have hN := cEqS l1 names'
    have hS := cEqTy (a := subs) l2 (b := subs') (fp := 92) ih
    have hno : ¬ (kind = kind' ∧ pkg = pkg' ∧ major = major' ∧ mod = mod' ∧ name = name' ∧ names = names' ∧ subs = subs') → sameT (.mk kind pkg major mod name names subs) (.mk kind' pkg' major' mod' name' names' subs') = false := fun h => by
      cases e : sameT (.mk kind pkg major mod name names subs) (.mk kind' pkg' major' mod' name' names' subs')
      · rfl
      · exact absurd (by simpa using (sameT_iff _ _).1 e) h
    have hyes : (kind = kind' ∧ pkg = pkg' ∧ major = major' ∧ mod = mod' ∧ name = name' ∧ names = names' ∧ subs = subs') → sameT (.mk kind pkg major mod name names subs) (.mk kind' pkg' major' mod' name' names' subs') = true := fun h => by
      rw [sameT_iff]; simpa using h
    generalize sameT (.mk kind pkg major mod name names subs) (.mk kind' pkg' major' mod' name' names' subs') = R at hno hyes
    simp only [tyD, sl1, tysD_eq] at hN ⊢
    generalize (names.map fun s => [S s]) = NL at hN
    generalize (names'.map fun s => [S s]) = NL' at hN
    generalize subs.map tyD = SL at hS
    generalize subs'.map tyD = SL' at hS
    refine acalls_vc [0, 1, 2, 3, 4] Tryz.func92 Tryz.ntmps92 (by kernel_rfl) rfl rfl (by simp) ?_
    by_cases c1 : kind = kind'
    case neg =>
      have d1 : (kind == kind') = false := by simpa using c1
      rw [hno (fun h => c1 h.1)]
      simp -dsimp [I, S, Tt, set_ne, nn1, n1n, d1]
      exact pcq rfl (fr _ _)
    subst c1
    by_cases c2 : pkg = pkg'
    case neg =>
      have d2 : (pkg == pkg') = false := by simpa using c2
      rw [hno (fun h => c2 h.2.1)]
      simp -dsimp [I, S, Tt, set_ne, nn1, n1n, d2]
      exact pcq rfl (fr _ _)
    subst c2
    by_cases c3 : major = major'
    case neg =>
      have d3 : (major == major') = false := by simpa using c3
      rw [hno (fun h => c3 h.2.2.1)]
      simp -dsimp [I, S, Tt, set_ne, nn1, n1n, d3]
      exact pcq rfl (fr _ _)
    subst c3
    by_cases c4 : mod = mod'
    case neg =>
      have d4 : (mod == mod') = false := by simpa using c4
      rw [hno (fun h => c4 h.2.2.2.1)]
      simp -dsimp [I, S, Tt, set_ne, nn1, n1n, d4]
      exact pcq rfl (fr _ _)
    subst c4
    by_cases c5 : name = name'
    case neg =>
      have d5 : (name == name') = false := by simpa using c5
      rw [hno (fun h => c5 h.2.2.2.2.1)]
      simp -dsimp [I, S, Tt, set_ne, nn1, n1n, d5]
      exact pcq rfl (fr _ _)
    subst c5
    simp -dsimp [I, S, Tt, set_ne, nn1, n1n]
    refine pcall hN ?_
    by_cases c6 : names = names'
    case neg =>
      have d6 : decide (names = names') = false := by simpa using c6
      rw [hno (fun h => c6 h.2.2.2.2.2.1), d6]
      simp -dsimp [I, S, Tt, set_ne, nn1, n1n]
      exact pcq rfl (fr _ _)
    have d6 : decide (names = names') = true := by simpa using c6
    rw [d6]
    simp -dsimp [I, S, Tt, set_ne, nn1, n1n]
    refine pcall hS ?_
    by_cases c7 : subs = subs'
    · have d7 : decide (subs = subs') = true := by simpa using c7
      rw [hyes ⟨rfl, rfl, rfl, rfl, rfl, c6, c7⟩, d7]
      simp -dsimp [I, S, Tt, set_ne, nn1, n1n]
      exact pcq rfl (fr _ _)
    · have d7 : decide (subs = subs') = false := by simpa using c7
      rw [hno (fun h => c7 h.2.2.2.2.2.2), d7]
      simp -dsimp [I, S, Tt, set_ne, nn1, n1n]
      exact pcq rfl (fr _ _)
theorem cSameK {a b : Ty} (ha : TyW a) (hb : TyW b) : Pc Tryz.prog 49 [.agg (tyD a), .agg (tyD b)] (Tt (mayT a && mayT b && sameT a b)) := by
  refine pc_of (pur_T _) (fun m n => ?_)
  have nn1 : n ≠ n + 1 := by omega
  have n1n : n + 1 ≠ n := by omega
  have fr : ∀ o o' j, j < n → ((m.set n o).set (n + 1) o') j = m j := fun o o' j hj => by rw [set_ne _ _ _ _ (by omega), set_ne _ _ _ _ (by omega)]
  have h1 : Pc Tryz.prog 80 [.agg (tyD a)] (Tt (mayT a)) := cMay ha
  have h2 : Pc Tryz.prog 80 [.agg (tyD b)] (Tt (mayT b)) := cMay hb
  have h3 := cAlike ha b
  have z1 := tyD_len a
  have z2 := tyD_len b
  generalize tyD a = XX at h1 h3 z1
  generalize tyD b = YY at h2 h3 z2
  have t1 : List.take 7 XX = XX := List.take_of_length_le (by omega)
  have t2 : List.take 7 YY = YY := List.take_of_length_le (by omega)
  refine acalls_vc [0, 1, 2, 3, 4] Tryz.func49 Tryz.ntmps49 (by kernel_rfl) rfl rfl (by simp) ?_
  simp -dsimp [I, S, Tt, set_ne, nn1, n1n, z1, z2, t1, t2]
  refine pcall h1 ?_
  cases e1 : mayT a
  · simp -dsimp [Tt]
    exact pcq (by simp [Tt]) (fr _ _)
  simp -dsimp [I, S, Tt, set_ne, nn1, n1n, z1, z2, t1, t2]
  refine pcall h2 ?_
  cases e2 : mayT b
  · simp -dsimp [Tt]
    exact pcq (by simp [Tt]) (fr _ _)
  simp -dsimp [I, S, Tt, set_ne, nn1, n1n, z1, z2, t1, t2]
  refine pcall h3 ?_
  simp -dsimp [Tt]
  exact pcq (by simp [Tt]) (fr _ _)
/-- Has a type no Local in it? -/
theorem any_nplain (l : List Ty) : (l.any fun x => !plainT x) = !l.all plainT := by
  induction l with
  | nil => rfl
  | cons x l ih => simp [ih]
theorem cPlain1 {t : Ty} (h : Pc Tryz.prog 132 [.agg (tyD t)] (Tt (plainT t))) : Pc Tryz.prog 173 [.agg (tyD t)] (Tt (!plainT t)) := by
  refine pc_of (pur_T _) (fun m n => ?_)
  have hz := tyD_len t
  generalize tyD t = XX at h hz
  have htz : List.take 7 XX = XX := List.take_of_length_le (by omega)
  refine acalls_vc [0, 1, 2] Tryz.func173 Tryz.ntmps173 (by kernel_rfl) rfl rfl (by simp) ?_
  simp -dsimp [hz, htz]
  refine pcall h ?_
  simp -dsimp [Tt]
  exact pcq rfl (fun j hj => by rw [set_ne _ _ _ _ (by omega)])
theorem cPlainI {t : Ty} (ht : TyW t) : Pc Tryz.prog 132 [.agg (tyD t)] (Tt (plainT t)) := by
  induction ht with
  | mk kind pkg major mod name names subs l1 l2 l3 l4 l5 l6 l7 ih =>
    refine pc_of (pur_T _) (fun m n => ?_)
    have hc := cHasTy (l := subs) (q := fun x => !plainT x) (fp := 173) (cs := []) (by simp) (fun x hx => cPlain1 (ih x hx)) l2
    rw [any_nplain] at hc
    have hp : plainT (.mk kind pkg major mod name names subs) = (decide (kind ≠ 8) && subs.all plainT) := by rw [plainT, plainTs_eq]
    rw [hp]
    simp only [tyD, sl1, tysD_eq]
    generalize (names.map fun s => [S s]) = NL
    generalize subs.map tyD = SL at hc
    refine acalls_vc [0, 1, 2] Tryz.func132 Tryz.ntmps132 (by kernel_rfl) rfl rfl (by simp) ?_
    by_cases k8 : kind = 8
    · subst k8
      simp -dsimp [I, S, Tt]
      exact pcq (by simp [Tt]) (fun j hj => by rw [set_ne _ _ _ _ (by omega)])
    · have k8' : (kind != 8) = true := by simpa using k8
      simp -dsimp [I, S, Tt, k8']
      refine pcall hc ?_
      simp -dsimp [Tt]
      exact pcq (by simp [Tt, k8]) (fun j hj => by rw [set_ne _ _ _ _ (by omega)])
theorem cPlainK {t : Ty} (ht : TyW t) : Pc Tryz.prog 90 [.agg (tyD t)] (Tt (mayT t && plainT t)) := by
  refine pc_of (pur_T _) (fun m n => ?_)
  have h1 : Pc Tryz.prog 80 [.agg (tyD t)] (Tt (mayT t)) := cMay ht
  have h2 := cPlainI ht
  have hz := tyD_len t
  generalize tyD t = XX at h1 h2 hz
  have htz : List.take 7 XX = XX := List.take_of_length_le (by omega)
  refine acalls_vc [0, 1, 2] Tryz.func90 Tryz.ntmps90 (by kernel_rfl) rfl rfl (by simp) ?_
  simp -dsimp [hz, htz]
  refine pcall h1 ?_
  cases e1 : mayT t
  · simp -dsimp [Tt]
    exact pcq (by simp [Tt]) (fun j hj => by rw [set_ne _ _ _ _ (by omega)])
  simp -dsimp [Tt, hz, htz]
  refine pcall h2 ?_
  simp -dsimp [Tt]
  exact pcq (by simp [Tt]) (fun j hj => by rw [set_ne _ _ _ _ (by omega)])
end Go.Proofs.Mv.App
open Go Go.Proofs Go.Proofs.Mv.V
set_option maxRecDepth 10000
namespace Go.Proofs.Mv.App
/-- What a record, or a variant, has of a name. -/
def fieldT : List (List UInt8) → List Ty → List UInt8 → Option Ty
  | n :: ns, t :: ts, s => if n = s then some t else fieldT ns ts s
  | _, _, _ => none
theorem fieldT_none : ∀ {ns : List (List UInt8)} {ts : List Ty} {s : List UInt8}, s ∉ ns → fieldT ns ts s = none
  | [], _, _, _ => rfl
  | n :: ns, [], _, _ => rfl
  | n :: ns, t :: ts, s, h => by
    simp only [List.mem_cons, not_or] at h
    rw [fieldT, if_neg (fun e => h.1 e.symm)]; exact fieldT_none h.2
theorem fieldT_at : ∀ {ns : List (List UInt8)} {ts : List Ty} {s : List UInt8} {i : Nat} (h : i < ns.length) (h' : i < ts.length), ns[i] = s → ns.Pairwise (fun a b => ltB a b = true) → fieldT ns ts s = some ts[i]
  | n :: ns, t :: ts, s, 0, _, _, e, _ => by simp at e; simp [fieldT, e]
  | n :: ns, t :: ts, s, i + 1, h, h', e, hp => by
    have hp' := List.pairwise_cons.1 hp
    have h1 : i < ns.length := by simpa using h
    have h2 : i < ts.length := by simpa using h'
    have hne : ¬ n = s := fun e2 => by
      have := hp'.1 ns[i] (List.getElem_mem h1)
      rw [show ns[i] = s by simpa using e, e2, ltB_irr] at this; cases this
    rw [fieldT, if_neg hne]
    simpa using fieldT_at h1 h2 (by simpa using e) hp'.2
variable [GI]
theorem cIsNaNc (s : List UInt8) : Pc Tryz.prog 207 [S s] (Tt false) := by
  refine pc_of (pur_T _) (fun m n => ?_)
  refine acalls_vc [0, 2] Tryz.func207 Tryz.ntmps207 (by kernel_rfl) rfl rfl (by simp) ?_
  simp -dsimp [S]
  exact pcq' rfl
theorem cIsNaNs (s : List UInt8) : Pc Tryz.prog 222 [S s] (Tt false) := by
  refine pc_of (pur_T _) (fun m n => ?_)
  refine acalls_vc [0, 2] Tryz.func222 Tryz.ntmps222 (by kernel_rfl) rfl rfl (by simp) ?_
  simp -dsimp [S]
  exact pcq' rfl
theorem cLessS (a b : List UInt8) : Pc Tryz.prog 217 [S a, S b] (Tt (ltB a b)) := by
  refine pc_of (pur_T _) (fun m n => ?_)
  refine acalls_vc [0, 1, 4] Tryz.func217 Tryz.ntmps217 (by kernel_rfl) rfl rfl (by simp) ?_
  simp -dsimp
  refine pcall (cIsNaNc a) ?_
  simp -dsimp [Tt, S]
  exact pcq' rfl
theorem half_eq {i j : Nat} (h : i + j ≤ 4000000) : IntKind.i64.wrap ((IntKind.u64.wrap (IntKind.i64.wrap ((i : Int) + j))).fdiv (2 ^ min 1 IntKind.u64.bits)) = (((i + j) / 2 : Nat) : Int) := by
  have h1 : IntKind.i64.wrap ((i : Int) + j) = (i : Int) + j := wrap_i64 (by omega) (by omega)
  have h2 : IntKind.u64.wrap ((i : Int) + j) = (i : Int) + j := by
    simp only [IntKind.wrap, IntKind.bits, IntKind.signed]
    simp; omega
  have h3 : min 1 IntKind.u64.bits = 1 := rfl
  have h4 : ((i : Int) + j).fdiv (2 ^ 1) = (((i + j) / 2 : Nat) : Int) := by
    rw [Int.fdiv_eq_ediv_of_nonneg _ (by decide)]; omega
  rw [h1, h2, h3, h4, wrap_i64 (by omega) (by omega)]
set_option maxHeartbeats 1000000 in
theorem cBin {l : List (List UInt8)} (hl : l.length ≤ 1000000) (hs : l.Pairwise fun a b => ltB a b = true) (s : List UInt8) (m : Mem) (n : Nat) :
    ACalls Tryz.prog 203 [sl1 l, S s] m n (fun d m' n' => (∃ (i : Nat) (f : Bool), d = .tup [I i, Tt f] ∧ (f = true → ∃ h : i < l.length, l[i] = s) ∧ (f = false → s ∉ l)) ∧ m' = m ∧ n' = n) := by
  have hL1 : (l.map fun s => [S s]).length = l.length := by simp
  have hG1 : ∀ i (h : i < l.length), (l.map fun s => [S s])[i]? = some [S l[i]] := fun i h => by simp [h]
  have hlt : ∀ (i j : Nat) (hi : i < l.length) (hj : j < l.length), i < j → ltB l[i] l[j] = true := fun i j hi hj hij => List.pairwise_iff_getElem.1 hs i j hi hj hij
  simp only [sl1]
  generalize (l.map fun s => [S s]) = NL at hL1 hG1
  refine acalls_done (R' := Hq (fun d m' n' => ∃ (i : Nat) (f : Bool), d = .tup [I i, Tt f] ∧ (f = true → ∃ h : i < l.length, l[i] = s) ∧ (f = false → s ∉ l) ∧ ∀ j, j < n → m' j = m j) tg) ?_ ?_
  · refine acalls_vc [0, 1, 4, 5, 6, 7, 8, 9, 15, 27] Tryz.func203 Tryz.ntmps203 (by kernel_rfl) rfl rfl (by simp) ?_
    simp -dsimp [I, S, Tt, hL1]
    refine vloop_as (β := Nat × Nat) (fun b => [(0, .sl 1 NL), (1, S s), (6, I l.length), (7, I b.1), (8, I b.2)]) (fun b m2 n2 => m2 = m ∧ n2 = n ∧ b.1 ≤ b.2 ∧ b.2 ≤ l.length ∧ (∀ k (h : k < l.length), k < b.1 → ltB l[k] s = true) ∧ (∀ k (h : k < l.length), b.2 ≤ k → ltB l[k] s = false)) (fun b => b.2 - b.1) (0, l.length) (by simp [I, S]) ⟨rfl, rfl, by omega, by omega, fun k h h' => by omega, fun k h h' => by omega⟩ ?_
    rintro ⟨i, j⟩ m2 n2 ⟨rfl, rfl, le, le2, hlo, hhi⟩
    simp only at le le2 hlo hhi ⊢
    by_cases hij : (i : Int) < j
    · have hij' : i < j := by omega
      have hw := half_eq (i := i) (j := j) (by omega)
      have h0 : (i + j) / 2 < l.length := by omega
      have h0' : (((i + j) / 2 : Nat) : Int) < l.length := by omega
      have hiN : (i + j) / 2 < NL.length := by omega
      have hgi : NL[(i + j) / 2] = [S l[(i + j) / 2]] := get_opt (hG1 _ h0) hiN
      have wi : IntKind.i64.wrap ((((i + j) / 2 : Nat) : Int) + 1) = (((i + j) / 2 : Nat) : Int) + 1 := wrap_i64 (by omega) (by omega)
      have q1 : i ≤ (i + j) / 2 := by omega
      have q2 : (i + j) / 2 < j := by omega
      generalize (i + j) / 2 = h at hw h0 h0' hiN hgi wi q1 q2
      simp -dsimp [I, S, Tt, hij, hij', hw, hL1, h0, h0', hiN, hgi]
      refine pcall (cLessS l[h] s) ?_
      cases ce : ltB l[h] s
      · simp -dsimp [I, S, Tt, wi]
        exact rnd (i, h) (by simp only; omega) (by simp [I, S]) ⟨rfl, rfl, by simp only; omega, by simp only; omega, hlo, fun k hk hkh => by
          rcases Nat.lt_or_eq_of_le hkh with e | e
          · cases e2 : ltB l[k] s
            · rfl
            · rw [ltB_tr (hlt h k h0 hk e) e2] at ce; cases ce
          · subst e; exact ce⟩
      · simp -dsimp [I, S, Tt, wi]
        exact rnd (h + 1, j) (by simp only; omega) (by simp [I, S]) ⟨rfl, rfl, by simp only; omega, by simp only; omega, fun k hk hkh => by
          simp only at hkh
          rcases Nat.lt_or_eq_of_le (show k ≤ h by omega) with e | e
          · exact ltB_tr (hlt k h hk h0 e) ce
          · subst e; exact ce, hhi⟩
    · have : i = j := by omega
      subst this
      have hnot : (∀ h : i < l.length, ¬ l[i] = s) → s ∉ l := fun h hm => by
        obtain ⟨k, hk, e⟩ := List.getElem_of_mem hm
        rcases Nat.lt_trichotomy k i with c | c | c
        · have := hlo k hk c; rw [e, ltB_irr] at this; cases this
        · subst c; exact h hk e
        · have h1 := hlt i k (by omega) hk c
          have h2 := hhi i (by omega) (Nat.le_refl _)
          rw [e] at h1; rw [h1] at h2; cases h2
      by_cases hi : (i : Int) < l.length
      · have hi' : i < l.length := by omega
        have hiN : i < NL.length := by omega
        have hgi : NL[i] = [S l[i]] := get_opt (hG1 i hi') hiN
        by_cases ce : l[i] = s
        · have ce' : (l[i] == s) = true := by simpa using ce
          simp -dsimp [I, S, Tt, hij, hi, hi', hL1, hiN, hgi, ce']
          exact hq ⟨i, true, by simp [I, Tt], fun _ => ⟨hi', ce⟩, fun h => (by cases h), fun _ _ => rfl⟩
        · have ce' : (l[i] == s) = false := by simpa using ce
          simp -dsimp [I, S, Tt, hij, hi, hi', hL1, hiN, hgi, ce']
          refine pcall (cIsNaNs l[i]) ?_
          simp -dsimp [I, S, Tt]
          exact hq ⟨i, false, by simp [I, Tt], fun h => (by cases h), fun _ => hnot fun _ => ce, fun _ _ => rfl⟩
      · simp -dsimp [I, S, Tt, hij, hi, hL1]
        exact hq ⟨i, false, by simp [I, Tt], fun h => (by cases h), fun _ => hnot fun h => by omega, fun _ _ => rfl⟩
  · rintro d m' n' ⟨i, f, rfl, h1, h2, h3⟩
    exact ⟨_, (Pur.tup (by intro d hd; simp only [List.mem_cons, List.not_mem_nil, or_false] at hd; rcases hd with rfl | rfl; exact pur_I _; exact pur_T _)).pub, h3, i, f, rfl, h1, h2⟩
/-- What of hands back. -/
def ofD (o : Option Ty) : D := .tup [.agg (tyD (o.getD Ty0)), Tt o.isSome]
theorem pur_ofD (o : Option Ty) : Pur (ofD o) := Pur.tup (by
  intro d hd
  simp only [List.mem_cons, List.not_mem_nil, or_false] at hd
  rcases hd with rfl | rfl
  · exact pur_tyA _
  · exact pur_T _)
set_option maxHeartbeats 1000000 in
theorem cOf {kind : Int} {pkg : List UInt8} {major : Int} {mod name : List UInt8} {names : List (List UInt8)} {subs : List Ty} (hl : names.length ≤ 1000000) (hs : names.Pairwise fun a b => ltB a b = true) (he : subs.length = names.length) (s : List UInt8) :
    Pc Tryz.prog 174 [.agg (tyD (.mk kind pkg major mod name names subs)), S s] (ofD (fieldT names subs s)) := by
  intro m n
  refine acalls_done (R' := Hq (fun d m' n' => PubAs n m' d (ofD (fieldT names subs s)) ∧ ∀ j, j < n → m' j = m j) tg) ?_ ?_
  · have nn1 : n ≠ n + 1 := by omega
    have n1n : n + 1 ≠ n := by omega
    have fr : ∀ o o' j, j < n → ((m.set n o).set (n + 1) o') j = m j := fun o o' j hj => by rw [set_ne _ _ _ _ (by omega), set_ne _ _ _ _ (by omega)]
    have hb := fun m n => cBin hl hs s m n
    have hL2 : (subs.map tyD).length = subs.length := by simp
    have hG2 : ∀ i (h : i < subs.length), (subs.map tyD)[i]? = some (tyD subs[i]) := fun i h => by simp [h]
    simp only [tyD, tysD_eq, sl1] at hb ⊢
    generalize subs.map tyD = SL at hL2 hG2
    generalize hN : (names.map fun s => [S s]) = NL at hb
    refine acalls_vcC [0, 1, 2, 4, 5, 6, 7, 16] Tryz.func174 Tryz.ntmps174 (by kernel_rfl) rfl rfl (by simp) ?_
    simp -dsimp [I, S, Tt, set_ne, nn1, n1n]
    refine aCall_of (hb _ _) ?_
    rintro d m2 n2 ⟨⟨i, f, rfl, h1, h2⟩, rfl, rfl⟩
    cases f
    · rw [fieldT_none (h2 rfl)]
      simp -dsimp [I, S, Tt, set_ne, nn1, n1n]
      refine hq ⟨?_, fr _ _⟩
      simp only [ofD, Option.getD_none, Option.isSome_none, tyD_zero]
      exact .tup (.cons (.agg (.cons (pur_I _).pub (.cons (pur_S _).pub (.cons (pur_I _).pub (.cons (pur_S _).pub (.cons (pur_S _).pub (.cons (pub_nil 1) (.cons (pub_nil 7) .nil)))))))) (.cons (pur_T _).pub .nil))
    · obtain ⟨hi, e⟩ := h1 rfl
      have hi2 : i < subs.length := by omega
      rw [fieldT_at hi hi2 e hs]
      have hi3 : (i : Int) < subs.length := by omega
      have hiN : i < SL.length := by omega
      have hgi : SL[i] = tyD subs[i] := get_opt (hG2 i hi2) hiN
      have hz := tyD_len subs[i]
      have hpu := pur_ofD (some subs[i])
      simp only [ofD, Option.getD_some, Option.isSome_some] at hpu ⊢
      generalize tyD subs[i] = XX at hgi hz hpu ⊢
      have htz : List.take 7 XX = XX := List.take_of_length_le (by omega)
      simp -dsimp [I, S, Tt, set_ne, nn1, n1n, hL2, hi2, hi3, hiN, hgi, hz, htz]
      exact hq ⟨hpu.pub, fr _ _⟩
  · rintro d m' n' ⟨h1, h2⟩
    exact ⟨_, h1, h2, rfl⟩
end Go.Proofs.Mv.App
open Go Go.Proofs Go.Proofs.Mv.V
set_option maxRecDepth 10000
namespace Go.Proofs.Mv.App
/-- Has a all that b has, each so that it fits? -/
def covF (f : Ty → Ty → Bool) (na : List (List UInt8)) (sa : List Ty) (nb : List (List UInt8)) (sb : List Ty) : Bool :=
  (nb.zip sb).all fun p => match fieldT na sa p.1 with
    | some x => f x p.2
    | none => false
variable [GI]
def tyO3 (kind : Int) (pkg : List UInt8) (major : Int) (mod name : List UInt8) (NL SL : List (List D)) : V.Obj := ⟨7, [[I kind, S pkg, I major, S mod, S name, .sl 1 NL, .sl 7 SL]], 0⟩
theorem fieldT_mem : ∀ {ns : List (List UInt8)} {ts : List Ty} {s : List UInt8} {x : Ty}, fieldT ns ts s = some x → x ∈ ts
  | [], _, _, _, h => by simp [fieldT] at h
  | n :: ns, [], _, _, h => by simp [fieldT] at h
  | n :: ns, t :: ts, s, x, h => by
    rw [fieldT] at h
    split at h
    · simp at h; simp [h]
    · exact List.mem_cons_of_mem _ (fieldT_mem h)
set_option maxHeartbeats 2000000 in
theorem cCov {fp : FuncId} {f : Ty → Ty → Bool} {k1 : Int} {p1 : List UInt8} {j1 : Int} {m1 n1 : List UInt8} {na : List (List UInt8)} {sa : List Ty} {k2 : Int} {p2 : List UInt8} {j2 : Int} {m2 n2 : List UInt8} {nb : List (List UInt8)} {sb : List Ty}
    (hl : na.length ≤ 1000000) (hs : na.Pairwise fun a b => ltB a b = true) (he : sa.length = na.length) (hl2 : nb.length ≤ 1000000) (he2 : sb.length = nb.length)
    (H : ∀ x ∈ sa, ∀ y ∈ sb, Pc Tryz.prog fp [.agg (tyD x), .agg (tyD y)] (Tt (f x y))) :
    Pc Tryz.prog 133 [.agg (tyD (.mk k1 p1 j1 m1 n1 na sa)), .agg (tyD (.mk k2 p2 j2 m2 n2 nb sb)), .func (.func fp) [] []] (Tt (covF f na sa nb sb)) := by
  refine pc_of (pur_T _) (fun m n => ?_)
  have nn1 : n ≠ n + 1 := by omega
  have n1n : n + 1 ≠ n := by omega
  have hof := fun s => cOf (kind := k1) (pkg := p1) (major := j1) (mod := m1) (name := n1) hl hs he s
  have hL1 : (nb.map fun s => [S s]).length = nb.length := by simp
  have hG1 : ∀ i (h : i < nb.length), (nb.map fun s => [S s])[i]? = some [S nb[i]] := fun i h => by simp [h]
  have hL2 : (sb.map tyD).length = sb.length := by simp
  have hG2 : ∀ i (h : i < sb.length), (sb.map tyD)[i]? = some (tyD sb[i]) := fun i h => by simp [h]
  have hz : (nb.zip sb).length = nb.length := by simp; omega
  have hno : ∀ i (h : i < nb.length) (h' : i < sb.length), (match fieldT na sa nb[i] with | some x => f x sb[i] | none => false) = false → covF f na sa nb sb = false := fun i h h' e => by
    unfold covF
    rw [List.all_eq_false]
    refine ⟨(nb[i], sb[i]), ?_, by simpa using e⟩
    rw [show (nb[i], sb[i]) = (nb.zip sb)[i]'(by omega) by simp]
    exact List.getElem_mem _
  have hyes : (∀ i (h : i < nb.length) (h' : i < sb.length), (match fieldT na sa nb[i] with | some x => f x sb[i] | none => false) = true) → covF f na sa nb sb = true := fun h => by
    unfold covF
    rw [List.all_eq_true]
    intro p hp
    obtain ⟨i, hi, rfl⟩ := List.getElem_of_mem hp
    have := h i (by omega) (by omega)
    simpa using this
  generalize covF f na sa nb sb = R at hno hyes
  have hA : tyD (.mk k2 p2 j2 m2 n2 nb sb) = [I k2, S p2, I j2, S m2, S n2, sl1 nb, .sl 7 (sb.map tyD)] := by simp only [tyD, tysD_eq]
  rw [hA]
  simp only [sl1]
  have z1 := tyD_len (.mk k1 p1 j1 m1 n1 na sa)
  generalize tyD (.mk k1 p1 j1 m1 n1 na sa) = AA at hof z1
  have t1 : List.take 7 AA = AA := List.take_of_length_le (by omega)
  generalize (nb.map fun s => [S s]) = NL at hL1 hG1
  generalize sb.map tyD = SL at hL2 hG2
  refine acalls_vc [0, 1, 2, 3, 4, 6, 7, 8, 9, 10, 12, 13, 14, 15, 37] Tryz.func133 Tryz.ntmps133 (by kernel_rfl) rfl rfl (by simp) ?_
  simp -dsimp [I, S, Tt, set_ne, nn1, n1n, hL1, z1, t1]
  refine vloop_as (β := Nat) (fun i => [(2, .func (.func fp) [] []), (3, .ptr n 0 0 0), (4, .ptr (n + 1) 0 0 0), (12, .sl 1 NL), (13, I nb.length), (14, I i)]) (fun i mm nn => mm n = some ⟨7, [AA], 0⟩ ∧ mm (n + 1) = some (tyO3 k2 p2 j2 m2 n2 NL SL) ∧ (∀ j, j < n → mm j = m j) ∧ n + 1 + 1 ≤ nn ∧ i ≤ nb.length ∧ ∀ q (h : q < nb.length) (h' : q < sb.length), q < i → (match fieldT na sa nb[q] with | some x => f x sb[q] | none => false) = true) (fun i => nb.length - i) 0 (by simp [I, hL1]) ⟨by simp [set_ne, nn1], by simp [tyO3, I, S], fun j hj => by rw [set_ne _ _ _ _ (by omega), set_ne _ _ _ _ (by omega)], by omega, by omega, fun q h h' hq0 => by omega⟩ ?_
  rintro i mm nn ⟨e0, e1, fr, hn, le, hall⟩
  by_cases hi : (i : Int) < nb.length
  · have hi' : i < nb.length := by omega
    have hi2 : i < sb.length := by omega
    have hi3 : (i : Int) < sb.length := by omega
    have wi : IntKind.i64.wrap ((i : Int) + 1) = (i : Int) + 1 := wrap_i64 (by omega) (by omega)
    have hiN : i < NL.length := by omega
    have hgi : NL[i] = [S nb[i]] := get_opt (hG1 i hi') hiN
    have hiS : i < SL.length := by omega
    have hgS : SL[i] = tyD sb[i] := get_opt (hG2 i hi2) hiS
    have hno := hno i hi' hi2
    have a1 : nn ≠ n := by omega
    have a2 : n ≠ nn := by omega
    have a3 : nn ≠ n + 1 := by omega
    have a4 : n + 1 ≠ nn := by omega
    have fr2 : ∀ o j, j < n → (mm.set nn o) j = m j := fun o j hj => by rw [set_ne _ _ _ _ (by omega)]; exact fr j hj
    have hnext : (match fieldT na sa nb[i] with | some x => f x sb[i] | none => false) = true → ∀ q (h : q < nb.length) (h' : q < sb.length), q < i + 1 → (match fieldT na sa nb[q] with | some x => f x sb[q] | none => false) = true := fun e q h h' hq0 => by
      rcases Nat.lt_or_eq_of_le (show q ≤ i by omega) with c | c
      · exact hall q h h' c
      · subst c; exact e
    simp -dsimp [I, S, Tt, hi, hi', hiN, hgi, e0, e1, z1, t1]
    refine pcall (hof nb[i]) ?_
    simp -dsimp [ofD, Tt]
    have zx : ∀ o : Option Ty, (tyD (o.getD Ty0)).length = 7 := fun o => tyD_len _
    cases ef : fieldT na sa nb[i] with
    | none =>
      rw [ef] at hno hnext
      have zz := zx none
      simp only [Option.getD_none, Option.isSome_none] at zz ⊢
      generalize tyD Ty0 = XX at zz
      refine vdraw_tree [0, 1, 3, 7, 7, 7, 39, 7, 231, 487, 1023, 2047, 4095] (.rd 0 (.rd 1 (.rd 2 (.rd 3 (.rd 4 (.rd 5 (.rd 6 (.rd 7 (.rd 8 (.rd 9 (.wr (.cons 10 (.rd 11 (.rd 12 (.fin))) (.nil))))))))))))) (by kernel_rfl) (by kernel_rfl) ?_
      simp -dsimp [I, S, Tt, set_ne, a1, a2, a3, a4, e0, e1, zz]
      exact pcq (by rw [hno rfl]) (fr2 _)
    | some x =>
      rw [ef] at hno hnext
      simp only at hno hnext
      have zz := zx (some x)
      have hc := H x (fieldT_mem ef) sb[i] (List.getElem_mem hi2)
      have z2 := tyD_len sb[i]
      simp only [Option.getD_some, Option.isSome_some] at zz ⊢
      generalize tyD x = XX at zz hc
      generalize tyD sb[i] = YY at hgS hc z2
      have t2 : List.take 7 XX = XX := List.take_of_length_le (by omega)
      have t3 : List.take 7 YY = YY := List.take_of_length_le (by omega)
      refine vdraw_tree [0, 1, 3, 7, 7, 7, 39, 7, 231, 487, 1023, 2047, 4095] (.rd 0 (.rd 1 (.rd 2 (.rd 3 (.rd 4 (.rd 5 (.rd 6 (.rd 7 (.rd 8 (.rd 9 (.wr (.cons 10 (.rd 11 (.rd 12 (.fin))) (.nil))))))))))))) (by kernel_rfl) (by kernel_rfl) ?_
      simp -dsimp [I, S, Tt, set_ne, a1, a2, a3, a4, e0, e1, zz, tyO3, hL2, hi2, hi3, hiS, hgS, z2, t2, t3]
      refine pcall hc ?_
      cases ce : f x sb[i]
      · rw [ce] at hno
        simp -dsimp [I, S, Tt]
        exact pcq (by rw [hno rfl]) (fr2 _)
      · rw [ce] at hnext
        simp -dsimp [I, S, Tt, wi]
        exact rnd (i + 1) (by omega) (by simp [I]) ⟨by rw [set_ne _ _ _ _ a2]; exact e0, by rw [set_ne _ _ _ _ a4]; exact e1, fr2 _, by omega, by omega, hnext rfl⟩
  · have e := hyes fun q h h' => hall q h h' (by omega)
    rw [e]
    simp -dsimp [I, S, Tt, hi, e0, e1]
    exact pcq rfl fr
end Go.Proofs.Mv.App
