/- A part of the proofs: machine, contracts, laws. No condition of its own. -/
import Derived.Test.YtihbegkefjjhpaaGreatDoorP01
import Derived.Test.YtihbegkefjjhpaaGreatDoorP08
import Derived.Test.YtihbegkefjjhpaaGreatDoorP07
import Derived.Test.YtihbegkefjjhpaaGreatDoorP14
set_option linter.unusedSimpArgs false
set_option linter.unusedVariables false
set_option linter.unusedSectionVars false
open Go Go.Proofs Go.Proofs.Mv.V
set_option maxRecDepth 10000
namespace Go.Proofs.Mv.App
variable [GI]
theorem cEqS {a : List (List UInt8)} (ha : a.length ≤ 9223372036854775807) (b : List (List UInt8)) : Pc Tryz.prog 69 [sl1 a, sl1 b] (Tt (decide (a = b))) := by
  refine pc_of (pur_T _) (fun m n => ?_)
  have hL1 : (a.map fun s => [S s]).length = a.length := by simp
  have hG1 : ∀ i (h : i < a.length), (a.map fun s => [S s])[i]? = some [S a[i]] := fun i h => by simp [h]
  have hL2 : (b.map fun s => [S s]).length = b.length := by simp
  have hG2 : ∀ i (h : i < b.length), (b.map fun s => [S s])[i]? = some [S b[i]] := fun i h => by simp [h]
  have hno : ¬ a = b → decide (a = b) = false := fun h => by simpa using h
  have hyes : a = b → decide (a = b) = true := fun h => by simpa using h
  generalize decide (a = b) = R at hno hyes
  simp only [sl1]
  generalize (a.map fun s => [S s]) = NL at hL1 hG1
  generalize (b.map fun s => [S s]) = ML at hL2 hG2
  refine acalls_vc [0, 1, 4, 5, 10, 12, 13, 14, 24] Tryz.func69 Tryz.ntmps69 (by kernel_rfl) rfl rfl (by simp) ?_
  by_cases c : a.length = b.length
  · have c' : ((a.length : Int) == b.length) = true := by rw [beq_iff_eq]; omega
    have c2 : ((a.length : Int) != b.length) = false := by rw [bne_eq_false_iff_eq]; omega
    simp -dsimp [I, S, Tt, hL1, hL2, c', c2]
    refine vloop_as (β := Nat) (fun i => [(0, .sl 1 NL), (1, .sl 1 ML), (12, I a.length), (13, I i)]) (fun i m2 n2 => m2 = m ∧ n2 = n ∧ i ≤ a.length ∧ a.take i = b.take i) (fun i => a.length - i) 0 (by simp [I]) ⟨rfl, rfl, by omega, by simp⟩ ?_
    rintro i m2 n2 ⟨rfl, rfl, le, heq⟩
    by_cases hi : (i : Int) < a.length
    · have hi' : i < a.length := by omega
      have hi2 : i < b.length := by omega
      have hi3 : (i : Int) < b.length := by omega
      have wi : IntKind.i64.wrap ((i : Int) + 1) = (i : Int) + 1 := wrap_i64 (by omega) (by omega)
      have hiN : i < NL.length := by omega
      have hgi : NL[i] = [S a[i]] := get_opt (hG1 i hi') hiN
      have hiN' : i < ML.length := by omega
      have hgi' : ML[i] = [S b[i]] := get_opt (hG2 i hi2) hiN'
      simp -dsimp [I, S, Tt, hL1, hL2, hi, hi', hi2, hi3]
      refine vdraw_of [0, 0, 3, 7, 0, 0, 48, 112, 255] [0, 1, 2, 3, 4, 5, 6, 7, 8] (by kernel_rfl) (by kernel_rfl) ?_
      by_cases ce : a[i] = b[i]
      · have ce' : (a[i] == b[i]) = true := by simpa using ce
        simp -dsimp [I, S, Tt, hL1, hL2, hi, hi', hi2, hi3, hiN, hgi, hiN', hgi', wi, ce']
        refine rnd (i + 1) (by omega) (by simp [I]) ⟨rfl, rfl, by omega, ?_⟩
        rw [List.take_succ_eq_append_getElem hi', List.take_succ_eq_append_getElem hi2, heq, ce]
      · have ce' : (a[i] == b[i]) = false := by simpa using ce
        rw [hno (fun h => ce (by subst h; rfl))]
        simp -dsimp [I, S, Tt, hL1, hL2, hi, hi', hi2, hi3, hiN, hgi, hiN', hgi', wi, ce']
        exact pcq' rfl
    · have e1 : a.take i = a := List.take_of_length_le (by omega)
      have e2 : b.take i = b := List.take_of_length_le (by omega)
      rw [e1, e2] at heq
      rw [hyes heq]
      simp -dsimp [I, S, Tt, hL1, hL2, hi]
      exact pcq' rfl
  · have c' : ((a.length : Int) == b.length) = false := by rw [beq_eq_false_iff_ne]; omega
    have c2 : ((a.length : Int) != b.length) = true := by rw [bne_iff_ne]; omega
    rw [hno (fun h => c (by rw [h]))]
    simp -dsimp [I, S, Tt, hL1, hL2, c', c2]
    exact pcq' rfl
set_option maxHeartbeats 1000000 in
theorem cEqTy {a : List Ty} (ha : a.length ≤ 9223372036854775807) {b : List Ty} {fp : FuncId} (H : ∀ x ∈ a, ∀ y : Ty, Pc Tryz.prog fp [.agg (tyD x), .agg (tyD y)] (Tt (sameT x y))) :
    Pc Tryz.prog 70 [.sl 7 (a.map tyD), .sl 7 (b.map tyD), .func (.func fp) [] []] (Tt (decide (a = b))) := by
  refine pc_of (pur_T _) (fun m n => ?_)
  have hL1 : (a.map tyD).length = a.length := by simp
  have hG1 : ∀ i (h : i < a.length), (a.map tyD)[i]? = some (tyD a[i]) := fun i h => by simp [h]
  have hL2 : (b.map tyD).length = b.length := by simp
  have hG2 : ∀ i (h : i < b.length), (b.map tyD)[i]? = some (tyD b[i]) := fun i h => by simp [h]
  have hno : ¬ a = b → decide (a = b) = false := fun h => by simpa using h
  have hyes : a = b → decide (a = b) = true := fun h => by simpa using h
  generalize decide (a = b) = R at hno hyes
  generalize a.map tyD = NL at hL1 hG1
  generalize b.map tyD = ML at hL2 hG2
  refine acalls_vc [0, 1, 2, 6, 7, 8, 9, 14, 15, 16, 17, 18, 30] Tryz.func70 Tryz.ntmps70 (by kernel_rfl) rfl rfl (by simp) ?_
  by_cases c : a.length = b.length
  · have c' : ((a.length : Int) == b.length) = true := by rw [beq_iff_eq]; omega
    have c2 : ((a.length : Int) != b.length) = false := by rw [bne_eq_false_iff_eq]; omega
    simp -dsimp [I, S, Tt, hL1, hL2, c', c2]
    refine vloop_as (β := Nat) (fun i => [(0, .sl 7 NL), (1, .sl 7 ML), (2, .func (.func fp) [] []), (15, .sl 7 NL), (16, I a.length), (17, I i)]) (fun i m2 n2 => (∀ j, j < n → m2 j = m j) ∧ n ≤ n2 ∧ i ≤ a.length ∧ a.take i = b.take i) (fun i => a.length - i) 0 (by simp [I]) ⟨fun _ _ => rfl, by omega, by omega, by simp⟩ ?_
    rintro i m2 n2 ⟨hm2, nn, le, heq⟩
    by_cases hi : (i : Int) < a.length
    · have hi' : i < a.length := by omega
      have hi2 : i < b.length := by omega
      have hi3 : (i : Int) < b.length := by omega
      have wi : IntKind.i64.wrap ((i : Int) + 1) = (i : Int) + 1 := wrap_i64 (by omega) (by omega)
      have hiN : i < NL.length := by omega
      have hgi : NL[i] = tyD a[i] := get_opt (hG1 i hi') hiN
      have hiN' : i < ML.length := by omega
      have hgi' : ML[i] = tyD b[i] := get_opt (hG2 i hi2) hiN'
      have hc := H a[i] (List.getElem_mem hi') b[i]
      have z1 := tyD_len a[i]
      have z2 := tyD_len b[i]
      generalize tyD a[i] = XX at hgi hc z1
      generalize tyD b[i] = YY at hgi' hc z2
      have t1 : List.take 7 XX = XX := List.take_of_length_le (by omega)
      have t2 : List.take 7 YY = YY := List.take_of_length_le (by omega)
      have a1 : n2 ≠ n2 + 1 := by omega
      have a2 : n2 + 1 ≠ n2 := by omega
      have fr2 : ∀ o o' j, j < n → ((m2.set n2 o).set (n2 + 1) o') j = m j := fun o o' j hj => by rw [set_ne _ _ _ _ (by omega), set_ne _ _ _ _ (by omega)]; exact hm2 j hj
      simp -dsimp [I, S, Tt, hL1, hL2, hi, hi', hi2, hi3, hiN, hgi, hiN', hgi', z1, z2, t1, t2, set_ne, a1, a2]
      refine pcall hc ?_
      cases ce : sameT a[i] b[i]
      · rw [hno (fun h => by subst h; rw [(sameT_iff _ _).2 rfl] at ce; cases ce)]
        simp -dsimp [I, S, Tt]
        exact pcq rfl (fr2 _ _)
      · simp -dsimp [I, S, Tt, wi]
        refine rnd (i + 1) (by omega) (by simp [I]) ⟨fr2 _ _, by omega, by omega, ?_⟩
        rw [List.take_succ_eq_append_getElem hi', List.take_succ_eq_append_getElem hi2, heq, (sameT_iff _ _).1 ce]
    · have e1 : a.take i = a := List.take_of_length_le (by omega)
      have e2 : b.take i = b := List.take_of_length_le (by omega)
      rw [e1, e2] at heq
      rw [hyes heq]
      simp -dsimp [I, S, Tt, hL1, hL2, hi]
      exact pcq rfl hm2
  · have c' : ((a.length : Int) == b.length) = false := by rw [beq_eq_false_iff_ne]; omega
    have c2 : ((a.length : Int) != b.length) = true := by rw [bne_iff_ne]; omega
    rw [hno (fun h => c (by rw [h]))]
    simp -dsimp [I, S, Tt, hL1, hL2, c', c2]
    exact pcq' rfl
set_option maxHeartbeats 2000000 in
theorem cAlike {a : Ty} (ha : TyW a) : ∀ (b : Ty), Pc Tryz.prog 124 [.agg (tyD a), .agg (tyD b)] (Tt (sameT a b)) := by
  induction ha with
  | mk kind pkg major mod name names subs l1 l2 l3 l4 l5 l6 l7 ih =>
    intro b
    obtain ⟨kind', pkg', major', mod', name', names', subs'⟩ := b
    refine pc_of (pur_T _) (fun m n => ?_)
    have nn1 : n ≠ n + 1 := by omega
    have n1n : n + 1 ≠ n := by omega
    have fr : ∀ o o' j, j < n → ((m.set n o).set (n + 1) o') j = m j := fun o o' j hj => by rw [set_ne _ _ _ _ (by omega), set_ne _ _ _ _ (by omega)]
    have hN := cEqS l1 names'
    have hS := cEqTy (a := subs) l2 (b := subs') (fp := 124) ih
    have hno : ¬ (kind = kind' ∧ pkg = pkg' ∧ major = major' ∧ mod = mod' ∧ name = name' ∧ names = names' ∧ subs = subs') → sameT (.mk kind pkg major mod name names subs) (.mk kind' pkg' major' mod' name' names' subs') = false := fun h => by
      cases e : sameT (.mk kind pkg major mod name names subs) (.mk kind' pkg' major' mod' name' names' subs')
      · rfl
      · exact absurd (by simpa using (sameT_iff _ _).1 e) h
    have hyes : (kind = kind' ∧ pkg = pkg' ∧ major = major' ∧ mod = mod' ∧ name = name' ∧ names = names' ∧ subs = subs') → sameT (.mk kind pkg major mod name names subs) (.mk kind' pkg' major' mod' name' names' subs') = true := fun h => by
      rw [sameT_iff]; simpa using h
    generalize sameT (.mk kind pkg major mod name names subs) (.mk kind' pkg' major' mod' name' names' subs') = R at hno hyes
    simp only [tyD, sl1, tysD_eq] at hN ⊢
    generalize (names.map fun s => [S s]) = NL at hN
    generalize (names'.map fun s => [S s]) = NL' at hN
    generalize subs.map tyD = SL at hS
    generalize subs'.map tyD = SL' at hS
    refine acalls_vc [0, 1, 2, 3, 4] Tryz.func124 Tryz.ntmps124 (by kernel_rfl) rfl rfl (by simp) ?_
    by_cases c1 : kind = kind'
    case neg =>
      have d1 : (kind == kind') = false := by simpa using c1
      rw [hno (fun h => c1 h.1)]
      simp -dsimp [I, S, Tt, set_ne, nn1, n1n, d1]
      exact pcq rfl (fr _ _)
    subst c1
    by_cases c2 : pkg = pkg'
    case neg =>
      have d2 : (pkg == pkg') = false := by simpa using c2
      rw [hno (fun h => c2 h.2.1)]
      simp -dsimp [I, S, Tt, set_ne, nn1, n1n, d2]
      exact pcq rfl (fr _ _)
    subst c2
    by_cases c3 : major = major'
    case neg =>
      have d3 : (major == major') = false := by simpa using c3
      rw [hno (fun h => c3 h.2.2.1)]
      simp -dsimp [I, S, Tt, set_ne, nn1, n1n, d3]
      exact pcq rfl (fr _ _)
    subst c3
    by_cases c4 : mod = mod'
    case neg =>
      have d4 : (mod == mod') = false := by simpa using c4
      rw [hno (fun h => c4 h.2.2.2.1)]
      simp -dsimp [I, S, Tt, set_ne, nn1, n1n, d4]
      exact pcq rfl (fr _ _)
    subst c4
    by_cases c5 : name = name'
    case neg =>
      have d5 : (name == name') = false := by simpa using c5
      rw [hno (fun h => c5 h.2.2.2.2.1)]
      simp -dsimp [I, S, Tt, set_ne, nn1, n1n, d5]
      exact pcq rfl (fr _ _)
    subst c5
    simp -dsimp [I, S, Tt, set_ne, nn1, n1n]
    refine pcall hN ?_
    by_cases c6 : names = names'
    case neg =>
      have d6 : decide (names = names') = false := by simpa using c6
      rw [hno (fun h => c6 h.2.2.2.2.2.1), d6]
      simp -dsimp [I, S, Tt, set_ne, nn1, n1n]
      exact pcq rfl (fr _ _)
    have d6 : decide (names = names') = true := by simpa using c6
    rw [d6]
    simp -dsimp [I, S, Tt, set_ne, nn1, n1n]
    refine pcall hS ?_
    by_cases c7 : subs = subs'
    · have d7 : decide (subs = subs') = true := by simpa using c7
      rw [hyes ⟨rfl, rfl, rfl, rfl, rfl, c6, c7⟩, d7]
      simp -dsimp [I, S, Tt, set_ne, nn1, n1n]
      exact pcq rfl (fr _ _)
    · have d7 : decide (subs = subs') = false := by simpa using c7
      rw [hno (fun h => c7 h.2.2.2.2.2.2), d7]
      simp -dsimp [I, S, Tt, set_ne, nn1, n1n]
      exact pcq rfl (fr _ _)
theorem cSameK {a b : Ty} (ha : TyW a) (hb : TyW b) : Pc Tryz.prog 71 [.agg (tyD a), .agg (tyD b)] (Tt (mayT a && mayT b && sameT a b)) := by
  refine pc_of (pur_T _) (fun m n => ?_)
  have nn1 : n ≠ n + 1 := by omega
  have n1n : n + 1 ≠ n := by omega
  have fr : ∀ o o' j, j < n → ((m.set n o).set (n + 1) o') j = m j := fun o o' j hj => by rw [set_ne _ _ _ _ (by omega), set_ne _ _ _ _ (by omega)]
  have h1 : Pc Tryz.prog 121 [.agg (tyD a)] (Tt (mayT a)) := cMay ha
  have h2 : Pc Tryz.prog 121 [.agg (tyD b)] (Tt (mayT b)) := cMay hb
  have h3 := cAlike ha b
  have z1 := tyD_len a
  have z2 := tyD_len b
  generalize tyD a = XX at h1 h3 z1
  generalize tyD b = YY at h2 h3 z2
  have t1 : List.take 7 XX = XX := List.take_of_length_le (by omega)
  have t2 : List.take 7 YY = YY := List.take_of_length_le (by omega)
  refine acalls_vc [0, 1, 2, 3, 4] Tryz.func71 Tryz.ntmps71 (by kernel_rfl) rfl rfl (by simp) ?_
  simp -dsimp [I, S, Tt, set_ne, nn1, n1n, z1, z2, t1, t2]
  refine pcall h1 ?_
  cases e1 : mayT a
  · simp -dsimp [Tt]
    exact pcq (by simp [Tt]) (fr _ _)
  simp -dsimp [I, S, Tt, set_ne, nn1, n1n, z1, z2, t1, t2]
  refine pcall h2 ?_
  cases e2 : mayT b
  · simp -dsimp [Tt]
    exact pcq (by simp [Tt]) (fr _ _)
  simp -dsimp [I, S, Tt, set_ne, nn1, n1n, z1, z2, t1, t2]
  refine pcall h3 ?_
  simp -dsimp [Tt]
  exact pcq (by simp [Tt]) (fr _ _)
end Go.Proofs.Mv.App
open Go Go.Proofs Go.Proofs.Mv.V
set_option maxRecDepth 10000
namespace Go.Proofs.Mv.App
set_option maxHeartbeats 1000000 in
theorem cEqTyM {a : List Ty} (ha : a.length ≤ 9223372036854775807) {b : List Ty} {fp : FuncId} (H : ∀ x ∈ a, ∀ y ∈ b, Pc Tryz.prog fp [.agg (tyD x), .agg (tyD y)] (Tt (sameT x y))) :
    Pc Tryz.prog 70 [.sl 7 (a.map tyD), .sl 7 (b.map tyD), .func (.func fp) [] []] (Tt (decide (a = b))) := by
  refine pc_of (pur_T _) (fun m n => ?_)
  have hL1 : (a.map tyD).length = a.length := by simp
  have hG1 : ∀ i (h : i < a.length), (a.map tyD)[i]? = some (tyD a[i]) := fun i h => by simp [h]
  have hL2 : (b.map tyD).length = b.length := by simp
  have hG2 : ∀ i (h : i < b.length), (b.map tyD)[i]? = some (tyD b[i]) := fun i h => by simp [h]
  have hno : ¬ a = b → decide (a = b) = false := fun h => by simpa using h
  have hyes : a = b → decide (a = b) = true := fun h => by simpa using h
  generalize decide (a = b) = R at hno hyes
  generalize a.map tyD = NL at hL1 hG1
  generalize b.map tyD = ML at hL2 hG2
  refine acalls_vc [0, 1, 2, 6, 7, 8, 9, 14, 15, 16, 17, 18, 30] Tryz.func70 Tryz.ntmps70 (by kernel_rfl) rfl rfl (by simp) ?_
  by_cases c : a.length = b.length
  · have c' : ((a.length : Int) == b.length) = true := by rw [beq_iff_eq]; omega
    have c2 : ((a.length : Int) != b.length) = false := by rw [bne_eq_false_iff_eq]; omega
    simp -dsimp [I, S, Tt, hL1, hL2, c', c2]
    refine vloop_as (β := Nat) (fun i => [(0, .sl 7 NL), (1, .sl 7 ML), (2, .func (.func fp) [] []), (15, .sl 7 NL), (16, I a.length), (17, I i)]) (fun i m2 n2 => (∀ j, j < n → m2 j = m j) ∧ n ≤ n2 ∧ i ≤ a.length ∧ a.take i = b.take i) (fun i => a.length - i) 0 (by simp [I]) ⟨fun _ _ => rfl, by omega, by omega, by simp⟩ ?_
    rintro i m2 n2 ⟨hm2, nn, le, heq⟩
    by_cases hi : (i : Int) < a.length
    · have hi' : i < a.length := by omega
      have hi2 : i < b.length := by omega
      have hi3 : (i : Int) < b.length := by omega
      have wi : IntKind.i64.wrap ((i : Int) + 1) = (i : Int) + 1 := wrap_i64 (by omega) (by omega)
      have hiN : i < NL.length := by omega
      have hgi : NL[i] = tyD a[i] := get_opt (hG1 i hi') hiN
      have hiN' : i < ML.length := by omega
      have hgi' : ML[i] = tyD b[i] := get_opt (hG2 i hi2) hiN'
      have hc := H a[i] (List.getElem_mem hi') b[i] (List.getElem_mem hi2)
      have z1 := tyD_len a[i]
      have z2 := tyD_len b[i]
      generalize tyD a[i] = XX at hgi hc z1
      generalize tyD b[i] = YY at hgi' hc z2
      have t1 : List.take 7 XX = XX := List.take_of_length_le (by omega)
      have t2 : List.take 7 YY = YY := List.take_of_length_le (by omega)
      have a1 : n2 ≠ n2 + 1 := by omega
      have a2 : n2 + 1 ≠ n2 := by omega
      have fr2 : ∀ o o' j, j < n → ((m2.set n2 o).set (n2 + 1) o') j = m j := fun o o' j hj => by rw [set_ne _ _ _ _ (by omega), set_ne _ _ _ _ (by omega)]; exact hm2 j hj
      simp -dsimp [I, S, Tt, hL1, hL2, hi, hi', hi2, hi3, hiN, hgi, hiN', hgi', z1, z2, t1, t2, set_ne, a1, a2]
      refine pcall hc ?_
      cases ce : sameT a[i] b[i]
      · rw [hno (fun h => by subst h; rw [(sameT_iff _ _).2 rfl] at ce; cases ce)]
        simp -dsimp [I, S, Tt]
        exact pcq rfl (fr2 _ _)
      · simp -dsimp [I, S, Tt, wi]
        refine rnd (i + 1) (by omega) (by simp [I]) ⟨fr2 _ _, by omega, by omega, ?_⟩
        rw [List.take_succ_eq_append_getElem hi', List.take_succ_eq_append_getElem hi2, heq, (sameT_iff _ _).1 ce]
    · have e1 : a.take i = a := List.take_of_length_le (by omega)
      have e2 : b.take i = b := List.take_of_length_le (by omega)
      rw [e1, e2] at heq
      rw [hyes heq]
      simp -dsimp [I, S, Tt, hL1, hL2, hi]
      exact pcq rfl hm2
  · have c' : ((a.length : Int) == b.length) = false := by rw [beq_eq_false_iff_ne]; omega
    have c2 : ((a.length : Int) != b.length) = true := by rw [bne_iff_ne]; omega
    rw [hno (fun h => c (by rw [h]))]
    simp -dsimp [I, S, Tt, hL1, hL2, c', c2]
    exact pcq' rfl
set_option maxHeartbeats 1000000 in
theorem cEqTmM {a : List Tm} (ha : a.length ≤ 9223372036854775807) {b : List Tm} {fp : FuncId} (H : ∀ x ∈ a, ∀ y ∈ b, Pc Tryz.prog fp [.agg (tmD x), .agg (tmD y)] (Tt (sameTm x y))) :
    Pc Tryz.prog 72 [.sl 8 (a.map tmD), .sl 8 (b.map tmD), .func (.func fp) [] []] (Tt (decide (a = b))) := by
  refine pc_of (pur_T _) (fun m n => ?_)
  have hL1 : (a.map tmD).length = a.length := by simp
  have hG1 : ∀ i (h : i < a.length), (a.map tmD)[i]? = some (tmD a[i]) := fun i h => by simp [h]
  have hL2 : (b.map tmD).length = b.length := by simp
  have hG2 : ∀ i (h : i < b.length), (b.map tmD)[i]? = some (tmD b[i]) := fun i h => by simp [h]
  have hno : ¬ a = b → decide (a = b) = false := fun h => by simpa using h
  have hyes : a = b → decide (a = b) = true := fun h => by simpa using h
  generalize decide (a = b) = R at hno hyes
  generalize a.map tmD = NL at hL1 hG1
  generalize b.map tmD = ML at hL2 hG2
  refine acalls_vc [0, 1, 2, 6, 7, 8, 9, 14, 15, 16, 17, 18, 30] Tryz.func72 Tryz.ntmps72 (by kernel_rfl) rfl rfl (by simp) ?_
  by_cases c : a.length = b.length
  · have c' : ((a.length : Int) == b.length) = true := by rw [beq_iff_eq]; omega
    have c2 : ((a.length : Int) != b.length) = false := by rw [bne_eq_false_iff_eq]; omega
    simp -dsimp [I, S, Tt, hL1, hL2, c', c2]
    refine vloop_as (β := Nat) (fun i => [(0, .sl 8 NL), (1, .sl 8 ML), (2, .func (.func fp) [] []), (15, .sl 8 NL), (16, I a.length), (17, I i)]) (fun i m2 n2 => (∀ j, j < n → m2 j = m j) ∧ n ≤ n2 ∧ i ≤ a.length ∧ a.take i = b.take i) (fun i => a.length - i) 0 (by simp [I]) ⟨fun _ _ => rfl, by omega, by omega, by simp⟩ ?_
    rintro i m2 n2 ⟨hm2, nn, le, heq⟩
    by_cases hi : (i : Int) < a.length
    · have hi' : i < a.length := by omega
      have hi2 : i < b.length := by omega
      have hi3 : (i : Int) < b.length := by omega
      have wi : IntKind.i64.wrap ((i : Int) + 1) = (i : Int) + 1 := wrap_i64 (by omega) (by omega)
      have hiN : i < NL.length := by omega
      have hgi : NL[i] = tmD a[i] := get_opt (hG1 i hi') hiN
      have hiN' : i < ML.length := by omega
      have hgi' : ML[i] = tmD b[i] := get_opt (hG2 i hi2) hiN'
      have hc := H a[i] (List.getElem_mem hi') b[i] (List.getElem_mem hi2)
      have z1 := tmD_len a[i]
      have z2 := tmD_len b[i]
      generalize tmD a[i] = XX at hgi hc z1
      generalize tmD b[i] = YY at hgi' hc z2
      have t1 : List.take 8 XX = XX := List.take_of_length_le (by omega)
      have t2 : List.take 8 YY = YY := List.take_of_length_le (by omega)
      have a1 : n2 ≠ n2 + 1 := by omega
      have a2 : n2 + 1 ≠ n2 := by omega
      have fr2 : ∀ o o' j, j < n → ((m2.set n2 o).set (n2 + 1) o') j = m j := fun o o' j hj => by rw [set_ne _ _ _ _ (by omega), set_ne _ _ _ _ (by omega)]; exact hm2 j hj
      simp -dsimp [I, S, Tt, hL1, hL2, hi, hi', hi2, hi3, hiN, hgi, hiN', hgi', z1, z2, t1, t2, set_ne, a1, a2]
      refine pcall hc ?_
      cases ce : sameTm a[i] b[i]
      · rw [hno (fun h => by subst h; rw [(sameTm_iff _ _).2 rfl] at ce; cases ce)]
        simp -dsimp [I, S, Tt]
        exact pcq rfl (fr2 _ _)
      · simp -dsimp [I, S, Tt, wi]
        refine rnd (i + 1) (by omega) (by simp [I]) ⟨fr2 _ _, by omega, by omega, ?_⟩
        rw [List.take_succ_eq_append_getElem hi', List.take_succ_eq_append_getElem hi2, heq, (sameTm_iff _ _).1 ce]
    · have e1 : a.take i = a := List.take_of_length_le (by omega)
      have e2 : b.take i = b := List.take_of_length_le (by omega)
      rw [e1, e2] at heq
      rw [hyes heq]
      simp -dsimp [I, S, Tt, hL1, hL2, hi]
      exact pcq rfl hm2
  · have c' : ((a.length : Int) == b.length) = false := by rw [beq_eq_false_iff_ne]; omega
    have c2 : ((a.length : Int) != b.length) = true := by rw [bne_iff_ne]; omega
    rw [hno (fun h => c (by rw [h]))]
    simp -dsimp [I, S, Tt, hL1, hL2, c', c2]
    exact pcq' rfl
set_option maxHeartbeats 4000000 in
theorem cAlikeTm {a : Tm} (ha : TmW a) : ∀ (b : Tm), TmW b → allTm a = true → allTm b = true → Pc Tryz.prog 44 [.agg (tmD a), .agg (tmD b)] (Tt (sameTm a b)) := by
  induction ha with
  | mk kind num mod name names vars types subs l1 l2 l3 l4 l5 l6 l7 l8 l9 l10 ih =>
    intro b hb ma mb
    cases hb with
    | mk kind' num' mod' name' names' vars' types' subs' l1' l2' l3' l4' l5' l6' l7' l8' l9' l10' =>
    simp only [allTm, Bool.and_eq_true] at ma mb
    obtain ⟨-, sa⟩ := shapeTm_parts ma.1
    obtain ⟨-, sb⟩ := shapeTm_parts mb.1
    refine pc_of (pur_T _) (fun m n => ?_)
    have nn1 : n ≠ n + 1 := by omega
    have n1n : n + 1 ≠ n := by omega
    have fr : ∀ o o' j, j < n → ((m.set n o).set (n + 1) o') j = m j := fun o o' j hj => by rw [set_ne _ _ _ _ (by omega), set_ne _ _ _ _ (by omega)]
    have hN := cEqS l1 names'
    have hV := cEqS l2 vars'
    have hY := cEqTyM (a := types) l3 (b := types') (fp := 71) (fun x hx y hy => by
      have := cSameK (l9 x hx) (l9' y hy)
      rwa [sa.ny x hx, sb.ny y hy, Bool.true_and] at this)
    have hS := cEqTmM (a := subs) l4 (b := subs') (fp := 44) (fun x hx y hy => ih x hx y (l10' y hy) (by have := ma.2; rw [allTms_eq] at this; exact List.all_eq_true.1 this x hx) (by have := mb.2; rw [allTms_eq] at this; exact List.all_eq_true.1 this y hy))
    have hno : ¬ (kind = kind' ∧ num = num' ∧ mod = mod' ∧ name = name' ∧ names = names' ∧ vars = vars' ∧ types = types' ∧ subs = subs') → sameTm (.mk kind num mod name names vars types subs) (.mk kind' num' mod' name' names' vars' types' subs') = false := fun h => by
      cases e : sameTm (.mk kind num mod name names vars types subs) (.mk kind' num' mod' name' names' vars' types' subs')
      · rfl
      · exact absurd (by simpa using (sameTm_iff _ _).1 e) h
    have hyes : (kind = kind' ∧ num = num' ∧ mod = mod' ∧ name = name' ∧ names = names' ∧ vars = vars' ∧ types = types' ∧ subs = subs') → sameTm (.mk kind num mod name names vars types subs) (.mk kind' num' mod' name' names' vars' types' subs') = true := fun h => by
      rw [sameTm_iff]; simpa using h
    generalize sameTm (.mk kind num mod name names vars types subs) (.mk kind' num' mod' name' names' vars' types' subs') = R at hno hyes
    simp only [tmD, sl1, tmsD_eq] at hN hV ⊢
    generalize (names.map fun s => [S s]) = NL at hN
    generalize (names'.map fun s => [S s]) = NL' at hN
    generalize (vars.map fun s => [S s]) = VL at hV
    generalize (vars'.map fun s => [S s]) = VL' at hV
    generalize types.map tyD = YL at hY
    generalize types'.map tyD = YL' at hY
    generalize subs.map tmD = SL at hS
    generalize subs'.map tmD = SL' at hS
    refine acalls_vc [0, 1, 2, 3, 4] Tryz.func44 Tryz.ntmps44 (by kernel_rfl) rfl rfl (by simp) ?_
    by_cases c1 : kind = kind'
    case neg =>
      have d1 : (kind == kind') = false := by simpa using c1
      rw [hno (fun h => c1 h.1)]
      simp -dsimp [I, S, Tt, set_ne, nn1, n1n, d1]
      exact pcq rfl (fr _ _)
    subst c1
    by_cases c2 : num = num'
    case neg =>
      have d2 : (num == num') = false := by simpa using c2
      rw [hno (fun h => c2 h.2.1)]
      simp -dsimp [I, S, Tt, set_ne, nn1, n1n, d2]
      exact pcq rfl (fr _ _)
    subst c2
    by_cases c3 : mod = mod'
    case neg =>
      have d3 : (mod == mod') = false := by simpa using c3
      rw [hno (fun h => c3 h.2.2.1)]
      simp -dsimp [I, S, Tt, set_ne, nn1, n1n, d3]
      exact pcq rfl (fr _ _)
    subst c3
    by_cases c4 : name = name'
    case neg =>
      have d4 : (name == name') = false := by simpa using c4
      rw [hno (fun h => c4 h.2.2.2.1)]
      simp -dsimp [I, S, Tt, set_ne, nn1, n1n, d4]
      exact pcq rfl (fr _ _)
    subst c4
    simp -dsimp [I, S, Tt, set_ne, nn1, n1n]
    refine pcall hN ?_
    by_cases c5 : names = names'
    case neg =>
      have d5 : decide (names = names') = false := by simpa using c5
      rw [hno (fun h => c5 h.2.2.2.2.1), d5]
      simp -dsimp [I, S, Tt, set_ne, nn1, n1n]
      exact pcq rfl (fr _ _)
    have d5 : decide (names = names') = true := by simpa using c5
    rw [d5]
    simp -dsimp [I, S, Tt, set_ne, nn1, n1n]
    refine pcall hV ?_
    by_cases c6 : vars = vars'
    case neg =>
      have d6 : decide (vars = vars') = false := by simpa using c6
      rw [hno (fun h => c6 h.2.2.2.2.2.1), d6]
      simp -dsimp [I, S, Tt, set_ne, nn1, n1n]
      exact pcq rfl (fr _ _)
    have d6 : decide (vars = vars') = true := by simpa using c6
    rw [d6]
    simp -dsimp [I, S, Tt, set_ne, nn1, n1n]
    refine pcall hY ?_
    by_cases c7 : types = types'
    case neg =>
      have d7 : decide (types = types') = false := by simpa using c7
      rw [hno (fun h => c7 h.2.2.2.2.2.2.1), d7]
      simp -dsimp [I, S, Tt, set_ne, nn1, n1n]
      exact pcq rfl (fr _ _)
    have d7 : decide (types = types') = true := by simpa using c7
    rw [d7]
    simp -dsimp [I, S, Tt, set_ne, nn1, n1n]
    refine pcall hS ?_
    by_cases c8 : subs = subs'
    · have d8 : decide (subs = subs') = true := by simpa using c8
      rw [hyes ⟨rfl, rfl, rfl, rfl, c5, c6, c7, c8⟩, d8]
      simp -dsimp [I, S, Tt, set_ne, nn1, n1n]
      exact pcq rfl (fr _ _)
    · have d8 : decide (subs = subs') = false := by simpa using c8
      rw [hno (fun h => c8 h.2.2.2.2.2.2.2), d8]
      simp -dsimp [I, S, Tt, set_ne, nn1, n1n]
      exact pcq rfl (fr _ _)
theorem cSameTmK {a b : Tm} (ha : TmW a) (hb : TmW b) : Pc Tryz.prog 16 [.agg (tmD a), .agg (tmD b)] (Tt (mayTm a && mayTm b && sameTm a b)) := by
  refine pc_of (pur_T _) (fun m n => ?_)
  have nn1 : n ≠ n + 1 := by omega
  have n1n : n + 1 ≠ n := by omega
  have fr : ∀ o o' j, j < n → ((m.set n o).set (n + 1) o') j = m j := fun o o' j hj => by rw [set_ne _ _ _ _ (by omega), set_ne _ _ _ _ (by omega)]
  have h1 := cMayTm ha
  have h2 := cMayTm hb
  have h3 : mayTm a = true → mayTm b = true → _ := fun e1 e2 => cAlikeTm ha b hb (by simp only [mayTm, Bool.and_eq_true] at e1; exact e1.1.1) (by simp only [mayTm, Bool.and_eq_true] at e2; exact e2.1.1)
  have z1 := tmD_len a
  have z2 := tmD_len b
  generalize tmD a = XX at h1 h3 z1
  generalize tmD b = YY at h2 h3 z2
  have t1 : List.take 8 XX = XX := List.take_of_length_le (by omega)
  have t2 : List.take 8 YY = YY := List.take_of_length_le (by omega)
  refine acalls_vc [0, 1, 2, 3, 4] Tryz.func16 Tryz.ntmps16 (by kernel_rfl) rfl rfl (by simp) ?_
  simp -dsimp [I, S, Tt, set_ne, nn1, n1n, z1, z2, t1, t2]
  refine pcall h1 ?_
  cases e1 : mayTm a
  · simp -dsimp [Tt]
    exact pcq (by simp [Tt]) (fr _ _)
  simp -dsimp [I, S, Tt, set_ne, nn1, n1n, z1, z2, t1, t2]
  refine pcall h2 ?_
  cases e2 : mayTm b
  · simp -dsimp [Tt]
    exact pcq (by simp [Tt]) (fr _ _)
  simp -dsimp [I, S, Tt, set_ne, nn1, n1n, z1, z2, t1, t2]
  refine pcall (h3 e1 e2) ?_
  simp -dsimp [Tt]
  exact pcq (by simp [Tt]) (fr _ _)
end Go.Proofs.Mv.App
