/- A part of the proofs of the seat YtbgkkoloflcnbaaGreatDoor: the abstract machine, the contracts of the functions, the laws. No condition of its own. -/
import Derived.Test.YtbgkkoloflcnbaaGreatDoorTyF
import Derived.Test.YtbgkkoloflcnbaaGreatDoorRef
import Derived.Test.YtbgkkoloflcnbaaGreatDoorRt
set_option linter.unusedSimpArgs false
set_option linter.unusedVariables false
set_option linter.unusedSectionVars false
open Go Go.Proofs Go.Proofs.Mv.V
set_option maxRecDepth 10000
namespace Go.Proofs.Mv.App
structure CpInv (kind : Int) (pkg : List UInt8) (major : Int) (mod name : List UInt8) (NL SL : List (List D)) (q : Nat) (m : Mem) (n : Nat) (i : Nat) (σ : Nat → D) (m2 : Mem) (n2 : Nat) : Prop where
  h1 : σ 1 = .ptr n 0 0 0
  h2 : σ 2 = .ptr (n + 1) 0 0 0
  h3 : σ 3 = .sl 7 SL
  h4 : σ 4 = I i
  le : i ≤ q
  nn : n + 1 + 1 ≤ n2
  fr : ∀ j, j < n → m2 j = m j
  m1 : m2 (n + 1) = some ⟨7, [[I 0, S [], I 0, S [], S [], .v (.slice none 0 0), .v (.slice none 0 0)]], 0⟩
  ex : ∃ dN dS, m2 n = some ⟨7, [[I kind, S pkg, I major, S mod, S name, dN, dS]], 0⟩ ∧ Lst m2 1 NL dN ∧ (∀ j, kof dN = some j → n + 1 + 1 ≤ j ∧ j < n2) ∧ Lst m2 7 (SL.take i) dS ∧ ∀ j, kof dS = some j → n + 1 + 1 ≤ j ∧ j < n2 ∧ kof dN ≠ some j
set_option maxHeartbeats 4000000 in
theorem cCopy {t : Ty} (ht : TySm t) : ∀ (m : Mem) (n : Nat), ACalls Tryz.prog 84 [.agg (tyD t)] m n (fun d m' n' => d = .agg (tyD t) ∧ m' = m ∧ n' = n) := by
  induction ht with
  | mk kind pkg major mod name names subs l1 l2 l3 ih =>
    intro m n
    refine acalls_done (R' := Hq (fun d m' n' => PubAs n m' d (.agg (tyD (.mk kind pkg major mod name names subs))) ∧ ∀ j, j < n → m' j = m j) tg) ?_ ?_
    · have hL1 : (names.map fun s => [S s]).length = names.length := by simp
      have hP1 := pur_ss (l := names)
      have hL2 : (tysD subs).length = subs.length := by rw [tysD_eq]; simp
      have hG2 : ∀ i (h : i < subs.length), (tysD subs)[i]? = some (tyD subs[i]) := fun i h => by rw [tysD_eq]; simp [h]
      have hP2 := pur_tys subs
      simp only [tyD, sl1]
      generalize (names.map fun s => [S s]) = NL at hL1 hP1
      generalize tysD subs = SL at hL2 hG2 hP2
      refine acalls_vcC [0, 1, 2, 3, 4, 16] Tryz.func84 Tryz.ntmps84 (by kernel_rfl) rfl rfl (by simp) ?_
      have nn1 : n ≠ n + 1 := by omega
      have n1n : n + 1 ≠ n := by omega
      have nn2 : n ≠ n + 1 + 1 := by omega
      have n12 : n + 1 ≠ n + 1 + 1 := by omega
      simp -dsimp [I, S, set_ne, nn1, n1n, nn2, n12, -vc_block]
      refine ⟨by omega, ?_⟩
      have n2n : n + 1 + 1 ≠ n := by omega
      have n21 : n + 1 + 1 ≠ n + 1 := by omega
      rw [vc_block]
      simp -dsimp [I, S, set_ne, nn1, n1n, nn2, n12, -vc_block]
      refine vloop_of (β := Nat) (CpInv kind pkg major mod name NL SL subs.length m n) (fun i => subs.length - i) 0 ⟨by simp, by simp, by simp, by simp [I], by omega, by omega, fun j hj => ?_, by simp [set_ne, n1n, n12, I, S], _, _, by simp [I, S]; rfl, Lst.own (k := n + 1 + 1) (g := 1) (by simp [set_ne, n2n]), by simp [kof], by simpa using Lst.nil, by simp [kof]⟩ ?_
      · have j1 : j ≠ n := by omega
        have j2 : j ≠ n + 1 := by omega
        have j3 : j ≠ n + 1 + 1 := by omega
        simp [set_ne, j1, j2, j3]
      rintro i σ m2 n2 ⟨g1, g2, g3, g4, le, nn, fr, e1, dN, dS, e0, hN, kN, hS, kS⟩
      by_cases hi : (i : Int) < subs.length
      · have hi' : i < subs.length := by omega
        have wi : IntKind.i64.wrap ((i : Int) + 1) = (i : Int) + 1 := wrap_i64 (by omega) (by omega)
        have hiN : i < SL.length := by omega
        have hgi : SL[i] = tyD subs[i] := get_opt (hG2 i hi') hiN
        have hc := fun m n => ih subs[i] (List.getElem_mem hi') m n
        have h7 := tyD_len subs[i]
        generalize tyD subs[i] = TT at h7 hgi hc
        have ht7 : List.take 7 TT = TT := List.take_of_length_le (by omega)
        have kn : n ≠ n2 := by omega
        have nk : n2 ≠ n := by omega
        have kn1 : n + 1 ≠ n2 := by omega
        have nk1 : n2 ≠ n + 1 := by omega
        simp -dsimp [g1, g2, g3, g4, e0, e1, I, S, hL2, hi, hi', hiN, hgi, h7, ht7, -vc_block]
        rw [vc_block]
        simp -dsimp [g1, g2, g3, g4, e0, e1, I, S, hL2, hi, hi', hiN, hgi, h7, ht7, -vc_block]
        refine vdraw_tree [0, 1, 0, 0, 12, 28, 60, 124, 255, 511, 1023] (.rd 0 (.rd 1 (.rd 2 (.rd 3 (.rd 4 (.rd 5 (.wr (.cons 6 (.wr (.cons 7 (.wr (.cons 8 (.rd 9 (.wr (.cons 10 (.fin) (.nil)))) (.nil))) (.nil))) (.nil))))))))) (by kernel_rfl) (by kernel_rfl) ?_
        simp -dsimp [g1, g2, g3, g4, e0, e1, I, S, hL2, hi, hi', hiN, hgi, h7, ht7, -vc_block]
        refine aCall_of (hc _ _) ?_
        rintro d m3 n3 ⟨rfl, rfl, rfl⟩
        simp -dsimp [g1, g2, g3, g4, e0, e1, I, S, hL2, hi, hi', hiN, hgi, h7, ht7, set_ne, kn, nk, kn1, nk1, -vc_block]
        refine b4_append (hS.frame fun j hj => set_ne _ _ _ _ (by have := kS j hj; omega)) (fun j hj => by have := kS j hj; omega) trivial trivial (by omega) (by simp; omega) ?_
        intro d5 m5 n5 p1 p2 p3 p4
        have nd : ∀ j, j < n + 1 + 1 → kof dS ≠ some j := fun j hj e => by have := kS j e; omega
        have f0 : m5 n = some ⟨7, [[I kind, S pkg, I major, S mod, S name, dN, dS]], 0⟩ := by rw [p4 _ (by omega) (nd _ (by omega)), set_ne _ _ _ _ (by omega)]; exact e0
        have f1 : m5 (n + 1) = some ⟨7, [[I 0, S [], I 0, S [], S [], .v (.slice none 0 0), .v (.slice none 0 0)]], 0⟩ := by rw [p4 _ (by omega) (nd _ (by omega)), set_ne _ _ _ _ (by omega)]; exact e1
        have ok5 := okD_lst p1
        have hkd : ∀ j, kof d5 = some j → n + 1 + 1 ≤ j ∧ j < n5 ∧ kof dN ≠ some j := fun j hj => by
          have h := p3 j hj
          rcases h.2 with e | e
          · have := kS j e; exact ⟨by omega, by omega, this.2.2⟩
          · exact ⟨by omega, by omega, fun e' => by have := kN j e'; omega⟩
        simp -dsimp [g1, g2, g3, g4, f0, f1, ok5, I, S, wi, set_ne, -vc_block]
        refine ⟨i + 1, by omega, by simp [g1], by simp [g2], by simp [g3], by simp [I], by omega, by omega, fun j hj => ?_, by rw [set_ne _ _ _ _ n1n]; exact f1, dN, d5, by simp [I, S], hN.frame fun j hj => ?_, fun j hj => by have := kN j hj; omega, ?_, hkd⟩
        · rw [set_ne _ _ _ _ (by omega), p4 j (by omega) (nd j (by omega)), set_ne _ _ _ _ (by omega)]; exact fr j hj
        · have h1 := kN j hj
          rw [set_ne _ _ _ _ (by omega), p4 j (by omega) (fun e => (kS j e).2.2 hj), set_ne _ _ _ _ (by omega)]
        · rw [take_snoc hiN, hgi]
          exact p1.frame fun j hj => set_ne _ _ _ _ (by have := hkd j hj; omega)
      · have : i = subs.length := by omega
        subst this
        rw [List.take_of_length_le (by omega)] at hS
        simp -dsimp [g1, g2, g3, g4, e0, e1, I, S, hL2, set_ne, nn1, n1n]
        refine hq ⟨.agg (.cons (pur_I _).pub (.cons (pur_S _).pub (.cons (pur_I _).pub (.cons (pur_S _).pub (.cons (pur_S _).pub (.cons (.lstP (hN.frame fun j hj => set_ne _ _ _ _ (by have := kN j hj; omega)) (fun j hj => by have := kN j hj; omega) hP1) (.cons (.lstP (hS.frame fun j hj => set_ne _ _ _ _ (by have := kS j hj; omega)) (fun j hj => by have := kS j hj; omega) hP2) .nil))))))), fun j hj => ?_⟩
        rw [set_ne _ _ _ _ (by omega)]; exact fr j hj
    · rintro d m' n' ⟨h, hf⟩
      exact ⟨_, h, hf, rfl⟩
set_option maxHeartbeats 2000000 in
theorem cSame0 {t : Ty} (ht : TySm t) (m : Mem) (n : Nat) : ACalls Tryz.prog 22 [.agg (tyD t), .agg (tyD Ty0)] m n (fun d m' n' => d = Tt (nothingT t) ∧ m' = m ∧ n' = n) := by
  have nn1 : n ≠ n + 1 := by omega
  have n1n : n + 1 ≠ n := by omega
  refine acalls_done (R' := Hq (fun d m' n' => d = Tt (nothingT t) ∧ ∀ j, j < n → m' j = m j) tg) ?_ ?_
  · obtain ⟨kind, pkg, major, mod, name, names, subs⟩ := t
    have fr : ∀ o o' j, j < n → ((m.set n o).set (n + 1) o') j = m j := fun o o' j hj => by rw [set_ne _ _ _ _ (by omega), set_ne _ _ _ _ (by omega)]
    cases ht with
    | mk _ _ _ _ _ _ _ l1 l2 l3 =>
    have hL1 : (names.map fun s => [S s]).length = names.length := by simp
    have hL2 : (tysD subs).length = subs.length := by rw [tysD_eq]; simp
    simp only [nothingT, emptyT, Ty.kind, Ty.pkg, Ty.major, Ty.mod, Ty.name, Ty.names, Ty.subs]
    simp only [Ty0, tyD, sl1, tysD, List.map_nil]
    generalize (names.map fun s => [S s]) = NL at hL1
    generalize tysD subs = SL at hL2
    generalize hks : names.length = ks at hL1 l1 ⊢
    generalize hns : subs.length = ns at hL2 l2 ⊢
    refine acalls_vc [0, 1, 2, 3, 4, 5, 6, 7, 58, 63, 76, 81, 96] Tryz.func22 Tryz.ntmps22 (by kernel_rfl) rfl rfl (by simp) ?_
    by_cases e1 : kind = 0
    case neg =>
      have e1' : (kind != 0) = true := by simpa using e1
      simp -dsimp [I, S, set_ne, nn1, n1n, e1']
      exact hq ⟨by simp [Tt, e1], fr _ _⟩
    by_cases e2 : pkg = []
    case neg =>
      have e2' : (pkg != []) = true := by simpa using e2
      have i2' : pkg.isEmpty = false := by simpa using e2
      simp -dsimp [I, S, set_ne, nn1, n1n, e1, e2', i2']
      exact hq ⟨by simp [Tt, e2], fr _ _⟩
    by_cases e3 : major = 0
    case neg =>
      have e3' : (major != 0) = true := by simpa using e3
      simp -dsimp [I, S, set_ne, nn1, n1n, e1, e2, e3']
      exact hq ⟨by simp [Tt, e3], fr _ _⟩
    by_cases e4 : mod = []
    case neg =>
      have e4' : (mod != []) = true := by simpa using e4
      have i4' : mod.isEmpty = false := by simpa using e4
      simp -dsimp [I, S, set_ne, nn1, n1n, e1, e2, e3, e4', i4']
      exact hq ⟨by simp [Tt, e4], fr _ _⟩
    by_cases e5 : name = []
    case neg =>
      have e5' : (name != []) = true := by simpa using e5
      have i5' : name.isEmpty = false := by simpa using e5
      simp -dsimp [I, S, set_ne, nn1, n1n, e1, e2, e3, e4, e5', i5']
      exact hq ⟨by simp [Tt, e5], fr _ _⟩
    by_cases e6 : ks = 0
    case neg =>
      have e6' : ((ks : Int) != 0) = true := by simp; omega
      simp -dsimp [I, S, set_ne, nn1, n1n, hL1, hL2, e1, e2, e3, e4, e5, e6']
      exact hq ⟨by simp [Tt, e6], fr _ _⟩
    by_cases e7 : ns = 0
    case neg =>
      have e7' : ((ns : Int) != 0) = true := by simp; omega
      simp -dsimp [I, S, set_ne, nn1, n1n, hL1, hL2, e1, e2, e3, e4, e5, e6, e7']
      exact hq ⟨by simp [Tt, e7], fr _ _⟩
    subst e1 e2 e3 e4 e5
    subst e6 e7
    have hz1 : (NL.length : Int) = 0 := by omega
    have hz2 : (SL.length : Int) = 0 := by omega
    simp -dsimp [I, S, set_ne, nn1, n1n, hL1, hL2, -vc_block]
    rw [vc_block]
    simp -dsimp [I, S, set_ne, nn1, n1n, hL1, hL2, -vc_block]
    refine vloop_of (β := Nat) (SameInv n ((m.set n ⟨7, [[I 0, S [], I 0, S [], S [], .sl 1 NL, .sl 7 SL]], 0⟩).set (n + 1) ⟨7, [[I 0, S [], I 0, S [], S [], .sl 1 [], .sl 7 []]], 0⟩) (n + 1 + 1) 5 0) (fun i => i) 0 ⟨by simp, by simp, by simp [I], by omega, rfl, rfl⟩ ?_
    rintro i σ m2 n2 ⟨h2, h3, h5, le, rfl, rfl⟩
    have : i = 0 := by omega
    subst this
    simp -dsimp [h2, h3, h5, I, S, set_ne, nn1, n1n, hL1, hL2, -vc_block]
    rw [vc_block]
    simp -dsimp [h2, h3, h5, I, S, set_ne, nn1, n1n, hL1, hL2, -vc_block]
    refine vloop_of (β := Nat) (SameInv n ((m.set n ⟨7, [[I 0, S [], I 0, S [], S [], .sl 1 NL, .sl 7 SL]], 0⟩).set (n + 1) ⟨7, [[I 0, S [], I 0, S [], S [], .sl 1 [], .sl 7 []]], 0⟩) (n + 1 + 1) 6 0) (fun i => i) 0 ⟨by simp [h2], by simp [h3], by simp [I], by omega, rfl, rfl⟩ ?_
    rintro i σ m2 n2 ⟨h2, h3, h5, le, rfl, rfl⟩
    have : i = 0 := by omega
    subst this
    simp -dsimp [h2, h3, h5, I, S, set_ne, nn1, n1n, hL1, hL2]
    exact hq ⟨by simp [Tt], fr _ _⟩
  · rintro d m' n' ⟨rfl, h⟩
    exact ⟨_, (pur_T _).pub, h, rfl⟩
end Go.Proofs.Mv.App
open Go Go.Proofs Go.Proofs.Mv.V
set_option maxRecDepth 10000
namespace Go.Proofs.Mv.App
set_option maxHeartbeats 1000000 in
theorem cImpOk {i : Imp} (hi : ImpW i) (m : Mem) (n : Nat) : ACalls Tryz.prog 79 [.agg (impD i)] m n (fun d m' n' => d = Tt (impOk i) ∧ m' = m ∧ n' = n) := by
  obtain ⟨pkg, major, mod, as_⟩ := i
  obtain ⟨q1, q2, q3⟩ := hi
  simp only at q1 q2 q3
  refine acalls_done (R' := Hq (fun d m' n' => d = Tt (impOk ⟨pkg, major, mod, as_⟩) ∧ ∀ j, j < n → m' j = m j) tg) ?_ ?_
  · have fr : ∀ o j, j < n → (m.set n o) j = m j := fun o j hj => by rw [set_ne _ _ _ _ (by omega)]
    simp only [impD, impOk]
    refine acalls_vc [0, 1, 2] Tryz.func79 Tryz.ntmps79 (by kernel_rfl) rfl rfl (by simp) ?_
    simp -dsimp [I, S]
    refine aCall_of (cSmall pkg q1 _ _) ?_
    rintro d m' n' ⟨rfl, rfl, rfl⟩
    cases h1 : smallN pkg with
    | false =>
      simp -dsimp [I, S, Tt]
      exact hq ⟨by simp [Tt], fr _⟩
    | true =>
    simp -dsimp [I, S, Tt]
    refine aCall_of (cSmall mod q2 _ _) ?_
    rintro d m' n' ⟨rfl, rfl, rfl⟩
    cases h2 : smallN mod with
    | false =>
      simp -dsimp [I, S, Tt]
      exact hq ⟨by simp [Tt], fr _⟩
    | true =>
    simp -dsimp [I, S, Tt]
    refine aCall_of (cSmall as_ q3 _ _) ?_
    rintro d m' n' ⟨rfl, rfl, rfl⟩
    cases h3 : smallN as_ with
    | false =>
      simp -dsimp [I, S, Tt]
      exact hq ⟨by simp [Tt], fr _⟩
    | true =>
    by_cases h4 : 1 ≤ major
    · simp -dsimp [I, S, Tt, h4]
      exact hq ⟨by simp [Tt, h4], fr _⟩
    · simp -dsimp [I, S, Tt, h4]
      exact hq ⟨by simp [Tt, h4], fr _⟩
  · rintro d m' n' ⟨rfl, h⟩
    exact ⟨_, (pur_T _).pub, h, rfl⟩
set_option maxHeartbeats 1000000 in
theorem cRImp {i : Imp} (m : Mem) (n : Nat) : ACalls Tryz.prog 76 [.agg (impD i)] m n (fun d m' n' => d = Tt (impOk i) ∧ m' = m ∧ n' = n) := by
  obtain ⟨pkg, major, mod, as_⟩ := i
  refine acalls_done (R' := Hq (fun d m' n' => d = Tt (impOk ⟨pkg, major, mod, as_⟩) ∧ ∀ j, j < n → m' j = m j) tg) ?_ ?_
  · have fr : ∀ o j, j < n → (m.set n o) j = m j := fun o j hj => by rw [set_ne _ _ _ _ (by omega)]
    simp only [impD, impOk]
    refine acalls_vc [0, 1, 2, 3, 4, 5] Tryz.func76 Tryz.ntmps76 (by kernel_rfl) rfl rfl (by simp) ?_
    simp -dsimp [I, S]
    refine aCall_of (cRefSmall pkg _ _) ?_
    rintro d m' n' ⟨rfl, rfl, rfl⟩
    simp -dsimp [I, S]
    refine aCall_of (cRefSmall mod _ _) ?_
    rintro d m' n' ⟨rfl, rfl, rfl⟩
    simp -dsimp [I, S]
    refine aCall_of (cRefSmall as_ _ _) ?_
    rintro d m' n' ⟨rfl, rfl, rfl⟩
    cases h1 : smallN pkg with
    | false =>
      simp -dsimp [I, S, Tt]
      exact hq ⟨by simp [Tt], fr _⟩
    | true =>
    cases h2 : smallN mod with
    | false =>
      simp -dsimp [I, S, Tt]
      exact hq ⟨by simp [Tt], fr _⟩
    | true =>
    cases h3 : smallN as_ with
    | false =>
      simp -dsimp [I, S, Tt]
      exact hq ⟨by simp [Tt], fr _⟩
    | true =>
    by_cases h4 : 1 ≤ major
    · simp -dsimp [I, S, Tt, h4]
      exact hq ⟨by simp [Tt, h4], fr _⟩
    · simp -dsimp [I, S, Tt, h4]
      exact hq ⟨by simp [Tt, h4], fr _⟩
  · rintro d m' n' ⟨rfl, h⟩
    exact ⟨_, (pur_T _).pub, h, rfl⟩
set_option maxHeartbeats 1000000 in
theorem cNothing {t : Ty} (ht : TyW t) (m : Mem) (n : Nat) : ACalls Tryz.prog 154 [.agg (tyD t)] m n (fun d m' n' => d = Tt (nothingT t) ∧ m' = m ∧ n' = n) := by
  refine acalls_done (R' := Hq (fun d m' n' => d = Tt (nothingT t) ∧ ∀ j, j < n → m' j = m j) tg) ?_ ?_
  · have fr : ∀ o j, j < n → (m.set n o) j = m j := fun o j hj => by rw [set_ne _ _ _ _ (by omega)]
    obtain ⟨kind, pkg, major, mod, name, names, subs⟩ := t
    have hL1 : (names.map fun s => [S s]).length = names.length := by simp
    have hL2 : (tysD subs).length = subs.length := by rw [tysD_eq]; simp
    simp only [nothingT, emptyT, Ty.kind, Ty.pkg, Ty.major, Ty.mod, Ty.name, Ty.names, Ty.subs]
    simp only [tyD, sl1]
    generalize (names.map fun s => [S s]) = NL at hL1
    generalize tysD subs = SL at hL2
    generalize names.length = ks at hL1 ⊢
    generalize subs.length = ns at hL2 ⊢
    refine acalls_vc [0, 1, 2] Tryz.func154 Tryz.ntmps154 (by kernel_rfl) rfl rfl (by simp) ?_
    by_cases e1 : kind = 0
    case neg =>
      have e1' : (kind == 0) = false := by simpa using e1
      simp -dsimp [I, S, e1']
      exact hq ⟨by simp [Tt, e1], fr _⟩
    by_cases e2 : pkg = []
    case neg =>
      have e2' : (pkg == []) = false := by simpa using e2
      have i2' : pkg.isEmpty = false := by simpa using e2
      simp -dsimp [I, S, e1, e2', i2']
      exact hq ⟨by simp [Tt, e2], fr _⟩
    by_cases e3 : major = 0
    case neg =>
      have e3' : (major == 0) = false := by simpa using e3
      simp -dsimp [I, S, e1, e2, e3']
      exact hq ⟨by simp [Tt, e3], fr _⟩
    by_cases e4 : mod = []
    case neg =>
      have e4' : (mod == []) = false := by simpa using e4
      have i4' : mod.isEmpty = false := by simpa using e4
      simp -dsimp [I, S, e1, e2, e3, e4', i4']
      exact hq ⟨by simp [Tt, e4], fr _⟩
    by_cases e5 : name = []
    case neg =>
      have e5' : (name == []) = false := by simpa using e5
      have i5' : name.isEmpty = false := by simpa using e5
      simp -dsimp [I, S, e1, e2, e3, e4, e5', i5']
      exact hq ⟨by simp [Tt, e5], fr _⟩
    by_cases e6 : ks = 0
    case neg =>
      have e6' : ((ks : Int) == 0) = false := by simp; omega
      simp -dsimp [I, S, hL1, hL2, e1, e2, e3, e4, e5, e6']
      exact hq ⟨by simp [Tt, e6], fr _⟩
    by_cases e7 : ns = 0
    case neg =>
      have e7' : ((ns : Int) == 0) = false := by simp; omega
      simp -dsimp [I, S, hL1, hL2, e1, e2, e3, e4, e5, e6, e7']
      exact hq ⟨by simp [Tt, e7], fr _⟩
    simp -dsimp [I, S, hL1, hL2, e1, e2, e3, e4, e5, e6, e7]
    exact hq ⟨by simp [Tt, e1, e2, e3, e4, e5, e6, e7], fr _⟩
  · rintro d m' n' ⟨rfl, h⟩
    exact ⟨_, (pur_T _).pub, h, rfl⟩
set_option maxHeartbeats 1000000 in
theorem cDclOk {d : Dcl} (hd : DclW d) (m : Mem) (n : Nat) : ACalls Tryz.prog 81 [.agg (dclD d)] m n (fun e m' n' => e = Tt (dclOk d) ∧ m' = m ∧ n' = n) := by
  obtain ⟨kind, name, typ⟩ := d
  obtain ⟨q1, q2⟩ := hd
  simp only at q1 q2
  refine acalls_done (R' := Hq (fun d m' n' => d = Tt (dclOk ⟨kind, name, typ⟩) ∧ ∀ j, j < n → m' j = m j) tg) ?_ ?_
  · have fr : ∀ o j, j < n → (m.set n o) j = m j := fun o j hj => by rw [set_ne _ _ _ _ (by omega)]
    have h7 := tyD_len typ
    have c1 := fun m n => cNothing q2 m n
    have c2 := fun m n => cMay q2 m n
    have gr := fun m n => cGreat name q1 m n
    have sm := fun m n => cSmall name q1 m n
    simp only [dclD, dclOk]
    generalize tyD typ = TT at h7 c1 c2
    have ht7 : List.take 7 TT = TT := List.take_of_length_le (by omega)
    refine acalls_vc [0, 1, 2, 4, 5, 16, 26] Tryz.func81 Tryz.ntmps81 (by kernel_rfl) rfl rfl (by simp) ?_
    have hG : ∀ {Q : Bool} {f : FuncId}, True := fun {_ _} => trivial
    by_cases k1 : kind = 1
    · subst k1
      simp -dsimp [I, S, h7, ht7]
      refine aCall_of (gr _ _) ?_
      rintro d m' n' ⟨rfl, rfl, rfl⟩
      cases e : greatN name with
      | false =>
        simp -dsimp [I, S, Tt]
        exact hq ⟨by simp [Tt], fr _⟩
      | true =>
      simp -dsimp [I, S, Tt, h7, ht7]
      refine aCall_of (c1 _ _) ?_
      rintro d m' n' ⟨rfl, rfl, rfl⟩
      simp -dsimp [Tt]
      exact hq ⟨by simp [Tt], fr _⟩
    have k1' : (kind == 1) = false := by simpa using k1
    by_cases k2 : kind = 2
    · subst k2
      simp -dsimp [I, S, h7, ht7]
      refine aCall_of (gr _ _) ?_
      rintro d m' n' ⟨rfl, rfl, rfl⟩
      cases e : greatN name with
      | false =>
        simp -dsimp [I, S, Tt]
        exact hq ⟨by simp [Tt], fr _⟩
      | true =>
      simp -dsimp [I, S, Tt, h7, ht7]
      refine aCall_of (c1 _ _) ?_
      rintro d m' n' ⟨rfl, rfl, rfl⟩
      simp -dsimp [Tt]
      exact hq ⟨by simp [Tt], fr _⟩
    have k2' : (kind == 2) = false := by simpa using k2
    by_cases k3 : kind = 3
    · subst k3
      simp -dsimp [I, S, h7, ht7]
      refine aCall_of (gr _ _) ?_
      rintro d m' n' ⟨rfl, rfl, rfl⟩
      cases e : greatN name with
      | false =>
        simp -dsimp [I, S, Tt]
        exact hq ⟨by simp [Tt], fr _⟩
      | true =>
      simp -dsimp [I, S, Tt, h7, ht7]
      refine aCall_of (c2 _ _) ?_
      rintro d m' n' ⟨rfl, rfl, rfl⟩
      simp -dsimp [Tt]
      exact hq ⟨by simp [Tt], fr _⟩
    have k3' : (kind == 3) = false := by simpa using k3
    by_cases k4 : kind = 4
    · subst k4
      simp -dsimp [I, S, h7, ht7]
      refine aCall_of (sm _ _) ?_
      rintro d m' n' ⟨rfl, rfl, rfl⟩
      cases e : smallN name with
      | false =>
        simp -dsimp [I, S, Tt]
        exact hq ⟨by simp [Tt], fr _⟩
      | true =>
      simp -dsimp [I, S, Tt, h7, ht7]
      refine aCall_of (c2 _ _) ?_
      rintro d m' n' ⟨rfl, rfl, rfl⟩
      simp -dsimp [Tt]
      exact hq ⟨by simp [Tt], fr _⟩
    have k4' : (kind == 4) = false := by simpa using k4
    simp -dsimp [I, S, k1', k2', k3', k4', h7, ht7]
    exact hq ⟨by simp [Tt, k1, k2, k3, k4], fr _⟩
  · rintro d m' n' ⟨rfl, h⟩
    exact ⟨_, (pur_T _).pub, h, rfl⟩
set_option maxHeartbeats 1000000 in
theorem cRDcl {d : Dcl} (hd : DclW d) (hs : few3 d.typ = true) (m : Mem) (n : Nat) : ACalls Tryz.prog 77 [.agg (dclD d)] m n (fun e m' n' => e = Tt (dclOk d) ∧ m' = m ∧ n' = n) := by
  obtain ⟨kind, name, typ⟩ := d
  obtain ⟨q1, q2⟩ := hd
  simp only at q1 q2 hs
  refine acalls_done (R' := Hq (fun d m' n' => d = Tt (dclOk ⟨kind, name, typ⟩) ∧ ∀ j, j < n → m' j = m j) tg) ?_ ?_
  · have fr : ∀ o j, j < n → (m.set n o) j = m j := fun o j hj => by rw [set_ne _ _ _ _ (by omega)]
    have h7 := tyD_len typ
    have hmt : manyT typ ≤ 1000000 := by have := few3_many hs; omega
    have c0 : ∀ m n, ACalls Tryz.prog 22 [.agg (tyD typ), .agg [.v (.int .i64 0), S [], .v (.int .i64 0), S [], S [], .v (.slice none 0 0), .v (.slice none 0 0)]] m n (fun d m' n' => d = Tt (nothingT typ) ∧ m' = m ∧ n' = n) := fun m n =>
      acalls_le le_ty0 (cSame0 (few3_sm hs) m n)
    have c2 := fun m n => cRMay q2 hmt m n
    have gr := fun m n => cRefGreat name m n
    have sm := fun m n => cRefSmall name m n
    simp only [dclD, dclOk]
    generalize tyD typ = TT at h7 c0 c2
    have ht7 : List.take 7 TT = TT := List.take_of_length_le (by omega)
    refine acalls_vc [0, 1, 2, 3, 4, 5, 17, 18, 25, 33] Tryz.func77 Tryz.ntmps77 (by kernel_rfl) rfl rfl (by simp) ?_
    simp -dsimp [I, S, h7, ht7]
    refine aCall_of (sm _ _) ?_
    rintro d m' n' ⟨rfl, rfl, rfl⟩
    simp -dsimp [I, S, h7, ht7]
    refine aCall_of (gr _ _) ?_
    rintro d m' n' ⟨rfl, rfl, rfl⟩
    simp -dsimp [I, S, h7, ht7]
    simp only [S] at c0
    refine aCall_of (c0 _ _) ?_
    rintro d m' n' ⟨rfl, rfl, rfl⟩
    by_cases k1 : kind = 1
    · subst k1
      cases e : greatN name with
      | false =>
        simp -dsimp [I, S, Tt]
        exact hq ⟨by simp [Tt], fr _⟩
      | true =>
      simp -dsimp [I, S, Tt, h7, ht7]
      exact hq ⟨by simp [Tt], fr _⟩
    have k1' : (kind == 1) = false := by simpa using k1
    by_cases k2 : kind = 2
    · subst k2
      cases e : greatN name with
      | false =>
        simp -dsimp [I, S, Tt]
        exact hq ⟨by simp [Tt], fr _⟩
      | true =>
      simp -dsimp [I, S, Tt, h7, ht7]
      exact hq ⟨by simp [Tt], fr _⟩
    have k2' : (kind == 2) = false := by simpa using k2
    by_cases k3 : kind = 3
    · subst k3
      cases e : greatN name with
      | false =>
        simp -dsimp [I, S, Tt]
        exact hq ⟨by simp [Tt], fr _⟩
      | true =>
      simp -dsimp [I, S, Tt, h7, ht7]
      refine aCall_of (c2 _ _) ?_
      rintro d m' n' ⟨rfl, rfl, rfl⟩
      simp -dsimp [Tt]
      exact hq ⟨by simp [Tt], fr _⟩
    have k3' : (kind == 3) = false := by simpa using k3
    by_cases k4 : kind = 4
    · subst k4
      cases e : smallN name with
      | false =>
        simp -dsimp [I, S, Tt]
        exact hq ⟨by simp [Tt], fr _⟩
      | true =>
      simp -dsimp [I, S, Tt, h7, ht7]
      refine aCall_of (c2 _ _) ?_
      rintro d m' n' ⟨rfl, rfl, rfl⟩
      simp -dsimp [Tt]
      exact hq ⟨by simp [Tt], fr _⟩
    have k4' : (kind == 4) = false := by simpa using k4
    simp -dsimp [I, S, k1', k2', k3', k4', h7, ht7]
    exact hq ⟨by simp [Tt, k1, k2, k3, k4], fr _⟩
  · rintro d m' n' ⟨rfl, h⟩
    exact ⟨_, (pur_T _).pub, h, rfl⟩
set_option maxHeartbeats 1000000 in
theorem cLine {d : Dcl} (hd : dclOk d = true) (m : Mem) (n : Nat) : ACalls Tryz.prog 74 [.agg (dclD d)] m n (fun e m' n' => e = .tup [S (dclLine d), nilE] ∧ m' = m ∧ n' = n) := by
  obtain ⟨p1, p2⟩ := dcl_parts hd
  have p3 := dclLine_len hd
  obtain ⟨kind, name, typ⟩ := d
  simp only at p1 p2
  refine acalls_done (R' := Hq (fun d m' n' => d = .tup [S (dclLine ⟨kind, name, typ⟩), nilE] ∧ ∀ j, j < n → m' j = m j) tg) ?_ ?_
  · have fr : ∀ o j, j < n → (m.set n o) j = m j := fun o j hj => by rw [set_ne _ _ _ _ (by omega)]
    have h7 := tyD_len typ
    have c2 : mayT typ = true → ∀ m n, ACalls Tryz.prog 147 [.agg (tyD typ)] m n (fun d m' n' => d = .tup [S (textT typ), nilE] ∧ m' = m ∧ n' = n) := fun h m n => by
      have := cPrintT (allT_w _ (may_all h).1) m n
      rw [if_pos h, h] at this
      exact this
    have hl : mayT typ = true → (textT typ).length ≤ 65000 := mayT_len
    simp only [dclD, dclLine] at p3 ⊢
    generalize tyD typ = TT at h7 c2
    have ht7 : List.take 7 TT = TT := List.take_of_length_le (by omega)
    refine acalls_vc [0, 1, 2, 3, 4, 5, 7, 8, 13, 26] Tryz.func74 Tryz.ntmps74 (by kernel_rfl) rfl rfl (by simp) ?_
    by_cases k1 : kind = 1
    · subst k1
      simp -dsimp [I, S, h7, ht7]
      refine ⟨by omega, ?_⟩
      exact hq ⟨by simp [S, nilE, wOpa], fr _⟩
    have k1' : (kind == 1) = false := by simpa using k1
    by_cases k2 : kind = 2
    · subst k2
      simp -dsimp [I, S, h7, ht7]
      refine ⟨by omega, ?_⟩
      exact hq ⟨by simp [S, nilE, wHid], fr _⟩
    have k2' : (kind == 2) = false := by simpa using k2
    have hm : mayT typ = true := by
      rcases p2 with ⟨p, _⟩ | ⟨_, p⟩
      · omega
      · exact p
    have hl := hl hm
    simp -dsimp [I, S, k1', k2', h7, ht7]
    refine aCall_of (c2 hm _ _) ?_
    rintro d m' n' ⟨rfl, rfl, rfl⟩
    by_cases k3 : kind = 3
    · subst k3
      simp -dsimp [I, S, nilE]
      refine ⟨by omega, by omega, by omega, ?_⟩
      exact hq ⟨by simp [S, nilE, wAli], fr _⟩
    have k3' : (kind == 3) = false := by simpa using k3
    simp -dsimp [I, S, k3', nilE]
    refine ⟨by omega, by omega, by omega, ?_⟩
    exact hq ⟨by simp [S, nilE, wVal, k1, k2, k3], fr _⟩
  · rintro d m' n' ⟨rfl, h⟩
    exact ⟨_, pub_pair (pur_S _).pub pur_nilE.pub, h, rfl⟩
end Go.Proofs.Mv.App
open Go Go.Proofs Go.Proofs.Mv.V
set_option maxRecDepth 10000
namespace Go.Proofs.Mv.App
def hasQMI (q : Nat) : D := .func (.func 151) [] [.ptr q 0 0 0]
theorem cHasMI {x : Imp} {ok : Imp → Bool} {fp : FuncId} (hp : ∀ m n, ACalls Tryz.prog fp [.agg (impD x)] m n (fun d m' n' => d = Tt (ok x) ∧ m' = m ∧ n' = n)) {q : Nat} {m : Mem} {n : Nat} (hq' : q < n) (hm : m q = some ⟨1, [[.func (.func fp) [] []]], 0⟩) :
    ACalls Tryz.prog 151 [.agg (impD x), .ptr q 0 0 0] m n (fun d m' n' => d = Tt (!ok x) ∧ m' = m ∧ n' = n) := by
  have qn : q ≠ n := by omega
  have nq : n ≠ q := by omega
  refine acalls_done (R' := Hq (fun d m' n' => d = Tt (!ok x) ∧ ∀ j, j < n → m' j = m j) tg) ?_ ?_
  · have hz : (impD x).length = 4 := by simp [impD]
    generalize impD x = XX at hp hz
    have htz : List.take 4 XX = XX := List.take_of_length_le (by omega)
    refine acalls_vc [0, 1, 2, 3] Tryz.func151 Tryz.ntmps151 (by kernel_rfl) rfl rfl (by simp) ?_
    simp -dsimp [hm, set_ne, qn, nq, S, I, hz, htz]
    refine aCall_of (hp _ _) ?_
    rintro d m' n' ⟨rfl, rfl, rfl⟩
    simp -dsimp [Tt]
    exact hq ⟨by simp [Tt], fun j hj => set_ne _ _ _ _ (by omega)⟩
  · rintro d m' n' ⟨rfl, h⟩
    exact ⟨_, (pur_T _).pub, h, rfl⟩
structure FindIMI (l : List Imp) (ok : Imp → Bool) (EL : List (List D)) (q : Nat) (m : Mem) (n : Nat) (i : Nat) (σ : Nat → D) (m2 : Mem) (n2 : Nat) : Prop where
  h0 : σ 0 = .sl 4 EL
  h1 : σ 1 = hasQMI q
  h7 : σ 7 = I l.length
  h8 : σ 8 = I i
  le : i ≤ l.length
  al : ∀ x ∈ l.take i, ok x = true
  mm : m2 = m
  nn : n2 = n
set_option maxHeartbeats 1000000 in
theorem cFindMI {l : List Imp} {ok : Imp → Bool} {fp : FuncId} (hp : ∀ x ∈ l, ∀ m n, ACalls Tryz.prog fp [.agg (impD x)] m n (fun d m' n' => d = Tt (ok x) ∧ m' = m ∧ n' = n)) (hlen : l.length ≤ 100000) {q : Nat} {m : Mem} {n : Nat} (hq' : q < n) (hm : m q = some ⟨1, [[.func (.func fp) [] []]], 0⟩) :
    ACalls Tryz.prog 198 [.sl 4 (l.map impD), hasQMI q] m n (Hq (fun d m' n' => ∃ r : Int, d = I r ∧ (0 ≤ r ↔ l.all ok = false) ∧ m' = m ∧ n' = n) tg) := by
  have hL2 : (l.map impD).length = l.length := by simp
  have hG2 : ∀ i (h : i < l.length), (l.map impD)[i]? = some (impD l[i]) := fun i h => by simp [h]
  generalize l.map impD = EL at hL2 hG2
  refine acalls_vc [0, 1, 4, 5, 7, 8, 9, 16] Tryz.func198 Tryz.ntmps198 (by kernel_rfl) rfl rfl (by simp) ?_
  simp -dsimp [hL2, hasQMI]
  refine vloop_of (β := Nat) (FindIMI l ok EL q m n) (fun i => l.length - i) 0 ⟨by simp, by simp [hasQMI], by simp [I], by simp [I], by omega, by simp, rfl, rfl⟩ ?_
  rintro i σ m2 n2 ⟨h0, h1, h7, h8, le, al, rfl, rfl⟩
  by_cases hi : (i : Int) < l.length
  · have hi' : i < l.length := by omega
    have wi : IntKind.i64.wrap ((i : Int) + 1) = (i : Int) + 1 := wrap_i64 (by omega) (by omega)
    have hiN : i < EL.length := by omega
    have hgi : EL[i] = impD l[i] := get_opt (hG2 i hi') hiN
    have hc := cHasMI (ok := ok) (hp l[i] (List.getElem_mem hi')) hq' hm
    have hz : (impD l[i]).length = 4 := by simp [impD]
    generalize impD l[i] = XX at hgi hc hz
    have htz : List.take 4 XX = XX := List.take_of_length_le (by omega)
    simp -dsimp [h0, h1, h7, h8, I, hi, hi', hasQMI, hiN, hgi, hz, htz]
    refine aCall_of hc ?_
    rintro d m' n' ⟨rfl, rfl, rfl⟩
    cases e : ok l[i] with
    | false =>
      simp -dsimp [Tt, h0, h1, h7, h8, I]
      refine hq ⟨i, rfl, ?_, rfl, rfl⟩
      have : l.all ok = false := by
        rw [List.all_eq_false]
        exact ⟨_, List.getElem_mem hi', by simp [e]⟩
      simp [this]
    | true =>
      simp -dsimp [Tt, h0, h1, h7, h8, I, wi]
      refine ⟨i + 1, by omega, by simp, by simp [hasQMI], by simp [I], by simp [I], by omega, ?_, rfl, rfl⟩
      intro x hx
      rw [List.take_succ_eq_append_getElem hi'] at hx
      rcases List.mem_append.1 hx with hx | hx
      · exact al x hx
      · simp at hx; rw [hx]; exact e
  · simp -dsimp [h0, h1, h7, h8, I, hi]
    have : i = l.length := by omega
    subst this
    rw [List.take_length] at al
    refine hq ⟨-1, rfl, ?_, rfl, rfl⟩
    have : l.all ok = true := List.all_eq_true.2 al
    simp [this]
theorem cAllMI {l : List Imp} {ok : Imp → Bool} {fp : FuncId} (hp : ∀ x ∈ l, ∀ m n, ACalls Tryz.prog fp [.agg (impD x)] m n (fun d m' n' => d = Tt (ok x) ∧ m' = m ∧ n' = n)) (hlen : l.length ≤ 100000) (m : Mem) (n : Nat) :
    ACalls Tryz.prog 78 [.sl 4 (l.map impD), .func (.func fp) [] []] m n (fun d m' n' => d = Tt (l.all ok) ∧ m' = m ∧ n' = n) := by
  have hCt : ∀ {q : Nat} {m : Mem} {n : Nat}, q < n → m q = some ⟨1, [[.func (.func fp) [] []]], 0⟩ →
      ACalls Tryz.prog 150 [.sl 4 (l.map impD), hasQMI q] m n (fun d m' n' => d = Tt (!l.all ok) ∧ m' = m ∧ n' = n) := by
    intro q m n hq' hm
    have hc := cFindMI (ok := ok) hp hlen hq' hm
    generalize l.map impD = EL at hc
    refine acalls_vc [0, 1, 4] Tryz.func150 Tryz.ntmps150 (by kernel_rfl) rfl rfl (by simp) ?_
    simp -dsimp [hasQMI]
    refine aCall_of hc ?_
    rintro d m' n' ⟨r, rfl, hr, rfl, rfl⟩
    cases h : l.all ok with
    | false =>
      have : 0 ≤ r := hr.2 h
      simp -dsimp [I, Tt, this]
    | true =>
      have : ¬ 0 ≤ r := fun e => by rw [hr.1 e] at h; cases h
      simp -dsimp [I, Tt, this]
  refine acalls_done (R' := Hq (fun d m' n' => d = Tt (l.all ok) ∧ ∀ j, j < n → m' j = m j) tg) ?_ ?_
  · generalize l.map impD = EL at hCt
    refine acalls_vc [0, 1, 3, 4] Tryz.func78 Tryz.ntmps78 (by kernel_rfl) rfl rfl (by simp) ?_
    simp -dsimp
    have hc := hCt (q := n) (m := m.set n ⟨1, [[.func (.func fp) [] []]], 0⟩) (n := n + 1) (by omega) (by simp)
    simp only [hasQMI] at hc
    refine aCall_of hc ?_
    rintro d m' n' ⟨rfl, rfl, rfl⟩
    simp -dsimp [Tt]
    exact hq ⟨by simp [Tt], fun j hj => set_ne _ _ _ _ (by omega)⟩
  · rintro d m' n' ⟨rfl, h⟩
    exact ⟨_, (pur_T _).pub, h, rfl⟩
def hasQMD (q : Nat) : D := .func (.func 153) [] [.ptr q 0 0 0]
theorem cHasMD {x : Dcl} {ok : Dcl → Bool} {fp : FuncId} (hp : ∀ m n, ACalls Tryz.prog fp [.agg (dclD x)] m n (fun d m' n' => d = Tt (ok x) ∧ m' = m ∧ n' = n)) {q : Nat} {m : Mem} {n : Nat} (hq' : q < n) (hm : m q = some ⟨1, [[.func (.func fp) [] []]], 0⟩) :
    ACalls Tryz.prog 153 [.agg (dclD x), .ptr q 0 0 0] m n (fun d m' n' => d = Tt (!ok x) ∧ m' = m ∧ n' = n) := by
  have qn : q ≠ n := by omega
  have nq : n ≠ q := by omega
  refine acalls_done (R' := Hq (fun d m' n' => d = Tt (!ok x) ∧ ∀ j, j < n → m' j = m j) tg) ?_ ?_
  · have hz : (dclD x).length = 9 := by simp [dclD, tyD_len]
    generalize dclD x = XX at hp hz
    have htz : List.take 9 XX = XX := List.take_of_length_le (by omega)
    refine acalls_vc [0, 1, 2, 3] Tryz.func153 Tryz.ntmps153 (by kernel_rfl) rfl rfl (by simp) ?_
    simp -dsimp [hm, set_ne, qn, nq, S, I, hz, htz]
    refine aCall_of (hp _ _) ?_
    rintro d m' n' ⟨rfl, rfl, rfl⟩
    simp -dsimp [Tt]
    exact hq ⟨by simp [Tt], fun j hj => set_ne _ _ _ _ (by omega)⟩
  · rintro d m' n' ⟨rfl, h⟩
    exact ⟨_, (pur_T _).pub, h, rfl⟩
structure FindIMD (l : List Dcl) (ok : Dcl → Bool) (EL : List (List D)) (q : Nat) (m : Mem) (n : Nat) (i : Nat) (σ : Nat → D) (m2 : Mem) (n2 : Nat) : Prop where
  h0 : σ 0 = .sl 9 EL
  h1 : σ 1 = hasQMD q
  h7 : σ 7 = I l.length
  h8 : σ 8 = I i
  le : i ≤ l.length
  al : ∀ x ∈ l.take i, ok x = true
  mm : m2 = m
  nn : n2 = n
set_option maxHeartbeats 1000000 in
theorem cFindMD {l : List Dcl} {ok : Dcl → Bool} {fp : FuncId} (hp : ∀ x ∈ l, ∀ m n, ACalls Tryz.prog fp [.agg (dclD x)] m n (fun d m' n' => d = Tt (ok x) ∧ m' = m ∧ n' = n)) (hlen : l.length ≤ 100000) {q : Nat} {m : Mem} {n : Nat} (hq' : q < n) (hm : m q = some ⟨1, [[.func (.func fp) [] []]], 0⟩) :
    ACalls Tryz.prog 199 [.sl 9 (l.map dclD), hasQMD q] m n (Hq (fun d m' n' => ∃ r : Int, d = I r ∧ (0 ≤ r ↔ l.all ok = false) ∧ m' = m ∧ n' = n) tg) := by
  have hL2 : (l.map dclD).length = l.length := by simp
  have hG2 : ∀ i (h : i < l.length), (l.map dclD)[i]? = some (dclD l[i]) := fun i h => by simp [h]
  generalize l.map dclD = EL at hL2 hG2
  refine acalls_vc [0, 1, 4, 5, 7, 8, 9, 16] Tryz.func199 Tryz.ntmps199 (by kernel_rfl) rfl rfl (by simp) ?_
  simp -dsimp [hL2, hasQMD]
  refine vloop_of (β := Nat) (FindIMD l ok EL q m n) (fun i => l.length - i) 0 ⟨by simp, by simp [hasQMD], by simp [I], by simp [I], by omega, by simp, rfl, rfl⟩ ?_
  rintro i σ m2 n2 ⟨h0, h1, h7, h8, le, al, rfl, rfl⟩
  by_cases hi : (i : Int) < l.length
  · have hi' : i < l.length := by omega
    have wi : IntKind.i64.wrap ((i : Int) + 1) = (i : Int) + 1 := wrap_i64 (by omega) (by omega)
    have hiN : i < EL.length := by omega
    have hgi : EL[i] = dclD l[i] := get_opt (hG2 i hi') hiN
    have hc := cHasMD (ok := ok) (hp l[i] (List.getElem_mem hi')) hq' hm
    have hz : (dclD l[i]).length = 9 := by simp [dclD, tyD_len]
    generalize dclD l[i] = XX at hgi hc hz
    have htz : List.take 9 XX = XX := List.take_of_length_le (by omega)
    simp -dsimp [h0, h1, h7, h8, I, hi, hi', hasQMD, hiN, hgi, hz, htz]
    refine aCall_of hc ?_
    rintro d m' n' ⟨rfl, rfl, rfl⟩
    cases e : ok l[i] with
    | false =>
      simp -dsimp [Tt, h0, h1, h7, h8, I]
      refine hq ⟨i, rfl, ?_, rfl, rfl⟩
      have : l.all ok = false := by
        rw [List.all_eq_false]
        exact ⟨_, List.getElem_mem hi', by simp [e]⟩
      simp [this]
    | true =>
      simp -dsimp [Tt, h0, h1, h7, h8, I, wi]
      refine ⟨i + 1, by omega, by simp, by simp [hasQMD], by simp [I], by simp [I], by omega, ?_, rfl, rfl⟩
      intro x hx
      rw [List.take_succ_eq_append_getElem hi'] at hx
      rcases List.mem_append.1 hx with hx | hx
      · exact al x hx
      · simp at hx; rw [hx]; exact e
  · simp -dsimp [h0, h1, h7, h8, I, hi]
    have : i = l.length := by omega
    subst this
    rw [List.take_length] at al
    refine hq ⟨-1, rfl, ?_, rfl, rfl⟩
    have : l.all ok = true := List.all_eq_true.2 al
    simp [this]
theorem cAllMD {l : List Dcl} {ok : Dcl → Bool} {fp : FuncId} (hp : ∀ x ∈ l, ∀ m n, ACalls Tryz.prog fp [.agg (dclD x)] m n (fun d m' n' => d = Tt (ok x) ∧ m' = m ∧ n' = n)) (hlen : l.length ≤ 100000) (m : Mem) (n : Nat) :
    ACalls Tryz.prog 80 [.sl 9 (l.map dclD), .func (.func fp) [] []] m n (fun d m' n' => d = Tt (l.all ok) ∧ m' = m ∧ n' = n) := by
  have hCt : ∀ {q : Nat} {m : Mem} {n : Nat}, q < n → m q = some ⟨1, [[.func (.func fp) [] []]], 0⟩ →
      ACalls Tryz.prog 152 [.sl 9 (l.map dclD), hasQMD q] m n (fun d m' n' => d = Tt (!l.all ok) ∧ m' = m ∧ n' = n) := by
    intro q m n hq' hm
    have hc := cFindMD (ok := ok) hp hlen hq' hm
    generalize l.map dclD = EL at hc
    refine acalls_vc [0, 1, 4] Tryz.func152 Tryz.ntmps152 (by kernel_rfl) rfl rfl (by simp) ?_
    simp -dsimp [hasQMD]
    refine aCall_of hc ?_
    rintro d m' n' ⟨r, rfl, hr, rfl, rfl⟩
    cases h : l.all ok with
    | false =>
      have : 0 ≤ r := hr.2 h
      simp -dsimp [I, Tt, this]
    | true =>
      have : ¬ 0 ≤ r := fun e => by rw [hr.1 e] at h; cases h
      simp -dsimp [I, Tt, this]
  refine acalls_done (R' := Hq (fun d m' n' => d = Tt (l.all ok) ∧ ∀ j, j < n → m' j = m j) tg) ?_ ?_
  · generalize l.map dclD = EL at hCt
    refine acalls_vc [0, 1, 3, 4] Tryz.func80 Tryz.ntmps80 (by kernel_rfl) rfl rfl (by simp) ?_
    simp -dsimp
    have hc := hCt (q := n) (m := m.set n ⟨1, [[.func (.func fp) [] []]], 0⟩) (n := n + 1) (by omega) (by simp)
    simp only [hasQMD] at hc
    refine aCall_of hc ?_
    rintro d m' n' ⟨rfl, rfl, rfl⟩
    simp -dsimp [Tt]
    exact hq ⟨by simp [Tt], fun j hj => set_ne _ _ _ _ (by omega)⟩
  · rintro d m' n' ⟨rfl, h⟩
    exact ⟨_, (pur_T _).pub, h, rfl⟩
set_option maxHeartbeats 1000000 in
theorem cMayM {x : Md} (hx : MdW x) (m : Mem) (n : Nat) : ACalls Tryz.prog 34 [.agg (mdD x)] m n (fun d m' n' => d = Tt (mayM x) ∧ m' = m ∧ n' = n) := by
  obtain ⟨name, imps, decls⟩ := x
  obtain ⟨q1, q2, q3, q4, q5⟩ := hx
  simp only at q1 q2 q3 q4 q5
  refine acalls_done (R' := Hq (fun d m' n' => d = Tt (mayM ⟨name, imps, decls⟩) ∧ ∀ j, j < n → m' j = m j) tg) ?_ ?_
  · have fr : ∀ o j, j < n → (m.set n o) j = m j := fun o j hj => by rw [set_ne _ _ _ _ (by omega)]
    have c1 := fun h m n => cAllMI (l := imps) (ok := impOk) (fp := 79) (fun x hx m n => cImpOk (q4 x hx) m n) h m n
    have c2 := fun h m n => cAllMD (l := decls) (ok := dclOk) (fp := 81) (fun x hx m n => cDclOk (q5 x hx) m n) h m n
    have hL1 : (imps.map impD).length = imps.length := by simp
    have hL2 : (decls.map dclD).length = decls.length := by simp
    simp only [mdD, mayM]
    generalize imps.map impD = IL at hL1 c1
    generalize decls.map dclD = DL at hL2 c2
    refine acalls_vc [0, 1, 2] Tryz.func34 Tryz.ntmps34 (by kernel_rfl) rfl rfl (by simp) ?_
    simp -dsimp [S]
    refine aCall_of (cSmall name q1 _ _) ?_
    rintro d m' n' ⟨rfl, rfl, rfl⟩
    cases h1 : smallN name with
    | false =>
      simp -dsimp [I, S, Tt]
      exact hq ⟨by simp [Tt], fr _⟩
    | true =>
    by_cases h2 : (imps.length : Int) ≤ 20
    case neg =>
      have h2' : ¬ imps.length ≤ 20 := by omega
      simp -dsimp [I, S, Tt, hL1, hL2, h2, h2']
      exact hq ⟨by simp [Tt, h2'], fr _⟩
    have h2' : imps.length ≤ 20 := by omega
    by_cases h3 : (decls.length : Int) ≤ 60
    case neg =>
      have h3' : ¬ decls.length ≤ 60 := by omega
      simp -dsimp [I, S, Tt, hL1, hL2, h2, h2', h3, h3']
      exact hq ⟨by simp [Tt, h3'], fr _⟩
    have h3' : decls.length ≤ 60 := by omega
    simp -dsimp [I, S, Tt, hL1, hL2, h2, h2', h3, h3']
    refine aCall_of (c1 (by omega) _ _) ?_
    rintro d m' n' ⟨rfl, rfl, rfl⟩
    cases h4 : imps.all impOk with
    | false =>
      simp -dsimp [I, S, Tt]
      exact hq ⟨by simp [Tt], fr _⟩
    | true =>
    simp -dsimp [I, S, Tt, hL1, hL2]
    refine aCall_of (c2 (by omega) _ _) ?_
    rintro d m' n' ⟨rfl, rfl, rfl⟩
    simp -dsimp [Tt]
    exact hq ⟨by simp [Tt, h2', h3'], fr _⟩
  · rintro d m' n' ⟨rfl, h⟩
    exact ⟨_, (pur_T _).pub, h, rfl⟩
end Go.Proofs.Mv.App
open Go Go.Proofs Go.Proofs.Mv.V
set_option maxRecDepth 10000
namespace Go.Proofs.Mv.App
structure CmInv (name : List UInt8) (IL DL : List (List D)) (q : Nat) (m : Mem) (n : Nat) (i : Nat) (σ : Nat → D) (m2 : Mem) (n2 : Nat) : Prop where
  h1 : σ 1 = .ptr n 0 0 0
  h2 : σ 2 = .ptr (n + 1) 0 0 0
  h3 : σ 3 = .sl 9 DL
  h4 : σ 4 = I i
  le : i ≤ q
  nn : n + 1 + 1 ≤ n2
  fr : ∀ j, j < n → m2 j = m j
  m1 : m2 (n + 1) = some ⟨3, [[S [], .v (.slice none 0 0), .v (.slice none 0 0)]], 0⟩
  ex : ∃ dI dD, m2 n = some ⟨3, [[S name, dI, dD]], 0⟩ ∧ Lst m2 4 IL dI ∧ (∀ j, kof dI = some j → n + 1 + 1 ≤ j ∧ j < n2) ∧ Lst m2 9 (DL.take i) dD ∧ ∀ j, kof dD = some j → n + 1 + 1 ≤ j ∧ j < n2 ∧ kof dI ≠ some j
set_option maxHeartbeats 4000000 in
theorem cCopyM {x : Md} (hx : MdW x) (hs : MdSm x) (m : Mem) (n : Nat) : ACalls Tryz.prog 36 [.agg (mdD x)] m n (fun d m' n' => d = .agg (mdD x) ∧ m' = m ∧ n' = n) := by
  refine acalls_done (R' := Hq (fun d m' n' => PubAs n m' d (.agg (mdD x)) ∧ ∀ j, j < n → m' j = m j) tg) ?_ ?_
  · have hmd : mdD x = [S x.name, .sl 4 (x.imps.map impD), .sl 9 (x.decls.map dclD)] := rfl
    have hL1 : (x.imps.map impD).length = x.imps.length := by simp
    have hP1 := @pur_imps x.imps
    have hL2 : (x.decls.map dclD).length = x.decls.length := by simp
    have hG2 : ∀ i (h : i < x.decls.length), (x.decls.map dclD)[i]? = some (dclD x.decls[i]) := fun i h => by simp [h]
    have hP2 := @pur_dcls x.decls
    rw [hmd]
    obtain ⟨s1, s2, s3⟩ := hs
    generalize x.imps.map impD = IL at hL1 hP1
    generalize x.decls.map dclD = DL at hL2 hG2 hP2
    refine acalls_vcC [0, 1, 2, 3, 4, 5, 17] Tryz.func36 Tryz.ntmps36 (by kernel_rfl) rfl rfl (by simp) ?_
    have nn1 : n ≠ n + 1 := by omega
    have n1n : n + 1 ≠ n := by omega
    have nn2 : n ≠ n + 1 + 1 := by omega
    have n12 : n + 1 ≠ n + 1 + 1 := by omega
    simp -dsimp [I, S, set_ne, nn1, n1n, nn2, n12, -vc_block]
    refine ⟨by omega, ?_⟩
    have n2n : n + 1 + 1 ≠ n := by omega
    have n21 : n + 1 + 1 ≠ n + 1 := by omega
    rw [vc_block]
    simp -dsimp [I, S, set_ne, nn1, n1n, nn2, n12, -vc_block]
    refine vloop_of (β := Nat) (CmInv x.name IL DL x.decls.length m n) (fun i => x.decls.length - i) 0 ⟨by simp, by simp, by simp, by simp [I], by omega, by omega, fun j hj => ?_, by simp [set_ne, n1n, n12, I, S], _, _, by simp [I, S]; rfl, Lst.own (k := n + 1 + 1) (g := 1) (by simp [set_ne, n2n]), by simp [kof], by simpa using Lst.nil, by simp [kof]⟩ ?_
    · have j1 : j ≠ n := by omega
      have j2 : j ≠ n + 1 := by omega
      have j3 : j ≠ n + 1 + 1 := by omega
      simp [set_ne, j1, j2, j3]
    rintro i σ m2 n2 ⟨g1, g2, g3, g4, le, nn, fr, e1, dI, dD, e0, hI, kI, hD, kD⟩
    by_cases hi : (i : Int) < x.decls.length
    · have hi' : i < x.decls.length := by omega
      have wi : IntKind.i64.wrap ((i : Int) + 1) = (i : Int) + 1 := wrap_i64 (by omega) (by omega)
      have hiN : i < DL.length := by omega
      have hgi : DL[i] = dclD x.decls[i] := get_opt (hG2 i hi') hiN
      have him : dclD x.decls[i] = I x.decls[i].kind :: S x.decls[i].name :: tyD x.decls[i].typ := rfl
      have hc := fun m n => cCopy (s3 _ (List.getElem_mem hi')) m n
      have h7 := tyD_len x.decls[i].typ
      rw [him] at hgi
      clear him
      generalize tyD x.decls[i].typ = TT at h7 hgi hc
      generalize x.decls[i].kind = y1 at hgi
      generalize x.decls[i].name = y2 at hgi
      obtain ⟨a1, a2, a3, a4, a5, a6, a7, rfl⟩ : ∃ a1 a2 a3 a4 a5 a6 a7, TT = [a1, a2, a3, a4, a5, a6, a7] := by
        match TT, h7 with
        | [a1, a2, a3, a4, a5, a6, a7], _ => exact ⟨a1, a2, a3, a4, a5, a6, a7, rfl⟩
      have kn : n ≠ n2 := by omega
      have nk : n2 ≠ n := by omega
      have kn1 : n + 1 ≠ n2 := by omega
      have nk1 : n2 ≠ n + 1 := by omega
      simp -dsimp [g1, g2, g3, g4, e0, e1, I, S, hL2, hi, hi', hiN, hgi, -vc_block]
      rw [vc_block]
      simp -dsimp [g1, g2, g3, g4, e0, e1, I, S, hL2, hi, hi', hiN, hgi, -vc_block]
      refine aCall_of (hc _ _) ?_
      rintro d m3 n3 ⟨rfl, rfl, rfl⟩
      simp -dsimp [g1, g2, g3, g4, e0, e1, I, S, hL2, hi, hi', hiN, hgi, set_ne, kn, nk, kn1, nk1, -vc_block]
      have hR : ∀ (o o' : V.Obj) (j : Nat), j < n2 → ((m2.set n2 o).set (n2 + 1) o') j = m2 j := fun o o' j hj => by rw [set_ne _ _ _ _ (by omega), set_ne _ _ _ _ (by omega)]
      refine b4_append (hD.frame fun j hj => hR _ _ j (by have := kD j hj; omega)) (fun j hj => by have := kD j hj; omega) trivial trivial (by omega) (by simp; omega) ?_
      intro d5 m5 n5 p1 p2 p3 p4
      have nd : ∀ j, j < n + 1 + 1 → kof dD ≠ some j := fun j hj e => by have := kD j e; omega
      have f0 : m5 n = some ⟨3, [[S x.name, dI, dD]], 0⟩ := by rw [p4 _ (by omega) (nd _ (by omega)), hR _ _ _ (by omega)]; exact e0
      have f1 : m5 (n + 1) = some ⟨3, [[S [], .v (.slice none 0 0), .v (.slice none 0 0)]], 0⟩ := by rw [p4 _ (by omega) (nd _ (by omega)), hR _ _ _ (by omega)]; exact e1
      have ok5 := okD_lst p1
      have hkd : ∀ j, kof d5 = some j → n + 1 + 1 ≤ j ∧ j < n5 ∧ kof dI ≠ some j := fun j hj => by
        have h := p3 j hj
        rcases h.2 with e | e
        · have := kD j e; exact ⟨by omega, by omega, this.2.2⟩
        · exact ⟨by omega, by omega, fun e' => by have := kI j e'; omega⟩
      simp -dsimp [g1, g2, g3, g4, f0, f1, ok5, I, S, wi, set_ne, -vc_block]
      refine ⟨i + 1, by omega, by simp [g1], by simp [g2], by simp [g3], by simp [I], by omega, by omega, fun j hj => ?_, by rw [set_ne _ _ _ _ n1n]; exact f1, dI, d5, by simp [I, S], hI.frame fun j hj => ?_, fun j hj => by have := kI j hj; omega, ?_, hkd⟩
      · rw [set_ne _ _ _ _ (by omega), p4 j (by omega) (nd j (by omega)), hR _ _ _ (by omega)]; exact fr j hj
      · have h1 := kI j hj
        rw [set_ne _ _ _ _ (by omega), p4 j (by omega) (fun e => (kD j e).2.2 hj), hR _ _ _ (by omega)]
      · rw [take_snoc hiN, hgi]
        exact p1.frame fun j hj => set_ne _ _ _ _ (by have := hkd j hj; omega)
    · have : i = x.decls.length := by omega
      subst this
      rw [List.take_of_length_le (by omega)] at hD
      simp -dsimp [g1, g2, g3, g4, e0, e1, I, S, hL2, set_ne, nn1, n1n]
      refine hq ⟨.agg (.cons (pur_S _).pub (.cons (.lstP (hI.frame fun j hj => set_ne _ _ _ _ (by have := kI j hj; omega)) (fun j hj => by have := kI j hj; omega) hP1) (.cons (.lstP (hD.frame fun j hj => set_ne _ _ _ _ (by have := kD j hj; omega)) (fun j hj => by have := kD j hj; omega) hP2) .nil))), fun j hj => ?_⟩
      rw [set_ne _ _ _ _ (by omega)]; exact fr j hj
  · rintro d m' n' ⟨h, hf⟩
    exact ⟨_, h, hf, rfl⟩
end Go.Proofs.Mv.App
