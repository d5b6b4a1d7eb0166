/- A part of the proofs: machine, contracts, laws. No condition of its own. -/
import Derived.Test.YtndinledjelleaaGreatDoorP12
set_option linter.unusedSimpArgs false
set_option linter.unusedVariables false
set_option linter.unusedSectionVars false
open Go Go.Proofs Go.Proofs.Mv.V
set_option maxRecDepth 10000
namespace Go.Proofs.Mv.App
def tysOf : Tm → List Ty
 | .mk _ _ _ _ _ _ types _ => types
structure SlAt (L : List (Nat × D)) (M : Mem) (n1 : Nat) (p : Prop) (σ : Nat → D) (m2 : Mem) (n2 : Nat) : Prop where
 sl : ∀ q ∈ L, σ q.1 = q.2
 mm : m2 = M
 nn : n2 = n1
 pr : p
def nmA (k : Int) (l : List (List UInt8)) (i : Nat) : Bool :=
 (!(decide (k = 5) || decide (k = 8)) || nameN (l.getD i [])) && (!decide (k = 12) || tagN (l.getD i [])) && (!(decide (k = 5) || decide (k = 12)) || decide (i = 0) || ltB (l.getD (i - 1) []) (l.getD i []))
theorem nmR_eq (k : Int) (l : List (List UInt8)) (i : Nat) : nmR k l i = (nmA k l i && !decide (l.getD i [] ∈ l.take i)) := rfl
structure OwnF (k N : Int) (mod nm : List UInt8) (names vars : List (List UInt8)) (types : List Ty) (subs : List Tm) (R : Bool) : Prop where
 big : fitsT names vars types subs = false → R = false
 bare : bareTm k N mod nm = false → R = false
 nam : ∀ i, i < names.length → nmR k names i = false → R = false
 var : ∀ i (h : i < vars.length), nameN vars[i] = false → R = false
 typ : ∀ i (h : i < types.length), mayT types[i] = false → R = false
 row : fitsT names vars types subs = true → bareTm k N mod nm = true → (∀ j, j < names.length → nmR k names j = true) → (∀ j (h : j < vars.length), nameN vars[j] = true) → (∀ j (h : j < types.length), mayT types[j] = true) → R = endR k N mod nm names vars types subs
theorem ownF (k N : Int) (mod nm : List UInt8) (names vars : List (List UInt8)) (types : List Ty) (subs : List Tm) : OwnF k N mod nm names vars types subs (ownR (.mk k N mod nm names vars types subs)) := by
 refine ⟨fun h => by simp [ownR, h], fun h => by simp [ownR, h], fun i hi h => ?_, fun i hi h => ?_, fun i hi h => ?_, fun h1 h2 h3 h4 h5 => ?_⟩
 ·have : namesR k names = false := List.all_eq_false.2 ⟨i, by simpa using hi, by simp [h]⟩
  simp [ownR, this]
 ·have : vars.all nameN = false := List.all_eq_false.2 ⟨_, List.getElem_mem hi, by simp [h]⟩
  simp [ownR, this]
 ·have : types.all mayT = false := List.all_eq_false.2 ⟨_, List.getElem_mem hi, by simp [h]⟩
  simp [ownR, this]
 ·have e1 : namesR k names = true := List.all_eq_true.2 fun j hj => h3 j (by simpa using hj)
  have e2 : vars.all nameN = true := List.all_eq_true.2 fun x hx => by obtain ⟨j, hj, rfl⟩ := List.getElem_of_mem hx; exact h4 j hj
  have e3 : types.all mayT = true := List.all_eq_true.2 fun x hx => by obtain ⟨j, hj, rfl⟩ := List.getElem_of_mem hx; exact h5 j hj
  simp [ownR, h1, h2, e1, e2, e3]
theorem beqI (a b : Int) : ∃ c : Bool, (a == b) = c ∧ decide (a = b) = c := ⟨a == b, rfl, by rw [Bool.eq_iff_iff]; simp⟩
theorem beqS (a b : List UInt8) : ∃ c : Bool, (a == b) = c ∧ decide (a = b) = c := ⟨a == b, rfl, by rw [Bool.eq_iff_iff]; simp⟩
set_option maxHeartbeats 40000000 in
theorem cROwnT {t : Tm} (ht : TmW t) (hmany : ∀ y ∈ tysOf t, manyT y ≤ 1000000) : Pc Tryz.prog 157 [.agg (tmD t)] (Tt (ownR t)) := by
 refine pc_of (pur_T _) (fun m n => ?_)
 cases ht with
 | mk k N mod nm names vars types subs l1 l2 l3 l4 l5 l6 l7 l8 l9 l10 =>
 have fr : ∀ o j, j < n → (m.set n o) j = m j := fun o j hj => by rw [set_ne _ _ _ _ (by omega)]
 have hF := ownF k N mod nm names vars types subs
 generalize ownR (.mk k N mod nm names vars types subs) = R at hF
 have hL1 : (names.map fun s => [S s]).length = names.length := by simp
 have hG1 : ∀ i (h : i < names.length), (names.map fun s => [S s])[i]? = some [S names[i]] := fun i h => by simp [h]
 have hL2 : (vars.map fun s => [S s]).length = vars.length := by simp
 have hG2 : ∀ i (h : i < vars.length), (vars.map fun s => [S s])[i]? = some [S vars[i]] := fun i h => by simp [h]
 have hL3 : (types.map tyD).length = types.length := by simp
 have hG3 : ∀ i (h : i < types.length), (types.map tyD)[i]? = some (tyD types[i]) := fun i h => by simp [h]
 have hL4 : (subs.map tmD).length = subs.length := by simp
 simp only [tmD, sl1, tmsD_eq]
 generalize (names.map fun s => [S s]) = NL at hL1 hG1
 generalize (vars.map fun s => [S s]) = VL at hL2 hG2
 generalize types.map tyD = YL at hL3 hG3
 generalize subs.map tmD = SL at hL4
 refine acalls_vc [0, 1, 2, 3, 4, 5, 6, 7, 8, 9, 10, 11, 12, 13, 14, 15, 16, 17, 18, 19, 45, 107, 110, 168, 171, 184, 187, 197, 200, 210, 211, 212, 229, 246, 256, 269, 282, 292, 302, 315, 323, 330] Tryz.func157 Tryz.ntmps157 (by kernel_rfl) rfl rfl (by simp) ?_
 rw [vc_seq]
 simp -dsimp [I, hL1, hL2, hL3, hL4, -vc_seq]
 rw [vc_seq]
 simp -dsimp [I, hL1, hL2, hL3, hL4, -vc_seq]
 rw [vc_seq]
 simp -dsimp [I, hL1, hL2, hL3, hL4, -vc_seq]
 rw [vc_seq]
 simp -dsimp [I, hL1, hL2, hL3, hL4, -vc_seq]
 rw [vc_seq]
 simp -dsimp [I, hL1, hL2, hL3, hL4, -vc_seq]
 rw [vc_seq]
 refine vc_mid (SlAt [(1, .ptr n 0 0 0), (3, I names.length), (4, I vars.length), (5, I types.length), (6, I subs.length)] (m.set n (tmO k N mod nm NL VL YL SL)) (n + 1) (fitsT names vars types subs = true)) ?_ ?_
 ·by_cases c1 : (21 : Int) < names.length
  ·simp -dsimp [I, c1]
   exact pcq (by rw [hF.big (by simp [fitsT]; omega)]; rfl) (fr _)
  by_cases c2 : (21 : Int) < vars.length
  ·simp -dsimp [I, c1, c2]
   exact pcq (by rw [hF.big (by simp [fitsT]; omega)]; rfl) (fr _)
  by_cases c3 : (21 : Int) < types.length
  ·simp -dsimp [I, c1, c2, c3]
   exact pcq (by rw [hF.big (by simp [fitsT]; omega)]; rfl) (fr _)
  by_cases c4 : (21 : Int) < subs.length
  ·simp -dsimp [I, c1, c2, c3, c4]
   exact pcq (by rw [hF.big (by simp [fitsT]; omega)]; rfl) (fr _)
  simp -dsimp [I, c1, c2, c3, c4]
  exact ⟨by simp [I], rfl, rfl, by simp [fitsT]; omega⟩
 rintro σ m2 n2 ⟨sl, rfl, rfl, hfit⟩
 simp only [List.forall_mem_cons] at sl
 obtain ⟨h1, h3, h4, h5, h6, -⟩ := sl
 obtain ⟨E, hE⟩ : ∃ E, (decide (names.length = 0) && decide (vars.length = 0) && decide (types.length = 0)) = E := ⟨_, rfl⟩
 rw [vc_seq]
 refine vc_mid (SlAt [(1, .ptr n 0 0 0), (3, I names.length), (4, I vars.length), (5, I types.length), (6, I subs.length), (7, Tt E)] (m.set n (tmO k N mod nm NL VL YL SL)) (n + 1) True) ?_ ?_
 ·have fin : ∀ {b : Bool} {σ' : Nat → D}, b = E → σ' 1 = .ptr n 0 0 0 → σ' 3 = I names.length → σ' 4 = I vars.length → σ' 5 = I types.length → σ' 6 = I subs.length → σ' 7 = Tt b → SlAt [(1, .ptr n 0 0 0), (3, I names.length), (4, I vars.length), (5, I types.length), (6, I subs.length), (7, Tt E)] (m.set n (tmO k N mod nm NL VL YL SL)) (n + 1) True σ' (m.set n (tmO k N mod nm NL VL YL SL)) (n + 1) := fun e a b c d f g => ⟨by simp [a, b, c, d, f, g, e], rfl, rfl, trivial⟩
  obtain ⟨x1, y1, z1⟩ := beqI names.length 0
  obtain ⟨x2, y2, z2⟩ := beqI vars.length 0
  obtain ⟨x3, y3, z3⟩ := beqI types.length 0
  have hE' : (x1 && x2 && x3) = E := by
   rw [← hE, ← z1, ← z2, ← z3]; simp
  cases x1 <;> cases x2 <;> cases x3 <;>
   (simp -dsimp [h1, h3, h4, h5, h6, I, y1, y2, y3]
    exact fin hE' (by simp [h1]) (by simp [h3, I]) (by simp [h4, I]) (by simp [h5, I]) (by simp [h6, I]) (by simp [Tt]))
 rintro σ m2 n2 ⟨sl, rfl, rfl, -⟩
 simp only [List.forall_mem_cons] at sl
 obtain ⟨h1, h3, h4, h5, h6, h7, -⟩ := sl
 rw [vc_seq]
 simp -dsimp [h1, h3, h4, h5, h6, h7, tmO, I, S, -vc_seq]
 rw [vc_seq]
 simp -dsimp [h1, h3, h4, h5, h6, h7, tmO, I, S, -vc_seq]
 refine pcall (cRNameT nm) ?_
 simp -dsimp [h1, h3, h4, h5, h6, h7, tmO, I, S, -vc_seq]
 rw [vc_seq]
 simp -dsimp [h1, h3, h4, h5, h6, h7, tmO, I, S, -vc_seq]
 refine pcall (cRNameT mod) ?_
 simp -dsimp [h1, h3, h4, h5, h6, h7, tmO, I, S, -vc_seq]
 rw [vc_seq]
 simp -dsimp [h1, h3, h4, h5, h6, h7, tmO, I, S, -vc_seq]
 refine pcall (cRTagT nm) ?_
 simp -dsimp [h1, h3, h4, h5, h6, h7, tmO, I, S, -vc_seq]
 rw [vc_seq]
 refine vc_mid (SlAt [(1, .ptr n 0 0 0), (3, I names.length), (4, I vars.length), (5, I types.length), (6, I subs.length), (7, Tt E), (8, I k), (9, Tt (nameN nm)), (10, Tt (nameN mod)), (11, Tt (tagN nm))] (m.set n (tmO k N mod nm NL VL YL SL)) (n + 1) (bareTm k N mod nm = true)) ?_ ?_
 ·obtain ⟨cN, bN, gN⟩ := beqI N 0
  obtain ⟨cm, bm, gm⟩ := beqS mod []
  obtain ⟨cq, bq, gq⟩ := beqS nm []
  have hb : ((cN || decide (k = 1) || decide (k = 2)) && (cm || decide (k = 4)) && (cq || decide (k = 3) || decide (k = 4) || decide (k = 6) || decide (k = 7))) = bareTm k N mod nm := by rw [← gN, ← gm, ← gq]; rfl
  have bN' : (N != 0) = !cN := by rw [bne, bN]
  have bm' : (mod != []) = !cm := by rw [bne, bm]
  have bq' : (nm != []) = !cq := by rw [bne, bq]
  have hFb := hF.bare
  clear hF
  generalize bareTm k N mod nm = BT at hb hFb
  by_cases k1 : k = 1
  ·subst k1
   cases cN
   ·
    cases cm
    ·
     (simp -dsimp [h1, h3, h4, h5, h6, h7, tmO, I, S, Tt, bN, bm, bq, bN', bm', bq']; refine pcq ?_ (fr _); have hR := hFb (by rw [← hb]; rfl); subst hR; rfl)
    ·
     cases cq
     ·
      (simp -dsimp [h1, h3, h4, h5, h6, h7, tmO, I, S, Tt, bN, bm, bq, bN', bm', bq']; refine pcq ?_ (fr _); have hR := hFb (by rw [← hb]; rfl); subst hR; rfl)
     ·
      (simp -dsimp [h1, h3, h4, h5, h6, h7, tmO, I, S, Tt, bN, bm, bq, bN', bm', bq']; exact ⟨by simp [h1, h3, h4, h5, h6, h7, I, Tt], rfl, rfl, by rw [← hb]; rfl⟩)
   ·
    cases cm
    ·
     (simp -dsimp [h1, h3, h4, h5, h6, h7, tmO, I, S, Tt, bN, bm, bq, bN', bm', bq']; refine pcq ?_ (fr _); have hR := hFb (by rw [← hb]; rfl); subst hR; rfl)
    ·
     cases cq
     ·
      (simp -dsimp [h1, h3, h4, h5, h6, h7, tmO, I, S, Tt, bN, bm, bq, bN', bm', bq']; refine pcq ?_ (fr _); have hR := hFb (by rw [← hb]; rfl); subst hR; rfl)
     ·
      (simp -dsimp [h1, h3, h4, h5, h6, h7, tmO, I, S, Tt, bN, bm, bq, bN', bm', bq']; exact ⟨by simp [h1, h3, h4, h5, h6, h7, I, Tt], rfl, rfl, by rw [← hb]; rfl⟩)
  by_cases k2 : k = 2
  ·subst k2
   cases cN
   ·
    cases cm
    ·
     (simp -dsimp [h1, h3, h4, h5, h6, h7, tmO, I, S, Tt, bN, bm, bq, bN', bm', bq']; refine pcq ?_ (fr _); have hR := hFb (by rw [← hb]; rfl); subst hR; rfl)
    ·
     cases cq
     ·
      (simp -dsimp [h1, h3, h4, h5, h6, h7, tmO, I, S, Tt, bN, bm, bq, bN', bm', bq']; refine pcq ?_ (fr _); have hR := hFb (by rw [← hb]; rfl); subst hR; rfl)
     ·
      (simp -dsimp [h1, h3, h4, h5, h6, h7, tmO, I, S, Tt, bN, bm, bq, bN', bm', bq']; exact ⟨by simp [h1, h3, h4, h5, h6, h7, I, Tt], rfl, rfl, by rw [← hb]; rfl⟩)
   ·
    cases cm
    ·
     (simp -dsimp [h1, h3, h4, h5, h6, h7, tmO, I, S, Tt, bN, bm, bq, bN', bm', bq']; refine pcq ?_ (fr _); have hR := hFb (by rw [← hb]; rfl); subst hR; rfl)
    ·
     cases cq
     ·
      (simp -dsimp [h1, h3, h4, h5, h6, h7, tmO, I, S, Tt, bN, bm, bq, bN', bm', bq']; refine pcq ?_ (fr _); have hR := hFb (by rw [← hb]; rfl); subst hR; rfl)
     ·
      (simp -dsimp [h1, h3, h4, h5, h6, h7, tmO, I, S, Tt, bN, bm, bq, bN', bm', bq']; exact ⟨by simp [h1, h3, h4, h5, h6, h7, I, Tt], rfl, rfl, by rw [← hb]; rfl⟩)
  by_cases k3 : k = 3
  ·subst k3
   cases cN
   ·
    (simp -dsimp [h1, h3, h4, h5, h6, h7, tmO, I, S, Tt, bN, bm, bq, bN', bm', bq']; refine pcq ?_ (fr _); have hR := hFb (by rw [← hb]; rfl); subst hR; rfl)
   ·
    cases cm
    ·
     (simp -dsimp [h1, h3, h4, h5, h6, h7, tmO, I, S, Tt, bN, bm, bq, bN', bm', bq']; refine pcq ?_ (fr _); have hR := hFb (by rw [← hb]; rfl); subst hR; rfl)
    ·
     cases cq
     ·
      (simp -dsimp [h1, h3, h4, h5, h6, h7, tmO, I, S, Tt, bN, bm, bq, bN', bm', bq']; exact ⟨by simp [h1, h3, h4, h5, h6, h7, I, Tt], rfl, rfl, by rw [← hb]; rfl⟩)
     ·
      (simp -dsimp [h1, h3, h4, h5, h6, h7, tmO, I, S, Tt, bN, bm, bq, bN', bm', bq']; exact ⟨by simp [h1, h3, h4, h5, h6, h7, I, Tt], rfl, rfl, by rw [← hb]; rfl⟩)
  by_cases k4 : k = 4
  ·subst k4
   cases cN
   ·
    (simp -dsimp [h1, h3, h4, h5, h6, h7, tmO, I, S, Tt, bN, bm, bq, bN', bm', bq']; refine pcq ?_ (fr _); have hR := hFb (by rw [← hb]; rfl); subst hR; rfl)
   ·
    cases cm
    ·
     cases cq
     ·
      (simp -dsimp [h1, h3, h4, h5, h6, h7, tmO, I, S, Tt, bN, bm, bq, bN', bm', bq']; exact ⟨by simp [h1, h3, h4, h5, h6, h7, I, Tt], rfl, rfl, by rw [← hb]; rfl⟩)
     ·
      (simp -dsimp [h1, h3, h4, h5, h6, h7, tmO, I, S, Tt, bN, bm, bq, bN', bm', bq']; exact ⟨by simp [h1, h3, h4, h5, h6, h7, I, Tt], rfl, rfl, by rw [← hb]; rfl⟩)
    ·
     cases cq
     ·
      (simp -dsimp [h1, h3, h4, h5, h6, h7, tmO, I, S, Tt, bN, bm, bq, bN', bm', bq']; exact ⟨by simp [h1, h3, h4, h5, h6, h7, I, Tt], rfl, rfl, by rw [← hb]; rfl⟩)
     ·
      (simp -dsimp [h1, h3, h4, h5, h6, h7, tmO, I, S, Tt, bN, bm, bq, bN', bm', bq']; exact ⟨by simp [h1, h3, h4, h5, h6, h7, I, Tt], rfl, rfl, by rw [← hb]; rfl⟩)
  by_cases k6 : k = 6
  ·subst k6
   cases cN
   ·
    (simp -dsimp [h1, h3, h4, h5, h6, h7, tmO, I, S, Tt, bN, bm, bq, bN', bm', bq']; refine pcq ?_ (fr _); have hR := hFb (by rw [← hb]; rfl); subst hR; rfl)
   ·
    cases cm
    ·
     (simp -dsimp [h1, h3, h4, h5, h6, h7, tmO, I, S, Tt, bN, bm, bq, bN', bm', bq']; refine pcq ?_ (fr _); have hR := hFb (by rw [← hb]; rfl); subst hR; rfl)
    ·
     cases cq
     ·
      (simp -dsimp [h1, h3, h4, h5, h6, h7, tmO, I, S, Tt, bN, bm, bq, bN', bm', bq']; exact ⟨by simp [h1, h3, h4, h5, h6, h7, I, Tt], rfl, rfl, by rw [← hb]; rfl⟩)
     ·
      (simp -dsimp [h1, h3, h4, h5, h6, h7, tmO, I, S, Tt, bN, bm, bq, bN', bm', bq']; exact ⟨by simp [h1, h3, h4, h5, h6, h7, I, Tt], rfl, rfl, by rw [← hb]; rfl⟩)
  by_cases k7 : k = 7
  ·subst k7
   cases cN
   ·
    (simp -dsimp [h1, h3, h4, h5, h6, h7, tmO, I, S, Tt, bN, bm, bq, bN', bm', bq']; refine pcq ?_ (fr _); have hR := hFb (by rw [← hb]; rfl); subst hR; rfl)
   ·
    cases cm
    ·
     (simp -dsimp [h1, h3, h4, h5, h6, h7, tmO, I, S, Tt, bN, bm, bq, bN', bm', bq']; refine pcq ?_ (fr _); have hR := hFb (by rw [← hb]; rfl); subst hR; rfl)
    ·
     cases cq
     ·
      (simp -dsimp [h1, h3, h4, h5, h6, h7, tmO, I, S, Tt, bN, bm, bq, bN', bm', bq']; exact ⟨by simp [h1, h3, h4, h5, h6, h7, I, Tt], rfl, rfl, by rw [← hb]; rfl⟩)
     ·
      (simp -dsimp [h1, h3, h4, h5, h6, h7, tmO, I, S, Tt, bN, bm, bq, bN', bm', bq']; exact ⟨by simp [h1, h3, h4, h5, h6, h7, I, Tt], rfl, rfl, by rw [← hb]; rfl⟩)
  have b1 : (k == 1) = false := by simpa using k1
  have d1 : (k != 1) = true := by simpa using k1
  have b2 : (k == 2) = false := by simpa using k2
  have d2 : (k != 2) = true := by simpa using k2
  have b3 : (k == 3) = false := by simpa using k3
  have d3 : (k != 3) = true := by simpa using k3
  have b4 : (k == 4) = false := by simpa using k4
  have d4 : (k != 4) = true := by simpa using k4
  have b6 : (k == 6) = false := by simpa using k6
  have d6 : (k != 6) = true := by simpa using k6
  have b7 : (k == 7) = false := by simpa using k7
  have d7 : (k != 7) = true := by simpa using k7
  simp only [k1, k2, k3, k4, k6, k7, decide_false, Bool.or_false] at hb
  cases cN
  ·
   (simp -dsimp [h1, h3, h4, h5, h6, h7, tmO, I, S, Tt, bN, bm, bq, bN', bm', bq', b1, b2, b3, b4, b6, b7, d1, d2, d3, d4, d6, d7]; refine pcq ?_ (fr _); have hR := hFb (by rw [← hb]; rfl); subst hR; rfl)
  ·
   cases cm
   ·
    (simp -dsimp [h1, h3, h4, h5, h6, h7, tmO, I, S, Tt, bN, bm, bq, bN', bm', bq', b1, b2, b3, b4, b6, b7, d1, d2, d3, d4, d6, d7]; refine pcq ?_ (fr _); have hR := hFb (by rw [← hb]; rfl); subst hR; rfl)
   ·
    cases cq
    ·
     (simp -dsimp [h1, h3, h4, h5, h6, h7, tmO, I, S, Tt, bN, bm, bq, bN', bm', bq', b1, b2, b3, b4, b6, b7, d1, d2, d3, d4, d6, d7]; refine pcq ?_ (fr _); have hR := hFb (by rw [← hb]; rfl); subst hR; rfl)
    ·
     (simp -dsimp [h1, h3, h4, h5, h6, h7, tmO, I, S, Tt, bN, bm, bq, bN', bm', bq', b1, b2, b3, b4, b6, b7, d1, d2, d3, d4, d6, d7]; exact ⟨by simp [h1, h3, h4, h5, h6, h7, I, Tt], rfl, rfl, by rw [← hb]; rfl⟩)
 rintro σ m2 n2 ⟨sl, rfl, rfl, hba⟩
 simp only [List.forall_mem_cons] at sl
 obtain ⟨h1, h3, h4, h5, h6, h7, h8, h9, h10, h11, -⟩ := sl
 have hFn := hF.nam
 rw [vc_seq]
 refine vc_mid (SlAt [(1, .ptr n 0 0 0), (3, I names.length), (4, I vars.length), (5, I types.length), (6, I subs.length), (7, Tt E), (8, I k), (9, Tt (nameN nm)), (10, Tt (nameN mod)), (11, Tt (tagN nm))] (m.set n (tmO k N mod nm NL VL YL SL)) (n + 1) (∀ j, j < names.length → nmR k names j = true)) ?_ ?_
 ·rw [vc_seq]
  simp -dsimp [I, -vc_seq, -vc_block]
  rw [vc_block]
  refine vloop_as (β := Nat) (fun i => [(1, .ptr n 0 0 0), (3, I names.length), (4, I vars.length), (5, I types.length), (6, I subs.length), (7, Tt E), (8, I k), (9, Tt (nameN nm)), (10, Tt (nameN mod)), (11, Tt (tagN nm)), (12, I i)]) (fun i m2 n2 => m2 = (m.set n (tmO k N mod nm NL VL YL SL)) ∧ n2 = n + 1 ∧ i ≤ names.length ∧ ∀ j, j < i → nmR k names j = true) (fun i => names.length - i) 0 (by simp [h1, h3, h4, h5, h6, h7, h8, h9, h10, h11, I, Tt]) ⟨rfl, rfl, by omega, fun j h => by omega⟩ ?_
  rintro i m2 n2 ⟨rfl, rfl, le, al⟩
  by_cases hi : (i : Int) < names.length
  ·have hi' : i < names.length := by omega
   have wi : IntKind.i64.wrap ((i : Int) + 1) = (i : Int) + 1 := wrap_i64 (by omega) (by omega)
   have hiN : i < NL.length := by omega
   have hgi : NL[i] = [S names[i]] := get_opt (hG1 i hi') hiN
   have hgd : names.getD i [] = names[i] := by rw [List.getD_eq_getElem?_getD, List.getElem?_eq_getElem hi']; rfl
   have hA : nmA k names i = ((!(decide (k = 5) || decide (k = 8)) || nameN names[i]) && (!decide (k = 12) || tagN names[i]) && (!(decide (k = 5) || decide (k = 12)) || decide (i = 0) || ltB (names.getD (i - 1) []) names[i])) := by simp only [nmA, hgd]
   have hbadA : nmA k names i = false → R = false := fun h => hFn i hi' (by rw [nmR_eq, h]; rfl)
   have hnx : nmA k names i = true → names[i] ∉ names.take i → nmR k names i = true := fun h h2 => by rw [nmR_eq, h, hgd]; simp [h2]
   have hdup : names[i] ∈ names.take i → R = false := fun h => hFn i hi' (by rw [nmR_eq, hgd]; simp [h])
   generalize nmA k names i = A at hA hbadA hnx
   simp -dsimp [I, S, Tt, tmO, hi, hi', hiN, hgi, -vc_seq]
   repeat rw [vc_seq]
   simp -dsimp [I, S, Tt, tmO, hi, hi', hiN, hgi, -vc_seq]
   rw [vc_seq, vc_block, vc_seq]
   simp -dsimp [I, S, Tt, tmO, hi, hi', hiN, hgi, -vc_seq]
   refine pcall (cRNameT names[i]) ?_
   simp -dsimp [I, S, Tt, tmO, hi, hi', hiN, hgi, -vc_seq]
   rw [vc_seq]
   simp -dsimp [I, S, Tt, tmO, hi, hi', hiN, hgi, -vc_seq]
   refine pcall (cRTagT names[i]) ?_
   simp -dsimp [I, S, Tt, tmO, hi, hi', hiN, hgi, -vc_seq]
   rw [vc_seq]
   refine vc_mid (SlAt [(1, .ptr n 0 0 0), (3, I names.length), (4, I vars.length), (5, I types.length), (6, I subs.length), (7, Tt E), (8, I k), (9, Tt (nameN nm)), (10, Tt (nameN mod)), (11, Tt (tagN nm)), (12, I i)] (m.set n (tmO k N mod nm NL VL YL SL)) (n + 1) (A = true)) ?_ ?_
   ·simp -dsimp [I, S, Tt, tmO, hi, hi', hiN, hgi]
    by_cases k5 : k = 5
    ·subst k5
     cases e : nameN names[i] with
     | false =>
      rw [e] at hA
      refine vdraw_treeM (.rd 0 (.rd 1 (.rd 2 (.rd 3 (.rd 4 (.rd 5 (.rd 6 (.rd 7 (.rd 8 (.rd 9 (.rd 10 (.rd 11 (.rd 12 (.rd 13 (.rd 14 (.rd 15 (.rd 16 (.rd 17 (.rd 18 (.rd 19 (.rd 20 (.rd 21 (.rd 22 (.rd 23 (.rd 24 (.rd 25 (.rd 26 (.rd 27 (.rd 28 (.rd 29 (.rd 30 (.rd 31 (.rd 32 (.rd 33 (.rd 34 (.rd 35 (.rd 36 (.rd 37 (.rd 38 (.rd 39 (.rd 40 (.rd 41 (.rd 42 (.rd 43 (.fin))))))))))))))))))))))))))))))))))))))))))))) (by kernel_rfl) (by kernel_rfl) ?_; intro mk
      (simp -dsimp [I, S, Tt, tmO, hi, hi', hiN, hgi]; refine pcq ?_ (fr _); have hR := hbadA (by rw [hA]; simp [e]); subst hR; rfl)
     | true =>
      rw [e] at hA
      by_cases i0 : i = 0
      ·subst i0
       refine vdraw_treeM (.rd 0 (.rd 1 (.rd 2 (.rd 3 (.rd 4 (.rd 5 (.rd 6 (.rd 7 (.rd 8 (.rd 9 (.rd 10 (.rd 11 (.rd 12 (.rd 13 (.rd 14 (.rd 15 (.rd 16 (.rd 17 (.rd 18 (.rd 19 (.rd 20 (.rd 21 (.rd 22 (.rd 23 (.rd 24 (.rd 25 (.rd 26 (.rd 27 (.rd 28 (.rd 29 (.rd 30 (.rd 31 (.rd 32 (.rd 33 (.rd 34 (.rd 35 (.rd 36 (.rd 37 (.rd 38 (.rd 39 (.rd 40 (.rd 41 (.rd 42 (.rd 43 (.fin))))))))))))))))))))))))))))))))))))))))))))) (by kernel_rfl) (by kernel_rfl) ?_; intro mk
       (simp -dsimp [I, S, Tt, tmO, hi, hi', hiN, hgi]; exact ⟨by simp [I, Tt], rfl, rfl, by rw [hA]; simp [e]⟩)
      ·have i1 : (0 : Int) < i := by omega
       have i1' : 0 < i := by omega
       have w1 : IntKind.i64.wrap ((i : Int) - 1) = ((i - 1 : Nat) : Int) := by rw [wrap_i64 (by omega) (by omega)]; omega
       have hpN : i - 1 < NL.length := by omega
       have hpM : i - 1 < names.length := by omega
       have hpI : ((i - 1 : Nat) : Int) < names.length := by omega
       have hgp : NL[i - 1] = [S names[i - 1]] := get_opt (hG1 (i - 1) hpM) hpN
       have hgq : names.getD (i - 1) [] = names[i - 1] := by rw [List.getD_eq_getElem?_getD, List.getElem?_eq_getElem hpM]; rfl
       have hle := leB names[i] names[i - 1]
       rw [hgq] at hA
       refine vdraw_treeM (.rd 0 (.rd 1 (.rd 2 (.rd 3 (.rd 4 (.rd 5 (.rd 6 (.rd 7 (.rd 8 (.rd 9 (.rd 10 (.rd 11 (.rd 12 (.rd 13 (.rd 14 (.rd 15 (.rd 16 (.rd 17 (.rd 18 (.rd 19 (.rd 20 (.rd 21 (.rd 22 (.rd 23 (.rd 24 (.rd 25 (.rd 26 (.rd 27 (.rd 28 (.rd 29 (.rd 30 (.rd 31 (.rd 32 (.rd 33 (.rd 34 (.rd 35 (.rd 36 (.rd 37 (.rd 38 (.rd 39 (.rd 40 (.rd 41 (.rd 42 (.rd 43 (.fin))))))))))))))))))))))))))))))))))))))))))))) (by kernel_rfl) (by kernel_rfl) ?_; intro mk
       cases c2 : ltB names[i - 1] names[i] with
       | false =>
        rw [c2] at hle hA
        (simp -dsimp [I, S, Tt, tmO, hi, hi', hiN, hgi, i1, i1', w1, hpN, hpM, hpI, hgp, hle]; refine pcq ?_ (fr _); have hR := hbadA (by rw [hA]; simp [e, i0]); subst hR; rfl)
       | true =>
        rw [c2] at hle hA
        (simp -dsimp [I, S, Tt, tmO, hi, hi', hiN, hgi, i1, i1', w1, hpN, hpM, hpI, hgp, hle]; exact ⟨by simp [I, Tt], rfl, rfl, by rw [hA]; simp [e, i0]⟩)
    by_cases k8 : k = 8
    ·subst k8
     refine vdraw_treeM (.rd 0 (.rd 1 (.rd 2 (.rd 3 (.rd 4 (.rd 5 (.rd 6 (.rd 7 (.rd 8 (.rd 9 (.rd 10 (.rd 11 (.rd 12 (.rd 13 (.rd 14 (.rd 15 (.rd 16 (.rd 17 (.rd 18 (.rd 19 (.rd 20 (.rd 21 (.rd 22 (.rd 23 (.rd 24 (.rd 25 (.rd 26 (.rd 27 (.rd 28 (.rd 29 (.rd 30 (.rd 31 (.rd 32 (.rd 33 (.rd 34 (.rd 35 (.rd 36 (.rd 37 (.rd 38 (.rd 39 (.rd 40 (.rd 41 (.rd 42 (.rd 43 (.fin))))))))))))))))))))))))))))))))))))))))))))) (by kernel_rfl) (by kernel_rfl) ?_; intro mk
     cases e : nameN names[i] with
     | false =>
      rw [e] at hA
      (simp -dsimp [I, S, Tt, tmO, hi, hi', hiN, hgi]; refine pcq ?_ (fr _); have hR := hbadA (by rw [hA]; simp [e]); subst hR; rfl)
     | true =>
      rw [e] at hA
      (simp -dsimp [I, S, Tt, tmO, hi, hi', hiN, hgi]; exact ⟨by simp [I, Tt], rfl, rfl, by rw [hA]; simp [e]⟩)
    by_cases k12 : k = 12
    ·subst k12
     cases e : tagN names[i] with
     | false =>
      rw [e] at hA
      refine vdraw_treeM (.rd 0 (.rd 1 (.rd 2 (.rd 3 (.rd 4 (.rd 5 (.rd 6 (.rd 7 (.rd 8 (.rd 9 (.rd 10 (.rd 11 (.rd 12 (.rd 13 (.rd 14 (.rd 15 (.rd 16 (.rd 17 (.rd 18 (.rd 19 (.rd 20 (.rd 21 (.rd 22 (.rd 23 (.rd 24 (.rd 25 (.rd 26 (.rd 27 (.rd 28 (.rd 29 (.rd 30 (.rd 31 (.rd 32 (.rd 33 (.rd 34 (.rd 35 (.rd 36 (.rd 37 (.rd 38 (.rd 39 (.rd 40 (.rd 41 (.rd 42 (.rd 43 (.fin))))))))))))))))))))))))))))))))))))))))))))) (by kernel_rfl) (by kernel_rfl) ?_; intro mk
      (simp -dsimp [I, S, Tt, tmO, hi, hi', hiN, hgi]; refine pcq ?_ (fr _); have hR := hbadA (by rw [hA]; simp [e]); subst hR; rfl)
     | true =>
      rw [e] at hA
      by_cases i0 : i = 0
      ·subst i0
       refine vdraw_treeM (.rd 0 (.rd 1 (.rd 2 (.rd 3 (.rd 4 (.rd 5 (.rd 6 (.rd 7 (.rd 8 (.rd 9 (.rd 10 (.rd 11 (.rd 12 (.rd 13 (.rd 14 (.rd 15 (.rd 16 (.rd 17 (.rd 18 (.rd 19 (.rd 20 (.rd 21 (.rd 22 (.rd 23 (.rd 24 (.rd 25 (.rd 26 (.rd 27 (.rd 28 (.rd 29 (.rd 30 (.rd 31 (.rd 32 (.rd 33 (.rd 34 (.rd 35 (.rd 36 (.rd 37 (.rd 38 (.rd 39 (.rd 40 (.rd 41 (.rd 42 (.rd 43 (.fin))))))))))))))))))))))))))))))))))))))))))))) (by kernel_rfl) (by kernel_rfl) ?_; intro mk
       (simp -dsimp [I, S, Tt, tmO, hi, hi', hiN, hgi]; exact ⟨by simp [I, Tt], rfl, rfl, by rw [hA]; simp [e]⟩)
      ·have i1 : (0 : Int) < i := by omega
       have i1' : 0 < i := by omega
       have w1 : IntKind.i64.wrap ((i : Int) - 1) = ((i - 1 : Nat) : Int) := by rw [wrap_i64 (by omega) (by omega)]; omega
       have hpN : i - 1 < NL.length := by omega
       have hpM : i - 1 < names.length := by omega
       have hpI : ((i - 1 : Nat) : Int) < names.length := by omega
       have hgp : NL[i - 1] = [S names[i - 1]] := get_opt (hG1 (i - 1) hpM) hpN
       have hgq : names.getD (i - 1) [] = names[i - 1] := by rw [List.getD_eq_getElem?_getD, List.getElem?_eq_getElem hpM]; rfl
       have hle := leB names[i] names[i - 1]
       rw [hgq] at hA
       refine vdraw_treeM (.rd 0 (.rd 1 (.rd 2 (.rd 3 (.rd 4 (.rd 5 (.rd 6 (.rd 7 (.rd 8 (.rd 9 (.rd 10 (.rd 11 (.rd 12 (.rd 13 (.rd 14 (.rd 15 (.rd 16 (.rd 17 (.rd 18 (.rd 19 (.rd 20 (.rd 21 (.rd 22 (.rd 23 (.rd 24 (.rd 25 (.rd 26 (.rd 27 (.rd 28 (.rd 29 (.rd 30 (.rd 31 (.rd 32 (.rd 33 (.rd 34 (.rd 35 (.rd 36 (.rd 37 (.rd 38 (.rd 39 (.rd 40 (.rd 41 (.rd 42 (.rd 43 (.fin))))))))))))))))))))))))))))))))))))))))))))) (by kernel_rfl) (by kernel_rfl) ?_; intro mk
       cases c2 : ltB names[i - 1] names[i] with
       | false =>
        rw [c2] at hle hA
        (simp -dsimp [I, S, Tt, tmO, hi, hi', hiN, hgi, i1, i1', w1, hpN, hpM, hpI, hgp, hle]; refine pcq ?_ (fr _); have hR := hbadA (by rw [hA]; simp [e, i0]); subst hR; rfl)
       | true =>
        rw [c2] at hle hA
        (simp -dsimp [I, S, Tt, tmO, hi, hi', hiN, hgi, i1, i1', w1, hpN, hpM, hpI, hgp, hle]; exact ⟨by simp [I, Tt], rfl, rfl, by rw [hA]; simp [e, i0]⟩)
    have b5 : (k == 5) = false := by simpa using k5
    have b8 : (k == 8) = false := by simpa using k8
    have b12 : (k == 12) = false := by simpa using k12
    refine vdraw_treeM (.rd 0 (.rd 1 (.rd 2 (.rd 3 (.rd 4 (.rd 5 (.rd 6 (.rd 7 (.rd 8 (.rd 9 (.rd 10 (.rd 11 (.rd 12 (.rd 13 (.rd 14 (.rd 15 (.rd 16 (.rd 17 (.rd 18 (.rd 19 (.rd 20 (.rd 21 (.rd 22 (.rd 23 (.rd 24 (.rd 25 (.rd 26 (.rd 27 (.rd 28 (.rd 29 (.rd 30 (.rd 31 (.rd 32 (.rd 33 (.rd 34 (.rd 35 (.rd 36 (.rd 37 (.rd 38 (.rd 39 (.rd 40 (.rd 41 (.rd 42 (.rd 43 (.fin))))))))))))))))))))))))))))))))))))))))))))) (by kernel_rfl) (by kernel_rfl) ?_; intro mk
    (simp -dsimp [I, S, Tt, tmO, hi, hi', hiN, hgi, b5, b8, b12]; exact ⟨by simp [I, Tt], rfl, rfl, by rw [hA]; simp [k5, k8, k12]⟩)
   rintro σ m2 n2 ⟨sl, rfl, rfl, hA1⟩
   simp only [List.forall_mem_cons] at sl
   obtain ⟨h1, h3, h4, h5, h6, h7, h8, h9, h10, h11, h12, -⟩ := sl
   simp -dsimp [h1, h3, h4, h5, h6, h7, h8, h9, h10, h11, h12, I, -vc_block]
   rw [vc_block]
   refine vloop_as (β := Nat) (fun j => [(1, .ptr n 0 0 0), (3, I names.length), (4, I vars.length), (5, I types.length), (6, I subs.length), (7, Tt E), (8, I k), (9, Tt (nameN nm)), (10, Tt (nameN mod)), (11, Tt (tagN nm)), (12, I i), (15, I j)]) (fun j m2 n2 => m2 = (m.set n (tmO k N mod nm NL VL YL SL)) ∧ n2 = n + 1 ∧ j ≤ i ∧ ∀ q (h : q < names.length), q < j → names[q] ≠ names[i]) (fun j => i - j) 0 (by simp [h1, h3, h4, h5, h6, h7, h8, h9, h10, h11, h12, I, Tt]) ⟨rfl, rfl, by omega, fun q h hq => by omega⟩ ?_
   rintro j m2 n2 ⟨rfl, rfl, lej, alj⟩
   by_cases hj : (j : Int) < i
   ·have hj' : j < i := by omega
    have hjM : j < names.length := by omega
    have hjN : j < NL.length := by omega
    have hjI : (j : Int) < names.length := by omega
    have wj : IntKind.i64.wrap ((j : Int) + 1) = (j : Int) + 1 := wrap_i64 (by omega) (by omega)
    have hgj : NL[j] = [S names[j]] := get_opt (hG1 j hjM) hjN
    simp -dsimp [I, S, Tt, tmO, hi, hi', hiN, hgi, hj, hj', hjM, hjN, hjI, hgj]
    refine vdraw_tree [0, 1, 0, 7, 15, 0, 32, 0, 224, 480, 1023] (.rd 0 (.rd 1 (.rd 2 (.rd 3 (.rd 4 (.rd 5 (.rd 6 (.rd 7 (.rd 8 (.rd 9 (.rd 10 (.fin)))))))))))) (by kernel_rfl) (by kernel_rfl) ?_
    by_cases e : names[j] = names[i]
    ·have hR := hdup (by rw [List.mem_take_iff_getElem]; exact ⟨j, by omega, e⟩)
     subst hR
     have e' : (names[j] == names[i]) = true := by simpa using e
     simp -dsimp [I, S, Tt, tmO, hi, hi', hiN, hgi, hj, hj', hjM, hjN, hjI, hgj, e']
     exact pcq rfl (fr _)
    ·have e' : (names[j] == names[i]) = false := by simpa using e
     simp -dsimp [I, S, Tt, tmO, hi, hi', hiN, hgi, hj, hj', hjM, hjN, hjI, hgj, e', wj]
     refine rnd (j + 1) (by omega) (by simp [I, Tt]) ⟨rfl, rfl, by omega, fun q h hq => ?_⟩
     rcases Nat.lt_or_eq_of_le (show q ≤ j by omega) with c | c
     ·exact alj q h c
     ·subst c; exact e
   ·have : j = i := by omega
    subst this
    simp -dsimp [I, hj, wi]
    refine rnd (j + 1) (by omega) (by simp [I, Tt]) ⟨rfl, rfl, by omega, fun q hq => ?_⟩
    rcases Nat.lt_or_eq_of_le (show q ≤ j by omega) with c | c
    ·exact al q c
    ·subst c
     refine hnx hA1 fun hm => ?_
     rw [List.mem_take_iff_getElem] at hm
     obtain ⟨p, hp, hpe⟩ := hm
     exact alj p (by omega) (by omega) hpe
  ·have : i = names.length := by omega
   subst this
   simp -dsimp [I, hi]
   exact ⟨by simp [I, Tt], rfl, rfl, al⟩
 rintro σ m2 n2 ⟨sl, rfl, rfl, hnam⟩
 simp only [List.forall_mem_cons] at sl
 obtain ⟨h1, h3, h4, h5, h6, h7, h8, h9, h10, h11, -⟩ := sl
 have hFv := hF.var
 rw [vc_seq]
 refine vc_mid (SlAt [(1, .ptr n 0 0 0), (3, I names.length), (4, I vars.length), (5, I types.length), (6, I subs.length), (7, Tt E), (8, I k), (9, Tt (nameN nm)), (10, Tt (nameN mod)), (11, Tt (tagN nm))] (m.set n (tmO k N mod nm NL VL YL SL)) (n + 1) (∀ j (h : j < vars.length), nameN vars[j] = true)) ?_ ?_
 ·rw [vc_seq]
  simp -dsimp [I, -vc_seq, -vc_block]
  rw [vc_block]
  refine vloop_as (β := Nat) (fun i => [(1, .ptr n 0 0 0), (3, I names.length), (4, I vars.length), (5, I types.length), (6, I subs.length), (7, Tt E), (8, I k), (9, Tt (nameN nm)), (10, Tt (nameN mod)), (11, Tt (tagN nm)), (16, I i)]) (fun i m2 n2 => m2 = (m.set n (tmO k N mod nm NL VL YL SL)) ∧ n2 = n + 1 ∧ i ≤ vars.length ∧ ∀ j (h : j < vars.length), j < i → nameN vars[j] = true) (fun i => vars.length - i) 0 (by simp [h1, h3, h4, h5, h6, h7, h8, h9, h10, h11, I, Tt]) ⟨rfl, rfl, by omega, fun j h h2 => by omega⟩ ?_
  rintro i m2 n2 ⟨rfl, rfl, le, al⟩
  by_cases hi : (i : Int) < vars.length
  ·have hi' : i < vars.length := by omega
   have wi : IntKind.i64.wrap ((i : Int) + 1) = (i : Int) + 1 := wrap_i64 (by omega) (by omega)
   have hiN : i < VL.length := by omega
   have hgi : VL[i] = [S vars[i]] := get_opt (hG2 i hi') hiN
   simp -dsimp [I, S, Tt, tmO, hi, hi', hiN, hgi]
   refine pcall (cRNameT vars[i]) ?_
   cases e : nameN vars[i] with
   | false =>
    have hR := hFv i hi' e
    subst hR
    simp -dsimp [I, S, Tt]
    exact pcq rfl (fr _)
   | true =>
    simp -dsimp [I, S, Tt, wi]
    refine rnd (i + 1) (by omega) (by simp [I, Tt]) ⟨rfl, rfl, by omega, fun j h h2 => ?_⟩
    rcases Nat.lt_or_eq_of_le (show j ≤ i by omega) with c | c
    ·exact al j h c
    ·subst c; exact e
  ·simp -dsimp [I, hi]
   exact ⟨by simp [I, Tt], rfl, rfl, fun j h => al j h (by omega)⟩
 rintro σ m2 n2 ⟨sl, rfl, rfl, hvar⟩
 simp only [List.forall_mem_cons] at sl
 obtain ⟨h1, h3, h4, h5, h6, h7, h8, h9, h10, h11, -⟩ := sl
 have hFy := hF.typ
 rw [vc_seq]
 refine vc_mid (SlAt [(1, .ptr n 0 0 0), (3, I names.length), (4, I vars.length), (5, I types.length), (6, I subs.length), (7, Tt E), (8, I k), (9, Tt (nameN nm)), (10, Tt (nameN mod)), (11, Tt (tagN nm))] (m.set n (tmO k N mod nm NL VL YL SL)) (n + 1) (∀ j (h : j < types.length), mayT types[j] = true)) ?_ ?_
 ·rw [vc_seq]
  simp -dsimp [I, -vc_seq, -vc_block]
  rw [vc_block]
  refine vloop_as (β := Nat) (fun i => [(1, .ptr n 0 0 0), (3, I names.length), (4, I vars.length), (5, I types.length), (6, I subs.length), (7, Tt E), (8, I k), (9, Tt (nameN nm)), (10, Tt (nameN mod)), (11, Tt (tagN nm)), (18, I i)]) (fun i m2 n2 => m2 = (m.set n (tmO k N mod nm NL VL YL SL)) ∧ n2 = n + 1 ∧ i ≤ types.length ∧ ∀ j (h : j < types.length), j < i → mayT types[j] = true) (fun i => types.length - i) 0 (by simp [h1, h3, h4, h5, h6, h7, h8, h9, h10, h11, I, Tt]) ⟨rfl, rfl, by omega, fun j h h2 => by omega⟩ ?_
  rintro i m2 n2 ⟨rfl, rfl, le, al⟩
  by_cases hi : (i : Int) < types.length
  ·have hi' : i < types.length := by omega
   have wi : IntKind.i64.wrap ((i : Int) + 1) = (i : Int) + 1 := wrap_i64 (by omega) (by omega)
   have hiN : i < YL.length := by omega
   have hgi : YL[i] = tyD types[i] := get_opt (hG3 i hi') hiN
   have hz : (tyD types[i]).length = 7 := by simp
   have hc : Pc Tryz.prog 159 [.agg (tyD types[i])] (Tt (mayT types[i])) := cRMay (l9 _ (List.getElem_mem hi')) (hmany _ (List.getElem_mem hi'))
   generalize tyD types[i] = TT at hgi hz hc
   have htz : List.take 7 TT = TT := List.take_of_length_le (by omega)
   simp -dsimp [I, S, Tt, tmO, hi, hi', hiN, hgi, hz, htz]
   refine pcall hc ?_
   cases e : mayT types[i] with
   | false =>
    have hR := hFy i hi' e
    subst hR
    simp -dsimp [I, S, Tt]
    exact pcq rfl (fr _)
   | true =>
    simp -dsimp [I, S, Tt, wi]
    refine rnd (i + 1) (by omega) (by simp [I, Tt]) ⟨rfl, rfl, by omega, fun j h h2 => ?_⟩
    rcases Nat.lt_or_eq_of_le (show j ≤ i by omega) with c | c
    ·exact al j h c
    ·subst c; exact e
  ·simp -dsimp [I, hi]
   exact ⟨by simp [I, Tt], rfl, rfl, fun j h => al j h (by omega)⟩
 rintro σ m2 n2 ⟨sl, rfl, rfl, htyp⟩
 simp only [List.forall_mem_cons] at sl
 obtain ⟨h1, h3, h4, h5, h6, h7, h8, h9, h10, h11, -⟩ := sl
 have hrow := hF.row hfit hba hnam hvar htyp
 subst hrow
 clear hF hFn hFv hFy
 have hC : ∀ s, cntsT names vars types subs 0 0 0 s = (E && decide (subs.length = s)) := fun s => by rw [← hE]; simp [cntsT]
 have hfl : names.length ≤ 21 := by simp [fitsT] at hfit; omega
 have w1n : IntKind.i64.wrap ((names.length : Int) + 1) = (names.length : Int) + 1 := wrap_i64 (by omega) (by omega)
 by_cases k1 : k = 1
 ·subst k1
  obtain ⟨x, xb, xd⟩ := beqI subs.length 0
  have xn : decide (subs.length = 0) = x := by rw [← xd]; simp; try omega
  obtain ⟨p, pd⟩ : ∃ c, decide (0 ≤ N) = c := ⟨_, rfl⟩
  obtain ⟨q, qd⟩ : ∃ c, decide (N ≤ 999999999) = c := ⟨_, rfl⟩
  have hend : endR 1 N mod nm names vars types subs = (E && x && p && q) := by
   show (cntsT names vars types subs 0 0 0 0 && decide (0 ≤ N) && decide (N ≤ 999999999)) = _
   rw [hC]
   simp only [decide_true, Bool.and_true, Bool.and_assoc, xn, pd, qd]
  rw [hend]
  clear hend hE hC
  cases E
  ·
   (simp -dsimp [h1, h3, h4, h5, h6, h7, h8, h9, h10, h11, tmO, I, S, Tt, w1n]; exact pcq rfl (fr _))
  ·
   cases x
   ·
    (simp -dsimp [h1, h3, h4, h5, h6, h7, h8, h9, h10, h11, tmO, I, S, Tt, w1n, xb]; exact pcq rfl (fr _))
   ·
    cases p
    ·
     (simp -dsimp [h1, h3, h4, h5, h6, h7, h8, h9, h10, h11, tmO, I, S, Tt, w1n, xb, pd]; exact pcq rfl (fr _))
    ·
     cases q
     ·
      (simp -dsimp [h1, h3, h4, h5, h6, h7, h8, h9, h10, h11, tmO, I, S, Tt, w1n, xb, pd, qd]; exact pcq rfl (fr _))
     ·
      (simp -dsimp [h1, h3, h4, h5, h6, h7, h8, h9, h10, h11, tmO, I, S, Tt, w1n, xb, pd, qd]; exact pcq rfl (fr _))
 by_cases k2 : k = 2
 ·subst k2
  obtain ⟨x, xb, xd⟩ := beqI subs.length 0
  have xn : decide (subs.length = 0) = x := by rw [← xd]; simp; try omega
  obtain ⟨p, pb, pd⟩ := beqI N 0
  obtain ⟨q, qb, qd⟩ := beqI N 1
  have hend : endR 2 N mod nm names vars types subs = (E && x && (p || q)) := by
   show (cntsT names vars types subs 0 0 0 0 && (decide (N = 0) || decide (N = 1))) = _
   rw [hC]
   simp only [decide_true, Bool.and_true, Bool.and_assoc, xn, pd, qd]
  rw [hend]
  clear hend hE hC
  cases E
  ·
   (simp -dsimp [h1, h3, h4, h5, h6, h7, h8, h9, h10, h11, tmO, I, S, Tt, w1n]; exact pcq rfl (fr _))
  ·
   cases x
   ·
    (simp -dsimp [h1, h3, h4, h5, h6, h7, h8, h9, h10, h11, tmO, I, S, Tt, w1n, xb]; exact pcq rfl (fr _))
   ·
    cases p
    ·cases q
     ·
      (simp -dsimp [h1, h3, h4, h5, h6, h7, h8, h9, h10, h11, tmO, I, S, Tt, w1n, xb, pb, qb]; exact pcq rfl (fr _))
     ·
      (simp -dsimp [h1, h3, h4, h5, h6, h7, h8, h9, h10, h11, tmO, I, S, Tt, w1n, xb, pb, qb]; exact pcq rfl (fr _))
    ·
     (simp -dsimp [h1, h3, h4, h5, h6, h7, h8, h9, h10, h11, tmO, I, S, Tt, w1n, xb, pb]; exact pcq rfl (fr _))
 by_cases k3 : k = 3
 ·subst k3
  obtain ⟨x, xb, xd⟩ := beqI subs.length 0
  have xn : decide (subs.length = 0) = x := by rw [← xd]; simp; try omega
  obtain ⟨p, pb⟩ : ∃ c, nameN nm = c := ⟨_, rfl⟩
  rw [pb] at h9
  have hend : endR 3 N mod nm names vars types subs = (E && x && p) := by
   show (cntsT names vars types subs 0 0 0 0 && nameN nm) = _
   rw [hC]
   simp only [decide_true, Bool.and_true, Bool.and_assoc, xn, pb]
  rw [hend]
  clear hend hE hC
  cases E
  ·
   (simp -dsimp [h1, h3, h4, h5, h6, h7, h8, h9, h10, h11, tmO, I, S, Tt, w1n]; exact pcq rfl (fr _))
  ·
   cases x
   ·
    (simp -dsimp [h1, h3, h4, h5, h6, h7, h8, h9, h10, h11, tmO, I, S, Tt, w1n, xb]; exact pcq rfl (fr _))
   ·
    cases p
    ·
     (simp -dsimp [h1, h3, h4, h5, h6, h7, h8, h9, h10, h11, tmO, I, S, Tt, w1n, xb]; exact pcq rfl (fr _))
    ·
     (simp -dsimp [h1, h3, h4, h5, h6, h7, h8, h9, h10, h11, tmO, I, S, Tt, w1n, xb]; exact pcq rfl (fr _))
 by_cases k4 : k = 4
 ·subst k4
  obtain ⟨x, xb, xd⟩ := beqI subs.length 0
  have xn : decide (subs.length = 0) = x := by rw [← xd]; simp; try omega
  obtain ⟨p, pb⟩ : ∃ c, nameN nm = c := ⟨_, rfl⟩
  rw [pb] at h9
  obtain ⟨q, qb⟩ : ∃ c, nameN mod = c := ⟨_, rfl⟩
  rw [qb] at h10
  have hend : endR 4 N mod nm names vars types subs = (E && x && p && q) := by
   show (cntsT names vars types subs 0 0 0 0 && nameN nm && nameN mod) = _
   rw [hC]
   simp only [decide_true, Bool.and_true, Bool.and_assoc, xn, pb, qb]
  rw [hend]
  clear hend hE hC
  cases E
  ·
   (simp -dsimp [h1, h3, h4, h5, h6, h7, h8, h9, h10, h11, tmO, I, S, Tt, w1n]; exact pcq rfl (fr _))
  ·
   cases x
   ·
    (simp -dsimp [h1, h3, h4, h5, h6, h7, h8, h9, h10, h11, tmO, I, S, Tt, w1n, xb]; exact pcq rfl (fr _))
   ·
    cases p
    ·
     (simp -dsimp [h1, h3, h4, h5, h6, h7, h8, h9, h10, h11, tmO, I, S, Tt, w1n, xb]; exact pcq rfl (fr _))
    ·
     cases q
     ·
      (simp -dsimp [h1, h3, h4, h5, h6, h7, h8, h9, h10, h11, tmO, I, S, Tt, w1n, xb]; exact pcq rfl (fr _))
     ·
      (simp -dsimp [h1, h3, h4, h5, h6, h7, h8, h9, h10, h11, tmO, I, S, Tt, w1n, xb]; exact pcq rfl (fr _))
 by_cases k5 : k = 5
 ·subst k5
  obtain ⟨x, xb, xd⟩ := beqI subs.length names.length
  have xn : decide (subs.length = names.length) = x := by rw [← xd]; simp; try omega
  obtain ⟨y, yb, yd⟩ := beqI vars.length 0
  have yn : decide (vars = []) = y := by rw [← yd, Bool.eq_iff_iff]; simp
  obtain ⟨z, zb, zd⟩ := beqI types.length 0
  have zn : decide (types = []) = z := by rw [← zd, Bool.eq_iff_iff]; simp
  have hend : endR 5 N mod nm names vars types subs = (y && z && x) := by
   simp [endR, cntsT, xn, yn, zn]
  rw [hend]
  clear hend hE hC
  cases y
  ·
   (simp -dsimp [h1, h3, h4, h5, h6, h7, h8, h9, h10, h11, tmO, I, S, Tt, w1n, yb]; exact pcq rfl (fr _))
  ·
   cases z
   ·
    (simp -dsimp [h1, h3, h4, h5, h6, h7, h8, h9, h10, h11, tmO, I, S, Tt, w1n, yb, zb]; exact pcq rfl (fr _))
   ·
    cases x
    ·
     (simp -dsimp [h1, h3, h4, h5, h6, h7, h8, h9, h10, h11, tmO, I, S, Tt, w1n, yb, zb, xb]; exact pcq rfl (fr _))
    ·
     (simp -dsimp [h1, h3, h4, h5, h6, h7, h8, h9, h10, h11, tmO, I, S, Tt, w1n, yb, zb, xb]; exact pcq rfl (fr _))
 by_cases k6 : k = 6
 ·subst k6
  obtain ⟨x, xb, xd⟩ := beqI subs.length 1
  have xn : decide (subs.length = 1) = x := by rw [← xd]; simp; try omega
  obtain ⟨p, pb⟩ : ∃ c, nameN nm = c := ⟨_, rfl⟩
  rw [pb] at h9
  have hend : endR 6 N mod nm names vars types subs = (E && x && p) := by
   show (cntsT names vars types subs 0 0 0 1 && nameN nm) = _
   rw [hC]
   simp only [decide_true, Bool.and_true, Bool.and_assoc, xn, pb]
  rw [hend]
  clear hend hE hC
  cases E
  ·
   (simp -dsimp [h1, h3, h4, h5, h6, h7, h8, h9, h10, h11, tmO, I, S, Tt, w1n]; exact pcq rfl (fr _))
  ·
   cases x
   ·
    (simp -dsimp [h1, h3, h4, h5, h6, h7, h8, h9, h10, h11, tmO, I, S, Tt, w1n, xb]; exact pcq rfl (fr _))
   ·
    cases p
    ·
     (simp -dsimp [h1, h3, h4, h5, h6, h7, h8, h9, h10, h11, tmO, I, S, Tt, w1n, xb]; exact pcq rfl (fr _))
    ·
     (simp -dsimp [h1, h3, h4, h5, h6, h7, h8, h9, h10, h11, tmO, I, S, Tt, w1n, xb]; exact pcq rfl (fr _))
 by_cases k7 : k = 7
 ·subst k7
  obtain ⟨x, xb, xd⟩ := beqI subs.length 1
  have xn : decide (subs.length = 1) = x := by rw [← xd]; simp; try omega
  obtain ⟨p, pb⟩ : ∃ c, tagN nm = c := ⟨_, rfl⟩
  rw [pb] at h11
  have hend : endR 7 N mod nm names vars types subs = (E && x && p) := by
   show (cntsT names vars types subs 0 0 0 1 && tagN nm) = _
   rw [hC]
   simp only [decide_true, Bool.and_true, Bool.and_assoc, xn, pb]
  rw [hend]
  clear hend hE hC
  cases E
  ·
   (simp -dsimp [h1, h3, h4, h5, h6, h7, h8, h9, h10, h11, tmO, I, S, Tt, w1n]; exact pcq rfl (fr _))
  ·
   cases x
   ·
    (simp -dsimp [h1, h3, h4, h5, h6, h7, h8, h9, h10, h11, tmO, I, S, Tt, w1n, xb]; exact pcq rfl (fr _))
   ·
    cases p
    ·
     (simp -dsimp [h1, h3, h4, h5, h6, h7, h8, h9, h10, h11, tmO, I, S, Tt, w1n, xb]; exact pcq rfl (fr _))
    ·
     (simp -dsimp [h1, h3, h4, h5, h6, h7, h8, h9, h10, h11, tmO, I, S, Tt, w1n, xb]; exact pcq rfl (fr _))
 by_cases k8 : k = 8
 ·subst k8
  obtain ⟨x, xb, xd⟩ := beqI subs.length 1
  have xn : decide (subs.length = 1) = x := by rw [← xd]; simp; try omega
  obtain ⟨y, yb, yd⟩ := beqI vars.length 0
  have yn : decide (vars = []) = y := by rw [← yd, Bool.eq_iff_iff]; simp
  obtain ⟨z, zb, zd⟩ := beqI types.length names.length
  have zn : decide (types.length = names.length) = z := by rw [← zd]; simp; try omega
  have hend : endR 8 N mod nm names vars types subs = (y && z && x) := by
   simp [endR, cntsT, xn, yn, zn]
  rw [hend]
  clear hend hE hC
  cases y
  ·
   (simp -dsimp [h1, h3, h4, h5, h6, h7, h8, h9, h10, h11, tmO, I, S, Tt, w1n, yb]; exact pcq rfl (fr _))
  ·
   cases z
   ·
    (simp -dsimp [h1, h3, h4, h5, h6, h7, h8, h9, h10, h11, tmO, I, S, Tt, w1n, yb, zb]; exact pcq rfl (fr _))
   ·
    cases x
    ·
     (simp -dsimp [h1, h3, h4, h5, h6, h7, h8, h9, h10, h11, tmO, I, S, Tt, w1n, yb, zb, xb]; exact pcq rfl (fr _))
    ·
     (simp -dsimp [h1, h3, h4, h5, h6, h7, h8, h9, h10, h11, tmO, I, S, Tt, w1n, yb, zb, xb]; exact pcq rfl (fr _))
 by_cases k9 : k = 9
 ·subst k9
  obtain ⟨x, xb⟩ : ∃ c, decide ((1 : Int) ≤ subs.length) = c := ⟨_, rfl⟩
  have xn : decide (1 ≤ subs.length) = x := by rw [← xb]; simp; try omega
  have hend : endR 9 N mod nm names vars types subs = (E && x) := by
   show (cntsT names vars types subs 0 0 0 subs.length && decide (1 ≤ subs.length)) = _
   rw [hC]
   simp only [decide_true, Bool.and_true, Bool.and_assoc, xn]
  rw [hend]
  clear hend hE hC
  cases E
  ·
   (simp -dsimp [h1, h3, h4, h5, h6, h7, h8, h9, h10, h11, tmO, I, S, Tt, w1n]; exact pcq rfl (fr _))
  ·
   cases x
   ·
    (simp -dsimp [h1, h3, h4, h5, h6, h7, h8, h9, h10, h11, tmO, I, S, Tt, w1n, xb]; exact pcq rfl (fr _))
   ·
    (simp -dsimp [h1, h3, h4, h5, h6, h7, h8, h9, h10, h11, tmO, I, S, Tt, w1n, xb]; exact pcq rfl (fr _))
 by_cases k10 : k = 10
 ·subst k10
  obtain ⟨x, xb⟩ : ∃ c, decide ((1 : Int) ≤ subs.length) = c := ⟨_, rfl⟩
  have xn : decide (1 ≤ subs.length) = x := by rw [← xb]; simp; try omega
  have hend : endR 10 N mod nm names vars types subs = (E && x) := by
   show (cntsT names vars types subs 0 0 0 subs.length && decide (1 ≤ subs.length)) = _
   rw [hC]
   simp only [decide_true, Bool.and_true, Bool.and_assoc, xn]
  rw [hend]
  clear hend hE hC
  cases E
  ·
   (simp -dsimp [h1, h3, h4, h5, h6, h7, h8, h9, h10, h11, tmO, I, S, Tt, w1n]; exact pcq rfl (fr _))
  ·
   cases x
   ·
    (simp -dsimp [h1, h3, h4, h5, h6, h7, h8, h9, h10, h11, tmO, I, S, Tt, w1n, xb]; exact pcq rfl (fr _))
   ·
    (simp -dsimp [h1, h3, h4, h5, h6, h7, h8, h9, h10, h11, tmO, I, S, Tt, w1n, xb]; exact pcq rfl (fr _))
 by_cases k11 : k = 11
 ·subst k11
  obtain ⟨x, xb, xd⟩ := beqI subs.length 3
  have xn : decide (subs.length = 3) = x := by rw [← xd]; simp; try omega
  have hend : endR 11 N mod nm names vars types subs = (E && x) := by
   show (cntsT names vars types subs 0 0 0 3) = _
   rw [hC]
   simp only [decide_true, Bool.and_true, Bool.and_assoc, xn]
  rw [hend]
  clear hend hE hC
  cases E
  ·
   (simp -dsimp [h1, h3, h4, h5, h6, h7, h8, h9, h10, h11, tmO, I, S, Tt, w1n]; exact pcq rfl (fr _))
  ·
   cases x
   ·
    (simp -dsimp [h1, h3, h4, h5, h6, h7, h8, h9, h10, h11, tmO, I, S, Tt, w1n, xb]; exact pcq rfl (fr _))
   ·
    (simp -dsimp [h1, h3, h4, h5, h6, h7, h8, h9, h10, h11, tmO, I, S, Tt, w1n, xb]; exact pcq rfl (fr _))
 by_cases k12 : k = 12
 ·subst k12
  obtain ⟨w, wb⟩ : ∃ c, decide ((1 : Int) ≤ names.length) = c := ⟨_, rfl⟩
  have wn : decide (1 ≤ names.length) = w := by rw [← wb]; simp; try omega
  obtain ⟨x, xb, xd⟩ := beqI subs.length ((names.length : Int) + 1)
  have xn : decide (subs.length = names.length + 1) = x := by rw [← xd]; congr 1; apply propext; omega
  obtain ⟨y, yb, yd⟩ := beqI vars.length names.length
  have yn : decide (vars.length = names.length) = y := by rw [← yd]; simp; try omega
  obtain ⟨z, zb, zd⟩ := beqI types.length 0
  have zn : decide (types = []) = z := by rw [← zd, Bool.eq_iff_iff]; simp
  have hend : endR 12 N mod nm names vars types subs = (w && (y && z && x)) := by
   simp [endR, cntsT, xn, yn, zn, wn]
  rw [hend]
  clear hend hE hC
  cases w
  ·
   (simp -dsimp [h1, h3, h4, h5, h6, h7, h8, h9, h10, h11, tmO, I, S, Tt, w1n, wb]; exact pcq rfl (fr _))
  ·
   cases y
   ·
    (simp -dsimp [h1, h3, h4, h5, h6, h7, h8, h9, h10, h11, tmO, I, S, Tt, w1n, wb, yb]; exact pcq rfl (fr _))
   ·
    cases z
    ·
     (simp -dsimp [h1, h3, h4, h5, h6, h7, h8, h9, h10, h11, tmO, I, S, Tt, w1n, wb, yb, zb]; exact pcq rfl (fr _))
    ·
     cases x
     ·
      (simp -dsimp [h1, h3, h4, h5, h6, h7, h8, h9, h10, h11, tmO, I, S, Tt, w1n, wb, yb, zb, xb]; exact pcq rfl (fr _))
     ·
      (simp -dsimp [h1, h3, h4, h5, h6, h7, h8, h9, h10, h11, tmO, I, S, Tt, w1n, wb, yb, zb, xb]; exact pcq rfl (fr _))
 have hend : endR k N mod nm names vars types subs = false := by simp [endR, k1, k2, k3, k4, k5, k6, k7, k8, k9, k10, k11, k12]
 rw [hend]
 have b1 : (k == 1) = false := by simpa using k1
 have b2 : (k == 2) = false := by simpa using k2
 have b3 : (k == 3) = false := by simpa using k3
 have b4 : (k == 4) = false := by simpa using k4
 have b5 : (k == 5) = false := by simpa using k5
 have b6 : (k == 6) = false := by simpa using k6
 have b7 : (k == 7) = false := by simpa using k7
 have b8 : (k == 8) = false := by simpa using k8
 have b9 : (k == 9) = false := by simpa using k9
 have b10 : (k == 10) = false := by simpa using k10
 have b11 : (k == 11) = false := by simpa using k11
 have b12 : (k == 12) = false := by simpa using k12
 simp -dsimp [h1, h3, h4, h5, h6, h7, h8, h9, h10, h11, tmO, I, S, Tt, b1, b2, b3, b4, b5, b6, b7, b8, b9, b10, b11, b12]
 exact pcq rfl (fr _)
end Go.Proofs.Mv.App
