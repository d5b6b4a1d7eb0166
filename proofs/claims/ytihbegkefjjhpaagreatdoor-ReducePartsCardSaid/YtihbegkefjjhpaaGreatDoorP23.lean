/- A part of the proofs: machine, contracts, laws. No condition of its own. -/
import Derived.Test.YtihbegkefjjhpaaGreatDoorP14
import Derived.Test.YtihbegkefjjhpaaGreatDoorP15
import Derived.Test.YtihbegkefjjhpaaGreatDoorP01
set_option linter.unusedSimpArgs false
set_option linter.unusedVariables false
set_option linter.unusedSectionVars false
open Go Go.Proofs Go.Proofs.Mv.V
set_option maxRecDepth 10000
namespace Go.Proofs.Mv.App
structure SlAt (L : List (Nat × D)) (M : Mem) (n1 : Nat) (p : Prop) (σ : Nat → D) (m2 : Mem) (n2 : Nat) : Prop where
  sl : ∀ q ∈ L, σ q.1 = q.2
  mm : m2 = M
  nn : n2 = n1
  pr : p
structure OwnF (k N : Int) (mod nm : List UInt8) (names vars : List (List UInt8)) (types : List Ty) (subs : List Tm) (R : Bool) : Prop where
  big : fitsT names vars types subs = false → R = false
  bare : bareTm k N mod nm = false → R = false
  nam : ∀ i, i < names.length → nmR k names i = false → R = false
  var : ∀ i (h : i < vars.length), nameN vars[i] = false → R = false
  typ : ∀ i (h : i < types.length), mayT types[i] = false → R = false
  row : fitsT names vars types subs = true → bareTm k N mod nm = true → (∀ j, j < names.length → nmR k names j = true) → (∀ j (h : j < vars.length), nameN vars[j] = true) → (∀ j (h : j < types.length), mayT types[j] = true) → R = endR k N mod nm names vars types subs
end Go.Proofs.Mv.App
open Go Go.Proofs Go.Proofs.Mv.V
set_option maxRecDepth 10000
namespace Go.Proofs.Mv.App
end Go.Proofs.Mv.App
open Go Go.Proofs Go.Proofs.Mv.V
set_option maxRecDepth 10000
namespace Go.Proofs.Mv.App
def inL (k : Int) (names vars ns : Nms) (i : Nat) : Nms := if k = 8 then ns ++ names else if k = 12 ∧ 0 < i then ns ++ [vars.getD (i - 1) []] else ns
structure RcL [GI] (k N : Int) (mod nm : List UInt8) (NL VL YL SL : List (List D)) (names vars ns : Nms) (subs : List Tm) (m : Mem) (n : Nat) (i : Nat) (m2 : Mem) (n2 : Nat) : Prop where
  o0 : m2 n = some ⟨8, [[I k, I N, S mod, S nm, .sl 1 NL, .sl 1 VL, .sl 7 YL, .sl 8 SL]], 0⟩
  fr : ∀ j, j < n → m2 j = m j
  nn : n + 1 ≤ n2
  le : i ≤ subs.length
  al : ∀ j (h : j < subs.length), j < i → cloT subs[j] (inL k names vars ns j) = true
end Go.Proofs.Mv.App
open Go Go.Proofs Go.Proofs.Mv.V
set_option maxRecDepth 10000
namespace Go.Proofs.Mv.App
def shortF (l : List Df) (t : Tm) : Bool := fewTm3 t && decide (l.length ≤ 100) && l.all fun d => fewTm3 d.term
theorem cShort {l : List Df} {t : Tm} (hl : l.length ≤ 9223372036854775807) (hd : ∀ d ∈ l, TmW d.term) (ht : TmW t) : Pc Tryz.prog 18 [.sl 10 (l.map dfD), .agg (tmD t)] (Tt (shortF l t)) := by
  refine pc_of (pur_T _) (fun m n => ?_)
  have fr : ∀ o j, j < n → (m.set n o) j = m j := fun o j hj => by rw [set_ne _ _ _ _ (by omega)]
  have hz : (tmD t).length = 8 := by simp
  have c1 := cRFewT ht
  have hLL : (l.map dfD).length = l.length := by simp
  have hLG : ∀ i (h : i < l.length), (l.map dfD)[i]? = some (dfD l[i]) := fun i h => by simp [h]
  unfold shortF
  generalize tmD t = X at c1 hz
  generalize l.map dfD = L at hLL hLG
  have hX : List.take 8 X = X := List.take_of_length_le (by omega)
  refine acalls_vc [0, 1, 3, 4, 5, 6, 7, 16, 20, 30] Tryz.func18 Tryz.ntmps18 (by kernel_rfl) rfl rfl (by simp) ?_
  simp -dsimp [hz, hX, hLL]
  refine pcall c1 ?_
  cases hm : fewTm3 t with
  | false =>
    simp -dsimp [Tt]
    exact pcq rfl (fr _)
  | true =>
  by_cases h40 : l.length ≤ 100
  case neg =>
    have h40' : (100 : Int) < (l.length : Int) := by omega
    simp -dsimp [Tt, hLL, h40']
    exact pcq (by simp [Tt, h40]) (fr _)
  have h40' : ¬ (100 : Int) < (l.length : Int) := by omega
  simp -dsimp [Tt, hLL, h40', hz, hX]
  refine vloop_as (β := Nat) (fun i => [(0, .sl 10 L), (6, I i)]) (fun i m2 n2 => m2 = m.set n ⟨8, [X], 0⟩ ∧ n2 = n + 1 ∧ i ≤ l.length ∧ ∀ d ∈ l.take i, fewTm3 d.term = true) (fun i => l.length - i) 0 (by simp [I]) ⟨rfl, rfl, by simp, by simp⟩ ?_
  rintro i m2 n2 ⟨rfl, rfl, le, hok⟩
  by_cases hi : (i : Int) < l.length
  · have hi' : i < l.length := by omega
    have wi : IntKind.i64.wrap ((i : Int) + 1) = (i : Int) + 1 := wrap_i64 (by omega) (by omega)
    have hiL : i < L.length := by omega
    have hgi : L[i] = dfD l[i] := get_opt (hLG i hi') hiL
    have hdm : l[i] ∈ l := List.getElem_mem hi'
    have e1 := cRFewT (hd _ hdm)
    have hzY : (tmD l[i].term).length = 8 := by simp
    simp only [dfD] at hgi
    generalize tmD l[i].term = Y at hgi e1 hzY
    have hY : List.take 8 Y = Y := List.take_of_length_le (by omega)
    simp -dsimp [I, S, Tt, hi, hi', hiL, hLL, hgi, hzY, hY]
    refine pcall e1 ?_
    cases hq : fewTm3 l[i].term with
    | false =>
      simp -dsimp [I, S, Tt, wi]
      refine pcq ?_ (fr _)
      have : (l.all fun d => fewTm3 d.term) = false := by
        rw [Bool.eq_false_iff]
        intro h
        rw [List.all_eq_true.1 h _ hdm] at hq
        cases hq
      rw [this]
      simp [Tt]
    | true =>
      simp -dsimp [I, S, Tt, wi]
      refine rnd (i + 1) (by omega) (by simp [I]) ⟨rfl, rfl, by omega, fun x hx => ?_⟩
      rw [List.take_succ_eq_append_getElem hi'] at hx
      rcases List.mem_append.1 hx with hx | hx
      · exact hok x hx
      · simp at hx; rw [hx]; exact hq
  · have e : i = l.length := by omega
    subst e
    rw [List.take_length] at hok
    simp -dsimp [I, Tt, hi, hLL]
    refine pcq ?_ (fr _)
    simp [Tt, h40, List.all_eq_true]
    exact hok
end Go.Proofs.Mv.App
