/- A part of the proofs of the seat YtdbfejminjaheaaGreatDoor: the abstract machine, the contracts of the functions, the laws. No condition of its own. -/
import Derived.Test.YtdbfejminjaheaaGreatDoorVerC
set_option linter.unusedSimpArgs false
set_option linter.unusedVariables false
set_option linter.unusedSectionVars false
open Go Go.Proofs Go.Proofs.Mv.V
set_option maxRecDepth 10000
namespace Go.Proofs.Mv.App
structure Sc where
  a : Int
  b : Int
  c : Int
  k : Nat
def Sc.cur (q : Sc) : Int := match q.k with | 0 => q.a | 1 => q.b | _ => q.c
def Sc.put (q : Sc) (v : Int) : Sc := match q.k with | 0 => { q with a := v } | 1 => { q with b := v } | _ => { q with c := v }
def stepSc (x : UInt8) (q : Sc) : Option Sc :=
  if x = 46 then (if 2 ≤ q.k then none else some { q with k := q.k + 1 })
  else if isDigit x ∧ q.cur ≤ 99999999 then some (q.put (10 * q.cur + x.toNat - 48)) else none
def scanF : List UInt8 → Sc → Option Sc
  | [], q => some q
  | x :: s, q => match stepSc x q with
    | some q' => scanF s q'
    | none => none
def Sc.ver (q : Sc) : Ver := ⟨q.a, q.b, q.c⟩
def parseR (s : List UInt8) : Option Ver := if 40 < s.length then none else match scanF s ⟨0, 0, 0, 0⟩ with
  | some q => if mayV q.ver = true ∧ textV q.ver = s then some q.ver else none
  | none => none
def verR : Option Ver → D
  | some v => .tup [.agg (verD v), Tt true]
  | none => .tup [.agg [I 0, I 0, I 0], Tt false]
structure ScInv (s : List UInt8) (m : Mem) (n : Nat) (i : Nat) (σ : Nat → D) (m2 : Mem) (n2 : Nat) : Prop where
  h0 : σ 0 = S s
  h2 : σ 2 = .ptr n 0 0 0
  h3 : σ 3 = Tt false
  h4 : σ 4 = .own (n + 1) 0 0 3 1
  h6 : σ 6 = I i
  le : i ≤ s.length
  ex : ∃ q : Sc, σ 5 = I q.k ∧ q.k ≤ 2 ∧ scanF s ⟨0, 0, 0, 0⟩ = scanF (s.drop i) q ∧ (0 ≤ q.a ∧ q.a ≤ 999999999) ∧ (0 ≤ q.b ∧ q.b ≤ 999999999) ∧ (0 ≤ q.c ∧ q.c ≤ 999999999) ∧
    m2 = (m.set n ⟨3, [[I 0, I 0, I 0]], 0⟩).set (n + 1) ⟨1, [[I q.a], [I q.b], [I q.c]], 0⟩
  nn : n2 = n + 1 + 1
set_option maxHeartbeats 4000000 in
theorem cRParseV (s : List UInt8) (m : Mem) (n : Nat) : ACalls Tryz.prog 57 [S s] m n (fun d m' n' => d = verR (parseR s) ∧ m' = m ∧ n' = n) := by
  refine acalls_done (R' := Hq (fun d m' n' => d = verR (parseR s) ∧ ∀ j, j < n → m' j = m j) tg) ?_ ?_
  · have q01 : n ≠ n + 1 := by omega
    have q10 : n + 1 ≠ n := by omega
    have q02 : n ≠ n + 1 + 1 := by omega
    have q12 : n + 1 ≠ n + 1 + 1 := by omega
    have q20 : n + 1 + 1 ≠ n := by omega
    have q21 : n + 1 + 1 ≠ n + 1 := by omega
    refine acalls_vcC [0, 2, 3, 4, 5, 6, 7, 8, 11, 17, 23, 46, 63, 84] Tryz.func57 Tryz.ntmps57 (by kernel_rfl) rfl rfl (by simp) ?_
    by_cases l4 : (40 : Int) < s.length
    · have l4' : 40 < s.length := by omega
      simp -dsimp [S, I, l4, l4']
      refine hq ⟨by unfold parseR; rw [if_pos l4']; rfl, fun j hj => ?_⟩
      have j0 : j ≠ n := by omega
      simp [set_ne, j0]
    have l4' : ¬ 40 < s.length := by omega
    have none_ : scanF s ⟨0, 0, 0, 0⟩ = none → parseR s = none := fun h => by unfold parseR; rw [if_neg l4', h]
    simp -dsimp [S, I, l4, l4', set_ne, q01, q10]
    refine vloop_of (β := Nat) (ScInv s m n) (fun i => s.length - i) 0 ⟨by simp [S], by simp, by simp [Tt], by simp, by simp [I], by omega, ⟨⟨0, 0, 0, 0⟩, by simp [I], by simp, by simp, by simp, by simp, by simp, by simp [I]⟩, rfl⟩ ?_
    rintro i σ m2 n2 ⟨h0, h2, h3, h4, h6, le, ⟨⟨a, b, c, k⟩, h5, hk, hsc, ha, hb, hc, rfl⟩, rfl⟩
    simp only at h5 hk ha hb hc
    by_cases hi : i < s.length
    · have hi2 : (i : Int) < s.length := by omega
      have wi : IntKind.i64.wrap ((i : Int) + 1) = (i : Int) + 1 := wrap_i64 (by omega) (by omega)
      have hdr : s.drop i = s[i] :: s.drop (i + 1) := List.drop_eq_getElem_cons hi
      rw [hdr] at hsc
      simp only [scanF] at hsc
      have hxlt := s[i].toNat_lt
      by_cases c46 : s[i].toNat = 46
      · have e46 : s[i] = 46 := UInt8.toNat_inj.1 c46
        obtain rfl | rfl | rfl : k = 0 ∨ k = 1 ∨ k = 2 := by omega
        · have hst : stepSc s[i] ⟨a, b, c, 0⟩ = some ⟨a, b, c, 1⟩ := by simp [stepSc, e46]
          rw [hst] at hsc
          simp only at hsc
          have wk : IntKind.i64.wrap 1 = 1 := wrap_i64 (by omega) (by omega)
          simp -dsimp [h0, h2, h3, h4, h5, h6, S, I, Tt, hi, hi2, wi, set_ne, q01, q10, q02, q12, q20, q21, c46, wk]
          exact ⟨i + 1, by omega, by simp [S], by simp, by simp [Tt], by simp, by simp [I], by omega, ⟨⟨a, b, c, 1⟩, by simp [I], by simp, hsc, by simpa using ha, by simpa using hb, by simpa using hc, by simp [I]⟩, rfl⟩
        · have hst : stepSc s[i] ⟨a, b, c, 1⟩ = some ⟨a, b, c, 2⟩ := by simp [stepSc, e46]
          rw [hst] at hsc
          simp only at hsc
          have wk : IntKind.i64.wrap 2 = 2 := wrap_i64 (by omega) (by omega)
          simp -dsimp [h0, h2, h3, h4, h5, h6, S, I, Tt, hi, hi2, wi, set_ne, q01, q10, q02, q12, q20, q21, c46, wk]
          exact ⟨i + 1, by omega, by simp [S], by simp, by simp [Tt], by simp, by simp [I], by omega, ⟨⟨a, b, c, 2⟩, by simp [I], by simp, hsc, by simpa using ha, by simpa using hb, by simpa using hc, by simp [I]⟩, rfl⟩
        · have hst : stepSc s[i] ⟨a, b, c, 2⟩ = none := by simp [stepSc, e46]
          rw [hst] at hsc
          simp only at hsc
          have wk : IntKind.i64.wrap 3 = 3 := wrap_i64 (by omega) (by omega)
          simp -dsimp [h0, h2, h3, h4, h5, h6, S, I, Tt, hi, hi2, wi, set_ne, q01, q10, q02, q12, q20, q21, c46, wk]
          refine hq ⟨by rw [none_ (by rw [hsc])]; rfl, fun j hj => ?_⟩
          have j0 : j ≠ n := by omega
          have j1 : j ≠ n + 1 := by omega
          simp [set_ne, j0, j1]
      · have c46' : ((s[i].toNat : Int) == 46) = false := by simp; omega
        have e46 : ¬ s[i] = 46 := fun e => c46 (by rw [e]; rfl)
        by_cases c1 : (48 : Int) ≤ (s[i].toNat : Int)
        case neg =>
          have c1' : ¬ 48 ≤ s[i].toNat := by omega
          have hst : stepSc s[i] ⟨a, b, c, k⟩ = none := by simp [stepSc, e46, isDigit, c1']
          rw [hst] at hsc
          simp only at hsc
          simp -dsimp [h0, h2, h3, h4, h5, h6, S, I, Tt, hi, hi2, wi, set_ne, q01, q10, q02, q12, q20, q21, c46', c1, c1']
          refine hq ⟨by rw [none_ (by rw [hsc])]; rfl, fun j hj => ?_⟩
          have j0 : j ≠ n := by omega
          have j1 : j ≠ n + 1 := by omega
          simp [set_ne, j0, j1]
        have c1' : 48 ≤ s[i].toNat := by omega
        by_cases c2 : (s[i].toNat : Int) ≤ 57
        case neg =>
          have c2' : ¬ s[i].toNat ≤ 57 := by omega
          have hst : stepSc s[i] ⟨a, b, c, k⟩ = none := by simp [stepSc, e46, isDigit, c2']
          rw [hst] at hsc
          simp only at hsc
          simp -dsimp [h0, h2, h3, h4, h5, h6, S, I, Tt, hi, hi2, wi, set_ne, q01, q10, q02, q12, q20, q21, c46', c1, c1', c2, c2']
          refine hq ⟨by rw [none_ (by rw [hsc])]; rfl, fun j hj => ?_⟩
          have j0 : j ≠ n := by omega
          have j1 : j ≠ n + 1 := by omega
          simp [set_ne, j0, j1]
        have c2' : s[i].toNat ≤ 57 := by omega
        obtain rfl | rfl | rfl : k = 0 ∨ k = 1 ∨ k = 2 := by omega
        · by_cases c3 : a ≤ 99999999
          case neg =>
            have hst : stepSc s[i] ⟨a, b, c, 0⟩ = none := by simp [stepSc, e46, Sc.cur, c3]
            rw [hst] at hsc
            simp only at hsc
            simp -dsimp [h0, h2, h3, h4, h5, h6, S, I, Tt, hi, hi2, wi, set_ne, q01, q10, q02, q12, q20, q21, c46', c1, c1', c2, c2', c3]
            refine hq ⟨by rw [none_ (by rw [hsc])]; rfl, fun j hj => ?_⟩
            have j0 : j ≠ n := by omega
            have j1 : j ≠ n + 1 := by omega
            simp [set_ne, j0, j1]
          have hst : stepSc s[i] ⟨a, b, c, 0⟩ = some ⟨10 * a + s[i].toNat - 48, b, c, 0⟩ := by simp [stepSc, e46, Sc.cur, Sc.put, isDigit, c1', c2', c3]
          rw [hst] at hsc
          simp only at hsc
          have w1 : IntKind.i64.wrap (10 * a) = 10 * a := wrap_i64 (by omega) (by omega)
          have w2 : IntKind.i64.wrap (10 * a + (s[i].toNat : Int)) = 10 * a + (s[i].toNat : Int) := wrap_i64 (by omega) (by omega)
          have w3 : IntKind.i64.wrap (10 * a + (s[i].toNat : Int) - 48) = 10 * a + (s[i].toNat : Int) - 48 := wrap_i64 (by omega) (by omega)
          simp -dsimp [h0, h2, h3, h4, h5, h6, S, I, Tt, hi, hi2, wi, set_ne, q01, q10, q02, q12, q20, q21, c46', c1, c1', c2, c2', c3]
          refine vdraw_tree [0, 0, 0, 0, 12, 28, 60, 0, 0, 384, 896, 2044, 4092, 8191, 16383] (.rd 0 (.rd 1 (.rd 2 (.rd 3 (.rd 4 (.rd 5 (.rd 6 (.rd 7 (.rd 8 (.rd 9 (.rd 10 (.rd 11 (.rd 12 (.rd 13 (.wr (.cons 14 (.fin) (.nil))))))))))))))))) (by kernel_rfl) (by kernel_rfl) ?_
          simp -dsimp [h0, h2, h3, h4, h5, h6, S, I, Tt, hi, hi2, wi, set_ne, q01, q10, q02, q12, q20, q21, c46', c1, c1', c2, c2', c3, w1, w2, w3]
          exact ⟨i + 1, by omega, by simp [S], by simp, by simp [Tt], by simp, by simp [I], by omega, ⟨⟨10 * a + s[i].toNat - 48, b, c, 0⟩, by simp [I], by simp, hsc, by simp only; omega, by simpa using hb, by simpa using hc, by simp [I]⟩, rfl⟩
        · by_cases c3 : b ≤ 99999999
          case neg =>
            have hst : stepSc s[i] ⟨a, b, c, 1⟩ = none := by simp [stepSc, e46, Sc.cur, c3]
            rw [hst] at hsc
            simp only at hsc
            simp -dsimp [h0, h2, h3, h4, h5, h6, S, I, Tt, hi, hi2, wi, set_ne, q01, q10, q02, q12, q20, q21, c46', c1, c1', c2, c2', c3]
            refine hq ⟨by rw [none_ (by rw [hsc])]; rfl, fun j hj => ?_⟩
            have j0 : j ≠ n := by omega
            have j1 : j ≠ n + 1 := by omega
            simp [set_ne, j0, j1]
          have hst : stepSc s[i] ⟨a, b, c, 1⟩ = some ⟨a, 10 * b + s[i].toNat - 48, c, 1⟩ := by simp [stepSc, e46, Sc.cur, Sc.put, isDigit, c1', c2', c3]
          rw [hst] at hsc
          simp only at hsc
          have w1 : IntKind.i64.wrap (10 * b) = 10 * b := wrap_i64 (by omega) (by omega)
          have w2 : IntKind.i64.wrap (10 * b + (s[i].toNat : Int)) = 10 * b + (s[i].toNat : Int) := wrap_i64 (by omega) (by omega)
          have w3 : IntKind.i64.wrap (10 * b + (s[i].toNat : Int) - 48) = 10 * b + (s[i].toNat : Int) - 48 := wrap_i64 (by omega) (by omega)
          simp -dsimp [h0, h2, h3, h4, h5, h6, S, I, Tt, hi, hi2, wi, set_ne, q01, q10, q02, q12, q20, q21, c46', c1, c1', c2, c2', c3]
          refine vdraw_tree [0, 0, 0, 0, 12, 28, 60, 0, 0, 384, 896, 2044, 4092, 8191, 16383] (.rd 0 (.rd 1 (.rd 2 (.rd 3 (.rd 4 (.rd 5 (.rd 6 (.rd 7 (.rd 8 (.rd 9 (.rd 10 (.rd 11 (.rd 12 (.rd 13 (.wr (.cons 14 (.fin) (.nil))))))))))))))))) (by kernel_rfl) (by kernel_rfl) ?_
          simp -dsimp [h0, h2, h3, h4, h5, h6, S, I, Tt, hi, hi2, wi, set_ne, q01, q10, q02, q12, q20, q21, c46', c1, c1', c2, c2', c3, w1, w2, w3]
          exact ⟨i + 1, by omega, by simp [S], by simp, by simp [Tt], by simp, by simp [I], by omega, ⟨⟨a, 10 * b + s[i].toNat - 48, c, 1⟩, by simp [I], by simp, hsc, by simpa using ha, by simp only; omega, by simpa using hc, by simp [I]⟩, rfl⟩
        · by_cases c3 : c ≤ 99999999
          case neg =>
            have hst : stepSc s[i] ⟨a, b, c, 2⟩ = none := by simp [stepSc, e46, Sc.cur, c3]
            rw [hst] at hsc
            simp only at hsc
            simp -dsimp [h0, h2, h3, h4, h5, h6, S, I, Tt, hi, hi2, wi, set_ne, q01, q10, q02, q12, q20, q21, c46', c1, c1', c2, c2', c3]
            refine hq ⟨by rw [none_ (by rw [hsc])]; rfl, fun j hj => ?_⟩
            have j0 : j ≠ n := by omega
            have j1 : j ≠ n + 1 := by omega
            simp [set_ne, j0, j1]
          have hst : stepSc s[i] ⟨a, b, c, 2⟩ = some ⟨a, b, 10 * c + s[i].toNat - 48, 2⟩ := by simp [stepSc, e46, Sc.cur, Sc.put, isDigit, c1', c2', c3]
          rw [hst] at hsc
          simp only at hsc
          have w1 : IntKind.i64.wrap (10 * c) = 10 * c := wrap_i64 (by omega) (by omega)
          have w2 : IntKind.i64.wrap (10 * c + (s[i].toNat : Int)) = 10 * c + (s[i].toNat : Int) := wrap_i64 (by omega) (by omega)
          have w3 : IntKind.i64.wrap (10 * c + (s[i].toNat : Int) - 48) = 10 * c + (s[i].toNat : Int) - 48 := wrap_i64 (by omega) (by omega)
          simp -dsimp [h0, h2, h3, h4, h5, h6, S, I, Tt, hi, hi2, wi, set_ne, q01, q10, q02, q12, q20, q21, c46', c1, c1', c2, c2', c3]
          refine vdraw_tree [0, 0, 0, 0, 12, 28, 60, 0, 0, 384, 896, 2044, 4092, 8191, 16383] (.rd 0 (.rd 1 (.rd 2 (.rd 3 (.rd 4 (.rd 5 (.rd 6 (.rd 7 (.rd 8 (.rd 9 (.rd 10 (.rd 11 (.rd 12 (.rd 13 (.wr (.cons 14 (.fin) (.nil))))))))))))))))) (by kernel_rfl) (by kernel_rfl) ?_
          simp -dsimp [h0, h2, h3, h4, h5, h6, S, I, Tt, hi, hi2, wi, set_ne, q01, q10, q02, q12, q20, q21, c46', c1, c1', c2, c2', c3, w1, w2, w3]
          exact ⟨i + 1, by omega, by simp [S], by simp, by simp [Tt], by simp, by simp [I], by omega, ⟨⟨a, b, 10 * c + s[i].toNat - 48, 2⟩, by simp [I], by simp, hsc, by simpa using ha, by simpa using hb, by simp only; omega, by simp [I]⟩, rfl⟩
    · have hi2 : ¬ (i : Int) < s.length := by omega
      have e : s.drop i = [] := List.drop_of_length_le (by omega)
      rw [e] at hsc
      simp only [scanF] at hsc
      have hp : parseR s = if mayV ⟨a, b, c⟩ = true ∧ textV ⟨a, b, c⟩ = s then some ⟨a, b, c⟩ else none := by unfold parseR; rw [if_neg l4', hsc]; rfl
      rw [hp]
      simp -dsimp [h0, h2, h3, h4, h5, h6, S, I, hi, hi2, set_ne, q01, q10]
      refine vdraw_tree [0, 1, 3, 0, 8, 24, 0, 64, 192, 511, 0, 2047] (.rd 0 (.rd 1 (.rd 2 (.rd 3 (.rd 4 (.rd 5 (.rd 6 (.rd 7 (.rd 8 (.rd 9 (.wr (.cons 10 (.wr (.cons 11 (.fin) (.nil))) (.nil))))))))))))) (by kernel_rfl) (by kernel_rfl) ?_
      simp -dsimp [h0, h2, h3, h4, h5, h6, S, I, hi, hi2, set_ne, q01, q10, q02, q12, q20, q21]
      have hc0 := fun m n => cRMayV ⟨a, b, c⟩ m n
      have hp0 := fun h m n => cRPrintV ⟨a, b, c⟩ h m n
      simp only [verD, I] at hc0 hp0
      refine aCall_of (hc0 _ _) ?_
      rintro d m' n' ⟨rfl, rfl, rfl⟩
      cases hm : mayV ⟨a, b, c⟩ with
      | false =>
        simp -dsimp [S, I, Tt, set_ne, q01, q10, q02, q12, q20, q21]
        refine hq ⟨by simp [verR, I, Tt], fun j hj => ?_⟩
        have j0 : j ≠ n := by omega
        have j1 : j ≠ n + 1 := by omega
        have j2 : j ≠ n + 1 + 1 := by omega
        simp [set_ne, j0, j1, j2]
      | true =>
        simp -dsimp [S, I, Tt, set_ne, q01, q10, q02, q12, q20, q21]
        refine aCall_of (hp0 hm _ _) ?_
        rintro d m' n' ⟨rfl, rfl, rfl⟩
        by_cases ht : textV ⟨a, b, c⟩ = s
        · have ht' : (textV ⟨a, b, c⟩ == s) = true := by simp [ht]
          simp -dsimp [h0, S, I, Tt, ht', set_ne, q01, q10, q02, q12, q20, q21]
          refine hq ⟨by simp [verR, verD, I, Tt, ht], fun j hj => ?_⟩
          have j0 : j ≠ n := by omega
          have j1 : j ≠ n + 1 := by omega
          have j2 : j ≠ n + 1 + 1 := by omega
          simp [set_ne, j0, j1, j2]
        · have ht' : (textV ⟨a, b, c⟩ == s) = false := by simpa using ht
          simp -dsimp [h0, S, I, Tt, ht', set_ne, q01, q10, q02, q12, q20, q21]
          refine hq ⟨by simp [verR, I, Tt, ht], fun j hj => ?_⟩
          have j0 : j ≠ n := by omega
          have j1 : j ≠ n + 1 := by omega
          have j2 : j ≠ n + 1 + 1 := by omega
          simp [set_ne, j0, j1, j2]
  · rintro d m' n' ⟨rfl, h⟩
    cases parseR s with
    | none => exact ⟨_, pub_pair (Pur.agg (by intro d hd; simp at hd; subst hd; exact pur_I _)).pub (pur_T _).pub, h, rfl⟩
    | some v => exact ⟨_, pub_pair (Pur.agg (by intro d hd; simp [verD] at hd; rcases hd with rfl | rfl | rfl <;> exact pur_I _)).pub (pur_T _).pub, h, rfl⟩
end Go.Proofs.Mv.App
