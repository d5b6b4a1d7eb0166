/- A part of the proofs of the seat YtdbfejminjaheaaGreatDoor: the abstract machine, the contracts of the functions, the laws. No condition of its own. -/
import Derived.Test.YtdbfejminjaheaaGreatDoorVerB
import Derived.Test.YtdbfejminjaheaaGreatDoorDecF
set_option linter.unusedSimpArgs false
set_option linter.unusedVariables false
set_option linter.unusedSectionVars false
open Go Go.Proofs Go.Proofs.Mv.V
set_option maxRecDepth 10000
namespace Go.Proofs.Mv.App
def okNum (s : List UInt8) : Bool := decide (1 ≤ s.length) && decide (s.length ≤ 9) && !(decide (1 < s.length) && decide (s.head? = some 48)) && s.all isDigit
def partF (s : List UInt8) : Int := if okNum s then (decF s : Int) else -1
structure NbInv (s : List UInt8) (m : Mem) (n : Nat) (i : Nat) (σ : Nat → D) (m2 : Mem) (n2 : Nat) : Prop where
  h0 : σ 0 = S s
  h3 : σ 3 = I (decF (s.take i))
  h23 : σ 23 = I s.length
  h24 : σ 24 = I i
  le : i ≤ s.length
  al : (s.take i).all isDigit = true
  mm : m2 = m
  nn : n2 = n
set_option maxHeartbeats 2000000 in
theorem cVNumber (s : List UInt8) (m : Mem) (n : Nat) : ACalls Tryz.prog 103 [S s] m n (fun d m' n' => d = I (partF s) ∧ m' = m ∧ n' = n) := by
  refine acalls_done (R' := Hq (fun d m' n' => d = I (partF s) ∧ ∀ j, j < n → m' j = m j) tg) ?_ ?_
  · refine acalls_vc [0, 2, 3, 4, 21, 23, 24, 25, 36] Tryz.func103 Tryz.ntmps103 (by kernel_rfl) rfl rfl (by simp) ?_
    by_cases e0 : s = []
    · subst e0
      simp -dsimp [S, I]
      exact hq ⟨by simp [I, partF, okNum], fun _ _ => rfl⟩
    have e0' : (s == []) = false := by simpa using e0
    have i0' : s.isEmpty = false := by simpa using e0
    have hpos : 0 < s.length := List.length_pos_iff.2 e0
    have hpos' : (0 : Int) < s.length := by omega
    by_cases l9 : (9 : Int) < s.length
    · have l9' : 9 < s.length := by omega
      simp -dsimp [S, I, e0', i0', l9, l9']
      exact hq ⟨by simp [I, partF, okNum, show ¬ s.length ≤ 9 by omega], fun _ _ => rfl⟩
    have l9' : ¬ 9 < s.length := by omega
    have hhd : s.head? = some s[0] := by cases s with | nil => exact absurd rfl e0 | cons a b => rfl
    have go : ∀ (hz : 1 < s.length → s.head? ≠ some 48), s.all isDigit = true → partF s = decF s := fun hz h => by
      have : okNum s = true := by
        unfold okNum
        rw [h]
        by_cases e : 1 < s.length
        · simp [hz e, show 1 ≤ s.length by omega, show s.length ≤ 9 by omega]
        · simp [e, show 1 ≤ s.length by omega, show s.length ≤ 9 by omega]
      unfold partF; rw [if_pos this]
    have bad : ∀ i (h : i < s.length), isDigit s[i] = false → partF s = -1 := fun i h hd => by
      have : okNum s = false := by
        have : s.all isDigit = false := by rw [List.all_eq_false]; exact ⟨_, List.getElem_mem h, by simp [hd]⟩
        unfold okNum; rw [this]; simp
      unfold partF; rw [if_neg (by simp [this])]
    have walk : True := trivial
    by_cases l1 : (1 : Int) < s.length
    case' pos =>
      have l1' : 1 < s.length := by omega
      by_cases u3 : s[0].toNat = 48
      case' pos =>
        have hy : s[0] = 48 := UInt8.toNat_inj.1 u3
        simp -dsimp [S, I, e0', i0', l9, l9', l1, l1', hpos, hpos', u3]
        exact hq ⟨by simp [I, partF, okNum, hhd, hy, l1'], fun _ _ => rfl⟩
      case' neg =>
        have u3' : ((s[0].toNat : Int) == 48) = false := by simp; omega
        have hz : 1 < s.length → s.head? ≠ some 48 := fun _ => by rw [hhd]; intro e; exact u3 (by rw [Option.some.inj e]; rfl)
        simp -dsimp [S, I, e0', i0', l9, l9', l1, l1', hpos, hpos', u3, u3']
    case' neg =>
      have l1' : ¬ 1 < s.length := by omega
      have hz : 1 < s.length → s.head? ≠ some 48 := fun h => absurd h l1'
      simp -dsimp [S, I, e0', i0', l9, l9', l1, l1', hpos, hpos']
    all_goals
      refine vloop_of (β := Nat) (NbInv s m n) (fun i => s.length - i) 0 ⟨by simp [S], by simp [I, decF], by simp [I], by simp [I], by omega, by simp, rfl, rfl⟩ ?_
      rintro i σ m2 n2 ⟨h0, h3, h23, h24, le, al, rfl, rfl⟩
      have wi : IntKind.i64.wrap ((i : Int) + 1) = (i : Int) + 1 := wrap_i64 (by omega) (by omega)
      by_cases hi : i < s.length
      · have hi2 : (i : Int) < s.length := by omega
        have hsm := decF_small al (by simp; omega)
        have hxlt := s[i].toNat_lt
        have htk : s.take (i + 1) = s.take i ++ [s[i]] := List.take_succ_eq_append_getElem hi
        have hb := bad i hi
        by_cases c1 : (s[i].toNat : Int) < 48
        · have c1' : s[i].toNat < 48 := by omega
          simp -dsimp [h0, h3, h23, h24, S, I, hi, hi2, c1, c1']
          exact hq ⟨by rw [hb (by simp [isDigit]; omega)]; rfl, fun _ _ => rfl⟩
        have c1' : ¬ s[i].toNat < 48 := by omega
        by_cases c2 : (57 : Int) < (s[i].toNat : Int)
        · have c2' : 57 < s[i].toNat := by omega
          simp -dsimp [h0, h3, h23, h24, S, I, hi, hi2, c1, c1', c2, c2']
          exact hq ⟨by rw [hb (by simp [isDigit]; omega)]; rfl, fun _ _ => rfl⟩
        have c2' : ¬ 57 < s[i].toNat := by omega
        have w0 : ((byt ((s[i].toNat : Int) - 48)).toNat : Int) = (s[i].toNat : Int) - 48 := by
          unfold byt; rw [UInt8.toNat_ofNat']; omega
        have w1 : IntKind.i64.wrap (10 * (decF (s.take i) : Int)) = 10 * (decF (s.take i) : Int) := wrap_i64 (by omega) (by omega)
        have w2 : IntKind.i64.wrap (10 * (decF (s.take i) : Int) + ((s[i].toNat : Int) - 48)) = 10 * (decF (s.take i) : Int) + ((s[i].toNat : Int) - 48) := wrap_i64 (by omega) (by omega)
        have w4 : IntKind.i64.wrap ((s[i].toNat : Int) - 48) = (s[i].toNat : Int) - 48 := wrap_i64 (by omega) (by omega)
        simp -dsimp [h0, h3, h23, h24, S, I, hi, hi2, c1, c1', c2, c2', w0, w1, w2, w4, wi]
        exact ⟨i + 1, by omega, by simp [S], by rw [htk, decF_snoc]; simp [I]; omega, by simp [I], by simp [I], by omega, by rw [htk, List.all_append, al]; simp [isDigit]; omega, rfl, rfl⟩
      · have hi2 : ¬ (i : Int) < s.length := by omega
        have e : s.take i = s := List.take_of_length_le (by omega)
        rw [e] at h3 al
        simp -dsimp [h0, h3, h23, h24, S, I, hi, hi2]
        exact hq ⟨by rw [go hz al]; rfl, fun _ _ => rfl⟩
  · rintro d m' n' ⟨rfl, h⟩
    exact ⟨_, (pur_I _).pub, h, rfl⟩
end Go.Proofs.Mv.App
