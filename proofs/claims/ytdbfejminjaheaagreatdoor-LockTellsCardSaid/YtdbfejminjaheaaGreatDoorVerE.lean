/- A part of the proofs of the seat YtdbfejminjaheaaGreatDoor: the abstract machine, the contracts of the functions, the laws. No condition of its own. -/
import Derived.Test.YtdbfejminjaheaaGreatDoorLibC
set_option linter.unusedSimpArgs false
set_option linter.unusedVariables false
set_option linter.unusedSectionVars false
open Go Go.Proofs Go.Proofs.Mv.V
set_option maxRecDepth 10000
namespace Go.Proofs.Mv.App
def vpD : Option Ver → D
  | some v => .tup [.agg (verD v), nilE]
  | none => .tup [.agg [I 0, I 0, I 0], code 2]
set_option maxHeartbeats 4000000 in
theorem cVParse (hM : ∀ {w : World} {F : Nat → Prop}, GI.inv w F → ∃ x : Int, w.cell? ⟨2, 0, none⟩ = some (.int .i64 x)) (s : List UInt8) (hs : s.length ≤ 4000000000) (m : Mem) (n : Nat) :
    ACalls Tryz.prog 54 [S s] m n (fun d m' n' => d = vpD (parseR s) ∧ m' = m ∧ n' = n) := by
  rw [← parse_eq]
  refine acalls_done (R' := Hq (fun d m' n' => d = vpD (parseP s) ∧ ∀ j, j < n → m' j = m j) tg) ?_ ?_
  · have q01 : n ≠ n + 1 := by omega
    have q10 : n + 1 ≠ n := by omega
    have hsp := fun m n => cSplit hM s hs m n
    have hP : parseP s = match splitD s with
      | [x, y, z] => if mayV ⟨partF x, partF y, partF z⟩ then some ⟨partF x, partF y, partF z⟩ else none
      | _ => none := rfl
    generalize splitD s = L at hsp hP
    have hlen : (L.map fun s => [S s]).length = L.length := by simp
    simp only [S] at hsp
    refine acalls_vcC [0, 2, 3, 4, 5, 10, 28] Tryz.func54 Tryz.ntmps54 (by kernel_rfl) rfl rfl (by simp) ?_
    simp -dsimp [S]
    refine aCall_of (hsp _ _) ?_
    rintro d m' n' ⟨rfl, rfl, rfl⟩
    by_cases h3 : L.length = 3
    · obtain ⟨x, y, z, rfl⟩ : ∃ x y z, L = [x, y, z] := by
        match L, h3 with
        | [x, y, z], _ => exact ⟨x, y, z, rfl⟩
      simp only at hP
      have c1 := fun m n => cVNumber x m n
      have c2 := fun m n => cVNumber y m n
      have c3 := fun m n => cVNumber z m n
      generalize partF x = X at c1 hP
      generalize partF y = Y at c2 hP
      generalize partF z = Z at c3 hP
      have hc0 := fun m n => cMayV ⟨X, Y, Z⟩ m n
      simp only [verD, I] at hc0
      simp -dsimp [S, sl1]
      refine vdraw_tree [0, 1, 3, 7, 0, 16, 48, 127, 0, 256, 768, 2047, 4095, 0, 16383] (.rd 0 (.rd 1 (.rd 2 (.rd 4 (.rd 5 (.rd 6 (.rd 8 (.rd 9 (.rd 10 (.wr (.cons 3 (.wr (.cons 7 (.wr (.cons 11 (.rd 12 (.wr (.cons 13 (.wr (.cons 14 (.fin) (.nil))) (.nil)))) (.cons 13 (.wr (.cons 11 (.rd 12 (.wr (.cons 14 (.fin) (.nil)))) (.nil))) (.nil)))) (.cons 13 (.wr (.cons 7 (.wr (.cons 11 (.rd 12 (.wr (.cons 14 (.fin) (.nil)))) (.nil))) (.nil))) (.nil)))) (.cons 13 (.wr (.cons 3 (.wr (.cons 7 (.wr (.cons 11 (.rd 12 (.wr (.cons 14 (.fin) (.nil)))) (.nil))) (.nil))) (.nil))) (.nil))))))))))))) (by kernel_rfl) (by kernel_rfl) ?_
      simp -dsimp [S, sl1]
      repeat' (with_reducible apply And.intro)
      all_goals (first | refine aCall_of (c1 _ _) ?_ | refine aCall_of (c2 _ _) ?_ | refine aCall_of (c3 _ _) ?_)
      all_goals (rintro d m' n' ⟨rfl, rfl, rfl⟩; simp -dsimp [S, I, sl1, set_ne, q01, q10])
      all_goals (repeat' (with_reducible apply And.intro))
      all_goals (first | refine aCall_of (c1 _ _) ?_ | refine aCall_of (c2 _ _) ?_ | refine aCall_of (c3 _ _) ?_)
      all_goals (rintro d m' n' ⟨rfl, rfl, rfl⟩; simp -dsimp [S, I, sl1, set_ne, q01, q10])
      all_goals (repeat' (with_reducible apply And.intro))
      all_goals (first | refine aCall_of (c1 _ _) ?_ | refine aCall_of (c2 _ _) ?_ | refine aCall_of (c3 _ _) ?_)
      all_goals (rintro d m' n' ⟨rfl, rfl, rfl⟩; simp -dsimp [S, I, sl1, set_ne, q01, q10])
      all_goals (repeat' (with_reducible apply And.intro))
      all_goals (refine aCall_of (hc0 _ _) ?_)
      all_goals (rintro d m' n' ⟨rfl, rfl, rfl⟩)
      all_goals (cases hm : mayV ⟨X, Y, Z⟩)
      all_goals (simp -dsimp [S, I, Tt, sl1, set_ne, q01, q10])
      all_goals (refine hq ⟨by rw [hP]; simp [vpD, hm, verD, I, code, nilE], fun j hj => ?_⟩)
      all_goals (rw [set_ne _ _ _ _ (by omega), set_ne _ _ _ _ (by omega), set_ne _ _ _ _ (by omega)])
    · have h3' : ((L.length : Int) != 3) = true := by simp; omega
      have hP2 : parseP s = none := by
        rw [hP]
        match L, h3 with
        | [], _ => rfl
        | [_], _ => rfl
        | [_, _], _ => rfl
        | [_, _, _], h => exact absurd rfl h
        | _ :: _ :: _ :: _ :: _, _ => rfl
      rw [hP2]
      simp -dsimp [S, sl1, hlen, h3', I, set_ne]
      exact hq ⟨by simp [vpD, I, code], fun j hj => set_ne _ _ _ _ (by omega)⟩
  · rintro d m' n' ⟨rfl, h⟩
    cases parseP s with
    | none => exact ⟨_, pub_pair (Pur.agg (by intro d hd; simp at hd; subst hd; exact pur_I _)).pub (pur_code _).pub, h, rfl⟩
    | some v => exact ⟨_, pub_pair (Pur.agg (by intro d hd; simp [verD] at hd; rcases hd with rfl | rfl | rfl <;> exact pur_I _)).pub pur_nilE.pub, h, rfl⟩
end Go.Proofs.Mv.App
