/- A part of the proofs of the seat YtdbfejminjaheaaGreatDoor: the abstract machine, the contracts of the functions, the laws. No condition of its own. -/
import Derived.Test.YtdbfejminjaheaaGreatDoorVerE
import Derived.Test.YtdbfejminjaheaaGreatDoorTy
set_option linter.unusedSimpArgs false
set_option linter.unusedVariables false
set_option linter.unusedSectionVars false
open Go Go.Proofs Go.Proofs.Mv.V
set_option maxRecDepth 10000
namespace Go.Proofs.Mv.App
structure LjInv (l : List Tok) (TL : List (List D)) (m : Mem) (n : Nat) (i : Nat) (σ : Nat → D) (m2 : Mem) (n2 : Nat) : Prop where
  h6 : σ 6 = .sl 3 TL
  h7 : σ 7 = I l.length
  h8 : σ 8 = I i
  le : i ≤ l.length
  nn : n ≤ n2
  fr : ∀ j, j < n → m2 j = m j
  ls : Lst m2 1 (((l.take i).map (·.text)).map fun s => [S s]) (σ 3)
  kf : ∀ k, kof (σ 3) = some k → n ≤ k ∧ k < n2
set_option maxHeartbeats 2000000 in
theorem cLexJoin {l : List Tok} (hl : l.length ≤ 1000000) (hj : (joinB [32] (l.map (·.text))).length ≤ 140737488355328) (m : Mem) (n : Nat) :
    ACalls Tryz.prog 105 [toksD l] m n (fun d m' n' => d = S (joinB [32] (l.map (·.text))) ∧ m' = m ∧ n' = n) := by
  refine acalls_done (R' := Hq (fun d m' n' => d = S (joinB [32] (l.map (·.text))) ∧ ∀ j, j < n → m' j = m j) tg) ?_ ?_
  · have hT : toksD l = .sl 3 (l.map tokD) := rfl
    rw [hT]
    have hL2 : (l.map tokD).length = l.length := by simp
    have hG2 : ∀ i (h : i < l.length), (l.map tokD)[i]? = some (tokD l[i]) := fun i h => by simp [h]
    generalize l.map tokD = TL at hL2 hG2
    refine acalls_vc [0, 2, 3, 5, 6, 7, 8, 9] Tryz.func105 Tryz.ntmps105 (by kernel_rfl) rfl rfl (by simp) ?_
    simp -dsimp [I, hL2]
    refine vloop_of (β := Nat) (LjInv l TL m n) (fun i => l.length - i) 0 ⟨by simp, by simp [I], by simp [I], by omega, Nat.le_refl _, fun _ _ => rfl, by simpa using Lst.nil, by simp [kof]⟩ ?_
    rintro i σ m2 n2 ⟨h6, h7, h8, le, nn, fr, ls, kf⟩
    generalize hd3 : σ 3 = d3 at ls kf
    by_cases hi : (i : Int) < l.length
    · have hi' : i < l.length := by omega
      have wi : IntKind.i64.wrap ((i : Int) + 1) = (i : Int) + 1 := wrap_i64 (by omega) (by omega)
      have hiN : i < TL.length := by omega
      have hgi : TL[i] = tokD l[i] := get_opt (hG2 i hi') hiN
      have him : tokD l[i] = [I l[i].kind, I l[i].at_, S l[i].text] := rfl
      simp -dsimp [h6, h7, h8, hd3, I, S, hi, hi', hiN, hgi, him, hL2]
      have hR : ∀ (o o' : V.Obj) (j : Nat), j < n2 → ((m2.set n2 o).set (n2 + 1) o') j = m2 j := fun o o' j hj => by rw [set_ne _ _ _ _ (by omega), set_ne _ _ _ _ (by omega)]
      refine b4_append (ls.frame fun j hj => hR _ _ j (by have := kf j hj; omega)) (fun j hj => by have := kf j hj; omega) trivial trivial (by omega) (by simp; omega) ?_
      intro d5 m5 n5 p1 p2 p3 p4
      have hkd : ∀ j, kof d5 = some j → n ≤ j ∧ j < n5 := fun j hj => by
        have h := p3 j hj
        rcases h.2 with e | e
        · have := kf j e; omega
        · omega
      simp -dsimp [h6, h7, h8, I, S, wi]
      refine ⟨i + 1, by omega, by simp, by simp [I], by simp [I], by omega, by omega, fun j hj => ?_, ?_, by simpa using hkd⟩
      · rw [p4 j (by omega) (fun e => by have := kf j e; omega), hR _ _ _ (by omega)]; exact fr j hj
      · rw [take_snoc hi', List.map_append, List.map_append]
        simpa [S] using p1
    · have : i = l.length := by omega
      subst this
      rw [List.take_length] at ls
      simp -dsimp [h6, h7, h8, hd3, I, S, hi]
      refine aCall_of (cJoin ls [32] (by rw [List.length_map]; omega) hj _) ?_
      rintro d m3 n3 ⟨rfl, rfl, rfl⟩
      simp -dsimp [S]
      exact hq ⟨rfl, fr⟩
  · rintro d m' n' ⟨rfl, h⟩
    exact ⟨_, (pur_S _).pub, h, rfl⟩
end Go.Proofs.Mv.App
