/- A part of the proofs: machine, contracts, laws. No condition of its own. -/
import Derived.Test.YtihbegkefjjhpaaGreatDoorP13
import Derived.Test.YtihbegkefjjhpaaGreatDoorP03
import Derived.Test.YtihbegkefjjhpaaGreatDoorP12
set_option linter.unusedSimpArgs false
set_option linter.unusedVariables false
set_option linter.unusedSectionVars false
open Go Go.Proofs Go.Proofs.Mv.V
set_option maxRecDepth 10000
namespace Go.Proofs.Mv.App
set_option maxHeartbeats 4000000 in
theorem cTyp {l : List Tok} (hl : TkOk l) {r : Nat} (hr : r ≤ 32) (IH : ∀ r', r = r' + 1 → TypC l r') : TypC l r := by
 intro p k m n hk hm
 refine acalls_ty hk ?_
 have kn : k ≠ n := by omega
 have nk : n ≠ k := by omega
 have kn1 : k ≠ n + 1 := by omega
 have n1k : n + 1 ≠ k := by omega
 have nn1 : n ≠ n + 1 := by omega
 have n1n : n + 1 ≠ n := by omega
 have hkn2 : k < n + 1 + 1 := by omega
 obtain ⟨kd, a, tx, hp⟩ := pk_of hl p
 have hbeg := hp.beg
 have hlen := hp.len
 obtain ⟨dpt, hd⟩ : ∃ x : Int, x = 33 - r := ⟨_, rfl⟩
 rw [← hd]
 refine acalls_vcC [0, 1, 4, 5, 6, 7, 8, 11, 18, 40, 63, 64, 77, 82, 87, 92, 112] Tryz.func178 Tryz.ntmps178 (by kernel_rfl) rfl rfl (by simp) ?_
 simp -dsimp [I]
 refine aCall_of (cPeek (by omega) (by rw [set_ne _ _ _ _ kn]; exact hm)) ?_
 rintro d m' n' ⟨rfl, rfl, rfl⟩
 rw [hp.pk]
 simp -dsimp [I]
 refine aCall_of (cBegins kd a tx (by omega) _ _) ?_
 rintro d m' n' ⟨rfl, rfl, rfl⟩
 rw [← hbeg]
 have frame : ∀ (M : Mem), (∀ j, j < n → j ≠ k → M j = m j) → ∀ o, ∀ j, j < n → j ≠ k → (M.set k o) j = m j := fun M h o j hj hjk => by rw [set_ne _ _ _ _ hjk]; exact h j hj hjk
 cases hb : begF l p
 case false =>
  simp -dsimp [Tt, hb]
  refine aCall_of (cFail (l := l) (p := p) 2 (by omega) hkn2 (by simp [set_ne, kn, kn1, hm])) ?_
  rintro d m' n' ⟨rfl, rfl, rfl⟩
  rw [typF_nob hb]
  simp -dsimp [I, S, set_ne, kn, nk, kn1, n1k, nn1, n1n]
  refine tyq Ty0 (pub_build 0 [] 0 [] []) (fun _ => rfl) (by simp [set_ne, kn]) fun j hj hjk => ?_
  rw [set_ne _ _ _ _ (by omega), set_ne _ _ _ _ hjk, set_ne _ _ _ _ (by omega), set_ne _ _ _ _ (by omega)]
 have hcur : cur l p = some ⟨kd, a, tx⟩ := by
  rcases hp.cu with ⟨h, _⟩ | h
  ·simp [begF, h] at hb
  ·exact h
 obtain ⟨hbd, hat, _⟩ := cur_some hcur
 have hbt : begT ⟨kd, a, tx⟩ = true := by rw [← hbeg]; exact hb
 by_cases hlg : 32 < dpt
 ·have hr0 : r = 0 := by omega
  simp -dsimp [Tt, hb, hlg]
  refine aCall_of (cFail (l := l) (p := p) 3 (by omega) hkn2 (by simp [set_ne, kn, kn1, hm])) ?_
  rintro d m' n' ⟨rfl, rfl, rfl⟩
  rw [typF_large hb (.inl hr0)]
  simp -dsimp [I, S, set_ne, kn, nk, kn1, n1k, nn1, n1n]
  refine tyq Ty0 (pub_build 0 [] 0 [] []) (fun _ => rfl) (by simp [set_ne, kn]) fun j hj hjk => ?_
  rw [set_ne _ _ _ _ (by omega), set_ne _ _ _ _ hjk, set_ne _ _ _ _ (by omega), set_ne _ _ _ _ (by omega)]
 by_cases hct : 500 ≤ (p.cnt : Int)
 ·have hct' : 500 ≤ p.cnt := by omega
  simp -dsimp [Tt, hb, hlg, set_ne, kn, kn1, hm, pObj, pC, I, hct, hct']
  refine aCall_of (cFail (l := l) (p := p) 3 (by omega) hkn2 (by simp [set_ne, kn, kn1, hm])) ?_
  rintro d m' n' ⟨rfl, rfl, rfl⟩
  rw [typF_large hb (.inr hct')]
  simp -dsimp [I, S, set_ne, kn, nk, kn1, n1k, nn1, n1n]
  refine tyq Ty0 (pub_build 0 [] 0 [] []) (fun _ => rfl) (by simp [set_ne, kn]) fun j hj hjk => ?_
  rw [set_ne _ _ _ _ (by omega), set_ne _ _ _ _ hjk, set_ne _ _ _ _ (by omega), set_ne _ _ _ _ (by omega)]
 have hct' : ¬ 500 ≤ p.cnt := by omega
 obtain ⟨r', rfl⟩ : ∃ r', r = r' + 1 := ⟨r - 1, by omega⟩
 have H : TypC l r' := IH r' rfl
 rw [typF_step hcur hbt (by omega)]
 have hd' : dpt = 32 - r' := by omega
 have wd : IntKind.i64.wrap (dpt + 1) = 33 - r' := by rw [wrap_i64 (by omega) (by omega)]; omega
 have wc : IntKind.i64.wrap ((p.cnt : Int) + 1) = (p.cnt : Int) + 1 := wrap_i64 (by omega) (by omega)
 have wa := wrap_at hl hat
 have hp1 := cnt_obj (l := l) hbd
 have hb1 : (⟨p.at_ + 1, p.cnt + 1, p.bad⟩ : PS).bad = 0 := hbd
 generalize hpp : (⟨p.at_ + 1, p.cnt + 1, p.bad⟩ : PS) = p1 at hp1 hb1 ⊢
 have fr : ∀ j, j < n → j ≠ k → j ≠ n ∧ j ≠ n + 1 ∧ j ≠ n + 1 + 1 ∧ j ≠ n + 1 + 1 + 1 := fun j h1 h2 => by omega
 have kn2 : k ≠ n + 1 + 1 := by omega
 have n2k : n + 1 + 1 ≠ k := by omega
 have n2n : n + 1 + 1 ≠ n := by omega
 have nn2 : n ≠ n + 1 + 1 := by omega
 have n21 : n + 1 + 1 ≠ n + 1 := by omega
 have n12 : n + 1 ≠ n + 1 + 1 := by omega
 have kn3 : k ≠ n + 1 + 1 + 1 := by omega
 have n3k : n + 1 + 1 + 1 ≠ k := by omega
 have n3n : n + 1 + 1 + 1 ≠ n := by omega
 have nn3 : n ≠ n + 1 + 1 + 1 := by omega
 have n23 : n + 1 + 1 ≠ n + 1 + 1 + 1 := by omega
 have n32 : n + 1 + 1 + 1 ≠ n + 1 + 1 := by omega
 have hkn3 : k < n + 1 + 1 + 1 := by omega
 by_cases k1 : kd = 1
 ·simp -dsimp [Tt, hb, hlg, set_ne, kn, nk, kn1, n1k, nn1, n1n, hm, pObj, pC, errD, hbd, nilE, I, hct, hct', wc, wa, k1]
  rw [hp1]
  refine aCall_of (cMust hl [46] (p := p1) hkn2 (by simp)) ?_
  rintro d m' n' ⟨rfl, rfl, rfl⟩
  simp -dsimp [set_ne, kn, nk, kn1, n1k, nn1, n1n]
  refine vdraw_of [0, 1, 0, 4, 15, 31] [0, 1, 2, 3, 4, 5] (by kernel_rfl) (by kernel_rfl) ?_
  simp -dsimp [set_ne, kn, nk, kn1, n1k, nn1, n1n]
  refine aCall_of (cName hl true 158 (fun s hs => cGreat s (by omega)) (p := mustF [46] l p1) hkn2 (by simp)) ?_
  rintro d m' n' ⟨rfl, rfl, rfl⟩
  simp -dsimp [set_ne, kn, nk, kn1, n1k, nn1, n1n, I, S]
  refine tyq (localT tx (nameF true l (mustF [46] l p1)).1) (pub_build 8 [] 0 tx _) (fun _ => by simp [bodyF, k1]) (by simp [bodyF, k1, set_ne, kn]) fun j hj hjk => ?_
  obtain ⟨j1, j2, j3, j4⟩ := fr j hj hjk
  simp [set_ne, j1, j2, j3, j4, hjk]
 have k1' : (kd == 1) = false := by simp [k1]
 have hbody : bodyF l ⟨kd, a, tx⟩ (typF l r') p1 = (if tx = wList then listF l (typF l r') p1 else if tx = [123] then partsF l false (typF l r') p1 else if tx = [91] then partsF l true (typF l r') p1
   else if tx = [40] then funcF l (typF l r') p1 else if tx = [60] then openF l p1 else if 0 < baseN tx then (.mk (baseN tx) [] 0 [] [] [] [], p1) else (localT [] tx, p1)) := by
  simp only [bodyF]; rw [if_neg k1]
 rw [hbody]
 by_cases tL : tx = wList
 ·have tL' : (tx == [76, 105, 115, 116]) = true := by simp [tL, wList]
  rw [if_pos tL]
  simp -dsimp [Tt, hb, hlg, set_ne, kn, nk, kn1, n1k, nn1, n1n, hm, pObj, pC, errD, hbd, nilE, I, hct, hct', wc, wa, k1', S, tL']
  rw [hp1]
  refine aCall_of (cMust hl [40] (p := p1) hkn2 (by simp)) ?_
  rintro d m' n' ⟨rfl, rfl, rfl⟩
  simp -dsimp [set_ne, kn, nk, kn1, n1k, nn1, n1n, wd]
  refine aCall_of (H (mustF [40] l p1) k _ _ hkn2 (by simp)) ?_
  rintro d m' n' ⟨⟨t', rfl, ht'⟩, rfl, rfl⟩
  simp -dsimp [set_ne, kn, nk, kn1, n1k, nn1, n1n, kn2, n2k, n2n, nn2, n21, n12]
  refine aCall_of (cMust hl [41] (p := (typF l r' (mustF [40] l p1)).2) hkn3 (by simp [set_ne, kn2])) ?_
  rintro d m' n' ⟨rfl, rfl, rfl⟩
  simp -dsimp [set_ne, kn, nk, kn1, n1k, nn1, n1n, kn2, n2k, n2n, nn2, n21, n12, kn3, n3k, n3n, nn3, n23, n32]
  refine tyq (.mk 4 [] 0 [] [] [] [t']) ?_ (fun e => by have := ht' (mustF_keep e); simp [listF, this]) (by simp [listF, set_ne, kn, kn3]) fun j hj hjk => ?_
  ·simp only [tyD]
   refine .agg (.cons (pur_I _).pub (.cons (pur_S _).pub (.cons (pur_I _).pub (.cons (pur_S _).pub (.cons (pur_S _).pub (.cons (pub_nil 1) (.cons ?_ .nil)))))))
   rw [tysD_eq]
   refine .lstP (z := 7) (Lst.own (k := n + 1 + 1 + 1) (g := 0) (es := [tyD t']) (by simp [set_ne, n3n])) (fun j hj => by simp at hj; omega) (by simpa using pur_ty t')
  ·obtain ⟨j1, j2, j3, j4⟩ := fr j hj hjk
   simp [set_ne, j1, j2, j3, j4, hjk]
 have tL' : (tx == [76, 105, 115, 116]) = false := by simpa [wList] using tL
 rw [if_neg tL]
 by_cases t1 : tx = [123]
 ·have t1' : (tx == [123]) = true := by simp [t1]
  rw [if_pos t1]
  simp -dsimp [Tt, hb, hlg, set_ne, kn, nk, kn1, n1k, nn1, n1n, hm, pObj, pC, errD, hbd, nilE, I, hct, hct', wc, wa, k1', S, tL', t1']
  rw [hp1]
  have hN := fun (M : Mem) (h : M k = some (pObj l p1)) => cNamed hl false (by omega) H hkn2 h hb1
  rw [← hd'] at hN
  refine aCall_of (hN _ (by simp)) ?_
  rintro d m' n' ⟨⟨t', rfl, ht'⟩, rfl, rfl⟩
  simp -dsimp [set_ne, kn, nk, kn1, n1k, nn1, n1n]
  refine tyq t' (pur_tyA t').pub ht' (by simp [set_ne, kn]) fun j hj hjk => ?_
  obtain ⟨j1, j2, j3, j4⟩ := fr j hj hjk
  simp [set_ne, j1, j2, j3, j4, hjk]
 have t1' : (tx == [123]) = false := by simp [t1]
 rw [if_neg t1]
 by_cases t2 : tx = [91]
 ·have t2' : (tx == [91]) = true := by simp [t2]
  rw [if_pos t2]
  simp -dsimp [Tt, hb, hlg, set_ne, kn, nk, kn1, n1k, nn1, n1n, hm, pObj, pC, errD, hbd, nilE, I, hct, hct', wc, wa, k1', S, tL', t1', t2']
  rw [hp1]
  have hN := fun (M : Mem) (h : M k = some (pObj l p1)) => cNamed hl true (by omega) H hkn2 h hb1
  rw [← hd'] at hN
  refine aCall_of (hN _ (by simp)) ?_
  rintro d m' n' ⟨⟨t', rfl, ht'⟩, rfl, rfl⟩
  simp -dsimp [set_ne, kn, nk, kn1, n1k, nn1, n1n]
  refine tyq t' (pur_tyA t').pub ht' (by simp [set_ne, kn]) fun j hj hjk => ?_
  obtain ⟨j1, j2, j3, j4⟩ := fr j hj hjk
  simp [set_ne, j1, j2, j3, j4, hjk]
 have t2' : (tx == [91]) = false := by simp [t2]
 rw [if_neg t2]
 by_cases t3 : tx = [40]
 ·have t3' : (tx == [40]) = true := by simp [t3]
  rw [if_pos t3]
  simp -dsimp [Tt, hb, hlg, set_ne, kn, nk, kn1, n1k, nn1, n1n, hm, pObj, pC, errD, hbd, nilE, I, hct, hct', wc, wa, k1', S, tL', t1', t2', t3']
  rw [hp1]
  have hN := fun (M : Mem) (h : M k = some (pObj l p1)) => cFunction hl (by omega) H hkn2 h hb1
  rw [← hd'] at hN
  refine aCall_of (hN _ (by simp)) ?_
  rintro d m' n' ⟨⟨t', rfl, ht'⟩, rfl, rfl⟩
  simp -dsimp [set_ne, kn, nk, kn1, n1k, nn1, n1n]
  refine tyq t' (pur_tyA t').pub ht' (by simp [set_ne, kn]) fun j hj hjk => ?_
  obtain ⟨j1, j2, j3, j4⟩ := fr j hj hjk
  simp [set_ne, j1, j2, j3, j4, hjk]
 have t3' : (tx == [40]) = false := by simp [t3]
 rw [if_neg t3]
 by_cases t4 : tx = [60]
 ·have t4' : (tx == [60]) = true := by simp [t4]
  rw [if_pos t4]
  simp -dsimp [Tt, hb, hlg, set_ne, kn, nk, kn1, n1k, nn1, n1n, hm, pObj, pC, errD, hbd, nilE, I, hct, hct', wc, wa, k1', S, tL', t1', t2', t3', t4']
  rw [hp1]
  refine aCall_of (cName hl false 156 (fun s hs => cSmall s (by omega)) (p := p1) hkn2 (by simp)) ?_
  rintro d m' n' ⟨rfl, rfl, rfl⟩
  simp -dsimp [set_ne, kn, nk, kn1, n1k, nn1, n1n]
  refine aCall_of (cNumber hl (p := (nameF false l p1).2) hkn2 (by simp)) ?_
  rintro d m' n' ⟨rfl, rfl, rfl⟩
  simp -dsimp [set_ne, kn, nk, kn1, n1k, nn1, n1n, kn2, n2k, n2n, nn2, n21, n12]
  refine aCall_of (cName hl false 156 (fun s hs => cSmall s (by omega)) (p := (numF l (nameF false l p1).2).2) hkn3 (by simp [set_ne, kn2])) ?_
  rintro d m' n' ⟨rfl, rfl, rfl⟩
  simp -dsimp [set_ne, kn, nk, kn1, n1k, nn1, n1n, kn2, n2k, n2n, nn2, n21, n12]
  refine aCall_of (cName hl true 158 (fun s hs => cGreat s (by omega)) (p := (nameF false l (numF l (nameF false l p1).2).2).2) hkn3 (by simp [set_ne, kn2])) ?_
  rintro d m' n' ⟨rfl, rfl, rfl⟩
  simp -dsimp [set_ne, kn, nk, kn1, n1k, nn1, n1n, kn2, n2k, n2n, nn2, n21, n12]
  refine aCall_of (cMust hl [62] (p := (nameF true l (nameF false l (numF l (nameF false l p1).2).2).2).2) hkn3 (by simp [set_ne, kn2])) ?_
  rintro d m' n' ⟨rfl, rfl, rfl⟩
  simp -dsimp [set_ne, kn, nk, kn1, n1k, nn1, n1n, kn2, n2k, n2n, nn2, n21, n12]
  refine tyq (openF l p1).1 (pub_build 9 _ _ _ _) (fun _ => rfl) (by simp [openF, set_ne, kn, kn2]) fun j hj hjk => ?_
  obtain ⟨j1, j2, j3, j4⟩ := fr j hj hjk
  simp [set_ne, j1, j2, j3, j4, hjk]
 have t4' : (tx == [60]) = false := by simp [t4]
 rw [if_neg t4]
 simp -dsimp [Tt, hb, hlg, set_ne, kn, nk, kn1, n1k, nn1, n1n, hm, pObj, pC, errD, hbd, nilE, I, hct, hct', wc, wa, k1', S, tL', t1', t2', t3', t4']
 rw [hp1]
 refine aCall_of (cBase tx _ _) ?_
 rintro d m' n' ⟨rfl, rfl, rfl⟩
 by_cases b0 : 0 < baseN tx
 ·rw [if_pos b0]
  have b0' : (0 : Int) < baseN tx := by omega
  simp -dsimp [set_ne, kn, nk, kn1, n1k, nn1, n1n, I, S, b0, b0']
  refine tyq (.mk (baseN tx) [] 0 [] [] [] []) (pub_build _ [] 0 [] []) (fun _ => rfl) (by simp [set_ne, kn]) fun j hj hjk => ?_
  obtain ⟨j1, j2, j3, j4⟩ := fr j hj hjk
  simp [set_ne, j1, j2, j3, j4, hjk]
 ·rw [if_neg b0]
  have b0' : ¬ (0 : Int) < baseN tx := by omega
  simp -dsimp [set_ne, kn, nk, kn1, n1k, nn1, n1n, I, S, b0, b0']
  refine tyq (localT [] tx) (pub_build 8 [] 0 [] tx) (fun _ => rfl) (by simp [set_ne, kn]) fun j hj hjk => ?_
  obtain ⟨j1, j2, j3, j4⟩ := fr j hj hjk
  simp [set_ne, j1, j2, j3, j4, hjk]
theorem typC {l : List Tok} (hl : TkOk l) : ∀ r, r ≤ 32 → TypC l r
 | 0, h => cTyp hl h fun r' e => by omega
 | r + 1, h => cTyp hl h fun r' e => by
  obtain rfl : r = r' := by omega
  exact typC hl r (by omega)
end Go.Proofs.Mv.App
open Go Go.Proofs Go.Proofs.Mv.V
set_option maxRecDepth 10000
namespace Go.Proofs.Mv.App
theorem cFailI [GI] {l : List Tok} (i : Int) {k : Nat} {m : Mem} {n : Nat} (hk : k < n) (hm : m k = some ⟨4, [[toksD l, I i, I 0, nilE]], 0⟩) :
  ACalls Tryz.prog 177 [.ptr k 0 0 0, I 2] m n (fun d m' n' => d = .tup [] ∧ m' = m.set k ⟨4, [[toksD l, I i, I 0, spotE i 2]], 0⟩ ∧ n' = n) := by
 have kn : k ≠ n := by omega
 have nk : n ≠ k := by omega
 refine acalls_put (R' := Hq (fun d m' n' => d = .tup [] ∧ (∃ q, n ≤ q ∧ m' k = some ⟨4, [[toksD l, I i, I 0, .iface 62 (.ptr q 0 0 0)]], 0⟩ ∧ m' q = some ⟨2, [[I i, code 2]], 0⟩) ∧ ∀ j, j < n → j ≠ k → m' j = m j) tg) k hk _ ?_ ?_
 ·refine acalls_vc [0, 1, 8] Tryz.func177 Tryz.ntmps177 (by kernel_rfl) rfl rfl (by simp) ?_
  simp -dsimp [hm, nilE, set_ne, kn, nk]
  refine hq ⟨rfl, ⟨n, Nat.le_refl _, by simp, by simp [set_ne, nk, code, I]⟩, fun j hj hjk => ?_⟩
  rw [set_ne _ _ _ _ hjk, set_ne _ _ _ _ (by omega)]
 ·rintro d m' n' ⟨rfl, ⟨q, h1, h2, h3⟩, h4⟩
  exact ⟨_, _, pur_tup0.pub, h2, .cons (.cons (pur_toks l).pub (.cons (pur_I _).pub (.cons (pur_I _).pub (.cons (.iface (.ptr h3 h1 (.cons (pur_I _).pub (.cons (pur_code _).pub .nil)))) .nil)))) .nil, h4, rfl⟩
set_option maxHeartbeats 2000000 in
theorem cAt {l : List Tok} (hl : TkOk l) (i : Int) (m : Mem) (n : Nat) : ACalls Tryz.prog 144 [toksD l, I i] m n (fun d m' n' => d = .tup [.agg (tyD (atF l i).1), I (atF l i).2.1, errO (atF l i).2.2] ∧ m' = m ∧ n' = n) := by
 refine acalls_done (R' := Hq (fun d m' n' => (∃ dt, d = .tup [dt, I (atF l i).2.1, errO (atF l i).2.2] ∧ PubAs n m' dt (.agg (tyD (atF l i).1))) ∧ ∀ j, j < n → m' j = m j) tg) ?_ ?_
 ·have hll : (l.map tokD).length = l.length := by simp
  have nn1 : n ≠ n + 1 := by omega
  have n1n : n + 1 ≠ n := by omega
  have hn1 : n + 1 < n + 1 + 1 := by omega
  have bad : i < 0 ∨ (l.length : Int) < i → atF l i = (Ty0, 0, some (i, 2)) := fun h => by rw [atF, if_pos h]
  have hT : toksD l = .sl 3 (l.map tokD) := rfl
  refine acalls_vcC [0, 1, 4, 5, 6, 7, 8, 20, 34] Tryz.func144 Tryz.ntmps144 (by kernel_rfl) rfl rfl (by simp) ?_
  by_cases h1 : i < 0
  ·rw [bad (.inl h1)]
   simp -dsimp [I, h1]
   refine aCall_of (cFailI (l := l) i hn1 (by simp [I, nilE])) ?_
   rintro d m' n' ⟨rfl, rfl, rfl⟩
   simp -dsimp [set_ne, nn1, n1n]
   refine vdraw_of [0, 0, 2, 6, 14, 1, 33, 127] [0, 1, 2, 3, 4, 5, 6, 7] (by kernel_rfl) (by kernel_rfl) ?_
   simp -dsimp [set_ne, nn1, n1n]
   refine hq ⟨⟨_, rfl, by simpa [I, S] using pub_ty0⟩, fun j hj => ?_⟩
   have j1 : j ≠ n := by omega
   have j2 : j ≠ n + 1 := by omega
   simp [set_ne, j1, j2]
  by_cases h2 : (l.length : Int) < i
  ·rw [bad (.inr h2)]
   generalize hL : l.map tokD = L at hll hT
   simp -dsimp [I, h1, hT, hll, h2]
   rw [← hT]
   refine aCall_of (cFailI (l := l) i hn1 (by simp [I, nilE])) ?_
   rintro d m' n' ⟨rfl, rfl, rfl⟩
   simp -dsimp [set_ne, nn1, n1n]
   refine vdraw_of [0, 0, 2, 6, 14, 1, 33, 127] [0, 1, 2, 3, 4, 5, 6, 7] (by kernel_rfl) (by kernel_rfl) ?_
   simp -dsimp [set_ne, nn1, n1n]
   refine hq ⟨⟨_, rfl, by simpa [I, S] using pub_ty0⟩, fun j hj => ?_⟩
   have j1 : j ≠ n := by omega
   have j2 : j ≠ n + 1 := by omega
   simp [set_ne, j1, j2]
  obtain ⟨q, hqi⟩ : ∃ q : Nat, i = q := ⟨i.toNat, by omega⟩
  subst hqi
  have hgo : atF l q = if (typF l 32 ⟨q, 0, 0⟩).2.bad ≠ 0 then (Ty0, 0, some (((typF l 32 ⟨q, 0, 0⟩).2.at_ : Int), (typF l 32 ⟨q, 0, 0⟩).2.bad)) else ((typF l 32 ⟨q, 0, 0⟩).1, (typF l 32 ⟨q, 0, 0⟩).2.at_, none) := by
   rw [atF, if_neg (by omega)]; rfl
  have h2' : ¬ l.length < q := by omega
  have hobj : (⟨4, [[toksD l, .v (.int .i64 (q : Int)), .v (.int .i64 0), .v .nilIface]], 0⟩ : V.Obj) = pObj l ⟨q, 0, 0⟩ := by simp [pObj, pC, errD, I, nilE]
  generalize hL : l.map tokD = L at hll hT
  simp -dsimp [I, h1, hT, hll, h2, h2']
  rw [← hT, hobj]
  have ht := typC hl 32 (by omega) ⟨q, 0, 0⟩ (n + 1) (m.set n ⟨7, [[D.v (.int .i64 0), .v (.string (ofL [])), .v (.int .i64 0), .v (.string (ofL [])), .v (.string (ofL [])), .v (.slice none 0 0), .v (.slice none 0 0)]], 0⟩ |>.set (n + 1) (pObj l ⟨q, 0, 0⟩)) (n + 1 + 1) hn1 (by simp)
  refine aCall_of ht ?_
  rintro d m' n' ⟨⟨t', rfl, ht'⟩, rfl, rfl⟩
  rw [hgo]
  generalize typF l 32 ⟨q, 0, 0⟩ = x at ht' ⊢
  have n2n : n + 1 + 1 ≠ n := by omega
  have nn2 : n ≠ n + 1 + 1 := by omega
  have n21 : n + 1 + 1 ≠ n + 1 := by omega
  have n12 : n + 1 ≠ n + 1 + 1 := by omega
  by_cases hb : x.2.bad = 0
  ·rw [if_neg (by simp [hb])]
   simp -dsimp [set_ne, nn1, n1n, n2n, nn2, n21, n12, pObj, pC, errD, hb, nilE, I]
   refine vdraw_of [0, 0, 2, 6, 14, 1, 63, 127] [0, 1, 2, 3, 4, 5, 6, 7] (by kernel_rfl) (by kernel_rfl) ?_
   simp -dsimp [set_ne, nn1, n1n, n2n, nn2, n21, n12, pObj, pC, errD, hb, nilE, I]
   refine hq ⟨⟨_, rfl, by rw [ht' hb]; exact (pur_tyA _).pub⟩, fun j hj => ?_⟩
   have j1 : j ≠ n := by omega
   have j2 : j ≠ n + 1 := by omega
   have j3 : j ≠ n + 1 + 1 := by omega
   simp [set_ne, j1, j2, j3]
  ·rw [if_pos (by simp [hb])]
   simp -dsimp [set_ne, nn1, n1n, n2n, nn2, n21, n12, pObj, pC, errD, hb, spotE, I]
   refine vdraw_of [0, 0, 2, 6, 14, 1, 33, 127] [0, 1, 2, 3, 4, 5, 6, 7] (by kernel_rfl) (by kernel_rfl) ?_
   simp -dsimp [set_ne, nn1, n1n, n2n, nn2, n21, n12, pObj, pC, errD, hb, spotE, I]
   refine hq ⟨⟨_, rfl, by simpa [I, S] using pub_ty0⟩, fun j hj => ?_⟩
   have j1 : j ≠ n := by omega
   have j2 : j ≠ n + 1 := by omega
   have j3 : j ≠ n + 1 + 1 := by omega
   simp [set_ne, j1, j2, j3]
 ·rintro d m' n' ⟨⟨dt, rfl, h⟩, hf⟩
  exact ⟨_, pub_three h (pur_I _).pub (pur_errO _).pub, hf, rfl⟩
end Go.Proofs.Mv.App
open Go Go.Proofs Go.Proofs.Mv.V
namespace Go.Proofs.Mv.App
theorem atF_bad {l : List Tok} {i a : Int} {c : Nat} (h : (atF l i).2.2 = some (a, c)) : c ≠ 0 ∧ (atF l i).1 = Ty0 ∧ (atF l i).2.1 = 0 := by
 unfold atF at h ⊢
 split at h
 ·rename_i h1; simp only [Option.some.injEq, Prod.mk.injEq] at h; simp [if_pos h1]; omega
 ·rename_i h1
  split at h
  ·rename_i h2; simp only [Option.some.injEq, Prod.mk.injEq] at h; rw [if_neg h1, if_pos h2]; exact ⟨by omega, rfl, rfl⟩
  ·cases h
end Go.Proofs.Mv.App
open Go Go.Proofs Go.Proofs.Mv.V
set_option maxRecDepth 10000
namespace Go.Proofs.Mv.App
def TyE (E : List (List D)) (ys : List Ty) : Prop := ∀ (n : Nat) (m : Mem), PubE n m E (ys.map tyD)
theorem pubE_snoc {n : Nat} {m : Mem} {a b : List (List D)} {x y : List D} (h : PubE n m a b) (h2 : PubL n m x y) : PubE n m (a ++ [x]) (b ++ [y]) := by
 induction h with
 | nil => exact .cons h2 .nil
 | cons h1 _ ih => exact .cons h1 ih
theorem pubE_len {n : Nat} {m : Mem} {a b : List (List D)} (h : PubE n m a b) : a.length = b.length := by
 induction h with
 | nil => rfl
 | cons _ _ ih => simp [ih]
theorem TyE.snoc {E : List (List D)} {ys : List Ty} {x : List D} {y : Ty} (h : TyE E ys) (h2 : ∀ n m, PubL n m x (tyD y)) : TyE (E ++ [x]) (ys ++ [y]) := fun n m => by
 rw [List.map_append]; exact pubE_snoc (h n m) (h2 n m)
def zY : List D := [.v (.int .i64 0), .v (.string (ofL [])), .v (.int .i64 0), .v (.string (ofL [])), .v (.string (ofL [])), .v (.slice none 0 0), .v (.slice none 0 0)]
theorem pub_zY (n : Nat) (m : Mem) : PubL n m zY (tyD Ty0) := by
 rw [tyD_zero]
 exact .cons (pur_I _).pub (.cons (pur_S _).pub (.cons (pur_I _).pub (.cons (pur_S _).pub (.cons (pur_S _).pub (.cons (pub_nil 1) (.cons (pub_nil 7) .nil))))))
structure FnI (l : List Tok) (dp : Nat) (Z : V.Obj) (k : Nat) (m : Mem) (n : Nat) (ns : List (List UInt8)) (ys : List Ty) (p : PS) (dN dY : D) (σ : Nat → D) (m2 : Mem) (n2 : Nat) : Prop where
 h0 : σ 0 = .ptr k 0 0 0
 h2 : σ 2 = .ptr n 0 0 0
 h3 : σ 3 = .ptr (n + 1) 0 0 0
 oK : m2 (n + 1) = some ⟨8, [[.v (.int .i64 8), .v (.int .i64 0), .v (.string (ofL [])), .v (.string (ofL [])), dN, .v (.slice none 0 0), dY, .v (.slice none 0 0)]], 0⟩
 lN : Lst m2 1 (ns.map fun s => [S s]) dN
 lY : ∃ E, Lst m2 7 E dY ∧ TyE E ys
 kN : ∀ j, kof dN = some j → n + 1 < j ∧ j < n2
 kY : ∀ j, kof dY = some j → n + 1 < j ∧ j < n2
 kd : ∀ j, kof dN = some j → kof dY ≠ some j
 nn : n + 2 ≤ n2
 pk : m2 k = some (pTObj l dp p)
 fr : ∀ j, j < n + 1 → j ≠ k → m2 j = (m.set n Z) j
theorem upd_FnI {l : List Tok} {dp : Nat} {Z : V.Obj} {k : Nat} {m : Mem} {n : Nat} {ns : List (List UInt8)} {ys : List Ty} {p : PS} {dN dY : D} {σ σ' : Nat → D} {m2 : Mem} {n2 : Nat} (h : FnI l dp Z k m n ns ys p dN dY σ m2 n2) (e0 : σ' 0 = σ 0) (e2 : σ' 2 = σ 2) (e3 : σ' 3 = σ 3) : FnI l dp Z k m n ns ys p dN dY σ' m2 n2 := by
 obtain ⟨h0, h2, h3, oK, lN, lY, kN, kY, kd, nn, pk, fr⟩ := h
 exact ⟨by rw [e0]; exact h0, by rw [e2]; exact h2, by rw [e3]; exact h3, oK, lN, lY, kN, kY, kd, nn, pk, fr⟩
theorem set_FnI {l : List Tok} {dp : Nat} {Z : V.Obj} {k : Nat} {m : Mem} {n : Nat} {ns : List (List UInt8)} {ys : List Ty} {p p' : PS} {dN dY : D} {σ : Nat → D} {m2 : Mem} {n2 : Nat} (hk : k < n) (h : FnI l dp Z k m n ns ys p dN dY σ m2 n2) : FnI l dp Z k m n ns ys p' dN dY σ (m2.set k (pTObj l dp p')) n2 := by
 obtain ⟨h0, h2, h3, oK, lN, lY, kN, kY, kd, nn, pk, fr⟩ := h
 exact ⟨h0, h2, h3, by rw [set_ne _ _ _ _ (by omega)]; exact oK, lN.frame fun j hj => set_ne _ _ _ _ (by have := kN j hj; omega), lY.imp fun E h => ⟨h.1.frame fun j hj => set_ne _ _ _ _ (by have := kY j hj; omega), h.2⟩, kN, kY, kd, nn, set_same _ _ _, fun j h1 h2 => by rw [set_ne _ _ _ _ h2]; exact fr j h1 h2⟩
structure FnJ (l : List Tok) (dp : Nat) (k : Nat) (m : Mem) (n : Nat) (ns : List (List UInt8)) (ys : List Ty) (p : PS) (y : Ty) (dN dY : D) (σ : Nat → D) (m4 : Mem) (n4 : Nat) : Prop where
 ex : ∃ T X, FnI l dp zT k m n ns ys p dN dY σ m4 n4 ∧ σ 4 = .ptr T 0 0 0 ∧ m4 T = some ⟨7, [X], 0⟩ ∧ X.length = 7 ∧ (∀ N M, PubL N M X (tyD y)) ∧ n + 1 < T ∧ T < n4 ∧ kof dN ≠ some T ∧ kof dY ≠ some T
structure FnH (l : List Tok) (dp F : Nat) (Nf : List (List UInt8)) (Yf : List Ty) (q : PS) (Z : V.Obj) (k : Nat) (m : Mem) (n : Nat) (b : Nat × List (List UInt8) × List Ty × PS) (σ : Nat → D) (m2 : Mem) (n2 : Nat) : Prop where
 ii : ∃ dN dY, FnI l dp Z k m n b.2.1 b.2.2.1 b.2.2.2 dN dY σ m2 n2
 st : (b.2.1 = [] ∧ b.2.2.1 = [] ∧ b.1 = F + 1 ∧ parO l F b.2.2.2 = some (Nf, Yf, q)) ∨ (b.2.1 ≠ [] ∧ b.2.2.2.bad = 0 ∧ parsO l b.1 b.2.1 b.2.2.1 b.2.2.2 = some (Nf, Yf, q)) ∨ (b.2.2.2.bad ≠ 0 ∧ b.2.2.2 = q ∧ b.2.1 = Nf ∧ b.2.2.1 = Yf)
 ln : b.2.1.length + b.1 ≤ F + 1
 le : b.2.2.1.length = b.2.1.length
structure FnB (l : List Tok) (dp F : Nat) (Nf : List (List UInt8)) (Yf : List Ty) (q : PS) (Z : V.Obj) (k : Nat) (m : Mem) (n : Nat) (f : Nat) (ns : List (List UInt8)) (ys : List Ty) (p : PS) (σ : Nat → D) (m2 : Mem) (n2 : Nat) : Prop where
 ii : ∃ dN dY, FnI l dp Z k m n ns ys p dN dY σ m2 n2
 bd : p.bad = 0
 run : ∃ g, g ≤ f ∧ ns.length + g ≤ F + 1 ∧ parsO l g ns ys p = some (Nf, Yf, q)
set_option maxHeartbeats 8000000 in
theorem cTFun {l : List Tok} (hl : TkOk l) {dp : Nat} {rec : PS → Option (Tm × PS)} (hrec : RecC l dp rec) {F : Nat} (hF : F ≤ 100000) {p0 : PS} (hb0 : p0.bad = 0) (ha0 : p0.at_ < l.length) {t : Tm} {q : PS} (hrun : funO l rec F (stepF p0) = some (t, q)) {k : Nat} {m : Mem} {n : Nat} (hk : k < n) (hm : m k = some (pTObj l dp p0)) :
  ACalls Tryz.prog 104 [.ptr k 0 0 0] m n (fun d m' n' => (∃ t', d = .agg (tmD t') ∧ (q.bad = 0 → t' = t)) ∧ m' = m.set k (pTObj l dp q) ∧ n' = n) := by
 unfold funO at hrun
 cases hpar : parO l F (mustT 4 [40] l (stepF p0)) with
 | none => rw [hpar] at hrun; cases hrun
 | some r =>
 obtain ⟨Nf, Yf, q1⟩ := r
 rw [hpar] at hrun
 simp only at hrun
 cases hrp : rec q1 with
 | none => rw [hrp] at hrun; cases hrun
 | some r =>
 obtain ⟨tb, q2⟩ := r
 rw [hrp] at hrun
 simp only [Option.some.injEq, Prod.mk.injEq] at hrun
 obtain ⟨rfl, rfl⟩ := hrun
 refine acalls_put (X := fun d => ∃ t', d = .agg (tmD t') ∧ (q2.bad = 0 → t' = .mk 8 0 [] [] Nf [] Yf [tb])) (R' := Hq (fun d m' n' => (∃ t' : Tm, PubAs n m' d (.agg (tmD t')) ∧ (q2.bad = 0 → t' = .mk 8 0 [] [] Nf [] Yf [tb])) ∧ m' k = some (pTObj l dp q2) ∧ ∀ j, j < n → j ≠ k → m' j = m j) tg) k hk _ ?_ ?_
 rotate_left
 ·rintro d m' n' ⟨⟨t', h1, h3⟩, h4, h5⟩
  exact ⟨.agg (tmD t'), _, h1, h4, .pur (pur_pT _ _ _), h5, t', rfl, h3⟩
 have kn : k ≠ n := by omega
 have h8 := tmD_len
 have h7 := tyD_len
 have wa := wrap_at hl ha0
 have hmx : m k = some ⟨4, [[toksD l, .v (.int .i64 p0.at_), .v (.int .i64 dp), .v .nilIface]], 0⟩ := by rw [hm]; simp [pTObj, pTC, errS, hb0, I, nilE]
 have hst := pTObj_step (l := l) (dp := dp) hb0
 refine acalls_vcC [0, 2, 3, 4, 30, 46, 73] Tryz.func104 Tryz.ntmps104 (by kernel_rfl) rfl rfl (by simp) ?_
 rw [vc_seq]
 simp -dsimp [-vc_seq]
 rw [vc_seq]
 simp -dsimp [hmx, wa, set_ne, kn, -vc_seq]
 rw [← hst]
 rw [vc_seq]
 simp -dsimp [-vc_seq]
 rw [vc_seq]
 simp -dsimp [-vc_seq]
 refine aCall_of (cTMust hl (dp := dp) (p := stepF p0) (kd := 4) (by omega) [40] (by omega) (by simp [set_ne, show k ≠ n + 1 by omega])) ?_
 rintro d m1 n1 ⟨rfl, rfl, rfl⟩
 simp -dsimp [-vc_seq]
 rw [vc_seq]
 refine vc_mid (fun σ m2 n2 => ∃ dN dY, FnI l dp zT k m n Nf Yf q1 dN dY σ m2 n2) ?_ ?_
 ·simp -dsimp
  refine vloop_of (β := Nat × List (List UInt8) × List Ty × PS) (FnH l dp F Nf Yf q1 zT k m n) (fun b => if b.2.2.2.bad = 0 then b.1 + 1 else 0) (F + 1, [], [], mustT 4 [40] l (stepF p0)) ⟨⟨.v (.slice none 0 0), .v (.slice none 0 0), by simp, by simp, by simp, by simp [set_ne, show n + 1 ≠ k by omega], by first | exact Lst.nil | simp, ⟨[], by first | exact Lst.nil | simp, fun _ _ => .nil⟩, by simp, by simp, by simp, by omega, by simp, fun j hj hjk => ?_⟩, .inl ⟨rfl, rfl, rfl, hpar⟩, by simp, rfl⟩ ?_
  ·simp [set_ne, hjk, show j ≠ n + 1 by omega, zT]
  rintro ⟨f, ns, ys, p⟩ σ m2 n2 ⟨⟨dN, dY, ii⟩, st, ln, le⟩
  simp only at ii st ln le
  rw [vc_seq]
  refine vc_mid (FnB l dp F Nf Yf q1 zT k m n f ns ys p) ?_ ?_
  ·have ii' := ii
   obtain ⟨h0, h2, h3, oK, lN, lY, kN, kY, kd, nn, pk, fr⟩ := ii
   have hll := lenD_lst lN
   rw [List.length_map] at hll
   by_cases hb : p.bad = 0
   case neg =>
    have hq' : p = q1 ∧ ns = Nf ∧ ys = Yf := by
     rcases st with ⟨rfl, rfl, _, h⟩ | ⟨_, h, _⟩ | ⟨_, h1, h2, h3⟩
     ·simp only [parO, if_neg hb, Option.some.injEq, Prod.mk.injEq] at h; exact ⟨h.2.2, h.1, h.2.1⟩
     ·exact absurd h hb
     ·exact ⟨h1, h2, h3⟩
    obtain ⟨rfl, rfl, rfl⟩ := hq'
    have hmx : m2 k = some ⟨4, [[toksD l, I p.at_, I dp, spotE p.cnt p.bad]], 0⟩ := by rw [pk]; simp [pTObj, pTC, errS, hb]
    simp -dsimp [h0, h2, h3, hmx, spotE]
    exact ⟨dN, dY, upd_FnI ii' (by simp [h0]) (by simp [h2]) (by simp [h3])⟩
   have hmx : m2 k = some ⟨4, [[toksD l, I p.at_, I dp, nilE]], 0⟩ := by rw [pk]; simp [pTObj, pTC, errS, hb]
   by_cases hL : ns = []
   ·subst hL
    rcases st with ⟨_, rfl, rfl, hr⟩ | ⟨h, _⟩ | ⟨h, _⟩
    rotate_left
    ·exact absurd rfl h
    ·exact absurd hb h
    simp only [List.length_nil] at hll
    simp only [parO, if_pos hb] at hr
    simp -dsimp [h0, h2, h3, hmx, nilE, hll, Tt, oK]
    refine aCall_of (cTPass hl (dp := dp) (p := p) (kd := 4) (by omega) [41] (by omega) pk) ?_
    rintro d m3 n3 ⟨rfl, rfl, rfl⟩
    cases hi : isT 4 [41] l p with
    | true =>
     rw [hi] at hr
     simp only [if_true, Option.some.injEq, Prod.mk.injEq] at hr
     obtain ⟨rfl, rfl, rfl⟩ := hr
     simp -dsimp [Tt, hi]
     exact ⟨dN, dY, upd_FnI (set_FnI hk ii') (by simp [h0]) (by simp [h2]) (by simp [h3])⟩
    | false =>
     rw [hi] at hr
     simp only [Bool.false_eq_true, if_false] at hr
     simp -dsimp [Tt, hi]
     exact ⟨⟨dN, dY, upd_FnI (set_FnI hk ii') (by simp [h0]) (by simp [h2]) (by simp [h3])⟩, hb, F, by omega, by simp, hr⟩
   ·rcases st with ⟨h, _⟩ | ⟨_, _, hr⟩ | ⟨h, _⟩
    ·exact absurd h hL
    rotate_left
    ·exact absurd hb h
    have hpos : 0 < ns.length := List.length_pos_iff.2 hL
    have hpos' : (0 : Int) < ns.length := by omega
    simp -dsimp [h0, h2, h3, hmx, nilE, hll, Tt, hpos, hpos', oK]
    exact ⟨⟨dN, dY, upd_FnI ii' (by simp [h0]) (by simp [h2]) (by simp [h3])⟩, hb, f, by omega, by omega, hr⟩
  rintro σ m2 n2 ⟨⟨dN, dY, ii⟩, hb, g, g1, g2, hr⟩
  cases g with
  | zero => simp only [parsO] at hr; cases hr
  | succ g =>
  simp only [parsO] at hr
  have ii' := ii
  obtain ⟨h0, h2, h3, oK, lN, lY, kN, kY, kd, nn, pk, fr⟩ := ii
  have kNk : ∀ j, kof dN = some j → j ≠ k := fun j hj e => by have := kN j hj; omega
  have kYk : ∀ j, kof dY = some j → j ≠ k := fun j hj e => by have := kY j hj; omega
  have hfr := cTFreshO (n := n2) hl (dp := dp) (p := p) (kd := 1) (by omega) fineTn lN (by omega) (fun j hj => (kN j hj).2) (by omega) pk
  generalize freshT 1 nameN ns l p = fn at hr hfr
  obtain ⟨nm, p1⟩ := fn
  simp only at hr hfr
  simp only [I] at hfr
  simp -dsimp [h0, h2, h3, -vc_seq]
  rw [vc_seq]
  refine vc_mid (fun σ m2 n2 => ∃ dN, FnI l dp zT k m n (ns ++ [nm]) ys p1 dN dY σ m2 n2) ?_ ?_
  ·simp -dsimp [h0, h2, h3]
   refine vdraw_tree [0, 1, 0, 0, 8, 28, 60, 127, 255, 511] (.rd 0 (.rd 1 (.rd 2 (.rd 3 (.rd 4 (.wr (.cons 5 (.wr (.cons 6 (.wr (.cons 7 (.rd 8 (.wr (.cons 9 (.fin) (.nil)))) (.nil))) (.nil))) (.nil)))))))) (by kernel_rfl) (by kernel_rfl) ?_
   simp -dsimp [h0, h2, h3, oK]
   refine aCall_of hfr ?_
   rintro d m3 n3 ⟨rfl, rfl, rfl⟩
   refine ⟨fun p hp _ => ?_, ?_⟩
   ·simp only [List.mem_cons, List.not_mem_nil, or_false] at hp
    rcases hp with rfl | rfl <;> exact set_ne _ _ _ _ (by omega)
   simp -dsimp [h0, h2, h3, S]
   repeat' (with_reducible apply And.intro)
   all_goals try (simp [set_ne, show n + 1 ≠ k by omega, show n + 1 ≠ n3 by omega, oK, S]; done)
   refine b4_append (lN.frame fun j hj => by have := kN j hj; simp [set_ne, show j ≠ k by omega, show j ≠ n3 by omega]) (fun j hj => by have := kN j hj; omega) trivial trivial (by omega) (by simp; omega) ?_
   intro dN' m6 n6 a1 a2 a3 a4
   obtain ⟨odn, cdn⟩ := okD_lst a1
   have oK6 := a4 (n + 1) (by omega) (fun e => by have := kN _ e; omega)
   simp [set_ne, show n + 1 ≠ k by omega, show n + 1 ≠ n3 by omega, oK] at oK6
   have ka : ∀ j, kof dN' = some j → n + 1 < j ∧ j < n6 ∧ j ≠ k ∧ kof dY ≠ some j := fun j hj => by
    have := a3 j hj
    rcases this.2 with e | e
    ·have h1 := kN j e
     exact ⟨h1.1, this.1, by omega, kd j e⟩
    ·exact ⟨by omega, this.1, by omega, fun e2 => by have := kY j e2; omega⟩
   have old : ∀ j, j < n3 → j ≠ k → kof dN ≠ some j → m6 j = m2 j := fun j h1 h2 h3 => by
    rw [a4 j (by omega) h3]; simp [set_ne, show j ≠ k by omega, show j ≠ n3 by omega]
   have pk6 : m6 k = some (pTObj l dp p1) := by
    rw [a4 k (by omega) (fun e => kNk k e rfl)]; simp [set_ne, show k ≠ n3 by omega]
   simp -dsimp [h0, h2, h3, oK6, odn, cdn]
   refine ⟨dN', by simp, by simp, by simp, by simp, ?_, ?_, fun j hj => ?_, fun j hj => ?_, fun j hj => ?_, by omega, ?_, fun j h1 h2 => ?_⟩
   ·rw [List.map_append]
    simpa [S] using a1.frame fun j hj => set_ne _ _ _ _ (by have := ka j hj; omega)
   ·obtain ⟨E, lE, hE⟩ := lY
    exact ⟨E, lE.frame fun j hj => by have := kY j hj; rw [set_ne _ _ _ _ (by omega), old j (by omega) (kYk j hj) (fun e => kd j e hj)], hE⟩
   ·have := ka j hj; omega
   ·have := kY j hj; omega
   ·exact (ka j hj).2.2.2
   ·rw [set_ne _ _ _ _ (by omega)]; exact pk6
   ·rw [set_ne _ _ _ _ (by omega), old j (by omega) h2 (fun e => by have := kN j e; omega)]; exact fr j h1 h2
  clear hfr oK lN lY kN kY kd nn pk fr kNk kYk h0 h2 h3 ii' dN
  rintro σ m2 n2 ⟨dN, ii⟩
  have ii' := ii
  obtain ⟨h0, h2, h3, oK, lN, lY, kN, kY, kd, nn, pk, fr⟩ := ii
  rw [vc_seq]
  simp -dsimp [h0, h2, h3, -vc_seq]
  refine aCall_of (cTMust hl (dp := dp) (p := p1) (kd := 4) (by omega) [58] (by omega) pk) ?_
  rintro d m3 n3 ⟨rfl, rfl, rfl⟩
  have ii2 := set_FnI (p' := mustT 4 [58] l p1) hk ii'
  generalize mustT 4 [58] l p1 = p2 at hr ii2 ⊢
  simp -dsimp [h0, h2, h3, -vc_seq]
  rw [vc_seq]
  simp -dsimp [h0, h2, h3, -vc_seq]
  rw [vc_seq]
  refine vc_mid (FnJ l dp k m n (ns ++ [nm]) ys (typS l p2).2 (typS l p2).1 dN dY) ?_ ?_
  ·obtain ⟨g0, g2, g3, oK2, lN2, lY2, kN2, kY2, kd2, nn2, pk2, fr2⟩ := ii2
   have base : ∀ {M : Mem} {σ' : Nat → D} {N : Nat}, n3 + 1 ≤ N → (∀ j, j < n3 → j ≠ k → M j = m2 j) → σ' 0 = .ptr k 0 0 0 → σ' 2 = .ptr n 0 0 0 → σ' 3 = .ptr (n + 1) 0 0 0 → ∀ {p' : PS}, M k = some (pTObj l dp p') → FnI l dp zT k m n (ns ++ [nm]) ys p' dN dY σ' M N := fun {M σ' N} hN hM e0 e2 e3 {p'} hp => by
    refine ⟨e0, e2, e3, by rw [hM (n + 1) (by omega) (by omega)]; exact oK, lN.frame fun j hj => hM j (kN j hj).2 (by have := kN j hj; omega), lY.imp fun E h => ⟨h.1.frame fun j hj => hM j (kY j hj).2 (by have := kY j hj; omega), h.2⟩, fun j hj => by have := kN j hj; omega, fun j hj => by have := kY j hj; omega, kd, by omega, hp, fun j h1 h2 => ?_⟩
    rw [hM j (by omega) h2]; exact fr j h1 h2
   have kT : kof dN ≠ some n3 := fun e => by have := kN _ e; omega
   have kT2 : kof dY ≠ some n3 := fun e => by have := kY _ e; omega
   by_cases hb2 : p2.bad = 0
   case neg =>
    have e : typS l p2 = (Ty0, p2) := by rw [typS, if_neg hb2]
    have hmx : (m2.set k (pTObj l dp p2)) k = some ⟨4, [[toksD l, I p2.at_, I dp, spotE p2.cnt p2.bad]], 0⟩ := by rw [set_same]; simp [pTObj, pTC, errS, hb2]
    rw [e]
    simp -dsimp [h0, h2, h3, hmx, spotE, set_ne, show k ≠ n3 by omega, pTObj, pTC, errS, hb2]
    refine ⟨⟨n3, zY, base (by omega) (fun j h1 h2 => by simp [set_ne, show j ≠ n3 by omega, h2]) (by simp) (by simp) (by simp) (by simp [set_ne, show k ≠ n3 by omega, pTObj, pTC, errS, hb2, spotE]), by simp, by simp [zY], by simp [zY], pub_zY, by omega, by omega, kT, kT2⟩⟩
   have e : typS l p2 = match (atF l p2.at_).2.2 with
    | some (a, c) => (Ty0, ⟨0, a.toNat, c⟩)
    | none => ((atF l p2.at_).1, ⟨(atF l p2.at_).2.1, p2.cnt, 0⟩) := by rw [typS, if_pos hb2]; rfl
   simp -dsimp [h0, h2, h3, set_ne, show k ≠ n3 by omega, pTObj, pTC, errS, hb2, nilE, I]
   refine vdraw_tree [0, 0, 0, 4, 12, 28, 0, 64, 192, 448, 1020, 2044, 4092, 4092, 4092, 8188, 49149, 114685, 245757, 524287, 1048575, 2097151] (.rd 0 (.rd 1 (.rd 2 (.rd 3 (.rd 4 (.rd 5 (.rd 6 (.rd 7 (.rd 8 (.rd 9 (.wr (.cons 10 (.rd 11 (.rd 12 (.rd 13 (.rd 14 (.wr (.cons 15 (.rd 16 (.rd 17 (.wr (.cons 18 (.rd 19 (.rd 20 (.wr (.cons 21 (.fin) (.nil))))) (.nil))))) (.nil))))))) (.nil))))))))))))) (by kernel_rfl) (by kernel_rfl) ?_
   simp -dsimp [h0, h2, h3, set_ne, show k ≠ n3 by omega, pTObj, pTC, errS, hb2, nilE, I]
   rw [e]
   have hab := fun a c => atF_bad (l := l) (i := p2.at_) (a := a) (c := c)
   have hnn := fun a c => atF_nn (l := l) (q := p2.at_) (a := a) (c := c)
   have hat := fun m n => cAt hl (p2.at_ : Int) m n
   clear e
   generalize atF l p2.at_ = A at hab hnn hat ⊢
   simp only [I] at hat
   refine aCall_of (hat _ _) ?_
   rintro d m5 n5 ⟨rfl, rfl, rfl⟩
   refine ⟨fun p hp _ => rfl, ?_⟩
   obtain ⟨ty, nx, o⟩ := A
   have h7y := tyD_len ty
   cases o with
   | none =>
    simp -dsimp [h0, h2, h3, set_ne, show k ≠ n3 by omega, show n3 ≠ k by omega, errO, I, nilE, h7y]
    refine ⟨⟨n3, tyD ty, base (by omega) (fun j h1 h2 => by simp [set_ne, show j ≠ n3 by omega, h2]) (by simp) (by simp) (by simp) (by simp [set_ne, show k ≠ n3 by omega, pTObj, pTC, errS, I, nilE]), by simp, by simp [set_ne, show n3 ≠ k by omega], h7y, fun N M => pubL_pur (pur_ty ty), by omega, by omega, kT, kT2⟩⟩
   | some x =>
    obtain ⟨a, c⟩ := x
    obtain ⟨hc, ht, hnx⟩ := hab a c rfl
    have h0' := hnn a c rfl
    simp only at ht hnx
    subst ht; subst hnx
    simp -dsimp [h0, h2, h3, set_ne, show k ≠ n3 by omega, show n3 ≠ k by omega, errO, I, nilE, h7y, spotE]
    refine ⟨⟨n3, tyD Ty0, base (by omega) (fun j h1 h2 => by simp [set_ne, show j ≠ n3 by omega, h2]) (by simp) (by simp) (by simp) (by simp [set_ne, show k ≠ n3 by omega, pTObj, pTC, errS, I, nilE, hc, spotE, Int.toNat_of_nonneg h0']), by simp, by simp [set_ne, show n3 ≠ k by omega], h7y, fun N M => pubL_pur (pur_ty Ty0), by omega, by omega, kT, kT2⟩⟩
  clear ii2 ii' h0 h2 h3 oK lN lY kN kY kd nn pk fr
  rintro σ m4 n4 ⟨T, X, ii, h4, oT, hX, hXp, hT1, hT2, hT3, hT4⟩
  generalize typS l p2 = ty at hr ii hXp
  obtain ⟨y, p3⟩ := ty
  simp only at hr ii hXp
  obtain ⟨h0, h2, h3, oK, lN, ⟨E, lE, hE⟩, kN, kY, kd, nn, pk, fr⟩ := ii
  have hEl : E.length ≤ 1000000 := by
   have := pubE_len (hE 0 m4)
   rw [List.length_map] at this
   omega
  rw [vc_seq]
  refine vc_mid (fun σ m6 n6 => ∃ dY', FnI l dp zT k m n (ns ++ [nm]) (ys ++ [y]) p3 dN dY' σ m6 n6) ?_ ?_
  ·simp -dsimp [h0, h2, h3, h4, oK, oT, hX]
   refine b4_append (lE.frame fun j hj => by have := kY j hj; simp [set_ne, show j ≠ n4 by omega]) (fun j hj => by have := kY j hj; omega) trivial trivial (by omega) (by simp; omega) ?_
   intro dY' m6 n6 a1 a2 a3 a4
   rw [List.take_of_length_le (show X.length ≤ 7 by omega)] at a1
   obtain ⟨ody, cdy⟩ := okD_lst a1
   have oK6 := a4 (n + 1) (by omega) (fun e => by have := kY _ e; omega)
   simp [set_ne, show n + 1 ≠ n4 by omega, oK] at oK6
   have ka : ∀ j, kof dY' = some j → n + 1 < j ∧ j < n6 ∧ kof dN ≠ some j := fun j hj => by
    have := a3 j hj
    rcases this.2 with e | e
    ·have h1 := kY j e
     exact ⟨h1.1, this.1, fun e2 => kd j e2 e⟩
    ·exact ⟨by omega, this.1, fun e2 => by have := kN j e2; omega⟩
   have old : ∀ j, j < n4 → kof dY ≠ some j → m6 j = m4 j := fun j h1 h3 => by
    rw [a4 j (by omega) h3]; simp [set_ne, show j ≠ n4 by omega]
   simp -dsimp [h0, h2, h3, oK6, ody, cdy]
   refine ⟨dY', by simp, by simp, by simp, by simp, ?_, ⟨E ++ [X], ?_, hE.snoc hXp⟩, fun j hj => ?_, fun j hj => ?_, fun j hj hj2 => ?_, by omega, ?_, fun j h1 h2 => ?_⟩
   ·exact lN.frame fun j hj => by have := kN j hj; rw [set_ne _ _ _ _ (by omega), old j (by omega) (kd j hj)]
   ·refine a1.frame fun j hj => ?_
    have := ka j hj
    exact set_ne _ _ _ _ (by omega)
   ·have := kN j hj; omega
   ·have := ka j hj; omega
   ·exact (ka j hj2).2.2 hj
   ·rw [set_ne _ _ _ _ (by omega), old k (by omega) (fun e => by have := kY k e; omega)]; exact pk
   ·rw [set_ne _ _ _ _ (by omega), old j (by omega) (fun e => by have := kY j e; omega)]; exact fr j h1 h2
  clear h0 h2 h3 oK lN lE hE kN kY kd nn pk fr oT hT3 hT4 dY
  rintro σ m2 n2 ⟨dY, ii⟩
  have ii' := ii
  obtain ⟨h0, h2, h3, oK, lN, lY, kN, kY, kd, nn, pk, fr⟩ := ii
  simp -dsimp [h0, h2, h3]
  refine aCall_of (cTPass hl (dp := dp) (p := p3) (kd := 4) (by omega) [41] (by omega) pk) ?_
  rintro d m7 n7 ⟨rfl, rfl, rfl⟩
  cases hi : isT 4 [41] l p3 with
  | true =>
   rw [hi] at hr
   simp only [if_true, Option.some.injEq, Prod.mk.injEq] at hr
   obtain ⟨rfl, rfl, rfl⟩ := hr
   simp -dsimp [Tt, hi]
   exact ⟨dN, dY, upd_FnI (set_FnI hk ii') (by simp [h0]) (by simp [h2]) (by simp [h3])⟩
  | false =>
   rw [hi] at hr
   simp only [Bool.false_eq_true, if_false] at hr
   simp -dsimp [Tt, hi, h0, h2, h3]
   refine aCall_of (cTMust hl (dp := dp) (p := p3) (kd := 4) (by omega) [44] (by omega) (by simp)) ?_
   rintro d3 m8 n8 ⟨rfl, rfl, rfl⟩
   simp -dsimp [h0, h2, h3]
   have iin := set_FnI (p' := mustT 4 [44] l p3) hk (set_FnI (p' := p3) hk ii')
   rw [set_set] at iin
   have stn : (ns ++ [nm] = [] ∧ ys ++ [y] = [] ∧ g = F + 1 ∧ parO l F (mustT 4 [44] l p3) = some (Nf, Yf, q1)) ∨ (ns ++ [nm] ≠ [] ∧ (mustT 4 [44] l p3).bad = 0 ∧ parsO l g (ns ++ [nm]) (ys ++ [y]) (mustT 4 [44] l p3) = some (Nf, Yf, q1)) ∨ ((mustT 4 [44] l p3).bad ≠ 0 ∧ mustT 4 [44] l p3 = q1 ∧ ns ++ [nm] = Nf ∧ ys ++ [y] = Yf) := by
    by_cases hm : (mustT 4 [44] l p3).bad = 0
    ·rw [if_pos hm] at hr
     exact .inr (.inl ⟨by simp, hm, hr⟩)
    ·rw [if_neg hm] at hr
     simp only [Option.some.injEq, Prod.mk.injEq] at hr
     exact .inr (.inr ⟨hm, hr.2.2, hr.1, hr.2.1⟩)
   refine ⟨g, ns ++ [nm], ys ++ [y], mustT 4 [44] l p3, ?_, ⟨⟨dN, dY, upd_FnI iin (by simp [h0]) (by simp [h2]) (by simp [h3])⟩, stn, by simp; omega, by simp; omega⟩⟩
   simp only [if_pos hb]
   split <;> omega
 rintro σ m2 n2 ⟨dN, dY, ii⟩
 obtain ⟨h0, h2, h3, oK, lN, ⟨E, lE, hE⟩, kN, kY, kd, nn, pk, fr⟩ := ii
 simp -dsimp [h0, h2, h3]
 refine aCall_of (hrec q1 tb q2 hrp k _ _ (by omega) pk) ?_
 rintro d m3 n3 ⟨⟨t', rfl, ht⟩, rfl, rfl⟩
 have hmn : m2 n = some zT := by rw [fr n (by omega) (by omega), set_same]
 simp -dsimp [h0, h2, h3, h8, set_ne, oK, hmn, zT, show n + 1 ≠ k by omega, show n + 1 ≠ n3 by omega, show n ≠ n3 by omega, show n ≠ k by omega]
 have kNk : ∀ j, kof dN = some j → j ≠ k := fun j hj e => by have := kN j hj; omega
 have kYk : ∀ j, kof dY = some j → j ≠ k := fun j hj e => by have := kY j hj; omega
 refine hq ⟨⟨.mk 8 0 [] [] Nf [] Yf [t'], ?_, fun h => by rw [ht h]⟩, by simp [set_ne, show k ≠ n by omega, show k ≠ n + 1 by omega, show k ≠ n3 by omega], fun j hj hjk => ?_⟩
 ·simp only [tmD, tmsD, sl1, List.map_nil]
  refine .agg (.cons (pur_I _).pub (.cons (pur_I _).pub (.cons (pur_S _).pub (.cons (pur_S _).pub (.cons ?_ (.cons (pub_nil 1) (.cons ?_ (.cons ?_ .nil))))))))
  ·refine .lstP (lN.frame fun j hj => ?_) (fun j hj => by have := kN j hj; omega) pur_ss
   have := kN j hj
   have := kNk j hj
   simp [set_ne, show j ≠ n by omega, show j ≠ n + 1 by omega, show j ≠ n3 by omega, show j ≠ k by omega]
  ·refine .lst (lE.frame fun j hj => ?_) (fun j hj => by have := kY j hj; omega) (hE _ _)
   have := kY j hj
   have := kYk j hj
   simp [set_ne, show j ≠ n by omega, show j ≠ n + 1 by omega, show j ≠ n3 by omega, show j ≠ k by omega]
  ·refine .lstP (es := [tmD t']) (.mk (es' := [tmD t']) (by simp [set_ne, show n3 ≠ n by omega, show n3 ≠ n + 1 by omega]) (by simp) (by simp) (by simp)) (fun j hj => by simp [kof] at hj; omega) ?_
   intro e he d hd
   simp only [List.mem_singleton] at he
   subst he
   exact pur_tm t' d hd
 ·simp [set_ne, show j ≠ n by omega, show j ≠ n + 1 by omega, show j ≠ n3 by omega, hjk]
  rw [fr j (by omega) hjk, set_ne _ _ _ _ (by omega)]
theorem funC_all {l : List Tok} (hl : TkOk l) : FunC l := fun _ _ hrec _ hF _ hb ha _ _ _ hrun _ _ _ hk hm => cTFun hl hrec hF hb ha hrun hk hm
end Go.Proofs.Mv.App
