/- A part of the proofs of the seat YtgekkmmmidgkbaaGreatDoor: the abstract machine, the contracts of the functions, the laws. No condition of its own. -/
import Derived.Test.YtgekkmmmidgkbaaGreatDoorP21
import Derived.Test.YtgekkmmmidgkbaaGreatDoorP08
import Derived.Test.YtgekkmmmidgkbaaGreatDoorP20
set_option linter.unusedSimpArgs false
set_option linter.unusedVariables false
set_option linter.unusedSectionVars false
open Go Go.Proofs Go.Proofs.Mv.V
set_option maxRecDepth 10000
namespace Go.Proofs.Mv.App
set_option maxHeartbeats 4000000 in
theorem cTyp {l : List Tok} (hl : TkOk l) {r : Nat} (hr : r ≤ 32) (IH : ∀ r', r = r' + 1 → TypC l r') : TypC l r := by
  intro p k m n hk hm
  refine acalls_ty hk ?_
  have kn : k ≠ n := by omega
  have nk : n ≠ k := by omega
  have kn1 : k ≠ n + 1 := by omega
  have n1k : n + 1 ≠ k := by omega
  have nn1 : n ≠ n + 1 := by omega
  have n1n : n + 1 ≠ n := by omega
  have hkn2 : k < n + 1 + 1 := by omega
  obtain ⟨kd, a, tx, hp⟩ := pk_of hl p
  have hbeg := hp.beg
  have hlen := hp.len
  obtain ⟨dpt, hd⟩ : ∃ x : Int, x = 33 - r := ⟨_, rfl⟩
  rw [← hd]
  refine acalls_vcC [0, 1, 4, 5, 6, 7, 8, 11, 18, 40, 63, 64, 77, 82, 87, 92, 112] Tryz.func108 Tryz.ntmps108 (by kernel_rfl) rfl rfl (by simp) ?_
  simp -dsimp [I]
  refine aCall_of (cPeek (by omega) (by rw [set_ne _ _ _ _ kn]; exact hm)) ?_
  rintro d m' n' ⟨rfl, rfl, rfl⟩
  rw [hp.pk]
  simp -dsimp [I]
  refine aCall_of (cBegins kd a tx (by omega) _ _) ?_
  rintro d m' n' ⟨rfl, rfl, rfl⟩
  rw [← hbeg]
  have frame : ∀ (M : Mem), (∀ j, j < n → j ≠ k → M j = m j) → ∀ o, ∀ j, j < n → j ≠ k → (M.set k o) j = m j := fun M h o j hj hjk => by rw [set_ne _ _ _ _ hjk]; exact h j hj hjk
  cases hb : begF l p
  case false =>
    simp -dsimp [Tt, hb]
    refine aCall_of (cFail (l := l) (p := p) 2 (by omega) hkn2 (by simp [set_ne, kn, kn1, hm])) ?_
    rintro d m' n' ⟨rfl, rfl, rfl⟩
    rw [typF_nob hb]
    simp -dsimp [I, S, set_ne, kn, nk, kn1, n1k, nn1, n1n]
    refine tyq Ty0 (pub_build 0 [] 0 [] []) (fun _ => rfl) (by simp [set_ne, kn]) fun j hj hjk => ?_
    rw [set_ne _ _ _ _ (by omega), set_ne _ _ _ _ hjk, set_ne _ _ _ _ (by omega), set_ne _ _ _ _ (by omega)]
  have hcur : cur l p = some ⟨kd, a, tx⟩ := by
    rcases hp.cu with ⟨h, _⟩ | h
    · simp [begF, h] at hb
    · exact h
  obtain ⟨hbd, hat, _⟩ := cur_some hcur
  have hbt : begT ⟨kd, a, tx⟩ = true := by rw [← hbeg]; exact hb
  by_cases hlg : 32 < dpt
  · have hr0 : r = 0 := by omega
    simp -dsimp [Tt, hb, hlg]
    refine aCall_of (cFail (l := l) (p := p) 3 (by omega) hkn2 (by simp [set_ne, kn, kn1, hm])) ?_
    rintro d m' n' ⟨rfl, rfl, rfl⟩
    rw [typF_large hb (.inl hr0)]
    simp -dsimp [I, S, set_ne, kn, nk, kn1, n1k, nn1, n1n]
    refine tyq Ty0 (pub_build 0 [] 0 [] []) (fun _ => rfl) (by simp [set_ne, kn]) fun j hj hjk => ?_
    rw [set_ne _ _ _ _ (by omega), set_ne _ _ _ _ hjk, set_ne _ _ _ _ (by omega), set_ne _ _ _ _ (by omega)]
  by_cases hct : 500 ≤ (p.cnt : Int)
  · have hct' : 500 ≤ p.cnt := by omega
    simp -dsimp [Tt, hb, hlg, set_ne, kn, kn1, hm, pObj, pC, I, hct, hct']
    refine aCall_of (cFail (l := l) (p := p) 3 (by omega) hkn2 (by simp [set_ne, kn, kn1, hm])) ?_
    rintro d m' n' ⟨rfl, rfl, rfl⟩
    rw [typF_large hb (.inr hct')]
    simp -dsimp [I, S, set_ne, kn, nk, kn1, n1k, nn1, n1n]
    refine tyq Ty0 (pub_build 0 [] 0 [] []) (fun _ => rfl) (by simp [set_ne, kn]) fun j hj hjk => ?_
    rw [set_ne _ _ _ _ (by omega), set_ne _ _ _ _ hjk, set_ne _ _ _ _ (by omega), set_ne _ _ _ _ (by omega)]
  have hct' : ¬ 500 ≤ p.cnt := by omega
  obtain ⟨r', rfl⟩ : ∃ r', r = r' + 1 := ⟨r - 1, by omega⟩
  have H : TypC l r' := IH r' rfl
  rw [typF_step hcur hbt (by omega)]
  have hd' : dpt = 32 - r' := by omega
  have wd : IntKind.i64.wrap (dpt + 1) = 33 - r' := by rw [wrap_i64 (by omega) (by omega)]; omega
  have wc : IntKind.i64.wrap ((p.cnt : Int) + 1) = (p.cnt : Int) + 1 := wrap_i64 (by omega) (by omega)
  have wa := wrap_at hl hat
  have hp1 := cnt_obj (l := l) hbd
  have hb1 : (⟨p.at_ + 1, p.cnt + 1, p.bad⟩ : PS).bad = 0 := hbd
  generalize hpp : (⟨p.at_ + 1, p.cnt + 1, p.bad⟩ : PS) = p1 at hp1 hb1 ⊢
  have fr : ∀ j, j < n → j ≠ k → j ≠ n ∧ j ≠ n + 1 ∧ j ≠ n + 1 + 1 ∧ j ≠ n + 1 + 1 + 1 := fun j h1 h2 => by omega
  have kn2 : k ≠ n + 1 + 1 := by omega
  have n2k : n + 1 + 1 ≠ k := by omega
  have n2n : n + 1 + 1 ≠ n := by omega
  have nn2 : n ≠ n + 1 + 1 := by omega
  have n21 : n + 1 + 1 ≠ n + 1 := by omega
  have n12 : n + 1 ≠ n + 1 + 1 := by omega
  have kn3 : k ≠ n + 1 + 1 + 1 := by omega
  have n3k : n + 1 + 1 + 1 ≠ k := by omega
  have n3n : n + 1 + 1 + 1 ≠ n := by omega
  have nn3 : n ≠ n + 1 + 1 + 1 := by omega
  have n23 : n + 1 + 1 ≠ n + 1 + 1 + 1 := by omega
  have n32 : n + 1 + 1 + 1 ≠ n + 1 + 1 := by omega
  have hkn3 : k < n + 1 + 1 + 1 := by omega
  by_cases k1 : kd = 1
  · simp -dsimp [Tt, hb, hlg, set_ne, kn, nk, kn1, n1k, nn1, n1n, hm, pObj, pC, errD, hbd, nilE, I, hct, hct', wc, wa, k1]
    rw [hp1]
    refine aCall_of (cMust hl [46] (p := p1) hkn2 (by simp)) ?_
    rintro d m' n' ⟨rfl, rfl, rfl⟩
    simp -dsimp [set_ne, kn, nk, kn1, n1k, nn1, n1n]
    refine vdraw_of [0, 1, 0, 4, 15, 31] [0, 1, 2, 3, 4, 5] (by kernel_rfl) (by kernel_rfl) ?_
    simp -dsimp [set_ne, kn, nk, kn1, n1k, nn1, n1n]
    refine aCall_of (cName hl true 60 (fun s hs => cGreat s (by omega)) (p := mustF [46] l p1) hkn2 (by simp)) ?_
    rintro d m' n' ⟨rfl, rfl, rfl⟩
    simp -dsimp [set_ne, kn, nk, kn1, n1k, nn1, n1n, I, S]
    refine tyq (localT tx (nameF true l (mustF [46] l p1)).1) (pub_build 8 [] 0 tx _) (fun _ => by simp [bodyF, k1]) (by simp [bodyF, k1, set_ne, kn]) fun j hj hjk => ?_
    obtain ⟨j1, j2, j3, j4⟩ := fr j hj hjk
    simp [set_ne, j1, j2, j3, j4, hjk]
  have k1' : (kd == 1) = false := by simp [k1]
  have hbody : bodyF l ⟨kd, a, tx⟩ (typF l r') p1 = (if tx = wList then listF l (typF l r') p1 else if tx = [123] then partsF l false (typF l r') p1 else if tx = [91] then partsF l true (typF l r') p1
      else if tx = [40] then funcF l (typF l r') p1 else if tx = [60] then openF l p1 else if 0 < baseN tx then (.mk (baseN tx) [] 0 [] [] [] [], p1) else (localT [] tx, p1)) := by
    simp only [bodyF]; rw [if_neg k1]
  rw [hbody]
  by_cases tL : tx = wList
  · have tL' : (tx == [76, 105, 115, 116]) = true := by simp [tL, wList]
    rw [if_pos tL]
    simp -dsimp [Tt, hb, hlg, set_ne, kn, nk, kn1, n1k, nn1, n1n, hm, pObj, pC, errD, hbd, nilE, I, hct, hct', wc, wa, k1', S, tL']
    rw [hp1]
    refine aCall_of (cMust hl [40] (p := p1) hkn2 (by simp)) ?_
    rintro d m' n' ⟨rfl, rfl, rfl⟩
    simp -dsimp [set_ne, kn, nk, kn1, n1k, nn1, n1n, wd]
    refine aCall_of (H (mustF [40] l p1) k _ _ hkn2 (by simp)) ?_
    rintro d m' n' ⟨⟨t', rfl, ht'⟩, rfl, rfl⟩
    simp -dsimp [set_ne, kn, nk, kn1, n1k, nn1, n1n, kn2, n2k, n2n, nn2, n21, n12]
    refine aCall_of (cMust hl [41] (p := (typF l r' (mustF [40] l p1)).2) hkn3 (by simp [set_ne, kn2])) ?_
    rintro d m' n' ⟨rfl, rfl, rfl⟩
    simp -dsimp [set_ne, kn, nk, kn1, n1k, nn1, n1n, kn2, n2k, n2n, nn2, n21, n12, kn3, n3k, n3n, nn3, n23, n32]
    refine tyq (.mk 4 [] 0 [] [] [] [t']) ?_ (fun e => by have := ht' (mustF_keep e); simp [listF, this]) (by simp [listF, set_ne, kn, kn3]) fun j hj hjk => ?_
    · simp only [tyD]
      refine .agg (.cons (pur_I _).pub (.cons (pur_S _).pub (.cons (pur_I _).pub (.cons (pur_S _).pub (.cons (pur_S _).pub (.cons (pub_nil 1) (.cons ?_ .nil)))))))
      rw [tysD_eq]
      refine .lstP (z := 7) (Lst.own (k := n + 1 + 1 + 1) (g := 0) (es := [tyD t']) (by simp [set_ne, n3n])) (fun j hj => by simp at hj; omega) (by simpa using pur_ty t')
    · obtain ⟨j1, j2, j3, j4⟩ := fr j hj hjk
      simp [set_ne, j1, j2, j3, j4, hjk]
  have tL' : (tx == [76, 105, 115, 116]) = false := by simpa [wList] using tL
  rw [if_neg tL]
  by_cases t1 : tx = [123]
  · have t1' : (tx == [123]) = true := by simp [t1]
    rw [if_pos t1]
    simp -dsimp [Tt, hb, hlg, set_ne, kn, nk, kn1, n1k, nn1, n1n, hm, pObj, pC, errD, hbd, nilE, I, hct, hct', wc, wa, k1', S, tL', t1']
    rw [hp1]
    have hN := fun (M : Mem) (h : M k = some (pObj l p1)) => cNamed hl false (by omega) H hkn2 h hb1
    rw [← hd'] at hN
    refine aCall_of (hN _ (by simp)) ?_
    rintro d m' n' ⟨⟨t', rfl, ht'⟩, rfl, rfl⟩
    simp -dsimp [set_ne, kn, nk, kn1, n1k, nn1, n1n]
    refine tyq t' (pur_tyA t').pub ht' (by simp [set_ne, kn]) fun j hj hjk => ?_
    obtain ⟨j1, j2, j3, j4⟩ := fr j hj hjk
    simp [set_ne, j1, j2, j3, j4, hjk]
  have t1' : (tx == [123]) = false := by simp [t1]
  rw [if_neg t1]
  by_cases t2 : tx = [91]
  · have t2' : (tx == [91]) = true := by simp [t2]
    rw [if_pos t2]
    simp -dsimp [Tt, hb, hlg, set_ne, kn, nk, kn1, n1k, nn1, n1n, hm, pObj, pC, errD, hbd, nilE, I, hct, hct', wc, wa, k1', S, tL', t1', t2']
    rw [hp1]
    have hN := fun (M : Mem) (h : M k = some (pObj l p1)) => cNamed hl true (by omega) H hkn2 h hb1
    rw [← hd'] at hN
    refine aCall_of (hN _ (by simp)) ?_
    rintro d m' n' ⟨⟨t', rfl, ht'⟩, rfl, rfl⟩
    simp -dsimp [set_ne, kn, nk, kn1, n1k, nn1, n1n]
    refine tyq t' (pur_tyA t').pub ht' (by simp [set_ne, kn]) fun j hj hjk => ?_
    obtain ⟨j1, j2, j3, j4⟩ := fr j hj hjk
    simp [set_ne, j1, j2, j3, j4, hjk]
  have t2' : (tx == [91]) = false := by simp [t2]
  rw [if_neg t2]
  by_cases t3 : tx = [40]
  · have t3' : (tx == [40]) = true := by simp [t3]
    rw [if_pos t3]
    simp -dsimp [Tt, hb, hlg, set_ne, kn, nk, kn1, n1k, nn1, n1n, hm, pObj, pC, errD, hbd, nilE, I, hct, hct', wc, wa, k1', S, tL', t1', t2', t3']
    rw [hp1]
    have hN := fun (M : Mem) (h : M k = some (pObj l p1)) => cFunction hl (by omega) H hkn2 h hb1
    rw [← hd'] at hN
    refine aCall_of (hN _ (by simp)) ?_
    rintro d m' n' ⟨⟨t', rfl, ht'⟩, rfl, rfl⟩
    simp -dsimp [set_ne, kn, nk, kn1, n1k, nn1, n1n]
    refine tyq t' (pur_tyA t').pub ht' (by simp [set_ne, kn]) fun j hj hjk => ?_
    obtain ⟨j1, j2, j3, j4⟩ := fr j hj hjk
    simp [set_ne, j1, j2, j3, j4, hjk]
  have t3' : (tx == [40]) = false := by simp [t3]
  rw [if_neg t3]
  by_cases t4 : tx = [60]
  · have t4' : (tx == [60]) = true := by simp [t4]
    rw [if_pos t4]
    simp -dsimp [Tt, hb, hlg, set_ne, kn, nk, kn1, n1k, nn1, n1n, hm, pObj, pC, errD, hbd, nilE, I, hct, hct', wc, wa, k1', S, tL', t1', t2', t3', t4']
    rw [hp1]
    refine aCall_of (cName hl false 56 (fun s hs => cSmall s (by omega)) (p := p1) hkn2 (by simp)) ?_
    rintro d m' n' ⟨rfl, rfl, rfl⟩
    simp -dsimp [set_ne, kn, nk, kn1, n1k, nn1, n1n]
    refine aCall_of (cNumber hl (p := (nameF false l p1).2) hkn2 (by simp)) ?_
    rintro d m' n' ⟨rfl, rfl, rfl⟩
    simp -dsimp [set_ne, kn, nk, kn1, n1k, nn1, n1n, kn2, n2k, n2n, nn2, n21, n12]
    refine aCall_of (cName hl false 56 (fun s hs => cSmall s (by omega)) (p := (numF l (nameF false l p1).2).2) hkn3 (by simp [set_ne, kn2])) ?_
    rintro d m' n' ⟨rfl, rfl, rfl⟩
    simp -dsimp [set_ne, kn, nk, kn1, n1k, nn1, n1n, kn2, n2k, n2n, nn2, n21, n12]
    refine aCall_of (cName hl true 60 (fun s hs => cGreat s (by omega)) (p := (nameF false l (numF l (nameF false l p1).2).2).2) hkn3 (by simp [set_ne, kn2])) ?_
    rintro d m' n' ⟨rfl, rfl, rfl⟩
    simp -dsimp [set_ne, kn, nk, kn1, n1k, nn1, n1n, kn2, n2k, n2n, nn2, n21, n12]
    refine aCall_of (cMust hl [62] (p := (nameF true l (nameF false l (numF l (nameF false l p1).2).2).2).2) hkn3 (by simp [set_ne, kn2])) ?_
    rintro d m' n' ⟨rfl, rfl, rfl⟩
    simp -dsimp [set_ne, kn, nk, kn1, n1k, nn1, n1n, kn2, n2k, n2n, nn2, n21, n12]
    refine tyq (openF l p1).1 (pub_build 9 _ _ _ _) (fun _ => rfl) (by simp [openF, set_ne, kn, kn2]) fun j hj hjk => ?_
    obtain ⟨j1, j2, j3, j4⟩ := fr j hj hjk
    simp [set_ne, j1, j2, j3, j4, hjk]
  have t4' : (tx == [60]) = false := by simp [t4]
  rw [if_neg t4]
  simp -dsimp [Tt, hb, hlg, set_ne, kn, nk, kn1, n1k, nn1, n1n, hm, pObj, pC, errD, hbd, nilE, I, hct, hct', wc, wa, k1', S, tL', t1', t2', t3', t4']
  rw [hp1]
  refine aCall_of (cBase tx _ _) ?_
  rintro d m' n' ⟨rfl, rfl, rfl⟩
  by_cases b0 : 0 < baseN tx
  · rw [if_pos b0]
    have b0' : (0 : Int) < baseN tx := by omega
    simp -dsimp [set_ne, kn, nk, kn1, n1k, nn1, n1n, I, S, b0, b0']
    refine tyq (.mk (baseN tx) [] 0 [] [] [] []) (pub_build _ [] 0 [] []) (fun _ => rfl) (by simp [set_ne, kn]) fun j hj hjk => ?_
    obtain ⟨j1, j2, j3, j4⟩ := fr j hj hjk
    simp [set_ne, j1, j2, j3, j4, hjk]
  · rw [if_neg b0]
    have b0' : ¬ (0 : Int) < baseN tx := by omega
    simp -dsimp [set_ne, kn, nk, kn1, n1k, nn1, n1n, I, S, b0, b0']
    refine tyq (localT [] tx) (pub_build 8 [] 0 [] tx) (fun _ => rfl) (by simp [set_ne, kn]) fun j hj hjk => ?_
    obtain ⟨j1, j2, j3, j4⟩ := fr j hj hjk
    simp [set_ne, j1, j2, j3, j4, hjk]
theorem typC {l : List Tok} (hl : TkOk l) : ∀ r, r ≤ 32 → TypC l r
  | 0, h => cTyp hl h fun r' e => by omega
  | r + 1, h => cTyp hl h fun r' e => by
    obtain rfl : r = r' := by omega
    exact typC hl r (by omega)
end Go.Proofs.Mv.App
open Go Go.Proofs Go.Proofs.Mv.V
set_option maxRecDepth 10000
namespace Go.Proofs.Mv.App
theorem cFailI [GI] {l : List Tok} (i : Int) {k : Nat} {m : Mem} {n : Nat} (hk : k < n) (hm : m k = some ⟨4, [[toksD l, I i, I 0, nilE]], 0⟩) :
    ACalls Tryz.prog 107 [.ptr k 0 0 0, I 2] m n (fun d m' n' => d = .tup [] ∧ m' = m.set k ⟨4, [[toksD l, I i, I 0, spotE i 2]], 0⟩ ∧ n' = n) := by
  have kn : k ≠ n := by omega
  have nk : n ≠ k := by omega
  refine acalls_put (R' := Hq (fun d m' n' => d = .tup [] ∧ (∃ q, n ≤ q ∧ m' k = some ⟨4, [[toksD l, I i, I 0, .iface 60 (.ptr q 0 0 0)]], 0⟩ ∧ m' q = some ⟨2, [[I i, code 2]], 0⟩) ∧ ∀ j, j < n → j ≠ k → m' j = m j) tg) k hk _ ?_ ?_
  · refine acalls_vc [0, 1, 8] Tryz.func107 Tryz.ntmps107 (by kernel_rfl) rfl rfl (by simp) ?_
    simp -dsimp [hm, nilE, set_ne, kn, nk]
    refine hq ⟨rfl, ⟨n, Nat.le_refl _, by simp, by simp [set_ne, nk, code, I]⟩, fun j hj hjk => ?_⟩
    rw [set_ne _ _ _ _ hjk, set_ne _ _ _ _ (by omega)]
  · rintro d m' n' ⟨rfl, ⟨q, h1, h2, h3⟩, h4⟩
    exact ⟨_, _, pur_tup0.pub, h2, .cons (.cons (pur_toks l).pub (.cons (pur_I _).pub (.cons (pur_I _).pub (.cons (.iface (.ptr h3 h1 (.cons (pur_I _).pub (.cons (pur_code _).pub .nil)))) .nil)))) .nil, h4, rfl⟩
set_option maxHeartbeats 2000000 in
theorem cAt {l : List Tok} (hl : TkOk l) (i : Int) (m : Mem) (n : Nat) : ACalls Tryz.prog 61 [toksD l, I i] m n (fun d m' n' => d = .tup [.agg (tyD (atF l i).1), I (atF l i).2.1, errO (atF l i).2.2] ∧ m' = m ∧ n' = n) := by
  refine acalls_done (R' := Hq (fun d m' n' => (∃ dt, d = .tup [dt, I (atF l i).2.1, errO (atF l i).2.2] ∧ PubAs n m' dt (.agg (tyD (atF l i).1))) ∧ ∀ j, j < n → m' j = m j) tg) ?_ ?_
  · have hll : (l.map tokD).length = l.length := by simp
    have nn1 : n ≠ n + 1 := by omega
    have n1n : n + 1 ≠ n := by omega
    have hn1 : n + 1 < n + 1 + 1 := by omega
    have bad : i < 0 ∨ (l.length : Int) < i → atF l i = (Ty0, 0, some (i, 2)) := fun h => by rw [atF, if_pos h]
    have hT : toksD l = .sl 3 (l.map tokD) := rfl
    refine acalls_vcC [0, 1, 4, 5, 6, 7, 8, 20, 34] Tryz.func61 Tryz.ntmps61 (by kernel_rfl) rfl rfl (by simp) ?_
    by_cases h1 : i < 0
    · rw [bad (.inl h1)]
      simp -dsimp [I, h1]
      refine aCall_of (cFailI (l := l) i hn1 (by simp [I, nilE])) ?_
      rintro d m' n' ⟨rfl, rfl, rfl⟩
      simp -dsimp [set_ne, nn1, n1n]
      refine vdraw_of [0, 0, 2, 6, 14, 1, 33, 127] [0, 1, 2, 3, 4, 5, 6, 7] (by kernel_rfl) (by kernel_rfl) ?_
      simp -dsimp [set_ne, nn1, n1n]
      refine hq ⟨⟨_, rfl, by simpa [I, S] using pub_ty0⟩, fun j hj => ?_⟩
      have j1 : j ≠ n := by omega
      have j2 : j ≠ n + 1 := by omega
      simp [set_ne, j1, j2]
    by_cases h2 : (l.length : Int) < i
    · rw [bad (.inr h2)]
      generalize hL : l.map tokD = L at hll hT
      simp -dsimp [I, h1, hT, hll, h2]
      rw [← hT]
      refine aCall_of (cFailI (l := l) i hn1 (by simp [I, nilE])) ?_
      rintro d m' n' ⟨rfl, rfl, rfl⟩
      simp -dsimp [set_ne, nn1, n1n]
      refine vdraw_of [0, 0, 2, 6, 14, 1, 33, 127] [0, 1, 2, 3, 4, 5, 6, 7] (by kernel_rfl) (by kernel_rfl) ?_
      simp -dsimp [set_ne, nn1, n1n]
      refine hq ⟨⟨_, rfl, by simpa [I, S] using pub_ty0⟩, fun j hj => ?_⟩
      have j1 : j ≠ n := by omega
      have j2 : j ≠ n + 1 := by omega
      simp [set_ne, j1, j2]
    obtain ⟨q, hqi⟩ : ∃ q : Nat, i = q := ⟨i.toNat, by omega⟩
    subst hqi
    have hgo : atF l q = if (typF l 32 ⟨q, 0, 0⟩).2.bad ≠ 0 then (Ty0, 0, some (((typF l 32 ⟨q, 0, 0⟩).2.at_ : Int), (typF l 32 ⟨q, 0, 0⟩).2.bad)) else ((typF l 32 ⟨q, 0, 0⟩).1, (typF l 32 ⟨q, 0, 0⟩).2.at_, none) := by
      rw [atF, if_neg (by omega)]; rfl
    have h2' : ¬ l.length < q := by omega
    have hobj : (⟨4, [[toksD l, .v (.int .i64 (q : Int)), .v (.int .i64 0), .v .nilIface]], 0⟩ : V.Obj) = pObj l ⟨q, 0, 0⟩ := by simp [pObj, pC, errD, I, nilE]
    generalize hL : l.map tokD = L at hll hT
    simp -dsimp [I, h1, hT, hll, h2, h2']
    rw [← hT, hobj]
    have ht := typC hl 32 (by omega) ⟨q, 0, 0⟩ (n + 1) (m.set n ⟨7, [[D.v (.int .i64 0), .v (.string (ofL [])), .v (.int .i64 0), .v (.string (ofL [])), .v (.string (ofL [])), .v (.slice none 0 0), .v (.slice none 0 0)]], 0⟩ |>.set (n + 1) (pObj l ⟨q, 0, 0⟩)) (n + 1 + 1) hn1 (by simp)
    refine aCall_of ht ?_
    rintro d m' n' ⟨⟨t', rfl, ht'⟩, rfl, rfl⟩
    rw [hgo]
    generalize typF l 32 ⟨q, 0, 0⟩ = x at ht' ⊢
    have n2n : n + 1 + 1 ≠ n := by omega
    have nn2 : n ≠ n + 1 + 1 := by omega
    have n21 : n + 1 + 1 ≠ n + 1 := by omega
    have n12 : n + 1 ≠ n + 1 + 1 := by omega
    by_cases hb : x.2.bad = 0
    · rw [if_neg (by simp [hb])]
      simp -dsimp [set_ne, nn1, n1n, n2n, nn2, n21, n12, pObj, pC, errD, hb, nilE, I]
      refine vdraw_of [0, 0, 2, 6, 14, 1, 63, 127] [0, 1, 2, 3, 4, 5, 6, 7] (by kernel_rfl) (by kernel_rfl) ?_
      simp -dsimp [set_ne, nn1, n1n, n2n, nn2, n21, n12, pObj, pC, errD, hb, nilE, I]
      refine hq ⟨⟨_, rfl, by rw [ht' hb]; exact (pur_tyA _).pub⟩, fun j hj => ?_⟩
      have j1 : j ≠ n := by omega
      have j2 : j ≠ n + 1 := by omega
      have j3 : j ≠ n + 1 + 1 := by omega
      simp [set_ne, j1, j2, j3]
    · rw [if_pos (by simp [hb])]
      simp -dsimp [set_ne, nn1, n1n, n2n, nn2, n21, n12, pObj, pC, errD, hb, spotE, I]
      refine vdraw_of [0, 0, 2, 6, 14, 1, 33, 127] [0, 1, 2, 3, 4, 5, 6, 7] (by kernel_rfl) (by kernel_rfl) ?_
      simp -dsimp [set_ne, nn1, n1n, n2n, nn2, n21, n12, pObj, pC, errD, hb, spotE, I]
      refine hq ⟨⟨_, rfl, by simpa [I, S] using pub_ty0⟩, fun j hj => ?_⟩
      have j1 : j ≠ n := by omega
      have j2 : j ≠ n + 1 := by omega
      have j3 : j ≠ n + 1 + 1 := by omega
      simp [set_ne, j1, j2, j3]
  · rintro d m' n' ⟨⟨dt, rfl, h⟩, hf⟩
    exact ⟨_, pub_three h (pur_I _).pub (pur_errO _).pub, hf, rfl⟩
end Go.Proofs.Mv.App
open Go Go.Proofs Go.Proofs.Mv.V
set_option maxRecDepth 10000
namespace Go.Proofs.Mv.App
theorem isNum_ok {l : List Tok} {p : PS} (h : isNum l p = true) : numOk (curT l p) = true := by
  unfold isNum at h; unfold curT
  cases hc : cur l p with
  | none => rw [hc] at h; cases h
  | some t => rw [hc] at h; simp only [Bool.and_eq_true] at h; exact h.2
theorem cAtoiT (l : List Tok) (p : PS) (m : Mem) (n : Nat) : ACalls Tryz.prog 57 [S (takeF (isNum l p) l p).1] m n (fun d m' n' => ∃ e, d = .tup [I (numV l p), e] ∧ m' = m ∧ n' = n) := by
  cases h : isNum l p with
  | true =>
    simp only [takeF, numV, h, if_true]
    exact cAtoiNum (isNum_ok h) m n
  | false =>
    simp only [takeF, numV, h, Bool.false_eq_true, if_false]
    exact cAtoi0 m n
set_option maxHeartbeats 1000000 in
theorem cUImp {l : List Tok} (hl : TkOk l) {p : PS} (hb : p.bad = 0) (ha : p.at_ < l.length) {k : Nat} {m : Mem} {n : Nat} (hk : k < n) (hm : m k = some (sObj l p)) :
    ACalls Tryz.prog 24 [.ptr k 0 0 0] m n (fun d m' n' => d = .agg (impD (impR l (stepF p))) ∧ m' = m.set k (sObj l (impF l (stepF p)).2) ∧ n' = n) := by
  have kn : k ≠ n := by omega
  have nk : n ≠ k := by omega
  have kn1 : k ≠ n + 1 := by omega
  have n1k : n + 1 ≠ k := by omega
  have nn1 : n ≠ n + 1 := by omega
  have n1n : n + 1 ≠ n := by omega
  have k1 : k < n + 1 := by omega
  have k2 : k < n + 1 + 1 := by omega
  have hmx : m k = some ⟨3, [[toksD l, .v (.int .i64 p.at_), .v .nilIface]], 0⟩ := by rw [hm]; simp [sObj, sC, errS, hb, I, nilE]
  have wa := wrap_at hl ha
  have hst := sObj_step (l := l) hb
  refine acalls_fin (X := fun d => d = .agg (impD (impR l (stepF p)))) hk (pur_sObj _ _) (fun d h => by rw [h]; exact pur_imp _) ?_
  refine acalls_vcC [0, 2, 3] Tryz.func24 Tryz.ntmps24 (by kernel_rfl) rfl rfl (by simp) ?_
  simp -dsimp [hmx, wa, set_ne, kn, nk]
  rw [← hst]
  generalize stepF p = q
  refine aCall_of (cUPnam hl false (p := q) fineS k1 (by simp [set_ne, kn, kn1])) ?_
  rintro d m2 n2 ⟨rfl, rfl, rfl⟩
  have e1 : nameS false l q = imp1 l q := rfl
  rw [e1]
  simp -dsimp [I, S, set_ne, kn, nk, kn1, n1k, nn1, n1n]
  refine aCall_of (cUPnum hl (p := (imp1 l q).2) k2 (by simp [set_ne, kn, kn1])) ?_
  rintro d m2 n2 ⟨rfl, rfl, rfl⟩
  have e2 : numS l (imp1 l q).2 = imp2 l q := rfl
  rw [e2]
  simp -dsimp
  refine aCall_of (cAtoiT l (imp1 l q).2 _ _) ?_
  rintro d m2 n2 ⟨ee, rfl, rfl, rfl⟩
  simp -dsimp [I, S, set_ne, kn, nk, kn1, n1k, nn1, n1n]
  refine aCall_of (cUPnam hl false (p := imp2 l q) fineS k2 (by simp [set_ne, kn, kn1])) ?_
  rintro d m2 n2 ⟨rfl, rfl, rfl⟩
  have e3 : nameS false l (imp2 l q) = imp3 l q := rfl
  rw [e3]
  simp -dsimp [I, S, set_ne, kn, nk, kn1, n1k, nn1, n1n]
  refine pcall (cExact wAs) ?_
  simp -dsimp
  refine aCall_of (cUPkey hl wAs (p := (imp3 l q).2) k2 (by simp [set_ne, kn, kn1])) ?_
  rintro d m2 n2 ⟨rfl, rfl, rfl⟩
  have e4 : (takeF (isKey wAs l (imp3 l q).2) l (imp3 l q).2).2 = imp4 l q := rfl
  rw [e4]
  simp -dsimp [I, S, set_ne, kn, nk, kn1, n1k, nn1, n1n]
  refine aCall_of (cUPnam hl false (p := imp4 l q) fineS k2 (by simp [set_ne, kn, kn1])) ?_
  rintro d m2 n2 ⟨rfl, rfl, rfl⟩
  have e5 : nameS false l (imp4 l q) = imp5 l q := rfl
  rw [e5]
  simp -dsimp [I, S, set_ne, kn, nk, kn1, n1k, nn1, n1n]
  refine fin_mk rfl (by simp [set_ne, kn, kn1, impF]) fun j hj hjk => ?_
  have j1 : j ≠ n := by omega
  have j2 : j ≠ n + 1 := by omega
  simp [set_ne, hjk, j1, j2]
theorem pub_ln0 {n : Nat} {m : Mem} (kd : Int) (a b : List UInt8) : PubAs n m (.agg [.v (.int .i64 kd), .v (.string (ofL a)), .v (.string (ofL b)), .v (.int .i64 0), .v (.string (ofL [])), .v (.int .i64 0), .v (.string (ofL [])), .v (.string (ofL [])), .v (.slice none 0 0), .v (.slice none 0 0)]) (.agg (lnD ⟨kd, a, b, Ty0⟩)) := by
  simp only [lnD, tyD_zero]
  exact .agg (.cons (pur_I _).pub (.cons (pur_S _).pub (.cons (pur_S _).pub (.cons (pur_I _).pub (.cons (pur_S _).pub (.cons (pur_I _).pub (.cons (pur_S _).pub (.cons (pur_S _).pub (.cons (pub_nil 1) (.cons (pub_nil 7) .nil))))))))))
set_option maxHeartbeats 4000000 in
theorem cULine {l : List Tok} (hl : TkOk l) {p : PS} (hb : p.bad = 0) (ha : p.at_ < l.length) {k : Nat} {m : Mem} {n : Nat} (hk : k < n) (hm : m k = some (sObj l p)) :
    ACalls Tryz.prog 25 [.ptr k 0 0 0] m n (fun d m' n' => d = .agg (lnD (lineF l p).1) ∧ m' = m.set k (sObj l (lineF l p).2) ∧ n' = n) := by
  have kn : k ≠ n := by omega
  have nk : n ≠ k := by omega
  have kn1 : k ≠ n + 1 := by omega
  have n1k : n + 1 ≠ k := by omega
  have nn1 : n ≠ n + 1 := by omega
  have n1n : n + 1 ≠ n := by omega
  have k1 : k < n + 1 := by omega
  have k2 : k < n + 1 + 1 := by omega
  have hmx : m k = some ⟨3, [[toksD l, .v (.int .i64 p.at_), .v .nilIface]], 0⟩ := by rw [hm]; simp [sObj, sC, errS, hb, I, nilE]
  have wa := wrap_at hl ha
  have hst := sObj_step (l := l) hb
  refine acalls_put (X := fun d => d = .agg (lnD (lineF l p).1)) (R' := Hq (fun d m' n' => PubAs n m' d (.agg (lnD (lineF l p).1)) ∧ m' k = some (sObj l (lineF l p).2) ∧ ∀ j, j < n → j ≠ k → m' j = m j) tg) k hk _ ?_ ?_
  rotate_left
  · rintro d m' n' ⟨h1, h3, h4⟩
    exact ⟨.agg (lnD (lineF l p).1), _, h1, h3, .pur (pur_sObj _ _), h4, rfl⟩
  refine acalls_vcC [0, 2, 3, 4, 5, 6, 9, 37] Tryz.func25 Tryz.ntmps25 (by kernel_rfl) rfl rfl (by simp) ?_
  simp -dsimp [I, S]
  refine aCall_of (cUBeg hl (p := p) wIs k2 (by simp [set_ne, kn, kn1, hm])) ?_
  rintro d m' n' ⟨rfl, rfl, rfl⟩
  cases hg : isKey wIs l p
  · have e : lineF l p = (⟨1, (ln1 l (stepF p)).1, (ln3 false l (stepF p)).1, (ln5 false l (stepF p)).1⟩, (ln5 false l (stepF p)).2) := by simp [lineF, hg]
    rw [e]
    simp -dsimp [Tt, hmx, wa, set_ne, kn, nk, kn1, n1k, nn1, n1n, I, S]
    rw [← hst]
    generalize stepF p = q
    refine aCall_of (cUPnam hl false (p := q) fineS k2 (by simp [set_ne, kn, kn1])) ?_
    rintro d m2 n2 ⟨rfl, rfl, rfl⟩
    have e1 : nameS false l q = ln1 l q := rfl
    rw [e1]
    simp -dsimp [I, S, set_ne, kn, nk, kn1, n1k, nn1, n1n]
    refine pcall (cExact [46]) ?_
    simp -dsimp
    refine aCall_of (cUPsig hl [46] (p := (ln1 l q).2) k2 (by simp [set_ne, kn, kn1])) ?_
    rintro d m2 n2 ⟨rfl, rfl, rfl⟩
    have e2 : mustS [46] l (ln1 l q).2 = ln2 l q := rfl
    rw [e2]
    simp -dsimp [I, S, set_ne, kn, nk, kn1, n1k, nn1, n1n]
    refine aCall_of (cUPnam hl false (p := ln2 l q) fineS k2 (by simp [set_ne, kn, kn1])) ?_
    rintro d m2 n2 ⟨rfl, rfl, rfl⟩
    have e3 : nameS false l (ln2 l q) = ln3 false l q := rfl
    rw [e3]
    simp -dsimp [I, S, set_ne, kn, nk, kn1, n1k, nn1, n1n]
    refine pcall (cExact [58]) ?_
    simp -dsimp
    refine aCall_of (cUPsig hl [58] (p := (ln3 false l q).2) k2 (by simp [set_ne, kn, kn1])) ?_
    rintro d m2 n2 ⟨rfl, rfl, rfl⟩
    have e4 : mustS [58] l (ln3 false l q).2 = ln4 false l q := rfl
    have e5 : ln5 false l q = typS l (ln4 false l q) := rfl
    rw [e4, e5]
    generalize ln4 false l q = q4
    by_cases h4 : q4.bad = 0
    case neg =>
      have e6 : typS l q4 = (Ty0, q4) := by rw [typS, if_neg h4]
      rw [e6]
      simp -dsimp [I, S, set_ne, kn, nk, kn1, n1k, nn1, n1n, sObj, sC, errS, h4, spotE]
      refine hq ⟨pub_ln0 _ _ _, by simp [set_ne, kn, kn1, sObj, sC, errS, h4, spotE, I], fun j hj hjk => ?_⟩
      have j1 : j ≠ n := by omega
      have j2 : j ≠ n + 1 := by omega
      simp [set_ne, hjk, j1, j2]
    have e6 : typS l q4 = match (atF l q4.at_).2.2 with
      | some (a, c) => (Ty0, ⟨0, a.toNat, c⟩)
      | none => ((atF l q4.at_).1, ⟨(atF l q4.at_).2.1, q4.cnt, 0⟩) := by rw [typS, if_pos h4]; rfl
    rw [e6]
    simp -dsimp [I, S, set_ne, kn, nk, kn1, n1k, nn1, n1n, sObj, sC, errS, h4, nilE]
    refine vdraw_tree [0, 0, 0, 4, 12, 28, 0, 64, 192, 448, 1020, 2044, 4092, 4092, 4092, 8188, 40956, 114685, 245757, 507901, 1048575, 2097151, 4194303] (.rd 0 (.rd 1 (.rd 2 (.rd 3 (.rd 4 (.rd 5 (.rd 6 (.rd 7 (.rd 8 (.rd 9 (.wr (.cons 10 (.rd 11 (.rd 12 (.rd 13 (.rd 14 (.rd 15 (.wr (.cons 16 (.rd 17 (.rd 18 (.wr (.cons 19 (.rd 20 (.rd 21 (.wr (.cons 22 (.fin) (.nil))))) (.nil))))) (.nil)))))))) (.nil))))))))))))) (by kernel_rfl) (by kernel_rfl) ?_
    simp -dsimp [I, S, set_ne, kn, nk, kn1, n1k, nn1, n1n, sObj, sC, errS, h4, nilE]
    have hab := fun a c => atF_bad (l := l) (i := q4.at_) (a := a) (c := c)
    have hnn := fun a c => atF_nn (l := l) (q := q4.at_) (a := a) (c := c)
    have hat := fun m n => cAt hl (q4.at_ : Int) m n
    generalize atF l q4.at_ = A at hab hnn hat ⊢
    refine aCall_of (hat _ _) ?_
    rintro d m' n' ⟨rfl, rfl, rfl⟩
    obtain ⟨t, nx, o⟩ := A
    have hdl : (tyD t).length = 7 := tyD_len t
    cases o with
    | none =>
      simp -dsimp [I, S, set_ne, kn, nk, kn1, n1k, nn1, n1n, errO, nilE, hdl]
      refine hq ⟨(Pur.agg (pur_ln ⟨1, _, _, _⟩)).pub, by simp [set_ne, kn, nk, kn1, n1k, nn1, n1n, sObj, sC, errS, errO, nilE, I], fun j hj hjk => ?_⟩
      have j1 : j ≠ n := by omega
      have j2 : j ≠ n + 1 := by omega
      simp [set_ne, hjk, j1, j2]
    | some x =>
      obtain ⟨a, c⟩ := x
      obtain ⟨hc, ht, hnx⟩ := hab a c rfl
      have h0 := hnn a c rfl
      simp only at ht hnx
      subst ht; subst hnx
      simp -dsimp [I, S, set_ne, kn, nk, kn1, n1k, nn1, n1n, errO, nilE, spotE, hdl]
      refine hq ⟨(Pur.agg (pur_ln ⟨1, _, _, Ty0⟩)).pub, by simp [set_ne, kn, nk, kn1, n1k, nn1, n1n, sObj, sC, errS, errO, nilE, spotE, I, hc, Int.toNat_of_nonneg h0], fun j hj hjk => ?_⟩
      have j1 : j ≠ n := by omega
      have j2 : j ≠ n + 1 := by omega
      simp [set_ne, hjk, j1, j2]
  · have e : lineF l p = (⟨2, (ln1 l (stepF p)).1, (ln3 true l (stepF p)).1, (ln5 true l (stepF p)).1⟩, (ln5 true l (stepF p)).2) := by simp [lineF, hg]
    rw [e]
    simp -dsimp [Tt, hmx, wa, set_ne, kn, nk, kn1, n1k, nn1, n1n, I, S]
    rw [← hst]
    generalize stepF p = q
    refine aCall_of (cUPnam hl false (p := q) fineS k2 (by simp [set_ne, kn, kn1])) ?_
    rintro d m2 n2 ⟨rfl, rfl, rfl⟩
    have e1 : nameS false l q = ln1 l q := rfl
    rw [e1]
    simp -dsimp [I, S, set_ne, kn, nk, kn1, n1k, nn1, n1n]
    refine pcall (cExact [46]) ?_
    simp -dsimp
    refine aCall_of (cUPsig hl [46] (p := (ln1 l q).2) k2 (by simp [set_ne, kn, kn1])) ?_
    rintro d m2 n2 ⟨rfl, rfl, rfl⟩
    have e2 : mustS [46] l (ln1 l q).2 = ln2 l q := rfl
    rw [e2]
    simp -dsimp [I, S, set_ne, kn, nk, kn1, n1k, nn1, n1n]
    refine aCall_of (cUPnam hl true (p := ln2 l q) fineG k2 (by simp [set_ne, kn, kn1])) ?_
    rintro d m2 n2 ⟨rfl, rfl, rfl⟩
    have e3 : nameS true l (ln2 l q) = ln3 true l q := rfl
    rw [e3]
    simp -dsimp [I, S, set_ne, kn, nk, kn1, n1k, nn1, n1n]
    refine pcall (cExact [61]) ?_
    simp -dsimp
    refine aCall_of (cUPsig hl [61] (p := (ln3 true l q).2) k2 (by simp [set_ne, kn, kn1])) ?_
    rintro d m2 n2 ⟨rfl, rfl, rfl⟩
    have e4 : mustS [61] l (ln3 true l q).2 = ln4 true l q := rfl
    have e5 : ln5 true l q = typS l (ln4 true l q) := rfl
    rw [e4, e5]
    generalize ln4 true l q = q4
    by_cases h4 : q4.bad = 0
    case neg =>
      have e6 : typS l q4 = (Ty0, q4) := by rw [typS, if_neg h4]
      rw [e6]
      simp -dsimp [I, S, set_ne, kn, nk, kn1, n1k, nn1, n1n, sObj, sC, errS, h4, spotE]
      refine hq ⟨pub_ln0 _ _ _, by simp [set_ne, kn, kn1, sObj, sC, errS, h4, spotE, I], fun j hj hjk => ?_⟩
      have j1 : j ≠ n := by omega
      have j2 : j ≠ n + 1 := by omega
      simp [set_ne, hjk, j1, j2]
    have e6 : typS l q4 = match (atF l q4.at_).2.2 with
      | some (a, c) => (Ty0, ⟨0, a.toNat, c⟩)
      | none => ((atF l q4.at_).1, ⟨(atF l q4.at_).2.1, q4.cnt, 0⟩) := by rw [typS, if_pos h4]; rfl
    rw [e6]
    simp -dsimp [I, S, set_ne, kn, nk, kn1, n1k, nn1, n1n, sObj, sC, errS, h4, nilE]
    refine vdraw_tree [0, 0, 0, 4, 12, 28, 0, 64, 192, 448, 1020, 2044, 4092, 4092, 4092, 8188, 40956, 114685, 245757, 507901, 1048575, 2097151, 4194303] (.rd 0 (.rd 1 (.rd 2 (.rd 3 (.rd 4 (.rd 5 (.rd 6 (.rd 7 (.rd 8 (.rd 9 (.wr (.cons 10 (.rd 11 (.rd 12 (.rd 13 (.rd 14 (.rd 15 (.wr (.cons 16 (.rd 17 (.rd 18 (.wr (.cons 19 (.rd 20 (.rd 21 (.wr (.cons 22 (.fin) (.nil))))) (.nil))))) (.nil)))))))) (.nil))))))))))))) (by kernel_rfl) (by kernel_rfl) ?_
    simp -dsimp [I, S, set_ne, kn, nk, kn1, n1k, nn1, n1n, sObj, sC, errS, h4, nilE]
    have hab := fun a c => atF_bad (l := l) (i := q4.at_) (a := a) (c := c)
    have hnn := fun a c => atF_nn (l := l) (q := q4.at_) (a := a) (c := c)
    have hat := fun m n => cAt hl (q4.at_ : Int) m n
    generalize atF l q4.at_ = A at hab hnn hat ⊢
    refine aCall_of (hat _ _) ?_
    rintro d m' n' ⟨rfl, rfl, rfl⟩
    obtain ⟨t, nx, o⟩ := A
    have hdl : (tyD t).length = 7 := tyD_len t
    cases o with
    | none =>
      simp -dsimp [I, S, set_ne, kn, nk, kn1, n1k, nn1, n1n, errO, nilE, hdl]
      refine hq ⟨(Pur.agg (pur_ln ⟨2, _, _, _⟩)).pub, by simp [set_ne, kn, nk, kn1, n1k, nn1, n1n, sObj, sC, errS, errO, nilE, I], fun j hj hjk => ?_⟩
      have j1 : j ≠ n := by omega
      have j2 : j ≠ n + 1 := by omega
      simp [set_ne, hjk, j1, j2]
    | some x =>
      obtain ⟨a, c⟩ := x
      obtain ⟨hc, ht, hnx⟩ := hab a c rfl
      have h0 := hnn a c rfl
      simp only at ht hnx
      subst ht; subst hnx
      simp -dsimp [I, S, set_ne, kn, nk, kn1, n1k, nn1, n1n, errO, nilE, spotE, hdl]
      refine hq ⟨(Pur.agg (pur_ln ⟨2, _, _, Ty0⟩)).pub, by simp [set_ne, kn, nk, kn1, n1k, nn1, n1n, sObj, sC, errS, errO, nilE, spotE, I, hc, Int.toNat_of_nonneg h0], fun j hj hjk => ?_⟩
      have j1 : j ≠ n := by omega
      have j2 : j ≠ n + 1 := by omega
      simp [set_ne, hjk, j1, j2]
end Go.Proofs.Mv.App
