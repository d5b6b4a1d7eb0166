/- A part of the proofs of the seat YtdbfejminjaheaaGreatDoor: the abstract machine, the contracts of the functions, the laws. No condition of its own. -/
import Derived.Test.YtdbfejminjaheaaGreatDoorLckA
set_option linter.unusedSimpArgs false
set_option linter.unusedVariables false
set_option linter.unusedSectionVars false
open Go Go.Proofs Go.Proofs.Mv.V
set_option maxRecDepth 10000
namespace Go.Proofs.Mv.App
structure LockNeedsInv (l : List Dpn) (SL : List (List D)) (m : Mem) (n : Nat) (i : Nat) (σ : Nat → D) (m2 : Mem) (n2 : Nat) : Prop where
  h0 : σ 0 = .sl 7 SL
  h5 : σ 5 = .sl 7 SL
  h6 : σ 6 = I l.length
  h7 : σ 7 = I i
  le : i ≤ l.length
  al : allN okDp Dpn.pkg l i = true
  fr : ∀ j, j < n → m2 j = m j
  nn : n ≤ n2
set_option maxHeartbeats 200000 in
theorem cLockNeeds {l : List Dpn} (hw : ∀ p ∈ l, p.pkg.length ≤ 9223372036854775807) (hl : l.length ≤ 1000000) (m : Mem) (n : Nat) : ACalls Tryz.prog 12 [.sl 7 (l.map dpD)] m n (fun d m' n' => d = Tt (mayN l) ∧ m' = m ∧ n' = n) := by
  refine acalls_done (R' := Hq (fun d m' n' => d = Tt (mayN l) ∧ ∀ j, j < n → m' j = m j) tg) ?_ ?_
  · have hL2 : (l.map dpD).length = l.length := by simp
    have hG2 : ∀ i (h : i < l.length), (l.map dpD)[i]? = some (dpD l[i]) := fun i h => by simp [h]
    generalize l.map dpD = SL at hL2 hG2
    have hmay : mayN l = (allN okDp Dpn.pkg l l.length && decide (l.length ≤ 20)) := rfl
    refine acalls_vc [0, 2, 3, 4, 5, 6, 7, 8, 36] Tryz.func12 Tryz.ntmps12 (by kernel_rfl) rfl rfl (by simp) ?_
    simp -dsimp [I, hL2]
    refine vloop_of (β := Nat) (LockNeedsInv l SL m n) (fun i => l.length - i) 0 ⟨by simp, by simp, by simp [I], by simp [I], by omega, by simp [allN], fun _ _ => rfl, Nat.le_refl _⟩ ?_
    rintro i σ m2 n2 ⟨h0, h5, h6, h7, le, al, fr, nn⟩
    by_cases hi : (i : Int) < l.length
    · have hi' : i < l.length := by omega
      have wi : IntKind.i64.wrap ((i : Int) + 1) = (i : Int) + 1 := wrap_i64 (by omega) (by omega)
      have hiN : i < SL.length := by omega
      have hgi : SL[i] = dpD l[i] := get_opt (hG2 i hi') hiN
      have hbad := allN_bad (ok := okDp) (nm := Dpn.pkg) hi'
      have hsc := allN_succ okDp Dpn.pkg l i
      have hc1 := fun m n => cSmall l[i].pkg (hw _ (List.getElem_mem hi')) m n
      have hc2 := fun m n => cMayRg l[i].lo l[i].hi m n
      have him : dpD l[i] = [S l[i].pkg, I l[i].lo.major, I l[i].lo.minor, I l[i].lo.patch, I l[i].hi.major, I l[i].hi.minor, I l[i].hi.patch] := rfl
      have hprev : ∀ k, i = k + 1 → ∃ q : List UInt8, ∃ r : List D, ∃ hk : k < SL.length, SL[k] = S q :: r ∧ stepN okDp Dpn.pkg l i = (okDp l[i] && ltB q l[i].pkg) := fun k e => by
        subst e
        have hk : k < l.length := by omega
        exact ⟨l[k].pkg, _, by omega, by rw [get_opt (hG2 k hk) (by omega)]; rfl, stepN_succ _ _ hi'⟩
      have hz : i = 0 → stepN okDp Dpn.pkg l i = okDp l[i] := fun e => by subst e; exact stepN_zero _ _ hi'
      have hok : okDp l[i] = (smallN l[i].pkg && mayRg l[i].lo l[i].hi) := rfl
      rw [hok] at hprev hz
      rw [him] at hgi
      clear him hok
      generalize l[i] = p at hgi hprev hz hc1 hc2
      generalize hgv : stepN okDp Dpn.pkg l i = stp at hprev hz hbad hsc
      obtain ⟨b, hb⟩ : ∃ b, stp = (smallN p.pkg && mayRg p.lo p.hi && b) := by
        rcases Nat.eq_zero_or_pos i with e | e
        · exact ⟨true, by rw [hz e]; simp⟩
        · obtain ⟨q, r, hk, _, e2⟩ := hprev (i - 1) (by omega)
          exact ⟨_, e2⟩
      have fr2 : ∀ o j, j < n → (m2.set n2 o) j = m j := fun o j hj => by rw [set_ne _ _ _ _ (by omega)]; exact fr j hj
      simp -dsimp [h0, h5, h6, h7, I, S, hL2, hi, hi', hiN, hgi]
      refine vdraw_tree [0, 1, 3, 7, 15, 31, 63, 127, 255, 511, 1023, 2047, 4095, 8191, 16383, 16383, 49151, 131071, 262143, 524287, 16383, 1064959, 4194303, 8388607, 16777215] (.rd 0 (.rd 1 (.wr (.cons 2 (.rd 3 (.rd 4 (.rd 5 (.rd 6 (.wr (.cons 7 (.rd 8 (.rd 9 (.rd 10 (.rd 11 (.rd 12 (.rd 13 (.rd 14 (.rd 15 (.rd 16 (.rd 17 (.rd 18 (.rd 19 (.rd 20 (.rd 21 (.rd 22 (.rd 23 (.rd 24 (.fin)))))))))))))))))) (.nil))))))) (.nil))))) (by kernel_rfl) (by kernel_rfl) ?_
      simp -dsimp [h0, h5, h6, h7, I, S, hL2, hi, hi', hiN, hgi]
      refine aCall_of (hc1 _ _) ?_
      rintro d m' n' ⟨rfl, rfl, rfl⟩
      cases e1 : smallN p.pkg with
      | false =>
        have hs : stp = false := by rw [hb, e1]; rfl
        simp -dsimp [h0, h5, h6, h7, I, S, Tt]
        exact hq ⟨by rw [hmay, hbad hs]; rfl, fr2 _⟩
      | true =>
      simp -dsimp [h0, h5, h6, h7, I, S, Tt]
      refine aCall_of (hc2 _ _) ?_
      rintro d m' n' ⟨rfl, rfl, rfl⟩
      cases e2 : mayRg p.lo p.hi with
      | false =>
        have hs : stp = false := by rw [hb, e1, e2]; rfl
        simp -dsimp [h0, h5, h6, h7, I, S, Tt]
        exact hq ⟨by rw [hmay, hbad hs]; rfl, fr2 _⟩
      | true =>
      by_cases i0 : i = 0
      · have i0' : ¬ (0 : Int) < i := by omega
        have i0n : ¬ 0 < i := by omega
        have hs : stp = true := by rw [hz i0, e1, e2]; rfl
        simp -dsimp [h0, h5, h6, h7, I, S, Tt, i0', i0n, wi]
        exact ⟨i + 1, by omega, by simp [h0], by simp [h5], by simp [h6, I], by simp [I], by omega, by rw [hsc, al, hs]; rfl, fr2 _, by omega⟩
      · have i1' : (0 : Int) < i := by omega
        have i1n : 0 < i := by omega
        obtain ⟨k, rfl⟩ : ∃ k, i = k + 1 := ⟨i - 1, by omega⟩
        obtain ⟨q, r, hk, hgk, hsq⟩ := hprev k rfl
        have wm : IntKind.i64.wrap (((k + 1 : Nat) : Int) - 1) = (k : Int) := by rw [wrap_i64 (by omega) (by omega)]; omega
        have hgk' : SL[k]? = some (S q :: r) := by rw [List.getElem?_eq_getElem hk, hgk]
        have hkl : k < l.length := by omega
        have wi2 : IntKind.i64.wrap ((k : Int) + 1 + 1) = (k : Int) + 1 + 1 := wrap_i64 (by omega) (by omega)
        have wk : IntKind.i64.wrap (k : Int) = (k : Int) := wrap_i64 (by omega) (by omega)
        have hle : (Op.bytesLess p.pkg q || (p.pkg == q)) = !ltB q p.pkg := leB p.pkg q
        cases c : ltB q p.pkg with
        | false =>
          have hlt : Op.bytesLess q p.pkg = false := c
          have hs : stp = false := by rw [hsq, c]; simp
          simp -dsimp [h0, h5, h6, h7, I, S, Tt, i1', i1n, wi, wi2, wm, wk, hL2, hk, hkl, hgk, hi', hle, hlt]
          exact hq ⟨by rw [hmay, hbad hs]; rfl, fr2 _⟩
        | true =>
          have hlt : Op.bytesLess q p.pkg = true := c
          have hs : stp = true := by rw [hsq, c, e1, e2]; rfl
          simp -dsimp [h0, h5, h6, h7, I, S, Tt, i1', i1n, wi, wi2, wm, wk, hL2, hk, hkl, hgk, hi', hle, hlt]
          exact ⟨k + 1 + 1, by omega, by simp [h0], by simp [h5], by simp [h6, I], by simp [I], by omega, by rw [hsc, al, hs]; rfl, fr2 _, by omega⟩
    · have : i = l.length := by omega
      subst this
      by_cases h2 : (l.length : Int) ≤ 20
      · have h2' : l.length ≤ 20 := by omega
        simp -dsimp [h0, h5, h6, h7, I, hL2, h2, h2']
        exact hq ⟨by rw [hmay, al]; simp [Tt, h2'], fr⟩
      · have h2' : ¬ l.length ≤ 20 := by omega
        simp -dsimp [h0, h5, h6, h7, I, hL2, h2, h2']
        exact hq ⟨by rw [hmay, al]; simp [Tt, h2'], fr⟩
  · rintro d m' n' ⟨rfl, h⟩
    exact ⟨_, (pur_T _).pub, h, rfl⟩
structure RLockMayInv (l : List Pck) (SL : List (List D)) (m : Mem) (n : Nat) (i : Nat) (σ : Nat → D) (m2 : Mem) (n2 : Nat) : Prop where
  h0 : σ 0 = .sl 4 SL
  h3 : σ 3 = I i
  le : i ≤ l.length
  al : allN okPk Pck.pkg l i = true
  mm : m2 = m
  nn : n2 = n
set_option maxHeartbeats 2000000 in
theorem cRLockMay {l : List Pck} (hl : l.length ≤ 1000000) (m : Mem) (n : Nat) : ACalls Tryz.prog 10 [.sl 4 (l.map pkD)] m n (fun d m' n' => d = Tt (mayL l) ∧ m' = m ∧ n' = n) := by
  refine acalls_done (R' := Hq (fun d m' n' => d = Tt (mayL l) ∧ ∀ j, j < n → m' j = m j) tg) ?_ ?_
  · have hL2 : (l.map pkD).length = l.length := by simp
    have hG2 : ∀ i (h : i < l.length), (l.map pkD)[i]? = some (pkD l[i]) := fun i h => by simp [h]
    generalize l.map pkD = SL at hL2 hG2
    have hmay : mayL l = (allN okPk Pck.pkg l l.length && decide (l.length ≤ 200)) := rfl
    refine acalls_vc [0, 2, 3, 4, 5, 9, 47] Tryz.func10 Tryz.ntmps10 (by kernel_rfl) rfl rfl (by simp) ?_
    simp -dsimp [I, hL2]
    refine vloop_of (β := Nat) (RLockMayInv l SL m n) (fun i => l.length - i) 0 ⟨by simp, by simp [I], by omega, by simp [allN], rfl, rfl⟩ ?_
    rintro i σ m2 n2 ⟨h0, h3, le, al, rfl, rfl⟩
    by_cases hi : (i : Int) < l.length
    · have hi' : i < l.length := by omega
      have wi : IntKind.i64.wrap ((i : Int) + 1) = (i : Int) + 1 := wrap_i64 (by omega) (by omega)
      have hiN : i < SL.length := by omega
      have hgi : SL[i] = pkD l[i] := get_opt (hG2 i hi') hiN
      have hbad := allN_bad (ok := okPk) (nm := Pck.pkg) hi'
      have hsc := allN_succ okPk Pck.pkg l i
      have hc1 := fun m n => cRefSmall l[i].pkg m n
      have hc2 := fun m n => cRMayV l[i].ver m n
      have him : pkD l[i] = [S l[i].pkg, I l[i].ver.major, I l[i].ver.minor, I l[i].ver.patch] := rfl
      have hprev : ∀ k, i = k + 1 → ∃ q : List UInt8, ∃ r : List D, ∃ hk : k < SL.length, SL[k] = S q :: r ∧ stepN okPk Pck.pkg l i = (okPk l[i] && ltB q l[i].pkg) := fun k e => by
        subst e
        have hk : k < l.length := by omega
        exact ⟨l[k].pkg, _, by omega, by rw [get_opt (hG2 k hk) (by omega)]; rfl, stepN_succ _ _ hi'⟩
      have hz : i = 0 → stepN okPk Pck.pkg l i = okPk l[i] := fun e => by subst e; exact stepN_zero _ _ hi'
      have hok : okPk l[i] = (smallN l[i].pkg && mayV l[i].ver) := rfl
      rw [hok] at hprev hz
      rw [him] at hgi
      clear him hok
      generalize l[i] = p at hgi hprev hz hc1 hc2
      generalize hgv : stepN okPk Pck.pkg l i = stp at hprev hz hbad hsc
      obtain ⟨b, hb⟩ : ∃ b, stp = (smallN p.pkg && mayV p.ver && b) := by
        rcases Nat.eq_zero_or_pos i with e | e
        · exact ⟨true, by rw [hz e]; simp⟩
        · obtain ⟨q, r, hk, _, e2⟩ := hprev (i - 1) (by omega)
          exact ⟨_, e2⟩
      simp -dsimp [h0, h3, I, S, hL2, hi, hi', hiN, hgi]
      refine aCall_of (hc1 _ _) ?_
      rintro d m' n' ⟨rfl, rfl, rfl⟩
      simp -dsimp [h0, h3, I, S, hL2, hi, hi', hiN, hgi]
      refine aCall_of (hc2 _ _) ?_
      rintro d m' n' ⟨rfl, rfl, rfl⟩
      cases e1 : smallN p.pkg with
      | false =>
        have hs : stp = false := by rw [hb, e1]; rfl
        simp -dsimp [h0, h3, I, S, Tt]
        refine vdraw_of [0, 1, 3, 7, 15, 31, 63, 127, 255, 511, 1023, 1023, 4095, 8191, 16383, 1023, 1023, 66559, 230399, 492543, 1016831, 2097151, 4194303, 8388607] [0, 1, 2, 3, 4, 5, 6, 7, 8, 9, 10, 11, 12, 13, 14, 15, 16, 17, 18, 19, 20, 21, 22, 23] (by kernel_rfl) (by kernel_rfl) ?_
        simp -dsimp [h0, h3, I, S, Tt]
        exact hq ⟨by rw [hmay, hbad hs]; rfl, fun _ _ => rfl⟩
      | true =>
      cases e2 : mayV p.ver with
      | false =>
        have hs : stp = false := by rw [hb, e1, e2]; rfl
        simp -dsimp [h0, h3, I, S, Tt]
        refine vdraw_of [0, 1, 3, 7, 15, 31, 63, 127, 255, 511, 1023, 1023, 4095, 8191, 16383, 1023, 1023, 66559, 230399, 492543, 1016831, 2097151, 4194303, 8388607] [0, 1, 2, 3, 4, 5, 6, 7, 8, 9, 10, 11, 12, 13, 14, 15, 16, 17, 18, 19, 20, 21, 22, 23] (by kernel_rfl) (by kernel_rfl) ?_
        simp -dsimp [h0, h3, I, S, Tt]
        exact hq ⟨by rw [hmay, hbad hs]; rfl, fun _ _ => rfl⟩
      | true =>
      by_cases i0 : i = 0
      · have i0' : ¬ (0 : Int) < i := by omega
        have i0n : ¬ 0 < i := by omega
        have hs : stp = true := by rw [hz i0, e1, e2]; rfl
        simp -dsimp [h0, h3, I, S, Tt, i0', i0n, wi]
        refine vdraw_of [0, 1, 3, 7, 15, 31, 63, 127, 255, 511, 1023, 1023, 4095, 8191, 16383, 1023, 1023, 66559, 230399, 492543, 1016831, 2097151, 4194303, 8388607] [0, 1, 2, 3, 4, 5, 6, 7, 8, 9, 10, 11, 12, 13, 14, 15, 16, 17, 18, 19, 20, 21, 22, 23] (by kernel_rfl) (by kernel_rfl) ?_
        simp -dsimp [h0, h3, I, S, Tt, i0', i0n, wi]
        exact ⟨i + 1, by omega, by simp [h0], by simp [I], by omega, by rw [hsc, al, hs]; rfl, rfl, rfl⟩
      · have i1' : (0 : Int) < i := by omega
        have i1n : 0 < i := by omega
        obtain ⟨k, rfl⟩ : ∃ k, i = k + 1 := ⟨i - 1, by omega⟩
        obtain ⟨q, r, hk, hgk, hsq⟩ := hprev k rfl
        have wm : IntKind.i64.wrap (((k + 1 : Nat) : Int) - 1) = (k : Int) := by rw [wrap_i64 (by omega) (by omega)]; omega
        have hkl : k < l.length := by omega
        have wi2 : IntKind.i64.wrap ((k : Int) + 1 + 1) = (k : Int) + 1 + 1 := wrap_i64 (by omega) (by omega)
        have wk : IntKind.i64.wrap (k : Int) = (k : Int) := wrap_i64 (by omega) (by omega)
        have hle : (Op.bytesLess p.pkg q || (p.pkg == q)) = !ltB q p.pkg := leB p.pkg q
        cases c : ltB q p.pkg with
        | false =>
          have hlt : Op.bytesLess q p.pkg = false := c
          have hs : stp = false := by rw [hsq, c]; simp
          simp -dsimp [h0, h3, I, S, Tt, i1', i1n, wi, wi2, wm, wk, hL2, hk, hkl, hgk, hi', hiN, hgi, hle, hlt, c]
          refine vdraw_of [0, 1, 3, 7, 15, 31, 63, 127, 255, 511, 1023, 1023, 4095, 8191, 16383, 1023, 1023, 66559, 230399, 492543, 1016831, 2097151, 4194303, 8388607] [0, 1, 2, 3, 4, 5, 6, 7, 8, 9, 10, 11, 12, 13, 14, 15, 16, 17, 18, 19, 20, 21, 22, 23] (by kernel_rfl) (by kernel_rfl) ?_
          simp -dsimp [h0, h3, I, S, Tt, i1', i1n, wi, wi2, wm, wk, hL2, hk, hkl, hgk, hi', hiN, hgi, hle, hlt, c]
          refine ⟨by omega, ?_⟩
          exact hq ⟨by rw [hmay, hbad hs]; rfl, fun _ _ => rfl⟩
        | true =>
          have hlt : Op.bytesLess q p.pkg = true := c
          have hs : stp = true := by rw [hsq, c, e1, e2]; rfl
          simp -dsimp [h0, h3, I, S, Tt, i1', i1n, wi, wi2, wm, wk, hL2, hk, hkl, hgk, hi', hiN, hgi, hle, hlt, c]
          refine vdraw_of [0, 1, 3, 7, 15, 31, 63, 127, 255, 511, 1023, 1023, 4095, 8191, 16383, 1023, 1023, 66559, 230399, 492543, 1016831, 2097151, 4194303, 8388607] [0, 1, 2, 3, 4, 5, 6, 7, 8, 9, 10, 11, 12, 13, 14, 15, 16, 17, 18, 19, 20, 21, 22, 23] (by kernel_rfl) (by kernel_rfl) ?_
          simp -dsimp [h0, h3, I, S, Tt, i1', i1n, wi, wi2, wm, wk, hL2, hk, hkl, hgk, hi', hiN, hgi, hle, hlt, c]
          refine ⟨by omega, ?_⟩
          exact ⟨k + 1 + 1, by omega, by simp [h0], by simp [I], by omega, by rw [hsc, al, hs]; rfl, rfl, rfl⟩
    · have : i = l.length := by omega
      subst this
      by_cases h2 : (l.length : Int) ≤ 200
      · have h2' : l.length ≤ 200 := by omega
        simp -dsimp [h0, h3, I, hL2, h2, h2']
        exact hq ⟨by rw [hmay, al]; simp [Tt, h2'], fun _ _ => rfl⟩
      · have h2' : ¬ l.length ≤ 200 := by omega
        simp -dsimp [h0, h3, I, hL2, h2, h2']
        exact hq ⟨by rw [hmay, al]; simp [Tt, h2'], fun _ _ => rfl⟩
  · rintro d m' n' ⟨rfl, h⟩
    exact ⟨_, (pur_T _).pub, h, rfl⟩
structure RLockNeedsInv (l : List Dpn) (SL : List (List D)) (m : Mem) (n : Nat) (i : Nat) (σ : Nat → D) (m2 : Mem) (n2 : Nat) : Prop where
  h0 : σ 0 = .sl 7 SL
  h3 : σ 3 = I i
  le : i ≤ l.length
  al : allN okDp Dpn.pkg l i = true
  mm : m2 = m
  nn : n2 = n
set_option maxHeartbeats 2000000 in
theorem cRLockNeeds {l : List Dpn} (hl : l.length ≤ 1000000) (m : Mem) (n : Nat) : ACalls Tryz.prog 13 [.sl 7 (l.map dpD)] m n (fun d m' n' => d = Tt (mayN l) ∧ m' = m ∧ n' = n) := by
  refine acalls_done (R' := Hq (fun d m' n' => d = Tt (mayN l) ∧ ∀ j, j < n → m' j = m j) tg) ?_ ?_
  · have hL2 : (l.map dpD).length = l.length := by simp
    have hG2 : ∀ i (h : i < l.length), (l.map dpD)[i]? = some (dpD l[i]) := fun i h => by simp [h]
    generalize l.map dpD = SL at hL2 hG2
    have hmay : mayN l = (allN okDp Dpn.pkg l l.length && decide (l.length ≤ 20)) := rfl
    refine acalls_vc [0, 2, 3, 4, 5, 9, 47] Tryz.func13 Tryz.ntmps13 (by kernel_rfl) rfl rfl (by simp) ?_
    simp -dsimp [I, hL2]
    refine vloop_of (β := Nat) (RLockNeedsInv l SL m n) (fun i => l.length - i) 0 ⟨by simp, by simp [I], by omega, by simp [allN], rfl, rfl⟩ ?_
    rintro i σ m2 n2 ⟨h0, h3, le, al, rfl, rfl⟩
    by_cases hi : (i : Int) < l.length
    · have hi' : i < l.length := by omega
      have wi : IntKind.i64.wrap ((i : Int) + 1) = (i : Int) + 1 := wrap_i64 (by omega) (by omega)
      have hiN : i < SL.length := by omega
      have hgi : SL[i] = dpD l[i] := get_opt (hG2 i hi') hiN
      have hbad := allN_bad (ok := okDp) (nm := Dpn.pkg) hi'
      have hsc := allN_succ okDp Dpn.pkg l i
      have hc1 := fun m n => cRefSmall l[i].pkg m n
      have hc2 := fun m n => cRMayRg l[i].lo l[i].hi m n
      have him : dpD l[i] = [S l[i].pkg, I l[i].lo.major, I l[i].lo.minor, I l[i].lo.patch, I l[i].hi.major, I l[i].hi.minor, I l[i].hi.patch] := rfl
      have hprev : ∀ k, i = k + 1 → ∃ q : List UInt8, ∃ r : List D, ∃ hk : k < SL.length, SL[k] = S q :: r ∧ stepN okDp Dpn.pkg l i = (okDp l[i] && ltB q l[i].pkg) := fun k e => by
        subst e
        have hk : k < l.length := by omega
        exact ⟨l[k].pkg, _, by omega, by rw [get_opt (hG2 k hk) (by omega)]; rfl, stepN_succ _ _ hi'⟩
      have hz : i = 0 → stepN okDp Dpn.pkg l i = okDp l[i] := fun e => by subst e; exact stepN_zero _ _ hi'
      have hok : okDp l[i] = (smallN l[i].pkg && mayRg l[i].lo l[i].hi) := rfl
      rw [hok] at hprev hz
      rw [him] at hgi
      clear him hok
      generalize l[i] = p at hgi hprev hz hc1 hc2
      generalize hgv : stepN okDp Dpn.pkg l i = stp at hprev hz hbad hsc
      obtain ⟨b, hb⟩ : ∃ b, stp = (smallN p.pkg && mayRg p.lo p.hi && b) := by
        rcases Nat.eq_zero_or_pos i with e | e
        · exact ⟨true, by rw [hz e]; simp⟩
        · obtain ⟨q, r, hk, _, e2⟩ := hprev (i - 1) (by omega)
          exact ⟨_, e2⟩
      simp -dsimp [h0, h3, I, S, hL2, hi, hi', hiN, hgi]
      refine aCall_of (hc1 _ _) ?_
      rintro d m' n' ⟨rfl, rfl, rfl⟩
      simp -dsimp [h0, h3, I, S, hL2, hi, hi', hiN, hgi]
      refine aCall_of (hc2 _ _) ?_
      rintro d m' n' ⟨rfl, rfl, rfl⟩
      cases e1 : smallN p.pkg with
      | false =>
        have hs : stp = false := by rw [hb, e1]; rfl
        simp -dsimp [h0, h3, I, S, Tt]
        refine vdraw_of [0, 1, 3, 7, 15, 31, 63, 127, 255, 511, 1023, 1023, 4095, 8191, 16383, 1023, 1023, 66559, 230399, 492543, 1016831, 2097151, 4194303, 8388607] [0, 1, 2, 3, 4, 5, 6, 7, 8, 9, 10, 11, 12, 13, 14, 15, 16, 17, 18, 19, 20, 21, 22, 23] (by kernel_rfl) (by kernel_rfl) ?_
        simp -dsimp [h0, h3, I, S, Tt]
        exact hq ⟨by rw [hmay, hbad hs]; rfl, fun _ _ => rfl⟩
      | true =>
      cases e2 : mayRg p.lo p.hi with
      | false =>
        have hs : stp = false := by rw [hb, e1, e2]; rfl
        simp -dsimp [h0, h3, I, S, Tt]
        refine vdraw_of [0, 1, 3, 7, 15, 31, 63, 127, 255, 511, 1023, 1023, 4095, 8191, 16383, 1023, 1023, 66559, 230399, 492543, 1016831, 2097151, 4194303, 8388607] [0, 1, 2, 3, 4, 5, 6, 7, 8, 9, 10, 11, 12, 13, 14, 15, 16, 17, 18, 19, 20, 21, 22, 23] (by kernel_rfl) (by kernel_rfl) ?_
        simp -dsimp [h0, h3, I, S, Tt]
        exact hq ⟨by rw [hmay, hbad hs]; rfl, fun _ _ => rfl⟩
      | true =>
      by_cases i0 : i = 0
      · have i0' : ¬ (0 : Int) < i := by omega
        have i0n : ¬ 0 < i := by omega
        have hs : stp = true := by rw [hz i0, e1, e2]; rfl
        simp -dsimp [h0, h3, I, S, Tt, i0', i0n, wi]
        refine vdraw_of [0, 1, 3, 7, 15, 31, 63, 127, 255, 511, 1023, 1023, 4095, 8191, 16383, 1023, 1023, 66559, 230399, 492543, 1016831, 2097151, 4194303, 8388607] [0, 1, 2, 3, 4, 5, 6, 7, 8, 9, 10, 11, 12, 13, 14, 15, 16, 17, 18, 19, 20, 21, 22, 23] (by kernel_rfl) (by kernel_rfl) ?_
        simp -dsimp [h0, h3, I, S, Tt, i0', i0n, wi]
        exact ⟨i + 1, by omega, by simp [h0], by simp [I], by omega, by rw [hsc, al, hs]; rfl, rfl, rfl⟩
      · have i1' : (0 : Int) < i := by omega
        have i1n : 0 < i := by omega
        obtain ⟨k, rfl⟩ : ∃ k, i = k + 1 := ⟨i - 1, by omega⟩
        obtain ⟨q, r, hk, hgk, hsq⟩ := hprev k rfl
        have wm : IntKind.i64.wrap (((k + 1 : Nat) : Int) - 1) = (k : Int) := by rw [wrap_i64 (by omega) (by omega)]; omega
        have hkl : k < l.length := by omega
        have wi2 : IntKind.i64.wrap ((k : Int) + 1 + 1) = (k : Int) + 1 + 1 := wrap_i64 (by omega) (by omega)
        have wk : IntKind.i64.wrap (k : Int) = (k : Int) := wrap_i64 (by omega) (by omega)
        have hle : (Op.bytesLess p.pkg q || (p.pkg == q)) = !ltB q p.pkg := leB p.pkg q
        cases c : ltB q p.pkg with
        | false =>
          have hlt : Op.bytesLess q p.pkg = false := c
          have hs : stp = false := by rw [hsq, c]; simp
          simp -dsimp [h0, h3, I, S, Tt, i1', i1n, wi, wi2, wm, wk, hL2, hk, hkl, hgk, hi', hiN, hgi, hle, hlt, c]
          refine vdraw_of [0, 1, 3, 7, 15, 31, 63, 127, 255, 511, 1023, 1023, 4095, 8191, 16383, 1023, 1023, 66559, 230399, 492543, 1016831, 2097151, 4194303, 8388607] [0, 1, 2, 3, 4, 5, 6, 7, 8, 9, 10, 11, 12, 13, 14, 15, 16, 17, 18, 19, 20, 21, 22, 23] (by kernel_rfl) (by kernel_rfl) ?_
          simp -dsimp [h0, h3, I, S, Tt, i1', i1n, wi, wi2, wm, wk, hL2, hk, hkl, hgk, hi', hiN, hgi, hle, hlt, c]
          refine ⟨by omega, ?_⟩
          exact hq ⟨by rw [hmay, hbad hs]; rfl, fun _ _ => rfl⟩
        | true =>
          have hlt : Op.bytesLess q p.pkg = true := c
          have hs : stp = true := by rw [hsq, c, e1, e2]; rfl
          simp -dsimp [h0, h3, I, S, Tt, i1', i1n, wi, wi2, wm, wk, hL2, hk, hkl, hgk, hi', hiN, hgi, hle, hlt, c]
          refine vdraw_of [0, 1, 3, 7, 15, 31, 63, 127, 255, 511, 1023, 1023, 4095, 8191, 16383, 1023, 1023, 66559, 230399, 492543, 1016831, 2097151, 4194303, 8388607] [0, 1, 2, 3, 4, 5, 6, 7, 8, 9, 10, 11, 12, 13, 14, 15, 16, 17, 18, 19, 20, 21, 22, 23] (by kernel_rfl) (by kernel_rfl) ?_
          simp -dsimp [h0, h3, I, S, Tt, i1', i1n, wi, wi2, wm, wk, hL2, hk, hkl, hgk, hi', hiN, hgi, hle, hlt, c]
          refine ⟨by omega, ?_⟩
          exact ⟨k + 1 + 1, by omega, by simp [h0], by simp [I], by omega, by rw [hsc, al, hs]; rfl, rfl, rfl⟩
    · have : i = l.length := by omega
      subst this
      by_cases h2 : (l.length : Int) ≤ 20
      · have h2' : l.length ≤ 20 := by omega
        simp -dsimp [h0, h3, I, hL2, h2, h2']
        exact hq ⟨by rw [hmay, al]; simp [Tt, h2'], fun _ _ => rfl⟩
      · have h2' : ¬ l.length ≤ 20 := by omega
        simp -dsimp [h0, h3, I, hL2, h2, h2']
        exact hq ⟨by rw [hmay, al]; simp [Tt, h2'], fun _ _ => rfl⟩
  · rintro d m' n' ⟨rfl, h⟩
    exact ⟨_, (pur_T _).pub, h, rfl⟩
end Go.Proofs.Mv.App
