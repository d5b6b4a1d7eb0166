/- A part of the proofs of the seat YtdbfejminjaheaaGreatDoor: the abstract machine, the contracts of the functions, the laws. No condition of its own. -/
import Derived.Test.YtdbfejminjaheaaGreatDoorLckC
set_option linter.unusedSimpArgs false
set_option linter.unusedVariables false
set_option linter.unusedSectionVars false
open Go Go.Proofs Go.Proofs.Mv.V
set_option maxRecDepth 10000
namespace Go.Proofs.Mv.App
structure LockMayInvO (l : List Pck) (k g : Nat) (m : Mem) (n : Nat) (i : Nat) (σ : Nat → D) (m2 : Mem) (n2 : Nat) : Prop where
  h0 : σ 0 = .own k g 0 l.length 4
  h5 : σ 5 = .own k g 0 l.length 4
  h6 : σ 6 = I l.length
  h7 : σ 7 = I i
  le : i ≤ l.length
  al : allN okPk Pck.pkg l i = true
  fr : ∀ j, j < n → m2 j = m j
  nn : n ≤ n2
set_option maxHeartbeats 2000000 in
theorem cLockMayO {l : List Pck} (hw : ∀ p ∈ l, p.pkg.length ≤ 9223372036854775807) (hl : l.length ≤ 1000000) (k g : Nat) (SL : List (List D)) (m : Mem) (n : Nat) (hm : m k = some ⟨4, SL, g⟩) (hkn : k < n) (hle : l.length ≤ SL.length) (ht : SL.take l.length = l.map pkD) : ACalls Tryz.prog 11 [.own k g 0 l.length 4] m n (fun d m' n' => d = Tt (mayL l) ∧ m' = m ∧ n' = n) := by
  refine acalls_done (R' := Hq (fun d m' n' => d = Tt (mayL l) ∧ ∀ j, j < n → m' j = m j) tg) ?_ ?_
  · have hG2 : ∀ i (h : i < l.length), SL[i]? = some (pkD l[i]) := fun i h => by
      have h1 : (SL.take l.length)[i]? = some (pkD l[i]) := by rw [ht]; simp [h]
      rwa [List.getElem?_take_of_lt h] at h1
    have hmay : mayL l = (allN okPk Pck.pkg l l.length && decide (l.length ≤ 200)) := rfl
    refine acalls_vc [0, 2, 3, 4, 5, 6, 7, 8, 36] Tryz.func11 Tryz.ntmps11 (by kernel_rfl) rfl rfl (by simp) ?_
    simp -dsimp [I]
    refine vloop_of (β := Nat) (LockMayInvO l k g m n) (fun i => l.length - i) 0 ⟨by simp, by simp, by simp [I], by simp [I], by omega, by simp [allN], fun _ _ => rfl, Nat.le_refl _⟩ ?_
    rintro i σ m2 n2 ⟨h0, h5, h6, h7, le, al, fr, nn⟩
    have hm2 : m2 k = some ⟨4, SL, g⟩ := by rw [fr k hkn]; exact hm
    have kn2 : k ≠ n2 := by omega
    by_cases hi : (i : Int) < l.length
    · have hi' : i < l.length := by omega
      have wi : IntKind.i64.wrap ((i : Int) + 1) = (i : Int) + 1 := wrap_i64 (by omega) (by omega)
      have hiN : i < SL.length := by omega
      have hgi : SL[i] = pkD l[i] := get_opt (hG2 i hi') hiN
      have hbad := allN_bad (ok := okPk) (nm := Pck.pkg) hi'
      have hsc := allN_succ okPk Pck.pkg l i
      have hc1 := fun m n => cSmall l[i].pkg (hw _ (List.getElem_mem hi')) m n
      have hc2 := fun m n => cMayV l[i].ver m n
      have him : pkD l[i] = [S l[i].pkg, I l[i].ver.major, I l[i].ver.minor, I l[i].ver.patch] := rfl
      have hprev : ∀ kk, i = kk + 1 → ∃ q : List UInt8, ∃ r : List D, ∃ hk : kk < SL.length, SL[kk] = S q :: r ∧ stepN okPk Pck.pkg l i = (okPk l[i] && ltB q l[i].pkg) := fun kk e => by
        subst e
        have hk : kk < l.length := by omega
        exact ⟨l[kk].pkg, _, by omega, by rw [get_opt (hG2 kk hk) (by omega)]; rfl, stepN_succ _ _ hi'⟩
      have hz : i = 0 → stepN okPk Pck.pkg l i = okPk l[i] := fun e => by subst e; exact stepN_zero _ _ hi'
      have hok : okPk l[i] = (smallN l[i].pkg && mayV l[i].ver) := rfl
      rw [hok] at hprev hz
      rw [him] at hgi
      clear him hok
      generalize l[i] = p at hgi hprev hz hc1 hc2
      generalize hgv : stepN okPk Pck.pkg l i = stp at hprev hz hbad hsc
      obtain ⟨b, hb⟩ : ∃ b, stp = (smallN p.pkg && mayV p.ver && b) := by
        rcases Nat.eq_zero_or_pos i with e | e
        · exact ⟨true, by rw [hz e]; simp⟩
        · obtain ⟨q, r, hk, _, e2⟩ := hprev (i - 1) (by omega)
          exact ⟨_, e2⟩
      have fr2 : ∀ o j, j < n → (m2.set n2 o) j = m j := fun o j hj => by rw [set_ne _ _ _ _ (by omega)]; exact fr j hj
      simp -dsimp [h0, h5, h6, h7, hm2, set_ne, kn2, I, S, hi, hi', hiN, hgi]
      refine vdraw_tree [0, 1, 3, 7, 15, 31, 63, 127, 255, 511, 1023, 2047, 4095, 8191, 16383, 16383, 49151, 131071, 262143, 524287, 16383, 1064959, 4194303, 8388607, 16777215] (.rd 0 (.rd 1 (.wr (.cons 2 (.rd 3 (.rd 4 (.rd 5 (.rd 6 (.wr (.cons 7 (.rd 8 (.rd 9 (.rd 10 (.rd 11 (.rd 12 (.rd 13 (.rd 14 (.rd 15 (.rd 16 (.rd 17 (.rd 18 (.rd 19 (.rd 20 (.rd 21 (.rd 22 (.rd 23 (.rd 24 (.fin)))))))))))))))))) (.nil))))))) (.nil))))) (by kernel_rfl) (by kernel_rfl) ?_
      simp -dsimp [h0, h5, h6, h7, hm2, set_ne, kn2, I, S, hi, hi', hiN, hgi]
      refine aCall_of (hc1 _ _) ?_
      rintro d m' n' ⟨rfl, rfl, rfl⟩
      cases e1 : smallN p.pkg with
      | false =>
        have hs : stp = false := by rw [hb, e1]; rfl
        simp -dsimp [h0, h5, h6, h7, hm2, set_ne, kn2, I, S, Tt]
        exact hq ⟨by rw [hmay, hbad hs]; rfl, fr2 _⟩
      | true =>
      simp -dsimp [h0, h5, h6, h7, hm2, set_ne, kn2, I, S, Tt]
      refine aCall_of (hc2 _ _) ?_
      rintro d m' n' ⟨rfl, rfl, rfl⟩
      cases e2 : mayV p.ver with
      | false =>
        have hs : stp = false := by rw [hb, e1, e2]; rfl
        simp -dsimp [h0, h5, h6, h7, hm2, set_ne, kn2, I, S, Tt]
        exact hq ⟨by rw [hmay, hbad hs]; rfl, fr2 _⟩
      | true =>
      by_cases i0 : i = 0
      · have i0' : ¬ (0 : Int) < i := by omega
        have i0n : ¬ 0 < i := by omega
        have hs : stp = true := by rw [hz i0, e1, e2]; rfl
        simp -dsimp [h0, h5, h6, h7, hm2, set_ne, kn2, I, S, Tt, i0', i0n, wi]
        exact ⟨i + 1, by omega, by simp [h0], by simp [h5], by simp [h6, I], by simp [I], by omega, by rw [hsc, al, hs]; rfl, fr2 _, by omega⟩
      · have i1' : (0 : Int) < i := by omega
        have i1n : 0 < i := by omega
        obtain ⟨kk, rfl⟩ : ∃ kk, i = kk + 1 := ⟨i - 1, by omega⟩
        obtain ⟨q, r, hk, hgk, hsq⟩ := hprev kk rfl
        have wm : IntKind.i64.wrap (((kk + 1 : Nat) : Int) - 1) = (kk : Int) := by rw [wrap_i64 (by omega) (by omega)]; omega
        have hgk' : SL[kk]? = some (S q :: r) := by rw [List.getElem?_eq_getElem hk, hgk]
        have hkl : kk < l.length := by omega
        have wi2 : IntKind.i64.wrap ((kk : Int) + 1 + 1) = (kk : Int) + 1 + 1 := wrap_i64 (by omega) (by omega)
        have wk : IntKind.i64.wrap (kk : Int) = (kk : Int) := wrap_i64 (by omega) (by omega)
        have hle : (Op.bytesLess p.pkg q || (p.pkg == q)) = !ltB q p.pkg := leB p.pkg q
        cases c : ltB q p.pkg with
        | false =>
          have hlt : Op.bytesLess q p.pkg = false := c
          have hs : stp = false := by rw [hsq, c]; simp
          simp -dsimp [h0, h5, h6, h7, hm2, set_ne, kn2, I, S, Tt, i1', i1n, wi, wi2, wm, wk, hk, hkl, hgk, hi', hle, hlt]
          exact hq ⟨by rw [hmay, hbad hs]; rfl, fr2 _⟩
        | true =>
          have hlt : Op.bytesLess q p.pkg = true := c
          have hs : stp = true := by rw [hsq, c, e1, e2]; rfl
          simp -dsimp [h0, h5, h6, h7, hm2, set_ne, kn2, I, S, Tt, i1', i1n, wi, wi2, wm, wk, hk, hkl, hgk, hi', hle, hlt]
          exact ⟨kk + 1 + 1, by omega, by simp [h0], by simp [h5], by simp [h6, I], by simp [I], by omega, by rw [hsc, al, hs]; rfl, fr2 _, by omega⟩
    · have : i = l.length := by omega
      subst this
      by_cases h2 : (l.length : Int) ≤ 200
      · have h2' : l.length ≤ 200 := by omega
        simp -dsimp [h0, h5, h6, h7, hm2, set_ne, kn2, I, h2, h2']
        exact hq ⟨by rw [hmay, al]; simp [Tt, h2'], fr⟩
      · have h2' : ¬ l.length ≤ 200 := by omega
        simp -dsimp [h0, h5, h6, h7, hm2, set_ne, kn2, I, h2, h2']
        exact hq ⟨by rw [hmay, al]; simp [Tt, h2'], fr⟩
  · rintro d m' n' ⟨rfl, h⟩
    exact ⟨_, (pur_T _).pub, h, rfl⟩
structure RLockMayInvO (l : List Pck) (k g : Nat) (m : Mem) (n : Nat) (i : Nat) (σ : Nat → D) (m2 : Mem) (n2 : Nat) : Prop where
  h0 : σ 0 = .own k g 0 l.length 4
  h3 : σ 3 = I i
  le : i ≤ l.length
  al : allN okPk Pck.pkg l i = true
  mm : m2 = m
  nn : n2 = n
set_option maxHeartbeats 2000000 in
theorem cRLockMayO {l : List Pck} (hl : l.length ≤ 1000000) (k g : Nat) (SL : List (List D)) (m : Mem) (n : Nat) (hm : m k = some ⟨4, SL, g⟩) (hkn : k < n) (hle : l.length ≤ SL.length) (ht : SL.take l.length = l.map pkD) : ACalls Tryz.prog 10 [.own k g 0 l.length 4] m n (fun d m' n' => d = Tt (mayL l) ∧ m' = m ∧ n' = n) := by
  refine acalls_done (R' := Hq (fun d m' n' => d = Tt (mayL l) ∧ ∀ j, j < n → m' j = m j) tg) ?_ ?_
  · have hG2 : ∀ i (h : i < l.length), SL[i]? = some (pkD l[i]) := fun i h => by
      have h1 : (SL.take l.length)[i]? = some (pkD l[i]) := by rw [ht]; simp [h]
      rwa [List.getElem?_take_of_lt h] at h1
    have hmay : mayL l = (allN okPk Pck.pkg l l.length && decide (l.length ≤ 200)) := rfl
    refine acalls_vc [0, 2, 3, 4, 5, 9, 47] Tryz.func10 Tryz.ntmps10 (by kernel_rfl) rfl rfl (by simp) ?_
    simp -dsimp [I]
    refine vloop_of (β := Nat) (RLockMayInvO l k g m n) (fun i => l.length - i) 0 ⟨by simp, by simp [I], by omega, by simp [allN], rfl, rfl⟩ ?_
    rintro i σ m2 n2 ⟨h0, h3, le, al, rfl, rfl⟩
    by_cases hi : (i : Int) < l.length
    · have hi' : i < l.length := by omega
      have wi : IntKind.i64.wrap ((i : Int) + 1) = (i : Int) + 1 := wrap_i64 (by omega) (by omega)
      have hiN : i < SL.length := by omega
      have hgi : SL[i] = pkD l[i] := get_opt (hG2 i hi') hiN
      have hbad := allN_bad (ok := okPk) (nm := Pck.pkg) hi'
      have hsc := allN_succ okPk Pck.pkg l i
      have hc1 := fun m n => cRefSmall l[i].pkg m n
      have hc2 := fun m n => cRMayV l[i].ver m n
      have him : pkD l[i] = [S l[i].pkg, I l[i].ver.major, I l[i].ver.minor, I l[i].ver.patch] := rfl
      have hprev : ∀ kk, i = kk + 1 → ∃ q : List UInt8, ∃ r : List D, ∃ hk : kk < SL.length, SL[kk] = S q :: r ∧ stepN okPk Pck.pkg l i = (okPk l[i] && ltB q l[i].pkg) := fun kk e => by
        subst e
        have hk : kk < l.length := by omega
        exact ⟨l[kk].pkg, _, by omega, by rw [get_opt (hG2 kk hk) (by omega)]; rfl, stepN_succ _ _ hi'⟩
      have hz : i = 0 → stepN okPk Pck.pkg l i = okPk l[i] := fun e => by subst e; exact stepN_zero _ _ hi'
      have hok : okPk l[i] = (smallN l[i].pkg && mayV l[i].ver) := rfl
      rw [hok] at hprev hz
      rw [him] at hgi
      clear him hok
      generalize l[i] = p at hgi hprev hz hc1 hc2
      generalize hgv : stepN okPk Pck.pkg l i = stp at hprev hz hbad hsc
      obtain ⟨b, hb⟩ : ∃ b, stp = (smallN p.pkg && mayV p.ver && b) := by
        rcases Nat.eq_zero_or_pos i with e | e
        · exact ⟨true, by rw [hz e]; simp⟩
        · obtain ⟨q, r, hk, _, e2⟩ := hprev (i - 1) (by omega)
          exact ⟨_, e2⟩
      simp -dsimp [h0, h3, hm, I, S, hi, hi', hiN, hgi]
      refine aCall_of (hc1 _ _) ?_
      rintro d m' n' ⟨rfl, rfl, rfl⟩
      simp -dsimp [h0, h3, hm, I, S, hi, hi', hiN, hgi]
      refine aCall_of (hc2 _ _) ?_
      rintro d m' n' ⟨rfl, rfl, rfl⟩
      cases e1 : smallN p.pkg with
      | false =>
        have hs : stp = false := by rw [hb, e1]; rfl
        simp -dsimp [h0, h3, hm, I, S, Tt]
        refine vdraw_of [0, 1, 3, 7, 15, 31, 63, 127, 255, 511, 1023, 1023, 4095, 8191, 16383, 1023, 1023, 66559, 230399, 492543, 1016831, 2097151, 4194303, 8388607] [0, 1, 2, 3, 4, 5, 6, 7, 8, 9, 10, 11, 12, 13, 14, 15, 16, 17, 18, 19, 20, 21, 22, 23] (by kernel_rfl) (by kernel_rfl) ?_
        simp -dsimp [h0, h3, hm, I, S, Tt]
        exact hq ⟨by rw [hmay, hbad hs]; rfl, fun _ _ => rfl⟩
      | true =>
      cases e2 : mayV p.ver with
      | false =>
        have hs : stp = false := by rw [hb, e1, e2]; rfl
        simp -dsimp [h0, h3, hm, I, S, Tt]
        refine vdraw_of [0, 1, 3, 7, 15, 31, 63, 127, 255, 511, 1023, 1023, 4095, 8191, 16383, 1023, 1023, 66559, 230399, 492543, 1016831, 2097151, 4194303, 8388607] [0, 1, 2, 3, 4, 5, 6, 7, 8, 9, 10, 11, 12, 13, 14, 15, 16, 17, 18, 19, 20, 21, 22, 23] (by kernel_rfl) (by kernel_rfl) ?_
        simp -dsimp [h0, h3, hm, I, S, Tt]
        exact hq ⟨by rw [hmay, hbad hs]; rfl, fun _ _ => rfl⟩
      | true =>
      by_cases i0 : i = 0
      · have i0' : ¬ (0 : Int) < i := by omega
        have i0n : ¬ 0 < i := by omega
        have hs : stp = true := by rw [hz i0, e1, e2]; rfl
        simp -dsimp [h0, h3, hm, I, S, Tt, i0', i0n, wi]
        refine vdraw_of [0, 1, 3, 7, 15, 31, 63, 127, 255, 511, 1023, 1023, 4095, 8191, 16383, 1023, 1023, 66559, 230399, 492543, 1016831, 2097151, 4194303, 8388607] [0, 1, 2, 3, 4, 5, 6, 7, 8, 9, 10, 11, 12, 13, 14, 15, 16, 17, 18, 19, 20, 21, 22, 23] (by kernel_rfl) (by kernel_rfl) ?_
        simp -dsimp [h0, h3, hm, I, S, Tt, i0', i0n, wi]
        exact ⟨i + 1, by omega, by simp [h0], by simp [I], by omega, by rw [hsc, al, hs]; rfl, rfl, rfl⟩
      · have i1' : (0 : Int) < i := by omega
        have i1n : 0 < i := by omega
        obtain ⟨kk, rfl⟩ : ∃ kk, i = kk + 1 := ⟨i - 1, by omega⟩
        obtain ⟨q, r, hk, hgk, hsq⟩ := hprev kk rfl
        have wm : IntKind.i64.wrap (((kk + 1 : Nat) : Int) - 1) = (kk : Int) := by rw [wrap_i64 (by omega) (by omega)]; omega
        have hkl : kk < l.length := by omega
        have wi2 : IntKind.i64.wrap ((kk : Int) + 1 + 1) = (kk : Int) + 1 + 1 := wrap_i64 (by omega) (by omega)
        have wk : IntKind.i64.wrap (kk : Int) = (kk : Int) := wrap_i64 (by omega) (by omega)
        have hle : (Op.bytesLess p.pkg q || (p.pkg == q)) = !ltB q p.pkg := leB p.pkg q
        cases c : ltB q p.pkg with
        | false =>
          have hlt : Op.bytesLess q p.pkg = false := c
          have hs : stp = false := by rw [hsq, c]; simp
          simp -dsimp [h0, h3, hm, I, S, Tt, i1', i1n, wi, wi2, wm, wk, hk, hkl, hgk, hi', hiN, hgi, hle, hlt, c]
          refine vdraw_of [0, 1, 3, 7, 15, 31, 63, 127, 255, 511, 1023, 1023, 4095, 8191, 16383, 1023, 1023, 66559, 230399, 492543, 1016831, 2097151, 4194303, 8388607] [0, 1, 2, 3, 4, 5, 6, 7, 8, 9, 10, 11, 12, 13, 14, 15, 16, 17, 18, 19, 20, 21, 22, 23] (by kernel_rfl) (by kernel_rfl) ?_
          simp -dsimp [h0, h3, hm, I, S, Tt, i1', i1n, wi, wi2, wm, wk, hk, hkl, hgk, hi', hiN, hgi, hle, hlt, c]
          refine ⟨by omega, ?_⟩
          exact hq ⟨by rw [hmay, hbad hs]; rfl, fun _ _ => rfl⟩
        | true =>
          have hlt : Op.bytesLess q p.pkg = true := c
          have hs : stp = true := by rw [hsq, c, e1, e2]; rfl
          simp -dsimp [h0, h3, hm, I, S, Tt, i1', i1n, wi, wi2, wm, wk, hk, hkl, hgk, hi', hiN, hgi, hle, hlt, c]
          refine vdraw_of [0, 1, 3, 7, 15, 31, 63, 127, 255, 511, 1023, 1023, 4095, 8191, 16383, 1023, 1023, 66559, 230399, 492543, 1016831, 2097151, 4194303, 8388607] [0, 1, 2, 3, 4, 5, 6, 7, 8, 9, 10, 11, 12, 13, 14, 15, 16, 17, 18, 19, 20, 21, 22, 23] (by kernel_rfl) (by kernel_rfl) ?_
          simp -dsimp [h0, h3, hm, I, S, Tt, i1', i1n, wi, wi2, wm, wk, hk, hkl, hgk, hi', hiN, hgi, hle, hlt, c]
          refine ⟨by omega, ?_⟩
          exact ⟨kk + 1 + 1, by omega, by simp [h0], by simp [I], by omega, by rw [hsc, al, hs]; rfl, rfl, rfl⟩
    · have : i = l.length := by omega
      subst this
      by_cases h2 : (l.length : Int) ≤ 200
      · have h2' : l.length ≤ 200 := by omega
        simp -dsimp [h0, h3, hm, I, h2, h2']
        exact hq ⟨by rw [hmay, al]; simp [Tt, h2'], fun _ _ => rfl⟩
      · have h2' : ¬ l.length ≤ 200 := by omega
        simp -dsimp [h0, h3, hm, I, h2, h2']
        exact hq ⟨by rw [hmay, al]; simp [Tt, h2'], fun _ _ => rfl⟩
  · rintro d m' n' ⟨rfl, h⟩
    exact ⟨_, (pur_T _).pub, h, rfl⟩
end Go.Proofs.Mv.App
