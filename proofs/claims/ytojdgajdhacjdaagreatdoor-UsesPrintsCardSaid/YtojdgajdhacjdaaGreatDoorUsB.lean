/- A part of the proofs of the seat YtojdgajdhacjdaaGreatDoor: the abstract machine, the contracts of the functions, the laws. No condition of its own. -/
import Derived.Test.YtojdgajdhacjdaaGreatDoorUs
import Derived.Test.YtojdgajdhacjdaaGreatDoorRef
import Derived.Test.YtojdgajdhacjdaaGreatDoorExp
set_option linter.unusedSimpArgs false
set_option linter.unusedVariables false
set_option linter.unusedSectionVars false
open Go Go.Proofs Go.Proofs.Mv.V
set_option maxRecDepth 10000
namespace Go.Proofs.Mv.App
theorem isNum_ok {l : List Tok} {p : PS} (h : isNum l p = true) : numOk (curT l p) = true := by
  unfold isNum at h; unfold curT
  cases hc : cur l p with
  | none => rw [hc] at h; cases h
  | some t => rw [hc] at h; simp only [Bool.and_eq_true] at h; exact h.2
theorem cAtoiT (l : List Tok) (p : PS) (m : Mem) (n : Nat) : ACalls Tryz.prog 54 [S (takeF (isNum l p) l p).1] m n (fun d m' n' => ∃ e, d = .tup [I (numV l p), e] ∧ m' = m ∧ n' = n) := by
  cases h : isNum l p with
  | true =>
    simp only [takeF, numV, h, if_true]
    exact cAtoiNum (isNum_ok h) m n
  | false =>
    simp only [takeF, numV, h, Bool.false_eq_true, if_false]
    exact cAtoi0 m n
set_option maxHeartbeats 1000000 in
theorem cUImp {l : List Tok} (hl : TkOk l) {p : PS} (hb : p.bad = 0) (ha : p.at_ < l.length) {k : Nat} {m : Mem} {n : Nat} (hk : k < n) (hm : m k = some (sObj l p)) :
    ACalls Tryz.prog 19 [.ptr k 0 0 0] m n (fun d m' n' => d = .agg (impD (impR l (stepF p))) ∧ m' = m.set k (sObj l (impF l (stepF p)).2) ∧ n' = n) := by
  have kn : k ≠ n := by omega
  have nk : n ≠ k := by omega
  have kn1 : k ≠ n + 1 := by omega
  have n1k : n + 1 ≠ k := by omega
  have nn1 : n ≠ n + 1 := by omega
  have n1n : n + 1 ≠ n := by omega
  have k1 : k < n + 1 := by omega
  have k2 : k < n + 1 + 1 := by omega
  have hmx : m k = some ⟨3, [[toksD l, .v (.int .i64 p.at_), .v .nilIface]], 0⟩ := by rw [hm]; simp [sObj, sC, errS, hb, I, nilE]
  have wa := wrap_at hl ha
  have hst := sObj_step (l := l) hb
  refine acalls_fin (X := fun d => d = .agg (impD (impR l (stepF p)))) hk (pur_sObj _ _) (fun d h => by rw [h]; exact pur_imp _) ?_
  refine acalls_vcC [0, 2, 3] Tryz.func19 Tryz.ntmps19 (by kernel_rfl) rfl rfl (by simp) ?_
  simp -dsimp [hmx, wa, set_ne, kn, nk]
  rw [← hst]
  generalize stepF p = q
  refine aCall_of (cUPnam hl false (p := q) fineS k1 (by simp [set_ne, kn, kn1])) ?_
  rintro d m2 n2 ⟨rfl, rfl, rfl⟩
  have e1 : nameS false l q = imp1 l q := rfl
  rw [e1]
  simp -dsimp [I, S, set_ne, kn, nk, kn1, n1k, nn1, n1n]
  refine aCall_of (cUPnum hl (p := (imp1 l q).2) k2 (by simp [set_ne, kn, kn1])) ?_
  rintro d m2 n2 ⟨rfl, rfl, rfl⟩
  have e2 : numS l (imp1 l q).2 = imp2 l q := rfl
  rw [e2]
  simp -dsimp
  refine aCall_of (cAtoiT l (imp1 l q).2 _ _) ?_
  rintro d m2 n2 ⟨ee, rfl, rfl, rfl⟩
  simp -dsimp [I, S, set_ne, kn, nk, kn1, n1k, nn1, n1n]
  refine aCall_of (cUPnam hl false (p := imp2 l q) fineS k2 (by simp [set_ne, kn, kn1])) ?_
  rintro d m2 n2 ⟨rfl, rfl, rfl⟩
  have e3 : nameS false l (imp2 l q) = imp3 l q := rfl
  rw [e3]
  simp -dsimp [I, S, set_ne, kn, nk, kn1, n1k, nn1, n1n]
  refine pcall (cExact wAs) ?_
  simp -dsimp
  refine aCall_of (cUPkey hl wAs (p := (imp3 l q).2) k2 (by simp [set_ne, kn, kn1])) ?_
  rintro d m2 n2 ⟨rfl, rfl, rfl⟩
  have e4 : (takeF (isKey wAs l (imp3 l q).2) l (imp3 l q).2).2 = imp4 l q := rfl
  rw [e4]
  simp -dsimp [I, S, set_ne, kn, nk, kn1, n1k, nn1, n1n]
  refine aCall_of (cUPnam hl false (p := imp4 l q) fineS k2 (by simp [set_ne, kn, kn1])) ?_
  rintro d m2 n2 ⟨rfl, rfl, rfl⟩
  have e5 : nameS false l (imp4 l q) = imp5 l q := rfl
  rw [e5]
  simp -dsimp [I, S, set_ne, kn, nk, kn1, n1k, nn1, n1n]
  refine fin_mk rfl (by simp [set_ne, kn, kn1, impF]) fun j hj hjk => ?_
  have j1 : j ≠ n := by omega
  have j2 : j ≠ n + 1 := by omega
  simp [set_ne, hjk, j1, j2]
theorem pub_ln0 {n : Nat} {m : Mem} (kd : Int) (a b : List UInt8) : PubAs n m (.agg [.v (.int .i64 kd), .v (.string (ofL a)), .v (.string (ofL b)), .v (.int .i64 0), .v (.string (ofL [])), .v (.int .i64 0), .v (.string (ofL [])), .v (.string (ofL [])), .v (.slice none 0 0), .v (.slice none 0 0)]) (.agg (lnD ⟨kd, a, b, Ty0⟩)) := by
  simp only [lnD, tyD_zero]
  exact .agg (.cons (pur_I _).pub (.cons (pur_S _).pub (.cons (pur_S _).pub (.cons (pur_I _).pub (.cons (pur_S _).pub (.cons (pur_I _).pub (.cons (pur_S _).pub (.cons (pur_S _).pub (.cons (pub_nil 1) (.cons (pub_nil 7) .nil))))))))))
set_option maxHeartbeats 4000000 in
theorem cULine {l : List Tok} (hl : TkOk l) {p : PS} (hb : p.bad = 0) (ha : p.at_ < l.length) {k : Nat} {m : Mem} {n : Nat} (hk : k < n) (hm : m k = some (sObj l p)) :
    ACalls Tryz.prog 20 [.ptr k 0 0 0] m n (fun d m' n' => d = .agg (lnD (lineF l p).1) ∧ m' = m.set k (sObj l (lineF l p).2) ∧ n' = n) := by
  have kn : k ≠ n := by omega
  have nk : n ≠ k := by omega
  have kn1 : k ≠ n + 1 := by omega
  have n1k : n + 1 ≠ k := by omega
  have nn1 : n ≠ n + 1 := by omega
  have n1n : n + 1 ≠ n := by omega
  have k1 : k < n + 1 := by omega
  have k2 : k < n + 1 + 1 := by omega
  have hmx : m k = some ⟨3, [[toksD l, .v (.int .i64 p.at_), .v .nilIface]], 0⟩ := by rw [hm]; simp [sObj, sC, errS, hb, I, nilE]
  have wa := wrap_at hl ha
  have hst := sObj_step (l := l) hb
  refine acalls_put (X := fun d => d = .agg (lnD (lineF l p).1)) (R' := Hq (fun d m' n' => PubAs n m' d (.agg (lnD (lineF l p).1)) ∧ m' k = some (sObj l (lineF l p).2) ∧ ∀ j, j < n → j ≠ k → m' j = m j) tg) k hk _ ?_ ?_
  rotate_left
  · rintro d m' n' ⟨h1, h3, h4⟩
    exact ⟨.agg (lnD (lineF l p).1), _, h1, h3, .pur (pur_sObj _ _), h4, rfl⟩
  refine acalls_vcC [0, 2, 3, 4, 5, 6, 9, 37] Tryz.func20 Tryz.ntmps20 (by kernel_rfl) rfl rfl (by simp) ?_
  simp -dsimp [I, S]
  refine aCall_of (cUBeg hl (p := p) wIs k2 (by simp [set_ne, kn, kn1, hm])) ?_
  rintro d m' n' ⟨rfl, rfl, rfl⟩
  cases hg : isKey wIs l p
  · have e : lineF l p = (⟨1, (ln1 l (stepF p)).1, (ln3 false l (stepF p)).1, (ln5 false l (stepF p)).1⟩, (ln5 false l (stepF p)).2) := by simp [lineF, hg]
    rw [e]
    simp -dsimp [Tt, hmx, wa, set_ne, kn, nk, kn1, n1k, nn1, n1n, I, S]
    rw [← hst]
    generalize stepF p = q
    refine aCall_of (cUPnam hl false (p := q) fineS k2 (by simp [set_ne, kn, kn1])) ?_
    rintro d m2 n2 ⟨rfl, rfl, rfl⟩
    have e1 : nameS false l q = ln1 l q := rfl
    rw [e1]
    simp -dsimp [I, S, set_ne, kn, nk, kn1, n1k, nn1, n1n]
    refine pcall (cExact [46]) ?_
    simp -dsimp
    refine aCall_of (cUPsig hl [46] (p := (ln1 l q).2) k2 (by simp [set_ne, kn, kn1])) ?_
    rintro d m2 n2 ⟨rfl, rfl, rfl⟩
    have e2 : mustS [46] l (ln1 l q).2 = ln2 l q := rfl
    rw [e2]
    simp -dsimp [I, S, set_ne, kn, nk, kn1, n1k, nn1, n1n]
    refine aCall_of (cUPnam hl false (p := ln2 l q) fineS k2 (by simp [set_ne, kn, kn1])) ?_
    rintro d m2 n2 ⟨rfl, rfl, rfl⟩
    have e3 : nameS false l (ln2 l q) = ln3 false l q := rfl
    rw [e3]
    simp -dsimp [I, S, set_ne, kn, nk, kn1, n1k, nn1, n1n]
    refine pcall (cExact [58]) ?_
    simp -dsimp
    refine aCall_of (cUPsig hl [58] (p := (ln3 false l q).2) k2 (by simp [set_ne, kn, kn1])) ?_
    rintro d m2 n2 ⟨rfl, rfl, rfl⟩
    have e4 : mustS [58] l (ln3 false l q).2 = ln4 false l q := rfl
    have e5 : ln5 false l q = typS l (ln4 false l q) := rfl
    rw [e4, e5]
    generalize ln4 false l q = q4
    by_cases h4 : q4.bad = 0
    case neg =>
      have e6 : typS l q4 = (Ty0, q4) := by rw [typS, if_neg h4]
      rw [e6]
      simp -dsimp [I, S, set_ne, kn, nk, kn1, n1k, nn1, n1n, sObj, sC, errS, h4, spotE]
      refine hq ⟨pub_ln0 _ _ _, by simp [set_ne, kn, kn1, sObj, sC, errS, h4, spotE, I], fun j hj hjk => ?_⟩
      have j1 : j ≠ n := by omega
      have j2 : j ≠ n + 1 := by omega
      simp [set_ne, hjk, j1, j2]
    have e6 : typS l q4 = match (atF l q4.at_).2.2 with
      | some (a, c) => (Ty0, ⟨0, a.toNat, c⟩)
      | none => ((atF l q4.at_).1, ⟨(atF l q4.at_).2.1, q4.cnt, 0⟩) := by rw [typS, if_pos h4]; rfl
    rw [e6]
    simp -dsimp [I, S, set_ne, kn, nk, kn1, n1k, nn1, n1n, sObj, sC, errS, h4, nilE]
    refine vdraw_tree [0, 0, 0, 4, 12, 28, 0, 64, 192, 448, 1020, 2044, 4092, 4092, 4092, 8188, 40956, 114685, 245757, 507901, 1048575, 2097151, 4194303] (.rd 0 (.rd 1 (.rd 2 (.rd 3 (.rd 4 (.rd 5 (.rd 6 (.rd 7 (.rd 8 (.rd 9 (.wr (.cons 10 (.rd 11 (.rd 12 (.rd 13 (.rd 14 (.rd 15 (.wr (.cons 16 (.rd 17 (.rd 18 (.wr (.cons 19 (.rd 20 (.rd 21 (.wr (.cons 22 (.fin) (.nil))))) (.nil))))) (.nil)))))))) (.nil))))))))))))) (by kernel_rfl) (by kernel_rfl) ?_
    simp -dsimp [I, S, set_ne, kn, nk, kn1, n1k, nn1, n1n, sObj, sC, errS, h4, nilE]
    have hab := fun a c => atF_bad (l := l) (i := q4.at_) (a := a) (c := c)
    have hnn := fun a c => atF_nn (l := l) (q := q4.at_) (a := a) (c := c)
    have hat := fun m n => cAt hl (q4.at_ : Int) m n
    generalize atF l q4.at_ = A at hab hnn hat ⊢
    refine aCall_of (hat _ _) ?_
    rintro d m' n' ⟨rfl, rfl, rfl⟩
    obtain ⟨t, nx, o⟩ := A
    have hdl : (tyD t).length = 7 := tyD_len t
    cases o with
    | none =>
      simp -dsimp [I, S, set_ne, kn, nk, kn1, n1k, nn1, n1n, errO, nilE, hdl]
      refine hq ⟨(Pur.agg (pur_ln ⟨1, _, _, _⟩)).pub, by simp [set_ne, kn, nk, kn1, n1k, nn1, n1n, sObj, sC, errS, errO, nilE, I], fun j hj hjk => ?_⟩
      have j1 : j ≠ n := by omega
      have j2 : j ≠ n + 1 := by omega
      simp [set_ne, hjk, j1, j2]
    | some x =>
      obtain ⟨a, c⟩ := x
      obtain ⟨hc, ht, hnx⟩ := hab a c rfl
      have h0 := hnn a c rfl
      simp only at ht hnx
      subst ht; subst hnx
      simp -dsimp [I, S, set_ne, kn, nk, kn1, n1k, nn1, n1n, errO, nilE, spotE, hdl]
      refine hq ⟨(Pur.agg (pur_ln ⟨1, _, _, Ty0⟩)).pub, by simp [set_ne, kn, nk, kn1, n1k, nn1, n1n, sObj, sC, errS, errO, nilE, spotE, I, hc, Int.toNat_of_nonneg h0], fun j hj hjk => ?_⟩
      have j1 : j ≠ n := by omega
      have j2 : j ≠ n + 1 := by omega
      simp [set_ne, hjk, j1, j2]
  · have e : lineF l p = (⟨2, (ln1 l (stepF p)).1, (ln3 true l (stepF p)).1, (ln5 true l (stepF p)).1⟩, (ln5 true l (stepF p)).2) := by simp [lineF, hg]
    rw [e]
    simp -dsimp [Tt, hmx, wa, set_ne, kn, nk, kn1, n1k, nn1, n1n, I, S]
    rw [← hst]
    generalize stepF p = q
    refine aCall_of (cUPnam hl false (p := q) fineS k2 (by simp [set_ne, kn, kn1])) ?_
    rintro d m2 n2 ⟨rfl, rfl, rfl⟩
    have e1 : nameS false l q = ln1 l q := rfl
    rw [e1]
    simp -dsimp [I, S, set_ne, kn, nk, kn1, n1k, nn1, n1n]
    refine pcall (cExact [46]) ?_
    simp -dsimp
    refine aCall_of (cUPsig hl [46] (p := (ln1 l q).2) k2 (by simp [set_ne, kn, kn1])) ?_
    rintro d m2 n2 ⟨rfl, rfl, rfl⟩
    have e2 : mustS [46] l (ln1 l q).2 = ln2 l q := rfl
    rw [e2]
    simp -dsimp [I, S, set_ne, kn, nk, kn1, n1k, nn1, n1n]
    refine aCall_of (cUPnam hl true (p := ln2 l q) fineG k2 (by simp [set_ne, kn, kn1])) ?_
    rintro d m2 n2 ⟨rfl, rfl, rfl⟩
    have e3 : nameS true l (ln2 l q) = ln3 true l q := rfl
    rw [e3]
    simp -dsimp [I, S, set_ne, kn, nk, kn1, n1k, nn1, n1n]
    refine pcall (cExact [61]) ?_
    simp -dsimp
    refine aCall_of (cUPsig hl [61] (p := (ln3 true l q).2) k2 (by simp [set_ne, kn, kn1])) ?_
    rintro d m2 n2 ⟨rfl, rfl, rfl⟩
    have e4 : mustS [61] l (ln3 true l q).2 = ln4 true l q := rfl
    have e5 : ln5 true l q = typS l (ln4 true l q) := rfl
    rw [e4, e5]
    generalize ln4 true l q = q4
    by_cases h4 : q4.bad = 0
    case neg =>
      have e6 : typS l q4 = (Ty0, q4) := by rw [typS, if_neg h4]
      rw [e6]
      simp -dsimp [I, S, set_ne, kn, nk, kn1, n1k, nn1, n1n, sObj, sC, errS, h4, spotE]
      refine hq ⟨pub_ln0 _ _ _, by simp [set_ne, kn, kn1, sObj, sC, errS, h4, spotE, I], fun j hj hjk => ?_⟩
      have j1 : j ≠ n := by omega
      have j2 : j ≠ n + 1 := by omega
      simp [set_ne, hjk, j1, j2]
    have e6 : typS l q4 = match (atF l q4.at_).2.2 with
      | some (a, c) => (Ty0, ⟨0, a.toNat, c⟩)
      | none => ((atF l q4.at_).1, ⟨(atF l q4.at_).2.1, q4.cnt, 0⟩) := by rw [typS, if_pos h4]; rfl
    rw [e6]
    simp -dsimp [I, S, set_ne, kn, nk, kn1, n1k, nn1, n1n, sObj, sC, errS, h4, nilE]
    refine vdraw_tree [0, 0, 0, 4, 12, 28, 0, 64, 192, 448, 1020, 2044, 4092, 4092, 4092, 8188, 40956, 114685, 245757, 507901, 1048575, 2097151, 4194303] (.rd 0 (.rd 1 (.rd 2 (.rd 3 (.rd 4 (.rd 5 (.rd 6 (.rd 7 (.rd 8 (.rd 9 (.wr (.cons 10 (.rd 11 (.rd 12 (.rd 13 (.rd 14 (.rd 15 (.wr (.cons 16 (.rd 17 (.rd 18 (.wr (.cons 19 (.rd 20 (.rd 21 (.wr (.cons 22 (.fin) (.nil))))) (.nil))))) (.nil)))))))) (.nil))))))))))))) (by kernel_rfl) (by kernel_rfl) ?_
    simp -dsimp [I, S, set_ne, kn, nk, kn1, n1k, nn1, n1n, sObj, sC, errS, h4, nilE]
    have hab := fun a c => atF_bad (l := l) (i := q4.at_) (a := a) (c := c)
    have hnn := fun a c => atF_nn (l := l) (q := q4.at_) (a := a) (c := c)
    have hat := fun m n => cAt hl (q4.at_ : Int) m n
    generalize atF l q4.at_ = A at hab hnn hat ⊢
    refine aCall_of (hat _ _) ?_
    rintro d m' n' ⟨rfl, rfl, rfl⟩
    obtain ⟨t, nx, o⟩ := A
    have hdl : (tyD t).length = 7 := tyD_len t
    cases o with
    | none =>
      simp -dsimp [I, S, set_ne, kn, nk, kn1, n1k, nn1, n1n, errO, nilE, hdl]
      refine hq ⟨(Pur.agg (pur_ln ⟨2, _, _, _⟩)).pub, by simp [set_ne, kn, nk, kn1, n1k, nn1, n1n, sObj, sC, errS, errO, nilE, I], fun j hj hjk => ?_⟩
      have j1 : j ≠ n := by omega
      have j2 : j ≠ n + 1 := by omega
      simp [set_ne, hjk, j1, j2]
    | some x =>
      obtain ⟨a, c⟩ := x
      obtain ⟨hc, ht, hnx⟩ := hab a c rfl
      have h0 := hnn a c rfl
      simp only at ht hnx
      subst ht; subst hnx
      simp -dsimp [I, S, set_ne, kn, nk, kn1, n1k, nn1, n1n, errO, nilE, spotE, hdl]
      refine hq ⟨(Pur.agg (pur_ln ⟨2, _, _, Ty0⟩)).pub, by simp [set_ne, kn, nk, kn1, n1k, nn1, n1n, sObj, sC, errS, errO, nilE, spotE, I, hc, Int.toNat_of_nonneg h0], fun j hj hjk => ?_⟩
      have j1 : j ≠ n := by omega
      have j2 : j ≠ n + 1 := by omega
      simp [set_ne, hjk, j1, j2]
end Go.Proofs.Mv.App
open Go Go.Proofs Go.Proofs.Mv.V
set_option maxRecDepth 10000
namespace Go.Proofs.Mv.App
theorem cUImpX {l : List Tok} (hl : TkOk l) {p : PS} (hb : p.bad = 0) (ha : p.at_ < l.length) {k : Nat} {m : Mem} {n : Nat} (hk : k < n) (hm : m k = some (sObj l p)) :
    ACalls Tryz.prog 19 [.ptr k 0 0 0] m n (fun d m' n' => (∃ i, d = .agg (impD i) ∧ ((impF l (stepF p)).2.bad = 0 → i = (impF l (stepF p)).1)) ∧ m' = m.set k (sObj l (impF l (stepF p)).2) ∧ n' = n) :=
  (cUImp hl hb ha hk hm).mono fun d m' n' ⟨h1, h2, h3⟩ => ⟨⟨_, h1, impR_ok⟩, h2, h3⟩
structure UImp (l : List Tok) (p1 : PS) (m : Mem) (n : Nat) (k : Nat) (σ : Nat → D) (m' : Mem) (n' : Nat) : Prop where
  h2 : σ 2 = .ptr n 0 0 0
  h3 : σ 3 = nilE
  h4 : σ 4 = toksD l
  h6 : σ 6 = .ptr (n + 1) 0 0 0
  h7 : σ 7 = .ptr (n + 1 + 1) 0 0 0
  nn : n + 1 + 1 + 1 ≤ n'
  fr : ∀ j, j < n → m' j = m j
  m2 : m' n = some ⟨2, [[.v (.slice none 0 0), .v (.slice none 0 0)]], 0⟩
  ex : ∃ acc acc0 p dI, k + acc.length = 21 ∧ acc.length ≤ 20 ∧ acc0.length = acc.length ∧ (p.bad = 0 → acc = acc0) ∧ impsF l 21 [] p1 = impsF l k acc0 p ∧ m' (n + 1) = some (sObj l p) ∧
    m' (n + 1 + 1) = some ⟨2, [[dI, .v (.slice none 0 0)]], 0⟩ ∧ Lst m' 4 (acc.map impD) dI ∧ ∀ j, kof dI = some j → n + 1 + 1 + 1 ≤ j ∧ j < n'
structure UMid (l : List Tok) (is : List Imp) (p : PS) (m : Mem) (n : Nat) (σ : Nat → D) (m' : Mem) (n' : Nat) : Prop where
  h2 : σ 2 = .ptr n 0 0 0
  h3 : σ 3 = nilE
  h4 : σ 4 = toksD l
  h6 : σ 6 = .ptr (n + 1) 0 0 0
  h7 : σ 7 = .ptr (n + 1 + 1) 0 0 0
  nn : n + 1 + 1 + 1 ≤ n'
  fr : ∀ j, j < n → m' j = m j
  m2 : m' n = some ⟨2, [[.v (.slice none 0 0), .v (.slice none 0 0)]], 0⟩
  mo : m' (n + 1) = some (sObj l p)
  ex : ∃ acc dI, (p.bad = 0 → acc = is) ∧ m' (n + 1 + 1) = some ⟨2, [[dI, .v (.slice none 0 0)]], 0⟩ ∧ Lst m' 4 (acc.map impD) dI ∧ ∀ j, kof dI = some j → n + 1 + 1 + 1 ≤ j ∧ j < n'
structure UDec (l : List Tok) (is : List Imp) (dI : D) (p1 : PS) (m : Mem) (n : Nat) (k : Nat) (σ : Nat → D) (m' : Mem) (n' : Nat) : Prop where
  h2 : σ 2 = .ptr n 0 0 0
  h3 : σ 3 = nilE
  h4 : σ 4 = toksD l
  h6 : σ 6 = .ptr (n + 1) 0 0 0
  h7 : σ 7 = .ptr (n + 1 + 1) 0 0 0
  nn : n + 1 + 1 + 1 ≤ n'
  fr : ∀ j, j < n → m' j = m j
  m2 : m' n = some ⟨2, [[.v (.slice none 0 0), .v (.slice none 0 0)]], 0⟩
  li : Lst m' 4 (is.map impD) dI
  ki : ∀ j, kof dI = some j → n + 1 + 1 + 1 ≤ j ∧ j < n'
  ex : ∃ acc p dD, k + acc.length = 61 ∧ acc.length ≤ 60 ∧ linesF l 61 [] p1 = linesF l k acc p ∧ m' (n + 1) = some (sObj l p) ∧
    m' (n + 1 + 1) = some ⟨2, [[dI, dD]], 0⟩ ∧ Lst m' 10 (acc.map lnD) dD ∧ ∀ j, kof dD = some j → n + 1 + 1 + 1 ≤ j ∧ j < n' ∧ kof dI ≠ some j
structure LnGo (l : List Tok) (p : PS) (n : Nat) (m2 : Mem) (n2 : Nat) (σ : Nat → D) (m' : Mem) (n' : Nat) : Prop where
  h2 : σ 2 = .ptr n 0 0 0
  h3 : σ 3 = nilE
  h4 : σ 4 = toksD l
  h6 : σ 6 = .ptr (n + 1) 0 0 0
  h7 : σ 7 = .ptr (n + 1 + 1) 0 0 0
  ky : isLine l p = true
  mm : m' = m2
  nn : n' = n2
structure UMid2 (l : List Tok) (is : List Imp) (dI : D) (ds : List Ln) (p : PS) (m : Mem) (n : Nat) (σ : Nat → D) (m' : Mem) (n' : Nat) : Prop where
  h2 : σ 2 = .ptr n 0 0 0
  h3 : σ 3 = nilE
  h4 : σ 4 = toksD l
  h6 : σ 6 = .ptr (n + 1) 0 0 0
  h7 : σ 7 = .ptr (n + 1 + 1) 0 0 0
  nn : n + 1 + 1 + 1 ≤ n'
  fr : ∀ j, j < n → m' j = m j
  m2 : m' n = some ⟨2, [[.v (.slice none 0 0), .v (.slice none 0 0)]], 0⟩
  li : Lst m' 4 (is.map impD) dI
  ki : ∀ j, kof dI = some j → n + 1 + 1 + 1 ≤ j ∧ j < n'
  mo : m' (n + 1) = some (sObj l p)
  ex : ∃ dD, m' (n + 1 + 1) = some ⟨2, [[dI, dD]], 0⟩ ∧ Lst m' 10 (ds.map lnD) dD ∧ ∀ j, kof dD = some j → n + 1 + 1 + 1 ≤ j ∧ j < n' ∧ kof dI ≠ some j
set_option maxHeartbeats 4000000 in
theorem cUParse (s : List UInt8) (m : Mem) (n : Nat) : ACalls Tryz.prog 6 [S s] m n (fun d m' n' => d = .tup [.agg (usD (usesF s).1), errP (usesF s).2] ∧ m' = m ∧ n' = n) := by
  refine acalls_done (R' := Hq (fun d m' n' => (∃ dt, d = .tup [dt, errP (usesF s).2] ∧ PubAs n m' dt (.agg (usD (usesF s).1))) ∧ ∀ j, j < n → m' j = m j) tg) ?_ ?_
  · have nn1 : n ≠ n + 1 := by omega
    have n1n : n + 1 ≠ n := by omega
    have pub0 : ∀ m', PubAs n m' (.agg [.v (.slice none 0 0), .v (.slice none 0 0)]) (.agg (usD Us0)) := fun m' => by
      simp only [usD, Us0, List.map_nil]
      exact .agg (.cons (pub_nil 4) (.cons (pub_nil 10) .nil))
    refine acalls_vcC [0, 2, 3, 4, 5, 6, 7, 14, 21, 25, 40, 44, 60, 67] Tryz.func6 Tryz.ntmps6 (by kernel_rfl) rfl rfl (by simp) ?_
    simp -dsimp
    refine aCall_of (cTokens s _ _) ?_
    rintro d m' n' ⟨rfl, rfl, rfl⟩
    have fr0 : ∀ (o : V.Obj) (j : Nat), j < n → (m.set n o) j = m j := fun o j hj => set_ne _ _ _ _ (by omega)
    by_cases h1 : 20000 < s.length
    · have hp : usesF s = (Us0, .large) := by rw [usesF, if_pos h1]
      rw [if_pos h1, hp]
      simp -dsimp [code, I]
      exact hq ⟨⟨_, rfl, pub0 _⟩, fun j hj => by have j1 : j ≠ n := by omega
                                                 simp [set_ne, j1]⟩
    have hl := toks_tk (s := s) (by omega)
    rw [if_neg h1]
    have hp : usesF s = (match (toksAt s 0).2 with
    | some a => (Us0, .spot a 2)
    | Option.none => if (ueP (toksAt s 0).1).bad = 0 then (⟨(uiP (toksAt s 0).1).1, (ulP (toksAt s 0).1).1⟩, .none)
      else (Us0, .spot (ueP (toksAt s 0).1).cnt (ueP (toksAt s 0).1).bad)) := by rw [usesF, if_neg h1]; rfl
    rw [hp]
    generalize toksAt s 0 = T at hl ⊢
    obtain ⟨l, o⟩ := T
    cases o with
    | some a =>
      simp -dsimp [spotE]
      exact hq ⟨⟨_, rfl, pub0 _⟩, fun j hj => by have j1 : j ≠ n := by omega
                                                 simp [set_ne, j1]⟩
    | none =>
      simp only at hl ⊢
      have e0 : (⟨3, [[.sl 3 (l.map tokD), .v (.int .i64 0), .v .nilIface]], 0⟩ : V.Obj) = sObj l ⟨0, 0, 0⟩ := by simp [sObj, sC, errS, I, nilE, toksD]
      have hlt2 : n + 1 < n + 1 + 1 := by omega
      have nn2 : n ≠ n + 1 + 1 := by omega
      have n12 : n + 1 ≠ n + 1 + 1 := by omega
      have n21 : n + 1 + 1 ≠ n + 1 := by omega
      have n2n : n + 1 + 1 ≠ n := by omega
      simp -dsimp [-vc_block, nilE, set_ne, nn1, n1n]
      rw [e0]
      refine vc_mid (UMid l (uiP l).1 (uiP l).2 m n) ?_ ?_
      · rw [vc_block]
        simp -dsimp [-vc_block]
        refine vloop_of (β := Nat) (UImp l ⟨0, 0, 0⟩ m n) (fun b => b) 21 ⟨by simp, by simp [nilE], by simp [toksD], by simp, by simp, by omega, fun j hj => ?_, ?_, [], [], ⟨0, 0, 0⟩, .v (.slice none 0 0), rfl, by simp, rfl, fun _ => rfl, rfl, ?_, ?_, by simpa using Lst.nil, by simp⟩ ?_
        · have j1 : j ≠ n := by omega
          have j2 : j ≠ n + 1 := by omega
          have j3 : j ≠ n + 1 + 1 := by omega
          simp [set_ne, j1, j2, j3]
        · simp [set_ne, nn1, nn2, S, I]
        · simp [set_ne, n12, nn1]
        · simp [S]
        rintro rem σ m2 n2 ⟨g2, g3, g4, g6, g7, nn, fr, m2n, acc, acc0, p, dI, hrem, hle, hlen, hacc, hmod, hmk, hm7, hL, hkk⟩
        have kn : n + 1 ≠ n2 := by omega
        have hlen2 := lenD_lst hL
        rw [List.length_map] at hlen2
        have hk2 : n + 1 < n2 := by omega
        simp -dsimp [-vc_block, g2, g3, g4, g6, g7]
        refine aCall_of (cUBeg hl (p := p) wImp hk2 hmk) ?_
        rintro d m3 n3 ⟨rfl, rfl, rfl⟩
        cases hkey : isKey wImp l p
        case false =>
          simp -dsimp [-vc_block, Tt]
          have hend : uiP l = (acc0, p) := by
            rw [uiP, hmod]; cases rem with
            | zero => rfl
            | succ r => simp [impsF, hkey]
          exact ⟨by simp [g2], by simp [g3], by simp [g4], by simp [g6], by simp [g7], nn, fr, m2n, by rw [hend]; exact hmk, acc, dI, by rw [hend]; exact hacc, hm7, hL, hkk⟩
        obtain ⟨hpb, hpa⟩ := key_ok hl hkey
        have hae := hacc hpb
        subst hae
        obtain ⟨r, rfl⟩ : ∃ r, rem = r + 1 := ⟨rem - 1, by omega⟩
        simp -dsimp [-vc_block, Tt]
        rw [vc_block]
        by_cases h20 : (20 : Int) ≤ acc.length
        · have h20' : 20 ≤ acc.length := by omega
          have hend : uiP l = (acc, failS 3 p) := by rw [uiP, hmod]; simp [impsF, hkey, h20']
          simp -dsimp [-vc_block, g2, g3, g4, g6, g7, hm7, hlen2, h20, h20']
          refine aCall_of (cUSpoil (l := l) (p := p) 3 (by omega) hk2 hmk) ?_
          rintro d m3 n3 ⟨rfl, rfl, rfl⟩
          simp -dsimp [-vc_block]
          refine ⟨by simp [g2], by simp [g3], by simp [g4], by simp [g6], by simp [g7], nn, fun j hj => by rw [set_ne _ _ _ _ (by omega)]; exact fr j hj, by rw [set_ne _ _ _ _ nn1]; exact m2n, by rw [hend]; simp, acc, dI, by rw [hend]; exact fun _ => rfl,
            by rw [set_ne _ _ _ _ n21]; exact hm7, hL.frame fun j hj => set_ne _ _ _ _ (by have := hkk j hj; omega), hkk⟩
        have h20' : ¬ 20 ≤ acc.length := by omega
        have hmx : m3 (n + 1) = some ⟨3, [[toksD l, .v (.int .i64 p.at_), .v .nilIface]], 0⟩ := by rw [hmk]; simp [sObj, sC, errS, hpb, I, nilE]
        simp -dsimp [-vc_block, g2, g3, g4, g6, g7, hm7, hlen2, h20, h20']
        refine vdraw_tree [0, 1, 0, 4, 12, 31, 63, 127] (.rd 0 (.rd 1 (.rd 2 (.wr (.cons 3 (.wr (.cons 4 (.wr (.cons 5 (.rd 6 (.wr (.cons 7 (.fin) (.nil)))) (.nil))) (.nil))) (.nil)))))) (by kernel_rfl) (by kernel_rfl) ?_
        simp -dsimp [-vc_block, g2, g3, g4, g6, g7, hm7, hlen2, hmx, set_ne, n21, n12]
        refine aCall_of (cUImpX hl hpb hpa (by omega) hmk) ?_
        rintro d m4 n4 ⟨⟨x, rfl, hx⟩, rfl, rfl⟩
        have kn3 : n4 ≠ n + 1 := by omega
        have kn4 : n4 ≠ n + 1 + 1 := by omega
        have nk3 : n + 1 ≠ n4 := by omega
        have nk4 : n + 1 + 1 ≠ n4 := by omega
        have hil : (impD x).length = 4 := rfl
        simp -dsimp [-vc_block, g2, g3, g4, g6, g7, hm7, set_ne, n21, n12, kn3, kn4, nk3, nk4, hil]
        refine b4_append (hL.frame fun j hj => ?_) (fun j hj => by have := hkk j hj; omega) trivial trivial (by omega) (by simp; omega) ?_
        · have := hkk j hj
          rw [set_ne _ _ _ _ (by omega), set_ne _ _ _ _ (by omega)]
        intro d5 m5 n5 p1 p2 p3 p4
        have q4 : ∀ j, j < n4 → j ≠ n + 1 → kof dI ≠ some j → m5 j = m3 j := fun j h1 h2 h3 => by rw [p4 j (by omega) h3, set_ne _ _ _ _ (by omega), set_ne _ _ _ _ h2]
        have nd : ∀ j, j < n + 1 + 1 + 1 → kof dI ≠ some j := fun j hj e => by have := hkk j e; omega
        have e7 : m5 (n + 1 + 1) = some ⟨2, [[dI, .v (.slice none 0 0)]], 0⟩ := by rw [q4 _ (by omega) n21 (nd _ (by omega))]; exact hm7
        have ek : m5 (n + 1) = some (sObj l (impF l (stepF p)).2) := by rw [p4 _ (by omega) (nd _ (by omega)), set_ne _ _ _ _ (by omega), set_same]
        have ok5 := okD_lst p1
        simp -dsimp [-vc_block, g2, g3, g4, g6, g7, e7, ok5, S]
        have hkd : ∀ j, kof d5 = some j → n + 1 + 1 + 1 ≤ j ∧ j < n5 := fun j hj => by
          have := p3 j hj
          rcases this.2 with e | e
          · have := hkk j e; omega
          · omega
        refine ⟨r, by omega, by simp, by simp, by simp, by simp, by simp, by omega, fun j hj => ?_, ?_, acc ++ [x], acc ++ [(impF l (stepF p)).1], (impF l (stepF p)).2, d5, by simp; omega, by simp; omega, by simp, fun h => by rw [hx h], ?_, ?_, by simp [S], ?_, hkd⟩
        · rw [set_ne _ _ _ _ (by omega), q4 j (by omega) (by omega) (nd j (by omega))]; exact fr j hj
        · rw [set_ne _ _ _ _ nn2, q4 n (by omega) nn1 (nd n (by omega))]; exact m2n
        · rw [hmod]; simp [impsF, hkey, h20']
        · rw [set_ne _ _ _ _ n12]; exact ek
        · rw [List.map_append]
          exact p1.frame fun j hj => set_ne _ _ _ _ (by have := hkd j hj; omega)
      rintro σ0 m0 n0 ⟨g2, g3, g4, g6, g7, nn, fr, m2n, mo, is, dI, hiso, hm7, hLi, hki⟩
      simp -dsimp [-vc_block, g2, g3, g4, g6, g7]
      refine vc_mid (UMid2 l is dI (ulP l).1 (ulP l).2 m n) ?_ ?_
      · rw [vc_block]
        simp -dsimp [-vc_block]
        refine vloop_of (β := Nat) (UDec l is dI (uiP l).2 m n) (fun b => b) 61 ⟨by simp [g2], by simp [g3], by simp [g4], by simp [g6], by simp [g7], nn, fr, m2n, hLi, hki, [], (uiP l).2, .v (.slice none 0 0), rfl, by simp, rfl, mo, hm7, by simpa using Lst.nil, by simp⟩ ?_
        rintro rem σ m2 n2 ⟨g2, g3, g4, g6, g7, nn, fr, m2n, hLi, hki, acc, p, dD, hrem, hle, hmod, hmk, hm7, hL, hkk⟩
        have hk2 : n + 1 < n2 := by omega
        have hlen2 := lenD_lst hL
        rw [List.length_map] at hlen2
        rw [vc_seq]
        refine vc_mid (LnGo l p n m2 n2) ?_ ?_
        · simp -dsimp [-vc_block, g2, g3, g4, g6, g7]
          refine aCall_of (cUBeg hl (p := p) wUse hk2 hmk) ?_
          rintro d m3 n3 ⟨rfl, rfl, rfl⟩
          cases o1 : isKey wUse l p
          case true =>
            simp -dsimp [-vc_block, Tt]
            exact ⟨by simp [g2], by simp [g3], by simp [g4], by simp [g6], by simp [g7], by simp [isLine, o1], rfl, rfl⟩
          simp -dsimp [-vc_block, Tt, g6]
          refine aCall_of (cUBeg hl (p := p) wIs hk2 hmk) ?_
          rintro d m3 n3 ⟨rfl, rfl, rfl⟩
          cases o2 : isKey wIs l p
          case true =>
            simp -dsimp [-vc_block, Tt]
            exact ⟨by simp [g2], by simp [g3], by simp [g4], by simp [g6], by simp [g7], by simp [isLine, o1, o2], rfl, rfl⟩
          simp -dsimp [-vc_block, Tt, g6]
          have hend : ulP l = (acc, p) := by
            rw [ulP, hmod]; cases rem with
            | zero => rfl
            | succ r => simp [linesF, isLine, o1, o2]
          exact ⟨by simp [g2], by simp [g3], by simp [g4], by simp [g6], by simp [g7], nn, fr, m2n, hLi, hki, by rw [hend]; exact hmk, dD, hm7, by rw [hend]; exact hL, hkk⟩
        rintro σ1 m1 n1 ⟨g2, g3, g4, g6, g7, hkey, rfl, rfl⟩
        obtain ⟨hpb, hpa⟩ : p.bad = 0 ∧ p.at_ < l.length := by
          simp only [isLine, Bool.or_eq_true] at hkey
          rcases hkey with h | h <;> exact key_ok hl h
        obtain ⟨r, rfl⟩ : ∃ r, rem = r + 1 := ⟨rem - 1, by omega⟩
        rw [vc_block]
        by_cases h20 : (60 : Int) ≤ acc.length
        · have h20' : 60 ≤ acc.length := by omega
          have hend : ulP l = (acc, failS 3 p) := by rw [ulP, hmod]; simp [linesF, hkey, h20']
          simp -dsimp [-vc_block, g2, g3, g4, g6, g7, hm7, hlen2, h20, h20']
          refine aCall_of (cUSpoil (l := l) (p := p) 3 (by omega) hk2 hmk) ?_
          rintro d m3 n3 ⟨rfl, rfl, rfl⟩
          simp -dsimp [-vc_block]
          refine ⟨by simp [g2], by simp [g3], by simp [g4], by simp [g6], by simp [g7], nn, fun j hj => by rw [set_ne _ _ _ _ (by omega)]; exact fr j hj, by rw [set_ne _ _ _ _ nn1]; exact m2n, hLi.frame fun j hj => set_ne _ _ _ _ (by have := hki j hj; omega), hki, by rw [hend]; simp, dD,
            by rw [set_ne _ _ _ _ n21]; exact hm7, by rw [hend]; exact hL.frame fun j hj => set_ne _ _ _ _ (by have := hkk j hj; omega), hkk⟩
        have h20' : ¬ 60 ≤ acc.length := by omega
        simp -dsimp [-vc_block, g2, g3, g4, g6, g7, hm7, hlen2, h20, h20']
        refine vdraw_tree [0, 1, 0, 4, 12, 31, 63, 127] (.rd 0 (.rd 1 (.rd 2 (.wr (.cons 3 (.wr (.cons 4 (.wr (.cons 5 (.rd 6 (.wr (.cons 7 (.fin) (.nil)))) (.nil))) (.nil))) (.nil)))))) (by kernel_rfl) (by kernel_rfl) ?_
        simp -dsimp [-vc_block, g2, g3, g4, g6, g7, hm7, hlen2, set_ne, n21, n12]
        refine aCall_of (cULine hl hpb hpa (by omega) hmk) ?_
        rintro d m4 n4 ⟨rfl, rfl, rfl⟩
        have kn3 : n4 ≠ n + 1 := by omega
        have kn4 : n4 ≠ n + 1 + 1 := by omega
        have nk3 : n + 1 ≠ n4 := by omega
        have nk4 : n + 1 + 1 ≠ n4 := by omega
        have hil : (lnD (lineF l p).1).length = 10 := lnD_len _
        generalize hX : lnD (lineF l p).1 = X at hil
        simp -dsimp [-vc_block, g2, g3, g4, g6, g7, hm7, set_ne, n21, n12, kn3, kn4, nk3, nk4, hil]
        refine b4_append (hL.frame fun j hj => ?_) (fun j hj => by have := hkk j hj; omega) trivial trivial (by omega) (by simp; omega) ?_
        · have := hkk j hj
          rw [set_ne _ _ _ _ (by omega), set_ne _ _ _ _ (by omega)]
        intro d5 m5 n5 p1 p2 p3 p4
        have q4 : ∀ j, j < n4 → j ≠ n + 1 → kof dD ≠ some j → m5 j = m1 j := fun j h1 h2 h3 => by rw [p4 j (by omega) h3, set_ne _ _ _ _ (by omega), set_ne _ _ _ _ h2]
        have nd : ∀ j, j < n + 1 + 1 + 1 → kof dD ≠ some j := fun j hj e => by have := hkk j e; omega
        have e7 : m5 (n + 1 + 1) = some ⟨2, [[dI, dD]], 0⟩ := by rw [q4 _ (by omega) n21 (nd _ (by omega))]; exact hm7
        have ek : m5 (n + 1) = some (sObj l (lineF l p).2) := by rw [p4 _ (by omega) (nd _ (by omega)), set_ne _ _ _ _ (by omega), set_same]
        have ok5 := okD_lst p1
        simp -dsimp [-vc_block, g2, g3, g4, g6, g7, e7, ok5, S]
        have hkd : ∀ j, kof d5 = some j → n + 1 + 1 + 1 ≤ j ∧ j < n5 ∧ kof dI ≠ some j := fun j hj => by
          have := p3 j hj
          rcases this.2 with e | e
          · have := hkk j e; exact ⟨by omega, by omega, this.2.2⟩
          · exact ⟨by omega, by omega, fun h => by have := hki j h; omega⟩
        refine ⟨r, by omega, by simp, by simp, by simp, by simp, by simp, by omega, fun j hj => ?_, ?_, hLi.frame fun j hj => ?_, fun j hj => by have := hki j hj; omega, acc ++ [(lineF l p).1], (lineF l p).2, d5, by simp; omega, by simp; omega, ?_, ?_, by simp [S], ?_, hkd⟩
        · rw [set_ne _ _ _ _ (by omega), q4 j (by omega) (by omega) (nd j (by omega))]; exact fr j hj
        · rw [set_ne _ _ _ _ nn2, q4 n (by omega) nn1 (nd n (by omega))]; exact m2n
        · have := hki j hj
          rw [set_ne _ _ _ _ (by omega), q4 j (by omega) (by omega) (fun e => (hkk j e).2.2 hj)]
        · rw [hmod]; simp [linesF, hkey, h20']
        · rw [set_ne _ _ _ _ n12]; exact ek
        · rw [List.map_append]
          simp only [List.map_cons, List.map_nil, hX]
          exact p1.frame fun j hj => set_ne _ _ _ _ (by have := hkd j hj; omega)
      rintro σ1 m1 n1 ⟨g2, g3, g4, g6, g7, nn, fr, m2n, hLi, hki, mo, dD, hm7, hL, hkk⟩
      have hnp : ∀ (l : List Tok), ueP l = if (ulP l).2.at_ < l.length then failS 2 (ulP l).2 else (ulP l).2 := fun _ => rfl
      rw [hnp]
      have hqi : (ulP l).2.bad = 0 → (uiP l).2.bad = 0 := linesF_ok _ _ _
      generalize (ulP l).2 = q at mo hqi ⊢
      have hT : toksD l = .sl 3 (l.map tokD) := rfl
      have hll : (l.map tokD).length = l.length := by simp
      have hmx : m1 (n + 1) = some ⟨3, [[toksD l, .v (.int .i64 q.at_), errS q]], 0⟩ := by rw [mo]; simp [sObj, sC, I]
      generalize hLL : l.map tokD = L at hT hll
      have fin : ∀ (j : Nat), j < n → j ≠ n ∧ j ≠ n + 1 ∧ j ≠ n + 1 + 1 := fun j hj => by omega
      by_cases hat : (q.at_ : Int) < l.length
      · have hat' : q.at_ < l.length := by omega
        have hqb : (failS 2 q).bad ≠ 0 := by unfold failS; split <;> simp_all
        rw [if_pos hat', if_neg hqb]
        simp -dsimp [g2, g3, g4, g6, g7, hmx, hT, hll, hat, hat']
        refine aCall_of (cUSpoil (l := l) (p := q) 2 (by omega) (by omega) mo) ?_
        rintro d m5 n5 ⟨rfl, rfl, rfl⟩
        generalize failS 2 q = qq at hqb ⊢
        have hob : sObj l qq = ⟨3, [[toksD l, I qq.at_, spotE qq.cnt qq.bad]], 0⟩ := by simp [sObj, sC, errS, hqb]
        rw [hob]
        simp -dsimp [g2, g3, g4, g6, g7, hqb, spotE]
        refine vdraw_of [0, 0, 2, 6, 14, 1, 63] [0, 1, 2, 3, 4, 5, 6] (by kernel_rfl) (by kernel_rfl) ?_
        simp -dsimp [g2, g3, g4, g6, g7, hqb, spotE, set_ne, nn1, n1n, m2n]
        refine hq ⟨⟨_, rfl, pub0 _⟩, fun j hj => ?_⟩
        obtain ⟨j1, j2, _⟩ := fin j hj
        simp [set_ne, j1, j2]; exact fr j hj
      · have hat' : ¬ q.at_ < l.length := by omega
        rw [if_neg hat']
        by_cases hqb : q.bad = 0
        · rw [if_pos hqb]
          simp -dsimp [g2, g3, g4, g6, g7, hmx, hT, hll, hat, hat', hqb, errS, nilE, hm7, m2n]
          refine hq ⟨⟨_, rfl, .agg (.cons ?_ (.cons ?_ .nil))⟩, fun j hj => ?_⟩
          · rw [← hiso (hqi hqb)]
            exact .lstP (hLi.frame fun j hj => set_ne _ _ _ _ (by have := hki j hj; omega)) (fun j hj => by have := hki j hj; omega) pur_imps
          · exact .lstP (hL.frame fun j hj => set_ne _ _ _ _ (by have := hkk j hj; omega)) (fun j hj => by have := hkk j hj; omega) pur_lns
          · obtain ⟨j1, j2, _⟩ := fin j hj
            simp [set_ne, j1, j2]; exact fr j hj
        · rw [if_neg hqb]
          simp -dsimp [g2, g3, g4, g6, g7, hmx, hT, hll, hat, hat', hqb, errS, spotE]
          refine vdraw_of [0, 0, 2, 6, 14, 1, 63] [0, 1, 2, 3, 4, 5, 6] (by kernel_rfl) (by kernel_rfl) ?_
          simp -dsimp [g2, g3, g4, g6, g7, hmx, hqb, errS, spotE, set_ne, nn1, n1n, m2n]
          refine hq ⟨⟨_, rfl, pub0 _⟩, fun j hj => ?_⟩
          obtain ⟨j1, j2, _⟩ := fin j hj
          simp [set_ne, j1, j2]; exact fr j hj
  · rintro d m' n' ⟨⟨dt, rfl, h⟩, hf⟩
    exact ⟨_, pub_pair h (pur_errP _).pub, hf, rfl⟩
end Go.Proofs.Mv.App
