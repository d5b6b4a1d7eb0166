/- A part of the proofs: machine, contracts, laws. No condition of its own. -/
import Derived.Test.YtihbegkefjjhpaaGreatDoorP22
import Derived.Test.YtihbegkefjjhpaaGreatDoorP23
import Derived.Test.YtihbegkefjjhpaaGreatDoorP24
import Derived.Test.YtihbegkefjjhpaaGreatDoorP04
import Derived.Test.YtihbegkefjjhpaaGreatDoorP00
set_option linter.unusedSimpArgs false
set_option linter.unusedVariables false
set_option linter.unusedSectionVars false
open Go Go.Proofs Go.Proofs.Mv.V
set_option maxRecDepth 10000
namespace Go.Proofs.Mv.App
theorem parX_text {t : Tm} (ht : mayTm t = true) (hl : (textTm t).length ≤ 20000) : parX (textTm t) = (t, nilE) := by
 have h0 := ht
 simp only [mayTm, Bool.and_eq_true, decide_eq_true_eq] at h0
 obtain ⟨⟨ha, hm⟩, hd⟩ := h0
 obtain ⟨h1, h2⟩ := lx_term ha 0
 rw [parX, if_neg (by omega), h2]
 simp only
 generalize (toksAt (textTm t) 0).1 = l at h1
 have hlen : l.length = (skTm t).length := by rw [← h1, List.length_map]
 have hr := (rt_tm (l := l) (dg := dgX) (fun n h => dgX_digits n h) _ t (Nat.le_refl _) ha).1 (l.length + 2) 0 0 0 [] (by omega) (by omega) (by simp [Sees, h1]) nf_nil
 have hx : runX l = (t, ⟨0 + (skTm t).length, 0, 0⟩) := by
  rw [runX, hr]; rfl
 rw [hx]
 simp only [if_pos, ht]
 rw [if_neg (by omega)]
theorem parX_cases (s : List UInt8) : (∃ t, parX s = (t, nilE) ∧ mayTm t = true ∧ TmW t) ∨ ∃ tt x, parX s = (Tm0, .iface tt x) := by
 unfold parX
 split
 ·exact .inr ⟨_, _, rfl⟩
 rename_i h20
 split
 ·exact .inr ⟨_, _, rfl⟩
 split
 ·rename_i hb
  split
  ·rename_i hm
   split
   ·exact .inr ⟨_, _, rfl⟩
   ·refine .inl ⟨_, rfl, hm, termX_w (toks_tk (s := s) (by omega)) ?_ (runX_eq _) hb⟩
    have := toks_len s
    omega
  ·exact .inr ⟨_, _, rfl⟩
 ·exact .inr ⟨_, _, rfl⟩
/-! The law's own examples. -/
def txA : List UInt8 := [40, 102, 110, 40, 120, 58, 32, 73, 110, 116, 41, 32, 120, 41, 40, 49, 41, 46, 97]
def txB : List UInt8 := [123, 97, 32, 61, 32, 49, 44, 32, 97, 32, 61, 32, 50, 125]
def tmA : Tm := .mk 6 0 [] [97] [] [] [] [.mk 9 0 [] [] [] [] [] [.mk 8 0 [] [] [[120]] [] [.mk 1 [] 0 [] [] [] []] [.mk 3 0 [] [120] [] [] [] []], .mk 1 1 [] [] [] [] [] []]]
theorem tmA_may : mayTm tmA = true := by kernel_rfl
theorem tmA_text : textTm tmA = txA := by kernel_rfl
theorem parA : parX txA = (tmA, nilE) := by
 rw [← tmA_text]; exact parX_text tmA_may (by rw [tmA_text]; simp [txA])
theorem tmA_w : TmW tmA := by
 rcases parX_cases txA with ⟨t, h, _, hw⟩ | ⟨tt, x, h⟩
 ·rw [parA] at h
  simp only [Prod.mk.injEq] at h
  rw [h.1]; exact hw
 ·rw [parA] at h
  simp [nilE] at h
def ltB2 : List Tok := [⟨4, 0, [123]⟩, ⟨1, 1, [97]⟩, ⟨4, 3, [61]⟩, ⟨3, 5, [49]⟩, ⟨4, 6, [44]⟩, ⟨1, 8, [97]⟩, ⟨4, 10, [61]⟩, ⟨3, 12, [50]⟩, ⟨4, 13, [125]⟩]
theorem tokB : toksAt txB 0 = (ltB2, none) := by kernel_rfl
theorem runB : (runX ltB2).2 = ⟨5, 5, 5⟩ := by kernel_rfl
theorem parB : parX txB = (Tm0, spotE 5 5) := by
 rw [parX, if_neg (by simp [txB]), tokB]
 simp only [runB]
 rfl
set_option maxHeartbeats 4000000 in
theorem cUpB : Pc Tryz.prog 7 [] (Tt true) := by
 refine pc_of (pur_T _) (fun m n => ?_)
 have p1 := cTParse txA
 have p2 := cTParse txB
 have p3 := cPrintTm tmA_w
 rw [parA] at p1
 rw [parB] at p2
 rw [tmA_may, tmA_text] at p3
 have hz : (tmD tmA).length = 8 := by simp
 have hz0 : (tmD Tm0).length = 8 := by simp
 have hk : (tmD tmA)[0]? = some (I 6) := rfl
 generalize tmD tmA = X at p1 p3 hz hk
 generalize tmD Tm0 = X0 at p2 hz0
 have htz : List.take 8 X = X := List.take_of_length_le (by omega)
 have nn1 : n ≠ n + 1 := by omega
 have n1n : n + 1 ≠ n := by omega
 refine acalls_vc [0, 1, 2, 3, 4, 6] Tryz.func7 Tryz.ntmps7 (by kernel_rfl) rfl rfl (by simp) ?_
 simp only [S, txA, txB] at p1 p2 p3
 simp -dsimp [S]
 refine pcall p1 ?_
 simp -dsimp [hz, htz, set_ne, nn1, n1n]
 refine pcall p3 ?_
 simp -dsimp [hz, htz, set_ne, nn1, n1n, argE]
 refine pcall p2 ?_
 have hX : X[0]'(by omega) = I 6 := get_opt hk (by omega)
 have his : ∀ m n, ACalls Tryz.prog 28 [spotE 5 5, .v (.int .i64 5), .v (.int .i64 5)] m n (fun d m' n' => d = .v (.bool true) ∧ m' = m ∧ n' = n) := fun m n => a_is none 5 5 m n
 generalize spotE 5 5 = E at his
 simp -dsimp [hz, htz, hz0, set_ne, nn1, n1n, nilE, S, hX, I]
 refine aCall_of (his _ _) ?_
 rintro d m3 n3 ⟨rfl, rfl, rfl⟩
 simp -dsimp
 exact pcq rfl fun j hj => by simp [set_ne, show j ≠ n by omega, show j ≠ n + 1 by omega]
theorem sameTm_self (a : Tm) : sameTm a a = true := (sameTm_iff a a).2 rfl
structure TbM (X : List D) (s : List UInt8) (m : Mem) (n : Nat) (σ : Nat → D) (m2 : Mem) (n2 : Nat) : Prop where
 h1 : σ 1 = S s
 h5 : σ 5 = Tt true
 nn : n ≤ n2
 fr : ∀ j, j < n → m2 j = m j
set_option maxHeartbeats 8000000 in
theorem cTermBack {t : Tm} (ht : TmW t) (s : List UInt8) : Pc Tryz.prog 3 [.agg (tmD t), S s] (Tt true) := by
 refine pc_of (pur_T _) (fun m n => ?_)
 have f1 := cRFewT ht
 have f2 : fewTm3 t = true → Pc Tryz.prog 9 [.agg (tmD t)] (.agg (tmD t)) := fun h => cCopyTm (fewTm3_z h)
 have p1 := cPrintTm ht
 have s1 := cRSameTm ht (b := t)
 rw [sameTm_self] at s1
 have q1 : mayTm t = true → (textTm t).length ≤ 20000 → Pc Tryz.prog 12 [S (textTm t)] (.tup [.agg (tmD t), nilE]) := fun h1 h2 => by
  have := cTParse (textTm t)
  rwa [parX_text h1 h2] at this
 have q2 := cTParse s
 have nn1 : n ≠ n + 1 := by omega
 have n1n : n + 1 ≠ n := by omega
 have nn2 : n ≠ n + 1 + 1 := by omega
 have n2n : n + 1 + 1 ≠ n := by omega
 have n12 : n + 1 ≠ n + 1 + 1 := by omega
 have n21 : n + 1 + 1 ≠ n + 1 := by omega
 have nn3 : n ≠ n + 1 + 1 + 1 := by omega
 have n3n : n + 1 + 1 + 1 ≠ n := by omega
 have n13 : n + 1 ≠ n + 1 + 1 + 1 := by omega
 have n31 : n + 1 + 1 + 1 ≠ n + 1 := by omega
 have n23 : n + 1 + 1 ≠ n + 1 + 1 + 1 := by omega
 have n32 : n + 1 + 1 + 1 ≠ n + 1 + 1 := by omega
 have hz : (tmD t).length = 8 := by simp
 generalize tmD t = X at f1 f2 p1 s1 q1 hz
 have htz : List.take 8 X = X := List.take_of_length_le (by omega)
 generalize textTm t = tx at p1 q1
 refine acalls_vc [0, 1, 2, 4, 5, 6, 7, 8, 9, 10, 11, 12, 13, 14, 15, 16, 17, 27, 39, 46, 59, 66] Tryz.func3 Tryz.ntmps3 (by kernel_rfl) rfl rfl (by simp) ?_
 rw [vc_seq]
 simp -dsimp [hz, htz, -vc_seq]
 rw [vc_seq]
 simp -dsimp [hz, htz, -vc_seq]
 refine pcall cUpB ?_
 simp -dsimp [hz, htz, Tt, set_ne, -vc_seq]
 rw [vc_seq]
 simp -dsimp [hz, htz, Tt, set_ne, -vc_seq]
 refine pcall f1 ?_
 cases h1 : fewTm3 t with
 | false =>
  simp -dsimp [Tt]
  exact pcq rfl fun j hj => by simp [set_ne, show j ≠ n by omega]
 | true =>
 simp -dsimp [Tt, -vc_seq]
 rw [vc_seq]
 by_cases h20 : (20000 : Int) < s.length
 ·simp -dsimp [S, Tt, h20]
  exact pcq rfl fun j hj => by simp [set_ne, show j ≠ n by omega]
 have f2 := f2 h1
 have hd : decide ((20000 : Int) < s.length) = false := decide_eq_false h20
 simp -dsimp [S, Tt, h20, hd, -vc_seq]
 rw [vc_seq]
 simp -dsimp [hz, htz, set_ne, hd, -vc_seq]
 rw [vc_seq]
 simp -dsimp [hz, htz, set_ne, hd, -vc_seq]
 refine pcall f2 ?_
 simp -dsimp [hz, htz, set_ne, -vc_seq]
 rw [vc_seq]
 simp -dsimp [hz, htz, set_ne, nn1, n1n, -vc_seq]
 refine pcall p1 ?_
 simp -dsimp [hz, htz, set_ne, nn1, n1n, -vc_seq]
 rw [vc_seq, vc_seq]
 simp -dsimp [hz, htz, set_ne, nn1, n1n, -vc_seq]
 refine pcall s1 ?_
 simp -dsimp [hz, htz, Tt, set_ne, nn1, n1n, -vc_seq]
 rw [vc_seq]
 refine vc_mid (TbM X s m n) ?_ ?_
 ·have frs : ∀ j, j < n → j ≠ n ∧ j ≠ n + 1 ∧ j ≠ n + 1 + 1 := fun j hj => by omega
  cases hm : mayTm t with
  | false =>
   simp -dsimp [hz, htz, set_ne, nn1, n1n, nn2, n2n, n12, n21, argE, hm]
   exact ⟨by simp [S], by simp [Tt], by omega, fun j hj => by simp [set_ne, frs j hj]⟩
  | true =>
   by_cases hl : tx.length ≤ 20000
   ·have hl' : (tx.length : Int) ≤ 20000 := by omega
    have q1 := q1 hm hl
    simp only [S] at q1
    simp -dsimp [hz, htz, set_ne, nn1, n1n, nn2, n2n, n12, n21, argE, hm, hl, hl', nilE, S]
    refine pcall q1 ?_
    simp -dsimp [hz, htz, set_ne, nn1, n1n, nn2, n2n, n12, n21, nilE, S]
    refine pcall s1 ?_
    simp -dsimp [hz, htz, set_ne, nn1, n1n, nn2, n2n, n12, n21, Tt]
    exact ⟨by simp [S], by simp [Tt], by omega, fun j hj => by simp [set_ne, frs j hj]⟩
   ·have hl' : decide ((tx.length : Int) ≤ 20000) = false := decide_eq_false (by omega)
    simp -dsimp [hz, htz, set_ne, nn1, n1n, nn2, n2n, n12, n21, argE, hm, hl, hl', nilE, S]
    exact ⟨by simp [S], by simp [Tt], by omega, fun j hj => by simp [set_ne, frs j hj]⟩
 clear q1 s1 p1 f2 f1
 rintro σ m2 n2 ⟨h1, h5, nn, fr⟩
 have frs : ∀ j, j < n → j ≠ n2 ∧ j ≠ n2 + 1 ∧ j ≠ n2 + 1 + 1 := fun j hj => by omega
 have m01 : n2 ≠ n2 + 1 := by omega
 have m10 : n2 + 1 ≠ n2 := by omega
 rcases parX_cases s with ⟨y, hy, hm, hw⟩ | ⟨tt, x, hx⟩
 rotate_left
 ·rw [hx] at q2
  simp only [S] at q2
  simp -dsimp [h1, h5, S]
  refine pcall q2 ?_
  simp -dsimp [h1, h5, S, Tt]
  exact pcq rfl fun j hj => by rw [← fr j hj]; simp [set_ne, frs j hj]
 rw [hy] at q2
 have p2 := cPrintTm hw
 rw [hm] at p2
 have q3 := cTParse (textTm y)
 have s2 := cRSameTm hw (b := y)
 rw [sameTm_self] at s2
 have e3 : (textTm y).length ≤ 20000 → parX (textTm y) = (y, nilE) := fun h => parX_text hm h
 have c3 := parX_cases (textTm y)
 have hzy : (tmD y).length = 8 := by simp
 generalize textTm y = ty at p2 q3 e3 c3
 by_cases hl : ty.length ≤ 20000
 ·rw [e3 hl] at q3
  have hl' : decide ((20000 : Int) < ty.length) = false := decide_eq_false (by omega)
  generalize tmD y = Y at q2 p2 q3 s2 hzy
  have hty : List.take 8 Y = Y := List.take_of_length_le (by omega)
  simp only [S] at q2 p2 q3
  simp -dsimp [h1, h5, S]
  refine pcall q2 ?_
  simp -dsimp [h1, h5, S, Tt, hzy, hty, nilE, set_ne, m01, m10]
  refine pcall p2 ?_
  simp -dsimp [h1, h5, S, Tt, hzy, hty, nilE, argE, set_ne, m01, m10]
  refine pcall q3 ?_
  simp -dsimp [h1, h5, S, Tt, hzy, hty, nilE, set_ne, m01, m10, hl, hl']
  refine pcall s2 ?_
  simp -dsimp [h1, h5, S, Tt, hzy, hty, nilE, set_ne, m01, m10, hl, hl']
  exact pcq rfl fun j hj => by rw [← fr j hj]; simp [set_ne, frs j hj]
 ·have hl' : decide ((20000 : Int) < ty.length) = true := decide_eq_true (by omega)
  have hl2 : (20000 : Int) < ty.length := by omega
  have hz2 : (tmD (parX ty).1).length = 8 := by simp
  generalize tmD (parX ty).1 = Y2 at q3 hz2
  generalize tmD y = Y at q2 p2 s2 hzy
  have hty : List.take 8 Y = Y := List.take_of_length_le (by omega)
  simp only [S] at q2 p2 q3
  simp -dsimp [h1, h5, S]
  refine pcall q2 ?_
  simp -dsimp [h1, h5, S, Tt, hzy, hty, nilE, set_ne, m01, m10]
  refine pcall p2 ?_
  simp -dsimp [h1, h5, S, Tt, hzy, hty, nilE, argE, set_ne, m01, m10]
  refine pcall q3 ?_
  simp -dsimp [h1, h5, S, Tt, hzy, hty, hz2, nilE, set_ne, m01, m10, hl, hl', hl2]
  exact pcq rfl fun j hj => by rw [← fr j hj]; simp [set_ne, frs j hj]
end Go.Proofs.Mv.App
