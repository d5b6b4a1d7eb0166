/- A part of the proofs: machine, contracts, laws. No condition of its own. -/
import Derived.Test.YtihbegkefjjhpaaGreatDoorP15
import Derived.Test.YtihbegkefjjhpaaGreatDoorP12
set_option linter.unusedSimpArgs false
set_option linter.unusedVariables false
set_option linter.unusedSectionVars false
open Go Go.Proofs Go.Proofs.Mv.V
set_option maxRecDepth 10000
namespace Go.Proofs.Mv.App
def nilS : D := .v (.slice none 0 0)
structure CsI (l : List Tok) (dp : Nat) (a : Tm) (k : Nat) (m : Mem) (n : Nat) (L : List Brn) (p : PS) (σ : Nat → D) (m2 : Mem) (n2 : Nat) : Prop where
 h0 : σ 0 = .ptr k 0 0 0
 h2 : σ 2 = .ptr n 0 0 0
 h3 : σ 3 = .ptr (n + 1) 0 0 0
 l4 : Lst m2 10 (L.map brnD) (σ 4)
 l5 : Lst m2 1 (L.map fun b => [S b.1]) (σ 5)
 k4 : ∀ j, kof (σ 4) = some j → n + 2 ≤ j ∧ j < n2
 k5 : ∀ j, kof (σ 5) = some j → n + 2 ≤ j ∧ j < n2
 kd : ∀ j, kof (σ 4) = some j → kof (σ 5) ≠ some j
 nn : n + 2 ≤ n2
 pk : m2 k = some (pTObj l dp p)
 fr : ∀ j, j < n + 2 → j ≠ k → m2 j = ((m.set n zT).set (n + 1) ⟨8, [tmD a], 0⟩) j
structure CsH (l : List Tok) (dp : Nat) (rec : PS → Option (Tm × PS)) (F : Nat) (Lf : List Brn) (q : PS) (a : Tm) (k : Nat) (m : Mem) (n : Nat) (b : Nat × List Brn × PS) (σ : Nat → D) (m2 : Mem) (n2 : Nat) : Prop where
 ii : CsI l dp a k m n b.2.1 b.2.2 σ m2 n2
 st : (b.2.2.bad = 0 ∧ b.2.1 = [] ∧ brsO l rec b.1 [] b.2.2 = some (Lf, q)) ∨ (b.2.2.bad = 0 ∧ b.2.1 ≠ [] ∧ (if isT 1 wEnd l b.2.2 then some (b.2.1, stepF b.2.2) else brsO l rec b.1 b.2.1 b.2.2) = some (Lf, q)) ∨ (b.2.2.bad ≠ 0 ∧ b.2.2 = q)
 ln : b.2.1.length + b.1 ≤ F + 1
structure CsB (l : List Tok) (dp : Nat) (rec : PS → Option (Tm × PS)) (Lf : List Brn) (q : PS) (a : Tm) (k : Nat) (m : Mem) (n : Nat) (f : Nat) (L : List Brn) (p : PS) (σ : Nat → D) (m2 : Mem) (n2 : Nat) : Prop where
 ii : CsI l dp a k m n L p σ m2 n2
 bd : p.bad = 0
 run : brsO l rec f L p = some (Lf, q)
structure CsE (l : List Tok) (dp : Nat) (Lf : List Brn) (q : PS) (a : Tm) (k : Nat) (m : Mem) (n : Nat) (F : Nat) (σ : Nat → D) (m2 : Mem) (n2 : Nat) : Prop where
 ex : ∃ L, CsI l dp a k m n L q σ m2 n2 ∧ (q.bad = 0 → L = Lf) ∧ L.length ≤ F + 1
structure CsJ (l : List Tok) (dp : Nat) (a : Tm) (k : Nat) (m : Mem) (n : Nat) (L : List Brn) (p : PS) (x : Brn) (σ : Nat → D) (m2 : Mem) (n2 : Nat) : Prop where
 ex : ∃ T, CsI l dp a k m n L p σ m2 n2 ∧ σ 6 = .ptr T 0 0 0 ∧ m2 T = some ⟨10, [brnD x], 0⟩ ∧ n + 2 ≤ T ∧ T < n2 ∧ kof (σ 4) ≠ some T ∧ kof (σ 5) ≠ some T
structure Cs2 (n : Nat) (qs : List Brn) (n3 : Nat) (m3 : Mem) (a : Tm) (d4 : D) (i c : Nat) (dN dV dS : D) (σ : Nat → D) (m2 : Mem) (n2 : Nat) : Prop where
 h2 : σ 2 = .ptr n 0 0 0
 h7 : σ 7 = .ptr (n3 + 1) 0 0 0
 h66 : σ 66 = d4
 h67 : σ 67 = I qs.length
 h68 : σ 68 = I c
 le : i ≤ qs.length
 ll : L3 n3 m3 [(n3 + 1, ⟨8, [[I 12, I 0, S [], S [], dN, dV, nilS, dS]], 0⟩)] 1 ((qs.take i).map fun b => [S b.1]) dN 1 ((qs.take i).map fun b => [S b.2.1]) dV 8 (tmD a :: (qs.take i).map fun b => tmD b.2.2) dS m2 n2
theorem upd_CsI {l : List Tok} {dp : Nat} {a : Tm} {k : Nat} {m : Mem} {n : Nat} {L : List Brn} {p : PS} {σ σ' : Nat → D} {m2 : Mem} {n2 : Nat} (h : CsI l dp a k m n L p σ m2 n2) (e0 : σ' 0 = σ 0) (e2 : σ' 2 = σ 2) (e3 : σ' 3 = σ 3) (e4 : σ' 4 = σ 4) (e5 : σ' 5 = σ 5) : CsI l dp a k m n L p σ' m2 n2 := by
 obtain ⟨h0, h2, h3, l4, l5, k4, k5, kd, nn, pk, fr⟩ := h
 exact ⟨by rw [e0]; exact h0, by rw [e2]; exact h2, by rw [e3]; exact h3, by rw [e4]; exact l4, by rw [e5]; exact l5, by rw [e4]; exact k4, by rw [e5]; exact k5, by rw [e4, e5]; exact kd, nn, pk, fr⟩
theorem set_CsI {l : List Tok} {dp : Nat} {a : Tm} {k : Nat} {m : Mem} {n : Nat} {L : List Brn} {p p' : PS} {σ : Nat → D} {m2 : Mem} {n2 : Nat} (hk : k < n) (h : CsI l dp a k m n L p σ m2 n2) : CsI l dp a k m n L p' σ (m2.set k (pTObj l dp p')) n2 := by
 obtain ⟨h0, h2, h3, l4, l5, k4, k5, kd, nn, pk, fr⟩ := h
 exact ⟨h0, h2, h3, l4.frame fun j hj => set_ne _ _ _ _ (by have := k4 j hj; omega), l5.frame fun j hj => set_ne _ _ _ _ (by have := k5 j hj; omega), k4, k5, kd, nn, set_same _ _ _, fun j h1 h2 => by rw [set_ne _ _ _ _ h2]; exact fr j h1 h2⟩
theorem more_CsI {l : List Tok} {dp : Nat} {a : Tm} {k : Nat} {m : Mem} {n : Nat} {L : List Brn} {p p' : PS} {σ σ' : Nat → D} {m2 M : Mem} {n2 N : Nat} (h : CsI l dp a k m n L p σ m2 n2) (hM : ∀ j, j < n2 → j ≠ k → M j = m2 j) (hN : n2 ≤ N) (hk : k < n) (hp : M k = some (pTObj l dp p')) (e0 : σ' 0 = σ 0) (e2 : σ' 2 = σ 2) (e3 : σ' 3 = σ 3) (e4 : σ' 4 = σ 4) (e5 : σ' 5 = σ 5) : CsI l dp a k m n L p' σ' M N := by
 obtain ⟨h0, h2, h3, l4, l5, k4, k5, kd, nn, pk, fr⟩ := h
 exact ⟨by rw [e0]; exact h0, by rw [e2]; exact h2, by rw [e3]; exact h3, by rw [e4]; exact l4.frame fun j hj => hM j (by have := k4 j hj; omega) (by have := k4 j hj; omega), by rw [e5]; exact l5.frame fun j hj => hM j (by have := k5 j hj; omega) (by have := k5 j hj; omega), by rw [e4]; exact fun j hj => by have := k4 j hj; omega, by rw [e5]; exact fun j hj => by have := k5 j hj; omega, by rw [e4, e5]; exact kd, by omega, hp, fun j h1 h2 => by rw [hM j (by omega) h2]; exact fr j h1 h2⟩
set_option maxHeartbeats 8000000 in
theorem cTCas {l : List Tok} (hl : TkOk l) {dp : Nat} {rec : PS → Option (Tm × PS)} (hrec : RecC l dp rec) (hbad : ∀ p t q, rec p = some (t, q) → q.bad = 0 → p.bad = 0) {F : Nat} (hF : F ≤ 100000) {p0 : PS} (hb0 : p0.bad = 0) (ha0 : p0.at_ < l.length) {t : Tm} {q : PS} (hrun : casO l rec F (stepF p0) = some (t, q)) {k : Nat} {m : Mem} {n : Nat} (hk : k < n) (hm : m k = some (pTObj l dp p0)) :
  ACalls Tryz.prog 106 [.ptr k 0 0 0] m n (fun d m' n' => (∃ t', d = .agg (tmD t') ∧ (q.bad = 0 → t' = t)) ∧ m' = m.set k (pTObj l dp q) ∧ n' = n) := by
 unfold casO at hrun
 cases hr1 : rec (stepF p0) with
 | none => rw [hr1] at hrun; cases hrun
 | some r =>
 obtain ⟨a, q1⟩ := r
 rw [hr1] at hrun
 simp only at hrun
 obtain ⟨Lf, hst0, rfl⟩ : ∃ Lf, (((mustT 1 wOf l q1).bad = 0 ∧ brsO l rec F [] (mustT 1 wOf l q1) = some (Lf, q)) ∨ ((mustT 1 wOf l q1).bad ≠ 0 ∧ mustT 1 wOf l q1 = q)) ∧ t = caseR a (sortR Lf) := by
  split at hrun
  ·rename_i hb
   obtain ⟨⟨Lf, q'⟩, h1, h2⟩ := Option.map_eq_some_iff.1 hrun
   simp only [Prod.mk.injEq] at h2
   exact ⟨Lf, .inl ⟨hb, by rw [h1, h2.2]⟩, h2.1.symm⟩
  ·rename_i hb
   simp only [Option.some.injEq, Prod.mk.injEq] at hrun
   exact ⟨[], .inr ⟨hb, hrun.2⟩, by rw [← hrun.1]; rfl⟩
 refine acalls_put (X := fun d => ∃ t', d = .agg (tmD t') ∧ (q.bad = 0 → t' = caseR a (sortR Lf))) (R' := Hq (fun d m' n' => (∃ t' : Tm, PubAs n m' d (.agg (tmD t')) ∧ (q.bad = 0 → t' = caseR a (sortR Lf))) ∧ m' k = some (pTObj l dp q) ∧ ∀ j, j < n → j ≠ k → m' j = m j) tg) k hk _ ?_ ?_
 rotate_left
 ·rintro d m' n' ⟨⟨t', h1, h3⟩, h4, h5⟩
  exact ⟨.agg (tmD t'), _, h1, h4, .pur (pur_pT _ _ _), h5, t', rfl, h3⟩
 have kn : k ≠ n := by omega
 have kn1 : k ≠ n + 1 := by omega
 have nk : n ≠ k := by omega
 have nk1 : n + 1 ≠ k := by omega
 have h8 := tmD_len
 have wa := wrap_at hl ha0
 have hmx : m k = some ⟨4, [[toksD l, .v (.int .i64 p0.at_), .v (.int .i64 dp), .v .nilIface]], 0⟩ := by rw [hm]; simp [pTObj, pTC, errS, hb0, I, nilE]
 have hst := pTObj_step (l := l) (dp := dp) hb0
 refine acalls_vcC [0, 2, 3, 4, 5, 6, 7, 9, 35, 66, 67, 68, 69] Tryz.func106 Tryz.ntmps106 (by kernel_rfl) rfl rfl (by simp) ?_
 rw [vc_seq]
 simp -dsimp [-vc_seq]
 rw [vc_seq]
 simp -dsimp [hmx, wa, set_ne, kn, -vc_seq]
 rw [← hst]
 rw [vc_seq]
 simp -dsimp [-vc_seq]
 refine aCall_of (hrec _ a q1 hr1 k _ _ (by omega) (by simp)) ?_
 rintro d m1 n1 ⟨⟨a', rfl, ha'⟩, rfl, rfl⟩
 have hA8 := h8 a'
 simp -dsimp [hA8, -vc_seq]
 rw [vc_seq]
 simp -dsimp [-vc_seq]
 refine aCall_of (cTMust hl (dp := dp) (p := q1) (kd := 1) (by omega) wOf (by omega) (by simp [set_ne, kn1])) ?_
 rintro d m2 n2 ⟨rfl, rfl, rfl⟩
 simp -dsimp [-vc_seq]
 rw [vc_seq]
 simp -dsimp [-vc_seq]
 rw [vc_seq]
 simp -dsimp [-vc_seq]
 rw [vc_seq]
 refine vc_mid (CsE l dp Lf q a' k m n F) ?_ ?_
 ·simp -dsimp
  refine vloop_of (β := Nat × List Brn × PS) (CsH l dp rec F Lf q a' k m n) (fun b => if b.2.2.bad = 0 then b.1 + 1 else 0) (F, [], mustT 1 wOf l q1) ⟨⟨by simp, by simp, by simp, by first | exact Lst.nil | simp, by first | exact Lst.nil | simp, by simp, by simp, by simp, by omega, by simp, fun j hj hjk => ?_⟩, ?_, by simp⟩ ?_
  ·by_cases e1 : j = n + 1
   ·subst e1; simp [set_ne, nk1]
   ·by_cases e2 : j = n
    ·subst e2; simp [set_ne, nk, zT]
    ·simp [set_ne, hjk, e1, e2]
  ·rcases hst0 with h | h
   ·exact .inl ⟨h.1, rfl, h.2⟩
   ·exact .inr (.inr h)
  rintro ⟨f, L, p⟩ σ m2 n2 ⟨ii, st, ln⟩
  simp only at ii st ln
  rw [vc_seq]
  refine vc_mid (CsB l dp rec Lf q a' k m n f L p) ?_ ?_
  ·have ii' := ii
   obtain ⟨h0, h2, h3, l4, l5, k4, k5, kd, nn, pk, fr⟩ := ii
   have hll := lenD_lst l4
   rw [List.length_map] at hll
   by_cases hb : p.bad = 0
   case neg =>
    have hq' : p = q := by
     rcases st with ⟨h, _⟩ | ⟨h, _⟩ | ⟨_, h⟩
     ·exact absurd h hb
     ·exact absurd h hb
     ·exact h
    subst hq'
    have hmx : m2 k = some ⟨4, [[toksD l, I p.at_, I dp, spotE p.cnt p.bad]], 0⟩ := by rw [pk]; simp [pTObj, pTC, errS, hb]
    simp -dsimp [h0, h2, hmx, spotE]
    exact ⟨L, upd_CsI ii' (by simp [h0]) (by simp [h2]) (by simp) (by simp) (by simp), fun e => absurd e hb, by omega⟩
   have hmx : m2 k = some ⟨4, [[toksD l, I p.at_, I dp, nilE]], 0⟩ := by rw [pk]; simp [pTObj, pTC, errS, hb]
   by_cases hL : L = []
   ·subst hL
    rcases st with ⟨_, _, hr⟩ | ⟨_, h, _⟩ | ⟨h, _⟩
    rotate_left
    ·exact absurd rfl h
    ·exact absurd hb h
    simp only [List.length_nil] at hll
    simp -dsimp [h0, h2, hmx, nilE, hll, Tt]
    exact ⟨upd_CsI ii' (by simp [h0]) (by simp [h2]) (by simp) (by simp) (by simp), hb, hr⟩
   ·rcases st with ⟨_, h, _⟩ | ⟨_, _, hr⟩ | ⟨h, _⟩
    ·exact absurd h hL
    rotate_left
    ·exact absurd hb h
    have hpos : ¬ L.length = 0 := fun e => hL (List.length_eq_zero_iff.1 e)
    have hpos' : ((L.length : Int) == 0) = false := by simp [hpos]
    simp -dsimp [h0, h2, hmx, nilE, hll, Tt, hpos, hpos', hL]
    refine aCall_of (cTPass hl (dp := dp) (p := p) (kd := 1) (by omega) wEnd (by omega) pk) ?_
    rintro d m3 n3 ⟨rfl, rfl, rfl⟩
    cases hi : isT 1 wEnd l p with
    | true =>
     rw [hi] at hr
     simp only [if_true, Option.some.injEq, Prod.mk.injEq] at hr
     obtain ⟨rfl, rfl⟩ := hr
     simp -dsimp [Tt, hi]
     exact ⟨L, upd_CsI (set_CsI hk ii') (by simp [h0]) (by simp [h2]) (by simp) (by simp) (by simp), fun _ => rfl, by omega⟩
    | false =>
     rw [hi] at hr
     simp only [Bool.false_eq_true, if_false] at hr
     simp -dsimp [Tt, hi]
     exact ⟨upd_CsI (set_CsI hk ii') (by simp [h0]) (by simp [h2]) (by simp) (by simp) (by simp), hb, hr⟩
  rintro σ m2 n2 ⟨ii, hb, hr⟩
  cases f with
  | zero => simp only [brsO] at hr; cases hr
  | succ f =>
  simp only [brsO, brhO] at hr
  have ii' := ii
  obtain ⟨h0, h2, h3, l4, l5, k4, k5, kd, nn, pk, fr⟩ := ii
  have l5' : Lst m2 1 ((L.map (·.1)).map fun s => [S s]) (σ 5) := by rw [List.map_map]; exact l5
  have hfr := cTFreshO (n := n2) hl (dp := dp) (p := p) (kd := 2) (by omega) fineTt l5' (by simp; omega) (fun j hj => (k5 j hj).2) (by omega) pk
  generalize freshT 2 tagN (L.map (·.1)) l p = fn at hr hfr
  obtain ⟨nm, p1⟩ := fn
  simp only at hr hfr
  simp only [I] at hfr
  generalize hv : namedT 1 nameN l (mustT 4 [40] l p1) = vn at hr
  obtain ⟨v, p2⟩ := vn
  simp only at hr
  cases hrp : rec (mustT 4 [45, 62] l (mustT 4 [41] l p2)) with
  | none => rw [hrp] at hr; cases hr
  | some r =>
  obtain ⟨t, p3⟩ := r
  rw [hrp] at hr
  simp only at hr
  generalize hd4 : σ 4 = d4 at l4 k4 kd
  generalize hd5 : σ 5 = d5 at l5 l5' k5 kd hfr
  have k4k : ∀ j, kof d4 = some j → j ≠ k := fun j hj e => by have := k4 j hj; omega
  have k5k : ∀ j, kof d5 = some j → j ≠ k := fun j hj e => by have := k5 j hj; omega
  simp -dsimp [h0, h2, h3, hd4, hd5, -vc_seq]
  rw [vc_seq]
  simp -dsimp [h0, h2, h3, hd4, hd5, -vc_seq]
  refine aCall_of hfr ?_
  rintro d m3 n3 ⟨rfl, rfl, rfl⟩
  have T1 : n3 ≠ k := by omega
  have T2 : k ≠ n3 := by omega
  simp -dsimp [h0, h2, h3, hd4, hd5, S, -vc_seq]
  rw [vc_seq]
  simp -dsimp [h0, h2, h3, hd4, hd5, S, -vc_seq]
  refine aCall_of (cTMust hl (dp := dp) (p := p1) (kd := 4) (by omega) [40] (by omega) (by simp [set_ne, T2])) ?_
  rintro d m4 n4 ⟨rfl, rfl, rfl⟩
  simp -dsimp [h0, h2, h3, hd4, hd5, S, -vc_seq]
  rw [vc_seq]
  simp -dsimp [h0, h2, h3, hd4, hd5, S, -vc_seq]
  have hnm := cTNamed hl (dp := dp) (p := mustT 4 [40] l p1) (kd := 1) (by omega) fineTn (k := k) (m := ((m2.set k (pTObj l dp p1)).set n3 ⟨10, [[S nm, S [], I 0, I 0, S [], S [], nilS, nilS, nilS, nilS]], 0⟩).set k (pTObj l dp (mustT 4 [40] l p1))) (n := n3 + 1) (by omega) (by simp)
  rw [hv] at hnm
  simp only [I, S, nilS] at hnm
  refine aCall_of hnm ?_
  rintro d m5 n5 ⟨rfl, rfl, rfl⟩
  simp -dsimp [h0, h2, h3, hd4, hd5, S, set_ne, T1, T2, -vc_seq]
  rw [vc_seq]
  simp -dsimp [h0, h2, h3, hd4, hd5, S, set_ne, T1, T2, -vc_seq]
  refine aCall_of (cTMust hl (dp := dp) (p := p2) (kd := 4) (by omega) [41] (by omega) (by simp [set_ne, T2])) ?_
  rintro d m6 n6 ⟨rfl, rfl, rfl⟩
  simp -dsimp [h0, h2, h3, hd4, hd5, S, set_ne, T1, T2, -vc_seq]
  rw [vc_seq]
  simp -dsimp [h0, h2, h3, hd4, hd5, S, set_ne, T1, T2, -vc_seq]
  refine aCall_of (cTMust hl (dp := dp) (p := mustT 4 [41] l p2) (kd := 4) (by omega) [45, 62] (by omega) (by simp [set_ne, T2])) ?_
  rintro d m7 n7 ⟨rfl, rfl, rfl⟩
  simp -dsimp [h0, h2, h3, hd4, hd5, S, set_ne, T1, T2, -vc_seq]
  rw [vc_seq]
  refine vc_mid (fun σ' M N => ∃ t', (p3.bad = 0 → t' = t) ∧ CsJ l dp a' k m n L p3 (nm, v, t') σ' M N) ?_ ?_
  ·simp -dsimp [h0, h2, h3, hd4, hd5, S, set_ne, T1, T2]
   refine aCall_of (hrec _ t p3 hrp k _ _ (by omega) (by simp [set_ne, T2])) ?_
   rintro d m8 n8 ⟨⟨t', rfl, ht⟩, rfl, rfl⟩
   have ht8 := h8 t'
   simp -dsimp [h0, h2, h3, hd4, hd5, S, set_ne, T1, T2, ht8]
   refine ⟨t', ht, ⟨⟨n3, more_CsI ii' (fun j h1 h2 => ?_) (by omega) hk ?_ (by simp [h0]) (by simp [h2]) (by simp [h3]) (by simp [hd4]) (by simp [hd5]), by simp, ?_, by omega, by omega, ?_, ?_⟩⟩⟩
   ·simp [set_ne, h2, show j ≠ n3 by omega]
   ·simp [set_ne, T2]
   ·simp [set_ne, T1, brnD, S]
   ·simp only [upd]; intro e
    first | (have := k4 _ (by simpa [hd4] using e); omega) | (simp [hd4] at e; have := k4 _ e; omega)
   ·simp only [upd]; intro e
    first | (have := k5 _ (by simpa [hd5] using e); omega) | (simp [hd5] at e; have := k5 _ e; omega)
  clear hfr l4 l5 l5' k4 k5 kd nn pk fr h0 h2 h3 ii ii' k4k k5k hnm hd4 hd5 d4 d5
  rintro σ m2 n2 ⟨t', ht, ⟨T, ii, h6, hT, t1, t2, t4, t5⟩⟩
  have ii' := ii
  obtain ⟨h0, h2, h3, l4, l5, k4, k5, kd, nn, pk, fr⟩ := ii
  generalize hd4 : σ 4 = d4 at l4 k4 kd t4
  generalize hd5 : σ 5 = d5 at l5 k5 kd t5
  have hL : L3 (n + 2) m2 [(T, ⟨10, [brnD (nm, v, t')], 0⟩)] 10 (L.map brnD) d4 1 (L.map fun b => [S b.1]) d5 1 [] nilS m2 n2 :=
   ⟨l4, l5, Lst.nil, fun j hj => ⟨(k4 j hj).1, (k4 j hj).2, fun x hx e => by simp only [List.mem_singleton] at hx; subst hx; simp only at e; subst e; exact t4 hj⟩, fun j hj => ⟨(k5 j hj).1, (k5 j hj).2, fun x hx e => by simp only [List.mem_singleton] at hx; subst hx; simp only at e; subst e; exact t5 hj⟩, fun j hj => by simp [nilS, kof] at hj, kd, fun j _ e => by simp [nilS, kof] at e, fun j _ e => by simp [nilS, kof] at e, fun _ _ => rfl, fun x hx => by simp only [List.mem_singleton] at hx; subst hx; exact ⟨hT, t2⟩, nn⟩
  have ht8 := h8 t'
  have hT' := hT
  simp only [brnD] at hT'
  have TT : T ≠ n2 := by omega
  have TT1 : T ≠ n2 + 1 := by omega
  simp -dsimp [h0, h2, h3, hd4, hd5, h6]
  refine vdraw_tree [0, 0, 2, 7, 0, 0, 32, 96, 255, 511, 1023] (.rd 0 (.rd 1 (.rd 4 (.rd 5 (.rd 6 (.wr (.cons 2 (.wr (.cons 3 (.wr (.cons 7 (.wr (.cons 8 (.rd 9 (.rd 10 (.fin))) (.nil))) (.nil))) (.cons 7 (.wr (.cons 3 (.wr (.cons 8 (.rd 9 (.rd 10 (.fin))) (.nil))) (.nil))) (.nil)))) (.cons 7 (.wr (.cons 2 (.wr (.cons 3 (.wr (.cons 8 (.rd 9 (.rd 10 (.fin))) (.nil))) (.nil))) (.nil))) (.nil))))))))) (by kernel_rfl) (by kernel_rfl) ?_
  simp -dsimp [h0, h2, h3, hd4, hd5, h6, hT', S, ht8, set_ne, TT, TT1]
  have fin : ∀ {da db : D} {mb : Mem} {nb : Nat} {fs : List (Nat × V.Obj)}, L3 (n + 2) m2 fs 10 (L.map brnD ++ [brnD (nm, v, t')]) da 1 ((L.map fun b => [S b.1]) ++ [[S nm]]) db 1 [] nilS mb nb → ∀ {σ' : Nat → D}, σ' 0 = σ 0 → σ' 2 = σ 2 → σ' 3 = σ 3 → σ' 4 = da → σ' 5 = db → CsH l dp rec F Lf q a' k m n (f, L ++ [(nm, v, t')], p3) σ' mb nb := by
   intro da db mb nb fs h σ' e0 e2 e3 e4 e5
   refine ⟨⟨by rw [e0]; exact h0, by rw [e2]; exact h2, by rw [e3]; exact h3, by rw [e4, List.map_append]; exact h.l1, by rw [e5, List.map_append]; exact h.l2, by rw [e4]; exact fun j hj => ⟨(h.k1 j hj).1, (h.k1 j hj).2.1⟩, by rw [e5]; exact fun j hj => ⟨(h.k2 j hj).1, (h.k2 j hj).2.1⟩, by rw [e4, e5]; exact h.d12, h.ll, by rw [h.lf k (by omega)]; exact pk, fun j h1 h2 => by rw [h.lf j h1]; exact fr j h1 h2⟩, ?_, by simp only [List.length_append, List.length_cons, List.length_nil] at ln ⊢; omega⟩
   simp only
   by_cases hb3 : p3.bad = 0
   ·rw [if_pos hb3] at hr
    rw [ht hb3]
    exact .inr (.inl ⟨hb3, by simp, hr⟩)
   ·rw [if_neg hb3] at hr
    simp only [Option.some.injEq, Prod.mk.injEq] at hr
    exact .inr (.inr ⟨hb3, hr.2⟩)
  repeat' (with_reducible apply And.intro)
  all_goals try (simp [set_ne, TT, TT1, show n2 ≠ n2 + 1 by omega]; done)
  all_goals
   refine L3.app1 (by first | exact hL.alloc _ | exact (hL.alloc _).alloc _) trivial trivial (by omega) (by simp; omega) ?_
   intro da ma na h hn
   have hf := h.facts
   simp only [List.forall_mem_cons, List.not_mem_nil, false_implies, implies_true, and_true] at hf
   refine ⟨fun p hp _ => ?_, ?_⟩
   ·simp only [List.mem_cons, List.not_mem_nil, or_false] at hp
    rcases hp with rfl | rfl <;> simp [hf, set_ne, TT, TT1, hT]
   simp -dsimp [h0, h2, h3, hd4, hd5, h6, S, ht8, set_ne, hf]
   repeat' (with_reducible apply And.intro)
   all_goals try (simp [set_ne, hf]; done)
   refine L3.app2 (by first | exact h | exact h.alloc _) trivial trivial (by omega) (by simp; omega) ?_
   intro db mb nb h' hn'
   have hf' := h'.facts
   simp only [List.forall_mem_cons, List.not_mem_nil, false_implies, implies_true, and_true] at hf'
   refine ⟨fun p hp _ => ?_, ?_⟩
   ·simp only [List.mem_cons, List.not_mem_nil, or_false] at hp
    rcases hp with rfl | rfl <;> simp [hf', hf, set_ne, TT, TT1, hT]
   simp -dsimp [h0, h2, h3, hd4, hd5, h6, S, ht8, set_ne, hf']
   refine ⟨f, L ++ [(nm, v, t')], p3, ?_, fin h' (by simp [h0]) (by simp [h2]) (by simp [h3]) (by simp) (by simp)⟩
   simp only [if_pos hb]
   split <;> omega
 rintro σ m2 n2 ⟨⟨L, ii, hLf, hLn⟩⟩
 obtain ⟨h0, h2, h3, l4, l5, k4, k5, kd, nn, pk, fr⟩ := ii
 generalize hd4 : σ 4 = d4 at l4 k4 kd
 rw [vc_seq]
 simp -dsimp [h0, h2, h3, hd4, -vc_seq]
 refine aCall_of (cSortC l4 (by omega) (fun j hj => (k4 j hj).2)) ?_
 rintro d m3 n3 ⟨qs, s1, s2, s3, s4, rfl⟩
 have hql : qs.length = L.length := s1.length_eq
 have hres : q.bad = 0 → caseR a' qs = caseR a (sortR Lf) := fun hq0 => by
  have hLe := hLf hq0
  subst hLe
  rcases hst0 with ⟨hb, h⟩ | ⟨hb, h⟩
  ·obtain ⟨p3, p4⟩ := sortR_spec L
   rw [sortedR_uniq (brs_nodup hbad F [] _ L q h hq0 (by simp)) s1 p3 s2 p4, ha' (mustT_ok hb)]
  ·rw [h] at hb; exact absurd hq0 hb
 have pk3 : m3 k = some (pTObj l dp q) := by rw [s4 k (fun e => by have := k4 k e; omega)]; exact pk
 have fr3 : ∀ j, j < n + 2 → j ≠ k → m3 j = ((m.set n zT).set (n + 1) ⟨8, [tmD a'], 0⟩) j := fun j h1 h2 => by rw [s4 j (fun e => by have := k4 j e; omega)]; exact fr j h1 h2
 have hm1 : m3 (n + 1) = some ⟨8, [tmD a'], 0⟩ := by rw [fr3 (n + 1) (by omega) nk1, set_same]
 have hmn : m3 n = some zT := by rw [fr3 n (by omega) nk, set_ne _ _ _ _ (by omega), set_same]
 have hll := lenD_lst s3
 rw [List.length_map] at hll
 have N1 : n3 ≠ n3 + 1 := by omega
 have hL : L3 n3 m3 [(n3 + 1, ⟨8, [[I 12, I 0, S [], S [], nilS, nilS, nilS, .own n3 0 0 1 8]], 0⟩)] 1 (([] : List Brn).map fun b => [S b.1]) nilS 1 (([] : List Brn).map fun b => [S b.2.1]) nilS 8 (tmD a' :: ([] : List Brn).map fun b => tmD b.2.2) (.own n3 0 0 1 8) ((m3.set n3 ⟨8, [tmD a'], 0⟩).set (n3 + 1) ⟨8, [[I 12, I 0, S [], S [], nilS, nilS, nilS, .own n3 0 0 1 8]], 0⟩) (n3 + 1 + 1) := by
  refine ⟨Lst.nil, Lst.nil, Lst.mk (es' := [tmD a']) (by simp [set_ne, N1]) (by simp) (by simp) (by simp), fun j hj => by simp [nilS, kof] at hj, fun j hj => by simp [nilS, kof] at hj, fun j hj => ?_, fun j e => by simp [nilS, kof] at e, fun j e => by simp [nilS, kof] at e, fun j e => by simp [nilS, kof] at e, fun j hj => by rw [set_ne _ _ _ _ (by omega), set_ne _ _ _ _ (by omega)], fun x hx => ?_, by omega⟩
  ·simp only [kof, Option.some.injEq] at hj
   subst hj
   exact ⟨by omega, by omega, fun x hx => by simp only [List.mem_singleton] at hx; subst hx; simp only; omega⟩
  ·simp only [List.mem_singleton] at hx; subst hx; exact ⟨set_same _ _ _, by simp only; omega⟩
 simp -dsimp [h0, h2, h3, hd4, hm1, hA8, hll, set_ne, N1]
 refine vloop_of (β := Nat) (fun i σ m2 n2 => ∃ dN dV dS, Cs2 n qs n3 m3 a' d4 i i dN dV dS σ m2 n2) (fun i => qs.length - i) 0 ⟨nilS, nilS, .own n3 0 0 1 8, by simp [h2], by simp, by simp, by simp [I], by simp [I], by omega, by simpa [nilS, I, S] using hL⟩ ?_
 rintro i σ m2 n2 ⟨dN, dV, dS, H⟩
 obtain ⟨h2, h7, h66, h67, h68, le, ll⟩ := H
 have hmn2 : m2 n = some zT := by rw [ll.lf n (by omega)]; exact hmn
 have oK := (ll.ff _ (List.mem_singleton.2 rfl)).1
 simp only at oK
 have kK := (ll.ff _ (List.mem_singleton.2 rfl)).2
 simp only at kK
 have X1 : n2 ≠ n3 + 1 := by omega
 have X2 : n3 + 1 ≠ n2 := by omega
 have X3 : n3 + 1 ≠ n2 + 1 := by omega
 have X4 : n3 + 1 ≠ n2 + 1 + 1 := by omega
 have X5 : n3 + 1 ≠ n2 + 1 + 1 + 1 := by omega
 have Y1 : n3 ≠ n2 := by omega
 have Y2 : n3 ≠ n2 + 1 := by omega
 have Y3 : n3 ≠ n2 + 1 + 1 := by omega
 have Y4 : n2 ≠ n2 + 1 := by omega
 have Y5 : n2 ≠ n2 + 1 + 1 := by omega
 have Y6 : n2 ≠ n2 + 1 + 1 + 1 := by omega
 by_cases hi : (i : Int) < qs.length
 ·have hi' : i < qs.length := by omega
  have wi : IntKind.i64.wrap ((i : Int) + 1) = (i : Int) + 1 := wrap_i64 (by omega) (by omega)
  have s3' := s3
  rcases s3' with ⟨he, _⟩ | ⟨kk, gg, es', rfl, hmk, hle, htk⟩
  ·have : qs = [] := by simpa using he
   subst this; simp at hi'
  have hkk := k4 kk rfl
  have hmk2 : m2 kk = some ⟨10, es', gg⟩ := by rw [ll.lf kk (by omega)]; exact hmk
  have hgi : es'[i]? = some (brnD qs[i]) := by
   have h1 : (es'.take (qs.map brnD).length)[i]? = some (brnD qs[i]) := by rw [htk]; simp [hi']
   rw [List.getElem?_take] at h1
   split at h1
   ·exact h1
   ·cases h1
  have hle' : i < es'.length := by simp at hle; omega
  have hgi' : es'[i] = brnD qs[i] := get_opt hgi hle'
  have hb8 := tmD_len qs[i].2.2
  simp only [brnD] at hgi'
  rw [vc_seq]
  simp -dsimp [h2, h7, h66, h67, h68, I, S, hi, -vc_seq]
  rw [vc_seq]
  simp -dsimp [h2, h7, h66, h67, h68, I, S, hi, -vc_seq]
  rw [vc_seq]
  refine vc_mid (fun σ m2 n2 => ∃ dN dV dS, Cs2 n qs n3 m3 a' (.own kk gg 0 (qs.map brnD).length 10) (i + 1) i dN dV dS σ m2 n2) ?_ ?_
  ·have hL1 := ll.alloc ⟨10, [S qs[i].1 :: S qs[i].2.1 :: tmD qs[i].2.2], 0⟩
   simp only [S, I] at hL1
   simp only [I, S] at oK
   have fin2 : ∀ {da db dc : D} {mc : Mem} {nc : Nat} {fs : List (Nat × V.Obj)} {o : V.Obj}, L3 n3 m3 fs 1 (((qs.take i).map fun b => [S b.1]) ++ [[S qs[i].1]]) da 1 (((qs.take i).map fun b => [S b.2.1]) ++ [[S qs[i].2.1]]) db 8 ((tmD a' :: (qs.take i).map fun b => tmD b.2.2) ++ [tmD qs[i].2.2]) dc mc nc → (n3 + 1, o) ∈ fs → ∀ {σ' : Nat → D}, σ' 2 = .ptr n 0 0 0 → σ' 7 = .ptr (n3 + 1) 0 0 0 → σ' 66 = .own kk gg 0 qs.length 10 → σ' 67 = I qs.length → σ' 68 = I i →
     Cs2 n qs n3 m3 a' (.own kk gg 0 qs.length 10) (i + 1) i da db dc σ' (mc.set (n3 + 1) ⟨8, [[I 12, I 0, S [], S [], da, db, nilS, dc]], 0⟩) nc := by
    intro da db dc mc nc fs o h ho σ' e2 e7 e66 e67 e68
    have h1 : L3 n3 m3 [(n3 + 1, o)] _ _ _ _ _ _ _ _ _ _ _ := h.less fun x hx => by simp only [List.mem_singleton] at hx; subst hx; exact ho
    refine ⟨e2, e7, e66, e67, e68, by omega, ?_⟩
    rw [take_snoc hi', List.map_append, List.map_append, List.map_append]
    exact h1.upd (by omega) (by simp)
   simp -dsimp [h2, h7, h66, h67, h68, I, S, hi', hmk2, hle', hgi', hb8, oK, set_ne, X1, X2]
   refine vdraw_tree [0, 1, 0, 4, 12, 31, 0, 64, 0, 256, 768, 2047, 0, 4096, 0, 16384, 49152, 131071, 12543, 524287, 1048575, 2097151, 4194303, 8388607] (.rd 0 (.rd 1 (.rd 2 (.rd 3 (.rd 6 (.rd 7 (.rd 8 (.rd 9 (.rd 12 (.rd 13 (.rd 14 (.rd 15 (.wr (.cons 4 (.wr (.cons 5 (.rd 18 (.wr (.cons 10 (.wr (.cons 11 (.wr (.cons 16 (.wr (.cons 17 (.wr (.cons 19 (.rd 20 (.wr (.cons 21 (.rd 22 (.wr (.cons 23 (.fin) (.nil)))) (.nil)))) (.nil))) (.nil))) (.nil))) (.cons 16 (.wr (.cons 11 (.wr (.cons 17 (.wr (.cons 19 (.rd 20 (.wr (.cons 21 (.rd 22 (.wr (.cons 23 (.fin) (.nil)))) (.nil)))) (.nil))) (.nil))) (.nil))) (.nil)))) (.cons 16 (.wr (.cons 10 (.wr (.cons 11 (.wr (.cons 17 (.wr (.cons 19 (.rd 20 (.wr (.cons 21 (.rd 22 (.wr (.cons 23 (.fin) (.nil)))) (.nil)))) (.nil))) (.nil))) (.nil))) (.nil))) (.nil))))) (.cons 10 (.wr (.cons 5 (.rd 18 (.wr (.cons 11 (.wr (.cons 16 (.wr (.cons 17 (.wr (.cons 19 (.rd 20 (.wr (.cons 21 (.rd 22 (.wr (.cons 23 (.fin) (.nil)))) (.nil)))) (.nil))) (.nil))) (.nil))) (.cons 16 (.wr (.cons 11 (.wr (.cons 17 (.wr (.cons 19 (.rd 20 (.wr (.cons 21 (.rd 22 (.wr (.cons 23 (.fin) (.nil)))) (.nil)))) (.nil))) (.nil))) (.nil))) (.nil))))) (.cons 16 (.wr (.cons 5 (.rd 18 (.wr (.cons 11 (.wr (.cons 17 (.wr (.cons 19 (.rd 20 (.wr (.cons 21 (.rd 22 (.wr (.cons 23 (.fin) (.nil)))) (.nil)))) (.nil))) (.nil))) (.nil)))) (.nil))) (.nil)))) (.cons 16 (.wr (.cons 5 (.rd 18 (.wr (.cons 10 (.wr (.cons 11 (.wr (.cons 17 (.wr (.cons 19 (.rd 20 (.wr (.cons 21 (.rd 22 (.wr (.cons 23 (.fin) (.nil)))) (.nil)))) (.nil))) (.nil))) (.nil))) (.nil)))) (.cons 10 (.wr (.cons 5 (.rd 18 (.wr (.cons 11 (.wr (.cons 17 (.wr (.cons 19 (.rd 20 (.wr (.cons 21 (.rd 22 (.wr (.cons 23 (.fin) (.nil)))) (.nil)))) (.nil))) (.nil))) (.nil)))) (.nil))) (.nil)))) (.nil))))) (.cons 10 (.wr (.cons 4 (.wr (.cons 5 (.rd 18 (.wr (.cons 11 (.wr (.cons 16 (.wr (.cons 17 (.wr (.cons 19 (.rd 20 (.wr (.cons 21 (.rd 22 (.wr (.cons 23 (.fin) (.nil)))) (.nil)))) (.nil))) (.nil))) (.nil))) (.cons 16 (.wr (.cons 11 (.wr (.cons 17 (.wr (.cons 19 (.rd 20 (.wr (.cons 21 (.rd 22 (.wr (.cons 23 (.fin) (.nil)))) (.nil)))) (.nil))) (.nil))) (.nil))) (.nil))))) (.cons 16 (.wr (.cons 5 (.rd 18 (.wr (.cons 11 (.wr (.cons 17 (.wr (.cons 19 (.rd 20 (.wr (.cons 21 (.rd 22 (.wr (.cons 23 (.fin) (.nil)))) (.nil)))) (.nil))) (.nil))) (.nil)))) (.nil))) (.nil)))) (.cons 16 (.wr (.cons 4 (.wr (.cons 5 (.rd 18 (.wr (.cons 11 (.wr (.cons 17 (.wr (.cons 19 (.rd 20 (.wr (.cons 21 (.rd 22 (.wr (.cons 23 (.fin) (.nil)))) (.nil)))) (.nil))) (.nil))) (.nil)))) (.nil))) (.nil))) (.nil)))) (.cons 16 (.wr (.cons 4 (.wr (.cons 5 (.rd 18 (.wr (.cons 10 (.wr (.cons 11 (.wr (.cons 17 (.wr (.cons 19 (.rd 20 (.wr (.cons 21 (.rd 22 (.wr (.cons 23 (.fin) (.nil)))) (.nil)))) (.nil))) (.nil))) (.nil))) (.nil)))) (.cons 10 (.wr (.cons 5 (.rd 18 (.wr (.cons 11 (.wr (.cons 17 (.wr (.cons 19 (.rd 20 (.wr (.cons 21 (.rd 22 (.wr (.cons 23 (.fin) (.nil)))) (.nil)))) (.nil))) (.nil))) (.nil)))) (.nil))) (.nil)))) (.cons 10 (.wr (.cons 4 (.wr (.cons 5 (.rd 18 (.wr (.cons 11 (.wr (.cons 17 (.wr (.cons 19 (.rd 20 (.wr (.cons 21 (.rd 22 (.wr (.cons 23 (.fin) (.nil)))) (.nil)))) (.nil))) (.nil))) (.nil)))) (.nil))) (.nil))) (.nil)))) (.nil))))))))))))))))) (by kernel_rfl) (by kernel_rfl) ?_
   generalize hmk : ([0, 1, 0, 4, 12, 31, 0, 64, 0, 256, 768, 2047, 0, 4096, 0, 16384, 49152, 131071, 12543, 524287, 1048575, 2097151, 4194303, 8388607] : List Nat) = mk
   have hb : ([19, 21, 23].all fun i => [1, 7, 13].all fun j => (mk.getD i 0).testBit j) = true := by rw [← hmk]; kernel_rfl
   simp at hb
   simp -dsimp [h2, h7, h66, h67, h68, I, S, hi', hmk2, hle', hgi', hb8, oK, set_ne, X1, X2, X3, X4, X5, Y1, Y2, Y3, Y4, Y5, Y6]
   repeat' (with_reducible apply And.intro)
   all_goals
    refine L3.app1 (by first | exact hL1.alloc _ | exact (hL1.alloc _).alloc _ | exact ((hL1.alloc _).alloc _).alloc _) trivial trivial (by omega) (by simp; omega) ?_
    intro da ma na h hn
    have hf := h.facts
    simp only [List.forall_mem_cons, List.not_mem_nil, false_implies, implies_true, and_true, ne_eq, Nat.add_right_cancel_iff] at hf
    refine ⟨fun p hp _ => ?_, ?_⟩
    ·simp only [List.mem_cons, List.not_mem_nil, or_false] at hp
     rcases hp with rfl | rfl | rfl | rfl | rfl | rfl <;> simp [hf, set_ne, X1, X2, X3, X4, X5, Y1, Y2, Y3, Y4, Y5, Y6, oK]
    simp -dsimp [h2, h7, h66, h67, h68, I, S, hb8, set_ne, hf]
    repeat' (with_reducible apply And.intro)
    all_goals
     refine L3.app2 (by first | exact h | exact h.alloc _ | exact (h.alloc _).alloc _) trivial trivial (by omega) (by simp; omega) ?_
     intro db mb nb h' hn'
     have hf2 := h'.facts
     simp only [List.forall_mem_cons, List.not_mem_nil, false_implies, implies_true, and_true, ne_eq, Nat.add_right_cancel_iff] at hf2
     refine ⟨fun p hp _ => ?_, ?_⟩
     ·simp only [List.mem_cons, List.not_mem_nil, or_false] at hp
      rcases hp with rfl | rfl | rfl | rfl | rfl | rfl <;> simp [hf2, hf, set_ne]
     simp -dsimp [h2, h7, h66, h67, h68, I, S, hb8, set_ne, hf2]
     refine L3.app3 (by first | exact h' | exact h'.alloc _) trivial trivial (by omega) (by simp; omega) ?_
     intro dc mc nc h'' hn''
     have hf3 := h''.facts
     simp only [List.forall_mem_cons, List.not_mem_nil, false_implies, implies_true, and_true, ne_eq, Nat.add_right_cancel_iff] at hf3
     refine ⟨fun p hp _ => ?_, ?_⟩
     ·simp only [List.mem_cons, List.not_mem_nil, or_false] at hp
      rcases hp with rfl | rfl | rfl | rfl | rfl | rfl <;> simp [hf3, hf2, set_ne]
     obtain ⟨oda, cda⟩ := okD_lst h''.l1
     obtain ⟨odb, cdb⟩ := okD_lst h''.l2
     obtain ⟨odc, cdc⟩ := okD_lst h''.l3
     simp -dsimp [h2, h7, h66, h67, h68, I, S, hb8, set_ne, hf3, hb, oda, cda, odb, cdb, odc, cdc, X1, X2, Y1]
     exact ⟨da, db, dc, fin2 h'' (by repeat (first | exact List.mem_cons_self | apply List.mem_cons_of_mem)) (by simp [h2]) (by simp [h7]) (by simp [h66]) (by simp [h67, I]) (by simp [h68, I])⟩
  rintro σ m2 n2 ⟨dN, dV, dS, H⟩
  obtain ⟨h2, h7, h66, h67, h68, le, ll⟩ := H
  simp only [List.length_map] at h66
  simp -dsimp [h68, I, wi]
  exact ⟨i + 1, by omega, dN, dV, dS, by simp [h2], by simp [h7], by simp [h66], by simp [h67], by simp [I], le, ll⟩
 ·have e : i = qs.length := by omega
  subst e
  rw [List.take_length] at ll
  simp -dsimp [h2, h7, h66, h67, h68, I, S, hi, oK, hmn2, zT]
  refine hq ⟨⟨caseR a' qs, ?_, hres⟩, by rw [set_ne _ _ _ _ kn, ll.lf k (by omega)]; exact pk3, fun j hj hjk => by rw [set_ne _ _ _ _ (by omega), ll.lf j (by omega), fr3 j (by omega) hjk, set_ne _ _ _ _ (by omega), set_ne _ _ _ _ (by omega)]⟩
  have kk : ∀ {d : D}, (∀ j, kof d = some j → n3 ≤ j ∧ j < n2 ∧ ∀ x ∈ [((n3 + 1 : Nat), (⟨8, [[I 12, I 0, S [], S [], dN, dV, nilS, dS]], 0⟩ : V.Obj))], x.1 ≠ j) → ∀ j, kof d = some j → j ≠ n ∧ n ≤ j := fun h j hj => by have := h j hj; omega
  have g1 : ∀ o : V.Obj, Lst (m2.set n o) 1 ((qs.map (·.1)).map fun s => [S s]) dN := fun o => by
   rw [List.map_map]; exact ll.l1.frame fun j hj => set_ne _ _ _ _ (kk ll.k1 j hj).1
  have g2 : ∀ o : V.Obj, Lst (m2.set n o) 1 ((qs.map (·.2.1)).map fun s => [S s]) dV := fun o => by
   rw [List.map_map]; exact ll.l2.frame fun j hj => set_ne _ _ _ _ (kk ll.k2 j hj).1
  have g3 : ∀ o : V.Obj, Lst (m2.set n o) 8 ((a' :: qs.map (·.2.2)).map tmD) dS := fun o => by
   rw [List.map_cons, List.map_map]; exact ll.l3.frame fun j hj => set_ne _ _ _ _ (kk ll.k3 j hj).1
  simp only [caseR, tmD, tmsD_eq, sl1, List.map_nil]
  refine .agg (.cons (pur_I _).pub (.cons (pur_I _).pub (.cons (pur_S _).pub (.cons (pur_S _).pub (.cons ?_ (.cons ?_ (.cons (pub_nil 7) (.cons ?_ .nil))))))))
  ·exact .lstP (by simpa [I, S] using g1 _) (fun j hj => (kk ll.k1 j hj).2) pur_ss
  ·exact .lstP (by simpa [I, S] using g2 _) (fun j hj => (kk ll.k2 j hj).2) pur_ss
  ·exact .lstP (by simpa [I, S] using g3 _) (fun j hj => (kk ll.k3 j hj).2) (pur_tmm _)
end Go.Proofs.Mv.App
