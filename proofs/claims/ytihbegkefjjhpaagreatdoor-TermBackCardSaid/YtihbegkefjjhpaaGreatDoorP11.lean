/- A part of the proofs: machine, contracts, laws. No condition of its own. -/
import Derived.Test.YtihbegkefjjhpaaGreatDoorP09
import Derived.Test.YtihbegkefjjhpaaGreatDoorP10
set_option linter.unusedSimpArgs false
set_option linter.unusedVariables false
set_option linter.unusedSectionVars false
open Go Go.Proofs Go.Proofs.Mv.V
set_option maxRecDepth 10000
namespace Go.Proofs.Mv.App
def bndD [GI] (b : Bnd) : List D := S b.1 :: S [] :: tmD b.2
def fldLO (l : List Tok) (rec : PS → Option (Tm × PS)) (f : Nat) (p : PS) : Option (List Bnd × PS) :=
 if p.bad = 0 then (if isT 4 [125] l p then some ([], stepF p) else fldsO l rec f [] p) else some ([], p)
theorem fieldsO_eq {l : List Tok} {rec : PS → Option (Tm × PS)} {f : Nat} {p q : PS} {t : Tm} (h : fieldsO l rec f p = some (t, q)) : ∃ Lf, fldLO l rec f p = some (Lf, q) ∧ t = makeB (sortB Lf) := by
 unfold fieldsO at h
 unfold fldLO
 split at h
 ·rename_i hb
  rw [if_pos hb]
  split at h
  ·rename_i hi
   rw [if_pos hi]
   simp only [Option.some.injEq, Prod.mk.injEq] at h
   exact ⟨[], by rw [h.2], by rw [← h.1]; rfl⟩
  ·rename_i hi
   rw [if_neg hi]
   obtain ⟨⟨Lf, q'⟩, h1, h2⟩ := Option.map_eq_some_iff.1 h
   simp only [Prod.mk.injEq] at h2
   exact ⟨Lf, by rw [h1, h2.2], h2.1.symm⟩
 ·rename_i hb
  rw [if_neg hb]
  simp only [Option.some.injEq, Prod.mk.injEq] at h
  exact ⟨[], by rw [h.2], by rw [← h.1]; rfl⟩
structure FdI (l : List Tok) (dp : Nat) (Z : V.Obj) (k : Nat) (m : Mem) (n : Nat) (L : List Bnd) (p : PS) (σ : Nat → D) (m2 : Mem) (n2 : Nat) : Prop where
 h0 : σ 0 = .ptr k 0 0 0
 h2 : σ 2 = .ptr n 0 0 0
 l3 : Lst m2 10 (L.map bndD) (σ 3)
 l4 : Lst m2 1 (L.map fun b => [S b.1]) (σ 4)
 k3 : ∀ j, kof (σ 3) = some j → n + 1 ≤ j ∧ j < n2
 k4 : ∀ j, kof (σ 4) = some j → n + 1 ≤ j ∧ j < n2
 kd : ∀ j, kof (σ 3) = some j → kof (σ 4) ≠ some j
 nn : n + 1 ≤ n2
 pk : m2 k = some (pTObj l dp p)
 fr : ∀ j, j < n + 1 → j ≠ k → m2 j = (m.set n Z) j
structure FdH (l : List Tok) (dp : Nat) (rec : PS → Option (Tm × PS)) (F : Nat) (Lf : List Bnd) (q : PS) (Z : V.Obj) (k : Nat) (m : Mem) (n : Nat) (b : Nat × List Bnd × PS) (σ : Nat → D) (m2 : Mem) (n2 : Nat) : Prop where
 ii : FdI l dp Z k m n b.2.1 b.2.2 σ m2 n2
 st : (b.2.1 = [] ∧ b.1 = F + 1 ∧ fldLO l rec F b.2.2 = some (Lf, q)) ∨ (b.2.1 ≠ [] ∧ b.2.2.bad = 0 ∧ fldsO l rec b.1 b.2.1 b.2.2 = some (Lf, q)) ∨ (b.2.2.bad ≠ 0 ∧ b.2.2 = q)
 ln : b.2.1.length + b.1 ≤ F + 1
structure FdB (l : List Tok) (dp : Nat) (rec : PS → Option (Tm × PS)) (F : Nat) (Lf : List Bnd) (q : PS) (Z : V.Obj) (k : Nat) (m : Mem) (n : Nat) (f : Nat) (L : List Bnd) (p : PS) (σ : Nat → D) (m2 : Mem) (n2 : Nat) : Prop where
 ii : FdI l dp Z k m n L p σ m2 n2
 bd : p.bad = 0
 run : ∃ g, g ≤ f ∧ L.length + g ≤ F + 1 ∧ fldsO l rec g L p = some (Lf, q)
structure FdE (l : List Tok) (dp : Nat) (Lf : List Bnd) (q : PS) (Z : V.Obj) (k : Nat) (m : Mem) (n : Nat) (F : Nat) (σ : Nat → D) (m2 : Mem) (n2 : Nat) : Prop where
 ex : ∃ L, FdI l dp Z k m n L q σ m2 n2 ∧ (q.bad = 0 → L = Lf) ∧ L.length ≤ F + 1
theorem upd_FdI {l : List Tok} {dp : Nat} {Z : V.Obj} {k : Nat} {m : Mem} {n : Nat} {L : List Bnd} {p : PS} {σ σ' : Nat → D} {m2 : Mem} {n2 : Nat} (h : FdI l dp Z k m n L p σ m2 n2) (e0 : σ' 0 = σ 0) (e2 : σ' 2 = σ 2) (e3 : σ' 3 = σ 3) (e4 : σ' 4 = σ 4) : FdI l dp Z k m n L p σ' m2 n2 := by
 obtain ⟨h0, h2, l3, l4, k3, k4, kd, nn, pk, fr⟩ := h
 exact ⟨by rw [e0]; exact h0, by rw [e2]; exact h2, by rw [e3]; exact l3, by rw [e4]; exact l4, by rw [e3]; exact k3, by rw [e4]; exact k4, by rw [e3, e4]; exact kd, nn, pk, fr⟩
theorem set_FdI {l : List Tok} {dp : Nat} {Z : V.Obj} {k : Nat} {m : Mem} {n : Nat} {L : List Bnd} {p p' : PS} {σ : Nat → D} {m2 : Mem} {n2 : Nat} (hk : k < n) (h : FdI l dp Z k m n L p σ m2 n2) : FdI l dp Z k m n L p' σ (m2.set k (pTObj l dp p')) n2 := by
 obtain ⟨h0, h2, l3, l4, k3, k4, kd, nn, pk, fr⟩ := h
 exact ⟨h0, h2, l3.frame fun j hj => set_ne _ _ _ _ (by have := k3 j hj; omega), l4.frame fun j hj => set_ne _ _ _ _ (by have := k4 j hj; omega), k3, k4, kd, nn, set_same _ _ _, fun j h1 h2 => by rw [set_ne _ _ _ _ h2]; exact fr j h1 h2⟩
def zT : V.Obj := ⟨8, [[.v (.int .i64 0), .v (.int .i64 0), .v (.string (ofL [])), .v (.string (ofL [])), .v (.slice none 0 0), .v (.slice none 0 0), .v (.slice none 0 0), .v (.slice none 0 0)]], 0⟩
def toBn (x : Brn) : Bnd := (x.1, x.2.2)
structure Fd2 (l : List Tok) (dp : Nat) (q : PS) (qs : List Brn) (Z : V.Obj) (k : Nat) (m : Mem) (n : Nat) (K : Nat) (d3 : D) (i c : Nat) (dN dS : D) (σ : Nat → D) (m2 : Mem) (n2 : Nat) : Prop where
 h2 : σ 2 = .ptr n 0 0 0
 h6 : σ 6 = .ptr K 0 0 0
 h49 : σ 49 = d3
 h50 : σ 50 = I qs.length
 h51 : σ 51 = I c
 le : i ≤ qs.length
 l3 : Lst m2 10 (qs.map brnD) d3
 k3 : ∀ j, kof d3 = some j → n + 1 ≤ j ∧ j < K
 kK : n + 1 ≤ K ∧ K < n2
 oK : m2 K = some ⟨8, [[I 5, I 0, S [], S [], dN, .v (.slice none 0 0), .v (.slice none 0 0), dS]], 0⟩
 lN : Lst m2 1 ((qs.take i).map fun b => [S b.1]) dN
 lS : Lst m2 8 ((qs.take i).map fun b => tmD b.2.2) dS
 kN : ∀ j, kof dN = some j → K < j ∧ j < n2
 kS : ∀ j, kof dS = some j → K < j ∧ j < n2
 kd : ∀ j, kof dN = some j → kof dS ≠ some j
 pk : m2 k = some (pTObj l dp q)
 fr : ∀ j, j < n + 1 → j ≠ k → m2 j = (m.set n Z) j
set_option maxHeartbeats 8000000 in
theorem cTFields {l : List Tok} (hl : TkOk l) {dp : Nat} {rec : PS → Option (Tm × PS)} (hrec : RecC l dp rec) (hbad : ∀ p t q, rec p = some (t, q) → q.bad = 0 → p.bad = 0) {F : Nat} (hF : F ≤ 100000) {p0 : PS} {t : Tm} {q : PS} (hrun : fieldsO l rec F p0 = some (t, q)) {k : Nat} {m : Mem} {n : Nat} (hk : k < n) (hm : m k = some (pTObj l dp p0)) :
  ACalls Tryz.prog 150 [.ptr k 0 0 0] m n (fun d m' n' => (∃ t', d = .agg (tmD t') ∧ (q.bad = 0 → t' = t)) ∧ m' = m.set k (pTObj l dp q) ∧ n' = n) := by
 obtain ⟨Lf, hrl, rfl⟩ := fieldsO_eq hrun
 refine acalls_put (X := fun d => ∃ t', d = .agg (tmD t') ∧ (q.bad = 0 → t' = makeB (sortB Lf))) (R' := Hq (fun d m' n' => (∃ t' : Tm, PubAs n m' d (.agg (tmD t')) ∧ (q.bad = 0 → t' = makeB (sortB Lf))) ∧ m' k = some (pTObj l dp q) ∧ ∀ j, j < n → j ≠ k → m' j = m j) tg) k hk _ ?_ ?_
 rotate_left
 ·rintro d m' n' ⟨⟨t', h1, h3⟩, h4, h5⟩
  exact ⟨.agg (tmD t'), _, h1, h4, .pur (pur_pT _ _ _), h5, t', rfl, h3⟩
 have kn : k ≠ n := by omega
 have h8 := tmD_len
 refine acalls_vcC [0, 2, 3, 4, 5, 6, 8, 23, 43, 49, 50, 51, 52] Tryz.func150 Tryz.ntmps150 (by kernel_rfl) rfl rfl (by simp) ?_
 rw [vc_seq]
 simp -dsimp [-vc_seq]
 rw [vc_seq]
 simp -dsimp [-vc_seq]
 rw [vc_seq]
 simp -dsimp [-vc_seq]
 rw [vc_seq]
 refine vc_mid (FdE l dp Lf q zT k m n F) ?_ ?_
 ·simp -dsimp
  refine vloop_of (β := Nat × List Bnd × PS) (FdH l dp rec F Lf q zT k m n) (fun b => if b.2.2.bad = 0 then b.1 + 1 else 0) (F + 1, [], p0) ⟨⟨by simp, by simp, by first | exact Lst.nil | simp, by first | exact Lst.nil | simp, by simp, by simp, by simp, by omega, by rw [set_ne _ _ _ _ kn]; exact hm, fun j hj hjk => rfl⟩, .inl ⟨rfl, rfl, hrl⟩, by simp⟩ ?_
  rintro ⟨f, L, p⟩ σ m2 n2 ⟨ii, st, ln⟩
  simp only at ii st ln
  rw [vc_seq]
  refine vc_mid (FdB l dp rec F Lf q zT k m n f L p) ?_ ?_
  ·have ii' := ii
   obtain ⟨h0, h2, l3, l4, k3, k4, kd, nn, pk, fr⟩ := ii
   have hll := lenD_lst l3
   rw [List.length_map] at hll
   by_cases hb : p.bad = 0
   case neg =>
    have hq' : q = p := by
     rcases st with ⟨rfl, _, h⟩ | ⟨_, h, _⟩ | ⟨_, h⟩
     ·simp only [fldLO, if_neg hb, Option.some.injEq, Prod.mk.injEq] at h; exact h.2.symm
     ·exact absurd h hb
     ·exact h.symm
    subst hq'
    have hmx : m2 k = some ⟨4, [[toksD l, I q.at_, I dp, spotE q.cnt q.bad]], 0⟩ := by rw [pk]; simp [pTObj, pTC, errS, hb]
    simp -dsimp [h0, h2, hmx, spotE]
    exact ⟨L, upd_FdI ii' (by simp [h0]) (by simp [h2]) (by simp) (by simp), fun e => absurd e hb, by omega⟩
   have hmx : m2 k = some ⟨4, [[toksD l, I p.at_, I dp, nilE]], 0⟩ := by rw [pk]; simp [pTObj, pTC, errS, hb]
   by_cases hL : L = []
   ·subst hL
    rcases st with ⟨_, rfl, hr⟩ | ⟨h, _⟩ | ⟨h, _⟩
    rotate_left
    ·exact absurd rfl h
    ·exact absurd hb h
    simp only [List.length_nil] at hll
    simp only [fldLO, if_pos hb] at hr
    simp -dsimp [h0, h2, hmx, nilE, hll, Tt]
    refine aCall_of (cTPass hl (dp := dp) (p := p) (kd := 4) (by omega) [125] (by omega) pk) ?_
    rintro d m3 n3 ⟨rfl, rfl, rfl⟩
    cases hi : isT 4 [125] l p with
    | true =>
     rw [hi] at hr
     simp only [if_true, Option.some.injEq, Prod.mk.injEq] at hr
     obtain ⟨rfl, rfl⟩ := hr
     simp -dsimp [Tt, hi]
     exact ⟨[], upd_FdI (set_FdI hk ii') (by simp [h0]) (by simp [h2]) (by simp) (by simp), fun _ => rfl, by simp⟩
    | false =>
     rw [hi] at hr
     simp only [Bool.false_eq_true, if_false] at hr
     simp -dsimp [Tt, hi]
     exact ⟨upd_FdI (set_FdI hk ii') (by simp [h0]) (by simp [h2]) (by simp) (by simp), hb, F, by omega, by simp, hr⟩
   ·rcases st with ⟨h, _⟩ | ⟨_, _, hr⟩ | ⟨h, _⟩
    ·exact absurd h hL
    rotate_left
    ·exact absurd hb h
    have hpos : 0 < L.length := List.length_pos_iff.2 hL
    have hpos' : (0 : Int) < L.length := by omega
    simp -dsimp [h0, h2, hmx, nilE, hll, Tt, hpos, hpos']
    exact ⟨upd_FdI ii' (by simp [h0]) (by simp [h2]) (by simp) (by simp), hb, f, by omega, by omega, hr⟩
  rintro σ m2 n2 ⟨ii, hb, g, g1, g2, hr⟩
  cases g with
  | zero => simp only [fldsO] at hr; cases hr
  | succ g =>
  simp only [fldsO] at hr
  obtain ⟨h0, h2, l3, l4, k3, k4, kd, nn, pk, fr⟩ := ii
  generalize hd3 : σ 3 = d3 at l3 k3 kd
  generalize hd4 : σ 4 = d4 at l4 k4 kd
  have l4' : Lst m2 1 ((L.map (·.1)).map fun s => [S s]) d4 := by rw [List.map_map]; exact l4
  have k4k : ∀ j, kof d4 = some j → j ≠ k := fun j hj e => by have := k4 j hj; omega
  have k3k : ∀ j, kof d3 = some j → j ≠ k := fun j hj e => by have := k3 j hj; omega
  have hfr := fun M N (h : Lst M 1 ((L.map (·.1)).map fun s => [S s]) d4) (hN : ∀ j, kof d4 = some j → j < N) (hkN : k < N) (hM : M k = some (pTObj l dp p)) => cTFreshO (n := N) hl (dp := dp) (p := p) (kd := 1) (by omega) fineTn h (by simp; omega) hN hkN hM
  generalize freshT 1 nameN (L.map (·.1)) l p = fn at hr hfr
  obtain ⟨nm, p1⟩ := fn
  simp only at hr hfr
  cases hrp : rec (mustT 4 [61] l p1) with
  | none => rw [hrp] at hr; cases hr
  | some r =>
  obtain ⟨t, p2⟩ := r
  rw [hrp] at hr
  simp only at hr
  simp only [I] at hfr
  simp -dsimp [h0, h2, hd3, hd4, -vc_seq]
  rw [vc_seq]
  simp -dsimp [h0, h2, hd3, hd4, -vc_seq]
  refine aCall_of (hfr _ _ l4' (fun j hj => (k4 j hj).2) (by omega) pk) ?_
  rintro d m3 n3 ⟨rfl, rfl, rfl⟩
  simp -dsimp [h0, h2, hd3, hd4, S, -vc_seq]
  rw [vc_seq]
  simp -dsimp [h0, h2, hd3, hd4, S, -vc_seq]
  refine aCall_of (cTMust hl (dp := dp) (p := p1) (kd := 4) (by omega) [61] (by omega) (by simp [set_ne, show k ≠ n3 by omega])) ?_
  rintro d m4 n4 ⟨rfl, rfl, rfl⟩
  simp -dsimp [h0, h2, hd3, hd4, S, -vc_seq]
  rw [vc_seq]
  simp -dsimp [h0, h2, hd3, hd4, S, -vc_seq]
  refine aCall_of (hrec _ t p2 hrp k _ _ (by omega) (by simp)) ?_
  rintro d m5 n5 ⟨⟨t', rfl, ht⟩, rfl, rfl⟩
  simp -dsimp [h0, h2, hd3, hd4, S, h8, set_ne, show n3 ≠ k by omega, show k ≠ n3 by omega, -vc_seq]
  rw [vc_seq]
  refine vc_mid (FdI l dp zT k m n (L ++ [(nm, t')]) p2) ?_ ?_
  ·simp -dsimp [h0, h2, hd3, hd4, S, h8, set_ne, show n3 ≠ k by omega, show k ≠ n3 by omega]
   refine vdraw_tree [0, 0, 2, 7, 0, 0, 32, 96, 255, 511, 1023] (.rd 0 (.rd 1 (.rd 4 (.rd 5 (.rd 6 (.wr (.cons 2 (.wr (.cons 3 (.wr (.cons 7 (.wr (.cons 8 (.rd 9 (.rd 10 (.fin))) (.nil))) (.nil))) (.cons 7 (.wr (.cons 3 (.wr (.cons 8 (.rd 9 (.rd 10 (.fin))) (.nil))) (.nil))) (.nil)))) (.cons 7 (.wr (.cons 2 (.wr (.cons 3 (.wr (.cons 8 (.rd 9 (.rd 10 (.fin))) (.nil))) (.nil))) (.nil))) (.nil))))))))) (by kernel_rfl) (by kernel_rfl) ?_
   simp -dsimp [h0, h2, hd3, hd4, S, h8, set_ne, show n3 ≠ k by omega, show k ≠ n3 by omega]
   refine ⟨⟨?_, ?_⟩, ?_⟩
   ·(refine b4_append (l3.frame fun j hj => by have := k3 j hj; have := k3k j hj; simp [set_ne, show j ≠ k by omega, show j ≠ n3 by omega, show j ≠ n3 + 1 by omega, show j ≠ n3 + 1 + 1 by omega]) (fun j hj => by have := k3 j hj; omega) trivial trivial (by omega) (by simp; omega) ?_
     intro da ma na a1 a2 a3 a4
     refine ⟨fun p hp _ => ?_, ?_⟩
     ·simp only [List.mem_cons, List.not_mem_nil, or_false] at hp
      rcases hp with rfl | rfl
      ·exact a4 n3 (by omega) (fun e => by have := k3 _ e; omega)
      ·exact a4 n3 (by omega) (fun e => by have := k3 _ e; omega)
     simp -dsimp [h0, h2, hd3, hd4, S, h8, set_ne]
     refine ⟨set_ne _ _ _ _ (by omega), ?_⟩
     refine b4_append (l4.frame fun j hj => ?_) (fun j hj => by have := k4 j hj; omega) trivial trivial (by omega) (by simp; omega) ?_
     ·have := k4 j hj
      have := k4k j hj
      have h1 : kof d3 ≠ some j := fun e => kd j e hj
      first
      | (rw [set_ne _ _ _ _ (by omega), a4 j (by omega) h1]; simp [set_ne, show j ≠ k by omega, show j ≠ n3 by omega, show j ≠ n3 + 1 by omega, show j ≠ n3 + 1 + 1 by omega]; done)
      | (rw [a4 j (by omega) h1]; simp [set_ne, show j ≠ k by omega, show j ≠ n3 by omega, show j ≠ n3 + 1 by omega, show j ≠ n3 + 1 + 1 by omega]; done)
     intro db mb nb b1 b2 b3 b4
     refine ⟨fun p hp _ => ?_, ?_⟩
     ·simp only [List.mem_cons, List.not_mem_nil, or_false] at hp
      rcases hp with rfl | rfl
      ·exact b4 n3 (by omega) (fun e => by have := k4 _ e; omega)
      ·exact b4 n3 (by omega) (fun e => by have := k4 _ e; omega)
     simp -dsimp [h0, h2, hd3, hd4, S, h8]
     have ka : ∀ j, kof da = some j → n + 1 ≤ j ∧ j < na ∧ j ≠ k ∧ kof d4 ≠ some j := fun j hj => by
      have := a3 j hj
      rcases this.2 with e | e
      ·have h1 := k3 j e
       exact ⟨h1.1, this.1, k3k j e, kd j e⟩
      ·exact ⟨by omega, this.1, by omega, fun e2 => by have := k4 j e2; omega⟩
     have kb : ∀ j, kof db = some j → n + 1 ≤ j ∧ j < nb ∧ (kof d4 = some j ∨ na ≤ j) := fun j hj => by
      have := b3 j hj
      rcases this.2 with e | e
      ·have h1 := k4 j e
       exact ⟨h1.1, this.1, .inl e⟩
      ·exact ⟨by omega, this.1, .inr (by omega)⟩
     have old : ∀ j, j < n3 → j ≠ k → kof d3 ≠ some j → kof d4 ≠ some j → mb j = m2 j := fun j h1 h2 h3 h4 => by
      rw [b4 j (by omega) h4]
      first
      | (rw [set_ne _ _ _ _ (by omega), a4 j (by omega) h3]; simp [set_ne, show j ≠ k by omega, show j ≠ n3 by omega, show j ≠ n3 + 1 by omega, show j ≠ n3 + 1 + 1 by omega]; done)
      | (rw [a4 j (by omega) h3]; simp [set_ne, show j ≠ k by omega, show j ≠ n3 by omega, show j ≠ n3 + 1 by omega, show j ≠ n3 + 1 + 1 by omega]; done)
     refine ⟨by simp [h0], by simp [h2], ?_, ?_, fun j hj => ?_, fun j hj => ?_, fun j hj hj2 => ?_, by omega, ?_, fun j h1 h2 => ?_⟩
     ·have := a1.frame (m' := mb) fun j hj => by
       have h1 := ka j hj
       first | (rw [b4 j (by omega) h1.2.2.2]; done) | (rw [b4 j (by omega) h1.2.2.2, set_ne _ _ _ _ (by omega)]; done)
      simpa [bndD, S] using this
     ·simpa [S] using b1
     ·have := ka j (by simpa using hj); omega
     ·have := kb j (by simpa using hj); omega
     ·have h1 := ka j (by simpa using hj)
      have h2 := kb j (by simpa using hj2)
      rcases h2.2.2 with e | e
      ·exact h1.2.2.2 e
      ·omega
     ·rw [b4 k (by omega) (fun e => k4k k e rfl)]
      first
      | (rw [set_ne _ _ _ _ (by omega), a4 k (by omega) (fun e => k3k k e rfl)]; simp [set_ne, show k ≠ n3 by omega, show k ≠ n3 + 1 by omega, show k ≠ n3 + 1 + 1 by omega]; done)
      | (rw [a4 k (by omega) (fun e => k3k k e rfl)]; simp [set_ne, show k ≠ n3 by omega, show k ≠ n3 + 1 by omega, show k ≠ n3 + 1 + 1 by omega]; done)
     ·rw [old j (by omega) h2 (fun e => by have := k3 j e; omega) (fun e => by have := k4 j e; omega)]; exact fr j h1 h2)
   ·(refine ⟨by simp [set_ne, show n3 ≠ n3 + 1 by omega, show n3 ≠ n3 + 1 + 1 by omega], ?_⟩
     refine b4_append (l3.frame fun j hj => by have := k3 j hj; have := k3k j hj; simp [set_ne, show j ≠ k by omega, show j ≠ n3 by omega, show j ≠ n3 + 1 by omega, show j ≠ n3 + 1 + 1 by omega]) (fun j hj => by have := k3 j hj; omega) trivial trivial (by omega) (by simp; omega) ?_
     intro da ma na a1 a2 a3 a4
     refine ⟨fun p hp _ => ?_, ?_⟩
     ·simp only [List.mem_cons, List.not_mem_nil, or_false] at hp
      rcases hp with rfl | rfl
      ·exact a4 n3 (by omega) (fun e => by have := k3 _ e; omega)
      ·exact a4 n3 (by omega) (fun e => by have := k3 _ e; omega)
     have hbx := a4 (n3 + 1 + 1) (by omega) (fun e => by have := k3 _ e; omega)
     simp [set_ne, show n3 + 1 ≠ n3 + 1 + 1 by omega, show n3 + 1 + 1 ≠ n3 + 1 by omega] at hbx
     simp -dsimp [h0, h2, hd3, hd4, S, h8, set_ne, hbx]
     refine b4_append (l4.frame fun j hj => ?_) (fun j hj => by have := k4 j hj; omega) trivial trivial (by omega) (by simp; omega) ?_
     ·have := k4 j hj
      have := k4k j hj
      have h1 : kof d3 ≠ some j := fun e => kd j e hj
      first
      | (rw [set_ne _ _ _ _ (by omega), a4 j (by omega) h1]; simp [set_ne, show j ≠ k by omega, show j ≠ n3 by omega, show j ≠ n3 + 1 by omega, show j ≠ n3 + 1 + 1 by omega]; done)
      | (rw [a4 j (by omega) h1]; simp [set_ne, show j ≠ k by omega, show j ≠ n3 by omega, show j ≠ n3 + 1 by omega, show j ≠ n3 + 1 + 1 by omega]; done)
     intro db mb nb b1 b2 b3 b4
     refine ⟨fun p hp _ => ?_, ?_⟩
     ·simp only [List.mem_cons, List.not_mem_nil, or_false] at hp
      rcases hp with rfl | rfl
      ·exact b4 n3 (by omega) (fun e => by have := k4 _ e; omega)
      ·exact b4 n3 (by omega) (fun e => by have := k4 _ e; omega)
     simp -dsimp [h0, h2, hd3, hd4, S, h8]
     have ka : ∀ j, kof da = some j → n + 1 ≤ j ∧ j < na ∧ j ≠ k ∧ kof d4 ≠ some j := fun j hj => by
      have := a3 j hj
      rcases this.2 with e | e
      ·have h1 := k3 j e
       exact ⟨h1.1, this.1, k3k j e, kd j e⟩
      ·exact ⟨by omega, this.1, by omega, fun e2 => by have := k4 j e2; omega⟩
     have kb : ∀ j, kof db = some j → n + 1 ≤ j ∧ j < nb ∧ (kof d4 = some j ∨ na ≤ j) := fun j hj => by
      have := b3 j hj
      rcases this.2 with e | e
      ·have h1 := k4 j e
       exact ⟨h1.1, this.1, .inl e⟩
      ·exact ⟨by omega, this.1, .inr (by omega)⟩
     have old : ∀ j, j < n3 → j ≠ k → kof d3 ≠ some j → kof d4 ≠ some j → mb j = m2 j := fun j h1 h2 h3 h4 => by
      rw [b4 j (by omega) h4]
      first
      | (rw [set_ne _ _ _ _ (by omega), a4 j (by omega) h3]; simp [set_ne, show j ≠ k by omega, show j ≠ n3 by omega, show j ≠ n3 + 1 by omega, show j ≠ n3 + 1 + 1 by omega]; done)
      | (rw [a4 j (by omega) h3]; simp [set_ne, show j ≠ k by omega, show j ≠ n3 by omega, show j ≠ n3 + 1 by omega, show j ≠ n3 + 1 + 1 by omega]; done)
     refine ⟨by simp [h0], by simp [h2], ?_, ?_, fun j hj => ?_, fun j hj => ?_, fun j hj hj2 => ?_, by omega, ?_, fun j h1 h2 => ?_⟩
     ·have := a1.frame (m' := mb) fun j hj => by
       have h1 := ka j hj
       first | (rw [b4 j (by omega) h1.2.2.2]; done) | (rw [b4 j (by omega) h1.2.2.2, set_ne _ _ _ _ (by omega)]; done)
      simpa [bndD, S] using this
     ·simpa [S] using b1
     ·have := ka j (by simpa using hj); omega
     ·have := kb j (by simpa using hj); omega
     ·have h1 := ka j (by simpa using hj)
      have h2 := kb j (by simpa using hj2)
      rcases h2.2.2 with e | e
      ·exact h1.2.2.2 e
      ·omega
     ·rw [b4 k (by omega) (fun e => k4k k e rfl)]
      first
      | (rw [set_ne _ _ _ _ (by omega), a4 k (by omega) (fun e => k3k k e rfl)]; simp [set_ne, show k ≠ n3 by omega, show k ≠ n3 + 1 by omega, show k ≠ n3 + 1 + 1 by omega]; done)
      | (rw [a4 k (by omega) (fun e => k3k k e rfl)]; simp [set_ne, show k ≠ n3 by omega, show k ≠ n3 + 1 by omega, show k ≠ n3 + 1 + 1 by omega]; done)
     ·rw [old j (by omega) h2 (fun e => by have := k3 j e; omega) (fun e => by have := k4 j e; omega)]; exact fr j h1 h2)
   ·(refine ⟨by simp [set_ne, show n3 ≠ n3 + 1 by omega, show n3 ≠ n3 + 1 + 1 by omega], ?_⟩
     refine b4_append (l3.frame fun j hj => by have := k3 j hj; have := k3k j hj; simp [set_ne, show j ≠ k by omega, show j ≠ n3 by omega, show j ≠ n3 + 1 by omega, show j ≠ n3 + 1 + 1 by omega]) (fun j hj => by have := k3 j hj; omega) trivial trivial (by omega) (by simp; omega) ?_
     intro da ma na a1 a2 a3 a4
     refine ⟨fun p hp _ => ?_, ?_⟩
     ·simp only [List.mem_cons, List.not_mem_nil, or_false] at hp
      rcases hp with rfl | rfl
      ·exact a4 n3 (by omega) (fun e => by have := k3 _ e; omega)
      ·exact a4 n3 (by omega) (fun e => by have := k3 _ e; omega)
     have hbx := a4 (n3 + 1) (by omega) (fun e => by have := k3 _ e; omega)
     simp [set_ne, show n3 + 1 ≠ n3 + 1 + 1 by omega, show n3 + 1 + 1 ≠ n3 + 1 by omega] at hbx
     simp -dsimp [h0, h2, hd3, hd4, S, h8, set_ne, hbx]
     refine b4_append (l4.frame fun j hj => ?_) (fun j hj => by have := k4 j hj; omega) trivial trivial (by omega) (by simp; omega) ?_
     ·have := k4 j hj
      have := k4k j hj
      have h1 : kof d3 ≠ some j := fun e => kd j e hj
      first
      | (rw [set_ne _ _ _ _ (by omega), a4 j (by omega) h1]; simp [set_ne, show j ≠ k by omega, show j ≠ n3 by omega, show j ≠ n3 + 1 by omega, show j ≠ n3 + 1 + 1 by omega]; done)
      | (rw [a4 j (by omega) h1]; simp [set_ne, show j ≠ k by omega, show j ≠ n3 by omega, show j ≠ n3 + 1 by omega, show j ≠ n3 + 1 + 1 by omega]; done)
     intro db mb nb b1 b2 b3 b4
     refine ⟨fun p hp _ => ?_, ?_⟩
     ·simp only [List.mem_cons, List.not_mem_nil, or_false] at hp
      rcases hp with rfl | rfl
      ·exact b4 n3 (by omega) (fun e => by have := k4 _ e; omega)
      ·exact b4 n3 (by omega) (fun e => by have := k4 _ e; omega)
     simp -dsimp [h0, h2, hd3, hd4, S, h8]
     have ka : ∀ j, kof da = some j → n + 1 ≤ j ∧ j < na ∧ j ≠ k ∧ kof d4 ≠ some j := fun j hj => by
      have := a3 j hj
      rcases this.2 with e | e
      ·have h1 := k3 j e
       exact ⟨h1.1, this.1, k3k j e, kd j e⟩
      ·exact ⟨by omega, this.1, by omega, fun e2 => by have := k4 j e2; omega⟩
     have kb : ∀ j, kof db = some j → n + 1 ≤ j ∧ j < nb ∧ (kof d4 = some j ∨ na ≤ j) := fun j hj => by
      have := b3 j hj
      rcases this.2 with e | e
      ·have h1 := k4 j e
       exact ⟨h1.1, this.1, .inl e⟩
      ·exact ⟨by omega, this.1, .inr (by omega)⟩
     have old : ∀ j, j < n3 → j ≠ k → kof d3 ≠ some j → kof d4 ≠ some j → mb j = m2 j := fun j h1 h2 h3 h4 => by
      rw [b4 j (by omega) h4]
      first
      | (rw [set_ne _ _ _ _ (by omega), a4 j (by omega) h3]; simp [set_ne, show j ≠ k by omega, show j ≠ n3 by omega, show j ≠ n3 + 1 by omega, show j ≠ n3 + 1 + 1 by omega]; done)
      | (rw [a4 j (by omega) h3]; simp [set_ne, show j ≠ k by omega, show j ≠ n3 by omega, show j ≠ n3 + 1 by omega, show j ≠ n3 + 1 + 1 by omega]; done)
     refine ⟨by simp [h0], by simp [h2], ?_, ?_, fun j hj => ?_, fun j hj => ?_, fun j hj hj2 => ?_, by omega, ?_, fun j h1 h2 => ?_⟩
     ·have := a1.frame (m' := mb) fun j hj => by
       have h1 := ka j hj
       first | (rw [b4 j (by omega) h1.2.2.2]; done) | (rw [b4 j (by omega) h1.2.2.2, set_ne _ _ _ _ (by omega)]; done)
      simpa [bndD, S] using this
     ·simpa [S] using b1
     ·have := ka j (by simpa using hj); omega
     ·have := kb j (by simpa using hj); omega
     ·have h1 := ka j (by simpa using hj)
      have h2 := kb j (by simpa using hj2)
      rcases h2.2.2 with e | e
      ·exact h1.2.2.2 e
      ·omega
     ·rw [b4 k (by omega) (fun e => k4k k e rfl)]
      first
      | (rw [set_ne _ _ _ _ (by omega), a4 k (by omega) (fun e => k3k k e rfl)]; simp [set_ne, show k ≠ n3 by omega, show k ≠ n3 + 1 by omega, show k ≠ n3 + 1 + 1 by omega]; done)
      | (rw [a4 k (by omega) (fun e => k3k k e rfl)]; simp [set_ne, show k ≠ n3 by omega, show k ≠ n3 + 1 by omega, show k ≠ n3 + 1 + 1 by omega]; done)
     ·rw [old j (by omega) h2 (fun e => by have := k3 j e; omega) (fun e => by have := k4 j e; omega)]; exact fr j h1 h2)
  rintro σ m2 n2 ii
  have ii' := ii
  obtain ⟨h0, h2, l3, l4, k3, k4, kd, nn, pk, fr⟩ := ii
  simp -dsimp [h0, h2]
  refine aCall_of (cTPass hl (dp := dp) (p := p2) (kd := 4) (by omega) [125] (by omega) pk) ?_
  rintro d m3 n3 ⟨rfl, rfl, rfl⟩
  cases hi : isT 4 [125] l p2 with
  | true =>
   rw [hi] at hr
   simp only [if_true, Option.some.injEq, Prod.mk.injEq] at hr
   obtain ⟨rfl, rfl⟩ := hr
   have hb1 := (isT_ok hl (by omega) hi).1
   simp -dsimp [Tt, hi]
   exact ⟨L ++ [(nm, t')], upd_FdI (set_FdI hk ii') (by simp [h0]) (by simp [h2]) (by simp) (by simp), fun _ => by rw [ht hb1], by simp; omega⟩
  | false =>
   rw [hi] at hr
   simp only [Bool.false_eq_true, if_false] at hr
   simp -dsimp [Tt, hi, h0, h2]
   refine aCall_of (cTMust hl (dp := dp) (p := p2) (kd := 4) (by omega) [44] (by omega) (by simp)) ?_
   rintro d3 m8 n8 ⟨rfl, rfl, rfl⟩
   simp -dsimp [h0, h2]
   have stn : (L ++ [(nm, t')] = [] ∧ g = F + 1 ∧ fldLO l rec F (mustT 4 [44] l p2) = some (Lf, q)) ∨ (L ++ [(nm, t')] ≠ [] ∧ (mustT 4 [44] l p2).bad = 0 ∧ fldsO l rec g (L ++ [(nm, t')]) (mustT 4 [44] l p2) = some (Lf, q)) ∨ ((mustT 4 [44] l p2).bad ≠ 0 ∧ mustT 4 [44] l p2 = q) := by
    by_cases hm : (mustT 4 [44] l p2).bad = 0
    ·have hb1 : p2.bad = 0 := by
      unfold mustT at hm
      split at hm
      ·rename_i h; exact (isT_ok hl (by omega) h).1
      ·by_cases e : p2.bad = 0
       ·exact e
       ·rw [failS_bad e] at hm; exact absurd hm e
     rw [if_pos hm] at hr
     rw [ht hb1]
     exact .inr (.inl ⟨by simp, hm, hr⟩)
    ·rw [if_neg hm] at hr
     simp only [Option.some.injEq, Prod.mk.injEq] at hr
     exact .inr (.inr ⟨hm, hr.2⟩)
   have iin := set_FdI (p' := mustT 4 [44] l p2) hk (set_FdI (p' := p2) hk ii')
   rw [set_set] at iin
   refine ⟨g, L ++ [(nm, t')], mustT 4 [44] l p2, ?_, ⟨upd_FdI iin (by simp [h0]) (by simp [h2]) (by simp) (by simp), stn, by simp; omega⟩⟩
   simp only [if_pos hb]
   split <;> omega
 rintro σ m2 n2 ⟨L, ii, hLf, hLn⟩
 obtain ⟨h0, h2, l3, l4, k3, k4, kd, nn, pk, fr⟩ := ii
 generalize hd3 : σ 3 = d3 at l3 k3 kd
 have l3' : Lst m2 10 ((L.map fun b => (b.1, ([] : List UInt8), b.2)).map brnD) d3 := by rw [List.map_map]; exact l3
 rw [vc_seq]
 simp -dsimp [h0, h2, hd3, -vc_seq]
 refine aCall_of (cSortB l3' (by simp; omega) (fun j hj => (k3 j hj).2)) ?_
 rintro d m3 n3 ⟨qs, s1, s2, s3, s4, rfl⟩
 have hql : qs.length = L.length := by rw [s1.length_eq]; simp
 have hres : q.bad = 0 → makeB (qs.map toBn) = makeB (sortB Lf) := fun hq0 => by
  have hLe := hLf hq0
  subst hLe
  have p1 : (qs.map toBn).Perm L := by
   have := s1.map toBn
   rw [List.map_map] at this
   simpa [toBn, Function.comp_def] using this
  have p2 : SortedBn (qs.map toBn) := by
   unfold SortedBn; rw [List.pairwise_map]; exact s2
  obtain ⟨p3, p4⟩ := sortB_spec L
  have nd : (L.map (·.1)).Nodup := by
   unfold fldLO at hrl
   split at hrl
   ·split at hrl
    ·simp only [Option.some.injEq, Prod.mk.injEq] at hrl
     rw [← hrl.1]; simp
    ·exact flds_nodup hbad F [] p0 L q hrl hq0 (by simp)
   ·simp only [Option.some.injEq, Prod.mk.injEq] at hrl
    rw [← hrl.1]; simp
  rw [sortedB_uniq nd p1 p3 p2 p4]
 have pk3 : m3 k = some (pTObj l dp q) := by rw [s4 k (fun e => by have := k3 k e; omega)]; exact pk
 have fr3 : ∀ j, j < n + 1 → j ≠ k → m3 j = (m.set n zT) j := fun j h1 h2 => by rw [s4 j (fun e => by have := k3 j e; omega)]; exact fr j h1 h2
 have hll := lenD_lst s3
 rw [List.length_map] at hll
 simp -dsimp [h0, h2, hd3, hll]
 refine vloop_of (β := Nat) (fun i σ m2 n2 => ∃ dN dS, Fd2 l dp q qs zT k m n n3 d3 i i dN dS σ m2 n2) (fun i => qs.length - i) 0 ⟨.v (.slice none 0 0), .v (.slice none 0 0), by simp [h2], by simp, by simp, by simp [I], by simp [I], by omega, s3.frame fun j hj => set_ne _ _ _ _ (by have := k3 j hj; omega), k3, ⟨by omega, by omega⟩, by simp [I, S], by first | exact Lst.nil | simp, by first | exact Lst.nil | simp, by simp, by simp, by simp, by rw [set_ne _ _ _ _ (by omega)]; exact pk3, fun j h1 h2 => by rw [set_ne _ _ _ _ (by omega)]; exact fr3 j h1 h2⟩ ?_
 rintro i σ m2 n2 ⟨dN, dS, H⟩
 have H' := H
 obtain ⟨h2, h6, h49, h50, h51, le, l3, k3, kK, oK, lN, lS, kN, kS, kdN, pk, fr⟩ := H
 by_cases hi : (i : Int) < qs.length
 ·have hi' : i < qs.length := by omega
  have wi : IntKind.i64.wrap ((i : Int) + 1) = (i : Int) + 1 := wrap_i64 (by omega) (by omega)
  have hmn : m2 n = some zT := by rw [fr n (by omega) (by omega), set_same]
  rcases l3 with ⟨he, _⟩ | ⟨kk, gg, es', rfl, hmk, hle, htk⟩
  ·have : qs = [] := by simpa using he
   subst this; simp at hi'
  have hkk := k3 kk rfl
  have hgi : es'[i]? = some (brnD qs[i]) := by
   have h1 : (es'.take (qs.map brnD).length)[i]? = some (brnD qs[i]) := by rw [htk]; simp [hi']
   rw [List.getElem?_take] at h1
   split at h1
   ·exact h1
   ·cases h1
  have hle' : i < es'.length := by simp at hle; omega
  have hgi' : es'[i] = brnD qs[i] := get_opt hgi hle'
  have hb8 := tmD_len qs[i].2.2
  simp only [brnD] at hgi'
  rw [vc_seq]
  simp -dsimp [h2, h6, h49, h50, h51, I, S, hi, -vc_seq]
  rw [vc_seq]
  simp -dsimp [h2, h6, h49, h50, h51, I, S, hi, -vc_seq]
  rw [vc_seq]
  refine vc_mid (fun σ m2 n2 => ∃ dN dS, Fd2 l dp q qs zT k m n n3 (.own kk gg 0 (qs.map brnD).length 10) (i + 1) i dN dS σ m2 n2) ?_ ?_
  ·simp -dsimp [h2, h6, h49, h50, h51, I, S, hi', hmk, hle', hgi', hb8, oK, set_ne, show n2 ≠ n3 by omega, show n3 ≠ n2 by omega]
   refine vdraw_tree [0, 1, 0, 4, 12, 31, 0, 64, 0, 256, 768, 2047, 255, 8191, 16383, 32767] (.rd 0 (.rd 1 (.rd 2 (.rd 3 (.rd 6 (.rd 7 (.rd 8 (.rd 9 (.wr (.cons 4 (.wr (.cons 5 (.rd 12 (.wr (.cons 10 (.wr (.cons 11 (.wr (.cons 13 (.rd 14 (.wr (.cons 15 (.fin) (.nil)))) (.nil))) (.nil))) (.nil)))) (.cons 10 (.wr (.cons 5 (.rd 12 (.wr (.cons 11 (.wr (.cons 13 (.rd 14 (.wr (.cons 15 (.fin) (.nil)))) (.nil))) (.nil)))) (.nil))) (.nil)))) (.cons 10 (.wr (.cons 4 (.wr (.cons 5 (.rd 12 (.wr (.cons 11 (.wr (.cons 13 (.rd 14 (.wr (.cons 15 (.fin) (.nil)))) (.nil))) (.nil)))) (.nil))) (.nil))) (.nil)))))))))))) (by kernel_rfl) (by kernel_rfl) ?_
   simp -dsimp [h2, h6, h49, h50, h51, I, S, hi', hmk, hle', hgi', hb8, oK, set_ne, show n2 ≠ n3 by omega, show n3 ≠ n2 by omega]
   repeat' (with_reducible apply And.intro)
   all_goals try (simp [set_ne, show n3 ≠ n2 by omega, show n3 ≠ n2 + 1 by omega, show n3 ≠ n2 + 1 + 1 by omega, show n2 ≠ n2 + 1 by omega, show n2 ≠ n2 + 1 + 1 by omega, show n2 + 1 ≠ n2 + 1 + 1 by omega, show n2 + 1 + 1 ≠ n2 + 1 by omega, oK, I, S]; done)
   ·(refine b4_append (lN.frame fun j hj => by have := kN j hj; simp [set_ne, show j ≠ n2 by omega, show j ≠ n2 + 1 by omega, show j ≠ n2 + 1 + 1 by omega]) (fun j hj => by have := kN j hj; omega) trivial trivial (by omega) (by simp; omega) ?_
     intro da ma na a1 a2 a3 a4
     have oKa := a4 n3 (by omega) (fun e => by have := kN _ e; omega)
     have o2a := a4 n2 (by omega) (fun e => by have := kN _ e; omega)
     refine ⟨fun p hp _ => ?_, ?_⟩
     ·simp only [List.mem_cons, List.not_mem_nil, or_false] at hp
      rcases hp with rfl | rfl | rfl | rfl
      ·exact o2a
      ·exact oKa
      ·exact o2a
      ·exact oKa
     simp [set_ne, show n3 ≠ n2 by omega, show n3 ≠ n2 + 1 by omega, show n3 ≠ n2 + 1 + 1 by omega, show n2 ≠ n2 + 1 by omega, show n2 ≠ n2 + 1 + 1 by omega, show n2 + 1 ≠ n2 + 1 + 1 by omega, show n2 + 1 + 1 ≠ n2 + 1 by omega, oK] at oKa o2a
     simp -dsimp [h2, h6, I, S, hb8, set_ne]
     repeat' (with_reducible apply And.intro)
     all_goals try (simp [set_ne, show n3 ≠ na by omega, show n2 ≠ na by omega, oKa, o2a]; done)
     refine b4_append (lS.frame fun j hj => ?_) (fun j hj => by have := kS j hj; omega) trivial trivial (by omega) (by simp; omega) ?_
     ·have := kS j hj
      have h1 : kof dN ≠ some j := fun e => kdN j e hj
      first
      | (rw [set_ne _ _ _ _ (by omega), a4 j (by omega) h1]; simp [set_ne, show j ≠ n2 by omega, show j ≠ n2 + 1 by omega, show j ≠ n2 + 1 + 1 by omega]; done)
      | (rw [a4 j (by omega) h1]; simp [set_ne, show j ≠ n2 by omega, show j ≠ n2 + 1 by omega, show j ≠ n2 + 1 + 1 by omega]; done)
     intro db mb nb b1 b2 b3 b4
     have oKb := b4 n3 (by omega) (fun e => by have := kS _ e; omega)
     have o2b := b4 n2 (by omega) (fun e => by have := kS _ e; omega)
     refine ⟨fun p hp _ => ?_, ?_⟩
     ·simp only [List.mem_cons, List.not_mem_nil, or_false] at hp
      rcases hp with rfl | rfl | rfl | rfl
      ·exact o2b
      ·exact oKb
      ·exact o2b
      ·exact oKb
     simp [set_ne, show n3 ≠ na by omega, oKa] at oKb
     have ka : ∀ j, kof da = some j → n3 < j ∧ j < na ∧ kof dS ≠ some j := fun j hj => by
      have := a3 j hj
      rcases this.2 with e | e
      ·have h1 := kN j e
       exact ⟨h1.1, this.1, kdN j e⟩
      ·exact ⟨by omega, this.1, fun e2 => by have := kS j e2; omega⟩
     have kb : ∀ j, kof db = some j → n3 < j ∧ j < nb ∧ (kof dS = some j ∨ na ≤ j) := fun j hj => by
      have := b3 j hj
      rcases this.2 with e | e
      ·have h1 := kS j e
       exact ⟨h1.1, this.1, .inl e⟩
      ·exact ⟨by omega, this.1, .inr (by omega)⟩
     have old : ∀ j, j < n2 → kof dN ≠ some j → kof dS ≠ some j → mb j = m2 j := fun j h1 h3 h4 => by
      rw [b4 j (by omega) h4]
      first
      | (rw [set_ne _ _ _ _ (by omega), a4 j (by omega) h3]; simp [set_ne, show j ≠ n2 by omega, show j ≠ n2 + 1 by omega, show j ≠ n2 + 1 + 1 by omega]; done)
      | (rw [a4 j (by omega) h3]; simp [set_ne, show j ≠ n2 by omega, show j ≠ n2 + 1 by omega, show j ≠ n2 + 1 + 1 by omega]; done)
     obtain ⟨oda, cda⟩ := okD_lst a1
     obtain ⟨odb, cdb⟩ := okD_lst b1
     simp -dsimp [h2, h6, I, S, oKb, oda, odb, cda, cdb]
     refine ⟨da, db, ⟨by simp [h2], by simp [h6], by simp [h49], by simp [h50, I], by simp [h51, I], by omega, ?_, ?_, ⟨by omega, by omega⟩, by simp [I, S], ?_, ?_, fun j hj => ?_, fun j hj => ?_, fun j hj hj2 => ?_, ?_, fun j h1 h2 => ?_⟩⟩
     ·refine .inr ⟨kk, gg, es', by rw [List.length_map], ?_, hle, htk⟩
      rw [set_ne _ _ _ _ (by omega), old kk (by omega) (fun e => by have := kN kk e; omega) (fun e => by have := kS kk e; omega)]
      exact hmk
     ·exact k3
     ·rw [take_snoc hi', List.map_append]
      have := a1.frame (m' := (mb.set n3 ⟨8, [[.v (.int .i64 5), .v (.int .i64 0), .v (.string (ofL [])), .v (.string (ofL [])), da, .v (.slice none 0 0), .v (.slice none 0 0), db]], 0⟩)) fun j hj => by
       have h1 := ka j hj
       rw [set_ne _ _ _ _ (by omega)]
       first | (rw [b4 j (by omega) h1.2.2]; done) | (rw [b4 j (by omega) h1.2.2, set_ne _ _ _ _ (by omega)]; done)
      simpa [S] using this
     ·rw [take_snoc hi', List.map_append]
      simpa using b1.frame fun j hj => set_ne _ _ _ _ (by have := kb j hj; omega)
     ·have := ka j hj; omega
     ·have := kb j hj; omega
     ·have h1 := ka j hj
      have h2 := kb j hj2
      rcases h2.2.2 with e | e
      ·exact h1.2.2 e
      ·omega
     ·rw [set_ne _ _ _ _ (by omega), old k (by omega) (fun e => by have := kN k e; omega) (fun e => by have := kS k e; omega)]
      exact pk
     ·rw [set_ne _ _ _ _ (by omega), old j (by omega) (fun e => by have := kN j e; omega) (fun e => by have := kS j e; omega)]
      exact fr j h1 h2)
   ·(refine b4_append (lN.frame fun j hj => by have := kN j hj; simp [set_ne, show j ≠ n2 by omega, show j ≠ n2 + 1 by omega, show j ≠ n2 + 1 + 1 by omega]) (fun j hj => by have := kN j hj; omega) trivial trivial (by omega) (by simp; omega) ?_
     intro da ma na a1 a2 a3 a4
     have oKa := a4 n3 (by omega) (fun e => by have := kN _ e; omega)
     have o2a := a4 n2 (by omega) (fun e => by have := kN _ e; omega)
     refine ⟨fun p hp _ => ?_, ?_⟩
     ·simp only [List.mem_cons, List.not_mem_nil, or_false] at hp
      rcases hp with rfl | rfl | rfl | rfl
      ·exact o2a
      ·exact oKa
      ·exact o2a
      ·exact oKa
     simp [set_ne, show n3 ≠ n2 by omega, show n3 ≠ n2 + 1 by omega, show n3 ≠ n2 + 1 + 1 by omega, show n2 ≠ n2 + 1 by omega, show n2 ≠ n2 + 1 + 1 by omega, show n2 + 1 ≠ n2 + 1 + 1 by omega, show n2 + 1 + 1 ≠ n2 + 1 by omega, oK] at oKa o2a
     have hbx := a4 (n2 + 1 + 1) (by omega) (fun e => by have := kN _ e; omega)
     simp [set_ne, show n3 ≠ n2 by omega, show n3 ≠ n2 + 1 by omega, show n3 ≠ n2 + 1 + 1 by omega, show n2 ≠ n2 + 1 by omega, show n2 ≠ n2 + 1 + 1 by omega, show n2 + 1 ≠ n2 + 1 + 1 by omega, show n2 + 1 + 1 ≠ n2 + 1 by omega] at hbx
     simp -dsimp [h2, h6, I, S, hb8, set_ne, hbx]
     repeat' (with_reducible apply And.intro)
     all_goals try (simp [set_ne, show n3 ≠ na by omega, show n2 ≠ na by omega, oKa, o2a]; done)
     refine b4_append (lS.frame fun j hj => ?_) (fun j hj => by have := kS j hj; omega) trivial trivial (by omega) (by simp; omega) ?_
     ·have := kS j hj
      have h1 : kof dN ≠ some j := fun e => kdN j e hj
      first
      | (rw [set_ne _ _ _ _ (by omega), a4 j (by omega) h1]; simp [set_ne, show j ≠ n2 by omega, show j ≠ n2 + 1 by omega, show j ≠ n2 + 1 + 1 by omega]; done)
      | (rw [a4 j (by omega) h1]; simp [set_ne, show j ≠ n2 by omega, show j ≠ n2 + 1 by omega, show j ≠ n2 + 1 + 1 by omega]; done)
     intro db mb nb b1 b2 b3 b4
     have oKb := b4 n3 (by omega) (fun e => by have := kS _ e; omega)
     have o2b := b4 n2 (by omega) (fun e => by have := kS _ e; omega)
     refine ⟨fun p hp _ => ?_, ?_⟩
     ·simp only [List.mem_cons, List.not_mem_nil, or_false] at hp
      rcases hp with rfl | rfl | rfl | rfl
      ·exact o2b
      ·exact oKb
      ·exact o2b
      ·exact oKb
     simp [set_ne, show n3 ≠ na by omega, oKa] at oKb
     have ka : ∀ j, kof da = some j → n3 < j ∧ j < na ∧ kof dS ≠ some j := fun j hj => by
      have := a3 j hj
      rcases this.2 with e | e
      ·have h1 := kN j e
       exact ⟨h1.1, this.1, kdN j e⟩
      ·exact ⟨by omega, this.1, fun e2 => by have := kS j e2; omega⟩
     have kb : ∀ j, kof db = some j → n3 < j ∧ j < nb ∧ (kof dS = some j ∨ na ≤ j) := fun j hj => by
      have := b3 j hj
      rcases this.2 with e | e
      ·have h1 := kS j e
       exact ⟨h1.1, this.1, .inl e⟩
      ·exact ⟨by omega, this.1, .inr (by omega)⟩
     have old : ∀ j, j < n2 → kof dN ≠ some j → kof dS ≠ some j → mb j = m2 j := fun j h1 h3 h4 => by
      rw [b4 j (by omega) h4]
      first
      | (rw [set_ne _ _ _ _ (by omega), a4 j (by omega) h3]; simp [set_ne, show j ≠ n2 by omega, show j ≠ n2 + 1 by omega, show j ≠ n2 + 1 + 1 by omega]; done)
      | (rw [a4 j (by omega) h3]; simp [set_ne, show j ≠ n2 by omega, show j ≠ n2 + 1 by omega, show j ≠ n2 + 1 + 1 by omega]; done)
     obtain ⟨oda, cda⟩ := okD_lst a1
     obtain ⟨odb, cdb⟩ := okD_lst b1
     simp -dsimp [h2, h6, I, S, oKb, oda, odb, cda, cdb]
     refine ⟨da, db, ⟨by simp [h2], by simp [h6], by simp [h49], by simp [h50, I], by simp [h51, I], by omega, ?_, ?_, ⟨by omega, by omega⟩, by simp [I, S], ?_, ?_, fun j hj => ?_, fun j hj => ?_, fun j hj hj2 => ?_, ?_, fun j h1 h2 => ?_⟩⟩
     ·refine .inr ⟨kk, gg, es', by rw [List.length_map], ?_, hle, htk⟩
      rw [set_ne _ _ _ _ (by omega), old kk (by omega) (fun e => by have := kN kk e; omega) (fun e => by have := kS kk e; omega)]
      exact hmk
     ·exact k3
     ·rw [take_snoc hi', List.map_append]
      have := a1.frame (m' := (mb.set n3 ⟨8, [[.v (.int .i64 5), .v (.int .i64 0), .v (.string (ofL [])), .v (.string (ofL [])), da, .v (.slice none 0 0), .v (.slice none 0 0), db]], 0⟩)) fun j hj => by
       have h1 := ka j hj
       rw [set_ne _ _ _ _ (by omega)]
       first | (rw [b4 j (by omega) h1.2.2]; done) | (rw [b4 j (by omega) h1.2.2, set_ne _ _ _ _ (by omega)]; done)
      simpa [S] using this
     ·rw [take_snoc hi', List.map_append]
      simpa using b1.frame fun j hj => set_ne _ _ _ _ (by have := kb j hj; omega)
     ·have := ka j hj; omega
     ·have := kb j hj; omega
     ·have h1 := ka j hj
      have h2 := kb j hj2
      rcases h2.2.2 with e | e
      ·exact h1.2.2 e
      ·omega
     ·rw [set_ne _ _ _ _ (by omega), old k (by omega) (fun e => by have := kN k e; omega) (fun e => by have := kS k e; omega)]
      exact pk
     ·rw [set_ne _ _ _ _ (by omega), old j (by omega) (fun e => by have := kN j e; omega) (fun e => by have := kS j e; omega)]
      exact fr j h1 h2)
   ·(refine b4_append (lN.frame fun j hj => by have := kN j hj; simp [set_ne, show j ≠ n2 by omega, show j ≠ n2 + 1 by omega, show j ≠ n2 + 1 + 1 by omega]) (fun j hj => by have := kN j hj; omega) trivial trivial (by omega) (by simp; omega) ?_
     intro da ma na a1 a2 a3 a4
     have oKa := a4 n3 (by omega) (fun e => by have := kN _ e; omega)
     have o2a := a4 n2 (by omega) (fun e => by have := kN _ e; omega)
     refine ⟨fun p hp _ => ?_, ?_⟩
     ·simp only [List.mem_cons, List.not_mem_nil, or_false] at hp
      rcases hp with rfl | rfl | rfl | rfl
      ·exact o2a
      ·exact oKa
      ·exact o2a
      ·exact oKa
     simp [set_ne, show n3 ≠ n2 by omega, show n3 ≠ n2 + 1 by omega, show n3 ≠ n2 + 1 + 1 by omega, show n2 ≠ n2 + 1 by omega, show n2 ≠ n2 + 1 + 1 by omega, show n2 + 1 ≠ n2 + 1 + 1 by omega, show n2 + 1 + 1 ≠ n2 + 1 by omega, oK] at oKa o2a
     have hbx := a4 (n2 + 1) (by omega) (fun e => by have := kN _ e; omega)
     simp [set_ne, show n3 ≠ n2 by omega, show n3 ≠ n2 + 1 by omega, show n3 ≠ n2 + 1 + 1 by omega, show n2 ≠ n2 + 1 by omega, show n2 ≠ n2 + 1 + 1 by omega, show n2 + 1 ≠ n2 + 1 + 1 by omega, show n2 + 1 + 1 ≠ n2 + 1 by omega] at hbx
     simp -dsimp [h2, h6, I, S, hb8, set_ne, hbx]
     repeat' (with_reducible apply And.intro)
     all_goals try (simp [set_ne, show n3 ≠ na by omega, show n2 ≠ na by omega, oKa, o2a]; done)
     refine b4_append (lS.frame fun j hj => ?_) (fun j hj => by have := kS j hj; omega) trivial trivial (by omega) (by simp; omega) ?_
     ·have := kS j hj
      have h1 : kof dN ≠ some j := fun e => kdN j e hj
      first
      | (rw [set_ne _ _ _ _ (by omega), a4 j (by omega) h1]; simp [set_ne, show j ≠ n2 by omega, show j ≠ n2 + 1 by omega, show j ≠ n2 + 1 + 1 by omega]; done)
      | (rw [a4 j (by omega) h1]; simp [set_ne, show j ≠ n2 by omega, show j ≠ n2 + 1 by omega, show j ≠ n2 + 1 + 1 by omega]; done)
     intro db mb nb b1 b2 b3 b4
     have oKb := b4 n3 (by omega) (fun e => by have := kS _ e; omega)
     have o2b := b4 n2 (by omega) (fun e => by have := kS _ e; omega)
     refine ⟨fun p hp _ => ?_, ?_⟩
     ·simp only [List.mem_cons, List.not_mem_nil, or_false] at hp
      rcases hp with rfl | rfl | rfl | rfl
      ·exact o2b
      ·exact oKb
      ·exact o2b
      ·exact oKb
     simp [set_ne, show n3 ≠ na by omega, oKa] at oKb
     have ka : ∀ j, kof da = some j → n3 < j ∧ j < na ∧ kof dS ≠ some j := fun j hj => by
      have := a3 j hj
      rcases this.2 with e | e
      ·have h1 := kN j e
       exact ⟨h1.1, this.1, kdN j e⟩
      ·exact ⟨by omega, this.1, fun e2 => by have := kS j e2; omega⟩
     have kb : ∀ j, kof db = some j → n3 < j ∧ j < nb ∧ (kof dS = some j ∨ na ≤ j) := fun j hj => by
      have := b3 j hj
      rcases this.2 with e | e
      ·have h1 := kS j e
       exact ⟨h1.1, this.1, .inl e⟩
      ·exact ⟨by omega, this.1, .inr (by omega)⟩
     have old : ∀ j, j < n2 → kof dN ≠ some j → kof dS ≠ some j → mb j = m2 j := fun j h1 h3 h4 => by
      rw [b4 j (by omega) h4]
      first
      | (rw [set_ne _ _ _ _ (by omega), a4 j (by omega) h3]; simp [set_ne, show j ≠ n2 by omega, show j ≠ n2 + 1 by omega, show j ≠ n2 + 1 + 1 by omega]; done)
      | (rw [a4 j (by omega) h3]; simp [set_ne, show j ≠ n2 by omega, show j ≠ n2 + 1 by omega, show j ≠ n2 + 1 + 1 by omega]; done)
     obtain ⟨oda, cda⟩ := okD_lst a1
     obtain ⟨odb, cdb⟩ := okD_lst b1
     simp -dsimp [h2, h6, I, S, oKb, oda, odb, cda, cdb]
     refine ⟨da, db, ⟨by simp [h2], by simp [h6], by simp [h49], by simp [h50, I], by simp [h51, I], by omega, ?_, ?_, ⟨by omega, by omega⟩, by simp [I, S], ?_, ?_, fun j hj => ?_, fun j hj => ?_, fun j hj hj2 => ?_, ?_, fun j h1 h2 => ?_⟩⟩
     ·refine .inr ⟨kk, gg, es', by rw [List.length_map], ?_, hle, htk⟩
      rw [set_ne _ _ _ _ (by omega), old kk (by omega) (fun e => by have := kN kk e; omega) (fun e => by have := kS kk e; omega)]
      exact hmk
     ·exact k3
     ·rw [take_snoc hi', List.map_append]
      have := a1.frame (m' := (mb.set n3 ⟨8, [[.v (.int .i64 5), .v (.int .i64 0), .v (.string (ofL [])), .v (.string (ofL [])), da, .v (.slice none 0 0), .v (.slice none 0 0), db]], 0⟩)) fun j hj => by
       have h1 := ka j hj
       rw [set_ne _ _ _ _ (by omega)]
       first | (rw [b4 j (by omega) h1.2.2]; done) | (rw [b4 j (by omega) h1.2.2, set_ne _ _ _ _ (by omega)]; done)
      simpa [S] using this
     ·rw [take_snoc hi', List.map_append]
      simpa using b1.frame fun j hj => set_ne _ _ _ _ (by have := kb j hj; omega)
     ·have := ka j hj; omega
     ·have := kb j hj; omega
     ·have h1 := ka j hj
      have h2 := kb j hj2
      rcases h2.2.2 with e | e
      ·exact h1.2.2 e
      ·omega
     ·rw [set_ne _ _ _ _ (by omega), old k (by omega) (fun e => by have := kN k e; omega) (fun e => by have := kS k e; omega)]
      exact pk
     ·rw [set_ne _ _ _ _ (by omega), old j (by omega) (fun e => by have := kN j e; omega) (fun e => by have := kS j e; omega)]
      exact fr j h1 h2)
  rintro σ m2 n2 ⟨dN, dS, H⟩
  obtain ⟨h2, h6, h49, h50, h51, le, l3, k3, kK, oK, lN, lS, kN, kS, kdN, pk, fr⟩ := H
  simp only [List.length_map] at l3 k3 h49
  simp -dsimp [h51, I, wi]
  exact ⟨i + 1, by omega, dN, dS, by simp [h2], by simp [h6], by simp [h49], by simp [h50], by simp [I], le, l3, k3, kK, oK, lN, lS, kN, kS, kdN, pk, fr⟩
 ·have e : i = qs.length := by omega
  subst e
  rw [List.take_length] at lN lS
  have hmn : m2 n = some zT := by rw [fr n (by omega) (by omega), set_same]
  simp -dsimp [h2, h6, h49, h50, h51, I, S, hi, oK, hmn, zT]
  refine hq ⟨⟨makeB (qs.map toBn), ?_, hres⟩, by rw [set_ne _ _ _ _ kn]; exact pk, fun j hj hjk => by rw [set_ne _ _ _ _ (by omega), fr j (by omega) hjk, set_ne _ _ _ _ (by omega)]⟩
  have g1 : Lst (m2.set n ⟨8, [[I 5, I 0, S [], S [], dN, .v (.slice none 0 0), .v (.slice none 0 0), dS]], 0⟩) 1 (((qs.map toBn).map (·.1)).map fun s => [S s]) dN := by
   rw [List.map_map, List.map_map]; exact lN.frame fun j hj => set_ne _ _ _ _ (by have := kN j hj; omega)
  have g2 : Lst (m2.set n ⟨8, [[I 5, I 0, S [], S [], dN, .v (.slice none 0 0), .v (.slice none 0 0), dS]], 0⟩) 8 (((qs.map toBn).map (·.2)).map tmD) dS := by
   rw [List.map_map, List.map_map]; exact lS.frame fun j hj => set_ne _ _ _ _ (by have := kS j hj; omega)
  simp only [makeB, tmD, tmsD_eq, sl1, List.map_nil]
  refine .agg (.cons (pur_I _).pub (.cons (pur_I _).pub (.cons (pur_S _).pub (.cons (pur_S _).pub (.cons ?_ (.cons (pub_nil 1) (.cons (pub_nil 7) (.cons ?_ .nil))))))))
  ·exact .lstP (by simpa [I, S] using g1) (fun j hj => by have := kN j hj; omega) pur_ss
  ·exact .lstP (by simpa [I, S] using g2) (fun j hj => by have := kS j hj; omega) (pur_tmm _)
end Go.Proofs.Mv.App
