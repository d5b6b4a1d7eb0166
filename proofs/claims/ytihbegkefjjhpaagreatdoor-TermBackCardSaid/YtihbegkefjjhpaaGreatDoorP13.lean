/- A part of the proofs: machine, contracts, laws. No condition of its own. -/
import Derived.Test.YtihbegkefjjhpaaGreatDoorP12
import Derived.Test.YtihbegkefjjhpaaGreatDoorP03
import Derived.Test.YtihbegkefjjhpaaGreatDoorMvD
set_option linter.unusedSimpArgs false
set_option linter.unusedVariables false
set_option linter.unusedSectionVars false
open Go Go.Proofs Go.Proofs.Mv.V
set_option maxRecDepth 10000
namespace Go.Proofs.Mv.App
section
variable [GI]
def nmF (g : Bool) : FuncId := match g with
 | true => 158
 | false => 156
theorem cNmF (g : Bool) (s : List UInt8) (hs : s.length ≤ 1000000000) (m : Mem) (n : Nat) : ACalls Tryz.prog (nmF g) [S s] m n (fun d m' n' => d = Tt (namOk g s) ∧ m' = m ∧ n' = n) := by
 cases g
 ·exact cSmall s (by omega) m n
 ·exact cGreat s (by omega) m n
structure NamInv (l : List Tok) (g : Bool) (r : Nat) (p0 : PS) (k : Nat) (m : Mem) (n : Nat) (rem : Nat) (σ : Nat → D) (m2 : Mem) (n2 : Nat) : Prop where
 h0 : σ 0 = .ptr k 0 0 0
 h1 : σ 1 = I (knd g)
 h2 : σ 2 = S (endS g)
 h3 : σ 3 = I (32 - r)
 h8 : σ 8 = .ptr n 0 0 0
 h9 : σ 9 = I (if g then 2 else 1)
 h10 : σ 10 = .func (.func (nmF g)) [] []
 nn : n + 1 ≤ n2
 m8 : m2 n = some ⟨7, [zero7], 0⟩
 fr : ∀ j, j < n → j ≠ k → m2 j = m j
 ex : ∃ ps ps' q, Lst m2 8 (ps'.map partD) (σ 11) ∧ (∀ j, kof (σ 11) = some j → n + 1 ≤ j ∧ j < n2) ∧ m2 k = some (pObj l q) ∧ As ps' ps q ∧ ps'.map (·.1) = ps.map (·.1) ∧ (ps.map (·.1)).Nodup ∧ ps.length + rem = 22 ∧ ps.length ≤ 20 ∧
  (ps = [] → q = p0) ∧ (ps ≠ [] → headN l g r p0 = namedF l g (endS g) (typF l r) rem ps q)
structure NamMid (l : List Tok) (g : Bool) (r : Nat) (p0 : PS) (k : Nat) (m : Mem) (n : Nat) (σ : Nat → D) (m2 : Mem) (n2 : Nat) : Prop where
 h1 : σ 1 = I (knd g)
 h8 : σ 8 = .ptr n 0 0 0
 nn : n + 1 ≤ n2
 m8 : m2 n = some ⟨7, [zero7], 0⟩
 fr : ∀ j, j < n → j ≠ k → m2 j = m j
 ex : ∃ ps', Lst m2 8 (ps'.map partD) (σ 11) ∧ (∀ j, kof (σ 11) = some j → n + 1 ≤ j ∧ j < n2) ∧ m2 k = some (pObj l (headN l g r p0).2) ∧ As ps' (headN l g r p0).1 (headN l g r p0).2 ∧ ps'.length ≤ 21 ∧ (ps'.map (·.1)).Nodup
structure NamGo (k : Nat) (g : Bool) (r n : Nat) (d11 : D) (m2 : Mem) (n2 : Nat) (C : Prop) (σ : Nat → D) (m' : Mem) (n' : Nat) : Prop where
 h0 : σ 0 = .ptr k 0 0 0
 h1 : σ 1 = I (knd g)
 h2 : σ 2 = S (endS g)
 h3 : σ 3 = I (32 - r)
 h8 : σ 8 = .ptr n 0 0 0
 h9 : σ 9 = I (if g then 2 else 1)
 h10 : σ 10 = .func (.func (nmF g)) [] []
 h11 : σ 11 = d11
 mm : m' = m2
 nn : n' = n2
 cc : C
structure NamSw (k : Nat) (g : Bool) (r n : Nat) (d11 : D) (q : Nat) (m2 : Mem) (n2 : Nat) (σ : Nat → D) (m' : Mem) (n' : Nat) : Prop where
 h0 : σ 0 = .ptr k 0 0 0
 h1 : σ 1 = I (knd g)
 h2 : σ 2 = S (endS g)
 h3 : σ 3 = I (32 - r)
 h8 : σ 8 = .ptr n 0 0 0
 h9 : σ 9 = I (if g then 2 else 1)
 h10 : σ 10 = .func (.func (nmF g)) [] []
 h11 : σ 11 = d11
 h12 : σ 12 = .ptr q 0 0 0
 mm : m' = m2
 nn : n' = n2
theorem pObj_stepI {l : List Tok} {p : PS} (h : p.bad = 0) : (⟨4, [[toksD l, .v (.int .i64 ((p.at_ : Int) + 1)), .v (.int .i64 (p.cnt : Int)), .v .nilIface]], 0⟩ : V.Obj) = pObj l (stepF p) := (pObj_step h).symm
structure NamPre (k : Nat) (g : Bool) (r n : Nat) (m2 : Mem) (n2 : Nat) (σ : Nat → D) (m' : Mem) (n' : Nat) : Prop where
 h0 : σ 0 = .ptr k 0 0 0
 h1 : σ 1 = I (knd g)
 h2 : σ 2 = S (endS g)
 h3 : σ 3 = I (32 - r)
 h8 : σ 8 = .ptr n 0 0 0
 h9 : σ 9 = I (if g then 2 else 1)
 h10 : σ 10 = .func (.func (nmF g)) [] []
 mm : m' = m2
 nn : n' = n2
structure OutInv (g : Bool) (k : Nat) (m : Mem) (n : Nat) (d11 : D) (o : V.Obj) (qs : List Nm) (a : Nat) (i : Nat) (σ : Nat → D) (m2 : Mem) (n2 : Nat) : Prop where
 h8 : σ 8 = .ptr n 0 0 0
 h14 : σ 14 = .ptr a 0 0 0
 h101 : σ 101 = d11
 h102 : σ 102 = I qs.length
 h103 : σ 103 = I i
 le : i ≤ qs.length
 an : n + 1 ≤ a
 aa : a < n2
 mo : m2 k = some o
 m8 : m2 n = some ⟨7, [zero7], 0⟩
 fr : ∀ j, j < n → j ≠ k → m2 j = m j
 lp : Lst m2 8 (qs.map partD) d11
 kp : ∀ j, kof d11 = some j → n + 1 ≤ j ∧ j < a
 ex : ∃ dN dS, m2 a = some ⟨7, [[I (knd g), S [], I 0, S [], S [], dN, dS]], 0⟩ ∧ Lst m2 1 ((qs.take i).map fun x => [S x.1]) dN ∧ Lst m2 7 ((qs.take i).map fun x => tyD x.2) dS ∧
  (∀ j, kof dN = some j → a < j ∧ j < n2) ∧ (∀ j, kof dS = some j → a < j ∧ j < n2) ∧ ∀ j, kof dN = some j → kof dS ≠ some j
set_option maxHeartbeats 4000000 in
theorem cNamed {l : List Tok} (hl : TkOk l) (g : Bool) {r : Nat} (hr : r ≤ 31) (H : TypC l r) {p : PS} {k : Nat} {m : Mem} {n : Nat} (hk : k < n) (hm : m k = some (pObj l p)) (hb0 : p.bad = 0) :
  ACalls Tryz.prog 209 [.ptr k 0 0 0, I (knd g), S (endS g), I (32 - r)] m n (TyR l k m n (partsF l g (typF l r) p).1 (partsF l g (typF l r) p).2) := by
 have kn : k ≠ n := by omega
 have nk : n ≠ k := by omega
 have hfun : partsF l g (typF l r) p = (recT (if g then 6 else 5) (headN l g r p).1, (headN l g r p).2) := by cases g <;> rfl
 have wd : IntKind.i64.wrap ((32 : Int) - r + 1) = 33 - r := by rw [wrap_i64 (by omega) (by omega)]; omega
 refine acalls_put (X := fun d => ∃ t', d = .agg (tyD t') ∧ ((partsF l g (typF l r) p).2.bad = 0 → t' = (partsF l g (typF l r) p).1)) (R' := Hq (fun d m' n' => ∃ (qs : List Nm) (dN dS : D), d = .agg [I (knd g), S [], I 0, S [], S [], dN, dS] ∧ Lst m' 1 (qs.map fun x : Nm => [S x.1]) dN ∧ (∀ j, kof dN = some j → n ≤ j) ∧
   Lst m' 7 (qs.map fun x : Nm => tyD x.2) dS ∧ (∀ j, kof dS = some j → n ≤ j) ∧
   ((partsF l g (typF l r) p).2.bad = 0 → Ty.mk (knd g) [] 0 [] [] (qs.map (·.1)) (qs.map (·.2)) = (partsF l g (typF l r) p).1) ∧ m' k = some (pObj l (partsF l g (typF l r) p).2) ∧ ∀ j, j < n → j ≠ k → m' j = m j) tg) k hk _ ?_ ?_
 ·refine acalls_vcC [0, 1, 2, 3, 8, 9, 10, 11, 12, 13, 14, 16, 18, 38, 42, 56, 62, 72, 94, 101, 102, 103, 104] Tryz.func209 Tryz.ntmps209 (by kernel_rfl) rfl rfl (by simp) ?_
  have hz : zero7 = [I 0, S [], I 0, S [], S [], .v (.slice none 0 0), .v (.slice none 0 0)] := rfl
  have start : ∀ (σ : Nat → D), σ 0 = .ptr k 0 0 0 → σ 1 = I (knd g) → σ 2 = S (endS g) → σ 3 = I (32 - r) → σ 8 = .ptr n 0 0 0 → σ 9 = I (if g then 2 else 1) → σ 10 = .func (.func (nmF g)) [] [] → σ 11 = .v (.slice none 0 0) →
    NamInv l g r p k m n 22 σ (m.set n ⟨7, [zero7], 0⟩) (n + 1) := by
   intro σ a0 a1 a2 a3 a4 a5 a6 a7
   exact ⟨a0, a1, a2, a3, a4, a5, a6, by omega, by simp, fun j hj hjk => set_ne _ _ _ _ (by omega), [], [], p, by rw [a7]; simpa using Lst.nil, by rw [a7]; simp, by rw [set_ne _ _ _ _ kn]; exact hm, ⟨rfl, fun _ => rfl⟩, rfl, by simp, by simp, by simp, fun _ => rfl, fun h => absurd rfl h⟩
  rw [vc_seq]
  simp -dsimp [-vc_seq, -vc_block]
  rw [vc_seq]
  simp -dsimp [-vc_seq, -vc_block]
  rw [vc_seq]
  refine vc_mid (NamPre k g r n (m.set n ⟨7, [zero7], 0⟩) (n + 1)) ?_ ?_
  ·cases g
   ·simp -dsimp [I, knd]
    exact ⟨by simp, by simp [I, knd], by simp, by simp [I], by simp, by simp [I], by simp [nmF], by simp [zero7, I, S], rfl⟩
   ·simp -dsimp [I, knd]
    exact ⟨by simp, by simp [I, knd], by simp, by simp [I], by simp, by simp [I], by simp [nmF], by simp [zero7, I, S], rfl⟩
  rintro σ0 m0 n0 ⟨a0, a1, a2, a3, a8, a9, a10, rfl, rfl⟩
  simp -dsimp [-vc_block, a0, a1, a2, a3, a8, a9, a10]
  refine vc_mid (NamMid l g r p k m n) ?_ ?_
  ·rw [vc_block]
   simp -dsimp [-vc_block]
   refine vloop_of (β := Nat) (NamInv l g r p k m n) (fun b => b) 22 (start _ (by simp [a0]) (by simp [a1]) (by simp [a2]) (by simp [a3]) (by simp [a8]) (by simp [a9]) (by simp [a10]) (by simp)) ?_
   rintro rem σ m2 n2 ⟨h0, h1, h2, h3, h8, h9, h10, nn, m8, fr, ps, ps', q, hL, hkk, hpk, has, hnm, hnd, hrem, h20, hfst, hrest⟩
   have hll := lenD_lst hL
   rw [List.length_map, has.1] at hll
   have hkn2 : k < n2 := by omega
   have kn2 : k ≠ n2 := by omega
   have n2k : n2 ≠ k := by omega
   have done_ : ∀ (σ' : Nat → D) (m' : Mem) (n' : Nat) (us us' : List Nm) (q' : PS), σ' 1 = I (knd g) → σ' 8 = .ptr n 0 0 0 → n + 1 ≤ n' → m' n = m2 n → (∀ j, j < n → j ≠ k → m' j = m j) →
     Lst m' 8 (us'.map partD) (σ' 11) → (∀ j, kof (σ' 11) = some j → n + 1 ≤ j ∧ j < n') → m' k = some (pObj l q') → As us' us q' → us.length ≤ 21 → (us'.map (·.1)).Nodup → headN l g r p = (us, q') → NamMid l g r p k m n σ' m' n' := by
    intro σ' m' n' us us' q' b1 b2 b3 b4 b5 b6 b7 b8 b9 b10 b11 b12
    exact ⟨b1, b2, b3, by rw [b4]; exact m8, b5, us', b6, b7, by rw [b12]; exact b8, by rw [b12]; exact b9, by rw [b9.1]; exact b10, b11⟩
   by_cases hqb : q.bad = 0
   case neg =>
    have hq0 : ps ≠ [] := fun e => hqb (by rw [hfst e]; exact hb0)
    simp -dsimp [-vc_block, h0, h1, h2, h3, h8, h9, h10, hpk, pObj, pC, errD, hqb, spotE]
    refine done_ _ _ _ ps ps' q (by simp [h1, I, knd]) (by simp [h8]) nn rfl fr (by simpa using hL) (by simpa using hkk) (by simp [hpk, pObj, pC, errD]) has (by omega) (by rw [hnm]; exact hnd) ?_
    rw [hrest hq0, namedF_bad hqb]
   obtain ⟨rem', rfl⟩ : ∃ rem', rem = rem' + 1 := ⟨rem - 1, by omega⟩
   have hT : ps' = ps := has.2 hqb
   subst hT
   rw [vc_seq]
   refine vc_mid (NamGo k g r n (σ 11) m2 n2 (ps' = [] → g = false → isSig [125] l q = false)) ?_ ?_
   ·by_cases hts : ps' = []
    ·have h0l : ps'.length = 0 := by simp [hts]
     rw [h0l] at hll
     have hqp := hfst hts
     cases g
     ·simp -dsimp [-vc_block, h0, h1, h2, h3, h8, h9, h10, hpk, pObj, pC, errD, hqb, nilE, hll, knd, I]
      refine aCall_of (cSign hl (endS false) hkn2 hpk) ?_
      rintro d m3 n3 ⟨rfl, rfl, rfl⟩
      cases hs : isSig (endS false) l q
      ·simp -dsimp [Tt, hs]
       exact ⟨by simp [h0], by simp [h1, I, knd], by simp [h2, S], by simp [h3, I], by simp [h8], by simp [h9, I], by simp [h10], by simp, set_self hpk, rfl, by first | trivial | exact fun _ => hs | exact fun _ _ => hs⟩
      ·simp -dsimp [Tt, hs]
       refine done_ _ _ _ [] [] (stepF q) (by simp [h1, I, knd]) (by simp [h8]) nn (set_ne _ _ _ _ nk) (fun j hj hjk => by rw [set_ne _ _ _ _ hjk]; exact fr j hj hjk) ?_ (by simpa using hkk) (by simp) ⟨rfl, fun _ => rfl⟩ (by simp) (by simp) ?_
       ·rw [hts] at hL
        have := hL.frame (m' := m2.set k (pObj l (stepF q))) fun j hj => set_ne _ _ _ _ (by have := hkk j hj; omega)
        simpa using this
       ·rw [headN, ← hqp, if_pos ⟨rfl, hs⟩]
     ·simp -dsimp [-vc_block, h0, h1, h2, h3, h8, h9, h10, hpk, pObj, pC, errD, hqb, nilE, hll, knd, I]
      exact ⟨by simp [h0], by simp [h1, I, knd], by simp [h2, S], by simp [h3, I], by simp [h8], by simp [h9, I], by simp [h10], by simp, rfl, rfl, by first | trivial | exact fun _ h => by cases h⟩
    ·have h0l : (0 : Int) < ps'.length := by have := List.length_pos_iff.2 hts; omega
     have h0n : 0 < ps'.length := List.length_pos_iff.2 hts
     simp -dsimp [-vc_block, h0, h1, h2, h3, h8, h9, h10, hpk, pObj, pC, errD, hqb, nilE, hll, h0l, h0n]
     exact ⟨by simp [h0], by simp [h1, I, knd], by simp [h2, S], by simp [h3, I], by simp [h8], by simp [h9, I], by simp [h10], by simp, rfl, rfl, by simp [hts]⟩
   rintro σ1 m3 n3 ⟨g0, g1, g2, g3, g8, g9, g10, g11, rfl, rfl, hcc⟩
   have hrec : headN l g r p = namedF l g (endS g) (typF l r) (rem' + 1) ps' q := by
    by_cases hts : ps' = []
    ·have h22 : rem' + 1 = 22 := by simp [hts] at hrem; omega
     rw [h22, headN, ← hfst hts, if_neg (fun h => by have := hcc hts h.1; rw [h.2] at this; cases this), hts]
    ·exact hrest hts
   rw [vc_block]
   simp -dsimp [-vc_block, g0, g1, g2, g3, g8, g9, g10, g11]
   refine aCall_of (cPeek hkn2 hpk) ?_
   rintro d m4 n4 ⟨rfl, rfl, rfl⟩
   obtain ⟨kd, a, tx, hp⟩ := pk_of hl q
   rw [hp.pk]
   have hnm2 := hp.nam g
   have hlen := hp.len
   have htx := hp.tex
   have hkn3 : k < n4 + 1 := by omega
   have hmk : (m4.set n4 ⟨3, [[I kd, I a, S tx]], 0⟩) k = some (pObj l q) := by rw [set_ne _ _ _ _ kn2]; exact hpk
   have hmn : (m4.set n4 ⟨3, [[I kd, I a, S tx]], 0⟩) n4 = some ⟨3, [[I kd, I a, S tx]], 0⟩ := set_same _ _ _
   simp -dsimp [-vc_block, g0, g1, g2, g3, g8, g9, g10, g11]
   refine vc_mid (NamSw k g r n (σ 11) n4 ((m4.set n4 ⟨3, [[I kd, I a, S tx]], 0⟩).set k (pObj l (swF l g ps' q))) (n4 + 1)) ?_ ?_
   ·rw [vc_block]
    generalize hM : m4.set n4 ⟨3, [[I kd, I a, S tx]], 0⟩ = M at hmk hmn ⊢
    have fin : ∀ (σ' : Nat → D) (q' : PS), swF l g ps' q = q' → σ' 0 = .ptr k 0 0 0 → σ' 1 = I (knd g) → σ' 2 = S (endS g) → σ' 3 = I (32 - r) → σ' 8 = .ptr n 0 0 0 → σ' 9 = I (if g then 2 else 1) → σ' 10 = .func (.func (nmF g)) [] [] → σ' 11 = σ 11 → σ' 12 = .ptr n4 0 0 0 →
      NamSw k g r n (σ 11) n4 (M.set k (pObj l (swF l g ps' q))) (n4 + 1) σ' (M.set k (pObj l q')) (n4 + 1) := by
     intro σ' q' e b0 b1 b2 b3 b8 b9 b10 b11 b12
     exact ⟨b0, b1, b2, b3, b8, b9, b10, b11, b12, by rw [e], rfl⟩
    generalize hkg : (if g = true then (2 : Int) else 1) = kg at hnm2 g9 fin
    by_cases e : kd = kg
    case neg =>
     have e' : (kd != kg) = true := by simp [e]
     simp -dsimp [g0, g1, g2, g3, g8, g9, g10, g11, hmn, I, S, e']
     refine aCall_of (cFail (l := l) (p := q) 2 (by omega) hkn3 hmk) ?_
     rintro d m5 n5 ⟨rfl, rfl, rfl⟩
     simp -dsimp
     exact fin _ _ (by simp [swF, hnm2, e]) (by simp [g0]) (by simp [g1, I, knd]) (by simp [g2, S]) (by simp [g3, I]) (by simp [g8]) (by simp [g9, I]) (by simp [g10]) (by simp [g11]) (by simp)
    have e' : (kd != kg) = false := by simp [e]
    simp -dsimp [g0, g1, g2, g3, g8, g9, g10, g11, hmn, I, S, e']
    refine aCall_of (cNmF g tx (by omega) _ _) ?_
    rintro d m5 n5 ⟨rfl, rfl, rfl⟩
    cases eo : namOk g tx
    ·simp -dsimp [Tt, g0, g1, g2, g3, g8, g9, g10, g11]
     refine aCall_of (cFail (l := l) (p := q) 2 (by omega) hkn3 hmk) ?_
     rintro d m6 n6 ⟨rfl, rfl, rfl⟩
     simp -dsimp
     exact fin _ _ (by simp [swF, hnm2, eo]) (by simp [g0]) (by simp [g1, I, knd]) (by simp [g2, S]) (by simp [g3, I]) (by simp [g8]) (by simp [g9, I]) (by simp [g10]) (by simp [g11]) (by simp)
    have hin : isNam g l q = true := by rw [hnm2]; simp [e, eo]
    by_cases h20l : 20 ≤ (ps'.length : Int)
    ·have h20n : 20 ≤ ps'.length := by omega
     simp -dsimp [Tt, g0, g1, g2, g3, g8, g9, g10, g11, hll, h20l, h20n]
     refine aCall_of (cFail (l := l) (p := q) 3 (by omega) hkn3 hmk) ?_
     rintro d m6 n6 ⟨rfl, rfl, rfl⟩
     simp -dsimp
     exact fin _ _ (by simp [swF, hin, h20n]) (by simp [g0]) (by simp [g1, I, knd]) (by simp [g2, S]) (by simp [g3, I]) (by simp [g8]) (by simp [g9, I]) (by simp [g10]) (by simp [g11]) (by simp)
    have h20n : ¬ 20 ≤ ps'.length := by omega
    simp -dsimp [Tt, g0, g1, g2, g3, g8, g9, g10, g11, hll, h20l, h20n]
    refine aCall_of (cContains (q := n4) (hL.frame fun j hj => by rw [← hM]; exact set_ne _ _ _ _ (by have := hkk j hj; omega)) (by omega) (by omega) hmn) ?_
    rintro d m6 n6 ⟨rfl, rfl, rfl⟩
    by_cases hmem : tx ∈ ps'.map (·.1)
    ·simp -dsimp [Tt, hmem, g0, g1, g2, g3, g8, g9, g10, g11]
     refine aCall_of (cFail (l := l) (p := q) 5 (by omega) hkn3 hmk) ?_
     rintro d m7 n7 ⟨rfl, rfl, rfl⟩
     simp -dsimp
     exact fin _ _ (by rw [swF, hin, htx, if_neg (by simp), if_neg h20n, if_pos hmem]) (by simp [g0]) (by simp [g1, I, knd]) (by simp [g2, S]) (by simp [g3, I]) (by simp [g8]) (by simp [g9, I]) (by simp [g10]) (by simp [g11]) (by simp)
    ·simp -dsimp [Tt, hmem, g0, g1, g2, g3, g8, g9, g10, g11]
     have := fin (fun i => if i = 0 then .ptr k 0 0 0 else if i = 1 then I (knd g) else if i = 2 then S (endS g) else if i = 3 then I (32 - r) else if i = 8 then .ptr n 0 0 0 else if i = 9 then I kg else if i = 10 then .func (.func (nmF g)) [] [] else if i = 11 then σ 11 else .ptr n4 0 0 0) q
      (by rw [swF, hin, htx, if_neg (by simp), if_neg h20n, if_neg hmem]) (by simp) (by simp) (by simp) (by simp) (by simp) (by simp) (by simp) (by simp) (by simp)
     rw [set_self hmk] at this
     exact ⟨by simp [g0], by simp [g1, I, knd], by simp [g2, S], by simp [g3, I], by simp [g8], by simp [g9, hkg, I], by simp [g10], by simp [g11], by simp, this.mm, rfl⟩
   rintro σ2 m5 n5 ⟨f0, f1, f2, f3, f8, f9, f10, f11, f12, rfl, rfl⟩
   have hn4 : ∀ (M : Mem) (o : V.Obj), (∀ j, j ≠ n4 → j ≠ k → M j = m4 j) → M n = m4 n := fun M o h => h n (by omega) nk
   have hset : ∀ (q' : PS) (j : Nat), j ≠ n4 → j ≠ k → ((m4.set n4 ⟨3, [[I kd, I a, S tx]], 0⟩).set k (pObj l q')) j = m4 j := fun q' j h1 h2 => by rw [set_ne _ _ _ _ h2, set_ne _ _ _ _ h1]
   by_cases hsb : (swF l g ps' q).bad = 0
   case neg =>
    simp -dsimp [-vc_block, f0, f1, f2, f3, f8, f9, f10, f11, f12, pObj, pC, errD, hsb, spotE]
    refine done_ _ _ _ ps' ps' (swF l g ps' q) (by simp [f1, I]) (by simp [f8]) (by omega) ?_ ?_ ?_ ?_ (by simp [pObj, pC, errD, hsb, spotE]) ⟨rfl, fun _ => rfl⟩ (by omega) hnd ?_
    ·rw [set_ne _ _ _ _ nk, set_ne _ _ _ _ (by omega)]
    ·intro j hj hjk; rw [set_ne _ _ _ _ hjk, set_ne _ _ _ _ (by omega)]; exact fr j hj hjk
    ·refine Lst.frame (m := m4) ?_ fun j hj => ?_
     ·simpa [f11] using hL
     ·have := hkk j (by simpa [f11] using hj)
      rw [set_ne _ _ _ _ (by omega), set_ne _ _ _ _ (by omega)]
    ·intro j hj
     have := hkk j (by simpa [f11] using hj); omega
    ·rw [hrec, namedF_sw hqb hsb]
   obtain ⟨hnam, h20', hnotin, hsw, hrec2⟩ := namedF_go (l := l) (g := g) (en := endS g) (rec := typF l r) (k := rem') (ps := ps') (p := q) hqb hsb
   rw [hsw]
   rw [hrec2] at hrec
   have hat : p.at_ = p.at_ := rfl
   obtain ⟨_, ha⟩ := hp.ok (by intro e; rw [hnm2, e] at hnam; cases g <;> simp at hnam)
   have wa := wrap_at hl ha
   rw [htx] at hnotin hrec
   generalize hM : m4.set n4 ⟨3, [[I kd, I a, S tx]], 0⟩ = M at hmk hmn hset ⊢
   have hM2 : ∀ j, j ≠ n4 → M j = m4 j := fun j h => by rw [← hM]; exact set_ne _ _ _ _ h
   simp -dsimp [-vc_block, f0, f1, f2, f3, f8, f9, f10, f11, f12, pObj, pC, errD, hqb, nilE, I, wa]
   rw [pObj_stepI (l := l) hqb]
   refine aCall_of (cMust hl [58] (p := stepF q) hkn3 (by simp)) ?_
   rintro d m6 n6 ⟨rfl, rfl, rfl⟩
   simp -dsimp [-vc_block, f0, f1, f2, f3, f8, f9, f10, f11, f12]
   refine vdraw_of [0, 0, 2, 0, 0, 16, 56, 126, 254, 511, 1023] [0, 1, 2, 3, 4, 5, 6, 7, 8, 9, 10] (by kernel_rfl) (by kernel_rfl) ?_
   simp -dsimp [-vc_block, f0, f1, f2, f3, f8, f9, f10, f11, f12, hmn, set_ne, n2k, kn2, I, wd]
   refine aCall_of (H (mustF [58] l (stepF q)) k _ _ hkn3 (by simp)) ?_
   rintro d m6 n6 ⟨⟨t', rfl, ht'⟩, rfl, rfl⟩
   have n41 : n4 + 1 ≠ n4 := by omega
   have n14 : n4 ≠ n4 + 1 := by omega
   have n1k : n4 + 1 ≠ k := by omega
   have k1n : k ≠ n4 + 1 := by omega
   simp -dsimp [-vc_block, f0, f1, f2, f3, f8, f9, f10, f11, f12, hmn, set_ne, n2k, kn2, n41, n14, n1k, k1n]
   generalize hq2 : typF l r (mustF [58] l (stepF q)) = q2 at ht' hrec ⊢
   have hkeep : q2.2.bad = 0 → q.bad = 0 := fun _ => hqb
   refine b4_append (hL.frame fun j hj => ?_) (fun j hj => by have := hkk j hj; omega) trivial trivial (by omega) (by simp; omega) ?_
   ·have := hkk j hj
    rw [set_ne _ _ _ _ (by omega), set_ne _ _ _ _ (by omega), hM2 _ (by omega)]
   intro d m6 n6 p1 p2 p3 p4
   have p1' : Lst m6 8 ((ps' ++ [(tx, t')]).map partD) d := by simpa [partD] using p1
   have hk6 : m6 k = some (pObj l q2.2) := by
    rw [p4 k (by omega) (fun e => by have := hkk k e; omega), set_ne _ _ _ _ k1n, set_same]
   have hn6 : m6 n = m4 n := by
    rw [p4 n (by omega) (fun e => by have := hkk n e; omega), set_ne _ _ _ _ (by omega), set_ne _ _ _ _ nk, hM2 _ (by omega)]
   have hf6 : ∀ j, j < n → j ≠ k → m6 j = m j := fun j hj hjk => by
    rw [p4 j (by omega) (fun e => by have := hkk j e; omega), set_ne _ _ _ _ (by omega), set_ne _ _ _ _ hjk, hM2 _ (by omega)]; exact fr j hj hjk
   have hkk6 : ∀ j, kof d = some j → n + 1 ≤ j ∧ j < n6 ∧ j ≠ k := by
    intro j hj
    have := p3 j hj
    rcases this.2 with e | e
    ·have := hkk j e; omega
    ·omega
   have hkn6 : k < n6 := by omega
   have hnd6 : ((ps' ++ [(tx, t')]).map (·.1)).Nodup := by
    rw [List.map_append, List.nodup_append]
    refine ⟨hnd, by simp, fun a ha b hb => ?_⟩
    simp at hb; rw [hb]; intro e; rw [e] at ha; exact hnotin ha
   have has6 : As (ps' ++ [(tx, t')]) (ps' ++ [(tx, q2.1)]) q2.2 := ⟨by simp, fun e => by rw [ht' e]⟩
   clear p1
   simp -dsimp [-vc_block, f0, f1, f2, f3, f8, f9, f10, f11, f12]
   refine aCall_of (cSign hl (endS g) hkn6 hk6) ?_
   rintro d7 m7 n7 ⟨rfl, rfl, rfl⟩
   cases hs : isSig (endS g) l q2.2
   ·simp -dsimp [Tt, hs, -vc_block, f0, f1, f2, f3, f8, f9, f10, f11, f12]
    refine aCall_of (cMust hl [44] (p := q2.2) hkn6 (by simp)) ?_
    rintro d8 m8' n8 ⟨rfl, rfl, rfl⟩
    simp -dsimp [-vc_block, f0, f1, f2, f3, f8, f9, f10, f11, f12]
    refine ⟨rem', by omega, by simp [f0], by simp [f1, I], by simp [f2, S], by simp [f3, I], by simp [f8], by simp [f9, I], by simp [f10], by omega, by rw [set_ne _ _ _ _ nk, hn6]; exact m8, fun j hj hjk => by rw [set_ne _ _ _ _ hjk]; exact hf6 j hj hjk,
     ps' ++ [(tx, q2.1)], ps' ++ [(tx, t')], mustF [44] l q2.2, ?_, ?_, by simp, has6.then mustF_keep, by simp, by simpa using hnd6, by simp; omega, by simp; omega, by simp, fun _ => ?_⟩
    ·have := p1'.frame (m' := m6.set k (pObj l (mustF [44] l q2.2))) fun j hj => set_ne _ _ _ _ (by have := hkk6 j hj; omega)
     simpa using this
    ·intro j hj
     have := hkk6 j (by simpa using hj); omega
    ·rw [hrec, hs]; simp
   ·simp -dsimp [Tt, hs, -vc_block, f0, f1, f2, f3, f8, f9, f10, f11, f12]
    refine done_ _ _ _ (ps' ++ [(tx, q2.1)]) (ps' ++ [(tx, t')]) (stepF q2.2) (by simp [f1, I]) (by simp [f8]) (by omega) (by rw [set_ne _ _ _ _ nk, hn6]) (fun j hj hjk => by rw [set_ne _ _ _ _ hjk]; exact hf6 j hj hjk) ?_ ?_ (by simp) has6.step (by simp; omega) hnd6 ?_
    ·have := p1'.frame (m' := m6.set k (pObj l (stepF q2.2))) fun j hj => set_ne _ _ _ _ (by have := hkk6 j hj; omega)
     simpa using this
    ·intro j hj
     have := hkk6 j (by simpa using hj); omega
    ·rw [hrec, hs]; simp
  ·rintro σ m2 n2 ⟨h1, h8, nn, m8, fr, ps, hL, hkk, hpk, has, hlen, hnd⟩
   simp -dsimp [-vc_block, h1, h8]
   refine aCall_of (cSort hL (by omega) fun j hj => (hkk j hj).2) ?_
   rintro d m3 n3 ⟨qs, hperm, hsort, hL3, hfr3, rfl⟩
   have hll3 := lenD_lst hL3
   rw [List.length_map] at hll3
   have hnk : ∀ j, (∀ e, kof (σ 11) = some e → j ≠ e) → m3 j = m2 j := fun j hj => hfr3 j fun e => hj j e rfl
   have hk3 : m3 k = some (pObj l (headN l g r p).2) := by rw [hnk k fun e he => by have := hkk e he; omega]; exact hpk
   have hn3 : m3 n = some ⟨7, [zero7], 0⟩ := by rw [hnk n fun e he => by have := hkk e he; omega]; exact m8
   have hf3 : ∀ j, j < n → j ≠ k → m3 j = m j := fun j hj hjk => by rw [hnk j fun e he => by have := hkk e he; omega]; exact fr j hj hjk
   have hql : qs.length = ps.length := hperm.length_eq
   have knn : k ≠ n3 := by omega
   have nnn : n ≠ n3 := by omega
   simp -dsimp [-vc_block, h1, h8, hll3]
   rw [vc_block]
   simp -dsimp [-vc_block, h1, h8, hll3]
   refine vloop_of (β := Nat) (OutInv g k m n (σ 11) (pObj l (headN l g r p).2) qs n3) (fun i => qs.length - i) 0 ⟨by simp [h8], by simp, by simp, by simp [I], by simp [I], by omega, nn, by omega, by rw [set_ne _ _ _ _ knn]; exact hk3, by rw [set_ne _ _ _ _ nnn]; exact hn3,
    fun j hj hjk => by rw [set_ne _ _ _ _ (by omega)]; exact hf3 j hj hjk, hL3.frame fun j hj => set_ne _ _ _ _ (by have := hkk j hj; omega), fun j hj => hkk j hj, .v (.slice none 0 0), .v (.slice none 0 0), by simp [h1, S, I], by simpa using Lst.nil, by simpa using Lst.nil, by simp, by simp, by simp⟩ ?_
   rintro i σ1 m4 n4 ⟨g8, g14, g101, g102, g103, le, an, aa, gmk, gm8, gfr, lp, kp, dN, dS, ga, lN, lS, kN, kS, kNS⟩
   by_cases hi : (i : Int) < qs.length
   ·have hi' : i < qs.length := by omega
    have wi : IntKind.i64.wrap ((i : Int) + 1) = (i : Int) + 1 := wrap_i64 (by omega) (by omega)
    have an4 : n3 ≠ n4 := by omega
    have n4a : n4 ≠ n3 := by omega
    rcases hlp : lp with ⟨he, _⟩ | ⟨kk, gg, es', hd11, hmk, hle, htk⟩
    ·have : qs = [] := by simpa using he
     subst this; simp at hi'
    have hgi : es'[i]? = some (partD qs[i]) := by
     have h1 : (es'.take (qs.map partD).length)[i]? = some (partD qs[i]) := by rw [htk]; simp [hi']
     rw [List.getElem?_take] at h1
     split at h1
     ·exact h1
     ·cases h1
    have hle' : i < es'.length := by simp at hle; omega
    have hgi' : es'[i] = partD qs[i] := get_opt hgi hle'
    rw [List.length_map] at hd11
    have hpd : partD qs[i] = S qs[i].1 :: tyD qs[i].2 := rfl
    simp -dsimp [-vc_block, g8, g14, g101, g102, g103, hd11, I, hi, hi', hmk, hgi', hle']
    rw [vc_block]
    simp -dsimp [-vc_block, g8, g14, g101, g102, g103, hd11, I, hi, hi', hmk, hgi', hle', hpd]
    refine vdraw_tree [0, 1, 0, 4, 12, 31, 0, 64, 0, 256, 768, 2047, 255, 8191, 16383, 32767] (.rd 0 (.rd 1 (.rd 2 (.rd 3 (.rd 6 (.rd 7 (.rd 8 (.rd 9 (.wr (.cons 4 (.wr (.cons 5 (.rd 12 (.wr (.cons 10 (.wr (.cons 11 (.wr (.cons 13 (.rd 14 (.wr (.cons 15 (.fin) (.nil)))) (.nil))) (.nil))) (.nil)))) (.cons 10 (.wr (.cons 5 (.rd 12 (.wr (.cons 11 (.wr (.cons 13 (.rd 14 (.wr (.cons 15 (.fin) (.nil)))) (.nil))) (.nil)))) (.nil))) (.nil)))) (.cons 10 (.wr (.cons 4 (.wr (.cons 5 (.rd 12 (.wr (.cons 11 (.wr (.cons 13 (.rd 14 (.wr (.cons 15 (.fin) (.nil)))) (.nil))) (.nil)))) (.nil))) (.nil))) (.nil)))))))))))) (by kernel_rfl) (by kernel_rfl) ?_
    have an5 : n3 ≠ n4 + 1 := by omega
    have n5a : n4 + 1 ≠ n3 := by omega
    have n54 : n4 + 1 ≠ n4 := by omega
    have n45 : n4 ≠ n4 + 1 := by omega
    have an6 : n3 ≠ n4 + 1 + 1 := by omega
    have n6a : n4 + 1 + 1 ≠ n3 := by omega
    have n64 : n4 + 1 + 1 ≠ n4 := by omega
    have n46 : n4 ≠ n4 + 1 + 1 := by omega
    have n56 : n4 + 1 ≠ n4 + 1 + 1 := by omega
    have n65 : n4 + 1 + 1 ≠ n4 + 1 := by omega
    clear hlp
    have out : ∀ (σ' : Nat → D) (m' : Mem) (n' : Nat) (d5 d6 : D), σ' 8 = .ptr n 0 0 0 → σ' 14 = .ptr n3 0 0 0 → σ' 101 = .own kk gg 0 qs.length 8 → σ' 102 = I qs.length → σ' 103 = I ((i : Int) + 1) → n4 ≤ n' →
      m' n3 = some ⟨7, [[I (knd g), S [], I 0, S [], S [], d5, d6]], 0⟩ → Lst m' 1 ((qs.take i).map (fun x => [S x.1]) ++ [[S qs[i].1]]) d5 → Lst m' 7 ((qs.take i).map (fun x => tyD x.2) ++ [tyD qs[i].2]) d6 →
      (∀ j, kof d5 = some j → n3 < j ∧ j < n' ∧ (kof dN = some j ∨ n4 ≤ j)) → (∀ j, kof d6 = some j → n3 < j ∧ j < n' ∧ (kof dS = some j ∨ n4 ≤ j)) → (∀ j, kof d5 = some j → kof d6 ≠ some j) →
      (∀ j, j ≠ n3 → j < n4 → kof dN ≠ some j → kof dS ≠ some j → m' j = m4 j) → ∃ b', qs.length - b' < qs.length - i ∧ OutInv g k m n (σ 11) (pObj l (headN l g r p).2) qs n3 b' σ' m' n' := by
     intro σ' m' n' d5 d6 b1 b2 b3 b4 b5 b6 b7 b8 b9 b10 b11 b12 b13
     have hN : ∀ j, j < n3 → kof dN ≠ some j := fun j hj e => by have := kN j e; omega
     have hS : ∀ j, j < n3 → kof dS ≠ some j := fun j hj e => by have := kS j e; omega
     refine ⟨i + 1, by omega, b1, b2, by rw [b3, hd11], b4, by rw [b5]; simp [I], by omega, an, by omega, by rw [b13 k (by omega) (by omega) (hN k (by omega)) (hS k (by omega))]; exact gmk,
      by rw [b13 n (by omega) (by omega) (hN n (by omega)) (hS n (by omega))]; exact gm8, fun j hj hjk => by rw [b13 j (by omega) (by omega) (hN j (by omega)) (hS j (by omega))]; exact gfr j hj hjk,
      lp.frame fun j hj => by have := kp j hj; exact b13 j (by omega) (by omega) (hN j (by omega)) (hS j (by omega)), kp, d5, d6, b7, ?_, ?_, fun j hj => ?_, fun j hj => ?_, b12⟩
     ·rw [List.take_succ_eq_append_getElem hi', List.map_append]; simpa using b8
     ·rw [List.take_succ_eq_append_getElem hi', List.map_append]; simpa using b9
     ·have := b10 j hj; omega
     ·have := b11 j hj; omega
    have lenN : ((qs.take i).map (fun x : Nm => [S x.1])).length ≤ 1000 := by simp; omega
    have lenS : ((qs.take i).map (fun x : Nm => tyD x.2)).length ≤ 1000 := by simp; omega
    have hqe : σ 11 = .own kk gg 0 qs.length 8 := hd11
    have hY7 : (tyD qs[i].2).length = 7 := tyD_len _
    generalize hEN : (qs.take i).map (fun x : Nm => [S x.1]) = EN at *
    generalize hES : (qs.take i).map (fun x : Nm => tyD x.2) = ES at *
    simp -dsimp [-vc_block, g8, g14, g101, g102, g103, ga, set_ne, an4, n4a, an5, n5a, n45, n54, an6, n6a, n64, n46, n56, n65]
    refine ⟨⟨?_, ?_⟩, ?_⟩
    ·refine b4_append (lN.frame fun j hj => ?_) (fun j hj => by have := kN j hj; omega) trivial trivial (by omega) (by simp; omega) ?_
     ·have := kN j hj; rw [set_ne _ _ _ _ (by omega), set_ne _ _ _ _ (by omega)]
     intro d5 m5 n5 p1 p2 p3 p4
     have q4 : ∀ j, j ≠ n4 → j < n4 → kof dN ≠ some j → m5 j = m4 j := fun j h1 h2 h3 => by rw [p4 j (by omega) h3, set_ne _ _ _ _ (by omega), set_ne _ _ _ _ h1]
     have e1 : m5 n3 = some ⟨7, [[I (knd g), S [], I 0, S [], S [], dN, dS]], 0⟩ := by rw [q4 n3 an4 (by omega) fun e => by have := kN n3 e; omega]; exact ga
     have e2 : m5 n4 = some ⟨8, [S qs[i].1 :: tyD qs[i].2], 0⟩ := by rw [p4 n4 (by omega) (fun e => by have := kN n4 e; omega), set_ne _ _ _ _ n45, set_same]
     have f1 : n5 ≠ n3 := by omega
     have f2 : n3 ≠ n5 := by omega
     have f3 : n5 ≠ n4 := by omega
     have f4 : n4 ≠ n5 := by omega
     have hd5 : ∀ j, kof d5 = some j → n3 < j ∧ j < n5 ∧ (kof dN = some j ∨ n4 ≤ j) := fun j hj => by
      have := p3 j hj
      rcases this.2 with e | e
      ·have h := kN j e; exact ⟨h.1, this.1, .inl e⟩
      ·exact ⟨by omega, this.1, .inr (by omega)⟩
     have hd5S : ∀ j, kof d5 = some j → kof dS ≠ some j := fun j hj => by
      rcases (hd5 j hj).2.2 with e | e
      ·exact kNS j e
      ·intro h; have := kS j h; omega
     simp -dsimp [-vc_block, g8, g14, g101, g102, g103, ga, set_ne, e1, e2, f1, f2, f3, f4, an4, n4a, an5, n5a, n45, n54, an6, n6a, n64, n46, n56, n65]
     refine b4_append (lS.frame fun j hj => ?_) (fun j hj => by have := kS j hj; omega) trivial trivial (by omega) (by simp; omega) ?_
     ·have := kS j hj; rw [set_ne _ _ _ _ (by omega)]; exact q4 j (by omega) (by omega) fun e => kNS j e hj
     intro d6 m6 n6 r1 r2 r3 r4
     have e3 : m6 n3 = some ⟨7, [[I (knd g), S [], I 0, S [], S [], dN, dS]], 0⟩ := by rw [r4 n3 (by omega) (fun e => by have := kS n3 e; omega), set_ne _ _ _ _ f2]; exact e1
     have e4 : m6 n4 = some ⟨8, [S qs[i].1 :: tyD qs[i].2], 0⟩ := by rw [r4 n4 (by omega) (fun e => by have := kS n4 e; omega), set_ne _ _ _ _ f4]; exact e2
     have hd6 : ∀ j, kof d6 = some j → n3 < j ∧ j < n6 ∧ (kof dS = some j ∨ n5 ≤ j ∨ j < n6 ∧ kof d5 ≠ some j ∧ n4 ≤ j) := fun j hj => by
      have := r3 j hj
      rcases this.2 with e | e
      ·have h := kS j e; exact ⟨h.1, this.1, .inl e⟩
      ·exact ⟨by omega, this.1, .inr (.inl (by omega))⟩
     have ok5 := okD_lst p1
     have ok6 := okD_lst r1
     simp -dsimp [-vc_block, g8, g14, g101, g102, g103, set_ne, ga, e1, e2, e3, e4, f1, f2, f3, f4, an4, n4a, an5, n5a, n45, n54, an6, n6a, n64, n46, n56, n65, ok5, ok6]
     refine out _ _ _ d5 d6 (by simp [g8]) (by simp [g14]) (by simp [g101, hd11]) (by simp [g102, I]) (by simp [wi, I]) (by omega) (by simp) ?_ ?_ (fun j hj => ?_) (fun j hj => ?_) (fun j hj e => ?_) fun j h1 h2 h3 h4 => ?_
     ·refine p1.frame fun j hj => ?_
      have h := hd5 j hj
      rw [set_ne _ _ _ _ (by omega), r4 j (by omega) (hd5S j hj), set_ne _ _ _ _ (by omega)]
     ·refine r1.frame fun j hj => ?_
      have h := hd6 j hj
      rw [set_ne _ _ _ _ (by omega)]
     ·have h := hd5 j hj; exact ⟨h.1, by omega, h.2.2⟩
     ·have h := r3 j hj
      rcases h.2 with e | e
      ·have h' := kS j e; exact ⟨h'.1, by omega, .inl e⟩
      ·exact ⟨by omega, by omega, .inr (by omega)⟩
     ·have h := r3 j e
      rcases h.2 with e' | e'
      ·exact hd5S j hj e'
      ·have h' := hd5 j hj; omega
     ·rw [set_ne _ _ _ _ h1, r4 j (by omega) h4, set_ne _ _ _ _ (by omega)]; exact q4 j (by omega) h2 h3
    ·refine b4_append (lN.frame fun j hj => ?_) (fun j hj => by have := kN j hj; omega) trivial trivial (by omega) (by simp; omega) ?_
     ·have := kN j hj; rw [set_ne _ _ _ _ (by omega), set_ne _ _ _ _ (by omega), set_ne _ _ _ _ (by omega)]
     intro d5 m5 n5 p1 p2 p3 p4
     have q4 : ∀ j, j ≠ n4 → j < n4 → kof dN ≠ some j → m5 j = m4 j := fun j h1 h2 h3 => by rw [p4 j (by omega) h3, set_ne _ _ _ _ (by omega), set_ne _ _ _ _ (by omega), set_ne _ _ _ _ h1]
     have e1 : m5 n3 = some ⟨7, [[I (knd g), S [], I 0, S [], S [], dN, dS]], 0⟩ := by rw [q4 n3 an4 (by omega) fun e => by have := kN n3 e; omega]; exact ga
     have e2 : m5 n4 = some ⟨8, [S qs[i].1 :: tyD qs[i].2], 0⟩ := by rw [p4 n4 (by omega) (fun e => by have := kN n4 e; omega), set_ne _ _ _ _ n46, set_ne _ _ _ _ n45, set_same]
     have e5 : m5 (n4 + 1 + 1) = some ⟨7, [tyD qs[i].2], 0⟩ := by rw [p4 (n4 + 1 + 1) (by omega) (fun e => by have := kN _ e; omega), set_same]
     have f1 : n5 ≠ n3 := by omega
     have f2 : n3 ≠ n5 := by omega
     have f3 : n5 ≠ n4 := by omega
     have f4 : n4 ≠ n5 := by omega
     have hd5 : ∀ j, kof d5 = some j → n3 < j ∧ j < n5 ∧ (kof dN = some j ∨ n4 ≤ j) := fun j hj => by
      have := p3 j hj
      rcases this.2 with e | e
      ·have h := kN j e; exact ⟨h.1, this.1, .inl e⟩
      ·exact ⟨by omega, this.1, .inr (by omega)⟩
     have hd5S : ∀ j, kof d5 = some j → kof dS ≠ some j := fun j hj => by
      rcases (hd5 j hj).2.2 with e | e
      ·exact kNS j e
      ·intro h; have := kS j h; omega
     simp -dsimp [-vc_block, g8, g14, g101, g102, g103, ga, set_ne, e1, e2, e5, f1, f2, f3, f4, an4, n4a, an5, n5a, n45, n54, an6, n6a, n64, n46, n56, n65]
     refine b4_append (lS.frame fun j hj => ?_) (fun j hj => by have := kS j hj; omega) trivial trivial (by omega) (by simp; omega) ?_
     ·have := kS j hj; exact q4 j (by omega) (by omega) fun e => kNS j e hj
     intro d6 m6 n6 r1 r2 r3 r4
     have e3 : m6 n3 = some ⟨7, [[I (knd g), S [], I 0, S [], S [], dN, dS]], 0⟩ := by rw [r4 n3 (by omega) fun e => by have := kS n3 e; omega]; exact e1
     have e4 : m6 n4 = some ⟨8, [S qs[i].1 :: tyD qs[i].2], 0⟩ := by rw [r4 n4 (by omega) fun e => by have := kS n4 e; omega]; exact e2
     have hd6 : ∀ j, kof d6 = some j → n3 < j ∧ j < n6 ∧ (kof dS = some j ∨ n5 ≤ j ∨ j < n6 ∧ kof d5 ≠ some j ∧ n4 ≤ j) := fun j hj => by
      have := r3 j hj
      rcases this.2 with e | e
      ·have h := kS j e; exact ⟨h.1, this.1, .inl e⟩
      ·exact ⟨by omega, this.1, .inr (.inl (by omega))⟩
     have ok5 := okD_lst p1
     have ok6 := okD_lst r1
     simp -dsimp [-vc_block, g8, g14, g101, g102, g103, set_ne, ga, e1, e2, e3, e4, f1, f2, f3, f4, an4, n4a, an5, n5a, n45, n54, an6, n6a, n64, n46, n56, n65, ok5, ok6]
     refine out _ _ _ d5 d6 (by simp [g8]) (by simp [g14]) (by simp [g101, hd11]) (by simp [g102, I]) (by simp [wi, I]) (by omega) (by simp) ?_ ?_ (fun j hj => ?_) (fun j hj => ?_) (fun j hj e => ?_) fun j h1 h2 h3 h4 => ?_
     ·refine p1.frame fun j hj => ?_
      have h := hd5 j hj
      rw [set_ne _ _ _ _ (by omega), r4 j (by omega) (hd5S j hj)]
     ·refine r1.frame fun j hj => ?_
      have h := hd6 j hj
      rw [set_ne _ _ _ _ (by omega)]
     ·have h := hd5 j hj; exact ⟨h.1, by omega, h.2.2⟩
     ·have h := r3 j hj
      rcases h.2 with e | e
      ·have h' := kS j e; exact ⟨h'.1, by omega, .inl e⟩
      ·exact ⟨by omega, by omega, .inr (by omega)⟩
     ·have h := r3 j e
      rcases h.2 with e' | e'
      ·exact hd5S j hj e'
      ·have h' := hd5 j hj; omega
     ·rw [set_ne _ _ _ _ h1, r4 j (by omega) h4]; exact q4 j (by omega) h2 h3
    ·refine b4_append (lN.frame fun j hj => ?_) (fun j hj => by have := kN j hj; omega) trivial trivial (by omega) (by simp; omega) ?_
     ·have := kN j hj; rw [set_ne _ _ _ _ (by omega), set_ne _ _ _ _ (by omega), set_ne _ _ _ _ (by omega)]
     intro d5 m5 n5 p1 p2 p3 p4
     have q4 : ∀ j, j ≠ n4 → j < n4 → kof dN ≠ some j → m5 j = m4 j := fun j h1 h2 h3 => by rw [p4 j (by omega) h3, set_ne _ _ _ _ (by omega), set_ne _ _ _ _ (by omega), set_ne _ _ _ _ h1]
     have e1 : m5 n3 = some ⟨7, [[I (knd g), S [], I 0, S [], S [], dN, dS]], 0⟩ := by rw [q4 n3 an4 (by omega) fun e => by have := kN n3 e; omega]; exact ga
     have e2 : m5 n4 = some ⟨8, [S qs[i].1 :: tyD qs[i].2], 0⟩ := by rw [p4 n4 (by omega) (fun e => by have := kN n4 e; omega), set_ne _ _ _ _ n46, set_ne _ _ _ _ n45, set_same]
     have e5 : m5 (n4 + 1) = some ⟨7, [tyD qs[i].2], 0⟩ := by rw [p4 (n4 + 1) (by omega) (fun e => by have := kN _ e; omega), set_ne _ _ _ _ n56, set_same]
     have f1 : n5 ≠ n3 := by omega
     have f2 : n3 ≠ n5 := by omega
     have f3 : n5 ≠ n4 := by omega
     have f4 : n4 ≠ n5 := by omega
     have hd5 : ∀ j, kof d5 = some j → n3 < j ∧ j < n5 ∧ (kof dN = some j ∨ n4 ≤ j) := fun j hj => by
      have := p3 j hj
      rcases this.2 with e | e
      ·have h := kN j e; exact ⟨h.1, this.1, .inl e⟩
      ·exact ⟨by omega, this.1, .inr (by omega)⟩
     have hd5S : ∀ j, kof d5 = some j → kof dS ≠ some j := fun j hj => by
      rcases (hd5 j hj).2.2 with e | e
      ·exact kNS j e
      ·intro h; have := kS j h; omega
     simp -dsimp [-vc_block, g8, g14, g101, g102, g103, ga, set_ne, e1, e2, e5, f1, f2, f3, f4, an4, n4a, an5, n5a, n45, n54, an6, n6a, n64, n46, n56, n65]
     refine b4_append (lS.frame fun j hj => ?_) (fun j hj => by have := kS j hj; omega) trivial trivial (by omega) (by simp; omega) ?_
     ·have := kS j hj; exact q4 j (by omega) (by omega) fun e => kNS j e hj
     intro d6 m6 n6 r1 r2 r3 r4
     have e3 : m6 n3 = some ⟨7, [[I (knd g), S [], I 0, S [], S [], dN, dS]], 0⟩ := by rw [r4 n3 (by omega) fun e => by have := kS n3 e; omega]; exact e1
     have e4 : m6 n4 = some ⟨8, [S qs[i].1 :: tyD qs[i].2], 0⟩ := by rw [r4 n4 (by omega) fun e => by have := kS n4 e; omega]; exact e2
     have hd6 : ∀ j, kof d6 = some j → n3 < j ∧ j < n6 ∧ (kof dS = some j ∨ n5 ≤ j ∨ j < n6 ∧ kof d5 ≠ some j ∧ n4 ≤ j) := fun j hj => by
      have := r3 j hj
      rcases this.2 with e | e
      ·have h := kS j e; exact ⟨h.1, this.1, .inl e⟩
      ·exact ⟨by omega, this.1, .inr (.inl (by omega))⟩
     have ok5 := okD_lst p1
     have ok6 := okD_lst r1
     simp -dsimp [-vc_block, g8, g14, g101, g102, g103, set_ne, ga, e1, e2, e3, e4, f1, f2, f3, f4, an4, n4a, an5, n5a, n45, n54, an6, n6a, n64, n46, n56, n65, ok5, ok6]
     refine out _ _ _ d5 d6 (by simp [g8]) (by simp [g14]) (by simp [g101, hd11]) (by simp [g102, I]) (by simp [wi, I]) (by omega) (by simp) ?_ ?_ (fun j hj => ?_) (fun j hj => ?_) (fun j hj e => ?_) fun j h1 h2 h3 h4 => ?_
     ·refine p1.frame fun j hj => ?_
      have h := hd5 j hj
      rw [set_ne _ _ _ _ (by omega), r4 j (by omega) (hd5S j hj)]
     ·refine r1.frame fun j hj => ?_
      have h := hd6 j hj
      rw [set_ne _ _ _ _ (by omega)]
     ·have h := hd5 j hj; exact ⟨h.1, by omega, h.2.2⟩
     ·have h := r3 j hj
      rcases h.2 with e | e
      ·have h' := kS j e; exact ⟨h'.1, by omega, .inl e⟩
      ·exact ⟨by omega, by omega, .inr (by omega)⟩
     ·have h := r3 j e
      rcases h.2 with e' | e'
      ·exact hd5S j hj e'
      ·have h' := hd5 j hj; omega
     ·rw [set_ne _ _ _ _ h1, r4 j (by omega) h4]; exact q4 j (by omega) h2 h3
   ·simp -dsimp [-vc_block, g8, g14, g101, g102, g103, I, hi]
    have hil : i = qs.length := by omega
    subst hil
    rw [List.take_length] at lN lS
    simp -dsimp [-vc_block, g8, g14, g101, g102, g103, I, hi, ga, gm8, okD_lst lN, okD_lst lS, S]
    refine ⟨by simp [zero7], hq ⟨qs, dN, dS, by simp [I, S], lN.frame fun j hj => set_ne _ _ _ _ (by have := kN j hj; omega), fun j hj => by have := kN j hj; omega, lS.frame fun j hj => set_ne _ _ _ _ (by have := kS j hj; omega), fun j hj => by have := kS j hj; omega, ?_, ?_, ?_⟩⟩
    ·rw [hfun]
     intro e
     have hps := has.2 e
     subst hps
     have hso : qs = sortF (headN l g r p).1 := sorted_uniq hnd hperm (sortF_spec _).1 hsort (sortF_spec _).2
     rw [hso]
     cases g <;> rfl
    ·rw [set_ne _ _ _ _ kn, gmk, hfun]
    ·intro j hj hjk
     rw [set_ne _ _ _ _ (by omega)]; exact gfr j hj hjk
 ·rintro d m' n' ⟨qs, dN, dS, rfl, h1, h2, h3, h3', h4, h5, h6⟩
  refine ⟨.agg (tyD (.mk (knd g) [] 0 [] [] (qs.map (·.1)) (qs.map (·.2)))), _, ?_, h5, .pur (pur_pObj _ _), h6, _, rfl, h4⟩
  simp only [tyD]
  have e1 : sl1 (qs.map (·.1)) = .sl 1 (qs.map fun x : Nm => [S x.1]) := by simp [sl1]
  have e2 : tysD (qs.map (·.2)) = qs.map fun x : Nm => tyD x.2 := by rw [tysD_eq, List.map_map]; rfl
  rw [e1, e2]
  refine .agg (.cons (pur_I _).pub (.cons (pur_S _).pub (.cons (pur_I _).pub (.cons (pur_S _).pub (.cons (pur_S _).pub (.cons (.lstP h1 h2 ?_) (.cons (.lstP h3 h3' ?_) .nil)))))))
  ·intro e he d hd
   obtain ⟨x, _, rfl⟩ := List.mem_map.1 he
   simp at hd; subst hd; exact pur_S _
  ·intro e he d hd
   obtain ⟨x, _, rfl⟩ := List.mem_map.1 he
   exact pur_ty _ d hd
end
end Go.Proofs.Mv.App
