/- A part of the proofs: machine, contracts, laws. No condition of its own. -/
import Derived.Test.YtihbegkefjjhpaaGreatDoorP02
import Derived.Test.YtihbegkefjjhpaaGreatDoorMvD
import Derived.Test.YtihbegkefjjhpaaGreatDoorP01
import Derived.Test.YtihbegkefjjhpaaGreatDoorMvPc
import Derived.Test.YtihbegkefjjhpaaGreatDoorMvC
set_option linter.unusedSimpArgs false
set_option linter.unusedVariables false
set_option linter.unusedSectionVars false
open Go Go.Proofs Go.Proofs.Mv.V
set_option maxRecDepth 10000
namespace Go.Proofs.Mv.App
variable [GI]
def headF (l : List Tok) (r : Nat) (p : PS) : List Ty × PS := if isSig [41] l p then ([], stepF p) else funF l (typF l r) 22 [] p
theorem funF_bad {l : List Tok} {rec : PS → Ty × PS} {k : Nat} {ts : List Ty} {p : PS} (h : p.bad ≠ 0) : funF l rec k ts p = (ts, p) := by
 cases k <;> simp [funF, h]
theorem subF_bad {l : List Tok} {r n : Nat} {p : PS} (h : p.bad ≠ 0) : subF l (typF l r) n p = (Ty0, p) := by
 simp [subF, begF_bad h, typF_bad h]
def As {α : Type} (xs' xs : List α) (p : PS) : Prop := xs'.length = xs.length ∧ (p.bad = 0 → xs' = xs)
theorem As.snoc {α : Type} {xs' xs : List α} {p q : PS} {x' x : α} (h : As xs' xs p) (hx : q.bad = 0 → x' = x) (hb : q.bad = 0 → p.bad = 0) : As (xs' ++ [x']) (xs ++ [x]) q :=
 ⟨by simp [h.1], fun e => by rw [h.2 (hb e), hx e]⟩
theorem As.step {α : Type} {xs' xs : List α} {p : PS} (h : As xs' xs p) : As xs' xs (stepF p) := ⟨h.1, h.2⟩
theorem As.then {α : Type} {xs' xs : List α} {p q : PS} (h : As xs' xs p) (hb : q.bad = 0 → p.bad = 0) : As xs' xs q := ⟨h.1, fun e => h.2 (hb e)⟩
theorem failF_keep {c : Nat} (hc : c ≠ 0) {p : PS} : (failF c p).bad ≠ 0 := by
 unfold failF; split
 ·exact hc
 ·assumption
theorem mustF_keep {l : List Tok} {s : List UInt8} {p : PS} (h : (mustF s l p).bad = 0) : p.bad = 0 := by
 cases e : p.bad with
 | zero => rfl
 | succ q => rw [mustF_bad (by omega)] at h; omega
theorem subF_keep {l : List Tok} {r n : Nat} {p : PS} (h : (subF l (typF l r) n p).2.bad = 0) : p.bad = 0 := by
 cases e : p.bad with
 | zero => rfl
 | succ q => rw [subF_bad (by omega)] at h; simp at h; omega
structure FunInv (l : List Tok) (r : Nat) (p0 : PS) (k : Nat) (m : Mem) (n n0 : Nat) (rem : Nat) (σ : Nat → D) (m2 : Mem) (n2 : Nat) : Prop where
 h0 : σ 0 = .ptr k 0 0 0
 h1 : σ 1 = I (32 - r)
 h4 : σ 4 = .ptr n 0 0 0
 nn : n + 1 ≤ n2
 m4 : m2 n = some ⟨7, [[I 0, S [], I 0, S [], S [], .v (.slice none 0 0), .v (.slice none 0 0)]], 0⟩
 fr : ∀ j, j < n → j ≠ k → m2 j = m j
 ex : ∃ ts ts' p, Lst m2 7 (ts'.map tyD) (σ 5) ∧ (∀ j, kof (σ 5) = some j → n + 1 ≤ j ∧ j < n2) ∧ m2 k = some (pObj l p) ∧ As ts' ts p ∧ ts.length + rem = 22 ∧ (20 < ts.length → p.bad ≠ 0) ∧
  (ts = [] → p = p0) ∧ (ts ≠ [] → headF l r p0 = funF l (typF l r) rem ts p)
structure FunMid (l : List Tok) (r : Nat) (p0 : PS) (k : Nat) (m : Mem) (n : Nat) (σ : Nat → D) (m2 : Mem) (n2 : Nat) : Prop where
 h0 : σ 0 = .ptr k 0 0 0
 h1 : σ 1 = I (32 - r)
 h4 : σ 4 = .ptr n 0 0 0
 nn : n + 1 ≤ n2
 m4 : m2 n = some ⟨7, [[I 0, S [], I 0, S [], S [], .v (.slice none 0 0), .v (.slice none 0 0)]], 0⟩
 fr : ∀ j, j < n → j ≠ k → m2 j = m j
 ex : ∃ ts', Lst m2 7 (ts'.map tyD) (σ 5) ∧ (∀ j, kof (σ 5) = some j → n + 1 ≤ j ∧ j < n2) ∧ m2 k = some (pObj l (headF l r p0).2) ∧ As ts' (headF l r p0).1 (headF l r p0).2 ∧ ts'.length ≤ 22
structure FunGo (k : Nat) (r n : Nat) (d5 : D) (m2 : Mem) (n2 : Nat) (C : Prop) (σ : Nat → D) (m' : Mem) (n' : Nat) : Prop where
 h0 : σ 0 = .ptr k 0 0 0
 h1 : σ 1 = I (32 - r)
 h4 : σ 4 = .ptr n 0 0 0
 h5 : σ 5 = d5
 mm : m' = m2
 nn : n' = n2
 cc : C
theorem typF_nob {l : List Tok} {r : Nat} {p : PS} (h : begF l p = false) : typF l r p = (Ty0, failF 2 p) := by
 cases r with
 | zero => simp [typF, h]
 | succ r =>
  simp only [typF]
  split
  ·rfl
  ·rename_i t ht
   have : begT t = false := by simpa [begF, ht] using h
   simp [this]
theorem subF_20 {l : List Tok} {r n : Nat} {p : PS} (h : 20 ≤ n) : (subF l (typF l r) n p).2.bad ≠ 0 := by
 unfold subF
 split
 ·exact failF_keep (by omega)
 ·rename_i hh
  have : begF l p = false := by simpa [h] using hh
  rw [typF_nob this]; exact failF_keep (by omega)
set_option maxHeartbeats 2000000 in
theorem cFunction {l : List Tok} (hl : TkOk l) {r : Nat} (hr : r ≤ 31) (H : TypC l r) {p : PS} {k : Nat} {m : Mem} {n : Nat} (hk : k < n) (hm : m k = some (pObj l p)) (hb0 : p.bad = 0) :
  ACalls Tryz.prog 210 [.ptr k 0 0 0, I (32 - r)] m n (TyR l k m n (funcF l (typF l r) p).1 (funcF l (typF l r) p).2) := by
 have kn : k ≠ n := by omega
 have nk : n ≠ k := by omega
 have hfun : funcF l (typF l r) p = (.mk 7 [] 0 [] [] [] ((headF l r p).1 ++ [(subF l (typF l r) (headF l r p).1.length (mustF [45, 62] l (headF l r p).2)).1]), (subF l (typF l r) (headF l r p).1.length (mustF [45, 62] l (headF l r p).2)).2) := rfl
 refine acalls_put (X := fun d => ∃ t', d = .agg (tyD t') ∧ ((funcF l (typF l r) p).2.bad = 0 → t' = (funcF l (typF l r) p).1)) (R' := Hq (fun d m' n' => ∃ ts' dl, d = .agg [I 7, S [], I 0, S [], S [], .v (.slice none 0 0), dl] ∧ Lst m' 7 (ts'.map tyD) dl ∧ (∀ j, kof dl = some j → n ≤ j) ∧
   ((funcF l (typF l r) p).2.bad = 0 → Ty.mk 7 [] 0 [] [] [] ts' = (funcF l (typF l r) p).1) ∧ m' k = some (pObj l (funcF l (typF l r) p).2) ∧ ∀ j, j < n → j ≠ k → m' j = m j) tg) k hk _ ?_ ?_
 ·refine acalls_vcC [0, 1, 4, 5, 20, 26] Tryz.func210 Tryz.ntmps210 (by kernel_rfl) rfl rfl (by simp) ?_
  simp -dsimp [-vc_block, I]
  refine vc_mid (FunMid l r p k m n) ?_ ?_
  ·rw [vc_block]
   simp -dsimp [-vc_block, I]
   refine vloop_of (β := Nat) (FunInv l r p k m n n) (fun b => b) 22 ⟨by simp, by simp [I], by simp, by omega, by simp [I, S], fun j hj hjk => set_ne _ _ _ _ (by omega), [], [], p, by simpa using Lst.nil, by simp, by rw [set_ne _ _ _ _ kn]; exact hm, ⟨rfl, fun _ => rfl⟩, by simp, by simp, fun _ => rfl, fun h => absurd rfl h⟩ ?_
   rintro rem σ m2 n2 ⟨h0, h1, h4, nn, m4, fr, ts, ts', q, hL, hkk, hpk, has, hrem, hbad, hfst, hrest⟩
   have hll := lenD_lst hL
   rw [List.length_map, has.1] at hll
   have hkn2 : k < n2 := by omega
   have done_ : ∀ (σ' : Nat → D) (m' : Mem) (n' : Nat) (us us' : List Ty) (q' : PS), σ' 0 = .ptr k 0 0 0 → σ' 1 = I (32 - r) → σ' 4 = .ptr n 0 0 0 → n + 1 ≤ n' → m' n = m2 n → (∀ j, j < n → j ≠ k → m' j = m j) →
     Lst m' 7 (us'.map tyD) (σ' 5) → (∀ j, kof (σ' 5) = some j → n + 1 ≤ j ∧ j < n') → m' k = some (pObj l q') → As us' us q' → us.length ≤ 22 → headF l r p = (us, q') → FunMid l r p k m n σ' m' n' := by
    intro σ' m' n' us us' q' a0 a1 a2 a3 a4 a5 a6 a7 a8 a9 a10 a11
    exact ⟨a0, a1, a2, a3, by rw [a4]; exact m4, a5, us', a6, a7, by rw [a11]; exact a8, by rw [a11]; exact a9, by rw [a9.1]; exact a10⟩
   by_cases hqb : q.bad = 0
   case neg =>
    have hq0 : ts ≠ [] := fun e => hqb (by rw [hfst e]; exact hb0)
    simp -dsimp [-vc_block, h0, h1, h4, hpk, pObj, pC, errD, hqb, spotE]
    refine done_ _ _ _ ts ts' q (by simp) (by simp) (by simp) nn rfl fr (by simpa using hL) (by simpa using hkk) (by simp [hpk, pObj, pC, errD]) has (by omega) ?_
    rw [hrest hq0, funF_bad hqb]
   have hts20 : ts.length ≤ 20 := by
    rcases Nat.lt_or_ge 20 ts.length with h | h
    ·exact absurd hqb (hbad h)
    ·exact h
   rw [vc_seq]
   refine vc_mid (FunGo k r n (σ 5) m2 n2 (ts = [] → isSig [41] l q = false)) ?_ ?_
   ·by_cases hts : ts = []
    ·have h0l : ts.length = 0 := by simp [hts]
     rw [h0l] at hll
     have hh : headF l r p = if isSig [41] l p then ([], stepF p) else funF l (typF l r) 22 [] p := rfl
     have hqp := hfst hts
     simp -dsimp [-vc_block, h0, h1, h4, hpk, pObj, pC, errD, hqb, nilE, hll]
     refine aCall_of (cSign hl [41] hkn2 hpk) ?_
     rintro d m3 n3 ⟨rfl, rfl, rfl⟩
     cases hs : isSig [41] l q
     ·simp -dsimp [Tt, hs]
      exact ⟨by simp [h0], by simp [h1], by simp [h4], by simp, set_self hpk, rfl, by simp [hs]⟩
     ·simp -dsimp [Tt, hs]
      have hT : ts' = [] := by rw [has.2 hqb, hts]
      refine done_ _ _ _ [] [] (stepF q) (by simp [h0]) (by simp [h1]) (by simp [h4]) nn (set_ne _ _ _ _ nk) (fun j hj hjk => by rw [set_ne _ _ _ _ hjk]; exact fr j hj hjk) ?_ (by simpa using hkk) (by simp) ⟨rfl, fun _ => rfl⟩ (by simp) ?_
      ·rw [hT] at hL
       have := hL.frame (m' := m2.set k (pObj l (stepF q))) fun j hj => set_ne _ _ _ _ (by have := hkk j hj; omega)
       simpa using this
      ·rw [hh, ← hqp, hs]; rfl
    ·have h0l : (0 : Int) < ts.length := by have := List.length_pos_iff.2 hts; omega
     have h0n : 0 < ts.length := List.length_pos_iff.2 hts
     simp -dsimp [-vc_block, h0, h1, h4, hpk, pObj, pC, errD, hqb, nilE, hll, h0l, h0n]
     exact ⟨by simp [h0], by simp [h1], by simp [h4], by simp, rfl, rfl, by simp [hts]⟩
   ·rintro σ1 m3 n3 ⟨g0, g1, g4, g5, rfl, rfl, hcc⟩
    obtain ⟨rem', rfl⟩ : ∃ rem', rem = rem' + 1 := ⟨rem - 1, by omega⟩
    have hrec : headF l r p = funF l (typF l r) (rem' + 1) ts q := by
     by_cases hts : ts = []
     ·have h22 : rem' + 1 = 22 := by simp [hts] at hrem; omega
      rw [h22, hts, hfst hts, headF, ← hfst hts, hcc hts]; simp [hfst hts]
     ·exact hrest hts
    simp only [funF, hqb, ne_eq, not_true_eq_false, if_false] at hrec
    rw [vc_block]
    simp -dsimp [-vc_block, g0, g1, g4, g5]
    have hT : ts' = ts := has.2 hqb
    subst hT
    refine aCall_of (cSub hl (by omega) H hkn2 hpk hL (by omega) fun j hj => by have := hkk j hj; omega) ?_
    intro d m4' n4 hR
    obtain ⟨⟨t', hL4, ht4⟩, hpk4, hnn4, hkk4, hfr4⟩ := hR
    generalize hq1 : subF l (typF l r) ts'.length q = q1 at hrec hpk4 ht4
    have hkk5 : ∀ j, kof d = some j → n + 1 ≤ j ∧ j < n4 ∧ j ≠ k := by
     intro j hj
     have := hkk4 j hj
     rcases this.2.2 with e | e
     ·have := hkk j e; omega
     ·omega
    have hk4 : k < n4 := by omega
    have hasn : As (ts' ++ [t']) (ts' ++ [q1.1]) q1.2 := ⟨by simp, fun e => by rw [ht4 e]⟩
    have hnm : m4' n = m3 n := hfr4 n (by omega) nk fun e => by have := hkk n e; omega
    have hfr5 : ∀ j, j < n → j ≠ k → m4' j = m j := fun j hj hjk => by rw [hfr4 j (by omega) hjk fun e => by have := hkk j e; omega]; exact fr j hj hjk
    simp -dsimp [-vc_block, g0, g1, g4, g5]
    refine aCall_of (cSign hl [41] hk4 hpk4) ?_
    rintro d5 m5 n5 ⟨rfl, rfl, rfl⟩
    cases hs : isSig [41] l q1.2
    ·simp -dsimp [Tt, hs, -vc_block, g0, g1, g4, g5]
     refine aCall_of (cMust hl [44] (p := q1.2) hk4 (by simp)) ?_
     rintro d6 m6 n6 ⟨rfl, rfl, rfl⟩
     simp -dsimp [-vc_block, g0, g1, g4, g5]
     refine ⟨rem', by omega, by simp [g0], by simp [g1], by simp [g4], by omega, by rw [set_ne _ _ _ _ nk, hnm]; exact m4, fun j hj hjk => by rw [set_ne _ _ _ _ hjk]; exact hfr5 j hj hjk, ts' ++ [q1.1], ts' ++ [t'], mustF [44] l q1.2, ?_, ?_, by simp, hasn.then mustF_keep, by simp; omega, fun h20 => ?_, by simp, fun _ => ?_⟩
     ·have := hL4.frame (m' := m4'.set k (pObj l (mustF [44] l q1.2))) fun j hj => set_ne _ _ _ _ (by have := hkk5 j hj; omega)
      simpa using this
     ·intro j hj
      have := hkk5 j (by simpa using hj); omega
     ·have h1 : q1.2.bad ≠ 0 := by rw [← hq1]; exact subF_20 (by simp at h20; omega)
      intro e; exact h1 (mustF_keep e)
     ·rw [hrec, hs]; simp
    ·simp -dsimp [Tt, hs, -vc_block, g0, g1, g4, g5]
     refine done_ _ _ _ (ts' ++ [q1.1]) (ts' ++ [t']) (stepF q1.2) (by simp [g0]) (by simp [g1]) (by simp [g4]) (by omega) (by rw [set_ne _ _ _ _ nk, hnm]) (fun j hj hjk => by rw [set_ne _ _ _ _ hjk]; exact hfr5 j hj hjk) ?_ ?_ (by simp) hasn.step (by simp; omega) ?_
     ·have := hL4.frame (m' := m4'.set k (pObj l (stepF q1.2))) fun j hj => set_ne _ _ _ _ (by have := hkk5 j hj; omega)
      simpa using this
     ·intro j hj
      have := hkk5 j (by simpa using hj); omega
     ·rw [hrec, hs]; simp
  ·rintro σ m2 n2 ⟨h0, h1, h4, nn, m4, fr, ts', hL, hkk, hpk, has, hlen⟩
   have hk2 : k < n2 := by omega
   simp -dsimp [h0, h1, h4]
   refine aCall_of (cMust hl [45, 62] hk2 hpk) ?_
   rintro d m3 n3 ⟨rfl, rfl, rfl⟩
   simp -dsimp [h0, h1, h4]
   refine aCall_of (cSub hl (by omega) H hk2 (p := mustF [45, 62] l (headF l r p).2) (by simp) (hL.frame fun j hj => set_ne _ _ _ _ (by have := hkk j hj; omega)) (by omega) fun j hj => by have := hkk j hj; omega) ?_
   intro d m4' n4 hR
   obtain ⟨⟨t', hL4, ht4⟩, hpk4, hnn4, hkk4, hfr4⟩ := hR
   have hn4 : m4' n = some ⟨7, [[I 0, S [], I 0, S [], S [], .v (.slice none 0 0), .v (.slice none 0 0)]], 0⟩ := by
    rw [hfr4 n (by omega) nk fun e => by have := hkk n e; omega, set_ne _ _ _ _ nk]; exact m4
   have hokd := okD_lst hL4
   simp -dsimp [hn4, hokd, S, I]
   refine hq ⟨ts' ++ [t'], d, by simp [I, S], ?_, ?_, ?_, ?_, ?_⟩
   ·exact hL4.frame fun j hj => set_ne _ _ _ _ (by
     have := hkk4 j hj
     rcases this.2.2 with e | e
     ·have := hkk j e; omega
     ·omega)
   ·intro j hj
    have := hkk4 j hj
    rcases this.2.2 with e | e
    ·have := hkk j e; omega
    ·omega
   ·rw [hfun, has.1] at *
    intro e
    rw [ht4 e, has.2 (mustF_keep (subF_keep e))]
   ·rw [set_ne _ _ _ _ kn, hpk4, hfun, has.1]
   ·intro j hj hjk
    rw [set_ne _ _ _ _ (by omega), hfr4 j (by omega) hjk fun e => by have := hkk j e; omega, set_ne _ _ _ _ hjk]
    exact fr j hj hjk
 ·rintro d m' n' ⟨ts', dl, rfl, h1, h2, h3, h4, h5⟩
  refine ⟨.agg (tyD (.mk 7 [] 0 [] [] [] ts')), _, ?_, h4, .pur (pur_pObj _ _), h5, _, rfl, h3⟩
  simp only [tyD]
  exact .agg (.cons (pur_I _).pub (.cons (pur_S _).pub (.cons (pur_I _).pub (.cons (pur_S _).pub (.cons (pur_S _).pub (.cons (pub_nil 1) (.cons (by rw [tysD_eq]; exact .lstP h1 h2 (pur_tym ts')) .nil)))))))
end Go.Proofs.Mv.App
open Go Go.Proofs Go.Proofs.Mv.V Go.RowKit
set_option maxRecDepth 10000
namespace Go.Proofs.Mv.App
section
variable [GI]
def partD (x : Nm) : List D := S x.1 :: tyD x.2
@[simp] theorem partD_len (x : Nm) : (partD x).length = 8 := by simp [partD]
@[simp] theorem partD_take (x : Nm) : (partD x).take 8 = partD x := List.take_of_length_le (by simp)
def hasD (q : Nat) : D := .func (.func 236) [] [.ptr q 0 0 0]
theorem cHas (x : Nm) {q : Nat} {kd a : Int} {tx : List UInt8} {m : Mem} {n : Nat} (hq' : q < n) (hm : m q = some ⟨3, [[I kd, I a, S tx]], 0⟩) :
  ACalls Tryz.prog 236 [.agg (partD x), .ptr q 0 0 0] m n (fun d m' n' => d = Tt (x.1 == tx) ∧ m' = m ∧ n' = n) := by
 have qn : q ≠ n := by omega
 have nq : n ≠ q := by omega
 refine acalls_done (R' := Hq (fun d m' n' => d = Tt (x.1 == tx) ∧ ∀ j, j < n → m' j = m j) tg) ?_ ?_
 ·refine acalls_vc [0, 1, 2, 3] Tryz.func236 Tryz.ntmps236 (by kernel_rfl) rfl rfl (by simp) ?_
  simp -dsimp [partD, hm, set_ne, qn, nq, S, I]
  exact hq ⟨by simp [Tt], fun j hj => set_ne _ _ _ _ (by omega)⟩
 ·rintro d m' n' ⟨rfl, h⟩
  exact ⟨_, (pur_T _).pub, h, rfl⟩
structure FindInv (ps : List Nm) (tx : List UInt8) (dl : D) (q : Nat) (m : Mem) (n : Nat) (i : Nat) (σ : Nat → D) (m2 : Mem) (n2 : Nat) : Prop where
 h0 : σ 0 = dl
 h1 : σ 1 = hasD q
 h7 : σ 7 = I ps.length
 h8 : σ 8 = I i
 le : i ≤ ps.length
 al : ∀ x ∈ ps.take i, ¬ x.1 = tx
 mm : m2 = m
 nn : n2 = n
theorem cFind {ps : List Nm} {dl : D} {q : Nat} {kd a : Int} {tx : List UInt8} {m : Mem} {n : Nat} (hL : Lst m 8 (ps.map partD) dl) (hlen : ps.length ≤ 1000) (hq' : q < n) (hm : m q = some ⟨3, [[I kd, I a, S tx]], 0⟩) :
  ACalls Tryz.prog 250 [dl, hasD q] m n (Hq (fun d m' n' => ∃ r : Int, d = I r ∧ (0 ≤ r ↔ tx ∈ ps.map (·.1)) ∧ m' = m ∧ n' = n) tg) := by
 have hll := lenD_lst hL
 rw [List.length_map] at hll
 refine acalls_vc [0, 1, 4, 5, 7, 8, 9, 16] Tryz.func250 Tryz.ntmps250 (by kernel_rfl) rfl rfl (by simp) ?_
 simp -dsimp [hll, hasD]
 refine vloop_of (β := Nat) (FindInv ps tx dl q m n) (fun i => ps.length - i) 0 ⟨by simp, by simp [hasD], by simp [I], by simp [I], by omega, by simp, rfl, rfl⟩ ?_
 rintro i σ m2 n2 ⟨h0, h1, h7, h8, le, al, rfl, rfl⟩
 by_cases hi : (i : Int) < ps.length
 ·have hi' : i < ps.length := by omega
  have wi : IntKind.i64.wrap ((i : Int) + 1) = (i : Int) + 1 := wrap_i64 (by omega) (by omega)
  rcases hL with ⟨he, _⟩ | ⟨kk, gg, es', rfl, hmk, hle, htk⟩
  ·have : ps = [] := by simpa using he
   subst this; simp at hi'
  have hgi : es'[i]? = some (partD ps[i]) := by
   have h1 : (es'.take (ps.map partD).length)[i]? = some (partD ps[i]) := by rw [htk]; simp [hi']
   rw [List.getElem?_take] at h1
   split at h1
   ·exact h1
   ·cases h1
  have hle' : i < es'.length := by simp at hle; omega
  have hgi' : es'[i] = partD ps[i] := get_opt hgi hle'
  simp -dsimp [h0, h1, h7, h8, I, hi, hi', hasD, hmk, hgi', hle']
  refine aCall_of (cHas ps[i] hq' hm) ?_
  rintro d m' n' ⟨rfl, rfl, rfl⟩
  by_cases e : ps[i].1 = tx
  ·have e' : (ps[i].1 == tx) = true := by simp [e]
   simp -dsimp [Tt, e', h0, h1, h7, h8, I]
   exact hq ⟨i, rfl, by simp; exact ⟨ps[i].2, by rw [← e]; exact List.getElem_mem hi'⟩, rfl, rfl⟩
  ·have e' : (ps[i].1 == tx) = false := by simp [e]
   simp -dsimp [Tt, e', h0, h1, h7, h8, I, wi]
   refine ⟨i + 1, by omega, by simp, by simp [hasD], by simp [I], by simp [I], by omega, ?_, rfl, rfl⟩
   intro x hx
   rw [List.take_succ_eq_append_getElem hi'] at hx
   rcases List.mem_append.1 hx with hx | hx
   ·exact al x hx
   ·simp at hx; rw [hx]; exact e
 ·simp -dsimp [h0, h1, h7, h8, I, hi]
  have : i = ps.length := by omega
  subst this
  rw [List.take_length] at al
  refine hq ⟨-1, rfl, ?_, rfl, rfl⟩
  simp only [List.mem_map, not_exists]
  constructor
  ·intro h; omega
  ·rintro ⟨x, hx, e⟩; exact absurd e (al x hx)
theorem cContains {ps : List Nm} {dl : D} {q : Nat} {kd a : Int} {tx : List UInt8} {m : Mem} {n : Nat} (hL : Lst m 8 (ps.map partD) dl) (hlen : ps.length ≤ 1000) (hq' : q < n) (hm : m q = some ⟨3, [[I kd, I a, S tx]], 0⟩) :
  ACalls Tryz.prog 237 [dl, hasD q] m n (fun d m' n' => d = Tt (decide (tx ∈ ps.map (·.1))) ∧ m' = m ∧ n' = n) := by
 refine acalls_vc [0, 1, 4] Tryz.func237 Tryz.ntmps237 (by kernel_rfl) rfl rfl (by simp) ?_
 simp -dsimp
 refine aCall_of (cFind hL hlen hq' hm) ?_
 rintro d m' n' ⟨r, rfl, hr, rfl, rfl⟩
 by_cases h : tx ∈ ps.map (·.1)
 ·have : 0 ≤ r := hr.2 h
  simp -dsimp [I, Tt, this, h]
 ·have : ¬ 0 ≤ r := fun e => h (hr.1 e)
  simp -dsimp [I, Tt, this, h]
end
end Go.Proofs.Mv.App
open Go Go.Proofs Go.Proofs.Mv.V
set_option maxRecDepth 10000
namespace Go.Proofs.Mv.App
theorem toks_ok : ∀ (k : Nat) (s : List UInt8) (a : Nat), (tokF k s a).1.length ≤ s.length ∧ ∀ t ∈ (tokF k s a).1, t.text.length ≤ s.length := by
 intro k
 induction k with
 | zero => intro s a; simp [tokF]
 | succ k ih =>
  intro s a
  match s with
  | [] => simp [tokF]
  | x :: r =>
   have drop : ∀ q b, ((tokF k ((x :: r).drop q) b).1.length ≤ (x :: r).length - q) ∧ ∀ t ∈ (tokF k ((x :: r).drop q) b).1, t.text.length ≤ (x :: r).length - q := by
    intro q b
    have := ih ((x :: r).drop q) b
    rw [List.length_drop] at this
    exact this
   simp only [tokF]
   split
   ·have := ih r (a + 1)
    simp only [List.length_cons]
    exact ⟨by omega, fun t ht => by have := this.2 t ht; omega⟩
   ·split
    ·have := drop (runN (fun y => !decide (y.toNat = 10)) (x :: r)) (a + runN (fun y => !decide (y.toNat = 10)) (x :: r))
     exact ⟨by omega, fun t ht => by have := this.2 t ht; omega⟩
    ·split
     ·simp
     ·rename_i hf
      have := drop (firstT (x :: r)).2 (a + (firstT (x :: r)).2)
      have hl := firstT_le x r
      refine ⟨by simp only [List.length_cons] at this ⊢; omega, fun t ht => ?_⟩
      rcases List.mem_cons.1 ht with rfl | ht
      ·simp only [List.length_take]; omega
      ·have := this.2 t ht; omega
theorem toks_tk {s : List UInt8} (h : s.length ≤ 1000000) : TkOk (toksAt s 0).1 :=
 ⟨by have := (toks_ok (s.length + 1) s 0).1; unfold toksAt; omega, fun t ht => by have := (toks_ok (s.length + 1) s 0).2 t (by simpa [toksAt] using ht); omega⟩
end Go.Proofs.Mv.App
open Go Go.Proofs Go.Proofs.Mv.V
set_option maxRecDepth 10000
namespace Go.Proofs.Mv.App
section
variable [GI]
def zero7 : List D := [I 0, S [], I 0, S [], S [], .v (.slice none 0 0), .v (.slice none 0 0)]
def endS (g : Bool) : List UInt8 := if g then [93] else [125]
def knd (g : Bool) : Int := if g then 6 else 5
def headN (l : List Tok) (g : Bool) (r : Nat) (p : PS) : List Nm × PS := if g = false ∧ isSig [125] l p = true then ([], stepF p) else namedF l g (endS g) (typF l r) 22 [] p
theorem namedF_bad {l : List Tok} {g : Bool} {en : List UInt8} {rec : PS → Ty × PS} {k : Nat} {ts : List Nm} {p : PS} (h : p.bad ≠ 0) : namedF l g en rec k ts p = (ts, p) := by
 cases k <;> simp [namedF, h]
def swF (l : List Tok) (g : Bool) (ps : List Nm) (p : PS) : PS :=
 if isNam g l p = false then failF 2 p else if 20 ≤ ps.length then failF 3 p else if curT l p ∈ ps.map (·.1) then failF 5 p else p
theorem namedF_sw {l : List Tok} {g : Bool} {en : List UInt8} {rec : PS → Ty × PS} {k : Nat} {ps : List Nm} {p : PS} (h : p.bad = 0) (hs : (swF l g ps p).bad ≠ 0) : namedF l g en rec (k + 1) ps p = (ps, swF l g ps p) := by
 unfold swF at hs ⊢
 simp only [namedF]
 rw [if_neg (by simp [h])]
 split
 ·rfl
 ·split
  ·rfl
  ·split
   ·rfl
   ·rename_i h1 h2 h3; rw [if_neg h1, if_neg h2, if_neg h3] at hs; exact absurd h hs
theorem namedF_go {l : List Tok} {g : Bool} {en : List UInt8} {rec : PS → Ty × PS} {k : Nat} {ps : List Nm} {p : PS} (h : p.bad = 0) (hs : (swF l g ps p).bad = 0) : isNam g l p = true ∧ ps.length < 20 ∧ curT l p ∉ ps.map (·.1) ∧ swF l g ps p = p ∧
  namedF l g en rec (k + 1) ps p = (if isSig en l (rec (mustF [58] l (stepF p))).2 then (ps ++ [(curT l p, (rec (mustF [58] l (stepF p))).1)], stepF (rec (mustF [58] l (stepF p))).2)
   else namedF l g en rec k (ps ++ [(curT l p, (rec (mustF [58] l (stepF p))).1)]) (mustF [44] l (rec (mustF [58] l (stepF p))).2)) := by
 unfold swF at hs ⊢
 split at hs
 ·exact absurd hs (failF_keep (by omega))
 ·rename_i h1
  split at hs
  ·exact absurd hs (failF_keep (by omega))
  ·rename_i h2
   split at hs
   ·exact absurd hs (failF_keep (by omega))
   ·rename_i h3
    refine ⟨by simpa using h1, by omega, h3, by rw [if_neg h1, if_neg h2, if_neg h3], ?_⟩
    simp only [namedF]
    rw [if_neg (by simp [h]), if_neg h1, if_neg h2, if_neg h3]
end
section
variable [GI]
theorem pub_build {n : Nat} {m : Mem} (kd : Int) (a : List UInt8) (b : Int) (c d : List UInt8) : PubAs n m (.agg [I kd, S a, I b, S c, S d, .v (.slice none 0 0), .v (.slice none 0 0)]) (.agg (tyD (.mk kd a b c d [] []))) := by
 simp only [tyD, tysD]
 exact .agg (.cons (pur_I _).pub (.cons (pur_S _).pub (.cons (pur_I _).pub (.cons (pur_S _).pub (.cons (pur_S _).pub (.cons (pub_nil 1) (.cons (pub_nil 7) .nil)))))))
def TyQ (l : List Tok) (k : Nat) (m : Mem) (n : Nat) (t : Ty) (q : PS) : D → Mem → Nat → Prop :=
 Hq (fun d m' n' => ∃ t', PubAs n m' d (.agg (tyD t')) ∧ (q.bad = 0 → t' = t) ∧ m' k = some (pObj l q) ∧ ∀ j, j < n → j ≠ k → m' j = m j) tg
theorem acalls_ty {f : FuncId} {args : List D} {l : List Tok} {k : Nat} {m : Mem} {n : Nat} {t : Ty} {q : PS} (hk : k < n) (h : ACalls Tryz.prog f args m n (TyQ l k m n t q)) : ACalls Tryz.prog f args m n (TyR l k m n t q) := by
 refine acalls_put (X := fun d => ∃ t', d = .agg (tyD t') ∧ (q.bad = 0 → t' = t)) k hk _ h ?_
 rintro d m' n' ⟨t', h1, h2, h3, h4⟩
 exact ⟨.agg (tyD t'), _, h1, h3, .pur (pur_pObj _ _), h4, t', rfl, h2⟩
theorem tyq {l : List Tok} {k : Nat} {m : Mem} {n : Nat} {t : Ty} {q : PS} {d : D} {m' : Mem} {n' : Nat} (t' : Ty) (h1 : PubAs n m' d (.agg (tyD t'))) (h2 : q.bad = 0 → t' = t) (h3 : m' k = some (pObj l q)) (h4 : ∀ j, j < n → j ≠ k → m' j = m j) : TyQ l k m n t q d m' n' := ⟨t', h1, h2, h3, h4⟩
theorem typF_step {l : List Tok} {r : Nat} {p : PS} {t : Tok} (hc : cur l p = some t) (hb : begT t = true) (hn : p.cnt < 500) : typF l (r + 1) p = bodyF l t (typF l r) ⟨p.at_ + 1, p.cnt + 1, p.bad⟩ := by
 simp only [typF, hc]
 rw [if_neg (by simp [hb]), if_neg (by omega)]
theorem typF_large {l : List Tok} {r : Nat} {p : PS} (hb : begF l p = true) (h : r = 0 ∨ 500 ≤ p.cnt) : typF l r p = (Ty0, failF 3 p) := by
 cases r with
 | zero => simp [typF, hb]
 | succ r =>
  have hn : 500 ≤ p.cnt := by omega
  simp only [typF]
  split
  ·rename_i h; simp [begF, h] at hb
  ·rename_i t ht
   have : begT t = true := by simpa [begF, ht] using hb
   simp [this, hn]
theorem cnt_obj {l : List Tok} {p : PS} (hb : p.bad = 0) : (⟨4, [[toksD l, .v (.int .i64 ((p.at_ : Int) + 1)), .v (.int .i64 ((p.cnt : Int) + 1)), .v .nilIface]], 0⟩ : V.Obj) = pObj l ⟨p.at_ + 1, p.cnt + 1, p.bad⟩ := by
 simp [pObj, pC, errD, hb, I, nilE]
end
@[simp] theorem okD_toks [GI] (l : List Tok) : okD (toksD l) = true := rfl
@[simp] theorem cellsOf_toks [GI] (l : List Tok) : cellsOf (toksD l) = [toksD l] := rfl
@[simp] theorem okD_errO' [GI] (a c : Int) : okD (spotE a c) = true := rfl
@[simp] theorem cellsOf_spotE [GI] (a c : Int) : cellsOf (spotE a c) = [spotE a c] := rfl
def atF (l : List Tok) (i : Int) : Ty × Nat × Option (Int × Nat) :=
 if i < 0 ∨ (l.length : Int) < i then (Ty0, 0, some (i, 2))
 else if (typF l 32 ⟨i.toNat, 0, 0⟩).2.bad ≠ 0 then (Ty0, 0, some ((typF l 32 ⟨i.toNat, 0, 0⟩).2.at_, (typF l 32 ⟨i.toNat, 0, 0⟩).2.bad))
 else ((typF l 32 ⟨i.toNat, 0, 0⟩).1, (typF l 32 ⟨i.toNat, 0, 0⟩).2.at_, none)
def errO [GI] : Option (Int × Nat) → D
 | none => nilE
 | some (a, c) => spotE a c
theorem pur_errO [GI] (o : Option (Int × Nat)) : Pur (errO o) := by
 cases o with
 | none => exact pur_nilE
 | some x => exact pur_spotE _ _
theorem pub_ty0 [GI] {n : Nat} {m : Mem} : PubAs n m (.agg [I 0, S [], I 0, S [], S [], .v (.slice none 0 0), .v (.slice none 0 0)]) (.agg (tyD Ty0)) := pub_build 0 [] 0 [] []
inductive PErr where
 | none
 | large
 | spot (a : Int) (c : Nat)
end Go.Proofs.Mv.App
open Go Go.Proofs Go.Proofs.Mv.V
set_option maxRecDepth 10000
namespace Go.Proofs.Mv.App
def failS (c : Nat) (p : PS) : PS := if p.bad = 0 then ⟨p.at_, p.at_, c⟩ else p
theorem failS_bad {c : Nat} {p : PS} (h : ¬ p.bad = 0) : failS c p = p := by simp [failS, h]
def errS (p : PS) : D := if p.bad = 0 then nilE else spotE p.cnt p.bad
theorem pur_errS (p : PS) : Pur (errS p) := by
 unfold errS; split
 ·exact pur_nilE
 ·exact pur_spotE _ _
def takeF (fine : Bool) (l : List Tok) (p : PS) : List UInt8 × PS := if fine then (curT l p, stepF p) else ([], failS 2 p)
def typS (l : List Tok) (p : PS) : Ty × PS :=
 if p.bad = 0 then match (atF l p.at_).2.2 with
  | some (a, c) => (Ty0, ⟨0, a.toNat, c⟩)
  | none => ((atF l p.at_).1, ⟨(atF l p.at_).2.1, p.cnt, 0⟩)
 else (Ty0, p)
theorem atF_nn {l : List Tok} {q : Nat} {a : Int} {c : Nat} (h : (atF l (q : Int)).2.2 = some (a, c)) : 0 ≤ a := by
 unfold atF at h
 split at h
 ·simp at h; omega
 ·split at h
  ·simp at h; omega
  ·cases h
theorem takeF_ok {f : Bool} {l : List Tok} {p : PS} (h : (takeF f l p).2.bad = 0) : f = true ∧ p.bad = 0 := by
 cases f with
 | true => exact ⟨rfl, by simpa [takeF, stepF] using h⟩
 | false =>
  simp only [takeF, failS, Bool.false_eq_true, if_false] at h
  split at h
  ·simp at h
  ·rename_i h1; exact absurd h h1
theorem typS_ok {l : List Tok} {p : PS} (h : (typS l p).2.bad = 0) : p.bad = 0 := by
 by_cases hb : p.bad = 0
 ·exact hb
 ·rw [typS, if_neg hb] at h; exact h
structure Imp where
 pkg : List UInt8
 major : Int
 mod : List UInt8
 as_ : List UInt8
def impD (i : Imp) : List D := [S i.pkg, I i.major, S i.mod, S i.as_]
end Go.Proofs.Mv.App
open Go Go.Proofs Go.Proofs.Mv.V
set_option maxRecDepth 10000
namespace Go.Proofs.Mv.App
def kF (kd : Int) (ok : List UInt8 → Bool) (l : List Tok) (p : PS) : Bool := match cur l p with
 | some t => decide (t.kind = kd) && ok t.text
 | none => false
theorem pk_kF {l : List Tok} {p : PS} {kd a : Int} {tx : List UInt8} (hp : Pk l p kd a tx) {k : Int} (hk : k ≠ 0) (ok : List UInt8 → Bool) : kF k ok l p = (decide (kd = k) && ok tx) := by
 rcases hp.cu with ⟨h, rfl⟩ | h
 ·have : ¬ (0 : Int) = k := fun e => hk e.symm
  simp [kF, h, this]
 ·simp [kF, h]
structure Ln where
 kind : Int
 mod : List UInt8
 name : List UInt8
 typ : Ty
def lnD (x : Ln) : List D := I x.kind :: S x.mod :: S x.name :: tyD x.typ
@[simp] theorem lnD_len (x : Ln) : (lnD x).length = 10 := by simp [lnD, tyD_len]
structure Us where
 imps : List Imp
 lines : List Ln
end Go.Proofs.Mv.App
open Go Go.Proofs Go.Proofs.Mv.V
namespace Go.Proofs.Mv.App
namespace Ty
@[reducible] def kind : Ty → Int | .mk k _ _ _ _ _ _ => k
@[reducible] def pkg : Ty → List UInt8 | .mk _ p _ _ _ _ _ => p
@[reducible] def major : Ty → Int | .mk _ _ j _ _ _ _ => j
@[reducible] def mod : Ty → List UInt8 | .mk _ _ _ m _ _ _ => m
@[reducible] def name : Ty → List UInt8 | .mk _ _ _ _ n _ _ => n
@[reducible] def names : Ty → List (List UInt8) | .mk _ _ _ _ _ l _ => l
@[reducible] def subs : Ty → List Ty | .mk _ _ _ _ _ _ l => l
end Ty
mutual
def manyT : Ty → Nat
 | .mk _ _ _ _ _ _ subs => 1 + manyTs subs
def manyTs : List Ty → Nat
 | [] => 0
 | t :: ts => manyT t + manyTs ts
end
mutual
def deepT : Ty → Nat
 | .mk _ _ _ _ _ _ subs => deepTs subs + 1
def deepTs : List Ty → Nat
 | [] => 0
 | t :: ts => max (deepT t) (deepTs ts)
end
mutual
def fewT : Ty → Int → Int
 | .mk _ _ _ _ _ names subs, most => if most - 1 < 0 ∨ 200 < names.length then -1 else fewTs subs (most - 1)
def fewTs : List Ty → Int → Int
 | [], most => most
 | t :: ts, most => if 0 ≤ most then fewTs ts (fewT t most) else most
end
theorem manyTs_eq : ∀ l : List Ty, manyTs l = (l.map manyT).sum
 | [] => by simp [manyTs]
 | t :: ts => by simp [manyTs, manyTs_eq ts]
theorem manyT_eq (t : Ty) : manyT t = 1 + (t.subs.map manyT).sum := by cases t; simp [manyT, manyTs_eq, Ty.subs]
theorem manyT_pos (t : Ty) : 1 ≤ manyT t := by rw [manyT_eq]; omega
theorem deepT_eq (t : Ty) : deepT t = deepTs t.subs + 1 := by cases t; simp [deepT, Ty.subs]
theorem deepTs_append : ∀ (l r : List Ty), deepTs (l ++ r) = max (deepTs l) (deepTs r)
 | [], r => by simp [deepTs]
 | t :: ts, r => by simp only [List.cons_append, deepTs, deepTs_append ts r]; omega
theorem manyTs_append : ∀ (l r : List Ty), manyTs (l ++ r) = manyTs l + manyTs r
 | [], r => by simp [manyTs]
 | t :: ts, r => by simp only [List.cons_append, manyTs, manyTs_append ts r]; omega
mutual
def sameT : Ty → Ty → Bool
 | .mk k p j m n ns ts, .mk k' p' j' m' n' ns' ts' => decide (k = k') && decide (p = p') && decide (j = j') && decide (m = m') && decide (n = n') && decide (ns = ns') && sameTs ts ts'
def sameTs : List Ty → List Ty → Bool
 | [], [] => true
 | t :: ts, u :: us => sameT t u && sameTs ts us
 | [], _ :: _ => false
 | _ :: _, [] => false
end
mutual
theorem sameT_iff : ∀ (t u : Ty), sameT t u = true ↔ t = u
 | .mk k p j m n ns ts, .mk k' p' j' m' n' ns' ts' => by
  simp only [sameT, Bool.and_eq_true, decide_eq_true_eq, sameTs_iff ts ts', Ty.mk.injEq]
  constructor
  ·rintro ⟨⟨⟨⟨⟨⟨h1, h2⟩, h3⟩, h4⟩, h5⟩, h6⟩, h7⟩; exact ⟨h1, h2, h3, h4, h5, h6, h7⟩
  ·rintro ⟨h1, h2, h3, h4, h5, h6, h7⟩; exact ⟨⟨⟨⟨⟨⟨h1, h2⟩, h3⟩, h4⟩, h5⟩, h6⟩, h7⟩
theorem sameTs_iff : ∀ (t u : List Ty), sameTs t u = true ↔ t = u
 | [], [] => by simp [sameTs]
 | t :: ts, u :: us => by simp only [sameTs, Bool.and_eq_true, sameT_iff t u, sameTs_iff ts us, List.cons.injEq]
 | [], _ :: _ => by simp [sameTs]
 | _ :: _, [] => by simp [sameTs]
end
instance : DecidableEq Ty := fun a b => decidable_of_iff (sameT a b = true) (sameT_iff a b)
inductive TyW : Ty → Prop where
 | mk (kind : Int) (pkg : List UInt8) (major : Int) (mod name : List UInt8) (names : List (List UInt8)) (subs : List Ty) (h1 : names.length ≤ 9223372036854775807) (h2 : subs.length ≤ 9223372036854775807)
   (h3 : pkg.length ≤ 9223372036854775807) (h4 : mod.length ≤ 9223372036854775807) (h5 : name.length ≤ 9223372036854775807) (h6 : ∀ s ∈ names, s.length ≤ 9223372036854775807) (h7 : ∀ t ∈ subs, TyW t) : TyW (.mk kind pkg major mod name names subs)
/-! few -/
theorem fewTs_neg : ∀ (l : List Ty) (m : Int), m < 0 → fewTs l m = m
 | [], m, _ => by simp [fewTs]
 | t :: ts, m, h => by simp only [fewTs]; rw [if_neg (by omega)]
mutual
theorem fewT_le : ∀ (t : Ty) (m : Int), -1 ≤ m → -1 ≤ fewT t m ∧ fewT t m ≤ max (m - 1) (-1)
 | .mk _ _ _ _ _ names subs, m, h => by
  simp only [fewT]
  split
  ·omega
  ·rename_i e
   have := fewTs_le subs (m - 1) (by omega); omega
theorem fewTs_le : ∀ (l : List Ty) (m : Int), -1 ≤ m → -1 ≤ fewTs l m ∧ fewTs l m ≤ m
 | [], m, h => by simp [fewTs]; exact h
 | t :: ts, m, h => by
  simp only [fewTs]
  split
  ·have h1 := fewT_le t m h
   have h2 := fewTs_le ts (fewT t m) h1.1; omega
  ·omega
end
theorem fewTs_snoc : ∀ (l : List Ty) (x : Ty) (m : Int), fewTs (l ++ [x]) m = if 0 ≤ fewTs l m then fewT x (fewTs l m) else fewTs l m
 | [], x, m => by by_cases h : 0 ≤ m <;> simp [fewTs, h]
 | t :: ts, x, m => by
  by_cases h : 0 ≤ m
  ·simp only [List.cons_append, fewTs, if_pos h]; exact fewTs_snoc ts x _
  ·simp only [List.cons_append, fewTs, if_neg h]
theorem fewTs_stop : ∀ (l r : List Ty) (m : Int), fewTs l m < 0 → fewTs (l ++ r) m = fewTs l m
 | [], r, m, h => by simp only [fewTs] at h; simp only [List.nil_append, fewTs]; exact fewTs_neg r m h
 | t :: ts, r, m, h => by
  simp only [List.cons_append, fewTs] at h ⊢
  split
  ·rename_i e; rw [if_pos e] at h; exact fewTs_stop ts r _ h
  ·rfl
def few3 (t : Ty) : Bool := decide (0 ≤ fewT t 3000)
theorem manyTs_snoc (l : List Ty) (x : Ty) : manyTs (l ++ [x]) = manyTs l + manyT x := by rw [manyTs_append]; simp [manyTs]
theorem deepTs_snoc (l : List Ty) (x : Ty) : deepTs (l ++ [x]) = max (deepTs l) (deepT x) := by rw [deepTs_append]; simp [deepTs]
theorem take_snoc {α : Type} {l : List α} {i : Nat} (h : i < l.length) : l.take (i + 1) = l.take i ++ [l[i]] := List.take_succ_eq_append_getElem h
theorem manyTs_take (l : List Ty) (i : Nat) : manyTs (l.take i) ≤ manyTs l := by
 have := manyTs_append (l.take i) (l.drop i); rw [List.take_append_drop] at this; omega
end Go.Proofs.Mv.App
open Go Go.Proofs Go.Proofs.Mv.V
set_option maxRecDepth 10000
namespace Go.Proofs.Mv.App
inductive Tm where
 | mk (kind num : Int) (mod name : List UInt8) (names vars : List (List UInt8)) (types : List Ty) (subs : List Tm)
instance : Inhabited Tm := ⟨.mk 0 0 [] [] [] [] [] []⟩
def Tm0 : Tm := .mk 0 0 [] [] [] [] [] []
mutual
def tmD [GI] : Tm → List D
 | .mk kind num mod name names vars types subs => [I kind, I num, S mod, S name, sl1 names, sl1 vars, .sl 7 (types.map tyD), .sl 8 (tmsD subs)]
def tmsD [GI] : List Tm → List (List D)
 | [] => []
 | t :: ts => tmD t :: tmsD ts
end
section
variable [GI]
theorem tmsD_eq : ∀ l : List Tm, tmsD l = l.map tmD
 | [] => by simp [tmsD]
 | t :: ts => by simp [tmsD, tmsD_eq ts]
@[simp] theorem tmD_len (t : Tm) : (tmD t).length = 8 := by cases t; simp [tmD]
@[simp] theorem tmD_take (t : Tm) : (tmD t).take 8 = tmD t := List.take_of_length_le (by simp)
mutual
theorem pur_tm : ∀ t : Tm, ∀ d ∈ tmD t, Pur d
 | .mk kind num mod name names vars types subs, d, hd => by
  simp only [tmD, List.mem_cons, List.not_mem_nil, or_false] at hd
  rcases hd with rfl | rfl | rfl | rfl | rfl | rfl | rfl | rfl
  ·exact pur_I _
  ·exact pur_I _
  ·exact pur_S _
  ·exact pur_S _
  ·exact pur_sl1 _
  ·exact pur_sl1 _
  ·exact Pur.sl (pur_tym types)
  ·exact Pur.sl (pur_tms subs)
theorem pur_tms : ∀ l : List Tm, ∀ e ∈ tmsD l, ∀ d ∈ e, Pur d
 | [], e, he, _, _ => by simp [tmsD] at he
 | t :: ts, e, he, d, hd => by
  simp only [tmsD, List.mem_cons] at he
  rcases he with rfl | he
  ·exact pur_tm t d hd
  ·exact pur_tms ts e he d hd
end
theorem pur_tmA (t : Tm) : Pur (.agg (tmD t)) := Pur.agg (pur_tm t)
theorem pur_tmm (l : List Tm) : ∀ e ∈ l.map tmD, ∀ d ∈ e, Pur d := by rw [← tmsD_eq]; exact pur_tms l
theorem tmD_zero : tmD Tm0 = [I 0, I 0, S [], S [], .sl 1 [], .sl 1 [], .sl 7 [], .sl 8 []] := by simp [Tm0, tmD, tmsD, sl1]
end
inductive TmW : Tm → Prop where
 | mk (kind num : Int) (mod name : List UInt8) (names vars : List (List UInt8)) (types : List Ty) (subs : List Tm) (h1 : names.length ≤ 9223372036854775807) (h2 : vars.length ≤ 9223372036854775807)
   (h3 : types.length ≤ 9223372036854775807) (h4 : subs.length ≤ 9223372036854775807) (h5 : mod.length ≤ 9223372036854775807) (h6 : name.length ≤ 9223372036854775807)
   (h7 : ∀ s ∈ names, s.length ≤ 9223372036854775807) (h8 : ∀ s ∈ vars, s.length ≤ 9223372036854775807) (h9 : ∀ t ∈ types, TyW t) (h10 : ∀ t ∈ subs, TmW t) : TmW (.mk kind num mod name names vars types subs)
mutual
def manyTm : Tm → Nat
 | .mk _ _ _ _ _ _ _ subs => 1 + manyTms subs
def manyTms : List Tm → Nat
 | [] => 0
 | t :: ts => manyTm t + manyTms ts
end
end Go.Proofs.Mv.App
open Go Go.Proofs Go.Proofs.Mv.V
set_option maxRecDepth 10000
namespace Go.Proofs.Mv.App
variable [GI]
def tyO (kind : Int) (pkg : List UInt8) (major : Int) (mod name : List UInt8) (NL SL : List (List D)) : V.Obj := ⟨7, [[I kind, S pkg, I major, S mod, S name, .sl 1 NL, .sl 7 SL]], 0⟩
structure FewInv (k : Nat) (M : Mem) (n0 : Nat) (subs : List Ty) (m0 : Int) (i : Nat) (σ : Nat → D) (m2 : Mem) (n2 : Nat) : Prop where
 h2 : σ 2 = .ptr k 0 0 0
 h1 : σ 1 = I (fewTs (subs.take i) m0)
 h5 : σ 5 = I i
 le : i ≤ subs.length
 mm : m2 = M
 nn : n2 = n0
set_option maxHeartbeats 1000000 in
theorem cFew {t : Ty} (ht : TyW t) : ∀ (most : Int) (m : Mem) (n : Nat), -1 ≤ most → most ≤ 100000 → ACalls Tryz.prog 91 [.agg (tyD t), I most] m n (fun d m' n' => d = I (fewT t most) ∧ m' = m ∧ n' = n) := by
 induction ht with
 | mk kind pkg major mod name names subs l1 l2 l3 l4 l5 l6 l7 ih =>
  intro most m n hm0 hm1
  refine acalls_done (R' := Hq (fun d m' n' => d = I (fewT (.mk kind pkg major mod name names subs) most) ∧ ∀ j, j < n → m' j = m j) tg) ?_ ?_
  ·have fr : ∀ o j, j < n → (m.set n o) j = m j := fun o j hj => by rw [set_ne _ _ _ _ (by omega)]
   have hL1 : (names.map fun s => [S s]).length = names.length := by simp
   have hL2 : (tysD subs).length = subs.length := by rw [tysD_eq]; simp
   have hG2 : ∀ i (h : i < subs.length), (tysD subs)[i]? = some (tyD subs[i]) := fun i h => by rw [tysD_eq]; simp [h]
   have wm : IntKind.i64.wrap (most - 1) = most - 1 := wrap_i64 (by omega) (by omega)
   simp only [tyD, sl1, fewT]
   generalize (names.map fun s => [S s]) = NL at hL1
   generalize tysD subs = SL at hL2 hG2
   refine acalls_vc [0, 1, 2, 4, 5, 15, 24] Tryz.func91 Tryz.ntmps91 (by kernel_rfl) rfl rfl (by simp) ?_
   by_cases c1 : most - 1 < 0
   ·rw [if_pos (.inl c1)]
    simp -dsimp [I, wm, c1]
    exact hq ⟨rfl, fr _⟩
   by_cases c2 : (200 : Int) < names.length
   ·rw [if_pos (.inr (by omega))]
    simp -dsimp [I, wm, c1, c2, hL1]
    exact hq ⟨rfl, fr _⟩
   rw [if_neg (by omega)]
   simp -dsimp [I, wm, c1, c2, hL1]
   refine vloop_of (β := Nat) (FewInv n (m.set n (tyO kind pkg major mod name NL SL)) (n + 1) subs (most - 1)) (fun i => subs.length - i) 0 ⟨by simp, by simp [I, fewTs], by simp [I], by omega, rfl, rfl⟩ ?_
   rintro i σ m2 n2 ⟨h2, h1, h5, le, rfl, rfl⟩
   have hb := fewTs_le (subs.take i) (most - 1) (by omega)
   by_cases hi : (i : Int) < subs.length
   ·have hi' : i < subs.length := by omega
    have wi : IntKind.i64.wrap ((i : Int) + 1) = (i : Int) + 1 := wrap_i64 (by omega) (by omega)
    have hiN : i < SL.length := by omega
    have hgi : SL[i] = tyD subs[i] := get_opt (hG2 i hi') hiN
    have hsn := fewTs_snoc (subs.take i) subs[i] (most - 1)
    rw [← take_snoc hi'] at hsn
    have hst := fewTs_stop (subs.take i) (subs.drop i) (most - 1)
    rw [List.take_append_drop] at hst
    generalize fewTs (subs.take i) (most - 1) = q at hb hsn hst h1
    by_cases c3 : 0 ≤ q
    ·rw [if_pos c3] at hsn
     simp -dsimp [h1, h2, h5, I, hL2, hi, hi', c3, hiN, hgi, tyO]
     refine aCall_of (ih subs[i] (List.getElem_mem hi') q _ _ (by omega) (by omega)) ?_
     rintro d m' n' ⟨rfl, rfl, rfl⟩
     simp -dsimp [h1, h2, h5, I, wi]
     exact ⟨i + 1, by omega, by simp, by simp [I, hsn], by simp [I], by omega, rfl, rfl⟩
    ·simp -dsimp [h1, h2, h5, I, hL2, hi, c3, tyO]
     exact hq ⟨by rw [hst (by omega)]; rfl, fr _⟩
   ·have : subs.take i = subs := List.take_of_length_le (by omega)
    rw [this] at h1
    simp -dsimp [h1, h2, h5, I, hL2, hi, tyO]
    exact hq ⟨rfl, fr _⟩
  ·rintro d m' n' ⟨rfl, h⟩
   exact ⟨_, (pur_I _).pub, h, rfl⟩
theorem cFewT {t : Ty} (ht : TyW t) (m : Mem) (n : Nat) : ACalls Tryz.prog 53 [.agg (tyD t)] m n (fun d m' n' => d = Tt (few3 t) ∧ m' = m ∧ n' = n) := by
 refine acalls_done (R' := Hq (fun d m' n' => d = Tt (few3 t) ∧ ∀ j, j < n → m' j = m j) tg) ?_ ?_
 ·have h7 := tyD_len t
  have hc := fun m n => cFew ht 3000 m n (by omega) (by omega)
  generalize tyD t = TT at h7 hc
  have ht7 : List.take 7 TT = TT := List.take_of_length_le (by omega)
  refine acalls_vc [0, 1, 2] Tryz.func53 Tryz.ntmps53 (by kernel_rfl) rfl rfl (by simp) ?_
  simp -dsimp [h7, ht7]
  refine aCall_of (hc _ _) ?_
  rintro d m' n' ⟨rfl, rfl, rfl⟩
  simp -dsimp [I]
  exact hq ⟨by simp [Tt, few3], fun j hj => by rw [set_ne _ _ _ _ (by omega)]⟩
 ·rintro d m' n' ⟨rfl, h⟩
  exact ⟨_, (pur_T _).pub, h, rfl⟩
structure ManyInv (k : Nat) (M : Mem) (n0 : Nat) (subs : List Ty) (f : List Ty → Nat) (c : Nat) (i : Nat) (σ : Nat → D) (m2 : Mem) (n2 : Nat) : Prop where
 h1 : σ 1 = .ptr k 0 0 0
 h3 : σ 3 = I (c + f (subs.take i))
 h4 : σ 4 = I i
 le : i ≤ subs.length
 mm : m2 = M
 nn : n2 = n0
end Go.Proofs.Mv.App
open Go Go.Proofs Go.Proofs.Mv.V
set_option maxRecDepth 10000
namespace Go.Proofs.Mv.App
variable [GI]
def tmO (kind num : Int) (mod name : List UInt8) (NL VL YL SL : List (List D)) : V.Obj := ⟨8, [[I kind, I num, S mod, S name, .sl 1 NL, .sl 1 VL, .sl 7 YL, .sl 8 SL]], 0⟩
end Go.Proofs.Mv.App
