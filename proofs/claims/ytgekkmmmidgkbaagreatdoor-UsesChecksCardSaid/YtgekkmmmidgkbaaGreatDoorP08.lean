/- A part of the proofs of the seat YtgekkmmmidgkbaaGreatDoor: the abstract machine, the contracts of the functions, the laws. No condition of its own. -/
import Derived.Test.YtgekkmmmidgkbaaGreatDoorP07
import Derived.Test.YtgekkmmmidgkbaaGreatDoorMvD
set_option linter.unusedSimpArgs false
set_option linter.unusedVariables false
set_option linter.unusedSectionVars false
open Go Go.Proofs Go.Proofs.Mv.V
set_option maxRecDepth 10000
namespace Go.Proofs.Mv.App
theorem numOk_no {s : List UInt8} (h : okU (Lib.parseUintB 32 s) = none) : numOk s = false := by
  cases e : numOk s
  · rfl
  · rw [(of_numOk e).1] at h; simp [okU] at h
theorem okU_some {s : List UInt8} {u : Nat} (h : okU (Lib.parseUintB 32 s) = some u) : Lib.parseUintB 32 s = .ok u := by
  unfold okU at h; split at h
  · rename_i e; rw [e]; simp at h; rw [h]
  · cases h
set_option maxHeartbeats 1000000 in
theorem cNumber {l : List Tok} (hl : TkOk l) {p : PS} {k : Nat} {m : Mem} {n : Nat} (hk : k < n) (hm : m k = some (pObj l p)) :
    ACalls Tryz.prog 153 [.ptr k 0 0 0] m n (fun d m' n' => d = I (numF l p).1 ∧ m' = m.set k (pObj l (numF l p).2) ∧ n' = n) := by
  have kn : k ≠ n := by omega
  have nk : n ≠ k := by omega
  have kn1 : k < n + 1 := by omega
  obtain ⟨kd, a, tx, hp⟩ := pk_of hl p
  refine acalls_fin hk (pur_pObj _ _) (fun d h => by rw [h]; exact pur_I _) ?_
  refine acalls_vc [0, 2, 3, 4, 5, 34] Tryz.func153 Tryz.ntmps153 (by kernel_rfl) rfl rfl (by simp) ?_
  simp -dsimp [I]
  refine aCall_of (cPeek hk hm) ?_
  rintro d m' n' ⟨rfl, rfl, rfl⟩
  rw [hp.pk]
  have hn := hp.num
  have hlen := hp.len
  simp -dsimp [I, S]
  refine aCall_of (cParseUint tx (by omega) _ _) ?_
  rintro d m2 n2 ⟨x, e, rfl, hx, rfl, rfl⟩
  by_cases e3 : kd = 3
  case neg =>
    have e3' : (kd != 3) = true := by simp [e3]
    have hfa : isNum l p = false := by rw [hn]; simp [e3]
    simp -dsimp [I, S, e3', hm, set_ne, kn, nk]
    refine aCall_of (cFail (l := l) (p := p) 2 (by omega) kn1 (by simp [set_ne, kn, hm])) ?_
    rintro d m2 n2 ⟨rfl, rfl, rfl⟩
    simp -dsimp
    refine fin_mk (by simp [numF, hfa, I]) (by simp [numF, hfa]) fun j hj hjk => ?_
    rw [set_ne _ _ _ _ hjk, set_ne _ _ _ _ (by omega)]
  cases hu : okU (Lib.parseUintB 32 tx) with
  | none =>
    rw [hu] at hx
    obtain ⟨t, rfl⟩ := hx
    have hfa : isNum l p = false := by rw [hn]; simp [numOk_no hu]
    simp -dsimp [I, S, e3, hm, set_ne, kn, nk]
    refine aCall_of (cFail (l := l) (p := p) 2 (by omega) kn1 (by simp [set_ne, kn, hm])) ?_
    rintro d m2 n2 ⟨rfl, rfl, rfl⟩
    simp -dsimp
    refine fin_mk (by simp [numF, hfa, I]) (by simp [numF, hfa]) fun j hj hjk => ?_
    rw [set_ne _ _ _ _ hjk, set_ne _ _ _ _ (by omega)]
  | some u =>
    rw [hu] at hx
    obtain ⟨rfl, rfl⟩ := hx
    have hpu := okU_some hu
    have hbad : isNum l p = false → (numF l p) = (0, failF 2 p) := fun h => by simp [numF, h]
    by_cases u1 : (u : Int) < 1
    · have hfa : isNum l p = false := by
        rw [hn]; cases q : numOk tx
        · simp
        · have := of_numOk q; rw [hpu] at this; simp at this; omega
      simp -dsimp [I, S, e3, hm, set_ne, kn, nk, u1, nilE]
      refine aCall_of (cFail (l := l) (p := p) 2 (by omega) kn1 (by simp [set_ne, kn, hm])) ?_
      rintro d m2 n2 ⟨rfl, rfl, rfl⟩
      simp -dsimp
      refine fin_mk (by simp [numF, hfa, I]) (by simp [numF, hfa]) fun j hj hjk => ?_
      rw [set_ne _ _ _ _ hjk, set_ne _ _ _ _ (by omega)]
    by_cases u2 : 999999999 < (u : Int)
    · have hfa : isNum l p = false := by
        rw [hn]; cases q : numOk tx
        · simp
        · have := of_numOk q; rw [hpu] at this; simp at this; omega
      simp -dsimp [I, S, e3, hm, set_ne, kn, nk, u1, u2, nilE]
      refine aCall_of (cFail (l := l) (p := p) 2 (by omega) kn1 (by simp [set_ne, kn, hm])) ?_
      rintro d m2 n2 ⟨rfl, rfl, rfl⟩
      simp -dsimp
      refine fin_mk (by simp [numF, hfa, I]) (by simp [numF, hfa]) fun j hj hjk => ?_
      rw [set_ne _ _ _ _ hjk, set_ne _ _ _ _ (by omega)]
    obtain ⟨y, r, rfl⟩ : ∃ y r, tx = y :: r := by
      cases tx with
      | nil => simp [Lib.parseUintB] at hpu
      | cons y r => exact ⟨_, _, rfl⟩
    by_cases u3 : y.toNat = 48
    · have hy : y = 48 := UInt8.toNat_inj.1 u3
      have hfa : isNum l p = false := by
        rw [hn]; cases q : numOk (y :: r)
        · simp
        · exact absurd (by simp [hy]) (of_numOk q).2.2.2.1
      clear hy
      simp -dsimp [I, S, e3, hm, set_ne, kn, nk, u1, u2, u3, nilE]
      refine aCall_of (cFail (l := l) (p := p) 2 (by omega) kn1 (by simp [set_ne, kn, hm])) ?_
      rintro d m2 n2 ⟨rfl, rfl, rfl⟩
      simp -dsimp
      refine fin_mk (by simp [numF, hfa, I]) (by simp [numF, hfa]) fun j hj hjk => ?_
      rw [set_ne _ _ _ _ hjk, set_ne _ _ _ _ (by omega)]
    have u3' : ((y.toNat : Int) == 48) = false := by simp; omega
    obtain ⟨q1, q2⟩ := numOk_of hpu (by omega) (by omega) (by simp; intro h; exact u3 (by rw [h]; rfl))
    have htr : isNum l p = true := by rw [hn]; simp [e3, q1]
    obtain ⟨hb, ha⟩ := hp.ok (by omega)
    have wa := wrap_at hl ha
    have wu : IntKind.i64.wrap (u : Int) = u := wrap_i64 (by omega) (by omega)
    simp -dsimp [I, S, e3, hm, set_ne, kn, nk, u1, u2, u3', nilE, pObj, pC, wa, wu]
    refine fin_mk (by simp [numF, htr, hp.tex, q2, I]) ?_ fun j hj hjk => ?_
    · simp [numF, htr, pObj, pC, errD, hb, stepF, I]
    · rw [set_ne _ _ _ _ hjk, set_ne _ _ _ _ (by omega)]
set_option maxHeartbeats 1000000 in
theorem cBegins [GI] (kd a : Int) (tx : List UInt8) (hlen : tx.length ≤ 1000000000) (m : Mem) (n : Nat) : ACalls Tryz.prog 148 [.agg [I kd, I a, S tx]] m n (fun d m' n' => d = Tt (begT ⟨kd, a, tx⟩) ∧ m' = m ∧ n' = n) := by
  have fr : ∀ o, ∀ j, j < n → (m.set n o) j = m j := fun o j hj => set_ne _ _ _ _ (by omega)
  refine acalls_done (R' := Hq (fun d m' n' => d = Tt (begT ⟨kd, a, tx⟩) ∧ ∀ j, j < n → m' j = m j) tg) ?_ ?_
  · refine acalls_vc [0, 1, 2, 4, 5, 21] Tryz.func148 Tryz.ntmps148 (by kernel_rfl) rfl rfl (by simp) ?_
    by_cases e2 : kd = 2
    · simp -dsimp [I, S, e2]
      refine aCall_of (cBase tx _ _) ?_
      rintro d m2 n2 ⟨rfl, rfl, rfl⟩
      by_cases b0 : 0 < baseN tx
      · have b0' : (0 : Int) < baseN tx := by omega
        simp -dsimp [I, S, e2, b0', b0, Tt]
        exact hq ⟨by simp [begT, e2, b0, Tt], fr _⟩
      have b0' : ¬ (0 : Int) < baseN tx := by omega
      by_cases eL : tx = wList
      · have eL' : (tx == [76, 105, 115, 116]) = true := by simp [eL, wList]
        simp -dsimp [I, S, e2, b0', b0, Tt, eL']
        exact hq ⟨by simp [begT, e2, b0, eL, Tt], fr _⟩
      have eL' : (tx == [76, 105, 115, 116]) = false := by simpa [wList] using eL
      simp -dsimp [I, S, e2, b0', b0, Tt, eL']
      refine aCall_of (cGreat tx (by omega) _ _) ?_
      rintro d m2 n2 ⟨rfl, rfl, rfl⟩
      simp -dsimp [Tt]
      exact hq ⟨by simp [begT, e2, b0, eL, Tt], fr _⟩
    have e2' : (kd == 2) = false := by simp [e2]
    by_cases e1 : kd = 1
    · simp -dsimp [I, S, e1]
      refine aCall_of (cSmall tx (by omega) _ _) ?_
      rintro d m2 n2 ⟨rfl, rfl, rfl⟩
      simp -dsimp [Tt]
      exact hq ⟨by simp [begT, e1, Tt], fr _⟩
    have e1' : (kd == 1) = false := by simp [e1]
    by_cases e4 : kd = 4
    case neg =>
      have e4' : (kd == 4) = false := by simp [e4]
      simp -dsimp [I, S, e2', e1', e4']
      exact hq ⟨by simp [begT, e2, e1, e4, Tt], fr _⟩
    have h123 : begT ⟨kd, a, tx⟩ = (decide (tx = [123]) || decide (tx = [91]) || decide (tx = [40]) || decide (tx = [60])) := by simp [begT, e4]
    rw [h123]
    by_cases f1 : tx = [123]
    · have f1' : (tx == [123]) = true := by simp [f1]
      simp -dsimp [I, S, e4, f1']
      exact hq ⟨by simp [f1, Tt], fr _⟩
    have f1' : (tx == [123]) = false := by simp [f1]
    by_cases f2 : tx = [91]
    · have f2' : (tx == [91]) = true := by simp [f2]
      simp -dsimp [I, S, e4, f1', f2']
      exact hq ⟨by simp [f2, Tt], fr _⟩
    have f2' : (tx == [91]) = false := by simp [f2]
    by_cases f3 : tx = [40]
    · have f3' : (tx == [40]) = true := by simp [f3]
      simp -dsimp [I, S, e4, f1', f2', f3']
      exact hq ⟨by simp [f3, Tt], fr _⟩
    have f3' : (tx == [40]) = false := by simp [f3]
    by_cases f4 : tx = [60]
    · have f4' : (tx == [60]) = true := by simp [f4]
      simp -dsimp [I, S, e4, f1', f2', f3', f4']
      exact hq ⟨by simp [f4, Tt], fr _⟩
    have f4' : (tx == [60]) = false := by simp [f4]
    simp -dsimp [I, S, e4, f1', f2', f3', f4']
    exact hq ⟨by simp [f1, f2, f3, f4, Tt], fr _⟩
  · rintro d m' n' ⟨rfl, h⟩
    exact ⟨_, (pur_T _).pub, h, rfl⟩
end Go.Proofs.Mv.App
open Go Go.Proofs Go.Proofs.Mv.V
set_option maxRecDepth 10000
namespace Go.Proofs.Mv.App
section
variable [GI]
/-- What a type's read must do. -/
def TyR (l : List Tok) (k : Nat) (m : Mem) (n : Nat) (t : Ty) (q : PS) (d : D) (m' : Mem) (n' : Nat) : Prop :=
  (∃ t', d = .agg (tyD t') ∧ (q.bad = 0 → t' = t)) ∧ m' = m.set k (pObj l q) ∧ n' = n
def TypC (l : List Tok) (r : Nat) : Prop := ∀ (p : PS) (k : Nat) (m : Mem) (n : Nat), k < n → m k = some (pObj l p) → ACalls Tryz.prog 108 [.ptr k 0 0 0, I (33 - r)] m n (TyR l k m n (typF l r p).1 (typF l r p).2)
/-- The list of one's own behind one more type. -/
structure SubR (l : List Tok) (k : Nat) (m : Mem) (n : Nat) (ts : List Ty) (dl : D) (t : Ty) (q : PS) (d : D) (m' : Mem) (n' : Nat) : Prop where
  ls : ∃ t', Lst m' 7 ((ts ++ [t']).map tyD) d ∧ (q.bad = 0 → t' = t)
  pk : m' k = some (pObj l q)
  nn : n ≤ n'
  kk : ∀ j, kof d = some j → j < n' ∧ j ≠ k ∧ (kof dl = some j ∨ n ≤ j)
  fr : ∀ j, j < n → j ≠ k → kof dl ≠ some j → m' j = m j
theorem cSub {l : List Tok} (hl : TkOk l) {r : Nat} (hr : r ≤ 32) (H : TypC l r) {p : PS} {k : Nat} {m : Mem} {n : Nat} (hk : k < n) (hm : m k = some (pObj l p)) {ts : List Ty} {dl : D} (hL : Lst m 7 (ts.map tyD) dl) (hlen : ts.length ≤ 100)
    (hq : ∀ j, kof dl = some j → j < n ∧ j ≠ k) :
    ACalls Tryz.prog 188 [.ptr k 0 0 0, dl, I (32 - r)] m n (SubR l k m n ts dl (subF l (typF l r) ts.length p).1 (subF l (typF l r) ts.length p).2) := by
  have kn : k ≠ n := by omega
  have nk : n ≠ k := by omega
  have hll := lenD_lst hL
  rw [List.length_map] at hll
  have wd : IntKind.i64.wrap ((32 : Int) - r + 1) = 33 - r := by rw [wrap_i64 (by omega) (by omega)]; omega
  obtain ⟨kd, a, tx, hp⟩ := pk_of hl p
  have hbeg := hp.beg
  have hcu := hp.cu
  have hend : ∀ (p' : PS), subF l (typF l r) ts.length p = typF l r p' → ∀ (t' : Ty), ((typF l r p').2.bad = 0 → t' = (typF l r p').1) → ∀ (O : Prop), O → ∀ (K : D → Mem → Nat → Prop) (u : Tg K () ()),
      (∀ d m' n', SubR l k m n ts dl (subF l (typF l r) ts.length p).1 (subF l (typF l r) ts.length p).2 d m' n' → K d m' n') →
      b4 (apD (some (7, 112)) O dl (some (True, [tyD t'])) ((m.set k (pObj l (typF l r p').2)).set n ⟨7, [tyD t'], 0⟩) (n + 1)) K u := by
    intro p' he t' ht' O hO K u hK
    refine b4_append (hL.frame fun j hj => ?_) (fun j hj => by have := hq j hj; omega) hO trivial (by omega) (by simp; omega) ?_
    · have := hq j hj
      rw [set_ne _ _ _ _ (by omega), set_ne _ _ _ _ this.2]
    intro d m' n2 h1 h2 h3 h4
    refine hK _ _ _ ⟨⟨t', by simpa using h1, by rw [he]; exact ht'⟩, ?_, by omega, fun j hj => ?_, fun j hj hjk hjd => ?_⟩
    · rw [h4 k (by omega) (fun e => (hq k e).2 rfl), set_ne _ _ _ _ kn, set_same, he]
    · have := h3 j hj
      rcases this.2 with e | e
      · have h5 := hq j e; exact ⟨this.1, h5.2, .inl e⟩
      · exact ⟨this.1, by omega, .inr (by omega)⟩
    · rw [h4 j (by omega) hjd, set_ne _ _ _ _ (by omega), set_ne _ _ _ _ hjk]
  refine acalls_vc [0, 1, 2, 6, 14] Tryz.func188 Tryz.ntmps188 (by kernel_rfl) rfl rfl (by simp) ?_
  simp -dsimp [I]
  refine aCall_of (cPeek hk hm) ?_
  rintro d m' n' ⟨rfl, rfl, rfl⟩
  rw [hp.pk]
  simp -dsimp
  refine aCall_of (cBegins kd a tx (by have := hp.len; omega) _ _) ?_
  rintro d m2 n2 ⟨rfl, rfl, rfl⟩
  rw [← hbeg]
  cases hb : begF l p
  case false =>
    have he : subF l (typF l r) ts.length p = typF l r p := by simp [subF, hb]
    simp -dsimp [Tt, wd, I]
    refine aCall_of (H p k _ _ hk hm) ?_
    rintro d m' n' ⟨⟨t', rfl, ht'⟩, rfl, rfl⟩
    simp -dsimp
    refine hend p he t' ht' _ trivial _ _ ?_
    intro d m' n' hR
    simp -dsimp
    exact hR
  case true =>
    by_cases h20 : 20 ≤ (ts.length : Int)
    · have h20' : 20 ≤ ts.length := by omega
      have hbd : p.bad = 0 := by
        cases q : p.bad with
        | zero => rfl
        | succ q => rw [begF_bad (by omega)] at hb; cases hb
      have hf : (failF 3 p).bad ≠ 0 := by simp [failF, hbd]
      have he : subF l (typF l r) ts.length p = typF l r (failF 3 p) := by rw [typF_bad hf]; simp [subF, hb, h20']
      simp -dsimp [Tt, hll, h20, h20', wd, I]
      refine aCall_of (cFail (l := l) (p := p) 3 (by omega) hk hm) ?_
      rintro d m' n' ⟨rfl, rfl, rfl⟩
      simp -dsimp [wd]
      refine aCall_of (H (failF 3 p) k _ _ hk (by simp)) ?_
      rintro d m' n' ⟨⟨t', rfl, ht'⟩, rfl, rfl⟩
      simp -dsimp
      refine hend _ he t' ht' _ trivial _ _ ?_
      intro d m' n' hR
      simp -dsimp
      exact hR
    · have h20' : ¬ 20 ≤ ts.length := by omega
      have he : subF l (typF l r) ts.length p = typF l r p := by simp [subF, h20']
      simp -dsimp [Tt, hll, h20, h20', wd, I]
      refine aCall_of (H p k _ _ hk hm) ?_
      rintro d m' n' ⟨⟨t', rfl, ht'⟩, rfl, rfl⟩
      simp -dsimp
      refine hend p he t' ht' _ trivial _ _ ?_
      intro d m' n' hR
      simp -dsimp
      exact hR
end
end Go.Proofs.Mv.App
open Go Go.Proofs Go.Proofs.Mv.V
set_option maxRecDepth 10000
namespace Go.Proofs.Mv.App
variable [GI]
/-- The parts of a function, and how far they were read. -/
def headF (l : List Tok) (r : Nat) (p : PS) : List Ty × PS := if isSig [41] l p then ([], stepF p) else funF l (typF l r) 22 [] p
theorem funF_bad {l : List Tok} {rec : PS → Ty × PS} {k : Nat} {ts : List Ty} {p : PS} (h : p.bad ≠ 0) : funF l rec k ts p = (ts, p) := by
  cases k <;> simp [funF, h]
theorem subF_bad {l : List Tok} {r n : Nat} {p : PS} (h : p.bad ≠ 0) : subF l (typF l r) n p = (Ty0, p) := by
  simp [subF, begF_bad h, typF_bad h]
/-- The list as it stands: what was read, exactly so while nothing is amiss. -/
def As {α : Type} (xs' xs : List α) (p : PS) : Prop := xs'.length = xs.length ∧ (p.bad = 0 → xs' = xs)
theorem As.step {α : Type} {xs' xs : List α} {p : PS} (h : As xs' xs p) : As xs' xs (stepF p) := ⟨h.1, h.2⟩
theorem As.then {α : Type} {xs' xs : List α} {p q : PS} (h : As xs' xs p) (hb : q.bad = 0 → p.bad = 0) : As xs' xs q := ⟨h.1, fun e => h.2 (hb e)⟩
theorem failF_keep {c : Nat} (hc : c ≠ 0) {p : PS} : (failF c p).bad ≠ 0 := by
  unfold failF; split
  · exact hc
  · assumption
theorem mustF_keep {l : List Tok} {s : List UInt8} {p : PS} (h : (mustF s l p).bad = 0) : p.bad = 0 := by
  cases e : p.bad with
  | zero => rfl
  | succ q => rw [mustF_bad (by omega)] at h; omega
theorem subF_keep {l : List Tok} {r n : Nat} {p : PS} (h : (subF l (typF l r) n p).2.bad = 0) : p.bad = 0 := by
  cases e : p.bad with
  | zero => rfl
  | succ q => rw [subF_bad (by omega)] at h; simp at h; omega
structure FunInv (l : List Tok) (r : Nat) (p0 : PS) (k : Nat) (m : Mem) (n n0 : Nat) (rem : Nat) (σ : Nat → D) (m2 : Mem) (n2 : Nat) : Prop where
  h0 : σ 0 = .ptr k 0 0 0
  h1 : σ 1 = I (32 - r)
  h4 : σ 4 = .ptr n 0 0 0
  nn : n + 1 ≤ n2
  m4 : m2 n = some ⟨7, [[I 0, S [], I 0, S [], S [], .v (.slice none 0 0), .v (.slice none 0 0)]], 0⟩
  fr : ∀ j, j < n → j ≠ k → m2 j = m j
  ex : ∃ ts ts' p, Lst m2 7 (ts'.map tyD) (σ 5) ∧ (∀ j, kof (σ 5) = some j → n + 1 ≤ j ∧ j < n2) ∧ m2 k = some (pObj l p) ∧ As ts' ts p ∧ ts.length + rem = 22 ∧ (20 < ts.length → p.bad ≠ 0) ∧
    (ts = [] → p = p0) ∧ (ts ≠ [] → headF l r p0 = funF l (typF l r) rem ts p)
structure FunMid (l : List Tok) (r : Nat) (p0 : PS) (k : Nat) (m : Mem) (n : Nat) (σ : Nat → D) (m2 : Mem) (n2 : Nat) : Prop where
  h0 : σ 0 = .ptr k 0 0 0
  h1 : σ 1 = I (32 - r)
  h4 : σ 4 = .ptr n 0 0 0
  nn : n + 1 ≤ n2
  m4 : m2 n = some ⟨7, [[I 0, S [], I 0, S [], S [], .v (.slice none 0 0), .v (.slice none 0 0)]], 0⟩
  fr : ∀ j, j < n → j ≠ k → m2 j = m j
  ex : ∃ ts', Lst m2 7 (ts'.map tyD) (σ 5) ∧ (∀ j, kof (σ 5) = some j → n + 1 ≤ j ∧ j < n2) ∧ m2 k = some (pObj l (headF l r p0).2) ∧ As ts' (headF l r p0).1 (headF l r p0).2 ∧ ts'.length ≤ 22
structure FunGo (k : Nat) (r n : Nat) (d5 : D) (m2 : Mem) (n2 : Nat) (C : Prop) (σ : Nat → D) (m' : Mem) (n' : Nat) : Prop where
  h0 : σ 0 = .ptr k 0 0 0
  h1 : σ 1 = I (32 - r)
  h4 : σ 4 = .ptr n 0 0 0
  h5 : σ 5 = d5
  mm : m' = m2
  nn : n' = n2
  cc : C
theorem typF_nob {l : List Tok} {r : Nat} {p : PS} (h : begF l p = false) : typF l r p = (Ty0, failF 2 p) := by
  cases r with
  | zero => simp [typF, h]
  | succ r =>
    simp only [typF]
    split
    · rfl
    · rename_i t ht
      have : begT t = false := by simpa [begF, ht] using h
      simp [this]
theorem subF_20 {l : List Tok} {r n : Nat} {p : PS} (h : 20 ≤ n) : (subF l (typF l r) n p).2.bad ≠ 0 := by
  unfold subF
  split
  · exact failF_keep (by omega)
  · rename_i hh
    have : begF l p = false := by simpa [h] using hh
    rw [typF_nob this]; exact failF_keep (by omega)
set_option maxHeartbeats 2000000 in
theorem cFunction {l : List Tok} (hl : TkOk l) {r : Nat} (hr : r ≤ 31) (H : TypC l r) {p : PS} {k : Nat} {m : Mem} {n : Nat} (hk : k < n) (hm : m k = some (pObj l p)) (hb0 : p.bad = 0) :
    ACalls Tryz.prog 152 [.ptr k 0 0 0, I (32 - r)] m n (TyR l k m n (funcF l (typF l r) p).1 (funcF l (typF l r) p).2) := by
  have kn : k ≠ n := by omega
  have nk : n ≠ k := by omega
  have hfun : funcF l (typF l r) p = (.mk 7 [] 0 [] [] [] ((headF l r p).1 ++ [(subF l (typF l r) (headF l r p).1.length (mustF [45, 62] l (headF l r p).2)).1]), (subF l (typF l r) (headF l r p).1.length (mustF [45, 62] l (headF l r p).2)).2) := rfl
  refine acalls_put (X := fun d => ∃ t', d = .agg (tyD t') ∧ ((funcF l (typF l r) p).2.bad = 0 → t' = (funcF l (typF l r) p).1)) (R' := Hq (fun d m' n' => ∃ ts' dl, d = .agg [I 7, S [], I 0, S [], S [], .v (.slice none 0 0), dl] ∧ Lst m' 7 (ts'.map tyD) dl ∧ (∀ j, kof dl = some j → n ≤ j) ∧
      ((funcF l (typF l r) p).2.bad = 0 → Ty.mk 7 [] 0 [] [] [] ts' = (funcF l (typF l r) p).1) ∧ m' k = some (pObj l (funcF l (typF l r) p).2) ∧ ∀ j, j < n → j ≠ k → m' j = m j) tg) k hk _ ?_ ?_
  · refine acalls_vcC [0, 1, 4, 5, 20, 26] Tryz.func152 Tryz.ntmps152 (by kernel_rfl) rfl rfl (by simp) ?_
    simp -dsimp [-vc_block, I]
    refine vc_mid (FunMid l r p k m n) ?_ ?_
    · rw [vc_block]
      simp -dsimp [-vc_block, I]
      refine vloop_of (β := Nat) (FunInv l r p k m n n) (fun b => b) 22 ⟨by simp, by simp [I], by simp, by omega, by simp [I, S], fun j hj hjk => set_ne _ _ _ _ (by omega), [], [], p, by simpa using Lst.nil, by simp, by rw [set_ne _ _ _ _ kn]; exact hm, ⟨rfl, fun _ => rfl⟩, by simp, by simp, fun _ => rfl, fun h => absurd rfl h⟩ ?_
      rintro rem σ m2 n2 ⟨h0, h1, h4, nn, m4, fr, ts, ts', q, hL, hkk, hpk, has, hrem, hbad, hfst, hrest⟩
      have hll := lenD_lst hL
      rw [List.length_map, has.1] at hll
      have hkn2 : k < n2 := by omega
      have done_ : ∀ (σ' : Nat → D) (m' : Mem) (n' : Nat) (us us' : List Ty) (q' : PS), σ' 0 = .ptr k 0 0 0 → σ' 1 = I (32 - r) → σ' 4 = .ptr n 0 0 0 → n + 1 ≤ n' → m' n = m2 n → (∀ j, j < n → j ≠ k → m' j = m j) →
          Lst m' 7 (us'.map tyD) (σ' 5) → (∀ j, kof (σ' 5) = some j → n + 1 ≤ j ∧ j < n') → m' k = some (pObj l q') → As us' us q' → us.length ≤ 22 → headF l r p = (us, q') → FunMid l r p k m n σ' m' n' := by
        intro σ' m' n' us us' q' a0 a1 a2 a3 a4 a5 a6 a7 a8 a9 a10 a11
        exact ⟨a0, a1, a2, a3, by rw [a4]; exact m4, a5, us', a6, a7, by rw [a11]; exact a8, by rw [a11]; exact a9, by rw [a9.1]; exact a10⟩
      by_cases hqb : q.bad = 0
      case neg =>
        have hq0 : ts ≠ [] := fun e => hqb (by rw [hfst e]; exact hb0)
        simp -dsimp [-vc_block, h0, h1, h4, hpk, pObj, pC, errD, hqb, spotE]
        refine done_ _ _ _ ts ts' q (by simp) (by simp) (by simp) nn rfl fr (by simpa using hL) (by simpa using hkk) (by simp [hpk, pObj, pC, errD]) has (by omega) ?_
        rw [hrest hq0, funF_bad hqb]
      have hts20 : ts.length ≤ 20 := by
        rcases Nat.lt_or_ge 20 ts.length with h | h
        · exact absurd hqb (hbad h)
        · exact h
      rw [vc_seq]
      refine vc_mid (FunGo k r n (σ 5) m2 n2 (ts = [] → isSig [41] l q = false)) ?_ ?_
      · by_cases hts : ts = []
        · have h0l : ts.length = 0 := by simp [hts]
          rw [h0l] at hll
          have hh : headF l r p = if isSig [41] l p then ([], stepF p) else funF l (typF l r) 22 [] p := rfl
          have hqp := hfst hts
          simp -dsimp [-vc_block, h0, h1, h4, hpk, pObj, pC, errD, hqb, nilE, hll]
          refine aCall_of (cSign hl [41] hkn2 hpk) ?_
          rintro d m3 n3 ⟨rfl, rfl, rfl⟩
          cases hs : isSig [41] l q
          · simp -dsimp [Tt, hs]
            exact ⟨by simp [h0], by simp [h1], by simp [h4], by simp, set_self hpk, rfl, by simp [hs]⟩
          · simp -dsimp [Tt, hs]
            have hT : ts' = [] := by rw [has.2 hqb, hts]
            refine done_ _ _ _ [] [] (stepF q) (by simp [h0]) (by simp [h1]) (by simp [h4]) nn (set_ne _ _ _ _ nk) (fun j hj hjk => by rw [set_ne _ _ _ _ hjk]; exact fr j hj hjk) ?_ (by simpa using hkk) (by simp) ⟨rfl, fun _ => rfl⟩ (by simp) ?_
            · rw [hT] at hL
              have := hL.frame (m' := m2.set k (pObj l (stepF q))) fun j hj => set_ne _ _ _ _ (by have := hkk j hj; omega)
              simpa using this
            · rw [hh, ← hqp, hs]; rfl
        · have h0l : (0 : Int) < ts.length := by have := List.length_pos_iff.2 hts; omega
          have h0n : 0 < ts.length := List.length_pos_iff.2 hts
          simp -dsimp [-vc_block, h0, h1, h4, hpk, pObj, pC, errD, hqb, nilE, hll, h0l, h0n]
          exact ⟨by simp [h0], by simp [h1], by simp [h4], by simp, rfl, rfl, by simp [hts]⟩
      · rintro σ1 m3 n3 ⟨g0, g1, g4, g5, rfl, rfl, hcc⟩
        obtain ⟨rem', rfl⟩ : ∃ rem', rem = rem' + 1 := ⟨rem - 1, by omega⟩
        have hrec : headF l r p = funF l (typF l r) (rem' + 1) ts q := by
          by_cases hts : ts = []
          · have h22 : rem' + 1 = 22 := by simp [hts] at hrem; omega
            rw [h22, hts, hfst hts, headF, ← hfst hts, hcc hts]; simp [hfst hts]
          · exact hrest hts
        simp only [funF, hqb, ne_eq, not_true_eq_false, if_false] at hrec
        rw [vc_block]
        simp -dsimp [-vc_block, g0, g1, g4, g5]
        have hT : ts' = ts := has.2 hqb
        subst hT
        refine aCall_of (cSub hl (by omega) H hkn2 hpk hL (by omega) fun j hj => by have := hkk j hj; omega) ?_
        intro d m4' n4 hR
        obtain ⟨⟨t', hL4, ht4⟩, hpk4, hnn4, hkk4, hfr4⟩ := hR
        generalize hq1 : subF l (typF l r) ts'.length q = q1 at hrec hpk4 ht4
        have hkk5 : ∀ j, kof d = some j → n + 1 ≤ j ∧ j < n4 ∧ j ≠ k := by
          intro j hj
          have := hkk4 j hj
          rcases this.2.2 with e | e
          · have := hkk j e; omega
          · omega
        have hk4 : k < n4 := by omega
        have hasn : As (ts' ++ [t']) (ts' ++ [q1.1]) q1.2 := ⟨by simp, fun e => by rw [ht4 e]⟩
        have hnm : m4' n = m3 n := hfr4 n (by omega) nk fun e => by have := hkk n e; omega
        have hfr5 : ∀ j, j < n → j ≠ k → m4' j = m j := fun j hj hjk => by rw [hfr4 j (by omega) hjk fun e => by have := hkk j e; omega]; exact fr j hj hjk
        simp -dsimp [-vc_block, g0, g1, g4, g5]
        refine aCall_of (cSign hl [41] hk4 hpk4) ?_
        rintro d5 m5 n5 ⟨rfl, rfl, rfl⟩
        cases hs : isSig [41] l q1.2
        · simp -dsimp [Tt, hs, -vc_block, g0, g1, g4, g5]
          refine aCall_of (cMust hl [44] (p := q1.2) hk4 (by simp)) ?_
          rintro d6 m6 n6 ⟨rfl, rfl, rfl⟩
          simp -dsimp [-vc_block, g0, g1, g4, g5]
          refine ⟨rem', by omega, by simp [g0], by simp [g1], by simp [g4], by omega, by rw [set_ne _ _ _ _ nk, hnm]; exact m4, fun j hj hjk => by rw [set_ne _ _ _ _ hjk]; exact hfr5 j hj hjk, ts' ++ [q1.1], ts' ++ [t'], mustF [44] l q1.2, ?_, ?_, by simp, hasn.then mustF_keep, by simp; omega, fun h20 => ?_, by simp, fun _ => ?_⟩
          · have := hL4.frame (m' := m4'.set k (pObj l (mustF [44] l q1.2))) fun j hj => set_ne _ _ _ _ (by have := hkk5 j hj; omega)
            simpa using this
          · intro j hj
            have := hkk5 j (by simpa using hj); omega
          · have h1 : q1.2.bad ≠ 0 := by rw [← hq1]; exact subF_20 (by simp at h20; omega)
            intro e; exact h1 (mustF_keep e)
          · rw [hrec, hs]; simp
        · simp -dsimp [Tt, hs, -vc_block, g0, g1, g4, g5]
          refine done_ _ _ _ (ts' ++ [q1.1]) (ts' ++ [t']) (stepF q1.2) (by simp [g0]) (by simp [g1]) (by simp [g4]) (by omega) (by rw [set_ne _ _ _ _ nk, hnm]) (fun j hj hjk => by rw [set_ne _ _ _ _ hjk]; exact hfr5 j hj hjk) ?_ ?_ (by simp) hasn.step (by simp; omega) ?_
          · have := hL4.frame (m' := m4'.set k (pObj l (stepF q1.2))) fun j hj => set_ne _ _ _ _ (by have := hkk5 j hj; omega)
            simpa using this
          · intro j hj
            have := hkk5 j (by simpa using hj); omega
          · rw [hrec, hs]; simp
    · rintro σ m2 n2 ⟨h0, h1, h4, nn, m4, fr, ts', hL, hkk, hpk, has, hlen⟩
      have hk2 : k < n2 := by omega
      simp -dsimp [h0, h1, h4]
      refine aCall_of (cMust hl [45, 62] hk2 hpk) ?_
      rintro d m3 n3 ⟨rfl, rfl, rfl⟩
      simp -dsimp [h0, h1, h4]
      refine aCall_of (cSub hl (by omega) H hk2 (p := mustF [45, 62] l (headF l r p).2) (by simp) (hL.frame fun j hj => set_ne _ _ _ _ (by have := hkk j hj; omega)) (by omega) fun j hj => by have := hkk j hj; omega) ?_
      intro d m4' n4 hR
      obtain ⟨⟨t', hL4, ht4⟩, hpk4, hnn4, hkk4, hfr4⟩ := hR
      have hn4 : m4' n = some ⟨7, [[I 0, S [], I 0, S [], S [], .v (.slice none 0 0), .v (.slice none 0 0)]], 0⟩ := by
        rw [hfr4 n (by omega) nk fun e => by have := hkk n e; omega, set_ne _ _ _ _ nk]; exact m4
      have hokd := okD_lst hL4
      simp -dsimp [hn4, hokd, S, I]
      refine hq ⟨ts' ++ [t'], d, by simp [I, S], ?_, ?_, ?_, ?_, ?_⟩
      · exact hL4.frame fun j hj => set_ne _ _ _ _ (by
          have := hkk4 j hj
          rcases this.2.2 with e | e
          · have := hkk j e; omega
          · omega)
      · intro j hj
        have := hkk4 j hj
        rcases this.2.2 with e | e
        · have := hkk j e; omega
        · omega
      · rw [hfun, has.1] at *
        intro e
        rw [ht4 e, has.2 (mustF_keep (subF_keep e))]
      · rw [set_ne _ _ _ _ kn, hpk4, hfun, has.1]
      · intro j hj hjk
        rw [set_ne _ _ _ _ (by omega), hfr4 j (by omega) hjk fun e => by have := hkk j e; omega, set_ne _ _ _ _ hjk]
        exact fr j hj hjk
  · rintro d m' n' ⟨ts', dl, rfl, h1, h2, h3, h4, h5⟩
    refine ⟨.agg (tyD (.mk 7 [] 0 [] [] [] ts')), _, ?_, h4, .pur (pur_pObj _ _), h5, _, rfl, h3⟩
    simp only [tyD]
    exact .agg (.cons (pur_I _).pub (.cons (pur_S _).pub (.cons (pur_I _).pub (.cons (pur_S _).pub (.cons (pur_S _).pub (.cons (pub_nil 1) (.cons (by rw [tysD_eq]; exact .lstP h1 h2 (pur_tym ts')) .nil)))))))
end Go.Proofs.Mv.App
open Go Go.Proofs Go.Proofs.Mv.V Go.RowKit
set_option maxRecDepth 10000
namespace Go.Proofs.Mv.App
section
variable [GI]
def partD (x : Nm) : List D := S x.1 :: tyD x.2
@[simp] theorem partD_len (x : Nm) : (partD x).length = 8 := by simp [partD]
@[simp] theorem partD_take (x : Nm) : (partD x).take 8 = partD x := List.take_of_length_le (by simp)
def hasD (q : Nat) : D := .func (.func 183) [] [.ptr q 0 0 0]
theorem cHas (x : Nm) {q : Nat} {kd a : Int} {tx : List UInt8} {m : Mem} {n : Nat} (hq' : q < n) (hm : m q = some ⟨3, [[I kd, I a, S tx]], 0⟩) :
    ACalls Tryz.prog 183 [.agg (partD x), .ptr q 0 0 0] m n (fun d m' n' => d = Tt (x.1 == tx) ∧ m' = m ∧ n' = n) := by
  have qn : q ≠ n := by omega
  have nq : n ≠ q := by omega
  refine acalls_done (R' := Hq (fun d m' n' => d = Tt (x.1 == tx) ∧ ∀ j, j < n → m' j = m j) tg) ?_ ?_
  · refine acalls_vc [0, 1, 2, 3] Tryz.func183 Tryz.ntmps183 (by kernel_rfl) rfl rfl (by simp) ?_
    simp -dsimp [partD, hm, set_ne, qn, nq, S, I]
    exact hq ⟨by simp [Tt], fun j hj => set_ne _ _ _ _ (by omega)⟩
  · rintro d m' n' ⟨rfl, h⟩
    exact ⟨_, (pur_T _).pub, h, rfl⟩
structure FindInv (ps : List Nm) (tx : List UInt8) (dl : D) (q : Nat) (m : Mem) (n : Nat) (i : Nat) (σ : Nat → D) (m2 : Mem) (n2 : Nat) : Prop where
  h0 : σ 0 = dl
  h1 : σ 1 = hasD q
  h7 : σ 7 = I ps.length
  h8 : σ 8 = I i
  le : i ≤ ps.length
  al : ∀ x ∈ ps.take i, ¬ x.1 = tx
  mm : m2 = m
  nn : n2 = n
theorem cFind {ps : List Nm} {dl : D} {q : Nat} {kd a : Int} {tx : List UInt8} {m : Mem} {n : Nat} (hL : Lst m 8 (ps.map partD) dl) (hlen : ps.length ≤ 1000) (hq' : q < n) (hm : m q = some ⟨3, [[I kd, I a, S tx]], 0⟩) :
    ACalls Tryz.prog 205 [dl, hasD q] m n (Hq (fun d m' n' => ∃ r : Int, d = I r ∧ (0 ≤ r ↔ tx ∈ ps.map (·.1)) ∧ m' = m ∧ n' = n) tg) := by
  have hll := lenD_lst hL
  rw [List.length_map] at hll
  refine acalls_vc [0, 1, 4, 5, 7, 8, 9, 16] Tryz.func205 Tryz.ntmps205 (by kernel_rfl) rfl rfl (by simp) ?_
  simp -dsimp [hll, hasD]
  refine vloop_of (β := Nat) (FindInv ps tx dl q m n) (fun i => ps.length - i) 0 ⟨by simp, by simp [hasD], by simp [I], by simp [I], by omega, by simp, rfl, rfl⟩ ?_
  rintro i σ m2 n2 ⟨h0, h1, h7, h8, le, al, rfl, rfl⟩
  by_cases hi : (i : Int) < ps.length
  · have hi' : i < ps.length := by omega
    have wi : IntKind.i64.wrap ((i : Int) + 1) = (i : Int) + 1 := wrap_i64 (by omega) (by omega)
    rcases hL with ⟨he, _⟩ | ⟨kk, gg, es', rfl, hmk, hle, htk⟩
    · have : ps = [] := by simpa using he
      subst this; simp at hi'
    have hgi : es'[i]? = some (partD ps[i]) := by
      have h1 : (es'.take (ps.map partD).length)[i]? = some (partD ps[i]) := by rw [htk]; simp [hi']
      rw [List.getElem?_take] at h1
      split at h1
      · exact h1
      · cases h1
    have hle' : i < es'.length := by simp at hle; omega
    have hgi' : es'[i] = partD ps[i] := get_opt hgi hle'
    simp -dsimp [h0, h1, h7, h8, I, hi, hi', hasD, hmk, hgi', hle']
    refine aCall_of (cHas ps[i] hq' hm) ?_
    rintro d m' n' ⟨rfl, rfl, rfl⟩
    by_cases e : ps[i].1 = tx
    · have e' : (ps[i].1 == tx) = true := by simp [e]
      simp -dsimp [Tt, e', h0, h1, h7, h8, I]
      exact hq ⟨i, rfl, by simp; exact ⟨ps[i].2, by rw [← e]; exact List.getElem_mem hi'⟩, rfl, rfl⟩
    · have e' : (ps[i].1 == tx) = false := by simp [e]
      simp -dsimp [Tt, e', h0, h1, h7, h8, I, wi]
      refine ⟨i + 1, by omega, by simp, by simp [hasD], by simp [I], by simp [I], by omega, ?_, rfl, rfl⟩
      intro x hx
      rw [List.take_succ_eq_append_getElem hi'] at hx
      rcases List.mem_append.1 hx with hx | hx
      · exact al x hx
      · simp at hx; rw [hx]; exact e
  · simp -dsimp [h0, h1, h7, h8, I, hi]
    have : i = ps.length := by omega
    subst this
    rw [List.take_length] at al
    refine hq ⟨-1, rfl, ?_, rfl, rfl⟩
    simp only [List.mem_map, not_exists]
    constructor
    · intro h; omega
    · rintro ⟨x, hx, e⟩; exact absurd e (al x hx)
theorem cContains {ps : List Nm} {dl : D} {q : Nat} {kd a : Int} {tx : List UInt8} {m : Mem} {n : Nat} (hL : Lst m 8 (ps.map partD) dl) (hlen : ps.length ≤ 1000) (hq' : q < n) (hm : m q = some ⟨3, [[I kd, I a, S tx]], 0⟩) :
    ACalls Tryz.prog 184 [dl, hasD q] m n (fun d m' n' => d = Tt (decide (tx ∈ ps.map (·.1))) ∧ m' = m ∧ n' = n) := by
  refine acalls_vc [0, 1, 4] Tryz.func184 Tryz.ntmps184 (by kernel_rfl) rfl rfl (by simp) ?_
  simp -dsimp
  refine aCall_of (cFind hL hlen hq' hm) ?_
  rintro d m' n' ⟨r, rfl, hr, rfl, rfl⟩
  by_cases h : tx ∈ ps.map (·.1)
  · have : 0 ≤ r := hr.2 h
    simp -dsimp [I, Tt, this, h]
  · have : ¬ 0 ≤ r := fun e => h (hr.1 e)
    simp -dsimp [I, Tt, this, h]
end
end Go.Proofs.Mv.App
open Go Go.Proofs Go.Proofs.Mv.V
set_option maxRecDepth 10000
namespace Go.Proofs.Mv.App
theorem toks_ok : ∀ (k : Nat) (s : List UInt8) (a : Nat), (tokF k s a).1.length ≤ s.length ∧ ∀ t ∈ (tokF k s a).1, t.text.length ≤ s.length := by
  intro k
  induction k with
  | zero => intro s a; simp [tokF]
  | succ k ih =>
    intro s a
    match s with
    | [] => simp [tokF]
    | x :: r =>
      have drop : ∀ q b, ((tokF k ((x :: r).drop q) b).1.length ≤ (x :: r).length - q) ∧ ∀ t ∈ (tokF k ((x :: r).drop q) b).1, t.text.length ≤ (x :: r).length - q := by
        intro q b
        have := ih ((x :: r).drop q) b
        rw [List.length_drop] at this
        exact this
      simp only [tokF]
      split
      · have := ih r (a + 1)
        simp only [List.length_cons]
        exact ⟨by omega, fun t ht => by have := this.2 t ht; omega⟩
      · split
        · have := drop (runN (fun y => !decide (y.toNat = 10)) (x :: r)) (a + runN (fun y => !decide (y.toNat = 10)) (x :: r))
          exact ⟨by omega, fun t ht => by have := this.2 t ht; omega⟩
        · split
          · simp
          · rename_i hf
            have := drop (firstT (x :: r)).2 (a + (firstT (x :: r)).2)
            have hl := firstT_le x r
            refine ⟨by simp only [List.length_cons] at this ⊢; omega, fun t ht => ?_⟩
            rcases List.mem_cons.1 ht with rfl | ht
            · simp only [List.length_take]; omega
            · have := this.2 t ht; omega
theorem toks_tk {s : List UInt8} (h : s.length ≤ 1000000) : TkOk (toksAt s 0).1 :=
  ⟨by have := (toks_ok (s.length + 1) s 0).1; unfold toksAt; omega, fun t ht => by have := (toks_ok (s.length + 1) s 0).2 t (by simpa [toksAt] using ht); omega⟩
end Go.Proofs.Mv.App
open Go Go.Proofs Go.Proofs.Mv.V
set_option maxRecDepth 10000
namespace Go.Proofs.Mv.App
section
variable [GI]
def zero7 : List D := [I 0, S [], I 0, S [], S [], .v (.slice none 0 0), .v (.slice none 0 0)]
def endS (g : Bool) : List UInt8 := if g then [93] else [125]
def knd (g : Bool) : Int := if g then 6 else 5
def headN (l : List Tok) (g : Bool) (r : Nat) (p : PS) : List Nm × PS := if g = false ∧ isSig [125] l p = true then ([], stepF p) else namedF l g (endS g) (typF l r) 22 [] p
theorem namedF_bad {l : List Tok} {g : Bool} {en : List UInt8} {rec : PS → Ty × PS} {k : Nat} {ts : List Nm} {p : PS} (h : p.bad ≠ 0) : namedF l g en rec k ts p = (ts, p) := by
  cases k <;> simp [namedF, h]
/-- What is amiss with the next part. -/
def swF (l : List Tok) (g : Bool) (ps : List Nm) (p : PS) : PS :=
  if isNam g l p = false then failF 2 p else if 20 ≤ ps.length then failF 3 p else if curT l p ∈ ps.map (·.1) then failF 5 p else p
theorem namedF_sw {l : List Tok} {g : Bool} {en : List UInt8} {rec : PS → Ty × PS} {k : Nat} {ps : List Nm} {p : PS} (h : p.bad = 0) (hs : (swF l g ps p).bad ≠ 0) : namedF l g en rec (k + 1) ps p = (ps, swF l g ps p) := by
  unfold swF at hs ⊢
  simp only [namedF]
  rw [if_neg (by simp [h])]
  split
  · rfl
  · split
    · rfl
    · split
      · rfl
      · rename_i h1 h2 h3; rw [if_neg h1, if_neg h2, if_neg h3] at hs; exact absurd h hs
theorem namedF_go {l : List Tok} {g : Bool} {en : List UInt8} {rec : PS → Ty × PS} {k : Nat} {ps : List Nm} {p : PS} (h : p.bad = 0) (hs : (swF l g ps p).bad = 0) : isNam g l p = true ∧ ps.length < 20 ∧ curT l p ∉ ps.map (·.1) ∧ swF l g ps p = p ∧
    namedF l g en rec (k + 1) ps p = (if isSig en l (rec (mustF [58] l (stepF p))).2 then (ps ++ [(curT l p, (rec (mustF [58] l (stepF p))).1)], stepF (rec (mustF [58] l (stepF p))).2)
      else namedF l g en rec k (ps ++ [(curT l p, (rec (mustF [58] l (stepF p))).1)]) (mustF [44] l (rec (mustF [58] l (stepF p))).2)) := by
  unfold swF at hs ⊢
  split at hs
  · exact absurd hs (failF_keep (by omega))
  · rename_i h1
    split at hs
    · exact absurd hs (failF_keep (by omega))
    · rename_i h2
      split at hs
      · exact absurd hs (failF_keep (by omega))
      · rename_i h3
        refine ⟨by simpa using h1, by omega, h3, by rw [if_neg h1, if_neg h2, if_neg h3], ?_⟩
        simp only [namedF]
        rw [if_neg (by simp [h]), if_neg h1, if_neg h2, if_neg h3]
end
section
variable [GI]
theorem pub_build {n : Nat} {m : Mem} (kd : Int) (a : List UInt8) (b : Int) (c d : List UInt8) : PubAs n m (.agg [I kd, S a, I b, S c, S d, .v (.slice none 0 0), .v (.slice none 0 0)]) (.agg (tyD (.mk kd a b c d [] []))) := by
  simp only [tyD, tysD]
  exact .agg (.cons (pur_I _).pub (.cons (pur_S _).pub (.cons (pur_I _).pub (.cons (pur_S _).pub (.cons (pur_S _).pub (.cons (pub_nil 1) (.cons (pub_nil 7) .nil)))))))
def TyQ (l : List Tok) (k : Nat) (m : Mem) (n : Nat) (t : Ty) (q : PS) : D → Mem → Nat → Prop :=
  Hq (fun d m' n' => ∃ t', PubAs n m' d (.agg (tyD t')) ∧ (q.bad = 0 → t' = t) ∧ m' k = some (pObj l q) ∧ ∀ j, j < n → j ≠ k → m' j = m j) tg
theorem acalls_ty {f : FuncId} {args : List D} {l : List Tok} {k : Nat} {m : Mem} {n : Nat} {t : Ty} {q : PS} (hk : k < n) (h : ACalls Tryz.prog f args m n (TyQ l k m n t q)) : ACalls Tryz.prog f args m n (TyR l k m n t q) := by
  refine acalls_put (X := fun d => ∃ t', d = .agg (tyD t') ∧ (q.bad = 0 → t' = t)) k hk _ h ?_
  rintro d m' n' ⟨t', h1, h2, h3, h4⟩
  exact ⟨.agg (tyD t'), _, h1, h3, .pur (pur_pObj _ _), h4, t', rfl, h2⟩
theorem tyq {l : List Tok} {k : Nat} {m : Mem} {n : Nat} {t : Ty} {q : PS} {d : D} {m' : Mem} {n' : Nat} (t' : Ty) (h1 : PubAs n m' d (.agg (tyD t'))) (h2 : q.bad = 0 → t' = t) (h3 : m' k = some (pObj l q)) (h4 : ∀ j, j < n → j ≠ k → m' j = m j) : TyQ l k m n t q d m' n' := ⟨t', h1, h2, h3, h4⟩
theorem typF_step {l : List Tok} {r : Nat} {p : PS} {t : Tok} (hc : cur l p = some t) (hb : begT t = true) (hn : p.cnt < 500) : typF l (r + 1) p = bodyF l t (typF l r) ⟨p.at_ + 1, p.cnt + 1, p.bad⟩ := by
  simp only [typF, hc]
  rw [if_neg (by simp [hb]), if_neg (by omega)]
theorem typF_large {l : List Tok} {r : Nat} {p : PS} (hb : begF l p = true) (h : r = 0 ∨ 500 ≤ p.cnt) : typF l r p = (Ty0, failF 3 p) := by
  cases r with
  | zero => simp [typF, hb]
  | succ r =>
    have hn : 500 ≤ p.cnt := by omega
    simp only [typF]
    split
    · rename_i h; simp [begF, h] at hb
    · rename_i t ht
      have : begT t = true := by simpa [begF, ht] using hb
      simp [this, hn]
theorem cnt_obj {l : List Tok} {p : PS} (hb : p.bad = 0) : (⟨4, [[toksD l, .v (.int .i64 ((p.at_ : Int) + 1)), .v (.int .i64 ((p.cnt : Int) + 1)), .v .nilIface]], 0⟩ : V.Obj) = pObj l ⟨p.at_ + 1, p.cnt + 1, p.bad⟩ := by
  simp [pObj, pC, errD, hb, I, nilE]
end
@[simp] theorem okD_toks [GI] (l : List Tok) : okD (toksD l) = true := rfl
@[simp] theorem cellsOf_toks [GI] (l : List Tok) : cellsOf (toksD l) = [toksD l] := rfl
@[simp] theorem okD_errO' [GI] (a c : Int) : okD (spotE a c) = true := rfl
@[simp] theorem cellsOf_spotE [GI] (a c : Int) : cellsOf (spotE a c) = [spotE a c] := rfl
/-- What At tells: the type, the place behind it, what is amiss. -/
def atF (l : List Tok) (i : Int) : Ty × Nat × Option (Int × Nat) :=
  if i < 0 ∨ (l.length : Int) < i then (Ty0, 0, some (i, 2))
  else if (typF l 32 ⟨i.toNat, 0, 0⟩).2.bad ≠ 0 then (Ty0, 0, some ((typF l 32 ⟨i.toNat, 0, 0⟩).2.at_, (typF l 32 ⟨i.toNat, 0, 0⟩).2.bad))
  else ((typF l 32 ⟨i.toNat, 0, 0⟩).1, (typF l 32 ⟨i.toNat, 0, 0⟩).2.at_, none)
def errO [GI] : Option (Int × Nat) → D
  | none => nilE
  | some (a, c) => spotE a c
theorem pur_errO [GI] (o : Option (Int × Nat)) : Pur (errO o) := by
  cases o with
  | none => exact pur_nilE
  | some x => exact pur_spotE _ _
theorem pub_ty0 [GI] {n : Nat} {m : Mem} : PubAs n m (.agg [I 0, S [], I 0, S [], S [], .v (.slice none 0 0), .v (.slice none 0 0)]) (.agg (tyD Ty0)) := pub_build 0 [] 0 [] []
/-- What is amiss with a text. -/
inductive PErr where
  | none
  | large
  | spot (a : Int) (c : Nat)
def errP [GI] : PErr → D
  | .none => nilE
  | .large => code 3
  | .spot a c => spotE a c
theorem pur_errP [GI] (o : PErr) : Pur (errP o) := by
  cases o
  · exact pur_nilE
  · exact pur_code _
  · exact pur_spotE _ _
end Go.Proofs.Mv.App
