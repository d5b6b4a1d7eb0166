/- A part of the proofs: machine, contracts, laws. No condition of its own. -/
import Derived.Test.YtihbegkefjjhpaaGreatDoorP01
import Derived.Lib.ParseIntB
import Derived.Test.YtihbegkefjjhpaaGreatDoorP00
set_option linter.unusedSimpArgs false
set_option linter.unusedVariables false
set_option linter.unusedSectionVars false
open Go Go.Proofs Go.Proofs.Mv.V
namespace Go.Proofs.Mv.App
def decA (acc : Nat) (s : List UInt8) : Nat := s.foldl (fun n x => 10 * n + (x.toNat - 48)) acc
theorem decA_cons (acc : Nat) (x : UInt8) (s : List UInt8) : decA acc (x :: s) = decA (10 * acc + (x.toNat - 48)) s := by unfold decA; rw [List.foldl_cons]
theorem decA_ge (s : List UInt8) : ∀ acc, acc * 10 ^ s.length ≤ decA acc s := by
 induction s with
 | nil => intro acc; simp [decA]
 | cons x s ih =>
  intro acc
  have h1 := ih (10 * acc + (x.toNat - 48))
  rw [decA_cons, List.length_cons, Nat.pow_succ]
  generalize 10 ^ s.length = q at h1 ⊢
  have h2 : 10 * acc * q ≤ (10 * acc + (x.toNat - 48)) * q := Nat.mul_le_mul_right _ (by omega)
  have h3 : acc * (q * 10) = 10 * acc * q := by rw [Nat.mul_comm q 10, ← Nat.mul_assoc, Nat.mul_comm acc 10]
  omega
theorem decA_lt (s : List UInt8) : ∀ acc, s.all isDigit = true → decA acc s < (acc + 1) * 10 ^ s.length := by
 induction s with
 | nil => intro acc _; simp [decA]
 | cons x s ih =>
  intro acc h
  simp only [List.all_cons, Bool.and_eq_true] at h
  have hx : x.toNat ≤ 57 := by have := h.1; simp [isDigit] at this; omega
  have h1 := ih (10 * acc + (x.toNat - 48)) h.2
  rw [decA_cons, List.length_cons, Nat.pow_succ]
  generalize 10 ^ s.length = q at h1 ⊢
  have h2 : (10 * acc + (x.toNat - 48) + 1) * q ≤ (10 * (acc + 1)) * q := Nat.mul_le_mul_right _ (by omega)
  have h3 : (acc + 1) * (q * 10) = 10 * (acc + 1) * q := by rw [Nat.mul_comm q 10, ← Nat.mul_assoc, Nat.mul_comm (acc + 1) 10]
  omega
theorem decA_mono (s : List UInt8) (acc : Nat) : acc ≤ decA acc s :=
 Nat.le_trans (by exact Nat.le_mul_of_pos_right _ (Nat.pow_pos (by omega))) (decA_ge s acc)
theorem pm_ok : ∀ (s : List UInt8) (acc : Nat), s.all isDigit = true → decA acc s ≤ 4294967295 → Lib.parseUintM (2 ^ 32 - 1) acc s = .ok (decA acc s)
 | [], acc, _, _ => rfl
 | x :: s, acc, h, hle => by
  simp only [List.all_cons, Bool.and_eq_true] at h
  have hx : 48 ≤ x.toNat ∧ x.toNat ≤ 57 := by have := h.1; simpa [isDigit] using this
  rw [decA_cons] at hle ⊢
  have hm := decA_mono s (10 * acc + (x.toNat - 48))
  rw [Lib.parseUintM, if_pos hx, if_neg (by omega), if_neg (by omega), Nat.mul_comm acc 10]
  exact pm_ok s _ h.2 hle
theorem pm_inv (M : Nat) : ∀ (s : List UInt8) (acc u : Nat), Lib.parseUintM M acc s = .ok u → s.all isDigit = true ∧ u = decA acc s
 | [], acc, u, h => by simp only [Lib.parseUintM, Lib.NumEnd.ok.injEq] at h; exact ⟨rfl, h.symm⟩
 | x :: s, acc, u, h => by
  rw [Lib.parseUintM] at h
  split at h
  ·rename_i hx
   split at h
   ·cases h
   ·split at h
    ·cases h
    ·obtain ⟨h1, h2⟩ := pm_inv M s _ u h
     rw [Nat.mul_comm acc 10] at h2
     exact ⟨by simp [List.all_cons, h1, isDigit, hx], h2⟩
  ·cases h
theorem numOk_of {s : List UInt8} {u : Nat} (h : Lib.parseUintB 32 s = .ok u) (h1 : 1 ≤ u) (h2 : u ≤ 999999999) (h3 : s.head? ≠ some 48) : numOk s = true ∧ u = decF s := by
 unfold Lib.parseUintB at h
 split at h
 ·cases h
 rename_i hne
 obtain ⟨hd, hu⟩ := pm_inv _ s 0 u h
 refine ⟨?_, hu⟩
 match s, hne with
 | x :: r, _ =>
  simp only [List.all_cons, Bool.and_eq_true] at hd
  have hx : 48 ≤ x.toNat ∧ x.toNat ≤ 57 := by have := hd.1; simpa [isDigit] using this
  have hx0 : x.toNat ≠ 48 := fun e => h3 (by simp; exact UInt8.toNat_inj.1 e)
  have hlen : (x :: r).length ≤ 9 := by
   rw [decA_cons] at hu
   have hge := decA_ge r (10 * 0 + (x.toNat - 48))
   have : 1 * 10 ^ r.length ≤ (10 * 0 + (x.toNat - 48)) * 10 ^ r.length := Nat.mul_le_mul_right _ (by omega)
   rcases Nat.lt_or_ge r.length 9 with hl | hl
   ·simp only [List.length_cons]; omega
   ·have hp : 10 ^ 9 ≤ 10 ^ r.length := Nat.pow_le_pow_right (by omega) hl
    have : (10 : Nat) ^ 9 = 1000000000 := by decide
    omega
  simp only [numOk, List.all_cons, hd.1, hd.2, Bool.and_self, Bool.and_true, Bool.and_eq_true, decide_eq_true_eq]
  exact ⟨⟨by simp, hlen⟩, h3⟩
theorem of_numOk {s : List UInt8} (h : numOk s = true) : Lib.parseUintB 32 s = .ok (decF s) ∧ 1 ≤ decF s ∧ decF s ≤ 999999999 ∧ s.head? ≠ some 48 ∧ s ≠ [] := by
 simp only [numOk, Bool.and_eq_true, decide_eq_true_eq] at h
 obtain ⟨⟨⟨h1, h2⟩, h3⟩, h4⟩ := h
 match s, h1, h2, h3, h4 with
 | x :: r, h1, h2, h3, h4 =>
  have h3' := h3
  simp only [List.all_cons, Bool.and_eq_true] at h3
  have hx : 48 ≤ x.toNat ∧ x.toNat ≤ 57 := by have := h3.1; simpa [isDigit] using this
  have hx0 : x.toNat ≠ 48 := fun e => h4 (by simp; exact UInt8.toNat_inj.1 e)
  have hlt := decA_lt (x :: r) 0 h3'
  have hp : 10 ^ (x :: r).length ≤ 10 ^ 9 := Nat.pow_le_pow_right (by omega) h2
  have h9 : (10 : Nat) ^ 9 = 1000000000 := by decide
  have hle : decF (x :: r) ≤ 999999999 := by show decA 0 (x :: r) ≤ _; omega
  have hge : 1 ≤ decF (x :: r) := by
   show 1 ≤ decA 0 (x :: r)
   rw [decA_cons]
   exact Nat.le_trans (by omega) (decA_mono r _)
  refine ⟨?_, hge, hle, h4, by simp⟩
  unfold Lib.parseUintB
  rw [if_neg (by simp)]
  exact pm_ok (x :: r) 0 h3' (by show decF _ ≤ _; omega)
end Go.Proofs.Mv.App
open Go Go.Proofs Go.Proofs.Mv.V
set_option maxRecDepth 10000
namespace Go.Proofs.Mv.App
variable [GI]
structure TkOk (l : List Tok) : Prop where
 len : l.length ≤ 1000000
 txt : ∀ t ∈ l, t.text.length ≤ 1000000
def errD (p : PS) : D := if p.bad = 0 then nilE else spotE p.at_ p.bad
def toksD (l : List Tok) : D := .sl 3 (l.map tokD)
def pC (l : List Tok) (p : PS) : List D := [toksD l, I p.at_, I p.cnt, errD p]
def pObj (l : List Tok) (p : PS) : V.Obj := ⟨4, [pC l p], 0⟩
theorem pur_tok (t : Tok) : ∀ d ∈ tokD t, Pur d := by
 intro d hd
 simp only [tokD, List.mem_cons, List.not_mem_nil, or_false] at hd
 rcases hd with rfl | rfl | rfl
 ·exact pur_I _
 ·exact pur_I _
 ·exact pur_S _
theorem pur_toks (l : List Tok) : Pur (toksD l) := Pur.sl (by
 intro e he d hd
 obtain ⟨t, _, rfl⟩ := List.mem_map.1 he
 exact pur_tok t d hd)
theorem pur_spotE (a c : Int) : Pur (spotE a c) := Pur.iface (Pur.rptr (by
 intro d hd
 simp only [List.mem_cons, List.not_mem_nil, or_false] at hd
 rcases hd with rfl | rfl
 ·exact Pur.v _
 ·exact Pur.iface (Pur.v _)))
theorem pur_errD (p : PS) : Pur (errD p) := by
 unfold errD; split
 ·exact pur_nilE
 ·exact pur_spotE _ _
theorem pur_pC (l : List Tok) (p : PS) : ∀ d ∈ pC l p, Pur d := by
 intro d hd
 simp only [pC, List.mem_cons, List.not_mem_nil, or_false] at hd
 rcases hd with rfl | rfl | rfl | rfl
 ·exact pur_toks _
 ·exact pur_I _
 ·exact pur_I _
 ·exact pur_errD _
theorem pur_pObj (l : List Tok) (p : PS) : ∀ e ∈ (pObj l p).es, ∀ d ∈ e, Pur d := by
 intro e he d hd
 simp only [pObj, List.mem_singleton] at he
 subst he; exact pur_pC l p d hd
theorem pur_tup0 : Pur (.tup []) := Pur.tup (by simp)
def peekD (l : List Tok) (p : PS) : List D := match cur l p with
 | some t => tokD t
 | none => [I 0, I 0, S []]
theorem cur_some {l : List Tok} {p : PS} {t : Tok} (h : cur l p = some t) : p.bad = 0 ∧ p.at_ < l.length ∧ l[p.at_]? = some t := by
 unfold cur at h
 split at h
 ·rename_i hb
  refine ⟨hb, ?_, h⟩
  rcases Nat.lt_or_ge p.at_ l.length with h1 | h1
  ·exact h1
  ·rw [List.getElem?_eq_none h1] at h; cases h
 ·cases h
theorem cFail {l : List Tok} {p : PS} (c : Nat) (hc : c ≠ 0) {k : Nat} {m : Mem} {n : Nat} (hk : k < n) (hm : m k = some (pObj l p)) :
  ACalls Tryz.prog 177 [.ptr k 0 0 0, I c] m n (fun d m' n' => d = .tup [] ∧ m' = m.set k (pObj l (failF c p)) ∧ n' = n) := by
 have kn : k ≠ n := by omega
 have nk : n ≠ k := by omega
 by_cases hb : p.bad = 0
 ·refine acalls_put (R' := Hq (fun d m' n' => d = .tup [] ∧ (∃ q, n ≤ q ∧ m' k = some ⟨4, [[toksD l, I p.at_, I p.cnt, .iface 62 (.ptr q 0 0 0)]], 0⟩ ∧ m' q = some ⟨2, [[I p.at_, code c]], 0⟩) ∧ ∀ j, j < n → j ≠ k → m' j = m j) tg) k hk _ ?_ ?_
  ·refine acalls_vc [0, 1, 8] Tryz.func177 Tryz.ntmps177 (by kernel_rfl) rfl rfl (by simp) ?_
   simp -dsimp [hm, pObj, pC, errD, hb, nilE, set_ne, kn, nk]
   refine hq ⟨rfl, ⟨n, Nat.le_refl _, by simp, by simp [set_ne, nk, code, I]⟩, fun j hj hjk => ?_⟩
   rw [set_ne _ _ _ _ hjk, set_ne _ _ _ _ (by omega)]
  ·rintro d m' n' ⟨rfl, ⟨q, h1, h2, h3⟩, h4⟩
   have hf : failF c p = ⟨p.at_, p.cnt, c⟩ := by simp [failF, hb]
   rw [hf]
   refine ⟨_, _, pur_tup0.pub, h2, .cons (.cons (pur_toks l).pub (.cons (pur_I _).pub (.cons (pur_I _).pub (.cons ?_ .nil)))) .nil, h4, rfl⟩
   simp only [errD, if_neg hc]
   exact .iface (.ptr h3 h1 (.cons (pur_I _).pub (.cons (pur_code _).pub .nil)))
 ·rw [failF_bad hb, set_self hm]
  refine acalls_vc [0, 1, 8] Tryz.func177 Tryz.ntmps177 (by kernel_rfl) rfl rfl (by simp) ?_
  simp -dsimp [hm, pObj, pC, errD, hb, spotE]
  done
theorem cPeek {l : List Tok} {p : PS} {k : Nat} {m : Mem} {n : Nat} (hk : k < n) (hm : m k = some (pObj l p)) :
  ACalls Tryz.prog 205 [.ptr k 0 0 0] m n (fun d m' n' => d = .agg (peekD l p) ∧ m' = m ∧ n' = n) := by
 have kn : k ≠ n := by omega
 have nk : n ≠ k := by omega
 have fr : ∀ o, ∀ j, j < n → (m.set n o) j = m j := fun o j hj => set_ne _ _ _ _ (by omega)
 refine acalls_done (R' := Hq (fun d m' n' => d = .agg (peekD l p) ∧ ∀ j, j < n → m' j = m j) tg) ?_ ?_
 ·refine acalls_vcC [0, 2, 19] Tryz.func205 Tryz.ntmps205 (by kernel_rfl) rfl rfl (by simp) ?_
  by_cases hb : p.bad = 0
  ·by_cases ha : p.at_ < l.length
   ·have hg : (l.map tokD)[p.at_]? = some (tokD l[p.at_]) := by simp [ha]
    have hl : (l.map tokD).length = l.length := by simp
    have hc : peekD l p = tokD l[p.at_] := by simp [peekD, cur, hb, ha]
    have hle : ¬ (l.length : Int) ≤ p.at_ := by omega
    have htk : tokD l[p.at_] = [I l[p.at_].kind, I l[p.at_].at_, S l[p.at_].text] := rfl
    generalize hL : l.map tokD = L at hg hl
    have hgi : L[p.at_]'(by omega) = tokD l[p.at_] := get_opt hg _
    rw [hc]
    simp -dsimp [hm, pObj, pC, errD, hb, nilE, toksD, hL, hl, I, hle, set_ne, kn, nk]
    refine vdraw_of [0, 1, 3, 7, 15, 31, 63, 127, 255, 511, 63, 1087, 3135, 7231, 15423, 32767, 65535] [0, 1, 2, 3, 4, 5, 6, 7, 8, 9, 10, 11, 12, 13, 14, 15, 16] (by kernel_rfl) (by kernel_rfl) ?_
    simp -dsimp [hm, pObj, pC, errD, hb, nilE, toksD, hL, hl, I, hle, set_ne, kn, nk]
    refine vdraw_of [0, 1, 3, 7, 0, 16, 48, 112, 255, 511, 1023] [0, 1, 2, 3, 4, 5, 6, 7, 8, 9, 10] (by kernel_rfl) (by kernel_rfl) ?_
    simp -dsimp [hm, pObj, pC, errD, hb, nilE, toksD, hL, hl, I, hle, set_ne, kn, nk, hgi, ha, htk]
    exact hq ⟨by simp [htk, I], fr _⟩
   ·have hc : peekD l p = [I 0, I 0, S []] := by simp [peekD, cur, hb, ha]
    have hle : (l.length : Int) ≤ p.at_ := by omega
    rw [hc]
    simp -dsimp [hm, pObj, pC, errD, hb, nilE, toksD, I, hle, set_ne, kn, nk]
    refine vdraw_of [0, 1, 3, 7, 15, 31, 63, 127, 255, 511, 63, 1087, 3135, 7231, 15423, 32767, 65535] [0, 1, 2, 3, 4, 5, 6, 7, 8, 9, 10, 11, 12, 13, 14, 15, 16] (by kernel_rfl) (by kernel_rfl) ?_
    simp -dsimp [hm, pObj, pC, errD, hb, nilE, toksD, I, hle, set_ne, kn, nk]
    exact hq ⟨by simp [I, S], fr _⟩
  ·have hc : peekD l p = [I 0, I 0, S []] := by simp [peekD, cur, hb]
   rw [hc]
   simp -dsimp [hm, pObj, pC, errD, hb, spotE, set_ne, kn, nk]
   refine vdraw_of [0, 1, 3, 7, 15, 31, 63, 127, 255, 511, 63, 1087, 3135, 7231, 15423, 32767, 65535] [0, 1, 2, 3, 4, 5, 6, 7, 8, 9, 10, 11, 12, 13, 14, 15, 16] (by kernel_rfl) (by kernel_rfl) ?_
   simp -dsimp [hm, pObj, pC, errD, hb, spotE, set_ne, kn, nk]
   exact hq ⟨by simp [I, S], fr _⟩
 ·rintro d m' n' ⟨rfl, h⟩
  refine ⟨_, Pur.pub (Pur.agg ?_), h, rfl⟩
  unfold peekD; split
  ·exact pur_tok _
  ·intro d hd
   simp only [List.mem_cons, List.not_mem_nil, or_false] at hd
   rcases hd with rfl | rfl | rfl
   ·exact pur_I _
   ·exact pur_I _
   ·exact pur_S _
end Go.Proofs.Mv.App
open Go Go.Proofs Go.Proofs.Mv.V
set_option maxRecDepth 10000
namespace Go.Proofs.Mv.App
variable [GI]
structure Pk (l : List Tok) (p : PS) (kd a : Int) (tx : List UInt8) : Prop where
 pk : peekD l p = [I kd, I a, S tx]
 sig : ∀ s, isSig s l p = (decide (kd = 4) && decide (tx = s))
 nam : ∀ g, isNam g l p = (decide (kd = if g then 2 else 1) && namOk g tx)
 num : isNum l p = (decide (kd = 3) && numOk tx)
 beg : begF l p = begT ⟨kd, a, tx⟩
 tex : curT l p = tx
 len : tx.length ≤ 1000000
 ok : kd ≠ 0 → p.bad = 0 ∧ p.at_ < l.length
 cu : (cur l p = none ∧ kd = 0) ∨ cur l p = some ⟨kd, a, tx⟩
theorem pk_of {l : List Tok} (hl : TkOk l) (p : PS) : ∃ kd a tx, Pk l p kd a tx := by
 cases h : cur l p with
 | none => exact ⟨0, 0, [], by simp [peekD, h], by simp [isSig, h], by intro g; cases g <;> simp [isNam, h], by simp [isNum, h], by simp [begF, h, begT], by simp [curT, h], by simp, by simp, .inl ⟨h, rfl⟩⟩
 | some t =>
  obtain ⟨kd, a, tx⟩ := t
  obtain ⟨h1, h2, h3⟩ := cur_some h
  exact ⟨kd, a, tx, by simp [peekD, h, tokD], by simp [isSig, h], by intro g; simp [isNam, h], by simp [isNum, h], by simp [begF, h], by simp [curT, h],
   hl.txt _ (List.mem_of_getElem? h3), fun _ => ⟨h1, h2⟩, .inr h⟩
theorem wrap_at {l : List Tok} (hl : TkOk l) {p : PS} (h : p.at_ < l.length) : IntKind.i64.wrap ((p.at_ : Int) + 1) = (p.at_ : Int) + 1 := wrap_i64 (by omega) (by have := hl.len; omega)
theorem pObj_step {l : List Tok} {p : PS} (h : p.bad = 0) : pObj l (stepF p) = ⟨4, [[toksD l, .v (.int .i64 ((p.at_ : Int) + 1)), I p.cnt, .v .nilIface]], 0⟩ := by
 simp [pObj, pC, stepF, errD, h, I, nilE]
theorem cSign {l : List Tok} (hl : TkOk l) {p : PS} (s : List UInt8) {k : Nat} {m : Mem} {n : Nat} (hk : k < n) (hm : m k = some (pObj l p)) :
  ACalls Tryz.prog 235 [.ptr k 0 0 0, S s] m n (fun d m' n' => d = Tt (isSig s l p) ∧ m' = m.set k (pObj l (if isSig s l p then stepF p else p)) ∧ n' = n) := by
 have kn : k ≠ n := by omega
 have nk : n ≠ k := by omega
 obtain ⟨kd, a, tx, hp⟩ := pk_of hl p
 refine acalls_fin hk (pur_pObj _ _) (fun d h => by rw [h]; exact pur_T _) ?_
 refine acalls_vc [0, 1, 4, 5, 6, 18] Tryz.func235 Tryz.ntmps235 (by kernel_rfl) rfl rfl (by simp) ?_
 simp -dsimp
 refine aCall_of (cPeek hk hm) ?_
 rintro d m' n' ⟨rfl, rfl, rfl⟩
 rw [hp.pk, hp.sig]
 by_cases e4 : kd = 4
 ·obtain ⟨hb, ha⟩ := hp.ok (by omega)
  have wa := wrap_at hl ha
  by_cases e : tx = s
  ·have e' : (tx == s) = true := by simp [e]
   simp -dsimp [I, S, e4, e', hm, set_ne, kn, nk, pObj, pC, wa]
   refine fin_mk (by simp [e, Tt]) ?_ fun j hj hjk => ?_
   ·simp [e, pObj, pC, errD, hb, stepF, I]
   ·rw [set_ne _ _ _ _ hjk, set_ne _ _ _ _ (by omega)]
  ·have e' : (tx == s) = false := by simp [e]
   simp -dsimp [I, S, e4, e', hm, set_ne, kn, nk]
   refine fin_mk (by simp [e, Tt]) ?_ fun j hj hjk => ?_
   ·simp [e, hm, set_ne, kn]
   ·rw [set_ne _ _ _ _ (by omega)]
 ·have e4' : (kd == 4) = false := by simp [e4]
  simp -dsimp [I, S, e4', hm, set_ne, kn, nk]
  refine fin_mk (by simp [e4, Tt]) ?_ fun j hj hjk => ?_
  ·simp [e4, hm, set_ne, kn]
  ·rw [set_ne _ _ _ _ (by omega)]
theorem cMust {l : List Tok} (hl : TkOk l) {p : PS} (s : List UInt8) {k : Nat} {m : Mem} {n : Nat} (hk : k < n) (hm : m k = some (pObj l p)) :
  ACalls Tryz.prog 207 [.ptr k 0 0 0, S s] m n (fun d m' n' => d = .tup [] ∧ m' = m.set k (pObj l (mustF s l p)) ∧ n' = n) := by
 refine acalls_vc [0, 1, 7] Tryz.func207 Tryz.ntmps207 (by kernel_rfl) rfl rfl (by simp) ?_
 simp -dsimp [S]
 refine aCall_of (cSign hl s hk hm) ?_
 rintro d m' n' ⟨rfl, rfl, rfl⟩
 cases e : isSig s l p
 ·simp -dsimp [Tt]
  refine aCall_of (cFail (l := l) (p := p) 2 (by omega) hk (by simp)) ?_
  rintro d m' n' ⟨rfl, rfl, rfl⟩
  simp -dsimp [mustF, e]
 ·simp -dsimp [Tt, mustF, e]
theorem cName {l : List Tok} (hl : TkOk l) {p : PS} (g : Bool) (f : FuncId) (hf : ∀ (s : List UInt8) (hs : s.length ≤ 1000000000) (m : Mem) (n : Nat), ACalls Tryz.prog f [S s] m n (fun d m' n' => d = Tt (namOk g s) ∧ m' = m ∧ n' = n))
  {k : Nat} {m : Mem} {n : Nat} (hk : k < n) (hm : m k = some (pObj l p)) :
  ACalls Tryz.prog 208 [.ptr k 0 0 0, I (if g then 2 else 1), .func (.func f) [] []] m n (fun d m' n' => d = S (nameF g l p).1 ∧ m' = m.set k (pObj l (nameF g l p).2) ∧ n' = n) := by
 have kn : k ≠ n := by omega
 have nk : n ≠ k := by omega
 have kn1 : k < n + 1 := by omega
 obtain ⟨kd, a, tx, hp⟩ := pk_of hl p
 refine acalls_fin hk (pur_pObj _ _) (fun d h => by rw [h]; exact pur_S _) ?_
 refine acalls_vc [0, 1, 2, 6, 7, 20] Tryz.func208 Tryz.ntmps208 (by kernel_rfl) rfl rfl (by simp) ?_
 simp -dsimp [I]
 refine aCall_of (cPeek hk hm) ?_
 rintro d m' n' ⟨rfl, rfl, rfl⟩
 rw [hp.pk]
 have hn := hp.nam g
 generalize hg2 : (if g = true then (2 : Int) else 1) = kg at hn
 have hkg : kg ≠ 0 := by rw [← hg2]; split <;> omega
 have fail : ∀ (m2 : Mem), m2 k = some (pObj l p) → isNam g l p = false → nameF g l p = ([], failF 2 p) := fun m2 _ h => by simp [nameF, h]
 by_cases e : kd = kg
 ·have e' : (kd != kg) = false := by simp [e]
  have hlen := hp.len
  simp -dsimp [I, S, e', hm, set_ne, kn, nk]
  refine aCall_of (hf tx (by omega) _ _) ?_
  rintro d m2 n2 ⟨rfl, rfl, rfl⟩
  cases eo : namOk g tx
  ·have hfa : isNam g l p = false := by rw [hn]; simp [eo]
   simp -dsimp [Tt]
   refine aCall_of (cFail (l := l) (p := p) 2 (by omega) kn1 (by simp [set_ne, kn, hm])) ?_
   rintro d m2 n2 ⟨rfl, rfl, rfl⟩
   simp -dsimp
   refine fin_mk (by simp [nameF, hfa, S]) (by simp [nameF, hfa]) fun j hj hjk => ?_
   rw [set_ne _ _ _ _ hjk, set_ne _ _ _ _ (by omega)]
  ·have htr : isNam g l p = true := by rw [hn]; simp [eo, e]
   obtain ⟨hb, ha⟩ := hp.ok (by omega)
   have wa := wrap_at hl ha
   simp -dsimp [Tt, hm, set_ne, kn, nk, pObj, pC, I, wa]
   refine fin_mk (by simp [nameF, htr, hp.tex, S]) ?_ fun j hj hjk => ?_
   ·simp [nameF, htr, pObj, pC, errD, hb, stepF, I]
   ·rw [set_ne _ _ _ _ hjk, set_ne _ _ _ _ (by omega)]
 ·have e' : (kd != kg) = true := by simp [e]
  have hfa : isNam g l p = false := by rw [hn]; simp [e]
  simp -dsimp [I, S, e', hm, set_ne, kn, nk]
  refine aCall_of (cFail (l := l) (p := p) 2 (by omega) kn1 (by simp [set_ne, kn, hm])) ?_
  rintro d m2 n2 ⟨rfl, rfl, rfl⟩
  simp -dsimp
  refine fin_mk (by simp [nameF, hfa, S]) (by simp [nameF, hfa]) fun j hj hjk => ?_
  rw [set_ne _ _ _ _ hjk, set_ne _ _ _ _ (by omega)]
theorem cBase (s : List UInt8) (m : Mem) (n : Nat) : ACalls Tryz.prog 212 [S s] m n (fun d m' n' => d = I (baseN s) ∧ m' = m ∧ n' = n) := by
 refine acalls_vc [0, 2, 3, 4, 6, 8] Tryz.func212 Tryz.ntmps212 (by kernel_rfl) rfl rfl (by simp) ?_
 by_cases e1 : s = wInt
 ·have : baseN s = 1 := by simp [baseN, e1]
  have f1 : (s == [73, 110, 116]) = true := by simp [e1, wInt]
  simp -dsimp [S, this, I, f1]
 have f1 : (s == [73, 110, 116]) = false := by simpa [wInt] using e1
 by_cases e2 : s = wText
 ·have : baseN s = 2 := by simp [baseN, e2]; decide
  have f2 : (s == [84, 101, 120, 116]) = true := by simp [e2, wText]
  simp -dsimp [S, this, I, f1, f2]
 have f2 : (s == [84, 101, 120, 116]) = false := by simpa [wText] using e2
 by_cases e3 : s = wBool
 ·have : baseN s = 3 := by simp [baseN, e3]; decide
  have f3 : (s == [66, 111, 111, 108]) = true := by simp [e3, wBool]
  simp -dsimp [S, this, I, f1, f2, f3]
 have f3 : (s == [66, 111, 111, 108]) = false := by simpa [wBool] using e3
 have : baseN s = 0 := by simp [baseN, e1, e2, e3]
 simp -dsimp [S, this, I, f1, f2, f3]
end Go.Proofs.Mv.App
open Go Go.Proofs Go.Proofs.Mv.V Go.RowKit
set_option maxRecDepth 10000
namespace Go.Proofs.Mv.App
theorem cParseUint (s : List UInt8) (hs : s.length ≤ 1000000000) (m : Mem) (n : Nat) : ACalls Tryz.prog 174 [S s, I 10, I 32] m n (fun d m' n' => ∃ (x : Int) (e : D), d = .tup [.v (.int .u64 x), e] ∧
  (match okU (Lib.parseUintB 32 s) with | some u => x = u ∧ e = nilE | none => ∃ t, e = .iface t .any) ∧ m' = m ∧ n' = n) := by
 refine acalls_lib ⟨_, Tryz.func174, by kernel_rfl, by kernel_rfl⟩ fun w ν F vals hst hv => ?_
 obtain ⟨a, b, c, rfl, h1, h2, h3⟩ := conVs_arr3 hv
 simp only [Con, S, I] at h1 h2 h3
 subst h1; subst h2; subst h3
 have hsz : (ofL s).size = s.length := by show (s.toArray).size = _; simp
 have hdl : (ofL s).data.toList = s := rfl
 rcases hp : Lib.parseUintB 32 s with u | _ | _
 ·refine Calls.mono (show Calls Tryz.prog 174 _ _ _ from Any.strconv_ParseUint_10_at32_ok Tryz.laysPu14 (ofL s) (by omega) u (by rw [hdl]; exact hp) w) ?_
  rintro e w' ⟨rfl, hw⟩
  refine ⟨_, rfl, ?_, .tup [.v (.int .u64 u), nilE], ?_, (u : Int), nilE, rfl, by simp [okU], rfl, rfl⟩
  ·rcases hw with rfl | rfl
   ·exact Below.refl _ _
   ·exact Lib.bytesWorld_below _ _ _
  ·simp [Con, ConVs, nilE]
 ·obtain ⟨te, pe, hc⟩ := hst.gi.c1
  refine Calls.mono (show Calls Tryz.prog 174 _ _ _ from Any.strconv_ParseUint_10_at32_syntax Tryz.laysPu14 (ofL s) (by omega) (by rw [hdl]; exact hp) _ w hc (.inr ⟨_, _, rfl⟩)) ?_
  rintro e w' ⟨N, rfl, _, _, hb⟩
  refine ⟨_, rfl, hb, .tup [.v (.int .u64 0), .iface (Tryz.laysPu14_ren.t 39) .any], ?_, _, _, rfl, ⟨_, rfl⟩, rfl, rfl⟩
  simp only [Con, ConVs]
  exact ⟨_, rfl, _, _, rfl, rfl, _, _, rfl, ⟨_, rfl, trivial⟩, rfl⟩
 ·obtain ⟨te, pe, hc⟩ := hst.gi.c2
  refine Calls.mono (show Calls Tryz.prog 174 _ _ _ from Any.strconv_ParseUint_10_at32_range Tryz.laysPu14 (ofL s) (by omega) (by rw [hdl]; exact hp) _ w hc (.inr ⟨_, _, rfl⟩)) ?_
  rintro e w' ⟨N, rfl, _, _, hb⟩
  refine ⟨_, rfl, hb, .tup [.v (.int .u64 4294967295), .iface (Tryz.laysPu14_ren.t 39) .any], ?_, _, _, rfl, ⟨_, rfl⟩, rfl, rfl⟩
  simp only [Con, ConVs]
  exact ⟨_, rfl, _, _, rfl, rfl, _, _, rfl, ⟨_, rfl, trivial⟩, rfl⟩
end Go.Proofs.Mv.App
open Go Go.Proofs Go.Proofs.Mv.V
set_option maxRecDepth 10000
namespace Go.Proofs.Mv.App
theorem numOk_no {s : List UInt8} (h : okU (Lib.parseUintB 32 s) = none) : numOk s = false := by
 cases e : numOk s
 ·rfl
 ·rw [(of_numOk e).1] at h; simp [okU] at h
theorem okU_some {s : List UInt8} {u : Nat} (h : okU (Lib.parseUintB 32 s) = some u) : Lib.parseUintB 32 s = .ok u := by
 unfold okU at h; split at h
 ·rename_i e; rw [e]; simp at h; rw [h]
 ·cases h
set_option maxHeartbeats 1000000 in
theorem cNumber {l : List Tok} (hl : TkOk l) {p : PS} {k : Nat} {m : Mem} {n : Nat} (hk : k < n) (hm : m k = some (pObj l p)) :
  ACalls Tryz.prog 211 [.ptr k 0 0 0] m n (fun d m' n' => d = I (numF l p).1 ∧ m' = m.set k (pObj l (numF l p).2) ∧ n' = n) := by
 have kn : k ≠ n := by omega
 have nk : n ≠ k := by omega
 have kn1 : k < n + 1 := by omega
 obtain ⟨kd, a, tx, hp⟩ := pk_of hl p
 refine acalls_fin hk (pur_pObj _ _) (fun d h => by rw [h]; exact pur_I _) ?_
 refine acalls_vc [0, 2, 3, 4, 5, 34] Tryz.func211 Tryz.ntmps211 (by kernel_rfl) rfl rfl (by simp) ?_
 simp -dsimp [I]
 refine aCall_of (cPeek hk hm) ?_
 rintro d m' n' ⟨rfl, rfl, rfl⟩
 rw [hp.pk]
 have hn := hp.num
 have hlen := hp.len
 simp -dsimp [I, S]
 refine aCall_of (cParseUint tx (by omega) _ _) ?_
 rintro d m2 n2 ⟨x, e, rfl, hx, rfl, rfl⟩
 by_cases e3 : kd = 3
 case neg =>
  have e3' : (kd != 3) = true := by simp [e3]
  have hfa : isNum l p = false := by rw [hn]; simp [e3]
  simp -dsimp [I, S, e3', hm, set_ne, kn, nk]
  refine aCall_of (cFail (l := l) (p := p) 2 (by omega) kn1 (by simp [set_ne, kn, hm])) ?_
  rintro d m2 n2 ⟨rfl, rfl, rfl⟩
  simp -dsimp
  refine fin_mk (by simp [numF, hfa, I]) (by simp [numF, hfa]) fun j hj hjk => ?_
  rw [set_ne _ _ _ _ hjk, set_ne _ _ _ _ (by omega)]
 cases hu : okU (Lib.parseUintB 32 tx) with
 | none =>
  rw [hu] at hx
  obtain ⟨t, rfl⟩ := hx
  have hfa : isNum l p = false := by rw [hn]; simp [numOk_no hu]
  simp -dsimp [I, S, e3, hm, set_ne, kn, nk]
  refine aCall_of (cFail (l := l) (p := p) 2 (by omega) kn1 (by simp [set_ne, kn, hm])) ?_
  rintro d m2 n2 ⟨rfl, rfl, rfl⟩
  simp -dsimp
  refine fin_mk (by simp [numF, hfa, I]) (by simp [numF, hfa]) fun j hj hjk => ?_
  rw [set_ne _ _ _ _ hjk, set_ne _ _ _ _ (by omega)]
 | some u =>
  rw [hu] at hx
  obtain ⟨rfl, rfl⟩ := hx
  have hpu := okU_some hu
  have hbad : isNum l p = false → (numF l p) = (0, failF 2 p) := fun h => by simp [numF, h]
  by_cases u1 : (u : Int) < 1
  ·have hfa : isNum l p = false := by
    rw [hn]; cases q : numOk tx
    ·simp
    ·have := of_numOk q; rw [hpu] at this; simp at this; omega
   simp -dsimp [I, S, e3, hm, set_ne, kn, nk, u1, nilE]
   refine aCall_of (cFail (l := l) (p := p) 2 (by omega) kn1 (by simp [set_ne, kn, hm])) ?_
   rintro d m2 n2 ⟨rfl, rfl, rfl⟩
   simp -dsimp
   refine fin_mk (by simp [numF, hfa, I]) (by simp [numF, hfa]) fun j hj hjk => ?_
   rw [set_ne _ _ _ _ hjk, set_ne _ _ _ _ (by omega)]
  by_cases u2 : 999999999 < (u : Int)
  ·have hfa : isNum l p = false := by
    rw [hn]; cases q : numOk tx
    ·simp
    ·have := of_numOk q; rw [hpu] at this; simp at this; omega
   simp -dsimp [I, S, e3, hm, set_ne, kn, nk, u1, u2, nilE]
   refine aCall_of (cFail (l := l) (p := p) 2 (by omega) kn1 (by simp [set_ne, kn, hm])) ?_
   rintro d m2 n2 ⟨rfl, rfl, rfl⟩
   simp -dsimp
   refine fin_mk (by simp [numF, hfa, I]) (by simp [numF, hfa]) fun j hj hjk => ?_
   rw [set_ne _ _ _ _ hjk, set_ne _ _ _ _ (by omega)]
  obtain ⟨y, r, rfl⟩ : ∃ y r, tx = y :: r := by
   cases tx with
   | nil => simp [Lib.parseUintB] at hpu
   | cons y r => exact ⟨_, _, rfl⟩
  by_cases u3 : y.toNat = 48
  ·have hy : y = 48 := UInt8.toNat_inj.1 u3
   have hfa : isNum l p = false := by
    rw [hn]; cases q : numOk (y :: r)
    ·simp
    ·exact absurd (by simp [hy]) (of_numOk q).2.2.2.1
   clear hy
   simp -dsimp [I, S, e3, hm, set_ne, kn, nk, u1, u2, u3, nilE]
   refine aCall_of (cFail (l := l) (p := p) 2 (by omega) kn1 (by simp [set_ne, kn, hm])) ?_
   rintro d m2 n2 ⟨rfl, rfl, rfl⟩
   simp -dsimp
   refine fin_mk (by simp [numF, hfa, I]) (by simp [numF, hfa]) fun j hj hjk => ?_
   rw [set_ne _ _ _ _ hjk, set_ne _ _ _ _ (by omega)]
  have u3' : ((y.toNat : Int) == 48) = false := by simp; omega
  obtain ⟨q1, q2⟩ := numOk_of hpu (by omega) (by omega) (by simp; intro h; exact u3 (by rw [h]; rfl))
  have htr : isNum l p = true := by rw [hn]; simp [e3, q1]
  obtain ⟨hb, ha⟩ := hp.ok (by omega)
  have wa := wrap_at hl ha
  have wu : IntKind.i64.wrap (u : Int) = u := wrap_i64 (by omega) (by omega)
  simp -dsimp [I, S, e3, hm, set_ne, kn, nk, u1, u2, u3', nilE, pObj, pC, wa, wu]
  refine fin_mk (by simp [numF, htr, hp.tex, q2, I]) ?_ fun j hj hjk => ?_
  ·simp [numF, htr, pObj, pC, errD, hb, stepF, I]
  ·rw [set_ne _ _ _ _ hjk, set_ne _ _ _ _ (by omega)]
set_option maxHeartbeats 1000000 in
theorem cBegins [GI] (kd a : Int) (tx : List UInt8) (hlen : tx.length ≤ 1000000000) (m : Mem) (n : Nat) : ACalls Tryz.prog 206 [.agg [I kd, I a, S tx]] m n (fun d m' n' => d = Tt (begT ⟨kd, a, tx⟩) ∧ m' = m ∧ n' = n) := by
 have fr : ∀ o, ∀ j, j < n → (m.set n o) j = m j := fun o j hj => set_ne _ _ _ _ (by omega)
 refine acalls_done (R' := Hq (fun d m' n' => d = Tt (begT ⟨kd, a, tx⟩) ∧ ∀ j, j < n → m' j = m j) tg) ?_ ?_
 ·refine acalls_vc [0, 1, 2, 4, 5, 21] Tryz.func206 Tryz.ntmps206 (by kernel_rfl) rfl rfl (by simp) ?_
  by_cases e2 : kd = 2
  ·simp -dsimp [I, S, e2]
   refine aCall_of (cBase tx _ _) ?_
   rintro d m2 n2 ⟨rfl, rfl, rfl⟩
   by_cases b0 : 0 < baseN tx
   ·have b0' : (0 : Int) < baseN tx := by omega
    simp -dsimp [I, S, e2, b0', b0, Tt]
    exact hq ⟨by simp [begT, e2, b0, Tt], fr _⟩
   have b0' : ¬ (0 : Int) < baseN tx := by omega
   by_cases eL : tx = wList
   ·have eL' : (tx == [76, 105, 115, 116]) = true := by simp [eL, wList]
    simp -dsimp [I, S, e2, b0', b0, Tt, eL']
    exact hq ⟨by simp [begT, e2, b0, eL, Tt], fr _⟩
   have eL' : (tx == [76, 105, 115, 116]) = false := by simpa [wList] using eL
   simp -dsimp [I, S, e2, b0', b0, Tt, eL']
   refine aCall_of (cGreat tx (by omega) _ _) ?_
   rintro d m2 n2 ⟨rfl, rfl, rfl⟩
   simp -dsimp [Tt]
   exact hq ⟨by simp [begT, e2, b0, eL, Tt], fr _⟩
  have e2' : (kd == 2) = false := by simp [e2]
  by_cases e1 : kd = 1
  ·simp -dsimp [I, S, e1]
   refine aCall_of (cSmall tx (by omega) _ _) ?_
   rintro d m2 n2 ⟨rfl, rfl, rfl⟩
   simp -dsimp [Tt]
   exact hq ⟨by simp [begT, e1, Tt], fr _⟩
  have e1' : (kd == 1) = false := by simp [e1]
  by_cases e4 : kd = 4
  case neg =>
   have e4' : (kd == 4) = false := by simp [e4]
   simp -dsimp [I, S, e2', e1', e4']
   exact hq ⟨by simp [begT, e2, e1, e4, Tt], fr _⟩
  have h123 : begT ⟨kd, a, tx⟩ = (decide (tx = [123]) || decide (tx = [91]) || decide (tx = [40]) || decide (tx = [60])) := by simp [begT, e4]
  rw [h123]
  by_cases f1 : tx = [123]
  ·have f1' : (tx == [123]) = true := by simp [f1]
   simp -dsimp [I, S, e4, f1']
   exact hq ⟨by simp [f1, Tt], fr _⟩
  have f1' : (tx == [123]) = false := by simp [f1]
  by_cases f2 : tx = [91]
  ·have f2' : (tx == [91]) = true := by simp [f2]
   simp -dsimp [I, S, e4, f1', f2']
   exact hq ⟨by simp [f2, Tt], fr _⟩
  have f2' : (tx == [91]) = false := by simp [f2]
  by_cases f3 : tx = [40]
  ·have f3' : (tx == [40]) = true := by simp [f3]
   simp -dsimp [I, S, e4, f1', f2', f3']
   exact hq ⟨by simp [f3, Tt], fr _⟩
  have f3' : (tx == [40]) = false := by simp [f3]
  by_cases f4 : tx = [60]
  ·have f4' : (tx == [60]) = true := by simp [f4]
   simp -dsimp [I, S, e4, f1', f2', f3', f4']
   exact hq ⟨by simp [f4, Tt], fr _⟩
  have f4' : (tx == [60]) = false := by simp [f4]
  simp -dsimp [I, S, e4, f1', f2', f3', f4']
  exact hq ⟨by simp [f1, f2, f3, f4, Tt], fr _⟩
 ·rintro d m' n' ⟨rfl, h⟩
  exact ⟨_, (pur_T _).pub, h, rfl⟩
end Go.Proofs.Mv.App
open Go Go.Proofs Go.Proofs.Mv.V
set_option maxRecDepth 10000
namespace Go.Proofs.Mv.App
section
variable [GI]
def TyR (l : List Tok) (k : Nat) (m : Mem) (n : Nat) (t : Ty) (q : PS) (d : D) (m' : Mem) (n' : Nat) : Prop :=
 (∃ t', d = .agg (tyD t') ∧ (q.bad = 0 → t' = t)) ∧ m' = m.set k (pObj l q) ∧ n' = n
def TypC (l : List Tok) (r : Nat) : Prop := ∀ (p : PS) (k : Nat) (m : Mem) (n : Nat), k < n → m k = some (pObj l p) → ACalls Tryz.prog 178 [.ptr k 0 0 0, I (33 - r)] m n (TyR l k m n (typF l r p).1 (typF l r p).2)
structure SubR (l : List Tok) (k : Nat) (m : Mem) (n : Nat) (ts : List Ty) (dl : D) (t : Ty) (q : PS) (d : D) (m' : Mem) (n' : Nat) : Prop where
 ls : ∃ t', Lst m' 7 ((ts ++ [t']).map tyD) d ∧ (q.bad = 0 → t' = t)
 pk : m' k = some (pObj l q)
 nn : n ≤ n'
 kk : ∀ j, kof d = some j → j < n' ∧ j ≠ k ∧ (kof dl = some j ∨ n ≤ j)
 fr : ∀ j, j < n → j ≠ k → kof dl ≠ some j → m' j = m j
theorem cSub {l : List Tok} (hl : TkOk l) {r : Nat} (hr : r ≤ 32) (H : TypC l r) {p : PS} {k : Nat} {m : Mem} {n : Nat} (hk : k < n) (hm : m k = some (pObj l p)) {ts : List Ty} {dl : D} (hL : Lst m 7 (ts.map tyD) dl) (hlen : ts.length ≤ 100)
  (hq : ∀ j, kof dl = some j → j < n ∧ j ≠ k) :
  ACalls Tryz.prog 240 [.ptr k 0 0 0, dl, I (32 - r)] m n (SubR l k m n ts dl (subF l (typF l r) ts.length p).1 (subF l (typF l r) ts.length p).2) := by
 have kn : k ≠ n := by omega
 have nk : n ≠ k := by omega
 have hll := lenD_lst hL
 rw [List.length_map] at hll
 have wd : IntKind.i64.wrap ((32 : Int) - r + 1) = 33 - r := by rw [wrap_i64 (by omega) (by omega)]; omega
 obtain ⟨kd, a, tx, hp⟩ := pk_of hl p
 have hbeg := hp.beg
 have hcu := hp.cu
 have hend : ∀ (p' : PS), subF l (typF l r) ts.length p = typF l r p' → ∀ (t' : Ty), ((typF l r p').2.bad = 0 → t' = (typF l r p').1) → ∀ (O : Prop), O → ∀ (K : D → Mem → Nat → Prop) (u : Tg K () ()),
   (∀ d m' n', SubR l k m n ts dl (subF l (typF l r) ts.length p).1 (subF l (typF l r) ts.length p).2 d m' n' → K d m' n') →
   b4 (apD (some (7, 112)) O dl (some (True, [tyD t'])) ((m.set k (pObj l (typF l r p').2)).set n ⟨7, [tyD t'], 0⟩) (n + 1)) K u := by
  intro p' he t' ht' O hO K u hK
  refine b4_append (hL.frame fun j hj => ?_) (fun j hj => by have := hq j hj; omega) hO trivial (by omega) (by simp; omega) ?_
  ·have := hq j hj
   rw [set_ne _ _ _ _ (by omega), set_ne _ _ _ _ this.2]
  intro d m' n2 h1 h2 h3 h4
  refine hK _ _ _ ⟨⟨t', by simpa using h1, by rw [he]; exact ht'⟩, ?_, by omega, fun j hj => ?_, fun j hj hjk hjd => ?_⟩
  ·rw [h4 k (by omega) (fun e => (hq k e).2 rfl), set_ne _ _ _ _ kn, set_same, he]
  ·have := h3 j hj
   rcases this.2 with e | e
   ·have h5 := hq j e; exact ⟨this.1, h5.2, .inl e⟩
   ·exact ⟨this.1, by omega, .inr (by omega)⟩
  ·rw [h4 j (by omega) hjd, set_ne _ _ _ _ (by omega), set_ne _ _ _ _ hjk]
 refine acalls_vc [0, 1, 2, 6, 14] Tryz.func240 Tryz.ntmps240 (by kernel_rfl) rfl rfl (by simp) ?_
 simp -dsimp [I]
 refine aCall_of (cPeek hk hm) ?_
 rintro d m' n' ⟨rfl, rfl, rfl⟩
 rw [hp.pk]
 simp -dsimp
 refine aCall_of (cBegins kd a tx (by have := hp.len; omega) _ _) ?_
 rintro d m2 n2 ⟨rfl, rfl, rfl⟩
 rw [← hbeg]
 cases hb : begF l p
 case false =>
  have he : subF l (typF l r) ts.length p = typF l r p := by simp [subF, hb]
  simp -dsimp [Tt, wd, I]
  refine aCall_of (H p k _ _ hk hm) ?_
  rintro d m' n' ⟨⟨t', rfl, ht'⟩, rfl, rfl⟩
  simp -dsimp
  refine hend p he t' ht' _ trivial _ _ ?_
  intro d m' n' hR
  simp -dsimp
  exact hR
 case true =>
  by_cases h20 : 20 ≤ (ts.length : Int)
  ·have h20' : 20 ≤ ts.length := by omega
   have hbd : p.bad = 0 := by
    cases q : p.bad with
    | zero => rfl
    | succ q => rw [begF_bad (by omega)] at hb; cases hb
   have hf : (failF 3 p).bad ≠ 0 := by simp [failF, hbd]
   have he : subF l (typF l r) ts.length p = typF l r (failF 3 p) := by rw [typF_bad hf]; simp [subF, hb, h20']
   simp -dsimp [Tt, hll, h20, h20', wd, I]
   refine aCall_of (cFail (l := l) (p := p) 3 (by omega) hk hm) ?_
   rintro d m' n' ⟨rfl, rfl, rfl⟩
   simp -dsimp [wd]
   refine aCall_of (H (failF 3 p) k _ _ hk (by simp)) ?_
   rintro d m' n' ⟨⟨t', rfl, ht'⟩, rfl, rfl⟩
   simp -dsimp
   refine hend _ he t' ht' _ trivial _ _ ?_
   intro d m' n' hR
   simp -dsimp
   exact hR
  ·have h20' : ¬ 20 ≤ ts.length := by omega
   have he : subF l (typF l r) ts.length p = typF l r p := by simp [subF, h20']
   simp -dsimp [Tt, hll, h20, h20', wd, I]
   refine aCall_of (H p k _ _ hk hm) ?_
   rintro d m' n' ⟨⟨t', rfl, ht'⟩, rfl, rfl⟩
   simp -dsimp
   refine hend p he t' ht' _ trivial _ _ ?_
   intro d m' n' hR
   simp -dsimp
   exact hR
end
end Go.Proofs.Mv.App
