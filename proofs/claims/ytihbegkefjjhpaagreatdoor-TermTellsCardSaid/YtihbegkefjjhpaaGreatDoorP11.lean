/- A part of the proofs: machine, contracts, laws. No condition of its own. -/
import Derived.Test.YtihbegkefjjhpaaGreatDoorP04
import Derived.Test.YtihbegkefjjhpaaGreatDoorP03
import Derived.Test.YtihbegkefjjhpaaGreatDoorMvD
set_option linter.unusedSimpArgs false
set_option linter.unusedVariables false
set_option linter.unusedSectionVars false
open Go Go.Proofs Go.Proofs.Mv.V
set_option maxRecDepth 10000
namespace Go.Proofs.Mv.App
variable [GI]
structure TkOk (l : List Tok) : Prop where
  len : l.length ≤ 1000000
  txt : ∀ t ∈ l, t.text.length ≤ 1000000
def errD (p : PS) : D := if p.bad = 0 then nilE else spotE p.at_ p.bad
def toksD (l : List Tok) : D := .sl 3 (l.map tokD)
def pC (l : List Tok) (p : PS) : List D := [toksD l, I p.at_, I p.cnt, errD p]
def pObj (l : List Tok) (p : PS) : V.Obj := ⟨4, [pC l p], 0⟩
theorem pur_tok (t : Tok) : ∀ d ∈ tokD t, Pur d := by
  intro d hd
  simp only [tokD, List.mem_cons, List.not_mem_nil, or_false] at hd
  rcases hd with rfl | rfl | rfl
  · exact pur_I _
  · exact pur_I _
  · exact pur_S _
theorem pur_toks (l : List Tok) : Pur (toksD l) := Pur.sl (by
  intro e he d hd
  obtain ⟨t, _, rfl⟩ := List.mem_map.1 he
  exact pur_tok t d hd)
theorem pur_spotE (a c : Int) : Pur (spotE a c) := Pur.iface (Pur.rptr (by
  intro d hd
  simp only [List.mem_cons, List.not_mem_nil, or_false] at hd
  rcases hd with rfl | rfl
  · exact Pur.v _
  · exact Pur.iface (Pur.v _)))
theorem pur_tup0 : Pur (.tup []) := Pur.tup (by simp)
def peekD (l : List Tok) (p : PS) : List D := match cur l p with
  | some t => tokD t
  | none => [I 0, I 0, S []]
theorem cur_some {l : List Tok} {p : PS} {t : Tok} (h : cur l p = some t) : p.bad = 0 ∧ p.at_ < l.length ∧ l[p.at_]? = some t := by
  unfold cur at h
  split at h
  · rename_i hb
    refine ⟨hb, ?_, h⟩
    rcases Nat.lt_or_ge p.at_ l.length with h1 | h1
    · exact h1
    · rw [List.getElem?_eq_none h1] at h; cases h
  · cases h
end Go.Proofs.Mv.App
open Go Go.Proofs Go.Proofs.Mv.V
set_option maxRecDepth 10000
namespace Go.Proofs.Mv.App
variable [GI]
structure Pk (l : List Tok) (p : PS) (kd a : Int) (tx : List UInt8) : Prop where
  pk : peekD l p = [I kd, I a, S tx]
  sig : ∀ s, isSig s l p = (decide (kd = 4) && decide (tx = s))
  nam : ∀ g, isNam g l p = (decide (kd = if g then 2 else 1) && namOk g tx)
  num : isNum l p = (decide (kd = 3) && numOk tx)
  beg : begF l p = begT ⟨kd, a, tx⟩
  tex : curT l p = tx
  len : tx.length ≤ 1000000
  ok : kd ≠ 0 → p.bad = 0 ∧ p.at_ < l.length
  cu : (cur l p = none ∧ kd = 0) ∨ cur l p = some ⟨kd, a, tx⟩
theorem pk_of {l : List Tok} (hl : TkOk l) (p : PS) : ∃ kd a tx, Pk l p kd a tx := by
  cases h : cur l p with
  | none => exact ⟨0, 0, [], by simp [peekD, h], by simp [isSig, h], by intro g; cases g <;> simp [isNam, h], by simp [isNum, h], by simp [begF, h, begT], by simp [curT, h], by simp, by simp, .inl ⟨h, rfl⟩⟩
  | some t =>
    obtain ⟨kd, a, tx⟩ := t
    obtain ⟨h1, h2, h3⟩ := cur_some h
    exact ⟨kd, a, tx, by simp [peekD, h, tokD], by simp [isSig, h], by intro g; simp [isNam, h], by simp [isNum, h], by simp [begF, h], by simp [curT, h],
      hl.txt _ (List.mem_of_getElem? h3), fun _ => ⟨h1, h2⟩, .inr h⟩
theorem wrap_at {l : List Tok} (hl : TkOk l) {p : PS} (h : p.at_ < l.length) : IntKind.i64.wrap ((p.at_ : Int) + 1) = (p.at_ : Int) + 1 := wrap_i64 (by omega) (by have := hl.len; omega)
end Go.Proofs.Mv.App
open Go Go.Proofs Go.Proofs.Mv.V Go.RowKit
set_option maxRecDepth 10000
namespace Go.Proofs.Mv.App
end Go.Proofs.Mv.App
open Go Go.Proofs Go.Proofs.Mv.V
set_option maxRecDepth 10000
namespace Go.Proofs.Mv.App
end Go.Proofs.Mv.App
open Go Go.Proofs Go.Proofs.Mv.V
set_option maxRecDepth 10000
namespace Go.Proofs.Mv.App
section
variable [GI]
structure SubR (l : List Tok) (k : Nat) (m : Mem) (n : Nat) (ts : List Ty) (dl : D) (t : Ty) (q : PS) (d : D) (m' : Mem) (n' : Nat) : Prop where
  ls : ∃ t', Lst m' 7 ((ts ++ [t']).map tyD) d ∧ (q.bad = 0 → t' = t)
  pk : m' k = some (pObj l q)
  nn : n ≤ n'
  kk : ∀ j, kof d = some j → j < n' ∧ j ≠ k ∧ (kof dl = some j ∨ n ≤ j)
  fr : ∀ j, j < n → j ≠ k → kof dl ≠ some j → m' j = m j
end
end Go.Proofs.Mv.App
open Go Go.Proofs Go.Proofs.Mv.V
set_option maxRecDepth 10000
namespace Go.Proofs.Mv.App
variable [GI]
def headF (l : List Tok) (r : Nat) (p : PS) : List Ty × PS := if isSig [41] l p then ([], stepF p) else funF l (typF l r) 22 [] p
def As {α : Type} (xs' xs : List α) (p : PS) : Prop := xs'.length = xs.length ∧ (p.bad = 0 → xs' = xs)
theorem As.step {α : Type} {xs' xs : List α} {p : PS} (h : As xs' xs p) : As xs' xs (stepF p) := ⟨h.1, h.2⟩
theorem As.then {α : Type} {xs' xs : List α} {p q : PS} (h : As xs' xs p) (hb : q.bad = 0 → p.bad = 0) : As xs' xs q := ⟨h.1, fun e => h.2 (hb e)⟩
structure FunInv (l : List Tok) (r : Nat) (p0 : PS) (k : Nat) (m : Mem) (n n0 : Nat) (rem : Nat) (σ : Nat → D) (m2 : Mem) (n2 : Nat) : Prop where
  h0 : σ 0 = .ptr k 0 0 0
  h1 : σ 1 = I (32 - r)
  h4 : σ 4 = .ptr n 0 0 0
  nn : n + 1 ≤ n2
  m4 : m2 n = some ⟨7, [[I 0, S [], I 0, S [], S [], .v (.slice none 0 0), .v (.slice none 0 0)]], 0⟩
  fr : ∀ j, j < n → j ≠ k → m2 j = m j
  ex : ∃ ts ts' p, Lst m2 7 (ts'.map tyD) (σ 5) ∧ (∀ j, kof (σ 5) = some j → n + 1 ≤ j ∧ j < n2) ∧ m2 k = some (pObj l p) ∧ As ts' ts p ∧ ts.length + rem = 22 ∧ (20 < ts.length → p.bad ≠ 0) ∧
    (ts = [] → p = p0) ∧ (ts ≠ [] → headF l r p0 = funF l (typF l r) rem ts p)
structure FunMid (l : List Tok) (r : Nat) (p0 : PS) (k : Nat) (m : Mem) (n : Nat) (σ : Nat → D) (m2 : Mem) (n2 : Nat) : Prop where
  h0 : σ 0 = .ptr k 0 0 0
  h1 : σ 1 = I (32 - r)
  h4 : σ 4 = .ptr n 0 0 0
  nn : n + 1 ≤ n2
  m4 : m2 n = some ⟨7, [[I 0, S [], I 0, S [], S [], .v (.slice none 0 0), .v (.slice none 0 0)]], 0⟩
  fr : ∀ j, j < n → j ≠ k → m2 j = m j
  ex : ∃ ts', Lst m2 7 (ts'.map tyD) (σ 5) ∧ (∀ j, kof (σ 5) = some j → n + 1 ≤ j ∧ j < n2) ∧ m2 k = some (pObj l (headF l r p0).2) ∧ As ts' (headF l r p0).1 (headF l r p0).2 ∧ ts'.length ≤ 22
structure FunGo (k : Nat) (r n : Nat) (d5 : D) (m2 : Mem) (n2 : Nat) (C : Prop) (σ : Nat → D) (m' : Mem) (n' : Nat) : Prop where
  h0 : σ 0 = .ptr k 0 0 0
  h1 : σ 1 = I (32 - r)
  h4 : σ 4 = .ptr n 0 0 0
  h5 : σ 5 = d5
  mm : m' = m2
  nn : n' = n2
  cc : C
end Go.Proofs.Mv.App
