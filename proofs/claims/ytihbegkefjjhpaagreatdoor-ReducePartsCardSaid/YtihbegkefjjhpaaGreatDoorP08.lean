/- A part of the proofs: machine, contracts, laws. No condition of its own. -/
import Derived.Test.YtihbegkefjjhpaaGreatDoorP07
import Derived.Test.YtihbegkefjjhpaaGreatDoorP02
import Derived.Test.YtihbegkefjjhpaaGreatDoorMvD
set_option linter.unusedSimpArgs false
set_option linter.unusedVariables false
set_option linter.unusedSectionVars false
open Go Go.Proofs Go.Proofs.Mv.V
set_option maxRecDepth 10000
namespace Go.Proofs.Mv.App
variable [GI]
structure Pk (l : List Tok) (p : PS) (kd a : Int) (tx : List UInt8) : Prop where
  pk : peekD l p = [I kd, I a, S tx]
  sig : ∀ s, isSig s l p = (decide (kd = 4) && decide (tx = s))
  nam : ∀ g, isNam g l p = (decide (kd = if g then 2 else 1) && namOk g tx)
  num : isNum l p = (decide (kd = 3) && numOk tx)
  beg : begF l p = begT ⟨kd, a, tx⟩
  tex : curT l p = tx
  len : tx.length ≤ 1000000
  ok : kd ≠ 0 → p.bad = 0 ∧ p.at_ < l.length
  cu : (cur l p = none ∧ kd = 0) ∨ cur l p = some ⟨kd, a, tx⟩
end Go.Proofs.Mv.App
open Go Go.Proofs Go.Proofs.Mv.V Go.RowKit
set_option maxRecDepth 10000
namespace Go.Proofs.Mv.App
end Go.Proofs.Mv.App
open Go Go.Proofs Go.Proofs.Mv.V
set_option maxRecDepth 10000
namespace Go.Proofs.Mv.App
end Go.Proofs.Mv.App
open Go Go.Proofs Go.Proofs.Mv.V
set_option maxRecDepth 10000
namespace Go.Proofs.Mv.App
section
variable [GI]
structure SubR (l : List Tok) (k : Nat) (m : Mem) (n : Nat) (ts : List Ty) (dl : D) (t : Ty) (q : PS) (d : D) (m' : Mem) (n' : Nat) : Prop where
  ls : ∃ t', Lst m' 7 ((ts ++ [t']).map tyD) d ∧ (q.bad = 0 → t' = t)
  pk : m' k = some (pObj l q)
  nn : n ≤ n'
  kk : ∀ j, kof d = some j → j < n' ∧ j ≠ k ∧ (kof dl = some j ∨ n ≤ j)
  fr : ∀ j, j < n → j ≠ k → kof dl ≠ some j → m' j = m j
end
end Go.Proofs.Mv.App
open Go Go.Proofs Go.Proofs.Mv.V
set_option maxRecDepth 10000
namespace Go.Proofs.Mv.App
variable [GI]
def headF (l : List Tok) (r : Nat) (p : PS) : List Ty × PS := if isSig [41] l p then ([], stepF p) else funF l (typF l r) 22 [] p
def As {α : Type} (xs' xs : List α) (p : PS) : Prop := xs'.length = xs.length ∧ (p.bad = 0 → xs' = xs)
theorem As.step {α : Type} {xs' xs : List α} {p : PS} (h : As xs' xs p) : As xs' xs (stepF p) := ⟨h.1, h.2⟩
theorem As.then {α : Type} {xs' xs : List α} {p q : PS} (h : As xs' xs p) (hb : q.bad = 0 → p.bad = 0) : As xs' xs q := ⟨h.1, fun e => h.2 (hb e)⟩
structure FunInv (l : List Tok) (r : Nat) (p0 : PS) (k : Nat) (m : Mem) (n n0 : Nat) (rem : Nat) (σ : Nat → D) (m2 : Mem) (n2 : Nat) : Prop where
  h0 : σ 0 = .ptr k 0 0 0
  h1 : σ 1 = I (32 - r)
  h4 : σ 4 = .ptr n 0 0 0
  nn : n + 1 ≤ n2
  m4 : m2 n = some ⟨7, [[I 0, S [], I 0, S [], S [], .v (.slice none 0 0), .v (.slice none 0 0)]], 0⟩
  fr : ∀ j, j < n → j ≠ k → m2 j = m j
  ex : ∃ ts ts' p, Lst m2 7 (ts'.map tyD) (σ 5) ∧ (∀ j, kof (σ 5) = some j → n + 1 ≤ j ∧ j < n2) ∧ m2 k = some (pObj l p) ∧ As ts' ts p ∧ ts.length + rem = 22 ∧ (20 < ts.length → p.bad ≠ 0) ∧
    (ts = [] → p = p0) ∧ (ts ≠ [] → headF l r p0 = funF l (typF l r) rem ts p)
structure FunMid (l : List Tok) (r : Nat) (p0 : PS) (k : Nat) (m : Mem) (n : Nat) (σ : Nat → D) (m2 : Mem) (n2 : Nat) : Prop where
  h0 : σ 0 = .ptr k 0 0 0
  h1 : σ 1 = I (32 - r)
  h4 : σ 4 = .ptr n 0 0 0
  nn : n + 1 ≤ n2
  m4 : m2 n = some ⟨7, [[I 0, S [], I 0, S [], S [], .v (.slice none 0 0), .v (.slice none 0 0)]], 0⟩
  fr : ∀ j, j < n → j ≠ k → m2 j = m j
  ex : ∃ ts', Lst m2 7 (ts'.map tyD) (σ 5) ∧ (∀ j, kof (σ 5) = some j → n + 1 ≤ j ∧ j < n2) ∧ m2 k = some (pObj l (headF l r p0).2) ∧ As ts' (headF l r p0).1 (headF l r p0).2 ∧ ts'.length ≤ 22
structure FunGo (k : Nat) (r n : Nat) (d5 : D) (m2 : Mem) (n2 : Nat) (C : Prop) (σ : Nat → D) (m' : Mem) (n' : Nat) : Prop where
  h0 : σ 0 = .ptr k 0 0 0
  h1 : σ 1 = I (32 - r)
  h4 : σ 4 = .ptr n 0 0 0
  h5 : σ 5 = d5
  mm : m' = m2
  nn : n' = n2
  cc : C
end Go.Proofs.Mv.App
open Go Go.Proofs Go.Proofs.Mv.V Go.RowKit
set_option maxRecDepth 10000
namespace Go.Proofs.Mv.App
section
variable [GI]
def partD (x : Nm) : List D := S x.1 :: tyD x.2
@[simp] theorem partD_len (x : Nm) : (partD x).length = 8 := by simp [partD]
@[simp] theorem partD_take (x : Nm) : (partD x).take 8 = partD x := List.take_of_length_le (by simp)
def hasD (q : Nat) : D := .func (.func 236) [] [.ptr q 0 0 0]
structure FindInv (ps : List Nm) (tx : List UInt8) (dl : D) (q : Nat) (m : Mem) (n : Nat) (i : Nat) (σ : Nat → D) (m2 : Mem) (n2 : Nat) : Prop where
  h0 : σ 0 = dl
  h1 : σ 1 = hasD q
  h7 : σ 7 = I ps.length
  h8 : σ 8 = I i
  le : i ≤ ps.length
  al : ∀ x ∈ ps.take i, ¬ x.1 = tx
  mm : m2 = m
  nn : n2 = n
end
end Go.Proofs.Mv.App
open Go Go.Proofs Go.Proofs.Mv.V
set_option maxRecDepth 10000
namespace Go.Proofs.Mv.App
end Go.Proofs.Mv.App
