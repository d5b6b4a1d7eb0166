/- A part of the proofs: machine, contracts, laws. No condition of its own. -/
import Derived.Test.YtndinledjelleaaGreatDoorP02
import Derived.Test.YtndinledjelleaaGreatDoorMvD
set_option linter.unusedSimpArgs false
set_option linter.unusedVariables false
set_option linter.unusedSectionVars false
open Go Go.Proofs Go.Proofs.Mv.V
set_option maxRecDepth 10000
namespace Go.Proofs.Mv.App
section
variable [GI]
structure SubR (l : List Tok) (k : Nat) (m : Mem) (n : Nat) (ts : List Ty) (dl : D) (t : Ty) (q : PS) (d : D) (m' : Mem) (n' : Nat) : Prop where
 ls : ∃ t', Lst m' 7 ((ts ++ [t']).map tyD) d ∧ (q.bad = 0 → t' = t)
 pk : m' k = some (pObj l q)
 nn : n ≤ n'
 kk : ∀ j, kof d = some j → j < n' ∧ j ≠ k ∧ (kof dl = some j ∨ n ≤ j)
 fr : ∀ j, j < n → j ≠ k → kof dl ≠ some j → m' j = m j
end
end Go.Proofs.Mv.App
open Go Go.Proofs Go.Proofs.Mv.V
set_option maxRecDepth 10000
namespace Go.Proofs.Mv.App
variable [GI]
def headF (l : List Tok) (r : Nat) (p : PS) : List Ty × PS := if isSig [41] l p then ([], stepF p) else funF l (typF l r) 22 [] p
def As {α : Type} (xs' xs : List α) (p : PS) : Prop := xs'.length = xs.length ∧ (p.bad = 0 → xs' = xs)
theorem As.step {α : Type} {xs' xs : List α} {p : PS} (h : As xs' xs p) : As xs' xs (stepF p) := ⟨h.1, h.2⟩
theorem As.then {α : Type} {xs' xs : List α} {p q : PS} (h : As xs' xs p) (hb : q.bad = 0 → p.bad = 0) : As xs' xs q := ⟨h.1, fun e => h.2 (hb e)⟩
structure FunInv (l : List Tok) (r : Nat) (p0 : PS) (k : Nat) (m : Mem) (n n0 : Nat) (rem : Nat) (σ : Nat → D) (m2 : Mem) (n2 : Nat) : Prop where
 h0 : σ 0 = .ptr k 0 0 0
 h1 : σ 1 = I (32 - r)
 h4 : σ 4 = .ptr n 0 0 0
 nn : n + 1 ≤ n2
 m4 : m2 n = some ⟨7, [[I 0, S [], I 0, S [], S [], .v (.slice none 0 0), .v (.slice none 0 0)]], 0⟩
 fr : ∀ j, j < n → j ≠ k → m2 j = m j
 ex : ∃ ts ts' p, Lst m2 7 (ts'.map tyD) (σ 5) ∧ (∀ j, kof (σ 5) = some j → n + 1 ≤ j ∧ j < n2) ∧ m2 k = some (pObj l p) ∧ As ts' ts p ∧ ts.length + rem = 22 ∧ (20 < ts.length → p.bad ≠ 0) ∧
  (ts = [] → p = p0) ∧ (ts ≠ [] → headF l r p0 = funF l (typF l r) rem ts p)
structure FunMid (l : List Tok) (r : Nat) (p0 : PS) (k : Nat) (m : Mem) (n : Nat) (σ : Nat → D) (m2 : Mem) (n2 : Nat) : Prop where
 h0 : σ 0 = .ptr k 0 0 0
 h1 : σ 1 = I (32 - r)
 h4 : σ 4 = .ptr n 0 0 0
 nn : n + 1 ≤ n2
 m4 : m2 n = some ⟨7, [[I 0, S [], I 0, S [], S [], .v (.slice none 0 0), .v (.slice none 0 0)]], 0⟩
 fr : ∀ j, j < n → j ≠ k → m2 j = m j
 ex : ∃ ts', Lst m2 7 (ts'.map tyD) (σ 5) ∧ (∀ j, kof (σ 5) = some j → n + 1 ≤ j ∧ j < n2) ∧ m2 k = some (pObj l (headF l r p0).2) ∧ As ts' (headF l r p0).1 (headF l r p0).2 ∧ ts'.length ≤ 22
structure FunGo (k : Nat) (r n : Nat) (d5 : D) (m2 : Mem) (n2 : Nat) (C : Prop) (σ : Nat → D) (m' : Mem) (n' : Nat) : Prop where
 h0 : σ 0 = .ptr k 0 0 0
 h1 : σ 1 = I (32 - r)
 h4 : σ 4 = .ptr n 0 0 0
 h5 : σ 5 = d5
 mm : m' = m2
 nn : n' = n2
 cc : C
end Go.Proofs.Mv.App
open Go Go.Proofs Go.Proofs.Mv.V Go.RowKit
set_option maxRecDepth 10000
namespace Go.Proofs.Mv.App
section
variable [GI]
def partD (x : Nm) : List D := S x.1 :: tyD x.2
@[simp] theorem partD_len (x : Nm) : (partD x).length = 8 := by simp [partD]
@[simp] theorem partD_take (x : Nm) : (partD x).take 8 = partD x := List.take_of_length_le (by simp)
def hasD (q : Nat) : D := .func (.func 353) [] [.ptr q 0 0 0]
structure FindInv (ps : List Nm) (tx : List UInt8) (dl : D) (q : Nat) (m : Mem) (n : Nat) (i : Nat) (σ : Nat → D) (m2 : Mem) (n2 : Nat) : Prop where
 h0 : σ 0 = dl
 h1 : σ 1 = hasD q
 h7 : σ 7 = I ps.length
 h8 : σ 8 = I i
 le : i ≤ ps.length
 al : ∀ x ∈ ps.take i, ¬ x.1 = tx
 mm : m2 = m
 nn : n2 = n
end
end Go.Proofs.Mv.App
open Go Go.Proofs Go.Proofs.Mv.V
set_option maxRecDepth 10000
namespace Go.Proofs.Mv.App
end Go.Proofs.Mv.App
open Go Go.Proofs Go.Proofs.Mv.V
set_option maxRecDepth 10000
namespace Go.Proofs.Mv.App
section
variable [GI]
end
section
variable [GI]
def TyQ (l : List Tok) (k : Nat) (m : Mem) (n : Nat) (t : Ty) (q : PS) : D → Mem → Nat → Prop :=
 Hq (fun d m' n' => ∃ t', PubAs n m' d (.agg (tyD t')) ∧ (q.bad = 0 → t' = t) ∧ m' k = some (pObj l q) ∧ ∀ j, j < n → j ≠ k → m' j = m j) tg
end
@[simp] theorem okD_toks [GI] (l : List Tok) : okD (toksD l) = true := rfl
@[simp] theorem cellsOf_toks [GI] (l : List Tok) : cellsOf (toksD l) = [toksD l] := rfl
@[simp] theorem okD_errO' [GI] (a c : Int) : okD (spotE a c) = true := rfl
@[simp] theorem cellsOf_spotE [GI] (a c : Int) : cellsOf (spotE a c) = [spotE a c] := rfl
inductive PErr where
 | none
 | large
 | spot (a : Int) (c : Nat)
end Go.Proofs.Mv.App
open Go Go.Proofs Go.Proofs.Mv.V
set_option maxRecDepth 10000
namespace Go.Proofs.Mv.App
structure Imp where
 pkg : List UInt8
 major : Int
 mod : List UInt8
 as_ : List UInt8
def impD (i : Imp) : List D := [S i.pkg, I i.major, S i.mod, S i.as_]
def wImp : List UInt8 := [105, 109, 112, 111, 114, 116]
theorem pur_imps {l : List Imp} : ∀ e ∈ l.map impD, ∀ d ∈ e, Pur d := by
 intro e he d hd
 obtain ⟨i, _, rfl⟩ := List.mem_map.1 he
 simp only [impD, List.mem_cons, List.not_mem_nil, or_false] at hd
 rcases hd with rfl | rfl | rfl | rfl
 ·exact pur_S _
 ·exact pur_I _
 ·exact pur_S _
 ·exact pur_S _
end Go.Proofs.Mv.App
open Go Go.Proofs Go.Proofs.Mv.V
set_option maxRecDepth 10000
namespace Go.Proofs.Mv.App
structure Ln where
 kind : Int
 mod : List UInt8
 name : List UInt8
 typ : Ty
def lnD (x : Ln) : List D := I x.kind :: S x.mod :: S x.name :: tyD x.typ
@[simp] theorem lnD_len (x : Ln) : (lnD x).length = 10 := by simp [lnD, tyD_len]
structure Us where
 imps : List Imp
 lines : List Ln
end Go.Proofs.Mv.App
