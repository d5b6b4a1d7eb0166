/- A part of the proofs: machine, contracts, laws. No condition of its own. -/
import Derived.Test.YtihbegkefjjhpaaGreatDoorP11
import Derived.Test.YtihbegkefjjhpaaGreatDoorMvD
import Derived.Test.YtihbegkefjjhpaaGreatDoorP06
import Derived.Test.YtihbegkefjjhpaaGreatDoorP01
import Derived.Test.YtihbegkefjjhpaaGreatDoorP08
set_option linter.unusedSimpArgs false
set_option linter.unusedVariables false
set_option linter.unusedSectionVars false
open Go Go.Proofs Go.Proofs.Mv.V Go.RowKit
set_option maxRecDepth 10000
namespace Go.Proofs.Mv.App
section
variable [GI]
def partD (x : Nm) : List D := S x.1 :: tyD x.2
@[simp] theorem partD_len (x : Nm) : (partD x).length = 8 := by simp [partD]
@[simp] theorem partD_take (x : Nm) : (partD x).take 8 = partD x := List.take_of_length_le (by simp)
def hasD (q : Nat) : D := .func (.func 236) [] [.ptr q 0 0 0]
structure FindInv (ps : List Nm) (tx : List UInt8) (dl : D) (q : Nat) (m : Mem) (n : Nat) (i : Nat) (σ : Nat → D) (m2 : Mem) (n2 : Nat) : Prop where
  h0 : σ 0 = dl
  h1 : σ 1 = hasD q
  h7 : σ 7 = I ps.length
  h8 : σ 8 = I i
  le : i ≤ ps.length
  al : ∀ x ∈ ps.take i, ¬ x.1 = tx
  mm : m2 = m
  nn : n2 = n
end
end Go.Proofs.Mv.App
open Go Go.Proofs Go.Proofs.Mv.V
set_option maxRecDepth 10000
namespace Go.Proofs.Mv.App
end Go.Proofs.Mv.App
open Go Go.Proofs Go.Proofs.Mv.V
set_option maxRecDepth 10000
namespace Go.Proofs.Mv.App
section
variable [GI]
end
section
variable [GI]
def TyQ (l : List Tok) (k : Nat) (m : Mem) (n : Nat) (t : Ty) (q : PS) : D → Mem → Nat → Prop :=
  Hq (fun d m' n' => ∃ t', PubAs n m' d (.agg (tyD t')) ∧ (q.bad = 0 → t' = t) ∧ m' k = some (pObj l q) ∧ ∀ j, j < n → j ≠ k → m' j = m j) tg
end
@[simp] theorem okD_toks [GI] (l : List Tok) : okD (toksD l) = true := rfl
@[simp] theorem cellsOf_toks [GI] (l : List Tok) : cellsOf (toksD l) = [toksD l] := rfl
@[simp] theorem okD_errO' [GI] (a c : Int) : okD (spotE a c) = true := rfl
@[simp] theorem cellsOf_spotE [GI] (a c : Int) : cellsOf (spotE a c) = [spotE a c] := rfl
def atF (l : List Tok) (i : Int) : Ty × Nat × Option (Int × Nat) :=
  if i < 0 ∨ (l.length : Int) < i then (Ty0, 0, some (i, 2))
  else if (typF l 32 ⟨i.toNat, 0, 0⟩).2.bad ≠ 0 then (Ty0, 0, some ((typF l 32 ⟨i.toNat, 0, 0⟩).2.at_, (typF l 32 ⟨i.toNat, 0, 0⟩).2.bad))
  else ((typF l 32 ⟨i.toNat, 0, 0⟩).1, (typF l 32 ⟨i.toNat, 0, 0⟩).2.at_, none)
inductive PErr where
  | none
  | large
  | spot (a : Int) (c : Nat)
end Go.Proofs.Mv.App
open Go Go.Proofs Go.Proofs.Mv.V
set_option maxRecDepth 10000
namespace Go.Proofs.Mv.App
def failS (c : Nat) (p : PS) : PS := if p.bad = 0 then ⟨p.at_, p.at_, c⟩ else p
theorem failS_bad {c : Nat} {p : PS} (h : ¬ p.bad = 0) : failS c p = p := by simp [failS, h]
def errS (p : PS) : D := if p.bad = 0 then nilE else spotE p.cnt p.bad
theorem pur_errS (p : PS) : Pur (errS p) := by
  unfold errS; split
  · exact pur_nilE
  · exact pur_spotE _ _
def takeF (fine : Bool) (l : List Tok) (p : PS) : List UInt8 × PS := if fine then (curT l p, stepF p) else ([], failS 2 p)
def typS (l : List Tok) (p : PS) : Ty × PS :=
  if p.bad = 0 then match (atF l p.at_).2.2 with
    | some (a, c) => (Ty0, ⟨0, a.toNat, c⟩)
    | none => ((atF l p.at_).1, ⟨(atF l p.at_).2.1, p.cnt, 0⟩)
  else (Ty0, p)
theorem takeF_ok {f : Bool} {l : List Tok} {p : PS} (h : (takeF f l p).2.bad = 0) : f = true ∧ p.bad = 0 := by
  cases f with
  | true => exact ⟨rfl, by simpa [takeF, stepF] using h⟩
  | false =>
    simp only [takeF, failS, Bool.false_eq_true, if_false] at h
    split at h
    · simp at h
    · rename_i h1; exact absurd h h1
structure Imp where
  pkg : List UInt8
  major : Int
  mod : List UInt8
  as_ : List UInt8
def impD (i : Imp) : List D := [S i.pkg, I i.major, S i.mod, S i.as_]
end Go.Proofs.Mv.App
open Go Go.Proofs Go.Proofs.Mv.V
set_option maxRecDepth 10000
namespace Go.Proofs.Mv.App
def kF (kd : Int) (ok : List UInt8 → Bool) (l : List Tok) (p : PS) : Bool := match cur l p with
  | some t => decide (t.kind = kd) && ok t.text
  | none => false
theorem pk_kF {l : List Tok} {p : PS} {kd a : Int} {tx : List UInt8} (hp : Pk l p kd a tx) {k : Int} (hk : k ≠ 0) (ok : List UInt8 → Bool) : kF k ok l p = (decide (kd = k) && ok tx) := by
  rcases hp.cu with ⟨h, rfl⟩ | h
  · have : ¬ (0 : Int) = k := fun e => hk e.symm
    simp [kF, h, this]
  · simp [kF, h]
structure Ln where
  kind : Int
  mod : List UInt8
  name : List UInt8
  typ : Ty
def lnD (x : Ln) : List D := I x.kind :: S x.mod :: S x.name :: tyD x.typ
@[simp] theorem lnD_len (x : Ln) : (lnD x).length = 10 := by simp [lnD, tyD_len]
structure Us where
  imps : List Imp
  lines : List Ln
end Go.Proofs.Mv.App
open Go Go.Proofs Go.Proofs.Mv.V
set_option maxRecDepth 10000
namespace Go.Proofs.Mv.App
structure ImpWU (i : Imp) : Prop where
  h1 : i.pkg.length ≤ 9223372036854775807
  h2 : i.mod.length ≤ 9223372036854775807
  h3 : i.as_.length ≤ 9223372036854775807
structure LnW (d : Ln) : Prop where
  h1 : d.mod.length ≤ 9223372036854775807
  h2 : d.name.length ≤ 9223372036854775807
  h3 : TyW d.typ
structure UsW (x : Us) : Prop where
  h1 : x.imps.length ≤ 9223372036854775807
  h2 : x.lines.length ≤ 9223372036854775807
  h3 : ∀ i ∈ x.imps, ImpWU i
  h4 : ∀ d ∈ x.lines, LnW d
@[simp] theorem impD_len (i : Imp) : (impD i).length = 4 := rfl
end Go.Proofs.Mv.App
open Go Go.Proofs Go.Proofs.Mv.V
set_option maxRecDepth 10000
namespace Go.Proofs.Mv.App
end Go.Proofs.Mv.App
