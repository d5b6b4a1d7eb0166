/- A part of the proofs: machine, contracts, laws. No condition of its own. -/
import Derived.Test.YtndinledjelleaaGreatDoorMvD
import Derived.RangeFuncFrom
import Derived.Laws.AppendOwn
set_option linter.unusedSimpArgs false
set_option linter.unusedVariables false
set_option linter.unusedSectionVars false
namespace Go.Proofs.Mv.V
variable [GI]
section
variable {P : Program} {N : Nat} {w : World} {ν : Nu} {F G : Nat → Prop} {m : Mem} {n : Nat}
theorem ext_more : Ext w ν F w ν (fun b => F b ∨ G b) :=
 ⟨Nat.le_refl _, fun b hb => ⟨.inl hb, rfl⟩, fun k l h => ⟨l, h, Nat.le_refl _, rfl, fun _ => rfl⟩, fun k l l' h h' e arr el f ha => by
  rw [h] at h'; obtain rfl := Option.some.inj h'; exact ⟨arr, el, f, ha, rfl⟩, ⟨rfl, rfl⟩⟩
end
def RfQ {L : Nat} (Inv : List (Fin L) → Mem → Nat → Prop) (xs : List (Fin L)) (σ : Nat → D) (Q : APost) : APost
 | .normal, _, m, n => Inv xs m n
 | .ret, _, m, n => (∃ j, xs = (List.finRange L).take j) → Q .ret σ m n
 | .exit id, _, m, n => (∃ j, xs = (List.finRange L).take j) → Q (.exit id) σ m n
 | _, _, _, _ => False
section
variable {P : Program} {N : Nat} {σ : Nat → D} {m : Mem} {n : Nat} {Q : APost}
end
/-! A function value, handed on. -/
theorem Le_func {fn : Fn} {fs fs' cs cs' : List D} (h : LeL fs fs') (h' : LeL cs cs') : Le (.func fn fs cs) (.func fn fs' cs') := by
 intro w ν F y hh; simp only [Con] at hh ⊢; obtain ⟨ys, zs, h1, h2, h3⟩ := hh; exact ⟨ys, zs, h1, h.vs _ _ _ _ h2, h'.vs _ _ _ _ h3⟩
theorem PubAs.func {n : Nat} {m : Mem} {fn : Fn} {l l' : List D} (h : PubL n m l l') : PubAs n m (.func fn [] l) (.func fn [] l') := fun β => by
 obtain ⟨fu, hf⟩ := h.get β
 refine ⟨fu + 1, fun f hle => ?_⟩
 obtain ⟨f', rfl⟩ : ∃ f', f = f' + 1 := ⟨f - 1, by omega⟩
 simp only [rs, below, List.map_nil, belowL, Bool.true_and]
 exact ⟨Le_func .nil (hf f' (by omega)).1, (hf f' (by omega)).2⟩
@[simp] theorem rfQ_normal {L : Nat} (Inv : List (Fin L) → Mem → Nat → Prop) (xs : List (Fin L)) (σ' σ : Nat → D) (Q : APost) (m : Mem) (n : Nat) : RfQ Inv xs σ Q .normal σ' m n = Inv xs m n := (rfl)
@[simp] theorem rfQ_ret {L : Nat} (Inv : List (Fin L) → Mem → Nat → Prop) (xs : List (Fin L)) (σ' σ : Nat → D) (Q : APost) (m : Mem) (n : Nat) : RfQ Inv xs σ Q .ret σ' m n = ((∃ j, xs = (List.finRange L).take j) → Q .ret σ m n) := (rfl)
@[simp] theorem rfQ_exit {L : Nat} (Inv : List (Fin L) → Mem → Nat → Prop) (xs : List (Fin L)) (σ' σ : Nat → D) (Q : APost) (m : Mem) (n : Nat) (id : Nat) : RfQ Inv xs σ Q (.exit id) σ' m n = ((∃ j, xs = (List.finRange L).take j) → Q (.exit id) σ m n) := (rfl)
end Go.Proofs.Mv.V
