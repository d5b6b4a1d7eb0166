/- A part of the proofs: machine, contracts, laws. No condition of its own. -/
import Derived.Test.YtndinledjelleaaGreatDoorMvC
import Derived.Test.YtndinledjelleaaGreatDoorMvD
set_option linter.unusedSimpArgs false
set_option linter.unusedVariables false
set_option linter.unusedSectionVars false
namespace Go.Proofs.Mv.V
variable [GI]
def Pc (P : Program) (f : FuncId) (args : List D) (d : D) : Prop := ∀ (m : Mem) (n : Nat), ACalls P f args m n (fun d' m' n' => d' = d ∧ m' = m ∧ n' = n)
def PcQ (d : D) (m : Mem) (n : Nat) : D → Mem → Nat → Prop := Hq (fun d' m' _ => d' = d ∧ ∀ j, j < n → m' j = m j) tg
section
variable {P : Program} {f : FuncId} {args : List D} {d : D} {m : Mem} {n : Nat}
theorem pcq {m' : Mem} {n' : Nat} {d' : D} (h : d' = d) (hf : ∀ j, j < n → m' j = m j) : PcQ d m n d' m' n' := ⟨h, hf⟩
theorem pcq' {n' : Nat} {d' : D} (h : d' = d) : PcQ d m n d' m n' := ⟨h, fun _ _ => rfl⟩
theorem pc_of (hp : Pur d) (h : ∀ m n, ACalls P f args m n (PcQ d m n)) : Pc P f args d := fun m n => by
 refine acalls_done (h m n) ?_
 rintro d' m' n' ⟨rfl, hf⟩
 exact ⟨_, hp.pub, hf, rfl⟩
theorem pcall {K : D → Mem → Nat → Prop} {u : Tg K () ()} (h : Pc P f args d) (hk : K d m n) : aCall P f args m n K u :=
 aCall_of (h m n) fun _ _ _ ⟨e1, e2, e3⟩ => by rw [e1, e2, e3]; exact hk
end
def asg : List (Nat × D) → Nat → D
 | [] => fun _ => .any
 | (i, d) :: l => upd (asg l) i d
theorem asg_or {l : List (Nat × D)} {σ : Nat → D} (h : ∀ p ∈ l, σ p.1 = p.2) : ∀ i, asg l i = σ i ∨ asg l i = .any := by
 induction l with
 | nil => intro i; right; rfl
 | cons p l ih =>
  intro i
  obtain ⟨j, d⟩ := p
  simp only [asg, upd]
  by_cases e : i = j
  ·subst e; rw [if_pos rfl]; left; exact (h (i, d) (by simp)).symm
  ·rw [if_neg e]; exact ih (fun p hp => h p (by simp [hp])) i
def Rnd {β : Type} (sl : β → List (Nat × D)) (I : β → Mem → Nat → Prop) (f : β → Nat) (b : β) (_ : Tg sl I f) : (Nat → D) → Mem → Nat → Prop :=
 fun σ m n => ∃ b', f b' < f b ∧ (∀ p ∈ sl b', σ p.1 = p.2) ∧ I b' m n
theorem rnd {β : Type} {sl : β → List (Nat × D)} {I : β → Mem → Nat → Prop} {f : β → Nat} {b : β} {u : Tg sl I f} {σ : Nat → D} {m : Mem} {n : Nat} (b' : β) (h1 : f b' < f b) (h2 : ∀ p ∈ sl b', σ p.1 = p.2) (h3 : I b' m n) : Rnd sl I f b u σ m n := ⟨b', h1, h2, h3⟩
section
variable {P : Program} {N : Nat} {G : List Nat} {c : Code} {Q : APost} {σ : Nat → D} {m : Mem} {n : Nat}
theorem vloop_as {β : Type} (sl : β → List (Nat × D)) (I : β → Mem → Nat → Prop) (f : β → Nat) (b0 : β) (hs : ∀ p ∈ sl b0, σ p.1 = p.2) (h0 : I b0 m n)
  (round : ∀ b m n, I b m n → vc P N G c (Then (Rnd sl I f b tg) Q) tg (asg (sl b)) m n) {u : Tg G c Q} : vloop P N G c Q u σ m n :=
 awp_loop (fun b σ m n => (∀ p ∈ sl b, σ p.1 = p.2) ∧ I b m n) f b0 ⟨hs, h0⟩ fun b σ m n hi =>
  awp_forget (vc_sound _ _ _ _ _ _ (round b m n hi.2)) (asg_or hi.1)
end
attribute [simp] asg
/-! Lists read on. -/
end Go.Proofs.Mv.V
