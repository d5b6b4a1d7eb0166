/- A part of the proofs: machine, contracts, laws. No condition of its own. -/
import Derived.Test.YtihbegkefjjhpaaGreatDoorMvC
import Derived.Test.YtihbegkefjjhpaaGreatDoorMvD
set_option linter.unusedSimpArgs false
set_option linter.unusedVariables false
set_option linter.unusedSectionVars false
namespace Go.Proofs.Mv.V
variable [GI]
section
variable {P : Program} {m : Mem} {n : Nat}
end
end Go.Proofs.Mv.V
namespace Go.Proofs.Mv.V
variable [GI]
def Rs (k : Nat) (o : Obj) (d d' : D) : Prop := ∃ f0, ∀ f, f0 ≤ f → ∀ β, rs β (Mem.one k o) f d = d'
theorem Rs.pur {k : Nat} {o : Obj} {d : D} (h : Pur d) : Rs k o d d := ⟨0, fun f _ β => h.1 β _ f⟩
theorem Rs.lst {k g len z : Nat} {o : Obj} {es : List (List D)} (h1 : o.g = g) (h2 : len ≤ o.es.length) (h3 : o.z = z) (h4 : o.es.take len = es) (hp : ∀ e ∈ es, ∀ d ∈ e, Pur d) :
    Rs k o (.own k g 0 len z) (.sl z es) := by
  refine ⟨1, fun f hf β => ?_⟩
  obtain ⟨f, rfl⟩ : ∃ g, f = g + 1 := ⟨f - 1, by omega⟩
  have e : Mem.one k o k = some o := one_same k o
  simp only [rs, e, List.drop_zero, Nat.zero_add]
  rw [if_pos ⟨h1, h2, h3⟩, h4, mapE_id_of fun e he d hd => (hp e he d hd).1 β _ f]
inductive RsL (k : Nat) (o : Obj) : List D → List D → Prop
  | nil : RsL k o [] []
  | cons {d d' : D} {l l' : List D} : Rs k o d d' → RsL k o l l' → RsL k o (d :: l) (d' :: l')
theorem RsL.pur {k : Nat} {o : Obj} : ∀ {l : List D}, (∀ d ∈ l, Pur d) → RsL k o l l
  | [], _ => .nil
  | d :: l, h => .cons (.pur (h d (by simp))) (RsL.pur fun x hx => h x (by simp [hx]))
theorem RsL.app {k : Nat} {o : Obj} {a a' b b' : List D} (h : RsL k o a a') (h' : RsL k o b b') : RsL k o (a ++ b) (a' ++ b') := by
  induction h with
  | nil => exact h'
  | cons h1 _ ih => exact .cons h1 ih
theorem RsL.fuel {k : Nat} {o : Obj} {l l' : List D} (h : RsL k o l l') : ∃ f0, ∀ f, f0 ≤ f → ∀ β, l.map (rs β (Mem.one k o) f) = l' := by
  induction h with
  | nil => exact ⟨0, fun _ _ _ => rfl⟩
  | cons h1 _ ih =>
    obtain ⟨a, ha⟩ := h1
    obtain ⟨b, hb⟩ := ih
    exact ⟨a + b, fun f hf β => by rw [List.map_cons, ha f (by omega), hb f (by omega)]⟩
theorem Rs.agg {k : Nat} {o : Obj} {l l' : List D} (h : RsL k o l l') : Rs k o (.agg l) (.agg l') := by
  obtain ⟨a, ha⟩ := h.fuel
  refine ⟨a + 1, fun f hf β => ?_⟩
  obtain ⟨f, rfl⟩ : ∃ g, f = g + 1 := ⟨f - 1, by omega⟩
  simp only [rs]
  rw [ha f (by omega)]
section
variable {P : Program} {m : Mem} {n : Nat}
theorem aCall_pubA {f : FuncId} {args args' : List D} {K : D → Mem → Nat → Prop} {u : Tg K () ()} (k : Nat) (o : Obj) (hm : m k = some o) (hr : RsL k o args args') (h : aCall P f args' (m.del k) n K u) : aCall P f args m n K u := by
  obtain ⟨a, ha⟩ := hr.fuel
  refine aCall_pub k o a hm fun β => ?_
  rw [ha a (Nat.le_refl _) β]; exact h
theorem aCall_pubS {f : FuncId} {pre post : List D} {d : D} {z : Nat} {es : List (List D)} {K : D → Mem → Nat → Prop} {u : Tg K () ()} (hL : Lst m z es d) (hp : ∀ e ∈ es, ∀ d ∈ e, Pur d)
    (h1 : ∀ x ∈ pre, Pur x) (h2 : ∀ x ∈ post, Pur x)
    (h : ∀ m2, (∀ j, kof d ≠ some j → m2 j = m j) → aCall P f (pre ++ .sl z es :: post) m2 n K u) : aCall P f (pre ++ d :: post) m n K u := by
  rcases hL with ⟨rfl, hd⟩ | ⟨k, g, es', rfl, q1, q2, q3⟩
  · refine aCall_le ?_ (h m fun _ _ => rfl)
    have : ∀ (l : List D), LeL (l ++ d :: post) (l ++ .sl z [] :: post) := by
      intro l
      induction l with
      | nil =>
        refine .cons ?_ (LeL.refl _)
        rcases hd with rfl | rfl
        · exact Le_nil z
        · exact Le_mt z
      | cons x l ih => exact .cons (Le.refl _) ih
    exact this pre
  · exact aCall_pubA k _ q1 ((RsL.pur h1).app (.cons (.lst rfl q2 rfl q3 hp) (.pur h2))) (h _ fun j hj => del_ne _ _ _ (by intro e; subst e; exact hj rfl))
end
end Go.Proofs.Mv.V
