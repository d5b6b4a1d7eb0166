/- A part of the proofs: machine, contracts, laws. No condition of its own. -/
import Derived.Test.YtihbegkefjjhpaaGreatDoorMvD
set_option linter.unusedSimpArgs false
set_option linter.unusedVariables false
set_option linter.unusedSectionVars false
namespace Go.Proofs.Mv.V
variable [GI]
theorem LeE.con {w : World} {ν : Nu} {F : Nat → Prop} {z : Nat} {l l' : List (List D)} (h : LeE l l') : ∀ b o, ConEs w ν F z l b o → ConEs w ν F z l' b o := by
 induction h with
 | nil => intro b o h; exact h
 | cons h _ ih =>
  intro b o hh
  simp only [ConEs] at hh ⊢
  obtain ⟨h1, h2, h3⟩ := hh
  exact ⟨by rw [← h.len]; exact h1, Le_of_conCs h _ _ h2, ih _ _ h3⟩
theorem st_weak {w : World} {ν : Nu} {F : Nat → Prop} {m : Mem} {n k : Nat} {o : Obj} {es' : List (List D)} (h : St w ν F m n) (hk : m k = some o) (hl : LeE o.es es') : St w ν F (m.set k ⟨o.z, es', o.g⟩) n := by
 have hs : ∀ j o', (m.set k ⟨o.z, es', o.g⟩) j = some o' → ∃ o1, m j = some o1 ∧ (j = k → o' = ⟨o.z, es', o.g⟩) ∧ (j ≠ k → o' = o1) := by
  intro j o' hj
  by_cases e : j = k
  ·subst e; rw [set_same] at hj; exact ⟨o, hk, fun _ => (Option.some.inj hj).symm, fun h => absurd rfl h⟩
  ·rw [set_ne _ _ _ _ e] at hj; exact ⟨o', hj, fun h => absurd h e, fun _ => rfl⟩
 refine ⟨⟨h.mem.lt, ?_, ?_⟩, ?_, h.gi⟩
 ·intro a b o1 o2 l l' h1 h2 h3 h4 h5
  obtain ⟨p1, q1, _⟩ := hs a o1 h1
  obtain ⟨p2, q2, _⟩ := hs b o2 h2
  exact h.mem.inj a b p1 p2 l l' q1 q2 h3 h4 h5
 ·intro j o' hj
  obtain ⟨o1, q1, q2, q3⟩ := hs j o' hj
  obtain ⟨l, arr, e, f, r1, r2, r3, r4, r5, r6, r7⟩ := h.mem.at_ j o1 q1
  by_cases ej : j = k
  ·subst ej
   rw [hk] at q1; obtain rfl := Option.some.inj q1
   rw [q2 rfl]
   exact ⟨l, arr, e, f, r1, r2, r3, r4, r5, r6, hl.con _ _ r7⟩
  ·rw [q3 ej]; exact ⟨l, arr, e, f, r1, r2, r3, r4, r5, r6, r7⟩
 ·intro j hj
  have := h.fresh j hj
  have ne : j ≠ k := by intro e; subst e; rw [hk] at this; cases this.2
  exact ⟨this.1, by rw [set_ne _ _ _ _ ne]; exact this.2⟩
theorem acalls_done1 {P : Program} {f : FuncId} {args : List D} {m : Mem} {n : Nat} {X : D → Obj → Prop} {R' : D → Mem → Nat → Prop} (k : Nat) (hk : k < n) (h : ACalls P f args m n R')
  (hR : ∀ d m' n', R' d m' n' → ∃ d' z es es' g, PubAs n m' d d' ∧ m' k = some ⟨z, es, g⟩ ∧ PubE n m' es es' ∧ (∀ j, j < n → j ≠ k → m' j = m j) ∧ X d' ⟨z, es', g⟩) :
  ACalls P f args m n (fun d m' n' => ∃ o, X d o ∧ m' = m.set k o ∧ n' = n) := by
 have h1 : ACalls P f args m n (fun d m' n' => n' = n ∧ ∃ d' o es', Le d d' ∧ LeE o.es es' ∧ X d' ⟨o.z, es', o.g⟩ ∧ m' = (fun j => if j = k then some o else if j < n then m j else none)) := by
  refine acalls_close h fun d m' n' hr β => ?_
  obtain ⟨d', z, es, es', g, p1, p2, p3, p4, p5⟩ := hR d m' n' hr
  obtain ⟨f1, q1⟩ := p1 β
  obtain ⟨f2, q2⟩ := p3.get β
  refine ⟨f1, _, (fun j => if j = k then some ⟨z, es.map (fun e => e.map (rs β (From n m') f2)), g⟩ else if j < n then m j else none), rfl, (q1 f1 (Nat.le_refl _)).2, fun j hj => ?_, fun j hj => ?_, rfl, d', ⟨z, es.map (fun e => e.map (rs β (From n m') f2)), g⟩, es', (q1 f1 (Nat.le_refl _)).1, (q2 f2 (Nat.le_refl _)).1, p5, rfl⟩
  ·have ne : j ≠ k := by omega
   have nl : ¬ j < n := by omega
   simp [ne, nl]
  ·by_cases e : j = k
   ·subst e
    exact .inr ⟨⟨z, es, g⟩, ⟨z, es.map (fun e => e.map (rs β (From n m') f2)), g⟩, f2, p2, by simp, rfl, rfl, rfl, (q2 f2 (Nat.le_refl _)).2⟩
   ·exact .inl ⟨by simp [e, hj, p4 j hj e], p4 j hj e⟩
 refine ⟨h.1, fun w ν F vals hst hv => Calls.mono (h1.2 w ν F vals hst hv) fun e w' he => ?_⟩
 obtain ⟨v, he, ν', F', d, m', n', g1, g2, g3, rfl, d', o, es', l1, l2, x, rfl⟩ := he
 have hm : (fun j => if j = k then some o else if j < n' then m j else none) = m.set k o := by
  funext j
  by_cases e : j = k
  ·subst e; simp [Mem.set]
  ·by_cases hj : j < n'
   ·simp [Mem.set, e, hj]
   ·simp [Mem.set, e, hj, (hst.fresh j (by omega)).2]
 rw [hm] at g2
 have g4 := st_weak g2 (set_same _ _ _) l2
 rw [set_set] at g4
 exact ⟨v, he, ν', F', d', _, n', g1, g4, l1 _ _ _ _ g3, _, x, rfl, rfl⟩
theorem acalls_put {P : Program} {f : FuncId} {args : List D} {m : Mem} {n : Nat} {X : D → Prop} {R' : D → Mem → Nat → Prop} (k : Nat) (hk : k < n) (o : Obj) (h : ACalls P f args m n R')
  (hR : ∀ d m' n', R' d m' n' → ∃ d' es, PubAs n m' d d' ∧ m' k = some ⟨o.z, es, o.g⟩ ∧ PubE n m' es o.es ∧ (∀ j, j < n → j ≠ k → m' j = m j) ∧ X d') :
  ACalls P f args m n (fun d m' n' => X d ∧ m' = m.set k o ∧ n' = n) := by
 refine ACalls.mono (acalls_done1 (X := fun d o' => X d ∧ o' = o) k hk h ?_) ?_
 ·intro d m' n' hr
  obtain ⟨d', es, h1, h2, h3, h4, h5⟩ := hR d m' n' hr
  exact ⟨d', o.z, es, o.es, o.g, h1, h2, h3, h4, h5, rfl⟩
 ·rintro d m' n' ⟨o', ⟨h1, rfl⟩, h2, h3⟩
  exact ⟨h1, h2, h3⟩
def Fin (n : Nat) (m : Mem) (k : Nat) (o : Obj) (X : D → Prop) : D → Mem → Nat → Prop := Hq (fun d m' _ => X d ∧ m' k = some o ∧ ∀ j, j < n → j ≠ k → m' j = m j) tg
theorem fin_mk {n : Nat} {m : Mem} {k : Nat} {o : Obj} {X : D → Prop} {d : D} {m' : Mem} {n' : Nat} (h1 : X d) (h2 : m' k = some o) (h3 : ∀ j, j < n → j ≠ k → m' j = m j) : Fin n m k o X d m' n' := ⟨h1, h2, h3⟩
theorem acalls_fin {P : Program} {f : FuncId} {args : List D} {m : Mem} {n : Nat} {X : D → Prop} {k : Nat} (hk : k < n) {o : Obj} (ho : ∀ e ∈ o.es, ∀ d ∈ e, Pur d) (hX : ∀ d, X d → Pur d) (h : ACalls P f args m n (Fin n m k o X)) :
  ACalls P f args m n (fun d m' n' => X d ∧ m' = m.set k o ∧ n' = n) := by
 refine acalls_put k hk o h ?_
 rintro d m' n' ⟨h1, h2, h3⟩
 exact ⟨d, o.es, (hX d h1).pub, h2, .pur ho, h3, h1⟩
end Go.Proofs.Mv.V
