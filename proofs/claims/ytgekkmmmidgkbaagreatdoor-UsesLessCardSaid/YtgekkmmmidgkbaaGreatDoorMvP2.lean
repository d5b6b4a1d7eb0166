/- A part of the proofs of the seat YtgekkmmmidgkbaaGreatDoor: the abstract machine, the contracts of the functions, the laws. No condition of its own. -/
import Derived.Test.YtgekkmmmidgkbaaGreatDoorMvC
import Derived.Test.YtgekkmmmidgkbaaGreatDoorMvD
set_option linter.unusedSimpArgs false
set_option linter.unusedVariables false
set_option linter.unusedSectionVars false
namespace Go.Proofs.Mv.V
variable [GI]
theorem rs_vsF {w : World} {ν : Nu} {F F' : Nat → Prop} {m0 : Mem} {β : Nat → Nat} (hp : Pub w ν F F' m0 β) : ∀ (ds : List D) (fus : List Nat) (ys : List Value), ds.length = fus.length → ConVs w ν F ds ys → ConVs w ν F' (List.zipWith (fun d f => rs β m0 f d) ds fus) ys
  | [], [], ys, _, h => h
  | d :: ds, f :: fus, ys, hl, h => by
    simp only [ConVs, List.zipWith_cons_cons] at h ⊢
    obtain ⟨y, r, h1, hd, hr⟩ := h
    exact ⟨y, r, h1, rs_sound hp f d y hd, rs_vsF hp ds fus r (by simpa using hl) hr⟩
  | [], _ :: _, _, hl, _ => by simp at hl
  | _ :: _, [], _, hl, _ => by simp at hl
section
variable {P : Program} {m : Mem} {n : Nat}
theorem acalls_pubF {f : FuncId} {args : List D} {R : D → Mem → Nat → Prop} (k : Nat) (o : Obj) (fus : List Nat) (hl : args.length = fus.length) (hm : m k = some o)
    (h : ∀ β, ACalls P f (List.zipWith (fun d fu => rs β (Mem.one k o) fu d) args fus) (m.del k) n R) : ACalls P f args m n R := by
  refine ⟨(h (fun _ => 0)).1, fun w ν F vals hst hv => ?_⟩
  obtain ⟨l, arr, el, ff, q1, q2, q3, q4, q5, q6, q7⟩ := hst.mem.at_ k o hm
  let β : Nat → Nat := fun _ => l.b
  let F' : Nat → Prop := fun b => F b ∨ b = l.b
  have hpub : Pub w ν F F' (Mem.one k o) β := by
    refine ⟨fun b hb => .inl hb, fun j o' ho => ?_⟩
    simp only [Mem.one] at ho
    split at ho
    · rename_i hj; subst hj
      obtain rfl := Option.some.inj ho
      exact ⟨l, q1, q2, q3, rfl, .inr rfl, q7⟩
    · cases ho
  have hext : Ext w ν F w ν F' := ⟨Nat.le_refl _, fun b hb => ⟨.inl hb, rfl⟩, fun k l hl => ⟨l, hl, Nat.le_refl _, rfl, fun _ => rfl⟩, fun _ _ _ _ _ _ arr e f h => ⟨arr, e, f, h, rfl⟩, ⟨rfl, rfl⟩⟩
  have hdel : ∀ j o', m.del k j = some o' → j ≠ k ∧ m j = some o' := by
    intro j o' h; simp only [Mem.del] at h; split at h
    · cases h
    · rename_i hj; exact ⟨hj, h⟩
  have hst' : St w ν F' (m.del k) n := by
    refine ⟨⟨?_, ?_, ?_⟩, ?_, GI.keep hst.gi hext.fz⟩
    · rintro b (hb | rfl)
      · exact hst.mem.lt b hb
      · rcases Nat.lt_or_ge l.b w.heap.size with hh | hh
        · exact hh
        · simp [Array.getElem?_eq_none hh] at q4
    · intro a b o1 o2 l1 l2 h1 h2 h3 h4 h5
      exact hst.mem.inj a b o1 o2 l1 l2 (hdel _ _ h1).2 (hdel _ _ h2).2 h3 h4 h5
    · intro j o' hj
      obtain ⟨hjk, hj'⟩ := hdel j o' hj
      obtain ⟨l', arr', el', ff', r1, r2, r3, r4, r5, r6, r7⟩ := hst.mem.at_ j o' hj'
      refine ⟨l', arr', el', ff', r1, r2, r3, r4, ?_, r6, ConEs.mono hext _ _ _ _ rfl r7⟩
      rintro (hb | hb)
      · exact r5 hb
      · exact hjk (hst.mem.inj j k o' o l' l hj' hm r1 q1 hb)
    · intro j hj
      refine ⟨(hst.fresh j hj).1, ?_⟩
      simp only [Mem.del]; split
      · rfl
      · exact (hst.fresh j hj).2
  refine Calls.mono ((h β).2 w ν F' vals hst' (rs_vsF hpub _ _ _ hl hv)) ?_
  rintro e w' ⟨v, he, ν', F'', d, m', n', h1, h2, h3, h4⟩
  exact ⟨v, he, ν', F'', d, m', n', hext.trans h1, h2, h3, h4⟩
theorem aCall_pubF {f : FuncId} {args : List D} {K : D → Mem → Nat → Prop} (k : Nat) (o : Obj) (fus : List Nat) (hl : args.length = fus.length) {u : Tg K () ()} (hm : m k = some o)
    (h : ∀ β, aCall P f (List.zipWith (fun d fu => rs β (Mem.one k o) fu d) args fus) (m.del k) n K u) : aCall P f args m n K u := acalls_pubF k o fus hl hm h
end
end Go.Proofs.Mv.V
namespace Go.Proofs.Mv.V
variable [GI]
/-- Once k is read-only, d is d'. -/
def Rs (k : Nat) (o : Obj) (d d' : D) : Prop := ∃ f0, ∀ f, f0 ≤ f → ∀ β, rs β (Mem.one k o) f d = d'
theorem Rs.pur {k : Nat} {o : Obj} {d : D} (h : Pur d) : Rs k o d d := ⟨0, fun f _ β => h.1 β _ f⟩
theorem Rs.lst {k g len z : Nat} {o : Obj} {es : List (List D)} (h1 : o.g = g) (h2 : len ≤ o.es.length) (h3 : o.z = z) (h4 : o.es.take len = es) (hp : ∀ e ∈ es, ∀ d ∈ e, Pur d) :
    Rs k o (.own k g 0 len z) (.sl z es) := by
  refine ⟨1, fun f hf β => ?_⟩
  obtain ⟨f, rfl⟩ : ∃ g, f = g + 1 := ⟨f - 1, by omega⟩
  have e : Mem.one k o k = some o := one_same k o
  simp only [rs, e, List.drop_zero, Nat.zero_add]
  rw [if_pos ⟨h1, h2, h3⟩, h4, mapE_id_of fun e he d hd => (hp e he d hd).1 β _ f]
inductive RsL (k : Nat) (o : Obj) : List D → List D → Prop
  | nil : RsL k o [] []
  | cons {d d' : D} {l l' : List D} : Rs k o d d' → RsL k o l l' → RsL k o (d :: l) (d' :: l')
theorem RsL.pur {k : Nat} {o : Obj} : ∀ {l : List D}, (∀ d ∈ l, Pur d) → RsL k o l l
  | [], _ => .nil
  | d :: l, h => .cons (.pur (h d (by simp))) (RsL.pur fun x hx => h x (by simp [hx]))
theorem RsL.app {k : Nat} {o : Obj} {a a' b b' : List D} (h : RsL k o a a') (h' : RsL k o b b') : RsL k o (a ++ b) (a' ++ b') := by
  induction h with
  | nil => exact h'
  | cons h1 _ ih => exact .cons h1 ih
theorem RsL.fuel {k : Nat} {o : Obj} {l l' : List D} (h : RsL k o l l') : ∃ f0, ∀ f, f0 ≤ f → ∀ β, l.map (rs β (Mem.one k o) f) = l' := by
  induction h with
  | nil => exact ⟨0, fun _ _ _ => rfl⟩
  | cons h1 _ ih =>
    obtain ⟨a, ha⟩ := h1
    obtain ⟨b, hb⟩ := ih
    exact ⟨a + b, fun f hf β => by rw [List.map_cons, ha f (by omega), hb f (by omega)]⟩
theorem Rs.agg {k : Nat} {o : Obj} {l l' : List D} (h : RsL k o l l') : Rs k o (.agg l) (.agg l') := by
  obtain ⟨a, ha⟩ := h.fuel
  refine ⟨a + 1, fun f hf β => ?_⟩
  obtain ⟨f, rfl⟩ : ∃ g, f = g + 1 := ⟨f - 1, by omega⟩
  simp only [rs]
  rw [ha f (by omega)]
section
variable {P : Program} {m : Mem} {n : Nat}
theorem aCall_pubA {f : FuncId} {args args' : List D} {K : D → Mem → Nat → Prop} {u : Tg K () ()} (k : Nat) (o : Obj) (hm : m k = some o) (hr : RsL k o args args') (h : aCall P f args' (m.del k) n K u) : aCall P f args m n K u := by
  obtain ⟨a, ha⟩ := hr.fuel
  refine aCall_pub k o a hm fun β => ?_
  rw [ha a (Nat.le_refl _) β]; exact h
/-- One argument is a list of one's own. -/
theorem aCall_pubS {f : FuncId} {pre post : List D} {d : D} {z : Nat} {es : List (List D)} {K : D → Mem → Nat → Prop} {u : Tg K () ()} (hL : Lst m z es d) (hp : ∀ e ∈ es, ∀ d ∈ e, Pur d)
    (h1 : ∀ x ∈ pre, Pur x) (h2 : ∀ x ∈ post, Pur x)
    (h : ∀ m2, (∀ j, kof d ≠ some j → m2 j = m j) → aCall P f (pre ++ .sl z es :: post) m2 n K u) : aCall P f (pre ++ d :: post) m n K u := by
  rcases hL with ⟨rfl, hd⟩ | ⟨k, g, es', rfl, q1, q2, q3⟩
  · refine aCall_le ?_ (h m fun _ _ => rfl)
    have : ∀ (l : List D), LeL (l ++ d :: post) (l ++ .sl z [] :: post) := by
      intro l
      induction l with
      | nil =>
        refine .cons ?_ (LeL.refl _)
        rcases hd with rfl | rfl
        · exact Le_nil z
        · exact Le_mt z
      | cons x l ih => exact .cons (Le.refl _) ih
    exact this pre
  · exact aCall_pubA k _ q1 ((RsL.pur h1).app (.cons (.lst rfl q2 rfl q3 hp) (.pur h2))) (h _ fun j hj => del_ne _ _ _ (by intro e; subst e; exact hj rfl))
/-- One field of the first argument is a list of one's own. -/
theorem aCall_pubG {f : FuncId} {pre post rest : List D} {d : D} {z : Nat} {es : List (List D)} {K : D → Mem → Nat → Prop} {u : Tg K () ()} (hL : Lst m z es d) (hp : ∀ e ∈ es, ∀ d ∈ e, Pur d)
    (h1 : ∀ x ∈ pre, Pur x) (h2 : ∀ x ∈ post, Pur x) (h3 : ∀ x ∈ rest, Pur x)
    (h : ∀ m2, (∀ j, kof d ≠ some j → m2 j = m j) → aCall P f (.agg (pre ++ .sl z es :: post) :: rest) m2 n K u) : aCall P f (.agg (pre ++ d :: post) :: rest) m n K u := by
  rcases hL with ⟨rfl, hd⟩ | ⟨k, g, es', rfl, q1, q2, q3⟩
  · refine aCall_le (.cons (Le_agg ?_) (LeL.refl _)) (h m fun _ _ => rfl)
    have : ∀ (l : List D), LeL (l ++ d :: post) (l ++ .sl z [] :: post) := by
      intro l
      induction l with
      | nil =>
        refine .cons ?_ (LeL.refl _)
        rcases hd with rfl | rfl
        · exact Le_nil z
        · exact Le_mt z
      | cons x l ih => exact .cons (Le.refl _) ih
    exact this pre
  · exact aCall_pubA k _ q1 (.cons (.agg ((RsL.pur h1).app (.cons (.lst rfl q2 rfl q3 hp) (.pur h2)))) (.pur h3)) (h _ fun j hj => del_ne _ _ _ (by intro e; subst e; exact hj rfl))
end
end Go.Proofs.Mv.V
