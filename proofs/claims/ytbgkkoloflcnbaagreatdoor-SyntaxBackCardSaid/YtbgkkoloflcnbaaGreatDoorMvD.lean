/- A part of the proofs of the seat YtbgkkoloflcnbaaGreatDoor: the abstract machine, the contracts of the functions, the laws. No condition of its own. -/
import Derived.Test.YtbgkkoloflcnbaaGreatDoorMvC
import Derived.Below
import Derived.Shelf.SlSortCmp.WholeK
set_option linter.unusedSimpArgs false
set_option linter.unusedVariables false
set_option linter.unusedSectionVars false
namespace Go.Proofs.Mv.V
variable [GI]

def kof : D → Option Nat
  | .own k _ _ _ _ => some k
  | _ => none
@[simp] theorem kof_own (k g o n z : Nat) : kof (.own k g o n z) = some k := rfl
@[simp] theorem kof_v (x : Value) : kof (.v x) = none := rfl
@[simp] theorem kof_mt : kof .mt = none := rfl
@[simp] theorem kof_sl (z : Nat) (es : List (List D)) : kof (.sl z es) = none := rfl
/-- d is a list of one's own, of these elements. -/
def Lst (m : Mem) (z : Nat) (es : List (List D)) (d : D) : Prop :=
  (es = [] ∧ (d = .v (.slice none 0 0) ∨ d = .mt)) ∨ ∃ k g es', d = .own k g 0 es.length z ∧ m k = some ⟨z, es', g⟩ ∧ es.length ≤ es'.length ∧ es'.take es.length = es
theorem Lst.nil {m : Mem} {z : Nat} : Lst m z [] (.v (.slice none 0 0)) := .inl ⟨rfl, .inl rfl⟩
theorem Lst.own {m : Mem} {z k g : Nat} {es : List (List D)} (h : m k = some ⟨z, es, g⟩) : Lst m z es (.own k g 0 es.length z) :=
  .inr ⟨k, g, es, rfl, h, Nat.le_refl _, List.take_of_length_le (Nat.le_refl _)⟩
@[simp] theorem set_set (m : Mem) (k : Nat) (a b : Obj) : (m.set k a).set k b = m.set k b := by
  funext j; simp only [Mem.set]; split <;> rfl
theorem Lst.mk {m : Mem} {z k g len : Nat} {es es' : List (List D)} (h : m k = some ⟨z, es', g⟩) (hl : len = es.length) (hle : len ≤ es'.length) (ht : es'.take len = es) : Lst m z es (.own k g 0 len z) := by
  subst hl; exact .inr ⟨k, g, es', rfl, h, hle, ht⟩
theorem Lst.frame {m m' : Mem} {z : Nat} {es : List (List D)} {d : D} (h : Lst m z es d) (hf : ∀ k, kof d = some k → m' k = m k) : Lst m' z es d := by
  rcases h with h | ⟨k, g, es', rfl, h1, h2⟩
  · exact .inl h
  · exact .inr ⟨k, g, es', rfl, by rw [hf k rfl]; exact h1, h2⟩
theorem Lst.map_eq {m : Mem} {z : Nat} {es es' : List (List D)} {d : D} (h : Lst m z es d) (e : es = es') : Lst m z es' d := by subst e; exact h
theorem Lst.elems {m : Mem} {z : Nat} {es : List (List D)} {d : D} (h : Lst m z es d) : ∃ O : Prop, elemsOf m z d = some (O, es) ∧ O := by
  rcases h with ⟨rfl, rfl | rfl⟩ | ⟨k, g, es', rfl, h1, h2, h3⟩
  · exact ⟨True, rfl, trivial⟩
  · exact ⟨True, rfl, trivial⟩
  · exact ⟨0 + es.length ≤ es'.length, by simp [elemsOf, h1, h3], by omega⟩
theorem elems_sl (m : Mem) (z : Nat) (es : List (List D)) : ∃ O : Prop, elemsOf m z (.sl z es) = some (O, es) ∧ O := ⟨True, by simp [elemsOf], trivial⟩
section
variable {m : Mem} {n : Nat}
theorem b4_append {z b : Nat} {es xs : List (List D)} {d : D} {O ok : Prop} {K : D → Mem → Nat → Prop} {u : Tg K () ()} (hL : Lst m z es d) (hK : ∀ k, kof d = some k → k < n) (hok : ok) (hO : O) (hb : 1 ≤ b)
    (hlen : (es.length + xs.length) * b ≤ 140737488355328)
    (h : ∀ d' m' n', Lst m' z (es ++ xs) d' → n ≤ n' → (∀ k, kof d' = some k → k < n' ∧ (kof d = some k ∨ k = n)) → (∀ j, j ≠ n → kof d ≠ some j → m' j = m j) → K d' m' n') :
    b4 (apD (some (z, b)) ok d (some (O, xs)) m n) K u := by
  rcases hL with ⟨rfl, rfl | rfl⟩ | ⟨k, g, es', rfl, h1, h2, h3⟩
  · cases xs with
    | nil => exact ⟨⟨hok, hO, hb⟩, h _ _ _ (.inl ⟨rfl, .inl rfl⟩) (Nat.le_refl _) (by simp) (fun _ _ _ => rfl)⟩
    | cons y ys =>
      refine ⟨⟨hok, hO, hb, by simpa using hlen⟩, h _ _ _ ?_ (Nat.le_succ _) (by simp) (fun j hj _ => set_ne _ _ _ _ hj)⟩
      exact Lst.own (es := y :: ys) (set_same _ _ _)
  · cases xs with
    | nil => exact ⟨⟨hok, hO, hb⟩, h _ _ _ (.inl ⟨rfl, .inr rfl⟩) (Nat.le_refl _) (by simp) (fun _ _ _ => rfl)⟩
    | cons y ys =>
      refine ⟨⟨hok, hO, hb, by simpa using hlen⟩, h _ _ _ ?_ (Nat.le_succ _) (by simp) (fun j hj _ => set_ne _ _ _ _ hj)⟩
      exact Lst.own (es := y :: ys) (set_same _ _ _)
  · simp only [apD, h1, b4_some]
    refine ⟨⟨hok, hO, by simp, by simp, by simp, h2, hb, hlen⟩, h _ _ _ ?_ (Nat.le_refl _) ?_ ?_⟩
    · rw [h3]
      have := Lst.own (m := m.set k ⟨z, es ++ xs, g + 1⟩) (k := k) (z := z) (es := es ++ xs) (g := g + 1) (set_same _ _ _)
      rw [List.length_append] at this
      exact this
    · intro j hj; simp at hj; subst hj; exact ⟨hK _ rfl, .inl rfl⟩
    · intro j _ hj; exact set_ne _ _ _ _ (by intro e; subst e; exact hj rfl)
theorem okD_lst {m : Mem} {z : Nat} {es : List (List D)} {d : D} (h : Lst m z es d) : okD d = true ∧ cellsOf d = [d] := by
  rcases h with ⟨rfl, rfl | rfl⟩ | ⟨k, g, es', rfl, h1, h2, h3⟩ <;> exact ⟨rfl, rfl⟩
theorem lenD_lst {z : Nat} {es : List (List D)} {d : D} (h : Lst m z es d) : lenD 5 d = some (True, .v (.int .i64 es.length)) := by
  rcases h with ⟨rfl, rfl | rfl⟩ | ⟨k, g, es', rfl, h1, h2, h3⟩ <;> rfl
end

/-- A post that is not looked into. -/
def Hq (R : D → Mem → Nat → Prop) (_ : Tg R () ()) : D → Mem → Nat → Prop := R
theorem hq {R : D → Mem → Nat → Prop} {u : Tg R () ()} {d : D} {m : Mem} {n : Nat} (h : R d m n) : Hq R u d m n := h
/-! The closing of a contract. -/
def PubAs (n : Nat) (m : Mem) (d d' : D) : Prop := ∀ β, ∃ fu, ∀ f, fu ≤ f → Le (rs β (From n m) f d) d' ∧ below n (rs β (From n m) f d) = true
/-- Without keys. -/
def Pur (d : D) : Prop := (∀ β m f, rs β m f d = d) ∧ ∀ n, below n d = true
theorem rs_zero (β : Nat → Nat) (m : Mem) (d : D) : rs β m 0 d = d := by cases d <;> rfl
theorem Pur.v (x : Value) : Pur (.v x) := ⟨fun β m f => by cases f <;> rfl, fun n => by simp [below]⟩
theorem Pur.any : Pur .any := ⟨fun β m f => by cases f <;> rfl, fun n => by simp [below]⟩
theorem Pur.mt : Pur .mt := ⟨fun β m f => by cases f <;> rfl, fun n => by simp [below]⟩
theorem belowL_iff {n : Nat} : ∀ {l : List D}, belowL n l = true ↔ ∀ d ∈ l, below n d = true
  | [] => by simp [belowL]
  | d :: l => by simp [belowL, belowL_iff (l := l)]
theorem belowE_iff {n : Nat} : ∀ {l : List (List D)}, belowE n l = true ↔ ∀ e ∈ l, ∀ d ∈ e, below n d = true
  | [] => by simp [belowE]
  | d :: l => by simp [belowE, belowE_iff (l := l), belowL_iff]
theorem map_id_of {l : List D} {f : D → D} (h : ∀ d ∈ l, f d = d) : l.map f = l := by
  induction l with
  | nil => rfl
  | cons a l ih => simp [h a (by simp), ih fun d hd => h d (by simp [hd])]
theorem mapE_id_of {l : List (List D)} {f : D → D} (h : ∀ e ∈ l, ∀ d ∈ e, f d = d) : l.map (fun e => e.map f) = l := by
  induction l with
  | nil => rfl
  | cons a l ih => simp [map_id_of (h a (by simp)), ih fun d hd => h d (by simp [hd])]
theorem Pur.sl {z : Nat} {es : List (List D)} (h : ∀ e ∈ es, ∀ d ∈ e, Pur d) : Pur (.sl z es) :=
  ⟨fun β m f => by
    cases f with
    | zero => rfl
    | succ f => simp only [rs]; rw [mapE_id_of fun e he d hd => (h e he d hd).1 β m f],
   fun n => by simp only [below]; exact belowE_iff.2 fun e he d hd => (h e he d hd).2 n⟩
theorem Pur.agg {l : List D} (h : ∀ d ∈ l, Pur d) : Pur (.agg l) :=
  ⟨fun β m f => by
    cases f with
    | zero => rfl
    | succ f => simp only [rs]; rw [map_id_of fun d hd => (h d hd).1 β m f],
   fun n => by simp only [below]; exact belowL_iff.2 fun d hd => (h d hd).2 n⟩
theorem Pur.tup {l : List D} (h : ∀ d ∈ l, Pur d) : Pur (.tup l) :=
  ⟨fun β m f => by
    cases f with
    | zero => rfl
    | succ f => simp only [rs]; rw [map_id_of fun d hd => (h d hd).1 β m f],
   fun n => by simp only [below]; exact belowL_iff.2 fun d hd => (h d hd).2 n⟩
theorem Pur.rptr {t : Option (Nat × Nat)} {l : List D} (h : ∀ d ∈ l, Pur d) : Pur (.rptr t l) :=
  ⟨fun β m f => by
    cases f with
    | zero => rfl
    | succ f => simp only [rs]; rw [map_id_of fun d hd => (h d hd).1 β m f],
   fun n => by simp only [below]; exact belowL_iff.2 fun d hd => (h d hd).2 n⟩
theorem Pur.iface {t : TypeId} {d : D} (h : Pur d) : Pur (.iface t d) :=
  ⟨fun β m f => by
    cases f with
    | zero => rfl
    | succ f => simp only [rs]; rw [h.1 β m f],
   fun n => by simp only [below]; exact h.2 n⟩
section
variable {m : Mem} {n : Nat}
theorem Pur.pub {d : D} (h : Pur d) : PubAs n m d d := fun β => ⟨0, fun f _ => by rw [h.1]; exact ⟨Le.refl _, h.2 n⟩⟩
theorem PubAs.le {d d' d'' : D} (h : PubAs n m d d') (hl : Le d' d'') : PubAs n m d d'' := fun β => by
  obtain ⟨fu, hf⟩ := h β
  exact ⟨fu, fun f hle => ⟨fun w ν F y hc => hl _ _ _ _ ((hf f hle).1 _ _ _ _ hc), (hf f hle).2⟩⟩
inductive PubL (n : Nat) (m : Mem) : List D → List D → Prop where
  | nil : PubL n m [] []
  | cons {d d' : D} {l l' : List D} (h : PubAs n m d d') (hl : PubL n m l l') : PubL n m (d :: l) (d' :: l')
inductive PubE (n : Nat) (m : Mem) : List (List D) → List (List D) → Prop where
  | nil : PubE n m [] []
  | cons {d d' : List D} {l l' : List (List D)} (h : PubL n m d d') (hl : PubE n m l l') : PubE n m (d :: l) (d' :: l')
theorem PubL.get {l l' : List D} (h : PubL n m l l') : ∀ β, ∃ fu, ∀ f, fu ≤ f → LeL (l.map (rs β (From n m) f)) l' ∧ belowL n (l.map (rs β (From n m) f)) = true := by
  intro β
  induction h with
  | nil => exact ⟨0, fun f _ => ⟨.nil, rfl⟩⟩
  | cons h _ ih =>
    obtain ⟨f1, h1⟩ := h β
    obtain ⟨f2, h2⟩ := ih
    refine ⟨f1 + f2, fun f hf => ⟨?_, ?_⟩⟩
    · exact .cons (h1 f (by omega)).1 (h2 f (by omega)).1
    · simp only [List.map_cons, belowL, (h1 f (by omega)).2, (h2 f (by omega)).2, Bool.and_self]
theorem Le_of_conCs {w : World} {ν : Nu} {F : Nat → Prop} {l l' : List D} (h : LeL l l') : ∀ b o, ConCs w ν F l b o → ConCs w ν F l' b o := by
  induction h with
  | nil => intro b o h; exact h
  | cons h _ ih => intro b o hh; simp only [ConCs] at hh ⊢; obtain ⟨⟨y, h1, h2, h3⟩, h4⟩ := hh; exact ⟨⟨y, h1, h2, h _ _ _ _ h3⟩, ih _ _ h4⟩
theorem LeL.len {l l' : List D} (h : LeL l l') : l.length = l'.length := by
  induction h with
  | nil => rfl
  | cons _ _ ih => simp [ih]
inductive LeE : List (List D) → List (List D) → Prop where
  | nil : LeE [] []
  | cons {d d' : List D} {l l' : List (List D)} (h : LeL d d') (hl : LeE l l') : LeE (d :: l) (d' :: l')
theorem LeE.len {l l' : List (List D)} (h : LeE l l') : l.length = l'.length := by
  induction h with
  | nil => rfl
  | cons _ _ ih => simp [ih]
theorem Le_sl {z : Nat} {l l' : List (List D)} (h : LeE l l') : Le (.sl z l) (.sl z l') := by
  intro w ν F y hh
  simp only [Con] at hh ⊢
  have hE : ∀ b o, ConEs w ν F z l b o → ConEs w ν F z l' b o := by
    clear hh
    induction h with
    | nil => intro b o h; exact h
    | cons h _ ih => intro b o hh; simp only [ConEs] at hh ⊢; exact ⟨by rw [← h.len]; exact hh.1, Le_of_conCs h _ _ hh.2.1, ih _ _ hh.2.2⟩
  rcases hh with ⟨b, o, c, h1, h2, h3, h4⟩ | ⟨h1, h2⟩
  · exact .inl ⟨b, o, c, by rw [← h.len]; exact h1, by rw [← h.len]; exact h2, h3, hE _ _ h4⟩
  · subst h1; cases h; exact .inr ⟨rfl, h2⟩
theorem Le_rptr {t : Option (Nat × Nat)} {l l' : List D} (h : LeL l l') : Le (.rptr t l) (.rptr t l') := by
  intro w ν F y hh
  simp only [Con] at hh ⊢
  obtain ⟨b, o, h1, h2, h3, h4⟩ := hh
  exact ⟨b, o, h1, h2, h3, Le_of_conCs h _ _ h4⟩
theorem Le_rptr_none {t : Option (Nat × Nat)} {l : List D} : Le (.rptr t l) (.rptr none l) := by
  intro w ν F y hh
  simp only [Con] at hh ⊢
  obtain ⟨b, o, h1, h2, h3, h4⟩ := hh
  exact ⟨b, o, h1, h2, .inl trivial, h4⟩
theorem Le_iface {t : TypeId} {d d' : D} (h : Le d d') : Le (.iface t d) (.iface t d') := by
  intro w ν F y hh
  simp only [Con] at hh ⊢
  obtain ⟨y', h1, h2⟩ := hh
  exact ⟨y', h1, h _ _ _ _ h2⟩
theorem PubE.get {l l' : List (List D)} (h : PubE n m l l') : ∀ β, ∃ fu, ∀ f, fu ≤ f → LeE (l.map fun e => e.map (rs β (From n m) f)) l' ∧ belowE n (l.map fun e => e.map (rs β (From n m) f)) = true := by
  intro β
  induction h with
  | nil => exact ⟨0, fun f _ => ⟨.nil, rfl⟩⟩
  | cons h _ ih =>
    obtain ⟨f1, h1⟩ := h.get β
    obtain ⟨f2, h2⟩ := ih
    refine ⟨f1 + f2, fun f hf => ⟨?_, ?_⟩⟩
    · exact .cons (h1 f (by omega)).1 (h2 f (by omega)).1
    · simp only [List.map_cons, belowE, (h1 f (by omega)).2, (h2 f (by omega)).2, Bool.and_self]
theorem PubAs.tup {l l' : List D} (h : PubL n m l l') : PubAs n m (.tup l) (.tup l') := fun β => by
  obtain ⟨fu, hf⟩ := h.get β
  refine ⟨fu + 1, fun f hle => ?_⟩
  obtain ⟨f', rfl⟩ : ∃ f', f = f' + 1 := ⟨f - 1, by omega⟩
  simp only [rs, below]
  exact ⟨Le_tup (hf f' (by omega)).1, (hf f' (by omega)).2⟩
theorem PubAs.agg {l l' : List D} (h : PubL n m l l') : PubAs n m (.agg l) (.agg l') := fun β => by
  obtain ⟨fu, hf⟩ := h.get β
  refine ⟨fu + 1, fun f hle => ?_⟩
  obtain ⟨f', rfl⟩ : ∃ f', f = f' + 1 := ⟨f - 1, by omega⟩
  simp only [rs, below]
  exact ⟨Le_agg (hf f' (by omega)).1, (hf f' (by omega)).2⟩
theorem PubAs.iface {t : TypeId} {d d' : D} (h : PubAs n m d d') : PubAs n m (.iface t d) (.iface t d') := fun β => by
  obtain ⟨fu, hf⟩ := h β
  refine ⟨fu + 1, fun f hle => ?_⟩
  obtain ⟨f', rfl⟩ : ∃ f', f = f' + 1 := ⟨f - 1, by omega⟩
  simp only [rs, below]
  exact ⟨Le_iface (hf f' (by omega)).1, (hf f' (by omega)).2⟩
theorem PubAs.lst {z : Nat} {es es' : List (List D)} {d : D} (hL : Lst m z es d) (hk : ∀ k, kof d = some k → n ≤ k) (h : PubE n m es es') : PubAs n m d (.sl z es') := fun β => by
  obtain ⟨fu, hf⟩ := h.get β
  refine ⟨fu + 1, fun f hle => ?_⟩
  obtain ⟨f', rfl⟩ : ∃ f', f = f' + 1 := ⟨f - 1, by omega⟩
  rcases hL with ⟨rfl, rfl | rfl⟩ | ⟨k, g, es0, rfl, h1, h2, h3⟩
  · cases h; exact ⟨Le_nil z, rfl⟩
  · cases h; exact ⟨Le_mt z, rfl⟩
  · have hn := hk k rfl
    simp only [rs, From, hn, if_true, h1, Nat.zero_add, h2, and_self, List.drop_zero, h3, below]
    exact ⟨Le_sl (hf f' (by omega)).1, (hf f' (by omega)).2⟩
/-- A pointer to one variable of one's own. -/
theorem PubAs.ptr {z k g : Nat} {cs cs' : List D} (hm : m k = some ⟨z, [cs], g⟩) (hk : n ≤ k) (h : PubL n m cs cs') : PubAs n m (.ptr k g 0 0) (.rptr none cs') := fun β => by
  obtain ⟨fu, hf⟩ := h.get β
  refine ⟨fu + 1, fun f hle => ?_⟩
  obtain ⟨f', rfl⟩ : ∃ f', f = f' + 1 := ⟨f - 1, by omega⟩
  simp only [rs, From, hk, if_true, hm, List.length_singleton, Nat.lt_one_iff, and_self, List.getD_cons_zero, List.drop_zero, below]
  exact ⟨fun w ν F y hc => Le_rptr_none _ _ _ _ (Le_rptr (hf f' (by omega)).1 _ _ _ _ hc), (hf f' (by omega)).2⟩
theorem PubE.pur {es : List (List D)} (h : ∀ e ∈ es, ∀ d ∈ e, Pur d) : PubE n m es es := by
  have hl : ∀ l : List D, (∀ d ∈ l, Pur d) → PubL n m l l := by
    intro l
    induction l with
    | nil => intro _; exact .nil
    | cons d l ih => intro h; exact .cons (h d (by simp)).pub (ih fun x hx => h x (by simp [hx]))
  induction es with
  | nil => exact .nil
  | cons e es ih => exact .cons (hl e (h e (by simp))) (ih fun x hx => h x (by simp [hx]))
theorem PubAs.lstP {z : Nat} {es : List (List D)} {d : D} (hL : Lst m z es d) (hk : ∀ k, kof d = some k → n ≤ k) (h : ∀ e ∈ es, ∀ d ∈ e, Pur d) : PubAs n m d (.sl z es) := .lst hL hk (.pur h)
/-- A call that leaves nothing of its own. -/
theorem acalls_done {P : Program} {f : FuncId} {args : List D} {X : D → Prop} {R' : D → Mem → Nat → Prop} (h : ACalls P f args m n R')
    (hR : ∀ d m' n', R' d m' n' → ∃ d', PubAs n m' d d' ∧ (∀ k, k < n → m' k = m k) ∧ X d') : ACalls P f args m n (fun d m' n' => X d ∧ m' = m ∧ n' = n) := by
  refine acalls_pure h fun d m' n' hr β => ?_
  obtain ⟨d', h1, h2, h3⟩ := hR d m' n' hr
  obtain ⟨fu, hf⟩ := h1 β
  exact ⟨fu, d', (hf fu (Nat.le_refl _)).1, (hf fu (Nat.le_refl _)).2, h2, h3⟩
end
end Go.Proofs.Mv.V
namespace Go.Proofs.Mv.V
open Go.ChangeShapes Go.WideShapes Go.ChangeAt Go.RowKit
/-- Fields that lie one behind the other. -/
def tiles (P : Program) : Nat → List Field → Option Nat
  | o, [] => some o
  | o, f :: fs => if f.offset = o then tiles P (o + P.cellsOf f.type) fs else none
/-- Is a type made of numbers, bools, texts, slices and structs, all of T? -/
def okT (P : Program) (T : List TypeId) (t : TypeId) : Bool :=
  match P.underlying t with
  | some .bool => P.cellsOf t == 1
  | some (.int _) => P.cellsOf t == 1
  | some .string => P.cellsOf t == 1
  | some (.slice e) => P.cellsOf t == 1 && T.contains e
  | some (.struct fs) => tiles P 0 fs.toList == some (P.cellsOf t) && fs.toList.all fun f => T.contains f.type
  | _ => false
/-- Cells that read as data of a type. -/
def TyD (P : Program) : Nat → TypeId → List D → Prop
  | 0, _, _ => False
  | n + 1, t, ds => match P.underlying t with
    | some .bool => ∃ b, ds = [.v (.bool b)]
    | some (.int k) => ∃ i, ds = [.v (.int k i)] ∧ (Lit.int k i).wf = true
    | some .string => ∃ s : List UInt8, ds = [.v (.string (ofL s))] ∧ s.length ≤ maxLen
    | some (.slice e) => ∃ es, ds = [.sl (P.cellsOf e) es] ∧ es.length ≤ maxLen ∧ ∀ x ∈ es, TyD P n e x
    | some (.struct fs) => ds.length = P.cellsOf t ∧ ∀ f ∈ fs.toList, TyD P n f.type ((ds.drop f.offset).take (P.cellsOf f.type))
    | _ => False
theorem conCs_cells {w : World} {ν : Nu} {F : Nat → Prop} {b : Nat} : ∀ (ds : List D) (ys : List Value) (o : Nat), ConVs w ν F ds ys → (∀ x ∈ ys, oneC x = true) → (∀ j y, ys[j]? = some y → w.cell? ⟨b, o + j, none⟩ = some y) → ConCs w ν F ds b o := by
  intro ds
  induction ds with
  | nil => intro ys o _ _ _; trivial
  | cons d ds ih =>
    intro ys o h h1 h2
    simp only [ConVs] at h
    obtain ⟨y, r, rfl, hd, hr⟩ := h
    simp only [ConCs]
    refine ⟨⟨y, h2 0 y rfl, h1 y (by simp), hd⟩, ih r (o + 1) hr (fun x hx => h1 x (by simp [hx])) fun j z hz => ?_⟩
    have := h2 (j + 1) z (by simpa using hz)
    rw [show o + 1 + j = o + (j + 1) by omega]; exact this
theorem cells_get {w : World} {base n : Nat} {a : Addr} {cs : List Value} (h : w.cells? base a n = some cs) : cs.length = n ∧ ∀ (j : Nat) y, cs[j]? = some y → w.cell? (a.add j) = some y := by
  obtain ⟨_, h1, h2⟩ := World.cells?_some h
  refine ⟨h1, fun j y hy => ?_⟩
  have hj : j < n := by
    rcases Nat.lt_or_ge j n with h | h
    · exact h
    · rw [List.getElem?_eq_none (by omega)] at hy; cases hy
  rw [h2 j hj, hy]
section
variable {H : Type} {enc : TypeId × Value → H} {P : Program} {W : World} {ν : Nu} {T : List TypeId}
theorem tiles_le : ∀ (fs : List Field) (o e : Nat), tiles P o fs = some e → o ≤ e := by
  intro fs
  induction fs with
  | nil => intro o e h; simp [tiles] at h; omega
  | cons g gs ihg =>
    intro o e h
    simp only [tiles] at h
    split at h
    · have := ihg _ _ h; omega
    · cases h
theorem read_fields {n : Nat} {cs : List Value} : ∀ (fs : List Field) (o e : Nat), tiles P o fs = some e → cs.length = e →
      (∀ f ∈ fs, ∃ ds, ConVs W ν (F0 W) ds ((cs.drop f.offset).take (P.cellsOf f.type)) ∧ (∀ x ∈ (cs.drop f.offset).take (P.cellsOf f.type), oneC x = true) ∧ TyD P n f.type ds ∧ ds.length = P.cellsOf f.type) →
      ∃ ds, ConVs W ν (F0 W) ds (cs.drop o) ∧ (∀ x ∈ cs.drop o, oneC x = true) ∧ ds.length = e - o ∧ ∀ f ∈ fs, o ≤ f.offset ∧ TyD P n f.type ((ds.drop (f.offset - o)).take (P.cellsOf f.type)) := by
  intro fs
  induction fs with
  | nil =>
    intro o e ht hl hm
    simp [tiles] at ht; subst ht
    refine ⟨[], ?_, ?_, by simp, by simp⟩
    · rw [List.drop_eq_nil_of_le (by omega)]; simp [ConVs]
    · rw [List.drop_eq_nil_of_le (by omega)]; simp
  | cons f fs ih =>
    intro o e ht hl hm
    simp only [tiles] at ht
    split at ht
    · rename_i hof
      obtain ⟨ds1, c1, c2, c3, c4⟩ := hm f (by simp)
      have hoe' := tiles_le _ _ _ ht
      obtain ⟨ds2, e1, e2, e3, e4⟩ := ih (o + P.cellsOf f.type) e ht hl (fun g hg => hm g (by simp [hg]))
      rw [hof] at c1 c2
      have hsplit : cs.drop o = (cs.drop o).take (P.cellsOf f.type) ++ cs.drop (o + P.cellsOf f.type) := by
        rw [← List.drop_drop, List.take_append_drop]
      refine ⟨ds1 ++ ds2, by rw [hsplit]; exact conVs_append c1 e1, ?_, by rw [List.length_append, c4, e3]; omega, ?_⟩
      · rw [hsplit]
        intro x hx
        rcases List.mem_append.1 hx with hx | hx
        · exact c2 x hx
        · exact e2 x hx
      · intro g hg
        rcases List.mem_cons.1 hg with rfl | hg
        · refine ⟨by omega, ?_⟩
          rw [hof, Nat.sub_self, List.drop_zero, ← c4, List.take_left']
          · exact c3
          · rfl
        · obtain ⟨g1, g2⟩ := e4 g hg
          refine ⟨by omega, ?_⟩
          rw [List.drop_append, List.drop_eq_nil_of_le (by omega), List.nil_append, c4]
          rw [show g.offset - o - P.cellsOf f.type = g.offset - (o + P.cellsOf f.type) by omega]
          exact g2
    · cases ht
theorem read_row {n z : Nat} {e : TypeId} {b : Nat} : ∀ (len o : Nat), (∀ i, i < len → ∃ ds, ConCs W ν (F0 W) ds b (o + i * z) ∧ ds.length = z ∧ TyD P n e ds) →
    ∃ es, es.length = len ∧ ConEs W ν (F0 W) z es b o ∧ ∀ x ∈ es, TyD P n e x := by
  intro len
  induction len with
  | zero => intro o _; exact ⟨[], rfl, trivial, by simp⟩
  | succ k ih =>
    intro o h
    obtain ⟨ds, h1, h2, h3⟩ := h 0 (by omega)
    obtain ⟨es, e1, e2, e3⟩ := ih (o + z) (fun i hi => by
      obtain ⟨ds, h1, h2, h3⟩ := h (i + 1) (by omega)
      exact ⟨ds, by rw [show o + z + i * z = o + (i + 1) * z by rw [Nat.add_mul]; omega]; exact h1, h2, h3⟩)
    refine ⟨ds :: es, by simp [e1], ?_, ?_⟩
    · simp only [ConEs]; exact ⟨h2, by simpa using h1, e2⟩
    · intro x hx
      rcases List.mem_cons.1 hx with rfl | hx
      · exact h3
      · exact e3 x hx
theorem spot_none {a : Addr} {y : Value} (h : W.cell? a = some y) : a.spot = none ∧ a.block < W.heap.size := by
  obtain ⟨b, o, sp⟩ := a
  simp only [World.cell?] at h
  split at h
  · rename_i heq
    cases sp with
    | none => exact ⟨rfl, (Array.getElem?_eq_some_iff.1 heq).1⟩
    | some x => simp at h
  · cases h
theorem read_ok (hT : ∀ t ∈ T, okT P T t = true) (hz : ∀ t ∈ T, 1 ≤ P.cellsOf t) : ∀ (n : Nat) (t : TypeId), t ∈ T → ∀ cs x, DataW.trod enc P W 0 (fun _ => true) true n t cs = some x →
    ∃ ds, ConVs W ν (F0 W) ds cs ∧ (∀ x ∈ cs, oneC x = true) ∧ TyD P n t ds ∧ ds.length = P.cellsOf t := by
  intro n
  induction n with
  | zero => intro t ht cs x h; simp [DataW.trod] at h
  | succ n ih =>
    intro t ht cs x h
    have hok := hT t ht
    unfold okT at hok
    simp only [TyD]
    split at hok
    · rename_i hu
      simp only [beq_iff_eq] at hok
      obtain ⟨b, rfl, _⟩ := DataW.trod_bool hu h
      exact ⟨[.v (.bool b)], by simp [ConVs, Con], by simp [oneC], ⟨b, rfl⟩, by rw [hok]; rfl⟩
    · rename_i k hu
      simp only [beq_iff_eq] at hok
      obtain ⟨i, rfl, _, hw⟩ := DataW.trod_int hu h
      exact ⟨[.v (.int k i)], by simp [ConVs, Con], by simp [oneC], ⟨i, rfl, hw⟩, by rw [hok]; rfl⟩
    · rename_i hu
      simp only [beq_iff_eq] at hok
      obtain ⟨s, rfl, _, hs⟩ := DataW.trod_string hu h
      exact ⟨[.v (.string s)], by simp [ConVs, Con], by simp [oneC], ⟨s.data.toList, by simp [ofL], by simpa using hs⟩, by rw [hok]; rfl⟩
    · rename_i e hu
      simp only [Bool.and_eq_true, beq_iff_eq, List.contains_iff_mem] at hok
      obtain ⟨hc1, he⟩ := hok
      rcases DataW.trod_slice hu h with ⟨rfl, _⟩ | ⟨a, len, cap, elems, rest, k, hk, rfl, _, _, hlc, hcm, hel, hget, hsp, _⟩
      · exact ⟨[.sl (P.cellsOf e) []], by simp [ConVs, Con], by simp [oneC], ⟨[], rfl, by simp, by simp⟩, by rw [hc1]; rfl⟩
      · obtain rfl : k = n := by omega
        obtain ⟨hr1, hr2⟩ := hsp rfl
        have hall : ∀ i, i < cap → ∃ c y, W.cells? 0 (a.add (i * P.cellsOf e)) (P.cellsOf e) = some c ∧ DataW.trod enc P W 0 (fun _ => true) true k e c = some y := by
          intro i hi
          by_cases hil : i < len
          · have := hget i hil
            rw [List.getElem?_eq_getElem (by omega)] at this
            obtain ⟨c, hc, hd⟩ := Option.bind_eq_some_iff.1 this
            exact ⟨c, _, hc, hd⟩
          · have := hr2 (i - len) (by omega)
            rw [List.getElem?_eq_getElem (by omega), show len + (i - len) = i by omega] at this
            obtain ⟨c, hc, hd⟩ := Option.bind_eq_some_iff.1 this
            exact ⟨c, _, hc, hd⟩
        by_cases hcap : cap = 0
        · have : len = 0 := by omega
          subst this; subst hcap
          exact ⟨[.sl (P.cellsOf e) []], by simp [ConVs, Con], by simp [oneC], ⟨[], rfl, by simp, by simp⟩, by rw [hc1]; rfl⟩
        · have hsb : a.spot = none ∧ a.block < W.heap.size := by
            obtain ⟨c, y, hc, _⟩ := hall 0 (by omega)
            obtain ⟨hl, hg⟩ := cells_get hc
            have hz' := hz e he
            have h0 : c[0]? = some c[0] := List.getElem?_eq_getElem (by omega)
            have := spot_none (hg 0 _ h0)
            simpa [Addr.add] using this
          obtain ⟨b, o, sp⟩ := a
          simp only at hsb
          obtain ⟨rfl, hb⟩ := hsb
          obtain ⟨es, e1, e2, e3⟩ := read_row (W := W) (ν := ν) (P := P) (n := k) (z := P.cellsOf e) (e := e) (b := b) len o (fun i hi => by
            obtain ⟨c, y, hc, hd⟩ := hall i (by omega)
            obtain ⟨ds, d1, d2, d3, d4⟩ := ih e he c y hd
            obtain ⟨hl, hg⟩ := cells_get hc
            refine ⟨ds, conCs_cells ds c _ d1 d2 (fun j z hz => ?_), d4, d3⟩
            have := hg j z hz
            rwa [addr_add, addr_add] at this)
          refine ⟨[.sl (P.cellsOf e) es], ?_, by simp [oneC], ⟨es, rfl, by omega, e3⟩, by rw [hc1]; rfl⟩
          simp only [ConVs, Con]
          exact ⟨_, _, rfl, .inl ⟨b, o, cap, by rw [e1], by omega, hb, e2⟩, rfl⟩
    · rename_i fs hu
      simp only [Bool.and_eq_true, beq_iff_eq, List.all_eq_true, List.contains_iff_mem] at hok
      obtain ⟨ht, hf⟩ := hok
      obtain ⟨xs, k, hk, _, hl, hxl, hget⟩ := DataW.trod_struct hu h
      obtain rfl : k = n := by omega
      obtain ⟨ds, d1, d2, d3, d4⟩ := read_fields (W := W) (ν := ν) (P := P) (n := k) (cs := cs) fs.toList 0 _ ht hl (fun f hfm => by
        obtain ⟨i, hi⟩ := List.getElem?_of_mem hfm
        have hi' : fs[i]? = some f := by simpa using hi
        have := hget i f hi'
        have hib : i < fs.size := by
          rcases Nat.lt_or_ge i fs.size with h | h
          · exact h
          · rw [Array.getElem?_eq_none h] at hi'; cases hi'
        rw [List.getElem?_eq_getElem (by omega)] at this
        exact ih f.type (hf f hfm) _ _ this)
      simp only [List.drop_zero, Nat.sub_zero] at d1 d2 d3 d4
      exact ⟨ds, d1, d2, ⟨d3, fun f hfm => (d4 f hfm).2⟩, d3⟩
    · cases hok
/-- What an argument reads as. -/
theorem read_arg (hT : ∀ t ∈ T, okT P T t = true) (hz : ∀ t ∈ T, 1 ≤ P.cellsOf t) {t : TypeId} (ht : t ∈ T) {v : Value} {d : DataW H} {ps : List MemPlace} (h : DataW.Trod enc P W 0 (fun _ => true) true t v d ps) :
    ∃ n ds, ConVs W ν (F0 W) ds v.cells.toList ∧ (∀ x ∈ v.cells.toList, oneC x = true) ∧ TyD P n t ds ∧ ds.length = P.cellsOf t := by
  obtain ⟨n, hn⟩ := h
  obtain ⟨ds, h1, h2, h3, h4⟩ := read_ok hT hz n t ht _ _ hn
  exact ⟨n, ds, h1, h2, h3, h4⟩
/-- Of one cell. -/
theorem con_of_one {d : D} {v : Value} (h : ConVs W ν (F0 W) [d] v.cells.toList) (hv : ∀ xs, v ≠ .agg xs) : Con W ν (F0 W) d v := by
  have : v.cells = #[v] := by cases v <;> first | rfl | exact absurd rfl (hv _)
  rw [this] at h
  simp only [ConVs] at h
  obtain ⟨y, r, e, h1, _⟩ := h
  simp at e
  rw [e.1]; exact h1
theorem con_of_agg {ds : List D} {xs : Array Value} (h : ConVs W ν (F0 W) ds (Value.agg xs).cells.toList) (h1 : ∀ x ∈ (Value.agg xs).cells.toList, oneC x = true) : Con W ν (F0 W) (.agg ds) (.agg xs) := by
  simp only [Con]
  exact ⟨xs, rfl, h, h1⟩
end
end Go.Proofs.Mv.V
namespace Go.Proofs.Mv.V
variable [GI]
section
variable {P : Program} {N : Nat} {G : List Nat}
theorem gif_mono {g : Option Bool} {A B A' B' : Prop} {u : Tg A B ()} {u' : Tg A' B' ()} (ha : A → A') (hb : B → B') (h : gif g A B u) : gif g A' B' u' := by
  unfold gif at h ⊢; split <;> simp_all
theorem cnd_mono {d : D} {A B A' B' : Prop} {u : Tg A B ()} {u' : Tg A' B' ()} (ha : A → A') (hb : B → B') (h : cnd d A B u) : cnd d A' B' u' := by
  unfold cnd at h
  split at h
  · exact ⟨fun e => ha (h.1 e), fun e => hb (h.2 e)⟩
  · exact ⟨ha h.1, hb h.2⟩
  · exact h.elim
theorem b4_mono {x : Option (Prop × D × Mem × Nat)} {K K' : D → Mem → Nat → Prop} {u : Tg K () ()} {u' : Tg K' () ()} (hk : ∀ d m n, K d m n → K' d m n) (h : b4 x K u) : b4 x K' u' := by
  unfold b4 at h ⊢; split
  · exact ⟨h.1, hk _ _ _ h.2⟩
  · exact h
theorem callD_mono {f : D} {args : List D} {m : Mem} {n : Nat} {K K' : D → Mem → Nat → Prop} {u : Tg K () ()} {u' : Tg K' () ()} (hk : ∀ d m n, K d m n → K' d m n) (h : callD P f args m n K u) : callD P f args m n K' u' := by
  unfold callD at h; split at h
  · exact ACalls.mono h hk
  · exact h.elim
theorem xop_mono {σ : Nat → D} {m : Mem} {n : Nat} {op : Op} {K K' : D → Mem → Nat → Prop} {u : Tg K () ()} {u' : Tg K' () ()} (hk : ∀ d m n, K d m n → K' d m n) (h : xop P σ m n op K u) : xop P σ m n op K' u' := by
  unfold xop at h ⊢; split
  · exact callD_mono hk h
  · rename_i hne
    split at h
    · exact absurd rfl (hne _ _ _)
    · exact b4_mono hk h
theorem xOps_mono' {ops : Array Oper} {K K' : (Nat → D) → Mem → Nat → Prop} (hK : ∀ σ m n, K σ m n → K' σ m n) : ∀ (l : List Oper) (u : Tg ops K l) (u' : Tg ops K' l) (σ : Nat → D) (m : Mem) (n : Nat), xOps P N ops K l u σ m n → xOps P N ops K' l u' σ m n
  | [], _, _, σ, m, n, h => hK _ _ _ h
  | o :: rest, _, _, σ, m, n, h => by
    simp only [xOps] at h ⊢
    exact ⟨h.1, gif_mono (xop_mono fun d m n => xOps_mono' hK rest tg tg _ m n) (xOps_mono' hK rest tg tg _ m n) h.2⟩
theorem xs_mono' {ops : Array Oper} {mk : List Nat} {K K' : (Nat → D) → Mem → Nat → Prop} (hK : ∀ σ m n, K σ m n → K' σ m n) : ∀ (L : List Nat) (u : Tg ops mk K) (u' : Tg ops mk K') (E : List (Nat × Nat)) (σ : Nat → D) (m : Mem) (n : Nat), xs P N ops mk K L u E σ m n → xs P N ops mk K' L u' E σ m n
  | [], _, _, E, σ, m, n, h => hK _ _ _ h
  | i :: L, _, _, E, σ, m, n, h => by
    simp only [xs] at h ⊢
    unfold bOp at h ⊢
    split
    · rename_i o ho
      simp only [ho] at h
      refine ⟨h.1, gif_mono ?_ (xs_mono' hK L tg tg E _ m n) h.2⟩
      intro h2
      unfold bIf at h2 ⊢
      split
      · rename_i hc
        rw [if_pos hc] at h2
        unfold bD at h2 ⊢
        split
        · rename_i e; simp only [e] at h2; exact ⟨h2.1, xs_mono' hK L tg tg _ _ m n h2.2⟩
        · rename_i e; simp only [e] at h2; exact ⟨h2.1, xs_mono' hK L tg tg _ _ m n h2.2⟩
        · rename_i e; simp only [e] at h2
      · rename_i hc
        rw [if_neg hc] at h2
        exact xop_mono (fun d m' n' h3 => ⟨h3.1, xs_mono' hK L tg tg _ _ m' n' h3.2⟩) h2
    · rename_i e; simp only [e] at h
theorem then_mono {K K' : (Nat → D) → Mem → Nat → Prop} {Q Q' : APost} (hk : ∀ σ m n, K σ m n → K' σ m n) (hq : ∀ e σ m n, Q e σ m n → Q' e σ m n) : ∀ e σ m n, Then K Q e σ m n → Then K' Q' e σ m n := by
  intro e σ m n h
  cases e <;> first | exact hk _ _ _ h | exact hq _ _ _ _ h
theorem inBlock_mono {id : Nat} {Q Q' : APost} (hq : ∀ e σ m n, Q e σ m n → Q' e σ m n) : ∀ e σ m n, InBlock id Q e σ m n → InBlock id Q' e σ m n := by
  intro e σ m n h
  cases e <;> first
    | (simp only [InBlock] at h ⊢; split
       · rename_i e; rw [if_pos e] at h; exact hq _ _ _ _ h
       · rename_i e; rw [if_neg e] at h; exact hq _ _ _ _ h)
    | exact hq _ _ _ _ h
theorem vc_mono : ∀ (c : Code) {Q Q' : APost} (hq : ∀ e σ m n, Q e σ m n → Q' e σ m n) (u : Tg G c Q) (u' : Tg G c Q') (σ : Nat → D) (m : Mem) (n : Nat), vc P N G c Q u σ m n → vc P N G c Q' u' σ m n
  | .skip, Q, Q', hq, _, _, σ, m, n, h => hq _ _ _ _ h
  | .region _ ops draw, Q, Q', hq, _, _, σ, m, n, h => by
    simp only [vc] at h ⊢
    split
    · rename_i e; rw [if_pos e] at h
      exact fun id => AWP.mono (h id) (then_mono (fun σ m n => hq _ _ _ _) fun _ _ _ _ h => h)
    · rename_i e; rw [if_neg e] at h
      exact xOps_mono' (fun σ m n => hq _ _ _ _) _ _ _ _ _ _ h
  | .seq x y, Q, Q', hq, _, _, σ, m, n, h => by
    simp only [vc] at h ⊢
    exact vc_mono x (then_mono (fun σ m n => vc_mono y hq _ _ σ m n) hq) _ _ σ m n h
  | .cond c x y, Q, Q', hq, _, _, σ, m, n, h => by
    simp only [vc] at h ⊢
    exact cnd_mono (vc_mono x hq _ _ σ m n) (vc_mono y hq _ _ σ m n) h
  | .block id c, Q, Q', hq, _, _, σ, m, n, h => by
    simp only [vc] at h ⊢
    exact vc_mono c (inBlock_mono hq) _ _ σ m n h
  | .exit id, Q, Q', hq, _, _, σ, m, n, h => hq _ _ _ _ h
  | .ret, Q, Q', hq, _, _, σ, m, n, h => hq _ _ _ _ h
  | .label _, Q, Q', hq, _, _, σ, m, n, h => hq _ _ _ _ h
  | .loop c, Q, Q', hq, _, _, σ, m, n, h => by
    simp only [vc, vloop] at h ⊢
    exact AWP.mono h hq
/-- What holds between a code and the next. -/
theorem vc_mid {c : Code} {K : (Nat → D) → Mem → Nat → Prop} {Q : APost} (M : (Nat → D) → Mem → Nat → Prop) {σ : Nat → D} {m : Mem} {n : Nat} {u : Tg G c (Then K Q)}
    (h : vc P N G c (Then M Q) tg σ m n) (hk : ∀ σ m n, M σ m n → K σ m n) : vc P N G c (Then K Q) u σ m n :=
  vc_mono c (then_mono hk fun _ _ _ _ h => h) _ _ σ m n h
end
end Go.Proofs.Mv.V
namespace Go.Proofs.Mv.V
variable [GI]
/-- What stands goes on to stand while only new blocks are made. -/
theorem ext_below {w w' : World} {ν : Nu} {F : Nat → Prop} {m : Mem} {n : Nat} (h : St w ν F m n) (hb : RowKit.Below w.heap.size w w') : Ext w ν F w' ν F :=
  ⟨hb.size, fun b hF => ⟨hF, hb.block b (h.mem.lt b hF)⟩, fun k l hl => ⟨l, hl, Nat.le_refl _, rfl, fun _ => rfl⟩, fun k l l' hl hl' hg arr e f ha => by
    rw [hl] at hl'; obtain rfl := Option.some.inj hl'
    have hlt : l.b < w.heap.size := by
      rcases Nat.lt_or_ge l.b w.heap.size with h' | h'
      · exact h'
      · simp [Array.getElem?_eq_none h'] at ha
    exact ⟨arr, e, f, by rw [hb.block _ hlt]; exact ha, rfl⟩, ⟨hb.os, hb.output⟩⟩
theorem st_below {w w' : World} {ν : Nu} {F : Nat → Prop} {m : Mem} {n : Nat} (h : St w ν F m n) (hb : RowKit.Below w.heap.size w w') : St w' ν F m n := by
  have hext := ext_below h hb
  refine ⟨⟨fun b hF => Nat.lt_of_lt_of_le (h.mem.lt b hF) hb.size, h.mem.inj, fun k o hk => ?_⟩, h.fresh, GI.keep h.gi hext.fz⟩
  obtain ⟨l, arr, e, f, q1, q2, q3, q4, q5, q6, q7⟩ := h.mem.at_ k o hk
  have hlt : l.b < w.heap.size := by
    rcases Nat.lt_or_ge l.b w.heap.size with h' | h'
    · exact h'
    · simp [Array.getElem?_eq_none h'] at q4
  exact ⟨l, arr, e, f, q1, q2, q3, by rw [hb.block _ hlt]; exact q4, q5, q6, ConEs.mono hext _ _ _ _ (hb.block _ hlt) q7⟩
/-- A contract of the library: it makes new blocks alone, and its answer reads as d. -/
theorem acalls_lib {P : Program} {f : FuncId} {args : List D} {m : Mem} {n : Nat} {R : D → Mem → Nat → Prop} (hc : Callable P f)
    (h : ∀ (w : World) (ν : Nu) (F : Nat → Prop) (vals : Array Value), St w ν F m n → ConVs w ν F args vals.toList →
      Calls P f vals w fun e w' => ∃ v, e = .returned v ∧ RowKit.Below w.heap.size w w' ∧ ∃ d, Con w' ν F d v ∧ R d m n) : ACalls P f args m n R := by
  refine ⟨hc, fun w ν F vals hst hv => Calls.mono (h w ν F vals hst hv) ?_⟩
  rintro e w' ⟨v, rfl, hb, d, hd, hR⟩
  exact ⟨v, rfl, ν, F, d, m, n, ext_below hst hb, st_below hst hb, hd, hR⟩
theorem conVs_arr1 {w : World} {ν : Nu} {F : Nat → Prop} {a : D} {vals : Array Value} (h : ConVs w ν F [a] vals.toList) : ∃ x, vals = #[x] ∧ Con w ν F a x := by
  simp only [ConVs] at h
  obtain ⟨x, r, h1, h2, rfl⟩ := h
  exact ⟨x, by apply Array.toList_inj.1; simpa using h1, h2⟩
theorem conVs_arr2 {w : World} {ν : Nu} {F : Nat → Prop} {a b : D} {vals : Array Value} (h : ConVs w ν F [a, b] vals.toList) : ∃ x y, vals = #[x, y] ∧ Con w ν F a x ∧ Con w ν F b y := by
  simp only [ConVs] at h
  obtain ⟨x, r, h1, h2, y, r2, rfl, h3, rfl⟩ := h
  exact ⟨x, y, by apply Array.toList_inj.1; simpa using h1, h2, h3⟩
theorem conVs_arr3 {w : World} {ν : Nu} {F : Nat → Prop} {a b c : D} {vals : Array Value} (h : ConVs w ν F [a, b, c] vals.toList) : ∃ x y z, vals = #[x, y, z] ∧ Con w ν F a x ∧ Con w ν F b y ∧ Con w ν F c z := by
  simp only [ConVs] at h
  obtain ⟨x, r, h1, h2, y, r2, rfl, h3, z, r3, rfl, h4, rfl⟩ := h
  exact ⟨x, y, z, by apply Array.toList_inj.1; simpa using h1, h2, h3, h4⟩
end Go.Proofs.Mv.V
namespace Go.Proofs.Mv.V
variable [GI]
theorem LeE.con {w : World} {ν : Nu} {F : Nat → Prop} {z : Nat} {l l' : List (List D)} (h : LeE l l') : ∀ b o, ConEs w ν F z l b o → ConEs w ν F z l' b o := by
  induction h with
  | nil => intro b o h; exact h
  | cons h _ ih =>
    intro b o hh
    simp only [ConEs] at hh ⊢
    obtain ⟨h1, h2, h3⟩ := hh
    exact ⟨by rw [← h.len]; exact h1, Le_of_conCs h _ _ h2, ih _ _ h3⟩
theorem st_weak {w : World} {ν : Nu} {F : Nat → Prop} {m : Mem} {n k : Nat} {o : Obj} {es' : List (List D)} (h : St w ν F m n) (hk : m k = some o) (hl : LeE o.es es') : St w ν F (m.set k ⟨o.z, es', o.g⟩) n := by
  have hs : ∀ j o', (m.set k ⟨o.z, es', o.g⟩) j = some o' → ∃ o1, m j = some o1 ∧ (j = k → o' = ⟨o.z, es', o.g⟩) ∧ (j ≠ k → o' = o1) := by
    intro j o' hj
    by_cases e : j = k
    · subst e; rw [set_same] at hj; exact ⟨o, hk, fun _ => (Option.some.inj hj).symm, fun h => absurd rfl h⟩
    · rw [set_ne _ _ _ _ e] at hj; exact ⟨o', hj, fun h => absurd h e, fun _ => rfl⟩
  refine ⟨⟨h.mem.lt, ?_, ?_⟩, ?_, h.gi⟩
  · intro a b o1 o2 l l' h1 h2 h3 h4 h5
    obtain ⟨p1, q1, _⟩ := hs a o1 h1
    obtain ⟨p2, q2, _⟩ := hs b o2 h2
    exact h.mem.inj a b p1 p2 l l' q1 q2 h3 h4 h5
  · intro j o' hj
    obtain ⟨o1, q1, q2, q3⟩ := hs j o' hj
    obtain ⟨l, arr, e, f, r1, r2, r3, r4, r5, r6, r7⟩ := h.mem.at_ j o1 q1
    by_cases ej : j = k
    · subst ej
      rw [hk] at q1; obtain rfl := Option.some.inj q1
      rw [q2 rfl]
      exact ⟨l, arr, e, f, r1, r2, r3, r4, r5, r6, hl.con _ _ r7⟩
    · rw [q3 ej]; exact ⟨l, arr, e, f, r1, r2, r3, r4, r5, r6, r7⟩
  · intro j hj
    have := h.fresh j hj
    have ne : j ≠ k := by intro e; subst e; rw [hk] at this; cases this.2
    exact ⟨this.1, by rw [set_ne _ _ _ _ ne]; exact this.2⟩
/-- A call that writes one object that stood before, and leaves nothing else of its own. -/
theorem acalls_done1 {P : Program} {f : FuncId} {args : List D} {m : Mem} {n : Nat} {X : D → Obj → Prop} {R' : D → Mem → Nat → Prop} (k : Nat) (hk : k < n) (h : ACalls P f args m n R')
    (hR : ∀ d m' n', R' d m' n' → ∃ d' z es es' g, PubAs n m' d d' ∧ m' k = some ⟨z, es, g⟩ ∧ PubE n m' es es' ∧ (∀ j, j < n → j ≠ k → m' j = m j) ∧ X d' ⟨z, es', g⟩) :
    ACalls P f args m n (fun d m' n' => ∃ o, X d o ∧ m' = m.set k o ∧ n' = n) := by
  have h1 : ACalls P f args m n (fun d m' n' => n' = n ∧ ∃ d' o es', Le d d' ∧ LeE o.es es' ∧ X d' ⟨o.z, es', o.g⟩ ∧ m' = (fun j => if j = k then some o else if j < n then m j else none)) := by
    refine acalls_close h fun d m' n' hr β => ?_
    obtain ⟨d', z, es, es', g, p1, p2, p3, p4, p5⟩ := hR d m' n' hr
    obtain ⟨f1, q1⟩ := p1 β
    obtain ⟨f2, q2⟩ := p3.get β
    refine ⟨f1, _, (fun j => if j = k then some ⟨z, es.map (fun e => e.map (rs β (From n m') f2)), g⟩ else if j < n then m j else none), rfl, (q1 f1 (Nat.le_refl _)).2, fun j hj => ?_, fun j hj => ?_, rfl, d', ⟨z, es.map (fun e => e.map (rs β (From n m') f2)), g⟩, es', (q1 f1 (Nat.le_refl _)).1, (q2 f2 (Nat.le_refl _)).1, p5, rfl⟩
    · have ne : j ≠ k := by omega
      have nl : ¬ j < n := by omega
      simp [ne, nl]
    · by_cases e : j = k
      · subst e
        exact .inr ⟨⟨z, es, g⟩, ⟨z, es.map (fun e => e.map (rs β (From n m') f2)), g⟩, f2, p2, by simp, rfl, rfl, rfl, (q2 f2 (Nat.le_refl _)).2⟩
      · exact .inl ⟨by simp [e, hj, p4 j hj e], p4 j hj e⟩
  refine ⟨h.1, fun w ν F vals hst hv => Calls.mono (h1.2 w ν F vals hst hv) fun e w' he => ?_⟩
  obtain ⟨v, he, ν', F', d, m', n', g1, g2, g3, rfl, d', o, es', l1, l2, x, rfl⟩ := he
  have hm : (fun j => if j = k then some o else if j < n' then m j else none) = m.set k o := by
    funext j
    by_cases e : j = k
    · subst e; simp [Mem.set]
    · by_cases hj : j < n'
      · simp [Mem.set, e, hj]
      · simp [Mem.set, e, hj, (hst.fresh j (by omega)).2]
  rw [hm] at g2
  have g4 := st_weak g2 (set_same _ _ _) l2
  rw [set_set] at g4
  exact ⟨v, he, ν', F', d', _, n', g1, g4, l1 _ _ _ _ g3, _, x, rfl, rfl⟩
/-- The same, where what is left is told ahead. -/
theorem acalls_put {P : Program} {f : FuncId} {args : List D} {m : Mem} {n : Nat} {X : D → Prop} {R' : D → Mem → Nat → Prop} (k : Nat) (hk : k < n) (o : Obj) (h : ACalls P f args m n R')
    (hR : ∀ d m' n', R' d m' n' → ∃ d' es, PubAs n m' d d' ∧ m' k = some ⟨o.z, es, o.g⟩ ∧ PubE n m' es o.es ∧ (∀ j, j < n → j ≠ k → m' j = m j) ∧ X d') :
    ACalls P f args m n (fun d m' n' => X d ∧ m' = m.set k o ∧ n' = n) := by
  refine ACalls.mono (acalls_done1 (X := fun d o' => X d ∧ o' = o) k hk h ?_) ?_
  · intro d m' n' hr
    obtain ⟨d', es, h1, h2, h3, h4, h5⟩ := hR d m' n' hr
    exact ⟨d', o.z, es, o.es, o.g, h1, h2, h3, h4, h5, rfl⟩
  · rintro d m' n' ⟨o', ⟨h1, rfl⟩, h2, h3⟩
    exact ⟨h1, h2, h3⟩
/-- What a function leaves that writes one object. -/
def Fin (n : Nat) (m : Mem) (k : Nat) (o : Obj) (X : D → Prop) : D → Mem → Nat → Prop := Hq (fun d m' _ => X d ∧ m' k = some o ∧ ∀ j, j < n → j ≠ k → m' j = m j) tg
theorem fin_mk {n : Nat} {m : Mem} {k : Nat} {o : Obj} {X : D → Prop} {d : D} {m' : Mem} {n' : Nat} (h1 : X d) (h2 : m' k = some o) (h3 : ∀ j, j < n → j ≠ k → m' j = m j) : Fin n m k o X d m' n' := ⟨h1, h2, h3⟩
theorem acalls_fin {P : Program} {f : FuncId} {args : List D} {m : Mem} {n : Nat} {X : D → Prop} {k : Nat} (hk : k < n) {o : Obj} (ho : ∀ e ∈ o.es, ∀ d ∈ e, Pur d) (hX : ∀ d, X d → Pur d) (h : ACalls P f args m n (Fin n m k o X)) :
    ACalls P f args m n (fun d m' n' => X d ∧ m' = m.set k o ∧ n' = n) := by
  refine acalls_put k hk o h ?_
  rintro d m' n' ⟨h1, h2, h3⟩
  exact ⟨d, o.es, (hX d h1).pub, h2, .pur ho, h3, h1⟩
end Go.Proofs.Mv.V
namespace Go.Proofs.Mv.V
/-- Bytes one after the other, the lesser first. -/
def ltB (a b : List UInt8) : Bool := Op.bytesLess a b
theorem bytesLess_lt : ∀ (x y : List UInt8), Op.bytesLess x y = decide (x < y)
  | [], [] => by simp [Op.bytesLess]
  | _ :: _, [] => by simp [Op.bytesLess]
  | [], _ :: _ => by simp [Op.bytesLess]
  | a :: x, b :: y => by
    rw [Op.bytesLess, bytesLess_lt x y]
    simp only [List.cons_lt_cons_iff]
    by_cases h1 : a < b <;> by_cases h2 : a = b <;> by_cases h3 : x < y <;> simp [h1, h2, h3]
theorem ltB_iff (a b : List UInt8) : ltB a b = true ↔ a < b := by
  unfold ltB; rw [bytesLess_lt]; simp
theorem ltB_irr (a : List UInt8) : ltB a a = false := by
  cases h : ltB a a
  · rfl
  · exact absurd ((ltB_iff a a).1 h) (List.lt_irrefl a)
theorem ltB_tr {a b c : List UInt8} (h : ltB a b = true) (h' : ltB b c = true) : ltB a c = true :=
  (ltB_iff _ _).2 (List.lt_trans ((ltB_iff _ _).1 h) ((ltB_iff _ _).1 h'))
theorem ltB_anti {a b : List UInt8} (h : ltB a b = false) (h' : ltB b a = false) : a = b := by
  have h1 : ¬ a < b := fun e => by have := (ltB_iff a b).2 e; simp [this] at h
  have h2 : ¬ b < a := fun e => by have := (ltB_iff b a).2 e; simp [this] at h'
  exact List.le_antisymm (List.not_lt.1 h2) (List.not_lt.1 h1)
theorem ltB_asymm {a b : List UInt8} (h : ltB a b = true) : ltB b a = false := by
  cases h' : ltB b a
  · rfl
  · have := ltB_tr h h'; rw [ltB_irr] at this; cases this
theorem ltB_ntr {a b c : List UInt8} (h : ltB a b = false) (h' : ltB b c = false) : ltB a c = false := by
  cases h1 : ltB a c
  · rfl
  · exfalso
    have h2 : ¬ a < b := fun e => by have := (ltB_iff a b).2 e; simp [this] at h
    have h3 : ¬ b < c := fun e => by have := (ltB_iff b c).2 e; simp [this] at h'
    exact (List.not_lt.2 (List.le_trans (List.not_lt.1 h3) (List.not_lt.1 h2))) ((ltB_iff a c).1 h1)
end Go.Proofs.Mv.V
namespace Go.Proofs.Mv.V
variable [GI]
open Go.RowKit Go.Sort Go.Shelf
/-- An element's values behind its text. -/
structure RowV (z : Nat) where
  nm : List UInt8
  rest : List Value
  len : rest.length = z
  one : ∀ v ∈ rest, v.oneCell' = true
abbrev RowD (z : Nat) := RowV z × (List UInt8 × List D)
instance (z : Nat) : Inhabited (RowD z) := ⟨⟨[], List.replicate z (.int .i64 0), by simp, by intro v hv; rw [List.eq_of_mem_replicate hv]; rfl⟩, ([], [])⟩
def encV {z : Nat} (x : RowD z) : List Value := .string (ofL x.1.nm) :: x.1.rest
def cmpB (a b : List UInt8) : Int := if ltB a b then -1 else if ltB b a then 1 else 0
def cfV {z : Nat} (x y : RowD z) : Int := cmpB x.1.nm y.1.nm
theorem cfV_lt {z : Nat} (x y : RowD z) : ltOf cfV x y = ltB x.1.nm y.1.nm := by
  unfold ltOf cfV cmpB
  cases h : ltB x.1.nm y.1.nm
  · by_cases h' : ltB y.1.nm x.1.nm <;> simp [h']
  · simp
theorem cfV_swo (z : Nat) : SWO (ltOf (cfV (z := z))) where
  irrefl x := by rw [cfV_lt]; exact ltB_irr _
  trans x y z h1 h2 := by rw [cfV_lt] at *; exact ltB_tr h1 h2
  ntrans x y z h1 h2 := by rw [cfV_lt] at *; exact ltB_ntr h1 h2
theorem oneC_one {v : Value} (h : oneC v = true) : v.oneCell' = true := by cases v <;> simp_all [oneC, Value.oneCell']
theorem one_oneC {v : Value} (h : v.oneCell' = true) : oneC v = true := by cases v <;> simp_all [oneC, Value.oneCell']
/-- An element as it is laid out. -/
def el (p : List UInt8 × List D) : List D := .v (.string (ofL p.1)) :: p.2
section
variable {w : World} {ν : Nu} {F : Nat → Prop}
theorem rowsV (z : Nat) (b : Nat) : ∀ (ps : List (List UInt8 × List D)) (o : Nat), ConEs w ν F (z + 1) (ps.map el) b o → ∃ rs : List (RowD z), rs.map (·.2) = ps ∧
    (∀ r ∈ rs, r.1.nm = r.2.1 ∧ ConVs w ν F r.2.2 r.1.rest) ∧ ∀ (i : Nat) (r : RowD z), rs[i]? = some r → ∀ (j : Nat) (v : Value), (encV r)[j]? = some v → w.cell? ⟨b, o + i * (z + 1) + j, none⟩ = some v
  | [], o, _ => ⟨[], rfl, by simp, by simp⟩
  | p :: ps, o, h => by
    simp only [List.map_cons, ConEs] at h
    obtain ⟨h1, h2, h3⟩ := h
    obtain ⟨rs, e1, e2, e3⟩ := rowsV z b ps _ h3
    obtain ⟨ys, g1, g2, g3⟩ := conCs_vals h2
    simp only [el, ConVs, Con] at g1
    obtain ⟨y, r, rfl, rfl, g1⟩ := g1
    have hl : r.length = z := by
      have := conVs_length g1
      simp [el] at h1; omega
    refine ⟨(⟨p.1, r, hl, fun v hv => oneC_one (g2 v (by simp [hv]))⟩, p) :: rs, by simp [e1], ?_, ?_⟩
    · intro x hx
      rcases List.mem_cons.1 hx with rfl | hx
      · exact ⟨rfl, g1⟩
      · exact e2 x hx
    · intro i x hi j v hj
      cases i with
      | zero =>
        simp at hi; subst hi
        have := g3 j v hj
        simpa using this
      | succ i =>
        have := e3 i x (by simpa using hi) j v hj
        rw [show o + (i + 1) * (z + 1) + j = o + (z + 1) + i * (z + 1) + j by rw [Nat.add_mul]; omega]
        exact this
end
theorem sort_heap {α : Type} [Inhabited α] (enc : α → List Value) (k : Nat) (w : World) (blk off n : Nat) (d : Array α) (os : Array Go.Obj) {arr : Array Value} {e : TypeId} {f : Nat × Nat} (h : w.heap[blk]? = some (.cells arr e f)) :
    (sortWorldK enc k w blk off n d os).heap[blk]? = some (.cells (putCells id off (flatK enc k d) arr) e f) ∧ (∀ b, b ≠ blk → b < w.heap.size → (sortWorldK enc k w blk off n d os).heap[b]? = w.heap[b]?) ∧ w.heap.size ≤ (sortWorldK enc k w blk off n d os).heap.size := by
  have hlt : blk < w.heap.size := (Array.getElem?_eq_some_iff.1 h).1
  refine ⟨?_, fun b hb hl => ?_, size_sortWorldK_c enc k w blk off n d os⟩
  · unfold sortWorldK putRowK putRow mapBlock
    rw [heap_grow_old _ _ (by simp [Go.Sort.ahead]; exact hlt)]
    simp only [Go.Sort.ahead, Array.getElem?_modify, if_true, h, Option.map_some, onCells]
  · unfold sortWorldK putRowK putRow mapBlock
    rw [heap_grow_old _ _ (by simp [Go.Sort.ahead]; exact hl)]
    simp only [Go.Sort.ahead, Array.getElem?_modify, if_neg (Ne.symm hb)]
theorem acalls_sort {P : Program} {ρ : Ren} (L : SlLaysF0.n6 P ρ) (hcl : Callable P (ρ.f 6)) (z : Nat) (aE : ∀ w, (isAgg (ρ.t 24)).run P w = .ok true w) (zE : ∀ w, (Go.sizeOf (ρ.t 24)).run P w = .ok (z + 1) w) (g : Nat)
    (eg : ∀ args w, (callFunc g args).run P w = .ok (.enter g args) w) (hcmp : ∀ (x y : RowD z) (W : World), Calls P g #[.agg (encV x).toArray, .agg (encV y).toArray] W fun e w' => e = .returned (.int .i64 (cfV x y)) ∧ ∃ q os', w' = grow (W.drewN q) os')
    (ps : List (List UInt8 × List D)) {k gg : Nat} {es' : List (List D)} {m : Mem} {n : Nat} (hm : m k = some ⟨z + 1, es', gg⟩) (hle : ps.length ≤ es'.length) (ht : es'.take ps.length = ps.map el) (hb : ps.length < 4611686018427387904) (hkn : k < n) :
    ACalls P (ρ.f 6) [.own k gg 0 ps.length (z + 1), .func (.func g) [] []] m n (fun d m' n' => ∃ qs : List (List UInt8 × List D), qs.Perm ps ∧ qs.Pairwise (fun a b => ltB b.1 a.1 = false) ∧ m' = m.set k ⟨z + 1, qs.map el ++ es'.drop ps.length, gg⟩ ∧ n' = n) := by
  refine ⟨hcl, fun w ν F vals hst hv => ?_⟩
  obtain ⟨x, y, rfl, h1, h2⟩ := conVs_arr2 hv
  simp only [Con, ConVs] at h1 h2
  obtain ⟨l, b, off, c, hl, hg, hlz, rfl, hn, he⟩ := h1
  obtain ⟨ys, zs, rfl, hys, hzs⟩ := h2
  obtain rfl : ys = #[] := by apply Array.toList_inj.1; simpa using hys
  obtain rfl : zs = #[] := by apply Array.toList_inj.1; simpa using hzs
  obtain ⟨l2, arr, e, f, q1, q2, q3, q4, q5, q6, q7⟩ := hst.mem.at_ k _ hm
  rw [hl] at q1; obtain rfl := Option.some.inj q1
  simp only at q2 q3 q7
  obtain ⟨rfl, hoff, arr2, e2, f2, ha2, hsz2⟩ := he q2
  rw [q4] at ha2
  simp only [Option.some.injEq, Go.Obj.cells.injEq] at ha2
  obtain ⟨rfl, rfl, rfl⟩ := ha2
  have hlt : l.b < w.heap.size := (Array.getElem?_eq_some_iff.1 q4).1
  have hoff' : off = 0 ∨ ps.length = 0 := by omega
  have hfirst : ConEs w ν F (z + 1) (ps.map el) l.b 0 := by rw [← ht]; exact conEs_take q7 _
  obtain ⟨rs, e1, e2', e3⟩ := rowsV z l.b ps 0 hfirst
  have hrl : rs.length = ps.length := by rw [← e1]; simp
  let d : Array (RowD z) := rs.toArray
  have hds : d.size = ps.length := by simp [d, hrl]
  have henc : ∀ x : RowD z, (encV x).length = z + 1 := fun x => by simp [encV, x.1.len]
  have hH : HoldsK encV (z + 1) w l.b off d := by
    intro t ht'
    rw [size_flatK] at ht'
    rw [get_flatK _ _ _ _ ht']
    have ho : off = 0 := by
      rcases hoff' with h | h
      · exact h
      · rw [hds, h] at ht'; omega
    have hi : t / (z + 1) < d.size := Nat.div_lt_of_lt_mul (by rw [Nat.mul_comm]; exact ht')
    have hj : t % (z + 1) < z + 1 := Nat.mod_lt _ (by omega)
    have hi' : t / (z + 1) < rs.length := by simpa [d] using hi
    have hget : rs[t / (z + 1)]? = some d[t / (z + 1)]! := by simp [d, hi']
    have hv : (encV d[t / (z + 1)]!)[t % (z + 1)]? = some ((encV d[t / (z + 1)]!)[t % (z + 1)]!) := by
      have hlj : t % (z + 1) < (encV d[t / (z + 1)]!).length := by rw [henc]; exact hj
      rw [List.getElem?_eq_getElem hlj, getElem!_pos (encV d[t / (z + 1)]!) _ hlj]
    have := e3 _ _ hget _ _ hv
    have ee : 0 + t / (z + 1) * (z + 1) + t % (z + 1) = t := by rw [Nat.zero_add, Nat.mul_comm]; exact Nat.div_add_mod t (z + 1)
    rw [ee] at this
    have ht2 : off + t = t := by omega
    rw [ht2]
    refine ⟨this, ?_⟩
    have hta : t < arr.size := by
      have := cell?_cells (o := t) q4
      rcases Nat.lt_or_ge t arr.size with h | h
      · exact h
      · rw [Array.getElem?_eq_none h] at this; simp_all
    simp only [World.frozen?, q4]
    rcases q6 with h | h
    · simp; omega
    · simp; omega
  have hcon := AnyQ.slices_SortFunc L (z + 1) aE zE encV henc (fun x v hv => by
    simp only [encV, List.mem_cons] at hv
    rcases hv with rfl | hv
    · rfl
    · exact x.1.one v hv) cfV (cfV_swo z) g #[] l.b off c d w eg (fun m os dk hs x y => hcmp x y _) hH hlt (by omega)
  rw [hds] at hcon
  refine hcon.mono ?_
  rintro ev w' ⟨rfl, d', nn, os, hp, hs, rfl⟩
  obtain ⟨hs1, _, hp2⟩ := hp
  have hd's : d'.size = ps.length := by rw [hs1, hds]
  obtain ⟨H1, H2, H3⟩ := sort_heap encV (z + 1) w l.b off nn d' os q4
  have hperm : d'.toList.Perm rs := by
    have ea : d'.extract 0 ps.length = d' := by rw [← hd's]; exact Array.extract_size
    have eb : d.extract 0 ps.length = d := by rw [← hds]; exact Array.extract_size
    rw [ea, eb] at hp2
    exact hp2
  have hmem : ∀ r ∈ d'.toList, r.1.nm = r.2.1 ∧ ConVs w ν F r.2.2 r.1.rest := fun r hr => e2' r (hperm.mem_iff.1 hr)
  have hH' := holdsK_sortWorldK_c encV (z + 1) w l.b off d d' nn os hH hlt hs1
  have hcon : ∀ ν' : Nu, ν' = (fun j => if j = k then some ⟨l.b, gg, z + 1⟩ else ν j) → Ext w ν F (sortWorldK encV (z + 1) w l.b off nn d' os) ν' F →
      ConEs (sortWorldK encV (z + 1) w l.b off nn d' os) ν' F (z + 1) (d'.toList.map (fun r => el r.2) ++ es'.drop ps.length) l.b 0 := by
    intro ν' hν' hext
    refine conEs_append ?_ ?_
    · have key : ∀ (rs' : List (RowD z)) (o : Nat), (∀ r ∈ rs', r.1.nm = r.2.1 ∧ ConVs w ν F r.2.2 r.1.rest) → (∀ (i : Nat) (r : RowD z), rs'[i]? = some r → ∀ (j : Nat) (v : Value), (encV r)[j]? = some v → (sortWorldK encV (z + 1) w l.b off nn d' os).cell? ⟨l.b, o + i * (z + 1) + j, none⟩ = some v) →
          ConEs (sortWorldK encV (z + 1) w l.b off nn d' os) ν' F (z + 1) (rs'.map (fun r => el r.2)) l.b o := by
        intro rs'
        induction rs' with
        | nil => intro o _ _; trivial
        | cons r rs' ih =>
          intro o h1 h2
          obtain ⟨hn1, hv1⟩ := h1 r (by simp)
          simp only [List.map_cons, ConEs]
          refine ⟨?_, ?_, ih (o + (z + 1)) (fun x hx => h1 x (by simp [hx])) fun i x hi j v hj => ?_⟩
          · simp only [el, List.length_cons]
            have := conVs_length hv1
            rw [this, r.1.len]
          · have hvs : ConVs (sortWorldK encV (z + 1) w l.b off nn d' os) ν' F (el r.2) (encV r) := by
              simp only [el, encV, ConVs, Con]
              exact ⟨_, _, rfl, by rw [hn1], ConVs.mono hext _ _ hv1⟩
            have := conCs_of H1 (el r.2) o (encV r) hvs (fun x hx => by
              simp only [encV, List.mem_cons] at hx
              rcases hx with rfl | hx
              · rfl
              · exact one_oneC (r.1.one x hx)) (fun j y hy => by
                have := h2 0 r (by simp) j y hy
                rw [cell?_cells H1] at this
                simpa using this)
            exact this
          · have := h2 (i + 1) x (by simpa using hi) j v hj
            rw [show o + (z + 1) + i * (z + 1) + j = o + (i + 1) * (z + 1) + j by rw [Nat.add_mul]; omega]
            exact this
      refine key _ 0 hmem fun i r hi j v hj => ?_
      have hi' : i < d'.size := by
        rcases Nat.lt_or_ge i d'.toList.length with h | h
        · simpa using h
        · rw [List.getElem?_eq_none h] at hi; cases hi
      have hj' : j < z + 1 := by
        rcases Nat.lt_or_ge j (z + 1) with h | h
        · exact h
        · rw [List.getElem?_eq_none (by rw [henc]; exact h)] at hj; cases hj
      have := (hH'.cell hi' hj').1
      have hr : d'[i]! = r := by rw [getElem!_pos d' i hi']; have : d'.toList[i]? = some d'[i] := by simp [hi']
                                 rw [this] at hi; exact Option.some.inj hi
      rw [hr] at this
      have hv : (encV r)[j]! = v := by
        have hlj : j < (encV r).length := by rw [henc]; exact hj'
        rw [List.getElem?_eq_getElem hlj] at hj
        rw [getElem!_pos (encV r) j hlj]; exact Option.some.inj hj
      rw [hv] at this
      have ho : off = 0 := by omega
      rw [ho] at this ⊢
      exact this
    · have hd : ConEs w ν F (z + 1) (es'.drop ps.length) l.b (0 + ps.length * (z + 1)) := conEs_drop q7 _
      have hlen : (d'.toList.map (fun r => el r.2)).length = ps.length := by simp [hd's]
      rw [hlen]
      obtain ⟨ys, g1, g2, g3, g4⟩ := conEs_vals hd
      refine conEs_of H1 (z + 1) _ _ ys (fun x hx => conEs_len hd x hx) (ConVs.mono hext _ _ g1) g3 fun j y hy => ?_
      have h4 := g4 j y hy
      rw [cell?_cells q4] at h4
      simp only [putCells, Array.getElem?_mapIdx, h4, Option.map_some]
      rw [if_neg]
      rw [size_flatK, hd's]
      rcases hoff' with h | h
      · omega
      · rw [h]; omega
  obtain ⟨ν', hν', hext, hst'⟩ := hst.update (k := k) (o' := ⟨z + 1, d'.toList.map (fun r => el r.2) ++ es'.drop ps.length, gg⟩) (n' := n) (b := l.b) (w' := sortWorldK encV (z + 1) w l.b off nn d' os) (by exact hkn) (Nat.le_refl _) H3 H1 H2 q5
    (by simp only [putCells, Array.size_mapIdx]; exact q6) (fun arr0 e0 f0 h0 => by rw [q4] at h0; simp only [Option.some.injEq, Go.Obj.cells.injEq] at h0; rw [← h0.1]; simp [putCells])
    (fun l' hl' => by rw [hl] at hl'; obtain rfl := Option.some.inj hl'; exact ⟨Nat.le_of_eq q2, q3.symm, fun _ => rfl⟩)
    (fun k' o l' hk' ho hl' hbb => hk' (hst.mem.inj k' k o _ l' l ho hm hl' hl hbb)) hcon ⟨rfl, rfl⟩
  refine ⟨_, rfl, ν', F, .any, _, n, hext, hst', trivial, d'.toList.map (·.2), ?_, ?_, ?_, rfl⟩
  · rw [← e1]; exact hperm.map _
  · rw [List.pairwise_map, List.pairwise_iff_getElem]
    intro i j hi hj hij
    have := hs i j (Nat.zero_le _) hij (by simp at hj; omega)
    rw [cfV_lt] at this
    have hi' : i < d'.size := by simpa using hi
    have hj' : j < d'.size := by simpa using hj
    rw [getElem!_pos d' j hj', getElem!_pos d' i hi'] at this
    have m1 := hmem d'[i] (by simp)
    have m2 := hmem d'[j] (by simp)
    rw [m1.1, m2.1] at this
    simpa using this
  · rw [List.map_map]; rfl
end Go.Proofs.Mv.V
