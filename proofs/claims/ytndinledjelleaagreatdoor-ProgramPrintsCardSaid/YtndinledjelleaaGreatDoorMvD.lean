/- A part of the proofs: machine, contracts, laws. No condition of its own. -/
import Derived.Test.YtndinledjelleaaGreatDoorMvC
import Derived.Below
set_option linter.unusedSimpArgs false
set_option linter.unusedVariables false
set_option linter.unusedSectionVars false
namespace Go.Proofs.Mv.V
variable [GI]

def kof : D → Option Nat
 | .own k _ _ _ _ => some k
 | _ => none
@[simp] theorem kof_own (k g o n z : Nat) : kof (.own k g o n z) = some k := rfl
@[simp] theorem kof_v (x : Value) : kof (.v x) = none := rfl
@[simp] theorem kof_mt : kof .mt = none := rfl
@[simp] theorem kof_sl (z : Nat) (es : List (List D)) : kof (.sl z es) = none := rfl
def Lst (m : Mem) (z : Nat) (es : List (List D)) (d : D) : Prop :=
 (es = [] ∧ (d = .v (.slice none 0 0) ∨ d = .mt)) ∨ ∃ k g es', d = .own k g 0 es.length z ∧ m k = some ⟨z, es', g⟩ ∧ es.length ≤ es'.length ∧ es'.take es.length = es
theorem Lst.nil {m : Mem} {z : Nat} : Lst m z [] (.v (.slice none 0 0)) := .inl ⟨rfl, .inl rfl⟩
theorem Lst.own {m : Mem} {z k g : Nat} {es : List (List D)} (h : m k = some ⟨z, es, g⟩) : Lst m z es (.own k g 0 es.length z) :=
 .inr ⟨k, g, es, rfl, h, Nat.le_refl _, List.take_of_length_le (Nat.le_refl _)⟩
@[simp] theorem set_set (m : Mem) (k : Nat) (a b : Obj) : (m.set k a).set k b = m.set k b := by
 funext j; simp only [Mem.set]; split <;> rfl
theorem Lst.mk {m : Mem} {z k g len : Nat} {es es' : List (List D)} (h : m k = some ⟨z, es', g⟩) (hl : len = es.length) (hle : len ≤ es'.length) (ht : es'.take len = es) : Lst m z es (.own k g 0 len z) := by
 subst hl; exact .inr ⟨k, g, es', rfl, h, hle, ht⟩
theorem Lst.frame {m m' : Mem} {z : Nat} {es : List (List D)} {d : D} (h : Lst m z es d) (hf : ∀ k, kof d = some k → m' k = m k) : Lst m' z es d := by
 rcases h with h | ⟨k, g, es', rfl, h1, h2⟩
 ·exact .inl h
 ·exact .inr ⟨k, g, es', rfl, by rw [hf k rfl]; exact h1, h2⟩
theorem Lst.elems {m : Mem} {z : Nat} {es : List (List D)} {d : D} (h : Lst m z es d) : ∃ O : Prop, elemsOf m z d = some (O, es) ∧ O := by
 rcases h with ⟨rfl, rfl | rfl⟩ | ⟨k, g, es', rfl, h1, h2, h3⟩
 ·exact ⟨True, rfl, trivial⟩
 ·exact ⟨True, rfl, trivial⟩
 ·exact ⟨0 + es.length ≤ es'.length, by simp [elemsOf, h1, h3], by omega⟩
theorem elems_sl (m : Mem) (z : Nat) (es : List (List D)) : ∃ O : Prop, elemsOf m z (.sl z es) = some (O, es) ∧ O := ⟨True, by simp [elemsOf], trivial⟩
section
variable {m : Mem} {n : Nat}
theorem b4_append {z b : Nat} {es xs : List (List D)} {d : D} {O ok : Prop} {K : D → Mem → Nat → Prop} {u : Tg K () ()} (hL : Lst m z es d) (hK : ∀ k, kof d = some k → k < n) (hok : ok) (hO : O) (hb : 1 ≤ b)
  (hlen : (es.length + xs.length) * b ≤ 140737488355328)
  (h : ∀ d' m' n', Lst m' z (es ++ xs) d' → n ≤ n' → (∀ k, kof d' = some k → k < n' ∧ (kof d = some k ∨ k = n)) → (∀ j, j ≠ n → kof d ≠ some j → m' j = m j) → K d' m' n') :
  b4 (apD (some (z, b)) ok d (some (O, xs)) m n) K u := by
 rcases hL with ⟨rfl, rfl | rfl⟩ | ⟨k, g, es', rfl, h1, h2, h3⟩
 ·cases xs with
  | nil => exact ⟨⟨hok, hO, hb⟩, h _ _ _ (.inl ⟨rfl, .inl rfl⟩) (Nat.le_refl _) (by simp) (fun _ _ _ => rfl)⟩
  | cons y ys =>
   refine ⟨⟨hok, hO, hb, by simpa using hlen⟩, h _ _ _ ?_ (Nat.le_succ _) (by simp) (fun j hj _ => set_ne _ _ _ _ hj)⟩
   exact Lst.own (es := y :: ys) (set_same _ _ _)
 ·cases xs with
  | nil => exact ⟨⟨hok, hO, hb⟩, h _ _ _ (.inl ⟨rfl, .inr rfl⟩) (Nat.le_refl _) (by simp) (fun _ _ _ => rfl)⟩
  | cons y ys =>
   refine ⟨⟨hok, hO, hb, by simpa using hlen⟩, h _ _ _ ?_ (Nat.le_succ _) (by simp) (fun j hj _ => set_ne _ _ _ _ hj)⟩
   exact Lst.own (es := y :: ys) (set_same _ _ _)
 ·simp only [apD, h1, b4_some]
  refine ⟨⟨hok, hO, by simp, by simp, by simp, h2, hb, hlen⟩, h _ _ _ ?_ (Nat.le_refl _) ?_ ?_⟩
  ·rw [h3]
   have := Lst.own (m := m.set k ⟨z, es ++ xs, g + 1⟩) (k := k) (z := z) (es := es ++ xs) (g := g + 1) (set_same _ _ _)
   rw [List.length_append] at this
   exact this
  ·intro j hj; simp at hj; subst hj; exact ⟨hK _ rfl, .inl rfl⟩
  ·intro j _ hj; exact set_ne _ _ _ _ (by intro e; subst e; exact hj rfl)
end

def Hq (R : D → Mem → Nat → Prop) (_ : Tg R () ()) : D → Mem → Nat → Prop := R
theorem hq {R : D → Mem → Nat → Prop} {u : Tg R () ()} {d : D} {m : Mem} {n : Nat} (h : R d m n) : Hq R u d m n := h
/-! The closing of a contract. -/
def PubAs (n : Nat) (m : Mem) (d d' : D) : Prop := ∀ β, ∃ fu, ∀ f, fu ≤ f → Le (rs β (From n m) f d) d' ∧ below n (rs β (From n m) f d) = true
def Pur (d : D) : Prop := (∀ β m f, rs β m f d = d) ∧ ∀ n, below n d = true
theorem Pur.v (x : Value) : Pur (.v x) := ⟨fun β m f => by cases f <;> rfl, fun n => by simp [below]⟩
theorem Pur.any : Pur .any := ⟨fun β m f => by cases f <;> rfl, fun n => by simp [below]⟩
theorem Pur.mt : Pur .mt := ⟨fun β m f => by cases f <;> rfl, fun n => by simp [below]⟩
theorem belowL_iff {n : Nat} : ∀ {l : List D}, belowL n l = true ↔ ∀ d ∈ l, below n d = true
 | [] => by simp [belowL]
 | d :: l => by simp [belowL, belowL_iff (l := l)]
theorem belowE_iff {n : Nat} : ∀ {l : List (List D)}, belowE n l = true ↔ ∀ e ∈ l, ∀ d ∈ e, below n d = true
 | [] => by simp [belowE]
 | d :: l => by simp [belowE, belowE_iff (l := l), belowL_iff]
theorem map_id_of {l : List D} {f : D → D} (h : ∀ d ∈ l, f d = d) : l.map f = l := by
 induction l with
 | nil => rfl
 | cons a l ih => simp [h a (by simp), ih fun d hd => h d (by simp [hd])]
theorem mapE_id_of {l : List (List D)} {f : D → D} (h : ∀ e ∈ l, ∀ d ∈ e, f d = d) : l.map (fun e => e.map f) = l := by
 induction l with
 | nil => rfl
 | cons a l ih => simp [map_id_of (h a (by simp)), ih fun d hd => h d (by simp [hd])]
theorem Pur.sl {z : Nat} {es : List (List D)} (h : ∀ e ∈ es, ∀ d ∈ e, Pur d) : Pur (.sl z es) :=
 ⟨fun β m f => by
  cases f with
  | zero => rfl
  | succ f => simp only [rs]; rw [mapE_id_of fun e he d hd => (h e he d hd).1 β m f],
  fun n => by simp only [below]; exact belowE_iff.2 fun e he d hd => (h e he d hd).2 n⟩
theorem Pur.agg {l : List D} (h : ∀ d ∈ l, Pur d) : Pur (.agg l) :=
 ⟨fun β m f => by
  cases f with
  | zero => rfl
  | succ f => simp only [rs]; rw [map_id_of fun d hd => (h d hd).1 β m f],
  fun n => by simp only [below]; exact belowL_iff.2 fun d hd => (h d hd).2 n⟩
theorem Pur.tup {l : List D} (h : ∀ d ∈ l, Pur d) : Pur (.tup l) :=
 ⟨fun β m f => by
  cases f with
  | zero => rfl
  | succ f => simp only [rs]; rw [map_id_of fun d hd => (h d hd).1 β m f],
  fun n => by simp only [below]; exact belowL_iff.2 fun d hd => (h d hd).2 n⟩
theorem Pur.rptr {t : Option (Nat × Nat)} {l : List D} (h : ∀ d ∈ l, Pur d) : Pur (.rptr t l) :=
 ⟨fun β m f => by
  cases f with
  | zero => rfl
  | succ f => simp only [rs]; rw [map_id_of fun d hd => (h d hd).1 β m f],
  fun n => by simp only [below]; exact belowL_iff.2 fun d hd => (h d hd).2 n⟩
theorem Pur.iface {t : TypeId} {d : D} (h : Pur d) : Pur (.iface t d) :=
 ⟨fun β m f => by
  cases f with
  | zero => rfl
  | succ f => simp only [rs]; rw [h.1 β m f],
  fun n => by simp only [below]; exact h.2 n⟩
section
variable {m : Mem} {n : Nat}
theorem Pur.pub {d : D} (h : Pur d) : PubAs n m d d := fun β => ⟨0, fun f _ => by rw [h.1]; exact ⟨Le.refl _, h.2 n⟩⟩
theorem PubAs.le {d d' d'' : D} (h : PubAs n m d d') (hl : Le d' d'') : PubAs n m d d'' := fun β => by
 obtain ⟨fu, hf⟩ := h β
 exact ⟨fu, fun f hle => ⟨fun w ν F y hc => hl _ _ _ _ ((hf f hle).1 _ _ _ _ hc), (hf f hle).2⟩⟩
inductive PubL (n : Nat) (m : Mem) : List D → List D → Prop where
 | nil : PubL n m [] []
 | cons {d d' : D} {l l' : List D} (h : PubAs n m d d') (hl : PubL n m l l') : PubL n m (d :: l) (d' :: l')
inductive PubE (n : Nat) (m : Mem) : List (List D) → List (List D) → Prop where
 | nil : PubE n m [] []
 | cons {d d' : List D} {l l' : List (List D)} (h : PubL n m d d') (hl : PubE n m l l') : PubE n m (d :: l) (d' :: l')
theorem PubL.get {l l' : List D} (h : PubL n m l l') : ∀ β, ∃ fu, ∀ f, fu ≤ f → LeL (l.map (rs β (From n m) f)) l' ∧ belowL n (l.map (rs β (From n m) f)) = true := by
 intro β
 induction h with
 | nil => exact ⟨0, fun f _ => ⟨.nil, rfl⟩⟩
 | cons h _ ih =>
  obtain ⟨f1, h1⟩ := h β
  obtain ⟨f2, h2⟩ := ih
  refine ⟨f1 + f2, fun f hf => ⟨?_, ?_⟩⟩
  ·exact .cons (h1 f (by omega)).1 (h2 f (by omega)).1
  ·simp only [List.map_cons, belowL, (h1 f (by omega)).2, (h2 f (by omega)).2, Bool.and_self]
theorem Le_of_conCs {w : World} {ν : Nu} {F : Nat → Prop} {l l' : List D} (h : LeL l l') : ∀ b o, ConCs w ν F l b o → ConCs w ν F l' b o := by
 induction h with
 | nil => intro b o h; exact h
 | cons h _ ih => intro b o hh; simp only [ConCs] at hh ⊢; obtain ⟨⟨y, h1, h2, h3⟩, h4⟩ := hh; exact ⟨⟨y, h1, h2, h _ _ _ _ h3⟩, ih _ _ h4⟩
theorem LeL.len {l l' : List D} (h : LeL l l') : l.length = l'.length := by
 induction h with
 | nil => rfl
 | cons _ _ ih => simp [ih]
inductive LeE : List (List D) → List (List D) → Prop where
 | nil : LeE [] []
 | cons {d d' : List D} {l l' : List (List D)} (h : LeL d d') (hl : LeE l l') : LeE (d :: l) (d' :: l')
theorem LeE.len {l l' : List (List D)} (h : LeE l l') : l.length = l'.length := by
 induction h with
 | nil => rfl
 | cons _ _ ih => simp [ih]
theorem Le_sl {z : Nat} {l l' : List (List D)} (h : LeE l l') : Le (.sl z l) (.sl z l') := by
 intro w ν F y hh
 simp only [Con] at hh ⊢
 have hE : ∀ b o, ConEs w ν F z l b o → ConEs w ν F z l' b o := by
  clear hh
  induction h with
  | nil => intro b o h; exact h
  | cons h _ ih => intro b o hh; simp only [ConEs] at hh ⊢; exact ⟨by rw [← h.len]; exact hh.1, Le_of_conCs h _ _ hh.2.1, ih _ _ hh.2.2⟩
 rcases hh with ⟨b, o, c, h1, h2, h3, h4⟩ | ⟨h1, h2⟩
 ·exact .inl ⟨b, o, c, by rw [← h.len]; exact h1, by rw [← h.len]; exact h2, h3, hE _ _ h4⟩
 ·subst h1; cases h; exact .inr ⟨rfl, h2⟩
theorem Le_rptr {t : Option (Nat × Nat)} {l l' : List D} (h : LeL l l') : Le (.rptr t l) (.rptr t l') := by
 intro w ν F y hh
 simp only [Con] at hh ⊢
 obtain ⟨b, o, h1, h2, h3, h4⟩ := hh
 exact ⟨b, o, h1, h2, h3, Le_of_conCs h _ _ h4⟩
theorem Le_rptr_none {t : Option (Nat × Nat)} {l : List D} : Le (.rptr t l) (.rptr none l) := by
 intro w ν F y hh
 simp only [Con] at hh ⊢
 obtain ⟨b, o, h1, h2, h3, h4⟩ := hh
 exact ⟨b, o, h1, h2, .inl trivial, h4⟩
theorem Le_iface {t : TypeId} {d d' : D} (h : Le d d') : Le (.iface t d) (.iface t d') := by
 intro w ν F y hh
 simp only [Con] at hh ⊢
 obtain ⟨y', h1, h2⟩ := hh
 exact ⟨y', h1, h _ _ _ _ h2⟩
theorem PubE.get {l l' : List (List D)} (h : PubE n m l l') : ∀ β, ∃ fu, ∀ f, fu ≤ f → LeE (l.map fun e => e.map (rs β (From n m) f)) l' ∧ belowE n (l.map fun e => e.map (rs β (From n m) f)) = true := by
 intro β
 induction h with
 | nil => exact ⟨0, fun f _ => ⟨.nil, rfl⟩⟩
 | cons h _ ih =>
  obtain ⟨f1, h1⟩ := h.get β
  obtain ⟨f2, h2⟩ := ih
  refine ⟨f1 + f2, fun f hf => ⟨?_, ?_⟩⟩
  ·exact .cons (h1 f (by omega)).1 (h2 f (by omega)).1
  ·simp only [List.map_cons, belowE, (h1 f (by omega)).2, (h2 f (by omega)).2, Bool.and_self]
theorem PubAs.tup {l l' : List D} (h : PubL n m l l') : PubAs n m (.tup l) (.tup l') := fun β => by
 obtain ⟨fu, hf⟩ := h.get β
 refine ⟨fu + 1, fun f hle => ?_⟩
 obtain ⟨f', rfl⟩ : ∃ f', f = f' + 1 := ⟨f - 1, by omega⟩
 simp only [rs, below]
 exact ⟨Le_tup (hf f' (by omega)).1, (hf f' (by omega)).2⟩
theorem PubAs.agg {l l' : List D} (h : PubL n m l l') : PubAs n m (.agg l) (.agg l') := fun β => by
 obtain ⟨fu, hf⟩ := h.get β
 refine ⟨fu + 1, fun f hle => ?_⟩
 obtain ⟨f', rfl⟩ : ∃ f', f = f' + 1 := ⟨f - 1, by omega⟩
 simp only [rs, below]
 exact ⟨Le_agg (hf f' (by omega)).1, (hf f' (by omega)).2⟩
theorem PubAs.iface {t : TypeId} {d d' : D} (h : PubAs n m d d') : PubAs n m (.iface t d) (.iface t d') := fun β => by
 obtain ⟨fu, hf⟩ := h β
 refine ⟨fu + 1, fun f hle => ?_⟩
 obtain ⟨f', rfl⟩ : ∃ f', f = f' + 1 := ⟨f - 1, by omega⟩
 simp only [rs, below]
 exact ⟨Le_iface (hf f' (by omega)).1, (hf f' (by omega)).2⟩
theorem PubAs.lst {z : Nat} {es es' : List (List D)} {d : D} (hL : Lst m z es d) (hk : ∀ k, kof d = some k → n ≤ k) (h : PubE n m es es') : PubAs n m d (.sl z es') := fun β => by
 obtain ⟨fu, hf⟩ := h.get β
 refine ⟨fu + 1, fun f hle => ?_⟩
 obtain ⟨f', rfl⟩ : ∃ f', f = f' + 1 := ⟨f - 1, by omega⟩
 rcases hL with ⟨rfl, rfl | rfl⟩ | ⟨k, g, es0, rfl, h1, h2, h3⟩
 ·cases h; exact ⟨Le_nil z, rfl⟩
 ·cases h; exact ⟨Le_mt z, rfl⟩
 ·have hn := hk k rfl
  simp only [rs, From, hn, if_true, h1, Nat.zero_add, h2, and_self, List.drop_zero, h3, below]
  exact ⟨Le_sl (hf f' (by omega)).1, (hf f' (by omega)).2⟩
theorem PubAs.ptr {z k g : Nat} {cs cs' : List D} (hm : m k = some ⟨z, [cs], g⟩) (hk : n ≤ k) (h : PubL n m cs cs') : PubAs n m (.ptr k g 0 0) (.rptr none cs') := fun β => by
 obtain ⟨fu, hf⟩ := h.get β
 refine ⟨fu + 1, fun f hle => ?_⟩
 obtain ⟨f', rfl⟩ : ∃ f', f = f' + 1 := ⟨f - 1, by omega⟩
 simp only [rs, From, hk, if_true, hm, List.length_singleton, Nat.lt_one_iff, and_self, List.getD_cons_zero, List.drop_zero, below]
 exact ⟨fun w ν F y hc => Le_rptr_none _ _ _ _ (Le_rptr (hf f' (by omega)).1 _ _ _ _ hc), (hf f' (by omega)).2⟩
theorem PubE.pur {es : List (List D)} (h : ∀ e ∈ es, ∀ d ∈ e, Pur d) : PubE n m es es := by
 have hl : ∀ l : List D, (∀ d ∈ l, Pur d) → PubL n m l l := by
  intro l
  induction l with
  | nil => intro _; exact .nil
  | cons d l ih => intro h; exact .cons (h d (by simp)).pub (ih fun x hx => h x (by simp [hx]))
 induction es with
 | nil => exact .nil
 | cons e es ih => exact .cons (hl e (h e (by simp))) (ih fun x hx => h x (by simp [hx]))
theorem PubAs.lstP {z : Nat} {es : List (List D)} {d : D} (hL : Lst m z es d) (hk : ∀ k, kof d = some k → n ≤ k) (h : ∀ e ∈ es, ∀ d ∈ e, Pur d) : PubAs n m d (.sl z es) := .lst hL hk (.pur h)
theorem acalls_done {P : Program} {f : FuncId} {args : List D} {X : D → Prop} {R' : D → Mem → Nat → Prop} (h : ACalls P f args m n R')
  (hR : ∀ d m' n', R' d m' n' → ∃ d', PubAs n m' d d' ∧ (∀ k, k < n → m' k = m k) ∧ X d') : ACalls P f args m n (fun d m' n' => X d ∧ m' = m ∧ n' = n) := by
 refine acalls_pure h fun d m' n' hr β => ?_
 obtain ⟨d', h1, h2, h3⟩ := hR d m' n' hr
 obtain ⟨fu, hf⟩ := h1 β
 exact ⟨fu, d', (hf fu (Nat.le_refl _)).1, (hf fu (Nat.le_refl _)).2, h2, h3⟩
end
end Go.Proofs.Mv.V
namespace Go.Proofs.Mv.V
open Go.ChangeShapes Go.WideShapes Go.ChangeAt Go.RowKit
def tiles (P : Program) : Nat → List Field → Option Nat
 | o, [] => some o
 | o, f :: fs => if f.offset = o then tiles P (o + P.cellsOf f.type) fs else none
def okT (P : Program) (T : List TypeId) (t : TypeId) : Bool :=
 match P.underlying t with
 | some .bool => P.cellsOf t == 1
 | some (.int _) => P.cellsOf t == 1
 | some .string => P.cellsOf t == 1
 | some (.slice e) => P.cellsOf t == 1 && T.contains e
 | some (.struct fs) => tiles P 0 fs.toList == some (P.cellsOf t) && fs.toList.all fun f => T.contains f.type
 | _ => false
def TyD (P : Program) : Nat → TypeId → List D → Prop
 | 0, _, _ => False
 | n + 1, t, ds => match P.underlying t with
  | some .bool => ∃ b, ds = [.v (.bool b)]
  | some (.int k) => ∃ i, ds = [.v (.int k i)] ∧ (Lit.int k i).wf = true
  | some .string => ∃ s : List UInt8, ds = [.v (.string (ofL s))] ∧ s.length ≤ maxLen
  | some (.slice e) => ∃ es, ds = [.sl (P.cellsOf e) es] ∧ es.length ≤ maxLen ∧ ∀ x ∈ es, TyD P n e x
  | some (.struct fs) => ds.length = P.cellsOf t ∧ ∀ f ∈ fs.toList, TyD P n f.type ((ds.drop f.offset).take (P.cellsOf f.type))
  | _ => False
theorem conCs_cells {w : World} {ν : Nu} {F : Nat → Prop} {b : Nat} : ∀ (ds : List D) (ys : List Value) (o : Nat), ConVs w ν F ds ys → (∀ x ∈ ys, oneC x = true) → (∀ j y, ys[j]? = some y → w.cell? ⟨b, o + j, none⟩ = some y) → ConCs w ν F ds b o := by
 intro ds
 induction ds with
 | nil => intro ys o _ _ _; trivial
 | cons d ds ih =>
  intro ys o h h1 h2
  simp only [ConVs] at h
  obtain ⟨y, r, rfl, hd, hr⟩ := h
  simp only [ConCs]
  refine ⟨⟨y, h2 0 y rfl, h1 y (by simp), hd⟩, ih r (o + 1) hr (fun x hx => h1 x (by simp [hx])) fun j z hz => ?_⟩
  have := h2 (j + 1) z (by simpa using hz)
  rw [show o + 1 + j = o + (j + 1) by omega]; exact this
theorem cells_get {w : World} {base n : Nat} {a : Addr} {cs : List Value} (h : w.cells? base a n = some cs) : cs.length = n ∧ ∀ (j : Nat) y, cs[j]? = some y → w.cell? (a.add j) = some y := by
 obtain ⟨_, h1, h2⟩ := World.cells?_some h
 refine ⟨h1, fun j y hy => ?_⟩
 have hj : j < n := by
  rcases Nat.lt_or_ge j n with h | h
  ·exact h
  ·rw [List.getElem?_eq_none (by omega)] at hy; cases hy
 rw [h2 j hj, hy]
section
variable {H : Type} {enc : TypeId × Value → H} {P : Program} {W : World} {ν : Nu} {T : List TypeId}
theorem tiles_le : ∀ (fs : List Field) (o e : Nat), tiles P o fs = some e → o ≤ e := by
 intro fs
 induction fs with
 | nil => intro o e h; simp [tiles] at h; omega
 | cons g gs ihg =>
  intro o e h
  simp only [tiles] at h
  split at h
  ·have := ihg _ _ h; omega
  ·cases h
theorem read_fields {n : Nat} {cs : List Value} : ∀ (fs : List Field) (o e : Nat), tiles P o fs = some e → cs.length = e →
   (∀ f ∈ fs, ∃ ds, ConVs W ν (F0 W) ds ((cs.drop f.offset).take (P.cellsOf f.type)) ∧ (∀ x ∈ (cs.drop f.offset).take (P.cellsOf f.type), oneC x = true) ∧ TyD P n f.type ds ∧ ds.length = P.cellsOf f.type) →
   ∃ ds, ConVs W ν (F0 W) ds (cs.drop o) ∧ (∀ x ∈ cs.drop o, oneC x = true) ∧ ds.length = e - o ∧ ∀ f ∈ fs, o ≤ f.offset ∧ TyD P n f.type ((ds.drop (f.offset - o)).take (P.cellsOf f.type)) := by
 intro fs
 induction fs with
 | nil =>
  intro o e ht hl hm
  simp [tiles] at ht; subst ht
  refine ⟨[], ?_, ?_, by simp, by simp⟩
  ·rw [List.drop_eq_nil_of_le (by omega)]; simp [ConVs]
  ·rw [List.drop_eq_nil_of_le (by omega)]; simp
 | cons f fs ih =>
  intro o e ht hl hm
  simp only [tiles] at ht
  split at ht
  ·rename_i hof
   obtain ⟨ds1, c1, c2, c3, c4⟩ := hm f (by simp)
   have hoe' := tiles_le _ _ _ ht
   obtain ⟨ds2, e1, e2, e3, e4⟩ := ih (o + P.cellsOf f.type) e ht hl (fun g hg => hm g (by simp [hg]))
   rw [hof] at c1 c2
   have hsplit : cs.drop o = (cs.drop o).take (P.cellsOf f.type) ++ cs.drop (o + P.cellsOf f.type) := by
    rw [← List.drop_drop, List.take_append_drop]
   refine ⟨ds1 ++ ds2, by rw [hsplit]; exact conVs_append c1 e1, ?_, by rw [List.length_append, c4, e3]; omega, ?_⟩
   ·rw [hsplit]
    intro x hx
    rcases List.mem_append.1 hx with hx | hx
    ·exact c2 x hx
    ·exact e2 x hx
   ·intro g hg
    rcases List.mem_cons.1 hg with rfl | hg
    ·refine ⟨by omega, ?_⟩
     rw [hof, Nat.sub_self, List.drop_zero, ← c4, List.take_left']
     ·exact c3
     ·rfl
    ·obtain ⟨g1, g2⟩ := e4 g hg
     refine ⟨by omega, ?_⟩
     rw [List.drop_append, List.drop_eq_nil_of_le (by omega), List.nil_append, c4]
     rw [show g.offset - o - P.cellsOf f.type = g.offset - (o + P.cellsOf f.type) by omega]
     exact g2
  ·cases ht
theorem read_row {n z : Nat} {e : TypeId} {b : Nat} : ∀ (len o : Nat), (∀ i, i < len → ∃ ds, ConCs W ν (F0 W) ds b (o + i * z) ∧ ds.length = z ∧ TyD P n e ds) →
  ∃ es, es.length = len ∧ ConEs W ν (F0 W) z es b o ∧ ∀ x ∈ es, TyD P n e x := by
 intro len
 induction len with
 | zero => intro o _; exact ⟨[], rfl, trivial, by simp⟩
 | succ k ih =>
  intro o h
  obtain ⟨ds, h1, h2, h3⟩ := h 0 (by omega)
  obtain ⟨es, e1, e2, e3⟩ := ih (o + z) (fun i hi => by
   obtain ⟨ds, h1, h2, h3⟩ := h (i + 1) (by omega)
   exact ⟨ds, by rw [show o + z + i * z = o + (i + 1) * z by rw [Nat.add_mul]; omega]; exact h1, h2, h3⟩)
  refine ⟨ds :: es, by simp [e1], ?_, ?_⟩
  ·simp only [ConEs]; exact ⟨h2, by simpa using h1, e2⟩
  ·intro x hx
   rcases List.mem_cons.1 hx with rfl | hx
   ·exact h3
   ·exact e3 x hx
theorem spot_none {a : Addr} {y : Value} (h : W.cell? a = some y) : a.spot = none ∧ a.block < W.heap.size := by
 obtain ⟨b, o, sp⟩ := a
 simp only [World.cell?] at h
 split at h
 ·rename_i heq
  cases sp with
  | none => exact ⟨rfl, (Array.getElem?_eq_some_iff.1 heq).1⟩
  | some x => simp at h
 ·cases h
theorem read_ok (hT : ∀ t ∈ T, okT P T t = true) (hz : ∀ t ∈ T, 1 ≤ P.cellsOf t) : ∀ (n : Nat) (t : TypeId), t ∈ T → ∀ cs x, DataW.trod enc P W 0 (fun _ => true) true n t cs = some x →
  ∃ ds, ConVs W ν (F0 W) ds cs ∧ (∀ x ∈ cs, oneC x = true) ∧ TyD P n t ds ∧ ds.length = P.cellsOf t := by
 intro n
 induction n with
 | zero => intro t ht cs x h; simp [DataW.trod] at h
 | succ n ih =>
  intro t ht cs x h
  have hok := hT t ht
  unfold okT at hok
  simp only [TyD]
  split at hok
  ·rename_i hu
   simp only [beq_iff_eq] at hok
   obtain ⟨b, rfl, _⟩ := DataW.trod_bool hu h
   exact ⟨[.v (.bool b)], by simp [ConVs, Con], by simp [oneC], ⟨b, rfl⟩, by rw [hok]; rfl⟩
  ·rename_i k hu
   simp only [beq_iff_eq] at hok
   obtain ⟨i, rfl, _, hw⟩ := DataW.trod_int hu h
   exact ⟨[.v (.int k i)], by simp [ConVs, Con], by simp [oneC], ⟨i, rfl, hw⟩, by rw [hok]; rfl⟩
  ·rename_i hu
   simp only [beq_iff_eq] at hok
   obtain ⟨s, rfl, _, hs⟩ := DataW.trod_string hu h
   exact ⟨[.v (.string s)], by simp [ConVs, Con], by simp [oneC], ⟨s.data.toList, by simp [ofL], by simpa using hs⟩, by rw [hok]; rfl⟩
  ·rename_i e hu
   simp only [Bool.and_eq_true, beq_iff_eq, List.contains_iff_mem] at hok
   obtain ⟨hc1, he⟩ := hok
   rcases DataW.trod_slice hu h with ⟨rfl, _⟩ | ⟨a, len, cap, elems, rest, k, hk, rfl, _, _, hlc, hcm, hel, hget, hsp, _⟩
   ·exact ⟨[.sl (P.cellsOf e) []], by simp [ConVs, Con], by simp [oneC], ⟨[], rfl, by simp, by simp⟩, by rw [hc1]; rfl⟩
   ·obtain rfl : k = n := by omega
    obtain ⟨hr1, hr2⟩ := hsp rfl
    have hall : ∀ i, i < cap → ∃ c y, W.cells? 0 (a.add (i * P.cellsOf e)) (P.cellsOf e) = some c ∧ DataW.trod enc P W 0 (fun _ => true) true k e c = some y := by
     intro i hi
     by_cases hil : i < len
     ·have := hget i hil
      rw [List.getElem?_eq_getElem (by omega)] at this
      obtain ⟨c, hc, hd⟩ := Option.bind_eq_some_iff.1 this
      exact ⟨c, _, hc, hd⟩
     ·have := hr2 (i - len) (by omega)
      rw [List.getElem?_eq_getElem (by omega), show len + (i - len) = i by omega] at this
      obtain ⟨c, hc, hd⟩ := Option.bind_eq_some_iff.1 this
      exact ⟨c, _, hc, hd⟩
    by_cases hcap : cap = 0
    ·have : len = 0 := by omega
     subst this; subst hcap
     exact ⟨[.sl (P.cellsOf e) []], by simp [ConVs, Con], by simp [oneC], ⟨[], rfl, by simp, by simp⟩, by rw [hc1]; rfl⟩
    ·have hsb : a.spot = none ∧ a.block < W.heap.size := by
      obtain ⟨c, y, hc, _⟩ := hall 0 (by omega)
      obtain ⟨hl, hg⟩ := cells_get hc
      have hz' := hz e he
      have h0 : c[0]? = some c[0] := List.getElem?_eq_getElem (by omega)
      have := spot_none (hg 0 _ h0)
      simpa [Addr.add] using this
     obtain ⟨b, o, sp⟩ := a
     simp only at hsb
     obtain ⟨rfl, hb⟩ := hsb
     obtain ⟨es, e1, e2, e3⟩ := read_row (W := W) (ν := ν) (P := P) (n := k) (z := P.cellsOf e) (e := e) (b := b) len o (fun i hi => by
      obtain ⟨c, y, hc, hd⟩ := hall i (by omega)
      obtain ⟨ds, d1, d2, d3, d4⟩ := ih e he c y hd
      obtain ⟨hl, hg⟩ := cells_get hc
      refine ⟨ds, conCs_cells ds c _ d1 d2 (fun j z hz => ?_), d4, d3⟩
      have := hg j z hz
      rwa [addr_add, addr_add] at this)
     refine ⟨[.sl (P.cellsOf e) es], ?_, by simp [oneC], ⟨es, rfl, by omega, e3⟩, by rw [hc1]; rfl⟩
     simp only [ConVs, Con]
     exact ⟨_, _, rfl, .inl ⟨b, o, cap, by rw [e1], by omega, hb, e2⟩, rfl⟩
  ·rename_i fs hu
   simp only [Bool.and_eq_true, beq_iff_eq, List.all_eq_true, List.contains_iff_mem] at hok
   obtain ⟨ht, hf⟩ := hok
   obtain ⟨xs, k, hk, _, hl, hxl, hget⟩ := DataW.trod_struct hu h
   obtain rfl : k = n := by omega
   obtain ⟨ds, d1, d2, d3, d4⟩ := read_fields (W := W) (ν := ν) (P := P) (n := k) (cs := cs) fs.toList 0 _ ht hl (fun f hfm => by
    obtain ⟨i, hi⟩ := List.getElem?_of_mem hfm
    have hi' : fs[i]? = some f := by simpa using hi
    have := hget i f hi'
    have hib : i < fs.size := by
     rcases Nat.lt_or_ge i fs.size with h | h
     ·exact h
     ·rw [Array.getElem?_eq_none h] at hi'; cases hi'
    rw [List.getElem?_eq_getElem (by omega)] at this
    exact ih f.type (hf f hfm) _ _ this)
   simp only [List.drop_zero, Nat.sub_zero] at d1 d2 d3 d4
   exact ⟨ds, d1, d2, ⟨d3, fun f hfm => (d4 f hfm).2⟩, d3⟩
  ·cases hok
theorem read_arg (hT : ∀ t ∈ T, okT P T t = true) (hz : ∀ t ∈ T, 1 ≤ P.cellsOf t) {t : TypeId} (ht : t ∈ T) {v : Value} {d : DataW H} {ps : List MemPlace} (h : DataW.Trod enc P W 0 (fun _ => true) true t v d ps) :
  ∃ n ds, ConVs W ν (F0 W) ds v.cells.toList ∧ (∀ x ∈ v.cells.toList, oneC x = true) ∧ TyD P n t ds ∧ ds.length = P.cellsOf t := by
 obtain ⟨n, hn⟩ := h
 obtain ⟨ds, h1, h2, h3, h4⟩ := read_ok hT hz n t ht _ _ hn
 exact ⟨n, ds, h1, h2, h3, h4⟩
theorem con_of_agg {ds : List D} {xs : Array Value} (h : ConVs W ν (F0 W) ds (Value.agg xs).cells.toList) (h1 : ∀ x ∈ (Value.agg xs).cells.toList, oneC x = true) : Con W ν (F0 W) (.agg ds) (.agg xs) := by
 simp only [Con]
 exact ⟨xs, rfl, h, h1⟩
end
end Go.Proofs.Mv.V
namespace Go.Proofs.Mv.V
variable [GI]
section
variable {P : Program} {N : Nat} {G : List Nat}
theorem gif_mono {g : Option Bool} {A B A' B' : Prop} {u : Tg A B ()} {u' : Tg A' B' ()} (ha : A → A') (hb : B → B') (h : gif g A B u) : gif g A' B' u' := by
 unfold gif at h ⊢; split <;> simp_all
theorem cnd_mono {d : D} {A B A' B' : Prop} {u : Tg A B ()} {u' : Tg A' B' ()} (ha : A → A') (hb : B → B') (h : cnd d A B u) : cnd d A' B' u' := by
 unfold cnd at h
 split at h
 ·exact ⟨fun e => ha (h.1 e), fun e => hb (h.2 e)⟩
 ·exact ⟨ha h.1, hb h.2⟩
 ·exact h.elim
theorem b4_mono {x : Option (Prop × D × Mem × Nat)} {K K' : D → Mem → Nat → Prop} {u : Tg K () ()} {u' : Tg K' () ()} (hk : ∀ d m n, K d m n → K' d m n) (h : b4 x K u) : b4 x K' u' := by
 unfold b4 at h ⊢; split
 ·exact ⟨h.1, hk _ _ _ h.2⟩
 ·exact h
theorem callD_mono {f : D} {args : List D} {m : Mem} {n : Nat} {K K' : D → Mem → Nat → Prop} {u : Tg K () ()} {u' : Tg K' () ()} (hk : ∀ d m n, K d m n → K' d m n) (h : callD P f args m n K u) : callD P f args m n K' u' := by
 unfold callD at h; split at h
 ·exact ACalls.mono h hk
 ·exact h.elim
theorem xop_mono {σ : Nat → D} {m : Mem} {n : Nat} {op : Op} {K K' : D → Mem → Nat → Prop} {u : Tg K () ()} {u' : Tg K' () ()} (hk : ∀ d m n, K d m n → K' d m n) (h : xop P σ m n op K u) : xop P σ m n op K' u' := by
 unfold xop at h ⊢; split
 ·exact callD_mono hk h
 ·rename_i hne
  split at h
  ·exact absurd rfl (hne _ _ _)
  ·exact b4_mono hk h
theorem xOps_mono' {ops : Array Oper} {K K' : (Nat → D) → Mem → Nat → Prop} (hK : ∀ σ m n, K σ m n → K' σ m n) : ∀ (l : List Oper) (u : Tg ops K l) (u' : Tg ops K' l) (σ : Nat → D) (m : Mem) (n : Nat), xOps P N ops K l u σ m n → xOps P N ops K' l u' σ m n
 | [], _, _, σ, m, n, h => hK _ _ _ h
 | o :: rest, _, _, σ, m, n, h => by
  simp only [xOps] at h ⊢
  exact ⟨h.1, gif_mono (xop_mono fun d m n => xOps_mono' hK rest tg tg _ m n) (xOps_mono' hK rest tg tg _ m n) h.2⟩
theorem then_mono {K K' : (Nat → D) → Mem → Nat → Prop} {Q Q' : APost} (hk : ∀ σ m n, K σ m n → K' σ m n) (hq : ∀ e σ m n, Q e σ m n → Q' e σ m n) : ∀ e σ m n, Then K Q e σ m n → Then K' Q' e σ m n := by
 intro e σ m n h
 cases e <;> first | exact hk _ _ _ h | exact hq _ _ _ _ h
theorem inBlock_mono {id : Nat} {Q Q' : APost} (hq : ∀ e σ m n, Q e σ m n → Q' e σ m n) : ∀ e σ m n, InBlock id Q e σ m n → InBlock id Q' e σ m n := by
 intro e σ m n h
 cases e <;> first
  | (simp only [InBlock] at h ⊢; split
     ·rename_i e; rw [if_pos e] at h; exact hq _ _ _ _ h
     ·rename_i e; rw [if_neg e] at h; exact hq _ _ _ _ h)
  | exact hq _ _ _ _ h
theorem vc_mono : ∀ (c : Code) {Q Q' : APost} (hq : ∀ e σ m n, Q e σ m n → Q' e σ m n) (u : Tg G c Q) (u' : Tg G c Q') (σ : Nat → D) (m : Mem) (n : Nat), vc P N G c Q u σ m n → vc P N G c Q' u' σ m n
 | .skip, Q, Q', hq, _, _, σ, m, n, h => hq _ _ _ _ h
 | .region _ ops draw, Q, Q', hq, _, _, σ, m, n, h => by
  simp only [vc] at h ⊢
  split
  ·rename_i e; rw [if_pos e] at h
   exact fun id => AWP.mono (h id) (then_mono (fun σ m n => hq _ _ _ _) fun _ _ _ _ h => h)
  ·rename_i e; rw [if_neg e] at h
   exact xOps_mono' (fun σ m n => hq _ _ _ _) _ _ _ _ _ _ h
 | .seq x y, Q, Q', hq, _, _, σ, m, n, h => by
  simp only [vc] at h ⊢
  exact vc_mono x (then_mono (fun σ m n => vc_mono y hq _ _ σ m n) hq) _ _ σ m n h
 | .cond c x y, Q, Q', hq, _, _, σ, m, n, h => by
  simp only [vc] at h ⊢
  exact cnd_mono (vc_mono x hq _ _ σ m n) (vc_mono y hq _ _ σ m n) h
 | .block id c, Q, Q', hq, _, _, σ, m, n, h => by
  simp only [vc] at h ⊢
  exact vc_mono c (inBlock_mono hq) _ _ σ m n h
 | .exit id, Q, Q', hq, _, _, σ, m, n, h => hq _ _ _ _ h
 | .ret, Q, Q', hq, _, _, σ, m, n, h => hq _ _ _ _ h
 | .label _, Q, Q', hq, _, _, σ, m, n, h => hq _ _ _ _ h
 | .loop c, Q, Q', hq, _, _, σ, m, n, h => by
  simp only [vc, vloop] at h ⊢
  exact AWP.mono h hq
 | .rangeFunc _ _ _ _, Q, Q', hq, _, _, σ, m, n, h => by
  simp only [vc, vrange] at h ⊢
  exact AWP.mono h hq
theorem vc_mid {c : Code} {K : (Nat → D) → Mem → Nat → Prop} {Q : APost} (M : (Nat → D) → Mem → Nat → Prop) {σ : Nat → D} {m : Mem} {n : Nat} {u : Tg G c (Then K Q)}
  (h : vc P N G c (Then M Q) tg σ m n) (hk : ∀ σ m n, M σ m n → K σ m n) : vc P N G c (Then K Q) u σ m n :=
 vc_mono c (then_mono hk fun _ _ _ _ h => h) _ _ σ m n h
end
end Go.Proofs.Mv.V
namespace Go.Proofs.Mv.V
variable [GI]
theorem ext_below {w w' : World} {ν : Nu} {F : Nat → Prop} {m : Mem} {n : Nat} (h : St w ν F m n) (hb : RowKit.Below w.heap.size w w') : Ext w ν F w' ν F :=
 ⟨hb.size, fun b hF => ⟨hF, hb.block b (h.mem.lt b hF)⟩, fun k l hl => ⟨l, hl, Nat.le_refl _, rfl, fun _ => rfl⟩, fun k l l' hl hl' hg arr e f ha => by
  rw [hl] at hl'; obtain rfl := Option.some.inj hl'
  have hlt : l.b < w.heap.size := by
   rcases Nat.lt_or_ge l.b w.heap.size with h' | h'
   ·exact h'
   ·simp [Array.getElem?_eq_none h'] at ha
  exact ⟨arr, e, f, by rw [hb.block _ hlt]; exact ha, rfl⟩, ⟨hb.os, hb.output⟩⟩
theorem st_below {w w' : World} {ν : Nu} {F : Nat → Prop} {m : Mem} {n : Nat} (h : St w ν F m n) (hb : RowKit.Below w.heap.size w w') : St w' ν F m n := by
 have hext := ext_below h hb
 refine ⟨⟨fun b hF => Nat.lt_of_lt_of_le (h.mem.lt b hF) hb.size, h.mem.inj, fun k o hk => ?_⟩, h.fresh, GI.keep h.gi hext.fz⟩
 obtain ⟨l, arr, e, f, q1, q2, q3, q4, q5, q6, q7⟩ := h.mem.at_ k o hk
 have hlt : l.b < w.heap.size := by
  rcases Nat.lt_or_ge l.b w.heap.size with h' | h'
  ·exact h'
  ·simp [Array.getElem?_eq_none h'] at q4
 exact ⟨l, arr, e, f, q1, q2, q3, by rw [hb.block _ hlt]; exact q4, q5, q6, ConEs.mono hext _ _ _ _ (hb.block _ hlt) q7⟩
theorem acalls_lib {P : Program} {f : FuncId} {args : List D} {m : Mem} {n : Nat} {R : D → Mem → Nat → Prop} (hc : Callable P f)
  (h : ∀ (w : World) (ν : Nu) (F : Nat → Prop) (vals : Array Value), St w ν F m n → ConVs w ν F args vals.toList →
   Calls P f vals w fun e w' => ∃ v, e = .returned v ∧ RowKit.Below w.heap.size w w' ∧ ∃ d, Con w' ν F d v ∧ R d m n) : ACalls P f args m n R := by
 refine ⟨hc, fun w ν F vals hst hv => Calls.mono (h w ν F vals hst hv) ?_⟩
 rintro e w' ⟨v, rfl, hb, d, hd, hR⟩
 exact ⟨v, rfl, ν, F, d, m, n, ext_below hst hb, st_below hst hb, hd, hR⟩
theorem conVs_arr1 {w : World} {ν : Nu} {F : Nat → Prop} {a : D} {vals : Array Value} (h : ConVs w ν F [a] vals.toList) : ∃ x, vals = #[x] ∧ Con w ν F a x := by
 simp only [ConVs] at h
 obtain ⟨x, r, h1, h2, rfl⟩ := h
 exact ⟨x, by apply Array.toList_inj.1; simpa using h1, h2⟩
theorem conVs_arr2 {w : World} {ν : Nu} {F : Nat → Prop} {a b : D} {vals : Array Value} (h : ConVs w ν F [a, b] vals.toList) : ∃ x y, vals = #[x, y] ∧ Con w ν F a x ∧ Con w ν F b y := by
 simp only [ConVs] at h
 obtain ⟨x, r, h1, h2, y, r2, rfl, h3, rfl⟩ := h
 exact ⟨x, y, by apply Array.toList_inj.1; simpa using h1, h2, h3⟩
theorem conVs_arr3 {w : World} {ν : Nu} {F : Nat → Prop} {a b c : D} {vals : Array Value} (h : ConVs w ν F [a, b, c] vals.toList) : ∃ x y z, vals = #[x, y, z] ∧ Con w ν F a x ∧ Con w ν F b y ∧ Con w ν F c z := by
 simp only [ConVs] at h
 obtain ⟨x, r, h1, h2, y, r2, rfl, h3, z, r3, rfl, h4, rfl⟩ := h
 exact ⟨x, y, z, by apply Array.toList_inj.1; simpa using h1, h2, h3, h4⟩
end Go.Proofs.Mv.V
namespace Go.Proofs.Mv.V
def ltB (a b : List UInt8) : Bool := Op.bytesLess a b
theorem bytesLess_lt : ∀ (x y : List UInt8), Op.bytesLess x y = decide (x < y)
 | [], [] => by simp [Op.bytesLess]
 | _ :: _, [] => by simp [Op.bytesLess]
 | [], _ :: _ => by simp [Op.bytesLess]
 | a :: x, b :: y => by
  rw [Op.bytesLess, bytesLess_lt x y]
  simp only [List.cons_lt_cons_iff]
  by_cases h1 : a < b <;> by_cases h2 : a = b <;> by_cases h3 : x < y <;> simp [h1, h2, h3]
theorem ltB_iff (a b : List UInt8) : ltB a b = true ↔ a < b := by
 unfold ltB; rw [bytesLess_lt]; simp
theorem ltB_irr (a : List UInt8) : ltB a a = false := by
 cases h : ltB a a
 ·rfl
 ·exact absurd ((ltB_iff a a).1 h) (List.lt_irrefl a)
theorem ltB_tr {a b c : List UInt8} (h : ltB a b = true) (h' : ltB b c = true) : ltB a c = true :=
 (ltB_iff _ _).2 (List.lt_trans ((ltB_iff _ _).1 h) ((ltB_iff _ _).1 h'))
theorem ltB_anti {a b : List UInt8} (h : ltB a b = false) (h' : ltB b a = false) : a = b := by
 have h1 : ¬ a < b := fun e => by have := (ltB_iff a b).2 e; simp [this] at h
 have h2 : ¬ b < a := fun e => by have := (ltB_iff b a).2 e; simp [this] at h'
 exact List.le_antisymm (List.not_lt.1 h2) (List.not_lt.1 h1)
theorem ltB_asymm {a b : List UInt8} (h : ltB a b = true) : ltB b a = false := by
 cases h' : ltB b a
 ·rfl
 ·have := ltB_tr h h'; rw [ltB_irr] at this; cases this
end Go.Proofs.Mv.V
