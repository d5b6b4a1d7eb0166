/- A part of the proofs: machine, contracts, laws. No condition of its own. -/
import Derived.Test.YtihbegkefjjhpaaGreatDoorMvD
import Derived.Test.YtihbegkefjjhpaaGreatDoorFact
import Derived.Test.YtihbegkefjjhpaaGreatDoorMvPc
import Derived.Test.YtihbegkefjjhpaaGreatDoorMvC
set_option linter.unusedSimpArgs false
set_option linter.unusedVariables false
set_option linter.unusedSectionVars false
open Go Go.Proofs Go.Proofs.Mv.V
set_option maxRecDepth 10000
namespace Go.Proofs.Mv.App
variable [GI]
attribute [simp] Nat.testBit
/-! bytes -/
def byt (v : Int) : UInt8 := UInt8.ofNat (v % 256).toNat
theorem wrap_byt (v : Int) : Value.int .u8 (IntKind.u8.wrap v) = .int .u8 ((byt v).toNat : Int) := by
  congr 1
  simp only [byt, IntKind.wrap, IntKind.signed, IntKind.bits, Bool.false_eq_true, if_false]
  have h1 : 0 ≤ v % 256 := Int.emod_nonneg _ (by omega)
  have h2 : v % 256 < 256 := Int.emod_lt_of_pos _ (by omega)
  have h3 : (UInt8.ofNat (v % 256).toNat).toNat = (v % 256).toNat := by
    simp only [UInt8.toNat_ofNat']; omega
  rw [h3]
  rw [Int.toNat_of_nonneg h1]
  rfl
theorem bEnc_fold (b : UInt8) : [D.v (.int .u8 (b.toNat : Int))] = bEnc b := rfl
theorem unB_cons (b : UInt8) (r : List (List D)) : unB (bEnc b :: r) = b :: unB r := by simp [bEnc, unB]
theorem bEnc_len (b : UInt8) : (bEnc b).length = 1 := rfl
theorem bEnc_get (b : UInt8) : (bEnc b)[0]? = some (.v (.int .u8 (b.toNat : Int))) := rfl
theorem unB_nil : unB [] = [] := rfl
theorem i64_byte (b : UInt8) : IntKind.i64.wrap (b.toNat : Int) = b.toNat := wrap_i64 (by omega) (by have := b.toNat_lt; omega)
attribute [simp] wrap_byt bEnc_fold bEnc_len bEnc_get unB_cons unB_nil i64_byte unB_bEnc
theorem unB_bs (r : List UInt8) (a b : Nat) : unB (List.take a (List.drop b (List.map bEnc r))) = List.take a (List.drop b r) := by
  rw [← List.map_drop, ← List.map_take, unB_bEnc]
theorem unB_b (r : List UInt8) (a : Nat) : unB (List.take a (List.map bEnc r)) = List.take a r := by
  rw [← List.map_take, unB_bEnc]
@[simp] theorem unB_app (a : List UInt8) (r : List (List D)) : unB (List.map bEnc a ++ r) = a ++ unB r := by
  induction a with
  | nil => rfl
  | cons x a ih => simp [ih]
@[simp] theorem comp_idf {α β : Type} (f : α → β) : ((fun e => e) ∘ f) = f := rfl
theorem bits_i64 : IntKind.i64.bits = 64 := rfl
attribute [simp] unB_bs unB_b bits_i64
@[simp] theorem take_map_len {α γ : Type} (l : List α) (f : α → γ) : (l.map f).take l.length = l.map f := List.take_of_length_le (by simp)
@[simp] theorem nat_neg (q : Nat) : ((q : Int) < 0) = False := by simp
theorem get_opt {α : Type} {l : List α} {i : Nat} {a : α} (h : l[i]? = some a) (hi : i < l.length) : l[i] = a := by rw [List.getElem?_eq_getElem hi] at h; exact Option.some.inj h
/-! texts, lists of texts, bytes, errors -/
def S (s : List UInt8) : D := .v (.string (ofL s))
def sl1 (l : List (List UInt8)) : D := .sl 1 (l.map fun s => [S s])
def B (s : List UInt8) : D := .sl 1 (s.map bEnc)
def I (n : Int) : D := .v (.int .i64 n)
def Tt (b : Bool) : D := .v (.bool b)
def code (c : Int) : D := .iface 39 (.v (.int .i64 c))
def nilE : D := .v .nilIface
@[simp] theorem okD_S (s : List UInt8) : okD (S s) = true := (rfl)
@[simp] theorem cellsOf_S (s : List UInt8) : cellsOf (S s) = [S s] := (rfl)
@[simp] theorem kof_S (s : List UInt8) : kof (S s) = none := (rfl)
@[simp] theorem okD_B (s : List UInt8) : okD (B s) = true := (rfl)
@[simp] theorem cellsOf_B (s : List UInt8) : cellsOf (B s) = [B s] := (rfl)
@[simp] theorem kof_B (s : List UInt8) : kof (B s) = none := (rfl)
@[simp] theorem okD_sl1 (l : List (List UInt8)) : okD (sl1 l) = true := (rfl)
@[simp] theorem cellsOf_sl1 (l : List (List UInt8)) : cellsOf (sl1 l) = [sl1 l] := (rfl)
@[simp] theorem kof_sl1 (l : List (List UInt8)) : kof (sl1 l) = none := (rfl)
@[simp] theorem okD_I (n : Int) : okD (I n) = true := (rfl)
@[simp] theorem cellsOf_I (n : Int) : cellsOf (I n) = [I n] := (rfl)
@[simp] theorem kof_I (n : Int) : kof (I n) = none := (rfl)
@[simp] theorem okD_Tt (b : Bool) : okD (Tt b) = true := (rfl)
@[simp] theorem cellsOf_Tt (b : Bool) : cellsOf (Tt b) = [Tt b] := (rfl)
@[simp] theorem kof_Tt (b : Bool) : kof (Tt b) = none := (rfl)
@[simp] theorem okD_code (c : Int) : okD (code c) = true := (rfl)
@[simp] theorem cellsOf_code (c : Int) : cellsOf (code c) = [code c] := (rfl)
@[simp] theorem kof_code (c : Int) : kof (code c) = none := (rfl)
@[simp] theorem okD_nilE  : okD (nilE) = true := (rfl)
@[simp] theorem cellsOf_nilE  : cellsOf (nilE) = [nilE] := (rfl)
@[simp] theorem kof_nilE  : kof (nilE) = none := (rfl)
theorem pur_S (s : List UInt8) : Pur (S s) := Pur.v _
theorem pur_I (n : Int) : Pur (I n) := Pur.v _
theorem pur_T (n : Bool) : Pur (Tt n) := Pur.v _
theorem pur_code (c : Int) : Pur (code c) := Pur.iface (Pur.v _)
theorem pur_nilE : Pur nilE := Pur.v _
theorem pur_ss {l : List (List UInt8)} : ∀ e ∈ l.map (fun s => [S s]), ∀ d ∈ e, Pur d := by
  intro e he d hd
  obtain ⟨b, _, rfl⟩ := List.mem_map.1 he
  simp at hd; subst hd; exact Pur.v _
theorem pur_sl1 (l : List (List UInt8)) : Pur (sl1 l) := Pur.sl pur_ss
theorem pub_pair {n : Nat} {m : Mem} {a b a' b' : D} (h : PubAs n m a a') (h' : PubAs n m b b') : PubAs n m (.tup [a, b]) (.tup [a', b']) := .tup (.cons h (.cons h' .nil))
theorem pub_nil {n : Nat} {m : Mem} (z : Nat) : PubAs n m (.v (.slice none 0 0)) (.sl z []) := (Pur.v _).pub.le (Le_nil z)
def Rd (m : Mem) (z : Nat) (es : List (List D)) (d : D) : Prop := d = .sl z es ∨ Lst m z es d
theorem Rd.elems {m : Mem} {z : Nat} {es : List (List D)} {d : D} (h : Rd m z es d) : ∃ O : Prop, elemsOf m z d = some (O, es) ∧ O := by
  rcases h with rfl | h
  · exact elems_sl m z es
  · exact h.elems
theorem Rd.frame {m m' : Mem} {z : Nat} {es : List (List D)} {d : D} (h : Rd m z es d) (hf : ∀ k, kof d = some k → m' k = m k) : Rd m' z es d := by
  rcases h with h | h
  · exact .inl h
  · exact .inr (h.frame hf)
theorem lenD_rd {m : Mem} {z : Nat} {es : List (List D)} {d : D} (h : Rd m z es d) : lenD 5 d = some (True, .v (.int .i64 es.length)) := by
  rcases h with rfl | h
  · rfl
  · exact lenD_lst h
end Go.Proofs.Mv.App
open Go Go.Proofs Go.Proofs.Mv.V
namespace Go.Proofs.Mv.App
variable [GI]
def PcAt (P : Program) (f : FuncId) (args : List D) (d : D) (m : Mem) (n : Nat) : Prop := ACalls P f args m n (fun d' m' n' => d' = d ∧ m' = m ∧ n' = n)
section
variable {P : Program} {f : FuncId} {args : List D} {d : D} {m : Mem} {n : Nat}
theorem Pc.at (h : Pc P f args d) : PcAt P f args d m n := h m n
theorem pcat_of (hp : Pur d) (h : ACalls P f args m n (PcQ d m n)) : PcAt P f args d m n := by
  refine acalls_done h ?_
  rintro d' m' n' ⟨rfl, hf⟩
  exact ⟨_, hp.pub, hf, rfl⟩
def PcP (d : D) (m : Mem) (n : Nat) : D → Mem → Nat → Prop := Hq (fun d' m' _ => PubAs n m' d' d ∧ ∀ j, j < n → m' j = m j) tg
theorem pcp {m' : Mem} {n' : Nat} {d' : D} (h : PubAs n m' d' d) (hf : ∀ j, j < n → m' j = m j) : PcP d m n d' m' n' := ⟨h, hf⟩
theorem pcat_pub (h : ACalls P f args m n (PcP d m n)) : PcAt P f args d m n := by
  refine acalls_done h ?_
  rintro d' m' n' ⟨h1, h2⟩
  exact ⟨_, h1, h2, rfl⟩
theorem pc_pub (h : ∀ m n, ACalls P f args m n (PcP d m n)) : Pc P f args d := fun m n => pcat_pub (h m n)
theorem pcallAt {K : D → Mem → Nat → Prop} {u : Tg K () ()} (h : PcAt P f args d m n) (hk : K d m n) : aCall P f args m n K u :=
  aCall_of h fun _ _ _ ⟨e1, e2, e3⟩ => by rw [e1, e2, e3]; exact hk
end
end Go.Proofs.Mv.App
open Go Go.Proofs Go.Proofs.Mv.V
namespace Go.Proofs.Mv.App
def findI {α : Type} (q : α → Bool) : List α → Int
  | [] => -1
  | x :: l => if q x then 0 else if findI q l < 0 then -1 else findI q l + 1
theorem findI_le {α : Type} (q : α → Bool) : ∀ l : List α, -1 ≤ findI q l
  | [] => by simp [findI]
  | x :: l => by
    have := findI_le q l
    simp only [findI]; split
    · omega
    · split <;> omega
theorem findI_no {α : Type} {q : α → Bool} : ∀ {l : List α}, (∀ x ∈ l, q x = false) → findI q l = -1
  | [], _ => rfl
  | x :: l, h => by
    have h1 := h x (by simp)
    have h2 := findI_no (l := l) fun y hy => h y (by simp [hy])
    simp [findI, h1, h2]
theorem findI_hit {α : Type} {q : α → Bool} : ∀ {l : List α} {i : Nat} (hi : i < l.length), q l[i] = true → (∀ x ∈ l.take i, q x = false) → findI q l = i
  | x :: l, 0, _, h, _ => by simp at h; simp [findI, h]
  | x :: l, i + 1, hi, h, hn => by
    have h1 := hn x (by simp)
    have h2 := findI_hit (l := l) (i := i) (by simpa using hi) (by simpa using h) fun y hy => hn y (by simp [hy])
    have h3 : ¬ ((i : Int) < 0) := by omega
    simp [findI, h1, h2, h3]
theorem findI_any {α : Type} (q : α → Bool) : ∀ l : List α, 0 ≤ findI q l ↔ l.any q = true
  | [] => by simp [findI]
  | x :: l => by
    have ih := findI_any q l
    have hle := findI_le q l
    simp only [findI, List.any_cons, Bool.or_eq_true]
    by_cases e : q x = true
    · simp [e]
    · rw [if_neg e]
      have h0 : q x = true ↔ False := ⟨e, False.elim⟩
      rw [h0, false_or, ← ih]
      by_cases h : findI q l < 0
      · rw [if_pos h]; omega
      · rw [if_neg h]; omega
end Go.Proofs.Mv.App
open Go Go.Proofs Go.Proofs.Mv.V
set_option maxRecDepth 10000
namespace Go.Proofs.Mv.App
inductive Ty where
  | mk (kind : Int) (pkg : List UInt8) (major : Int) (mod name : List UInt8) (names : List (List UInt8)) (subs : List Ty)
instance : Inhabited Ty := ⟨.mk 0 [] 0 [] [] [] []⟩
def Ty0 : Ty := .mk 0 [] 0 [] [] [] []
mutual
def tyD [GI] : Ty → List D
  | .mk kind pkg major mod name names subs => [I kind, S pkg, I major, S mod, S name, sl1 names, .sl 7 (tysD subs)]
def tysD [GI] : List Ty → List (List D)
  | [] => []
  | t :: ts => tyD t :: tysD ts
end
section
variable [GI]
theorem tysD_eq : ∀ l : List Ty, tysD l = l.map tyD
  | [] => by simp [tysD]
  | t :: ts => by simp [tysD, tysD_eq ts]
@[simp] theorem tyD_len (t : Ty) : (tyD t).length = 7 := by cases t; simp [tyD]
@[simp] theorem tyD_take (t : Ty) : (tyD t).take 7 = tyD t := List.take_of_length_le (by simp)
mutual
theorem pur_ty : ∀ t : Ty, ∀ d ∈ tyD t, Pur d
  | .mk kind pkg major mod name names subs, d, hd => by
    simp only [tyD, List.mem_cons, List.not_mem_nil, or_false] at hd
    rcases hd with rfl | rfl | rfl | rfl | rfl | rfl | rfl
    · exact pur_I _
    · exact pur_S _
    · exact pur_I _
    · exact pur_S _
    · exact pur_S _
    · exact pur_sl1 _
    · exact Pur.sl (pur_tys subs)
theorem pur_tys : ∀ l : List Ty, ∀ e ∈ tysD l, ∀ d ∈ e, Pur d
  | [], e, he, _, _ => by simp [tysD] at he
  | t :: ts, e, he, d, hd => by
    simp only [tysD, List.mem_cons] at he
    rcases he with rfl | he
    · exact pur_ty t d hd
    · exact pur_tys ts e he d hd
end
theorem pur_tym (l : List Ty) : ∀ e ∈ l.map tyD, ∀ d ∈ e, Pur d := by rw [← tysD_eq]; exact pur_tys l
end
end Go.Proofs.Mv.App
open Go Go.Proofs Go.Proofs.Mv.V
namespace Go.Proofs.Mv.App
namespace Ty
@[reducible] def kind : Ty → Int | .mk k _ _ _ _ _ _ => k
@[reducible] def pkg : Ty → List UInt8 | .mk _ p _ _ _ _ _ => p
@[reducible] def major : Ty → Int | .mk _ _ j _ _ _ _ => j
@[reducible] def mod : Ty → List UInt8 | .mk _ _ _ m _ _ _ => m
@[reducible] def name : Ty → List UInt8 | .mk _ _ _ _ n _ _ => n
@[reducible] def names : Ty → List (List UInt8) | .mk _ _ _ _ _ l _ => l
@[reducible] def subs : Ty → List Ty | .mk _ _ _ _ _ _ l => l
end Ty
mutual
def manyT : Ty → Nat
  | .mk _ _ _ _ _ _ subs => 1 + manyTs subs
def manyTs : List Ty → Nat
  | [] => 0
  | t :: ts => manyT t + manyTs ts
end
mutual
def deepT : Ty → Nat
  | .mk _ _ _ _ _ _ subs => deepTs subs + 1
def deepTs : List Ty → Nat
  | [] => 0
  | t :: ts => max (deepT t) (deepTs ts)
end
mutual
def fewT : Ty → Int → Int
  | .mk _ _ _ _ _ names subs, most => if most - 1 < 0 ∨ 200 < names.length then -1 else fewTs subs (most - 1)
def fewTs : List Ty → Int → Int
  | [], most => most
  | t :: ts, most => if 0 ≤ most then fewTs ts (fewT t most) else most
end
theorem manyTs_eq : ∀ l : List Ty, manyTs l = (l.map manyT).sum
  | [] => by simp [manyTs]
  | t :: ts => by simp [manyTs, manyTs_eq ts]
theorem manyT_eq (t : Ty) : manyT t = 1 + (t.subs.map manyT).sum := by cases t; simp [manyT, manyTs_eq, Ty.subs]
theorem manyT_pos (t : Ty) : 1 ≤ manyT t := by rw [manyT_eq]; omega
theorem deepT_eq (t : Ty) : deepT t = deepTs t.subs + 1 := by cases t; simp [deepT, Ty.subs]
theorem deepTs_append : ∀ (l r : List Ty), deepTs (l ++ r) = max (deepTs l) (deepTs r)
  | [], r => by simp [deepTs]
  | t :: ts, r => by simp only [List.cons_append, deepTs, deepTs_append ts r]; omega
theorem manyTs_append : ∀ (l r : List Ty), manyTs (l ++ r) = manyTs l + manyTs r
  | [], r => by simp [manyTs]
  | t :: ts, r => by simp only [List.cons_append, manyTs, manyTs_append ts r]; omega
mutual
def sameT : Ty → Ty → Bool
  | .mk k p j m n ns ts, .mk k' p' j' m' n' ns' ts' => decide (k = k') && decide (p = p') && decide (j = j') && decide (m = m') && decide (n = n') && decide (ns = ns') && sameTs ts ts'
def sameTs : List Ty → List Ty → Bool
  | [], [] => true
  | t :: ts, u :: us => sameT t u && sameTs ts us
  | [], _ :: _ => false
  | _ :: _, [] => false
end
mutual
theorem sameT_iff : ∀ (t u : Ty), sameT t u = true ↔ t = u
  | .mk k p j m n ns ts, .mk k' p' j' m' n' ns' ts' => by
    simp only [sameT, Bool.and_eq_true, decide_eq_true_eq, sameTs_iff ts ts', Ty.mk.injEq]
    constructor
    · rintro ⟨⟨⟨⟨⟨⟨h1, h2⟩, h3⟩, h4⟩, h5⟩, h6⟩, h7⟩; exact ⟨h1, h2, h3, h4, h5, h6, h7⟩
    · rintro ⟨h1, h2, h3, h4, h5, h6, h7⟩; exact ⟨⟨⟨⟨⟨⟨h1, h2⟩, h3⟩, h4⟩, h5⟩, h6⟩, h7⟩
theorem sameTs_iff : ∀ (t u : List Ty), sameTs t u = true ↔ t = u
  | [], [] => by simp [sameTs]
  | t :: ts, u :: us => by simp only [sameTs, Bool.and_eq_true, sameT_iff t u, sameTs_iff ts us, List.cons.injEq]
  | [], _ :: _ => by simp [sameTs]
  | _ :: _, [] => by simp [sameTs]
end
instance : DecidableEq Ty := fun a b => decidable_of_iff (sameT a b = true) (sameT_iff a b)
inductive TyW : Ty → Prop where
  | mk (kind : Int) (pkg : List UInt8) (major : Int) (mod name : List UInt8) (names : List (List UInt8)) (subs : List Ty) (h1 : names.length ≤ 9223372036854775807) (h2 : subs.length ≤ 9223372036854775807)
      (h3 : pkg.length ≤ 9223372036854775807) (h4 : mod.length ≤ 9223372036854775807) (h5 : name.length ≤ 9223372036854775807) (h6 : ∀ s ∈ names, s.length ≤ 9223372036854775807) (h7 : ∀ t ∈ subs, TyW t) : TyW (.mk kind pkg major mod name names subs)
/-! few -/
theorem fewTs_neg : ∀ (l : List Ty) (m : Int), m < 0 → fewTs l m = m
  | [], m, _ => by simp [fewTs]
  | t :: ts, m, h => by simp only [fewTs]; rw [if_neg (by omega)]
mutual
theorem fewT_le : ∀ (t : Ty) (m : Int), -1 ≤ m → -1 ≤ fewT t m ∧ fewT t m ≤ max (m - 1) (-1)
  | .mk _ _ _ _ _ names subs, m, h => by
    simp only [fewT]
    split
    · omega
    · rename_i e
      have := fewTs_le subs (m - 1) (by omega); omega
theorem fewTs_le : ∀ (l : List Ty) (m : Int), -1 ≤ m → -1 ≤ fewTs l m ∧ fewTs l m ≤ m
  | [], m, h => by simp [fewTs]; exact h
  | t :: ts, m, h => by
    simp only [fewTs]
    split
    · have h1 := fewT_le t m h
      have h2 := fewTs_le ts (fewT t m) h1.1; omega
    · omega
end
theorem fewTs_snoc : ∀ (l : List Ty) (x : Ty) (m : Int), fewTs (l ++ [x]) m = if 0 ≤ fewTs l m then fewT x (fewTs l m) else fewTs l m
  | [], x, m => by by_cases h : 0 ≤ m <;> simp [fewTs, h]
  | t :: ts, x, m => by
    by_cases h : 0 ≤ m
    · simp only [List.cons_append, fewTs, if_pos h]; exact fewTs_snoc ts x _
    · simp only [List.cons_append, fewTs, if_neg h]
theorem fewTs_stop : ∀ (l r : List Ty) (m : Int), fewTs l m < 0 → fewTs (l ++ r) m = fewTs l m
  | [], r, m, h => by simp only [fewTs] at h; simp only [List.nil_append, fewTs]; exact fewTs_neg r m h
  | t :: ts, r, m, h => by
    simp only [List.cons_append, fewTs] at h ⊢
    split
    · rename_i e; rw [if_pos e] at h; exact fewTs_stop ts r _ h
    · rfl
def few3 (t : Ty) : Bool := decide (0 ≤ fewT t 3000)
theorem manyTs_snoc (l : List Ty) (x : Ty) : manyTs (l ++ [x]) = manyTs l + manyT x := by rw [manyTs_append]; simp [manyTs]
theorem deepTs_snoc (l : List Ty) (x : Ty) : deepTs (l ++ [x]) = max (deepTs l) (deepT x) := by rw [deepTs_append]; simp [deepTs]
theorem take_snoc {α : Type} {l : List α} {i : Nat} (h : i < l.length) : l.take (i + 1) = l.take i ++ [l[i]] := List.take_succ_eq_append_getElem h
theorem manyTs_take (l : List Ty) (i : Nat) : manyTs (l.take i) ≤ manyTs l := by
  have := manyTs_append (l.take i) (l.drop i); rw [List.take_append_drop] at this; omega
end Go.Proofs.Mv.App
open Go Go.Proofs Go.Proofs.Mv.V
set_option maxRecDepth 10000
namespace Go.Proofs.Mv.App
inductive Tm where
  | mk (kind num : Int) (mod name : List UInt8) (names vars : List (List UInt8)) (types : List Ty) (subs : List Tm)
instance : Inhabited Tm := ⟨.mk 0 0 [] [] [] [] [] []⟩
def Tm0 : Tm := .mk 0 0 [] [] [] [] [] []
mutual
def tmD [GI] : Tm → List D
  | .mk kind num mod name names vars types subs => [I kind, I num, S mod, S name, sl1 names, sl1 vars, .sl 7 (types.map tyD), .sl 8 (tmsD subs)]
def tmsD [GI] : List Tm → List (List D)
  | [] => []
  | t :: ts => tmD t :: tmsD ts
end
section
variable [GI]
theorem tmsD_eq : ∀ l : List Tm, tmsD l = l.map tmD
  | [] => by simp [tmsD]
  | t :: ts => by simp [tmsD, tmsD_eq ts]
@[simp] theorem tmD_len (t : Tm) : (tmD t).length = 8 := by cases t; simp [tmD]
@[simp] theorem tmD_take (t : Tm) : (tmD t).take 8 = tmD t := List.take_of_length_le (by simp)
mutual
theorem pur_tm : ∀ t : Tm, ∀ d ∈ tmD t, Pur d
  | .mk kind num mod name names vars types subs, d, hd => by
    simp only [tmD, List.mem_cons, List.not_mem_nil, or_false] at hd
    rcases hd with rfl | rfl | rfl | rfl | rfl | rfl | rfl | rfl
    · exact pur_I _
    · exact pur_I _
    · exact pur_S _
    · exact pur_S _
    · exact pur_sl1 _
    · exact pur_sl1 _
    · exact Pur.sl (pur_tym types)
    · exact Pur.sl (pur_tms subs)
theorem pur_tms : ∀ l : List Tm, ∀ e ∈ tmsD l, ∀ d ∈ e, Pur d
  | [], e, he, _, _ => by simp [tmsD] at he
  | t :: ts, e, he, d, hd => by
    simp only [tmsD, List.mem_cons] at he
    rcases he with rfl | he
    · exact pur_tm t d hd
    · exact pur_tms ts e he d hd
end
theorem pur_tmA (t : Tm) : Pur (.agg (tmD t)) := Pur.agg (pur_tm t)
theorem pur_tmm (l : List Tm) : ∀ e ∈ l.map tmD, ∀ d ∈ e, Pur d := by rw [← tmsD_eq]; exact pur_tms l
theorem tmD_zero : tmD Tm0 = [I 0, I 0, S [], S [], .sl 1 [], .sl 1 [], .sl 7 [], .sl 8 []] := by simp [Tm0, tmD, tmsD, sl1]
end
inductive TmW : Tm → Prop where
  | mk (kind num : Int) (mod name : List UInt8) (names vars : List (List UInt8)) (types : List Ty) (subs : List Tm) (h1 : names.length ≤ 9223372036854775807) (h2 : vars.length ≤ 9223372036854775807)
      (h3 : types.length ≤ 9223372036854775807) (h4 : subs.length ≤ 9223372036854775807) (h5 : mod.length ≤ 9223372036854775807) (h6 : name.length ≤ 9223372036854775807)
      (h7 : ∀ s ∈ names, s.length ≤ 9223372036854775807) (h8 : ∀ s ∈ vars, s.length ≤ 9223372036854775807) (h9 : ∀ t ∈ types, TyW t) (h10 : ∀ t ∈ subs, TmW t) : TmW (.mk kind num mod name names vars types subs)
mutual
def valT : Tm → Bool
  | .mk kind _ _ _ _ _ _ subs => (decide (kind = 1) || decide (kind = 2) || decide (kind = 8)) || ((decide (kind = 5) || decide (kind = 7) || decide (kind = 10)) && valTs subs)
def valTs : List Tm → Bool
  | [] => true
  | t :: ts => valT t && valTs ts
end
theorem valTs_eq : ∀ l : List Tm, valTs l = l.all valT
  | [] => rfl
  | t :: ts => by simp [valTs, valTs_eq ts]
mutual
def manyTm : Tm → Nat
  | .mk _ _ _ _ _ _ _ subs => 1 + manyTms subs
def manyTms : List Tm → Nat
  | [] => 0
  | t :: ts => manyTm t + manyTms ts
end
end Go.Proofs.Mv.App
open Go Go.Proofs Go.Proofs.Mv.V
set_option maxRecDepth 10000
namespace Go.Proofs.Mv.App
variable [GI]
theorem cIdxTmA {l : List (Tm)} {q : Tm → Bool} {fp : FuncId} {cs : List D} {m : Mem} {n : Nat} (hcs : List.length cs ≤ 3) (hp : ∀ x ∈ l, PcAt Tryz.prog fp (.agg (tmD x) :: cs) (Tt (q x)) m n) (hlen : l.length ≤ 9223372036854775807) :
    PcAt Tryz.prog 127 [.sl 8 (l.map tmD), .func (.func fp) [] cs] (I (findI q l)) m n := by
  refine pcat_of (pur_I _) ?_
  have hL2 : (l.map tmD).length = l.length := by simp
  have hG2 : ∀ i (h : i < l.length), (l.map tmD)[i]? = some (tmD l[i]) := fun i h => by simp [h]
  generalize l.map tmD = EL at hL2 hG2
  refine acalls_vc [0, 1, 4, 5, 7, 8, 9, 16] Tryz.func127 Tryz.ntmps127 (by kernel_rfl) rfl rfl (by simp) ?_
  simp -dsimp [hL2, I]
  refine vloop_as (β := Nat) (fun i => [(0, .sl 8 EL), (1, .func (.func fp) [] cs), (7, I l.length), (8, I i)]) (fun i m2 n2 => m2 = m ∧ n2 = n ∧ i ≤ l.length ∧ ∀ x ∈ l.take i, q x = false) (fun i => l.length - i) 0 (by simp [I]) ⟨rfl, rfl, by omega, by simp⟩ ?_
  rintro i m2 n2 ⟨rfl, rfl, le, hno⟩
  by_cases hi : (i : Int) < l.length
  · have hi' : i < l.length := by omega
    have wi : IntKind.i64.wrap ((i : Int) + 1) = (i : Int) + 1 := wrap_i64 (by omega) (by omega)
    have hiN : i < EL.length := by omega
    have hgi : EL[i] = tmD l[i] := get_opt (hG2 i hi') hiN
    have hz : (tmD l[i]).length = 8 := by simp
    have hc := hp l[i] (List.getElem_mem hi')
    generalize tmD l[i] = XX at hgi hz hc
    have htz : List.take 8 XX = XX := List.take_of_length_le (by omega)
    simp -dsimp [I, Tt, hi, hi', hiN, hgi, hz, htz]
    refine pcallAt hc ?_
    cases e : q l[i] with
    | true =>
      simp -dsimp [I, Tt]
      exact pcq' (by rw [findI_hit hi' e hno])
    | false =>
      simp -dsimp [I, Tt, wi]
      refine rnd (i + 1) (by omega) (by simp [I]) ⟨rfl, rfl, by omega, fun x hx => ?_⟩
      rw [List.take_succ_eq_append_getElem hi'] at hx
      rcases List.mem_append.1 hx with hx | hx
      · exact hno x hx
      · simp at hx; rw [hx]; exact e
  · have : i = l.length := by omega
    subst this
    rw [List.take_length] at hno
    simp -dsimp [I, Tt, hi]
    exact pcq' (by rw [findI_no hno])
theorem cHasTmA {l : List (Tm)} {q : Tm → Bool} {fp : FuncId} {cs : List D} {m : Mem} {n : Nat} (hcs : List.length cs ≤ 3) (hp : ∀ x ∈ l, PcAt Tryz.prog fp (.agg (tmD x) :: cs) (Tt (q x)) m n) (hlen : l.length ≤ 9223372036854775807) :
    PcAt Tryz.prog 76 [.sl 8 (l.map tmD), .func (.func fp) [] cs] (Tt (l.any q)) m n := by
  refine pcat_of (pur_T _) ?_
  have hc := cIdxTmA hcs hp hlen
  generalize l.map tmD = EL at hc
  refine acalls_vc [0, 1, 4] Tryz.func76 Tryz.ntmps76 (by kernel_rfl) rfl rfl (by simp) ?_
  simp -dsimp
  refine pcallAt hc ?_
  have h := findI_any q l
  cases e : l.any q with
  | true =>
    have : 0 ≤ findI q l := h.2 e
    simp -dsimp [I, Tt, this]
    exact pcq' rfl
  | false =>
    have : ¬ 0 ≤ findI q l := fun h' => by rw [h.1 h'] at e; cases e
    simp -dsimp [I, Tt, this]
    exact pcq' rfl
theorem rCloneS {l : List (List UInt8)} (hl : l.length ≤ 1000000) (m : Mem) (n : Nat) : ACalls Tryz.prog 75 [sl1 l] m n
    (fun d m' n' => Lst m' 1 (l.map fun s => [S s]) d ∧ n ≤ n' ∧ (∀ k, kof d = some k → n ≤ k ∧ k < n') ∧ ∀ j, j < n → m' j = m j) := by
  cases l with
  | nil =>
    simp only [sl1, List.map_nil]
    refine acalls_vc [0, 2, 4] Tryz.func75 Tryz.ntmps75 (by kernel_rfl) rfl rfl (by simp) ?_
    simp -dsimp
    exact ⟨.nil, .mk (set_same _ _ _) rfl (by simp) rfl, fun j hj => set_ne _ _ _ _ (by omega)⟩
  | cons a r =>
    simp only [List.length_cons] at hl
    simp only [sl1, List.map_cons]
    have hL : (r.map fun s => [S s]).length = r.length := by simp
    generalize (r.map fun s => [S s]) = RL at hL ⊢
    refine acalls_vc [0, 2, 4] Tryz.func75 Tryz.ntmps75 (by kernel_rfl) rfl rfl (by simp) ?_
    simp -dsimp
    exact ⟨by omega, .mk (set_same _ _ _) (by simp) (by simp) (by rw [List.take_of_length_le (by simp)]), fun j hj => set_ne _ _ _ _ (by omega)⟩
end Go.Proofs.Mv.App
open Go Go.Proofs Go.Proofs.Mv.V
set_option maxRecDepth 10000
namespace Go.Proofs.Mv.App
variable [GI]
theorem rGrowS (q : Nat) (hq : q ≤ 1000000) (m : Mem) (n : Nat) : ACalls Tryz.prog 126 [.v (.slice none 0 0), .v (.int .i64 q)] m n
    (fun d m' n' => Lst m' 1 [] d ∧ n ≤ n' ∧ (∀ k, kof d = some k → n ≤ k ∧ k < n') ∧ ∀ j, j < n → m' j = m j) := by
  refine acalls_vc [0, 1, 4, 6, 16] Tryz.func126 Tryz.ntmps126 (by kernel_rfl) rfl rfl (by simp) ?_
  simp -dsimp
  have w1 : IntKind.i64.wrap ((q : Int) - IntKind.i64.wrap 0) = q := by rw [wrap_i64 (x := 0) (by omega) (by omega), wrap_i64 (by omega) (by omega)]; omega
  simp -dsimp [w1]
  refine cnd_intro (fun h => ?_) (fun h => ?_)
  · simp at h
    simp -dsimp [w1]
    exact ⟨⟨h, by omega⟩, .mk (set_same _ _ _) rfl (by simp) (by simp), fun j hj => set_ne _ _ _ _ (by omega)⟩
  · simp -dsimp
    exact .nil
def sumL (ls : List (List (List UInt8))) (i : Nat) : Nat := ((ls.take i).map List.length).sum
theorem sumL_succ {ls : List (List (List UInt8))} {i : Nat} (h : i < ls.length) : sumL ls (i + 1) = sumL ls i + ls[i].length := by
  unfold sumL; rw [List.take_succ_eq_append_getElem h]; simp only [List.map_append, List.map_cons, List.map_nil, List.sum_append, List.sum_cons, List.sum_nil]; omega
theorem sumL_len (ls : List (List (List UInt8))) (i : Nat) : sumL ls i = (ls.take i).flatten.length := by
  unfold sumL; simp [List.length_flatten]
theorem sumL_le {ls : List (List (List UInt8))} {B : Nat} (h : ∀ l ∈ ls, l.length ≤ B) (i : Nat) : sumL ls i ≤ ls.length * B := by
  induction ls generalizing i with
  | nil => simp [sumL]
  | cons a r ih =>
    cases i with
    | zero => simp [sumL]
    | succ i =>
      have h1 := ih (fun l hl => h l (by simp [hl])) i
      have h2 := h a (by simp)
      simp only [sumL, List.take_succ_cons, List.map_cons, List.sum_cons, List.length_cons] at h1 ⊢
      rw [Nat.add_mul]; omega
structure CcI (kx : Nat) (q : Nat) (ls : List (List (List UInt8))) (m : Mem) (n : Nat) (i : Nat) (σ : Nat → D) (m2 : Mem) (n2 : Nat) : Prop where
  le : i ≤ q
  h0 : σ 0 = .own kx 0 0 q 1
  h9 : σ 9 = .own kx 0 0 q 1
  h10 : σ 10 = I q
  h11 : σ 11 = I i
  h3 : σ 3 = I (sumL ls i)
  mm : m2 = m
  nn : n2 = n
structure CcJ (kx : Nat) (q : Nat) (ls : List (List (List UInt8))) (m : Mem) (n : Nat) (i : Nat) (σ : Nat → D) (m2 : Mem) (n2 : Nat) : Prop where
  le : i ≤ q
  h25 : σ 25 = .own kx 0 0 q 1
  h26 : σ 26 = I q
  h27 : σ 27 = I i
  fr : ∀ j, j < n → m2 j = m j
  nn : n ≤ n2
  kf : ∀ k, kof (σ 6) = some k → n ≤ k ∧ k < n2
  ls : Lst m2 1 ((ls.take i).flatten.map fun s => [S s]) (σ 6)
theorem rConcatS (kx : Nat) (ds : List D) (ls : List (List (List UInt8))) (m : Mem) (n : Nat) (hm : m kx = some ⟨1, ds.map fun d => [d], 0⟩) (hlen : ds.length = ls.length) (h3 : ls.length ≤ 10)
    (hd : ∀ i (h : i < ls.length) (h' : i < ds.length), Rd m 1 (ls[i].map fun s => [S s]) ds[i]) (hk : ∀ d ∈ ds, ∀ k, kof d = some k → k < n) (hkx : kx < n) (hl : ∀ l ∈ ls, l.length ≤ 1000) :
    ACalls Tryz.prog 74 [.own kx 0 0 ls.length 1] m n (Hq (fun d m' n' => Lst m' 1 (ls.flatten.map fun s => [S s]) d ∧ n ≤ n' ∧ (∀ k, kof d = some k → n ≤ k ∧ k < n') ∧ ∀ j, j < n → m' j = m j) tg) := by
  have hS := sumL_le hl
  refine acalls_vc [0, 2, 3, 5, 6, 8, 9, 10, 11, 12, 20, 25, 26, 27, 28] Tryz.func74 Tryz.ntmps74 (by kernel_rfl) rfl rfl (by simp) ?_
  simp -dsimp
  refine vloop_of (β := Nat) (CcI kx ls.length ls m n) (fun i => ls.length - i) 0 ⟨by omega, by simp, by simp, by simp [I], by simp [I], by simp [I, sumL], rfl, rfl⟩ ?_
  rintro i σ m2 n2 ⟨le, h0, h9, h10, h11, h3', rfl, rfl⟩
  by_cases hi : (i : Int) < ls.length
  · have hi' : i < ls.length := by omega
    have hid : i < ds.length := by omega
    have wi : IntKind.i64.wrap ((i : Int) + 1) = (i : Int) + 1 := wrap_i64 (by omega) (by omega)
    have hs1 := hS (i + 1)
    have hs0 := sumL_succ hi'
    have hb : ls.length * 1000 ≤ 10000 := by omega
    have ws : IntKind.i64.wrap ((sumL ls i : Int) + (ls[i].length : Int)) = (sumL ls (i + 1) : Int) := by rw [wrap_i64 (by omega) (by omega)]; omega
    have nn : ¬ ((sumL ls (i + 1) : Int) < 0) := by omega
    have hln := lenD_rd (hd i hi' hid)
    rw [List.length_map] at hln
    have hgd : (ds.map fun d => [d])[i]? = some [ds[i]] := by simp [hid]
    simp -dsimp [h0, h9, h10, h11, h3', I, hm, hi, hi', hid, hln, ws, nn, wi]
    exact ⟨i + 1, by omega, by omega, by simp, by simp, by simp [I], by simp [I], by simp [I], rfl, rfl⟩
  · have : i = ls.length := by omega
    subst this
    simp -dsimp [h0, h9, h10, h11, h3', I, hi]
    refine aCall_of (rGrowS (sumL ls ls.length) (by have := hS ls.length; omega) _ _) ?_
    rintro d m' n' ⟨g1, g2, g3, g4⟩
    simp -dsimp
    refine vloop_of (β := Nat) (CcJ kx ls.length ls m2 n2) (fun i => ls.length - i) 0 ⟨by omega, by simp [h0], by simp [I], by simp [I], g4, g2, by simpa using g3, by simpa using g1⟩ ?_
    rintro i σ m3 n3 ⟨le, h25, h26, h27, hf, hn, hkk, hL⟩
    by_cases hi : (i : Int) < ls.length
    · have hi' : i < ls.length := by omega
      have hid : i < ds.length := by omega
      have wi : IntKind.i64.wrap ((i : Int) + 1) = (i : Int) + 1 := wrap_i64 (by omega) (by omega)
      have hm3 : m3 kx = some ⟨1, ds.map fun d => [d], 0⟩ := by rw [hf kx hkx]; exact hm
      obtain ⟨O1, e1, o1⟩ := ((hd i hi' hid).frame (m' := m3) (fun k hk' => hf k (hk _ (List.getElem_mem hid) k hk'))).elems
      simp -dsimp [h25, h26, h27, I, hm3, hi, hi', hid, e1]
      have hsl := sumL_len ls (i + 1)
      have hsb := hS (i + 1)
      have hfl : (ls.take (i + 1)).flatten = (ls.take i).flatten ++ ls[i] := by rw [List.take_succ_eq_append_getElem hi', List.flatten_append]; simp only [List.flatten_cons, List.flatten_nil, List.append_nil]
      rw [hfl, List.length_append] at hsl
      have hb : ls.length * 1000 ≤ 10000 := by omega
      generalize hd6 : σ 6 = d6 at hL hkk
      refine b4_append hL (fun k h => (hkk k h).2) trivial o1 (by omega) (by simp only [List.length_map]; omega) ?_
      intro d' m4 n4 q1 q2 q3 q4
      simp -dsimp [wi]
      refine ⟨i + 1, by omega, by omega, by simp, by simp [I], by simp [I], fun j hj => ?_, by omega, ?_, ?_⟩
      · rw [q4 j (by omega) (fun e => by have := hkk j e; omega), hf j hj]
      · intro k h
        have := q3 k (by simpa using h)
        refine ⟨?_, this.1⟩
        rcases this.2 with h' | h'
        · exact (hkk k h').1
        · omega
      · rw [hfl]; simpa using q1
    · have : i = ls.length := by omega
      subst this
      rw [List.take_length] at hL
      simp -dsimp [h25, h26, h27, I, hi]
      exact hq ⟨hL, hn, hkk, hf⟩
end Go.Proofs.Mv.App
open Go Go.Proofs Go.Proofs.Mv.V
set_option maxRecDepth 10000
namespace Go.Proofs.Mv.App
variable [GI]
def tyO (kind : Int) (pkg : List UInt8) (major : Int) (mod name : List UInt8) (NL SL : List (List D)) : V.Obj := ⟨7, [[I kind, S pkg, I major, S mod, S name, .sl 1 NL, .sl 7 SL]], 0⟩
structure FewInv (k : Nat) (M : Mem) (n0 : Nat) (subs : List Ty) (m0 : Int) (i : Nat) (σ : Nat → D) (m2 : Mem) (n2 : Nat) : Prop where
  h2 : σ 2 = .ptr k 0 0 0
  h1 : σ 1 = I (fewTs (subs.take i) m0)
  h5 : σ 5 = I i
  le : i ≤ subs.length
  mm : m2 = M
  nn : n2 = n0
set_option maxHeartbeats 1000000 in
theorem cFew {t : Ty} (ht : TyW t) : ∀ (most : Int) (m : Mem) (n : Nat), -1 ≤ most → most ≤ 100000 → ACalls Tryz.prog 91 [.agg (tyD t), I most] m n (fun d m' n' => d = I (fewT t most) ∧ m' = m ∧ n' = n) := by
  induction ht with
  | mk kind pkg major mod name names subs l1 l2 l3 l4 l5 l6 l7 ih =>
    intro most m n hm0 hm1
    refine acalls_done (R' := Hq (fun d m' n' => d = I (fewT (.mk kind pkg major mod name names subs) most) ∧ ∀ j, j < n → m' j = m j) tg) ?_ ?_
    · have fr : ∀ o j, j < n → (m.set n o) j = m j := fun o j hj => by rw [set_ne _ _ _ _ (by omega)]
      have hL1 : (names.map fun s => [S s]).length = names.length := by simp
      have hL2 : (tysD subs).length = subs.length := by rw [tysD_eq]; simp
      have hG2 : ∀ i (h : i < subs.length), (tysD subs)[i]? = some (tyD subs[i]) := fun i h => by rw [tysD_eq]; simp [h]
      have wm : IntKind.i64.wrap (most - 1) = most - 1 := wrap_i64 (by omega) (by omega)
      simp only [tyD, sl1, fewT]
      generalize (names.map fun s => [S s]) = NL at hL1
      generalize tysD subs = SL at hL2 hG2
      refine acalls_vc [0, 1, 2, 4, 5, 15, 24] Tryz.func91 Tryz.ntmps91 (by kernel_rfl) rfl rfl (by simp) ?_
      by_cases c1 : most - 1 < 0
      · rw [if_pos (.inl c1)]
        simp -dsimp [I, wm, c1]
        exact hq ⟨rfl, fr _⟩
      by_cases c2 : (200 : Int) < names.length
      · rw [if_pos (.inr (by omega))]
        simp -dsimp [I, wm, c1, c2, hL1]
        exact hq ⟨rfl, fr _⟩
      rw [if_neg (by omega)]
      simp -dsimp [I, wm, c1, c2, hL1]
      refine vloop_of (β := Nat) (FewInv n (m.set n (tyO kind pkg major mod name NL SL)) (n + 1) subs (most - 1)) (fun i => subs.length - i) 0 ⟨by simp, by simp [I, fewTs], by simp [I], by omega, rfl, rfl⟩ ?_
      rintro i σ m2 n2 ⟨h2, h1, h5, le, rfl, rfl⟩
      have hb := fewTs_le (subs.take i) (most - 1) (by omega)
      by_cases hi : (i : Int) < subs.length
      · have hi' : i < subs.length := by omega
        have wi : IntKind.i64.wrap ((i : Int) + 1) = (i : Int) + 1 := wrap_i64 (by omega) (by omega)
        have hiN : i < SL.length := by omega
        have hgi : SL[i] = tyD subs[i] := get_opt (hG2 i hi') hiN
        have hsn := fewTs_snoc (subs.take i) subs[i] (most - 1)
        rw [← take_snoc hi'] at hsn
        have hst := fewTs_stop (subs.take i) (subs.drop i) (most - 1)
        rw [List.take_append_drop] at hst
        generalize fewTs (subs.take i) (most - 1) = q at hb hsn hst h1
        by_cases c3 : 0 ≤ q
        · rw [if_pos c3] at hsn
          simp -dsimp [h1, h2, h5, I, hL2, hi, hi', c3, hiN, hgi, tyO]
          refine aCall_of (ih subs[i] (List.getElem_mem hi') q _ _ (by omega) (by omega)) ?_
          rintro d m' n' ⟨rfl, rfl, rfl⟩
          simp -dsimp [h1, h2, h5, I, wi]
          exact ⟨i + 1, by omega, by simp, by simp [I, hsn], by simp [I], by omega, rfl, rfl⟩
        · simp -dsimp [h1, h2, h5, I, hL2, hi, c3, tyO]
          exact hq ⟨by rw [hst (by omega)]; rfl, fr _⟩
      · have : subs.take i = subs := List.take_of_length_le (by omega)
        rw [this] at h1
        simp -dsimp [h1, h2, h5, I, hL2, hi, tyO]
        exact hq ⟨rfl, fr _⟩
    · rintro d m' n' ⟨rfl, h⟩
      exact ⟨_, (pur_I _).pub, h, rfl⟩
theorem cFewT {t : Ty} (ht : TyW t) (m : Mem) (n : Nat) : ACalls Tryz.prog 53 [.agg (tyD t)] m n (fun d m' n' => d = Tt (few3 t) ∧ m' = m ∧ n' = n) := by
  refine acalls_done (R' := Hq (fun d m' n' => d = Tt (few3 t) ∧ ∀ j, j < n → m' j = m j) tg) ?_ ?_
  · have h7 := tyD_len t
    have hc := fun m n => cFew ht 3000 m n (by omega) (by omega)
    generalize tyD t = TT at h7 hc
    have ht7 : List.take 7 TT = TT := List.take_of_length_le (by omega)
    refine acalls_vc [0, 1, 2] Tryz.func53 Tryz.ntmps53 (by kernel_rfl) rfl rfl (by simp) ?_
    simp -dsimp [h7, ht7]
    refine aCall_of (hc _ _) ?_
    rintro d m' n' ⟨rfl, rfl, rfl⟩
    simp -dsimp [I]
    exact hq ⟨by simp [Tt, few3], fun j hj => by rw [set_ne _ _ _ _ (by omega)]⟩
  · rintro d m' n' ⟨rfl, h⟩
    exact ⟨_, (pur_T _).pub, h, rfl⟩
structure ManyInv (k : Nat) (M : Mem) (n0 : Nat) (subs : List Ty) (f : List Ty → Nat) (c : Nat) (i : Nat) (σ : Nat → D) (m2 : Mem) (n2 : Nat) : Prop where
  h1 : σ 1 = .ptr k 0 0 0
  h3 : σ 3 = I (c + f (subs.take i))
  h4 : σ 4 = I i
  le : i ≤ subs.length
  mm : m2 = M
  nn : n2 = n0
end Go.Proofs.Mv.App
