/- A part of the proofs of the seat YtgekkmmmidgkbaaGreatDoor: the abstract machine, the contracts of the functions, the laws. No condition of its own. -/
import Derived.Test.YtgekkmmmidgkbaaGreatDoorMvD
import Derived.Test.YtgekkmmmidgkbaaGreatDoorFact
import Derived.Test.YtgekkmmmidgkbaaGreatDoorMvC
import Derived.Test.YtgekkmmmidgkbaaGreatDoorMvPc
set_option linter.unusedSimpArgs false
set_option linter.unusedVariables false
set_option linter.unusedSectionVars false
open Go Go.Proofs Go.Proofs.Mv.V
set_option maxRecDepth 10000
namespace Go.Proofs.Mv.App
variable [GI]
attribute [simp] Nat.testBit
/-! bytes -/
def byt (v : Int) : UInt8 := UInt8.ofNat (v % 256).toNat
theorem wrap_byt (v : Int) : Value.int .u8 (IntKind.u8.wrap v) = .int .u8 ((byt v).toNat : Int) := by
  congr 1
  simp only [byt, IntKind.wrap, IntKind.signed, IntKind.bits, Bool.false_eq_true, if_false]
  have h1 : 0 ≤ v % 256 := Int.emod_nonneg _ (by omega)
  have h2 : v % 256 < 256 := Int.emod_lt_of_pos _ (by omega)
  have h3 : (UInt8.ofNat (v % 256).toNat).toNat = (v % 256).toNat := by
    simp only [UInt8.toNat_ofNat']; omega
  rw [h3]
  rw [Int.toNat_of_nonneg h1]
  rfl
theorem bEnc_fold (b : UInt8) : [D.v (.int .u8 (b.toNat : Int))] = bEnc b := rfl
theorem unB_cons (b : UInt8) (r : List (List D)) : unB (bEnc b :: r) = b :: unB r := by simp [bEnc, unB]
theorem bEnc_len (b : UInt8) : (bEnc b).length = 1 := rfl
theorem bEnc_get (b : UInt8) : (bEnc b)[0]? = some (.v (.int .u8 (b.toNat : Int))) := rfl
theorem unB_nil : unB [] = [] := rfl
theorem i64_byte (b : UInt8) : IntKind.i64.wrap (b.toNat : Int) = b.toNat := wrap_i64 (by omega) (by have := b.toNat_lt; omega)
attribute [simp] wrap_byt bEnc_fold bEnc_len bEnc_get unB_cons unB_nil i64_byte unB_bEnc
theorem unB_bs (r : List UInt8) (a b : Nat) : unB (List.take a (List.drop b (List.map bEnc r))) = List.take a (List.drop b r) := by
  rw [← List.map_drop, ← List.map_take, unB_bEnc]
theorem unB_b (r : List UInt8) (a : Nat) : unB (List.take a (List.map bEnc r)) = List.take a r := by
  rw [← List.map_take, unB_bEnc]
@[simp] theorem unB_app (a : List UInt8) (r : List (List D)) : unB (List.map bEnc a ++ r) = a ++ unB r := by
  induction a with
  | nil => rfl
  | cons x a ih => simp [ih]
@[simp] theorem comp_idf {α β : Type} (f : α → β) : ((fun e => e) ∘ f) = f := rfl
theorem bits_i64 : IntKind.i64.bits = 64 := rfl
attribute [simp] unB_bs unB_b bits_i64
@[simp] theorem take_map_len {α γ : Type} (l : List α) (f : α → γ) : (l.map f).take l.length = l.map f := List.take_of_length_le (by simp)
@[simp] theorem nat_neg (q : Nat) : ((q : Int) < 0) = False := by simp
theorem get_opt {α : Type} {l : List α} {i : Nat} {a : α} (h : l[i]? = some a) (hi : i < l.length) : l[i] = a := by rw [List.getElem?_eq_getElem hi] at h; exact Option.some.inj h
/-! texts, lists of texts, bytes, errors -/
def S (s : List UInt8) : D := .v (.string (ofL s))
def sl1 (l : List (List UInt8)) : D := .sl 1 (l.map fun s => [S s])
def B (s : List UInt8) : D := .sl 1 (s.map bEnc)
def I (n : Int) : D := .v (.int .i64 n)
def Tt (b : Bool) : D := .v (.bool b)
def code (c : Int) : D := .iface 50 (.v (.int .i64 c))
def nilE : D := .v .nilIface
@[simp] theorem okD_S (s : List UInt8) : okD (S s) = true := (rfl)
@[simp] theorem cellsOf_S (s : List UInt8) : cellsOf (S s) = [S s] := (rfl)
@[simp] theorem kof_S (s : List UInt8) : kof (S s) = none := (rfl)
@[simp] theorem okD_B (s : List UInt8) : okD (B s) = true := (rfl)
@[simp] theorem cellsOf_B (s : List UInt8) : cellsOf (B s) = [B s] := (rfl)
@[simp] theorem kof_B (s : List UInt8) : kof (B s) = none := (rfl)
@[simp] theorem okD_sl1 (l : List (List UInt8)) : okD (sl1 l) = true := (rfl)
@[simp] theorem cellsOf_sl1 (l : List (List UInt8)) : cellsOf (sl1 l) = [sl1 l] := (rfl)
@[simp] theorem kof_sl1 (l : List (List UInt8)) : kof (sl1 l) = none := (rfl)
@[simp] theorem okD_I (n : Int) : okD (I n) = true := (rfl)
@[simp] theorem cellsOf_I (n : Int) : cellsOf (I n) = [I n] := (rfl)
@[simp] theorem kof_I (n : Int) : kof (I n) = none := (rfl)
@[simp] theorem okD_Tt (b : Bool) : okD (Tt b) = true := (rfl)
@[simp] theorem cellsOf_Tt (b : Bool) : cellsOf (Tt b) = [Tt b] := (rfl)
@[simp] theorem kof_Tt (b : Bool) : kof (Tt b) = none := (rfl)
@[simp] theorem okD_code (c : Int) : okD (code c) = true := (rfl)
@[simp] theorem cellsOf_code (c : Int) : cellsOf (code c) = [code c] := (rfl)
@[simp] theorem kof_code (c : Int) : kof (code c) = none := (rfl)
@[simp] theorem okD_nilE  : okD (nilE) = true := (rfl)
@[simp] theorem cellsOf_nilE  : cellsOf (nilE) = [nilE] := (rfl)
@[simp] theorem kof_nilE  : kof (nilE) = none := (rfl)
theorem pur_S (s : List UInt8) : Pur (S s) := Pur.v _
theorem pur_I (n : Int) : Pur (I n) := Pur.v _
theorem pur_T (n : Bool) : Pur (Tt n) := Pur.v _
theorem pur_code (c : Int) : Pur (code c) := Pur.iface (Pur.v _)
theorem pur_nilE : Pur nilE := Pur.v _
theorem pur_ss {l : List (List UInt8)} : ∀ e ∈ l.map (fun s => [S s]), ∀ d ∈ e, Pur d := by
  intro e he d hd
  obtain ⟨b, _, rfl⟩ := List.mem_map.1 he
  simp at hd; subst hd; exact Pur.v _
theorem pur_sl1 (l : List (List UInt8)) : Pur (sl1 l) := Pur.sl pur_ss
theorem pub_pair {n : Nat} {m : Mem} {a b a' b' : D} (h : PubAs n m a a') (h' : PubAs n m b b') : PubAs n m (.tup [a, b]) (.tup [a', b']) := .tup (.cons h (.cons h' .nil))
theorem pub_three {n : Nat} {m : Mem} {a b c a' b' c' : D} (h : PubAs n m a a') (h' : PubAs n m b b') (h'' : PubAs n m c c') : PubAs n m (.tup [a, b, c]) (.tup [a', b', c']) := .tup (.cons h (.cons h' (.cons h'' .nil)))
theorem pub_nil {n : Nat} {m : Mem} (z : Nat) : PubAs n m (.v (.slice none 0 0)) (.sl z []) := (Pur.v _).pub.le (Le_nil z)
/-- What reads as these bytes: read-only, or one's own. -/
def Rd (m : Mem) (z : Nat) (es : List (List D)) (d : D) : Prop := d = .sl z es ∨ Lst m z es d
theorem Rd.elems {m : Mem} {z : Nat} {es : List (List D)} {d : D} (h : Rd m z es d) : ∃ O : Prop, elemsOf m z d = some (O, es) ∧ O := by
  rcases h with rfl | h
  · exact elems_sl m z es
  · exact h.elems
theorem Rd.frame {m m' : Mem} {z : Nat} {es : List (List D)} {d : D} (h : Rd m z es d) (hf : ∀ k, kof d = some k → m' k = m k) : Rd m' z es d := by
  rcases h with h | h
  · exact .inl h
  · exact .inr (h.frame hf)
end Go.Proofs.Mv.App
open Go Go.Proofs Go.Proofs.Mv.V
set_option maxRecDepth 10000
namespace Go.Proofs.Mv.App
inductive Ty where
  | mk (kind : Int) (pkg : List UInt8) (major : Int) (mod name : List UInt8) (names : List (List UInt8)) (subs : List Ty)
instance : Inhabited Ty := ⟨.mk 0 [] 0 [] [] [] []⟩
def Ty0 : Ty := .mk 0 [] 0 [] [] [] []
mutual
def tyD [GI] : Ty → List D
  | .mk kind pkg major mod name names subs => [I kind, S pkg, I major, S mod, S name, sl1 names, .sl 7 (tysD subs)]
def tysD [GI] : List Ty → List (List D)
  | [] => []
  | t :: ts => tyD t :: tysD ts
end
section
variable [GI]
theorem tysD_eq : ∀ l : List Ty, tysD l = l.map tyD
  | [] => by simp [tysD]
  | t :: ts => by simp [tysD, tysD_eq ts]
@[simp] theorem tyD_len (t : Ty) : (tyD t).length = 7 := by cases t; simp [tyD]
@[simp] theorem tyD_take (t : Ty) : (tyD t).take 7 = tyD t := List.take_of_length_le (by simp)
mutual
theorem pur_ty : ∀ t : Ty, ∀ d ∈ tyD t, Pur d
  | .mk kind pkg major mod name names subs, d, hd => by
    simp only [tyD, List.mem_cons, List.not_mem_nil, or_false] at hd
    rcases hd with rfl | rfl | rfl | rfl | rfl | rfl | rfl
    · exact pur_I _
    · exact pur_S _
    · exact pur_I _
    · exact pur_S _
    · exact pur_S _
    · exact pur_sl1 _
    · exact Pur.sl (pur_tys subs)
theorem pur_tys : ∀ l : List Ty, ∀ e ∈ tysD l, ∀ d ∈ e, Pur d
  | [], e, he, _, _ => by simp [tysD] at he
  | t :: ts, e, he, d, hd => by
    simp only [tysD, List.mem_cons] at he
    rcases he with rfl | he
    · exact pur_ty t d hd
    · exact pur_tys ts e he d hd
end
theorem pur_tyA (t : Ty) : Pur (.agg (tyD t)) := Pur.agg (pur_ty t)
theorem pur_tym (l : List Ty) : ∀ e ∈ l.map tyD, ∀ d ∈ e, Pur d := by rw [← tysD_eq]; exact pur_tys l
theorem tyD_zero : tyD Ty0 = [I 0, S [], I 0, S [], S [], .sl 1 [], .sl 7 []] := by simp [Ty0, tyD, tysD, sl1]
end
end Go.Proofs.Mv.App
open Go Go.Proofs Go.Proofs.Mv.V
namespace Go.Proofs.Mv.App
namespace Ty
@[reducible] def kind : Ty → Int | .mk k _ _ _ _ _ _ => k
@[reducible] def pkg : Ty → List UInt8 | .mk _ p _ _ _ _ _ => p
@[reducible] def major : Ty → Int | .mk _ _ j _ _ _ _ => j
@[reducible] def mod : Ty → List UInt8 | .mk _ _ _ m _ _ _ => m
@[reducible] def name : Ty → List UInt8 | .mk _ _ _ _ n _ _ => n
@[reducible] def names : Ty → List (List UInt8) | .mk _ _ _ _ _ l _ => l
@[reducible] def subs : Ty → List Ty | .mk _ _ _ _ _ _ l => l
end Ty
mutual
def manyT : Ty → Nat
  | .mk _ _ _ _ _ _ subs => 1 + manyTs subs
def manyTs : List Ty → Nat
  | [] => 0
  | t :: ts => manyT t + manyTs ts
end
mutual
def deepT : Ty → Nat
  | .mk _ _ _ _ _ _ subs => deepTs subs + 1
def deepTs : List Ty → Nat
  | [] => 0
  | t :: ts => max (deepT t) (deepTs ts)
end
mutual
/-- How many more there may be; below 0: it has more. -/
def fewT : Ty → Int → Int
  | .mk _ _ _ _ _ names subs, most => if most - 1 < 0 ∨ 200 < names.length then -1 else fewTs subs (most - 1)
def fewTs : List Ty → Int → Int
  | [], most => most
  | t :: ts, most => if 0 ≤ most then fewTs ts (fewT t most) else most
end
theorem manyTs_eq : ∀ l : List Ty, manyTs l = (l.map manyT).sum
  | [] => by simp [manyTs]
  | t :: ts => by simp [manyTs, manyTs_eq ts]
theorem manyT_eq (t : Ty) : manyT t = 1 + (t.subs.map manyT).sum := by cases t; simp [manyT, manyTs_eq, Ty.subs]
theorem manyT_pos (t : Ty) : 1 ≤ manyT t := by rw [manyT_eq]; omega
theorem deepT_eq (t : Ty) : deepT t = deepTs t.subs + 1 := by cases t; simp [deepT, Ty.subs]
theorem deepTs_append : ∀ (l r : List Ty), deepTs (l ++ r) = max (deepTs l) (deepTs r)
  | [], r => by simp [deepTs]
  | t :: ts, r => by simp only [List.cons_append, deepTs, deepTs_append ts r]; omega
theorem manyTs_append : ∀ (l r : List Ty), manyTs (l ++ r) = manyTs l + manyTs r
  | [], r => by simp [manyTs]
  | t :: ts, r => by simp only [List.cons_append, manyTs, manyTs_append ts r]; omega
mutual
def sameT : Ty → Ty → Bool
  | .mk k p j m n ns ts, .mk k' p' j' m' n' ns' ts' => decide (k = k') && decide (p = p') && decide (j = j') && decide (m = m') && decide (n = n') && decide (ns = ns') && sameTs ts ts'
def sameTs : List Ty → List Ty → Bool
  | [], [] => true
  | t :: ts, u :: us => sameT t u && sameTs ts us
  | [], _ :: _ => false
  | _ :: _, [] => false
end
mutual
theorem sameT_iff : ∀ (t u : Ty), sameT t u = true ↔ t = u
  | .mk k p j m n ns ts, .mk k' p' j' m' n' ns' ts' => by
    simp only [sameT, Bool.and_eq_true, decide_eq_true_eq, sameTs_iff ts ts', Ty.mk.injEq]
    constructor
    · rintro ⟨⟨⟨⟨⟨⟨h1, h2⟩, h3⟩, h4⟩, h5⟩, h6⟩, h7⟩; exact ⟨h1, h2, h3, h4, h5, h6, h7⟩
    · rintro ⟨h1, h2, h3, h4, h5, h6, h7⟩; exact ⟨⟨⟨⟨⟨⟨h1, h2⟩, h3⟩, h4⟩, h5⟩, h6⟩, h7⟩
theorem sameTs_iff : ∀ (t u : List Ty), sameTs t u = true ↔ t = u
  | [], [] => by simp [sameTs]
  | t :: ts, u :: us => by simp only [sameTs, Bool.and_eq_true, sameT_iff t u, sameTs_iff ts us, List.cons.injEq]
  | [], _ :: _ => by simp [sameTs]
  | _ :: _, [] => by simp [sameTs]
end
instance : DecidableEq Ty := fun a b => decidable_of_iff (sameT a b = true) (sameT_iff a b)
/-- No list, and no text, is longer than a machine's. -/
inductive TyW : Ty → Prop where
  | mk (kind : Int) (pkg : List UInt8) (major : Int) (mod name : List UInt8) (names : List (List UInt8)) (subs : List Ty) (h1 : names.length ≤ 9223372036854775807) (h2 : subs.length ≤ 9223372036854775807)
      (h3 : pkg.length ≤ 9223372036854775807) (h4 : mod.length ≤ 9223372036854775807) (h5 : name.length ≤ 9223372036854775807) (h6 : ∀ s ∈ names, s.length ≤ 9223372036854775807) (h7 : ∀ t ∈ subs, TyW t) : TyW (.mk kind pkg major mod name names subs)
/-! few -/
theorem fewTs_neg : ∀ (l : List Ty) (m : Int), m < 0 → fewTs l m = m
  | [], m, _ => by simp [fewTs]
  | t :: ts, m, h => by simp only [fewTs]; rw [if_neg (by omega)]
mutual
theorem fewT_spec : ∀ (t : Ty) (m : Int), 0 ≤ fewT t m → fewT t m = m - manyT t
  | .mk _ _ _ _ _ names subs, m, h => by
    simp only [fewT] at h ⊢
    split at h
    · omega
    · rename_i e
      rw [if_neg e, fewTs_spec subs _ h]; simp only [manyT]; omega
theorem fewTs_spec : ∀ (l : List Ty) (m : Int), 0 ≤ fewTs l m → fewTs l m = m - manyTs l
  | [], m, h => by simp [fewTs, manyTs]
  | t :: ts, m, h => by
    simp only [fewTs] at h ⊢
    split at h
    · rename_i e
      rw [if_pos e]
      have h1 : 0 ≤ fewT t m := by
        rcases Int.lt_or_le (fewT t m) 0 with hn | hn
        · rw [fewTs_neg _ _ hn] at h; omega
        · exact hn
      rw [fewTs_spec ts _ h, fewT_spec t m h1]; simp only [manyTs]; omega
    · omega
end
mutual
theorem fewT_le : ∀ (t : Ty) (m : Int), -1 ≤ m → -1 ≤ fewT t m ∧ fewT t m ≤ max (m - 1) (-1)
  | .mk _ _ _ _ _ names subs, m, h => by
    simp only [fewT]
    split
    · omega
    · rename_i e
      have := fewTs_le subs (m - 1) (by omega); omega
theorem fewTs_le : ∀ (l : List Ty) (m : Int), -1 ≤ m → -1 ≤ fewTs l m ∧ fewTs l m ≤ m
  | [], m, h => by simp [fewTs]; exact h
  | t :: ts, m, h => by
    simp only [fewTs]
    split
    · have h1 := fewT_le t m h
      have h2 := fewTs_le ts (fewT t m) h1.1; omega
    · omega
end
theorem fewTs_snoc : ∀ (l : List Ty) (x : Ty) (m : Int), fewTs (l ++ [x]) m = if 0 ≤ fewTs l m then fewT x (fewTs l m) else fewTs l m
  | [], x, m => by by_cases h : 0 ≤ m <;> simp [fewTs, h]
  | t :: ts, x, m => by
    by_cases h : 0 ≤ m
    · simp only [List.cons_append, fewTs, if_pos h]; exact fewTs_snoc ts x _
    · simp only [List.cons_append, fewTs, if_neg h]
theorem fewTs_stop : ∀ (l r : List Ty) (m : Int), fewTs l m < 0 → fewTs (l ++ r) m = fewTs l m
  | [], r, m, h => by simp only [fewTs] at h; simp only [List.nil_append, fewTs]; exact fewTs_neg r m h
  | t :: ts, r, m, h => by
    simp only [List.cons_append, fewTs] at h ⊢
    split
    · rename_i e; rw [if_pos e] at h; exact fewTs_stop ts r _ h
    · rfl
def few3 (t : Ty) : Bool := decide (0 ≤ fewT t 3000)
mutual
theorem deep_many : ∀ t : Ty, deepT t ≤ manyT t
  | .mk _ _ _ _ _ _ subs => by simp only [deepT, manyT]; have := deeps_manys subs; omega
theorem deeps_manys : ∀ l : List Ty, deepTs l ≤ manyTs l
  | [] => by simp [deepTs]
  | t :: ts => by simp only [deepTs, manyTs]; have := deep_many t; have := deeps_manys ts; omega
end
theorem manyTs_snoc (l : List Ty) (x : Ty) : manyTs (l ++ [x]) = manyTs l + manyT x := by rw [manyTs_append]; simp [manyTs]
theorem deepTs_snoc (l : List Ty) (x : Ty) : deepTs (l ++ [x]) = max (deepTs l) (deepT x) := by rw [deepTs_append]; simp [deepTs]
theorem take_snoc {α : Type} {l : List α} {i : Nat} (h : i < l.length) : l.take (i + 1) = l.take i ++ [l[i]] := List.take_succ_eq_append_getElem h
theorem manyTs_take (l : List Ty) (i : Nat) : manyTs (l.take i) ≤ manyTs l := by
  have := manyTs_append (l.take i) (l.drop i); rw [List.take_append_drop] at this; omega
end Go.Proofs.Mv.App
open Go Go.Proofs Go.Proofs.Mv.V
set_option maxRecDepth 10000
namespace Go.Proofs.Mv.App
variable [GI]
/-- A type's cells, in one variable of one's own. -/
def tyO (kind : Int) (pkg : List UInt8) (major : Int) (mod name : List UInt8) (NL SL : List (List D)) : V.Obj := ⟨7, [[I kind, S pkg, I major, S mod, S name, .sl 1 NL, .sl 7 SL]], 0⟩
structure FewInv (k : Nat) (M : Mem) (n0 : Nat) (subs : List Ty) (m0 : Int) (i : Nat) (σ : Nat → D) (m2 : Mem) (n2 : Nat) : Prop where
  h2 : σ 2 = .ptr k 0 0 0
  h1 : σ 1 = I (fewTs (subs.take i) m0)
  h5 : σ 5 = I i
  le : i ≤ subs.length
  mm : m2 = M
  nn : n2 = n0
set_option maxHeartbeats 1000000 in
theorem cFew {t : Ty} (ht : TyW t) : ∀ (most : Int) (m : Mem) (n : Nat), -1 ≤ most → most ≤ 100000 → ACalls Tryz.prog 28 [.agg (tyD t), I most] m n (fun d m' n' => d = I (fewT t most) ∧ m' = m ∧ n' = n) := by
  induction ht with
  | mk kind pkg major mod name names subs l1 l2 l3 l4 l5 l6 l7 ih =>
    intro most m n hm0 hm1
    refine acalls_done (R' := Hq (fun d m' n' => d = I (fewT (.mk kind pkg major mod name names subs) most) ∧ ∀ j, j < n → m' j = m j) tg) ?_ ?_
    · have fr : ∀ o j, j < n → (m.set n o) j = m j := fun o j hj => by rw [set_ne _ _ _ _ (by omega)]
      have hL1 : (names.map fun s => [S s]).length = names.length := by simp
      have hL2 : (tysD subs).length = subs.length := by rw [tysD_eq]; simp
      have hG2 : ∀ i (h : i < subs.length), (tysD subs)[i]? = some (tyD subs[i]) := fun i h => by rw [tysD_eq]; simp [h]
      have wm : IntKind.i64.wrap (most - 1) = most - 1 := wrap_i64 (by omega) (by omega)
      simp only [tyD, sl1, fewT]
      generalize (names.map fun s => [S s]) = NL at hL1
      generalize tysD subs = SL at hL2 hG2
      refine acalls_vc [0, 1, 2, 4, 5, 15, 24] Tryz.func28 Tryz.ntmps28 (by kernel_rfl) rfl rfl (by simp) ?_
      by_cases c1 : most - 1 < 0
      · rw [if_pos (.inl c1)]
        simp -dsimp [I, wm, c1]
        exact hq ⟨rfl, fr _⟩
      by_cases c2 : (200 : Int) < names.length
      · rw [if_pos (.inr (by omega))]
        simp -dsimp [I, wm, c1, c2, hL1]
        exact hq ⟨rfl, fr _⟩
      rw [if_neg (by omega)]
      simp -dsimp [I, wm, c1, c2, hL1]
      refine vloop_of (β := Nat) (FewInv n (m.set n (tyO kind pkg major mod name NL SL)) (n + 1) subs (most - 1)) (fun i => subs.length - i) 0 ⟨by simp, by simp [I, fewTs], by simp [I], by omega, rfl, rfl⟩ ?_
      rintro i σ m2 n2 ⟨h2, h1, h5, le, rfl, rfl⟩
      have hb := fewTs_le (subs.take i) (most - 1) (by omega)
      by_cases hi : (i : Int) < subs.length
      · have hi' : i < subs.length := by omega
        have wi : IntKind.i64.wrap ((i : Int) + 1) = (i : Int) + 1 := wrap_i64 (by omega) (by omega)
        have hiN : i < SL.length := by omega
        have hgi : SL[i] = tyD subs[i] := get_opt (hG2 i hi') hiN
        have hsn := fewTs_snoc (subs.take i) subs[i] (most - 1)
        rw [← take_snoc hi'] at hsn
        have hst := fewTs_stop (subs.take i) (subs.drop i) (most - 1)
        rw [List.take_append_drop] at hst
        generalize fewTs (subs.take i) (most - 1) = q at hb hsn hst h1
        by_cases c3 : 0 ≤ q
        · rw [if_pos c3] at hsn
          simp -dsimp [h1, h2, h5, I, hL2, hi, hi', c3, hiN, hgi, tyO]
          refine aCall_of (ih subs[i] (List.getElem_mem hi') q _ _ (by omega) (by omega)) ?_
          rintro d m' n' ⟨rfl, rfl, rfl⟩
          simp -dsimp [h1, h2, h5, I, wi]
          exact ⟨i + 1, by omega, by simp, by simp [I, hsn], by simp [I], by omega, rfl, rfl⟩
        · simp -dsimp [h1, h2, h5, I, hL2, hi, c3, tyO]
          exact hq ⟨by rw [hst (by omega)]; rfl, fr _⟩
      · have : subs.take i = subs := List.take_of_length_le (by omega)
        rw [this] at h1
        simp -dsimp [h1, h2, h5, I, hL2, hi, tyO]
        exact hq ⟨rfl, fr _⟩
    · rintro d m' n' ⟨rfl, h⟩
      exact ⟨_, (pur_I _).pub, h, rfl⟩
theorem cFewT {t : Ty} (ht : TyW t) (m : Mem) (n : Nat) : ACalls Tryz.prog 13 [.agg (tyD t)] m n (fun d m' n' => d = Tt (few3 t) ∧ m' = m ∧ n' = n) := by
  refine acalls_done (R' := Hq (fun d m' n' => d = Tt (few3 t) ∧ ∀ j, j < n → m' j = m j) tg) ?_ ?_
  · have h7 := tyD_len t
    have hc := fun m n => cFew ht 3000 m n (by omega) (by omega)
    generalize tyD t = TT at h7 hc
    have ht7 : List.take 7 TT = TT := List.take_of_length_le (by omega)
    refine acalls_vc [0, 1, 2] Tryz.func13 Tryz.ntmps13 (by kernel_rfl) rfl rfl (by simp) ?_
    simp -dsimp [h7, ht7]
    refine aCall_of (hc _ _) ?_
    rintro d m' n' ⟨rfl, rfl, rfl⟩
    simp -dsimp [I]
    exact hq ⟨by simp [Tt, few3], fun j hj => by rw [set_ne _ _ _ _ (by omega)]⟩
  · rintro d m' n' ⟨rfl, h⟩
    exact ⟨_, (pur_T _).pub, h, rfl⟩
structure ManyInv (k : Nat) (M : Mem) (n0 : Nat) (subs : List Ty) (f : List Ty → Nat) (c : Nat) (i : Nat) (σ : Nat → D) (m2 : Mem) (n2 : Nat) : Prop where
  h1 : σ 1 = .ptr k 0 0 0
  h3 : σ 3 = I (c + f (subs.take i))
  h4 : σ 4 = I i
  le : i ≤ subs.length
  mm : m2 = M
  nn : n2 = n0
theorem manyTs_pre (l : List Ty) {i : Nat} (h : i < l.length) : manyTs (l.take i) + manyT l[i] ≤ manyTs l := by
  rw [← manyTs_snoc, ← take_snoc h]; exact manyTs_take l (i + 1)
set_option maxHeartbeats 1000000 in
theorem cMany {t : Ty} (ht : TyW t) : ∀ (m : Mem) (n : Nat), manyT t ≤ 1000000 → ACalls Tryz.prog 71 [.agg (tyD t)] m n (fun d m' n' => d = I (manyT t) ∧ m' = m ∧ n' = n) := by
  induction ht with
  | mk kind pkg major mod name names subs l1 l2 l3 l4 l5 l6 l7 ih =>
    intro m n hbig
    simp only [manyT] at hbig
    refine acalls_done (R' := Hq (fun d m' n' => d = I (manyT (.mk kind pkg major mod name names subs)) ∧ ∀ j, j < n → m' j = m j) tg) ?_ ?_
    · have fr : ∀ o j, j < n → (m.set n o) j = m j := fun o j hj => by rw [set_ne _ _ _ _ (by omega)]
      have hL2 : (tysD subs).length = subs.length := by rw [tysD_eq]; simp
      have hG2 : ∀ i (h : i < subs.length), (tysD subs)[i]? = some (tyD subs[i]) := fun i h => by rw [tysD_eq]; simp [h]
      simp only [tyD, sl1, manyT]
      generalize (names.map fun s => [S s]) = NL
      generalize tysD subs = SL at hL2 hG2
      refine acalls_vc [0, 1, 2, 3, 4, 9] Tryz.func71 Tryz.ntmps71 (by kernel_rfl) rfl rfl (by simp) ?_
      simp -dsimp [I]
      refine vloop_of (β := Nat) (ManyInv n (m.set n (tyO kind pkg major mod name NL SL)) (n + 1) subs manyTs 1) (fun i => subs.length - i) 0 ⟨by simp, by simp [I, manyTs], by simp [I], by omega, rfl, rfl⟩ ?_
      rintro i σ m2 n2 ⟨h1, h3, h4, le, rfl, rfl⟩
      by_cases hi : (i : Int) < subs.length
      · have hi' : i < subs.length := by omega
        have wi : IntKind.i64.wrap ((i : Int) + 1) = (i : Int) + 1 := wrap_i64 (by omega) (by omega)
        have hiN : i < SL.length := by omega
        have hgi : SL[i] = tyD subs[i] := get_opt (hG2 i hi') hiN
        have hp := manyTs_pre subs hi'
        have hsn := manyTs_snoc (subs.take i) subs[i]
        rw [← take_snoc hi'] at hsn
        generalize manyTs (subs.take i) = q at hp hsn h3
        have ws : IntKind.i64.wrap ((1 : Int) + q + manyT subs[i]) = (1 : Int) + q + manyT subs[i] := wrap_i64 (by omega) (by omega)
        simp -dsimp [h1, h3, h4, I, hL2, hi, hi', hiN, hgi, tyO]
        refine aCall_of (ih subs[i] (List.getElem_mem hi') _ _ (by omega)) ?_
        rintro d m' n' ⟨rfl, rfl, rfl⟩
        simp -dsimp [h1, h3, h4, I, wi, ws]
        exact ⟨i + 1, by omega, by simp, by simp [I, hsn]; omega, by simp [I], by omega, rfl, rfl⟩
      · have : subs.take i = subs := List.take_of_length_le (by omega)
        rw [this] at h3
        simp -dsimp [h1, h3, h4, I, hL2, hi, tyO]
        exact hq ⟨by simp [I], fr _⟩
    · rintro d m' n' ⟨rfl, h⟩
      exact ⟨_, (pur_I _).pub, h, rfl⟩
set_option maxHeartbeats 1000000 in
theorem cDeep {t : Ty} (ht : TyW t) : ∀ (m : Mem) (n : Nat), manyT t ≤ 1000000 → ACalls Tryz.prog 72 [.agg (tyD t)] m n (fun d m' n' => d = I (deepT t) ∧ m' = m ∧ n' = n) := by
  induction ht with
  | mk kind pkg major mod name names subs l1 l2 l3 l4 l5 l6 l7 ih =>
    intro m n hbig
    simp only [manyT] at hbig
    refine acalls_done (R' := Hq (fun d m' n' => d = I (deepT (.mk kind pkg major mod name names subs)) ∧ ∀ j, j < n → m' j = m j) tg) ?_ ?_
    · have fr : ∀ o j, j < n → (m.set n o) j = m j := fun o j hj => by rw [set_ne _ _ _ _ (by omega)]
      have hL2 : (tysD subs).length = subs.length := by rw [tysD_eq]; simp
      have hG2 : ∀ i (h : i < subs.length), (tysD subs)[i]? = some (tyD subs[i]) := fun i h => by rw [tysD_eq]; simp [h]
      have hdm := deeps_manys subs
      simp only [tyD, sl1, deepT]
      generalize (names.map fun s => [S s]) = NL
      generalize tysD subs = SL at hL2 hG2
      refine acalls_vc [0, 1, 2, 3, 4, 5, 10, 21] Tryz.func72 Tryz.ntmps72 (by kernel_rfl) rfl rfl (by simp) ?_
      simp -dsimp [I]
      refine vloop_of (β := Nat) (ManyInv n (m.set n (tyO kind pkg major mod name NL SL)) (n + 1) subs deepTs 0) (fun i => subs.length - i) 0 ⟨by simp, by simp [I, deepTs], by simp [I], by omega, rfl, rfl⟩ ?_
      rintro i σ m2 n2 ⟨h1, h3, h4, le, rfl, rfl⟩
      by_cases hi : (i : Int) < subs.length
      · have hi' : i < subs.length := by omega
        have wi : IntKind.i64.wrap ((i : Int) + 1) = (i : Int) + 1 := wrap_i64 (by omega) (by omega)
        have hiN : i < SL.length := by omega
        have hgi : SL[i] = tyD subs[i] := get_opt (hG2 i hi') hiN
        have hp := manyTs_pre subs hi'
        have hsn := deepTs_snoc (subs.take i) subs[i]
        rw [← take_snoc hi'] at hsn
        generalize deepTs (subs.take i) = q at hsn h3
        simp -dsimp [h1, h3, h4, I, hL2, hi, hi', hiN, hgi, tyO]
        refine aCall_of (ih subs[i] (List.getElem_mem hi') _ _ (by omega)) ?_
        rintro d m' n' ⟨rfl, rfl, rfl⟩
        by_cases c : (q : Int) < deepT subs[i]
        · have c' : q < deepT subs[i] := by omega
          simp -dsimp [h1, h3, h4, I, wi, c, c']
          exact ⟨i + 1, by omega, by simp, by simp [I, hsn]; omega, by simp [I], by omega, rfl, rfl⟩
        · have c' : ¬ q < deepT subs[i] := by omega
          simp -dsimp [h1, h3, h4, I, wi, c, c']
          exact ⟨i + 1, by omega, by simp, by simp [I, hsn]; omega, by simp [I], by omega, rfl, rfl⟩
      · have : subs.take i = subs := List.take_of_length_le (by omega)
        rw [this] at h3
        have ws : IntKind.i64.wrap ((deepTs subs : Int) + 1) = (deepTs subs : Int) + 1 := wrap_i64 (by omega) (by omega)
        simp -dsimp [h1, h3, h4, I, hL2, hi, tyO, ws]
        exact hq ⟨by simp [I], fr _⟩
    · rintro d m' n' ⟨rfl, h⟩
      exact ⟨_, (pur_I _).pub, h, rfl⟩
end Go.Proofs.Mv.App
open Go Go.Proofs Go.Proofs.Mv.V
set_option maxRecDepth 10000
namespace Go.Proofs.Mv.App
variable [GI]
set_option maxHeartbeats 4000000 in
theorem cSameT {a : Ty} (ha : TyW a) : ∀ {b : Ty}, Pc Tryz.prog 37 [.agg (tyD a), .agg (tyD b)] (Tt (sameT a b)) := by
  induction ha with
  | mk kind pkg major mod name names subs l1 l2 l3 l4 l5 l6 l7 ih =>
    intro b
    obtain ⟨kind', pkg', major', mod', name', names', subs'⟩ := b
    refine pc_of (pur_T _) (fun m n => ?_)
    have nn1 : n ≠ n + 1 := by omega
    have n1n : n + 1 ≠ n := by omega
    have fr : ∀ o o' j, j < n → ((m.set n o).set (n + 1) o') j = m j := fun o o' j hj => by rw [set_ne _ _ _ _ (by omega), set_ne _ _ _ _ (by omega)]
    have hL1 : (names.map fun s => [S s]).length = names.length := by simp
    have hG1 : ∀ i (h : i < names.length), (names.map fun s => [S s])[i]? = some [S names[i]] := fun i h => by simp [h]
    have hL1' : (names'.map fun s => [S s]).length = names'.length := by simp
    have hG1' : ∀ i (h : i < names'.length), (names'.map fun s => [S s])[i]? = some [S names'[i]] := fun i h => by simp [h]
    have hL2 : (tysD subs).length = subs.length := by rw [tysD_eq]; simp
    have hG2 : ∀ i (h : i < subs.length), (tysD subs)[i]? = some (tyD subs[i]) := fun i h => by rw [tysD_eq]; simp [h]
    have hL2' : (tysD subs').length = subs'.length := by rw [tysD_eq]; simp
    have hG2' : ∀ i (h : i < subs'.length), (tysD subs')[i]? = some (tyD subs'[i]) := fun i h => by rw [tysD_eq]; simp [h]
    have hno : ¬ (kind = kind' ∧ pkg = pkg' ∧ major = major' ∧ mod = mod' ∧ name = name' ∧ names = names' ∧ subs = subs') → sameT (.mk kind pkg major mod name names subs) (.mk kind' pkg' major' mod' name' names' subs') = false := fun h => by
      cases e : sameT (.mk kind pkg major mod name names subs) (.mk kind' pkg' major' mod' name' names' subs')
      · rfl
      · exact absurd (by simpa using (sameT_iff _ _).1 e) h
    have hyes : (kind = kind' ∧ pkg = pkg' ∧ major = major' ∧ mod = mod' ∧ name = name' ∧ names = names' ∧ subs = subs') → sameT (.mk kind pkg major mod name names subs) (.mk kind' pkg' major' mod' name' names' subs') = true := fun h => by
      rw [sameT_iff]; simpa using h
    generalize sameT (.mk kind pkg major mod name names subs) (.mk kind' pkg' major' mod' name' names' subs') = R at hno hyes
    simp only [tyD, sl1]
    generalize (names.map fun s => [S s]) = NL at hL1 hG1
    generalize (names'.map fun s => [S s]) = NL' at hL1' hG1'
    generalize tysD subs = SL at hL2 hG2
    generalize tysD subs' = SL' at hL2' hG2'
    refine acalls_vc [0, 1, 2, 3, 4, 5, 6, 7, 58, 63, 76, 81, 96] Tryz.func37 Tryz.ntmps37 (by kernel_rfl) rfl rfl (by simp) ?_
    by_cases c1 : kind = kind'
    · subst c1
      by_cases c2 : pkg = pkg'
      · subst c2
        by_cases c3 : major = major'
        · subst c3
          by_cases c4 : mod = mod'
          · subst c4
            by_cases c5 : name = name'
            · subst c5
              by_cases c6 : names.length = names'.length
              · have c6' : (names.length : Int) = names'.length := by omega
                by_cases c7 : subs.length = subs'.length
                · have c7' : (subs.length : Int) = subs'.length := by omega
                  simp -dsimp [I, S, Tt, set_ne, nn1, n1n, hL1, hL2, hL1', hL2', c6', c7']
                  refine vloop_as (β := Nat) (fun i => [(2, .ptr n 0 0 0), (3, .ptr (n + 1) 0 0 0), (5, I i)]) (fun i m2 n2 => m2 = (m.set n (tyO kind pkg major mod name NL SL)).set (n + 1) (tyO kind pkg major mod name NL' SL') ∧ n2 = n + 1 + 1 ∧ i ≤ names.length ∧ names.take i = names'.take i) (fun i => names.length - i) 0 (by simp [I]) ⟨rfl, rfl, by omega, by simp⟩ ?_
                  rintro i m2 n2 ⟨rfl, rfl, le, heq⟩
                  by_cases hi : (i : Int) < names.length
                  · have hi' : i < names.length := by omega
                    have hi2 : i < names'.length := by omega
                    have wi : IntKind.i64.wrap ((i : Int) + 1) = (i : Int) + 1 := wrap_i64 (by omega) (by omega)
                    have hiN : i < NL.length := by omega
                    have hgi : NL[i] = [S names[i]] := get_opt (hG1 i hi') hiN
                    have hiN' : i < NL'.length := by omega
                    have hgi' : NL'[i] = [S names'[i]] := get_opt (hG1' i hi2) hiN'
                    have hi3 : (i : Int) < names'.length := by omega
                    simp -dsimp [I, S, Tt, set_ne, nn1, n1n, hL1, hL2, hL1', hL2', hi, hi', hi2, hi3, c6', tyO]
                    refine vdraw_of [0, 1, 0, 7, 15, 0, 32, 0, 224, 480, 1023] [0, 1, 2, 3, 4, 5, 6, 7, 8, 9, 10] (by kernel_rfl) (by kernel_rfl) ?_
                    by_cases ce : names[i] = names'[i]
                    · have ce' : (names[i] == names'[i]) = true := by simpa using ce
                      simp -dsimp [I, S, Tt, set_ne, nn1, n1n, hL1, hL2, hL1', hL2', hi, hi', hi2, hi3, hiN, hgi, hiN', hgi', wi, ce', c6']
                      refine rnd (i + 1) (by omega) (by simp [I]) ⟨rfl, rfl, by omega, ?_⟩
                      rw [List.take_succ_eq_append_getElem hi', List.take_succ_eq_append_getElem hi2, heq, ce]
                    · have ce' : (names[i] == names'[i]) = false := by simpa using ce
                      rw [hno (fun h => ce (by have := h.2.2.2.2.2.1; subst this; rfl))]
                      simp -dsimp [I, S, Tt, set_ne, nn1, n1n, hL1, hL2, hL1', hL2', hi, hi', hi2, hi3, hiN, hgi, hiN', hgi', wi, ce', c6']
                      exact pcq rfl (fr _ _)
                  · have e1 : names.take i = names := List.take_of_length_le (by omega)
                    have e2 : names'.take i = names' := List.take_of_length_le (by omega)
                    rw [e1, e2] at heq
                    have hi3 : ¬ (i : Int) < names'.length := by omega
                    have hi4 : ¬ i < names'.length := by omega
                    simp -dsimp [I, S, Tt, set_ne, nn1, n1n, hL1, hL2, hL1', hL2', hi, hi3, hi4, c6', tyO]
                    refine vloop_as (β := Nat) (fun i => [(2, .ptr n 0 0 0), (3, .ptr (n + 1) 0 0 0), (6, I i)]) (fun i m2 n2 => m2 = (m.set n (tyO kind pkg major mod name NL SL)).set (n + 1) (tyO kind pkg major mod name NL' SL') ∧ n2 = n + 1 + 1 ∧ i ≤ subs.length ∧ subs.take i = subs'.take i) (fun i => subs.length - i) 0 (by simp [I]) ⟨rfl, rfl, by omega, by simp⟩ ?_
                    rintro i m2 n2 ⟨rfl, rfl, le, heq2⟩
                    by_cases hi : (i : Int) < subs.length
                    · have hi' : i < subs.length := by omega
                      have hi2 : i < subs'.length := by omega
                      have hi3 : (i : Int) < subs'.length := by omega
                      have wi : IntKind.i64.wrap ((i : Int) + 1) = (i : Int) + 1 := wrap_i64 (by omega) (by omega)
                      have hiN : i < SL.length := by omega
                      have hgi : SL[i] = tyD subs[i] := get_opt (hG2 i hi') hiN
                      have hiN' : i < SL'.length := by omega
                      have hgi' : SL'[i] = tyD subs'[i] := get_opt (hG2' i hi2) hiN'
                      simp -dsimp [I, S, Tt, set_ne, nn1, n1n, hL1, hL2, hL1', hL2', hi, hi', hi2, hi3, c7', tyO]
                      refine vdraw_of [0, 1, 0, 7, 15, 0, 32, 0, 224, 480, 1023, 2047] [0, 1, 2, 3, 4, 5, 6, 7, 8, 9, 10, 11] (by kernel_rfl) (by kernel_rfl) ?_
                      simp -dsimp [I, S, Tt, set_ne, nn1, n1n, hL1, hL2, hL1', hL2', hi, hi', hi2, hi3, hiN, hgi, hiN', hgi', wi, c7']
                      refine pcall (ih subs[i] (List.getElem_mem hi') (b := subs'[i])) ?_
                      cases ce : sameT subs[i] subs'[i]
                      · rw [hno (fun h => by
                          have h2 := h.2.2.2.2.2.2
                          subst h2
                          rw [(sameT_iff _ _).2 rfl] at ce; cases ce)]
                        simp -dsimp [I, S, Tt, set_ne, nn1, n1n]
                        exact pcq rfl (fr _ _)
                      · simp -dsimp [I, S, Tt, set_ne, nn1, n1n, wi]
                        refine rnd (i + 1) (by omega) (by simp [I]) ⟨rfl, rfl, by omega, ?_⟩
                        rw [List.take_succ_eq_append_getElem hi', List.take_succ_eq_append_getElem hi2, heq2, (sameT_iff _ _).1 ce]
                    · have e1 : subs.take i = subs := List.take_of_length_le (by omega)
                      have e2 : subs'.take i = subs' := List.take_of_length_le (by omega)
                      rw [e1, e2] at heq2
                      rw [hyes ⟨rfl, rfl, rfl, rfl, rfl, heq, heq2⟩]
                      have hi3 : ¬ (i : Int) < subs'.length := by omega
                      have hi4 : ¬ i < subs'.length := by omega
                      simp -dsimp [I, S, Tt, set_ne, nn1, n1n, hL1, hL2, hL1', hL2', hi, hi3, hi4, c7', tyO]
                      exact pcq rfl (fr _ _)
                · have d7 : ((subs.length : Int) == subs'.length) = false := by rw [beq_eq_false_iff_ne]; omega
                  have d7' : ((subs.length : Int) != subs'.length) = true := by rw [bne_iff_ne]; omega
                  rw [hno (fun h => c7 (by rw [h.2.2.2.2.2.2]))]
                  simp -dsimp [I, S, Tt, set_ne, nn1, n1n, hL1, hL2, hL1', hL2', c6', d7, d7']
                  exact pcq rfl (fr _ _)
              · have d6 : ((names.length : Int) == names'.length) = false := by rw [beq_eq_false_iff_ne]; omega
                have d6' : ((names.length : Int) != names'.length) = true := by rw [bne_iff_ne]; omega
                rw [hno (fun h => c6 (by rw [h.2.2.2.2.2.1]))]
                simp -dsimp [I, S, Tt, set_ne, nn1, n1n, hL1, hL2, hL1', hL2', d6, d6']
                exact pcq rfl (fr _ _)
            · have d5 : (name == name') = false := by simpa using c5
              rw [hno (fun h => c5 h.2.2.2.2.1)]
              simp -dsimp [I, S, Tt, set_ne, nn1, n1n, hL1, hL2, hL1', hL2', d5]
              exact pcq rfl (fr _ _)
          · have d4 : (mod == mod') = false := by simpa using c4
            rw [hno (fun h => c4 h.2.2.2.1)]
            simp -dsimp [I, S, Tt, set_ne, nn1, n1n, hL1, hL2, hL1', hL2', d4]
            exact pcq rfl (fr _ _)
        · have d3 : (major != major') = true := by simpa using c3
          rw [hno (fun h => c3 h.2.2.1)]
          simp -dsimp [I, S, Tt, set_ne, nn1, n1n, hL1, hL2, hL1', hL2', c3, d3]
          exact pcq rfl (fr _ _)
      · have d2 : (pkg == pkg') = false := by simpa using c2
        rw [hno (fun h => c2 h.2.1)]
        simp -dsimp [I, S, Tt, set_ne, nn1, n1n, hL1, hL2, hL1', hL2', d2]
        exact pcq rfl (fr _ _)
    · have d1 : (kind != kind') = true := by simpa using c1
      rw [hno (fun h => c1 h.1)]
      simp -dsimp [I, S, Tt, set_ne, nn1, n1n, hL1, hL2, hL1', hL2', c1, d1]
      exact pcq rfl (fr _ _)
end Go.Proofs.Mv.App
open Go Go.Proofs Go.Proofs.Mv.V
namespace Go.Proofs.Mv.App
/-- The place of the first that fits; below 0: none. -/
def findI {α : Type} (q : α → Bool) : List α → Int
  | [] => -1
  | x :: l => if q x then 0 else if findI q l < 0 then -1 else findI q l + 1
theorem findI_le {α : Type} (q : α → Bool) : ∀ l : List α, -1 ≤ findI q l
  | [] => by simp [findI]
  | x :: l => by
    have := findI_le q l
    simp only [findI]; split
    · omega
    · split <;> omega
theorem findI_no {α : Type} {q : α → Bool} : ∀ {l : List α}, (∀ x ∈ l, q x = false) → findI q l = -1
  | [], _ => rfl
  | x :: l, h => by
    have h1 := h x (by simp)
    have h2 := findI_no (l := l) fun y hy => h y (by simp [hy])
    simp [findI, h1, h2]
theorem findI_hit {α : Type} {q : α → Bool} : ∀ {l : List α} {i : Nat} (hi : i < l.length), q l[i] = true → (∀ x ∈ l.take i, q x = false) → findI q l = i
  | x :: l, 0, _, h, _ => by simp at h; simp [findI, h]
  | x :: l, i + 1, hi, h, hn => by
    have h1 := hn x (by simp)
    have h2 := findI_hit (l := l) (i := i) (by simpa using hi) (by simpa using h) fun y hy => hn y (by simp [hy])
    have h3 : ¬ ((i : Int) < 0) := by omega
    simp [findI, h1, h2, h3]
theorem findI_any {α : Type} (q : α → Bool) : ∀ l : List α, 0 ≤ findI q l ↔ l.any q = true
  | [] => by simp [findI]
  | x :: l => by
    have ih := findI_any q l
    have hle := findI_le q l
    simp only [findI, List.any_cons, Bool.or_eq_true]
    by_cases e : q x = true
    · simp [e]
    · rw [if_neg e]
      have h0 : q x = true ↔ False := ⟨e, False.elim⟩
      rw [h0, false_or, ← ih]
      by_cases h : findI q l < 0
      · rw [if_pos h]; omega
      · rw [if_neg h]; omega
end Go.Proofs.Mv.App
