/- A part of the proofs: machine, contracts, laws. No condition of its own. -/
import Derived.Orders
import Derived.Tactics
import Derived.RowKit3
import Derived.WideLaws
import Derived.Laws.BytesString
import Derived.Laws.StructEq
set_option linter.unusedSimpArgs false
set_option linter.unusedVariables false
set_option linter.unusedSectionVars false
namespace Go.Proofs.Mv.V


def oneC : Value → Bool
 | .agg _ | .tuple _ => false
 | _ => true

inductive D where
 | v (x : Value)
 | any
 | ptr (k g i j : Nat)
 | rptr (t : Option (Nat × Nat)) (cs : List D)
 | sl (z : Nat) (es : List (List D))
 | own (k g o n z : Nat)
 | mt
 | bb
 | iface (t : TypeId) (x : D)
 | func (fn : Fn) (fs cs : List D)
 | agg (cs : List D)
 | tup (cs : List D)

instance : Inhabited D := ⟨.any⟩

structure Obj where
 z : Nat
 es : List (List D)
 g : Nat

abbrev Mem := Nat → Option Obj
def Mem.set (m : Mem) (k : Nat) (o : Obj) : Mem := fun j => if j = k then some o else m j

structure Loc where
 b : Nat
 g : Nat
 z : Nat

abbrev Nu := Nat → Option Loc

mutual
def Con (w : World) (ν : Nu) (F : Nat → Prop) : D → Value → Prop
 | .v x, y => y = x
 | .any, _ => True
 | .ptr k g i j, y => ∃ l b o, ν k = some l ∧ g ≤ l.g ∧ y = .pointer (some ⟨b, o, none⟩) ∧ (l.g = g → b = l.b ∧ o = i * l.z + j)
 | .rptr t cs, y => ∃ b o, y = .pointer (some ⟨b, o, none⟩) ∧ F b ∧ (t = none ∨ t = some (b, o)) ∧ ConCs w ν F cs b o
 | .sl z es, y => (∃ b o c, y = .slice (some ⟨b, o, none⟩) es.length c ∧ es.length ≤ c ∧ F b ∧ ConEs w ν F z es b o) ∨ (es = [] ∧ ∃ a, y = .slice a 0 0)
 | .own k g o n z, y => ∃ l b off c, ν k = some l ∧ g ≤ l.g ∧ l.z = z ∧ y = .slice (some ⟨b, off, none⟩) n c ∧ n ≤ c ∧ (l.g = g → b = l.b ∧
   (off = o * z ∨ c = 0) ∧ ∃ arr e f, w.heap[b]? = some (.cells arr e f) ∧ off + c * z ≤ arr.size)
 | .mt, y => ∃ a : Option Addr, y = .slice a 0 0
 | .bb, y => ∃ b : Bool, y = .bool b
 | .iface t d, y => ∃ y', y = .iface t y' ∧ Con w ν F d y'
 | .func fn fs cs, y => ∃ ys zs, y = .func fn ys zs ∧ ConVs w ν F fs ys.toList ∧ ConVs w ν F cs zs.toList
 | .agg cs, y => ∃ ys, y = .agg ys ∧ ConVs w ν F cs ys.toList ∧ ∀ x ∈ ys.toList, oneC x = true
 | .tup cs, y => ∃ ys, y = .tuple ys ∧ ConVs w ν F cs ys.toList
def ConVs (w : World) (ν : Nu) (F : Nat → Prop) : List D → List Value → Prop
 | [], ys => ys = []
 | d :: ds, ys => ∃ y r, ys = y :: r ∧ Con w ν F d y ∧ ConVs w ν F ds r
def ConCs (w : World) (ν : Nu) (F : Nat → Prop) : List D → Nat → Nat → Prop
 | [], _, _ => True
 | d :: ds, b, o => (∃ y, w.cell? ⟨b, o, none⟩ = some y ∧ oneC y = true ∧ Con w ν F d y) ∧ ConCs w ν F ds b (o + 1)
def ConEs (w : World) (ν : Nu) (F : Nat → Prop) (z : Nat) : List (List D) → Nat → Nat → Prop
 | [], _, _ => True
 | e :: es, b, o => e.length = z ∧ ConCs w ν F e b o ∧ ConEs w ν F z es b (o + z)
end

structure Ext (w : World) (ν : Nu) (F : Nat → Prop) (w' : World) (ν' : Nu) (F' : Nat → Prop) : Prop where
 size : w.heap.size ≤ w'.heap.size
 fz : ∀ b, F b → F' b ∧ w'.heap[b]? = w.heap[b]?
 nu : ∀ k l, ν k = some l → ∃ l', ν' k = some l' ∧ l.g ≤ l'.g ∧ l'.z = l.z ∧ (l'.g = l.g → l'.b = l.b)
 blk : ∀ k l l', ν k = some l → ν' k = some l' → l'.g = l.g → ∀ arr e f, w.heap[l.b]? = some (.cells arr e f) →
  ∃ arr' e' f', w'.heap[l.b]? = some (.cells arr' e' f') ∧ arr'.size = arr.size
 io : w'.os = w.os ∧ w'.output = w.output

theorem Ext.refl (w : World) (ν : Nu) (F : Nat → Prop) : Ext w ν F w ν F where
 size := Nat.le_refl _
 fz := fun _ h => ⟨h, rfl⟩
 nu := fun k l h => ⟨l, h, Nat.le_refl _, rfl, fun _ => rfl⟩
 blk := fun _ _ _ _ _ _ arr e f h => ⟨arr, e, f, h, rfl⟩
 io := ⟨rfl, rfl⟩

theorem Ext.trans {w w' w'' : World} {ν ν' ν'' : Nu} {F F' F'' : Nat → Prop} (a : Ext w ν F w' ν' F') (b : Ext w' ν' F' w'' ν'' F'') :
  Ext w ν F w'' ν'' F'' where
 size := Nat.le_trans a.size b.size
 fz := fun x h => by
  obtain ⟨h1, e1⟩ := a.fz x h
  obtain ⟨h2, e2⟩ := b.fz x h1
  exact ⟨h2, e2.trans e1⟩
 nu := fun k l h => by
  obtain ⟨l1, h1, g1, z1, b1⟩ := a.nu k l h
  obtain ⟨l2, h2, g2, z2, b2⟩ := b.nu k l1 h1
  refine ⟨l2, h2, Nat.le_trans g1 g2, z2.trans z1, fun e => ?_⟩
  have e1 : l1.g = l.g := by omega
  exact (b2 (by omega)).trans (b1 e1)
 blk := fun k l l2 h h2 e arr el f hh => by
  obtain ⟨l1, h1, g1, z1, b1⟩ := a.nu k l h
  obtain ⟨l2', h2', g2, z2, b2⟩ := b.nu k l1 h1
  obtain rfl : l2' = l2 := by rw [h2] at h2'; exact (Option.some.inj h2').symm
  have e1 : l1.g = l.g := by omega
  obtain ⟨arr', el', f', ha, hs⟩ := a.blk k l l1 h h1 e1 arr el f hh
  rw [← b1 e1] at ha
  obtain ⟨arr'', el'', f'', ha2, hs2⟩ := b.blk k l1 l2' h1 h2 (by omega) arr' el' f' ha
  exact ⟨arr'', el'', f'', by rw [← b1 e1]; exact ha2, hs2.trans hs⟩
 io := ⟨b.io.1.trans a.io.1, b.io.2.trans a.io.2⟩

theorem cell?_of_heap {w w' : World} {b o : Nat} (h : w'.heap[b]? = w.heap[b]?) : w'.cell? ⟨b, o, none⟩ = w.cell? ⟨b, o, none⟩ := by
 simp only [World.cell?, h]

section mono
variable {w w' : World} {ν ν' : Nu} {F F' : Nat → Prop} (H : Ext w ν F w' ν' F')
include H
mutual
theorem Con.mono : ∀ (d : D) (y : Value), Con w ν F d y → Con w' ν' F' d y
 | .v x, y, h => h
 | .any, _, _ => trivial
 | .ptr k g i j, y, h => by
  simp only [Con] at h ⊢
  obtain ⟨l, b, o, hl, hg, hy, he⟩ := h
  obtain ⟨l', hl', hg', hz, hb⟩ := H.nu k l hl
  refine ⟨l', b, o, hl', Nat.le_trans hg hg', hy, fun e => ?_⟩
  have e1 : l.g = g := by omega
  rw [hb (by omega), hz]
  exact he e1
 | .rptr t cs, y, h => by
  simp only [Con] at h ⊢
  obtain ⟨b, o, hy, hF, ht, hc⟩ := h
  exact ⟨b, o, hy, (H.fz b hF).1, ht, ConCs.mono cs b o (H.fz b hF).2 hc⟩
 | .sl z es, y, h => by
  simp only [Con] at h ⊢
  rcases h with ⟨b, o, c, hy, hn, hF, hc⟩ | h
  ·exact .inl ⟨b, o, c, hy, hn, (H.fz b hF).1, ConEs.mono z es b o (H.fz b hF).2 hc⟩
  ·exact .inr h
 | .own k g o n z, y, h => by
  simp only [Con] at h ⊢
  obtain ⟨l, b, off, c, hl, hg, hz0, hy, hn, he⟩ := h
  obtain ⟨l', hl', hg', hz, hb⟩ := H.nu k l hl
  refine ⟨l', b, off, c, hl', Nat.le_trans hg hg', hz.trans hz0, hy, hn, fun e => ?_⟩
  have e1 : l.g = g := by omega
  obtain ⟨rfl, ho, arr, el, f, ha, hs⟩ := he e1
  obtain ⟨arr', el', f', ha', hs'⟩ := H.blk k l l' hl hl' (by omega) arr el f ha
  exact ⟨(hb (by omega)).symm, ho, arr', el', f', ha', by rw [hs']; exact hs⟩
 | .mt, y, h => h
 | .bb, y, h => h
 | .iface t d, y, h => by
  simp only [Con] at h ⊢
  obtain ⟨y', hy, hd⟩ := h
  exact ⟨y', hy, Con.mono d y' hd⟩
 | .func fn fs cs, y, h => by
  simp only [Con] at h ⊢
  obtain ⟨ys, zs, hy, h1, h2⟩ := h
  exact ⟨ys, zs, hy, ConVs.mono fs _ h1, ConVs.mono cs _ h2⟩
 | .agg cs, y, h => by
  simp only [Con] at h ⊢
  obtain ⟨ys, hy, h1, h2⟩ := h
  exact ⟨ys, hy, ConVs.mono cs _ h1, h2⟩
 | .tup cs, y, h => by
  simp only [Con] at h ⊢
  obtain ⟨ys, hy, h1⟩ := h
  exact ⟨ys, hy, ConVs.mono cs _ h1⟩
theorem ConVs.mono : ∀ (ds : List D) (ys : List Value), ConVs w ν F ds ys → ConVs w' ν' F' ds ys
 | [], ys, h => h
 | d :: ds, ys, h => by
  simp only [ConVs] at h ⊢
  obtain ⟨y, r, e, hd, hr⟩ := h
  exact ⟨y, r, e, Con.mono d y hd, ConVs.mono ds r hr⟩
theorem ConCs.mono : ∀ (ds : List D) (b o : Nat), w'.heap[b]? = w.heap[b]? → ConCs w ν F ds b o → ConCs w' ν' F' ds b o
 | [], _, _, _, _ => trivial
 | d :: ds, b, o, hb, h => by
  simp only [ConCs] at h ⊢
  obtain ⟨⟨y, hc, h1, hd⟩, hr⟩ := h
  exact ⟨⟨y, by rw [cell?_of_heap hb]; exact hc, h1, Con.mono d y hd⟩, ConCs.mono ds b (o + 1) hb hr⟩
theorem ConEs.mono : ∀ (z : Nat) (es : List (List D)) (b o : Nat), w'.heap[b]? = w.heap[b]? → ConEs w ν F z es b o → ConEs w' ν' F' z es b o
 | _, [], _, _, _, _ => trivial
 | z, e :: es, b, o, hb, h => by
  simp only [ConEs] at h ⊢
  obtain ⟨hl, hc, hr⟩ := h
  exact ⟨hl, ConCs.mono e b o hb hc, ConEs.mono z es b (o + z) hb hr⟩
end
end mono

structure MemRel (w : World) (ν : Nu) (F : Nat → Prop) (m : Mem) : Prop where
 lt : ∀ b, F b → b < w.heap.size
 inj : ∀ k k' o o' l l', m k = some o → m k' = some o' → ν k = some l → ν k' = some l' → l.b = l'.b → k = k'
 at_ : ∀ k o, m k = some o → ∃ l arr e f, ν k = some l ∧ l.g = o.g ∧ l.z = o.z ∧ w.heap[l.b]? = some (.cells arr e f) ∧ ¬ F l.b ∧
  (f.1 = f.2 ∨ arr.size ≤ f.1) ∧ ConEs w ν F o.z o.es l.b 0

theorem okF_nf {n : Nat} {f : Nat × Nat} (h : f.1 = f.2 ∨ n ≤ f.1) : ∀ i, i < n → ¬ (f.1 ≤ i ∧ i < f.2) := by intro i hi; omega
def Fresh (ν : Nu) (m : Mem) (n : Nat) : Prop := ∀ k, n ≤ k → ν k = none ∧ m k = none

class GI where
 inv : World → (Nat → Prop) → Prop
 keep : ∀ {w w' : World} {F F' : Nat → Prop}, inv w F → (∀ b, F b → F' b ∧ w'.heap[b]? = w.heap[b]?) → inv w' F'
structure St [GI] (w : World) (ν : Nu) (F : Nat → Prop) (m : Mem) (n : Nat) : Prop where
 mem : MemRel w ν F m
 fresh : Fresh ν m n
 gi : GI.inv w F

end Go.Proofs.Mv.V
namespace Go.Proofs.Mv.V

/-! What is asked of the types. -/
def tsz (P : Program) (t : TypeId) : Option Nat := (P.info? t).map (·.size)
def tcode (P : Program) (t : TypeId) : Nat :=
 match P.underlying t with
 | some .bool => 1
 | some (.int _) => 2
 | some .string => 3
 | some (.pointer _) => 4
 | some (.slice _) => 5
 | some (.interface _) => 6
 | some (.func _ _ _) => 7
 | some (.struct _) => 8
 | some (.array _ _) => 9
 | some _ => 10
 | none => 0
def tint (P : Program) (t : TypeId) : Option IntKind :=
 match P.underlying t with
 | some (.int k) => some k
 | _ => none
def tagg (P : Program) (t : TypeId) : Option Bool :=
 match P.underlying t with
 | some (.struct _) | some (.array _ _) => some true
 | some _ => some false
 | none => none
def tzero (P : Program) (t : TypeId) : Option (List Value) :=
 match P.info? t with
 | some i => match i.zero with
  | some v => if v.cells.toList.all oneC then some v.cells.toList else none
  | none => none
 | none => none
def tfld (P : Program) (s : TypeId) (f : Nat) : Option (Nat × Bool × Nat) :=
 match P.underlying s with
 | some (.struct fs) => match fs[f]? with
  | some fl => match tagg P fl.type, tsz P fl.type with
   | some a, some (z + 1) => some (fl.offset, a, z + 1)
   | _, _ => none
  | none => none
 | _ => none
def tplaces (P : Program) (t : TypeId) : Option (List (Nat × Nat)) :=
 match P.underlying t with
 | some (.struct fs) => fs.toList.mapM fun f => (tsz P f.type).map fun z => (f.offset, z)
 | _ => none
def telem (P : Program) (t : TypeId) : Option (Nat × Nat) :=
 match P.underlying t with
 | some (.slice e) => match P.info? e with
  | some i => if (tzero P e).any (·.length == i.size) && 1 ≤ i.size then some (i.size, i.bytes) else none
  | none => none
 | _ => none
def tbyte (P : Program) (t : TypeId) : Bool :=
 match P.underlying t with
 | some (.slice e) => match P.underlying e with
  | some (.int .u8) => true
  | _ => false
 | _ => false
def tcomp (P : Program) (t : TypeId) : Bool := (P.info? t).any (·.comparable)

def tsfl (P : Program) (t : TypeId) : Option (List (Nat × TypeId × Bool × Nat)) :=
 match P.underlying t with
 | some (.struct fs) =>
  if P.stoodInHeld t = false ∧ P.eqGuardType P.depth t = false ∧ fs.toList.all (fun f => f.name != "_") = true then
   fs.toList.mapM fun f => match tagg P f.type, tsz P f.type with
    | some a, some (z + 1) => some (f.offset, f.type, a, z + 1)
    | _, _ => none
  else none
 | _ => none

/-! Values. -/
def normV : Value → D
 | .agg cs => if cs.toList.all oneC then .agg (cs.toList.map .v) else .v (.agg cs)
 | .tuple cs => .tup (cs.toList.map .v)
 | x => .v x
def ev (σ : Nat → D) : Operand → D
 | .tmp t => σ t
 | .const v => normV v
 | .global g => .v (.pointer (some ⟨g, 0, none⟩))
 | .func f => .func (.func f) [] []
def upd (σ : Nat → D) (i : Nat) (d : D) : Nat → D := fun j => if j = i then d else σ j
def put (σ : Nat → D) (o : Option Tmp) (d : D) : Nat → D :=
 match o with
 | some t => upd σ t d
 | none => σ
def cellsOf : D → List D
 | .agg cs => cs
 | d => [d]
def okD : D → Bool
 | .agg _ => true
 | .v x => oneC x
 | .any | .tup _ => false
 | _ => true
def isConst : Operand → Bool
 | .const _ => true
 | _ => false

def undefD : D := .tup []

def ibin (op : BinOp) (k : IntKind) (a b : Int) : Option (Prop × Value) :=
 match op with
 | .add => some (True, .int k (k.wrap (a + b)))
 | .sub => some (True, .int k (k.wrap (a - b)))
 | .mul => some (True, .int k (k.wrap (a * b)))
 | .quo => some (b ≠ 0, .int k (k.wrap (a.tdiv b)))
 | .rem => some (b ≠ 0, .int k (a.tmod b))
 | .and => some (True, .int k (k.wrap (BitVec.ofInt k.bits a &&& BitVec.ofInt k.bits b).toNat))
 | .or => some (True, .int k (k.wrap (BitVec.ofInt k.bits a ||| BitVec.ofInt k.bits b).toNat))
 | .xor => some (True, .int k (k.wrap (BitVec.ofInt k.bits a ^^^ BitVec.ofInt k.bits b).toNat))
 | .andNot => some (True, .int k (k.wrap (BitVec.ofInt k.bits a &&& ~~~BitVec.ofInt k.bits b).toNat))
 | .eql => some (True, .bool (a == b))
 | .neq => some (True, .bool (a != b))
 | .lss => some (True, .bool (decide (a < b)))
 | .leq => some (True, .bool (decide (a ≤ b)))
 | .gtr => some (True, .bool (decide (a > b)))
 | .geq => some (True, .bool (decide (a ≥ b)))
 | _ => none
def ishift (op : BinOp) (k : IntKind) (a b : Int) : Option (Prop × Value) :=
 match op with
 | .shl => some (0 ≤ b, .int k (k.wrap (a * 2 ^ (min b.toNat k.bits))))
 | .shr => some (0 ≤ b, .int k (a.fdiv (2 ^ (min b.toNat k.bits))))
 | _ => none
def sbin (op : BinOp) (x y : ByteArray) : Option (Prop × Value) :=
 match op with
 | .add => some (x.size + y.size ≤ 9223372036854775807, .string (x ++ y))
 | .eql => some (True, .bool (x.toList == y.toList))
 | .neq => some (True, .bool !(x.toList == y.toList))
 | .lss => some (True, .bool (Op.bytesLess x.toList y.toList))
 | .leq => some (True, .bool (Op.bytesLess x.toList y.toList || x.toList == y.toList))
 | .gtr => some (True, .bool !(Op.bytesLess x.toList y.toList || x.toList == y.toList))
 | .geq => some (True, .bool !(Op.bytesLess x.toList y.toList))
 | _ => none
mutual
def eqD (P : Program) : Nat → TypeId → D → D → Option Bool
 | 0, _, _, _ => none
 | d + 1, t, x, y => match tcode P t, x, y with
  | 1, .v (.bool a), .v (.bool b) => some (a == b)
  | 2, .v (.int k a), .v (.int k' b) => if k = k' then some (a == b) else none
  | 3, .v (.string a), .v (.string b) => some (a.toList == b.toList)
  | 8, .agg xs, .agg ys => match tsfl P t with
   | some fs => eqFs P d fs xs ys
   | none => none
  | _, _, _ => none
def eqFs (P : Program) : Nat → List (Nat × TypeId × Bool × Nat) → List D → List D → Option Bool
 | _, [], _, _ => some true
 | d, (o, t, ag, z) :: fs, xs, ys => if (if ag then o + z ≤ xs.length ∧ o + z ≤ ys.length else o < xs.length ∧ o < ys.length) then
   match eqD P d t (if ag then .agg ((xs.drop o).take z) else xs.getD o .any) (if ag then .agg ((ys.drop o).take z) else ys.getD o .any), eqFs P d fs xs ys with
   | some a, some b => some (a && b)
   | _, _ => none
  else none
end
def deq (P : Program) (t : TypeId) (nn : Bool) (x y : D) : Option Bool :=
 match tcode P t, x, y with
 | 1, .v (.bool a), .v (.bool b) => some (a == b)
 | 4, .v (.pointer none), .v (.pointer none) => some true
 | 4, .ptr .., .v (.pointer none) => some false
 | 4, .v (.pointer none), .ptr .. => some false
 | 4, .rptr .., .v (.pointer none) => some false
 | 4, .v (.pointer none), .rptr .. => some false
 | 5, .v (.slice none 0 0), .v (.slice none 0 0) => some true
 | 5, .sl _ (_ :: _), .v (.slice none 0 0) => some false
 | 5, .own .., .v (.slice none 0 0) => some false
 | 6, .iface .., .v .nilIface => some false
 | 6, .v .nilIface, .iface .. => some false
 | 6, .v .nilIface, .v .nilIface => if nn then some true else none
 | 6, .iface t1 (.v (.int k a)), .iface t2 (.v (.int k' b)) =>
  if t1 ≠ t2 then some false else if tcomp P t1 && tcode P t1 == 2 && k == k' then some (a == b) else none
 | 6, .iface t1 _, .iface t2 _ => if t1 ≠ t2 then some false else none
 | 7, .func .., .v .nilFunc => some false
 | 7, .v .nilFunc, .v .nilFunc => some true
 | 8, .agg xs, .agg ys => eqD P 20 t (.agg xs) (.agg ys)
 | _, _, _ => none

def unk (P : Program) (t : TypeId) (x y : D) : Bool :=
 match tcode P t, x, y with
 | 5, .sl _ [], .v (.slice none 0 0) => true
 | 5, .mt, .v (.slice none 0 0) => true
 | _, _, _ => false
def dbin (P : Program) (op : BinOp) (t : TypeId) (nn : Bool) (x y : D) : Option (Prop × D) :=
 match op, x, y with
 | .shl, .v (.int k a), .v (.int _ b) => (ishift .shl k a b).map fun r => (r.1, .v r.2)
 | .shr, .v (.int k a), .v (.int _ b) => (ishift .shr k a b).map fun r => (r.1, .v r.2)
 | op, .v (.int k a), .v (.int k' b) => if k = k' then (ibin op k a b).map fun r => (r.1, .v r.2) else none
 | op, .v (.string a), .v (.string b) => (sbin op a b).map fun r => (r.1, .v r.2)
 | .eql, x, y => if unk P t x y then some (True, .bb) else (deq P t nn x y).map fun b => (True, .v (.bool b))
 | .neq, x, y => if unk P t x y then some (True, .bb) else (deq P t nn x y).map fun b => (True, .v (.bool !b))
 | _, _, _ => none

def fillD (place : Nat → Option (Nat × Nat)) (cells : List D) : List (Nat × D) → Option (List D)
 | [] => some cells
 | (i, d) :: rest =>
  match place i with
  | none => none
  | some (off, size) =>
   let cs := cellsOf d
   if !okD d || cs.length ≠ size || off + cs.length > cells.length then none
   else fillD place (cells.take off ++ cs ++ cells.drop (off + cs.length)) rest

def sbounds (len : Nat) (lo hi : Option D) : Option (Prop × Nat × Nat) :=
 match lo, hi with
 | none, none => some (True, 0, len)
 | some (.v (.int _ l)), none => some (0 ≤ l ∧ l ≤ len, l.toNat, len)
 | none, some (.v (.int _ h)) => some (0 ≤ h ∧ h ≤ len, 0, h.toNat)
 | some (.v (.int _ l)), some (.v (.int _ h)) => some (0 ≤ l ∧ l ≤ h ∧ h ≤ len, l.toNat, h.toNat)
 | _, _ => none

def bEnc (b : UInt8) : List D := [.v (.int .u8 b.toNat)]
def unB : List (List D) → List UInt8
 | [.v (.int .u8 n)] :: r => UInt8.ofNat n.toNat :: unB r
 | _ => []
def ofL (l : List UInt8) : ByteArray := ⟨l.toArray⟩

def pop (P : Program) (σ : Nat → D) (op : Op) : Option (Prop × D) :=
 match op with
 | .move x => some (True, ev σ x)
 | .assign x => some (True, ev σ x)
 | .pick c a b => match ev σ c with
  | .v (.bool t) => some (True, if t then ev σ a else ev σ b)
  | _ => none
 | .nilCheck x => match ev σ x with
  | .ptr k g i j => some (True, .ptr k g i j)
  | .rptr t cs => some (True, .rptr t cs)
  | .iface t d => some (True, .iface t d)
  | .func (.func f) fs cs => some (True, .func (.func f) fs cs)
  | _ => none
 | .binOp op t x y _ => dbin P op t (isConst x || isConst y) (ev σ x) (ev σ y)
 | .unOp op _ x => match op, ev σ x with
  | .not, .v (.bool b) => some (True, .v (.bool !b))
  | .neg, .v (.int k n) => some (True, .v (.int k (k.wrap (0 - n))))
  | _, _ => none
 | .convert src dst x => match ev σ x with
  | .v (.int _ n) => match tint P dst with
   | some k => some ((tcode P src ≠ 0 : Prop), .v (.int k (k.wrap n)))
   | none => none
  | .v (.string s) => if tcode P src = 3 ∧ tcode P dst = 3 then some (True, .v (.string s)) else none
  | .sl z es => if tbyte P src = true ∧ tcode P dst = 3 then some (es = (unB es).map bEnc ∧ z = 1, .v (.string (ofL (unB es)))) else none
  | .v (.slice none _ _) => if tbyte P src = true ∧ tcode P dst = 3 then some (True, .v (.string .empty)) else none
  | .mt => if tbyte P src = true ∧ tcode P dst = 3 then some (True, .v (.string .empty)) else none
  | _ => none
 | .makeInterface t x => if tcode P t = 6 ∨ tcode P t = 0 then none else some (True, .iface t (ev σ x))
 | .makeFunc fn fs cs => some (True, .func fn (fs.toList.map (ev σ)) (cs.toList.map (ev σ)))
 | .field t x f => match tfld P t f, ev σ x with
  | some (o, true, z), .agg cs => some (o + z ≤ cs.length, .agg ((cs.drop o).take z))
  | some (o, false, _), .agg cs => some (o < cs.length, cs.getD o .any)
  | _, _ => none
 | .index t x i => match tcode P t, ev σ x, ev σ i with
  | 3, .v (.string s), .v (.int _ n) => some (0 ≤ n ∧ n < s.size, .v (.int .u8 (s.data.toList.getD n.toNat 0).toNat))
  | _, _, _ => none
 | .extract x i => match ev σ x with
  | .tup ds => some (i < ds.length, ds.getD i .any)
  | _ => none
 | .build t ps => match tplaces P t, tzero P t with
  | some pl, some zs => match fillD (fun f => pl[f]?) (zs.map .v) (ps.toList.map fun p => (p.1, ev σ p.2)) with
   | some cs => some (True, .agg cs)
   | none => none
  | _, _ => none
 | .slice t x lo hi mx => match ev σ x with
  | .v (.string s) => match mx.map (ev σ), sbounds s.size (lo.map (ev σ)) (hi.map (ev σ)) with
   | none, some (O, l, h) => if tcode P t = 3 then some (O, .v (.string (s.extract l h))) else none
   | _, _ => none
  | .sl z es => match mx.map (ev σ), sbounds es.length (lo.map (ev σ)) (hi.map (ev σ)) with
   | none, some (O, l, h) => if (telem P t).any (·.1 == z) then some (O, .sl z ((es.take h).drop l)) else none
   | some q, _ => match lo, hi.map (ev σ), q with
    | none, some (.v (.int _ h)), .v (.int _ c) => if (telem P t).any (·.1 == z) then some (h = 0 ∧ c = 0, .mt) else none
    | _, _, _ => none
   | _, _ => none
  | .own k g o n z => match mx.map (ev σ), sbounds n (lo.map (ev σ)) (hi.map (ev σ)) with
   | none, some (O, l, h) => if (telem P t).any (·.1 == z) then some (O, .own k g (o + l) (h - l) z) else none
   | some q, _ => match lo, hi.map (ev σ), q with
    | none, some (.v (.int _ h)), .v (.int _ c) => if (telem P t).any (·.1 == z) then some (h = 0 ∧ c = 0, .mt) else none
    | _, _, _ => none
   | _, _ => none
  | .v (.slice none 0 0) => match mx.map (ev σ), sbounds 0 (lo.map (ev σ)) (hi.map (ev σ)) with
   | none, some (O, _, _) => if (telem P t).isSome then some (O, .v (.slice none 0 0)) else none
   | some q, _ => match lo, hi.map (ev σ), q with
    | none, some (.v (.int _ h)), .v (.int _ c) => if (telem P t).isSome then some (h = 0 ∧ c = 0, .v (.slice none 0 0)) else none
    | _, _, _ => none
   | _, _ => none
  | .mt => match mx.map (ev σ), sbounds 0 (lo.map (ev σ)) (hi.map (ev σ)) with
   | none, some (O, _, _) => if (telem P t).isSome then some (O, .mt) else none
   | some q, _ => match lo, hi.map (ev σ), q with
    | none, some (.v (.int _ h)), .v (.int _ c) => if (telem P t).isSome then some (h = 0 ∧ c = 0, .mt) else none
    | _, _, _ => none
   | _, _ => none
  | _ => none
 | .fieldAddr s x f => match tfld P s f, ev σ x with
  | some (o, _, _), .ptr k g i j => some (True, .ptr k g i (j + o))
  | some (o, _, _), .rptr t cs => some (o ≤ cs.length, .rptr (t.map fun a => (a.1, a.2 + o)) (cs.drop o))
  | _, _ => none
 | .indexAddr t x i => match telem P t, ev σ x, ev σ i with
  | some (z, _), .sl z' es, .v (.int _ n) => if z = z' then some (0 ≤ n ∧ n < es.length, .rptr none (es.getD n.toNat [])) else none
  | some (z, _), .own k g o len z', .v (.int _ n) => if z = z' then some (0 ≤ n ∧ n < len, .ptr k g (o + n.toNat) 0) else none
  | _, _, _ => none
 | .load t a => match tagg P t, tsz P t, ev σ a with
  | some true, some z, .rptr _ cs => some (z ≤ cs.length, .agg (cs.take z))
  | some false, some _, .rptr _ cs => some (0 < cs.length, cs.getD 0 .any)
  | _, _, _ => none
 | .call c => match c.callee, c.args.toList, c.argTypes.toList with
  | .builtin .len, [x], [t] => match tcode P t, ev σ x with
   | 3, .v (.string s) => some (True, .v (.int .i64 s.size))
   | 5, .sl _ es => some (True, .v (.int .i64 es.length))
   | 5, .own _ _ _ n _ => some (True, .v (.int .i64 n))
   | 5, .v (.slice none 0 0) => some (True, .v (.int .i64 0))
   | 5, .mt => some (True, .v (.int .i64 0))
   | _, _ => none
  | .builtin .cap, [x], [t] => match tcode P t, ev σ x with
   | 5, .v (.slice none 0 0) => some (True, .v (.int .i64 0))
   | 5, .mt => some (True, .v (.int .i64 0))
   | _, _ => none
  | _, _, _ => none
 | _ => none

def rop (P : Program) (σ : Nat → D) (m : Mem) (op : Op) : Option (Prop × D × Nat) :=
 match op with
 | .load t a => match tagg P t, tsz P t, ev σ a with
  | some b, some z, .ptr k g i j => match m k with
   | some o => if b then some (o.g = g ∧ i < o.es.length ∧ j + z ≤ (o.es.getD i []).length, .agg (((o.es.getD i []).drop j).take z), k)
    else some (o.g = g ∧ i < o.es.length ∧ j < (o.es.getD i []).length, (o.es.getD i []).getD j .any, k)
   | none => none
  | _, _, _ => none
 | .convert src dst x => match ev σ x with
  | .own k g o n z => match m k with
   | some ob => if tbyte P src = true ∧ tcode P dst = 3 then
     some (ob.g = g ∧ z = 1 ∧ o + n ≤ ob.es.length ∧ (ob.es.drop o).take n = (unB ((ob.es.drop o).take n)).map bEnc, .v (.string (ofL (unB ((ob.es.drop o).take n)))), k)
    else none
   | none => none
  | _ => none
 | _ => none

end Go.Proofs.Mv.V
namespace Go.Proofs.Mv.V

section
variable {P : Program} {w : World} {ν : Nu} {F : Nat → Prop}

theorem conVs_v (l : List Value) : ConVs w ν F (l.map .v) l := by
 induction l with
 | nil => simp [ConVs]
 | cons x r ih => simp only [List.map_cons, ConVs]; exact ⟨x, r, rfl, rfl, ih⟩

theorem con_normV (v : Value) : Con w ν F (normV v) v := by
 cases v with
 | agg cs =>
  simp only [normV]
  split
  ·rename_i h
   simp only [Con]
   exact ⟨cs, rfl, conVs_v _, fun x hx => List.all_eq_true.1 h x hx⟩
  ·simp [Con]
 | tuple cs => simp only [normV, Con]; exact ⟨cs, rfl, conVs_v _⟩
 | _ => simp [normV, Con]

theorem con_undef : Con w ν F undefD undef := by
 simp only [undefD, Con, undef]
 exact ⟨#[], rfl, by simp [ConVs]⟩

theorem conVs_length {ds : List D} {ys : List Value} (h : ConVs w ν F ds ys) : ds.length = ys.length := by
 induction ds generalizing ys with
 | nil => simp only [ConVs] at h; subst h; rfl
 | cons d ds ih =>
  simp only [ConVs] at h
  obtain ⟨y, r, rfl, _, hr⟩ := h
  simp [ih hr]

theorem conVs_get {ds : List D} {ys : List Value} (h : ConVs w ν F ds ys) (i : Nat) (hi : i < ds.length) :
  ∃ y, ys[i]? = some y ∧ Con w ν F (ds.getD i .any) y := by
 induction ds generalizing ys i with
 | nil => simp at hi
 | cons d ds ih =>
  simp only [ConVs] at h
  obtain ⟨y, r, rfl, hd, hr⟩ := h
  cases i with
  | zero => exact ⟨y, rfl, hd⟩
  | succ i =>
   obtain ⟨y', h1, h2⟩ := ih hr i (by simpa using hi)
   exact ⟨y', by simpa using h1, by simpa using h2⟩

theorem conVs_append {a b : List D} {x y : List Value} (h : ConVs w ν F a x) (h' : ConVs w ν F b y) : ConVs w ν F (a ++ b) (x ++ y) := by
 induction a generalizing x with
 | nil => simp only [ConVs] at h; subst h; exact h'
 | cons d ds ih =>
  simp only [ConVs] at h
  obtain ⟨v, r, rfl, hd, hr⟩ := h
  simp only [List.cons_append, ConVs]
  exact ⟨v, r ++ y, rfl, hd, ih hr⟩

theorem conVs_take {ds : List D} {ys : List Value} (h : ConVs w ν F ds ys) (n : Nat) : ConVs w ν F (ds.take n) (ys.take n) := by
 induction ds generalizing ys n with
 | nil => simp only [ConVs] at h; subst h; simp [ConVs]
 | cons d ds ih =>
  simp only [ConVs] at h
  obtain ⟨v, r, rfl, hd, hr⟩ := h
  cases n with
  | zero => simp [ConVs]
  | succ n => simp only [List.take_succ_cons, ConVs]; exact ⟨v, _, rfl, hd, ih hr n⟩

theorem conVs_drop {ds : List D} {ys : List Value} (h : ConVs w ν F ds ys) (n : Nat) : ConVs w ν F (ds.drop n) (ys.drop n) := by
 induction ds generalizing ys n with
 | nil => simp only [ConVs] at h; subst h; simp [ConVs]
 | cons d ds ih =>
  simp only [ConVs] at h
  obtain ⟨v, r, rfl, hd, hr⟩ := h
  cases n with
  | zero => simp only [List.drop_zero, ConVs]; exact ⟨v, r, rfl, hd, hr⟩
  | succ n => simpa using ih hr n

theorem con_one {d : D} {y : Value} (h : Con w ν F d y) (hok : okD d = true) (hn : ∀ cs, d ≠ .agg cs) : oneC y = true := by
 cases d with
 | v x => simp only [Con] at h; subst h; exact hok
 | any => simp [okD] at hok
 | tup cs => simp [okD] at hok
 | agg cs => exact absurd rfl (hn cs)
 | ptr k g i j => simp only [Con] at h; obtain ⟨l, b, o, _, _, rfl, _⟩ := h; rfl
 | rptr t cs => simp only [Con] at h; obtain ⟨b, o, rfl, _⟩ := h; rfl
 | sl z es => simp only [Con] at h; rcases h with ⟨b, o, c, rfl, _⟩ | ⟨_, a, rfl⟩ <;> rfl
 | own k g o n z => simp only [Con] at h; obtain ⟨l, b, off, c, _, _, _, rfl, _⟩ := h; rfl
 | mt => simp only [Con] at h; obtain ⟨a, rfl⟩ := h; rfl
 | bb => simp only [Con] at h; obtain ⟨a, rfl⟩ := h; rfl
 | iface t d => simp only [Con] at h; obtain ⟨y', rfl, _⟩ := h; rfl
 | func fn fs cs => simp only [Con] at h; obtain ⟨ys, zs, rfl, _⟩ := h; rfl

theorem con_cells {d : D} {y : Value} (h : Con w ν F d y) (hok : okD d = true) :
  ConVs w ν F (cellsOf d) y.cells.toList ∧ ∀ x ∈ y.cells.toList, oneC x = true := by
 by_cases hd : ∃ cs, d = .agg cs
 ·obtain ⟨cs, rfl⟩ := hd
  simp only [Con] at h
  obtain ⟨ys, rfl, h1, h2⟩ := h
  exact ⟨h1, h2⟩
 ·have hn : ∀ cs, d ≠ .agg cs := fun cs e => hd ⟨cs, e⟩
  have h1 := con_one h hok hn
  have hy : y.cells = #[y] := by cases y <;> first | rfl | simp [oneC] at h1
  have hc : cellsOf d = [d] := by cases d <;> first | rfl | exact absurd rfl (hn _)
  rw [hy, hc]
  refine ⟨by simp only [ConVs]; exact ⟨y, [], rfl, h, rfl⟩, ?_⟩
  intro x hx
  obtain rfl : x = y := by simpa using hx
  exact h1

/-! Cells in memory. -/
theorem conCs_get {cs : List D} {b o : Nat} (h : ConCs w ν F cs b o) (i : Nat) (hi : i < cs.length) :
  ∃ y, w.cell? ⟨b, o + i, none⟩ = some y ∧ oneC y = true ∧ Con w ν F (cs.getD i .any) y := by
 induction cs generalizing o i with
 | nil => simp at hi
 | cons d ds ih =>
  simp only [ConCs] at h
  obtain ⟨⟨y, hc, h1, hd⟩, hr⟩ := h
  cases i with
  | zero => exact ⟨y, hc, h1, hd⟩
  | succ i =>
   obtain ⟨y', h2, h3, h4⟩ := ih hr i (by simpa using hi)
   exact ⟨y', by rw [show o + (i + 1) = o + 1 + i by omega]; exact h2, h3, by simpa using h4⟩

theorem conCs_drop {cs : List D} {b o : Nat} (h : ConCs w ν F cs b o) (i : Nat) : ConCs w ν F (cs.drop i) b (o + i) := by
 induction cs generalizing o i with
 | nil => simp [ConCs]
 | cons d ds ih =>
  cases i with
  | zero => simpa using h
  | succ i =>
   simp only [ConCs] at h
   have := ih h.2 i
   rw [show o + (i + 1) = o + 1 + i by omega]
   simpa using this

theorem conCs_take {cs : List D} {b o : Nat} (h : ConCs w ν F cs b o) (i : Nat) : ConCs w ν F (cs.take i) b o := by
 induction cs generalizing o i with
 | nil => simp [ConCs]
 | cons d ds ih =>
  cases i with
  | zero => simp [ConCs]
  | succ i =>
   simp only [List.take_succ_cons, ConCs] at h ⊢
   exact ⟨h.1, ih h.2 i⟩

theorem conEs_get {z : Nat} {es : List (List D)} {b o : Nat} (h : ConEs w ν F z es b o) (i : Nat) (hi : i < es.length) :
  (es.getD i []).length = z ∧ ConCs w ν F (es.getD i []) b (o + i * z) := by
 induction es generalizing o i with
 | nil => simp at hi
 | cons e es ih =>
  simp only [ConEs] at h
  obtain ⟨hl, hc, hr⟩ := h
  cases i with
  | zero => simpa using ⟨hl, hc⟩
  | succ i =>
   have := ih hr i (by simpa using hi)
   rw [show o + (i + 1) * z = o + z + i * z by rw [Nat.add_mul]; omega]
   simpa using this

theorem conEs_drop {z : Nat} {es : List (List D)} {b o : Nat} (h : ConEs w ν F z es b o) (i : Nat) :
  ConEs w ν F z (es.drop i) b (o + i * z) := by
 induction es generalizing o i with
 | nil => simp [ConEs]
 | cons e es ih =>
  cases i with
  | zero => simpa using h
  | succ i =>
   simp only [ConEs] at h
   have := ih h.2.2 i
   rw [show o + (i + 1) * z = o + z + i * z by rw [Nat.add_mul]; omega]
   simpa using this

theorem conEs_take {z : Nat} {es : List (List D)} {b o : Nat} (h : ConEs w ν F z es b o) (i : Nat) : ConEs w ν F z (es.take i) b o := by
 induction es generalizing o i with
 | nil => simp [ConEs]
 | cons e es ih =>
  cases i with
  | zero => simp [ConEs]
  | succ i =>
   simp only [List.take_succ_cons, ConEs] at h ⊢
   exact ⟨h.1, h.2.1, ih h.2.2 i⟩

theorem conEs_len {z : Nat} {es : List (List D)} {b o : Nat} (h : ConEs w ν F z es b o) : ∀ e ∈ es, e.length = z := by
 induction es generalizing o with
 | nil => simp
 | cons e es ih =>
  simp only [ConEs] at h
  intro x hx
  cases List.mem_cons.1 hx with
  | inl e => subst e; exact h.1
  | inr e => exact ih h.2.2 x e

end
end Go.Proofs.Mv.V
namespace Go.Proofs.Mv.V

section
variable {P : Program} {w : World} {ν : Nu} {F : Nat → Prop}

theorem con_ev {σ : Nat → D} {a : Act} (h : ∀ i, Con w ν F (σ i) (a.tmps.getD i undef)) (x : Operand) : Con w ν F (ev σ x) (a.eval x) := by
 cases x with
 | tmp t => exact h t
 | const v => exact con_normV v
 | global g => simp [ev, Act.eval, Con]
 | func f => simp only [ev, Act.eval, Con]; exact ⟨#[], #[], rfl, by simp [ConVs], by simp [ConVs]⟩

/-! What the questions on types tell. -/
theorem tcode_1 {t : TypeId} (h : tcode P t = 1) : P.underlying t = some .bool := by
 unfold tcode at h; split at h <;> first | assumption | simp at h
theorem tcode_2 {t : TypeId} (h : tcode P t = 2) : ∃ k, P.underlying t = some (.int k) := by
 unfold tcode at h; split at h <;> first | exact ⟨_, by assumption⟩ | simp at h
theorem tcode_3 {t : TypeId} (h : tcode P t = 3) : P.underlying t = some .string := by
 unfold tcode at h; split at h <;> first | assumption | simp at h
theorem tcode_4 {t : TypeId} (h : tcode P t = 4) : ∃ e, P.underlying t = some (.pointer e) := by
 unfold tcode at h; split at h <;> first | exact ⟨_, by assumption⟩ | simp at h
theorem tcode_5 {t : TypeId} (h : tcode P t = 5) : ∃ e, P.underlying t = some (.slice e) := by
 unfold tcode at h; split at h <;> first | exact ⟨_, by assumption⟩ | simp at h
theorem tcode_6 {t : TypeId} (h : tcode P t = 6) : ∃ e, P.underlying t = some (.interface e) := by
 unfold tcode at h; split at h <;> first | exact ⟨_, by assumption⟩ | simp at h
theorem tcode_7 {t : TypeId} (h : tcode P t = 7) : ∃ a b c, P.underlying t = some (.func a b c) := by
 unfold tcode at h; split at h <;> first | exact ⟨_, _, _, by assumption⟩ | simp at h
theorem tcode_ne0 {t : TypeId} (h : tcode P t ≠ 0) : ∃ d, P.underlying t = some d := by
 unfold tcode at h; split at h <;> first | exact ⟨_, by assumption⟩ | simp at h
theorem tint_some {t : TypeId} {k : IntKind} (h : tint P t = some k) : P.underlying t = some (.int k) := by
 unfold tint at h; split at h <;> simp_all
theorem tsz_some {t : TypeId} {z : Nat} (h : tsz P t = some z) : ∃ i, P.info? t = some i ∧ i.size = z := by
 unfold tsz at h; simpa using h

theorem run_underlying' {t : TypeId} {d : TypeDesc} (h : P.underlying t = some d) : (underlying t).run P w = .ok d w := by
 simp [underlying, go_sem, h]
theorem run_sizeOf' {t : TypeId} {z : Nat} (h : tsz P t = some z) : (sizeOf t).run P w = .ok z w := by
 obtain ⟨i, hi, rfl⟩ := tsz_some h
 simp [sizeOf, typeInfo, go_sem, hi]
theorem run_isAgg' {t : TypeId} {b : Bool} (h : tagg P t = some b) : (isAgg t).run P w = .ok b w := by
 unfold tagg at h
 split at h <;> simp at h <;> subst h <;> simp_all [isAgg, underlying, go_sem]

theorem tfld_some {s : TypeId} {f o z : Nat} {ag : Bool} (h : tfld P s f = some (o, ag, z)) :
  ∃ fs fl, P.underlying s = some (.struct fs) ∧ fs[f]? = some fl ∧ fl.offset = o ∧ tagg P fl.type = some ag ∧ tsz P fl.type = some z ∧ 1 ≤ z := by
 unfold tfld at h
 split at h
 ·rename_i fs hu
  split at h
  ·rename_i fl hf
   split at h
   ·rename_i a z' ha hz
    simp at h
    obtain ⟨rfl, rfl, rfl⟩ := h
    exact ⟨fs, fl, hu, hf, rfl, ha, hz, by omega⟩
   ·simp at h
  ·simp at h
 ·simp at h

theorem telem_some {t : TypeId} {z b : Nat} (h : telem P t = some (z, b)) :
  ∃ e i v, P.underlying t = some (.slice e) ∧ P.info? e = some i ∧ i.size = z ∧ i.bytes = b ∧ 1 ≤ z ∧ i.zero = some v ∧ v.cells.size = z ∧ ∀ x ∈ v.cells.toList, oneC x = true := by
 unfold telem at h
 split at h
 ·rename_i e hu
  split at h
  ·rename_i i hi
   split at h
   ·rename_i hc
    simp only [Bool.and_eq_true, decide_eq_true_eq, Option.some.injEq, Prod.mk.injEq] at hc h
    obtain ⟨hz, h1⟩ := hc
    obtain ⟨rfl, rfl⟩ := h
    unfold tzero at hz
    simp only [hi] at hz
    split at hz
    ·rename_i v hv
     split at hz
     ·rename_i hall
      exact ⟨e, i, v, hu, hi, rfl, rfl, h1, hv, by simpa using hz, fun x hx => List.all_eq_true.1 hall x hx⟩
     ·simp at hz
    ·simp at hz
   ·simp at h
  ·simp at h
 ·simp at h
end
end Go.Proofs.Mv.V
namespace Go.Proofs.Mv.V

section
variable {P : Program} {w : World} {ν : Nu} {F : Nat → Prop}

theorem run_ibin {op : BinOp} {t : TypeId} {k : IntKind} {a b : Int} {O : Prop} {x : Value} (h : ibin op k a b = some (O, x)) (hO : O) :
  (binOp op t (.int k a) (.int k b)).run P w = .ok x w := by
 cases op <;> simp only [ibin, Option.some.injEq, Prod.mk.injEq, reduceCtorEq] at h <;> obtain ⟨rfl, rfl⟩ := h <;>
  simp_all [binOp, Op.intArith, Op.intDiv, Op.intBits, Op.intCmp, go_sem, pure, Sem.run]

theorem run_ishift {op : BinOp} {t : TypeId} {k k' : IntKind} {a b : Int} {O : Prop} {x : Value} (h : ishift op k a b = some (O, x)) (hO : O) :
  (binOp op t (.int k a) (.int k' b)).run P w = .ok x w := by
 cases op <;> simp only [ishift, Option.some.injEq, Prod.mk.injEq, reduceCtorEq] at h <;> obtain ⟨rfl, rfl⟩ := h <;>
  ·have : ¬ b < 0 := by omega
   simp [binOp, Op.shift, pure, Sem.run, this]

theorem run_sbin {op : BinOp} {t : TypeId} {a b : ByteArray} {O : Prop} {x : Value} (h : sbin op a b = some (O, x)) (hO : O) :
  (binOp op t (.string a) (.string b)).run P w = .ok x w := by
 cases op <;> simp only [sbin, Option.some.injEq, Prod.mk.injEq, reduceCtorEq] at h <;> obtain ⟨rfl, rfl⟩ := h <;>
  simp [binOp, Op.stringOp, pure, Sem.run]
 ·omega

theorem run_eqGuard_other {op : BinOp} {t : TypeId} {x y : Operand} {a b : Value} (h1 : a = .nilIface → b = .nilIface → (isConst x || isConst y) = true)
  (h2 : ∀ u v, a = .agg u → b = .agg v → P.eqGuardType P.depth t = false) : (eqGuard op t x y a b).run P w = .ok () w := by
 by_cases hagg : ∃ u v, a = .agg u ∧ b = .agg v
 ·obtain ⟨u, v, rfl, rfl⟩ := hagg
  exact run_eqGuard_agg w op t x y u v (h2 u v rfl rfl)
 have h2 : ∀ u v, a = .agg u → b = .agg v → False := fun u v e1 e2 => hagg ⟨u, v, e1, e2⟩
 unfold eqGuard
 cases op <;> simp [pure, Sem.run]
 all_goals
  split
  ·have := h1 rfl rfl
   cases x <;> cases y <;> simp_all [isConst, pure, Sem.run]
  ·exact (h2 _ _ rfl rfl).elim
  ·rfl

theorem addr_add (b o n : Nat) : Addr.add ⟨b, o, none⟩ n = ⟨b, o + n, none⟩ := by
 unfold Addr.add; split
 ·rename_i h; subst h; rfl
 ·rfl

theorem run_load' {b o : Nat} {y : Value} (h : w.cell? ⟨b, o, none⟩ = some y) : (load ⟨b, o, none⟩).run P w = .ok y w := by
 simp [load, Sem.run, h]

theorem run_loadCellsFrom {b o : Nat} : ∀ (n i : Nat) (acc : Array Value) (ys : List Value), ys.length = n →
  (∀ j y, ys[j]? = some y → w.cell? ⟨b, o + i + j, none⟩ = some y) → (loadCellsFrom ⟨b, o, none⟩ i n acc).run P w = .ok (acc ++ ys.toArray) w := by
 intro n
 induction n with
 | zero =>
  intro i acc ys hl _
  obtain rfl : ys = [] := List.eq_nil_of_length_eq_zero hl
  simp [loadCellsFrom, Sem.run, pure]
 | succ n ih =>
  intro i acc ys hl h
  cases ys with
  | nil => simp at hl
  | cons y ys =>
   unfold loadCellsFrom
   rw [addr_add]
   have h0 := h 0 y rfl
   simp only [Nat.add_zero] at h0
   simp only [Sem.run_bind, run_load' h0, Result.andThen]
   rw [ih (i + 1) (acc.push y) ys (by simpa using hl) (fun j x hx => by
    rw [show o + (i + 1) + j = o + i + (j + 1) by omega]; exact h (j + 1) x (by simpa using hx))]
   simp

theorem run_loadCells {b o n : Nat} {ys : List Value} (hl : ys.length = n) (h : ∀ j y, ys[j]? = some y → w.cell? ⟨b, o + j, none⟩ = some y) :
  (loadCells ⟨b, o, none⟩ n).run P w = .ok ys.toArray w := by
 unfold loadCells
 rw [run_loadCellsFrom n 0 #[] ys hl (by simpa using h)]
 simp

theorem conCs_vals {cs : List D} {b o : Nat} (h : ConCs w ν F cs b o) : ∃ ys, ConVs w ν F cs ys ∧ (∀ x ∈ ys, oneC x = true) ∧
  ∀ j y, ys[j]? = some y → w.cell? ⟨b, o + j, none⟩ = some y := by
 induction cs generalizing o with
 | nil => exact ⟨[], by simp [ConVs], by simp, by simp⟩
 | cons d ds ih =>
  simp only [ConCs] at h
  obtain ⟨⟨y, hc, h1, hd⟩, hr⟩ := h
  obtain ⟨ys, h2, h3, h4⟩ := ih hr
  refine ⟨y :: ys, by simp only [ConVs]; exact ⟨y, ys, rfl, hd, h2⟩, by simpa using ⟨h1, h3⟩, ?_⟩
  intro j x hx
  cases j with
  | zero => simp at hx; subst hx; exact hc
  | succ j => rw [show o + (j + 1) = o + 1 + j by omega]; exact h4 j x (by simpa using hx)

theorem run_loadVar {t : TypeId} {b o z : Nat} {ag : Bool} {cs : List D} (ha : tagg P t = some ag) (hz : tsz P t = some z) (h : ConCs w ν F cs b o)
  (hl : if ag then z ≤ cs.length else 0 < cs.length) : ∃ y, (loadVar t ⟨b, o, none⟩).run P w = .ok y w ∧ Con w ν F (if ag then .agg (cs.take z) else cs.getD 0 .any) y := by
 unfold loadVar
 simp only [Sem.run_bind, run_isAgg' ha, Result.andThen]
 cases ag with
 | true =>
  simp only [if_true] at hl ⊢
  obtain ⟨ys, h1, h2, h3⟩ := conCs_vals (conCs_take h z)
  have hlen : ys.length = z := by rw [← conVs_length h1, List.length_take]; omega
  refine ⟨.agg ys.toArray, ?_, ?_⟩
  ·simp only [Sem.run_bind, run_sizeOf' hz, Result.andThen, run_loadCells hlen h3, pure, Sem.run]
  ·simp only [Con]; exact ⟨ys.toArray, rfl, by simpa using h1, by simpa using h2⟩
 | false =>
  simp only [Bool.false_eq_true, if_false] at hl ⊢
  obtain ⟨y, hc, _, hd⟩ := conCs_get h 0 hl
  exact ⟨y, run_load' hc, hd⟩
end
end Go.Proofs.Mv.V
namespace Go.Proofs.Mv.V

section
variable {P : Program} {w : World} {ν : Nu} {F : Nat → Prop}

theorem eqIn_bool (d : Nat) {t : TypeId} (hu : P.underlying t = some .bool) (a b : Bool) : (Op.equalIn (d + 1) t (.bool a) (.bool b)).run P w = .ok (a == b) w := by
 simp [Op.equalIn, Sem.run_bind, run_underlying' hu, Result.andThen, pure, Sem.run]
theorem eqIn_pn (d : Nat) {t e : TypeId} (hu : P.underlying t = some (.pointer e)) (b : Option Addr) : (Op.equalIn (d + 1) t (.pointer none) (.pointer b)).run P w = .ok b.isNone w := by
 simp [Op.equalIn, Sem.run_bind, run_underlying' hu, Result.andThen, pure, Sem.run]
theorem eqIn_pn' (d : Nat) {t e : TypeId} (hu : P.underlying t = some (.pointer e)) (b : Addr) : (Op.equalIn (d + 1) t (.pointer (some b)) (.pointer none)).run P w = .ok false w := by
 simp [Op.equalIn, Sem.run_bind, run_underlying' hu, Result.andThen, pure, Sem.run]
theorem eqIn_sn (d : Nat) {t e : TypeId} (hu : P.underlying t = some (.slice e)) (b : Option Addr) (n c : Nat) : (Op.equalIn (d + 1) t (.slice b n c) (.slice none 0 0)).run P w = .ok b.isNone w := by
 cases b <;> simp [Op.equalIn, Sem.run_bind, run_underlying' hu, Result.andThen, pure, Sem.run]
theorem eqIn_in (d : Nat) {t : TypeId} {ms : Array (String × TypeId)} (hu : P.underlying t = some (.interface ms)) (u : TypeId) (x : Value) : (Op.equalIn (d + 1) t (.iface u x) .nilIface).run P w = .ok false w := by
 simp [Op.equalIn, Sem.run_bind, run_underlying' hu, Result.andThen, pure, Sem.run]
theorem eqIn_ni (d : Nat) {t : TypeId} {ms : Array (String × TypeId)} (hu : P.underlying t = some (.interface ms)) (u : TypeId) (x : Value) : (Op.equalIn (d + 1) t .nilIface (.iface u x)).run P w = .ok false w := by
 simp [Op.equalIn, Sem.run_bind, run_underlying' hu, Result.andThen, pure, Sem.run]
theorem eqIn_nn (d : Nat) {t : TypeId} {ms : Array (String × TypeId)} (hu : P.underlying t = some (.interface ms)) : (Op.equalIn (d + 1) t .nilIface .nilIface).run P w = .ok true w := by
 simp [Op.equalIn, Sem.run_bind, run_underlying' hu, Result.andThen, pure, Sem.run]
theorem eqIn_ne (d : Nat) {t : TypeId} {ms : Array (String × TypeId)} (hu : P.underlying t = some (.interface ms)) {u v : TypeId} (x y : Value) (h : u ≠ v) : (Op.equalIn (d + 1) t (.iface u x) (.iface v y)).run P w = .ok false w := by
 simp [Op.equalIn, Sem.run_bind, run_underlying' hu, Result.andThen, pure, Sem.run, h]
theorem eqIn_int (d : Nat) {t : TypeId} {k' : IntKind} (hu : P.underlying t = some (.int k')) (k : IntKind) (a b : Int) : (Op.equalIn (d + 1) t (.int k a) (.int k b)).run P w = .ok (a == b) w := by
 simp [Op.equalIn, Sem.run_bind, run_underlying' hu, Result.andThen, pure, Sem.run]
theorem eqIn_same (d : Nat) {t : TypeId} {ms : Array (String × TypeId)} (hu : P.underlying t = some (.interface ms)) {u : TypeId} (x y : Value) (h : tcomp P u = true) : (Op.equalIn (d + 1) t (.iface u x) (.iface u y)).run P w = (Op.equalIn d u x y).run P w := by
 unfold tcomp at h
 cases hi : P.info? u with
 | none => simp [hi] at h
 | some i =>
  simp [hi] at h
  conv => lhs; unfold Op.equalIn
  simp [Sem.run_bind, run_underlying' hu, Result.andThen, pure, Sem.run, typeInfo, program, hi, h]
theorem eqIn_fn (d : Nat) {t : TypeId} {a b : Array TypeId} {c : Bool} (hu : P.underlying t = some (.func a b c)) (fn : Fn) (x y : Array Value) : (Op.equalIn (d + 1) t (.func fn x y) .nilFunc).run P w = .ok false w := by
 simp [Op.equalIn, Sem.run_bind, run_underlying' hu, Result.andThen, pure, Sem.run]
theorem eqIn_fnn (d : Nat) {t : TypeId} {a b : Array TypeId} {c : Bool} (hu : P.underlying t = some (.func a b c)) : (Op.equalIn (d + 1) t .nilFunc .nilFunc).run P w = .ok true w := by
 simp [Op.equalIn, Sem.run_bind, run_underlying' hu, Result.andThen, pure, Sem.run]

theorem run_part {t : TypeId} {ag : Bool} {o z : Nat} {cs : List D} {ys : Array Value} (ha : tagg P t = some ag) (hz : tsz P t = some z) (h : ConVs w ν F cs ys.toList)
  (h1 : ∀ x ∈ ys.toList, oneC x = true) (hl : if ag then o + z ≤ cs.length else o < cs.length) :
  ∃ y, (part t ys o).run P w = .ok y w ∧ Con w ν F (if ag then .agg ((cs.drop o).take z) else cs.getD o .any) y := by
 unfold part
 simp only [Sem.run_bind, run_isAgg' ha, Result.andThen]
 cases ag with
 | true =>
  simp only [if_true] at hl ⊢
  refine ⟨.agg (ys.extract o (o + z)), by simp only [Sem.run_bind, run_sizeOf' hz, Result.andThen, pure, Sem.run], ?_⟩
  simp only [Con]
  have e : (ys.extract o (o + z)).toList = (ys.toList.drop o).take z := by simp [List.extract_eq_take_drop]
  refine ⟨_, rfl, ?_, ?_⟩
  ·rw [e]; exact conVs_take (conVs_drop h o) z
  ·rw [e]; intro x hx; exact h1 x (List.mem_of_mem_drop (List.mem_of_mem_take hx))
 | false =>
  simp only [Bool.false_eq_true, if_false] at hl ⊢
  obtain ⟨y, hy, hd⟩ := conVs_get h o hl
  refine ⟨y, ?_, hd⟩
  have : ys[o]? = some y := by simpa using hy
  simp [this, pure, Sem.run]
theorem eqFs_sound (e d : Nat) (ih : ∀ (t : TypeId) (x y : D) (b : Bool), eqD P d t x y = some b → ∀ vx vy, Con w ν F x vx → Con w ν F y vy → (Op.equalIn (d + e) t vx vy).run P w = .ok b w) : ∀ (l : List Field) (fs : List (Nat × TypeId × Bool × Nat)) (xs ys : List D) (b : Bool), l.mapM (fun f => match tagg P f.type, tsz P f.type with
        | some a, some (z + 1) => some (f.offset, f.type, a, z + 1)
        | _, _ => none) = some fs → (∀ f ∈ l, f.name ≠ "_") → eqFs P d fs xs ys = some b → ∀ (X Y : Array Value), ConVs w ν F xs X.toList → (∀ x ∈ X.toList, oneC x = true) → ConVs w ν F ys Y.toList → (∀ x ∈ Y.toList, oneC x = true) →
  (Op.eqFields (d + e) X Y l).run P w = .ok b w
 | [], fs, xs, ys, b, hm, hn, h, X, Y, hX, hX1, hY, hY1 => by
  simp at hm; subst hm
  simp [eqFs] at h; subst h
  simp [Op.eqFields]
 | f :: l, fs, xs, ys, b, hm, hn, h, X, Y, hX, hX1, hY, hY1 => by
  rw [List.mapM_cons] at hm
  simp only [Option.bind_eq_bind, Option.bind_eq_some_iff, Option.pure_def, Option.some.injEq] at hm
  obtain ⟨q, hq, fs', hm', rfl⟩ := hm
  split at hq
  ·rename_i ag z ha hz
   simp only [Option.some.injEq] at hq; subst hq
   simp only [eqFs] at h
   by_cases hb : (if ag = true then f.offset + (z + 1) ≤ xs.length ∧ f.offset + (z + 1) ≤ ys.length else f.offset < xs.length ∧ f.offset < ys.length)
   ·rw [if_pos hb] at h
    split at h
    ·rename_i r1 r2 e1 e2
     simp only [Option.some.injEq] at h; subst h
     have hlx : if ag = true then f.offset + (z + 1) ≤ xs.length else f.offset < xs.length := by cases ag <;> simp_all
     have hly : if ag = true then f.offset + (z + 1) ≤ ys.length else f.offset < ys.length := by cases ag <;> simp_all
     obtain ⟨vx, hvx, cx⟩ := run_part (t := f.type) ha hz hX hX1 hlx
     obtain ⟨vy, hvy, cy⟩ := run_part (t := f.type) ha hz hY hY1 hly
     have hrec := ih f.type _ _ r1 e1 vx vy cx cy
     have hrest := eqFs_sound e d ih l fs' xs ys r2 hm' (fun f hf => hn f (by simp [hf])) e2 X Y hX hX1 hY hY1
     simp only [Op.eqFields, hn f (by simp), ne_eq, not_false_eq_true, if_true, Sem.run_bind, hvx, hvy, hrec, Result.andThen]
     cases r1
     ·simp
     ·simpa using hrest
    ·simp at h
   ·rw [if_neg hb] at h; simp at h
  ·simp at hq
theorem eqD_sound (e : Nat) : ∀ (d : Nat) (t : TypeId) (x y : D) (b : Bool), eqD P d t x y = some b → ∀ vx vy, Con w ν F x vx → Con w ν F y vy → (Op.equalIn (d + e) t vx vy).run P w = .ok b w
 | 0, _, _, _, _, h, _, _, _, _ => by simp [eqD] at h
 | d + 1, t, x, y, b, h, vx, vy, hx, hy => by
  rw [show d + 1 + e = (d + e) + 1 by omega]
  unfold eqD at h
  split at h
  ·rename_i a b' hc
   simp only [Con] at hx hy; subst hx hy; simp at h; subst h
   exact eqIn_bool _ (tcode_1 hc) _ _
  ·rename_i k a k' b' hc
   simp only [Con] at hx hy; subst hx hy
   obtain ⟨k'', hu⟩ := tcode_2 hc
   split at h
   ·rename_i hk; subst hk; simp at h; subst h
    exact eqIn_int _ hu _ _ _
   ·simp at h
  ·rename_i a b' hc
   simp only [Con] at hx hy; subst hx hy; simp at h; subst h
   exact run_equalIn_string w _ t _ _ (tcode_3 hc)
  ·rename_i xs ys hc
   split at h
   ·rename_i fs hfs
    unfold tsfl at hfs
    split at hfs
    ·rename_i fields hu
     split at hfs
     ·rename_i hcond
      obtain ⟨hs, hg, hn⟩ := hcond
      simp only [Con] at hx hy
      obtain ⟨X, rfl, hX, hX1⟩ := hx
      obtain ⟨Y, rfl, hY, hY1⟩ := hy
      have hfo : P.fieldsOf t = fields := by simp [Program.fieldsOf, hu]
      rw [run_equalIn_struct w (d + e) t X Y (by rw [hfo]; exact hu) hs, hfo]
      exact eqFs_sound e d (eqD_sound e d) fields.toList fs xs ys b hfs (fun f hf => by have := List.all_eq_true.1 hn f hf; simpa using this) h X Y hX hX1 hY hY1
     ·simp at hfs
    ·simp at hfs
   ·simp at h
  ·simp at h
theorem run_deq {t : TypeId} {nn : Bool} {dx dy : D} {x y : Value} {b : Bool} (h : deq P t nn dx dy = some b)
  (hx : Con w ν F dx x) (hy : Con w ν F dy y) :
  (Op.equal t x y).run P w = .ok b w ∧ (x = .nilIface → y = .nilIface → nn = true) ∧ (∀ u v, x = .agg u → y = .agg v → P.eqGuardType P.depth t = false) ∧
  (∀ k n, x ≠ .int k n) ∧ (∀ s, x ≠ .string s) ∧ (∀ k n, x ≠ .float k n) ∧ (∀ k n q, x ≠ .complex k n q) := by
 unfold deq at h
 split at h
 ·rename_i a b' hc
  simp only [Con] at hx hy; subst hx hy; simp at h; subst h
  have := tcode_1 hc
  refine ⟨?_, by simp, by simp, by simp, by simp, by simp, by simp⟩
  exact eqIn_bool 9999 this _ _
 ·rename_i hc
  simp only [Con] at hx hy; subst hx hy; simp at h; subst h
  obtain ⟨e, hu⟩ := tcode_4 hc
  refine ⟨?_, by simp, by simp, by simp, by simp, by simp, by simp⟩
  exact eqIn_pn 9999 hu _
 ·rename_i hc
  simp only [Con] at hx hy; obtain ⟨l, bb, o, _, _, rfl, _⟩ := hx; subst hy; simp at h; subst h
  obtain ⟨e, hu⟩ := tcode_4 hc
  refine ⟨?_, by simp, by simp, by simp, by simp, by simp, by simp⟩
  exact eqIn_pn' 9999 hu _
 ·rename_i hc
  simp only [Con] at hx hy; obtain ⟨l, bb, o, _, _, rfl, _⟩ := hy; subst hx; simp at h; subst h
  obtain ⟨e, hu⟩ := tcode_4 hc
  refine ⟨?_, by simp, by simp, by simp, by simp, by simp, by simp⟩
  exact eqIn_pn 9999 hu _
 ·rename_i hc
  simp only [Con] at hx hy; obtain ⟨bb, o, rfl, _⟩ := hx; subst hy; simp at h; subst h
  obtain ⟨e, hu⟩ := tcode_4 hc
  refine ⟨?_, by simp, by simp, by simp, by simp, by simp, by simp⟩
  exact eqIn_pn' 9999 hu _
 ·rename_i hc
  simp only [Con] at hx hy; obtain ⟨bb, o, rfl, _⟩ := hy; subst hx; simp at h; subst h
  obtain ⟨e, hu⟩ := tcode_4 hc
  refine ⟨?_, by simp, by simp, by simp, by simp, by simp, by simp⟩
  exact eqIn_pn 9999 hu _
 ·rename_i hc
  simp only [Con] at hx hy; subst hx hy; simp at h; subst h
  obtain ⟨e, hu⟩ := tcode_5 hc
  refine ⟨?_, by simp, by simp, by simp, by simp, by simp, by simp⟩
  exact eqIn_sn 9999 hu _ _ _
 ·rename_i hc
  simp only [Con] at hx hy; rcases hx with ⟨bb, o, c, rfl, _⟩ | ⟨hnil, _⟩
  rotate_left
  ·simp at hnil
  subst hy; simp at h; subst h
  obtain ⟨e, hu⟩ := tcode_5 hc
  refine ⟨?_, by simp, by simp, by simp, by simp, by simp, by simp⟩
  exact eqIn_sn 9999 hu _ _ _
 ·rename_i hc
  simp only [Con] at hx hy; obtain ⟨l, bb, off, c, _, _, _, rfl, _⟩ := hx; subst hy; simp at h; subst h
  obtain ⟨e, hu⟩ := tcode_5 hc
  refine ⟨?_, by simp, by simp, by simp, by simp, by simp, by simp⟩
  exact eqIn_sn 9999 hu _ _ _
 ·rename_i hc
  simp only [Con] at hx hy; obtain ⟨y', rfl, _⟩ := hx; subst hy; simp at h; subst h
  obtain ⟨e, hu⟩ := tcode_6 hc
  refine ⟨?_, by simp, by simp, by simp, by simp, by simp, by simp⟩
  exact eqIn_in 9999 hu _ _
 ·rename_i hc
  simp only [Con] at hx hy; obtain ⟨y', rfl, _⟩ := hy; subst hx; simp at h; subst h
  obtain ⟨e, hu⟩ := tcode_6 hc
  refine ⟨?_, by simp, by simp, by simp, by simp, by simp, by simp⟩
  exact eqIn_ni 9999 hu _ _
 ·rename_i hc
  simp only [Con] at hx hy; subst hx hy
  split at h
  ·rename_i hn
   simp at h; subst h
   obtain ⟨e, hu⟩ := tcode_6 hc
   refine ⟨?_, fun _ _ => hn, by simp, by simp, by simp, by simp, by simp⟩
   exact eqIn_nn 9999 hu
  ·simp at h
 ·rename_i t1 k a t2 k' b' hc
  simp only [Con] at hx hy; obtain ⟨x', rfl, rfl⟩ := hx; obtain ⟨y', rfl, rfl⟩ := hy
  obtain ⟨e, hu⟩ := tcode_6 hc
  split at h
  ·rename_i hne
   simp at h; subst h
   refine ⟨?_, by simp, by simp, by simp, by simp, by simp, by simp⟩
   exact eqIn_ne 9999 hu _ _ hne
  ·rename_i hne
   split at h
   ·rename_i hcc
    simp only [ne_eq, Decidable.not_not] at hne
    subst hne
    simp only [Bool.and_eq_true, beq_iff_eq] at hcc
    obtain ⟨⟨hcomp, h2⟩, rfl⟩ := hcc
    obtain ⟨kk, hu2⟩ := tcode_2 h2
    simp at h; subst h
    refine ⟨?_, by simp, by simp, by simp, by simp, by simp, by simp⟩
    exact (eqIn_same 9999 hu _ _ hcomp).trans (eqIn_int 9998 hu2 _ _ _)
   ·simp at h
 ·rename_i t1 d1 t2 d2 _ hc
  simp only [Con] at hx hy; obtain ⟨x', rfl, _⟩ := hx; obtain ⟨y', rfl, _⟩ := hy
  obtain ⟨e, hu⟩ := tcode_6 hc
  split at h
  ·rename_i hne
   simp at h; subst h
   refine ⟨?_, by simp, by simp, by simp, by simp, by simp, by simp⟩
   exact eqIn_ne 9999 hu _ _ hne
  ·simp at h
 ·rename_i hc
  simp only [Con] at hx hy; obtain ⟨ys, zs, rfl, _⟩ := hx; subst hy; simp at h; subst h
  obtain ⟨e, f, g, hu⟩ := tcode_7 hc
  refine ⟨?_, by simp, by simp, by simp, by simp, by simp, by simp⟩
  exact eqIn_fn 9999 hu _ _ _
 ·rename_i hc
  simp only [Con] at hx hy; subst hx hy; simp at h; subst h
  obtain ⟨e, f, g, hu⟩ := tcode_7 hc
  refine ⟨?_, by simp, by simp, by simp, by simp, by simp, by simp⟩
  exact eqIn_fnn 9999 hu
 ·rename_i xs ys hc
  have hs := eqD_sound (w := w) (ν := ν) (F := F) 9980 20 t _ _ b h x y hx hy
  simp only [Con] at hx hy
  obtain ⟨X, rfl, hX, hX1⟩ := hx
  obtain ⟨Y, rfl, hY, hY1⟩ := hy
  refine ⟨hs, by simp, fun u v _ _ => ?_, by simp, by simp, by simp, by simp⟩
  unfold eqD at h
  split at h
  ·rename_i a b' hc' e1 e2; simp at e1
  ·rename_i a b' hc' e1 e2; simp at e1
  ·rename_i a b' hc' e1 e2; simp at e1
  ·split at h
   ·rename_i fs hfs
    unfold tsfl at hfs
    split at hfs
    ·split at hfs
     ·rename_i hcond; exact hcond.2.1
     ·simp at hfs
    ·simp at hfs
   ·simp at h
  ·simp at h
 ·simp at h
end
end Go.Proofs.Mv.V
namespace Go.Proofs.Mv.V

section
variable {P : Program} {w : World} {ν : Nu} {F : Nat → Prop}

theorem binOp_eql {t : TypeId} {x y : Value} (h1 : ∀ k n, x ≠ .int k n) (h2 : ∀ s, x ≠ .string s) (h3 : ∀ k n, x ≠ .float k n) (h4 : ∀ k n q, x ≠ .complex k n q) :
  binOp .eql t x y = (do pure (.bool (← Op.equal t x y))) := by
 cases x <;> first | exact absurd rfl (h1 _ _) | exact absurd rfl (h2 _) | exact absurd rfl (h3 _ _) | exact absurd rfl (h4 _ _ _) | (cases y <;> rfl)
theorem binOp_neq {t : TypeId} {x y : Value} (h1 : ∀ k n, x ≠ .int k n) (h2 : ∀ s, x ≠ .string s) (h3 : ∀ k n, x ≠ .float k n) (h4 : ∀ k n q, x ≠ .complex k n q) :
  binOp .neq t x y = (do pure (.bool (!(← Op.equal t x y)))) := by
 cases x <;> first | exact absurd rfl (h1 _ _) | exact absurd rfl (h2 _) | exact absurd rfl (h3 _ _) | exact absurd rfl (h4 _ _ _) | (cases y <;> rfl)

theorem run_eqGuard_int {op : BinOp} {t : TypeId} {x y : Operand} {k : IntKind} {n : Int} {v : Value} : (eqGuard op t x y (.int k n) v).run P w = .ok () w :=
 run_eqGuard_other (by simp) (by simp)
theorem run_eqGuard_str {op : BinOp} {t : TypeId} {x y : Operand} {s : ByteArray} {v : Value} : (eqGuard op t x y (.string s) v).run P w = .ok () w :=
 run_eqGuard_other (by simp) (by simp)

theorem run_unk {t : TypeId} {nn : Bool} {dx dy : D} {x y : Value} (h : unk P t dx dy = true) (hx : Con w ν F dx x) (hy : Con w ν F dy y) :
  ∃ b, (Op.equal t x y).run P w = .ok b w ∧ (x = .nilIface → y = .nilIface → nn = true) ∧ (∀ u v, x = .agg u → y = .agg v → P.eqGuardType P.depth t = false) ∧
  (∀ k n, x ≠ .int k n) ∧ (∀ s, x ≠ .string s) ∧ (∀ k n, x ≠ .float k n) ∧ (∀ k n q, x ≠ .complex k n q) := by
 unfold unk at h
 split at h
 ·rename_i z hc
  obtain ⟨e, hu⟩ := tcode_5 hc
  simp only [Con] at hx hy; subst hy
  rcases hx with ⟨b, o, c, rfl, _⟩ | ⟨_, a, rfl⟩
  ·exact ⟨_, eqIn_sn 9999 hu _ _ _, by simp, by simp, by simp, by simp, by simp, by simp⟩
  ·exact ⟨_, eqIn_sn 9999 hu _ _ _, by simp, by simp, by simp, by simp, by simp, by simp⟩
 ·rename_i hc
  obtain ⟨e, hu⟩ := tcode_5 hc
  simp only [Con] at hx hy; subst hy
  obtain ⟨a, rfl⟩ := hx
  exact ⟨_, eqIn_sn 9999 hu _ _ _, by simp, by simp, by simp, by simp, by simp, by simp⟩
 ·simp at h
theorem run_dbin {op : BinOp} {t : TypeId} {ox oy : Operand} {dx dy : D} {x y : Value} {O : Prop} {d : D}
  (h : dbin P op t (isConst ox || isConst oy) dx dy = some (O, d)) (hO : O) (hx : Con w ν F dx x) (hy : Con w ν F dy y) :
  ∃ v, (do eqGuard op t ox oy x y; binOp op t x y : Sem Value).run P w = .ok v w ∧ Con w ν F d v := by
 unfold dbin at h
 split at h
 ·simp only [Con] at hx hy; subst hx hy
  simp only [Option.map_eq_some_iff, Prod.mk.injEq] at h
  obtain ⟨⟨O', v⟩, h1, rfl, rfl⟩ := h
  refine ⟨v, ?_, by simp [Con]⟩
  simp only [Sem.run_bind, run_eqGuard_int, Result.andThen]; exact run_ishift h1 hO
 ·simp only [Con] at hx hy; subst hx hy
  simp only [Option.map_eq_some_iff, Prod.mk.injEq] at h
  obtain ⟨⟨O', v⟩, h1, rfl, rfl⟩ := h
  refine ⟨v, ?_, by simp [Con]⟩
  simp only [Sem.run_bind, run_eqGuard_int, Result.andThen]; exact run_ishift h1 hO
 ·simp only [Con] at hx hy; subst hx hy
  split at h
  ·rename_i hk
   subst hk
   simp only [Option.map_eq_some_iff, Prod.mk.injEq] at h
   obtain ⟨⟨O', v⟩, h1, rfl, rfl⟩ := h
   refine ⟨v, ?_, by simp [Con]⟩
   simp only [Sem.run_bind, run_eqGuard_int, Result.andThen]; exact run_ibin h1 hO
  ·simp at h
 ·simp only [Con] at hx hy; subst hx hy
  simp only [Option.map_eq_some_iff, Prod.mk.injEq] at h
  obtain ⟨⟨O', v⟩, h1, rfl, rfl⟩ := h
  refine ⟨v, ?_, by simp [Con]⟩
  simp only [Sem.run_bind, run_eqGuard_str, Result.andThen]; exact run_sbin h1 hO
 ·split at h
  ·rename_i hu
   simp only [Option.some.injEq, Prod.mk.injEq] at h; obtain ⟨rfl, rfl⟩ := h
   obtain ⟨b, hr, hn, ha, e1, e2, e3, e4⟩ := run_unk (nn := isConst ox || isConst oy) hu hx hy
   refine ⟨.bool b, ?_, by simp [Con]⟩
   simp only [Sem.run_bind, run_eqGuard_other hn ha, Result.andThen, binOp_eql e1 e2 e3 e4, hr, pure, Sem.run]
  simp only [Option.map_eq_some_iff, Prod.mk.injEq] at h
  obtain ⟨b, h1, rfl, rfl⟩ := h
  obtain ⟨hr, hn, ha, e1, e2, e3, e4⟩ := run_deq h1 hx hy
  refine ⟨.bool b, ?_, by simp [Con]⟩
  simp only [Sem.run_bind, run_eqGuard_other hn ha, Result.andThen, binOp_eql e1 e2 e3 e4, hr, pure, Sem.run]
 ·split at h
  ·rename_i hu
   simp only [Option.some.injEq, Prod.mk.injEq] at h; obtain ⟨rfl, rfl⟩ := h
   obtain ⟨b, hr, hn, ha, e1, e2, e3, e4⟩ := run_unk (nn := isConst ox || isConst oy) hu hx hy
   refine ⟨.bool !b, ?_, by simp [Con]⟩
   simp only [Sem.run_bind, run_eqGuard_other hn ha, Result.andThen, binOp_neq e1 e2 e3 e4, hr, pure, Sem.run]
  simp only [Option.map_eq_some_iff, Prod.mk.injEq] at h
  obtain ⟨b, h1, rfl, rfl⟩ := h
  obtain ⟨hr, hn, ha, e1, e2, e3, e4⟩ := run_deq h1 hx hy
  refine ⟨.bool !b, ?_, by simp [Con]⟩
  simp only [Sem.run_bind, run_eqGuard_other hn ha, Result.andThen, binOp_neq e1 e2 e3 e4, hr, pure, Sem.run]
 ·simp at h

/-! Aggregates. -/
theorem foldl_set (l : List Value) : ∀ (off i : Nat) (cs : Array Value), off + i + l.length ≤ cs.size →
  ((l.zipIdx i).foldl (fun cs (p : Value × Nat) => cs.setIfInBounds (off + p.2) p.1) cs).toList = cs.toList.take (off + i) ++ l ++ cs.toList.drop (off + i + l.length) := by
 induction l with
 | nil => intro off i cs h; simp
 | cons x r ih =>
  intro off i cs h
  simp only [List.length_cons] at h
  simp only [List.zipIdx_cons, List.foldl_cons]
  rw [ih off (i + 1) _ (by simp; omega)]
  simp only [Array.toList_setIfInBounds, List.length_cons]
  have e1 : (cs.toList.set (off + i) x).take (off + (i + 1)) = cs.toList.take (off + i) ++ [x] := by
   rw [show off + (i + 1) = (off + i) + 1 by omega, List.take_set, List.take_succ_eq_append_getElem (by simp; omega)]
   rw [List.set_append_right _ _ (by simp; omega)]
   have : (cs.toList.take (off + i)).length = off + i := by simp; omega
   simp [this]
  have e2 : (cs.toList.set (off + i) x).drop (off + (i + 1) + r.length) = cs.toList.drop (off + i + (r.length + 1)) := by
   rw [List.drop_set_of_lt (by omega)]; congr 1; omega
  rw [e1, e2]; simp

theorem run_fill {place : Nat → Option (Nat × Nat)} : ∀ (ps : List (Nat × D)) (vs : List (Nat × Value)) (cs : List D) (xs : Array Value) (out : List D),
  fillD place cs ps = some out → (ps.map (·.1) = vs.map (·.1)) → (∀ (i : Nat) (p : Nat × D) (v : Nat × Value), ps[i]? = some p → vs[i]? = some v → Con w ν F p.2 v.2) →
  ConVs w ν F cs xs.toList → (∀ x ∈ xs.toList, oneC x = true) →
  ∃ ys, Instr.fill place xs vs = some ys ∧ ConVs w ν F out ys.toList ∧ ∀ x ∈ ys.toList, oneC x = true := by
 intro ps
 induction ps with
 | nil =>
  intro vs cs xs out h hk hc hx h1
  cases vs with
  | nil => simp only [fillD, Option.some.injEq] at h; subst h; exact ⟨xs, rfl, hx, h1⟩
  | cons => simp at hk
 | cons p ps ih =>
  intro vs cs xs out h hk hc hx h1
  cases vs with
  | nil => simp at hk
  | cons v vs =>
   obtain ⟨i, d⟩ := p
   obtain ⟨j, y⟩ := v
   simp only [List.map_cons, List.cons.injEq] at hk
   obtain ⟨rfl, hk⟩ := hk
   unfold fillD at h
   unfold Instr.fill
   cases hp : place i with
   | none => simp [hp] at h
   | some pl =>
    obtain ⟨off, size⟩ := pl
    simp only [hp] at h ⊢
    have hcon := hc 0 (i, d) (i, y) rfl rfl
    split at h
    ·simp at h
    ·rename_i hcond
     simp only [Bool.or_eq_true, Bool.not_eq_true', decide_eq_true_eq, not_or, Bool.not_eq_false, ne_eq, Decidable.not_not, Nat.not_lt] at hcond
     obtain ⟨⟨hok, hlen⟩, hfit⟩ := hcond
     obtain ⟨hcc, hone⟩ := con_cells hcon hok
     have hyl : y.cells.size = (cellsOf d).length := by rw [conVs_length hcc]; simp
     have hxl : xs.size = cs.length := by rw [conVs_length hx]; simp
     rw [if_neg (by simp; omega)]
     refine ih vs _ _ out h hk (fun i p v h1 h2 => hc (i + 1) p v (by simpa using h1) (by simpa using h2)) ?_ ?_
     ·rw [← Array.foldl_toList, Array.toList_zipIdx]
      rw [foldl_set _ _ _ _ (by simp; omega)]
      simp only [Nat.add_zero]
      rw [show y.cells.toList.length = (cellsOf d).length by simpa using hyl]
      exact conVs_append (conVs_append (conVs_take hx off) hcc) (conVs_drop hx _)
     ·rw [← Array.foldl_toList, Array.toList_zipIdx]
      rw [foldl_set _ _ _ _ (by simp; omega)]
      intro x hx'
      simp only [Nat.add_zero, List.append_assoc, List.mem_append] at hx'
      rcases hx' with hx' | hx' | hx'
      ·exact h1 x (List.mem_of_mem_take hx')
      ·exact hone x hx'
      ·exact h1 x (List.mem_of_mem_drop hx')
end
end Go.Proofs.Mv.V
namespace Go.Proofs.Mv.V

section
variable {P : Program} {w : World} {ν : Nu} {F : Nat → Prop}

theorem tzero_some {t : TypeId} {zs : List Value} (h : tzero P t = some zs) : ∃ v, (zeroValue t).run P w = .ok v w ∧ v.cells.toList = zs ∧ ∀ x ∈ zs, oneC x = true := by
 unfold tzero at h
 split at h
 ·rename_i i hi
  split at h
  ·rename_i v hv
   split at h
   ·rename_i hall
    simp at h; subst h
    exact ⟨v, by simp [zeroValue, typeInfo, program, Sem.run_bind, Sem.run, pure, Result.andThen, hi, hv], rfl, fun x hx => List.all_eq_true.1 hall x hx⟩
   ·simp at h
  ·simp at h
 ·simp at h

theorem run_places (l : List Field) : ∀ pl, l.mapM (fun f => (tsz P f.type).map fun z => (f.offset, z)) = some pl →
  ((l.mapM fun f => (do pure (f.offset, ← sizeOf f.type) : Sem (Nat × Nat))) : Sem (List (Nat × Nat))).run P w = .ok pl w := by
 induction l with
 | nil => intro pl h; simp at h; subst h; simp [pure, Sem.run]
 | cons f r ih =>
  intro pl h
  simp only [List.mapM_cons, Option.bind_eq_bind, Option.bind_eq_some_iff, Option.map_eq_some_iff, Option.pure_def, Option.some.injEq] at h
  obtain ⟨x, ⟨z, hz, rfl⟩, y, hy, rfl⟩ := h
  have hi := ih y hy
  simp only [List.mapM_cons, Sem.run_bind, run_sizeOf' hz, Result.andThen, Sem.run_pure] at hi ⊢
  rw [hi]

theorem run_build {t : TypeId} {pl : List (Nat × Nat)} {zs : List Value} {ps : List (Nat × D)} {vs : Array (Nat × Value)} {cs : List D}
  (hp : tplaces P t = some pl) (hz : tzero P t = some zs) (h : fillD (fun f => pl[f]?) (zs.map .v) ps = some cs)
  (hk : ps.map (·.1) = vs.toList.map (·.1)) (hc : ∀ (i : Nat) (p : Nat × D) (v : Nat × Value), ps[i]? = some p → vs.toList[i]? = some v → Con w ν F p.2 v.2) :
  ∃ y, (Instr.build t vs).run P w = .ok y w ∧ Con w ν F (.agg cs) y := by
 unfold tplaces at hp
 split at hp
 ·rename_i fs hu
  obtain ⟨v, hv, hvz, hone⟩ := tzero_some (w := w) hz
  obtain ⟨ys, hf, hcon, h1⟩ := run_fill (w := w) (ν := ν) (F := F) ps vs.toList (zs.map .v) v.cells cs h hk hc (by rw [hvz]; exact conVs_v _) (by rw [hvz]; exact hone)
  refine ⟨.agg ys, ?_, ?_⟩
  ·unfold Instr.build
   simp only [Sem.run_bind, hv, Result.andThen, run_underlying' hu]
   have := run_places (P := P) (w := w) fs.toList pl hp
   rw [← Array.toList_mapM] at this
   cases hm : (fs.mapM fun f => (do pure (f.offset, ← sizeOf f.type) : Sem (Nat × Nat))).run P w with
   | halt h' w' =>
    have h2 : ((Array.toList <$> (fs.mapM fun f => (do pure (f.offset, ← sizeOf f.type) : Sem (Nat × Nat)))) : Sem _).run P w = .halt h' w' := by
     rw [map_eq_pure_bind, Sem.run_bind, hm]; rfl
    rw [this] at h2; cases h2
   | ok a w' =>
    have h2 : ((Array.toList <$> (fs.mapM fun f => (do pure (f.offset, ← sizeOf f.type) : Sem (Nat × Nat)))) : Sem _).run P w = .ok a.toList w' := by
     rw [map_eq_pure_bind, Sem.run_bind, hm]; rfl
    rw [this] at h2
    simp only [Result.ok.injEq] at h2
    obtain ⟨e1, e2⟩ := h2
    subst e2
    simp only []
    have e3 : (fun x : Nat => a[x]?) = fun x : Nat => pl[x]? := by funext x; rw [e1]; simp
    rw [e3, hf]
    simp [pure, Sem.run]
  ·simp only [Con]; exact ⟨ys, rfl, hcon, h1⟩
 ·simp at hp


theorem run_bounds {isS : Bool} {len : Nat} {cap : Nat} {lo hi : Option D} {vlo vhi : Option Value} {O : Prop} {l h : Nat} (hb : sbounds len lo hi = some (O, l, h)) (hO : O) (hcap : len ≤ cap)
  (hlo : ∀ d, lo = some d → ∃ v, vlo = some v ∧ Con w ν F d v) (hlo' : lo = none → vlo = none)
  (hhi : ∀ d, hi = some d → ∃ v, vhi = some v ∧ Con w ν F d v) (hhi' : hi = none → vhi = none) :
  (Instr.sliceBounds isS len cap vlo vhi none).run P w = .ok (l, h, cap) w ∧ l ≤ h ∧ h ≤ len := by
 unfold sbounds at hb
 split at hb
 ·rw [hlo' rfl, hhi' rfl]
  simp only [Option.some.injEq, Prod.mk.injEq] at hb; obtain ⟨rfl, rfl, rfl⟩ := hb
  exact ⟨by simp [Instr.sliceBounds, Sem.run_bind, pure, Sem.run, Result.andThen], by omega, by omega⟩
 ·rename_i k n
  obtain ⟨v, rfl, hv⟩ := hlo _ rfl
  simp only [Con] at hv; subst hv
  rw [hhi' rfl]
  simp only [Option.some.injEq, Prod.mk.injEq] at hb; obtain ⟨rfl, rfl, rfl⟩ := hb
  refine ⟨?_, by omega, by omega⟩
  simp [Instr.sliceBounds, Instr.sliceBound, asIntOf, Sem.run_bind, pure, Sem.run, Result.andThen, hO.1, hO.2]
 ·rename_i k n
  obtain ⟨v, rfl, hv⟩ := hhi _ rfl
  simp only [Con] at hv; subst hv
  rw [hlo' rfl]
  simp only [Option.some.injEq, Prod.mk.injEq] at hb; obtain ⟨rfl, rfl, rfl⟩ := hb
  refine ⟨?_, by omega, by omega⟩
  have : n ≤ cap := by omega
  simp [Instr.sliceBounds, Instr.sliceBound, asIntOf, Sem.run_bind, pure, Sem.run, Result.andThen, hO.1, this]
 ·rename_i k n k' n'
  obtain ⟨v, rfl, hv⟩ := hlo _ rfl
  obtain ⟨v', rfl, hv'⟩ := hhi _ rfl
  simp only [Con] at hv hv'; subst hv hv'
  simp only [Option.some.injEq, Prod.mk.injEq] at hb; obtain ⟨rfl, rfl, rfl⟩ := hb
  refine ⟨?_, by omega, by omega⟩
  have : n' ≤ cap := by omega
  have h0 : 0 ≤ n' := by omega
  have h3 : (n'.toNat : Int) = n' := by omega
  simp [Instr.sliceBounds, Instr.sliceBound, asIntOf, Sem.run_bind, pure, Sem.run, Result.andThen, hO.1, this, h0, h3, hO.2.1]
 ·simp at hb

theorem run_slice3 {t el : TypeId} {z : Nat} {a : Option Addr} {n c : Nat} {k k' : IntKind} (hu : P.underlying t = some (.slice el)) (hsz : tsz P el = some z) :
  (Instr.sliceAt t (.slice a n c) none (some (.int k 0)) (some (.int k' 0))).run P w = .ok (.slice a 0 0) w := by
 simp [Instr.sliceAt, Instr.slice, Instr.sliceBounds, Instr.sliceBound, asIntOf, Sem.run_bind, run_underlying' hu, Result.andThen, Sem.run_pure, run_sizeOf' hsz]
end
end Go.Proofs.Mv.V
namespace Go.Proofs.Mv.V

section
variable {P : Program} {w : World} {ν : Nu} {F : Nat → Prop}

theorem unB_bEnc (l : List UInt8) : unB (l.map bEnc) = l := by
 induction l with
 | nil => rfl
 | cons x r ih =>
  simp only [List.map_cons, bEnc, unB, ih]
  simp

theorem foldl_push (l : List UInt8) : ∀ acc : ByteArray, (l.map fun b => (b.toNat : Int)).foldl (fun r n => r.push (UInt8.ofNat n.toNat)) acc = acc ++ ofL l := by
 induction l with
 | nil => intro acc; simp [ofL]; apply ByteArray.ext; simp
 | cons x r ih =>
  intro acc
  simp only [List.map_cons, List.foldl_cons, ih]
  apply ByteArray.ext
  simp [ofL]

theorem empty_append (s : ByteArray) : ByteArray.empty ++ s = s := by apply ByteArray.ext; simp

theorem conEs_bytes {l : List UInt8} {b o : Nat} (h : ConEs w ν F 1 (l.map bEnc) b o) :
  ∀ (j : Nat) (y : Value), (l.map fun b => Value.int .u8 b.toNat)[j]? = some y → w.cell? ⟨b, o + j, none⟩ = some y := by
 induction l generalizing o with
 | nil => simp
 | cons x r ih =>
  simp only [List.map_cons, ConEs, bEnc, ConCs, Con] at h
  obtain ⟨_, ⟨⟨y, hy, _, rfl⟩, _⟩, hr⟩ := h
  intro j z hz
  cases j with
  | zero => simp at hz; subst hz; exact hy
  | succ j => rw [show o + (j + 1) = o + 1 + j by omega]; exact ih hr j z (by simpa using hz)

theorem tbyte_some {t : TypeId} (h : tbyte P t = true) : ∃ e, P.underlying t = some (.slice e) ∧ P.underlying e = some (.int .u8) := by
 unfold tbyte at h
 split at h
 ·rename_i e hu
  split at h
  ·rename_i he; exact ⟨e, hu, he⟩
  ·simp at h
 ·simp at h

theorem run_bytesString {src dst : TypeId} {l : List UInt8} {b o c : Nat} (hs : tbyte P src = true) (hd : tcode P dst = 3)
  (h : ∀ (j : Nat) (y : Value), (l.map fun b => Value.int .u8 b.toNat)[j]? = some y → w.cell? ⟨b, o + j, none⟩ = some y) :
  (convert src dst (.slice (some ⟨b, o, none⟩) l.length c)).run P w = .ok (.string (ofL l)) w := by
 obtain ⟨e, hu, he⟩ := tbyte_some hs
 rw [run_convert_bytes_string w src dst e _ _ _ hu he (tcode_3 hd)]
 rw [run_bytesToString w ⟨b, o, none⟩ l.length c (l.map fun b => (b.toNat : Int)) (by
  rw [run_loadCells (ys := l.map fun b => Value.int .u8 b.toNat) (by simp) h]
  simp [Function.comp_def])]
 rw [foldl_push, empty_append]

theorem run_nilString {src dst : TypeId} {a : Option Addr} {n : Nat} (hs : tbyte P src = true) (hd : tcode P dst = 3) :
  (convert src dst (.slice a 0 n)).run P w = .ok (.string .empty) w := by
 obtain ⟨e, hu, he⟩ := tbyte_some hs
 rw [run_convert_bytes_string w src dst e _ _ _ hu he (tcode_3 hd)]
 cases a with
 | none => rfl
 | some a =>
  rw [run_bytesToString w a 0 n [] (by rfl)]
  rfl

theorem tcode_slice {t : TypeId} {z b : Nat} (h : telem P t = some (z, b)) : ∃ e, P.underlying t = some (.slice e) ∧ tsz P e = some z ∧ 1 ≤ z := by
 obtain ⟨e, i, v, hu, hi, hz, _, h1, _⟩ := telem_some h
 exact ⟨e, hu, by simp [tsz, hi, hz], h1⟩

theorem run_fieldAt {s : TypeId} {f o z : Nat} {ag : Bool} {b c : Nat} (h : tfld P s f = some (o, ag, z)) :
  (Instr.fieldAt s (.pointer (some ⟨b, c, none⟩)) f).run P w = .ok (.pointer (some ⟨b, c + o, none⟩)) w := by
 obtain ⟨fs, fl, hu, hf, rfl, ha, hz, h1⟩ := tfld_some h
 have : ¬ z = 0 := by omega
 simp only [Instr.fieldAt, Instr.sureAddr, fieldPlace, Sem.run_bind, run_underlying' hu, Result.andThen, hf, Sem.run_pure, run_sizeOf' hz, this, if_false, addr_add]

theorem run_indexAt {t : TypeId} {z bb : Nat} {b o n c : Nat} {k : IntKind} {i : Int} (h : telem P t = some (z, bb)) (h0 : 0 ≤ i ∧ i < n) :
  (Instr.indexAt t (.slice (some ⟨b, o, none⟩) n c) (.int k i)).run P w = .ok (.pointer (some ⟨b, o + i.toNat * z, none⟩)) w := by
 obtain ⟨e, hu, hz, _⟩ := tcode_slice h
 simp only [Instr.indexAt, asIntOf, Sem.run_bind, Sem.run_pure, run_underlying' hu, Result.andThen]
 simp [h0, Sem.run_bind, run_sizeOf' hz, Result.andThen, Sem.run_pure, addr_add]
end
end Go.Proofs.Mv.V
namespace Go.Proofs.Mv.V

section
variable {P : Program} {w : World} {ν : Nu} {F : Nat → Prop}

theorem con_v (x : Value) : Con w ν F (.v x) x := by simp only [Con]

theorem opt_ev {σ : Nat → D} {a : Act} (hσ : ∀ i, Con w ν F (σ i) (a.tmps.getD i undef)) (x : Option Operand) :
  (∀ d, x.map (ev σ) = some d → ∃ v, x.map a.eval = some v ∧ Con w ν F d v) ∧ (x.map (ev σ) = none → x.map a.eval = none) := by
 cases x with
 | none => simp
 | some x => simp only [Option.map_some, Option.some.injEq, reduceCtorEq, false_implies, and_true]; rintro d rfl; exact ⟨_, rfl, con_ev hσ x⟩

theorem conVs_map {σ : Nat → D} {a : Act} (hσ : ∀ i, Con w ν F (σ i) (a.tmps.getD i undef)) (l : List Operand) :
  ConVs w ν F (l.map (ev σ)) (l.map a.eval) := by
 induction l with
 | nil => simp [ConVs]
 | cons x r ih => simp only [List.map_cons, ConVs]; exact ⟨_, _, rfl, con_ev hσ x, ih⟩

set_option maxHeartbeats 1000000 in
theorem pop_sound {o : Oper} {a : Act} {σ : Nat → D} {O : Prop} {d : D} (hσ : ∀ i, Con w ν F (σ i) (a.tmps.getD i undef)) (h : pop P σ o.op = some (O, d)) (hO : O) :
  ∃ y, (execOp a.eval o).run P w = .ok (.value y) w ∧ Con w ν F d y := by
 obtain ⟨dst, op, type, pos, after, guard⟩ := o
 cases op with
 | move x => simp only [pop, Option.some.injEq, Prod.mk.injEq] at h; obtain ⟨rfl, rfl⟩ := h; exact ⟨_, rfl, con_ev hσ x⟩
 | assign x => simp only [pop, Option.some.injEq, Prod.mk.injEq] at h; obtain ⟨rfl, rfl⟩ := h; exact ⟨_, rfl, con_ev hσ x⟩
 | pick c x y =>
  simp only [execOp]
  simp only [pop] at h
  have hc := con_ev hσ c
  split at h
  ·rename_i t e
   simp only [Option.some.injEq, Prod.mk.injEq] at h; obtain ⟨rfl, rfl⟩ := h
   rw [e] at hc; simp only [Con] at hc
   refine ⟨if t then a.eval x else a.eval y, ?_, ?_⟩
   ·simp only [hc, asBool, Sem.run_bind, Sem.run_pure, Result.andThen]
   ·cases t
    ·exact con_ev hσ y
    ·exact con_ev hσ x
  ·simp at h
 | nilCheck x =>
  simp only [execOp]
  simp only [pop] at h
  have hc := con_ev hσ x
  split at h
  ·rename_i k g i j e
   simp only [Option.some.injEq, Prod.mk.injEq] at h; obtain ⟨rfl, rfl⟩ := h
   rw [e] at hc
   have hc' := hc
   simp only [Con] at hc; obtain ⟨l, b, oo, _, _, he, _⟩ := hc
   exact ⟨a.eval x, by rw [he]; rfl, hc'⟩
  ·rename_i t cs e
   simp only [Option.some.injEq, Prod.mk.injEq] at h; obtain ⟨rfl, rfl⟩ := h
   rw [e] at hc
   have hc' := hc
   simp only [Con] at hc; obtain ⟨b, oo, he, _⟩ := hc
   exact ⟨a.eval x, by rw [he]; rfl, hc'⟩
  ·rename_i t d' e
   simp only [Option.some.injEq, Prod.mk.injEq] at h; obtain ⟨rfl, rfl⟩ := h
   rw [e] at hc
   have hc' := hc
   simp only [Con] at hc; obtain ⟨y', he, _⟩ := hc
   exact ⟨a.eval x, by rw [he]; rfl, hc'⟩
  ·rename_i f fs cs e
   simp only [Option.some.injEq, Prod.mk.injEq] at h; obtain ⟨rfl, rfl⟩ := h
   rw [e] at hc
   have hc' := hc
   simp only [Con] at hc; obtain ⟨ys, zs, he, _⟩ := hc
   exact ⟨a.eval x, by rw [he]; rfl, hc'⟩
  ·simp at h
 | binOp op t x y ty =>
  simp only [execOp]
  simp only [pop] at h
  obtain ⟨v, hr, hv⟩ := run_dbin (w := w) h hO (con_ev hσ x) (con_ev hσ y)
  exact ⟨v, by rw [Sem.run_bind, hr]; rfl, hv⟩
 | unOp op t x =>
  simp only [execOp]
  simp only [pop] at h
  have hc := con_ev hσ x
  split at h
  ·rename_i b e
   simp only [Option.some.injEq, Prod.mk.injEq] at h; obtain ⟨rfl, rfl⟩ := h
   rw [e] at hc; simp only [Con] at hc
   exact ⟨.bool !b, by rw [hc]; rfl, con_v _⟩
  ·rename_i k n e
   simp only [Option.some.injEq, Prod.mk.injEq] at h; obtain ⟨rfl, rfl⟩ := h
   rw [e] at hc; simp only [Con] at hc
   exact ⟨_, by rw [hc]; rfl, con_v _⟩
  ·simp at h
 | convert src dst x =>
  simp only [execOp]
  simp only [pop] at h
  have hc := con_ev hσ x
  split at h
  ·rename_i k n e
   split at h
   ·rename_i k' hk
    simp only [Option.some.injEq, Prod.mk.injEq] at h; obtain ⟨rfl, rfl⟩ := h
    rw [e] at hc; simp only [Con] at hc
    obtain ⟨ds, hs⟩ := tcode_ne0 hO
    refine ⟨.int k' (k'.wrap n), ?_, con_v _⟩
    rw [hc]
    simp only [convert, Sem.run_bind, run_underlying' hs, run_underlying' (tint_some hk), Result.andThen, Conv.intToInt, Sem.run_pure]
   ·simp at h
  ·rename_i s e
   split at h
   ·rename_i hk
    simp only [Option.some.injEq, Prod.mk.injEq] at h; obtain ⟨rfl, rfl⟩ := h
    rw [e] at hc; simp only [Con] at hc
    refine ⟨.string s, ?_, con_v _⟩
    rw [hc]
    simp only [convert, Sem.run_bind, run_underlying' (tcode_3 hk.1), run_underlying' (tcode_3 hk.2), Result.andThen, Sem.run_pure]
   ·simp at h
  ·rename_i z es e
   split at h
   ·rename_i hk
    simp only [Option.some.injEq, Prod.mk.injEq] at h; obtain ⟨rfl, rfl⟩ := h
    obtain ⟨he, rfl⟩ := hO
    rw [e] at hc; simp only [Con] at hc
    refine ⟨.string (ofL (unB es)), ?_, con_v _⟩
    rcases hc with ⟨b, oo, c, hy, hn, hF, hes⟩ | ⟨rfl, ad, hy⟩
    rotate_left
    ·rw [hy, Sem.run_bind, run_nilString hk.1 hk.2]; rfl
    rw [he] at hes
    have hl : es.length = (unB es).length := by
     have := congrArg List.length he; simpa using this
    rw [hy, hl, Sem.run_bind, run_bytesString hk.1 hk.2 (conEs_bytes hes)]
    rfl
   ·simp at h
  ·rename_i n c e
   split at h
   ·rename_i hk
    simp only [Option.some.injEq, Prod.mk.injEq] at h; obtain ⟨rfl, rfl⟩ := h
    rw [e] at hc; simp only [Con] at hc
    refine ⟨.string .empty, ?_, con_v _⟩
    obtain ⟨el, hu, he⟩ := tbyte_some hk.1
    rw [hc, Sem.run_bind, run_convert_bytes_string w src dst el _ _ _ hu he (tcode_3 hk.2)]
    rfl
   ·simp at h
  ·rename_i e
   split at h
   ·rename_i hk
    simp only [Option.some.injEq, Prod.mk.injEq] at h; obtain ⟨rfl, rfl⟩ := h
    rw [e] at hc; simp only [Con] at hc
    obtain ⟨ad, hy⟩ := hc
    refine ⟨.string .empty, ?_, con_v _⟩
    rw [hy, Sem.run_bind, run_nilString hk.1 hk.2]
    rfl
   ·simp at h
  ·simp at h
 | makeInterface t x =>
  simp only [execOp]
  simp only [pop] at h
  split at h
  ·simp at h
  ·rename_i hk
   simp only [Option.some.injEq, Prod.mk.injEq] at h; obtain ⟨rfl, rfl⟩ := h
   simp only [not_or] at hk
   obtain ⟨ds, hs⟩ := tcode_ne0 hk.2
   refine ⟨.iface t (a.eval x), ?_, ?_⟩
   ·simp only [Instr.makeInterface, Sem.run_bind, run_underlying' hs, Result.andThen]
    cases ds with
    | interface ms => exact absurd (by simp only [tcode, hs]) hk.1
    | _ => rfl
   ·simp only [Con]; exact ⟨_, rfl, con_ev hσ x⟩
 | makeFunc fn fs cs =>
  simp only [execOp]
  simp only [pop, Option.some.injEq, Prod.mk.injEq] at h; obtain ⟨rfl, rfl⟩ := h
  refine ⟨.func fn (fs.map a.eval) (cs.map a.eval), rfl, ?_⟩
  simp only [Con]
  exact ⟨_, _, rfl, by simpa using conVs_map hσ fs.toList, by simpa using conVs_map hσ cs.toList⟩
 | field t x f =>
  simp only [execOp]
  simp only [pop] at h
  have hc := con_ev hσ x
  split at h
  ·rename_i oo z cs hf e
   simp only [Option.some.injEq, Prod.mk.injEq] at h; obtain ⟨rfl, rfl⟩ := h
   rw [e] at hc; simp only [Con] at hc; obtain ⟨ys, hy, hcs, h1⟩ := hc
   obtain ⟨fsx, fl, hu, hfl, rfl, ha, hz, hz1⟩ := tfld_some hf
   obtain ⟨y, hr, hv⟩ := run_part (w := w) ha hz hcs h1 (by simpa using hO)
   refine ⟨y, ?_, by simpa using hv⟩
   rw [hy]
   simp only [Instr.field, Sem.run_bind, run_underlying' hu, Result.andThen, hfl, asAgg, Sem.run_pure, hr]
  ·rename_i oo z cs hf e
   simp only [Option.some.injEq, Prod.mk.injEq] at h; obtain ⟨rfl, rfl⟩ := h
   rw [e] at hc; simp only [Con] at hc; obtain ⟨ys, hy, hcs, h1⟩ := hc
   obtain ⟨fsx, fl, hu, hfl, rfl, ha, hz, hz1⟩ := tfld_some hf
   obtain ⟨y, hr, hv⟩ := run_part (w := w) ha hz hcs h1 (by simpa using hO)
   refine ⟨y, ?_, by simpa using hv⟩
   rw [hy]
   simp only [Instr.field, Sem.run_bind, run_underlying' hu, Result.andThen, hfl, asAgg, Sem.run_pure, hr]
  ·simp at h
 | index t x i =>
  simp only [execOp]
  simp only [pop] at h
  have hc := con_ev hσ x
  have hi := con_ev hσ i
  split at h
  ·rename_i s k n ht e1 e2
   simp only [Option.some.injEq, Prod.mk.injEq] at h; obtain ⟨rfl, rfl⟩ := h
   rw [e1] at hc; rw [e2] at hi; simp only [Con] at hc hi
   refine ⟨_, ?_, con_v _⟩
   have hlt : n.toNat < s.size := by omega
   have hg : s[n.toNat]? = some s[n.toNat] := by simp [hlt]
   have hd : s.data.toList.getD n.toNat 0 = s[n.toNat] := by
    have hlt' : n.toNat < s.data.toList.length := by simpa using hlt
    simp [List.getD_eq_getElem?_getD, List.getElem?_eq_getElem hlt']
    rfl
   rw [hc, hi, hd]
   simp only [Instr.index, asIntOf, Sem.run_bind, Sem.run_pure, run_underlying' (tcode_3 ht), Result.andThen, hO.1, if_true, hg]
  ·simp at h
 | extract x i =>
  simp only [execOp]
  simp only [pop] at h
  have hc := con_ev hσ x
  split at h
  ·rename_i ds e
   simp only [Option.some.injEq, Prod.mk.injEq] at h; obtain ⟨rfl, rfl⟩ := h
   rw [e] at hc; simp only [Con] at hc; obtain ⟨ys, hy, hcs⟩ := hc
   obtain ⟨y, hg, hd⟩ := conVs_get hcs i hO
   refine ⟨y, ?_, hd⟩
   have hg' : ys[i]? = some y := by simpa using hg
   rw [hy]
   simp only [Instr.extract, hg', Sem.run_bind, Sem.run_pure, Result.andThen]
  ·simp at h
 | build t ps =>
  simp only [execOp]
  simp only [pop] at h
  split at h
  ·rename_i pl zs hp hz
   split at h
   ·rename_i cs hf
    simp only [Option.some.injEq, Prod.mk.injEq] at h; obtain ⟨rfl, rfl⟩ := h
    obtain ⟨y, hr, hv⟩ := run_build (w := w) (ν := ν) (F := F) (vs := ps.map fun p => (p.1, a.eval p.2)) hp hz hf (by simp [Function.comp_def]) (by
     intro i p v h1 h2
     simp only [Array.toList_map, List.getElem?_map, Option.map_eq_some_iff] at h1 h2
     obtain ⟨q, hq, rfl⟩ := h1
     obtain ⟨q', hq', rfl⟩ := h2
     rw [hq] at hq'
     obtain rfl := Option.some.inj hq'
     exact con_ev hσ _)
    refine ⟨y, ?_, hv⟩
    rw [Sem.run_bind, hr]; rfl
   ·simp at h
  ·simp at h
 | slice t x lo hi mx =>
  simp only [execOp]
  simp only [pop] at h
  have hc := con_ev hσ x
  obtain ⟨hlo, hlo'⟩ := opt_ev hσ lo
  obtain ⟨hhi, hhi'⟩ := opt_ev hσ hi
  obtain ⟨hmx, hmx'⟩ := opt_ev hσ mx
  split at h
  ·rename_i s e
   split at h
   ·rename_i O' l h' hm0 hb
    split at h
    ·rename_i ht
     simp only [Option.some.injEq, Prod.mk.injEq] at h; obtain ⟨rfl, rfl⟩ := h
     have hm1 := hmx' hm0
     rw [e] at hc; simp only [Con] at hc
     obtain ⟨hr, _, _⟩ := run_bounds (P := P) (w := w) (isS := false) hb hO (Nat.le_refl _) hlo hlo' hhi hhi'
     refine ⟨_, ?_, con_v _⟩
     rw [hc, hm1]
     simp [Instr.sliceAt, Instr.slice, Sem.run_bind, run_underlying' (tcode_3 ht), Result.andThen, hr, Sem.run_pure]
    ·simp at h
   ·simp at h
  ·rename_i z es e
   split at h
   ·rename_i O' l h' hm0 hb
    split at h
    ·rename_i ht
     simp only [Option.some.injEq, Prod.mk.injEq] at h; obtain ⟨rfl, rfl⟩ := h
     have hm1 := hmx' hm0
     rw [e] at hc; simp only [Con] at hc
     rcases hc with ⟨b, oo, c, hy, hn, hF, hes⟩ | ⟨rfl, ad, hy⟩
     rotate_left
     ·obtain ⟨hr, hle, hle2⟩ := run_bounds (P := P) (w := w) (isS := true) (cap := 0) hb hO (Nat.le_refl _) hlo hlo' hhi hhi'
      obtain ⟨⟨z0, b0⟩, hte, hz⟩ := (Option.any_eq_true _ _).1 ht
      simp only [beq_iff_eq] at hz; subst hz
      obtain ⟨el, hu, hsz, h1⟩ := tcode_slice hte
      have e2 : h' = 0 := by simpa using hle2
      have e1 : l = 0 := by omega
      subst e1 e2
      simp only [List.length_nil] at hr
      refine ⟨.slice ad 0 0, ?_, ?_⟩
      ·rw [hy, hm1]
       simp [Instr.sliceAt, Instr.slice, Sem.run_bind, run_underlying' hu, Result.andThen, hr, Sem.run_pure, run_sizeOf' hsz]
      ·simp [Con]
     obtain ⟨hr, hle, hle2⟩ := run_bounds (P := P) (w := w) (isS := true) hb hO hn hlo hlo' hhi hhi'
     obtain ⟨⟨z0, b0⟩, hte, hz⟩ := (Option.any_eq_true _ _).1 ht
     simp only [beq_iff_eq] at hz; subst hz
     obtain ⟨el, hu, hsz, h1⟩ := tcode_slice hte
     by_cases hcl : c = l
     ·subst hcl
      refine ⟨.slice (some ⟨b, oo, none⟩) (h' - c) (c - c), ?_, ?_⟩
      ·rw [hy, hm1]
       simp [Instr.sliceAt, Instr.slice, Sem.run_bind, run_underlying' hu, Result.andThen, hr, Sem.run_pure, run_sizeOf' hsz]
      ·simp only [Con]
       have hnil : (es.take h').drop c = [] := List.drop_eq_nil_iff.2 (by simp; omega)
       refine .inl ⟨b, oo, c - c, ?_, ?_, hF, ?_⟩
       ·rw [hnil]; simp; omega
       ·rw [hnil]; simp
       ·rw [hnil]; simp [ConEs]
     ·refine ⟨.slice (some ⟨b, oo + l * z0, none⟩) (h' - l) (c - l), ?_, ?_⟩
      ·rw [hy, hm1]
       simp [Instr.sliceAt, Instr.slice, Sem.run_bind, run_underlying' hu, Result.andThen, hr, Sem.run_pure, run_sizeOf' hsz, hcl, addr_add]
      ·simp only [Con]
       refine .inl ⟨b, oo + l * z0, c - l, ?_, ?_, hF, conEs_drop (conEs_take hes h') l⟩
       ·simp; omega
       ·simp; omega
    ·simp at h
   ·rename_i q hmq _
    split at h
    ·rename_i k1 hh k2 cc e1 e2
     split at h
     ·rename_i ht
      simp only [Option.some.injEq, Prod.mk.injEq] at h; obtain ⟨rfl, rfl⟩ := h
      obtain ⟨rfl, rfl⟩ := hO
      obtain ⟨⟨z0, b0⟩, hte, hz⟩ := (Option.any_eq_true _ _).1 ht
      obtain ⟨el, hu, hsz, h1⟩ := tcode_slice hte
      rw [e] at hc
      obtain ⟨ad, nn, cp, hy⟩ : ∃ ad nn cp, a.eval x = .slice ad nn cp := by
       simp only [Con] at hc
       rcases hc with ⟨b, oo, c, hy, _⟩ | ⟨_, ad, hy⟩
       ·exact ⟨_, _, _, hy⟩
       ·exact ⟨_, _, _, hy⟩
      obtain ⟨vh, hvh, hvh'⟩ := hhi (.v (.int k1 0)) (by assumption)
      simp only [Con] at hvh'; subst hvh'
      obtain ⟨vq, hvq, hvq'⟩ := hmx (.v (.int k2 0)) (by assumption)
      simp only [Con] at hvq'; subst hvq'
      refine ⟨.slice ad 0 0, ?_, by simp only [Con]; exact ⟨ad, rfl⟩⟩
      rw [hy, hvh, hvq]
      simp only [Option.map_none, Sem.run_bind, run_slice3 hu hsz, Result.andThen, Sem.run_pure]
     ·simp at h
    ·simp at h
   ·simp at h
  ·rename_i k g oo n z e
   split at h
   ·rename_i O' l h' hm0 hb
    split at h
    ·rename_i ht
     simp only [Option.some.injEq, Prod.mk.injEq] at h; obtain ⟨rfl, rfl⟩ := h
     have hm1 := hmx' hm0
     rw [e] at hc; simp only [Con] at hc
     obtain ⟨lc, b, off, c, hlc, hg, hz2, hy, hn, hlive⟩ := hc
     obtain ⟨hr, hle, hle2⟩ := run_bounds (P := P) (w := w) (isS := true) hb hO hn hlo hlo' hhi hhi'
     obtain ⟨⟨z0, b0⟩, hte, hz⟩ := (Option.any_eq_true _ _).1 ht
     simp only [beq_iff_eq] at hz; subst hz
     obtain ⟨el, hu, hsz, h1⟩ := tcode_slice hte
     by_cases hcl : c = l
     ·subst hcl
      refine ⟨.slice (some ⟨b, off, none⟩) (h' - c) (c - c), ?_, ?_⟩
      ·rw [hy, hm1]
       simp [Instr.sliceAt, Instr.slice, Sem.run_bind, run_underlying' hu, Result.andThen, hr, Sem.run_pure, run_sizeOf' hsz]
      ·simp only [Con]
       refine ⟨lc, b, off, c - c, hlc, hg, hz2, rfl, by omega, fun hh => ?_⟩
       obtain ⟨rfl, ho, arr, el, f, ha, hs⟩ := hlive hh
       refine ⟨rfl, .inr (by omega), arr, el, f, ha, ?_⟩
       have : (c - c) * z0 ≤ c * z0 := Nat.mul_le_mul_right _ (by omega)
       omega
     ·refine ⟨.slice (some ⟨b, off + l * z0, none⟩) (h' - l) (c - l), ?_, ?_⟩
      ·rw [hy, hm1]
       simp [Instr.sliceAt, Instr.slice, Sem.run_bind, run_underlying' hu, Result.andThen, hr, Sem.run_pure, run_sizeOf' hsz, hcl, addr_add]
      ·simp only [Con]
       refine ⟨lc, b, off + l * z0, c - l, hlc, hg, hz2, rfl, by omega, fun hh => ?_⟩
       obtain ⟨rfl, ho, arr, el, f, ha, hs⟩ := hlive hh
       have hmul : (c - l) * z0 + l * z0 = c * z0 := by rw [← Nat.add_mul]; congr 1; omega
       refine ⟨rfl, ?_, arr, el, f, ha, by omega⟩
       rcases ho with ho | ho
       ·exact .inl (by rw [ho, Nat.add_mul])
       ·exact .inr (by omega)
    ·simp at h
   ·rename_i q hmq _
    split at h
    ·rename_i k1 hh k2 cc e1 e2
     split at h
     ·rename_i ht
      simp only [Option.some.injEq, Prod.mk.injEq] at h; obtain ⟨rfl, rfl⟩ := h
      obtain ⟨rfl, rfl⟩ := hO
      obtain ⟨⟨z0, b0⟩, hte, hz⟩ := (Option.any_eq_true _ _).1 ht
      obtain ⟨el, hu, hsz, h1⟩ := tcode_slice hte
      rw [e] at hc
      obtain ⟨ad, nn, cp, hy⟩ : ∃ ad nn cp, a.eval x = .slice ad nn cp := by
       simp only [Con] at hc
       obtain ⟨_, _, _, _, _, _, _, hy, _⟩ := hc
       exact ⟨_, _, _, hy⟩
      obtain ⟨vh, hvh, hvh'⟩ := hhi (.v (.int k1 0)) (by assumption)
      simp only [Con] at hvh'; subst hvh'
      obtain ⟨vq, hvq, hvq'⟩ := hmx (.v (.int k2 0)) (by assumption)
      simp only [Con] at hvq'; subst hvq'
      refine ⟨.slice ad 0 0, ?_, by simp only [Con]; exact ⟨ad, rfl⟩⟩
      rw [hy, hvh, hvq]
      simp only [Option.map_none, Sem.run_bind, run_slice3 hu hsz, Result.andThen, Sem.run_pure]
     ·simp at h
    ·simp at h
   ·simp at h
  ·rename_i e
   split at h
   ·rename_i O' l h' hm0 hb
    split at h
    ·rename_i ht
     simp only [Option.some.injEq, Prod.mk.injEq] at h; obtain ⟨rfl, rfl⟩ := h
     have hm1 := hmx' hm0
     rw [e] at hc; simp only [Con] at hc
     obtain ⟨hr, hle, hle2⟩ := run_bounds (P := P) (w := w) (isS := true) hb hO (Nat.le_refl _) hlo hlo' hhi hhi'
     obtain ⟨⟨z0, b0⟩, hte⟩ := Option.isSome_iff_exists.1 ht
     obtain ⟨el, hu, hsz, h1⟩ := tcode_slice hte
     refine ⟨.slice none 0 0, ?_, con_v _⟩
     have e1 : l = 0 := by omega
     have e2 : h' = 0 := by omega
     subst e1 e2
     rw [hc, hm1]
     simp [Instr.sliceAt, Instr.slice, Sem.run_bind, run_underlying' hu, Result.andThen, hr, Sem.run_pure, run_sizeOf' hsz]
    ·simp at h
   ·rename_i q hmq _
    split at h
    ·rename_i k1 hh k2 cc e1 e2
     split at h
     ·rename_i ht
      simp only [Option.some.injEq, Prod.mk.injEq] at h; obtain ⟨rfl, rfl⟩ := h
      obtain ⟨rfl, rfl⟩ := hO
      obtain ⟨⟨z0, b0⟩, hte⟩ := Option.isSome_iff_exists.1 ht
      obtain ⟨el, hu, hsz, h1⟩ := tcode_slice hte
      rw [e] at hc; simp only [Con] at hc
      obtain ⟨vh, hvh, hvh'⟩ := hhi (.v (.int k1 0)) (by assumption)
      simp only [Con] at hvh'; subst hvh'
      obtain ⟨vq, hvq, hvq'⟩ := hmx (.v (.int k2 0)) (by assumption)
      simp only [Con] at hvq'; subst hvq'
      refine ⟨.slice none 0 0, ?_, con_v _⟩
      rw [hc, hvh, hvq]
      simp only [Option.map_none, Sem.run_bind, run_slice3 hu hsz, Result.andThen, Sem.run_pure]
     ·simp at h
    ·simp at h
   ·simp at h
  ·rename_i e
   split at h
   ·rename_i O' l h' hm0 hb
    split at h
    ·rename_i ht
     simp only [Option.some.injEq, Prod.mk.injEq] at h; obtain ⟨rfl, rfl⟩ := h
     have hm1 := hmx' hm0
     rw [e] at hc; simp only [Con] at hc
     obtain ⟨ad, hc⟩ := hc
     obtain ⟨hr, hle, hle2⟩ := run_bounds (P := P) (w := w) (isS := true) hb hO (Nat.le_refl _) hlo hlo' hhi hhi'
     obtain ⟨⟨z0, b0⟩, hte⟩ := Option.isSome_iff_exists.1 ht
     obtain ⟨el, hu, hsz, h1⟩ := tcode_slice hte
     refine ⟨.slice ad 0 0, ?_, by simp only [Con]; exact ⟨ad, rfl⟩⟩
     have e1 : l = 0 := by omega
     have e2 : h' = 0 := by omega
     subst e1 e2
     rw [hc, hm1]
     simp [Instr.sliceAt, Instr.slice, Sem.run_bind, run_underlying' hu, Result.andThen, hr, Sem.run_pure, run_sizeOf' hsz]
    ·simp at h
   ·rename_i q hmq _
    split at h
    ·rename_i k1 hh k2 cc e1 e2
     split at h
     ·rename_i ht
      simp only [Option.some.injEq, Prod.mk.injEq] at h; obtain ⟨rfl, rfl⟩ := h
      obtain ⟨rfl, rfl⟩ := hO
      obtain ⟨⟨z0, b0⟩, hte⟩ := Option.isSome_iff_exists.1 ht
      obtain ⟨el, hu, hsz, h1⟩ := tcode_slice hte
      rw [e] at hc; simp only [Con] at hc
      obtain ⟨ad, hc⟩ := hc
      obtain ⟨vh, hvh, hvh'⟩ := hhi (.v (.int k1 0)) (by assumption)
      simp only [Con] at hvh'; subst hvh'
      obtain ⟨vq, hvq, hvq'⟩ := hmx (.v (.int k2 0)) (by assumption)
      simp only [Con] at hvq'; subst hvq'
      refine ⟨.slice ad 0 0, ?_, by simp only [Con]; exact ⟨ad, rfl⟩⟩
      rw [hc, hvh, hvq]
      simp only [Option.map_none, Sem.run_bind, run_slice3 hu hsz, Result.andThen, Sem.run_pure]
     ·simp at h
    ·simp at h
   ·simp at h
  ·simp at h
 | fieldAddr s x f =>
  simp only [execOp]
  simp only [pop] at h
  have hc := con_ev hσ x
  split at h
  ·rename_i oo ag z k g i j hf e
   simp only [Option.some.injEq, Prod.mk.injEq] at h; obtain ⟨rfl, rfl⟩ := h
   rw [e] at hc; simp only [Con] at hc
   obtain ⟨l, b, c, hl, hg, hy, hlive⟩ := hc
   refine ⟨.pointer (some ⟨b, c + oo, none⟩), ?_, ?_⟩
   ·rw [hy, Sem.run_bind, run_fieldAt hf]; rfl
   ·simp only [Con]
    refine ⟨l, b, c + oo, hl, hg, rfl, fun hh => ?_⟩
    obtain ⟨rfl, rfl⟩ := hlive hh
    exact ⟨rfl, by omega⟩
  ·rename_i oo ag z t cs hf e
   simp only [Option.some.injEq, Prod.mk.injEq] at h; obtain ⟨rfl, rfl⟩ := h
   rw [e] at hc; simp only [Con] at hc
   obtain ⟨b, c, hy, hF, ht, hcs⟩ := hc
   refine ⟨.pointer (some ⟨b, c + oo, none⟩), ?_, ?_⟩
   ·rw [hy, Sem.run_bind, run_fieldAt hf]; rfl
   ·simp only [Con]
    refine ⟨b, c + oo, rfl, hF, ?_, conCs_drop hcs oo⟩
    rcases ht with rfl | rfl
    ·exact .inl rfl
    ·exact .inr rfl
  ·simp at h
 | indexAddr t x i =>
  simp only [execOp]
  simp only [pop] at h
  have hc := con_ev hσ x
  have hi := con_ev hσ i
  split at h
  ·rename_i z bb z' es k n ht e1 e2
   split at h
   ·rename_i hz
    subst hz
    simp only [Option.some.injEq, Prod.mk.injEq] at h; obtain ⟨rfl, rfl⟩ := h
    rw [e1] at hc; rw [e2] at hi; simp only [Con] at hc hi
    rcases hc with ⟨b, oo, c, hy, hn, hF, hes⟩ | ⟨rfl, ad, hy⟩
    rotate_left
    ·simp at hO; omega
    refine ⟨.pointer (some ⟨b, oo + n.toNat * z, none⟩), ?_, ?_⟩
    ·rw [hy, hi, Sem.run_bind, run_indexAt ht hO]; rfl
    ·simp only [Con]
     exact ⟨b, _, rfl, hF, by simp, (conEs_get hes n.toNat (by omega)).2⟩
   ·simp at h
  ·rename_i z bb k g oo len z' kk n ht e1 e2
   split at h
   ·rename_i hz
    subst hz
    simp only [Option.some.injEq, Prod.mk.injEq] at h; obtain ⟨rfl, rfl⟩ := h
    rw [e1] at hc; rw [e2] at hi; simp only [Con] at hc hi
    obtain ⟨lc, b, off, c, hlc, hg, hz2, hy, hn, hlive⟩ := hc
    refine ⟨.pointer (some ⟨b, off + n.toNat * z, none⟩), ?_, ?_⟩
    ·rw [hy, hi, Sem.run_bind, run_indexAt ht hO]; rfl
    ·simp only [Con]
     refine ⟨lc, b, _, hlc, hg, rfl, fun hh => ?_⟩
     obtain ⟨rfl, ho, _⟩ := hlive hh
     refine ⟨rfl, ?_⟩
     rcases ho with ho | ho
     ·rw [ho, hz2, Nat.add_mul]; omega
     ·omega
   ·simp at h
  ·simp at h
 | load t x =>
  simp only [execOp]
  simp only [pop] at h
  have hc := con_ev hσ x
  split at h
  ·rename_i z tg cs ha hz e
   simp only [Option.some.injEq, Prod.mk.injEq] at h; obtain ⟨rfl, rfl⟩ := h
   rw [e] at hc; simp only [Con] at hc
   obtain ⟨b, c, hy, hF, ht, hcs⟩ := hc
   obtain ⟨y, hr, hv⟩ := run_loadVar (w := w) ha hz hcs (by simpa using hO)
   refine ⟨y, ?_, by simpa using hv⟩
   rw [hy]; simp only [Instr.loadAt, Instr.sureAddr, Sem.run_bind, Sem.run_pure, Result.andThen, hr]
  ·rename_i z tg cs ha hz e
   simp only [Option.some.injEq, Prod.mk.injEq] at h; obtain ⟨rfl, rfl⟩ := h
   rw [e] at hc; simp only [Con] at hc
   obtain ⟨b, c, hy, hF, ht, hcs⟩ := hc
   obtain ⟨y, hr, hv⟩ := run_loadVar (w := w) ha hz hcs (by simpa using hO)
   refine ⟨y, ?_, by simpa using hv⟩
   rw [hy]; simp only [Instr.loadAt, Instr.sureAddr, Sem.run_bind, Sem.run_pure, Result.andThen, hr]
  ·simp at h
 | call c =>
  simp only [execOp]
  obtain ⟨callee, args, argTypes⟩ := c
  simp only [pop] at h
  split at h
  ·rename_i x t hargs hty
   obtain rfl : args = #[x] := by rw [← Array.toArray_toList (xs := args), hargs]
   obtain rfl : argTypes = #[t] := by rw [← Array.toArray_toList (xs := argTypes), hty]
   have hc := con_ev hσ x
   have key : ∀ v, (Builtin.len_ #[t] type #[a.eval x]).run P w = .ok v w →
     (do let d ← resolve a.eval { callee := .builtin .len, args := #[x], argTypes := #[t] } type; invoke d.target d.args : Sem Next).run P w = .ok (.value v) w := by
    intro v hv
    simp [resolve, Sem.run_bind, Sem.run_pure, Result.andThen, invoke, builtin, hv]
   split at h
   ·rename_i s ht e
    simp only [Option.some.injEq, Prod.mk.injEq] at h; obtain ⟨rfl, rfl⟩ := h
    rw [e] at hc; simp only [Con] at hc
    refine ⟨_, key _ ?_, con_v _⟩
    rw [hc]; simp [Builtin.len_, Sem.run_bind, run_underlying' (tcode_3 ht), Result.andThen, Sem.run_pure, goInt]
   ·rename_i z es ht e
    simp only [Option.some.injEq, Prod.mk.injEq] at h; obtain ⟨rfl, rfl⟩ := h
    rw [e] at hc; simp only [Con] at hc
    obtain ⟨el, hu⟩ := tcode_5 ht
    refine ⟨_, key _ ?_, con_v _⟩
    rcases hc with ⟨b, oo, cc, hy, hn, hF, hes⟩ | ⟨rfl, ad, hy⟩
    rotate_left
    ·rw [hy]; simp [Builtin.len_, Sem.run_bind, run_underlying' hu, Result.andThen, Sem.run_pure, goInt]
    rw [hy]; simp [Builtin.len_, Sem.run_bind, run_underlying' hu, Result.andThen, Sem.run_pure, goInt]
   ·rename_i k g oo n z ht e
    simp only [Option.some.injEq, Prod.mk.injEq] at h; obtain ⟨rfl, rfl⟩ := h
    rw [e] at hc; simp only [Con] at hc
    obtain ⟨lc, b, off, cc, hlc, hg, hz2, hy, hn, hlive⟩ := hc
    obtain ⟨el, hu⟩ := tcode_5 ht
    refine ⟨_, key _ ?_, con_v _⟩
    rw [hy]; simp [Builtin.len_, Sem.run_bind, run_underlying' hu, Result.andThen, Sem.run_pure, goInt]
   ·rename_i ht e
    simp only [Option.some.injEq, Prod.mk.injEq] at h; obtain ⟨rfl, rfl⟩ := h
    rw [e] at hc; simp only [Con] at hc
    obtain ⟨el, hu⟩ := tcode_5 ht
    refine ⟨_, key _ ?_, con_v _⟩
    rw [hc]; simp [Builtin.len_, Sem.run_bind, run_underlying' hu, Result.andThen, Sem.run_pure, goInt]
   ·rename_i ht e
    simp only [Option.some.injEq, Prod.mk.injEq] at h; obtain ⟨rfl, rfl⟩ := h
    rw [e] at hc; simp only [Con] at hc
    obtain ⟨ad, hy⟩ := hc
    obtain ⟨el, hu⟩ := tcode_5 ht
    refine ⟨_, key _ ?_, con_v _⟩
    rw [hy]; simp [Builtin.len_, Sem.run_bind, run_underlying' hu, Result.andThen, Sem.run_pure, goInt]
   ·simp at h
  ·rename_i x t hargs hty
   obtain rfl : args = #[x] := by rw [← Array.toArray_toList (xs := args), hargs]
   obtain rfl : argTypes = #[t] := by rw [← Array.toArray_toList (xs := argTypes), hty]
   have hc := con_ev hσ x
   have key : ∀ v, (Builtin.cap_ #[t] type #[a.eval x]).run P w = .ok v w →
     (do let d ← resolve a.eval { callee := .builtin .cap, args := #[x], argTypes := #[t] } type; invoke d.target d.args : Sem Next).run P w = .ok (.value v) w := by
    intro v hv
    simp [resolve, Sem.run_bind, Sem.run_pure, Result.andThen, invoke, builtin, hv]
   split at h
   ·rename_i ht e
    simp only [Option.some.injEq, Prod.mk.injEq] at h; obtain ⟨rfl, rfl⟩ := h
    rw [e] at hc; simp only [Con] at hc
    obtain ⟨el, hu⟩ := tcode_5 ht
    refine ⟨_, key _ ?_, con_v _⟩
    rw [hc]; simp [Builtin.cap_, Sem.run_bind, run_underlying' hu, Result.andThen, Sem.run_pure, goInt]
   ·rename_i ht e
    simp only [Option.some.injEq, Prod.mk.injEq] at h; obtain ⟨rfl, rfl⟩ := h
    rw [e] at hc; simp only [Con] at hc
    obtain ⟨ad, hy⟩ := hc
    obtain ⟨el, hu⟩ := tcode_5 ht
    refine ⟨_, key _ ?_, con_v _⟩
    rw [hy]; simp [Builtin.cap_, Sem.run_bind, run_underlying' hu, Result.andThen, Sem.run_pure, goInt]
   ·simp at h
  ·simp at h
 | _ => simp [pop] at h
end
end Go.Proofs.Mv.V
namespace Go.Proofs.Mv.V
variable [GI]

section
variable {P : Program} {w w' : World} {ν : Nu} {F : Nat → Prop} {m : Mem} {n : Nat}

theorem cell?_cells {b o : Nat} {arr : Array Value} {e : TypeId} {f : Nat × Nat} (h : w.heap[b]? = some (.cells arr e f)) : w.cell? ⟨b, o, none⟩ = arr[o]? := by
 simp [World.cell?, h]

theorem conCs_of {b : Nat} {arr : Array Value} {e : TypeId} {f : Nat × Nat} (hb : w.heap[b]? = some (.cells arr e f)) :
  ∀ (cs : List D) (o : Nat) (ys : List Value), ConVs w ν F cs ys → (∀ x ∈ ys, oneC x = true) → (∀ j y, ys[j]? = some y → arr[o + j]? = some y) → ConCs w ν F cs b o := by
 intro cs
 induction cs with
 | nil => intro o ys _ _ _; simp [ConCs]
 | cons d ds ih =>
  intro o ys h h1 ha
  simp only [ConVs] at h
  obtain ⟨y, r, rfl, hd, hr⟩ := h
  simp only [ConCs]
  refine ⟨⟨y, ?_, h1 y (by simp), hd⟩, ih (o + 1) r hr (fun x hx => h1 x (by simp [hx])) ?_⟩
  ·rw [cell?_cells hb]; exact ha 0 y rfl
  ·intro j z hz; rw [show o + 1 + j = o + (j + 1) by omega]; exact ha (j + 1) z (by simpa using hz)

theorem conVs_split {a b : List D} {ys : List Value} (h : ConVs w ν F (a ++ b) ys) : ConVs w ν F a (ys.take a.length) ∧ ConVs w ν F b (ys.drop a.length) := by
 have h1 := conVs_take h a.length
 have h2 := conVs_drop h a.length
 simp at h1 h2
 exact ⟨h1, h2⟩

theorem conEs_of {b : Nat} {arr : Array Value} {e : TypeId} {f : Nat × Nat} (hb : w.heap[b]? = some (.cells arr e f)) (z : Nat) :
  ∀ (es : List (List D)) (o : Nat) (ys : List Value), (∀ x ∈ es, x.length = z) → ConVs w ν F es.flatten ys → (∀ x ∈ ys, oneC x = true) → (∀ j y, ys[j]? = some y → arr[o + j]? = some y) → ConEs w ν F z es b o := by
 intro es
 induction es with
 | nil => intro o ys _ _ _ _; simp [ConEs]
 | cons x r ih =>
  intro o ys hl h h1 ha
  simp only [List.flatten_cons] at h
  obtain ⟨h2, h3⟩ := conVs_split h
  have hx := hl x (by simp)
  simp only [ConEs]
  refine ⟨hx, conCs_of hb x o _ h2 (fun y hy => h1 y (List.mem_of_mem_take hy)) ?_, ih (o + z) _ (fun y hy => hl y (by simp [hy])) h3 (fun y hy => h1 y (List.mem_of_mem_drop hy)) ?_⟩
  ·intro j y hy
   refine ha j y ?_
   rw [List.getElem?_take] at hy
   split at hy <;> simp_all
  ·intro j y hy
   rw [List.getElem?_drop] at hy
   rw [show o + z + j = o + (x.length + j) by omega]
   exact ha _ y hy

theorem conEs_vals {z : Nat} {es : List (List D)} {b o : Nat} (h : ConEs w ν F z es b o) : ∃ ys, ConVs w ν F es.flatten ys ∧ ys.length = es.length * z ∧ (∀ x ∈ ys, oneC x = true) ∧
  ∀ j y, ys[j]? = some y → w.cell? ⟨b, o + j, none⟩ = some y := by
 induction es generalizing o with
 | nil => exact ⟨[], by simp [ConVs], by simp, by simp, by simp⟩
 | cons e es ih =>
  simp only [ConEs] at h
  obtain ⟨hl, hc, hr⟩ := h
  obtain ⟨xs, h1, h2, h3⟩ := conCs_vals hc
  obtain ⟨ys, h4, h5, h6, h7⟩ := ih hr
  have hxl : xs.length = z := by rw [← conVs_length h1, hl]
  refine ⟨xs ++ ys, by simpa using conVs_append h1 h4, by simp [h5, hxl, Nat.add_mul]; omega, ?_, ?_⟩
  ·intro x hx
   rcases List.mem_append.1 hx with hx | hx
   ·exact h2 x hx
   ·exact h6 x hx
  ·intro j y hy
   by_cases hj : j < xs.length
   ·rw [List.getElem?_append_left hj] at hy; exact h3 j y hy
   ·rw [List.getElem?_append_right (by omega)] at hy
    have := h7 _ y hy
    rw [show o + j = o + z + (j - xs.length) by omega]; exact this

theorem St.update {k n' : Nat} {o' : Obj} {b : Nat} {arr : Array Value} {e : TypeId} {f : Nat × Nat} (h : St w ν F m n) (hk : k < n') (hn : n ≤ n')
  (hsz : w.heap.size ≤ w'.heap.size) (hb : w'.heap[b]? = some (.cells arr e f)) (hoth : ∀ b', b' ≠ b → b' < w.heap.size → w'.heap[b']? = w.heap[b']?)
  (hF : ¬ F b) (hfr : f.1 = f.2 ∨ arr.size ≤ f.1)
  (hpres : ∀ arr0 e0 f0, w.heap[b]? = some (.cells arr0 e0 f0) → arr.size = arr0.size)
  (hold : ∀ l, ν k = some l → l.g ≤ o'.g ∧ o'.z = l.z ∧ (o'.g = l.g → l.b = b))
  (hdis : ∀ k' o l, k' ≠ k → m k' = some o → ν k' = some l → l.b ≠ b)
  (hcon : ∀ ν' : Nu, ν' = (fun j => if j = k then some ⟨b, o'.g, o'.z⟩ else ν j) → Ext w ν F w' ν' F → ConEs w' ν' F o'.z o'.es b 0)
  (hio : w'.os = w.os ∧ w'.output = w.output) :
  ∃ ν', ν' = (fun j => if j = k then some (⟨b, o'.g, o'.z⟩ : Loc) else ν j) ∧ Ext w ν F w' ν' F ∧ St w' ν' F (m.set k o') n' := by
 refine ⟨_, rfl, ?_⟩
 have hext : Ext w ν F w' (fun j => if j = k then some ⟨b, o'.g, o'.z⟩ else ν j) F := by
  refine ⟨hsz, fun b' hb' => ⟨hb', hoth b' (fun e => hF (e ▸ hb')) (h.mem.lt b' hb')⟩, ?_, ?_, hio⟩
  ·intro j l hl
   by_cases hj : j = k
   ·subst hj
    obtain ⟨h1, h2, h3⟩ := hold l hl
    exact ⟨⟨b, o'.g, o'.z⟩, by simp, h1, h2, fun e => (h3 e).symm⟩
   ·exact ⟨l, by simp [hj, hl], Nat.le_refl _, rfl, fun _ => rfl⟩
  ·intro j l l' hl hl' hg arr0 e0 f0 h0
   by_cases hlb : l.b = b
   ·rw [hlb] at h0 ⊢
    exact ⟨arr, e, f, hb, hpres _ _ _ h0⟩
   ·have hlt : l.b < w.heap.size := by
     rcases Nat.lt_or_ge l.b w.heap.size with h' | h'
     ·exact h'
     ·simp [Array.getElem?_eq_none h'] at h0
    rw [hoth l.b hlb hlt]
    exact ⟨arr0, e0, f0, h0, rfl⟩
 refine ⟨hext, ?_, ?_, GI.keep h.gi hext.fz⟩
 ·refine ⟨fun b' hb' => Nat.lt_of_lt_of_le (h.mem.lt b' hb') hsz, ?_, ?_⟩
  ·intro k1 k2 o1 o2 l1 l2 h1 h2 h3 h4 he
   simp only [Mem.set] at h1 h2
   by_cases e1 : k1 = k
   ·by_cases e2 : k2 = k
    ·rw [e1, e2]
    ·simp [e1] at h3; simp [e2] at h2 h4; subst h3
     exact absurd he.symm (hdis k2 o2 l2 e2 h2 h4)
   ·by_cases e2 : k2 = k
    ·simp [e2] at h4; simp [e1] at h1 h3; subst h4
     exact absurd he (hdis k1 o1 l1 e1 h1 h3)
    ·simp [e1] at h1 h3; simp [e2] at h2 h4
     exact h.mem.inj k1 k2 o1 o2 l1 l2 h1 h2 h3 h4 he
  ·intro j o ho
   simp only [Mem.set] at ho
   by_cases hj : j = k
   ·subst hj
    simp at ho; subst ho
    exact ⟨⟨b, o'.g, o'.z⟩, arr, e, f, by simp, rfl, rfl, hb, hF, hfr, hcon _ rfl hext⟩
   ·simp [hj] at ho
    obtain ⟨l, arr0, e0, f0, h1, h2, h3, h4, h5, h6, h7⟩ := h.mem.at_ j o ho
    have hlb : l.b ≠ b := hdis j o l hj ho h1
    have hlt : l.b < w.heap.size := by
     rcases Nat.lt_or_ge l.b w.heap.size with h' | h'
     ·exact h'
     ·simp [Array.getElem?_eq_none h'] at h4
    have hsame := hoth l.b hlb hlt
    exact ⟨l, arr0, e0, f0, by simp [hj, h1], h2, h3, by rw [hsame]; exact h4, h5, h6, ConEs.mono hext o.z o.es l.b 0 hsame h7⟩
 ·intro j hj
  have hjk : j ≠ k := by omega
  have := h.fresh j (by omega)
  simp [Mem.set, hjk, this]

theorem St.alloc {o' : Obj} {arr : Array Value} {e : TypeId} {f : Nat × Nat} {ys rest : List Value} (h : St w ν F m n)
  (hw : w'.heap = w.heap.push (.cells arr e f)) (hfr : f.1 = f.2 ∨ arr.size ≤ f.1) (harr : arr.toList = ys ++ rest)
  (hl : ∀ x ∈ o'.es, x.length = o'.z) (hc : ConVs w ν F o'.es.flatten ys) (h1 : ∀ x ∈ ys, oneC x = true) (hio : w'.os = w.os ∧ w'.output = w.output) :
  ∃ ν', ν' = (fun j => if j = n then some (⟨w.heap.size, o'.g, o'.z⟩ : Loc) else ν j) ∧ Ext w ν F w' ν' F ∧ St w' ν' F (m.set n o') (n + 1) := by
 have hb : w'.heap[w.heap.size]? = some (.cells arr e f) := by rw [hw]; simp
 have hfresh := h.fresh n (Nat.le_refl _)
 refine St.update h (by omega) (by omega) (by rw [hw]; simp) hb ?_ ?_ hfr ?_ ?_ ?_ ?_ hio
 ·intro b' hne hlt; rw [hw]; simp [Array.getElem?_push, hne]
 ·intro hF; exact absurd (h.mem.lt _ hF) (by omega)
 ·intro arr0 e0 f0 h0; simp at h0
 ·intro l hl; rw [hfresh.1] at hl; cases hl
 ·intro k' o l _ hm hl he
  obtain ⟨l', a', e', f', h2, _, _, h4, _⟩ := h.mem.at_ k' o hm
  rw [hl] at h2; cases h2
  rw [he] at h4; simp at h4
 ·intro ν' hν' hext
  refine conEs_of hb o'.z o'.es 0 ys hl (ConVs.mono hext _ _ hc) h1 ?_
  intro j y hy
  have : arr.toList[j]? = some y := by
   rw [harr, List.getElem?_append_left (by
    rcases Nat.lt_or_ge j ys.length with h' | h'
    ·exact h'
    ·simp [List.getElem?_eq_none h'] at hy)]
   exact hy
  simpa using this

theorem heap_setCell {b o : Nat} {v : Value} {arr : Array Value} {e : TypeId} {f : Nat × Nat} (h : w.heap[b]? = some (.cells arr e f)) :
  (w.setCell ⟨b, o, none⟩ v).heap[b]? = some (.cells (arr.setIfInBounds o v) e f) := by
 simp [World.setCell, Array.getElem?_modify, h]
theorem heap_setCell_ne {b o b' : Nat} {v : Value} (h : b' ≠ b) : (w.setCell ⟨b, o, none⟩ v).heap[b']? = w.heap[b']? := by
 simp [World.setCell, Array.getElem?_modify, Ne.symm h]
theorem size_setCell {a : Addr} {v : Value} : (w.setCell a v).heap.size = w.heap.size := by simp [World.setCell]

theorem run_storeCells {b : Nat} {e : TypeId} {f : Nat × Nat} : ∀ (ys : List Value) (o i : Nat) (arr : Array Value) (w : World), w.heap[b]? = some (.cells arr e f) →
  (∀ i, i < arr.size → ¬ (f.1 ≤ i ∧ i < f.2)) → o + i + ys.length ≤ arr.size → (∀ x ∈ ys, oneC x = true) →
  ∃ w', (storeCells ⟨b, o, none⟩ ys i).run P w = .ok () w' ∧ w'.heap.size = w.heap.size ∧ (∀ b', b' ≠ b → w'.heap[b']? = w.heap[b']?) ∧
   ∃ arr', w'.heap[b]? = some (.cells arr' e f) ∧ arr'.toList = arr.toList.take (o + i) ++ ys ++ arr.toList.drop (o + i + ys.length) ∧ w'.os = w.os ∧ w'.output = w.output := by
 intro ys
 induction ys with
 | nil => intro o i arr w h hf hl _; exact ⟨w, by simp [storeCells, pure, Sem.run], rfl, fun _ _ => rfl, arr, h, by simp, rfl, rfl⟩
 | cons y ys ih =>
  intro o i arr w h hf hl h1
  simp only [List.length_cons] at hl
  have hy := h1 y (by simp)
  have hc : w.cell? ⟨b, o + i, none⟩ = some arr[o + i] := by rw [cell?_cells h]; simp
  have hz : w.frozen? ⟨b, o + i, none⟩ = false := by
   simp only [World.frozen?, h]
   have := hf (o + i) (by omega)
   simpa [Classical.not_and_iff_not_or_not] using this
  have hst : (store ⟨b, o + i, none⟩ y).run P w = .ok () (w.setCell ⟨b, o + i, none⟩ y) := by
   unfold store
   cases y <;> first | (simp [Sem.run, hc, hz]; done) | (simp [oneC] at hy; done)
  have h' := heap_setCell (o := o + i) (v := y) h
  obtain ⟨w', hr, hs, ho, arr', ha, hl', hio⟩ := ih o (i + 1) _ _ h' (by simpa using hf) (by simp; omega) (fun x hx => h1 x (by simp [hx]))
  refine ⟨w', ?_, by rw [hs, size_setCell], fun b' hb' => by rw [ho b' hb', heap_setCell_ne hb'], arr', ha, ?_, hio⟩
  ·unfold storeCells
   rw [addr_add]
   simp only [Sem.run_bind, hst, Result.andThen, hr]
  ·rw [hl']
   simp only [Array.toList_setIfInBounds, List.length_cons]
   have e1 : (arr.toList.set (o + i) y).take (o + (i + 1)) = arr.toList.take (o + i) ++ [y] := by
    rw [show o + (i + 1) = (o + i) + 1 by omega, List.take_set, List.take_succ_eq_append_getElem (by simp; omega)]
    rw [List.set_append_right _ _ (by simp; omega)]
    have : (arr.toList.take (o + i)).length = o + i := by simp; omega
    simp [this]
   have e2 : (arr.toList.set (o + i) y).drop (o + (i + 1) + ys.length) = arr.toList.drop (o + i + (ys.length + 1)) := by
    rw [List.drop_set_of_lt (by omega)]; congr 1; omega
   rw [e1, e2]; simp
end
end Go.Proofs.Mv.V
