/- A part of the proofs: machine, contracts, laws. No condition of its own. -/
import Derived.Test.YtndinledjelleaaGreatDoorMvC
set_option linter.unusedSimpArgs false
set_option linter.unusedVariables false
set_option linter.unusedSectionVars false
namespace Go.Proofs.Mv.V
variable [GI]
def toMem (M : List Obj) : Mem := fun k => M[k]?
def sget (L : List D) : Nat → D := fun i => L.getD i undefD
/-! Texts. -/
def eqBy : List UInt8 → List UInt8 → Bool
 | [], [] => true
 | a :: l, b :: r => Nat.beq a.toNat b.toNat && eqBy l r
 | _, _ => false
theorem eqBy_iff : ∀ (a b : List UInt8), eqBy a b = (a == b)
 | [], [] => rfl
 | [], _ :: _ => rfl
 | _ :: _, [] => rfl
 | a :: l, b :: r => by
  have : Nat.beq a.toNat b.toNat = (a == b) := by
   rw [Bool.eq_iff_iff, Nat.beq_eq, beq_iff_eq, UInt8.toNat_inj]
  simp only [eqBy, eqBy_iff l r, this]; rfl
def byL (x : ByteArray) : List UInt8 := x.data.toList
theorem byL_toList (x : ByteArray) : x.toList = byL x := by rw [ByteArray.toList_eq]; rfl
theorem ofL_byL (x : ByteArray) : ofL (byL x) = x := rfl
def ltBy : List UInt8 → List UInt8 → Bool
 | _, [] => false
 | [], _ :: _ => true
 | a :: l, b :: r => Nat.blt a.toNat b.toNat || (Nat.beq a.toNat b.toNat && ltBy l r)
def sbinE (op : BinOp) (x y : ByteArray) : Option Value :=
 match op with
 | .add => if Nat.ble ((byL x).length + (byL y).length) 9223372036854775807 then some (.string (ofL (byL x ++ byL y))) else none
 | .eql => some (.bool (eqBy (byL x) (byL y)))
 | .neq => some (.bool !(eqBy (byL x) (byL y)))
 | .lss => some (.bool (ltBy (byL x) (byL y)))
 | .leq => some (.bool (ltBy (byL x) (byL y) || eqBy (byL x) (byL y)))
 | .gtr => some (.bool !(ltBy (byL x) (byL y) || eqBy (byL x) (byL y)))
 | .geq => some (.bool !(ltBy (byL x) (byL y)))
 | _ => none
mutual
def eqDE (P : Program) : Nat → TypeId → D → D → Option Bool
 | 0, _, _, _ => none
 | d + 1, t, x, y => match tcode P t, x, y with
  | 1, .v (.bool a), .v (.bool b) => some (a == b)
  | 2, .v (.int k a), .v (.int k' b) => if k = k' then some (a == b) else none
  | 3, .v (.string a), .v (.string b) => some (eqBy (byL a) (byL b))
  | 8, .agg xs, .agg ys => match tsfl P t with
   | some fs => eqFsE P d fs xs ys
   | none => none
  | _, _, _ => none
def eqFsE (P : Program) : Nat → List (Nat × TypeId × Bool × Nat) → List D → List D → Option Bool
 | _, [], _, _ => some true
 | d, (o, t, ag, z) :: fs, xs, ys => if (if ag then o + z ≤ xs.length ∧ o + z ≤ ys.length else o < xs.length ∧ o < ys.length) then
   match eqDE P d t (if ag then .agg ((xs.drop o).take z) else xs.getD o .any) (if ag then .agg ((ys.drop o).take z) else ys.getD o .any), eqFsE P d fs xs ys with
   | some a, some b => some (a && b)
   | _, _ => none
  else none
end
def isByE : List (List D) → Bool
 | [] => true
 | [.v (.int .u8 n)] :: r => decide (0 ≤ n) && decide (n < 256) && isByE r
 | _ => false
def bndE (len : Nat) (lo hi : Option D) : Option (Nat × Nat) :=
 match lo, hi with
 | none, none => some (0, len)
 | some (.v (.int _ l)), none => if decide (0 ≤ l) && decide (l ≤ len) then some (l.toNat, len) else none
 | none, some (.v (.int _ h)) => if decide (0 ≤ h) && decide (h ≤ len) then some (0, h.toNat) else none
 | some (.v (.int _ l)), some (.v (.int _ h)) => if decide (0 ≤ l) && decide (l ≤ h) && decide (h ≤ len) then some (l.toNat, h.toNat) else none
 | _, _ => none
def popOk (P : Program) (s : Nat → D) (op : Op) : Bool :=
 match op with
 | .binOp op _ x y _ => match op, ev s x, ev s y with
  | .quo, .v (.int _ _), .v (.int _ b) => decide (b ≠ 0)
  | .rem, .v (.int _ _), .v (.int _ b) => decide (b ≠ 0)
  | .shl, .v (.int _ _), .v (.int _ b) => decide (0 ≤ b)
  | .shr, .v (.int _ _), .v (.int _ b) => decide (0 ≤ b)
  | _, _, _ => true
 | .convert src _ x => match ev s x with
  | .v (.int _ _) => tcode P src != 0
  | .sl z es => isByE es && z == 1
  | _ => true
 | .field t x f => match tfld P t f, ev s x with
  | some (o, true, z), .agg cs => Nat.ble (o + z) cs.length
  | some (o, false, _), .agg cs => Nat.blt o cs.length
  | _, _ => true
 | .index _ x i => match ev s x, ev s i with
  | .v (.string b), .v (.int _ n) => decide (0 ≤ n) && decide (n < (byL b).length)
  | _, _ => true
 | .extract x i => match ev s x with
  | .tup ds => Nat.blt i ds.length
  | _ => true
 | .slice _ x lo hi mx => match mx with
  | none => match ev s x with
   | .sl _ es => (bndE es.length (lo.map (ev s)) (hi.map (ev s))).isSome
   | .own _ _ _ n _ => (bndE n (lo.map (ev s)) (hi.map (ev s))).isSome
   | .v (.slice none 0 0) => (bndE 0 (lo.map (ev s)) (hi.map (ev s))).isSome
   | .mt => (bndE 0 (lo.map (ev s)) (hi.map (ev s))).isSome
   | _ => false
  | some m => match hi.map (ev s), ev s m with
   | some (.v (.int _ h)), .v (.int _ c) => decide (h = 0) && decide (c = 0)
   | _, _ => false
 | .fieldAddr t x f => match tfld P t f, ev s x with
  | some (o, _, _), .rptr _ cs => Nat.ble o cs.length
  | _, _ => true
 | .indexAddr _ x i => match ev s x, ev s i with
  | .sl _ es, .v (.int _ n) => decide (0 ≤ n) && decide (n < es.length)
  | .own _ _ _ len _, .v (.int _ n) => decide (0 ≤ n) && decide (n < len)
  | _, _ => true
 | .load t a => match tagg P t, tsz P t, ev s a with
  | some true, some z, .rptr _ cs => Nat.ble z cs.length
  | some false, some _, .rptr _ cs => Nat.blt 0 cs.length
  | _, _, _ => true
 | _ => true
def popE (P : Program) (s : Nat → D) (op : Op) : Option D :=
 match op with
 | .binOp op t x y t' => match ev s x, ev s y with
  | .v (.string a), .v (.string b) => (sbinE op a b).map .v
  | .agg xs, .agg ys => match op with
   | .eql => if Nat.beq (tcode P t) 8 then (eqDE P 20 t (.agg xs) (.agg ys)).map fun b => .v (.bool b) else none
   | .neq => if Nat.beq (tcode P t) 8 then (eqDE P 20 t (.agg xs) (.agg ys)).map fun b => .v (.bool !b) else none
   | _ => none
  | _, _ => if popOk P s (.binOp op t x y t') then (pop P s (.binOp op t x y t')).map (·.2) else none
 | .slice t x lo hi mx => match ev s x with
  | .v (.string b) => match mx, bndE (byL b).length (lo.map (ev s)) (hi.map (ev s)) with
   | none, some (l, h) => if Nat.beq (tcode P t) 3 then some (.v (.string (ofL (((byL b).take h).drop l)))) else none
   | _, _ => none
  | _ => if popOk P s (.slice t x lo hi mx) then (pop P s (.slice t x lo hi mx)).map (·.2) else none
 | op => if popOk P s op then (pop P s op).map (·.2) else none

def elE (M : List Obj) (z : Nat) : D → Option (List (List D))
 | .sl z' es => if Nat.beq z' z then some es else none
 | .own k g o n z' => match M[k]? with
  | some ob => if Nat.beq z' z && Nat.beq ob.g g && Nat.ble (o + n) ob.es.length then some ((ob.es.drop o).take n) else none
  | none => none
 | .v (.slice none 0 0) => some []
 | .mt => some []
 | .v (.string s) => if Nat.beq z 1 then some ((byL s).map bEnc) else none
 | _ => none
def stepE (P : Program) (s : Nat → D) (M : List Obj) (op : Op) : Option (D × List Obj × Option Nat) :=
 match op with
 | .load t a => match ev s a with
  | .ptr k g i j => match tagg P t, tsz P t, M[k]? with
   | some b, some z, some o => if Nat.beq o.g g && Nat.blt i o.es.length then
     (if b then (if Nat.ble (j + z) (o.es.getD i []).length then some (.agg (((o.es.getD i []).drop j).take z), M, none) else none)
      else (if Nat.blt j (o.es.getD i []).length then some ((o.es.getD i []).getD j .any, M, none) else none)) else none
   | _, _, _ => none
  | _ => (popE P s (.load t a)).map fun d => (d, M, none)
 | .store t a x => match tsz P t, ev s a with
  | some z, .ptr k g i j => match M[k]? with
   | some o => if Nat.beq o.g g && Nat.blt i o.es.length && Nat.ble (j + z) (o.es.getD i []).length && okD (ev s x) && Nat.beq (cellsOf (ev s x)).length z then
     some (undefD, M.set k ⟨o.z, o.es.set i ((o.es.getD i []).take j ++ cellsOf (ev s x) ++ (o.es.getD i []).drop (j + z)), o.g⟩, some k) else none
   | none => none
  | _, _ => none
 | .alloc t => match tzero P t with
  | some zs => some (.ptr M.length 0 0 0, M ++ [⟨zs.length, [zs.map .v], 0⟩], none)
  | none => none
 | .box _ x => if okD (ev s x) then some (.ptr M.length 0 0 0, M ++ [⟨(cellsOf (ev s x)).length, [cellsOf (ev s x)], 0⟩], none) else none
 | .buildSlice t len ps => match telem P t, tezero P t with
  | some (z, _), some zs => match fillE z (List.replicate len (zs.map .v)) (ps.toList.map fun p => (p.1, ev s p.2)) with
   | some es => if Nat.ble (len * z) 16777216 then some (.own M.length 0 0 len z, M ++ [⟨z, es, 0⟩], none) else none
   | none => none
  | _, _ => none
 | .makeSlice t l c => match telem P t, tezero P t, ev s l, ev s c with
  | some (z, b), some zs, .v (.int _ l), .v (.int _ c) => if decide (0 ≤ l) && decide (l ≤ c) && decide (c ≤ 70368744177664) && decide (b * c ≤ 70368744177664) then
    some (.own M.length 0 0 l.toNat z, M ++ [⟨z, List.replicate l.toNat (zs.map .v), 0⟩], none) else none
  | _, _, _, _ => none
 | .convert src dst x => match ev s x with
  | .v (.string b) => if Nat.beq (tcode P src) 3 && Nat.beq (tcode P dst) 3 then some (.v (.string b), M, none)
   else if Nat.beq (tcode P src) 3 && tbyte P dst then some (.own M.length 0 0 (byL b).length 1, M ++ [⟨1, (byL b).map bEnc, 0⟩], none) else none
  | .own k g o len z => match M[k]? with
   | some ob => if Nat.beq (tcode P dst) 3 then (if tbyte P src && Nat.beq ob.g g && Nat.beq z 1 && Nat.ble (o + len) ob.es.length && isByE ((ob.es.drop o).take len) then some (.v (.string (ofL (unB ((ob.es.drop o).take len)))), M, none) else none) else none
   | none => none
  | _ => (popE P s (.convert src dst x)).map fun d => (d, M, none)
 | .call c => match c.callee, c.args.toList, c.argTypes.toList with
  | .builtin .append, [x, y], [t, t'] => match tint P t', telem P t with
   | none, some (z, b) => match elE M z (ev s y) with
    | some xs => if Nat.beq (tcode P t') 0 || Nat.beq b 0 then none else match ev s x with
     | .own k g o len z' => match M[k]? with
      | some ob => if Nat.beq z' z && Nat.beq o 0 && Nat.beq ob.g g && Nat.ble len ob.es.length && Nat.ble ((len + xs.length) * b) 140737488355328 then
        some (.own k (g + 1) 0 (len + xs.length) z, M.set k ⟨z, ob.es.take len ++ xs, g + 1⟩, some k) else none
      | none => none
     | .v (.slice none 0 0) => match xs with
      | [] => some (.v (.slice none 0 0), M, none)
      | y :: xs => if Nat.ble ((xs.length + 1) * b) 140737488355328 then some (.own M.length 0 0 (xs.length + 1) z, M ++ [⟨z, y :: xs, 0⟩], none) else none
     | .mt => match xs with
      | [] => some (.mt, M, none)
      | y :: xs => if Nat.ble ((xs.length + 1) * b) 140737488355328 then some (.own M.length 0 0 (xs.length + 1) z, M ++ [⟨z, y :: xs, 0⟩], none) else none
     | _ => none
    | none => none
   | _, _ => none
  | _, _, _ => (popE P s (.call c)).map fun d => (d, M, none)
 | op => (popE P s op).map fun d => (d, M, none)
def detE (P : Program) (s : Nat → D) (M : List Obj) (op : Op) : Option (D × Option Nat) :=
 match op with
 | .load t a => match ev s a with
  | .ptr k g i j => (stepE P s M (.load t a)).map fun r => (r.1, some k)
  | _ => (popE P s (.load t a)).map fun d => (d, none)
 | .convert src dst x => match ev s x with
  | .own k g o n z => (stepE P s M (.convert src dst x)).map fun r => (r.1, some k)
  | .v (.string b) => if Nat.beq (tcode P src) 3 && Nat.beq (tcode P dst) 3 then some (.v (.string b), none) else none
  | _ => (popE P s (.convert src dst x)).map fun d => (d, none)
 | op => (popE P s op).map fun d => (d, none)
/-! Are two data the same? -/
def eqVE : Value → Value → Bool
 | .int k a, .int k' b => decide (k = k') && decide (a = b)
 | .bool a, .bool b => a == b
 | .string a, .string b => eqBy (byL a) (byL b)
 | .pointer none, .pointer none => true
 | .slice none 0 0, .slice none 0 0 => true
 | .nilIface, .nilIface => true
 | .nilFunc, .nilFunc => true
 | _, _ => false
def eqFnE : Fn → Fn → Bool
 | .func a, .func b => Nat.beq a b
 | _, _ => false
mutual
def eqE : D → D → Bool
 | .v a, .v b => eqVE a b
 | .any, .any => true
 | .ptr k g i j, .ptr k' g' i' j' => Nat.beq k k' && Nat.beq g g' && Nat.beq i i' && Nat.beq j j'
 | .rptr none l, .rptr none l' => eqLE l l'
 | .sl z l, .sl z' l' => Nat.beq z z' && eqLLE l l'
 | .own k g o n z, .own k' g' o' n' z' => Nat.beq k k' && Nat.beq g g' && Nat.beq o o' && Nat.beq n n' && Nat.beq z z'
 | .mt, .mt => true
 | .bb, .bb => true
 | .iface t d, .iface t' d' => Nat.beq t t' && eqE d d'
 | .func f a b, .func f' a' b' => eqFnE f f' && eqLE a a' && eqLE b b'
 | .agg l, .agg l' => eqLE l l'
 | .tup l, .tup l' => eqLE l l'
 | _, _ => false
def eqLE : List D → List D → Bool
 | [], [] => true
 | a :: l, b :: r => eqE a b && eqLE l r
 | _, _ => false
def eqLLE : List (List D) → List (List D) → Bool
 | [], [] => true
 | a :: l, b :: r => eqLE a b && eqLLE l r
 | _, _ => false
end
def eqME : List Obj → List Obj → Bool
 | [], [] => true
 | a :: l, b :: r => Nat.beq a.z b.z && Nat.beq a.g b.g && eqLLE a.es b.es && eqME l r
 | _, _ => false
/-! Code. -/
inductive Ex where
 | normal
 | exit (id : Nat)
 | ret
abbrev CallE := FuncId → List D → List Obj → Option (D × List Obj × List Nat)
def addK (k : Option Nat) (l : List Nat) : List Nat := match k with | some k => k :: l | none => l
def setE (N : Nat) (L : List D) (dst : Option Tmp) (d : D) : Option (List D) :=
 match dst with
 | some t => if Nat.blt t N then some (L.set t d) else none
 | none => some L
def wopE (P : Program) (call : CallE) (s : Nat → D) (M : List Obj) (op : Op) : Option (D × List Obj × List Nat) :=
 match op with
 | .call { callee := .value f, args, .. } => match ev s f with
  | .func (.func id) fs cs => call id (fs ++ args.toList.map (ev s) ++ cs) M
  | _ => none
 | op => (stepE P s M op).map fun r => (r.1, r.2.1, addK r.2.2 [])
def opsE (P : Program) (call : CallE) (N : Nat) (ops : Array Oper) : List Oper → List D → List Obj → List Nat → Option (List D × List Obj × List Nat)
 | [], L, M, W => some (L, M, W)
 | o :: r, L, M, W => match guarded ops o (sget L) with
  | some true => match wopE P call (sget L) M o.op with
   | some (d, M', W') => match setE N L o.dst d with
    | some L' => opsE P call N ops r L' M' (W' ++ W)
    | none => none
   | none => none
  | some false => match setE N L o.dst undefD with
   | some L' => opsE P call N ops r L' M W
   | none => none
  | none => none
def Trs.isNil : Trs → Bool
 | .nil => true
 | _ => false
abbrev StE := List (Nat × Nat) × List D × List Obj × List Nat
def oneE (P : Program) (call : CallE) (N : Nat) (ops : Array Oper) (mk : List Nat) (i : Nat) (E : List (Nat × Nat)) (L : List D) (M : List Obj) (W : List Nat) : Option StE :=
 match ops[i]? with
 | none => none
 | some o => match guarded ops o (sget L) with
  | none => none
  | some false => (setE N L o.dst undefD).map fun L' => (E, L', M, W)
  | some true => if Nat.ble (cls o.op) 1 then match detE P (sget L) M o.op with
    | some (d, k) => (setE N L o.dst d).map fun L' => ((match k with | some k => (i, k) :: E | none => E), L', M, W)
    | none => none
   else match wopE P call (sget L) M o.op with
    | some (d, M', W') => if E.all fun p => (mk.getD i 0).testBit p.1 || !(W'.contains p.2 || Nat.ble M.length p.2) then (setE N L o.dst d).map fun L' => (E, L', M', W' ++ W) else none
    | none => none
mutual
def treeE (P : Program) (call : CallE) (N : Nat) (ops : Array Oper) (mk : List Nat) : Tr → List (Nat × Nat) → List D → List Obj → List Nat → Option (List D × List Obj × List Nat)
 | .fin, E, L, M, W => some (L, M, W)
 | .rd i t, E, L, M, W => match oneE P call N ops mk i E L M W with
  | some (E', L', M', W') => treeE P call N ops mk t E' L' M' W'
  | none => none
 | .wr ts, E, L, M, W => treesE P call N ops mk ts E L M W
def treesE (P : Program) (call : CallE) (N : Nat) (ops : Array Oper) (mk : List Nat) : Trs → List (Nat × Nat) → List D → List Obj → List Nat → Option (List D × List Obj × List Nat)
 | .nil, _, _, _, _ => none
 | .cons i t ts, E, L, M, W => match oneE P call N ops mk i E L M W with
  | some (E', L', M', W') => match treeE P call N ops mk t E' L' M' W' with
   | some (L1, M1, W1) => if ts.isNil then some (L1, M1, W1) else match treesE P call N ops mk ts E L M W with
    | some (L2, M2, _) => if eqLE L1 L2 && eqME M1 M2 then some (L1, M1, W1) else none
    | none => none
   | none => none
  | none => none
end
def mkTr (ops : Array Oper) : Nat → Nat → Tr
 | 0, _ => .fin
 | f + 1, done => match (List.range ops.size).filter fun i => rdy ops i done with
  | [] => .fin
  | l => match l.find? (readI ops) with
   | some i => .rd i (mkTr ops f (done ||| 1 <<< i))
   | none => .wr (l.foldr (fun i ts => .cons i (mkTr ops f (done ||| 1 <<< i)) ts) .nil)
def drawE (P : Program) (call : CallE) (N : Nat) (ops : Array Oper) (L : List D) (M : List Obj) (W : List Nat) : Option (List D × List Obj × List Nat) :=
 if masksOk ops (masks ops) && okTr ops (masks ops) (mkTr ops ops.size 0) 0 then treeE P call N ops (masks ops) (mkTr ops ops.size 0) [] L M W else none
def codeE (P : Program) (call : CallE) (N : Nat) : Nat → Code → List D → List Obj → List Nat → Option (Ex × List D × List Obj × List Nat)
 | 0, _, _, _, _ => none
 | f + 1, c, L, M, W => match c with
  | .skip => some (.normal, L, M, W)
  | .label _ => some (.normal, L, M, W)
  | .exit id => some (.exit id, L, M, W)
  | .ret => some (.ret, L, M, W)
  | .region _ ops false => (opsE P call N ops ops.toList L M W).map fun r => (.normal, r)
  | .region _ ops true => (drawE P call N ops L M W).map fun r => (.normal, r)
  | .seq x y => match codeE P call N f x L M W with
   | some (.normal, L', M', W') => codeE P call N f y L' M' W'
   | r => r
  | .cond o x y => match ev (sget L) o with
   | .v (.bool true) => codeE P call N f x L M W
   | .v (.bool false) => codeE P call N f y L M W
   | _ => none
  | .block id x => match codeE P call N f x L M W with
   | some (.exit id', L', M', W') => if Nat.beq id' id then some (.normal, L', M', W') else some (.exit id', L', M', W')
   | r => r
  | .loop x => match codeE P call N f x L M W with
   | some (.normal, L', M', W') => codeE P call N f (.loop x) L' M' W'
   | r => r
  | _ => none
def resE (P : Program) (L : List D) (M : List Obj) : List ResultVar → Option (List D)
 | [] => some []
 | .tmp t :: r => (resE P L M r).map (sget L t :: ·)
 | .cell a t :: r => match stepE P (sget L) M (.load t (.tmp a)), resE P L M r with
  | some (d, _, _), some ds => some (d :: ds)
  | _, _ => none
/-! What a call hands back, without its own memory. -/
mutual
def pubE (M : List Obj) (n0 : Nat) : Nat → D → Option D
 | 0, _ => none
 | f + 1, .v x => some (.v x)
 | f + 1, .any => some .any
 | f + 1, .mt => some .mt
 | f + 1, .bb => some .bb
 | f + 1, .ptr k g i j => if Nat.blt k n0 then some (.ptr k g i j) else match M[k]? with
  | some o => if Nat.beq o.g g && Nat.blt i o.es.length then (pubLE M n0 f ((o.es.getD i []).drop j)).map (.rptr none) else none
  | none => none
 | f + 1, .own k g o len z => if Nat.blt k n0 then some (.own k g o len z) else match M[k]? with
  | some ob => if Nat.beq ob.g g && Nat.ble (o + len) ob.es.length && Nat.beq ob.z z then (pubLLE M n0 f ((ob.es.drop o).take len)).map (.sl z) else none
  | none => none
 | f + 1, .rptr _ cs => (pubLE M n0 f cs).map (.rptr none)
 | f + 1, .sl z es => (pubLLE M n0 f es).map (.sl z)
 | f + 1, .iface t d => (pubE M n0 f d).map (.iface t)
 | f + 1, .func fn fs cs => match pubLE M n0 f fs, pubLE M n0 f cs with
  | some a, some b => some (.func fn a b)
  | _, _ => none
 | f + 1, .agg cs => (pubLE M n0 f cs).map .agg
 | f + 1, .tup cs => (pubLE M n0 f cs).map .tup
def pubLE (M : List Obj) (n0 : Nat) : Nat → List D → Option (List D)
 | 0, _ => none
 | f + 1, [] => some []
 | f + 1, d :: l => match pubE M n0 f d, pubLE M n0 f l with
  | some a, some b => some (a :: b)
  | _, _ => none
def pubLLE (M : List Obj) (n0 : Nat) : Nat → List (List D) → Option (List (List D))
 | 0, _ => none
 | f + 1, [] => some []
 | f + 1, d :: l => match pubLE M n0 f d, pubLLE M n0 f l with
  | some a, some b => some (a :: b)
  | _, _ => none
end
def pubME (M' : List Obj) (n0 : Nat) : List Nat → List Obj → Option (List Obj)
 | [], M => some M
 | k :: W, M => match M'[k]? with
  | some o => match pubLLE M' n0 1000 o.es, pubME M' n0 W M with
   | some es, some M2 => some (M2.set k ⟨o.z, es, o.g⟩)
   | _, _ => none
  | none => none
def closeE (M M' : List Obj) (d : D) (W : List Nat) : Option (D × List Obj × List Nat) :=
 match pubE M' M.length 1000 d, pubME M' M.length W M with
 | some d2, some M2 => some (d2, M2, W)
 | _, _ => none
def callE (P : Program) (orc : CallE) (raw : FuncId → Bool) (fuel : Nat) : Nat → CallE
 | 0, _, _, _ => none
 | k + 1, id, args, M => match orc id args M with
  | some r => some r
  | none => match P.funcs[id]? with
   | some fn => match fn.body with
    | some c => if Nat.ble args.length fn.ntmps then match codeE P (callE P orc raw fuel k) fn.ntmps fuel c (args ++ List.replicate (fn.ntmps - args.length) undefD) M [] with
     | some (.normal, L', M', W') => match resE P L' M' fn.results.toList with
      | some ds => if raw id then some (oneOr ds, M', W'.filter fun j => Nat.blt j M.length) else closeE M M' (oneOr ds) (W'.filter fun j => Nat.blt j M.length)
      | none => none
     | some (.ret, L', M', W') => match resE P L' M' fn.results.toList with
      | some ds => if raw id then some (oneOr ds, M', W'.filter fun j => Nat.blt j M.length) else closeE M M' (oneOr ds) (W'.filter fun j => Nat.blt j M.length)
      | none => none
     | _ => none else none
    | none => none
   | none => none
end Go.Proofs.Mv.V
