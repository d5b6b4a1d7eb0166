/- A part of the proofs: machine, contracts, laws. No condition of its own. -/
import Derived.Test.YtihbegkefjjhpaaGreatDoorMvEvP
import Derived.Test.YtihbegkefjjhpaaGreatDoorFact
import Derived.Test.YtihbegkefjjhpaaGreatDoorMvDf
import Derived.Test.YtihbegkefjjhpaaGreatDoorMvD
import Derived.Test.YtihbegkefjjhpaaGreatDoorMvPc
set_option linter.unusedSimpArgs false
set_option linter.unusedVariables false
set_option linter.unusedSectionVars false
open Go Go.Proofs Go.Proofs.Mv.V
namespace Go.Proofs.Mv.App
theorem ev_mixed : Tryz.prog.follows .mixedOrders = true := by kernel_rfl
theorem ev_names : Tryz.prog.funcs.all (fun fn => !(fn.name == "runtime.NumGoroutine")) = true := by kernel_rfl
theorem run_at [GI] (fuel k : Nat) {f : FuncId} {args : List D} {x : Value} (ha : belowL 0 args = true)
    (h : (match callE Tryz.prog noOrc (fun _ => false) fuel k f args [] with | some (.v y, _, _) => eqVE y x | _ => false) = true) (m : Mem) (n : Nat) :
    ACalls Tryz.prog f args m n (fun d' m' n' => d' = .v x ∧ m' = m ∧ n' = n) := run_flat noOrc_cs ev_mixed ev_names _ fuel k ha h m n
end Go.Proofs.Mv.App
namespace Go.Proofs.Mv.V
def dfE (o : Oper) : Option Operand := match o.dst, o.op, o.guard with
  | none, .defer c, none => match c.callee, c.args.toList with
    | .value x, [] => some x
    | _, _ => none
  | _, _, _ => none
def dOf : Code → Option (Nat × Array Oper × List Oper × Operand)
  | .region id ops false => match ops.toList.getLast? with
    | some o => (dfE o).map fun x => (id, ops, ops.toList.dropLast, x)
    | none => none
  | _ => none
def bodyE (P : Program) (call : CallE) (N f : Nat) : Code → List D → List Obj → List Nat → Option (Ex × Option (FuncId × List D) × List D × List Obj × List Nat)
  | .seq x y, L, M, W => match dOf x with
    | some (_, ops, pre, o) => if noRange y then match opsE P call N ops pre L M W with
        | some (L1, M1, W1) => match ev (sget L1) o with
          | .func (.func gf) [] cs => (codeE P call N f y L1 M1 W1).map fun r => (r.1, some (gf, cs), r.2)
          | _ => none
        | none => none else none
    | none => match codeE P call N f x L M W with
      | some (.normal, L1, M1, W1) => bodyE P call N f y L1 M1 W1
      | some (.exit i, r) => some (.exit i, none, r)
      | some (.ret, r) => some (.ret, none, r)
      | none => none
  | c, L, M, W => (codeE P call N f c L M W).map fun r => (r.1, none, r.2)
def dcallE (P : Program) (call : CallE) (fuel : Nat) (gf : FuncId) (cs : List D) (M : List Obj) : Option (List Obj × List Nat) :=
  match P.funcs[gf]? with
  | some fn => match fn.body, retTmps fn with
    | some c, some _ => if Nat.ble cs.length fn.ntmps && noRange c then match codeE P call fn.ntmps fuel c (cs ++ List.replicate (fn.ntmps - cs.length) undefD) M [] with
      | some (.normal, _, M', W') => some (M', W')
      | some (.ret, _, M', W') => some (M', W')
      | _ => none else none
    | _, _ => none
  | none => none
def leaveE (P : Program) (call : CallE) (fuel : Nat) (res : List ResultVar) : Option (Ex × Option (FuncId × List D) × List D × List Obj × List Nat) → Option (List D × List Obj × List Nat)
  | some (.exit _, _) => none
  | some (_, none, L, M, W) => (resE P L M res).map fun ds => (ds, M, W)
  | some (_, some (gf, cs), L, M, W) => match dcallE P call fuel gf cs M with
    | some (M2, W2) => (resE P L M2 res).map fun ds => (ds, M2, W2 ++ W)
    | none => none
  | none => none
def callDE (P : Program) (orc : CallE) (raw : FuncId → Bool) (fuel : Nat) : Nat → CallE
  | 0, _, _, _ => none
  | k + 1, id, args, M => match orc id args M with
    | some r => some r
    | none => match P.funcs[id]? with
      | some fn => match fn.body with
        | some c => if Nat.ble args.length fn.ntmps then match leaveE P (callDE P orc raw fuel k) fuel fn.results.toList (bodyE P (callDE P orc raw fuel k) fn.ntmps fuel c (args ++ List.replicate (fn.ntmps - args.length) undefD) M []) with
          | some (ds, M', W') => if raw id then some (oneOr ds, M', W'.filter fun j => Nat.blt j M.length) else closeE M M' (oneOr ds) (W'.filter fun j => Nat.blt j M.length)
          | none => none else none
        | none => none
      | none => none
variable [GI]
section
variable {P : Program} {N : Nat}
theorem dfE_eq {o : Oper} {x : Operand} (h : dfE o = some x) : ∃ ats ty pos after, o = ⟨none, .defer { callee := .value x, args := #[], argTypes := ats }, ty, pos, after, none⟩ := by
  obtain ⟨dst, op, ty, pos, after, guard⟩ := o
  unfold dfE at h
  simp only at h
  split at h
  · rename_i c
    obtain ⟨cal, args, ats⟩ := c
    simp only at h
    split at h
    · rename_i x' hc ha
      obtain rfl := Option.some.inj h
      have : args = #[] := Array.toList_inj.1 ha
      subst this
      exact ⟨ats, ty, pos, after, rfl⟩
    · cases h
  · cases h
theorem dOf_eq {c : Code} {id : Nat} {ops : Array Oper} {pre : List Oper} {x : Operand} (h : dOf c = some (id, ops, pre, x)) :
    c = .region id ops false ∧ ∃ ats ty pos after, ops.toList = pre ++ [⟨none, .defer { callee := .value x, args := #[], argTypes := ats }, ty, pos, after, none⟩] := by
  unfold dOf at h
  split at h
  · rename_i id' ops'
    split at h
    · rename_i o ho
      obtain ⟨x', h1, h2⟩ := Option.map_eq_some_iff.1 h
      simp only [Prod.mk.injEq] at h2
      obtain ⟨rfl, rfl, rfl, rfl⟩ := h2
      obtain ⟨ats, ty, pos, after, rfl⟩ := dfE_eq h1
      refine ⟨rfl, ats, ty, pos, after, ?_⟩
      have hne : ops'.toList ≠ [] := fun e => by rw [e] at ho; cases ho
      have hl := List.getLast?_eq_some_getLast hne
      rw [hl] at ho
      have := List.dropLast_concat_getLast hne
      rw [Option.some.inj ho] at this
      exact this.symm
    · cases h
  · cases h
theorem bodyE_sound {call : CallE} (hc : CS P call) (hf : P.follows .mixedOrders = true) (f : Nat) : ∀ (c : Code) (L : List D) (M : List Obj) (W : List Nat) (e : Ex) (od : Option (FuncId × List D)) (L' : List D) (M' : List Obj) (W' : List Nat),
    bodyE P call N f c L M W = some (e, od, L', M', W') → L.length = N → ∀ gf cs, (∀ p, od = some p → p = (gf, cs)) →
    (∀ Q QD : APost, (od = none → Q (exE e) (sget L') (toMem M') M'.length) → (od ≠ none → QD (exE e) (sget L') (toMem M') M'.length) → AWPd P N gf cs c Q QD (sget L) (toMem M) M.length) ∧ L'.length = N ∧ ∃ W2, W' = W2 ++ W ∧ FrE M M' W2 := by
  have plain : ∀ (c : Code) (L : List D) (M : List Obj) (W : List Nat) (e : Ex) (od : Option (FuncId × List D)) (L' : List D) (M' : List Obj) (W' : List Nat),
      (codeE P call N f c L M W).map (fun r => (r.1, (none : Option (FuncId × List D)), r.2)) = some (e, od, L', M', W') → L.length = N → ∀ gf cs, (∀ p, od = some p → p = (gf, cs)) →
      (∀ Q QD : APost, (od = none → Q (exE e) (sget L') (toMem M') M'.length) → (od ≠ none → QD (exE e) (sget L') (toMem M') M'.length) → AWPd P N gf cs c Q QD (sget L) (toMem M) M.length) ∧ L'.length = N ∧ ∃ W2, W' = W2 ++ W ∧ FrE M M' W2 := by
    intro c L M W e od L' M' W' h hL gf cs hp
    obtain ⟨⟨e1, L1, M1, W1⟩, h1, h2⟩ := Option.map_eq_some_iff.1 h
    simp only [Prod.mk.injEq] at h2
    obtain ⟨rfl, rfl, rfl, rfl, rfl⟩ := h2
    obtain ⟨a1, a2⟩ := codeE_sound hc hf _ _ _ _ _ _ _ _ _ h1 hL
    exact ⟨fun Q QD hq _ => awpd_plain (a1 Q (hq rfl)), a2⟩
  intro c
  induction c with
  | seq x y ihx ihy =>
    intro L M W e od L' M' W' h hL gf cs hp
    simp only [bodyE] at h
    split at h
    · rename_i id ops pre o hd
      obtain ⟨rfl, ats, ty, pos, after, hops⟩ := dOf_eq hd
      split at h
      · rename_i hny
        split at h
        · rename_i L1 M1 W1 h1
          obtain ⟨b1, b2, W2, b3, b4⟩ := opsE_sound hc _ _ _ _ _ _ _ h1 hL
          split at h
          · rename_i gf' cs' he
            obtain ⟨⟨e2, L2, M2, W3⟩, h2, h3⟩ := Option.map_eq_some_iff.1 h
            simp only [Prod.mk.injEq] at h3
            obtain ⟨rfl, rfl, rfl, rfl, rfl⟩ := h3
            have := hp _ rfl
            simp only [Prod.mk.injEq] at this
            obtain ⟨rfl, rfl⟩ := this
            obtain ⟨c1, c2, W4, c3, c4⟩ := codeE_sound hc hf _ _ _ _ _ _ _ _ _ h2 b2
            refine ⟨fun Q QD _ hq => ?_, c2, W4 ++ W2, by rw [c3, b3]; simp, b4.trans c4⟩
            refine awpd_defer hops hny ?_
            exact xOps_mono (fun _ _ _ h => h) pre _ _ _ tg (b1 (fun σ m n => ev σ o = .func (.func gf') [] cs' ∧ AWP P N y QD σ m n) tg ⟨he, c1 QD (hq (by simp))⟩)
          · cases h
        · cases h
      · cases h
    · split at h
      · rename_i L1 M1 W1 h1
        obtain ⟨b1, b2, W2, b3, b4⟩ := codeE_sound hc hf _ _ _ _ _ _ _ _ _ h1 hL
        obtain ⟨c1, c2, W4, c3, c4⟩ := ihy _ _ _ _ _ _ _ _ h b2 gf cs hp
        exact ⟨fun Q QD hq hqd => awpd_seq (b1 _ (c1 Q QD hq hqd)), c2, W4 ++ W2, by rw [c3, b3]; simp, b4.trans c4⟩
      · rename_i i r h1
        simp only [Option.some.injEq, Prod.mk.injEq] at h
        obtain ⟨rfl, rfl, rfl⟩ := h
        obtain ⟨b1, b2⟩ := codeE_sound hc hf _ _ _ _ _ _ _ _ _ h1 hL
        exact ⟨fun Q QD hq hqd => awpd_seq (b1 _ (hq rfl)), b2⟩
      · rename_i r h1
        simp only [Option.some.injEq, Prod.mk.injEq] at h
        obtain ⟨rfl, rfl, rfl⟩ := h
        obtain ⟨b1, b2⟩ := codeE_sound hc hf _ _ _ _ _ _ _ _ _ h1 hL
        exact ⟨fun Q QD hq hqd => awpd_seq (b1 _ (hq rfl)), b2⟩
      · cases h
  | _ => intro L M W e od L' M' W' h; exact plain _ L M W e od L' M' W' h
theorem dcallE_sound {call : CallE} (hc : CS P call) (hf : P.follows .mixedOrders = true) (hname : ∀ (id : FuncId) (fn : Func), P.funcs[id]? = some fn → (fn.name == "runtime.NumGoroutine") = false) {fuel : Nat} {gf : FuncId} {cs : List D} {M M' : List Obj} {W : List Nat} (h : dcallE P call fuel gf cs M = some (M', W)) :
    DCalls P gf cs (toMem M) M.length (fun m' n' => m' = toMem M' ∧ n' = M'.length) ∧ FrE M M' W := by
  unfold dcallE at h
  split at h
  · rename_i fn hfn
    split at h
    · rename_i c ts hb hr
      split at h
      · rename_i hcnd
        simp only [Bool.and_eq_true] at hcnd
        obtain ⟨hlen, hnr⟩ := hcnd
        have hlen := Nat.le_of_ble_eq_true hlen
        split at h
        · rename_i L1 M1 W1 h1
          simp only [Option.some.injEq, Prod.mk.injEq] at h
          obtain ⟨rfl, rfl⟩ := h
          obtain ⟨a1, a2, W2, a3, a4⟩ := codeE_sound hc hf _ _ _ _ _ _ _ _ _ h1 (by simp; omega)
          rw [List.append_nil] at a3
          refine ⟨dcalls_of hfn (hname _ _ hfn) hb hr hlen hnr ?_, by rw [a3]; exact a4⟩
          rw [init_sget cs (fn.ntmps - cs.length)]
          exact a1 _ ⟨rfl, rfl⟩
        · rename_i L1 M1 W1 h1
          simp only [Option.some.injEq, Prod.mk.injEq] at h
          obtain ⟨rfl, rfl⟩ := h
          obtain ⟨a1, a2, W2, a3, a4⟩ := codeE_sound hc hf _ _ _ _ _ _ _ _ _ h1 (by simp; omega)
          rw [List.append_nil] at a3
          refine ⟨dcalls_of hfn (hname _ _ hfn) hb hr hlen hnr ?_, by rw [a3]; exact a4⟩
          rw [init_sget cs (fn.ntmps - cs.length)]
          exact a1 _ ⟨rfl, rfl⟩
        · cases h
      · cases h
    · cases h
  · cases h
end
end Go.Proofs.Mv.V
open Go Go.Proofs Go.Proofs.Mv.V
set_option maxRecDepth 10000
namespace Go.Proofs.Mv.App
variable [GI]
attribute [simp] Nat.testBit
/-! bytes -/
def byt (v : Int) : UInt8 := UInt8.ofNat (v % 256).toNat
theorem wrap_byt (v : Int) : Value.int .u8 (IntKind.u8.wrap v) = .int .u8 ((byt v).toNat : Int) := by
  congr 1
  simp only [byt, IntKind.wrap, IntKind.signed, IntKind.bits, Bool.false_eq_true, if_false]
  have h1 : 0 ≤ v % 256 := Int.emod_nonneg _ (by omega)
  have h2 : v % 256 < 256 := Int.emod_lt_of_pos _ (by omega)
  have h3 : (UInt8.ofNat (v % 256).toNat).toNat = (v % 256).toNat := by
    simp only [UInt8.toNat_ofNat']; omega
  rw [h3]
  rw [Int.toNat_of_nonneg h1]
  rfl
theorem bEnc_fold (b : UInt8) : [D.v (.int .u8 (b.toNat : Int))] = bEnc b := rfl
theorem unB_cons (b : UInt8) (r : List (List D)) : unB (bEnc b :: r) = b :: unB r := by simp [bEnc, unB]
theorem bEnc_len (b : UInt8) : (bEnc b).length = 1 := rfl
theorem bEnc_get (b : UInt8) : (bEnc b)[0]? = some (.v (.int .u8 (b.toNat : Int))) := rfl
theorem unB_nil : unB [] = [] := rfl
theorem i64_byte (b : UInt8) : IntKind.i64.wrap (b.toNat : Int) = b.toNat := wrap_i64 (by omega) (by have := b.toNat_lt; omega)
attribute [simp] wrap_byt bEnc_fold bEnc_len bEnc_get unB_cons unB_nil i64_byte unB_bEnc
theorem unB_bs (r : List UInt8) (a b : Nat) : unB (List.take a (List.drop b (List.map bEnc r))) = List.take a (List.drop b r) := by
  rw [← List.map_drop, ← List.map_take, unB_bEnc]
theorem unB_b (r : List UInt8) (a : Nat) : unB (List.take a (List.map bEnc r)) = List.take a r := by
  rw [← List.map_take, unB_bEnc]
@[simp] theorem unB_app (a : List UInt8) (r : List (List D)) : unB (List.map bEnc a ++ r) = a ++ unB r := by
  induction a with
  | nil => rfl
  | cons x a ih => simp [ih]
@[simp] theorem comp_idf {α β : Type} (f : α → β) : ((fun e => e) ∘ f) = f := rfl
theorem bits_i64 : IntKind.i64.bits = 64 := rfl
attribute [simp] unB_bs unB_b bits_i64
@[simp] theorem take_map_len {α γ : Type} (l : List α) (f : α → γ) : (l.map f).take l.length = l.map f := List.take_of_length_le (by simp)
@[simp] theorem nat_neg (q : Nat) : ((q : Int) < 0) = False := by simp
theorem get_opt {α : Type} {l : List α} {i : Nat} {a : α} (h : l[i]? = some a) (hi : i < l.length) : l[i] = a := by rw [List.getElem?_eq_getElem hi] at h; exact Option.some.inj h
/-! texts, lists of texts, bytes, errors -/
def S (s : List UInt8) : D := .v (.string (ofL s))
def sl1 (l : List (List UInt8)) : D := .sl 1 (l.map fun s => [S s])
def B (s : List UInt8) : D := .sl 1 (s.map bEnc)
def I (n : Int) : D := .v (.int .i64 n)
def Tt (b : Bool) : D := .v (.bool b)
def code (c : Int) : D := .iface 39 (.v (.int .i64 c))
def nilE : D := .v .nilIface
@[simp] theorem okD_S (s : List UInt8) : okD (S s) = true := (rfl)
@[simp] theorem cellsOf_S (s : List UInt8) : cellsOf (S s) = [S s] := (rfl)
@[simp] theorem kof_S (s : List UInt8) : kof (S s) = none := (rfl)
@[simp] theorem okD_B (s : List UInt8) : okD (B s) = true := (rfl)
@[simp] theorem cellsOf_B (s : List UInt8) : cellsOf (B s) = [B s] := (rfl)
@[simp] theorem kof_B (s : List UInt8) : kof (B s) = none := (rfl)
@[simp] theorem okD_sl1 (l : List (List UInt8)) : okD (sl1 l) = true := (rfl)
@[simp] theorem cellsOf_sl1 (l : List (List UInt8)) : cellsOf (sl1 l) = [sl1 l] := (rfl)
@[simp] theorem kof_sl1 (l : List (List UInt8)) : kof (sl1 l) = none := (rfl)
@[simp] theorem okD_I (n : Int) : okD (I n) = true := (rfl)
@[simp] theorem cellsOf_I (n : Int) : cellsOf (I n) = [I n] := (rfl)
@[simp] theorem kof_I (n : Int) : kof (I n) = none := (rfl)
@[simp] theorem okD_Tt (b : Bool) : okD (Tt b) = true := (rfl)
@[simp] theorem cellsOf_Tt (b : Bool) : cellsOf (Tt b) = [Tt b] := (rfl)
@[simp] theorem kof_Tt (b : Bool) : kof (Tt b) = none := (rfl)
@[simp] theorem okD_code (c : Int) : okD (code c) = true := (rfl)
@[simp] theorem cellsOf_code (c : Int) : cellsOf (code c) = [code c] := (rfl)
@[simp] theorem kof_code (c : Int) : kof (code c) = none := (rfl)
@[simp] theorem okD_nilE  : okD (nilE) = true := (rfl)
@[simp] theorem cellsOf_nilE  : cellsOf (nilE) = [nilE] := (rfl)
@[simp] theorem kof_nilE  : kof (nilE) = none := (rfl)
theorem pur_S (s : List UInt8) : Pur (S s) := Pur.v _
theorem pur_I (n : Int) : Pur (I n) := Pur.v _
theorem pur_T (n : Bool) : Pur (Tt n) := Pur.v _
theorem pur_code (c : Int) : Pur (code c) := Pur.iface (Pur.v _)
theorem pur_nilE : Pur nilE := Pur.v _
theorem pur_ss {l : List (List UInt8)} : ∀ e ∈ l.map (fun s => [S s]), ∀ d ∈ e, Pur d := by
  intro e he d hd
  obtain ⟨b, _, rfl⟩ := List.mem_map.1 he
  simp at hd; subst hd; exact Pur.v _
theorem pur_sl1 (l : List (List UInt8)) : Pur (sl1 l) := Pur.sl pur_ss
theorem pub_pair {n : Nat} {m : Mem} {a b a' b' : D} (h : PubAs n m a a') (h' : PubAs n m b b') : PubAs n m (.tup [a, b]) (.tup [a', b']) := .tup (.cons h (.cons h' .nil))
theorem pub_three {n : Nat} {m : Mem} {a b c a' b' c' : D} (h : PubAs n m a a') (h' : PubAs n m b b') (h'' : PubAs n m c c') : PubAs n m (.tup [a, b, c]) (.tup [a', b', c']) := .tup (.cons h (.cons h' (.cons h'' .nil)))
theorem pub_nil {n : Nat} {m : Mem} (z : Nat) : PubAs n m (.v (.slice none 0 0)) (.sl z []) := (Pur.v _).pub.le (Le_nil z)
def Rd (m : Mem) (z : Nat) (es : List (List D)) (d : D) : Prop := d = .sl z es ∨ Lst m z es d
theorem Rd.elems {m : Mem} {z : Nat} {es : List (List D)} {d : D} (h : Rd m z es d) : ∃ O : Prop, elemsOf m z d = some (O, es) ∧ O := by
  rcases h with rfl | h
  · exact elems_sl m z es
  · exact h.elems
theorem Rd.frame {m m' : Mem} {z : Nat} {es : List (List D)} {d : D} (h : Rd m z es d) (hf : ∀ k, kof d = some k → m' k = m k) : Rd m' z es d := by
  rcases h with h | h
  · exact .inl h
  · exact .inr (h.frame hf)
end Go.Proofs.Mv.App
open Go Go.Proofs Go.Proofs.Mv.V
set_option maxRecDepth 10000
namespace Go.Proofs.Mv.App
inductive Ty where
  | mk (kind : Int) (pkg : List UInt8) (major : Int) (mod name : List UInt8) (names : List (List UInt8)) (subs : List Ty)
instance : Inhabited Ty := ⟨.mk 0 [] 0 [] [] [] []⟩
def Ty0 : Ty := .mk 0 [] 0 [] [] [] []
mutual
def tyD [GI] : Ty → List D
  | .mk kind pkg major mod name names subs => [I kind, S pkg, I major, S mod, S name, sl1 names, .sl 7 (tysD subs)]
def tysD [GI] : List Ty → List (List D)
  | [] => []
  | t :: ts => tyD t :: tysD ts
end
section
variable [GI]
theorem tysD_eq : ∀ l : List Ty, tysD l = l.map tyD
  | [] => by simp [tysD]
  | t :: ts => by simp [tysD, tysD_eq ts]
@[simp] theorem tyD_len (t : Ty) : (tyD t).length = 7 := by cases t; simp [tyD]
@[simp] theorem tyD_take (t : Ty) : (tyD t).take 7 = tyD t := List.take_of_length_le (by simp)
mutual
theorem pur_ty : ∀ t : Ty, ∀ d ∈ tyD t, Pur d
  | .mk kind pkg major mod name names subs, d, hd => by
    simp only [tyD, List.mem_cons, List.not_mem_nil, or_false] at hd
    rcases hd with rfl | rfl | rfl | rfl | rfl | rfl | rfl
    · exact pur_I _
    · exact pur_S _
    · exact pur_I _
    · exact pur_S _
    · exact pur_S _
    · exact pur_sl1 _
    · exact Pur.sl (pur_tys subs)
theorem pur_tys : ∀ l : List Ty, ∀ e ∈ tysD l, ∀ d ∈ e, Pur d
  | [], e, he, _, _ => by simp [tysD] at he
  | t :: ts, e, he, d, hd => by
    simp only [tysD, List.mem_cons] at he
    rcases he with rfl | he
    · exact pur_ty t d hd
    · exact pur_tys ts e he d hd
end
theorem pur_tym (l : List Ty) : ∀ e ∈ l.map tyD, ∀ d ∈ e, Pur d := by rw [← tysD_eq]; exact pur_tys l
end
end Go.Proofs.Mv.App
open Go Go.Proofs Go.Proofs.Mv.V
namespace Go.Proofs.Mv.App
namespace Ty
@[reducible] def kind : Ty → Int | .mk k _ _ _ _ _ _ => k
@[reducible] def pkg : Ty → List UInt8 | .mk _ p _ _ _ _ _ => p
@[reducible] def major : Ty → Int | .mk _ _ j _ _ _ _ => j
@[reducible] def mod : Ty → List UInt8 | .mk _ _ _ m _ _ _ => m
@[reducible] def name : Ty → List UInt8 | .mk _ _ _ _ n _ _ => n
@[reducible] def names : Ty → List (List UInt8) | .mk _ _ _ _ _ l _ => l
@[reducible] def subs : Ty → List Ty | .mk _ _ _ _ _ _ l => l
end Ty
mutual
def manyT : Ty → Nat
  | .mk _ _ _ _ _ _ subs => 1 + manyTs subs
def manyTs : List Ty → Nat
  | [] => 0
  | t :: ts => manyT t + manyTs ts
end
mutual
def deepT : Ty → Nat
  | .mk _ _ _ _ _ _ subs => deepTs subs + 1
def deepTs : List Ty → Nat
  | [] => 0
  | t :: ts => max (deepT t) (deepTs ts)
end
mutual
def fewT : Ty → Int → Int
  | .mk _ _ _ _ _ names subs, most => if most - 1 < 0 ∨ 200 < names.length then -1 else fewTs subs (most - 1)
def fewTs : List Ty → Int → Int
  | [], most => most
  | t :: ts, most => if 0 ≤ most then fewTs ts (fewT t most) else most
end
theorem manyTs_eq : ∀ l : List Ty, manyTs l = (l.map manyT).sum
  | [] => by simp [manyTs]
  | t :: ts => by simp [manyTs, manyTs_eq ts]
theorem manyT_eq (t : Ty) : manyT t = 1 + (t.subs.map manyT).sum := by cases t; simp [manyT, manyTs_eq, Ty.subs]
theorem manyT_pos (t : Ty) : 1 ≤ manyT t := by rw [manyT_eq]; omega
theorem deepT_eq (t : Ty) : deepT t = deepTs t.subs + 1 := by cases t; simp [deepT, Ty.subs]
theorem deepTs_append : ∀ (l r : List Ty), deepTs (l ++ r) = max (deepTs l) (deepTs r)
  | [], r => by simp [deepTs]
  | t :: ts, r => by simp only [List.cons_append, deepTs, deepTs_append ts r]; omega
theorem manyTs_append : ∀ (l r : List Ty), manyTs (l ++ r) = manyTs l + manyTs r
  | [], r => by simp [manyTs]
  | t :: ts, r => by simp only [List.cons_append, manyTs, manyTs_append ts r]; omega
mutual
def sameT : Ty → Ty → Bool
  | .mk k p j m n ns ts, .mk k' p' j' m' n' ns' ts' => decide (k = k') && decide (p = p') && decide (j = j') && decide (m = m') && decide (n = n') && decide (ns = ns') && sameTs ts ts'
def sameTs : List Ty → List Ty → Bool
  | [], [] => true
  | t :: ts, u :: us => sameT t u && sameTs ts us
  | [], _ :: _ => false
  | _ :: _, [] => false
end
mutual
theorem sameT_iff : ∀ (t u : Ty), sameT t u = true ↔ t = u
  | .mk k p j m n ns ts, .mk k' p' j' m' n' ns' ts' => by
    simp only [sameT, Bool.and_eq_true, decide_eq_true_eq, sameTs_iff ts ts', Ty.mk.injEq]
    constructor
    · rintro ⟨⟨⟨⟨⟨⟨h1, h2⟩, h3⟩, h4⟩, h5⟩, h6⟩, h7⟩; exact ⟨h1, h2, h3, h4, h5, h6, h7⟩
    · rintro ⟨h1, h2, h3, h4, h5, h6, h7⟩; exact ⟨⟨⟨⟨⟨⟨h1, h2⟩, h3⟩, h4⟩, h5⟩, h6⟩, h7⟩
theorem sameTs_iff : ∀ (t u : List Ty), sameTs t u = true ↔ t = u
  | [], [] => by simp [sameTs]
  | t :: ts, u :: us => by simp only [sameTs, Bool.and_eq_true, sameT_iff t u, sameTs_iff ts us, List.cons.injEq]
  | [], _ :: _ => by simp [sameTs]
  | _ :: _, [] => by simp [sameTs]
end
instance : DecidableEq Ty := fun a b => decidable_of_iff (sameT a b = true) (sameT_iff a b)
inductive TyW : Ty → Prop where
  | mk (kind : Int) (pkg : List UInt8) (major : Int) (mod name : List UInt8) (names : List (List UInt8)) (subs : List Ty) (h1 : names.length ≤ 9223372036854775807) (h2 : subs.length ≤ 9223372036854775807)
      (h3 : pkg.length ≤ 9223372036854775807) (h4 : mod.length ≤ 9223372036854775807) (h5 : name.length ≤ 9223372036854775807) (h6 : ∀ s ∈ names, s.length ≤ 9223372036854775807) (h7 : ∀ t ∈ subs, TyW t) : TyW (.mk kind pkg major mod name names subs)
/-! few -/
theorem fewTs_neg : ∀ (l : List Ty) (m : Int), m < 0 → fewTs l m = m
  | [], m, _ => by simp [fewTs]
  | t :: ts, m, h => by simp only [fewTs]; rw [if_neg (by omega)]
mutual
theorem fewT_spec : ∀ (t : Ty) (m : Int), 0 ≤ fewT t m → fewT t m = m - manyT t
  | .mk _ _ _ _ _ names subs, m, h => by
    simp only [fewT] at h ⊢
    split at h
    · omega
    · rename_i e
      rw [if_neg e, fewTs_spec subs _ h]; simp only [manyT]; omega
theorem fewTs_spec : ∀ (l : List Ty) (m : Int), 0 ≤ fewTs l m → fewTs l m = m - manyTs l
  | [], m, h => by simp [fewTs, manyTs]
  | t :: ts, m, h => by
    simp only [fewTs] at h ⊢
    split at h
    · rename_i e
      rw [if_pos e]
      have h1 : 0 ≤ fewT t m := by
        rcases Int.lt_or_le (fewT t m) 0 with hn | hn
        · rw [fewTs_neg _ _ hn] at h; omega
        · exact hn
      rw [fewTs_spec ts _ h, fewT_spec t m h1]; simp only [manyTs]; omega
    · omega
end
mutual
theorem fewT_le : ∀ (t : Ty) (m : Int), -1 ≤ m → -1 ≤ fewT t m ∧ fewT t m ≤ max (m - 1) (-1)
  | .mk _ _ _ _ _ names subs, m, h => by
    simp only [fewT]
    split
    · omega
    · rename_i e
      have := fewTs_le subs (m - 1) (by omega); omega
theorem fewTs_le : ∀ (l : List Ty) (m : Int), -1 ≤ m → -1 ≤ fewTs l m ∧ fewTs l m ≤ m
  | [], m, h => by simp [fewTs]; exact h
  | t :: ts, m, h => by
    simp only [fewTs]
    split
    · have h1 := fewT_le t m h
      have h2 := fewTs_le ts (fewT t m) h1.1; omega
    · omega
end
theorem fewTs_snoc : ∀ (l : List Ty) (x : Ty) (m : Int), fewTs (l ++ [x]) m = if 0 ≤ fewTs l m then fewT x (fewTs l m) else fewTs l m
  | [], x, m => by by_cases h : 0 ≤ m <;> simp [fewTs, h]
  | t :: ts, x, m => by
    by_cases h : 0 ≤ m
    · simp only [List.cons_append, fewTs, if_pos h]; exact fewTs_snoc ts x _
    · simp only [List.cons_append, fewTs, if_neg h]
theorem fewTs_stop : ∀ (l r : List Ty) (m : Int), fewTs l m < 0 → fewTs (l ++ r) m = fewTs l m
  | [], r, m, h => by simp only [fewTs] at h; simp only [List.nil_append, fewTs]; exact fewTs_neg r m h
  | t :: ts, r, m, h => by
    simp only [List.cons_append, fewTs] at h ⊢
    split
    · rename_i e; rw [if_pos e] at h; exact fewTs_stop ts r _ h
    · rfl
def few3 (t : Ty) : Bool := decide (0 ≤ fewT t 3000)
theorem few_many {t : Ty} (h : few3 t = true) : manyT t ≤ 3000 := by
  simp only [few3, decide_eq_true_eq] at h
  have := fewT_spec t 3000 h; omega
mutual
theorem deep_many : ∀ t : Ty, deepT t ≤ manyT t
  | .mk _ _ _ _ _ _ subs => by simp only [deepT, manyT]; have := deeps_manys subs; omega
theorem deeps_manys : ∀ l : List Ty, deepTs l ≤ manyTs l
  | [] => by simp [deepTs]
  | t :: ts => by simp only [deepTs, manyTs]; have := deep_many t; have := deeps_manys ts; omega
end
theorem manyTs_snoc (l : List Ty) (x : Ty) : manyTs (l ++ [x]) = manyTs l + manyT x := by rw [manyTs_append]; simp [manyTs]
theorem deepTs_snoc (l : List Ty) (x : Ty) : deepTs (l ++ [x]) = max (deepTs l) (deepT x) := by rw [deepTs_append]; simp [deepTs]
theorem take_snoc {α : Type} {l : List α} {i : Nat} (h : i < l.length) : l.take (i + 1) = l.take i ++ [l[i]] := List.take_succ_eq_append_getElem h
theorem manyTs_take (l : List Ty) (i : Nat) : manyTs (l.take i) ≤ manyTs l := by
  have := manyTs_append (l.take i) (l.drop i); rw [List.take_append_drop] at this; omega
end Go.Proofs.Mv.App
open Go Go.Proofs Go.Proofs.Mv.V
set_option maxRecDepth 10000
namespace Go.Proofs.Mv.App
inductive Tm where
  | mk (kind num : Int) (mod name : List UInt8) (names vars : List (List UInt8)) (types : List Ty) (subs : List Tm)
instance : Inhabited Tm := ⟨.mk 0 0 [] [] [] [] [] []⟩
def Tm0 : Tm := .mk 0 0 [] [] [] [] [] []
mutual
def tmD [GI] : Tm → List D
  | .mk kind num mod name names vars types subs => [I kind, I num, S mod, S name, sl1 names, sl1 vars, .sl 7 (types.map tyD), .sl 8 (tmsD subs)]
def tmsD [GI] : List Tm → List (List D)
  | [] => []
  | t :: ts => tmD t :: tmsD ts
end
section
variable [GI]
theorem tmsD_eq : ∀ l : List Tm, tmsD l = l.map tmD
  | [] => by simp [tmsD]
  | t :: ts => by simp [tmsD, tmsD_eq ts]
@[simp] theorem tmD_len (t : Tm) : (tmD t).length = 8 := by cases t; simp [tmD]
@[simp] theorem tmD_take (t : Tm) : (tmD t).take 8 = tmD t := List.take_of_length_le (by simp)
mutual
theorem pur_tm : ∀ t : Tm, ∀ d ∈ tmD t, Pur d
  | .mk kind num mod name names vars types subs, d, hd => by
    simp only [tmD, List.mem_cons, List.not_mem_nil, or_false] at hd
    rcases hd with rfl | rfl | rfl | rfl | rfl | rfl | rfl | rfl
    · exact pur_I _
    · exact pur_I _
    · exact pur_S _
    · exact pur_S _
    · exact pur_sl1 _
    · exact pur_sl1 _
    · exact Pur.sl (pur_tym types)
    · exact Pur.sl (pur_tms subs)
theorem pur_tms : ∀ l : List Tm, ∀ e ∈ tmsD l, ∀ d ∈ e, Pur d
  | [], e, he, _, _ => by simp [tmsD] at he
  | t :: ts, e, he, d, hd => by
    simp only [tmsD, List.mem_cons] at he
    rcases he with rfl | he
    · exact pur_tm t d hd
    · exact pur_tms ts e he d hd
end
theorem pur_tmA (t : Tm) : Pur (.agg (tmD t)) := Pur.agg (pur_tm t)
theorem pur_tmm (l : List Tm) : ∀ e ∈ l.map tmD, ∀ d ∈ e, Pur d := by rw [← tmsD_eq]; exact pur_tms l
theorem tmD_zero : tmD Tm0 = [I 0, I 0, S [], S [], .sl 1 [], .sl 1 [], .sl 7 [], .sl 8 []] := by simp [Tm0, tmD, tmsD, sl1]
end
inductive TmW : Tm → Prop where
  | mk (kind num : Int) (mod name : List UInt8) (names vars : List (List UInt8)) (types : List Ty) (subs : List Tm) (h1 : names.length ≤ 9223372036854775807) (h2 : vars.length ≤ 9223372036854775807)
      (h3 : types.length ≤ 9223372036854775807) (h4 : subs.length ≤ 9223372036854775807) (h5 : mod.length ≤ 9223372036854775807) (h6 : name.length ≤ 9223372036854775807)
      (h7 : ∀ s ∈ names, s.length ≤ 9223372036854775807) (h8 : ∀ s ∈ vars, s.length ≤ 9223372036854775807) (h9 : ∀ t ∈ types, TyW t) (h10 : ∀ t ∈ subs, TmW t) : TmW (.mk kind num mod name names vars types subs)
mutual
def manyTm : Tm → Nat
  | .mk _ _ _ _ _ _ _ subs => 1 + manyTms subs
def manyTms : List Tm → Nat
  | [] => 0
  | t :: ts => manyTm t + manyTms ts
end
end Go.Proofs.Mv.App
