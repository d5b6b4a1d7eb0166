/- A part of the proofs: machine, contracts, laws. No condition of its own. -/
import Derived.WalkKit
import Derived.LaidEql
import Derived.Stop.Asserts
import Derived.RowKitTokens
import Derived.Test.YtndinledjelleaaGreatDoorFact
import Derived.Test.YtndinledjelleaaGreatDoorMvD
import Derived.Lib.ItoaNum
import Derived.Shelf.Small.Strs
import Derived.Shelf.Pu.ParseUintPublic10
import Derived.Ground.MpProg
import Derived.Ground.NamesProg
import Derived.Ground.Names2Prog
import Derived.Test.YtndinledjelleaaGreatDoorProg
set_option linter.unusedSimpArgs false
set_option linter.unusedVariables false
set_option linter.unusedSectionVars false
namespace Go.Proofs.Mv.V
open Go.RowKit Go.Extern.Stop Go.Stop Go.Extern Go

abbrev tyHandle (t : Nat) : Value := .pointer (some ⟨7, t, none⟩)
abbrev tyErr : Value := .iface 193 (.agg #[tyHandle 35])
theorem ia_valueOf2 (t : Addr) (w : World) : (ReflectliteValue.unpack (.iface 79 (.pointer (some t)))).run Tryz.prog w
  = .ok (.agg #[tyHandle 79, .pointer (some ⟨w.heap.size, 0, none⟩), .int .u64 150]) (w.alloc (.cells #[.pointer (some t)] 79)) := by kernel_rfl
theorem ia_type2 (a : Addr) (w : World) : (ReflectliteValue.methodAny (ReflectliteValue.valueError "reflectlite.Value.Type" 0) (fun t _ _ _ => ReflectliteType.toType t) #[.agg #[tyHandle 79, .pointer (some a), .int .u64 150]]).run Tryz.prog w
  = .ok (.iface 193 (.agg #[tyHandle 79])) w := by kernel_rfl
theorem ia_methodKind (h : Value) (w : World) : (Go.method 505 193 (.agg #[h]) "Kind").run Tryz.prog w = .ok (406, h) w := by kernel_rfl
theorem ia_kind2 (w : World) : ((ReflectliteType.abiMethod fun t => (fun a : Nat => Value.int IntKind.u8 (a : Int)) <$> Rtype.kind t) #[tyHandle 79]).run Tryz.prog w = .ok (.int .u8 22) w := by kernel_rfl
theorem ia_kind1 (w : World) : ((ReflectliteType.abiMethod fun t => (fun a : Nat => Value.int IntKind.u8 (a : Int)) <$> Rtype.kind t) #[tyHandle 77]).run Tryz.prog w = .ok (.int .u8 22) w := by kernel_rfl
theorem ia_rlm (z : Sem Value) (f : TypeId → Addr → Nat → Nat → Sem Value) (v : Value) :
  ReflectliteValue.method z f #[v] = (do match ← ReflectliteValue.parts v with | none => z | some (t, a, fl) => f t a fl (fl % 32)) := rfl
theorem ia_parts2 (a : Addr) (w : World) : (ReflectliteValue.parts (.agg #[tyHandle 79, .pointer (some a), .int .u64 150])).run Tryz.prog w = .ok (some (79, a, 150)) w := by kernel_rfl
theorem ia_isNil2 (a p : Addr) (W : World) (ha : W.cell? a = some (.pointer (some p))) :
  (ReflectliteValue.method (ReflectliteValue.valueError "reflectlite.Value.IsNil" 0) ReflectliteValue.isNil #[.agg #[tyHandle 79, .pointer (some a), .int .u64 150]]).run Tryz.prog W = .ok (.bool false) W := by
 rw [ia_rlm]
 simp only [Sem.run_bind, ia_parts2, Result.andThen]
 simp [ReflectliteValue.isNil, loadVar, isAgg, underlying, Tryz.underlying79, ha, Result.andThen]
theorem ia_methodElem (h : Value) (w : World) : (Go.method 505 193 (.agg #[h]) "Elem").run Tryz.prog w = .ok (419, .agg #[h]) w := by kernel_rfl
theorem ia_methodImplements (h : Value) (w : World) : (Go.method 505 193 (.agg #[h]) "Implements").run Tryz.prog w = .ok (420, .agg #[h]) w := by kernel_rfl
theorem ia_methodAssignableTo (h : Value) (w : World) : (Go.method 505 193 (.agg #[h]) "AssignableTo").run Tryz.prog w = .ok (417, .agg #[h]) w := by kernel_rfl
theorem ia_elem2 (w : World) : (ReflectliteType.method ReflectliteType.elem #[.agg #[tyHandle 79]]).run Tryz.prog w = .ok (.iface 193 (.agg #[tyHandle 77])) w := by kernel_rfl
theorem ia_implements1 (w : World) : (ReflectliteType.relation "Implements" ReflectliteType.implements_ #[.agg #[tyHandle 77], tyErr]).run Tryz.prog w = .ok (.bool true) w := by kernel_rfl
theorem ia_typeOf1 (v : Value) (w : World) : (ReflectliteType.typeOf #[.iface 77 v]).run Tryz.prog w = .ok (.iface 193 (.agg #[tyHandle 77])) w := by kernel_rfl
theorem ia_assignable1 (w : World) : (ReflectliteType.relation "AssignableTo" ReflectliteType.assignableTo #[.agg #[tyHandle 77], .iface 193 (.agg #[tyHandle 77])]).run Tryz.prog w = .ok (.bool true) w := by kernel_rfl
theorem ia_valueOf1 (e : Addr) (w : World) : (ReflectliteValue.unpack (.iface 77 (.pointer (some e)))).run Tryz.prog w
  = .ok (.agg #[tyHandle 77, .pointer (some ⟨w.heap.size, 0, none⟩), .int .u64 150]) (w.alloc (.cells #[.pointer (some e)] 77)) := by kernel_rfl
theorem ia_elemOf2 (w : World) : (Rtype.elem? 79).run Tryz.prog w = .ok (some 77) w := by kernel_rfl
theorem ia_mk1 (p : Addr) (w : World) : (ReflectliteValue.mk 77 p ReflectliteValue.flagAddr).run Tryz.prog w = .ok (.agg #[tyHandle 77, .pointer (some p), .int .u64 406]) w := by kernel_rfl
theorem ia_elemV2 (a p : Addr) (W : World) (ha : W.cell? a = some (.pointer (some p))) :
  (ReflectliteValue.method (ReflectliteValue.valueError "reflectlite.Value.Elem" 0) ReflectliteValue.elem #[.agg #[tyHandle 79, .pointer (some a), .int .u64 150]]).run Tryz.prog W
   = .ok (.agg #[tyHandle 77, .pointer (some p), .int .u64 406]) W := by
 rw [ia_rlm]
 simp only [Sem.run_bind, ia_parts2, Result.andThen]
 simp [ReflectliteValue.elem, loadVar, isAgg, underlying, Tryz.underlying79, ha, Result.andThen, ia_elemOf2, ia_mk1]
theorem ia_rls (v x : Value) : ReflectliteValue.set #[v, x] = (do
  let (some (dst, a, fl), some (src, b, _)) := (← ReflectliteValue.parts v, ← ReflectliteValue.parts x)
   | unsupported (.noEntry "extern/(internal/reflectlite.Value).Set.zeroValue")
  if fl / ReflectliteValue.flagAddr % 2 == 0 then unsupported (.noEntry "extern/(internal/reflectlite.Value).Set.unaddressable")
  let val ← loadVar src b
  if ← Rtype.directlyAssignable dst src then storeVar dst a val
  else if ← Rtype.implements dst src then
   if (← Rtype.kind src) == 20 then
    match val with
    | .nilIface => unsupported (.noEntry "extern/reflectlite: a nil value of one interface type handed on as a value of another")
    | _ => storeVar dst a val
   else storeVar dst a (.iface src val)
  else panicString ("reflectlite.Set: value of type " ++ (← Rtype.spelt src) ++ " is not assignable to type " ++ (← Rtype.spelt dst))
  pure (.tuple #[])) := rfl
theorem ia_parts1a (a : Addr) (w : World) : (ReflectliteValue.parts (.agg #[tyHandle 77, .pointer (some a), .int .u64 406])).run Tryz.prog w = .ok (some (77, a, 406)) w := by kernel_rfl
theorem ia_parts1 (a : Addr) (w : World) : (ReflectliteValue.parts (.agg #[tyHandle 77, .pointer (some a), .int .u64 150])).run Tryz.prog w = .ok (some (77, a, 150)) w := by kernel_rfl
theorem ia_direct1 (w : World) : (Rtype.directlyAssignable 77 77).run Tryz.prog w = .ok true w := by kernel_rfl
theorem ia_set1 (ta b e : Addr) (old : Value) (W : World) (hb : W.cell? b = some (.pointer (some e))) (ht : W.cell? ta = some old) (hf : W.frozen? ta = false) :
  (ReflectliteValue.set #[.agg #[tyHandle 77, .pointer (some ta), .int .u64 406], .agg #[tyHandle 77, .pointer (some b), .int .u64 150]]).run Tryz.prog W
   = .ok (.tuple #[]) (W.setCell ta (.pointer (some e))) := by
 rw [ia_rls]
 simp only [Sem.run_bind, ia_parts1a, ia_parts1, Result.andThen]
 simp [ReflectliteValue.flagAddr, loadVar, isAgg, underlying, Tryz.underlying77, hb, Result.andThen, ia_direct1, storeVar, Value.cells, storeCells, Addr.add]
 rw [run_store Tryz.prog W ta _ _ (by rfl)]
 simp [ht, hf]

set_option maxHeartbeats 4000000 in
theorem as_hit (e t : Addr) (old : Value) (w : World) (hg : w.cell? ⟨0, 0, none⟩ = some tyErr) (ht0 : w.cell? t = some old) (hf0 : w.frozen? t = false) :
  Calls Tryz.prog 42 #[.iface 77 (.pointer (some e)), .iface 79 (.pointer (some t))] w fun ev w' => ev = .returned (.bool true) ∧ w' = ((((w.alloc (.cells #[.pointer (some t)] 79)).alloc (.cells #[tyHandle 79, .pointer (some ⟨w.heap.size, 0, none⟩), .int .u64 150] 133)).alloc (.cells #[tyHandle 79, .pointer (some ⟨w.heap.size, 0, none⟩), .int .u64 150] 133)).alloc (.cells #[.pointer (some e)] 77)).setCell t (.pointer (some e)) := by
 have h6 := @run_callFunc_extern Tryz.prog 88 _ (fun args => ReflectliteValue.unpack (args.getD 0 (.tuple #[]))) Tryz.func88 (by kernel_rfl) (by kernel_rfl) (by kernel_rfl) (by kernel_rfl)
 have h7 := @run_callFunc_extern Tryz.prog 89 _ (ReflectliteValue.methodAny (ReflectliteValue.valueError "reflectlite.Value.Type" 0) (fun t _ _ _ => ReflectliteType.toType t)) Tryz.func89 (by kernel_rfl) (by kernel_rfl) (by kernel_rfl) (by kernel_rfl)
 have h8 := @run_callFunc_extern Tryz.prog 90 _ (ReflectliteValue.method (ReflectliteValue.valueError "reflectlite.Value.IsNil" 0) ReflectliteValue.isNil) Tryz.func90 (by kernel_rfl) (by kernel_rfl) (by kernel_rfl) (by kernel_rfl)
 have h27 := @run_callFunc_extern Tryz.prog 406 _ (ReflectliteType.abiMethod fun t => do pure (.int .u8 (← Rtype.kind t))) Tryz.func406 (by kernel_rfl) (by kernel_rfl) (by kernel_rfl) (by kernel_rfl)
 have h37 := @run_callFunc_extern Tryz.prog 419 _ (ReflectliteType.method ReflectliteType.elem) Tryz.func419 (by kernel_rfl) (by kernel_rfl) (by kernel_rfl) (by kernel_rfl)
 have h38 := @run_callFunc_extern Tryz.prog 420 _ (ReflectliteType.relation "Implements" ReflectliteType.implements_) Tryz.func420 (by kernel_rfl) (by kernel_rfl) (by kernel_rfl) (by kernel_rfl)
 have h10 := @run_callFunc_extern Tryz.prog 119 _ ReflectliteType.typeOf Tryz.func119 (by kernel_rfl) (by kernel_rfl) (by kernel_rfl) (by kernel_rfl)
 have h35 := @run_callFunc_extern Tryz.prog 417 _ (ReflectliteType.relation "AssignableTo" ReflectliteType.assignableTo) Tryz.func417 (by kernel_rfl) (by kernel_rfl) (by kernel_rfl) (by kernel_rfl)
 have h11 := @run_callFunc_extern Tryz.prog 144 _ (ReflectliteValue.method (ReflectliteValue.valueError "reflectlite.Value.Elem" 0) ReflectliteValue.elem) Tryz.func144 (by kernel_rfl) (by kernel_rfl) (by kernel_rfl) (by kernel_rfl)
 have h12 := @run_callFunc_extern Tryz.prog 145 _ ReflectliteValue.set Tryz.func145 (by kernel_rfl) (by kernel_rfl) (by kernel_rfl) (by kernel_rfl)
 have tO := ia_typeOf1
 have mA := ia_methodAssignableTo
 have a25 := ia_assignable1
 have v25 := ia_valueOf1
 have f6 := ia_valueOf2
 have f7 := ia_type2
 have mK := ia_methodKind
 have mE := ia_methodElem
 have mI := ia_methodImplements
 have k27 := ia_kind2
 have k25 := ia_kind1
 have e27 := ia_elem2
 have i25 := ia_implements1
 have n8 := ia_isNil2 ⟨w.heap.size, 0, none⟩ t ((w.alloc (.cells #[.pointer (some t)] 79)).alloc (.cells #[tyHandle 79, .pointer (some ⟨w.heap.size, 0, none⟩), .int .u64 150] 133)) (by simp)
 have hlt : 0 < w.heap.size := by
  rcases Nat.lt_or_ge 0 w.heap.size with h | h
  ·exact h
  ·simp [World.cell?, Array.getElem?_eq_none h] at hg
 have hg2 : ((w.alloc (.cells #[.pointer (some t)] 79)).alloc (.cells #[tyHandle 79, .pointer (some ⟨w.heap.size, 0, none⟩), .int .u64 150] 133)).cell? ⟨0, 0, none⟩ = some tyErr := by
  rw [World.cell?_alloc_lt _ _ ⟨0, 0, none⟩ (by simp <;> omega), World.cell?_alloc_lt _ _ ⟨0, 0, none⟩ hlt]; exact hg
 have htl : t.block < w.heap.size := by
  rcases Nat.lt_or_ge t.block w.heap.size with h | h
  ·exact h
  ·simp [World.cell?, Array.getElem?_eq_none h] at ht0
 have el := ia_elemV2 ⟨w.heap.size, 0, none⟩ t (((w.alloc (.cells #[.pointer (some t)] 79)).alloc (.cells #[tyHandle 79, .pointer (some ⟨w.heap.size, 0, none⟩), .int .u64 150] 133)).alloc (.cells #[tyHandle 79, .pointer (some ⟨w.heap.size, 0, none⟩), .int .u64 150] 133)) (by rw [World.cell?_alloc_lt _ _ ⟨w.heap.size, 0, none⟩ (by simp; omega)]; simp)
 have st := ia_set1 t ⟨w.heap.size + 1 + 1 + 1, 0, none⟩ e old ((((w.alloc (.cells #[.pointer (some t)] 79)).alloc (.cells #[tyHandle 79, .pointer (some ⟨w.heap.size, 0, none⟩), .int .u64 150] 133)).alloc (.cells #[tyHandle 79, .pointer (some ⟨w.heap.size, 0, none⟩), .int .u64 150] 133)).alloc (.cells #[.pointer (some e)] 77))
  (by rw [World.cell?_alloc_at _ _ _ _ (by simp)]; rfl)
  (by rw [World.cell?_alloc_lt _ _ t (by simp; omega), World.cell?_alloc_lt _ _ t (by simp; omega), World.cell?_alloc_lt _ _ t (by simp; omega), World.cell?_alloc_lt _ _ t htl]; exact ht0)
  (by rw [World.frozen?_alloc_old _ _ t (by simp; omega), World.frozen?_alloc_old _ _ t (by simp; omega), World.frozen?_alloc_old _ _ t (by simp; omega), World.frozen?_alloc_old _ _ t (Nat.ne_of_lt htl)]; exact hf0)
 go_enter Tryz.func42, Tryz.ntmps42
 go_wp2
 refine wp_loop_rounds 1 ?_
 rw [rounds_succ]
 go_wp2
 go_ret
 exact ⟨rfl, rfl⟩
end Go.Proofs.Mv.V
namespace Go.Proofs.Mv.V
open Go.RowKit Go.Extern.Stop Go.Stop Go.Extern Go
theorem ii_typeOf (v : Value) (w : World) : (Extern.ReflectliteType.typeOf #[.iface 47 v]).run Tryz.prog w = .ok (.iface 193 (.agg #[tyHandle 47])) w := by kernel_rfl
def compEntry : Array Value → Sem Value := Extern.ReflectliteType.method fun t => do Extern.Rtype.noPackHeld "Comparable" t; pure (.bool (← typeInfo t).comparable)
theorem ii_comparable (w : World) : (compEntry #[.agg #[tyHandle 47]]).run Tryz.prog w = .ok (.bool true) w := by kernel_rfl
theorem ii_methodComparable (v : Value) (w : World) : (Go.method 505 193 v "Comparable").run Tryz.prog w = .ok (418, v) w := by kernel_rfl
theorem ii_noIsC (v : Value) (xT : TypeId) (w : World) : (Instr.typeAssert (.iface 47 v) xT 223 true).run Tryz.prog w = .ok (.tuple #[.nilIface, .bool false]) w := run_typeAssert_lacksB Tryz.underlying223 (by kernel_rfl) (by kernel_rfl) v xT w
theorem ii_noIsS (v : Value) (xT : TypeId) (w : World) : (Instr.typeAssert (.iface 77 v) xT 223 true).run Tryz.prog w = .ok (.tuple #[.nilIface, .bool false]) w := run_typeAssert_lacksB Tryz.underlying223 (by kernel_rfl) (by kernel_rfl) v xT w
theorem ii_hasUnwrapS (v : Value) (xT : TypeId) (w : World) : (Instr.typeAssert (.iface 77 v) xT 200 true).run Tryz.prog w = .ok (.tuple #[.iface 77 v, .bool true]) w := run_typeAssert_hasB Tryz.underlying200 (by kernel_rfl) v xT w
theorem ii_methodUnwrap (v : Value) (w : World) : (Go.method 505 77 v "Unwrap").run Tryz.prog w = .ok (411, v) w := by kernel_rfl
theorem ii_comp : (Tryz.prog.info? 47).map (·.comparable) = some true := by kernel_rfl
theorem ii_eq (c : Int) (w : World) : (Go.binOp .eql 35 (.iface 47 (.int .i64 c)) (.iface 47 (.int .i64 c))).run Tryz.prog w = .ok (.bool true) w := by
 obtain ⟨i, hi, hcmp⟩ := Option.map_eq_some_iff.1 ii_comp
 simp only [Go.binOp]
 have h : ∀ d : Nat, (Op.equalIn (d + 2) 35 (.iface 47 (.int .i64 c)) (.iface 47 (.int .i64 c))).run Tryz.prog w = .ok true w := fun d => by
  simp [Op.equalIn, run_underlying Tryz.underlying35, run_underlying Tryz.underlying47, typeInfo, hi, hcmp]
 simp [Op.equal, Op.maxDepth, h 9998]
set_option maxHeartbeats 4000000 in
theorem is_spot (pb po : Nat) (c : Int) (w : World) (h1 : w.cell? ⟨pb, po + 1, none⟩ = some (.iface 47 (.int .i64 c))) :
  Calls Tryz.prog 68 #[.iface 77 (.pointer (some ⟨pb, po, none⟩)), .iface 47 (.int .i64 c)] w fun e w' => e = .returned (.bool true) ∧ w' = w := by
 have h8 := @run_callFunc_extern Tryz.prog 119 _ Extern.ReflectliteType.typeOf Tryz.func119 (by kernel_rfl) (by kernel_rfl) (by kernel_rfl) (by kernel_rfl)
 have h32 := @run_callFunc_extern Tryz.prog 418 _ compEntry Tryz.func418 (by kernel_rfl) (by kernel_rfl) (by kernel_rfl) (by kernel_rfl)
 have tT := ii_typeOf
 have cT := ii_comparable
 have mR := ii_methodComparable
 have nE := ii_noIsC
 have nW := ii_noIsS
 have uW := ii_hasUnwrapS
 have mU := ii_methodUnwrap
 have hty := run_eql_iface_types (P := Tryz.prog) 77 47 (.pointer (some ⟨pb, po, none⟩)) (.int .i64 c) Tryz.underlying35 (by decide) w
 have heq := ii_eq c w
 go_enter Tryz.func68, Tryz.ntmps68
 go_wp2
 refine wp_loop_rounds 2 ?_
 rw [rounds_succ]
 go_wp2
 rw [rounds_succ]
 go_wp2
 go_ret
 exact ⟨rfl, rfl⟩
end Go.Proofs.Mv.V
namespace Go.Proofs.Mv.V
open Go.RowKit Go.Extern.Stop Go.Stop Go.Extern Go
theorem as_hit' (e : Addr) (tb : Nat) (old : Value) (w : World) (hg : w.cell? ⟨0, 0, none⟩ = some tyErr) (ht0 : w.cell? ⟨tb, 0, none⟩ = some old) (hf0 : w.frozen? ⟨tb, 0, none⟩ = false) :
  Calls Tryz.prog 42 #[.iface 77 (.pointer (some e)), .iface 79 (.pointer (some ⟨tb, 0, none⟩))] w fun ev w' => ev = .returned (.bool true) ∧ w'.cell? ⟨tb, 0, none⟩ = some (.pointer (some e)) ∧ Below tb w w' := by
 refine (as_hit e ⟨tb, 0, none⟩ old w hg ht0 hf0).mono ?_
 rintro ev w' ⟨rfl, rfl⟩
 have htl : tb < w.heap.size := by
  rcases Nat.lt_or_ge tb w.heap.size with h | h
  ·exact h
  ·simp [World.cell?, Array.getElem?_eq_none h] at ht0
 refine ⟨rfl, ?_, ?_⟩
 ·refine World.cell?_setCell_same' _ _ _ ?_
  rw [World.cell?_alloc_lt _ _ ⟨tb, 0, none⟩ (by simp; omega), World.cell?_alloc_lt _ _ ⟨tb, 0, none⟩ (by simp; omega), World.cell?_alloc_lt _ _ ⟨tb, 0, none⟩ (by simp; omega), World.cell?_alloc_lt _ _ ⟨tb, 0, none⟩ htl, ht0]; rfl
 ·refine Below.setCell (p := ⟨tb, 0, none⟩) ?_ (Nat.le_refl tb) _
  exact Below.alloc (Below.alloc (Below.alloc (Below.alloc (Below.refl _ _) (by omega) _) (by simp <;> omega) _) (by simp <;> omega) _) (by simp <;> omega) _
theorem is_cmp : (Tryz.prog.info? 77).map (·.comparable) = some true := by kernel_rfl
theorem is_info : (Tryz.prog.info? 82).isSome = true := by kernel_rfl
theorem ptr_neq (a : Addr) (w : World) : (Go.binOp .neq 35 (.iface 77 (.pointer (some a))) (.iface 77 (.pointer (some a)))).run Tryz.prog w = .ok (.bool false) w := by
 obtain ⟨i, hi, hcmp⟩ := Option.map_eq_some_iff.1 is_cmp
 obtain ⟨j, hj⟩ := Option.isSome_iff_exists.1 is_info
 simp only [Go.binOp]
 simp [Op.equal, Op.maxDepth, run_equalIn_iface_ptr_same w 9998 a Tryz.underlying35 Tryz.underlying77 hi hcmp hj]
set_option maxHeartbeats 4000000 in
theorem is_calls (pb po : Nat) (at_ c : Int) (w : World) (hg : w.cell? ⟨0, 0, none⟩ = some tyErr) (h0 : w.cell? ⟨pb, po, none⟩ = some (.int .i64 at_)) (h1 : w.cell? ⟨pb, po + 1, none⟩ = some (.iface 47 (.int .i64 c))) :
  Calls Tryz.prog 29 #[.iface 77 (.pointer (some ⟨pb, po, none⟩)), .int .i64 at_, .int .i64 c] w fun e w' => e = .returned (.bool true) ∧ Below w.heap.size w w' := by
 have hlt : pb < w.heap.size := by
  rcases Nat.lt_or_ge pb w.heap.size with h | h
  ·exact h
  ·simp [World.cell?, Array.getElem?_eq_none h] at h0
 have hlg : 0 < w.heap.size := by
  rcases Nat.lt_or_ge 0 w.heap.size with h | h
  ·exact h
  ·simp [World.cell?, Array.getElem?_eq_none h] at hg
 have heq := ii_eq c
 have hpn := ptr_neq ⟨pb, po, none⟩
 have hgA : (w.alloc (.cells #[.pointer none] 77)).cell? ⟨0, 0, none⟩ = some tyErr := by
  rw [World.cell?_alloc_lt _ _ ⟨0, 0, none⟩ hlg]; exact hg
 have htA : (w.alloc (.cells #[.pointer none] 77)).cell? ⟨w.heap.size, 0, none⟩ = some (.pointer none) := by simp
 have hfA : (w.alloc (.cells #[.pointer none] 77)).frozen? ⟨w.heap.size, 0, none⟩ = false := by simp
 go_enter Tryz.func29, Tryz.ntmps29
 go_wp2_with (go_at_call 42; refine (as_hit' ⟨pb, po, none⟩ w.heap.size (.pointer none) _ hgA htA hfA).mono ?_)
 rintro e W1 ⟨rfl, hc, hb⟩
 have hb1 : Below w.heap.size w W1 := (Below.alloc (Below.refl _ _) (Nat.le_refl _) _).trans hb
 have c0 : W1.cell? ⟨pb, po, none⟩ = some (.int .i64 at_) := (hb1.cell (show (⟨pb, po, none⟩ : Addr).block < w.heap.size from hlt)).trans h0
 have c1 : W1.cell? ⟨pb, po + 1, none⟩ = some (.iface 47 (.int .i64 c)) := (hb1.cell (show (⟨pb, po + 1, none⟩ : Addr).block < w.heap.size from hlt)).trans h1
 clear hb hgA htA hfA h0 h1 hg
 go_wp2_with (go_at_call 68; refine (is_spot pb po c _ c1).mono ?_)
 rintro e W2 ⟨rfl, rfl⟩
 go_wp2
 go_ret
 exact ⟨rfl, hb1⟩
structure Laid (w : World) (F : Nat → Prop) : Prop where
 f0 : F 0
 f1 : F 2
 f2 : F 3
 f3 : F 1
 c0 : w.cell? ⟨0, 0, none⟩ = some tyErr
 c1 : ∃ te pe, w.cell? ⟨2, 0, none⟩ = some (.iface te pe)
 c2 : ∃ te pe, w.cell? ⟨3, 0, none⟩ = some (.iface te pe)
 c3 : w.var? Tryz.prog "internal/strconv.uint64pow10" = some (Lib.pow10Tab.map fun z => Value.int .u64 z).toArray
theorem pow10_g : Tryz.prog.globalNamed "internal/strconv.uint64pow10" = some 1 := by kernel_rfl
instance laidGI : GI where
 inv := Laid
 keep := by
  intro w w' F F' h k
  have e : ∀ b, F b → w'.cell? ⟨b, 0, none⟩ = w.cell? ⟨b, 0, none⟩ := fun b hb => by simp only [World.cell?, (k b hb).2]
  have e3 : w'.var? Tryz.prog "internal/strconv.uint64pow10" = w.var? Tryz.prog "internal/strconv.uint64pow10" := by simp only [World.var?, pow10_g, Option.bind_some, (k _ h.f3).2]
  exact ⟨(k _ h.f0).1, (k _ h.f1).1, (k _ h.f2).1, (k _ h.f3).1, by rw [e _ h.f0]; exact h.c0, by rw [e _ h.f1]; exact h.c1, by rw [e _ h.f2]; exact h.c2, by rw [e3]; exact h.c3⟩
abbrev spotD (t : Option (Nat × Nat)) (at_ c : Int) : D := .iface 77 (.rptr t [.v (.int .i64 at_), .iface 47 (.v (.int .i64 c))])
theorem a_is (t : Option (Nat × Nat)) (at_ c : Int) (m : Mem) (n : Nat) : ACalls Tryz.prog 29 [spotD t at_ c, .v (.int .i64 at_), .v (.int .i64 c)] m n (fun d m' n' => d = .v (.bool true) ∧ m' = m ∧ n' = n) := by
 refine acalls_lib ⟨_, Tryz.func29, by kernel_rfl, by kernel_rfl⟩ fun w ν F vals hst hv => ?_
 obtain ⟨x, y, z, rfl, h1, h2, h3⟩ := conVs_arr3 hv
 simp only [Con, ConCs] at h1 h2 h3
 subst h2; subst h3
 obtain ⟨y', rfl, b, o, rfl, hF, _, ⟨y1, hc1, _, rfl⟩, ⟨y2, hc2, _, y3, rfl, rfl⟩, _⟩ := h1
 refine (is_calls b o at_ c w hst.gi.c0 hc1 hc2).mono ?_
 rintro e w' ⟨rfl, hb⟩
 exact ⟨_, rfl, hb, .v (.bool true), by simp [Con], rfl, rfl, rfl⟩
end Go.Proofs.Mv.V
namespace Go.Proofs
open Go.Shelf
def Tryz.lays137_ren : Go.Shelf.Ren := ⟨fun | 137 => 173 | 217 => 235 | 266 => 284 | n => n, fun | 9 => 9 | 5 => 5 | 3 => 3 | n => n, fun | n => n⟩
theorem Tryz.lays137 : Go.Proofs.Lays.n137 Tryz.prog Tryz.lays137_ren := {
 mixed := by kernel_rfl
 f137 := Tryz.func173.trans (congrArg some (by kernel_rfl))
 f217 := Tryz.func235.trans (congrArg some (by kernel_rfl))
 f266 := Tryz.func284.trans (congrArg some (by kernel_rfl))
 t3 := Tryz.underlying3
 a3 := Tryz.isAgg3
 z3 := Tryz.sizeOf3
 v3 := Tryz.zeroValue3
 t5 := Tryz.underlying5
 a5 := Tryz.isAgg5
 z5 := Tryz.sizeOf5
 v5 := Tryz.zeroValue5
 t9 := Tryz.underlying9
 a9 := Tryz.isAgg9
 z9 := Tryz.sizeOf9
 v9 := Tryz.zeroValue9 }
def Tryz.laysPu14_ren : Go.Shelf.Ren := ⟨fun | 14 => 214 | 16 => 271 | 17 => 213 | 19 => 313 | 20 => 314 | 21 => 267 | 22 => 268 | 23 => 269 | 24 => 270 | 25 => 311 | 27 => 48 | 26 => 312 | 28 => 97 | 29 => 151 | 30 => 216 | 31 => 217 | 32 => 218 | 33 => 219 | 35 => 273 | 34 => 272 | 36 => 274 | 37 => 275 | 38 => 276 | 39 => 315 | 40 => 316 | n => n, fun | 9 => 9 | 3 => 3 | 22 => 246 | 24 => 35 | 25 => 247 | 4 => 4 | 34 => 287 | 5 => 5 | 36 => 286 | 37 => 91 | 0 => 0 | 39 => 290 | 21 => 21 | 44 => 319 | 47 => 148 | 50 => 340 | 48 => 338 | 2 => 2 | 52 => 249 | 55 => 252 | 59 => 295 | 60 => 296 | 20 => 20 | 61 => 297 | 65 => 341 | 66 => 342 | 67 => 100 | n => n, fun | 0 => 2 | 1 => 3 | 2 => 1 | 3 => 5 | 4 => 6 | n => n⟩
theorem Tryz.laysPu14 : Go.Proofs.LaysPu.n14 Tryz.prog Tryz.laysPu14_ren := {
 mixed := by kernel_rfl
 f14 := Tryz.func214.trans (congrArg some (by kernel_rfl))
 f16 := Tryz.func271.trans (congrArg some (by kernel_rfl))
 f17 := Tryz.func213.trans (congrArg some (by kernel_rfl))
 f19 := Tryz.func313.trans (congrArg some (by kernel_rfl))
 f20 := Tryz.func314.trans (congrArg some (by kernel_rfl))
 f21 := Tryz.func267.trans (congrArg some (by kernel_rfl))
 f22 := Tryz.func268.trans (congrArg some (by kernel_rfl))
 f23 := Tryz.func269.trans (congrArg some (by kernel_rfl))
 f24 := Tryz.func270.trans (congrArg some (by kernel_rfl))
 f25 := Tryz.func311.trans (congrArg some (by kernel_rfl))
 f26 := Tryz.func312.trans (congrArg some (by kernel_rfl))
 f27 := Tryz.func48.trans (congrArg some (by kernel_rfl))
 f28 := Tryz.func97.trans (congrArg some (by kernel_rfl))
 f29 := Tryz.func151.trans (congrArg some (by kernel_rfl))
 f30 := Tryz.func216.trans (congrArg some (by kernel_rfl))
 f31 := Tryz.func217.trans (congrArg some (by kernel_rfl))
 f32 := Tryz.func218.trans (congrArg some (by kernel_rfl))
 f33 := Tryz.func219.trans (congrArg some (by kernel_rfl))
 f34 := Tryz.func272.trans (congrArg some (by kernel_rfl))
 f35 := Tryz.func273.trans (congrArg some (by kernel_rfl))
 f36 := Tryz.func274.trans (congrArg some (by kernel_rfl))
 f37 := Tryz.func275.trans (congrArg some (by kernel_rfl))
 f38 := Tryz.func276.trans (congrArg some (by kernel_rfl))
 f39 := Tryz.func315.trans (congrArg some (by kernel_rfl))
 f40 := Tryz.func316.trans (congrArg some (by kernel_rfl))
 t0 := Tryz.underlying0
 a0 := Tryz.isAgg0
 z0 := Tryz.sizeOf0
 v0 := Tryz.zeroValue0
 i0 := by kernel_rfl
 t2 := Tryz.underlying2
 a2 := Tryz.isAgg2
 z2 := Tryz.sizeOf2
 v2 := Tryz.zeroValue2
 i2 := by kernel_rfl
 t3 := Tryz.underlying3
 a3 := Tryz.isAgg3
 z3 := Tryz.sizeOf3
 v3 := Tryz.zeroValue3
 i3 := by kernel_rfl
 t4 := Tryz.underlying4
 a4 := Tryz.isAgg4
 z4 := Tryz.sizeOf4
 v4 := Tryz.zeroValue4
 i4 := by kernel_rfl
 t5 := Tryz.underlying5
 a5 := Tryz.isAgg5
 z5 := Tryz.sizeOf5
 v5 := Tryz.zeroValue5
 i5 := by kernel_rfl
 t9 := Tryz.underlying9
 a9 := Tryz.isAgg9
 z9 := Tryz.sizeOf9
 v9 := Tryz.zeroValue9
 i9 := by kernel_rfl
 t20 := Tryz.underlying20
 a20 := Tryz.isAgg20
 z20 := Tryz.sizeOf20
 v20 := Tryz.zeroValue20
 i20 := by kernel_rfl
 t21 := Tryz.underlying21
 a21 := Tryz.isAgg21
 z21 := Tryz.sizeOf21
 v21 := Tryz.zeroValue21
 i21 := by kernel_rfl
 t22 := Tryz.underlying246
 a22 := Tryz.isAgg246
 z22 := Tryz.sizeOf246
 v22 := Tryz.zeroValue246
 i22 := by kernel_rfl
 t24 := Tryz.underlying35
 a24 := Tryz.isAgg35
 z24 := Tryz.sizeOf35
 v24 := Tryz.zeroValue35
 i24 := by kernel_rfl
 t25 := Tryz.underlying247
 a25 := Tryz.isAgg247
 z25 := Tryz.sizeOf247
 v25 := Tryz.zeroValue247
 i25 := by kernel_rfl
 t34 := Tryz.underlying287
 a34 := Tryz.isAgg287
 z34 := Tryz.sizeOf287
 v34 := Tryz.zeroValue287
 i34 := by kernel_rfl
 c34 := by kernel_rfl
 t36 := Tryz.underlying286
 a36 := Tryz.isAgg286
 z36 := Tryz.sizeOf286
 v36 := Tryz.zeroValue286
 i36 := by kernel_rfl
 t37 := Tryz.underlying91
 a37 := Tryz.isAgg91
 z37 := Tryz.sizeOf91
 v37 := Tryz.zeroValue91
 i37 := by kernel_rfl
 t39 := Tryz.underlying290
 a39 := Tryz.isAgg290
 z39 := Tryz.sizeOf290
 v39 := Tryz.zeroValue290
 i39 := by kernel_rfl
 t44 := Tryz.underlying319
 a44 := Tryz.isAgg319
 z44 := Tryz.sizeOf319
 v44 := Tryz.zeroValue319
 i44 := by kernel_rfl
 t47 := Tryz.underlying148
 a47 := Tryz.isAgg148
 z47 := Tryz.sizeOf148
 v47 := Tryz.zeroValue148
 i47 := by kernel_rfl
 t48 := Tryz.underlying338
 a48 := Tryz.isAgg338
 z48 := Tryz.sizeOf338
 v48 := Tryz.zeroValue338
 i48 := by kernel_rfl
 t50 := Tryz.underlying340
 a50 := Tryz.isAgg340
 z50 := Tryz.sizeOf340
 v50 := Tryz.zeroValue340
 i50 := by kernel_rfl
 t52 := Tryz.underlying249
 a52 := Tryz.isAgg249
 z52 := Tryz.sizeOf249
 v52 := Tryz.zeroValue249
 i52 := by kernel_rfl
 t55 := Tryz.underlying252
 a55 := Tryz.isAgg252
 z55 := Tryz.sizeOf252
 v55 := Tryz.zeroValue252
 i55 := by kernel_rfl
 t59 := Tryz.underlying295
 a59 := Tryz.isAgg295
 z59 := Tryz.sizeOf295
 v59 := Tryz.zeroValue295
 i59 := by kernel_rfl
 t60 := Tryz.underlying296
 a60 := Tryz.isAgg296
 z60 := Tryz.sizeOf296
 v60 := Tryz.zeroValue296
 i60 := by kernel_rfl
 t61 := Tryz.underlying297
 a61 := Tryz.isAgg297
 z61 := Tryz.sizeOf297
 t65 := Tryz.underlying341
 a65 := Tryz.isAgg341
 z65 := Tryz.sizeOf341
 v65 := Tryz.zeroValue341
 i65 := by kernel_rfl
 t66 := Tryz.underlying342
 a66 := Tryz.isAgg342
 z66 := Tryz.sizeOf342
 v66 := Tryz.zeroValue342
 i66 := by kernel_rfl
 t67 := Tryz.underlying100
 a67 := Tryz.isAgg100
 z67 := Tryz.sizeOf100
 v67 := Tryz.zeroValue100
 i67 := by kernel_rfl
 g0 := by kernel_rfl
 m0 := by kernel_rfl
 g1 := by kernel_rfl
 m1 := by kernel_rfl
 g2 := by kernel_rfl
 m2 := by kernel_rfl
 g3 := by kernel_rfl
 m3 := by kernel_rfl
 g4 := by kernel_rfl
 m4 := by kernel_rfl }
end Go.Proofs
open Go Go.Proofs Go.Proofs.Mv.V
set_option maxRecDepth 10000
namespace Go.Proofs.Mv.App
variable [GI]
attribute [simp] Nat.testBit
/-! bytes -/
def byt (v : Int) : UInt8 := UInt8.ofNat (v % 256).toNat
theorem wrap_byt (v : Int) : Value.int .u8 (IntKind.u8.wrap v) = .int .u8 ((byt v).toNat : Int) := by
 congr 1
 simp only [byt, IntKind.wrap, IntKind.signed, IntKind.bits, Bool.false_eq_true, if_false]
 have h1 : 0 ≤ v % 256 := Int.emod_nonneg _ (by omega)
 have h2 : v % 256 < 256 := Int.emod_lt_of_pos _ (by omega)
 have h3 : (UInt8.ofNat (v % 256).toNat).toNat = (v % 256).toNat := by
  simp only [UInt8.toNat_ofNat']; omega
 rw [h3]
 rw [Int.toNat_of_nonneg h1]
 rfl
theorem bEnc_fold (b : UInt8) : [D.v (.int .u8 (b.toNat : Int))] = bEnc b := rfl
theorem unB_cons (b : UInt8) (r : List (List D)) : unB (bEnc b :: r) = b :: unB r := by simp [bEnc, unB]
theorem bEnc_len (b : UInt8) : (bEnc b).length = 1 := rfl
theorem bEnc_get (b : UInt8) : (bEnc b)[0]? = some (.v (.int .u8 (b.toNat : Int))) := rfl
theorem unB_nil : unB [] = [] := rfl
theorem i64_byte (b : UInt8) : IntKind.i64.wrap (b.toNat : Int) = b.toNat := wrap_i64 (by omega) (by have := b.toNat_lt; omega)
attribute [simp] wrap_byt bEnc_fold bEnc_len bEnc_get unB_cons unB_nil i64_byte unB_bEnc
theorem unB_bs (r : List UInt8) (a b : Nat) : unB (List.take a (List.drop b (List.map bEnc r))) = List.take a (List.drop b r) := by
 rw [← List.map_drop, ← List.map_take, unB_bEnc]
theorem unB_b (r : List UInt8) (a : Nat) : unB (List.take a (List.map bEnc r)) = List.take a r := by
 rw [← List.map_take, unB_bEnc]
@[simp] theorem unB_app (a : List UInt8) (r : List (List D)) : unB (List.map bEnc a ++ r) = a ++ unB r := by
 induction a with
 | nil => rfl
 | cons x a ih => simp [ih]
@[simp] theorem comp_idf {α β : Type} (f : α → β) : ((fun e => e) ∘ f) = f := rfl
theorem bits_i64 : IntKind.i64.bits = 64 := rfl
attribute [simp] unB_bs unB_b bits_i64
@[simp] theorem take_map_len {α γ : Type} (l : List α) (f : α → γ) : (l.map f).take l.length = l.map f := List.take_of_length_le (by simp)
@[simp] theorem nat_neg (q : Nat) : ((q : Int) < 0) = False := by simp
theorem get_opt {α : Type} {l : List α} {i : Nat} {a : α} (h : l[i]? = some a) (hi : i < l.length) : l[i] = a := by rw [List.getElem?_eq_getElem hi] at h; exact Option.some.inj h
/-! texts, lists of texts, bytes, errors -/
def S (s : List UInt8) : D := .v (.string (ofL s))
def sl1 (l : List (List UInt8)) : D := .sl 1 (l.map fun s => [S s])
def B (s : List UInt8) : D := .sl 1 (s.map bEnc)
def I (n : Int) : D := .v (.int .i64 n)
def Tt (b : Bool) : D := .v (.bool b)
def code (c : Int) : D := .iface 47 (.v (.int .i64 c))
def nilE : D := .v .nilIface
@[simp] theorem okD_S (s : List UInt8) : okD (S s) = true := (rfl)
@[simp] theorem cellsOf_S (s : List UInt8) : cellsOf (S s) = [S s] := (rfl)
@[simp] theorem kof_S (s : List UInt8) : kof (S s) = none := (rfl)
@[simp] theorem okD_B (s : List UInt8) : okD (B s) = true := (rfl)
@[simp] theorem cellsOf_B (s : List UInt8) : cellsOf (B s) = [B s] := (rfl)
@[simp] theorem kof_B (s : List UInt8) : kof (B s) = none := (rfl)
@[simp] theorem okD_sl1 (l : List (List UInt8)) : okD (sl1 l) = true := (rfl)
@[simp] theorem cellsOf_sl1 (l : List (List UInt8)) : cellsOf (sl1 l) = [sl1 l] := (rfl)
@[simp] theorem kof_sl1 (l : List (List UInt8)) : kof (sl1 l) = none := (rfl)
@[simp] theorem okD_I (n : Int) : okD (I n) = true := (rfl)
@[simp] theorem cellsOf_I (n : Int) : cellsOf (I n) = [I n] := (rfl)
@[simp] theorem kof_I (n : Int) : kof (I n) = none := (rfl)
@[simp] theorem okD_Tt (b : Bool) : okD (Tt b) = true := (rfl)
@[simp] theorem cellsOf_Tt (b : Bool) : cellsOf (Tt b) = [Tt b] := (rfl)
@[simp] theorem kof_Tt (b : Bool) : kof (Tt b) = none := (rfl)
@[simp] theorem okD_code (c : Int) : okD (code c) = true := (rfl)
@[simp] theorem cellsOf_code (c : Int) : cellsOf (code c) = [code c] := (rfl)
@[simp] theorem kof_code (c : Int) : kof (code c) = none := (rfl)
@[simp] theorem okD_nilE  : okD (nilE) = true := (rfl)
@[simp] theorem cellsOf_nilE  : cellsOf (nilE) = [nilE] := (rfl)
@[simp] theorem kof_nilE  : kof (nilE) = none := (rfl)
theorem pur_S (s : List UInt8) : Pur (S s) := Pur.v _
theorem pur_I (n : Int) : Pur (I n) := Pur.v _
theorem pur_T (n : Bool) : Pur (Tt n) := Pur.v _
theorem pur_code (c : Int) : Pur (code c) := Pur.iface (Pur.v _)
theorem pur_nilE : Pur nilE := Pur.v _
theorem pur_ss {l : List (List UInt8)} : ∀ e ∈ l.map (fun s => [S s]), ∀ d ∈ e, Pur d := by
 intro e he d hd
 obtain ⟨b, _, rfl⟩ := List.mem_map.1 he
 simp at hd; subst hd; exact Pur.v _
theorem pur_sl1 (l : List (List UInt8)) : Pur (sl1 l) := Pur.sl pur_ss
theorem pub_pair {n : Nat} {m : Mem} {a b a' b' : D} (h : PubAs n m a a') (h' : PubAs n m b b') : PubAs n m (.tup [a, b]) (.tup [a', b']) := .tup (.cons h (.cons h' .nil))
theorem pub_nil {n : Nat} {m : Mem} (z : Nat) : PubAs n m (.v (.slice none 0 0)) (.sl z []) := (Pur.v _).pub.le (Le_nil z)
def Rd (m : Mem) (z : Nat) (es : List (List D)) (d : D) : Prop := d = .sl z es ∨ Lst m z es d
theorem Rd.elems {m : Mem} {z : Nat} {es : List (List D)} {d : D} (h : Rd m z es d) : ∃ O : Prop, elemsOf m z d = some (O, es) ∧ O := by
 rcases h with rfl | h
 ·exact elems_sl m z es
 ·exact h.elems
theorem Rd.frame {m m' : Mem} {z : Nat} {es : List (List D)} {d : D} (h : Rd m z es d) (hf : ∀ k, kof d = some k → m' k = m k) : Rd m' z es d := by
 rcases h with h | h
 ·exact .inl h
 ·exact .inr (h.frame hf)
end Go.Proofs.Mv.App
open Go Go.Proofs Go.Proofs.Mv.V
set_option maxRecDepth 10000
namespace Go.Proofs.Mv.App
variable [GI]
abbrev U (x : UInt8) : D := .v (.int .u8 (x.toNat : Int))
def isSmall (x : UInt8) : Bool := decide (97 ≤ x.toNat) && decide (x.toNat ≤ 122)
def isGreat (x : UInt8) : Bool := decide (65 ≤ x.toNat) && decide (x.toNat ≤ 90)
def isDigit (x : UInt8) : Bool := decide (48 ≤ x.toNat) && decide (x.toNat ≤ 57)
def isBlank (x : UInt8) : Bool := decide (x.toNat = 32) || decide (x.toNat = 9) || decide (x.toNat = 10)
def isWord (x : UInt8) : Bool := isSmall x || isGreat x || isDigit x
theorem cLexSmall (x : UInt8) (m : Mem) (n : Nat) : ACalls Tryz.prog 168 [U x] m n (fun d m' n' => d = Tt (isSmall x) ∧ m' = m ∧ n' = n) := by
 refine acalls_vc [0, 2] Tryz.func168 Tryz.ntmps168 (by kernel_rfl) rfl rfl (by simp) ?_
 by_cases a : 97 ≤ (x.toNat : Int)
 ·have a' : 97 ≤ x.toNat := by omega
  simp -dsimp [a, Tt, isSmall, a']; omega
 ·have a' : ¬ 97 ≤ x.toNat := by omega
  simp -dsimp [a, Tt, isSmall, a']
theorem cLexGreat (x : UInt8) (m : Mem) (n : Nat) : ACalls Tryz.prog 170 [U x] m n (fun d m' n' => d = Tt (isGreat x) ∧ m' = m ∧ n' = n) := by
 refine acalls_vc [0, 2] Tryz.func170 Tryz.ntmps170 (by kernel_rfl) rfl rfl (by simp) ?_
 by_cases a : 65 ≤ (x.toNat : Int)
 ·have a' : 65 ≤ x.toNat := by omega
  simp -dsimp [a, Tt, isGreat, a']; omega
 ·have a' : ¬ 65 ≤ x.toNat := by omega
  simp -dsimp [a, Tt, isGreat, a']
theorem cLexDigit (x : UInt8) (m : Mem) (n : Nat) : ACalls Tryz.prog 171 [U x] m n (fun d m' n' => d = Tt (isDigit x) ∧ m' = m ∧ n' = n) := by
 refine acalls_vc [0, 2] Tryz.func171 Tryz.ntmps171 (by kernel_rfl) rfl rfl (by simp) ?_
 by_cases a : 48 ≤ (x.toNat : Int)
 ·have a' : 48 ≤ x.toNat := by omega
  simp -dsimp [a, Tt, isDigit, a']; omega
 ·have a' : ¬ 48 ≤ x.toNat := by omega
  simp -dsimp [a, Tt, isDigit, a']
theorem cIdentSmall (x : UInt8) (m : Mem) (n : Nat) : ACalls Tryz.prog 123 [U x] m n (fun d m' n' => d = Tt (isSmall x) ∧ m' = m ∧ n' = n) := by
 refine acalls_vc [0, 2] Tryz.func123 Tryz.ntmps123 (by kernel_rfl) rfl rfl (by simp) ?_
 by_cases a : 97 ≤ (x.toNat : Int)
 ·have a' : 97 ≤ x.toNat := by omega
  simp -dsimp [a, Tt, isSmall, a']; omega
 ·have a' : ¬ 97 ≤ x.toNat := by omega
  simp -dsimp [a, Tt, isSmall, a']
theorem cIdentGreat (x : UInt8) (m : Mem) (n : Nat) : ACalls Tryz.prog 192 [U x] m n (fun d m' n' => d = Tt (isGreat x) ∧ m' = m ∧ n' = n) := by
 refine acalls_vc [0, 2] Tryz.func192 Tryz.ntmps192 (by kernel_rfl) rfl rfl (by simp) ?_
 by_cases a : 65 ≤ (x.toNat : Int)
 ·have a' : 65 ≤ x.toNat := by omega
  simp -dsimp [a, Tt, isGreat, a']; omega
 ·have a' : ¬ 65 ≤ x.toNat := by omega
  simp -dsimp [a, Tt, isGreat, a']
theorem cLexBlank (x : UInt8) (m : Mem) (n : Nat) : ACalls Tryz.prog 112 [U x] m n (fun d m' n' => d = Tt (isBlank x) ∧ m' = m ∧ n' = n) := by
 refine acalls_vc [0, 2] Tryz.func112 Tryz.ntmps112 (by kernel_rfl) rfl rfl (by simp) ?_
 by_cases a : x.toNat = 32
 ·simp -dsimp [a, Tt, isBlank]
 by_cases b : x.toNat = 9
 ·simp -dsimp [a, b, Tt, isBlank]
 have a' : ((x.toNat : Int) == 32) = false := by simp; omega
 have b' : ((x.toNat : Int) == 9) = false := by simp; omega
 by_cases c : x.toNat = 10
 ·simp -dsimp [c, Tt, isBlank]
 have c' : ((x.toNat : Int) == 10) = false := by simp; omega
 simp -dsimp [a, b, c, a', b', c', Tt, isBlank]
theorem cLexHash (x : UInt8) (m : Mem) (n : Nat) : ACalls Tryz.prog 114 [U x] m n (fun d m' n' => d = Tt (!decide (x.toNat = 10)) ∧ m' = m ∧ n' = n) := by
 refine acalls_vc [0, 2] Tryz.func114 Tryz.ntmps114 (by kernel_rfl) rfl rfl (by simp) ?_
 by_cases a : x.toNat = 10
 ·simp -dsimp [a, Tt]
 have a' : ((x.toNat : Int) == 10) = false := by simp; omega
 simp -dsimp [a, a', Tt]; omega
theorem cLexWord (x : UInt8) (m : Mem) (n : Nat) : ACalls Tryz.prog 169 [U x] m n (fun d m' n' => d = Tt (isWord x) ∧ m' = m ∧ n' = n) := by
 refine acalls_vc [0, 2] Tryz.func169 Tryz.ntmps169 (by kernel_rfl) rfl rfl (by simp) ?_
 simp -dsimp
 refine aCall_of (cLexSmall x m n) ?_
 rintro d m' n' ⟨rfl, rfl, rfl⟩
 cases a : isSmall x
 ·simp -dsimp [Tt]
  refine aCall_of (cLexGreat x m' n') ?_
  rintro d m' n' ⟨rfl, rfl, rfl⟩
  cases b : isGreat x
  ·simp -dsimp [Tt]
   refine aCall_of (cLexDigit x m' n') ?_
   rintro d m' n' ⟨rfl, rfl, rfl⟩
   simp -dsimp [Tt, isWord, a, b]
  ·simp -dsimp [Tt, isWord, a, b]
 ·simp -dsimp [Tt, isWord, a]
end Go.Proofs.Mv.App
open Go Go.Proofs Go.Proofs.Mv.V Go.RowKit
set_option maxRecDepth 10000
namespace Go.Proofs.Mv.App
theorem cIndexByte [GI] (s : List UInt8) (x : UInt8) (m : Mem) (n : Nat) : ACalls Tryz.prog 173 [S s, U x] m n (fun d m' n' => d = I (Lib.indexByte s x) ∧ m' = m ∧ n' = n) := by
 refine acalls_lib ⟨_, Tryz.func173, by kernel_rfl, by kernel_rfl⟩ fun w ν F vals hst hv => ?_
 obtain ⟨a, b, rfl, h1, h2⟩ := conVs_arr2 hv
 simp only [Con, S] at h1 h2
 subst h1; subst h2
 refine Calls.mono (show Calls Tryz.prog 173 _ _ _ from Any.strings_IndexByte Tryz.lays137 (ofL s) x.toNat w) ?_
 rintro e w' ⟨rfl, rfl⟩
 refine ⟨_, rfl, Below.refl _ _, I (Lib.indexByte s x), ?_, rfl, rfl, rfl⟩
 have hx : (x.toNat : Int).toNat.toUInt8 = x := by simp
 simp only [Con, I, hx]; rfl
def okU : Lib.NumEnd Nat → Option Nat
 | .ok u => some u
 | _ => none
end Go.Proofs.Mv.App
