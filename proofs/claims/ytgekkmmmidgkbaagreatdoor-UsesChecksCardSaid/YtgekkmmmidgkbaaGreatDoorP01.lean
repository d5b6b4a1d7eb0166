/- A part of the proofs of the seat YtgekkmmmidgkbaaGreatDoor: the abstract machine, the contracts of the functions, the laws. No condition of its own. -/
import Derived.WalkKit
import Derived.LaidEql
import Derived.Stop.Asserts
import Derived.RowKitTokens
import Derived.Test.YtgekkmmmidgkbaaGreatDoorFact
import Derived.Test.YtgekkmmmidgkbaaGreatDoorMvD
import Derived.Lib.ItoaNum
import Derived.Shelf.Small.Strs
import Derived.Shelf.Pu.ParseUintPublic10
import Derived.Ground.MpProg
import Derived.Ground.NamesProg
import Derived.Ground.Names2Prog
import Derived.Test.YtgekkmmmidgkbaaGreatDoorProg
import Derived.Test.YtgekkmmmidgkbaaGreatDoorP00
set_option linter.unusedSimpArgs false
set_option linter.unusedVariables false
set_option linter.unusedSectionVars false
namespace Go.Proofs.Mv.V
open Go.RowKit Go.Extern.Stop Go.Stop Go.Extern Go

abbrev tyHandle (t : Nat) : Value := .pointer (some ⟨7, t, none⟩)
abbrev tyErr : Value := .iface 154 (.agg #[tyHandle 34])
theorem ia_valueOf2 (t : Addr) (w : World) : (ReflectliteValue.unpack (.iface 75 (.pointer (some t)))).run Tryz.prog w
    = .ok (.agg #[tyHandle 75, .pointer (some ⟨w.heap.size, 0, none⟩), .int .u64 150]) (w.alloc (.cells #[.pointer (some t)] 75)) := by kernel_rfl
theorem ia_type2 (a : Addr) (w : World) : (ReflectliteValue.methodAny (ReflectliteValue.valueError "reflectlite.Value.Type" 0) (fun t _ _ _ => ReflectliteType.toType t) #[.agg #[tyHandle 75, .pointer (some a), .int .u64 150]]).run Tryz.prog w
    = .ok (.iface 154 (.agg #[tyHandle 75])) w := by kernel_rfl
theorem ia_methodKind (h : Value) (w : World) : (Go.method 405 154 (.agg #[h]) "Kind").run Tryz.prog w = .ok (266, h) w := by kernel_rfl
theorem ia_kind2 (w : World) : ((ReflectliteType.abiMethod fun t => (fun a : Nat => Value.int IntKind.u8 (a : Int)) <$> Rtype.kind t) #[tyHandle 75]).run Tryz.prog w = .ok (.int .u8 22) w := by kernel_rfl
theorem ia_kind1 (w : World) : ((ReflectliteType.abiMethod fun t => (fun a : Nat => Value.int IntKind.u8 (a : Int)) <$> Rtype.kind t) #[tyHandle 60]).run Tryz.prog w = .ok (.int .u8 22) w := by kernel_rfl
theorem ia_rlm (z : Sem Value) (f : TypeId → Addr → Nat → Nat → Sem Value) (v : Value) :
    ReflectliteValue.method z f #[v] = (do match ← ReflectliteValue.parts v with | none => z | some (t, a, fl) => f t a fl (fl % 32)) := rfl
theorem ia_parts2 (a : Addr) (w : World) : (ReflectliteValue.parts (.agg #[tyHandle 75, .pointer (some a), .int .u64 150])).run Tryz.prog w = .ok (some (75, a, 150)) w := by kernel_rfl
theorem ia_isNil2 (a p : Addr) (W : World) (ha : W.cell? a = some (.pointer (some p))) :
    (ReflectliteValue.method (ReflectliteValue.valueError "reflectlite.Value.IsNil" 0) ReflectliteValue.isNil #[.agg #[tyHandle 75, .pointer (some a), .int .u64 150]]).run Tryz.prog W = .ok (.bool false) W := by
  rw [ia_rlm]
  simp only [Sem.run_bind, ia_parts2, Result.andThen]
  simp [ReflectliteValue.isNil, loadVar, isAgg, underlying, Tryz.underlying75, ha, Result.andThen]
theorem ia_methodElem (h : Value) (w : World) : (Go.method 405 154 (.agg #[h]) "Elem").run Tryz.prog w = .ok (278, .agg #[h]) w := by kernel_rfl
theorem ia_methodImplements (h : Value) (w : World) : (Go.method 405 154 (.agg #[h]) "Implements").run Tryz.prog w = .ok (279, .agg #[h]) w := by kernel_rfl
theorem ia_methodAssignableTo (h : Value) (w : World) : (Go.method 405 154 (.agg #[h]) "AssignableTo").run Tryz.prog w = .ok (276, .agg #[h]) w := by kernel_rfl
theorem ia_elem2 (w : World) : (ReflectliteType.method ReflectliteType.elem #[.agg #[tyHandle 75]]).run Tryz.prog w = .ok (.iface 154 (.agg #[tyHandle 60])) w := by kernel_rfl
theorem ia_implements1 (w : World) : (ReflectliteType.relation "Implements" ReflectliteType.implements_ #[.agg #[tyHandle 60], tyErr]).run Tryz.prog w = .ok (.bool true) w := by kernel_rfl
theorem ia_typeOf1 (v : Value) (w : World) : (ReflectliteType.typeOf #[.iface 60 v]).run Tryz.prog w = .ok (.iface 154 (.agg #[tyHandle 60])) w := by kernel_rfl
theorem ia_assignable1 (w : World) : (ReflectliteType.relation "AssignableTo" ReflectliteType.assignableTo #[.agg #[tyHandle 60], .iface 154 (.agg #[tyHandle 60])]).run Tryz.prog w = .ok (.bool true) w := by kernel_rfl
theorem ia_valueOf1 (e : Addr) (w : World) : (ReflectliteValue.unpack (.iface 60 (.pointer (some e)))).run Tryz.prog w
    = .ok (.agg #[tyHandle 60, .pointer (some ⟨w.heap.size, 0, none⟩), .int .u64 150]) (w.alloc (.cells #[.pointer (some e)] 60)) := by kernel_rfl
theorem ia_elemOf2 (w : World) : (Rtype.elem? 75).run Tryz.prog w = .ok (some 60) w := by kernel_rfl
theorem ia_mk1 (p : Addr) (w : World) : (ReflectliteValue.mk 60 p ReflectliteValue.flagAddr).run Tryz.prog w = .ok (.agg #[tyHandle 60, .pointer (some p), .int .u64 406]) w := by kernel_rfl
theorem ia_elemV2 (a p : Addr) (W : World) (ha : W.cell? a = some (.pointer (some p))) :
    (ReflectliteValue.method (ReflectliteValue.valueError "reflectlite.Value.Elem" 0) ReflectliteValue.elem #[.agg #[tyHandle 75, .pointer (some a), .int .u64 150]]).run Tryz.prog W
      = .ok (.agg #[tyHandle 60, .pointer (some p), .int .u64 406]) W := by
  rw [ia_rlm]
  simp only [Sem.run_bind, ia_parts2, Result.andThen]
  simp [ReflectliteValue.elem, loadVar, isAgg, underlying, Tryz.underlying75, ha, Result.andThen, ia_elemOf2, ia_mk1]
theorem ia_rls (v x : Value) : ReflectliteValue.set #[v, x] = (do
    let (some (dst, a, fl), some (src, b, _)) := (← ReflectliteValue.parts v, ← ReflectliteValue.parts x)
      | unsupported (.noEntry "extern/(internal/reflectlite.Value).Set.zeroValue")
    if fl / ReflectliteValue.flagAddr % 2 == 0 then unsupported (.noEntry "extern/(internal/reflectlite.Value).Set.unaddressable")
    let val ← loadVar src b
    if ← Rtype.directlyAssignable dst src then storeVar dst a val
    else if ← Rtype.implements dst src then
      if (← Rtype.kind src) == 20 then
        match val with
        | .nilIface => unsupported (.noEntry "extern/reflectlite: a nil value of one interface type handed on as a value of another")
        | _ => storeVar dst a val
      else storeVar dst a (.iface src val)
    else panicString ("reflectlite.Set: value of type " ++ (← Rtype.spelt src) ++ " is not assignable to type " ++ (← Rtype.spelt dst))
    pure (.tuple #[])) := rfl
theorem ia_parts1a (a : Addr) (w : World) : (ReflectliteValue.parts (.agg #[tyHandle 60, .pointer (some a), .int .u64 406])).run Tryz.prog w = .ok (some (60, a, 406)) w := by kernel_rfl
theorem ia_parts1 (a : Addr) (w : World) : (ReflectliteValue.parts (.agg #[tyHandle 60, .pointer (some a), .int .u64 150])).run Tryz.prog w = .ok (some (60, a, 150)) w := by kernel_rfl
theorem ia_direct1 (w : World) : (Rtype.directlyAssignable 60 60).run Tryz.prog w = .ok true w := by kernel_rfl
theorem ia_set1 (ta b e : Addr) (old : Value) (W : World) (hb : W.cell? b = some (.pointer (some e))) (ht : W.cell? ta = some old) (hf : W.frozen? ta = false) :
    (ReflectliteValue.set #[.agg #[tyHandle 60, .pointer (some ta), .int .u64 406], .agg #[tyHandle 60, .pointer (some b), .int .u64 150]]).run Tryz.prog W
      = .ok (.tuple #[]) (W.setCell ta (.pointer (some e))) := by
  rw [ia_rls]
  simp only [Sem.run_bind, ia_parts1a, ia_parts1, Result.andThen]
  simp [ReflectliteValue.flagAddr, loadVar, isAgg, underlying, Tryz.underlying60, hb, Result.andThen, ia_direct1, storeVar, Value.cells, storeCells, Addr.add]
  rw [run_store Tryz.prog W ta _ _ (by rfl)]
  simp [ht, hf]

set_option maxHeartbeats 4000000 in
theorem as_hit (e t : Addr) (old : Value) (w : World) (hg : w.cell? ⟨0, 0, none⟩ = some tyErr) (ht0 : w.cell? t = some old) (hf0 : w.frozen? t = false) :
    Calls Tryz.prog 26 #[.iface 60 (.pointer (some e)), .iface 75 (.pointer (some t))] w fun ev w' => ev = .returned (.bool true) ∧ w' = ((((w.alloc (.cells #[.pointer (some t)] 75)).alloc (.cells #[tyHandle 75, .pointer (some ⟨w.heap.size, 0, none⟩), .int .u64 150] 110)).alloc (.cells #[tyHandle 75, .pointer (some ⟨w.heap.size, 0, none⟩), .int .u64 150] 110)).alloc (.cells #[.pointer (some e)] 60)).setCell t (.pointer (some e)) := by
  have h6 := @run_callFunc_extern Tryz.prog 62 _ (fun args => ReflectliteValue.unpack (args.getD 0 (.tuple #[]))) Tryz.func62 (by kernel_rfl) (by kernel_rfl) (by kernel_rfl) (by kernel_rfl)
  have h7 := @run_callFunc_extern Tryz.prog 63 _ (ReflectliteValue.methodAny (ReflectliteValue.valueError "reflectlite.Value.Type" 0) (fun t _ _ _ => ReflectliteType.toType t)) Tryz.func63 (by kernel_rfl) (by kernel_rfl) (by kernel_rfl) (by kernel_rfl)
  have h8 := @run_callFunc_extern Tryz.prog 64 _ (ReflectliteValue.method (ReflectliteValue.valueError "reflectlite.Value.IsNil" 0) ReflectliteValue.isNil) Tryz.func64 (by kernel_rfl) (by kernel_rfl) (by kernel_rfl) (by kernel_rfl)
  have h27 := @run_callFunc_extern Tryz.prog 266 _ (ReflectliteType.abiMethod fun t => do pure (.int .u8 (← Rtype.kind t))) Tryz.func266 (by kernel_rfl) (by kernel_rfl) (by kernel_rfl) (by kernel_rfl)
  have h37 := @run_callFunc_extern Tryz.prog 278 _ (ReflectliteType.method ReflectliteType.elem) Tryz.func278 (by kernel_rfl) (by kernel_rfl) (by kernel_rfl) (by kernel_rfl)
  have h38 := @run_callFunc_extern Tryz.prog 279 _ (ReflectliteType.relation "Implements" ReflectliteType.implements_) Tryz.func279 (by kernel_rfl) (by kernel_rfl) (by kernel_rfl) (by kernel_rfl)
  have h10 := @run_callFunc_extern Tryz.prog 66 _ ReflectliteType.typeOf Tryz.func66 (by kernel_rfl) (by kernel_rfl) (by kernel_rfl) (by kernel_rfl)
  have h35 := @run_callFunc_extern Tryz.prog 276 _ (ReflectliteType.relation "AssignableTo" ReflectliteType.assignableTo) Tryz.func276 (by kernel_rfl) (by kernel_rfl) (by kernel_rfl) (by kernel_rfl)
  have h11 := @run_callFunc_extern Tryz.prog 109 _ (ReflectliteValue.method (ReflectliteValue.valueError "reflectlite.Value.Elem" 0) ReflectliteValue.elem) Tryz.func109 (by kernel_rfl) (by kernel_rfl) (by kernel_rfl) (by kernel_rfl)
  have h12 := @run_callFunc_extern Tryz.prog 110 _ ReflectliteValue.set Tryz.func110 (by kernel_rfl) (by kernel_rfl) (by kernel_rfl) (by kernel_rfl)
  have tO := ia_typeOf1
  have mA := ia_methodAssignableTo
  have a25 := ia_assignable1
  have v25 := ia_valueOf1
  have f6 := ia_valueOf2
  have f7 := ia_type2
  have mK := ia_methodKind
  have mE := ia_methodElem
  have mI := ia_methodImplements
  have k27 := ia_kind2
  have k25 := ia_kind1
  have e27 := ia_elem2
  have i25 := ia_implements1
  have n8 := ia_isNil2 ⟨w.heap.size, 0, none⟩ t ((w.alloc (.cells #[.pointer (some t)] 75)).alloc (.cells #[tyHandle 75, .pointer (some ⟨w.heap.size, 0, none⟩), .int .u64 150] 110)) (by simp)
  have hlt : 0 < w.heap.size := by
    rcases Nat.lt_or_ge 0 w.heap.size with h | h
    · exact h
    · simp [World.cell?, Array.getElem?_eq_none h] at hg
  have hg2 : ((w.alloc (.cells #[.pointer (some t)] 75)).alloc (.cells #[tyHandle 75, .pointer (some ⟨w.heap.size, 0, none⟩), .int .u64 150] 110)).cell? ⟨0, 0, none⟩ = some tyErr := by
    rw [World.cell?_alloc_lt _ _ ⟨0, 0, none⟩ (by simp <;> omega), World.cell?_alloc_lt _ _ ⟨0, 0, none⟩ hlt]; exact hg
  have htl : t.block < w.heap.size := by
    rcases Nat.lt_or_ge t.block w.heap.size with h | h
    · exact h
    · simp [World.cell?, Array.getElem?_eq_none h] at ht0
  have el := ia_elemV2 ⟨w.heap.size, 0, none⟩ t (((w.alloc (.cells #[.pointer (some t)] 75)).alloc (.cells #[tyHandle 75, .pointer (some ⟨w.heap.size, 0, none⟩), .int .u64 150] 110)).alloc (.cells #[tyHandle 75, .pointer (some ⟨w.heap.size, 0, none⟩), .int .u64 150] 110)) (by rw [World.cell?_alloc_lt _ _ ⟨w.heap.size, 0, none⟩ (by simp; omega)]; simp)
  have st := ia_set1 t ⟨w.heap.size + 1 + 1 + 1, 0, none⟩ e old ((((w.alloc (.cells #[.pointer (some t)] 75)).alloc (.cells #[tyHandle 75, .pointer (some ⟨w.heap.size, 0, none⟩), .int .u64 150] 110)).alloc (.cells #[tyHandle 75, .pointer (some ⟨w.heap.size, 0, none⟩), .int .u64 150] 110)).alloc (.cells #[.pointer (some e)] 60))
    (by rw [World.cell?_alloc_at _ _ _ _ (by simp)]; rfl)
    (by rw [World.cell?_alloc_lt _ _ t (by simp; omega), World.cell?_alloc_lt _ _ t (by simp; omega), World.cell?_alloc_lt _ _ t (by simp; omega), World.cell?_alloc_lt _ _ t htl]; exact ht0)
    (by rw [World.frozen?_alloc_old _ _ t (by simp; omega), World.frozen?_alloc_old _ _ t (by simp; omega), World.frozen?_alloc_old _ _ t (by simp; omega), World.frozen?_alloc_old _ _ t (Nat.ne_of_lt htl)]; exact hf0)
  go_enter Tryz.func26, Tryz.ntmps26
  go_wp2
  refine wp_loop_rounds 1 ?_
  rw [rounds_succ]
  go_wp2
  go_ret
  exact ⟨rfl, rfl⟩
end Go.Proofs.Mv.V
namespace Go.Proofs.Mv.V
open Go.RowKit Go.Extern.Stop Go.Stop Go.Extern Go
theorem ii_typeOf (v : Value) (w : World) : (Extern.ReflectliteType.typeOf #[.iface 50 v]).run Tryz.prog w = .ok (.iface 154 (.agg #[tyHandle 50])) w := by kernel_rfl
def compEntry : Array Value → Sem Value := Extern.ReflectliteType.method fun t => do Extern.Rtype.noPackHeld "Comparable" t; pure (.bool (← typeInfo t).comparable)
theorem ii_comparable (w : World) : (compEntry #[.agg #[tyHandle 50]]).run Tryz.prog w = .ok (.bool true) w := by kernel_rfl
theorem ii_methodComparable (v : Value) (w : World) : (Go.method 405 154 v "Comparable").run Tryz.prog w = .ok (277, v) w := by kernel_rfl
theorem ii_noIsC (v : Value) (xT : TypeId) (w : World) : (Instr.typeAssert (.iface 50 v) xT 166 true).run Tryz.prog w = .ok (.tuple #[.nilIface, .bool false]) w := run_typeAssert_lacksB Tryz.underlying166 (by kernel_rfl) (by kernel_rfl) v xT w
theorem ii_noIsS (v : Value) (xT : TypeId) (w : World) : (Instr.typeAssert (.iface 60 v) xT 166 true).run Tryz.prog w = .ok (.tuple #[.nilIface, .bool false]) w := run_typeAssert_lacksB Tryz.underlying166 (by kernel_rfl) (by kernel_rfl) v xT w
theorem ii_hasUnwrapS (v : Value) (xT : TypeId) (w : World) : (Instr.typeAssert (.iface 60 v) xT 161 true).run Tryz.prog w = .ok (.tuple #[.iface 60 v, .bool true]) w := run_typeAssert_hasB Tryz.underlying161 (by kernel_rfl) v xT w
theorem ii_methodUnwrap (v : Value) (w : World) : (Go.method 405 60 v "Unwrap").run Tryz.prog w = .ok (271, v) w := by kernel_rfl
theorem ii_comp : (Tryz.prog.info? 50).map (·.comparable) = some true := by kernel_rfl
theorem ii_eq (c : Int) (w : World) : (Go.binOp .eql 34 (.iface 50 (.int .i64 c)) (.iface 50 (.int .i64 c))).run Tryz.prog w = .ok (.bool true) w := by
  obtain ⟨i, hi, hcmp⟩ := Option.map_eq_some_iff.1 ii_comp
  simp only [Go.binOp]
  have h : ∀ d : Nat, (Op.equalIn (d + 2) 34 (.iface 50 (.int .i64 c)) (.iface 50 (.int .i64 c))).run Tryz.prog w = .ok true w := fun d => by
    simp [Op.equalIn, run_underlying Tryz.underlying34, run_underlying Tryz.underlying50, typeInfo, hi, hcmp]
  simp [Op.equal, Op.maxDepth, h 9998]
set_option maxHeartbeats 4000000 in
theorem is_spot (pb po : Nat) (c : Int) (w : World) (h1 : w.cell? ⟨pb, po + 1, none⟩ = some (.iface 50 (.int .i64 c))) :
    Calls Tryz.prog 27 #[.iface 60 (.pointer (some ⟨pb, po, none⟩)), .iface 50 (.int .i64 c)] w fun e w' => e = .returned (.bool true) ∧ w' = w := by
  have h8 := @run_callFunc_extern Tryz.prog 66 _ Extern.ReflectliteType.typeOf Tryz.func66 (by kernel_rfl) (by kernel_rfl) (by kernel_rfl) (by kernel_rfl)
  have h32 := @run_callFunc_extern Tryz.prog 277 _ compEntry Tryz.func277 (by kernel_rfl) (by kernel_rfl) (by kernel_rfl) (by kernel_rfl)
  have tT := ii_typeOf
  have cT := ii_comparable
  have mR := ii_methodComparable
  have nE := ii_noIsC
  have nW := ii_noIsS
  have uW := ii_hasUnwrapS
  have mU := ii_methodUnwrap
  have hty := run_eql_iface_types (P := Tryz.prog) 60 50 (.pointer (some ⟨pb, po, none⟩)) (.int .i64 c) Tryz.underlying34 (by decide) w
  have heq := ii_eq c w
  go_enter Tryz.func27, Tryz.ntmps27
  go_wp2
  refine wp_loop_rounds 2 ?_
  rw [rounds_succ]
  go_wp2
  rw [rounds_succ]
  go_wp2
  go_ret
  exact ⟨rfl, rfl⟩
end Go.Proofs.Mv.V
namespace Go.Proofs.Mv.V
open Go.RowKit Go.Extern.Stop Go.Stop Go.Extern Go
theorem as_hit' (e : Addr) (tb : Nat) (old : Value) (w : World) (hg : w.cell? ⟨0, 0, none⟩ = some tyErr) (ht0 : w.cell? ⟨tb, 0, none⟩ = some old) (hf0 : w.frozen? ⟨tb, 0, none⟩ = false) :
    Calls Tryz.prog 26 #[.iface 60 (.pointer (some e)), .iface 75 (.pointer (some ⟨tb, 0, none⟩))] w fun ev w' => ev = .returned (.bool true) ∧ w'.cell? ⟨tb, 0, none⟩ = some (.pointer (some e)) ∧ Below tb w w' := by
  refine (as_hit e ⟨tb, 0, none⟩ old w hg ht0 hf0).mono ?_
  rintro ev w' ⟨rfl, rfl⟩
  have htl : tb < w.heap.size := by
    rcases Nat.lt_or_ge tb w.heap.size with h | h
    · exact h
    · simp [World.cell?, Array.getElem?_eq_none h] at ht0
  refine ⟨rfl, ?_, ?_⟩
  · refine World.cell?_setCell_same' _ _ _ ?_
    rw [World.cell?_alloc_lt _ _ ⟨tb, 0, none⟩ (by simp; omega), World.cell?_alloc_lt _ _ ⟨tb, 0, none⟩ (by simp; omega), World.cell?_alloc_lt _ _ ⟨tb, 0, none⟩ (by simp; omega), World.cell?_alloc_lt _ _ ⟨tb, 0, none⟩ htl, ht0]; rfl
  · refine Below.setCell (p := ⟨tb, 0, none⟩) ?_ (Nat.le_refl tb) _
    exact Below.alloc (Below.alloc (Below.alloc (Below.alloc (Below.refl _ _) (by omega) _) (by simp <;> omega) _) (by simp <;> omega) _) (by simp <;> omega) _
theorem is_cmp : (Tryz.prog.info? 60).map (·.comparable) = some true := by kernel_rfl
theorem is_info : (Tryz.prog.info? 62).isSome = true := by kernel_rfl
theorem ptr_neq (a : Addr) (w : World) : (Go.binOp .neq 34 (.iface 60 (.pointer (some a))) (.iface 60 (.pointer (some a)))).run Tryz.prog w = .ok (.bool false) w := by
  obtain ⟨i, hi, hcmp⟩ := Option.map_eq_some_iff.1 is_cmp
  obtain ⟨j, hj⟩ := Option.isSome_iff_exists.1 is_info
  simp only [Go.binOp]
  simp [Op.equal, Op.maxDepth, run_equalIn_iface_ptr_same w 9998 a Tryz.underlying34 Tryz.underlying60 hi hcmp hj]
set_option maxHeartbeats 4000000 in
theorem is_calls (pb po : Nat) (at_ c : Int) (w : World) (hg : w.cell? ⟨0, 0, none⟩ = some tyErr) (h0 : w.cell? ⟨pb, po, none⟩ = some (.int .i64 at_)) (h1 : w.cell? ⟨pb, po + 1, none⟩ = some (.iface 50 (.int .i64 c))) :
    Calls Tryz.prog 12 #[.iface 60 (.pointer (some ⟨pb, po, none⟩)), .int .i64 at_, .int .i64 c] w fun e w' => e = .returned (.bool true) ∧ Below w.heap.size w w' := by
  have hlt : pb < w.heap.size := by
    rcases Nat.lt_or_ge pb w.heap.size with h | h
    · exact h
    · simp [World.cell?, Array.getElem?_eq_none h] at h0
  have hlg : 0 < w.heap.size := by
    rcases Nat.lt_or_ge 0 w.heap.size with h | h
    · exact h
    · simp [World.cell?, Array.getElem?_eq_none h] at hg
  have heq := ii_eq c
  have hpn := ptr_neq ⟨pb, po, none⟩
  have hgA : (w.alloc (.cells #[.pointer none] 60)).cell? ⟨0, 0, none⟩ = some tyErr := by
    rw [World.cell?_alloc_lt _ _ ⟨0, 0, none⟩ hlg]; exact hg
  have htA : (w.alloc (.cells #[.pointer none] 60)).cell? ⟨w.heap.size, 0, none⟩ = some (.pointer none) := by simp
  have hfA : (w.alloc (.cells #[.pointer none] 60)).frozen? ⟨w.heap.size, 0, none⟩ = false := by simp
  go_enter Tryz.func12, Tryz.ntmps12
  go_wp2_with (go_at_call 26; refine (as_hit' ⟨pb, po, none⟩ w.heap.size (.pointer none) _ hgA htA hfA).mono ?_)
  rintro e W1 ⟨rfl, hc, hb⟩
  have hb1 : Below w.heap.size w W1 := (Below.alloc (Below.refl _ _) (Nat.le_refl _) _).trans hb
  have c0 : W1.cell? ⟨pb, po, none⟩ = some (.int .i64 at_) := (hb1.cell (show (⟨pb, po, none⟩ : Addr).block < w.heap.size from hlt)).trans h0
  have c1 : W1.cell? ⟨pb, po + 1, none⟩ = some (.iface 50 (.int .i64 c)) := (hb1.cell (show (⟨pb, po + 1, none⟩ : Addr).block < w.heap.size from hlt)).trans h1
  clear hb hgA htA hfA h0 h1 hg
  go_wp2_with (go_at_call 27; refine (is_spot pb po c _ c1).mono ?_)
  rintro e W2 ⟨rfl, rfl⟩
  go_wp2
  go_ret
  exact ⟨rfl, hb1⟩
/-- What the laid variables hold. -/
structure Laid (w : World) (F : Nat → Prop) : Prop where
  f0 : F 0
  f1 : F 1
  f2 : F 2
  f3 : F 4
  c0 : w.cell? ⟨0, 0, none⟩ = some tyErr
  c1 : ∃ te pe, w.cell? ⟨1, 0, none⟩ = some (.iface te pe)
  c2 : ∃ te pe, w.cell? ⟨2, 0, none⟩ = some (.iface te pe)
  c3 : w.var? Tryz.prog "internal/strconv.uint64pow10" = some (Lib.pow10Tab.map fun z => Value.int .u64 z).toArray
theorem pow10_g : Tryz.prog.globalNamed "internal/strconv.uint64pow10" = some 4 := by kernel_rfl
instance laidGI : GI where
  inv := Laid
  keep := by
    intro w w' F F' h k
    have e : ∀ b, F b → w'.cell? ⟨b, 0, none⟩ = w.cell? ⟨b, 0, none⟩ := fun b hb => by simp only [World.cell?, (k b hb).2]
    have e3 : w'.var? Tryz.prog "internal/strconv.uint64pow10" = w.var? Tryz.prog "internal/strconv.uint64pow10" := by simp only [World.var?, pow10_g, Option.bind_some, (k _ h.f3).2]
    exact ⟨(k _ h.f0).1, (k _ h.f1).1, (k _ h.f2).1, (k _ h.f3).1, by rw [e _ h.f0]; exact h.c0, by rw [e _ h.f1]; exact h.c1, by rw [e _ h.f2]; exact h.c2, by rw [e3]; exact h.c3⟩
/-- An error as it is handed on: a Spot that tells of a Code. -/
abbrev spotD (t : Option (Nat × Nat)) (at_ c : Int) : D := .iface 60 (.rptr t [.v (.int .i64 at_), .iface 50 (.v (.int .i64 c))])
theorem a_is (t : Option (Nat × Nat)) (at_ c : Int) (m : Mem) (n : Nat) : ACalls Tryz.prog 12 [spotD t at_ c, .v (.int .i64 at_), .v (.int .i64 c)] m n (fun d m' n' => d = .v (.bool true) ∧ m' = m ∧ n' = n) := by
  refine acalls_lib ⟨_, Tryz.func12, by kernel_rfl, by kernel_rfl⟩ fun w ν F vals hst hv => ?_
  obtain ⟨x, y, z, rfl, h1, h2, h3⟩ := conVs_arr3 hv
  simp only [Con, ConCs] at h1 h2 h3
  subst h2; subst h3
  obtain ⟨y', rfl, b, o, rfl, hF, _, ⟨y1, hc1, _, rfl⟩, ⟨y2, hc2, _, y3, rfl, rfl⟩, _⟩ := h1
  refine (is_calls b o at_ c w hst.gi.c0 hc1 hc2).mono ?_
  rintro e w' ⟨rfl, hb⟩
  exact ⟨_, rfl, hb, .v (.bool true), by simp [Con], rfl, rfl, rfl⟩
end Go.Proofs.Mv.V
namespace Go.Proofs
open Go.Shelf
def Tryz.lays137_ren : Go.Shelf.Ren := ⟨fun | 137 => 98 | 217 => 138 | 266 => 175 | n => n, fun | 9 => 9 | 5 => 5 | 3 => 3 | n => n, fun | n => n⟩
theorem Tryz.lays137 : Go.Proofs.Lays.n137 Tryz.prog Tryz.lays137_ren := {
  mixed := by kernel_rfl
  f137 := Tryz.func98.trans (congrArg some (by kernel_rfl))
  f217 := Tryz.func138.trans (congrArg some (by kernel_rfl))
  f266 := Tryz.func175.trans (congrArg some (by kernel_rfl))
  t3 := Tryz.underlying3
  a3 := Tryz.isAgg3
  z3 := Tryz.sizeOf3
  v3 := Tryz.zeroValue3
  t5 := Tryz.underlying5
  a5 := Tryz.isAgg5
  z5 := Tryz.sizeOf5
  v5 := Tryz.zeroValue5
  t9 := Tryz.underlying9
  a9 := Tryz.isAgg9
  z9 := Tryz.sizeOf9
  v9 := Tryz.zeroValue9 }
def Tryz.laysPu14_ren : Go.Shelf.Ren := ⟨fun | 14 => 104 | 16 => 146 | 17 => 103 | 19 => 180 | 20 => 181 | 21 => 142 | 22 => 143 | 23 => 144 | 24 => 145 | 25 => 177 | 27 => 179 | 26 => 178 | 28 => 204 | 29 => 223 | 30 => 237 | 31 => 238 | 32 => 239 | 33 => 240 | 35 => 221 | 34 => 245 | 36 => 246 | 37 => 247 | 38 => 248 | 39 => 250 | 40 => 251 | n => n, fun | 9 => 9 | 3 => 3 | 22 => 146 | 24 => 34 | 25 => 147 | 4 => 4 | 34 => 189 | 5 => 5 | 36 => 211 | 37 => 190 | 0 => 0 | 39 => 193 | 21 => 21 | 44 => 214 | 47 => 233 | 50 => 236 | 48 => 234 | 2 => 2 | 52 => 262 | 55 => 264 | 59 => 272 | 60 => 248 | 20 => 20 | 61 => 273 | 65 => 276 | 66 => 277 | 67 => 278 | n => n, fun | 0 => 1 | 1 => 2 | 2 => 4 | 3 => 5 | 4 => 6 | n => n⟩
theorem Tryz.laysPu14 : Go.Proofs.LaysPu.n14 Tryz.prog Tryz.laysPu14_ren := {
  mixed := by kernel_rfl
  f14 := Tryz.func104.trans (congrArg some (by kernel_rfl))
  f16 := Tryz.func146.trans (congrArg some (by kernel_rfl))
  f17 := Tryz.func103.trans (congrArg some (by kernel_rfl))
  f19 := Tryz.func180.trans (congrArg some (by kernel_rfl))
  f20 := Tryz.func181.trans (congrArg some (by kernel_rfl))
  f21 := Tryz.func142.trans (congrArg some (by kernel_rfl))
  f22 := Tryz.func143.trans (congrArg some (by kernel_rfl))
  f23 := Tryz.func144.trans (congrArg some (by kernel_rfl))
  f24 := Tryz.func145.trans (congrArg some (by kernel_rfl))
  f25 := Tryz.func177.trans (congrArg some (by kernel_rfl))
  f26 := Tryz.func178.trans (congrArg some (by kernel_rfl))
  f27 := Tryz.func179.trans (congrArg some (by kernel_rfl))
  f28 := Tryz.func204.trans (congrArg some (by kernel_rfl))
  f29 := Tryz.func223.trans (congrArg some (by kernel_rfl))
  f30 := Tryz.func237.trans (congrArg some (by kernel_rfl))
  f31 := Tryz.func238.trans (congrArg some (by kernel_rfl))
  f32 := Tryz.func239.trans (congrArg some (by kernel_rfl))
  f33 := Tryz.func240.trans (congrArg some (by kernel_rfl))
  f34 := Tryz.func245.trans (congrArg some (by kernel_rfl))
  f35 := Tryz.func221.trans (congrArg some (by kernel_rfl))
  f36 := Tryz.func246.trans (congrArg some (by kernel_rfl))
  f37 := Tryz.func247.trans (congrArg some (by kernel_rfl))
  f38 := Tryz.func248.trans (congrArg some (by kernel_rfl))
  f39 := Tryz.func250.trans (congrArg some (by kernel_rfl))
  f40 := Tryz.func251.trans (congrArg some (by kernel_rfl))
  t0 := Tryz.underlying0
  a0 := Tryz.isAgg0
  z0 := Tryz.sizeOf0
  v0 := Tryz.zeroValue0
  i0 := by kernel_rfl
  t2 := Tryz.underlying2
  a2 := Tryz.isAgg2
  z2 := Tryz.sizeOf2
  v2 := Tryz.zeroValue2
  i2 := by kernel_rfl
  t3 := Tryz.underlying3
  a3 := Tryz.isAgg3
  z3 := Tryz.sizeOf3
  v3 := Tryz.zeroValue3
  i3 := by kernel_rfl
  t4 := Tryz.underlying4
  a4 := Tryz.isAgg4
  z4 := Tryz.sizeOf4
  v4 := Tryz.zeroValue4
  i4 := by kernel_rfl
  t5 := Tryz.underlying5
  a5 := Tryz.isAgg5
  z5 := Tryz.sizeOf5
  v5 := Tryz.zeroValue5
  i5 := by kernel_rfl
  t9 := Tryz.underlying9
  a9 := Tryz.isAgg9
  z9 := Tryz.sizeOf9
  v9 := Tryz.zeroValue9
  i9 := by kernel_rfl
  t20 := Tryz.underlying20
  a20 := Tryz.isAgg20
  z20 := Tryz.sizeOf20
  v20 := Tryz.zeroValue20
  i20 := by kernel_rfl
  t21 := Tryz.underlying21
  a21 := Tryz.isAgg21
  z21 := Tryz.sizeOf21
  v21 := Tryz.zeroValue21
  i21 := by kernel_rfl
  t22 := Tryz.underlying146
  a22 := Tryz.isAgg146
  z22 := Tryz.sizeOf146
  v22 := Tryz.zeroValue146
  i22 := by kernel_rfl
  t24 := Tryz.underlying34
  a24 := Tryz.isAgg34
  z24 := Tryz.sizeOf34
  v24 := Tryz.zeroValue34
  i24 := by kernel_rfl
  t25 := Tryz.underlying147
  a25 := Tryz.isAgg147
  z25 := Tryz.sizeOf147
  v25 := Tryz.zeroValue147
  i25 := by kernel_rfl
  t34 := Tryz.underlying189
  a34 := Tryz.isAgg189
  z34 := Tryz.sizeOf189
  v34 := Tryz.zeroValue189
  i34 := by kernel_rfl
  c34 := by kernel_rfl
  t36 := Tryz.underlying211
  a36 := Tryz.isAgg211
  z36 := Tryz.sizeOf211
  v36 := Tryz.zeroValue211
  i36 := by kernel_rfl
  t37 := Tryz.underlying190
  a37 := Tryz.isAgg190
  z37 := Tryz.sizeOf190
  v37 := Tryz.zeroValue190
  i37 := by kernel_rfl
  t39 := Tryz.underlying193
  a39 := Tryz.isAgg193
  z39 := Tryz.sizeOf193
  v39 := Tryz.zeroValue193
  i39 := by kernel_rfl
  t44 := Tryz.underlying214
  a44 := Tryz.isAgg214
  z44 := Tryz.sizeOf214
  v44 := Tryz.zeroValue214
  i44 := by kernel_rfl
  t47 := Tryz.underlying233
  a47 := Tryz.isAgg233
  z47 := Tryz.sizeOf233
  v47 := Tryz.zeroValue233
  i47 := by kernel_rfl
  t48 := Tryz.underlying234
  a48 := Tryz.isAgg234
  z48 := Tryz.sizeOf234
  v48 := Tryz.zeroValue234
  i48 := by kernel_rfl
  t50 := Tryz.underlying236
  a50 := Tryz.isAgg236
  z50 := Tryz.sizeOf236
  v50 := Tryz.zeroValue236
  i50 := by kernel_rfl
  t52 := Tryz.underlying262
  a52 := Tryz.isAgg262
  z52 := Tryz.sizeOf262
  v52 := Tryz.zeroValue262
  i52 := by kernel_rfl
  t55 := Tryz.underlying264
  a55 := Tryz.isAgg264
  z55 := Tryz.sizeOf264
  v55 := Tryz.zeroValue264
  i55 := by kernel_rfl
  t59 := Tryz.underlying272
  a59 := Tryz.isAgg272
  z59 := Tryz.sizeOf272
  v59 := Tryz.zeroValue272
  i59 := by kernel_rfl
  t60 := Tryz.underlying248
  a60 := Tryz.isAgg248
  z60 := Tryz.sizeOf248
  v60 := Tryz.zeroValue248
  i60 := by kernel_rfl
  t61 := Tryz.underlying273
  a61 := Tryz.isAgg273
  z61 := Tryz.sizeOf273
  t65 := Tryz.underlying276
  a65 := Tryz.isAgg276
  z65 := Tryz.sizeOf276
  v65 := Tryz.zeroValue276
  i65 := by kernel_rfl
  t66 := Tryz.underlying277
  a66 := Tryz.isAgg277
  z66 := Tryz.sizeOf277
  v66 := Tryz.zeroValue277
  i66 := by kernel_rfl
  t67 := Tryz.underlying278
  a67 := Tryz.isAgg278
  z67 := Tryz.sizeOf278
  v67 := Tryz.zeroValue278
  i67 := by kernel_rfl
  g0 := by kernel_rfl
  m0 := by kernel_rfl
  g1 := by kernel_rfl
  m1 := by kernel_rfl
  g2 := by kernel_rfl
  m2 := by kernel_rfl
  g3 := by kernel_rfl
  m3 := by kernel_rfl
  g4 := by kernel_rfl
  m4 := by kernel_rfl }
end Go.Proofs
open Go Go.Proofs Go.Proofs.Mv.V
set_option maxRecDepth 10000
namespace Go.Proofs.Mv.App
variable [GI]
abbrev U (x : UInt8) : D := .v (.int .u8 (x.toNat : Int))
def isSmall (x : UInt8) : Bool := decide (97 ≤ x.toNat) && decide (x.toNat ≤ 122)
def isGreat (x : UInt8) : Bool := decide (65 ≤ x.toNat) && decide (x.toNat ≤ 90)
def isDigit (x : UInt8) : Bool := decide (48 ≤ x.toNat) && decide (x.toNat ≤ 57)
def isBlank (x : UInt8) : Bool := decide (x.toNat = 32) || decide (x.toNat = 9) || decide (x.toNat = 10)
def isWord (x : UInt8) : Bool := isSmall x || isGreat x || isDigit x
theorem cLexSmall (x : UInt8) (m : Mem) (n : Nat) : ACalls Tryz.prog 93 [U x] m n (fun d m' n' => d = Tt (isSmall x) ∧ m' = m ∧ n' = n) := by
  refine acalls_vc [0, 2] Tryz.func93 Tryz.ntmps93 (by kernel_rfl) rfl rfl (by simp) ?_
  by_cases a : 97 ≤ (x.toNat : Int)
  · have a' : 97 ≤ x.toNat := by omega
    simp -dsimp [a, Tt, isSmall, a']; omega
  · have a' : ¬ 97 ≤ x.toNat := by omega
    simp -dsimp [a, Tt, isSmall, a']
theorem cLexGreat (x : UInt8) (m : Mem) (n : Nat) : ACalls Tryz.prog 95 [U x] m n (fun d m' n' => d = Tt (isGreat x) ∧ m' = m ∧ n' = n) := by
  refine acalls_vc [0, 2] Tryz.func95 Tryz.ntmps95 (by kernel_rfl) rfl rfl (by simp) ?_
  by_cases a : 65 ≤ (x.toNat : Int)
  · have a' : 65 ≤ x.toNat := by omega
    simp -dsimp [a, Tt, isGreat, a']; omega
  · have a' : ¬ 65 ≤ x.toNat := by omega
    simp -dsimp [a, Tt, isGreat, a']
theorem cLexDigit (x : UInt8) (m : Mem) (n : Nat) : ACalls Tryz.prog 96 [U x] m n (fun d m' n' => d = Tt (isDigit x) ∧ m' = m ∧ n' = n) := by
  refine acalls_vc [0, 2] Tryz.func96 Tryz.ntmps96 (by kernel_rfl) rfl rfl (by simp) ?_
  by_cases a : 48 ≤ (x.toNat : Int)
  · have a' : 48 ≤ x.toNat := by omega
    simp -dsimp [a, Tt, isDigit, a']; omega
  · have a' : ¬ 48 ≤ x.toNat := by omega
    simp -dsimp [a, Tt, isDigit, a']
theorem cIdentSmall (x : UInt8) (m : Mem) (n : Nat) : ACalls Tryz.prog 100 [U x] m n (fun d m' n' => d = Tt (isSmall x) ∧ m' = m ∧ n' = n) := by
  refine acalls_vc [0, 2] Tryz.func100 Tryz.ntmps100 (by kernel_rfl) rfl rfl (by simp) ?_
  by_cases a : 97 ≤ (x.toNat : Int)
  · have a' : 97 ≤ x.toNat := by omega
    simp -dsimp [a, Tt, isSmall, a']; omega
  · have a' : ¬ 97 ≤ x.toNat := by omega
    simp -dsimp [a, Tt, isSmall, a']
theorem cIdentGreat (x : UInt8) (m : Mem) (n : Nat) : ACalls Tryz.prog 106 [U x] m n (fun d m' n' => d = Tt (isGreat x) ∧ m' = m ∧ n' = n) := by
  refine acalls_vc [0, 2] Tryz.func106 Tryz.ntmps106 (by kernel_rfl) rfl rfl (by simp) ?_
  by_cases a : 65 ≤ (x.toNat : Int)
  · have a' : 65 ≤ x.toNat := by omega
    simp -dsimp [a, Tt, isGreat, a']; omega
  · have a' : ¬ 65 ≤ x.toNat := by omega
    simp -dsimp [a, Tt, isGreat, a']
theorem cLexBlank (x : UInt8) (m : Mem) (n : Nat) : ACalls Tryz.prog 50 [U x] m n (fun d m' n' => d = Tt (isBlank x) ∧ m' = m ∧ n' = n) := by
  refine acalls_vc [0, 2] Tryz.func50 Tryz.ntmps50 (by kernel_rfl) rfl rfl (by simp) ?_
  by_cases a : x.toNat = 32
  · simp -dsimp [a, Tt, isBlank]
  by_cases b : x.toNat = 9
  · simp -dsimp [a, b, Tt, isBlank]
  have a' : ((x.toNat : Int) == 32) = false := by simp; omega
  have b' : ((x.toNat : Int) == 9) = false := by simp; omega
  by_cases c : x.toNat = 10
  · simp -dsimp [c, Tt, isBlank]
  have c' : ((x.toNat : Int) == 10) = false := by simp; omega
  simp -dsimp [a, b, c, a', b', c', Tt, isBlank]
theorem cLexHash (x : UInt8) (m : Mem) (n : Nat) : ACalls Tryz.prog 52 [U x] m n (fun d m' n' => d = Tt (!decide (x.toNat = 10)) ∧ m' = m ∧ n' = n) := by
  refine acalls_vc [0, 2] Tryz.func52 Tryz.ntmps52 (by kernel_rfl) rfl rfl (by simp) ?_
  by_cases a : x.toNat = 10
  · simp -dsimp [a, Tt]
  have a' : ((x.toNat : Int) == 10) = false := by simp; omega
  simp -dsimp [a, a', Tt]; omega
theorem cLexWord (x : UInt8) (m : Mem) (n : Nat) : ACalls Tryz.prog 94 [U x] m n (fun d m' n' => d = Tt (isWord x) ∧ m' = m ∧ n' = n) := by
  refine acalls_vc [0, 2] Tryz.func94 Tryz.ntmps94 (by kernel_rfl) rfl rfl (by simp) ?_
  simp -dsimp
  refine aCall_of (cLexSmall x m n) ?_
  rintro d m' n' ⟨rfl, rfl, rfl⟩
  cases a : isSmall x
  · simp -dsimp [Tt]
    refine aCall_of (cLexGreat x m' n') ?_
    rintro d m' n' ⟨rfl, rfl, rfl⟩
    cases b : isGreat x
    · simp -dsimp [Tt]
      refine aCall_of (cLexDigit x m' n') ?_
      rintro d m' n' ⟨rfl, rfl, rfl⟩
      simp -dsimp [Tt, isWord, a, b]
    · simp -dsimp [Tt, isWord, a, b]
  · simp -dsimp [Tt, isWord, a]
end Go.Proofs.Mv.App
open Go Go.Proofs Go.Proofs.Mv.V Go.RowKit
set_option maxRecDepth 10000
namespace Go.Proofs.Mv.App
theorem cIndexByte [GI] (s : List UInt8) (x : UInt8) (m : Mem) (n : Nat) : ACalls Tryz.prog 98 [S s, U x] m n (fun d m' n' => d = I (Lib.indexByte s x) ∧ m' = m ∧ n' = n) := by
  refine acalls_lib ⟨_, Tryz.func98, by kernel_rfl, by kernel_rfl⟩ fun w ν F vals hst hv => ?_
  obtain ⟨a, b, rfl, h1, h2⟩ := conVs_arr2 hv
  simp only [Con, S] at h1 h2
  subst h1; subst h2
  refine Calls.mono (show Calls Tryz.prog 98 _ _ _ from Any.strings_IndexByte Tryz.lays137 (ofL s) x.toNat w) ?_
  rintro e w' ⟨rfl, rfl⟩
  refine ⟨_, rfl, Below.refl _ _, I (Lib.indexByte s x), ?_, rfl, rfl, rfl⟩
  have hx : (x.toNat : Int).toNat.toUInt8 = x := by simp
  simp only [Con, I, hx]; rfl
def okU : Lib.NumEnd Nat → Option Nat
  | .ok u => some u
  | _ => none
end Go.Proofs.Mv.App
open Go Go.Proofs Go.Proofs.Mv.V
set_option maxRecDepth 10000
namespace Go.Proofs.Mv.App
variable [GI]
/-- How many bytes from the front on are of a class. -/
def runN (p : UInt8 → Bool) (s : List UInt8) : Nat := (s.takeWhile p).length
theorem runN_le (p : UInt8 → Bool) (s : List UInt8) : runN p s ≤ s.length := by
  unfold runN; exact (List.takeWhile_sublist p).length_le
theorem runN_drop {p : UInt8 → Bool} : ∀ {s : List UInt8} {k : Nat}, (∀ x ∈ s.take k, p x = true) → k ≤ s.length → runN p s = k + runN p (s.drop k)
  | s, 0, _, _ => by simp
  | [], k + 1, _, h => by simp at h
  | x :: s, k + 1, hp, h => by
    have hx : p x = true := hp x (by simp)
    have ih := runN_drop (p := p) (s := s) (k := k) (fun y hy => hp y (by simp [hy])) (by simpa using h)
    unfold runN at ih ⊢
    simp [List.takeWhile_cons, hx, ih]; omega
/-- A function value that tells a class. -/
def Cls (f : FuncId) (p : UInt8 → Bool) : Prop := ∀ (x : UInt8) (m : Mem) (n : Nat), ACalls Tryz.prog f [U x] m n (fun d m' n' => d = Tt (p x) ∧ m' = m ∧ n' = n)
structure RunInv (s : List UInt8) (f : FuncId) (p : UInt8 → Bool) (m : Mem) (n : Nat) (k : Nat) (σ : Nat → D) (m' : Mem) (n' : Nat) : Prop where
  h0 : σ 0 = S s
  h1 : σ 1 = .func (.func f) [] []
  h5 : σ 5 = I k
  le : k ≤ s.length
  al : ∀ x ∈ s.take k, p x = true
  mm : m' = m
  nn : n' = n
theorem cRun (s : List UInt8) (hs : s.length ≤ 1000000000) (f : FuncId) (p : UInt8 → Bool) (hf : Cls f p) (m : Mem) (n : Nat) :
    ACalls Tryz.prog 51 [S s, .func (.func f) [] []] m n (fun d m' n' => d = I (runN p s) ∧ m' = m ∧ n' = n) := by
  refine acalls_vc [0, 1, 4, 5, 16] Tryz.func51 Tryz.ntmps51 (by kernel_rfl) rfl rfl (by simp) ?_
  simp -dsimp [S]
  refine vloop_of (β := Nat) (RunInv s f p m n) (fun k => s.length - k) 0 ⟨by simp [S], by simp, by simp [I], by omega, by simp, rfl, rfl⟩ ?_
  rintro k σ m2 n2 ⟨h0, h1, h5, le, al, rfl, rfl⟩
  have hex : runN p s = k + runN p (s.drop k) := runN_drop al le
  by_cases hk : (k : Int) < s.length
  · have hk' : k < s.length := by omega
    simp -dsimp [h0, h1, h5, S, I, hk, hk']
    refine aCall_of (hf s[k] m2 n2) ?_
    rintro d m' n' ⟨rfl, rfl, rfl⟩
    have hd : s.drop k = s[k] :: s.drop (k + 1) := List.drop_eq_getElem_cons hk'
    cases a : p s[k]
    · simp -dsimp [Tt, h0, h1, h5, S, I]
      have hz : runN p (s.drop k) = 0 := by rw [hd]; simp only [runN, List.takeWhile_cons, a]; rfl
      rw [hex, hz]; simp
    · simp -dsimp [Tt, h0, h1, h5, S, I]
      refine ⟨k + 1, by omega, by simp [S], by simp, ?_, by omega, ?_, rfl, rfl⟩
      · simp -dsimp [I]; exact wrap_i64 (by omega) (by omega)
      · intro x hx
        rw [List.take_succ_eq_append_getElem hk'] at hx
        rcases List.mem_append.1 hx with hx | hx
        · exact al x hx
        · simp at hx; rw [hx]; exact a
  · simp -dsimp [h0, h1, h5, S, I, hk]
    have : s.drop k = [] := List.drop_eq_nil_of_le (by omega)
    rw [hex, this]; simp [runN]
def pre (t s : List UInt8) : Bool := decide (s.take t.length = t)
theorem cHasPrefix (s t : List UInt8) (hs : s.length ≤ 1000000000) (m : Mem) (n : Nat) : ACalls Tryz.prog 97 [S s, S t] m n (fun d m' n' => d = Tt (pre t s) ∧ m' = m ∧ n' = n) := by
  refine acalls_vc [0, 1, 4] Tryz.func97 Tryz.ntmps97 (by kernel_rfl) rfl rfl (by simp) ?_
  simp -dsimp [S]
  refine aCall_of (R := fun d m' n' => d = Tt (pre t s) ∧ m' = m ∧ n' = n) ?_ ?_
  · refine acalls_vc [0, 1, 4] Tryz.func137 Tryz.ntmps137 (by kernel_rfl) rfl rfl (by simp) ?_
    by_cases a : t.length ≤ s.length
    · simp -dsimp [a, Tt, pre]
      by_cases e : s.take t.length = t <;> simp [e]
    · have hn : ¬ s.take t.length = t := fun e => by have := congrArg List.length e; simp at this; omega
      simp -dsimp [a, Tt, hn, pre]
  · rintro d m' n' ⟨rfl, rfl, rfl⟩
    simp -dsimp
/-- The kind and the length of the token that a text begins with. -/
def isSign (x : UInt8) : Bool := decide (x ∈ ([123, 125, 40, 41, 91, 93, 60, 62, 44, 58, 46, 61] : List UInt8))
def firstT : List UInt8 → Nat × Nat
  | [] => (0, 0)
  | x :: r => if isSmall x then (1, runN isWord (x :: r)) else if isGreat x then (2, runN isWord (x :: r)) else if isDigit x then (3, runN isDigit (x :: r))
    else if pre [45, 62] (x :: r) then (4, 2) else if pre [46, 46] (x :: r) then (4, 2) else if isSign x then (4, 1) else (0, 0)
theorem indexByte_sign (l : List UInt8) (x : UInt8) : (0 ≤ Lib.indexByte l x) ↔ x ∈ l := by
  induction l with
  | nil => simp [Lib.indexByte]
  | cons b l ih =>
    have hge := Lib.indexByte_ge l x
    unfold Lib.indexByte
    by_cases hb : b = x
    · simp [hb]
    · have hb' : ¬ x = b := fun e => hb e.symm
      by_cases h1 : Lib.indexByte l x = -1
      · have : ¬ x ∈ l := fun h => by have := ih.2 h; omega
        simp [hb, h1, hb', this]
      · have : x ∈ l := ih.1 (by omega)
        simp [hb, h1, hb', this]; omega
theorem cFirstT (x : UInt8) (r : List UInt8) (hs : (x :: r).length ≤ 1000000000) (m : Mem) (n : Nat) : ACalls Tryz.prog 53 [S (x :: r)] m n (fun d m' n' => d = .tup [I (firstT (x :: r)).1, I (firstT (x :: r)).2] ∧ m' = m ∧ n' = n) := by
  refine acalls_vc [0, 2, 3, 4, 7, 12, 17, 22, 27] Tryz.func53 Tryz.ntmps53 (by kernel_rfl) rfl rfl (by simp) ?_
  simp -dsimp [S]
  refine aCall_of (cLexSmall x m n) ?_
  rintro d m' n' ⟨rfl, rfl, rfl⟩
  cases a : isSmall x
  case true =>
    simp -dsimp [Tt]
    refine aCall_of (cRun (x :: r) hs _ isWord cLexWord m' n') ?_
    rintro d m' n' ⟨rfl, rfl, rfl⟩
    simp -dsimp [I, firstT, a]
  simp -dsimp [Tt]
  refine aCall_of (cLexGreat x m' n') ?_
  rintro d m' n' ⟨rfl, rfl, rfl⟩
  cases b : isGreat x
  case true =>
    simp -dsimp [Tt]
    refine aCall_of (cRun (x :: r) hs _ isWord cLexWord m' n') ?_
    rintro d m' n' ⟨rfl, rfl, rfl⟩
    simp -dsimp [I, firstT, a, b]
  simp -dsimp [Tt]
  refine aCall_of (cLexDigit x m' n') ?_
  rintro d m' n' ⟨rfl, rfl, rfl⟩
  cases c : isDigit x
  case true =>
    simp -dsimp [Tt]
    refine aCall_of (cRun (x :: r) hs _ isDigit cLexDigit m' n') ?_
    rintro d m' n' ⟨rfl, rfl, rfl⟩
    simp -dsimp [I, firstT, a, b, c]
  simp -dsimp [Tt]
  refine aCall_of (cHasPrefix (x :: r) [45, 62] hs m' n') ?_
  rintro d m' n' ⟨rfl, rfl, rfl⟩
  cases e : pre [45, 62] (x :: r)
  case true => simp -dsimp [Tt, e, I, firstT, a, b, c]
  simp -dsimp [Tt, e]
  refine aCall_of (cHasPrefix (x :: r) [46, 46] hs m' n') ?_
  rintro d m' n' ⟨rfl, rfl, rfl⟩
  cases g : pre [46, 46] (x :: r)
  case true => simp -dsimp [Tt, g, I, firstT, a, b, c, e]
  simp -dsimp [Tt, g]
  refine aCall_of (cIndexByte [123, 125, 40, 41, 91, 93, 60, 62, 44, 58, 46, 61] x m' n') ?_
  rintro d m' n' ⟨rfl, rfl, rfl⟩
  by_cases h : isSign x = true
  · have h0 : 0 ≤ Lib.indexByte [123, 125, 40, 41, 91, 93, 60, 62, 44, 58, 46, 61] x := (indexByte_sign _ _).2 (by simpa [isSign] using h)
    simp -dsimp [h0, I, firstT, a, b, c, e, g, h]
    done
  · have h0 : ¬ 0 ≤ Lib.indexByte [123, 125, 40, 41, 91, 93, 60, 62, 44, 58, 46, 61] x := fun q => h (by simpa [isSign] using (indexByte_sign _ _).1 q)
    simp -dsimp [h0, I, firstT, a, b, c, e, g, h]
    done
end Go.Proofs.Mv.App
