/- A part of the proofs of the seat YtojdgajdhacjdaaGreatDoor: the abstract machine, the contracts of the functions, the laws. No condition of its own. -/
import Derived.WalkKit
import Derived.LaidEql
import Derived.Stop.Asserts
import Derived.RowKitTokens
import Derived.Test.YtojdgajdhacjdaaGreatDoorFact
import Derived.Test.YtojdgajdhacjdaaGreatDoorMvD
import Derived.Lib.ItoaNum
set_option linter.unusedSimpArgs false
set_option linter.unusedVariables false
set_option linter.unusedSectionVars false
namespace Go.Proofs.Mv.V
open Go.RowKit Go.Extern.Stop Go.Stop Go.Extern Go

abbrev tyHandle (t : Nat) : Value := .pointer (some ⟨7, t, none⟩)
abbrev tyErr : Value := .iface 153 (.agg #[tyHandle 28])
theorem ia_valueOf2 (t : Addr) (w : World) : (ReflectliteValue.unpack (.iface 75 (.pointer (some t)))).run Tryz.prog w
    = .ok (.agg #[tyHandle 75, .pointer (some ⟨w.heap.size, 0, none⟩), .int .u64 150]) (w.alloc (.cells #[.pointer (some t)] 75)) := by kernel_rfl
theorem ia_type2 (a : Addr) (w : World) : (ReflectliteValue.methodAny (ReflectliteValue.valueError "reflectlite.Value.Type" 0) (fun t _ _ _ => ReflectliteType.toType t) #[.agg #[tyHandle 75, .pointer (some a), .int .u64 150]]).run Tryz.prog w
    = .ok (.iface 153 (.agg #[tyHandle 75])) w := by kernel_rfl
theorem ia_methodKind (h : Value) (w : World) : (Go.method 415 153 (.agg #[h]) "Kind").run Tryz.prog w = .ok (283, h) w := by kernel_rfl
theorem ia_kind2 (w : World) : ((ReflectliteType.abiMethod fun t => (fun a : Nat => Value.int IntKind.u8 (a : Int)) <$> Rtype.kind t) #[tyHandle 75]).run Tryz.prog w = .ok (.int .u8 22) w := by kernel_rfl
theorem ia_kind1 (w : World) : ((ReflectliteType.abiMethod fun t => (fun a : Nat => Value.int IntKind.u8 (a : Int)) <$> Rtype.kind t) #[tyHandle 73]).run Tryz.prog w = .ok (.int .u8 22) w := by kernel_rfl
theorem ia_rlm (z : Sem Value) (f : TypeId → Addr → Nat → Nat → Sem Value) (v : Value) :
    ReflectliteValue.method z f #[v] = (do match ← ReflectliteValue.parts v with | none => z | some (t, a, fl) => f t a fl (fl % 32)) := rfl
theorem ia_parts2 (a : Addr) (w : World) : (ReflectliteValue.parts (.agg #[tyHandle 75, .pointer (some a), .int .u64 150])).run Tryz.prog w = .ok (some (75, a, 150)) w := by kernel_rfl
theorem ia_isNil2 (a p : Addr) (W : World) (ha : W.cell? a = some (.pointer (some p))) :
    (ReflectliteValue.method (ReflectliteValue.valueError "reflectlite.Value.IsNil" 0) ReflectliteValue.isNil #[.agg #[tyHandle 75, .pointer (some a), .int .u64 150]]).run Tryz.prog W = .ok (.bool false) W := by
  rw [ia_rlm]
  simp only [Sem.run_bind, ia_parts2, Result.andThen]
  simp [ReflectliteValue.isNil, loadVar, isAgg, underlying, Tryz.underlying75, ha, Result.andThen]
theorem ia_methodElem (h : Value) (w : World) : (Go.method 415 153 (.agg #[h]) "Elem").run Tryz.prog w = .ok (296, .agg #[h]) w := by kernel_rfl
theorem ia_methodImplements (h : Value) (w : World) : (Go.method 415 153 (.agg #[h]) "Implements").run Tryz.prog w = .ok (297, .agg #[h]) w := by kernel_rfl
theorem ia_methodAssignableTo (h : Value) (w : World) : (Go.method 415 153 (.agg #[h]) "AssignableTo").run Tryz.prog w = .ok (294, .agg #[h]) w := by kernel_rfl
theorem ia_elem2 (w : World) : (ReflectliteType.method ReflectliteType.elem #[.agg #[tyHandle 75]]).run Tryz.prog w = .ok (.iface 153 (.agg #[tyHandle 73])) w := by kernel_rfl
theorem ia_implements1 (w : World) : (ReflectliteType.relation "Implements" ReflectliteType.implements_ #[.agg #[tyHandle 73], tyErr]).run Tryz.prog w = .ok (.bool true) w := by kernel_rfl
theorem ia_typeOf1 (v : Value) (w : World) : (ReflectliteType.typeOf #[.iface 73 v]).run Tryz.prog w = .ok (.iface 153 (.agg #[tyHandle 73])) w := by kernel_rfl
theorem ia_assignable1 (w : World) : (ReflectliteType.relation "AssignableTo" ReflectliteType.assignableTo #[.agg #[tyHandle 73], .iface 153 (.agg #[tyHandle 73])]).run Tryz.prog w = .ok (.bool true) w := by kernel_rfl
theorem ia_valueOf1 (e : Addr) (w : World) : (ReflectliteValue.unpack (.iface 73 (.pointer (some e)))).run Tryz.prog w
    = .ok (.agg #[tyHandle 73, .pointer (some ⟨w.heap.size, 0, none⟩), .int .u64 150]) (w.alloc (.cells #[.pointer (some e)] 73)) := by kernel_rfl
theorem ia_elemOf2 (w : World) : (Rtype.elem? 75).run Tryz.prog w = .ok (some 73) w := by kernel_rfl
theorem ia_mk1 (p : Addr) (w : World) : (ReflectliteValue.mk 73 p ReflectliteValue.flagAddr).run Tryz.prog w = .ok (.agg #[tyHandle 73, .pointer (some p), .int .u64 406]) w := by kernel_rfl
theorem ia_elemV2 (a p : Addr) (W : World) (ha : W.cell? a = some (.pointer (some p))) :
    (ReflectliteValue.method (ReflectliteValue.valueError "reflectlite.Value.Elem" 0) ReflectliteValue.elem #[.agg #[tyHandle 75, .pointer (some a), .int .u64 150]]).run Tryz.prog W
      = .ok (.agg #[tyHandle 73, .pointer (some p), .int .u64 406]) W := by
  rw [ia_rlm]
  simp only [Sem.run_bind, ia_parts2, Result.andThen]
  simp [ReflectliteValue.elem, loadVar, isAgg, underlying, Tryz.underlying75, ha, Result.andThen, ia_elemOf2, ia_mk1]
theorem ia_rls (v x : Value) : ReflectliteValue.set #[v, x] = (do
    let (some (dst, a, fl), some (src, b, _)) := (← ReflectliteValue.parts v, ← ReflectliteValue.parts x)
      | unsupported (.noEntry "extern/(internal/reflectlite.Value).Set.zeroValue")
    if fl / ReflectliteValue.flagAddr % 2 == 0 then unsupported (.noEntry "extern/(internal/reflectlite.Value).Set.unaddressable")
    let val ← loadVar src b
    if ← Rtype.directlyAssignable dst src then storeVar dst a val
    else if ← Rtype.implements dst src then
      if (← Rtype.kind src) == 20 then
        match val with
        | .nilIface => unsupported (.noEntry "extern/reflectlite: a nil value of one interface type handed on as a value of another")
        | _ => storeVar dst a val
      else storeVar dst a (.iface src val)
    else panicString ("reflectlite.Set: value of type " ++ (← Rtype.spelt src) ++ " is not assignable to type " ++ (← Rtype.spelt dst))
    pure (.tuple #[])) := rfl
theorem ia_parts1a (a : Addr) (w : World) : (ReflectliteValue.parts (.agg #[tyHandle 73, .pointer (some a), .int .u64 406])).run Tryz.prog w = .ok (some (73, a, 406)) w := by kernel_rfl
theorem ia_parts1 (a : Addr) (w : World) : (ReflectliteValue.parts (.agg #[tyHandle 73, .pointer (some a), .int .u64 150])).run Tryz.prog w = .ok (some (73, a, 150)) w := by kernel_rfl
theorem ia_direct1 (w : World) : (Rtype.directlyAssignable 73 73).run Tryz.prog w = .ok true w := by kernel_rfl
theorem ia_set1 (ta b e : Addr) (old : Value) (W : World) (hb : W.cell? b = some (.pointer (some e))) (ht : W.cell? ta = some old) (hf : W.frozen? ta = false) :
    (ReflectliteValue.set #[.agg #[tyHandle 73, .pointer (some ta), .int .u64 406], .agg #[tyHandle 73, .pointer (some b), .int .u64 150]]).run Tryz.prog W
      = .ok (.tuple #[]) (W.setCell ta (.pointer (some e))) := by
  rw [ia_rls]
  simp only [Sem.run_bind, ia_parts1a, ia_parts1, Result.andThen]
  simp [ReflectliteValue.flagAddr, loadVar, isAgg, underlying, Tryz.underlying73, hb, Result.andThen, ia_direct1, storeVar, Value.cells, storeCells, Addr.add]
  rw [run_store Tryz.prog W ta _ _ (by rfl)]
  simp [ht, hf]

set_option maxHeartbeats 4000000 in
theorem as_hit (e t : Addr) (old : Value) (w : World) (hg : w.cell? ⟨0, 0, none⟩ = some tyErr) (ht0 : w.cell? t = some old) (hf0 : w.frozen? t = false) :
    Calls Tryz.prog 27 #[.iface 73 (.pointer (some e)), .iface 75 (.pointer (some t))] w fun ev w' => ev = .returned (.bool true) ∧ w' = ((((w.alloc (.cells #[.pointer (some t)] 75)).alloc (.cells #[tyHandle 75, .pointer (some ⟨w.heap.size, 0, none⟩), .int .u64 150] 112)).alloc (.cells #[tyHandle 75, .pointer (some ⟨w.heap.size, 0, none⟩), .int .u64 150] 112)).alloc (.cells #[.pointer (some e)] 73)).setCell t (.pointer (some e)) := by
  have h6 := @run_callFunc_extern Tryz.prog 63 _ (fun args => ReflectliteValue.unpack (args.getD 0 (.tuple #[]))) Tryz.func63 (by kernel_rfl) (by kernel_rfl) (by kernel_rfl) (by kernel_rfl)
  have h7 := @run_callFunc_extern Tryz.prog 64 _ (ReflectliteValue.methodAny (ReflectliteValue.valueError "reflectlite.Value.Type" 0) (fun t _ _ _ => ReflectliteType.toType t)) Tryz.func64 (by kernel_rfl) (by kernel_rfl) (by kernel_rfl) (by kernel_rfl)
  have h8 := @run_callFunc_extern Tryz.prog 65 _ (ReflectliteValue.method (ReflectliteValue.valueError "reflectlite.Value.IsNil" 0) ReflectliteValue.isNil) Tryz.func65 (by kernel_rfl) (by kernel_rfl) (by kernel_rfl) (by kernel_rfl)
  have h27 := @run_callFunc_extern Tryz.prog 283 _ (ReflectliteType.abiMethod fun t => do pure (.int .u8 (← Rtype.kind t))) Tryz.func283 (by kernel_rfl) (by kernel_rfl) (by kernel_rfl) (by kernel_rfl)
  have h37 := @run_callFunc_extern Tryz.prog 296 _ (ReflectliteType.method ReflectliteType.elem) Tryz.func296 (by kernel_rfl) (by kernel_rfl) (by kernel_rfl) (by kernel_rfl)
  have h38 := @run_callFunc_extern Tryz.prog 297 _ (ReflectliteType.relation "Implements" ReflectliteType.implements_) Tryz.func297 (by kernel_rfl) (by kernel_rfl) (by kernel_rfl) (by kernel_rfl)
  have h10 := @run_callFunc_extern Tryz.prog 67 _ ReflectliteType.typeOf Tryz.func67 (by kernel_rfl) (by kernel_rfl) (by kernel_rfl) (by kernel_rfl)
  have h35 := @run_callFunc_extern Tryz.prog 294 _ (ReflectliteType.relation "AssignableTo" ReflectliteType.assignableTo) Tryz.func294 (by kernel_rfl) (by kernel_rfl) (by kernel_rfl) (by kernel_rfl)
  have h11 := @run_callFunc_extern Tryz.prog 105 _ (ReflectliteValue.method (ReflectliteValue.valueError "reflectlite.Value.Elem" 0) ReflectliteValue.elem) Tryz.func105 (by kernel_rfl) (by kernel_rfl) (by kernel_rfl) (by kernel_rfl)
  have h12 := @run_callFunc_extern Tryz.prog 106 _ ReflectliteValue.set Tryz.func106 (by kernel_rfl) (by kernel_rfl) (by kernel_rfl) (by kernel_rfl)
  have tO := ia_typeOf1
  have mA := ia_methodAssignableTo
  have a25 := ia_assignable1
  have v25 := ia_valueOf1
  have f6 := ia_valueOf2
  have f7 := ia_type2
  have mK := ia_methodKind
  have mE := ia_methodElem
  have mI := ia_methodImplements
  have k27 := ia_kind2
  have k25 := ia_kind1
  have e27 := ia_elem2
  have i25 := ia_implements1
  have n8 := ia_isNil2 ⟨w.heap.size, 0, none⟩ t ((w.alloc (.cells #[.pointer (some t)] 75)).alloc (.cells #[tyHandle 75, .pointer (some ⟨w.heap.size, 0, none⟩), .int .u64 150] 112)) (by simp)
  have hlt : 0 < w.heap.size := by
    rcases Nat.lt_or_ge 0 w.heap.size with h | h
    · exact h
    · simp [World.cell?, Array.getElem?_eq_none h] at hg
  have hg2 : ((w.alloc (.cells #[.pointer (some t)] 75)).alloc (.cells #[tyHandle 75, .pointer (some ⟨w.heap.size, 0, none⟩), .int .u64 150] 112)).cell? ⟨0, 0, none⟩ = some tyErr := by
    rw [World.cell?_alloc_lt _ _ ⟨0, 0, none⟩ (by simp <;> omega), World.cell?_alloc_lt _ _ ⟨0, 0, none⟩ hlt]; exact hg
  have htl : t.block < w.heap.size := by
    rcases Nat.lt_or_ge t.block w.heap.size with h | h
    · exact h
    · simp [World.cell?, Array.getElem?_eq_none h] at ht0
  have el := ia_elemV2 ⟨w.heap.size, 0, none⟩ t (((w.alloc (.cells #[.pointer (some t)] 75)).alloc (.cells #[tyHandle 75, .pointer (some ⟨w.heap.size, 0, none⟩), .int .u64 150] 112)).alloc (.cells #[tyHandle 75, .pointer (some ⟨w.heap.size, 0, none⟩), .int .u64 150] 112)) (by rw [World.cell?_alloc_lt _ _ ⟨w.heap.size, 0, none⟩ (by simp; omega)]; simp)
  have st := ia_set1 t ⟨w.heap.size + 1 + 1 + 1, 0, none⟩ e old ((((w.alloc (.cells #[.pointer (some t)] 75)).alloc (.cells #[tyHandle 75, .pointer (some ⟨w.heap.size, 0, none⟩), .int .u64 150] 112)).alloc (.cells #[tyHandle 75, .pointer (some ⟨w.heap.size, 0, none⟩), .int .u64 150] 112)).alloc (.cells #[.pointer (some e)] 73))
    (by rw [World.cell?_alloc_at _ _ _ _ (by simp)]; rfl)
    (by rw [World.cell?_alloc_lt _ _ t (by simp; omega), World.cell?_alloc_lt _ _ t (by simp; omega), World.cell?_alloc_lt _ _ t (by simp; omega), World.cell?_alloc_lt _ _ t htl]; exact ht0)
    (by rw [World.frozen?_alloc_old _ _ t (by simp; omega), World.frozen?_alloc_old _ _ t (by simp; omega), World.frozen?_alloc_old _ _ t (by simp; omega), World.frozen?_alloc_old _ _ t (Nat.ne_of_lt htl)]; exact hf0)
  go_enter Tryz.func27, Tryz.ntmps27
  go_wp2
  refine wp_loop_rounds 1 ?_
  rw [rounds_succ]
  go_wp2
  go_ret
  exact ⟨rfl, rfl⟩
end Go.Proofs.Mv.V
namespace Go.Proofs.Mv.V
open Go.RowKit Go.Extern.Stop Go.Stop Go.Extern Go
theorem ii_typeOf (v : Value) (w : World) : (Extern.ReflectliteType.typeOf #[.iface 31 v]).run Tryz.prog w = .ok (.iface 153 (.agg #[tyHandle 31])) w := by kernel_rfl
def compEntry : Array Value → Sem Value := Extern.ReflectliteType.method fun t => do Extern.Rtype.noPackHeld "Comparable" t; pure (.bool (← typeInfo t).comparable)
theorem ii_comparable (w : World) : (compEntry #[.agg #[tyHandle 31]]).run Tryz.prog w = .ok (.bool true) w := by kernel_rfl
theorem ii_methodComparable (v : Value) (w : World) : (Go.method 415 153 v "Comparable").run Tryz.prog w = .ok (295, v) w := by kernel_rfl
theorem ii_noIsC (v : Value) (xT : TypeId) (w : World) : (Instr.typeAssert (.iface 31 v) xT 165 true).run Tryz.prog w = .ok (.tuple #[.nilIface, .bool false]) w := run_typeAssert_lacksB Tryz.underlying165 (by kernel_rfl) (by kernel_rfl) v xT w
theorem ii_noIsS (v : Value) (xT : TypeId) (w : World) : (Instr.typeAssert (.iface 73 v) xT 165 true).run Tryz.prog w = .ok (.tuple #[.nilIface, .bool false]) w := run_typeAssert_lacksB Tryz.underlying165 (by kernel_rfl) (by kernel_rfl) v xT w
theorem ii_hasUnwrapS (v : Value) (xT : TypeId) (w : World) : (Instr.typeAssert (.iface 73 v) xT 160 true).run Tryz.prog w = .ok (.tuple #[.iface 73 v, .bool true]) w := run_typeAssert_hasB Tryz.underlying160 (by kernel_rfl) v xT w
theorem ii_methodUnwrap (v : Value) (w : World) : (Go.method 415 73 v "Unwrap").run Tryz.prog w = .ok (288, v) w := by kernel_rfl
theorem ii_comp : (Tryz.prog.info? 31).map (·.comparable) = some true := by kernel_rfl
theorem ii_eq (c : Int) (w : World) : (Go.binOp .eql 28 (.iface 31 (.int .i64 c)) (.iface 31 (.int .i64 c))).run Tryz.prog w = .ok (.bool true) w := by
  obtain ⟨i, hi, hcmp⟩ := Option.map_eq_some_iff.1 ii_comp
  simp only [Go.binOp]
  have h : ∀ d : Nat, (Op.equalIn (d + 2) 28 (.iface 31 (.int .i64 c)) (.iface 31 (.int .i64 c))).run Tryz.prog w = .ok true w := fun d => by
    simp [Op.equalIn, run_underlying Tryz.underlying28, run_underlying Tryz.underlying31, typeInfo, hi, hcmp]
  simp [Op.equal, Op.maxDepth, h 9998]
set_option maxHeartbeats 4000000 in
theorem is_spot (pb po : Nat) (c : Int) (w : World) (h1 : w.cell? ⟨pb, po + 1, none⟩ = some (.iface 31 (.int .i64 c))) :
    Calls Tryz.prog 28 #[.iface 73 (.pointer (some ⟨pb, po, none⟩)), .iface 31 (.int .i64 c)] w fun e w' => e = .returned (.bool true) ∧ w' = w := by
  have h8 := @run_callFunc_extern Tryz.prog 67 _ Extern.ReflectliteType.typeOf Tryz.func67 (by kernel_rfl) (by kernel_rfl) (by kernel_rfl) (by kernel_rfl)
  have h32 := @run_callFunc_extern Tryz.prog 295 _ compEntry Tryz.func295 (by kernel_rfl) (by kernel_rfl) (by kernel_rfl) (by kernel_rfl)
  have tT := ii_typeOf
  have cT := ii_comparable
  have mR := ii_methodComparable
  have nE := ii_noIsC
  have nW := ii_noIsS
  have uW := ii_hasUnwrapS
  have mU := ii_methodUnwrap
  have hty := run_eql_iface_types (P := Tryz.prog) 73 31 (.pointer (some ⟨pb, po, none⟩)) (.int .i64 c) Tryz.underlying28 (by decide) w
  have heq := ii_eq c w
  go_enter Tryz.func28, Tryz.ntmps28
  go_wp2
  refine wp_loop_rounds 2 ?_
  rw [rounds_succ]
  go_wp2
  rw [rounds_succ]
  go_wp2
  go_ret
  exact ⟨rfl, rfl⟩
end Go.Proofs.Mv.V
namespace Go.Proofs.Mv.V
open Go.RowKit Go.Extern.Stop Go.Stop Go.Extern Go
theorem as_hit' (e : Addr) (tb : Nat) (old : Value) (w : World) (hg : w.cell? ⟨0, 0, none⟩ = some tyErr) (ht0 : w.cell? ⟨tb, 0, none⟩ = some old) (hf0 : w.frozen? ⟨tb, 0, none⟩ = false) :
    Calls Tryz.prog 27 #[.iface 73 (.pointer (some e)), .iface 75 (.pointer (some ⟨tb, 0, none⟩))] w fun ev w' => ev = .returned (.bool true) ∧ w'.cell? ⟨tb, 0, none⟩ = some (.pointer (some e)) ∧ Below tb w w' := by
  refine (as_hit e ⟨tb, 0, none⟩ old w hg ht0 hf0).mono ?_
  rintro ev w' ⟨rfl, rfl⟩
  have htl : tb < w.heap.size := by
    rcases Nat.lt_or_ge tb w.heap.size with h | h
    · exact h
    · simp [World.cell?, Array.getElem?_eq_none h] at ht0
  refine ⟨rfl, ?_, ?_⟩
  · refine World.cell?_setCell_same' _ _ _ ?_
    rw [World.cell?_alloc_lt _ _ ⟨tb, 0, none⟩ (by simp; omega), World.cell?_alloc_lt _ _ ⟨tb, 0, none⟩ (by simp; omega), World.cell?_alloc_lt _ _ ⟨tb, 0, none⟩ (by simp; omega), World.cell?_alloc_lt _ _ ⟨tb, 0, none⟩ htl, ht0]; rfl
  · refine Below.setCell (p := ⟨tb, 0, none⟩) ?_ (Nat.le_refl tb) _
    exact Below.alloc (Below.alloc (Below.alloc (Below.alloc (Below.refl _ _) (by omega) _) (by simp <;> omega) _) (by simp <;> omega) _) (by simp <;> omega) _
theorem is_cmp : (Tryz.prog.info? 73).map (·.comparable) = some true := by kernel_rfl
theorem is_info : (Tryz.prog.info? 78).isSome = true := by kernel_rfl
theorem ptr_neq (a : Addr) (w : World) : (Go.binOp .neq 28 (.iface 73 (.pointer (some a))) (.iface 73 (.pointer (some a)))).run Tryz.prog w = .ok (.bool false) w := by
  obtain ⟨i, hi, hcmp⟩ := Option.map_eq_some_iff.1 is_cmp
  obtain ⟨j, hj⟩ := Option.isSome_iff_exists.1 is_info
  simp only [Go.binOp]
  simp [Op.equal, Op.maxDepth, run_equalIn_iface_ptr_same w 9998 a Tryz.underlying28 Tryz.underlying73 hi hcmp hj]
set_option maxHeartbeats 4000000 in
theorem is_calls (pb po : Nat) (at_ c : Int) (w : World) (hg : w.cell? ⟨0, 0, none⟩ = some tyErr) (h0 : w.cell? ⟨pb, po, none⟩ = some (.int .i64 at_)) (h1 : w.cell? ⟨pb, po + 1, none⟩ = some (.iface 31 (.int .i64 c))) :
    Calls Tryz.prog 9 #[.iface 73 (.pointer (some ⟨pb, po, none⟩)), .int .i64 at_, .int .i64 c] w fun e w' => e = .returned (.bool true) ∧ Below w.heap.size w w' := by
  have hlt : pb < w.heap.size := by
    rcases Nat.lt_or_ge pb w.heap.size with h | h
    · exact h
    · simp [World.cell?, Array.getElem?_eq_none h] at h0
  have hlg : 0 < w.heap.size := by
    rcases Nat.lt_or_ge 0 w.heap.size with h | h
    · exact h
    · simp [World.cell?, Array.getElem?_eq_none h] at hg
  have heq := ii_eq c
  have hpn := ptr_neq ⟨pb, po, none⟩
  have hgA : (w.alloc (.cells #[.pointer none] 73)).cell? ⟨0, 0, none⟩ = some tyErr := by
    rw [World.cell?_alloc_lt _ _ ⟨0, 0, none⟩ hlg]; exact hg
  have htA : (w.alloc (.cells #[.pointer none] 73)).cell? ⟨w.heap.size, 0, none⟩ = some (.pointer none) := by simp
  have hfA : (w.alloc (.cells #[.pointer none] 73)).frozen? ⟨w.heap.size, 0, none⟩ = false := by simp
  go_enter Tryz.func9, Tryz.ntmps9
  go_wp2_with (go_at_call 27; refine (as_hit' ⟨pb, po, none⟩ w.heap.size (.pointer none) _ hgA htA hfA).mono ?_)
  rintro e W1 ⟨rfl, hc, hb⟩
  have hb1 : Below w.heap.size w W1 := (Below.alloc (Below.refl _ _) (Nat.le_refl _) _).trans hb
  have c0 : W1.cell? ⟨pb, po, none⟩ = some (.int .i64 at_) := (hb1.cell (show (⟨pb, po, none⟩ : Addr).block < w.heap.size from hlt)).trans h0
  have c1 : W1.cell? ⟨pb, po + 1, none⟩ = some (.iface 31 (.int .i64 c)) := (hb1.cell (show (⟨pb, po + 1, none⟩ : Addr).block < w.heap.size from hlt)).trans h1
  clear hb hgA htA hfA h0 h1 hg
  go_wp2_with (go_at_call 28; refine (is_spot pb po c _ c1).mono ?_)
  rintro e W2 ⟨rfl, rfl⟩
  go_wp2
  go_ret
  exact ⟨rfl, hb1⟩
/-- What the laid variables hold. -/
structure Laid (w : World) (F : Nat → Prop) : Prop where
  f0 : F 0
  f1 : F 1
  f2 : F 2
  f3 : F 3
  c0 : w.cell? ⟨0, 0, none⟩ = some tyErr
  c1 : ∃ te pe, w.cell? ⟨1, 0, none⟩ = some (.iface te pe)
  c2 : ∃ te pe, w.cell? ⟨2, 0, none⟩ = some (.iface te pe)
  c3 : w.var? Tryz.prog "internal/strconv.uint64pow10" = some (Lib.pow10Tab.map fun z => Value.int .u64 z).toArray
theorem pow10_g : Tryz.prog.globalNamed "internal/strconv.uint64pow10" = some 3 := by kernel_rfl
instance laidGI : GI where
  inv := Laid
  keep := by
    intro w w' F F' h k
    have e : ∀ b, F b → w'.cell? ⟨b, 0, none⟩ = w.cell? ⟨b, 0, none⟩ := fun b hb => by simp only [World.cell?, (k b hb).2]
    have e3 : w'.var? Tryz.prog "internal/strconv.uint64pow10" = w.var? Tryz.prog "internal/strconv.uint64pow10" := by simp only [World.var?, pow10_g, Option.bind_some, (k _ h.f3).2]
    exact ⟨(k _ h.f0).1, (k _ h.f1).1, (k _ h.f2).1, (k _ h.f3).1, by rw [e _ h.f0]; exact h.c0, by rw [e _ h.f1]; exact h.c1, by rw [e _ h.f2]; exact h.c2, by rw [e3]; exact h.c3⟩
/-- An error as it is handed on: a Spot that tells of a Code. -/
abbrev spotD (t : Option (Nat × Nat)) (at_ c : Int) : D := .iface 73 (.rptr t [.v (.int .i64 at_), .iface 31 (.v (.int .i64 c))])
theorem a_is (t : Option (Nat × Nat)) (at_ c : Int) (m : Mem) (n : Nat) : ACalls Tryz.prog 9 [spotD t at_ c, .v (.int .i64 at_), .v (.int .i64 c)] m n (fun d m' n' => d = .v (.bool true) ∧ m' = m ∧ n' = n) := by
  refine acalls_lib ⟨_, Tryz.func9, by kernel_rfl, by kernel_rfl⟩ fun w ν F vals hst hv => ?_
  obtain ⟨x, y, z, rfl, h1, h2, h3⟩ := conVs_arr3 hv
  simp only [Con, ConCs] at h1 h2 h3
  subst h2; subst h3
  obtain ⟨y', rfl, b, o, rfl, hF, _, ⟨y1, hc1, _, rfl⟩, ⟨y2, hc2, _, y3, rfl, rfl⟩, _⟩ := h1
  refine (is_calls b o at_ c w hst.gi.c0 hc1 hc2).mono ?_
  rintro e w' ⟨rfl, hb⟩
  exact ⟨_, rfl, hb, .v (.bool true), by simp [Con], rfl, rfl, rfl⟩
end Go.Proofs.Mv.V
