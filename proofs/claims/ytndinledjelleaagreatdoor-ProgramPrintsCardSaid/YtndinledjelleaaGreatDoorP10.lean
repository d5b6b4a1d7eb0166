/- A part of the proofs: machine, contracts, laws. No condition of its own. -/
import Derived.Test.YtndinledjelleaaGreatDoorP09
import Derived.Deep.RegionHeld3
import Derived.ChangeKeysEq
set_option linter.unusedSimpArgs false
set_option linter.unusedVariables false
set_option linter.unusedSectionVars false
open Go Go.Proofs Go.Proofs.Mv.V Go.RowKit
namespace Go.Proofs.Mv.App
variable [GI]
theorem blw_dr {B : Nat} {w w' : World} (h : Blw B w w') : Blw B w w'.drew := ⟨h.os, h.output, h.size, h.block⟩
theorem blw_ud {B : Nat} {w w' : World} (h : Blw B w.drew w') : Blw B w w' := ⟨h.os, h.output, h.size, h.block⟩
theorem cell_new {w : World} {vs : Array Value} {t : TypeId} {i : Nat} {v : Value} (h : vs[i]? = some v) : (w.alloc (.cells vs t)).cell? ⟨w.heap.size, i, none⟩ = some v := by
 unfold World.cell?; rw [World.alloc_heap_new]; exact h
theorem cell?_alloc_old {w : World} {o : Go.Obj} {b i : Nat} (h : b < w.heap.size) : (w.alloc o).cell? ⟨b, i, none⟩ = w.cell? ⟨b, i, none⟩ := by
 exact cell?_of_heap (RowKit.Below.heap_alloc w o b h)
structure ShC (b s : Nat) (k N : Int) (mod nm : ByteArray) (v4 v5 v6 v7 : Value) (n4 n5 n6 n7 : Nat) (w : World) : Prop where
 lb : b < w.heap.size
 ls : s < w.heap.size
 e0 : w.cell? ⟨b, 0, none⟩ = some (.int .i64 k)
 e1 : w.cell? ⟨b, 1, none⟩ = some (.int .i64 N)
 e2 : w.cell? ⟨b, 2, none⟩ = some (.string mod)
 e3 : w.cell? ⟨b, 3, none⟩ = some (.string nm)
 e4 : w.cell? ⟨b, 4, none⟩ = some v4
 e5 : w.cell? ⟨b, 5, none⟩ = some v5
 e6 : w.cell? ⟨b, 6, none⟩ = some v6
 e7 : w.cell? ⟨b, 7, none⟩ = some v7
 d0 : w.cell? ⟨s, 0, none⟩ = some (.int .i64 n4)
 d1 : w.cell? ⟨s, 1, none⟩ = some (.int .i64 n5)
 d2 : w.cell? ⟨s, 2, none⟩ = some (.int .i64 n6)
 d3 : w.cell? ⟨s, 3, none⟩ = some (.int .i64 n7)
theorem ShC.keep {b s : Nat} {k N : Int} {mod nm : ByteArray} {v4 v5 v6 v7 : Value} {n4 n5 n6 n7 : Nat} {w w' : World} (h : ShC b s k N mod nm v4 v5 v6 v7 n4 n5 n6 n7 w) (hb : Blw w.heap.size w w') : ShC b s k N mod nm v4 v5 v6 v7 n4 n5 n6 n7 w' :=
 ⟨Nat.lt_of_lt_of_le h.lb hb.size, Nat.lt_of_lt_of_le h.ls hb.size, hb.cell h.lb h.e0, hb.cell h.lb h.e1, hb.cell h.lb h.e2, hb.cell h.lb h.e3, hb.cell h.lb h.e4, hb.cell h.lb h.e5, hb.cell h.lb h.e6, hb.cell h.lb h.e7, hb.cell h.ls h.d0, hb.cell h.ls h.d1, hb.cell h.ls h.d2, hb.cell h.ls h.d3⟩
theorem ShC.dr {b s : Nat} {k N : Int} {mod nm : ByteArray} {v4 v5 v6 v7 : Value} {n4 n5 n6 n7 : Nat} {w : World} (h : ShC b s k N mod nm v4 v5 v6 v7 n4 n5 n6 n7 w) : ShC b s k N mod nm v4 v5 v6 v7 n4 n5 n6 n7 w.drew :=
 ⟨h.lb, h.ls, h.e0, h.e1, h.e2, h.e3, h.e4, h.e5, h.e6, h.e7, h.d0, h.d1, h.d2, h.d3⟩
theorem ii_int : (Tryz.prog.info? 3).map (·.size) = some 1 := by kernel_rfl
set_option maxRecDepth 20000 in
theorem ii_arr4 (a0 a1 a2 a3 b0 b1 b2 b3 : Int) (w : World) : (Op.equalIn 10000 226 (.agg #[.int .i64 a0, .int .i64 a1, .int .i64 a2, .int .i64 a3]) (.agg #[.int .i64 b0, .int .i64 b1, .int .i64 b2, .int .i64 b3])).run Tryz.prog w = .ok (decide (a0 = b0 ∧ a1 = b1 ∧ a2 = b2 ∧ a3 = b3)) w := by
 obtain ⟨i, hi, hcmp⟩ := Option.map_eq_some_iff.1 ii_int
 have hc : (Tryz.prog).cellsOf 3 = 1 := by kernel_rfl
 have p0 : ∀ (w : World) (c0 c1 c2 c3 : Int), (part 3 #[.int .i64 c0, .int .i64 c1, .int .i64 c2, .int .i64 c3] 0).run Tryz.prog w = .ok (.int .i64 c0) w := fun _ _ _ _ _ => by kernel_rfl
 have p1 : ∀ (w : World) (c0 c1 c2 c3 : Int), (part 3 #[.int .i64 c0, .int .i64 c1, .int .i64 c2, .int .i64 c3] 1).run Tryz.prog w = .ok (.int .i64 c1) w := fun _ _ _ _ _ => by kernel_rfl
 have p2 : ∀ (w : World) (c0 c1 c2 c3 : Int), (part 3 #[.int .i64 c0, .int .i64 c1, .int .i64 c2, .int .i64 c3] 2).run Tryz.prog w = .ok (.int .i64 c2) w := fun _ _ _ _ _ => by kernel_rfl
 have p3 : ∀ (w : World) (c0 c1 c2 c3 : Int), (part 3 #[.int .i64 c0, .int .i64 c1, .int .i64 c2, .int .i64 c3] 3).run Tryz.prog w = .ok (.int .i64 c3) w := fun _ _ _ _ _ => by kernel_rfl
 have pe : ∀ (w : World) (a b : Int), (Op.equalIn 9999 3 (.int .i64 a) (.int .i64 b)).run Tryz.prog w = .ok (a == b) w := fun w a b => run_equalIn_int w 9998 _ _ _ a b Tryz.underlying3
 rw [show (10000 : Nat) = 9999 + 1 from rfl, run_equalIn_array w 9999 _ _ Tryz.underlying226 hi, hc, show List.range 4 = [0, 1, 2, 3] from rfl]
 simp only [Op.eqItems, Sem.run_bind, Nat.mul_one, p0, p1, p2, p3, pe, Result.andThen_ok]
 by_cases c0 : a0 = b0
 ·by_cases c1 : a1 = b1
  ·by_cases c2 : a2 = b2
   ·by_cases c3 : a3 = b3 <;> simp [c0, c1, c2, c3, p1, p2, p3, pe]
   ·simp [c0, c1, c2, p1, p2, p3, pe]
  ·simp [c0, c1, p1, p2, p3, pe]
 ·simp [c0, p1, p2, p3, pe]
def Ans (P : Program) (f : FuncId) (args : Array Value) (W : World) (v : Value) : Prop := ∀ w, Blw W.heap.size W w → Calls P f args w fun e w' => e = .returned v ∧ Blw w.heap.size w w'
set_option maxRecDepth 100000 in
set_option maxHeartbeats 8000000 in
theorem shape_1 {W : World} {N : Int} {mod nm : ByteArray} {a4 a5 a6 a7 : Option Addr} {n4 n5 n6 n7 c4 c5 c6 c7 : Nat} {F B C C2 Z : Bool}
  (hF : decide (n4 ≤ 21 ∧ n5 ≤ 21 ∧ n6 ≤ 21 ∧ n7 ≤ 21) = F)
  (hB : Ans Tryz.prog 185 #[.agg #[.int .i64 1, .int .i64 N, .string mod, .string nm, .slice a4 n4 c4, .slice a5 n5 c5, .slice a6 n6 c6, .slice a7 n7 c7], .bool true, .bool false, .bool false] W (.bool B))
  (hC : decide (0 ≤ N) = C)
  (hC2 : decide (N ≤ 999999999) = C2)
  (hZ : decide (n4 = 0 ∧ n5 = 0 ∧ n6 = 0 ∧ n7 = 0) = Z)
  : Calls Tryz.prog 121 #[.agg #[.int .i64 1, .int .i64 N, .string mod, .string nm, .slice a4 n4 c4, .slice a5 n5 c5, .slice a6 n6 c6, .slice a7 n7 c7]] W fun e w' => e = .returned (.bool (F && (B && C && C2 && Z))) ∧ Blw W.heap.size W w' := by
 refine calls_of_wp Tryz.func121 rfl ?_
 simp only [Tryz.ntmps121, List.size_toArray, List.length_cons, List.length_nil, Nat.reduceAdd, Nat.reduceSub, Array.replicate_succ, Array.replicate_zero, List.push_toArray, List.append_toArray, List.nil_append, List.cons_append]
 go_wp2_with fail
 refine sizes_w.mono ?_
 rintro e w1 ⟨rfl, hb1⟩
 go_wp2_with fail
 refine (max_w (n0 := (n4 : Int)) (n1 := n5) (n2 := n6) (n3 := n7) (cell_new rfl) (cell_new rfl) (cell_new rfl) (cell_new rfl)).mono ?_
 rintro e w2 ⟨⟨r, rfl, hr⟩, hb2⟩
 have hs1 : W.heap.size < w1.heap.size := by have := hb1.size; simp at this; omega
 have hb02 : Blw W.heap.size W w2 := ((((Blw.refl _ W).alloc (Nat.le_refl _) _).trans (hb1.mono (by simp))).alloc (Nat.le_of_lt hs1) _).trans (hb2.mono (by simp; omega))
 have hlt1 : w1.heap.size < w2.heap.size := by have := hb2.size; simp at this; omega
 have hc : ShC W.heap.size w1.heap.size 1 N mod nm (.slice a4 n4 c4) (.slice a5 n5 c5) (.slice a6 n6 c6) (.slice a7 n7 c7) n4 n5 n6 n7 w2 := by
  refine ⟨Nat.lt_trans hs1 hlt1, hlt1, ?_, ?_, ?_, ?_, ?_, ?_, ?_, ?_, hb2.cell (by simp) (cell_new rfl), hb2.cell (by simp) (cell_new rfl), hb2.cell (by simp) (cell_new rfl), hb2.cell (by simp) (cell_new rfl)⟩
  all_goals exact hb2.cell (by simp; omega) ((cell?_alloc_old hs1).trans (hb1.cell (by simp) (cell_new rfl)))
 clear hb1 hb2
 cases F
 case false =>
  have hno := of_decide_eq_false hF
  clear hF
  have hr22 : 21 < r := by
   refine Int.not_le.1 fun h => hno ?_
   have := hr.1 h
   omega
  go_wp2_with fail
  go_ret
  exact ⟨rfl, hb02⟩
 case true =>
  have hfit := of_decide_eq_true hF
  clear hF
  have hr22 : ¬ 21 < r := Int.not_lt.2 (hr.2 (by omega))
  have hcd := hc.dr
  obtain ⟨lb, ls, e0, e1, e2, e3, e4, e5, e6, e7, d0, d1, d2, d3⟩ := hc
  go_wp2_with fail
  go_region_held3 (fun w' => w'.cell? ⟨w1.heap.size, 0, none⟩ = some (.int .i64 n4) ∧ w'.cell? ⟨w1.heap.size, 3, none⟩ = some (.int .i64 n7))
   (exact ⟨d0, d3⟩)
   (fail)
  have hb := blw_dr hb02
  have hc := hcd
  clear hcd
  go_wp2_with fail
  refine (hB _ hb).mono ?_
  rintro e w3 ⟨rfl, hbn⟩
  clear e0 e1 e2 e3 e4 e5 e6 e7 d0 d1 d2 d3
  replace hb := hb.trans (hbn.mono hb.size)
  replace hc := hc.keep hbn
  obtain ⟨lb3, ls3, e0, e1, e2, e3, e4, e5, e6, e7, d0, d1, d2, d3⟩ := id hc
  cases B
  case false =>
   go_wp2_with fail
   go_ret
   refine ⟨?_, hb⟩
   first | rfl | (simp [*]; done) | (simp; omega)
  case true =>
   cases C
   case false =>
    have hxC := of_decide_eq_false hC
    clear hC
    go_wp2_with fail
    go_ret
    refine ⟨?_, hb⟩
    first | rfl | (simp [*]; done) | (simp; omega)
   case true =>
    have hxC := of_decide_eq_true hC
    clear hC
    cases C2
    case false =>
     have hxC2 := of_decide_eq_false hC2
     clear hC2
     go_wp2_with fail
     go_ret
     refine ⟨?_, hb⟩
     first | rfl | (simp [*]; done) | (simp; omega)
    case true =>
     have hxC2 := of_decide_eq_true hC2
     clear hC2
     cases Z
     case false =>
      have hxZ := of_decide_eq_false hZ
      clear hZ
      have hn : ¬ ((n4 : Int) = 0 ∧ (n5 : Int) = 0 ∧ (n6 : Int) = 0 ∧ (n7 : Int) = 0) := fun h => hxZ (by refine ⟨?_, ?_, ?_, ?_⟩ <;> first | trivial | omega)
      have harr : ∀ w, (Op.equalIn 10000 226 (.agg #[.int .i64 n4, .int .i64 n5, .int .i64 n6, .int .i64 n7]) (.agg #[.int .i64 0, .int .i64 0, .int .i64 0, .int .i64 0])).run Tryz.prog w = .ok false w := fun w => by rw [ii_arr4, decide_eq_false hn]
      clear hxZ hn
      go_wp2_with fail
      go_ret
      refine ⟨?_, hb⟩
      first | rfl | (simp [*]; done) | (simp; omega)
     case true =>
      have hxZ := of_decide_eq_true hZ
      clear hZ
      have hn : (n4 : Int) = 0 ∧ (n5 : Int) = 0 ∧ (n6 : Int) = 0 ∧ (n7 : Int) = 0 := ⟨by omega, by omega, by omega, by omega⟩
      have harr : ∀ w, (Op.equalIn 10000 226 (.agg #[.int .i64 n4, .int .i64 n5, .int .i64 n6, .int .i64 n7]) (.agg #[.int .i64 0, .int .i64 0, .int .i64 0, .int .i64 0])).run Tryz.prog w = .ok true w := fun w => by rw [ii_arr4, decide_eq_true hn]
      clear hxZ hn
      go_wp2_with fail
      go_ret
      refine ⟨?_, hb⟩
      first | rfl | (simp [*]; done) | (simp; omega)
set_option maxRecDepth 100000 in
set_option maxHeartbeats 8000000 in
theorem shape_2 {W : World} {N : Int} {mod nm : ByteArray} {a4 a5 a6 a7 : Option Addr} {n4 n5 n6 n7 c4 c5 c6 c7 : Nat} {F B C Z : Bool}
  (hF : decide (n4 ≤ 21 ∧ n5 ≤ 21 ∧ n6 ≤ 21 ∧ n7 ≤ 21) = F)
  (hB : Ans Tryz.prog 185 #[.agg #[.int .i64 2, .int .i64 N, .string mod, .string nm, .slice a4 n4 c4, .slice a5 n5 c5, .slice a6 n6 c6, .slice a7 n7 c7], .bool true, .bool false, .bool false] W (.bool B))
  (hC : decide (N = 0 ∨ N = 1) = C)
  (hZ : decide (n4 = 0 ∧ n5 = 0 ∧ n6 = 0 ∧ n7 = 0) = Z)
  : Calls Tryz.prog 121 #[.agg #[.int .i64 2, .int .i64 N, .string mod, .string nm, .slice a4 n4 c4, .slice a5 n5 c5, .slice a6 n6 c6, .slice a7 n7 c7]] W fun e w' => e = .returned (.bool (F && (B && C && Z))) ∧ Blw W.heap.size W w' := by
 refine calls_of_wp Tryz.func121 rfl ?_
 simp only [Tryz.ntmps121, List.size_toArray, List.length_cons, List.length_nil, Nat.reduceAdd, Nat.reduceSub, Array.replicate_succ, Array.replicate_zero, List.push_toArray, List.append_toArray, List.nil_append, List.cons_append]
 go_wp2_with fail
 refine sizes_w.mono ?_
 rintro e w1 ⟨rfl, hb1⟩
 go_wp2_with fail
 refine (max_w (n0 := (n4 : Int)) (n1 := n5) (n2 := n6) (n3 := n7) (cell_new rfl) (cell_new rfl) (cell_new rfl) (cell_new rfl)).mono ?_
 rintro e w2 ⟨⟨r, rfl, hr⟩, hb2⟩
 have hs1 : W.heap.size < w1.heap.size := by have := hb1.size; simp at this; omega
 have hb02 : Blw W.heap.size W w2 := ((((Blw.refl _ W).alloc (Nat.le_refl _) _).trans (hb1.mono (by simp))).alloc (Nat.le_of_lt hs1) _).trans (hb2.mono (by simp; omega))
 have hlt1 : w1.heap.size < w2.heap.size := by have := hb2.size; simp at this; omega
 have hc : ShC W.heap.size w1.heap.size 2 N mod nm (.slice a4 n4 c4) (.slice a5 n5 c5) (.slice a6 n6 c6) (.slice a7 n7 c7) n4 n5 n6 n7 w2 := by
  refine ⟨Nat.lt_trans hs1 hlt1, hlt1, ?_, ?_, ?_, ?_, ?_, ?_, ?_, ?_, hb2.cell (by simp) (cell_new rfl), hb2.cell (by simp) (cell_new rfl), hb2.cell (by simp) (cell_new rfl), hb2.cell (by simp) (cell_new rfl)⟩
  all_goals exact hb2.cell (by simp; omega) ((cell?_alloc_old hs1).trans (hb1.cell (by simp) (cell_new rfl)))
 clear hb1 hb2
 cases F
 case false =>
  have hno := of_decide_eq_false hF
  clear hF
  have hr22 : 21 < r := by
   refine Int.not_le.1 fun h => hno ?_
   have := hr.1 h
   omega
  go_wp2_with fail
  go_ret
  exact ⟨rfl, hb02⟩
 case true =>
  have hfit := of_decide_eq_true hF
  clear hF
  have hr22 : ¬ 21 < r := Int.not_lt.2 (hr.2 (by omega))
  have hcd := hc.dr
  obtain ⟨lb, ls, e0, e1, e2, e3, e4, e5, e6, e7, d0, d1, d2, d3⟩ := hc
  go_wp2_with fail
  go_region_held3 (fun w' => w'.cell? ⟨w1.heap.size, 0, none⟩ = some (.int .i64 n4) ∧ w'.cell? ⟨w1.heap.size, 3, none⟩ = some (.int .i64 n7))
   (exact ⟨d0, d3⟩)
   (fail)
  have hb := blw_dr hb02
  have hc := hcd
  clear hcd
  go_wp2_with fail
  refine (hB _ hb).mono ?_
  rintro e w3 ⟨rfl, hbn⟩
  clear e0 e1 e2 e3 e4 e5 e6 e7 d0 d1 d2 d3
  replace hb := hb.trans (hbn.mono hb.size)
  replace hc := hc.keep hbn
  obtain ⟨lb3, ls3, e0, e1, e2, e3, e4, e5, e6, e7, d0, d1, d2, d3⟩ := id hc
  cases B
  case false =>
   go_wp2_with fail
   go_ret
   refine ⟨?_, hb⟩
   first | rfl | (simp [*]; done) | (simp; omega)
  case true =>
   cases C
   case false =>
    have hxC := of_decide_eq_false hC
    clear hC
    obtain ⟨hx1, hx2⟩ := not_or.1 hxC
    go_wp2_with fail
    go_ret
    refine ⟨?_, hb⟩
    first | rfl | (simp [*]; done) | (simp; omega)
   case true =>
    have hxC := of_decide_eq_true hC
    clear hC
    rcases hxC with rfl | rfl
    all_goals
     cases Z
     case false =>
      have hxZ := of_decide_eq_false hZ
      clear hZ
      have hn : ¬ ((n4 : Int) = 0 ∧ (n5 : Int) = 0 ∧ (n6 : Int) = 0 ∧ (n7 : Int) = 0) := fun h => hxZ (by refine ⟨?_, ?_, ?_, ?_⟩ <;> first | trivial | omega)
      have harr : ∀ w, (Op.equalIn 10000 226 (.agg #[.int .i64 n4, .int .i64 n5, .int .i64 n6, .int .i64 n7]) (.agg #[.int .i64 0, .int .i64 0, .int .i64 0, .int .i64 0])).run Tryz.prog w = .ok false w := fun w => by rw [ii_arr4, decide_eq_false hn]
      clear hxZ hn
      go_wp2_with fail
      go_ret
      refine ⟨?_, hb⟩
      first | rfl | (simp [*]; done) | (simp; omega)
     case true =>
      have hxZ := of_decide_eq_true hZ
      clear hZ
      have hn : (n4 : Int) = 0 ∧ (n5 : Int) = 0 ∧ (n6 : Int) = 0 ∧ (n7 : Int) = 0 := ⟨by omega, by omega, by omega, by omega⟩
      have harr : ∀ w, (Op.equalIn 10000 226 (.agg #[.int .i64 n4, .int .i64 n5, .int .i64 n6, .int .i64 n7]) (.agg #[.int .i64 0, .int .i64 0, .int .i64 0, .int .i64 0])).run Tryz.prog w = .ok true w := fun w => by rw [ii_arr4, decide_eq_true hn]
      clear hxZ hn
      go_wp2_with fail
      go_ret
      refine ⟨?_, hb⟩
      first | rfl | (simp [*]; done) | (simp; omega)
set_option maxRecDepth 100000 in
set_option maxHeartbeats 8000000 in
theorem shape_3 {W : World} {N : Int} {mod nm : ByteArray} {a4 a5 a6 a7 : Option Addr} {n4 n5 n6 n7 c4 c5 c6 c7 : Nat} {F B M Z : Bool}
  (hF : decide (n4 ≤ 21 ∧ n5 ≤ 21 ∧ n6 ≤ 21 ∧ n7 ≤ 21) = F)
  (hB : Ans Tryz.prog 185 #[.agg #[.int .i64 3, .int .i64 N, .string mod, .string nm, .slice a4 n4 c4, .slice a5 n5 c5, .slice a6 n6 c6, .slice a7 n7 c7], .bool false, .bool false, .bool true] W (.bool B))
  (hM : Ans Tryz.prog 186 #[.string nm] W (.bool M))
  (hZ : decide (n4 = 0 ∧ n5 = 0 ∧ n6 = 0 ∧ n7 = 0) = Z)
  : Calls Tryz.prog 121 #[.agg #[.int .i64 3, .int .i64 N, .string mod, .string nm, .slice a4 n4 c4, .slice a5 n5 c5, .slice a6 n6 c6, .slice a7 n7 c7]] W fun e w' => e = .returned (.bool (F && (B && M && Z))) ∧ Blw W.heap.size W w' := by
 refine calls_of_wp Tryz.func121 rfl ?_
 simp only [Tryz.ntmps121, List.size_toArray, List.length_cons, List.length_nil, Nat.reduceAdd, Nat.reduceSub, Array.replicate_succ, Array.replicate_zero, List.push_toArray, List.append_toArray, List.nil_append, List.cons_append]
 go_wp2_with fail
 refine sizes_w.mono ?_
 rintro e w1 ⟨rfl, hb1⟩
 go_wp2_with fail
 refine (max_w (n0 := (n4 : Int)) (n1 := n5) (n2 := n6) (n3 := n7) (cell_new rfl) (cell_new rfl) (cell_new rfl) (cell_new rfl)).mono ?_
 rintro e w2 ⟨⟨r, rfl, hr⟩, hb2⟩
 have hs1 : W.heap.size < w1.heap.size := by have := hb1.size; simp at this; omega
 have hb02 : Blw W.heap.size W w2 := ((((Blw.refl _ W).alloc (Nat.le_refl _) _).trans (hb1.mono (by simp))).alloc (Nat.le_of_lt hs1) _).trans (hb2.mono (by simp; omega))
 have hlt1 : w1.heap.size < w2.heap.size := by have := hb2.size; simp at this; omega
 have hc : ShC W.heap.size w1.heap.size 3 N mod nm (.slice a4 n4 c4) (.slice a5 n5 c5) (.slice a6 n6 c6) (.slice a7 n7 c7) n4 n5 n6 n7 w2 := by
  refine ⟨Nat.lt_trans hs1 hlt1, hlt1, ?_, ?_, ?_, ?_, ?_, ?_, ?_, ?_, hb2.cell (by simp) (cell_new rfl), hb2.cell (by simp) (cell_new rfl), hb2.cell (by simp) (cell_new rfl), hb2.cell (by simp) (cell_new rfl)⟩
  all_goals exact hb2.cell (by simp; omega) ((cell?_alloc_old hs1).trans (hb1.cell (by simp) (cell_new rfl)))
 clear hb1 hb2
 cases F
 case false =>
  have hno := of_decide_eq_false hF
  clear hF
  have hr22 : 21 < r := by
   refine Int.not_le.1 fun h => hno ?_
   have := hr.1 h
   omega
  go_wp2_with fail
  go_ret
  exact ⟨rfl, hb02⟩
 case true =>
  have hfit := of_decide_eq_true hF
  clear hF
  have hr22 : ¬ 21 < r := Int.not_lt.2 (hr.2 (by omega))
  have hcd := hc.dr
  obtain ⟨lb, ls, e0, e1, e2, e3, e4, e5, e6, e7, d0, d1, d2, d3⟩ := hc
  go_wp2_with fail
  go_region_held3 (fun w' => w'.cell? ⟨w1.heap.size, 0, none⟩ = some (.int .i64 n4) ∧ w'.cell? ⟨w1.heap.size, 3, none⟩ = some (.int .i64 n7))
   (exact ⟨d0, d3⟩)
   (fail)
  have hb := blw_dr hb02
  have hc := hcd
  clear hcd
  go_wp2_with fail
  refine (hB _ hb).mono ?_
  rintro e w3 ⟨rfl, hbn⟩
  clear e0 e1 e2 e3 e4 e5 e6 e7 d0 d1 d2 d3
  replace hb := hb.trans (hbn.mono hb.size)
  replace hc := hc.keep hbn
  obtain ⟨lb3, ls3, e0, e1, e2, e3, e4, e5, e6, e7, d0, d1, d2, d3⟩ := id hc
  cases B
  case false =>
   go_wp2_with fail
   go_ret
   refine ⟨?_, hb⟩
   first | rfl | (simp [*]; done) | (simp; omega)
  case true =>
   go_wp2_with fail
   refine (hM _ hb).mono ?_
   rintro e w4 ⟨rfl, hbn⟩
   clear e0 e1 e2 e3 e4 e5 e6 e7 d0 d1 d2 d3
   replace hb := hb.trans (hbn.mono hb.size)
   replace hc := hc.keep hbn
   obtain ⟨lb4, ls4, e0, e1, e2, e3, e4, e5, e6, e7, d0, d1, d2, d3⟩ := id hc
   cases M
   case false =>
    go_wp2_with fail
    go_ret
    refine ⟨?_, hb⟩
    first | rfl | (simp [*]; done) | (simp; omega)
   case true =>
    cases Z
    case false =>
     have hxZ := of_decide_eq_false hZ
     clear hZ
     have hn : ¬ ((n4 : Int) = 0 ∧ (n5 : Int) = 0 ∧ (n6 : Int) = 0 ∧ (n7 : Int) = 0) := fun h => hxZ (by refine ⟨?_, ?_, ?_, ?_⟩ <;> first | trivial | omega)
     have harr : ∀ w, (Op.equalIn 10000 226 (.agg #[.int .i64 n4, .int .i64 n5, .int .i64 n6, .int .i64 n7]) (.agg #[.int .i64 0, .int .i64 0, .int .i64 0, .int .i64 0])).run Tryz.prog w = .ok false w := fun w => by rw [ii_arr4, decide_eq_false hn]
     clear hxZ hn
     go_wp2_with fail
     go_ret
     refine ⟨?_, hb⟩
     first | rfl | (simp [*]; done) | (simp; omega)
    case true =>
     have hxZ := of_decide_eq_true hZ
     clear hZ
     have hn : (n4 : Int) = 0 ∧ (n5 : Int) = 0 ∧ (n6 : Int) = 0 ∧ (n7 : Int) = 0 := ⟨by omega, by omega, by omega, by omega⟩
     have harr : ∀ w, (Op.equalIn 10000 226 (.agg #[.int .i64 n4, .int .i64 n5, .int .i64 n6, .int .i64 n7]) (.agg #[.int .i64 0, .int .i64 0, .int .i64 0, .int .i64 0])).run Tryz.prog w = .ok true w := fun w => by rw [ii_arr4, decide_eq_true hn]
     clear hxZ hn
     go_wp2_with fail
     go_ret
     refine ⟨?_, hb⟩
     first | rfl | (simp [*]; done) | (simp; omega)
set_option maxRecDepth 100000 in
set_option maxHeartbeats 8000000 in
theorem shape_4 {W : World} {N : Int} {mod nm : ByteArray} {a4 a5 a6 a7 : Option Addr} {n4 n5 n6 n7 c4 c5 c6 c7 : Nat} {F B M M2 Z : Bool}
  (hF : decide (n4 ≤ 21 ∧ n5 ≤ 21 ∧ n6 ≤ 21 ∧ n7 ≤ 21) = F)
  (hB : Ans Tryz.prog 185 #[.agg #[.int .i64 4, .int .i64 N, .string mod, .string nm, .slice a4 n4 c4, .slice a5 n5 c5, .slice a6 n6 c6, .slice a7 n7 c7], .bool false, .bool true, .bool true] W (.bool B))
  (hM : Ans Tryz.prog 186 #[.string mod] W (.bool M))
  (hM2 : Ans Tryz.prog 186 #[.string nm] W (.bool M2))
  (hZ : decide (n4 = 0 ∧ n5 = 0 ∧ n6 = 0 ∧ n7 = 0) = Z)
  : Calls Tryz.prog 121 #[.agg #[.int .i64 4, .int .i64 N, .string mod, .string nm, .slice a4 n4 c4, .slice a5 n5 c5, .slice a6 n6 c6, .slice a7 n7 c7]] W fun e w' => e = .returned (.bool (F && (B && M && M2 && Z))) ∧ Blw W.heap.size W w' := by
 refine calls_of_wp Tryz.func121 rfl ?_
 simp only [Tryz.ntmps121, List.size_toArray, List.length_cons, List.length_nil, Nat.reduceAdd, Nat.reduceSub, Array.replicate_succ, Array.replicate_zero, List.push_toArray, List.append_toArray, List.nil_append, List.cons_append]
 go_wp2_with fail
 refine sizes_w.mono ?_
 rintro e w1 ⟨rfl, hb1⟩
 go_wp2_with fail
 refine (max_w (n0 := (n4 : Int)) (n1 := n5) (n2 := n6) (n3 := n7) (cell_new rfl) (cell_new rfl) (cell_new rfl) (cell_new rfl)).mono ?_
 rintro e w2 ⟨⟨r, rfl, hr⟩, hb2⟩
 have hs1 : W.heap.size < w1.heap.size := by have := hb1.size; simp at this; omega
 have hb02 : Blw W.heap.size W w2 := ((((Blw.refl _ W).alloc (Nat.le_refl _) _).trans (hb1.mono (by simp))).alloc (Nat.le_of_lt hs1) _).trans (hb2.mono (by simp; omega))
 have hlt1 : w1.heap.size < w2.heap.size := by have := hb2.size; simp at this; omega
 have hc : ShC W.heap.size w1.heap.size 4 N mod nm (.slice a4 n4 c4) (.slice a5 n5 c5) (.slice a6 n6 c6) (.slice a7 n7 c7) n4 n5 n6 n7 w2 := by
  refine ⟨Nat.lt_trans hs1 hlt1, hlt1, ?_, ?_, ?_, ?_, ?_, ?_, ?_, ?_, hb2.cell (by simp) (cell_new rfl), hb2.cell (by simp) (cell_new rfl), hb2.cell (by simp) (cell_new rfl), hb2.cell (by simp) (cell_new rfl)⟩
  all_goals exact hb2.cell (by simp; omega) ((cell?_alloc_old hs1).trans (hb1.cell (by simp) (cell_new rfl)))
 clear hb1 hb2
 cases F
 case false =>
  have hno := of_decide_eq_false hF
  clear hF
  have hr22 : 21 < r := by
   refine Int.not_le.1 fun h => hno ?_
   have := hr.1 h
   omega
  go_wp2_with fail
  go_ret
  exact ⟨rfl, hb02⟩
 case true =>
  have hfit := of_decide_eq_true hF
  clear hF
  have hr22 : ¬ 21 < r := Int.not_lt.2 (hr.2 (by omega))
  have hcd := hc.dr
  obtain ⟨lb, ls, e0, e1, e2, e3, e4, e5, e6, e7, d0, d1, d2, d3⟩ := hc
  go_wp2_with fail
  go_region_held3 (fun w' => w'.cell? ⟨w1.heap.size, 0, none⟩ = some (.int .i64 n4) ∧ w'.cell? ⟨w1.heap.size, 3, none⟩ = some (.int .i64 n7))
   (exact ⟨d0, d3⟩)
   (fail)
  have hb := blw_dr hb02
  have hc := hcd
  clear hcd
  go_wp2_with fail
  refine (hB _ hb).mono ?_
  rintro e w3 ⟨rfl, hbn⟩
  clear e0 e1 e2 e3 e4 e5 e6 e7 d0 d1 d2 d3
  replace hb := hb.trans (hbn.mono hb.size)
  replace hc := hc.keep hbn
  obtain ⟨lb3, ls3, e0, e1, e2, e3, e4, e5, e6, e7, d0, d1, d2, d3⟩ := id hc
  cases B
  case false =>
   go_wp2_with fail
   go_ret
   refine ⟨?_, hb⟩
   first | rfl | (simp [*]; done) | (simp; omega)
  case true =>
   go_wp2_with fail
   refine (hM _ hb).mono ?_
   rintro e w4 ⟨rfl, hbn⟩
   clear e0 e1 e2 e3 e4 e5 e6 e7 d0 d1 d2 d3
   replace hb := hb.trans (hbn.mono hb.size)
   replace hc := hc.keep hbn
   obtain ⟨lb4, ls4, e0, e1, e2, e3, e4, e5, e6, e7, d0, d1, d2, d3⟩ := id hc
   cases M
   case false =>
    go_wp2_with fail
    go_ret
    refine ⟨?_, hb⟩
    first | rfl | (simp [*]; done) | (simp; omega)
   case true =>
    go_wp2_with fail
    refine (hM2 _ hb).mono ?_
    rintro e w5 ⟨rfl, hbn⟩
    clear e0 e1 e2 e3 e4 e5 e6 e7 d0 d1 d2 d3
    replace hb := hb.trans (hbn.mono hb.size)
    replace hc := hc.keep hbn
    obtain ⟨lb5, ls5, e0, e1, e2, e3, e4, e5, e6, e7, d0, d1, d2, d3⟩ := id hc
    cases M2
    case false =>
     go_wp2_with fail
     go_ret
     refine ⟨?_, hb⟩
     first | rfl | (simp [*]; done) | (simp; omega)
    case true =>
     cases Z
     case false =>
      have hxZ := of_decide_eq_false hZ
      clear hZ
      have hn : ¬ ((n4 : Int) = 0 ∧ (n5 : Int) = 0 ∧ (n6 : Int) = 0 ∧ (n7 : Int) = 0) := fun h => hxZ (by refine ⟨?_, ?_, ?_, ?_⟩ <;> first | trivial | omega)
      have harr : ∀ w, (Op.equalIn 10000 226 (.agg #[.int .i64 n4, .int .i64 n5, .int .i64 n6, .int .i64 n7]) (.agg #[.int .i64 0, .int .i64 0, .int .i64 0, .int .i64 0])).run Tryz.prog w = .ok false w := fun w => by rw [ii_arr4, decide_eq_false hn]
      clear hxZ hn
      go_wp2_with fail
      go_ret
      refine ⟨?_, hb⟩
      first | rfl | (simp [*]; done) | (simp; omega)
     case true =>
      have hxZ := of_decide_eq_true hZ
      clear hZ
      have hn : (n4 : Int) = 0 ∧ (n5 : Int) = 0 ∧ (n6 : Int) = 0 ∧ (n7 : Int) = 0 := ⟨by omega, by omega, by omega, by omega⟩
      have harr : ∀ w, (Op.equalIn 10000 226 (.agg #[.int .i64 n4, .int .i64 n5, .int .i64 n6, .int .i64 n7]) (.agg #[.int .i64 0, .int .i64 0, .int .i64 0, .int .i64 0])).run Tryz.prog w = .ok true w := fun w => by rw [ii_arr4, decide_eq_true hn]
      clear hxZ hn
      go_wp2_with fail
      go_ret
      refine ⟨?_, hb⟩
      first | rfl | (simp [*]; done) | (simp; omega)
set_option maxRecDepth 100000 in
set_option maxHeartbeats 8000000 in
theorem shape_5 {W : World} {N : Int} {mod nm : ByteArray} {a4 a5 a6 a7 : Option Addr} {n4 n5 n6 n7 c4 c5 c6 c7 : Nat} {F B Z R : Bool}
  (hF : decide (n4 ≤ 21 ∧ n5 ≤ 21 ∧ n6 ≤ 21 ∧ n7 ≤ 21) = F)
  (hB : Ans Tryz.prog 185 #[.agg #[.int .i64 5, .int .i64 N, .string mod, .string nm, .slice a4 n4 c4, .slice a5 n5 c5, .slice a6 n6 c6, .slice a7 n7 c7], .bool false, .bool false, .bool false] W (.bool B))
  (hZ : decide (n4 = n4 ∧ n5 = 0 ∧ n6 = 0 ∧ n7 = n4) = Z)
  (hR : Ans Tryz.prog 187 #[.slice a4 n4 c4, .func (.func 186) #[] #[]] W (.bool R))
  : Calls Tryz.prog 121 #[.agg #[.int .i64 5, .int .i64 N, .string mod, .string nm, .slice a4 n4 c4, .slice a5 n5 c5, .slice a6 n6 c6, .slice a7 n7 c7]] W fun e w' => e = .returned (.bool (F && (B && Z && R))) ∧ Blw W.heap.size W w' := by
 refine calls_of_wp Tryz.func121 rfl ?_
 simp only [Tryz.ntmps121, List.size_toArray, List.length_cons, List.length_nil, Nat.reduceAdd, Nat.reduceSub, Array.replicate_succ, Array.replicate_zero, List.push_toArray, List.append_toArray, List.nil_append, List.cons_append]
 go_wp2_with fail
 refine sizes_w.mono ?_
 rintro e w1 ⟨rfl, hb1⟩
 go_wp2_with fail
 refine (max_w (n0 := (n4 : Int)) (n1 := n5) (n2 := n6) (n3 := n7) (cell_new rfl) (cell_new rfl) (cell_new rfl) (cell_new rfl)).mono ?_
 rintro e w2 ⟨⟨r, rfl, hr⟩, hb2⟩
 have hs1 : W.heap.size < w1.heap.size := by have := hb1.size; simp at this; omega
 have hb02 : Blw W.heap.size W w2 := ((((Blw.refl _ W).alloc (Nat.le_refl _) _).trans (hb1.mono (by simp))).alloc (Nat.le_of_lt hs1) _).trans (hb2.mono (by simp; omega))
 have hlt1 : w1.heap.size < w2.heap.size := by have := hb2.size; simp at this; omega
 have hc : ShC W.heap.size w1.heap.size 5 N mod nm (.slice a4 n4 c4) (.slice a5 n5 c5) (.slice a6 n6 c6) (.slice a7 n7 c7) n4 n5 n6 n7 w2 := by
  refine ⟨Nat.lt_trans hs1 hlt1, hlt1, ?_, ?_, ?_, ?_, ?_, ?_, ?_, ?_, hb2.cell (by simp) (cell_new rfl), hb2.cell (by simp) (cell_new rfl), hb2.cell (by simp) (cell_new rfl), hb2.cell (by simp) (cell_new rfl)⟩
  all_goals exact hb2.cell (by simp; omega) ((cell?_alloc_old hs1).trans (hb1.cell (by simp) (cell_new rfl)))
 clear hb1 hb2
 cases F
 case false =>
  have hno := of_decide_eq_false hF
  clear hF
  have hr22 : 21 < r := by
   refine Int.not_le.1 fun h => hno ?_
   have := hr.1 h
   omega
  go_wp2_with fail
  go_ret
  exact ⟨rfl, hb02⟩
 case true =>
  have hfit := of_decide_eq_true hF
  clear hF
  have hr22 : ¬ 21 < r := Int.not_lt.2 (hr.2 (by omega))
  have hcd := hc.dr
  obtain ⟨lb, ls, e0, e1, e2, e3, e4, e5, e6, e7, d0, d1, d2, d3⟩ := hc
  go_wp2_with fail
  go_region_held3 (fun w' => w'.cell? ⟨w1.heap.size, 0, none⟩ = some (.int .i64 n4) ∧ w'.cell? ⟨w1.heap.size, 3, none⟩ = some (.int .i64 n7))
   (exact ⟨d0, d3⟩)
   (fail)
  have hb := blw_dr hb02
  have hc := hcd
  clear hcd
  go_wp2_with fail
  refine (hB _ hb).mono ?_
  rintro e w3 ⟨rfl, hbn⟩
  clear e0 e1 e2 e3 e4 e5 e6 e7 d0 d1 d2 d3
  replace hb := hb.trans (hbn.mono hb.size)
  replace hc := hc.keep hbn
  obtain ⟨lb3, ls3, e0, e1, e2, e3, e4, e5, e6, e7, d0, d1, d2, d3⟩ := id hc
  cases B
  case false =>
   go_wp2_with fail
   go_ret
   refine ⟨?_, hb⟩
   first | rfl | (simp [*]; done) | (simp; omega)
  case true =>
   cases Z
   case false =>
    have hxZ := of_decide_eq_false hZ
    clear hZ
    have hn : ¬ ((n4 : Int) = (n4 : Int) ∧ (n5 : Int) = 0 ∧ (n6 : Int) = 0 ∧ (n7 : Int) = (n4 : Int)) := fun h => hxZ (by refine ⟨?_, ?_, ?_, ?_⟩ <;> first | trivial | omega)
    have harr : ∀ w, (Op.equalIn 10000 226 (.agg #[.int .i64 n4, .int .i64 n5, .int .i64 n6, .int .i64 n7]) (.agg #[.int .i64 n4, .int .i64 0, .int .i64 0, .int .i64 n4])).run Tryz.prog w = .ok false w := fun w => by rw [ii_arr4, decide_eq_false hn]
    clear hxZ hn
    go_wp2_with fail
    go_ret
    refine ⟨?_, hb⟩
    first | rfl | (simp [*]; done) | (simp; omega)
   case true =>
    have hxZ := of_decide_eq_true hZ
    clear hZ
    have hn : (n4 : Int) = (n4 : Int) ∧ (n5 : Int) = 0 ∧ (n6 : Int) = 0 ∧ (n7 : Int) = (n4 : Int) := ⟨by omega, by omega, by omega, by omega⟩
    have harr : ∀ w, (Op.equalIn 10000 226 (.agg #[.int .i64 n4, .int .i64 n5, .int .i64 n6, .int .i64 n7]) (.agg #[.int .i64 n4, .int .i64 0, .int .i64 0, .int .i64 n4])).run Tryz.prog w = .ok true w := fun w => by rw [ii_arr4, decide_eq_true hn]
    clear hxZ hn
    go_wp2_with fail
    refine (hR _ hb).mono ?_
    rintro e w4 ⟨rfl, hbn⟩
    clear e0 e1 e2 e3 e4 e5 e6 e7 d0 d1 d2 d3
    replace hb := hb.trans (hbn.mono hb.size)
    replace hc := hc.keep hbn
    obtain ⟨lb4, ls4, e0, e1, e2, e3, e4, e5, e6, e7, d0, d1, d2, d3⟩ := id hc
    cases R
    case false =>
     go_wp2_with fail
     go_ret
     refine ⟨?_, hb⟩
     first | rfl | (simp [*]; done) | (simp; omega)
    case true =>
     go_wp2_with fail
     go_ret
     refine ⟨?_, hb⟩
     first | rfl | (simp [*]; done) | (simp; omega)
set_option maxRecDepth 100000 in
set_option maxHeartbeats 8000000 in
theorem shape_6 {W : World} {N : Int} {mod nm : ByteArray} {a4 a5 a6 a7 : Option Addr} {n4 n5 n6 n7 c4 c5 c6 c7 : Nat} {F B Z M : Bool}
  (hF : decide (n4 ≤ 21 ∧ n5 ≤ 21 ∧ n6 ≤ 21 ∧ n7 ≤ 21) = F)
  (hB : Ans Tryz.prog 185 #[.agg #[.int .i64 6, .int .i64 N, .string mod, .string nm, .slice a4 n4 c4, .slice a5 n5 c5, .slice a6 n6 c6, .slice a7 n7 c7], .bool false, .bool false, .bool true] W (.bool B))
  (hZ : decide (n4 = 0 ∧ n5 = 0 ∧ n6 = 0 ∧ n7 = 1) = Z)
  (hM : Ans Tryz.prog 186 #[.string nm] W (.bool M))
  : Calls Tryz.prog 121 #[.agg #[.int .i64 6, .int .i64 N, .string mod, .string nm, .slice a4 n4 c4, .slice a5 n5 c5, .slice a6 n6 c6, .slice a7 n7 c7]] W fun e w' => e = .returned (.bool (F && (B && Z && M))) ∧ Blw W.heap.size W w' := by
 refine calls_of_wp Tryz.func121 rfl ?_
 simp only [Tryz.ntmps121, List.size_toArray, List.length_cons, List.length_nil, Nat.reduceAdd, Nat.reduceSub, Array.replicate_succ, Array.replicate_zero, List.push_toArray, List.append_toArray, List.nil_append, List.cons_append]
 go_wp2_with fail
 refine sizes_w.mono ?_
 rintro e w1 ⟨rfl, hb1⟩
 go_wp2_with fail
 refine (max_w (n0 := (n4 : Int)) (n1 := n5) (n2 := n6) (n3 := n7) (cell_new rfl) (cell_new rfl) (cell_new rfl) (cell_new rfl)).mono ?_
 rintro e w2 ⟨⟨r, rfl, hr⟩, hb2⟩
 have hs1 : W.heap.size < w1.heap.size := by have := hb1.size; simp at this; omega
 have hb02 : Blw W.heap.size W w2 := ((((Blw.refl _ W).alloc (Nat.le_refl _) _).trans (hb1.mono (by simp))).alloc (Nat.le_of_lt hs1) _).trans (hb2.mono (by simp; omega))
 have hlt1 : w1.heap.size < w2.heap.size := by have := hb2.size; simp at this; omega
 have hc : ShC W.heap.size w1.heap.size 6 N mod nm (.slice a4 n4 c4) (.slice a5 n5 c5) (.slice a6 n6 c6) (.slice a7 n7 c7) n4 n5 n6 n7 w2 := by
  refine ⟨Nat.lt_trans hs1 hlt1, hlt1, ?_, ?_, ?_, ?_, ?_, ?_, ?_, ?_, hb2.cell (by simp) (cell_new rfl), hb2.cell (by simp) (cell_new rfl), hb2.cell (by simp) (cell_new rfl), hb2.cell (by simp) (cell_new rfl)⟩
  all_goals exact hb2.cell (by simp; omega) ((cell?_alloc_old hs1).trans (hb1.cell (by simp) (cell_new rfl)))
 clear hb1 hb2
 cases F
 case false =>
  have hno := of_decide_eq_false hF
  clear hF
  have hr22 : 21 < r := by
   refine Int.not_le.1 fun h => hno ?_
   have := hr.1 h
   omega
  go_wp2_with fail
  go_ret
  exact ⟨rfl, hb02⟩
 case true =>
  have hfit := of_decide_eq_true hF
  clear hF
  have hr22 : ¬ 21 < r := Int.not_lt.2 (hr.2 (by omega))
  have hcd := hc.dr
  obtain ⟨lb, ls, e0, e1, e2, e3, e4, e5, e6, e7, d0, d1, d2, d3⟩ := hc
  go_wp2_with fail
  go_region_held3 (fun w' => w'.cell? ⟨w1.heap.size, 0, none⟩ = some (.int .i64 n4) ∧ w'.cell? ⟨w1.heap.size, 3, none⟩ = some (.int .i64 n7))
   (exact ⟨d0, d3⟩)
   (fail)
  have hb := blw_dr hb02
  have hc := hcd
  clear hcd
  go_wp2_with fail
  refine (hB _ hb).mono ?_
  rintro e w3 ⟨rfl, hbn⟩
  clear e0 e1 e2 e3 e4 e5 e6 e7 d0 d1 d2 d3
  replace hb := hb.trans (hbn.mono hb.size)
  replace hc := hc.keep hbn
  obtain ⟨lb3, ls3, e0, e1, e2, e3, e4, e5, e6, e7, d0, d1, d2, d3⟩ := id hc
  cases B
  case false =>
   go_wp2_with fail
   go_ret
   refine ⟨?_, hb⟩
   first | rfl | (simp [*]; done) | (simp; omega)
  case true =>
   cases Z
   case false =>
    have hxZ := of_decide_eq_false hZ
    clear hZ
    have hn : ¬ ((n4 : Int) = 0 ∧ (n5 : Int) = 0 ∧ (n6 : Int) = 0 ∧ (n7 : Int) = 1) := fun h => hxZ (by refine ⟨?_, ?_, ?_, ?_⟩ <;> first | trivial | omega)
    have harr : ∀ w, (Op.equalIn 10000 226 (.agg #[.int .i64 n4, .int .i64 n5, .int .i64 n6, .int .i64 n7]) (.agg #[.int .i64 0, .int .i64 0, .int .i64 0, .int .i64 1])).run Tryz.prog w = .ok false w := fun w => by rw [ii_arr4, decide_eq_false hn]
    clear hxZ hn
    go_wp2_with fail
    go_ret
    refine ⟨?_, hb⟩
    first | rfl | (simp [*]; done) | (simp; omega)
   case true =>
    have hxZ := of_decide_eq_true hZ
    clear hZ
    have hn : (n4 : Int) = 0 ∧ (n5 : Int) = 0 ∧ (n6 : Int) = 0 ∧ (n7 : Int) = 1 := ⟨by omega, by omega, by omega, by omega⟩
    have harr : ∀ w, (Op.equalIn 10000 226 (.agg #[.int .i64 n4, .int .i64 n5, .int .i64 n6, .int .i64 n7]) (.agg #[.int .i64 0, .int .i64 0, .int .i64 0, .int .i64 1])).run Tryz.prog w = .ok true w := fun w => by rw [ii_arr4, decide_eq_true hn]
    clear hxZ hn
    go_wp2_with fail
    refine (hM _ hb).mono ?_
    rintro e w4 ⟨rfl, hbn⟩
    clear e0 e1 e2 e3 e4 e5 e6 e7 d0 d1 d2 d3
    replace hb := hb.trans (hbn.mono hb.size)
    replace hc := hc.keep hbn
    obtain ⟨lb4, ls4, e0, e1, e2, e3, e4, e5, e6, e7, d0, d1, d2, d3⟩ := id hc
    cases M
    case false =>
     go_wp2_with fail
     go_ret
     refine ⟨?_, hb⟩
     first | rfl | (simp [*]; done) | (simp; omega)
    case true =>
     go_wp2_with fail
     go_ret
     refine ⟨?_, hb⟩
     first | rfl | (simp [*]; done) | (simp; omega)
set_option maxRecDepth 100000 in
set_option maxHeartbeats 8000000 in
theorem shape_7 {W : World} {N : Int} {mod nm : ByteArray} {a4 a5 a6 a7 : Option Addr} {n4 n5 n6 n7 c4 c5 c6 c7 : Nat} {F B Z G : Bool}
  (hF : decide (n4 ≤ 21 ∧ n5 ≤ 21 ∧ n6 ≤ 21 ∧ n7 ≤ 21) = F)
  (hB : Ans Tryz.prog 185 #[.agg #[.int .i64 7, .int .i64 N, .string mod, .string nm, .slice a4 n4 c4, .slice a5 n5 c5, .slice a6 n6 c6, .slice a7 n7 c7], .bool false, .bool false, .bool true] W (.bool B))
  (hZ : decide (n4 = 0 ∧ n5 = 0 ∧ n6 = 0 ∧ n7 = 1) = Z)
  (hG : Ans Tryz.prog 188 #[.string nm] W (.bool G))
  : Calls Tryz.prog 121 #[.agg #[.int .i64 7, .int .i64 N, .string mod, .string nm, .slice a4 n4 c4, .slice a5 n5 c5, .slice a6 n6 c6, .slice a7 n7 c7]] W fun e w' => e = .returned (.bool (F && (B && Z && G))) ∧ Blw W.heap.size W w' := by
 refine calls_of_wp Tryz.func121 rfl ?_
 simp only [Tryz.ntmps121, List.size_toArray, List.length_cons, List.length_nil, Nat.reduceAdd, Nat.reduceSub, Array.replicate_succ, Array.replicate_zero, List.push_toArray, List.append_toArray, List.nil_append, List.cons_append]
 go_wp2_with fail
 refine sizes_w.mono ?_
 rintro e w1 ⟨rfl, hb1⟩
 go_wp2_with fail
 refine (max_w (n0 := (n4 : Int)) (n1 := n5) (n2 := n6) (n3 := n7) (cell_new rfl) (cell_new rfl) (cell_new rfl) (cell_new rfl)).mono ?_
 rintro e w2 ⟨⟨r, rfl, hr⟩, hb2⟩
 have hs1 : W.heap.size < w1.heap.size := by have := hb1.size; simp at this; omega
 have hb02 : Blw W.heap.size W w2 := ((((Blw.refl _ W).alloc (Nat.le_refl _) _).trans (hb1.mono (by simp))).alloc (Nat.le_of_lt hs1) _).trans (hb2.mono (by simp; omega))
 have hlt1 : w1.heap.size < w2.heap.size := by have := hb2.size; simp at this; omega
 have hc : ShC W.heap.size w1.heap.size 7 N mod nm (.slice a4 n4 c4) (.slice a5 n5 c5) (.slice a6 n6 c6) (.slice a7 n7 c7) n4 n5 n6 n7 w2 := by
  refine ⟨Nat.lt_trans hs1 hlt1, hlt1, ?_, ?_, ?_, ?_, ?_, ?_, ?_, ?_, hb2.cell (by simp) (cell_new rfl), hb2.cell (by simp) (cell_new rfl), hb2.cell (by simp) (cell_new rfl), hb2.cell (by simp) (cell_new rfl)⟩
  all_goals exact hb2.cell (by simp; omega) ((cell?_alloc_old hs1).trans (hb1.cell (by simp) (cell_new rfl)))
 clear hb1 hb2
 cases F
 case false =>
  have hno := of_decide_eq_false hF
  clear hF
  have hr22 : 21 < r := by
   refine Int.not_le.1 fun h => hno ?_
   have := hr.1 h
   omega
  go_wp2_with fail
  go_ret
  exact ⟨rfl, hb02⟩
 case true =>
  have hfit := of_decide_eq_true hF
  clear hF
  have hr22 : ¬ 21 < r := Int.not_lt.2 (hr.2 (by omega))
  have hcd := hc.dr
  obtain ⟨lb, ls, e0, e1, e2, e3, e4, e5, e6, e7, d0, d1, d2, d3⟩ := hc
  go_wp2_with fail
  go_region_held3 (fun w' => w'.cell? ⟨w1.heap.size, 0, none⟩ = some (.int .i64 n4) ∧ w'.cell? ⟨w1.heap.size, 3, none⟩ = some (.int .i64 n7))
   (exact ⟨d0, d3⟩)
   (fail)
  have hb := blw_dr hb02
  have hc := hcd
  clear hcd
  go_wp2_with fail
  refine (hB _ hb).mono ?_
  rintro e w3 ⟨rfl, hbn⟩
  clear e0 e1 e2 e3 e4 e5 e6 e7 d0 d1 d2 d3
  replace hb := hb.trans (hbn.mono hb.size)
  replace hc := hc.keep hbn
  obtain ⟨lb3, ls3, e0, e1, e2, e3, e4, e5, e6, e7, d0, d1, d2, d3⟩ := id hc
  cases B
  case false =>
   go_wp2_with fail
   go_ret
   refine ⟨?_, hb⟩
   first | rfl | (simp [*]; done) | (simp; omega)
  case true =>
   cases Z
   case false =>
    have hxZ := of_decide_eq_false hZ
    clear hZ
    have hn : ¬ ((n4 : Int) = 0 ∧ (n5 : Int) = 0 ∧ (n6 : Int) = 0 ∧ (n7 : Int) = 1) := fun h => hxZ (by refine ⟨?_, ?_, ?_, ?_⟩ <;> first | trivial | omega)
    have harr : ∀ w, (Op.equalIn 10000 226 (.agg #[.int .i64 n4, .int .i64 n5, .int .i64 n6, .int .i64 n7]) (.agg #[.int .i64 0, .int .i64 0, .int .i64 0, .int .i64 1])).run Tryz.prog w = .ok false w := fun w => by rw [ii_arr4, decide_eq_false hn]
    clear hxZ hn
    go_wp2_with fail
    go_ret
    refine ⟨?_, hb⟩
    first | rfl | (simp [*]; done) | (simp; omega)
   case true =>
    have hxZ := of_decide_eq_true hZ
    clear hZ
    have hn : (n4 : Int) = 0 ∧ (n5 : Int) = 0 ∧ (n6 : Int) = 0 ∧ (n7 : Int) = 1 := ⟨by omega, by omega, by omega, by omega⟩
    have harr : ∀ w, (Op.equalIn 10000 226 (.agg #[.int .i64 n4, .int .i64 n5, .int .i64 n6, .int .i64 n7]) (.agg #[.int .i64 0, .int .i64 0, .int .i64 0, .int .i64 1])).run Tryz.prog w = .ok true w := fun w => by rw [ii_arr4, decide_eq_true hn]
    clear hxZ hn
    go_wp2_with fail
    refine (hG _ hb).mono ?_
    rintro e w4 ⟨rfl, hbn⟩
    clear e0 e1 e2 e3 e4 e5 e6 e7 d0 d1 d2 d3
    replace hb := hb.trans (hbn.mono hb.size)
    replace hc := hc.keep hbn
    obtain ⟨lb4, ls4, e0, e1, e2, e3, e4, e5, e6, e7, d0, d1, d2, d3⟩ := id hc
    cases G
    case false =>
     go_wp2_with fail
     go_ret
     refine ⟨?_, hb⟩
     first | rfl | (simp [*]; done) | (simp; omega)
    case true =>
     go_wp2_with fail
     go_ret
     refine ⟨?_, hb⟩
     first | rfl | (simp [*]; done) | (simp; omega)
set_option maxRecDepth 100000 in
set_option maxHeartbeats 8000000 in
theorem shape_8 {W : World} {N : Int} {mod nm : ByteArray} {a4 a5 a6 a7 : Option Addr} {n4 n5 n6 n7 c4 c5 c6 c7 : Nat} {F B Z D Y : Bool}
  (hF : decide (n4 ≤ 21 ∧ n5 ≤ 21 ∧ n6 ≤ 21 ∧ n7 ≤ 21) = F)
  (hB : Ans Tryz.prog 185 #[.agg #[.int .i64 8, .int .i64 N, .string mod, .string nm, .slice a4 n4 c4, .slice a5 n5 c5, .slice a6 n6 c6, .slice a7 n7 c7], .bool false, .bool false, .bool false] W (.bool B))
  (hZ : decide (n4 = n4 ∧ n5 = 0 ∧ n6 = n4 ∧ n7 = 1) = Z)
  (hD : Ans Tryz.prog 189 #[.slice a4 n4 c4] W (.bool D))
  (hY : Ans Tryz.prog 83 #[.slice a6 n6 c6, .func (.func 190) #[] #[]] W (.bool Y))
  : Calls Tryz.prog 121 #[.agg #[.int .i64 8, .int .i64 N, .string mod, .string nm, .slice a4 n4 c4, .slice a5 n5 c5, .slice a6 n6 c6, .slice a7 n7 c7]] W fun e w' => e = .returned (.bool (F && (B && Z && D && !Y))) ∧ Blw W.heap.size W w' := by
 refine calls_of_wp Tryz.func121 rfl ?_
 simp only [Tryz.ntmps121, List.size_toArray, List.length_cons, List.length_nil, Nat.reduceAdd, Nat.reduceSub, Array.replicate_succ, Array.replicate_zero, List.push_toArray, List.append_toArray, List.nil_append, List.cons_append]
 go_wp2_with fail
 refine sizes_w.mono ?_
 rintro e w1 ⟨rfl, hb1⟩
 go_wp2_with fail
 refine (max_w (n0 := (n4 : Int)) (n1 := n5) (n2 := n6) (n3 := n7) (cell_new rfl) (cell_new rfl) (cell_new rfl) (cell_new rfl)).mono ?_
 rintro e w2 ⟨⟨r, rfl, hr⟩, hb2⟩
 have hs1 : W.heap.size < w1.heap.size := by have := hb1.size; simp at this; omega
 have hb02 : Blw W.heap.size W w2 := ((((Blw.refl _ W).alloc (Nat.le_refl _) _).trans (hb1.mono (by simp))).alloc (Nat.le_of_lt hs1) _).trans (hb2.mono (by simp; omega))
 have hlt1 : w1.heap.size < w2.heap.size := by have := hb2.size; simp at this; omega
 have hc : ShC W.heap.size w1.heap.size 8 N mod nm (.slice a4 n4 c4) (.slice a5 n5 c5) (.slice a6 n6 c6) (.slice a7 n7 c7) n4 n5 n6 n7 w2 := by
  refine ⟨Nat.lt_trans hs1 hlt1, hlt1, ?_, ?_, ?_, ?_, ?_, ?_, ?_, ?_, hb2.cell (by simp) (cell_new rfl), hb2.cell (by simp) (cell_new rfl), hb2.cell (by simp) (cell_new rfl), hb2.cell (by simp) (cell_new rfl)⟩
  all_goals exact hb2.cell (by simp; omega) ((cell?_alloc_old hs1).trans (hb1.cell (by simp) (cell_new rfl)))
 clear hb1 hb2
 cases F
 case false =>
  have hno := of_decide_eq_false hF
  clear hF
  have hr22 : 21 < r := by
   refine Int.not_le.1 fun h => hno ?_
   have := hr.1 h
   omega
  go_wp2_with fail
  go_ret
  exact ⟨rfl, hb02⟩
 case true =>
  have hfit := of_decide_eq_true hF
  clear hF
  have hr22 : ¬ 21 < r := Int.not_lt.2 (hr.2 (by omega))
  have hcd := hc.dr
  obtain ⟨lb, ls, e0, e1, e2, e3, e4, e5, e6, e7, d0, d1, d2, d3⟩ := hc
  go_wp2_with fail
  go_region_held3 (fun w' => w'.cell? ⟨w1.heap.size, 0, none⟩ = some (.int .i64 n4) ∧ w'.cell? ⟨w1.heap.size, 3, none⟩ = some (.int .i64 n7))
   (exact ⟨d0, d3⟩)
   (fail)
  have hb := blw_dr hb02
  have hc := hcd
  clear hcd
  go_wp2_with fail
  refine (hB _ hb).mono ?_
  rintro e w3 ⟨rfl, hbn⟩
  clear e0 e1 e2 e3 e4 e5 e6 e7 d0 d1 d2 d3
  replace hb := hb.trans (hbn.mono hb.size)
  replace hc := hc.keep hbn
  obtain ⟨lb3, ls3, e0, e1, e2, e3, e4, e5, e6, e7, d0, d1, d2, d3⟩ := id hc
  cases B
  case false =>
   go_wp2_with fail
   go_ret
   refine ⟨?_, hb⟩
   first | rfl | (simp [*]; done) | (simp; omega)
  case true =>
   cases Z
   case false =>
    have hxZ := of_decide_eq_false hZ
    clear hZ
    have hn : ¬ ((n4 : Int) = (n4 : Int) ∧ (n5 : Int) = 0 ∧ (n6 : Int) = (n4 : Int) ∧ (n7 : Int) = 1) := fun h => hxZ (by refine ⟨?_, ?_, ?_, ?_⟩ <;> first | trivial | omega)
    have harr : ∀ w, (Op.equalIn 10000 226 (.agg #[.int .i64 n4, .int .i64 n5, .int .i64 n6, .int .i64 n7]) (.agg #[.int .i64 n4, .int .i64 0, .int .i64 n4, .int .i64 1])).run Tryz.prog w = .ok false w := fun w => by rw [ii_arr4, decide_eq_false hn]
    clear hxZ hn
    go_wp2_with fail
    go_ret
    refine ⟨?_, hb⟩
    first | rfl | (simp [*]; done) | (simp; omega)
   case true =>
    have hxZ := of_decide_eq_true hZ
    clear hZ
    have hn : (n4 : Int) = (n4 : Int) ∧ (n5 : Int) = 0 ∧ (n6 : Int) = (n4 : Int) ∧ (n7 : Int) = 1 := ⟨by omega, by omega, by omega, by omega⟩
    have harr : ∀ w, (Op.equalIn 10000 226 (.agg #[.int .i64 n4, .int .i64 n5, .int .i64 n6, .int .i64 n7]) (.agg #[.int .i64 n4, .int .i64 0, .int .i64 n4, .int .i64 1])).run Tryz.prog w = .ok true w := fun w => by rw [ii_arr4, decide_eq_true hn]
    clear hxZ hn
    go_wp2_with fail
    refine (hD _ hb).mono ?_
    rintro e w4 ⟨rfl, hbn⟩
    clear e0 e1 e2 e3 e4 e5 e6 e7 d0 d1 d2 d3
    replace hb := hb.trans (hbn.mono hb.size)
    replace hc := hc.keep hbn
    obtain ⟨lb4, ls4, e0, e1, e2, e3, e4, e5, e6, e7, d0, d1, d2, d3⟩ := id hc
    cases D
    case false =>
     go_wp2_with fail
     go_ret
     refine ⟨?_, hb⟩
     first | rfl | (simp [*]; done) | (simp; omega)
    case true =>
     go_wp2_with fail
     refine (hY _ hb).mono ?_
     rintro e w5 ⟨rfl, hbn⟩
     clear e0 e1 e2 e3 e4 e5 e6 e7 d0 d1 d2 d3
     replace hb := hb.trans (hbn.mono hb.size)
     replace hc := hc.keep hbn
     obtain ⟨lb5, ls5, e0, e1, e2, e3, e4, e5, e6, e7, d0, d1, d2, d3⟩ := id hc
     cases Y
     case true =>
      go_wp2_with fail
      go_ret
      refine ⟨?_, hb⟩
      first | rfl | (simp [*]; done) | (simp; omega)
     case false =>
      go_wp2_with fail
      go_ret
      refine ⟨?_, hb⟩
      first | rfl | (simp [*]; done) | (simp; omega)
set_option maxRecDepth 100000 in
set_option maxHeartbeats 8000000 in
theorem shape_9 {W : World} {N : Int} {mod nm : ByteArray} {a4 a5 a6 a7 : Option Addr} {n4 n5 n6 n7 c4 c5 c6 c7 : Nat} {F B Z C : Bool}
  (hF : decide (n4 ≤ 21 ∧ n5 ≤ 21 ∧ n6 ≤ 21 ∧ n7 ≤ 21) = F)
  (hB : Ans Tryz.prog 185 #[.agg #[.int .i64 9, .int .i64 N, .string mod, .string nm, .slice a4 n4 c4, .slice a5 n5 c5, .slice a6 n6 c6, .slice a7 n7 c7], .bool false, .bool false, .bool false] W (.bool B))
  (hZ : decide (n4 = 0 ∧ n5 = 0 ∧ n6 = 0 ∧ n7 = n7) = Z)
  (hC : decide (1 ≤ n7) = C)
  : Calls Tryz.prog 121 #[.agg #[.int .i64 9, .int .i64 N, .string mod, .string nm, .slice a4 n4 c4, .slice a5 n5 c5, .slice a6 n6 c6, .slice a7 n7 c7]] W fun e w' => e = .returned (.bool (F && (B && Z && C))) ∧ Blw W.heap.size W w' := by
 refine calls_of_wp Tryz.func121 rfl ?_
 simp only [Tryz.ntmps121, List.size_toArray, List.length_cons, List.length_nil, Nat.reduceAdd, Nat.reduceSub, Array.replicate_succ, Array.replicate_zero, List.push_toArray, List.append_toArray, List.nil_append, List.cons_append]
 go_wp2_with fail
 refine sizes_w.mono ?_
 rintro e w1 ⟨rfl, hb1⟩
 go_wp2_with fail
 refine (max_w (n0 := (n4 : Int)) (n1 := n5) (n2 := n6) (n3 := n7) (cell_new rfl) (cell_new rfl) (cell_new rfl) (cell_new rfl)).mono ?_
 rintro e w2 ⟨⟨r, rfl, hr⟩, hb2⟩
 have hs1 : W.heap.size < w1.heap.size := by have := hb1.size; simp at this; omega
 have hb02 : Blw W.heap.size W w2 := ((((Blw.refl _ W).alloc (Nat.le_refl _) _).trans (hb1.mono (by simp))).alloc (Nat.le_of_lt hs1) _).trans (hb2.mono (by simp; omega))
 have hlt1 : w1.heap.size < w2.heap.size := by have := hb2.size; simp at this; omega
 have hc : ShC W.heap.size w1.heap.size 9 N mod nm (.slice a4 n4 c4) (.slice a5 n5 c5) (.slice a6 n6 c6) (.slice a7 n7 c7) n4 n5 n6 n7 w2 := by
  refine ⟨Nat.lt_trans hs1 hlt1, hlt1, ?_, ?_, ?_, ?_, ?_, ?_, ?_, ?_, hb2.cell (by simp) (cell_new rfl), hb2.cell (by simp) (cell_new rfl), hb2.cell (by simp) (cell_new rfl), hb2.cell (by simp) (cell_new rfl)⟩
  all_goals exact hb2.cell (by simp; omega) ((cell?_alloc_old hs1).trans (hb1.cell (by simp) (cell_new rfl)))
 clear hb1 hb2
 cases F
 case false =>
  have hno := of_decide_eq_false hF
  clear hF
  have hr22 : 21 < r := by
   refine Int.not_le.1 fun h => hno ?_
   have := hr.1 h
   omega
  go_wp2_with fail
  go_ret
  exact ⟨rfl, hb02⟩
 case true =>
  have hfit := of_decide_eq_true hF
  clear hF
  have hr22 : ¬ 21 < r := Int.not_lt.2 (hr.2 (by omega))
  have hcd := hc.dr
  obtain ⟨lb, ls, e0, e1, e2, e3, e4, e5, e6, e7, d0, d1, d2, d3⟩ := hc
  go_wp2_with fail
  go_region_held3 (fun w' => w'.cell? ⟨w1.heap.size, 0, none⟩ = some (.int .i64 n4) ∧ w'.cell? ⟨w1.heap.size, 3, none⟩ = some (.int .i64 n7))
   (exact ⟨d0, d3⟩)
   (fail)
  have hb := blw_dr hb02
  have hc := hcd
  clear hcd
  go_wp2_with fail
  refine (hB _ hb).mono ?_
  rintro e w3 ⟨rfl, hbn⟩
  clear e0 e1 e2 e3 e4 e5 e6 e7 d0 d1 d2 d3
  replace hb := hb.trans (hbn.mono hb.size)
  replace hc := hc.keep hbn
  obtain ⟨lb3, ls3, e0, e1, e2, e3, e4, e5, e6, e7, d0, d1, d2, d3⟩ := id hc
  cases B
  case false =>
   go_wp2_with fail
   go_ret
   refine ⟨?_, hb⟩
   first | rfl | (simp [*]; done) | (simp; omega)
  case true =>
   cases Z
   case false =>
    have hxZ := of_decide_eq_false hZ
    clear hZ
    have hn : ¬ ((n4 : Int) = 0 ∧ (n5 : Int) = 0 ∧ (n6 : Int) = 0 ∧ (n7 : Int) = n7) := fun h => hxZ (by refine ⟨?_, ?_, ?_, ?_⟩ <;> first | trivial | omega)
    have harr : ∀ w, (Op.equalIn 10000 226 (.agg #[.int .i64 n4, .int .i64 n5, .int .i64 n6, .int .i64 n7]) (.agg #[.int .i64 0, .int .i64 0, .int .i64 0, .int .i64 n7])).run Tryz.prog w = .ok false w := fun w => by rw [ii_arr4, decide_eq_false hn]
    clear hxZ hn
    go_wp2_with fail
    go_ret
    refine ⟨?_, hb⟩
    first | rfl | (simp [*]; done) | (simp; omega)
   case true =>
    have hxZ := of_decide_eq_true hZ
    clear hZ
    have hn : (n4 : Int) = 0 ∧ (n5 : Int) = 0 ∧ (n6 : Int) = 0 ∧ (n7 : Int) = n7 := ⟨by omega, by omega, by omega, by omega⟩
    have harr : ∀ w, (Op.equalIn 10000 226 (.agg #[.int .i64 n4, .int .i64 n5, .int .i64 n6, .int .i64 n7]) (.agg #[.int .i64 0, .int .i64 0, .int .i64 0, .int .i64 n7])).run Tryz.prog w = .ok true w := fun w => by rw [ii_arr4, decide_eq_true hn]
    clear hxZ hn
    cases C
    case false =>
     have hxC := of_decide_eq_false hC
     clear hC
     have hyC : ¬ (1 : Int) ≤ n7 := by omega
     go_wp2_with fail
     go_ret
     refine ⟨?_, hb⟩
     first | rfl | (simp [*]; done) | (simp; omega)
    case true =>
     have hxC := of_decide_eq_true hC
     clear hC
     have hyC : (1 : Int) ≤ n7 := by omega
     go_wp2_with fail
     go_ret
     refine ⟨?_, hb⟩
     first | rfl | (simp [*]; done) | (simp; omega)
set_option maxRecDepth 100000 in
set_option maxHeartbeats 8000000 in
theorem shape_10 {W : World} {N : Int} {mod nm : ByteArray} {a4 a5 a6 a7 : Option Addr} {n4 n5 n6 n7 c4 c5 c6 c7 : Nat} {F B Z C : Bool}
  (hF : decide (n4 ≤ 21 ∧ n5 ≤ 21 ∧ n6 ≤ 21 ∧ n7 ≤ 21) = F)
  (hB : Ans Tryz.prog 185 #[.agg #[.int .i64 10, .int .i64 N, .string mod, .string nm, .slice a4 n4 c4, .slice a5 n5 c5, .slice a6 n6 c6, .slice a7 n7 c7], .bool false, .bool false, .bool false] W (.bool B))
  (hZ : decide (n4 = 0 ∧ n5 = 0 ∧ n6 = 0 ∧ n7 = n7) = Z)
  (hC : decide (1 ≤ n7) = C)
  : Calls Tryz.prog 121 #[.agg #[.int .i64 10, .int .i64 N, .string mod, .string nm, .slice a4 n4 c4, .slice a5 n5 c5, .slice a6 n6 c6, .slice a7 n7 c7]] W fun e w' => e = .returned (.bool (F && (B && Z && C))) ∧ Blw W.heap.size W w' := by
 refine calls_of_wp Tryz.func121 rfl ?_
 simp only [Tryz.ntmps121, List.size_toArray, List.length_cons, List.length_nil, Nat.reduceAdd, Nat.reduceSub, Array.replicate_succ, Array.replicate_zero, List.push_toArray, List.append_toArray, List.nil_append, List.cons_append]
 go_wp2_with fail
 refine sizes_w.mono ?_
 rintro e w1 ⟨rfl, hb1⟩
 go_wp2_with fail
 refine (max_w (n0 := (n4 : Int)) (n1 := n5) (n2 := n6) (n3 := n7) (cell_new rfl) (cell_new rfl) (cell_new rfl) (cell_new rfl)).mono ?_
 rintro e w2 ⟨⟨r, rfl, hr⟩, hb2⟩
 have hs1 : W.heap.size < w1.heap.size := by have := hb1.size; simp at this; omega
 have hb02 : Blw W.heap.size W w2 := ((((Blw.refl _ W).alloc (Nat.le_refl _) _).trans (hb1.mono (by simp))).alloc (Nat.le_of_lt hs1) _).trans (hb2.mono (by simp; omega))
 have hlt1 : w1.heap.size < w2.heap.size := by have := hb2.size; simp at this; omega
 have hc : ShC W.heap.size w1.heap.size 10 N mod nm (.slice a4 n4 c4) (.slice a5 n5 c5) (.slice a6 n6 c6) (.slice a7 n7 c7) n4 n5 n6 n7 w2 := by
  refine ⟨Nat.lt_trans hs1 hlt1, hlt1, ?_, ?_, ?_, ?_, ?_, ?_, ?_, ?_, hb2.cell (by simp) (cell_new rfl), hb2.cell (by simp) (cell_new rfl), hb2.cell (by simp) (cell_new rfl), hb2.cell (by simp) (cell_new rfl)⟩
  all_goals exact hb2.cell (by simp; omega) ((cell?_alloc_old hs1).trans (hb1.cell (by simp) (cell_new rfl)))
 clear hb1 hb2
 cases F
 case false =>
  have hno := of_decide_eq_false hF
  clear hF
  have hr22 : 21 < r := by
   refine Int.not_le.1 fun h => hno ?_
   have := hr.1 h
   omega
  go_wp2_with fail
  go_ret
  exact ⟨rfl, hb02⟩
 case true =>
  have hfit := of_decide_eq_true hF
  clear hF
  have hr22 : ¬ 21 < r := Int.not_lt.2 (hr.2 (by omega))
  have hcd := hc.dr
  obtain ⟨lb, ls, e0, e1, e2, e3, e4, e5, e6, e7, d0, d1, d2, d3⟩ := hc
  go_wp2_with fail
  go_region_held3 (fun w' => w'.cell? ⟨w1.heap.size, 0, none⟩ = some (.int .i64 n4) ∧ w'.cell? ⟨w1.heap.size, 3, none⟩ = some (.int .i64 n7))
   (exact ⟨d0, d3⟩)
   (fail)
  have hb := blw_dr hb02
  have hc := hcd
  clear hcd
  go_wp2_with fail
  refine (hB _ hb).mono ?_
  rintro e w3 ⟨rfl, hbn⟩
  clear e0 e1 e2 e3 e4 e5 e6 e7 d0 d1 d2 d3
  replace hb := hb.trans (hbn.mono hb.size)
  replace hc := hc.keep hbn
  obtain ⟨lb3, ls3, e0, e1, e2, e3, e4, e5, e6, e7, d0, d1, d2, d3⟩ := id hc
  cases B
  case false =>
   go_wp2_with fail
   go_ret
   refine ⟨?_, hb⟩
   first | rfl | (simp [*]; done) | (simp; omega)
  case true =>
   cases Z
   case false =>
    have hxZ := of_decide_eq_false hZ
    clear hZ
    have hn : ¬ ((n4 : Int) = 0 ∧ (n5 : Int) = 0 ∧ (n6 : Int) = 0 ∧ (n7 : Int) = n7) := fun h => hxZ (by refine ⟨?_, ?_, ?_, ?_⟩ <;> first | trivial | omega)
    have harr : ∀ w, (Op.equalIn 10000 226 (.agg #[.int .i64 n4, .int .i64 n5, .int .i64 n6, .int .i64 n7]) (.agg #[.int .i64 0, .int .i64 0, .int .i64 0, .int .i64 n7])).run Tryz.prog w = .ok false w := fun w => by rw [ii_arr4, decide_eq_false hn]
    clear hxZ hn
    go_wp2_with fail
    go_ret
    refine ⟨?_, hb⟩
    first | rfl | (simp [*]; done) | (simp; omega)
   case true =>
    have hxZ := of_decide_eq_true hZ
    clear hZ
    have hn : (n4 : Int) = 0 ∧ (n5 : Int) = 0 ∧ (n6 : Int) = 0 ∧ (n7 : Int) = n7 := ⟨by omega, by omega, by omega, by omega⟩
    have harr : ∀ w, (Op.equalIn 10000 226 (.agg #[.int .i64 n4, .int .i64 n5, .int .i64 n6, .int .i64 n7]) (.agg #[.int .i64 0, .int .i64 0, .int .i64 0, .int .i64 n7])).run Tryz.prog w = .ok true w := fun w => by rw [ii_arr4, decide_eq_true hn]
    clear hxZ hn
    cases C
    case false =>
     have hxC := of_decide_eq_false hC
     clear hC
     have hyC : ¬ (1 : Int) ≤ n7 := by omega
     go_wp2_with fail
     go_ret
     refine ⟨?_, hb⟩
     first | rfl | (simp [*]; done) | (simp; omega)
    case true =>
     have hxC := of_decide_eq_true hC
     clear hC
     have hyC : (1 : Int) ≤ n7 := by omega
     go_wp2_with fail
     go_ret
     refine ⟨?_, hb⟩
     first | rfl | (simp [*]; done) | (simp; omega)
set_option maxRecDepth 100000 in
set_option maxHeartbeats 8000000 in
theorem shape_11 {W : World} {N : Int} {mod nm : ByteArray} {a4 a5 a6 a7 : Option Addr} {n4 n5 n6 n7 c4 c5 c6 c7 : Nat} {F B Z : Bool}
  (hF : decide (n4 ≤ 21 ∧ n5 ≤ 21 ∧ n6 ≤ 21 ∧ n7 ≤ 21) = F)
  (hB : Ans Tryz.prog 185 #[.agg #[.int .i64 11, .int .i64 N, .string mod, .string nm, .slice a4 n4 c4, .slice a5 n5 c5, .slice a6 n6 c6, .slice a7 n7 c7], .bool false, .bool false, .bool false] W (.bool B))
  (hZ : decide (n4 = 0 ∧ n5 = 0 ∧ n6 = 0 ∧ n7 = 3) = Z)
  : Calls Tryz.prog 121 #[.agg #[.int .i64 11, .int .i64 N, .string mod, .string nm, .slice a4 n4 c4, .slice a5 n5 c5, .slice a6 n6 c6, .slice a7 n7 c7]] W fun e w' => e = .returned (.bool (F && (B && Z))) ∧ Blw W.heap.size W w' := by
 refine calls_of_wp Tryz.func121 rfl ?_
 simp only [Tryz.ntmps121, List.size_toArray, List.length_cons, List.length_nil, Nat.reduceAdd, Nat.reduceSub, Array.replicate_succ, Array.replicate_zero, List.push_toArray, List.append_toArray, List.nil_append, List.cons_append]
 go_wp2_with fail
 refine sizes_w.mono ?_
 rintro e w1 ⟨rfl, hb1⟩
 go_wp2_with fail
 refine (max_w (n0 := (n4 : Int)) (n1 := n5) (n2 := n6) (n3 := n7) (cell_new rfl) (cell_new rfl) (cell_new rfl) (cell_new rfl)).mono ?_
 rintro e w2 ⟨⟨r, rfl, hr⟩, hb2⟩
 have hs1 : W.heap.size < w1.heap.size := by have := hb1.size; simp at this; omega
 have hb02 : Blw W.heap.size W w2 := ((((Blw.refl _ W).alloc (Nat.le_refl _) _).trans (hb1.mono (by simp))).alloc (Nat.le_of_lt hs1) _).trans (hb2.mono (by simp; omega))
 have hlt1 : w1.heap.size < w2.heap.size := by have := hb2.size; simp at this; omega
 have hc : ShC W.heap.size w1.heap.size 11 N mod nm (.slice a4 n4 c4) (.slice a5 n5 c5) (.slice a6 n6 c6) (.slice a7 n7 c7) n4 n5 n6 n7 w2 := by
  refine ⟨Nat.lt_trans hs1 hlt1, hlt1, ?_, ?_, ?_, ?_, ?_, ?_, ?_, ?_, hb2.cell (by simp) (cell_new rfl), hb2.cell (by simp) (cell_new rfl), hb2.cell (by simp) (cell_new rfl), hb2.cell (by simp) (cell_new rfl)⟩
  all_goals exact hb2.cell (by simp; omega) ((cell?_alloc_old hs1).trans (hb1.cell (by simp) (cell_new rfl)))
 clear hb1 hb2
 cases F
 case false =>
  have hno := of_decide_eq_false hF
  clear hF
  have hr22 : 21 < r := by
   refine Int.not_le.1 fun h => hno ?_
   have := hr.1 h
   omega
  go_wp2_with fail
  go_ret
  exact ⟨rfl, hb02⟩
 case true =>
  have hfit := of_decide_eq_true hF
  clear hF
  have hr22 : ¬ 21 < r := Int.not_lt.2 (hr.2 (by omega))
  have hcd := hc.dr
  obtain ⟨lb, ls, e0, e1, e2, e3, e4, e5, e6, e7, d0, d1, d2, d3⟩ := hc
  go_wp2_with fail
  go_region_held3 (fun w' => w'.cell? ⟨w1.heap.size, 0, none⟩ = some (.int .i64 n4) ∧ w'.cell? ⟨w1.heap.size, 3, none⟩ = some (.int .i64 n7))
   (exact ⟨d0, d3⟩)
   (fail)
  have hb := blw_dr hb02
  have hc := hcd
  clear hcd
  go_wp2_with fail
  refine (hB _ hb).mono ?_
  rintro e w3 ⟨rfl, hbn⟩
  clear e0 e1 e2 e3 e4 e5 e6 e7 d0 d1 d2 d3
  replace hb := hb.trans (hbn.mono hb.size)
  replace hc := hc.keep hbn
  obtain ⟨lb3, ls3, e0, e1, e2, e3, e4, e5, e6, e7, d0, d1, d2, d3⟩ := id hc
  cases B
  case false =>
   go_wp2_with fail
   go_ret
   refine ⟨?_, hb⟩
   first | rfl | (simp [*]; done) | (simp; omega)
  case true =>
   cases Z
   case false =>
    have hxZ := of_decide_eq_false hZ
    clear hZ
    have hn : ¬ ((n4 : Int) = 0 ∧ (n5 : Int) = 0 ∧ (n6 : Int) = 0 ∧ (n7 : Int) = 3) := fun h => hxZ (by refine ⟨?_, ?_, ?_, ?_⟩ <;> first | trivial | omega)
    have harr : ∀ w, (Op.equalIn 10000 226 (.agg #[.int .i64 n4, .int .i64 n5, .int .i64 n6, .int .i64 n7]) (.agg #[.int .i64 0, .int .i64 0, .int .i64 0, .int .i64 3])).run Tryz.prog w = .ok false w := fun w => by rw [ii_arr4, decide_eq_false hn]
    clear hxZ hn
    go_wp2_with fail
    go_ret
    refine ⟨?_, hb⟩
    first | rfl | (simp [*]; done) | (simp; omega)
   case true =>
    have hxZ := of_decide_eq_true hZ
    clear hZ
    have hn : (n4 : Int) = 0 ∧ (n5 : Int) = 0 ∧ (n6 : Int) = 0 ∧ (n7 : Int) = 3 := ⟨by omega, by omega, by omega, by omega⟩
    have harr : ∀ w, (Op.equalIn 10000 226 (.agg #[.int .i64 n4, .int .i64 n5, .int .i64 n6, .int .i64 n7]) (.agg #[.int .i64 0, .int .i64 0, .int .i64 0, .int .i64 3])).run Tryz.prog w = .ok true w := fun w => by rw [ii_arr4, decide_eq_true hn]
    clear hxZ hn
    go_wp2_with fail
    go_ret
    refine ⟨?_, hb⟩
    first | rfl | (simp [*]; done) | (simp; omega)
set_option maxRecDepth 100000 in
set_option maxHeartbeats 8000000 in
theorem shape_0 {W : World} {N : Int} {mod nm : ByteArray} {a4 a5 a6 a7 : Option Addr} {n4 n5 n6 n7 c4 c5 c6 c7 : Nat} {F : Bool} {k : Int}
  (hF : decide (n4 ≤ 21 ∧ n5 ≤ 21 ∧ n6 ≤ 21 ∧ n7 ≤ 21) = F)
  (k1 : ¬ k = 1) (k2 : ¬ k = 2) (k3 : ¬ k = 3) (k4 : ¬ k = 4) (k5 : ¬ k = 5) (k6 : ¬ k = 6) (k7 : ¬ k = 7) (k8 : ¬ k = 8) (k9 : ¬ k = 9) (k10 : ¬ k = 10) (k11 : ¬ k = 11) (k12 : ¬ k = 12)
  : Calls Tryz.prog 121 #[.agg #[.int .i64 k, .int .i64 N, .string mod, .string nm, .slice a4 n4 c4, .slice a5 n5 c5, .slice a6 n6 c6, .slice a7 n7 c7]] W fun e w' => e = .returned (.bool (F && (false))) ∧ Blw W.heap.size W w' := by
 refine calls_of_wp Tryz.func121 rfl ?_
 simp only [Tryz.ntmps121, List.size_toArray, List.length_cons, List.length_nil, Nat.reduceAdd, Nat.reduceSub, Array.replicate_succ, Array.replicate_zero, List.push_toArray, List.append_toArray, List.nil_append, List.cons_append]
 go_wp2_with fail
 refine sizes_w.mono ?_
 rintro e w1 ⟨rfl, hb1⟩
 go_wp2_with fail
 refine (max_w (n0 := (n4 : Int)) (n1 := n5) (n2 := n6) (n3 := n7) (cell_new rfl) (cell_new rfl) (cell_new rfl) (cell_new rfl)).mono ?_
 rintro e w2 ⟨⟨r, rfl, hr⟩, hb2⟩
 have hs1 : W.heap.size < w1.heap.size := by have := hb1.size; simp at this; omega
 have hb02 : Blw W.heap.size W w2 := ((((Blw.refl _ W).alloc (Nat.le_refl _) _).trans (hb1.mono (by simp))).alloc (Nat.le_of_lt hs1) _).trans (hb2.mono (by simp; omega))
 have hlt1 : w1.heap.size < w2.heap.size := by have := hb2.size; simp at this; omega
 have hc : ShC W.heap.size w1.heap.size k N mod nm (.slice a4 n4 c4) (.slice a5 n5 c5) (.slice a6 n6 c6) (.slice a7 n7 c7) n4 n5 n6 n7 w2 := by
  refine ⟨Nat.lt_trans hs1 hlt1, hlt1, ?_, ?_, ?_, ?_, ?_, ?_, ?_, ?_, hb2.cell (by simp) (cell_new rfl), hb2.cell (by simp) (cell_new rfl), hb2.cell (by simp) (cell_new rfl), hb2.cell (by simp) (cell_new rfl)⟩
  all_goals exact hb2.cell (by simp; omega) ((cell?_alloc_old hs1).trans (hb1.cell (by simp) (cell_new rfl)))
 clear hb1 hb2
 cases F
 case false =>
  have hno := of_decide_eq_false hF
  clear hF
  have hr22 : 21 < r := by
   refine Int.not_le.1 fun h => hno ?_
   have := hr.1 h
   omega
  go_wp2_with fail
  go_ret
  exact ⟨rfl, hb02⟩
 case true =>
  have hfit := of_decide_eq_true hF
  clear hF
  have hr22 : ¬ 21 < r := Int.not_lt.2 (hr.2 (by omega))
  have hcd := hc.dr
  obtain ⟨lb, ls, e0, e1, e2, e3, e4, e5, e6, e7, d0, d1, d2, d3⟩ := hc
  go_wp2_with fail
  go_region_held3 (fun w' => w'.cell? ⟨w1.heap.size, 0, none⟩ = some (.int .i64 n4) ∧ w'.cell? ⟨w1.heap.size, 3, none⟩ = some (.int .i64 n7))
   (exact ⟨d0, d3⟩)
   (fail)
  have hb := blw_dr hb02
  have hc := hcd
  clear hcd
  go_wp2_with fail
  go_wp2_with fail
  go_ret
  refine ⟨?_, hb⟩
  first | rfl | (simp [*]; done) | (simp; omega)
set_option maxRecDepth 100000 in
set_option maxHeartbeats 8000000 in
theorem shape_12 {W : World} {N : Int} {mod nm : ByteArray} {a4 a5 a6 a7 : Option Addr} {n4 n5 n6 n7 c4 c5 c6 c7 : Nat} {F B C Z R V : Bool}
  (hF : decide (n4 ≤ 21 ∧ n5 ≤ 21 ∧ n6 ≤ 21 ∧ n7 ≤ 21) = F)
  (hB : Ans Tryz.prog 185 #[.agg #[.int .i64 12, .int .i64 N, .string mod, .string nm, .slice a4 n4 c4, .slice a5 n5 c5, .slice a6 n6 c6, .slice a7 n7 c7], .bool false, .bool false, .bool false] W (.bool B))
  (hC : decide (1 ≤ n4) = C)
  (hZ : decide (n4 = n4 ∧ n5 = n4 ∧ n6 = 0 ∧ n7 = n4 + 1) = Z)
  (hR : Ans Tryz.prog 187 #[.slice a4 n4 c4, .func (.func 188) #[] #[]] W (.bool R))
  (hV : Ans Tryz.prog 136 #[.slice a5 n5 c5, .func (.func 191) #[] #[]] W (.bool V))
  : Calls Tryz.prog 121 #[.agg #[.int .i64 12, .int .i64 N, .string mod, .string nm, .slice a4 n4 c4, .slice a5 n5 c5, .slice a6 n6 c6, .slice a7 n7 c7]] W fun e w' => e = .returned (.bool (F && (B && C && Z && R && !V))) ∧ Blw W.heap.size W w' := by
 refine calls_of_wp Tryz.func121 rfl ?_
 simp only [Tryz.ntmps121, List.size_toArray, List.length_cons, List.length_nil, Nat.reduceAdd, Nat.reduceSub, Array.replicate_succ, Array.replicate_zero, List.push_toArray, List.append_toArray, List.nil_append, List.cons_append]
 go_wp2_with fail
 refine sizes_w.mono ?_
 rintro e w1 ⟨rfl, hb1⟩
 go_wp2_with fail
 refine (max_w (n0 := (n4 : Int)) (n1 := n5) (n2 := n6) (n3 := n7) (cell_new rfl) (cell_new rfl) (cell_new rfl) (cell_new rfl)).mono ?_
 rintro e w2 ⟨⟨r, rfl, hr⟩, hb2⟩
 have hs1 : W.heap.size < w1.heap.size := by have := hb1.size; simp at this; omega
 have hb02 : Blw W.heap.size W w2 := ((((Blw.refl _ W).alloc (Nat.le_refl _) _).trans (hb1.mono (by simp))).alloc (Nat.le_of_lt hs1) _).trans (hb2.mono (by simp; omega))
 have hlt1 : w1.heap.size < w2.heap.size := by have := hb2.size; simp at this; omega
 have hc : ShC W.heap.size w1.heap.size 12 N mod nm (.slice a4 n4 c4) (.slice a5 n5 c5) (.slice a6 n6 c6) (.slice a7 n7 c7) n4 n5 n6 n7 w2 := by
  refine ⟨Nat.lt_trans hs1 hlt1, hlt1, ?_, ?_, ?_, ?_, ?_, ?_, ?_, ?_, hb2.cell (by simp) (cell_new rfl), hb2.cell (by simp) (cell_new rfl), hb2.cell (by simp) (cell_new rfl), hb2.cell (by simp) (cell_new rfl)⟩
  all_goals exact hb2.cell (by simp; omega) ((cell?_alloc_old hs1).trans (hb1.cell (by simp) (cell_new rfl)))
 clear hb1 hb2
 cases F
 case false =>
  have hno := of_decide_eq_false hF
  clear hF
  have hr22 : 21 < r := by
   refine Int.not_le.1 fun h => hno ?_
   have := hr.1 h
   omega
  go_wp2_with fail
  go_ret
  exact ⟨rfl, hb02⟩
 case true =>
  have hfit := of_decide_eq_true hF
  clear hF
  have hr22 : ¬ 21 < r := Int.not_lt.2 (hr.2 (by omega))
  have hcd := hc.dr
  obtain ⟨lb, ls, e0, e1, e2, e3, e4, e5, e6, e7, d0, d1, d2, d3⟩ := hc
  go_wp2_with fail
  go_region_held3 (fun w' => w'.cell? ⟨w1.heap.size, 0, none⟩ = some (.int .i64 n4) ∧ w'.cell? ⟨w1.heap.size, 3, none⟩ = some (.int .i64 n7))
   (exact ⟨d0, d3⟩)
   (fail)
  have hb := blw_dr hb02
  have hc := hcd
  clear hcd
  go_wp2_with fail
  refine (hB _ hb).mono ?_
  rintro e w3 ⟨rfl, hbn⟩
  clear e0 e1 e2 e3 e4 e5 e6 e7 d0 d1 d2 d3
  replace hb := hb.trans (hbn.mono hb.size)
  replace hc := hc.keep hbn
  obtain ⟨lb3, ls3, e0, e1, e2, e3, e4, e5, e6, e7, d0, d1, d2, d3⟩ := id hc
  cases B
  case false =>
   go_wp2_with fail
   go_ret
   refine ⟨?_, hb⟩
   first | rfl | (simp [*]; done) | (simp; omega)
  case true =>
   cases C
   case false =>
    have hxC := of_decide_eq_false hC
    clear hC
    have hyC : ¬ (1 : Int) ≤ n4 := by omega
    go_wp2_with fail
    go_ret
    refine ⟨?_, hb⟩
    first | rfl | (simp [*]; done) | (simp; omega)
   case true =>
    have hxC := of_decide_eq_true hC
    clear hC
    have hyC : (1 : Int) ≤ n4 := by omega
    cases Z
    case false =>
     have hxZ := of_decide_eq_false hZ
     clear hZ
     have hn : ¬ ((n4 : Int) = (n4 : Int) ∧ (n5 : Int) = (n4 : Int) ∧ (n6 : Int) = 0 ∧ (n7 : Int) = (n4 : Int) + 1) := fun h => hxZ (by refine ⟨?_, ?_, ?_, ?_⟩ <;> first | trivial | omega)
     have harr : ∀ w, (Op.equalIn 10000 226 (.agg #[.int .i64 n4, .int .i64 n5, .int .i64 n6, .int .i64 n7]) (.agg #[.int .i64 n4, .int .i64 n4, .int .i64 0, .int .i64 ((n4 : Int) + 1)])).run Tryz.prog w = .ok false w := fun w => by rw [ii_arr4, decide_eq_false hn]
     clear hxZ hn
     go_wp2_with fail
     go_ret
     refine ⟨?_, hb⟩
     first | rfl | (simp [*]; done) | (simp; omega)
    case true =>
     have hxZ := of_decide_eq_true hZ
     clear hZ
     have hn : (n4 : Int) = (n4 : Int) ∧ (n5 : Int) = (n4 : Int) ∧ (n6 : Int) = 0 ∧ (n7 : Int) = (n4 : Int) + 1 := ⟨by omega, by omega, by omega, by omega⟩
     have harr : ∀ w, (Op.equalIn 10000 226 (.agg #[.int .i64 n4, .int .i64 n5, .int .i64 n6, .int .i64 n7]) (.agg #[.int .i64 n4, .int .i64 n4, .int .i64 0, .int .i64 ((n4 : Int) + 1)])).run Tryz.prog w = .ok true w := fun w => by rw [ii_arr4, decide_eq_true hn]
     clear hxZ hn
     go_wp2_with fail
     refine (hR _ hb).mono ?_
     rintro e w4 ⟨rfl, hbn⟩
     clear e0 e1 e2 e3 e4 e5 e6 e7 d0 d1 d2 d3
     replace hb := hb.trans (hbn.mono hb.size)
     replace hc := hc.keep hbn
     obtain ⟨lb4, ls4, e0, e1, e2, e3, e4, e5, e6, e7, d0, d1, d2, d3⟩ := id hc
     cases R
     case false =>
      go_wp2_with fail
      go_ret
      refine ⟨?_, hb⟩
      first | rfl | (simp [*]; done) | (simp; omega)
     case true =>
      go_wp2_with fail
      refine (hV _ hb).mono ?_
      rintro e w5 ⟨rfl, hbn⟩
      clear e0 e1 e2 e3 e4 e5 e6 e7 d0 d1 d2 d3
      replace hb := hb.trans (hbn.mono hb.size)
      replace hc := hc.keep hbn
      obtain ⟨lb5, ls5, e0, e1, e2, e3, e4, e5, e6, e7, d0, d1, d2, d3⟩ := id hc
      cases V
      case true =>
       go_wp2_with fail
       go_ret
       refine ⟨?_, hb⟩
       first | rfl | (simp [*]; done) | (simp; omega)
      case false =>
       go_wp2_with fail
       go_ret
       refine ⟨?_, hb⟩
       first | rfl | (simp [*]; done) | (simp; omega)
end Go.Proofs.Mv.App
