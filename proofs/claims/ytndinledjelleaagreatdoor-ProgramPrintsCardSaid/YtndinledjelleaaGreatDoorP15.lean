/- A part of the proofs: machine, contracts, laws. No condition of its own. -/
import Derived.Test.YtndinledjelleaaGreatDoorP12
import Derived.Test.YtndinledjelleaaGreatDoorP13
import Derived.Test.YtndinledjelleaaGreatDoorP14
set_option linter.unusedSimpArgs false
set_option linter.unusedVariables false
set_option linter.unusedSectionVars false
open Go Go.Proofs Go.Proofs.Mv.V Go.RowKit
namespace Go.Proofs.Mv.App
theorem lt_cells {w : World} {ν : Nu} {F : Nat → Prop} {b : Nat} : ∀ (l : List Lt) (o : Nat), ConEs w ν F 9 (l.map ltD) b o → ∀ (k : Nat) (h : k < l.length),
  w.cell? ⟨b, o + k * 9, none⟩ = some (.string (ofL l[k].name)) ∧ ConCs w ν F (tmD l[k].term) b (o + k * 9 + 1)
 | [], _, _, k, h => by simp at h
 | p :: l, o, h, k, hk => by
  simp only [List.map_cons, ConEs, ltD, ConCs] at h
  obtain ⟨_, ⟨⟨y0, c0, _, e0⟩, h3⟩, hr⟩ := h
  cases k with
  | zero =>
   simp only [Con, S] at e0
   subst e0
   exact ⟨by simpa using c0, by simpa using h3⟩
  | succ k =>
   have := lt_cells l (o + 9) hr k (by simpa using hk)
   rw [show o + 9 + k * 9 = o + (k + 1) * 9 by omega] at this
   simpa using this
theorem tm_cells {w : World} {ν : Nu} {F : Nat → Prop} {b o : Nat} {t : Tm} (h : ConCs w ν F (tmD t) b o) : ∃ (i0 i1 : Int) (s2 s3 : ByteArray) (a4 : Option Addr) (n4 c4 : Nat) (a5 : Option Addr) (n5 c5 : Nat) (a6 : Option Addr) (n6 c6 : Nat) (a7 : Option Addr) (n7 c7 : Nat),
  w.cell? ⟨b, o, none⟩ = some (.int .i64 i0) ∧ w.cell? ⟨b, o + 1, none⟩ = some (.int .i64 i1) ∧ w.cell? ⟨b, o + 2, none⟩ = some (.string s2) ∧
  w.cell? ⟨b, o + 3, none⟩ = some (.string s3) ∧ w.cell? ⟨b, o + 4, none⟩ = some (.slice a4 n4 c4) ∧ w.cell? ⟨b, o + 5, none⟩ = some (.slice a5 n5 c5) ∧ w.cell? ⟨b, o + 6, none⟩ = some (.slice a6 n6 c6) ∧ w.cell? ⟨b, o + 7, none⟩ = some (.slice a7 n7 c7) ∧
  Con w ν F (.agg (tmD t)) (.agg #[.int .i64 i0, .int .i64 i1, .string s2, .string s3, .slice a4 n4 c4, .slice a5 n5 c5, .slice a6 n6 c6, .slice a7 n7 c7]) := by
 obtain ⟨kind, num, mod, name, names, vars, types, subs⟩ := t
 simp only [tmD, ConCs] at h
 obtain ⟨⟨y0, c0, p0, e0⟩, ⟨y1, c1, p1, e1⟩, ⟨y2, c2, p2, e2⟩, ⟨y3, c3, p3, e3⟩, ⟨y4, c4, p4, e4⟩, ⟨y5, c5, p5, e5⟩, ⟨y6, c6, p6, e6⟩, ⟨y7, c7, p7, e7⟩, _⟩ := h
 obtain ⟨a4, n4, q4, rfl⟩ := sl_val e4
 obtain ⟨a5, n5, q5, rfl⟩ := sl_val e5
 obtain ⟨a6, n6, q6, rfl⟩ := sl_val e6
 obtain ⟨a7, n7, q7, rfl⟩ := sl_val e7
 have f0 := e0; have f1 := e1; have f2 := e2; have f3 := e3
 simp only [Con, S, I] at f0 f1 f2 f3
 subst f0; subst f1; subst f2; subst f3
 refine ⟨_, _, _, _, a4, n4, q4, a5, n5, q5, a6, n6, q6, a7, n7, q7, c0, c1, c2, c3, c4, c5, c6, c7, ?_⟩
 simp only [tmD]
 rw [Con]
 simp only [ConVs]
 refine ⟨_, rfl, ⟨_, _, rfl, e0, _, _, rfl, e1, _, _, rfl, e2, _, _, rfl, e3, _, _, rfl, e4, _, _, rfl, e5, _, _, rfl, e6, _, _, rfl, e7, rfl⟩, ?_⟩
 intro x hx
 simp only [List.mem_cons, List.not_mem_nil, or_false] at hx
 rcases hx with rfl | rfl | rfl | rfl | rfl | rfl | rfl | rfl <;> assumption
theorem cTPW {w : World} {ν : Nu} {F : Nat → Prop} {m : Mem} {n : Nat} (hst : St w ν F m n) {W : World} (hb : Blw w.heap.size w W) {t : Tm} (ht : TmW t) (hm : mayTm t = true) {ys : Array Value} (hc : Con w ν F (.agg (tmD t)) (.agg ys)) :
  Calls Tryz.prog 49 #[.agg ys] W fun e w' => e = .returned (.tuple #[.string (ofL (textTm t)), .nilIface]) ∧ Blw W.heap.size W w' := by
 refine (calls_all (args := [.agg (tmD t)]) (d := .tup [S (textTm t), nilE]) ?_ ((pur_tmA t).2 0 |> fun h => by simpa [belowL] using h) (st_blw hst hb) (vals := #[.agg ys]) ?_).mono ?_
 ·have := cPrintTm ht (fun _ => none) 0
  rw [hm] at this
  exact this
 ·simp only [ConVs]
  exact ⟨_, [], rfl, Con.mono (ext_blw hst hb) _ _ hc, rfl⟩
 ·rintro e w' ⟨y, rfl, hb2, ν', F', hcv⟩
  simp only [Con, ConVs, S, nilE] at hcv
  obtain ⟨ys, rfl, y1, r1, e1, rfl, y2, r2, e2, rfl, e3⟩ := hcv
  subst e3; subst e2
  exact ⟨by rw [show ys = #[.string (ofL (textTm t)), .nilIface] from Array.toList_inj.1 e1], hb2⟩
set_option maxRecDepth 100000 in
set_option maxHeartbeats 8000000 in
theorem progPrint_w {x : Pg} (hx : PgW x) (hm : mayP x = true) {w : World} {ν : Nu} {F : Nat → Prop} {m : Mem} {n : Nat} (hst : St w ν F m n) {sa sb : Option Addr} {c c' : Nat}
  (hv : Con w ν F (.agg (pgD x)) (.agg #[.slice sa x.imps.length c, .slice sb x.lets.length c']))
  (hc : ∀ k, k < x.imps.length → ∃ b o, sa = some ⟨b, o, none⟩ ∧ b < w.heap.size ∧ ConEs w ν F 4 (x.imps.map impD) b o) (hlc : x.imps.length ≤ c)
  (hd : ∀ k, k < x.lets.length → ∃ b o, sb = some ⟨b, o, none⟩ ∧ b < w.heap.size ∧ ConEs w ν F 9 (x.lets.map ltD) b o) (hld : x.lets.length ≤ c') :
  Calls Tryz.prog 19 #[.agg #[.slice sa x.imps.length c, .slice sb x.lets.length c']] w fun e w' => e = .returned (.tuple #[.string (ofL (textP x)), .nilIface]) ∧ Blw w.heap.size w w' := by
 obtain ⟨r1, r2, r3, r4⟩ := mayP_parts hm
 obtain ⟨wU, hwU⟩ : ∃ wU, wU = w.alloc (.cells #[.slice sa x.imps.length c, .slice sb x.lets.length c'] 51) := ⟨_, rfl⟩
 have hbU : Blw w.heap.size w wU := by rw [hwU]; exact (Blw.refl w.heap.size w).alloc (Nat.le_refl _) _
 have hu0 : wU.cell? ⟨w.heap.size, 0, none⟩ = some (.slice sa x.imps.length c) := by rw [hwU]; unfold World.cell?; rw [World.alloc_heap_new]; rfl
 have hu1 : wU.cell? ⟨w.heap.size, 1, none⟩ = some (.slice sb x.lets.length c') := by rw [hwU]; unfold World.cell?; rw [World.alloc_heap_new]; rfl
 have hus : w.heap.size < wU.heap.size := by rw [hwU]; simp
 have cMay : Calls Tryz.prog 21 #[.agg #[.slice sa x.imps.length c, .slice sb x.lets.length c']] wU fun e w' => e = .returned (.bool true) ∧ Blw wU.heap.size wU w' := by
  refine (calls_all (args := [.agg (pgD x)]) (d := Tt true) ?_ ?_ (st_blw hst hbU) (vals := #[.agg #[.slice sa x.imps.length c, .slice sb x.lets.length c']]) ?_).mono ?_
  ·have := cPMay hx (fun _ => none) 0
   rw [hm] at this; exact this
  ·simp only [belowL, Bool.and_true]; exact (Pur.agg (pur_pg x)).2 0
  ·simp only [ConVs]; exact ⟨_, [], rfl, Con.mono (ext_blw hst hbU) _ _ hv, rfl⟩
  ·rintro e w' ⟨v, rfl, hb, ν', F', hcv⟩
   simp only [Con, Tt] at hcv; subst hcv
   exact ⟨rfl, hb⟩
 refine calls_of_wp Tryz.func19 rfl ?_
 simp only [Tryz.ntmps19, List.size_toArray, List.length_cons, List.length_nil, Nat.reduceAdd, Nat.reduceSub, Array.replicate_succ, Array.replicate_zero, List.push_toArray, List.append_toArray, List.nil_append, List.cons_append]
 go_wp2_with fail
 rw [← hwU]
 refine cMay.mono ?_
 rintro e w1 ⟨rfl, hb1⟩
 have hB0 : wU.heap.size ≤ w1.heap.size := hb1.size
 have hbA : Blw wU.heap.size wU (w1.alloc (.cells #[.pointer none, .slice none 0 0] 93)) := hb1.alloc hB0 _
 have hq0 := hbA.cell hus hu0
 have hiB : Lib.IsBuilderF 93 5 wU.heap.size w1.heap.size (Lib.byteCells []) (w1.alloc (.cells #[.pointer none, .slice none 0 0] 93)) :=
  Lib.IsBuilderF.of (.inl ⟨hB0, _, World.alloc_heap_new w1 _, ⟨rfl, .inl ⟨rfl, rfl⟩⟩, by simp [Value.ownBlock]⟩)
 go_wp2_with fail
 go_loopw [18] (fun i wx => ∃ k : Nat, k ≤ x.imps.length ∧ i = .int .i64 k ∧ Lib.IsBuilderF 93 5 wU.heap.size w1.heap.size (Lib.byteCells (impsP x k)) wx ∧ Blw wU.heap.size wU wx) (fun i _ => x.imps.length - (intOf i).toNat)
 case atStart => exact ⟨0, Nat.zero_le _, rfl, by rw [impsP_zero]; exact hiB, hbA⟩
 case round =>
  obtain ⟨k, hk, rfl, hB, hbx⟩ := hrel
  have hbx0 : Blw w.heap.size w wr := hbU.trans (hbx.mono hbU.size)
  by_cases hlt : k < x.imps.length
  ·obtain ⟨b0, o0, rfl, hb0, hes⟩ := hc k hlt
   obtain ⟨c0, c1, c2, c3⟩ := imp_cells x.imps o0 hes k hlt
   have d0 := hbx0.cell hb0 c0
   have d1 := hbx0.cell hb0 c1
   have d2 := hbx0.cell hb0 c2
   have d3 := hbx0.cell hb0 c3
   clear c0 c1 c2 c3
   obtain ⟨wN, hwN⟩ : ∃ wN, wN = wr.alloc (.cells #[.string (ofL x.imps[k].pkg), .int .i64 x.imps[k].major, .string (ofL x.imps[k].mod), .string (ofL x.imps[k].as_)] 95) := ⟨_, rfl⟩
   have hbN : Blw wU.heap.size wU wN := by rw [hwN]; exact hbx.alloc hbx.size _
   have hiN := isF_blw hB (show Blw wr.heap.size wr wN by rw [hwN]; exact (Blw.refl wr.heap.size wr).alloc (Nat.le_refl _) _)
   have hNh : wN.heap[wr.heap.size]? = some (.cells #[.string (ofL x.imps[k].pkg), .int .i64 x.imps[k].major, .string (ofL x.imps[k].mod), .string (ofL x.imps[k].as_)] 95) := by rw [hwN]; exact World.alloc_heap_new wr _
   have hNs : wr.heap.size < wN.heap.size := by rw [hwN]; simp
   have n0 : wN.cell? ⟨wr.heap.size, 0, none⟩ = some (.string (ofL x.imps[k].pkg)) := by unfold World.cell?; rw [hNh]; rfl
   have n1 : wN.cell? ⟨wr.heap.size, 1, none⟩ = some (.int .i64 x.imps[k].major) := by unfold World.cell?; rw [hNh]; rfl
   have n2 : wN.cell? ⟨wr.heap.size, 2, none⟩ = some (.string (ofL x.imps[k].mod)) := by unfold World.cell?; rw [hNh]; rfl
   have n3 : wN.cell? ⟨wr.heap.size, 3, none⟩ = some (.string (ofL x.imps[k].as_)) := by unfold World.cell?; rw [hNh]; rfl
   have hne : wr.heap.size ≠ w1.heap.size := by
    rcases hB with ⟨_, v, h, _⟩ | ⟨_, v, h, _⟩ <;> (have := (Array.getElem?_eq_some_iff.1 h).1; omega)
   have hll := impsP_len hm k
   obtain ⟨t1, t2, t3, t4, t5⟩ := imp_partsU (r3 _ (List.getElem_mem hlt))
   have hdl := digits_len x.imps[k].major.toNat
   have x1 : ¬9223372036854775807 < 7 + x.imps[k].pkg.length := by omega
   have x2 : ¬9223372036854775807 < x.imps[k].pkg.length + 1 + 1 + 1 + 1 + 1 + 1 + 1 + 1 := by omega
   have x3 : ¬9223372036854775807 < x.imps[k].pkg.length + 1 + 1 + 1 + 1 + 1 + 1 + 1 + 1 + (digits x.imps[k].major.toNat).length := by omega
   have x4 : ¬9223372036854775807 < x.imps[k].pkg.length + ((digits x.imps[k].major.toNat).length + 1) + 1 + 1 + 1 + 1 + 1 + 1 + 1 + 1 := by omega
   have x5 : ¬9223372036854775807 < x.imps[k].pkg.length + ((digits x.imps[k].major.toNat).length + 1 + 1) + 1 + 1 + 1 + 1 + 1 + 1 + 1 + x.imps[k].mod.length := by omega
   have x6 : ¬9223372036854775807 < x.imps[k].pkg.length + ((digits x.imps[k].major.toNat).length + (x.imps[k].mod.length + 1) + 1) + 1 + 1 + 1 + 1 + 1 + 1 + 1 + 4 := by omega
   have x7 : ¬9223372036854775807 < x.imps[k].pkg.length + ((digits x.imps[k].major.toNat).length + (x.imps[k].mod.length + 4 + 1) + 1) + 1 + 1 + 1 + 1 + 1 + 1 + 1 + x.imps[k].as_.length := by omega
   have x8 : ¬9223372036854775807 < x.imps[k].pkg.length + ((digits x.imps[k].major.toNat).length + (x.imps[k].mod.length + (x.imps[k].as_.length + 1 + 1 + 1 + 1) + 1) + 1) + 1 + 1 + 1 + 1 + 1 + 1 + 1 + 1 := by omega
   have cI : ∀ W, Blw w.heap.size w W → Calls Tryz.prog 48 #[.int .i64 x.imps[k].major] W fun e w' => e = .returned (.string (ofL (digits x.imps[k].major.toNat))) ∧ Blw W.heap.size W w' := fun W h => cIW hst h (by omega) (by omega)
   have hbN0 : Blw w.heap.size w wN := hbU.trans (hbN.mono hbU.size)
   go_wp2_with fail
   rw [← hwN]
   clear hwN
   go_region_held3 (fun w' => w'.cell? ⟨wr.heap.size, 0, none⟩ = some (.string (ofL x.imps[k].pkg)) ∧ w'.cell? ⟨wr.heap.size, 1, none⟩ = some (.int .i64 x.imps[k].major) ∧ w'.cell? ⟨wr.heap.size, 2, none⟩ = some (.string (ofL x.imps[k].mod)) ∧ w'.cell? ⟨wr.heap.size, 3, none⟩ = some (.string (ofL x.imps[k].as_)))
    (first | exact ⟨n0, n1, n2, n3⟩ | (refine ⟨(blw_ud ?_).cell hNs n0, (blw_ud ?_).cell hNs n1, (blw_ud ?_).cell hNs n2, (blw_ud ?_).cell hNs n3⟩ <;> assumption) | (exact ⟨kept_cell (by assumption) (((blw_ud (by assumption)).block _ hNs).trans hNh) hne (by decide) ((blw_ud (by assumption)).cell hNs n0), kept_cell (by assumption) (((blw_ud (by assumption)).block _ hNs).trans hNh) hne (by decide) ((blw_ud (by assumption)).cell hNs n1), kept_cell (by assumption) (((blw_ud (by assumption)).block _ hNs).trans hNh) hne (by decide) ((blw_ud (by assumption)).cell hNs n2), kept_cell (by assumption) (((blw_ud (by assumption)).block _ hNs).trans hNh) hne (by decide) ((blw_ud (by assumption)).cell hNs n3)⟩))
    (first | (go_at_call 48; refine (cI _ (blw_dr hbN0)).mono ?_; rintro e w2 ⟨rfl, hb2⟩) | (go_at_call 47; refine (cWSk (isF_blw hiN (blw_ud hb2)) (by simp only [List.length_cons, List.length_append, List.length_nil]; omega) (Nat.le_trans hbN.size (blw_ud hb2).size)).mono ?_; rintro e w3 ⟨rfl, hi3, hb3, hk3⟩))
   have hi3' : Lib.IsBuilderF 93 5 wU.heap.size w1.heap.size (Lib.byteCells (impsP x (k + 1))) w3 := by
    rw [impsP_snoc hlt]
    simpa [impLnU, wImp] using hi3
   have hb03 : Blw wU.heap.size wU w3 := (hbN.trans ((blw_ud hb2).mono hbN.size)).trans (Blw.of hb3)
   go_wp2_with fail
   go_roundw
   case rel => exact ⟨k + 1, by omega, by simp, hi3', hb03⟩
   case measure => simp [intOf]; omega
  ·obtain rfl : k = x.imps.length := by omega
   rw [impsP_all] at hB
   have hq1 := hbx.cell hus hu1
   go_wp2_with fail
   go_loopw [44] (fun i wx => ∃ k : Nat, k ≤ x.lets.length ∧ i = .int .i64 k ∧ Lib.IsBuilderF 93 5 wU.heap.size w1.heap.size (Lib.byteCells (ltsP x k)) wx ∧ Blw wU.heap.size wU wx) (fun i _ => x.lets.length - (intOf i).toNat)
   case atStart => exact ⟨0, Nat.zero_le _, rfl, hB, hbx⟩
   case round =>
    clear hB hbx hbx0 hq1 hq0 hiB hbA
    obtain ⟨k, hk, rfl, hB, hbx⟩ := hrel
    have hbx0 : Blw w.heap.size w wr := hbU.trans (hbx.mono hbU.size)
    by_cases hlt : k < x.lets.length
    ·obtain ⟨b0, o0, rfl, hb0, hes⟩ := hd k hlt
     obtain ⟨c0, c7⟩ := lt_cells x.lets o0 hes k hlt
     obtain ⟨i0, i1, s2, s3, a4, l4, q4, a5, l5, q5, a6, l6, q6, a7, l7, q7, e0, e1, e2, e3, e4, e5, e6, e7, hcon⟩ := tm_cells c7
     have hmem := List.getElem_mem hlt
     have hok := r4 _ hmem
     obtain ⟨t1, tm, ta, tq, htl⟩ := lt_parts hok
     have htw := (hx.h4 _ hmem).h2
     have hll := ltsP_len hm k
     have hsn := ltsP_snoc hlt
     unfold ltTx at hsn
     generalize x.lets[k].name = nm at c0 hsn t1
     have d0 := hbx0.cell hb0 c0
     have d1 := hbx0.cell hb0 e0
     have d2 := hbx0.cell hb0 e1
     have d3 := hbx0.cell hb0 e2
     have d4 := hbx0.cell hb0 e3
     have d5 := hbx0.cell hb0 e4
     have d6 := hbx0.cell hb0 e5
     have d7 := hbx0.cell hb0 e6
     have d8 := hbx0.cell hb0 e7
     clear c0 c7 e0 e1 e2 e3 e4 e5 e6 e7
     obtain ⟨wN, hwN⟩ : ∃ wN, wN = wr.alloc (.cells #[.string (ofL nm), .int .i64 i0, .int .i64 i1, .string s2, .string s3, .slice a4 l4 q4, .slice a5 l5 q5, .slice a6 l6 q6, .slice a7 l7 q7] 89) := ⟨_, rfl⟩
     have hbN : Blw wU.heap.size wU wN := by rw [hwN]; exact hbx.alloc hbx.size _
     have hbN0 : Blw w.heap.size w wN := hbU.trans (hbN.mono hbU.size)
     have hiN := isF_blw hB (show Blw wr.heap.size wr wN by rw [hwN]; exact (Blw.refl wr.heap.size wr).alloc (Nat.le_refl _) _)
     have hNh : wN.heap[wr.heap.size]? = some (.cells #[.string (ofL nm), .int .i64 i0, .int .i64 i1, .string s2, .string s3, .slice a4 l4 q4, .slice a5 l5 q5, .slice a6 l6 q6, .slice a7 l7 q7] 89) := by rw [hwN]; exact World.alloc_heap_new wr _
     have hNs : wr.heap.size < wN.heap.size := by rw [hwN]; simp
     have n0 : wN.cell? ⟨wr.heap.size, 0, none⟩ = some (.string (ofL nm)) := by unfold World.cell?; rw [hNh]; rfl
     have cP := cTPW hst hbN0 htw tm hcon
     go_wp2_with fail
     rw [← hwN]
     refine cP.mono ?_
     rintro e w2 ⟨rfl, hb2⟩
     clear hwN
     have m0 := hb2.cell hNs n0
     have hi2 := isF_blw hiN hb2
     have hb02 : Blw wU.heap.size wU w2 := hbN.trans (hb2.mono hbN.size)
     clear cP hiN n0
     generalize textTm x.lets[k].term = tt at htl hsn
     have x1 : ¬9223372036854775807 < 4 + nm.length := by omega
     have x2 : ¬9223372036854775807 < nm.length + 1 + 1 + 1 + 1 + 3 := by omega
     have x3 : ¬9223372036854775807 < nm.length + 1 + 1 + 1 + 1 + 3 + tt.length := by omega
     have x4 : ¬9223372036854775807 < nm.length + 3 + 1 + 1 + 1 + 1 + tt.length := by omega
     have x5 : ¬9223372036854775807 < nm.length + (tt.length + 1 + 1 + 1) + 1 + 1 + 1 + 1 + 1 := by omega
     go_wp2_with fail
     refine (cWSk hi2 (by simp only [List.length_cons, List.length_append, List.length_nil]; omega) hb02.size).mono ?_
     rintro e w3 ⟨rfl, hi3, hb3, hk3⟩
     have hi3' : Lib.IsBuilderF 93 5 wU.heap.size w1.heap.size (Lib.byteCells (ltsP x (k + 1))) w3 := by
      rw [hsn]
      simpa using hi3
     have hb03 : Blw wU.heap.size wU w3 := hb02.trans (Blw.of hb3)
     go_wp2_with fail
     go_roundw
     case rel => exact ⟨k + 1, by omega, by simp, hi3', hb03⟩
     case measure => simp [intOf]; omega
    ·obtain rfl : k = x.lets.length := by omega
     have cS := cSTk hB hbx.size
     go_wp2_with fail
     refine cS.mono ?_
     rintro e w4 ⟨rfl, hb4⟩
     go_wp2_with fail
     go_ret2
     exact ⟨rfl, hbU.trans ((hbx.trans (Blw.of hb4)).mono hbU.size)⟩
end Go.Proofs.Mv.App
