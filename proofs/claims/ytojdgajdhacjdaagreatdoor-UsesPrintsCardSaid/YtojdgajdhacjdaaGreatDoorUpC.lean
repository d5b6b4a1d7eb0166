/- A part of the proofs of the seat YtojdgajdhacjdaaGreatDoor: the abstract machine, the contracts of the functions, the laws. No condition of its own. -/
import Derived.Test.YtojdgajdhacjdaaGreatDoorBld
import Derived.Test.YtojdgajdhacjdaaGreatDoorUp
import Derived.Test.YtojdgajdhacjdaaGreatDoorTyF
import Derived.Deep.RegionHeld3
set_option linter.unusedSimpArgs false
set_option linter.unusedVariables false
set_option linter.unusedSectionVars false
open Go Go.Proofs Go.Proofs.Mv.V Go.RowKit
namespace Go.Proofs.Mv.App
theorem blw_dr {B : Nat} {w w' : World} (h : Blw B w w') : Blw B w w'.drew := ⟨h.os, h.output, h.size, h.block⟩
theorem blw_ud {B : Nat} {w w' : World} (h : Blw B w.drew w') : Blw B w w' := ⟨h.os, h.output, h.size, h.block⟩
/-- An import's cells. -/
theorem imp_cells {w : World} {ν : Nu} {F : Nat → Prop} {b : Nat} : ∀ (l : List Imp) (o : Nat), ConEs w ν F 4 (l.map impD) b o → ∀ (k : Nat) (h : k < l.length),
    w.cell? ⟨b, o + k * 4, none⟩ = some (.string (ofL l[k].pkg)) ∧ w.cell? ⟨b, o + k * 4 + 1, none⟩ = some (.int .i64 l[k].major) ∧
    w.cell? ⟨b, o + k * 4 + 2, none⟩ = some (.string (ofL l[k].mod)) ∧ w.cell? ⟨b, o + k * 4 + 3, none⟩ = some (.string (ofL l[k].as_))
  | [], _, _, k, h => by simp at h
  | p :: l, o, h, k, hk => by
    simp only [List.map_cons, ConEs, impD, ConCs] at h
    obtain ⟨_, ⟨⟨y0, c0, _, e0⟩, ⟨y1, c1, _, e1⟩, ⟨y2, c2, _, e2⟩, ⟨y3, c3, _, e3⟩, _⟩, hr⟩ := h
    cases k with
    | zero =>
      simp only [Con, S, I] at e0 e1 e2 e3
      subst e0; subst e1; subst e2; subst e3
      simpa using ⟨c0, c1, c2, c3⟩
    | succ k =>
      have := imp_cells l (o + 4) hr k (by simpa using hk)
      rw [show o + 4 + k * 4 = o + (k + 1) * 4 by omega] at this
      simpa using this
/-- A line's cells. -/
theorem ln_cells {w : World} {ν : Nu} {F : Nat → Prop} {b : Nat} : ∀ (l : List Ln) (o : Nat), ConEs w ν F 10 (l.map lnD) b o → ∀ (k : Nat) (h : k < l.length),
    w.cell? ⟨b, o + k * 10, none⟩ = some (.int .i64 l[k].kind) ∧ w.cell? ⟨b, o + k * 10 + 1, none⟩ = some (.string (ofL l[k].mod)) ∧
    w.cell? ⟨b, o + k * 10 + 2, none⟩ = some (.string (ofL l[k].name)) ∧ ConCs w ν F (tyD l[k].typ) b (o + k * 10 + 3)
  | [], _, _, k, h => by simp at h
  | p :: l, o, h, k, hk => by
    simp only [List.map_cons, ConEs, lnD, ConCs] at h
    obtain ⟨_, ⟨⟨y0, c0, _, e0⟩, ⟨y1, c1, _, e1⟩, ⟨y2, c2, _, e2⟩, h3⟩, hr⟩ := h
    cases k with
    | zero =>
      simp only [Con, S, I] at e0 e1 e2
      subst e0; subst e1; subst e2
      exact ⟨by simpa using c0, by simpa using c1, by simpa using c2, by simpa using h3⟩
    | succ k =>
      have := ln_cells l (o + 10) hr k (by simpa using hk)
      rw [show o + 10 + k * 10 = o + (k + 1) * 10 by omega] at this
      simpa using this
theorem sl_val {w : World} {ν : Nu} {F : Nat → Prop} {z : Nat} {es : List (List D)} {y : Value} (h : Con w ν F (.sl z es) y) : ∃ a n c, y = .slice a n c := by
  simp only [Con] at h
  rcases h with ⟨b, o, c, rfl, _⟩ | ⟨_, a, rfl⟩
  · exact ⟨_, _, _, rfl⟩
  · exact ⟨_, _, _, rfl⟩
/-- A type's cells. -/
theorem ty_cells {w : World} {ν : Nu} {F : Nat → Prop} {b o : Nat} {t : Ty} (h : ConCs w ν F (tyD t) b o) : ∃ (i0 : Int) (s1 : ByteArray) (i2 : Int) (s3 s4 : ByteArray) (a5 : Option Addr) (n5 c5 : Nat) (a6 : Option Addr) (n6 c6 : Nat),
    w.cell? ⟨b, o, none⟩ = some (.int .i64 i0) ∧ w.cell? ⟨b, o + 1, none⟩ = some (.string s1) ∧ w.cell? ⟨b, o + 2, none⟩ = some (.int .i64 i2) ∧
    w.cell? ⟨b, o + 3, none⟩ = some (.string s3) ∧ w.cell? ⟨b, o + 4, none⟩ = some (.string s4) ∧ w.cell? ⟨b, o + 5, none⟩ = some (.slice a5 n5 c5) ∧ w.cell? ⟨b, o + 6, none⟩ = some (.slice a6 n6 c6) ∧
    Con w ν F (.agg (tyD t)) (.agg #[.int .i64 i0, .string s1, .int .i64 i2, .string s3, .string s4, .slice a5 n5 c5, .slice a6 n6 c6]) := by
  obtain ⟨kind, pkg, major, mod, name, names, subs⟩ := t
  simp only [tyD, ConCs] at h
  obtain ⟨⟨y0, c0, p0, e0⟩, ⟨y1, c1, p1, e1⟩, ⟨y2, c2, p2, e2⟩, ⟨y3, c3, p3, e3⟩, ⟨y4, c4, p4, e4⟩, ⟨y5, c5, p5, e5⟩, ⟨y6, c6, p6, e6⟩, _⟩ := h
  obtain ⟨a5, n5, q5, rfl⟩ := sl_val e5
  obtain ⟨a6, n6, q6, rfl⟩ := sl_val e6
  have f0 := e0; have f1 := e1; have f2 := e2; have f3 := e3; have f4 := e4
  simp only [Con, S, I] at f0 f1 f2 f3 f4
  subst f0; subst f1; subst f2; subst f3; subst f4
  refine ⟨_, _, _, _, _, a5, n5, q5, a6, n6, q6, c0, c1, c2, c3, c4, c5, c6, ?_⟩
  simp only [tyD]
  rw [Con]
  simp only [ConVs]
  refine ⟨_, rfl, ⟨_, _, rfl, e0, _, _, rfl, e1, _, _, rfl, e2, _, _, rfl, e3, _, _, rfl, e4, _, _, rfl, e5, _, _, rfl, e6, rfl⟩, ?_⟩
  intro x hx
  simp only [List.mem_cons, List.not_mem_nil, or_false] at hx
  rcases hx with rfl | rfl | rfl | rfl | rfl | rfl | rfl <;> assumption
theorem cIW {w : World} {ν : Nu} {F : Nat → Prop} {m : Mem} {n : Nat} (hst : St w ν F m n) {W : World} (hb : Blw w.heap.size w W) {i : Int} (h0 : 0 ≤ i) (h1 : i ≤ 9223372036854775807) :
    Calls Tryz.prog 31 #[.int .i64 i] W fun e w' => e = .returned (.string (ofL (digits i.toNat))) ∧ Blw W.heap.size W w' := by
  refine (calls_all (args := [I i]) (d := S (digits i.toNat)) (cItoa h0 h1 _ _) rfl (st_blw hst hb) (vals := #[.int .i64 i]) ?_).mono ?_
  · simp [ConVs, Con, I]
  · rintro e w' ⟨v, rfl, hb2, ν', F', hcv⟩
    simp only [Con, S] at hcv; subst hcv
    exact ⟨rfl, hb2⟩
theorem cKP {w : World} {ν : Nu} {F : Nat → Prop} {m : Mem} {n : Nat} (hst : St w ν F m n) {W : World} (hb : Blw w.heap.size w W) {t : Ty} (hm : mayT t = true) {ys : Array Value} (hc : Con w ν F (.agg (tyD t)) (.agg ys)) :
    Calls Tryz.prog 32 #[.agg ys] W fun e w' => e = .returned (.tuple #[.string (ofL (textT t)), .nilIface]) ∧ Blw W.heap.size W w' := by
  refine (calls_all (args := [.agg (tyD t)]) (d := .tup [S (textT t), nilE]) ?_ ((pur_tyA t).2 0 |> fun h => by simpa [belowL] using h) (st_blw hst hb) (vals := #[.agg ys]) ?_).mono ?_
  · have := cPrintT (allT_w t (mayT_all hm).1) (fun _ => none) 0
    rw [hm] at this
    exact this
  · simp only [ConVs]
    exact ⟨_, [], rfl, Con.mono (ext_blw hst hb) _ _ hc, rfl⟩
  · rintro e w' ⟨y, rfl, hb2, ν', F', hcv⟩
    simp only [Con, ConVs, S, nilE] at hcv
    obtain ⟨ys, rfl, y1, r1, e1, rfl, y2, r2, e2, rfl, e3⟩ := hcv
    subst e3; subst e2
    exact ⟨by rw [show ys = #[.string (ofL (textT t)), .nilIface] from Array.toList_inj.1 e1], hb2⟩
end Go.Proofs.Mv.App
open Go Go.Proofs Go.Proofs.Mv.V Go.RowKit
namespace Go.Proofs.Mv.App
set_option maxRecDepth 100000 in
set_option maxHeartbeats 8000000 in
theorem usesPrint_w {x : Us} (hx : UsW x) (hm : mayU x = true) {w : World} {ν : Nu} {F : Nat → Prop} {m : Mem} {n : Nat} (hst : St w ν F m n) {sa sb : Option Addr} {c c' : Nat}
    (hv : Con w ν F (.agg (usD x)) (.agg #[.slice sa x.imps.length c, .slice sb x.lines.length c']))
    (hc : ∀ k, k < x.imps.length → ∃ b o, sa = some ⟨b, o, none⟩ ∧ b < w.heap.size ∧ ConEs w ν F 4 (x.imps.map impD) b o) (hlc : x.imps.length ≤ c)
    (hd : ∀ k, k < x.lines.length → ∃ b o, sb = some ⟨b, o, none⟩ ∧ b < w.heap.size ∧ ConEs w ν F 10 (x.lines.map lnD) b o) (hld : x.lines.length ≤ c') :
    Calls Tryz.prog 11 #[.agg #[.slice sa x.imps.length c, .slice sb x.lines.length c']] w fun e w' => e = .returned (.tuple #[.string (ofL (textU x)), .nilIface]) ∧ Blw w.heap.size w w' := by
  obtain ⟨r1, r2, r3, r4⟩ := mayU_parts hm
  obtain ⟨wU, hwU⟩ : ∃ wU, wU = w.alloc (.cells #[.slice sa x.imps.length c, .slice sb x.lines.length c'] 26) := ⟨_, rfl⟩
  have hbU : Blw w.heap.size w wU := by rw [hwU]; exact (Blw.refl w.heap.size w).alloc (Nat.le_refl _) _
  have hu0 : wU.cell? ⟨w.heap.size, 0, none⟩ = some (.slice sa x.imps.length c) := by rw [hwU]; unfold World.cell?; rw [World.alloc_heap_new]; rfl
  have hu1 : wU.cell? ⟨w.heap.size, 1, none⟩ = some (.slice sb x.lines.length c') := by rw [hwU]; unfold World.cell?; rw [World.alloc_heap_new]; rfl
  have hus : w.heap.size < wU.heap.size := by rw [hwU]; simp
  have cMay : Calls Tryz.prog 13 #[.agg #[.slice sa x.imps.length c, .slice sb x.lines.length c']] wU fun e w' => e = .returned (.bool true) ∧ Blw wU.heap.size wU w' := by
    refine (calls_all (args := [.agg (usD x)]) (d := Tt true) ?_ ?_ (st_blw hst hbU) (vals := #[.agg #[.slice sa x.imps.length c, .slice sb x.lines.length c']]) ?_).mono ?_
    · have := cUMay hx (fun _ => none) 0
      rw [hm] at this; exact this
    · simp only [belowL, Bool.and_true]; exact (Pur.agg (pur_us x)).2 0
    · simp only [ConVs]; exact ⟨_, [], rfl, Con.mono (ext_blw hst hbU) _ _ hv, rfl⟩
    · rintro e w' ⟨v, rfl, hb, ν', F', hcv⟩
      simp only [Con, Tt] at hcv; subst hcv
      exact ⟨rfl, hb⟩
  refine calls_of_wp Tryz.func11 rfl ?_
  simp only [Tryz.ntmps11, List.size_toArray, List.length_cons, List.length_nil, Nat.reduceAdd, Nat.reduceSub, Array.replicate_succ, Array.replicate_zero, List.push_toArray, List.append_toArray, List.nil_append, List.cons_append]
  go_wp2_with fail
  rw [← hwU]
  refine cMay.mono ?_
  rintro e w1 ⟨rfl, hb1⟩
  have hB0 : wU.heap.size ≤ w1.heap.size := hb1.size
  have hbA : Blw wU.heap.size wU (w1.alloc (.cells #[.pointer none, .slice none 0 0] 83)) := hb1.alloc hB0 _
  have hq0 := hbA.cell hus hu0
  have hiB : Lib.IsBuilderF 83 5 wU.heap.size w1.heap.size (Lib.byteCells []) (w1.alloc (.cells #[.pointer none, .slice none 0 0] 83)) :=
    Lib.IsBuilderF.of (.inl ⟨hB0, _, World.alloc_heap_new w1 _, ⟨rfl, .inl ⟨rfl, rfl⟩⟩, by simp [Value.ownBlock]⟩)
  go_wp2_with fail
  go_loopw [18] (fun i wx => ∃ k : Nat, k ≤ x.imps.length ∧ i = .int .i64 k ∧ Lib.IsBuilderF 83 5 wU.heap.size w1.heap.size (Lib.byteCells (impsU x k)) wx ∧ Blw wU.heap.size wU wx) (fun i _ => x.imps.length - (intOf i).toNat)
  case atStart => exact ⟨0, Nat.zero_le _, rfl, by rw [impsU_zero]; exact hiB, hbA⟩
  case round =>
    obtain ⟨k, hk, rfl, hB, hbx⟩ := hrel
    have hbx0 : Blw w.heap.size w wr := hbU.trans (hbx.mono hbU.size)
    by_cases hlt : k < x.imps.length
    · obtain ⟨b0, o0, rfl, hb0, hes⟩ := hc k hlt
      obtain ⟨c0, c1, c2, c3⟩ := imp_cells x.imps o0 hes k hlt
      have d0 := hbx0.cell hb0 c0
      have d1 := hbx0.cell hb0 c1
      have d2 := hbx0.cell hb0 c2
      have d3 := hbx0.cell hb0 c3
      clear c0 c1 c2 c3
      obtain ⟨wN, hwN⟩ : ∃ wN, wN = wr.alloc (.cells #[.string (ofL x.imps[k].pkg), .int .i64 x.imps[k].major, .string (ofL x.imps[k].mod), .string (ofL x.imps[k].as_)] 60) := ⟨_, rfl⟩
      have hbN : Blw wU.heap.size wU wN := by rw [hwN]; exact hbx.alloc hbx.size _
      have hiN := isF_blw hB (show Blw wr.heap.size wr wN by rw [hwN]; exact (Blw.refl wr.heap.size wr).alloc (Nat.le_refl _) _)
      have hNh : wN.heap[wr.heap.size]? = some (.cells #[.string (ofL x.imps[k].pkg), .int .i64 x.imps[k].major, .string (ofL x.imps[k].mod), .string (ofL x.imps[k].as_)] 60) := by rw [hwN]; exact World.alloc_heap_new wr _
      have hNs : wr.heap.size < wN.heap.size := by rw [hwN]; simp
      have n0 : wN.cell? ⟨wr.heap.size, 0, none⟩ = some (.string (ofL x.imps[k].pkg)) := by unfold World.cell?; rw [hNh]; rfl
      have n1 : wN.cell? ⟨wr.heap.size, 1, none⟩ = some (.int .i64 x.imps[k].major) := by unfold World.cell?; rw [hNh]; rfl
      have n2 : wN.cell? ⟨wr.heap.size, 2, none⟩ = some (.string (ofL x.imps[k].mod)) := by unfold World.cell?; rw [hNh]; rfl
      have n3 : wN.cell? ⟨wr.heap.size, 3, none⟩ = some (.string (ofL x.imps[k].as_)) := by unfold World.cell?; rw [hNh]; rfl
      have hne : wr.heap.size ≠ w1.heap.size := by
        rcases hB with ⟨_, v, h, _⟩ | ⟨_, v, h, _⟩ <;> (have := (Array.getElem?_eq_some_iff.1 h).1; omega)
      have hll := impsU_len hm k
      obtain ⟨t1, t2, t3, t4, t5⟩ := imp_partsU (r3 _ (List.getElem_mem hlt))
      have hdl := digits_len x.imps[k].major.toNat
      have x1 : ¬9223372036854775807 < 7 + x.imps[k].pkg.length := by omega
      have x2 : ¬9223372036854775807 < x.imps[k].pkg.length + 1 + 1 + 1 + 1 + 1 + 1 + 1 + 1 := by omega
      have x3 : ¬9223372036854775807 < x.imps[k].pkg.length + 1 + 1 + 1 + 1 + 1 + 1 + 1 + 1 + (digits x.imps[k].major.toNat).length := by omega
      have x4 : ¬9223372036854775807 < x.imps[k].pkg.length + ((digits x.imps[k].major.toNat).length + 1) + 1 + 1 + 1 + 1 + 1 + 1 + 1 + 1 := by omega
      have x5 : ¬9223372036854775807 < x.imps[k].pkg.length + ((digits x.imps[k].major.toNat).length + 1 + 1) + 1 + 1 + 1 + 1 + 1 + 1 + 1 + x.imps[k].mod.length := by omega
      have x6 : ¬9223372036854775807 < x.imps[k].pkg.length + ((digits x.imps[k].major.toNat).length + (x.imps[k].mod.length + 1) + 1) + 1 + 1 + 1 + 1 + 1 + 1 + 1 + 4 := by omega
      have x7 : ¬9223372036854775807 < x.imps[k].pkg.length + ((digits x.imps[k].major.toNat).length + (x.imps[k].mod.length + 4 + 1) + 1) + 1 + 1 + 1 + 1 + 1 + 1 + 1 + x.imps[k].as_.length := by omega
      have x8 : ¬9223372036854775807 < x.imps[k].pkg.length + ((digits x.imps[k].major.toNat).length + (x.imps[k].mod.length + (x.imps[k].as_.length + 1 + 1 + 1 + 1) + 1) + 1) + 1 + 1 + 1 + 1 + 1 + 1 + 1 + 1 := by omega
      have cI : ∀ W, Blw w.heap.size w W → Calls Tryz.prog 31 #[.int .i64 x.imps[k].major] W fun e w' => e = .returned (.string (ofL (digits x.imps[k].major.toNat))) ∧ Blw W.heap.size W w' := fun W h => cIW hst h (by omega) (by omega)
      have hbN0 : Blw w.heap.size w wN := hbU.trans (hbN.mono hbU.size)
      go_wp2_with fail
      rw [← hwN]
      clear hwN
      go_region_held3 (fun w' => w'.cell? ⟨wr.heap.size, 0, none⟩ = some (.string (ofL x.imps[k].pkg)) ∧ w'.cell? ⟨wr.heap.size, 1, none⟩ = some (.int .i64 x.imps[k].major) ∧ w'.cell? ⟨wr.heap.size, 2, none⟩ = some (.string (ofL x.imps[k].mod)) ∧ w'.cell? ⟨wr.heap.size, 3, none⟩ = some (.string (ofL x.imps[k].as_)))
        (first | exact ⟨n0, n1, n2, n3⟩ | (refine ⟨(blw_ud ?_).cell hNs n0, (blw_ud ?_).cell hNs n1, (blw_ud ?_).cell hNs n2, (blw_ud ?_).cell hNs n3⟩ <;> assumption) | (exact ⟨kept_cell (by assumption) (((blw_ud (by assumption)).block _ hNs).trans hNh) hne (by decide) ((blw_ud (by assumption)).cell hNs n0), kept_cell (by assumption) (((blw_ud (by assumption)).block _ hNs).trans hNh) hne (by decide) ((blw_ud (by assumption)).cell hNs n1), kept_cell (by assumption) (((blw_ud (by assumption)).block _ hNs).trans hNh) hne (by decide) ((blw_ud (by assumption)).cell hNs n2), kept_cell (by assumption) (((blw_ud (by assumption)).block _ hNs).trans hNh) hne (by decide) ((blw_ud (by assumption)).cell hNs n3)⟩))
        (first | (go_at_call 31; refine (cI _ (blw_dr hbN0)).mono ?_; rintro e w2 ⟨rfl, hb2⟩) | (go_at_call 30; refine (cWSk (isF_blw hiN (blw_ud hb2)) (by simp only [List.length_cons, List.length_append, List.length_nil]; omega) (Nat.le_trans hbN.size (blw_ud hb2).size)).mono ?_; rintro e w3 ⟨rfl, hi3, hb3, hk3⟩))
      have hi3' : Lib.IsBuilderF 83 5 wU.heap.size w1.heap.size (Lib.byteCells (impsU x (k + 1))) w3 := by
        rw [impsU_snoc hlt]
        simpa [impLnU, wImp] using hi3
      have hb03 : Blw wU.heap.size wU w3 := (hbN.trans ((blw_ud hb2).mono hbN.size)).trans (Blw.of hb3)
      go_wp2_with fail
      go_roundw
      case rel => exact ⟨k + 1, by omega, by simp, hi3', hb03⟩
      case measure => simp [intOf]; omega
    · obtain rfl : k = x.imps.length := by omega
      rw [impsU_all] at hB
      have hq1 := hbx.cell hus hu1
      go_wp2_with fail
      go_loopw [44] (fun i wx => ∃ k : Nat, k ≤ x.lines.length ∧ i = .int .i64 k ∧ Lib.IsBuilderF 83 5 wU.heap.size w1.heap.size (Lib.byteCells (lnsU x k)) wx ∧ Blw wU.heap.size wU wx) (fun i _ => x.lines.length - (intOf i).toNat)
      case atStart => exact ⟨0, Nat.zero_le _, rfl, hB, hbx⟩
      case round =>
        clear hB hbx hbx0 hq1 hq0 hiB hbA
        obtain ⟨k, hk, rfl, hB, hbx⟩ := hrel
        have hbx0 : Blw w.heap.size w wr := hbU.trans (hbx.mono hbU.size)
        by_cases hlt : k < x.lines.length
        · obtain ⟨b0, o0, rfl, hb0, hes⟩ := hd k hlt
          obtain ⟨c0, c1, c2, c7⟩ := ln_cells x.lines o0 hes k hlt
          obtain ⟨i0, s1, i2, s3, s4, a5, n5, q5, a6, n6, q6, e0, e1, e2, e3, e4, e5, e6, hcon⟩ := ty_cells c7
          have hok := r4 _ (List.getElem_mem hlt)
          obtain ⟨t1, t2, tm⟩ := ln_parts hok
          have htl := mayT_lenU tm
          have hll := lnsU_len hm k
          have hsn := lnsU_snoc hlt
          unfold lnTx lnHd at hsn
          generalize x.lines[k].kind = kd at c0 hsn
          generalize x.lines[k].mod = md at c1 hsn t1
          generalize x.lines[k].name = nm at c2 hsn t2
          have d0 := hbx0.cell hb0 c0
          have d1 := hbx0.cell hb0 c1
          have d2 := hbx0.cell hb0 c2
          have d3 := hbx0.cell hb0 e0
          have d4 := hbx0.cell hb0 e1
          have d5 := hbx0.cell hb0 e2
          have d6 := hbx0.cell hb0 e3
          have d7 := hbx0.cell hb0 e4
          have d8 := hbx0.cell hb0 e5
          have d9 := hbx0.cell hb0 e6
          clear c0 c1 c2 c7 e0 e1 e2 e3 e4 e5 e6
          obtain ⟨wN, hwN⟩ : ∃ wN, wN = wr.alloc (.cells #[.int .i64 kd, .string (ofL md), .string (ofL nm), .int .i64 i0, .string s1, .int .i64 i2, .string s3, .string s4, .slice a5 n5 q5, .slice a6 n6 q6] 63) := ⟨_, rfl⟩
          have hbN : Blw wU.heap.size wU wN := by rw [hwN]; exact hbx.alloc hbx.size _
          have hbN0 : Blw w.heap.size w wN := hbU.trans (hbN.mono hbU.size)
          have hiN := isF_blw hB (show Blw wr.heap.size wr wN by rw [hwN]; exact (Blw.refl wr.heap.size wr).alloc (Nat.le_refl _) _)
          have hNh : wN.heap[wr.heap.size]? = some (.cells #[.int .i64 kd, .string (ofL md), .string (ofL nm), .int .i64 i0, .string s1, .int .i64 i2, .string s3, .string s4, .slice a5 n5 q5, .slice a6 n6 q6] 63) := by rw [hwN]; exact World.alloc_heap_new wr _
          have hNs : wr.heap.size < wN.heap.size := by rw [hwN]; simp
          have n0 : wN.cell? ⟨wr.heap.size, 0, none⟩ = some (.int .i64 kd) := by unfold World.cell?; rw [hNh]; rfl
          have n1 : wN.cell? ⟨wr.heap.size, 1, none⟩ = some (.string (ofL md)) := by unfold World.cell?; rw [hNh]; rfl
          have n2 : wN.cell? ⟨wr.heap.size, 2, none⟩ = some (.string (ofL nm)) := by unfold World.cell?; rw [hNh]; rfl
          have cP := cKP hst hbN0 tm hcon
          go_wp2_with fail
          rw [← hwN]
          refine cP.mono ?_
          rintro e w2 ⟨rfl, hb2⟩
          clear hwN
          have m0 := hb2.cell hNs n0
          have m1 := hb2.cell hNs n1
          have m2 := hb2.cell hNs n2
          have hi2 := isF_blw hiN hb2
          have hb02 : Blw wU.heap.size wU w2 := hbN.trans (hb2.mono hbN.size)
          clear cP hiN n0 n1 n2
          generalize textT x.lines[k].typ = tt at htl hsn
          by_cases k1 : kd = 1
          · subst k1
            have x1 : ¬9223372036854775807 < 4 + md.length := by omega
            have x2 : ¬9223372036854775807 < md.length + 1 + 1 + 1 + 1 + 1 := by omega
            have x3 : ¬9223372036854775807 < md.length + 1 + 1 + 1 + 1 + 1 + nm.length := by omega
            have x4 : ¬9223372036854775807 < md.length + (nm.length + 1) + 1 + 1 + 1 + 1 + 3 := by omega
            have x5 : ¬9223372036854775807 < md.length + (nm.length + 3 + 1) + 1 + 1 + 1 + 1 + tt.length := by omega
            have x6 : ¬9223372036854775807 < md.length + (nm.length + (tt.length + 1 + 1 + 1) + 1) + 1 + 1 + 1 + 1 + 1 := by omega
            go_wp2_with fail
            refine (cWSk hi2 (by simp only [List.length_cons, List.length_append, List.length_nil]; omega) hb02.size).mono ?_
            rintro e w3 ⟨rfl, hi3, hb3, hk3⟩
            have hi3' : Lib.IsBuilderF 83 5 wU.heap.size w1.heap.size (Lib.byteCells (lnsU x (k + 1))) w3 := by
              rw [hsn]
              simpa using hi3
            have hb03 : Blw wU.heap.size wU w3 := hb02.trans (Blw.of hb3)
            go_wp2_with fail
            go_roundw
            case rel => exact ⟨k + 1, by omega, by simp, hi3', hb03⟩
            case measure => simp [intOf]; omega
          · have k1' : ¬ kd = 1 := k1
            have x1 : ¬9223372036854775807 < 3 + md.length := by omega
            have x2 : ¬9223372036854775807 < md.length + 1 + 1 + 1 + 1 := by omega
            have x3 : ¬9223372036854775807 < md.length + 1 + 1 + 1 + 1 + nm.length := by omega
            have x4 : ¬9223372036854775807 < md.length + (nm.length + 1) + 1 + 1 + 1 + 3 := by omega
            have x5 : ¬9223372036854775807 < md.length + (nm.length + 3 + 1) + 1 + 1 + 1 + tt.length := by omega
            have x6 : ¬9223372036854775807 < md.length + (nm.length + (tt.length + 1 + 1 + 1) + 1) + 1 + 1 + 1 + 1 := by omega
            go_wp2_with fail
            refine (cWSk hi2 (by simp only [List.length_cons, List.length_append, List.length_nil]; omega) hb02.size).mono ?_
            rintro e w3 ⟨rfl, hi3, hb3, hk3⟩
            have hi3' : Lib.IsBuilderF 83 5 wU.heap.size w1.heap.size (Lib.byteCells (lnsU x (k + 1))) w3 := by
              rw [hsn]
              simpa [k1] using hi3
            have hb03 : Blw wU.heap.size wU w3 := hb02.trans (Blw.of hb3)
            go_wp2_with fail
            go_roundw
            case rel => exact ⟨k + 1, by omega, by simp, hi3', hb03⟩
            case measure => simp [intOf]; omega
        · obtain rfl : k = x.lines.length := by omega
          have cS := cSTk hB hbx.size
          go_wp2_with fail
          refine cS.mono ?_
          rintro e w4 ⟨rfl, hb4⟩
          go_wp2_with fail
          go_ret2
          exact ⟨rfl, hbU.trans ((hbx.trans (Blw.of hb4)).mono hbU.size)⟩
end Go.Proofs.Mv.App
