/- A part of the proofs: machine, contracts, laws. No condition of its own. -/
import Derived.Test.YtndinledjelleaaGreatDoorRow2
import Derived.Test.YtndinledjelleaaGreatDoorP09
import Derived.Test.YtndinledjelleaaGreatDoorMvD
set_option linter.unusedSimpArgs false
set_option linter.unusedVariables false
set_option linter.unusedSectionVars false
namespace Go.Proofs.YtndinledjelleaaGreatDoor
open Go.ChangeShapes Go.WideShapes Go.ChangeAt Go.RowKit Go.Proofs.Mv.V Go.Proofs.Mv.App
set_option maxRecDepth 100000
def TsP : List TypeId := [3, 9, 26, 33, 25, 29, 27, 95, 22, 89, 49, 51]
theorem TsP_ok : ∀ t ∈ TsP, okT Tryz.prog TsP t = true := by
 have h : TsP.all (fun t => okT Tryz.prog TsP t) = true := by kernel_rfl
 exact List.all_eq_true.1 h
theorem TsP_z : ∀ t ∈ TsP, 1 ≤ Tryz.prog.cellsOf t := by
 have h : TsP.all (fun t => decide (1 ≤ Tryz.prog.cellsOf t)) = true := by kernel_rfl
 intro t ht; simpa using List.all_eq_true.1 h t ht
theorem c_imp : Tryz.prog.cellsOf 95 = 4 := by kernel_rfl
theorem c_imps : Tryz.prog.cellsOf 22 = 1 := by kernel_rfl
theorem c_let : Tryz.prog.cellsOf 89 = 9 := by kernel_rfl
theorem c_lets : Tryz.prog.cellsOf 49 = 1 := by kernel_rfl
theorem u_imp : ∃ fs, Tryz.prog.underlying 95 = some (.struct fs) ∧ fs.toList.map (fun f => (f.offset, f.type)) = [(0, 9), (1, 3), (2, 9), (3, 9)] := ⟨_, Tryz.underlying95, rfl⟩
theorem u_let : ∃ fs, Tryz.prog.underlying 89 = some (.struct fs) ∧ fs.toList.map (fun f => (f.offset, f.type)) = [(0, 9), (1, 29)] := ⟨_, Tryz.underlying89, rfl⟩
theorem u_pg : ∃ fs, Tryz.prog.underlying 51 = some (.struct fs) ∧ fs.toList.map (fun f => (f.offset, f.type)) = [(0, 22), (1, 49)] := ⟨_, Tryz.underlying51, rfl⟩
theorem c_pg : Tryz.prog.cellsOf 51 = 2 := by kernel_rfl
theorem ty_imp {n : Nat} {x : List D} (h : TyD Tryz.prog n 95 x) : ∃ i : Imp, x = impD i ∧ ImpWU i := by
 cases n with
 | zero => exact h.elim
 | succ n =>
  obtain ⟨fs, hu, hm⟩ := u_imp
  simp only [TyD, hu, c_imp] at h
  obtain ⟨hl, hf⟩ := h
  have get := fields_at (t := 95) hm hf
  match x, hl with
  | [a, b, c, d], _ =>
   obtain ⟨s1, h1, l1⟩ := ty_strL (get 0 9 (by simp))
   obtain ⟨j, h2⟩ := ty_int (get 1 3 (by simp))
   obtain ⟨s2, h3, l3⟩ := ty_strL (get 2 9 (by simp))
   obtain ⟨s3, h4, l4⟩ := ty_strL (get 3 9 (by simp))
   simp only [c_int, c_str, List.drop_zero, List.drop_succ_cons, List.take_succ_cons, List.take_zero, List.cons.injEq, and_true] at h1 h2 h3 h4
   exact ⟨⟨s1, j, s2, s3⟩, by rw [h1, h2, h3, h4]; rfl, l1, l3, l4⟩
theorem ty_let {n : Nat} {x : List D} (h : TyD Tryz.prog n 89 x) : ∃ l : Lt, x = ltD l ∧ LtW l := by
 cases n with
 | zero => exact h.elim
 | succ n =>
  obtain ⟨fs, hu, hm⟩ := u_let
  simp only [TyD, hu, c_let] at h
  obtain ⟨hl, hf⟩ := h
  have get := fields_at (t := 89) hm hf
  match x, hl with
  | a :: c, hl =>
   obtain ⟨s1, h1, l1⟩ := ty_strL (get 0 9 (by simp))
   obtain ⟨y, h2, hy⟩ := ty_tm _ (get 1 29 (by simp))
   have hc : c.length = 8 := by simpa using hl
   simp only [c_str, c_tm, List.drop_zero, List.drop_succ_cons, List.take_succ_cons, List.take_zero, List.cons.injEq, and_true] at h1 h2
   rw [List.take_of_length_le (by omega)] at h2
   exact ⟨⟨s1, y⟩, by rw [h1, h2]; rfl, l1, hy⟩
theorem ty_pg {n : Nat} {x : List D} (h : TyD Tryz.prog n 51 x) : ∃ p : Pg, x = pgD p ∧ PgW p := by
 cases n with
 | zero => exact h.elim
 | succ n =>
  obtain ⟨fs, hu, hm⟩ := u_pg
  simp only [TyD, hu, c_pg] at h
  obtain ⟨hl, hf⟩ := h
  have get := fields_at (t := 51) hm hf
  have hM : maxLen = 9223372036854775807 := by decide
  match x, hl with
  | [a, b], _ =>
   have h1 := get 0 22 (by simp)
   have h2 := get 1 49 (by simp)
   simp only [c_imps, c_lets, List.drop_zero, List.drop_succ_cons, List.take_succ_cons, List.take_zero] at h1 h2
   cases n with
   | zero => exact h1.elim
   | succ n =>
    simp only [TyD, Tryz.underlying22, c_imp] at h1
    simp only [TyD, Tryz.underlying49, c_let] at h2
    obtain ⟨e1, g1, l1, q1⟩ := h1
    obtain ⟨e2, g2, l2, q2⟩ := h2
    obtain ⟨r1, rfl, w1⟩ := map_ofP (f := impD) (Q := ImpWU) e1 fun e hx => ty_imp (q1 e hx)
    obtain ⟨r2, rfl, w2⟩ := map_ofP (f := ltD) (Q := LtW) e2 fun e hx => ty_let (q2 e hx)
    simp only [List.length_map] at l1 l2
    simp only [List.cons.injEq, and_true] at g1 g2
    exact ⟨⟨r1, r2⟩, by rw [g1, g2]; rfl, by simp only; omega, by simp only; omega, w1, w2⟩
section
variable {W : World} {H : Type} {enc : TypeId × Value → H} {v : Value} {d : DataW H} {ps : List MemPlace}
theorem arg_pg (hval : Value.okWide Tryz.prog W .any 0 51 v) (h : DataW.Trod enc Tryz.prog W 0 (fun _ => true) true 51 v d ps) : ∃ x, Con W nu0 (F0 W) (.agg (pgD x)) v ∧ PgW x := by
 obtain ⟨fs, hu, _⟩ := u_pg
 obtain ⟨cs, rfl, _⟩ := okWide_struct hu hval
 obtain ⟨n, ds, h1, h2, h3, _⟩ := read_arg TsP_ok TsP_z (by simp [TsP]) h
 obtain ⟨x, rfl, hx⟩ := ty_pg h3
 exact ⟨x, con_of_agg h1 h2, hx⟩
end
end Go.Proofs.YtndinledjelleaaGreatDoor
