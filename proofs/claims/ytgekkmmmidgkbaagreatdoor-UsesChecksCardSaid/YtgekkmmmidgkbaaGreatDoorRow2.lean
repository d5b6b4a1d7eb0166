/- A part of the proofs of the seat YtgekkmmmidgkbaaGreatDoor: the abstract machine, the contracts of the functions, the laws. No condition of its own. -/
import Derived.Test.YtgekkmmmidgkbaaGreatDoorRow1
import Derived.Test.YtgekkmmmidgkbaaGreatDoorP09
set_option linter.unusedSimpArgs false
set_option linter.unusedVariables false
set_option linter.unusedSectionVars false
namespace Go.Proofs.YtgekkmmmidgkbaaGreatDoor
open Go.ChangeShapes Go.WideShapes Go.ChangeAt Go.RowKit Go.Proofs.Mv.V Go.Proofs.Mv.App
set_option maxRecDepth 100000
def TsI : List TypeId := [3, 9, 43, 46, 44, 48, 37, 39, 26]
theorem TsI_ok : ∀ t ∈ TsI, okT Tryz.prog TsI t = true := by
  have h : TsI.all (fun t => okT Tryz.prog TsI t) = true := by kernel_rfl
  exact List.all_eq_true.1 h
theorem TsI_z : ∀ t ∈ TsI, 1 ≤ Tryz.prog.cellsOf t := by
  have h : TsI.all (fun t => decide (1 ≤ Tryz.prog.cellsOf t)) = true := by kernel_rfl
  intro t ht; simpa using List.all_eq_true.1 h t ht
theorem c_nn : Tryz.prog.cellsOf 48 = 8 := by kernel_rfl
theorem c_nns : Tryz.prog.cellsOf 37 = 1 := by kernel_rfl
theorem c_if : Tryz.prog.cellsOf 39 = 5 := by kernel_rfl
theorem u_nn : ∃ fs, Tryz.prog.underlying 48 = some (.struct fs) ∧ fs.toList.map (fun f => (f.offset, f.type)) = [(0, 9), (1, 46)] := ⟨_, Tryz.underlying48, rfl⟩
theorem u_if : ∃ fs, Tryz.prog.underlying 39 = some (.struct fs) ∧ fs.toList.map (fun f => (f.offset, f.type)) = [(0, 9), (1, 3), (2, 9), (3, 37), (4, 37)] := ⟨_, Tryz.underlying39, rfl⟩
theorem ty_nn {n : Nat} {x : List D} (h : TyD Tryz.prog n 48 x) : ∃ d : Nm, x = nnD d ∧ NmW d := by
  cases n with
  | zero => exact h.elim
  | succ n =>
    obtain ⟨fs, hu, hm⟩ := u_nn
    simp only [TyD, hu, c_nn] at h
    obtain ⟨hl, hf⟩ := h
    have get := fields_at (t := 48) hm hf
    match x, hl with
    | a :: c, hl =>
      obtain ⟨s1, h2, l2⟩ := ty_strL (get 0 9 (by simp))
      obtain ⟨t, h3, l3⟩ := ty_ty _ (get 1 46 (by simp))
      have hl7 : c.length = 7 := by simpa using hl
      simp only [c_str, c_ty, List.drop_zero, List.drop_succ_cons, List.take_succ_cons, List.take_zero, List.cons.injEq, and_true, List.take_of_length_le (Nat.le_of_eq hl7)] at h2 h3
      exact ⟨(s1, t), by rw [h2, h3]; rfl, l2, l3⟩
theorem ty_nns {n : Nat} {x : List D} (h : TyD Tryz.prog n 37 x) : ∃ l : List Nm, x = [.sl 8 (l.map nnD)] ∧ l.length ≤ 9223372036854775807 ∧ ∀ d ∈ l, NmW d := by
  cases n with
  | zero => exact h.elim
  | succ n =>
    simp only [TyD, Tryz.underlying37, c_nn] at h
    obtain ⟨es, rfl, hl, he⟩ := h
    obtain ⟨r, rfl, hr⟩ := map_ofP (f := nnD) (Q := NmW) es fun e hx => ty_nn (he e hx)
    refine ⟨r, rfl, ?_, hr⟩
    have : maxLen = 9223372036854775807 := by decide
    simp at hl; omega
theorem ty_if {n : Nat} {x : List D} (h : TyD Tryz.prog n 39 x) : ∃ f : Ifc, x = ifD f ∧ IfcW f := by
  cases n with
  | zero => exact h.elim
  | succ n =>
    obtain ⟨fs, hu, hm⟩ := u_if
    simp only [TyD, hu, c_if] at h
    obtain ⟨hl, hf⟩ := h
    have get := fields_at (t := 39) hm hf
    match x, hl with
    | [a, b, c, d, e], _ =>
      obtain ⟨s1, h1, l1⟩ := ty_strL (get 0 9 (by simp))
      obtain ⟨j, h2⟩ := ty_int (get 1 3 (by simp))
      obtain ⟨s2, h3, l3⟩ := ty_strL (get 2 9 (by simp))
      obtain ⟨t1, h4, l4, q4⟩ := ty_nns (get 3 37 (by simp))
      obtain ⟨t2, h5, l5, q5⟩ := ty_nns (get 4 37 (by simp))
      simp only [c_int, c_str, c_nns, List.drop_zero, List.drop_succ_cons, List.take_succ_cons, List.take_zero, List.cons.injEq, and_true] at h1 h2 h3 h4 h5
      exact ⟨⟨s1, j, s2, t1, t2⟩, by rw [h1, h2, h3, h4, h5]; rfl, l4, l5, q4, q5, l1, l3⟩
theorem ty_ifs {n : Nat} {x : List D} (h : TyD Tryz.prog n 26 x) : ∃ l : List Ifc, x = [.sl 5 (l.map ifD)] ∧ l.length ≤ 9223372036854775807 ∧ ∀ d ∈ l, IfcW d := by
  cases n with
  | zero => exact h.elim
  | succ n =>
    simp only [TyD, Tryz.underlying26, c_if] at h
    obtain ⟨es, rfl, hl, he⟩ := h
    obtain ⟨r, rfl, hr⟩ := map_ofP (f := ifD) (Q := IfcW) es fun e hx => ty_if (he e hx)
    refine ⟨r, rfl, ?_, hr⟩
    have : maxLen = 9223372036854775807 := by decide
    simp at hl; omega
section
variable {W : World} {H : Type} {enc : TypeId × Value → H} {v : Value} {d : DataW H} {ps : List MemPlace}
theorem arg_ifs (hval : Value.okWide Tryz.prog W .any 0 26 v) (h : DataW.Trod enc Tryz.prog W 0 (fun _ => true) true 26 v d ps) : ∃ l : List Ifc, Con W nu0 (F0 W) (.sl 5 (l.map ifD)) v ∧ l.length ≤ 9223372036854775807 ∧ ∀ f ∈ l, IfcW f := by
  obtain ⟨a, l, c, rfl⟩ := okWide_slice Tryz.underlying26 hval
  obtain ⟨n, ds, h1, h2, h3, _⟩ := read_arg TsI_ok TsI_z (by simp [TsI]) h
  obtain ⟨s, rfl, h4, h5⟩ := ty_ifs h3
  exact ⟨s, con_of_one h1 (by simp), h4, h5⟩
end
end Go.Proofs.YtgekkmmmidgkbaaGreatDoor
