/- A part of the proofs: machine, contracts, laws. No condition of its own. -/
import Derived.Test.YtndinledjelleaaGreatDoorRow1
import Derived.Test.YtndinledjelleaaGreatDoorP06
set_option linter.unusedSimpArgs false
set_option linter.unusedVariables false
set_option linter.unusedSectionVars false
namespace Go.Proofs.YtndinledjelleaaGreatDoor
open Go.ChangeShapes Go.WideShapes Go.ChangeAt Go.RowKit Go.Proofs.Mv.V Go.Proofs.Mv.App
set_option maxRecDepth 100000
theorem c_tm : Tryz.prog.cellsOf 29 = 8 := by kernel_rfl
theorem c_tms : Tryz.prog.cellsOf 27 = 1 := by kernel_rfl
theorem u_tm : ∃ fs, Tryz.prog.underlying 29 = some (.struct fs) ∧ fs.toList.map (fun f => (f.offset, f.type)) = [(0, 3), (1, 3), (2, 9), (3, 9), (4, 26), (5, 26), (6, 25), (7, 27)] := ⟨_, Tryz.underlying29, rfl⟩
theorem ty_tys {n : Nat} {x : List D} (h : TyD Tryz.prog n 25 x) : ∃ l : List Ty, x = [.sl 7 (l.map tyD)] ∧ l.length ≤ 9223372036854775807 ∧ ∀ d ∈ l, TyW d := by
 cases n with
 | zero => exact h.elim
 | succ n =>
  simp only [TyD, Tryz.underlying25, c_ty] at h
  obtain ⟨es, rfl, hl, he⟩ := h
  obtain ⟨r, rfl, hr⟩ := map_ofP (f := tyD) (Q := TyW) es fun e hx => ty_ty n (he e hx)
  refine ⟨r, rfl, ?_, hr⟩
  have : maxLen = 9223372036854775807 := by decide
  simp at hl; omega
theorem ty_tm (n : Nat) : ∀ {x : List D}, TyD Tryz.prog n 29 x → ∃ t : Tm, x = tmD t ∧ TmW t := by
 induction n using Nat.strongRecOn with
 | _ n ih =>
  intro x h
  cases n with
  | zero => exact h.elim
  | succ n =>
   obtain ⟨fs, hu, hm⟩ := u_tm
   simp only [TyD, hu, c_tm] at h
   obtain ⟨hl, hf⟩ := h
   have get := fields_at (t := 29) hm hf
   match x, hl with
   | [a, b, c, d, e, f, g, i], _ =>
    obtain ⟨v1, h1⟩ := ty_int (get 0 3 (by simp))
    obtain ⟨v2, h2⟩ := ty_int (get 1 3 (by simp))
    obtain ⟨s1, h3, l3⟩ := ty_strL (get 2 9 (by simp))
    obtain ⟨s2, h4, l4⟩ := ty_strL (get 3 9 (by simp))
    obtain ⟨ns, h5, l5, q5⟩ := ty_strs (get 4 26 (by simp))
    obtain ⟨vs, h6, l6, q6⟩ := ty_strs (get 5 26 (by simp))
    obtain ⟨ys, h7, l7, q7⟩ := ty_tys (get 6 25 (by simp))
    have h8 := get 7 27 (by simp)
    simp only [c_int, c_str, c_strs, c_tys, c_tms, List.drop_zero, List.drop_succ_cons, List.take_succ_cons, List.take_zero, List.cons.injEq, and_true] at h1 h2 h3 h4 h5 h6 h7 h8
    cases n with
    | zero => exact h8.elim
    | succ n =>
     simp only [TyD, Tryz.underlying27, c_tm] at h8
     obtain ⟨es, h9, hl9, he⟩ := h8
     obtain ⟨r, rfl, hr⟩ := map_ofP (f := tmD) (Q := TmW) es fun e hx => ih n (by omega) (he e hx)
     have hM : maxLen = 9223372036854775807 := by decide
     simp only [List.length_map] at hl9
     simp only [List.cons.injEq, and_true] at h9
     refine ⟨.mk v1 v2 s1 s2 ns vs ys r, ?_, .mk _ _ _ _ _ _ _ _ l5 l6 l7 (by omega) l3 l4 q5 q6 q7 hr⟩
     rw [h1, h2, h3, h4, h5, h6, h7, h9]
     simp only [tmD, tmsD_eq]
section
variable {W : World} {H : Type} {enc : TypeId × Value → H} {v : Value} {d : DataW H} {ps : List MemPlace}
end
end Go.Proofs.YtndinledjelleaaGreatDoor
