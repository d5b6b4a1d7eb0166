/- A part of the proofs: machine, contracts, laws. No condition of its own. -/
import Derived.Test.YtihbegkefjjhpaaGreatDoorRow1
import Derived.Test.YtihbegkefjjhpaaGreatDoorP03
set_option linter.unusedSimpArgs false
set_option linter.unusedVariables false
set_option linter.unusedSectionVars false
namespace Go.Proofs.YtihbegkefjjhpaaGreatDoor
open Go.ChangeShapes Go.WideShapes Go.ChangeAt Go.RowKit Go.Proofs.Mv.V Go.Proofs.Mv.App
set_option maxRecDepth 100000
def TsT : List TypeId := [3, 9, 22, 54, 23, 26, 24]
theorem TsT_ok : ∀ t ∈ TsT, okT Tryz.prog TsT t = true := by
 have h : TsT.all (fun t => okT Tryz.prog TsT t) = true := by kernel_rfl
 exact List.all_eq_true.1 h
theorem TsT_z : ∀ t ∈ TsT, 1 ≤ Tryz.prog.cellsOf t := by
 have h : TsT.all (fun t => decide (1 ≤ Tryz.prog.cellsOf t)) = true := by kernel_rfl
 intro t ht; simpa using List.all_eq_true.1 h t ht
theorem c_tm : Tryz.prog.cellsOf 26 = 8 := by kernel_rfl
theorem c_tms : Tryz.prog.cellsOf 24 = 1 := by kernel_rfl
theorem u_tm : ∃ fs, Tryz.prog.underlying 26 = some (.struct fs) ∧ fs.toList.map (fun f => (f.offset, f.type)) = [(0, 3), (1, 3), (2, 9), (3, 9), (4, 22), (5, 22), (6, 23), (7, 24)] := ⟨_, Tryz.underlying26, rfl⟩
theorem ty_tys {n : Nat} {x : List D} (h : TyD Tryz.prog n 23 x) : ∃ l : List Ty, x = [.sl 7 (l.map tyD)] ∧ l.length ≤ 9223372036854775807 ∧ ∀ d ∈ l, TyW d := by
 cases n with
 | zero => exact h.elim
 | succ n =>
  simp only [TyD, Tryz.underlying23, c_ty] at h
  obtain ⟨es, rfl, hl, he⟩ := h
  obtain ⟨r, rfl, hr⟩ := map_ofP (f := tyD) (Q := TyW) es fun e hx => ty_ty n (he e hx)
  refine ⟨r, rfl, ?_, hr⟩
  have : maxLen = 9223372036854775807 := by decide
  simp at hl; omega
theorem ty_tm (n : Nat) : ∀ {x : List D}, TyD Tryz.prog n 26 x → ∃ t : Tm, x = tmD t ∧ TmW t := by
 induction n using Nat.strongRecOn with
 | _ n ih =>
  intro x h
  cases n with
  | zero => exact h.elim
  | succ n =>
   obtain ⟨fs, hu, hm⟩ := u_tm
   simp only [TyD, hu, c_tm] at h
   obtain ⟨hl, hf⟩ := h
   have get := fields_at (t := 26) hm hf
   match x, hl with
   | [a, b, c, d, e, f, g, i], _ =>
    obtain ⟨v1, h1⟩ := ty_int (get 0 3 (by simp))
    obtain ⟨v2, h2⟩ := ty_int (get 1 3 (by simp))
    obtain ⟨s1, h3, l3⟩ := ty_strL (get 2 9 (by simp))
    obtain ⟨s2, h4, l4⟩ := ty_strL (get 3 9 (by simp))
    obtain ⟨ns, h5, l5, q5⟩ := ty_strs (get 4 22 (by simp))
    obtain ⟨vs, h6, l6, q6⟩ := ty_strs (get 5 22 (by simp))
    obtain ⟨ys, h7, l7, q7⟩ := ty_tys (get 6 23 (by simp))
    have h8 := get 7 24 (by simp)
    simp only [c_int, c_str, c_strs, c_tys, c_tms, List.drop_zero, List.drop_succ_cons, List.take_succ_cons, List.take_zero, List.cons.injEq, and_true] at h1 h2 h3 h4 h5 h6 h7 h8
    cases n with
    | zero => exact h8.elim
    | succ n =>
     simp only [TyD, Tryz.underlying24, c_tm] at h8
     obtain ⟨es, h9, hl9, he⟩ := h8
     obtain ⟨r, rfl, hr⟩ := map_ofP (f := tmD) (Q := TmW) es fun e hx => ih n (by omega) (he e hx)
     have hM : maxLen = 9223372036854775807 := by decide
     simp only [List.length_map] at hl9
     simp only [List.cons.injEq, and_true] at h9
     refine ⟨.mk v1 v2 s1 s2 ns vs ys r, ?_, .mk _ _ _ _ _ _ _ _ l5 l6 l7 (by omega) l3 l4 q5 q6 q7 hr⟩
     rw [h1, h2, h3, h4, h5, h6, h7, h9]
     simp only [tmD, tmsD_eq]
section
variable {W : World} {H : Type} {enc : TypeId × Value → H} {v : Value} {d : DataW H} {ps : List MemPlace}
theorem arg_tm (hval : Value.okWide Tryz.prog W .any 0 26 v) (h : DataW.Trod enc Tryz.prog W 0 (fun _ => true) true 26 v d ps) : ∃ x, Con W nu0 (F0 W) (.agg (tmD x)) v ∧ TmW x := by
 obtain ⟨fs, hu, _⟩ := u_tm
 obtain ⟨cs, rfl, _⟩ := okWide_struct hu hval
 obtain ⟨n, ds, h1, h2, h3, _⟩ := read_arg TsT_ok TsT_z (by simp [TsT]) h
 obtain ⟨x, rfl, hx⟩ := ty_tm _ h3
 exact ⟨x, con_of_agg h1 h2, hx⟩
end
end Go.Proofs.YtihbegkefjjhpaaGreatDoor
