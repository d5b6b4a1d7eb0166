/- A part of the proofs: machine, contracts, laws. No condition of its own. -/
import Derived.Test.YtndinledjelleaaGreatDoorRow0
import Derived.Test.YtndinledjelleaaGreatDoorP06
import Derived.Test.YtndinledjelleaaGreatDoorMvD
set_option linter.unusedSimpArgs false
set_option linter.unusedVariables false
set_option linter.unusedSectionVars false
namespace Go.Proofs.YtndinledjelleaaGreatDoor
open Go.ChangeShapes Go.WideShapes Go.ChangeAt Go.RowKit Go.Proofs.Mv.V Go.Proofs.Mv.App
set_option maxRecDepth 100000
theorem c_int : Tryz.prog.cellsOf 3 = 1 := by kernel_rfl
theorem c_str : Tryz.prog.cellsOf 9 = 1 := by kernel_rfl
theorem c_ty : Tryz.prog.cellsOf 33 = 7 := by kernel_rfl
theorem c_tys : Tryz.prog.cellsOf 25 = 1 := by kernel_rfl
theorem c_strs : Tryz.prog.cellsOf 26 = 1 := by kernel_rfl
theorem u_ty : ∃ fs, Tryz.prog.underlying 33 = some (.struct fs) ∧ fs.toList.map (fun f => (f.offset, f.type)) = [(0, 3), (1, 9), (2, 3), (3, 9), (4, 9), (5, 26), (6, 25)] := ⟨_, Tryz.underlying33, rfl⟩
theorem ty_int {n : Nat} {x : List D} (h : TyD Tryz.prog n 3 x) : ∃ i : Int, x = [I i] := by
 cases n with
 | zero => exact h.elim
 | succ n =>
  simp only [TyD, Tryz.underlying3] at h
  obtain ⟨i, rfl, _⟩ := h
  exact ⟨i, rfl⟩
theorem ty_strL {n : Nat} {x : List D} (h : TyD Tryz.prog n 9 x) : ∃ s : List UInt8, x = [S s] ∧ s.length ≤ 9223372036854775807 := by
 cases n with
 | zero => exact h.elim
 | succ n =>
  simp only [TyD, Tryz.underlying9] at h
  obtain ⟨i, rfl, hl⟩ := h
  exact ⟨i, rfl, by have : maxLen = 9223372036854775807 := by decide
                    omega⟩
theorem map_ofP {α β : Type} {f : α → β} {Q : α → Prop} (l : List β) (h : ∀ x ∈ l, ∃ a, x = f a ∧ Q a) : ∃ r : List α, l = r.map f ∧ ∀ a ∈ r, Q a := by
 induction l with
 | nil => exact ⟨[], rfl, by simp⟩
 | cons x l ih =>
  obtain ⟨a, rfl, ha⟩ := h x (by simp)
  obtain ⟨r, rfl, hr⟩ := ih fun y hy => h y (by simp [hy])
  exact ⟨a :: r, rfl, by simpa using ⟨ha, hr⟩⟩
theorem ty_strs {n : Nat} {x : List D} (h : TyD Tryz.prog n 26 x) : ∃ l : List (List UInt8), x = [sl1 l] ∧ l.length ≤ 9223372036854775807 ∧ ∀ s ∈ l, s.length ≤ 9223372036854775807 := by
 cases n with
 | zero => exact h.elim
 | succ n =>
  simp only [TyD, Tryz.underlying26, c_str] at h
  obtain ⟨es, rfl, hl, he⟩ := h
  obtain ⟨r, rfl, hr⟩ := map_ofP (f := fun s => [S s]) (Q := fun s => s.length ≤ 9223372036854775807) es fun e hx => ty_strL (he e hx)
  refine ⟨r, rfl, ?_, hr⟩
  have : maxLen = 9223372036854775807 := by decide
  simp at hl; omega
theorem fields_at {n : Nat} {t : TypeId} {x : List D} {fs : Array Field} {L : List (Nat × TypeId)} (hm : fs.toList.map (fun f => (f.offset, f.type)) = L) (hf : ∀ f ∈ fs.toList, TyD Tryz.prog n f.type ((x.drop f.offset).take (Tryz.prog.cellsOf f.type))) :
  ∀ o t, (o, t) ∈ L → TyD Tryz.prog n t ((x.drop o).take (Tryz.prog.cellsOf t)) := by
 intro o t ht
 rw [← hm] at ht
 obtain ⟨f, hf1, hf2⟩ := List.mem_map.1 ht
 simp only [Prod.mk.injEq] at hf2
 obtain ⟨rfl, rfl⟩ := hf2
 exact hf f hf1
theorem ty_ty (n : Nat) : ∀ {x : List D}, TyD Tryz.prog n 33 x → ∃ t : Ty, x = tyD t ∧ TyW t := by
 induction n using Nat.strongRecOn with
 | _ n ih =>
  intro x h
  cases n with
  | zero => exact h.elim
  | succ n =>
   obtain ⟨fs, hu, hm⟩ := u_ty
   simp only [TyD, hu, c_ty] at h
   obtain ⟨hl, hf⟩ := h
   have get := fields_at (t := 33) hm hf
   match x, hl with
   | [a, b, c, d, e, f, g], _ =>
    obtain ⟨i, h1⟩ := ty_int (get 0 3 (by simp))
    obtain ⟨s1, h2, l2⟩ := ty_strL (get 1 9 (by simp))
    obtain ⟨j, h3⟩ := ty_int (get 2 3 (by simp))
    obtain ⟨s2, h4, l4⟩ := ty_strL (get 3 9 (by simp))
    obtain ⟨s3, h5, l5⟩ := ty_strL (get 4 9 (by simp))
    obtain ⟨ns, h6, l6, q6⟩ := ty_strs (get 5 26 (by simp))
    have h7 := get 6 25 (by simp)
    simp only [c_int, c_str, c_strs, c_tys, List.drop_zero, List.drop_succ_cons, List.take_succ_cons, List.take_zero, List.cons.injEq, and_true] at h1 h2 h3 h4 h5 h6 h7
    cases n with
    | zero => exact h7.elim
    | succ n =>
     simp only [TyD, Tryz.underlying25, c_ty] at h7
     obtain ⟨es, h8, hl8, he⟩ := h7
     obtain ⟨r, rfl, hr⟩ := map_ofP (f := tyD) (Q := TyW) es fun e hx => ih n (by omega) (he e hx)
     have hM : maxLen = 9223372036854775807 := by decide
     simp only [List.length_map] at hl8
     simp only [List.cons.injEq, and_true] at h8
     refine ⟨.mk i s1 j s2 s3 ns r, ?_, .mk _ _ _ _ _ _ _ l6 (by omega) l2 l4 l5 q6 hr⟩
     rw [h1, h2, h3, h4, h5, h6, h8]
     simp only [tyD, tysD_eq]
end Go.Proofs.YtndinledjelleaaGreatDoor
