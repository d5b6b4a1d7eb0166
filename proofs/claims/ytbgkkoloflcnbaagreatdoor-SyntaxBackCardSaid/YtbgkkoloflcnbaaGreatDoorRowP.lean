/- A part of the proofs of the seat YtbgkkoloflcnbaaGreatDoor: the abstract machine, the contracts of the functions, the laws. No condition of its own. -/
import Derived.Test.YtbgkkoloflcnbaaGreatDoorLawRow
import Derived.Test.YtbgkkoloflcnbaaGreatDoorRt
set_option linter.unusedSimpArgs false
set_option linter.unusedVariables false
set_option linter.unusedSectionVars false
namespace Go.Proofs.YtbgkkoloflcnbaaGreatDoor
open Go.ChangeShapes Go.WideShapes Go.ChangeAt Go.RowKit Go.Proofs.Mv.V Go.Proofs.Mv.App
set_option maxRecDepth 100000
def Ts6 : List TypeId := [3, 9, 40, 43, 41, 129, 59, 123, 60, 62]
theorem Ts6_ok : ∀ t ∈ Ts6, okT Tryz.prog Ts6 t = true := by
  have h : Ts6.all (fun t => okT Tryz.prog Ts6 t) = true := by kernel_rfl
  exact List.all_eq_true.1 h
theorem Ts6_z : ∀ t ∈ Ts6, 1 ≤ Tryz.prog.cellsOf t := by
  have h : Ts6.all (fun t => decide (1 ≤ Tryz.prog.cellsOf t)) = true := by kernel_rfl
  intro t ht; simpa using List.all_eq_true.1 h t ht
theorem c_ty : Tryz.prog.cellsOf 43 = 7 := by kernel_rfl
theorem c_tys : Tryz.prog.cellsOf 41 = 1 := by kernel_rfl
theorem c_strs : Tryz.prog.cellsOf 40 = 1 := by kernel_rfl
theorem c_imp : Tryz.prog.cellsOf 129 = 4 := by kernel_rfl
theorem c_imps : Tryz.prog.cellsOf 59 = 1 := by kernel_rfl
theorem c_dcl : Tryz.prog.cellsOf 123 = 9 := by kernel_rfl
theorem c_dcls : Tryz.prog.cellsOf 60 = 1 := by kernel_rfl
theorem c_mod : Tryz.prog.cellsOf 62 = 3 := by kernel_rfl
theorem u_ty : ∃ fs, Tryz.prog.underlying 43 = some (.struct fs) ∧ fs.toList.map (fun f => (f.offset, f.type)) = [(0, 3), (1, 9), (2, 3), (3, 9), (4, 9), (5, 40), (6, 41)] := ⟨_, Tryz.underlying43, rfl⟩
theorem u_imp : ∃ fs, Tryz.prog.underlying 129 = some (.struct fs) ∧ fs.toList.map (fun f => (f.offset, f.type)) = [(0, 9), (1, 3), (2, 9), (3, 9)] := ⟨_, Tryz.underlying129, rfl⟩
theorem u_dcl : ∃ fs, Tryz.prog.underlying 123 = some (.struct fs) ∧ fs.toList.map (fun f => (f.offset, f.type)) = [(0, 3), (1, 9), (2, 43)] := ⟨_, Tryz.underlying123, rfl⟩
theorem u_mod : ∃ fs, Tryz.prog.underlying 62 = some (.struct fs) ∧ fs.toList.map (fun f => (f.offset, f.type)) = [(0, 9), (1, 59), (2, 60)] := ⟨_, Tryz.underlying62, rfl⟩
theorem ty_strL {n : Nat} {x : List D} (h : TyD Tryz.prog n 9 x) : ∃ s : List UInt8, x = [S s] ∧ s.length ≤ 9223372036854775807 := by
  cases n with
  | zero => exact h.elim
  | succ n =>
    simp only [TyD, Tryz.underlying9] at h
    obtain ⟨i, rfl, hl⟩ := h
    exact ⟨i, rfl, by have : maxLen = 9223372036854775807 := by decide
                      omega⟩
theorem map_ofP {α β : Type} {f : α → β} {Q : α → Prop} (l : List β) (h : ∀ x ∈ l, ∃ a, x = f a ∧ Q a) : ∃ r : List α, l = r.map f ∧ ∀ a ∈ r, Q a := by
  induction l with
  | nil => exact ⟨[], rfl, by simp⟩
  | cons x l ih =>
    obtain ⟨a, rfl, ha⟩ := h x (by simp)
    obtain ⟨r, rfl, hr⟩ := ih fun y hy => h y (by simp [hy])
    exact ⟨a :: r, rfl, by simpa using ⟨ha, hr⟩⟩
theorem ty_strs {n : Nat} {x : List D} (h : TyD Tryz.prog n 40 x) : ∃ l : List (List UInt8), x = [sl1 l] ∧ l.length ≤ 9223372036854775807 ∧ ∀ s ∈ l, s.length ≤ 9223372036854775807 := by
  cases n with
  | zero => exact h.elim
  | succ n =>
    simp only [TyD, Tryz.underlying40, c_str] at h
    obtain ⟨es, rfl, hl, he⟩ := h
    obtain ⟨r, rfl, hr⟩ := map_ofP (f := fun s => [S s]) (Q := fun s => s.length ≤ 9223372036854775807) es fun e hx => ty_strL (he e hx)
    refine ⟨r, rfl, ?_, hr⟩
    have : maxLen = 9223372036854775807 := by decide
    simp at hl; omega
/-- The fields of what is laid out so. -/
theorem fields_at {n : Nat} {t : TypeId} {x : List D} {fs : Array Field} {L : List (Nat × TypeId)} (hm : fs.toList.map (fun f => (f.offset, f.type)) = L) (hf : ∀ f ∈ fs.toList, TyD Tryz.prog n f.type ((x.drop f.offset).take (Tryz.prog.cellsOf f.type))) :
    ∀ o t, (o, t) ∈ L → TyD Tryz.prog n t ((x.drop o).take (Tryz.prog.cellsOf t)) := by
  intro o t ht
  rw [← hm] at ht
  obtain ⟨f, hf1, hf2⟩ := List.mem_map.1 ht
  simp only [Prod.mk.injEq] at hf2
  obtain ⟨rfl, rfl⟩ := hf2
  exact hf f hf1
theorem ty_ty (n : Nat) : ∀ {x : List D}, TyD Tryz.prog n 43 x → ∃ t : Ty, x = tyD t ∧ TyW t := by
  induction n using Nat.strongRecOn with
  | _ n ih =>
    intro x h
    cases n with
    | zero => exact h.elim
    | succ n =>
      obtain ⟨fs, hu, hm⟩ := u_ty
      simp only [TyD, hu, c_ty] at h
      obtain ⟨hl, hf⟩ := h
      have get := fields_at (t := 43) hm hf
      match x, hl with
      | [a, b, c, d, e, f, g], _ =>
        obtain ⟨i, h1⟩ := ty_int (get 0 3 (by simp))
        obtain ⟨s1, h2, l2⟩ := ty_strL (get 1 9 (by simp))
        obtain ⟨j, h3⟩ := ty_int (get 2 3 (by simp))
        obtain ⟨s2, h4, l4⟩ := ty_strL (get 3 9 (by simp))
        obtain ⟨s3, h5, l5⟩ := ty_strL (get 4 9 (by simp))
        obtain ⟨ns, h6, l6, q6⟩ := ty_strs (get 5 40 (by simp))
        have h7 := get 6 41 (by simp)
        simp only [c_int, c_str, c_strs, c_tys, List.drop_zero, List.drop_succ_cons, List.take_succ_cons, List.take_zero, List.cons.injEq, and_true] at h1 h2 h3 h4 h5 h6 h7
        cases n with
        | zero => exact h7.elim
        | succ n =>
          simp only [TyD, Tryz.underlying41, c_ty] at h7
          obtain ⟨es, h8, hl8, he⟩ := h7
          obtain ⟨r, rfl, hr⟩ := map_ofP (f := tyD) (Q := TyW) es fun e hx => ih n (by omega) (he e hx)
          have hM : maxLen = 9223372036854775807 := by decide
          simp only [List.length_map] at hl8
          simp only [List.cons.injEq, and_true] at h8
          refine ⟨.mk i s1 j s2 s3 ns r, ?_, .mk _ _ _ _ _ _ _ l6 (by omega) l2 l4 l5 q6 hr⟩
          rw [h1, h2, h3, h4, h5, h6, h8]
          simp only [tyD, tysD_eq]
theorem ty_imp {n : Nat} {x : List D} (h : TyD Tryz.prog n 129 x) : ∃ i : Imp, x = impD i ∧ ImpW i := by
  cases n with
  | zero => exact h.elim
  | succ n =>
    obtain ⟨fs, hu, hm⟩ := u_imp
    simp only [TyD, hu, c_imp] at h
    obtain ⟨hl, hf⟩ := h
    have get := fields_at (t := 129) hm hf
    match x, hl with
    | [a, b, c, d], _ =>
      obtain ⟨s1, h1, l1⟩ := ty_strL (get 0 9 (by simp))
      obtain ⟨j, h2⟩ := ty_int (get 1 3 (by simp))
      obtain ⟨s2, h3, l3⟩ := ty_strL (get 2 9 (by simp))
      obtain ⟨s3, h4, l4⟩ := ty_strL (get 3 9 (by simp))
      simp only [c_int, c_str, List.drop_zero, List.drop_succ_cons, List.take_succ_cons, List.take_zero, List.cons.injEq, and_true] at h1 h2 h3 h4
      exact ⟨⟨s1, j, s2, s3⟩, by rw [h1, h2, h3, h4]; rfl, l1, l3, l4⟩
theorem ty_dcl {n : Nat} {x : List D} (h : TyD Tryz.prog n 123 x) : ∃ d : Dcl, x = dclD d ∧ DclW d := by
  cases n with
  | zero => exact h.elim
  | succ n =>
    obtain ⟨fs, hu, hm⟩ := u_dcl
    simp only [TyD, hu, c_dcl] at h
    obtain ⟨hl, hf⟩ := h
    have get := fields_at (t := 123) hm hf
    match x, hl with
    | a :: b :: c, hl =>
      obtain ⟨j, h1⟩ := ty_int (get 0 3 (by simp))
      obtain ⟨s1, h2, l2⟩ := ty_strL (get 1 9 (by simp))
      obtain ⟨t, h3, l3⟩ := ty_ty _ (get 2 43 (by simp))
      have hl7 : c.length = 7 := by simpa using hl
      simp only [c_int, c_str, c_ty, List.drop_zero, List.drop_succ_cons, List.take_succ_cons, List.take_zero, List.cons.injEq, and_true, List.take_of_length_le (Nat.le_of_eq hl7)] at h1 h2 h3
      exact ⟨⟨j, s1, t⟩, by rw [h1, h2, h3]; rfl, l2, l3⟩
theorem ty_mod {n : Nat} {x : List D} (h : TyD Tryz.prog n 62 x) : ∃ m : Md, x = mdD m ∧ MdW m := by
  cases n with
  | zero => exact h.elim
  | succ n =>
    obtain ⟨fs, hu, hm⟩ := u_mod
    simp only [TyD, hu, c_mod] at h
    obtain ⟨hl, hf⟩ := h
    have get := fields_at (t := 62) hm hf
    have hM : maxLen = 9223372036854775807 := by decide
    match x, hl with
    | [a, b, c], _ =>
      obtain ⟨s1, h1, l1⟩ := ty_strL (get 0 9 (by simp))
      have h2 := get 1 59 (by simp)
      have h3 := get 2 60 (by simp)
      simp only [c_str, c_imps, c_dcls, List.drop_zero, List.drop_succ_cons, List.take_succ_cons, List.take_zero, List.cons.injEq, and_true] at h1 h2 h3
      cases n with
      | zero => exact h2.elim
      | succ n =>
        simp only [TyD, Tryz.underlying59, Tryz.underlying60, c_imp, c_dcl] at h2 h3
        obtain ⟨es, e2, hl2, he2⟩ := h2
        obtain ⟨fs', e3, hl3, he3⟩ := h3
        obtain ⟨is, rfl, hi⟩ := map_ofP (f := impD) (Q := ImpW) es fun e hx => ty_imp (he2 e hx)
        obtain ⟨ds, rfl, hd⟩ := map_ofP (f := dclD) (Q := DclW) fs' fun e hx => ty_dcl (he3 e hx)
        simp only [List.length_map] at hl2 hl3
        simp only [List.cons.injEq, and_true] at e2 e3
        exact ⟨⟨s1, is, ds⟩, by rw [h1, e2, e3]; rfl, l1, show is.length ≤ _ by omega, show ds.length ≤ _ by omega, hi, hd⟩
section
variable {W : World} {H : Type} {enc : TypeId × Value → H} {v : Value} {d : DataW H} {ps : List MemPlace}
theorem arg_mod (hval : Value.okWide Tryz.prog W .any 0 62 v) (h : DataW.Trod enc Tryz.prog W 0 (fun _ => true) true 62 v d ps) : ∃ x, Con W nu0 (F0 W) (.agg (mdD x)) v ∧ MdW x := by
  obtain ⟨fs, hu, _⟩ := u_mod
  obtain ⟨cs, rfl, _⟩ := okWide_struct hu hval
  obtain ⟨n, ds, h1, h2, h3, _⟩ := read_arg Ts6_ok Ts6_z (by simp [Ts6]) h
  obtain ⟨x, rfl, hx⟩ := ty_mod h3
  exact ⟨x, con_of_agg h1 h2, hx⟩
end
end Go.Proofs.YtbgkkoloflcnbaaGreatDoor
