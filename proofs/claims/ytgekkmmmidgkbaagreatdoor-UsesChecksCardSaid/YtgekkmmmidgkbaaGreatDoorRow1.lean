/- A part of the proofs of the seat YtgekkmmmidgkbaaGreatDoor: the abstract machine, the contracts of the functions, the laws. No condition of its own. -/
import Derived.Test.YtgekkmmmidgkbaaGreatDoorRow0
import Derived.Test.YtgekkmmmidgkbaaGreatDoorP09
import Derived.Test.YtgekkmmmidgkbaaGreatDoorMvD
set_option linter.unusedSimpArgs false
set_option linter.unusedVariables false
set_option linter.unusedSectionVars false
namespace Go.Proofs.YtgekkmmmidgkbaaGreatDoor
open Go.ChangeShapes Go.WideShapes Go.ChangeAt Go.RowKit Go.Proofs.Mv.V Go.Proofs.Mv.App
set_option maxRecDepth 100000
def TsU : List TypeId := [3, 9, 43, 46, 44, 55, 22, 53, 23, 25]
theorem TsU_ok : ∀ t ∈ TsU, okT Tryz.prog TsU t = true := by
  have h : TsU.all (fun t => okT Tryz.prog TsU t) = true := by kernel_rfl
  exact List.all_eq_true.1 h
theorem TsU_z : ∀ t ∈ TsU, 1 ≤ Tryz.prog.cellsOf t := by
  have h : TsU.all (fun t => decide (1 ≤ Tryz.prog.cellsOf t)) = true := by kernel_rfl
  intro t ht; simpa using List.all_eq_true.1 h t ht
theorem c_int : Tryz.prog.cellsOf 3 = 1 := by kernel_rfl
theorem c_str : Tryz.prog.cellsOf 9 = 1 := by kernel_rfl
theorem c_ty : Tryz.prog.cellsOf 46 = 7 := by kernel_rfl
theorem c_tys : Tryz.prog.cellsOf 44 = 1 := by kernel_rfl
theorem c_strs : Tryz.prog.cellsOf 43 = 1 := by kernel_rfl
theorem c_imp : Tryz.prog.cellsOf 55 = 4 := by kernel_rfl
theorem c_imps : Tryz.prog.cellsOf 22 = 1 := by kernel_rfl
theorem c_ln : Tryz.prog.cellsOf 53 = 10 := by kernel_rfl
theorem c_lns : Tryz.prog.cellsOf 23 = 1 := by kernel_rfl
theorem c_us : Tryz.prog.cellsOf 25 = 2 := by kernel_rfl
theorem u_ty : ∃ fs, Tryz.prog.underlying 46 = some (.struct fs) ∧ fs.toList.map (fun f => (f.offset, f.type)) = [(0, 3), (1, 9), (2, 3), (3, 9), (4, 9), (5, 43), (6, 44)] := ⟨_, Tryz.underlying46, rfl⟩
theorem u_imp : ∃ fs, Tryz.prog.underlying 55 = some (.struct fs) ∧ fs.toList.map (fun f => (f.offset, f.type)) = [(0, 9), (1, 3), (2, 9), (3, 9)] := ⟨_, Tryz.underlying55, rfl⟩
theorem u_ln : ∃ fs, Tryz.prog.underlying 53 = some (.struct fs) ∧ fs.toList.map (fun f => (f.offset, f.type)) = [(0, 3), (1, 9), (2, 9), (3, 46)] := ⟨_, Tryz.underlying53, rfl⟩
theorem u_us : ∃ fs, Tryz.prog.underlying 25 = some (.struct fs) ∧ fs.toList.map (fun f => (f.offset, f.type)) = [(0, 22), (1, 23)] := ⟨_, Tryz.underlying25, rfl⟩
theorem ty_int {n : Nat} {x : List D} (h : TyD Tryz.prog n 3 x) : ∃ i : Int, x = [I i] := by
  cases n with
  | zero => exact h.elim
  | succ n =>
    simp only [TyD, Tryz.underlying3] at h
    obtain ⟨i, rfl, _⟩ := h
    exact ⟨i, rfl⟩
theorem ty_strL {n : Nat} {x : List D} (h : TyD Tryz.prog n 9 x) : ∃ s : List UInt8, x = [S s] ∧ s.length ≤ 9223372036854775807 := by
  cases n with
  | zero => exact h.elim
  | succ n =>
    simp only [TyD, Tryz.underlying9] at h
    obtain ⟨i, rfl, hl⟩ := h
    exact ⟨i, rfl, by have : maxLen = 9223372036854775807 := by decide
                      omega⟩
theorem map_ofP {α β : Type} {f : α → β} {Q : α → Prop} (l : List β) (h : ∀ x ∈ l, ∃ a, x = f a ∧ Q a) : ∃ r : List α, l = r.map f ∧ ∀ a ∈ r, Q a := by
  induction l with
  | nil => exact ⟨[], rfl, by simp⟩
  | cons x l ih =>
    obtain ⟨a, rfl, ha⟩ := h x (by simp)
    obtain ⟨r, rfl, hr⟩ := ih fun y hy => h y (by simp [hy])
    exact ⟨a :: r, rfl, by simpa using ⟨ha, hr⟩⟩
theorem ty_strs {n : Nat} {x : List D} (h : TyD Tryz.prog n 43 x) : ∃ l : List (List UInt8), x = [sl1 l] ∧ l.length ≤ 9223372036854775807 ∧ ∀ s ∈ l, s.length ≤ 9223372036854775807 := by
  cases n with
  | zero => exact h.elim
  | succ n =>
    simp only [TyD, Tryz.underlying43, c_str] at h
    obtain ⟨es, rfl, hl, he⟩ := h
    obtain ⟨r, rfl, hr⟩ := map_ofP (f := fun s => [S s]) (Q := fun s => s.length ≤ 9223372036854775807) es fun e hx => ty_strL (he e hx)
    refine ⟨r, rfl, ?_, hr⟩
    have : maxLen = 9223372036854775807 := by decide
    simp at hl; omega
/-- The fields of what is laid out so. -/
theorem fields_at {n : Nat} {t : TypeId} {x : List D} {fs : Array Field} {L : List (Nat × TypeId)} (hm : fs.toList.map (fun f => (f.offset, f.type)) = L) (hf : ∀ f ∈ fs.toList, TyD Tryz.prog n f.type ((x.drop f.offset).take (Tryz.prog.cellsOf f.type))) :
    ∀ o t, (o, t) ∈ L → TyD Tryz.prog n t ((x.drop o).take (Tryz.prog.cellsOf t)) := by
  intro o t ht
  rw [← hm] at ht
  obtain ⟨f, hf1, hf2⟩ := List.mem_map.1 ht
  simp only [Prod.mk.injEq] at hf2
  obtain ⟨rfl, rfl⟩ := hf2
  exact hf f hf1
theorem ty_ty (n : Nat) : ∀ {x : List D}, TyD Tryz.prog n 46 x → ∃ t : Ty, x = tyD t ∧ TyW t := by
  induction n using Nat.strongRecOn with
  | _ n ih =>
    intro x h
    cases n with
    | zero => exact h.elim
    | succ n =>
      obtain ⟨fs, hu, hm⟩ := u_ty
      simp only [TyD, hu, c_ty] at h
      obtain ⟨hl, hf⟩ := h
      have get := fields_at (t := 46) hm hf
      match x, hl with
      | [a, b, c, d, e, f, g], _ =>
        obtain ⟨i, h1⟩ := ty_int (get 0 3 (by simp))
        obtain ⟨s1, h2, l2⟩ := ty_strL (get 1 9 (by simp))
        obtain ⟨j, h3⟩ := ty_int (get 2 3 (by simp))
        obtain ⟨s2, h4, l4⟩ := ty_strL (get 3 9 (by simp))
        obtain ⟨s3, h5, l5⟩ := ty_strL (get 4 9 (by simp))
        obtain ⟨ns, h6, l6, q6⟩ := ty_strs (get 5 43 (by simp))
        have h7 := get 6 44 (by simp)
        simp only [c_int, c_str, c_strs, c_tys, List.drop_zero, List.drop_succ_cons, List.take_succ_cons, List.take_zero, List.cons.injEq, and_true] at h1 h2 h3 h4 h5 h6 h7
        cases n with
        | zero => exact h7.elim
        | succ n =>
          simp only [TyD, Tryz.underlying44, c_ty] at h7
          obtain ⟨es, h8, hl8, he⟩ := h7
          obtain ⟨r, rfl, hr⟩ := map_ofP (f := tyD) (Q := TyW) es fun e hx => ih n (by omega) (he e hx)
          have hM : maxLen = 9223372036854775807 := by decide
          simp only [List.length_map] at hl8
          simp only [List.cons.injEq, and_true] at h8
          refine ⟨.mk i s1 j s2 s3 ns r, ?_, .mk _ _ _ _ _ _ _ l6 (by omega) l2 l4 l5 q6 hr⟩
          rw [h1, h2, h3, h4, h5, h6, h8]
          simp only [tyD, tysD_eq]
theorem ty_imp {n : Nat} {x : List D} (h : TyD Tryz.prog n 55 x) : ∃ i : Imp, x = impD i ∧ ImpWU i := by
  cases n with
  | zero => exact h.elim
  | succ n =>
    obtain ⟨fs, hu, hm⟩ := u_imp
    simp only [TyD, hu, c_imp] at h
    obtain ⟨hl, hf⟩ := h
    have get := fields_at (t := 55) hm hf
    match x, hl with
    | [a, b, c, d], _ =>
      obtain ⟨s1, h1, l1⟩ := ty_strL (get 0 9 (by simp))
      obtain ⟨j, h2⟩ := ty_int (get 1 3 (by simp))
      obtain ⟨s2, h3, l3⟩ := ty_strL (get 2 9 (by simp))
      obtain ⟨s3, h4, l4⟩ := ty_strL (get 3 9 (by simp))
      simp only [c_int, c_str, List.drop_zero, List.drop_succ_cons, List.take_succ_cons, List.take_zero, List.cons.injEq, and_true] at h1 h2 h3 h4
      exact ⟨⟨s1, j, s2, s3⟩, by rw [h1, h2, h3, h4]; rfl, l1, l3, l4⟩
theorem ty_ln {n : Nat} {x : List D} (h : TyD Tryz.prog n 53 x) : ∃ d : Ln, x = lnD d ∧ LnW d := by
  cases n with
  | zero => exact h.elim
  | succ n =>
    obtain ⟨fs, hu, hm⟩ := u_ln
    simp only [TyD, hu, c_ln] at h
    obtain ⟨hl, hf⟩ := h
    have get := fields_at (t := 53) hm hf
    match x, hl with
    | a :: b :: b2 :: c, hl =>
      obtain ⟨j, h1⟩ := ty_int (get 0 3 (by simp))
      obtain ⟨s1, h2, l2⟩ := ty_strL (get 1 9 (by simp))
      obtain ⟨s2, h4, l4⟩ := ty_strL (get 2 9 (by simp))
      obtain ⟨t, h3, l3⟩ := ty_ty _ (get 3 46 (by simp))
      have hl7 : c.length = 7 := by simpa using hl
      simp only [c_int, c_str, c_ty, List.drop_zero, List.drop_succ_cons, List.take_succ_cons, List.take_zero, List.cons.injEq, and_true, List.take_of_length_le (Nat.le_of_eq hl7)] at h1 h2 h3 h4
      exact ⟨⟨j, s1, s2, t⟩, by rw [h1, h2, h3, h4]; rfl, l2, l4, l3⟩
theorem ty_us {n : Nat} {x : List D} (h : TyD Tryz.prog n 25 x) : ∃ u : Us, x = usD u ∧ UsW u := by
  cases n with
  | zero => exact h.elim
  | succ n =>
    obtain ⟨fs, hu, hm⟩ := u_us
    simp only [TyD, hu, c_us] at h
    obtain ⟨hl, hf⟩ := h
    have get := fields_at (t := 25) hm hf
    have hM : maxLen = 9223372036854775807 := by decide
    match x, hl with
    | [b, c], _ =>
      have h2 := get 0 22 (by simp)
      have h3 := get 1 23 (by simp)
      simp only [c_imps, c_lns, List.drop_zero, List.drop_succ_cons, List.take_succ_cons, List.take_zero, List.cons.injEq, and_true] at h2 h3
      cases n with
      | zero => exact h2.elim
      | succ n =>
        simp only [TyD, Tryz.underlying22, Tryz.underlying23, c_imp, c_ln] at h2 h3
        obtain ⟨es, e2, hl2, he2⟩ := h2
        obtain ⟨fs', e3, hl3, he3⟩ := h3
        obtain ⟨is, rfl, hi⟩ := map_ofP (f := impD) (Q := ImpWU) es fun e hx => ty_imp (he2 e hx)
        obtain ⟨ds, rfl, hd⟩ := map_ofP (f := lnD) (Q := LnW) fs' fun e hx => ty_ln (he3 e hx)
        simp only [List.length_map] at hl2 hl3
        simp only [List.cons.injEq, and_true] at e2 e3
        exact ⟨⟨is, ds⟩, by rw [e2, e3]; rfl, show is.length ≤ _ by omega, show ds.length ≤ _ by omega, hi, hd⟩
section
variable {W : World} {H : Type} {enc : TypeId × Value → H} {v : Value} {d : DataW H} {ps : List MemPlace}
theorem arg_us (hval : Value.okWide Tryz.prog W .any 0 25 v) (h : DataW.Trod enc Tryz.prog W 0 (fun _ => true) true 25 v d ps) : ∃ x, Con W nu0 (F0 W) (.agg (usD x)) v ∧ UsW x := by
  obtain ⟨fs, hu, _⟩ := u_us
  obtain ⟨cs, rfl, _⟩ := okWide_struct hu hval
  obtain ⟨n, ds, h1, h2, h3, _⟩ := read_arg TsU_ok TsU_z (by simp [TsU]) h
  obtain ⟨x, rfl, hx⟩ := ty_us h3
  exact ⟨x, con_of_agg h1 h2, hx⟩
end
end Go.Proofs.YtgekkmmmidgkbaaGreatDoor
