/- The statements ShelfOpensSaid and ShelfKeepsSaid: for every input the laws ShelfOpens and ShelfKeeps of layer 16 return true. No condition. -/
import Derived.Test.YtkadkgbfdejjkaaLaw2
import Derived.Test.YtkadkgbfdejjkaaMvD
import Derived.OpenShut
import Derived.Test.YtkadkgbfdejjkaaRows
set_option linter.unusedSimpArgs false
set_option linter.unusedVariables false
/- Layer 16: the rows of the two laws. -/
namespace Go.Proofs.Ytkadkgbfdejjkaa
open Go.ChangeShapes Go.WideShapes Go.ChangeAt Go.RowKit Go.Proofs.Mv.V Go.Proofs.Mv.App
set_option linter.unusedVariables false
set_option linter.unusedSimpArgs false
theorem Try.own : ownKnob Try.prog.godebug = none := by kernel_rfl
theorem Try.laidOut : laidOutB Try.prog = true := by kernel_rfl
def Ts : List TypeId := [3, 5, 22, 23]
theorem Ts_ok : ∀ t ∈ Ts, okT Try.prog Ts t = true := by
  have h : Ts.all (fun t => okT Try.prog Ts t) = true := by kernel_rfl
  exact List.all_eq_true.1 h
theorem Ts_z : ∀ t ∈ Ts, 1 ≤ Try.prog.cellsOf t := by
  have h : Ts.all (fun t => decide (1 ≤ Try.prog.cellsOf t)) = true := by kernel_rfl
  intro t ht; simpa using List.all_eq_true.1 h t ht
theorem cells5 : Try.prog.cellsOf 5 = 1 := by kernel_rfl
theorem cells22 : Try.prog.cellsOf 22 = 1 := by kernel_rfl
theorem ty_byte {n : Nat} {x : List D} (h : TyD Try.prog n 5 x) : ∃ b : UInt8, x = bEnc b := by
  cases n with
  | zero => exact h.elim
  | succ n =>
    simp only [TyD, Try.underlying5] at h
    obtain ⟨i, rfl, hw⟩ := h
    have hx : 0 ≤ i ∧ i ≤ 255 := by simpa [Lit.wf, IntKind.min, IntKind.max, IntKind.signed, IntKind.bits] using hw
    refine ⟨UInt8.ofNat i.toNat, ?_⟩
    have : ((UInt8.ofNat i.toNat).toNat : Int) = i := by rw [UInt8.toNat_ofNat']; omega
    simp only [bEnc, this]
theorem map_of {α β : Type} {p : β → Prop} {f : α → β} (l : List β) (h : ∀ x ∈ l, ∃ a, x = f a) : ∃ r : List α, l = r.map f := by
  induction l with
  | nil => exact ⟨[], rfl⟩
  | cons x l ih =>
    obtain ⟨a, rfl⟩ := h x (by simp)
    obtain ⟨r, rfl⟩ := ih fun y hy => h y (by simp [hy])
    exact ⟨a :: r, rfl⟩
theorem ty_bytes {n : Nat} {x : List D} (h : TyD Try.prog n 22 x) : ∃ s : List UInt8, x = [B s] := by
  cases n with
  | zero => exact h.elim
  | succ n =>
    simp only [TyD, Try.underlying22, cells5] at h
    obtain ⟨es, rfl, _, he⟩ := h
    obtain ⟨r, rfl⟩ := map_of (p := fun _ => True) (f := bEnc) es fun e hx => ty_byte (he e hx)
    exact ⟨r, rfl⟩
theorem ty_rows {n : Nat} {x : List D} (h : TyD Try.prog n 23 x) : ∃ l : List (List UInt8), x = [sl2 l] := by
  cases n with
  | zero => exact h.elim
  | succ n =>
    simp only [TyD, Try.underlying23, cells22] at h
    obtain ⟨es, rfl, _, he⟩ := h
    obtain ⟨r, rfl⟩ := map_of (p := fun _ => True) (f := fun s => [B s]) es fun e hx => ty_bytes (he e hx)
    exact ⟨r, rfl⟩
section
variable {W : World} {H : Type} {enc : TypeId × Value → H} {v : Value} {d : DataW H} {ps : List MemPlace}
theorem arg_bytes (hval : Value.okWide Try.prog W .any 0 22 v) (h : DataW.Trod enc Try.prog W 0 (fun _ => true) true 22 v d ps) : ∃ s, Con W nu0 (F0 W) (B s) v := by
  obtain ⟨a, l, c, rfl⟩ := okWide_slice Try.underlying22 hval
  obtain ⟨n, ds, h1, h2, h3, _⟩ := read_arg Ts_ok Ts_z (by simp [Ts]) h
  obtain ⟨s, rfl⟩ := ty_bytes h3
  exact ⟨s, con_of_one h1 (by simp)⟩
theorem arg_rows (hval : Value.okWide Try.prog W .any 0 23 v) (h : DataW.Trod enc Try.prog W 0 (fun _ => true) true 23 v d ps) : ∃ s, Con W nu0 (F0 W) (sl2 s) v := by
  obtain ⟨a, l, c, rfl⟩ := okWide_slice Try.underlying23 hval
  obtain ⟨n, ds, h1, h2, h3, _⟩ := read_arg Ts_ok Ts_z (by simp [Ts]) h
  obtain ⟨s, rfl⟩ := ty_rows h3
  exact ⟨s, con_of_one h1 (by simp)⟩
end
set_option maxRecDepth 100000 in
theorem opens_lifted (os : Os) (started : os.Started) (H : Type) (enc : TypeId × Value → H) :
    ReturnsInHanded {} Try.checked os 3 .any (Rows.shelfOpensSpec.pre6 enc Try.prog Try.f3 Rows.shelfOpensRow.domain false) (Rows.shelfOpensSpec.post enc Try.prog Try.f3 false true false false) := by
  refine returnsInHanded_of_change (C := Try.checked) Try.own started (by kernel_rfl) Try.func3
    (ChangeSpec.witness6 (enc := enc) (C := Try.checked) false ⟨#[], #[.slice none 0 0, .int .i64 0, .slice none 0 0, .int .i64 0], []⟩ 8 (by kernel_rfl) (by kernel_rfl) (by kernel_rfl) (by kernel_rfl)) ?_
  intro W base args ds gs before hval0 hW hcnd _
  have hval : ∀ (j : Nat) t v, Try.f3.params[j]? = some t → args[j]? = some v → Value.okWide Try.prog W .any base t v := hval0
  have hW' := hW
  obtain ⟨p, q, hA0, hV, rfl, hfz, hnd⟩ := hW
  have hA : DataW.TrodAll enc Try.prog W 0 (fun _ => true) true Try.f3.params.toList args.toList ds p := hA0
  rw [Try.params3] at hA hval
  obtain ⟨v0, v1, v2, v3, d0, d1, d2, d3, p0, p1, p2, p3, rfl, rfl, rfl, h0, h1, h2, h3⟩ := trodAll_four hA
  obtain ⟨rfl, rfl⟩ := trodVars_none hV
  obtain ⟨b, c0⟩ := arg_bytes (hval 0 _ v0 rfl rfl) h0
  obtain ⟨most, c1, _⟩ := con_int1 (ν := nu0) Try.underlying3 (hval 1 _ v1 rfl rfl) h1
  obtain ⟨l, c2⟩ := arg_rows (hval 2 _ v2 rfl rfl) h2
  obtain ⟨q, c3, _⟩ := con_int1 (ν := nu0) Try.underlying3 (hval 3 _ v3 rfl rfl) h3
  refine (calls_law (cShelfOpens b most l q mem0 0) (conVs4 c0 c1 c2 c3)).mono ?_
  rintro e W' ⟨rfl, ν', F', hx⟩
  exact ⟨_, rfl, law_post Try.laidOut (by kernel_rfl) (by kernel_rfl) Try.underlying4 rfl hW' rfl hx⟩
theorem shelfOpens_holds : Rows.ShelfOpensSaid :=
  OpenClaim.holds_of_wide 3 Try.f3 rfl rfl rfl rfl rfl rfl rfl ⟨rfl, rfl, rfl, rfl, rfl⟩ rfl rfl rfl rfl rfl (by kernel_rfl) Try.func3 (by kernel_rfl)
    (of_decide_eq_true (by kernel_rfl)) (by unfold Func.isWrapper; first | (rw [if_pos (by decide +kernel)]; kernel_rfl) | (rw [if_neg (by decide +kernel)]; exact ⟨rfl, rfl⟩))
    (fun os started H enc _ => opens_lifted os started H enc)
set_option maxRecDepth 100000 in
theorem keeps_lifted (os : Os) (started : os.Started) (H : Type) (enc : TypeId × Value → H) :
    ReturnsInHanded {} Try.checked os 4 .any (Rows.shelfKeepsSpec.pre6 enc Try.prog Try.f4 Rows.shelfKeepsRow.domain false) (Rows.shelfKeepsSpec.post enc Try.prog Try.f4 false true false false) := by
  refine returnsInHanded_of_change (C := Try.checked) Try.own started (by kernel_rfl) Try.func4
    (ChangeSpec.witness6 (enc := enc) (C := Try.checked) false ⟨#[], #[.slice none 0 0, .slice none 0 0, .int .i64 0], []⟩ 8 (by kernel_rfl) (by kernel_rfl) (by kernel_rfl) (by kernel_rfl)) ?_
  intro W base args ds gs before hval0 hW hcnd _
  have hval : ∀ (j : Nat) t v, Try.f4.params[j]? = some t → args[j]? = some v → Value.okWide Try.prog W .any base t v := hval0
  have hW' := hW
  obtain ⟨p, q, hA0, hV, rfl, hfz, hnd⟩ := hW
  have hA : DataW.TrodAll enc Try.prog W 0 (fun _ => true) true Try.f4.params.toList args.toList ds p := hA0
  rw [Try.params4] at hA hval
  obtain ⟨v0, v1, v2, d0, d1, d2, p0, p1, p2, rfl, rfl, rfl, h0, h1, h2⟩ := trodAll_three hA
  obtain ⟨rfl, rfl⟩ := trodVars_none hV
  obtain ⟨l, c0⟩ := arg_rows (hval 0 _ v0 rfl rfl) h0
  obtain ⟨r, c1⟩ := arg_bytes (hval 1 _ v1 rfl rfl) h1
  obtain ⟨q, c2, _⟩ := con_int1 (ν := nu0) Try.underlying3 (hval 2 _ v2 rfl rfl) h2
  refine (calls_law (cShelfKeeps l r q mem0 0) (conVs3 c0 c1 c2)).mono ?_
  rintro e W' ⟨rfl, ν', F', hx⟩
  exact ⟨_, rfl, law_post Try.laidOut (by kernel_rfl) (by kernel_rfl) Try.underlying4 rfl hW' rfl hx⟩
theorem shelfKeeps_holds : Rows.ShelfKeepsSaid :=
  OpenClaim.holds_of_wide 4 Try.f4 rfl rfl rfl rfl rfl rfl rfl ⟨rfl, rfl, rfl, rfl, rfl⟩ rfl rfl rfl rfl rfl (by kernel_rfl) Try.func4 (by kernel_rfl)
    (of_decide_eq_true (by kernel_rfl)) (by unfold Func.isWrapper; first | (rw [if_pos (by decide +kernel)]; kernel_rfl) | (rw [if_neg (by decide +kernel)]; exact ⟨rfl, rfl⟩))
    (fun os started H enc _ => keeps_lifted os started H enc)
end Go.Proofs.Ytkadkgbfdejjkaa
