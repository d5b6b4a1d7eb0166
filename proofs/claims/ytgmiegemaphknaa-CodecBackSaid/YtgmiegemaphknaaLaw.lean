/- The statements CodecPutsSaid and CodecBackSaid: for every input the laws CodecPuts and CodecBack of layer 15 return true. No condition. -/
import Derived.Test.YtgmiegemaphknaaCod
import Derived.Test.YtgmiegemaphknaaMvC
import Derived.OpenShut
import Derived.Test.YtgmiegemaphknaaRows
set_option linter.unusedSimpArgs false
set_option linter.unusedVariables false
namespace Go.Proofs.Ytgmiegemaphknaa
open Go.ChangeShapes Go.WideShapes Go.ChangeAt Go.RowKit Go.Proofs.Mv.V Go.Proofs.Mv.App
set_option linter.unusedVariables false

theorem Try.own : ownKnob Try.prog.godebug = none := by kernel_rfl
theorem Try.laidOut : laidOutB Try.prog = true := by kernel_rfl

theorem con_strs {W : World} {ν : Nu} {H : Type} {enc : TypeId × Value → H} {v : Value} {d : DataW H} {ps : List MemPlace} (hval : Value.okWide Try.prog W .any 0 22 v) (h : DataW.Trod enc Try.prog W 0 (fun _ => true) true 22 v d ps) :
    ∃ l : List (List UInt8), Con W ν (F0 W) (sl1 l) v := by
  obtain ⟨a0, len0, cap0, rfl⟩ := okWide_slice Try.underlying22 hval
  obtain ⟨fuel, hf⟩ := h
  rcases open_strings Try.underlying22 Try.underlying9 (by kernel_rfl) hf with ⟨hcs, _⟩ | ⟨a, len, cap, ss, hcs, _, hl, hm, hz, _, hcell, hsz⟩
  · simp [Value.cells] at hcs
    obtain ⟨rfl, rfl, rfl⟩ := hcs
    exact ⟨[], by simp only [sl1, Con]; exact .inr ⟨by simp, none, rfl⟩⟩
  · simp [Value.cells] at hcs
    obtain ⟨rfl, rfl, rfl⟩ := hcs
    refine ⟨(ss.take len0).map fun s => s.data.toList, ?_⟩
    have := con_row (W := W) (ν := ν) (a := a) (vs := ss.map .string) hl (by simpa using hz) (by
      intro i v hv
      rw [List.getElem?_map] at hv
      obtain ⟨s, hs, rfl⟩ := Option.map_eq_some_iff.1 hv
      have hi : i < ss.length := (List.getElem?_eq_some_iff.1 hs).1
      have := hcell i hi
      rw [List.getD_eq_getElem?_getD, hs] at this
      exact ⟨this, rfl⟩)
    rw [← List.map_take, List.map_map] at this
    rw [sl1, List.map_map]
    have e : ((fun v => [D.v v]) ∘ Value.string) = ((fun s => [D.v (.string (ofL s))]) ∘ fun s : ByteArray => s.data.toList) := by funext s; simp only [Function.comp, ofL, Array.toArray_toList]
    rw [← e]; exact this
theorem con_bytes {W : World} {ν : Nu} {H : Type} {enc : TypeId × Value → H} {v : Value} {d : DataW H} {ps : List MemPlace} (hval : Value.okWide Try.prog W .any 0 23 v) (h : DataW.Trod enc Try.prog W 0 (fun _ => true) true 23 v d ps) :
    ∃ l : List UInt8, Con W ν (F0 W) (B l) v := by
  obtain ⟨a0, len0, cap0, rfl⟩ := okWide_slice Try.underlying23 hval
  obtain ⟨fuel, hf⟩ := h
  rcases open_ints Try.underlying23 Try.underlying5 (by kernel_rfl) hf with ⟨hcs, _⟩ | ⟨a, len, cap, zs, hcs, _, hl, hm, hz, _, hcell, hwf⟩
  · simp [Value.cells] at hcs
    obtain ⟨rfl, rfl, rfl⟩ := hcs
    exact ⟨[], by simp only [B, Con]; exact .inr ⟨by simp, none, rfl⟩⟩
  · simp [Value.cells] at hcs
    obtain ⟨rfl, rfl, rfl⟩ := hcs
    refine ⟨(zs.take len0).map fun s => UInt8.ofNat s.toNat, ?_⟩
    have := con_row (W := W) (ν := ν) (a := a) (vs := zs.map (.int .u8)) hl (by simpa using hz) (by
      intro i v hv
      rw [List.getElem?_map] at hv
      obtain ⟨s, hs, rfl⟩ := Option.map_eq_some_iff.1 hv
      have hi : i < zs.length := (List.getElem?_eq_some_iff.1 hs).1
      have := hcell i hi
      rw [List.getD_eq_getElem?_getD, hs] at this
      exact ⟨this, rfl⟩)
    rw [← List.map_take, List.map_map] at this
    rw [B, List.map_map]
    have e : (zs.take len0).map ((fun v => [D.v v]) ∘ Value.int .u8) = (zs.take len0).map (bEnc ∘ fun s : Int => UInt8.ofNat s.toNat) := by
      apply List.map_congr_left
      intro s hs
      have hw := hwf s (List.mem_of_mem_take hs)
      have hx : 0 ≤ s ∧ s ≤ 255 := by simpa [Lit.wf, IntKind.min, IntKind.max, IntKind.signed, IntKind.bits] using hw
      have : ((UInt8.ofNat s.toNat).toNat : Int) = s := by rw [UInt8.toNat_ofNat']; omega
      simp only [Function.comp, bEnc, this]
    rw [← e]; exact this


set_option maxRecDepth 100000 in
theorem puts_lifted (os : Os) (started : os.Started) (H : Type) (enc : TypeId × Value → H) :
    ReturnsInHanded {} Try.checked os 3 .any (Rows.codecPutsSpec.pre6 enc Try.prog Try.f3 Rows.codecPutsRow.domain false) (Rows.codecPutsSpec.post enc Try.prog Try.f3 false true false false) := by
  refine returnsInHanded_of_change (C := Try.checked) Try.own started (by kernel_rfl) Try.func3
    (ChangeSpec.witness6 (enc := enc) (C := Try.checked) false ⟨#[], #[.slice none 0 0, .slice none 0 0], []⟩ 8 (by kernel_rfl) (by kernel_rfl) (by kernel_rfl) (by kernel_rfl)) ?_
  intro W base args ds gs before hval0 hW hcnd _
  have hval : ∀ (j : Nat) t v, Try.f3.params[j]? = some t → args[j]? = some v → Value.okWide Try.prog W .any base t v := hval0
  have hW' := hW
  obtain ⟨p, q, hA0, hV, rfl, hfz, hnd⟩ := hW
  have hA : DataW.TrodAll enc Try.prog W 0 (fun _ => true) true Try.f3.params.toList args.toList ds p := hA0
  rw [Try.params3] at hA hval
  obtain ⟨v0, v1, d0, d1, p0, p1, rfl, rfl, rfl, h0, h1⟩ := trodAll_two hA
  obtain ⟨rfl, rfl⟩ := trodVars_none hV
  obtain ⟨l, c0⟩ := con_strs (ν := nu0) (hval 0 22 v0 rfl rfl) h0
  obtain ⟨b, c1⟩ := con_bytes (ν := nu0) (hval 1 23 v1 rfl rfl) h1
  refine (calls_law (cPuts l b mem0 0) (conVs2 c0 c1)).mono ?_
  rintro e W' ⟨rfl, ν', F', hx⟩
  exact ⟨_, rfl, law_post Try.laidOut (by kernel_rfl) (by kernel_rfl) Try.underlying4 rfl hW' rfl hx⟩
theorem codecPuts_holds : Rows.CodecPutsSaid :=
  OpenClaim.holds_of_wide 3 Try.f3 rfl rfl rfl rfl rfl rfl rfl ⟨rfl, rfl, rfl, rfl, rfl⟩ rfl rfl rfl rfl rfl (by kernel_rfl) Try.func3 (by kernel_rfl)
    (of_decide_eq_true (by kernel_rfl)) (by unfold Func.isWrapper; first | (rw [if_pos (by decide +kernel)]; kernel_rfl) | (rw [if_neg (by decide +kernel)]; exact ⟨rfl, rfl⟩))
    (fun os started H enc _ => puts_lifted os started H enc)
set_option maxRecDepth 100000 in
theorem back_lifted (os : Os) (started : os.Started) (H : Type) (enc : TypeId × Value → H) :
    ReturnsInHanded {} Try.checked os 4 .any (Rows.codecBackSpec.pre6 enc Try.prog Try.f4 Rows.codecBackRow.domain false) (Rows.codecBackSpec.post enc Try.prog Try.f4 false true false false) := by
  refine returnsInHanded_of_change (C := Try.checked) Try.own started (by kernel_rfl) Try.func4
    (ChangeSpec.witness6 (enc := enc) (C := Try.checked) false ⟨#[], #[.slice none 0 0, .slice none 0 0, .int .i64 0], []⟩ 8 (by kernel_rfl) (by kernel_rfl) (by kernel_rfl) (by kernel_rfl)) ?_
  intro W base args ds gs before hval0 hW hcnd _
  have hval : ∀ (j : Nat) t v, Try.f4.params[j]? = some t → args[j]? = some v → Value.okWide Try.prog W .any base t v := hval0
  have hW' := hW
  obtain ⟨p, q, hA0, hV, rfl, hfz, hnd⟩ := hW
  have hA : DataW.TrodAll enc Try.prog W 0 (fun _ => true) true Try.f4.params.toList args.toList ds p := hA0
  rw [Try.params4] at hA hval
  obtain ⟨v0, v1, v2, d0, d1, d2, p0, p1, p2, rfl, rfl, rfl, h0, h1, h2⟩ := trodAll_three hA
  obtain ⟨rfl, rfl⟩ := trodVars_none hV
  obtain ⟨l, c0⟩ := con_strs (ν := nu0) (hval 0 22 v0 rfl rfl) h0
  obtain ⟨b, c1⟩ := con_bytes (ν := nu0) (hval 1 23 v1 rfl rfl) h1
  obtain ⟨q, c2, _⟩ := con_int1 (ν := nu0) Try.underlying3 (hval 2 3 v2 rfl rfl) h2
  refine (calls_law (cBack l b q mem0 0) (conVs3 c0 c1 c2)).mono ?_
  rintro e W' ⟨rfl, ν', F', hx⟩
  exact ⟨_, rfl, law_post Try.laidOut (by kernel_rfl) (by kernel_rfl) Try.underlying4 rfl hW' rfl hx⟩
theorem codecBack_holds : Rows.CodecBackSaid :=
  OpenClaim.holds_of_wide 4 Try.f4 rfl rfl rfl rfl rfl rfl rfl ⟨rfl, rfl, rfl, rfl, rfl⟩ rfl rfl rfl rfl rfl (by kernel_rfl) Try.func4 (by kernel_rfl)
    (of_decide_eq_true (by kernel_rfl)) (by unfold Func.isWrapper; first | (rw [if_pos (by decide +kernel)]; kernel_rfl) | (rw [if_neg (by decide +kernel)]; exact ⟨rfl, rfl⟩))
    (fun os started H enc _ => back_lifted os started H enc)
end Go.Proofs.Ytgmiegemaphknaa
