/- Proved: the law ReduceParts of layer 25 (steps one behind the other are a run; what is handed in stays) returns true for every list of definitions, every term and every two numbers of steps, and each argument reads behind the call as it read before. Conditions: those of the given row alone (the laid variables read as they are laid; what is handed in reads as values of its types). -/
import Derived.Test.YtihbegkefjjhpaaGreatDoorP25
import Derived.Test.YtihbegkefjjhpaaGreatDoorRow
import Derived.SevenTiedAt
set_option linter.unusedSimpArgs false
set_option linter.unusedVariables false
set_option linter.unusedSectionVars false
namespace Go.Proofs.YtihbegkefjjhpaaGreatDoor
open Go.ChangeShapes Go.WideShapes Go.ChangeAt Go.RowKit Go.Proofs.Mv.V Go.Proofs.Mv.App
set_option maxRecDepth 100000
set_option maxHeartbeats 40000000
theorem reduceParts_lifted (os : Os) (started : os.Started) (H : Type) (enc : TypeId × Value → H) :
    ReturnsInHanded {} Tryz.checked os 6 .any (fun w args => (Rows.reducePartsSpec.pre enc Tryz.prog Tryz.f6 [] false w args ∧ laidMetH Tryz.prog laid5 w) ∧ sizedMet enc Tryz.prog Tryz.f6 (OpenSpec.ofChange Rows.reducePartsSpec) false w args)
      (Rows.reducePartsSpec.post enc Tryz.prog Tryz.f6 false true false false) := by
  refine returnsInHanded_of_change_and (C := Tryz.checked) (X := fun w _ => laidMetH Tryz.prog laid5 w) (fun _ _ _ hh h => h.of_heap hh) own started (by as_aux_lemma => kernel_rfl) Tryz.func6
    (ChangeSpec.witness_shaped (enc := enc) (C := Tryz.checked) (os := os) (X := fun w _ => laidMetH Tryz.prog laid5 w) false (World.doorLaid Tryz.prog 79 os) #[.slice none 0 0, .agg #[.int .i64 0, .int .i64 0, .string ByteArray.empty, .string ByteArray.empty, .slice none 0 0, .slice none 0 0, .slice none 0 0, .slice none 0 0], .int .i64 0, .int .i64 0] 8 rfl (World.shaped_of_RefB (by as_aux_lemma => kernel_rfl) (by as_aux_lemma => kernel_rfl)) (by as_aux_lemma => kernel_rfl) (by as_aux_lemma => kernel_rfl) (by as_aux_lemma => kernel_rfl) (door_met os _)) ?_
  intro W base args ds gs before hval0 hW _ _ hL _
  have hval : ∀ (j : Nat) t v, Tryz.f6.params[j]? = some t → args[j]? = some v → Value.okWide Tryz.prog W .any base t v := hval0
  have hW' := hW
  obtain ⟨p, q, hA0, hV, rfl, hfz, hnd⟩ := hW
  have hA : DataW.TrodAll enc Tryz.prog W 0 (fun _ => true) true Tryz.f6.params.toList args.toList ds p := hA0
  rw [Tryz.params6] at hA hval
  obtain ⟨v0, v1, v2, v3, d0, d1, d2, d3, p0, p1, p2, p3, rfl, rfl, rfl, h0, h1, h2, h3⟩ := trodAll_four hA
  obtain ⟨rfl, rfl⟩ := trodVars_none hV
  obtain ⟨x, c0, hx0, hx1⟩ := arg_dfs (hval 0 _ v0 rfl rfl) h0
  obtain ⟨y, c1, hw⟩ := arg_tm (hval 1 _ v1 rfl rfl) h1
  obtain ⟨i, c2, _⟩ := con_int1 (ν := nu0) Tryz.underlying3 (hval 2 _ v2 rfl rfl) h2
  obtain ⟨j, c3, _⟩ := con_int1 (ν := nu0) Tryz.underlying3 (hval 3 _ v3 rfl rfl) h3
  refine (calls_law (cReduceParts hx0 hx1 hw mem0 0) (conVs4 c0 c1 c2 c3) (laid_of hL)).mono ?_
  rintro e W' ⟨rfl, ν', F', hx⟩
  exact ⟨_, rfl, law_post laidOut (by as_aux_lemma => kernel_rfl) (by as_aux_lemma => kernel_rfl) Tryz.underlying4 rfl hW' rfl hx⟩
theorem reduceParts_holds : Rows.ReducePartsSaid :=
  OpenClaim.holds_of_wide 6 Tryz.f6 rfl rfl rfl rfl rfl rfl rfl ⟨rfl, rfl, rfl, rfl, rfl⟩ rfl rfl rfl rfl rfl (by as_aux_lemma => kernel_rfl) Tryz.func6 (by as_aux_lemma => kernel_rfl)
    (of_decide_eq_true (by as_aux_lemma => kernel_rfl)) (by unfold Func.isWrapper; first | (rw [if_pos (by decide +kernel)]; kernel_rfl) | (rw [if_neg (by decide +kernel)]; exact ⟨rfl, rfl⟩))
    (fun os started H enc _ => reduceParts_lifted os started H enc)
theorem reducePartsCard_holds : Rows.ReducePartsCardSaid :=
  Claim7.holds_tied_plain_at .later [] [.data, .data, .data, .sentinel, .sentinel] true (true, "94b0ddb0698ffd6d04e285a74fc9615418af1487c51c71dfd5647cf845bfae92") true
    reduceParts_holds (fun _ h => by cases h) (by as_aux_lemma => kernel_rfl) (fun _ h => by cases h) reduceParts_row_tie rfl ⟨rfl, rfl⟩ (by as_aux_lemma => kernel_rfl) rfl
    (fun f fn hf hfn => by
      obtain rfl : f = 6 := Option.some.inj ((show Tryz.prog.funcNamed "merlon/merlonlaw25.ReduceParts" = some 6 by kernel_rfl).symm.trans hf) |>.symm
      obtain rfl : fn = Tryz.f6 := (Option.some.inj (Tryz.func6.symm.trans hfn)).symm
      exact ⟨by kernel_rfl, fun j t ht => by
        rw [Tryz.params6] at ht
        have hm : t ∈ [40, 26, 3, 3] := by simpa using Array.mem_of_getElem? ht
        have hall : ([40, 26, 3, 3].all fun u => !Tryz.prog.wantsStandIn u) = true := by kernel_rfl
        exact (show Tryz.prog.wantsStandIn t = false by simpa using List.all_eq_true.1 hall t hm)⟩)
    (by as_aux_lemma => kernel_rfl)
end Go.Proofs.YtihbegkefjjhpaaGreatDoor
