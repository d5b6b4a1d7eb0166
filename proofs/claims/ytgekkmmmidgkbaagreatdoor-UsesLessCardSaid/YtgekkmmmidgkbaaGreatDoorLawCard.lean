/- Proved: for every client, every environment, every further interface and every number, merlonlaw11.UsesLess returns true and never panics (UsesLessCardSaid: what is typed is so with a line less, and with an interface more behind).
  Conditions: those that the given card states, no more. -/
import Derived.Test.YtgekkmmmidgkbaaGreatDoorP15
import Derived.Test.YtgekkmmmidgkbaaGreatDoorP19
import Derived.Test.YtgekkmmmidgkbaaGreatDoorRow2
import Derived.SevenTiedAt
set_option linter.unusedSimpArgs false
set_option linter.unusedVariables false
set_option linter.unusedSectionVars false
namespace Go.Proofs.YtgekkmmmidgkbaaGreatDoor
open Go.ChangeShapes Go.WideShapes Go.ChangeAt Go.RowKit Go.Proofs.Mv.V Go.Proofs.Mv.App
set_option maxRecDepth 100000
set_option maxHeartbeats 40000000
theorem b_if : Tryz.prog.bytesOf 39 = 88 := by kernel_rfl
/-- Interfaces that may be reached leave room for one more. -/
theorem ifs_len {W : World} {H : Type} {enc : TypeId × Value → H} {v : Value} {d : DataW H} {ps : List MemPlace} {l : List Ifc} (hc : Con W nu0 (F0 W) (.sl 5 (l.map ifD)) v)
    (h : DataW.Trod enc Tryz.prog W 0 (fun _ => true) true 26 v d ps) (hw : (d.weights Tryz.prog 26).all (· ≤ reachBytes) = true) : (l.length + 1) * 88 ≤ 140737488355328 := by
  have hR : reachBytes = 140737488351232 := rfl
  simp only [Con] at hc
  rcases hc with ⟨b, o, c, rfl, _⟩ | ⟨hl, _⟩
  · obtain ⟨fuel, h⟩ := h
    rcases DataW.trod_slice Tryz.underlying26 h with ⟨hcs, _⟩ | ⟨a, len, cap, elems, rest, n, _, hcs, hx, _, hlc, _, hel, _⟩
    · simp [Value.cells] at hcs
    · simp only [Value.cells, List.cons.injEq, Value.slice.injEq, and_true] at hcs
      obtain ⟨_, hlen, _⟩ := hcs
      simp only [Prod.mk.injEq] at hx
      obtain ⟨rfl, _⟩ := hx
      simp only [DataW.weights, Tryz.underlying26, List.all_cons, Bool.and_eq_true, decide_eq_true_eq, List.length_map, b_if] at hw
      have h1 := hw.1
      rw [List.length_map] at hlen
      rw [hR] at h1
      omega
  · have : l = [] := by simpa using hl
    subst this; simp
theorem usesLess_lifted (os : Os) (started : os.Started) (H : Type) (enc : TypeId × Value → H) :
    ReturnsInHanded {} Tryz.checked os 4 .any (fun w args => (Rows.usesLessSpec.pre enc Tryz.prog Tryz.f4 [] false w args ∧ laidMetH Tryz.prog laid5 w) ∧ sizedMet enc Tryz.prog Tryz.f4 (OpenSpec.ofChange Rows.usesLessSpec) false w args)
      (Rows.usesLessSpec.post enc Tryz.prog Tryz.f4 false true false false) := by
  refine returnsInHanded_of_change_and (C := Tryz.checked) (X := fun w _ => laidMetH Tryz.prog laid5 w) (fun _ _ _ hh h => h.of_heap hh) own started (by as_aux_lemma => kernel_rfl) Tryz.func4
    (ChangeSpec.witness_shaped (enc := enc) (C := Tryz.checked) (os := os) (X := fun w _ => laidMetH Tryz.prog laid5 w) false (World.doorLaid Tryz.prog 79 os) #[.agg #[.slice none 0 0, .slice none 0 0], .slice none 0 0, .agg #[.string ByteArray.empty, .int .i64 0, .string ByteArray.empty, .slice none 0 0, .slice none 0 0], .int .i64 0] 8 rfl (World.shaped_of_RefB (by as_aux_lemma => kernel_rfl) (by as_aux_lemma => kernel_rfl)) (by as_aux_lemma => kernel_rfl) (by as_aux_lemma => kernel_rfl) (by as_aux_lemma => kernel_rfl) (door_met os _)) ?_
  intro W base args ds gs before hval0 hW _ hsz hL _
  have hval : ∀ (j : Nat) t v, Tryz.f4.params[j]? = some t → args[j]? = some v → Value.okWide Tryz.prog W .any base t v := hval0
  have hW' := hW
  obtain ⟨p, q, hA0, hV, rfl, hfz, hnd⟩ := hW
  have hA : DataW.TrodAll enc Tryz.prog W 0 (fun _ => true) true Tryz.f4.params.toList args.toList ds p := hA0
  rw [Tryz.params4] at hA hval
  obtain ⟨v0, v1, v2, v3, d0, d1, d2, d3, p0, p1, p2, p3, rfl, rfl, rfl, h0, h1, h2, h3⟩ := trodAll_four hA
  obtain ⟨rfl, rfl⟩ := trodVars_none hV
  have hsz2 : (DataW.weightsEach Tryz.prog ([25, 26, 39, 3] ++ Rows.usesLessSpec.plain.varTypes Tryz.prog) ([d0, d1, d2, d3] ++ [])).all (· ≤ reachBytes) = true := hsz
  simp only [List.cons_append, List.append_nil, DataW.weightsEach, List.all_append, Bool.and_eq_true] at hsz2
  obtain ⟨x, c0, hx0⟩ := arg_us (hval 0 _ v0 rfl rfl) h0
  obtain ⟨env, c1, _, hw⟩ := arg_ifs (hval 1 _ v1 rfl rfl) h1
  obtain ⟨y, c2, hy⟩ := arg_if (hval 2 _ v2 rfl rfl) h2
  obtain ⟨i, c3, ha⟩ := con_int1 (ν := nu0) Tryz.underlying3 (hval 3 _ v3 rfl rfl) h3
  have hi : -9223372036854775808 ≤ i ∧ i ≤ 9223372036854775807 := by simpa [Lit.wf, IntKind.min, IntKind.max, IntKind.signed, IntKind.bits] using ha
  refine (calls_law (cUsesLess cUpU hx0 hw hy (ifs_len c1 h1 hsz2.2.1) hi.1 hi.2 mem0 0) (conVs4 c0 c1 c2 c3) (laid_of hL)).mono ?_
  rintro e W' ⟨rfl, ν', F', hx⟩
  exact ⟨_, rfl, law_post laidOut (by as_aux_lemma => kernel_rfl) (by as_aux_lemma => kernel_rfl) Tryz.underlying4 rfl hW' rfl hx⟩
theorem usesLess_holds : Rows.UsesLessSaid :=
  OpenClaim.holds_of_wide 4 Tryz.f4 rfl rfl rfl rfl rfl rfl rfl ⟨rfl, rfl, rfl, rfl, rfl⟩ rfl rfl rfl rfl rfl (by as_aux_lemma => kernel_rfl) Tryz.func4 (by as_aux_lemma => kernel_rfl)
    (of_decide_eq_true (by as_aux_lemma => kernel_rfl)) (by unfold Func.isWrapper; first | (rw [if_pos (by decide +kernel)]; kernel_rfl) | (rw [if_neg (by decide +kernel)]; exact ⟨rfl, rfl⟩))
    (fun os started H enc _ => usesLess_lifted os started H enc)
theorem usesLessCard_holds : Rows.UsesLessCardSaid :=
  Claim7.holds_tied_plain_at .later [] [.data, .data, .data, .handle, .sentinel, .sentinel] true (true, "2f8f14492e47540112a98ce0430e4715feb76ef2db93de155ab7dc44b4dc6cab") true
    usesLess_holds (fun _ h => by cases h) (by as_aux_lemma => kernel_rfl) (fun _ h => by cases h) usesLess_row_tie rfl ⟨rfl, rfl⟩ (by as_aux_lemma => kernel_rfl) rfl
    (fun f fn hf hfn => by
      obtain rfl : f = 4 := Option.some.inj ((show Tryz.prog.funcNamed "merlon/merlonlaw11.UsesLess" = some 4 by as_aux_lemma => kernel_rfl).symm.trans hf) |>.symm
      obtain rfl : fn = Tryz.f4 := (Option.some.inj (Tryz.func4.symm.trans hfn)).symm
      exact ⟨by as_aux_lemma => kernel_rfl, fun j t ht => by
        rw [Tryz.params4] at ht
        have hm : t ∈ [25, 26, 39, 3] := by simpa using Array.mem_of_getElem? ht
        have hall : ([25, 26, 39, 3].all fun u => !Tryz.prog.wantsStandIn u) = true := by as_aux_lemma => kernel_rfl
        exact (show Tryz.prog.wantsStandIn t = false by simpa using List.all_eq_true.1 hall t hm)⟩)
    (by as_aux_lemma => kernel_rfl)
end Go.Proofs.YtgekkmmmidgkbaaGreatDoor
