/- A part of the proofs: machine, contracts, laws. No condition of its own. -/
import Derived.Test.YtihbegkefjjhpaaGreatDoorP16
import Derived.Test.YtihbegkefjjhpaaGreatDoorP15
import Derived.Shelf.SlSortCmp.NoneTotal
set_option linter.unusedSimpArgs false
set_option linter.unusedVariables false
set_option linter.unusedSectionVars false
open Go Go.Proofs Go.Proofs.Mv.V Go.RowKit Go.Sort
set_option maxRecDepth 10000
namespace Go.Proofs.Mv.App
abbrev Brn := List UInt8 × List UInt8 × Tm
def brnD [GI] (b : Brn) : List D := S b.1 :: S b.2.1 :: tmD b.2.2
def SortedB (l : List Brn) : Prop := l.Pairwise fun a b => ltB b.1 a.1 = false
set_option maxHeartbeats 1000000 in
theorem wLessB (x y : RowD 9) (W : World) : Calls Tryz.prog 182 #[.agg (encV x).toArray, .agg (encV y).toArray] W fun e w' => e = .returned (.int .i64 (cfV x y)) ∧ ∃ q os', w' = grow (W.drewN q) os' := by
  obtain ⟨⟨nx, rx, lx, ox⟩, px⟩ := x
  obtain ⟨⟨ny, ry, ly, oy⟩, py⟩ := y
  have hcon := fun W' => wCompare nx ny W'
  simp only [encV, cfV]
  clear px py ox oy
  match rx, ry, lx, ly with
  | [a0, a1, a2, a3, a4, a5, a6, a7, a8], [b0, b1, b2, b3, b4, b5, b6, b7, b8], _, _ =>
    generalize cmpB nx ny = r at hcon ⊢
    generalize ofL nx = x at hcon ⊢
    generalize ofL ny = y at hcon ⊢
    go_enter Tryz.func182, Tryz.ntmps182
    go_wp2_with (go_at_call 148; refine (hcon _).mono ?_; rintro e w' ⟨rfl, rfl⟩)
    go_ret
    exact ⟨rfl, 0, _, by rw [alloc_eq_grow, alloc_eq_grow, grow_grow]; rfl⟩
theorem el_brn [GI] (ps : List Brn) : (ps.map fun x => (x.1, S x.2.1 :: tmD x.2.2)).map el = ps.map brnD := by
  rw [List.map_map]; rfl
theorem cSortB [GI] {ps : List Brn} {dl : D} {m : Mem} {n : Nat} (hL : Lst m 10 (ps.map brnD) dl) (hlen : ps.length ≤ 1000000) (hk : ∀ j, kof dl = some j → j < n) :
    ACalls Tryz.prog 146 [dl, .func (.func 182) [] []] m n (Hq (fun d m' n' => ∃ qs : List Brn, qs.Perm ps ∧ SortedB qs ∧ Lst m' 10 (qs.map brnD) dl ∧ (∀ j, kof dl ≠ some j → m' j = m j) ∧ n' = n) tg) := by
  have hcl : Callable Tryz.prog 146 := ⟨_, Tryz.func146, by kernel_rfl, by kernel_rfl⟩
  rcases hL with ⟨he, hd⟩ | ⟨kk, gg, es', rfl, hmk, hle, htk⟩
  · have hps : ps = [] := by simpa using he
    subst hps
    refine acalls_lib hcl fun w ν F vals hst hv => ?_
    obtain ⟨x, y, rfl, h1, h2⟩ := conVs_arr2 hv
    have hx : ∃ a, x = .slice a 0 0 := by
      rcases hd with rfl | rfl
      · simp only [Con] at h1; exact ⟨_, h1⟩
      · simpa only [Con] using h1
    obtain ⟨a, rfl⟩ := hx
    refine Calls.mono (show Calls Tryz.prog 146 _ _ _ from AnyF.slices_SortFunc_none Tryz.laysSortB a 0 y w) ?_
    rintro e w' ⟨rfl, rfl⟩
    exact ⟨_, rfl, Below.refl _ _, .any, trivial, [], .refl _, by simp [SortedB], .inl ⟨rfl, hd⟩, fun _ _ => rfl, rfl⟩
  · have hll : (ps.map fun x => (x.1, S x.2.1 :: tmD x.2.2)).length = ps.length := by simp
    have hpl : (ps.map brnD).length = ps.length := by simp
    rw [hpl] at hle htk ⊢
    have := acalls_sort (P := Tryz.prog) (ρ := Tryz.laysSortB_ren) Tryz.laysSortB hcl 9 Tryz.isAgg169 Tryz.sizeOf169 182 (enters_of Tryz.func182 (by kernel_rfl) rfl) wLessB (ps.map fun x => (x.1, S x.2.1 :: tmD x.2.2)) (k := kk) (gg := gg) (es' := es') (m := m) (n := n) hmk (by rw [hll]; exact hle) (by rw [hll, el_brn]; exact htk) (by rw [hll]; omega) (hk kk rfl)
    rw [hll] at this
    refine ACalls.mono (show ACalls Tryz.prog 146 _ _ _ _ from this) ?_
    rintro d m' n' ⟨qs', h1, h2, rfl, rfl⟩
    obtain ⟨qs, g1, g2⟩ := perm_map_ex (fun x : Brn => (x.1, S x.2.1 :: tmD x.2.2)) h1 ps rfl
    subst g2
    refine ⟨qs, g1, ?_, ?_, fun j hj => set_ne _ _ _ _ fun e => hj (by rw [e]; rfl), rfl⟩
    · rw [List.pairwise_map] at h2
      exact h2
    · rw [el_brn]
      have hq : (qs.map brnD).length = ps.length := by rw [List.length_map]; exact g1.length_eq
      exact Lst.mk (set_same _ _ _) hq.symm (by simp [g1.length_eq]) (by rw [List.take_append_of_le_length (by simp [g1.length_eq]), List.take_of_length_le (by simp [g1.length_eq])])
end Go.Proofs.Mv.App
open Go Go.Proofs Go.Proofs.Mv.V
namespace Go.Proofs.Mv.App
def SortedBn (l : List Bnd) : Prop := l.Pairwise fun a b => ltB b.1 a.1 = false
theorem insB_perm (x : Bnd) : ∀ l : List Bnd, (insB x l).Perm (x :: l)
  | [] => .refl _
  | y :: ys => by
    simp only [insB]; split
    · exact .refl _
    · exact ((insB_perm x ys).cons y).trans (.swap _ _ _)
theorem insB_sorted (x : Bnd) : ∀ {l : List Bnd}, SortedBn l → SortedBn (insB x l)
  | [], _ => by simp [SortedBn, insB]
  | y :: ys, h => by
    have h' := List.pairwise_cons.1 h
    simp only [insB]; split
    · rename_i e
      refine List.pairwise_cons.2 ⟨fun z hz => ?_, h⟩
      rcases List.mem_cons.1 hz with rfl | hz
      · exact ltB_asymm e
      · exact ltB_ntr (h'.1 z hz) (ltB_asymm e)
    · rename_i e
      refine List.pairwise_cons.2 ⟨fun z hz => ?_, insB_sorted x h'.2⟩
      have := (insB_perm x ys).mem_iff.1 hz
      rcases List.mem_cons.1 this with rfl | hz'
      · simpa using e
      · exact h'.1 z hz'
theorem sortB_spec : ∀ ps : List Bnd, (sortB ps).Perm ps ∧ SortedBn (sortB ps)
  | [] => ⟨.refl _, by simp [SortedBn, sortB]⟩
  | x :: r => by
    obtain ⟨h1, h2⟩ := sortB_spec r
    exact ⟨(insB_perm x _).trans (h1.cons x), insB_sorted x h2⟩
theorem sortedB_uniq {l l' ps : List Bnd} (hd : (ps.map (·.1)).Nodup) (h : l.Perm ps) (h' : l'.Perm ps) (hs : SortedBn l) (hs' : SortedBn l') : l = l' := by
  refine List.Perm.eq_of_pairwise (le := fun a b : Bnd => ltB b.1 a.1 = false) ?_ hs hs' (h.trans h'.symm)
  intro a b ha hb h1 h2
  have hn : a.1 = b.1 := ltB_anti h2 h1
  have ha' : a ∈ ps := h.mem_iff.1 ha
  have hb' : b ∈ ps := h'.mem_iff.1 hb
  have key : ∀ l : List Bnd, (l.map (·.1)).Nodup → a ∈ l → b ∈ l → a = b := by
    intro l
    induction l with
    | nil => intro _ h; cases h
    | cons x l ih =>
      intro hd ha hb
      simp only [List.map_cons, List.nodup_cons, List.mem_map, not_exists, not_and] at hd
      rcases List.mem_cons.1 ha with rfl | ha2
      · rcases List.mem_cons.1 hb with rfl | hb
        · rfl
        · exact absurd hn.symm (hd.1 b hb)
      · rcases List.mem_cons.1 hb with rfl | hb
        · exact absurd hn (hd.1 a ha2)
        · exact ih hd.2 ha2 hb
  exact key ps hd ha' hb'
theorem kF_bad {kd : Int} {ok : List UInt8 → Bool} {l : List Tok} {p : PS} (h : ¬ p.bad = 0) : kF kd ok l p = false := by simp [kF, cur, h]
theorem fresh_ok {kd : Int} {ok : List UInt8 → Bool} {names : List (List UInt8)} {l : List Tok} {p : PS} (h : (freshT kd ok names l p).2.bad = 0) : (freshT kd ok names l p).1 ∉ names ∧ p.bad = 0 := by
  unfold freshT at h ⊢
  cases ht : twiceT kd ok names l p with
  | true =>
    rw [ht] at h
    simp only [if_true] at h
    have hb : ¬ (failS 5 p).bad = 0 := by
      unfold failS; split
      · simp
      · rename_i e; exact e
    simp only [namedT, kF_bad hb, takeF, Bool.false_eq_true, if_false] at h
    rw [failS_bad hb] at h
    exact absurd h hb
  | false =>
    rw [ht] at h
    simp only [Bool.false_eq_true, if_false, namedT] at h ⊢
    obtain ⟨h1, h2⟩ := takeF_ok h
    refine ⟨?_, h2⟩
    simp only [twiceT, h1, Bool.true_and, decide_eq_false_iff_not] at ht
    simp only [takeF, h1, if_true]
    exact ht
theorem mustT_ok {kd : Int} {s : List UInt8} {l : List Tok} {p : PS} (h : (mustT kd s l p).bad = 0) : p.bad = 0 := by
  unfold mustT at h
  split at h
  · exact h
  · unfold failS at h
    split at h
    · simp at h
    · exact h
theorem isT_good {kd : Int} {s : List UInt8} {l : List Tok} {p : PS} (h : isT kd s l p = true) : p.bad = 0 := by
  by_cases hb : p.bad = 0
  · exact hb
  · simp only [isT, kF_bad hb] at h; cases h
theorem flds_nodup {l : List Tok} {rec : PS → Option (Tm × PS)} (hbad : ∀ p t q, rec p = some (t, q) → q.bad = 0 → p.bad = 0) : ∀ (f : Nat) (acc : List Bnd) (p : PS) (Lf : List Bnd) (q : PS), fldsO l rec f acc p = some (Lf, q) → q.bad = 0 → (acc.map (·.1)).Nodup → (Lf.map (·.1)).Nodup
  | 0, _, _, _, _, h, _, _ => by simp only [fldsO] at h; cases h
  | f + 1, acc, p, Lf, q, h, hq, hn => by
    simp only [fldsO] at h
    split at h
    · cases h
    · rename_i t q1 hr
      have nd : q1.bad = 0 → ((acc ++ [((freshT 1 nameN (acc.map (·.1)) l p).1, t)]).map (·.1)).Nodup := fun e => by
        have h1 := fresh_ok (mustT_ok (hbad _ _ _ hr e))
        rw [List.map_append, List.nodup_append]
        refine ⟨hn, by simp, fun a ha b hb => ?_⟩
        simp only [List.map_cons, List.map_nil, List.mem_singleton] at hb
        subst hb
        intro e2
        exact h1.1 (e2 ▸ ha)
      split at h
      · rename_i hi
        simp only [Option.some.injEq, Prod.mk.injEq] at h
        obtain ⟨rfl, rfl⟩ := h
        exact nd (isT_good hi)
      · split at h
        · rename_i hm
          exact flds_nodup hbad f _ _ Lf q h hq (nd (mustT_ok hm))
        · rename_i hm
          simp only [Option.some.injEq, Prod.mk.injEq] at h
          obtain ⟨rfl, rfl⟩ := h
          exact absurd hq hm
end Go.Proofs.Mv.App
