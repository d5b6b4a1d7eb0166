/- A part of the proofs of the seat YtdbfejminjaheaaGreatDoor: the abstract machine, the contracts of the functions, the laws. No condition of its own. -/
import Derived.Test.YtdbfejminjaheaaGreatDoorLaw
import Derived.Test.YtdbfejminjaheaaGreatDoorDoor
import Derived.Test.YtdbfejminjaheaaGreatDoorMvD
import Derived.OpenShut
import Derived.ProofKit
import Derived.LaidMore
import Derived.Lib.LaidTab
import Derived.Stop.Joined
import Derived.Test.YtdbfejminjaheaaGreatDoorRows
import Derived.Test.YtdbfejminjaheaaGreatDoorCards
import Derived.Test.YtdbfejminjaheaaGreatDoorTie
set_option linter.unusedSimpArgs false
set_option linter.unusedVariables false
set_option linter.unusedSectionVars false
namespace Go.Proofs.YtdbfejminjaheaaGreatDoor
open Go.ChangeShapes Go.WideShapes Go.ChangeAt Go.RowKit Go.Proofs.Mv.V Go.Proofs.Mv.App
set_option maxRecDepth 100000
theorem own : ownKnob Tryz.prog.godebug = none := by kernel_rfl
theorem laidOut : laidOutB Tryz.prog = true := by kernel_rfl
def Ts : List TypeId := [3, 9, 68, 82, 70, 84, 22, 23]
theorem Ts_ok : ∀ t ∈ Ts, okT Tryz.prog Ts t = true := by
  have h : Ts.all (fun t => okT Tryz.prog Ts t) = true := by kernel_rfl
  exact List.all_eq_true.1 h
theorem Ts_z : ∀ t ∈ Ts, 1 ≤ Tryz.prog.cellsOf t := by
  have h : Ts.all (fun t => decide (1 ≤ Tryz.prog.cellsOf t)) = true := by kernel_rfl
  intro t ht; simpa using List.all_eq_true.1 h t ht
theorem c_int : Tryz.prog.cellsOf 3 = 1 := by kernel_rfl
theorem c_str : Tryz.prog.cellsOf 9 = 1 := by kernel_rfl
theorem c_ver : Tryz.prog.cellsOf 68 = 3 := by kernel_rfl
theorem c_rng : Tryz.prog.cellsOf 82 = 6 := by kernel_rfl
theorem c_pk : Tryz.prog.cellsOf 70 = 4 := by kernel_rfl
theorem c_dp : Tryz.prog.cellsOf 84 = 7 := by kernel_rfl
/-- A struct's fields, one by one. -/
theorem ty_fields {n : Nat} {t : TypeId} {x : List D} {L : List (Nat × TypeId)} (h : TyD Tryz.prog n t x) (hu : ∃ fs, Tryz.prog.underlying t = some (.struct fs) ∧ fs.toList.map (fun f => (f.offset, f.type)) = L) :
    x.length = Tryz.prog.cellsOf t ∧ ∃ k, ∀ o u, (o, u) ∈ L → TyD Tryz.prog k u ((x.drop o).take (Tryz.prog.cellsOf u)) := by
  cases n with
  | zero => exact h.elim
  | succ n =>
    obtain ⟨fs, hu, hm⟩ := hu
    simp only [TyD, hu] at h
    refine ⟨h.1, n, fun o u ht => ?_⟩
    rw [← hm] at ht
    obtain ⟨f, hf1, hf2⟩ := List.mem_map.1 ht
    simp only [Prod.mk.injEq] at hf2
    obtain ⟨rfl, rfl⟩ := hf2
    exact h.2 f hf1
theorem ty_int {n : Nat} {x : List D} (h : TyD Tryz.prog n 3 x) : ∃ i : Int, x = [I i] := by
  cases n with
  | zero => exact h.elim
  | succ n =>
    simp only [TyD, Tryz.underlying3] at h
    obtain ⟨i, rfl, _⟩ := h
    exact ⟨i, rfl⟩
theorem ty_str {n : Nat} {x : List D} (h : TyD Tryz.prog n 9 x) : ∃ s : List UInt8, x = [S s] ∧ s.length ≤ 9223372036854775807 := by
  cases n with
  | zero => exact h.elim
  | succ n =>
    simp only [TyD, Tryz.underlying9] at h
    obtain ⟨i, rfl, hl⟩ := h
    exact ⟨i, rfl, by simpa [maxLen] using hl⟩
theorem ty_ver {n : Nat} {x : List D} (h : TyD Tryz.prog n 68 x) : ∃ v, x = verD v := by
  obtain ⟨hl, k, hf⟩ := ty_fields (L := [(0, 3), (1, 3), (2, 3)]) h ⟨_, Tryz.underlying68, rfl⟩
  rw [c_ver] at hl
  match x, hl with
  | [a, b, c], _ =>
    obtain ⟨i, h1⟩ := ty_int (hf 0 3 (by simp))
    obtain ⟨j, h2⟩ := ty_int (hf 1 3 (by simp))
    obtain ⟨q, h3⟩ := ty_int (hf 2 3 (by simp))
    simp only [c_int, List.drop_zero, List.drop_succ_cons, List.take_succ_cons, List.take_zero, List.cons.injEq, and_true] at h1 h2 h3
    exact ⟨⟨i, j, q⟩, by rw [h1, h2, h3]; rfl⟩
theorem ty_rng {n : Nat} {x : List D} (h : TyD Tryz.prog n 82 x) : ∃ v w, x = verD v ++ verD w := by
  obtain ⟨hl, k, hf⟩ := ty_fields (L := [(0, 68), (3, 68)]) h ⟨_, Tryz.underlying82, rfl⟩
  rw [c_rng] at hl
  obtain ⟨v, h1⟩ := ty_ver (hf 0 68 (by simp))
  obtain ⟨w, h2⟩ := ty_ver (hf 3 68 (by simp))
  rw [c_ver] at h1 h2
  exact ⟨v, w, by rw [← h1, ← h2, List.drop_zero, List.take_of_length_le (l := x.drop 3) (by simp; omega), List.take_append_drop]⟩
theorem ty_pk {n : Nat} {x : List D} (h : TyD Tryz.prog n 70 x) : ∃ p, x = pkD p ∧ p.pkg.length ≤ 9223372036854775807 := by
  obtain ⟨hl, k, hf⟩ := ty_fields (L := [(0, 9), (1, 68)]) h ⟨_, Tryz.underlying70, rfl⟩
  rw [c_pk] at hl
  obtain ⟨s, h1, hs⟩ := ty_str (hf 0 9 (by simp))
  obtain ⟨v, h2⟩ := ty_ver (hf 1 68 (by simp))
  rw [c_str] at h1
  rw [c_ver] at h2
  exact ⟨⟨s, v⟩, by rw [pkD, ← h2, List.take_of_length_le (l := x.drop 1) (by simp; omega), ← List.singleton_append, ← h1, List.drop_zero, List.take_append_drop], hs⟩
theorem ty_dp {n : Nat} {x : List D} (h : TyD Tryz.prog n 84 x) : ∃ p, x = dpD p ∧ p.pkg.length ≤ 9223372036854775807 := by
  obtain ⟨hl, k, hf⟩ := ty_fields (L := [(0, 9), (1, 82)]) h ⟨_, Tryz.underlying84, rfl⟩
  rw [c_dp] at hl
  obtain ⟨s, h1, hs⟩ := ty_str (hf 0 9 (by simp))
  obtain ⟨v, w, h2⟩ := ty_rng (hf 1 82 (by simp))
  rw [c_str] at h1
  rw [c_rng] at h2
  exact ⟨⟨s, v, w⟩, by rw [dpD, ← h2, List.take_of_length_le (l := x.drop 1) (by simp; omega), ← List.singleton_append, ← h1, List.drop_zero, List.take_append_drop], hs⟩
theorem map_of {α β : Type} {f : α → β} {q : α → Prop} (l : List β) (h : ∀ x ∈ l, ∃ a, x = f a ∧ q a) : ∃ r : List α, l = r.map f ∧ ∀ a ∈ r, q a := by
  induction l with
  | nil => exact ⟨[], rfl, by simp⟩
  | cons x l ih =>
    obtain ⟨a, rfl, ha⟩ := h x (by simp)
    obtain ⟨r, rfl, hr⟩ := ih fun y hy => h y (by simp [hy])
    exact ⟨a :: r, rfl, by simpa using ⟨ha, hr⟩⟩
theorem ty_pks {n : Nat} {x : List D} (h : TyD Tryz.prog n 22 x) : ∃ l : List Pck, x = [.sl 4 (l.map pkD)] ∧ ∀ p ∈ l, p.pkg.length ≤ 9223372036854775807 := by
  cases n with
  | zero => exact h.elim
  | succ n =>
    simp only [TyD, Tryz.underlying22, c_pk] at h
    obtain ⟨es, rfl, _, he⟩ := h
    obtain ⟨r, rfl, hr⟩ := map_of (f := pkD) es fun e hx => ty_pk (he e hx)
    exact ⟨r, rfl, hr⟩
theorem ty_dps {n : Nat} {x : List D} (h : TyD Tryz.prog n 23 x) : ∃ l : List Dpn, x = [.sl 7 (l.map dpD)] ∧ ∀ p ∈ l, p.pkg.length ≤ 9223372036854775807 := by
  cases n with
  | zero => exact h.elim
  | succ n =>
    simp only [TyD, Tryz.underlying23, c_dp] at h
    obtain ⟨es, rfl, _, he⟩ := h
    obtain ⟨r, rfl, hr⟩ := map_of (f := dpD) es fun e hx => ty_dp (he e hx)
    exact ⟨r, rfl, hr⟩
section
variable {W : World} {H : Type} {enc : TypeId × Value → H} {v : Value} {d : DataW H} {ps : List MemPlace}
theorem arg_pks (hval : Value.okWide Tryz.prog W .any 0 22 v) (h : DataW.Trod enc Tryz.prog W 0 (fun _ => true) true 22 v d ps) : ∃ l : List Pck, Con W nu0 (F0 W) (.sl 4 (l.map pkD)) v ∧ ∀ p ∈ l, p.pkg.length ≤ 9223372036854775807 := by
  obtain ⟨a, l, c, rfl⟩ := okWide_slice Tryz.underlying22 hval
  obtain ⟨n, ds, h1, h2, h3, _⟩ := read_arg Ts_ok Ts_z (by simp [Ts]) h
  obtain ⟨s, rfl, hs⟩ := ty_pks h3
  exact ⟨s, con_of_one h1 (by simp), hs⟩
theorem arg_dps (hval : Value.okWide Tryz.prog W .any 0 23 v) (h : DataW.Trod enc Tryz.prog W 0 (fun _ => true) true 23 v d ps) : ∃ l : List Dpn, Con W nu0 (F0 W) (.sl 7 (l.map dpD)) v ∧ ∀ p ∈ l, p.pkg.length ≤ 9223372036854775807 := by
  obtain ⟨a, l, c, rfl⟩ := okWide_slice Tryz.underlying23 hval
  obtain ⟨n, ds, h1, h2, h3, _⟩ := read_arg Ts_ok Ts_z (by simp [Ts]) h
  obtain ⟨s, rfl, hs⟩ := ty_dps h3
  exact ⟨s, con_of_one h1 (by simp), hs⟩
end
/-- One listed variable's own reading. -/
theorem laid_one {W : World} {n : String} {d : DataW Unit} : ∀ (l : List (String × DataW Unit)) (ps : List MemPlace), DataW.LaidVars Tryz.prog W l ps → (n, d) ∈ l →
    ∃ g t cs fuel p, Tryz.prog.globalNamed n = some g ∧ (Tryz.prog.globals[g]?).map (·.type) = some t ∧ W.var? Tryz.prog n = some cs ∧ DataW.trod (fun _ => ()) Tryz.prog W 0 (fun _ => true) false fuel t cs.toList = some (d, p)
  | [], _, _, hm => absurd hm (by simp)
  | (n', d') :: r, ps, h, hm => by
    obtain ⟨g, t, cs, fuel, p, q, a, b, c, e, f, _⟩ := h
    rcases List.mem_cons.1 hm with h1 | h1
    · simp only [Prod.mk.injEq] at h1
      obtain ⟨rfl, rfl⟩ := h1
      exact ⟨g, t, cs, fuel, p, a, b, c, e⟩
    · exact laid_one r q f h1
theorem et : Tryz.prog.globalNamed "errors.errorType" = some 0 := by kernel_rfl
theorem eP : Tryz.prog.globalNamed "internal/strconv.uint64pow10" = some 1 := by kernel_rfl
theorem tP : (Tryz.prog.globals[1]?).map (·.type) = some 336 := by kernel_rfl
theorem dP : (Rows.laid_internal_strconv_uint64pow10 : DataW Unit) = Lib.tabData .u64 Lib.pow10Tab := by kernel_rfl
theorem rt : (Tryz.prog.cutTypes.find? (·.1 == "internal/reflectlite.rtype")).map (·.2) = some 272 := by kernel_rfl
theorem oneRow : ((List.range Tryz.prog.types.size).filter fun t => Tryz.prog.rowNamed t [101, 114, 114, 111, 114]) = [26] := by kernel_rfl
theorem hh : typeHandle Tryz.prog 26 = tyHandle 26 := by kernel_rfl
theorem laid_of {W : World} (hs : W.ShapedOpen Tryz.prog) (h : laidMetH Tryz.prog laid6 W) : Laid W (F0 W) := by
  unfold laidMetH at h
  rw [lf1, lf2] at h
  obtain ⟨⟨ps, hv, _, _⟩, hhs⟩ := h
  obtain ⟨name, u, ty, e1, e2, e3, e4, e5⟩ := hhs _ (List.mem_singleton.2 rfl)
  have en : name = [101, 114, 114, 111, 114] := (Option.some.inj e1).symm
  subst en
  obtain rfl := Option.some.inj (rt.symm.trans e2)
  have hm : ty ∈ (List.range Tryz.prog.types.size).filter fun t => Tryz.prog.rowNamed t [101, 114, 114, 111, 114] := List.mem_filter.2 ⟨List.mem_range.2 e3, e4⟩
  rw [oneRow] at hm
  obtain rfl := List.mem_singleton.1 hm
  rw [hh] at e5
  have c0 : W.cell? ⟨0, 0, none⟩ = some tyErr := by simpa using World.var?_cell et e5 0
  have lt : ∀ {g : Nat} {y : Value}, W.cell? ⟨g, 0, none⟩ = some y → F0 W g := fun h => (spot_none h).2
  have c3 : W.var? Tryz.prog "internal/strconv.uint64pow10" = some (Lib.pow10Tab.map fun z => Value.int .u64 z).toArray := by
    obtain ⟨g', t, cs, fuel, p, a, b, c, e⟩ := laid_one _ _ hv (show ("internal/strconv.uint64pow10", Rows.laid_internal_strconv_uint64pow10) ∈ _ by simp)
    obtain rfl := Option.some.inj (eP.symm.trans a)
    obtain rfl := Option.some.inj (tP.symm.trans b)
    rw [dP] at e
    have := Lib.cells_of_tab Tryz.underlying336 Tryz.underlying314 (by kernel_rfl) (by kernel_rfl) e
    rw [c]
    congr 1
    apply Array.toList_inj.1
    simpa using this
  have f3 : F0 W 1 := by
    have h0 : W.cell? ⟨1, 0, none⟩ = some (.int .u64 1) := by simpa [Lib.pow10Tab] using World.var?_cell eP c3 0
    exact lt h0
  obtain ⟨x, c4⟩ := Tryz.laysSplit.s1_3 W hs
  exact ⟨lt c0, f3, c0, c3, lt c4, x, c4⟩
/-- From a contract to a return, where the contract may lean on the world's shape. -/
theorem ret_shaped {H : Type} {enc : TypeId × Value → H} {C : Checked} {os : Os} {f : FuncId} {fn : Func} {s : ChangeSpec} {X : World → Prop} (hX : ∀ w w' : World, w.heap = w'.heap → X w → X w')
    (ho : ownKnob C.prog.godebug = none) (started : os.Started) (hi : C.prog.inits.idxOf? f = none) (hfn : C.prog.funcs[f]? = some fn)
    (wit : ∃ (w : World) (tape : Tape) (i : Input), w.os = os ∧ (w.forCall tape i).Shaped C.prog ∧ i.vars = [] ∧ Input.okWide C.prog (w.forCall tape i) .any w.heap.size f i ∧
      ((s.pre enc C.prog fn [] false (w.forCall tape i).memory i.args ∧ X (w.forCall tape i).memory) ∧ sizedMet enc C.prog fn (OpenSpec.ofChange s) false (w.forCall tape i).memory i.args) ∧
      ({} : Assume).holds C.prog (lone (Frame.enter C.prog f i.args .normal) [] (w.forCall tape i)))
    (con : ∀ (W : World) (base : Nat) (args : Array Value) (ds gs : List (DataW H)) (before : List MemPlace), W.ShapedOpen C.prog → X W →
      (∀ (j : Nat) t v, fn.params[j]? = some t → args[j]? = some v → Value.okWide C.prog W .any base t v) → DataW.Whole enc C.prog fn.params.toList s.vars false W args.toList ds gs before →
      Calls C.prog f args W fun e W' => ∃ v, e = .returned v ∧ s.post enc C.prog fn false true false false W args v W') :
    ReturnsInHanded {} C os f .any (fun w args => (s.pre enc C.prog fn [] false w args ∧ X w) ∧ sizedMet enc C.prog fn (OpenSpec.ofChange s) false w args) (s.post enc C.prog fn false true false false) := by
  refine returnsInHanded_of_calls ho started hi wit fun w tape i _ hsh _ hok hp _ => ?_
  obtain ⟨_, _, _, fn', h1, _, _, _, _, hv⟩ := hok
  obtain rfl : fn' = fn := Option.some.inj (h1.symm.trans hfn)
  obtain ⟨⟨⟨ds, gs, before, hw, _⟩, hx⟩, _⟩ := hp
  refine (con (w.forCall tape i) w.heap.size i.args ds gs before hsh (hX _ _ (by rfl) hx) hv (DataW.Whole.of_heap (w' := w.forCall tape i) (by rfl) hw)).mono ?_
  rintro e W' ⟨v, rfl, h⟩
  exact ChangeSpec.post_blind h
end Go.Proofs.YtdbfejminjaheaaGreatDoor
