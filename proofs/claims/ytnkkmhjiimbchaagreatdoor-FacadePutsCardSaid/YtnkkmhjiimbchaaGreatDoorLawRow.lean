/- A part of the proofs of the seat YtnkkmhjiimbchaaGreatDoor: the abstract machine, the contracts of the functions, the laws. No condition of its own. -/
import Derived.Test.YtnkkmhjiimbchaaGreatDoorFac
import Derived.Test.YtnkkmhjiimbchaaGreatDoorMvD
import Derived.OpenShut
import Derived.ProofKit
import Derived.LaidMore
import Derived.Lib.LaidTab
import Derived.Stop.Joined
import Derived.Test.YtnkkmhjiimbchaaGreatDoorRows
import Derived.Test.YtnkkmhjiimbchaaGreatDoorCards
import Derived.Test.YtnkkmhjiimbchaaGreatDoorTie
set_option linter.unusedSimpArgs false
set_option linter.unusedVariables false
set_option linter.unusedSectionVars false
namespace Go.Proofs.YtnkkmhjiimbchaaGreatDoor
open Go.ChangeShapes Go.WideShapes Go.ChangeAt Go.RowKit Go.Proofs.Mv.V Go.Proofs.Mv.App
set_option maxRecDepth 100000
theorem own : ownKnob Tryz.prog.godebug = none := by kernel_rfl
theorem laidOut : laidOutB Tryz.prog = true := by kernel_rfl
def Ts : List TypeId := [9, 22, 24]
theorem Ts_ok : ∀ t ∈ Ts, okT Tryz.prog Ts t = true := by
  have h : Ts.all (fun t => okT Tryz.prog Ts t) = true := by kernel_rfl
  exact List.all_eq_true.1 h
theorem Ts_z : ∀ t ∈ Ts, 1 ≤ Tryz.prog.cellsOf t := by
  have h : Ts.all (fun t => decide (1 ≤ Tryz.prog.cellsOf t)) = true := by kernel_rfl
  intro t ht; simpa using List.all_eq_true.1 h t ht
theorem c_str : Tryz.prog.cellsOf 9 = 1 := by kernel_rfl
theorem c_strs : Tryz.prog.cellsOf 22 = 1 := by kernel_rfl
theorem c_rel : Tryz.prog.cellsOf 24 = 3 := by kernel_rfl
theorem u_rel : ∃ fs, Tryz.prog.underlying 24 = some (.struct fs) ∧ fs.toList.map (fun f => (f.offset, f.type)) = [(0, 9), (1, 22), (2, 22)] := ⟨_, Tryz.underlying24, rfl⟩
theorem ty_str {n : Nat} {x : List D} (h : TyD Tryz.prog n 9 x) : ∃ s : List UInt8, x = [S s] := by
  cases n with
  | zero => exact h.elim
  | succ n =>
    simp only [TyD, Tryz.underlying9] at h
    obtain ⟨i, rfl, _⟩ := h
    exact ⟨i, rfl⟩
theorem map_of {α β : Type} {f : α → β} (l : List β) (h : ∀ x ∈ l, ∃ a, x = f a) : ∃ r : List α, l = r.map f := by
  induction l with
  | nil => exact ⟨[], rfl⟩
  | cons x l ih =>
    obtain ⟨a, rfl⟩ := h x (by simp)
    obtain ⟨r, rfl⟩ := ih fun y hy => h y (by simp [hy])
    exact ⟨a :: r, rfl⟩
theorem ty_strs {n : Nat} {x : List D} (h : TyD Tryz.prog n 22 x) : ∃ l : List (List UInt8), x = [sl1 l] := by
  cases n with
  | zero => exact h.elim
  | succ n =>
    simp only [TyD, Tryz.underlying22, c_str] at h
    obtain ⟨es, rfl, _, he⟩ := h
    obtain ⟨r, rfl⟩ := map_of (f := fun s => [S s]) es fun e hx => ty_str (he e hx)
    exact ⟨r, rfl⟩
theorem ty_rel {n : Nat} {x : List D} (h : TyD Tryz.prog n 24 x) : ∃ (man : List UInt8) (mods clis : List (List UInt8)), x = [S man, sl1 mods, sl1 clis] := by
  cases n with
  | zero => exact h.elim
  | succ n =>
    obtain ⟨fs, hu, hm⟩ := u_rel
    simp only [TyD, hu, c_rel] at h
    obtain ⟨hl, hf⟩ := h
    have get : ∀ o t, (o, t) ∈ [(0, 9), (1, 22), (2, 22)] → TyD Tryz.prog n t ((x.drop o).take (Tryz.prog.cellsOf t)) := by
      intro o t ht
      rw [← hm] at ht
      obtain ⟨f, hf1, hf2⟩ := List.mem_map.1 ht
      simp only [Prod.mk.injEq] at hf2
      obtain ⟨rfl, rfl⟩ := hf2
      exact hf f hf1
    match x, hl with
    | [a, b, c], _ =>
      obtain ⟨s, h1⟩ := ty_str (get 0 9 (by simp))
      obtain ⟨l, h2⟩ := ty_strs (get 1 22 (by simp))
      obtain ⟨r, h3⟩ := ty_strs (get 2 22 (by simp))
      simp only [c_str, c_strs, List.drop_zero, List.drop_succ_cons, List.take_succ_cons, List.take_zero, List.cons.injEq, and_true] at h1 h2 h3
      exact ⟨s, l, r, by rw [h1, h2, h3]⟩
section
variable {W : World} {H : Type} {enc : TypeId × Value → H} {v : Value} {d : DataW H} {ps : List MemPlace}
theorem arg_strs (hval : Value.okWide Tryz.prog W .any 0 22 v) (h : DataW.Trod enc Tryz.prog W 0 (fun _ => true) true 22 v d ps) : ∃ l, Con W nu0 (F0 W) (sl1 l) v := by
  obtain ⟨a, l, c, rfl⟩ := okWide_slice Tryz.underlying22 hval
  obtain ⟨n, ds, h1, h2, h3, _⟩ := read_arg Ts_ok Ts_z (by simp [Ts]) h
  obtain ⟨s, rfl⟩ := ty_strs h3
  exact ⟨s, con_of_one h1 (by simp)⟩
theorem arg_rel (hval : Value.okWide Tryz.prog W .any 0 24 v) (h : DataW.Trod enc Tryz.prog W 0 (fun _ => true) true 24 v d ps) : ∃ man mods clis, Con W nu0 (F0 W) (.agg [S man, sl1 mods, sl1 clis]) v := by
  obtain ⟨fs, hu, _⟩ := u_rel
  obtain ⟨cs, rfl, _⟩ := okWide_struct hu hval
  obtain ⟨n, ds, h1, h2, h3, _⟩ := read_arg Ts_ok Ts_z (by simp [Ts]) h
  obtain ⟨man, mods, clis, rfl⟩ := ty_rel h3
  exact ⟨man, mods, clis, con_of_agg h1 h2⟩
end
/-- One listed variable's own reading. -/
theorem laid_one {W : World} {n : String} {d : DataW Unit} : ∀ (l : List (String × DataW Unit)) (ps : List MemPlace), DataW.LaidVars Tryz.prog W l ps → (n, d) ∈ l →
    ∃ g t cs fuel p, Tryz.prog.globalNamed n = some g ∧ (Tryz.prog.globals[g]?).map (·.type) = some t ∧ W.var? Tryz.prog n = some cs ∧ DataW.trod (fun _ => ()) Tryz.prog W 0 (fun _ => true) false fuel t cs.toList = some (d, p)
  | [], _, _, hm => absurd hm (by simp)
  | (n', d') :: r, ps, h, hm => by
    obtain ⟨g, t, cs, fuel, p, q, a, b, c, e, f, _⟩ := h
    rcases List.mem_cons.1 hm with h1 | h1
    · simp only [Prod.mk.injEq] at h1
      obtain ⟨rfl, rfl⟩ := h1
      exact ⟨g, t, cs, fuel, p, a, b, c, e⟩
    · exact laid_one r q f h1
abbrev laid3 : List (String × DataW Unit) := [("math/bits.deBruijn32tab", Rows.laid_math_bits_deBruijn32tab), ("math/bits.deBruijn64tab", Rows.laid_math_bits_deBruijn64tab), ("internal/strconv.uint64pow10", Rows.laid_internal_strconv_uint64pow10)]
theorem lf1 : (laid3.filter fun x => x.2.handleName?.isSome) = [] := by kernel_rfl
theorem lf2 : (laid3.filter fun x => x.2.handleName?.isNone) = [("math/bits.deBruijn32tab", Rows.laid_math_bits_deBruijn32tab), ("math/bits.deBruijn64tab", Rows.laid_math_bits_deBruijn64tab), ("internal/strconv.uint64pow10", Rows.laid_internal_strconv_uint64pow10)] := by kernel_rfl
theorem eP : Tryz.prog.globalNamed "internal/strconv.uint64pow10" = some 0 := by kernel_rfl
theorem tP : (Tryz.prog.globals[0]?).map (·.type) = some 194 := by kernel_rfl
theorem dP : (Rows.laid_internal_strconv_uint64pow10 : DataW Unit) = Lib.tabData .u64 Lib.pow10Tab := by kernel_rfl
theorem laid_of {W : World} (h : laidMetH Tryz.prog laid3 W) : LaidF W (F0 W) := by
  unfold laidMetH at h
  rw [lf1, lf2] at h
  obtain ⟨ps, hv, _, _⟩ := h
  have lt : ∀ {g : Nat} {y : Value}, W.cell? ⟨g, 0, none⟩ = some y → F0 W g := fun h => (spot_none h).2
  have c3 : W.var? Tryz.prog "internal/strconv.uint64pow10" = some (Lib.pow10Tab.map fun z => Value.int .u64 z).toArray := by
    obtain ⟨g', t, cs, fuel, p, a, b, c, e⟩ := laid_one _ _ hv (show ("internal/strconv.uint64pow10", Rows.laid_internal_strconv_uint64pow10) ∈ _ by simp)
    obtain rfl := Option.some.inj (eP.symm.trans a)
    obtain rfl := Option.some.inj (tP.symm.trans b)
    rw [dP] at e
    have := Lib.cells_of_tab Tryz.underlying194 Tryz.underlying160 (by kernel_rfl) (by kernel_rfl) e
    rw [c]
    congr 1
    apply Array.toList_inj.1
    simpa using this
  have f3 : F0 W 0 := by
    have h0 : W.cell? ⟨0, 0, none⟩ = some (.int .u64 1) := by simpa [Lib.pow10Tab] using World.var?_cell eP c3 0
    exact lt h0
  exact ⟨f3, c3⟩
/-- The door's own heap meets the condition. -/
theorem door_met (os : Os) (args : Array Value) : laidMetH Tryz.prog laid3 ((World.doorLaid Tryz.prog 24 os).forCall (fun _ _ => 0) ⟨#[], args, []⟩).memory :=
  laidMetH_of_parts3 (fuel := 8) (laidMet_of_run' 8 (by kernel_rfl) (by kernel_rfl)) (by kernel_rfl) (by kernel_rfl)
end Go.Proofs.YtnkkmhjiimbchaaGreatDoor
