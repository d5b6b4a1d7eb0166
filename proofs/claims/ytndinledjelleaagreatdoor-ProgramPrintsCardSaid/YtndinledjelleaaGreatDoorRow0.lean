/- A part of the proofs: machine, contracts, laws. No condition of its own. -/
import Derived.Test.YtndinledjelleaaGreatDoorP00
import Derived.Test.YtndinledjelleaaGreatDoorMvD
import Derived.OpenShut
import Derived.ProofKit
import Derived.LaidMore
import Derived.Lib.LaidTab
import Derived.Stop.Joined
import Derived.Test.YtndinledjelleaaGreatDoorRows
import Derived.Test.YtndinledjelleaaGreatDoorCards
import Derived.Test.YtndinledjelleaaGreatDoorTie
set_option linter.unusedSimpArgs false
set_option linter.unusedVariables false
set_option linter.unusedSectionVars false
namespace Go.Proofs.YtndinledjelleaaGreatDoor
open Go.ChangeShapes Go.WideShapes Go.ChangeAt Go.RowKit Go.Proofs.Mv.V Go.Proofs.Mv.App
set_option maxRecDepth 100000
set_option maxHeartbeats 40000000
theorem own : ownKnob Tryz.prog.godebug = none := by kernel_rfl
theorem laidOut : laidOutB Tryz.prog = true := by kernel_rfl
theorem laid_one {W : World} {n : String} {d : DataW Unit} : ∀ (l : List (String × DataW Unit)) (ps : List MemPlace), DataW.LaidVars Tryz.prog W l ps → (n, d) ∈ l →
  ∃ g t cs fuel p, Tryz.prog.globalNamed n = some g ∧ (Tryz.prog.globals[g]?).map (·.type) = some t ∧ W.var? Tryz.prog n = some cs ∧ DataW.trod (fun _ => ()) Tryz.prog W 0 (fun _ => true) false fuel t cs.toList = some (d, p)
 | [], _, _, hm => absurd hm (by simp)
 | (n', d') :: r, ps, h, hm => by
  obtain ⟨g, t, cs, fuel, p, q, a, b, c, e, f, _⟩ := h
  rcases List.mem_cons.1 hm with h1 | h1
  ·simp only [Prod.mk.injEq] at h1
   obtain ⟨rfl, rfl⟩ := h1
   exact ⟨g, t, cs, fuel, p, a, b, c, e⟩
  ·exact laid_one r q f h1
theorem trod_iface {W : World} {fuel : Nat} {t : TypeId} {ms : Array (String × TypeId)} {cs : List Value} {name : String} {x : DataW Unit} {p : List MemPlace} (hu : Tryz.prog.underlying t = some (.interface ms))
  (h : DataW.trod (fun _ => ()) Tryz.prog W 0 (fun _ => true) false fuel t cs = some (.iface name x, p)) : ∃ u v, cs = [.iface u v] := by
 cases fuel with
 | zero => simp [DataW.trod] at h
 | succ n =>
  unfold DataW.trod at h
  rw [hu] at h
  split at h <;> simp_all
abbrev laid5 : List (String × DataW Unit) := [("math/bits.deBruijn32tab", Rows.laid_math_bits_deBruijn32tab), ("math/bits.deBruijn64tab", Rows.laid_math_bits_deBruijn64tab), ("internal/strconv.uint64pow10", Rows.laid_internal_strconv_uint64pow10), ("errors.errorType", Rows.laid_errors_errorType), ("strconv.ErrRange", Rows.laid_strconv_ErrRange), ("strconv.ErrSyntax", Rows.laid_strconv_ErrSyntax)]
theorem lf1 : (laid5.filter fun x => x.2.handleName?.isSome) = [("errors.errorType", Rows.laid_errors_errorType)] := by kernel_rfl
theorem lf2 : (laid5.filter fun x => x.2.handleName?.isNone) = [("math/bits.deBruijn32tab", Rows.laid_math_bits_deBruijn32tab), ("math/bits.deBruijn64tab", Rows.laid_math_bits_deBruijn64tab), ("internal/strconv.uint64pow10", Rows.laid_internal_strconv_uint64pow10), ("strconv.ErrRange", Rows.laid_strconv_ErrRange), ("strconv.ErrSyntax", Rows.laid_strconv_ErrSyntax)] := by kernel_rfl
theorem et : Tryz.prog.globalNamed "errors.errorType" = some 0 := by kernel_rfl
theorem eS : Tryz.prog.globalNamed "strconv.ErrSyntax" = some 2 := by kernel_rfl
theorem eR : Tryz.prog.globalNamed "strconv.ErrRange" = some 3 := by kernel_rfl
theorem tS : (Tryz.prog.globals[2]?).map (·.type) = some 35 := by kernel_rfl
theorem tR : (Tryz.prog.globals[3]?).map (·.type) = some 35 := by kernel_rfl
theorem eP : Tryz.prog.globalNamed "internal/strconv.uint64pow10" = some 1 := by kernel_rfl
theorem tP : (Tryz.prog.globals[1]?).map (·.type) = some 295 := by kernel_rfl
theorem dP : (Rows.laid_internal_strconv_uint64pow10 : DataW Unit) = Lib.tabData .u64 Lib.pow10Tab := by kernel_rfl
theorem u_err : ∃ ms, Tryz.prog.underlying 35 = some (.interface ms) := ⟨_, Tryz.underlying35⟩
theorem rt : (Tryz.prog.cutTypes.find? (·.1 == "internal/reflectlite.rtype")).map (·.2) = some 193 := by kernel_rfl
theorem oneRow : ((List.range Tryz.prog.types.size).filter fun t => Tryz.prog.rowNamed t [101, 114, 114, 111, 114]) = [35] := by kernel_rfl
theorem hh : typeHandle Tryz.prog 35 = tyHandle 35 := by kernel_rfl
theorem laid_of {W : World} (h : laidMetH Tryz.prog laid5 W) : Laid W (F0 W) := by
 unfold laidMetH at h
 rw [lf1, lf2] at h
 obtain ⟨⟨ps, hv, _, _⟩, hhs⟩ := h
 obtain ⟨name, u, ty, e1, e2, e3, e4, e5⟩ := hhs _ (List.mem_singleton.2 rfl)
 have en : name = [101, 114, 114, 111, 114] := (Option.some.inj e1).symm
 subst en
 obtain rfl := Option.some.inj (rt.symm.trans e2)
 have hm : ty ∈ (List.range Tryz.prog.types.size).filter fun t => Tryz.prog.rowNamed t [101, 114, 114, 111, 114] := List.mem_filter.2 ⟨List.mem_range.2 e3, e4⟩
 rw [oneRow] at hm
 obtain rfl := List.mem_singleton.1 hm
 rw [hh] at e5
 have c0 : W.cell? ⟨0, 0, none⟩ = some tyErr := by simpa using World.var?_cell et e5 0
 have one : ∀ (n : String) (g : Nat) (nm : String) (x : DataW Unit), Tryz.prog.globalNamed n = some g → (Tryz.prog.globals[g]?).map (·.type) = some 35 → (n, DataW.iface nm x) ∈ [("math/bits.deBruijn32tab", Rows.laid_math_bits_deBruijn32tab), ("math/bits.deBruijn64tab", Rows.laid_math_bits_deBruijn64tab), ("internal/strconv.uint64pow10", Rows.laid_internal_strconv_uint64pow10), ("strconv.ErrRange", Rows.laid_strconv_ErrRange), ("strconv.ErrSyntax", Rows.laid_strconv_ErrSyntax)] →
   ∃ te pe, W.cell? ⟨g, 0, none⟩ = some (.iface te pe) := by
  intro n g nm x hg ht hm
  obtain ⟨g', t, cs, fuel, p, a, b, c, e⟩ := laid_one _ _ hv hm
  obtain rfl := Option.some.inj (hg.symm.trans a)
  obtain rfl := Option.some.inj (ht.symm.trans b)
  obtain ⟨ms, hu⟩ := u_err
  obtain ⟨te, pe, hcs⟩ := trod_iface hu e
  refine ⟨te, pe, ?_⟩
  have := World.var?_cell hg c 0
  rw [Array.eq_one_of_toList hcs] at this
  simpa using this
 have c1 := one "strconv.ErrSyntax" 2 _ _ eS tS (by simp [Rows.laid_strconv_ErrSyntax]; exact ⟨rfl, rfl⟩)
 have c2 := one "strconv.ErrRange" 3 _ _ eR tR (by simp [Rows.laid_strconv_ErrRange]; exact ⟨rfl, rfl⟩)
 have lt : ∀ {g : Nat} {y : Value}, W.cell? ⟨g, 0, none⟩ = some y → F0 W g := fun h => (spot_none h).2
 have c3 : W.var? Tryz.prog "internal/strconv.uint64pow10" = some (Lib.pow10Tab.map fun z => Value.int .u64 z).toArray := by
  obtain ⟨g', t, cs, fuel, p, a, b, c, e⟩ := laid_one _ _ hv (show ("internal/strconv.uint64pow10", Rows.laid_internal_strconv_uint64pow10) ∈ _ by simp)
  obtain rfl := Option.some.inj (eP.symm.trans a)
  obtain rfl := Option.some.inj (tP.symm.trans b)
  rw [dP] at e
  have := Lib.cells_of_tab Tryz.underlying295 Tryz.underlying246 (by kernel_rfl) (by kernel_rfl) e
  rw [c]
  congr 1
  apply Array.toList_inj.1
  simpa using this
 have f3 : F0 W 1 := by
  have h0 : W.cell? ⟨1, 0, none⟩ = some (.int .u64 1) := by simpa [Lib.pow10Tab] using World.var?_cell eP c3 0
  exact lt h0
 exact ⟨lt c0, c1.elim fun _ h => h.elim fun _ h => lt h, c2.elim fun _ h => h.elim fun _ h => lt h, f3, c0, c1, c2, c3⟩
theorem door_met (os : Os) (args : Array Value) : laidMetH Tryz.prog laid5 ((World.doorLaid Tryz.prog 79 os).forCall (fun _ _ => 0) ⟨#[], args, []⟩).memory :=
 laidMetH_of_parts3 (fuel := 8) (laidMet_of_run' 8 (by kernel_rfl) (by kernel_rfl)) (by kernel_rfl) (by kernel_rfl)
end Go.Proofs.YtndinledjelleaaGreatDoor
