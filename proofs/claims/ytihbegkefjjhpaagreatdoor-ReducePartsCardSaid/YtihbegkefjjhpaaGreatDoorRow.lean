/- A part of the proofs: machine, contracts, laws. No condition of its own. -/
import Derived.Test.YtihbegkefjjhpaaGreatDoorP02
import Derived.Test.YtihbegkefjjhpaaGreatDoorP00
import Derived.Test.YtihbegkefjjhpaaGreatDoorMvD
import Derived.OpenShut
import Derived.ProofKit
import Derived.LaidMore
import Derived.Lib.LaidTab
import Derived.Stop.Joined
import Derived.Test.YtihbegkefjjhpaaGreatDoorRows
import Derived.Test.YtihbegkefjjhpaaGreatDoorCards
import Derived.Test.YtihbegkefjjhpaaGreatDoorTie
import Derived.Test.YtihbegkefjjhpaaGreatDoorP15
set_option linter.unusedSimpArgs false
set_option linter.unusedVariables false
set_option linter.unusedSectionVars false
namespace Go.Proofs.YtihbegkefjjhpaaGreatDoor
open Go.ChangeShapes Go.WideShapes Go.ChangeAt Go.RowKit Go.Proofs.Mv.V Go.Proofs.Mv.App
set_option maxRecDepth 100000
set_option maxHeartbeats 40000000
theorem own : ownKnob Tryz.prog.godebug = none := by kernel_rfl
theorem laidOut : laidOutB Tryz.prog = true := by kernel_rfl
theorem laid_one {W : World} {n : String} {d : DataW Unit} : ∀ (l : List (String × DataW Unit)) (ps : List MemPlace), DataW.LaidVars Tryz.prog W l ps → (n, d) ∈ l →
    ∃ g t cs fuel p, Tryz.prog.globalNamed n = some g ∧ (Tryz.prog.globals[g]?).map (·.type) = some t ∧ W.var? Tryz.prog n = some cs ∧ DataW.trod (fun _ => ()) Tryz.prog W 0 (fun _ => true) false fuel t cs.toList = some (d, p)
  | [], _, _, hm => absurd hm (by simp)
  | (n', d') :: r, ps, h, hm => by
    obtain ⟨g, t, cs, fuel, p, q, a, b, c, e, f, _⟩ := h
    rcases List.mem_cons.1 hm with h1 | h1
    · simp only [Prod.mk.injEq] at h1
      obtain ⟨rfl, rfl⟩ := h1
      exact ⟨g, t, cs, fuel, p, a, b, c, e⟩
    · exact laid_one r q f h1
theorem trod_iface {W : World} {fuel : Nat} {t : TypeId} {ms : Array (String × TypeId)} {cs : List Value} {name : String} {x : DataW Unit} {p : List MemPlace} (hu : Tryz.prog.underlying t = some (.interface ms))
    (h : DataW.trod (fun _ => ()) Tryz.prog W 0 (fun _ => true) false fuel t cs = some (.iface name x, p)) : ∃ u v, cs = [.iface u v] := by
  cases fuel with
  | zero => simp [DataW.trod] at h
  | succ n =>
    unfold DataW.trod at h
    rw [hu] at h
    split at h <;> simp_all
abbrev laid5 : List (String × DataW Unit) := [("math/bits.deBruijn32tab", Rows.laid_math_bits_deBruijn32tab), ("math/bits.deBruijn64tab", Rows.laid_math_bits_deBruijn64tab), ("internal/strconv.uint64pow10", Rows.laid_internal_strconv_uint64pow10), ("strconv.ErrRange", Rows.laid_strconv_ErrRange), ("strconv.ErrSyntax", Rows.laid_strconv_ErrSyntax)]
theorem lf1 : (laid5.filter fun x => x.2.handleName?.isSome) = [] := by kernel_rfl
theorem lf2 : (laid5.filter fun x => x.2.handleName?.isNone) = [("math/bits.deBruijn32tab", Rows.laid_math_bits_deBruijn32tab), ("math/bits.deBruijn64tab", Rows.laid_math_bits_deBruijn64tab), ("internal/strconv.uint64pow10", Rows.laid_internal_strconv_uint64pow10), ("strconv.ErrRange", Rows.laid_strconv_ErrRange), ("strconv.ErrSyntax", Rows.laid_strconv_ErrSyntax)] := by kernel_rfl
theorem eS : Tryz.prog.globalNamed "strconv.ErrSyntax" = some 5 := by kernel_rfl
theorem eR : Tryz.prog.globalNamed "strconv.ErrRange" = some 6 := by kernel_rfl
theorem tS : (Tryz.prog.globals[5]?).map (·.type) = some 31 := by kernel_rfl
theorem tR : (Tryz.prog.globals[6]?).map (·.type) = some 31 := by kernel_rfl
theorem eP : Tryz.prog.globalNamed "internal/strconv.uint64pow10" = some 1 := by kernel_rfl
theorem tP : (Tryz.prog.globals[1]?).map (·.type) = some 208 := by kernel_rfl
theorem dP : (Rows.laid_internal_strconv_uint64pow10 : DataW Unit) = Lib.tabData .u64 Lib.pow10Tab := by kernel_rfl
theorem u_err : ∃ ms, Tryz.prog.underlying 31 = some (.interface ms) := ⟨_, Tryz.underlying31⟩
theorem laid_of {W : World} (h : laidMetH Tryz.prog laid5 W) : Laid W (F0 W) := by
  unfold laidMetH at h
  rw [lf1, lf2] at h
  obtain ⟨ps, hv, _, _⟩ := h
  have one : ∀ (n : String) (g : Nat) (nm : String) (x : DataW Unit), Tryz.prog.globalNamed n = some g → (Tryz.prog.globals[g]?).map (·.type) = some 31 → (n, DataW.iface nm x) ∈ [("math/bits.deBruijn32tab", Rows.laid_math_bits_deBruijn32tab), ("math/bits.deBruijn64tab", Rows.laid_math_bits_deBruijn64tab), ("internal/strconv.uint64pow10", Rows.laid_internal_strconv_uint64pow10), ("strconv.ErrRange", Rows.laid_strconv_ErrRange), ("strconv.ErrSyntax", Rows.laid_strconv_ErrSyntax)] →
      ∃ te pe, W.cell? ⟨g, 0, none⟩ = some (.iface te pe) := by
    intro n g nm x hg ht hm
    obtain ⟨g', t, cs, fuel, p, a, b, c, e⟩ := laid_one _ _ hv hm
    obtain rfl := Option.some.inj (hg.symm.trans a)
    obtain rfl := Option.some.inj (ht.symm.trans b)
    obtain ⟨ms, hu⟩ := u_err
    obtain ⟨te, pe, hcs⟩ := trod_iface hu e
    refine ⟨te, pe, ?_⟩
    have := World.var?_cell hg c 0
    rw [Array.eq_one_of_toList hcs] at this
    simpa using this
  have c1 := one "strconv.ErrSyntax" 5 _ _ eS tS (by simp [Rows.laid_strconv_ErrSyntax]; exact ⟨rfl, rfl⟩)
  have c2 := one "strconv.ErrRange" 6 _ _ eR tR (by simp [Rows.laid_strconv_ErrRange]; exact ⟨rfl, rfl⟩)
  have lt : ∀ {g : Nat} {y : Value}, W.cell? ⟨g, 0, none⟩ = some y → F0 W g := fun h => (spot_none h).2
  have c3 : W.var? Tryz.prog "internal/strconv.uint64pow10" = some (Lib.pow10Tab.map fun z => Value.int .u64 z).toArray := by
    obtain ⟨g', t, cs, fuel, p, a, b, c, e⟩ := laid_one _ _ hv (show ("internal/strconv.uint64pow10", Rows.laid_internal_strconv_uint64pow10) ∈ _ by simp)
    obtain rfl := Option.some.inj (eP.symm.trans a)
    obtain rfl := Option.some.inj (tP.symm.trans b)
    rw [dP] at e
    have := Lib.cells_of_tab Tryz.underlying208 Tryz.underlying184 (by kernel_rfl) (by kernel_rfl) e
    rw [c]
    congr 1
    apply Array.toList_inj.1
    simpa using this
  have f3 : F0 W 1 := by
    have h0 : W.cell? ⟨1, 0, none⟩ = some (.int .u64 1) := by simpa [Lib.pow10Tab] using World.var?_cell eP c3 0
    exact lt h0
  exact ⟨c1.elim fun _ h => h.elim fun _ h => lt h, c2.elim fun _ h => h.elim fun _ h => lt h, f3, c1, c2, c3⟩
theorem door_met (os : Os) (args : Array Value) : laidMetH Tryz.prog laid5 ((World.doorLaid Tryz.prog 79 os).forCall (fun _ _ => 0) ⟨#[], args, []⟩).memory :=
  laidMetH_of_parts3 (fuel := 8) (laidMet_of_run' 8 (by kernel_rfl) (by kernel_rfl)) (by kernel_rfl) (by kernel_rfl)
end Go.Proofs.YtihbegkefjjhpaaGreatDoor
namespace Go.Proofs.YtihbegkefjjhpaaGreatDoor
open Go.ChangeShapes Go.WideShapes Go.ChangeAt Go.RowKit Go.Proofs.Mv.V Go.Proofs.Mv.App
set_option maxRecDepth 100000
theorem c_int : Tryz.prog.cellsOf 3 = 1 := by kernel_rfl
theorem c_str : Tryz.prog.cellsOf 9 = 1 := by kernel_rfl
theorem c_ty : Tryz.prog.cellsOf 54 = 7 := by kernel_rfl
theorem c_tys : Tryz.prog.cellsOf 23 = 1 := by kernel_rfl
theorem c_strs : Tryz.prog.cellsOf 22 = 1 := by kernel_rfl
theorem u_ty : ∃ fs, Tryz.prog.underlying 54 = some (.struct fs) ∧ fs.toList.map (fun f => (f.offset, f.type)) = [(0, 3), (1, 9), (2, 3), (3, 9), (4, 9), (5, 22), (6, 23)] := ⟨_, Tryz.underlying54, rfl⟩
theorem ty_int {n : Nat} {x : List D} (h : TyD Tryz.prog n 3 x) : ∃ i : Int, x = [I i] := by
  cases n with
  | zero => exact h.elim
  | succ n =>
    simp only [TyD, Tryz.underlying3] at h
    obtain ⟨i, rfl, _⟩ := h
    exact ⟨i, rfl⟩
theorem ty_str {n : Nat} {x : List D} (h : TyD Tryz.prog n 9 x) : ∃ s : List UInt8, x = [S s] := by
  cases n with
  | zero => exact h.elim
  | succ n =>
    simp only [TyD, Tryz.underlying9] at h
    obtain ⟨i, rfl, _⟩ := h
    exact ⟨i, rfl⟩
theorem ty_strL {n : Nat} {x : List D} (h : TyD Tryz.prog n 9 x) : ∃ s : List UInt8, x = [S s] ∧ s.length ≤ 9223372036854775807 := by
  cases n with
  | zero => exact h.elim
  | succ n =>
    simp only [TyD, Tryz.underlying9] at h
    obtain ⟨i, rfl, hl⟩ := h
    exact ⟨i, rfl, by have : maxLen = 9223372036854775807 := by decide
                      omega⟩
theorem map_ofP {α β : Type} {f : α → β} {Q : α → Prop} (l : List β) (h : ∀ x ∈ l, ∃ a, x = f a ∧ Q a) : ∃ r : List α, l = r.map f ∧ ∀ a ∈ r, Q a := by
  induction l with
  | nil => exact ⟨[], rfl, by simp⟩
  | cons x l ih =>
    obtain ⟨a, rfl, ha⟩ := h x (by simp)
    obtain ⟨r, rfl, hr⟩ := ih fun y hy => h y (by simp [hy])
    exact ⟨a :: r, rfl, by simpa using ⟨ha, hr⟩⟩
theorem ty_strs {n : Nat} {x : List D} (h : TyD Tryz.prog n 22 x) : ∃ l : List (List UInt8), x = [sl1 l] ∧ l.length ≤ 9223372036854775807 ∧ ∀ s ∈ l, s.length ≤ 9223372036854775807 := by
  cases n with
  | zero => exact h.elim
  | succ n =>
    simp only [TyD, Tryz.underlying22, c_str] at h
    obtain ⟨es, rfl, hl, he⟩ := h
    obtain ⟨r, rfl, hr⟩ := map_ofP (f := fun s => [S s]) (Q := fun s => s.length ≤ 9223372036854775807) es fun e hx => ty_strL (he e hx)
    refine ⟨r, rfl, ?_, hr⟩
    have : maxLen = 9223372036854775807 := by decide
    simp at hl; omega
theorem fields_at {n : Nat} {t : TypeId} {x : List D} {fs : Array Field} {L : List (Nat × TypeId)} (hm : fs.toList.map (fun f => (f.offset, f.type)) = L) (hf : ∀ f ∈ fs.toList, TyD Tryz.prog n f.type ((x.drop f.offset).take (Tryz.prog.cellsOf f.type))) :
    ∀ o t, (o, t) ∈ L → TyD Tryz.prog n t ((x.drop o).take (Tryz.prog.cellsOf t)) := by
  intro o t ht
  rw [← hm] at ht
  obtain ⟨f, hf1, hf2⟩ := List.mem_map.1 ht
  simp only [Prod.mk.injEq] at hf2
  obtain ⟨rfl, rfl⟩ := hf2
  exact hf f hf1
theorem ty_ty (n : Nat) : ∀ {x : List D}, TyD Tryz.prog n 54 x → ∃ t : Ty, x = tyD t ∧ TyW t := by
  induction n using Nat.strongRecOn with
  | _ n ih =>
    intro x h
    cases n with
    | zero => exact h.elim
    | succ n =>
      obtain ⟨fs, hu, hm⟩ := u_ty
      simp only [TyD, hu, c_ty] at h
      obtain ⟨hl, hf⟩ := h
      have get := fields_at (t := 54) hm hf
      match x, hl with
      | [a, b, c, d, e, f, g], _ =>
        obtain ⟨i, h1⟩ := ty_int (get 0 3 (by simp))
        obtain ⟨s1, h2, l2⟩ := ty_strL (get 1 9 (by simp))
        obtain ⟨j, h3⟩ := ty_int (get 2 3 (by simp))
        obtain ⟨s2, h4, l4⟩ := ty_strL (get 3 9 (by simp))
        obtain ⟨s3, h5, l5⟩ := ty_strL (get 4 9 (by simp))
        obtain ⟨ns, h6, l6, q6⟩ := ty_strs (get 5 22 (by simp))
        have h7 := get 6 23 (by simp)
        simp only [c_int, c_str, c_strs, c_tys, List.drop_zero, List.drop_succ_cons, List.take_succ_cons, List.take_zero, List.cons.injEq, and_true] at h1 h2 h3 h4 h5 h6 h7
        cases n with
        | zero => exact h7.elim
        | succ n =>
          simp only [TyD, Tryz.underlying23, c_ty] at h7
          obtain ⟨es, h8, hl8, he⟩ := h7
          obtain ⟨r, rfl, hr⟩ := map_ofP (f := tyD) (Q := TyW) es fun e hx => ih n (by omega) (he e hx)
          have hM : maxLen = 9223372036854775807 := by decide
          simp only [List.length_map] at hl8
          simp only [List.cons.injEq, and_true] at h8
          refine ⟨.mk i s1 j s2 s3 ns r, ?_, .mk _ _ _ _ _ _ _ l6 (by omega) l2 l4 l5 q6 hr⟩
          rw [h1, h2, h3, h4, h5, h6, h8]
          simp only [tyD, tysD_eq]
end Go.Proofs.YtihbegkefjjhpaaGreatDoor
namespace Go.Proofs.YtihbegkefjjhpaaGreatDoor
open Go.ChangeShapes Go.WideShapes Go.ChangeAt Go.RowKit Go.Proofs.Mv.V Go.Proofs.Mv.App
set_option maxRecDepth 100000
def TsT : List TypeId := [3, 9, 22, 54, 23, 26, 24]
theorem TsT_ok : ∀ t ∈ TsT, okT Tryz.prog TsT t = true := by
  have h : TsT.all (fun t => okT Tryz.prog TsT t) = true := by kernel_rfl
  exact List.all_eq_true.1 h
theorem TsT_z : ∀ t ∈ TsT, 1 ≤ Tryz.prog.cellsOf t := by
  have h : TsT.all (fun t => decide (1 ≤ Tryz.prog.cellsOf t)) = true := by kernel_rfl
  intro t ht; simpa using List.all_eq_true.1 h t ht
theorem c_tm : Tryz.prog.cellsOf 26 = 8 := by kernel_rfl
theorem c_tms : Tryz.prog.cellsOf 24 = 1 := by kernel_rfl
theorem u_tm : ∃ fs, Tryz.prog.underlying 26 = some (.struct fs) ∧ fs.toList.map (fun f => (f.offset, f.type)) = [(0, 3), (1, 3), (2, 9), (3, 9), (4, 22), (5, 22), (6, 23), (7, 24)] := ⟨_, Tryz.underlying26, rfl⟩
theorem ty_tys {n : Nat} {x : List D} (h : TyD Tryz.prog n 23 x) : ∃ l : List Ty, x = [.sl 7 (l.map tyD)] ∧ l.length ≤ 9223372036854775807 ∧ ∀ d ∈ l, TyW d := by
  cases n with
  | zero => exact h.elim
  | succ n =>
    simp only [TyD, Tryz.underlying23, c_ty] at h
    obtain ⟨es, rfl, hl, he⟩ := h
    obtain ⟨r, rfl, hr⟩ := map_ofP (f := tyD) (Q := TyW) es fun e hx => ty_ty n (he e hx)
    refine ⟨r, rfl, ?_, hr⟩
    have : maxLen = 9223372036854775807 := by decide
    simp at hl; omega
theorem ty_tm (n : Nat) : ∀ {x : List D}, TyD Tryz.prog n 26 x → ∃ t : Tm, x = tmD t ∧ TmW t := by
  induction n using Nat.strongRecOn with
  | _ n ih =>
    intro x h
    cases n with
    | zero => exact h.elim
    | succ n =>
      obtain ⟨fs, hu, hm⟩ := u_tm
      simp only [TyD, hu, c_tm] at h
      obtain ⟨hl, hf⟩ := h
      have get := fields_at (t := 26) hm hf
      match x, hl with
      | [a, b, c, d, e, f, g, i], _ =>
        obtain ⟨v1, h1⟩ := ty_int (get 0 3 (by simp))
        obtain ⟨v2, h2⟩ := ty_int (get 1 3 (by simp))
        obtain ⟨s1, h3, l3⟩ := ty_strL (get 2 9 (by simp))
        obtain ⟨s2, h4, l4⟩ := ty_strL (get 3 9 (by simp))
        obtain ⟨ns, h5, l5, q5⟩ := ty_strs (get 4 22 (by simp))
        obtain ⟨vs, h6, l6, q6⟩ := ty_strs (get 5 22 (by simp))
        obtain ⟨ys, h7, l7, q7⟩ := ty_tys (get 6 23 (by simp))
        have h8 := get 7 24 (by simp)
        simp only [c_int, c_str, c_strs, c_tys, c_tms, List.drop_zero, List.drop_succ_cons, List.take_succ_cons, List.take_zero, List.cons.injEq, and_true] at h1 h2 h3 h4 h5 h6 h7 h8
        cases n with
        | zero => exact h8.elim
        | succ n =>
          simp only [TyD, Tryz.underlying24, c_tm] at h8
          obtain ⟨es, h9, hl9, he⟩ := h8
          obtain ⟨r, rfl, hr⟩ := map_ofP (f := tmD) (Q := TmW) es fun e hx => ih n (by omega) (he e hx)
          have hM : maxLen = 9223372036854775807 := by decide
          simp only [List.length_map] at hl9
          simp only [List.cons.injEq, and_true] at h9
          refine ⟨.mk v1 v2 s1 s2 ns vs ys r, ?_, .mk _ _ _ _ _ _ _ _ l5 l6 l7 (by omega) l3 l4 q5 q6 q7 hr⟩
          rw [h1, h2, h3, h4, h5, h6, h7, h9]
          simp only [tmD, tmsD_eq]
section
variable {W : World} {H : Type} {enc : TypeId × Value → H} {v : Value} {d : DataW H} {ps : List MemPlace}
theorem arg_tm (hval : Value.okWide Tryz.prog W .any 0 26 v) (h : DataW.Trod enc Tryz.prog W 0 (fun _ => true) true 26 v d ps) : ∃ x, Con W nu0 (F0 W) (.agg (tmD x)) v ∧ TmW x := by
  obtain ⟨fs, hu, _⟩ := u_tm
  obtain ⟨cs, rfl, _⟩ := okWide_struct hu hval
  obtain ⟨n, ds, h1, h2, h3, _⟩ := read_arg TsT_ok TsT_z (by simp [TsT]) h
  obtain ⟨x, rfl, hx⟩ := ty_tm _ h3
  exact ⟨x, con_of_agg h1 h2, hx⟩
end
end Go.Proofs.YtihbegkefjjhpaaGreatDoor
namespace Go.Proofs.YtihbegkefjjhpaaGreatDoor
open Go.ChangeShapes Go.WideShapes Go.ChangeAt Go.RowKit Go.Proofs.Mv.V Go.Proofs.Mv.App
set_option maxRecDepth 100000
def TsE : List TypeId := [3, 9, 22, 54, 23, 26, 24, 71, 40]
theorem TsE_ok : ∀ t ∈ TsE, okT Tryz.prog TsE t = true := by
  have h : TsE.all (fun t => okT Tryz.prog TsE t) = true := by kernel_rfl
  exact List.all_eq_true.1 h
theorem TsE_z : ∀ t ∈ TsE, 1 ≤ Tryz.prog.cellsOf t := by
  have h : TsE.all (fun t => decide (1 ≤ Tryz.prog.cellsOf t)) = true := by kernel_rfl
  intro t ht; simpa using List.all_eq_true.1 h t ht
theorem c_df : Tryz.prog.cellsOf 71 = 10 := by kernel_rfl
theorem u_df : ∃ fs, Tryz.prog.underlying 71 = some (.struct fs) ∧ fs.toList.map (fun f => (f.offset, f.type)) = [(0, 9), (1, 9), (2, 26)] := ⟨_, Tryz.underlying71, rfl⟩
theorem ty_df {n : Nat} {x : List D} (h : TyD Tryz.prog n 71 x) : ∃ d : Df, x = dfD d ∧ TmW d.term := by
  cases n with
  | zero => exact h.elim
  | succ n =>
    obtain ⟨fs, hu, hm⟩ := u_df
    simp only [TyD, hu, c_df] at h
    obtain ⟨hl, hf⟩ := h
    have get := fields_at (t := 71) hm hf
    match x, hl with
    | a :: b :: c, hl =>
      obtain ⟨s1, h1⟩ := ty_str (get 0 9 (by simp))
      obtain ⟨s2, h2⟩ := ty_str (get 1 9 (by simp))
      have h3 := get 2 26 (by simp)
      simp only [c_str, c_tm, List.drop_zero, List.drop_succ_cons, List.take_succ_cons, List.take_zero, List.cons.injEq, and_true] at h1 h2 h3
      obtain ⟨t, h4, h5⟩ := ty_tm _ h3
      rw [List.take_of_length_le (by simp at hl; omega)] at h4
      exact ⟨⟨s1, s2, t⟩, by rw [h1, h2, h4]; rfl, h5⟩
theorem ty_dfs {n : Nat} {x : List D} (h : TyD Tryz.prog n 40 x) : ∃ l : List Df, x = [.sl 10 (l.map dfD)] ∧ l.length ≤ 9223372036854775807 ∧ ∀ d ∈ l, TmW d.term := by
  cases n with
  | zero => exact h.elim
  | succ n =>
    simp only [TyD, Tryz.underlying40, c_df] at h
    obtain ⟨es, rfl, hl, he⟩ := h
    obtain ⟨r, rfl, hr⟩ := map_ofP (f := dfD) (Q := fun d => TmW d.term) es fun e hx => ty_df (he e hx)
    refine ⟨r, rfl, ?_, hr⟩
    have : maxLen = 9223372036854775807 := by decide
    simp at hl; omega
section
variable {W : World} {H : Type} {enc : TypeId × Value → H} {v : Value} {d : DataW H} {ps : List MemPlace}
theorem arg_dfs (hval : Value.okWide Tryz.prog W .any 0 40 v) (h : DataW.Trod enc Tryz.prog W 0 (fun _ => true) true 40 v d ps) : ∃ l : List Df, Con W nu0 (F0 W) (.sl 10 (l.map dfD)) v ∧ l.length ≤ 9223372036854775807 ∧ ∀ f ∈ l, TmW f.term := by
  obtain ⟨a, l, c, rfl⟩ := okWide_slice Tryz.underlying40 hval
  obtain ⟨n, ds, h1, h2, h3, _⟩ := read_arg TsE_ok TsE_z (by simp [TsE]) h
  obtain ⟨s, rfl, h4, h5⟩ := ty_dfs h3
  exact ⟨s, con_of_one h1 (by simp), h4, h5⟩
end
end Go.Proofs.YtihbegkefjjhpaaGreatDoor
