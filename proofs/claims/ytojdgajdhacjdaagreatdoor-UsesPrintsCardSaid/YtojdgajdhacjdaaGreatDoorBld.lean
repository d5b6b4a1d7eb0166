/- A part of the proofs of the seat YtojdgajdhacjdaaGreatDoor: the abstract machine, the contracts of the functions, the laws. No condition of its own. -/
import Derived.WalkKit
import Derived.LoopTactic
import Derived.Shelf.Strings.OnBuilder
import Derived.Test.YtojdgajdhacjdaaGreatDoorMvFl
import Derived.Test.YtojdgajdhacjdaaGreatDoorMvPc
import Derived.Test.YtojdgajdhacjdaaGreatDoorLay
import Derived.Test.YtojdgajdhacjdaaGreatDoorTyF
import Derived.Shelf.Strings.BuilderK
set_option linter.unusedSimpArgs false
set_option linter.unusedVariables false
set_option linter.unusedSectionVars false
open Go Go.Proofs Go.Proofs.Mv.V Go.RowKit
namespace Go.Proofs.Mv.App
theorem stX : Builder.Extra Tryz.prog Tryz.laysSt_ren where
  sizeBuilder := by kernel_rfl
  liesBuilder := by kernel_rfl
  t5 := Tryz.laysItoa.t5
  a5 := Tryz.laysItoa.a5
  z5 := Tryz.laysItoa.z5
  v5 := Tryz.laysItoa.v5
  infoByte := by kernel_rfl
  cellsByte := by kernel_rfl
  sizeByte := by kernel_rfl
  neB5 := by decide
/-- A builder goes on to hold what it holds while only new blocks are made. -/
theorem isB_blw {B b : Nat} {T e : TypeId} {bs : List Value} {w w' : World} (h : Lib.IsBuilder T e B b bs w) (hb : Blw w.heap.size w w') : Lib.IsBuilder T e B b bs w' := by
  have hat : ∀ {p}, Lib.BuilderAt T e B b p bs w → Lib.BuilderAt T e B b p bs w' := by
    rintro p ⟨h1, v, h2, ⟨h3, h4⟩, h5⟩
    refine ⟨h1, v, by rw [hb.block _ (Array.getElem?_eq_some_iff.1 h2).1]; exact h2, ⟨h3, ?_⟩, h5⟩
    rcases h4 with h4 | ⟨g, cap, cur, q1, q2, q3, q4⟩
    · exact .inl h4
    · exact .inr ⟨g, cap, cur, q1, q2, by rw [hb.block _ (Array.getElem?_eq_some_iff.1 q3).1]; exact q3, q4⟩
  exact h.imp hat hat
theorem cWS {B b : Nat} {l s : List UInt8} {w : World} (h : Lib.IsBuilder 83 5 B b (Lib.byteCells l) w) (hl : l.length + s.length ≤ 1000000000) (hB : B ≤ w.heap.size) :
    Calls Tryz.prog 30 #[.pointer (some ⟨b, 0, none⟩), .string (ofL s)] w fun e w' => e = .returned (.tuple #[.int .i64 (ofL s).size, .nilIface]) ∧ Lib.IsBuilder 83 5 B b (Lib.byteCells (l ++ s)) w' ∧ Below B w w' := by
  refine Calls.mono (show Calls Tryz.prog 30 _ _ _ from Any.Builder_WriteString { Tryz.laysJoin with } joinX B b (Lib.byteCells l) (ofL s) w h ?_ hB) ?_
  · rw [Lib.byteCells_length]; have : (ofL s).size = s.length := by show (s.toArray).size = _; simp
    omega
  · rintro e w' ⟨rfl, h1, h2⟩
    refine ⟨rfl, .inr ?_, h2⟩
    have : Lib.byteCells (l ++ s) = Lib.byteCells l ++ Lib.strCells (ofL s) := by rw [Lib.strCells_eq]; show _ = Lib.byteCells l ++ Lib.byteCells s; simp [Lib.byteCells]
    rw [this]; exact h1
theorem cST {B b : Nat} {l : List UInt8} {w : World} (h : Lib.IsBuilder 83 5 B b (Lib.byteCells l) w) (hB : B ≤ w.heap.size) :
    Calls Tryz.prog 33 #[.pointer (some ⟨b, 0, none⟩)] w fun e w' => e = .returned (.string (ofL l)) ∧ Below B w w' :=
  show Calls Tryz.prog 33 _ _ _ from Any.Builder_String_any { Tryz.laysSt with } stX B b l w h hB
end Go.Proofs.Mv.App
open Go Go.Proofs Go.Proofs.Mv.V Go.RowKit
namespace Go.Proofs.Mv.App
theorem isF_blw {B b : Nat} {T e : TypeId} {bs : List Value} {w w' : World} (h : Lib.IsBuilderF T e B b bs w) (hb : Blw w.heap.size w w') : Lib.IsBuilderF T e B b bs w' := by
  have hat : ∀ {p}, Lib.BuilderAtF T e B b p bs w → Lib.BuilderAtF T e B b p bs w' := by
    rintro p ⟨h1, v, h2, ⟨h3, h4⟩, h5⟩
    refine ⟨h1, v, by rw [hb.block _ (Array.getElem?_eq_some_iff.1 h2).1]; exact h2, ⟨h3, ?_⟩, h5⟩
    rcases h4 with h4 | ⟨g, cap, cur, fz, q1, q2, q3, q4⟩
    · exact .inl h4
    · exact .inr ⟨g, cap, cur, fz, q1, q2, by rw [hb.block _ (Array.getElem?_eq_some_iff.1 q3).1]; exact q3, q4⟩
  exact h.imp hat hat
theorem cWSk {B b : Nat} {l s : List UInt8} {w : World} (h : Lib.IsBuilderF 83 5 B b (Lib.byteCells l) w) (hl : l.length + s.length ≤ 1000000000) (hB : B ≤ w.heap.size) :
    Calls Tryz.prog 30 #[.pointer (some ⟨b, 0, none⟩), .string (ofL s)] w fun e w' => e = .returned (.tuple #[.int .i64 (ofL s).size, .nilIface]) ∧ Lib.IsBuilderF 83 5 B b (Lib.byteCells (l ++ s)) w' ∧ Below B w w' ∧ Lib.OthersKept 5 (some b) w w' := by
  refine Calls.mono (show Calls Tryz.prog 30 _ _ _ from Any.Builder_WriteString_k { Tryz.laysJoin with } joinX B b (Lib.byteCells l) (ofL s) w h ?_ hB) ?_
  · rw [Lib.byteCells_length]; have : (ofL s).size = s.length := by show (s.toArray).size = _; simp
    omega
  · rintro e w' ⟨rfl, h1, h2, h3⟩
    refine ⟨rfl, .inr ?_, h2, h3⟩
    have : Lib.byteCells (l ++ s) = Lib.byteCells l ++ Lib.strCells (ofL s) := by rw [Lib.strCells_eq]; show _ = Lib.byteCells l ++ Lib.byteCells s; simp [Lib.byteCells]
    rw [this]; exact h1
theorem cSTk {B b : Nat} {l : List UInt8} {w : World} (h : Lib.IsBuilderF 83 5 B b (Lib.byteCells l) w) (hB : B ≤ w.heap.size) :
    Calls Tryz.prog 33 #[.pointer (some ⟨b, 0, none⟩)] w fun e w' => e = .returned (.string (ofL l)) ∧ Below B w w' :=
  (show Calls Tryz.prog 33 _ _ _ from Any.Builder_String_any_k { Tryz.laysSt with } stX B b l w h hB).mono fun e w' h => ⟨h.1, h.2.2.1⟩
/-- A cell of what is neither the builder's nor a row of bytes. -/
theorem kept_cell {e : TypeId} {b : Nat} {w w' : World} (h : Lib.OthersKept e (some b) w w') {k o : Nat} {c : Array Value} {t : TypeId} {fz : Nat × Nat} (hk : w.heap[k]? = some (.cells c t fz)) (hb : k ≠ b) (ht : t ≠ e) {v : Value} (hv : w.cell? ⟨k, o, none⟩ = some v) : w'.cell? ⟨k, o, none⟩ = some v := by
  have h1 := h k _ hk (by simpa using hb) (fun c' fz' he => by injection he with _ h2 _; exact ht h2)
  rw [← hv]; simp only [World.cell?, h1, hk]
end Go.Proofs.Mv.App
