/- A part of the proofs: machine, contracts, laws. No condition of its own. -/
import Derived.Test.YtndinledjelleaaGreatDoorP20
import Derived.Test.YtndinledjelleaaGreatDoorP00
import Derived.Test.YtndinledjelleaaGreatDoorMvPc
import Derived.Test.YtndinledjelleaaGreatDoorP06
import Derived.Test.YtndinledjelleaaGreatDoorP03
import Derived.WalkKit
import Derived.OwnWalkIn
import Derived.TacticsInMore
import Derived.LoopNIn
import Derived.LoopIn
import Derived.RangeFuncNested
import Derived.Shelf.Abstract
import Derived.RegionIn
import Derived.Test.YtndinledjelleaaGreatDoorMvRf
import Derived.Test.YtndinledjelleaaGreatDoorMvD
import Derived.Test.YtndinledjelleaaGreatDoorFact
import Derived.Test.YtndinledjelleaaGreatDoorP01
set_option linter.unusedSimpArgs false
set_option linter.unusedVariables false
set_option linter.unusedSectionVars false
open Go Go.Proofs Go.Proofs.Mv.V
set_option maxRecDepth 10000
namespace Go.Proofs.Mv.App
theorem TyW.subs {t : Ty} (h : TyW t) : ∀ x ∈ t.subs, TyW x := by
 cases h with
 | mk kind pkg major mod name names subs l1 l2 l3 l4 l5 l6 l7 => exact l7
variable [GI]
end Go.Proofs.Mv.App
open Go Go.Proofs Go.Proofs.Mv.V
namespace Go.Proofs.Mv.App
variable [GI]
def PcAt (P : Program) (f : FuncId) (args : List D) (d : D) (m : Mem) (n : Nat) : Prop := ACalls P f args m n (fun d' m' n' => d' = d ∧ m' = m ∧ n' = n)
section
variable {P : Program} {f : FuncId} {args : List D} {d : D} {m : Mem} {n : Nat}
theorem Pc.at (h : Pc P f args d) : PcAt P f args d m n := h m n
end
end Go.Proofs.Mv.App
open Go Go.Proofs Go.Proofs.Mv.V
set_option maxRecDepth 10000
namespace Go.Proofs.Mv.App
structure Ifc where
 pkg : List UInt8
 major : Int
 mod : List UInt8
 types : List Nm
 vals : List Nm
def nnD [GI] (x : Nm) : List D := S x.1 :: tyD x.2
def ifD [GI] (f : Ifc) : List D := [S f.pkg, I f.major, S f.mod, .sl 8 (f.types.map nnD), .sl 8 (f.vals.map nnD)]
structure NmW (x : Nm) : Prop where
 h1 : x.1.length ≤ 9223372036854775807
 h2 : TyW x.2
structure IfcW (f : Ifc) : Prop where
 h1 : f.types.length ≤ 9223372036854775807
 h2 : f.vals.length ≤ 9223372036854775807
 h3 : ∀ x ∈ f.types, NmW x
 h4 : ∀ x ∈ f.vals, NmW x
 h5 : f.pkg.length ≤ 9223372036854775807
 h6 : f.mod.length ≤ 9223372036854775807
variable [GI]
@[simp] theorem nnD_len (x : Nm) : (nnD x).length = 8 := by simp [nnD, tyD_len]
@[simp] theorem ifD_len (f : Ifc) : (ifD f).length = 5 := rfl
end Go.Proofs.Mv.App
namespace Go.Proofs.Mv.App
open Go.RowKit Go.Shelf Go Go.Proofs Go.Proofs.Mv.V
attribute [local go_sem] Oper.semAt_some
structure NV where
 nm : ByteArray
 k : Int
 p : ByteArray
 mj : Int
 md : ByteArray
 tn : ByteArray
 a5 : Option Addr
 n5 : Nat
 c5 : Nat
 a6 : Option Addr
 n6 : Nat
 c6 : Nat
structure NV.At (e : NV) (w : World) (b o : Nat) : Prop where
 h0 : w.cell? ⟨b, o, none⟩ = some (.string e.nm)
 h1 : w.cell? ⟨b, o + 1, none⟩ = some (.int .i64 e.k)
 h2 : w.cell? ⟨b, o + 2, none⟩ = some (.string e.p)
 h3 : w.cell? ⟨b, o + 3, none⟩ = some (.int .i64 e.mj)
 h4 : w.cell? ⟨b, o + 4, none⟩ = some (.string e.md)
 h5 : w.cell? ⟨b, o + 5, none⟩ = some (.string e.tn)
 h6 : w.cell? ⟨b, o + 6, none⟩ = some (.slice e.a5 e.n5 e.c5)
 h7 : w.cell? ⟨b, o + 7, none⟩ = some (.slice e.a6 e.n6 e.c6)
theorem NV.At.kept {e : NV} {w w' : World} {b o : Nat} (h : e.At w b o) (hb : w'.heap[b]? = w.heap[b]?) : e.At w' b o := by
 refine ⟨?_, ?_, ?_, ?_, ?_, ?_, ?_, ?_⟩ <;> rw [cell?_of_heap hb]
 ·exact h.h0
 ·exact h.h1
 ·exact h.h2
 ·exact h.h3
 ·exact h.h4
 ·exact h.h5
 ·exact h.h6
 ·exact h.h7
def NV.ty (e : NV) : Value := .agg #[.int .i64 e.k, .string e.p, .int .i64 e.mj, .string e.md, .string e.tn, .slice e.a5 e.n5 e.c5, .slice e.a6 e.n6 e.c6]
set_option maxRecDepth 100000 in
set_option maxHeartbeats 4000000 in
theorem back1_in (L : Nat) (hL : L ≤ 1000000) (F : Nat → Prop) (l Bs os b off cap : Nat) (hcap : L ≤ cap) (e : Nat → NV) (J Jx : List (Fin L) → World → Prop)
  (hJ : ∀ s W W', J s W → W.grownBy W' none → J s W') (hFs : F Bs) (hFb : F b)
  (hY : ∀ pre x W, J pre W → pre.length < L → YieldAt Fence.wide 0 Tryz.prog l #[.int .i64 ((L - 1 - x.1 : Nat) : Int), .agg #[.string (e (L - 1 - x.1)).nm, .int .i64 (e (L - 1 - x.1)).k, .string (e (L - 1 - x.1)).p, .int .i64 (e (L - 1 - x.1)).mj, .string (e (L - 1 - x.1)).md, .string (e (L - 1 - x.1)).tn, .slice (e (L - 1 - x.1)).a5 (e (L - 1 - x.1)).n5 (e (L - 1 - x.1)).c5, .slice (e (L - 1 - x.1)).a6 (e (L - 1 - x.1)).n6 (e (L - 1 - x.1)).c6]] W fun e W' =>
   (e = .returned (.bool true) ∧ J (pre ++ [x]) W' ∧ ∀ k, F k → W'.heap[k]? = W.heap[k]?) ∨ (e = .returned (.bool false) ∧ Jx (pre ++ [x]) W'))
  (W : World) (hBs : W.cell? ⟨Bs, os, none⟩ = some (.slice (some ⟨b, off, none⟩) L cap)) (hE : ∀ k, k < L → (e k).At W b (off + k * 8)) (h0 : J [] W) :
  CallsIn Fence.wide 1 Tryz.prog 194 (#[.func (.yield l) #[] #[]] ++ #[.pointer (some ⟨Bs, os, none⟩)]) W fun e W' => (∃ v, e = .returned v) ∧
   ((∃ ys, ys = List.finRange L ∧ J ys W') ∨ (∃ pre, (∃ k, pre = (List.finRange L).take k) ∧ Jx pre W')) := by
 refine callsIn_of_wp Tryz.func194 rfl trivial ?_ rfl
 simp only [Tryz.ntmps194, List.size_toArray, List.length_cons, List.length_nil, Nat.reduceAdd, Nat.reduceSub, Array.replicate_succ, Array.replicate_zero, List.push_toArray, List.append_toArray, List.nil_append, List.cons_append]
 gi_wp2
 have hw1 : IntKind.i64.wrap ((L : Int) - 1) = (L : Int) - 1 := wrap_i64 (by omega) (by omega)
 try rw [hw1]
 gi_loopw [3] (fun i wr => ∃ (k : Nat) (hk : k ≤ L), i = .int .i64 ((L : Int) - 1 - (k : Nat)) ∧ J ((List.finRange L).take k) wr ∧ ∀ j, F j → wr.heap[j]? = W.heap[j]?)
  (fun i _ => (intOf i + 1).toNat)
 case atStart => exact ⟨0, Nat.zero_le _, by simp, by simpa using h0, fun _ _ => rfl⟩
 case round =>
  obtain ⟨k, hk, rfl, hJs, hnx⟩ := hrel
  have hs' : wr.cell? ⟨Bs, os, none⟩ = some (.slice (some ⟨b, off, none⟩) L cap) := by rw [cell?_of_heap (hnx Bs hFs)]; exact hBs
  by_cases hlt : k < L
  ·have hik : (L : Int) - 1 - (k : Nat) = ((L - 1 - k : Nat) : Int) := by omega
   have hjl : L - 1 - k < L := by omega
   have hA := (hE (L - 1 - k) hjl).kept (hnx b hFb)
   have hyy := hY _ ⟨k, hlt⟩ wr hJs (by rw [List.length_take]; simp; omega)
   rw [hik]
   simp only at hyy
   generalize hej : e (L - 1 - k) = v at hA hyy
   generalize hj : L - 1 - k = j at hA hyy hjl hik ⊢
   obtain ⟨d0, d1, d2, d3, d4, d5, d6, d7⟩ := hA
   obtain ⟨fn, tmps, assign, body, hy, hR⟩ := hyy
   have hw2 : IntKind.i64.wrap ((j : Int) - 1) = (j : Int) - 1 := wrap_i64 (by omega) (by omega)
   gi_wp2
   refine hR.mono ?_
   rintro e W3 (⟨rfl, hJ3, hk3⟩ | ⟨rfl, hJx3⟩)
   ·have hnx3 : ∀ j, F j → W3.heap[j]? = W.heap[j]? := fun j hj => (hk3 j hj).trans (hnx j hj)
    gi_wp2
    go_roundw
    case rel => exact ⟨k + 1, by omega, by simp; omega, by rw [List.take_add_one]; simpa [hlt] using hJ3, hnx3⟩
    case measure => simp [intOf]
   ·gi_wp2
    refine bodyPost_ret (results_none rfl _ _ _) rfl ?_
    exact ⟨⟨_, rfl⟩, .inr ⟨_, ⟨k + 1, by rw [List.take_add_one]; simp [hlt]⟩, hJx3⟩⟩
  ·obtain rfl : k = L := by omega
   rw [show (k : Int) - 1 - (k : Nat) = -1 by omega]
   gi_wp2
   go_end0
   exact ⟨⟨_, rfl⟩, .inl ⟨_, rfl, by rw [List.take_of_length_le (by simp)] at hJs; exact hJs⟩⟩
set_option maxRecDepth 100000 in
set_option maxHeartbeats 1000000 in
theorem back0_in (l Bs os : Nat) (a : Option Addr) (c : Nat) (J : World → Prop) (W : World) (hBs : W.cell? ⟨Bs, os, none⟩ = some (.slice a 0 c)) (h0 : J W) :
  CallsIn Fence.wide 1 Tryz.prog 194 (#[.func (.yield l) #[] #[]] ++ #[.pointer (some ⟨Bs, os, none⟩)]) W fun e W' => (∃ v, e = .returned v) ∧ J W' := by
 refine callsIn_of_wp Tryz.func194 rfl trivial ?_ rfl
 simp only [Tryz.ntmps194, List.size_toArray, List.length_cons, List.length_nil, Nat.reduceAdd, Nat.reduceSub, Array.replicate_succ, Array.replicate_zero, List.push_toArray, List.append_toArray, List.nil_append, List.cons_append]
 gi_wp2
 gi_loopw [3] (fun i wr => i = .int .i64 (-1) ∧ wr = W) (fun _ _ => 0)
 case atStart => exact ⟨rfl, rfl⟩
 case round =>
  obtain ⟨rfl, rfl⟩ := hrel
  gi_wp2
  go_end0
  exact ⟨⟨_, rfl⟩, h0⟩
theorem back_stops (L : Nat) (hL : L ≤ 1000000) (Bs : Nat) (a : Option Addr) (cap : Nat) (e : Nat → NV) (n₀ : Nat) (w : World) (hn : n₀ ≤ w.heap.size) (hB : Bs < w.heap.size) (hnB : n₀ ≤ Bs) (cB : w.cell? ⟨Bs, 0, none⟩ = some (.slice a L cap))
  (hc : 0 < L → L ≤ cap ∧ ∃ b off, a = some ⟨b, off, none⟩ ∧ b < n₀ ∧ ∀ k, k < L → (e k).At w b (off + k * 8)) :
  SeqStopsK Fence.wide 1 Tryz.prog 194 #[.pointer (some ⟨Bs, 0, none⟩)]
   (fun x : Fin L => #[.int .i64 ((L - 1 - x.1 : Nat) : Int), .agg #[.string (e (L - 1 - x.1)).nm, .int .i64 (e (L - 1 - x.1)).k, .string (e (L - 1 - x.1)).p, .int .i64 (e (L - 1 - x.1)).mj, .string (e (L - 1 - x.1)).md, .string (e (L - 1 - x.1)).tn, .slice (e (L - 1 - x.1)).a5 (e (L - 1 - x.1)).n5 (e (L - 1 - x.1)).c5, .slice (e (L - 1 - x.1)).a6 (e (L - 1 - x.1)).n6 (e (L - 1 - x.1)).c6]])
   (fun A B => ∀ k, k < n₀ ∨ k = Bs → B.heap[k]? = A.heap[k]?) (fun ys => ys = List.finRange L) (fun pre => ∃ j, pre = (List.finRange L).take j) L w := by
 intro l J Jx W hW hJ _ hY h0
 have cW : W.cell? ⟨Bs, 0, none⟩ = some (.slice a L cap) := by rw [cell?_of_heap (hW.block Bs hB)]; exact cB
 rcases Nat.eq_zero_or_pos L with hz | hz
 ·subst hz
  exact (back0_in l Bs 0 a cap (J []) W cW h0).mono fun e W' ⟨he, hj⟩ => ⟨he, .inl ⟨_, rfl, hj⟩⟩
 ·obtain ⟨h1, b, off, rfl, hb, hE⟩ := hc hz
  exact back1_in L hL (fun k => k < n₀ ∨ k = Bs) l Bs 0 b off cap h1 e J Jx (fun s W W' h hg => hJ s W W' none h hg (by simp)) (.inr rfl) (.inl hb) hY W cW (fun k hk => (hE k hk).kept (hW.block b (by omega))) h0
end Go.Proofs.Mv.App
