/- A part of the proofs of the seat YtdbfejminjaheaaGreatDoor: the abstract machine, the contracts of the functions, the laws. No condition of its own. -/
import Derived.WalkKit
import Derived.OwnWalkIn
import Derived.TacticsInMore
import Derived.LoopNIn
import Derived.LoopIn
import Derived.Shelf.Abstract
import Derived.RegionIn
import Derived.Test.YtdbfejminjaheaaGreatDoorMvRf
import Derived.Test.YtdbfejminjaheaaGreatDoorMvC
import Derived.Test.YtdbfejminjaheaaGreatDoorMvD
import Derived.Test.YtdbfejminjaheaaGreatDoorFact
set_option linter.unusedSimpArgs false
set_option linter.unusedVariables false
set_option linter.unusedSectionVars false
namespace Go.Proofs.Mv.V
open Go.RowKit Go.Shelf Go
attribute [local go_sem] Oper.semAt_some
set_option maxRecDepth 100000 in
set_option maxHeartbeats 4000000 in
theorem chunk1_in (L : Nat) (F : Nat → Prop) (l Bs os Bn on b off len cap : Nat) (hcap : len ≤ cap) (hlen : len ≤ 1000000) (hL : ∀ k : Nat, k < L ↔ 6 * k < len) (J Jx : List (Fin L) → World → Prop)
    (hJ : ∀ s W W', J s W → W.grownBy W' none → J s W') (hFs : F Bs) (hFn : F Bn)
    (hY : ∀ pre x W, J pre W → pre.length < L → YieldAt Fence.wide 0 Tryz.prog l #[.slice (some ⟨b, off + 6 * x.1 * 3, none⟩) (min 6 (len - 6 * x.1)) (min 6 (len - 6 * x.1))] W fun e W' =>
      (e = .returned (.bool true) ∧ J (pre ++ [x]) W' ∧ ∀ k, F k → W'.heap[k]? = W.heap[k]?) ∨ (e = .returned (.bool false) ∧ Jx (pre ++ [x]) W'))
    (W : World) (hBs : W.cell? ⟨Bs, os, none⟩ = some (.slice (some ⟨b, off, none⟩) len cap)) (hBn : W.cell? ⟨Bn, on, none⟩ = some (.int .i64 6)) (h0 : J [] W) :
    CallsIn Fence.wide 1 Tryz.prog 101 (#[.func (.yield l) #[] #[]] ++ #[.pointer (some ⟨Bs, os, none⟩), .pointer (some ⟨Bn, on, none⟩)]) W fun e W' => (∃ v, e = .returned v) ∧
      ((∃ ys, ys = List.finRange L ∧ J ys W') ∨ (∃ pre, (∃ k, pre = (List.finRange L).take k) ∧ Jx pre W')) := by
  refine callsIn_of_wp Tryz.func101 rfl trivial ?_ rfl
  simp only [Tryz.ntmps101, List.size_toArray, List.length_cons, List.length_nil, Nat.reduceAdd, Nat.reduceSub, Array.replicate_succ, Array.replicate_zero, List.push_toArray, List.append_toArray, List.nil_append, List.cons_append]
  gi_wp2
  gi_loopw [4] (fun i wr => ∃ (k : Nat) (hk : k ≤ L), i = .int .i64 ((6 * k : Nat) : Int) ∧ J ((List.finRange L).take k) wr ∧ ∀ j, F j → wr.heap[j]? = W.heap[j]?)
    (fun i _ => len + 6 - (intOf i).toNat)
  case atStart => exact ⟨0, Nat.zero_le _, rfl, by simpa using h0, fun _ _ => rfl⟩
  case round =>
    obtain ⟨k, hk, rfl, hJs, hnx⟩ := hrel
    have hs' : wr.cell? ⟨Bs, os, none⟩ = some (.slice (some ⟨b, off, none⟩) len cap) := by rw [cell?_of_heap (hnx Bs hFs)]; exact hBs
    have hn' : wr.cell? ⟨Bn, on, none⟩ = some (.int .i64 6) := by rw [cell?_of_heap (hnx Bn hFn)]; exact hBn
    by_cases hlt : k < L
    · have hkl := (hL k).1 hlt
      gi_wp2
      gi_region
      have hJd := hJ _ wr wr.drew hJs ⟨rfl, rfl, rfl, Nat.le_refl _, fun _ _ _ => rfl⟩
      obtain ⟨fn, tmps, assign, body, hy, hR⟩ := hY _ ⟨k, hlt⟩ wr.drew hJd (by rw [List.length_take]; simp; omega)
      by_cases hm : 6 ≤ len - 6 * k
      · rw [show min 6 (len - 6 * (⟨k, hlt⟩ : Fin L).1) = 6 from Nat.min_eq_left hm] at hy
        gi_wp2
        refine hR.mono ?_
        rintro e W3 (⟨rfl, hJ3, hk3⟩ | ⟨rfl, hJx3⟩)
        · have hnx3 : ∀ j, F j → W3.heap[j]? = W.heap[j]? := fun j hj => (hk3 j hj).trans (hnx j hj)
          have hn3 : W3.cell? ⟨Bn, on, none⟩ = some (.int .i64 6) := by rw [cell?_of_heap (hnx3 Bn hFn)]; exact hBn
          gi_wp2
          go_roundw
          case rel => exact ⟨k + 1, by omega, by simp; omega, by rw [List.take_add_one]; simpa [hlt] using hJ3, hnx3⟩
          case measure => simp [intOf]; omega
        · gi_wp2
          refine bodyPost_ret (results_none rfl _ _ _) rfl ?_
          exact ⟨⟨_, rfl⟩, .inr ⟨_, ⟨k + 1, by rw [List.take_add_one]; simp [hlt]⟩, hJx3⟩⟩
      · rw [show min 6 (len - 6 * (⟨k, hlt⟩ : Fin L).1) = len - 6 * k from Nat.min_eq_right (show len - 6 * k ≤ 6 by omega)] at hy
        gi_wp2
        refine hR.mono ?_
        rintro e W3 (⟨rfl, hJ3, hk3⟩ | ⟨rfl, hJx3⟩)
        · have hnx3 : ∀ j, F j → W3.heap[j]? = W.heap[j]? := fun j hj => (hk3 j hj).trans (hnx j hj)
          have hn3 : W3.cell? ⟨Bn, on, none⟩ = some (.int .i64 6) := by rw [cell?_of_heap (hnx3 Bn hFn)]; exact hBn
          gi_wp2
          go_roundw
          case rel => exact ⟨k + 1, by omega, by simp; omega, by rw [List.take_add_one]; simpa [hlt] using hJ3, hnx3⟩
          case measure => simp [intOf]; omega
        · gi_wp2
          refine bodyPost_ret (results_none rfl _ _ _) rfl ?_
          exact ⟨⟨_, rfl⟩, .inr ⟨_, ⟨k + 1, by rw [List.take_add_one]; simp [hlt]⟩, hJx3⟩⟩
    · have hkl : ¬ 6 * k < len := fun h => hlt ((hL k).2 h)
      obtain rfl : k = L := by omega
      gi_wp2
      go_end0
      exact ⟨⟨_, rfl⟩, .inl ⟨_, rfl, by rw [List.take_of_length_le (by simp)] at hJs; exact hJs⟩⟩
set_option maxRecDepth 100000 in
set_option maxHeartbeats 4000000 in
theorem chunk0_in (l Bs os Bn on : Nat) (a : Option Addr) (J : World → Prop) (W : World) (hBs : W.cell? ⟨Bs, os, none⟩ = some (.slice a 0 0)) (h0 : J W) :
    CallsIn Fence.wide 1 Tryz.prog 101 (#[.func (.yield l) #[] #[]] ++ #[.pointer (some ⟨Bs, os, none⟩), .pointer (some ⟨Bn, on, none⟩)]) W fun e W' => (∃ v, e = .returned v) ∧ J W' := by
  refine callsIn_of_wp Tryz.func101 rfl trivial ?_ rfl
  simp only [Tryz.ntmps101, List.size_toArray, List.length_cons, List.length_nil, Nat.reduceAdd, Nat.reduceSub, Array.replicate_succ, Array.replicate_zero, List.push_toArray, List.append_toArray, List.nil_append, List.cons_append]
  gi_wp2
  gi_loopw [4] (fun i wr => i = .int .i64 0 ∧ wr = W) (fun _ _ => 0)
  case atStart => exact ⟨rfl, rfl⟩
  case round =>
    obtain ⟨rfl, rfl⟩ := hrel
    gi_wp2
    go_end0
    exact ⟨⟨_, rfl⟩, h0⟩
theorem itChunk {TL : List (List D)} (hl : TL.length ≤ 1000000) (L : Nat) (hL : ∀ k : Nat, k < L ↔ 6 * k < TL.length) :
    ItSeq Tryz.prog 101 [.rptr none [.sl 3 TL], .rptr none [.v (.int .i64 6)]] L (fun i => [.sl 3 ((TL.drop (6 * i.1)).take 6)]) := by
  refine ⟨⟨_, Tryz.func101, by kernel_rfl, by kernel_rfl⟩, fun w ν F lb hF hv => ?_⟩
  simp only [ConVs, Con, ConCs] at hv
  obtain ⟨y1, r1, e1, ⟨Bs, os, rfl, hFs, _, ⟨ys, hcs, _, hys⟩, _⟩, y2, r2, e2, ⟨Bn, on, rfl, hFn, _, ⟨yn, hcn, _, hyn⟩, _⟩, e3⟩ := hv
  subst e3; subst e2; subst hyn
  obtain rfl : lb = #[.pointer (some ⟨Bs, os, none⟩), .pointer (some ⟨Bn, on, none⟩)] := Array.toList_inj.1 e1
  rcases hys with ⟨b, off, cap, rfl, hcap, hFb, hes⟩ | ⟨hnil, a, rfl⟩
  · refine ⟨fun x => #[.slice (some ⟨b, off + 6 * x.1 * 3, none⟩) (min 6 (TL.length - 6 * x.1)) (min 6 (TL.length - 6 * x.1))], fun i => ?_, ?_⟩
    · simp only [ConVs, Con]
      refine ⟨_, [], rfl, .inl ⟨b, off + 6 * i.1 * 3, min 6 (TL.length - 6 * i.1), by simp, by simp, hFb, conEs_take (conEs_drop hes _) _⟩, rfl⟩
    · intro l J Jx W hW hJ _ hY h0
      have hBs : W.cell? ⟨Bs, os, none⟩ = some (.slice (some ⟨b, off, none⟩) TL.length cap) := by rw [cell?_of_heap (hW.block Bs (hF Bs hFs))]; exact hcs
      have hBn : W.cell? ⟨Bn, on, none⟩ = some (.int .i64 6) := by rw [cell?_of_heap (hW.block Bn (hF Bn hFn))]; exact hcn
      exact chunk1_in L F l Bs os Bn on b off TL.length cap hcap hl hL J Jx (fun s W W' h hg => hJ s W W' none h hg (by simp)) hFs hFn hY W hBs hBn h0
  · have hL0 : L = 0 := by
      rcases Nat.eq_zero_or_pos L with h | h
      · exact h
      · have := (hL 0).1 h; simp [hnil] at this
    subst hL0
    refine ⟨fun x => #[], fun i => i.elim0, ?_⟩
    intro l J Jx W hW hJ _ hY h0
    have hBs : W.cell? ⟨Bs, os, none⟩ = some (.slice a 0 0) := by rw [cell?_of_heap (hW.block Bs (hF Bs hFs))]; exact hcs
    exact (chunk0_in l Bs os Bn on a (J []) W hBs h0).mono fun e W' ⟨he, hj⟩ => ⟨he, .inl ⟨_, rfl, hj⟩⟩
set_option maxHeartbeats 1000000 in
theorem cChunk [GI] {TL : List (List D)} (hp : ∀ e ∈ TL, ∀ d ∈ e, Pur d) (m : Mem) (n : Nat) : ACalls Tryz.prog 53 [.sl 3 TL, .v (.int .i64 6)] m n (fun d m' n' =>
    d = .func (.func 101) [] [.rptr none [.sl 3 TL], .rptr none [.v (.int .i64 6)]] ∧ m' = m ∧ n' = n) := by
  refine acalls_done (R' := Hq (fun d m' n' => d = .func (.func 101) [] [.ptr n 0 0 0, .ptr (n + 1) 0 0 0] ∧ m' n = some ⟨1, [[.sl 3 TL]], 0⟩ ∧ m' (n + 1) = some ⟨1, [[.v (.int .i64 6)]], 0⟩ ∧ ∀ j, j < n → m' j = m j) tg) ?_ ?_
  · refine acalls_vc [0, 1, 2, 3, 4, 6] Tryz.func53 Tryz.ntmps53 (by kernel_rfl) rfl rfl (by simp) ?_
    have q : n + 1 ≠ n := by omega
    have q' : n ≠ n + 1 := by omega
    simp -dsimp [set_ne, q, q']
    exact hq ⟨rfl, by simp [set_ne, q'], by simp, fun j hj => by rw [set_ne _ _ _ _ (by omega), set_ne _ _ _ _ (by omega)]⟩
  · rintro d m' n' ⟨rfl, h1, h2, h3⟩
    refine ⟨_, .func (.cons (.ptr h1 (Nat.le_refl _) (.cons (Pur.sl hp).pub .nil)) (.cons (.ptr h2 (Nat.le_succ _) (.cons (Pur.v _).pub .nil)) .nil)), h3, rfl⟩
end Go.Proofs.Mv.V
