/- A part of the proofs: machine, contracts, laws. No condition of its own. -/
import Derived.Test.YtndinledjelleaaGreatDoorP15
import Derived.Test.YtndinledjelleaaGreatDoorP18
import Derived.Test.YtndinledjelleaaGreatDoorP24
set_option linter.unusedSimpArgs false
set_option linter.unusedVariables false
set_option linter.unusedSectionVars false
open Go Go.Proofs Go.Proofs.Mv.V Go.RowKit
set_option maxRecDepth 10000
namespace Go.Proofs.Mv.App
theorem sl_cases {w : World} {ν : Nu} {F : Nat → Prop} {m : Mem} {n : Nat} (hst : St w ν F m n) {z : Nat} {es : List (List D)} {y : Value} (h : Con w ν F (.sl z es) y) :
  ∃ (a : Option Addr) (c : Nat), y = .slice a es.length c ∧ es.length ≤ c ∧ ∀ k, k < es.length → ∃ b o, a = some ⟨b, o, none⟩ ∧ b < w.heap.size ∧ ConEs w ν F z es b o := by
 simp only [Con] at h
 rcases h with ⟨b, o, c, rfl, hlc, hF, hes⟩ | ⟨rfl, a, rfl⟩
 ·exact ⟨_, c, rfl, hlc, fun k hk => ⟨b, o, rfl, hst.mem.lt b hF, hes⟩⟩
 ·exact ⟨a, 0, rfl, Nat.le_refl _, fun k hk => absurd hk (Nat.not_lt_zero _)⟩
theorem cPPrint {x : Pg} (hx : PgW x) : Pc Tryz.prog 19 [.agg (pgD x)] (.tup [S (if mayP x then textP x else []), argE (mayP x)]) := by
 cases hm : mayP x with
 | false =>
  refine pc_of (d := .tup [S [], argE false]) (Pur.tup (by simp [argE]; exact ⟨pur_S _, Pur.iface (Pur.v _)⟩)) (fun m n => ?_)
  have cM := cPMay hx
  rw [hm] at cM
  have hz : (pgD x).length = 2 := rfl
  generalize pgD x = XX at cM hz
  have htz : List.take 2 XX = XX := List.take_of_length_le (by omega)
  refine acalls_vc [0, 1, 2, 3, 4, 6, 8, 9, 10, 13, 16, 17, 18, 19, 42, 43, 44, 45, 55] Tryz.func19 Tryz.ntmps19 (by kernel_rfl) rfl rfl (by simp) ?_
  simp -dsimp [hz, htz]
  refine pcall cM ?_
  simp -dsimp [Tt]
  exact pcq rfl fun j hj => set_ne _ _ _ _ (by omega)
 | true =>
  intro m n
  refine acalls_blw ⟨_, Tryz.func19, by kernel_rfl, by kernel_rfl⟩ fun w ν F vals hst hv => ?_
  obtain ⟨y, rfl, hy⟩ := conVs_arr1 hv
  have hy0 := hy
  simp only [pgD] at hy
  rw [Con] at hy
  obtain ⟨ys, rfl, hys, _⟩ := hy
  simp only [ConVs] at hys
  obtain ⟨v0, r0, e0, h0, v1, r1, e1, h1, e2⟩ := hys
  subst e2; subst e1
  obtain rfl : ys = #[v0, v1] := Array.toList_inj.1 e0
  obtain ⟨sa, c, rfl, hlc, hc⟩ := sl_cases hst h0
  obtain ⟨sb, c', rfl, hld, hd⟩ := sl_cases hst h1
  simp only [List.length_map] at hlc hc hld hd hy0
  rw [List.length_map, List.length_map]
  refine (progPrint_w hx hm hst hy0 hc hlc hd hld).mono ?_
  rintro e w' ⟨rfl, hb⟩
  refine ⟨_, rfl, hb, _, ?_, rfl, rfl, rfl⟩
  simp [Con, ConVs, S, argE, nilE]
set_option maxHeartbeats 1000000 in
theorem cProgPrints {x : Pg} (hx : PgW x) : Pc Tryz.prog 5 [.agg (pgD x)] (Tt true) := by
 refine pc_of (pur_T _) (fun m n => ?_)
 have c1 := cRPFew hx
 have c2 := cPPrint hx
 have c3 : fewP x = true → Pc Tryz.prog 20 [.agg (pgD x)] (Tt (mayP x)) := cRPMay hx
 have c4 := cPMay hx
 have c5 : mayP x = true → Pc Tryz.prog 22 [.agg (pgD x)] (S (textP x)) := cRPPrint hx
 have fr : ∀ o j, j < n → (m.set n o) j = m j := fun o j hj => set_ne _ _ _ _ (by omega)
 have hz : (pgD x).length = 2 := rfl
 generalize pgD x = XX at c1 c2 c3 c4 c5 hz
 have htz : List.take 2 XX = XX := List.take_of_length_le (by omega)
 refine acalls_vc [0, 1, 2, 3, 4, 5, 6, 7, 12, 22] Tryz.func5 Tryz.ntmps5 (by kernel_rfl) rfl rfl (by simp) ?_
 simp -dsimp [hz, htz]
 refine pcall cUp26 ?_
 simp -dsimp [Tt, hz, htz]
 refine pcall c1 ?_
 cases hf : fewP x
 ·simp -dsimp [Tt]
  exact pcq rfl (fr _)
 have c3 := c3 hf
 simp -dsimp [Tt, hz, htz]
 refine pcall c2 ?_
 cases hm : mayP x
 ·rw [hm] at c3 c4
  simp -dsimp [Tt, S, argE, hz, htz]
  refine pcall c3 ?_
  simp -dsimp [Tt, S, argE, hz, htz]
  refine pcall c4 ?_
  simp -dsimp [Tt, S, argE]
  exact pcq rfl (fr _)
 ·rw [hm] at c3 c4
  have c5 := c5 hm
  simp -dsimp [Tt, S, argE, hz, htz]
  refine pcall c3 ?_
  simp -dsimp [Tt, S, argE, hz, htz]
  refine pcall c4 ?_
  simp -dsimp [Tt, S, argE, nilE, hz, htz]
  refine pcall c5 ?_
  simp -dsimp [Tt, S]
  exact pcq rfl (fr _)
end Go.Proofs.Mv.App
