/- A part of the proofs: machine, contracts, laws. No condition of its own. -/
import Derived.Test.YtndinledjelleaaGreatDoorP18
import Derived.Test.YtndinledjelleaaGreatDoorMvEvO
import Derived.Test.YtndinledjelleaaGreatDoorP12
import Derived.Test.YtndinledjelleaaGreatDoorP02
import Derived.Test.YtndinledjelleaaGreatDoorP19
import Derived.Test.YtndinledjelleaaGreatDoorP01
import Derived.Test.YtndinledjelleaaGreatDoorP22
import Derived.KernelRfl
set_option linter.unusedSimpArgs false
set_option linter.unusedVariables false
set_option linter.unusedSectionVars false
open Go Go.Proofs Go.Proofs.Mv.V
set_option maxRecDepth 10000
namespace Go.Proofs.Mv.App
set_option maxHeartbeats 1000000 in
theorem cPMajor (s : List UInt8) (hs : s.length ≤ 1000000) : Pc Tryz.prog 148 [S s] (Tt (numOk s)) := by
 refine pc_of (pur_T _) (fun m n => ?_)
 refine acalls_vc [0, 2, 3, 4] Tryz.func148 Tryz.ntmps148 (by kernel_rfl) rfl rfl (by simp) ?_
 simp -dsimp [I]
 refine aCall_of (cParseUint s (by omega) _ _) ?_
 rintro d m2 n2 ⟨x, e, rfl, hx, rfl, rfl⟩
 cases hu : okU (Lib.parseUintB 32 s) with
 | none =>
  rw [hu] at hx
  obtain ⟨t, rfl⟩ := hx
  simp -dsimp [I, S, Tt]
  exact pcq' (by simp [numOk_no hu, Tt])
 | some u =>
  rw [hu] at hx
  obtain ⟨rfl, rfl⟩ := hx
  have hpu := okU_some hu
  have no : ¬ numOk s = true → Tt (numOk s) = .v (.bool false) := fun h => by simp [Tt]; simpa using h
  by_cases u1 : (1 : Int) ≤ (u : Int)
  case neg =>
   have u1' : ¬ 1 ≤ u := by omega
   have u0 : u = 0 := by omega
   simp -dsimp [I, S, Tt, u1, u1', u0, nilE]
   exact pcq' (no fun q => by have := of_numOk q; rw [hpu] at this; simp at this; omega).symm
  have u1' : 1 ≤ u := by omega
  by_cases u2 : (u : Int) ≤ 999999999
  case neg =>
   have u2' : ¬ u ≤ 999999999 := by omega
   simp -dsimp [I, S, Tt, u1, u1', u2, u2', nilE]
   exact pcq' (no fun q => by have := of_numOk q; rw [hpu] at this; simp at this; omega).symm
  have u2' : u ≤ 999999999 := by omega
  obtain ⟨y, r, rfl⟩ : ∃ y r, s = y :: r := by
   cases s with
   | nil => simp [Lib.parseUintB] at hpu
   | cons y r => exact ⟨_, _, rfl⟩
  by_cases u3 : y.toNat = 48
  ·have hy : y = 48 := UInt8.toNat_inj.1 u3
   have hno := no fun q => absurd (by simp [hy]) (of_numOk q).2.2.2.1
   clear hy
   simp -dsimp [I, S, Tt, u1, u1', u2, u2', u3, nilE]
   exact pcq' hno.symm
  have u3' : ((y.toNat : Int) != 48) = true := by simp; omega
  obtain ⟨q1, q2⟩ := numOk_of hpu (by omega) (by omega) (by simp; intro h; exact u3 (by rw [h]; rfl))
  simp -dsimp [I, S, Tt, u1, u1', u2, u2', u3', nilE]
  exact pcq' (by simp [q1, Tt])
def tx6 : List UInt8 := [105, 109, 112, 111, 114, 116, 32, 112, 32, 49, 32, 109, 32, 97, 115, 32, 109, 32, 108, 101, 116, 32, 120, 32, 61, 32, 109, 58, 102, 40, 49, 41, 32, 108, 101, 116, 32, 121, 32, 61, 32, 123, 97, 32, 61, 32, 120, 125]
def lt6 : List Tok := [⟨1, 0, [105, 109, 112, 111, 114, 116]⟩, ⟨1, 7, [112]⟩, ⟨3, 9, [49]⟩, ⟨1, 11, [109]⟩, ⟨1, 13, [97, 115]⟩, ⟨1, 16, [109]⟩, ⟨1, 18, [108, 101, 116]⟩, ⟨1, 22, [120]⟩, ⟨4, 24, [61]⟩, ⟨1, 26, [109]⟩, ⟨4, 27, [58]⟩, ⟨1, 28, [102]⟩, ⟨4, 29, [40]⟩, ⟨3, 30, [49]⟩, ⟨4, 31, [41]⟩, ⟨1, 33, [108, 101, 116]⟩, ⟨1, 37, [121]⟩, ⟨4, 39, [61]⟩, ⟨4, 41, [123]⟩, ⟨1, 42, [97]⟩, ⟨4, 44, [61]⟩, ⟨1, 46, [120]⟩, ⟨4, 47, [125]⟩]
theorem tok6 : toksAt tx6 0 = (lt6, none) := by kernel_rfl
def tm6x : Tm := .mk 9 0 [] [] [] [] [] [.mk 4 0 [109] [102] [] [] [] [], .mk 1 1 [] [] [] [] [] []]
def tm6y : Tm := .mk 5 0 [] [] [[97]] [] [] [.mk 3 0 [] [120] [] [] [] []]
theorem w6 {k N : Int} {md s : List UInt8} (h1 : md.length ≤ 9) (h : s.length ≤ 9) : TmW (.mk k N md s [] [] [] []) := .mk _ _ _ _ _ _ _ _ (by simp) (by simp) (by simp) (by simp) (by omega) (by omega) (by simp) (by simp) (by simp) (by simp)
theorem tm6x_w : TmW tm6x := by
 refine .mk _ _ _ _ _ _ _ _ (by simp) (by simp) (by simp) (by simp) (by simp) (by simp) (by simp) (by simp) (by simp) ?_
 intro t ht
 simp only [List.mem_cons, List.not_mem_nil, or_false] at ht
 rcases ht with rfl | rfl
 ·exact w6 (by simp) (by simp)
 ·exact w6 (by simp) (by simp)
theorem tm6y_w : TmW tm6y := by
 refine .mk _ _ _ _ _ _ _ _ (by simp) (by simp) (by simp) (by simp) (by simp) (by simp) (by simp) (by simp) (by simp) ?_
 intro t ht
 simp only [List.mem_singleton] at ht
 subst ht
 exact w6 (by simp) (by simp)
theorem tm6x_m : mayTm tm6x = true := by kernel_rfl
theorem tm6y_m : mayTm tm6y = true := by kernel_rfl
theorem dg6 : Pc Tryz.prog 236 [S [49]] (I 1) := fun m n => run_at 200 20 (by rfl) (by kernel_rfl) m n
theorem cClone60 (m : Mem) (n : Nat) : ACalls Tryz.prog 80 [.sl 1 []] m n (fun d m' n' => d = .sl 1 [] ∧ m' = m ∧ n' = n) := by
 refine acalls_done (R' := Hq (fun d m' n' => PubAs n m' d (.sl 1 []) ∧ ∀ j, j < n → m' j = m j) tg) ?_ ?_
 ·refine acalls_vc [0, 2, 4] Tryz.func80 Tryz.ntmps80 (by kernel_rfl) rfl rfl (by simp) ?_
  simp -dsimp
  refine ⟨hq ⟨pub_nil 1, fun _ _ => rfl⟩, hq ⟨?_, fun j hj => ?_⟩⟩
  ·exact .lst (Lst.own (es := []) (set_same _ _ _)) (fun k hk => by simp [kof] at hk; omega) .nil
  ·exact set_ne _ _ _ _ (by omega)
 ·rintro d m' n' ⟨h1, h2⟩
  exact ⟨_, h1, h2, rfl⟩
theorem cClone6t (m : Mem) (n : Nat) : ACalls Tryz.prog 81 [.sl 7 []] m n (fun d m' n' => d = .sl 7 [] ∧ m' = m ∧ n' = n) := by
 refine acalls_done (R' := Hq (fun d m' n' => PubAs n m' d (.sl 7 []) ∧ ∀ j, j < n → m' j = m j) tg) ?_ ?_
 ·refine acalls_vc [0, 2, 4] Tryz.func81 Tryz.ntmps81 (by kernel_rfl) rfl rfl (by simp) ?_
  simp -dsimp
  refine ⟨hq ⟨pub_nil 7, fun _ _ => rfl⟩, hq ⟨?_, fun j hj => ?_⟩⟩
  ·exact .lst (Lst.own (es := []) (set_same _ _ _)) (fun k hk => by simp [kof] at hk; omega) .nil
  ·exact set_ne _ _ _ _ (by omega)
 ·rintro d m' n' ⟨h1, h2⟩
  exact ⟨_, h1, h2, rfl⟩
def i6 : Imp := ⟨[112], 1, [109], [109]⟩
def p6 : Pg := ⟨[i6], [⟨[120], tm6x⟩, ⟨[121], tm6y⟩]⟩
theorem i6_w : ImpWU i6 := ⟨by simp [i6], by simp [i6], by simp [i6]⟩
theorem p6_w : PgW p6 := by
 refine ⟨by simp [p6], by simp [p6], fun i hi => ?_, fun l hl => ?_⟩
 ·simp only [p6, List.mem_singleton] at hi
  subst hi; exact i6_w
 ·simp only [p6, List.mem_cons, List.not_mem_nil, or_false] at hl
  rcases hl with rfl | rfl
  ·exact ⟨by simp, tm6x_w⟩
  ·exact ⟨by simp, tm6y_w⟩
def tyk (k : Int) : Ty := .mk k [] 0 [] [] [] []
def tyF : Ty := .mk 7 [] 0 [] [] [] [tyk 1, tyk 3]
def tyR : Ty := .mk 5 [] 0 [] [] [[97]] [tyk 3]
theorem tyk_w (k : Int) : TyW (tyk k) := .mk _ _ _ _ _ _ _ (by simp) (by simp) (by simp) (by simp) (by simp) (by simp) (by simp)
theorem tyF_w : TyW tyF := by
 refine .mk _ _ _ _ _ _ _ (by simp) (by simp) (by simp) (by simp) (by simp) (by simp) fun t ht => ?_
 simp only [List.mem_cons, List.not_mem_nil, or_false] at ht
 rcases ht with rfl | rfl <;> exact tyk_w _
theorem tyR_w : TyW tyR := by
 refine .mk _ _ _ _ _ _ _ (by simp) (by simp) (by simp) (by simp) (by simp) (by simp) fun t ht => ?_
 simp only [List.mem_singleton] at ht
 subst ht; exact tyk_w _
def ans6a : List AnsE := [⟨65, [S tx6], .tup [.sl 3 (lt6.map tokD), nilE]⟩, ⟨236, [S [49]], I 1⟩, ⟨148, [S [49]], Tt true⟩, ⟨147, [S [49]], .tup [I 1, nilE]⟩, ⟨57, [S [120]], Tt true⟩, ⟨57, [S [121]], Tt true⟩,
 ⟨33, [.agg (tmD tm6x)], Tt true⟩, ⟨33, [.agg (tmD tm6y)], Tt true⟩, ⟨63, [spotE 1 9], code 9⟩, ⟨29, [spotE 0 9, I 0, I 9], Tt true⟩, ⟨80, [.sl 1 []], .sl 1 []⟩]
def ans6b : List AnsE := [⟨21, [.agg (pgD p6)], Tt true⟩, ⟨72, [S [112]], Tt true⟩, ⟨72, [S [109]], Tt true⟩, ⟨186, [S [109]], Tt true⟩, ⟨186, [S [102]], Tt true⟩, ⟨186, [S [97]], Tt true⟩, ⟨186, [S [120]], Tt true⟩,
 ⟨38, [.agg (tyD (tyk 1))], Tt true⟩, ⟨38, [.agg (tyD (tyk 3))], Tt true⟩, ⟨38, [.agg (tyD tyF)], Tt true⟩, ⟨38, [.agg (tyD tyR)], Tt true⟩,
 ⟨81, [.sl 7 []], .sl 7 []⟩, ⟨74, [.sl 8 ([(([120] : List UInt8), tyk 3)].map nnD), S [120], I 1], .tup [.agg (tyD (tyk 3)), nilE]⟩]
def ans6 : List AnsE := ans6a ++ ans6b
theorem ans6_cs : CS Tryz.prog (orcL ans6) := by
 refine orcL_cs _ fun a ha m n => ?_
 rcases List.mem_append.1 ha with ha | ha
 ·simp only [ans6a, List.mem_cons, List.not_mem_nil, or_false] at ha
  rcases ha with rfl | rfl | rfl | rfl | rfl | rfl | rfl | rfl | rfl | rfl | rfl
  ·have := cTokens tx6 m n
   rw [if_neg (by simp [tx6]), tok6] at this
   exact this
  ·exact dg6 m n
  ·exact cPMajor [49] (by simp) m n
  ·exact (cAtoiN (s := [49]) (by decide) m n)
  ·exact cPVar [120] (by simp) m n
  ·exact cPVar [121] (by simp) m n
  ·have := cMayTm tm6x_w m n
   rwa [tm6x_m] at this
  ·have := cMayTm tm6y_w m n
   rwa [tm6y_m] at this
  ·exact a_alone none 1 9 m n
  ·exact a_is none 0 9 m n
  ·exact cClone60 m n
 ·simp only [ans6b, List.mem_cons, List.not_mem_nil, or_false] at ha
  rcases ha with rfl | rfl | rfl | rfl | rfl | rfl | rfl | rfl | rfl | rfl | rfl | rfl | rfl
  ·have := cPMay p6_w m n
   rwa [show mayP p6 = true by kernel_rfl] at this
  ·exact cSmall [112] (by simp) m n
  ·exact cSmall [109] (by simp) m n
  ·exact cNameT (s := [109]) (by simp) m n
  ·exact cNameT (s := [102]) (by simp) m n
  ·exact cNameT (s := [97]) (by simp) m n
  ·exact cNameT (s := [120]) (by simp) m n
  ·exact cMay (tyk_w 1) m n
  ·exact cMay (tyk_w 3) m n
  ·exact cMay tyF_w m n
  ·exact cMay tyR_w m n
  ·exact cClone6t m n
  ·exact cInVar (l := [([120], tyk 3)]) (by simp) [120] 1 m n
def ans6o : List AnsO := [⟨74, 8, [nnD ([120], tyk 3)], [S [120], I 1], .tup [.agg (tyD (tyk 3)), nilE]⟩]
theorem ans6o_cs : CS Tryz.prog (orcO ans6o) := by
 refine orcO_cs _ fun a ha m n dl hL => ?_
 simp only [ans6o, List.mem_singleton] at ha
 subst ha
 exact cInVarO (l := [([120], tyk 3)]) (by simp) [120] 1 hL
set_option maxHeartbeats 40000000 in
theorem cUp26 : Pc Tryz.prog 17 [] (Tt true) := fun m n => run_trueN (orcB_cs ans6_cs ans6o_cs) ev_mixed ev_names (fun f => Nat.beq f 81) 400 60 (by kernel_rfl) m n
end Go.Proofs.Mv.App
