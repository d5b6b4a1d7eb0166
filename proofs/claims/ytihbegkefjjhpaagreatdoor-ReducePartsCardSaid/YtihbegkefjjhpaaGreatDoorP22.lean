/- A part of the proofs: machine, contracts, laws. No condition of its own. -/
import Derived.Test.YtihbegkefjjhpaaGreatDoorMvEvP
import Derived.Test.YtihbegkefjjhpaaGreatDoorFact
import Derived.Test.YtihbegkefjjhpaaGreatDoorMvEvL
import Derived.Test.YtihbegkefjjhpaaGreatDoorP14
import Derived.Test.YtihbegkefjjhpaaGreatDoorP03
import Derived.Test.YtihbegkefjjhpaaGreatDoorP19
import Derived.KernelRfl
set_option linter.unusedSimpArgs false
set_option linter.unusedVariables false
set_option linter.unusedSectionVars false
open Go Go.Proofs Go.Proofs.Mv.V
namespace Go.Proofs.Mv.App
theorem ev_mixed : Tryz.prog.follows .mixedOrders = true := by kernel_rfl
theorem ev_names : Tryz.prog.funcs.all (fun fn => !(fn.name == "runtime.NumGoroutine")) = true := by kernel_rfl
theorem run_at [GI] (fuel k : Nat) {f : FuncId} {args : List D} {x : Value} (ha : belowL 0 args = true)
    (h : (match callE Tryz.prog noOrc (fun _ => false) fuel k f args [] with | some (.v y, _, _) => eqVE y x | _ => false) = true) (m : Mem) (n : Nat) :
    ACalls Tryz.prog f args m n (fun d' m' n' => d' = .v x ∧ m' = m ∧ n' = n) := run_flat noOrc_cs ev_mixed ev_names _ fuel k ha h m n
end Go.Proofs.Mv.App
open Go Go.Proofs Go.Proofs.Mv.V
set_option maxRecDepth 10000
namespace Go.Proofs.Mv.App
def ty1 : List UInt8 := [40, 102, 110, 40, 120, 58, 32, 73, 110, 116, 41, 32, 123, 97, 32, 61, 32, 120, 125, 41, 40, 49, 41, 46, 97]
def ty2 : List UInt8 := [49, 40, 50, 41]
def lt51 : List Tok := [⟨4, 0, [40]⟩, ⟨1, 1, [102, 110]⟩, ⟨4, 3, [40]⟩, ⟨1, 4, [120]⟩, ⟨4, 5, [58]⟩, ⟨2, 7, [73, 110, 116]⟩, ⟨4, 10, [41]⟩, ⟨4, 12, [123]⟩, ⟨1, 13, [97]⟩, ⟨4, 15, [61]⟩, ⟨1, 17, [120]⟩, ⟨4, 18, [125]⟩, ⟨4, 19, [41]⟩, ⟨4, 20, [40]⟩, ⟨3, 21, [49]⟩, ⟨4, 22, [41]⟩, ⟨4, 23, [46]⟩, ⟨1, 24, [97]⟩]
def lt52 : List Tok := [⟨3, 0, [49]⟩, ⟨4, 1, [40]⟩, ⟨3, 2, [50]⟩, ⟨4, 3, [41]⟩]
theorem tok51 : toksAt ty1 0 = (lt51, none) := by kernel_rfl
theorem tok52 : toksAt ty2 0 = (lt52, none) := by kernel_rfl
def nu (n : Int) : Tm := .mk 1 n [] [] [] [] [] []
def ta1 : Tm := .mk 6 0 [] [97] [] [] [] [.mk 9 0 [] [] [] [] [] [.mk 8 0 [] [] [[120]] [] [.mk 1 [] 0 [] [] [] []] [.mk 5 0 [] [] [[97]] [] [] [.mk 3 0 [] [120] [] [] [] []]], nu 1]]
def ta2 : Tm := .mk 6 0 [] [97] [] [] [] [.mk 5 0 [] [] [[97]] [] [] [nu 1]]
def ta3 : Tm := nu 1
def ta4 : Tm := .mk 9 0 [] [] [] [] [] [nu 1, nu 2]
theorem w0t {k N : Int} {s : List UInt8} (h : s.length ≤ 9) : TmW (.mk k N [] s [] [] [] []) := .mk _ _ _ _ _ _ _ _ (by simp) (by simp) (by simp) (by simp) (by simp) (by omega) (by simp) (by simp) (by simp) (by simp)
theorem wnu (n : Int) : TmW (nu n) := w0t (by simp)
theorem ta1_w : TmW ta1 := by
  refine .mk _ _ _ _ _ _ _ _ (by simp) (by simp) (by simp) (by simp) (by simp) (by simp) (by simp) (by simp) (by simp) ?_
  intro t ht
  simp only [List.mem_singleton] at ht
  subst ht
  refine .mk _ _ _ _ _ _ _ _ (by simp) (by simp) (by simp) (by simp) (by simp) (by simp) (by simp) (by simp) (by simp) ?_
  intro t ht
  simp only [List.mem_cons, List.not_mem_nil, or_false] at ht
  rcases ht with rfl | rfl
  · refine .mk _ _ _ _ _ _ _ _ (by simp) (by simp) (by simp) (by simp) (by simp) (by simp) (by simp) (by simp) ?_ ?_
    · intro y hy
      simp only [List.mem_singleton] at hy
      subst hy
      exact .mk _ _ _ _ _ _ _ (by simp) (by simp) (by simp) (by simp) (by simp) (by simp) (by simp)
    · intro t ht
      simp only [List.mem_singleton] at ht
      subst ht
      refine .mk _ _ _ _ _ _ _ _ (by simp) (by simp) (by simp) (by simp) (by simp) (by simp) (by simp) (by simp) (by simp) ?_
      intro t ht
      simp only [List.mem_singleton] at ht
      subst ht
      exact w0t (by simp)
  · exact wnu 1
theorem ta2_w : TmW ta2 := by
  refine .mk _ _ _ _ _ _ _ _ (by simp) (by simp) (by simp) (by simp) (by simp) (by simp) (by simp) (by simp) (by simp) ?_
  intro t ht
  simp only [List.mem_singleton] at ht
  subst ht
  refine .mk _ _ _ _ _ _ _ _ (by simp) (by simp) (by simp) (by simp) (by simp) (by simp) (by simp) (by simp) (by simp) ?_
  intro t ht
  simp only [List.mem_singleton] at ht
  subst ht
  exact wnu 1
theorem ta4_w : TmW ta4 := by
  refine .mk _ _ _ _ _ _ _ _ (by simp) (by simp) (by simp) (by simp) (by simp) (by simp) (by simp) (by simp) (by simp) ?_
  intro t ht
  simp only [List.mem_cons, List.not_mem_nil, or_false] at ht
  rcases ht with rfl | rfl
  · exact wnu 1
  · exact wnu 2
theorem ta1_m : mayTm ta1 = true := by kernel_rfl
theorem ta3_m : mayTm ta3 = true := by kernel_rfl
theorem ta4_m : mayTm ta4 = true := by kernel_rfl
theorem on1 : onceF [] ta1 = (0, true, ta2) := by
  have h : (decide ((onceF [] ta1).1 = 0) && (onceF [] ta1).2.1 && sameTm (onceF [] ta1).2.2 ta2) = true := by kernel_rfl
  simp only [Bool.and_eq_true, decide_eq_true_eq] at h
  obtain ⟨⟨h1, h2⟩, h3⟩ := h
  exact Prod.ext h1 (Prod.ext h2 ((sameTm_iff _ _).1 h3))
theorem on2 : onceF [] ta2 = (0, true, ta3) := by
  have h : (decide ((onceF [] ta2).1 = 0) && (onceF [] ta2).2.1 && sameTm (onceF [] ta2).2.2 ta3) = true := by kernel_rfl
  simp only [Bool.and_eq_true, decide_eq_true_eq] at h
  obtain ⟨⟨h1, h2⟩, h3⟩ := h
  exact Prod.ext h1 (Prod.ext h2 ((sameTm_iff _ _).1 h3))
theorem on4 : onceF [] ta4 = (12, false, Tm0) := by
  have h : (decide ((onceF [] ta4).1 = 12) && !(onceF [] ta4).2.1 && sameTm (onceF [] ta4).2.2 Tm0) = true := by kernel_rfl
  simp only [Bool.and_eq_true, decide_eq_true_eq, Bool.not_eq_true'] at h
  obtain ⟨⟨h1, h2⟩, h3⟩ := h
  exact Prod.ext h1 (Prod.ext h2 ((sameTm_iff _ _).1 h3))
theorem fa1 : fairF [] ta1 = true := by kernel_rfl
theorem fa4 : fairF [] ta4 = true := by kernel_rfl
theorem le10 {f : FuncId} {x d : D} (h : Pc Tryz.prog f [.sl 10 (([] : List Df).map dfD), x] d) (m : Mem) (n : Nat) : ACalls Tryz.prog f [.v (.slice none 0 0), x] m n (fun d' m' n' => d' = d ∧ m' = m ∧ n' = n) := acalls_le (.cons (Le_nil 10) (.cons (Le.refl _) .nil)) (h m n)
theorem dg51 : Pc Tryz.prog 140 [S [49]] (I 1) := fun m n => run_at 200 20 (by rfl) (by kernel_rfl) m n
theorem dg52 : Pc Tryz.prog 140 [S [50]] (I 2) := fun m n => run_at 200 20 (by rfl) (by kernel_rfl) m n
def ans5 : List AnsE := [⟨140, [S [49]], I 1⟩, ⟨140, [S [50]], I 2⟩, ⟨34, [S ty1], .tup [.sl 3 (lt51.map tokD), nilE]⟩, ⟨34, [S ty2], .tup [.sl 3 (lt52.map tokD), nilE]⟩, ⟨14, [.agg (tmD ta1)], Tt true⟩, ⟨14, [.agg (tmD ta4)], Tt true⟩, ⟨47, [.v (.slice none 0 0), .agg (tmD ta1)], Tt true⟩, ⟨47, [.v (.slice none 0 0), .agg (tmD ta4)], Tt true⟩,
  ⟨48, [.v (.slice none 0 0), .agg (tmD ta1)], resTb (0, true, ta2)⟩, ⟨48, [.v (.slice none 0 0), .agg (tmD ta2)], resTb (0, true, ta3)⟩, ⟨48, [.v (.slice none 0 0), .agg (tmD ta4)], resTb (12, false, Tm0)⟩, ⟨49, [.agg (tmD ta3)], .agg (tmD ta3)⟩, ⟨14, [.agg (tmD ta3)], Tt true⟩]
theorem ans5_cs : CS Tryz.prog (orcL ans5) := by
  refine orcL_cs _ fun a ha m n => ?_
  simp only [ans5, List.mem_cons, List.not_mem_nil, or_false] at ha
  rcases ha with rfl | rfl | rfl | rfl | rfl | rfl | rfl | rfl | rfl | rfl | rfl | rfl | rfl
  · exact dg51 m n
  · exact dg52 m n
  · have := cTokens ty1 m n
    rw [if_neg (by simp [ty1]), tok51] at this
    exact this
  · have := cTokens ty2 m n
    rw [if_neg (by simp [ty2]), tok52] at this
    exact this
  · have := cMayTm ta1_w m n
    rwa [ta1_m] at this
  · have := cMayTm ta4_w m n
    rwa [ta4_m] at this
  · have := le10 (cFairW (l := []) (by simp) (by simp) ta1_w) m n
    rwa [fa1] at this
  · have := le10 (cFairW (l := []) (by simp) (by simp) ta4_w) m n
    rwa [fa4] at this
  · have := le10 (cOnce (l := []) (by simp) (by simp) ta1_w (fair_all fa1)) m n
    rwa [on1] at this
  · have := le10 (cOnce (l := []) (by simp) (by simp) ta2_w (by kernel_rfl)) m n
    rwa [on2] at this
  · have := le10 (cOnce (l := []) (by simp) (by simp) ta4_w (fair_all fa4)) m n
    rwa [on4] at this
  · exact cCopied (wnu 1) (all_c _ (by kernel_rfl)) m n
  · have := cMayTm (wnu 1) m n
    rwa [show mayTm (nu 1) = true from ta3_m] at this
set_option maxHeartbeats 40000000 in
theorem cUp25 : Pc Tryz.prog 17 [] (Tt true) := fun m n => run_trueN ans5_cs ev_mixed ev_names (fun _ => false) 400 60 (by kernel_rfl) m n
end Go.Proofs.Mv.App
