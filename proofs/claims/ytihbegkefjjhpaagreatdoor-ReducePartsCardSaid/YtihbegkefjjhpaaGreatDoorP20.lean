/- A part of the proofs: machine, contracts, laws. No condition of its own. -/
import Derived.Test.YtihbegkefjjhpaaGreatDoorP19
set_option linter.unusedSimpArgs false
set_option linter.unusedVariables false
set_option linter.unusedSectionVars false
open Go Go.Proofs Go.Proofs.Mv.V
set_option maxRecDepth 10000
namespace Go.Proofs.Mv.App
structure PuL [GI] (k N : Int) (mod nm : List UInt8) (NL VL YL : List (List D)) (V : List D) (R : Nat → Tm) (len : Nat) (m : Mem) (n : Nat) (b : Nat × D) (m2 : Mem) (n2 : Nat) : Prop where
  o0 : m2 n = some ⟨8, [[I k, I N, S mod, S nm, .sl 1 NL, .sl 1 VL, .sl 7 YL, b.2]], 0⟩
  o1 : m2 (n + 1) = some ⟨8, [V], 0⟩
  o2 : m2 (n + 1 + 1) = some zTo
  fr : ∀ j, j < n → m2 j = m j
  nn : n + 3 ≤ n2
  le : b.1 ≤ len
  ls : Lst m2 8 (((List.range b.1).map R).map tmD) b.2
  kf : ∀ j, kof b.2 = some j → n + 3 ≤ j ∧ j < n2
structure PuJ (k : Int) (names : Nms) (x : List UInt8) (ow0 : Bool) (m2 : Mem) (n2 : Nat) (b : Nat × Bool) (m3 : Mem) (n3 : Nat) : Prop where
  mm : m3 = m2
  nn : n3 = n2
  le : b.1 ≤ names.length
  ow : b.2 = (ow0 || (decide (k = 8) && (names.take b.1).any fun s => decide (s = x)))
  z : k ≠ 8 → b.1 = 0
end Go.Proofs.Mv.App
