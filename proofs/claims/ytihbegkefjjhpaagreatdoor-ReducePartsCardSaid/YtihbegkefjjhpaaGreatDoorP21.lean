/- A part of the proofs: machine, contracts, laws. No condition of its own. -/
import Derived.Test.YtihbegkefjjhpaaGreatDoorP20
set_option linter.unusedSimpArgs false
set_option linter.unusedVariables false
set_option linter.unusedSectionVars false
open Go Go.Proofs Go.Proofs.Mv.V
set_option maxRecDepth 10000
namespace Go.Proofs.Mv.App
structure CaL [GI] (k N : Int) (mod nm : List UInt8) (NL VL YL SL : List (List D)) (CD : List D) (out : Nat → Tm) (len : Nat) (m : Mem) (n n2 : Nat) (j : Nat) (m3 : Mem) (n3 : Nat) : Prop where
  o0 : m3 n = some ⟨8, [[I k, I N, S mod, S nm, .sl 1 NL, .sl 1 VL, .sl 7 YL, .sl 8 SL]], 0⟩
  o1 : m3 (n + 1) = some zTo
  oc : m3 n2 = some ⟨8, [CD], 0⟩
  oo : m3 (n2 + 1) = some ⟨8, [tmD (out j)], 0⟩
  fr : ∀ j, j < n → m3 j = m j
  nn : n2 + 2 ≤ n3
  le : j ≤ len
structure RsL [GI] (k N : Int) (mod nm : List UInt8) (NL VL YL SL : List (List D)) (subs : List Tm) (len : Nat) (m : Mem) (n : Nat) (i : Nat) (m2 : Mem) (n2 : Nat) : Prop where
  o0 : m2 n = some ⟨8, [[I k, I N, S mod, S nm, .sl 1 NL, .sl 1 VL, .sl 7 YL, .sl 8 SL]], 0⟩
  o1 : m2 (n + 1) = some zTo
  fr : ∀ j, j < n → m2 j = m j
  nn : n + 2 ≤ n2
  le : i ≤ len
  al : ∀ j (h : j < subs.length), j < i → valT subs[j] = true
end Go.Proofs.Mv.App
