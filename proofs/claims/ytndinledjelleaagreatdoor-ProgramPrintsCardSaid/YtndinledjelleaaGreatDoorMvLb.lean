/- A part of the proofs: machine, contracts, laws. No condition of its own. -/
import Derived.Test.YtndinledjelleaaGreatDoorMvD
set_option linter.unusedSimpArgs false
set_option linter.unusedVariables false
set_option linter.unusedSectionVars false
namespace Go.Proofs.Mv.V
variable [GI]
theorem acalls_libF {P : Program} {f : FuncId} {args : List D} {m : Mem} {n : Nat} {R : D → Mem → Nat → Prop} (hc : Callable P f)
  (h : ∀ (w : World) (ν : Nu) (F : Nat → Prop) (vals : Array Value), St w ν F m n → ConVs w ν F args vals.toList →
   Calls P f vals w fun e w' => ∃ v, e = .returned v ∧ RowKit.Below w.heap.size w w' ∧ ∃ F' : Nat → Prop, (∀ b, F b → F' b) ∧ (∀ b, F' b → F b ∨ (w.heap.size ≤ b ∧ b < w'.heap.size)) ∧
    ∃ d, Con w' ν F' d v ∧ R d m n) : ACalls P f args m n R := by
 refine ⟨hc, fun w ν F vals hst hv => Calls.mono (h w ν F vals hst hv) ?_⟩
 rintro e w' ⟨v, rfl, hb, F', hF1, hF2, d, hd, hR⟩
 have e0 := ext_below hst hb
 have e1 : Ext w ν F w' ν F' := ⟨e0.size, fun b hF => ⟨hF1 b hF, (e0.fz b hF).2⟩, e0.nu, e0.blk, e0.io⟩
 have s0 := st_below hst hb
 refine ⟨v, rfl, ν, F', d, m, n, e1, ⟨⟨fun b hb' => ?_, s0.mem.inj, fun k o hk => ?_⟩, s0.fresh, GI.keep hst.gi e1.fz⟩, hd, hR⟩
 ·rcases hF2 b hb' with hF | hF
  ·exact s0.mem.lt b hF
  ·exact hF.2
 ·obtain ⟨l, arr, e, f, q1, q2, q3, q4, q5, q6, q7⟩ := hst.mem.at_ k o hk
  have hlt : l.b < w.heap.size := by
   rcases Nat.lt_or_ge l.b w.heap.size with h' | h'
   ·exact h'
   ·simp [Array.getElem?_eq_none h'] at q4
  refine ⟨l, arr, e, f, q1, q2, q3, by rw [hb.block _ hlt]; exact q4, fun hn => ?_, q6, ConEs.mono e1 _ _ _ _ (hb.block _ hlt) q7⟩
  rcases hF2 _ hn with hF | hF
  ·exact q5 hF
  ·omega
end Go.Proofs.Mv.V
