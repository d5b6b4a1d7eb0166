/- A part of the proofs: machine, contracts, laws. No condition of its own. -/
import Derived.Test.YtndinledjelleaaGreatDoorMvRf
import Derived.Test.YtndinledjelleaaGreatDoorMvD
set_option linter.unusedSimpArgs false
set_option linter.unusedVariables false
set_option linter.unusedSectionVars false
namespace Go.Proofs.Mv.V
variable [GI]
structure Blw (B : Nat) (w w' : World) : Prop where
 os : w'.os = w.os
 output : w'.output = w.output
 size : w.heap.size ≤ w'.heap.size
 block : ∀ k, k < B → w'.heap[k]? = w.heap[k]?
theorem Blw.refl (B : Nat) (w : World) : Blw B w w := ⟨rfl, rfl, Nat.le_refl _, fun _ _ => rfl⟩
theorem Blw.trans {B : Nat} {a b c : World} (h : Blw B a b) (k : Blw B b c) : Blw B a c := ⟨k.os.trans h.os, k.output.trans h.output, Nat.le_trans h.size k.size, fun i hi => (k.block i hi).trans (h.block i hi)⟩
theorem Blw.mono {B B' : Nat} {a b : World} (h : Blw B a b) (hl : B' ≤ B) : Blw B' a b := ⟨h.os, h.output, h.size, fun i hi => h.block i (by omega)⟩
theorem Blw.of {B : Nat} {a b : World} (h : RowKit.Below B a b) : Blw B a b := ⟨h.os, h.output, h.size, h.block⟩
theorem Blw.cell {B : Nat} {a b : World} (h : Blw B a b) {k o : Nat} {v : Value} (hk : k < B) (hv : a.cell? ⟨k, o, none⟩ = some v) : b.cell? ⟨k, o, none⟩ = some v := by
 rw [cell?_of_heap (h.block k hk)]; exact hv
theorem Blw.alloc {B : Nat} {w w' : World} (h : Blw B w w') (hB : B ≤ w'.heap.size) (o : Go.Obj) : Blw B w (w'.alloc o) := h.trans (Blw.of ((RowKit.Below.refl B w').alloc hB o))
theorem ext_blw {w w' : World} {ν : Nu} {F : Nat → Prop} {m : Mem} {n : Nat} (h : St w ν F m n) (hb : Blw w.heap.size w w') : Ext w ν F w' ν F :=
 ⟨hb.size, fun b hF => ⟨hF, hb.block b (h.mem.lt b hF)⟩, fun k l hl => ⟨l, hl, Nat.le_refl _, rfl, fun _ => rfl⟩, fun k l l' hl hl' hg arr e f ha => by
  rw [hl] at hl'; obtain rfl := Option.some.inj hl'
  exact ⟨arr, e, f, by rw [hb.block _ (Array.getElem?_eq_some_iff.1 ha).1]; exact ha, rfl⟩, ⟨hb.os, hb.output⟩⟩
theorem st_blw {w w' : World} {ν : Nu} {F : Nat → Prop} {m : Mem} {n : Nat} (h : St w ν F m n) (hb : Blw w.heap.size w w') : St w' ν F m n := by
 have hext := ext_blw h hb
 refine ⟨⟨fun b hF => Nat.lt_of_lt_of_le (h.mem.lt b hF) hb.size, h.mem.inj, fun k o hk => ?_⟩, h.fresh, GI.keep h.gi hext.fz⟩
 obtain ⟨l, arr, e, f, q1, q2, q3, q4, q5, q6, q7⟩ := h.mem.at_ k o hk
 have hsame := hb.block _ (Array.getElem?_eq_some_iff.1 q4).1
 exact ⟨l, arr, e, f, q1, q2, q3, by rw [hsame]; exact q4, q5, q6, ConEs.mono hext _ _ _ _ hsame q7⟩
theorem acalls_blw {P : Program} {f : FuncId} {args : List D} {m : Mem} {n : Nat} {R : D → Mem → Nat → Prop} (hc : Callable P f)
  (h : ∀ (w : World) (ν : Nu) (F : Nat → Prop) (vals : Array Value), St w ν F m n → ConVs w ν F args vals.toList →
   Calls P f vals w fun e w' => ∃ v, e = .returned v ∧ Blw w.heap.size w w' ∧ ∃ d, Con w' ν F d v ∧ R d m n) : ACalls P f args m n R := by
 refine ⟨hc, fun w ν F vals hst hv => Calls.mono (h w ν F vals hst hv) ?_⟩
 rintro e w' ⟨v, rfl, hb, d, hd, hR⟩
 exact ⟨v, rfl, ν, F, d, m, n, ext_blw hst hb, st_blw hst hb, hd, hR⟩
def flat : D → Bool
 | .v _ => true
 | .iface _ d => flat d
 | .agg l => flats l
 | .tup l => flats l
 | _ => false
where flats : List D → Bool
 | [] => true
 | d :: l => flat d && flats l
theorem calls_all {P : Program} {f : FuncId} {args : List D} {d : D} (h : ACalls P f args (fun _ => none) 0 (fun d' m' n' => d' = d ∧ m' = (fun _ => none) ∧ n' = 0)) (ha : belowL 0 args = true)
  {w : World} {ν : Nu} {F : Nat → Prop} {m : Mem} {n : Nat} (hst : St w ν F m n) {vals : Array Value} (hv : ConVs w ν F args vals.toList) :
  Calls P f vals w fun e w' => ∃ v, e = .returned v ∧ Blw w.heap.size w w' ∧ ∃ ν' F', Con w' ν' F' d v := by
 let F0 : Nat → Prop := fun b => b < w.heap.size
 have hx : Ext w ν F w ν F0 := ⟨Nat.le_refl _, fun b hb => ⟨hst.mem.lt b hb, rfl⟩, fun k l hl => ⟨l, hl, Nat.le_refl _, rfl, fun _ => rfl⟩, fun k l l' hl hl' _ arr e f ha => by
  rw [hl] at hl'; obtain rfl := Option.some.inj hl'; exact ⟨arr, e, f, ha, rfl⟩, ⟨rfl, rfl⟩⟩
 have hst0 : St w (fun _ => none) F0 (fun _ => none) 0 := ⟨⟨fun b hb => hb, fun k k' o o' l l' h1 => (by cases h1), fun k o hk => (by cases hk)⟩, fun k _ => ⟨rfl, rfl⟩, GI.keep hst.gi fun b hb => ⟨hst.mem.lt b hb, rfl⟩⟩
 have hv0 : ConVs w (fun _ => none) F0 args vals.toList := conVs_restrict (n := 0) (ν := ν) (ν' := fun _ => none) (fun k hk => absurd hk (Nat.not_lt_zero _)) _ _ ha (ConVs.mono hx _ _ hv)
 refine Calls.mono (h.2 w _ _ vals hst0 hv0) fun e w' he => ?_
 obtain ⟨v, he, ν', F', d', m', n', g1, g2, g3, rfl, _⟩ := he
 exact ⟨v, he, ⟨g1.io.1, g1.io.2, g1.size, fun b hb => (g1.fz b hb).2⟩, ν', F', g3⟩
end Go.Proofs.Mv.V
