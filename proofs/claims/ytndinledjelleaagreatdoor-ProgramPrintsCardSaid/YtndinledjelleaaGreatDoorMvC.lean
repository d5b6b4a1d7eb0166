/- A part of the proofs: machine, contracts, laws. No condition of its own. -/
import Derived.Test.YtndinledjelleaaGreatDoorMvB
import Derived.ProofKit
import Derived.SliceStrings
set_option linter.unusedSimpArgs false
set_option linter.unusedVariables false
set_option linter.unusedSectionVars false
namespace Go.Proofs.Mv.V
variable [GI]

def Tg.{u, v, w} {α : Sort u} {β : Sort v} {γ : Sort w} (_ : α) (_ : β) (_ : γ) : Type := Unit
def tg.{u, v, w} {α : Sort u} {β : Sort v} {γ : Sort w} {a : α} {b : β} {c : γ} : Tg a b c := ()

def ldD (ag : Option Bool) (z : Option Nat) (a : D) (m : Mem) (n : Nat) : Option (Prop × D × Mem × Nat) :=
 match ag, z, a with
 | some true, some z, .rptr _ cs => some (z ≤ cs.length, .agg (cs.take z), m, n)
 | some false, some _, .rptr _ cs => some (0 < cs.length, cs.getD 0 .any, m, n)
 | some b, some z, .ptr k g i j => match m k with
  | some o => if b then some (o.g = g ∧ i < o.es.length ∧ j + z ≤ (o.es.getD i []).length, .agg (((o.es.getD i []).drop j).take z), m, n)
   else some (o.g = g ∧ i < o.es.length ∧ j < (o.es.getD i []).length, (o.es.getD i []).getD j .any, m, n)
  | none => none
 | _, _, _ => none

def stD (z : Option Nat) (a x : D) (m : Mem) (n : Nat) : Option (Prop × D × Mem × Nat) :=
 match z, a with
 | some z, .ptr k g i j => match m k with
  | some o => some (o.g = g ∧ i < o.es.length ∧ j + z ≤ (o.es.getD i []).length ∧ okD x = true ∧ (cellsOf x).length = z, undefD,
    m.set k ⟨o.z, o.es.set i ((o.es.getD i []).take j ++ cellsOf x ++ (o.es.getD i []).drop (j + z)), o.g⟩, n)
  | none => none
 | _, _ => none

def apD (zb : Option (Nat × Nat)) (ok : Prop) (s : D) (x : Option (Prop × List (List D))) (m : Mem) (n : Nat) : Option (Prop × D × Mem × Nat) :=
 match zb, x, s with
 | some (z, b), some (O, xs), .own k g o len z' => match m k with
  | some ob => some (ok ∧ O ∧ z' = z ∧ o = 0 ∧ ob.g = g ∧ len ≤ ob.es.length ∧ 1 ≤ b ∧ (len + xs.length) * b ≤ 140737488355328,
    .own k (g + 1) 0 (len + xs.length) z, m.set k ⟨z, ob.es.take len ++ xs, g + 1⟩, n)
  | none => none
 | some (z, b), some (O, []), .v (.slice none 0 0) => some (ok ∧ O ∧ 1 ≤ b, .v (.slice none 0 0), m, n)
 | some (z, b), some (O, y :: xs), .v (.slice none 0 0) => some (ok ∧ O ∧ 1 ≤ b ∧ (xs.length + 1) * b ≤ 140737488355328, .own n 0 0 (xs.length + 1) z, m.set n ⟨z, y :: xs, 0⟩, n + 1)
 | some (z, b), some (O, []), .mt => some (ok ∧ O ∧ 1 ≤ b, .mt, m, n)
 | some (z, b), some (O, y :: xs), .mt => some (ok ∧ O ∧ 1 ≤ b ∧ (xs.length + 1) * b ≤ 140737488355328, .own n 0 0 (xs.length + 1) z, m.set n ⟨z, y :: xs, 0⟩, n + 1)
 | _, _, _ => none

section
variable {z b : Nat} {ok O : Prop} {xs : List (List D)} {y : List D} {m : Mem} {n : Nat}
theorem elemsOf_sl (z' : Nat) (es : List (List D)) : elemsOf m z (.sl z' es) = if z' = z then some (True, es) else none := (rfl)
theorem elemsOf_own (k g o n z' : Nat) : elemsOf m z (.own k g o n z') = (match m k with
  | some ob => if z' = z then some (ob.g = g ∧ o + n ≤ ob.es.length, (ob.es.drop o).take n) else none
  | none => none) := (rfl)
theorem elemsOf_nil : elemsOf m z (.v (.slice none 0 0)) = some (True, []) := (rfl)
theorem elemsOf_mt : elemsOf m z .mt = some (True, []) := (rfl)
theorem elemsOf_str (s : ByteArray) : elemsOf m z (.v (.string s)) = if z = 1 then some (True, s.data.toList.map bEnc) else none := (rfl)
theorem apD_own (k g o len z' : Nat) : apD (some (z, b)) ok (.own k g o len z') (some (O, xs)) m n = (match m k with
  | some ob => some (ok ∧ O ∧ z' = z ∧ o = 0 ∧ ob.g = g ∧ len ≤ ob.es.length ∧ 1 ≤ b ∧ (len + xs.length) * b ≤ 140737488355328,
    D.own k (g + 1) 0 (len + xs.length) z, m.set k ⟨z, ob.es.take len ++ xs, g + 1⟩, n)
  | none => none) := by cases xs <;> rfl
theorem apD_nil_nil : apD (some (z, b)) ok (.v (.slice none 0 0)) (some (O, [])) m n = some (ok ∧ O ∧ 1 ≤ b, .v (.slice none 0 0), m, n) := (rfl)
theorem apD_nil_cons : apD (some (z, b)) ok (.v (.slice none 0 0)) (some (O, y :: xs)) m n = some (ok ∧ O ∧ 1 ≤ b ∧ (xs.length + 1) * b ≤ 140737488355328, .own n 0 0 (xs.length + 1) z, m.set n ⟨z, y :: xs, 0⟩, n + 1) := (rfl)
theorem apD_mt_nil : apD (some (z, b)) ok .mt (some (O, [])) m n = some (ok ∧ O ∧ 1 ≤ b, .mt, m, n) := (rfl)
theorem apD_mt_cons : apD (some (z, b)) ok .mt (some (O, y :: xs)) m n = some (ok ∧ O ∧ 1 ≤ b ∧ (xs.length + 1) * b ≤ 140737488355328, .own n 0 0 (xs.length + 1) z, m.set n ⟨z, y :: xs, 0⟩, n + 1) := (rfl)
end

def azD (zb : Option (Nat × Nat)) (zs : Option (List Value)) (s x : D) (m : Mem) (n : Nat) : Option (Prop × D × Mem × Nat) :=
 match zb, zs, s, x with
 | some (z, b), some zs, .v (.slice none 0 0), .v (.int .i64 l) => some (0 < l ∧ 1 ≤ b ∧ l * b ≤ 70368744177664, .own n 0 0 l.toNat z, m.set n ⟨z, List.replicate l.toNat (zs.map .v), 0⟩, n + 1)
 | _, _, _, _ => none

def clD (zb : Option (Nat × Nat)) (zs : Option (List Value)) (x : D) (m : Mem) (n : Nat) : Option (Prop × D × Mem × Nat) :=
 match zb, zs, x with
 | some (z, _), some zs, .own k g o len z' => match m k with
  | some ob => some (z' = z ∧ ob.g = g ∧ o + len ≤ ob.es.length, undefD, m.set k ⟨ob.z, ob.es.take o ++ List.replicate len (zs.map .v) ++ ob.es.drop (o + len), ob.g⟩, n)
  | none => none
 | _, _, _ => none

def cvD (P : Program) (src dst : TypeId) (x : D) (m : Mem) (n : Nat) : Option (Prop × D × Mem × Nat) :=
 match x with
 | .v (.int _ v) => match tint P dst with
  | some k => some ((tcode P src ≠ 0 : Prop), .v (.int k (k.wrap v)), m, n)
  | none => none
 | .v (.string s) => if tcode P dst = 3 then some (tcode P src = 3, .v (.string s), m, n) else
   some (tcode P src = 3 ∧ tbyte P dst = true, .own n 0 0 s.size 1, m.set n ⟨1, s.data.toList.map bEnc, 0⟩, n + 1)
 | .sl z es => some (tbyte P src = true ∧ tcode P dst = 3 ∧ es = (unB es).map bEnc ∧ z = 1, .v (.string (ofL (unB es))), m, n)
 | .v (.slice none _ _) => some (tbyte P src = true ∧ tcode P dst = 3, .v (.string (ofL [])), m, n)
 | .mt => some (tbyte P src = true ∧ tcode P dst = 3, .v (.string (ofL [])), m, n)
 | .own k g o len z => match m k with
  | some ob => if tcode P dst = 3 then some (tbyte P src = true ∧ ob.g = g ∧ z = 1 ∧ o + len ≤ ob.es.length ∧ (ob.es.drop o).take len = (unB ((ob.es.drop o).take len)).map bEnc,
    .v (.string (ofL (unB ((ob.es.drop o).take len)))), m, n)
    else some (src = dst ∧ tbyte P src = true ∧ ob.g = g, .own k g o len z, m, n)
  | none => none
 | _ => none

def mkD (zb : Option (Nat × Nat)) (zs : Option (List Value)) (l c : D) (m : Mem) (n : Nat) : Option (Prop × D × Mem × Nat) :=
 match zb, zs, l, c with
 | some (z, b), some zs, .v (.int _ l), .v (.int _ c) => some (0 ≤ l ∧ l ≤ c ∧ c ≤ 70368744177664 ∧ b * c ≤ 70368744177664,
   .own n 0 0 l.toNat z, m.set n ⟨z, List.replicate l.toNat (zs.map .v), 0⟩, n + 1)
 | _, _, _, _ => none

def bsD (zb : Option (Nat × Nat)) (zs : Option (List Value)) (len : Nat) (ps : List (Nat × D)) (m : Mem) (n : Nat) : Option (Prop × D × Mem × Nat) :=
 match zb, zs with
 | some (z, _), some zs => match fillE z (List.replicate len (zs.map .v)) ps with
  | some es => some (len * z ≤ 16777216, .own n 0 0 len z, m.set n ⟨z, es, 0⟩, n + 1)
  | none => none
 | _, _ => none

def pm (m : Mem) (n : Nat) (x : Option (Prop × D)) : Option (Prop × D × Mem × Nat) :=
 match x with
 | some (O, d) => some (O, d, m, n)
 | none => none

def stepD (P : Program) (σ : Nat → D) (m : Mem) (n : Nat) (op : Op) : Option (Prop × D × Mem × Nat) :=
 match op with
 | .load t a => ldD (tagg P t) (tsz P t) (ev σ a) m n
 | .store t a x => stD (tsz P t) (ev σ a) (ev σ x) m n
 | .alloc t => match tzero P t with
  | some zs => some (True, .ptr n 0 0 0, m.set n ⟨zs.length, [zs.map .v], 0⟩, n + 1)
  | none => none
 | .box _ x => some (okD (ev σ x) = true, .ptr n 0 0 0, m.set n ⟨(cellsOf (ev σ x)).length, [cellsOf (ev σ x)], 0⟩, n + 1)
 | .buildSlice t len ps => bsD (telem P t) (tezero P t) len (ps.toList.map fun p => (p.1, ev σ p.2)) m n
 | .makeSlice t l c => mkD (telem P t) (tezero P t) (ev σ l) (ev σ c) m n
 | .convert src dst x => cvD P src dst (ev σ x) m n
 | .call c => match c.callee, c.args.toList, c.argTypes.toList with
  | .builtin .append, [s, x], [t, t'] => match tint P t' with
   | some _ => azD (telem P t) (tezero P t) (ev σ s) (ev σ x) m n
   | none => apD (telem P t) (tcode P t' ≠ 0) (ev σ s) (elemsOf m ((telem P t).map (·.1) |>.getD 0) (ev σ x)) m n
  | .builtin .clear, [x], [t] => clD (telem P t) (tezero P t) (ev σ x) m n
  | _, _, _ => pm m n (pop P σ op)
 | op => pm m n (pop P σ op)

section
variable {P : Program} {N : Nat} {σ : Nat → D} {m : Mem} {n : Nat}

theorem stepD_aop {op : Op} {O : Prop} {d : D} {m' : Mem} {n' : Nat} {K : D → Mem → Nat → Prop} (h : stepD P σ m n op = some (O, d, m', n')) (hO : O) (hK : K d m' n') : aop P σ m n op K := by
 have hpm : ∀ {x : Option (Prop × D)}, pm m n x = some (O, d, m', n') → x = some (O, d) ∧ m' = m ∧ n' = n := by
  intro x hx
  unfold pm at hx
  split at hx
  ·simp only [Option.some.injEq, Prod.mk.injEq] at hx
   obtain ⟨rfl, rfl, rfl, rfl⟩ := hx; exact ⟨rfl, rfl, rfl⟩
  ·cases hx
 have hgen : pm m n (pop P σ op) = some (O, d, m', n') → aop P σ m n op K := by
  intro hx
  obtain ⟨h1, rfl, rfl⟩ := hpm hx
  unfold aop; rw [h1]; exact ⟨hO, hK⟩
 cases op with
 | load t a =>
  simp only [stepD, ldD] at h
  unfold aop
  split at h
  ·rename_i z tg cs ha hz e
   simp only [Option.some.injEq, Prod.mk.injEq] at h; obtain ⟨rfl, rfl, rfl, rfl⟩ := h
   simp only [pop, ha, hz, e]; exact ⟨hO, hK⟩
  ·rename_i z tg cs ha hz e
   simp only [Option.some.injEq, Prod.mk.injEq] at h; obtain ⟨rfl, rfl, rfl, rfl⟩ := h
   simp only [pop, ha, hz, e]; exact ⟨hO, hK⟩
  ·rename_i b z k g i j ha hz e
   have hp : pop P σ (.load t a) = none := by simp only [pop, ha, hz, e]
   rw [hp]
   split at h
   ·rename_i o hm
    cases b with
    | true =>
     simp only [if_true, Option.some.injEq, Prod.mk.injEq] at h; obtain ⟨rfl, rfl, rfl, rfl⟩ := h
     simp only [rop, ha, hz, e, hm, if_true]; exact ⟨hO, hK⟩
    | false =>
     simp only [Bool.false_eq_true, if_false, Option.some.injEq, Prod.mk.injEq] at h; obtain ⟨rfl, rfl, rfl, rfl⟩ := h
     simp only [rop, ha, hz, e, hm, Bool.false_eq_true, if_false]; exact ⟨hO, hK⟩
   ·cases h
  ·cases h
 | store t a x =>
  simp only [stepD, stD] at h
  unfold aop
  simp only [pop, rop, eop]
  split at h
  ·rename_i z k g i j hz e
   split at h
   ·rename_i o hm
    simp only [Option.some.injEq, Prod.mk.injEq] at h; obtain ⟨rfl, rfl, rfl, rfl⟩ := h
    simp only [hz, e, hm]
    obtain ⟨h1, h2, h3, h4, h5⟩ := hO
    exact ⟨h1, h2, h3, h4, h5, hK⟩
   ·cases h
  ·cases h
 | alloc t =>
  simp only [stepD] at h
  unfold aop
  simp only [pop, rop, eop]
  split at h
  ·rename_i zs hz
   simp only [Option.some.injEq, Prod.mk.injEq] at h; obtain ⟨rfl, rfl, rfl, rfl⟩ := h
   simp only [hz]; exact hK
  ·cases h
 | box t x =>
  simp only [stepD, Option.some.injEq, Prod.mk.injEq] at h; obtain ⟨rfl, rfl, rfl, rfl⟩ := h
  unfold aop
  simp only [pop, rop, eop]
  exact ⟨hO, hK⟩
 | buildSlice t len ps =>
  simp only [stepD, bsD] at h
  unfold aop
  simp only [pop, rop, eop]
  split at h
  ·rename_i z b zs ht hz
   split at h
   ·rename_i es hf
    simp only [Option.some.injEq, Prod.mk.injEq] at h; obtain ⟨rfl, rfl, rfl, rfl⟩ := h
    simp only [ht, hz, hf]; exact ⟨hO, hK⟩
   ·cases h
  ·cases h
 | makeSlice t l c =>
  simp only [stepD, mkD] at h
  unfold aop
  simp only [pop, rop, eop]
  split at h
  ·rename_i z b zs k1 l1 k2 c1 ht hz e1 e2
   simp only [Option.some.injEq, Prod.mk.injEq] at h; obtain ⟨rfl, rfl, rfl, rfl⟩ := h
   simp only [ht, hz, e1, e2]
   obtain ⟨h1, h2, h3, h4⟩ := hO
   exact ⟨h1, h2, h3, h4, hK⟩
  ·cases h
 | convert src dst x =>
  simp only [stepD, cvD] at h
  unfold aop
  split at h
  ·rename_i k v e
   split at h
   ·rename_i k' hk
    simp only [Option.some.injEq, Prod.mk.injEq] at h; obtain ⟨rfl, rfl, rfl, rfl⟩ := h
    simp only [pop, e, hk]; exact ⟨hO, hK⟩
   ·cases h
  ·rename_i s e
   split at h
   ·rename_i h3
    simp only [Option.some.injEq, Prod.mk.injEq] at h; obtain ⟨rfl, rfl, rfl, rfl⟩ := h
    simp only [pop, e, h3, and_true]
    rw [if_pos hO]; exact ⟨trivial, hK⟩
   ·rename_i h3
    simp only [Option.some.injEq, Prod.mk.injEq] at h; obtain ⟨rfl, rfl, rfl, rfl⟩ := h
    simp only [pop, e, h3, and_false, if_false, rop, eop]
    exact ⟨hO.1, hO.2, hK⟩
  ·rename_i z es e
   simp only [Option.some.injEq, Prod.mk.injEq] at h; obtain ⟨rfl, rfl, rfl, rfl⟩ := h
   simp only [pop, e]
   rw [if_pos ⟨hO.1, hO.2.1⟩]; exact ⟨hO.2.2, hK⟩
  ·rename_i e
   simp only [Option.some.injEq, Prod.mk.injEq] at h; obtain ⟨rfl, rfl, rfl, rfl⟩ := h
   simp only [pop, e]
   rw [if_pos hO]; exact ⟨trivial, hK⟩
  ·rename_i e
   simp only [Option.some.injEq, Prod.mk.injEq] at h; obtain ⟨rfl, rfl, rfl, rfl⟩ := h
   simp only [pop, e]
   rw [if_pos hO]; exact ⟨trivial, hK⟩
  ·rename_i k g o len z e
   split at h
   ·rename_i ob hm
    split at h
    ·rename_i h3
     simp only [Option.some.injEq, Prod.mk.injEq] at h; obtain ⟨rfl, rfl, rfl, rfl⟩ := h
     simp only [pop, e, rop, hm]
     rw [if_pos ⟨hO.1, h3⟩]
     exact ⟨hO.2, hK⟩
    ·rename_i h3
     simp only [Option.some.injEq, Prod.mk.injEq] at h; obtain ⟨rfl, rfl, rfl, rfl⟩ := h
     simp only [pop, e, rop, hm]
     rw [if_neg (fun hh => h3 hh.2)]
     simp only [eop, e, hm]
     exact ⟨hO.1, hO.2.1, hO.2.2, hK⟩
   ·cases h
  ·cases h
 | call c =>
  simp only [stepD] at h
  split at h
  ·rename_i s x t t' hcal hargs hty
   unfold aop
   have hp : pop P σ (.call c) = none := by simp only [pop, hcal]
   rw [hp]
   simp only [rop, eop, hcal, hargs, hty]
   split at h
   ·rename_i kk hti
    simp only [hti]
    unfold azD at h
    split at h
    ·rename_i z b zs lv ht hz e1 e2
     simp only [Option.some.injEq, Prod.mk.injEq] at h; obtain ⟨rfl, rfl, rfl, rfl⟩ := h
     simp only [ht, hz, e1, e2]
     exact ⟨hO.1, hO.2.1, hO.2.2, hK⟩
    ·cases h
   rename_i hti
   simp only [hti]
   unfold apD at h
   split at h
   ·rename_i z b O' xs k g o len z' ht hel e
    rw [ht] at hel
    simp only [ht, hel, e]
    split at h
    ·rename_i ob hm
     simp only [Option.some.injEq, Prod.mk.injEq] at h; obtain ⟨rfl, rfl, rfl, rfl⟩ := h
     simp only [hm]
     obtain ⟨h2, h3, h4, h5, h6, h7, h8, h9⟩ := hO
     exact ⟨trivial, h2, h3, h4, h5, h6, h7, h8, h9, hK⟩
    ·cases h
   ·rename_i z b O' ht hel e
    rw [ht] at hel
    simp only [ht, hel, e]
    simp only [Option.some.injEq, Prod.mk.injEq] at h; obtain ⟨rfl, rfl, rfl, rfl⟩ := h
    obtain ⟨h2, h3, h4⟩ := hO
    exact ⟨trivial, h2, h3, h4, by simp, fun _ => hK, fun hne => absurd rfl hne⟩
   ·rename_i z b O' y xs ht hel e
    rw [ht] at hel
    simp only [ht, hel, e]
    simp only [Option.some.injEq, Prod.mk.injEq] at h; obtain ⟨rfl, rfl, rfl, rfl⟩ := h
    obtain ⟨h2, h3, h4, h5⟩ := hO
    exact ⟨trivial, h2, h3, h4, by simpa using h5, fun hne => by simp at hne, fun _ => by simpa using hK⟩
   ·rename_i z b O' ht hel e
    rw [ht] at hel
    simp only [ht, hel, e]
    simp only [Option.some.injEq, Prod.mk.injEq] at h; obtain ⟨rfl, rfl, rfl, rfl⟩ := h
    obtain ⟨h2, h3, h4⟩ := hO
    exact ⟨trivial, h2, h3, h4, by simp, fun _ => hK, fun hne => absurd rfl hne⟩
   ·rename_i z b O' y xs ht hel e
    rw [ht] at hel
    simp only [ht, hel, e]
    simp only [Option.some.injEq, Prod.mk.injEq] at h; obtain ⟨rfl, rfl, rfl, rfl⟩ := h
    obtain ⟨h2, h3, h4, h5⟩ := hO
    exact ⟨trivial, h2, h3, h4, by simpa using h5, fun hne => by simp at hne, fun _ => by simpa using hK⟩
   ·cases h
  ·rename_i x t hcal hargs hty
   unfold aop
   have hp : pop P σ (.call c) = none := by simp only [pop, hcal]
   rw [hp]
   simp only [rop, eop, hcal, hargs, hty]
   unfold clD at h
   split at h
   ·rename_i z b zs k g o len z' ht hz e
    simp only [ht, hz, e]
    split at h
    ·rename_i ob hm
     simp only [Option.some.injEq, Prod.mk.injEq] at h; obtain ⟨rfl, rfl, rfl, rfl⟩ := h
     simp only [hm]
     exact ⟨hO.1, hO.2.1, hO.2.2, hK⟩
    ·cases h
   ·cases h
  ·exact hgen h
 | _ => exact hgen h

/-! The combinators. K is never looked into. -/
def b4 (x : Option (Prop × D × Mem × Nat)) (K : D → Mem → Nat → Prop) (_ : Tg K () ()) : Prop :=
 match x with
 | some (O, d, m, n) => O ∧ K d m n
 | none => False
theorem b4_some (O : Prop) (d : D) (m : Mem) (n : Nat) (K : D → Mem → Nat → Prop) (u : Tg K () ()) : b4 (some (O, d, m, n)) K u = (O ∧ K d m n) := (rfl)

def aCall (P : Program) (f : FuncId) (args : List D) (m : Mem) (n : Nat) (K : D → Mem → Nat → Prop) (_ : Tg K () ()) : Prop := ACalls P f args m n K
theorem aCall_of {f : FuncId} {args : List D} {R K : D → Mem → Nat → Prop} {u : Tg K () ()} (h : ACalls P f args m n R) (hk : ∀ d m n, R d m n → K d m n) : aCall P f args m n K u := h.mono hk
def callD (P : Program) (f : D) (args : List D) (m : Mem) (n : Nat) (K : D → Mem → Nat → Prop) (_ : Tg K () ()) : Prop :=
 match f with
 | .func (.func id) fs cs => ACalls P id (fs ++ args ++ cs) m n K
 | _ => False
theorem callD_func (id : FuncId) (fs cs args : List D) (K : D → Mem → Nat → Prop) (u : Tg K () ()) : callD P (.func (.func id) fs cs) args m n K u = aCall P id (fs ++ args ++ cs) m n K tg := (rfl)

def xop (P : Program) (σ : Nat → D) (m : Mem) (n : Nat) (op : Op) (K : D → Mem → Nat → Prop) (_ : Tg K () ()) : Prop :=
 match op with
 | .call { callee := .value f, args, .. } => callD P (ev σ f) (args.toList.map (ev σ)) m n K tg
 | op => b4 (stepD P σ m n op) K tg

theorem xop_aop {op : Op} {K : D → Mem → Nat → Prop} {u : Tg K () ()} (h : xop P σ m n op K u) : aop P σ m n op K := by
 have gen : b4 (stepD P σ m n op) K tg → aop P σ m n op K := by
  intro h
  unfold b4 at h
  split at h
  ·rename_i O d m' n' hs; exact stepD_aop hs h.1 h.2
  ·exact h.elim
 unfold xop at h
 split at h
 ·rename_i f args tys
  unfold aop
  simp only [pop, rop, eop]
  unfold callD at h
  split at h
  ·rename_i id fs cs e
   simp only [e]; exact h
  ·exact h.elim
 ·exact gen h

def gif (g : Option Bool) (A B : Prop) (_ : Tg A B ()) : Prop :=
 match g with
 | some true => A
 | some false => B
 | none => False
theorem gif_true (A B : Prop) (u : Tg A B ()) : gif (some true) A B u = A := (rfl)
theorem gif_false (A B : Prop) (u : Tg A B ()) : gif (some false) A B u = B := (rfl)

def xOps (P : Program) (N : Nat) (ops : Array Oper) (K : (Nat → D) → Mem → Nat → Prop) : (l : List Oper) → Tg ops K l → (Nat → D) → Mem → Nat → Prop
 | [], _, σ, m, n => K σ m n
 | o :: rest, _, σ, m, n => dstOk N o ∧ gif (guarded ops o σ) (xop P σ m n o.op (fun d m n => xOps P N ops K rest tg (put σ o.dst d) m n) tg) (xOps P N ops K rest tg (put σ o.dst undefD) m n) tg

theorem xOps_vc {ops : Array Oper} {K : (Nat → D) → Mem → Nat → Prop} : ∀ (l : List Oper) (u : Tg ops K l) (σ : Nat → D) (m : Mem) (n : Nat), xOps P N ops K l u σ m n → vcOps P N ops K l σ m n := by
 intro l
 induction l with
 | nil => intro u σ m n h; exact h
 | cons o rest ih =>
  intro u σ m n h
  simp only [xOps, vcOps, ostep] at h ⊢
  refine ⟨h.1, ?_⟩
  have h2 := h.2
  unfold gif at h2
  split at h2
  ·rename_i hg
   rw [hg]
   have := xop_aop h2
   unfold aop at this ⊢
   split at this
   ·exact ⟨this.1, ih _ _ _ _ this.2⟩
   ·split at this
    ·exact ⟨this.1, ih _ _ _ _ this.2⟩
    ·exact eop_mono (fun d m n hh => ih _ _ _ _ hh) this
  ·rename_i hg; rw [hg]; exact ih _ _ _ _ h2
  ·exact h2.elim

theorem xOps_nil (ops : Array Oper) (K : (Nat → D) → Mem → Nat → Prop) (u : Tg ops K []) : xOps P N ops K [] u σ m n = K σ m n := (rfl)
theorem xOps_plain (ops : Array Oper) (K : (Nat → D) → Mem → Nat → Prop) (t : Tmp) (op : Op) (ty : TypeId) (pos : String) (after : Array Edge) (rest : List Oper) (u : Tg ops K (⟨some t, op, ty, pos, after, none⟩ :: rest)) :
  xOps P N ops K (⟨some t, op, ty, pos, after, none⟩ :: rest) u σ m n = (t < N ∧ xop P σ m n op (fun d m n => xOps P N ops K rest tg (upd σ t d) m n) tg) := (rfl)
theorem xOps_none (ops : Array Oper) (K : (Nat → D) → Mem → Nat → Prop) (op : Op) (ty : TypeId) (pos : String) (after : Array Edge) (rest : List Oper) (u : Tg ops K (⟨none, op, ty, pos, after, none⟩ :: rest)) :
  xOps P N ops K (⟨none, op, ty, pos, after, none⟩ :: rest) u σ m n = xop P σ m n op (fun d m n => xOps P N ops K rest tg σ m n) tg := by
 simp [xOps, dstOk, guarded, gif, put]
theorem xOps_guard (ops : Array Oper) (K : (Nat → D) → Mem → Nat → Prop) (t : Tmp) (op : Op) (ty : TypeId) (pos : String) (after : Array Edge) (j : Nat) (want : Bool) (rest : List Oper) (u : Tg ops K (⟨some t, op, ty, pos, after, some (j, want)⟩ :: rest)) :
  xOps P N ops K (⟨some t, op, ty, pos, after, some (j, want)⟩ :: rest) u σ m n = (t < N ∧ gif (guarded ops ⟨some t, op, ty, pos, after, some (j, want)⟩ σ)
   (xop P σ m n op (fun d m n => xOps P N ops K rest tg (upd σ t d) m n) tg) (xOps P N ops K rest tg (upd σ t undefD) m n) tg) := (rfl)

def gslot (ops : Array Oper) (j : Nat) : Option Tmp := (ops[j]?).bind (·.dst)
def gval2 (want : Bool) (d : D) : Option Bool := (gval d).map fun b => b == some want
theorem guarded_some (ops : Array Oper) (d : Option Tmp) (op : Op) (ty : TypeId) (pos : String) (after : Array Edge) (j : Nat) (want : Bool) :
  guarded ops ⟨d, op, ty, pos, after, some (j, want)⟩ σ = (gslot ops j).bind fun t => gval2 want (σ t) := by
 simp only [guarded, gslot, gval2]
 cases (ops[j]?).bind (·.dst) <;> rfl
theorem gval2_bool (want b : Bool) : gval2 want (.v (.bool b)) = some (b == want) := by
 simp only [gval2, gval, Option.map_some]
 cases b <;> cases want <;> rfl
theorem gval2_undef (want : Bool) : gval2 want undefD = some false := by cases want <;> rfl

/-! Regions that draw their order. -/
def bD (x : Option (Prop × D × Option Nat)) (K1 : D → Prop) (K2 : D → Nat → Prop) (_ : Tg K1 K2 ()) : Prop :=
 match x with
 | some (O, d, none) => O ∧ K1 d
 | some (O, d, some k) => O ∧ K2 d k
 | none => False
theorem bD_none (O : Prop) (d : D) (K1 : D → Prop) (K2 : D → Nat → Prop) (u : Tg K1 K2 ()) : bD (some (O, d, none)) K1 K2 u = (O ∧ K1 d) := (rfl)
theorem bD_some (O : Prop) (d : D) (k : Nat) (K1 : D → Prop) (K2 : D → Nat → Prop) (u : Tg K1 K2 ()) : bD (some (O, d, some k)) K1 K2 u = (O ∧ K2 d k) := (rfl)
def bOp (o : Option Oper) (K : Oper → Prop) (_ : Tg K () ()) : Prop :=
 match o with
 | some o => K o
 | none => False
theorem bOp_some (o : Oper) (K : Oper → Prop) (u : Tg K () ()) : bOp (some o) K u = K o := (rfl)
def bIf (c : Nat) (A B : Prop) (_ : Tg A B ()) : Prop := if c ≤ 1 then A else B
theorem bIf_0 (A B : Prop) (u : Tg A B ()) : bIf 0 A B u = A := (rfl)
theorem bIf_1 (A B : Prop) (u : Tg A B ()) : bIf 1 A B u = A := (rfl)
theorem bIf_2 (A B : Prop) (u : Tg A B ()) : bIf 2 A B u = B := (rfl)
def xs (P : Program) (N : Nat) (ops : Array Oper) (mk : List Nat) (K : (Nat → D) → Mem → Nat → Prop) : (L : List Nat) → Tg ops mk K → List (Nat × Nat) → (Nat → D) → Mem → Nat → Prop
 | [], _, _, σ, m, n => K σ m n
 | i :: L, _, E, σ, m, n => bOp (ops[i]?) (fun o => dstOk N o ∧ gif (guarded ops o σ)
     (bIf (cls o.op) (bD (det P σ m o.op) (fun d => xs P N ops mk K L tg E (put σ o.dst d) m n) (fun d k => xs P N ops mk K L tg ((i, k) :: E) (put σ o.dst d) m n) tg)
      (xop P σ m n o.op (fun d m' n' => (∀ p ∈ E, (mk.getD i 0).testBit p.1 = false → m' p.2 = m p.2) ∧ xs P N ops mk K L tg E (put σ o.dst d) m' n') tg) tg)
     (xs P N ops mk K L tg E (put σ o.dst undefD) m n) tg) tg
theorem xs_nil (ops : Array Oper) (mk : List Nat) (K : (Nat → D) → Mem → Nat → Prop) (u : Tg ops mk K) (E : List (Nat × Nat)) : xs P N ops mk K [] u E σ m n = K σ m n := (rfl)
theorem xs_cons (ops : Array Oper) (mk : List Nat) (K : (Nat → D) → Mem → Nat → Prop) (i : Nat) (L : List Nat) (u : Tg ops mk K) (E : List (Nat × Nat)) :
  xs P N ops mk K (i :: L) u E σ m n = bOp (ops[i]?) (fun o => dstOk N o ∧ gif (guarded ops o σ)
   (bIf (cls o.op) (bD (det P σ m o.op) (fun d => xs P N ops mk K L tg E (put σ o.dst d) m n) (fun d k => xs P N ops mk K L tg ((i, k) :: E) (put σ o.dst d) m n) tg)
    (xop P σ m n o.op (fun d m' n' => (∀ p ∈ E, (mk.getD i 0).testBit p.1 = false → m' p.2 = m p.2) ∧ xs P N ops mk K L tg E (put σ o.dst d) m' n') tg) tg)
   (xs P N ops mk K L tg E (put σ o.dst undefD) m n) tg) tg := (rfl)

theorem cls_eop {op : Op} {K : D → Mem → Nat → Prop} {u : Tg K () ()} (hc : ¬ cls op ≤ 1) (h : xop P σ m n op K u) : eop P σ m n op K := by
 have := xop_aop h
 unfold aop at this
 have hp : pop P σ op = none := by
  cases op with
  | call c =>
   simp only [pop]
   split
   ·rename_i hcal _ _; simp [cls, hcal] at hc
   ·rename_i hcal _ _; simp [cls, hcal] at hc
   ·rfl
  | _ => first | rfl | exact absurd (Nat.zero_le 1) hc | exact absurd (Nat.le_refl 1) hc
 have hr : rop P σ m op = none := by
  cases op with
  | _ => first | rfl | exact absurd (Nat.zero_le 1) hc | exact absurd (Nat.le_refl 1) hc
 rw [hp, hr] at this
 exact this

end

/-! Contracts. -/
def Le (d d' : D) : Prop := ∀ w ν F y, Con w ν F d y → Con w ν F d' y
theorem Le.refl (d : D) : Le d d := fun _ _ _ _ h => h
theorem Le_nil (z : Nat) : Le (.v (.slice none 0 0)) (.sl z []) := by
 intro w ν F y h; simp only [Con] at h ⊢; subst h; exact .inr ⟨by simp, none, rfl⟩
theorem Le_mt (z : Nat) : Le .mt (.sl z []) := by
 intro w ν F y h; simp only [Con] at h ⊢; exact .inr ⟨by simp, h⟩
inductive LeL : List D → List D → Prop where
 | nil : LeL [] []
 | cons {d d' : D} {l l' : List D} (h : Le d d') (hl : LeL l l') : LeL (d :: l) (d' :: l')
theorem LeL.refl : ∀ l, LeL l l
 | [] => .nil
 | d :: l => .cons (Le.refl d) (LeL.refl l)
theorem LeL.vs {l l' : List D} (h : LeL l l') : ∀ w ν F ys, ConVs w ν F l ys → ConVs w ν F l' ys := by
 induction h with
 | nil => intro w ν F ys h; exact h
 | cons h _ ih => intro w ν F ys hh; simp only [ConVs] at hh ⊢; obtain ⟨y, r, h1, h2, h3⟩ := hh; exact ⟨y, r, h1, h _ _ _ _ h2, ih _ _ _ _ h3⟩
theorem Le_tup {l l' : List D} (h : LeL l l') : Le (.tup l) (.tup l') := by
 intro w ν F y hh; simp only [Con] at hh ⊢; obtain ⟨ys, h1, h2⟩ := hh; exact ⟨ys, h1, h.vs _ _ _ _ h2⟩
theorem Le_agg {l l' : List D} (h : LeL l l') : Le (.agg l) (.agg l') := by
 intro w ν F y hh; simp only [Con] at hh ⊢; obtain ⟨ys, h1, h2, h3⟩ := hh; exact ⟨ys, h1, h.vs _ _ _ _ h2, h3⟩

section
variable {P : Program} {m : Mem} {n : Nat}
theorem acalls_pure {f : FuncId} {args : List D} {X : D → Prop} {R' : D → Mem → Nat → Prop} (h : ACalls P f args m n R')
  (hR : ∀ d m' n', R' d m' n' → ∀ β, ∃ fu d', Le (rs β (From n m') fu d) d' ∧ below n (rs β (From n m') fu d) = true ∧ (∀ k, k < n → m' k = m k) ∧ X d') :
  ACalls P f args m n (fun d m' n' => X d ∧ m' = m ∧ n' = n) := by
 have h1 : ACalls P f args m n (fun d m' n' => m' = (fun k => if k < n then m k else none) ∧ n' = n ∧ ∃ d', Le d d' ∧ X d') := by
  refine acalls_close h fun d m' n' hr β => ?_
  obtain ⟨fu, d', h1, h2, h3, h4⟩ := hR d m' n' hr β
  exact ⟨fu, _, (fun k => if k < n then m k else none), rfl, h2, fun k hk => by simp [Nat.not_lt.2 hk], fun k hk => .inl ⟨by simp [hk, h3 k hk], h3 k hk⟩, rfl, rfl, d', h1, h4⟩
 refine ⟨h.1, fun w ν F vals hst hv => Calls.mono (h1.2 w ν F vals hst hv) fun e w' he => ?_⟩
 obtain ⟨v, he, ν', F', d, m', n', g1, g2, g3, rfl, rfl, d', g4, g5⟩ := he
 have hm : (fun k => if k < n' then m k else none) = m := by
  funext k
  by_cases hk : k < n'
  ·simp [hk]
  ·simp [hk, (hst.fresh k (by omega)).2]
 exact ⟨v, he, ν', F', d', m, n', g1, by rw [← hm]; exact g2, g4 _ _ _ _ g3, g5, rfl, rfl⟩
end

theorem wrap_i64 {x : Int} (h : -9223372036854775808 ≤ x) (h' : x ≤ 9223372036854775807) : IntKind.i64.wrap x = x := by
 simp [IntKind.wrap, IntKind.signed, IntKind.bits, IntKind.max, IntKind.min]; omega
def lenD (c : Nat) (d : D) : Option (Prop × D) :=
 match c, d with
 | 3, .v (.string s) => some (True, .v (.int .i64 s.size))
 | 5, .sl _ es => some (True, .v (.int .i64 es.length))
 | 5, .own _ _ _ n _ => some (True, .v (.int .i64 n))
 | 5, .v (.slice none 0 0) => some (True, .v (.int .i64 0))
 | 5, .mt => some (True, .v (.int .i64 0))
 | _, _ => none
def capD (c : Nat) (d : D) : Option (Prop × D) :=
 match c, d with
 | 5, .v (.slice none 0 0) => some (True, .v (.int .i64 0))
 | 5, .mt => some (True, .v (.int .i64 0))
 | _, _ => none
@[simp] theorem lenD_str (s : ByteArray) : lenD 3 (.v (.string s)) = some (True, .v (.int .i64 s.size)) := rfl
@[simp] theorem lenD_sl (z : Nat) (es : List (List D)) : lenD 5 (.sl z es) = some (True, .v (.int .i64 es.length)) := rfl
@[simp] theorem lenD_own (k g o n z : Nat) : lenD 5 (.own k g o n z) = some (True, .v (.int .i64 n)) := rfl
@[simp] theorem lenD_nil : lenD 5 (.v (.slice none 0 0)) = some (True, .v (.int .i64 0)) := rfl
@[simp] theorem lenD_mt : lenD 5 .mt = some (True, .v (.int .i64 0)) := rfl
@[simp] theorem capD_nil : capD 5 (.v (.slice none 0 0)) = some (True, .v (.int .i64 0)) := rfl
@[simp] theorem capD_mt : capD 5 .mt = some (True, .v (.int .i64 0)) := rfl
section
theorem okD_v (x : Value) : okD (.v x) = oneC x := (rfl)
theorem cellsOf_v (x : Value) : cellsOf (.v x) = [.v x] := (rfl)
theorem okD_any  : okD (.any) = false := (rfl)
theorem cellsOf_any  : cellsOf (.any) = [.any] := (rfl)
theorem okD_ptr (k g i j : Nat) : okD (.ptr k g i j) = true := (rfl)
theorem cellsOf_ptr (k g i j : Nat) : cellsOf (.ptr k g i j) = [.ptr k g i j] := (rfl)
theorem okD_rptr (t : Option (Nat × Nat)) (cs : List D) : okD (.rptr t cs) = true := (rfl)
theorem cellsOf_rptr (t : Option (Nat × Nat)) (cs : List D) : cellsOf (.rptr t cs) = [.rptr t cs] := (rfl)
theorem okD_sl (z : Nat) (es : List (List D)) : okD (.sl z es) = true := (rfl)
theorem cellsOf_sl (z : Nat) (es : List (List D)) : cellsOf (.sl z es) = [.sl z es] := (rfl)
theorem okD_own (k g o n z : Nat) : okD (.own k g o n z) = true := (rfl)
theorem cellsOf_own (k g o n z : Nat) : cellsOf (.own k g o n z) = [.own k g o n z] := (rfl)
theorem okD_mt  : okD (.mt) = true := (rfl)
theorem cellsOf_mt  : cellsOf (.mt) = [.mt] := (rfl)
theorem okD_bb  : okD (.bb) = true := (rfl)
theorem cellsOf_bb  : cellsOf (.bb) = [.bb] := (rfl)
theorem okD_iface (t : TypeId) (d : D) : okD (.iface t d) = true := (rfl)
theorem cellsOf_iface (t : TypeId) (d : D) : cellsOf (.iface t d) = [.iface t d] := (rfl)
theorem okD_func (fn : Fn) (fs cs : List D) : okD (.func fn fs cs) = true := (rfl)
theorem cellsOf_func (fn : Fn) (fs cs : List D) : cellsOf (.func fn fs cs) = [.func fn fs cs] := (rfl)
theorem okD_agg (cs : List D) : okD (.agg cs) = true := (rfl)
theorem cellsOf_agg (cs : List D) : cellsOf (.agg cs) = cs := (rfl)
theorem okD_tup (cs : List D) : okD (.tup cs) = false := (rfl)
theorem cellsOf_tup (cs : List D) : cellsOf (.tup cs) = [.tup cs] := (rfl)
end
/-! pop's cases, so that its operation is seen before it is unfolded. -/
section
variable (P : Program) (σ : Nat → D)
theorem pop_move (x : Operand) : pop P σ (.move x) = (some (True, ev σ x)) := (rfl)
theorem pop_assign (x : Operand) : pop P σ (.assign x) = (some (True, ev σ x)) := (rfl)
theorem pop_pick (c : Operand) (a : Operand) (b : Operand) : pop P σ (.pick c a b) = (match ev σ c with
  | .v (.bool t) => some (True, if t then ev σ a else ev σ b)
  | _ => none) := (rfl)
theorem pop_nilCheck (x : Operand) : pop P σ (.nilCheck x) = (match ev σ x with
  | .ptr k g i j => some (True, .ptr k g i j)
  | .rptr t cs => some (True, .rptr t cs)
  | .iface t d => some (True, .iface t d)
  | .func (.func f) fs cs => some (True, .func (.func f) fs cs)
  | _ => none) := (rfl)
theorem pop_binOp (op : BinOp) (t : TypeId) (x : Operand) (y : Operand) (q4 : TypeId) : pop P σ (.binOp op t x y q4) = (dbin P op t (isConst x || isConst y) (ev σ x) (ev σ y)) := (rfl)
theorem pop_unOp (op : UnOp) (q1 : TypeId) (x : Operand) : pop P σ (.unOp op q1 x) = (match op, ev σ x with
  | .not, .v (.bool b) => some (True, .v (.bool !b))
  | .neg, .v (.int k n) => some (True, .v (.int k (k.wrap (0 - n))))
  | _, _ => none) := (rfl)
theorem pop_convert (src : TypeId) (dst : TypeId) (x : Operand) : pop P σ (.convert src dst x) = (match ev σ x with
  | .v (.int _ n) => match tint P dst with
   | some k => some ((tcode P src ≠ 0 : Prop), .v (.int k (k.wrap n)))
   | none => none
  | .v (.string s) => if tcode P src = 3 ∧ tcode P dst = 3 then some (True, .v (.string s)) else none
  | .sl z es => if tbyte P src = true ∧ tcode P dst = 3 then some (es = (unB es).map bEnc ∧ z = 1, .v (.string (ofL (unB es)))) else none
  | .v (.slice none _ _) => if tbyte P src = true ∧ tcode P dst = 3 then some (True, .v (.string .empty)) else none
  | .mt => if tbyte P src = true ∧ tcode P dst = 3 then some (True, .v (.string .empty)) else none
  | _ => none) := (rfl)
theorem pop_makeInterface (t : TypeId) (x : Operand) : pop P σ (.makeInterface t x) = (if tcode P t = 6 ∨ tcode P t = 0 then none else some (True, .iface t (ev σ x))) := (rfl)
theorem pop_makeFunc (fn : Fn) (fs : (Array Operand)) (cs : (Array Operand)) : pop P σ (.makeFunc fn fs cs) = (some (True, .func fn (fs.toList.map (ev σ)) (cs.toList.map (ev σ)))) := (rfl)
theorem pop_field (t : TypeId) (x : Operand) (f : Nat) : pop P σ (.field t x f) = (match tfld P t f, ev σ x with
  | some (o, true, z), .agg cs => some (o + z ≤ cs.length, .agg ((cs.drop o).take z))
  | some (o, false, _), .agg cs => some (o < cs.length, cs.getD o .any)
  | _, _ => none) := (rfl)
theorem pop_index (t : TypeId) (x : Operand) (i : Operand) : pop P σ (.index t x i) = (match tcode P t, ev σ x, ev σ i with
  | 3, .v (.string s), .v (.int _ n) => some (0 ≤ n ∧ n < s.size, .v (.int .u8 (s.data.toList.getD n.toNat 0).toNat))
  | _, _, _ => none) := (rfl)
theorem pop_extract (x : Operand) (i : Nat) : pop P σ (.extract x i) = (match ev σ x with
  | .tup ds => some (i < ds.length, ds.getD i .any)
  | _ => none) := (rfl)
theorem pop_build (t : TypeId) (ps : (Array (Nat × Operand))) : pop P σ (.build t ps) = (match tplaces P t, tzero P t with
  | some pl, some zs => match fillD (fun f => pl[f]?) (zs.map .v) (ps.toList.map fun p => (p.1, ev σ p.2)) with
   | some cs => some (True, .agg cs)
   | none => none
  | _, _ => none) := (rfl)
theorem pop_slice (t : TypeId) (x : Operand) (lo : (Option Operand)) (hi : (Option Operand)) (mx : (Option Operand)) : pop P σ (.slice t x lo hi mx) = (match ev σ x with
  | .v (.string s) => match mx.map (ev σ), sbounds s.size (lo.map (ev σ)) (hi.map (ev σ)) with
   | none, some (O, l, h) => if tcode P t = 3 then some (O, .v (.string (s.extract l h))) else none
   | _, _ => none
  | .sl z es => match mx.map (ev σ), sbounds es.length (lo.map (ev σ)) (hi.map (ev σ)) with
   | none, some (O, l, h) => if (telem P t).any (·.1 == z) then some (O, .sl z ((es.take h).drop l)) else none
   | some q, _ => match lo, hi.map (ev σ), q with
    | none, some (.v (.int _ h)), .v (.int _ c) => if (telem P t).any (·.1 == z) then some (h = 0 ∧ c = 0, .mt) else none
    | _, _, _ => none
   | _, _ => none
  | .own k g o n z => match mx.map (ev σ), sbounds n (lo.map (ev σ)) (hi.map (ev σ)) with
   | none, some (O, l, h) => if (telem P t).any (·.1 == z) then some (O, .own k g (o + l) (h - l) z) else none
   | some q, _ => match lo, hi.map (ev σ), q with
    | none, some (.v (.int _ h)), .v (.int _ c) => if (telem P t).any (·.1 == z) then some (h = 0 ∧ c = 0, .mt) else none
    | _, _, _ => none
   | _, _ => none
  | .v (.slice none 0 0) => match mx.map (ev σ), sbounds 0 (lo.map (ev σ)) (hi.map (ev σ)) with
   | none, some (O, _, _) => if (telem P t).isSome then some (O, .v (.slice none 0 0)) else none
   | some q, _ => match lo, hi.map (ev σ), q with
    | none, some (.v (.int _ h)), .v (.int _ c) => if (telem P t).isSome then some (h = 0 ∧ c = 0, .v (.slice none 0 0)) else none
    | _, _, _ => none
   | _, _ => none
  | .mt => match mx.map (ev σ), sbounds 0 (lo.map (ev σ)) (hi.map (ev σ)) with
   | none, some (O, _, _) => if (telem P t).isSome then some (O, .mt) else none
   | some q, _ => match lo, hi.map (ev σ), q with
    | none, some (.v (.int _ h)), .v (.int _ c) => if (telem P t).isSome then some (h = 0 ∧ c = 0, .mt) else none
    | _, _, _ => none
   | _, _ => none
  | _ => none) := (rfl)
theorem pop_fieldAddr (s : TypeId) (x : Operand) (f : Nat) : pop P σ (.fieldAddr s x f) = (match tfld P s f, ev σ x with
  | some (o, _, _), .ptr k g i j => some (True, .ptr k g i (j + o))
  | some (o, _, _), .rptr t cs => some (o ≤ cs.length, .rptr (t.map fun a => (a.1, a.2 + o)) (cs.drop o))
  | _, _ => none) := (rfl)
theorem pop_indexAddr (t : TypeId) (x : Operand) (i : Operand) : pop P σ (.indexAddr t x i) = (match telem P t, ev σ x, ev σ i with
  | some (z, _), .sl z' es, .v (.int _ n) => if z = z' then some (0 ≤ n ∧ n < es.length, .rptr none (es.getD n.toNat [])) else none
  | some (z, _), .own k g o len z', .v (.int _ n) => if z = z' then some (0 ≤ n ∧ n < len, .ptr k g (o + n.toNat) 0) else none
  | _, _, _ => none) := (rfl)
theorem pop_load (t : TypeId) (a : Operand) : pop P σ (.load t a) = (match tagg P t, tsz P t, ev σ a with
  | some true, some z, .rptr _ cs => some (z ≤ cs.length, .agg (cs.take z))
  | some false, some _, .rptr _ cs => some (0 < cs.length, cs.getD 0 .any)
  | _, _, _ => none) := (rfl)
theorem pop_len0 (x : Operand) (t : TypeId) : pop P σ (.call { callee := .builtin .len, args := #[x], argTypes := #[t] }) = lenD (tcode P t) (ev σ x) := (rfl)
theorem pop_cap0 (x : Operand) (t : TypeId) : pop P σ (.call { callee := .builtin .cap, args := #[x], argTypes := #[t] }) = capD (tcode P t) (ev σ x) := (rfl)
theorem pop_alloc0 (t : TypeId) : pop P σ (.alloc t) = none := (rfl)
theorem pop_box0 (t : TypeId) (x : Operand) : pop P σ (.box t x) = none := (rfl)
theorem pop_buildSlice0 (t : TypeId) (l : Nat) (ps : Array (Nat × Operand)) : pop P σ (.buildSlice t l ps) = none := (rfl)
theorem pop_makeSlice0 (t : TypeId) (l c : Operand) : pop P σ (.makeSlice t l c) = none := (rfl)
theorem pop_store0 (t : TypeId) (a x : Operand) : pop P σ (.store t a x) = none := (rfl)
end

/-! Whole code. G: the slots that are wanted across regions. -/
def cnd (d : D) (A B : Prop) (_ : Tg A B ()) : Prop :=
 match d with
 | .v (.bool t) => (t = true → A) ∧ (t = false → B)
 | .bb => A ∧ B
 | _ => False
def vloop (P : Program) (N : Nat) (G : List Nat) (c : Code) (Q : APost) (_ : Tg G c Q) (σ : Nat → D) (m : Mem) (n : Nat) : Prop := AWP P N (.loop c) Q σ m n
def vrange (P : Program) (N : Nat) (G : List Nat) (g : Operand) (ps : Array Tmp) (a c : Code) (Q : APost) (_ : Tg a c Q) (σ : Nat → D) (m : Mem) (n : Nat) : Prop := AWP P N (.rangeFunc g ps a c) Q σ m n
def vdraw (P : Program) (N : Nat) (ops : Array Oper) (K : (Nat → D) → Mem → Nat → Prop) (_ : Tg ops K ()) (σ : Nat → D) (m : Mem) (n : Nat) : Prop :=
 ∀ id, AWP P N (.region id ops true) (Then K fun _ _ _ _ => False) σ m n
def vc (P : Program) (N : Nat) (G : List Nat) : (c : Code) → (Q : APost) → Tg G c Q → (Nat → D) → Mem → Nat → Prop
 | .skip, Q, _, σ, m, n => Q .normal σ m n
 | .region _ ops draw, Q, _, σ, m, n => if draw then vdraw P N ops (fun σ m n => Q .normal (keep G σ) m n) tg σ m n else xOps P N ops (fun σ m n => Q .normal (keep G σ) m n) ops.toList tg σ m n
 | .seq x y, Q, _, σ, m, n => vc P N G x (Then (fun σ m n => vc P N G y Q tg σ m n) Q) tg σ m n
 | .cond c x y, Q, _, σ, m, n => cnd (ev σ c) (vc P N G x Q tg σ m n) (vc P N G y Q tg σ m n) tg
 | .block id c, Q, _, σ, m, n => vc P N G c (InBlock id Q) tg σ m n
 | .exit id, Q, _, σ, m, n => Q (.exit id) σ m n
 | .ret, Q, _, σ, m, n => Q .ret σ m n
 | .label _, Q, _, σ, m, n => Q .normal σ m n
 | .loop c, Q, _, σ, m, n => vloop P N G c Q tg σ m n
 | .rangeFunc g ps a c, Q, _, σ, m, n => vrange P N G g ps a c Q tg σ m n
 | _, _, _, _, _, _ => False

section
variable {P : Program} {N : Nat} {G : List Nat} {m : Mem} {n : Nat}
theorem xOps_mono {ops : Array Oper} {K K' : (Nat → D) → Mem → Nat → Prop} (hK : ∀ σ m n, K σ m n → K' σ m n) (l : List Oper) (σ : Nat → D) (m : Mem) (n : Nat) (u : Tg ops K l) (h : xOps P N ops K l u σ m n) : vcOps P N ops K' l σ m n :=
 awp_rs.vcOps_mono hK l σ m n (xOps_vc _ _ _ _ _ h)
theorem vc_sound : ∀ (c : Code) (Q : APost) (u : Tg G c Q) (σ : Nat → D) (m : Mem) (n : Nat), vc P N G c Q u σ m n → AWP P N c Q σ m n
 | .skip, Q, _, σ, m, n, h => awp_skip h
 | .region id ops draw, Q, _, σ, m, n, h => by
  simp only [vc] at h
  have key : ∀ {σ m n}, AWP P N (.region id ops draw) (Then (fun σ m n => Q .normal (keep G σ) m n) Q) σ m n → AWP P N (.region id ops draw) Q σ m n := by
   intro σ m n h B hB w ν F a hr
   refine wpIn_mono (h B hB w ν F a hr) ?_
   rintro e a' w' ⟨ν', F', σ', m', n', g1, g2, g3⟩
   cases e with
   | normal =>
    refine ⟨ν', F', keep G σ', m', n', g1, ⟨g2.size, g2.defers, g2.base, fun i => ?_, g2.st⟩, g3⟩
    rcases keep_or (σ := σ') G i with e | e
    ·rw [e]; exact g2.con i
    ·rw [e]; simp [Con]
   | _ => exact ⟨ν', F', σ', m', n', g1, g2, g3⟩
  refine key ?_
  cases draw with
  | true =>
   simp only [if_true] at h
   exact AWP.mono (h id) (by intro e σ m n he; cases e <;> first | exact he | exact he.elim)
  | false =>
   simp only [Bool.false_eq_true, if_false] at h
   exact awp_region (xOps_mono (fun σ m n hh => hh) _ _ _ _ _ h)
 | .seq x y, Q, _, σ, m, n, h => by
  simp only [vc] at h
  refine awp_seq (AWP.mono (vc_sound x _ _ σ m n h) ?_)
  intro e σ m n he
  cases e with
  | normal => exact vc_sound y Q _ σ m n he
  | _ => exact he
 | .cond c x y, Q, _, σ, m, n, h => by
  simp only [vc, cnd] at h
  split at h
  ·rename_i t e
   exact awp_cond e (fun ht => vc_sound x Q _ σ m n (h.1 ht)) (fun hf => vc_sound y Q _ σ m n (h.2 hf))
  ·rename_i e
   exact awp_cond_bb e (vc_sound x Q _ σ m n h.1) (vc_sound y Q _ σ m n h.2)
  ·exact h.elim
 | .block id c, Q, _, σ, m, n, h => by
  simp only [vc] at h
  exact awp_block (vc_sound c _ _ σ m n h)
 | .exit id, Q, _, σ, m, n, h => awp_exit h
 | .ret, Q, _, σ, m, n, h => awp_ret h
 | .label l, Q, _, σ, m, n, h => awp_label h
 | .loop c, Q, _, σ, m, n, h => h
 | .rangeFunc _ _ _ _, Q, _, σ, m, n, h => h
 | .scope _, _, _, _, _, _, h => by simp [vc] at h
 | .goto _, _, _, _, _, _, h => by simp [vc] at h
 | .refuse _, _, _, _, _, _, h => by simp [vc] at h
end

section
variable {P : Program} {N : Nat} {G : List Nat} {m : Mem} {n : Nat} {σ σ' : Nat → D} {Q : APost}
theorem cnd_true (A B : Prop) (u : Tg A B ()) : cnd (.v (.bool true)) A B u = A := by simp [cnd]
theorem cnd_false (A B : Prop) (u : Tg A B ()) : cnd (.v (.bool false)) A B u = B := by simp [cnd]
theorem cnd_bb (A B : Prop) (u : Tg A B ()) : cnd .bb A B u = (A ∧ B) := by simp [cnd]
theorem vc_skip (u : Tg G Code.skip Q) : vc P N G .skip Q u σ m n = Q .normal σ m n := (rfl)
theorem vc_region (id : Nat) (l : List Oper) (u : Tg G (Code.region id l.toArray false) Q) : vc P N G (.region id l.toArray false) Q u σ m n = xOps P N l.toArray (fun σ m n => Q .normal (keep G σ) m n) l tg σ m n := (rfl)
theorem vc_rdraw (id : Nat) (ops : Array Oper) (u : Tg G (Code.region id ops true) Q) : vc P N G (.region id ops true) Q u σ m n = vdraw P N ops (fun σ m n => Q .normal (keep G σ) m n) tg σ m n := (rfl)
theorem vc_seq (x y : Code) (u : Tg G (Code.seq x y) Q) : vc P N G (.seq x y) Q u σ m n = vc P N G x (Then (fun σ m n => vc P N G y Q tg σ m n) Q) tg σ m n := (rfl)
theorem vc_cond (c : Operand) (x y : Code) (u : Tg G (Code.cond c x y) Q) : vc P N G (.cond c x y) Q u σ m n = cnd (ev σ c) (vc P N G x Q tg σ m n) (vc P N G y Q tg σ m n) tg := (rfl)
theorem vc_block (id : Nat) (c : Code) (u : Tg G (Code.block id c) Q) : vc P N G (.block id c) Q u σ m n = vc P N G c (InBlock id Q) tg σ m n := (rfl)
theorem vc_exit (id : Nat) (u : Tg G (Code.exit id) Q) : vc P N G (.exit id) Q u σ m n = Q (.exit id) σ m n := (rfl)
theorem vc_ret (u : Tg G Code.ret Q) : vc P N G .ret Q u σ m n = Q .ret σ m n := (rfl)
theorem vc_label (l : Nat) (u : Tg G (Code.label l) Q) : vc P N G (.label l) Q u σ m n = Q .normal σ m n := (rfl)
theorem vc_loop (c : Code) (u : Tg G (Code.loop c) Q) : vc P N G (.loop c) Q u σ m n = vloop P N G c Q tg σ m n := (rfl)
theorem vc_range (g : Operand) (ps : Array Tmp) (a c : Code) (u : Tg G (Code.rangeFunc g ps a c) Q) : vc P N G (.rangeFunc g ps a c) Q u σ m n = vrange P N G g ps a c Q tg σ m n := (rfl)
theorem then_normal (K : (Nat → D) → Mem → Nat → Prop) : Then K Q .normal σ m n = K σ m n := (rfl)
theorem then_exit (K : (Nat → D) → Mem → Nat → Prop) (id : Nat) : Then K Q (.exit id) σ m n = Q (.exit id) σ m n := (rfl)
theorem then_ret (K : (Nat → D) → Mem → Nat → Prop) : Then K Q .ret σ m n = Q .ret σ m n := (rfl)
theorem inBlock_normal (id : Nat) : InBlock id Q .normal σ m n = Q .normal σ m n := (rfl)
theorem inBlock_ret (id : Nat) : InBlock id Q .ret σ m n = Q .ret σ m n := (rfl)
theorem inBlock_same (id : Nat) : InBlock id Q (.exit id) σ m n = Q .normal σ m n := by simp [InBlock]
theorem inBlock_ne (id id' : Nat) (h : id' ≠ id) : InBlock id Q (.exit id') σ m n = Q (.exit id') σ m n := by simp [InBlock, h]
theorem retQ_ret (ts : List Tmp) (R : D → Mem → Nat → Prop) : RetQ ts R .ret σ m n = R (retD ts σ) m n := (rfl)
theorem retQ_normal (ts : List Tmp) (R : D → Mem → Nat → Prop) : RetQ ts R .normal σ m n = R (retD ts σ) m n := (rfl)
theorem vloop_of {β : Type} {c : Code} (Inv : β → (Nat → D) → Mem → Nat → Prop) (f : β → Nat) (b0 : β) (h0 : Inv b0 σ m n)
  (round : ∀ b σ m n, Inv b σ m n → vc P N G c (Then (fun σ' m' n' => ∃ b', f b' < f b ∧ Inv b' σ' m' n') Q) tg σ m n) {u : Tg G c Q} : vloop P N G c Q u σ m n :=
 awp_loop Inv f b0 h0 fun b σ m n hi => vc_sound _ _ _ _ _ _ (round b σ m n hi)
theorem acalls_vc (G : List Nat) {f : FuncId} {fn : Func} {c : Code} {args : List D} {ts : List Tmp} {R : D → Mem → Nat → Prop} {N : Nat} (hf : P.funcs[f]? = some fn) (hn : fn.ntmps = N) (hname : (fn.name == "runtime.NumGoroutine") = false)
  (hb : fn.body = some c) (hr : retTmps fn = some ts) (hN : args.length ≤ N) (h : vc P N G c (RetQ ts R) tg (initσ args) m n) : ACalls P f args m n R := by
 subst hn
 exact acalls_of hf hname hb hr hN (vc_sound _ _ _ _ _ _ h)
end

attribute [simp] cnd_true cnd_false cnd_bb vc_skip vc_region vc_rdraw vc_seq vc_cond vc_block vc_exit vc_ret vc_label vc_loop vc_range then_normal then_exit then_ret inBlock_normal inBlock_ret inBlock_same inBlock_ne retQ_ret retQ_normal
 guarded_none bD_none bD_some bOp_some bIf_0 bIf_1 bIf_2 xs_nil xs_cons dstOk put cls det rop
attribute [simp] xOps_nil xOps_plain xOps_none xOps_guard xop b4_some callD_func gif_true gif_false stepD pm pop_move pop_assign pop_pick pop_nilCheck pop_binOp pop_unOp pop_convert pop_makeInterface pop_makeFunc pop_field pop_index pop_extract pop_build pop_slice pop_fieldAddr pop_indexAddr pop_load pop_len0 pop_cap0 pop_alloc0 pop_box0 pop_buildSlice0 pop_makeSlice0 pop_store0 ev normV upd_same upd_ne keep isConst dbin deq unk eqD eqFs ishift ibin sbin ldD stD azD clD cvD apD_own apD_nil_nil apD_nil_cons apD_mt_nil apD_mt_cons mkD bsD set_same set_ne
 guarded_some gval2_bool gval2_undef gslot elemsOf_sl elemsOf_own elemsOf_nil elemsOf_mt elemsOf_str fillE fillD okD_v cellsOf_v okD_any cellsOf_any okD_ptr cellsOf_ptr okD_rptr cellsOf_rptr okD_sl cellsOf_sl okD_own cellsOf_own okD_mt cellsOf_mt okD_bb cellsOf_bb okD_iface cellsOf_iface okD_func cellsOf_func okD_agg cellsOf_agg okD_tup cellsOf_tup oneC initσ sbounds mk_ofL empty_ofL size_ofL list_ofL append_ofL toList_ofL extract_ofL
 retD rs From below belowL belowE
end Go.Proofs.Mv.V
namespace Go.Proofs.Mv.V
variable [GI]
mutual
inductive Tr where
 | fin
 | rd (i : Nat) (t : Tr)
 | wr (ts : Trs)
inductive Trs where
 | nil
 | cons (i : Nat) (t : Tr) (ts : Trs)
end
mutual
def tex (P : Program) (N : Nat) (ops : Array Oper) (mk : List Nat) (K : (Nat → D) → Mem → Nat → Prop) : Tr → ESet → (Nat → D) → Mem → Nat → Prop
 | .fin, _, σ, m, n => K σ m n
 | .rd i t, E, σ, m, n => sstep P N ops mk i (tex P N ops mk K t) E σ m n
 | .wr ts, E, σ, m, n => texs P N ops mk K ts E σ m n
def texs (P : Program) (N : Nat) (ops : Array Oper) (mk : List Nat) (K : (Nat → D) → Mem → Nat → Prop) : Trs → ESet → (Nat → D) → Mem → Nat → Prop
 | .nil, _, _, _, _ => True
 | .cons i t ts, E, σ, m, n => sstep P N ops mk i (tex P N ops mk K t) E σ m n ∧ texs P N ops mk K ts E σ m n
end
def rdy (ops : Array Oper) (i done : Nat) : Bool :=
 match ops[i]? with
 | some o => !done.testBit i && o.after.toList.all fun e => !Region.binds .any e || done.testBit e.on
 | none => false
def apartI (ops : Array Oper) (y i : Nat) : Bool :=
 match ops[y]?, ops[i]? with
 | some oy, some oi => oy.apart ops oi
 | _, _ => false
def readI (ops : Array Oper) (y : Nat) : Bool :=
 match ops[y]? with
 | some oy => decide (cls oy.op ≤ 1)
 | none => false
def hasT (i : Nat) : Trs → Bool
 | .nil => false
 | .cons j _ ts => j == i || hasT i ts
mutual
def okTr (ops : Array Oper) (mk : List Nat) : Tr → Nat → Bool
 | .fin, done => (List.range ops.size).all fun i => done.testBit i
 | .rd y t, done => rdy ops y done && readI ops y && (List.range ops.size).all (fun i => i == y || done.testBit i || (mk.getD i 0).testBit y || apartI ops y i) && okTr ops mk t (done ||| 1 <<< y)
 | .wr .nil, _ => false
 | .wr (.cons j t ts), done => (List.range ops.size).all (fun i => !rdy ops i done || (j == i || hasT i ts)) && rdy ops j done && okTr ops mk t (done ||| 1 <<< j) && okTrs ops mk ts done
def okTrs (ops : Array Oper) (mk : List Nat) : Trs → Nat → Bool
 | .nil, _ => true
 | .cons i t ts, done => rdy ops i done && okTr ops mk t (done ||| 1 <<< i) && okTrs ops mk ts done
end
mutual
def Tr.take (i : Nat) : Tr → Tr
 | .fin => .fin
 | .rd y t => if y = i then t else .rd y (t.take i)
 | .wr ts => ts.take i
def Trs.take (i : Nat) : Trs → Tr
 | .nil => .fin
 | .cons j t ts => if j = i then t else ts.take i
end
theorem bit_or (d y j : Nat) : (d ||| 1 <<< y).testBit j = (d.testBit j || decide (y = j)) := by
 rw [Nat.testBit_or, Nat.shiftLeft_eq, Nat.one_mul, Nat.testBit_two_pow]
theorem rdy_spec {ops : Array Oper} {i done : Nat} : rdy ops i done = true ↔ ∃ o, ops[i]? = some o ∧ done.testBit i = false ∧ ∀ e ∈ o.after, Region.binds .any e = true → done.testBit e.on = true := by
 unfold rdy
 cases h : ops[i]? with
 | none => simp
 | some o =>
  simp only [Bool.and_eq_true, Bool.not_eq_true', List.all_eq_true, Bool.or_eq_true, Option.some.injEq]
  constructor
  ·rintro ⟨h1, h2⟩
   refine ⟨o, rfl, h1, fun e he hb => ?_⟩
   rcases h2 e (by simpa using he) with h3 | h3
   ·rw [hb] at h3; cases h3
   ·exact h3
  ·rintro ⟨o', rfl, h1, h2⟩
   refine ⟨h1, fun e he => ?_⟩
   cases hb : Region.binds .any e
   ·exact .inl rfl
   ·exact .inr (h2 e (by simpa using he) hb)
theorem rdy_more {ops : Array Oper} {i y done : Nat} (h : rdy ops i done = true) (hne : i ≠ y) : rdy ops i (done ||| 1 <<< y) = true := by
 obtain ⟨o, h1, h2, h3⟩ := rdy_spec.1 h
 refine rdy_spec.2 ⟨o, h1, ?_, fun e he hb => ?_⟩
 ·rw [bit_or, h2]; simp; exact Ne.symm hne
 ·rw [bit_or, h3 e he hb]; rfl
theorem rdy_lt {ops : Array Oper} {i done : Nat} (h : rdy ops i done = true) : i < ops.size := by
 obtain ⟨o, h1, _⟩ := rdy_spec.1 h
 rcases Nat.lt_or_ge i ops.size with h | h
 ·exact h
 ·rw [Array.getElem?_eq_none h] at h1; cases h1
section
variable {P : Program} {N : Nat} {B : Bs}
mutual
theorem take_T {ops : Array Oper} {mk : List Nat} {K : (Nat → D) → Mem → Nat → Prop} {i : Nat} : ∀ (t : Tr) (done : Nat) (E : ESet) (σ : Nat → D) (m : Mem) (n : Nat), okTr ops mk t done = true → rdy ops i done = true → (∀ y, y < ops.size → (mk.getD i 0).testBit y = true → done.testBit y = true) →
  okTr ops mk (t.take i) (done ||| 1 <<< i) = true ∧ (tex P N ops mk K t E σ m n → sstep P N ops mk i (tex P N ops mk K (t.take i)) E σ m n)
 | .fin, done, E, σ, m, n, h, hr, hm => by
  exfalso
  obtain ⟨o, h1, h2, _⟩ := rdy_spec.1 hr
  simp only [okTr, List.all_eq_true] at h
  have := h i (by simpa using rdy_lt hr)
  rw [h2] at this; cases this
 | .rd y t, done, E, σ, m, n, h, hr, hm => by
  simp only [okTr, Bool.and_eq_true, List.all_eq_true] at h
  obtain ⟨⟨⟨hy, hrd⟩, hap⟩, ht⟩ := h
  by_cases e : y = i
  ·subst e
   simp only [Tr.take, if_true]
   exact ⟨ht, fun hx => hx⟩
  ·simp only [Tr.take, if_neg e]
   have hyl := rdy_lt hy
   obtain ⟨oy, g1, g2, g3⟩ := rdy_spec.1 hy
   obtain ⟨oi, k1, k2, k3⟩ := rdy_spec.1 hr
   have hrec := fun E σ m n => take_T (i := i) (K := K) t (done ||| 1 <<< y) E σ m n ht (rdy_more hr (Ne.symm e)) (fun z hz hb => by rw [bit_or, hm z hz hb]; rfl)
   have hnm : (mk.getD i 0).testBit y = false := by
    cases hb : (mk.getD i 0).testBit y
    ·rfl
    ·have := hm y hyl hb; rw [g2] at this; cases this
   have hai : oy.apart ops oi = true := by
    have := hap i (by simpa using rdy_lt hr)
    simp only [Bool.or_eq_true, beq_iff_eq, k2, hnm, Bool.false_eq_true, or_false] at this
    rcases this with h | h
    ·exact absurd h (Ne.symm e)
    ·simpa [apartI, g1, k1] using h
   have hcl : cls oy.op ≤ 1 := by unfold readI at hrd; rw [g1] at hrd; exact of_decide_eq_true hrd
   refine ⟨?_, fun hx => ?_⟩
   ·simp only [okTr, Bool.and_eq_true, List.all_eq_true]
    refine ⟨⟨⟨rdy_more hy e, hrd⟩, fun j hj => ?_⟩, ?_⟩
    ·have := hap j hj
     simp only [Bool.or_eq_true] at this ⊢
     rcases this with ((h | h) | h) | h
     ·exact .inl (.inl (.inl h))
     ·exact .inl (.inl (.inr (by rw [bit_or, h]; rfl)))
     ·exact .inl (.inr h)
     ·exact .inr h
    ·have := (hrec E σ m n).1
     rw [Nat.or_assoc, Nat.or_comm (1 <<< y), ← Nat.or_assoc] at this
     exact this
   ·simp only [tex] at hx ⊢
    exact sstep_swap g1 k1 hcl hai hnm (sstep_mono (fun E σ m n hh => (hrec E σ m n).2 hh) hx)
 | .wr .nil, done, E, σ, m, n, h, hr, hm => by simp [okTr] at h
 | .wr (.cons j t ts), done, E, σ, m, n, h, hr, hm => by
  simp only [okTr, Bool.and_eq_true, List.all_eq_true] at h
  obtain ⟨⟨⟨h1, h2⟩, h3⟩, h4⟩ := h
  have hh := h1 i (by simpa using rdy_lt hr)
  simp only [hr, Bool.not_true, Bool.false_or, Bool.or_eq_true, beq_iff_eq] at hh
  simp only [Tr.take, Trs.take, tex, texs]
  by_cases e : j = i
  ·subst e; simp only [if_true]; exact ⟨h3, fun hx => hx.1⟩
  ·simp only [if_neg e]
   have hi : hasT i ts = true := by rcases hh with h | h; exact absurd h e; exact h
   have := take_Ts (i := i) (K := K) ts done E σ m n h4 hi
   exact ⟨this.1, fun hx => this.2 hx.2⟩
theorem take_Ts {ops : Array Oper} {mk : List Nat} {K : (Nat → D) → Mem → Nat → Prop} {i : Nat} : ∀ (ts : Trs) (done : Nat) (E : ESet) (σ : Nat → D) (m : Mem) (n : Nat), okTrs ops mk ts done = true → hasT i ts = true →
  okTr ops mk (ts.take i) (done ||| 1 <<< i) = true ∧ (texs P N ops mk K ts E σ m n → sstep P N ops mk i (tex P N ops mk K (ts.take i)) E σ m n)
 | .nil, done, E, σ, m, n, h, hi => by simp [hasT] at hi
 | .cons j t ts, done, E, σ, m, n, h, hi => by
  simp only [okTrs, Bool.and_eq_true] at h
  obtain ⟨⟨h1, h2⟩, h3⟩ := h
  simp only [Trs.take, texs]
  by_cases e : j = i
  ·subst e; simp only [if_true]; exact ⟨h2, fun hx => hx.1⟩
  ·simp only [if_neg e]
   simp only [hasT, Bool.or_eq_true, beq_iff_eq] at hi
   have := take_Ts (i := i) (K := K) ts done E σ m n h3 (by rcases hi with h | h; exact absurd h e; exact h)
   exact ⟨this.1, fun hx => this.2 hx.2⟩
end
theorem okTr_ready {ops : Array Oper} {mk : List Nat} : ∀ (t : Tr) (done : Nat), okTr ops mk t done = true → (∀ i, rdy ops i done = false) → t = .fin
 | .fin, _, _, _ => rfl
 | .rd y t, done, h, hn => by simp [okTr, hn y] at h
 | .wr .nil, done, h, hn => by simp [okTr] at h
 | .wr (.cons j t ts), done, h, hn => by simp [okTr, hn j] at h
theorem tree_sound {ops : Array Oper} {mk : List Nat} {Q : APost} (hm : masksOk ops mk = true) : ∀ (fuel : Nat) (t : Tr) (done : Nat) (listed : Array Bool) (E : ESet) (w : World) (ν : Nu) (F : Nat → Prop) (a : Act) (σ : Nat → D) (m : Mem) (n : Nat),
  okTr ops mk t done = true → ((List.range ops.size).filter fun i => !done.testBit i).length = fuel → listed.size = ops.size → (∀ i, i < ops.size → listed.getD i true = done.testBit i) →
  (∀ i o, ops[i]? = some o → done.testBit i = true → ∀ e ∈ o.after, Region.binds .any e = true → done.testBit e.on = true) →
  ARel N B w ν F a σ m n → tex P N ops mk (Q .normal) t E σ m n → wpAnyIn (FW B) 1 P .any ops (Lift N B w ν F Q) fuel listed a w := by
 intro fuel
 induction fuel with
 | zero =>
  intro t done listed E w ν F a σ m n hok hlen hsz hl hdown hr h
  have hall : ∀ i, i < ops.size → done.testBit i = true := by
   intro i hi
   cases hb : done.testBit i
   ·have : i ∈ (List.range ops.size).filter fun i => !done.testBit i := by simp [hi, hb]
    rw [List.eq_nil_of_length_eq_zero hlen] at this; cases this
   ·rfl
  have hno : ∀ i, rdy ops i done = false := by
   intro i
   cases hb : rdy ops i done
   ·rfl
   ·obtain ⟨_, _, h2, _⟩ := rdy_spec.1 hb; rw [hall i (rdy_lt hb)] at h2; cases h2
  obtain rfl := okTr_ready t done hok hno
  refine ⟨?_, ν, F, σ, m, n, Ext.refl _ _ _, hr, h⟩
  rw [List.eq_nil_iff_forall_not_mem]
  intro i hi
  obtain ⟨h0, o, ho, _⟩ := mem_ready.1 hi
  have hio : i < ops.size := by
   rcases Nat.lt_or_ge i ops.size with h | h
   ·exact h
   ·simp [Array.getElem?_eq_none h] at ho
  rw [hl i hio, hall i hio] at h0; cases h0
 | succ fuel ih =>
  intro t done listed E w ν F a σ m n hok hlen hsz hl hdown hr h
  have hready : ∀ i, i ∈ Region.ready .any ops listed ↔ rdy ops i done = true := by
   intro i
   rw [mem_ready, rdy_spec]
   constructor
   ·rintro ⟨h0, o, ho, hall⟩
    have hio : i < ops.size := by
     rcases Nat.lt_or_ge i ops.size with h | h
     ·exact h
     ·simp [Array.getElem?_eq_none h] at ho
    refine ⟨o, ho, by rw [← hl i hio]; exact h0, fun e he hb => ?_⟩
    have h1 := hall e he hb
    have hes : e.on < ops.size := by
     rcases Nat.lt_or_ge e.on ops.size with h | h
     ·exact h
     ·rw [← hsz] at h; simp [Array.getElem?_eq_none h] at h1
    rw [← hl e.on hes]
    have hes' : e.on < listed.size := by omega
    simp [hes'] at h1 ⊢
    exact h1
   ·rintro ⟨o, ho, h0, hall⟩
    have hio : i < ops.size := by
     rcases Nat.lt_or_ge i ops.size with h | h
     ·exact h
     ·simp [Array.getElem?_eq_none h] at ho
    refine ⟨by rw [hl i hio]; exact h0, o, ho, fun e he hb => ?_⟩
    have h1 := hall e he hb
    have hlt : e.on < i := by
     have h2 := List.all_eq_true.1 hm i (by simpa using hio)
     simp only [ho, Bool.and_eq_true] at h2
     have h3 := List.all_eq_true.1 h2.1 e (by simpa using he)
     simpa [hb] using h3
    have hes' : e.on < listed.size := by omega
    rw [← hl e.on (by omega)] at h1
    simp [hes'] at h1 ⊢
    exact h1
  refine ⟨fun h0 => ?_, fun i hi => ?_⟩
  ·have hno : ∀ i, rdy ops i done = false := by
    intro i
    cases hb : rdy ops i done
    ·rfl
    ·have := (hready i).2 hb; rw [h0] at this; cases this
   obtain rfl := okTr_ready t done hok hno
   exact ⟨ν, F, σ, m, n, Ext.refl _ _ _, hr, h⟩
  ·have hri := (hready i).1 hi
   obtain ⟨o, ho, hnd, hall⟩ := rdy_spec.1 hri
   have hio := rdy_lt hri
   have hmask : ∀ y, y < ops.size → (mk.getD i 0).testBit y = true → done.testBit y = true := fun y hy hb =>
    masks_path hm (fun j => done.testBit j = true) (fun i' o' ho' hl' e he hbe => hdown i' o' ho' hl' e he hbe) (i + 1) i (by omega) o ho hall y hy hb
   obtain ⟨hok', hex⟩ := take_T (P := P) (N := N) (K := Q .normal) (i := i) t done E σ m n hok hri hmask
   refine wpOpIn_mono (fun a' w' hh => ?_) (sstep_sound (Q := Lift N B w ν F Q) hr (hex h))
   obtain ⟨ν', F', E', σ', m', n', h1, h2, h3⟩ := hh
   refine draw_sound.wpAny_monoQ (fun e a w hq => Lift.trans h1 hq) _ _ _ _ (ih (t.take i) (done ||| 1 <<< i) (listed.setIfInBounds i true) E' w' ν' F' a' σ' m' n' hok' ?_ (by simp [hsz]) ?_ ?_ h2 h3)
   ·have hnodup : ((List.range ops.size).filter fun j => !done.testBit j).Nodup := List.nodup_range.sublist List.filter_sublist
    have he : ((List.range ops.size).filter fun j => !(done ||| 1 <<< i).testBit j) = ((List.range ops.size).filter fun j => !done.testBit j).erase i := by
     rw [hnodup.erase_eq_filter, List.filter_filter]
     apply List.filter_congr
     intro j _
     rw [bit_or]
     by_cases hji : j = i
     ·subst hji; simp
     ·have : ¬ i = j := fun e => hji e.symm
      simp [this, hji]
    rw [he, List.length_erase_of_mem (by simp [hio, hnd]), hlen]; rfl
   ·intro j hj
    by_cases hji : j = i
    ·subst hji
     have : j < listed.size := by omega
     simp only [Array.getD_eq_getD_getElem?, Array.getElem?_setIfInBounds_self, this, if_true, Option.getD_some, bit_or]
     simp
    ·have : ¬ i = j := fun e => hji e.symm
     rw [getD_set_ne true (Ne.symm hji), hl j hj, bit_or]; simp [this]
   ·intro j oj hoj hdj e he hb
    rw [bit_or] at hdj ⊢
    by_cases hji : i = j
    ·subst hji
     rw [ho] at hoj; obtain rfl := Option.some.inj hoj
     rw [hall e he hb]; rfl
    ·simp only [hji, decide_false, Bool.or_false] at hdj
     rw [hdown j oj hoj hdj e he hb]; rfl
theorem awp_tree {id : Nat} {ops : Array Oper} {Q : APost} {σ : Nat → D} {m : Mem} {n : Nat} (mk : List Nat) (t : Tr) (hf : P.follows .mixedOrders = true) (hok : (masksOk ops mk && okTr ops mk t 0) = true)
  (h : tex P N ops mk (Q .normal) t (fun _ => False) σ m n) : AWP P N (.region id ops true) Q σ m n := by
 intro B _ w ν F a hr
 refine wpIn_region_any hf ?_
 simp only [Bool.and_eq_true] at hok
 have hext : Ext w ν F { w with drawn := w.drawn + 1 } ν F := ⟨Nat.le_refl _, fun b hb => ⟨hb, rfl⟩, fun k l hl => ⟨l, hl, Nat.le_refl _, rfl, fun _ => rfl⟩, fun _ _ _ _ _ _ arr e f h => ⟨arr, e, f, h, rfl⟩, ⟨rfl, rfl⟩⟩
 have hst : St { w with drawn := w.drawn + 1 } ν F m n := by
  obtain ⟨⟨s1, s2, s3⟩, s4, s5⟩ := hr.st
  refine ⟨⟨s1, s2, fun k o hk => ?_⟩, s4, GI.keep s5 hext.fz⟩
  obtain ⟨l, arr, e, f, q1, q2, q3, q4, q5, q6, q7⟩ := s3 k o hk
  exact ⟨l, arr, e, f, q1, q2, q3, q4, q5, q6, ConEs.mono hext _ _ _ _ rfl q7⟩
 have hr' : ARel N B { w with drawn := w.drawn + 1 } ν F a σ m n := ⟨hr.size, hr.defers.mono hext, hr.base, fun i => Con.mono hext _ _ (hr.con i), hst⟩
 have := tree_sound (P := P) (Q := Q) hok.1 ops.size t 0 (Array.replicate ops.size false) (fun _ => False) _ ν F a σ m n hok.2 (by rw [List.filter_eq_self.2 (by simp)]; simp) (by simp) (fun i hi => by simp [hi]) (fun i o ho hi => by simp at hi) hr' h
 exact draw_sound.wpAny_monoQ (fun e a w hq => Lift.trans hext hq) _ _ _ _ this
/-! The same, in a form that simp reckons. -/
mutual
def xt (P : Program) (N : Nat) (ops : Array Oper) (mk : List Nat) (K : (Nat → D) → Mem → Nat → Prop) : (t : Tr) → Tg ops mk K → List (Nat × Nat) → (Nat → D) → Mem → Nat → Prop
 | .fin, _, _, σ, m, n => K σ m n
 | .rd i t, _, E, σ, m, n => bOp (ops[i]?) (fun o => dstOk N o ∧ gif (guarded ops o σ)
   (bIf (cls o.op) (bD (det P σ m o.op) (fun d => xt P N ops mk K t tg E (put σ o.dst d) m n) (fun d k => xt P N ops mk K t tg ((i, k) :: E) (put σ o.dst d) m n) tg)
    (xop P σ m n o.op (fun d m' n' => (∀ p ∈ E, (mk.getD i 0).testBit p.1 = false → m' p.2 = m p.2) ∧ xt P N ops mk K t tg E (put σ o.dst d) m' n') tg) tg)
   (xt P N ops mk K t tg E (put σ o.dst undefD) m n) tg) tg
 | .wr ts, _, E, σ, m, n => xts P N ops mk K ts tg E σ m n
def xts (P : Program) (N : Nat) (ops : Array Oper) (mk : List Nat) (K : (Nat → D) → Mem → Nat → Prop) : (ts : Trs) → Tg ops mk K → List (Nat × Nat) → (Nat → D) → Mem → Nat → Prop
 | .nil, _, _, _, _, _ => True
 | .cons i t ts, _, E, σ, m, n => bOp (ops[i]?) (fun o => dstOk N o ∧ gif (guarded ops o σ)
   (bIf (cls o.op) (bD (det P σ m o.op) (fun d => xt P N ops mk K t tg E (put σ o.dst d) m n) (fun d k => xt P N ops mk K t tg ((i, k) :: E) (put σ o.dst d) m n) tg)
    (xop P σ m n o.op (fun d m' n' => (∀ p ∈ E, (mk.getD i 0).testBit p.1 = false → m' p.2 = m p.2) ∧ xt P N ops mk K t tg E (put σ o.dst d) m' n') tg) tg)
   (xt P N ops mk K t tg E (put σ o.dst undefD) m n) tg) tg ∧ xts P N ops mk K ts tg E σ m n
end
theorem one_sstep {ops : Array Oper} {mk : List Nat} {i : Nat} {E : List (Nat × Nat)} {σ : Nat → D} {m : Mem} {n : Nat} {X : List (Nat × Nat) → (Nat → D) → Mem → Nat → Prop} {Y : ESet → (Nat → D) → Mem → Nat → Prop} (hxy : ∀ E σ m n, X E σ m n → Y (fun p => p ∈ E) σ m n)
  {K1 K2 : Oper → D → Prop} 
  (h : bOp (ops[i]?) (fun o => dstOk N o ∧ gif (guarded ops o σ)
   (bIf (cls o.op) (bD (det P σ m o.op) (fun d => X E (put σ o.dst d) m n) (fun d k => X ((i, k) :: E) (put σ o.dst d) m n) tg)
    (xop P σ m n o.op (fun d m' n' => (∀ p ∈ E, (mk.getD i 0).testBit p.1 = false → m' p.2 = m p.2) ∧ X E (put σ o.dst d) m' n') tg) tg)
   (X E (put σ o.dst undefD) m n) tg) tg) : sstep P N ops mk i Y (fun p => p ∈ E) σ m n := by
 simp only [bOp] at h
 simp only [sstep]
 cases ho : ops[i]? with
 | none => simp [ho] at h
 | some o =>
  simp only [ho] at h ⊢
  refine ⟨h.1, ?_⟩
  have h2 := h.2
  unfold gif at h2
  split at h2
  ·rename_i hg
   rw [hg]
   simp only [bIf] at h2 ⊢
   split at h2
   ·rename_i hc
    rw [if_pos hc]
    unfold bD at h2
    split at h2
    ·rename_i O d hd; rw [hd]; exact ⟨h2.1, hxy _ _ _ _ h2.2⟩
    ·rename_i O d k hd
     rw [hd]
     refine ⟨h2.1, ?_⟩
     have := hxy _ _ _ _ h2.2
     have he : addE i (some k) (fun p => p ∈ E) = fun p => p ∈ (i, k) :: E := by funext p; simp [addE]
     rw [he]; exact this
    ·exact h2.elim
   ·rename_i hc
    rw [if_neg hc]
    exact eop_mono (fun d m' n' hh => ⟨hh.1, hxy _ _ _ _ hh.2⟩) (cls_eop hc h2)
  ·rename_i hg; rw [hg]; exact hxy _ _ _ _ h2
  ·exact h2.elim
mutual
theorem xt_tex {ops : Array Oper} {mk : List Nat} {K : (Nat → D) → Mem → Nat → Prop} : ∀ (t : Tr) (u : Tg ops mk K) (E : List (Nat × Nat)) (σ : Nat → D) (m : Mem) (n : Nat), xt P N ops mk K t u E σ m n → tex P N ops mk K t (fun p => p ∈ E) σ m n
 | .fin, u, E, σ, m, n, h => h
 | .rd i t, u, E, σ, m, n, h => by
  simp only [xt] at h
  simp only [tex]
  exact one_sstep (X := xt P N ops mk K t tg) (K1 := fun _ _ => True) (K2 := fun _ _ => True) (xt_tex t tg) h
 | .wr ts, u, E, σ, m, n, h => by
  simp only [xt] at h
  simp only [tex]
  exact xts_texs ts tg E σ m n h
theorem xts_texs {ops : Array Oper} {mk : List Nat} {K : (Nat → D) → Mem → Nat → Prop} : ∀ (ts : Trs) (u : Tg ops mk K) (E : List (Nat × Nat)) (σ : Nat → D) (m : Mem) (n : Nat), xts P N ops mk K ts u E σ m n → texs P N ops mk K ts (fun p => p ∈ E) σ m n
 | .nil, u, E, σ, m, n, h => trivial
 | .cons i t ts, u, E, σ, m, n, h => by
  simp only [xts] at h
  simp only [texs]
  exact ⟨one_sstep (X := xt P N ops mk K t tg) (K1 := fun _ _ => True) (K2 := fun _ _ => True) (xt_tex t tg) h.1, xts_texs ts tg E σ m n h.2⟩
end
theorem vdraw_tree {ops : Array Oper} {K : (Nat → D) → Mem → Nat → Prop} {σ : Nat → D} {m : Mem} {n : Nat} (mk : List Nat) (t : Tr) (hf : P.follows .mixedOrders = true) (hok : (masksOk ops mk && okTr ops mk t 0) = true) (h : xt P N ops mk K t tg [] σ m n) {u : Tg ops K ()} :
  vdraw P N ops K u σ m n := fun _ => awp_tree mk t hf hok (by
   have h2 : tex P N ops mk K t (fun _ => False) σ m n := by
    have := xt_tex _ _ _ _ _ _ h
    simpa using this
   exact h2)
theorem vdraw_treeM {ops : Array Oper} {K : (Nat → D) → Mem → Nat → Prop} {σ : Nat → D} {m : Mem} {n : Nat} (t : Tr) (hf : P.follows .mixedOrders = true) (hok : (masksOk ops (masks ops) && okTr ops (masks ops) t 0) = true) (h : ∀ mk, xt P N ops mk K t tg [] σ m n) {u : Tg ops K ()} :
  vdraw P N ops K u σ m n := vdraw_tree (masks ops) t hf hok (h _)
theorem xt_fin (ops : Array Oper) (mk : List Nat) (K : (Nat → D) → Mem → Nat → Prop) (u : Tg ops mk K) (E : List (Nat × Nat)) (σ : Nat → D) (m : Mem) (n : Nat) : xt P N ops mk K .fin u E σ m n = K σ m n := (rfl)
theorem xt_wr (ops : Array Oper) (mk : List Nat) (K : (Nat → D) → Mem → Nat → Prop) (ts : Trs) (u : Tg ops mk K) (E : List (Nat × Nat)) (σ : Nat → D) (m : Mem) (n : Nat) : xt P N ops mk K (.wr ts) u E σ m n = xts P N ops mk K ts tg E σ m n := (rfl)
theorem xt_rd (ops : Array Oper) (mk : List Nat) (K : (Nat → D) → Mem → Nat → Prop) (i : Nat) (t : Tr) (u : Tg ops mk K) (E : List (Nat × Nat)) (σ : Nat → D) (m : Mem) (n : Nat) : xt P N ops mk K (.rd i t) u E σ m n = bOp (ops[i]?) (fun o => dstOk N o ∧ gif (guarded ops o σ)
   (bIf (cls o.op) (bD (det P σ m o.op) (fun d => xt P N ops mk K t tg E (put σ o.dst d) m n) (fun d k => xt P N ops mk K t tg ((i, k) :: E) (put σ o.dst d) m n) tg)
    (xop P σ m n o.op (fun d m' n' => (∀ p ∈ E, (mk.getD i 0).testBit p.1 = false → m' p.2 = m p.2) ∧ xt P N ops mk K t tg E (put σ o.dst d) m' n') tg) tg)
   (xt P N ops mk K t tg E (put σ o.dst undefD) m n) tg) tg := (rfl)
theorem xts_nil (ops : Array Oper) (mk : List Nat) (K : (Nat → D) → Mem → Nat → Prop) (u : Tg ops mk K) (E : List (Nat × Nat)) (σ : Nat → D) (m : Mem) (n : Nat) : xts P N ops mk K .nil u E σ m n = True := (rfl)
theorem xts_cons (ops : Array Oper) (mk : List Nat) (K : (Nat → D) → Mem → Nat → Prop) (i : Nat) (t : Tr) (ts : Trs) (u : Tg ops mk K) (E : List (Nat × Nat)) (σ : Nat → D) (m : Mem) (n : Nat) : xts P N ops mk K (.cons i t ts) u E σ m n = (bOp (ops[i]?) (fun o => dstOk N o ∧ gif (guarded ops o σ)
   (bIf (cls o.op) (bD (det P σ m o.op) (fun d => xt P N ops mk K t tg E (put σ o.dst d) m n) (fun d k => xt P N ops mk K t tg ((i, k) :: E) (put σ o.dst d) m n) tg)
    (xop P σ m n o.op (fun d m' n' => (∀ p ∈ E, (mk.getD i 0).testBit p.1 = false → m' p.2 = m p.2) ∧ xt P N ops mk K t tg E (put σ o.dst d) m' n') tg) tg)
   (xt P N ops mk K t tg E (put σ o.dst undefD) m n) tg) tg ∧ xts P N ops mk K ts tg E σ m n) := (rfl)
end
attribute [simp] xt_fin xt_wr xt_rd xts_nil xts_cons
end Go.Proofs.Mv.V
namespace Go.Proofs.Mv.V
variable [GI]
def rets (P : Program) : (l : List ResultVar) → (K : List D → Prop) → Tg K () () → (Nat → D) → Mem → Nat → Prop
 | [], K, _, _, _, _ => K []
 | .tmp t :: r, K, _, σ, m, n => rets P r (fun ds => K (σ t :: ds)) tg σ m n
 | .cell a t :: r, K, _, σ, m, n => b4 (ldD (tagg P t) (tsz P t) (σ a) m n) (fun d _ _ => rets P r (fun ds => K (d :: ds)) tg σ m n) tg
def oneOr : List D → D
 | [d] => d
 | ds => .tup ds
def RetC (P : Program) (l : List ResultVar) (R : D → Mem → Nat → Prop) : APost
 | .normal, σ, m, n | .ret, σ, m, n => rets P l (fun ds => R (oneOr ds) m n) tg σ m n
 | _, _, _, _ => False
section
variable {P : Program} {w : World} {ν : Nu} {F : Nat → Prop} {σ : Nat → D} {m : Mem} {n : Nat}
theorem load_sound {t : TypeId} {x : D} {O : Prop} {d : D} {m' : Mem} {n' : Nat} {v : Value} (hst : St w ν F m n) (hx : Con w ν F x v) (h : ldD (tagg P t) (tsz P t) x m n = some (O, d, m', n')) (hO : O) :
  ∃ y, (do loadVar t (← asAddr v) : Sem Value).run P w = .ok y w ∧ Con w ν F d y := by
 unfold ldD at h
 split at h
 ·rename_i x0 z tg0 cs ha hz
  simp only [Option.some.injEq, Prod.mk.injEq] at h; obtain ⟨rfl, rfl, rfl, rfl⟩ := h
  simp only [Con] at hx
  obtain ⟨b, o, rfl, hF, _, hcs⟩ := hx
  obtain ⟨y, hr, hv⟩ := run_loadVar (w := w) ha hz hcs (by simpa using hO)
  exact ⟨y, by simp only [asAddr, Sem.run_bind, Sem.run_pure, Result.andThen, hr], by simpa using hv⟩
 ·rename_i x0 z tg0 cs ha hz
  simp only [Option.some.injEq, Prod.mk.injEq] at h; obtain ⟨rfl, rfl, rfl, rfl⟩ := h
  simp only [Con] at hx
  obtain ⟨b, o, rfl, hF, _, hcs⟩ := hx
  obtain ⟨y, hr, hv⟩ := run_loadVar (w := w) ha hz hcs (by simpa using hO)
  exact ⟨y, by simp only [asAddr, Sem.run_bind, Sem.run_pure, Result.andThen, hr], by simpa using hv⟩
 ·rename_i x0 b z k g i j ha hz
  split at h
  ·rename_i ob hm
   simp only [Con] at hx
   obtain ⟨l, bb, oo, hl, hg, rfl, hlive⟩ := hx
   obtain ⟨l', arr, el, f, h1, h2, h3, h4, h5, h6, h7⟩ := hst.mem.at_ k ob hm
   rw [hl] at h1; obtain rfl := Option.some.inj h1
   cases b with
   | true =>
    simp only [if_true, Option.some.injEq, Prod.mk.injEq] at h; obtain ⟨rfl, rfl, rfl, rfl⟩ := h
    obtain ⟨hgg, hi, hj⟩ := hO
    obtain ⟨rfl, rfl⟩ := hlive (by omega)
    obtain ⟨_, hcs⟩ := conEs_get h7 i hi
    have hcs' := conCs_drop hcs j
    obtain ⟨y, hr, hv⟩ := run_loadVar (w := w) ha hz hcs' (by simp only [if_true, if_false, Bool.false_eq_true, List.length_drop]; omega)
    refine ⟨y, ?_, by simpa using hv⟩
    simp only [Nat.zero_add, ← h3] at hr
    simp only [asAddr, Sem.run_bind, Sem.run_pure, Result.andThen, hr]
   | false =>
    simp only [Bool.false_eq_true, if_false, Option.some.injEq, Prod.mk.injEq] at h; obtain ⟨rfl, rfl, rfl, rfl⟩ := h
    obtain ⟨hgg, hi, hj⟩ := hO
    obtain ⟨rfl, rfl⟩ := hlive (by omega)
    obtain ⟨_, hcs⟩ := conEs_get h7 i hi
    have hcs' := conCs_drop hcs j
    obtain ⟨y, hr, hv⟩ := run_loadVar (w := w) ha hz hcs' (by simp only [if_true, if_false, Bool.false_eq_true, List.length_drop]; omega)
    refine ⟨y, ?_, by simpa [List.getD_eq_getElem?_getD] using hv⟩
    simp only [Nat.zero_add, ← h3] at hr
    simp only [asAddr, Sem.run_bind, Sem.run_pure, Result.andThen, hr]
  ·cases h
 ·cases h
theorem run_resultsC {fn : Func} {w : World} {ν : Nu} {F : Nat → Prop} {tmps : Array Value} {K : D → Prop} (hst : St w ν F m n) (hc : ∀ i, Con w ν F (σ i) (tmps.getD i undef)) (h : rets P fn.results.toList (fun ds => K (oneOr ds)) tg σ m n) :
  ∃ v d, (results fn tmps).run P w = .ok v w ∧ Con w ν F d v ∧ K d := by
 have hres : results fn tmps = (do
  let vs ← (fn.results.mapM fun | .tmp t => pure (tmps.getD t undef) | .cell a t => do loadVar t (← asAddr (tmps.getD a undef)) : Sem (Array Value))
  pure (if h : vs.size = 1 then vs[0] else .tuple vs)) := rfl
 rw [hres]
 have key : ∀ (l : List ResultVar) (K : List D → Prop) (u : Tg K () ()), rets P l K u σ m n → ∃ (vs : List Value) (ds : List D), 
   ((l.mapM fun | .tmp t => pure (tmps.getD t undef) | .cell a t => do loadVar t (← asAddr (tmps.getD a undef)) : Sem (List Value))).run P w = .ok vs w ∧ ConVs w ν F ds vs ∧ K ds := by
  intro l
  induction l with
  | nil => intro K u h; exact ⟨[], [], by simp [Sem.run_pure], by simp [ConVs], h⟩
  | cons x r ih =>
   intro K u h
   cases x with
   | tmp t =>
    simp only [rets] at h
    obtain ⟨vs, ds, h1, h2, h3⟩ := ih _ _ h
    refine ⟨tmps.getD t undef :: vs, σ t :: ds, ?_, by simp only [ConVs]; exact ⟨_, _, rfl, hc t, h2⟩, h3⟩
    simp only [List.mapM_cons, Sem.run_bind, Sem.run_pure, Result.andThen]
    rw [h1]
   | cell a t =>
    simp only [rets] at h
    unfold b4 at h
    split at h
    ·rename_i O d m' n' he
     obtain ⟨vs, ds, h1, h2, h3⟩ := ih _ _ h.2
     obtain ⟨y, g1, g2⟩ := load_sound (P := P) hst (hc a) he h.1
     refine ⟨y :: vs, d :: ds, ?_, by simp only [ConVs]; exact ⟨_, _, rfl, g2, h2⟩, h3⟩
     rw [List.mapM_cons, Sem.run_bind]
     show (Result.andThen ((do loadVar t (← asAddr (tmps.getD a undef)) : Sem Value).run P w) _) = _
     rw [g1]
     simp only [Result.andThen, Sem.run_bind, Sem.run_pure]
     rw [h1]
    ·exact h.elim
 obtain ⟨vs, ds, h1, h2, h3⟩ := key _ _ _ h
 have harr : ((fn.results.mapM fun | .tmp t => pure (tmps.getD t undef) | .cell a t => do loadVar t (← asAddr (tmps.getD a undef)) : Sem (Array Value))).run P w = .ok vs.toArray w := by
  rw [← Array.toList_mapM] at h1
  cases hm : ((fn.results.mapM fun | .tmp t => pure (tmps.getD t undef) | .cell a t => do loadVar t (← asAddr (tmps.getD a undef)) : Sem (Array Value))).run P w with
  | halt h' w' => rw [map_eq_pure_bind, Sem.run_bind] at h1; simp only [hm, Result.andThen] at h1; cases h1
  | ok x w' =>
   rw [map_eq_pure_bind, Sem.run_bind] at h1
   simp only [hm, Result.andThen, Sem.run_pure, Result.ok.injEq] at h1
   obtain ⟨e1, e2⟩ := h1
   subst e2
   rw [← e1]
 refine ⟨_, oneOr ds, by rw [Sem.run_bind, harr]; simp only [Result.andThen, Sem.run_pure]; rfl, ?_, h3⟩
 have hlen := conVs_length h2
 match ds, vs, h2, hlen with
 | [], [], h2, _ => simp [oneOr, Con, ConVs]
 | [d], [y], h2, _ =>
  simp only [ConVs] at h2
  obtain ⟨y', r, e, hd, hr⟩ := h2
  simp only [List.cons.injEq] at e
  rw [e.1]
  simpa [oneOr] using hd
 | d :: d' :: ds, y :: y' :: vs, h2, _ =>
  simp only [oneOr, Con]
  refine ⟨(y :: y' :: vs).toArray, ?_, by simpa using h2⟩
  rw [dif_neg (by simp)]
theorem acalls_ofC {f : FuncId} {fn : Func} {c : Code} {args : List D} {R : D → Mem → Nat → Prop} (hf : P.funcs[f]? = some fn) (hname : (fn.name == "runtime.NumGoroutine") = false)
  (hb : fn.body = some c) (hN : args.length ≤ fn.ntmps) (h : AWP P fn.ntmps c (RetC P fn.results.toList R) (initσ args) m n) : ACalls P f args m n R := by
 refine acalls_body hf hname hb hN h fun e σ m n hq => ?_
 cases e with
 | normal => exact ⟨.inl rfl, fun w ν F tmps hst hc => run_resultsC (P := P) (K := fun d => R d m n) hst hc hq⟩
 | ret => exact ⟨.inr rfl, fun w ν F tmps hst hc => run_resultsC (P := P) (K := fun d => R d m n) hst hc hq⟩
 | _ => exact hq.elim
theorem acalls_vcC (G : List Nat) {f : FuncId} {fn : Func} {c : Code} {args : List D} {l : List ResultVar} {R : D → Mem → Nat → Prop} {N : Nat} (hf : P.funcs[f]? = some fn) (hn : fn.ntmps = N) (hname : (fn.name == "runtime.NumGoroutine") = false)
  (hb : fn.body = some c) (hr : fn.results.toList = l) (hN : args.length ≤ N) (h : vc P N G c (RetC P l R) tg (initσ args) m n) : ACalls P f args m n R := by
 subst hn; subst hr
 exact acalls_ofC hf hname hb hN (vc_sound _ _ _ _ _ _ h)
theorem retC_ret (l : List ResultVar) (R : D → Mem → Nat → Prop) : RetC P l R .ret σ m n = rets P l (fun ds => R (oneOr ds) m n) tg σ m n := (rfl)
theorem retC_normal (l : List ResultVar) (R : D → Mem → Nat → Prop) : RetC P l R .normal σ m n = rets P l (fun ds => R (oneOr ds) m n) tg σ m n := (rfl)
theorem rets_nil (K : List D → Prop) (u : Tg K () ()) : rets P [] K u σ m n = K [] := (rfl)
theorem rets_tmp (t : Tmp) (r : List ResultVar) (K : List D → Prop) (u : Tg K () ()) : rets P (.tmp t :: r) K u σ m n = rets P r (fun ds => K (σ t :: ds)) tg σ m n := (rfl)
theorem rets_cell (a : Tmp) (t : TypeId) (r : List ResultVar) (K : List D → Prop) (u : Tg K () ()) : rets P (.cell a t :: r) K u σ m n = b4 (ldD (tagg P t) (tsz P t) (σ a) m n) (fun d _ _ => rets P r (fun ds => K (d :: ds)) tg σ m n) tg := (rfl)
theorem oneOr_one (d : D) : oneOr [d] = d := rfl
theorem oneOr_two (d d' : D) (ds : List D) : oneOr (d :: d' :: ds) = .tup (d :: d' :: ds) := rfl
theorem oneOr_nil : oneOr [] = .tup [] := rfl
end
attribute [simp] retC_ret retC_normal rets_nil rets_tmp rets_cell oneOr_one oneOr_two oneOr_nil
end Go.Proofs.Mv.V
namespace Go.Proofs.Mv.V
variable [GI]

def Mem.del (m : Mem) (k : Nat) : Mem := fun j => if j = k then none else m j
def Mem.one (k : Nat) (o : Obj) : Mem := fun j => if j = k then some o else none
@[simp] theorem del_same (m : Mem) (k : Nat) : m.del k k = none := by simp [Mem.del]
@[simp] theorem one_same (k : Nat) (o : Obj) : Mem.one k o k = some o := by simp [Mem.one]

section
variable {P : Program} {m : Mem} {n : Nat}
theorem acalls_le {f : FuncId} {args args' : List D} {R : D → Mem → Nat → Prop} (hl : LeL args args') (h : ACalls P f args' m n R) : ACalls P f args m n R :=
 ⟨h.1, fun w ν F vals hst hv => h.2 w ν F vals hst (hl.vs _ _ _ _ hv)⟩
theorem aCall_le {f : FuncId} {args args' : List D} {K : D → Mem → Nat → Prop} {u : Tg K () ()} (hl : LeL args args') (h : aCall P f args' m n K u) : aCall P f args m n K u := acalls_le hl h
end
end Go.Proofs.Mv.V
namespace Go.Proofs.Mv.V
variable [GI]
open Go.ChangeShapes Go.WideShapes Go.ChangeAt Go.RowKit

def F0 (W : World) : Nat → Prop := fun b => b < W.heap.size
def nu0 : Nu := fun _ => none
def mem0 : Mem := fun _ => none
theorem st0 (W : World) (hg : GI.inv W (F0 W)) : St W nu0 (F0 W) mem0 0 :=
 ⟨⟨fun _ h => h, fun _ _ _ _ _ _ h => (by cases h), fun _ _ h => (by cases h)⟩, fun _ _ => ⟨rfl, rfl⟩, hg⟩
theorem ext_frame {W W' : World} {ν' : Nu} {F' : Nat → Prop} (h : Ext W nu0 (F0 W) W' ν' F') (may : MemPlace → Prop) : W.keptBut W' may := by
 refine ⟨h.io.1, h.io.2, fun i hi => ?_⟩
 rw [(h.fz i hi).2]
 split <;> simp_all
theorem ext_same {W W' : World} {ν' : Nu} {F' : Nat → Prop} (h : Ext W nu0 (F0 W) W' ν' F') {p : MemPlace} (hp : p.block < W.heap.size) : W.sameAt W' p := by
 cases p with
 | cell b o => exact World.cell?_of_block (w := W) (h.fz b hp).2
 | map b => exact (h.fz b hp).2
theorem ext_trod {H : Type} {enc : TypeId × Value → H} {P : Program} {t : TypeId} (hl : laidOutB P = true) (hr : P.readableRec t = true) (hrow : t < P.types.size) {W W' : World} {v : Value} {d : DataW H} {ps : List MemPlace} {ν' : Nu} {F' : Nat → Prop}
  (h : DataW.Trod enc P W 0 (fun _ => true) true t v d ps) (hb : Ext W nu0 (F0 W) W' ν' F') (hlt : ∀ x ∈ ps, x.block < W.heap.size) :
  DataW.Trod enc P W' 0 (fun b => decide (b < W.heap.size)) true t v d ps :=
 WideElems.Trod_stays hl hr hrow h (fun x hx => ext_same hb (hlt x hx)) (fun x hx => by simpa using hlt x hx)

end Go.Proofs.Mv.V
namespace Go.Proofs.Mv.V
variable [GI]
open Go.ChangeShapes Go.WideShapes Go.ChangeAt Go.RowKit
theorem trodAll_ext {H : Type} {enc : TypeId × Value → H} {P : Program} {W W' : World} {ν' : Nu} {F' : Nat → Prop} (hl : laidOutB P = true) (h : Ext W nu0 (F0 W) W' ν' F') :
  ∀ (ts : List TypeId) (vs : List Value) (ds : List (DataW H)) (ps : List MemPlace), (∀ t ∈ ts, P.readableRec t = true ∧ t < P.types.size) → (∀ x ∈ ps, x.block < W.heap.size) →
   DataW.TrodAll enc P W 0 (fun _ => true) true ts vs ds ps → DataW.TrodAll enc P W' 0 (fun b => decide (b < W.heap.size)) true ts vs ds ps
 | [], vs, ds, ps, _, _, h1 => by
  obtain ⟨rfl, rfl, rfl⟩ := trodAll_nil h1
  rfl
 | t :: ts, vs, ds, ps, ht, hp, h1 => by
  obtain ⟨v, vs1, d, ds1, a, b, rfl, rfl, rfl, h2, h3⟩ := trodAll_cons h1
  refine ⟨a, b, ext_trod hl (ht t (by simp)).1 (ht t (by simp)).2 h2 h (fun x hx => hp x (by simp [hx])), trodAll_ext hl h ts vs1 ds1 b (fun u hu => ht u (by simp [hu])) (fun x hx => hp x (by simp [hx])) h3, rfl⟩
theorem law_post {H : Type} {enc : TypeId × Value → H} {P : Program} {f : Func} {s : ChangeSpec} {W W' : World} {args : Array Value} {ds : List (DataW H)} {ps : List MemPlace} {ν' : Nu} {F' : Nat → Prop} {tb : TypeId}
  (hl : laidOutB P = true) (ht : f.params.toList.all (fun t => P.readableRec t && decide (t < P.types.size)) = true) (hr : f.resultTypes = #[tb]) (hb : P.underlying tb = some .bool) (hv : s.vars = [])
  (hW : DataW.Whole enc P f.params.toList s.vars false W args.toList ds [] ps) (hfn : s.fn H (ds ++ []) = { results := [.lit (.bool true)], args := ds })
  (h : Ext W nu0 (F0 W) W' ν' F') : s.post enc P f false true false false W args (.bool true) W' := by
 have hlt := hW.lt
 have hW' := hW
 obtain ⟨p, q, hA, hV, rfl, hz, hn⟩ := hW
 rw [hv] at hV
 obtain ⟨_, rfl⟩ := trodVars_none hV
 have ht' : ∀ t ∈ f.params.toList, P.readableRec t = true ∧ t < P.types.size := by
  intro t h1
  have := List.all_eq_true.1 ht t h1
  simpa using this
 refine ⟨ds, [], _, [], p, [], hW', ?_, ?_, ?_, ?_, fun h => by cases h⟩
 ·rw [hfn, hr]
  exact trodAll_mk1 (shut_bool hb _)
 ·rw [hfn]
  exact trodAll_ext hl h _ _ _ _ ht' (fun x hx => hlt x (by simp [hx])) hA
 ·rw [hfn, hv]
  rfl
 ·refine World.keptBut_mono (fun p hp => ?_) (ext_frame h (fun _ => False))
  exact hp.elim
theorem calls_law {P : Program} {f : FuncId} {ds : List D} {args : Array Value} {W : World} (h : ACalls P f ds mem0 0 (fun d m' n' => d = .v (.bool true) ∧ m' = mem0 ∧ n' = 0)) (ha : ConVs W nu0 (F0 W) ds args.toList) (hg : GI.inv W (F0 W)) :
  Calls P f args W fun e W' => e = .returned (.bool true) ∧ ∃ ν' F', Ext W nu0 (F0 W) W' ν' F' := by
 refine Calls.mono (h.2 W nu0 (F0 W) args (st0 W hg) ha) ?_
 rintro e W' ⟨v, rfl, ν', F', d, m', n', h1, h2, h3, rfl, rfl, rfl⟩
 simp only [Con] at h3
 subst h3
 exact ⟨rfl, ν', F', h1⟩
theorem conVs1 {W : World} {ν : Nu} {F : Nat → Prop} {a : D} {x : Value} (h : Con W ν F a x) : ConVs W ν F [a] [x] := by
 simp only [ConVs]; exact ⟨_, _, rfl, h, rfl⟩
end Go.Proofs.Mv.V
