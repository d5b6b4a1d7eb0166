/- A part of the proofs: machine, contracts, laws. No condition of its own. -/
import Derived.Test.YtihbegkefjjhpaaGreatDoorP08
import Derived.Test.YtihbegkefjjhpaaGreatDoorP12
import Derived.Test.YtihbegkefjjhpaaGreatDoorP10
import Derived.Test.YtihbegkefjjhpaaGreatDoorMvD
import Derived.Test.YtihbegkefjjhpaaGreatDoorMvPc
set_option linter.unusedSimpArgs false
set_option linter.unusedVariables false
set_option linter.unusedSectionVars false
open Go Go.Proofs Go.Proofs.Mv.V
set_option maxRecDepth 10000
namespace Go.Proofs.Mv.App
abbrev Brc := List UInt8 × List UInt8 × Tm
def insR (x : Brc) : List Brc → List Brc
 | [] => [x]
 | y :: r => if ltB x.1 y.1 then x :: y :: r else y :: insR x r
def sortR : List Brc → List Brc
 | [] => []
 | x :: r => insR x (sortR r)
def caseR (t : Tm) (l : List Brc) : Tm := .mk 12 0 [] [] (l.map (·.1)) (l.map (·.2.1)) [] (t :: l.map (·.2.2))
section
variable (l : List Tok) (dg : List UInt8 → Int) (rec : PS → Option (Tm × PS))
def brhO (names : List (List UInt8)) (p : PS) : List UInt8 × List UInt8 × PS :=
 let n := freshT 2 tagN names l p
 let v := namedT 1 nameN l (mustT 4 [40] l n.2)
 (n.1, v.1, mustT 4 [45, 62] l (mustT 4 [41] l v.2))
def brsO : Nat → List Brc → PS → Option (List Brc × PS)
 | 0, _, _ => none
 | f + 1, acc, p => match rec (brhO l (acc.map (·.1)) p).2.2 with
  | none => none
  | some (t, q) =>
   let acc' := acc ++ [((brhO l (acc.map (·.1)) p).1, (brhO l (acc.map (·.1)) p).2.1, t)]
   if q.bad = 0 then (if isT 1 wEnd l q then some (acc', stepF q) else brsO f acc' q) else some (acc', q)
def casO (f : Nat) (p : PS) : Option (Tm × PS) := match rec p with
 | none => none
 | some (t, q) => if (mustT 1 wOf l q).bad = 0 then (brsO l rec f [] (mustT 1 wOf l q)).map fun r => (caseR t (sortR r.1), r.2) else some (caseR t [], mustT 1 wOf l q)
end
def termX (l : List Tok) (dg : List UInt8 → Int) : Nat → Nat → PS → Option (Tm × PS)
 | 0, _, _ => none
 | f + 1, dp, p =>
  if begB dg (kindC l p) (curT l p) then
   (if 2000 ≤ dp then some (Tm0, failS 3 p)
    else if kindC l p = 1 ∧ curT l p = wFn then funO l (termX l dg f (dp + 1)) f (stepF p)
    else if kindC l p = 1 ∧ curT l p = wIf then choO l (termX l dg f (dp + 1)) (stepF p)
    else if kindC l p = 1 ∧ curT l p = wCase then casO l (termX l dg f (dp + 1)) f (stepF p)
    else match priO l dg (termX l dg f (dp + 1)) f p with
     | none => none
     | some (t, q) => behO l (termX l dg f (dp + 1)) f f t q)
  else some (Tm0, failS 2 p)
/-! How many tokens are left. -/
def rem (l : List Tok) (p : PS) : Nat := if p.bad = 0 then l.length - p.at_ else 0
section
variable {l : List Tok}
theorem rem_bad {p : PS} (h : p.bad ≠ 0) : rem l p = 0 := by simp [rem, h]
theorem rem_fail (c : Nat) (p : PS) (hc : c ≠ 0) : rem l (failS c p) = 0 := by
 unfold failS
 split
 ·exact rem_bad hc
 ·rename_i h; exact rem_bad h
theorem rem_step_le (p : PS) : rem l (stepF p) ≤ rem l p := by
 unfold rem stepF
 simp only
 split <;> omega
theorem kF_cur {kd : Int} {ok : List UInt8 → Bool} {p : PS} (h : kF kd ok l p = true) : p.bad = 0 ∧ p.at_ < l.length := by
 unfold kF at h
 cases hc : cur l p with
 | none => rw [hc] at h; cases h
 | some t =>
  have := cur_some hc
  exact ⟨this.1, this.2.1⟩
theorem rem_step {p : PS} (h : p.bad = 0 ∧ p.at_ < l.length) : rem l (stepF p) + 1 ≤ rem l p := by
 unfold rem stepF
 simp only [h.1, if_true]
 omega
theorem rem_must (kd : Int) (s : List UInt8) (p : PS) : rem l (mustT kd s l p) ≤ rem l p := by
 unfold mustT
 split
 ·exact rem_step_le p
 ·rw [rem_fail 2 p (by omega)]; omega
theorem must_ok {kd : Int} {s : List UInt8} {p : PS} (h : (mustT kd s l p).bad = 0) : rem l (mustT kd s l p) + 1 ≤ rem l p := by
 unfold mustT at h ⊢
 by_cases hi : isT kd s l p = true
 ·rw [if_pos hi]; exact rem_step (kF_cur hi)
 ·rw [if_neg hi] at h
  unfold failS at h
  split at h
  ·simp at h
  ·rename_i hb; exact absurd h hb
theorem rem_take (f : Bool) (p : PS) : rem l (takeF f l p).2 ≤ rem l p := by
 unfold takeF
 split
 ·exact rem_step_le p
 ·simp only; rw [rem_fail 2 p (by omega)]; omega
theorem rem_named (kd : Int) (ok : List UInt8 → Bool) (p : PS) : rem l (namedT kd ok l p).2 ≤ rem l p := rem_take _ _
theorem rem_fresh (kd : Int) (ok : List UInt8 → Bool) (ns : List (List UInt8)) (p : PS) : rem l (freshT kd ok ns l p).2 ≤ rem l p := by
 unfold freshT
 refine Nat.le_trans (rem_named _ _ _) ?_
 split
 ·rw [rem_fail 5 p (by omega)]; omega
 ·exact Nat.le_refl _
/-! Types go on. -/
def Fwd (rec : PS → Ty × PS) : Prop := ∀ p, p.at_ ≤ (rec p).2.at_
theorem at_failF (c : Nat) (p : PS) : (failF c p).at_ = p.at_ := by unfold failF; split <;> rfl
theorem at_mustF (s : List UInt8) (p : PS) : p.at_ ≤ (mustF s l p).at_ := by
 unfold mustF
 split
 ·simp [stepF]
 ·rw [at_failF]; exact Nat.le_refl _
theorem at_nameF (g : Bool) (p : PS) : p.at_ ≤ (nameF g l p).2.at_ := by
 unfold nameF
 split
 ·simp [stepF]
 ·simp only; rw [at_failF]; exact Nat.le_refl _
theorem at_numF (p : PS) : p.at_ ≤ (numF l p).2.at_ := by
 unfold numF
 split
 ·simp [stepF]
 ·simp only; rw [at_failF]; exact Nat.le_refl _
theorem at_subF {rec : PS → Ty × PS} (h : Fwd rec) (n : Nat) (p : PS) : p.at_ ≤ (subF l rec n p).2.at_ := by
 unfold subF
 split
 ·simp only; rw [at_failF]; exact Nat.le_refl _
 ·exact h p
theorem at_namedF {rec : PS → Ty × PS} (h : Fwd rec) (g : Bool) (en : List UInt8) : ∀ (r : Nat) (ps : List Nm) (p : PS), p.at_ ≤ (namedF l g en rec r ps p).2.at_
 | 0, ps, p => by simp only [namedF]; exact Nat.le_refl _
 | r + 1, ps, p => by
  have h1 := at_mustF (l := l) [58] (stepF p)
  have h2 := h (mustF [58] l (stepF p))
  have h0 : p.at_ ≤ (stepF p).at_ := by simp [stepF]
  unfold namedF
  split
  ·exact Nat.le_refl _
  split
  ·simp only; rw [at_failF]; exact Nat.le_refl _
  split
  ·simp only; rw [at_failF]; exact Nat.le_refl _
  split
  ·simp only; rw [at_failF]; exact Nat.le_refl _
  simp only
  split
  ·simp only [stepF]; simp only [stepF] at h1 h2 h0; omega
  ·have h3 := at_namedF h g en r (ps ++ [(curT l p, (rec (mustF [58] l (stepF p))).1)]) (mustF [44] l (rec (mustF [58] l (stepF p))).2)
   have h4 := at_mustF (l := l) [44] (rec (mustF [58] l (stepF p))).2
   omega
theorem at_funF {rec : PS → Ty × PS} (h : Fwd rec) : ∀ (r : Nat) (ts : List Ty) (p : PS), p.at_ ≤ (funF l rec r ts p).2.at_
 | 0, ts, p => by simp only [funF]; exact Nat.le_refl _
 | r + 1, ts, p => by
  have h1 := at_subF (l := l) h ts.length p
  unfold funF
  split
  ·exact Nat.le_refl _
  simp only
  split
  ·simp only [stepF]; omega
  ·have h3 := at_funF h r (ts ++ [(subF l rec ts.length p).1]) (mustF [44] l (subF l rec ts.length p).2)
   have h4 := at_mustF (l := l) [44] (subF l rec ts.length p).2
   omega
theorem at_bodyF {rec : PS → Ty × PS} (h : Fwd rec) (t : Tok) (p : PS) : p.at_ ≤ (bodyF l t rec p).2.at_ := by
 unfold bodyF
 split
 ·have h1 := at_mustF (l := l) [46] p
  have h2 := at_nameF (l := l) true (mustF [46] l p)
  simp only; omega
 split
 ·unfold listF
  have h1 := at_mustF (l := l) [40] p
  have h2 := h (mustF [40] l p)
  have h3 := at_mustF (l := l) [41] (rec (mustF [40] l p)).2
  simp only; omega
 have hp : ∀ g, p.at_ ≤ (partsF l g rec p).2.at_ := fun g => by
  unfold partsF
  simp only
  split
  ·simp [stepF]
  ·exact at_namedF h g _ 22 [] p
 split
 ·exact hp false
 split
 ·exact hp true
 split
 ·unfold funcF
  simp only
  have h1 : p.at_ ≤ (if isSig [41] l p then (([] : List Ty), stepF p) else funF l rec 22 [] p).2.at_ := by
   split
   ·simp [stepF]
   ·exact at_funF h 22 [] p
  generalize (if isSig [41] l p then (([] : List Ty), stepF p) else funF l rec 22 [] p) = a at h1 ⊢
  have h2 := at_mustF (l := l) [45, 62] a.2
  have h3 := at_subF (l := l) h a.1.length (mustF [45, 62] l a.2)
  omega
 split
 ·unfold openF
  have h1 := at_nameF (l := l) false p
  have h2 := at_numF (l := l) (nameF false l p).2
  have h3 := at_nameF (l := l) false (numF l (nameF false l p).2).2
  have h4 := at_nameF (l := l) true (nameF false l (numF l (nameF false l p).2).2).2
  have h5 := at_mustF (l := l) [62] (nameF true l (nameF false l (numF l (nameF false l p).2).2).2).2
  simp only; omega
 split
 ·exact Nat.le_refl _
 ·exact Nat.le_refl _
theorem at_typF : ∀ k : Nat, Fwd (typF l k)
 | 0 => fun p => by
  simp only [typF]
  split <;> (simp only; rw [at_failF]; exact Nat.le_refl _)
 | k + 1 => fun p => by
  simp only [typF]
  split
  ·simp only; rw [at_failF]; exact Nat.le_refl _
  split
  ·simp only; rw [at_failF]; exact Nat.le_refl _
  split
  ·simp only; rw [at_failF]; exact Nat.le_refl _
  ·rename_i t _ _ _
   have := at_bodyF (l := l) (at_typF k) t ⟨p.at_ + 1, p.cnt + 1, p.bad⟩
   simp only at this; omega
theorem rem_typ (p : PS) : rem l (typS l p).2 ≤ rem l p := by
 unfold typS
 by_cases hb : p.bad = 0
 ·rw [if_pos hb]
  cases ha : (atF l (p.at_ : Int)).2.2 with
  | some x =>
   obtain ⟨a, c⟩ := x
   simp only
   have hc : c ≠ 0 := by
    unfold atF at ha
    split at ha
    ·simp at ha; omega
    split at ha
    ·rename_i h; simp at ha; rw [← ha.2]; exact h
    ·cases ha
   rw [rem_bad (by simpa using hc)]; omega
  | none =>
   have hn : p.at_ ≤ (atF l (p.at_ : Int)).2.1 := by
    unfold atF at ha ⊢
    split at ha
    ·cases ha
    rename_i h1
    rw [if_neg h1]
    split at ha
    ·cases ha
    rename_i h2
    rw [if_neg h2]
    have := at_typF (l := l) 32 ⟨p.at_, 0, 0⟩
    simpa using this
   simp only [rem, hb, if_true]
   omega
 ·rw [if_neg hb]; exact Nat.le_refl _
/-! All of it comes to an end. -/
def Ends (l : List Tok) (rec : PS → Option (Tm × PS)) (R : Nat) : Prop := ∀ p, rem l p ≤ R → ∃ t q, rec p = some (t, q) ∧ rem l q ≤ rem l p
theorem Ends.mono {rec : PS → Option (Tm × PS)} {R R' : Nat} (h : Ends l rec R) (hr : R' ≤ R) : Ends l rec R' := fun p hp => h p (by omega)
theorem sever_ends {rec : PS → Option (Tm × PS)} {R : Nat} (h : Ends l rec R) (en : List UInt8) : ∀ (f : Nat) (acc : List Tm) (p : PS), rem l p ≤ R → rem l p + 1 ≤ f → ∃ ts q, severO l rec en f acc p = some (ts, q) ∧ rem l q ≤ rem l p
 | 0, acc, p, _, hf => by omega
 | f + 1, acc, p, hp, hf => by
  obtain ⟨t, q, h1, h2⟩ := h p hp
  unfold severO
  rw [h1]
  simp only
  have hs := rem_step_le (l := l) q
  by_cases hi : isT 4 en l q = true
  ·rw [if_pos hi]
   exact ⟨_, _, rfl, by omega⟩
  ·rw [if_neg hi]
   by_cases hb : (mustT 4 [44] l q).bad = 0
   ·rw [if_pos hb]
    have hm := must_ok hb
    obtain ⟨ts, q2, h3, h4⟩ := sever_ends h en f (acc ++ [t]) (mustT 4 [44] l q) (by omega) (by omega)
    exact ⟨ts, q2, h3, by omega⟩
   ·rw [if_neg hb]
    have hm := rem_must (l := l) 4 [44] q
    exact ⟨_, _, rfl, by omega⟩
theorem sev_ends {rec : PS → Option (Tm × PS)} {R : Nat} (h : Ends l rec R) (en : List UInt8) (non : Bool) {f : Nat} {p : PS} (hp : rem l p ≤ R) (hf : rem l p + 1 ≤ f) : ∃ ts q, sevO l rec f en non p = some (ts, q) ∧ rem l q ≤ rem l p := by
 unfold sevO
 split
 ·split
  ·exact ⟨_, _, rfl, rem_step_le p⟩
  ·exact sever_ends h en f [] p hp hf
 ·exact ⟨_, _, rfl, Nat.le_refl _⟩
theorem flds_ends {rec : PS → Option (Tm × PS)} {R : Nat} (h : Ends l rec R) : ∀ (f : Nat) (acc : List Bnd) (p : PS), rem l p ≤ R → rem l p + 1 ≤ f → ∃ ts q, fldsO l rec f acc p = some (ts, q) ∧ rem l q ≤ rem l p
 | 0, acc, p, _, hf => by omega
 | f + 1, acc, p, hp, hf => by
  have k1 := rem_fresh (l := l) 1 nameN (acc.map (·.1)) p
  have k2 := rem_must (l := l) 4 [61] (freshT 1 nameN (acc.map (·.1)) l p).2
  obtain ⟨t, q, h1, h2⟩ := h (mustT 4 [61] l (freshT 1 nameN (acc.map (·.1)) l p).2) (by omega)
  unfold fldsO
  rw [h1]
  simp only
  have hs := rem_step_le (l := l) q
  by_cases hi : isT 4 [125] l q = true
  ·rw [if_pos hi]
   exact ⟨_, _, rfl, by omega⟩
  ·rw [if_neg hi]
   by_cases hb : (mustT 4 [44] l q).bad = 0
   ·rw [if_pos hb]
    have hm := must_ok hb
    obtain ⟨ts, q2, h3, h4⟩ := flds_ends h f (acc ++ [((freshT 1 nameN (acc.map (·.1)) l p).1, t)]) (mustT 4 [44] l q) (by omega) (by omega)
    exact ⟨ts, q2, h3, by omega⟩
   ·rw [if_neg hb]
    have hm := rem_must (l := l) 4 [44] q
    exact ⟨_, _, rfl, by omega⟩
theorem fields_ends {rec : PS → Option (Tm × PS)} {R : Nat} (h : Ends l rec R) {f : Nat} {p : PS} (hp : rem l p ≤ R) (hf : rem l p + 1 ≤ f) : ∃ t q, fieldsO l rec f p = some (t, q) ∧ rem l q ≤ rem l p := by
 unfold fieldsO
 split
 ·split
  ·exact ⟨_, _, rfl, rem_step_le p⟩
  ·obtain ⟨ts, q, h1, h2⟩ := flds_ends h f [] p hp hf
   rw [h1]
   exact ⟨_, _, rfl, h2⟩
 ·exact ⟨_, _, rfl, Nat.le_refl _⟩
theorem pars_ends : ∀ (f : Nat) (ns : List (List UInt8)) (ys : List Ty) (p : PS), rem l p + 1 ≤ f → ∃ ns' ys' q, parsO l f ns ys p = some (ns', ys', q) ∧ rem l q ≤ rem l p
 | 0, ns, ys, p, hf => by omega
 | f + 1, ns, ys, p, hf => by
  have k1 := rem_fresh (l := l) 1 nameN ns p
  have k2 := rem_must (l := l) 4 [58] (freshT 1 nameN ns l p).2
  have k3 := rem_typ (l := l) (mustT 4 [58] l (freshT 1 nameN ns l p).2)
  unfold parsO
  simp only
  generalize typS l (mustT 4 [58] l (freshT 1 nameN ns l p).2) = y at k3 ⊢
  have hs := rem_step_le (l := l) y.2
  by_cases hi : isT 4 [41] l y.2 = true
  ·rw [if_pos hi]
   exact ⟨_, _, _, rfl, by omega⟩
  ·rw [if_neg hi]
   by_cases hb : (mustT 4 [44] l y.2).bad = 0
   ·rw [if_pos hb]
    have hm := must_ok hb
    obtain ⟨a, b, q2, h3, h4⟩ := pars_ends f (ns ++ [(freshT 1 nameN ns l p).1]) (ys ++ [y.1]) (mustT 4 [44] l y.2) (by omega)
    exact ⟨a, b, q2, h3, by omega⟩
   ·rw [if_neg hb]
    have hm := rem_must (l := l) 4 [44] y.2
    exact ⟨_, _, _, rfl, by omega⟩
theorem fun_ends {rec : PS → Option (Tm × PS)} {R : Nat} (h : Ends l rec R) {f : Nat} {p : PS} (hp : rem l p ≤ R) (hf : rem l p + 1 ≤ f) : ∃ t q, funO l rec f p = some (t, q) ∧ rem l q ≤ rem l p := by
 have k1 := rem_must (l := l) 4 [40] p
 have hpar : ∃ ns ys q, parO l f (mustT 4 [40] l p) = some (ns, ys, q) ∧ rem l q ≤ rem l p := by
  unfold parO
  split
  ·split
   ·have := rem_step_le (l := l) (mustT 4 [40] l p)
    exact ⟨_, _, _, rfl, by omega⟩
   ·obtain ⟨a, b, q, h3, h4⟩ := pars_ends (l := l) f [] [] (mustT 4 [40] l p) (by omega)
    exact ⟨a, b, q, h3, by omega⟩
  ·exact ⟨_, _, _, rfl, by omega⟩
 obtain ⟨ns, ys, q, h1, h2⟩ := hpar
 obtain ⟨t, q2, h3, h4⟩ := h q (by omega)
 unfold funO
 rw [h1]
 simp only
 rw [h3]
 exact ⟨_, _, rfl, by omega⟩
theorem cho_ends {rec : PS → Option (Tm × PS)} {R : Nat} (h : Ends l rec R) {p : PS} (hp : rem l p ≤ R) : ∃ t q, choO l rec p = some (t, q) ∧ rem l q ≤ rem l p := by
 obtain ⟨a, p1, h1, g1⟩ := h p hp
 have k1 := rem_must (l := l) 1 wThen p1
 obtain ⟨b, p2, h2, g2⟩ := h (mustT 1 wThen l p1) (by omega)
 have k2 := rem_must (l := l) 1 wElse p2
 obtain ⟨c, p3, h3, g3⟩ := h (mustT 1 wElse l p2) (by omega)
 unfold choO
 rw [h1]
 simp only
 rw [h2]
 simp only
 rw [h3]
 exact ⟨_, _, rfl, by omega⟩
theorem brh_rem (ns : List (List UInt8)) (p : PS) : rem l (brhO l ns p).2.2 ≤ rem l p := by
 unfold brhO
 simp only
 have k1 := rem_fresh (l := l) 2 tagN ns p
 have k2 := rem_must (l := l) 4 [40] (freshT 2 tagN ns l p).2
 have k3 := rem_named (l := l) 1 nameN (mustT 4 [40] l (freshT 2 tagN ns l p).2)
 have k4 := rem_must (l := l) 4 [41] (namedT 1 nameN l (mustT 4 [40] l (freshT 2 tagN ns l p).2)).2
 have k5 := rem_must (l := l) 4 [45, 62] (mustT 4 [41] l (namedT 1 nameN l (mustT 4 [40] l (freshT 2 tagN ns l p).2)).2)
 omega
theorem brh_ok {ns : List (List UInt8)} {p : PS} (h : (brhO l ns p).2.2.bad = 0) : rem l (brhO l ns p).2.2 + 1 ≤ rem l p := by
 unfold brhO at h ⊢
 simp only at h ⊢
 have k1 := rem_fresh (l := l) 2 tagN ns p
 have k2 := rem_must (l := l) 4 [40] (freshT 2 tagN ns l p).2
 have k3 := rem_named (l := l) 1 nameN (mustT 4 [40] l (freshT 2 tagN ns l p).2)
 have k4 := rem_must (l := l) 4 [41] (namedT 1 nameN l (mustT 4 [40] l (freshT 2 tagN ns l p).2)).2
 have k5 := must_ok h
 omega
theorem brs_ends {rec : PS → Option (Tm × PS)} {R : Nat} (h : Ends l rec R) (hbad : ∀ p t q, rec p = some (t, q) → q.bad = 0 → p.bad = 0) : ∀ (f : Nat) (acc : List Brc) (p : PS), rem l p ≤ R → rem l p + 1 ≤ f → ∃ ts q, brsO l rec f acc p = some (ts, q) ∧ rem l q ≤ rem l p
 | 0, acc, p, _, hf => by omega
 | f + 1, acc, p, hp, hf => by
  have k1 := brh_rem (l := l) (acc.map (·.1)) p
  obtain ⟨t, q, h1, h2⟩ := h (brhO l (acc.map (·.1)) p).2.2 (by omega)
  unfold brsO
  rw [h1]
  simp only
  have hs := rem_step_le (l := l) q
  by_cases hb : q.bad = 0
  ·rw [if_pos hb]
   by_cases hi : isT 1 wEnd l q = true
   ·rw [if_pos hi]
    exact ⟨_, _, rfl, by omega⟩
   ·rw [if_neg hi]
    have hk := brh_ok (hbad _ _ _ h1 hb)
    obtain ⟨ts, q2, h3, h4⟩ := brs_ends h hbad f (acc ++ [((brhO l (acc.map (·.1)) p).1, (brhO l (acc.map (·.1)) p).2.1, t)]) q (by omega) (by omega)
    exact ⟨ts, q2, h3, by omega⟩
  ·rw [if_neg hb]
   exact ⟨_, _, rfl, by omega⟩
theorem cas_ends {rec : PS → Option (Tm × PS)} {R : Nat} (h : Ends l rec R) (hbad : ∀ p t q, rec p = some (t, q) → q.bad = 0 → p.bad = 0) {f : Nat} {p : PS} (hp : rem l p ≤ R) (hf : rem l p + 1 ≤ f) : ∃ t q, casO l rec f p = some (t, q) ∧ rem l q ≤ rem l p := by
 obtain ⟨a, p1, h1, g1⟩ := h p hp
 have k1 := rem_must (l := l) 1 wOf p1
 unfold casO
 rw [h1]
 simp only
 split
 ·obtain ⟨ts, q, h3, h4⟩ := brs_ends h hbad f [] (mustT 1 wOf l p1) (by omega) (by omega)
  rw [h3]
  exact ⟨_, _, rfl, by simp only; omega⟩
 ·exact ⟨_, _, rfl, by omega⟩
theorem pri_ends {dg : List UInt8 → Int} {rec : PS → Option (Tm × PS)} {R : Nat} (h : Ends l rec R) {f : Nat} {p : PS} (hp : rem l (stepF p) ≤ R) (hf : rem l (stepF p) + 1 ≤ f) : ∃ t q, priO l dg rec f p = some (t, q) ∧ rem l q ≤ rem l (stepF p) := by
 unfold priO
 simp only
 split
 ·exact ⟨_, _, rfl, Nat.le_refl _⟩
 split
 ·split
  ·have k1 := rem_step_le (l := l) (stepF p)
   have k2 := rem_named (l := l) 1 nameN (stepF (stepF p))
   exact ⟨_, _, rfl, by omega⟩
  ·exact ⟨_, _, rfl, Nat.le_refl _⟩
 split
 ·split
  ·exact ⟨_, _, rfl, Nat.le_refl _⟩
  split
  ·exact ⟨_, _, rfl, Nat.le_refl _⟩
  ·have k1 := rem_must (l := l) 4 [40] (stepF p)
   obtain ⟨t, q, h1, h2⟩ := h (mustT 4 [40] l (stepF p)) (by omega)
   have k2 := rem_must (l := l) 4 [41] q
   rw [h1]
   exact ⟨_, _, rfl, by omega⟩
 split
 ·exact fields_ends h hp hf
 split
 ·obtain ⟨ts, q, h1, h2⟩ := sev_ends h [93] false hp hf
  rw [h1]
  exact ⟨_, _, rfl, h2⟩
 ·obtain ⟨t, q, h1, h2⟩ := h (stepF p) hp
  have k2 := rem_must (l := l) 4 [41] q
  rw [h1]
  exact ⟨_, _, rfl, by omega⟩
theorem beh_ends {rec : PS → Option (Tm × PS)} {R g : Nat} (h : Ends l rec R) : ∀ (f : Nat) (t : Tm) (p : PS), rem l p ≤ R → rem l p + 1 ≤ g → rem l p + 1 ≤ f → ∃ t' q, behO l rec g f t p = some (t', q) ∧ rem l q ≤ rem l p
 | 0, t, p, _, _, hf => by omega
 | f + 1, t, p, hp, hg, hf => by
  unfold behO
  split
  ·split
   ·rename_i hi
    have k1 := rem_step (kF_cur hi)
    have k2 := rem_named (l := l) 1 nameN (stepF p)
    obtain ⟨t', q, h3, h4⟩ := beh_ends (g := g) h f (.mk 6 0 [] (namedT 1 nameN l (stepF p)).1 [] [] [] [t]) (namedT 1 nameN l (stepF p)).2 (by omega) (by omega) (by omega)
    exact ⟨t', q, h3, by omega⟩
   split
   ·rename_i hi
    have k1 := rem_step (kF_cur hi)
    obtain ⟨ts, q, h1, h2⟩ := sev_ends h [41] true (f := g) (p := stepF p) (by omega) (by omega)
    rw [h1]
    simp only
    obtain ⟨t', q2, h3, h4⟩ := beh_ends (g := g) h f (.mk 9 0 [] [] [] [] [] (t :: ts)) q (by omega) (by omega) (by omega)
    exact ⟨t', q2, h3, by omega⟩
   ·exact ⟨_, _, rfl, Nat.le_refl _⟩
  ·exact ⟨_, _, rfl, Nat.le_refl _⟩
theorem termX_bad {dg : List UInt8 → Int} (f dp : Nat) {p : PS} (hb : p.bad ≠ 0) : termX l dg (f + 1) dp p = some (Tm0, p) := by
 have hc : cur l p = none := cur_bad hb
 unfold termX
 have h1 : begB dg (kindC l p) (curT l p) = false := by simp [kindC, curT, hc, begB]
 rw [h1]
 simp only [Bool.false_eq_true, if_false]
 rw [failS_bad hb]
theorem termX_keep {dg : List UInt8 → Int} {f dp : Nat} {p : PS} {t : Tm} {q : PS} (h : termX l dg f dp p = some (t, q)) (hq : q.bad = 0) : p.bad = 0 := by
 cases f with
 | zero => simp only [termX] at h; cases h
 | succ f =>
  by_cases hb : p.bad = 0
  ·exact hb
  ·rw [termX_bad f dp hb] at h
   simp only [Option.some.injEq, Prod.mk.injEq] at h
   rw [h.2] at hb
   exact absurd hq hb
theorem begB_cur {dg : List UInt8 → Int} {p : PS} (h : begB dg (kindC l p) (curT l p) = true) : p.bad = 0 ∧ p.at_ < l.length := by
 cases hc : cur l p with
 | none => simp [kindC, curT, hc, begB] at h
 | some t =>
  have := cur_some hc
  exact ⟨this.1, this.2.1⟩
theorem term_ends (dg : List UInt8 → Int) : ∀ (f dp : Nat) (p : PS), rem l p + 2 ≤ f → ∃ t q, termX l dg f dp p = some (t, q) ∧ rem l q ≤ rem l p
 | 0, dp, p, hf => by omega
 | f + 1, dp, p, hf => by
  unfold termX
  split
  ·rename_i hbg
   have hs := rem_step (begB_cur hbg)
   have hE : Ends l (termX l dg f (dp + 1)) (rem l (stepF p)) := fun p2 hp2 => term_ends dg f (dp + 1) p2 (by omega)
   have hB : ∀ p t q, termX l dg f (dp + 1) p = some (t, q) → q.bad = 0 → p.bad = 0 := fun p t q h hq => termX_keep h hq
   split
   ·exact ⟨_, _, rfl, by rw [rem_fail 3 p (by omega)]; omega⟩
   split
   ·obtain ⟨t, q, h1, h2⟩ := fun_ends hE (f := f) (p := stepF p) (Nat.le_refl _) (by omega)
    exact ⟨t, q, h1, by omega⟩
   split
   ·obtain ⟨t, q, h1, h2⟩ := cho_ends hE (p := stepF p) (Nat.le_refl _)
    exact ⟨t, q, h1, by omega⟩
   split
   ·obtain ⟨t, q, h1, h2⟩ := cas_ends hE hB (f := f) (p := stepF p) (Nat.le_refl _) (by omega)
    exact ⟨t, q, h1, by omega⟩
   ·obtain ⟨t, q, h1, h2⟩ := pri_ends (dg := dg) hE (f := f) (p := p) (Nat.le_refl _) (by omega)
    rw [h1]
    simp only
    obtain ⟨t', q', h3, h4⟩ := beh_ends (g := f) hE f t q h2 (by omega) (by omega)
    exact ⟨t', q', h3, by omega⟩
  ·exact ⟨_, _, rfl, by rw [rem_fail 2 p (by omega)]; omega⟩
end
end Go.Proofs.Mv.App
open Go Go.Proofs Go.Proofs.Mv.V
set_option maxRecDepth 10000
namespace Go.Proofs.Mv.App
theorem mustT_keep {kd : Int} {s : List UInt8} {l : List Tok} {p : PS} (h : (mustT kd s l p).bad = 0) : p.bad = 0 := by
 unfold mustT at h
 split at h
 ·simpa [stepF] using h
 ·unfold failS at h
  split at h
  ·assumption
  ·exact h
set_option maxHeartbeats 8000000 in
theorem cTCho {l : List Tok} (hl : TkOk l) {dp : Nat} {rec : PS → Option (Tm × PS)} (hrec : RecC l dp rec) (hbad : ∀ p t q, rec p = some (t, q) → q.bad = 0 → p.bad = 0) {p0 : PS} (hb0 : p0.bad = 0) (ha0 : p0.at_ < l.length) {t : Tm} {q : PS} (hrun : choO l rec (stepF p0) = some (t, q)) {k : Nat} {m : Mem} {n : Nat} (hk : k < n) (hm : m k = some (pTObj l dp p0)) :
  ACalls Tryz.prog 105 [.ptr k 0 0 0] m n (fun d m' n' => (∃ t', d = .agg (tmD t') ∧ (q.bad = 0 → t' = t)) ∧ m' = m.set k (pTObj l dp q) ∧ n' = n) := by
 unfold choO at hrun
 cases hr1 : rec (stepF p0) with
 | none => rw [hr1] at hrun; cases hrun
 | some r =>
 obtain ⟨a, p1⟩ := r
 rw [hr1] at hrun
 simp only at hrun
 cases hr2 : rec (mustT 1 wThen l p1) with
 | none => rw [hr2] at hrun; cases hrun
 | some r =>
 obtain ⟨b, p2⟩ := r
 rw [hr2] at hrun
 simp only at hrun
 cases hr3 : rec (mustT 1 wElse l p2) with
 | none => rw [hr3] at hrun; cases hrun
 | some r =>
 obtain ⟨c, p3⟩ := r
 rw [hr3] at hrun
 simp only [Option.some.injEq, Prod.mk.injEq] at hrun
 obtain ⟨rfl, rfl⟩ := hrun
 refine acalls_put (X := fun d => ∃ t', d = .agg (tmD t') ∧ (p3.bad = 0 → t' = .mk 11 0 [] [] [] [] [] [a, b, c])) (R' := Hq (fun d m' n' => (∃ t' : Tm, PubAs n m' d (.agg (tmD t')) ∧ (p3.bad = 0 → t' = .mk 11 0 [] [] [] [] [] [a, b, c])) ∧ m' k = some (pTObj l dp p3) ∧ ∀ j, j < n → j ≠ k → m' j = m j) tg) k hk _ ?_ ?_
 rotate_left
 ·rintro d m' n' ⟨⟨t', h1, h3⟩, h4, h5⟩
  exact ⟨.agg (tmD t'), _, h1, h4, .pur (pur_pT _ _ _), h5, t', rfl, h3⟩
 have kn : k ≠ n := by omega
 have kn1 : k ≠ n + 1 := by omega
 have kn2 : k ≠ n + 1 + 1 := by omega
 have kn3 : k ≠ n + 1 + 1 + 1 := by omega
 have n12 : n + 1 ≠ n + 1 + 1 := by omega
 have n13 : n + 1 ≠ n + 1 + 1 + 1 := by omega
 have n23 : n + 1 + 1 ≠ n + 1 + 1 + 1 := by omega
 have nn1 : n ≠ n + 1 := by omega
 have nn2 : n ≠ n + 1 + 1 := by omega
 have nn3 : n ≠ n + 1 + 1 + 1 := by omega
 have h8 := tmD_len
 have wa := wrap_at hl ha0
 have hmx : m k = some ⟨4, [[toksD l, .v (.int .i64 p0.at_), .v (.int .i64 dp), .v .nilIface]], 0⟩ := by rw [hm]; simp [pTObj, pTC, errS, hb0, I, nilE]
 have hst := pTObj_step (l := l) (dp := dp) hb0
 refine acalls_vcC [0, 2, 3, 4] Tryz.func105 Tryz.ntmps105 (by kernel_rfl) rfl rfl (by simp) ?_
 rw [vc_seq]
 simp -dsimp [-vc_seq]
 rw [vc_seq]
 simp -dsimp [hmx, wa, set_ne, kn, -vc_seq]
 rw [← hst]
 rw [vc_seq]
 simp -dsimp [-vc_seq]
 refine aCall_of (hrec _ a p1 hr1 k _ _ (by omega) (by simp)) ?_
 rintro d m1 n1 ⟨⟨a', rfl, ha'⟩, rfl, rfl⟩
 have hA8 := h8 a'
 have hpA := pur_tm a'
 simp -dsimp [hA8, -vc_seq]
 rw [vc_seq]
 simp -dsimp [-vc_seq]
 refine aCall_of (cTMust hl (dp := dp) (p := p1) (kd := 1) (by omega) wThen (by omega) (by simp [set_ne, kn1])) ?_
 rintro d m2 n2 ⟨rfl, rfl, rfl⟩
 simp -dsimp [-vc_seq]
 rw [vc_seq]
 simp -dsimp [-vc_seq]
 refine aCall_of (hrec _ b p2 hr2 k _ _ (by omega) (by simp)) ?_
 rintro d m3 n3 ⟨⟨b', rfl, hb'⟩, rfl, rfl⟩
 have hB8 := h8 b'
 have hpB := pur_tm b'
 simp -dsimp [hB8, -vc_seq]
 rw [vc_seq]
 simp -dsimp [-vc_seq]
 refine aCall_of (cTMust hl (dp := dp) (p := p2) (kd := 1) (by omega) wElse (by omega) (by simp [set_ne, kn2])) ?_
 rintro d m4 n4 ⟨rfl, rfl, rfl⟩
 simp -dsimp [-vc_seq]
 rw [vc_seq]
 simp -dsimp [set_ne, kn1, kn2, kn1.symm, kn2.symm, n12, n12.symm]
 refine vdraw_tree [0, 0, 0, 4, 15, 31, 63] (.rd 0 (.rd 1 (.rd 2 (.wr (.cons 3 (.wr (.cons 4 (.rd 5 (.wr (.cons 6 (.fin) (.nil)))) (.nil))) (.nil)))))) (by kernel_rfl) (by kernel_rfl) ?_
 simp -dsimp [hA8, hB8, set_ne, kn1, kn2, kn1.symm, kn2.symm, n12, n12.symm]
 refine aCall_of (hrec _ c p3 hr3 k _ _ (by omega) (by simp)) ?_
 rintro d m5 n5 ⟨⟨c', rfl, hc'⟩, rfl, rfl⟩
 have hC8 := h8 c'
 have hpC := pur_tm c'
 refine ⟨fun p hp _ => ?_, ?_⟩
 ·simp only [List.mem_cons, List.not_mem_nil, or_false] at hp
  rcases hp with rfl | rfl <;> exact set_ne _ _ _ _ (by dsimp only; omega)
 simp -dsimp [hA8, hB8, hC8, set_ne, kn, kn.symm, kn1, kn2, kn3, kn1.symm, kn2.symm, kn3.symm, n12, n12.symm, n13, n23, nn1, nn2, nn3, nn1.symm, nn2.symm, nn3.symm]
 refine hq ⟨⟨.mk 11 0 [] [] [] [] [] [a', b', c'], ?_, fun h => ?_⟩, ?_, fun j hj hjk => ?_⟩
 ·simp only [tmD, tmsD, sl1, List.map_nil]
  refine .agg (.cons (pur_I _).pub (.cons (pur_I _).pub (.cons (pur_S _).pub (.cons (pur_S _).pub (.cons (pub_nil 1) (.cons (pub_nil 1) (.cons (pub_nil 7) (.cons ?_ .nil))))))))
  refine .lstP (es := [tmD a', tmD b', tmD c']) (.mk (es' := [tmD a', tmD b', tmD c']) (by simp [set_ne, nn3, nn3.symm]) (by simp) (by simp) (by simp)) (fun j hj => by simp [kof] at hj; omega) ?_
  intro e he d hd
  simp only [List.mem_cons, List.not_mem_nil, or_false] at he
  rcases he with rfl | rfl | rfl
  ·exact hpA d hd
  ·exact hpB d hd
  ·exact hpC d hd
 ·have e2 := hbad _ _ _ hr3 h
  have e3 := mustT_keep e2
  have e4 := hbad _ _ _ hr2 e3
  have e5 := mustT_keep e4
  rw [ha' e5, hb' e3, hc' h]
 ·simp [set_ne, kn, kn1, kn2, kn3]
 ·simp [set_ne, hjk, show j ≠ n by omega, show j ≠ n + 1 by omega, show j ≠ n + 1 + 1 by omega, show j ≠ n + 1 + 1 + 1 by omega]
end Go.Proofs.Mv.App
open Go Go.Proofs Go.Proofs.Mv.V Go.RowKit Go.Sort
set_option maxRecDepth 10000
namespace Go.Proofs.Mv.App
def SortedRn (l : List Brc) : Prop := l.Pairwise fun a b => ltB b.1 a.1 = false
theorem insR_perm (x : Brc) : ∀ l : List Brc, (insR x l).Perm (x :: l)
 | [] => .refl _
 | y :: ys => by
  simp only [insR]; split
  ·exact .refl _
  ·exact ((insR_perm x ys).cons y).trans (.swap _ _ _)
theorem insR_sorted (x : Brc) : ∀ {l : List Brc}, SortedRn l → SortedRn (insR x l)
 | [], _ => by simp [SortedRn, insR]
 | y :: ys, h => by
  have h' := List.pairwise_cons.1 h
  simp only [insR]; split
  ·rename_i e
   refine List.pairwise_cons.2 ⟨fun z hz => ?_, h⟩
   rcases List.mem_cons.1 hz with rfl | hz
   ·exact ltB_asymm e
   ·exact ltB_ntr (h'.1 z hz) (ltB_asymm e)
  ·rename_i e
   refine List.pairwise_cons.2 ⟨fun z hz => ?_, insR_sorted x h'.2⟩
   have := (insR_perm x ys).mem_iff.1 hz
   rcases List.mem_cons.1 this with rfl | hz'
   ·simpa using e
   ·exact h'.1 z hz'
theorem sortR_spec : ∀ ps : List Brc, (sortR ps).Perm ps ∧ SortedRn (sortR ps)
 | [] => ⟨.refl _, by simp [SortedRn, sortR]⟩
 | x :: r => by
  obtain ⟨h1, h2⟩ := sortR_spec r
  exact ⟨(insR_perm x _).trans (h1.cons x), insR_sorted x h2⟩
theorem sortedR_uniq {l l' ps : List Brc} (hd : (ps.map (·.1)).Nodup) (h : l.Perm ps) (h' : l'.Perm ps) (hs : SortedRn l) (hs' : SortedRn l') : l = l' := by
 refine List.Perm.eq_of_pairwise (le := fun a b : Brc => ltB b.1 a.1 = false) ?_ hs hs' (h.trans h'.symm)
 intro a b ha hb h1 h2
 have hn : a.1 = b.1 := ltB_anti h2 h1
 have ha' : a ∈ ps := h.mem_iff.1 ha
 have hb' : b ∈ ps := h'.mem_iff.1 hb
 have key : ∀ l : List Brc, (l.map (·.1)).Nodup → a ∈ l → b ∈ l → a = b := by
  intro l
  induction l with
  | nil => intro _ h; cases h
  | cons x l ih =>
   intro hd ha hb
   simp only [List.map_cons, List.nodup_cons, List.mem_map, not_exists, not_and] at hd
   rcases List.mem_cons.1 ha with rfl | ha2
   ·rcases List.mem_cons.1 hb with rfl | hb
    ·rfl
    ·exact absurd hn.symm (hd.1 b hb)
   ·rcases List.mem_cons.1 hb with rfl | hb
    ·exact absurd hn (hd.1 a ha2)
    ·exact ih hd.2 ha2 hb
 exact key ps hd ha' hb'
theorem namedT_ok2 {kd : Int} {ok : List UInt8 → Bool} {l : List Tok} {p : PS} (h : (namedT kd ok l p).2.bad = 0) : p.bad = 0 := (takeF_ok h).2
theorem brs_nodup {l : List Tok} {rec : PS → Option (Tm × PS)} (hbad : ∀ p t q, rec p = some (t, q) → q.bad = 0 → p.bad = 0) : ∀ (f : Nat) (acc : List Brc) (p : PS) (Lf : List Brc) (q : PS), brsO l rec f acc p = some (Lf, q) → q.bad = 0 → (acc.map (·.1)).Nodup → (Lf.map (·.1)).Nodup
 | 0, _, _, _, _, h, _, _ => by simp only [brsO] at h; cases h
 | f + 1, acc, p, Lf, q, h, hq, hn => by
  simp only [brsO] at h
  split at h
  ·cases h
  ·rename_i t q1 hr
   have nd : q1.bad = 0 → ((acc ++ [((brhO l (acc.map (·.1)) p).1, (brhO l (acc.map (·.1)) p).2.1, t)]).map (·.1)).Nodup := fun e => by
    have h0 := hbad _ _ _ hr e
    have h1 := fresh_ok (mustT_ok (namedT_ok2 (mustT_ok (mustT_ok h0))))
    rw [List.map_append, List.nodup_append]
    refine ⟨hn, by simp, fun a ha b hb => ?_⟩
    simp only [List.map_cons, List.map_nil, List.mem_singleton] at hb
    subst hb
    intro e2
    exact h1.1 (e2 ▸ ha)
   split at h
   ·rename_i hb
    split at h
    ·simp only [Option.some.injEq, Prod.mk.injEq] at h
     obtain ⟨rfl, rfl⟩ := h
     exact nd hb
    ·exact brs_nodup hbad f _ _ Lf q h hq (nd hb)
   ·rename_i hm
    simp only [Option.some.injEq, Prod.mk.injEq] at h
    obtain ⟨rfl, rfl⟩ := h
    exact absurd hq hm
set_option maxHeartbeats 1000000 in
theorem wLessC (x y : RowD 9) (W : World) : Calls Tryz.prog 147 #[.agg (encV x).toArray, .agg (encV y).toArray] W fun e w' => e = .returned (.int .i64 (cfV x y)) ∧ ∃ q os', w' = grow (W.drewN q) os' := by
 obtain ⟨⟨nx, rx, lx, ox⟩, px⟩ := x
 obtain ⟨⟨ny, ry, ly, oy⟩, py⟩ := y
 have hcon := fun W' => wCompare nx ny W'
 simp only [encV, cfV]
 clear px py ox oy
 match rx, ry, lx, ly with
 | [a0, a1, a2, a3, a4, a5, a6, a7, a8], [b0, b1, b2, b3, b4, b5, b6, b7, b8], _, _ =>
  generalize cmpB nx ny = r at hcon ⊢
  generalize ofL nx = x at hcon ⊢
  generalize ofL ny = y at hcon ⊢
  go_enter Tryz.func147, Tryz.ntmps147
  go_wp2_with (go_at_call 148; refine (hcon _).mono ?_; rintro e w' ⟨rfl, rfl⟩)
  go_ret
  exact ⟨rfl, 0, _, by rw [alloc_eq_grow, alloc_eq_grow, grow_grow]; rfl⟩
theorem cSortC [GI] {ps : List Brn} {dl : D} {m : Mem} {n : Nat} (hL : Lst m 10 (ps.map brnD) dl) (hlen : ps.length ≤ 1000000) (hk : ∀ j, kof dl = some j → j < n) :
  ACalls Tryz.prog 146 [dl, .func (.func 147) [] []] m n (Hq (fun d m' n' => ∃ qs : List Brn, qs.Perm ps ∧ SortedB qs ∧ Lst m' 10 (qs.map brnD) dl ∧ (∀ j, kof dl ≠ some j → m' j = m j) ∧ n' = n) tg) := by
 have hcl : Callable Tryz.prog 146 := ⟨_, Tryz.func146, by kernel_rfl, by kernel_rfl⟩
 rcases hL with ⟨he, hd⟩ | ⟨kk, gg, es', rfl, hmk, hle, htk⟩
 ·have hps : ps = [] := by simpa using he
  subst hps
  refine acalls_lib hcl fun w ν F vals hst hv => ?_
  obtain ⟨x, y, rfl, h1, h2⟩ := conVs_arr2 hv
  have hx : ∃ a, x = .slice a 0 0 := by
   rcases hd with rfl | rfl
   ·simp only [Con] at h1; exact ⟨_, h1⟩
   ·simpa only [Con] using h1
  obtain ⟨a, rfl⟩ := hx
  refine Calls.mono (show Calls Tryz.prog 146 _ _ _ from AnyF.slices_SortFunc_none Tryz.laysSortB a 0 y w) ?_
  rintro e w' ⟨rfl, rfl⟩
  exact ⟨_, rfl, Below.refl _ _, .any, trivial, [], .refl _, by simp [SortedB], .inl ⟨rfl, hd⟩, fun _ _ => rfl, rfl⟩
 ·have hll : (ps.map fun x => (x.1, S x.2.1 :: tmD x.2.2)).length = ps.length := by simp
  have hpl : (ps.map brnD).length = ps.length := by simp
  rw [hpl] at hle htk ⊢
  have := acalls_sort (P := Tryz.prog) (ρ := Tryz.laysSortB_ren) Tryz.laysSortB hcl 9 Tryz.isAgg169 Tryz.sizeOf169 147 (enters_of Tryz.func147 (by kernel_rfl) rfl) wLessC (ps.map fun x => (x.1, S x.2.1 :: tmD x.2.2)) (k := kk) (gg := gg) (es' := es') (m := m) (n := n) hmk (by rw [hll]; exact hle) (by rw [hll, el_brn]; exact htk) (by rw [hll]; omega) (hk kk rfl)
  rw [hll] at this
  refine ACalls.mono (show ACalls Tryz.prog 146 _ _ _ _ from this) ?_
  rintro d m' n' ⟨qs', h1, h2, rfl, rfl⟩
  obtain ⟨qs, g1, g2⟩ := perm_map_ex (fun x : Brn => (x.1, S x.2.1 :: tmD x.2.2)) h1 ps rfl
  subst g2
  refine ⟨qs, g1, ?_, ?_, fun j hj => set_ne _ _ _ _ fun e => hj (by rw [e]; rfl), rfl⟩
  ·rw [List.pairwise_map] at h2
   exact h2
  ·rw [el_brn]
   have hq : (qs.map brnD).length = ps.length := by rw [List.length_map]; exact g1.length_eq
   exact Lst.mk (set_same _ _ _) hq.symm (by simp [g1.length_eq]) (by rw [List.take_append_of_le_length (by simp [g1.length_eq]), List.take_of_length_le (by simp [g1.length_eq])])
end Go.Proofs.Mv.App
open Go Go.Proofs Go.Proofs.Mv.V
namespace Go.Proofs.Mv.App
variable [GI]
structure L3 (lo : Nat) (m0 : Mem) (fs : List (Nat × V.Obj)) (z1 : Nat) (e1 : List (List D)) (d1 : D) (z2 : Nat) (e2 : List (List D)) (d2 : D) (z3 : Nat) (e3 : List (List D)) (d3 : D) (m : Mem) (n : Nat) : Prop where
 l1 : Lst m z1 e1 d1
 l2 : Lst m z2 e2 d2
 l3 : Lst m z3 e3 d3
 k1 : ∀ j, kof d1 = some j → lo ≤ j ∧ j < n ∧ ∀ x ∈ fs, x.1 ≠ j
 k2 : ∀ j, kof d2 = some j → lo ≤ j ∧ j < n ∧ ∀ x ∈ fs, x.1 ≠ j
 k3 : ∀ j, kof d3 = some j → lo ≤ j ∧ j < n ∧ ∀ x ∈ fs, x.1 ≠ j
 d12 : ∀ j, kof d1 = some j → kof d2 ≠ some j
 d13 : ∀ j, kof d1 = some j → kof d3 ≠ some j
 d23 : ∀ j, kof d2 = some j → kof d3 ≠ some j
 lf : ∀ j, j < lo → m j = m0 j
 ff : ∀ x ∈ fs, m x.1 = some x.2 ∧ x.1 < n
 ll : lo ≤ n
section
variable {lo : Nat} {m0 : Mem} {fs : List (Nat × V.Obj)} {z1 : Nat} {e1 : List (List D)} {d1 : D} {z2 : Nat} {e2 : List (List D)} {d2 : D} {z3 : Nat} {e3 : List (List D)} {d3 : D} {m : Mem} {n : Nat}
theorem L3.facts (h : L3 lo m0 fs z1 e1 d1 z2 e2 d2 z3 e3 d3 m n) : ∀ x ∈ fs, m x.1 = some x.2 ∧ x.1 ≠ n ∧ x.1 ≠ n + 1 ∧ x.1 ≠ n + 1 + 1 ∧ n ≠ x.1 ∧ n + 1 ≠ x.1 ∧ n + 1 + 1 ≠ x.1 := fun x hx => by
 have := h.ff x hx
 exact ⟨this.1, by omega, by omega, by omega, by omega, by omega, by omega⟩
theorem L3.alloc (o : V.Obj) (h : L3 lo m0 fs z1 e1 d1 z2 e2 d2 z3 e3 d3 m n) : L3 lo m0 ((n, o) :: fs) z1 e1 d1 z2 e2 d2 z3 e3 d3 (m.set n o) (n + 1) := by
 obtain ⟨l1, l2, l3, k1, k2, k3, d12, d13, d23, lf, ff, ll⟩ := h
 have kk : ∀ {d : D}, (∀ j, kof d = some j → lo ≤ j ∧ j < n ∧ ∀ x ∈ fs, x.1 ≠ j) → ∀ j, kof d = some j → lo ≤ j ∧ j < n + 1 ∧ ∀ x ∈ (n, o) :: fs, x.1 ≠ j := fun h j hj => by
  have := h j hj
  refine ⟨this.1, by omega, fun x hx => ?_⟩
  rcases List.mem_cons.1 hx with rfl | hx
  ·simp only; omega
  ·exact this.2.2 x hx
 refine ⟨l1.frame fun j hj => set_ne _ _ _ _ (by have := k1 j hj; omega), l2.frame fun j hj => set_ne _ _ _ _ (by have := k2 j hj; omega), l3.frame fun j hj => set_ne _ _ _ _ (by have := k3 j hj; omega), kk k1, kk k2, kk k3, d12, d13, d23, fun j hj => by rw [set_ne _ _ _ _ (by omega)]; exact lf j hj, fun x hx => ?_, by omega⟩
 rcases List.mem_cons.1 hx with rfl | hx
 ·exact ⟨set_same _ _ _, by simp only; omega⟩
 ·have := ff x hx
  exact ⟨by rw [set_ne _ _ _ _ (by omega)]; exact this.1, by omega⟩
theorem L3.upd {k : Nat} {o o' : V.Obj} (h : L3 lo m0 ((k, o) :: fs) z1 e1 d1 z2 e2 d2 z3 e3 d3 m n) (hlo : lo ≤ k) (hk : ∀ x ∈ fs, x.1 ≠ k) : L3 lo m0 ((k, o') :: fs) z1 e1 d1 z2 e2 d2 z3 e3 d3 (m.set k o') n := by
 obtain ⟨l1, l2, l3, k1, k2, k3, d12, d13, d23, lf, ff, ll⟩ := h
 have kk : ∀ {d : D}, (∀ j, kof d = some j → lo ≤ j ∧ j < n ∧ ∀ x ∈ (k, o) :: fs, x.1 ≠ j) → ∀ j, kof d = some j → (lo ≤ j ∧ j < n ∧ ∀ x ∈ (k, o') :: fs, x.1 ≠ j) ∧ j ≠ k := fun h j hj => by
  have := h j hj
  have h0 := this.2.2 (k, o) (by simp)
  refine ⟨⟨this.1, by omega, fun x hx => ?_⟩, fun e => h0 e.symm⟩
  rcases List.mem_cons.1 hx with rfl | hx
  ·exact h0
  ·exact this.2.2 x (by simp [hx])
 refine ⟨l1.frame fun j hj => set_ne _ _ _ _ (kk k1 j hj).2, l2.frame fun j hj => set_ne _ _ _ _ (kk k2 j hj).2, l3.frame fun j hj => set_ne _ _ _ _ (kk k3 j hj).2, fun j hj => (kk k1 j hj).1, fun j hj => (kk k2 j hj).1, fun j hj => (kk k3 j hj).1, d12, d13, d23, fun j hj => by rw [set_ne _ _ _ _ (by omega)]; exact lf j hj, fun x hx => ?_, ll⟩
 rcases List.mem_cons.1 hx with rfl | hx
 ·exact ⟨set_same _ _ _, (ff (k, o) (by simp)).2⟩
 ·have := ff x (by simp [hx])
  exact ⟨by rw [set_ne _ _ _ _ (hk x hx)]; exact this.1, this.2⟩
theorem L3.less {gs : List (Nat × V.Obj)} (h : L3 lo m0 fs z1 e1 d1 z2 e2 d2 z3 e3 d3 m n) (hg : ∀ x ∈ gs, x ∈ fs) : L3 lo m0 gs z1 e1 d1 z2 e2 d2 z3 e3 d3 m n := by
 obtain ⟨l1, l2, l3, k1, k2, k3, d12, d13, d23, lf, ff, ll⟩ := h
 exact ⟨l1, l2, l3, fun j hj => ⟨(k1 j hj).1, (k1 j hj).2.1, fun x hx => (k1 j hj).2.2 x (hg x hx)⟩, fun j hj => ⟨(k2 j hj).1, (k2 j hj).2.1, fun x hx => (k2 j hj).2.2 x (hg x hx)⟩, fun j hj => ⟨(k3 j hj).1, (k3 j hj).2.1, fun x hx => (k3 j hj).2.2 x (hg x hx)⟩, d12, d13, d23, lf, fun x hx => ff x (hg x hx), ll⟩
theorem L3.rot (h : L3 lo m0 fs z1 e1 d1 z2 e2 d2 z3 e3 d3 m n) : L3 lo m0 fs z2 e2 d2 z3 e3 d3 z1 e1 d1 m n := by
 obtain ⟨l1, l2, l3, k1, k2, k3, d12, d13, d23, lf, ff, ll⟩ := h
 exact ⟨l2, l3, l1, k2, k3, k1, d23, fun j hj e => d12 j e hj, fun j hj e => d13 j e hj, lf, ff, ll⟩
theorem L3.app1 {b : Nat} {xs : List (List D)} {ok O : Prop} {K : D → Mem → Nat → Prop} {u : Tg K () ()} (h : L3 lo m0 fs z1 e1 d1 z2 e2 d2 z3 e3 d3 m n) (hok : ok) (hO : O) (hb : 1 ≤ b) (hlen : (e1.length + xs.length) * b ≤ 140737488355328)
  (hk : ∀ d' m' n', L3 lo m0 fs z1 (e1 ++ xs) d' z2 e2 d2 z3 e3 d3 m' n' → n ≤ n' → K d' m' n') : b4 (apD (some (z1, b)) ok d1 (some (O, xs)) m n) K u := by
 obtain ⟨l1, l2, l3, k1, k2, k3, d12, d13, d23, lf, ff, ll⟩ := h
 refine b4_append l1 (fun j hj => (k1 j hj).2.1) hok hO hb hlen fun d' m' n' a1 a2 a3 a4 => hk d' m' n' ?_ a2
 have up : ∀ {d : D}, (∀ j, kof d = some j → lo ≤ j ∧ j < n ∧ ∀ x ∈ fs, x.1 ≠ j) → ∀ j, kof d = some j → lo ≤ j ∧ j < n' ∧ ∀ x ∈ fs, x.1 ≠ j := fun h j hj => by
  have := h j hj
  exact ⟨this.1, by omega, this.2.2⟩
 refine ⟨a1, l2.frame fun j hj => a4 j (by have := k2 j hj; omega) fun e => d12 j e hj, l3.frame fun j hj => a4 j (by have := k3 j hj; omega) fun e => d13 j e hj, fun j hj => ?_, up k2, up k3, fun j hj e => ?_, fun j hj e => ?_, d23, fun j hj => ?_, fun x hx => ?_, by omega⟩
 ·obtain ⟨h1, h2⟩ := a3 j hj
  rcases h2 with h2 | rfl
  ·have := k1 j h2; exact ⟨this.1, h1, this.2.2⟩
  ·exact ⟨ll, h1, fun x hx => by have := ff x hx; omega⟩
 ·obtain ⟨h1, h2⟩ := a3 j hj
  rcases h2 with h2 | rfl
  ·exact d12 j h2 e
  ·have := k2 _ e; omega
 ·obtain ⟨h1, h2⟩ := a3 j hj
  rcases h2 with h2 | rfl
  ·exact d13 j h2 e
  ·have := k3 _ e; omega
 ·rw [a4 j (by omega) fun e => by have := k1 j e; omega]; exact lf j hj
 ·have h1 := ff x hx
  exact ⟨by rw [a4 x.1 (by omega) fun e => (k1 _ e).2.2 x hx rfl]; exact h1.1, by omega⟩
theorem L3.app2 {b : Nat} {xs : List (List D)} {ok O : Prop} {K : D → Mem → Nat → Prop} {u : Tg K () ()} (h : L3 lo m0 fs z1 e1 d1 z2 e2 d2 z3 e3 d3 m n) (hok : ok) (hO : O) (hb : 1 ≤ b) (hlen : (e2.length + xs.length) * b ≤ 140737488355328)
  (hk : ∀ d' m' n', L3 lo m0 fs z1 e1 d1 z2 (e2 ++ xs) d' z3 e3 d3 m' n' → n ≤ n' → K d' m' n') : b4 (apD (some (z2, b)) ok d2 (some (O, xs)) m n) K u :=
 h.rot.app1 hok hO hb hlen fun d' m' n' a b => hk d' m' n' a.rot.rot b
theorem L3.app3 {b : Nat} {xs : List (List D)} {ok O : Prop} {K : D → Mem → Nat → Prop} {u : Tg K () ()} (h : L3 lo m0 fs z1 e1 d1 z2 e2 d2 z3 e3 d3 m n) (hok : ok) (hO : O) (hb : 1 ≤ b) (hlen : (e3.length + xs.length) * b ≤ 140737488355328)
  (hk : ∀ d' m' n', L3 lo m0 fs z1 e1 d1 z2 e2 d2 z3 (e3 ++ xs) d' m' n' → n ≤ n' → K d' m' n') : b4 (apD (some (z3, b)) ok d3 (some (O, xs)) m n) K u :=
 h.rot.rot.app1 hok hO hb hlen fun d' m' n' a b => hk d' m' n' a.rot b
end
end Go.Proofs.Mv.App
