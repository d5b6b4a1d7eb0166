/- A part of the proofs: machine, contracts, laws. No condition of its own. -/
import Derived.Test.YtihbegkefjjhpaaGreatDoorP19
import Derived.Test.YtihbegkefjjhpaaGreatDoorP15
import Derived.Test.YtihbegkefjjhpaaGreatDoorP14
import Derived.WalkKit
import Derived.LoopTactic
import Derived.Handy
import Derived.Test.YtihbegkefjjhpaaGreatDoorMvFl
import Derived.Test.YtihbegkefjjhpaaGreatDoorP03
set_option linter.unusedSimpArgs false
set_option linter.unusedVariables false
set_option linter.unusedSectionVars false
open Go Go.Proofs Go.Proofs.Mv.V
set_option maxRecDepth 10000
namespace Go.Proofs.Mv.App
theorem typZ_may {l : List Tok} {p : PS} (h : (typS l p).2.bad = 0) : mayT (typS l p).1 = true := by
 have hb := typS_ok h
 unfold typS at h ⊢
 rw [if_pos hb] at h ⊢
 cases hA : (atF l (p.at_ : Int)).2.2 with
 | some x =>
  obtain ⟨a, c⟩ := x
  rw [hA] at h
  exact absurd h (atF_bad hA).1
 | none =>
  simp only
  unfold atF at hA ⊢
  split at hA
  ·simp at hA
  ·rename_i h1
   rw [if_neg h1]
   split at hA
   ·simp at hA
   ·rename_i h2
    rw [if_neg h2]
    obtain ⟨_, m1, m2, m3, m4, m5⟩ := typ_may l 32 ⟨(p.at_ : Int).toNat, 0, 0⟩ (by simpa using h2)
    simp only [mayT, m2, Bool.true_and, Bool.and_eq_true, decide_eq_true_eq]
    simp only [Nat.zero_add] at m4
    refine ⟨by omega, m3⟩
theorem mayT_w {t : Ty} (h : mayT t = true) : TyW t := by
 simp only [mayT, Bool.and_eq_true] at h
 exact allT_w t h.1.1
section
variable {l : List Tok} (hl : TkOk l) {rec : PS → Option (Tm × PS)} (hbad : ∀ p t q, rec p = some (t, q) → q.bad = 0 → p.bad = 0) (hw : ∀ p t q, rec p = some (t, q) → q.bad = 0 → TmW t)
include hl
theorem curT_len (p : PS) : (curT l p).length ≤ 1000000 := by
 unfold curT
 cases h : cur l p with
 | none => simp
 | some t => exact hl.txt t (List.mem_of_getElem? (cur_some h).2.2)
theorem named_len (kd : Int) (ok : List UInt8 → Bool) (p : PS) : (namedT kd ok l p).1.length ≤ 1000000 := by
 unfold namedT takeF
 split
 ·exact curT_len hl p
 ·simp
theorem fresh_len (kd : Int) (ok : List UInt8 → Bool) (ns : List (List UInt8)) (p : PS) : (freshT kd ok ns l p).1.length ≤ 1000000 := named_len hl kd ok _
include hbad hw
omit hl hbad in
theorem sever_w (en : List UInt8) : ∀ (f : Nat) (acc : List Tm) (p : PS) (ts : List Tm) (q : PS), severO l rec en f acc p = some (ts, q) → q.bad = 0 → (∀ t ∈ acc, TmW t) → (∀ t ∈ ts, TmW t) ∧ ts.length ≤ acc.length + f
 | 0, _, _, _, _, h, _, _ => by simp only [severO] at h; cases h
 | f + 1, acc, p, ts, q, h, hq, ha => by
  simp only [severO] at h
  split at h
  ·cases h
  ·rename_i t q1 hr
   have ha' : q1.bad = 0 → ∀ u ∈ acc ++ [t], TmW u := fun e u hu => by
    rcases List.mem_append.1 hu with hu | hu
    ·exact ha u hu
    ·simp only [List.mem_singleton] at hu; subst hu; exact hw _ _ _ hr e
   split at h
   ·rename_i hi
    simp only [Option.some.injEq, Prod.mk.injEq] at h
    obtain ⟨rfl, rfl⟩ := h
    exact ⟨ha' (isT_good hi), by simp⟩
   ·split at h
    ·rename_i hm
     have := sever_w en f _ _ ts q h hq (ha' (mustT_ok hm))
     simp only [List.length_append, List.length_cons, List.length_nil] at this
     exact ⟨this.1, by omega⟩
    ·rename_i hm
     simp only [Option.some.injEq, Prod.mk.injEq] at h
     obtain ⟨rfl, rfl⟩ := h
     exact absurd hq hm
omit hbad in
theorem flds_w : ∀ (f : Nat) (acc : List Bnd) (p : PS) (bs : List Bnd) (q : PS), fldsO l rec f acc p = some (bs, q) → q.bad = 0 → (∀ b ∈ acc, b.1.length ≤ 1000000 ∧ TmW b.2) → (∀ b ∈ bs, b.1.length ≤ 1000000 ∧ TmW b.2) ∧ bs.length ≤ acc.length + f
 | 0, _, _, _, _, h, _, _ => by simp only [fldsO] at h; cases h
 | f + 1, acc, p, bs, q, h, hq, ha => by
  simp only [fldsO] at h
  split at h
  ·cases h
  ·rename_i t q1 hr
   have ha' : q1.bad = 0 → ∀ b ∈ acc ++ [((freshT 1 nameN (acc.map (·.1)) l p).1, t)], b.1.length ≤ 1000000 ∧ TmW b.2 := fun e u hu => by
    rcases List.mem_append.1 hu with hu | hu
    ·exact ha u hu
    ·simp only [List.mem_singleton] at hu; subst hu; exact ⟨fresh_len hl _ _ _ _, hw _ _ _ hr e⟩
   split at h
   ·rename_i hi
    simp only [Option.some.injEq, Prod.mk.injEq] at h
    obtain ⟨rfl, rfl⟩ := h
    exact ⟨ha' (isT_good hi), by simp⟩
   ·split at h
    ·rename_i hm
     have := flds_w f _ _ bs q h hq (ha' (mustT_ok hm))
     simp only [List.length_append, List.length_cons, List.length_nil] at this
     exact ⟨this.1, by omega⟩
    ·rename_i hm
     simp only [Option.some.injEq, Prod.mk.injEq] at h
     obtain ⟨rfl, rfl⟩ := h
     exact absurd hq hm
omit hbad in
theorem brs_w : ∀ (f : Nat) (acc : List Brc) (p : PS) (bs : List Brc) (q : PS), brsO l rec f acc p = some (bs, q) → q.bad = 0 → (∀ b ∈ acc, b.1.length ≤ 1000000 ∧ b.2.1.length ≤ 1000000 ∧ TmW b.2.2) → (∀ b ∈ bs, b.1.length ≤ 1000000 ∧ b.2.1.length ≤ 1000000 ∧ TmW b.2.2) ∧ bs.length ≤ acc.length + f
 | 0, _, _, _, _, h, _, _ => by simp only [brsO] at h; cases h
 | f + 1, acc, p, bs, q, h, hq, ha => by
  simp only [brsO] at h
  split at h
  ·cases h
  ·rename_i t q1 hr
   have ha' : q1.bad = 0 → ∀ b ∈ acc ++ [((brhO l (acc.map (·.1)) p).1, (brhO l (acc.map (·.1)) p).2.1, t)], b.1.length ≤ 1000000 ∧ b.2.1.length ≤ 1000000 ∧ TmW b.2.2 := fun e u hu => by
    rcases List.mem_append.1 hu with hu | hu
    ·exact ha u hu
    ·simp only [List.mem_singleton] at hu; subst hu; exact ⟨fresh_len hl _ _ _ _, named_len hl _ _ _, hw _ _ _ hr e⟩
   split at h
   ·rename_i hb
    split at h
    ·simp only [Option.some.injEq, Prod.mk.injEq] at h
     obtain ⟨rfl, rfl⟩ := h
     exact ⟨ha' hb, by simp⟩
    ·have := brs_w f _ _ bs q h hq (ha' hb)
     simp only [List.length_append, List.length_cons, List.length_nil] at this
     exact ⟨this.1, by omega⟩
   ·rename_i hm
    simp only [Option.some.injEq, Prod.mk.injEq] at h
    obtain ⟨rfl, rfl⟩ := h
    exact absurd hq hm
omit hbad hw in
theorem pars_w : ∀ (f : Nat) (ns : List (List UInt8)) (ys : List Ty) (p : PS) (ns' : List (List UInt8)) (ys' : List Ty) (q : PS), parsO l f ns ys p = some (ns', ys', q) → q.bad = 0 → (∀ s ∈ ns, s.length ≤ 1000000) → (∀ y ∈ ys, TyW y) → (∀ s ∈ ns', s.length ≤ 1000000) ∧ (∀ y ∈ ys', TyW y) ∧ ns'.length ≤ ns.length + f ∧ ys'.length ≤ ys.length + f
 | 0, _, _, _, _, _, _, h, _, _, _ => by simp only [parsO] at h; cases h
 | f + 1, ns, ys, p, ns', ys', q, h, hq, hn, hy => by
  simp only [parsO] at h
  have hn' : ∀ s ∈ ns ++ [(freshT 1 nameN ns l p).1], s.length ≤ 1000000 := fun s hs => by
   rcases List.mem_append.1 hs with hs | hs
   ·exact hn s hs
   ·simp only [List.mem_singleton] at hs; subst hs; exact fresh_len hl _ _ _ _
  have hy' : (typS l (mustT 4 [58] l (freshT 1 nameN ns l p).2)).2.bad = 0 → ∀ y ∈ ys ++ [(typS l (mustT 4 [58] l (freshT 1 nameN ns l p).2)).1], TyW y := fun e y h => by
   rcases List.mem_append.1 h with h | h
   ·exact hy y h
   ·simp only [List.mem_singleton] at h; subst h; exact mayT_w (typZ_may e)
  split at h
  ·rename_i hi
   simp only [Option.some.injEq, Prod.mk.injEq] at h
   obtain ⟨rfl, rfl, rfl⟩ := h
   exact ⟨hn', hy' (isT_good hi), by simp, by simp⟩
  ·split at h
   ·rename_i hm
    have := pars_w f _ _ _ ns' ys' q h hq hn' (hy' (mustT_ok hm))
    simp only [List.length_append, List.length_cons, List.length_nil] at this
    exact ⟨this.1, this.2.1, by omega, by omega⟩
   ·rename_i hm
    simp only [Option.some.injEq, Prod.mk.injEq] at h
    obtain ⟨rfl, rfl, rfl⟩ := h
    exact absurd hq hm
end
theorem tmW0 {k N : Int} {mod nm : List UInt8} (h1 : mod.length ≤ 1000000) (h2 : nm.length ≤ 1000000) : TmW (.mk k N mod nm [] [] [] []) := .mk _ _ _ _ _ _ _ _ (by simp) (by simp) (by simp) (by simp) (by omega) (by omega) (by simp) (by simp) (by simp) (by simp)
theorem tmWs {k N : Int} {nm : List UInt8} {ts : List Tm} (h2 : nm.length ≤ 1000000) (h : ∀ t ∈ ts, TmW t) (hl : ts.length ≤ 1000000) : TmW (.mk k N [] nm [] [] [] ts) := .mk _ _ _ _ _ _ _ _ (by simp) (by simp) (by simp) (by omega) (by simp) (by omega) (by simp) (by simp) (by simp) h
theorem termX_w {l : List Tok} (hl : TkOk l) {dg : List UInt8 → Int} : ∀ {f : Nat}, f ≤ 100000 → ∀ {dp : Nat} {p : PS} {t : Tm} {q : PS}, termX l dg f dp p = some (t, q) → q.bad = 0 → TmW t
 | 0, _, dp, p, t, q, h, hq => by simp only [termX] at h; cases h
 | f + 1, hf, dp, p, t, q, h, hq => by
  have hw : ∀ p t q, termX l dg f (dp + 1) p = some (t, q) → q.bad = 0 → TmW t := fun p t q h => termX_w hl (by omega) h
  have hbad : ∀ p t q, termX l dg f (dp + 1) p = some (t, q) → q.bad = 0 → p.bad = 0 := fun p t q h => termX_keep h
  have fb : ∀ c p, c ≠ 0 → (failS c p).bad ≠ 0 := fun c p hc => by
   unfold failS; split
   ·exact hc
   ·assumption
  have sev : ∀ {en : List UInt8} {non : Bool} {p : PS} {ts : List Tm} {q : PS}, sevO l (termX l dg f (dp + 1)) f en non p = some (ts, q) → q.bad = 0 → (∀ t ∈ ts, TmW t) ∧ ts.length ≤ 100000 := fun {en non p ts q} h hq => by
   unfold sevO at h
   split at h
   ·split at h
    ·simp only [Option.some.injEq, Prod.mk.injEq] at h
     rw [← h.1]; simp
    ·have := sever_w hw en f [] p ts q h hq (by simp)
     simp only [List.length_nil] at this
     exact ⟨this.1, by omega⟩
   ·simp only [Option.some.injEq, Prod.mk.injEq] at h
    rw [← h.1]; simp
  have beh : ∀ (F : Nat) (t0 : Tm) (p : PS) (t : Tm) (q : PS), behO l (termX l dg f (dp + 1)) f F t0 p = some (t, q) → q.bad = 0 → (p.bad = 0 → TmW t0) → TmW t := by
   intro F
   induction F with
   | zero => intro t0 p t q h; simp only [behO] at h; cases h
   | succ F ih =>
    intro t0 p t q h hq h0
    simp only [behO] at h
    split at h
    ·rename_i hb
     have h0 := h0 hb
     split at h
     ·exact ih _ _ _ _ h hq fun _ => tmWs (Nat.le_trans (named_len hl _ _ _) (by omega)) (fun t ht => by simp only [List.mem_singleton] at ht; subst ht; exact h0) (by simp)
     ·split at h
      ·split at h
       ·cases h
       ·rename_i ts q1 hs
        refine ih _ _ _ _ h hq fun hb1 => ?_
        have := sev hs hb1
        exact tmWs (by simp) (fun t ht => by rcases List.mem_cons.1 ht with rfl | ht; exact h0; exact this.1 t ht) (by simp only [List.length_cons]; omega)
      ·simp only [Option.some.injEq, Prod.mk.injEq] at h
       rw [← h.1]; exact h0
    ·rename_i hb
     simp only [Option.some.injEq, Prod.mk.injEq] at h
     rw [h.2] at hb
     exact absurd hq hb
  unfold termX at h
  split at h
  ·rename_i hbg
   have hp := (begB_cur hbg).1
   split at h
   ·simp only [Option.some.injEq, Prod.mk.injEq] at h
    rw [← h.2] at hq; exact absurd hq (fb _ _ (by omega))
   split at h
   ·-- fn
    unfold funO at h
    cases hpar : parO l f (mustT 4 [40] l (stepF p)) with
    | none => rw [hpar] at h; cases h
    | some r =>
    obtain ⟨ns, ys, q1⟩ := r
    rw [hpar] at h
    simp only at h
    cases hr : termX l dg f (dp + 1) q1 with
    | none => rw [hr] at h; cases h
    | some r =>
    obtain ⟨tb, q2⟩ := r
    rw [hr] at h
    simp only [Option.some.injEq, Prod.mk.injEq] at h
    obtain ⟨rfl, rfl⟩ := h
    have hb1 := hbad _ _ _ hr hq
    have hP : (∀ s ∈ ns, s.length ≤ 1000000) ∧ (∀ y ∈ ys, TyW y) ∧ ns.length ≤ 100000 ∧ ys.length ≤ 100000 := by
     unfold parO at hpar
     split at hpar
     ·split at hpar
      ·simp only [Option.some.injEq, Prod.mk.injEq] at hpar
       rw [← hpar.1, ← hpar.2.1]; simp
      ·have := pars_w hl f [] [] _ ns ys q1 hpar hb1 (by simp) (by simp)
       simp only [List.length_nil] at this
       exact ⟨this.1, this.2.1, by omega, by omega⟩
     ·simp only [Option.some.injEq, Prod.mk.injEq] at hpar
      rw [← hpar.1, ← hpar.2.1]; simp
    obtain ⟨p1, p2, p3, p4⟩ := hP
    exact .mk _ _ _ _ _ _ _ _ (by omega) (by simp) (by omega) (by simp) (by simp) (by simp) (fun s hs => by have := p1 s hs; omega) (by simp) p2 (fun t ht => by simp only [List.mem_singleton] at ht; subst ht; exact hw _ _ _ hr hq)
   split at h
   ·-- if
    unfold choO at h
    split at h
    ·cases h
    rename_i a p1 h1
    split at h
    ·cases h
    rename_i b p2 h2
    split at h
    ·cases h
    rename_i c p3 h3
    simp only [Option.some.injEq, Prod.mk.injEq] at h
    obtain ⟨rfl, rfl⟩ := h
    have e2 := mustT_ok (hbad _ _ _ h3 hq)
    have e1 := mustT_ok (hbad _ _ _ h2 e2)
    refine tmWs (by simp) (fun t ht => ?_) (by simp)
    simp only [List.mem_cons, List.not_mem_nil, or_false] at ht
    rcases ht with rfl | rfl | rfl
    ·exact hw _ _ _ h1 e1
    ·exact hw _ _ _ h2 e2
    ·exact hw _ _ _ h3 hq
   split at h
   ·-- case
    unfold casO at h
    split at h
    ·cases h
    rename_i a p1 h1
    split at h
    ·rename_i hm
     obtain ⟨⟨bs, q'⟩, h2, h3⟩ := Option.map_eq_some_iff.1 h
     simp only [Prod.mk.injEq] at h3
     obtain ⟨rfl, rfl⟩ := h3
     obtain ⟨w1, w2⟩ := brs_w hl hw f [] _ bs q' h2 hq (by simp)
     simp only [List.length_nil] at w2
     have hpm := (sortR_spec bs).1
     have hln := hpm.length_eq
     have hm2 : ∀ b ∈ sortR bs, b.1.length ≤ 1000000 ∧ b.2.1.length ≤ 1000000 ∧ TmW b.2.2 := fun b hb => w1 b (hpm.mem_iff.1 hb)
     have e1 := hw _ _ _ h1 (mustT_ok hm)
     unfold caseR
     refine .mk _ _ _ _ _ _ _ _ (by simp only [List.length_map]; omega) (by simp only [List.length_map]; omega) (by simp) (by simp only [List.length_cons, List.length_map]; omega) (by simp) (by simp) (fun s hs => ?_) (fun s hs => ?_) (by simp) (fun t ht => ?_)
     ·obtain ⟨b, hb, rfl⟩ := List.mem_map.1 hs; have := hm2 b hb; omega
     ·obtain ⟨b, hb, rfl⟩ := List.mem_map.1 hs; have := hm2 b hb; omega
     ·rcases List.mem_cons.1 ht with rfl | ht
      ·exact e1
      ·obtain ⟨b, hb, rfl⟩ := List.mem_map.1 ht; exact (hm2 b hb).2.2
    ·rename_i hm
     simp only [Option.some.injEq, Prod.mk.injEq] at h
     rw [← h.2] at hq; exact absurd hq hm
   ·cases hpr : priO l dg (termX l dg f (dp + 1)) f p with
    | none => rw [hpr] at h; cases h
    | some r =>
    obtain ⟨t0, q0⟩ := r
    rw [hpr] at h
    simp only at h
    refine beh _ _ _ _ _ h hq fun hq0 => ?_
    unfold priO at hpr
    simp only at hpr
    split at hpr
    ·simp only [Option.some.injEq, Prod.mk.injEq] at hpr
     rw [← hpr.1]; exact tmW0 (by simp) (by simp)
    split at hpr
    ·split at hpr
     ·simp only [Option.some.injEq, Prod.mk.injEq] at hpr
      rw [← hpr.1]; exact tmW0 (curT_len hl _) (named_len hl _ _ _)
     ·simp only [Option.some.injEq, Prod.mk.injEq] at hpr
      rw [← hpr.1]; exact tmW0 (by simp) (curT_len hl _)
    split at hpr
    ·split at hpr
     ·simp only [Option.some.injEq, Prod.mk.injEq] at hpr
      rw [← hpr.1]; exact tmW0 (by simp) (by simp)
     split at hpr
     ·simp only [Option.some.injEq, Prod.mk.injEq] at hpr
      rw [← hpr.1]; exact tmW0 (by simp) (by simp)
     split at hpr
     ·cases hpr
     ·rename_i t1 q1 hr
      simp only [Option.some.injEq, Prod.mk.injEq] at hpr
      obtain ⟨rfl, rfl⟩ := hpr
      exact tmWs (curT_len hl _) (fun t ht => by simp only [List.mem_singleton] at ht; subst ht; exact hw _ _ _ hr (mustT_ok hq0)) (by simp)
    split at hpr
    ·unfold fieldsO at hpr
     have hmk : ∀ bs : List Bnd, (∀ b ∈ bs, b.1.length ≤ 1000000 ∧ TmW b.2) → bs.length ≤ 100000 → TmW (makeB bs) := fun bs w1 w2 => by
      unfold makeB
      refine .mk _ _ _ _ _ _ _ _ (by simp only [List.length_map]; omega) (by simp) (by simp) (by simp only [List.length_map]; omega) (by simp) (by simp) (fun s hs => ?_) (by simp) (by simp) (fun t ht => ?_)
      ·obtain ⟨b, hb, rfl⟩ := List.mem_map.1 hs; have := w1 b hb; omega
      ·obtain ⟨b, hb, rfl⟩ := List.mem_map.1 ht; exact (w1 b hb).2
     split at hpr
     ·split at hpr
      ·simp only [Option.some.injEq, Prod.mk.injEq] at hpr
       rw [← hpr.1]; exact hmk [] (by simp) (by simp)
      ·obtain ⟨⟨bs, q'⟩, h2, h3⟩ := Option.map_eq_some_iff.1 hpr
       simp only [Prod.mk.injEq] at h3
       obtain ⟨rfl, rfl⟩ := h3
       obtain ⟨w1, w2⟩ := flds_w hl hw f [] _ bs q' h2 hq0 (by simp)
       simp only [List.length_nil] at w2
       have hpm := (sortB_spec bs).1
       have hln := hpm.length_eq
       exact hmk _ (fun b hb => w1 b (hpm.mem_iff.1 hb)) (by omega)
     ·simp only [Option.some.injEq, Prod.mk.injEq] at hpr
      rw [← hpr.1]; exact hmk [] (by simp) (by simp)
    split at hpr
    ·obtain ⟨⟨ts, q'⟩, h2, h3⟩ := Option.map_eq_some_iff.1 hpr
     simp only [Prod.mk.injEq] at h3
     obtain ⟨rfl, rfl⟩ := h3
     obtain ⟨w1, w2⟩ := sev h2 hq0
     exact tmWs (by simp) w1 (by omega)
    split at hpr
    ·cases hpr
    ·rename_i t1 q1 hr
     simp only [Option.some.injEq, Prod.mk.injEq] at hpr
     obtain ⟨rfl, rfl⟩ := hpr
     exact hw _ _ _ hr (mustT_ok hq0)
  ·simp only [Option.some.injEq, Prod.mk.injEq] at h
   rw [← h.2] at hq; exact absurd hq (fb _ _ (by omega))
end Go.Proofs.Mv.App
open Go Go.Proofs Go.Proofs.Mv.V Go.RowKit
namespace Go.Proofs.Mv.App
variable [GI]
set_option maxRecDepth 100000 in
set_option maxHeartbeats 2000000 in
theorem sizes_w {W : World} {v0 v1 v2 v3 : Value} {a4 a5 a6 a7 : Option Addr} {n4 n5 n6 n7 c4 c5 c6 c7 : Nat} :
  Calls Tryz.prog 112 #[.agg #[v0, v1, v2, v3, .slice a4 n4 c4, .slice a5 n5 c5, .slice a6 n6 c6, .slice a7 n7 c7]] W fun e w' => e = .returned (.agg #[.int .i64 n4, .int .i64 n5, .int .i64 n6, .int .i64 n7]) ∧ Blw W.heap.size W w' := by
 refine calls_of_wp Tryz.func112 rfl ?_
 simp only [Tryz.ntmps112, List.size_toArray, List.length_cons, List.length_nil, Nat.reduceAdd, Nat.reduceSub, Array.replicate_succ, Array.replicate_zero, List.push_toArray, List.append_toArray, List.nil_append, List.cons_append]
 go_wp2_with fail
 go_returns
 exact ⟨rfl, ((Blw.refl _ W).alloc (Nat.le_refl _) _).alloc (by simp) _⟩
set_option maxRecDepth 100000 in
set_option maxHeartbeats 2000000 in
theorem max_w {W : World} {b : Nat} {n0 n1 n2 n3 : Int} (h0 : W.cell? ⟨b, 0, none⟩ = some (.int .i64 n0)) (h1 : W.cell? ⟨b, 1, none⟩ = some (.int .i64 n1)) (h2 : W.cell? ⟨b, 2, none⟩ = some (.int .i64 n2)) (h3 : W.cell? ⟨b, 3, none⟩ = some (.int .i64 n3)) :
  Calls Tryz.prog 113 #[.slice (some ⟨b, 0, none⟩) 4 4] W fun e w' => (∃ r : Int, e = .returned (.int .i64 r) ∧ (r ≤ 21 ↔ (n0 ≤ 21 ∧ n1 ≤ 21 ∧ n2 ≤ 21 ∧ n3 ≤ 21))) ∧ Blw W.heap.size W w' := by
 refine calls_of_wp Tryz.func113 rfl ?_
 simp only [Tryz.ntmps113, List.size_toArray, List.length_cons, List.length_nil, Nat.reduceAdd, Nat.reduceSub, Array.replicate_succ, Array.replicate_zero, List.push_toArray, List.append_toArray, List.nil_append, List.cons_append]
 go_wp2_with fail
 refine wp_loop_rounds 4 ?_
 rw [rounds_succ]
 go_wp2_with fail
 all_goals (rw [rounds_succ]; go_wp2_with fail)
 all_goals (rw [rounds_succ]; go_wp2_with fail)
 all_goals (rw [rounds_succ]; go_wp2_with fail)
 all_goals
  go_ret
  exact ⟨⟨_, rfl, by omega⟩, Blw.refl _ _⟩
end Go.Proofs.Mv.App
