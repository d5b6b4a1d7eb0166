/- A part of the proofs: machine, contracts, laws. No condition of its own. -/
import Derived.Test.YtihbegkefjjhpaaGreatDoorP07
import Derived.Test.YtihbegkefjjhpaaGreatDoorP15
set_option linter.unusedSimpArgs false
set_option linter.unusedVariables false
set_option linter.unusedSectionVars false
open Go Go.Proofs Go.Proofs.Mv.V
namespace Go.Proofs.Mv.App
theorem putTs_len : ∀ (l : List Tm) (b : List Bnd), (putTs l b).length = l.length
  | [], _ => rfl
  | t :: ts, b => by simp only [putTs, List.length_cons, putTs_len ts b]
theorem putB_len : ∀ (l : List Tm) (vars : Nms) (b : List Bnd), (putB l vars b).length = l.length
  | [], _, _ => by simp only [putB]
  | t :: ts, [], b => by simp only [putB, List.length_cons, putB_len ts [] b]
  | t :: ts, v :: vs, b => by simp only [putB, List.length_cons, putB_len ts vs b]
theorem putC_len : ∀ (l : List Tm) (vars : Nms) (b : List Bnd), (putC l vars b).length = l.length
  | [], _, _ => by simp only [putC]
  | t :: ts, vars, b => by simp only [putC, List.length_cons, putB_len ts vars b]
structure Her (p : Tm → Prop) : Prop where
  kids : ∀ {t : Tm}, p t → ∀ s ∈ kidsT t, p s
  re : ∀ {k N : Int} {mod nm : List UInt8} {names vars : Nms} {types : List Ty} {subs subs' : List Tm}, p (.mk k N mod nm names vars types subs) → subs'.length = subs.length → (∀ s ∈ subs', p s) → p (.mk k N mod nm names vars types subs')
section
variable {p : Tm → Prop} (hp : Her p)
include hp
mutual
theorem her_put : ∀ (t : Tm) (l : List Bnd), p t → (∀ b ∈ l, p b.2) → p (putT t l)
  | .mk k N mod nm names vars types subs, l, ht, hl => by
    have hk : ∀ s ∈ subs, p s := hp.kids ht
    simp only [putT]
    split
    · split
      · rename_i b hb
        exact hl b (List.mem_of_find?_eq_some hb)
      · exact ht
    split
    · exact hp.re ht (putTs_len _ _) (her_putTs subs _ hk fun b hb => hl b (mem_wout.1 hb).1)
    split
    · exact hp.re ht (putC_len _ _ _) (her_putC subs vars l hk hl)
    · exact hp.re ht (putTs_len _ _) (her_putTs subs l hk hl)
theorem her_putTs : ∀ (ts : List Tm) (l : List Bnd), (∀ s ∈ ts, p s) → (∀ b ∈ l, p b.2) → ∀ s ∈ putTs ts l, p s
  | [], _, _, _ => fun s hs => by simp only [putTs] at hs; cases hs
  | t :: ts, l, h, hl => fun s hs => by
    simp only [putTs, List.mem_cons] at hs
    rcases hs with rfl | hs
    · exact her_put t l (h t (by simp)) hl
    · exact her_putTs ts l (fun s hs => h s (by simp [hs])) hl s hs
theorem her_putC : ∀ (ts : List Tm) (vars : Nms) (l : List Bnd), (∀ s ∈ ts, p s) → (∀ b ∈ l, p b.2) → ∀ s ∈ putC ts vars l, p s
  | [], _, _, _, _ => fun s hs => by simp only [putC] at hs; cases hs
  | t :: ts, vars, l, h, hl => fun s hs => by
    simp only [putC, List.mem_cons] at hs
    rcases hs with rfl | hs
    · exact her_put t l (h t (by simp)) hl
    · exact her_putB ts vars l (fun s hs => h s (by simp [hs])) hl s hs
theorem her_putB : ∀ (ts : List Tm) (vars : Nms) (l : List Bnd), (∀ s ∈ ts, p s) → (∀ b ∈ l, p b.2) → ∀ s ∈ putB ts vars l, p s
  | [], _, _, _, _ => fun s hs => by simp only [putB] at hs; cases hs
  | t :: ts, [], l, h, hl => fun s hs => by
    simp only [putB, List.mem_cons] at hs
    rcases hs with rfl | hs
    · exact her_put t l (h t (by simp)) hl
    · exact her_putB ts [] l (fun s hs => h s (by simp [hs])) hl s hs
  | t :: ts, v :: vs, l, h, hl => fun s hs => by
    simp only [putB, List.mem_cons] at hs
    rcases hs with rfl | hs
    · exact her_put t _ (h t (by simp)) fun b hb => hl b (mem_wout.1 hb).1
    · exact her_putB ts vs l (fun s hs => h s (by simp [hs])) hl s hs
end
end
theorem her_w : Her TmW := by
  refine ⟨fun h s hs => ?_, fun h e hs => ?_⟩
  · cases h with
    | mk _ _ _ _ _ _ _ _ l1 l2 l3 l4 l5 l6 l7 l8 l9 l10 => exact l10 s hs
  · cases h with
    | mk _ _ _ _ _ _ _ _ l1 l2 l3 l4 l5 l6 l7 l8 l9 l10 => exact .mk _ _ _ _ _ _ _ _ l1 l2 l3 (by rw [e]; exact l4) l5 l6 l7 l8 l9 hs
/-! What a step makes. -/
section
variable {p : Tm → Prop} (hp : Her p) {defs : List Df} (hd : ∀ d ∈ defs, p d.term) (h0 : p Tm0)
include hp h0 hd
omit hd in
theorem her_getD {l : List Tm} (h : ∀ s ∈ l, p s) (i : Nat) : p (l.getD i Tm0) := by
  by_cases hi : i < l.length
  · rw [List.getD_eq_getElem?_getD, List.getElem?_eq_getElem hi]; exact h _ (List.getElem_mem hi)
  · rw [List.getD_eq_getElem?_getD, List.getElem?_eq_none (by omega)]; exact h0
omit hd in
theorem her_headD {l : List Tm} (h : ∀ s ∈ l, p s) : p (l.headD Tm0) := by
  cases l with
  | nil => exact h0
  | cons x l => exact h x (by simp)
theorem her_own (k : Int) (mod nm : List UInt8) (names vars : Nms) {subs : List Tm} (hs : ∀ s ∈ subs, p s) : p (ownS defs k mod nm names vars subs).2 := by
  have hc : p (subs.headD Tm0) := her_headD hp h0 hs
  have hk : ∀ s ∈ kidsT (subs.headD Tm0), p s := hp.kids hc
  unfold ownS
  simp only
  split
  · split
    · rename_i d hf; exact hd d (List.mem_of_find?_eq_some hf)
    · exact h0
  split
  · split
    · exact her_getD hp h0 hk _
    · exact h0
  split
  · split
    · refine her_put hp _ _ (her_headD hp h0 hk) fun b hb => hs _ (List.mem_of_mem_tail (List.of_mem_zip hb).2)
    · exact h0
  split
  · split
    · simp only; split
      · exact her_getD hp h0 hs _
      · exact her_getD hp h0 hs _
    · exact h0
  split
  · split
    · refine her_put hp _ _ (her_getD hp h0 hs _) fun b hb => ?_
      simp only [List.mem_singleton] at hb; subst hb
      exact her_headD hp h0 hk
    · exact h0
  · exact h0
mutual
theorem her_step : ∀ t : Tm, p t → p (stepT defs t).2
  | .mk k N mod nm names vars types subs, ht => by
    have hk : ∀ s ∈ subs, p s := hp.kids ht
    simp only [stepT]
    split
    · rename_i c l hm
      have : l.length = subs.length ∧ ∀ s ∈ l, p s := by
        split at hm
        · cases hm
        split at hm
        · exact her_step1 subs hk c l hm
        · exact her_stepL subs hk c l hm
      exact hp.re ht this.1 this.2
    · exact her_own hp hd h0 k mod nm names vars hk
theorem her_stepL : ∀ (ts : List Tm), (∀ s ∈ ts, p s) → ∀ c l, stepL defs ts = some (c, l) → l.length = ts.length ∧ ∀ s ∈ l, p s
  | [], _ => fun c l h => by simp only [stepL] at h; cases h
  | t :: ts, ht => fun c l h => by
    simp only [stepL] at h
    split at h
    · obtain ⟨⟨c', l'⟩, h1, h2⟩ := Option.map_eq_some_iff.1 h
      simp only [Prod.mk.injEq] at h2
      obtain ⟨rfl, rfl⟩ := h2
      obtain ⟨a, b⟩ := her_stepL ts (fun s hs => ht s (by simp [hs])) _ _ h1
      refine ⟨by simp [a], fun s hs => ?_⟩
      rcases List.mem_cons.1 hs with rfl | hs
      · exact ht _ (by simp)
      · exact b s hs
    · simp only [Option.some.injEq, Prod.mk.injEq] at h
      obtain ⟨rfl, rfl⟩ := h
      refine ⟨by simp, fun s hs => ?_⟩
      rcases List.mem_cons.1 hs with rfl | hs
      · exact her_step t (ht t (by simp))
      · exact ht s (by simp [hs])
theorem her_step1 : ∀ (ts : List Tm), (∀ s ∈ ts, p s) → ∀ c l, step1 defs ts = some (c, l) → l.length = ts.length ∧ ∀ s ∈ l, p s
  | [], _ => fun c l h => by simp only [step1] at h; cases h
  | t :: ts, ht => fun c l h => by
    simp only [step1] at h
    split at h
    · cases h
    · simp only [Option.some.injEq, Prod.mk.injEq] at h
      obtain ⟨rfl, rfl⟩ := h
      refine ⟨by simp, fun s hs => ?_⟩
      rcases List.mem_cons.1 hs with rfl | hs
      · exact her_step t (ht t (by simp))
      · exact ht s (by simp [hs])
end
end
theorem many_pos (t : Tm) : 1 ≤ manyTm t := by cases t; simp only [manyTm]; omega
/-! How many terms. -/
theorem getD_mem_or {l : List Tm} (i : Nat) : l.getD i Tm0 ∈ l ∨ l.getD i Tm0 = Tm0 := by
  by_cases hi : i < l.length
  · left; rw [List.getD_eq_getElem?_getD, List.getElem?_eq_getElem hi]; exact List.getElem_mem hi
  · right; rw [List.getD_eq_getElem?_getD, List.getElem?_eq_none (by omega)]; rfl
/-! Closed. -/
theorem cloTs_mem {l : List Tm} {ns : Nms} (h : cloTs l ns = true) {s : Tm} (hs : s ∈ l) : cloT s ns = true := by
  induction l with
  | nil => cases hs
  | cons x l ih =>
    simp only [cloTs, Bool.and_eq_true] at h
    rcases List.mem_cons.1 hs with rfl | hs
    · exact h.1
    · exact ih h.2 hs
theorem cloB_get : ∀ {l : List Tm} {vars : Nms} {ns : Nms}, cloB l vars ns = true → ∀ (i : Nat) (h : i < l.length) (h' : i < vars.length), cloT l[i] (ns ++ [vars[i]]) = true
  | t :: ts, [], ns, hb, i, h, h' => by simp at h'
  | t :: ts, v :: vs, ns, hb, i, h, h' => by
    simp only [cloB, Bool.and_eq_true] at hb
    cases i with
    | zero => exact hb.1
    | succ i => exact cloB_get hb.2 i (by simpa using h) (by simpa using h')
theorem clo_own {defs : List Df} (hd : ∀ d ∈ defs, cloT d.term [] = true) {k N : Int} {mod nm : List UInt8} {names vars : Nms} {types : List Ty} {subs : List Tm} (hall : allTm (.mk k N mod nm names vars types subs) = true)
    (hc : cloT (.mk k N mod nm names vars types subs) [] = true) (h0 : (ownS defs k mod nm names vars subs).1 = 0) : cloT (ownS defs k mod nm names vars subs).2 [] = true := by
  have hz : cloT Tm0 [] = true := rfl
  have gdz : ∀ {l : List Tm} (i : Nat), cloTs l [] = true → cloT (l.getD i Tm0) [] = true := fun {l} i h => by
    rcases getD_mem_or (l := l) i with e | e
    · exact cloTs_mem h e
    · rw [e]; exact hz
  have hall' := hall
  simp only [allTm, Bool.and_eq_true] at hall'
  obtain ⟨hsh, hsub⟩ := hall'
  obtain ⟨ko, sm⟩ := shapeTm_parts hsh
  have cn := ko.cn
  unfold cntK at cn
  have hone : ∀ {s : Tm}, s ∈ subs → allTm s = true := fun h => by rw [allTms_eq] at hsub; exact List.all_eq_true.1 hsub _ h
  unfold ownS at h0 ⊢
  simp only at h0 ⊢
  split
  · split
    · rename_i d hf; exact hd d (List.mem_of_find?_eq_some hf)
    · exact hz
  split
  · rename_i k6
    subst k6
    simp only [cloT, show ¬ (6 : Int) = 3 by omega, show ¬ (6 : Int) = 8 by omega, show ¬ (6 : Int) = 12 by omega, if_false] at hc
    split
    · rename_i hq
      obtain ⟨u, rfl⟩ := List.length_eq_one_iff.1 (show subs.length = 1 by omega)
      simp only [cloTs, Bool.and_true] at hc
      obtain ⟨k', N', mod', nm', names', vars', types', subs'⟩ := u
      simp only [List.headD_cons, kindTmK] at hq
      obtain ⟨rfl, hq⟩ := hq
      simp only [cloT, show ¬ (5 : Int) = 3 by omega, show ¬ (5 : Int) = 8 by omega, show ¬ (5 : Int) = 12 by omega, if_false] at hc
      exact gdz _ hc
    · exact hz
  split
  · rename_i k9
    subst k9
    simp only [cloT, show ¬ (9 : Int) = 3 by omega, show ¬ (9 : Int) = 8 by omega, show ¬ (9 : Int) = 12 by omega, if_false] at hc
    split
    · rename_i hq
      cases subs with
      | nil => simp only [List.length_nil] at cn; omega
      | cons f args =>
      obtain ⟨k', N', mod', nm', names', vars', types', subs'⟩ := f
      simp only [List.headD_cons, kindTmK, namesT, kidsT, List.length_cons, List.tail_cons, Nat.add_sub_cancel] at hq ⊢
      obtain ⟨rfl, hq⟩ := hq
      simp only [cloTs, cloT, show ¬ (8 : Int) = 3 by omega, if_false, if_true, Bool.and_eq_true] at hc
      refine cloT_put _ (fun b hb => cloTs_mem hc.2 (List.of_mem_zip hb).2) ?_
      have e : (names'.zip args).map (·.1) = names' := by
        have : ∀ (a : Nms) (b : List Tm), a.length = b.length → (a.zip b).map (·.1) = a := by
          intro a
          induction a with
          | nil => intro b h; simp
          | cons x a ih => intro b h; cases b with
            | nil => simp at h
            | cons y b => simp only [List.zip_cons_cons, List.map_cons]; rw [ih b (by simpa using h)]
        exact this _ _ hq
      rw [e]
      cases subs' with
      | nil => exact cloT_mono Tm0 (by simp) hz
      | cons b r => simp only [cloTs, Bool.and_eq_true] at hc; exact hc.1.1
    · exact hz
  split
  · rename_i k11
    subst k11
    simp only [cloT, show ¬ (11 : Int) = 3 by omega, show ¬ (11 : Int) = 8 by omega, show ¬ (11 : Int) = 12 by omega, if_false] at hc
    split
    · simp only; split
      · exact gdz _ hc
      · exact gdz _ hc
    · exact hz
  split
  · rename_i k12
    subst k12
    simp only [cloT, show ¬ (12 : Int) = 3 by omega, show ¬ (12 : Int) = 8 by omega, if_false, if_true] at hc
    split
    · rename_i hq
      cases subs with
      | nil => simp only [List.length_nil] at cn; omega
      | cons c br =>
      obtain ⟨k', N', mod', nm', names', vars', types', subs'⟩ := c
      simp only [List.headD_cons, kindTmK, nameT, kidsT, List.length_cons, List.getD_cons_succ] at hq cn ⊢
      obtain ⟨rfl, hq⟩ := hq
      simp only [cloC, cloT, show ¬ (7 : Int) = 3 by omega, show ¬ (7 : Int) = 8 by omega, show ¬ (7 : Int) = 12 by omega, if_false, Bool.and_eq_true] at hc
      have hi : names.idxOf nm' < names.length := List.idxOf_lt_length_iff.2 hq
      have h1 : names.idxOf nm' < br.length := by omega
      have h2 : names.idxOf nm' < vars.length := by omega
      refine cloT_put _ (fun b hb => ?_) ?_
      · simp only [List.mem_singleton] at hb; subst hb
        simp only
        cases subs' with
        | nil => exact hz
        | cons x r => exact cloTs_mem hc.1 (by simp)
      · have := cloB_get hc.2 _ h1 h2
        rw [List.getD_eq_getElem?_getD, List.getElem?_eq_getElem h1, List.getD_eq_getElem?_getD, List.getElem?_eq_getElem h2]
        simpa using this
    · exact hz
  · exact hz
mutual
theorem clo_step {defs : List Df} (hd : ∀ d ∈ defs, cloT d.term [] = true) : ∀ t : Tm, allTm t = true → cloT t [] = true → (stepT defs t).1 = 0 → cloT (stepT defs t).2 [] = true
  | .mk k N mod nm names vars types subs, hall, hc, h0 => by
    have hall' := hall
    simp only [allTm, Bool.and_eq_true] at hall'
    simp only [stepT] at h0 ⊢
    split
    · rename_i c l hm
      rw [hm] at h0
      simp only at h0
      subst h0
      split at hm
      · cases hm
      rename_i k8
      split at hm
      · rename_i k1112
        rcases k1112 with rfl | rfl
        · simp only [cloT, show ¬ (11 : Int) = 3 by omega, show ¬ (11 : Int) = 8 by omega, show ¬ (11 : Int) = 12 by omega, if_false] at hc ⊢
          cases subs with
          | nil => simp only [step1] at hm; cases hm
          | cons t ts =>
            simp only [step1] at hm
            split at hm
            · cases hm
            simp only [Option.some.injEq, Prod.mk.injEq] at hm
            obtain ⟨h1, rfl⟩ := hm
            simp only [cloTs, allTms, Bool.and_eq_true] at hc hall' ⊢
            exact ⟨clo_step hd t hall'.2.1 hc.1 h1, hc.2⟩
        · simp only [cloT, show ¬ (12 : Int) = 3 by omega, show ¬ (12 : Int) = 8 by omega, if_false, if_true] at hc ⊢
          cases subs with
          | nil => simp only [step1] at hm; cases hm
          | cons t ts =>
            simp only [step1] at hm
            split at hm
            · cases hm
            simp only [Option.some.injEq, Prod.mk.injEq] at hm
            obtain ⟨h1, rfl⟩ := hm
            simp only [cloC, allTms, Bool.and_eq_true] at hc hall' ⊢
            exact ⟨clo_step hd t hall'.2.1 hc.1 h1, hc.2⟩
      · rename_i k1112
        have k12 : ¬ k = 12 := fun e => k1112 (.inr e)
        by_cases k3 : k = 3
        · subst k3
          have cn := (shapeTm_parts hall'.1).1.cn
          unfold cntK at cn
          have e : subs = [] := List.length_eq_zero_iff.1 (by omega)
          subst e
          simp only [stepL] at hm; cases hm
        simp only [cloT, k3, k8, k12, if_false] at hc ⊢
        exact clo_stepL hd subs hall'.2 hc _ hm
    · rename_i hm
      rw [hm] at h0
      exact clo_own hd hall hc h0
theorem clo_stepL {defs : List Df} (hd : ∀ d ∈ defs, cloT d.term [] = true) : ∀ (ts : List Tm), allTms ts = true → cloTs ts [] = true → ∀ l, stepL defs ts = some (0, l) → cloTs l [] = true
  | [], _, _ => fun l h => by simp only [stepL] at h; cases h
  | t :: ts, ha, hc => fun l h => by
    simp only [allTms, cloTs, Bool.and_eq_true] at ha hc
    simp only [stepL] at h
    split at h
    · obtain ⟨⟨c', l'⟩, h1, h2⟩ := Option.map_eq_some_iff.1 h
      simp only [Prod.mk.injEq] at h2
      obtain ⟨rfl, rfl⟩ := h2
      simp only [cloTs, Bool.and_eq_true]
      exact ⟨hc.1, clo_stepL hd ts ha.2 hc.2 _ h1⟩
    · simp only [Option.some.injEq, Prod.mk.injEq] at h
      obtain ⟨h1, rfl⟩ := h
      simp only [cloTs, Bool.and_eq_true]
      exact ⟨clo_step hd t ha.1 hc.1 h1, hc.2⟩
end
end Go.Proofs.Mv.App
open Go Go.Proofs Go.Proofs.Mv.V
namespace Go.Proofs.Mv.App
theorem findI_spec {α : Type} (q : α → Bool) : ∀ l : List α, (findI q l = -1 ∧ ∀ x ∈ l, q x = false) ∨ ∃ (i : Nat) (h : i < l.length), findI q l = i ∧ q l[i] = true ∧ ∀ j (hj : j < i), q (l[j]'(by omega)) = false
  | [] => .inl ⟨by simp [findI], by simp⟩
  | x :: l => by
    cases hx : q x with
    | true => exact .inr ⟨0, by simp, by simp [findI, hx], by simpa using hx, fun j hj => by omega⟩
    | false =>
      rcases findI_spec q l with ⟨h1, h2⟩ | ⟨i, hi, h1, h2, h3⟩
      · refine .inl ⟨by simp [findI, hx, h1], fun y hy => ?_⟩
        rcases List.mem_cons.1 hy with rfl | hy
        · exact hx
        · exact h2 y hy
      · refine .inr ⟨i + 1, by simpa using hi, by simp [findI, hx, h1], by simpa using h2, fun j hj => ?_⟩
        cases j with
        | zero => exact hx
        | succ j => exact h3 j (by omega)
section
variable {defs : List Df}
theorem stepL_none : ∀ l : List Tm, (∀ s ∈ l, valT s = true) → stepL defs l = none
  | [], _ => by simp only [stepL]
  | t :: ts, h => by
    simp only [stepL, h t (by simp), if_true, stepL_none ts fun s hs => h s (by simp [hs]), Option.map_none]
theorem stepL_at : ∀ (l : List Tm) (i : Nat) (hi : i < l.length), (∀ j (h : j < i), valT (l[j]'(by omega)) = true) → valT l[i] = false → stepL defs l = some ((stepT defs l[i]).1, l.set i (stepT defs l[i]).2)
  | [], i, hi, _, _ => by simp at hi
  | t :: ts, 0, _, _, hx => by
    simp only [List.getElem_cons_zero] at hx ⊢
    simp [stepL, hx]
  | t :: ts, i + 1, hi, hv, hx => by
    have h0 := hv 0 (by omega)
    simp only [List.getElem_cons_zero] at h0
    simp only [List.getElem_cons_succ] at hx ⊢
    have := stepL_at ts i (by simpa using hi) (fun j hj => by have := hv (j + 1) (by omega); simpa using this) hx
    simp only [stepL, h0, if_true, this, Option.map_some, List.set_cons_succ]
variable {k N : Int} {mod nm : List UInt8} {names vars : Nms} {types : List Ty} {subs : List Tm}
theorem step_at (k8 : k ≠ 8) {i : Nat} (hi : i < subs.length) (hn : k = 11 ∨ k = 12 → i = 0) (hv : ∀ j (h : j < i), valT (subs[j]'(by omega)) = true) (hx : valT subs[i] = false) :
    stepT defs (.mk k N mod nm names vars types subs) = ((stepT defs subs[i]).1, .mk k N mod nm names vars types (subs.set i (stepT defs subs[i]).2)) := by
  simp only [stepT, if_neg k8]
  by_cases kx : k = 11 ∨ k = 12
  · obtain rfl := hn kx
    simp only [if_pos kx]
    cases subs with
    | nil => simp at hi
    | cons s ss =>
      simp only [List.getElem_cons_zero] at hx ⊢
      simp [step1, hx]
  · simp only [if_neg kx, stepL_at subs i hi hv hx]
theorem step_no (h : k = 8 ∨ (k = 11 ∨ k = 12) ∧ (∀ (h : 0 < subs.length), valT subs[0] = true) ∨ ∀ s ∈ subs, valT s = true) :
    stepT defs (.mk k N mod nm names vars types subs) = ownS defs k mod nm names vars subs := by
  simp only [stepT]
  by_cases k8 : k = 8
  · simp only [if_pos k8]
  simp only [if_neg k8]
  have hs1 : (∀ (h : 0 < subs.length), valT subs[0] = true) → step1 defs subs = none := fun h => by
    cases subs with
    | nil => simp only [step1]
    | cons s ss => have := h (by simp); simp only [List.getElem_cons_zero] at this; simp only [step1, this, if_true]
  rcases h with h | ⟨h1, h2⟩ | h
  · exact absurd h k8
  · simp only [if_pos h1, hs1 h2]
  · by_cases kx : k = 11 ∨ k = 12
    · simp only [if_pos kx, hs1 fun h' => h _ (List.getElem_mem h')]
    · simp only [if_neg kx, stepL_none subs h]
theorem step_find : (findI (fun s => !valT s) (nextL (.mk k N mod nm names vars types subs)) = -1 ∧ stepT defs (.mk k N mod nm names vars types subs) = ownS defs k mod nm names vars subs) ∨
    ∃ (i : Nat) (h : i < subs.length), findI (fun s => !valT s) (nextL (.mk k N mod nm names vars types subs)) = i ∧ stepT defs (.mk k N mod nm names vars types subs) = ((stepT defs subs[i]).1, .mk k N mod nm names vars types (subs.set i (stepT defs subs[i]).2)) := by
  by_cases k8 : k = 8
  · left
    exact ⟨by simp [nextL, k8, findI], step_no (.inl k8)⟩
  rcases findI_spec (fun s => !valT s) (nextL (.mk k N mod nm names vars types subs)) with ⟨h1, h2⟩ | ⟨i, hi, h1, h2, h3⟩
  · left
    refine ⟨h1, step_no ?_⟩
    by_cases kx : k = 11 ∨ k = 12
    · refine .inr (.inl ⟨kx, fun h => ?_⟩)
      simp only [nextL, if_neg k8, if_pos kx] at h2
      have := h2 subs[0] (by rw [List.mem_take_iff_getElem]; exact ⟨0, by omega, rfl⟩)
      simpa using this
    · refine .inr (.inr fun s hs => ?_)
      simp only [nextL, if_neg k8, if_neg kx] at h2
      have := h2 s hs
      simpa using this
  · right
    by_cases kx : k = 11 ∨ k = 12
    · simp only [nextL, if_neg k8, if_pos kx, List.length_take] at hi
      have hi0 : i = 0 := by omega
      subst hi0
      refine ⟨0, by omega, h1, step_at k8 (by omega) (fun _ => rfl) (fun j hj => by omega) ?_⟩
      simp only [nextL, if_neg k8, if_pos kx, List.getElem_take] at h2
      simpa using h2
    · have hL : nextL (.mk k N mod nm names vars types subs) = subs := by simp only [nextL, if_neg k8, if_neg kx]
      have hi' : i < subs.length := by rw [hL] at hi; exact hi
      refine ⟨i, hi', h1, step_at k8 hi' (fun h => absurd h kx) (fun j hj => ?_) ?_⟩
      · have := h3 j hj; simp only [hL] at this; simpa using this
      · simp only [hL] at h2; simpa using h2
end
end Go.Proofs.Mv.App
open Go Go.Proofs Go.Proofs.Mv.V
set_option maxRecDepth 10000
namespace Go.Proofs.Mv.App
section
variable [GI]
theorem rCloneBnd {EL : List (List D)} (hl : EL.length ≤ 1000000) (hne : EL ≠ []) (m : Mem) (n : Nat) : ACalls Tryz.prog 225 [.sl 9 EL] m n
    (fun d m' n' => ∃ k g, d = .own k g 0 EL.length 9 ∧ m' k = some ⟨9, EL, g⟩ ∧ n ≤ k ∧ k < n' ∧ n ≤ n' ∧ ∀ j, j < n → m' j = m j) := by
  cases EL with
  | nil => exact absurd rfl hne
  | cons a r =>
    simp only [List.length_cons] at hl
    refine acalls_vc [0, 2, 4] Tryz.func225 Tryz.ntmps225 (by kernel_rfl) rfl rfl (by simp) ?_
    simp -dsimp
    exact ⟨by omega, _, _, ⟨rfl, rfl⟩, set_same _ _ _, by omega, by omega, fun j hj => set_ne _ _ _ _ (by omega)⟩
theorem rIdxBndO {l : List (Bnd)} {q : Bnd → Bool} {fp : FuncId} {cs : List D} {m : Mem} {n k g : Nat} (hcs : List.length cs ≤ 3) (hm : m k = some ⟨9, l.map bndD, g⟩) (hp : ∀ x ∈ l, PcAt Tryz.prog fp (.agg (bndD x) :: cs) (Tt (q x)) m n) (hlen : l.length ≤ 9223372036854775807) :
    PcAt Tryz.prog 192 [.own k g 0 l.length 9, .func (.func fp) [] cs] (I (findI q l)) m n := by
  refine pcat_of (pur_I _) ?_
  have hL2 : (l.map bndD).length = l.length := by simp
  have hG2 : ∀ i (h : i < l.length), (l.map bndD)[i]? = some (bndD l[i]) := fun i h => by simp [h]
  generalize l.map bndD = EL at hL2 hG2 hm
  refine acalls_vc [0, 1, 4, 5, 7, 8, 9, 16] Tryz.func192 Tryz.ntmps192 (by kernel_rfl) rfl rfl (by simp) ?_
  simp -dsimp [hL2, I]
  refine vloop_as (β := Nat) (fun i => [(0, .own k g 0 l.length 9), (1, .func (.func fp) [] cs), (7, I l.length), (8, I i)]) (fun i m2 n2 => m2 = m ∧ n2 = n ∧ i ≤ l.length ∧ ∀ x ∈ l.take i, q x = false) (fun i => l.length - i) 0 (by simp [I]) ⟨rfl, rfl, by omega, by simp⟩ ?_
  rintro i m2 n2 ⟨rfl, rfl, le, hno⟩
  by_cases hi : (i : Int) < l.length
  · have hi' : i < l.length := by omega
    have wi : IntKind.i64.wrap ((i : Int) + 1) = (i : Int) + 1 := wrap_i64 (by omega) (by omega)
    have hiN : i < EL.length := by omega
    have hgi : EL[i] = bndD l[i] := get_opt (hG2 i hi') hiN
    have hz : (bndD l[i]).length = 9 := by simp
    have hc := hp l[i] (List.getElem_mem hi')
    generalize bndD l[i] = XX at hgi hz hc
    have htz : List.take 9 XX = XX := List.take_of_length_le (by omega)
    simp -dsimp [I, Tt, hi, hi', hm, hiN, hgi, hz, htz]
    refine pcallAt hc ?_
    cases e : q l[i] with
    | true =>
      simp -dsimp [I, Tt]
      exact pcq' (by rw [findI_hit hi' e hno])
    | false =>
      simp -dsimp [I, Tt, wi]
      refine rnd (i + 1) (by omega) (by simp [I]) ⟨rfl, rfl, by omega, fun x hx => ?_⟩
      rw [List.take_succ_eq_append_getElem hi'] at hx
      rcases List.mem_append.1 hx with hx | hx
      · exact hno x hx
      · simp at hx; rw [hx]; exact e
  · have : i = l.length := by omega
    subst this
    rw [List.take_length] at hno
    simp -dsimp [I, Tt, hi]
    exact pcq' (by rw [findI_no hno])
structure DelL (l : List Bnd) (q : Bnd → Bool) (m : Mem) (n k g : Nat) (b : Nat × Nat × List (List D)) (m2 : Mem) (n2 : Nat) : Prop where
  o : m2 k = some ⟨9, b.2.2, g⟩
  le : b.2.1 ≤ l.length
  lt : b.1 < b.2.1
  ln : b.2.2.length = l.length
  tk : b.2.2.take b.1 = ((l.take b.2.1).filter fun x => !q x).map bndD
  il : b.1 = ((l.take b.2.1).filter fun x => !q x).length
  dr : ∀ j (h : j < l.length), b.2.1 ≤ j → b.2.2[j]? = some (bndD l[j])
  nine : ∀ e ∈ b.2.2, e.length = 9
  fr : ∀ j, j ≠ k → j < n → m2 j = m j
  nn : n ≤ n2
end
theorem filter_all_of {l : List Bnd} {q : Bnd → Bool} (h : ∀ x ∈ l, q x = false) : (l.filter fun x => !q x) = l := List.filter_eq_self.2 fun x hx => by simp [h x hx]
set_option maxHeartbeats 4000000 in
theorem rDelBnd [GI] {l : List Bnd} {q : Bnd → Bool} {fp : FuncId} {cs : List D} {m : Mem} {n k g : Nat} (hm : m k = some ⟨9, l.map bndD, g⟩) (hk : k < n) (hcs : cs.length ≤ 3)
    (hp : ∀ M N, (∀ j, j ≠ k → j < n → M j = m j) → n ≤ N → ∀ x ∈ l, PcAt Tryz.prog fp (.agg (bndD x) :: cs) (Tt (q x)) M N) (hlen : l.length ≤ 1000) :
    ACalls Tryz.prog 224 [.own k g 0 l.length 9, .func (.func fp) [] cs] m n
      (fun d m' n' => Lst m' 9 ((l.filter fun x => !q x).map bndD) d ∧ n ≤ n' ∧ (∀ j, kof d = some j → j = k) ∧ ∀ j, j ≠ k → j < n → m' j = m j) := by
  have hix := rIdxBndO (q := q) (fp := fp) hcs hm (hp m n (fun _ _ _ => rfl) (Nat.le_refl _)) (by omega)
  refine acalls_vc [0, 1, 4, 5, 6, 7, 12, 19, 29] Tryz.func224 Tryz.ntmps224 (by kernel_rfl) rfl rfl (by simp) ?_
  simp -dsimp
  refine pcallAt hix ?_
  rcases findI_spec q l with ⟨h1, h2⟩ | ⟨i, hi, h1, h2, h3⟩
  · rw [h1]
    simp -dsimp [I]
    exact Lst.mk hm (by rw [filter_all_of h2]; simp) (by simp) (by rw [filter_all_of h2]; exact List.take_of_length_le (by simp))
  rw [h1]
  have wi0 : IntKind.i64.wrap ((i : Int) + 1) = (i : Int) + 1 := wrap_i64 (by omega) (by omega)
  have hneg : ¬ (i : Int) = -1 := by omega
  have hnegb : ((i : Int) == -1) = false := by simp
  simp -dsimp [I, wi0, hneg, hnegb]
  have htk : (l.take (i + 1)).filter (fun x => !q x) = l.take i := by
    rw [List.take_succ_eq_append_getElem hi, List.filter_append, filter_all_of fun x hx => ?_]
    · simp [h2]
    · obtain ⟨j, hj, rfl⟩ := List.mem_take_iff_getElem.1 hx
      exact h3 j (by omega)
  refine vloop_as (β := Nat × Nat × List (List D)) (fun b => [(0, .own k g 0 l.length 9), (1, .func (.func fp) [] cs), (5, I b.1), (6, I b.2.1)]) (DelL l q m n k g) (fun b => l.length - b.2.1) (i, i + 1, l.map bndD) (by simp [I])
    ⟨hm, by simp only; omega, by simp, by simp, by simp only [htk]; simp, by simp only [htk]; simp; omega, fun j h _ => by simp [h], fun e he => by obtain ⟨x, _, rfl⟩ := List.mem_map.1 he; simp, fun _ _ _ => rfl, Nat.le_refl _⟩ ?_
  rintro ⟨i, j, ES⟩ m2 n2 ⟨hmk, hle, hlt, hln, htk, hil, hdr, h9, hfr, hnn⟩
  simp only at hmk hle hlt hln htk hil hdr h9
  have hkn : k ≠ n2 := by omega
  by_cases hj : (j : Int) < l.length
  · have hj' : j < l.length := by omega
    have wj : IntKind.i64.wrap ((j : Int) + 1) = (j : Int) + 1 := wrap_i64 (by omega) (by omega)
    have wi : IntKind.i64.wrap ((i : Int) + 1) = (i : Int) + 1 := wrap_i64 (by omega) (by omega)
    have hjE : j < ES.length := by omega
    have hiE : i < ES.length := by omega
    have hi' : i < l.length := by omega
    have hgj : ES[j] = bndD l[j] := get_opt (hdr j hj' (Nat.le_refl _)) hjE
    have hz : (bndD l[j]).length = 9 := by simp
    have hpx := pur_bnd l[j]
    have hzi : (ES[i]).length = 9 := h9 _ (List.getElem_mem hiE)
    have hc := fun M N h1 h2 => hp M N h1 h2 l[j] (List.getElem_mem hj')
    have hXX : ∃ XX, XX = bndD l[j] := ⟨_, rfl⟩
    obtain ⟨XX, hXX⟩ := hXX
    rw [← hXX] at hgj hz hc hpx
    have htz : List.take 9 XX = XX := List.take_of_length_le (by omega)
    have hdz : List.drop 9 ES[i] = [] := List.drop_eq_nil_of_le (by omega)
    simp -dsimp [I, hj, hj', hmk, hjE, hgj, hz, htz, set_ne, hkn]
    refine pcallAt (hc _ _ (fun x q1 q2 => by rw [set_ne _ _ _ _ (by omega)]; exact hfr x q1 q2) (by omega)) ?_
    cases e : q l[j] with
    | true =>
      simp -dsimp [I, Tt, wj]
      have hft : (l.take (j + 1)).filter (fun x => !q x) = (l.take j).filter (fun x => !q x) := by
        rw [List.take_succ_eq_append_getElem hj', List.filter_append]; simp [e]
      refine rnd (i, j + 1, ES) (by simp; omega) (by simp [I]) ⟨by rw [set_ne _ _ _ _ hkn]; exact hmk, by simp only; omega, by simp only; omega, hln, by simp only [hft]; exact htk, by simp only [hft]; exact hil, fun x h1 h2 => hdr x h1 (by simp only at h2; omega), h9, fun x q1 q2 => by rw [set_ne _ _ _ _ (by omega)]; exact hfr x q1 q2, by omega⟩
    | false =>
      simp -dsimp [I, Tt, wi, wj, hi', hiE, hmk, hz, htz, hzi, hdz, set_ne, hkn]
      have hft : (l.take (j + 1)).filter (fun x => !q x) = (l.take j).filter (fun x => !q x) ++ [l[j]] := by
        rw [List.take_succ_eq_append_getElem hj', List.filter_append]; simp [e]
      refine rnd (i + 1, j + 1, ES.set i XX) (by simp; omega) (by simp [I]) ⟨by simp, by simp only; omega, by simp only; omega, by simp [hln], ?_, ?_, fun x h1 h2 => ?_, fun y hy => ?_, fun x q1 q2 => ?_, by omega⟩
      · simp only [hft, List.map_append, List.map_cons, List.map_nil, ← htk, ← hXX]
        rw [List.take_succ_eq_append_getElem (by simp; exact hiE), List.take_set_of_le (Nat.le_refl _)]
        simp
      · simp only [hft, List.length_append, List.length_singleton]
        omega
      · simp only at h2 ⊢
        rw [List.getElem?_set_ne (by omega)]
        exact hdr x h1 (by omega)
      · simp only at hy
        rcases List.mem_or_eq_of_mem_set hy with hy | hy
        · exact h9 y hy
        · rw [hy]; exact hz
      · rw [set_ne _ _ _ _ q1, set_ne _ _ _ _ (by omega)]; exact hfr x q1 q2
  · have e : j = l.length := by omega
    subst e
    rw [List.take_length] at htk hil
    have hiL : (i : Int) ≤ l.length := by omega
    have hiL' : i ≤ l.length := by omega
    simp -dsimp [I, hj, hmk, hln, hiL, hiL', set_ne, hkn]
    exact ⟨Lst.mk (set_same _ _ _) (by simpa using hil) (by simp; omega) (by rw [List.take_append_of_le_length (by simp; omega), List.take_of_length_le (by simp; omega)]; exact htk), hnn, fun j q1 q2 => by rw [set_ne _ _ _ _ q1]; exact hfr j q1 q2⟩
theorem cWout1 {b : Bnd} {names : Nms} (hl : names.length ≤ 1000) {k : Nat} {m : Mem} {n : Nat} (hk : k < n) (hm : m k = some ⟨1, [[sl1 names]], 0⟩) : PcAt Tryz.prog 226 [.agg (bndD b), .ptr k 0 0 0] (Tt (decide (b.1 ∈ names))) m n := by
  refine pcat_of (pur_T _) ?_
  have kn : k ≠ n := by omega
  have h8 : (tmD b.2).length = 8 := by simp
  have hc := cContainsSl (l := names) (by omega) b.1
  simp only [bndD]
  simp only [S] at hc
  generalize tmD b.2 = X at h8
  refine acalls_vc [0, 1, 2, 3] Tryz.func226 Tryz.ntmps226 (by kernel_rfl) rfl rfl (by simp) ?_
  simp -dsimp [hm, set_ne, kn, h8, S]
  refine pcall hc ?_
  simp -dsimp [Tt]
  exact pcq rfl fun j hj => set_ne _ _ _ _ (by omega)
theorem wout_filter (l : List Bnd) (names : Nms) : (l.filter fun x => !decide (x.1 ∈ names)) = wout l names := rfl
set_option maxHeartbeats 1000000 in
theorem cWout : WoutC := by
  intro l names hl hnl hne
  refine pc_pub (fun m n => ?_)
  have hcl := fun M N => rCloneBnd (EL := l.map bndD) (by simp; omega) (by simpa using hne) M N
  have hLL : (l.map bndD).length = l.length := by simp
  rw [hLL] at hcl
  refine acalls_vc [0, 1, 3, 4] Tryz.func194 Tryz.ntmps194 (by kernel_rfl) rfl rfl (by simp) ?_
  simp -dsimp [sl1]
  refine aCall_of (hcl _ _) ?_
  rintro d m' n' ⟨k, g, rfl, q1, q2, q3, q4, q5⟩
  have p0 := (q5 n (by omega)).trans (set_same _ _ _)
  simp -dsimp
  refine aCall_of (rDelBnd (l := l) (q := fun x => decide (x.1 ∈ names)) (fp := 226) (cs := [.ptr n 0 0 0]) q1 q3 (by simp) (fun M N h1 h2 x hx => cWout1 hnl (by omega) ((h1 n (by omega) (by omega)).trans p0)) hl) ?_
  rintro d m2 n2 ⟨r1, r2, r3, r4⟩
  rw [wout_filter] at r1
  simp -dsimp
  refine pcp (.lstP r1 (fun j hj => by have := r3 j hj; omega) (pur_bnds _)) fun j hj => ?_
  rw [r4 j (by omega) (by omega), q5 j (by omega), set_ne _ _ _ _ (by omega)]
end Go.Proofs.Mv.App
open Go Go.Proofs Go.Proofs.Mv.V
set_option maxRecDepth 10000
namespace Go.Proofs.Mv.App
theorem cIdxDfA {l : List (Df)} {q : Df → Bool} {fp : FuncId} {cs : List D} {m : Mem} {n : Nat} (hcs : List.length cs ≤ 3) (hp : ∀ x ∈ l, PcAt Tryz.prog fp (.agg (dfD x) :: cs) (Tt (q x)) m n) (hlen : l.length ≤ 9223372036854775807) :
    PcAt Tryz.prog 128 [.sl 10 (l.map dfD), .func (.func fp) [] cs] (I (findI q l)) m n := by
  refine pcat_of (pur_I _) ?_
  have hL2 : (l.map dfD).length = l.length := by simp
  have hG2 : ∀ i (h : i < l.length), (l.map dfD)[i]? = some (dfD l[i]) := fun i h => by simp [h]
  generalize l.map dfD = EL at hL2 hG2
  refine acalls_vc [0, 1, 4, 5, 7, 8, 9, 16] Tryz.func128 Tryz.ntmps128 (by kernel_rfl) rfl rfl (by simp) ?_
  simp -dsimp [hL2, I]
  refine vloop_as (β := Nat) (fun i => [(0, .sl 10 EL), (1, .func (.func fp) [] cs), (7, I l.length), (8, I i)]) (fun i m2 n2 => m2 = m ∧ n2 = n ∧ i ≤ l.length ∧ ∀ x ∈ l.take i, q x = false) (fun i => l.length - i) 0 (by simp [I]) ⟨rfl, rfl, by omega, by simp⟩ ?_
  rintro i m2 n2 ⟨rfl, rfl, le, hno⟩
  by_cases hi : (i : Int) < l.length
  · have hi' : i < l.length := by omega
    have wi : IntKind.i64.wrap ((i : Int) + 1) = (i : Int) + 1 := wrap_i64 (by omega) (by omega)
    have hiN : i < EL.length := by omega
    have hgi : EL[i] = dfD l[i] := get_opt (hG2 i hi') hiN
    have hz : (dfD l[i]).length = 10 := by simp
    have hc := hp l[i] (List.getElem_mem hi')
    generalize dfD l[i] = XX at hgi hz hc
    have htz : List.take 10 XX = XX := List.take_of_length_le (by omega)
    simp -dsimp [I, Tt, hi, hi', hiN, hgi, hz, htz]
    refine pcallAt hc ?_
    cases e : q l[i] with
    | true =>
      simp -dsimp [I, Tt]
      exact pcq' (by rw [findI_hit hi' e hno])
    | false =>
      simp -dsimp [I, Tt, wi]
      refine rnd (i + 1) (by omega) (by simp [I]) ⟨rfl, rfl, by omega, fun x hx => ?_⟩
      rw [List.take_succ_eq_append_getElem hi'] at hx
      rcases List.mem_append.1 hx with hx | hx
      · exact hno x hx
      · simp at hx; rw [hx]; exact e
  · have : i = l.length := by omega
    subst this
    rw [List.take_length] at hno
    simp -dsimp [I, Tt, hi]
    exact pcq' (by rw [findI_no hno])
theorem cMeans1 {b : Df} {o0 o1 o4 o5 o6 o7 : D} {md nm : List UInt8} {k : Nat} {m : Mem} {n : Nat} (hk : k < n) (hm : m k = some ⟨8, [[o0, o1, S md, S nm, o4, o5, o6, o7]], 0⟩) : PcAt Tryz.prog 191 [.agg (dfD b), .ptr k 0 0 0] (Tt (decide (b.mod = md) && decide (b.name = nm))) m n := by
  refine pcat_of (pur_T _) ?_
  have kn : k ≠ n := by omega
  have h8 : (tmD b.term).length = 8 := by simp
  simp only [dfD]
  generalize tmD b.term = X at h8
  refine acalls_vc [0, 1, 2, 3] Tryz.func191 Tryz.ntmps191 (by kernel_rfl) rfl rfl (by simp) ?_
  by_cases e1 : b.mod = md
  · simp -dsimp [hm, set_ne, kn, h8, S, e1]
    refine pcq ?_ fun j hj => set_ne _ _ _ _ (by omega)
    simp only [Tt]
    rw [show (b.name == nm) = decide (b.name = nm) by rw [Bool.eq_iff_iff]; simp]
  · have e1' : (b.mod == md) = false := by simpa using e1
    simp -dsimp [hm, set_ne, kn, h8, S, e1, e1']
    refine pcq ?_ fun j hj => set_ne _ _ _ _ (by omega)
    simp [Tt]
end Go.Proofs.Mv.App
