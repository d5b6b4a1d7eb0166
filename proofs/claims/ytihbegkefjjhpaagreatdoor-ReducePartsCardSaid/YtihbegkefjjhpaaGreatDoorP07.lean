/- A part of the proofs: machine, contracts, laws. No condition of its own. -/
import Derived.Test.YtihbegkefjjhpaaGreatDoorP06
import Derived.Test.YtihbegkefjjhpaaGreatDoorP04
set_option linter.unusedSimpArgs false
set_option linter.unusedVariables false
set_option linter.unusedSectionVars false
open Go Go.Proofs Go.Proofs.Mv.V
namespace Go.Proofs.Mv.App
def kindTmK : Tm → Int
  | .mk k _ _ _ _ _ _ _ => k
theorem nameN_len {s : List UInt8} (h : nameN s = true) : s.length ≤ 20 := by
  simp only [nameN, Bool.and_eq_true] at h
  exact (small_parts h.1).2.2.1
theorem tagN_len {s : List UInt8} (h : tagN s = true) : s.length ≤ 20 := by
  simp only [tagN, Bool.and_eq_true] at h
  exact (great_parts h.1.1).2.2.1
theorem risO_mem {ok : List UInt8 → Bool} {l : List (List UInt8)} (h : risO ok l = true) {s : List UInt8} (hs : s ∈ l) : ok s = true := by
  obtain ⟨j, hj, rfl⟩ := List.getElem_of_mem hs
  have := risO_step h hj
  rw [stepO_get hj] at this
  simp only [Bool.and_eq_true] at this
  exact this.1
structure TmSm (mod nm : List UInt8) (names vars : List (List UInt8)) (types : List Ty) (subs : List Tm) : Prop where
  ln : names.length ≤ 21
  lv : vars.length ≤ 21
  ly : types.length ≤ 21
  ls : subs.length ≤ 21
  sm : mod.length ≤ 20
  sn : nm.length ≤ 20
  nn : ∀ s ∈ names, s.length ≤ 20
  nv : ∀ s ∈ vars, s.length ≤ 20
  ny : ∀ y ∈ types, mayT y = true
def cntK (k : Int) (n v y s : Nat) : Prop :=
  (k = 1 ∨ k = 2 ∨ k = 3 ∨ k = 4) ∧ n = 0 ∧ v = 0 ∧ y = 0 ∧ s = 0 ∨ k = 5 ∧ v = 0 ∧ y = 0 ∧ s = n ∨ (k = 6 ∨ k = 7) ∧ n = 0 ∧ v = 0 ∧ y = 0 ∧ s = 1 ∨ k = 8 ∧ v = 0 ∧ y = n ∧ s = 1 ∨
    (k = 9 ∨ k = 10) ∧ n = 0 ∧ v = 0 ∧ y = 0 ∧ 1 ≤ s ∨ k = 11 ∧ n = 0 ∧ v = 0 ∧ y = 0 ∧ s = 3 ∨ k = 12 ∧ 1 ≤ n ∧ v = n ∧ y = 0 ∧ s = n + 1
theorem fitsT_parts {names vars : List (List UInt8)} {types : List Ty} {subs : List Tm} (h : fitsT names vars types subs = true) : names.length ≤ 21 ∧ vars.length ≤ 21 ∧ types.length ≤ 21 ∧ subs.length ≤ 21 := by
  simp only [fitsT, Bool.and_eq_true, decide_eq_true_eq] at h; exact ⟨h.1.1.1, h.1.1.2, h.1.2, h.2⟩
theorem bareTm_parts {k N : Int} {mod nm : List UInt8} (h : bareTm k N mod nm = true) : (N = 0 ∨ k = 1 ∨ k = 2) ∧ (mod = [] ∨ k = 4) ∧ (nm = [] ∨ k = 3 ∨ k = 4 ∨ k = 6 ∨ k = 7) := by
  simp only [bareTm, Bool.and_eq_true, Bool.or_eq_true, decide_eq_true_eq] at h
  exact ⟨or_assoc.1 h.1.1, h.1.2, or_assoc.1 (or_assoc.1 (or_assoc.1 h.2))⟩
structure KindOk (k N : Int) (mod nm : List UInt8) (names vars : List (List UInt8)) (types : List Ty) (subs : List Tm) : Prop where
  cn : cntK k names.length vars.length types.length subs.length
  n1 : k = 1 → 0 ≤ N ∧ N ≤ 999999999
  n2 : k = 2 → N = 0 ∨ N = 1
  nm3 : k = 3 ∨ k = 4 ∨ k = 6 → nameN nm = true
  md4 : k = 4 → nameN mod = true
  tg7 : k = 7 → tagN nm = true
  r5 : k = 5 → risO nameN names = true
  r8 : k = 8 → names.all nameN = true ∧ distN names = true ∧ types.all mayT = true
  r12 : k = 12 → risO tagN names = true ∧ vars.all nameN = true
theorem kindTm_ok {k N : Int} {mod nm : List UInt8} {names vars : List (List UInt8)} {types : List Ty} {subs : List Tm} (h : kindTm k N mod nm names vars types subs = true) : KindOk k N mod nm names vars types subs := by
  have dq : ∀ {a b : Int}, a ≠ b → k = a → ¬ k = b := fun h1 h2 h3 => h1 (h2.symm.trans h3)
  unfold kindTm at h
  split at h
  · rename_i e; subst e
    simp only [Bool.and_eq_true, decide_eq_true_eq] at h
    obtain ⟨a, b, c, d⟩ := cntsT_parts h.1.1
    exact ⟨.inl ⟨.inl rfl, a, b, c, d⟩, fun _ => ⟨h.1.2, h.2⟩, by omega, by omega, by omega, by omega, by omega, by omega, by omega⟩
  split at h
  · rename_i e; subst e
    simp only [Bool.and_eq_true, Bool.or_eq_true, decide_eq_true_eq] at h
    obtain ⟨a, b, c, d⟩ := cntsT_parts h.1
    exact ⟨.inl ⟨.inr (.inl rfl), a, b, c, d⟩, by omega, fun _ => h.2, by omega, by omega, by omega, by omega, by omega, by omega⟩
  split at h
  · rename_i e; subst e
    simp only [Bool.and_eq_true] at h
    obtain ⟨a, b, c, d⟩ := cntsT_parts h.1
    exact ⟨.inl ⟨.inr (.inr (.inl rfl)), a, b, c, d⟩, by omega, by omega, fun _ => h.2, by omega, by omega, by omega, by omega, by omega⟩
  split at h
  · rename_i e; subst e
    simp only [Bool.and_eq_true] at h
    obtain ⟨a, b, c, d⟩ := cntsT_parts h.1.1
    exact ⟨.inl ⟨.inr (.inr (.inr rfl)), a, b, c, d⟩, by omega, by omega, fun _ => h.1.2, fun _ => h.2, by omega, by omega, by omega, by omega⟩
  split at h
  · rename_i e; subst e
    simp only [Bool.and_eq_true] at h
    obtain ⟨a, b, c, d⟩ := cntsT_parts h.1
    exact ⟨.inr (.inl ⟨rfl, b, c, d⟩), by omega, by omega, by omega, by omega, by omega, fun _ => h.2, by omega, by omega⟩
  split at h
  · rename_i e; subst e
    simp only [Bool.and_eq_true] at h
    obtain ⟨a, b, c, d⟩ := cntsT_parts h.1
    exact ⟨.inr (.inr (.inl ⟨.inl rfl, a, b, c, d⟩)), by omega, by omega, fun _ => h.2, by omega, by omega, by omega, by omega, by omega⟩
  split at h
  · rename_i e; subst e
    simp only [Bool.and_eq_true] at h
    obtain ⟨a, b, c, d⟩ := cntsT_parts h.1
    exact ⟨.inr (.inr (.inl ⟨.inr rfl, a, b, c, d⟩)), by omega, by omega, by omega, by omega, fun _ => h.2, by omega, by omega, by omega⟩
  split at h
  · rename_i e; subst e
    simp only [Bool.and_eq_true] at h
    obtain ⟨a, b, c, d⟩ := cntsT_parts h.1.1.1
    exact ⟨.inr (.inr (.inr (.inl ⟨rfl, b, c, d⟩))), by omega, by omega, by omega, by omega, by omega, by omega, fun _ => ⟨h.1.1.2, h.1.2, h.2⟩, by omega⟩
  split at h
  · rename_i e
    simp only [Bool.and_eq_true, decide_eq_true_eq] at h
    obtain ⟨a, b, c, d⟩ := cntsT_parts h.1
    exact ⟨.inr (.inr (.inr (.inr (.inl ⟨e, a, b, c, h.2⟩)))), by omega, by omega, by omega, by omega, by omega, by omega, by omega, by omega⟩
  split at h
  · rename_i e; subst e
    obtain ⟨a, b, c, d⟩ := cntsT_parts h
    exact ⟨.inr (.inr (.inr (.inr (.inr (.inl ⟨rfl, a, b, c, d⟩))))), by omega, by omega, by omega, by omega, by omega, by omega, by omega, by omega⟩
  split at h
  · rename_i e; subst e
    simp only [Bool.and_eq_true, decide_eq_true_eq] at h
    obtain ⟨a, b, c, d⟩ := cntsT_parts h.1.1.2
    exact ⟨.inr (.inr (.inr (.inr (.inr (.inr ⟨rfl, h.1.1.1, b, c, d⟩))))), by omega, by omega, by omega, by omega, by omega, by omega, by omega, fun _ => ⟨h.1.2, h.2⟩⟩
  · cases h
theorem KindOk.sm {k N : Int} {mod nm : List UInt8} {names vars : List (List UInt8)} {types : List Ty} {subs : List Tm} (h : KindOk k N mod nm names vars types subs) (hf : fitsT names vars types subs = true) (hb : bareTm k N mod nm = true) : TmSm mod nm names vars types subs := by
  obtain ⟨f1, f2, f3, f4⟩ := fitsT_parts hf
  obtain ⟨b1, b2, b3⟩ := bareTm_parts hb
  have hc := h.cn
  unfold cntK at hc
  have nil : ∀ {α : Type} {l : List α} {p : α → Prop}, l.length = 0 → ∀ x ∈ l, p x := fun e x hx => by
    rw [List.length_eq_zero_iff] at e; subst e; cases hx
  refine ⟨f1, f2, f3, f4, ?_, ?_, ?_, ?_, ?_⟩
  · rcases b2 with rfl | e
    · simp
    · exact nameN_len (h.md4 e)
  · rcases b3 with rfl | e | e | e | e
    · simp
    · exact nameN_len (h.nm3 (.inl e))
    · exact nameN_len (h.nm3 (.inr (.inl e)))
    · exact nameN_len (h.nm3 (.inr (.inr e)))
    · exact tagN_len (h.tg7 e)
  · by_cases k5 : k = 5
    · exact fun s hs => nameN_len (risO_mem (h.r5 k5) hs)
    by_cases k8 : k = 8
    · exact fun s hs => nameN_len (List.all_eq_true.1 (h.r8 k8).1 s hs)
    by_cases k12 : k = 12
    · exact fun s hs => tagN_len (risO_mem (h.r12 k12).1 hs)
    exact nil (by omega)
  · by_cases k12 : k = 12
    · exact fun s hs => nameN_len (List.all_eq_true.1 (h.r12 k12).2 s hs)
    exact nil (by omega)
  · by_cases k8 : k = 8
    · exact fun s hs => List.all_eq_true.1 (h.r8 k8).2.2 s hs
    exact nil (by omega)
theorem shapeTm_parts {k N : Int} {mod nm : List UInt8} {names vars : List (List UInt8)} {types : List Ty} {subs : List Tm} (h : shapeTm (.mk k N mod nm names vars types subs) = true) : KindOk k N mod nm names vars types subs ∧ TmSm mod nm names vars types subs := by
  simp only [shapeTm, Bool.and_eq_true] at h
  have := kindTm_ok h.2
  exact ⟨this, this.sm h.1.1 h.1.2⟩
/-! How long. -/
end Go.Proofs.Mv.App
open Go Go.Proofs Go.Proofs.Mv.V
namespace Go.Proofs.Mv.App
abbrev Nms := List (List UInt8)
mutual
def cloT : Tm → Nms → Bool
  | .mk k _ _ nm names vars _ subs, ns =>
    if k = 3 then decide (nm ∈ ns)
    else if k = 8 then cloTs subs (ns ++ names)
    else if k = 12 then cloC subs vars ns
    else cloTs subs ns
def cloTs : List Tm → Nms → Bool
  | [], _ => true
  | t :: ts, ns => cloT t ns && cloTs ts ns
def cloC : List Tm → Nms → Nms → Bool
  | [], _, _ => true
  | t :: ts, vars, ns => cloT t ns && cloB ts vars ns
def cloB : List Tm → Nms → Nms → Bool
  | [], _, _ => true
  | t :: ts, [], ns => cloT t ns && cloB ts [] ns
  | t :: ts, v :: vs, ns => cloT t (ns ++ [v]) && cloB ts vs ns
end
abbrev Bnd := List UInt8 × Tm
def wout (l : List Bnd) (names : Nms) : List Bnd := l.filter fun b => !decide (b.1 ∈ names)
mutual
def putT : Tm → List Bnd → Tm
  | .mk k N mod nm names vars types subs, l =>
    if k = 3 then (match l.find? (fun b => decide (b.1 = nm)) with | some b => b.2 | none => .mk k N mod nm names vars types subs)
    else if k = 8 then .mk k N mod nm names vars types (putTs subs (wout l names))
    else if k = 12 then .mk k N mod nm names vars types (putC subs vars l)
    else .mk k N mod nm names vars types (putTs subs l)
def putTs : List Tm → List Bnd → List Tm
  | [], _ => []
  | t :: ts, l => putT t l :: putTs ts l
def putC : List Tm → Nms → List Bnd → List Tm
  | [], _, _ => []
  | t :: ts, vars, l => putT t l :: putB ts vars l
def putB : List Tm → Nms → List Bnd → List Tm
  | [], _, _ => []
  | t :: ts, [], l => putT t l :: putB ts [] l
  | t :: ts, v :: vs, l => putT t (wout l [v]) :: putB ts vs l
end
theorem wout_nil (names : Nms) : wout [] names = [] := rfl
mutual
theorem putT_nil : ∀ t : Tm, putT t [] = t
  | .mk k N mod nm names vars types subs => by
    simp only [putT, wout_nil, putTs_nil subs, putC_nil subs vars, List.find?_nil]
    split
    · rfl
    split
    · rfl
    split <;> rfl
theorem putTs_nil : ∀ l : List Tm, putTs l [] = l
  | [] => rfl
  | t :: ts => by simp only [putTs, putT_nil t, putTs_nil ts]
theorem putC_nil : ∀ (l : List Tm) (vars : Nms), putC l vars [] = l
  | [], _ => by simp only [putC]
  | t :: ts, vars => by simp only [putC, putT_nil t, putB_nil ts vars]
theorem putB_nil : ∀ (l : List Tm) (vars : Nms), putB l vars [] = l
  | [], _ => by simp only [putB]
  | t :: ts, [] => by simp only [putB, putT_nil t, putB_nil ts []]
  | t :: ts, v :: vs => by simp only [putB, wout_nil, putT_nil t, putB_nil ts vs]
end
theorem mem_wout {l : List Bnd} {names : Nms} {b : Bnd} : b ∈ wout l names ↔ b ∈ l ∧ b.1 ∉ names := by simp [wout]
theorem sub_app {ns ms l : Nms} (h : ∀ x ∈ ns, x ∈ ms) : ∀ x ∈ ns ++ l, x ∈ ms ++ l := fun x hx => by
  rcases List.mem_append.1 hx with q | q
  · exact List.mem_append.2 (.inl (h x q))
  · exact List.mem_append.2 (.inr q)
mutual
theorem cloT_mono : ∀ (t : Tm) {ns ms : Nms}, (∀ x ∈ ns, x ∈ ms) → cloT t ns = true → cloT t ms = true
  | .mk k N mod nm names vars types subs, ns, ms, h => by
    simp only [cloT]
    split
    · intro e; simp only [decide_eq_true_eq] at e ⊢; exact h _ e
    split
    · exact cloTs_mono subs (sub_app h)
    split
    · exact cloC_mono subs vars h
    · exact cloTs_mono subs h
theorem cloTs_mono : ∀ (l : List Tm) {ns ms : Nms}, (∀ x ∈ ns, x ∈ ms) → cloTs l ns = true → cloTs l ms = true
  | [], _, _, _ => fun _ => rfl
  | t :: ts, ns, ms, h => by
    simp only [cloTs, Bool.and_eq_true]
    exact fun e => ⟨cloT_mono t h e.1, cloTs_mono ts h e.2⟩
theorem cloC_mono : ∀ (l : List Tm) (vars : Nms) {ns ms : Nms}, (∀ x ∈ ns, x ∈ ms) → cloC l vars ns = true → cloC l vars ms = true
  | [], _, _, _, _ => fun _ => by simp only [cloC]
  | t :: ts, vars, ns, ms, h => by
    simp only [cloC, Bool.and_eq_true]
    exact fun e => ⟨cloT_mono t h e.1, cloB_mono ts vars h e.2⟩
theorem cloB_mono : ∀ (l : List Tm) (vars : Nms) {ns ms : Nms}, (∀ x ∈ ns, x ∈ ms) → cloB l vars ns = true → cloB l vars ms = true
  | [], _, _, _, _ => fun _ => by simp only [cloB]
  | t :: ts, [], ns, ms, h => by
    simp only [cloB, Bool.and_eq_true]
    exact fun e => ⟨cloT_mono t h e.1, cloB_mono ts [] h e.2⟩
  | t :: ts, v :: vs, ns, ms, h => by
    simp only [cloB, Bool.and_eq_true]
    exact fun e => ⟨cloT_mono t (sub_app h) e.1, cloB_mono ts vs h e.2⟩
end
theorem app_put {ns names : Nms} {l : List Bnd} : ∀ x ∈ (ns ++ l.map (·.1)) ++ names, x ∈ (ns ++ names) ++ (wout l names).map (·.1) := by
  intro x hx
  by_cases e : x ∈ names
  · simp [e]
  · simp only [List.mem_append, List.mem_map] at hx ⊢
    rcases hx with (h | ⟨b, hb, rfl⟩) | h
    · exact .inl (.inl h)
    · exact .inr ⟨b, mem_wout.2 ⟨hb, e⟩, rfl⟩
    · exact absurd h e
mutual
theorem cloT_put : ∀ (t : Tm) {ns : Nms} {l : List Bnd}, (∀ b ∈ l, cloT b.2 [] = true) → cloT t (ns ++ l.map (·.1)) = true → cloT (putT t l) ns = true
  | .mk k N mod nm names vars types subs, ns, l, h => by
    by_cases k3 : k = 3
    · subst k3
      simp only [putT, if_pos]
      intro e
      cases hf : l.find? (fun b => decide (b.1 = nm)) with
      | some b =>
        exact cloT_mono b.2 (by simp) (h b (List.mem_of_find?_eq_some hf))
      | none =>
        simp only [cloT, if_pos, decide_eq_true_eq, List.mem_append, List.mem_map] at e ⊢
        rcases e with e | ⟨b, hb, rfl⟩
        · exact e
        · rw [List.find?_eq_none] at hf
          exact absurd (hf b hb) (by simp)
    · by_cases k8 : k = 8
      · subst k8
        simp only [putT, cloT, show ¬ (8 : Int) = 3 by omega, if_false, if_true]
        exact fun e => cloTs_put subs (fun b hb => h b (mem_wout.1 hb).1) (cloTs_mono subs app_put e)
      · by_cases k12 : k = 12
        · subst k12
          simp only [putT, cloT, show ¬ (12 : Int) = 3 by omega, show ¬ (12 : Int) = 8 by omega, if_false, if_true]
          exact cloC_put subs vars h
        · simp only [putT, cloT, k3, k8, k12, if_false]
          exact cloTs_put subs h
theorem cloTs_put : ∀ (ts : List Tm) {ns : Nms} {l : List Bnd}, (∀ b ∈ l, cloT b.2 [] = true) → cloTs ts (ns ++ l.map (·.1)) = true → cloTs (putTs ts l) ns = true
  | [], _, _, _ => fun _ => rfl
  | t :: ts, ns, l, h => by
    simp only [cloTs, putTs, Bool.and_eq_true]
    exact fun e => ⟨cloT_put t h e.1, cloTs_put ts h e.2⟩
theorem cloC_put : ∀ (ts : List Tm) (vars : Nms) {ns : Nms} {l : List Bnd}, (∀ b ∈ l, cloT b.2 [] = true) → cloC ts vars (ns ++ l.map (·.1)) = true → cloC (putC ts vars l) vars ns = true
  | [], _, _, _, _ => fun _ => by simp only [putC, cloC]
  | t :: ts, vars, ns, l, h => by
    simp only [cloC, putC, Bool.and_eq_true]
    exact fun e => ⟨cloT_put t h e.1, cloB_put ts vars h e.2⟩
theorem cloB_put : ∀ (ts : List Tm) (vars : Nms) {ns : Nms} {l : List Bnd}, (∀ b ∈ l, cloT b.2 [] = true) → cloB ts vars (ns ++ l.map (·.1)) = true → cloB (putB ts vars l) vars ns = true
  | [], _, _, _, _ => fun _ => by simp only [putB, cloB]
  | t :: ts, [], ns, l, h => by
    simp only [cloB, putB, Bool.and_eq_true]
    exact fun e => ⟨cloT_put t h e.1, cloB_put ts [] h e.2⟩
  | t :: ts, v :: vs, ns, l, h => by
    simp only [cloB, putB, Bool.and_eq_true]
    exact fun e => ⟨cloT_put t (fun b hb => h b (mem_wout.1 hb).1) (cloT_mono t app_put e.1), cloB_put ts vs h e.2⟩
end
/-! A step. -/
structure Df where
  mod : List UInt8
  name : List UInt8
  term : Tm
def kidsT : Tm → List Tm
  | .mk _ _ _ _ _ _ _ subs => subs
def namesT : Tm → Nms
  | .mk _ _ _ _ names _ _ _ => names
def nameT : Tm → List UInt8
  | .mk _ _ _ nm _ _ _ _ => nm
def numT : Tm → Int
  | .mk _ N _ _ _ _ _ _ => N
def defF (defs : List Df) (mod nm : List UInt8) : Option Df := defs.find? fun d => decide (d.mod = mod) && decide (d.name = nm)
def ownS (defs : List Df) (k : Int) (mod nm : List UInt8) (names vars : Nms) (subs : List Tm) : Int × Tm :=
  let c := subs.headD Tm0
  if k = 4 then (match defF defs mod nm with | some d => (0, d.term) | none => (9, Tm0))
  else if k = 6 then (if kindTmK c = 5 ∧ nm ∈ namesT c then (0, (kidsT c).getD ((namesT c).idxOf nm) Tm0) else (12, Tm0))
  else if k = 9 then (if kindTmK c = 8 ∧ (namesT c).length = subs.length - 1 then (0, putT ((kidsT c).headD Tm0) ((namesT c).zip subs.tail)) else (12, Tm0))
  else if k = 11 then (if kindTmK c = 2 then (0, if numT c = 1 then subs.getD 1 Tm0 else subs.getD 2 Tm0) else (12, Tm0))
  else if k = 12 then (if kindTmK c = 7 ∧ nameT c ∈ names then (0, putT (subs.getD (names.idxOf (nameT c) + 1) Tm0) [(vars.getD (names.idxOf (nameT c)) [], (kidsT c).headD Tm0)]) else (12, Tm0))
  else (12, Tm0)
mutual
def stepT (defs : List Df) : Tm → Int × Tm
  | .mk k N mod nm names vars types subs =>
    match (if k = 8 then none else if k = 11 ∨ k = 12 then step1 defs subs else stepL defs subs) with
    | some (c, l) => (c, .mk k N mod nm names vars types l)
    | none => ownS defs k mod nm names vars subs
def stepL (defs : List Df) : List Tm → Option (Int × List Tm)
  | [] => none
  | t :: ts => if valT t then (stepL defs ts).map fun r => (r.1, t :: r.2) else some ((stepT defs t).1, (stepT defs t).2 :: ts)
def step1 (defs : List Df) : List Tm → Option (Int × List Tm)
  | [] => none
  | t :: ts => if valT t then none else some ((stepT defs t).1, (stepT defs t).2 :: ts)
end
end Go.Proofs.Mv.App
open Go Go.Proofs Go.Proofs.Mv.V
set_option maxRecDepth 10000
namespace Go.Proofs.Mv.App
variable [GI]
structure TkOk (l : List Tok) : Prop where
  len : l.length ≤ 1000000
  txt : ∀ t ∈ l, t.text.length ≤ 1000000
def errD (p : PS) : D := if p.bad = 0 then nilE else spotE p.at_ p.bad
def toksD (l : List Tok) : D := .sl 3 (l.map tokD)
def pC (l : List Tok) (p : PS) : List D := [toksD l, I p.at_, I p.cnt, errD p]
def pObj (l : List Tok) (p : PS) : V.Obj := ⟨4, [pC l p], 0⟩
def peekD (l : List Tok) (p : PS) : List D := match cur l p with
  | some t => tokD t
  | none => [I 0, I 0, S []]
end Go.Proofs.Mv.App
