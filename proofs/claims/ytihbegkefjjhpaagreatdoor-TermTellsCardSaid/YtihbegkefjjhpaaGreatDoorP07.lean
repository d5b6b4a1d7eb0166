/- A part of the proofs: machine, contracts, laws. No condition of its own. -/
import Derived.Test.YtihbegkefjjhpaaGreatDoorP06
import Derived.Test.YtihbegkefjjhpaaGreatDoorP01
set_option linter.unusedSimpArgs false
set_option linter.unusedVariables false
set_option linter.unusedSectionVars false
open Go Go.Proofs Go.Proofs.Mv.V
namespace Go.Proofs.Mv.App
def parK (k : Int) (s : List UInt8) : List UInt8 := if k = 8 ∨ k = 11 ∨ k = 12 then [40] ++ s ++ [41] else s
def kindTmK : Tm → Int
  | .mk k _ _ _ _ _ _ _ => k
def kindH : List Tm → Int
  | [] => 0
  | t :: _ => kindTmK t
def makL (names T : List (List UInt8)) : List (List UInt8) := (List.range names.length).map fun i => names.getD i [] ++ [32, 61, 32] ++ T.getD i []
def fnL (names Y : List (List UInt8)) : List (List UInt8) := (List.range names.length).map fun i => names.getD i [] ++ [58, 32] ++ Y.getD i []
def brOne (names vars T : List (List UInt8)) (i : Nat) : List UInt8 := names.getD i [] ++ [40] ++ vars.getD i [] ++ [41, 32, 45, 62, 32] ++ T.getD (i + 1) [] ++ [32]
def brL (names vars T : List (List UInt8)) : Nat → List UInt8
  | 0 => []
  | i + 1 => brL names vars T i ++ brOne names vars T i
def textK (k N : Int) (mod nm : List UInt8) (names vars Y : List (List UInt8)) (kh : Int) (T : List (List UInt8)) : List UInt8 :=
  if k = 1 then digits N.toNat
  else if k = 2 then (if N = 1 then wTrue else wFalse)
  else if k = 3 then nm
  else if k = 4 then mod ++ [58] ++ nm
  else if k = 5 then [123] ++ joinB comma (makL names T) ++ [125]
  else if k = 6 then parK kh (T.getD 0 []) ++ [46] ++ nm
  else if k = 7 then nm ++ [40] ++ T.getD 0 [] ++ [41]
  else if k = 8 then [102, 110, 40] ++ joinB comma (fnL names Y) ++ [41, 32] ++ T.getD 0 []
  else if k = 9 then parK kh (T.getD 0 []) ++ [40] ++ joinB comma (T.drop 1) ++ [41]
  else if k = 10 then [91] ++ joinB comma T ++ [93]
  else if k = 11 then [105, 102, 32] ++ T.getD 0 [] ++ [32, 116, 104, 101, 110, 32] ++ T.getD 1 [] ++ [32, 101, 108, 115, 101, 32] ++ T.getD 2 []
  else [99, 97, 115, 101, 32] ++ T.getD 0 [] ++ [32, 111, 102, 32] ++ brL names vars T names.length ++ [101, 110, 100]
mutual
def textTm : Tm → List UInt8
  | .mk k N mod nm names vars types subs => textK k N mod nm names vars (types.map textT) (kindH subs) (textTms subs)
def textTms : List Tm → List (List UInt8)
  | [] => []
  | t :: ts => textTm t :: textTms ts
end
theorem textTms_eq : ∀ l : List Tm, textTms l = l.map textTm
  | [] => by simp [textTms]
  | t :: ts => by simp [textTms, textTms_eq ts]
theorem nameN_len {s : List UInt8} (h : nameN s = true) : s.length ≤ 20 := by
  simp only [nameN, Bool.and_eq_true] at h
  exact (small_parts h.1).2.2.1
theorem tagN_len {s : List UInt8} (h : tagN s = true) : s.length ≤ 20 := by
  simp only [tagN, Bool.and_eq_true] at h
  exact (great_parts h.1.1).2.2.1
theorem risO_mem {ok : List UInt8 → Bool} {l : List (List UInt8)} (h : risO ok l = true) {s : List UInt8} (hs : s ∈ l) : ok s = true := by
  obtain ⟨j, hj, rfl⟩ := List.getElem_of_mem hs
  have := risO_step h hj
  rw [stepO_get hj] at this
  simp only [Bool.and_eq_true] at this
  exact this.1
structure TmSm (mod nm : List UInt8) (names vars : List (List UInt8)) (types : List Ty) (subs : List Tm) : Prop where
  ln : names.length ≤ 21
  lv : vars.length ≤ 21
  ly : types.length ≤ 21
  ls : subs.length ≤ 21
  sm : mod.length ≤ 20
  sn : nm.length ≤ 20
  nn : ∀ s ∈ names, s.length ≤ 20
  nv : ∀ s ∈ vars, s.length ≤ 20
  ny : ∀ y ∈ types, mayT y = true
def cntK (k : Int) (n v y s : Nat) : Prop :=
  (k = 1 ∨ k = 2 ∨ k = 3 ∨ k = 4) ∧ n = 0 ∧ v = 0 ∧ y = 0 ∧ s = 0 ∨ k = 5 ∧ v = 0 ∧ y = 0 ∧ s = n ∨ (k = 6 ∨ k = 7) ∧ n = 0 ∧ v = 0 ∧ y = 0 ∧ s = 1 ∨ k = 8 ∧ v = 0 ∧ y = n ∧ s = 1 ∨
    (k = 9 ∨ k = 10) ∧ n = 0 ∧ v = 0 ∧ y = 0 ∧ 1 ≤ s ∨ k = 11 ∧ n = 0 ∧ v = 0 ∧ y = 0 ∧ s = 3 ∨ k = 12 ∧ 1 ≤ n ∧ v = n ∧ y = 0 ∧ s = n + 1
theorem fitsT_parts {names vars : List (List UInt8)} {types : List Ty} {subs : List Tm} (h : fitsT names vars types subs = true) : names.length ≤ 21 ∧ vars.length ≤ 21 ∧ types.length ≤ 21 ∧ subs.length ≤ 21 := by
  simp only [fitsT, Bool.and_eq_true, decide_eq_true_eq] at h; exact ⟨h.1.1.1, h.1.1.2, h.1.2, h.2⟩
theorem bareTm_parts {k N : Int} {mod nm : List UInt8} (h : bareTm k N mod nm = true) : (N = 0 ∨ k = 1 ∨ k = 2) ∧ (mod = [] ∨ k = 4) ∧ (nm = [] ∨ k = 3 ∨ k = 4 ∨ k = 6 ∨ k = 7) := by
  simp only [bareTm, Bool.and_eq_true, Bool.or_eq_true, decide_eq_true_eq] at h
  exact ⟨or_assoc.1 h.1.1, h.1.2, or_assoc.1 (or_assoc.1 (or_assoc.1 h.2))⟩
structure KindOk (k N : Int) (mod nm : List UInt8) (names vars : List (List UInt8)) (types : List Ty) (subs : List Tm) : Prop where
  cn : cntK k names.length vars.length types.length subs.length
  n1 : k = 1 → 0 ≤ N ∧ N ≤ 999999999
  n2 : k = 2 → N = 0 ∨ N = 1
  nm3 : k = 3 ∨ k = 4 ∨ k = 6 → nameN nm = true
  md4 : k = 4 → nameN mod = true
  tg7 : k = 7 → tagN nm = true
  r5 : k = 5 → risO nameN names = true
  r8 : k = 8 → names.all nameN = true ∧ distN names = true ∧ types.all mayT = true
  r12 : k = 12 → risO tagN names = true ∧ vars.all nameN = true
theorem kindTm_ok {k N : Int} {mod nm : List UInt8} {names vars : List (List UInt8)} {types : List Ty} {subs : List Tm} (h : kindTm k N mod nm names vars types subs = true) : KindOk k N mod nm names vars types subs := by
  have dq : ∀ {a b : Int}, a ≠ b → k = a → ¬ k = b := fun h1 h2 h3 => h1 (h2.symm.trans h3)
  unfold kindTm at h
  split at h
  · rename_i e; subst e
    simp only [Bool.and_eq_true, decide_eq_true_eq] at h
    obtain ⟨a, b, c, d⟩ := cntsT_parts h.1.1
    exact ⟨.inl ⟨.inl rfl, a, b, c, d⟩, fun _ => ⟨h.1.2, h.2⟩, by omega, by omega, by omega, by omega, by omega, by omega, by omega⟩
  split at h
  · rename_i e; subst e
    simp only [Bool.and_eq_true, Bool.or_eq_true, decide_eq_true_eq] at h
    obtain ⟨a, b, c, d⟩ := cntsT_parts h.1
    exact ⟨.inl ⟨.inr (.inl rfl), a, b, c, d⟩, by omega, fun _ => h.2, by omega, by omega, by omega, by omega, by omega, by omega⟩
  split at h
  · rename_i e; subst e
    simp only [Bool.and_eq_true] at h
    obtain ⟨a, b, c, d⟩ := cntsT_parts h.1
    exact ⟨.inl ⟨.inr (.inr (.inl rfl)), a, b, c, d⟩, by omega, by omega, fun _ => h.2, by omega, by omega, by omega, by omega, by omega⟩
  split at h
  · rename_i e; subst e
    simp only [Bool.and_eq_true] at h
    obtain ⟨a, b, c, d⟩ := cntsT_parts h.1.1
    exact ⟨.inl ⟨.inr (.inr (.inr rfl)), a, b, c, d⟩, by omega, by omega, fun _ => h.1.2, fun _ => h.2, by omega, by omega, by omega, by omega⟩
  split at h
  · rename_i e; subst e
    simp only [Bool.and_eq_true] at h
    obtain ⟨a, b, c, d⟩ := cntsT_parts h.1
    exact ⟨.inr (.inl ⟨rfl, b, c, d⟩), by omega, by omega, by omega, by omega, by omega, fun _ => h.2, by omega, by omega⟩
  split at h
  · rename_i e; subst e
    simp only [Bool.and_eq_true] at h
    obtain ⟨a, b, c, d⟩ := cntsT_parts h.1
    exact ⟨.inr (.inr (.inl ⟨.inl rfl, a, b, c, d⟩)), by omega, by omega, fun _ => h.2, by omega, by omega, by omega, by omega, by omega⟩
  split at h
  · rename_i e; subst e
    simp only [Bool.and_eq_true] at h
    obtain ⟨a, b, c, d⟩ := cntsT_parts h.1
    exact ⟨.inr (.inr (.inl ⟨.inr rfl, a, b, c, d⟩)), by omega, by omega, by omega, by omega, fun _ => h.2, by omega, by omega, by omega⟩
  split at h
  · rename_i e; subst e
    simp only [Bool.and_eq_true] at h
    obtain ⟨a, b, c, d⟩ := cntsT_parts h.1.1.1
    exact ⟨.inr (.inr (.inr (.inl ⟨rfl, b, c, d⟩))), by omega, by omega, by omega, by omega, by omega, by omega, fun _ => ⟨h.1.1.2, h.1.2, h.2⟩, by omega⟩
  split at h
  · rename_i e
    simp only [Bool.and_eq_true, decide_eq_true_eq] at h
    obtain ⟨a, b, c, d⟩ := cntsT_parts h.1
    exact ⟨.inr (.inr (.inr (.inr (.inl ⟨e, a, b, c, h.2⟩)))), by omega, by omega, by omega, by omega, by omega, by omega, by omega, by omega⟩
  split at h
  · rename_i e; subst e
    obtain ⟨a, b, c, d⟩ := cntsT_parts h
    exact ⟨.inr (.inr (.inr (.inr (.inr (.inl ⟨rfl, a, b, c, d⟩))))), by omega, by omega, by omega, by omega, by omega, by omega, by omega, by omega⟩
  split at h
  · rename_i e; subst e
    simp only [Bool.and_eq_true, decide_eq_true_eq] at h
    obtain ⟨a, b, c, d⟩ := cntsT_parts h.1.1.2
    exact ⟨.inr (.inr (.inr (.inr (.inr (.inr ⟨rfl, h.1.1.1, b, c, d⟩))))), by omega, by omega, by omega, by omega, by omega, by omega, by omega, fun _ => ⟨h.1.2, h.2⟩⟩
  · cases h
theorem KindOk.sm {k N : Int} {mod nm : List UInt8} {names vars : List (List UInt8)} {types : List Ty} {subs : List Tm} (h : KindOk k N mod nm names vars types subs) (hf : fitsT names vars types subs = true) (hb : bareTm k N mod nm = true) : TmSm mod nm names vars types subs := by
  obtain ⟨f1, f2, f3, f4⟩ := fitsT_parts hf
  obtain ⟨b1, b2, b3⟩ := bareTm_parts hb
  have hc := h.cn
  unfold cntK at hc
  have nil : ∀ {α : Type} {l : List α} {p : α → Prop}, l.length = 0 → ∀ x ∈ l, p x := fun e x hx => by
    rw [List.length_eq_zero_iff] at e; subst e; cases hx
  refine ⟨f1, f2, f3, f4, ?_, ?_, ?_, ?_, ?_⟩
  · rcases b2 with rfl | e
    · simp
    · exact nameN_len (h.md4 e)
  · rcases b3 with rfl | e | e | e | e
    · simp
    · exact nameN_len (h.nm3 (.inl e))
    · exact nameN_len (h.nm3 (.inr (.inl e)))
    · exact nameN_len (h.nm3 (.inr (.inr e)))
    · exact tagN_len (h.tg7 e)
  · by_cases k5 : k = 5
    · exact fun s hs => nameN_len (risO_mem (h.r5 k5) hs)
    by_cases k8 : k = 8
    · exact fun s hs => nameN_len (List.all_eq_true.1 (h.r8 k8).1 s hs)
    by_cases k12 : k = 12
    · exact fun s hs => tagN_len (risO_mem (h.r12 k12).1 hs)
    exact nil (by omega)
  · by_cases k12 : k = 12
    · exact fun s hs => nameN_len (List.all_eq_true.1 (h.r12 k12).2 s hs)
    exact nil (by omega)
  · by_cases k8 : k = 8
    · exact fun s hs => List.all_eq_true.1 (h.r8 k8).2.2 s hs
    exact nil (by omega)
theorem shapeTm_parts {k N : Int} {mod nm : List UInt8} {names vars : List (List UInt8)} {types : List Ty} {subs : List Tm} (h : shapeTm (.mk k N mod nm names vars types subs) = true) : KindOk k N mod nm names vars types subs ∧ TmSm mod nm names vars types subs := by
  simp only [shapeTm, Bool.and_eq_true] at h
  have := kindTm_ok h.2
  exact ⟨this, this.sm h.1.1 h.1.2⟩
/-! How long. -/
def smL (c : Nat) (l : List (List UInt8)) : Nat := (l.map fun s => s.length + c).sum
theorem smL_get {c : Nat} : ∀ (l : List (List UInt8)) (i : Nat), (l.getD i []).length ≤ smL c l
  | [], i => by simp [smL]
  | s :: l, 0 => by simp [smL]; omega
  | s :: l, i + 1 => by
    have := smL_get (c := c) l i
    simp only [List.getD_cons_succ, smL, List.map_cons, List.sum_cons] at this ⊢; omega
theorem smL_range {c B : Nat} (g : Nat → List UInt8) (T : List (List UInt8)) (h : ∀ i, (g i).length + 2 ≤ (T.getD i []).length + B) : ∀ (k : Nat), k ≤ T.length → (((List.range k).map g).map fun s => s.length + comma.length).sum ≤ smL c (T.take k) + B * k
  | 0, _ => by simp [smL]
  | k + 1, hk => by
    have ih := smL_range (c := c) g T h k (by omega)
    have := h k
    have e : T.getD k [] = T[k]'(by omega) := by simp [List.getD_eq_getElem?_getD, show k < T.length by omega]
    rw [e] at this
    rw [List.range_succ, List.map_append, List.map_append, List.sum_append, take_snoc (show k < T.length by omega)]
    simp only [smL, List.map_append, List.sum_append, List.map_cons, List.map_nil, List.sum_cons, List.sum_nil, comma, List.length_cons, List.length_nil] at ih ⊢
    have : B * (k + 1) = B * k + B := Nat.mul_succ B k
    omega
theorem smL_take (c : Nat) (T : List (List UInt8)) (k : Nat) : smL c (T.take k) ≤ smL c T := by
  conv => rhs; rw [← List.take_append_drop k T]
  simp only [smL, List.map_append, List.sum_append]; omega
theorem smL_drop (c : Nat) (T : List (List UInt8)) (k : Nat) : smL c (T.drop k) ≤ smL c T := by
  conv => rhs; rw [← List.take_append_drop k T]
  simp only [smL, List.map_append, List.sum_append]; omega
theorem smL_mono {c d : Nat} (h : c ≤ d) (T : List (List UInt8)) : smL c T ≤ smL d T := by
  induction T with
  | nil => simp [smL]
  | cons s T ih => simp only [smL, List.map_cons, List.sum_cons] at ih ⊢; omega
theorem join_sum (T : List (List UInt8)) : (joinB comma T).length ≤ smL 100 T := by
  have h1 : (joinB comma T).length ≤ smL 2 T := joinB_len comma T
  have h2 := smL_mono (show 2 ≤ 100 by omega) T
  omega
theorem brL_len {names vars T : List (List UInt8)} (hn : ∀ s ∈ names, s.length ≤ 20) (hv : ∀ s ∈ vars, s.length ≤ 20) : ∀ (k : Nat), k + 1 ≤ T.length → (brL names vars T k).length ≤ smL 100 ((T.drop 1).take k)
  | 0, _ => by simp [brL]
  | k + 1, hk => by
    have hk2 : k + 1 ≤ T.length := by omega
    have ih := brL_len hn hv k hk2
    have gd : ∀ {l : List (List UInt8)} {i : Nat}, (∀ s ∈ l, s.length ≤ 20) → (l.getD i []).length ≤ 20 := fun {l i} h => by
      by_cases hi : i < l.length
      · rw [List.getD_eq_getElem?_getD, List.getElem?_eq_getElem hi]; exact h _ (List.getElem_mem hi)
      · simp [List.getD_eq_getElem?_getD, List.getElem?_eq_none (show l.length ≤ i by omega)]
    have h1 := gd (i := k) hn
    have h2 := gd (i := k) hv
    rw [take_snoc (show k < (T.drop 1).length by simp; omega)]
    have e : (T.drop 1)[k]'(by simp; omega) = T.getD (k + 1) [] := by
      rw [List.getD_eq_getElem?_getD, List.getElem?_eq_getElem (show k + 1 < T.length by omega)]
      simp [List.getElem_drop, Nat.add_comm 1 k]
    rw [e]
    simp only [brL, brOne, List.length_append, List.length_cons, List.length_nil, smL, List.map_append, List.sum_append, List.map_cons, List.map_nil, List.sum_cons, List.sum_nil] at ih ⊢
    omega
theorem parK_len (k : Int) (s : List UInt8) : (parK k s).length ≤ s.length + 2 := by
  unfold parK; split <;> simp <;> omega
theorem getD_small {l : List (List UInt8)} {B : Nat} (h : ∀ s ∈ l, s.length ≤ B) (i : Nat) : (l.getD i []).length ≤ B := by
  by_cases hi : i < l.length
  · rw [List.getD_eq_getElem?_getD, List.getElem?_eq_getElem hi]; exact h _ (List.getElem_mem hi)
  · simp [List.getD_eq_getElem?_getD, List.getElem?_eq_none (show l.length ≤ i by omega)]
theorem fnL_sum {names Y : List (List UInt8)} (hl : names.length ≤ 21) (hn : ∀ s ∈ names, s.length ≤ 20) (hy : ∀ s ∈ Y, s.length ≤ 65000) : ((fnL names Y).map fun s => s.length + comma.length).sum ≤ 1366000 := by
  have : ∀ k, (((List.range k).map fun i => names.getD i [] ++ [58, 32] ++ Y.getD i []).map fun s => s.length + comma.length).sum ≤ 65024 * k := by
    intro k
    induction k with
    | zero => simp
    | succ k ih =>
      have h1 := getD_small hn k
      have h2 := getD_small hy k
      rw [List.range_succ, List.map_append, List.map_append, List.sum_append]
      simp only [List.map_cons, List.map_nil, List.sum_cons, List.sum_nil, List.length_append, List.length_cons, List.length_nil, comma] at ih ⊢
      omega
  have := this names.length
  unfold fnL
  omega
theorem may_text {y : Ty} (h : mayT y = true) : (textT y).length ≤ 65000 := by
  simp only [mayT, Bool.and_eq_true, decide_eq_true_eq] at h
  have := text_len y h.1.1
  omega
theorem makL_sum {names T : List (List UInt8)} (hn : ∀ s ∈ names, s.length ≤ 20) (he : T.length = names.length) : ((makL names T).map fun s => s.length + comma.length).sum ≤ smL 100 T := by
  have h1 := fun i => getD_small hn i
  have := smL_range (c := 0) (B := 25) (fun i => names.getD i [] ++ [32, 61, 32] ++ T.getD i []) T (fun i => by have := h1 i; simp only [List.length_append, List.length_cons, List.length_nil]; omega) names.length (by omega)
  unfold makL
  rw [List.take_of_length_le (by omega)] at this
  have h2 : smL 0 T + 25 * T.length ≤ smL 100 T := by
    clear this he
    induction T with
    | nil => simp [smL]
    | cons s T ih => simp only [smL, List.map_cons, List.sum_cons, List.length_cons] at ih ⊢; omega
  rw [← he] at this ⊢
  omega
theorem textK_len {k N : Int} {mod nm : List UInt8} {names vars : List (List UInt8)} {types : List Ty} {subs : List Tm} (hk : KindOk k N mod nm names vars types subs) (hs : TmSm mod nm names vars types subs) (kh : Int) {T : List (List UInt8)} (hT : T.length = subs.length) :
    (textK k N mod nm names vars (types.map textT) kh T).length + 100 ≤ smL 100 T + 2000000 := by
  have h0 := smL_get (c := 100) T 0
  have hd := digits_len N.toNat
  have hp := parK_len kh (T.getD 0 [])
  have hc := hk.cn
  have q1 := hs.sm
  have q2 := hs.sn
  unfold cntK at hc
  obtain ⟨B, hB⟩ : ∃ B : Nat, B = 2000000 := ⟨_, rfl⟩
  rw [← hB]
  obtain ⟨SS, hSS⟩ : ∃ SS : Nat, SS = smL 100 T := ⟨_, rfl⟩
  rw [← hSS] at h0 ⊢
  unfold textK
  by_cases k1 : k = 1
  · rw [if_pos k1]
    omega
  rw [if_neg k1]
  by_cases k2 : k = 2
  · rw [if_pos k2]
    by_cases n1 : N = 1
    · rw [if_pos n1]
      have : wTrue.length = 4 := rfl
      omega
    · rw [if_neg n1]
      have : wFalse.length = 5 := rfl
      omega
  rw [if_neg k2]
  by_cases k3 : k = 3
  · rw [if_pos k3]
    omega
  rw [if_neg k3]
  by_cases k4 : k = 4
  · rw [if_pos k4]
    simp only [List.length_append, List.length_cons, List.length_nil]; omega
  rw [if_neg k4]
  by_cases k5 : k = 5
  · rw [if_pos k5]
    have h1 := joinB_len comma (makL names T)
    have h2 := makL_sum (T := T) hs.nn (by omega)
    rw [← hSS] at h2
    simp only [List.length_append, List.length_cons, List.length_nil]; omega
  rw [if_neg k5]
  by_cases k6 : k = 6
  · rw [if_pos k6]
    simp only [List.length_append, List.length_cons, List.length_nil]; omega
  rw [if_neg k6]
  by_cases k7 : k = 7
  · rw [if_pos k7]
    simp only [List.length_append, List.length_cons, List.length_nil]; omega
  rw [if_neg k7]
  by_cases k8 : k = 8
  · rw [if_pos k8]
    have h1 := joinB_len comma (fnL names (types.map textT))
    have h2 := fnL_sum (Y := types.map textT) hs.ln hs.nn (fun s h => by obtain ⟨y, hy, rfl⟩ := List.mem_map.1 h; exact may_text (hs.ny y hy))
    simp only [List.length_append, List.length_cons, List.length_nil]; omega
  rw [if_neg k8]
  by_cases k9 : k = 9
  · rw [if_pos k9]
    have h1 := join_sum (T.drop 1)
    cases T with
    | nil => simp [joinB] at *; omega
    | cons x T =>
      simp only [List.drop_succ_cons, List.drop_zero] at h1 ⊢
      simp only [List.getD_cons_zero] at hp ⊢
      simp only [smL, List.map_cons, List.sum_cons] at h1 hSS
      simp only [List.length_append, List.length_cons, List.length_nil]; omega
  rw [if_neg k9]
  by_cases k10 : k = 10
  · rw [if_pos k10]
    have h1 := join_sum T
    rw [← hSS] at h1
    simp only [List.length_append, List.length_cons, List.length_nil]; omega
  rw [if_neg k10]
  by_cases k11 : k = 11
  · rw [if_pos k11]
    have h3 : T.length = 3 := by omega
    match T, h3 with
    | [a, b, c], _ =>
      simp [smL] at hSS
      simp
      omega
  rw [if_neg k11]
  · have h1 := brL_len (T := T) hs.nn hs.nv names.length (by omega)
    have h2 := smL_take 100 (T.drop 1) names.length
    cases T with
    | nil => simp at hT; omega
    | cons x T =>
      simp only [List.drop_succ_cons, List.drop_zero] at h1 h2 ⊢
      simp only [List.getD_cons_zero] at hp ⊢
      simp only [smL, List.map_cons, List.sum_cons] at h1 h2 hSS
      simp only [List.length_append, List.length_cons, List.length_nil]; omega
theorem textTms_len (l : List Tm) : (textTms l).length = l.length := by rw [textTms_eq]; simp
mutual
theorem textTm_len : ∀ t : Tm, allTm t = true → (textTm t).length + 100 ≤ 2000000 * manyTm t
  | .mk k N mod nm names vars types subs, h => by
    simp only [allTm, Bool.and_eq_true] at h
    obtain ⟨h1, h2⟩ := shapeTm_parts h.1
    have h3 := textK_len h1 h2 (kindH subs) (T := textTms subs) (textTms_len subs)
    have h4 := textTms_sum subs h.2
    simp only [textTm, manyTm]
    omega
theorem textTms_sum : ∀ l : List Tm, allTms l = true → smL 100 (textTms l) ≤ 2000000 * manyTms l
  | [], _ => by simp [textTms, smL]
  | t :: ts, h => by
    simp only [allTms, Bool.and_eq_true] at h
    have h1 := textTm_len t h.1
    have h2 := textTms_sum ts h.2
    simp only [textTms, smL, List.map_cons, List.sum_cons, manyTms] at h2 ⊢
    omega
end
theorem textTm_small {t : Tm} (h : allTm t = true) (hm : manyTm t ≤ 500) : (textTm t).length ≤ 1000000000 := by
  have := textTm_len t h; omega
theorem textTms_small {l : List Tm} (h : allTms l = true) (hm : manyTms l ≤ 500) : smL 100 (textTms l) ≤ 1000000000 := by
  have := textTms_sum l h; omega
end Go.Proofs.Mv.App
open Go Go.Proofs Go.Proofs.Mv.V
set_option maxRecDepth 10000
namespace Go.Proofs.Mv.App
variable [GI]
def mayFn (g : Bool) : D := .func (.func (if g then 158 else 156)) [] []
theorem cNam (g : Bool) (s : List UInt8) (hs : s.length ≤ 9223372036854775807) (m : Mem) (n : Nat) : ACalls Tryz.prog (if g then 158 else 156) [S s] m n (fun d m' n' => d = Tt (namOk g s) ∧ m' = m ∧ n' = n) := by
  cases g
  · exact cSmall s hs m n
  · exact cGreat s hs m n
structure NmsInv (g : Bool) (l : List (List UInt8)) (M : Mem) (n0 : Nat) (i : Nat) (σ : Nat → D) (m2 : Mem) (n2 : Nat) : Prop where
  h0 : σ 0 = sl1 l
  h1 : σ 1 = mayFn g
  h7 : σ 7 = sl1 l
  h8 : σ 8 = I l.length
  h9 : σ 9 = I i
  le : i ≤ l.length
  al : ∀ j, j < i → stepOk g l j = true
  mm : m2 = M
  nn : n2 = n0
theorem rising_no {g : Bool} {l : List (List UInt8)} {i : Nat} (hi : i < l.length) (h : stepOk g l i = false) : risingN g l = false := by
  cases e : risingN g l
  · rfl
  · have := List.all_eq_true.1 e i (List.mem_range.2 hi); rw [h] at this; cases this
theorem rising_yes {g : Bool} {l : List (List UInt8)} {i : Nat} (hi : l.length ≤ i) (h : ∀ j, j < i → stepOk g l j = true) : risingN g l = true :=
  List.all_eq_true.2 fun j hj => h j (by have := List.mem_range.1 hj; omega)
set_option maxHeartbeats 1000000 in
theorem cNames (g : Bool) (l : List (List UInt8)) (hl : l.length ≤ 9223372036854775807) (hs : ∀ s ∈ l, s.length ≤ 9223372036854775807) (m : Mem) (n : Nat) :
    ACalls Tryz.prog 247 [sl1 l, mayFn g] m n (fun d m' n' => d = Tt (risingN g l) ∧ m' = m ∧ n' = n) := by
  refine acalls_vc [0, 1, 4, 5, 6, 7, 8, 9, 10, 30] Tryz.func247 Tryz.ntmps247 (by kernel_rfl) rfl rfl (by simp) ?_
  simp -dsimp [sl1]
  refine vloop_of (β := Nat) (NmsInv g l m n) (fun i => l.length - i) 0 ⟨by simp [sl1], by simp, by simp [sl1], by simp [I], by simp [I], by omega, by omega, rfl, rfl⟩ ?_
  rintro i σ m2 n2 ⟨h0, h1, h7, h8, h9, le, al, rfl, rfl⟩
  by_cases hi : (i : Int) < l.length
  · have hi' : i < l.length := by omega
    have wi : IntKind.i64.wrap ((i : Int) + 1) = (i : Int) + 1 := wrap_i64 (by omega) (by omega)
    simp -dsimp [h0, h1, h7, h8, h9, I, sl1, hi, hi', mayFn]
    refine aCall_of (cNam g l[i] (hs _ (List.getElem_mem hi')) _ _) ?_
    rintro d m' n' ⟨rfl, rfl, rfl⟩
    have hgi : l.getD i [] = l[i] := by rw [List.getD_eq_getElem?_getD, List.getElem?_eq_getElem hi']; rfl
    by_cases c : namOk g l[i] = true
    · by_cases i0 : i = 0
      · subst i0
        have w01 : IntKind.i64.wrap 1 = 1 := wrap_i64 (by omega) (by omega)
        have hst : stepOk g l 0 = true := by unfold stepOk; rw [hgi, c]; simp
        simp -dsimp [h0, h1, h7, h8, h9, I, Tt, sl1, c, wi]
        exact ⟨1, by omega, by simp [sl1, S], by simp [mayFn], by simp [sl1, S], by simp [I], by simp [I, w01], by omega, fun j hj => by rw [show j = 0 by omega]; exact hst, rfl, rfl⟩
      · have i1 : (0 : Int) < i := by omega
        have i1' : 0 < i := by omega
        have w1 : IntKind.i64.wrap ((i : Int) - 1) = ((i - 1 : Nat) : Int) := by rw [wrap_i64 (by omega) (by omega)]; omega
        have hp : i - 1 < l.length := by omega
        have hgp : l.getD (i - 1) [] = l[i - 1] := by rw [List.getD_eq_getElem?_getD, List.getElem?_eq_getElem hp]; rfl
        have hlt : Op.bytesLess l[i - 1] l[i] = ltB l[i - 1] l[i] := rfl
        cases c2 : ltB l[i - 1] l[i]
        · have hst : stepOk g l i = false := by unfold stepOk; rw [hgi, hgp, c2]; simp [i0]
          simp -dsimp [h0, h1, h7, h8, h9, I, Tt, sl1, S, c, wi, w1, i1, i1', hp, hlt, c2]
          rw [rising_no hi' hst]
        · have hst : stepOk g l i = true := by unfold stepOk; rw [hgi, hgp, c2, c]; simp
          simp -dsimp [h0, h1, h7, h8, h9, I, Tt, sl1, S, c, wi, w1, i1, i1', hp, hlt, c2]
          exact ⟨i + 1, by omega, by simp [sl1, S], by simp [mayFn], by simp [sl1, S], by simp [I], by simp [I], by omega, fun j hj => by
            by_cases e : j = i
            · rw [e]; exact hst
            · exact al j (by omega), rfl, rfl⟩
    · have c' : namOk g l[i] = false := by simpa using c
      have hst : stepOk g l i = false := by simp only [stepOk, hgi, c', Bool.false_and]
      simp -dsimp [h0, h1, h7, h8, h9, I, Tt, sl1, c']
      rw [rising_no hi' hst]
  · simp -dsimp [h0, h1, h7, h8, h9, I, hi, Tt]
    rw [rising_yes (by omega) al]
theorem cBare {kind : Int} {pkg : List UInt8} {major : Int} {mod name : List UInt8} {NL SL : List (List D)} (pN : Pur (.sl 1 NL)) (pS : Pur (.sl 7 SL)) (m : Mem) (n : Nat) :
    ACalls Tryz.prog 246 [.agg [I kind, S pkg, I major, S mod, S name, .sl 1 NL, .sl 7 SL]] m n (fun d m' n' =>
      d = .agg [I kind, S (barePkg kind pkg), I (bareMaj kind major), S (bareMod kind mod), S (bareMod kind name), .sl 1 NL, .sl 7 SL] ∧ m' = m ∧ n' = n) := by
  refine acalls_done (R' := Hq (fun d m' n' => d = .agg [I kind, S (barePkg kind pkg), I (bareMaj kind major), S (bareMod kind mod), S (bareMod kind name), .sl 1 NL, .sl 7 SL] ∧ ∀ j, j < n → m' j = m j) tg) ?_ ?_
  · have fr : ∀ o o' o'' o''' j, j < n → ((((m.set n o).set (n + 1) o').set n o'').set (n + 1) o''') j = m j := fun o o' o'' o''' j hj => by rw [set_ne _ _ _ _ (by omega), set_ne _ _ _ _ (by omega), set_ne _ _ _ _ (by omega), set_ne _ _ _ _ (by omega)]
    have nn1 : n ≠ n + 1 := by omega
    have n1n : n + 1 ≠ n := by omega
    refine acalls_vcC [0, 1, 2, 4, 5, 9] Tryz.func246 Tryz.ntmps246 (by kernel_rfl) rfl rfl (by simp) ?_
    by_cases c8 : kind = 8
    · subst c8
      simp -dsimp [I, nn1, n1n]
      refine hq ⟨by simp [barePkg, bareMaj, bareMod, I, S], fun j hj => ?_⟩
      have h1 : j ≠ n := by omega
      have h2 : j ≠ n + 1 := by omega
      simp [set_ne, h1, h2]
    by_cases c9 : kind = 9
    · subst c9
      simp -dsimp [I, nn1, n1n]
      refine hq ⟨by simp [barePkg, bareMaj, bareMod, I, S], fun j hj => ?_⟩
      have h1 : j ≠ n := by omega
      have h2 : j ≠ n + 1 := by omega
      simp [set_ne, h1, h2]
    · have c8' : (kind == 8) = false := by simpa using c8
      have c9' : (kind == 9) = false := by simpa using c9
      simp -dsimp [I, nn1, n1n, c8', c9']
      refine hq ⟨by simp [barePkg, bareMaj, bareMod, I, S, c8, c9], fun j hj => ?_⟩
      have h1 : j ≠ n := by omega
      have h2 : j ≠ n + 1 := by omega
      simp [set_ne, h1, h2]
  · rintro d m' n' ⟨rfl, h⟩
    refine ⟨_, (Pur.agg ?_).pub, h, rfl⟩
    intro d hd
    simp only [List.mem_cons, List.not_mem_nil, or_false] at hd
    rcases hd with rfl | rfl | rfl | rfl | rfl | rfl | rfl
    · exact pur_I _
    · exact pur_S _
    · exact pur_I _
    · exact pur_S _
    · exact pur_S _
    · exact pN
    · exact pS
end Go.Proofs.Mv.App
open Go Go.Proofs Go.Proofs.Mv.V
set_option maxRecDepth 10000
namespace Go.Proofs.Mv.App
variable [GI]
set_option maxHeartbeats 4000000 in
theorem cShape {t : Ty} (ht : TyW t) (m : Mem) (n : Nat) : ACalls Tryz.prog 223 [.agg (tyD t)] m n (fun d m' n' => d = Tt (shapeT t) ∧ m' = m ∧ n' = n) := by
  refine acalls_done (R' := Hq (fun d m' n' => d = Tt (shapeT t) ∧ ∀ j, j < n → m' j = m j) tg) ?_ ?_
  · cases ht with
    | mk kind pkg major mod name names subs l1 l2 l3 l4 l5 l6 l7 =>
      have hL1 : (names.map fun s => [S s]).length = names.length := by simp
      have hL2 : (tysD subs).length = subs.length := by rw [tysD_eq]; simp
      have pN := pur_sl1 names
      have pS : Pur (.sl 7 (tysD subs)) := Pur.sl (pur_tys subs)
      have hcn := fun g m n => cNames g names l1 l6 m n
      obtain ⟨ns, hns⟩ : ∃ k, subs.length = k := ⟨_, rfl⟩
      obtain ⟨ks, hks⟩ : ∃ k, names.length = k := ⟨_, rfl⟩
      have hyes := shapeT_yes (t := .mk kind pkg major mod name names subs)
      have hno := shapeT_no (t := .mk kind pkg major mod name names subs)
      simp only [bareOk, shapeB, Ty.kind, Ty.pkg, Ty.major, Ty.mod, Ty.name, Ty.names, Ty.subs, hns, hks] at hyes hno
      generalize shapeT (.mk kind pkg major mod name names subs) = SH at hyes hno
      rw [hks] at hL1
      rw [hns] at hL2
      simp only [tyD, sl1] at pN hcn ⊢
      generalize (names.map fun s => [S s]) = NL at hL1 pN hcn
      generalize tysD subs = SL at hL2 pS
      have frp : ∀ (o1 o2 : V.Obj) j, j < n → ((m.set n o1).set (n + 1) o2) j = m j := fun o1 o2 j hj => by
        rw [set_ne _ _ _ _ (by omega), set_ne _ _ _ _ (by omega)]
      have nn1 : n ≠ n + 1 := by omega
      have n1n : n + 1 ≠ n := by omega
      refine acalls_vc [0, 1, 2, 3, 4, 31, 33, 34, 46, 56, 68, 84, 94, 119] Tryz.func223 Tryz.ntmps223 (by kernel_rfl) rfl rfl (by simp) ?_
      simp -dsimp [I]
      refine aCall_of (cBare pN pS _ _) ?_
      rintro d m' n' ⟨rfl, rfl, rfl⟩
      generalize barePkg kind pkg = b1 at hyes hno
      generalize bareMaj kind major = b2 at hyes hno
      generalize bareMod kind mod = b3 at hyes hno
      generalize bareMod kind name = b4 at hyes hno
      by_cases c1 : b1 = []
      case neg =>
        have c1' : (b1 == []) = false := by simpa using c1
        simp -dsimp [I, S, nn1, n1n, hL2, c1, c1']
        exact hq ⟨by rw [hno (fun h => c1 h.1)]; rfl, frp _ _⟩
      subst c1
      by_cases c2 : b2 = 0
      case neg =>
        have c2' : (b2 != 0) = true := by simpa using c2
        simp -dsimp [I, S, nn1, n1n, hL2, c2']
        exact hq ⟨by rw [hno (fun h => c2 h.2.1)]; rfl, frp _ _⟩
      subst c2
      by_cases c3 : b3 = []
      case neg =>
        have c3' : (b3 == []) = false := by simpa using c3
        simp -dsimp [I, S, nn1, n1n, hL2, c3, c3']
        exact hq ⟨by rw [hno (fun h => c3 h.2.2.1)]; rfl, frp _ _⟩
      subst c3
      by_cases c4 : b4 = []
      case neg =>
        have c4' : (b4 == []) = false := by simpa using c4
        simp -dsimp [I, S, nn1, n1n, hL2, c4, c4']
        exact hq ⟨by rw [hno (fun h => c4 h.2.2.2.1)]; rfl, frp _ _⟩
      subst c4
      by_cases c5 : (20 : Int) < ns
      · simp -dsimp [I, S, nn1, n1n, hL2, c5]
        exact hq ⟨by rw [hno (fun h => by have := h.2.2.2.2; omega)]; rfl, frp _ _⟩
      have hy := hyes ⟨rfl, rfl, rfl, rfl, by omega⟩
      clear hyes hno
      simp -dsimp [I, S, nn1, n1n, hL2, c5]
      by_cases k1 : kind = 1
      · subst k1
        simp only [true_or, or_true, if_true] at hy
        rw [hy]
        by_cases e1 : ns = 0
        · have e1' : ((ns : Int) == 0) = true := by simpa using e1
          by_cases e2 : ks = 0
          · have e2' : ((ks : Int) == 0) = true := by simpa using e2
            simp -dsimp [I, nn1, n1n, hL1, hL2, e1', e2']
            exact hq ⟨by simp [Tt, e1, e2], frp _ _⟩
          · have e2' : ((ks : Int) == 0) = false := by simpa using e2
            simp -dsimp [I, nn1, n1n, hL1, hL2, e1', e2']
            exact hq ⟨by simp [Tt, e1, e2], frp _ _⟩
        · have e1' : ((ns : Int) == 0) = false := by simpa using e1
          simp -dsimp [I, nn1, n1n, hL1, hL2, e1']
          exact hq ⟨by simp [Tt, e1], frp _ _⟩
      by_cases k2 : kind = 2
      · subst k2
        simp only [true_or, or_true, if_true] at hy
        rw [hy]
        by_cases e1 : ns = 0
        · have e1' : ((ns : Int) == 0) = true := by simpa using e1
          by_cases e2 : ks = 0
          · have e2' : ((ks : Int) == 0) = true := by simpa using e2
            simp -dsimp [I, nn1, n1n, hL1, hL2, e1', e2']
            exact hq ⟨by simp [Tt, e1, e2], frp _ _⟩
          · have e2' : ((ks : Int) == 0) = false := by simpa using e2
            simp -dsimp [I, nn1, n1n, hL1, hL2, e1', e2']
            exact hq ⟨by simp [Tt, e1, e2], frp _ _⟩
        · have e1' : ((ns : Int) == 0) = false := by simpa using e1
          simp -dsimp [I, nn1, n1n, hL1, hL2, e1']
          exact hq ⟨by simp [Tt, e1], frp _ _⟩
      by_cases k3 : kind = 3
      · subst k3
        simp only [true_or, or_true, if_true] at hy
        rw [hy]
        by_cases e1 : ns = 0
        · have e1' : ((ns : Int) == 0) = true := by simpa using e1
          by_cases e2 : ks = 0
          · have e2' : ((ks : Int) == 0) = true := by simpa using e2
            simp -dsimp [I, nn1, n1n, hL1, hL2, e1', e2']
            exact hq ⟨by simp [Tt, e1, e2], frp _ _⟩
          · have e2' : ((ks : Int) == 0) = false := by simpa using e2
            simp -dsimp [I, nn1, n1n, hL1, hL2, e1', e2']
            exact hq ⟨by simp [Tt, e1, e2], frp _ _⟩
        · have e1' : ((ns : Int) == 0) = false := by simpa using e1
          simp -dsimp [I, nn1, n1n, hL1, hL2, e1']
          exact hq ⟨by simp [Tt, e1], frp _ _⟩
      simp only [k1, k2, k3, or_self, if_false] at hy
      have k1' : (kind == 1) = false := by simpa using k1
      have k2' : (kind == 2) = false := by simpa using k2
      have k3' : (kind == 3) = false := by simpa using k3
      simp -dsimp [k1', k2', k3']
      by_cases k4 : kind = 4
      · subst k4
        simp only [if_true] at hy
        rw [hy]
        by_cases e1 : ns = 1
        · have e1' : ((ns : Int) == 1) = true := by simp [e1]
          by_cases e2 : ks = 0
          · have e2' : ((ks : Int) == 0) = true := by simpa using e2
            simp -dsimp [I, nn1, n1n, hL1, hL2, e1', e2']
            exact hq ⟨by simp [Tt, e1, e2], frp _ _⟩
          · have e2' : ((ks : Int) == 0) = false := by simpa using e2
            simp -dsimp [I, nn1, n1n, hL1, hL2, e1', e2']
            exact hq ⟨by simp [Tt, e1, e2], frp _ _⟩
        · have e1' : ((ns : Int) == 1) = false := by simp; omega
          simp -dsimp [I, nn1, n1n, hL1, hL2, e1']
          exact hq ⟨by simp [Tt, e1], frp _ _⟩
      have k4' : (kind == 4) = false := by simpa using k4
      simp -dsimp [k4']
      simp only [k4, if_false] at hy
      by_cases k5 : kind = 5
      · subst k5
        simp only [if_true, show ¬ (5 : Int) = 4 by omega, if_false] at hy
        rw [hy]
        by_cases e1 : ns = ks
        · have e1' : ((ns : Int) == ks) = true := by simp [e1]
          simp -dsimp [I, nn1, n1n, hL1, hL2, e1']
          refine aCall_of (hcn false _ _) ?_
          rintro d m' n' ⟨rfl, rfl, rfl⟩
          simp -dsimp [I]
          exact hq ⟨by simp [Tt, e1], frp _ _⟩
        · have e1' : ((ns : Int) == ks) = false := by simp; omega
          simp -dsimp [I, nn1, n1n, hL1, hL2, e1']
          exact hq ⟨by simp [Tt, e1], frp _ _⟩
      have k5' : (kind == 5) = false := by simpa using k5
      simp -dsimp [k5']
      simp only [k5, if_false] at hy
      by_cases k6 : kind = 6
      · subst k6
        simp only [if_true] at hy
        rw [hy]
        by_cases e0 : (1 : Int) ≤ ns
        · have e00 : 1 ≤ ns := by omega
          by_cases e1 : ns = ks
          · have e1' : ((ns : Int) == ks) = true := by simp [e1]
            simp -dsimp [I, nn1, n1n, hL1, hL2, e0, e00, e1']
            refine aCall_of (hcn true _ _) ?_
            rintro d m' n' ⟨rfl, rfl, rfl⟩
            simp -dsimp [I]
            exact hq ⟨by simp [Tt, e00, ← e1], frp _ _⟩
          · have e1' : ((ns : Int) == ks) = false := by simp; omega
            simp -dsimp [I, nn1, n1n, hL1, hL2, e0, e00, e1']
            exact hq ⟨by simp [Tt, e1], frp _ _⟩
        · have e00 : ¬ 1 ≤ ns := by omega
          simp -dsimp [I, nn1, n1n, hL1, hL2, e0, e00]
          exact hq ⟨by simp [Tt, e00], frp _ _⟩
      have k6' : (kind == 6) = false := by simpa using k6
      simp -dsimp [k6']
      simp only [k6, if_false] at hy
      by_cases k7 : kind = 7
      · subst k7
        simp only [if_true] at hy
        rw [hy]
        by_cases e0 : (1 : Int) ≤ ns
        · have e00 : 1 ≤ ns := by omega
          by_cases e2 : ks = 0
          · have e2' : ((ks : Int) == 0) = true := by simpa using e2
            simp -dsimp [I, nn1, n1n, hL1, hL2, e0, e00, e2']
            exact hq ⟨by simp [Tt, e00, e2], frp _ _⟩
          · have e2' : ((ks : Int) == 0) = false := by simpa using e2
            simp -dsimp [I, nn1, n1n, hL1, hL2, e0, e00, e2']
            exact hq ⟨by simp [Tt, e2], frp _ _⟩
        · have e00 : ¬ 1 ≤ ns := by omega
          simp -dsimp [I, nn1, n1n, hL1, hL2, e0, e00]
          exact hq ⟨by simp [Tt, e00], frp _ _⟩
      have k7' : (kind == 7) = false := by simpa using k7
      simp -dsimp [k7']
      simp only [k7, if_false] at hy
      by_cases k8 : kind = 8
      · subst k8
        simp only [if_true] at hy
        rw [hy]
        by_cases e1 : ns = 0
        case neg =>
          have e1' : ((ns : Int) == 0) = false := by simpa using e1
          simp -dsimp [I, nn1, n1n, hL1, hL2, e1']
          exact hq ⟨by simp [Tt, e1], frp _ _⟩
        have e1' : ((ns : Int) == 0) = true := by simpa using e1
        by_cases e2 : ks = 0
        case neg =>
          have e2' : ((ks : Int) == 0) = false := by simpa using e2
          simp -dsimp [I, nn1, n1n, hL1, hL2, e1', e2']
          exact hq ⟨by simp [Tt, e2], frp _ _⟩
        have e2' : ((ks : Int) == 0) = true := by simpa using e2
        simp -dsimp [I, nn1, n1n, hL1, hL2, e1', e2']
        refine aCall_of (cGreat name l5 _ _) ?_
        rintro d m' n' ⟨rfl, rfl, rfl⟩
        cases e3 : greatN name with
        | false =>
          simp -dsimp [I, Tt]
          exact hq ⟨by simp [Tt], frp _ _⟩
        | true =>
        by_cases e4 : mod = []
        · subst e4
          simp -dsimp [I, Tt, nn1, n1n]
          exact hq ⟨by simp [Tt, e1, e2], frp _ _⟩
        · have e4' : (mod == []) = false := by simpa using e4
          simp -dsimp [I, Tt, nn1, n1n, e4']
          refine aCall_of (cSmall mod l4 _ _) ?_
          rintro d m' n' ⟨rfl, rfl, rfl⟩
          simp -dsimp [I, Tt]
          exact hq ⟨by simp [Tt, e1, e2, e4], frp _ _⟩
      have k8' : (kind == 8) = false := by simpa using k8
      simp -dsimp [k8']
      simp only [k8, if_false] at hy
      by_cases k9 : kind = 9
      · subst k9
        simp only [if_true] at hy
        rw [hy]
        by_cases e1 : ns = 0
        case neg =>
          have e1' : ((ns : Int) == 0) = false := by simpa using e1
          simp -dsimp [I, nn1, n1n, hL1, hL2, e1']
          exact hq ⟨by simp [Tt, e1], frp _ _⟩
        have e1' : ((ns : Int) == 0) = true := by simpa using e1
        by_cases e2 : ks = 0
        case neg =>
          have e2' : ((ks : Int) == 0) = false := by simpa using e2
          simp -dsimp [I, nn1, n1n, hL1, hL2, e1', e2']
          exact hq ⟨by simp [Tt, e2], frp _ _⟩
        have e2' : ((ks : Int) == 0) = true := by simpa using e2
        simp -dsimp [I, nn1, n1n, hL1, hL2, e1', e2']
        refine aCall_of (cSmall pkg l3 _ _) ?_
        rintro d m' n' ⟨rfl, rfl, rfl⟩
        cases e3 : smallN pkg with
        | false =>
          simp -dsimp [I, Tt]
          exact hq ⟨by simp [Tt], frp _ _⟩
        | true =>
        simp -dsimp [I, Tt, nn1, n1n]
        refine aCall_of (cSmall mod l4 _ _) ?_
        rintro d m' n' ⟨rfl, rfl, rfl⟩
        cases e4 : smallN mod with
        | false =>
          simp -dsimp [I, Tt]
          exact hq ⟨by simp [Tt], frp _ _⟩
        | true =>
        simp -dsimp [I, Tt, nn1, n1n]
        refine aCall_of (cGreat name l5 _ _) ?_
        rintro d m' n' ⟨rfl, rfl, rfl⟩
        cases e5 : greatN name with
        | false =>
          simp -dsimp [I, Tt]
          exact hq ⟨by simp [Tt], frp _ _⟩
        | true =>
        by_cases e6 : 1 ≤ major
        · by_cases e7 : major ≤ 999999999
          · simp -dsimp [I, Tt, nn1, n1n, e6, e7]
            exact hq ⟨by simp [Tt, e1, e2, e6, e7], frp _ _⟩
          · simp -dsimp [I, Tt, nn1, n1n, e6, e7]
            exact hq ⟨by simp [Tt, e7], frp _ _⟩
        · simp -dsimp [I, Tt, nn1, n1n, e6]
          exact hq ⟨by simp [Tt, e6], frp _ _⟩
      have k9' : (kind == 9) = false := by simpa using k9
      simp -dsimp [k9']
      simp only [k9, if_false] at hy
      rw [hy]
      exact hq ⟨rfl, frp _ _⟩
  · rintro d m' n' ⟨rfl, h⟩
    exact ⟨_, (pur_T _).pub, h, rfl⟩
end Go.Proofs.Mv.App
