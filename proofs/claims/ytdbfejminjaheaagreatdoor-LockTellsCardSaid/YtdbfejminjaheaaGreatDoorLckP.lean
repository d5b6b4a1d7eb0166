/- A part of the proofs of the seat YtdbfejminjaheaaGreatDoor: the abstract machine, the contracts of the functions, the laws. No condition of its own. -/
import Derived.Test.YtdbfejminjaheaaGreatDoorLckF
import Derived.Test.YtdbfejminjaheaaGreatDoorVerP
set_option linter.unusedSimpArgs false
set_option linter.unusedVariables false
set_option linter.unusedSectionVars false
open Go Go.Proofs Go.Proofs.Mv.V
namespace Go.Proofs.Mv.App
/-! A token is one run of letters and digits, or of signs. -/
def isSg (x : UInt8) : Bool := decide (x ∈ ([123, 125, 40, 41, 91, 93, 60, 62, 44, 58, 46, 61, 45] : List UInt8))
theorem sg_word {x : UInt8} (h : isSg x = true) : isWord x = false ∧ x ≠ 32 := by
  simp only [isSg, decide_eq_true_eq, List.mem_cons, List.not_mem_nil, or_false] at h
  rcases h with h | h | h | h | h | h | h | h | h | h | h | h | h <;> subst h <;> decide
theorem word_ne {x : UInt8} (h : isWord x = true) : x ≠ 32 := fun e => by subst e; revert h; decide
def TkC (t : Tok) : Prop := t.text ≠ [] ∧ (t.text.all isWord = true ∨ t.text.all isSg = true)
theorem take_runN (p : UInt8 → Bool) (s : List UInt8) : (s.take (runN p s)).all p = true := by
  unfold runN
  induction s with
  | nil => rfl
  | cons x s ih =>
    simp only [List.takeWhile_cons]
    split
    · rename_i h; simp only [List.length_cons, List.take_succ_cons, List.all_cons, h, ih, Bool.and_self]
    · rfl
theorem first_c (x : UInt8) (r : List UInt8) (h : (firstT (x :: r)).2 ≠ 0) : (x :: r).take (firstT (x :: r)).2 ≠ [] ∧ (((x :: r).take (firstT (x :: r)).2).all isWord = true ∨ ((x :: r).take (firstT (x :: r)).2).all isSg = true) := by
  refine ⟨fun e => (List.take_eq_nil_iff.1 e).elim h (fun e => by cases e), ?_⟩
  simp only [firstT] at h ⊢
  split
  · exact .inl (take_runN _ _)
  · split
    · exact .inl (take_runN _ _)
    · split
      · left
        have := take_runN isDigit (x :: r)
        rw [List.all_eq_true] at this ⊢
        exact fun y hy => by simp [isWord, this y hy]
      · split
        · rename_i hp
          right
          have hp : (x :: r).take 2 = [45, 62] := by simpa [pre] using hp
          rw [hp]; rfl
        · split
          · rename_i hp
            right
            have hp : (x :: r).take 2 = [46, 46] := by simpa [pre] using hp
            rw [hp]; rfl
          · split
            · rename_i hs
              right
              simp only [isSign, decide_eq_true_eq, List.mem_cons, List.not_mem_nil, or_false] at hs
              simp only [List.take_succ_cons, List.take_zero, List.all_cons, List.all_nil, Bool.and_true, isSg, decide_eq_true_eq, List.mem_cons, List.not_mem_nil, or_false]
              rcases hs with h | h | h | h | h | h | h | h | h | h | h | h <;> simp [h]
            · rename_i h1 h2 h3 h4 h5 h6; simp [h1, h2, h3, h4, h5, h6] at h
theorem toks_c : ∀ (k : Nat) (s : List UInt8) (a : Nat), ∀ t ∈ (tokF k s a).1, TkC t
  | 0, _, _ => by simp [tokF]
  | _ + 1, [], _ => by simp [tokF]
  | k + 1, x :: r, a => by
    simp only [tokF]
    split
    · exact toks_c k r _
    · split
      · exact toks_c k _ _
      · split
        · simp
        · rename_i hf
          intro t ht
          rcases List.mem_cons.1 ht with rfl | ht
          · exact first_c x r hf
          · exact toks_c k _ _ t ht
theorem tkc_sp {t : Tok} (h : TkC t) : ∀ x ∈ t.text, x ≠ 32 := fun x hx => by
  rcases h.2 with h | h
  · exact word_ne (List.all_eq_true.1 h x hx)
  · exact (sg_word (List.all_eq_true.1 h x hx)).2
/-! How often a text goes over from one kind to the other. -/
def swaps : List UInt8 → Nat
  | [] => 0
  | [_] => 0
  | x :: y :: r => (if isWord x = isWord y then 0 else 1) + swaps (y :: r)
theorem swaps_app : ∀ (a b : List UInt8), swaps (a ++ b) ≤ swaps a + 1 + swaps b
  | [], b => by simp
  | [x], [] => by simp [swaps]
  | [x], y :: b => by simp only [List.cons_append, List.nil_append, swaps]; split <;> omega
  | x :: y :: a, b => by
    have := swaps_app (y :: a) b
    simp only [List.cons_append, swaps] at this ⊢
    omega
theorem swaps_all {c : Bool} : ∀ (a : List UInt8), (∀ x ∈ a, isWord x = c) → swaps a = 0
  | [], _ => rfl
  | [_], _ => rfl
  | x :: y :: a, h => by
    simp only [swaps, h x (by simp), h y (by simp), if_true]
    rw [swaps_all (y :: a) fun z hz => h z (List.mem_cons_of_mem _ hz)]
theorem swaps_tok {t : Tok} (h : TkC t) : swaps t.text = 0 := by
  rcases h.2 with h | h
  · exact swaps_all (c := true) _ fun x hx => List.all_eq_true.1 h x hx
  · exact swaps_all (c := false) _ fun x hx => (sg_word (List.all_eq_true.1 h x hx)).1
theorem swaps_flat : ∀ (l : List Tok), (∀ t ∈ l, TkC t) → swaps (l.map (·.text)).flatten + 1 ≤ l.length + 1
  | [], _ => by simp [swaps]
  | [t], h => by simp [swaps_tok (h t (by simp))]
  | t :: u :: l, h => by
    have ih := swaps_flat (u :: l) fun x hx => h x (List.mem_cons_of_mem _ hx)
    have h1 := swaps_app t.text ((u :: l).map (·.text)).flatten
    rw [swaps_tok (h t (by simp))] at h1
    simp only [List.map_cons, List.flatten_cons, List.length_cons] at h1 ih ⊢
    omega
theorem swaps_flat1 {l : List Tok} (h : ∀ t ∈ l, TkC t) (h1 : l ≠ []) : swaps (l.map (·.text)).flatten + 1 ≤ l.length := by
  match l, h, h1 with
  | [t], h, _ => simp [swaps_tok (h t (by simp))]
  | t :: u :: l, h, _ =>
    have ih := swaps_flat1 (l := u :: l) (fun x hx => h x (List.mem_cons_of_mem _ hx)) (by simp)
    have h1 := swaps_app t.text ((u :: l).map (·.text)).flatten
    rw [swaps_tok (h t (by simp))] at h1
    simp only [List.map_cons, List.flatten_cons, List.length_cons] at h1 ih ⊢
    omega
theorem dot_word : isWord 46 = false := by decide
theorem swaps_dig : ∀ (a r : List UInt8), a ≠ [] → a.all isDigit = true → swaps (a ++ 46 :: r) = 1 + swaps (46 :: r)
  | [x], r, _, h => by
    have : isWord x = true := by simp only [List.all_cons, List.all_nil, Bool.and_true] at h; simp [isWord, h]
    simp [swaps, this, dot_word]
  | x :: y :: a, r, _, h => by
    have ih := swaps_dig (y :: a) r (by simp) (by simp only [List.all_cons, Bool.and_eq_true] at h ⊢; exact h.2)
    have hx : isWord x = true := by simp only [List.all_cons, Bool.and_eq_true] at h; simp [isWord, h.1]
    have hy : isWord y = true := by simp only [List.all_cons, Bool.and_eq_true] at h; simp [isWord, h.2.1]
    simp only [List.cons_append, swaps, hx, hy, if_true, Nat.zero_add] at ih ⊢
    exact ih
theorem swaps_dot {a : List UInt8} (r : List UInt8) (h0 : a ≠ []) (h : a.all isDigit = true) : swaps (46 :: (a ++ r)) = 1 + swaps (a ++ r) := by
  cases a with
  | nil => exact absurd rfl h0
  | cons x a =>
    have hx : isWord x = true := by simp only [List.all_cons, Bool.and_eq_true] at h; simp [isWord, h.1]
    simp [swaps, hx, dot_word]
theorem dig_word {k : Nat} (h : k ≤ 999999999) : digits k ≠ [] ∧ (digits k).all isDigit = true := by
  have := okNum_parts (part_digits h).1
  exact ⟨fun e => by rw [e] at this; simp at this, this.2.2.2⟩
theorem swaps_ver {v : Ver} (h : mayV v = true) : swaps (textV v) = 4 := by
  obtain ⟨a, b, c, rfl, ha, hb, hc⟩ := mayV_nat h
  rw [textV_nat]
  have hc2 := dig_word hc
  rw [swaps_dig _ _ (dig_word ha).1 (dig_word ha).2, swaps_dot _ (dig_word hb).1 (dig_word hb).2, swaps_dig _ _ (dig_word hb).1 (dig_word hb).2]
  have := swaps_dot (a := digits c) [] hc2.1 hc2.2
  rw [List.append_nil] at this
  rw [this, swaps_all (c := true) _ fun x hx => by simp [isWord, List.all_eq_true.1 hc2.2 x hx]]
/-- Fewer than five tokens are no version. -/
theorem short_none {l : List Tok} (h : ∀ t ∈ l, TkC t) (hl : l.length < 5) : parseR (l.map (·.text)).flatten = none := by
  cases e : parseR (l.map (·.text)).flatten with
  | none => rfl
  | some v =>
    exfalso
    obtain ⟨h1, h2⟩ := parseR_some e
    have h4 := swaps_ver h1
    rw [h2] at h4
    by_cases h0 : l = []
    · subst h0; simp [swaps] at h4
    · have := swaps_flat1 h h0; omega
/-! Chunks. -/
def pkF : List Tok → Option Pck
  | [] => none
  | t :: r => (parseR (r.map (·.text)).flatten).map fun v => ⟨t.text, v⟩
def chk (l : List Tok) (i : Nat) : List Tok := (l.drop (6 * i)).take 6
theorem chk_succ (l : List Tok) (i : Nat) : chk l (i + 1) = chk (l.drop 6) i := by
  unfold chk; rw [List.drop_drop]; congr 2; omega
theorem six {l : List Tok} (h : l ≠ []) (h6 : l.length % 6 = 0) : ∃ t a b c d e r, l = t :: a :: b :: c :: d :: e :: r ∧ r.length % 6 = 0 := by
  match l, h with
  | t :: a :: b :: c :: d :: e :: r, _ => exact ⟨t, a, b, c, d, e, r, rfl, by simp only [List.length_cons] at h6; omega⟩
  | [_], _ => simp at h6
  | [_, _], _ => simp at h6
  | [_, _, _], _ => simp at h6
  | [_, _, _, _], _ => simp at h6
  | [_, _, _, _, _], _ => simp at h6
theorem picks_all : ∀ (k : Nat) (l : List Tok) (g : List Pck) (acc : List Pck), l.length = 6 * k → g.length = k → (∀ i (h : i < g.length), pkF (chk l i) = some g[i]) → picksF l acc = some (acc ++ g)
  | 0, l, g, acc, hl, hg, h => by
    obtain rfl : l = [] := List.eq_nil_of_length_eq_zero (by omega)
    obtain rfl : g = [] := List.eq_nil_of_length_eq_zero hg
    simp [picksF]
  | k + 1, l, g, acc, hl, hg, h => by
    obtain ⟨t, a, b, c, d, e, r, rfl, _⟩ := six (l := l) (fun e => by rw [e] at hl; simp at hl) (by omega)
    cases g with
    | nil => simp at hg
    | cons x g =>
      have h0 := h 0 (by simp)
      simp only [chk, Nat.mul_zero, List.drop_zero, List.take_succ_cons, List.take_zero, pkF, List.map_cons, List.map_nil, List.flatten_cons, List.flatten_nil, List.append_nil, List.getElem_cons_zero] at h0
      obtain ⟨v, hv, rfl⟩ := Option.map_eq_some_iff.1 h0
      have ih := picks_all k r g (acc ++ [⟨t.text, v⟩]) (by simp only [List.length_cons] at hl; omega) (by simpa using hg) (fun i hi => by
        have := h (i + 1) (by simp; exact hi)
        rw [chk_succ] at this
        simpa using this)
      have hv' : parseR (a.text ++ b.text ++ c.text ++ d.text ++ e.text) = some v := by simpa using hv
      simp only [picksF, hv', ih]
      simp
theorem picks_none : ∀ (k : Nat) (l : List Tok) (acc : List Pck) (i : Nat), l.length = 6 * k → i < k → pkF (chk l i) = none → picksF l acc = none
  | 0, l, acc, i, hl, hi, h => by omega
  | k + 1, l, acc, i, hl, hi, h => by
    obtain ⟨t, a, b, c, d, e, r, rfl, _⟩ := six (l := l) (fun e => by rw [e] at hl; simp at hl) (by omega)
    simp only [picksF]
    cases hv : parseR (a.text ++ b.text ++ c.text ++ d.text ++ e.text) with
    | none => rfl
    | some v =>
      cases i with
      | zero =>
        simp only [chk, Nat.mul_zero, List.drop_zero, List.take_succ_cons, List.take_zero, pkF, List.map_cons, List.map_nil, List.flatten_cons, List.flatten_nil, List.append_nil, Option.map_eq_none_iff] at h
        have : parseR (a.text ++ b.text ++ c.text ++ d.text ++ e.text) = none := by simpa using h
        rw [this] at hv; cases hv
      | succ i =>
        rw [chk_succ] at h
        exact picks_none k r _ i (by simp only [List.length_cons] at hl; omega) (by omega) h
/-- How many chunks there are. -/
def chN (l : List Tok) : Nat := (l.length + 5) / 6
theorem chN_lt (l : List Tok) (k : Nat) : k < chN l ↔ 6 * k < l.length := by unfold chN; omega
theorem lock_none {l : List Tok} {i : Nat} (hi : i < chN l) (h : pkF (chk l i) = none) : lockF l = none := by
  unfold lockF
  split
  · rename_i h6
    rw [picks_none (l.length / 6) l [] i (by omega) (by unfold chN at hi; omega) h]
  · rfl
theorem lock_all {l : List Tok} (hc : ∀ t ∈ l, TkC t) {g : List Pck} (hg : g.length = chN l) (h : ∀ i (h : i < g.length), pkF (chk l i) = some g[i]) : lockF l = if mayL g then some g else none := by
  unfold lockF
  split
  · rename_i h6
    rw [picks_all (l.length / 6) l g [] (by omega) (by unfold chN at hg; omega) h, List.nil_append]
  · rename_i h6
    exfalso
    have hk : chN l - 1 < g.length := by unfold chN at hg ⊢; omega
    have h1 := h (chN l - 1) hk
    have hlen : (chk l (chN l - 1)).length = l.length % 6 := by
      unfold chk chN; rw [List.length_take, List.length_drop]; omega
    have hcc : ∀ t ∈ chk l (chN l - 1), TkC t := fun t ht => hc t (List.mem_of_mem_drop (List.mem_of_mem_take ht))
    generalize chk l (chN l - 1) = C at h1 hlen hcc
    cases C with
    | nil => simp [pkF] at h1
    | cons t r =>
      simp only [pkF] at h1
      rw [short_none (fun x hx => hcc x (List.mem_cons_of_mem _ hx)) (by simp only [List.length_cons] at hlen; omega)] at h1
      cases h1
theorem join32_le {B : Nat} : ∀ (l : List (List UInt8)), (∀ s ∈ l, s.length ≤ B) → (joinB [32] l).length ≤ l.length * (B + 1)
  | [], _ => by simp [joinB]
  | [s], h => by have := h s (by simp); simp only [joinB, List.length_singleton]; omega
  | s :: t :: r, h => by
    have h1 := h s (by simp)
    have ih := join32_le (t :: r) fun x hx => h x (List.mem_cons_of_mem _ hx)
    have e : joinB [32] (s :: t :: r) = s ++ [32] ++ joinB [32] (t :: r) := rfl
    rw [e, List.length_append, List.length_append]
    simp only [List.length_cons, Nat.add_mul, List.length_nil] at ih ⊢
    omega
theorem flat_le {B : Nat} : ∀ (l : List (List UInt8)), (∀ s ∈ l, s.length ≤ B) → l.flatten.length ≤ l.length * B
  | [], _ => by simp
  | s :: r, h => by
    have h1 := h s (by simp)
    have ih := flat_le r fun x hx => h x (List.mem_cons_of_mem _ hx)
    simp only [List.flatten_cons, List.length_append, List.length_cons, Nat.add_mul] at ih ⊢
    omega
theorem pkF_txt {l : List Tok} {p : Pck} (h : pkF l = some p) : ∃ t ∈ l, p.pkg = t.text := by
  cases l with
  | nil => simp [pkF] at h
  | cons t r =>
    simp only [pkF] at h
    obtain ⟨v, _, rfl⟩ := Option.map_eq_some_iff.1 h
    exact ⟨t, by simp, rfl⟩
end Go.Proofs.Mv.App
