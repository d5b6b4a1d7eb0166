/- A part of the proofs: machine, contracts, laws. No condition of its own. -/
import Derived.Test.YtihbegkefjjhpaaGreatDoorP02
import Derived.Test.YtihbegkefjjhpaaGreatDoorMvD
import Derived.Test.YtihbegkefjjhpaaGreatDoorP00
import Derived.Test.YtihbegkefjjhpaaGreatDoorMvC
import Derived.Test.YtihbegkefjjhpaaGreatDoorMvCl
set_option linter.unusedSimpArgs false
set_option linter.unusedVariables false
set_option linter.unusedSectionVars false
open Go Go.Proofs Go.Proofs.Mv.V
set_option maxRecDepth 10000
namespace Go.Proofs.Mv.App
structure Tok where
  kind : Int
  at_ : Int
  text : List UInt8
def tokD [GI] (t : Tok) : List D := [I t.kind, I t.at_, S t.text]
def tokF : Nat → List UInt8 → Nat → List Tok × Option Nat
  | 0, _, _ => ([], none)
  | _ + 1, [], _ => ([], none)
  | k + 1, x :: r, a => if isBlank x then tokF k r (a + 1)
    else if x = 35 then tokF k ((x :: r).drop (runN (fun y => !decide (y.toNat = 10)) (x :: r))) (a + runN (fun y => !decide (y.toNat = 10)) (x :: r))
    else if (firstT (x :: r)).2 = 0 then ([], some a)
    else (⟨(firstT (x :: r)).1, a, (x :: r).take (firstT (x :: r)).2⟩ :: (tokF k ((x :: r).drop (firstT (x :: r)).2) (a + (firstT (x :: r)).2)).1,
      (tokF k ((x :: r).drop (firstT (x :: r)).2) (a + (firstT (x :: r)).2)).2)
theorem hash_pos (x : UInt8) (r : List UInt8) (h : x = 35) : 1 ≤ runN (fun y => !decide (y.toNat = 10)) (x :: r) := by
  subst h; simp [runN, List.takeWhile_cons]
theorem firstT_le (x : UInt8) (r : List UInt8) : (firstT (x :: r)).2 ≤ r.length + 1 := by
  rw [firstT]
  have h1 := runN_le isWord (x :: r)
  have h2 := runN_le isDigit (x :: r)
  simp only [List.length_cons] at h1 h2
  have hp : ∀ a b, pre [a, b] (x :: r) = true → 2 ≤ r.length + 1 := by
    intro a b h
    simp only [pre, decide_eq_true_eq] at h
    have := congrArg List.length h
    simp only [List.length_take, List.length_cons, List.length_nil] at this; omega
  repeat' split
  all_goals first | assumption | (simp; done) | (simp; have := hp _ _ ‹_›; omega) | (simp; omega)
theorem tokF_more : ∀ (k k' : Nat) (s : List UInt8) (a : Nat), s.length < k → s.length < k' → tokF k s a = tokF k' s a := by
  intro k
  induction k with
  | zero => intro k' s a h; omega
  | succ k ih =>
    intro k' s a h h'
    obtain ⟨j, rfl⟩ : ∃ j, k' = j + 1 := ⟨k' - 1, by omega⟩
    match s with
    | [] => rfl
    | x :: r =>
      simp only [List.length_cons] at h h'
      have hd : ∀ q, 1 ≤ q → ((x :: r).drop q).length < k ∧ ((x :: r).drop q).length < j := by intro q hq; simp only [List.length_drop, List.length_cons]; omega
      simp only [tokF]
      split
      · exact ih j r _ (by omega) (by omega)
      · split
        · rename_i hx
          have := hd _ (hash_pos x r hx)
          exact ih j _ _ this.1 this.2
        · split
          · rfl
          · rename_i hf
            have := hd (firstT (x :: r)).2 (by omega)
            rw [ih j _ _ this.1 this.2]
def toksAt (s : List UInt8) (a : Nat) : List Tok × Option Nat := tokF (s.length + 1) s a
theorem toksAt_nil (a : Nat) : toksAt [] a = ([], none) := rfl
theorem toksAt_blank {x : UInt8} (r : List UInt8) (a : Nat) (h : isBlank x = true) : toksAt (x :: r) a = toksAt r (a + 1) := by
  simp only [toksAt, tokF, h, if_true]; exact tokF_more _ _ _ _ (by simp) (by simp)
theorem toksAt_hash {x : UInt8} (r : List UInt8) (a : Nat) (h : isBlank x = false) (hx : x = 35) :
    toksAt (x :: r) a = toksAt ((x :: r).drop (runN (fun y => !decide (y.toNat = 10)) (x :: r))) (a + runN (fun y => !decide (y.toNat = 10)) (x :: r)) := by
  have := hash_pos x r hx
  show tokF _ _ _ = _
  rw [tokF]
  simp only [h, hx, if_true, Bool.false_eq_true, if_false]
  rw [hx] at this
  exact tokF_more _ _ _ _ (by simp only [List.length_drop, List.length_cons]; omega) (by simp)
theorem toksAt_bad {x : UInt8} (r : List UInt8) (a : Nat) (h : isBlank x = false) (hx : ¬ x = 35) (hf : (firstT (x :: r)).2 = 0) : toksAt (x :: r) a = ([], some a) := by
  simp only [toksAt, tokF, h, hx, hf, if_true, Bool.false_eq_true, if_false]
theorem toksAt_tok {x : UInt8} (r : List UInt8) (a : Nat) (h : isBlank x = false) (hx : ¬ x = 35) (hf : ¬ (firstT (x :: r)).2 = 0) :
    toksAt (x :: r) a = (⟨(firstT (x :: r)).1, a, (x :: r).take (firstT (x :: r)).2⟩ :: (toksAt ((x :: r).drop (firstT (x :: r)).2) (a + (firstT (x :: r)).2)).1, (toksAt ((x :: r).drop (firstT (x :: r)).2) (a + (firstT (x :: r)).2)).2) := by
  show tokF _ _ _ = _
  rw [tokF]
  simp only [h, hx, hf, Bool.false_eq_true, if_false]
  rw [show tokF (x :: r).length ((x :: r).drop (firstT (x :: r)).2) (a + (firstT (x :: r)).2) = toksAt ((x :: r).drop (firstT (x :: r)).2) (a + (firstT (x :: r)).2) from tokF_more _ _ _ _ (by simp only [List.length_drop, List.length_cons]; omega) (by simp)]
end Go.Proofs.Mv.App
open Go Go.Proofs Go.Proofs.Mv.V
set_option maxRecDepth 10000
namespace Go.Proofs.Mv.App
variable [GI]
@[simp] theorem ofL_get (s : List UInt8) (i : Nat) (h : i < (ofL s).data.size) : (ofL s).data[i] = s[i]'(by have : (ofL s).data.size = s.length := (rfl : s.toArray.size = s.length); omega) := rfl
def spotE (a c : Int) : D := .iface 62 (.rptr none [.v (.int .i64 a), .iface 39 (.v (.int .i64 c))])
structure TokInv (s : List UInt8) (m : Mem) (n : Nat) (i : Nat) (σ : Nat → D) (m2 : Mem) (n2 : Nat) : Prop where
  h0 : σ 0 = S s
  h5 : σ 5 = I i
  le : i ≤ s.length
  fr : ∀ j, j < n → m2 j = m j
  nn : n ≤ n2
  tk : ∃ acc : List Tok, Lst m2 3 (acc.map tokD) (σ 4) ∧ (∀ k, kof (σ 4) = some k → n ≤ k ∧ k < n2) ∧ acc.length ≤ i ∧ toksAt s 0 = (acc ++ (toksAt (s.drop i) i).1, (toksAt (s.drop i) i).2)
theorem cTokens (s : List UInt8) (m : Mem) (n : Nat) : ACalls Tryz.prog 34 [S s] m n (fun d m' n' =>
    d = (if 20000 < s.length then .tup [.sl 3 [], code 3] else match (toksAt s 0).2 with | some a => .tup [.sl 3 [], spotE a 2] | none => .tup [.sl 3 ((toksAt s 0).1.map tokD), nilE]) ∧ m' = m ∧ n' = n) := by
  refine acalls_done (R' := Hq (fun d m' n' => ∃ x y, d = .tup [x, y] ∧ (if 20000 < s.length then x = .v (.slice none 0 0) ∧ y = code 3 else match (toksAt s 0).2 with
    | some a => x = .v (.slice none 0 0) ∧ (∃ k, n ≤ k ∧ y = .iface 62 (.ptr k 0 0 0) ∧ m' k = some ⟨2, [[I a, code 2]], 0⟩)
    | none => Lst m' 3 ((toksAt s 0).1.map tokD) x ∧ (∀ k, kof x = some k → n ≤ k) ∧ y = nilE) ∧ ∀ j, j < n → m' j = m j) tg) ?_ ?_
  · refine acalls_vc [0, 2, 3, 4, 5, 6, 7, 10, 15, 19, 25, 40] Tryz.func34 Tryz.ntmps34 (by kernel_rfl) rfl rfl (by simp) ?_
    by_cases a : 20000 < (s.length : Int)
    · simp -dsimp [S, a]
      exact hq ⟨_, _, rfl, by rw [if_pos (by omega)]; exact ⟨rfl, rfl⟩, fun _ _ => rfl⟩
    have hs : s.length ≤ 1000000000 := by omega
    simp -dsimp [S, a]
    refine vloop_of (β := Nat) (TokInv s m n) (fun i => s.length - i) 0 ⟨by simp [S], by simp [I], by omega, fun _ _ => rfl, by omega, [], .nil, by simp, by simp, by simp⟩ ?_
    rintro i σ m2 n2 ⟨h0, h5, le, fr, nn, acc, hL, hk, hacc, hsp⟩
    by_cases hi : (i : Int) < s.length
    · have hi' : i < s.length := by omega
      simp -dsimp [h0, h5, S, I, hi, hi']
      refine aCall_of (cLexBlank s[i] m2 n2) ?_
      rintro d m' n' ⟨rfl, rfl, rfl⟩
      have hd : s.drop i = s[i] :: s.drop (i + 1) := List.drop_eq_getElem_cons hi'
      have hdl : (s.drop i).length = s.length - i := List.length_drop
      have w1 : ∀ j : Nat, j ≤ s.length - i → IntKind.i64.wrap ((i : Int) + j) = ((i + j : Nat) : Int) := fun j hj => by rw [wrap_i64 (by omega) (by omega)]; omega
      cases hb : isBlank s[i]
      case true =>
        simp -dsimp [Tt]
        refine ⟨i + 1, by omega, by simp [S], ?_, by omega, fr, nn, acc, by simpa using hL, by simpa using hk, by omega, ?_⟩
        · have := w1 1 (by omega); simp -dsimp [I] at this ⊢; exact this
        · rw [hsp, hd, toksAt_blank _ _ hb]
      by_cases hx : s[i] = 35
      · simp -dsimp [Tt, h0, h5, S, I, hi', hx]
        refine ⟨le, ?_⟩
        refine aCall_of (cRun (s.drop i) (by omega) _ _ cLexHash m' n') ?_
        rintro d m' n' ⟨rfl, rfl, rfl⟩
        have hrl := runN_le (fun y => !decide (y.toNat = 10)) (s.drop i)
        have hrp : 1 ≤ runN (fun y => !decide (y.toNat = 10)) (s.drop i) := by rw [hd]; exact hash_pos _ _ hx
        have hts : toksAt (s.drop i) i = toksAt ((s.drop i).drop (runN (fun y => !decide (y.toNat = 10)) (s.drop i))) (i + runN (fun y => !decide (y.toNat = 10)) (s.drop i)) := by rw [hd]; exact toksAt_hash _ _ hb hx
        generalize runN (fun y => !decide (y.toNat = 10)) (s.drop i) = j at hrl hrp hts
        simp -dsimp [h0, h5, S, I]
        refine ⟨i + j, by omega, by simp [S], ?_, by omega, fr, nn, acc, by simpa using hL, by simpa using hk, by omega, ?_⟩
        · have := w1 j (by omega); simp -dsimp [I] at this ⊢; exact this
        · rw [hsp, hts, List.drop_drop]
      have hx' : ((s[i].toNat : Int) == 35) = false := by
        simp only [beq_eq_false_iff_ne, ne_eq]; intro e; apply hx; apply UInt8.toNat_inj.1; show s[i].toNat = 35; omega
      simp -dsimp [Tt, h0, h5, S, I, hi', hx']
      refine ⟨le, ?_⟩
      rw [hd]
      refine aCall_of (cFirstT s[i] (s.drop (i + 1)) (by rw [← hd]; omega) m' n') ?_
      rintro d m' n' ⟨rfl, rfl, rfl⟩
      have hfl := firstT_le s[i] (s.drop (i + 1))
      simp only [List.length_drop] at hfl
      have htb := toksAt_bad (s.drop (i + 1)) i hb hx
      have htt := toksAt_tok (s.drop (i + 1)) i hb hx
      rw [← hd] at hfl htb htt ⊢
      generalize hft : firstT (s.drop i) = ft at hfl htb htt
      obtain ⟨kd, j⟩ := ft
      by_cases hj : j = 0
      · simp -dsimp [h0, h5, S, I, hj]
        have := htb hj
        exact hq ⟨_, _, rfl, by rw [if_neg (by omega), hsp, this]; exact ⟨rfl, _, nn, rfl, by simp [code, I]⟩, fun k hk => by rw [set_ne _ _ _ _ (by omega), fr k hk]⟩
      have hj' : ((j : Int) == 0) = false := by simp; omega
      have wj : IntKind.i64.wrap ((i : Int) + j) = (i : Int) + j := wrap_i64 (by omega) (by omega)
      have tn : ((i : Int) + j).toNat = i + j := by omega
      have dt : List.drop i (List.take (i + j) s) = List.take j (List.drop i s) := by rw [List.take_drop, Nat.add_comm]
      have ht := htt hj
      simp -dsimp [h0, h5, S, I, hj', wj, tn, dt]
      refine ⟨by omega, ?_⟩
      refine b4_append (hL.frame fun k hk' => ?_) (fun k hk' => ?_) (by trivial) (by trivial) (by omega) (by simp; omega) ?_
      · have := hk k hk'; rw [set_ne _ _ _ _ (by omega)]
      · have := hk k hk'; omega
      intro d2 m4 n4 p1 p2 p3 p4
      simp -dsimp [wj]
      refine ⟨i + j, by omega, by simp [S], by simp [I], by omega, fun q hq' => ?_, by omega, acc ++ [⟨kd, i, List.take j (List.drop i s)⟩], ?_, ?_, by simp; omega, ?_⟩
      · rw [p4 q (by omega) (fun e => by have := hk q e; omega), set_ne _ _ _ _ (by omega), fr q hq']
      · simpa [tokD, I, S] using p1
      · intro k hk'
        simp at hk'
        have := p3 k hk'
        rcases this.2 with e | e
        · have := hk k e; omega
        · omega
      · rw [hsp, ht, List.drop_drop]; simp
    · simp -dsimp [h0, h5, S, I, hi]
      have hil : i = s.length := by omega
      rw [hil, List.drop_length, toksAt_nil] at hsp
      exact hq ⟨_, _, rfl, by rw [if_neg (by omega), hsp]; exact ⟨by simpa using hL, fun k hk' => (hk k hk').1, rfl⟩, fr⟩
  · rintro d m' n' ⟨x, y, rfl, h, hf⟩
    split at h
    · rename_i h1
      obtain ⟨rfl, rfl⟩ := h
      exact ⟨_, pub_pair (pub_nil 3) (pur_code _).pub, hf, by rw [if_pos h1]⟩
    · rename_i h1
      rw [if_neg h1]
      split at h
      · obtain ⟨rfl, k, hk, rfl, hm⟩ := h
        exact ⟨_, pub_pair (pub_nil 3) (.iface (.ptr hm hk (.cons (pur_I _).pub (.cons (pur_code _).pub .nil)))), hf, rfl⟩
      · obtain ⟨h2, h3, rfl⟩ := h
        exact ⟨_, pub_pair (.lstP h2 h3 (by
          intro e he d hd
          obtain ⟨t, _, rfl⟩ := List.mem_map.1 he
          simp only [tokD, List.mem_cons, List.not_mem_nil, or_false] at hd
          rcases hd with rfl | rfl | rfl
          · exact pur_I _
          · exact pur_I _
          · exact pur_S _)) pur_nilE.pub, hf, rfl⟩
end Go.Proofs.Mv.App
open Go Go.Proofs Go.Proofs.Mv.V
set_option maxRecDepth 10000
namespace Go.Proofs.Mv.App
variable [GI]
structure TokMid (s : List UInt8) (i : Nat) (acc : D) (m : Mem) (n : Nat) (σ : Nat → D) (m2 : Mem) (n2 : Nat) : Prop where
  h0 : σ 0 = S s
  h4 : σ 4 = acc
  h5 : σ 5 = I i
  mm : m2 = m
  nn : n2 = n
  tk : ∃ (j : Nat) (kd : Int), σ 7 = I ((i + j : Nat) : Int) ∧ σ 8 = I kd ∧ 1 ≤ j ∧ i + j ≤ s.length ∧
    ((kd = 0 ∧ toksAt (s.drop i) i = toksAt (s.drop (i + j)) (i + j)) ∨ (0 < kd ∧ toksAt (s.drop i) i = (⟨kd, i, (s.drop i).take j⟩ :: (toksAt (s.drop (i + j)) (i + j)).1, (toksAt (s.drop (i + j)) (i + j)).2)))
structure RunMid (s : List UInt8) (i : Nat) (kd : Int) (p : UInt8 → Bool) (acc : D) (m : Mem) (n : Nat) (j : Nat) (σ : Nat → D) (m2 : Mem) (n2 : Nat) : Prop where
  h0 : σ 0 = S s
  h4 : σ 4 = acc
  h5 : σ 5 = I i
  h7 : σ 7 = I ((i + j : Nat) : Int)
  h8 : σ 8 = I kd
  j1 : 1 ≤ j
  le : i + j ≤ s.length
  al : ∀ x ∈ (s.drop i).take j, p x = true
  mm : m2 = m
  nn : n2 = n
structure RTokInv (s : List UInt8) (m : Mem) (n : Nat) (i : Nat) (σ : Nat → D) (m2 : Mem) (n2 : Nat) : Prop where
  h0 : σ 0 = S s
  h5 : σ 5 = I i
  le : i ≤ s.length
  fr : ∀ j, j < n → m2 j = m j
  nn : n ≤ n2
  tk : ∃ acc : List Tok, Lst m2 3 (acc.map tokD) (σ 4) ∧ (∀ k, kof (σ 4) = some k → n ≤ k ∧ k < n2) ∧ acc.length ≤ i ∧ toksAt s 0 = (acc ++ (toksAt (s.drop i) i).1, (toksAt (s.drop i) i).2)
end Go.Proofs.Mv.App
open Go Go.Proofs Go.Proofs.Mv.V
set_option maxRecDepth 10000
namespace Go.Proofs.Mv.App
variable [GI]
def isLet (g : Bool) (x : UInt8) : Bool := isSmall x || isDigit x || (g && isGreat x)
def wordOk (g : Bool) (s : List UInt8) : Bool := s.all (isLet g) && decide (1 ≤ s.length) && decide (s.length ≤ 20)
def keyL : List (List UInt8) := [[97, 115], [97, 108, 105, 97, 115], [100, 101, 112], [104, 105, 100, 100, 101, 110], [105, 109, 112, 111, 114, 116], [105, 115], [109, 111, 100, 117, 108, 101], [111, 112, 97, 113, 117, 101], [112, 97, 99, 107, 97, 103, 101], [117, 115, 101], [118, 97, 108], [118, 101, 114, 115, 105, 111, 110]]
def smallN (s : List UInt8) : Bool := wordOk false s && (s.head?.any isSmall) && !decide (s ∈ keyL)
def greatN (s : List UInt8) : Bool := wordOk true s && (s.head?.any isGreat) && !decide (s = [73, 110, 116]) && !decide (s = [84, 101, 120, 116]) && !decide (s = [66, 111, 111, 108]) && !decide (s = [76, 105, 115, 116])
structure WordInv (s : List UInt8) (g : Bool) (m : Mem) (n : Nat) (i : Nat) (σ : Nat → D) (m2 : Mem) (n2 : Nat) : Prop where
  h0 : σ 0 = S s
  h1 : σ 1 = Tt g
  h8 : σ 8 = I s.length
  h9 : σ 9 = I i
  le : i ≤ s.length
  al : ∀ x ∈ s.take i, isLet g x = true
  mm : m2 = m
  nn : n2 = n
theorem all_end {s : List UInt8} {g : Bool} {i : Nat} (al : ∀ x ∈ s.take i, isLet g x = true) (h : i = s.length) : s.all (isLet g) = true := by
  subst h; rw [List.take_length] at al; exact List.all_eq_true.2 al
theorem all_stop {s : List UInt8} {g : Bool} {i : Nat} (h : i < s.length) (hb : isLet g s[i] = false) : s.all (isLet g) = false := by
  cases e : s.all (isLet g)
  · rfl
  · have := List.all_eq_true.1 e s[i] (List.getElem_mem h); rw [this] at hb; cases hb
theorem all_step {s : List UInt8} {g : Bool} {i : Nat} (al : ∀ x ∈ s.take i, isLet g x = true) (h : i < s.length) (hb : isLet g s[i] = true) : ∀ x ∈ s.take (i + 1), isLet g x = true := by
  intro x hx
  rw [List.take_succ_eq_append_getElem h] at hx
  rcases List.mem_append.1 hx with hx | hx
  · exact al x hx
  · simp at hx; rw [hx]; exact hb
theorem cWord (s : List UInt8) (hs : s.length ≤ 9223372036854775807) (g : Bool) (m : Mem) (n : Nat) : ACalls Tryz.prog 186 [S s, Tt g] m n (fun d m' n' => d = Tt (wordOk g s) ∧ m' = m ∧ n' = n) := by
  refine acalls_vc [0, 1, 4, 5, 6, 8, 9, 10, 34] Tryz.func186 Tryz.ntmps186 (by kernel_rfl) rfl rfl (by simp) ?_
  simp -dsimp [S, Tt]
  refine vloop_of (β := Nat) (WordInv s g m n) (fun i => s.length - i) 0 ⟨by simp [S], by simp [Tt], by simp [I], by simp [I], by omega, by simp, rfl, rfl⟩ ?_
  rintro i σ m2 n2 ⟨h0, h1, h8, h9, le, al, rfl, rfl⟩
  by_cases hi : (i : Int) < s.length
  · have hi' : i < s.length := by omega
    have wi : IntKind.i64.wrap ((i : Int) + 1) = (i : Int) + 1 := wrap_i64 (by omega) (by omega)
    simp -dsimp [h0, h1, h8, h9, S, I, Tt, hi, hi']
    refine aCall_of (cIdentSmall s[i] m2 n2) ?_
    rintro d m' n' ⟨rfl, rfl, rfl⟩
    cases a : isSmall s[i]
    case true =>
      simp -dsimp [h0, h1, h8, h9, S, I, Tt, hi, hi', wi]
      exact ⟨i + 1, by omega, by simp [S], by simp [Tt], by simp [I], by simp [I], by omega, all_step al hi' (by simp [isLet, a]), rfl, rfl⟩
    by_cases b : isDigit s[i] = true
    · have b1 : ¬ ((s[i].toNat : Int) < 48) := by simp [isDigit] at b; omega
      have b2 : ¬ (57 < (s[i].toNat : Int)) := by simp [isDigit] at b; omega
      simp -dsimp [h0, h1, h8, h9, S, I, Tt, hi, hi', wi, b1, b2]
      exact ⟨i + 1, by omega, by simp [S], by simp [Tt], by simp [I], by simp [I], by omega, all_step al hi' (by simp [isLet, b]), rfl, rfl⟩
    have bf : isDigit s[i] = false := by simpa using b
    have stop : ∀ q : Bool, isLet g s[i] = false → wordOk g s = false := fun _ e => by simp [wordOk, all_stop hi' e]
    by_cases b1 : (s[i].toNat : Int) < 48
    · simp -dsimp [h0, h1, h8, h9, S, I, Tt, hi, hi', wi, b1]
      cases g
      · simp -dsimp [h0, h1, h8, h9, S, I, Tt, hi, hi', wi, b1, stop true (by simp [isLet, a, bf])]
      · simp -dsimp [h0, h1, h8, h9, S, I, Tt, hi, hi', wi, b1]
        refine aCall_of (cIdentGreat s[i] m' n') ?_
        rintro d m' n' ⟨rfl, rfl, rfl⟩
        cases c : isGreat s[i]
        · simp -dsimp [h0, h1, h8, h9, S, I, Tt, hi, hi', wi, b1, stop true (by simp [isLet, a, bf, c])]
        · simp -dsimp [h0, h1, h8, h9, S, I, Tt, hi, hi', wi, b1]
          exact ⟨i + 1, by omega, by simp [S], by simp [Tt], by simp [I], by simp [I], by omega, all_step al hi' (by simp [isLet, c]), rfl, rfl⟩
    · have b2 : 57 < (s[i].toNat : Int) := by simp [isDigit] at b; omega
      simp -dsimp [h0, h1, h8, h9, S, I, Tt, hi, hi', wi, b1, b2]
      cases g
      · simp -dsimp [h0, h1, h8, h9, S, I, Tt, hi, hi', wi, b1, b2, stop true (by simp [isLet, a, bf])]
      · simp -dsimp [h0, h1, h8, h9, S, I, Tt, hi, hi', wi, b1, b2]
        refine aCall_of (cIdentGreat s[i] m' n') ?_
        rintro d m' n' ⟨rfl, rfl, rfl⟩
        cases c : isGreat s[i]
        · simp -dsimp [h0, h1, h8, h9, S, I, Tt, hi, hi', wi, b1, b2, stop true (by simp [isLet, a, bf, c])]
        · simp -dsimp [h0, h1, h8, h9, S, I, Tt, hi, hi', wi, b1, b2]
          exact ⟨i + 1, by omega, by simp [S], by simp [Tt], by simp [I], by simp [I], by omega, all_step al hi' (by simp [isLet, c]), rfl, rfl⟩
  · have he := all_end (g := g) al (by omega)
    by_cases c : 1 ≤ (s.length : Int)
    · have c' : 1 ≤ s.length := by omega
      simp -dsimp [h0, h1, h8, h9, S, I, Tt, hi, c, wordOk, he, c']; omega
    · have c' : ¬ 1 ≤ s.length := by omega
      simp -dsimp [h0, h1, h8, h9, S, I, Tt, hi, c, wordOk, he, c']
end Go.Proofs.Mv.App
open Go Go.Proofs Go.Proofs.Mv.V
set_option maxRecDepth 10000
namespace Go.Proofs.Mv.App
variable [GI]
structure IdxInv (l : List (List UInt8)) (x : List UInt8) (k : Nat) (m : Mem) (n : Nat) (i : Nat) (σ : Nat → D) (m2 : Mem) (n2 : Nat) : Prop where
  h0 : σ 0 = .own k 0 0 l.length 1
  h1 : σ 1 = S x
  h7 : σ 7 = I l.length
  h8 : σ 8 = I i
  le : i ≤ l.length
  al : x ∉ l.take i
  mm : m2 = m
  nn : n2 = n
theorem notin_step {l : List (List UInt8)} {x : List UInt8} {i : Nat} (h : x ∉ l.take i) (hi : i < l.length) (hne : ¬ x = l[i]) : x ∉ l.take (i + 1) := by
  intro hx
  rw [List.take_succ_eq_append_getElem hi] at hx
  rcases List.mem_append.1 hx with hx | hx
  · exact h hx
  · exact hne (by simpa using hx)
theorem cIndexStr (l : List (List UInt8)) (x : List UInt8) (k : Nat) (m : Mem) (n : Nat) (hl : l.length ≤ 1000000) (hm : m k = some ⟨1, l.map fun s => [S s], 0⟩) :
    ACalls Tryz.prog 125 [.own k 0 0 l.length 1, S x] m n (Hq (fun d m' n' => ∃ r : Int, d = I r ∧ (0 ≤ r ↔ x ∈ l) ∧ m' = m ∧ n' = n) tg) := by
  refine acalls_vc [0, 1, 4, 5, 7, 8, 9, 16] Tryz.func125 Tryz.ntmps125 (by kernel_rfl) rfl rfl (by simp) ?_
  simp -dsimp [S]
  refine vloop_of (β := Nat) (IdxInv l x k m n) (fun i => l.length - i) 0 ⟨by simp, by simp [S], by simp [I], by simp [I], by omega, by simp, rfl, rfl⟩ ?_
  rintro i σ m2 n2 ⟨h0, h1, h7, h8, le, al, rfl, rfl⟩
  by_cases hi : (i : Int) < l.length
  · have hi' : i < l.length := by omega
    have wi : IntKind.i64.wrap ((i : Int) + 1) = (i : Int) + 1 := wrap_i64 (by omega) (by omega)
    by_cases e : x = l[i]
    · have e' : (x == l[i]) = true := by simp [e]
      simp -dsimp [h0, h1, h7, h8, S, I, hi, hi', hm, e']
      exact hq ⟨i, rfl, by rw [e]; simp, rfl, rfl⟩
    · have e' : (x == l[i]) = false := by simp [e]
      simp -dsimp [h0, h1, h7, h8, S, I, hi, hi', hm, e', wi]
      exact ⟨i + 1, by omega, by simp, by simp [S], by simp [I], by simp [I], by omega, notin_step al hi' e, rfl, rfl⟩
  · simp -dsimp [h0, h1, h7, h8, S, I, hi]
    have : i = l.length := by omega
    subst this
    rw [List.take_length] at al
    exact hq ⟨-1, rfl, by simp [al], rfl, rfl⟩
theorem cContainsStr (l : List (List UInt8)) (x : List UInt8) (k : Nat) (m : Mem) (n : Nat) (hl : l.length ≤ 1000000) (hm : m k = some ⟨1, l.map fun s => [S s], 0⟩) :
    ACalls Tryz.prog 73 [.own k 0 0 l.length 1, S x] m n (fun d m' n' => d = Tt (decide (x ∈ l)) ∧ m' = m ∧ n' = n) := by
  refine acalls_vc [0, 1, 4] Tryz.func73 Tryz.ntmps73 (by kernel_rfl) rfl rfl (by simp) ?_
  simp -dsimp [S]
  refine aCall_of (cIndexStr l x k m n hl hm) ?_
  rintro d m' n' ⟨r, rfl, hr, rfl, rfl⟩
  simp -dsimp [I, Tt, hr]
theorem cKey (s : List UInt8) (m : Mem) (n : Nat) : ACalls Tryz.prog 188 [S s] m n (fun d m' n' => d = Tt (decide (s ∈ keyL)) ∧ m' = m ∧ n' = n) := by
  refine acalls_done (R' := Hq (fun d m' n' => d = Tt (decide (s ∈ keyL)) ∧ ∀ j, j < n → m' j = m j) tg) ?_ ?_
  · refine acalls_vc [0, 2] Tryz.func188 Tryz.ntmps188 (by kernel_rfl) rfl rfl (by simp) ?_
    simp -dsimp [S]
    refine aCall_of (R := fun d m' n' => d = .own n 0 0 12 1 ∧ m' = m.set n ⟨1, keyL.map fun s => [S s], 0⟩ ∧ n' = n + 1) ?_ ?_
    · refine acalls_vc [0] Tryz.func222 Tryz.ntmps222 (by kernel_rfl) rfl rfl (by simp) ?_
      simp -dsimp [keyL, S]
      done
    · rintro d m' n' ⟨rfl, rfl, rfl⟩
      simp -dsimp
      refine aCall_of (cContainsStr keyL s n _ _ (by decide) (by simp)) ?_
      rintro d m' n' ⟨rfl, rfl, rfl⟩
      simp -dsimp [Tt]
      exact hq ⟨rfl, fun j hj => set_ne _ _ _ _ (by omega)⟩
  · rintro d m' n' ⟨rfl, hf⟩
    exact ⟨_, (pur_T _).pub, hf, rfl⟩
end Go.Proofs.Mv.App
open Go Go.Proofs Go.Proofs.Mv.V
set_option maxRecDepth 10000
namespace Go.Proofs.Mv.App
variable [GI]
theorem word_cons {g : Bool} {s : List UInt8} (a : wordOk g s = true) : ∃ x r, s = x :: r := by
  cases s
  · simp [wordOk] at a
  · exact ⟨_, _, rfl⟩
theorem word_len {g : Bool} {s : List UInt8} (a : wordOk g s = true) : s.length ≤ 20 := by
  simp only [wordOk, Bool.and_eq_true, decide_eq_true_eq] at a; exact a.2
theorem cSmall (s : List UInt8) (hs : s.length ≤ 9223372036854775807) (m : Mem) (n : Nat) : ACalls Tryz.prog 156 [S s] m n (fun d m' n' => d = Tt (smallN s) ∧ m' = m ∧ n' = n) := by
  refine acalls_vc [0, 2] Tryz.func156 Tryz.ntmps156 (by kernel_rfl) rfl rfl (by simp) ?_
  simp -dsimp [S]
  refine aCall_of (cWord s hs false m n) ?_
  rintro d m' n' ⟨rfl, rfl, rfl⟩
  cases a : wordOk false s
  · simp -dsimp [Tt, smallN, a]
  obtain ⟨x, r, rfl⟩ := word_cons a
  simp -dsimp [Tt, a, S]
  refine aCall_of (cIdentSmall x m' n') ?_
  rintro d m' n' ⟨rfl, rfl, rfl⟩
  cases b : isSmall x
  · simp -dsimp [Tt, smallN, a, b]
  simp -dsimp [Tt, a, b, S]
  refine aCall_of (cKey (x :: r) m' n') ?_
  rintro d m' n' ⟨rfl, rfl, rfl⟩
  simp -dsimp [Tt, smallN, a, b]
theorem cGreat (s : List UInt8) (hs : s.length ≤ 9223372036854775807) (m : Mem) (n : Nat) : ACalls Tryz.prog 158 [S s] m n (fun d m' n' => d = Tt (greatN s) ∧ m' = m ∧ n' = n) := by
  refine acalls_vc [0, 2] Tryz.func158 Tryz.ntmps158 (by kernel_rfl) rfl rfl (by simp) ?_
  simp -dsimp [S]
  refine aCall_of (cWord s hs true m n) ?_
  rintro d m' n' ⟨rfl, rfl, rfl⟩
  cases a : wordOk true s
  · simp -dsimp [Tt, greatN, a]
  obtain ⟨x, r, rfl⟩ := word_cons a
  simp -dsimp [Tt, a, S]
  refine aCall_of (cIdentGreat x m' n') ?_
  rintro d m' n' ⟨rfl, rfl, rfl⟩
  cases b : isGreat x
  · simp -dsimp [Tt, greatN, a, b]
  by_cases e1 : x :: r = [73, 110, 116]
  · simp -dsimp [Tt, greatN, a, b, S, e1]
  by_cases e2 : x :: r = [84, 101, 120, 116]
  · simp -dsimp [Tt, greatN, a, b, S, e2]
  by_cases e3 : x :: r = [66, 111, 111, 108]
  · simp -dsimp [Tt, greatN, a, b, S, e3]
  have f1 : (x :: r == [73, 110, 116]) = false := by simpa using e1
  have f2 : (x :: r == [84, 101, 120, 116]) = false := by simpa using e2
  have f3 : (x :: r == [66, 111, 111, 108]) = false := by simpa using e3
  have hh : (x :: r).head?.any isGreat = true := by simp [b]
  generalize x :: r = s at *
  simp -dsimp [Tt, greatN, a, b, S, e1, e2, e3, f1, f2, f3, hh]
  by_cases q : s = [76, 105, 115, 116] <;> simp [q]
structure LetInv (s : List UInt8) (g : Bool) (m : Mem) (n : Nat) (i : Nat) (σ : Nat → D) (m2 : Mem) (n2 : Nat) : Prop where
  h0 : σ 0 = S s
  h1 : σ 1 = Tt g
  h5 : σ 5 = I i
  le : i ≤ s.length
  al : ∀ x ∈ s.take i, isLet g x = true
  mm : m2 = m
  nn : n2 = n
structure RKeyInv (s : List UInt8) (k : Nat) (m : Mem) (n : Nat) (i : Nat) (σ : Nat → D) (m2 : Mem) (n2 : Nat) : Prop where
  h0 : σ 0 = S s
  h3 : σ 3 = .own k 0 0 12 1
  h4 : σ 4 = I i
  le : i ≤ 12
  al : s ∉ keyL.take i
  mm : m2 = m
  nn : n2 = n
end Go.Proofs.Mv.App
open Go Go.Proofs Go.Proofs.Mv.V
set_option maxRecDepth 10000
namespace Go.Proofs.Mv.App
structure PS where
  at_ : Nat
  cnt : Nat
  bad : Nat
def cur (l : List Tok) (p : PS) : Option Tok := if p.bad = 0 then l[p.at_]? else none
def failF (c : Nat) (p : PS) : PS := if p.bad = 0 then { p with bad := c } else p
def stepF (p : PS) : PS := { p with at_ := p.at_ + 1 }
def isSig (s : List UInt8) (l : List Tok) (p : PS) : Bool := match cur l p with
  | some t => decide (t.kind = 4) && decide (t.text = s)
  | none => false
def mustF (s : List UInt8) (l : List Tok) (p : PS) : PS := if isSig s l p then stepF p else failF 2 p
def namOk (g : Bool) (s : List UInt8) : Bool := if g then greatN s else smallN s
def isNam (g : Bool) (l : List Tok) (p : PS) : Bool := match cur l p with
  | some t => decide (t.kind = if g then 2 else 1) && namOk g t.text
  | none => false
def curT (l : List Tok) (p : PS) : List UInt8 := match cur l p with
  | some t => t.text
  | none => []
def nameF (g : Bool) (l : List Tok) (p : PS) : List UInt8 × PS := if isNam g l p then (curT l p, stepF p) else ([], failF 2 p)
def decF (s : List UInt8) : Nat := s.foldl (fun n x => 10 * n + (x.toNat - 48)) 0
def numOk (s : List UInt8) : Bool := decide (1 ≤ s.length) && decide (s.length ≤ 9) && s.all isDigit && decide (s.head? ≠ some 48)
def isNum (l : List Tok) (p : PS) : Bool := match cur l p with
  | some t => decide (t.kind = 3) && numOk t.text
  | none => false
def numF (l : List Tok) (p : PS) : Nat × PS := if isNum l p then (decF (curT l p), stepF p) else (0, failF 2 p)
def wInt : List UInt8 := [73, 110, 116]
def wText : List UInt8 := [84, 101, 120, 116]
def wBool : List UInt8 := [66, 111, 111, 108]
def wList : List UInt8 := [76, 105, 115, 116]
def baseN (s : List UInt8) : Nat := if s = wInt then 1 else if s = wText then 2 else if s = wBool then 3 else 0
def begT (t : Tok) : Bool := if t.kind = 2 then (decide (0 < baseN t.text) || decide (t.text = wList) || greatN t.text) else if t.kind = 1 then smallN t.text
  else decide (t.kind = 4) && (decide (t.text = [123]) || decide (t.text = [91]) || decide (t.text = [40]) || decide (t.text = [60]))
def begF (l : List Tok) (p : PS) : Bool := match cur l p with
  | some t => begT t
  | none => false
abbrev Nm := List UInt8 × Ty
def namedF (l : List Tok) (g : Bool) (en : List UInt8) (rec : PS → Ty × PS) : Nat → List Nm → PS → List Nm × PS
  | 0, ps, p => (ps, p)
  | r + 1, ps, p =>
    if p.bad ≠ 0 then (ps, p)
    else if isNam g l p = false then (ps, failF 2 p)
    else if 20 ≤ ps.length then (ps, failF 3 p)
    else if curT l p ∈ ps.map (·.1) then (ps, failF 5 p)
    else
      let q := rec (mustF [58] l (stepF p))
      let ps' := ps ++ [(curT l p, q.1)]
      if isSig en l q.2 then (ps', stepF q.2) else namedF l g en rec r ps' (mustF [44] l q.2)
def subF (l : List Tok) (rec : PS → Ty × PS) (n : Nat) (p : PS) : Ty × PS := if begF l p = true ∧ 20 ≤ n then (Ty0, failF 3 p) else rec p
def funF (l : List Tok) (rec : PS → Ty × PS) : Nat → List Ty → PS → List Ty × PS
  | 0, ts, p => (ts, p)
  | r + 1, ts, p =>
    if p.bad ≠ 0 then (ts, p)
    else
      let q := subF l rec ts.length p
      if isSig [41] l q.2 then (ts ++ [q.1], stepF q.2) else funF l rec r (ts ++ [q.1]) (mustF [44] l q.2)
def insF (x : Nm) : List Nm → List Nm
  | [] => [x]
  | y :: ys => if ltB x.1 y.1 then x :: y :: ys else y :: insF x ys
def sortF (ps : List Nm) : List Nm := ps.foldl (fun acc x => insF x acc) []
def recT (kind : Int) (ps : List Nm) : Ty := .mk kind [] 0 [] [] ((sortF ps).map (·.1)) ((sortF ps).map (·.2))
def localT (mod name : List UInt8) : Ty := .mk 8 [] 0 mod name [] []
def openF (l : List Tok) (p : PS) : Ty × PS :=
  let a := nameF false l p
  let b := numF l a.2
  let c := nameF false l b.2
  let d := nameF true l c.2
  (.mk 9 a.1 b.1 c.1 d.1 [] [], mustF [62] l d.2)
def funcF (l : List Tok) (rec : PS → Ty × PS) (p : PS) : Ty × PS :=
  let a := if isSig [41] l p then ([], stepF p) else funF l rec 22 [] p
  let b := subF l rec a.1.length (mustF [45, 62] l a.2)
  (.mk 7 [] 0 [] [] [] (a.1 ++ [b.1]), b.2)
def partsF (l : List Tok) (g : Bool) (rec : PS → Ty × PS) (p : PS) : Ty × PS :=
  let a := if g = false ∧ isSig [125] l p = true then ([], stepF p) else namedF l g (if g then [93] else [125]) rec 22 [] p
  (recT (if g then 6 else 5) a.1, a.2)
def listF (l : List Tok) (rec : PS → Ty × PS) (p : PS) : Ty × PS :=
  let b := rec (mustF [40] l p)
  (.mk 4 [] 0 [] [] [] [b.1], mustF [41] l b.2)
def bodyF (l : List Tok) (t : Tok) (rec : PS → Ty × PS) (p : PS) : Ty × PS :=
  if t.kind = 1 then let a := nameF true l (mustF [46] l p); (localT t.text a.1, a.2)
  else if t.text = wList then listF l rec p
  else if t.text = [123] then partsF l false rec p
  else if t.text = [91] then partsF l true rec p
  else if t.text = [40] then funcF l rec p
  else if t.text = [60] then openF l p
  else if 0 < baseN t.text then (.mk (baseN t.text) [] 0 [] [] [] [], p)
  else (localT [] t.text, p)
def typF (l : List Tok) : Nat → PS → Ty × PS
  | 0, p => if begF l p then (Ty0, failF 3 p) else (Ty0, failF 2 p)
  | k + 1, p => match cur l p with
    | none => (Ty0, failF 2 p)
    | some t => if begT t = false then (Ty0, failF 2 p) else if 500 ≤ p.cnt then (Ty0, failF 3 p) else bodyF l t (typF l k) ⟨p.at_ + 1, p.cnt + 1, p.bad⟩
/-! What is amiss stays. -/
end Go.Proofs.Mv.App
