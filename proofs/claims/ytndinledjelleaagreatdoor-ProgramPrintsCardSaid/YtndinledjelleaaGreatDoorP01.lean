/- A part of the proofs: machine, contracts, laws. No condition of its own. -/
import Derived.Test.YtndinledjelleaaGreatDoorP00
import Derived.Test.YtndinledjelleaaGreatDoorMvD
set_option linter.unusedSimpArgs false
set_option linter.unusedVariables false
set_option linter.unusedSectionVars false
open Go Go.Proofs Go.Proofs.Mv.V
set_option maxRecDepth 10000
namespace Go.Proofs.Mv.App
variable [GI]
def runN (p : UInt8 → Bool) (s : List UInt8) : Nat := (s.takeWhile p).length
theorem runN_le (p : UInt8 → Bool) (s : List UInt8) : runN p s ≤ s.length := by
 unfold runN; exact (List.takeWhile_sublist p).length_le
theorem runN_drop {p : UInt8 → Bool} : ∀ {s : List UInt8} {k : Nat}, (∀ x ∈ s.take k, p x = true) → k ≤ s.length → runN p s = k + runN p (s.drop k)
 | s, 0, _, _ => by simp
 | [], k + 1, _, h => by simp at h
 | x :: s, k + 1, hp, h => by
  have hx : p x = true := hp x (by simp)
  have ih := runN_drop (p := p) (s := s) (k := k) (fun y hy => hp y (by simp [hy])) (by simpa using h)
  unfold runN at ih ⊢
  simp [List.takeWhile_cons, hx, ih]; omega
def Cls (f : FuncId) (p : UInt8 → Bool) : Prop := ∀ (x : UInt8) (m : Mem) (n : Nat), ACalls Tryz.prog f [U x] m n (fun d m' n' => d = Tt (p x) ∧ m' = m ∧ n' = n)
structure RunInv (s : List UInt8) (f : FuncId) (p : UInt8 → Bool) (m : Mem) (n : Nat) (k : Nat) (σ : Nat → D) (m' : Mem) (n' : Nat) : Prop where
 h0 : σ 0 = S s
 h1 : σ 1 = .func (.func f) [] []
 h5 : σ 5 = I k
 le : k ≤ s.length
 al : ∀ x ∈ s.take k, p x = true
 mm : m' = m
 nn : n' = n
theorem cRun (s : List UInt8) (hs : s.length ≤ 1000000000) (f : FuncId) (p : UInt8 → Bool) (hf : Cls f p) (m : Mem) (n : Nat) :
  ACalls Tryz.prog 113 [S s, .func (.func f) [] []] m n (fun d m' n' => d = I (runN p s) ∧ m' = m ∧ n' = n) := by
 refine acalls_vc [0, 1, 4, 5, 16] Tryz.func113 Tryz.ntmps113 (by kernel_rfl) rfl rfl (by simp) ?_
 simp -dsimp [S]
 refine vloop_of (β := Nat) (RunInv s f p m n) (fun k => s.length - k) 0 ⟨by simp [S], by simp, by simp [I], by omega, by simp, rfl, rfl⟩ ?_
 rintro k σ m2 n2 ⟨h0, h1, h5, le, al, rfl, rfl⟩
 have hex : runN p s = k + runN p (s.drop k) := runN_drop al le
 by_cases hk : (k : Int) < s.length
 ·have hk' : k < s.length := by omega
  simp -dsimp [h0, h1, h5, S, I, hk, hk']
  refine aCall_of (hf s[k] m2 n2) ?_
  rintro d m' n' ⟨rfl, rfl, rfl⟩
  have hd : s.drop k = s[k] :: s.drop (k + 1) := List.drop_eq_getElem_cons hk'
  cases a : p s[k]
  ·simp -dsimp [Tt, h0, h1, h5, S, I]
   have hz : runN p (s.drop k) = 0 := by rw [hd]; simp only [runN, List.takeWhile_cons, a]; rfl
   rw [hex, hz]; simp
  ·simp -dsimp [Tt, h0, h1, h5, S, I]
   refine ⟨k + 1, by omega, by simp [S], by simp, ?_, by omega, ?_, rfl, rfl⟩
   ·simp -dsimp [I]; exact wrap_i64 (by omega) (by omega)
   ·intro x hx
    rw [List.take_succ_eq_append_getElem hk'] at hx
    rcases List.mem_append.1 hx with hx | hx
    ·exact al x hx
    ·simp at hx; rw [hx]; exact a
 ·simp -dsimp [h0, h1, h5, S, I, hk]
  have : s.drop k = [] := List.drop_eq_nil_of_le (by omega)
  rw [hex, this]; simp [runN]
def pre (t s : List UInt8) : Bool := decide (s.take t.length = t)
theorem cHasPrefix (s t : List UInt8) (hs : s.length ≤ 1000000000) (m : Mem) (n : Nat) : ACalls Tryz.prog 172 [S s, S t] m n (fun d m' n' => d = Tt (pre t s) ∧ m' = m ∧ n' = n) := by
 refine acalls_vc [0, 1, 4] Tryz.func172 Tryz.ntmps172 (by kernel_rfl) rfl rfl (by simp) ?_
 simp -dsimp [S]
 refine aCall_of (R := fun d m' n' => d = Tt (pre t s) ∧ m' = m ∧ n' = n) ?_ ?_
 ·refine acalls_vc [0, 1, 4] Tryz.func234 Tryz.ntmps234 (by kernel_rfl) rfl rfl (by simp) ?_
  by_cases a : t.length ≤ s.length
  ·simp -dsimp [a, Tt, pre]
   by_cases e : s.take t.length = t <;> simp [e]
  ·have hn : ¬ s.take t.length = t := fun e => by have := congrArg List.length e; simp at this; omega
   simp -dsimp [a, Tt, hn, pre]
 ·rintro d m' n' ⟨rfl, rfl, rfl⟩
  simp -dsimp
def isSign (x : UInt8) : Bool := decide (x ∈ ([123, 125, 40, 41, 91, 93, 60, 62, 44, 58, 46, 61] : List UInt8))
def firstT : List UInt8 → Nat × Nat
 | [] => (0, 0)
 | x :: r => if isSmall x then (1, runN isWord (x :: r)) else if isGreat x then (2, runN isWord (x :: r)) else if isDigit x then (3, runN isDigit (x :: r))
  else if pre [45, 62] (x :: r) then (4, 2) else if pre [46, 46] (x :: r) then (4, 2) else if isSign x then (4, 1) else (0, 0)
theorem indexByte_sign (l : List UInt8) (x : UInt8) : (0 ≤ Lib.indexByte l x) ↔ x ∈ l := by
 induction l with
 | nil => simp [Lib.indexByte]
 | cons b l ih =>
  have hge := Lib.indexByte_ge l x
  unfold Lib.indexByte
  by_cases hb : b = x
  ·simp [hb]
  ·have hb' : ¬ x = b := fun e => hb e.symm
   by_cases h1 : Lib.indexByte l x = -1
   ·have : ¬ x ∈ l := fun h => by have := ih.2 h; omega
    simp [hb, h1, hb', this]
   ·have : x ∈ l := ih.1 (by omega)
    simp [hb, h1, hb', this]; omega
theorem cFirstT (x : UInt8) (r : List UInt8) (hs : (x :: r).length ≤ 1000000000) (m : Mem) (n : Nat) : ACalls Tryz.prog 115 [S (x :: r)] m n (fun d m' n' => d = .tup [I (firstT (x :: r)).1, I (firstT (x :: r)).2] ∧ m' = m ∧ n' = n) := by
 refine acalls_vc [0, 2, 3, 4, 7, 12, 17, 22, 27] Tryz.func115 Tryz.ntmps115 (by kernel_rfl) rfl rfl (by simp) ?_
 simp -dsimp [S]
 refine aCall_of (cLexSmall x m n) ?_
 rintro d m' n' ⟨rfl, rfl, rfl⟩
 cases a : isSmall x
 case true =>
  simp -dsimp [Tt]
  refine aCall_of (cRun (x :: r) hs _ isWord cLexWord m' n') ?_
  rintro d m' n' ⟨rfl, rfl, rfl⟩
  simp -dsimp [I, firstT, a]
 simp -dsimp [Tt]
 refine aCall_of (cLexGreat x m' n') ?_
 rintro d m' n' ⟨rfl, rfl, rfl⟩
 cases b : isGreat x
 case true =>
  simp -dsimp [Tt]
  refine aCall_of (cRun (x :: r) hs _ isWord cLexWord m' n') ?_
  rintro d m' n' ⟨rfl, rfl, rfl⟩
  simp -dsimp [I, firstT, a, b]
 simp -dsimp [Tt]
 refine aCall_of (cLexDigit x m' n') ?_
 rintro d m' n' ⟨rfl, rfl, rfl⟩
 cases c : isDigit x
 case true =>
  simp -dsimp [Tt]
  refine aCall_of (cRun (x :: r) hs _ isDigit cLexDigit m' n') ?_
  rintro d m' n' ⟨rfl, rfl, rfl⟩
  simp -dsimp [I, firstT, a, b, c]
 simp -dsimp [Tt]
 refine aCall_of (cHasPrefix (x :: r) [45, 62] hs m' n') ?_
 rintro d m' n' ⟨rfl, rfl, rfl⟩
 cases e : pre [45, 62] (x :: r)
 case true => simp -dsimp [Tt, e, I, firstT, a, b, c]
 simp -dsimp [Tt, e]
 refine aCall_of (cHasPrefix (x :: r) [46, 46] hs m' n') ?_
 rintro d m' n' ⟨rfl, rfl, rfl⟩
 cases g : pre [46, 46] (x :: r)
 case true => simp -dsimp [Tt, g, I, firstT, a, b, c, e]
 simp -dsimp [Tt, g]
 refine aCall_of (cIndexByte [123, 125, 40, 41, 91, 93, 60, 62, 44, 58, 46, 61] x m' n') ?_
 rintro d m' n' ⟨rfl, rfl, rfl⟩
 by_cases h : isSign x = true
 ·have h0 : 0 ≤ Lib.indexByte [123, 125, 40, 41, 91, 93, 60, 62, 44, 58, 46, 61] x := (indexByte_sign _ _).2 (by simpa [isSign] using h)
  simp -dsimp [h0, I, firstT, a, b, c, e, g, h]
  done
 ·have h0 : ¬ 0 ≤ Lib.indexByte [123, 125, 40, 41, 91, 93, 60, 62, 44, 58, 46, 61] x := fun q => h (by simpa [isSign] using (indexByte_sign _ _).1 q)
  simp -dsimp [h0, I, firstT, a, b, c, e, g, h]
  done
end Go.Proofs.Mv.App
open Go Go.Proofs Go.Proofs.Mv.V
set_option maxRecDepth 10000
namespace Go.Proofs.Mv.App
structure Tok where
 kind : Int
 at_ : Int
 text : List UInt8
def tokD [GI] (t : Tok) : List D := [I t.kind, I t.at_, S t.text]
def tokF : Nat → List UInt8 → Nat → List Tok × Option Nat
 | 0, _, _ => ([], none)
 | _ + 1, [], _ => ([], none)
 | k + 1, x :: r, a => if isBlank x then tokF k r (a + 1)
  else if x = 35 then tokF k ((x :: r).drop (runN (fun y => !decide (y.toNat = 10)) (x :: r))) (a + runN (fun y => !decide (y.toNat = 10)) (x :: r))
  else if (firstT (x :: r)).2 = 0 then ([], some a)
  else (⟨(firstT (x :: r)).1, a, (x :: r).take (firstT (x :: r)).2⟩ :: (tokF k ((x :: r).drop (firstT (x :: r)).2) (a + (firstT (x :: r)).2)).1,
   (tokF k ((x :: r).drop (firstT (x :: r)).2) (a + (firstT (x :: r)).2)).2)
theorem hash_pos (x : UInt8) (r : List UInt8) (h : x = 35) : 1 ≤ runN (fun y => !decide (y.toNat = 10)) (x :: r) := by
 subst h; simp [runN, List.takeWhile_cons]
theorem firstT_le (x : UInt8) (r : List UInt8) : (firstT (x :: r)).2 ≤ r.length + 1 := by
 rw [firstT]
 have h1 := runN_le isWord (x :: r)
 have h2 := runN_le isDigit (x :: r)
 simp only [List.length_cons] at h1 h2
 have hp : ∀ a b, pre [a, b] (x :: r) = true → 2 ≤ r.length + 1 := by
  intro a b h
  simp only [pre, decide_eq_true_eq] at h
  have := congrArg List.length h
  simp only [List.length_take, List.length_cons, List.length_nil] at this; omega
 repeat' split
 all_goals first | assumption | (simp; done) | (simp; have := hp _ _ ‹_›; omega) | (simp; omega)
theorem tokF_more : ∀ (k k' : Nat) (s : List UInt8) (a : Nat), s.length < k → s.length < k' → tokF k s a = tokF k' s a := by
 intro k
 induction k with
 | zero => intro k' s a h; omega
 | succ k ih =>
  intro k' s a h h'
  obtain ⟨j, rfl⟩ : ∃ j, k' = j + 1 := ⟨k' - 1, by omega⟩
  match s with
  | [] => rfl
  | x :: r =>
   simp only [List.length_cons] at h h'
   have hd : ∀ q, 1 ≤ q → ((x :: r).drop q).length < k ∧ ((x :: r).drop q).length < j := by intro q hq; simp only [List.length_drop, List.length_cons]; omega
   simp only [tokF]
   split
   ·exact ih j r _ (by omega) (by omega)
   ·split
    ·rename_i hx
     have := hd _ (hash_pos x r hx)
     exact ih j _ _ this.1 this.2
    ·split
     ·rfl
     ·rename_i hf
      have := hd (firstT (x :: r)).2 (by omega)
      rw [ih j _ _ this.1 this.2]
def toksAt (s : List UInt8) (a : Nat) : List Tok × Option Nat := tokF (s.length + 1) s a
theorem toksAt_nil (a : Nat) : toksAt [] a = ([], none) := rfl
theorem toksAt_blank {x : UInt8} (r : List UInt8) (a : Nat) (h : isBlank x = true) : toksAt (x :: r) a = toksAt r (a + 1) := by
 simp only [toksAt, tokF, h, if_true]; exact tokF_more _ _ _ _ (by simp) (by simp)
theorem toksAt_hash {x : UInt8} (r : List UInt8) (a : Nat) (h : isBlank x = false) (hx : x = 35) :
  toksAt (x :: r) a = toksAt ((x :: r).drop (runN (fun y => !decide (y.toNat = 10)) (x :: r))) (a + runN (fun y => !decide (y.toNat = 10)) (x :: r)) := by
 have := hash_pos x r hx
 show tokF _ _ _ = _
 rw [tokF]
 simp only [h, hx, if_true, Bool.false_eq_true, if_false]
 rw [hx] at this
 exact tokF_more _ _ _ _ (by simp only [List.length_drop, List.length_cons]; omega) (by simp)
theorem toksAt_bad {x : UInt8} (r : List UInt8) (a : Nat) (h : isBlank x = false) (hx : ¬ x = 35) (hf : (firstT (x :: r)).2 = 0) : toksAt (x :: r) a = ([], some a) := by
 simp only [toksAt, tokF, h, hx, hf, if_true, Bool.false_eq_true, if_false]
theorem toksAt_tok {x : UInt8} (r : List UInt8) (a : Nat) (h : isBlank x = false) (hx : ¬ x = 35) (hf : ¬ (firstT (x :: r)).2 = 0) :
  toksAt (x :: r) a = (⟨(firstT (x :: r)).1, a, (x :: r).take (firstT (x :: r)).2⟩ :: (toksAt ((x :: r).drop (firstT (x :: r)).2) (a + (firstT (x :: r)).2)).1, (toksAt ((x :: r).drop (firstT (x :: r)).2) (a + (firstT (x :: r)).2)).2) := by
 show tokF _ _ _ = _
 rw [tokF]
 simp only [h, hx, hf, Bool.false_eq_true, if_false]
 rw [show tokF (x :: r).length ((x :: r).drop (firstT (x :: r)).2) (a + (firstT (x :: r)).2) = toksAt ((x :: r).drop (firstT (x :: r)).2) (a + (firstT (x :: r)).2) from tokF_more _ _ _ _ (by simp only [List.length_drop, List.length_cons]; omega) (by simp)]
end Go.Proofs.Mv.App
open Go Go.Proofs Go.Proofs.Mv.V
set_option maxRecDepth 10000
namespace Go.Proofs.Mv.App
variable [GI]
@[simp] theorem ofL_get (s : List UInt8) (i : Nat) (h : i < (ofL s).data.size) : (ofL s).data[i] = s[i]'(by have : (ofL s).data.size = s.length := (rfl : s.toArray.size = s.length); omega) := rfl
def spotE (a c : Int) : D := .iface 77 (.rptr none [.v (.int .i64 a), .iface 47 (.v (.int .i64 c))])
structure TokInv (s : List UInt8) (m : Mem) (n : Nat) (i : Nat) (σ : Nat → D) (m2 : Mem) (n2 : Nat) : Prop where
 h0 : σ 0 = S s
 h5 : σ 5 = I i
 le : i ≤ s.length
 fr : ∀ j, j < n → m2 j = m j
 nn : n ≤ n2
 tk : ∃ acc : List Tok, Lst m2 3 (acc.map tokD) (σ 4) ∧ (∀ k, kof (σ 4) = some k → n ≤ k ∧ k < n2) ∧ acc.length ≤ i ∧ toksAt s 0 = (acc ++ (toksAt (s.drop i) i).1, (toksAt (s.drop i) i).2)
theorem cTokens (s : List UInt8) (m : Mem) (n : Nat) : ACalls Tryz.prog 65 [S s] m n (fun d m' n' =>
  d = (if 20000 < s.length then .tup [.sl 3 [], code 3] else match (toksAt s 0).2 with | some a => .tup [.sl 3 [], spotE a 2] | none => .tup [.sl 3 ((toksAt s 0).1.map tokD), nilE]) ∧ m' = m ∧ n' = n) := by
 refine acalls_done (R' := Hq (fun d m' n' => ∃ x y, d = .tup [x, y] ∧ (if 20000 < s.length then x = .v (.slice none 0 0) ∧ y = code 3 else match (toksAt s 0).2 with
  | some a => x = .v (.slice none 0 0) ∧ (∃ k, n ≤ k ∧ y = .iface 77 (.ptr k 0 0 0) ∧ m' k = some ⟨2, [[I a, code 2]], 0⟩)
  | none => Lst m' 3 ((toksAt s 0).1.map tokD) x ∧ (∀ k, kof x = some k → n ≤ k) ∧ y = nilE) ∧ ∀ j, j < n → m' j = m j) tg) ?_ ?_
 ·refine acalls_vc [0, 2, 3, 4, 5, 6, 7, 10, 15, 19, 25, 40] Tryz.func65 Tryz.ntmps65 (by kernel_rfl) rfl rfl (by simp) ?_
  by_cases a : 20000 < (s.length : Int)
  ·simp -dsimp [S, a]
   exact hq ⟨_, _, rfl, by rw [if_pos (by omega)]; exact ⟨rfl, rfl⟩, fun _ _ => rfl⟩
  have hs : s.length ≤ 1000000000 := by omega
  simp -dsimp [S, a]
  refine vloop_of (β := Nat) (TokInv s m n) (fun i => s.length - i) 0 ⟨by simp [S], by simp [I], by omega, fun _ _ => rfl, by omega, [], .nil, by simp, by simp, by simp⟩ ?_
  rintro i σ m2 n2 ⟨h0, h5, le, fr, nn, acc, hL, hk, hacc, hsp⟩
  by_cases hi : (i : Int) < s.length
  ·have hi' : i < s.length := by omega
   simp -dsimp [h0, h5, S, I, hi, hi']
   refine aCall_of (cLexBlank s[i] m2 n2) ?_
   rintro d m' n' ⟨rfl, rfl, rfl⟩
   have hd : s.drop i = s[i] :: s.drop (i + 1) := List.drop_eq_getElem_cons hi'
   have hdl : (s.drop i).length = s.length - i := List.length_drop
   have w1 : ∀ j : Nat, j ≤ s.length - i → IntKind.i64.wrap ((i : Int) + j) = ((i + j : Nat) : Int) := fun j hj => by rw [wrap_i64 (by omega) (by omega)]; omega
   cases hb : isBlank s[i]
   case true =>
    simp -dsimp [Tt]
    refine ⟨i + 1, by omega, by simp [S], ?_, by omega, fr, nn, acc, by simpa using hL, by simpa using hk, by omega, ?_⟩
    ·have := w1 1 (by omega); simp -dsimp [I] at this ⊢; exact this
    ·rw [hsp, hd, toksAt_blank _ _ hb]
   by_cases hx : s[i] = 35
   ·simp -dsimp [Tt, h0, h5, S, I, hi', hx]
    refine ⟨le, ?_⟩
    refine aCall_of (cRun (s.drop i) (by omega) _ _ cLexHash m' n') ?_
    rintro d m' n' ⟨rfl, rfl, rfl⟩
    have hrl := runN_le (fun y => !decide (y.toNat = 10)) (s.drop i)
    have hrp : 1 ≤ runN (fun y => !decide (y.toNat = 10)) (s.drop i) := by rw [hd]; exact hash_pos _ _ hx
    have hts : toksAt (s.drop i) i = toksAt ((s.drop i).drop (runN (fun y => !decide (y.toNat = 10)) (s.drop i))) (i + runN (fun y => !decide (y.toNat = 10)) (s.drop i)) := by rw [hd]; exact toksAt_hash _ _ hb hx
    generalize runN (fun y => !decide (y.toNat = 10)) (s.drop i) = j at hrl hrp hts
    simp -dsimp [h0, h5, S, I]
    refine ⟨i + j, by omega, by simp [S], ?_, by omega, fr, nn, acc, by simpa using hL, by simpa using hk, by omega, ?_⟩
    ·have := w1 j (by omega); simp -dsimp [I] at this ⊢; exact this
    ·rw [hsp, hts, List.drop_drop]
   have hx' : ((s[i].toNat : Int) == 35) = false := by
    simp only [beq_eq_false_iff_ne, ne_eq]; intro e; apply hx; apply UInt8.toNat_inj.1; show s[i].toNat = 35; omega
   simp -dsimp [Tt, h0, h5, S, I, hi', hx']
   refine ⟨le, ?_⟩
   rw [hd]
   refine aCall_of (cFirstT s[i] (s.drop (i + 1)) (by rw [← hd]; omega) m' n') ?_
   rintro d m' n' ⟨rfl, rfl, rfl⟩
   have hfl := firstT_le s[i] (s.drop (i + 1))
   simp only [List.length_drop] at hfl
   have htb := toksAt_bad (s.drop (i + 1)) i hb hx
   have htt := toksAt_tok (s.drop (i + 1)) i hb hx
   rw [← hd] at hfl htb htt ⊢
   generalize hft : firstT (s.drop i) = ft at hfl htb htt
   obtain ⟨kd, j⟩ := ft
   by_cases hj : j = 0
   ·simp -dsimp [h0, h5, S, I, hj]
    have := htb hj
    exact hq ⟨_, _, rfl, by rw [if_neg (by omega), hsp, this]; exact ⟨rfl, _, nn, rfl, by simp [code, I]⟩, fun k hk => by rw [set_ne _ _ _ _ (by omega), fr k hk]⟩
   have hj' : ((j : Int) == 0) = false := by simp; omega
   have wj : IntKind.i64.wrap ((i : Int) + j) = (i : Int) + j := wrap_i64 (by omega) (by omega)
   have tn : ((i : Int) + j).toNat = i + j := by omega
   have dt : List.drop i (List.take (i + j) s) = List.take j (List.drop i s) := by rw [List.take_drop, Nat.add_comm]
   have ht := htt hj
   simp -dsimp [h0, h5, S, I, hj', wj, tn, dt]
   refine ⟨by omega, ?_⟩
   refine b4_append (hL.frame fun k hk' => ?_) (fun k hk' => ?_) (by trivial) (by trivial) (by omega) (by simp; omega) ?_
   ·have := hk k hk'; rw [set_ne _ _ _ _ (by omega)]
   ·have := hk k hk'; omega
   intro d2 m4 n4 p1 p2 p3 p4
   simp -dsimp [wj]
   refine ⟨i + j, by omega, by simp [S], by simp [I], by omega, fun q hq' => ?_, by omega, acc ++ [⟨kd, i, List.take j (List.drop i s)⟩], ?_, ?_, by simp; omega, ?_⟩
   ·rw [p4 q (by omega) (fun e => by have := hk q e; omega), set_ne _ _ _ _ (by omega), fr q hq']
   ·simpa [tokD, I, S] using p1
   ·intro k hk'
    simp at hk'
    have := p3 k hk'
    rcases this.2 with e | e
    ·have := hk k e; omega
    ·omega
   ·rw [hsp, ht, List.drop_drop]; simp
  ·simp -dsimp [h0, h5, S, I, hi]
   have hil : i = s.length := by omega
   rw [hil, List.drop_length, toksAt_nil] at hsp
   exact hq ⟨_, _, rfl, by rw [if_neg (by omega), hsp]; exact ⟨by simpa using hL, fun k hk' => (hk k hk').1, rfl⟩, fr⟩
 ·rintro d m' n' ⟨x, y, rfl, h, hf⟩
  split at h
  ·rename_i h1
   obtain ⟨rfl, rfl⟩ := h
   exact ⟨_, pub_pair (pub_nil 3) (pur_code _).pub, hf, by rw [if_pos h1]⟩
  ·rename_i h1
   rw [if_neg h1]
   split at h
   ·obtain ⟨rfl, k, hk, rfl, hm⟩ := h
    exact ⟨_, pub_pair (pub_nil 3) (.iface (.ptr hm hk (.cons (pur_I _).pub (.cons (pur_code _).pub .nil)))), hf, rfl⟩
   ·obtain ⟨h2, h3, rfl⟩ := h
    exact ⟨_, pub_pair (.lstP h2 h3 (by
     intro e he d hd
     obtain ⟨t, _, rfl⟩ := List.mem_map.1 he
     simp only [tokD, List.mem_cons, List.not_mem_nil, or_false] at hd
     rcases hd with rfl | rfl | rfl
     ·exact pur_I _
     ·exact pur_I _
     ·exact pur_S _)) pur_nilE.pub, hf, rfl⟩
end Go.Proofs.Mv.App
open Go Go.Proofs Go.Proofs.Mv.V
set_option maxRecDepth 10000
namespace Go.Proofs.Mv.App
variable [GI]
structure TokMid (s : List UInt8) (i : Nat) (acc : D) (m : Mem) (n : Nat) (σ : Nat → D) (m2 : Mem) (n2 : Nat) : Prop where
 h0 : σ 0 = S s
 h4 : σ 4 = acc
 h5 : σ 5 = I i
 mm : m2 = m
 nn : n2 = n
 tk : ∃ (j : Nat) (kd : Int), σ 7 = I ((i + j : Nat) : Int) ∧ σ 8 = I kd ∧ 1 ≤ j ∧ i + j ≤ s.length ∧
  ((kd = 0 ∧ toksAt (s.drop i) i = toksAt (s.drop (i + j)) (i + j)) ∨ (0 < kd ∧ toksAt (s.drop i) i = (⟨kd, i, (s.drop i).take j⟩ :: (toksAt (s.drop (i + j)) (i + j)).1, (toksAt (s.drop (i + j)) (i + j)).2)))
structure RunMid (s : List UInt8) (i : Nat) (kd : Int) (p : UInt8 → Bool) (acc : D) (m : Mem) (n : Nat) (j : Nat) (σ : Nat → D) (m2 : Mem) (n2 : Nat) : Prop where
 h0 : σ 0 = S s
 h4 : σ 4 = acc
 h5 : σ 5 = I i
 h7 : σ 7 = I ((i + j : Nat) : Int)
 h8 : σ 8 = I kd
 j1 : 1 ≤ j
 le : i + j ≤ s.length
 al : ∀ x ∈ (s.drop i).take j, p x = true
 mm : m2 = m
 nn : n2 = n
structure RTokInv (s : List UInt8) (m : Mem) (n : Nat) (i : Nat) (σ : Nat → D) (m2 : Mem) (n2 : Nat) : Prop where
 h0 : σ 0 = S s
 h5 : σ 5 = I i
 le : i ≤ s.length
 fr : ∀ j, j < n → m2 j = m j
 nn : n ≤ n2
 tk : ∃ acc : List Tok, Lst m2 3 (acc.map tokD) (σ 4) ∧ (∀ k, kof (σ 4) = some k → n ≤ k ∧ k < n2) ∧ acc.length ≤ i ∧ toksAt s 0 = (acc ++ (toksAt (s.drop i) i).1, (toksAt (s.drop i) i).2)
end Go.Proofs.Mv.App
open Go Go.Proofs Go.Proofs.Mv.V
set_option maxRecDepth 10000
namespace Go.Proofs.Mv.App
variable [GI]
def isLet (g : Bool) (x : UInt8) : Bool := isSmall x || isDigit x || (g && isGreat x)
def wordOk (g : Bool) (s : List UInt8) : Bool := s.all (isLet g) && decide (1 ≤ s.length) && decide (s.length ≤ 20)
def keyL : List (List UInt8) := [[97, 115], [97, 108, 105, 97, 115], [100, 101, 112], [104, 105, 100, 100, 101, 110], [105, 109, 112, 111, 114, 116], [105, 115], [109, 111, 100, 117, 108, 101], [111, 112, 97, 113, 117, 101], [112, 97, 99, 107, 97, 103, 101], [117, 115, 101], [118, 97, 108], [118, 101, 114, 115, 105, 111, 110]]
def smallN (s : List UInt8) : Bool := wordOk false s && (s.head?.any isSmall) && !decide (s ∈ keyL)
def greatN (s : List UInt8) : Bool := wordOk true s && (s.head?.any isGreat) && !decide (s = [73, 110, 116]) && !decide (s = [84, 101, 120, 116]) && !decide (s = [66, 111, 111, 108]) && !decide (s = [76, 105, 115, 116])
structure WordInv (s : List UInt8) (g : Bool) (m : Mem) (n : Nat) (i : Nat) (σ : Nat → D) (m2 : Mem) (n2 : Nat) : Prop where
 h0 : σ 0 = S s
 h1 : σ 1 = Tt g
 h8 : σ 8 = I s.length
 h9 : σ 9 = I i
 le : i ≤ s.length
 al : ∀ x ∈ s.take i, isLet g x = true
 mm : m2 = m
 nn : n2 = n
theorem all_end {s : List UInt8} {g : Bool} {i : Nat} (al : ∀ x ∈ s.take i, isLet g x = true) (h : i = s.length) : s.all (isLet g) = true := by
 subst h; rw [List.take_length] at al; exact List.all_eq_true.2 al
theorem all_stop {s : List UInt8} {g : Bool} {i : Nat} (h : i < s.length) (hb : isLet g s[i] = false) : s.all (isLet g) = false := by
 cases e : s.all (isLet g)
 ·rfl
 ·have := List.all_eq_true.1 e s[i] (List.getElem_mem h); rw [this] at hb; cases hb
theorem all_step {s : List UInt8} {g : Bool} {i : Nat} (al : ∀ x ∈ s.take i, isLet g x = true) (h : i < s.length) (hb : isLet g s[i] = true) : ∀ x ∈ s.take (i + 1), isLet g x = true := by
 intro x hx
 rw [List.take_succ_eq_append_getElem h] at hx
 rcases List.mem_append.1 hx with hx | hx
 ·exact al x hx
 ·simp at hx; rw [hx]; exact hb
theorem cWord (s : List UInt8) (hs : s.length ≤ 9223372036854775807) (g : Bool) (m : Mem) (n : Nat) : ACalls Tryz.prog 122 [S s, Tt g] m n (fun d m' n' => d = Tt (wordOk g s) ∧ m' = m ∧ n' = n) := by
 refine acalls_vc [0, 1, 4, 5, 6, 8, 9, 10, 34] Tryz.func122 Tryz.ntmps122 (by kernel_rfl) rfl rfl (by simp) ?_
 simp -dsimp [S, Tt]
 refine vloop_of (β := Nat) (WordInv s g m n) (fun i => s.length - i) 0 ⟨by simp [S], by simp [Tt], by simp [I], by simp [I], by omega, by simp, rfl, rfl⟩ ?_
 rintro i σ m2 n2 ⟨h0, h1, h8, h9, le, al, rfl, rfl⟩
 by_cases hi : (i : Int) < s.length
 ·have hi' : i < s.length := by omega
  have wi : IntKind.i64.wrap ((i : Int) + 1) = (i : Int) + 1 := wrap_i64 (by omega) (by omega)
  simp -dsimp [h0, h1, h8, h9, S, I, Tt, hi, hi']
  refine aCall_of (cIdentSmall s[i] m2 n2) ?_
  rintro d m' n' ⟨rfl, rfl, rfl⟩
  cases a : isSmall s[i]
  case true =>
   simp -dsimp [h0, h1, h8, h9, S, I, Tt, hi, hi', wi]
   exact ⟨i + 1, by omega, by simp [S], by simp [Tt], by simp [I], by simp [I], by omega, all_step al hi' (by simp [isLet, a]), rfl, rfl⟩
  by_cases b : isDigit s[i] = true
  ·have b1 : ¬ ((s[i].toNat : Int) < 48) := by simp [isDigit] at b; omega
   have b2 : ¬ (57 < (s[i].toNat : Int)) := by simp [isDigit] at b; omega
   simp -dsimp [h0, h1, h8, h9, S, I, Tt, hi, hi', wi, b1, b2]
   exact ⟨i + 1, by omega, by simp [S], by simp [Tt], by simp [I], by simp [I], by omega, all_step al hi' (by simp [isLet, b]), rfl, rfl⟩
  have bf : isDigit s[i] = false := by simpa using b
  have stop : ∀ q : Bool, isLet g s[i] = false → wordOk g s = false := fun _ e => by simp [wordOk, all_stop hi' e]
  by_cases b1 : (s[i].toNat : Int) < 48
  ·simp -dsimp [h0, h1, h8, h9, S, I, Tt, hi, hi', wi, b1]
   cases g
   ·simp -dsimp [h0, h1, h8, h9, S, I, Tt, hi, hi', wi, b1, stop true (by simp [isLet, a, bf])]
   ·simp -dsimp [h0, h1, h8, h9, S, I, Tt, hi, hi', wi, b1]
    refine aCall_of (cIdentGreat s[i] m' n') ?_
    rintro d m' n' ⟨rfl, rfl, rfl⟩
    cases c : isGreat s[i]
    ·simp -dsimp [h0, h1, h8, h9, S, I, Tt, hi, hi', wi, b1, stop true (by simp [isLet, a, bf, c])]
    ·simp -dsimp [h0, h1, h8, h9, S, I, Tt, hi, hi', wi, b1]
     exact ⟨i + 1, by omega, by simp [S], by simp [Tt], by simp [I], by simp [I], by omega, all_step al hi' (by simp [isLet, c]), rfl, rfl⟩
  ·have b2 : 57 < (s[i].toNat : Int) := by simp [isDigit] at b; omega
   simp -dsimp [h0, h1, h8, h9, S, I, Tt, hi, hi', wi, b1, b2]
   cases g
   ·simp -dsimp [h0, h1, h8, h9, S, I, Tt, hi, hi', wi, b1, b2, stop true (by simp [isLet, a, bf])]
   ·simp -dsimp [h0, h1, h8, h9, S, I, Tt, hi, hi', wi, b1, b2]
    refine aCall_of (cIdentGreat s[i] m' n') ?_
    rintro d m' n' ⟨rfl, rfl, rfl⟩
    cases c : isGreat s[i]
    ·simp -dsimp [h0, h1, h8, h9, S, I, Tt, hi, hi', wi, b1, b2, stop true (by simp [isLet, a, bf, c])]
    ·simp -dsimp [h0, h1, h8, h9, S, I, Tt, hi, hi', wi, b1, b2]
     exact ⟨i + 1, by omega, by simp [S], by simp [Tt], by simp [I], by simp [I], by omega, all_step al hi' (by simp [isLet, c]), rfl, rfl⟩
 ·have he := all_end (g := g) al (by omega)
  by_cases c : 1 ≤ (s.length : Int)
  ·have c' : 1 ≤ s.length := by omega
   simp -dsimp [h0, h1, h8, h9, S, I, Tt, hi, c, wordOk, he, c']; omega
  ·have c' : ¬ 1 ≤ s.length := by omega
   simp -dsimp [h0, h1, h8, h9, S, I, Tt, hi, c, wordOk, he, c']
end Go.Proofs.Mv.App
open Go Go.Proofs Go.Proofs.Mv.V
set_option maxRecDepth 10000
namespace Go.Proofs.Mv.App
variable [GI]
structure IdxInv (l : List (List UInt8)) (x : List UInt8) (k : Nat) (m : Mem) (n : Nat) (i : Nat) (σ : Nat → D) (m2 : Mem) (n2 : Nat) : Prop where
 h0 : σ 0 = .own k 0 0 l.length 1
 h1 : σ 1 = S x
 h7 : σ 7 = I l.length
 h8 : σ 8 = I i
 le : i ≤ l.length
 al : x ∉ l.take i
 mm : m2 = m
 nn : n2 = n
theorem notin_step {l : List (List UInt8)} {x : List UInt8} {i : Nat} (h : x ∉ l.take i) (hi : i < l.length) (hne : ¬ x = l[i]) : x ∉ l.take (i + 1) := by
 intro hx
 rw [List.take_succ_eq_append_getElem hi] at hx
 rcases List.mem_append.1 hx with hx | hx
 ·exact h hx
 ·exact hne (by simpa using hx)
theorem cIndexStr (l : List (List UInt8)) (x : List UInt8) (k : Nat) (m : Mem) (n : Nat) (hl : l.length ≤ 1000000) (hm : m k = some ⟨1, l.map fun s => [S s], 0⟩) :
  ACalls Tryz.prog 204 [.own k 0 0 l.length 1, S x] m n (Hq (fun d m' n' => ∃ r : Int, d = I r ∧ (0 ≤ r ↔ x ∈ l) ∧ m' = m ∧ n' = n) tg) := by
 refine acalls_vc [0, 1, 4, 5, 7, 8, 9, 16] Tryz.func204 Tryz.ntmps204 (by kernel_rfl) rfl rfl (by simp) ?_
 simp -dsimp [S]
 refine vloop_of (β := Nat) (IdxInv l x k m n) (fun i => l.length - i) 0 ⟨by simp, by simp [S], by simp [I], by simp [I], by omega, by simp, rfl, rfl⟩ ?_
 rintro i σ m2 n2 ⟨h0, h1, h7, h8, le, al, rfl, rfl⟩
 by_cases hi : (i : Int) < l.length
 ·have hi' : i < l.length := by omega
  have wi : IntKind.i64.wrap ((i : Int) + 1) = (i : Int) + 1 := wrap_i64 (by omega) (by omega)
  by_cases e : x = l[i]
  ·have e' : (x == l[i]) = true := by simp [e]
   simp -dsimp [h0, h1, h7, h8, S, I, hi, hi', hm, e']
   exact hq ⟨i, rfl, by rw [e]; simp, rfl, rfl⟩
  ·have e' : (x == l[i]) = false := by simp [e]
   simp -dsimp [h0, h1, h7, h8, S, I, hi, hi', hm, e', wi]
   exact ⟨i + 1, by omega, by simp, by simp [S], by simp [I], by simp [I], by omega, notin_step al hi' e, rfl, rfl⟩
 ·simp -dsimp [h0, h1, h7, h8, S, I, hi]
  have : i = l.length := by omega
  subst this
  rw [List.take_length] at al
  exact hq ⟨-1, rfl, by simp [al], rfl, rfl⟩
theorem cContainsStr (l : List (List UInt8)) (x : List UInt8) (k : Nat) (m : Mem) (n : Nat) (hl : l.length ≤ 1000000) (hm : m k = some ⟨1, l.map fun s => [S s], 0⟩) :
  ACalls Tryz.prog 135 [.own k 0 0 l.length 1, S x] m n (fun d m' n' => d = Tt (decide (x ∈ l)) ∧ m' = m ∧ n' = n) := by
 refine acalls_vc [0, 1, 4] Tryz.func135 Tryz.ntmps135 (by kernel_rfl) rfl rfl (by simp) ?_
 simp -dsimp [S]
 refine aCall_of (cIndexStr l x k m n hl hm) ?_
 rintro d m' n' ⟨r, rfl, hr, rfl, rfl⟩
 simp -dsimp [I, Tt, hr]
theorem cKey (s : List UInt8) (m : Mem) (n : Nat) : ACalls Tryz.prog 124 [S s] m n (fun d m' n' => d = Tt (decide (s ∈ keyL)) ∧ m' = m ∧ n' = n) := by
 refine acalls_done (R' := Hq (fun d m' n' => d = Tt (decide (s ∈ keyL)) ∧ ∀ j, j < n → m' j = m j) tg) ?_ ?_
 ·refine acalls_vc [0, 2] Tryz.func124 Tryz.ntmps124 (by kernel_rfl) rfl rfl (by simp) ?_
  simp -dsimp [S]
  refine aCall_of (R := fun d m' n' => d = .own n 0 0 12 1 ∧ m' = m.set n ⟨1, keyL.map fun s => [S s], 0⟩ ∧ n' = n + 1) ?_ ?_
  ·refine acalls_vc [0] Tryz.func193 Tryz.ntmps193 (by kernel_rfl) rfl rfl (by simp) ?_
   simp -dsimp [keyL, S]
   done
  ·rintro d m' n' ⟨rfl, rfl, rfl⟩
   simp -dsimp
   refine aCall_of (cContainsStr keyL s n _ _ (by decide) (by simp)) ?_
   rintro d m' n' ⟨rfl, rfl, rfl⟩
   simp -dsimp [Tt]
   exact hq ⟨rfl, fun j hj => set_ne _ _ _ _ (by omega)⟩
 ·rintro d m' n' ⟨rfl, hf⟩
  exact ⟨_, (pur_T _).pub, hf, rfl⟩
end Go.Proofs.Mv.App
open Go Go.Proofs Go.Proofs.Mv.V
set_option maxRecDepth 10000
namespace Go.Proofs.Mv.App
variable [GI]
theorem word_cons {g : Bool} {s : List UInt8} (a : wordOk g s = true) : ∃ x r, s = x :: r := by
 cases s
 ·simp [wordOk] at a
 ·exact ⟨_, _, rfl⟩
theorem word_len {g : Bool} {s : List UInt8} (a : wordOk g s = true) : s.length ≤ 20 := by
 simp only [wordOk, Bool.and_eq_true, decide_eq_true_eq] at a; exact a.2
theorem cSmall (s : List UInt8) (hs : s.length ≤ 9223372036854775807) (m : Mem) (n : Nat) : ACalls Tryz.prog 72 [S s] m n (fun d m' n' => d = Tt (smallN s) ∧ m' = m ∧ n' = n) := by
 refine acalls_vc [0, 2] Tryz.func72 Tryz.ntmps72 (by kernel_rfl) rfl rfl (by simp) ?_
 simp -dsimp [S]
 refine aCall_of (cWord s hs false m n) ?_
 rintro d m' n' ⟨rfl, rfl, rfl⟩
 cases a : wordOk false s
 ·simp -dsimp [Tt, smallN, a]
 obtain ⟨x, r, rfl⟩ := word_cons a
 simp -dsimp [Tt, a, S]
 refine aCall_of (cIdentSmall x m' n') ?_
 rintro d m' n' ⟨rfl, rfl, rfl⟩
 cases b : isSmall x
 ·simp -dsimp [Tt, smallN, a, b]
 simp -dsimp [Tt, a, b, S]
 refine aCall_of (cKey (x :: r) m' n') ?_
 rintro d m' n' ⟨rfl, rfl, rfl⟩
 simp -dsimp [Tt, smallN, a, b]
theorem cGreat (s : List UInt8) (hs : s.length ≤ 9223372036854775807) (m : Mem) (n : Nat) : ACalls Tryz.prog 249 [S s] m n (fun d m' n' => d = Tt (greatN s) ∧ m' = m ∧ n' = n) := by
 refine acalls_vc [0, 2] Tryz.func249 Tryz.ntmps249 (by kernel_rfl) rfl rfl (by simp) ?_
 simp -dsimp [S]
 refine aCall_of (cWord s hs true m n) ?_
 rintro d m' n' ⟨rfl, rfl, rfl⟩
 cases a : wordOk true s
 ·simp -dsimp [Tt, greatN, a]
 obtain ⟨x, r, rfl⟩ := word_cons a
 simp -dsimp [Tt, a, S]
 refine aCall_of (cIdentGreat x m' n') ?_
 rintro d m' n' ⟨rfl, rfl, rfl⟩
 cases b : isGreat x
 ·simp -dsimp [Tt, greatN, a, b]
 by_cases e1 : x :: r = [73, 110, 116]
 ·simp -dsimp [Tt, greatN, a, b, S, e1]
 by_cases e2 : x :: r = [84, 101, 120, 116]
 ·simp -dsimp [Tt, greatN, a, b, S, e2]
 by_cases e3 : x :: r = [66, 111, 111, 108]
 ·simp -dsimp [Tt, greatN, a, b, S, e3]
 have f1 : (x :: r == [73, 110, 116]) = false := by simpa using e1
 have f2 : (x :: r == [84, 101, 120, 116]) = false := by simpa using e2
 have f3 : (x :: r == [66, 111, 111, 108]) = false := by simpa using e3
 have hh : (x :: r).head?.any isGreat = true := by simp [b]
 generalize x :: r = s at *
 simp -dsimp [Tt, greatN, a, b, S, e1, e2, e3, f1, f2, f3, hh]
 by_cases q : s = [76, 105, 115, 116] <;> simp [q]
structure LetInv (s : List UInt8) (g : Bool) (m : Mem) (n : Nat) (i : Nat) (σ : Nat → D) (m2 : Mem) (n2 : Nat) : Prop where
 h0 : σ 0 = S s
 h1 : σ 1 = Tt g
 h5 : σ 5 = I i
 le : i ≤ s.length
 al : ∀ x ∈ s.take i, isLet g x = true
 mm : m2 = m
 nn : n2 = n
set_option maxHeartbeats 4000000 in
theorem cRefLetters (s : List UInt8) (g : Bool) (m : Mem) (n : Nat) : ACalls Tryz.prog 99 [S s, Tt g] m n (fun d m' n' => d = Tt (wordOk g s) ∧ m' = m ∧ n' = n) := by
 refine acalls_vc [0, 1, 4, 5, 6, 7, 15, 19, 51] Tryz.func99 Tryz.ntmps99 (by kernel_rfl) rfl rfl (by simp) ?_
 by_cases h1 : (s.length : Int) < 1
 ·have : wordOk g s = false := by simp [wordOk]; omega
  simp -dsimp [S, Tt, h1, this]
 by_cases h2 : 20 < (s.length : Int)
 ·have : wordOk g s = false := by simp [wordOk]; omega
  simp -dsimp [S, Tt, h1, h2, this]
 simp -dsimp [S, Tt, h1, h2]
 refine vloop_of (β := Nat) (LetInv s g m n) (fun i => s.length - i) 0 ⟨by simp [S], by simp [Tt], by simp [I], by omega, by simp, rfl, rfl⟩ ?_
 rintro i σ m2 n2 ⟨g0, g1, g5, le, al, rfl, rfl⟩
 by_cases hi : (i : Int) < s.length
 ·have hi' : i < s.length := by omega
  have wi : IntKind.i64.wrap ((i : Int) + 1) = (i : Int) + 1 := wrap_i64 (by omega) (by omega)
  have go : isLet g s[i] = true → LetInv s g m2 n2 (i + 1) (fun j => if j = 0 then S s else if j = 1 then Tt g else if j = 5 then I ((i : Int) + 1) else .any) m2 n2 := fun h => ⟨by simp, by simp, by simp [I], by omega, all_step al hi' h, rfl, rfl⟩
  have stop : isLet g s[i] = false → wordOk g s = false := fun e => by simp [wordOk, all_stop hi' e]
  have hx := hi'
  generalize hsx : s[i] = x at go stop
  by_cases a : 97 ≤ (x.toNat : Int) <;> by_cases b : (x.toNat : Int) ≤ 122 <;> by_cases c : 48 ≤ (x.toNat : Int) <;> by_cases d : (x.toNat : Int) ≤ 57 <;> by_cases f : 65 ≤ (x.toNat : Int) <;> by_cases h : (x.toNat : Int) ≤ 90
  all_goals first | (exfalso; omega) | skip
  all_goals
   cases g
   all_goals
    simp -dsimp [g0, g1, g5, S, I, Tt, hi, hi', hsx, a, b, c, d, f, h, wi]
    first
    | exact stop (by simp [isLet, isSmall, isDigit, isGreat]; omega)
    | exact ⟨i + 1, by omega, by simp [S], by simp [Tt], by simp [I], by omega, all_step al hi' (by rw [hsx]; simp [isLet, isSmall, isDigit, isGreat]; omega), rfl, rfl⟩
 ·have he := all_end (g := g) al (by omega)
  have : wordOk g s = true := by simp [wordOk, he]; omega
  simp -dsimp [g0, g1, g5, S, I, Tt, hi, this]
structure RKeyInv (s : List UInt8) (k : Nat) (m : Mem) (n : Nat) (i : Nat) (σ : Nat → D) (m2 : Mem) (n2 : Nat) : Prop where
 h0 : σ 0 = S s
 h3 : σ 3 = .own k 0 0 12 1
 h4 : σ 4 = I i
 le : i ≤ 12
 al : s ∉ keyL.take i
 mm : m2 = m
 nn : n2 = n
theorem cRefKey (s : List UInt8) (m : Mem) (n : Nat) : ACalls Tryz.prog 100 [S s] m n (fun d m' n' => d = Tt (decide (s ∈ keyL)) ∧ m' = m ∧ n' = n) := by
 refine acalls_done (R' := Hq (fun d m' n' => d = Tt (decide (s ∈ keyL)) ∧ ∀ j, j < n → m' j = m j) tg) ?_ ?_
 ·refine acalls_vc [0, 2, 3, 4, 9, 17] Tryz.func100 Tryz.ntmps100 (by kernel_rfl) rfl rfl (by simp) ?_
  simp -dsimp [S]
  have hfr : ∀ o, ∀ j, j < n → (m.set n o) j = m j := fun o j hj => set_ne _ _ _ _ (by omega)
  refine vloop_of (β := Nat) (RKeyInv s n (m.set n ⟨1, keyL.map fun s => [S s], 0⟩) (n + 1)) (fun i => 12 - i) 0 ⟨by simp [S], by simp, by simp [I], by omega, by simp, rfl, rfl⟩ ?_
  rintro i σ m2 n2 ⟨g0, g3, g4, le, al, rfl, rfl⟩
  by_cases hi : (i : Int) < 12
  ·have hi' : i < 12 := by omega
   have hl : i < keyL.length := by simp [keyL]; omega
   have wi : IntKind.i64.wrap ((i : Int) + 1) = (i : Int) + 1 := wrap_i64 (by omega) (by omega)
   have hget : (keyL.map fun s => [S s])[i]? = some [S keyL[i]] := by simp [hl]
   have hlen : (keyL.map fun s => [S s]).length = 12 := by simp [keyL]
   generalize hK : (keyL.map fun s => [S s]) = K at hget hlen
   have hKi : i < K.length := by omega
   have hKg : K[i] = [S keyL[i]] := get_opt hget hKi
   by_cases e : keyL[i] = s
   ·have e' : (keyL[i] == s) = true := by simp [e]
    simp -dsimp [g0, g3, g4, S, I, hi, hi', e', hKi, hKg, hlen]
    exact hq ⟨by simp [Tt, ← e], hfr _⟩
   ·have e' : (keyL[i] == s) = false := by simp [e]
    simp -dsimp [g0, g3, g4, S, I, hi, hi', e', hKi, hKg, hlen, wi]
    exact ⟨i + 1, by omega, by simp [S], by simp, by simp [I], by omega, notin_step al hl (fun h => e h.symm), rfl, rfl⟩
  ·simp -dsimp [g0, g3, g4, S, I, hi]
   have : i = 12 := by omega
   subst this
   have : keyL.take 12 = keyL := rfl
   rw [this] at al
   exact hq ⟨by simp [Tt, al], hfr _⟩
 ·rintro d m' n' ⟨rfl, hf⟩
  exact ⟨_, (pur_T _).pub, hf, rfl⟩
theorem cRefSmall (s : List UInt8) (m : Mem) (n : Nat) : ACalls Tryz.prog 51 [S s] m n (fun d m' n' => d = Tt (smallN s) ∧ m' = m ∧ n' = n) := by
 refine acalls_vc [0, 2, 3, 4] Tryz.func51 Tryz.ntmps51 (by kernel_rfl) rfl rfl (by simp) ?_
 simp -dsimp [S]
 refine aCall_of (cRefLetters s false m n) ?_
 rintro d m' n' ⟨rfl, rfl, rfl⟩
 simp -dsimp [Tt]
 refine aCall_of (cRefKey s m' n') ?_
 rintro d m' n' ⟨rfl, rfl, rfl⟩
 cases a : wordOk false s
 ·simp -dsimp [Tt, smallN, a]
 obtain ⟨x, r, rfl⟩ := word_cons a
 by_cases e : x :: r ∈ keyL
 ·simp -dsimp [Tt, smallN, a, S, e]
 have hx : isLet false x = true := by simp only [wordOk, List.all_cons, Bool.and_eq_true] at a; exact a.1.1.1
 by_cases b : 97 ≤ (x.toNat : Int)
 ·have : isSmall x = true := by simp [isLet, isSmall, isDigit] at hx ⊢; omega
  simp -dsimp [Tt, smallN, a, S, e, b, this]
 ·have : isSmall x = false := by simp [isSmall]; omega
  simp -dsimp [Tt, smallN, a, S, e, b, this]
theorem cRefGreat (s : List UInt8) (m : Mem) (n : Nat) : ACalls Tryz.prog 277 [S s] m n (fun d m' n' => d = Tt (greatN s) ∧ m' = m ∧ n' = n) := by
 refine acalls_vc [0, 2, 3] Tryz.func277 Tryz.ntmps277 (by kernel_rfl) rfl rfl (by simp) ?_
 simp -dsimp [S]
 refine aCall_of (cRefLetters s true m n) ?_
 rintro d m' n' ⟨rfl, rfl, rfl⟩
 cases a : wordOk true s
 ·simp -dsimp [Tt, greatN, a]
 obtain ⟨x, r, rfl⟩ := word_cons a
 by_cases b : 65 ≤ (x.toNat : Int)
 case neg =>
  have : isGreat x = false := by simp [isGreat]; omega
  simp -dsimp [Tt, greatN, a, S, b, this]
 by_cases c : (x.toNat : Int) ≤ 90
 case neg =>
  have : isGreat x = false := by simp [isGreat]; omega
  simp -dsimp [Tt, greatN, a, S, b, c, this]
 have g : isGreat x = true := by simp [isGreat]; omega
 have hh : (x :: r).head?.any isGreat = true := by simp [g]
 have hz : (x :: r).length = r.length + 1 := rfl
 by_cases e1 : x :: r = [73, 110, 116]
 ·simp -dsimp [Tt, greatN, a, S, b, c, e1]
 by_cases e2 : x :: r = [84, 101, 120, 116]
 ·simp -dsimp [Tt, greatN, a, S, b, c, e2]
 by_cases e3 : x :: r = [66, 111, 111, 108]
 ·simp -dsimp [Tt, greatN, a, S, b, c, e3]
 have f1 : (x :: r == [73, 110, 116]) = false := by simpa using e1
 have f2 : (x :: r == [84, 101, 120, 116]) = false := by simpa using e2
 have f3 : (x :: r == [66, 111, 111, 108]) = false := by simpa using e3
 have hx : (x :: r)[0]? = some x := rfl
 simp -dsimp [Tt, greatN, a, S, b, c, f1, f2, f3, g, e1, e2, e3]
 by_cases p : x = 76 <;> by_cases q : r = [105, 115, 116] <;> simp [p, q]
end Go.Proofs.Mv.App
open Go Go.Proofs Go.Proofs.Mv.V
set_option maxRecDepth 10000
namespace Go.Proofs.Mv.App
inductive Ty where
 | mk (kind : Int) (pkg : List UInt8) (major : Int) (mod name : List UInt8) (names : List (List UInt8)) (subs : List Ty)
instance : Inhabited Ty := ⟨.mk 0 [] 0 [] [] [] []⟩
def Ty0 : Ty := .mk 0 [] 0 [] [] [] []
mutual
def tyD [GI] : Ty → List D
 | .mk kind pkg major mod name names subs => [I kind, S pkg, I major, S mod, S name, sl1 names, .sl 7 (tysD subs)]
def tysD [GI] : List Ty → List (List D)
 | [] => []
 | t :: ts => tyD t :: tysD ts
end
section
variable [GI]
theorem tysD_eq : ∀ l : List Ty, tysD l = l.map tyD
 | [] => by simp [tysD]
 | t :: ts => by simp [tysD, tysD_eq ts]
@[simp] theorem tyD_len (t : Ty) : (tyD t).length = 7 := by cases t; simp [tyD]
@[simp] theorem tyD_take (t : Ty) : (tyD t).take 7 = tyD t := List.take_of_length_le (by simp)
mutual
theorem pur_ty : ∀ t : Ty, ∀ d ∈ tyD t, Pur d
 | .mk kind pkg major mod name names subs, d, hd => by
  simp only [tyD, List.mem_cons, List.not_mem_nil, or_false] at hd
  rcases hd with rfl | rfl | rfl | rfl | rfl | rfl | rfl
  ·exact pur_I _
  ·exact pur_S _
  ·exact pur_I _
  ·exact pur_S _
  ·exact pur_S _
  ·exact pur_sl1 _
  ·exact Pur.sl (pur_tys subs)
theorem pur_tys : ∀ l : List Ty, ∀ e ∈ tysD l, ∀ d ∈ e, Pur d
 | [], e, he, _, _ => by simp [tysD] at he
 | t :: ts, e, he, d, hd => by
  simp only [tysD, List.mem_cons] at he
  rcases he with rfl | he
  ·exact pur_ty t d hd
  ·exact pur_tys ts e he d hd
end
theorem pur_tym (l : List Ty) : ∀ e ∈ l.map tyD, ∀ d ∈ e, Pur d := by rw [← tysD_eq]; exact pur_tys l
end
end Go.Proofs.Mv.App
