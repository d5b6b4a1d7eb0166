/- A part of the proofs: machine, contracts, laws. No condition of its own. -/
import Derived.Test.YtihbegkefjjhpaaGreatDoorP03
import Derived.Test.YtihbegkefjjhpaaGreatDoorP00
import Derived.Test.YtihbegkefjjhpaaGreatDoorMvD
import Derived.Test.YtihbegkefjjhpaaGreatDoorMvC
import Derived.Test.YtihbegkefjjhpaaGreatDoorMvCl
import Derived.Lib.ParseIntB
set_option linter.unusedSimpArgs false
set_option linter.unusedVariables false
set_option linter.unusedSectionVars false
open Go Go.Proofs Go.Proofs.Mv.V
set_option maxRecDepth 10000
namespace Go.Proofs.Mv.App
variable [GI]
structure IdxInv (l : List (List UInt8)) (x : List UInt8) (k : Nat) (m : Mem) (n : Nat) (i : Nat) (σ : Nat → D) (m2 : Mem) (n2 : Nat) : Prop where
  h0 : σ 0 = .own k 0 0 l.length 1
  h1 : σ 1 = S x
  h7 : σ 7 = I l.length
  h8 : σ 8 = I i
  le : i ≤ l.length
  al : x ∉ l.take i
  mm : m2 = m
  nn : n2 = n
theorem notin_step {l : List (List UInt8)} {x : List UInt8} {i : Nat} (h : x ∉ l.take i) (hi : i < l.length) (hne : ¬ x = l[i]) : x ∉ l.take (i + 1) := by
  intro hx
  rw [List.take_succ_eq_append_getElem hi] at hx
  rcases List.mem_append.1 hx with hx | hx
  · exact h hx
  · exact hne (by simpa using hx)
theorem cIndexStr (l : List (List UInt8)) (x : List UInt8) (k : Nat) (m : Mem) (n : Nat) (hl : l.length ≤ 1000000) (hm : m k = some ⟨1, l.map fun s => [S s], 0⟩) :
    ACalls Tryz.prog 125 [.own k 0 0 l.length 1, S x] m n (Hq (fun d m' n' => ∃ r : Int, d = I r ∧ (0 ≤ r ↔ x ∈ l) ∧ m' = m ∧ n' = n) tg) := by
  refine acalls_vc [0, 1, 4, 5, 7, 8, 9, 16] Tryz.func125 Tryz.ntmps125 (by kernel_rfl) rfl rfl (by simp) ?_
  simp -dsimp [S]
  refine vloop_of (β := Nat) (IdxInv l x k m n) (fun i => l.length - i) 0 ⟨by simp, by simp [S], by simp [I], by simp [I], by omega, by simp, rfl, rfl⟩ ?_
  rintro i σ m2 n2 ⟨h0, h1, h7, h8, le, al, rfl, rfl⟩
  by_cases hi : (i : Int) < l.length
  · have hi' : i < l.length := by omega
    have wi : IntKind.i64.wrap ((i : Int) + 1) = (i : Int) + 1 := wrap_i64 (by omega) (by omega)
    by_cases e : x = l[i]
    · have e' : (x == l[i]) = true := by simp [e]
      simp -dsimp [h0, h1, h7, h8, S, I, hi, hi', hm, e']
      exact hq ⟨i, rfl, by rw [e]; simp, rfl, rfl⟩
    · have e' : (x == l[i]) = false := by simp [e]
      simp -dsimp [h0, h1, h7, h8, S, I, hi, hi', hm, e', wi]
      exact ⟨i + 1, by omega, by simp, by simp [S], by simp [I], by simp [I], by omega, notin_step al hi' e, rfl, rfl⟩
  · simp -dsimp [h0, h1, h7, h8, S, I, hi]
    have : i = l.length := by omega
    subst this
    rw [List.take_length] at al
    exact hq ⟨-1, rfl, by simp [al], rfl, rfl⟩
theorem cContainsStr (l : List (List UInt8)) (x : List UInt8) (k : Nat) (m : Mem) (n : Nat) (hl : l.length ≤ 1000000) (hm : m k = some ⟨1, l.map fun s => [S s], 0⟩) :
    ACalls Tryz.prog 73 [.own k 0 0 l.length 1, S x] m n (fun d m' n' => d = Tt (decide (x ∈ l)) ∧ m' = m ∧ n' = n) := by
  refine acalls_vc [0, 1, 4] Tryz.func73 Tryz.ntmps73 (by kernel_rfl) rfl rfl (by simp) ?_
  simp -dsimp [S]
  refine aCall_of (cIndexStr l x k m n hl hm) ?_
  rintro d m' n' ⟨r, rfl, hr, rfl, rfl⟩
  simp -dsimp [I, Tt, hr]
theorem cKey (s : List UInt8) (m : Mem) (n : Nat) : ACalls Tryz.prog 188 [S s] m n (fun d m' n' => d = Tt (decide (s ∈ keyL)) ∧ m' = m ∧ n' = n) := by
  refine acalls_done (R' := Hq (fun d m' n' => d = Tt (decide (s ∈ keyL)) ∧ ∀ j, j < n → m' j = m j) tg) ?_ ?_
  · refine acalls_vc [0, 2] Tryz.func188 Tryz.ntmps188 (by kernel_rfl) rfl rfl (by simp) ?_
    simp -dsimp [S]
    refine aCall_of (R := fun d m' n' => d = .own n 0 0 12 1 ∧ m' = m.set n ⟨1, keyL.map fun s => [S s], 0⟩ ∧ n' = n + 1) ?_ ?_
    · refine acalls_vc [0] Tryz.func222 Tryz.ntmps222 (by kernel_rfl) rfl rfl (by simp) ?_
      simp -dsimp [keyL, S]
      done
    · rintro d m' n' ⟨rfl, rfl, rfl⟩
      simp -dsimp
      refine aCall_of (cContainsStr keyL s n _ _ (by decide) (by simp)) ?_
      rintro d m' n' ⟨rfl, rfl, rfl⟩
      simp -dsimp [Tt]
      exact hq ⟨rfl, fun j hj => set_ne _ _ _ _ (by omega)⟩
  · rintro d m' n' ⟨rfl, hf⟩
    exact ⟨_, (pur_T _).pub, hf, rfl⟩
end Go.Proofs.Mv.App
open Go Go.Proofs Go.Proofs.Mv.V
set_option maxRecDepth 10000
namespace Go.Proofs.Mv.App
variable [GI]
theorem word_cons {g : Bool} {s : List UInt8} (a : wordOk g s = true) : ∃ x r, s = x :: r := by
  cases s
  · simp [wordOk] at a
  · exact ⟨_, _, rfl⟩
theorem word_len {g : Bool} {s : List UInt8} (a : wordOk g s = true) : s.length ≤ 20 := by
  simp only [wordOk, Bool.and_eq_true, decide_eq_true_eq] at a; exact a.2
theorem cSmall (s : List UInt8) (hs : s.length ≤ 9223372036854775807) (m : Mem) (n : Nat) : ACalls Tryz.prog 156 [S s] m n (fun d m' n' => d = Tt (smallN s) ∧ m' = m ∧ n' = n) := by
  refine acalls_vc [0, 2] Tryz.func156 Tryz.ntmps156 (by kernel_rfl) rfl rfl (by simp) ?_
  simp -dsimp [S]
  refine aCall_of (cWord s hs false m n) ?_
  rintro d m' n' ⟨rfl, rfl, rfl⟩
  cases a : wordOk false s
  · simp -dsimp [Tt, smallN, a]
  obtain ⟨x, r, rfl⟩ := word_cons a
  simp -dsimp [Tt, a, S]
  refine aCall_of (cIdentSmall x m' n') ?_
  rintro d m' n' ⟨rfl, rfl, rfl⟩
  cases b : isSmall x
  · simp -dsimp [Tt, smallN, a, b]
  simp -dsimp [Tt, a, b, S]
  refine aCall_of (cKey (x :: r) m' n') ?_
  rintro d m' n' ⟨rfl, rfl, rfl⟩
  simp -dsimp [Tt, smallN, a, b]
theorem cGreat (s : List UInt8) (hs : s.length ≤ 9223372036854775807) (m : Mem) (n : Nat) : ACalls Tryz.prog 158 [S s] m n (fun d m' n' => d = Tt (greatN s) ∧ m' = m ∧ n' = n) := by
  refine acalls_vc [0, 2] Tryz.func158 Tryz.ntmps158 (by kernel_rfl) rfl rfl (by simp) ?_
  simp -dsimp [S]
  refine aCall_of (cWord s hs true m n) ?_
  rintro d m' n' ⟨rfl, rfl, rfl⟩
  cases a : wordOk true s
  · simp -dsimp [Tt, greatN, a]
  obtain ⟨x, r, rfl⟩ := word_cons a
  simp -dsimp [Tt, a, S]
  refine aCall_of (cIdentGreat x m' n') ?_
  rintro d m' n' ⟨rfl, rfl, rfl⟩
  cases b : isGreat x
  · simp -dsimp [Tt, greatN, a, b]
  by_cases e1 : x :: r = [73, 110, 116]
  · simp -dsimp [Tt, greatN, a, b, S, e1]
  by_cases e2 : x :: r = [84, 101, 120, 116]
  · simp -dsimp [Tt, greatN, a, b, S, e2]
  by_cases e3 : x :: r = [66, 111, 111, 108]
  · simp -dsimp [Tt, greatN, a, b, S, e3]
  have f1 : (x :: r == [73, 110, 116]) = false := by simpa using e1
  have f2 : (x :: r == [84, 101, 120, 116]) = false := by simpa using e2
  have f3 : (x :: r == [66, 111, 111, 108]) = false := by simpa using e3
  have hh : (x :: r).head?.any isGreat = true := by simp [b]
  generalize x :: r = s at *
  simp -dsimp [Tt, greatN, a, b, S, e1, e2, e3, f1, f2, f3, hh]
  by_cases q : s = [76, 105, 115, 116] <;> simp [q]
structure LetInv (s : List UInt8) (g : Bool) (m : Mem) (n : Nat) (i : Nat) (σ : Nat → D) (m2 : Mem) (n2 : Nat) : Prop where
  h0 : σ 0 = S s
  h1 : σ 1 = Tt g
  h5 : σ 5 = I i
  le : i ≤ s.length
  al : ∀ x ∈ s.take i, isLet g x = true
  mm : m2 = m
  nn : n2 = n
set_option maxHeartbeats 4000000 in
theorem cRefLetters (s : List UInt8) (g : Bool) (m : Mem) (n : Nat) : ACalls Tryz.prog 183 [S s, Tt g] m n (fun d m' n' => d = Tt (wordOk g s) ∧ m' = m ∧ n' = n) := by
  refine acalls_vc [0, 1, 4, 5, 6, 7, 15, 19, 51] Tryz.func183 Tryz.ntmps183 (by kernel_rfl) rfl rfl (by simp) ?_
  by_cases h1 : (s.length : Int) < 1
  · have : wordOk g s = false := by simp [wordOk]; omega
    simp -dsimp [S, Tt, h1, this]
  by_cases h2 : 20 < (s.length : Int)
  · have : wordOk g s = false := by simp [wordOk]; omega
    simp -dsimp [S, Tt, h1, h2, this]
  simp -dsimp [S, Tt, h1, h2]
  refine vloop_of (β := Nat) (LetInv s g m n) (fun i => s.length - i) 0 ⟨by simp [S], by simp [Tt], by simp [I], by omega, by simp, rfl, rfl⟩ ?_
  rintro i σ m2 n2 ⟨g0, g1, g5, le, al, rfl, rfl⟩
  by_cases hi : (i : Int) < s.length
  · have hi' : i < s.length := by omega
    have wi : IntKind.i64.wrap ((i : Int) + 1) = (i : Int) + 1 := wrap_i64 (by omega) (by omega)
    have go : isLet g s[i] = true → LetInv s g m2 n2 (i + 1) (fun j => if j = 0 then S s else if j = 1 then Tt g else if j = 5 then I ((i : Int) + 1) else .any) m2 n2 := fun h => ⟨by simp, by simp, by simp [I], by omega, all_step al hi' h, rfl, rfl⟩
    have stop : isLet g s[i] = false → wordOk g s = false := fun e => by simp [wordOk, all_stop hi' e]
    have hx := hi'
    generalize hsx : s[i] = x at go stop
    by_cases a : 97 ≤ (x.toNat : Int) <;> by_cases b : (x.toNat : Int) ≤ 122 <;> by_cases c : 48 ≤ (x.toNat : Int) <;> by_cases d : (x.toNat : Int) ≤ 57 <;> by_cases f : 65 ≤ (x.toNat : Int) <;> by_cases h : (x.toNat : Int) ≤ 90
    all_goals first | (exfalso; omega) | skip
    all_goals
      cases g
      all_goals
        simp -dsimp [g0, g1, g5, S, I, Tt, hi, hi', hsx, a, b, c, d, f, h, wi]
        first
        | exact stop (by simp [isLet, isSmall, isDigit, isGreat]; omega)
        | exact ⟨i + 1, by omega, by simp [S], by simp [Tt], by simp [I], by omega, all_step al hi' (by rw [hsx]; simp [isLet, isSmall, isDigit, isGreat]; omega), rfl, rfl⟩
  · have he := all_end (g := g) al (by omega)
    have : wordOk g s = true := by simp [wordOk, he]; omega
    simp -dsimp [g0, g1, g5, S, I, Tt, hi, this]
structure RKeyInv (s : List UInt8) (k : Nat) (m : Mem) (n : Nat) (i : Nat) (σ : Nat → D) (m2 : Mem) (n2 : Nat) : Prop where
  h0 : σ 0 = S s
  h3 : σ 3 = .own k 0 0 12 1
  h4 : σ 4 = I i
  le : i ≤ 12
  al : s ∉ keyL.take i
  mm : m2 = m
  nn : n2 = n
theorem cRefKey (s : List UInt8) (m : Mem) (n : Nat) : ACalls Tryz.prog 184 [S s] m n (fun d m' n' => d = Tt (decide (s ∈ keyL)) ∧ m' = m ∧ n' = n) := by
  refine acalls_done (R' := Hq (fun d m' n' => d = Tt (decide (s ∈ keyL)) ∧ ∀ j, j < n → m' j = m j) tg) ?_ ?_
  · refine acalls_vc [0, 2, 3, 4, 9, 17] Tryz.func184 Tryz.ntmps184 (by kernel_rfl) rfl rfl (by simp) ?_
    simp -dsimp [S]
    have hfr : ∀ o, ∀ j, j < n → (m.set n o) j = m j := fun o j hj => set_ne _ _ _ _ (by omega)
    refine vloop_of (β := Nat) (RKeyInv s n (m.set n ⟨1, keyL.map fun s => [S s], 0⟩) (n + 1)) (fun i => 12 - i) 0 ⟨by simp [S], by simp, by simp [I], by omega, by simp, rfl, rfl⟩ ?_
    rintro i σ m2 n2 ⟨g0, g3, g4, le, al, rfl, rfl⟩
    by_cases hi : (i : Int) < 12
    · have hi' : i < 12 := by omega
      have hl : i < keyL.length := by simp [keyL]; omega
      have wi : IntKind.i64.wrap ((i : Int) + 1) = (i : Int) + 1 := wrap_i64 (by omega) (by omega)
      have hget : (keyL.map fun s => [S s])[i]? = some [S keyL[i]] := by simp [hl]
      have hlen : (keyL.map fun s => [S s]).length = 12 := by simp [keyL]
      generalize hK : (keyL.map fun s => [S s]) = K at hget hlen
      have hKi : i < K.length := by omega
      have hKg : K[i] = [S keyL[i]] := get_opt hget hKi
      by_cases e : keyL[i] = s
      · have e' : (keyL[i] == s) = true := by simp [e]
        simp -dsimp [g0, g3, g4, S, I, hi, hi', e', hKi, hKg, hlen]
        exact hq ⟨by simp [Tt, ← e], hfr _⟩
      · have e' : (keyL[i] == s) = false := by simp [e]
        simp -dsimp [g0, g3, g4, S, I, hi, hi', e', hKi, hKg, hlen, wi]
        exact ⟨i + 1, by omega, by simp [S], by simp, by simp [I], by omega, notin_step al hl (fun h => e h.symm), rfl, rfl⟩
    · simp -dsimp [g0, g3, g4, S, I, hi]
      have : i = 12 := by omega
      subst this
      have : keyL.take 12 = keyL := rfl
      rw [this] at al
      exact hq ⟨by simp [Tt, al], hfr _⟩
  · rintro d m' n' ⟨rfl, hf⟩
    exact ⟨_, (pur_T _).pub, hf, rfl⟩
theorem cRefSmall (s : List UInt8) (m : Mem) (n : Nat) : ACalls Tryz.prog 151 [S s] m n (fun d m' n' => d = Tt (smallN s) ∧ m' = m ∧ n' = n) := by
  refine acalls_vc [0, 2, 3, 4] Tryz.func151 Tryz.ntmps151 (by kernel_rfl) rfl rfl (by simp) ?_
  simp -dsimp [S]
  refine aCall_of (cRefLetters s false m n) ?_
  rintro d m' n' ⟨rfl, rfl, rfl⟩
  simp -dsimp [Tt]
  refine aCall_of (cRefKey s m' n') ?_
  rintro d m' n' ⟨rfl, rfl, rfl⟩
  cases a : wordOk false s
  · simp -dsimp [Tt, smallN, a]
  obtain ⟨x, r, rfl⟩ := word_cons a
  by_cases e : x :: r ∈ keyL
  · simp -dsimp [Tt, smallN, a, S, e]
  have hx : isLet false x = true := by simp only [wordOk, List.all_cons, Bool.and_eq_true] at a; exact a.1.1.1
  by_cases b : 97 ≤ (x.toNat : Int)
  · have : isSmall x = true := by simp [isLet, isSmall, isDigit] at hx ⊢; omega
    simp -dsimp [Tt, smallN, a, S, e, b, this]
  · have : isSmall x = false := by simp [isSmall]; omega
    simp -dsimp [Tt, smallN, a, S, e, b, this]
theorem cRefGreat (s : List UInt8) (m : Mem) (n : Nat) : ACalls Tryz.prog 152 [S s] m n (fun d m' n' => d = Tt (greatN s) ∧ m' = m ∧ n' = n) := by
  refine acalls_vc [0, 2, 3] Tryz.func152 Tryz.ntmps152 (by kernel_rfl) rfl rfl (by simp) ?_
  simp -dsimp [S]
  refine aCall_of (cRefLetters s true m n) ?_
  rintro d m' n' ⟨rfl, rfl, rfl⟩
  cases a : wordOk true s
  · simp -dsimp [Tt, greatN, a]
  obtain ⟨x, r, rfl⟩ := word_cons a
  by_cases b : 65 ≤ (x.toNat : Int)
  case neg =>
    have : isGreat x = false := by simp [isGreat]; omega
    simp -dsimp [Tt, greatN, a, S, b, this]
  by_cases c : (x.toNat : Int) ≤ 90
  case neg =>
    have : isGreat x = false := by simp [isGreat]; omega
    simp -dsimp [Tt, greatN, a, S, b, c, this]
  have g : isGreat x = true := by simp [isGreat]; omega
  have hh : (x :: r).head?.any isGreat = true := by simp [g]
  have hz : (x :: r).length = r.length + 1 := rfl
  by_cases e1 : x :: r = [73, 110, 116]
  · simp -dsimp [Tt, greatN, a, S, b, c, e1]
  by_cases e2 : x :: r = [84, 101, 120, 116]
  · simp -dsimp [Tt, greatN, a, S, b, c, e2]
  by_cases e3 : x :: r = [66, 111, 111, 108]
  · simp -dsimp [Tt, greatN, a, S, b, c, e3]
  have f1 : (x :: r == [73, 110, 116]) = false := by simpa using e1
  have f2 : (x :: r == [84, 101, 120, 116]) = false := by simpa using e2
  have f3 : (x :: r == [66, 111, 111, 108]) = false := by simpa using e3
  have hx : (x :: r)[0]? = some x := rfl
  simp -dsimp [Tt, greatN, a, S, b, c, f1, f2, f3, g, e1, e2, e3]
  by_cases p : x = 76 <;> by_cases q : r = [105, 115, 116] <;> simp [p, q]
end Go.Proofs.Mv.App
open Go Go.Proofs Go.Proofs.Mv.V
set_option maxRecDepth 10000
namespace Go.Proofs.Mv.App
structure PS where
  at_ : Nat
  cnt : Nat
  bad : Nat
def cur (l : List Tok) (p : PS) : Option Tok := if p.bad = 0 then l[p.at_]? else none
def failF (c : Nat) (p : PS) : PS := if p.bad = 0 then { p with bad := c } else p
def stepF (p : PS) : PS := { p with at_ := p.at_ + 1 }
def isSig (s : List UInt8) (l : List Tok) (p : PS) : Bool := match cur l p with
  | some t => decide (t.kind = 4) && decide (t.text = s)
  | none => false
def mustF (s : List UInt8) (l : List Tok) (p : PS) : PS := if isSig s l p then stepF p else failF 2 p
def namOk (g : Bool) (s : List UInt8) : Bool := if g then greatN s else smallN s
def isNam (g : Bool) (l : List Tok) (p : PS) : Bool := match cur l p with
  | some t => decide (t.kind = if g then 2 else 1) && namOk g t.text
  | none => false
def curT (l : List Tok) (p : PS) : List UInt8 := match cur l p with
  | some t => t.text
  | none => []
def nameF (g : Bool) (l : List Tok) (p : PS) : List UInt8 × PS := if isNam g l p then (curT l p, stepF p) else ([], failF 2 p)
def decF (s : List UInt8) : Nat := s.foldl (fun n x => 10 * n + (x.toNat - 48)) 0
def numOk (s : List UInt8) : Bool := decide (1 ≤ s.length) && decide (s.length ≤ 9) && s.all isDigit && decide (s.head? ≠ some 48)
def isNum (l : List Tok) (p : PS) : Bool := match cur l p with
  | some t => decide (t.kind = 3) && numOk t.text
  | none => false
def numF (l : List Tok) (p : PS) : Nat × PS := if isNum l p then (decF (curT l p), stepF p) else (0, failF 2 p)
def wInt : List UInt8 := [73, 110, 116]
def wText : List UInt8 := [84, 101, 120, 116]
def wBool : List UInt8 := [66, 111, 111, 108]
def wList : List UInt8 := [76, 105, 115, 116]
def baseN (s : List UInt8) : Nat := if s = wInt then 1 else if s = wText then 2 else if s = wBool then 3 else 0
def begT (t : Tok) : Bool := if t.kind = 2 then (decide (0 < baseN t.text) || decide (t.text = wList) || greatN t.text) else if t.kind = 1 then smallN t.text
  else decide (t.kind = 4) && (decide (t.text = [123]) || decide (t.text = [91]) || decide (t.text = [40]) || decide (t.text = [60]))
def begF (l : List Tok) (p : PS) : Bool := match cur l p with
  | some t => begT t
  | none => false
abbrev Nm := List UInt8 × Ty
def namedF (l : List Tok) (g : Bool) (en : List UInt8) (rec : PS → Ty × PS) : Nat → List Nm → PS → List Nm × PS
  | 0, ps, p => (ps, p)
  | r + 1, ps, p =>
    if p.bad ≠ 0 then (ps, p)
    else if isNam g l p = false then (ps, failF 2 p)
    else if 20 ≤ ps.length then (ps, failF 3 p)
    else if curT l p ∈ ps.map (·.1) then (ps, failF 5 p)
    else
      let q := rec (mustF [58] l (stepF p))
      let ps' := ps ++ [(curT l p, q.1)]
      if isSig en l q.2 then (ps', stepF q.2) else namedF l g en rec r ps' (mustF [44] l q.2)
def subF (l : List Tok) (rec : PS → Ty × PS) (n : Nat) (p : PS) : Ty × PS := if begF l p = true ∧ 20 ≤ n then (Ty0, failF 3 p) else rec p
def funF (l : List Tok) (rec : PS → Ty × PS) : Nat → List Ty → PS → List Ty × PS
  | 0, ts, p => (ts, p)
  | r + 1, ts, p =>
    if p.bad ≠ 0 then (ts, p)
    else
      let q := subF l rec ts.length p
      if isSig [41] l q.2 then (ts ++ [q.1], stepF q.2) else funF l rec r (ts ++ [q.1]) (mustF [44] l q.2)
def insF (x : Nm) : List Nm → List Nm
  | [] => [x]
  | y :: ys => if ltB x.1 y.1 then x :: y :: ys else y :: insF x ys
def sortF (ps : List Nm) : List Nm := ps.foldl (fun acc x => insF x acc) []
def recT (kind : Int) (ps : List Nm) : Ty := .mk kind [] 0 [] [] ((sortF ps).map (·.1)) ((sortF ps).map (·.2))
def localT (mod name : List UInt8) : Ty := .mk 8 [] 0 mod name [] []
def openF (l : List Tok) (p : PS) : Ty × PS :=
  let a := nameF false l p
  let b := numF l a.2
  let c := nameF false l b.2
  let d := nameF true l c.2
  (.mk 9 a.1 b.1 c.1 d.1 [] [], mustF [62] l d.2)
def funcF (l : List Tok) (rec : PS → Ty × PS) (p : PS) : Ty × PS :=
  let a := if isSig [41] l p then ([], stepF p) else funF l rec 22 [] p
  let b := subF l rec a.1.length (mustF [45, 62] l a.2)
  (.mk 7 [] 0 [] [] [] (a.1 ++ [b.1]), b.2)
def partsF (l : List Tok) (g : Bool) (rec : PS → Ty × PS) (p : PS) : Ty × PS :=
  let a := if g = false ∧ isSig [125] l p = true then ([], stepF p) else namedF l g (if g then [93] else [125]) rec 22 [] p
  (recT (if g then 6 else 5) a.1, a.2)
def listF (l : List Tok) (rec : PS → Ty × PS) (p : PS) : Ty × PS :=
  let b := rec (mustF [40] l p)
  (.mk 4 [] 0 [] [] [] [b.1], mustF [41] l b.2)
def bodyF (l : List Tok) (t : Tok) (rec : PS → Ty × PS) (p : PS) : Ty × PS :=
  if t.kind = 1 then let a := nameF true l (mustF [46] l p); (localT t.text a.1, a.2)
  else if t.text = wList then listF l rec p
  else if t.text = [123] then partsF l false rec p
  else if t.text = [91] then partsF l true rec p
  else if t.text = [40] then funcF l rec p
  else if t.text = [60] then openF l p
  else if 0 < baseN t.text then (.mk (baseN t.text) [] 0 [] [] [] [], p)
  else (localT [] t.text, p)
def typF (l : List Tok) : Nat → PS → Ty × PS
  | 0, p => if begF l p then (Ty0, failF 3 p) else (Ty0, failF 2 p)
  | k + 1, p => match cur l p with
    | none => (Ty0, failF 2 p)
    | some t => if begT t = false then (Ty0, failF 2 p) else if 500 ≤ p.cnt then (Ty0, failF 3 p) else bodyF l t (typF l k) ⟨p.at_ + 1, p.cnt + 1, p.bad⟩
/-! What is amiss stays. -/
end Go.Proofs.Mv.App
open Go Go.Proofs Go.Proofs.Mv.V
namespace Go.Proofs.Mv.App
def stepOk (g : Bool) (l : List (List UInt8)) (i : Nat) : Bool := namOk g (l.getD i []) && (decide (i = 0) || ltB (l.getD (i - 1) []) (l.getD i []))
def risingN (g : Bool) (l : List (List UInt8)) : Bool := (List.range l.length).all (stepOk g l)
def emptyT (t : Ty) : Bool := decide (t.pkg = []) && decide (t.major = 0) && decide (t.mod = []) && decide (t.name = [])
def shapeK (t : Ty) : Bool :=
  let n := t.subs.length
  let k := t.names.length
  if t.kind = 1 ∨ t.kind = 2 ∨ t.kind = 3 then emptyT t && decide (n = 0) && decide (k = 0)
  else if t.kind = 4 then emptyT t && decide (n = 1) && decide (k = 0)
  else if t.kind = 5 then emptyT t && decide (n = k) && risingN false t.names
  else if t.kind = 6 then emptyT t && decide (1 ≤ n) && decide (n = k) && risingN true t.names
  else if t.kind = 7 then emptyT t && decide (1 ≤ n) && decide (k = 0)
  else if t.kind = 8 then decide (t.pkg = []) && decide (t.major = 0) && decide (n = 0) && decide (k = 0) && greatN t.name && (decide (t.mod = []) || smallN t.mod)
  else if t.kind = 9 then decide (n = 0) && decide (k = 0) && smallN t.pkg && smallN t.mod && greatN t.name && decide (1 ≤ t.major) && decide (t.major ≤ 999999999)
  else false
def shapeT (t : Ty) : Bool := decide (t.subs.length ≤ 20) && shapeK t
mutual
def allT : Ty → Bool
  | .mk a b c d e f subs => shapeT (.mk a b c d e f subs) && allTs subs
def allTs : List Ty → Bool
  | [] => true
  | t :: ts => allT t && allTs ts
end
def mayT (t : Ty) : Bool := allT t && decide (manyT t ≤ 500) && decide (deepT t ≤ 32)
def joinB (sep : List UInt8) : List (List UInt8) → List UInt8
  | [] => []
  | [s] => s
  | s :: r => s ++ sep ++ joinB sep r
def comma : List UInt8 := [44, 32]
def digitsF : Nat → Nat → List UInt8
  | 0, _ => []
  | f + 1, n => if n < 10 then [UInt8.ofNat (48 + n)] else digitsF f (n / 10) ++ [UInt8.ofNat (48 + n % 10)]
def digits (n : Nat) : List UInt8 := digitsF 20 n
mutual
def textT : Ty → List UInt8
  | .mk kind pkg major mod name names subs =>
    if kind = 1 then wInt
    else if kind = 2 then wText
    else if kind = 3 then wBool
    else if kind = 4 then wList ++ [40] ++ joinB comma (textTs names subs) ++ [41]
    else if kind = 5 then [123] ++ joinB comma (textTs names subs) ++ [125]
    else if kind = 6 then [91] ++ joinB comma (textTs names subs) ++ [93]
    else if kind = 7 then [40] ++ joinB comma (textTs [] subs).dropLast ++ [41, 32, 45, 62, 32] ++ (textTs [] subs).getLastD []
    else if kind = 9 then [60] ++ pkg ++ [32] ++ digits major.toNat ++ [32] ++ mod ++ [32] ++ name ++ [62]
    else if mod = [] then name else mod ++ [46] ++ name
def textTs : List (List UInt8) → List Ty → List (List UInt8)
  | _, [] => []
  | [], t :: ts => textT t :: textTs [] ts
  | n :: ns, t :: ts => (n ++ [58, 32] ++ textT t) :: textTs ns ts
end
theorem allTs_eq : ∀ l : List Ty, allTs l = l.all allT
  | [] => by simp [allTs]
  | t :: ts => by simp [allTs, allTs_eq ts]
theorem allT_eq (t : Ty) : allT t = (shapeT t && t.subs.all allT) := by cases t; simp [allT, allTs_eq, Ty.subs]
theorem textTs_len : ∀ (ns : List (List UInt8)) (l : List Ty), (textTs ns l).length = l.length
  | _, [] => by simp [textTs]
  | [], t :: ts => by simp [textTs, textTs_len [] ts]
  | n :: ns, t :: ts => by simp [textTs, textTs_len ns ts]
theorem textTs_nil : ∀ (l : List Ty), textTs [] l = l.map textT
  | [] => by simp [textTs]
  | t :: ts => by simp [textTs, textTs_nil ts]
theorem textTs_get : ∀ (ns : List (List UInt8)) (l : List Ty) (i : Nat) (h : i < l.length) (h' : i < ns.length), (textTs ns l)[i]? = some (ns[i] ++ [58, 32] ++ textT l[i])
  | n :: ns, t :: ts, 0, _, _ => by simp [textTs]
  | n :: ns, t :: ts, i + 1, h, h' => by
    simp only [textTs, List.getElem?_cons_succ, List.getElem_cons_succ]
    exact textTs_get ns ts i (by simpa using h) (by simpa using h')
end Go.Proofs.Mv.App
open Go Go.Proofs Go.Proofs.Mv.V
namespace Go.Proofs.Mv.App
def decA (acc : Nat) (s : List UInt8) : Nat := s.foldl (fun n x => 10 * n + (x.toNat - 48)) acc
end Go.Proofs.Mv.App
open Go Go.Proofs Go.Proofs.Mv.V
namespace Go.Proofs.Mv.App
abbrev Sk := Int × List UInt8
def skel (t : Tok) : Sk := (t.kind, t.text)
def Lx (s : List UInt8) (k : List Sk) : Prop := ∀ a, (toksAt s a).1.map skel = k ∧ (toksAt s a).2 = none
def stopW (s : List UInt8) : Prop := ∀ x, s.head? = some x → isWord x = false
theorem stopW_cons {x : UInt8} {s : List UInt8} (h : isWord x = false) : stopW (x :: s) := by intro y e; cases e; exact h
theorem Lx.nil : Lx [] [] := fun a => ⟨rfl, rfl⟩
theorem Lx.blank {x : UInt8} {s : List UInt8} {k : List Sk} (hx : isBlank x = true) (h : Lx s k) : Lx (x :: s) k := fun a => by rw [toksAt_blank s a hx]; exact h (a + 1)
theorem Lx.sp {s : List UInt8} {k : List Sk} (h : Lx s k) : Lx (32 :: s) k := h.blank (by decide)
theorem Lx.nl {s : List UInt8} {k : List Sk} (h : Lx s k) : Lx (10 :: s) k := h.blank (by decide)
theorem Lx.tok {x : UInt8} {w s : List UInt8} {kd : Nat} {k : List Sk} (hb : isBlank x = false) (hh : ¬ x = 35) (hf : firstT (x :: w ++ s) = (kd, w.length + 1)) (h : Lx s k) : Lx (x :: w ++ s) (((kd : Int), x :: w) :: k) := by
  intro a
  rw [List.cons_append] at hf ⊢
  have h2 : (firstT (x :: (w ++ s))).2 = w.length + 1 := by rw [hf]
  have h1 : (firstT (x :: (w ++ s))).1 = kd := by rw [hf]
  rw [toksAt_tok (w ++ s) a hb hh (by omega), h2, h1]
  have e1 : (x :: (w ++ s)).drop (w.length + 1) = s := by simp
  have e2 : (x :: (w ++ s)).take (w.length + 1) = x :: w := by simp
  rw [e1, e2]
  exact ⟨by simp only [List.map_cons, skel, (h _).1], (h _).2⟩
theorem takeWhile_stop {p : UInt8 → Bool} {w s : List UInt8} (hw : w.all p = true) (hs : ∀ x, s.head? = some x → p x = false) : (w ++ s).takeWhile p = w := by
  induction w with
  | nil =>
    cases s with
    | nil => rfl
    | cons x s => simp [List.takeWhile_cons, hs x rfl]
  | cons x w ih =>
    simp only [List.all_cons, Bool.and_eq_true] at hw
    simp [List.takeWhile_cons, hw.1, ih hw.2]
theorem small_cls {x : UInt8} (h : isSmall x = true) : isBlank x = false ∧ ¬ x = 35 ∧ isWord x = true := by
  simp only [isSmall, Bool.and_eq_true, decide_eq_true_eq] at h
  refine ⟨by simp [isBlank]; omega, fun e => by subst e; simp at h, by simp [isWord, isSmall, h]⟩
theorem great_cls {x : UInt8} (h : isGreat x = true) : isBlank x = false ∧ ¬ x = 35 ∧ isWord x = true ∧ isSmall x = false := by
  simp only [isGreat, Bool.and_eq_true, decide_eq_true_eq] at h
  refine ⟨by simp [isBlank]; omega, fun e => by subst e; simp at h, by simp [isWord, isGreat, h], by simp [isSmall]; omega⟩
theorem digit_cls {x : UInt8} (h : isDigit x = true) : isBlank x = false ∧ ¬ x = 35 ∧ isWord x = true ∧ isSmall x = false ∧ isGreat x = false := by
  simp only [isDigit, Bool.and_eq_true, decide_eq_true_eq] at h
  refine ⟨by simp [isBlank]; omega, fun e => by subst e; simp at h, by simp [isWord, isDigit, h], by simp [isSmall]; omega, by simp [isGreat]; omega⟩
theorem Lx.lower {w s : List UInt8} {k : List Sk} (h1 : w.head?.any isSmall = true) (hw : w.all isWord = true) (hs : stopW s) (h : Lx s k) : Lx (w ++ s) ((1, w) :: k) := by
  cases w with
  | nil => cases h1
  | cons x w =>
    simp only [List.head?_cons, Option.any_some] at h1
    obtain ⟨a, b, c⟩ := small_cls h1
    refine Lx.tok (kd := 1) a b ?_ h
    rw [List.cons_append, firstT, if_pos h1, runN, ← List.cons_append, takeWhile_stop hw hs]; rfl
theorem Lx.upper {w s : List UInt8} {k : List Sk} (h1 : w.head?.any isGreat = true) (hw : w.all isWord = true) (hs : stopW s) (h : Lx s k) : Lx (w ++ s) ((2, w) :: k) := by
  cases w with
  | nil => cases h1
  | cons x w =>
    simp only [List.head?_cons, Option.any_some] at h1
    obtain ⟨a, b, c, d⟩ := great_cls h1
    refine Lx.tok (kd := 2) a b ?_ h
    rw [List.cons_append, firstT, if_neg (by simp [d]), if_pos h1, runN, ← List.cons_append, takeWhile_stop hw hs]; rfl
theorem Lx.num {w s : List UInt8} {k : List Sk} (h1 : w ≠ []) (hw : w.all isDigit = true) (hs : ∀ x, s.head? = some x → isDigit x = false) (h : Lx s k) : Lx (w ++ s) ((3, w) :: k) := by
  cases w with
  | nil => exact absurd rfl h1
  | cons x w =>
    have hx : isDigit x = true := by simp only [List.all_cons, Bool.and_eq_true] at hw; exact hw.1
    obtain ⟨a, b, c, d, e⟩ := digit_cls hx
    refine Lx.tok (kd := 3) a b ?_ h
    rw [List.cons_append, firstT, if_neg (by simp [d]), if_neg (by simp [e]), if_pos hx, runN, ← List.cons_append, takeWhile_stop hw hs]; rfl
theorem stopW_digit {s : List UInt8} (h : stopW s) : ∀ x, s.head? = some x → isDigit x = false := fun x e => by
  have := h x e; simp only [isWord, Bool.or_eq_false_iff] at this; exact this.2
theorem Lx.sign {x : UInt8} {s : List UInt8} {k : List Sk} (hx : x ∈ ([123, 125, 40, 41, 91, 93, 60, 62, 44, 58, 61] : List UInt8)) (h : Lx s k) : Lx (x :: s) ((4, [x]) :: k) := by
  have hc : isBlank x = false ∧ ¬ x = 35 ∧ isSmall x = false ∧ isGreat x = false ∧ isDigit x = false ∧ isSign x = true ∧ ¬ x = 45 ∧ ¬ x = 46 := by
    have : ([123, 125, 40, 41, 91, 93, 60, 62, 44, 58, 61] : List UInt8).all (fun x => decide (isBlank x = false ∧ ¬ x = 35 ∧ isSmall x = false ∧ isGreat x = false ∧ isDigit x = false ∧ isSign x = true ∧ ¬ x = 45 ∧ ¬ x = 46)) = true := by decide
    simpa using List.all_eq_true.1 this x hx
  obtain ⟨a, b, c, d, e, f, g, i⟩ := hc
  refine Lx.tok (kd := 4) (w := []) a b ?_ h
  have p1 : pre [45, 62] (x :: s) = false := by simp [pre, g]
  have p2 : pre [46, 46] (x :: s) = false := by simp [pre, i]
  show firstT (x :: s) = _
  rw [firstT]; simp [c, d, e, p1, p2, f]
/-! names -/
theorem let_word {g : Bool} {x : UInt8} (h : isLet g x = true) : isWord x = true := by
  simp only [isLet, Bool.or_eq_true, Bool.and_eq_true] at h
  simp only [isWord, Bool.or_eq_true]
  rcases h with (h | h) | h
  · exact .inl (.inl h)
  · exact .inr h
  · exact .inl (.inr h.2)
theorem word_all {g : Bool} {s : List UInt8} (h : wordOk g s = true) : s.all isWord = true := by
  simp only [wordOk, Bool.and_eq_true] at h
  exact List.all_eq_true.2 fun x hx => let_word (List.all_eq_true.1 h.1.1 x hx)
theorem small_parts {s : List UInt8} (h : smallN s = true) : s.head?.any isSmall = true ∧ s.all isWord = true ∧ s.length ≤ 20 ∧ s ≠ [] := by
  simp only [smallN, Bool.and_eq_true] at h
  refine ⟨h.1.2, word_all h.1.1, word_len h.1.1, fun e => by subst e; simp at h⟩
theorem great_parts {s : List UInt8} (h : greatN s = true) : s.head?.any isGreat = true ∧ s.all isWord = true ∧ s.length ≤ 20 ∧ s ≠ [] := by
  simp only [greatN, Bool.and_eq_true] at h
  refine ⟨h.1.1.1.1.2, word_all h.1.1.1.1.1, word_len h.1.1.1.1.1, fun e => by subst e; simp at h⟩
theorem Lx.name {g : Bool} {w s : List UInt8} {k : List Sk} (h1 : namOk g w = true) (hs : stopW s) (h : Lx s k) : Lx (w ++ s) ((if g then 2 else 1, w) :: k) := by
  cases g
  · have := small_parts (s := w) h1; exact Lx.lower this.1 this.2.1 hs h
  · have := great_parts (s := w) h1; exact Lx.upper this.1 this.2.1 hs h
/-! numbers -/
theorem decA_snoc (s : List UInt8) (x : UInt8) (acc : Nat) : decA acc (s ++ [x]) = 10 * decA acc s + (x.toNat - 48) := by simp [decA]
theorem digitsF_spec : ∀ (f n : Nat), n < 10 ^ f → (digitsF f n).all isDigit = true ∧ decF (digitsF f n) = n ∧ (1 ≤ f → digitsF f n ≠ [] ∧ (1 ≤ n → (digitsF f n).head? ≠ some 48)) ∧ ∀ k, 1 ≤ k → n < 10 ^ k → (digitsF f n).length ≤ k
  | 0, n, h => by
    have : n = 0 := by simpa using h
    subst this
    exact ⟨rfl, rfl, by omega, fun k _ _ => by simp [digitsF]⟩
  | f + 1, n, h => by
    simp only [digitsF]
    have hd : ∀ m, m < 10 → (UInt8.ofNat (48 + m)).toNat = 48 + m := fun m hm => by rw [UInt8.toNat_ofNat']; omega
    split
    · rename_i h10
      have := hd n h10
      refine ⟨by simp [isDigit, this]; omega, ?_, fun _ => ⟨by simp, fun hn e => ?_⟩, fun k hk _ => by simpa using hk⟩
      · show decA 0 [_] = n; simp only [decA, List.foldl_cons, List.foldl_nil, this]; omega
      · simp only [List.head?_cons, Option.some.injEq] at e
        rw [e] at this; simp at this; omega
    · rename_i h10
      have hf : n / 10 < 10 ^ f := by rw [Nat.pow_succ] at h; omega
      obtain ⟨i1, i2, i3, i4⟩ := digitsF_spec f (n / 10) hf
      have hf1 : 1 ≤ f := by
        cases f with
        | zero => simp at hf; omega
        | succ f => omega
      obtain ⟨j1, j2⟩ := i3 hf1
      have := hd (n % 10) (by omega)
      refine ⟨?_, ?_, fun _ => ⟨by simp, fun hn => ?_⟩, fun k hk hn => ?_⟩
      · rw [List.all_append, i1]; simp [isDigit, this]; omega
      · show decA 0 _ = n
        rw [decA_snoc, this]
        have : decA 0 (digitsF f (n / 10)) = n / 10 := i2
        omega
      · rw [List.head?_append]
        cases e : digitsF f (n / 10) with
        | nil => exact absurd e j1
        | cons y r => have := j2 (by omega); rw [e] at this; simpa using this
      · rw [List.length_append]
        match k, hk with
        | 1, _ => simp at hn; omega
        | k + 2, _ =>
          have := i4 (k + 1) (by omega) (by rw [Nat.pow_succ] at hn; omega)
          simp only [List.length_singleton]; omega
theorem digits_ok {n : Nat} (h1 : 1 ≤ n) (h2 : n ≤ 999999999) : numOk (digits n) = true ∧ decF (digits n) = n := by
  obtain ⟨a, b, c, d⟩ := digitsF_spec 20 n (by have : (10 : Nat) ^ 20 = 100000000000000000000 := by decide
                                               omega)
  obtain ⟨c1, c2⟩ := c (by omega)
  refine ⟨?_, b⟩
  have hl := d 9 (by omega) (by have : (10 : Nat) ^ 9 = 1000000000 := by decide
                                omega)
  have hne : 1 ≤ (digitsF 20 n).length := by
    rcases Nat.eq_zero_or_pos (digitsF 20 n).length with h | h
    · exact absurd (List.length_eq_zero_iff.1 h) c1
    · exact h
  have c3 := c2 h1
  unfold numOk digits
  rw [a]
  simp only [Bool.and_true, Bool.and_eq_true]
  exact ⟨⟨decide_eq_true hne, decide_eq_true hl⟩, decide_eq_true c3⟩
theorem Lx.digits {n : Nat} {s : List UInt8} {k : List Sk} (h1 : 1 ≤ n) (h2 : n ≤ 999999999) (hs : stopW s) (h : Lx s k) : Lx (digits n ++ s) ((3, digits n) :: k) := by
  have := (digits_ok h1 h2).1
  simp only [numOk, Bool.and_eq_true, decide_eq_true_eq] at this
  exact Lx.num (fun e => by rw [e] at this; simp at this) this.1.2 (stopW_digit hs) h
end Go.Proofs.Mv.App
open Go Go.Proofs Go.Proofs.Mv.V
namespace Go.Proofs.Mv.App
end Go.Proofs.Mv.App
