/- A part of the proofs of the seat YtojdgajdhacjdaaGreatDoor: the abstract machine, the contracts of the functions, the laws. No condition of its own. -/
import Derived.Test.YtojdgajdhacjdaaGreatDoorLex
import Derived.Test.YtojdgajdhacjdaaGreatDoorMvD
set_option linter.unusedSimpArgs false
set_option linter.unusedVariables false
set_option linter.unusedSectionVars false
open Go Go.Proofs Go.Proofs.Mv.V
set_option maxRecDepth 10000
namespace Go.Proofs.Mv.App
variable [GI]
theorem firstT_small {x : UInt8} (r : List UInt8) (h : isSmall x = true) : firstT (x :: r) = (1, runN isWord (x :: r)) := by rw [firstT]; simp [h]
theorem small_great {x : UInt8} (h : isGreat x = true) : isSmall x = false := by simp [isGreat, isSmall] at h ⊢; omega
theorem digit_not {x : UInt8} (h : isDigit x = true) : isSmall x = false ∧ isGreat x = false := by simp [isGreat, isSmall, isDigit] at h ⊢; omega
theorem firstT_great {x : UInt8} (r : List UInt8) (h : isGreat x = true) : firstT (x :: r) = (2, runN isWord (x :: r)) := by rw [firstT]; simp [h, small_great h]
theorem firstT_digit {x : UInt8} (r : List UInt8) (h : isDigit x = true) : firstT (x :: r) = (3, runN isDigit (x :: r)) := by rw [firstT]; simp [h, digit_not h]
theorem firstT_else {x : UInt8} (r : List UInt8) (h : isSmall x = false) (h1 : isGreat x = false) (h2 : isDigit x = false) :
    firstT (x :: r) = if pre [45, 62] (x :: r) then (4, 2) else if pre [46, 46] (x :: r) then (4, 2) else if isSign x then (4, 1) else (0, 0) := by rw [firstT]; simp [h, h1, h2]
theorem pre2 (a b x : UInt8) (r : List UInt8) : pre [a, b] (x :: r) = (decide (x = a) && decide (r[0]? = some b)) := by
  cases r <;> simp [pre]
/-- What stands behind the look at one token: its kind, and the place behind it. -/
structure TokMid (s : List UInt8) (i : Nat) (acc : D) (m : Mem) (n : Nat) (σ : Nat → D) (m2 : Mem) (n2 : Nat) : Prop where
  h0 : σ 0 = S s
  h4 : σ 4 = acc
  h5 : σ 5 = I i
  mm : m2 = m
  nn : n2 = n
  tk : ∃ (j : Nat) (kd : Int), σ 7 = I ((i + j : Nat) : Int) ∧ σ 8 = I kd ∧ 1 ≤ j ∧ i + j ≤ s.length ∧
    ((kd = 0 ∧ toksAt (s.drop i) i = toksAt (s.drop (i + j)) (i + j)) ∨ (0 < kd ∧ toksAt (s.drop i) i = (⟨kd, i, (s.drop i).take j⟩ :: (toksAt (s.drop (i + j)) (i + j)).1, (toksAt (s.drop (i + j)) (i + j)).2)))
/-- One of the loops that go over a class of bytes. -/
structure RunMid (s : List UInt8) (i : Nat) (kd : Int) (p : UInt8 → Bool) (acc : D) (m : Mem) (n : Nat) (j : Nat) (σ : Nat → D) (m2 : Mem) (n2 : Nat) : Prop where
  h0 : σ 0 = S s
  h4 : σ 4 = acc
  h5 : σ 5 = I i
  h7 : σ 7 = I ((i + j : Nat) : Int)
  h8 : σ 8 = I kd
  j1 : 1 ≤ j
  le : i + j ≤ s.length
  al : ∀ x ∈ (s.drop i).take j, p x = true
  mm : m2 = m
  nn : n2 = n
theorem run_end {s : List UInt8} {i j : Nat} {p : UInt8 → Bool} (al : ∀ x ∈ (s.drop i).take j, p x = true) (le : i + j ≤ s.length) (h : ∀ h : i + j < s.length, p s[i + j] = false) : runN p (s.drop i) = j := by
  rw [runN_drop al (by rw [List.length_drop]; omega), List.drop_drop]
  rcases Nat.lt_or_ge (i + j) s.length with h1 | h1
  · rw [List.drop_eq_getElem_cons h1]
    simp only [runN, List.takeWhile_cons, h h1]; rfl
  · rw [List.drop_eq_nil_of_le h1]; rfl
theorem run_step {s : List UInt8} {i j : Nat} {p : UInt8 → Bool} (al : ∀ x ∈ (s.drop i).take j, p x = true) (h : i + j < s.length) (hp : p s[i + j] = true) : ∀ x ∈ (s.drop i).take (j + 1), p x = true := by
  intro x hx
  have hl : j < (s.drop i).length := by rw [List.length_drop]; omega
  rw [List.take_succ_eq_append_getElem hl] at hx
  rcases List.mem_append.1 hx with hx | hx
  · exact al x hx
  · simp at hx; rw [hx]; exact hp
structure RTokInv (s : List UInt8) (m : Mem) (n : Nat) (i : Nat) (σ : Nat → D) (m2 : Mem) (n2 : Nat) : Prop where
  h0 : σ 0 = S s
  h5 : σ 5 = I i
  le : i ≤ s.length
  fr : ∀ j, j < n → m2 j = m j
  nn : n ≤ n2
  tk : ∃ acc : List Tok, Lst m2 3 (acc.map tokD) (σ 4) ∧ (∀ k, kof (σ 4) = some k → n ≤ k ∧ k < n2) ∧ acc.length ≤ i ∧ toksAt s 0 = (acc ++ (toksAt (s.drop i) i).1, (toksAt (s.drop i) i).2)
set_option maxHeartbeats 4000000 in
theorem cRefTokens (s : List UInt8) (hs : s.length ≤ 1000000000) (m : Mem) (n : Nat) : ACalls Tryz.prog 22 [S s] m n (fun d m' n' =>
    d = (match (toksAt s 0).2 with | some a => .tup [.sl 3 [], I a] | none => .tup [.sl 3 ((toksAt s 0).1.map tokD), I (-1)]) ∧ m' = m ∧ n' = n) := by
  refine acalls_done (R' := Hq (fun d m' n' => ∃ x y, d = .tup [x, y] ∧ (match (toksAt s 0).2 with
    | some a => x = .v (.slice none 0 0) ∧ y = I a
    | none => Lst m' 3 ((toksAt s 0).1.map tokD) x ∧ (∀ k, kof x = some k → n ≤ k) ∧ y = I (-1)) ∧ ∀ j, j < n → m' j = m j) tg) ?_ ?_
  · refine acalls_vc [0, 2, 3, 4, 5, 6, 7, 8, 9, 13, 20, 31, 43, 46, 50, 66, 69, 81, 84, 115, 119, 121, 165] Tryz.func22 Tryz.ntmps22 (by kernel_rfl) rfl rfl (by simp) ?_
    simp -dsimp [S]
    refine vloop_of (β := Nat) (RTokInv s m n) (fun i => s.length - i) 0 ⟨by simp [S], by simp [I], by omega, fun _ _ => rfl, by omega, [], .nil, by simp, by simp, by simp⟩ ?_
    rintro i σ m2 n2 ⟨h0, h5, le, fr, nn, acc, hL, hk, hacc, hsp⟩
    by_cases hi : (i : Int) < s.length
    · have hi' : i < s.length := by omega
      have hd : s.drop i = s[i] :: s.drop (i + 1) := List.drop_eq_getElem_cons hi'
      simp -dsimp [h0, h5, S, I, hi, hi', -vc_block]
      rw [vc_block]
      simp -dsimp [h0, h5, S, I, hi, hi', -vc_block]
      refine vc_mid (TokMid s i (σ 4) m2 n2) ?_ ?_
      · rw [vc_block]
        have w1 : IntKind.i64.wrap ((i : Int) + 1) = ((i + 1 : Nat) : Int) := by rw [wrap_i64 (by omega) (by omega)]; omega
        have wk : ∀ j : Nat, i + j < s.length → IntKind.i64.wrap (((i + j : Nat) : Int) + 1) = ((i + (j + 1) : Nat) : Int) := fun j hj => by rw [wrap_i64 (by omega) (by omega)]; omega
        generalize hxd : s[i] = x at hd
        rw [w1]
        by_cases hb : isBlank x = true
        · have hend : toksAt (s.drop i) i = toksAt (s.drop (i + 1)) (i + 1) := by rw [hd, toksAt_blank _ _ hb]
          have hb' : x.toNat = 32 ∨ x.toNat = 9 ∨ x.toNat = 10 := by simpa [isBlank, or_assoc] using hb
          rcases hb' with e | e | e
          all_goals
            simp -dsimp [e, -Int.natCast_add]
            exact ⟨by simp [S], by simp, by simp [I], rfl, rfl, 1, 0, by simp [I], by simp [I], by omega, by omega, .inl ⟨rfl, hend⟩⟩
        have hbf : isBlank x = false := by simpa using hb
        have nb : ¬ x.toNat = 32 ∧ ¬ x.toNat = 9 ∧ ¬ x.toNat = 10 := by simpa [isBlank, and_assoc] using hb
        have f32 : ((x.toNat : Int) == 32) = false := by simp; omega
        have f9 : ((x.toNat : Int) == 9) = false := by simp; omega
        have f10 : ((x.toNat : Int) == 10) = false := by simp; omega
        by_cases h35 : x.toNat = 35
        · have hx : x = 35 := UInt8.toNat_inj.1 h35
          have al1 : ∀ y ∈ (s.drop i).take 1, (!decide (y.toNat = 10)) = true := by rw [hd]; simp [h35]
          have hend : ∀ j, runN (fun y => !decide (y.toNat = 10)) (s.drop i) = j → toksAt (s.drop i) i = toksAt (s.drop (i + j)) (i + j) := by
            intro j hj
            have := toksAt_hash (s.drop (i + 1)) i hbf hx
            rw [← hd, hj, List.drop_drop] at this
            exact this
          clear hx
          simp -dsimp [f32, f9, f10, h35, -Int.natCast_add]
          refine vloop_of (β := Nat) (RunMid s i 0 (fun y => !decide (y.toNat = 10)) (σ 4) m2 n2) (fun j => s.length - (i + j)) 1 ⟨by simp [S], by simp, by simp [I], by simp [I], by simp [I], by omega, by omega, al1, rfl, rfl⟩ ?_
          rintro j σ1 m1 n1 ⟨g0, g4, g5, g7, g8, j1, jl, al, rfl, rfl⟩
          by_cases hj : i + j < s.length
          · have hj2 : ((i + j : Nat) : Int) < s.length := by omega
            by_cases ht : (s[i + j]).toNat = 10
            · simp -dsimp [g0, g4, g5, g7, g8, S, I, hj, hj2, ht, -Int.natCast_add]
              exact ⟨by simp [S], by simp, by simp [I], rfl, rfl, j, 0, by simp -dsimp [I, -Int.natCast_add], by simp [I], by omega, by omega, .inl ⟨rfl, hend j (run_end al jl fun _ => by simp [ht])⟩⟩
            · have ht' : (((s[i + j]).toNat : Int) != 10) = true := by simp; omega
              simp -dsimp [g0, g4, g5, g7, g8, S, I, hj, hj2, ht', wk j hj, -Int.natCast_add]
              exact ⟨j + 1, by omega, by simp [S], by simp, by simp [I], by simp -dsimp [I, -Int.natCast_add], by simp [I], by omega, by omega, run_step al hj (by simp [ht]), rfl, rfl⟩
          · have hj2 : ¬ ((i + j : Nat) : Int) < s.length := by omega
            simp -dsimp [g0, g4, g5, g7, g8, S, I, hj2, -Int.natCast_add]
            exact ⟨by simp [S], by simp, by simp [I], rfl, rfl, j, 0, by simp -dsimp [I, -Int.natCast_add], by simp [I], by omega, by omega, .inl ⟨rfl, hend j (run_end al jl fun h => absurd h hj)⟩⟩
        have f35 : ((x.toNat : Int) == 35) = false := by simp; omega
        have hx35 : ¬ x = 35 := fun e => h35 (by rw [e]; rfl)
        have hend : ∀ (kd j : Nat), firstT (x :: s.drop (i + 1)) = (kd, j) → 1 ≤ j → toksAt (s.drop i) i = (⟨kd, i, (s.drop i).take j⟩ :: (toksAt (s.drop (i + j)) (i + j)).1, (toksAt (s.drop (i + j)) (i + j)).2) := by
          intro kd j hf hj
          have := toksAt_tok (s.drop (i + 1)) i hbf hx35 (by rw [hf]; simp; omega)
          rw [hf, ← hd, List.drop_drop] at this
          exact this
        simp -dsimp [f32, f9, f10, f35, -Int.natCast_add]
        refine aCall_of (cRefLetter x m2 n2) ?_
        rintro d m' n' ⟨rfl, rfl, rfl⟩
        by_cases hl : (isSmall x || isGreat x) = true
        · have al1 : ∀ y ∈ (s.drop i).take 1, isWord y = true := by rw [hd]; simp [isWord]; simp at hl; rcases hl with h | h <;> simp [h]
          simp -dsimp [Tt, hl, -Int.natCast_add]
          by_cases h90 : (x.toNat : Int) ≤ 90
          · have hg : isGreat x = true := by
              cases q : isGreat x
              · simp [q, isSmall] at hl; omega
              · rfl
            have hft : ∀ j, runN isWord (s.drop i) = j → firstT (x :: s.drop (i + 1)) = (2, j) := fun j hj => by rw [firstT_great _ hg, ← hd, hj]
            simp -dsimp [h90, -Int.natCast_add]
            refine vloop_of (β := Nat) (RunMid s i 2 isWord (σ 4) m' n') (fun j => s.length - (i + j)) 1 ⟨by simp [S], by simp, by simp [I], by simp [I], by simp [I], by omega, by omega, al1, rfl, rfl⟩ ?_
            rintro j σ1 m1 n1 ⟨g0, g4, g5, g7, g8, j1, jl, al, rfl, rfl⟩
            by_cases hj : i + j < s.length
            · have hj2 : ((i + j : Nat) : Int) < s.length := by omega
              simp -dsimp [g0, g4, g5, g7, g8, S, I, hj, hj2, -Int.natCast_add]
              refine aCall_of (cRefLetter s[i + j] m1 n1) ?_
              rintro d m' n' ⟨rfl, rfl, rfl⟩
              cases q1 : (isSmall s[i + j] || isGreat s[i + j])
              · simp -dsimp [Tt, g0, g4, g5, g7, g8, S, I, hj, hj2, -Int.natCast_add]
                refine aCall_of (cRefDigit s[i + j] m' n') ?_
                rintro d m' n' ⟨rfl, rfl, rfl⟩
                cases q2 : isDigit s[i + j]
                · simp -dsimp [Tt, g0, g4, g5, g7, g8, S, I, hj, hj2, -Int.natCast_add]
                  exact ⟨by simp [S], by simp, by simp [I], rfl, rfl, j, 2, by simp -dsimp [I, -Int.natCast_add], by simp [I], by omega, by omega, .inr ⟨by omega, hend 2 j (hft j (run_end al jl fun _ => by simp [isWord, q1, q2])) j1⟩⟩
                · simp -dsimp [Tt, g0, g4, g5, g7, g8, S, I, hj, hj2, wk j hj, -Int.natCast_add]
                  exact ⟨j + 1, by omega, by simp [S], by simp, by simp [I], by simp -dsimp [I, -Int.natCast_add], by simp [I], by omega, by omega, run_step al hj (by simp [isWord, q1, q2]), rfl, rfl⟩
              · simp -dsimp [Tt, g0, g4, g5, g7, g8, S, I, hj, hj2, wk j hj, -Int.natCast_add]
                exact ⟨j + 1, by omega, by simp [S], by simp, by simp [I], by simp -dsimp [I, -Int.natCast_add], by simp [I], by omega, by omega, run_step al hj (by simp [isWord, q1]), rfl, rfl⟩
            · have hj2 : ¬ ((i + j : Nat) : Int) < s.length := by omega
              simp -dsimp [g0, g4, g5, g7, g8, S, I, hj2, -Int.natCast_add]
              exact ⟨by simp [S], by simp, by simp [I], rfl, rfl, j, 2, by simp -dsimp [I, -Int.natCast_add], by simp [I], by omega, by omega, .inr ⟨by omega, hend 2 j (hft j (run_end al jl fun h => absurd h hj)) j1⟩⟩
          · have hg : isSmall x = true := by
              cases q : isSmall x
              · simp [q, isGreat] at hl; omega
              · rfl
            have hft : ∀ j, runN isWord (s.drop i) = j → firstT (x :: s.drop (i + 1)) = (1, j) := fun j hj => by rw [firstT_small _ hg, ← hd, hj]
            simp -dsimp [h90, -Int.natCast_add]
            refine vloop_of (β := Nat) (RunMid s i 1 isWord (σ 4) m' n') (fun j => s.length - (i + j)) 1 ⟨by simp [S], by simp, by simp [I], by simp [I], by simp [I], by omega, by omega, al1, rfl, rfl⟩ ?_
            rintro j σ1 m1 n1 ⟨g0, g4, g5, g7, g8, j1, jl, al, rfl, rfl⟩
            by_cases hj : i + j < s.length
            · have hj2 : ((i + j : Nat) : Int) < s.length := by omega
              simp -dsimp [g0, g4, g5, g7, g8, S, I, hj, hj2, -Int.natCast_add]
              refine aCall_of (cRefLetter s[i + j] m1 n1) ?_
              rintro d m' n' ⟨rfl, rfl, rfl⟩
              cases q1 : (isSmall s[i + j] || isGreat s[i + j])
              · simp -dsimp [Tt, g0, g4, g5, g7, g8, S, I, hj, hj2, -Int.natCast_add]
                refine aCall_of (cRefDigit s[i + j] m' n') ?_
                rintro d m' n' ⟨rfl, rfl, rfl⟩
                cases q2 : isDigit s[i + j]
                · simp -dsimp [Tt, g0, g4, g5, g7, g8, S, I, hj, hj2, -Int.natCast_add]
                  exact ⟨by simp [S], by simp, by simp [I], rfl, rfl, j, 1, by simp -dsimp [I, -Int.natCast_add], by simp [I], by omega, by omega, .inr ⟨by omega, hend 1 j (hft j (run_end al jl fun _ => by simp [isWord, q1, q2])) j1⟩⟩
                · simp -dsimp [Tt, g0, g4, g5, g7, g8, S, I, hj, hj2, wk j hj, -Int.natCast_add]
                  exact ⟨j + 1, by omega, by simp [S], by simp, by simp [I], by simp -dsimp [I, -Int.natCast_add], by simp [I], by omega, by omega, run_step al hj (by simp [isWord, q1, q2]), rfl, rfl⟩
              · simp -dsimp [Tt, g0, g4, g5, g7, g8, S, I, hj, hj2, wk j hj, -Int.natCast_add]
                exact ⟨j + 1, by omega, by simp [S], by simp, by simp [I], by simp -dsimp [I, -Int.natCast_add], by simp [I], by omega, by omega, run_step al hj (by simp [isWord, q1]), rfl, rfl⟩
            · have hj2 : ¬ ((i + j : Nat) : Int) < s.length := by omega
              simp -dsimp [g0, g4, g5, g7, g8, S, I, hj2, -Int.natCast_add]
              exact ⟨by simp [S], by simp, by simp [I], rfl, rfl, j, 1, by simp -dsimp [I, -Int.natCast_add], by simp [I], by omega, by omega, .inr ⟨by omega, hend 1 j (hft j (run_end al jl fun h => absurd h hj)) j1⟩⟩
        have hlf : (isSmall x || isGreat x) = false := by simpa using hl
        obtain ⟨nsm, ngr⟩ : isSmall x = false ∧ isGreat x = false := by simpa using hlf
        simp -dsimp [Tt, hlf, -Int.natCast_add]
        refine aCall_of (cRefDigit x m' n') ?_
        rintro d m' n' ⟨rfl, rfl, rfl⟩
        cases hdg : isDigit x
        case true =>
          have al1 : ∀ y ∈ (s.drop i).take 1, isDigit y = true := by rw [hd]; simp [hdg]
          have hft : ∀ j, runN isDigit (s.drop i) = j → firstT (x :: s.drop (i + 1)) = (3, j) := fun j hj => by rw [firstT_digit _ hdg, ← hd, hj]
          simp -dsimp [Tt, hdg, -Int.natCast_add]
          refine vloop_of (β := Nat) (RunMid s i 3 isDigit (σ 4) m' n') (fun j => s.length - (i + j)) 1 ⟨by simp [S], by simp, by simp [I], by simp [I], by simp [I], by omega, by omega, al1, rfl, rfl⟩ ?_
          rintro j σ1 m1 n1 ⟨g0, g4, g5, g7, g8, j1, jl, al, rfl, rfl⟩
          by_cases hj : i + j < s.length
          · have hj2 : ((i + j : Nat) : Int) < s.length := by omega
            simp -dsimp [g0, g4, g5, g7, g8, S, I, hj, hj2, -Int.natCast_add]
            refine aCall_of (cRefDigit s[i + j] m1 n1) ?_
            rintro d m' n' ⟨rfl, rfl, rfl⟩
            cases q2 : isDigit s[i + j]
            · simp -dsimp [Tt, g0, g4, g5, g7, g8, S, I, hj, hj2, -Int.natCast_add]
              exact ⟨by simp [S], by simp, by simp [I], rfl, rfl, j, 3, by simp -dsimp [I, -Int.natCast_add], by simp [I], by omega, by omega, .inr ⟨by omega, hend 3 j (hft j (run_end al jl fun _ => by simp [q2])) j1⟩⟩
            · simp -dsimp [Tt, g0, g4, g5, g7, g8, S, I, hj, hj2, wk j hj, -Int.natCast_add]
              exact ⟨j + 1, by omega, by simp [S], by simp, by simp [I], by simp -dsimp [I, -Int.natCast_add], by simp [I], by omega, by omega, run_step al hj (by simp [q2]), rfl, rfl⟩
          · have hj2 : ¬ ((i + j : Nat) : Int) < s.length := by omega
            simp -dsimp [g0, g4, g5, g7, g8, S, I, hj2, -Int.natCast_add]
            exact ⟨by simp [S], by simp, by simp [I], rfl, rfl, j, 3, by simp -dsimp [I, -Int.natCast_add], by simp [I], by omega, by omega, .inr ⟨by omega, hend 3 j (hft j (run_end al jl fun h => absurd h hj)) j1⟩⟩
        have hfe := firstT_else (s.drop (i + 1)) nsm ngr hdg
        have hbad : firstT (x :: s.drop (i + 1)) = (0, 0) → toksAt (s.drop i) i = ([], some i) := by
          intro hf
          have := toksAt_bad (s.drop (i + 1)) i hbf hx35 (by rw [hf])
          rw [← hd] at this; exact this
        rw [pre2, pre2] at hfe
        have hnx : (s.drop (i + 1))[0]? = s[i + 1]? := by simp
        rw [hnx] at hfe
        by_cases c45 : x.toNat = 45
        · have hxc : x = 45 := UInt8.toNat_inj.1 c45
          have hsg : isSign 45 = false := by decide
          by_cases hj : i + 1 < s.length
          · have hj2 : ((i + 1 : Nat) : Int) < s.length := by omega
            by_cases ht : (s[i + 1]).toNat = 62
            · have hf : firstT (x :: s.drop (i + 1)) = (4, 2) := by
                rw [hfe, hxc, List.getElem?_eq_getElem hj, show s[i + 1] = 62 from UInt8.toNat_inj.1 ht]; rfl
              clear hxc
              simp -dsimp [Tt, hdg, c45, hj, hj2, ht, wk 1 hj, S, I, -Int.natCast_add]
              exact ⟨by simp [S], by simp, by simp [I], rfl, rfl, 2, 4, by simp -dsimp [I, -Int.natCast_add], by simp [I], by omega, by omega, .inr ⟨by omega, hend 4 2 hf (by omega)⟩⟩
            · have ht' : (((s[i + 1]).toNat : Int) == 62) = false := by simp; omega
              have hne : ¬ s[i + 1] = 62 := fun e => ht (by rw [e]; rfl)
              have hf : firstT (x :: s.drop (i + 1)) = (0, 0) := by
                rw [hfe, hxc, List.getElem?_eq_getElem hj]; simp [hne, hsg]
              clear hxc
              simp -dsimp [Tt, hdg, c45, hj, hj2, ht', S, I, -Int.natCast_add]
              exact hq ⟨_, _, rfl, by rw [hsp, hbad hf]; exact ⟨rfl, rfl⟩, fr⟩
          · have hj2 : ¬ ((i + 1 : Nat) : Int) < s.length := by omega
            have hf : firstT (x :: s.drop (i + 1)) = (0, 0) := by
              rw [hfe, hxc, List.getElem?_eq_none (by omega)]; simp [hsg]
            clear hxc
            simp -dsimp [Tt, hdg, c45, hj2, S, I, -Int.natCast_add]
            exact hq ⟨_, _, rfl, by rw [hsp, hbad hf]; exact ⟨rfl, rfl⟩, fr⟩
        have f45 : ((x.toNat : Int) == 45) = false := by simp; omega
        by_cases c46 : x.toNat = 46
        · have hxc : x = 46 := UInt8.toNat_inj.1 c46
          have hsg : isSign 46 = true := by decide
          by_cases hj : i + 1 < s.length
          · have hj2 : ((i + 1 : Nat) : Int) < s.length := by omega
            by_cases ht : (s[i + 1]).toNat = 46
            · have hf : firstT (x :: s.drop (i + 1)) = (4, 2) := by
                rw [hfe, hxc, List.getElem?_eq_getElem hj, show s[i + 1] = 46 from UInt8.toNat_inj.1 ht]; rfl
              clear hxc
              simp -dsimp [Tt, hdg, c46, hj, hj2, ht, wk 1 hj, S, I, -Int.natCast_add]
              exact ⟨by simp [S], by simp, by simp [I], rfl, rfl, 2, 4, by simp -dsimp [I, -Int.natCast_add], by simp [I], by omega, by omega, .inr ⟨by omega, hend 4 2 hf (by omega)⟩⟩
            · have ht' : (((s[i + 1]).toNat : Int) == 46) = false := by simp; omega
              have hne : ¬ s[i + 1] = 46 := fun e => ht (by rw [e]; rfl)
              have hf : firstT (x :: s.drop (i + 1)) = (4, 1) := by
                rw [hfe, hxc, List.getElem?_eq_getElem hj]; simp [hne, hsg]
              clear hxc
              simp -dsimp [Tt, hdg, c46, hj, hj2, ht', S, I, -Int.natCast_add]
              exact ⟨by simp [S], by simp, by simp [I], rfl, rfl, 1, 4, by simp -dsimp [I, -Int.natCast_add], by simp [I], by omega, by omega, .inr ⟨by omega, hend 4 1 hf (by omega)⟩⟩
          · have hj2 : ¬ ((i + 1 : Nat) : Int) < s.length := by omega
            have hf : firstT (x :: s.drop (i + 1)) = (4, 1) := by
              rw [hfe, hxc, List.getElem?_eq_none (by omega)]; simp [hsg]
            clear hxc
            simp -dsimp [Tt, hdg, c46, hj2, S, I, -Int.natCast_add]
            exact ⟨by simp [S], by simp, by simp [I], rfl, rfl, 1, 4, by simp -dsimp [I, -Int.natCast_add], by simp [I], by omega, by omega, .inr ⟨by omega, hend 4 1 hf (by omega)⟩⟩
        have f46 : ((x.toNat : Int) == 46) = false := by simp; omega
        have hfe0 : firstT (x :: s.drop (i + 1)) = if isSign x = true then (4, 1) else (0, 0) := by
          rw [hfe]
          have n1 : ¬ x = 45 := fun e => c45 (by rw [e]; rfl)
          have n2 : ¬ x = 46 := fun e => c46 (by rw [e]; rfl)
          simp [n1, n2]
        by_cases c123 : x.toNat = 123
        · have hf : firstT (x :: s.drop (i + 1)) = (4, 1) := by
            rw [hfe0, show x = 123 from UInt8.toNat_inj.1 c123]; rfl
          simp -dsimp [Tt, hdg, f45, f46, c123, S, I, -Int.natCast_add]
          exact ⟨by simp [S], by simp, by simp [I], rfl, rfl, 1, 4, by simp -dsimp [I, -Int.natCast_add], by simp [I], by omega, by omega, .inr ⟨by omega, hend 4 1 hf (by omega)⟩⟩
        have f123 : ((x.toNat : Int) == 123) = false := by simp; omega
        by_cases c125 : x.toNat = 125
        · have hf : firstT (x :: s.drop (i + 1)) = (4, 1) := by
            rw [hfe0, show x = 125 from UInt8.toNat_inj.1 c125]; rfl
          simp -dsimp [Tt, hdg, f45, f46, f123, c125, S, I, -Int.natCast_add]
          exact ⟨by simp [S], by simp, by simp [I], rfl, rfl, 1, 4, by simp -dsimp [I, -Int.natCast_add], by simp [I], by omega, by omega, .inr ⟨by omega, hend 4 1 hf (by omega)⟩⟩
        have f125 : ((x.toNat : Int) == 125) = false := by simp; omega
        by_cases c40 : x.toNat = 40
        · have hf : firstT (x :: s.drop (i + 1)) = (4, 1) := by
            rw [hfe0, show x = 40 from UInt8.toNat_inj.1 c40]; rfl
          simp -dsimp [Tt, hdg, f45, f46, f123, f125, c40, S, I, -Int.natCast_add]
          exact ⟨by simp [S], by simp, by simp [I], rfl, rfl, 1, 4, by simp -dsimp [I, -Int.natCast_add], by simp [I], by omega, by omega, .inr ⟨by omega, hend 4 1 hf (by omega)⟩⟩
        have f40 : ((x.toNat : Int) == 40) = false := by simp; omega
        by_cases c41 : x.toNat = 41
        · have hf : firstT (x :: s.drop (i + 1)) = (4, 1) := by
            rw [hfe0, show x = 41 from UInt8.toNat_inj.1 c41]; rfl
          simp -dsimp [Tt, hdg, f45, f46, f123, f125, f40, c41, S, I, -Int.natCast_add]
          exact ⟨by simp [S], by simp, by simp [I], rfl, rfl, 1, 4, by simp -dsimp [I, -Int.natCast_add], by simp [I], by omega, by omega, .inr ⟨by omega, hend 4 1 hf (by omega)⟩⟩
        have f41 : ((x.toNat : Int) == 41) = false := by simp; omega
        by_cases c91 : x.toNat = 91
        · have hf : firstT (x :: s.drop (i + 1)) = (4, 1) := by
            rw [hfe0, show x = 91 from UInt8.toNat_inj.1 c91]; rfl
          simp -dsimp [Tt, hdg, f45, f46, f123, f125, f40, f41, c91, S, I, -Int.natCast_add]
          exact ⟨by simp [S], by simp, by simp [I], rfl, rfl, 1, 4, by simp -dsimp [I, -Int.natCast_add], by simp [I], by omega, by omega, .inr ⟨by omega, hend 4 1 hf (by omega)⟩⟩
        have f91 : ((x.toNat : Int) == 91) = false := by simp; omega
        by_cases c93 : x.toNat = 93
        · have hf : firstT (x :: s.drop (i + 1)) = (4, 1) := by
            rw [hfe0, show x = 93 from UInt8.toNat_inj.1 c93]; rfl
          simp -dsimp [Tt, hdg, f45, f46, f123, f125, f40, f41, f91, c93, S, I, -Int.natCast_add]
          exact ⟨by simp [S], by simp, by simp [I], rfl, rfl, 1, 4, by simp -dsimp [I, -Int.natCast_add], by simp [I], by omega, by omega, .inr ⟨by omega, hend 4 1 hf (by omega)⟩⟩
        have f93 : ((x.toNat : Int) == 93) = false := by simp; omega
        by_cases c60 : x.toNat = 60
        · have hf : firstT (x :: s.drop (i + 1)) = (4, 1) := by
            rw [hfe0, show x = 60 from UInt8.toNat_inj.1 c60]; rfl
          simp -dsimp [Tt, hdg, f45, f46, f123, f125, f40, f41, f91, f93, c60, S, I, -Int.natCast_add]
          exact ⟨by simp [S], by simp, by simp [I], rfl, rfl, 1, 4, by simp -dsimp [I, -Int.natCast_add], by simp [I], by omega, by omega, .inr ⟨by omega, hend 4 1 hf (by omega)⟩⟩
        have f60 : ((x.toNat : Int) == 60) = false := by simp; omega
        by_cases c62 : x.toNat = 62
        · have hf : firstT (x :: s.drop (i + 1)) = (4, 1) := by
            rw [hfe0, show x = 62 from UInt8.toNat_inj.1 c62]; rfl
          simp -dsimp [Tt, hdg, f45, f46, f123, f125, f40, f41, f91, f93, f60, c62, S, I, -Int.natCast_add]
          exact ⟨by simp [S], by simp, by simp [I], rfl, rfl, 1, 4, by simp -dsimp [I, -Int.natCast_add], by simp [I], by omega, by omega, .inr ⟨by omega, hend 4 1 hf (by omega)⟩⟩
        have f62 : ((x.toNat : Int) == 62) = false := by simp; omega
        by_cases c44 : x.toNat = 44
        · have hf : firstT (x :: s.drop (i + 1)) = (4, 1) := by
            rw [hfe0, show x = 44 from UInt8.toNat_inj.1 c44]; rfl
          simp -dsimp [Tt, hdg, f45, f46, f123, f125, f40, f41, f91, f93, f60, f62, c44, S, I, -Int.natCast_add]
          exact ⟨by simp [S], by simp, by simp [I], rfl, rfl, 1, 4, by simp -dsimp [I, -Int.natCast_add], by simp [I], by omega, by omega, .inr ⟨by omega, hend 4 1 hf (by omega)⟩⟩
        have f44 : ((x.toNat : Int) == 44) = false := by simp; omega
        by_cases c58 : x.toNat = 58
        · have hf : firstT (x :: s.drop (i + 1)) = (4, 1) := by
            rw [hfe0, show x = 58 from UInt8.toNat_inj.1 c58]; rfl
          simp -dsimp [Tt, hdg, f45, f46, f123, f125, f40, f41, f91, f93, f60, f62, f44, c58, S, I, -Int.natCast_add]
          exact ⟨by simp [S], by simp, by simp [I], rfl, rfl, 1, 4, by simp -dsimp [I, -Int.natCast_add], by simp [I], by omega, by omega, .inr ⟨by omega, hend 4 1 hf (by omega)⟩⟩
        have f58 : ((x.toNat : Int) == 58) = false := by simp; omega
        by_cases c61 : x.toNat = 61
        · have hf : firstT (x :: s.drop (i + 1)) = (4, 1) := by
            rw [hfe0, show x = 61 from UInt8.toNat_inj.1 c61]; rfl
          simp -dsimp [Tt, hdg, f45, f46, f123, f125, f40, f41, f91, f93, f60, f62, f44, f58, c61, S, I, -Int.natCast_add]
          exact ⟨by simp [S], by simp, by simp [I], rfl, rfl, 1, 4, by simp -dsimp [I, -Int.natCast_add], by simp [I], by omega, by omega, .inr ⟨by omega, hend 4 1 hf (by omega)⟩⟩
        have f61 : ((x.toNat : Int) == 61) = false := by simp; omega
        have hf : firstT (x :: s.drop (i + 1)) = (0, 0) := by
          rw [hfe0, if_neg]
          intro h
          simp only [isSign, decide_eq_true_eq, List.mem_cons, List.not_mem_nil, or_false] at h
          rcases h with rfl | rfl | rfl | rfl | rfl | rfl | rfl | rfl | rfl | rfl | rfl | rfl
          all_goals first | exact c45 rfl | exact c46 rfl | exact c123 rfl | exact c125 rfl | exact c40 rfl | exact c41 rfl | exact c91 rfl | exact c93 rfl | exact c60 rfl | exact c62 rfl | exact c44 rfl | exact c58 rfl | exact c61 rfl
        simp -dsimp [Tt, hdg, f45, f46, f123, f125, f40, f41, f91, f93, f60, f62, f44, f58, f61, S, I, -Int.natCast_add]
        exact hq ⟨_, _, rfl, by rw [hsp, hbad hf]; exact ⟨rfl, rfl⟩, fr⟩
      · rintro σ1 m1 n1 ⟨g0, g4, g5, rfl, rfl, j, kd, g7, g8, j1, jl, htk⟩
        by_cases hz : 0 < kd
        · have ht : toksAt (s.drop i) i = (⟨kd, i, (s.drop i).take j⟩ :: (toksAt (s.drop (i + j)) (i + j)).1, (toksAt (s.drop (i + j)) (i + j)).2) := by
            rcases htk with ⟨e, _⟩ | ⟨_, e⟩
            · omega
            · exact e
          have tn : ((i : Int) + j).toNat = i + j := by omega
          have dt : List.drop i (List.take (i + j) s) = List.take j (List.drop i s) := by rw [List.take_drop, Nat.add_comm]
          simp -dsimp [g0, g4, g5, g7, g8, S, I, hz, tn, dt]
          refine ⟨by omega, ?_⟩
          refine b4_append (hL.frame fun k hk' => ?_) (fun k hk' => ?_) (by trivial) (by trivial) (by omega) (by simp; omega) ?_
          · have := hk k hk'; rw [set_ne _ _ _ _ (by omega)]
          · have := hk k hk'; omega
          intro d2 m4 n4 p1 p2 p3 p4
          simp -dsimp [g0, g4, g5, g7, g8, S, I]
          refine ⟨i + j, by omega, by simp [S], by simp [I], by omega, fun q hq' => ?_, by omega, acc ++ [⟨kd, i, List.take j (List.drop i s)⟩], ?_, ?_, by simp; omega, ?_⟩
          · rw [p4 q (by omega) (fun e => by have := hk q e; omega), set_ne _ _ _ _ (by omega), fr q hq']
          · simpa [tokD, I, S] using p1
          · intro k hk'
            simp at hk'
            have := p3 k hk'
            rcases this.2 with e | e
            · have := hk k e; omega
            · omega
          · rw [hsp, ht]; simp
        · have ht : toksAt (s.drop i) i = toksAt (s.drop (i + j)) (i + j) := by
            rcases htk with ⟨_, e⟩ | ⟨e, _⟩
            · exact e
            · omega
          simp -dsimp [g0, g4, g5, g7, g8, S, I, hz]
          exact ⟨i + j, by omega, by simp [S], by simp [I], by omega, fr, nn, acc, by simpa using hL, by simpa using hk, by omega, by rw [hsp, ht]⟩
    · simp -dsimp [h0, h5, S, I, hi]
      have hil : i = s.length := by omega
      rw [hil, List.drop_length, toksAt_nil] at hsp
      exact hq ⟨_, _, rfl, by rw [hsp]; exact ⟨by simpa using hL, fun k hk' => (hk k hk').1, rfl⟩, fr⟩
  · rintro d m' n' ⟨x, y, rfl, h, hf⟩
    split at h
    · obtain ⟨rfl, rfl⟩ := h
      exact ⟨_, pub_pair (pub_nil 3) (pur_I _).pub, hf, rfl⟩
    · obtain ⟨h2, h3, rfl⟩ := h
      exact ⟨_, pub_pair (.lstP h2 h3 (by
        intro e he d hd
        obtain ⟨t, _, rfl⟩ := List.mem_map.1 he
        simp only [tokD, List.mem_cons, List.not_mem_nil, or_false] at hd
        rcases hd with rfl | rfl | rfl
        · exact pur_I _
        · exact pur_I _
        · exact pur_S _)) (pur_I _).pub, hf, rfl⟩
end Go.Proofs.Mv.App
open Go Go.Proofs Go.Proofs.Mv.V
set_option maxRecDepth 10000
namespace Go.Proofs.Mv.App
variable [GI]
def isLet (g : Bool) (x : UInt8) : Bool := isSmall x || isDigit x || (g && isGreat x)
def wordOk (g : Bool) (s : List UInt8) : Bool := s.all (isLet g) && decide (1 ≤ s.length) && decide (s.length ≤ 20)
def keyL : List (List UInt8) := [[97, 115], [97, 108, 105, 97, 115], [100, 101, 112], [104, 105, 100, 100, 101, 110], [105, 109, 112, 111, 114, 116], [105, 115], [109, 111, 100, 117, 108, 101], [111, 112, 97, 113, 117, 101], [112, 97, 99, 107, 97, 103, 101], [117, 115, 101], [118, 97, 108], [118, 101, 114, 115, 105, 111, 110]]
def smallN (s : List UInt8) : Bool := wordOk false s && (s.head?.any isSmall) && !decide (s ∈ keyL)
def greatN (s : List UInt8) : Bool := wordOk true s && (s.head?.any isGreat) && !decide (s = [73, 110, 116]) && !decide (s = [84, 101, 120, 116]) && !decide (s = [66, 111, 111, 108]) && !decide (s = [76, 105, 115, 116])
structure WordInv (s : List UInt8) (g : Bool) (m : Mem) (n : Nat) (i : Nat) (σ : Nat → D) (m2 : Mem) (n2 : Nat) : Prop where
  h0 : σ 0 = S s
  h1 : σ 1 = Tt g
  h8 : σ 8 = I s.length
  h9 : σ 9 = I i
  le : i ≤ s.length
  al : ∀ x ∈ s.take i, isLet g x = true
  mm : m2 = m
  nn : n2 = n
theorem all_end {s : List UInt8} {g : Bool} {i : Nat} (al : ∀ x ∈ s.take i, isLet g x = true) (h : i = s.length) : s.all (isLet g) = true := by
  subst h; rw [List.take_length] at al; exact List.all_eq_true.2 al
theorem all_stop {s : List UInt8} {g : Bool} {i : Nat} (h : i < s.length) (hb : isLet g s[i] = false) : s.all (isLet g) = false := by
  cases e : s.all (isLet g)
  · rfl
  · have := List.all_eq_true.1 e s[i] (List.getElem_mem h); rw [this] at hb; cases hb
theorem all_step {s : List UInt8} {g : Bool} {i : Nat} (al : ∀ x ∈ s.take i, isLet g x = true) (h : i < s.length) (hb : isLet g s[i] = true) : ∀ x ∈ s.take (i + 1), isLet g x = true := by
  intro x hx
  rw [List.take_succ_eq_append_getElem h] at hx
  rcases List.mem_append.1 hx with hx | hx
  · exact al x hx
  · simp at hx; rw [hx]; exact hb
theorem cWord (s : List UInt8) (hs : s.length ≤ 9223372036854775807) (g : Bool) (m : Mem) (n : Nat) : ACalls Tryz.prog 94 [S s, Tt g] m n (fun d m' n' => d = Tt (wordOk g s) ∧ m' = m ∧ n' = n) := by
  refine acalls_vc [0, 1, 4, 5, 6, 8, 9, 10, 34] Tryz.func94 Tryz.ntmps94 (by kernel_rfl) rfl rfl (by simp) ?_
  simp -dsimp [S, Tt]
  refine vloop_of (β := Nat) (WordInv s g m n) (fun i => s.length - i) 0 ⟨by simp [S], by simp [Tt], by simp [I], by simp [I], by omega, by simp, rfl, rfl⟩ ?_
  rintro i σ m2 n2 ⟨h0, h1, h8, h9, le, al, rfl, rfl⟩
  by_cases hi : (i : Int) < s.length
  · have hi' : i < s.length := by omega
    have wi : IntKind.i64.wrap ((i : Int) + 1) = (i : Int) + 1 := wrap_i64 (by omega) (by omega)
    simp -dsimp [h0, h1, h8, h9, S, I, Tt, hi, hi']
    refine aCall_of (cIdentSmall s[i] m2 n2) ?_
    rintro d m' n' ⟨rfl, rfl, rfl⟩
    cases a : isSmall s[i]
    case true =>
      simp -dsimp [h0, h1, h8, h9, S, I, Tt, hi, hi', wi]
      exact ⟨i + 1, by omega, by simp [S], by simp [Tt], by simp [I], by simp [I], by omega, all_step al hi' (by simp [isLet, a]), rfl, rfl⟩
    by_cases b : isDigit s[i] = true
    · have b1 : ¬ ((s[i].toNat : Int) < 48) := by simp [isDigit] at b; omega
      have b2 : ¬ (57 < (s[i].toNat : Int)) := by simp [isDigit] at b; omega
      simp -dsimp [h0, h1, h8, h9, S, I, Tt, hi, hi', wi, b1, b2]
      exact ⟨i + 1, by omega, by simp [S], by simp [Tt], by simp [I], by simp [I], by omega, all_step al hi' (by simp [isLet, b]), rfl, rfl⟩
    have bf : isDigit s[i] = false := by simpa using b
    have stop : ∀ q : Bool, isLet g s[i] = false → wordOk g s = false := fun _ e => by simp [wordOk, all_stop hi' e]
    by_cases b1 : (s[i].toNat : Int) < 48
    · simp -dsimp [h0, h1, h8, h9, S, I, Tt, hi, hi', wi, b1]
      cases g
      · simp -dsimp [h0, h1, h8, h9, S, I, Tt, hi, hi', wi, b1, stop true (by simp [isLet, a, bf])]
      · simp -dsimp [h0, h1, h8, h9, S, I, Tt, hi, hi', wi, b1]
        refine aCall_of (cIdentGreat s[i] m' n') ?_
        rintro d m' n' ⟨rfl, rfl, rfl⟩
        cases c : isGreat s[i]
        · simp -dsimp [h0, h1, h8, h9, S, I, Tt, hi, hi', wi, b1, stop true (by simp [isLet, a, bf, c])]
        · simp -dsimp [h0, h1, h8, h9, S, I, Tt, hi, hi', wi, b1]
          exact ⟨i + 1, by omega, by simp [S], by simp [Tt], by simp [I], by simp [I], by omega, all_step al hi' (by simp [isLet, c]), rfl, rfl⟩
    · have b2 : 57 < (s[i].toNat : Int) := by simp [isDigit] at b; omega
      simp -dsimp [h0, h1, h8, h9, S, I, Tt, hi, hi', wi, b1, b2]
      cases g
      · simp -dsimp [h0, h1, h8, h9, S, I, Tt, hi, hi', wi, b1, b2, stop true (by simp [isLet, a, bf])]
      · simp -dsimp [h0, h1, h8, h9, S, I, Tt, hi, hi', wi, b1, b2]
        refine aCall_of (cIdentGreat s[i] m' n') ?_
        rintro d m' n' ⟨rfl, rfl, rfl⟩
        cases c : isGreat s[i]
        · simp -dsimp [h0, h1, h8, h9, S, I, Tt, hi, hi', wi, b1, b2, stop true (by simp [isLet, a, bf, c])]
        · simp -dsimp [h0, h1, h8, h9, S, I, Tt, hi, hi', wi, b1, b2]
          exact ⟨i + 1, by omega, by simp [S], by simp [Tt], by simp [I], by simp [I], by omega, all_step al hi' (by simp [isLet, c]), rfl, rfl⟩
  · have he := all_end (g := g) al (by omega)
    by_cases c : 1 ≤ (s.length : Int)
    · have c' : 1 ≤ s.length := by omega
      simp -dsimp [h0, h1, h8, h9, S, I, Tt, hi, c, wordOk, he, c']; omega
    · have c' : ¬ 1 ≤ s.length := by omega
      simp -dsimp [h0, h1, h8, h9, S, I, Tt, hi, c, wordOk, he, c']
end Go.Proofs.Mv.App
open Go Go.Proofs Go.Proofs.Mv.V
set_option maxRecDepth 10000
namespace Go.Proofs.Mv.App
variable [GI]
structure IdxInv (l : List (List UInt8)) (x : List UInt8) (k : Nat) (m : Mem) (n : Nat) (i : Nat) (σ : Nat → D) (m2 : Mem) (n2 : Nat) : Prop where
  h0 : σ 0 = .own k 0 0 l.length 1
  h1 : σ 1 = S x
  h7 : σ 7 = I l.length
  h8 : σ 8 = I i
  le : i ≤ l.length
  al : x ∉ l.take i
  mm : m2 = m
  nn : n2 = n
theorem notin_step {l : List (List UInt8)} {x : List UInt8} {i : Nat} (h : x ∉ l.take i) (hi : i < l.length) (hne : ¬ x = l[i]) : x ∉ l.take (i + 1) := by
  intro hx
  rw [List.take_succ_eq_append_getElem hi] at hx
  rcases List.mem_append.1 hx with hx | hx
  · exact h hx
  · exact hne (by simpa using hx)
theorem cIndexStr (l : List (List UInt8)) (x : List UInt8) (k : Nat) (m : Mem) (n : Nat) (hl : l.length ≤ 1000000) (hm : m k = some ⟨1, l.map fun s => [S s], 0⟩) :
    ACalls Tryz.prog 178 [.own k 0 0 l.length 1, S x] m n (Hq (fun d m' n' => ∃ r : Int, d = I r ∧ (0 ≤ r ↔ x ∈ l) ∧ m' = m ∧ n' = n) tg) := by
  refine acalls_vc [0, 1, 4, 5, 7, 8, 9, 16] Tryz.func178 Tryz.ntmps178 (by kernel_rfl) rfl rfl (by simp) ?_
  simp -dsimp [S]
  refine vloop_of (β := Nat) (IdxInv l x k m n) (fun i => l.length - i) 0 ⟨by simp, by simp [S], by simp [I], by simp [I], by omega, by simp, rfl, rfl⟩ ?_
  rintro i σ m2 n2 ⟨h0, h1, h7, h8, le, al, rfl, rfl⟩
  by_cases hi : (i : Int) < l.length
  · have hi' : i < l.length := by omega
    have wi : IntKind.i64.wrap ((i : Int) + 1) = (i : Int) + 1 := wrap_i64 (by omega) (by omega)
    by_cases e : x = l[i]
    · have e' : (x == l[i]) = true := by simp [e]
      simp -dsimp [h0, h1, h7, h8, S, I, hi, hi', hm, e']
      exact hq ⟨i, rfl, by rw [e]; simp, rfl, rfl⟩
    · have e' : (x == l[i]) = false := by simp [e]
      simp -dsimp [h0, h1, h7, h8, S, I, hi, hi', hm, e', wi]
      exact ⟨i + 1, by omega, by simp, by simp [S], by simp [I], by simp [I], by omega, notin_step al hi' e, rfl, rfl⟩
  · simp -dsimp [h0, h1, h7, h8, S, I, hi]
    have : i = l.length := by omega
    subst this
    rw [List.take_length] at al
    exact hq ⟨-1, rfl, by simp [al], rfl, rfl⟩
theorem cContainsStr (l : List (List UInt8)) (x : List UInt8) (k : Nat) (m : Mem) (n : Nat) (hl : l.length ≤ 1000000) (hm : m k = some ⟨1, l.map fun s => [S s], 0⟩) :
    ACalls Tryz.prog 125 [.own k 0 0 l.length 1, S x] m n (fun d m' n' => d = Tt (decide (x ∈ l)) ∧ m' = m ∧ n' = n) := by
  refine acalls_vc [0, 1, 4] Tryz.func125 Tryz.ntmps125 (by kernel_rfl) rfl rfl (by simp) ?_
  simp -dsimp [S]
  refine aCall_of (cIndexStr l x k m n hl hm) ?_
  rintro d m' n' ⟨r, rfl, hr, rfl, rfl⟩
  simp -dsimp [I, Tt, hr]
theorem cKey (s : List UInt8) (m : Mem) (n : Nat) : ACalls Tryz.prog 96 [S s] m n (fun d m' n' => d = Tt (decide (s ∈ keyL)) ∧ m' = m ∧ n' = n) := by
  refine acalls_done (R' := Hq (fun d m' n' => d = Tt (decide (s ∈ keyL)) ∧ ∀ j, j < n → m' j = m j) tg) ?_ ?_
  · refine acalls_vc [0, 2] Tryz.func96 Tryz.ntmps96 (by kernel_rfl) rfl rfl (by simp) ?_
    simp -dsimp [S]
    refine aCall_of (R := fun d m' n' => d = .own n 0 0 12 1 ∧ m' = m.set n ⟨1, keyL.map fun s => [S s], 0⟩ ∧ n' = n + 1) ?_ ?_
    · refine acalls_vc [0] Tryz.func126 Tryz.ntmps126 (by kernel_rfl) rfl rfl (by simp) ?_
      simp -dsimp [keyL, S]
      done
    · rintro d m' n' ⟨rfl, rfl, rfl⟩
      simp -dsimp
      refine aCall_of (cContainsStr keyL s n _ _ (by decide) (by simp)) ?_
      rintro d m' n' ⟨rfl, rfl, rfl⟩
      simp -dsimp [Tt]
      exact hq ⟨rfl, fun j hj => set_ne _ _ _ _ (by omega)⟩
  · rintro d m' n' ⟨rfl, hf⟩
    exact ⟨_, (pur_T _).pub, hf, rfl⟩
end Go.Proofs.Mv.App
open Go Go.Proofs Go.Proofs.Mv.V
set_option maxRecDepth 10000
namespace Go.Proofs.Mv.App
variable [GI]
theorem word_cons {g : Bool} {s : List UInt8} (a : wordOk g s = true) : ∃ x r, s = x :: r := by
  cases s
  · simp [wordOk] at a
  · exact ⟨_, _, rfl⟩
theorem word_len {g : Bool} {s : List UInt8} (a : wordOk g s = true) : s.length ≤ 20 := by
  simp only [wordOk, Bool.and_eq_true, decide_eq_true_eq] at a; exact a.2
theorem cSmall (s : List UInt8) (hs : s.length ≤ 9223372036854775807) (m : Mem) (n : Nat) : ACalls Tryz.prog 53 [S s] m n (fun d m' n' => d = Tt (smallN s) ∧ m' = m ∧ n' = n) := by
  refine acalls_vc [0, 2] Tryz.func53 Tryz.ntmps53 (by kernel_rfl) rfl rfl (by simp) ?_
  simp -dsimp [S]
  refine aCall_of (cWord s hs false m n) ?_
  rintro d m' n' ⟨rfl, rfl, rfl⟩
  cases a : wordOk false s
  · simp -dsimp [Tt, smallN, a]
  obtain ⟨x, r, rfl⟩ := word_cons a
  simp -dsimp [Tt, a, S]
  refine aCall_of (cIdentSmall x m' n') ?_
  rintro d m' n' ⟨rfl, rfl, rfl⟩
  cases b : isSmall x
  · simp -dsimp [Tt, smallN, a, b]
  simp -dsimp [Tt, a, b, S]
  refine aCall_of (cKey (x :: r) m' n') ?_
  rintro d m' n' ⟨rfl, rfl, rfl⟩
  simp -dsimp [Tt, smallN, a, b]
theorem cGreat (s : List UInt8) (hs : s.length ≤ 9223372036854775807) (m : Mem) (n : Nat) : ACalls Tryz.prog 57 [S s] m n (fun d m' n' => d = Tt (greatN s) ∧ m' = m ∧ n' = n) := by
  refine acalls_vc [0, 2] Tryz.func57 Tryz.ntmps57 (by kernel_rfl) rfl rfl (by simp) ?_
  simp -dsimp [S]
  refine aCall_of (cWord s hs true m n) ?_
  rintro d m' n' ⟨rfl, rfl, rfl⟩
  cases a : wordOk true s
  · simp -dsimp [Tt, greatN, a]
  obtain ⟨x, r, rfl⟩ := word_cons a
  simp -dsimp [Tt, a, S]
  refine aCall_of (cIdentGreat x m' n') ?_
  rintro d m' n' ⟨rfl, rfl, rfl⟩
  cases b : isGreat x
  · simp -dsimp [Tt, greatN, a, b]
  by_cases e1 : x :: r = [73, 110, 116]
  · simp -dsimp [Tt, greatN, a, b, S, e1]
  by_cases e2 : x :: r = [84, 101, 120, 116]
  · simp -dsimp [Tt, greatN, a, b, S, e2]
  by_cases e3 : x :: r = [66, 111, 111, 108]
  · simp -dsimp [Tt, greatN, a, b, S, e3]
  have f1 : (x :: r == [73, 110, 116]) = false := by simpa using e1
  have f2 : (x :: r == [84, 101, 120, 116]) = false := by simpa using e2
  have f3 : (x :: r == [66, 111, 111, 108]) = false := by simpa using e3
  have hh : (x :: r).head?.any isGreat = true := by simp [b]
  generalize x :: r = s at *
  simp -dsimp [Tt, greatN, a, b, S, e1, e2, e3, f1, f2, f3, hh]
  by_cases q : s = [76, 105, 115, 116] <;> simp [q]
structure LetInv (s : List UInt8) (g : Bool) (m : Mem) (n : Nat) (i : Nat) (σ : Nat → D) (m2 : Mem) (n2 : Nat) : Prop where
  h0 : σ 0 = S s
  h1 : σ 1 = Tt g
  h5 : σ 5 = I i
  le : i ≤ s.length
  al : ∀ x ∈ s.take i, isLet g x = true
  mm : m2 = m
  nn : n2 = n
set_option maxHeartbeats 4000000 in
theorem cRefLetters (s : List UInt8) (g : Bool) (m : Mem) (n : Nat) : ACalls Tryz.prog 74 [S s, Tt g] m n (fun d m' n' => d = Tt (wordOk g s) ∧ m' = m ∧ n' = n) := by
  refine acalls_vc [0, 1, 4, 5, 6, 7, 15, 19, 51] Tryz.func74 Tryz.ntmps74 (by kernel_rfl) rfl rfl (by simp) ?_
  by_cases h1 : (s.length : Int) < 1
  · have : wordOk g s = false := by simp [wordOk]; omega
    simp -dsimp [S, Tt, h1, this]
  by_cases h2 : 20 < (s.length : Int)
  · have : wordOk g s = false := by simp [wordOk]; omega
    simp -dsimp [S, Tt, h1, h2, this]
  simp -dsimp [S, Tt, h1, h2]
  refine vloop_of (β := Nat) (LetInv s g m n) (fun i => s.length - i) 0 ⟨by simp [S], by simp [Tt], by simp [I], by omega, by simp, rfl, rfl⟩ ?_
  rintro i σ m2 n2 ⟨g0, g1, g5, le, al, rfl, rfl⟩
  by_cases hi : (i : Int) < s.length
  · have hi' : i < s.length := by omega
    have wi : IntKind.i64.wrap ((i : Int) + 1) = (i : Int) + 1 := wrap_i64 (by omega) (by omega)
    have go : isLet g s[i] = true → LetInv s g m2 n2 (i + 1) (fun j => if j = 0 then S s else if j = 1 then Tt g else if j = 5 then I ((i : Int) + 1) else .any) m2 n2 := fun h => ⟨by simp, by simp, by simp [I], by omega, all_step al hi' h, rfl, rfl⟩
    have stop : isLet g s[i] = false → wordOk g s = false := fun e => by simp [wordOk, all_stop hi' e]
    have hx := hi'
    generalize hsx : s[i] = x at go stop
    by_cases a : 97 ≤ (x.toNat : Int) <;> by_cases b : (x.toNat : Int) ≤ 122 <;> by_cases c : 48 ≤ (x.toNat : Int) <;> by_cases d : (x.toNat : Int) ≤ 57 <;> by_cases f : 65 ≤ (x.toNat : Int) <;> by_cases h : (x.toNat : Int) ≤ 90
    all_goals first | (exfalso; omega) | skip
    all_goals
      cases g
      all_goals
        simp -dsimp [g0, g1, g5, S, I, Tt, hi, hi', hsx, a, b, c, d, f, h, wi]
        first
        | exact stop (by simp [isLet, isSmall, isDigit, isGreat]; omega)
        | exact ⟨i + 1, by omega, by simp [S], by simp [Tt], by simp [I], by omega, all_step al hi' (by rw [hsx]; simp [isLet, isSmall, isDigit, isGreat]; omega), rfl, rfl⟩
  · have he := all_end (g := g) al (by omega)
    have : wordOk g s = true := by simp [wordOk, he]; omega
    simp -dsimp [g0, g1, g5, S, I, Tt, hi, this]
structure RKeyInv (s : List UInt8) (k : Nat) (m : Mem) (n : Nat) (i : Nat) (σ : Nat → D) (m2 : Mem) (n2 : Nat) : Prop where
  h0 : σ 0 = S s
  h3 : σ 3 = .own k 0 0 12 1
  h4 : σ 4 = I i
  le : i ≤ 12
  al : s ∉ keyL.take i
  mm : m2 = m
  nn : n2 = n
theorem cRefKey (s : List UInt8) (m : Mem) (n : Nat) : ACalls Tryz.prog 75 [S s] m n (fun d m' n' => d = Tt (decide (s ∈ keyL)) ∧ m' = m ∧ n' = n) := by
  refine acalls_done (R' := Hq (fun d m' n' => d = Tt (decide (s ∈ keyL)) ∧ ∀ j, j < n → m' j = m j) tg) ?_ ?_
  · refine acalls_vc [0, 2, 3, 4, 9, 17] Tryz.func75 Tryz.ntmps75 (by kernel_rfl) rfl rfl (by simp) ?_
    simp -dsimp [S]
    have hfr : ∀ o, ∀ j, j < n → (m.set n o) j = m j := fun o j hj => set_ne _ _ _ _ (by omega)
    refine vloop_of (β := Nat) (RKeyInv s n (m.set n ⟨1, keyL.map fun s => [S s], 0⟩) (n + 1)) (fun i => 12 - i) 0 ⟨by simp [S], by simp, by simp [I], by omega, by simp, rfl, rfl⟩ ?_
    rintro i σ m2 n2 ⟨g0, g3, g4, le, al, rfl, rfl⟩
    by_cases hi : (i : Int) < 12
    · have hi' : i < 12 := by omega
      have hl : i < keyL.length := by simp [keyL]; omega
      have wi : IntKind.i64.wrap ((i : Int) + 1) = (i : Int) + 1 := wrap_i64 (by omega) (by omega)
      have hget : (keyL.map fun s => [S s])[i]? = some [S keyL[i]] := by simp [hl]
      have hlen : (keyL.map fun s => [S s]).length = 12 := by simp [keyL]
      generalize hK : (keyL.map fun s => [S s]) = K at hget hlen
      have hKi : i < K.length := by omega
      have hKg : K[i] = [S keyL[i]] := get_opt hget hKi
      by_cases e : keyL[i] = s
      · have e' : (keyL[i] == s) = true := by simp [e]
        simp -dsimp [g0, g3, g4, S, I, hi, hi', e', hKi, hKg, hlen]
        exact hq ⟨by simp [Tt, ← e], hfr _⟩
      · have e' : (keyL[i] == s) = false := by simp [e]
        simp -dsimp [g0, g3, g4, S, I, hi, hi', e', hKi, hKg, hlen, wi]
        exact ⟨i + 1, by omega, by simp [S], by simp, by simp [I], by omega, notin_step al hl (fun h => e h.symm), rfl, rfl⟩
    · simp -dsimp [g0, g3, g4, S, I, hi]
      have : i = 12 := by omega
      subst this
      have : keyL.take 12 = keyL := rfl
      rw [this] at al
      exact hq ⟨by simp [Tt, al], hfr _⟩
  · rintro d m' n' ⟨rfl, hf⟩
    exact ⟨_, (pur_T _).pub, hf, rfl⟩
theorem cRefSmall (s : List UInt8) (m : Mem) (n : Nat) : ACalls Tryz.prog 34 [S s] m n (fun d m' n' => d = Tt (smallN s) ∧ m' = m ∧ n' = n) := by
  refine acalls_vc [0, 2, 3, 4] Tryz.func34 Tryz.ntmps34 (by kernel_rfl) rfl rfl (by simp) ?_
  simp -dsimp [S]
  refine aCall_of (cRefLetters s false m n) ?_
  rintro d m' n' ⟨rfl, rfl, rfl⟩
  simp -dsimp [Tt]
  refine aCall_of (cRefKey s m' n') ?_
  rintro d m' n' ⟨rfl, rfl, rfl⟩
  cases a : wordOk false s
  · simp -dsimp [Tt, smallN, a]
  obtain ⟨x, r, rfl⟩ := word_cons a
  by_cases e : x :: r ∈ keyL
  · simp -dsimp [Tt, smallN, a, S, e]
  have hx : isLet false x = true := by simp only [wordOk, List.all_cons, Bool.and_eq_true] at a; exact a.1.1.1
  by_cases b : 97 ≤ (x.toNat : Int)
  · have : isSmall x = true := by simp [isLet, isSmall, isDigit] at hx ⊢; omega
    simp -dsimp [Tt, smallN, a, S, e, b, this]
  · have : isSmall x = false := by simp [isSmall]; omega
    simp -dsimp [Tt, smallN, a, S, e, b, this]
theorem cRefGreat (s : List UInt8) (m : Mem) (n : Nat) : ACalls Tryz.prog 35 [S s] m n (fun d m' n' => d = Tt (greatN s) ∧ m' = m ∧ n' = n) := by
  refine acalls_vc [0, 2, 3] Tryz.func35 Tryz.ntmps35 (by kernel_rfl) rfl rfl (by simp) ?_
  simp -dsimp [S]
  refine aCall_of (cRefLetters s true m n) ?_
  rintro d m' n' ⟨rfl, rfl, rfl⟩
  cases a : wordOk true s
  · simp -dsimp [Tt, greatN, a]
  obtain ⟨x, r, rfl⟩ := word_cons a
  by_cases b : 65 ≤ (x.toNat : Int)
  case neg =>
    have : isGreat x = false := by simp [isGreat]; omega
    simp -dsimp [Tt, greatN, a, S, b, this]
  by_cases c : (x.toNat : Int) ≤ 90
  case neg =>
    have : isGreat x = false := by simp [isGreat]; omega
    simp -dsimp [Tt, greatN, a, S, b, c, this]
  have g : isGreat x = true := by simp [isGreat]; omega
  have hh : (x :: r).head?.any isGreat = true := by simp [g]
  have hz : (x :: r).length = r.length + 1 := rfl
  by_cases e1 : x :: r = [73, 110, 116]
  · simp -dsimp [Tt, greatN, a, S, b, c, e1]
  by_cases e2 : x :: r = [84, 101, 120, 116]
  · simp -dsimp [Tt, greatN, a, S, b, c, e2]
  by_cases e3 : x :: r = [66, 111, 111, 108]
  · simp -dsimp [Tt, greatN, a, S, b, c, e3]
  have f1 : (x :: r == [73, 110, 116]) = false := by simpa using e1
  have f2 : (x :: r == [84, 101, 120, 116]) = false := by simpa using e2
  have f3 : (x :: r == [66, 111, 111, 108]) = false := by simpa using e3
  have hx : (x :: r)[0]? = some x := rfl
  simp -dsimp [Tt, greatN, a, S, b, c, f1, f2, f3, g, e1, e2, e3]
  by_cases p : x = 76 <;> by_cases q : r = [105, 115, 116] <;> simp [p, q]
end Go.Proofs.Mv.App
