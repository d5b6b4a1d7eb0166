/- A part of the proofs of the seat Ytkadkgbfdejjkaa: the abstract machine, the contracts of the functions, the laws. No condition of its own. -/
import Derived.Test.YtkadkgbfdejjkaaLaw1
set_option linter.unusedSimpArgs false
set_option linter.unusedVariables false
/- Layer 16: the second law. -/
open Go Go.Proofs Go.Proofs.Mv.V
set_option maxRecDepth 10000
set_option linter.unusedSimpArgs false
set_option linter.unusedVariables false
namespace Go.Proofs.Mv.App
theorem cSame16O (a b : List (List UInt8)) (k g : Nat) (es' : List (List D)) (ha : a.length ≤ 1000000000) (m : Mem) (n : Nat) (hm : m k = some ⟨1, es', g⟩) (hl : b.length ≤ es'.length) (he' : es'.take b.length = b.map fun s => [S s]) : ACalls Try.prog 14 [sl2 a, .own k g 0 b.length 1] m n (Hq (fun d m' n' => d = Tt (decide (a = b)) ∧ m' = m ∧ n' = n) tg) := by
  refine acalls_vc [0, 1, 4, 5, 10, 14, 26] Try.func14 Try.ntmps14 (by kernel_rfl) rfl rfl (by simp) ?_
  simp -dsimp [sl2]
  refine cnd_intro (fun h => ?_) (fun h => ?_)
  · simp at h
    simp -dsimp
    exact hq ⟨by have : a ≠ b := by intro e; subst e; omega
                 simp [Tt, this], rfl, rfl⟩
  · simp at h
    simp -dsimp
    have hlen : a.length = b.length := by omega
    refine vloop_of (β := Nat) (fun i σ m2 n2 => i ≤ a.length ∧ σ 0 = sl2 a ∧ σ 1 = .own k g 0 b.length 1 ∧ σ 5 = I i ∧ m2 = m ∧ n2 = n ∧ a.take i = b.take i) (fun i => a.length - i) 0 (by simp [sl2, I]) ?_
    rintro i σ m2 n2 ⟨hi, h0, h1, h5, rfl, rfl, he⟩
    simp -dsimp [h0, h1, h5, sl2, I]
    refine cnd_intro (fun h => ?_) (fun h => ?_)
    · simp at h
      have hb : i < b.length := by omega
      have hes : i < es'.length := by omega
      have h5 : es'[i] = [S b[i]] := by
        have e2 : (es'.take b.length)[i]? = (b.map fun s => [S s])[i]? := by rw [he']
        simpa [hb, hes] using e2
      simp -dsimp
      refine vdraw_of [0, 0, 3, 7, 15, 0, 0, 96, 224, 511] [0, 1, 2, 3, 4, 5, 6, 7, 8, 9] (by kernel_rfl) (by kernel_rfl) ?_
      simp -dsimp [h, hb, hes, hm, h5, B, S]
      refine cnd_intro (fun hc => ?_) (fun hc => ?_)
      · simp at hc
        simp -dsimp
        exact hq ⟨by have : a ≠ b := by intro e; subst e; exact hc rfl
                     simp [Tt, this], rfl, rfl⟩
      · simp at hc
        simp -dsimp
        refine ⟨i + 1, by omega, by omega, by simp [sl2, B], ?_, ?_⟩
        · rw [wrap_i64 (by omega) (by omega)]; rfl
        · rw [List.take_succ_eq_append_getElem h, List.take_succ_eq_append_getElem hb, he, hc]
    · simp at h
      simp -dsimp
      have hia : i = a.length := by omega
      subst hia
      rw [List.take_of_length_le (by omega), List.take_of_length_le (by omega)] at he
      exact hq ⟨by simp [Tt, he], rfl, rfl⟩
theorem cSame16R (a b : List (List UInt8)) (x : D) (ha : a.length ≤ 1000000000) (hal : ∀ r ∈ a, r.length ≤ 1000000000) (m : Mem) (n : Nat) (hx : Lst m 1 (b.map fun s => [S s]) x) : ACalls Try.prog 14 [sl2 a, x] m n (Hq (fun d m' n' => d = Tt (decide (a = b)) ∧ m' = m ∧ n' = n) tg) := by
  rcases hx with ⟨hnil, rfl | rfl⟩ | ⟨k, g, es', rfl, h1, h2, h3⟩
  · obtain rfl : b = [] := by simpa using hnil
    exact acalls_le (.cons (Le.refl _) (.cons (Le_nil 1) .nil)) (cSame16 a [] ha hal m n)
  · obtain rfl : b = [] := by simpa using hnil
    exact acalls_le (.cons (Le.refl _) (.cons (Le_mt 1) .nil)) (cSame16 a [] ha hal m n)
  · rw [List.length_map] at h2 h3 ⊢
    exact cSame16O a b k g es' ha m n h1 h2 h3
/-! plain -/
theorem recs_app : ∀ (l : List (List UInt8)) (t : List UInt8), (∀ r ∈ l, 1 ≤ r.length ∧ r.length ≤ 65536) → recs (frames l ++ t) = l ++ recs t := by
  intro l t
  induction l with
  | nil => intro _; rfl
  | cons r l ih =>
    intro h
    obtain ⟨h1, h2⟩ := h r (by simp)
    have e : frames (r :: l) ++ t = frameR r ++ (frames l ++ t) := by simp [frames]
    have hf : firstR (frames (r :: l) ++ t) = r := by rw [e]; exact firstR_frame _ _ h1 h2
    have hne : firstR (frames (r :: l) ++ t) ≠ [] := by rw [hf]; intro e; rw [e] at h1; simp at h1
    rw [recs_some hne, hf, e, List.drop_append, List.drop_eq_nil_of_le (by rw [frame_len]; omega), frame_len, Nat.sub_self, List.nil_append, List.drop_zero, ih (fun x hx => h x (by simp [hx]))]
    rfl
theorem recs_torn (r : List UInt8) (k : Nat) (h1 : 1 ≤ r.length) (h2 : r.length ≤ 65536) (hk : k < r.length + 3) : recs ((frameR r).take k) = [] := by
  apply recs_none
  rcases k with _ | _ | k
  · rfl
  · rfl
  · simp only [frameR, List.take_succ_cons, firstR, recN_frame _ h1 h2]
    rw [if_pos (.inl (by simp; omega))]
theorem recs_full (r : List UInt8) (h1 : 1 ≤ r.length) (h2 : r.length ≤ 65536) : recs (frameR r) = [r] := by
  have := recs_app [r] [] (by simpa using ⟨h1, h2⟩)
  simpa [frames, recs_nil] using this
structure KInv (l : List (List UInt8)) (r : List UInt8) (q : Int) (n : Nat) (m : Mem) (ks : Nat) (i : Nat) (σ : Nat → D) (m2 : Mem) (n2 : Nat) : Prop where
  hi : i ≤ l.length
  h0 : σ 0 = sl2 l
  h1 : σ 1 = B r
  h2 : σ 2 = .v (.int .i64 q)
  h7 : σ 7 = .v (.bool true)
  h8 : σ 8 = .ptr ks 0 0 0
  h11 : σ 11 = .v (.int .i64 i)
  ex : ∃ rl db da, Sh m2 n2 ks 1048576 (frames rl) rl db da ∧ rl.length ≤ i ∧ (frames rl).length ≤ 2003 * i ∧ (∀ r ∈ rl, 1 ≤ r.length ∧ r.length ≤ 65536) ∧ (∀ k, kof db = some k → n ≤ k) ∧ (∀ k, kof da = some k → n ≤ k) ∧ n ≤ ks ∧ (∀ j, j < n → m2 j = m j) ∧
    Lst m2 1 (rl.map fun s => [S s]) (σ 10) ∧ (∀ k, kof (σ 10) = some k → n ≤ k ∧ k < n2 ∧ k ≠ ks ∧ kof db ≠ some k ∧ kof da ≠ some k)
set_option maxHeartbeats 4000000 in
theorem cShelfKeeps (l : List (List UInt8)) (r : List UInt8) (q : Int) (m : Mem) (n : Nat) : ACalls Try.prog 4 [sl2 l, B r, .v (.int .i64 q)] m n (fun d m' n' => d = Tt true ∧ m' = m ∧ n' = n) := by
  refine acalls_done (R' := Hq (fun d m' n' => d = Tt true ∧ ∀ j, j < n → m' j = m j) tg) ?_ ?_
  · refine acalls_vc [0, 1, 2, 6, 7, 8, 9, 10, 11, 12, 13, 14, 15, 16, 17, 18, 27, 38, 42, 50, 66, 68, 97, 113, 140] Try.func4 Try.ntmps4 (by kernel_rfl) rfl rfl (by simp) ?_
    simp -dsimp
    refine aCall_of (cUp16 _ _) ?_
    rintro d m' n' ⟨rfl, rfl, rfl⟩
    simp -dsimp [B, sl2, Tt]
    by_cases a1 : (30 : Int) < (l.length : Int)
    · simp -dsimp [a1]
      exact hq ⟨rfl, fun _ _ => rfl⟩
    by_cases a2 : (2000 : Int) < (r.length : Int)
    · simp -dsimp [a1, a2]
      exact hq ⟨rfl, fun _ _ => rfl⟩
    simp -dsimp [a1, a2]
    refine aCall_of (rNew 1048576 _ _) ?_
    intro d m1 n1 h
    obtain ⟨ks, db, da, rfl, hS, k1, k2, k3, k4, k5⟩ := open_ok h (by simp)
    rw [recs_nil] at hS
    simp -dsimp [nilE]
    refine vloop_of (β := Nat) (KInv l r q n' m' ks) (fun i => l.length - i) 0 ⟨Nat.zero_le _, rfl, rfl, rfl, rfl, rfl, rfl, [], db, da, hS, by simp, by simp [frames], by simp, k2, k3, k1, k5, .nil, by intro k hk; cases hk⟩ ?_
    rintro i σ m3 n3 ⟨hi, h0, h1, h2, h7, h8, h11, rl, db, da, hL, x1, x2, x3, x4, x5, x6, x7, x8, x9⟩
    have hks := hL.ks
    simp -dsimp [h0, h1, h2, h7, h8, h11, sl2]
    refine cnd_intro (fun hc => ?_) (fun hc => ?_)
    · simp at hc
      by_cases z1 : (2000 : Int) < (l[i].length : Int)
      · simp -dsimp [hc, B, z1]
        exact hq ⟨rfl, x7⟩
      simp -dsimp [hc, B, z1]
      refine aCall_of (rAppend ks 1048576 (frames rl) rl db da l[i] m3 n3 hL (by omega) (by omega) (by omega) (by omega)) ?_
      rintro d m4 n4 ⟨rfl, u1, db6, da6, hS6, u2, u3, u4⟩
      by_cases z2 : l[i].length = 0
      · have e : appCode 1048576 (frames rl).length l[i] = 1 := by rw [appCode, if_pos (.inl (by omega))]
        rw [e] at hS6
        simp only [if_neg (by decide : ¬ (1 : Int) = 0)] at hS6
        simp -dsimp [e, errD, code]
        refine vdraw_of [0, 1, 0, 0, 12, 28, 60, 124, 255] [0, 1, 2, 3, 4, 5, 6, 7, 8] (by kernel_rfl) (by kernel_rfl) ?_
        simp -dsimp [hc, B, z2]
        refine ⟨i + 1, by omega, ⟨by omega, rfl, rfl, rfl, rfl, rfl, by show D.v (.int .i64 (IntKind.i64.wrap ((i : Int) + 1))) = _; rw [wrap_i64 (by omega) (by omega)]; rfl, rl, db6, da6, hS6, by omega, by omega, x3, fun k hk => ?_, fun k hk => ?_, x6, fun j hj => ?_, x8.frame fun k hk => ?_, fun k hk => ?_⟩⟩
        · rcases u2 k hk with h | h
          · exact x4 k h
          · omega
        · rcases u3 k hk with h | h
          · exact x5 k h
          · omega
        · rw [u4 j (by omega) (by omega) (fun h => by have := x4 j h; omega) (fun h => by have := x5 j h; omega), x7 j hj]
        · obtain ⟨y1, y2, y3, y4, y5⟩ := x9 k hk
          exact u4 k (by omega) y3 y4 y5
        · obtain ⟨y1, y2, y3, y4, y5⟩ := x9 k hk
          refine ⟨y1, by omega, y3, fun h => ?_, fun h => ?_⟩
          · rcases u2 k h with h | h
            · exact y4 h
            · omega
          · rcases u3 k h with h | h
            · exact y5 h
            · omega
      · have e : appCode 1048576 (frames rl).length l[i] = 0 := by rw [appCode, if_neg (by omega), if_neg (by omega)]
        rw [e] at hS6
        simp only [if_true] at hS6
        have z3 : 0 < l[i].length := by omega
        simp -dsimp [e, errD, nilE]
        refine vdraw_of [0, 1, 0, 0, 12, 28, 60, 124, 255] [0, 1, 2, 3, 4, 5, 6, 7, 8] (by kernel_rfl) (by kernel_rfl) ?_
        simp -dsimp [hc, B, z3]
        refine b4_append (x8.frame fun k hk => ?_) (fun k hk => ?_) (by trivial) (by trivial) (by omega) (by simp; omega) ?_
        · obtain ⟨y1, y2, y3, y4, y5⟩ := x9 k hk
          rw [set_ne _ _ _ _ (by omega)]
          exact u4 k (by omega) y3 y4 y5
        · have := x9 k hk; omega
        intro d7 m7 n7 p1 p2 p3 p4
        simp -dsimp
        refine ⟨i + 1, by omega, ⟨by omega, rfl, rfl, rfl, rfl, rfl, by show D.v (.int .i64 (IntKind.i64.wrap ((i : Int) + 1))) = _; rw [wrap_i64 (by omega) (by omega)]; rfl, rl ++ [l[i]], db6, da6, ?_, by simp; omega, ?_, ?_, fun k hk => ?_, fun k hk => ?_, x6, fun j hj => ?_, p1.map_eq (by simp [S]), fun k hk => ?_⟩⟩
        · rw [frames_snoc]
          have kn10 : ∀ j, j < n4 → (j = ks ∨ kof db6 = some j ∨ kof da6 = some j) → kof (σ 10) ≠ some j := fun j hj hh e => by
            obtain ⟨y1, y2, y3, y4, y5⟩ := x9 j e
            rcases hh with h | h | h
            · exact y3 h
            · rcases u2 j h with h | h
              · exact y4 h
              · omega
            · rcases u3 j h with h | h
              · exact y5 h
              · omega
          refine hS6.frame (by omega) (fun j hj => ?_)
          have hjn : j < n4 := by rcases hj with rfl | h | h; exact hS6.ks; exact (hS6.kb j h).1; exact (hS6.ka j h).1
          rw [p4 j (by omega) (kn10 j hjn hj), set_ne _ _ _ _ (by omega)]
        · rw [frames_snoc, List.length_append, frame_len]; omega
        · intro z hz
          rcases List.mem_append.1 hz with hz | hz
          · exact x3 z hz
          · simp at hz; subst hz; omega
        · rcases u2 k hk with h | h
          · exact x4 k h
          · omega
        · rcases u3 k hk with h | h
          · exact x5 k h
          · omega
        · rw [p4 j (by omega) (fun h => by have := x9 j h; omega), set_ne _ _ _ _ (by omega), u4 j (by omega) (by omega) (fun h => by have := x4 j h; omega) (fun h => by have := x5 j h; omega), x7 j hj]
        · have hp := p3 k hk
          rcases hp.2 with h | h
          · obtain ⟨y1, y2, y3, y4, y5⟩ := x9 k h
            refine ⟨y1, by omega, y3, fun h => ?_, fun h => ?_⟩
            · rcases u2 k h with h | h
              · exact y4 h
              · omega
            · rcases u3 k h with h | h
              · exact y5 h
              · omega
          · have := hS6.ks
            exact ⟨by omega, by omega, by omega, fun h' => by have := hS6.kb k h'; omega, fun h' => by have := hS6.ka k h'; omega⟩
    · simp at hc
      simp -dsimp
      refine aCall_of (cTorn ks 1048576 (frames rl) rl db da r q m3 n3 hL (by omega) (by omega) (by omega)) ?_
      rintro d m4 n4 ⟨rfl, rfl, rfl⟩
      by_cases z1 : r.length = 0
      · have e : appCode 1048576 (frames rl).length r = 1 := by rw [appCode, if_pos (.inl (by omega))]
        simp -dsimp [e, code, B, z1]
        exact hq ⟨rfl, x7⟩
      have e : appCode 1048576 (frames rl).length r = 0 := by rw [appCode, if_neg (by omega), if_neg (by omega)]
      have w1 : IntKind.i64.wrap ((r.length : Int) + 3) = r.length + 3 := wrap_i64 (by omega) (by omega)
      have z1' : ((r.length : Int) == 0) = false := by rw [beq_eq_false_iff_ne]; omega
      by_cases z2 : q < 0
      · simp -dsimp [e, code, B, z1, z1', z2, w1]
        exact hq ⟨rfl, x7⟩
      by_cases z3 : (r.length : Int) + 3 < q
      · simp -dsimp [e, code, B, z1, z1', z2, z3, w1]
        exact hq ⟨rfl, x7⟩
      have hbl : (frames rl ++ (frameR r).take q.toNat).length ≤ 70000 := by
        rw [List.length_append, List.length_take, frame_len]; omega
      by_cases z4 : q = (r.length : Int) + 3
      · subst z4
        have zq : ((r.length : Int) + 3).toNat = r.length + 3 := by omega
        simp -dsimp [e, code, z1, z1', z2, z3, w1, nilE, B]
        refine b4_append (x8.frame fun k hk => ?_) (fun k hk => ?_) (by trivial) (by trivial) (by omega) (by simp; omega) ?_
        · have := x9 k hk; rw [set_ne _ _ _ _ (by omega)]
        · have := x9 k hk; omega
        intro d7 m5 n5 p1 p2 p3 p4
        simp -dsimp
        have hrb : recs (frames (rl ++ [r])) = rl ++ [r] := recs_frames _ (fun z hz => by
          rcases List.mem_append.1 hz with hz | hz
          · exact x3 z hz
          · simp at hz; subst hz; omega)
        have w3 : ∀ z ∈ rl ++ [r], 1 ≤ z.length ∧ z.length ≤ 65536 := fun z hz => by
          rcases List.mem_append.1 hz with hz | hz
          · exact x3 z hz
          · simp at hz; subst hz; omega
        have hbl2 : (frames (rl ++ [r])).length ≤ 70000 := by rw [frames_snoc, List.length_append, frame_len]; omega
        have W : Lst m5 1 ((rl ++ [r]).map fun s => [S s]) d7 := p1.map_eq (by simp [S])
        have wk : ∀ k, kof d7 = some k → n' ≤ k ∧ k < n5 := fun k hk => by
          have := p3 k hk
          rcases this.2 with h | h
          · have := x9 k h; omega
          · omega
        have wf : ∀ j, j < n' → m5 j = m' j := fun j hj => by rw [p4 j (by omega) (fun h => by have := x9 j h; omega), set_ne _ _ _ _ (by omega), x7 j hj]
        have tk : List.take ((r.length : Int) + 3).toNat (frameR r) = frameR r := by rw [zq, ← frame_len r, List.take_length]
        rw [show D.sl 1 (List.map bEnc (frames rl) ++ List.take ((r.length : Int) + 3).toNat (List.map bEnc (frameR r))) = B (frames (rl ++ [r])) from by rw [← List.map_take, tk, frames_snoc]; simp [B]]
        refine aCall_of (rOpen (frames (rl ++ [r])) 1048576 _ _ (by omega)) ?_
        intro d m6 n6 g
        obtain ⟨kx, dbx, dax, rfl, hX, v1, v2, v3, v4, v5⟩ := open_ok g (by omega)
        rw [hrb] at hX
        simp -dsimp [nilE]
        refine aCall_of (cRecords kx 1048576 _ (rl ++ [r]) dbx dax _ _ hX (by simp; omega) (fun z hz => by have := w3 z hz; omega)) ?_
        rintro d m7 n7 ⟨rfl, rfl, rfl⟩
        simp -dsimp
        refine aCall_of (cSame16R (rl ++ [r]) (rl ++ [r]) _ (by simp; omega) (fun z hz => by have := w3 z hz; omega) _ _ (W.frame fun k hk => ?_)) ?_
        · exact v5 k (wk k hk).2
        rintro d m7 n7 ⟨rfl, rfl, rfl⟩
        simp -dsimp [Tt]
        refine aCall_of (cBytes kx 1048576 _ (rl ++ [r]) dbx dax _ _ hX (by omega)) ?_
        rintro d m7 n7 ⟨rfl, rfl, rfl⟩
        simp -dsimp
        refine aCall_of (rOpen (frames (rl ++ [r])) 1048576 _ _ (by omega)) ?_
        intro d m8 n8 g'
        obtain ⟨ky, dby, day, rfl, hY, t1, t2, t3, t4, t5⟩ := open_ok g' (by omega)
        rw [recs_frames _ w3] at hY
        simp -dsimp [nilE]
        have hX8 : Sh m8 n8 kx 1048576 (frames (rl ++ [r])) (rl ++ [r]) dbx dax := hX.frame t4 (fun j hj => t5 j (by rcases hj with rfl | h | h; exact hX.ks; exact (hX.kb j h).1; exact (hX.ka j h).1))
        refine vdraw_of [0, 1, 3, 7, 15, 31, 63, 127, 255, 511, 1023, 2047, 4095, 1023, 12287, 28671, 65535, 131071, 262143, 524287, 1048575, 524287, 4194303, 8388607, 16777215] [0, 1, 2, 3, 4, 5, 6, 7, 8, 9, 10, 13, 11, 12, 14, 15, 16, 17, 18, 19, 21, 20, 22, 23, 24] (by kernel_rfl) (by kernel_rfl) ?_
        simp -dsimp
        refine aCall_of (cBytes ky 1048576 _ (rl ++ [r]) dby day _ _ hY (by omega)) ?_
        rintro d m9 n9 ⟨rfl, rfl, rfl⟩
        simp -dsimp [B]
        refine aCall_of (cBytes kx 1048576 _ (rl ++ [r]) dbx dax _ _ hX8 (by omega)) ?_
        rintro d m9 n9 ⟨rfl, rfl, rfl⟩
        simp -dsimp [B]
        refine aCall_of (cRecords ky 1048576 _ (rl ++ [r]) dby day _ _ hY (by simp; omega) (fun z hz => by have := w3 z hz; omega)) ?_
        rintro d m9 n9 ⟨rfl, rfl, rfl⟩
        simp -dsimp
        refine aCall_of (cSame16R (rl ++ [r]) (rl ++ [r]) _ (by simp; omega) (fun z hz => by have := w3 z hz; omega) _ _ (W.frame fun k hk => ?_)) ?_
        · rw [t5 k (by have := (wk k hk).2; omega), v5 k (wk k hk).2]
        rintro d m9 n9 ⟨rfl, rfl, rfl⟩
        simp -dsimp [Tt]
        exact hq ⟨rfl, fun j hj => by rw [t5 j (by omega), v5 j (by omega), wf j hj]⟩
      · have z4' : (q == (r.length : Int) + 3) = false := by rw [beq_eq_false_iff_ne]; exact z4
        simp -dsimp [e, code, z1, z1', z2, z3, z4', w1, nilE, B]
        have hrb : recs (frames rl ++ (frameR r).take q.toNat) = rl := by
          rw [recs_app _ _ x3, recs_torn r q.toNat (by omega) (by omega) (by omega)]; simp
        have w3 := x3
        have W := x8
        have wk : ∀ k, kof (σ 10) = some k → n' ≤ k ∧ k < n4 := fun k hk => ⟨(x9 k hk).1, (x9 k hk).2.1⟩
        have wf := x7
        rw [show D.sl 1 (List.map bEnc (frames rl) ++ List.take q.toNat (List.map bEnc (frameR r))) = B (frames rl ++ List.take q.toNat (frameR r)) from by simp [B]]
        refine aCall_of (rOpen (frames rl ++ List.take q.toNat (frameR r)) 1048576 _ _ (by omega)) ?_
        intro d m6 n6 g
        obtain ⟨kx, dbx, dax, rfl, hX, v1, v2, v3, v4, v5⟩ := open_ok g (by omega)
        rw [hrb] at hX
        simp -dsimp [nilE]
        refine aCall_of (cRecords kx 1048576 _ rl dbx dax _ _ hX (by omega) (fun z hz => by have := w3 z hz; omega)) ?_
        rintro d m7 n7 ⟨rfl, rfl, rfl⟩
        simp -dsimp
        refine aCall_of (cSame16R rl rl _ (by omega) (fun z hz => by have := w3 z hz; omega) _ _ (W.frame fun k hk => ?_)) ?_
        · exact v5 k (wk k hk).2
        rintro d m7 n7 ⟨rfl, rfl, rfl⟩
        simp -dsimp [Tt]
        refine aCall_of (cBytes kx 1048576 _ rl dbx dax _ _ hX (by omega)) ?_
        rintro d m7 n7 ⟨rfl, rfl, rfl⟩
        simp -dsimp
        refine aCall_of (rOpen (frames rl) 1048576 _ _ (by omega)) ?_
        intro d m8 n8 g'
        obtain ⟨ky, dby, day, rfl, hY, t1, t2, t3, t4, t5⟩ := open_ok g' (by omega)
        rw [recs_frames _ w3] at hY
        simp -dsimp [nilE]
        have hX8 : Sh m8 n8 kx 1048576 (frames rl) rl dbx dax := hX.frame t4 (fun j hj => t5 j (by rcases hj with rfl | h | h; exact hX.ks; exact (hX.kb j h).1; exact (hX.ka j h).1))
        refine vdraw_of [0, 1, 3, 7, 15, 31, 63, 127, 255, 511, 1023, 2047, 4095, 1023, 12287, 28671, 65535, 131071, 262143, 524287, 1048575, 524287, 4194303, 8388607, 16777215] [0, 1, 2, 3, 4, 5, 6, 7, 8, 9, 10, 13, 11, 12, 14, 15, 16, 17, 18, 19, 21, 20, 22, 23, 24] (by kernel_rfl) (by kernel_rfl) ?_
        simp -dsimp
        refine aCall_of (cBytes ky 1048576 _ rl dby day _ _ hY (by omega)) ?_
        rintro d m9 n9 ⟨rfl, rfl, rfl⟩
        simp -dsimp [B]
        refine aCall_of (cBytes kx 1048576 _ rl dbx dax _ _ hX8 (by omega)) ?_
        rintro d m9 n9 ⟨rfl, rfl, rfl⟩
        simp -dsimp [B]
        refine aCall_of (cRecords ky 1048576 _ rl dby day _ _ hY (by omega) (fun z hz => by have := w3 z hz; omega)) ?_
        rintro d m9 n9 ⟨rfl, rfl, rfl⟩
        simp -dsimp
        refine aCall_of (cSame16R rl rl _ (by omega) (fun z hz => by have := w3 z hz; omega) _ _ (W.frame fun k hk => ?_)) ?_
        · rw [t5 k (by have := (wk k hk).2; omega), v5 k (wk k hk).2]
        rintro d m9 n9 ⟨rfl, rfl, rfl⟩
        simp -dsimp [Tt]
        exact hq ⟨rfl, fun j hj => by rw [t5 j (by omega), v5 j (by omega), wf j hj]⟩
  · rintro d m' n' ⟨rfl, hf⟩
    exact ⟨_, (pur_T _).pub, hf, rfl⟩
end Go.Proofs.Mv.App
