/- A part of the proofs of the seat Ytkadkgbfdejjkaa: the abstract machine, the contracts of the functions, the laws. No condition of its own. -/
import Derived.Test.YtkadkgbfdejjkaaCon
set_option linter.unusedSimpArgs false
set_option linter.unusedVariables false
/- Layer 16: the laws. -/
open Go Go.Proofs Go.Proofs.Mv.V
set_option maxRecDepth 10000
set_option linter.unusedSimpArgs false
set_option linter.unusedVariables false
namespace Go.Proofs.Mv.App
theorem open_ok {b : List UInt8} {most : Int} {m m' : Mem} {n n' : Nat} {d : D} (h : OpenQ b most m n d m' n') (hc : ¬ (most < 1 ∨ 1048576 < most ∨ most < b.length)) : ∃ ks db da, d = .tup [.ptr ks 0 0 0, nilE] ∧ Sh m' n' ks most (frames (recs b)) (recs b) db da ∧ n ≤ ks ∧ (∀ k, kof db = some k → n ≤ k) ∧ (∀ k, kof da = some k → n ≤ k) ∧ n ≤ n' ∧ ∀ j, j < n → m' j = m j := by
  obtain ⟨h1, h2, h3⟩ := h
  rw [if_neg hc] at h1
  obtain ⟨ks, db, da, e, a, b, c, f⟩ := h1
  exact ⟨ks, db, da, e, a, b, c, f, h2, h3⟩
theorem open_no {b : List UInt8} {most : Int} {m m' : Mem} {n n' : Nat} {d : D} (h : OpenQ b most m n d m' n') (hc : most < 1 ∨ 1048576 < most ∨ most < b.length) : d = .tup [.v (.pointer none), code 1] ∧ n ≤ n' ∧ ∀ j, j < n → m' j = m j := by
  obtain ⟨h1, h2, h3⟩ := h
  rw [if_pos hc] at h1
  exact ⟨h1, h2, h3⟩
theorem recs_nil : recs [] = [] := rfl
set_option maxHeartbeats 1000000 in
theorem cUp16 (m : Mem) (n : Nat) : ACalls Try.prog 5 [] m n (fun d m' n' => d = Tt true ∧ m' = m ∧ n' = n) := by
  refine acalls_done (R' := Hq (fun d m' n' => d = Tt true ∧ ∀ j, j < n → m' j = m j) tg) ?_ ?_
  · refine acalls_vc [0, 1, 2, 3, 4, 6, 16] Try.func5 Try.ntmps5 (by kernel_rfl) rfl rfl (by simp) ?_
    simp -dsimp
    refine aCall_of (rNew 9 _ _) ?_
    intro d m1 n1 h
    obtain ⟨ks, db, da, rfl, hS, k1, k2, k3, k4, k5⟩ := open_ok h (by simp)
    rw [recs_nil] at hS
    simp -dsimp [nilE]
    have e0 : appCode 9 (frames []).length [97] = 0 := by decide
    have e1 : appCode 9 (frames [[97]]).length [49, 50, 51] = 8 := by decide
    have hks := hS.ks
    have q0 : ks ≠ n1 := by omega
    refine aCall_pub n1 ⟨1, [[.v (.int .u8 97)]], 0⟩ 1 (by simp) fun β => ?_
    simp -dsimp [q0, one_ne]
    rw [show D.sl 1 [[D.v (Value.int .u8 97)]] = B [97] from rfl]
    have hS1 : Sh ((m1.set n1 ⟨1, [[D.v (Value.int .u8 97)]], 0⟩).del n1) (n1 + 1) ks 9 (frames []) [] db da := hS.frame (by omega) (fun j hj => by
      have : j < n1 := by rcases hj with rfl | h | h; exact hks; exact (hS.kb j h).1; exact (hS.ka j h).1
      rw [del_ne _ _ _ (by omega), set_ne _ _ _ _ (by omega)])
    refine aCall_of (rAppend ks 9 (frames []) [] db da [97] _ _ hS1 (by simp [frames]) (by simp) (by simp) (by omega)) ?_
    rintro d m2 n2 ⟨rfl, a1, db2, da2, hS2, a2, a3, a4⟩
    rw [e0] at hS2
    simp only [if_true] at hS2
    have e5 : frames [] ++ frameR [97] = [0, 0, 97, 46] := by decide
    rw [e5] at hS2
    simp -dsimp [e0, errD, nilE]
    have hks2 := hS2.ks
    have q1 : ks ≠ n2 := by omega
    refine aCall_pub n2 ⟨1, [[.v (.int .u8 49)], [.v (.int .u8 50)], [.v (.int .u8 51)]], 0⟩ 1 (by simp) fun β => ?_
    simp -dsimp [q1, one_ne]
    rw [show D.sl 1 [[D.v (Value.int .u8 49)], [.v (.int .u8 50)], [.v (.int .u8 51)]] = B [49, 50, 51] from rfl]
    have hS3 : Sh ((m2.set n2 ⟨1, [[D.v (Value.int .u8 49)], [.v (.int .u8 50)], [.v (.int .u8 51)]], 0⟩).del n2) (n2 + 1) ks 9 [0, 0, 97, 46] ([] ++ [[97]]) db2 da2 := hS2.frame (by omega) (fun j hj => by
      have : j < n2 := by rcases hj with rfl | h | h; exact hks2; exact (hS2.kb j h).1; exact (hS2.ka j h).1
      rw [del_ne _ _ _ (by omega), set_ne _ _ _ _ (by omega)])
    have e1' : appCode 9 4 [49, 50, 51] = 8 := by decide
    refine aCall_of (rAppend ks 9 [0, 0, 97, 46] ([] ++ [[97]]) db2 da2 [49, 50, 51] _ _ hS3 (by decide) (by simp) (by simp) (by omega)) ?_
    rintro d m3 n3 ⟨rfl, b1, db3, da3, hS4, b2, b3, b4⟩
    simp only [List.length_cons, List.length_nil, Nat.zero_add, Nat.reduceAdd, e1'] at hS4
    simp only [if_neg (by decide : ¬ (8 : Int) = 0)] at hS4
    simp -dsimp [e1', errD, code]
    refine aCall_of (rNew 0 _ _) ?_
    intro d m4 n4 h4
    obtain ⟨rfl, c1, c2⟩ := open_no h4 (by simp)
    simp -dsimp [code]
    have hS5 : Sh m4 n4 ks 9 [0, 0, 97, 46] ([] ++ [[97]]) db3 da3 := hS4.frame c1 (fun j hj => c2 j (by rcases hj with rfl | h | h; exact hS4.ks; exact (hS4.kb j h).1; exact (hS4.ka j h).1))
    refine aCall_of (cBytes ks 9 _ _ db3 da3 _ _ hS5 (by decide)) ?_
    rintro d m5 n5 ⟨rfl, rfl, rfl⟩
    simp -dsimp [B]
    refine aCall_of (cFree ks 9 _ _ db3 da3 _ _ hS5 (by decide) (by omega)) ?_
    rintro d m6 n6 ⟨rfl, rfl, rfl⟩
    simp -dsimp [I]
    refine hq ⟨rfl, fun j hj => ?_⟩
    rw [c2 j (by omega), b4 j (by omega) (by omega) (fun e => ?_) (fun e => ?_), del_ne _ _ _ (by omega), set_ne _ _ _ _ (by omega), a4 j (by omega) (by omega) (fun e => ?_) (fun e => ?_), del_ne _ _ _ (by omega), set_ne _ _ _ _ (by omega), k5 j hj]
    · have := k2 j e; omega
    · have := k3 j e; omega
    · rcases a2 j e with e | e
      · have := k2 j e; omega
      · omega
    · rcases a3 j e with e | e
      · have := k3 j e; omega
      · omega
  · rintro d m' n' ⟨rfl, hf⟩
    exact ⟨_, (pur_T _).pub, hf, rfl⟩

structure LawS (m : Mem) (n ks km : Nat) (most : Int) (rl : List (List UInt8)) (db da : D) : Prop where
  sh : Sh m n ks most (frames rl) rl db da
  mb : m km = some ⟨2, [[I most, S (frames rl)]], 0⟩
  nk : km ≠ ks ∧ kof db ≠ some km ∧ kof da ≠ some km ∧ km < n
theorem frames_pre (b : List UInt8) : ∃ t, b = frames (recs b) ++ t := by
  have key : ∀ (k : Nat) (s : List UInt8), s.length < k → ∃ t, s = frames (recs s) ++ t := by
    intro k
    induction k with
    | zero => intro s h; omega
    | succ k ih =>
      intro s h
      by_cases hf : firstR s = []
      · exact ⟨s, by rw [recs_none hf]; rfl⟩
      · obtain ⟨h1, h2, h3, h4⟩ := firstR_spec hf
        obtain ⟨t, ht⟩ := ih (s.drop ((firstR s).length + 3)) (by simp; omega)
        refine ⟨t, ?_⟩
        rw [recs_some hf]
        have e : frames (firstR s :: recs (s.drop ((firstR s).length + 3))) = frameR (firstR s) ++ frames (recs (s.drop ((firstR s).length + 3))) := by simp [frames]
        rw [e, List.append_assoc, ← ht]; exact h4
  exact key (b.length + 1) b (by omega)
theorem recs_frames : ∀ (l : List (List UInt8)), (∀ r ∈ l, 1 ≤ r.length ∧ r.length ≤ 65536) → recs (frames l) = l := by
  intro l
  induction l with
  | nil => intro _; rfl
  | cons r l ih =>
    intro h
    obtain ⟨h1, h2⟩ := h r (by simp)
    have e : frames (r :: l) = frameR r ++ frames l := by simp [frames]
    have hf : firstR (frames (r :: l)) = r := by rw [e]; exact firstR_frame _ _ h1 h2
    have hne : firstR (frames (r :: l)) ≠ [] := by rw [hf]; intro e; rw [e] at h1; simp at h1
    rw [recs_some hne, hf, e, List.drop_append, List.drop_eq_nil_of_le (by rw [frame_len]; omega), frame_len, Nat.sub_self, List.nil_append, List.drop_zero, ih (fun x hx => h x (by simp [hx]))]
theorem appCode_cases (most : Int) (k : Nat) (r : List UInt8) : appCode most k r = 0 ∨ appCode most k r = 1 ∨ appCode most k r = 8 := by
  unfold appCode; split
  · exact .inr (.inl rfl)
  · split
    · exact .inr (.inr rfl)
    · exact .inl rfl
theorem appCode_ok {most : Int} {k : Nat} {r : List UInt8} (h : appCode most k r = 0) : 1 ≤ r.length ∧ r.length ≤ 65536 ∧ (r.length : Int) + 3 ≤ most - k := by
  unfold appCode at h; split at h
  · simp at h
  · split at h
    · simp at h
    · omega
structure OInv (l : List (List UInt8)) (b : List UInt8) (most q : Int) (n : Nat) (m : Mem) (ks km : Nat) (i : Nat) (σ : Nat → D) (m2 : Mem) (n2 : Nat) : Prop where
  hi : i ≤ l.length
  h1 : σ 1 = .v (.int .i64 most)
  h2 : σ 2 = sl2 l
  h3 : σ 3 = .v (.int .i64 q)
  h9 : σ 9 = .v (.bool true)
  h10 : σ 10 = .ptr ks 0 0 0
  h14 : σ 14 = .ptr km 0 0 0
  h15 : σ 15 = .v (.int .i64 i)
  ex : ∃ rl db da, LawS m2 n2 ks km most rl db da ∧ rl.length ≤ 5000 + i ∧ (frames rl).length ≤ 5000 + 2003 * i ∧ (∀ r ∈ rl, 1 ≤ r.length ∧ r.length ≤ 65536) ∧ (∀ k, kof db = some k → n ≤ k) ∧ (∀ k, kof da = some k → n ≤ k) ∧ n ≤ ks ∧ n ≤ km ∧ (∀ j, j < n → m2 j = m j) ∧ ((frames rl).length : Int) ≤ most
set_option maxHeartbeats 4000000 in
theorem cShelfOpens (b : List UInt8) (most : Int) (l : List (List UInt8)) (q : Int) (m : Mem) (n : Nat) : ACalls Try.prog 3 [B b, .v (.int .i64 most), sl2 l, .v (.int .i64 q)] m n (fun d m' n' => d = Tt true ∧ m' = m ∧ n' = n) := by
  refine acalls_done (R' := Hq (fun d m' n' => d = Tt true ∧ ∀ j, j < n → m' j = m j) tg) ?_ ?_
  · refine acalls_vc [0, 1, 2, 3, 8, 9, 10, 11, 13, 14, 15, 16, 17, 18, 19, 20, 21, 22, 32, 51, 67, 83, 91, 131, 139, 161, 171] Try.func3 Try.ntmps3 (by kernel_rfl) rfl rfl (by simp) ?_
    simp -dsimp
    refine aCall_of (cUp16 _ _) ?_
    rintro d m' n' ⟨rfl, rfl, rfl⟩
    simp -dsimp [B, sl2, Tt]
    by_cases a1 : (5000 : Int) < (b.length : Int)
    · simp -dsimp [a1]
      exact hq ⟨rfl, fun _ _ => rfl⟩
    by_cases a2 : (30 : Int) < (l.length : Int)
    · simp -dsimp [a1, a2]
      exact hq ⟨rfl, fun _ _ => rfl⟩
    simp -dsimp [a1, a2]
    refine aCall_of (rOpen b most _ _ (by omega)) ?_
    intro d m1 n1 h
    by_cases hc : most < 1 ∨ 1048576 < most ∨ most < b.length
    · obtain ⟨rfl, c1, c2⟩ := open_no h hc
      have cc : (¬ most < 1 → (¬ (1048576 : Int) < most → (most < (b.length : Int)))) := by omega
      by_cases b1 : most < 1
      · simp -dsimp [b1, code]
        exact hq ⟨rfl, c2⟩
      by_cases b2 : (1048576 : Int) < most
      · simp -dsimp [b1, b2, code]
        exact hq ⟨rfl, c2⟩
      have b3 := cc b1 b2
      simp -dsimp [b1, b2, b3, code]
      exact hq ⟨rfl, c2⟩
    · obtain ⟨ks, db, da, rfl, hS, k1, k2, k3, k4, k5⟩ := open_ok h hc
      have b1 : ¬ most < 1 := by omega
      have b2 : ¬ (1048576 : Int) < most := by omega
      have b3 : ¬ most < (b.length : Int) := by omega
      simp -dsimp [b1, b2, b3, nilE]
      refine aCall_of (cRefRecords b (by omega) _ _) ?_
      rintro d m2 n2 ⟨rfl, rfl, rfl⟩
      simp -dsimp [I]
      obtain ⟨rl1, rl2, rl3⟩ := @recs_len b (b.length + 1) b (by omega)
      refine ⟨rl2, ?_⟩
      refine vloop_of (β := Nat) (OInv l b most q n' m' ks n2) (fun i => l.length - i) 0 ?_ ?_
      · have hks := hS.ks
        refine ⟨Nat.zero_le _, rfl, rfl, rfl, rfl, rfl, rfl, rfl, recs b, db, da, ⟨hS.frame (by omega) fun j hj => ?_, ?_, ?_⟩, by omega, by omega, rl3, k2, k3, k1, by omega, fun j hj => ?_, by omega⟩
        · rw [set_ne _ _ _ _ (by rcases hj with rfl | h | h; omega; have := hS.kb j h; omega; have := hS.ka j h; omega)]
        · have hbt : b.take (frames (recs b)).length = frames (recs b) := by
            obtain ⟨t, ht⟩ := frames_pre b
            have e2 := congrArg (List.take (frames (recs b)).length) ht
            rw [List.take_left'] at e2
            · exact e2
            · rfl
          simp [I, S, hbt]
        · refine ⟨by omega, fun e => by have := hS.kb _ e; omega, fun e => by have := hS.ka _ e; omega, by omega⟩
        · rw [set_ne _ _ _ _ (by omega), k5 j hj]
      rintro i σ m3 n3 ⟨hi, h1, h2, h3, h9, h10, h14, h15, rl, db, da, hL, x1, x2, x3, x4, x5, x6, x7, x8, x9⟩
      have hks := hL.sh.ks
      obtain ⟨y1, y2, y3, y4⟩ := hL.nk
      simp -dsimp [h1, h2, h3, h9, h10, h14, h15, sl2]
      refine cnd_intro (fun hc => ?_) (fun hc => ?_)
      · simp at hc
        by_cases z1 : (2000 : Int) < (l[i].length : Int)
        · simp -dsimp [hc, B, z1]
          exact hq ⟨rfl, x8⟩
        simp -dsimp [hc, B, z1]
        refine aCall_of (cTorn ks most (frames rl) rl db da l[i] q m3 n3 hL.sh (by omega) (by omega) (by omega)) ?_
        rintro d m4 n4 ⟨rfl, rfl, rfl⟩
        rcases appCode_cases most (frames rl).length l[i] with e | e | e
        · have hok := appCode_ok e
          have fl := frame_len l[i]
          have w1 : IntKind.i64.wrap (((frames rl).length : Int) + (frameR l[i]).length - (frames rl).length) = l[i].length + 3 := by rw [frame_len, wrap_i64 (by omega) (by omega)]; omega
          by_cases b1 : q < 0
          · simp -dsimp [e, hL.mb, hc, S, I, B, code, b1, nilE]
            refine aCall_of (rRefAppend n2 most (frames rl) l[i] m4 n4 hL.mb (by omega) (by omega) (by omega)) ?_
            rintro d m5 n5 ⟨rfl, rfl, rfl⟩
            simp -dsimp [e, hL.mb, hc, S, I, B, code, b1]
            refine aCall_of (rAppend ks most (frames rl) rl db da l[i] _ _ (hL.sh.frame (Nat.le_refl _) (fun j hj => by
              rw [set_ne _ _ _ _ (by rcases hj with h | h | h; exact fun h' => y1 (h'.symm.trans h); exact fun h' => y2 (h' ▸ h); exact fun h' => y3 (h' ▸ h))])) (by omega) (by omega) (by omega) (by omega)) ?_
            rintro d m6 n6 ⟨rfl, u1, db6, da6, hS6, u2, u3, u4⟩
            rw [e] at hS6
            simp only [if_true, if_neg (by decide : ¬ (1 : Int) = 0), if_neg (by decide : ¬ (8 : Int) = 0)] at hS6
            simp -dsimp [e]
            refine aCall_of (cCode 0 (by omega) (by omega) _ _) ?_
            rintro d m7 n7 ⟨rfl, rfl, rfl⟩
            simp -dsimp [I]
            have hm7 : m7 n2 = some ⟨2, [[I most, S (frames rl ++ frameR l[i])]], 0⟩ := by
              rw [u4 n2 (by omega) y1 y2 y3]; exact set_same _ _ _
            refine ⟨i + 1, by omega, ⟨by omega, rfl, rfl, rfl, rfl, rfl, rfl, by show D.v (.int .i64 (IntKind.i64.wrap ((i : Int) + 1))) = _; rw [wrap_i64 (by omega) (by omega)]; rfl, rl ++ [l[i]], db6, da6, ⟨?_, ?_, ⟨y1, fun h => ?_, fun h => ?_, by omega⟩⟩, ?_, ?_, ?_, fun k hk => ?_, fun k hk => ?_, x6, x7, fun j hj => ?_, ?_⟩⟩
            · rw [frames_snoc]; exact hS6
            · rw [frames_snoc]; exact hm7
            · rcases u2 _ h with h | h
              · exact y2 h
              · omega
            · rcases u3 _ h with h | h
              · exact y3 h
              · omega
            · simp; omega
            · rw [frames_snoc, List.length_append, frame_len]; omega
            · intro r hr
              rcases List.mem_append.1 hr with hr | hr
              · exact x3 r hr
              · simp at hr; subst hr; exact ⟨hok.1, hok.2.1⟩
            · rcases u2 k hk with h | h
              · exact x4 k h
              · omega
            · rcases u3 k hk with h | h
              · exact x5 k h
              · omega
            · rw [u4 j (by omega) (by omega) (fun h => by have := x4 j h; omega) (fun h => by have := x5 j h; omega), set_ne _ _ _ _ (by omega), x8 j hj]
            · rw [frames_snoc, List.length_append, frame_len]; omega
          by_cases b2 : (l[i].length : Int) + 3 < q
          · simp -dsimp [e, hL.mb, hc, S, I, B, code, b1, b2, nilE]
            refine aCall_of (rRefAppend n2 most (frames rl) l[i] m4 n4 hL.mb (by omega) (by omega) (by omega)) ?_
            rintro d m5 n5 ⟨rfl, rfl, rfl⟩
            simp -dsimp [e, hL.mb, hc, S, I, B, code, b1, b2, w1]
            refine aCall_of (rAppend ks most (frames rl) rl db da l[i] _ _ (hL.sh.frame (Nat.le_refl _) (fun j hj => by
              rw [set_ne _ _ _ _ (by rcases hj with h | h | h; exact fun h' => y1 (h'.symm.trans h); exact fun h' => y2 (h' ▸ h); exact fun h' => y3 (h' ▸ h))])) (by omega) (by omega) (by omega) (by omega)) ?_
            rintro d m6 n6 ⟨rfl, u1, db6, da6, hS6, u2, u3, u4⟩
            rw [e] at hS6
            simp only [if_true, if_neg (by decide : ¬ (1 : Int) = 0), if_neg (by decide : ¬ (8 : Int) = 0)] at hS6
            simp -dsimp [e]
            refine aCall_of (cCode 0 (by omega) (by omega) _ _) ?_
            rintro d m7 n7 ⟨rfl, rfl, rfl⟩
            simp -dsimp [I]
            have hm7 : m7 n2 = some ⟨2, [[I most, S (frames rl ++ frameR l[i])]], 0⟩ := by
              rw [u4 n2 (by omega) y1 y2 y3]; exact set_same _ _ _
            refine ⟨i + 1, by omega, ⟨by omega, rfl, rfl, rfl, rfl, rfl, rfl, by show D.v (.int .i64 (IntKind.i64.wrap ((i : Int) + 1))) = _; rw [wrap_i64 (by omega) (by omega)]; rfl, rl ++ [l[i]], db6, da6, ⟨?_, ?_, ⟨y1, fun h => ?_, fun h => ?_, by omega⟩⟩, ?_, ?_, ?_, fun k hk => ?_, fun k hk => ?_, x6, x7, fun j hj => ?_, ?_⟩⟩
            · rw [frames_snoc]; exact hS6
            · rw [frames_snoc]; exact hm7
            · rcases u2 _ h with h | h
              · exact y2 h
              · omega
            · rcases u3 _ h with h | h
              · exact y3 h
              · omega
            · simp; omega
            · rw [frames_snoc, List.length_append, frame_len]; omega
            · intro r hr
              rcases List.mem_append.1 hr with hr | hr
              · exact x3 r hr
              · simp at hr; subst hr; exact ⟨hok.1, hok.2.1⟩
            · rcases u2 k hk with h | h
              · exact x4 k h
              · omega
            · rcases u3 k hk with h | h
              · exact x5 k h
              · omega
            · rw [u4 j (by omega) (by omega) (fun h => by have := x4 j h; omega) (fun h => by have := x5 j h; omega), set_ne _ _ _ _ (by omega), x8 j hj]
            · rw [frames_snoc, List.length_append, frame_len]; omega
          simp -dsimp [e, hL.mb, hc, S, I, B, code, b1, b2, nilE]
          refine aCall_of (rRefAppend n2 most (frames rl) l[i] m4 n4 hL.mb (by omega) (by omega) (by omega)) ?_
          rintro d m5 n5 ⟨rfl, rfl, rfl⟩
          simp -dsimp [e, hL.mb, hc, S, I, B, code, b1, b2, w1]
          refine vdraw_of [0, 1, 0, 7, 15, 31, 63, 127, 255, 511, 255, 1279, 3327, 7423, 255, 16639, 255, 114943, 261375, 524287, 1048575, 2097151] [0, 2, 1, 3, 4, 5, 6, 7, 8, 9, 10, 11, 12, 13, 14, 15, 16, 17, 18, 19, 20, 21] (by kernel_rfl) (by kernel_rfl) ?_
          have w2 : IntKind.i64.wrap (((frames rl).length : Int) + q) = (frames rl).length + q := wrap_i64 (by omega) (by omega)
          have w3 : (((frames rl).length : Int) + q).toNat = (frames rl).length + q.toNat := by omega
          simp -dsimp
          refine aCall_of (cCode 0 (by omega) (by omega) _ _) ?_
          rintro d m5 n5 ⟨rfl, rfl, rfl⟩
          have w5 : List.take ((frames rl).length + q.toNat) (frames rl ++ frameR l[i]) = frames rl ++ List.take q.toNat (frameR l[i]) := by rw [List.take_length_add_append]
          simp -dsimp [I, hc, B, w2, w3, w5]
          refine ⟨by omega, ?_⟩
          refine aCall_of (rAppend ks most (frames rl) rl db da l[i] _ _ (hL.sh.frame (Nat.le_refl _) (fun j hj => by
            rw [set_ne _ _ _ _ (by rcases hj with h | h | h; exact fun h' => y1 (h'.symm.trans h); exact fun h' => y2 (h' ▸ h); exact fun h' => y3 (h' ▸ h))])) (by omega) (by omega) (by omega) (by omega)) ?_
          rintro d m6 n6 ⟨rfl, u1, db6, da6, hS6, u2, u3, u4⟩
          rw [e] at hS6
          simp only [if_true, if_neg (by decide : ¬ (1 : Int) = 0), if_neg (by decide : ¬ (8 : Int) = 0)] at hS6
          simp -dsimp [e]
          refine aCall_of (cCode 0 (by omega) (by omega) _ _) ?_
          rintro d m7 n7 ⟨rfl, rfl, rfl⟩
          simp -dsimp [I]
          have hm7 : m7 n2 = some ⟨2, [[I most, S (frames rl ++ frameR l[i])]], 0⟩ := by
            rw [u4 n2 (by omega) y1 y2 y3]; exact set_same _ _ _
          refine ⟨i + 1, by omega, ⟨by omega, rfl, rfl, rfl, rfl, rfl, rfl, by show D.v (.int .i64 (IntKind.i64.wrap ((i : Int) + 1))) = _; rw [wrap_i64 (by omega) (by omega)]; rfl, rl ++ [l[i]], db6, da6, ⟨?_, ?_, ⟨y1, fun h => ?_, fun h => ?_, by omega⟩⟩, ?_, ?_, ?_, fun k hk => ?_, fun k hk => ?_, x6, x7, fun j hj => ?_, ?_⟩⟩
          · rw [frames_snoc]; exact hS6
          · rw [frames_snoc]; exact hm7
          · rcases u2 _ h with h | h
            · exact y2 h
            · omega
          · rcases u3 _ h with h | h
            · exact y3 h
            · omega
          · simp; omega
          · rw [frames_snoc, List.length_append, frame_len]; omega
          · intro r hr
            rcases List.mem_append.1 hr with hr | hr
            · exact x3 r hr
            · simp at hr; subst hr; exact ⟨hok.1, hok.2.1⟩
          · rcases u2 k hk with h | h
            · exact x4 k h
            · omega
          · rcases u3 k hk with h | h
            · exact x5 k h
            · omega
          · rw [u4 j (by omega) (by omega) (fun h => by have := x4 j h; omega) (fun h => by have := x5 j h; omega), set_ne _ _ _ _ (by omega), x8 j hj]
          · rw [frames_snoc, List.length_append, frame_len]; omega
        · simp -dsimp [e, hL.mb, hc, S, I, B, code]
          refine aCall_of (rRefAppend n2 most (frames rl) l[i] m4 n4 hL.mb (by omega) (by omega) (by omega)) ?_
          rintro d m5 n5 ⟨rfl, rfl, rfl⟩
          simp -dsimp [e, hL.mb, hc, S, I, B, code]
          refine vdraw_of [0, 1, 0, 7, 15, 31, 63, 127, 255, 511, 255, 1279, 3327, 7423, 255, 16639, 255, 114943, 261375, 524287, 1048575, 2097151] [0, 2, 1, 3, 4, 5, 6, 7, 8, 9, 10, 11, 12, 13, 14, 15, 16, 17, 18, 19, 20, 21] (by kernel_rfl) (by kernel_rfl) ?_
          simp -dsimp
          refine aCall_of (cCode 1 (by omega) (by omega) _ _) ?_
          rintro d m5 n5 ⟨rfl, rfl, rfl⟩
          simp -dsimp [I, hc, B]
          refine aCall_of (rAppend ks most (frames rl) rl db da l[i] _ _ (hL.sh.frame (Nat.le_refl _) (fun j hj => by
            rw [set_ne _ _ _ _ (by rcases hj with h | h | h; exact fun h' => y1 (h'.symm.trans h); exact fun h' => y2 (h' ▸ h); exact fun h' => y3 (h' ▸ h))])) (by omega) (by omega) (by omega) (by omega)) ?_
          rintro d m6 n6 ⟨rfl, u1, db6, da6, hS6, u2, u3, u4⟩
          rw [e] at hS6
          simp only [if_true, if_neg (by decide : ¬ (1 : Int) = 0), if_neg (by decide : ¬ (8 : Int) = 0)] at hS6
          simp -dsimp [e]
          refine aCall_of (cCode 1 (by omega) (by omega) _ _) ?_
          rintro d m7 n7 ⟨rfl, rfl, rfl⟩
          simp -dsimp [I]
          have hm7 : m7 n2 = some ⟨2, [[I most, S (frames rl)]], 0⟩ := by
            rw [u4 n2 (by omega) y1 y2 y3]; simp [hL.mb, set_ne, S, I]
          refine ⟨i + 1, by omega, ⟨by omega, rfl, rfl, rfl, rfl, rfl, rfl, by show D.v (.int .i64 (IntKind.i64.wrap ((i : Int) + 1))) = _; rw [wrap_i64 (by omega) (by omega)]; rfl, rl, db6, da6, ⟨?_, ?_, ⟨y1, fun h => ?_, fun h => ?_, by omega⟩⟩, ?_, ?_, ?_, fun k hk => ?_, fun k hk => ?_, x6, x7, fun j hj => ?_, ?_⟩⟩
          · exact hS6
          · exact hm7
          · rcases u2 _ h with h | h
            · exact y2 h
            · omega
          · rcases u3 _ h with h | h
            · exact y3 h
            · omega
          · omega
          · omega
          · exact x3
          · rcases u2 k hk with h | h
            · exact x4 k h
            · omega
          · rcases u3 k hk with h | h
            · exact x5 k h
            · omega
          · rw [u4 j (by omega) (by omega) (fun h => by have := x4 j h; omega) (fun h => by have := x5 j h; omega), set_ne _ _ _ _ (by omega), x8 j hj]
          · exact x9
        · simp -dsimp [e, hL.mb, hc, S, I, B, code]
          refine aCall_of (rRefAppend n2 most (frames rl) l[i] m4 n4 hL.mb (by omega) (by omega) (by omega)) ?_
          rintro d m5 n5 ⟨rfl, rfl, rfl⟩
          simp -dsimp [e, hL.mb, hc, S, I, B, code]
          refine vdraw_of [0, 1, 0, 7, 15, 31, 63, 127, 255, 511, 255, 1279, 3327, 7423, 255, 16639, 255, 114943, 261375, 524287, 1048575, 2097151] [0, 2, 1, 3, 4, 5, 6, 7, 8, 9, 10, 11, 12, 13, 14, 15, 16, 17, 18, 19, 20, 21] (by kernel_rfl) (by kernel_rfl) ?_
          simp -dsimp
          refine aCall_of (cCode 8 (by omega) (by omega) _ _) ?_
          rintro d m5 n5 ⟨rfl, rfl, rfl⟩
          simp -dsimp [I, hc, B]
          refine aCall_of (rAppend ks most (frames rl) rl db da l[i] _ _ (hL.sh.frame (Nat.le_refl _) (fun j hj => by
            rw [set_ne _ _ _ _ (by rcases hj with h | h | h; exact fun h' => y1 (h'.symm.trans h); exact fun h' => y2 (h' ▸ h); exact fun h' => y3 (h' ▸ h))])) (by omega) (by omega) (by omega) (by omega)) ?_
          rintro d m6 n6 ⟨rfl, u1, db6, da6, hS6, u2, u3, u4⟩
          rw [e] at hS6
          simp only [if_true, if_neg (by decide : ¬ (1 : Int) = 0), if_neg (by decide : ¬ (8 : Int) = 0)] at hS6
          simp -dsimp [e]
          refine aCall_of (cCode 8 (by omega) (by omega) _ _) ?_
          rintro d m7 n7 ⟨rfl, rfl, rfl⟩
          simp -dsimp [I]
          have hm7 : m7 n2 = some ⟨2, [[I most, S (frames rl)]], 0⟩ := by
            rw [u4 n2 (by omega) y1 y2 y3]; simp [hL.mb, set_ne, S, I]
          refine ⟨i + 1, by omega, ⟨by omega, rfl, rfl, rfl, rfl, rfl, rfl, by show D.v (.int .i64 (IntKind.i64.wrap ((i : Int) + 1))) = _; rw [wrap_i64 (by omega) (by omega)]; rfl, rl, db6, da6, ⟨?_, ?_, ⟨y1, fun h => ?_, fun h => ?_, by omega⟩⟩, ?_, ?_, ?_, fun k hk => ?_, fun k hk => ?_, x6, x7, fun j hj => ?_, ?_⟩⟩
          · exact hS6
          · exact hm7
          · rcases u2 _ h with h | h
            · exact y2 h
            · omega
          · rcases u3 _ h with h | h
            · exact y3 h
            · omega
          · omega
          · omega
          · exact x3
          · rcases u2 k hk with h | h
            · exact x4 k h
            · omega
          · rcases u3 k hk with h | h
            · exact x5 k h
            · omega
          · rw [u4 j (by omega) (by omega) (fun h => by have := x4 j h; omega) (fun h => by have := x5 j h; omega), set_ne _ _ _ _ (by omega), x8 j hj]
          · exact x9
      · simp at hc
        --END
        simp -dsimp [hL.mb, S, I]
        refine aCall_pub n3 ⟨1, (frames rl).map bEnc, 0⟩ 1 (by simp) fun β => ?_
        simp -dsimp [one_ne]
        have hS6 : Sh ((m3.set n3 ⟨1, (frames rl).map bEnc, 0⟩).del n3) (n3 + 1) ks most (frames rl) rl db da := hL.sh.frame (by omega) (fun j hj => by
          have : j < n3 := by rcases hj with rfl | h | h; exact hks; exact (hL.sh.kb j h).1; exact (hL.sh.ka j h).1
          rw [del_ne _ _ _ (by omega), set_ne _ _ _ _ (by omega)])
        have hm6 : ((m3.set n3 ⟨1, (frames rl).map bEnc, 0⟩).del n3) n2 = some ⟨2, [[I most, S (frames rl)]], 0⟩ := by
          rw [del_ne _ _ _ (by omega), set_ne _ _ _ _ (by omega)]; exact hL.mb
        have hf6 : ∀ j, j < n' → ((m3.set n3 ⟨1, (frames rl).map bEnc, 0⟩).del n3) j = m' j := fun j hj => by
          rw [del_ne _ _ _ (by omega), set_ne _ _ _ _ (by omega), x8 j hj]
        generalize ((m3.set n3 ⟨1, (frames rl).map bEnc, 0⟩).del n3) = m6 at hS6 hm6 hf6 ⊢
        refine aCall_of (cRefRecords (frames rl) (by omega) _ _) ?_
        rintro d m7 n7 ⟨rfl, rfl, rfl⟩
        rw [recs_frames rl x3]
        simp -dsimp
        refine vdraw_of [0, 1, 3, 7, 15, 3, 35, 99, 227, 511, 1023, 2047, 4095, 8191, 4095, 4095, 36863, 102399, 233471, 495615, 1036287, 2097151, 4194303, 8388607, 16777215, 33554431, 16777215, 134217727, 268435455, 536870911] [0, 1, 2, 5, 6, 7, 8, 3, 4, 9, 10, 11, 12, 14, 15, 16, 17, 18, 19, 20, 13, 21, 22, 23, 24, 26, 25, 27, 28, 29] (by kernel_rfl) (by kernel_rfl) ?_
        simp -dsimp [hm6, S, I]
        refine aCall_of (cBytes ks most (frames rl) rl db da _ _ hS6 (by omega)) ?_
        rintro d m7 n7 ⟨rfl, rfl, rfl⟩
        simp -dsimp [hm6, S, I, B]
        refine aCall_of (cFree ks most (frames rl) rl db da _ _ hS6 (by omega) (by omega)) ?_
        rintro d m7 n7 ⟨rfl, rfl, rfl⟩
        have w1 : IntKind.i64.wrap (most - ((frames rl).length : Int)) = most - (frames rl).length := wrap_i64 (by omega) (by omega)
        simp -dsimp [hm6, S, I, B, w1]
        refine aCall_of (cRecords ks most (frames rl) rl db da _ _ hS6 (by omega) (fun r hr => by have := x3 r hr; omega)) ?_
        rintro d m7 n7 ⟨rfl, rfl, rfl⟩
        simp -dsimp
        refine aCall_of (cSame16 rl rl (by omega) (fun r hr => by have := x3 r hr; omega) _ _) ?_
        rintro d m7 n7 ⟨rfl, rfl, rfl⟩
        simp -dsimp [Tt]
        exact hq ⟨rfl, hf6⟩
  · rintro d m' n' ⟨rfl, hf⟩
    exact ⟨_, (pur_T _).pub, hf, rfl⟩
end Go.Proofs.Mv.App
