/- A part of the proofs of the seat Ytgmiegemaphknaa: the abstract machine, the contracts of the functions, the laws. No condition of its own. -/
import Derived.Test.YtgmiegemaphknaaFact
import Derived.Test.YtgmiegemaphknaaMvC
set_option linter.unusedSimpArgs false
set_option linter.unusedVariables false
open Go Go.Proofs Go.Proofs.Mv.V
set_option maxRecDepth 10000
namespace Go.Proofs.Mv.App

/-! bytes -/
def byt (v : Int) : UInt8 := UInt8.ofNat (v % 256).toNat
theorem wrap_byt (v : Int) : Value.int .u8 (IntKind.u8.wrap v) = .int .u8 ((byt v).toNat : Int) := by
  congr 1
  simp only [byt, IntKind.wrap, IntKind.signed, IntKind.bits, Bool.false_eq_true, if_false]
  have h1 : 0 ≤ v % 256 := Int.emod_nonneg _ (by omega)
  have h2 : v % 256 < 256 := Int.emod_lt_of_pos _ (by omega)
  have h3 : (UInt8.ofNat (v % 256).toNat).toNat = (v % 256).toNat := by
    simp only [UInt8.toNat_ofNat']; omega
  rw [h3]
  rw [Int.toNat_of_nonneg h1]
  rfl
theorem bEnc_fold (b : UInt8) : [D.v (.int .u8 (b.toNat : Int))] = bEnc b := rfl
theorem unB_cons (b : UInt8) (r : List (List D)) : unB (bEnc b :: r) = b :: unB r := by simp [bEnc, unB]
theorem bEnc_len (b : UInt8) : (bEnc b).length = 1 := rfl
theorem bEnc_get (b : UInt8) : (bEnc b)[0]? = some (.v (.int .u8 (b.toNat : Int))) := rfl
theorem unB_nil : unB [] = [] := rfl
theorem i64_byte (b : UInt8) : IntKind.i64.wrap (b.toNat : Int) = b.toNat := wrap_i64 (by omega) (by have := b.toNat_lt; omega)
attribute [simp] wrap_byt bEnc_fold bEnc_len bEnc_get unB_cons unB_nil i64_byte unB_bEnc
def enc3 (k : Int) : List UInt8 := [byt (k / 65536), byt (k / 256), byt k]
@[simp] theorem enc3_len (k : Int) : (enc3 k).length = 3 := rfl

theorem refNumber (v : Int) (h0 : 0 ≤ v) (h1 : v ≤ 16777215) (m : Mem) (n : Nat) :
    ACalls Try.prog 13 [.v (.int .i64 v)] m n (fun d m' n' => d = .v (.string (ofL (enc3 v))) ∧ m' = m ∧ n' = n) := by
  refine acalls_pure (R' := fun d m' n' => d = .v (.string (ofL (enc3 v))) ∧ ∀ k, k < n → m' k = m k) ?_ ?_
  · refine acalls_vc [0, 2] Try.func13 Try.ntmps13 (by kernel_rfl) rfl rfl (by simp) ?_
    simp -dsimp
    refine ⟨?_, fun k hk => set_ne _ _ _ _ (by omega)⟩
    have e1 : IntKind.i64.wrap (v.tdiv 65536) = v / 65536 := by rw [Int.tdiv_eq_ediv_of_nonneg h0, wrap_i64 (by omega) (by omega)]
    have e2 : IntKind.i64.wrap (v.tdiv 256) = v / 256 := by rw [Int.tdiv_eq_ediv_of_nonneg h0, wrap_i64 (by omega) (by omega)]
    rw [e1, e2, Int.tmod_eq_emod_of_nonneg (by omega), Int.tmod_eq_emod_of_nonneg h0]
    simp [enc3, byt]
  · rintro d m' n' ⟨rfl, hk⟩ β
    exact ⟨1, _, by simp; exact Le.refl _, by simp, hk, rfl⟩

def fits (l : List (List UInt8)) : Bool := l.all (fun s => decide (s.length ≤ 20000)) && decide (l.length ≤ 64)
def S (s : List UInt8) : D := .v (.string (ofL s))
def sl1 (l : List (List UInt8)) : D := .sl 1 (l.map fun s => [.v (.string (ofL s))])
def putB (l : List (List UInt8)) : List UInt8 := enc3 l.length ++ l.flatMap fun s => enc3 s.length ++ s
def code (c : Int) : D := .iface 31 (.v (.int .i64 c))
theorem bits_i64 : IntKind.i64.bits = 64 := rfl
attribute [simp] bits_i64
theorem fdiv16 (v : Int) : v.fdiv 65536 = v / 65536 := Int.fdiv_eq_ediv_of_nonneg _ (by omega)
theorem fdiv8 (v : Int) : v.fdiv 256 = v / 256 := Int.fdiv_eq_ediv_of_nonneg _ (by omega)

theorem refFits (l : List (List UInt8)) (m : Mem) (n : Nat) (hl : l.length ≤ 1000000) : ACalls Try.prog 7 [sl1 l] m n (fun d m' n' => d = .v (.bool (fits l)) ∧ m' = m ∧ n' = n) := by
  refine acalls_vc [0, 2, 3, 7, 15] Try.func7 Try.ntmps7 (by kernel_rfl) rfl rfl (by simp) ?_
  simp -dsimp
  refine vloop_of (β := Nat) (fun i σ m' n' => i ≤ l.length ∧ σ 0 = sl1 l ∧ σ 3 = .v (.int .i64 i) ∧ m' = m ∧ n' = n ∧ ∀ s ∈ l.take i, s.length ≤ 20000) (fun i => l.length - i) 0 (by simp) ?_
  rintro i σ m' n' ⟨hi, h0, h3, rfl, rfl, hall⟩
  simp -dsimp [h0, h3, sl1]
  refine cnd_intro (fun h => ?_) (fun h => ?_)
  · simp at h
    simp -dsimp [h]
    refine cnd_intro (fun hc => ?_) (fun hc => ?_)
    · simp at hc ⊢
      unfold fits
      have : (l.all fun s => decide (s.length ≤ 20000)) = false := by
        rw [List.all_eq_false]; exact ⟨l[i], by simp, by simp; omega⟩
      simp [this]
    · simp at hc ⊢
      refine ⟨i + 1, by omega, by omega, rfl, ?_, ?_⟩
      · rw [wrap_i64 (by omega) (by omega)]; simp
      · intro s hs
        rw [List.take_succ_eq_append_getElem h] at hs
        rcases List.mem_append.1 hs with hs | hs
        · exact hall s hs
        · simp at hs; subst hs; omega
  · simp at h
    have hil : i = l.length := by omega
    subst hil
    simp at hall
    have : (l.all fun s => decide (s.length ≤ 20000)) = true := by rw [List.all_eq_true]; simpa using hall
    simp [fits, this]
    omega

theorem number_nil (v : Int) (m : Mem) (n : Nat) : ACalls Try.prog 12 [.v (.slice none 0 0), .v (.int .i64 v)] m n
    (fun d m' n' => ∃ k, n ≤ k ∧ k < n' ∧ d = .own k 0 0 3 1 ∧ m' k = some ⟨1, (enc3 v).map bEnc, 0⟩ ∧ ∀ j, j < n → m' j = m j) := by
  refine acalls_vc [0, 1, 4] Try.func12 Try.ntmps12 (by kernel_rfl) rfl rfl (by simp) ?_
  simp -dsimp

  refine ⟨n + 1, by omega, by omega, by simp, by simp [enc3, fdiv16, fdiv8], fun j hj => ?_⟩
  simp (disch := omega) [set_ne]

theorem number_own (v : Int) (k g : Nat) (bs : List UInt8) (m : Mem) (n : Nat) (hk : k < n) (hm : m k = some ⟨1, bs.map bEnc, g⟩) (hl : bs.length ≤ 100000000) :
    ACalls Try.prog 12 [.own k g 0 bs.length 1, .v (.int .i64 v)] m n
    (fun d m' n' => n ≤ n' ∧ d = .own k (g + 1) 0 (bs ++ enc3 v).length 1 ∧ m' k = some ⟨1, (bs ++ enc3 v).map bEnc, g + 1⟩ ∧ ∀ j, j < n → j ≠ k → m' j = m j) := by
  have hkn : k ≠ n := by omega
  have hl3 : bs.length + 3 ≤ 140737488355328 := by omega
  refine acalls_vc [0, 1, 4] Try.func12 Try.ntmps12 (by kernel_rfl) rfl rfl (by simp) ?_
  simp -dsimp [hkn, hm, hl3]

  refine ⟨?_, fun j hj hjk => ?_⟩
  · rw [List.take_of_length_le (by simp)]; simp [enc3, fdiv16, fdiv8]
  · simp (disch := omega) [set_ne, hjk]

theorem len_le (l : List (List UInt8)) (hs : ∀ s ∈ l, s.length ≤ 20000) : (l.flatMap fun s => enc3 s.length ++ s).length ≤ 20003 * l.length := by
  induction l with
  | nil => simp
  | cons a r ih =>
    have h1 := hs a (by simp)
    have h2 := ih (fun s h => hs s (by simp [h]))
    simp only [List.flatMap_cons, List.length_append, enc3_len, List.length_cons]
    omega

def putB' (l : List (List UInt8)) (i : Nat) : List UInt8 := enc3 l.length ++ (l.take i).flatMap fun s => enc3 s.length ++ s
theorem putB'_succ (l : List (List UInt8)) (i : Nat) (h : i < l.length) : putB' l (i + 1) = putB' l i ++ enc3 l[i].length ++ l[i] := by
  unfold putB'
  rw [List.take_succ_eq_append_getElem h, List.flatMap_append]
  simp
theorem putB'_all (l : List (List UInt8)) : putB' l l.length = putB l := by simp [putB', putB]
theorem putB'_zero (l : List (List UInt8)) : putB' l 0 = enc3 l.length := by simp [putB']
theorem take_sm {l : List (List UInt8)} {i : Nat} (h : i < l.length) (hall : ∀ s ∈ l.take i, s.length ≤ 20000) (hc : l[i].length ≤ 20000) : ∀ s ∈ l.take (i + 1), s.length ≤ 20000 := by
  intro s hs
  rw [List.take_succ_eq_append_getElem h] at hs
  rcases List.mem_append.1 hs with hs | hs
  · exact hall s hs
  · simp at hs; subst hs; exact hc
theorem refPut (l : List (List UInt8)) (hl : l.length ≤ 64) (hs : ∀ s ∈ l, s.length ≤ 20000) (m : Mem) (n : Nat) : ACalls Try.prog 8 [sl1 l] m n (fun d m' n' => d = S (putB l) ∧ m' = m ∧ n' = n) := by
  refine acalls_vc [0, 2, 3, 4, 11] Try.func8 Try.ntmps8 (by kernel_rfl) rfl rfl (by simp) ?_
  simp -dsimp [sl1]
  refine aCall_of (refNumber l.length (by omega) (by omega) _ _) ?_
  rintro d m' n' ⟨rfl, rfl, rfl⟩
  simp -dsimp
  refine vloop_of (β := Nat) (fun i σ m2 n2 => i ≤ l.length ∧ σ 0 = sl1 l ∧ σ 4 = .v (.int .i64 i) ∧ m2 = m' ∧ n2 = n' ∧ σ 3 = S (putB' l i)) (fun i => l.length - i) 0 (by simp [S, sl1, putB'_zero]) ?_
  rintro i σ m2 n2 ⟨hi, h0, h4, rfl, rfl, h3⟩
  have hb : (putB' l i).length ≤ 2000000 := by
    have := len_le (l.take i) (fun s h => hs s (List.mem_of_mem_take h))
    rw [List.length_take] at this
    unfold putB'; rw [List.length_append, enc3_len]; omega
  simp -dsimp [h0, h4, h3, sl1, S]
  refine cnd_intro (fun h => ?_) (fun h => ?_)
  · simp at h
    simp -dsimp [h]
    have hlen : l[i].length ≤ 20000 := hs _ (by simp)
    refine vdraw_of [0, 0, 0, 6, 14, 30, 62, 127, 0, 0, 768, 1792, 4095, 8191] [0, 1, 2, 3, 4, 5, 8, 9, 10, 11, 6, 7, 12, 13] (by kernel_rfl) (by kernel_rfl) ?_
    simp -dsimp [h]
    refine aCall_of (refNumber l[i].length (by omega) (by omega) _ _) ?_
    rintro d m3 n3 ⟨rfl, rfl, rfl⟩
    simp -dsimp
    refine ⟨by omega, by omega, i + 1, by omega, by omega, by simp [sl1], ?_, ?_⟩
    · rw [wrap_i64 (by omega) (by omega)]; simp
    · rw [putB'_succ l i h]; simp [S]
  · simp at h
    have hil : i = l.length := by omega
    subst hil
    simp [putB'_all, S]

theorem putBs_len (l : List (List UInt8)) (hl : l.length ≤ 64) (hs : ∀ s ∈ l, s.length ≤ 20000) : (putB l).length ≤ 2000000 := by
  have := len_le l hs
  simp only [putB, List.length_append, enc3_len]
  omega
/-- What Put answers. -/
def putR (l : List (List UInt8)) (n : Nat) : D → Mem → Nat → Prop := fun d m' n' =>
  if fits l then ∃ k g, n ≤ k ∧ k < n' ∧ d = .tup [.own k g 0 (putB l).length 1, .v .nilIface] ∧ m' k = some ⟨1, (putB l).map bEnc, g⟩
  else d = .tup [.v (.slice none 0 0), code 3]
theorem pPut (l : List (List UInt8)) (hl : l.length ≤ 1000000) (m : Mem) (n : Nat) : ACalls Try.prog 6 [sl1 l] m n (fun d m' n' => putR l n d m' n' ∧ ∀ j, j < n → m' j = m j) := by
  refine acalls_vc [0, 2, 3, 4, 6, 9, 14, 15, 16, 17, 22] Try.func6 Try.ntmps6 (by kernel_rfl) rfl rfl (by simp) ?_
  simp -dsimp [sl1]
  refine cnd_intro (fun h => ?_) (fun h => ?_)
  · simp at h ⊢
    have : fits l = false := by simp [fits]; intro _; omega
    simp [putR, this, code]
  · simp at h ⊢
    refine aCall_of (number_nil l.length _ _) ?_
    rintro d m' n' ⟨k, hk1, hk2, rfl, hmk, hold⟩
    simp -dsimp
    refine vloop_of (β := Nat) (fun i σ m2 n2 => i ≤ l.length ∧ σ 0 = sl1 l ∧ σ 14 = sl1 l ∧ σ 15 = .v (.int .i64 l.length) ∧ σ 16 = .v (.int .i64 i) ∧ (∀ s ∈ l.take i, s.length ≤ 20000) ∧
      (∀ j, j < n → m2 j = m j) ∧ ∃ g, k < n2 ∧ σ 4 = .own k g 0 (putB' l i).length 1 ∧ m2 k = some ⟨1, (putB' l i).map bEnc, g⟩) (fun i => l.length - i) 0 ?_ ?_
    · simp [sl1, putB', hk2, hmk]; exact hold
    rintro i σ m2 n2 ⟨hi, h0, h14, h15, h16, hall, hold2, g, hkn, h4, hm2⟩
    have hb := len_le (l.take i) hall
    rw [List.length_take] at hb
    have hb2 : (putB' l i).length ≤ 2000000 := by unfold putB'; rw [List.length_append, enc3_len]; omega
    simp -dsimp [h0, h14, h15, h16, h4, sl1]
    refine cnd_intro (fun h => ?_) (fun h => ?_)
    · simp at h
      simp -dsimp [h]
      refine cnd_intro (fun hc => ?_) (fun hc => ?_)
      · simp at hc ⊢
        have : fits l = false := by
          unfold fits
          have : (l.all fun s => decide (s.length ≤ 20000)) = false := by
            rw [List.all_eq_false]; exact ⟨l[i], by simp, by simp; omega⟩
          simp [this]
        simp [putR, this, code]
        exact hold2
      · simp at hc ⊢
        refine aCall_of (number_own l[i].length k g (putB' l i) _ _ hkn hm2 (by omega)) ?_
        rintro d m3 n3 ⟨hn3, rfl, hm3, hold3⟩
        simp -dsimp [hm3]
        refine ⟨by omega, i + 1, by omega, by omega, by simp [sl1], ?_, take_sm h hall (by omega), fun j hj => ?_, by omega, ?_, ?_⟩
        · rw [wrap_i64 (by omega) (by omega)]; simp
        · rw [set_ne _ _ _ _ (by omega), hold3 j (by omega) (by omega), hold2 j hj]
        · rw [putB'_succ l i h]; simp; omega
        · rw [putB'_succ l i h, List.take_of_length_le (by simp)]; simp
    · simp at h
      have hil : i = l.length := by omega
      subst hil
      simp
      refine ⟨?_, hold2⟩
      simp at hall
      rw [putB'_all] at hm2 ⊢
      have : fits l = true := by simp [fits]; exact ⟨hall, by omega⟩
      simp only [putR, this, if_true]
      exact ⟨k, g, hk1, hkn, rfl, hm2⟩

@[simp] theorem rs_v (β : Nat → Nat) (m : Mem) (f : Nat) (x : Value) : rs β m f (.v x) = .v x := by cases f <;> simp [rs]
@[simp] theorem rs_bEnc (β : Nat → Nat) (m : Mem) (f : Nat) : ((fun e => List.map (rs β m f) e) ∘ bEnc) = bEnc := by funext b; simp [bEnc, -bEnc_fold]
@[simp] theorem take_map_len {α γ : Type} (l : List α) (f : α → γ) : (l.map f).take l.length = l.map f := List.take_of_length_le (by simp)
theorem belowE_bEnc (n : Nat) (l : List UInt8) : belowE n (l.map bEnc) = true := by
  induction l with
  | nil => simp [belowE]
  | cons b r ih => simp [belowE, belowL, below, bEnc, -bEnc_fold]; exact ih
attribute [simp] belowE_bEnc
def putA (l : List (List UInt8)) : D := if fits l then .tup [.sl 1 ((putB l).map bEnc), .v .nilIface] else .tup [.sl 1 [], code 3]
theorem cPut (l : List (List UInt8)) (hl : l.length ≤ 1000000) (m : Mem) (n : Nat) : ACalls Try.prog 6 [sl1 l] m n (fun d m' n' => d = putA l ∧ m' = m ∧ n' = n) := by
  refine acalls_pure (pPut l hl m n) ?_
  rintro d m' n' ⟨h, hold⟩ β
  by_cases hf : fits l = true
  · simp only [putR, hf, if_true] at h
    obtain ⟨k, g, h1, h2, rfl, h3⟩ := h
    refine ⟨3, _, ?_, ?_, hold, rfl⟩
    · simp [h1, h3, putA, hf]; exact Le.refl _
    · simp [h1, h3]
  · simp only [putR, hf] at h
    simp at h
    subst h
    refine ⟨2, _, ?_, ?_, hold, rfl⟩
    · simp [putA, hf, code]; exact Le_tup (.cons (Le_nil 1) (.cons (Le.refl _) .nil))
    · simp [code]
end Go.Proofs.Mv.App
open Go Go.Proofs Go.Proofs.Mv.V
set_option maxRecDepth 10000
namespace Go.Proofs.Mv.App

theorem unB_bs (r : List UInt8) (a b : Nat) : unB (List.take a (List.drop b (List.map bEnc r))) = List.take a (List.drop b r) := by
  rw [← List.map_drop, ← List.map_take, unB_bEnc]
theorem unB_b (r : List UInt8) (a : Nat) : unB (List.take a (List.map bEnc r)) = List.take a r := by
  rw [← List.map_take, unB_bEnc]
attribute [simp] unB_bs unB_b
def B (s : List UInt8) : D := .sl 1 (s.map bEnc)
/-- A number: what its three bytes say. -/
def v3 (a b c : UInt8) : Nat := 65536 * a.toNat + 256 * b.toNat + c.toNat
def v3o (s : List UInt8) : Nat := v3 (s.getD 0 0) (s.getD 1 0) (s.getD 2 0)
theorem v3_lt (a b c : UInt8) : v3 a b c < 16777216 := by have := a.toNat_lt; have := b.toNat_lt; have := c.toNat_lt; unfold v3; omega
theorem or3 (a b c : UInt8) : ((a.toNat * 65536 ||| b.toNat * 256) ||| c.toNat) = v3 a b c := by
  have ha := a.toNat_lt; have hb := b.toNat_lt; have hc := c.toNat_lt
  have e1 : a.toNat * 65536 ||| b.toNat * 256 = (a.toNat * 256 + b.toNat) * 256 := by
    have : a.toNat * 65536 ||| b.toNat * 256 = (2 ^ 8 * a.toNat + b.toNat) <<< 8 := by
      rw [Nat.two_pow_add_eq_or_of_lt hb, Nat.shiftLeft_or_distrib]
      rw [Nat.shiftLeft_eq, Nat.shiftLeft_eq, show a.toNat * 65536 = 2 ^ 8 * a.toNat * 2 ^ 8 by omega]
    rw [this, Nat.shiftLeft_eq]; omega
  rw [e1]
  have := Nat.two_pow_add_eq_or_of_lt (i := 8) (b := c.toNat) hc (a.toNat * 256 + b.toNat)
  unfold v3
  rw [show (a.toNat * 256 + b.toNat) * 256 = 2 ^ 8 * (a.toNat * 256 + b.toNat) by omega, ← this]; omega

theorem or_nf (a b c : UInt8) : IntKind.i64.wrap ↑((IntKind.i64.wrap ↑((IntKind.i64.wrap (↑a.toNat * 65536) % 18446744073709551616).toNat ||| (IntKind.i64.wrap (↑b.toNat * 256) % 18446744073709551616).toNat) % 18446744073709551616).toNat ||| c.toNat) = v3 a b c := by
  have ha := a.toNat_lt; have hb := b.toNat_lt; have hc := c.toNat_lt
  rw [wrap_i64 (x := (a.toNat : Int) * 65536) (by omega) (by omega), wrap_i64 (x := (b.toNat : Int) * 256) (by omega) (by omega)]
  have h1 : (((a.toNat : Int) * 65536) % 18446744073709551616).toNat = a.toNat * 65536 := by omega
  have h2 : (((b.toNat : Int) * 256) % 18446744073709551616).toNat = b.toNat * 256 := by omega
  rw [h1, h2]
  have h3 : a.toNat * 65536 ||| b.toNat * 256 < 2 ^ 24 := Nat.or_lt_two_pow (by omega) (by omega)
  rw [wrap_i64 (x := ((a.toNat * 65536 ||| b.toNat * 256 : Nat) : Int)) (by omega) (by omega)]
  have h4 : (((a.toNat * 65536 ||| b.toNat * 256 : Nat) : Int) % 18446744073709551616).toNat = a.toNat * 65536 ||| b.toNat * 256 := by omega
  rw [h4, or3]
  have := v3_lt a b c
  exact wrap_i64 (by omega) (by omega)

def nn (s : List UInt8) (most : Int) : Int := if s.length < 3 ∨ most < v3o s then -1 else v3o s
theorem cSource (s : List UInt8) (most : Int) (k g : Nat) (m : Mem) (n : Nat) (hm : m k = some ⟨1, [[B s]], g⟩) :
    ACalls Try.prog 14 [.ptr k g 0 0, .v (.int .i64 most)] m n (fun d m' n' => d = .v (.int .i64 (nn s most)) ∧ m' = (if s.length < 3 then m else m.set k ⟨1, [[B (s.drop 3)]], g⟩) ∧ n' = n) := by
  refine acalls_vc [0, 1, 4, 5, 6, 12, 35] Try.func14 Try.ntmps14 (by kernel_rfl) rfl rfl (by simp) ?_
  simp -dsimp [hm, B]
  refine cnd_intro (fun h => ?_) (fun h => ?_)
  · simp at h ⊢
    simp [nn]; omega
  · simp at h ⊢
    obtain ⟨a, b, c, r, rfl⟩ : ∃ a b c r, s = a :: b :: c :: r := by
      match s, h with
      | a :: b :: c :: r, _ => exact ⟨a, b, c, r, rfl⟩
      | [], h => simp at h
      | [_], h => simp at h
      | [_, _], h => simp at h
    refine vdraw_of [0, 1, 3, 7, 15, 0, 32, 96, 224, 480, 1023, 0, 2048, 6144, 14336, 32767, 65535] [0, 1, 2, 3, 4, 5, 6, 7, 8, 9, 10, 11, 12, 13, 14, 15, 16] (by kernel_rfl) (by kernel_rfl) ?_
    simp -dsimp [hm, or_nf]
    refine ⟨by omega, by omega, by omega, by omega, cnd_intro (fun h => ?_) (fun h => ?_)⟩
    · simp at h ⊢
      simp [nn, v3o, B, h]; intro h; omega
    · simp at h ⊢
      have : ¬ most < (v3 a b c : Int) := by omega
      simp [nn, v3o, B, this]; intro h; omega


/-- What Get answers: behind the count. -/
def getN : Nat → List UInt8 → Option (List (List UInt8) × List UInt8)
  | 0, s => some ([], s)
  | c + 1, s => if s.length < 3 ∨ 20000 < v3o s ∨ (s.drop 3).length < v3o s then none
    else (getN c (s.drop (3 + v3o s))).map fun r => ((s.drop 3).take (v3o s) :: r.1, r.2)
def getO (s : List UInt8) : Option (List (List UInt8)) :=
  if s.length < 3 ∨ 64 < v3o s then none
  else match getN (v3o s) (s.drop 3) with
    | some (l, []) => some l
    | _ => none
def getA (s : List UInt8) : D := match getO s with
  | some l => .tup [sl1 l, .v .nilIface]
  | none => .tup [.sl 1 [], code 2]

def outD (acc : List (List UInt8)) (n kp : Nat) (d : D) (m : Mem) (n' : Nat) : Prop :=
  (acc = [] ∧ d = .v (.slice none 0 0)) ∨ ∃ k g, n ≤ k ∧ k < n' ∧ k ≠ kp ∧ d = .own k g 0 acc.length 1 ∧ m k = some ⟨1, acc.map fun s => [S s], g⟩
def getR (s : List UInt8) (n : Nat) (d : D) (m' : Mem) (n' : Nat) : Prop :=
  match getO s with
  | some l => ∃ x, d = .tup [x, .v .nilIface] ∧ outD l n n x m' n'
  | none => d = .tup [.v (.slice none 0 0), code 2]

theorem nn_neg {s : List UInt8} {most : Int} (h : nn s most < 0) : s.length < 3 ∨ most < v3o s := by
  unfold nn at h; split at h
  · assumption
  · omega
theorem nn_nonneg {s : List UInt8} {most : Int} (h : 0 ≤ nn s most) : 3 ≤ s.length ∧ v3o s ≤ most ∧ nn s most = v3o s := by
  unfold nn at h ⊢; split at h
  · omega
  · rename_i hh; rw [if_neg hh]; exact ⟨by omega, by omega, rfl⟩
theorem getN_step {c : Nat} {s : List UInt8} (h1 : 3 ≤ s.length) (h2 : v3o s ≤ 20000) (h3 : v3o s ≤ (s.drop 3).length) :
    getN (c + 1) s = (getN c ((s.drop 3).drop (v3o s))).map fun r => ((s.drop 3).take (v3o s) :: r.1, r.2) := by
  rw [getN, if_neg (by omega), List.drop_drop]
theorem getN_fail {c : Nat} {s : List UInt8} (h : s.length < 3 ∨ 20000 < v3o s ∨ (s.drop 3).length < v3o s) : getN (c + 1) s = none := by
  rw [getN, if_pos h]
theorem dropB (r : List UInt8) (a : Nat) : D.sl 1 (List.drop a (List.take (r.length - 3) (List.drop 3 (List.map bEnc r)))) = B ((r.drop 3).drop a) := by
  rw [List.take_of_length_le (by simp), B]
  simp [-List.drop_drop]
theorem pGet (s : List UInt8) (m : Mem) (n : Nat) : ACalls Try.prog 9 [B s] m n (fun d m' n' => getR s n d m' n' ∧ ∀ j, j < n → m' j = m j) := by
  refine acalls_vc [0, 2, 3, 4, 5, 6, 7, 11, 13, 14, 15, 24, 39] Try.func9 Try.ntmps9 (by kernel_rfl) rfl rfl (by simp) ?_
  simp -dsimp [B]
  refine aCall_of (cSource s 64 n 0 _ _ ?_) ?_
  · simp [B]
  rintro d m' n' ⟨rfl, hm', rfl⟩
  have hold0 : ∀ j, j < n → m' j = m j := by
    intro j hj; rw [hm']; split <;> simp (disch := omega) [set_ne]
  simp -dsimp
  refine cnd_intro (fun h => ?_) (fun h => ?_)
  · simp at h ⊢
    have : getO s = none := by unfold getO; rw [if_pos]; rcases nn_neg h with h | h <;> omega
    simp [getR, this, code]
    exact hold0
  · simp at h
    obtain ⟨hl, hv, e⟩ := nn_nonneg h
    rw [e]
    have hv' : v3o s ≤ 64 := by omega
    have hO : getO s = match getN (v3o s) (s.drop 3) with | some (l, []) => some l | _ => none := by
      unfold getO; rw [if_neg (by omega)]
    rw [if_neg (by omega)] at hm'
    have hmn : m' n = some ⟨1, [[B (s.drop 3)]], 0⟩ := by rw [hm']; simp
    clear hm' h
    simp -dsimp
    refine vloop_of (β := Nat) (fun i σ m2 n2 => i ≤ v3o s ∧ σ 4 = .ptr n 0 0 0 ∧ σ 13 = .v (.int .i64 (v3o s)) ∧ σ 14 = .v (.int .i64 i) ∧ (∀ j, j < n → m2 j = m j) ∧
      ∃ acc r, m2 n = some ⟨1, [[B r]], 0⟩ ∧ n < n2 ∧ acc.length = i ∧ outD acc n n (σ 6) m2 n2 ∧ getN (v3o s) (s.drop 3) = (getN (v3o s - i) r).map fun x => (acc ++ x.1, x.2)) (fun i => v3o s - i) 0 ?_ ?_
    · simp [hmn, outD]
      exact ⟨hold0, [], _, rfl, rfl, by simp⟩
    rintro i σ m2 n2 ⟨hi, h4, h13, h14, hold, acc, r, hm2, hn2, hacc, hout, hget⟩
    simp -dsimp [h4, h13, h14]
    refine cnd_intro (fun h => ?_) (fun h => ?_)
    · simp at h
      simp -dsimp
      refine aCall_of (cSource r 20000 n 0 _ _ hm2) ?_
      rintro d m3 n3 ⟨rfl, hm3, rfl⟩
      have hold3 : ∀ j, j ≠ n → m3 j = m2 j := by
        intro j hj; rw [hm3]; split <;> simp [hj]
      have hgn : v3o s - i = (v3o s - (i + 1)) + 1 := by omega
      obtain ⟨x, hx⟩ : ∃ x, m3 n = some ⟨1, [[B x]], 0⟩ := by
        rw [hm3]; split
        · exact ⟨_, hm2⟩
        · exact ⟨r.drop 3, by simp⟩
      by_cases hneg : nn r 20000 < 0
      · simp -dsimp [hx, B, hneg]
        have hg : getO s = none := by
          rw [hO, hget, hgn, getN_fail]; · simp
          rcases nn_neg hneg with h | h <;> omega
        simp [getR, hg, code]
        intro j hj; rw [hold3 j (by omega), hold j hj]
      · obtain ⟨hl2, hv2, e2⟩ := nn_nonneg (Int.not_lt.1 hneg)
        rw [if_neg (by omega)] at hm3
        have hxr : m3 n = some ⟨1, [[.sl 1 ((r.drop 3).map bEnc)]], 0⟩ := by rw [hm3]; simp [B]
        rw [e2] at hneg ⊢
        simp -dsimp [hxr, hneg]
        refine cnd_intro (fun hc => ?_) (fun hc => ?_)
        · simp at hc ⊢
          have hg : getO s = none := by
            rw [hO, hget, hgn, getN_fail]; · simp
            right; right; simp; omega
          simp [getR, hg, code]
          intro j hj; rw [hold3 j (by omega), hold j hj]
        · simp at hc ⊢
          have q0 : n ≠ n3 := by omega
          have q1 : n ≠ n3 + 1 := by omega
          have hgs := getN_step (c := v3o s - (i + 1)) hl2 (by omega) (by simp; omega)
          rcases hout with ⟨rfl, h6⟩ | ⟨k, g, hk1, hk2, hk3, h6, hmk⟩
          · simp -dsimp [h6, hxr, q0, q1]
            refine ⟨hc, i + 1, by omega, by omega, ?_, fun j hj => ?_, [(r.drop 3).take (v3o r)], (r.drop 3).drop (v3o r), dropB r _, by omega, ?_, .inr ⟨n3 + 1, 0, by omega, by omega, by omega, rfl, ?_⟩, ?_⟩
            · rw [wrap_i64 (by omega) (by omega)]; simp
            · have : j ≠ n := by omega
              have : j ≠ n3 := by omega
              have : j ≠ n3 + 1 := by omega
              simp [*]
            · simp at hacc; simp; omega
            · have q2 : n3 + 1 ≠ n := by omega
              simp [S, q2]
            · rw [hget, hgn, hgs]
              cases getN (v3o s - (i + 1)) (List.drop (v3o r) (List.drop 3 r)) <;> simp
          · have q4 : n ≠ k := fun h => hk3 h.symm
            have q5 : k ≠ n3 := by omega
            have q6 : k ≠ n3 + 1 := by omega
            simp -dsimp [h6, hxr, hold3, hk3, hmk, q0, q1, q4, q5, q6]
            refine ⟨hc, by omega, hc, i + 1, by omega, by omega, ?_, fun j hj => ?_, acc ++ [(r.drop 3).take (v3o r)], (r.drop 3).drop (v3o r), dropB r _, by omega, ?_, .inr ⟨k, g + 1, by omega, by omega, hk3, by simp, ?_⟩, ?_⟩
            · rw [wrap_i64 (by omega) (by omega)]; simp
            · have a1 : j ≠ n := by omega
              have a2 : j ≠ n3 := by omega
              have a3 : j ≠ k := by omega
              simp [a1, a2, a3, hold3, hold j hj]
            · simp; omega
            · simp [S, hk3]
            · rw [hget, hgn, hgs]
              cases getN (v3o s - (i + 1)) (List.drop (v3o r) (List.drop 3 r)) <;> simp
    · simp at h
      have hiv : i = v3o s := by omega
      rw [hiv] at hget
      simp -dsimp [hm2, B]
      refine cnd_intro (fun hc => ?_) (fun hc => ?_)
      · simp at hc ⊢
        have hg : getO s = none := by
          rw [hO, hget]
          cases r with
          | nil => simp at hc
          | cons a b => simp [getN]
        simp [getR, hg, code]
        exact hold
      · simp at hc ⊢
        have hg : getO s = some acc := by
          rw [hO, hget]
          cases r with
          | nil => simp [getN]
          | cons a b => simp at hc
        simp [getR, hg, code]
        exact ⟨hout, hold⟩

theorem rs_S (β : Nat → Nat) (m : Mem) (f : Nat) : ((fun e => List.map (rs β m f) e) ∘ fun s => [S s]) = fun s => [S s] := by funext b; simp [S]
theorem belowE_S (n : Nat) (l : List (List UInt8)) : belowE n (l.map fun s => [S s]) = true := by
  induction l with
  | nil => simp [belowE]
  | cons b r ih => simp only [List.map_cons, belowE, belowL, S, below, Bool.and_true, Bool.true_and]; exact ih
attribute [simp] rs_S belowE_S
theorem sl1_eq (l : List (List UInt8)) : sl1 l = .sl 1 (l.map fun s => [S s]) := rfl
theorem cGet (s : List UInt8) (m : Mem) (n : Nat) : ACalls Try.prog 9 [B s] m n (fun d m' n' => d = getA s ∧ m' = m ∧ n' = n) := by
  refine acalls_pure (pGet s m n) ?_
  rintro d m' n' ⟨h, hold⟩ β
  unfold getR at h
  unfold getA
  split at h <;> rename_i hg
  · obtain ⟨x, rfl, ⟨rfl, rfl⟩ | ⟨k, g, h1, h2, h3, rfl, h4⟩⟩ := h
    · refine ⟨2, _, ?_, ?_, hold, rfl⟩
      · simp [sl1]; exact Le_tup (.cons (Le_nil 1) (.cons (Le.refl _) .nil))
      · simp
    · refine ⟨3, _, ?_, ?_, hold, rfl⟩
      · simp [h1, h4, sl1_eq]; exact Le.refl _
      · simp [h1, h4]
  · subst h
    refine ⟨2, _, ?_, ?_, hold, rfl⟩
    · simp [code]; exact Le_tup (.cons (Le_nil 1) (.cons (Le.refl _) .nil))
    · simp [code]

theorem cSame (a b : List (List UInt8)) (ha : a.length ≤ 1000000) (m : Mem) (n : Nat) : ACalls Try.prog 11 [sl1 a, sl1 b] m n (fun d m' n' => d = .v (.bool (decide (a = b))) ∧ m' = m ∧ n' = n) := by
  refine acalls_vc [0, 1, 4, 5, 10, 14, 25] Try.func11 Try.ntmps11 (by kernel_rfl) rfl rfl (by simp) ?_
  simp -dsimp [sl1]
  refine cnd_intro (fun h => ?_) (fun h => ?_)
  · simp at h ⊢
    intro e; subst e; omega
  · simp at h ⊢
    have hlen : a.length = b.length := by omega
    refine vloop_of (β := Nat) (fun i σ m2 n2 => i ≤ a.length ∧ σ 0 = sl1 a ∧ σ 1 = sl1 b ∧ σ 5 = .v (.int .i64 i) ∧ m2 = m ∧ n2 = n ∧ a.take i = b.take i) (fun i => a.length - i) 0 (by simp [sl1]) ?_
    rintro i σ m2 n2 ⟨hi, h0, h1, h5, rfl, rfl, he⟩
    simp -dsimp [h0, h1, h5, sl1]
    refine cnd_intro (fun h => ?_) (fun h => ?_)
    · simp at h
      have hb : i < b.length := by omega
      simp -dsimp [h, hb]
      refine vdraw_of [0, 0, 3, 7, 0, 0, 48, 112, 255] [0, 1, 2, 3, 4, 5, 6, 7, 8] (by kernel_rfl) (by kernel_rfl) ?_
      simp -dsimp [h, hb]
      refine cnd_intro (fun hc => ?_) (fun hc => ?_)
      · simp at hc ⊢
        intro e; subst e; exact hc rfl
      · simp at hc ⊢
        refine ⟨i + 1, by omega, by omega, by simp [sl1], by simp [sl1], ?_, ?_⟩
        · rw [wrap_i64 (by omega) (by omega)]; simp
        · rw [List.take_succ_eq_append_getElem h, List.take_succ_eq_append_getElem hb, he, hc]
    · simp at h
      have hia : i = a.length := by omega
      subst hia
      rw [List.take_of_length_le (by omega), List.take_of_length_le (by omega)] at he
      subst he
      simp
end Go.Proofs.Mv.App
open Go Go.Proofs Go.Proofs.Mv.V
set_option maxRecDepth 10000
namespace Go.Proofs.Mv.App
theorem mul64 (a b c : UInt8) : IntKind.i64.wrap (IntKind.i64.wrap (IntKind.i64.wrap (65536 * ↑a.toNat) + IntKind.i64.wrap (256 * ↑b.toNat)) + ↑c.toNat) = v3 a b c := by
  have ha := a.toNat_lt; have hb := b.toNat_lt; have hc := c.toNat_lt
  rw [wrap_i64 (x := 65536 * (a.toNat : Int)) (by omega) (by omega), wrap_i64 (x := 256 * (b.toNat : Int)) (by omega) (by omega),
    wrap_i64 (x := 65536 * (a.toNat : Int) + 256 * (b.toNat : Int)) (by omega) (by omega), wrap_i64 (by omega) (by omega)]
  simp [v3]
def getRA (s : List UInt8) : D := match getO s with
  | some l => .tup [sl1 l, .v (.bool true)]
  | none => .tup [.any, .v (.bool false)]
def getRR (s : List UInt8) (n : Nat) (d : D) (m' : Mem) (n' : Nat) : Prop :=
  match getO s with
  | some l => ∃ x, d = .tup [x, .v (.bool true)] ∧ ∃ q, outD l n q x m' n'
  | none => ∃ x l, d = .tup [x, .v (.bool false)] ∧ ∃ q, outD l n q x m' n'
theorem three {s : List UInt8} (h : 3 ≤ s.length) : ∃ a b c r, s = a :: b :: c :: r := by
  match s, h with
  | a :: b :: c :: r, _ => exact ⟨a, b, c, r, rfl⟩
  | [], h => simp at h
  | [_], h => simp at h
  | [_, _], h => simp at h
theorem getO_none {s : List UInt8} (h : getN (v3o s) (s.drop 3) = none) : getO s = none := by unfold getO; split; · rfl
                                                                                              · rw [h]
theorem getO_some {s : List UInt8} (h3 : 3 ≤ s.length) (hv : v3o s ≤ 64) {l : List (List UInt8)} (h : getN (v3o s) (s.drop 3) = some (l, [])) : getO s = some l := by
  unfold getO; rw [if_neg (by omega), h]
theorem getO_rest {s : List UInt8} {l : List (List UInt8)} {a : UInt8} {r : List UInt8} (h : getN (v3o s) (s.drop 3) = some (l, a :: r)) : getO s = none := by
  unfold getO; split; · rfl
  · rw [h]
set_option maxHeartbeats 4000000 in
theorem pRefGet (s : List UInt8) (m : Mem) (n : Nat) : ACalls Try.prog 10 [B s] m n (fun d m' n' => getRR s n d m' n' ∧ ∀ j, j < n → m' j = m j) := by
  refine acalls_vc [0, 2, 3, 4, 5, 6, 7, 8, 11, 29, 32, 39, 72] Try.func10 Try.ntmps10 (by kernel_rfl) rfl rfl (by simp) ?_
  simp -dsimp [B]
  refine cnd_intro (fun h => ?_) (fun h => ?_)
  · simp at h ⊢
    have : getO s = none := by unfold getO; rw [if_pos (by omega)]
    simp [getRR, this]
    exact ⟨[], 0, .inl ⟨rfl, rfl⟩⟩
  · simp at h
    have h3 : 3 ≤ s.length := by omega
    obtain ⟨a, b, c, r0, rfl⟩ := three h3
    have hv : v3o (a :: b :: c :: r0) = v3 a b c := by simp [v3o]
    generalize hs : a :: b :: c :: r0 = s at *
    have ga : s[0]? = some a := by rw [← hs]; simp
    have gb : s[1]? = some b := by rw [← hs]; simp
    have gc : s[2]? = some c := by rw [← hs]; simp
    simp -dsimp
    refine vdraw_of [0, 1, 3, 7, 15, 0, 32, 96, 224, 480, 1023, 0, 2048, 6144, 14336, 32767, 65535] [0, 1, 2, 3, 4, 5, 6, 7, 8, 9, 10, 11, 12, 13, 14, 15, 16] (by kernel_rfl) (by kernel_rfl) ?_
    simp -dsimp [mul64, ga, gb, gc]
    rw [← hv]
    refine ⟨by omega, by omega, by omega, cnd_intro (fun h => ?_) (fun h => ?_)⟩
    · simp at h ⊢
      have : getO s = none := by unfold getO; rw [if_pos (by omega)]
      simp [getRR, this]
      exact ⟨[], 0, .inl ⟨rfl, rfl⟩⟩
    · simp at h
      simp -dsimp
      refine vloop_of (β := Nat) (fun i σ m2 n2 => i ≤ v3o s ∧ σ 0 = B s ∧ σ 6 = .v (.int .i64 (v3o s)) ∧ σ 7 = .v (.int .i64 i) ∧ (∀ j, j < n → m2 j = m j) ∧ n ≤ n2 ∧
        ∃ (acc : List (List UInt8)) (at_ : Nat), σ 5 = .v (.int .i64 at_) ∧ at_ ≤ s.length ∧ at_ ≤ 3 + 20003 * i ∧ acc.length = i ∧ outD acc n n2 (σ 4) m2 n2 ∧ getN (v3o s) (s.drop 3) = (getN (v3o s - i) (s.drop at_)).map fun x => (acc ++ x.1, x.2)) (fun i => v3o s - i) 0 ?_ ?_
      · simp [B]
        refine ⟨[], 3, rfl, h3, by omega, rfl, .inl ⟨rfl, rfl⟩, by simp⟩
      rintro i σ m2 n2 ⟨hi, h0, h6, h7, hold, hn2, acc, at_, h5, hat, hat2, hacc, hout, hget⟩
      simp -dsimp [h0, h5, h6, h7, B]
      refine cnd_intro (fun hq => ?_) (fun hq => ?_)
      · simp at hq
        have hgn : v3o s - i = v3o s - (i + 1) + 1 := by omega
        simp -dsimp
        refine cnd_intro (fun hc => ?_) (fun hc => ?_)
        · rw [wrap_i64 (by omega) (by omega)] at hc
          simp at hc ⊢
          have hg : getO s = none := getO_none (by rw [hget, hgn, getN_fail]; · rfl
                                                   left; simp; omega)
          simp [getRR, hg]
          exact ⟨⟨[], 0, .inl ⟨rfl, rfl⟩⟩, hold⟩
        · rw [wrap_i64 (by omega) (by omega)] at hc
          simp at hc
          obtain ⟨a', b', c', r', hr'⟩ := three (s := s.drop at_) (by simp; omega)
          have ha' : s[at_]? = some a' := by have := congrArg (fun l => l[0]?) hr'; simpa using this
          have hb' : s[at_ + 1]? = some b' := by have := congrArg (fun l => l[1]?) hr'; simpa using this
          have hc' : s[at_ + 2]? = some c' := by have := congrArg (fun l => l[2]?) hr'; simpa using this
          have w1 : IntKind.i64.wrap ((at_ : Int) + 1) = (at_ : Int) + 1 := wrap_i64 (by omega) (by omega)
          have w2 : IntKind.i64.wrap ((at_ : Int) + 2) = (at_ : Int) + 2 := wrap_i64 (by omega) (by omega)
          have w3 : IntKind.i64.wrap ((at_ : Int) + 3) = (at_ : Int) + 3 := wrap_i64 (by omega) (by omega)
          have u1 : ((at_ : Int) + 1).toNat = at_ + 1 := by omega
          have u2 : ((at_ : Int) + 2).toNat = at_ + 2 := by omega
          have hv2 : v3o (s.drop at_) = v3 a' b' c' := by rw [hr']; simp [v3o]
          simp -dsimp
          refine vdraw_of [0, 0, 3, 7, 15, 31, 0, 0, 128, 448, 960, 1984, 4032, 8191, 0, 0, 32768, 114688, 245760, 507904, 1048575, 2097151] [0, 1, 2, 3, 4, 5, 6, 7, 8, 9, 10, 11, 12, 13, 14, 15, 16, 17, 18, 19, 20, 21] (by kernel_rfl) (by kernel_rfl) ?_
          have hk : ∀ x : Prop, x → at_ < s.length ∧ (0 ≤ (at_ : Int) + 1 ∧ (at_ : Int) + 1 < s.length) ∧ (0 ≤ (at_ : Int) + 2 ∧ (at_ : Int) + 2 < s.length) ∧ x := fun x hx => ⟨by omega, ⟨by omega, by omega⟩, ⟨by omega, by omega⟩, hx⟩
          by_cases hbig : (20000 : Int) < ((v3 a' b' c' : Nat) : Int)
          · simp -dsimp [w1, w2, w3, u1, u2, ha', hb', hc', mul64, hbig]
            refine hk _ ?_
            have hg : getO s = none := getO_none (by rw [hget, hgn, getN_fail]; · rfl
                                                     right; left; omega)
            simp [getRR, hg]
            exact ⟨⟨[], 0, .inl ⟨rfl, rfl⟩⟩, hold⟩
          · have w4 : IntKind.i64.wrap ((at_ : Int) + 3 + ((v3 a' b' c' : Nat) : Int)) = (at_ : Int) + 3 + ((v3 a' b' c' : Nat) : Int) := wrap_i64 (by omega) (by omega)
            simp -dsimp [w1, w2, w3, w4, u1, u2, ha', hb', hc', mul64, hbig]
            refine hk _ ?_
            refine cnd_intro (fun hz => ?_) (fun hz => ?_)
            · simp at hz ⊢
              have hg : getO s = none := getO_none (by rw [hget, hgn, getN_fail]; · rfl
                                                       right; right; simp; omega)
              simp [getRR, hg]
              exact ⟨⟨[], 0, .inl ⟨rfl, rfl⟩⟩, hold⟩
            · simp at hz
              have hgs := getN_step (c := v3o s - (i + 1)) (s := s.drop at_) (by simp; omega) (by omega) (by simp; omega)
              rw [hv2] at hgs
              obtain ⟨t, ht⟩ : ∃ t, t = ((s.drop at_).drop 3).take (v3 a' b' c') := ⟨_, rfl⟩
              have sq : List.drop (at_ + 3) (List.take (at_ + 3 + v3 a' b' c') (List.map bEnc s)) = List.map bEnc t := by
                rw [ht, ← List.map_take, ← List.map_drop, List.drop_take, List.drop_drop]
                congr 2; omega
              have u3 : ((at_ : Int) + 3).toNat = at_ + 3 := by omega
              have u4 : ((at_ : Int) + 3 + ((v3 a' b' c' : Nat) : Int)).toNat = at_ + 3 + v3 a' b' c' := by omega
              rw [← ht] at hgs
              have hd : List.drop (v3 a' b' c') (List.drop 3 (List.drop at_ s)) = List.drop (at_ + 3 + v3 a' b' c') s := by
                rw [List.drop_drop, List.drop_drop]; congr 1; omega
              rw [hd] at hgs
              simp -dsimp
              rcases hout with ⟨rfl, h4⟩ | ⟨k, g, hk1, hk2, hk3, h4, hmk⟩
              · simp -dsimp [h4, w4, u3, u4, sq]
                refine ⟨⟨by omega, by omega, by omega⟩, i + 1, by omega, by omega, by simp [B], ?_, fun j hj => ?_, by omega, [t], at_ + 3 + v3 a' b' c', by simp, by omega, by omega, ?_, .inr ⟨n2 + 1, 0, by omega, by omega, by omega, rfl, ?_⟩, ?_⟩
                · rw [wrap_i64 (by omega) (by omega)]; simp
                · have a1 : j ≠ n2 := by omega
                  have a2 : j ≠ n2 + 1 := by omega
                  simp [a1, a2, hold j hj]
                · simp at hacc; simp; omega
                · simp [S]
                · rw [hget, hgn, hgs]
                  cases getN (v3o s - (i + 1)) (List.drop (at_ + 3 + v3 a' b' c') s) <;> simp
              · have q5 : k ≠ n2 := by omega
                simp -dsimp [h4, hmk, w4, u3, u4, sq, q5]
                refine ⟨⟨by omega, by omega, by omega⟩, by omega, i + 1, by omega, by omega, by simp [B], ?_, fun j hj => ?_, by omega, acc ++ [t], at_ + 3 + v3 a' b' c', by simp, by omega, by omega, ?_, .inr ⟨k, g + 1, by omega, by omega, by omega, by simp, ?_⟩, ?_⟩
                · rw [wrap_i64 (by omega) (by omega)]; simp
                · have a1 : j ≠ n2 := by omega
                  have a2 : j ≠ k := by omega
                  simp [a1, a2, hold j hj]
                · simp; omega
                · simp [S]
                · rw [hget, hgn, hgs]
                  cases getN (v3o s - (i + 1)) (List.drop (at_ + 3 + v3 a' b' c') s) <;> simp
      · simp at hq
        have hiv : i = v3o s := by omega
        rw [hiv] at hget
        simp -dsimp [B]
        refine ⟨?_, hold⟩
        simp [getN] at hget
        cases hr : List.drop at_ s with
        | nil =>
          rw [hr] at hget
          have hl : at_ = s.length := by have := congrArg List.length hr; simp at this; omega
          have hg : getO s = some acc := getO_some h3 (by omega) hget
          have he : ((at_ : Int) == (s.length : Int)) = true := by simp; omega
          simp only [getRR, hg, he]
          exact ⟨_, rfl, _, hout⟩
        | cons x y =>
          rw [hr] at hget
          have hl : at_ < s.length := by have := congrArg List.length hr; simp at this; omega
          have hg : getO s = none := getO_rest hget
          have he : ((at_ : Int) == (s.length : Int)) = false := by simp; omega
          simp only [getRR, hg, he]
          exact ⟨_, acc, rfl, _, hout⟩

theorem cRefGet (s : List UInt8) (m : Mem) (n : Nat) : ACalls Try.prog 10 [B s] m n (fun d m' n' => d = getRA s ∧ m' = m ∧ n' = n) := by
  refine acalls_pure (pRefGet s m n) ?_
  rintro d m' n' ⟨h, hold⟩ β
  unfold getRR at h
  unfold getRA
  split at h <;> rename_i hg
  · obtain ⟨x, rfl, q, ⟨rfl, rfl⟩ | ⟨k, g, h1, h2, h3, rfl, h4⟩⟩ := h
    · refine ⟨2, _, ?_, ?_, hold, rfl⟩
      · simp [sl1]; exact Le_tup (.cons (Le_nil 1) (.cons (Le.refl _) .nil))
      · simp
    · refine ⟨3, _, ?_, ?_, hold, rfl⟩
      · simp [h1, h4, sl1_eq]; exact Le.refl _
      · simp [h1, h4]
  · obtain ⟨x, l, rfl, q, ⟨rfl, rfl⟩ | ⟨k, g, h1, h2, h3, rfl, h4⟩⟩ := h
    · refine ⟨2, _, ?_, ?_, hold, rfl⟩
      · simp; exact Le_tup (.cons (Le_any _) (.cons (Le.refl _) .nil))
      · simp
    · refine ⟨3, _, ?_, ?_, hold, rfl⟩
      · simp [h1, h4]; exact Le_tup (.cons (Le_any _) (.cons (Le.refl _) .nil))
      · simp [h1, h4]
end Go.Proofs.Mv.App
open Go Go.Proofs Go.Proofs.Mv.V
set_option maxRecDepth 10000
namespace Go.Proofs.Mv.App
def UpR : D → Mem → Nat → Prop := fun d _ _ => d = .v (.bool true)
theorem cUp (m : Mem) (n : Nat) : ACalls Try.prog 5 [] m n (fun d m' n' => d = .v (.bool true) ∧ m' = m ∧ n' = n) := by
  refine acalls_pure (R' := fun d m' n' => d = .v (.bool true) ∧ ∀ j, j < n → m' j = m j) ?_ ?_
  · refine acalls_vc [0, 1, 2, 4] Try.func5 Try.ntmps5 (by kernel_rfl) rfl rfl (by simp) ?_
    simp -dsimp
    refine aCall_pub n ⟨1, [[.v (.string (ofL [97]))]], 0⟩ 1 (by simp) fun β => ?_
    simp -dsimp
    refine aCall_of (cPut [[97]] (by simp) _ _) ?_
    rintro d m' n' ⟨rfl, rfl, rfl⟩
    have e1 : putA [[97]] = .tup [.sl 1 ((putB [[97]]).map bEnc), .v .nilIface] := by simp [putA, fits]
    have e2 : putB [[97]] = [0, 0, 1, 0, 0, 1, 97] := by decide
    rw [e1, e2]
    simp -dsimp
    refine aCall_le (args' := [B []]) (.cons (Le_nil 1) .nil) ?_
    refine aCall_of (cGet [] _ _) ?_
    rintro d m' n' ⟨rfl, rfl, rfl⟩
    have e3 : getA [] = .tup [.sl 1 [], code 2] := by simp [getA, getO]
    rw [e3]
    simp -dsimp [code]
    intro j hj
    rw [del_ne _ _ _ (by omega), set_ne _ _ _ _ (by omega)]
  · rintro d m' n' ⟨rfl, hk⟩ β
    exact ⟨1, _, by simp; exact Le.refl _, by simp, hk, rfl⟩
theorem getO_len {s : List UInt8} {l : List (List UInt8)} (h : getO s = some l) : l.length ≤ 64 := by
  have hN : ∀ (c : Nat) (s : List UInt8) (x : List (List UInt8) × List UInt8), getN c s = some x → x.1.length = c := by
    intro c
    induction c with
    | zero => intro s x h; simp [getN] at h; subst h; rfl
    | succ c ih =>
      intro s x h
      rw [getN] at h
      split at h
      · cases h
      · rw [Option.map_eq_some_iff] at h
        obtain ⟨y, h1, rfl⟩ := h
        simp [ih _ _ h1]
  unfold getO at h
  split at h
  · cases h
  · split at h
    · rename_i l' h2; cases h; have := hN _ _ _ h2; simp at this; omega
    · cases h
theorem mapB_inj (l : List UInt8) : unB (l.map bEnc) = l := unB_bEnc l
set_option maxHeartbeats 4000000 in
theorem cPuts (l : List (List UInt8)) (b : List UInt8) (m : Mem) (n : Nat) : ACalls Try.prog 3 [sl1 l, B b] m n (fun d m' n' => d = .v (.bool true) ∧ m' = m ∧ n' = n) := by
  refine acalls_vc [0, 1, 4, 5, 6, 7, 8, 9, 10, 11, 12, 16, 50, 62] Try.func3 Try.ntmps3 (by kernel_rfl) rfl rfl (by simp) ?_
  simp -dsimp
  refine aCall_of (cUp _ _) ?_
  rintro d m' n' ⟨rfl, rfl, rfl⟩
  simp -dsimp [sl1]
  refine cnd_intro (fun h => ?_) (fun h => ?_)
  · simp
  · simp at h
    simp -dsimp
    refine aCall_of (cPut l (by omega) _ _) ?_
    rintro d m' n' ⟨rfl, rfl, rfl⟩
    by_cases hf : fits l = true
    · have e1 : putA l = .tup [.sl 1 ((putB l).map bEnc), .v .nilIface] := by simp [putA, hf]
      rw [e1]
      simp -dsimp
      refine aCall_of (refFits l _ _ (by omega)) ?_
      rintro d m' n' ⟨rfl, rfl, rfl⟩
      rw [hf]
      simp -dsimp
      refine vdraw_of [0, 1, 3, 7, 15, 31, 63, 31, 159, 511, 1023, 2047, 4095, 8191, 16383, 32767, 65535, 65535, 262143, 524287, 1048575, 2097151, 4194303, 8388607, 16777215, 33554431] [0, 1, 2, 3, 4, 5, 6, 7, 8, 9, 10, 11, 12, 13, 14, 15, 16, 17, 18, 19, 20, 21, 22, 23, 24, 25] (by kernel_rfl) (by kernel_rfl) ?_
      simp -dsimp
      have hf' := hf
      simp [fits] at hf'
      refine aCall_of (refPut l hf'.2 hf'.1 _ _) ?_
      rintro d m' n' ⟨rfl, rfl, rfl⟩
      simp -dsimp [S]
      refine aCall_of (cGet b _ _) ?_
      rintro d m' n' ⟨rfl, rfl, rfl⟩
      cases hg : getO b with
      | none =>
        have e2 : getA b = .tup [.sl 1 [], code 2] := by simp [getA, hg]
        rw [e2]
        simp -dsimp [code]
        refine aCall_of (cRefGet b _ _) ?_
        rintro d m' n' ⟨rfl, rfl, rfl⟩
        have e3 : getRA b = .tup [.any, .v (.bool false)] := by simp [getRA, hg]
        rw [e3]
        simp -dsimp
      | some x =>
        have e2 : getA b = .tup [sl1 x, .v .nilIface] := by simp [getA, hg]
        rw [e2]
        simp -dsimp
        refine aCall_of (cRefGet b _ _) ?_
        rintro d m' n' ⟨rfl, rfl, rfl⟩
        have e3 : getRA b = .tup [sl1 x, .v (.bool true)] := by simp [getRA, hg]
        rw [e3]
        simp -dsimp
        refine aCall_of (cSame x x (by have := getO_len hg; omega) _ _) ?_
        rintro d m' n' ⟨rfl, rfl, rfl⟩
        simp -dsimp
    · have hf' : fits l = false := by simpa using hf
      have e1 : putA l = .tup [.sl 1 [], code 3] := by simp [putA, hf']
      rw [e1]
      simp -dsimp [code]
      refine aCall_of (refFits l _ _ (by omega)) ?_
      rintro d m' n' ⟨rfl, rfl, rfl⟩
      rw [hf']
      simp -dsimp
      refine vdraw_of [0, 1, 3, 7, 15, 31, 63, 31, 159, 511, 1023, 2047, 4095, 8191, 16383, 32767, 65535, 65535, 262143, 524287, 1048575, 2097151, 4194303, 8388607, 16777215, 33554431] [0, 1, 2, 3, 4, 5, 6, 7, 8, 9, 10, 11, 12, 13, 14, 15, 16, 17, 18, 19, 20, 21, 22, 23, 24, 25] (by kernel_rfl) (by kernel_rfl) ?_
      simp -dsimp
      refine aCall_of (cGet b _ _) ?_
      rintro d m' n' ⟨rfl, rfl, rfl⟩
      cases hg : getO b with
      | none =>
        have e2 : getA b = .tup [.sl 1 [], code 2] := by simp [getA, hg]
        rw [e2]
        simp -dsimp [code]
        refine aCall_of (cRefGet b _ _) ?_
        rintro d m' n' ⟨rfl, rfl, rfl⟩
        have e3 : getRA b = .tup [.any, .v (.bool false)] := by simp [getRA, hg]
        rw [e3]
        simp -dsimp
      | some x =>
        have e2 : getA b = .tup [sl1 x, .v .nilIface] := by simp [getA, hg]
        rw [e2]
        simp -dsimp
        refine aCall_of (cRefGet b _ _) ?_
        rintro d m' n' ⟨rfl, rfl, rfl⟩
        have e3 : getRA b = .tup [sl1 x, .v (.bool true)] := by simp [getRA, hg]
        rw [e3]
        simp -dsimp
        refine aCall_of (cSame x x (by have := getO_len hg; omega) _ _) ?_
        rintro d m' n' ⟨rfl, rfl, rfl⟩
        simp -dsimp
end Go.Proofs.Mv.App
open Go Go.Proofs Go.Proofs.Mv.V
set_option maxRecDepth 10000
namespace Go.Proofs.Mv.App
def flat (l : List (List UInt8)) : List UInt8 := l.flatMap fun s => enc3 s.length ++ s
theorem byt_toNat (v : Int) : ((byt v).toNat : Int) = v % 256 := by
  have h1 : 0 ≤ v % 256 := Int.emod_nonneg _ (by omega)
  have h2 : v % 256 < 256 := Int.emod_lt_of_pos _ (by omega)
  unfold byt
  rw [UInt8.toNat_ofNat']
  omega
theorem v3_enc (k : Nat) (h : k < 16777216) (r : List UInt8) : v3o (enc3 k ++ r) = k := by
  have a := byt_toNat ((k : Int) / 65536)
  have b := byt_toNat ((k : Int) / 256)
  have c := byt_toNat (k : Int)
  simp only [v3o, enc3, List.cons_append, List.getD_cons_zero, List.getD_cons_succ, v3]
  omega
theorem byt_of (x : UInt8) (v : Int) (h : v % 256 = x.toNat) : byt v = x := by
  have := byt_toNat v
  have : (byt v).toNat = x.toNat := by omega
  exact UInt8.toNat_inj.1 this
theorem enc_v3 (a b c : UInt8) : enc3 (v3 a b c) = [a, b, c] := by
  have ha := a.toNat_lt; have hb := b.toNat_lt; have hc := c.toNat_lt
  unfold enc3 v3
  rw [byt_of a _ (by omega), byt_of b _ (by omega), byt_of c _ (by omega)]
theorem enc_v3o {s : List UInt8} (h : 3 ≤ s.length) : enc3 (v3o s) ++ s.drop 3 = s := by
  obtain ⟨a, b, c, r, rfl⟩ := three h
  have : v3o (a :: b :: c :: r) = v3 a b c := by simp [v3o]
  rw [this, enc_v3]; simp
theorem getN_flat : ∀ (l : List (List UInt8)) (r : List UInt8), (∀ s ∈ l, s.length ≤ 20000) → getN l.length (flat l ++ r) = some (l, r) := by
  intro l
  induction l with
  | nil => intro r _; simp [getN, flat]
  | cons s l ih =>
    intro r h
    have hs := h s (by simp)
    have hv : v3o (flat (s :: l) ++ r) = s.length := by
      simp only [flat, List.flatMap_cons, List.append_assoc]
      exact v3_enc _ (by omega) _
    have hd : (flat (s :: l) ++ r).drop 3 = s ++ (flat l ++ r) := by
      simp only [flat, List.flatMap_cons, List.append_assoc]
      rw [List.drop_append_of_le_length (by simp)]
      simp [enc3]
    have hl : 3 ≤ (flat (s :: l) ++ r).length := by
      simp only [flat, List.flatMap_cons, List.length_append, enc3_len]; omega
    rw [List.length_cons, getN_step hl (by omega) (by rw [hd, hv]; simp), hd, hv]
    simp [ih r (fun x hx => h x (by simp [hx]))]
theorem getN_inv : ∀ (c : Nat) (s : List UInt8) (l : List (List UInt8)) (r : List UInt8), getN c s = some (l, r) → l.length = c ∧ (∀ x ∈ l, x.length ≤ 20000) ∧ s = flat l ++ r := by
  intro c
  induction c with
  | zero => intro s l r h; simp [getN] at h; obtain ⟨rfl, rfl⟩ := h; simp [flat]
  | succ c ih =>
    intro s l r h
    rw [getN] at h
    split at h
    · cases h
    · rename_i hc
      rw [Option.map_eq_some_iff] at h
      obtain ⟨⟨l', r'⟩, h1, h2⟩ := h
      obtain ⟨rfl, rfl⟩ := Prod.mk.inj h2
      obtain ⟨i1, i2, i3⟩ := ih _ _ _ h1
      refine ⟨by simp [i1], ?_, ?_⟩
      · intro x hx
        rcases List.mem_cons.1 hx with rfl | hx
        · simp; omega
        · exact i2 x hx
      · have hs := enc_v3o (s := s) (by omega)
        have hlen : ((s.drop 3).take (v3o s)).length = v3o s := by rw [List.length_take]; omega
        simp only [flat, List.flatMap_cons, hlen, List.append_assoc]
        have e : List.flatMap (fun s => enc3 s.length ++ s) l' ++ r' = s.drop (3 + v3o s) := i3.symm
        rw [e, ← List.drop_drop, List.take_append_drop, hs]
theorem getO_inv {s : List UInt8} {l : List (List UInt8)} (h : getO s = some l) : fits l = true ∧ putB l = s := by
  unfold getO at h
  split at h
  · cases h
  · rename_i hc
    split at h
    · rename_i l' h2
      cases h
      obtain ⟨i1, i2, i3⟩ := getN_inv _ _ _ _ h2
      refine ⟨by simp [fits]; exact ⟨i2, by omega⟩, ?_⟩
      have hs := enc_v3o (s := s) (by omega)
      rw [i3] at hs
      rw [← hs]
      simp [putB, flat, i1]
    · cases h
theorem putB_v3 (l : List (List UInt8)) (h : l.length ≤ 64) (r : List UInt8) : v3o (putB l ++ r) = l.length := by
  unfold putB; rw [List.append_assoc]; exact v3_enc _ (by omega) _
theorem putB_drop (l : List (List UInt8)) : (putB l).drop 3 = flat l := by
  unfold putB; rw [List.drop_append_of_le_length (by simp)]; simp [enc3, flat]
theorem getO_put {l : List (List UInt8)} (h : fits l = true) : getO (putB l) = some l := by
  simp [fits] at h
  have hv := putB_v3 l h.2 []
  rw [List.append_nil] at hv
  refine getO_some ?_ (by omega) ?_
  · unfold putB; simp
  · rw [hv, putB_drop]
    have := getN_flat l [] h.1
    simpa using this
theorem getO_cut {l : List (List UInt8)} (h : fits l = true) (k : Nat) (hk : k < (putB l).length) : getO ((putB l).take k) = none := by
  cases hg : getO ((putB l).take k) with
  | none => rfl
  | some y =>
    exfalso
    obtain ⟨hy, he⟩ := getO_inv hg
    simp [fits] at h hy
    have hp : putB l = putB y ++ (putB l).drop k := by rw [he, List.take_append_drop]
    have v1 := putB_v3 l h.2 []
    rw [List.append_nil, hp, putB_v3 y hy.2] at v1
    have hd : flat l = flat y ++ (putB l).drop k := by
      rw [← putB_drop l, ← putB_drop y]
      conv => lhs; rw [hp]
      rw [List.drop_append_of_le_length (by unfold putB; simp)]
    have a1 := getN_flat l [] h.1
    have a2 := getN_flat y ((putB l).drop k) hy.1
    rw [List.append_nil, hd, ← v1, a2] at a1
    have := congrArg (fun x => x.map Prod.snd) a1
    simp at this
    omega

set_option maxHeartbeats 4000000 in
theorem cBack (l : List (List UInt8)) (b : List UInt8) (q : Int) (m : Mem) (n : Nat) : ACalls Try.prog 4 [sl1 l, B b, .v (.int .i64 q)] m n (fun d m' n' => d = .v (.bool true) ∧ m' = m ∧ n' = n) := by
  refine acalls_vc [0, 1, 2, 6, 7, 8, 9, 10, 11, 13, 14, 15, 16, 17, 21, 29, 42, 50, 60, 67] Try.func4 Try.ntmps4 (by kernel_rfl) rfl rfl (by simp) ?_
  simp -dsimp
  refine aCall_of (cUp _ _) ?_
  rintro d m' n' ⟨rfl, rfl, rfl⟩
  simp -dsimp [sl1]
  refine cnd_intro (fun h => ?_) (fun h => ?_)
  · simp
  · simp at h
    simp -dsimp
    refine aCall_of (cPut l (by omega) _ _) ?_
    rintro d m' n' ⟨rfl, rfl, rfl⟩
    by_cases hf : fits l = true
    · have e1 : putA l = .tup [.sl 1 ((putB l).map bEnc), .v .nilIface] := by simp [putA, hf]
      rw [e1]
      simp -dsimp
      refine aCall_of (cGet (putB l) _ _) ?_
      rintro d m' n' ⟨rfl, rfl, rfl⟩
      have e4 : getA (putB l) = .tup [sl1 l, .v .nilIface] := by simp [getA, getO_put hf]
      rw [e4]
      simp -dsimp
      refine aCall_of (cSame l l (by omega) _ _) ?_
      rintro d m' n' ⟨rfl, rfl, rfl⟩
      by_cases hq0 : 0 ≤ q
      · by_cases hq1 : q < (putB l).length
        · simp -dsimp [hq0, hq1]
          refine ⟨by omega, ?_⟩
          have hcut : D.sl 1 (List.take q.toNat (List.map bEnc (putB l))) = B ((putB l).take q.toNat) := by simp [B]
          rw [hcut]
          refine aCall_of (cGet _ _ _) ?_
          rintro d m' n' ⟨rfl, rfl, rfl⟩
          have e5 : getA ((putB l).take q.toNat) = .tup [.sl 1 [], code 2] := by simp [getA, getO_cut hf q.toNat (by omega)]
          rw [e5]
          simp -dsimp [code]
          refine aCall_of (cGet b _ _) ?_
          rintro d m' n' ⟨rfl, rfl, rfl⟩
          cases hg : getO b with
          | none =>
            have e2 : getA b = .tup [.sl 1 [], code 2] := by simp [getA, hg]
            rw [e2]
            simp -dsimp [code]
          | some x =>
            have e2 : getA b = .tup [sl1 x, .v .nilIface] := by simp [getA, hg]
            rw [e2]
            simp -dsimp
            refine aCall_of (cPut x (by have := getO_len hg; omega) _ _) ?_
            rintro d m' n' ⟨rfl, rfl, rfl⟩
            obtain ⟨hx1, hx2⟩ := getO_inv hg
            have e3 : putA x = .tup [.sl 1 (b.map bEnc), .v .nilIface] := by simp [putA, hx1, hx2]
            rw [e3]
            simp -dsimp [B]
        · simp -dsimp [hq0, hq1]
          refine aCall_of (cGet b _ _) ?_
          rintro d m' n' ⟨rfl, rfl, rfl⟩
          cases hg : getO b with
          | none =>
            have e2 : getA b = .tup [.sl 1 [], code 2] := by simp [getA, hg]
            rw [e2]
            simp -dsimp [code]
          | some x =>
            have e2 : getA b = .tup [sl1 x, .v .nilIface] := by simp [getA, hg]
            rw [e2]
            simp -dsimp
            refine aCall_of (cPut x (by have := getO_len hg; omega) _ _) ?_
            rintro d m' n' ⟨rfl, rfl, rfl⟩
            obtain ⟨hx1, hx2⟩ := getO_inv hg
            have e3 : putA x = .tup [.sl 1 (b.map bEnc), .v .nilIface] := by simp [putA, hx1, hx2]
            rw [e3]
            simp -dsimp [B]
      · simp -dsimp [hq0]
        refine aCall_of (cGet b _ _) ?_
        rintro d m' n' ⟨rfl, rfl, rfl⟩
        cases hg : getO b with
        | none =>
          have e2 : getA b = .tup [.sl 1 [], code 2] := by simp [getA, hg]
          rw [e2]
          simp -dsimp [code]
        | some x =>
          have e2 : getA b = .tup [sl1 x, .v .nilIface] := by simp [getA, hg]
          rw [e2]
          simp -dsimp
          refine aCall_of (cPut x (by have := getO_len hg; omega) _ _) ?_
          rintro d m' n' ⟨rfl, rfl, rfl⟩
          obtain ⟨hx1, hx2⟩ := getO_inv hg
          have e3 : putA x = .tup [.sl 1 (b.map bEnc), .v .nilIface] := by simp [putA, hx1, hx2]
          rw [e3]
          simp -dsimp [B]
    · have hf' : fits l = false := by simpa using hf
      have e1 : putA l = .tup [.sl 1 [], code 3] := by simp [putA, hf']
      rw [e1]
      simp -dsimp [code]
      refine aCall_of (cGet b _ _) ?_
      rintro d m' n' ⟨rfl, rfl, rfl⟩
      cases hg : getO b with
      | none =>
        have e2 : getA b = .tup [.sl 1 [], code 2] := by simp [getA, hg]
        rw [e2]
        simp -dsimp [code]
      | some x =>
        have e2 : getA b = .tup [sl1 x, .v .nilIface] := by simp [getA, hg]
        rw [e2]
        simp -dsimp
        refine aCall_of (cPut x (by have := getO_len hg; omega) _ _) ?_
        rintro d m' n' ⟨rfl, rfl, rfl⟩
        obtain ⟨hx1, hx2⟩ := getO_inv hg
        have e3 : putA x = .tup [.sl 1 (b.map bEnc), .v .nilIface] := by simp [putA, hx1, hx2]
        rw [e3]
        simp -dsimp [B]
end Go.Proofs.Mv.App
