/- A part of the proofs of the seat YtnkkmhjiimbchaaGreatDoor: the abstract machine, the contracts of the functions, the laws. No condition of its own. -/
import Derived.Test.YtnkkmhjiimbchaaGreatDoorMvD
import Derived.Test.YtnkkmhjiimbchaaGreatDoorFact
import Derived.Test.YtnkkmhjiimbchaaGreatDoorMvC
set_option linter.unusedSimpArgs false
set_option linter.unusedVariables false
set_option linter.unusedSectionVars false
open Go Go.Proofs Go.Proofs.Mv.V
set_option maxRecDepth 10000
namespace Go.Proofs.Mv.App
variable [GI]
attribute [simp] Nat.testBit
/-! bytes -/
def byt (v : Int) : UInt8 := UInt8.ofNat (v % 256).toNat
theorem wrap_byt (v : Int) : Value.int .u8 (IntKind.u8.wrap v) = .int .u8 ((byt v).toNat : Int) := by
  congr 1
  simp only [byt, IntKind.wrap, IntKind.signed, IntKind.bits, Bool.false_eq_true, if_false]
  have h1 : 0 ≤ v % 256 := Int.emod_nonneg _ (by omega)
  have h2 : v % 256 < 256 := Int.emod_lt_of_pos _ (by omega)
  have h3 : (UInt8.ofNat (v % 256).toNat).toNat = (v % 256).toNat := by
    simp only [UInt8.toNat_ofNat']; omega
  rw [h3]
  rw [Int.toNat_of_nonneg h1]
  rfl
theorem bEnc_fold (b : UInt8) : [D.v (.int .u8 (b.toNat : Int))] = bEnc b := rfl
theorem unB_cons (b : UInt8) (r : List (List D)) : unB (bEnc b :: r) = b :: unB r := by simp [bEnc, unB]
theorem bEnc_len (b : UInt8) : (bEnc b).length = 1 := rfl
theorem bEnc_get (b : UInt8) : (bEnc b)[0]? = some (.v (.int .u8 (b.toNat : Int))) := rfl
theorem bEnc_hd (b : UInt8) : (bEnc b).head? = some (.v (.int .u8 (b.toNat : Int))) := rfl
theorem unB_nil : unB [] = [] := rfl
theorem i64_byte (b : UInt8) : IntKind.i64.wrap (b.toNat : Int) = b.toNat := wrap_i64 (by omega) (by have := b.toNat_lt; omega)
attribute [simp] wrap_byt bEnc_fold bEnc_len bEnc_get unB_cons unB_nil i64_byte unB_bEnc
theorem unB_bs (r : List UInt8) (a b : Nat) : unB (List.take a (List.drop b (List.map bEnc r))) = List.take a (List.drop b r) := by
  rw [← List.map_drop, ← List.map_take, unB_bEnc]
theorem unB_b (r : List UInt8) (a : Nat) : unB (List.take a (List.map bEnc r)) = List.take a r := by
  rw [← List.map_take, unB_bEnc]
@[simp] theorem unB_app (a : List UInt8) (r : List (List D)) : unB (List.map bEnc a ++ r) = a ++ unB r := by
  induction a with
  | nil => rfl
  | cons x a ih => simp [ih]
@[simp] theorem comp_idf {α β : Type} (f : α → β) : ((fun e => e) ∘ f) = f := rfl
theorem bits_i64 : IntKind.i64.bits = 64 := rfl
attribute [simp] unB_bs unB_b bits_i64
theorem fdiv16 (v : Int) : v.fdiv 65536 = v / 65536 := Int.fdiv_eq_ediv_of_nonneg _ (by omega)
theorem fdiv8 (v : Int) : v.fdiv 256 = v / 256 := Int.fdiv_eq_ediv_of_nonneg _ (by omega)
@[simp] theorem take_map_len {α γ : Type} (l : List α) (f : α → γ) : (l.map f).take l.length = l.map f := List.take_of_length_le (by simp)
@[simp] theorem nat_neg (q : Nat) : ((q : Int) < 0) = False := by simp
theorem get_opt {α : Type} {l : List α} {i : Nat} {a : α} (h : l[i]? = some a) (hi : i < l.length) : l[i] = a := by rw [List.getElem?_eq_getElem hi] at h; exact Option.some.inj h
/-! texts, lists of texts, bytes, errors -/
def S (s : List UInt8) : D := .v (.string (ofL s))
def sl1 (l : List (List UInt8)) : D := .sl 1 (l.map fun s => [S s])
def B (s : List UInt8) : D := .sl 1 (s.map bEnc)
def I (n : Int) : D := .v (.int .i64 n)
def Tt (b : Bool) : D := .v (.bool b)
def code (c : Int) : D := .iface 33 (.v (.int .i64 c))
def nilE : D := .v .nilIface
@[simp] theorem okD_S (s : List UInt8) : okD (S s) = true := (rfl)
@[simp] theorem cellsOf_S (s : List UInt8) : cellsOf (S s) = [S s] := (rfl)
@[simp] theorem kof_S (s : List UInt8) : kof (S s) = none := (rfl)
@[simp] theorem okD_B (s : List UInt8) : okD (B s) = true := (rfl)
@[simp] theorem cellsOf_B (s : List UInt8) : cellsOf (B s) = [B s] := (rfl)
@[simp] theorem kof_B (s : List UInt8) : kof (B s) = none := (rfl)
@[simp] theorem okD_sl1 (l : List (List UInt8)) : okD (sl1 l) = true := (rfl)
@[simp] theorem cellsOf_sl1 (l : List (List UInt8)) : cellsOf (sl1 l) = [sl1 l] := (rfl)
@[simp] theorem kof_sl1 (l : List (List UInt8)) : kof (sl1 l) = none := (rfl)
@[simp] theorem okD_I (n : Int) : okD (I n) = true := (rfl)
@[simp] theorem cellsOf_I (n : Int) : cellsOf (I n) = [I n] := (rfl)
@[simp] theorem kof_I (n : Int) : kof (I n) = none := (rfl)
@[simp] theorem okD_Tt (b : Bool) : okD (Tt b) = true := (rfl)
@[simp] theorem cellsOf_Tt (b : Bool) : cellsOf (Tt b) = [Tt b] := (rfl)
@[simp] theorem kof_Tt (b : Bool) : kof (Tt b) = none := (rfl)
@[simp] theorem okD_code (c : Int) : okD (code c) = true := (rfl)
@[simp] theorem cellsOf_code (c : Int) : cellsOf (code c) = [code c] := (rfl)
@[simp] theorem kof_code (c : Int) : kof (code c) = none := (rfl)
@[simp] theorem okD_nilE  : okD (nilE) = true := (rfl)
@[simp] theorem cellsOf_nilE  : cellsOf (nilE) = [nilE] := (rfl)
@[simp] theorem kof_nilE  : kof (nilE) = none := (rfl)
theorem pur_S (s : List UInt8) : Pur (S s) := Pur.v _
theorem pur_I (n : Int) : Pur (I n) := Pur.v _
theorem pur_T (n : Bool) : Pur (Tt n) := Pur.v _
theorem pur_code (c : Int) : Pur (code c) := Pur.iface (Pur.v _)
theorem pur_nilE : Pur nilE := Pur.v _
theorem pur_bEnc {s : List UInt8} : ∀ e ∈ s.map bEnc, ∀ d ∈ e, Pur d := by
  intro e he d hd
  obtain ⟨b, _, rfl⟩ := List.mem_map.1 he
  simp [bEnc, -bEnc_fold] at hd; subst hd; exact Pur.v _
theorem pur_B (s : List UInt8) : Pur (B s) := Pur.sl pur_bEnc
theorem pur_ss {l : List (List UInt8)} : ∀ e ∈ l.map (fun s => [S s]), ∀ d ∈ e, Pur d := by
  intro e he d hd
  obtain ⟨b, _, rfl⟩ := List.mem_map.1 he
  simp at hd; subst hd; exact Pur.v _
theorem pur_sl1 (l : List (List UInt8)) : Pur (sl1 l) := Pur.sl pur_ss
theorem pub_pair {n : Nat} {m : Mem} {a b a' b' : D} (h : PubAs n m a a') (h' : PubAs n m b b') : PubAs n m (.tup [a, b]) (.tup [a', b']) := .tup (.cons h (.cons h' .nil))
theorem pub_three {n : Nat} {m : Mem} {a b c a' b' c' : D} (h : PubAs n m a a') (h' : PubAs n m b b') (h'' : PubAs n m c c') : PubAs n m (.tup [a, b, c]) (.tup [a', b', c']) := .tup (.cons h (.cons h' (.cons h'' .nil)))
theorem pub_nil {n : Nat} {m : Mem} (z : Nat) : PubAs n m (.v (.slice none 0 0)) (.sl z []) := (Pur.v _).pub.le (Le_nil z)
/-- What reads as these bytes: read-only, or one's own. -/
def Rd (m : Mem) (z : Nat) (es : List (List D)) (d : D) : Prop := d = .sl z es ∨ Lst m z es d
theorem Rd.elems {m : Mem} {z : Nat} {es : List (List D)} {d : D} (h : Rd m z es d) : ∃ O : Prop, elemsOf m z d = some (O, es) ∧ O := by
  rcases h with rfl | h
  · exact elems_sl m z es
  · exact h.elems
theorem Rd.frame {m m' : Mem} {z : Nat} {es : List (List D)} {d : D} (h : Rd m z es d) (hf : ∀ k, kof d = some k → m' k = m k) : Rd m' z es d := by
  rcases h with h | h
  · exact .inl h
  · exact .inr (h.frame hf)
theorem lenD_rd {m : Mem} {z : Nat} {es : List (List D)} {d : D} (h : Rd m z es d) : lenD 5 d = some (True, .v (.int .i64 es.length)) := by
  rcases h with rfl | h
  · rfl
  · exact lenD_lst h
end Go.Proofs.Mv.App
open Go Go.Proofs Go.Proofs.Mv.V
set_option maxRecDepth 10000
namespace Go.Proofs.Mv.App
variable [GI]
def enc3 (k : Int) : List UInt8 := [byt (k / 65536), byt (k / 256), byt k]
@[simp] theorem enc3_len (k : Int) : (enc3 k).length = 3 := rfl

theorem refNumber (v : Int) (h0 : 0 ≤ v) (h1 : v ≤ 16777215) (m : Mem) (n : Nat) :
    ACalls Tryz.prog 13 [.v (.int .i64 v)] m n (fun d m' n' => d = .v (.string (ofL (enc3 v))) ∧ m' = m ∧ n' = n) := by
  refine acalls_pure (R' := fun d m' n' => d = .v (.string (ofL (enc3 v))) ∧ ∀ k, k < n → m' k = m k) ?_ ?_
  · refine acalls_vc [0, 2] Tryz.func13 Tryz.ntmps13 (by kernel_rfl) rfl rfl (by simp) ?_
    simp -dsimp
    refine ⟨?_, fun k hk => set_ne _ _ _ _ (by omega)⟩
    have e1 : IntKind.i64.wrap (v.tdiv 65536) = v / 65536 := by rw [Int.tdiv_eq_ediv_of_nonneg h0, wrap_i64 (by omega) (by omega)]
    have e2 : IntKind.i64.wrap (v.tdiv 256) = v / 256 := by rw [Int.tdiv_eq_ediv_of_nonneg h0, wrap_i64 (by omega) (by omega)]
    rw [e1, e2, Int.tmod_eq_emod_of_nonneg (by omega), Int.tmod_eq_emod_of_nonneg h0]
    simp [enc3, byt]
  · rintro d m' n' ⟨rfl, hk⟩ β
    exact ⟨1, _, by simp; exact Le.refl _, by simp, hk, rfl⟩
def fits (l : List (List UInt8)) : Bool := l.all (fun s => decide (s.length ≤ 20000)) && decide (l.length ≤ 64)
def putB (l : List (List UInt8)) : List UInt8 := enc3 l.length ++ l.flatMap fun s => enc3 s.length ++ s
theorem refFits (l : List (List UInt8)) (m : Mem) (n : Nat) (hl : l.length ≤ 1000000) : ACalls Tryz.prog 6 [sl1 l] m n (fun d m' n' => d = .v (.bool (fits l)) ∧ m' = m ∧ n' = n) := by
  refine acalls_vc [0, 2, 3, 7, 15] Tryz.func6 Tryz.ntmps6 (by kernel_rfl) rfl rfl (by simp) ?_
  simp -dsimp
  refine vloop_of (β := Nat) (fun i σ m' n' => i ≤ l.length ∧ σ 0 = sl1 l ∧ σ 3 = .v (.int .i64 i) ∧ m' = m ∧ n' = n ∧ ∀ s ∈ l.take i, s.length ≤ 20000) (fun i => l.length - i) 0 (by simp) ?_
  rintro i σ m' n' ⟨hi, h0, h3, rfl, rfl, hall⟩
  simp -dsimp [h0, h3, sl1, S]
  refine cnd_intro (fun h => ?_) (fun h => ?_)
  · simp at h
    simp -dsimp [h, S]
    refine cnd_intro (fun hc => ?_) (fun hc => ?_)
    · simp at hc ⊢
      unfold fits
      have : (l.all fun s => decide (s.length ≤ 20000)) = false := by
        rw [List.all_eq_false]; exact ⟨l[i], by simp, by simp; omega⟩
      simp [this]
    · simp at hc ⊢
      refine ⟨i + 1, by omega, by omega, rfl, ?_, ?_⟩
      · rw [wrap_i64 (by omega) (by omega)]; simp
      · intro s hs
        rw [List.take_succ_eq_append_getElem h] at hs
        rcases List.mem_append.1 hs with hs | hs
        · exact hall s hs
        · simp at hs; subst hs; omega
  · simp at h
    have hil : i = l.length := by omega
    subst hil
    simp at hall
    have : (l.all fun s => decide (s.length ≤ 20000)) = true := by rw [List.all_eq_true]; simpa using hall
    simp [fits, this]
    omega

theorem number_nil (v : Int) (m : Mem) (n : Nat) : ACalls Tryz.prog 20 [.v (.slice none 0 0), .v (.int .i64 v)] m n
    (fun d m' n' => ∃ k, n ≤ k ∧ k < n' ∧ d = .own k 0 0 3 1 ∧ m' k = some ⟨1, (enc3 v).map bEnc, 0⟩ ∧ ∀ j, j < n → m' j = m j) := by
  refine acalls_vc [0, 1, 4] Tryz.func20 Tryz.ntmps20 (by kernel_rfl) rfl rfl (by simp) ?_
  simp -dsimp

  refine ⟨n + 1, by omega, by omega, by simp, by simp [enc3, fdiv16, fdiv8], fun j hj => ?_⟩
  simp (disch := omega) [set_ne]

theorem number_own (v : Int) (k g : Nat) (bs : List UInt8) (m : Mem) (n : Nat) (hk : k < n) (hm : m k = some ⟨1, bs.map bEnc, g⟩) (hl : bs.length ≤ 100000000) :
    ACalls Tryz.prog 20 [.own k g 0 bs.length 1, .v (.int .i64 v)] m n
    (fun d m' n' => n ≤ n' ∧ d = .own k (g + 1) 0 (bs ++ enc3 v).length 1 ∧ m' k = some ⟨1, (bs ++ enc3 v).map bEnc, g + 1⟩ ∧ ∀ j, j < n → j ≠ k → m' j = m j) := by
  have hkn : k ≠ n := by omega
  have hl3 : bs.length + 3 ≤ 140737488355328 := by omega
  refine acalls_vc [0, 1, 4] Tryz.func20 Tryz.ntmps20 (by kernel_rfl) rfl rfl (by simp) ?_
  simp -dsimp [hkn, hm, hl3]

  refine ⟨?_, fun j hj hjk => ?_⟩
  · simp [enc3, fdiv16, fdiv8]
  · simp (disch := omega) [set_ne, hjk]

theorem len_le (l : List (List UInt8)) (hs : ∀ s ∈ l, s.length ≤ 20000) : (l.flatMap fun s => enc3 s.length ++ s).length ≤ 20003 * l.length := by
  induction l with
  | nil => simp
  | cons a r ih =>
    have h1 := hs a (by simp)
    have h2 := ih (fun s h => hs s (by simp [h]))
    simp only [List.flatMap_cons, List.length_append, enc3_len, List.length_cons]
    omega

def putB' (l : List (List UInt8)) (i : Nat) : List UInt8 := enc3 l.length ++ (l.take i).flatMap fun s => enc3 s.length ++ s
theorem putB'_succ (l : List (List UInt8)) (i : Nat) (h : i < l.length) : putB' l (i + 1) = putB' l i ++ enc3 l[i].length ++ l[i] := by
  unfold putB'
  rw [List.take_succ_eq_append_getElem h, List.flatMap_append]
  simp
theorem putB'_all (l : List (List UInt8)) : putB' l l.length = putB l := by simp [putB', putB]
theorem putB'_zero (l : List (List UInt8)) : putB' l 0 = enc3 l.length := by simp [putB']
theorem take_sm {l : List (List UInt8)} {i : Nat} (h : i < l.length) (hall : ∀ s ∈ l.take i, s.length ≤ 20000) (hc : l[i].length ≤ 20000) : ∀ s ∈ l.take (i + 1), s.length ≤ 20000 := by
  intro s hs
  rw [List.take_succ_eq_append_getElem h] at hs
  rcases List.mem_append.1 hs with hs | hs
  · exact hall s hs
  · simp at hs; subst hs; exact hc
theorem refPut (l : List (List UInt8)) (hl : l.length ≤ 64) (hs : ∀ s ∈ l, s.length ≤ 20000) (m : Mem) (n : Nat) : ACalls Tryz.prog 7 [sl1 l] m n (fun d m' n' => d = S (putB l) ∧ m' = m ∧ n' = n) := by
  refine acalls_vc [0, 2, 3, 4, 11] Tryz.func7 Tryz.ntmps7 (by kernel_rfl) rfl rfl (by simp) ?_
  simp -dsimp [sl1, S]
  refine aCall_of (refNumber l.length (by omega) (by omega) _ _) ?_
  rintro d m' n' ⟨rfl, rfl, rfl⟩
  simp -dsimp
  refine vloop_of (β := Nat) (fun i σ m2 n2 => i ≤ l.length ∧ σ 0 = sl1 l ∧ σ 4 = .v (.int .i64 i) ∧ m2 = m' ∧ n2 = n' ∧ σ 3 = S (putB' l i)) (fun i => l.length - i) 0 (by simp [S, sl1, putB'_zero]) ?_
  rintro i σ m2 n2 ⟨hi, h0, h4, rfl, rfl, h3⟩
  have hb : (putB' l i).length ≤ 2000000 := by
    have := len_le (l.take i) (fun s h => hs s (List.mem_of_mem_take h))
    rw [List.length_take] at this
    unfold putB'; rw [List.length_append, enc3_len]; omega
  simp -dsimp [h0, h4, h3, sl1, S]
  refine cnd_intro (fun h => ?_) (fun h => ?_)
  · simp at h
    simp -dsimp [h, S]
    have hlen : l[i].length ≤ 20000 := hs _ (by simp)
    refine vdraw_tree [0, 0, 0, 6, 14, 30, 62, 127, 0, 0, 768, 1792, 4095, 8191] (.rd 0 (.rd 1 (.rd 2 (.rd 3 (.rd 4 (.rd 5 (.rd 8 (.rd 9 (.rd 10 (.rd 11 (.wr (.cons 6 (.rd 7 (.rd 12 (.rd 13 (.fin)))) (.nil))))))))))))) (by kernel_rfl) (by kernel_rfl) ?_
    simp -dsimp [h, S]
    refine aCall_of (refNumber l[i].length (by omega) (by omega) _ _) ?_
    rintro d m3 n3 ⟨rfl, rfl, rfl⟩
    simp -dsimp
    refine ⟨by omega, by omega, i + 1, by omega, by omega, by simp [sl1, S], ?_, ?_⟩
    · rw [wrap_i64 (by omega) (by omega)]; simp
    · rw [putB'_succ l i h]; simp [S]
  · simp at h
    have hil : i = l.length := by omega
    subst hil
    simp [putB'_all, S]

theorem putBs_len (l : List (List UInt8)) (hl : l.length ≤ 64) (hs : ∀ s ∈ l, s.length ≤ 20000) : (putB l).length ≤ 2000000 := by
  have := len_le l hs
  simp only [putB, List.length_append, enc3_len]
  omega
/-- What Put answers. -/
def putR (l : List (List UInt8)) (n : Nat) : D → Mem → Nat → Prop := fun d m' n' =>
  if fits l then ∃ k g, n ≤ k ∧ k < n' ∧ d = .tup [.own k g 0 (putB l).length 1, .v .nilIface] ∧ m' k = some ⟨1, (putB l).map bEnc, g⟩
  else d = .tup [.v (.slice none 0 0), code 3]
theorem pPut (l : List (List UInt8)) (hl : l.length ≤ 1000000) (m : Mem) (n : Nat) : ACalls Tryz.prog 12 [sl1 l] m n (fun d m' n' => putR l n d m' n' ∧ ∀ j, j < n → m' j = m j) := by
  refine acalls_vc [0, 2, 3, 4, 6, 9, 14, 15, 16, 17, 22] Tryz.func12 Tryz.ntmps12 (by kernel_rfl) rfl rfl (by simp) ?_
  simp -dsimp [sl1, S]
  refine cnd_intro (fun h => ?_) (fun h => ?_)
  · simp at h ⊢
    have : fits l = false := by simp [fits]; intro _; omega
    simp [putR, this, code]
  · simp at h ⊢
    refine aCall_of (number_nil l.length _ _) ?_
    rintro d m' n' ⟨k, hk1, hk2, rfl, hmk, hold⟩
    simp -dsimp
    refine vloop_of (β := Nat) (fun i σ m2 n2 => i ≤ l.length ∧ σ 0 = sl1 l ∧ σ 14 = sl1 l ∧ σ 15 = .v (.int .i64 l.length) ∧ σ 16 = .v (.int .i64 i) ∧ (∀ s ∈ l.take i, s.length ≤ 20000) ∧
      (∀ j, j < n → m2 j = m j) ∧ ∃ g, k < n2 ∧ σ 4 = .own k g 0 (putB' l i).length 1 ∧ m2 k = some ⟨1, (putB' l i).map bEnc, g⟩) (fun i => l.length - i) 0 ?_ ?_
    · simp [sl1, putB', hk2, hmk]; exact ⟨fun _ _ => rfl, hold⟩
    rintro i σ m2 n2 ⟨hi, h0, h14, h15, h16, hall, hold2, g, hkn, h4, hm2⟩
    have hb := len_le (l.take i) hall
    rw [List.length_take] at hb
    have hb2 : (putB' l i).length ≤ 2000000 := by unfold putB'; rw [List.length_append, enc3_len]; omega
    simp -dsimp [h0, h14, h15, h16, h4, sl1, S]
    refine cnd_intro (fun h => ?_) (fun h => ?_)
    · simp at h
      simp -dsimp [h, S]
      refine cnd_intro (fun hc => ?_) (fun hc => ?_)
      · simp at hc ⊢
        have : fits l = false := by
          unfold fits
          have : (l.all fun s => decide (s.length ≤ 20000)) = false := by
            rw [List.all_eq_false]; exact ⟨l[i], by simp, by simp; omega⟩
          simp [this]
        simp [putR, this, code]
        exact hold2
      · simp at hc ⊢
        refine aCall_of (number_own l[i].length k g (putB' l i) _ _ hkn hm2 (by omega)) ?_
        rintro d m3 n3 ⟨hn3, rfl, hm3, hold3⟩
        simp -dsimp [hm3]
        refine ⟨by omega, i + 1, by omega, by omega, by simp [sl1, S], ?_, take_sm h hall (by omega), fun j hj => ?_, by omega, ?_, ?_⟩
        · rw [wrap_i64 (by omega) (by omega)]; simp
        · rw [set_ne _ _ _ _ (by omega), hold3 j (by omega) (by omega), hold2 j hj]
        · rw [putB'_succ l i h]; simp; omega
        · rw [putB'_succ l i h, List.take_of_length_le (by simp)]; simp
    · simp at h
      have hil : i = l.length := by omega
      subst hil
      simp
      refine ⟨?_, hold2⟩
      simp at hall
      rw [putB'_all] at hm2 ⊢
      have : fits l = true := by simp [fits]; exact ⟨hall, by omega⟩
      simp only [putR, this, if_true]
      exact ⟨k, g, hk1, hkn, rfl, hm2⟩

@[simp] theorem rs_v (β : Nat → Nat) (m : Mem) (f : Nat) (x : Value) : rs β m f (.v x) = .v x := by cases f <;> simp [rs]
@[simp] theorem rs_bEnc (β : Nat → Nat) (m : Mem) (f : Nat) : ((fun e => List.map (rs β m f) e) ∘ bEnc) = bEnc := by funext b; simp [bEnc, -bEnc_fold]
theorem belowE_bEnc (n : Nat) (l : List UInt8) : belowE n (l.map bEnc) = true := by
  induction l with
  | nil => simp [belowE]
  | cons b r ih => simp [belowE, belowL, below, bEnc, -bEnc_fold]; exact ih
attribute [simp] belowE_bEnc
def putA (l : List (List UInt8)) : D := if fits l then .tup [.sl 1 ((putB l).map bEnc), .v .nilIface] else .tup [.sl 1 [], code 3]
theorem cPut (l : List (List UInt8)) (hl : l.length ≤ 1000000) (m : Mem) (n : Nat) : ACalls Tryz.prog 12 [sl1 l] m n (fun d m' n' => d = putA l ∧ m' = m ∧ n' = n) := by
  refine acalls_pure (pPut l hl m n) ?_
  rintro d m' n' ⟨h, hold⟩ β
  by_cases hf : fits l = true
  · simp only [putR, hf, if_true] at h
    obtain ⟨k, g, h1, h2, rfl, h3⟩ := h
    refine ⟨3, _, ?_, ?_, hold, rfl⟩
    · simp [h1, h3, putA, hf]; exact Le.refl _
    · simp [h1, h3]
  · simp only [putR, hf] at h
    simp at h
    subst h
    refine ⟨2, _, ?_, ?_, hold, rfl⟩
    · simp [putA, hf, code]; exact Le_tup (.cons (Le_nil 1) (.cons (Le.refl _) .nil))
    · simp [code]
end Go.Proofs.Mv.App
open Go Go.Proofs Go.Proofs.Mv.V
set_option maxRecDepth 10000
namespace Go.Proofs.Mv.App
variable [GI]
/-- A number: what its three bytes say. -/
def v3 (a b c : UInt8) : Nat := 65536 * a.toNat + 256 * b.toNat + c.toNat
def v3o (s : List UInt8) : Nat := v3 (s.getD 0 0) (s.getD 1 0) (s.getD 2 0)
theorem v3_lt (a b c : UInt8) : v3 a b c < 16777216 := by have := a.toNat_lt; have := b.toNat_lt; have := c.toNat_lt; unfold v3; omega
theorem or3 (a b c : UInt8) : ((a.toNat * 65536 ||| b.toNat * 256) ||| c.toNat) = v3 a b c := by
  have ha := a.toNat_lt; have hb := b.toNat_lt; have hc := c.toNat_lt
  have e1 : a.toNat * 65536 ||| b.toNat * 256 = (a.toNat * 256 + b.toNat) * 256 := by
    have : a.toNat * 65536 ||| b.toNat * 256 = (2 ^ 8 * a.toNat + b.toNat) <<< 8 := by
      rw [Nat.two_pow_add_eq_or_of_lt hb, Nat.shiftLeft_or_distrib]
      rw [Nat.shiftLeft_eq, Nat.shiftLeft_eq, show a.toNat * 65536 = 2 ^ 8 * a.toNat * 2 ^ 8 by omega]
    rw [this, Nat.shiftLeft_eq]; omega
  rw [e1]
  have := Nat.two_pow_add_eq_or_of_lt (i := 8) (b := c.toNat) hc (a.toNat * 256 + b.toNat)
  unfold v3
  rw [show (a.toNat * 256 + b.toNat) * 256 = 2 ^ 8 * (a.toNat * 256 + b.toNat) by omega, ← this]; omega

theorem or_nf (a b c : UInt8) : IntKind.i64.wrap ↑((IntKind.i64.wrap ↑((IntKind.i64.wrap (↑a.toNat * 65536) % 18446744073709551616).toNat ||| (IntKind.i64.wrap (↑b.toNat * 256) % 18446744073709551616).toNat) % 18446744073709551616).toNat ||| c.toNat) = v3 a b c := by
  have ha := a.toNat_lt; have hb := b.toNat_lt; have hc := c.toNat_lt
  rw [wrap_i64 (x := (a.toNat : Int) * 65536) (by omega) (by omega), wrap_i64 (x := (b.toNat : Int) * 256) (by omega) (by omega)]
  have h1 : (((a.toNat : Int) * 65536) % 18446744073709551616).toNat = a.toNat * 65536 := by omega
  have h2 : (((b.toNat : Int) * 256) % 18446744073709551616).toNat = b.toNat * 256 := by omega
  rw [h1, h2]
  have h3 : a.toNat * 65536 ||| b.toNat * 256 < 2 ^ 24 := Nat.or_lt_two_pow (by omega) (by omega)
  rw [wrap_i64 (x := ((a.toNat * 65536 ||| b.toNat * 256 : Nat) : Int)) (by omega) (by omega)]
  have h4 : (((a.toNat * 65536 ||| b.toNat * 256 : Nat) : Int) % 18446744073709551616).toNat = a.toNat * 65536 ||| b.toNat * 256 := by omega
  rw [h4, or3]
  have := v3_lt a b c
  exact wrap_i64 (by omega) (by omega)

def nn (s : List UInt8) (most : Int) : Int := if s.length < 3 ∨ most < v3o s then -1 else v3o s
theorem cSource (s : List UInt8) (most : Int) (k g : Nat) (m : Mem) (n : Nat) (hm : m k = some ⟨1, [[B s]], g⟩) :
    ACalls Tryz.prog 19 [.ptr k g 0 0, .v (.int .i64 most)] m n (fun d m' n' => d = .v (.int .i64 (nn s most)) ∧ m' = (if s.length < 3 then m else m.set k ⟨1, [[B (s.drop 3)]], g⟩) ∧ n' = n) := by
  refine acalls_vc [0, 1, 4, 5, 6, 12, 35] Tryz.func19 Tryz.ntmps19 (by kernel_rfl) rfl rfl (by simp) ?_
  simp -dsimp [hm, B]
  refine cnd_intro (fun h => ?_) (fun h => ?_)
  · simp at h ⊢
    simp [nn]; omega
  · simp at h ⊢
    obtain ⟨a, b, c, r, rfl⟩ : ∃ a b c r, s = a :: b :: c :: r := by
      match s, h with
      | a :: b :: c :: r, _ => exact ⟨a, b, c, r, rfl⟩
      | [], h => simp at h
      | [_], h => simp at h
      | [_, _], h => simp at h
    refine vdraw_of [0, 1, 3, 7, 15, 0, 32, 96, 224, 480, 1023, 0, 2048, 6144, 14336, 32767, 65535] [0, 1, 2, 3, 4, 5, 6, 7, 8, 9, 10, 11, 12, 13, 14, 15, 16] (by kernel_rfl) (by kernel_rfl) ?_
    simp -dsimp [hm, or_nf]
    refine ⟨by omega, by omega, by omega, by omega, cnd_intro (fun h => ?_) (fun h => ?_)⟩
    · simp at h ⊢
      simp [nn, v3o, B, h]; intro h; omega
    · simp at h ⊢
      have : ¬ most < (v3 a b c : Int) := by omega
      simp [nn, v3o, B, this]; intro h; omega


/-- What Get answers: behind the count. -/
def getN : Nat → List UInt8 → Option (List (List UInt8) × List UInt8)
  | 0, s => some ([], s)
  | c + 1, s => if s.length < 3 ∨ 20000 < v3o s ∨ (s.drop 3).length < v3o s then none
    else (getN c (s.drop (3 + v3o s))).map fun r => ((s.drop 3).take (v3o s) :: r.1, r.2)
def getO (s : List UInt8) : Option (List (List UInt8)) :=
  if s.length < 3 ∨ 64 < v3o s then none
  else match getN (v3o s) (s.drop 3) with
    | some (l, []) => some l
    | _ => none
def getA (s : List UInt8) : D := match getO s with
  | some l => .tup [sl1 l, .v .nilIface]
  | none => .tup [.sl 1 [], code 2]

def outD (acc : List (List UInt8)) (n kp : Nat) (d : D) (m : Mem) (n' : Nat) : Prop :=
  (acc = [] ∧ d = .v (.slice none 0 0)) ∨ ∃ k g, n ≤ k ∧ k < n' ∧ k ≠ kp ∧ d = .own k g 0 acc.length 1 ∧ m k = some ⟨1, acc.map fun s => [S s], g⟩
def getR (s : List UInt8) (n : Nat) (d : D) (m' : Mem) (n' : Nat) : Prop :=
  match getO s with
  | some l => ∃ x, d = .tup [x, .v .nilIface] ∧ outD l n n x m' n'
  | none => d = .tup [.v (.slice none 0 0), code 2]

theorem nn_neg {s : List UInt8} {most : Int} (h : nn s most < 0) : s.length < 3 ∨ most < v3o s := by
  unfold nn at h; split at h
  · assumption
  · omega
theorem nn_nonneg {s : List UInt8} {most : Int} (h : 0 ≤ nn s most) : 3 ≤ s.length ∧ v3o s ≤ most ∧ nn s most = v3o s := by
  unfold nn at h ⊢; split at h
  · omega
  · rename_i hh; rw [if_neg hh]; exact ⟨by omega, by omega, rfl⟩
theorem getN_step {c : Nat} {s : List UInt8} (h1 : 3 ≤ s.length) (h2 : v3o s ≤ 20000) (h3 : v3o s ≤ (s.drop 3).length) :
    getN (c + 1) s = (getN c ((s.drop 3).drop (v3o s))).map fun r => ((s.drop 3).take (v3o s) :: r.1, r.2) := by
  rw [getN, if_neg (by omega), List.drop_drop]
theorem getN_fail {c : Nat} {s : List UInt8} (h : s.length < 3 ∨ 20000 < v3o s ∨ (s.drop 3).length < v3o s) : getN (c + 1) s = none := by
  rw [getN, if_pos h]
theorem dropB (r : List UInt8) (a : Nat) : D.sl 1 (List.drop a (List.take (r.length - 3) (List.drop 3 (List.map bEnc r)))) = B ((r.drop 3).drop a) := by
  rw [List.take_of_length_le (by simp), B]
  simp [-List.drop_drop]
theorem pGet (s : List UInt8) (m : Mem) (n : Nat) : ACalls Tryz.prog 11 [B s] m n (fun d m' n' => getR s n d m' n' ∧ ∀ j, j < n → m' j = m j) := by
  refine acalls_vc [0, 2, 3, 4, 5, 6, 7, 11, 13, 14, 15, 24, 39] Tryz.func11 Tryz.ntmps11 (by kernel_rfl) rfl rfl (by simp) ?_
  simp -dsimp [B]
  refine aCall_of (cSource s 64 n 0 _ _ ?_) ?_
  · simp [B]
  rintro d m' n' ⟨rfl, hm', rfl⟩
  have hold0 : ∀ j, j < n → m' j = m j := by
    intro j hj; rw [hm']; split <;> simp (disch := omega) [set_ne]
  simp -dsimp
  refine cnd_intro (fun h => ?_) (fun h => ?_)
  · simp at h ⊢
    have : getO s = none := by unfold getO; rw [if_pos]; rcases nn_neg h with h | h <;> omega
    simp [getR, this, code]
    exact hold0
  · simp at h
    obtain ⟨hl, hv, e⟩ := nn_nonneg h
    rw [e]
    have hv' : v3o s ≤ 64 := by omega
    have hO : getO s = match getN (v3o s) (s.drop 3) with | some (l, []) => some l | _ => none := by
      unfold getO; rw [if_neg (by omega)]
    rw [if_neg (by omega)] at hm'
    have hmn : m' n = some ⟨1, [[B (s.drop 3)]], 0⟩ := by rw [hm']; simp
    clear hm' h
    simp -dsimp
    refine vloop_of (β := Nat) (fun i σ m2 n2 => i ≤ v3o s ∧ σ 4 = .ptr n 0 0 0 ∧ σ 13 = .v (.int .i64 (v3o s)) ∧ σ 14 = .v (.int .i64 i) ∧ (∀ j, j < n → m2 j = m j) ∧
      ∃ acc r, m2 n = some ⟨1, [[B r]], 0⟩ ∧ n < n2 ∧ acc.length = i ∧ outD acc n n (σ 6) m2 n2 ∧ getN (v3o s) (s.drop 3) = (getN (v3o s - i) r).map fun x => (acc ++ x.1, x.2)) (fun i => v3o s - i) 0 ?_ ?_
    · simp [hmn, outD]
      exact ⟨hold0, [], _, rfl, rfl, by simp⟩
    rintro i σ m2 n2 ⟨hi, h4, h13, h14, hold, acc, r, hm2, hn2, hacc, hout, hget⟩
    simp -dsimp [h4, h13, h14]
    refine cnd_intro (fun h => ?_) (fun h => ?_)
    · simp at h
      simp -dsimp
      refine aCall_of (cSource r 20000 n 0 _ _ hm2) ?_
      rintro d m3 n3 ⟨rfl, hm3, rfl⟩
      have hold3 : ∀ j, j ≠ n → m3 j = m2 j := by
        intro j hj; rw [hm3]; split <;> simp [hj]
      have hgn : v3o s - i = (v3o s - (i + 1)) + 1 := by omega
      obtain ⟨x, hx⟩ : ∃ x, m3 n = some ⟨1, [[B x]], 0⟩ := by
        rw [hm3]; split
        · exact ⟨_, hm2⟩
        · exact ⟨r.drop 3, by simp⟩
      by_cases hneg : nn r 20000 < 0
      · simp -dsimp [hx, B, hneg]
        have hg : getO s = none := by
          rw [hO, hget, hgn, getN_fail]; · simp
          rcases nn_neg hneg with h | h <;> omega
        simp [getR, hg, code]
        intro j hj; rw [hold3 j (by omega), hold j hj]
      · obtain ⟨hl2, hv2, e2⟩ := nn_nonneg (Int.not_lt.1 hneg)
        rw [if_neg (by omega)] at hm3
        have hxr : m3 n = some ⟨1, [[.sl 1 ((r.drop 3).map bEnc)]], 0⟩ := by rw [hm3]; simp [B]
        rw [e2] at hneg ⊢
        simp -dsimp [hxr, hneg]
        refine cnd_intro (fun hc => ?_) (fun hc => ?_)
        · simp at hc ⊢
          have hg : getO s = none := by
            rw [hO, hget, hgn, getN_fail]; · simp
            right; right; simp; omega
          simp [getR, hg, code]
          intro j hj; rw [hold3 j (by omega), hold j hj]
        · simp at hc ⊢
          have q0 : n ≠ n3 := by omega
          have q1 : n ≠ n3 + 1 := by omega
          have hgs := getN_step (c := v3o s - (i + 1)) hl2 (by omega) (by simp; omega)
          rcases hout with ⟨rfl, h6⟩ | ⟨k, g, hk1, hk2, hk3, h6, hmk⟩
          · simp -dsimp [h6, hxr, q0, q1]
            refine ⟨hc, i + 1, by omega, by omega, ?_, fun j hj => ?_, [(r.drop 3).take (v3o r)], (r.drop 3).drop (v3o r), dropB r _, by omega, ?_, .inr ⟨n3 + 1, 0, by omega, by omega, by omega, rfl, ?_⟩, ?_⟩
            · rw [wrap_i64 (by omega) (by omega)]; simp
            · have : j ≠ n := by omega
              have : j ≠ n3 := by omega
              have : j ≠ n3 + 1 := by omega
              simp [*]
            · simp at hacc; simp; omega
            · have q2 : n3 + 1 ≠ n := by omega
              simp [S, q2]
            · rw [hget, hgn, hgs]
              cases getN (v3o s - (i + 1)) (List.drop (v3o r) (List.drop 3 r)) <;> simp
          · have q4 : n ≠ k := fun h => hk3 h.symm
            have q5 : k ≠ n3 := by omega
            have q6 : k ≠ n3 + 1 := by omega
            simp -dsimp [h6, hxr, hold3, hk3, hmk, q0, q1, q4, q5, q6]
            refine ⟨hc, by omega, hc, i + 1, by omega, by omega, ?_, fun j hj => ?_, acc ++ [(r.drop 3).take (v3o r)], (r.drop 3).drop (v3o r), dropB r _, by omega, ?_, .inr ⟨k, g + 1, by omega, by omega, hk3, by simp, ?_⟩, ?_⟩
            · rw [wrap_i64 (by omega) (by omega)]; simp
            · have a1 : j ≠ n := by omega
              have a2 : j ≠ n3 := by omega
              have a3 : j ≠ k := by omega
              simp [a1, a2, a3, hold3, hold j hj]
            · simp; omega
            · simp [S, hk3]
            · rw [hget, hgn, hgs]
              cases getN (v3o s - (i + 1)) (List.drop (v3o r) (List.drop 3 r)) <;> simp
    · simp at h
      have hiv : i = v3o s := by omega
      rw [hiv] at hget
      simp -dsimp [hm2, B]
      refine cnd_intro (fun hc => ?_) (fun hc => ?_)
      · simp at hc ⊢
        have hg : getO s = none := by
          rw [hO, hget]
          cases r with
          | nil => simp at hc
          | cons a b => simp [getN]
        simp [getR, hg, code]
        exact hold
      · simp at hc ⊢
        have hg : getO s = some acc := by
          rw [hO, hget]
          cases r with
          | nil => simp [getN]
          | cons a b => simp at hc
        simp [getR, hg, code]
        exact ⟨hout, hold⟩

theorem rs_S (β : Nat → Nat) (m : Mem) (f : Nat) : ((fun e => List.map (rs β m f) e) ∘ fun s => [S s]) = fun s => [S s] := by funext b; simp [S]
theorem belowE_S (n : Nat) (l : List (List UInt8)) : belowE n (l.map fun s => [S s]) = true := by
  induction l with
  | nil => simp [belowE]
  | cons b r ih => simp only [List.map_cons, belowE, belowL, S, below, Bool.and_true, Bool.true_and]; exact ih
attribute [simp] rs_S belowE_S
theorem sl1_eq (l : List (List UInt8)) : sl1 l = .sl 1 (l.map fun s => [S s]) := rfl
theorem cGet (s : List UInt8) (m : Mem) (n : Nat) : ACalls Tryz.prog 11 [B s] m n (fun d m' n' => d = getA s ∧ m' = m ∧ n' = n) := by
  refine acalls_pure (pGet s m n) ?_
  rintro d m' n' ⟨h, hold⟩ β
  unfold getR at h
  unfold getA
  split at h <;> rename_i hg
  · obtain ⟨x, rfl, ⟨rfl, rfl⟩ | ⟨k, g, h1, h2, h3, rfl, h4⟩⟩ := h
    · refine ⟨2, _, ?_, ?_, hold, rfl⟩
      · simp [sl1]; exact Le_tup (.cons (Le_nil 1) (.cons (Le.refl _) .nil))
      · simp
    · refine ⟨3, _, ?_, ?_, hold, rfl⟩
      · simp [h1, h4, sl1_eq]; exact Le.refl _
      · simp [h1, h4]
  · subst h
    refine ⟨2, _, ?_, ?_, hold, rfl⟩
    · simp [code]; exact Le_tup (.cons (Le_nil 1) (.cons (Le.refl _) .nil))
    · simp [code]

end Go.Proofs.Mv.App
open Go Go.Proofs Go.Proofs.Mv.V
set_option maxRecDepth 10000
namespace Go.Proofs.Mv.App
variable [GI]
theorem refFitsO (l : List (List UInt8)) (k g : Nat) (m : Mem) (n : Nat) (hm : m k = some ⟨1, l.map fun s => [S s], g⟩) (hl : l.length ≤ 1000000) : ACalls Tryz.prog 6 [.own k g 0 l.length 1] m n (fun d m' n' => d = .v (.bool (fits l)) ∧ m' = m ∧ n' = n) := by
  refine acalls_vc [0, 2, 3, 7, 15] Tryz.func6 Tryz.ntmps6 (by kernel_rfl) rfl rfl (by simp) ?_
  simp -dsimp
  refine vloop_of (β := Nat) (fun i σ m' n' => i ≤ l.length ∧ σ 0 = .own k g 0 l.length 1 ∧ σ 3 = .v (.int .i64 i) ∧ m' = m ∧ n' = n ∧ ∀ s ∈ l.take i, s.length ≤ 20000) (fun i => l.length - i) 0 (by simp) ?_
  rintro i σ m' n' ⟨hi, h0, h3, rfl, rfl, hall⟩
  simp -dsimp [h0, h3, hm, S]
  refine cnd_intro (fun h => ?_) (fun h => ?_)
  · simp at h
    simp -dsimp [h, hm, S]
    refine cnd_intro (fun hc => ?_) (fun hc => ?_)
    · simp at hc ⊢
      unfold fits
      have : (l.all fun s => decide (s.length ≤ 20000)) = false := by
        rw [List.all_eq_false]; exact ⟨l[i], by simp, by simp; omega⟩
      simp [this]
    · simp at hc ⊢
      refine ⟨i + 1, by omega, by omega, ?_, ?_⟩
      · rw [wrap_i64 (by omega) (by omega)]; simp
      · intro s hs
        rw [List.take_succ_eq_append_getElem h] at hs
        rcases List.mem_append.1 hs with hs | hs
        · exact hall s hs
        · simp at hs; subst hs; omega
  · simp at h
    have hil : i = l.length := by omega
    subst hil
    simp at hall
    have : (l.all fun s => decide (s.length ≤ 20000)) = true := by rw [List.all_eq_true]; simpa using hall
    simp [fits, this]
    omega

theorem refPutO (l : List (List UInt8)) (hl : l.length ≤ 64) (hs : ∀ s ∈ l, s.length ≤ 20000) (k g : Nat) (m : Mem) (n : Nat) (hm : m k = some ⟨1, l.map fun s => [S s], g⟩) : ACalls Tryz.prog 7 [.own k g 0 l.length 1] m n (fun d m' n' => d = S (putB l) ∧ m' = m ∧ n' = n) := by
  refine acalls_vc [0, 2, 3, 4, 11] Tryz.func7 Tryz.ntmps7 (by kernel_rfl) rfl rfl (by simp) ?_
  simp -dsimp [hm]
  refine aCall_of (refNumber l.length (by omega) (by omega) _ _) ?_
  rintro d m' n' ⟨rfl, rfl, rfl⟩
  simp -dsimp
  refine vloop_of (β := Nat) (fun i σ m2 n2 => i ≤ l.length ∧ σ 0 = .own k g 0 l.length 1 ∧ σ 4 = .v (.int .i64 i) ∧ m2 = m' ∧ n2 = n' ∧ σ 3 = S (putB' l i)) (fun i => l.length - i) 0 (by simp [S, putB'_zero]) ?_
  rintro i σ m2 n2 ⟨hi, h0, h4, rfl, rfl, h3⟩
  have hb : (putB' l i).length ≤ 2000000 := by
    have := len_le (l.take i) (fun s h => hs s (List.mem_of_mem_take h))
    rw [List.length_take] at this
    unfold putB'; rw [List.length_append, enc3_len]; omega
  simp -dsimp [h0, h4, h3, hm, S]
  refine cnd_intro (fun h => ?_) (fun h => ?_)
  · simp at h
    simp -dsimp [h, hm, S]
    have hlen : l[i].length ≤ 20000 := hs _ (by simp)
    refine vdraw_tree [0, 0, 0, 6, 14, 30, 62, 127, 0, 0, 768, 1792, 4095, 8191] (.rd 0 (.rd 1 (.rd 2 (.rd 3 (.rd 4 (.rd 5 (.rd 8 (.rd 9 (.rd 10 (.rd 11 (.wr (.cons 6 (.rd 7 (.rd 12 (.rd 13 (.fin)))) (.nil))))))))))))) (by kernel_rfl) (by kernel_rfl) ?_
    simp -dsimp [h, hm, S]
    refine aCall_of (refNumber l[i].length (by omega) (by omega) _ _) ?_
    rintro d m3 n3 ⟨rfl, rfl, rfl⟩
    simp -dsimp
    refine ⟨by omega, by omega, i + 1, by omega, by omega, ?_, ?_⟩
    · rw [wrap_i64 (by omega) (by omega)]; simp
    · rw [putB'_succ l i h]; simp [S]
  · simp at h
    have hil : i = l.length := by omega
    subst hil
    simp [putB'_all, S]

end Go.Proofs.Mv.App
