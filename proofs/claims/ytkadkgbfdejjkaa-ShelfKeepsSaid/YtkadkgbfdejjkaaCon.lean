/- A part of the proofs of the seat Ytkadkgbfdejjkaa: the abstract machine, the contracts of the functions, the laws. No condition of its own. -/
import Derived.Test.YtkadkgbfdejjkaaMvD
import Derived.Test.YtkadkgbfdejjkaaFact
set_option linter.unusedSimpArgs false
set_option linter.unusedVariables false
/- Contracts, the common part: texts, bytes, errors. -/
open Go Go.Proofs Go.Proofs.Mv.V
set_option maxRecDepth 10000
set_option linter.unusedSimpArgs false
set_option linter.unusedVariables false
namespace Go.Proofs.Mv.App
attribute [simp] Nat.testBit
/-! bytes -/
def byt (v : Int) : UInt8 := UInt8.ofNat (v % 256).toNat
theorem wrap_byt (v : Int) : Value.int .u8 (IntKind.u8.wrap v) = .int .u8 ((byt v).toNat : Int) := by
  congr 1
  simp only [byt, IntKind.wrap, IntKind.signed, IntKind.bits, Bool.false_eq_true, if_false]
  have h1 : 0 ≤ v % 256 := Int.emod_nonneg _ (by omega)
  have h2 : v % 256 < 256 := Int.emod_lt_of_pos _ (by omega)
  have h3 : (UInt8.ofNat (v % 256).toNat).toNat = (v % 256).toNat := by
    simp only [UInt8.toNat_ofNat']; omega
  rw [h3]
  rw [Int.toNat_of_nonneg h1]
  rfl
theorem bEnc_fold (b : UInt8) : [D.v (.int .u8 (b.toNat : Int))] = bEnc b := rfl
theorem unB_cons (b : UInt8) (r : List (List D)) : unB (bEnc b :: r) = b :: unB r := by simp [bEnc, unB]
theorem bEnc_len (b : UInt8) : (bEnc b).length = 1 := rfl
theorem bEnc_get (b : UInt8) : (bEnc b)[0]? = some (.v (.int .u8 (b.toNat : Int))) := rfl
theorem bEnc_hd (b : UInt8) : (bEnc b).head? = some (.v (.int .u8 (b.toNat : Int))) := rfl
theorem unB_nil : unB [] = [] := rfl
theorem i64_byte (b : UInt8) : IntKind.i64.wrap (b.toNat : Int) = b.toNat := wrap_i64 (by omega) (by have := b.toNat_lt; omega)
attribute [simp] wrap_byt bEnc_fold bEnc_len bEnc_get unB_cons unB_nil i64_byte unB_bEnc
theorem unB_bs (r : List UInt8) (a b : Nat) : unB (List.take a (List.drop b (List.map bEnc r))) = List.take a (List.drop b r) := by
  rw [← List.map_drop, ← List.map_take, unB_bEnc]
theorem unB_b (r : List UInt8) (a : Nat) : unB (List.take a (List.map bEnc r)) = List.take a r := by
  rw [← List.map_take, unB_bEnc]
@[simp] theorem unB_app (a : List UInt8) (r : List (List D)) : unB (List.map bEnc a ++ r) = a ++ unB r := by
  induction a with
  | nil => rfl
  | cons x a ih => simp [ih]
@[simp] theorem comp_idf {α β : Type} (f : α → β) : ((fun e => e) ∘ f) = f := rfl
theorem bits_i64 : IntKind.i64.bits = 64 := rfl
attribute [simp] unB_bs unB_b bits_i64
theorem fdiv16 (v : Int) : v.fdiv 65536 = v / 65536 := Int.fdiv_eq_ediv_of_nonneg _ (by omega)
theorem fdiv8 (v : Int) : v.fdiv 256 = v / 256 := Int.fdiv_eq_ediv_of_nonneg _ (by omega)
@[simp] theorem take_map_len {α γ : Type} (l : List α) (f : α → γ) : (l.map f).take l.length = l.map f := List.take_of_length_le (by simp)
@[simp] theorem nat_neg (q : Nat) : ((q : Int) < 0) = False := by simp
theorem get_opt {α : Type} {l : List α} {i : Nat} {a : α} (h : l[i]? = some a) (hi : i < l.length) : l[i] = a := by rw [List.getElem?_eq_getElem hi] at h; exact Option.some.inj h
/-! texts, lists of texts, bytes, errors -/
def S (s : List UInt8) : D := .v (.string (ofL s))
def sl1 (l : List (List UInt8)) : D := .sl 1 (l.map fun s => [S s])
def B (s : List UInt8) : D := .sl 1 (s.map bEnc)
def I (n : Int) : D := .v (.int .i64 n)
def Tt (b : Bool) : D := .v (.bool b)
def code (c : Int) : D := .iface 30 (.v (.int .i64 c))
def nilE : D := .v .nilIface
@[simp] theorem okD_S (s : List UInt8) : okD (S s) = true := (rfl)
@[simp] theorem cellsOf_S (s : List UInt8) : cellsOf (S s) = [S s] := (rfl)
@[simp] theorem kof_S (s : List UInt8) : kof (S s) = none := (rfl)
@[simp] theorem okD_B (s : List UInt8) : okD (B s) = true := (rfl)
@[simp] theorem cellsOf_B (s : List UInt8) : cellsOf (B s) = [B s] := (rfl)
@[simp] theorem kof_B (s : List UInt8) : kof (B s) = none := (rfl)
@[simp] theorem okD_sl1 (l : List (List UInt8)) : okD (sl1 l) = true := (rfl)
@[simp] theorem cellsOf_sl1 (l : List (List UInt8)) : cellsOf (sl1 l) = [sl1 l] := (rfl)
@[simp] theorem kof_sl1 (l : List (List UInt8)) : kof (sl1 l) = none := (rfl)
@[simp] theorem okD_I (n : Int) : okD (I n) = true := (rfl)
@[simp] theorem cellsOf_I (n : Int) : cellsOf (I n) = [I n] := (rfl)
@[simp] theorem kof_I (n : Int) : kof (I n) = none := (rfl)
@[simp] theorem okD_Tt (b : Bool) : okD (Tt b) = true := (rfl)
@[simp] theorem cellsOf_Tt (b : Bool) : cellsOf (Tt b) = [Tt b] := (rfl)
@[simp] theorem kof_Tt (b : Bool) : kof (Tt b) = none := (rfl)
@[simp] theorem okD_code (c : Int) : okD (code c) = true := (rfl)
@[simp] theorem cellsOf_code (c : Int) : cellsOf (code c) = [code c] := (rfl)
@[simp] theorem kof_code (c : Int) : kof (code c) = none := (rfl)
@[simp] theorem okD_nilE  : okD (nilE) = true := (rfl)
@[simp] theorem cellsOf_nilE  : cellsOf (nilE) = [nilE] := (rfl)
@[simp] theorem kof_nilE  : kof (nilE) = none := (rfl)
theorem pur_S (s : List UInt8) : Pur (S s) := Pur.v _
theorem pur_I (n : Int) : Pur (I n) := Pur.v _
theorem pur_T (n : Bool) : Pur (Tt n) := Pur.v _
theorem pur_code (c : Int) : Pur (code c) := Pur.iface (Pur.v _)
theorem pur_nilE : Pur nilE := Pur.v _
theorem pur_bEnc {s : List UInt8} : ∀ e ∈ s.map bEnc, ∀ d ∈ e, Pur d := by
  intro e he d hd
  obtain ⟨b, _, rfl⟩ := List.mem_map.1 he
  simp [bEnc, -bEnc_fold] at hd; subst hd; exact Pur.v _
theorem pur_B (s : List UInt8) : Pur (B s) := Pur.sl pur_bEnc
theorem pur_ss {l : List (List UInt8)} : ∀ e ∈ l.map (fun s => [S s]), ∀ d ∈ e, Pur d := by
  intro e he d hd
  obtain ⟨b, _, rfl⟩ := List.mem_map.1 he
  simp at hd; subst hd; exact Pur.v _
theorem pur_sl1 (l : List (List UInt8)) : Pur (sl1 l) := Pur.sl pur_ss
theorem pub_pair {n : Nat} {m : Mem} {a b a' b' : D} (h : PubAs n m a a') (h' : PubAs n m b b') : PubAs n m (.tup [a, b]) (.tup [a', b']) := .tup (.cons h (.cons h' .nil))
theorem pub_three {n : Nat} {m : Mem} {a b c a' b' c' : D} (h : PubAs n m a a') (h' : PubAs n m b b') (h'' : PubAs n m c c') : PubAs n m (.tup [a, b, c]) (.tup [a', b', c']) := .tup (.cons h (.cons h' (.cons h'' .nil)))
theorem pub_nil {n : Nat} {m : Mem} (z : Nat) : PubAs n m (.v (.slice none 0 0)) (.sl z []) := (Pur.v _).pub.le (Le_nil z)
/-- What reads as these bytes: read-only, or one's own. -/
def Rd (m : Mem) (z : Nat) (es : List (List D)) (d : D) : Prop := d = .sl z es ∨ Lst m z es d
theorem Rd.elems {m : Mem} {z : Nat} {es : List (List D)} {d : D} (h : Rd m z es d) : ∃ O : Prop, elemsOf m z d = some (O, es) ∧ O := by
  rcases h with rfl | h
  · exact elems_sl m z es
  · exact h.elems
theorem Rd.frame {m m' : Mem} {z : Nat} {es : List (List D)} {d : D} (h : Rd m z es d) (hf : ∀ k, kof d = some k → m' k = m k) : Rd m' z es d := by
  rcases h with h | h
  · exact .inl h
  · exact .inr (h.frame hf)
theorem lenD_rd {m : Mem} {z : Nat} {es : List (List D)} {d : D} (h : Rd m z es d) : lenD 5 d = some (True, .v (.int .i64 es.length)) := by
  rcases h with rfl | h
  · rfl
  · exact lenD_lst h
end Go.Proofs.Mv.App
/- Contracts of layer 16, part 1. -/
open Go Go.Proofs Go.Proofs.Mv.V
set_option maxRecDepth 10000
set_option linter.unusedSimpArgs false
set_option linter.unusedVariables false
namespace Go.Proofs.Mv.App
def recN (a b : UInt8) : Nat := 256 * a.toNat + b.toNat + 1
def firstR : List UInt8 → List UInt8
  | a :: b :: r => if r.length < recN a b + 1 ∨ r[recN a b]? ≠ some 46 then [] else r.take (recN a b)
  | _ => []
theorem shl8 (a b : UInt8) : IntKind.i64.wrap (IntKind.i64.wrap (IntKind.i64.wrap ((a.toNat : Int) * 256) + (b.toNat : Int)) + 1) = ((recN a b : Nat) : Int) := by
  have := a.toNat_lt; have := b.toNat_lt
  rw [wrap_i64 (x := (a.toNat : Int) * 256) (by omega) (by omega), wrap_i64 (x := (a.toNat : Int) * 256 + _) (by omega) (by omega), wrap_i64 (by omega) (by omega)]
  unfold recN; omega
theorem recN_le (a b : UInt8) : 1 ≤ recN a b ∧ recN a b ≤ 65536 := by
  have := a.toNat_lt; have := b.toNat_lt; unfold recN; omega
theorem cFirst (s : List UInt8) (hs : s.length ≤ 1000000000) (m : Mem) (n : Nat) : ACalls Try.prog 17 [B s] m n (fun d m' n' => d = B (firstR s) ∧ m' = m ∧ n' = n) := by
  refine acalls_done (R' := fun d m' n' => (d = B (firstR s) ∨ (firstR s = [] ∧ d = .v (.slice none 0 0))) ∧ m' = m) ?_ ?_
  · refine acalls_vc [0, 2, 3, 6, 31] Try.func17 Try.ntmps17 (by kernel_rfl) rfl rfl (by simp) ?_
    simp -dsimp [B]
    refine cnd_intro (fun h => ?_) (fun h => ?_)
    · simp at h ⊢
      match s, h with
      | [], h => simp [firstR]
      | [_], h => simp [firstR]
      | a :: b :: r, h => simp at h; omega
    · simp at h ⊢
      obtain ⟨a, b, r, rfl⟩ : ∃ a b r, s = a :: b :: r := by
        match s, h with
        | [], h => simp at h
        | [_], h => simp at h
        | a :: b :: r, _ => exact ⟨a, b, r, rfl⟩
      have hr := recN_le a b
      simp at hs
      refine vdraw_of [0, 1, 3, 7, 15, 0, 32, 96, 224, 511, 1023, 2047] [0, 1, 2, 3, 4, 5, 6, 7, 8, 9, 10, 11] (by kernel_rfl) (by kernel_rfl) ?_
      have w1 : IntKind.i64.wrap (2 + ((recN a b : Nat) : Int)) = 2 + ((recN a b : Nat) : Int) := wrap_i64 (by omega) (by omega)
      have w2 : IntKind.i64.wrap (2 + ((recN a b : Nat) : Int) + 1) = 2 + ((recN a b : Nat) : Int) + 1 := wrap_i64 (by omega) (by omega)
      have e2 : (2 + ((recN a b : Nat) : Int)).toNat = recN a b + 2 := by omega
      by_cases hc : (r.length : Int) + 1 + 1 < 2 + ((recN a b : Nat) : Int) + 1
      · simp -dsimp [shl8, w1, w2, hc]
        refine ⟨by omega, by omega, .inr ?_⟩
        rw [firstR, if_pos (.inl (by omega))]
      · have hlt : recN a b < r.length := by omega
        simp -dsimp [shl8, w1, w2, hc, e2, hlt]
        refine ⟨by omega, by omega, by omega, cnd_intro (fun hz => ?_) (fun hz => ?_)⟩
        · simp at hz ⊢
          rw [firstR, if_pos (.inr (by
            rw [List.getElem?_eq_getElem hlt]
            intro e
            apply hz
            simp at e
            rw [e]; rfl))]
          exact .inr rfl
        · simp [w1, e2] at hz ⊢
          have hz' : r[recN a b] = 46 := by
            apply UInt8.toNat_inj.1; have : (46 : UInt8).toNat = 46 := rfl
            omega
          rw [firstR, if_neg]
          · simp [B]; omega
          · rw [List.getElem?_eq_getElem hlt, hz']; simp; omega
  · rintro d m' n' ⟨h | ⟨h, rfl⟩, rfl⟩
    · subst h; exact ⟨_, (pur_B _).pub, fun _ _ => rfl, rfl⟩
    · exact ⟨_, pub_nil 1, fun _ _ => rfl, by rw [h]; rfl⟩

/-! Clone: a list of one's own. -/
theorem rClone (x : D) (s : List UInt8) (hs : s.length ≤ 1000000000) (m : Mem) (n : Nat) (hx : Rd m 1 (s.map bEnc) x) (hk : ∀ k, kof x = some k → k < n) : ACalls Try.prog 18 [x] m n
    (fun d m' n' => Lst m' 1 (s.map bEnc) d ∧ n ≤ n' ∧ (∀ k, kof d = some k → n ≤ k ∧ k < n') ∧ ∀ j, j < n → m' j = m j) := by
  refine acalls_vc [0, 2, 4] Try.func18 Try.ntmps18 (by kernel_rfl) rfl rfl (by simp) ?_
  rcases hx with rfl | ⟨hnil, rfl | rfl⟩ | ⟨k, g, es', rfl, h1, h2, h3⟩
  · cases s with
    | nil =>
      simp -dsimp
      exact ⟨.nil, .mk (set_same _ _ _) rfl (by simp) rfl, fun j hj => set_ne _ _ _ _ (by omega)⟩
    | cons a r =>
      simp at hs
      simp -dsimp
      exact ⟨by omega, .mk (set_same _ _ _) (by simp) (by simp) (by rw [List.take_of_length_le (by simp)]), fun j hj => set_ne _ _ _ _ (by omega)⟩
  · obtain rfl : s = [] := by simpa using hnil
    simp -dsimp
    exact .nil
  · obtain rfl : s = [] := by simpa using hnil
    simp -dsimp
    exact ⟨.nil, .mk (set_same _ _ _) rfl (by simp) rfl, fun j hj => set_ne _ _ _ _ (by omega)⟩
  · have hkn := hk k rfl
    have q : k ≠ n := by omega
    simp at h2 h3
    simp -dsimp [h1, q, h3]
    exact ⟨⟨h2, by omega⟩, .mk (set_same _ _ _) (by simp) (by simp) (by rw [List.take_of_length_le (by simp)]), fun j hj => set_ne _ _ _ _ (by omega)⟩
theorem cClone (s : List UInt8) (hs : s.length ≤ 1000000000) (x : D) (m : Mem) (n : Nat) (hx : Rd m 1 (s.map bEnc) x) (hk : ∀ k, kof x = some k → k < n) : ACalls Try.prog 18 [x] m n (fun d m' n' => d = B s ∧ m' = m ∧ n' = n) := by
  refine acalls_done (rClone x s hs m n hx hk) ?_
  rintro d m' n' ⟨h1, h2, h3, h4⟩
  exact ⟨_, .lstP h1 (fun k hk => (h3 k hk).1) pur_bEnc, h4, rfl⟩
/-! Grow and Concat. -/
theorem rGrow (q : Nat) (hq : q ≤ 1000000000) (m : Mem) (n : Nat) : ACalls Try.prog 22 [.v (.slice none 0 0), .v (.int .i64 q)] m n
    (fun d m' n' => Lst m' 1 [] d ∧ n ≤ n' ∧ (∀ k, kof d = some k → n ≤ k ∧ k < n') ∧ ∀ j, j < n → m' j = m j) := by
  refine acalls_vc [0, 1, 4, 6, 16] Try.func22 Try.ntmps22 (by kernel_rfl) rfl rfl (by simp) ?_
  simp -dsimp
  have w1 : IntKind.i64.wrap ((q : Int) - IntKind.i64.wrap 0) = q := by rw [wrap_i64 (x := 0) (by omega) (by omega), wrap_i64 (by omega) (by omega)]; omega
  simp -dsimp [w1]
  refine cnd_intro (fun h => ?_) (fun h => ?_)
  · simp at h
    simp -dsimp [w1]
    exact ⟨⟨h, by omega⟩, .mk (set_same _ _ _) rfl (by simp) (by simp), fun j hj => set_ne _ _ _ _ (by omega)⟩
  · simp -dsimp
    exact .nil
/-- A shelf. -/
def ShelfAt (m : Mem) (ks : Nat) (most : Int) (bs : List UInt8) (l : List (List UInt8)) (db da : D) : Prop :=
  m ks = some ⟨3, [[.v (.int .i64 most), db, da]], 0⟩ ∧ Lst m 1 (bs.map bEnc) db ∧ Lst m 1 (l.map fun r => [B r]) da ∧ kof db ≠ some ks ∧ kof da ≠ some ks ∧ ∀ k, kof db = some k → kof da ≠ some k
def frameR (r : List UInt8) : List UInt8 := byt (((r.length : Int) - 1) / 256) :: byt ((r.length : Int) - 1) :: (r ++ [46])
theorem frame_len (r : List UInt8) : (frameR r).length = r.length + 3 := by simp [frameR]
theorem cFrame (ks : Nat) (most : Int) (bs : List UInt8) (db da : D) (r : List UInt8) (m : Mem) (n : Nat) (hm : m ks = some ⟨3, [[.v (.int .i64 most), db, da]], 0⟩) (hb : Lst m 1 (bs.map bEnc) db) (hbl : bs.length ≤ 1000000000) (hr : r.length ≤ 1000000000) (hks : ks < n) (h0 : 0 ≤ most ∧ most ≤ 1000000000) :
    ACalls Try.prog 19 [.ptr ks 0 0 0, B r] m n (fun d m' n' => d = (if r.length < 1 ∨ 65536 < r.length then .tup [B [], code 1] else if most - bs.length < r.length + 3 then .tup [B [], code 8] else .tup [B (frameR r), nilE]) ∧ m' = m ∧ n' = n) := by
  refine acalls_done (R' := Hq (fun d m' n' => ∃ x y, d = .tup [x, y] ∧ (if r.length < 1 ∨ 65536 < r.length then x = .v (.slice none 0 0) ∧ y = code 1 else if most - bs.length < r.length + 3 then x = .v (.slice none 0 0) ∧ y = code 8 else Lst m' 1 ((frameR r).map bEnc) x ∧ (∀ k, kof x = some k → n ≤ k) ∧ y = nilE) ∧ ∀ j, j < n → m' j = m j) tg) ?_ ?_
  · refine acalls_vc [0, 1, 4, 5, 6, 9, 17] Try.func19 Try.ntmps19 (by kernel_rfl) rfl rfl (by simp) ?_
    simp -dsimp [B]
    by_cases a : (r.length : Int) < 1
    · simp -dsimp [a]
      exact hq ⟨_, _, rfl, by rw [if_pos (.inl (by omega))]; exact ⟨rfl, rfl⟩, fun _ _ => rfl⟩
    by_cases b : 65536 < (r.length : Int)
    · simp -dsimp [a, b]
      exact hq ⟨_, _, rfl, by rw [if_pos (.inr (by omega))]; exact ⟨rfl, rfl⟩, fun _ _ => rfl⟩
    have h1 : ¬ (r.length < 1 ∨ 65536 < r.length) := by omega
    simp -dsimp [a, b]
    refine vdraw_of [0, 1, 3, 0, 8, 24, 56, 0, 128, 384, 896, 1920, 4088, 8191, 16383] [0, 1, 2, 3, 4, 5, 6, 7, 8, 9, 10, 11, 12, 13, 14] (by kernel_rfl) (by kernel_rfl) ?_
    have hw1 : IntKind.i64.wrap (2 + (r.length : Int)) = 2 + r.length := wrap_i64 (by omega) (by omega)
    have hw2 : IntKind.i64.wrap (2 + (r.length : Int) + 1) = 2 + r.length + 1 := wrap_i64 (by omega) (by omega)
    have hw3 : IntKind.i64.wrap (most - (bs.length : Int)) = most - bs.length := wrap_i64 (by omega) (by omega)
    have hw4 : IntKind.i64.wrap ((r.length : Int) - 1) = r.length - 1 := wrap_i64 (by omega) (by omega)
    simp -dsimp [hm, lenD_lst hb, hw1, hw2, hw3]
    refine cnd_intro (fun h => ?_) (fun h => ?_)
    · simp at h
      simp -dsimp
      exact hq ⟨_, _, rfl, by rw [if_neg h1, if_pos (by omega)]; exact ⟨rfl, rfl⟩, fun _ _ => rfl⟩
    · simp at h
      simp -dsimp [hw4, fdiv8]
      refine ⟨by omega, ⟨by omega, by omega⟩, hq ⟨_, _, rfl, ?_, fun j hj => by rw [set_ne _ _ _ _ (by omega), set_ne _ _ _ _ (by omega), set_ne _ _ _ _ (by omega)]⟩⟩
      rw [if_neg h1, if_neg (by omega)]
      refine ⟨.mk (set_same _ _ _) ?_ ?_ ?_, by simp, rfl⟩
      · simp [frameR]; omega
      · simp; omega
      · rw [List.take_of_length_le (by simp; omega), List.take_of_length_le (by simp; omega)]
        simp [frameR]; rfl
  · rintro d m' n' ⟨x, y, rfl, h, hf⟩
    split at h
    · rename_i h1
      obtain ⟨rfl, rfl⟩ := h
      exact ⟨_, pub_pair (pub_nil 1) (pur_code _).pub, hf, by rw [if_pos h1]; rfl⟩
    · rename_i h1
      split at h
      · rename_i h2
        obtain ⟨rfl, rfl⟩ := h
        exact ⟨_, pub_pair (pub_nil 1) (pur_code _).pub, hf, by rw [if_neg h1, if_pos h2]; rfl⟩
      · rename_i h2
        obtain ⟨h3, h4, rfl⟩ := h
        exact ⟨_, pub_pair (.lstP h3 h4 pur_bEnc) pur_nilE.pub, hf, by rw [if_neg h1, if_neg h2]; rfl⟩
theorem rConcat (kx : Nat) (x y : D) (a b : List UInt8) (m : Mem) (n : Nat) (hm : m kx = some ⟨1, [[x], [y]], 0⟩) (hx : Rd m 1 (a.map bEnc) x) (hy : Rd m 1 (b.map bEnc) y) (hkx : kx < n) (ha : a.length ≤ 100000000) (hb : b.length ≤ 100000000)
    (hxk : ∀ k, kof x = some k → k < n) (hyk : ∀ k, kof y = some k → k < n) :
    ACalls Try.prog 20 [.own kx 0 0 2 1] m n (Hq (fun d m' n' => Lst m' 1 ((a ++ b).map bEnc) d ∧ n ≤ n' ∧ (∀ k, kof d = some k → n ≤ k) ∧ ∀ j, j < n → m' j = m j) tg) := by
  have lx := lenD_rd hx
  have ly := lenD_rd hy
  simp at lx ly
  refine acalls_vc [0, 2, 3, 5, 6, 8, 9, 10, 11, 12, 20, 25, 26, 27, 28] Try.func20 Try.ntmps20 (by kernel_rfl) rfl rfl (by simp) ?_
  simp -dsimp
  refine vloop_of (β := Nat) (fun i σ m2 n2 => i ≤ 2 ∧ σ 0 = .own kx 0 0 2 1 ∧ σ 9 = .own kx 0 0 2 1 ∧ σ 10 = I 2 ∧ σ 11 = I i ∧ m2 = m ∧ n2 = n ∧ σ 3 = I (if i = 0 then 0 else if i = 1 then a.length else a.length + b.length)) (fun i => 2 - i) 0 (by simp [I]) ?_
  rintro i σ m2 n2 ⟨hi, h0, h9, h10, h11, rfl, rfl, h3⟩
  have w0 : IntKind.i64.wrap (a.length : Int) = a.length := wrap_i64 (by omega) (by omega)
  have w2' : IntKind.i64.wrap 2 = 2 := wrap_i64 (by omega) (by omega)
  have w1' : IntKind.i64.wrap 1 = 1 := wrap_i64 (by omega) (by omega)
  have w1 : IntKind.i64.wrap ((a.length : Int) + b.length) = a.length + b.length := wrap_i64 (by omega) (by omega)
  have w2 : IntKind.i64.wrap (0 + 1) = 1 := wrap_i64 (by omega) (by omega)
  have w3 : IntKind.i64.wrap (1 + 1) = 2 := wrap_i64 (by omega) (by omega)
  have nn : ¬ ((a.length : Int) + b.length < 0) := by omega
  obtain rfl | rfl | rfl : i = 0 ∨ i = 1 ∨ i = 2 := by omega
  · simp [I] at h3 h10 h11
    simp -dsimp [h0, h9, h10, h11, h3, hm, lx, w0, w1']
    exact ⟨1, by omega, by omega, rfl, rfl, rfl⟩
  · simp [I] at h3 h10 h11
    simp -dsimp [h0, h9, h10, h11, h3, hm, ly, w1, w2', nn]
    exact ⟨2, by omega, by omega, rfl, rfl, rfl⟩
  · simp [I] at h3 h10 h11
    simp -dsimp [h0, h9, h10, h11, h3]
    refine aCall_of (rGrow (a.length + b.length) (by omega) _ _) ?_
    rintro d m' n' ⟨g1, g2, g3, g4⟩
    have hmx : m' kx = some ⟨1, [[x], [y]], 0⟩ := by rw [g4 kx hkx]; exact hm
    simp -dsimp
    refine vloop_of (β := Nat) (fun i σ m3 n3 => i ≤ 2 ∧ σ 25 = .own kx 0 0 2 1 ∧ σ 26 = I 2 ∧ σ 27 = I i ∧ (∀ j, j < n2 → m3 j = m2 j) ∧ n2 ≤ n3 ∧ (∀ k, kof (σ 6) = some k → n2 ≤ k ∧ k < n3) ∧ Lst m3 1 ((if i = 0 then [] else if i = 1 then a else a ++ b).map bEnc) (σ 6)) (fun i => 2 - i) 0 ?_ ?_
    · simp [I]; exact ⟨g4, g2, g3, g1⟩
    rintro i σ m3 n3 ⟨hi, h25, h26, h27, hf, hn, hk, hL⟩
    have hmx3 : m3 kx = some ⟨1, [[x], [y]], 0⟩ := by rw [hf kx hkx]; exact hm
    obtain ⟨O1, e1, o1⟩ := (hx.frame (m' := m3) (fun k hk => hf k (hxk k hk))).elems
    obtain ⟨O2, e2, o2⟩ := (hy.frame (m' := m3) (fun k hk => hf k (hyk k hk))).elems
    obtain rfl | rfl | rfl : i = 0 ∨ i = 1 ∨ i = 2 := by omega
    · simp [I] at h26 h27 hL
      simp -dsimp [h25, h26, h27, hmx3, e1]
      refine b4_append hL (fun k h => (hk k h).2) (by trivial) o1 (by omega) (by simp; omega) ?_
      intro d' m4 n4 q1 q2 q3 q4
      simp -dsimp [w1']
      refine ⟨1, by omega, by omega, rfl, rfl, fun j hj => ?_, by omega, fun k h => ?_, ?_⟩
      · rw [q4 j (by omega) (fun e => by have := hk j e; omega), hf j hj]
      · have := q3 k h; refine ⟨?_, this.1⟩
        rcases this.2 with h' | h'
        · exact (hk k h').1
        · omega
      · simpa using q1
    · simp [I] at h26 h27 hL
      simp -dsimp [h25, h26, h27, hmx3, e2]
      refine b4_append hL (fun k h => (hk k h).2) trivial o2 (by omega) (by simp; omega) ?_
      intro d' m4 n4 q1 q2 q3 q4
      simp -dsimp [w2']
      refine ⟨2, by omega, by omega, rfl, rfl, fun j hj => ?_, by omega, fun k h => ?_, ?_⟩
      · rw [q4 j (by omega) (fun e => by have := hk j e; omega), hf j hj]
      · have := q3 k h; refine ⟨?_, this.1⟩
        rcases this.2 with h' | h'
        · exact (hk k h').1
        · omega
      · simpa using q1
    · simp [I] at h26 h27 hL
      simp -dsimp [h25, h26, h27]
      exact hq ⟨by simpa using hL, hn, fun k h => (hk k h).1, hf⟩
end Go.Proofs.Mv.App
/- Contracts of layer 16, part 2. -/
open Go Go.Proofs Go.Proofs.Mv.V
set_option maxRecDepth 10000
set_option linter.unusedSimpArgs false
set_option linter.unusedVariables false
namespace Go.Proofs.Mv.App
def appCode (most : Int) (k : Nat) (r : List UInt8) : Int := if r.length < 1 ∨ 65536 < r.length then 1 else if most - k < r.length + 3 then 8 else 0
def errD (c : Int) : D := if c = 0 then nilE else code c
theorem pur_errD (c : Int) : Pur (errD c) := by unfold errD; split; exact pur_nilE; exact pur_code _
structure Sh (m : Mem) (n ks : Nat) (most : Int) (bs : List UInt8) (l : List (List UInt8)) (db da : D) : Prop where
  at_ : m ks = some ⟨3, [[.v (.int .i64 most), db, da]], 0⟩
  lb : Lst m 1 (bs.map bEnc) db
  la : Lst m 1 (l.map fun r => [B r]) da
  kb : ∀ k, kof db = some k → k < n ∧ k ≠ ks ∧ kof da ≠ some k
  ka : ∀ k, kof da = some k → k < n ∧ k ≠ ks
  ks : ks < n
theorem Sh.frame {m m' : Mem} {n n' ks : Nat} {most : Int} {bs : List UInt8} {l : List (List UInt8)} {db da : D} (h : Sh m n ks most bs l db da) (hn : n ≤ n') (hf : ∀ j, j = ks ∨ kof db = some j ∨ kof da = some j → m' j = m j) : Sh m' n' ks most bs l db da where
  at_ := by rw [hf ks (.inl rfl)]; exact h.at_
  lb := h.lb.frame fun k hk => hf k (.inr (.inl hk))
  la := h.la.frame fun k hk => hf k (.inr (.inr hk))
  kb := fun k hk => ⟨by have := (h.kb k hk).1; omega, (h.kb k hk).2⟩
  ka := fun k hk => ⟨by have := (h.ka k hk).1; omega, (h.ka k hk).2⟩
  ks := by have := h.ks; omega
theorem frame_eq (most : Int) (bs r : List UInt8) : (if r.length < 1 ∨ 65536 < r.length then D.tup [B [], code 1] else if most - bs.length < r.length + 3 then .tup [B [], code 8] else .tup [B (frameR r), nilE]) =
    .tup [B (if appCode most bs.length r = 0 then frameR r else []), errD (appCode most bs.length r)] := by
  unfold appCode errD
  split
  · simp
  · split <;> simp
theorem rAppend (ks : Nat) (most : Int) (bs : List UInt8) (l : List (List UInt8)) (db da : D) (r : List UInt8) (m : Mem) (n : Nat) (h : Sh m n ks most bs l db da) (hbl : bs.length ≤ 10000000) (hll : l.length ≤ 10000000) (hr : r.length ≤ 1000000000) (h0 : 0 ≤ most ∧ most ≤ 1048576) :
    ACalls Try.prog 11 [.ptr ks 0 0 0, B r] m n (Hq (fun d m' n' => d = errD (appCode most bs.length r) ∧ n ≤ n' ∧ ∃ db' da', Sh m' n' ks most (if appCode most bs.length r = 0 then bs ++ frameR r else bs) (if appCode most bs.length r = 0 then l ++ [r] else l) db' da' ∧
      (∀ k, kof db' = some k → kof db = some k ∨ n ≤ k) ∧ (∀ k, kof da' = some k → kof da = some k ∨ n ≤ k) ∧ ∀ j, j < n → j ≠ ks → kof db ≠ some j → kof da ≠ some j → m' j = m j) tg) := by
  have hks := h.ks
  refine acalls_vc [0, 1, 4, 5, 6, 14] Try.func11 Try.ntmps11 (by kernel_rfl) rfl rfl (by simp) ?_
  simp -dsimp
  refine aCall_of (cFrame ks most bs db da r m n h.at_ h.lb (by omega) hr h.ks ⟨h0.1, by omega⟩) ?_
  rintro d m' n' ⟨rfl, rfl, rfl⟩
  rw [frame_eq]
  by_cases hc : appCode most bs.length r = 0
  · have hrl : r.length ≤ 65536 := by
      unfold appCode at hc
      split at hc
      · simp at hc
      · omega
    simp -dsimp [hc, errD, nilE, B, h.at_]
    refine b4_append h.lb (fun k hk => (h.kb k hk).1) (by trivial) (by trivial) (by omega) (by simp [frame_len]; omega) ?_
    intro d1 m1 n1 q1 q2 q3 q4
    have hm1 : m1 ks = some ⟨3, [[.v (.int .i64 most), db, da]], 0⟩ := by rw [q4 ks (by omega) (fun e => (h.kb ks e).2.1 rfl)]; exact h.at_
    obtain ⟨ok1, oc1⟩ := okD_lst q1
    simp -dsimp [hm1, ok1, oc1]
    refine vdraw_of [0, 0, 2, 6, 14, 0, 32, 96, 254, 511, 1023, 2047] [0, 1, 2, 3, 4, 5, 6, 7, 8, 9, 10, 11] (by kernel_rfl) (by kernel_rfl) ?_
    simp -dsimp
    refine aCall_of (cClone r (by omega) (B r) _ _ (.inl rfl) (by simp [B])) ?_
    rintro d m2 n2 ⟨rfl, rfl, rfl⟩
    have hkn : ks ≠ n2 := by omega
    simp -dsimp [hkn]
    refine b4_append (h.la.frame fun k hk => ?_) (fun k hk => ?_) (by trivial) (by trivial) (by omega) (by simp; omega) ?_
    · have a1 := h.ka k hk
      rw [set_ne _ _ _ _ (by omega), set_ne _ _ _ _ a1.2, q4 k (by omega) (fun e => (h.kb k e).2.2 hk)]
    · have := h.ka k hk; omega
    intro d2 m2 n3 p1 p2 p3 p4
    obtain ⟨ok2, oc2⟩ := okD_lst p1
    have hm2 : m2 ks = some ⟨3, [[.v (.int .i64 most), d1, da]], 0⟩ := by rw [p4 ks (by omega) (fun e => (h.ka ks e).2 rfl)]; simp [hkn]
    simp -dsimp [hm2, ok2, oc2]
    have kd1 : ∀ k, kof d1 = some k → k < n2 ∧ (kof db = some k ∨ k = n') := q3
    have kd2 : ∀ k, kof d2 = some k → k < n3 ∧ (kof da = some k ∨ k = n2 + 1) := p3
    refine hq ⟨by simp [hc, errD, nilE], by omega, d1, d2, ⟨set_same _ _ _, ?_, ?_, fun k hk => ?_, fun k hk => ?_, by omega⟩, fun k hk => ?_, fun k hk => ?_, fun j hj hjk hjb hja => ?_⟩
    · rw [if_pos hc]
      refine (q1.frame fun k hk => ?_).map_eq (by simp)
      have := kd1 k hk
      have hkk : k ≠ ks := by rcases this.2 with e | e; exact (h.kb k e).2.1; omega
      rw [set_ne _ _ _ _ hkk, p4 k (by omega) (fun e => ?_), set_ne _ _ _ _ (by omega), set_ne _ _ _ _ hkk]
      have := h.ka k e
      rcases (kd1 k hk).2 with e' | e'
      · exact (h.kb k e').2.2 e
      · omega
    · rw [if_pos hc]
      refine (p1.frame fun k hk => ?_).map_eq (by simp [B])
      have := kd2 k hk
      have hkk : k ≠ ks := by rcases this.2 with e | e; exact (h.ka k e).2; omega
      rw [set_ne _ _ _ _ hkk]
    · have := kd1 k hk
      refine ⟨by omega, ?_, fun e => ?_⟩
      · rcases this.2 with e | e; exact (h.kb k e).2.1; omega
      · rcases this.2 with e' | e' <;> rcases (kd2 k e).2 with e2 | e2
        · exact (h.kb k e').2.2 e2
        · have := h.kb k e'; omega
        · have := h.ka k e2; omega
        · omega
    · have := kd2 k hk
      refine ⟨by omega, ?_⟩
      rcases this.2 with e | e; exact (h.ka k e).2; omega
    · rcases (kd1 k hk).2 with e | e; exact .inl e; exact .inr (by omega)
    · rcases (kd2 k hk).2 with e | e; exact .inl e; exact .inr (by omega)
    · rw [set_ne _ _ _ _ hjk, p4 j (by omega) hja, set_ne _ _ _ _ (by omega), set_ne _ _ _ _ hjk, q4 j (by omega) hjb]
  · simp -dsimp [hc, errD, code]
    exact hq ⟨by simp [hc, errD, code], Nat.le_refl _, db, da, by simpa [hc] using h, fun k hk => .inl hk, fun k hk => .inl hk, fun _ _ _ _ _ => rfl⟩
end Go.Proofs.Mv.App
/- Contracts of layer 16, part 3. -/
open Go Go.Proofs Go.Proofs.Mv.V
set_option maxRecDepth 10000
set_option linter.unusedSimpArgs false
set_option linter.unusedVariables false
namespace Go.Proofs.Mv.App
/-! plain -/
def frames (l : List (List UInt8)) : List UInt8 := l.flatMap frameR
theorem frames_snoc (l : List (List UInt8)) (r : List UInt8) : frames (l ++ [r]) = frames l ++ frameR r := by simp [frames]
theorem byt_toNat (v : Nat) : (byt (v : Int)).toNat = v % 256 := by
  have h : ((v : Int) % 256).toNat = v % 256 := by omega
  simp only [byt, h, UInt8.toNat_ofNat']; omega
theorem recN_frame (n : Nat) (h : 1 ≤ n) (h' : n ≤ 65536) : recN (byt (((n : Int) - 1) / 256)) (byt ((n : Int) - 1)) = n := by
  obtain ⟨k, rfl⟩ : ∃ k, n = k + 1 := ⟨n - 1, by omega⟩
  have e1 : (((k + 1 : Nat) : Int) - 1) / 256 = ((k / 256 : Nat) : Int) := by omega
  have e2 : (((k + 1 : Nat) : Int) - 1) = ((k : Nat) : Int) := by omega
  rw [e1, e2]; unfold recN; rw [byt_toNat, byt_toNat]; omega
theorem firstR_frame (r t : List UInt8) (h : 1 ≤ r.length) (h' : r.length ≤ 65536) : firstR (frameR r ++ t) = r := by
  simp only [frameR, List.cons_append, firstR, recN_frame _ h h']
  rw [if_neg]
  · simp
  · simp
theorem byt_self (b : UInt8) : byt (b.toNat : Int) = b := by
  apply UInt8.toNat_inj.1; rw [byt_toNat]; have := b.toNat_lt; omega
theorem byt_hi (a b : UInt8) : byt (((recN a b : Nat) : Int) - 1) = b ∧ byt ((((recN a b : Nat) : Int) - 1) / 256) = a := by
  have ha := a.toNat_lt; have hb := b.toNat_lt
  have e2 : (((recN a b : Nat) : Int) - 1) = ((256 * a.toNat + b.toNat : Nat) : Int) := by unfold recN; omega
  have e1 : (((recN a b : Nat) : Int) - 1) / 256 = ((a.toNat : Nat) : Int) := by rw [e2]; omega
  rw [e1, byt_self, e2]
  refine ⟨?_, rfl⟩
  apply UInt8.toNat_inj.1; rw [byt_toNat]; omega
theorem firstR_spec {s : List UInt8} (h : firstR s ≠ []) : (firstR s).length + 3 ≤ s.length ∧ 1 ≤ (firstR s).length ∧ (firstR s).length ≤ 65536 ∧ s = frameR (firstR s) ++ s.drop ((firstR s).length + 3) := by
  match s, h with
  | a :: b :: r, h =>
    have hr := recN_le a b
    rw [firstR] at h ⊢
    split at h
    · exact absurd rfl h
    · rename_i hh
      rw [if_neg hh]
      have h1 : recN a b < r.length := by omega
      have h2 : r[recN a b]? = some 46 := by
        by_cases e : r[recN a b]? = some 46
        · exact e
        · exact absurd (.inr e) hh
      have hl : (r.take (recN a b)).length = recN a b := by simp; omega
      rw [hl]
      refine ⟨by simp; omega, hr.1, hr.2, ?_⟩
      have hb := byt_hi a b
      simp only [frameR, hl, hb.1, hb.2, List.drop_succ_cons, List.cons_append, List.append_assoc, List.nil_append]
      congr 2
      have h3 : r[recN a b] = 46 := by rw [List.getElem?_eq_getElem h1] at h2; exact Option.some.inj h2
      have := List.drop_eq_getElem_cons h1
      rw [h3] at this
      rw [← this, List.take_append_drop]
  | [], h => simp [firstR] at h
  | [_], h => simp [firstR] at h
def recsF : Nat → List UInt8 → List (List UInt8)
  | 0, _ => []
  | k + 1, s => if firstR s = [] then [] else firstR s :: recsF k (s.drop ((firstR s).length + 3))
theorem recsF_more : ∀ (k k' : Nat) (s : List UInt8), s.length < k → s.length < k' → recsF k s = recsF k' s := by
  intro k
  induction k with
  | zero => intro k' s h; omega
  | succ k ih =>
    intro k' s h h'
    obtain ⟨j, rfl⟩ : ∃ j, k' = j + 1 := ⟨k' - 1, by omega⟩
    simp only [recsF]
    split
    · rfl
    · rename_i hne
      have := (firstR_spec hne).1
      rw [ih j _ (by simp; omega) (by simp; omega)]
def recs (s : List UInt8) : List (List UInt8) := recsF (s.length + 1) s
theorem recs_none {s : List UInt8} (h : firstR s = []) : recs s = [] := by simp [recs, recsF, h]
theorem recs_some {s : List UInt8} (h : firstR s ≠ []) : recs s = firstR s :: recs (s.drop ((firstR s).length + 3)) := by
  have := (firstR_spec h).1
  unfold recs
  rw [recsF, if_neg h, recsF_more s.length ((s.drop ((firstR s).length + 3)).length + 1) _ (by simp; omega) (by omega)]
/-! Bytes, Free, Torn, Records. -/
def sl2 (l : List (List UInt8)) : D := .sl 1 (l.map fun r => [B r])
theorem cBytes (ks : Nat) (most : Int) (bs : List UInt8) (l : List (List UInt8)) (db da : D) (m : Mem) (n : Nat) (h : Sh m n ks most bs l db da) (hb : bs.length ≤ 100000000) :
    ACalls Try.prog 12 [.ptr ks 0 0 0] m n (fun d m' n' => d = B bs ∧ m' = m ∧ n' = n) := by
  refine acalls_vc [0, 2] Try.func12 Try.ntmps12 (by kernel_rfl) rfl rfl (by simp) ?_
  simp -dsimp [h.at_]
  refine aCall_of (cClone bs (by omega) db m n (.inr h.lb) (fun k hk => (h.kb k hk).1)) ?_
  rintro d m' n' ⟨rfl, rfl, rfl⟩
  simp
theorem cFree (ks : Nat) (most : Int) (bs : List UInt8) (l : List (List UInt8)) (db da : D) (m : Mem) (n : Nat) (h : Sh m n ks most bs l db da) (hb : bs.length ≤ 100000000) (h0 : 0 ≤ most ∧ most ≤ 1048576) :
    ACalls Try.prog 13 [.ptr ks 0 0 0] m n (fun d m' n' => d = I (most - bs.length) ∧ m' = m ∧ n' = n) := by
  refine acalls_vc [0, 2] Try.func13 Try.ntmps13 (by kernel_rfl) rfl rfl (by simp) ?_
  simp -dsimp
  refine vdraw_of [0, 1, 3, 7, 0, 16, 48, 112, 240, 511, 1023] [0, 1, 2, 3, 4, 5, 6, 7, 8, 9, 10] (by kernel_rfl) (by kernel_rfl) ?_
  simp -dsimp [h.at_, lenD_lst h.lb]
  rw [wrap_i64 (by omega) (by omega)]; simp [I]
theorem cTorn (ks : Nat) (most : Int) (bs : List UInt8) (l : List (List UInt8)) (db da : D) (r : List UInt8) (q : Int) (m : Mem) (n : Nat) (h : Sh m n ks most bs l db da) (hbl : bs.length ≤ 10000000) (hr : r.length ≤ 1000000000) (h0 : 0 ≤ most ∧ most ≤ 1048576) :
    ACalls Try.prog 8 [.ptr ks 0 0 0, B r, .v (.int .i64 q)] m n (fun d m' n' => d = (if appCode most bs.length r ≠ 0 then .tup [B [], code (appCode most bs.length r)] else if q < 0 ∨ r.length + 3 < q then .tup [B [], code 1] else .tup [B (bs ++ (frameR r).take q.toNat), nilE]) ∧ m' = m ∧ n' = n) := by
  refine acalls_done (R' := Hq (fun d m' n' => ∃ x y, d = .tup [x, y] ∧ (if appCode most bs.length r ≠ 0 then x = .v (.slice none 0 0) ∧ y = code (appCode most bs.length r) else if q < 0 ∨ r.length + 3 < q then x = .v (.slice none 0 0) ∧ y = code 1 else Lst m' 1 ((bs ++ (frameR r).take q.toNat).map bEnc) x ∧ (∀ k, kof x = some k → n ≤ k) ∧ y = nilE) ∧ ∀ j, j < n → m' j = m j) tg) ?_ ?_
  · refine acalls_vc [0, 1, 2, 6, 7, 8, 9, 16, 20] Try.func8 Try.ntmps8 (by kernel_rfl) rfl rfl (by simp) ?_
    simp -dsimp
    refine aCall_of (cFrame ks most bs db da r m n h.at_ h.lb (by omega) hr h.ks ⟨h0.1, by omega⟩) ?_
    rintro d m' n' ⟨rfl, rfl, rfl⟩
    rw [frame_eq]
    by_cases hc : appCode most bs.length r = 0
    · have hrl : r.length ≤ 65536 := by
        unfold appCode at hc
        split at hc
        · simp at hc
        · omega
      have fl := frame_len r
      by_cases a : q < 0
      · simp -dsimp [hc, errD, nilE, a]
        exact hq ⟨_, _, rfl, by rw [if_neg (by simp [hc]), if_pos (.inl a)]; exact ⟨rfl, rfl⟩, fun _ _ => rfl⟩
      by_cases b : (r.length : Int) + 3 < q
      · simp -dsimp [hc, errD, nilE, a, b, B, fl]
        exact hq ⟨_, _, rfl, by rw [if_neg (by simp [hc]), if_pos (.inr b)]; exact ⟨rfl, rfl⟩, fun _ _ => rfl⟩
      simp -dsimp [hc, errD, nilE, a, b, B, fl]
      refine vdraw_of [0, 1, 3, 7, 0, 0, 48, 127, 255, 511, 1023] [0, 1, 2, 3, 4, 5, 6, 7, 8, 9, 10] (by kernel_rfl) (by kernel_rfl) ?_
      obtain ⟨ok1, oc1⟩ := okD_lst h.lb
      have q0 : ks ≠ n' := by have := h.ks; omega
      simp -dsimp [h.at_, fl, ok1, oc1, q0]
      refine ⟨by omega, ?_⟩
      have hb2 : ((frameR r).take q.toNat).length ≤ 100000000 := by rw [List.length_take]; omega
      refine aCall_of (rConcat n' db (.sl 1 (List.take q.toNat (List.map bEnc (frameR r)))) bs ((frameR r).take q.toNat) _ _ (set_same _ _ _) (.inr (h.lb.frame fun k hk => set_ne _ _ _ _ (by have := h.kb k hk; omega))) (.inl (by rw [List.map_take])) (by omega) (by omega) hb2 (fun k hk => by have := h.kb k hk; omega) (by simp)) ?_
      rintro d m2 n2 ⟨g1, g2, g3, g4⟩
      have hm2 : m2 ks = m' ks := by rw [g4 ks (by have := h.ks; omega), set_ne _ _ _ _ q0]
      simp -dsimp [hm2, h.at_, q0]
      exact hq ⟨_, _, rfl, by rw [if_neg (by simp [hc]), if_neg (by omega)]; exact ⟨g1, fun k hk => by have := g3 k hk; omega, rfl⟩, fun j hj => by rw [g4 j (by omega), set_ne _ _ _ _ (by omega)]⟩
    · simp -dsimp [hc, errD, code]
      exact hq ⟨_, _, rfl, by rw [if_pos hc]; exact ⟨rfl, rfl⟩, fun _ _ => rfl⟩
  · rintro d m' n' ⟨x, y, rfl, h, hf⟩
    split at h
    · rename_i h1
      obtain ⟨rfl, rfl⟩ := h
      exact ⟨_, pub_pair (pub_nil 1) (pur_code _).pub, hf, by rw [if_pos h1]; rfl⟩
    · rename_i h1
      split at h
      · rename_i h2
        obtain ⟨rfl, rfl⟩ := h
        exact ⟨_, pub_pair (pub_nil 1) (pur_code _).pub, hf, by rw [if_neg h1, if_pos h2]; rfl⟩
      · rename_i h2
        obtain ⟨h3, h4, rfl⟩ := h
        exact ⟨_, pub_pair (.lstP h3 h4 pur_bEnc) pur_nilE.pub, hf, by rw [if_neg h1, if_neg h2]; rfl⟩
theorem pur_sl2 {l : List (List UInt8)} : ∀ e ∈ l.map (fun r => [B r]), ∀ d ∈ e, Pur d := by
  intro e he d hd
  obtain ⟨b, _, rfl⟩ := List.mem_map.1 he
  simp at hd; subst hd; exact pur_B _
theorem cRecords (ks : Nat) (most : Int) (bs : List UInt8) (l : List (List UInt8)) (db da : D) (m : Mem) (n : Nat) (h : Sh m n ks most bs l db da) (hl : l.length ≤ 10000000) (hll : ∀ r ∈ l, r.length ≤ 1000000000) :
    ACalls Try.prog 15 [.ptr ks 0 0 0] m n (fun d m' n' => d = sl2 l ∧ m' = m ∧ n' = n) := by
  refine acalls_done (R' := Hq (fun d m' n' => Lst m' 1 (l.map fun r => [B r]) d ∧ (∀ k, kof d = some k → n ≤ k) ∧ ∀ j, j < n → m' j = m j) tg) ?_ ?_
  · refine acalls_vc [0, 2, 3, 5, 9, 10, 11, 12] Try.func15 Try.ntmps15 (by kernel_rfl) rfl rfl (by simp) ?_
    simp -dsimp [h.at_, lenD_lst h.la]
    refine vloop_of (β := Nat) (fun i σ m2 n2 => i ≤ l.length ∧ σ 9 = da ∧ σ 10 = I l.length ∧ σ 11 = I i ∧ (∀ j, j < n → m2 j = m j) ∧ n ≤ n2 ∧ (∀ k, kof (σ 3) = some k → n ≤ k ∧ k < n2) ∧ Lst m2 1 ((l.take i).map fun r => [B r]) (σ 3)) (fun i => l.length - i) 0 ?_ ?_
    · simp [I]; exact .nil
    rintro i σ m2 n2 ⟨hi, h9, h10, h11, hf, hn, hk, hL⟩
    simp -dsimp [h9, h10, h11, I]
    refine cnd_intro (fun hc => ?_) (fun hc => ?_)
    · simp at hc
      rcases h.la with ⟨hnil, _⟩ | ⟨k, g, es', rfl, h1, h2, h3⟩
      · simp at hnil; subst hnil; simp at hc
      simp at h2 h3
      have hkn := (h.ka k rfl).1
      have h4 : m2 k = some ⟨1, es', g⟩ := by rw [hf k hkn]; exact h1
      have h5 : es'[i]? = some [B l[i]] := by
        have : (es'.take l.length)[i]? = (l.map fun r => [B r])[i]? := by rw [h3]
        simpa [hc] using this
      simp -dsimp [h4, h5, hc]
      refine ⟨by omega, ?_⟩
      refine aCall_of (cClone l[i] (hll _ (by simp)) (B l[i]) _ _ (.inl rfl) (by simp)) ?_
      rintro d m3 n3 ⟨rfl, rfl, rfl⟩
      simp -dsimp
      refine b4_append (hL.frame fun k hk' => ?_) (fun k hk' => ?_) (by trivial) (by trivial) (by omega) (by simp; omega) ?_
      · have := hk k hk'; rw [set_ne _ _ _ _ (by omega)]
      · have := hk k hk'; omega
      intro d2 m4 n4 p1 p2 p3 p4
      simp -dsimp
      refine ⟨i + 1, by omega, by omega, rfl, ?_, fun j hj => ?_, by omega, fun k hk' => ?_, p1.map_eq ?_⟩
      · rw [wrap_i64 (by omega) (by omega)]; simp [I]
      · rw [p4 j (by omega) (fun e => by have := hk j e; omega), set_ne _ _ _ _ (by omega), hf j hj]
      · have := p3 k hk'
        rcases this.2 with e | e
        · have := hk k e; omega
        · omega
      · rw [← List.map_take, List.take_succ_eq_append_getElem hc, List.map_append]; rfl
    · simp at hc
      simp -dsimp
      have hil : i = l.length := by omega
      exact hq ⟨hL.map_eq (by rw [hil, List.take_of_length_le (Nat.le_refl _)]), fun k hk' => (hk k hk').1, hf⟩
  · rintro d m' n' ⟨h1, h2, h3⟩
    exact ⟨_, .lstP h1 h2 pur_sl2, h3, rfl⟩

theorem recs_len {s : List UInt8} : ∀ (k : Nat) (s : List UInt8), s.length < k → (recs s).length ≤ s.length ∧ (frames (recs s)).length ≤ s.length ∧ ∀ r ∈ recs s, 1 ≤ r.length ∧ r.length ≤ 65536 := by
  intro k
  induction k with
  | zero => intro s h; omega
  | succ k ih =>
    intro s h
    by_cases hf : firstR s = []
    · rw [recs_none hf]; simp [frames]
    · obtain ⟨h1, h2, h3, h4⟩ := firstR_spec hf
      obtain ⟨a, b, c⟩ := ih (s.drop ((firstR s).length + 3)) (by simp; omega)
      rw [recs_some hf]
      simp at a b
      refine ⟨by simp; omega, by simp [frames, frame_len] at b ⊢; omega, ?_⟩
      intro r hr
      rcases List.mem_cons.1 hr with rfl | hr
      · exact ⟨h2, h3⟩
      · exact c r hr
def OpenQ (b : List UInt8) (most : Int) (m : Mem) (n : Nat) : D → Mem → Nat → Prop := fun d m' n' =>
  (if most < 1 ∨ 1048576 < most ∨ most < b.length then d = .tup [.v (.pointer none), code 1] else ∃ ks db da, d = .tup [.ptr ks 0 0 0, nilE] ∧ Sh m' n' ks most (frames (recs b)) (recs b) db da ∧ n ≤ ks ∧ (∀ k, kof db = some k → n ≤ k) ∧ (∀ k, kof da = some k → n ≤ k)) ∧ n ≤ n' ∧ ∀ j, j < n → m' j = m j
theorem rOpen (b : List UInt8) (most : Int) (m : Mem) (n : Nat) (hb : b.length ≤ 10000000) : ACalls Try.prog 6 [B b, .v (.int .i64 most)] m n (OpenQ b most m n) := by
  refine acalls_vc [0, 1, 4, 5, 6, 7, 8, 20, 29] Try.func6 Try.ntmps6 (by kernel_rfl) rfl rfl (by simp) ?_
  simp -dsimp [B]
  by_cases a1 : most < 1
  · simp -dsimp [a1]
    exact ⟨by rw [if_pos (.inl a1)]; rfl, Nat.le_refl _, fun _ _ => rfl⟩
  by_cases a2 : 1048576 < most
  · simp -dsimp [a1, a2]
    exact ⟨by rw [if_pos (.inr (.inl a2))]; rfl, Nat.le_refl _, fun _ _ => rfl⟩
  by_cases a3 : most < (b.length : Int)
  · simp -dsimp [a1, a2, a3]
    exact ⟨by rw [if_pos (.inr (.inr a3))]; rfl, Nat.le_refl _, fun _ _ => rfl⟩
  simp -dsimp [a1, a2, a3]
  refine aCall_of (cFirst b (by omega) _ _) ?_
  rintro d m' n' ⟨rfl, rfl, rfl⟩
  simp -dsimp
  refine vloop_of (β := List UInt8) (fun rest σ m2 n2 => σ 0 = B b ∧ σ 6 = .ptr n 0 0 0 ∧ σ 8 = B (firstR rest) ∧ (∀ j, j < n → m2 j = m j) ∧ n < n2 ∧ ∃ (acc : List (List UInt8)) (da : D), σ 7 = I (frames acc).length ∧ b = frames acc ++ rest ∧ recs b = acc ++ recs rest ∧
    m2 n = some ⟨3, [[.v (.int .i64 most), .v (.slice none 0 0), da]], 0⟩ ∧ Lst m2 1 (acc.map fun r => [B r]) da ∧ (∀ k, kof da = some k → n < k ∧ k < n2)) (fun rest => rest.length) b ?_ ?_
  · refine ⟨rfl, rfl, rfl, fun j hj => set_ne _ _ _ _ (by omega), by omega, [], .v (.slice none 0 0), rfl, rfl, rfl, set_same _ _ _, .nil, by simp⟩
  rintro rest σ m2 n2 ⟨h0, h6, h8, hf, hn, acc, da, h7, hbs, hrec, hm2, hL, hk⟩
  have hlen : b.length = (frames acc).length + rest.length := by rw [hbs]; simp
  simp -dsimp [h0, h6, h7, h8, B, I]
  refine cnd_intro (fun hc => ?_) (fun hc => ?_)
  · simp at hc
    have hne : firstR rest ≠ [] := by intro e; rw [e] at hc; simp at hc
    obtain ⟨g1, g2, g3, g4⟩ := firstR_spec hne
    simp -dsimp
    refine vdraw_of [0, 0, 2, 6, 14, 0, 32, 96, 254, 511, 1023, 2047] [0, 1, 2, 3, 4, 5, 6, 7, 8, 9, 10, 11] (by kernel_rfl) (by kernel_rfl) ?_
    simp -dsimp [hm2]
    refine aCall_of (cClone (firstR rest) (by omega) (B (firstR rest)) _ _ (.inl rfl) (by simp)) ?_
    rintro d m3 n3 ⟨rfl, rfl, rfl⟩
    have q0 : n ≠ n3 := by omega
    simp -dsimp [q0]
    refine b4_append (hL.frame fun k hk' => ?_) (fun k hk' => ?_) (by trivial) (by trivial) (by omega) ?_ ?_
    · have := hk k hk'; rw [set_ne _ _ _ _ (by omega)]
    · have := hk k hk'; omega
    · have hal : acc.length ≤ 10000000 := by
        have := congrArg List.length hrec
        have := (@recs_len b (b.length + 1) b (by omega)).1
        simp at *; omega
      simp; omega
    intro d2 m4 n4 p1 p2 p3 p4
    obtain ⟨ok2, oc2⟩ := okD_lst p1
    have hm4 : m4 n = some ⟨3, [[.v (.int .i64 most), .v (.slice none 0 0), da]], 0⟩ := by
      rw [p4 n (by omega) (fun e => by have := hk n e; omega), set_ne _ _ _ _ q0]; exact hm2
    have e1 : IntKind.i64.wrap (2 + ((firstR rest).length : Int)) = 2 + (firstR rest).length := wrap_i64 (by omega) (by omega)
    have e2 : IntKind.i64.wrap (2 + ((firstR rest).length : Int) + 1) = 2 + (firstR rest).length + 1 := wrap_i64 (by omega) (by omega)
    have e3 : IntKind.i64.wrap (((frames acc).length : Int) + (2 + (firstR rest).length + 1)) = ((frames acc).length + (2 + (firstR rest).length + 1) : Nat) := by rw [wrap_i64 (by omega) (by omega)]; simp
    have hd : List.drop ((frames acc).length + (2 + (firstR rest).length + 1)) b = rest.drop ((firstR rest).length + 3) := by
      rw [hbs, List.drop_append, List.drop_eq_nil_of_le (by omega), List.nil_append]; congr 1; omega
    simp -dsimp [hm4, ok2, oc2, q0, e1, e2, e3]
    refine ⟨by omega, ?_⟩
    have e4 : (((frames acc).length : Int) + (2 + (firstR rest).length + 1)).toNat = (frames acc).length + (2 + (firstR rest).length + 1) := by omega
    rw [e4, ← List.map_drop, hd]
    refine aCall_of (cFirst (rest.drop ((firstR rest).length + 3)) (by simp; omega) _ _) ?_
    rintro d m5 n5 ⟨rfl, rfl, rfl⟩
    simp -dsimp
    have kd2 : ∀ k, kof d2 = some k → k < n5 ∧ (kof da = some k ∨ k = n3 + 1) := p3
    refine ⟨rest.drop ((firstR rest).length + 3), by simp; omega, rfl, rfl, fun j hj => ?_, by omega, acc ++ [firstR rest], ?_, ?_, ?_, ?_, fun k hk' => ?_⟩
    · rw [set_ne _ _ _ _ (by omega), p4 j (by omega) (fun e => by have := hk j e; omega), set_ne _ _ _ _ (by omega), hf j hj]
    · rw [frames_snoc]; simp [I, frame_len]; omega
    · rw [frames_snoc, List.append_assoc, ← g4]; exact hbs
    · rw [hrec, recs_some hne]; simp
    · refine (p1.frame fun k hk' => ?_).map_eq (by simp [B])
      have := kd2 k hk'
      have : k ≠ n := by
        rcases this.2 with e | e
        · have := hk k e; omega
        · omega
      rw [set_ne _ _ _ _ this]
    · have := kd2 k hk'
      rcases this.2 with e | e
      · have := hk k e; omega
      · omega
  · simp at hc
    have hnil : firstR rest = [] := by simpa using hc
    have hrr := recs_none hnil
    have hra : recs b = acc := by rw [hrec, hrr]; simp
    have htk : b.take (frames acc).length = frames acc := by rw [hbs]; simp
    simp -dsimp
    refine ⟨by omega, ?_⟩
    rw [← List.map_take, htk]
    refine aCall_of (rClone (B (frames acc)) (frames acc) (by omega) _ _ (.inl rfl) (by simp)) ?_
    rintro d1 m3 n3 ⟨p1, p2, p3, p4⟩
    obtain ⟨ok1, oc1⟩ := okD_lst p1
    have hm3 : m3 n = some ⟨3, [[.v (.int .i64 most), .v (.slice none 0 0), da]], 0⟩ := by rw [p4 n hn]; exact hm2
    simp -dsimp [hm3, ok1, oc1]
    refine ⟨?_, by omega, fun j hj => ?_⟩
    · rw [if_neg (by omega), hra]
      refine ⟨n, d1, da, rfl, ⟨set_same _ _ _, ?_, ?_, fun k hk' => ?_, fun k hk' => ?_, by omega⟩, Nat.le_refl _, fun k hk' => ?_, fun k hk' => ?_⟩
      · exact p1.frame fun k hk' => set_ne _ _ _ _ (by have := p3 k hk'; omega)
      · refine hL.frame fun k hk' => ?_
        have := hk k hk'
        rw [set_ne _ _ _ _ (by omega), p4 k (by omega)]
      · have := p3 k hk'
        exact ⟨by omega, by omega, fun e => by have := hk k e; omega⟩
      · have := hk k hk'; exact ⟨by omega, by omega⟩
      · have := p3 k hk'; omega
      · have := hk k hk'; omega
    · rw [set_ne _ _ _ _ (by omega), p4 j (by omega), hf j hj]
theorem rNew (most : Int) (m : Mem) (n : Nat) : ACalls Try.prog 16 [.v (.int .i64 most)] m n (OpenQ [] most m n) := by
  refine acalls_vc [0, 2, 3] Try.func16 Try.ntmps16 (by kernel_rfl) rfl rfl (by simp) ?_
  simp -dsimp
  refine aCall_le (args' := [B [], .v (.int .i64 most)]) (.cons (Le_nil 1) (.cons (Le.refl _) .nil)) ?_
  refine aCall_of (rOpen [] most _ _ (by simp)) ?_
  rintro d m' n' h
  have h' := h
  obtain ⟨h1, h2, h3⟩ := h
  by_cases hc : most < 1 ∨ 1048576 < most ∨ most < ((([] : List UInt8).length : Nat) : Int)
  · rw [if_pos hc] at h1; subst h1
    simp -dsimp
    exact h'
  · rw [if_neg hc] at h1
    obtain ⟨ks, db, da, rfl, h4⟩ := h1
    simp -dsimp
    exact h'
end Go.Proofs.Mv.App
/- Contracts of layer 16, part 4: the reference. -/
open Go Go.Proofs Go.Proofs.Mv.V
set_option maxRecDepth 10000
set_option linter.unusedSimpArgs false
set_option linter.unusedVariables false
namespace Go.Proofs.Mv.App
theorem mul256 (a b : UInt8) : IntKind.i64.wrap (IntKind.i64.wrap (IntKind.i64.wrap (256 * (a.toNat : Int)) + (b.toNat : Int)) + 1) = ((recN a b : Nat) : Int) := by
  have := a.toNat_lt; have := b.toNat_lt
  rw [wrap_i64 (x := 256 * (a.toNat : Int)) (by omega) (by omega), wrap_i64 (x := 256 * (a.toNat : Int) + _) (by omega) (by omega), wrap_i64 (by omega) (by omega)]
  unfold recN; omega
theorem two {s : List UInt8} (h : 2 ≤ s.length) : ∃ a b r, s = a :: b :: r := by
  match s, h with
  | a :: b :: r, _ => exact ⟨a, b, r, rfl⟩
  | [], h => simp at h
  | [_], h => simp at h
def RecQ (b : List UInt8) (n : Nat) (m : Mem) : D → Mem → Nat → Prop := fun d m' n' => ∃ x, d = .tup [x, I (frames (recs b)).length] ∧ Lst m' 1 ((recs b).map fun r => [S r]) x ∧ (∀ k, kof x = some k → n ≤ k) ∧ ∀ j, j < n → m' j = m j
def RInv (b : List UInt8) (n : Nat) (m : Mem) (rest : List UInt8) (σ : Nat → D) (m2 : Mem) (n2 : Nat) : Prop :=
  ∃ (acc : List (List UInt8)), σ 0 = B b ∧ σ 5 = I (frames acc).length ∧ b = frames acc ++ rest ∧ recs b = acc ++ recs rest ∧ (∀ j, j < n → m2 j = m j) ∧ n ≤ n2 ∧ Lst m2 1 (acc.map fun r => [S r]) (σ 4) ∧ ∀ k, kof (σ 4) = some k → n ≤ k ∧ k < n2
theorem rRecords (b : List UInt8) (hb : b.length ≤ 100000000) (m : Mem) (n : Nat) : ACalls Try.prog 7 [B b] m n (RecQ b n m) := by
  refine acalls_vc [0, 2, 3, 4, 5, 6, 11, 42] Try.func7 Try.ntmps7 (by kernel_rfl) rfl rfl (by simp) ?_
  simp -dsimp
  refine vloop_of (β := List UInt8) (RInv b n m) (fun rest => rest.length) b ⟨[], rfl, rfl, rfl, rfl, fun _ _ => rfl, Nat.le_refl _, .nil, by simp⟩ ?_
  rintro rest σ m2 n2 ⟨acc, h0, h5, hbs, hrec, hf, hn, hL, hk⟩
  have hlen : b.length = (frames acc).length + rest.length := by rw [hbs]; simp
  have w2 : IntKind.i64.wrap (((frames acc).length : Int) + 2) = (frames acc).length + 2 := wrap_i64 (by omega) (by omega)
  have w1 : IntKind.i64.wrap (((frames acc).length : Int) + 1) = (frames acc).length + 1 := wrap_i64 (by omega) (by omega)
  have w3 : IntKind.i64.wrap (((frames acc).length : Int) + 3) = (frames acc).length + 3 := wrap_i64 (by omega) (by omega)
  simp -dsimp [h0, h5, I, B, w2]
  refine cnd_intro (fun hc => ?_) (fun hc => ?_)
  · simp at hc
    obtain ⟨a, c, r, hrest⟩ := two (s := rest) (by omega)
    have hr := recN_le a c
    have hlr : rest.length = r.length + 2 := by rw [hrest]; simp
    have b0 : b[(frames acc).length]? = some a := by rw [hbs, hrest]; simp
    have b1 : b[(frames acc).length + 1]? = some c := by rw [hbs, hrest]; simp
    have u1 : (((frames acc).length : Int) + 1).toNat = (frames acc).length + 1 := by omega
    simp -dsimp
    refine vdraw_of [0, 0, 3, 7, 15, 31, 0, 0, 128, 448, 960, 1984, 4095, 8191, 16383] [0, 1, 2, 3, 4, 5, 6, 7, 8, 9, 10, 11, 12, 13, 14] (by kernel_rfl) (by kernel_rfl) ?_
    have c0 : (frames acc).length < b.length := by omega
    have g0 := get_opt b0 c0
    have c1 : (0 : Int) ≤ ((frames acc).length : Int) + 1 ∧ ((frames acc).length : Int) + 1 < b.length := by omega
    have w4 : IntKind.i64.wrap (((frames acc).length : Int) + 2 + ((recN a c : Nat) : Int)) = (frames acc).length + 2 + recN a c := wrap_i64 (by omega) (by omega)
    have w5 : IntKind.i64.wrap (((frames acc).length : Int) + 3 + ((recN a c : Nat) : Int)) = ((frames acc).length + (recN a c + 3) : Nat) := by rw [wrap_i64 (by omega) (by omega)]; omega
    by_cases q1 : (b.length : Int) ≤ (frames acc).length + 2 + recN a c
    · simp -dsimp [w1, w2, u1, b0, b1, g0, c0, c1, mul256, w4, q1]
      have hnil : firstR rest = [] := by rw [hrest, firstR, if_pos (.inl (by omega))]
      have e : recs b = acc := by rw [hrec, recs_none hnil]; simp
      exact ⟨_, by rw [e]; rfl, by rw [e]; exact hL, fun k h => (hk k h).1, hf⟩
    · have q2 : recN a c < r.length := by omega
      have u2 : (((frames acc).length : Int) + 2 + ((recN a c : Nat) : Int)).toNat = (frames acc).length + 2 + recN a c := by omega
      have b2 : b[(frames acc).length + 2 + recN a c]? = some r[recN a c] := by
        rw [hbs, hrest, List.getElem?_append_right (by omega)]
        rw [show (frames acc).length + 2 + recN a c - (frames acc).length = recN a c + 2 by omega]
        simp [q2]
      have c2 : (0 : Int) ≤ ((frames acc).length : Int) + 2 + ((recN a c : Nat) : Int) ∧ ((frames acc).length : Int) + 2 + ((recN a c : Nat) : Int) < b.length := by omega
      simp -dsimp [w1, w2, u1, u2, b0, b1, b2, g0, c0, c1, c2, mul256, w4, q1]
      refine cnd_intro (fun hz => ?_) (fun hz => ?_)
      · simp at hz
        have hnil : firstR rest = [] := by
          rw [hrest, firstR, if_pos (.inr (by
            rw [List.getElem?_eq_getElem q2]
            intro e; apply hz; simp at e; rw [e]; rfl))]
        have e : recs b = acc := by rw [hrec, recs_none hnil]; simp
        simp -dsimp
        exact ⟨_, by rw [e]; rfl, by rw [e]; exact hL, fun k h => (hk k h).1, hf⟩
      · simp at hz
        have hz' : r[recN a c] = 46 := by
          apply UInt8.toNat_inj.1; have : (46 : UInt8).toNat = 46 := rfl
          omega
        have hfr : firstR rest = r.take (recN a c) := by
          rw [hrest, firstR, if_neg]
          rw [List.getElem?_eq_getElem q2, hz']; simp; omega
        have hfl : (firstR rest).length = recN a c := by rw [hfr]; simp; omega
        have hne : firstR rest ≠ [] := by intro e; rw [e] at hfl; simp at hfl; omega
        obtain ⟨g1, g2, g3, g4⟩ := firstR_spec hne
        have u3 : (((frames acc).length : Int) + 2).toNat = (frames acc).length + 2 := by omega
        have sq : List.drop ((frames acc).length + 2) (List.take ((frames acc).length + 2 + recN a c) (List.map bEnc b)) = List.map bEnc (firstR rest) := by
          rw [hfr, ← List.map_take, ← List.map_drop, List.drop_take, hbs, hrest]
          congr 1
          rw [show (frames acc).length + 2 + recN a c - ((frames acc).length + 2) = recN a c by omega, ← List.drop_drop]
          simp
        have c3 : (0 : Int) ≤ ((frames acc).length : Int) + 2 := by omega
        have c4 : (frames acc).length + 2 + recN a c ≤ b.length := by omega
        simp -dsimp [w2, w4, u2, u3, sq]
        refine ⟨by omega, ?_⟩
        refine b4_append (hL.frame fun k hk' => ?_) (fun k hk' => ?_) (by trivial) (by trivial) (by omega) ?_ ?_
        · have := hk k hk'; rw [set_ne _ _ _ _ (by omega)]
        · have := hk k hk'; omega
        · have hal : acc.length ≤ 100000000 := by
            have := congrArg List.length hrec
            have := (@recs_len b (b.length + 1) b (by omega)).1
            simp at *; omega
          simp; omega
        intro d2 m4 n4 p1 p2 p3 p4
        simp -dsimp [w3, w5]
        refine ⟨rest.drop ((firstR rest).length + 3), by simp; omega, acc ++ [firstR rest], rfl, ?_, ?_, ?_, fun j hj => ?_, by omega, p1.map_eq (by simp [S]), fun k hk' => ?_⟩
        · rw [frames_snoc]; simp [I, frame_len, hfl]
        · rw [frames_snoc, List.append_assoc, ← g4]; exact hbs
        · rw [hrec, recs_some hne]; simp
        · rw [p4 j (by omega) (fun e => by have := hk j e; omega), set_ne _ _ _ _ (by omega), hf j hj]
        · have := p3 k hk'
          rcases this.2 with e | e
          · have := hk k e; omega
          · omega
  · simp at hc
    have hnil : firstR rest = [] := by
      match rest, hc with
      | [], _ => rfl
      | [_], _ => rfl
      | a :: c :: r, h => simp at hlen; omega
    simp -dsimp
    have e : recs b = acc := by rw [hrec, recs_none hnil]; simp
    exact ⟨_, by rw [e]; rfl, by rw [e]; exact hL, fun k h => (hk k h).1, hf⟩
end Go.Proofs.Mv.App
/- Contracts of layer 16, part 5: the reference, and what the laws lean on. -/
open Go Go.Proofs Go.Proofs.Mv.V
set_option maxRecDepth 10000
set_option linter.unusedSimpArgs false
set_option linter.unusedVariables false
namespace Go.Proofs.Mv.App
theorem cRefRecords (b : List UInt8) (hb : b.length ≤ 100000000) (m : Mem) (n : Nat) : ACalls Try.prog 7 [B b] m n (fun d m' n' => d = .tup [sl1 (recs b), I (frames (recs b)).length] ∧ m' = m ∧ n' = n) := by
  refine acalls_done (rRecords b hb m n) ?_
  rintro d m' n' ⟨x, rfl, h1, h2, h3⟩
  exact ⟨_, pub_pair (.lstP h1 h2 pur_ss) (pur_I _).pub, h3, rfl⟩
theorem byt_mod (v : Int) : byt (v % 256) = byt v := by unfold byt; congr 2; omega
theorem cRefFrame (r : List UInt8) (h1 : 1 ≤ r.length) (h2 : r.length ≤ 65536) (m : Mem) (n : Nat) : ACalls Try.prog 21 [B r] m n (fun d m' n' => d = S (frameR r) ∧ m' = m ∧ n' = n) := by
  refine acalls_done (R' := Hq (fun d m' n' => d = S (frameR r) ∧ ∀ j, j < n → m' j = m j) tg) ?_ ?_
  · refine acalls_vc [0, 2, 3] Try.func21 Try.ntmps21 (by kernel_rfl) rfl rfl (by simp) ?_
    have w1 : IntKind.i64.wrap ((r.length : Int) - 1) = (r.length : Int) - 1 := wrap_i64 (by omega) (by omega)
    have t1 : IntKind.i64.wrap (((r.length : Int) - 1).tdiv 256) = ((r.length : Int) - 1) / 256 := by rw [Int.tdiv_eq_ediv_of_nonneg (by omega), wrap_i64 (by omega) (by omega)]
    have t2 : ((r.length : Int) - 1).tmod 256 = ((r.length : Int) - 1) % 256 := Int.tmod_eq_emod_of_nonneg (by omega)
    simp -dsimp [B, w1, t1, t2, byt_mod]
    refine ⟨by omega, by omega, hq ⟨by simp [S, frameR], fun j hj => set_ne _ _ _ _ (by omega)⟩⟩
  · rintro d m' n' ⟨rfl, hf⟩
    exact ⟨_, (pur_S _).pub, hf, rfl⟩
theorem rRefAppend (km : Nat) (most : Int) (bs r : List UInt8) (m : Mem) (n : Nat) (hm : m km = some ⟨2, [[I most, S bs]], 0⟩) (hb : bs.length ≤ 100000000) (hr : r.length ≤ 100000000) (h0 : 0 ≤ most ∧ most ≤ 1048576) :
    ACalls Try.prog 9 [.ptr km 0 0 0, B r] m n (Hq (fun d m' n' => d = I (appCode most bs.length r) ∧ m' = m.set km ⟨2, [[I most, S (if appCode most bs.length r = 0 then bs ++ frameR r else bs)]], 0⟩ ∧ n' = n) tg) := by
  have hself : ∀ o, m km = some o → m.set km o = m := by
    intro o ho; funext j; by_cases e : j = km
    · subst e; simp [ho]
    · simp [set_ne _ _ _ _ e]
  refine acalls_vc [0, 1, 4, 12, 26] Try.func9 Try.ntmps9 (by kernel_rfl) rfl rfl (by simp) ?_
  simp -dsimp [B]
  by_cases a : (r.length : Int) < 1
  · simp -dsimp [a]
    have hc : appCode most bs.length r = 1 := by rw [appCode, if_pos (.inl (by omega))]
    exact hq ⟨by rw [hc]; rfl, by rw [hc, if_neg (by decide), hself _ hm], rfl⟩
  by_cases b : 65536 < (r.length : Int)
  · simp -dsimp [a, b]
    have hc : appCode most bs.length r = 1 := by rw [appCode, if_pos (.inr (by omega))]
    exact hq ⟨by rw [hc]; rfl, by rw [hc, if_neg (by decide), hself _ hm], rfl⟩
  simp -dsimp [a, b]
  refine vdraw_of [0, 1, 3, 7, 15, 0, 32, 127, 255, 0, 512, 1536, 3584, 8191] [0, 1, 2, 3, 4, 5, 6, 7, 8, 9, 10, 11, 12, 13] (by kernel_rfl) (by kernel_rfl) ?_
  have w1 : IntKind.i64.wrap ((bs.length : Int) + r.length) = bs.length + r.length := wrap_i64 (by omega) (by omega)
  have w2 : IntKind.i64.wrap ((bs.length : Int) + r.length + 3) = bs.length + r.length + 3 := wrap_i64 (by omega) (by omega)
  simp -dsimp [hm, S, I, w1, w2]
  refine cnd_intro (fun hc => ?_) (fun hc => ?_)
  · simp at hc
    simp -dsimp
    have hc : appCode most bs.length r = 8 := by rw [appCode, if_neg (by omega), if_pos (by omega)]
    exact hq ⟨by rw [hc]; rfl, by rw [hc, if_neg (by decide), hself _ hm], rfl⟩
  · simp at hc
    have hc : appCode most bs.length r = 0 := by rw [appCode, if_neg (by omega), if_neg (by omega)]
    simp -dsimp
    refine vdraw_of [0, 0, 2, 6, 14, 0, 32, 126, 255, 511, 1023] [0, 1, 2, 3, 4, 5, 6, 7, 8, 9, 10] (by kernel_rfl) (by kernel_rfl) ?_
    simp -dsimp [hm, S, I]
    refine aCall_of (cRefFrame r (by omega) (by omega) _ _) ?_
    rintro d m' n' ⟨rfl, rfl, rfl⟩
    simp -dsimp [hm, S, I, frame_len]
    refine ⟨by omega, hq ⟨by rw [hc]; rfl, by rw [hc]; rfl, rfl⟩⟩
theorem cCode (c : Int) (h0 : 0 ≤ c) (h1 : c ≤ 12) (m : Mem) (n : Nat) : ACalls Try.prog 10 [errD c] m n (Hq (fun d m' n' => d = I c ∧ m' = m ∧ n' = n) tg) := by
  refine acalls_vc [0, 2, 3, 5, 7, 13] Try.func10 Try.ntmps10 (by kernel_rfl) rfl rfl (by simp) ?_
  by_cases hc : c = 0
  · subst hc
    simp -dsimp [errD, nilE]
    exact hq ⟨rfl, rfl, rfl⟩
  · simp -dsimp [errD, hc, code]
    refine vloop_of (β := Nat) (fun i σ m2 n2 => 1 ≤ i ∧ (i : Int) ≤ c ∧ σ 0 = code c ∧ σ 3 = I i ∧ m2 = m ∧ n2 = n) (fun i => 13 - i) 1 (by simp [code, I]; omega) ?_
    rintro i σ m2 n2 ⟨hi, hi2, h0, h3, rfl, rfl⟩
    have q : ¬ (12 : Int) < i := by omega
    have q' : (i : Int) ≤ 12 := by omega
    simp -dsimp [h0, h3, I, code, q, q']
    refine cnd_intro (fun hh => ?_) (fun hh => ?_)
    · simp at hh
      simp -dsimp
      exact hq ⟨by rw [hh]; rfl, rfl, rfl⟩
    · simp at hh
      simp -dsimp
      refine ⟨i + 1, by omega, by omega, by omega, rfl, ?_⟩
      rw [wrap_i64 (by omega) (by omega)]; rfl
theorem cSame16 (a b : List (List UInt8)) (ha : a.length ≤ 1000000000) (hal : ∀ r ∈ a, r.length ≤ 1000000000) (m : Mem) (n : Nat) : ACalls Try.prog 14 [sl2 a, sl1 b] m n (Hq (fun d m' n' => d = Tt (decide (a = b)) ∧ m' = m ∧ n' = n) tg) := by
  refine acalls_vc [0, 1, 4, 5, 10, 14, 26] Try.func14 Try.ntmps14 (by kernel_rfl) rfl rfl (by simp) ?_
  simp -dsimp [sl1, sl2]
  refine cnd_intro (fun h => ?_) (fun h => ?_)
  · simp at h
    simp -dsimp
    exact hq ⟨by have : a ≠ b := by intro e; subst e; omega
                 simp [Tt, this], rfl, rfl⟩
  · simp at h
    simp -dsimp
    have hlen : a.length = b.length := by omega
    refine vloop_of (β := Nat) (fun i σ m2 n2 => i ≤ a.length ∧ σ 0 = sl2 a ∧ σ 1 = sl1 b ∧ σ 5 = I i ∧ m2 = m ∧ n2 = n ∧ a.take i = b.take i) (fun i => a.length - i) 0 (by simp [sl1, sl2, I]) ?_
    rintro i σ m2 n2 ⟨hi, h0, h1, h5, rfl, rfl, he⟩
    simp -dsimp [h0, h1, h5, sl1, sl2, I]
    refine cnd_intro (fun h => ?_) (fun h => ?_)
    · simp at h
      have hb : i < b.length := by omega
      simp -dsimp
      refine vdraw_of [0, 0, 3, 7, 15, 0, 0, 96, 224, 511] [0, 1, 2, 3, 4, 5, 6, 7, 8, 9] (by kernel_rfl) (by kernel_rfl) ?_
      simp -dsimp [h, hb, B, S]
      refine cnd_intro (fun hc => ?_) (fun hc => ?_)
      · simp at hc
        simp -dsimp
        exact hq ⟨by have : a ≠ b := by intro e; subst e; exact hc rfl
                     simp [Tt, this], rfl, rfl⟩
      · simp at hc
        simp -dsimp
        refine ⟨i + 1, by omega, by omega, by simp [sl2, B], by simp [sl1, S], ?_, ?_⟩
        · rw [wrap_i64 (by omega) (by omega)]; rfl
        · rw [List.take_succ_eq_append_getElem h, List.take_succ_eq_append_getElem hb, he, hc]
    · simp at h
      simp -dsimp
      have hia : i = a.length := by omega
      subst hia
      rw [List.take_of_length_le (by omega), List.take_of_length_le (by omega)] at he
      exact hq ⟨by simp [Tt, he], rfl, rfl⟩
end Go.Proofs.Mv.App
