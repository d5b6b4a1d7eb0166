/- A part of the proofs: machine, contracts, laws. No condition of its own. -/
import Derived.Test.YtihbegkefjjhpaaGreatDoorP00
import Derived.Test.YtihbegkefjjhpaaGreatDoorMvC
import Derived.Test.YtihbegkefjjhpaaGreatDoorMvPc
set_option linter.unusedSimpArgs false
set_option linter.unusedVariables false
set_option linter.unusedSectionVars false
open Go Go.Proofs Go.Proofs.Mv.V
set_option maxRecDepth 10000
namespace Go.Proofs.Mv.App
variable [GI]
def tyO (kind : Int) (pkg : List UInt8) (major : Int) (mod name : List UInt8) (NL SL : List (List D)) : V.Obj := ⟨7, [[I kind, S pkg, I major, S mod, S name, .sl 1 NL, .sl 7 SL]], 0⟩
structure FewInv (k : Nat) (M : Mem) (n0 : Nat) (subs : List Ty) (m0 : Int) (i : Nat) (σ : Nat → D) (m2 : Mem) (n2 : Nat) : Prop where
  h2 : σ 2 = .ptr k 0 0 0
  h1 : σ 1 = I (fewTs (subs.take i) m0)
  h5 : σ 5 = I i
  le : i ≤ subs.length
  mm : m2 = M
  nn : n2 = n0
set_option maxHeartbeats 1000000 in
theorem cFew {t : Ty} (ht : TyW t) : ∀ (most : Int) (m : Mem) (n : Nat), -1 ≤ most → most ≤ 100000 → ACalls Tryz.prog 91 [.agg (tyD t), I most] m n (fun d m' n' => d = I (fewT t most) ∧ m' = m ∧ n' = n) := by
  induction ht with
  | mk kind pkg major mod name names subs l1 l2 l3 l4 l5 l6 l7 ih =>
    intro most m n hm0 hm1
    refine acalls_done (R' := Hq (fun d m' n' => d = I (fewT (.mk kind pkg major mod name names subs) most) ∧ ∀ j, j < n → m' j = m j) tg) ?_ ?_
    · have fr : ∀ o j, j < n → (m.set n o) j = m j := fun o j hj => by rw [set_ne _ _ _ _ (by omega)]
      have hL1 : (names.map fun s => [S s]).length = names.length := by simp
      have hL2 : (tysD subs).length = subs.length := by rw [tysD_eq]; simp
      have hG2 : ∀ i (h : i < subs.length), (tysD subs)[i]? = some (tyD subs[i]) := fun i h => by rw [tysD_eq]; simp [h]
      have wm : IntKind.i64.wrap (most - 1) = most - 1 := wrap_i64 (by omega) (by omega)
      simp only [tyD, sl1, fewT]
      generalize (names.map fun s => [S s]) = NL at hL1
      generalize tysD subs = SL at hL2 hG2
      refine acalls_vc [0, 1, 2, 4, 5, 15, 24] Tryz.func91 Tryz.ntmps91 (by kernel_rfl) rfl rfl (by simp) ?_
      by_cases c1 : most - 1 < 0
      · rw [if_pos (.inl c1)]
        simp -dsimp [I, wm, c1]
        exact hq ⟨rfl, fr _⟩
      by_cases c2 : (200 : Int) < names.length
      · rw [if_pos (.inr (by omega))]
        simp -dsimp [I, wm, c1, c2, hL1]
        exact hq ⟨rfl, fr _⟩
      rw [if_neg (by omega)]
      simp -dsimp [I, wm, c1, c2, hL1]
      refine vloop_of (β := Nat) (FewInv n (m.set n (tyO kind pkg major mod name NL SL)) (n + 1) subs (most - 1)) (fun i => subs.length - i) 0 ⟨by simp, by simp [I, fewTs], by simp [I], by omega, rfl, rfl⟩ ?_
      rintro i σ m2 n2 ⟨h2, h1, h5, le, rfl, rfl⟩
      have hb := fewTs_le (subs.take i) (most - 1) (by omega)
      by_cases hi : (i : Int) < subs.length
      · have hi' : i < subs.length := by omega
        have wi : IntKind.i64.wrap ((i : Int) + 1) = (i : Int) + 1 := wrap_i64 (by omega) (by omega)
        have hiN : i < SL.length := by omega
        have hgi : SL[i] = tyD subs[i] := get_opt (hG2 i hi') hiN
        have hsn := fewTs_snoc (subs.take i) subs[i] (most - 1)
        rw [← take_snoc hi'] at hsn
        have hst := fewTs_stop (subs.take i) (subs.drop i) (most - 1)
        rw [List.take_append_drop] at hst
        generalize fewTs (subs.take i) (most - 1) = q at hb hsn hst h1
        by_cases c3 : 0 ≤ q
        · rw [if_pos c3] at hsn
          simp -dsimp [h1, h2, h5, I, hL2, hi, hi', c3, hiN, hgi, tyO]
          refine aCall_of (ih subs[i] (List.getElem_mem hi') q _ _ (by omega) (by omega)) ?_
          rintro d m' n' ⟨rfl, rfl, rfl⟩
          simp -dsimp [h1, h2, h5, I, wi]
          exact ⟨i + 1, by omega, by simp, by simp [I, hsn], by simp [I], by omega, rfl, rfl⟩
        · simp -dsimp [h1, h2, h5, I, hL2, hi, c3, tyO]
          exact hq ⟨by rw [hst (by omega)]; rfl, fr _⟩
      · have : subs.take i = subs := List.take_of_length_le (by omega)
        rw [this] at h1
        simp -dsimp [h1, h2, h5, I, hL2, hi, tyO]
        exact hq ⟨rfl, fr _⟩
    · rintro d m' n' ⟨rfl, h⟩
      exact ⟨_, (pur_I _).pub, h, rfl⟩
theorem cFewT {t : Ty} (ht : TyW t) (m : Mem) (n : Nat) : ACalls Tryz.prog 53 [.agg (tyD t)] m n (fun d m' n' => d = Tt (few3 t) ∧ m' = m ∧ n' = n) := by
  refine acalls_done (R' := Hq (fun d m' n' => d = Tt (few3 t) ∧ ∀ j, j < n → m' j = m j) tg) ?_ ?_
  · have h7 := tyD_len t
    have hc := fun m n => cFew ht 3000 m n (by omega) (by omega)
    generalize tyD t = TT at h7 hc
    have ht7 : List.take 7 TT = TT := List.take_of_length_le (by omega)
    refine acalls_vc [0, 1, 2] Tryz.func53 Tryz.ntmps53 (by kernel_rfl) rfl rfl (by simp) ?_
    simp -dsimp [h7, ht7]
    refine aCall_of (hc _ _) ?_
    rintro d m' n' ⟨rfl, rfl, rfl⟩
    simp -dsimp [I]
    exact hq ⟨by simp [Tt, few3], fun j hj => by rw [set_ne _ _ _ _ (by omega)]⟩
  · rintro d m' n' ⟨rfl, h⟩
    exact ⟨_, (pur_T _).pub, h, rfl⟩
structure ManyInv (k : Nat) (M : Mem) (n0 : Nat) (subs : List Ty) (f : List Ty → Nat) (c : Nat) (i : Nat) (σ : Nat → D) (m2 : Mem) (n2 : Nat) : Prop where
  h1 : σ 1 = .ptr k 0 0 0
  h3 : σ 3 = I (c + f (subs.take i))
  h4 : σ 4 = I i
  le : i ≤ subs.length
  mm : m2 = M
  nn : n2 = n0
theorem manyTs_pre (l : List Ty) {i : Nat} (h : i < l.length) : manyTs (l.take i) + manyT l[i] ≤ manyTs l := by
  rw [← manyTs_snoc, ← take_snoc h]; exact manyTs_take l (i + 1)
set_option maxHeartbeats 1000000 in
theorem cMany {t : Ty} (ht : TyW t) : ∀ (m : Mem) (n : Nat), manyT t ≤ 1000000 → ACalls Tryz.prog 154 [.agg (tyD t)] m n (fun d m' n' => d = I (manyT t) ∧ m' = m ∧ n' = n) := by
  induction ht with
  | mk kind pkg major mod name names subs l1 l2 l3 l4 l5 l6 l7 ih =>
    intro m n hbig
    simp only [manyT] at hbig
    refine acalls_done (R' := Hq (fun d m' n' => d = I (manyT (.mk kind pkg major mod name names subs)) ∧ ∀ j, j < n → m' j = m j) tg) ?_ ?_
    · have fr : ∀ o j, j < n → (m.set n o) j = m j := fun o j hj => by rw [set_ne _ _ _ _ (by omega)]
      have hL2 : (tysD subs).length = subs.length := by rw [tysD_eq]; simp
      have hG2 : ∀ i (h : i < subs.length), (tysD subs)[i]? = some (tyD subs[i]) := fun i h => by rw [tysD_eq]; simp [h]
      simp only [tyD, sl1, manyT]
      generalize (names.map fun s => [S s]) = NL
      generalize tysD subs = SL at hL2 hG2
      refine acalls_vc [0, 1, 2, 3, 4, 9] Tryz.func154 Tryz.ntmps154 (by kernel_rfl) rfl rfl (by simp) ?_
      simp -dsimp [I]
      refine vloop_of (β := Nat) (ManyInv n (m.set n (tyO kind pkg major mod name NL SL)) (n + 1) subs manyTs 1) (fun i => subs.length - i) 0 ⟨by simp, by simp [I, manyTs], by simp [I], by omega, rfl, rfl⟩ ?_
      rintro i σ m2 n2 ⟨h1, h3, h4, le, rfl, rfl⟩
      by_cases hi : (i : Int) < subs.length
      · have hi' : i < subs.length := by omega
        have wi : IntKind.i64.wrap ((i : Int) + 1) = (i : Int) + 1 := wrap_i64 (by omega) (by omega)
        have hiN : i < SL.length := by omega
        have hgi : SL[i] = tyD subs[i] := get_opt (hG2 i hi') hiN
        have hp := manyTs_pre subs hi'
        have hsn := manyTs_snoc (subs.take i) subs[i]
        rw [← take_snoc hi'] at hsn
        generalize manyTs (subs.take i) = q at hp hsn h3
        have ws : IntKind.i64.wrap ((1 : Int) + q + manyT subs[i]) = (1 : Int) + q + manyT subs[i] := wrap_i64 (by omega) (by omega)
        simp -dsimp [h1, h3, h4, I, hL2, hi, hi', hiN, hgi, tyO]
        refine aCall_of (ih subs[i] (List.getElem_mem hi') _ _ (by omega)) ?_
        rintro d m' n' ⟨rfl, rfl, rfl⟩
        simp -dsimp [h1, h3, h4, I, wi, ws]
        exact ⟨i + 1, by omega, by simp, by simp [I, hsn]; omega, by simp [I], by omega, rfl, rfl⟩
      · have : subs.take i = subs := List.take_of_length_le (by omega)
        rw [this] at h3
        simp -dsimp [h1, h3, h4, I, hL2, hi, tyO]
        exact hq ⟨by simp [I], fr _⟩
    · rintro d m' n' ⟨rfl, h⟩
      exact ⟨_, (pur_I _).pub, h, rfl⟩
set_option maxHeartbeats 1000000 in
theorem cDeep {t : Ty} (ht : TyW t) : ∀ (m : Mem) (n : Nat), manyT t ≤ 1000000 → ACalls Tryz.prog 155 [.agg (tyD t)] m n (fun d m' n' => d = I (deepT t) ∧ m' = m ∧ n' = n) := by
  induction ht with
  | mk kind pkg major mod name names subs l1 l2 l3 l4 l5 l6 l7 ih =>
    intro m n hbig
    simp only [manyT] at hbig
    refine acalls_done (R' := Hq (fun d m' n' => d = I (deepT (.mk kind pkg major mod name names subs)) ∧ ∀ j, j < n → m' j = m j) tg) ?_ ?_
    · have fr : ∀ o j, j < n → (m.set n o) j = m j := fun o j hj => by rw [set_ne _ _ _ _ (by omega)]
      have hL2 : (tysD subs).length = subs.length := by rw [tysD_eq]; simp
      have hG2 : ∀ i (h : i < subs.length), (tysD subs)[i]? = some (tyD subs[i]) := fun i h => by rw [tysD_eq]; simp [h]
      have hdm := deeps_manys subs
      simp only [tyD, sl1, deepT]
      generalize (names.map fun s => [S s]) = NL
      generalize tysD subs = SL at hL2 hG2
      refine acalls_vc [0, 1, 2, 3, 4, 5, 10, 21] Tryz.func155 Tryz.ntmps155 (by kernel_rfl) rfl rfl (by simp) ?_
      simp -dsimp [I]
      refine vloop_of (β := Nat) (ManyInv n (m.set n (tyO kind pkg major mod name NL SL)) (n + 1) subs deepTs 0) (fun i => subs.length - i) 0 ⟨by simp, by simp [I, deepTs], by simp [I], by omega, rfl, rfl⟩ ?_
      rintro i σ m2 n2 ⟨h1, h3, h4, le, rfl, rfl⟩
      by_cases hi : (i : Int) < subs.length
      · have hi' : i < subs.length := by omega
        have wi : IntKind.i64.wrap ((i : Int) + 1) = (i : Int) + 1 := wrap_i64 (by omega) (by omega)
        have hiN : i < SL.length := by omega
        have hgi : SL[i] = tyD subs[i] := get_opt (hG2 i hi') hiN
        have hp := manyTs_pre subs hi'
        have hsn := deepTs_snoc (subs.take i) subs[i]
        rw [← take_snoc hi'] at hsn
        generalize deepTs (subs.take i) = q at hsn h3
        simp -dsimp [h1, h3, h4, I, hL2, hi, hi', hiN, hgi, tyO]
        refine aCall_of (ih subs[i] (List.getElem_mem hi') _ _ (by omega)) ?_
        rintro d m' n' ⟨rfl, rfl, rfl⟩
        by_cases c : (q : Int) < deepT subs[i]
        · have c' : q < deepT subs[i] := by omega
          simp -dsimp [h1, h3, h4, I, wi, c, c']
          exact ⟨i + 1, by omega, by simp, by simp [I, hsn]; omega, by simp [I], by omega, rfl, rfl⟩
        · have c' : ¬ q < deepT subs[i] := by omega
          simp -dsimp [h1, h3, h4, I, wi, c, c']
          exact ⟨i + 1, by omega, by simp, by simp [I, hsn]; omega, by simp [I], by omega, rfl, rfl⟩
      · have : subs.take i = subs := List.take_of_length_le (by omega)
        rw [this] at h3
        have ws : IntKind.i64.wrap ((deepTs subs : Int) + 1) = (deepTs subs : Int) + 1 := wrap_i64 (by omega) (by omega)
        simp -dsimp [h1, h3, h4, I, hL2, hi, tyO, ws]
        exact hq ⟨by simp [I], fr _⟩
    · rintro d m' n' ⟨rfl, h⟩
      exact ⟨_, (pur_I _).pub, h, rfl⟩
end Go.Proofs.Mv.App
open Go Go.Proofs Go.Proofs.Mv.V
set_option maxRecDepth 10000
namespace Go.Proofs.Mv.App
variable [GI]
def tmO (kind num : Int) (mod name : List UInt8) (NL VL YL SL : List (List D)) : V.Obj := ⟨8, [[I kind, I num, S mod, S name, .sl 1 NL, .sl 1 VL, .sl 7 YL, .sl 8 SL]], 0⟩
end Go.Proofs.Mv.App
open Go Go.Proofs Go.Proofs.Mv.V
namespace Go.Proofs.Mv.App
def findI {α : Type} (q : α → Bool) : List α → Int
  | [] => -1
  | x :: l => if q x then 0 else if findI q l < 0 then -1 else findI q l + 1
theorem findI_le {α : Type} (q : α → Bool) : ∀ l : List α, -1 ≤ findI q l
  | [] => by simp [findI]
  | x :: l => by
    have := findI_le q l
    simp only [findI]; split
    · omega
    · split <;> omega
theorem findI_no {α : Type} {q : α → Bool} : ∀ {l : List α}, (∀ x ∈ l, q x = false) → findI q l = -1
  | [], _ => rfl
  | x :: l, h => by
    have h1 := h x (by simp)
    have h2 := findI_no (l := l) fun y hy => h y (by simp [hy])
    simp [findI, h1, h2]
theorem findI_hit {α : Type} {q : α → Bool} : ∀ {l : List α} {i : Nat} (hi : i < l.length), q l[i] = true → (∀ x ∈ l.take i, q x = false) → findI q l = i
  | x :: l, 0, _, h, _ => by simp at h; simp [findI, h]
  | x :: l, i + 1, hi, h, hn => by
    have h1 := hn x (by simp)
    have h2 := findI_hit (l := l) (i := i) (by simpa using hi) (by simpa using h) fun y hy => hn y (by simp [hy])
    have h3 : ¬ ((i : Int) < 0) := by omega
    simp [findI, h1, h2, h3]
theorem findI_any {α : Type} (q : α → Bool) : ∀ l : List α, 0 ≤ findI q l ↔ l.any q = true
  | [] => by simp [findI]
  | x :: l => by
    have ih := findI_any q l
    have hle := findI_le q l
    simp only [findI, List.any_cons, Bool.or_eq_true]
    by_cases e : q x = true
    · simp [e]
    · rw [if_neg e]
      have h0 : q x = true ↔ False := ⟨e, False.elim⟩
      rw [h0, false_or, ← ih]
      by_cases h : findI q l < 0
      · rw [if_pos h]; omega
      · rw [if_neg h]; omega
end Go.Proofs.Mv.App
open Go Go.Proofs Go.Proofs.Mv.V
set_option maxRecDepth 10000
namespace Go.Proofs.Mv.App
variable [GI]
end Go.Proofs.Mv.App
open Go Go.Proofs Go.Proofs.Mv.V
set_option maxRecDepth 10000
namespace Go.Proofs.Mv.App
variable [GI]
end Go.Proofs.Mv.App
open Go Go.Proofs Go.Proofs.Mv.V
set_option maxRecDepth 10000
namespace Go.Proofs.Mv.App
mutual
def fewTm : Tm → Int → Int
  | .mk _ _ _ _ names vars types subs, most => if most - 1 < 0 ∨ 100 < names.length ∨ 100 < vars.length ∨ 100 < types.length then -1 else if types.all few3 = true then fewTms subs (most - 1) else -1
def fewTms : List Tm → Int → Int
  | [], m => m
  | t :: ts, m => if 0 ≤ m then fewTms ts (fewTm t m) else m
end
theorem fewTms_neg : ∀ (l : List Tm) (m : Int), m < 0 → fewTms l m = m
  | [], m, _ => by simp [fewTms]
  | t :: ts, m, h => by simp only [fewTms]; rw [if_neg (by omega)]
mutual
theorem fewTm_le : ∀ (t : Tm) (m : Int), -1 ≤ m → -1 ≤ fewTm t m ∧ fewTm t m ≤ m
  | .mk _ _ _ _ names vars types subs, m, h => by
    simp only [fewTm]
    split
    · omega
    · split
      · have := fewTms_le subs (m - 1) (by omega); omega
      · omega
theorem fewTms_le : ∀ (l : List Tm) (m : Int), -1 ≤ m → -1 ≤ fewTms l m ∧ fewTms l m ≤ m
  | [], m, h => by simp only [fewTms]; omega
  | t :: ts, m, h => by
    simp only [fewTms]
    split
    · have h1 := fewTm_le t m h
      have h2 := fewTms_le ts (fewTm t m) h1.1
      omega
    · omega
end
theorem fewTms_snoc : ∀ (l : List Tm) (t : Tm) (m : Int), fewTms (l ++ [t]) m = if 0 ≤ fewTms l m then fewTm t (fewTms l m) else fewTms l m
  | [], t, m => by by_cases h : 0 ≤ m <;> simp [fewTms, h]
  | x :: l, t, m => by
    by_cases h : 0 ≤ m
    · simp only [List.cons_append, fewTms, if_pos h]; exact fewTms_snoc l t _
    · simp only [List.cons_append, fewTms, if_neg h]
theorem fewTms_stop : ∀ (l r : List Tm) (m : Int), fewTms l m < 0 → fewTms (l ++ r) m = fewTms l m
  | [], r, m, h => by simp only [fewTms] at h; simp only [List.nil_append, fewTms]; exact fewTms_neg r m h
  | x :: l, r, m, h => by
    simp only [List.cons_append, fewTms] at h ⊢
    by_cases h0 : 0 ≤ m
    · rw [if_pos h0] at h; rw [if_pos h0, if_pos h0]; exact fewTms_stop l r _ h
    · rw [if_neg h0, if_neg h0]
variable [GI]
set_option maxHeartbeats 2000000 in
theorem cRFewTm {t : Tm} (ht : TmW t) : ∀ (most : Int), -1 ≤ most → most ≤ 100000 → Pc Tryz.prog 29 [.agg (tmD t), I most] (I (fewTm t most)) := by
  induction ht with
  | mk kind num mod name names vars types subs l1 l2 l3 l4 l5 l6 l7 l8 l9 l10 ih =>
    intro most hm0 hm1
    refine pc_of (pur_I _) (fun m n => ?_)
    have hL1 : (names.map fun s => [S s]).length = names.length := by simp
    have hL2 : (vars.map fun s => [S s]).length = vars.length := by simp
    have hL3 : (types.map tyD).length = types.length := by simp
    have hG3 : ∀ i (h : i < types.length), (types.map tyD)[i]? = some (tyD types[i]) := fun i h => by simp [h]
    have hL4 : (subs.map tmD).length = subs.length := by simp
    have hG4 : ∀ i (h : i < subs.length), (subs.map tmD)[i]? = some (tmD subs[i]) := fun i h => by simp [h]
    have wm : IntKind.i64.wrap (most - 1) = most - 1 := wrap_i64 (by omega) (by omega)
    have fr : ∀ o j, j < n → (m.set n o) j = m j := fun o j hj => by rw [set_ne _ _ _ _ (by omega)]
    simp only [tmD, sl1, tmsD_eq, fewTm]
    generalize (names.map fun s => [S s]) = NL at hL1
    generalize (vars.map fun s => [S s]) = VL at hL2
    generalize types.map tyD = YL at hL3 hG3
    generalize subs.map tmD = SL at hL4 hG4
    refine acalls_vc [0, 1, 2, 4, 5, 6, 7, 29, 34, 44, 53] Tryz.func29 Tryz.ntmps29 (by kernel_rfl) rfl rfl (by simp) ?_
    by_cases c1 : most - 1 < 0
    · rw [if_pos (.inl c1)]
      simp -dsimp [I, wm, c1]
      exact pcq rfl (fr _)
    by_cases c2 : (100 : Int) < names.length
    · rw [if_pos (.inr (.inl (by omega)))]
      simp -dsimp [I, wm, c1, c2, hL1]
      exact pcq rfl (fr _)
    by_cases c3 : (100 : Int) < vars.length
    · rw [if_pos (.inr (.inr (.inl (by omega))))]
      simp -dsimp [I, wm, c1, c2, c3, hL1, hL2]
      exact pcq rfl (fr _)
    by_cases c4 : (100 : Int) < types.length
    · rw [if_pos (.inr (.inr (.inr (by omega))))]
      simp -dsimp [I, wm, c1, c2, c3, c4, hL1, hL2, hL3]
      exact pcq rfl (fr _)
    rw [if_neg (by omega)]
    simp -dsimp [I, wm, c1, c2, c3, c4, hL1, hL2, hL3]
    refine vloop_as (β := Nat) (fun i => [(2, .ptr n 0 0 0), (1, I (most - 1)), (5, I i)]) (fun i m2 n2 => m2 = m.set n (tmO kind num mod name NL VL YL SL) ∧ n2 = n + 1 ∧ i ≤ types.length ∧ (types.take i).all few3 = true) (fun i => types.length - i) 0 (by simp [I]) ⟨rfl, rfl, by omega, by simp⟩ ?_
    rintro i m2 n2 ⟨rfl, rfl, le, hall⟩
    by_cases hi : (i : Int) < types.length
    · have hi' : i < types.length := by omega
      have wi : IntKind.i64.wrap ((i : Int) + 1) = (i : Int) + 1 := wrap_i64 (by omega) (by omega)
      have hiN : i < YL.length := by omega
      have hgi : YL[i] = tyD types[i] := get_opt (hG3 i hi') hiN
      have hc : Pc Tryz.prog 53 [.agg (tyD types[i])] (Tt (few3 types[i])) := fun m n => cFewT (l9 _ (List.getElem_mem hi')) m n
      simp -dsimp [I, Tt, hi, hi', hL3, hiN, hgi, tmO]
      refine pcall hc ?_
      cases hv : few3 types[i]
      · simp -dsimp [I, Tt]
        refine pcq ?_ (fr _)
        rw [if_neg]
        intro h
        have := h _ (List.getElem_mem hi')
        rw [hv] at this; cases this
      · simp -dsimp [I, Tt, wi]
        refine rnd (i + 1) (by omega) (by simp [I]) ⟨rfl, rfl, by omega, ?_⟩
        rw [take_snoc hi', List.all_append, hall]
        simp [hv]
    · have : types.take i = types := List.take_of_length_le (by omega)
      rw [this] at hall
      rw [if_pos hall]
      simp -dsimp [I, Tt, hi, hL3, tmO]
      refine vloop_as (β := Nat) (fun i => [(2, .ptr n 0 0 0), (1, I (fewTms (subs.take i) (most - 1))), (7, I i)]) (fun i m2 n2 => m2 = m.set n (tmO kind num mod name NL VL YL SL) ∧ n2 = n + 1 ∧ i ≤ subs.length) (fun i => subs.length - i) 0 (by simp [I, fewTms]) ⟨rfl, rfl, by omega⟩ ?_
      rintro i m2 n2 ⟨rfl, rfl, le⟩
      have hb := fewTms_le (subs.take i) (most - 1) (by omega)
      by_cases hi : (i : Int) < subs.length
      · have hi' : i < subs.length := by omega
        have wi : IntKind.i64.wrap ((i : Int) + 1) = (i : Int) + 1 := wrap_i64 (by omega) (by omega)
        have hiN : i < SL.length := by omega
        have hgi : SL[i] = tmD subs[i] := get_opt (hG4 i hi') hiN
        have hsn := fewTms_snoc (subs.take i) subs[i] (most - 1)
        rw [← take_snoc hi'] at hsn
        have hst := fewTms_stop (subs.take i) (subs.drop i) (most - 1)
        rw [List.take_append_drop] at hst
        generalize fewTms (subs.take i) (most - 1) = q at hb hsn hst
        by_cases c5 : 0 ≤ q
        · rw [if_pos c5] at hsn
          simp -dsimp [I, Tt, hi, hi', c5, hL4, hiN, hgi, tmO]
          refine pcall (ih subs[i] (List.getElem_mem hi') q (by omega) (by omega)) ?_
          simp -dsimp [I, Tt, wi]
          exact rnd (i + 1) (by omega) (by simp [I, hsn]) ⟨rfl, rfl, by omega⟩
        · simp -dsimp [I, Tt, hi, hi', c5, hL4, tmO]
          exact pcq (by rw [hst (by omega)]) (fr _)
      · have : subs.take i = subs := List.take_of_length_le (by omega)
        rw [this]
        simp -dsimp [I, Tt, hi, hL4, tmO]
        exact pcq rfl (fr _)
def fewTm3 (t : Tm) : Bool := decide (0 ≤ fewTm t 2000)
theorem cRFewT {t : Tm} (ht : TmW t) : Pc Tryz.prog 8 [.agg (tmD t)] (Tt (fewTm3 t)) := by
  refine pc_of (pur_T _) (fun m n => ?_)
  have hc := cRFewTm ht 2000 (by omega) (by omega)
  have hz : (tmD t).length = 8 := by simp
  unfold fewTm3
  generalize tmD t = XX at hc hz
  have htz : List.take 8 XX = XX := List.take_of_length_le (by omega)
  refine acalls_vc [0, 1, 2] Tryz.func8 Tryz.ntmps8 (by kernel_rfl) rfl rfl (by simp) ?_
  simp -dsimp [hz, htz]
  refine pcall hc ?_
  by_cases h : 0 ≤ fewTm t 2000
  · simp -dsimp [I, Tt, h]
    exact pcq rfl (fun j hj => by rw [set_ne _ _ _ _ (by omega)])
  · simp -dsimp [I, Tt, h]
    exact pcq rfl (fun j hj => by rw [set_ne _ _ _ _ (by omega)])
end Go.Proofs.Mv.App
open Go Go.Proofs Go.Proofs.Mv.V
set_option maxRecDepth 10000
namespace Go.Proofs.Mv.App
variable [GI]
set_option maxHeartbeats 4000000 in
theorem cSameT {a : Ty} (ha : TyW a) : ∀ {b : Ty}, Pc Tryz.prog 33 [.agg (tyD a), .agg (tyD b)] (Tt (sameT a b)) := by
  induction ha with
  | mk kind pkg major mod name names subs l1 l2 l3 l4 l5 l6 l7 ih =>
    intro b
    obtain ⟨kind', pkg', major', mod', name', names', subs'⟩ := b
    refine pc_of (pur_T _) (fun m n => ?_)
    have nn1 : n ≠ n + 1 := by omega
    have n1n : n + 1 ≠ n := by omega
    have fr : ∀ o o' j, j < n → ((m.set n o).set (n + 1) o') j = m j := fun o o' j hj => by rw [set_ne _ _ _ _ (by omega), set_ne _ _ _ _ (by omega)]
    have hL1 : (names.map fun s => [S s]).length = names.length := by simp
    have hG1 : ∀ i (h : i < names.length), (names.map fun s => [S s])[i]? = some [S names[i]] := fun i h => by simp [h]
    have hL1' : (names'.map fun s => [S s]).length = names'.length := by simp
    have hG1' : ∀ i (h : i < names'.length), (names'.map fun s => [S s])[i]? = some [S names'[i]] := fun i h => by simp [h]
    have hL2 : (tysD subs).length = subs.length := by rw [tysD_eq]; simp
    have hG2 : ∀ i (h : i < subs.length), (tysD subs)[i]? = some (tyD subs[i]) := fun i h => by rw [tysD_eq]; simp [h]
    have hL2' : (tysD subs').length = subs'.length := by rw [tysD_eq]; simp
    have hG2' : ∀ i (h : i < subs'.length), (tysD subs')[i]? = some (tyD subs'[i]) := fun i h => by rw [tysD_eq]; simp [h]
    have hno : ¬ (kind = kind' ∧ pkg = pkg' ∧ major = major' ∧ mod = mod' ∧ name = name' ∧ names = names' ∧ subs = subs') → sameT (.mk kind pkg major mod name names subs) (.mk kind' pkg' major' mod' name' names' subs') = false := fun h => by
      cases e : sameT (.mk kind pkg major mod name names subs) (.mk kind' pkg' major' mod' name' names' subs')
      · rfl
      · exact absurd (by simpa using (sameT_iff _ _).1 e) h
    have hyes : (kind = kind' ∧ pkg = pkg' ∧ major = major' ∧ mod = mod' ∧ name = name' ∧ names = names' ∧ subs = subs') → sameT (.mk kind pkg major mod name names subs) (.mk kind' pkg' major' mod' name' names' subs') = true := fun h => by
      rw [sameT_iff]; simpa using h
    generalize sameT (.mk kind pkg major mod name names subs) (.mk kind' pkg' major' mod' name' names' subs') = R at hno hyes
    simp only [tyD, sl1]
    generalize (names.map fun s => [S s]) = NL at hL1 hG1
    generalize (names'.map fun s => [S s]) = NL' at hL1' hG1'
    generalize tysD subs = SL at hL2 hG2
    generalize tysD subs' = SL' at hL2' hG2'
    refine acalls_vc [0, 1, 2, 3, 4, 5, 6, 7, 58, 63, 76, 81, 96] Tryz.func33 Tryz.ntmps33 (by kernel_rfl) rfl rfl (by simp) ?_
    by_cases c1 : kind = kind'
    · subst c1
      by_cases c2 : pkg = pkg'
      · subst c2
        by_cases c3 : major = major'
        · subst c3
          by_cases c4 : mod = mod'
          · subst c4
            by_cases c5 : name = name'
            · subst c5
              by_cases c6 : names.length = names'.length
              · have c6' : (names.length : Int) = names'.length := by omega
                by_cases c7 : subs.length = subs'.length
                · have c7' : (subs.length : Int) = subs'.length := by omega
                  simp -dsimp [I, S, Tt, set_ne, nn1, n1n, hL1, hL2, hL1', hL2', c6', c7']
                  refine vloop_as (β := Nat) (fun i => [(2, .ptr n 0 0 0), (3, .ptr (n + 1) 0 0 0), (5, I i)]) (fun i m2 n2 => m2 = (m.set n (tyO kind pkg major mod name NL SL)).set (n + 1) (tyO kind pkg major mod name NL' SL') ∧ n2 = n + 1 + 1 ∧ i ≤ names.length ∧ names.take i = names'.take i) (fun i => names.length - i) 0 (by simp [I]) ⟨rfl, rfl, by omega, by simp⟩ ?_
                  rintro i m2 n2 ⟨rfl, rfl, le, heq⟩
                  by_cases hi : (i : Int) < names.length
                  · have hi' : i < names.length := by omega
                    have hi2 : i < names'.length := by omega
                    have wi : IntKind.i64.wrap ((i : Int) + 1) = (i : Int) + 1 := wrap_i64 (by omega) (by omega)
                    have hiN : i < NL.length := by omega
                    have hgi : NL[i] = [S names[i]] := get_opt (hG1 i hi') hiN
                    have hiN' : i < NL'.length := by omega
                    have hgi' : NL'[i] = [S names'[i]] := get_opt (hG1' i hi2) hiN'
                    have hi3 : (i : Int) < names'.length := by omega
                    simp -dsimp [I, S, Tt, set_ne, nn1, n1n, hL1, hL2, hL1', hL2', hi, hi', hi2, hi3, c6', tyO]
                    refine vdraw_of [0, 1, 0, 7, 15, 0, 32, 0, 224, 480, 1023] [0, 1, 2, 3, 4, 5, 6, 7, 8, 9, 10] (by kernel_rfl) (by kernel_rfl) ?_
                    by_cases ce : names[i] = names'[i]
                    · have ce' : (names[i] == names'[i]) = true := by simpa using ce
                      simp -dsimp [I, S, Tt, set_ne, nn1, n1n, hL1, hL2, hL1', hL2', hi, hi', hi2, hi3, hiN, hgi, hiN', hgi', wi, ce', c6']
                      refine rnd (i + 1) (by omega) (by simp [I]) ⟨rfl, rfl, by omega, ?_⟩
                      rw [List.take_succ_eq_append_getElem hi', List.take_succ_eq_append_getElem hi2, heq, ce]
                    · have ce' : (names[i] == names'[i]) = false := by simpa using ce
                      rw [hno (fun h => ce (by have := h.2.2.2.2.2.1; subst this; rfl))]
                      simp -dsimp [I, S, Tt, set_ne, nn1, n1n, hL1, hL2, hL1', hL2', hi, hi', hi2, hi3, hiN, hgi, hiN', hgi', wi, ce', c6']
                      exact pcq rfl (fr _ _)
                  · have e1 : names.take i = names := List.take_of_length_le (by omega)
                    have e2 : names'.take i = names' := List.take_of_length_le (by omega)
                    rw [e1, e2] at heq
                    have hi3 : ¬ (i : Int) < names'.length := by omega
                    have hi4 : ¬ i < names'.length := by omega
                    simp -dsimp [I, S, Tt, set_ne, nn1, n1n, hL1, hL2, hL1', hL2', hi, hi3, hi4, c6', tyO]
                    refine vloop_as (β := Nat) (fun i => [(2, .ptr n 0 0 0), (3, .ptr (n + 1) 0 0 0), (6, I i)]) (fun i m2 n2 => m2 = (m.set n (tyO kind pkg major mod name NL SL)).set (n + 1) (tyO kind pkg major mod name NL' SL') ∧ n2 = n + 1 + 1 ∧ i ≤ subs.length ∧ subs.take i = subs'.take i) (fun i => subs.length - i) 0 (by simp [I]) ⟨rfl, rfl, by omega, by simp⟩ ?_
                    rintro i m2 n2 ⟨rfl, rfl, le, heq2⟩
                    by_cases hi : (i : Int) < subs.length
                    · have hi' : i < subs.length := by omega
                      have hi2 : i < subs'.length := by omega
                      have hi3 : (i : Int) < subs'.length := by omega
                      have wi : IntKind.i64.wrap ((i : Int) + 1) = (i : Int) + 1 := wrap_i64 (by omega) (by omega)
                      have hiN : i < SL.length := by omega
                      have hgi : SL[i] = tyD subs[i] := get_opt (hG2 i hi') hiN
                      have hiN' : i < SL'.length := by omega
                      have hgi' : SL'[i] = tyD subs'[i] := get_opt (hG2' i hi2) hiN'
                      simp -dsimp [I, S, Tt, set_ne, nn1, n1n, hL1, hL2, hL1', hL2', hi, hi', hi2, hi3, c7', tyO]
                      refine vdraw_of [0, 1, 0, 7, 15, 0, 32, 0, 224, 480, 1023, 2047] [0, 1, 2, 3, 4, 5, 6, 7, 8, 9, 10, 11] (by kernel_rfl) (by kernel_rfl) ?_
                      simp -dsimp [I, S, Tt, set_ne, nn1, n1n, hL1, hL2, hL1', hL2', hi, hi', hi2, hi3, hiN, hgi, hiN', hgi', wi, c7']
                      refine pcall (ih subs[i] (List.getElem_mem hi') (b := subs'[i])) ?_
                      cases ce : sameT subs[i] subs'[i]
                      · rw [hno (fun h => by
                          have h2 := h.2.2.2.2.2.2
                          subst h2
                          rw [(sameT_iff _ _).2 rfl] at ce; cases ce)]
                        simp -dsimp [I, S, Tt, set_ne, nn1, n1n]
                        exact pcq rfl (fr _ _)
                      · simp -dsimp [I, S, Tt, set_ne, nn1, n1n, wi]
                        refine rnd (i + 1) (by omega) (by simp [I]) ⟨rfl, rfl, by omega, ?_⟩
                        rw [List.take_succ_eq_append_getElem hi', List.take_succ_eq_append_getElem hi2, heq2, (sameT_iff _ _).1 ce]
                    · have e1 : subs.take i = subs := List.take_of_length_le (by omega)
                      have e2 : subs'.take i = subs' := List.take_of_length_le (by omega)
                      rw [e1, e2] at heq2
                      rw [hyes ⟨rfl, rfl, rfl, rfl, rfl, heq, heq2⟩]
                      have hi3 : ¬ (i : Int) < subs'.length := by omega
                      have hi4 : ¬ i < subs'.length := by omega
                      simp -dsimp [I, S, Tt, set_ne, nn1, n1n, hL1, hL2, hL1', hL2', hi, hi3, hi4, c7', tyO]
                      exact pcq rfl (fr _ _)
                · have d7 : ((subs.length : Int) == subs'.length) = false := by rw [beq_eq_false_iff_ne]; omega
                  have d7' : ((subs.length : Int) != subs'.length) = true := by rw [bne_iff_ne]; omega
                  rw [hno (fun h => c7 (by rw [h.2.2.2.2.2.2]))]
                  simp -dsimp [I, S, Tt, set_ne, nn1, n1n, hL1, hL2, hL1', hL2', c6', d7, d7']
                  exact pcq rfl (fr _ _)
              · have d6 : ((names.length : Int) == names'.length) = false := by rw [beq_eq_false_iff_ne]; omega
                have d6' : ((names.length : Int) != names'.length) = true := by rw [bne_iff_ne]; omega
                rw [hno (fun h => c6 (by rw [h.2.2.2.2.2.1]))]
                simp -dsimp [I, S, Tt, set_ne, nn1, n1n, hL1, hL2, hL1', hL2', d6, d6']
                exact pcq rfl (fr _ _)
            · have d5 : (name == name') = false := by simpa using c5
              rw [hno (fun h => c5 h.2.2.2.2.1)]
              simp -dsimp [I, S, Tt, set_ne, nn1, n1n, hL1, hL2, hL1', hL2', d5]
              exact pcq rfl (fr _ _)
          · have d4 : (mod == mod') = false := by simpa using c4
            rw [hno (fun h => c4 h.2.2.2.1)]
            simp -dsimp [I, S, Tt, set_ne, nn1, n1n, hL1, hL2, hL1', hL2', d4]
            exact pcq rfl (fr _ _)
        · have d3 : (major != major') = true := by simpa using c3
          rw [hno (fun h => c3 h.2.2.1)]
          simp -dsimp [I, S, Tt, set_ne, nn1, n1n, hL1, hL2, hL1', hL2', c3, d3]
          exact pcq rfl (fr _ _)
      · have d2 : (pkg == pkg') = false := by simpa using c2
        rw [hno (fun h => c2 h.2.1)]
        simp -dsimp [I, S, Tt, set_ne, nn1, n1n, hL1, hL2, hL1', hL2', d2]
        exact pcq rfl (fr _ _)
    · have d1 : (kind != kind') = true := by simpa using c1
      rw [hno (fun h => c1 h.1)]
      simp -dsimp [I, S, Tt, set_ne, nn1, n1n, hL1, hL2, hL1', hL2', c1, d1]
      exact pcq rfl (fr _ _)
end Go.Proofs.Mv.App
