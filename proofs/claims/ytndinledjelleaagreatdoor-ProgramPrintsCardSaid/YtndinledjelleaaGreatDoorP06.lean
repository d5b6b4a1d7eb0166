/- A part of the proofs: machine, contracts, laws. No condition of its own. -/
import Derived.Test.YtndinledjelleaaGreatDoorP05
import Derived.Test.YtndinledjelleaaGreatDoorP03
import Derived.Test.YtndinledjelleaaGreatDoorP04
import Derived.Test.YtndinledjelleaaGreatDoorMvPc
import Derived.Test.YtndinledjelleaaGreatDoorMvC
import Derived.Test.YtndinledjelleaaGreatDoorP00
set_option linter.unusedSimpArgs false
set_option linter.unusedVariables false
set_option linter.unusedSectionVars false
open Go Go.Proofs Go.Proofs.Mv.V
namespace Go.Proofs.Mv.App
theorem shape_sm {t : Ty} (h : shapeT t = true) : t.pkg.length ≤ 20 ∧ t.mod.length ≤ 20 ∧ t.name.length ≤ 20 ∧ t.names.length ≤ 20 ∧ t.subs.length ≤ 20 ∧ ∀ s ∈ t.names, s.length ≤ 20 := by
 obtain ⟨hn, hs⟩ := shape_parts h
 obtain ⟨kind, pkg, major, mod, name, names, subs⟩ := t
 simp only [shapeK, Ty.kind, Ty.pkg, Ty.major, Ty.mod, Ty.name, Ty.names, Ty.subs] at hs hn ⊢
 have hri : ∀ g, risingN g names = true → ∀ s ∈ names, s.length ≤ 20 := fun g h s hs => by
  have := stepOk_nam h s hs
  cases g
  ·exact (small_parts this).2.2.1
  ·exact (great_parts this).2.2.1
 repeat' split at hs
 ·simp only [Bool.and_eq_true, decide_eq_true_eq, List.length_eq_zero_iff] at hs
  obtain ⟨⟨he, _⟩, rfl⟩ := hs
  obtain ⟨rfl, rfl, rfl, rfl⟩ := emptyT_parts he
  simp [hn]
 ·simp only [Bool.and_eq_true, decide_eq_true_eq, List.length_eq_zero_iff] at hs
  obtain ⟨⟨he, _⟩, rfl⟩ := hs
  obtain ⟨rfl, rfl, rfl, rfl⟩ := emptyT_parts he
  simp [hn]
 ·simp only [Bool.and_eq_true, decide_eq_true_eq, List.length_eq_zero_iff] at hs
  obtain ⟨⟨he, e⟩, hr⟩ := hs
  obtain ⟨rfl, rfl, rfl, rfl⟩ := emptyT_parts he
  exact ⟨by simp, by simp, by simp, by omega, hn, hri _ hr⟩
 ·simp only [Bool.and_eq_true, decide_eq_true_eq, List.length_eq_zero_iff] at hs
  obtain ⟨⟨⟨he, _⟩, e⟩, hr⟩ := hs
  obtain ⟨rfl, rfl, rfl, rfl⟩ := emptyT_parts he
  exact ⟨by simp, by simp, by simp, by omega, hn, hri _ hr⟩
 ·simp only [Bool.and_eq_true, decide_eq_true_eq, List.length_eq_zero_iff] at hs
  obtain ⟨⟨he, _⟩, rfl⟩ := hs
  obtain ⟨rfl, rfl, rfl, rfl⟩ := emptyT_parts he
  simp [hn]
 ·simp only [Bool.and_eq_true, Bool.or_eq_true, decide_eq_true_eq, List.length_eq_zero_iff] at hs
  obtain ⟨⟨⟨⟨⟨rfl, rfl⟩, rfl⟩, rfl⟩, hg⟩, hm⟩ := hs
  refine ⟨by simp, ?_, (great_parts hg).2.2.1, by simp, by simp, by simp⟩
  rcases hm with rfl | hm
  ·simp
  ·exact (small_parts hm).2.2.1
 ·simp only [Bool.and_eq_true, decide_eq_true_eq, List.length_eq_zero_iff] at hs
  obtain ⟨⟨⟨⟨⟨⟨rfl, rfl⟩, hp⟩, hm⟩, hg⟩, hj1⟩, hj2⟩ := hs
  exact ⟨(small_parts hp).2.2.1, (small_parts hm).2.2.1, (great_parts hg).2.2.1, by simp, by simp, by simp⟩
 ·cases hs
/-! how long -/
theorem joinB_len (sep : List UInt8) : ∀ l : List (List UInt8), (joinB sep l).length ≤ (l.map fun s => s.length + sep.length).sum
 | [] => by simp [joinB]
 | [s] => by simp [joinB]
 | s :: t :: r => by
  have := joinB_len sep (t :: r)
  rw [joinB_cons (by simp)]
  simp only [List.map_cons, List.sum_cons, List.length_append] at this ⊢
  omega
theorem digitsF_len : ∀ (f n : Nat), (digitsF f n).length ≤ f
 | 0, _ => by simp [digitsF]
 | f + 1, n => by
  simp only [digitsF]
  split
  ·simp
  ·have := digitsF_len f (n / 10); simp; omega
theorem digits_len (n : Nat) : (digits n).length ≤ 20 := digitsF_len 20 n
mutual
theorem text_len : ∀ t : Ty, allT t = true → (textT t).length + 30 ≤ 130 * manyT t
 | .mk kind pkg major mod name names subs, h => by
  simp only [allT, Bool.and_eq_true] at h
  obtain ⟨a, b, c, d, e, f⟩ := shape_sm h.1
  simp only [Ty.pkg, Ty.mod, Ty.name, Ty.names, Ty.subs] at a b c d e f
  have h1 := texts_len subs names h.2 f
  have h2 := texts_len subs [] h.2 (by simp)
  have h3 := joinB_len comma (textTs names subs)
  have h4 := joinB_len comma ((textTs [] subs).dropLast)
  have h5 : ((textTs [] subs).dropLast.map fun s => s.length + comma.length).sum + ((textTs [] subs).getLastD []).length ≤ ((textTs [] subs).map fun s => s.length + comma.length).sum := by
   rcases List.eq_nil_or_concat (textTs [] subs) with e | ⟨q, x, e⟩
   ·rw [e]; simp
   ·rw [e]; simp <;> omega
  have h6 := digits_len major.toNat
  simp only [textT, manyT]
  repeat' split
  all_goals (try simp only [wInt, wText, wBool, wList, List.length_append, List.length_cons, List.length_nil])
  all_goals (try omega)
theorem texts_len : ∀ (l : List Ty) (ns : List (List UInt8)), allTs l = true → (∀ s ∈ ns, s.length ≤ 20) → ((textTs ns l).map fun s => s.length + comma.length).sum ≤ 130 * manyTs l
 | [], ns, _, _ => by simp [textTs]
 | t :: ts, [], h, hn => by
  simp only [allTs, Bool.and_eq_true] at h
  have h1 := text_len t h.1
  have h2 := texts_len ts [] h.2 hn
  simp only [textTs, List.map_cons, List.sum_cons, manyTs, comma, List.length_cons, List.length_nil] at h2 ⊢
  omega
 | t :: ts, n :: ns, h, hn => by
  simp only [allTs, Bool.and_eq_true] at h
  have h1 := text_len t h.1
  have h2 := texts_len ts ns h.2 (fun s hs => hn s (by simp [hs]))
  have h3 := hn n (by simp)
  simp only [textTs, List.map_cons, List.sum_cons, manyTs, comma, List.length_cons, List.length_nil, List.length_append] at h2 ⊢
  omega
end
end Go.Proofs.Mv.App
open Go Go.Proofs Go.Proofs.Mv.V
set_option maxRecDepth 10000
namespace Go.Proofs.Mv.App
structure ImpWU (i : Imp) : Prop where
 h1 : i.pkg.length ≤ 9223372036854775807
 h2 : i.mod.length ≤ 9223372036854775807
 h3 : i.as_.length ≤ 9223372036854775807
structure LnW (d : Ln) : Prop where
 h1 : d.mod.length ≤ 9223372036854775807
 h2 : d.name.length ≤ 9223372036854775807
 h3 : TyW d.typ
structure UsW (x : Us) : Prop where
 h1 : x.imps.length ≤ 9223372036854775807
 h2 : x.lines.length ≤ 9223372036854775807
 h3 : ∀ i ∈ x.imps, ImpWU i
 h4 : ∀ d ∈ x.lines, LnW d
@[simp] theorem impD_len (i : Imp) : (impD i).length = 4 := rfl
def impOkU (i : Imp) : Bool := smallN i.pkg && smallN i.mod && smallN i.as_ && decide (1 ≤ i.major) && decide (i.major ≤ 999999999)
def impLnU (i : Imp) : List UInt8 := wImp ++ [32] ++ i.pkg ++ [32] ++ digits i.major.toNat ++ [32] ++ i.mod ++ [32, 97, 115, 32] ++ i.as_ ++ [10]
theorem flat_len {α : Type} {B : Nat} {f : α → List UInt8} : ∀ {l : List α}, (∀ x ∈ l, (f x).length ≤ B) → ((l.map f).flatten).length ≤ l.length * B
 | [], _ => by simp
 | s :: l, h => by
  have h1 := flat_len (l := l) fun t ht => h t (by simp [ht])
  have h2 := h s (by simp)
  simp only [List.map_cons, List.flatten_cons, List.length_append, List.length_cons, Nat.add_mul] at h1 ⊢
  omega
theorem imp_partsU {i : Imp} (h : impOkU i = true) : i.pkg.length ≤ 20 ∧ i.mod.length ≤ 20 ∧ i.as_.length ≤ 20 ∧ 1 ≤ i.major ∧ i.major ≤ 999999999 := by
 simp only [impOkU, Bool.and_eq_true, decide_eq_true_eq] at h
 exact ⟨(small_parts h.1.1.1.1).2.2.1, (small_parts h.1.1.1.2).2.2.1, (small_parts h.1.1.2).2.2.1, h.1.2, h.2⟩
theorem impLnU_len {i : Imp} (h : impOkU i = true) : (impLnU i).length ≤ 200 := by
 obtain ⟨h1, h2, h3, _⟩ := imp_partsU h
 have := digits_len i.major.toNat
 simp [impLnU, wImp]; omega
end Go.Proofs.Mv.App
open Go Go.Proofs Go.Proofs.Mv.V
set_option maxRecDepth 10000
namespace Go.Proofs.Mv.App
inductive Tm where
 | mk (kind num : Int) (mod name : List UInt8) (names vars : List (List UInt8)) (types : List Ty) (subs : List Tm)
instance : Inhabited Tm := ⟨.mk 0 0 [] [] [] [] [] []⟩
mutual
def tmD [GI] : Tm → List D
 | .mk kind num mod name names vars types subs => [I kind, I num, S mod, S name, sl1 names, sl1 vars, .sl 7 (types.map tyD), .sl 8 (tmsD subs)]
def tmsD [GI] : List Tm → List (List D)
 | [] => []
 | t :: ts => tmD t :: tmsD ts
end
section
variable [GI]
theorem tmsD_eq : ∀ l : List Tm, tmsD l = l.map tmD
 | [] => by simp [tmsD]
 | t :: ts => by simp [tmsD, tmsD_eq ts]
@[simp] theorem tmD_len (t : Tm) : (tmD t).length = 8 := by cases t; simp [tmD]
@[simp] theorem tmD_take (t : Tm) : (tmD t).take 8 = tmD t := List.take_of_length_le (by simp)
mutual
theorem pur_tm : ∀ t : Tm, ∀ d ∈ tmD t, Pur d
 | .mk kind num mod name names vars types subs, d, hd => by
  simp only [tmD, List.mem_cons, List.not_mem_nil, or_false] at hd
  rcases hd with rfl | rfl | rfl | rfl | rfl | rfl | rfl | rfl
  ·exact pur_I _
  ·exact pur_I _
  ·exact pur_S _
  ·exact pur_S _
  ·exact pur_sl1 _
  ·exact pur_sl1 _
  ·exact Pur.sl (pur_tym types)
  ·exact Pur.sl (pur_tms subs)
theorem pur_tms : ∀ l : List Tm, ∀ e ∈ tmsD l, ∀ d ∈ e, Pur d
 | [], e, he, _, _ => by simp [tmsD] at he
 | t :: ts, e, he, d, hd => by
  simp only [tmsD, List.mem_cons] at he
  rcases he with rfl | he
  ·exact pur_tm t d hd
  ·exact pur_tms ts e he d hd
end
theorem pur_tmA (t : Tm) : Pur (.agg (tmD t)) := Pur.agg (pur_tm t)
end
inductive TmW : Tm → Prop where
 | mk (kind num : Int) (mod name : List UInt8) (names vars : List (List UInt8)) (types : List Ty) (subs : List Tm) (h1 : names.length ≤ 9223372036854775807) (h2 : vars.length ≤ 9223372036854775807)
   (h3 : types.length ≤ 9223372036854775807) (h4 : subs.length ≤ 9223372036854775807) (h5 : mod.length ≤ 9223372036854775807) (h6 : name.length ≤ 9223372036854775807)
   (h7 : ∀ s ∈ names, s.length ≤ 9223372036854775807) (h8 : ∀ s ∈ vars, s.length ≤ 9223372036854775807) (h9 : ∀ t ∈ types, TyW t) (h10 : ∀ t ∈ subs, TmW t) : TmW (.mk kind num mod name names vars types subs)
mutual
def manyTm : Tm → Nat
 | .mk _ _ _ _ _ _ _ subs => 1 + manyTms subs
def manyTms : List Tm → Nat
 | [] => 0
 | t :: ts => manyTm t + manyTms ts
end
end Go.Proofs.Mv.App
open Go Go.Proofs Go.Proofs.Mv.V
set_option maxRecDepth 10000
namespace Go.Proofs.Mv.App
variable [GI]
def tyO (kind : Int) (pkg : List UInt8) (major : Int) (mod name : List UInt8) (NL SL : List (List D)) : V.Obj := ⟨7, [[I kind, S pkg, I major, S mod, S name, .sl 1 NL, .sl 7 SL]], 0⟩
structure FewInv (k : Nat) (M : Mem) (n0 : Nat) (subs : List Ty) (m0 : Int) (i : Nat) (σ : Nat → D) (m2 : Mem) (n2 : Nat) : Prop where
 h2 : σ 2 = .ptr k 0 0 0
 h1 : σ 1 = I (fewTs (subs.take i) m0)
 h5 : σ 5 = I i
 le : i ≤ subs.length
 mm : m2 = M
 nn : n2 = n0
set_option maxHeartbeats 1000000 in
theorem cFew {t : Ty} (ht : TyW t) : ∀ (most : Int) (m : Mem) (n : Nat), -1 ≤ most → most ≤ 100000 → ACalls Tryz.prog 40 [.agg (tyD t), I most] m n (fun d m' n' => d = I (fewT t most) ∧ m' = m ∧ n' = n) := by
 induction ht with
 | mk kind pkg major mod name names subs l1 l2 l3 l4 l5 l6 l7 ih =>
  intro most m n hm0 hm1
  refine acalls_done (R' := Hq (fun d m' n' => d = I (fewT (.mk kind pkg major mod name names subs) most) ∧ ∀ j, j < n → m' j = m j) tg) ?_ ?_
  ·have fr : ∀ o j, j < n → (m.set n o) j = m j := fun o j hj => by rw [set_ne _ _ _ _ (by omega)]
   have hL1 : (names.map fun s => [S s]).length = names.length := by simp
   have hL2 : (tysD subs).length = subs.length := by rw [tysD_eq]; simp
   have hG2 : ∀ i (h : i < subs.length), (tysD subs)[i]? = some (tyD subs[i]) := fun i h => by rw [tysD_eq]; simp [h]
   have wm : IntKind.i64.wrap (most - 1) = most - 1 := wrap_i64 (by omega) (by omega)
   simp only [tyD, sl1, fewT]
   generalize (names.map fun s => [S s]) = NL at hL1
   generalize tysD subs = SL at hL2 hG2
   refine acalls_vc [0, 1, 2, 4, 5, 15, 24] Tryz.func40 Tryz.ntmps40 (by kernel_rfl) rfl rfl (by simp) ?_
   by_cases c1 : most - 1 < 0
   ·rw [if_pos (.inl c1)]
    simp -dsimp [I, wm, c1]
    exact hq ⟨rfl, fr _⟩
   by_cases c2 : (200 : Int) < names.length
   ·rw [if_pos (.inr (by omega))]
    simp -dsimp [I, wm, c1, c2, hL1]
    exact hq ⟨rfl, fr _⟩
   rw [if_neg (by omega)]
   simp -dsimp [I, wm, c1, c2, hL1]
   refine vloop_of (β := Nat) (FewInv n (m.set n (tyO kind pkg major mod name NL SL)) (n + 1) subs (most - 1)) (fun i => subs.length - i) 0 ⟨by simp, by simp [I, fewTs], by simp [I], by omega, rfl, rfl⟩ ?_
   rintro i σ m2 n2 ⟨h2, h1, h5, le, rfl, rfl⟩
   have hb := fewTs_le (subs.take i) (most - 1) (by omega)
   by_cases hi : (i : Int) < subs.length
   ·have hi' : i < subs.length := by omega
    have wi : IntKind.i64.wrap ((i : Int) + 1) = (i : Int) + 1 := wrap_i64 (by omega) (by omega)
    have hiN : i < SL.length := by omega
    have hgi : SL[i] = tyD subs[i] := get_opt (hG2 i hi') hiN
    have hsn := fewTs_snoc (subs.take i) subs[i] (most - 1)
    rw [← take_snoc hi'] at hsn
    have hst := fewTs_stop (subs.take i) (subs.drop i) (most - 1)
    rw [List.take_append_drop] at hst
    generalize fewTs (subs.take i) (most - 1) = q at hb hsn hst h1
    by_cases c3 : 0 ≤ q
    ·rw [if_pos c3] at hsn
     simp -dsimp [h1, h2, h5, I, hL2, hi, hi', c3, hiN, hgi, tyO]
     refine aCall_of (ih subs[i] (List.getElem_mem hi') q _ _ (by omega) (by omega)) ?_
     rintro d m' n' ⟨rfl, rfl, rfl⟩
     simp -dsimp [h1, h2, h5, I, wi]
     exact ⟨i + 1, by omega, by simp, by simp [I, hsn], by simp [I], by omega, rfl, rfl⟩
    ·simp -dsimp [h1, h2, h5, I, hL2, hi, c3, tyO]
     exact hq ⟨by rw [hst (by omega)]; rfl, fr _⟩
   ·have : subs.take i = subs := List.take_of_length_le (by omega)
    rw [this] at h1
    simp -dsimp [h1, h2, h5, I, hL2, hi, tyO]
    exact hq ⟨rfl, fr _⟩
  ·rintro d m' n' ⟨rfl, h⟩
   exact ⟨_, (pur_I _).pub, h, rfl⟩
theorem cFewT {t : Ty} (ht : TyW t) (m : Mem) (n : Nat) : ACalls Tryz.prog 11 [.agg (tyD t)] m n (fun d m' n' => d = Tt (few3 t) ∧ m' = m ∧ n' = n) := by
 refine acalls_done (R' := Hq (fun d m' n' => d = Tt (few3 t) ∧ ∀ j, j < n → m' j = m j) tg) ?_ ?_
 ·have h7 := tyD_len t
  have hc := fun m n => cFew ht 3000 m n (by omega) (by omega)
  generalize tyD t = TT at h7 hc
  have ht7 : List.take 7 TT = TT := List.take_of_length_le (by omega)
  refine acalls_vc [0, 1, 2] Tryz.func11 Tryz.ntmps11 (by kernel_rfl) rfl rfl (by simp) ?_
  simp -dsimp [h7, ht7]
  refine aCall_of (hc _ _) ?_
  rintro d m' n' ⟨rfl, rfl, rfl⟩
  simp -dsimp [I]
  exact hq ⟨by simp [Tt, few3], fun j hj => by rw [set_ne _ _ _ _ (by omega)]⟩
 ·rintro d m' n' ⟨rfl, h⟩
  exact ⟨_, (pur_T _).pub, h, rfl⟩
structure ManyInv (k : Nat) (M : Mem) (n0 : Nat) (subs : List Ty) (f : List Ty → Nat) (c : Nat) (i : Nat) (σ : Nat → D) (m2 : Mem) (n2 : Nat) : Prop where
 h1 : σ 1 = .ptr k 0 0 0
 h3 : σ 3 = I (c + f (subs.take i))
 h4 : σ 4 = I i
 le : i ≤ subs.length
 mm : m2 = M
 nn : n2 = n0
theorem manyTs_pre (l : List Ty) {i : Nat} (h : i < l.length) : manyTs (l.take i) + manyT l[i] ≤ manyTs l := by
 rw [← manyTs_snoc, ← take_snoc h]; exact manyTs_take l (i + 1)
set_option maxHeartbeats 1000000 in
theorem cMany {t : Ty} (ht : TyW t) : ∀ (m : Mem) (n : Nat), manyT t ≤ 1000000 → ACalls Tryz.prog 222 [.agg (tyD t)] m n (fun d m' n' => d = I (manyT t) ∧ m' = m ∧ n' = n) := by
 induction ht with
 | mk kind pkg major mod name names subs l1 l2 l3 l4 l5 l6 l7 ih =>
  intro m n hbig
  simp only [manyT] at hbig
  refine acalls_done (R' := Hq (fun d m' n' => d = I (manyT (.mk kind pkg major mod name names subs)) ∧ ∀ j, j < n → m' j = m j) tg) ?_ ?_
  ·have fr : ∀ o j, j < n → (m.set n o) j = m j := fun o j hj => by rw [set_ne _ _ _ _ (by omega)]
   have hL2 : (tysD subs).length = subs.length := by rw [tysD_eq]; simp
   have hG2 : ∀ i (h : i < subs.length), (tysD subs)[i]? = some (tyD subs[i]) := fun i h => by rw [tysD_eq]; simp [h]
   simp only [tyD, sl1, manyT]
   generalize (names.map fun s => [S s]) = NL
   generalize tysD subs = SL at hL2 hG2
   refine acalls_vc [0, 1, 2, 3, 4, 9] Tryz.func222 Tryz.ntmps222 (by kernel_rfl) rfl rfl (by simp) ?_
   simp -dsimp [I]
   refine vloop_of (β := Nat) (ManyInv n (m.set n (tyO kind pkg major mod name NL SL)) (n + 1) subs manyTs 1) (fun i => subs.length - i) 0 ⟨by simp, by simp [I, manyTs], by simp [I], by omega, rfl, rfl⟩ ?_
   rintro i σ m2 n2 ⟨h1, h3, h4, le, rfl, rfl⟩
   by_cases hi : (i : Int) < subs.length
   ·have hi' : i < subs.length := by omega
    have wi : IntKind.i64.wrap ((i : Int) + 1) = (i : Int) + 1 := wrap_i64 (by omega) (by omega)
    have hiN : i < SL.length := by omega
    have hgi : SL[i] = tyD subs[i] := get_opt (hG2 i hi') hiN
    have hp := manyTs_pre subs hi'
    have hsn := manyTs_snoc (subs.take i) subs[i]
    rw [← take_snoc hi'] at hsn
    generalize manyTs (subs.take i) = q at hp hsn h3
    have ws : IntKind.i64.wrap ((1 : Int) + q + manyT subs[i]) = (1 : Int) + q + manyT subs[i] := wrap_i64 (by omega) (by omega)
    simp -dsimp [h1, h3, h4, I, hL2, hi, hi', hiN, hgi, tyO]
    refine aCall_of (ih subs[i] (List.getElem_mem hi') _ _ (by omega)) ?_
    rintro d m' n' ⟨rfl, rfl, rfl⟩
    simp -dsimp [h1, h3, h4, I, wi, ws]
    exact ⟨i + 1, by omega, by simp, by simp [I, hsn]; omega, by simp [I], by omega, rfl, rfl⟩
   ·have : subs.take i = subs := List.take_of_length_le (by omega)
    rw [this] at h3
    simp -dsimp [h1, h3, h4, I, hL2, hi, tyO]
    exact hq ⟨by simp [I], fr _⟩
  ·rintro d m' n' ⟨rfl, h⟩
   exact ⟨_, (pur_I _).pub, h, rfl⟩
set_option maxHeartbeats 1000000 in
theorem cDeep {t : Ty} (ht : TyW t) : ∀ (m : Mem) (n : Nat), manyT t ≤ 1000000 → ACalls Tryz.prog 223 [.agg (tyD t)] m n (fun d m' n' => d = I (deepT t) ∧ m' = m ∧ n' = n) := by
 induction ht with
 | mk kind pkg major mod name names subs l1 l2 l3 l4 l5 l6 l7 ih =>
  intro m n hbig
  simp only [manyT] at hbig
  refine acalls_done (R' := Hq (fun d m' n' => d = I (deepT (.mk kind pkg major mod name names subs)) ∧ ∀ j, j < n → m' j = m j) tg) ?_ ?_
  ·have fr : ∀ o j, j < n → (m.set n o) j = m j := fun o j hj => by rw [set_ne _ _ _ _ (by omega)]
   have hL2 : (tysD subs).length = subs.length := by rw [tysD_eq]; simp
   have hG2 : ∀ i (h : i < subs.length), (tysD subs)[i]? = some (tyD subs[i]) := fun i h => by rw [tysD_eq]; simp [h]
   have hdm := deeps_manys subs
   simp only [tyD, sl1, deepT]
   generalize (names.map fun s => [S s]) = NL
   generalize tysD subs = SL at hL2 hG2
   refine acalls_vc [0, 1, 2, 3, 4, 5, 10, 21] Tryz.func223 Tryz.ntmps223 (by kernel_rfl) rfl rfl (by simp) ?_
   simp -dsimp [I]
   refine vloop_of (β := Nat) (ManyInv n (m.set n (tyO kind pkg major mod name NL SL)) (n + 1) subs deepTs 0) (fun i => subs.length - i) 0 ⟨by simp, by simp [I, deepTs], by simp [I], by omega, rfl, rfl⟩ ?_
   rintro i σ m2 n2 ⟨h1, h3, h4, le, rfl, rfl⟩
   by_cases hi : (i : Int) < subs.length
   ·have hi' : i < subs.length := by omega
    have wi : IntKind.i64.wrap ((i : Int) + 1) = (i : Int) + 1 := wrap_i64 (by omega) (by omega)
    have hiN : i < SL.length := by omega
    have hgi : SL[i] = tyD subs[i] := get_opt (hG2 i hi') hiN
    have hp := manyTs_pre subs hi'
    have hsn := deepTs_snoc (subs.take i) subs[i]
    rw [← take_snoc hi'] at hsn
    generalize deepTs (subs.take i) = q at hsn h3
    simp -dsimp [h1, h3, h4, I, hL2, hi, hi', hiN, hgi, tyO]
    refine aCall_of (ih subs[i] (List.getElem_mem hi') _ _ (by omega)) ?_
    rintro d m' n' ⟨rfl, rfl, rfl⟩
    by_cases c : (q : Int) < deepT subs[i]
    ·have c' : q < deepT subs[i] := by omega
     simp -dsimp [h1, h3, h4, I, wi, c, c']
     exact ⟨i + 1, by omega, by simp, by simp [I, hsn]; omega, by simp [I], by omega, rfl, rfl⟩
    ·have c' : ¬ q < deepT subs[i] := by omega
     simp -dsimp [h1, h3, h4, I, wi, c, c']
     exact ⟨i + 1, by omega, by simp, by simp [I, hsn]; omega, by simp [I], by omega, rfl, rfl⟩
   ·have : subs.take i = subs := List.take_of_length_le (by omega)
    rw [this] at h3
    have ws : IntKind.i64.wrap ((deepTs subs : Int) + 1) = (deepTs subs : Int) + 1 := wrap_i64 (by omega) (by omega)
    simp -dsimp [h1, h3, h4, I, hL2, hi, tyO, ws]
    exact hq ⟨by simp [I], fr _⟩
  ·rintro d m' n' ⟨rfl, h⟩
   exact ⟨_, (pur_I _).pub, h, rfl⟩
end Go.Proofs.Mv.App
open Go Go.Proofs Go.Proofs.Mv.V
set_option maxRecDepth 10000
namespace Go.Proofs.Mv.App
variable [GI]
def tmO (kind num : Int) (mod name : List UInt8) (NL VL YL SL : List (List D)) : V.Obj := ⟨8, [[I kind, I num, S mod, S name, .sl 1 NL, .sl 1 VL, .sl 7 YL, .sl 8 SL]], 0⟩
end Go.Proofs.Mv.App
open Go Go.Proofs Go.Proofs.Mv.V
namespace Go.Proofs.Mv.App
def findI {α : Type} (q : α → Bool) : List α → Int
 | [] => -1
 | x :: l => if q x then 0 else if findI q l < 0 then -1 else findI q l + 1
theorem findI_le {α : Type} (q : α → Bool) : ∀ l : List α, -1 ≤ findI q l
 | [] => by simp [findI]
 | x :: l => by
  have := findI_le q l
  simp only [findI]; split
  ·omega
  ·split <;> omega
theorem findI_no {α : Type} {q : α → Bool} : ∀ {l : List α}, (∀ x ∈ l, q x = false) → findI q l = -1
 | [], _ => rfl
 | x :: l, h => by
  have h1 := h x (by simp)
  have h2 := findI_no (l := l) fun y hy => h y (by simp [hy])
  simp [findI, h1, h2]
theorem findI_hit {α : Type} {q : α → Bool} : ∀ {l : List α} {i : Nat} (hi : i < l.length), q l[i] = true → (∀ x ∈ l.take i, q x = false) → findI q l = i
 | x :: l, 0, _, h, _ => by simp at h; simp [findI, h]
 | x :: l, i + 1, hi, h, hn => by
  have h1 := hn x (by simp)
  have h2 := findI_hit (l := l) (i := i) (by simpa using hi) (by simpa using h) fun y hy => hn y (by simp [hy])
  have h3 : ¬ ((i : Int) < 0) := by omega
  simp [findI, h1, h2, h3]
theorem findI_any {α : Type} (q : α → Bool) : ∀ l : List α, 0 ≤ findI q l ↔ l.any q = true
 | [] => by simp [findI]
 | x :: l => by
  have ih := findI_any q l
  have hle := findI_le q l
  simp only [findI, List.any_cons, Bool.or_eq_true]
  by_cases e : q x = true
  ·simp [e]
  ·rw [if_neg e]
   have h0 : q x = true ↔ False := ⟨e, False.elim⟩
   rw [h0, false_or, ← ih]
   by_cases h : findI q l < 0
   ·rw [if_pos h]; omega
   ·rw [if_neg h]; omega
end Go.Proofs.Mv.App
open Go Go.Proofs Go.Proofs.Mv.V
set_option maxRecDepth 10000
namespace Go.Proofs.Mv.App
variable [GI]
end Go.Proofs.Mv.App
open Go Go.Proofs Go.Proofs.Mv.V
set_option maxRecDepth 10000
namespace Go.Proofs.Mv.App
variable [GI]
end Go.Proofs.Mv.App
open Go Go.Proofs Go.Proofs.Mv.V
set_option maxRecDepth 10000
namespace Go.Proofs.Mv.App
mutual
def fewTm : Tm → Int → Int
 | .mk _ _ _ _ names vars types subs, most => if most - 1 < 0 ∨ 100 < names.length ∨ 100 < vars.length ∨ 100 < types.length then -1 else if types.all few3 = true then fewTms subs (most - 1) else -1
def fewTms : List Tm → Int → Int
 | [], m => m
 | t :: ts, m => if 0 ≤ m then fewTms ts (fewTm t m) else m
end
theorem fewTms_neg : ∀ (l : List Tm) (m : Int), m < 0 → fewTms l m = m
 | [], m, _ => by simp [fewTms]
 | t :: ts, m, h => by simp only [fewTms]; rw [if_neg (by omega)]
mutual
theorem fewTm_le : ∀ (t : Tm) (m : Int), -1 ≤ m → -1 ≤ fewTm t m ∧ fewTm t m ≤ m
 | .mk _ _ _ _ names vars types subs, m, h => by
  simp only [fewTm]
  split
  ·omega
  ·split
   ·have := fewTms_le subs (m - 1) (by omega); omega
   ·omega
theorem fewTms_le : ∀ (l : List Tm) (m : Int), -1 ≤ m → -1 ≤ fewTms l m ∧ fewTms l m ≤ m
 | [], m, h => by simp only [fewTms]; omega
 | t :: ts, m, h => by
  simp only [fewTms]
  split
  ·have h1 := fewTm_le t m h
   have h2 := fewTms_le ts (fewTm t m) h1.1
   omega
  ·omega
end
theorem fewTms_snoc : ∀ (l : List Tm) (t : Tm) (m : Int), fewTms (l ++ [t]) m = if 0 ≤ fewTms l m then fewTm t (fewTms l m) else fewTms l m
 | [], t, m => by by_cases h : 0 ≤ m <;> simp [fewTms, h]
 | x :: l, t, m => by
  by_cases h : 0 ≤ m
  ·simp only [List.cons_append, fewTms, if_pos h]; exact fewTms_snoc l t _
  ·simp only [List.cons_append, fewTms, if_neg h]
theorem fewTms_stop : ∀ (l r : List Tm) (m : Int), fewTms l m < 0 → fewTms (l ++ r) m = fewTms l m
 | [], r, m, h => by simp only [fewTms] at h; simp only [List.nil_append, fewTms]; exact fewTms_neg r m h
 | x :: l, r, m, h => by
  simp only [List.cons_append, fewTms] at h ⊢
  by_cases h0 : 0 ≤ m
  ·rw [if_pos h0] at h; rw [if_pos h0, if_pos h0]; exact fewTms_stop l r _ h
  ·rw [if_neg h0, if_neg h0]
variable [GI]
set_option maxHeartbeats 2000000 in
theorem cRFewTm {t : Tm} (ht : TmW t) : ∀ (most : Int), -1 ≤ most → most ≤ 100000 → Pc Tryz.prog 69 [.agg (tmD t), I most] (I (fewTm t most)) := by
 induction ht with
 | mk kind num mod name names vars types subs l1 l2 l3 l4 l5 l6 l7 l8 l9 l10 ih =>
  intro most hm0 hm1
  refine pc_of (pur_I _) (fun m n => ?_)
  have hL1 : (names.map fun s => [S s]).length = names.length := by simp
  have hL2 : (vars.map fun s => [S s]).length = vars.length := by simp
  have hL3 : (types.map tyD).length = types.length := by simp
  have hG3 : ∀ i (h : i < types.length), (types.map tyD)[i]? = some (tyD types[i]) := fun i h => by simp [h]
  have hL4 : (subs.map tmD).length = subs.length := by simp
  have hG4 : ∀ i (h : i < subs.length), (subs.map tmD)[i]? = some (tmD subs[i]) := fun i h => by simp [h]
  have wm : IntKind.i64.wrap (most - 1) = most - 1 := wrap_i64 (by omega) (by omega)
  have fr : ∀ o j, j < n → (m.set n o) j = m j := fun o j hj => by rw [set_ne _ _ _ _ (by omega)]
  simp only [tmD, sl1, tmsD_eq, fewTm]
  generalize (names.map fun s => [S s]) = NL at hL1
  generalize (vars.map fun s => [S s]) = VL at hL2
  generalize types.map tyD = YL at hL3 hG3
  generalize subs.map tmD = SL at hL4 hG4
  refine acalls_vc [0, 1, 2, 4, 5, 6, 7, 29, 34, 44, 53] Tryz.func69 Tryz.ntmps69 (by kernel_rfl) rfl rfl (by simp) ?_
  by_cases c1 : most - 1 < 0
  ·rw [if_pos (.inl c1)]
   simp -dsimp [I, wm, c1]
   exact pcq rfl (fr _)
  by_cases c2 : (100 : Int) < names.length
  ·rw [if_pos (.inr (.inl (by omega)))]
   simp -dsimp [I, wm, c1, c2, hL1]
   exact pcq rfl (fr _)
  by_cases c3 : (100 : Int) < vars.length
  ·rw [if_pos (.inr (.inr (.inl (by omega))))]
   simp -dsimp [I, wm, c1, c2, c3, hL1, hL2]
   exact pcq rfl (fr _)
  by_cases c4 : (100 : Int) < types.length
  ·rw [if_pos (.inr (.inr (.inr (by omega))))]
   simp -dsimp [I, wm, c1, c2, c3, c4, hL1, hL2, hL3]
   exact pcq rfl (fr _)
  rw [if_neg (by omega)]
  simp -dsimp [I, wm, c1, c2, c3, c4, hL1, hL2, hL3]
  refine vloop_as (β := Nat) (fun i => [(2, .ptr n 0 0 0), (1, I (most - 1)), (5, I i)]) (fun i m2 n2 => m2 = m.set n (tmO kind num mod name NL VL YL SL) ∧ n2 = n + 1 ∧ i ≤ types.length ∧ (types.take i).all few3 = true) (fun i => types.length - i) 0 (by simp [I]) ⟨rfl, rfl, by omega, by simp⟩ ?_
  rintro i m2 n2 ⟨rfl, rfl, le, hall⟩
  by_cases hi : (i : Int) < types.length
  ·have hi' : i < types.length := by omega
   have wi : IntKind.i64.wrap ((i : Int) + 1) = (i : Int) + 1 := wrap_i64 (by omega) (by omega)
   have hiN : i < YL.length := by omega
   have hgi : YL[i] = tyD types[i] := get_opt (hG3 i hi') hiN
   have hc : Pc Tryz.prog 11 [.agg (tyD types[i])] (Tt (few3 types[i])) := fun m n => cFewT (l9 _ (List.getElem_mem hi')) m n
   simp -dsimp [I, Tt, hi, hi', hL3, hiN, hgi, tmO]
   refine pcall hc ?_
   cases hv : few3 types[i]
   ·simp -dsimp [I, Tt]
    refine pcq ?_ (fr _)
    rw [if_neg]
    intro h
    have := h _ (List.getElem_mem hi')
    rw [hv] at this; cases this
   ·simp -dsimp [I, Tt, wi]
    refine rnd (i + 1) (by omega) (by simp [I]) ⟨rfl, rfl, by omega, ?_⟩
    rw [take_snoc hi', List.all_append, hall]
    simp [hv]
  ·have : types.take i = types := List.take_of_length_le (by omega)
   rw [this] at hall
   rw [if_pos hall]
   simp -dsimp [I, Tt, hi, hL3, tmO]
   refine vloop_as (β := Nat) (fun i => [(2, .ptr n 0 0 0), (1, I (fewTms (subs.take i) (most - 1))), (7, I i)]) (fun i m2 n2 => m2 = m.set n (tmO kind num mod name NL VL YL SL) ∧ n2 = n + 1 ∧ i ≤ subs.length) (fun i => subs.length - i) 0 (by simp [I, fewTms]) ⟨rfl, rfl, by omega⟩ ?_
   rintro i m2 n2 ⟨rfl, rfl, le⟩
   have hb := fewTms_le (subs.take i) (most - 1) (by omega)
   by_cases hi : (i : Int) < subs.length
   ·have hi' : i < subs.length := by omega
    have wi : IntKind.i64.wrap ((i : Int) + 1) = (i : Int) + 1 := wrap_i64 (by omega) (by omega)
    have hiN : i < SL.length := by omega
    have hgi : SL[i] = tmD subs[i] := get_opt (hG4 i hi') hiN
    have hsn := fewTms_snoc (subs.take i) subs[i] (most - 1)
    rw [← take_snoc hi'] at hsn
    have hst := fewTms_stop (subs.take i) (subs.drop i) (most - 1)
    rw [List.take_append_drop] at hst
    generalize fewTms (subs.take i) (most - 1) = q at hb hsn hst
    by_cases c5 : 0 ≤ q
    ·rw [if_pos c5] at hsn
     simp -dsimp [I, Tt, hi, hi', c5, hL4, hiN, hgi, tmO]
     refine pcall (ih subs[i] (List.getElem_mem hi') q (by omega) (by omega)) ?_
     simp -dsimp [I, Tt, wi]
     exact rnd (i + 1) (by omega) (by simp [I, hsn]) ⟨rfl, rfl, by omega⟩
    ·simp -dsimp [I, Tt, hi, hi', c5, hL4, tmO]
     exact pcq (by rw [hst (by omega)]) (fr _)
   ·have : subs.take i = subs := List.take_of_length_le (by omega)
    rw [this]
    simp -dsimp [I, Tt, hi, hL4, tmO]
    exact pcq rfl (fr _)
def fewTm3 (t : Tm) : Bool := decide (0 ≤ fewTm t 2000)
theorem cRFewT {t : Tm} (ht : TmW t) : Pc Tryz.prog 30 [.agg (tmD t)] (Tt (fewTm3 t)) := by
 refine pc_of (pur_T _) (fun m n => ?_)
 have hc := cRFewTm ht 2000 (by omega) (by omega)
 have hz : (tmD t).length = 8 := by simp
 unfold fewTm3
 generalize tmD t = XX at hc hz
 have htz : List.take 8 XX = XX := List.take_of_length_le (by omega)
 refine acalls_vc [0, 1, 2] Tryz.func30 Tryz.ntmps30 (by kernel_rfl) rfl rfl (by simp) ?_
 simp -dsimp [hz, htz]
 refine pcall hc ?_
 by_cases h : 0 ≤ fewTm t 2000
 ·simp -dsimp [I, Tt, h]
  exact pcq rfl (fun j hj => by rw [set_ne _ _ _ _ (by omega)])
 ·simp -dsimp [I, Tt, h]
  exact pcq rfl (fun j hj => by rw [set_ne _ _ _ _ (by omega)])
end Go.Proofs.Mv.App
