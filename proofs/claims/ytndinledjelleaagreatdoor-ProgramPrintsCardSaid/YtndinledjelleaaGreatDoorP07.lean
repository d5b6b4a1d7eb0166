/- A part of the proofs: machine, contracts, laws. No condition of its own. -/
import Derived.Test.YtndinledjelleaaGreatDoorP06
import Derived.Test.YtndinledjelleaaGreatDoorMvPc
set_option linter.unusedSimpArgs false
set_option linter.unusedVariables false
set_option linter.unusedSectionVars false
open Go Go.Proofs Go.Proofs.Mv.V
set_option maxRecDepth 10000
namespace Go.Proofs.Mv.App
variable [GI]
end Go.Proofs.Mv.App
open Go Go.Proofs Go.Proofs.Mv.V
set_option maxRecDepth 10000
namespace Go.Proofs.Mv.App
variable [GI]
end Go.Proofs.Mv.App
open Go Go.Proofs Go.Proofs.Mv.V
set_option maxRecDepth 10000
namespace Go.Proofs.Mv.App
mutual
def sameTm : Tm → Tm → Bool
 | .mk k u m n ns vs ts ss, .mk k' u' m' n' ns' vs' ts' ss' => decide (k = k') && decide (u = u') && decide (m = m') && decide (n = n') && decide (ns = ns') && decide (vs = vs') && decide (ts = ts') && sameTms ss ss'
def sameTms : List Tm → List Tm → Bool
 | [], [] => true
 | a :: l, b :: r => sameTm a b && sameTms l r
 | [], _ :: _ => false
 | _ :: _, [] => false
end
mutual
theorem sameTm_iff : ∀ a b : Tm, sameTm a b = true ↔ a = b
 | .mk k u m n ns vs ts ss, .mk k' u' m' n' ns' vs' ts' ss' => by
  simp only [sameTm, Bool.and_eq_true, decide_eq_true_eq, sameTms_iff ss ss', Tm.mk.injEq, and_assoc]
theorem sameTms_iff : ∀ a b : List Tm, sameTms a b = true ↔ a = b
 | [], [] => by simp [sameTms]
 | a :: l, b :: r => by simp only [sameTms, Bool.and_eq_true, sameTm_iff a b, sameTms_iff l r, List.cons.injEq]
 | [], _ :: _ => by simp [sameTms]
 | _ :: _, [] => by simp [sameTms]
end
instance : DecidableEq Tm := fun a b => decidable_of_iff (sameTm a b = true) (sameTm_iff a b)
variable [GI]
end Go.Proofs.Mv.App
open Go Go.Proofs Go.Proofs.Mv.V
set_option maxRecDepth 10000
namespace Go.Proofs.Mv.App
mutual
def deepTm : Tm → Nat
 | .mk _ _ _ _ _ _ _ subs => deepTms subs + 1
def deepTms : List Tm → Nat
 | [] => 0
 | t :: ts => max (deepTm t) (deepTms ts)
end
theorem manyTms_append : ∀ (l r : List Tm), manyTms (l ++ r) = manyTms l + manyTms r
 | [], r => by simp [manyTms]
 | t :: ts, r => by simp only [List.cons_append, manyTms, manyTms_append ts r]; omega
theorem manyTms_snoc (l : List Tm) (x : Tm) : manyTms (l ++ [x]) = manyTms l + manyTm x := by rw [manyTms_append]; simp [manyTms]
theorem manyTms_take (l : List Tm) (i : Nat) : manyTms (l.take i) ≤ manyTms l := by
 have := manyTms_append (l.take i) (l.drop i); rw [List.take_append_drop] at this; omega
theorem manyTms_pre (l : List Tm) {i : Nat} (h : i < l.length) : manyTms (l.take i) + manyTm l[i] ≤ manyTms l := by
 rw [← manyTms_snoc, ← take_snoc h]; exact manyTms_take l (i + 1)
theorem deepTms_append : ∀ (l r : List Tm), deepTms (l ++ r) = max (deepTms l) (deepTms r)
 | [], r => by simp [deepTms]
 | t :: ts, r => by simp only [List.cons_append, deepTms, deepTms_append ts r]; omega
theorem deepTms_snoc (l : List Tm) (x : Tm) : deepTms (l ++ [x]) = max (deepTms l) (deepTm x) := by rw [deepTms_append]; simp [deepTms]
mutual
theorem deep_manyTm : ∀ t : Tm, deepTm t ≤ manyTm t
 | .mk _ _ _ _ _ _ _ subs => by simp only [deepTm, manyTm]; have := deeps_manyTms subs; omega
theorem deeps_manyTms : ∀ l : List Tm, deepTms l ≤ manyTms l
 | [] => by simp [deepTms]
 | t :: ts => by simp only [deepTms, manyTms]; have := deep_manyTm t; have := deeps_manyTms ts; omega
end
variable [GI]
set_option maxHeartbeats 1000000 in
theorem cRManyTm {t : Tm} (ht : TmW t) : manyTm t ≤ 1000000 → Pc Tryz.prog 102 [.agg (tmD t)] (I (manyTm t)) := by
 induction ht with
 | mk kind num mod name names vars types subs l1 l2 l3 l4 l5 l6 l7 l8 l9 l10 ih =>
  intro hbig
  simp only [manyTm] at hbig
  refine pc_of (pur_I _) (fun m n => ?_)
  have fr : ∀ o j, j < n → (m.set n o) j = m j := fun o j hj => by rw [set_ne _ _ _ _ (by omega)]
  have hL4 : (subs.map tmD).length = subs.length := by simp
  have hG4 : ∀ i (h : i < subs.length), (subs.map tmD)[i]? = some (tmD subs[i]) := fun i h => by simp [h]
  simp only [tmD, sl1, tmsD_eq, manyTm]
  generalize (names.map fun s => [S s]) = NL
  generalize (vars.map fun s => [S s]) = VL
  generalize types.map tyD = YL
  generalize subs.map tmD = SL at hL4 hG4
  refine acalls_vc [0, 1, 2, 3, 4, 9] Tryz.func102 Tryz.ntmps102 (by kernel_rfl) rfl rfl (by simp) ?_
  simp -dsimp [I]
  refine vloop_as (β := Nat) (fun i => [(1, .ptr n 0 0 0), (3, I (1 + manyTms (subs.take i))), (4, I i)]) (fun i m2 n2 => m2 = m.set n (tmO kind num mod name NL VL YL SL) ∧ n2 = n + 1 ∧ i ≤ subs.length) (fun i => subs.length - i) 0 (by simp [I, manyTms]) ⟨rfl, rfl, by omega⟩ ?_
  rintro i m2 n2 ⟨rfl, rfl, le⟩
  by_cases hi : (i : Int) < subs.length
  ·have hi' : i < subs.length := by omega
   have wi : IntKind.i64.wrap ((i : Int) + 1) = (i : Int) + 1 := wrap_i64 (by omega) (by omega)
   have hiN : i < SL.length := by omega
   have hgi : SL[i] = tmD subs[i] := get_opt (hG4 i hi') hiN
   have hp := manyTms_pre subs hi'
   have hsn := manyTms_snoc (subs.take i) subs[i]
   rw [← take_snoc hi'] at hsn
   generalize manyTms (subs.take i) = q at hp hsn
   have ws : IntKind.i64.wrap ((1 : Int) + q + manyTm subs[i]) = (1 : Int) + q + manyTm subs[i] := wrap_i64 (by omega) (by omega)
   simp -dsimp [I, hL4, hi, hi', hiN, hgi, tmO]
   refine pcall (ih subs[i] (List.getElem_mem hi') (by omega)) ?_
   simp -dsimp [I, wi, ws]
   exact rnd (i + 1) (by omega) (by simp [I, hsn]; omega) ⟨rfl, rfl, by omega⟩
  ·have : subs.take i = subs := List.take_of_length_le (by omega)
   rw [this]
   simp -dsimp [I, hL4, hi, tmO]
   exact pcq (by simp [I]) (fr _)
set_option maxHeartbeats 1000000 in
theorem cRDeepTm {t : Tm} (ht : TmW t) : manyTm t ≤ 1000000 → Pc Tryz.prog 103 [.agg (tmD t)] (I (deepTm t)) := by
 induction ht with
 | mk kind num mod name names vars types subs l1 l2 l3 l4 l5 l6 l7 l8 l9 l10 ih =>
  intro hbig
  simp only [manyTm] at hbig
  refine pc_of (pur_I _) (fun m n => ?_)
  have fr : ∀ o j, j < n → (m.set n o) j = m j := fun o j hj => by rw [set_ne _ _ _ _ (by omega)]
  have hL4 : (subs.map tmD).length = subs.length := by simp
  have hG4 : ∀ i (h : i < subs.length), (subs.map tmD)[i]? = some (tmD subs[i]) := fun i h => by simp [h]
  have hdm := deeps_manyTms subs
  simp only [tmD, sl1, tmsD_eq, deepTm]
  generalize (names.map fun s => [S s]) = NL
  generalize (vars.map fun s => [S s]) = VL
  generalize types.map tyD = YL
  generalize subs.map tmD = SL at hL4 hG4
  refine acalls_vc [0, 1, 2, 3, 4, 5, 10, 21] Tryz.func103 Tryz.ntmps103 (by kernel_rfl) rfl rfl (by simp) ?_
  simp -dsimp [I]
  refine vloop_as (β := Nat) (fun i => [(1, .ptr n 0 0 0), (3, I (deepTms (subs.take i))), (4, I i)]) (fun i m2 n2 => m2 = m.set n (tmO kind num mod name NL VL YL SL) ∧ n2 = n + 1 ∧ i ≤ subs.length) (fun i => subs.length - i) 0 (by simp [I, deepTms]) ⟨rfl, rfl, by omega⟩ ?_
  rintro i m2 n2 ⟨rfl, rfl, le⟩
  by_cases hi : (i : Int) < subs.length
  ·have hi' : i < subs.length := by omega
   have wi : IntKind.i64.wrap ((i : Int) + 1) = (i : Int) + 1 := wrap_i64 (by omega) (by omega)
   have hiN : i < SL.length := by omega
   have hgi : SL[i] = tmD subs[i] := get_opt (hG4 i hi') hiN
   have hp := manyTms_pre subs hi'
   have hsn := deepTms_snoc (subs.take i) subs[i]
   rw [← take_snoc hi'] at hsn
   generalize deepTms (subs.take i) = q at hsn
   simp -dsimp [I, hL4, hi, hi', hiN, hgi, tmO]
   refine pcall (ih subs[i] (List.getElem_mem hi') (by omega)) ?_
   by_cases c : (q : Int) < deepTm subs[i]
   ·have c' : q < deepTm subs[i] := by omega
    simp -dsimp [I, wi, c, c']
    exact rnd (i + 1) (by omega) (by simp [I, hsn]; omega) ⟨rfl, rfl, by omega⟩
   ·have c' : ¬ q < deepTm subs[i] := by omega
    simp -dsimp [I, wi, c, c']
    exact rnd (i + 1) (by omega) (by simp [I, hsn]; omega) ⟨rfl, rfl, by omega⟩
  ·have : subs.take i = subs := List.take_of_length_le (by omega)
   rw [this]
   have ws : IntKind.i64.wrap ((deepTms subs : Int) + 1) = (deepTms subs : Int) + 1 := wrap_i64 (by omega) (by omega)
   simp -dsimp [I, hL4, hi, tmO, ws]
   exact pcq (by simp [I]) (fr _)
end Go.Proofs.Mv.App
open Go Go.Proofs Go.Proofs.Mv.V
namespace Go.Proofs.Mv.App
def cntT (t : Ty) (depth most : Int) : Int := if allT t = true ∧ (deepT t : Int) ≤ depth ∧ (manyT t : Int) ≤ most then manyT t else 0
theorem cntT_pos {t : Ty} {d q : Int} : 0 < cntT t d q ↔ (allT t = true ∧ (deepT t : Int) ≤ d ∧ (manyT t : Int) ≤ q) := by
 unfold cntT
 have := manyT_pos t
 split
 ·rename_i h; simp only [h, and_self, iff_true]; omega
 ·rename_i h; simp only [h, iff_false]; omega
theorem cntT_eq {t : Ty} {d q : Int} (h : cntT t d q ≠ 0) : cntT t d q = manyT t ∧ allT t = true ∧ (deepT t : Int) ≤ d ∧ (manyT t : Int) ≤ q := by
 unfold cntT at h ⊢
 split
 ·rename_i e; exact ⟨rfl, e⟩
 ·rename_i e; rw [if_neg e] at h; exact absurd rfl h
theorem mayT_cnt (t : Ty) : mayT t = decide (0 < cntT t 32 500) := by
 rw [Bool.eq_iff_iff, decide_eq_true_eq, cntT_pos]
 simp only [mayT, Bool.and_eq_true, decide_eq_true_eq]
 constructor
 ·rintro ⟨⟨h1, h2⟩, h3⟩; exact ⟨h1, by omega, by omega⟩
 ·rintro ⟨h1, h2, h3⟩; exact ⟨⟨h1, by omega⟩, by omega⟩
theorem cntT_le (t : Ty) (d q : Int) : 0 ≤ cntT t d q ∧ (0 ≤ q → cntT t d q ≤ q) := by
 unfold cntT
 split <;> omega
theorem allTs_append : ∀ l r : List Ty, allTs (l ++ r) = (allTs l && allTs r)
 | [], r => by simp [allTs]
 | t :: ts, r => by simp [allTs, allTs_append ts r, Bool.and_assoc]
theorem allTs_take {l : List Ty} (h : allTs l = true) (i : Nat) : allTs (l.take i) = true := by
 have := allTs_append (l.take i) (l.drop i)
 rw [List.take_append_drop, h] at this
 have h2 := this.symm
 simp only [Bool.and_eq_true] at h2
 exact h2.1
theorem allTs_mem {l : List Ty} (h : allTs l = true) : ∀ t ∈ l, allT t = true := by
 rw [allTs_eq] at h; exact List.all_eq_true.1 h
structure CntOk (subs : List Ty) (depth most : Int) (i : Nat) : Prop where
 al : allTs (subs.take i) = true
 dp : (deepTs (subs.take i) : Int) ≤ depth - 1
 mn : (1 : Int) + manyTs (subs.take i) ≤ most
theorem CntOk.zero {subs : List Ty} {depth most : Int} (h1 : 1 ≤ depth) (h2 : 1 ≤ most) : CntOk subs depth most 0 :=
 ⟨by simp [allTs], by simp [deepTs]; omega, by simp [manyTs]; omega⟩
theorem CntOk.step {subs : List Ty} {depth most : Int} {i : Nat} (h : CntOk subs depth most i) (hi : i < subs.length) (hk : cntT subs[i] (depth - 1) (most - (1 + manyTs (subs.take i))) ≠ 0) : CntOk subs depth most (i + 1) := by
 obtain ⟨_, h1, h2, h3⟩ := cntT_eq hk
 refine ⟨?_, ?_, ?_⟩
 ·rw [take_snoc hi, allTs_append, h.al]; simp [allTs, h1]
 ·rw [take_snoc hi, deepTs_snoc]; have := h.dp; omega
 ·rw [take_snoc hi, manyTs_snoc]; omega
theorem CntOk.stop {kind : Int} {pkg : List UInt8} {major : Int} {mod name : List UInt8} {names : List (List UInt8)} {subs : List Ty} {depth most : Int} {i : Nat} (hi : i < subs.length)
  (hk : cntT subs[i] (depth - 1) (most - (1 + manyTs (subs.take i))) = 0) : cntT (.mk kind pkg major mod name names subs) depth most = 0 := by
 unfold cntT
 rw [if_neg]
 rintro ⟨h1, h2, h3⟩
 simp only [allT, Bool.and_eq_true, deepT, manyT] at h1 h2 h3
 have hp : 0 < cntT subs[i] (depth - 1) (most - (1 + manyTs (subs.take i))) := by
  refine cntT_pos.2 ⟨allTs_mem h1.2 _ (List.getElem_mem hi), ?_, ?_⟩
  ·have := deepTs_mem (List.getElem_mem hi); omega
  ·have := manyTs_snoc (subs.take i) subs[i]
   rw [← take_snoc hi] at this
   have := manyTs_take subs (i + 1)
   omega
 omega
theorem CntOk.all {kind : Int} {pkg : List UInt8} {major : Int} {mod name : List UInt8} {names : List (List UInt8)} {subs : List Ty} {depth most : Int} {i : Nat} (hs : shapeT (.mk kind pkg major mod name names subs) = true) (h : CntOk subs depth most i) (hi : subs.length ≤ i) :
  cntT (.mk kind pkg major mod name names subs) depth most = 1 + manyTs subs := by
 obtain ⟨h1, h2, h3⟩ := h
 rw [List.take_of_length_le hi] at h1 h2 h3
 unfold cntT
 rw [if_pos]
 ·simp only [manyT]; omega
 ·simp only [allT, hs, h1, deepT, manyT]
  refine ⟨rfl, by omega, by omega⟩
theorem cntT_no {t : Ty} {depth most : Int} (h : depth < 1 ∨ most < 1 ∨ shapeT t = false) : cntT t depth most = 0 := by
 unfold cntT
 rw [if_neg]
 rintro ⟨h1, h2, h3⟩
 have h4 := manyT_pos t
 have h5 : 1 ≤ deepT t := by rw [deepT_eq]; omega
 rcases h with h | h | h
 ·omega
 ·omega
 ·rw [allT_eq, h] at h1; cases h1
/-! texts one behind the other -/
theorem joinB_snoc (sep s : List UInt8) : ∀ (l : List (List UInt8)), joinB sep (l ++ [s]) = if l = [] then s else joinB sep l ++ sep ++ s
 | [] => by simp [joinB]
 | [a] => by simp [joinB]
 | a :: b :: r => by
  have := joinB_snoc sep s (b :: r)
  rw [if_neg (by simp)] at this ⊢
  rw [show a :: b :: r ++ [s] = a :: ((b :: r) ++ [s]) from rfl, joinB_cons (s := a) (r := (b :: r) ++ [s]) (by simp), this, joinB_cons (s := a) (r := b :: r) (by simp)]
  simp only [List.append_assoc]
theorem joinB_sub (sep : List UInt8) : ∀ (l : List (List UInt8)) (i : Nat), (joinB sep (l.take i)).length ≤ (l.map fun s => s.length + sep.length).sum := by
 intro l i
 have h1 := joinB_len sep (l.take i)
 have h2 : ((l.take i).map fun s => s.length + sep.length).sum ≤ (l.map fun s => s.length + sep.length).sum := by
  have : l.map (fun s => s.length + sep.length) = (l.take i).map (fun s => s.length + sep.length) ++ (l.drop i).map (fun s => s.length + sep.length) := by
   rw [← List.map_append, List.take_append_drop]
  rw [this, List.sum_append]; omega
 omega
theorem textTs_get0 (l : List Ty) (i : Nat) (h : i < l.length) : (textTs [] l)[i]? = some (textT l[i]) := by rw [textTs_nil]; simp [h]
end Go.Proofs.Mv.App
open Go Go.Proofs Go.Proofs.Mv.V
namespace Go.Proofs.Mv.App
def barePkg (k : Int) (p : List UInt8) : List UInt8 := if k = 9 then [] else p
def bareMaj (k j : Int) : Int := if k = 9 then 0 else j
def bareMod (k : Int) (p : List UInt8) : List UInt8 := if k = 8 ∨ k = 9 then [] else p
def bareOk (t : Ty) : Prop := barePkg t.kind t.pkg = [] ∧ bareMaj t.kind t.major = 0 ∧ bareMod t.kind t.mod = [] ∧ bareMod t.kind t.name = [] ∧ t.subs.length ≤ 20
def shapeB (t : Ty) : Bool :=
 if t.kind = 1 ∨ t.kind = 2 ∨ t.kind = 3 then decide (t.subs.length = 0) && decide (t.names.length = 0)
 else if t.kind = 4 then decide (t.subs.length = 1) && decide (t.names.length = 0)
 else if t.kind = 5 then decide (t.subs.length = t.names.length) && risingN false t.names
 else if t.kind = 6 then decide (1 ≤ t.subs.length) && decide (t.subs.length = t.names.length) && risingN true t.names
 else if t.kind = 7 then decide (1 ≤ t.subs.length) && decide (t.names.length = 0)
 else if t.kind = 8 then decide (t.subs.length = 0) && decide (t.names.length = 0) && greatN t.name && (decide (t.mod = []) || smallN t.mod)
 else if t.kind = 9 then decide (t.subs.length = 0) && decide (t.names.length = 0) && smallN t.pkg && smallN t.mod && greatN t.name && decide (1 ≤ t.major) && decide (t.major ≤ 999999999)
 else false
theorem shapeT_no {t : Ty} (h : ¬ bareOk t) : shapeT t = false := by
 cases hs : shapeT t
 ·rfl
 ·exfalso; apply h
  obtain ⟨hn, hs⟩ := shape_parts hs
  obtain ⟨kind, pkg, major, mod, name, names, subs⟩ := t
  simp only [shapeK, Ty.kind, Ty.pkg, Ty.major, Ty.mod, Ty.name, Ty.names, Ty.subs] at hs hn
  simp only [bareOk, barePkg, bareMaj, bareMod, Ty.kind, Ty.pkg, Ty.major, Ty.mod, Ty.name, Ty.names, Ty.subs]
  by_cases k9 : kind = 9
  ·simp [k9, hn]
  by_cases k8 : kind = 8
  ·subst k8
   simp at hs
   simp [hs, hn]
  simp only [k8, k9, or_self, if_false] at hs ⊢
  have he : emptyT (.mk kind pkg major mod name names subs) = true := by
   repeat' split at hs
   all_goals (try simp only [Bool.and_eq_true] at hs)
   all_goals first | exact hs.1.1 | exact hs.1.1.1 | cases hs
  obtain ⟨rfl, rfl, rfl, rfl⟩ := emptyT_parts he
  simp [hn]
theorem shapeT_yes {t : Ty} (h : bareOk t) : shapeT t = shapeB t := by
 obtain ⟨kind, pkg, major, mod, name, names, subs⟩ := t
 simp only [bareOk, barePkg, bareMaj, bareMod, Ty.kind, Ty.pkg, Ty.major, Ty.mod, Ty.name, Ty.names, Ty.subs] at h
 simp only [shapeT, shapeK, shapeB, emptyT, Ty.kind, Ty.pkg, Ty.major, Ty.mod, Ty.name, Ty.names, Ty.subs]
 by_cases k9 : kind = 9
 ·subst k9; simp at h ⊢; omega
 by_cases k8 : kind = 8
 ·subst k8; simp at h ⊢; simp [h]
 simp only [k8, k9, or_self, if_false] at h ⊢
 obtain ⟨rfl, rfl, rfl, rfl, hn⟩ := h
 simp [hn]
end Go.Proofs.Mv.App
