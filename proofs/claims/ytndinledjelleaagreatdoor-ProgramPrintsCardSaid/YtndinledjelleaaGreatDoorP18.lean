/- A part of the proofs: machine, contracts, laws. No condition of its own. -/
import Derived.Test.YtndinledjelleaaGreatDoorP17
import Derived.Test.YtndinledjelleaaGreatDoorP14
import Derived.Test.YtndinledjelleaaGreatDoorMvEvP
import Derived.Test.YtndinledjelleaaGreatDoorFact
set_option linter.unusedSimpArgs false
set_option linter.unusedVariables false
set_option linter.unusedSectionVars false
open Go Go.Proofs Go.Proofs.Mv.V
set_option maxRecDepth 10000
namespace Go.Proofs.Mv.App
set_option maxHeartbeats 8000000 in
theorem cRPrintTm {t : Tm} (ht : TmW t) : allTm t = true → manyTm t ≤ 500 → Pc Tryz.prog 61 [.agg (tmD t)] (S (textTm t)) := by
 induction ht with
 | mk k N mod nm names vars types subs l1 l2 l3 l4 l5 l6 l7 l8 l9 l10 ih =>
  intro ha hm
  simp only [allTm, Bool.and_eq_true] at ha
  simp only [manyTm] at hm
  obtain ⟨ko, sm⟩ := shapeTm_parts ha.1
  have hH : ∀ t ∈ subs, Pc Tryz.prog 61 [.agg (tmD t)] (S (textTm t)) := fun t h => ih t h (allTms_mem ha.2 t h) (by have := manyTms_le_mem h; omega)
  have hX : ∀ t ∈ subs, (textTm t).length ≤ 1000000000 := fun t h => textTm_small (allTms_mem ha.2 t h) (by have := manyTms_le_mem h; omega)
  have hb : smL 100 (textTms subs) ≤ 1000000000 := textTms_small ha.2 (by omega)
  have cn := ko.cn
  have q1 := sm.sm
  have q2 := sm.sn
  unfold cntK at cn
  refine pc_of (pur_S _) (fun m n => ?_)
  have fr : ∀ o j, j < n → (m.set n o) j = m j := fun o j hj => by rw [set_ne _ _ _ _ (by omega)]
  by_cases k1 : k = 1
  ·subst k1
   have e : textTm (.mk 1 N mod nm names vars types subs) = digits N.toNat := by simp [textTm, textK]
   have hc : Pc Tryz.prog 60 [I N] (S (digits N.toNat)) := fun m n => cDigitsI (ko.n1 rfl).1 (by have := (ko.n1 rfl).2; omega) m n
   rw [e]
   generalize digits N.toNat = X at hc
   simp only [tmD, sl1, tmsD_eq]
   simp only [I] at hc
   refine acalls_vc [0, 1, 2, 3, 4, 5, 6, 8, 9, 14, 18, 19, 23, 31, 37, 41, 62, 73, 85, 91, 95, 122, 135, 142, 168] Tryz.func61 Tryz.ntmps61 (by kernel_rfl) rfl rfl (by simp) ?_
   simp -dsimp [I, S]
   refine pcall hc ?_
   simp -dsimp [S]
   exact pcq rfl (fr _)
  by_cases k2 : k = 2
  ·subst k2
   simp only [tmD, sl1, tmsD_eq]
   rcases ko.n2 rfl with rfl | rfl
   ·have e : textTm (.mk 2 0 mod nm names vars types subs) = wFalse := by simp [textTm, textK]
    rw [e]
    refine acalls_vc [0, 1, 2, 3, 4, 5, 6, 8, 9, 14, 18, 19, 23, 31, 37, 41, 62, 73, 85, 91, 95, 122, 135, 142, 168] Tryz.func61 Tryz.ntmps61 (by kernel_rfl) rfl rfl (by simp) ?_
    simp -dsimp [I, S]
    exact pcq (by simp [S, wFalse]) (fr _)
   ·have e : textTm (.mk 2 1 mod nm names vars types subs) = wTrue := by simp [textTm, textK]
    rw [e]
    refine acalls_vc [0, 1, 2, 3, 4, 5, 6, 8, 9, 14, 18, 19, 23, 31, 37, 41, 62, 73, 85, 91, 95, 122, 135, 142, 168] Tryz.func61 Tryz.ntmps61 (by kernel_rfl) rfl rfl (by simp) ?_
    simp -dsimp [I, S]
    exact pcq (by simp [S, wTrue]) (fr _)
  by_cases k3 : k = 3
  ·subst k3
   have e : textTm (.mk 3 N mod nm names vars types subs) = nm := by simp [textTm, textK]
   rw [e]
   simp only [tmD, sl1, tmsD_eq]
   refine acalls_vc [0, 1, 2, 3, 4, 5, 6, 8, 9, 14, 18, 19, 23, 31, 37, 41, 62, 73, 85, 91, 95, 122, 135, 142, 168] Tryz.func61 Tryz.ntmps61 (by kernel_rfl) rfl rfl (by simp) ?_
   simp -dsimp [I, S]
   exact pcq rfl (fr _)
  by_cases k4 : k = 4
  ·subst k4
   have e : textTm (.mk 4 N mod nm names vars types subs) = mod ++ [58] ++ nm := by simp [textTm, textK]
   rw [e]
   simp only [tmD, sl1, tmsD_eq]
   refine acalls_vc [0, 1, 2, 3, 4, 5, 6, 8, 9, 14, 18, 19, 23, 31, 37, 41, 62, 73, 85, 91, 95, 122, 135, 142, 168] Tryz.func61 Tryz.ntmps61 (by kernel_rfl) rfl rfl (by simp) ?_
   simp -dsimp [I, S]
   exact ⟨by omega, by omega, pcq (by simp [S]) (fr _)⟩
  by_cases k5 : k = 5
  ·subst k5
   have e : textTm (.mk 5 N mod nm names vars types subs) = [123] ++ joinB comma (makL names (textTms subs)) ++ [125] := by simp [textTm, textK]
   rw [e]
   have hL1 : (names.map fun s => [S s]).length = names.length := by simp
   have hG1 : ∀ i (h : i < names.length), (names.map fun s => [S s])[i]? = some [S names[i]] := fun i h => by simp [h]
   have hL2 : (subs.map tmD).length = subs.length := by simp
   have hG2 : ∀ i (h : i < subs.length), (subs.map tmD)[i]? = some (tmD subs[i]) := fun i h => by simp [h]
   simp only [tmD, sl1, tmsD_eq]
   generalize (names.map fun s => [S s]) = NL at hL1 hG1
   generalize (vars.map fun s => [S s]) = VL
   generalize types.map tyD = YL
   generalize subs.map tmD = SL at hL2 hG2
   have hln := sm.ln
   have hTl := textTms_len subs
   have hTi : ∀ i (h : i < subs.length) (h' : i < (textTms subs).length), (textTms subs)[i] = textTm subs[i] := fun i h h' => textTms_get subs h h'
   have hsum := makL_sum sm.nn (T := textTms subs) (by omega)
   have hjs := fun i => Nat.le_trans (joinB_sub comma (makL names (textTms subs)) i) (Nat.le_trans hsum hb)
   have hml : (makL names (textTms subs)).length = names.length := by simp [makL]
   have hmi : ∀ i (h : i < names.length) (h' : i < (makL names (textTms subs)).length), (makL names (textTms subs))[i] = names[i] ++ [32, 61, 32] ++ (textTms subs).getD i [] := fun i h h' => by
    simp [makL, h]
   generalize makL names (textTms subs) = M at hjs hml hmi hsum
   generalize textTms subs = T at hTl hTi hmi
   refine acalls_vc [0, 1, 2, 3, 4, 5, 6, 8, 9, 14, 18, 19, 23, 31, 37, 41, 62, 73, 85, 91, 95, 122, 135, 142, 168] Tryz.func61 Tryz.ntmps61 (by kernel_rfl) rfl rfl (by simp) ?_
   simp -dsimp [I, S]
   refine vloop_as (β := Nat) (fun i => [(1, .ptr n 0 0 0), (3, S (joinB comma (M.take i))), (4, I i)]) (fun i m2 n2 => m2 = m.set n (tmO 5 N mod nm NL VL YL SL) ∧ n2 = n + 1 ∧ i ≤ names.length) (fun i => names.length - i) 0 (by simp [I, S, joinB]) ⟨rfl, rfl, by omega⟩ ?_
   rintro i m2 n2 ⟨rfl, rfl, le⟩
   by_cases hi : (i : Int) < names.length
   ·have hi' : i < names.length := by omega
    have wi : IntKind.i64.wrap ((i : Int) + 1) = (i : Int) + 1 := wrap_i64 (by omega) (by omega)
    have hiN : i < NL.length := by omega
    have hgi : NL[i] = [S names[i]] := get_opt (hG1 i hi') hiN
    have his : i < subs.length := by omega
    have hisI : (i : Int) < subs.length := by omega
    have hiS : i < SL.length := by omega
    have hgs : SL[i] = tmD subs[i] := get_opt (hG2 i his) hiS
    have hc := hH subs[i] (List.getElem_mem his)
    have hx := hX subs[i] (List.getElem_mem his)
    have h77 := tmD_len subs[i]
    have hMi' : i < M.length := by omega
    have hMe := hmi i hi' hMi'
    rw [getD_T T (show i < T.length by omega), hTi i his (by omega)] at hMe
    have hnl := sm.nn _ (List.getElem_mem hi')
    have hj1 := hjs (i + 1)
    have hj0 := hjs i
    have hcl : comma.length = 2 := rfl
    have hsn : joinB comma (M.take (i + 1)) = if i = 0 then M[i] else joinB comma (M.take i) ++ comma ++ M[i] := by
     rw [take_snoc hMi', joinB_snoc]
     by_cases e : i = 0
     ·subst e; simp
     ·rw [if_neg e, if_neg]
      intro h
      have := congrArg List.length h
      rw [List.length_take] at this; simp only [List.length_nil] at this; omega
    rw [hMe] at hsn
    generalize textTm subs[i] = X at hc hsn hx hMe
    generalize names[i] = Y at hgi hsn hnl hMe
    generalize tmD subs[i] = TT at hgs hc h77
    have ht7 : List.take 8 TT = TT := List.take_of_length_le (by omega)
    by_cases i0 : i = 0
    ·subst i0
     rw [if_pos rfl] at hsn
     simp only [List.take_zero, joinB]
     simp -dsimp [I, S, tmO, hL1, hi, hi']
     refine vdraw_tree [0, 0, 2, 0, 14, 30, 63, 127, 0, 256, 0, 1792, 3840, 7936, 16383, 32767] (.rd 0 (.rd 1 (.rd 2 (.rd 3 (.rd 4 (.rd 5 (.rd 6 (.rd 7 (.rd 8 (.rd 9 (.rd 10 (.rd 11 (.rd 12 (.wr (.cons 13 (.rd 14 (.rd 15 (.fin))) (.nil)))))))))))))))) (by kernel_rfl) (by kernel_rfl) ?_
     simp -dsimp [I, S, tmO, hL1, hL2, hi, hi', hiN, hgi, his, hisI, hiS, hgs, h77, ht7]
     refine ⟨by omega, by omega, pcall hc ⟨fun _ _ _ => rfl, ?_⟩⟩
     have w01 : IntKind.i64.wrap 1 = 1 := wrap_i64 (by omega) (by omega)
     simp -dsimp [I, S, w01]
     exact ⟨by omega, rnd 1 (by omega) (by simp [I, S]; rw [show (1 : Nat) = 0 + 1 from rfl, hsn]; simp) ⟨rfl, rfl, by omega⟩⟩
    ·have i1 : (0 : Int) < i := by omega
     have i1' : 0 < i := by omega
     rw [if_neg i0] at hsn
     rw [hsn] at hj1
     generalize joinB comma (M.take i) = OO at hsn hj0 hj1
     simp only [List.length_append, hcl] at hj1
     simp -dsimp [I, S, tmO, hL1, hi, hi', i1, i1']
     refine ⟨by omega, ?_⟩
     refine vdraw_tree [0, 0, 2, 0, 14, 30, 63, 127, 0, 256, 0, 1792, 3840, 7936, 16383, 32767] (.rd 0 (.rd 1 (.rd 2 (.rd 3 (.rd 4 (.rd 5 (.rd 6 (.rd 7 (.rd 8 (.rd 9 (.rd 10 (.rd 11 (.rd 12 (.wr (.cons 13 (.rd 14 (.rd 15 (.fin))) (.nil)))))))))))))))) (by kernel_rfl) (by kernel_rfl) ?_
     simp -dsimp [I, S, tmO, hL1, hL2, hi, hi', hiN, hgi, his, hisI, hiS, hgs, h77, ht7]
     refine ⟨by omega, by omega, pcall hc ⟨fun _ _ _ => rfl, ?_⟩⟩
     simp -dsimp [I, S, wi]
     exact ⟨by omega, rnd (i + 1) (by omega) (by simp [I, S]; rw [hsn]; simp [comma]) ⟨rfl, rfl, by omega⟩⟩
   ·have e : M.take i = M := List.take_of_length_le (by omega)
    have hj0 := hjs i
    rw [e] at hj0 ⊢
    generalize joinB comma M = OO at hj0
    simp -dsimp [I, S, tmO, hL1, hi]
    exact ⟨by omega, by omega, pcq (by simp [S]) (fr _)⟩
  by_cases k6 : k = 6
  ·subst k6
   obtain ⟨u, rfl⟩ := List.length_eq_one_iff.1 (show subs.length = 1 by omega)
   have e : textTm (.mk 6 N mod nm names vars types [u]) = parK (kindTmK u) (textTm u) ++ [46] ++ nm := by simp [textTm, textTms, textK, kindH]
   have hc := cRHeadTm (hH u (by simp)) (hX u (by simp))
   have hl := parK_len (kindTmK u) (textTm u)
   have hx := hX u (by simp)
   have h8 := tmD_len u
   rw [e]
   generalize parK (kindTmK u) (textTm u) = X at hc hl
   simp only [tmD, sl1, tmsD]
   generalize tmD u = UD at hc h8
   have ht8 : List.take 8 UD = UD := List.take_of_length_le (by omega)
   refine acalls_vc [0, 1, 2, 3, 4, 5, 6, 8, 9, 14, 18, 19, 23, 31, 37, 41, 62, 73, 85, 91, 95, 122, 135, 142, 168] Tryz.func61 Tryz.ntmps61 (by kernel_rfl) rfl rfl (by simp) ?_
   simp -dsimp [I, S]
   refine vdraw_tree [0, 1, 3, 7, 15, 31, 0, 64, 255, 511] (.rd 0 (.rd 1 (.rd 2 (.rd 3 (.rd 6 (.rd 7 (.wr (.cons 4 (.rd 5 (.rd 8 (.rd 9 (.fin)))) (.nil))))))))) (by kernel_rfl) (by kernel_rfl) ?_
   simp -dsimp [I, S, h8, ht8]
   refine pcall hc ?_
   refine ⟨fun _ _ _ => rfl, ?_⟩
   simp -dsimp [I, S, h8, ht8]
   exact ⟨by omega, by omega, pcq (by simp [S]) (fr _)⟩
  by_cases k7 : k = 7
  ·subst k7
   obtain ⟨u, rfl⟩ := List.length_eq_one_iff.1 (show subs.length = 1 by omega)
   have e : textTm (.mk 7 N mod nm names vars types [u]) = nm ++ [40] ++ textTm u ++ [41] := by simp [textTm, textTms, textK, kindH]
   have hc := hH u (by simp)
   have hx := hX u (by simp)
   have h8 := tmD_len u
   rw [e]
   generalize textTm u = X at hc hx
   simp only [tmD, sl1, tmsD]
   generalize tmD u = UD at hc h8
   have ht8 : List.take 8 UD = UD := List.take_of_length_le (by omega)
   refine acalls_vc [0, 1, 2, 3, 4, 5, 6, 8, 9, 14, 18, 19, 23, 31, 37, 41, 62, 73, 85, 91, 95, 122, 135, 142, 168] Tryz.func61 Tryz.ntmps61 (by kernel_rfl) rfl rfl (by simp) ?_
   simp -dsimp [I, S]
   refine vdraw_tree [0, 1, 3, 0, 8, 24, 56, 120, 255, 511, 1023] (.rd 0 (.rd 1 (.rd 2 (.rd 3 (.rd 4 (.rd 5 (.rd 6 (.wr (.cons 7 (.rd 8 (.rd 9 (.rd 10 (.fin)))) (.nil)))))))))) (by kernel_rfl) (by kernel_rfl) ?_
   simp -dsimp [I, S, h8, ht8]
   refine ⟨by omega, pcall hc ⟨fun _ _ _ => rfl, ?_⟩⟩
   simp -dsimp [I, S, h8, ht8]
   exact ⟨by omega, by omega, pcq (by simp [S]) (fr _)⟩
  by_cases k8 : k = 8
  ·subst k8
   obtain ⟨u, rfl⟩ := List.length_eq_one_iff.1 (show subs.length = 1 by omega)
   have e : textTm (.mk 8 N mod nm names vars types [u]) = [102, 110, 40] ++ joinB comma (fnL names (types.map textT)) ++ [41, 32] ++ textTm u := by simp [textTm, textTms, textK]
   rw [e]
   have hL1 : (names.map fun s => [S s]).length = names.length := by simp
   have hG1 : ∀ i (h : i < names.length), (names.map fun s => [S s])[i]? = some [S names[i]] := fun i h => by simp [h]
   have hL2 : (types.map tyD).length = types.length := by simp
   have hG2 : ∀ i (h : i < types.length), (types.map tyD)[i]? = some (tyD types[i]) := fun i h => by simp [h]
   have hu := hH u (by simp)
   have hxu := hX u (by simp)
   have h8u := tmD_len u
   simp only [tmD, sl1, tmsD]
   generalize textTm u = UT at hu hxu
   generalize tmD u = UD at hu h8u
   have ht8 : List.take 8 UD = UD := List.take_of_length_le (by omega)
   generalize (names.map fun s => [S s]) = NL at hL1 hG1
   generalize (vars.map fun s => [S s]) = VL
   generalize types.map tyD = YL at hL2 hG2
   have hln := sm.ln
   have hsum := fnL_sum (Y := types.map textT) sm.ln sm.nn (fun s h => by obtain ⟨y, hy', rfl⟩ := List.mem_map.1 h; exact may_text (sm.ny y hy'))
   have hjs := fun i => Nat.le_trans (joinB_sub comma (fnL names (types.map textT)) i) hsum
   have hml : (fnL names (types.map textT)).length = names.length := by simp [fnL]
   have hmi : ∀ i (h : i < names.length) (hy : i < types.length) (h' : i < (fnL names (types.map textT)).length), (fnL names (types.map textT))[i] = names[i] ++ [58, 32] ++ textT types[i] := fun i h hy h' => by
    simp [fnL, h, hy]
   generalize fnL names (types.map textT) = M at hjs hml hmi hsum
   refine acalls_vc [0, 1, 2, 3, 4, 5, 6, 8, 9, 14, 18, 19, 23, 31, 37, 41, 62, 73, 85, 91, 95, 122, 135, 142, 168] Tryz.func61 Tryz.ntmps61 (by kernel_rfl) rfl rfl (by simp) ?_
   simp -dsimp [I, S]
   refine vloop_as (β := Nat) (fun i => [(1, .ptr n 0 0 0), (3, S (joinB comma (M.take i))), (5, I i)]) (fun i m2 n2 => m2 = m.set n (tmO 8 N mod nm NL VL YL [UD]) ∧ n2 = n + 1 ∧ i ≤ names.length) (fun i => names.length - i) 0 (by simp [I, S, joinB]) ⟨rfl, rfl, by omega⟩ ?_
   rintro i m2 n2 ⟨rfl, rfl, le⟩
   by_cases hi : (i : Int) < names.length
   ·have hi' : i < names.length := by omega
    have wi : IntKind.i64.wrap ((i : Int) + 1) = (i : Int) + 1 := wrap_i64 (by omega) (by omega)
    have hiN : i < NL.length := by omega
    have hgi : NL[i] = [S names[i]] := get_opt (hG1 i hi') hiN
    have his : i < types.length := by omega
    have hisI : (i : Int) < types.length := by omega
    have hiS : i < YL.length := by omega
    have hgs : YL[i] = tyD types[i] := get_opt (hG2 i his) hiS
    have hyi := sm.ny _ (List.getElem_mem his)
    have hc : Pc Tryz.prog 107 [.agg (tyD types[i])] (S (textT types[i])) := fun m n => cPrintR (l9 _ (List.getElem_mem his)) (may_parts hyi).1 (by have := (may_parts hyi).2.1; omega) m n
    have hx := may_text hyi
    have h77 := tyD_len types[i]
    have hMi' : i < M.length := by omega
    have hMe := hmi i hi' his hMi'
    have hnl := sm.nn _ (List.getElem_mem hi')
    have hj1 := hjs (i + 1)
    have hj0 := hjs i
    have hcl : comma.length = 2 := rfl
    have hsn : joinB comma (M.take (i + 1)) = if i = 0 then M[i] else joinB comma (M.take i) ++ comma ++ M[i] := by
     rw [take_snoc hMi', joinB_snoc]
     by_cases e : i = 0
     ·subst e; simp
     ·rw [if_neg e, if_neg]
      intro h
      have := congrArg List.length h
      rw [List.length_take] at this; simp only [List.length_nil] at this; omega
    rw [hMe] at hsn
    generalize textT types[i] = X at hc hsn hx hMe
    generalize names[i] = Y at hgi hsn hnl hMe
    generalize tyD types[i] = TT at hgs hc h77
    have ht7 : List.take 7 TT = TT := List.take_of_length_le (by omega)
    by_cases i0 : i = 0
    ·subst i0
     rw [if_pos rfl] at hsn
     simp only [List.take_zero, joinB]
     simp -dsimp [I, S, tmO, hL1, hi, hi']
     refine vdraw_tree [0, 0, 2, 0, 14, 30, 63, 127, 0, 256, 0, 1792, 3840, 7936, 16383, 32767] (.rd 0 (.rd 1 (.rd 2 (.rd 3 (.rd 4 (.rd 5 (.rd 6 (.rd 7 (.rd 8 (.rd 9 (.rd 10 (.rd 11 (.rd 12 (.wr (.cons 13 (.rd 14 (.rd 15 (.fin))) (.nil)))))))))))))))) (by kernel_rfl) (by kernel_rfl) ?_
     simp -dsimp [I, S, tmO, hL1, hL2, hi, hi', hiN, hgi, his, hisI, hiS, hgs, h77, ht7]
     refine ⟨by omega, by omega, pcall hc ⟨fun _ _ _ => rfl, ?_⟩⟩
     have w01 : IntKind.i64.wrap 1 = 1 := wrap_i64 (by omega) (by omega)
     simp -dsimp [I, S, w01]
     exact ⟨by omega, rnd 1 (by omega) (by simp [I, S]; rw [show (1 : Nat) = 0 + 1 from rfl, hsn]; simp) ⟨rfl, rfl, by omega⟩⟩
    ·have i1 : (0 : Int) < i := by omega
     have i1' : 0 < i := by omega
     rw [if_neg i0] at hsn
     rw [hsn] at hj1
     generalize joinB comma (M.take i) = OO at hsn hj0 hj1
     simp only [List.length_append, hcl] at hj1
     simp -dsimp [I, S, tmO, hL1, hi, hi', i1, i1']
     refine ⟨by omega, ?_⟩
     refine vdraw_tree [0, 0, 2, 0, 14, 30, 63, 127, 0, 256, 0, 1792, 3840, 7936, 16383, 32767] (.rd 0 (.rd 1 (.rd 2 (.rd 3 (.rd 4 (.rd 5 (.rd 6 (.rd 7 (.rd 8 (.rd 9 (.rd 10 (.rd 11 (.rd 12 (.wr (.cons 13 (.rd 14 (.rd 15 (.fin))) (.nil)))))))))))))))) (by kernel_rfl) (by kernel_rfl) ?_
     simp -dsimp [I, S, tmO, hL1, hL2, hi, hi', hiN, hgi, his, hisI, hiS, hgs, h77, ht7]
     refine ⟨by omega, by omega, pcall hc ⟨fun _ _ _ => rfl, ?_⟩⟩
     simp -dsimp [I, S, wi]
     exact ⟨by omega, rnd (i + 1) (by omega) (by simp [I, S]; rw [hsn]; simp [comma]) ⟨rfl, rfl, by omega⟩⟩
   ·have e : M.take i = M := List.take_of_length_le (by omega)
    have hj0 := hjs i
    rw [e] at hj0 ⊢
    generalize joinB comma M = OO at hj0
    simp -dsimp [I, S, tmO, hL1, hi, h8u, ht8]
    refine ⟨by omega, by omega, pcall hu ?_⟩
    simp -dsimp [I, S]
    exact ⟨by omega, pcq (by simp [S]) (fr _)⟩
  by_cases k9 : k = 9
  ·subst k9
   obtain ⟨u, r, rfl⟩ : ∃ u r, subs = u :: r := by
    cases subs with
    | nil => simp at cn
    | cons u r => exact ⟨u, r, rfl⟩
   have e : textTm (.mk 9 N mod nm names vars types (u :: r)) = parK (kindTmK u) (textTm u) ++ [40] ++ joinB comma (textTms r) ++ [41] := by simp [textTm, textTms, textK, kindH]
   have hc := cRHeadTm (hH u (by simp)) (hX u (by simp))
   have hx := hX u (by simp)
   have hl := parK_len (kindTmK u) (textTm u)
   have hbr : smL 100 (textTms r) ≤ 1000000000 := by simp only [textTms, smL, List.map_cons, List.sum_cons] at hb ⊢; omega
   have hrl : r.length ≤ 1000 := by have := sm.ls; simp only [List.length_cons] at this; omega
   have hr := cRRowTm (q := 1) (l := u :: r) hH (by simp) (by simp only [List.length_cons]; have := sm.ls; simp only [List.length_cons] at this; omega) hb
   have er : (textTms (u :: r)).drop 1 = textTms r := rfl
   rw [er] at hr
   simp only [List.map_cons] at hr
   have hj := join_sum (textTms r)
   have h8 := tmD_len u
   rw [e]
   generalize parK (kindTmK u) (textTm u) = X at hc hl
   generalize joinB comma (textTms r) = J at hr hj
   simp only [I] at hr
   simp only [tmD, sl1, tmsD, tmsD_eq]
   generalize tmD u = UD at hc h8 hr
   have hRL : (r.map tmD).length = r.length := by simp
   generalize r.map tmD = RL at hr hRL
   have ht8 : List.take 8 UD = UD := List.take_of_length_le (by omega)
   refine acalls_vc [0, 1, 2, 3, 4, 5, 6, 8, 9, 14, 18, 19, 23, 31, 37, 41, 62, 73, 85, 91, 95, 122, 135, 142, 168] Tryz.func61 Tryz.ntmps61 (by kernel_rfl) rfl rfl (by simp) ?_
   simp -dsimp [I, S]
   refine vdraw_tree [0, 1, 3, 7, 15, 31, 0, 64, 223, 511, 1023, 2047] (.rd 0 (.rd 1 (.rd 2 (.rd 3 (.rd 6 (.rd 7 (.wr (.cons 4 (.rd 5 (.wr (.cons 8 (.rd 9 (.rd 10 (.rd 11 (.fin)))) (.nil)))) (.nil))))))))) (by kernel_rfl) (by kernel_rfl) ?_
   simp -dsimp [I, S, h8, ht8]
   refine pcall hc ⟨fun _ _ _ => rfl, ?_⟩
   simp -dsimp [I, S, h8, ht8, hRL]
   refine ⟨by omega, pcall hr ⟨fun _ _ _ => rfl, ?_⟩⟩
   simp -dsimp [I, S, h8, ht8]
   exact ⟨by omega, by omega, pcq (by simp [S]) (fr _)⟩
  by_cases k10 : k = 10
  ·subst k10
   have e : textTm (.mk 10 N mod nm names vars types subs) = [91] ++ joinB comma (textTms subs) ++ [93] := by simp [textTm, textTms, textK, kindH]
   have hc := cRRowTm (q := 0) hH (by omega) (by have := sm.ls; omega) hb
   rw [List.drop_zero] at hc
   have hj := join_sum (textTms subs)
   rw [e]
   generalize joinB comma (textTms subs) = J at hc hj
   simp only [I] at hc
   simp only [tmD, sl1, tmsD_eq]
   generalize subs.map tmD = SL at hc
   refine acalls_vc [0, 1, 2, 3, 4, 5, 6, 8, 9, 14, 18, 19, 23, 31, 37, 41, 62, 73, 85, 91, 95, 122, 135, 142, 168] Tryz.func61 Tryz.ntmps61 (by kernel_rfl) rfl rfl (by simp) ?_
   simp -dsimp [I, S]
   refine pcall hc ?_
   simp -dsimp [S]
   exact ⟨by omega, by omega, pcq (by simp [S]) (fr _)⟩
  by_cases k11 : k = 11
  ·subst k11
   obtain ⟨a, b, c, rfl⟩ : ∃ a b c, subs = [a, b, c] := by
    match subs, (show subs.length = 3 by omega) with
    | [a, b, c], _ => exact ⟨a, b, c, rfl⟩
   have e : textTm (.mk 11 N mod nm names vars types [a, b, c]) = [105, 102, 32] ++ textTm a ++ [32, 116, 104, 101, 110, 32] ++ textTm b ++ [32, 101, 108, 115, 101, 32] ++ textTm c := by simp [textTm, textTms, textK, kindH]
   have ca := hH a (by simp)
   have cb := hH b (by simp)
   have cc := hH c (by simp)
   have xa := hX a (by simp)
   have xb := hX b (by simp)
   have xc := hX c (by simp)
   have za := tmD_len a
   have zb := tmD_len b
   have zc := tmD_len c
   rw [e]
   generalize textTm a = A at ca xa
   generalize textTm b = B at cb xb
   generalize textTm c = C at cc xc
   simp only [tmD, sl1, tmsD]
   generalize tmD a = AD at ca za
   generalize tmD b = BD at cb zb
   generalize tmD c = CD at cc zc
   have ta : List.take 8 AD = AD := List.take_of_length_le (by omega)
   have tb : List.take 8 BD = BD := List.take_of_length_le (by omega)
   have tc : List.take 8 CD = CD := List.take_of_length_le (by omega)
   refine acalls_vc [0, 1, 2, 3, 4, 5, 6, 8, 9, 14, 18, 19, 23, 31, 37, 41, 62, 73, 85, 91, 95, 122, 135, 142, 168] Tryz.func61 Tryz.ntmps61 (by kernel_rfl) rfl rfl (by simp) ?_
   simp -dsimp [I, S]
   refine vdraw_treeM (.rd 0 (.rd 1 (.rd 2 (.rd 3 (.rd 7 (.rd 8 (.rd 9 (.rd 10 (.rd 14 (.rd 15 (.rd 16 (.rd 17 (.wr (.cons 4 (.rd 5 (.rd 6 (.wr (.cons 11 (.rd 12 (.rd 13 (.wr (.cons 18 (.rd 19 (.rd 20 (.fin))) (.nil))))) (.nil))))) (.nil))))))))))))))) (by kernel_rfl) (by kernel_rfl) ?_; intro mk
   simp -dsimp [I, S, za, zb, zc, ta, tb, tc]
   refine pcall ca ⟨fun _ _ _ => rfl, ?_⟩
   simp -dsimp [I, S, za, zb, zc, ta, tb, tc]
   refine ⟨by omega, by omega, pcall cb ⟨fun _ _ _ => rfl, ?_⟩⟩
   simp -dsimp [I, S, za, zb, zc, ta, tb, tc]
   refine ⟨by omega, by omega, pcall cc ⟨fun _ _ _ => rfl, ?_⟩⟩
   simp -dsimp [I, S, za, zb, zc, ta, tb, tc]
   exact ⟨by omega, pcq (by simp [S]) (fr _)⟩
  by_cases k12 : k = 12
  ·subst k12
   have e : textTm (.mk 12 N mod nm names vars types subs) = [99, 97, 115, 101, 32] ++ (textTms subs).getD 0 [] ++ [32, 111, 102, 32] ++ brL names vars (textTms subs) names.length ++ [101, 110, 100] := by simp [textTm, textTms, textK, kindH]
   rw [e]
   have hn := sm.nn
   have hvl := sm.nv
   have hln := sm.ln
   have hL1 : (names.map fun s => [S s]).length = names.length := by simp
   have hG1 : ∀ i (h : i < names.length), (names.map fun s => [S s])[i]? = some [S names[i]] := fun i h => by simp [h]
   have hL3 : (vars.map fun s => [S s]).length = vars.length := by simp
   have hG3 : ∀ i (h : i < vars.length), (vars.map fun s => [S s])[i]? = some [S vars[i]] := fun i h => by simp [h]
   have hL2 : (subs.map tmD).length = subs.length := by simp
   have hG2 : ∀ i (h : i < subs.length), (subs.map tmD)[i]? = some (tmD subs[i]) := fun i h => by simp [h]
   simp only [tmD, sl1, tmsD_eq]
   generalize (names.map fun s => [S s]) = NL at hL1 hG1
   generalize (vars.map fun s => [S s]) = VL at hL3 hG3
   generalize types.map tyD = YL
   generalize subs.map tmD = SL at hL2 hG2
   have hTl := textTms_len subs
   have hTi : ∀ i (h : i < subs.length) (h' : i < (textTms subs).length), (textTms subs)[i] = textTm subs[i] := fun i h h' => textTms_get subs h h'
   have hbr : ∀ i, i + 1 ≤ (textTms subs).length → (brL names vars (textTms subs) i).length ≤ 1000000000 := fun i h => Nat.le_trans (brL_len hn hvl i h) (Nat.le_trans (smL_take 100 _ i) (Nat.le_trans (smL_drop 100 _ 1) hb))
   generalize textTms subs = T at hTl hTi hbr
   have h0 : 0 < subs.length := by omega
   have h0N : 0 < SL.length := by omega
   have hg0 : SL[0] = tmD subs[0] := get_opt (hG2 0 h0) h0N
   have hH0 := hH subs[0] (List.getElem_mem h0)
   have hX0 := hX subs[0] (List.getElem_mem h0)
   have h80 := tmD_len subs[0]
   have hT0 : T.getD 0 [] = textTm subs[0] := by rw [getD_T T (by omega)]; exact hTi 0 h0 (by omega)
   rw [hT0]
   generalize textTm subs[0] = X0 at hH0 hX0
   generalize tmD subs[0] = D0 at hg0 hH0 h80
   have ht0 : List.take 8 D0 = D0 := List.take_of_length_le (by omega)
   have hs0 : (0 : Int) < subs.length := by omega
   refine acalls_vc [0, 1, 2, 3, 4, 5, 6, 8, 9, 14, 18, 19, 23, 31, 37, 41, 62, 73, 85, 91, 95, 122, 135, 142, 168] Tryz.func61 Tryz.ntmps61 (by kernel_rfl) rfl rfl (by simp) ?_
   simp -dsimp [I, S]
   refine vloop_as (β := Nat) (fun i => [(1, .ptr n 0 0 0), (3, S (brL names vars T i)), (6, I i)]) (fun i m2 n2 => m2 = m.set n (tmO 12 N mod nm NL VL YL SL) ∧ n2 = n + 1 ∧ i ≤ names.length) (fun i => names.length - i) 0 (by simp [I, S, brL]) ⟨rfl, rfl, by omega⟩ ?_
   rintro i m2 n2 ⟨rfl, rfl, le⟩
   by_cases hi : (i : Int) < names.length
   ·have hi' : i < names.length := by omega
    have wi : IntKind.i64.wrap ((i : Int) + 1) = ((i + 1 : Nat) : Int) := by rw [wrap_i64 (by omega) (by omega)]; omega
    have hiN : i < NL.length := by omega
    have hgi : NL[i] = [S names[i]] := get_opt (hG1 i hi') hiN
    have hiv : i < vars.length := by omega
    have hiV : i < VL.length := by omega
    have hgv : VL[i] = [S vars[i]] := get_opt (hG3 i hiv) hiV
    have his : i + 1 < subs.length := by omega
    have hisI : ((i + 1 : Nat) : Int) < subs.length := by omega
    have hvI : ((i : Nat) : Int) < vars.length := by omega
    have hiS : i + 1 < SL.length := by omega
    have hgs : SL[i + 1] = tmD subs[i + 1] := get_opt (hG2 (i + 1) his) hiS
    have hc := hH subs[i + 1] (List.getElem_mem his)
    have hx := hX subs[i + 1] (List.getElem_mem his)
    have h77 := tmD_len subs[i + 1]
    have hTe := hTi (i + 1) his (by omega)
    have hbo : brOne names vars T i = names[i] ++ [40] ++ vars[i] ++ [41, 32, 45, 62, 32] ++ textTm subs[i + 1] ++ [32] := by
     rw [brOne, getD_T names hi', getD_T vars hiv, getD_T T (show i + 1 < T.length by omega), hTe]
    have hbi := hbr i (by omega)
    have hnl := hn _ (List.getElem_mem hi')
    have hvl' := hvl _ (List.getElem_mem hiv)
    have hsn : brL names vars T (i + 1) = brL names vars T i ++ brOne names vars T i := rfl
    rw [hbo] at hsn
    generalize brL names vars T i = BB at hsn hbi
    generalize textTm subs[i + 1] = X at hc hsn hx
    generalize names[i] = Y at hgi hsn hnl
    generalize vars[i] = Z at hgv hsn hvl'
    generalize tmD subs[i + 1] = TT at hgs hc h77
    have ht7 : List.take 8 TT = TT := List.take_of_length_le (by omega)
    simp -dsimp [I, S, tmO, hi, hi', hL1]
    refine vdraw_treeM (.rd 0 (.rd 1 (.rd 2 (.rd 3 (.rd 4 (.rd 5 (.rd 6 (.rd 7 (.rd 8 (.rd 9 (.rd 10 (.rd 11 (.rd 12 (.rd 13 (.rd 14 (.rd 15 (.rd 16 (.rd 17 (.rd 18 (.rd 19 (.rd 20 (.wr (.cons 21 (.rd 22 (.rd 23 (.rd 24 (.fin)))) (.nil)))))))))))))))))))))))) (by kernel_rfl) (by kernel_rfl) ?_; intro mk
    simp -dsimp [I, S, hi, hi', hiN, hgi, hiv, hiV, hgv, his, hisI, hvI, hiS, hgs, h77, ht7, wi, hL1, hL2, hL3, tmO]
    refine ⟨by omega, by omega, by omega, by omega, by omega, ?_⟩
    refine pcall hc ?_
    refine ⟨fun _ _ _ => rfl, ?_⟩
    simp -dsimp [I, S, wi]
    refine ⟨by omega, by omega, ?_⟩
    exact rnd (i + 1) (by omega) (by simp [I, S, hsn]) ⟨rfl, rfl, by omega⟩
   ·have e : i = names.length := by omega
    subst e
    have hbi := hbr names.length (by omega)
    generalize brL names vars T names.length = BB at hbi
    simp -dsimp [I, S, tmO, hL1, hL2, hi, hs0, h0, h0N, hg0, h80, ht0]
    refine pcall hH0 ?_
    simp -dsimp [I, S]
    exact ⟨by omega, by omega, by omega, by omega, pcq (by simp [S]) (fr _)⟩
  omega
end Go.Proofs.Mv.App
open Go Go.Proofs Go.Proofs.Mv.V
set_option maxRecDepth 10000
namespace Go.Proofs.Mv.App
set_option maxHeartbeats 4000000 in
theorem cRPPrint {x : Pg} (hx : PgW x) (hm : mayP x = true) : Pc Tryz.prog 22 [.agg (pgD x)] (S (textP x)) := by
 refine pc_of (pur_S _) (fun m n => ?_)
 have hmd : pgD x = [.sl 4 (x.imps.map impD), .sl 9 (x.lets.map ltD)] := rfl
 have hL1 : (x.imps.map impD).length = x.imps.length := by simp
 have hG1 : ∀ i (h : i < x.imps.length), (x.imps.map impD)[i]? = some (impD x.imps[i]) := fun i h => by simp [h]
 have hL2 : (x.lets.map ltD).length = x.lets.length := by simp
 have hG2 : ∀ i (h : i < x.lets.length), (x.lets.map ltD)[i]? = some (ltD x.lets[i]) := fun i h => by simp [h]
 rw [hmd]
 generalize x.imps.map impD = IL at hL1 hG1
 generalize x.lets.map ltD = DL at hL2 hG2
 obtain ⟨r1, r2, r3, r4⟩ := mayP_parts hm
 have wl := impsP_len hm
 have wd := ltsP_len hm
 refine acalls_vc [0, 1, 2, 3, 4, 5, 6, 11, 42] Tryz.func22 Tryz.ntmps22 (by kernel_rfl) rfl rfl (by simp) ?_
 simp -dsimp [I, S, hL1]
 refine vloop_as (β := Nat) (fun i => [(1, .ptr n 0 0 0), (3, S (impsP x i)), (4, I i)]) (fun i m2 n2 => m2 n = some ⟨2, [[.sl 4 IL, .sl 9 DL]], 0⟩ ∧ (∀ j, j < n → m2 j = m j) ∧ n + 1 ≤ n2 ∧ i ≤ x.imps.length) (fun i => x.imps.length - i) 0 (by simp [I, S, impsP_zero]) ⟨by simp, fun j hj => set_ne _ _ _ _ (by omega), by omega, by omega⟩ ?_
 rintro i m2 n2 ⟨mo, fr, nn, le⟩
 have kn : n ≠ n2 := by omega
 have nk : n2 ≠ n := by omega
 by_cases hi : (i : Int) < x.imps.length
 ·have hi' : i < x.imps.length := by omega
  have wi : IntKind.i64.wrap ((i : Int) + 1) = (i : Int) + 1 := wrap_i64 (by omega) (by omega)
  have hiN : i < IL.length := by omega
  have hgi : IL[i] = impD x.imps[i] := get_opt (hG1 i hi') hiN
  obtain ⟨t1, t2, t3, t4, t5⟩ := imp_partsU (r3 _ (List.getElem_mem hi'))
  have hdl := digits_len x.imps[i].major.toNat
  have hsn := impsP_snoc hi'
  have hll := wl i
  have him : impD x.imps[i] = [S x.imps[i].pkg, I x.imps[i].major, S x.imps[i].mod, S x.imps[i].as_] := rfl
  have hlin : impLnU x.imps[i] = impLnU ⟨x.imps[i].pkg, x.imps[i].major, x.imps[i].mod, x.imps[i].as_⟩ := rfl
  rw [hlin] at hsn
  generalize x.imps[i].pkg = y1 at t1 him hsn
  generalize x.imps[i].major = y2 at t4 t5 him hsn hdl
  generalize x.imps[i].mod = y3 at t2 him hsn
  generalize x.imps[i].as_ = y4 at t3 him hsn
  simp -dsimp [mo, I, S, hL1, hi, hi', hiN, hgi, him, set_ne, kn, nk]
  refine vdraw_tree [0, 1, 0, 4, 15, 31, 0, 64, 192, 511, 1023, 0, 2048, 8191, 16383, 0, 32768, 131071, 262143, 524287] (.rd 0 (.rd 1 (.rd 2 (.rd 3 (.rd 4 (.rd 5 (.rd 6 (.rd 7 (.rd 11 (.rd 12 (.rd 15 (.rd 16 (.wr (.cons 8 (.rd 9 (.rd 10 (.rd 13 (.rd 14 (.rd 17 (.rd 18 (.rd 19 (.fin)))))))) (.nil))))))))))))))) (by kernel_rfl) (by kernel_rfl) ?_
  simp -dsimp [mo, I, S, hL1, hi, hi', hiN, hgi, him, set_ne, kn, nk]
  refine ⟨by omega, by omega, by omega, ?_⟩
  refine aCall_of (cDigitsI (j := y2) (by omega) (by omega) _ _) ?_
  rintro d m3 n3 ⟨rfl, rfl, rfl⟩
  simp -dsimp [mo, I, S, hL1, set_ne, kn, nk, wi]
  refine ⟨by omega, by omega, by omega, by omega, by omega, by omega, ?_⟩
  exact rnd (i + 1) (by omega) (by simp [I, S, hsn, impLnU, wImp]) ⟨by rw [set_ne _ _ _ _ kn]; exact mo, fun j hj => by rw [set_ne _ _ _ _ (by omega)]; exact fr j hj, by omega, by omega⟩
 ·have : i = x.imps.length := by omega
  subst this
  rw [impsP_all]
  simp -dsimp [mo, I, S, hL1, hL2]
  refine vloop_as (β := Nat) (fun i => [(1, .ptr n 0 0 0), (3, S (ltsP x i)), (6, I i)]) (fun i m2 n2 => m2 n = some ⟨2, [[.sl 4 IL, .sl 9 DL]], 0⟩ ∧ (∀ j, j < n → m2 j = m j) ∧ n + 1 ≤ n2 ∧ i ≤ x.lets.length) (fun i => x.lets.length - i) 0 (by simp [I, S]) ⟨mo, fr, nn, by omega⟩ ?_
  clear mo fr nn le hi kn nk
  clear m2 n2
  rintro i m2 n2 ⟨mo, fr, nn, le⟩
  have kn : n ≠ n2 := by omega
  have nk : n2 ≠ n := by omega
  by_cases hi : (i : Int) < x.lets.length
  ·have hi' : i < x.lets.length := by omega
   have wi : IntKind.i64.wrap ((i : Int) + 1) = (i : Int) + 1 := wrap_i64 (by omega) (by omega)
   have hiN : i < DL.length := by omega
   have hgi : DL[i] = ltD x.lets[i] := get_opt (hG2 i hi') hiN
   have hok := r4 _ (List.getElem_mem hi')
   obtain ⟨t1, tm, ta, tq, tl⟩ := lt_parts hok
   have hc : Pc Tryz.prog 61 [.agg (tmD x.lets[i].term)] (S (textTm x.lets[i].term)) := cRPrintTm (hx.h4 _ (List.getElem_mem hi')).h2 ta (by omega)
   have hsn := ltsP_snoc hi'
   have hll := wd i
   have him : ltD x.lets[i] = S x.lets[i].name :: tmD x.lets[i].term := rfl
   have h7 := tmD_len x.lets[i].term
   unfold ltTx at hsn
   generalize tmD x.lets[i].term = TT at h7 him hc
   generalize textTm x.lets[i].term = tt at hsn tl hc
   generalize x.lets[i].name = y3 at him hsn t1
   have ht7 : List.take 8 TT = TT := List.take_of_length_le (by omega)
   simp -dsimp [mo, I, S, hL2, hi, hi', hiN, hgi, him, set_ne, kn, nk, h7, ht7]
   refine vdraw_tree [0, 1, 0, 4, 0, 28, 60, 124, 255, 511, 0, 1024, 0, 7168, 15360, 31744, 64512, 131071, 262143, 524287] (.rd 0 (.rd 1 (.rd 2 (.rd 3 (.rd 4 (.rd 5 (.rd 6 (.rd 7 (.rd 8 (.rd 9 (.rd 10 (.rd 11 (.rd 12 (.rd 13 (.rd 14 (.rd 15 (.wr (.cons 16 (.rd 17 (.rd 18 (.rd 19 (.fin)))) (.nil))))))))))))))))))) (by kernel_rfl) (by kernel_rfl) ?_
   simp -dsimp [mo, I, S, hL2, hi, hi', hiN, hgi, him, set_ne, kn, nk, h7, ht7]
   repeat refine ⟨by omega, ?_⟩
   refine pcall hc ?_
   simp -dsimp [mo, I, S, set_ne, kn, nk, wi]
   refine ⟨by omega, by omega, ?_⟩
   exact rnd (i + 1) (by omega) (by simp [I, S, hsn]) ⟨mo, fr, by omega, by omega⟩
  ·have : i = x.lets.length := by omega
   subst this
   simp -dsimp [mo, I, S, hL2]
   exact pcq rfl fr
end Go.Proofs.Mv.App
open Go Go.Proofs Go.Proofs.Mv.V
namespace Go.Proofs.Mv.App
theorem ev_mixed : Tryz.prog.follows .mixedOrders = true := by kernel_rfl
theorem ev_names : Tryz.prog.funcs.all (fun fn => !(fn.name == "runtime.NumGoroutine")) = true := by kernel_rfl
theorem run_at [GI] (fuel k : Nat) {f : FuncId} {args : List D} {x : Value} (ha : belowL 0 args = true)
  (h : (match callE Tryz.prog noOrc (fun _ => false) fuel k f args [] with | some (.v y, _, _) => eqVE y x | _ => false) = true) (m : Mem) (n : Nat) :
  ACalls Tryz.prog f args m n (fun d' m' n' => d' = .v x ∧ m' = m ∧ n' = n) := run_flat noOrc_cs ev_mixed ev_names _ fuel k ha h m n
end Go.Proofs.Mv.App
