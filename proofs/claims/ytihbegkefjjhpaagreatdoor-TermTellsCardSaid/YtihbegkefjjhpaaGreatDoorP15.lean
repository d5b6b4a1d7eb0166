/- A part of the proofs: machine, contracts, laws. No condition of its own. -/
import Derived.Test.YtihbegkefjjhpaaGreatDoorP09
import Derived.Test.YtihbegkefjjhpaaGreatDoorP14
import Derived.Test.YtihbegkefjjhpaaGreatDoorP07
import Derived.Test.YtihbegkefjjhpaaGreatDoorP12
set_option linter.unusedSimpArgs false
set_option linter.unusedVariables false
set_option linter.unusedSectionVars false
open Go Go.Proofs Go.Proofs.Mv.V
set_option maxRecDepth 10000
namespace Go.Proofs.Mv.App
theorem manyTms_le_mem {t : Tm} : ∀ {l : List Tm}, t ∈ l → manyTm t ≤ manyTms l
  | [], h => by cases h
  | x :: l, h => by
    simp only [manyTms]
    rcases List.mem_cons.1 h with rfl | h
    · omega
    · have := manyTms_le_mem h; omega
set_option maxHeartbeats 8000000 in
theorem cTextTm {t : Tm} (ht : TmW t) : allTm t = true → manyTm t ≤ 500 → Pc Tryz.prog 31 [.agg (tmD t)] (S (textTm t)) := by
  induction ht with
  | mk k N mod nm names vars types subs l1 l2 l3 l4 l5 l6 l7 l8 l9 l10 ih =>
    intro ha hm
    simp only [allTm, Bool.and_eq_true] at ha
    simp only [manyTm] at hm
    obtain ⟨ko, sm⟩ := shapeTm_parts ha.1
    have hH : ∀ t ∈ subs, Pc Tryz.prog 31 [.agg (tmD t)] (S (textTm t)) := fun t h => ih t h (allTms_mem ha.2 t h) (by have := manyTms_le_mem h; omega)
    have hX : ∀ t ∈ subs, (textTm t).length ≤ 1000000000 := fun t h => textTm_small (allTms_mem ha.2 t h) (by have := manyTms_le_mem h; omega)
    have hb : smL 100 (textTms subs) ≤ 1000000000 := textTms_small ha.2 (by omega)
    have cn := ko.cn
    have q1 := sm.sm
    have q2 := sm.sn
    unfold cntK at cn
    refine pc_of (pur_S _) (fun m n => ?_)
    have fr : ∀ o j, j < n → (m.set n o) j = m j := fun o j hj => by rw [set_ne _ _ _ _ (by omega)]
    by_cases k1 : k = 1
    · subst k1
      have e : textTm (.mk 1 N mod nm names vars types subs) = digits N.toNat := by simp [textTm, textK]
      have hc : Pc Tryz.prog 54 [I N] (S (digits N.toNat)) := fun m n => cItoa (ko.n1 rfl).1 (by have := (ko.n1 rfl).2; omega) m n
      rw [e]
      generalize digits N.toNat = X at hc
      simp only [tmD, sl1, tmsD_eq]
      simp only [I] at hc
      refine acalls_vc [0, 1, 2, 4, 5, 10, 17, 21, 29, 33, 44, 56, 60, 74, 81] Tryz.func31 Tryz.ntmps31 (by kernel_rfl) rfl rfl (by simp) ?_
      simp -dsimp [I, S]
      refine pcall hc ?_
      simp -dsimp [S]
      exact pcq rfl (fr _)
    by_cases k2 : k = 2
    · subst k2
      simp only [tmD, sl1, tmsD_eq]
      rcases ko.n2 rfl with rfl | rfl
      · have e : textTm (.mk 2 0 mod nm names vars types subs) = wFalse := by simp [textTm, textK]
        rw [e]
        refine acalls_vc [0, 1, 2, 4, 5, 10, 17, 21, 29, 33, 44, 56, 60, 74, 81] Tryz.func31 Tryz.ntmps31 (by kernel_rfl) rfl rfl (by simp) ?_
        simp -dsimp [I, S]
        exact pcq (by simp [S, wFalse]) (fun j hj => by rw [set_ne _ _ _ _ (by omega), set_ne _ _ _ _ (by omega)])
      · have e : textTm (.mk 2 1 mod nm names vars types subs) = wTrue := by simp [textTm, textK]
        rw [e]
        refine acalls_vc [0, 1, 2, 4, 5, 10, 17, 21, 29, 33, 44, 56, 60, 74, 81] Tryz.func31 Tryz.ntmps31 (by kernel_rfl) rfl rfl (by simp) ?_
        simp -dsimp [I, S]
        exact pcq (by simp [S, wTrue]) (fun j hj => by rw [set_ne _ _ _ _ (by omega), set_ne _ _ _ _ (by omega)])
    by_cases k3 : k = 3
    · subst k3
      have e : textTm (.mk 3 N mod nm names vars types subs) = nm := by simp [textTm, textK]
      rw [e]
      simp only [tmD, sl1, tmsD_eq]
      refine acalls_vc [0, 1, 2, 4, 5, 10, 17, 21, 29, 33, 44, 56, 60, 74, 81] Tryz.func31 Tryz.ntmps31 (by kernel_rfl) rfl rfl (by simp) ?_
      simp -dsimp [I, S]
      exact pcq rfl (fr _)
    by_cases k4 : k = 4
    · subst k4
      have e : textTm (.mk 4 N mod nm names vars types subs) = mod ++ [58] ++ nm := by simp [textTm, textK]
      rw [e]
      simp only [tmD, sl1, tmsD_eq]
      refine acalls_vc [0, 1, 2, 4, 5, 10, 17, 21, 29, 33, 44, 56, 60, 74, 81] Tryz.func31 Tryz.ntmps31 (by kernel_rfl) rfl rfl (by simp) ?_
      simp -dsimp [I, S]
      exact ⟨by omega, by omega, pcq (by simp [S]) (fr _)⟩
    by_cases k5 : k = 5
    · subst k5
      have e : textTm (.mk 5 N mod nm names vars types subs) = [123] ++ joinB comma (makL names (textTms subs)) ++ [125] := by simp [textTm, textK]
      have hc := cMadeTm (k := 5) (N := N) (mod := mod) (nm := nm) (vars := vars) (types := types) hH (by omega) (by have := sm.ls; omega) sm.nn hb
      rw [e]
      generalize [123] ++ joinB comma (makL names (textTms subs)) ++ [125] = X at hc
      simp only [tmD, sl1, tmsD_eq] at hc ⊢
      generalize (names.map fun s => [S s]) = NL at hc
      generalize (vars.map fun s => [S s]) = VL at hc
      generalize types.map tyD = YL at hc
      generalize subs.map tmD = SL at hc
      simp only [I, S] at hc
      refine acalls_vc [0, 1, 2, 4, 5, 10, 17, 21, 29, 33, 44, 56, 60, 74, 81] Tryz.func31 Tryz.ntmps31 (by kernel_rfl) rfl rfl (by simp) ?_
      simp -dsimp [I, S]
      refine pcall hc ?_
      simp -dsimp [S]
      exact pcq rfl (fr _)
    by_cases k6 : k = 6
    · subst k6
      obtain ⟨u, rfl⟩ := List.length_eq_one_iff.1 (show subs.length = 1 by omega)
      have e : textTm (.mk 6 N mod nm names vars types [u]) = parK (kindTmK u) (textTm u) ++ [46] ++ nm := by simp [textTm, textTms, textK, kindH]
      have hc := cHeadTm (hH u (by simp)) (hX u (by simp))
      have hl := parK_len (kindTmK u) (textTm u)
      have hx := hX u (by simp)
      have h8 := tmD_len u
      rw [e]
      generalize parK (kindTmK u) (textTm u) = X at hc hl
      simp only [tmD, sl1, tmsD]
      generalize tmD u = UD at hc h8
      have ht8 : List.take 8 UD = UD := List.take_of_length_le (by omega)
      refine acalls_vc [0, 1, 2, 4, 5, 10, 17, 21, 29, 33, 44, 56, 60, 74, 81] Tryz.func31 Tryz.ntmps31 (by kernel_rfl) rfl rfl (by simp) ?_
      simp -dsimp [I, S]
      refine vdraw_tree [0, 1, 3, 7, 15, 31, 0, 64, 255, 511] (.rd 0 (.rd 1 (.rd 2 (.rd 3 (.rd 6 (.rd 7 (.wr (.cons 4 (.rd 5 (.rd 8 (.rd 9 (.fin)))) (.nil))))))))) (by kernel_rfl) (by kernel_rfl) ?_
      simp -dsimp [I, S, h8, ht8]
      refine pcall hc ?_
      refine ⟨fun _ _ _ => rfl, ?_⟩
      simp -dsimp [I, S, h8, ht8]
      exact ⟨by omega, by omega, pcq (by simp [S]) (fr _)⟩
    by_cases k7 : k = 7
    · subst k7
      obtain ⟨u, rfl⟩ := List.length_eq_one_iff.1 (show subs.length = 1 by omega)
      have e : textTm (.mk 7 N mod nm names vars types [u]) = nm ++ [40] ++ textTm u ++ [41] := by simp [textTm, textTms, textK, kindH]
      have hc := hH u (by simp)
      have hx := hX u (by simp)
      have h8 := tmD_len u
      rw [e]
      generalize textTm u = X at hc hx
      simp only [tmD, sl1, tmsD]
      generalize tmD u = UD at hc h8
      have ht8 : List.take 8 UD = UD := List.take_of_length_le (by omega)
      refine acalls_vc [0, 1, 2, 4, 5, 10, 17, 21, 29, 33, 44, 56, 60, 74, 81] Tryz.func31 Tryz.ntmps31 (by kernel_rfl) rfl rfl (by simp) ?_
      simp -dsimp [I, S]
      refine vdraw_tree [0, 1, 3, 0, 8, 24, 56, 120, 255, 511, 1023] (.rd 0 (.rd 1 (.rd 2 (.rd 3 (.rd 4 (.rd 5 (.rd 6 (.wr (.cons 7 (.rd 8 (.rd 9 (.rd 10 (.fin)))) (.nil)))))))))) (by kernel_rfl) (by kernel_rfl) ?_
      simp -dsimp [I, S, h8, ht8]
      refine ⟨by omega, pcall hc ⟨fun _ _ _ => rfl, ?_⟩⟩
      simp -dsimp [I, S, h8, ht8]
      exact ⟨by omega, by omega, pcq (by simp [S]) (fr _)⟩
    by_cases k8 : k = 8
    · subst k8
      obtain ⟨u, rfl⟩ := List.length_eq_one_iff.1 (show subs.length = 1 by omega)
      have e : textTm (.mk 8 N mod nm names vars types [u]) = [102, 110, 40] ++ joinB comma (fnL names (types.map textT)) ++ [41, 32] ++ textTm u := by simp [textTm, textTms, textK, kindH]
      have hc := cFunTm (k := 8) (N := N) (mod := mod) (nm := nm) (vars := vars) (hH u (by simp)) (hX u (by simp)) l9 sm.ny (by omega) sm.ln sm.nn
      rw [e]
      generalize [102, 110, 40] ++ joinB comma (fnL names (types.map textT)) ++ [41, 32] ++ textTm u = X at hc
      simp only [tmD, sl1, tmsD] at hc ⊢
      generalize (names.map fun s => [S s]) = NL at hc
      generalize (vars.map fun s => [S s]) = VL at hc
      generalize types.map tyD = YL at hc
      generalize tmD u = UD at hc
      simp only [I, S] at hc
      refine acalls_vc [0, 1, 2, 4, 5, 10, 17, 21, 29, 33, 44, 56, 60, 74, 81] Tryz.func31 Tryz.ntmps31 (by kernel_rfl) rfl rfl (by simp) ?_
      simp -dsimp [I, S]
      refine pcall hc ?_
      simp -dsimp [S]
      exact pcq rfl (fr _)
    by_cases k9 : k = 9
    · subst k9
      obtain ⟨u, r, rfl⟩ : ∃ u r, subs = u :: r := by
        cases subs with
        | nil => simp at cn
        | cons u r => exact ⟨u, r, rfl⟩
      have e : textTm (.mk 9 N mod nm names vars types (u :: r)) = parK (kindTmK u) (textTm u) ++ [40] ++ joinB comma (textTms r) ++ [41] := by simp [textTm, textTms, textK, kindH]
      have hc := cHeadTm (hH u (by simp)) (hX u (by simp))
      have hx := hX u (by simp)
      have hl := parK_len (kindTmK u) (textTm u)
      have hbr : smL 100 (textTms r) ≤ 1000000000 := by simp only [textTms, smL, List.map_cons, List.sum_cons] at hb ⊢; omega
      have hrl : r.length ≤ 1000 := by have := sm.ls; simp only [List.length_cons] at this; omega
      have hr := cListTm (l := r) (fun t h => hH t (by simp [h])) hrl hbr
      have hj := join_sum (textTms r)
      have h8 := tmD_len u
      rw [e]
      generalize parK (kindTmK u) (textTm u) = X at hc hl
      generalize joinB comma (textTms r) = J at hr hj
      simp only [tmD, sl1, tmsD, tmsD_eq]
      generalize tmD u = UD at hc h8
      have hRL : (r.map tmD).length = r.length := by simp
      generalize r.map tmD = RL at hr hRL
      have ht8 : List.take 8 UD = UD := List.take_of_length_le (by omega)
      refine acalls_vc [0, 1, 2, 4, 5, 10, 17, 21, 29, 33, 44, 56, 60, 74, 81] Tryz.func31 Tryz.ntmps31 (by kernel_rfl) rfl rfl (by simp) ?_
      simp -dsimp [I, S]
      refine vdraw_tree [0, 1, 3, 7, 15, 31, 0, 64, 192, 479, 1023, 2047, 4095] (.rd 0 (.rd 1 (.rd 2 (.rd 3 (.rd 6 (.rd 7 (.rd 8 (.wr (.cons 4 (.rd 5 (.wr (.cons 9 (.rd 10 (.rd 11 (.rd 12 (.fin)))) (.nil)))) (.nil)))))))))) (by kernel_rfl) (by kernel_rfl) ?_
      simp -dsimp [I, S, h8, ht8]
      refine ⟨by omega, pcall hc ⟨fun _ _ _ => rfl, ?_⟩⟩
      simp -dsimp [I, S, h8, ht8, hRL]
      refine ⟨by omega, pcall hr ⟨fun _ _ _ => rfl, ?_⟩⟩
      simp -dsimp [I, S, h8, ht8]
      exact ⟨by omega, by omega, pcq (by simp [S]) (fr _)⟩
    by_cases k10 : k = 10
    · subst k10
      have e : textTm (.mk 10 N mod nm names vars types subs) = [91] ++ joinB comma (textTms subs) ++ [93] := by simp [textTm, textTms, textK, kindH]
      have hc := cListTm hH (by have := sm.ls; omega) hb
      have hj := join_sum (textTms subs)
      rw [e]
      generalize joinB comma (textTms subs) = J at hc hj
      simp only [tmD, sl1, tmsD_eq]
      generalize subs.map tmD = SL at hc
      refine acalls_vc [0, 1, 2, 4, 5, 10, 17, 21, 29, 33, 44, 56, 60, 74, 81] Tryz.func31 Tryz.ntmps31 (by kernel_rfl) rfl rfl (by simp) ?_
      simp -dsimp [I, S]
      refine pcall hc ?_
      simp -dsimp [S]
      exact ⟨by omega, by omega, pcq (by simp [S]) (fr _)⟩
    by_cases k11 : k = 11
    · subst k11
      obtain ⟨a, b, c, rfl⟩ : ∃ a b c, subs = [a, b, c] := by
        match subs, (show subs.length = 3 by omega) with
        | [a, b, c], _ => exact ⟨a, b, c, rfl⟩
      have e : textTm (.mk 11 N mod nm names vars types [a, b, c]) = [105, 102, 32] ++ textTm a ++ [32, 116, 104, 101, 110, 32] ++ textTm b ++ [32, 101, 108, 115, 101, 32] ++ textTm c := by simp [textTm, textTms, textK, kindH]
      have ca := hH a (by simp)
      have cb := hH b (by simp)
      have cc := hH c (by simp)
      have xa := hX a (by simp)
      have xb := hX b (by simp)
      have xc := hX c (by simp)
      have za := tmD_len a
      have zb := tmD_len b
      have zc := tmD_len c
      rw [e]
      generalize textTm a = A at ca xa
      generalize textTm b = B at cb xb
      generalize textTm c = C at cc xc
      simp only [tmD, sl1, tmsD]
      generalize tmD a = AD at ca za
      generalize tmD b = BD at cb zb
      generalize tmD c = CD at cc zc
      have ta : List.take 8 AD = AD := List.take_of_length_le (by omega)
      have tb : List.take 8 BD = BD := List.take_of_length_le (by omega)
      have tc : List.take 8 CD = CD := List.take_of_length_le (by omega)
      refine acalls_vc [0, 1, 2, 4, 5, 10, 17, 21, 29, 33, 44, 56, 60, 74, 81] Tryz.func31 Tryz.ntmps31 (by kernel_rfl) rfl rfl (by simp) ?_
      simp -dsimp [I, S]
      refine vdraw_treeM (.rd 0 (.rd 1 (.rd 2 (.rd 3 (.rd 7 (.rd 8 (.rd 9 (.rd 10 (.rd 14 (.rd 15 (.rd 16 (.rd 17 (.wr (.cons 4 (.rd 5 (.rd 6 (.wr (.cons 11 (.rd 12 (.rd 13 (.wr (.cons 18 (.rd 19 (.rd 20 (.fin))) (.nil))))) (.nil))))) (.nil))))))))))))))) (by kernel_rfl) (by kernel_rfl) ?_; intro mk
      simp -dsimp [I, S, za, zb, zc, ta, tb, tc]
      refine pcall ca ⟨fun _ _ _ => rfl, ?_⟩
      simp -dsimp [I, S, za, zb, zc, ta, tb, tc]
      refine ⟨by omega, by omega, pcall cb ⟨fun _ _ _ => rfl, ?_⟩⟩
      simp -dsimp [I, S, za, zb, zc, ta, tb, tc]
      refine ⟨by omega, by omega, pcall cc ⟨fun _ _ _ => rfl, ?_⟩⟩
      simp -dsimp [I, S, za, zb, zc, ta, tb, tc]
      exact ⟨by omega, pcq (by simp [S]) (fr _)⟩
    by_cases k12 : k = 12
    · subst k12
      have e : textTm (.mk 12 N mod nm names vars types subs) = [99, 97, 115, 101, 32] ++ (textTms subs).getD 0 [] ++ [32, 111, 102, 32] ++ brL names vars (textTms subs) names.length ++ [101, 110, 100] := by simp [textTm, textTms, textK, kindH]
      have hc := cChosenTm (k := 12) (N := N) (mod := mod) (nm := nm) (types := types) hH (by omega) (by omega) sm.ln sm.nn sm.nv hb
      rw [e]
      generalize [99, 97, 115, 101, 32] ++ (textTms subs).getD 0 [] ++ [32, 111, 102, 32] ++ brL names vars (textTms subs) names.length ++ [101, 110, 100] = X at hc
      simp only [tmD, sl1, tmsD_eq] at hc ⊢
      generalize (names.map fun s => [S s]) = NL at hc
      generalize (vars.map fun s => [S s]) = VL at hc
      generalize types.map tyD = YL at hc
      generalize subs.map tmD = SL at hc
      simp only [I, S] at hc
      refine acalls_vc [0, 1, 2, 4, 5, 10, 17, 21, 29, 33, 44, 56, 60, 74, 81] Tryz.func31 Tryz.ntmps31 (by kernel_rfl) rfl rfl (by simp) ?_
      simp -dsimp [I, S]
      refine pcall hc ?_
      simp -dsimp [S]
      exact pcq rfl (fr _)
    omega
theorem cPrintTm {t : Tm} (ht : TmW t) : Pc Tryz.prog 10 [.agg (tmD t)] (.tup [S (if mayTm t then textTm t else []), argE (mayTm t)]) := by
  have hp : Pur (.tup [S (if mayTm t then textTm t else []), argE (mayTm t)]) := Pur.tup (by
    intro d hd
    simp only [List.mem_cons, List.not_mem_nil, or_false] at hd
    rcases hd with rfl | rfl
    · exact pur_S _
    · unfold argE; split
      · exact pur_nilE
      · exact pur_code 1)
  refine pc_of hp (fun m n => ?_)
  have h8 := tmD_len t
  have hc := cMayTm ht
  have hx : mayTm t = true → _ := fun h => cTextTm ht (by simp only [mayTm, Bool.and_eq_true] at h; exact h.1.1) (by simp only [mayTm, Bool.and_eq_true, decide_eq_true_eq] at h; omega)
  generalize tmD t = TT at h8 hc hx
  have ht8 : List.take 8 TT = TT := List.take_of_length_le (by omega)
  refine acalls_vc [0, 1, 2, 3, 6] Tryz.func10 Tryz.ntmps10 (by kernel_rfl) rfl rfl (by simp) ?_
  simp -dsimp [h8, ht8]
  refine pcall hc ?_
  cases hm : mayTm t with
  | false =>
    simp -dsimp [I, Tt]
    exact pcq (by simp [S, argE]) (fun j hj => by rw [set_ne _ _ _ _ (by omega)])
  | true =>
    simp -dsimp [I, Tt, h8, ht8]
    refine pcall (hx hm) ?_
    simp -dsimp [I, Tt]
    exact pcq (by simp [S, argE, nilE]) (fun j hj => by rw [set_ne _ _ _ _ (by omega)])
end Go.Proofs.Mv.App
open Go Go.Proofs Go.Proofs.Mv.V
namespace Go.Proofs.Mv.App
abbrev Bnd := List UInt8 × Tm
/-! A step. -/
structure Df where
  mod : List UInt8
  name : List UInt8
  term : Tm
end Go.Proofs.Mv.App
open Go Go.Proofs Go.Proofs.Mv.V
set_option maxRecDepth 10000
namespace Go.Proofs.Mv.App
def wFn : List UInt8 := [102, 110]
def wIf : List UInt8 := [105, 102]
def wThen : List UInt8 := [116, 104, 101, 110]
def wElse : List UInt8 := [101, 108, 115, 101]
def wCase : List UInt8 := [99, 97, 115, 101]
def pTC [GI] (l : List Tok) (dp : Nat) (p : PS) : List D := [toksD l, I p.at_, I dp, errS p]
def pTObj [GI] (l : List Tok) (dp : Nat) (p : PS) : V.Obj := ⟨4, [pTC l dp p], 0⟩
theorem pur_pT [GI] (l : List Tok) (dp : Nat) (p : PS) : ∀ e ∈ (pTObj l dp p).es, ∀ d ∈ e, Pur d := by
  intro e he d hd
  simp only [pTObj, List.mem_singleton] at he
  subst he
  simp only [pTC, List.mem_cons, List.not_mem_nil, or_false] at hd
  rcases hd with rfl | rfl | rfl | rfl
  · exact pur_toks _
  · exact pur_I _
  · exact pur_I _
  · exact pur_errS _
def isT (kd : Int) (s : List UInt8) (l : List Tok) (p : PS) : Bool := kF kd (fun t => t == s) l p
def mustT (kd : Int) (s : List UInt8) (l : List Tok) (p : PS) : PS := if isT kd s l p then stepF p else failS 2 p
def namedT (kd : Int) (ok : List UInt8 → Bool) (l : List Tok) (p : PS) : List UInt8 × PS := takeF (kF kd ok l p) l p
def twiceT (kd : Int) (ok : List UInt8 → Bool) (names : List (List UInt8)) (l : List Tok) (p : PS) : Bool := kF kd ok l p && decide (curT l p ∈ names)
def freshT (kd : Int) (ok : List UInt8 → Bool) (names : List (List UInt8)) (l : List Tok) (p : PS) : List UInt8 × PS := namedT kd ok l (if twiceT kd ok names l p then failS 5 p else p)
def begB (dg : List UInt8 → Int) (kd : Int) (tx : List UInt8) : Bool :=
  if kd = 3 then decide (0 ≤ dg tx)
  else if kd = 1 then nameN tx || decide (tx = wFn) || decide (tx = wIf) || decide (tx = wCase)
  else if kd = 2 then decide (tx = wTrue) || decide (tx = wFalse) || tagN tx
  else decide (kd = 4) && (decide (tx = [123]) || decide (tx = [91]) || decide (tx = [40]))
def kindC (l : List Tok) (p : PS) : Int := match cur l p with
  | some t => t.kind
  | none => 0
section
variable (l : List Tok) (dg : List UInt8 → Int) (rec : PS → Option (Tm × PS))
def severO (en : List UInt8) : Nat → List Tm → PS → Option (List Tm × PS)
  | 0, _, _ => none
  | f + 1, acc, p => match rec p with
    | none => none
    | some (t, q) => if isT 4 en l q then some (acc ++ [t], stepF q) else if (mustT 4 [44] l q).bad = 0 then severO en f (acc ++ [t]) (mustT 4 [44] l q) else some (acc ++ [t], mustT 4 [44] l q)
def sevO (f : Nat) (en : List UInt8) (non : Bool) (p : PS) : Option (List Tm × PS) :=
  if p.bad = 0 then (if non && isT 4 en l p then some ([], stepF p) else severO l rec en f [] p) else some ([], p)
def fldsO : Nat → List Bnd → PS → Option (List Bnd × PS)
  | 0, _, _ => none
  | f + 1, acc, p => match rec (mustT 4 [61] l (freshT 1 nameN (acc.map (·.1)) l p).2) with
    | none => none
    | some (t, q) => if isT 4 [125] l q then some (acc ++ [((freshT 1 nameN (acc.map (·.1)) l p).1, t)], stepF q)
      else if (mustT 4 [44] l q).bad = 0 then fldsO f (acc ++ [((freshT 1 nameN (acc.map (·.1)) l p).1, t)]) (mustT 4 [44] l q) else some (acc ++ [((freshT 1 nameN (acc.map (·.1)) l p).1, t)], mustT 4 [44] l q)
def insB (x : Bnd) : List Bnd → List Bnd
  | [] => [x]
  | y :: r => if ltB x.1 y.1 then x :: y :: r else y :: insB x r
def sortB : List Bnd → List Bnd
  | [] => []
  | x :: r => insB x (sortB r)
def makeB (l : List Bnd) : Tm := .mk 5 0 [] [] (l.map (·.1)) [] [] (l.map (·.2))
def fieldsO (f : Nat) (p : PS) : Option (Tm × PS) :=
  if p.bad = 0 then (if isT 4 [125] l p then some (makeB [], stepF p) else (fldsO l rec f [] p).map fun r => (makeB (sortB r.1), r.2)) else some (makeB [], p)
def parsO : Nat → List (List UInt8) → List Ty → PS → Option (List (List UInt8) × List Ty × PS)
  | 0, _, _, _ => none
  | f + 1, ns, ys, p =>
    let n := freshT 1 nameN ns l p
    let y := typS l (mustT 4 [58] l n.2)
    if isT 4 [41] l y.2 then some (ns ++ [n.1], ys ++ [y.1], stepF y.2)
    else if (mustT 4 [44] l y.2).bad = 0 then parsO f (ns ++ [n.1]) (ys ++ [y.1]) (mustT 4 [44] l y.2) else some (ns ++ [n.1], ys ++ [y.1], mustT 4 [44] l y.2)
def parO (f : Nat) (p : PS) : Option (List (List UInt8) × List Ty × PS) :=
  if p.bad = 0 then (if isT 4 [41] l p then some ([], [], stepF p) else parsO l f [] [] p) else some ([], [], p)
def funO (f : Nat) (p : PS) : Option (Tm × PS) := match parO l f (mustT 4 [40] l p) with
  | none => none
  | some (ns, ys, q) => match rec q with
    | none => none
    | some (t, q2) => some (.mk 8 0 [] [] ns [] ys [t], q2)
def choO (p : PS) : Option (Tm × PS) := match rec p with
  | none => none
  | some (a, p1) => match rec (mustT 1 wThen l p1) with
    | none => none
    | some (b, p2) => match rec (mustT 1 wElse l p2) with
      | none => none
      | some (c, p3) => some (.mk 11 0 [] [] [] [] [] [a, b, c], p3)
def priO (f : Nat) (p : PS) : Option (Tm × PS) :=
  let kd := kindC l p
  let tx := curT l p
  let p1 := stepF p
  if kd = 3 then some (.mk 1 (dg tx) [] [] [] [] [] [], p1)
  else if kd = 1 then (if isT 4 [58] l p1 then some (.mk 4 0 tx (namedT 1 nameN l (stepF p1)).1 [] [] [] [], (namedT 1 nameN l (stepF p1)).2) else some (.mk 3 0 [] tx [] [] [] [], p1))
  else if kd = 2 then (if tx = wTrue then some (.mk 2 1 [] [] [] [] [] [], p1) else if tx = wFalse then some (.mk 2 0 [] [] [] [] [] [], p1) else match rec (mustT 4 [40] l p1) with
    | none => none
    | some (t, q) => some (.mk 7 0 [] tx [] [] [] [t], mustT 4 [41] l q))
  else if tx = [123] then fieldsO l rec f p1
  else if tx = [91] then (sevO l rec f [93] false p1).map fun r => (.mk 10 0 [] [] [] [] [] r.1, r.2)
  else match rec p1 with
    | none => none
    | some (t, q) => some (t, mustT 4 [41] l q)
def behO (g : Nat) : Nat → Tm → PS → Option (Tm × PS)
  | 0, _, _ => none
  | f + 1, t, p => if p.bad = 0 then
      (if isT 4 [46] l p then behO g f (.mk 6 0 [] (namedT 1 nameN l (stepF p)).1 [] [] [] [t]) (namedT 1 nameN l (stepF p)).2
       else if isT 4 [40] l p then (match sevO l rec g [41] true (stepF p) with
         | none => none
         | some (ts, q) => behO g f (.mk 9 0 [] [] [] [] [] (t :: ts)) q)
       else some (t, p)) else some (t, p)
end
def termO (l : List Tok) (dg : List UInt8 → Int) : Nat → Nat → PS → Option (Tm × PS)
  | 0, _, _ => none
  | f + 1, dp, p =>
    if begB dg (kindC l p) (curT l p) then
      (if 2000 ≤ dp then some (Tm0, failS 3 p)
       else if kindC l p = 1 ∧ curT l p = wFn then funO l (termO l dg f (dp + 1)) f (stepF p)
       else if kindC l p = 1 ∧ curT l p = wIf then choO l (termO l dg f (dp + 1)) (stepF p)
       else match priO l dg (termO l dg f (dp + 1)) f p with
         | none => none
         | some (t, q) => behO l (termO l dg f (dp + 1)) f f t q)
    else some (Tm0, failS 2 p)
end Go.Proofs.Mv.App
