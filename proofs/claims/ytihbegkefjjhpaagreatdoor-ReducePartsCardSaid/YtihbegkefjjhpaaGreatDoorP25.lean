/- A part of the proofs: machine, contracts, laws. No condition of its own. -/
import Derived.Test.YtihbegkefjjhpaaGreatDoorP24
set_option linter.unusedSimpArgs false
set_option linter.unusedVariables false
set_option linter.unusedSectionVars false
open Go Go.Proofs Go.Proofs.Mv.V
set_option maxRecDepth 10000
namespace Go.Proofs.Mv.App
inductive TyZ : Ty → Prop where
  | mk (kind : Int) (pkg : List UInt8) (major : Int) (mod name : List UInt8) (names : List (List UInt8)) (subs : List Ty) (h1 : names.length ≤ 1000000) (h2 : subs.length ≤ 1000000) (h3 : ∀ t ∈ subs, TyZ t) : TyZ (.mk kind pkg major mod name names subs)
inductive TmZ : Tm → Prop where
  | mk (k N : Int) (mod nm : List UInt8) (names vars : List (List UInt8)) (types : List Ty) (subs : List Tm) (h1 : names.length ≤ 1000000) (h2 : vars.length ≤ 1000000) (h3 : types.length ≤ 1000000) (h4 : subs.length ≤ 1000000) (h5 : ∀ y ∈ types, TyZ y) (h6 : ∀ t ∈ subs, TmZ t) : TmZ (.mk k N mod nm names vars types subs)
theorem len_manyTs : ∀ l : List Ty, l.length ≤ manyTs l
  | [] => by simp
  | t :: ts => by have := manyT_pos t; have := len_manyTs ts; simp only [manyTs, List.length_cons]; omega
theorem len_manyTms : ∀ l : List Tm, l.length ≤ manyTms l
  | [] => by simp
  | t :: ts => by have := many_pos t; have := len_manyTms ts; simp only [manyTms, List.length_cons]; omega
mutual
theorem fewT_z : ∀ (t : Ty) (m : Int), m ≤ 1000000 → 0 ≤ fewT t m → TyZ t ∧ manyT t + fewT t m = m
  | .mk kind pkg major mod name names subs, m, hm, h => by
    simp only [fewT] at h ⊢
    by_cases c : m - 1 < 0 ∨ 200 < names.length
    · rw [if_pos c] at h; omega
    rw [if_neg c] at h ⊢
    obtain ⟨h1, h2⟩ := fewTs_z subs (m - 1) (by omega) (by omega) h
    have := len_manyTs subs
    refine ⟨.mk _ _ _ _ _ _ _ (by omega) (by omega) h1, ?_⟩
    simp only [manyT]; omega
theorem fewTs_z : ∀ (l : List Ty) (m : Int), m ≤ 1000000 → 0 ≤ m → 0 ≤ fewTs l m → (∀ t ∈ l, TyZ t) ∧ manyTs l + fewTs l m = m
  | [], m, hm, h0, h => by simp [fewTs, manyTs]
  | t :: ts, m, hm, h0, h => by
    simp only [fewTs, if_pos h0, manyTs] at h ⊢
    have h4 : 0 ≤ fewT t m := by
      by_cases c : 0 ≤ fewT t m
      · exact c
      · rw [fewTs_neg ts _ (by omega)] at h; omega
    obtain ⟨a1, a2⟩ := fewT_z t m hm h4
    obtain ⟨b1, b2⟩ := fewTs_z ts _ (by omega) h4 h
    refine ⟨fun u hu => ?_, by omega⟩
    rcases List.mem_cons.1 hu with e | hu
    · rw [e]; exact a1
    · exact b1 u hu
end
theorem few3_z {t : Ty} (h : few3 t = true) : TyZ t := by
  simp only [few3, decide_eq_true_eq] at h
  exact (fewT_z t 3000 (by omega) h).1
mutual
theorem fewTm_z : ∀ (t : Tm) (m : Int), m ≤ 1000000 → 0 ≤ fewTm t m → TmZ t ∧ manyTm t + fewTm t m = m
  | .mk k N mod nm names vars types subs, m, hm, h => by
    simp only [fewTm] at h ⊢
    by_cases c : m - 1 < 0 ∨ 100 < names.length ∨ 100 < vars.length ∨ 100 < types.length
    · rw [if_pos c] at h; omega
    rw [if_neg c] at h ⊢
    by_cases c2 : types.all few3 = true
    · rw [if_pos c2] at h ⊢
      obtain ⟨h1, h2⟩ := fewTms_z subs (m - 1) (by omega) (by omega) h
      have := len_manyTms subs
      refine ⟨.mk _ _ _ _ _ _ _ _ (by omega) (by omega) (by omega) (by omega) (fun y hy => few3_z (List.all_eq_true.1 c2 y hy)) h1, ?_⟩
      simp only [manyTm]; omega
    · rw [if_neg c2] at h; omega
theorem fewTms_z : ∀ (l : List Tm) (m : Int), m ≤ 1000000 → 0 ≤ m → 0 ≤ fewTms l m → (∀ t ∈ l, TmZ t) ∧ manyTms l + fewTms l m = m
  | [], m, hm, h0, h => by simp [fewTms, manyTms]
  | t :: ts, m, hm, h0, h => by
    simp only [fewTms, if_pos h0, manyTms] at h ⊢
    have h4 : 0 ≤ fewTm t m := by
      by_cases c : 0 ≤ fewTm t m
      · exact c
      · rw [fewTms_neg ts _ (by omega)] at h; omega
    obtain ⟨a1, a2⟩ := fewTm_z t m hm h4
    obtain ⟨b1, b2⟩ := fewTms_z ts _ (by omega) h4 h
    refine ⟨fun u hu => ?_, by omega⟩
    rcases List.mem_cons.1 hu with e | hu
    · rw [e]; exact a1
    · exact b1 u hu
end
theorem fewTm3_z {t : Tm} (h : fewTm3 t = true) : TmZ t := by
  simp only [fewTm3, decide_eq_true_eq] at h
  exact (fewTm_z t 2000 (by omega) h).1
structure CyL [GI] (kind : Int) (pkg : List UInt8) (major : Int) (mod name : List UInt8) (NL SL : List (List D)) (m : Mem) (n : Nat) (b : Nat × D) (m2 : Mem) (n2 : Nat) : Prop where
  o0 : m2 n = some ⟨7, [[I kind, S pkg, I major, S mod, S name, .own (n + 1 + 1) 1 0 NL.length 1, b.2]], 0⟩
  o1 : m2 (n + 1) = some ⟨7, [[.v (.int .i64 0), .v (.string (ofL [])), .v (.int .i64 0), .v (.string (ofL [])), .v (.string (ofL [])), .v (.slice none 0 0), .v (.slice none 0 0)]], 0⟩
  oN : m2 (n + 1 + 1) = some ⟨1, NL, 1⟩
  fr : ∀ j, j < n → m2 j = m j
  nn : n + 3 ≤ n2
  le : b.1 ≤ SL.length
  ls : Lst m2 7 (SL.take b.1) b.2
  kf : ∀ j, kof b.2 = some j → n + 3 ≤ j ∧ j < n2
set_option maxHeartbeats 8000000 in
theorem cCopyTy {t : Ty} (ht : TyZ t) : Pc Tryz.prog 30 [.agg (tyD t)] (.agg (tyD t)) := by
  induction ht with
  | mk kind pkg major mod name names subs h1 h2 h3 ih =>
  refine pc_pub (fun m n => ?_)
  have nn1 : n ≠ n + 1 := by omega
  have n1n : n + 1 ≠ n := by omega
  have nn2 : n ≠ n + 1 + 1 := by omega
  have n2n : n + 1 + 1 ≠ n := by omega
  have n12 : n + 1 ≠ n + 1 + 1 := by omega
  have n21 : n + 1 + 1 ≠ n + 1 := by omega
  have hSL : (subs.map tyD).length = subs.length := by simp
  have hSG : ∀ i (h : i < subs.length), (subs.map tyD)[i]? = some (tyD subs[i]) := fun i h => by simp [h]
  have hNL : (names.map fun s => [S s]).length = names.length := by simp
  have hpn : ∀ e ∈ names.map fun s => [S s], ∀ d ∈ e, Pur d := pur_ss
  have hpy : ∀ e ∈ subs.map tyD, ∀ d ∈ e, Pur d := fun e he d hd => by
    obtain ⟨y, _, rfl⟩ := List.mem_map.1 he
    exact pur_ty y d hd
  have ih' : ∀ i (h : i < subs.length), Pc Tryz.prog 30 [.agg (tyD subs[i])] (.agg (tyD subs[i])) := fun i h => ih _ (List.getElem_mem h)
  simp only [tyD, tysD_eq, sl1]
  generalize (names.map fun s => [S s]) = NL at hNL hpn ⊢
  generalize subs.map tyD = SL at hSL hSG hpy ⊢
  refine acalls_vcC [0, 1, 2, 3, 4, 16] Tryz.func30 Tryz.ntmps30 (by kernel_rfl) rfl rfl (by simp) ?_
  simp -dsimp [I, S, set_ne, nn1, n1n, nn2, n2n, n12, n21]
  refine ⟨by omega, ?_⟩
  refine vloop_as (β := Nat × D) (fun b => [(1, .ptr n 0 0 0), (2, .ptr (n + 1) 0 0 0), (3, .sl 7 SL), (4, I b.1)]) (CyL kind pkg major mod name NL SL m n) (fun b => SL.length - b.1) (0, .v (.slice none 0 0)) (by simp [I])
    ⟨by simp [set_ne, I, S, nn1, nn2], by simp [set_ne, n12, n1n], by simp [set_ne, n2n], fun j hj => by simp [set_ne, show j ≠ n by omega, show j ≠ n + 1 by omega, show j ≠ n + 1 + 1 by omega], by omega, by omega, by simp; exact .nil, by simp [kof]⟩ ?_
  rintro ⟨i, d⟩ m2 n2 ⟨o0, o1, oN, hfr, hnn, hle, hls, hkf⟩
  simp only at o0 hle hls hkf
  by_cases hi : (i : Int) < SL.length
  · have hi' : i < SL.length := by omega
    have his : i < subs.length := by omega
    have wi : IntKind.i64.wrap ((i : Int) + 1) = (i : Int) + 1 := wrap_i64 (by omega) (by omega)
    have hgs : SL[i] = tyD subs[i] := get_opt (hSG i his) hi'
    have hz : (tyD subs[i]).length = 7 := by simp
    have hc := ih' i his
    have htk : SL.take (i + 1) = SL.take i ++ [tyD subs[i]] := by rw [List.take_succ_eq_append_getElem hi', hgs]
    have hRl : (SL.take i).length = i := by simp; omega
    generalize SL.take i = RL at hls htk hRl
    generalize tyD subs[i] = X at hgs hz hc htk
    have hX : List.take 7 X = X := List.take_of_length_le (by omega)
    simp -dsimp [I, S, hi, o0, o1, set_ne]
    refine vdraw_tree [0, 1, 0, 0, 12, 28, 60, 124, 255, 511, 1023] (.rd 0 (.rd 1 (.rd 2 (.rd 3 (.rd 4 (.rd 5 (.wr (.cons 6 (.wr (.cons 7 (.wr (.cons 8 (.rd 9 (.wr (.cons 10 (.fin) (.nil)))) (.nil))) (.nil))) (.nil))))))))) (by kernel_rfl) (by kernel_rfl) ?_
    simp -dsimp [I, S, hi, hi', hgs, hz, hX, o0, o1, set_ne]
    refine pcall hc ?_
    refine ⟨fun _ _ _ => rfl, ?_⟩
    simp -dsimp [I, S, hz, hX, o0, o1, set_ne]
    refine ⟨by rw [set_ne _ _ _ _ (by omega)]; exact o0, ?_⟩
    refine b4_append (es := RL) ?_ ?_ trivial trivial (by omega) (by simp [hRl]; omega) ?_
    · exact hls.frame fun j hj => by have := hkf j hj; simp [set_ne, show j ≠ n2 by omega]
    · exact fun j hj => by have := hkf j hj; omega
    intro da ma na a1 a2 a3 a4
    have hma : ∀ j, j < n + 3 → ma j = m2 j := fun j hj => by
      rw [a4 j (by omega) (fun e => by have := hkf j e; omega)]
      simp [set_ne, show j ≠ n2 by omega]
    have ka : ∀ j, kof da = some j → n + 3 ≤ j ∧ j < na := fun j hj => by
      have := a3 j hj
      rcases this.2 with e | e
      · exact ⟨(hkf j e).1, this.1⟩
      · omega
    refine ⟨fun p hp _ => ?_, ?_⟩
    · simp only [List.mem_cons, List.not_mem_nil, or_false] at hp
      subst hp
      exact a4 _ (by dsimp only; omega) (fun e => by have := hkf _ e; dsimp only at this; omega)
    have o0a : ma n = _ := (hma n (by omega)).trans o0
    simp -dsimp [I, S, o0a, wi, (okD_lst a1).1, (okD_lst a1).2]
    refine rnd (i + 1, da) (by simp; omega) (by simp [I]) ⟨?_, ?_, ?_, ?_, ?_, ?_, ?_, ?_⟩
    · simp [I, S]
    · rw [set_ne _ _ _ _ (by omega), hma (n + 1) (by omega)]; exact o1
    · rw [set_ne _ _ _ _ (by omega), hma (n + 1 + 1) (by omega)]; exact oN
    · intro j hj; rw [set_ne _ _ _ _ (by omega), hma j (by omega)]; exact hfr j hj
    · omega
    · simp; omega
    · simp only; rw [htk]; exact a1.frame fun j hj => set_ne _ _ _ _ (by have := ka j hj; omega)
    · exact ka
  · have e : i = SL.length := by omega
    subst e
    rw [List.take_length] at hls
    simp -dsimp [I, S, hi, o0, o1]
    refine pcp ?_ fun j hj => by rw [set_ne _ _ _ _ (by omega)]; exact hfr j hj
    refine .agg (.cons (pur_I _).pub (.cons (pur_S _).pub (.cons (pur_I _).pub (.cons (pur_S _).pub (.cons (pur_S _).pub (.cons ?_ (.cons ?_ .nil)))))))
    · exact .lstP (Lst.mk (es' := NL) (g := 1) (by rw [set_ne _ _ _ _ (by omega)]; exact oN) rfl (Nat.le_refl _) (List.take_length)) (fun j hj => by simp at hj; omega) hpn
    · exact .lstP (hls.frame fun j hj => set_ne _ _ _ _ (by have := hkf j hj; omega)) (fun j hj => by have := hkf j hj; omega) hpy
end Go.Proofs.Mv.App
open Go Go.Proofs Go.Proofs.Mv.V
set_option maxRecDepth 10000
namespace Go.Proofs.Mv.App
structure CmL [GI] (k N : Int) (mod nm : List UInt8) (NL VL YL SL : List (List D)) (m : Mem) (n : Nat) (b : Nat × D × Nat × D) (m2 : Mem) (n2 : Nat) : Prop where
  o0 : m2 n = some ⟨8, [[I k, I N, S mod, S nm, .own (n + 1 + 1) 1 0 NL.length 1, .own (n + 1 + 1 + 1) 1 0 VL.length 1, b.2.1, b.2.2.2]], 0⟩
  o1 : m2 (n + 1) = some zTo
  oN : m2 (n + 1 + 1) = some ⟨1, NL, 1⟩
  oV : m2 (n + 1 + 1 + 1) = some ⟨1, VL, 1⟩
  fr : ∀ j, j < n → m2 j = m j
  nn : n + 4 ≤ n2
  ly : b.1 ≤ YL.length
  lls : b.2.2.1 ≤ SL.length
  yl : Lst m2 7 (YL.take b.1) b.2.1
  sl : Lst m2 8 (SL.take b.2.2.1) b.2.2.2
  yk : ∀ j, kof b.2.1 = some j → n + 4 ≤ j ∧ j < n2
  sk : ∀ j, kof b.2.2.2 = some j → n + 4 ≤ j ∧ j < n2
  df : ∀ j, kof b.2.1 = some j → kof b.2.2.2 ≠ some j
set_option maxHeartbeats 8000000 in
theorem cCopyTm {t : Tm} (ht : TmZ t) : Pc Tryz.prog 9 [.agg (tmD t)] (.agg (tmD t)) := by
  induction ht with
  | mk k N mod nm names vars types subs h1 h2 h3 h4 h5 h6 ih =>
  refine pc_pub (fun m n => ?_)
  have nn1 : n ≠ n + 1 := by omega
  have n1n : n + 1 ≠ n := by omega
  have nn2 : n ≠ n + 1 + 1 := by omega
  have n2n : n + 1 + 1 ≠ n := by omega
  have n12 : n + 1 ≠ n + 1 + 1 := by omega
  have n21 : n + 1 + 1 ≠ n + 1 := by omega
  have nn3 : n ≠ n + 1 + 1 + 1 := by omega
  have n3n : n + 1 + 1 + 1 ≠ n := by omega
  have n13 : n + 1 ≠ n + 1 + 1 + 1 := by omega
  have n31 : n + 1 + 1 + 1 ≠ n + 1 := by omega
  have n23 : n + 1 + 1 ≠ n + 1 + 1 + 1 := by omega
  have n32 : n + 1 + 1 + 1 ≠ n + 1 + 1 := by omega
  have hSL : (subs.map tmD).length = subs.length := by simp
  have hSG : ∀ i (h : i < subs.length), (subs.map tmD)[i]? = some (tmD subs[i]) := fun i h => by simp [h]
  have hYL : (types.map tyD).length = types.length := by simp
  have hYG : ∀ i (h : i < types.length), (types.map tyD)[i]? = some (tyD types[i]) := fun i h => by simp [h]
  have hNL : (names.map fun s => [S s]).length = names.length := by simp
  have hVL : (vars.map fun s => [S s]).length = vars.length := by simp
  have hpn : ∀ e ∈ names.map fun s => [S s], ∀ d ∈ e, Pur d := pur_ss
  have hpv : ∀ e ∈ vars.map fun s => [S s], ∀ d ∈ e, Pur d := pur_ss
  have hps := pur_tmm subs
  have hpy : ∀ e ∈ types.map tyD, ∀ d ∈ e, Pur d := fun e he d hd => by
    obtain ⟨y, _, rfl⟩ := List.mem_map.1 he
    exact pur_ty y d hd
  have ih' : ∀ i (h : i < subs.length), Pc Tryz.prog 9 [.agg (tmD subs[i])] (.agg (tmD subs[i])) := fun i h => ih _ (List.getElem_mem h)
  have iy' : ∀ i (h : i < types.length), Pc Tryz.prog 30 [.agg (tyD types[i])] (.agg (tyD types[i])) := fun i h => cCopyTy (h5 _ (List.getElem_mem h))
  simp only [tmD, tmsD_eq, sl1]
  generalize (names.map fun s => [S s]) = NL at hNL hpn ⊢
  generalize (vars.map fun s => [S s]) = VL at hVL hpv ⊢
  generalize types.map tyD = YL at hYL hYG hpy ⊢
  generalize subs.map tmD = SL at hSL hSG hps ⊢
  refine acalls_vcC [0, 1, 2, 3, 4, 5, 6, 26, 42] Tryz.func9 Tryz.ntmps9 (by kernel_rfl) rfl rfl (by simp) ?_
  simp -dsimp [I, S, set_ne, nn1, n1n, nn2, n2n, n12, n21, nn3, n3n, n13, n31, n23, n32]
  refine ⟨by omega, by omega, ?_⟩
  refine vloop_as (β := Nat × D) (fun b => [(1, .ptr n 0 0 0), (2, .ptr (n + 1) 0 0 0), (3, .sl 7 YL), (4, .sl 8 SL), (5, I b.1)]) (fun b M Nx => CmL k N mod nm NL VL YL SL m n (b.1, b.2, 0, .v (.slice none 0 0)) M Nx) (fun b => YL.length - b.1) (0, .v (.slice none 0 0)) (by simp [I])
    ⟨by simp [set_ne, I, S, nn1, nn2, nn3], by simp [set_ne, n12, n1n, n13, zTo], by simp [set_ne, n2n, n23], by simp [set_ne, n3n], fun j hj => by simp [set_ne, show j ≠ n by omega, show j ≠ n + 1 by omega, show j ≠ n + 1 + 1 by omega, show j ≠ n + 1 + 1 + 1 by omega], by omega, Nat.zero_le _, Nat.zero_le _, by simp; exact .nil, by simp; exact .nil, by simp [kof], by simp [kof], by simp [kof]⟩ ?_
  rintro ⟨i, d⟩ m2 n2 ⟨o0, o1, oN, oV, hfr, hnn, hly, hlls, hyl, hsl, hyk, hsk, hdf⟩
  simp only at o0 hly hlls hyl hsl hyk hsk
  clear hdf hsk hsl
  by_cases hi : (i : Int) < YL.length
  · have hi' : i < YL.length := by omega
    have his : i < types.length := by omega
    have wi : IntKind.i64.wrap ((i : Int) + 1) = (i : Int) + 1 := wrap_i64 (by omega) (by omega)
    have hgs : YL[i] = tyD types[i] := get_opt (hYG i his) hi'
    have hz : (tyD types[i]).length = 7 := by simp
    have hc := iy' i his
    have htk : YL.take (i + 1) = YL.take i ++ [tyD types[i]] := by rw [List.take_succ_eq_append_getElem hi', hgs]
    have hRl : (YL.take i).length = i := by simp; omega
    generalize YL.take i = RL at hyl htk hRl
    generalize tyD types[i] = X at hgs hz hc htk
    have hX : List.take 7 X = X := List.take_of_length_le (by omega)
    simp -dsimp [I, S, hi, o0, o1, set_ne]
    refine vdraw_tree [0, 1, 0, 0, 12, 28, 60, 124, 255, 511, 1023] (.rd 0 (.rd 1 (.rd 2 (.rd 3 (.rd 4 (.rd 5 (.wr (.cons 6 (.wr (.cons 7 (.wr (.cons 8 (.rd 9 (.wr (.cons 10 (.fin) (.nil)))) (.nil))) (.nil))) (.nil))))))))) (by kernel_rfl) (by kernel_rfl) ?_
    simp -dsimp [I, S, hi, hi', hgs, hz, hX, o0, o1, set_ne]
    refine pcall hc ?_
    refine ⟨fun _ _ _ => rfl, ?_⟩
    simp -dsimp [I, S, hz, hX, o0, o1, set_ne]
    refine ⟨by rw [set_ne _ _ _ _ (by omega)]; exact o0, ?_⟩
    refine b4_append (es := RL) ?_ ?_ trivial trivial (by omega) (by simp [hRl]; omega) ?_
    · exact hyl.frame fun j hj => by have := hyk j hj; simp [set_ne, show j ≠ n2 by omega]
    · exact fun j hj => by have := hyk j hj; omega
    intro da ma na a1 a2 a3 a4
    have hma : ∀ j, j < n + 4 → ma j = m2 j := fun j hj => by
      rw [a4 j (by omega) (fun e => by have := hyk j e; omega)]
      simp [set_ne, show j ≠ n2 by omega]
    have ka : ∀ j, kof da = some j → n + 4 ≤ j ∧ j < na := fun j hj => by
      have := a3 j hj
      rcases this.2 with e | e
      · exact ⟨(hyk j e).1, this.1⟩
      · omega
    refine ⟨fun p hp _ => ?_, ?_⟩
    · simp only [List.mem_cons, List.not_mem_nil, or_false] at hp
      subst hp
      exact a4 _ (by dsimp only; omega) (fun e => by have := hyk _ e; dsimp only at this; omega)
    have o0a : ma n = _ := (hma n (by omega)).trans o0
    simp -dsimp [I, S, o0a, wi, (okD_lst a1).1, (okD_lst a1).2]
    refine rnd (i + 1, da) (by simp; omega) (by simp [I]) ⟨?_, ?_, ?_, ?_, ?_, ?_, ?_, ?_, ?_, ?_, ?_, ?_, ?_⟩
    · simp [I, S]
    · rw [set_ne _ _ _ _ (by omega), hma (n + 1) (by omega)]; exact o1
    · rw [set_ne _ _ _ _ (by omega), hma (n + 1 + 1) (by omega)]; exact oN
    · rw [set_ne _ _ _ _ (by omega), hma (n + 1 + 1 + 1) (by omega)]; exact oV
    · intro j hj; rw [set_ne _ _ _ _ (by omega), hma j (by omega)]; exact hfr j hj
    · omega
    · simp; omega
    · simp
    · simp only; rw [htk]; exact a1.frame fun j hj => set_ne _ _ _ _ (by have := ka j hj; omega)
    · simp; exact .nil
    · exact ka
    · simp [kof]
    · simp [kof]
  · have e : i = YL.length := by omega
    subst e
    rw [List.take_length] at hyl
    have odY := okD_lst hyl
    simp -dsimp [I, S, hi, o0, o1]
    refine vloop_as (β := Nat × D) (fun b => [(1, .ptr n 0 0 0), (2, .ptr (n + 1) 0 0 0), (3, .sl 7 YL), (4, .sl 8 SL), (6, I b.1)]) (fun b M Nx => CmL k N mod nm NL VL YL SL m n (YL.length, d, b.1, b.2) M Nx) (fun b => SL.length - b.1) (0, .v (.slice none 0 0)) (by simp [I])
      ⟨o0, o1, oN, oV, hfr, hnn, by simp, by simp, by simp; exact hyl, by simp; exact .nil, hyk, by simp [kof], by simp [kof]⟩ ?_
    clear o0 o1 oN oV hfr hnn hyl hyk hlls hi hly
    rintro ⟨i, d2⟩ m2 n2 ⟨o0, o1, oN, oV, hfr, hnn, hly, hlls, hyl, hsl, hyk, hsk, hdf⟩
    simp only at o0 hly hlls hyl hsl hyk hsk hdf
    rw [List.take_length] at hyl
    by_cases hi : (i : Int) < SL.length
    · have hi' : i < SL.length := by omega
      have his : i < subs.length := by omega
      have wi : IntKind.i64.wrap ((i : Int) + 1) = (i : Int) + 1 := wrap_i64 (by omega) (by omega)
      have hgs : SL[i] = tmD subs[i] := get_opt (hSG i his) hi'
      have hz : (tmD subs[i]).length = 8 := by simp
      have hc := ih' i his
      have htk : SL.take (i + 1) = SL.take i ++ [tmD subs[i]] := by rw [List.take_succ_eq_append_getElem hi', hgs]
      have hRl : (SL.take i).length = i := by simp; omega
      generalize SL.take i = RL at hsl htk hRl
      generalize tmD subs[i] = X at hgs hz hc htk
      have hX : List.take 8 X = X := List.take_of_length_le (by omega)
      simp -dsimp [I, S, hi, o0, o1, set_ne]
      refine vdraw_tree [0, 1, 0, 0, 12, 28, 60, 124, 255, 511, 1023] (.rd 0 (.rd 1 (.rd 2 (.rd 3 (.rd 4 (.rd 5 (.wr (.cons 6 (.wr (.cons 7 (.wr (.cons 8 (.rd 9 (.wr (.cons 10 (.fin) (.nil)))) (.nil))) (.nil))) (.nil))))))))) (by kernel_rfl) (by kernel_rfl) ?_
      simp -dsimp [I, S, hi, hi', hgs, hz, hX, o0, o1, set_ne]
      refine pcall hc ?_
      refine ⟨fun _ _ _ => rfl, ?_⟩
      simp -dsimp [I, S, hz, hX, o0, o1, set_ne]
      refine ⟨by rw [set_ne _ _ _ _ (by omega)]; exact o0, ?_⟩
      refine b4_append (es := RL) ?_ ?_ trivial trivial (by omega) (by simp [hRl]; omega) ?_
      · exact hsl.frame fun j hj => by have := hsk j hj; simp [set_ne, show j ≠ n2 by omega]
      · exact fun j hj => by have := hsk j hj; omega
      intro da ma na a1 a2 a3 a4
      have hma : ∀ j, j < n2 → kof d2 ≠ some j → ma j = m2 j := fun j hj hk => by
        rw [a4 j (by omega) hk]
        simp [set_ne, show j ≠ n2 by omega]
      have hlo : ∀ j, j < n + 4 → kof d2 ≠ some j := fun j hj e => by have := hsk j e; omega
      have ka : ∀ j, kof da = some j → n + 4 ≤ j ∧ j < na := fun j hj => by
        have := a3 j hj
        rcases this.2 with e | e
        · exact ⟨(hsk j e).1, this.1⟩
        · omega
      refine ⟨fun p hp _ => ?_, ?_⟩
      · simp only [List.mem_cons, List.not_mem_nil, or_false] at hp
        subst hp
        exact a4 _ (by dsimp only; omega) (hlo _ (by dsimp only; omega))
      have o0a : ma n = _ := (hma n (by omega) (hlo n (by omega))).trans o0
      simp -dsimp [I, S, o0a, wi, (okD_lst a1).1, (okD_lst a1).2]
      refine rnd (i + 1, da) (by simp; omega) (by simp [I]) ⟨?_, ?_, ?_, ?_, ?_, ?_, ?_, ?_, ?_, ?_, ?_, ?_, ?_⟩
      · simp [I, S]
      · rw [set_ne _ _ _ _ (by omega), hma (n + 1) (by omega) (hlo _ (by omega))]; exact o1
      · rw [set_ne _ _ _ _ (by omega), hma (n + 1 + 1) (by omega) (hlo _ (by omega))]; exact oN
      · rw [set_ne _ _ _ _ (by omega), hma (n + 1 + 1 + 1) (by omega) (hlo _ (by omega))]; exact oV
      · intro j hj; rw [set_ne _ _ _ _ (by omega), hma j (by omega) (hlo _ (by omega))]; exact hfr j hj
      · omega
      · simp
      · simp; omega
      · simp only [List.take_length]
        exact hyl.frame fun j hj => by
          have := hyk j hj
          rw [set_ne _ _ _ _ (by omega), hma j (by omega) (hdf j hj)]
      · simp only; rw [htk]; exact a1.frame fun j hj => set_ne _ _ _ _ (by have := ka j hj; omega)
      · exact fun j hj => by have := hyk j hj; exact ⟨this.1, by omega⟩
      · exact ka
      · intro j hj e
        have := a3 j e
        rcases this.2 with e2 | e2
        · exact hdf j hj e2
        · have := hyk j hj; omega
    · have e : i = SL.length := by omega
      subst e
      rw [List.take_length] at hsl
      simp -dsimp [I, S, hi, o0, o1, zTo]
      refine pcp ?_ fun j hj => by rw [set_ne _ _ _ _ (by omega)]; exact hfr j hj
      refine .agg (.cons (pur_I _).pub (.cons (pur_I _).pub (.cons (pur_S _).pub (.cons (pur_S _).pub (.cons ?_ (.cons ?_ (.cons ?_ (.cons ?_ .nil))))))))
      · exact .lstP (Lst.mk (es' := NL) (g := 1) (by rw [set_ne _ _ _ _ (by omega)]; exact oN) rfl (Nat.le_refl _) (List.take_length)) (fun j hj => by simp at hj; omega) hpn
      · exact .lstP (Lst.mk (es' := VL) (g := 1) (by rw [set_ne _ _ _ _ (by omega)]; exact oV) rfl (Nat.le_refl _) (List.take_length)) (fun j hj => by simp at hj; omega) hpv
      · exact .lstP (hyl.frame fun j hj => set_ne _ _ _ _ (by have := hyk j hj; omega)) (fun j hj => by have := hyk j hj; omega) hpy
      · exact .lstP (hsl.frame fun j hj => set_ne _ _ _ _ (by have := hsk j hj; omega)) (fun j hj => by have := hsk j hj; omega) hps
end Go.Proofs.Mv.App
open Go Go.Proofs Go.Proofs.Mv.V
set_option maxRecDepth 10000
namespace Go.Proofs.Mv.App
theorem once_code {l : List Df} {t : Tm} : (onceF l t).1 = 0 ∨ (onceF l t).1 = 3 ∨ (onceF l t).1 = 9 ∨ (onceF l t).1 = 12 := by
  have := step_code (l := l) t
  unfold onceF
  repeat' split
  all_goals simp_all
theorem runK_code {l : List Df} : ∀ (k : Nat) (t : Tm), (runK l k t).1 = 0 ∨ (runK l k t).1 = 3 ∨ (runK l k t).1 = 8 ∨ (runK l k t).1 = 9 ∨ (runK l k t).1 = 12
  | 0, t => by unfold runK; split <;> simp
  | k + 1, t => by
    have h := once_code (l := l) (t := t)
    have h2 := runK_code k (onceF l t).2.2 (l := l)
    unfold runK
    split
    · simp
    split
    · rename_i h0
      simp only
      omega
    · exact h2
theorem runK_le {l : List Df} : ∀ (k : Nat) (t : Tm), (runK l k t).2.1 ≤ k
  | 0, t => by unfold runK; split <;> simp
  | k + 1, t => by
    have h2 := runK_le k (onceF l t).2.2 (l := l)
    unfold runK
    split
    · simp
    split
    · simp
    · simp only; omega
theorem runK_w {l : List Df} (hd : ∀ d ∈ l, TmW d.term) : ∀ (k : Nat) (t : Tm), TmW t → TmW (runK l k t).2.2
  | 0, t, ht => by unfold runK; split; exact ht; exact tmw0
  | k + 1, t, ht => by
    unfold runK
    split
    · exact ht
    split
    · exact tmw0
    · exact runK_w hd k _ (once_w hd ht)
theorem fair_once {l : List Df} {t : Tm} (hf : fairF l t = true) (hv : valT t = false) (h0 : (onceF l t).1 = 0) : fairF l (onceF l t).2.2 = true ∧ (onceF l t).2.1 = true := by
  have ha := fair_all hf
  simp only [fairF, Bool.and_eq_true, decide_eq_true_eq, List.all_eq_true] at hf
  obtain ⟨⟨⟨hm, hc⟩, hl⟩, hdv⟩ := hf
  unfold onceF at h0 ⊢
  rw [hv] at h0 ⊢
  simp only [Bool.false_eq_true, if_false] at h0 ⊢
  by_cases h1 : (stepT l t).1 ≠ 0
  · rw [if_pos h1] at h0; exact absurd h0 h1
  rw [if_neg h1] at h0 ⊢
  by_cases h2 : mayTm (stepT l t).2 = true
  · rw [if_pos h2]
    refine ⟨?_, rfl⟩
    have hcl := clo_step (defs := l) (fun d hd => by have := hdv d hd; simp only [valF, Bool.and_eq_true] at this; exact this.1.2) t ha hc (by simpa using h1)
    simp only [fairF, Bool.and_eq_true, decide_eq_true_eq, List.all_eq_true]
    exact ⟨⟨⟨h2, hcl⟩, hl⟩, hdv⟩
  · rw [if_neg h2] at h0
    simp at h0
theorem cCode0 [GI] : Pc Tryz.prog 26 [.v .nilIface] (I 0) := by
  refine pc_of (pur_I _) (fun m n => ?_)
  refine acalls_vc [0, 2, 3, 5, 7, 13] Tryz.func26 Tryz.ntmps26 (by kernel_rfl) rfl rfl (by simp) ?_
  simp -dsimp
  exact pcq' rfl
structure PaL [GI] (l : List Df) (t : Tm) (F A : Nat) (V : List D) (m : Mem) (n : Nat) (b : Nat × Tm) (m3 : Mem) (n3 : Nat) : Prop where
  o12 : m3 (n + 1 + 1) = some ⟨8, [V], 0⟩
  o15 : m3 (n + 1 + 1 + 1) = some ⟨8, [tmD b.2], 0⟩
  fr : ∀ j, j < n → m3 j = m j
  nn : n + 4 ≤ n3
  le : b.1 ≤ A
  w : TmW b.2
  f : fairF l b.2 = true
  eq : runK l F t = ((runK l (F - b.1) b.2).1, (runK l (F - b.1) b.2).2.1 + b.1, (runK l (F - b.1) b.2).2.2)
set_option maxHeartbeats 8000000 in
theorem cReduceParts {l : List Df} {t : Tm} (hl : l.length ≤ 9223372036854775807) (hd : ∀ d ∈ l, TmW d.term) (ht : TmW t) {a b : Int} : Pc Tryz.prog 6 [.sl 10 (l.map dfD), .agg (tmD t), I a, I b] (Tt true) := by
  refine pc_of (pur_T _) (fun m n => ?_)
  have nn1 : n ≠ n + 1 := by omega
  have n1n : n + 1 ≠ n := by omega
  have nn2 : n ≠ n + 1 + 1 := by omega
  have n2n : n + 1 + 1 ≠ n := by omega
  have n12 : n + 1 ≠ n + 1 + 1 := by omega
  have n21 : n + 1 + 1 ≠ n + 1 := by omega
  have nn3 : n ≠ n + 1 + 1 + 1 := by omega
  have n3n : n + 1 + 1 + 1 ≠ n := by omega
  have n13 : n + 1 ≠ n + 1 + 1 + 1 := by omega
  have n31 : n + 1 + 1 + 1 ≠ n + 1 := by omega
  have n23 : n + 1 + 1 ≠ n + 1 + 1 + 1 := by omega
  have n32 : n + 1 + 1 + 1 ≠ n + 1 + 1 := by omega
  have s0 := cShort hl hd ht
  have fr0 : ∀ o, ∀ j, j < n → (m.set n o) j = m j := fun o j hj => by rw [set_ne _ _ _ _ (by omega)]
  have h8 : (tmD t).length = 8 := by simp
  by_cases hgo : shortF l t = true ∧ 0 ≤ a ∧ 0 ≤ b ∧ a ≤ 150 ∧ b ≤ 150
  case neg =>
    have hcs : shortF l t = false ∨ (shortF l t = true ∧ a < 0) ∨ (shortF l t = true ∧ ¬ a < 0 ∧ b < 0) ∨ (shortF l t = true ∧ ¬ a < 0 ∧ ¬ b < 0 ∧ 150 < a) ∨ (shortF l t = true ∧ ¬ a < 0 ∧ ¬ b < 0 ∧ ¬ 150 < a ∧ 150 < b) := by
      cases hf : shortF l t with
      | false => exact .inl rfl
      | true =>
        rw [hf] at hgo
        by_cases q1 : a < 0
        · exact .inr (.inl ⟨rfl, q1⟩)
        by_cases q2 : b < 0
        · exact .inr (.inr (.inl ⟨rfl, q1, q2⟩))
        by_cases q3 : 150 < a
        · exact .inr (.inr (.inr (.inl ⟨rfl, q1, q2, q3⟩)))
        by_cases q4 : 150 < b
        · exact .inr (.inr (.inr (.inr ⟨rfl, q1, q2, q3, q4⟩)))
        · exact absurd ⟨rfl, by omega, by omega, by omega, by omega⟩ hgo
    generalize tmD t = T at s0 h8
    have hT : List.take 8 T = T := List.take_of_length_le (by omega)
    refine acalls_vc [0, 1, 2, 3, 5, 8, 9, 10, 11, 12, 13, 14, 15, 16, 17, 18, 19, 20, 21, 22, 44, 61, 65, 76, 84] Tryz.func6 Tryz.ntmps6 (by kernel_rfl) rfl rfl (by simp) ?_
    simp -dsimp [I, h8, hT, set_ne]
    refine pcall cUp25 ?_
    simp -dsimp [I, Tt, h8, hT, set_ne]
    refine pcall s0 ?_
    rcases hcs with h1 | ⟨h1, h2⟩ | ⟨h1, h2, h3⟩ | ⟨h1, h2, h3, h4⟩ | ⟨h1, h2, h3, h4, h5⟩
    · rw [h1]
      simp -dsimp [I, Tt, h8, hT, set_ne]
      exact pcq rfl (fr0 _)
    · rw [h1]
      simp -dsimp [I, Tt, h2, h8, hT, set_ne]
      exact pcq rfl (fr0 _)
    · rw [h1]
      simp -dsimp [I, Tt, h2, h3, h8, hT, set_ne]
      exact pcq rfl (fr0 _)
    · rw [h1]
      simp -dsimp [I, Tt, h2, h3, h4, h8, hT, set_ne]
      exact pcq rfl (fr0 _)
    · rw [h1]
      simp -dsimp [I, Tt, h2, h3, h4, h5, h8, hT, set_ne]
      exact pcq rfl (fr0 _)
  obtain ⟨hs, ha0, hb0, ha1, hb1⟩ := hgo
  rw [hs] at s0
  have hs' := hs
  simp only [shortF, Bool.and_eq_true, decide_eq_true_eq, List.all_eq_true] at hs'
  obtain ⟨⟨htf, _⟩, _⟩ := hs'
  obtain ⟨A, rfl⟩ : ∃ A : Nat, a = A := ⟨a.toNat, by omega⟩
  obtain ⟨B, rfl⟩ : ∃ B : Nat, b = B := ⟨b.toNat, by omega⟩
  have q1 : ¬ (A : Int) < 0 := by omega
  have q2 : ¬ (B : Int) < 0 := by omega
  have q3 : ¬ (150 : Int) < (A : Int) := by omega
  have q4 : ¬ (150 : Int) < (B : Int) := by omega
  have wab : IntKind.i64.wrap ((A : Int) + (B : Int)) = ((A + B : Nat) : Int) := by rw [wrap_i64 (by omega) (by omega)]; omega
  have c1 := cCopyTm (fewTm3_z htf)
  have c2 := cRunR hl hd ht (fuel := ((A + B : Nat) : Int))
  have c3 := cRSameTm ht (b := t)
  rw [show sameTm t t = true from (sameTm_iff _ _).2 rfl] at c3
  have sz := cRSameTm tmw0 (b := Tm0)
  rw [show sameTm Tm0 Tm0 = true from (sameTm_iff _ _).2 rfl] at sz
  cases hf : fairF l t with
  | false =>
    have hr : ∀ fuel, runF l t fuel = (1, 0, Tm0) := fun fuel => by unfold runF; rw [if_neg (by simp [hf])]
    rw [hr] at c2
    have c4 := cRunR hl hd ht (fuel := (B : Int))
    rw [hr] at c4
    have c5 := cStepR hl hd ht
    rw [show stpF l t = (1, false, Tm0) by simp [stpF, hf]] at c5
    unfold resRn at c2 c4
    unfold resTb at c5
    simp only at c2 c4 c5
    rw [show erC (1 : Int) = .iface 39 (.v (.int .i64 1)) by simp [erC, code]] at c2 c4 c5
    have ce := cCodeN 1 (by omega) (by omega)
    have h80 : (tmD Tm0).length = 8 := by simp
    simp only [I, Tt] at c2 c4 c5 ce
    generalize tmD Tm0 = Z at c2 c4 c5 sz h80
    have hZ : List.take 8 Z = Z := List.take_of_length_le (by omega)
    generalize tmD t = T at s0 c1 c2 c3 c4 c5 h8
    have hT : List.take 8 T = T := List.take_of_length_le (by omega)
    refine acalls_vc [0, 1, 2, 3, 5, 8, 9, 10, 11, 12, 13, 14, 15, 16, 17, 18, 19, 20, 21, 22, 44, 61, 65, 76, 84] Tryz.func6 Tryz.ntmps6 (by kernel_rfl) rfl rfl (by simp) ?_
    simp -dsimp [I, h8, hT, set_ne]
    refine pcall cUp25 ?_
    simp -dsimp [I, Tt, h8, hT, set_ne]
    refine pcall s0 ?_
    simp -dsimp [I, Tt, q1, q2, q3, q4, h8, hT, set_ne]
    refine pcall c1 ?_
    simp -dsimp [I, Tt, wab, h8, hT, set_ne, nn1, n1n]
    refine pcall c2 ?_
    simp -dsimp [I, Tt, h8, hT, h80, hZ, set_ne, nn1, n1n, nn2, n2n, n12, n21]
    refine pcall c3 ?_
    simp -dsimp [I, Tt, h8, hT, h80, hZ, set_ne, nn1, n1n, nn2, n2n, n12, n21]
    refine vloop_as (β := Nat) (fun i => [(0, .sl 10 (l.map dfD)), (2, I A), (3, I B), (9, Tt true), (12, .ptr (n + 1 + 1) 0 0 0), (13, I 0), (14, .iface 39 (.v (.int .i64 1))), (15, .ptr (n + 1 + 1 + 1) 0 0 0), (16, I 0)])
      (fun i M Nx => M (n + 1 + 1) = some ⟨8, [Z], 0⟩ ∧ M (n + 1 + 1 + 1) = some ⟨8, [T], 0⟩ ∧ (∀ j, j < n → M j = m j) ∧ n + 4 ≤ Nx) (fun i => 1 - i) 0 (by simp [I, Tt])
      ⟨by simp [set_ne, n23], by simp, fun j hj => by simp [set_ne, show j ≠ n by omega, show j ≠ n + 1 by omega, show j ≠ n + 1 + 1 by omega, show j ≠ n + 1 + 1 + 1 by omega], by omega⟩ ?_
    rintro i m3 n3 ⟨o12, o15, pfr, pnn⟩
    have x2 : n + 1 + 1 ≠ n3 := by omega
    have x3 : n + 1 + 1 + 1 ≠ n3 := by omega
    by_cases hA : 0 < A
    · have hA' : (0 : Int) < (A : Int) := by omega
      simp -dsimp [I, Tt, hA, hA', o12, o15, h8, hT, set_ne]
      refine pcall c5 ?_
      simp -dsimp [I, Tt, h80, hZ, o12, o15, set_ne, x2, x3]
      exact pcq rfl fun j hj => by rw [set_ne _ _ _ _ (by omega)]; exact pfr j hj
    · have hA' : ¬ (0 : Int) < (A : Int) := by omega
      simp -dsimp [I, Tt, hA, hA', o12, o15, h8, hT, set_ne]
      refine pcall c4 ?_
      simp -dsimp [I, Tt, h80, hZ, o12, o15, set_ne, x2, x3]
      refine pcall ce ?_
      simp -dsimp [I, Tt, h80, hZ, o12, o15, set_ne, x2, x3]
      refine pcall ce ?_
      simp -dsimp [I, Tt, h80, hZ, o12, o15, set_ne, x2, x3]
      refine pcall sz ?_
      simp -dsimp [I, Tt]
      exact pcq rfl fun j hj => by rw [set_ne _ _ _ _ (by omega)]; exact pfr j hj
  | true =>
    have hr : ∀ k : Nat, k ≤ 300 → ∀ x, fairF l x = true → runF l x (k : Int) = runK l k x := fun k hk x hx => by unfold runF; rw [if_pos ⟨hx, by omega, by omega⟩]; simp
    rw [hr (A + B) (by omega) t hf] at c2
    obtain ⟨R, hR⟩ : ∃ R, R = runK l (A + B) t := ⟨_, rfl⟩
    rw [← hR] at c2
    have hRw : TmW R.2.2 := by rw [hR]; exact runK_w hd _ _ ht
    unfold resRn at c2
    obtain ⟨E, hE⟩ : ∃ E, E = erC R.1 := ⟨_, rfl⟩
    obtain ⟨V, hV⟩ : ∃ V, V = tmD R.2.2 := ⟨_, rfl⟩
    have hV8 : V.length = 8 := by rw [hV]; simp
    have hVt : List.take 8 V = V := List.take_of_length_le (by omega)
    rw [← hE, ← hV] at c2
    have hTe : ∃ T, T = tmD t := ⟨_, rfl⟩
    obtain ⟨T, hTe⟩ := hTe
    have h8' : T.length = 8 := by rw [hTe]; exact h8
    rw [← hTe] at s0 c1 c2 c3 ⊢
    have hT : List.take 8 T = T := List.take_of_length_le (by omega)
    refine acalls_vc [0, 1, 2, 3, 5, 8, 9, 10, 11, 12, 13, 14, 15, 16, 17, 18, 19, 20, 21, 22, 44, 61, 65, 76, 84] Tryz.func6 Tryz.ntmps6 (by kernel_rfl) rfl rfl (by simp) ?_
    simp -dsimp [I, h8', hT, set_ne]
    refine pcall cUp25 ?_
    simp -dsimp [I, Tt, h8', hT, set_ne]
    refine pcall s0 ?_
    simp -dsimp [I, Tt, q1, q2, q3, q4, h8', hT, set_ne]
    refine pcall c1 ?_
    simp -dsimp [I, Tt, wab, h8', hT, set_ne, nn1, n1n]
    refine pcall c2 ?_
    simp -dsimp [I, Tt, h8', hT, hV8, hVt, set_ne, nn1, n1n, nn2, n2n, n12, n21]
    refine pcall c3 ?_
    simp -dsimp [I, Tt, h8', hT, hV8, hVt, set_ne, nn1, n1n, nn2, n2n, n12, n21]
    refine vloop_as (β := Nat × Tm) (fun b => [(0, .sl 10 (l.map dfD)), (2, I A), (3, I B), (9, Tt true), (12, .ptr (n + 1 + 1) 0 0 0), (13, I R.2.1), (14, E), (15, .ptr (n + 1 + 1 + 1) 0 0 0), (16, I b.1)])
      (PaL l t (A + B) A V m n) (fun b => A - b.1) (0, t) (by simp [I, Tt])
      ⟨by simp [set_ne, n23], by rw [hTe]; simp, fun j hj => by simp [set_ne, show j ≠ n by omega, show j ≠ n + 1 by omega, show j ≠ n + 1 + 1 by omega, show j ≠ n + 1 + 1 + 1 by omega], by omega, by omega, ht, hf, by simp⟩ ?_
    rintro ⟨i, x⟩ m3 n3 ⟨o12, o15, pfr, pnn, ile, xw, xf, heq⟩
    simp only at o15 ile xw xf heq
    rw [← hR] at heq
    have x2 : n + 1 + 1 ≠ n3 := by omega
    have x3 : n + 1 + 1 + 1 ≠ n3 := by omega
    have hx8 : (tmD x).length = 8 := by simp
    by_cases hi : (i : Int) < A
    · have hi' : i < A := by omega
      have wi : IntKind.i64.wrap ((i : Int) + 1) = (i : Int) + 1 := wrap_i64 (by omega) (by omega)
      obtain ⟨k, hk⟩ : ∃ k, A + B - i = k + 1 := ⟨A + B - i - 1, by omega⟩
      have hk2 : A + B - (i + 1) = k := by omega
      have cs := cStepR hl hd xw
      rw [show stpF l x = onceF l x by simp [stpF, xf]] at cs
      unfold resTb at cs
      have hY8 : (tmD (onceF l x).2.2).length = 8 := by simp
      by_cases h0 : (onceF l x).1 = 0
      · rw [h0, show erC (0 : Int) = .v .nilIface by simp [erC, nilE]] at cs
        cases hv : valT x with
        | true =>
          have ho : onceF l x = (0, false, x) := by simp [onceF, hv]
          have hrr : R = (0, i, x) := by
            rw [heq, hk]
            simp [runK, hv]
          have hE0 : E = .v .nilIface := by rw [hE, hrr]; simp [erC, nilE]
          have hn : R.2.1 = i := by rw [hrr]
          have hVx : V = tmD x := by rw [hV, hrr]
          have ss := cRSameTm xw (b := x)
          rw [show sameTm x x = true from (sameTm_iff _ _).2 rfl] at ss
          rw [ho] at cs
          simp only at cs
          rw [← hVx] at ss cs o15 hx8
          clear hE hV
          subst hE0
          rw [hn]
          simp -dsimp [I, Tt, hi, o12, o15, hV8, hVt, set_ne]
          refine pcall cs ?_
          simp -dsimp [I, Tt, hi, o12, o15, hV8, hVt, set_ne, x2, x3]
          refine pcall ss ?_
          simp -dsimp [I, Tt]
          exact pcq rfl fun j hj => by rw [set_ne _ _ _ _ (by omega)]; exact pfr j hj
        | false =>
          obtain ⟨yf, yb⟩ := fair_once xf hv h0
          have yw := once_w (l := l) hd xw
          have hnx : R = ((runK l (A + B - (i + 1)) (onceF l x).2.2).1, (runK l (A + B - (i + 1)) (onceF l x).2.2).2.1 + (i + 1), (runK l (A + B - (i + 1)) (onceF l x).2.2).2.2) := by
            rw [heq, hk, hk2]
            simp only [runK, hv, Bool.false_eq_true, if_false, h0, ne_eq, not_true_eq_false]
            congr 2
            omega
          rw [yb] at cs
          generalize hYY : tmD (onceF l x).2.2 = Y at cs hY8
          have hY : List.take 8 Y = Y := List.take_of_length_le (by omega)
          generalize tmD x = X at o15 cs hx8
          have hX : List.take 8 X = X := List.take_of_length_le (by omega)
          have hdX : List.drop 8 X = [] := List.drop_eq_nil_of_le (by omega)
          simp -dsimp [I, Tt, hi, o12, o15, hx8, hX, set_ne]
          refine pcall cs ?_
          simp -dsimp [I, Tt, hi, o12, o15, hx8, hX, hdX, hY8, hY, wi, set_ne, x2, x3, x2.symm, x3.symm]
          refine rnd (i + 1, (onceF l x).2.2) (by simp; omega) (by simp [I, Tt]) ⟨?_, ?_, fun j hj => ?_, by omega, by simp only; omega, yw, yf, by rw [← hR]; exact hnx⟩
          · rw [set_ne _ _ _ _ n23, set_ne _ _ _ _ (by omega)]; exact o12
          · simp only; rw [hYY]; simp
          · rw [set_ne _ _ _ _ (by omega), set_ne _ _ _ _ (by omega)]; exact pfr j hj
      · have hv : valT x = false := by
          cases hv : valT x with
          | false => rfl
          | true => exact absurd (by simp [onceF, hv]) h0
        have hrr : R = ((onceF l x).1, i, Tm0) := by
          rw [heq, hk]
          simp [runK, hv, h0]
        have hEc : erC (onceF l x).1 = .iface 39 (.v (.int .i64 (onceF l x).1)) := by simp [erC, code, h0]
        have hE0 : E = .iface 39 (.v (.int .i64 (onceF l x).1)) := by rw [hE, hrr]; exact hEc
        rw [hEc] at cs
        clear hE
        subst hE0
        generalize (onceF l x).1 = C at cs
        generalize tmD (onceF l x).2.2 = Y at cs hY8
        have hY : List.take 8 Y = Y := List.take_of_length_le (by omega)
        generalize tmD x = X at o15 cs hx8
        have hX : List.take 8 X = X := List.take_of_length_le (by omega)
        simp -dsimp [I, Tt, hi, o12, o15, hx8, hX, set_ne]
        refine pcall cs ?_
        simp -dsimp [I, Tt, hi, o12, o15, hx8, hX, hY8, hY, set_ne, x2, x3]
        exact pcq rfl fun j hj => by rw [set_ne _ _ _ _ (by omega)]; exact pfr j hj
    · have hiA : i = A := by omega
      subst hiA
      have cr := cRunR hl hd xw (fuel := (B : Int))
      rw [hr B (by omega) x xf] at cr
      unfold resRn at cr
      rw [show i + B - i = B by omega] at heq
      have hcd := runK_code (l := l) B x
      have hMB := runK_le (l := l) B x
      have hww := runK_w hd B x xw
      have ss := cRSameTm hww (b := (runK l B x).2.2)
      rw [show sameTm (runK l B x).2.2 (runK l B x).2.2 = true from (sameTm_iff _ _).2 rfl] at ss
      have hVx : V = tmD (runK l B x).2.2 := by rw [hV, heq]
      have hn : R.2.1 = (runK l B x).2.1 + i := by rw [heq]
      have hE1 : E = erC (runK l B x).1 := by rw [hE, heq]
      rw [← hVx] at ss cr
      rw [hn]
      clear hE hV hVx hn heq
      generalize (runK l B x).2.1 = M at cr hMB
      have wMi : IntKind.i64.wrap ((M : Int) + (i : Int)) = (M : Int) + (i : Int) := wrap_i64 (by omega) (by omega)
      generalize (runK l B x).1 = C at cr hcd hE1
      generalize tmD x = X at o15 cr hx8
      have hX : List.take 8 X = X := List.take_of_length_le (by omega)
      by_cases h0 : C = 0
      · subst h0
        have hE0 : E = .v .nilIface := by rw [hE1]; simp [erC, nilE]
        clear hE1
        subst hE0
        rw [show erC (0 : Int) = .v .nilIface by simp [erC, nilE]] at cr
        simp -dsimp [I, Tt, hi, o12, o15, hx8, hX, set_ne]
        refine pcall cr ?_
        simp -dsimp [I, Tt, hi, o12, o15, hx8, hX, hV8, hVt, set_ne, x2, x3]
        refine pcall cCode0 ?_
        simp -dsimp [I, Tt, hi, o12, o15, hx8, hX, hV8, hVt, set_ne, x2, x3]
        refine pcall cCode0 ?_
        simp -dsimp [I, Tt, wMi, hi, o12, o15, hx8, hX, hV8, hVt, set_ne, x2, x3]
        refine pcall ss ?_
        simp -dsimp [I, Tt]
        exact pcq rfl fun j hj => by rw [set_ne _ _ _ _ (by omega)]; exact pfr j hj
      · have hC1 : ¬ C = 1 := by omega
        have hE0 : E = .iface 39 (.v (.int .i64 C)) := by rw [hE1]; simp [erC, code, h0]
        clear hE1
        subst hE0
        rw [show erC C = .iface 39 (.v (.int .i64 C)) by simp [erC, code, h0]] at cr
        have ce := cCodeN C (by omega) (by omega)
        have hCb : (C == 1) = false := by simpa using hC1
        simp -dsimp [I, Tt, hi, o12, o15, hx8, hX, set_ne]
        refine pcall cr ?_
        simp -dsimp [I, Tt, hi, o12, o15, hx8, hX, hV8, hVt, set_ne, x2, x3]
        refine pcall ce ?_
        simp -dsimp [I, Tt, hi, o12, o15, hx8, hX, hV8, hVt, set_ne, x2, x3]
        refine pcall ce ?_
        simp -dsimp [I, Tt, wMi, hi, hC1, hCb, o12, o15, hx8, hX, hV8, hVt, set_ne, x2, x3]
        refine pcall ss ?_
        simp -dsimp [I, Tt]
        exact pcq rfl fun j hj => by rw [set_ne _ _ _ _ (by omega)]; exact pfr j hj
end Go.Proofs.Mv.App
