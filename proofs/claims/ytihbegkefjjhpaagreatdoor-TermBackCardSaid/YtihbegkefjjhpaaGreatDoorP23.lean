/- A part of the proofs: machine, contracts, laws. No condition of its own. -/
import Derived.Test.YtihbegkefjjhpaaGreatDoorP22
import Derived.Test.YtihbegkefjjhpaaGreatDoorP04
import Derived.Test.YtihbegkefjjhpaaGreatDoorP00
import Derived.Test.YtihbegkefjjhpaaGreatDoorMvCl
import Derived.Test.YtihbegkefjjhpaaGreatDoorP08
import Derived.Test.YtihbegkefjjhpaaGreatDoorP17
import Derived.Test.YtihbegkefjjhpaaGreatDoorMvC
set_option linter.unusedSimpArgs false
set_option linter.unusedVariables false
set_option linter.unusedSectionVars false
open Go Go.Proofs Go.Proofs.Mv.V
set_option maxRecDepth 10000
namespace Go.Proofs.Mv.App
def zTp : V.Obj := ⟨8, [[.v (.int .i64 0), .v (.int .i64 0), .v (.string (ofL [])), .v (.string (ofL [])), .v (.slice none 0 0), .v (.slice none 0 0), .v (.slice none 0 0), .v (.slice none 0 0)]], 0⟩
inductive TyZ : Ty → Prop where
 | mk (kind : Int) (pkg : List UInt8) (major : Int) (mod name : List UInt8) (names : List (List UInt8)) (subs : List Ty) (h1 : names.length ≤ 1000000) (h2 : subs.length ≤ 1000000) (h3 : ∀ t ∈ subs, TyZ t) : TyZ (.mk kind pkg major mod name names subs)
inductive TmZ : Tm → Prop where
 | mk (k N : Int) (mod nm : List UInt8) (names vars : List (List UInt8)) (types : List Ty) (subs : List Tm) (h1 : names.length ≤ 1000000) (h2 : vars.length ≤ 1000000) (h3 : types.length ≤ 1000000) (h4 : subs.length ≤ 1000000) (h5 : ∀ y ∈ types, TyZ y) (h6 : ∀ t ∈ subs, TmZ t) : TmZ (.mk k N mod nm names vars types subs)
theorem len_manyTs : ∀ l : List Ty, l.length ≤ manyTs l
 | [] => by simp
 | t :: ts => by have := manyT_pos t; have := len_manyTs ts; simp only [manyTs, List.length_cons]; omega
theorem len_manyTms : ∀ l : List Tm, l.length ≤ manyTms l
 | [] => by simp
 | t :: ts => by have := manyTm_pos t; have := len_manyTms ts; simp only [manyTms, List.length_cons]; omega
mutual
theorem fewT_z : ∀ (t : Ty) (m : Int), m ≤ 1000000 → 0 ≤ fewT t m → TyZ t ∧ manyT t + fewT t m = m
 | .mk kind pkg major mod name names subs, m, hm, h => by
  simp only [fewT] at h ⊢
  by_cases c : m - 1 < 0 ∨ 200 < names.length
  ·rw [if_pos c] at h; omega
  rw [if_neg c] at h ⊢
  obtain ⟨h1, h2⟩ := fewTs_z subs (m - 1) (by omega) (by omega) h
  have := len_manyTs subs
  refine ⟨.mk _ _ _ _ _ _ _ (by omega) (by omega) h1, ?_⟩
  simp only [manyT]; omega
theorem fewTs_z : ∀ (l : List Ty) (m : Int), m ≤ 1000000 → 0 ≤ m → 0 ≤ fewTs l m → (∀ t ∈ l, TyZ t) ∧ manyTs l + fewTs l m = m
 | [], m, hm, h0, h => by simp [fewTs, manyTs]
 | t :: ts, m, hm, h0, h => by
  simp only [fewTs, if_pos h0, manyTs] at h ⊢
  have h4 : 0 ≤ fewT t m := by
   by_cases c : 0 ≤ fewT t m
   ·exact c
   ·rw [fewTs_neg ts _ (by omega)] at h; omega
  obtain ⟨a1, a2⟩ := fewT_z t m hm h4
  obtain ⟨b1, b2⟩ := fewTs_z ts _ (by omega) h4 h
  refine ⟨fun u hu => ?_, by omega⟩
  rcases List.mem_cons.1 hu with e | hu
  ·rw [e]; exact a1
  ·exact b1 u hu
end
theorem few3_z {t : Ty} (h : few3 t = true) : TyZ t := by
 simp only [few3, decide_eq_true_eq] at h
 exact (fewT_z t 3000 (by omega) h).1
mutual
theorem fewTm_z : ∀ (t : Tm) (m : Int), m ≤ 1000000 → 0 ≤ fewTm t m → TmZ t ∧ manyTm t + fewTm t m = m
 | .mk k N mod nm names vars types subs, m, hm, h => by
  simp only [fewTm] at h ⊢
  by_cases c : m - 1 < 0 ∨ 100 < names.length ∨ 100 < vars.length ∨ 100 < types.length
  ·rw [if_pos c] at h; omega
  rw [if_neg c] at h ⊢
  by_cases c2 : types.all few3 = true
  ·rw [if_pos c2] at h ⊢
   obtain ⟨h1, h2⟩ := fewTms_z subs (m - 1) (by omega) (by omega) h
   have := len_manyTms subs
   refine ⟨.mk _ _ _ _ _ _ _ _ (by omega) (by omega) (by omega) (by omega) (fun y hy => few3_z (List.all_eq_true.1 c2 y hy)) h1, ?_⟩
   simp only [manyTm]; omega
  ·rw [if_neg c2] at h; omega
theorem fewTms_z : ∀ (l : List Tm) (m : Int), m ≤ 1000000 → 0 ≤ m → 0 ≤ fewTms l m → (∀ t ∈ l, TmZ t) ∧ manyTms l + fewTms l m = m
 | [], m, hm, h0, h => by simp [fewTms, manyTms]
 | t :: ts, m, hm, h0, h => by
  simp only [fewTms, if_pos h0, manyTms] at h ⊢
  have h4 : 0 ≤ fewTm t m := by
   by_cases c : 0 ≤ fewTm t m
   ·exact c
   ·rw [fewTms_neg ts _ (by omega)] at h; omega
  obtain ⟨a1, a2⟩ := fewTm_z t m hm h4
  obtain ⟨b1, b2⟩ := fewTms_z ts _ (by omega) h4 h
  refine ⟨fun u hu => ?_, by omega⟩
  rcases List.mem_cons.1 hu with e | hu
  ·rw [e]; exact a1
  ·exact b1 u hu
end
theorem fewTm3_z {t : Tm} (h : fewTm3 t = true) : TmZ t := by
 simp only [fewTm3, decide_eq_true_eq] at h
 exact (fewTm_z t 2000 (by omega) h).1
structure CyL [GI] (kind : Int) (pkg : List UInt8) (major : Int) (mod name : List UInt8) (NL SL : List (List D)) (m : Mem) (n : Nat) (b : Nat × D) (m2 : Mem) (n2 : Nat) : Prop where
 o0 : m2 n = some ⟨7, [[I kind, S pkg, I major, S mod, S name, .own (n + 1 + 1) 1 0 NL.length 1, b.2]], 0⟩
 o1 : m2 (n + 1) = some ⟨7, [[.v (.int .i64 0), .v (.string (ofL [])), .v (.int .i64 0), .v (.string (ofL [])), .v (.string (ofL [])), .v (.slice none 0 0), .v (.slice none 0 0)]], 0⟩
 oN : m2 (n + 1 + 1) = some ⟨1, NL, 1⟩
 fr : ∀ j, j < n → m2 j = m j
 nn : n + 3 ≤ n2
 le : b.1 ≤ SL.length
 ls : Lst m2 7 (SL.take b.1) b.2
 kf : ∀ j, kof b.2 = some j → n + 3 ≤ j ∧ j < n2
set_option maxHeartbeats 8000000 in
theorem cCopyTy {t : Ty} (ht : TyZ t) : Pc Tryz.prog 30 [.agg (tyD t)] (.agg (tyD t)) := by
 induction ht with
 | mk kind pkg major mod name names subs h1 h2 h3 ih =>
 refine pc_pub (fun m n => ?_)
 have nn1 : n ≠ n + 1 := by omega
 have n1n : n + 1 ≠ n := by omega
 have nn2 : n ≠ n + 1 + 1 := by omega
 have n2n : n + 1 + 1 ≠ n := by omega
 have n12 : n + 1 ≠ n + 1 + 1 := by omega
 have n21 : n + 1 + 1 ≠ n + 1 := by omega
 have hSL : (subs.map tyD).length = subs.length := by simp
 have hSG : ∀ i (h : i < subs.length), (subs.map tyD)[i]? = some (tyD subs[i]) := fun i h => by simp [h]
 have hNL : (names.map fun s => [S s]).length = names.length := by simp
 have hpn : ∀ e ∈ names.map fun s => [S s], ∀ d ∈ e, Pur d := pur_ss
 have hpy : ∀ e ∈ subs.map tyD, ∀ d ∈ e, Pur d := fun e he d hd => by
  obtain ⟨y, _, rfl⟩ := List.mem_map.1 he
  exact pur_ty y d hd
 have ih' : ∀ i (h : i < subs.length), Pc Tryz.prog 30 [.agg (tyD subs[i])] (.agg (tyD subs[i])) := fun i h => ih _ (List.getElem_mem h)
 simp only [tyD, tysD_eq, sl1]
 generalize (names.map fun s => [S s]) = NL at hNL hpn ⊢
 generalize subs.map tyD = SL at hSL hSG hpy ⊢
 refine acalls_vcC [0, 1, 2, 3, 4, 16] Tryz.func30 Tryz.ntmps30 (by kernel_rfl) rfl rfl (by simp) ?_
 simp -dsimp [I, S, set_ne, nn1, n1n, nn2, n2n, n12, n21]
 refine ⟨by omega, ?_⟩
 refine vloop_as (β := Nat × D) (fun b => [(1, .ptr n 0 0 0), (2, .ptr (n + 1) 0 0 0), (3, .sl 7 SL), (4, I b.1)]) (CyL kind pkg major mod name NL SL m n) (fun b => SL.length - b.1) (0, .v (.slice none 0 0)) (by simp [I])
  ⟨by simp [set_ne, I, S, nn1, nn2], by simp [set_ne, n12, n1n], by simp [set_ne, n2n], fun j hj => by simp [set_ne, show j ≠ n by omega, show j ≠ n + 1 by omega, show j ≠ n + 1 + 1 by omega], by omega, by omega, by simp; exact .nil, by simp [kof]⟩ ?_
 rintro ⟨i, d⟩ m2 n2 ⟨o0, o1, oN, hfr, hnn, hle, hls, hkf⟩
 simp only at o0 hle hls hkf
 by_cases hi : (i : Int) < SL.length
 ·have hi' : i < SL.length := by omega
  have his : i < subs.length := by omega
  have wi : IntKind.i64.wrap ((i : Int) + 1) = (i : Int) + 1 := wrap_i64 (by omega) (by omega)
  have hgs : SL[i] = tyD subs[i] := get_opt (hSG i his) hi'
  have hz : (tyD subs[i]).length = 7 := by simp
  have hc := ih' i his
  have htk : SL.take (i + 1) = SL.take i ++ [tyD subs[i]] := by rw [List.take_succ_eq_append_getElem hi', hgs]
  have hRl : (SL.take i).length = i := by simp; omega
  generalize SL.take i = RL at hls htk hRl
  generalize tyD subs[i] = X at hgs hz hc htk
  have hX : List.take 7 X = X := List.take_of_length_le (by omega)
  simp -dsimp [I, S, hi, o0, o1, set_ne]
  refine vdraw_tree [0, 1, 0, 0, 12, 28, 60, 124, 255, 511, 1023] (.rd 0 (.rd 1 (.rd 2 (.rd 3 (.rd 4 (.rd 5 (.wr (.cons 6 (.wr (.cons 7 (.wr (.cons 8 (.rd 9 (.wr (.cons 10 (.fin) (.nil)))) (.nil))) (.nil))) (.nil))))))))) (by kernel_rfl) (by kernel_rfl) ?_
  simp -dsimp [I, S, hi, hi', hgs, hz, hX, o0, o1, set_ne]
  refine pcall hc ?_
  refine ⟨fun _ _ _ => rfl, ?_⟩
  simp -dsimp [I, S, hz, hX, o0, o1, set_ne]
  refine ⟨by rw [set_ne _ _ _ _ (by omega)]; exact o0, ?_⟩
  refine b4_append (es := RL) ?_ ?_ trivial trivial (by omega) (by simp [hRl]; omega) ?_
  ·exact hls.frame fun j hj => by have := hkf j hj; simp [set_ne, show j ≠ n2 by omega]
  ·exact fun j hj => by have := hkf j hj; omega
  intro da ma na a1 a2 a3 a4
  have hma : ∀ j, j < n + 3 → ma j = m2 j := fun j hj => by
   rw [a4 j (by omega) (fun e => by have := hkf j e; omega)]
   simp [set_ne, show j ≠ n2 by omega]
  have ka : ∀ j, kof da = some j → n + 3 ≤ j ∧ j < na := fun j hj => by
   have := a3 j hj
   rcases this.2 with e | e
   ·exact ⟨(hkf j e).1, this.1⟩
   ·omega
  refine ⟨fun p hp _ => ?_, ?_⟩
  ·simp only [List.mem_cons, List.not_mem_nil, or_false] at hp
   subst hp
   exact a4 _ (by dsimp only; omega) (fun e => by have := hkf _ e; dsimp only at this; omega)
  have o0a : ma n = _ := (hma n (by omega)).trans o0
  simp -dsimp [I, S, o0a, wi, (okD_lst a1).1, (okD_lst a1).2]
  refine rnd (i + 1, da) (by simp; omega) (by simp [I]) ⟨?_, ?_, ?_, ?_, ?_, ?_, ?_, ?_⟩
  ·simp [I, S]
  ·rw [set_ne _ _ _ _ (by omega), hma (n + 1) (by omega)]; exact o1
  ·rw [set_ne _ _ _ _ (by omega), hma (n + 1 + 1) (by omega)]; exact oN
  ·intro j hj; rw [set_ne _ _ _ _ (by omega), hma j (by omega)]; exact hfr j hj
  ·omega
  ·simp; omega
  ·simp only; rw [htk]; exact a1.frame fun j hj => set_ne _ _ _ _ (by have := ka j hj; omega)
  ·exact ka
 ·have e : i = SL.length := by omega
  subst e
  rw [List.take_length] at hls
  simp -dsimp [I, S, hi, o0, o1]
  refine pcp ?_ fun j hj => by rw [set_ne _ _ _ _ (by omega)]; exact hfr j hj
  refine .agg (.cons (pur_I _).pub (.cons (pur_S _).pub (.cons (pur_I _).pub (.cons (pur_S _).pub (.cons (pur_S _).pub (.cons ?_ (.cons ?_ .nil)))))))
  ·exact .lstP (Lst.mk (es' := NL) (g := 1) (by rw [set_ne _ _ _ _ (by omega)]; exact oN) rfl (Nat.le_refl _) (List.take_length)) (fun j hj => by simp at hj; omega) hpn
  ·exact .lstP (hls.frame fun j hj => set_ne _ _ _ _ (by have := hkf j hj; omega)) (fun j hj => by have := hkf j hj; omega) hpy
structure CmL [GI] (k N : Int) (mod nm : List UInt8) (NL VL YL SL : List (List D)) (m : Mem) (n : Nat) (b : Nat × D × Nat × D) (m2 : Mem) (n2 : Nat) : Prop where
 o0 : m2 n = some ⟨8, [[I k, I N, S mod, S nm, .own (n + 1 + 1) 1 0 NL.length 1, .own (n + 1 + 1 + 1) 1 0 VL.length 1, b.2.1, b.2.2.2]], 0⟩
 o1 : m2 (n + 1) = some zTp
 oN : m2 (n + 1 + 1) = some ⟨1, NL, 1⟩
 oV : m2 (n + 1 + 1 + 1) = some ⟨1, VL, 1⟩
 fr : ∀ j, j < n → m2 j = m j
 nn : n + 4 ≤ n2
 ly : b.1 ≤ YL.length
 lls : b.2.2.1 ≤ SL.length
 yl : Lst m2 7 (YL.take b.1) b.2.1
 sl : Lst m2 8 (SL.take b.2.2.1) b.2.2.2
 yk : ∀ j, kof b.2.1 = some j → n + 4 ≤ j ∧ j < n2
 sk : ∀ j, kof b.2.2.2 = some j → n + 4 ≤ j ∧ j < n2
 df : ∀ j, kof b.2.1 = some j → kof b.2.2.2 ≠ some j
set_option maxHeartbeats 8000000 in
theorem cCopyTm {t : Tm} (ht : TmZ t) : Pc Tryz.prog 9 [.agg (tmD t)] (.agg (tmD t)) := by
 induction ht with
 | mk k N mod nm names vars types subs h1 h2 h3 h4 h5 h6 ih =>
 refine pc_pub (fun m n => ?_)
 have nn1 : n ≠ n + 1 := by omega
 have n1n : n + 1 ≠ n := by omega
 have nn2 : n ≠ n + 1 + 1 := by omega
 have n2n : n + 1 + 1 ≠ n := by omega
 have n12 : n + 1 ≠ n + 1 + 1 := by omega
 have n21 : n + 1 + 1 ≠ n + 1 := by omega
 have nn3 : n ≠ n + 1 + 1 + 1 := by omega
 have n3n : n + 1 + 1 + 1 ≠ n := by omega
 have n13 : n + 1 ≠ n + 1 + 1 + 1 := by omega
 have n31 : n + 1 + 1 + 1 ≠ n + 1 := by omega
 have n23 : n + 1 + 1 ≠ n + 1 + 1 + 1 := by omega
 have n32 : n + 1 + 1 + 1 ≠ n + 1 + 1 := by omega
 have hSL : (subs.map tmD).length = subs.length := by simp
 have hSG : ∀ i (h : i < subs.length), (subs.map tmD)[i]? = some (tmD subs[i]) := fun i h => by simp [h]
 have hYL : (types.map tyD).length = types.length := by simp
 have hYG : ∀ i (h : i < types.length), (types.map tyD)[i]? = some (tyD types[i]) := fun i h => by simp [h]
 have hNL : (names.map fun s => [S s]).length = names.length := by simp
 have hVL : (vars.map fun s => [S s]).length = vars.length := by simp
 have hpn : ∀ e ∈ names.map fun s => [S s], ∀ d ∈ e, Pur d := pur_ss
 have hpv : ∀ e ∈ vars.map fun s => [S s], ∀ d ∈ e, Pur d := pur_ss
 have hps := pur_tmm subs
 have hpy : ∀ e ∈ types.map tyD, ∀ d ∈ e, Pur d := fun e he d hd => by
  obtain ⟨y, _, rfl⟩ := List.mem_map.1 he
  exact pur_ty y d hd
 have ih' : ∀ i (h : i < subs.length), Pc Tryz.prog 9 [.agg (tmD subs[i])] (.agg (tmD subs[i])) := fun i h => ih _ (List.getElem_mem h)
 have iy' : ∀ i (h : i < types.length), Pc Tryz.prog 30 [.agg (tyD types[i])] (.agg (tyD types[i])) := fun i h => cCopyTy (h5 _ (List.getElem_mem h))
 simp only [tmD, tmsD_eq, sl1]
 generalize (names.map fun s => [S s]) = NL at hNL hpn ⊢
 generalize (vars.map fun s => [S s]) = VL at hVL hpv ⊢
 generalize types.map tyD = YL at hYL hYG hpy ⊢
 generalize subs.map tmD = SL at hSL hSG hps ⊢
 refine acalls_vcC [0, 1, 2, 3, 4, 5, 6, 26, 42] Tryz.func9 Tryz.ntmps9 (by kernel_rfl) rfl rfl (by simp) ?_
 simp -dsimp [I, S, set_ne, nn1, n1n, nn2, n2n, n12, n21, nn3, n3n, n13, n31, n23, n32]
 refine ⟨by omega, by omega, ?_⟩
 refine vloop_as (β := Nat × D) (fun b => [(1, .ptr n 0 0 0), (2, .ptr (n + 1) 0 0 0), (3, .sl 7 YL), (4, .sl 8 SL), (5, I b.1)]) (fun b M Nx => CmL k N mod nm NL VL YL SL m n (b.1, b.2, 0, .v (.slice none 0 0)) M Nx) (fun b => YL.length - b.1) (0, .v (.slice none 0 0)) (by simp [I])
  ⟨by simp [set_ne, I, S, nn1, nn2, nn3], by simp [set_ne, n12, n1n, n13, zTp], by simp [set_ne, n2n, n23], by simp [set_ne, n3n], fun j hj => by simp [set_ne, show j ≠ n by omega, show j ≠ n + 1 by omega, show j ≠ n + 1 + 1 by omega, show j ≠ n + 1 + 1 + 1 by omega], by omega, Nat.zero_le _, Nat.zero_le _, by simp; exact .nil, by simp; exact .nil, by simp [kof], by simp [kof], by simp [kof]⟩ ?_
 rintro ⟨i, d⟩ m2 n2 ⟨o0, o1, oN, oV, hfr, hnn, hly, hlls, hyl, hsl, hyk, hsk, hdf⟩
 simp only at o0 hly hlls hyl hsl hyk hsk
 clear hdf hsk hsl
 by_cases hi : (i : Int) < YL.length
 ·have hi' : i < YL.length := by omega
  have his : i < types.length := by omega
  have wi : IntKind.i64.wrap ((i : Int) + 1) = (i : Int) + 1 := wrap_i64 (by omega) (by omega)
  have hgs : YL[i] = tyD types[i] := get_opt (hYG i his) hi'
  have hz : (tyD types[i]).length = 7 := by simp
  have hc := iy' i his
  have htk : YL.take (i + 1) = YL.take i ++ [tyD types[i]] := by rw [List.take_succ_eq_append_getElem hi', hgs]
  have hRl : (YL.take i).length = i := by simp; omega
  generalize YL.take i = RL at hyl htk hRl
  generalize tyD types[i] = X at hgs hz hc htk
  have hX : List.take 7 X = X := List.take_of_length_le (by omega)
  simp -dsimp [I, S, hi, o0, o1, set_ne]
  refine vdraw_tree [0, 1, 0, 0, 12, 28, 60, 124, 255, 511, 1023] (.rd 0 (.rd 1 (.rd 2 (.rd 3 (.rd 4 (.rd 5 (.wr (.cons 6 (.wr (.cons 7 (.wr (.cons 8 (.rd 9 (.wr (.cons 10 (.fin) (.nil)))) (.nil))) (.nil))) (.nil))))))))) (by kernel_rfl) (by kernel_rfl) ?_
  simp -dsimp [I, S, hi, hi', hgs, hz, hX, o0, o1, set_ne]
  refine pcall hc ?_
  refine ⟨fun _ _ _ => rfl, ?_⟩
  simp -dsimp [I, S, hz, hX, o0, o1, set_ne]
  refine ⟨by rw [set_ne _ _ _ _ (by omega)]; exact o0, ?_⟩
  refine b4_append (es := RL) ?_ ?_ trivial trivial (by omega) (by simp [hRl]; omega) ?_
  ·exact hyl.frame fun j hj => by have := hyk j hj; simp [set_ne, show j ≠ n2 by omega]
  ·exact fun j hj => by have := hyk j hj; omega
  intro da ma na a1 a2 a3 a4
  have hma : ∀ j, j < n + 4 → ma j = m2 j := fun j hj => by
   rw [a4 j (by omega) (fun e => by have := hyk j e; omega)]
   simp [set_ne, show j ≠ n2 by omega]
  have ka : ∀ j, kof da = some j → n + 4 ≤ j ∧ j < na := fun j hj => by
   have := a3 j hj
   rcases this.2 with e | e
   ·exact ⟨(hyk j e).1, this.1⟩
   ·omega
  refine ⟨fun p hp _ => ?_, ?_⟩
  ·simp only [List.mem_cons, List.not_mem_nil, or_false] at hp
   subst hp
   exact a4 _ (by dsimp only; omega) (fun e => by have := hyk _ e; dsimp only at this; omega)
  have o0a : ma n = _ := (hma n (by omega)).trans o0
  simp -dsimp [I, S, o0a, wi, (okD_lst a1).1, (okD_lst a1).2]
  refine rnd (i + 1, da) (by simp; omega) (by simp [I]) ⟨?_, ?_, ?_, ?_, ?_, ?_, ?_, ?_, ?_, ?_, ?_, ?_, ?_⟩
  ·simp [I, S]
  ·rw [set_ne _ _ _ _ (by omega), hma (n + 1) (by omega)]; exact o1
  ·rw [set_ne _ _ _ _ (by omega), hma (n + 1 + 1) (by omega)]; exact oN
  ·rw [set_ne _ _ _ _ (by omega), hma (n + 1 + 1 + 1) (by omega)]; exact oV
  ·intro j hj; rw [set_ne _ _ _ _ (by omega), hma j (by omega)]; exact hfr j hj
  ·omega
  ·simp; omega
  ·simp
  ·simp only; rw [htk]; exact a1.frame fun j hj => set_ne _ _ _ _ (by have := ka j hj; omega)
  ·simp; exact .nil
  ·exact ka
  ·simp [kof]
  ·simp [kof]
 ·have e : i = YL.length := by omega
  subst e
  rw [List.take_length] at hyl
  have odY := okD_lst hyl
  simp -dsimp [I, S, hi, o0, o1]
  refine vloop_as (β := Nat × D) (fun b => [(1, .ptr n 0 0 0), (2, .ptr (n + 1) 0 0 0), (3, .sl 7 YL), (4, .sl 8 SL), (6, I b.1)]) (fun b M Nx => CmL k N mod nm NL VL YL SL m n (YL.length, d, b.1, b.2) M Nx) (fun b => SL.length - b.1) (0, .v (.slice none 0 0)) (by simp [I])
   ⟨o0, o1, oN, oV, hfr, hnn, by simp, by simp, by simp; exact hyl, by simp; exact .nil, hyk, by simp [kof], by simp [kof]⟩ ?_
  clear o0 o1 oN oV hfr hnn hyl hyk hlls hi hly
  rintro ⟨i, d2⟩ m2 n2 ⟨o0, o1, oN, oV, hfr, hnn, hly, hlls, hyl, hsl, hyk, hsk, hdf⟩
  simp only at o0 hly hlls hyl hsl hyk hsk hdf
  rw [List.take_length] at hyl
  by_cases hi : (i : Int) < SL.length
  ·have hi' : i < SL.length := by omega
   have his : i < subs.length := by omega
   have wi : IntKind.i64.wrap ((i : Int) + 1) = (i : Int) + 1 := wrap_i64 (by omega) (by omega)
   have hgs : SL[i] = tmD subs[i] := get_opt (hSG i his) hi'
   have hz : (tmD subs[i]).length = 8 := by simp
   have hc := ih' i his
   have htk : SL.take (i + 1) = SL.take i ++ [tmD subs[i]] := by rw [List.take_succ_eq_append_getElem hi', hgs]
   have hRl : (SL.take i).length = i := by simp; omega
   generalize SL.take i = RL at hsl htk hRl
   generalize tmD subs[i] = X at hgs hz hc htk
   have hX : List.take 8 X = X := List.take_of_length_le (by omega)
   simp -dsimp [I, S, hi, o0, o1, set_ne]
   refine vdraw_tree [0, 1, 0, 0, 12, 28, 60, 124, 255, 511, 1023] (.rd 0 (.rd 1 (.rd 2 (.rd 3 (.rd 4 (.rd 5 (.wr (.cons 6 (.wr (.cons 7 (.wr (.cons 8 (.rd 9 (.wr (.cons 10 (.fin) (.nil)))) (.nil))) (.nil))) (.nil))))))))) (by kernel_rfl) (by kernel_rfl) ?_
   simp -dsimp [I, S, hi, hi', hgs, hz, hX, o0, o1, set_ne]
   refine pcall hc ?_
   refine ⟨fun _ _ _ => rfl, ?_⟩
   simp -dsimp [I, S, hz, hX, o0, o1, set_ne]
   refine ⟨by rw [set_ne _ _ _ _ (by omega)]; exact o0, ?_⟩
   refine b4_append (es := RL) ?_ ?_ trivial trivial (by omega) (by simp [hRl]; omega) ?_
   ·exact hsl.frame fun j hj => by have := hsk j hj; simp [set_ne, show j ≠ n2 by omega]
   ·exact fun j hj => by have := hsk j hj; omega
   intro da ma na a1 a2 a3 a4
   have hma : ∀ j, j < n2 → kof d2 ≠ some j → ma j = m2 j := fun j hj hk => by
    rw [a4 j (by omega) hk]
    simp [set_ne, show j ≠ n2 by omega]
   have hlo : ∀ j, j < n + 4 → kof d2 ≠ some j := fun j hj e => by have := hsk j e; omega
   have ka : ∀ j, kof da = some j → n + 4 ≤ j ∧ j < na := fun j hj => by
    have := a3 j hj
    rcases this.2 with e | e
    ·exact ⟨(hsk j e).1, this.1⟩
    ·omega
   refine ⟨fun p hp _ => ?_, ?_⟩
   ·simp only [List.mem_cons, List.not_mem_nil, or_false] at hp
    subst hp
    exact a4 _ (by dsimp only; omega) (hlo _ (by dsimp only; omega))
   have o0a : ma n = _ := (hma n (by omega) (hlo n (by omega))).trans o0
   simp -dsimp [I, S, o0a, wi, (okD_lst a1).1, (okD_lst a1).2]
   refine rnd (i + 1, da) (by simp; omega) (by simp [I]) ⟨?_, ?_, ?_, ?_, ?_, ?_, ?_, ?_, ?_, ?_, ?_, ?_, ?_⟩
   ·simp [I, S]
   ·rw [set_ne _ _ _ _ (by omega), hma (n + 1) (by omega) (hlo _ (by omega))]; exact o1
   ·rw [set_ne _ _ _ _ (by omega), hma (n + 1 + 1) (by omega) (hlo _ (by omega))]; exact oN
   ·rw [set_ne _ _ _ _ (by omega), hma (n + 1 + 1 + 1) (by omega) (hlo _ (by omega))]; exact oV
   ·intro j hj; rw [set_ne _ _ _ _ (by omega), hma j (by omega) (hlo _ (by omega))]; exact hfr j hj
   ·omega
   ·simp
   ·simp; omega
   ·simp only [List.take_length]
    exact hyl.frame fun j hj => by
     have := hyk j hj
     rw [set_ne _ _ _ _ (by omega), hma j (by omega) (hdf j hj)]
   ·simp only; rw [htk]; exact a1.frame fun j hj => set_ne _ _ _ _ (by have := ka j hj; omega)
   ·exact fun j hj => by have := hyk j hj; exact ⟨this.1, by omega⟩
   ·exact ka
   ·intro j hj e
    have := a3 j e
    rcases this.2 with e2 | e2
    ·exact hdf j hj e2
    ·have := hyk j hj; omega
  ·have e : i = SL.length := by omega
   subst e
   rw [List.take_length] at hsl
   simp -dsimp [I, S, hi, o0, o1, zTp]
   refine pcp ?_ fun j hj => by rw [set_ne _ _ _ _ (by omega)]; exact hfr j hj
   refine .agg (.cons (pur_I _).pub (.cons (pur_I _).pub (.cons (pur_S _).pub (.cons (pur_S _).pub (.cons ?_ (.cons ?_ (.cons ?_ (.cons ?_ .nil))))))))
   ·exact .lstP (Lst.mk (es' := NL) (g := 1) (by rw [set_ne _ _ _ _ (by omega)]; exact oN) rfl (Nat.le_refl _) (List.take_length)) (fun j hj => by simp at hj; omega) hpn
   ·exact .lstP (Lst.mk (es' := VL) (g := 1) (by rw [set_ne _ _ _ _ (by omega)]; exact oV) rfl (Nat.le_refl _) (List.take_length)) (fun j hj => by simp at hj; omega) hpv
   ·exact .lstP (hyl.frame fun j hj => set_ne _ _ _ _ (by have := hyk j hj; omega)) (fun j hj => by have := hyk j hj; omega) hpy
   ·exact .lstP (hsl.frame fun j hj => set_ne _ _ _ _ (by have := hsk j hj; omega)) (fun j hj => by have := hsk j hj; omega) hps
end Go.Proofs.Mv.App
open Go Go.Proofs Go.Proofs.Mv.V
set_option maxRecDepth 10000
namespace Go.Proofs.Mv.App
structure LsInv (l : List Ty) (T : List (List UInt8)) (dn : D) (SL : List (List D)) (m : Mem) (n : Nat) (i : Nat) (σ : Nat → D) (m2 : Mem) (n2 : Nat) : Prop where
 h1 : σ 1 = dn
 h9 : σ 9 = .sl 7 SL
 h10 : σ 10 = I l.length
 h11 : σ 11 = I i
 le : i ≤ l.length
 nn : n ≤ n2
 fr : ∀ j, j < n → m2 j = m j
 ls : Lst m2 1 ((T.take i).map fun s => [S s]) (σ 5)
 kf : ∀ k, kof (σ 5) = some k → n ≤ k ∧ k < n2
set_option maxHeartbeats 2000000 in
theorem cList {l : List Ty} {ns : List (List UInt8)} {dn : D} (hdn : dn = sl1 ns ∧ ns.length = l.length ∨ dn = .v (.slice none 0 0) ∧ ns = []) (H : ∀ t ∈ l, ∀ m n, ACalls Tryz.prog 137 [.agg (tyD t)] m n (fun d m' n' => d = S (textT t) ∧ m' = m ∧ n' = n))
  (hlen : l.length ≤ 1000) (hb : ((textTs ns l).map fun s => s.length + comma.length).sum ≤ 1000000000) (m : Mem) (n : Nat) :
  ACalls Tryz.prog 172 [.sl 7 (tysD l), dn] m n (fun d m' n' => d = S (joinB comma (textTs ns l)) ∧ m' = m ∧ n' = n) := by
 refine acalls_done (R' := Hq (fun d m' n' => d = S (joinB comma (textTs ns l)) ∧ ∀ j, j < n → m' j = m j) tg) ?_ ?_
 ·have hL2 : (tysD l).length = l.length := by rw [tysD_eq]; simp
  have hG2 : ∀ i (h : i < l.length), (tysD l)[i]? = some (tyD l[i]) := fun i h => by rw [tysD_eq]; simp [h]
  generalize tysD l = SL at hL2 hG2
  have hTl := textTs_len ns l
  have hjl := joinB_len comma (textTs ns l)
  have hTn : ns.length = l.length → ∀ i (h : i < l.length) (h' : i < ns.length), (textTs ns l)[i]? = some (ns[i] ++ [58, 32] ++ textT l[i]) := fun e i h h' => textTs_get ns l i h h'
  have hT0 : ns = [] → ∀ i (h : i < l.length), (textTs ns l)[i]? = some (textT l[i]) := fun e i h => by rw [e]; exact textTs_get0 l i h
  have hsz : ∀ s ∈ textTs ns l, s.length ≤ 1000000000 := by
   intro s hs
   have : s.length + comma.length ≤ ((textTs ns l).map fun s => s.length + comma.length).sum := by
    clear hjl hTn hT0 hTl
    generalize textTs ns l = T at hs hb ⊢
    clear hb
    induction T with
    | nil => cases hs
    | cons x T ih =>
     rcases List.mem_cons.1 hs with rfl | hs
     ·simp
     ·have := ih hs; simp at this ⊢; omega
   omega
  generalize textTs ns l = T at hTl hjl hTn hT0 hsz hb
  have hfin : ∀ {d : D} {m2 : Mem} {n2 : Nat}, Lst m2 1 (T.map fun s => [S s]) d → ACalls Tryz.prog 93 [d, S comma] m2 n2 (fun d' m' n' => d' = S (joinB comma T) ∧ m' = m2 ∧ n' = n2) := fun h => cJoin h comma (by omega) (by omega) _
  simp only [comma, S] at hfin
  refine acalls_vc [0, 1, 4, 5, 6, 7, 8, 9, 10, 11, 12, 20] Tryz.func172 Tryz.ntmps172 (by kernel_rfl) rfl rfl (by simp) ?_
  simp -dsimp [hL2]
  refine vloop_of (β := Nat) (LsInv l T dn SL m n) (fun i => l.length - i) 0 ⟨by simp, by simp, by simp [I], by simp [I], by omega, by omega, by simp, ?_, ?_⟩ ?_
  ·first | exact Lst.nil | simp
  ·simp
  rintro i σ m2 n2 ⟨h1, h9, h10, h11, le, nn, fr, ls, kf⟩
  by_cases hi : (i : Int) < l.length
  ·have hi' : i < l.length := by omega
   have wi : IntKind.i64.wrap ((i : Int) + 1) = (i : Int) + 1 := wrap_i64 (by omega) (by omega)
   have hiN : i < SL.length := by omega
   have hgi : SL[i] = tyD l[i] := get_opt (hG2 i hi') hiN
   have hH := H l[i] (List.getElem_mem hi')
   have h77 := tyD_len l[i]
   generalize tyD l[i] = TT at hgi hH h77
   have ht7 : List.take 7 TT = TT := List.take_of_length_le (by omega)
   have hTi : i < T.length := by omega
   generalize hd5 : σ 5 = d5 at ls kf
   have nk : ∀ k, kof d5 = some k → k ≠ n2 := fun k hk => by have := kf k hk; omega
   have fin : ∀ {d : D} {m3 : Mem} {n3 : Nat}, Lst m3 1 ((T.take i).map (fun s => [S s]) ++ [[S T[i]]]) d → n2 + 1 + 1 ≤ n3 → (∀ k, kof d = some k → k < n3 ∧ (kof d5 = some k ∨ k = n2 + 1 + 1)) → (∀ j, j < n → m3 j = m j) →
     Lst m3 1 ((T.take (i + 1)).map fun s => [S s]) d ∧ (∀ k, kof d = some k → n ≤ k ∧ k < n3) := by
    intro d m3 n3 p1 p2 p3 p4
    refine ⟨?_, fun k hk => ?_⟩
    ·rw [take_snoc hTi, List.map_append]; exact p1
    ·have := p3 k hk
     rcases this.2 with e | e
     ·have := kf k e; omega
     ·omega
   simp -dsimp [h1, h9, h10, h11, hd5, I, hi, hi', hiN, hgi, h77, ht7]
   refine aCall_of (hH _ _) ?_
   rintro d m3 n3 ⟨rfl, rfl, rfl⟩
   rcases hdn with ⟨rfl, hn⟩ | ⟨rfl, rfl⟩
   ·have hpos : (0 : Int) < ns.length := by omega
    have hpos' : 0 < ns.length := by omega
    have hin : i < ns.length := by omega
    have hTe : T[i] = ns[i] ++ [58, 32] ++ textT l[i] := get_opt (hTn hn i hi' hin) hTi
    have hle := hsz T[i] (List.getElem_mem hTi)
    rw [hTe] at hle
    simp only [List.length_append, List.length_cons, List.length_nil] at hle
    simp -dsimp [h1, h9, h10, h11, hd5, I, S, sl1, hpos, hpos', hin]
    refine ⟨by omega, by omega, ?_⟩
    refine b4_append (ls.frame fun k hk => by have := kf k hk; rw [set_ne _ _ _ _ (by omega), set_ne _ _ _ _ (by omega)]) (fun k hk => by have := kf k hk; omega) trivial trivial (by omega) (by simp; omega) ?_
    intro d m6 n6 p1 p2 p3 p4
    simp -dsimp [h1, h9, h10, h11, wi]
    have q := fin (d := d) (m3 := m6) (n3 := n6) (by rw [hTe]; simpa [S] using p1) p2 p3 (fun j hj => by
     rw [p4 j (by omega) (fun e => by have := kf j e; omega), set_ne _ _ _ _ (by omega), set_ne _ _ _ _ (by omega)]; exact fr j hj)
    exact ⟨i + 1, by omega, by simp [sl1, S], by simp, by simp [I], by simp [I], by omega, by omega, fun j hj => by
     rw [p4 j (by omega) (fun e => by have := kf j e; omega), set_ne _ _ _ _ (by omega), set_ne _ _ _ _ (by omega)]; exact fr j hj, by simpa using q.1, by simpa using q.2⟩
   ·have hTe : T[i] = textT l[i] := get_opt (hT0 rfl i hi') hTi
    simp -dsimp [h1, h9, h10, h11, hd5, I, S]
    refine b4_append (ls.frame fun k hk => by have := kf k hk; rw [set_ne _ _ _ _ (by omega), set_ne _ _ _ _ (by omega)]) (fun k hk => by have := kf k hk; omega) trivial trivial (by omega) (by simp; omega) ?_
    intro d m6 n6 p1 p2 p3 p4
    simp -dsimp [h1, h9, h10, h11, wi]
    have q := fin (d := d) (m3 := m6) (n3 := n6) (by rw [hTe]; simpa [S] using p1) p2 p3 (fun j hj => by
     rw [p4 j (by omega) (fun e => by have := kf j e; omega), set_ne _ _ _ _ (by omega), set_ne _ _ _ _ (by omega)]; exact fr j hj)
    exact ⟨i + 1, by omega, by simp, by simp, by simp [I], by simp [I], by omega, by omega, fun j hj => by
     rw [p4 j (by omega) (fun e => by have := kf j e; omega), set_ne _ _ _ _ (by omega), set_ne _ _ _ _ (by omega)]; exact fr j hj, by simpa using q.1, by simpa using q.2⟩
  ·have ht : T.take i = T := List.take_of_length_le (by omega)
   rw [ht] at ls
   generalize hd5 : σ 5 = d5 at ls kf
   simp -dsimp [h1, h9, h10, h11, I, hi, hd5]
   refine aCall_of (hfin (by simpa [S] using ls)) ?_
   rintro d m3 n3 ⟨rfl, rfl, rfl⟩
   simp -dsimp [S]
   exact hq ⟨rfl, fr⟩
 ·rintro d m' n' ⟨rfl, h⟩
  exact ⟨_, (pur_S _).pub, h, rfl⟩
end Go.Proofs.Mv.App
open Go Go.Proofs Go.Proofs.Mv.V
set_option maxRecDepth 10000
namespace Go.Proofs.Mv.App
theorem manyTs_le_mem {t : Ty} : ∀ {l : List Ty}, t ∈ l → manyT t ≤ manyTs l
 | [], h => by cases h
 | x :: l, h => by
  simp only [manyTs]
  rcases List.mem_cons.1 h with rfl | h
  ·omega
  ·have := manyTs_le_mem h; omega
theorem text_small {t : Ty} (ha : allT t = true) (hm : manyT t ≤ 100000) : (textT t).length ≤ 13000000 := by
 have := text_len t ha; omega
theorem texts_small {l : List Ty} {ns : List (List UInt8)} (ha : allTs l = true) (hn : ∀ s ∈ ns, s.length ≤ 20) (hm : manyTs l ≤ 100000) : ((textTs ns l).map fun s => s.length + comma.length).sum ≤ 1000000000 := by
 have := texts_len l ns ha hn; omega
theorem dropLast_texts (l : List Ty) : (textTs [] l).dropLast = textTs [] l.dropLast := by
 rw [textTs_nil, textTs_nil, List.map_dropLast]
theorem last_texts {l : List Ty} (h : l ≠ []) : (textTs [] l).getLastD [] = textT (l.getLast h) := by
 rw [textTs_nil]
 conv => lhs; rw [← List.dropLast_concat_getLast h]
 simp
set_option maxHeartbeats 4000000 in
theorem cText {t : Ty} (ht : TyW t) : allT t = true → manyT t ≤ 100000 → ∀ (m : Mem) (n : Nat), ACalls Tryz.prog 137 [.agg (tyD t)] m n (fun d m' n' => d = S (textT t) ∧ m' = m ∧ n' = n) := by
 induction ht with
 | mk kind pkg major mod name names subs l1 l2 l3 l4 l5 l6 l7 ih =>
  intro ha hm m n
  refine acalls_done (R' := Hq (fun d m' n' => d = S (textT (.mk kind pkg major mod name names subs)) ∧ ∀ j, j < n → m' j = m j) tg) ?_ ?_
  ·have fr : ∀ o j, j < n → (m.set n o) j = m j := fun o j hj => by rw [set_ne _ _ _ _ (by omega)]
   have ha0 := ha
   simp only [allT, Bool.and_eq_true] at ha
   obtain ⟨hs, hall⟩ := ha
   obtain ⟨e1, e2, e3, e4, e5, e6⟩ := shape_sm hs
   obtain ⟨hn, hs⟩ := shape_parts hs
   simp only [manyT] at hm
   simp only [shapeK, Ty.kind, Ty.pkg, Ty.major, Ty.mod, Ty.name, Ty.names, Ty.subs] at hs hn e1 e2 e3 e4 e5 e6
   have hsub : ∀ t ∈ subs, ∀ (m : Mem) (n : Nat), ACalls Tryz.prog 137 [.agg (tyD t)] m n (fun d m' n' => d = S (textT t) ∧ m' = m ∧ n' = n) := fun t h => ih t h (allTs_mem hall t h) (by have := manyTs_le_mem h; omega)
   have hsm : ∀ t ∈ subs, (textT t).length ≤ 13000000 := fun t h => text_small (allTs_mem hall t h) (by have := manyTs_le_mem h; omega)
   have hLs : subs.length = names.length → ∀ m n, ACalls Tryz.prog 172 [.sl 7 (tysD subs), sl1 names] m n (fun d m' n' => d = S (joinB comma (textTs names subs)) ∧ m' = m ∧ n' = n) := fun e m n =>
    cList (.inl ⟨rfl, e.symm⟩) hsub (by omega) (texts_small hall e6 (by omega)) m n
   have hLb : (joinB comma (textTs names subs)).length ≤ 1000000000 := by
    have h1 := joinB_len comma (textTs names subs)
    have h2 := texts_small hall e6 (show manyTs subs ≤ 100000 by omega)
    omega
   have hdl : ∀ t ∈ subs.dropLast, t ∈ subs := fun t h => List.dropLast_subset subs h
   have hL7 : 1 ≤ subs.length → ∀ m n, ACalls Tryz.prog 172 [.sl 7 (tysD subs.dropLast), .v (.slice none 0 0)] m n (fun d m' n' => d = S (joinB comma (textTs [] subs).dropLast) ∧ m' = m ∧ n' = n) := fun e m n => by
    rw [dropLast_texts]
    refine cList (.inr ⟨rfl, rfl⟩) (fun t h => hsub t (hdl t h)) (by simp; omega) ?_ m n
    have h1 := texts_small (ns := []) hall (by simp) (show manyTs subs ≤ 100000 by omega)
    rw [← dropLast_texts]
    have h2 : ∀ q : List (List UInt8), ((q.dropLast).map fun s => s.length + comma.length).sum ≤ (q.map fun s => s.length + comma.length).sum := by
     intro q
     rcases List.eq_nil_or_concat q with e | ⟨r, x, e⟩
     ·rw [e]; simp
     ·rw [e]; simp
    exact Nat.le_trans (h2 _) h1
   simp only [tyD, sl1, textT] at hLs ⊢
   by_cases k1 : kind = 1
   ·subst k1
    generalize (names.map fun s => [S s]) = NL
    generalize tysD subs = SL
    refine acalls_vc [0, 1, 2, 3, 5, 6, 8, 10, 12, 21, 30, 39, 59, 80] Tryz.func137 Tryz.ntmps137 (by kernel_rfl) rfl rfl (by simp) ?_
    simp -dsimp [I, S]
    exact hq ⟨by simp [S, wInt], fr _⟩
   by_cases k2 : kind = 2
   ·subst k2
    generalize (names.map fun s => [S s]) = NL
    generalize tysD subs = SL
    refine acalls_vc [0, 1, 2, 3, 5, 6, 8, 10, 12, 21, 30, 39, 59, 80] Tryz.func137 Tryz.ntmps137 (by kernel_rfl) rfl rfl (by simp) ?_
    simp -dsimp [I, S]
    exact hq ⟨by simp [S, wText], fr _⟩
   by_cases k3 : kind = 3
   ·subst k3
    generalize (names.map fun s => [S s]) = NL
    generalize tysD subs = SL
    refine acalls_vc [0, 1, 2, 3, 5, 6, 8, 10, 12, 21, 30, 39, 59, 80] Tryz.func137 Tryz.ntmps137 (by kernel_rfl) rfl rfl (by simp) ?_
    simp -dsimp [I, S]
    exact hq ⟨by simp [S, wBool], fr _⟩
   simp only [k1, k2, k3, or_self, if_false] at hs ⊢
   by_cases k4 : kind = 4
   ·subst k4
    simp only [if_true, Bool.and_eq_true, decide_eq_true_eq, List.length_eq_zero_iff] at hs
    obtain ⟨⟨_, h1⟩, rfl⟩ := hs
    obtain ⟨u, rfl⟩ := List.length_eq_one_iff.1 h1
    have hu := hsub u (by simp)
    have hul := hsm u (by simp)
    have h77 := tyD_len u
    simp only [tysD]
    generalize tyD u = TT at hu h77
    have ht7 : List.take 7 TT = TT := List.take_of_length_le (by omega)
    refine acalls_vc [0, 1, 2, 3, 5, 6, 8, 10, 12, 21, 30, 39, 59, 80] Tryz.func137 Tryz.ntmps137 (by kernel_rfl) rfl rfl (by simp) ?_
    simp -dsimp [I, S, h77, ht7]
    refine aCall_of (hu _ _) ?_
    rintro d m' n' ⟨rfl, rfl, rfl⟩
    simp -dsimp [S]
    refine ⟨by omega, by omega, ?_⟩
    exact hq ⟨by simp [S, wList, textTs, joinB], fr _⟩
   have k1' : (kind == 1) = false := by simpa using k1
   have k2' : (kind == 2) = false := by simpa using k2
   have k3' : (kind == 3) = false := by simpa using k3
   have k4' : (kind == 4) = false := by simpa using k4
   simp only [k4, if_false] at hs ⊢
   by_cases k5 : kind = 5
   ·subst k5
    simp only [if_true, Bool.and_eq_true, decide_eq_true_eq] at hs
    have hc := hLs hs.1.2
    generalize (names.map fun s => [S s]) = NL at hc
    generalize tysD subs = SL at hc
    refine acalls_vc [0, 1, 2, 3, 5, 6, 8, 10, 12, 21, 30, 39, 59, 80] Tryz.func137 Tryz.ntmps137 (by kernel_rfl) rfl rfl (by simp) ?_
    simp -dsimp [I, S]
    refine aCall_of (hc _ _) ?_
    rintro d m' n' ⟨rfl, rfl, rfl⟩
    simp -dsimp [S]
    refine ⟨by omega, by omega, ?_⟩
    exact hq ⟨by simp [S], fr _⟩
   have k5' : (kind == 5) = false := by simpa using k5
   simp only [k5, if_false] at hs ⊢
   by_cases k6 : kind = 6
   ·subst k6
    simp only [if_true, Bool.and_eq_true, decide_eq_true_eq] at hs
    have hc := hLs hs.1.2
    generalize (names.map fun s => [S s]) = NL at hc
    generalize tysD subs = SL at hc
    refine acalls_vc [0, 1, 2, 3, 5, 6, 8, 10, 12, 21, 30, 39, 59, 80] Tryz.func137 Tryz.ntmps137 (by kernel_rfl) rfl rfl (by simp) ?_
    simp -dsimp [I, S]
    refine aCall_of (hc _ _) ?_
    rintro d m' n' ⟨rfl, rfl, rfl⟩
    simp -dsimp [S]
    refine ⟨by omega, by omega, ?_⟩
    exact hq ⟨by simp [S], fr _⟩
   have k6' : (kind == 6) = false := by simpa using k6
   simp only [k6, if_false] at hs ⊢
   by_cases k7 : kind = 7
   ·subst k7
    simp only [if_true, Bool.and_eq_true, decide_eq_true_eq] at hs
    have h1 := hs.1.2
    have hne : subs ≠ [] := by intro e; subst e; simp at h1
    have hc := hL7 h1
    have hlast := last_texts hne
    have hu := hsub _ (List.getLast_mem hne)
    have hul := hsm _ (List.getLast_mem hne)
    have hjb : (joinB comma (textTs [] subs).dropLast).length ≤ 1000000000 := by
     have := text_small ha0 (by simp only [manyT]; omega)
     simp [textT] at this
     omega
    have hL2 : (tysD subs).length = subs.length := by rw [tysD_eq]; simp
    have hgl : (tysD subs)[subs.length - 1]? = some (tyD (subs.getLast hne)) := by
     rw [tysD_eq, List.getElem?_map, List.getElem?_eq_getElem (by omega), List.getLast_eq_getElem]; rfl
    have hdr : tysD subs.dropLast = (tysD subs).take (subs.length - 1) := by
     rw [tysD_eq, tysD_eq, List.dropLast_eq_take, List.map_take]
    rw [hdr] at hc
    rw [hlast]
    have h77 := tyD_len (subs.getLast hne)
    have w1 : IntKind.i64.wrap ((subs.length : Int) - 1) = ((subs.length - 1 : Nat) : Int) := by rw [wrap_i64 (by omega) (by omega)]; omega
    obtain ⟨q, hq0⟩ : ∃ q, subs.length = q + 1 := ⟨subs.length - 1, by omega⟩
    simp only [hq0, Nat.add_sub_cancel] at w1 hgl hc
    generalize tyD (subs.getLast hne) = TT at hu h77 hgl
    have ht7 : List.take 7 TT = TT := List.take_of_length_le (by omega)
    generalize (names.map fun s => [S s]) = NL
    generalize tysD subs = SL at hc hgl hL2
    rw [hq0] at hL2
    have hqN : q < SL.length := by omega
    have hgi : SL[q] = TT := get_opt hgl hqN
    have w2 : IntKind.i64.wrap (q : Int) = (q : Int) := wrap_i64 (by omega) (by omega)
    refine acalls_vc [0, 1, 2, 3, 5, 6, 8, 10, 12, 21, 30, 39, 59, 80] Tryz.func137 Tryz.ntmps137 (by kernel_rfl) rfl rfl (by simp) ?_
    simp -dsimp [I, S, hL2, w1, w2]
    refine vdraw_tree [0, 1, 0, 7, 15, 31, 63, 0, 128, 0, 896, 1920, 3999, 8191, 16383] (.rd 0 (.rd 1 (.rd 2 (.rd 3 (.rd 7 (.rd 8 (.rd 9 (.rd 10 (.rd 11 (.wr (.cons 4 (.rd 5 (.rd 6 (.wr (.cons 12 (.rd 13 (.rd 14 (.fin))) (.nil))))) (.nil)))))))))))) (by kernel_rfl) (by kernel_rfl) ?_
    simp -dsimp [I, S, hL2, w1, w2, hqN, hgi, h77, ht7]
    refine ⟨by omega, by omega, ?_⟩
    refine aCall_of (hc _ _) ?_
    rintro d m' n' ⟨rfl, rfl, rfl⟩
    simp -dsimp [I, S, hL2, w1, w2, hqN, hgi, h77, ht7]
    refine ⟨by omega, by omega, ?_⟩
    refine aCall_of (hu _ _) ?_
    rintro d m' n' ⟨rfl, rfl, rfl⟩
    simp -dsimp [I, S, hL2, w1, w2, hqN, hgi, h77, ht7]
    refine ⟨by omega, hq ⟨by simp [S], fr _⟩⟩
   have k7' : (kind == 7) = false := by simpa using k7
   simp only [k7, if_false] at hs ⊢
   by_cases k9 : kind = 9
   ·subst k9
    simp only [if_true, show ¬ (9 : Int) = 8 by omega, if_false, Bool.and_eq_true, decide_eq_true_eq] at hs
    generalize (names.map fun s => [S s]) = NL
    generalize tysD subs = SL
    have hj := hs.1.2
    have hdl := digits_len major.toNat
    refine acalls_vc [0, 1, 2, 3, 5, 6, 8, 10, 12, 21, 30, 39, 59, 80] Tryz.func137 Tryz.ntmps137 (by kernel_rfl) rfl rfl (by simp) ?_
    simp -dsimp [I, S]
    refine vdraw_tree [0, 1, 3, 7, 0, 16, 48, 127, 255, 0, 512, 2047, 4095, 0, 8192, 32767, 65535, 131071] (.rd 0 (.rd 1 (.rd 2 (.rd 3 (.rd 4 (.rd 5 (.rd 9 (.rd 10 (.rd 13 (.rd 14 (.wr (.cons 6 (.rd 7 (.rd 8 (.rd 11 (.rd 12 (.rd 15 (.rd 16 (.rd 17 (.fin)))))))) (.nil))))))))))))) (by kernel_rfl) (by kernel_rfl) ?_
    simp -dsimp [I, S]
    refine ⟨by omega, by omega, ?_⟩
    refine aCall_of (cItoa (by omega) (by omega) _ _) ?_
    rintro d m' n' ⟨rfl, rfl, rfl⟩
    simp -dsimp [I, S]
    refine ⟨by omega, by omega, by omega, by omega, by omega, by omega, hq ⟨by simp [S], fr _⟩⟩
   have k9' : (kind == 9) = false := by simpa using k9
   simp only [k9, if_false] at hs ⊢
   generalize (names.map fun s => [S s]) = NL
   generalize tysD subs = SL
   by_cases em : mod = []
   ·subst em
    refine acalls_vc [0, 1, 2, 3, 5, 6, 8, 10, 12, 21, 30, 39, 59, 80] Tryz.func137 Tryz.ntmps137 (by kernel_rfl) rfl rfl (by simp) ?_
    simp -dsimp [I, S, k1', k2', k3', k4', k5', k6', k7', k9']
    exact hq ⟨by simp [S, k1, k2, k3, k4, k5, k6, k7, k9], fr _⟩
   ·have em' : (mod == []) = false := by simpa using em
    refine acalls_vc [0, 1, 2, 3, 5, 6, 8, 10, 12, 21, 30, 39, 59, 80] Tryz.func137 Tryz.ntmps137 (by kernel_rfl) rfl rfl (by simp) ?_
    simp -dsimp [I, S, k1', k2', k3', k4', k5', k6', k7', k9', em']
    refine ⟨by omega, by omega, ?_⟩
    exact hq ⟨by simp [S, em, k1, k2, k3, k4, k5, k6, k7, k9], fr _⟩
  ·rintro d m' n' ⟨rfl, h⟩
   exact ⟨_, (pur_S _).pub, h, rfl⟩
theorem may_parts {t : Ty} (h : mayT t = true) : allT t = true ∧ manyT t ≤ 500 ∧ deepT t ≤ 32 := by
 simp only [mayT, Bool.and_eq_true, decide_eq_true_eq] at h; exact ⟨h.1.1, h.1.2, h.2⟩
def argE (ok : Bool) : D := if ok then nilE else .iface 39 (.v (.int .i64 1))
theorem cPrintT {t : Ty} (ht : TyW t) (m : Mem) (n : Nat) : ACalls Tryz.prog 94 [.agg (tyD t)] m n (fun d m' n' => d = .tup [S (if mayT t then textT t else []), argE (mayT t)] ∧ m' = m ∧ n' = n) := by
 refine acalls_done (R' := Hq (fun d m' n' => d = .tup [S (if mayT t then textT t else []), argE (mayT t)] ∧ ∀ j, j < n → m' j = m j) tg) ?_ ?_
 ·have h7 := tyD_len t
  have hc := fun m n => cMay ht m n
  have hx := fun h m n => cText ht (may_parts h).1 (by have := (may_parts h).2.1; omega) m n
  generalize tyD t = TT at h7 hc hx
  have ht7 : List.take 7 TT = TT := List.take_of_length_le (by omega)
  refine acalls_vc [0, 1, 2, 3, 6] Tryz.func94 Tryz.ntmps94 (by kernel_rfl) rfl rfl (by simp) ?_
  simp -dsimp [h7, ht7]
  refine aCall_of (hc _ _) ?_
  rintro d m' n' ⟨rfl, rfl, rfl⟩
  cases hm : mayT t with
  | false =>
   simp -dsimp [I, Tt]
   exact hq ⟨by simp [S, argE], fun j hj => by rw [set_ne _ _ _ _ (by omega)]⟩
  | true =>
   simp -dsimp [I, Tt, h7, ht7]
   refine aCall_of (hx hm _ _) ?_
   rintro d m' n' ⟨rfl, rfl, rfl⟩
   simp -dsimp [I, Tt]
   exact hq ⟨by simp [S, argE, nilE], fun j hj => by rw [set_ne _ _ _ _ (by omega)]⟩
 ·rintro d m' n' ⟨rfl, h⟩
  refine ⟨_, pub_pair (pur_S _).pub ?_, h, rfl⟩
  unfold argE
  cases mayT t
  ·exact (pur_code _).pub
  ·exact pur_nilE.pub
end Go.Proofs.Mv.App
