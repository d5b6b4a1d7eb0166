/- A part of the proofs: machine, contracts, laws. No condition of its own. -/
import Derived.Test.YtndinledjelleaaGreatDoorP08
import Derived.Test.YtndinledjelleaaGreatDoorP13
import Derived.Test.YtndinledjelleaaGreatDoorP12
set_option linter.unusedSimpArgs false
set_option linter.unusedVariables false
set_option linter.unusedSectionVars false
open Go Go.Proofs Go.Proofs.Mv.V
set_option maxRecDepth 10000
namespace Go.Proofs.Mv.App
structure LsG (L : List (Nat × D)) (lim : Nat) (T : List (List UInt8)) (so si : Nat) (m : Mem) (n0 : Nat) (i : Nat) (σ : Nat → D) (m2 : Mem) (n2 : Nat) : Prop where
 sl : ∀ p ∈ L, σ p.1 = p.2
 hi : σ si = I i
 le : i ≤ lim
 nn : n0 ≤ n2
 fr : ∀ j, j < n0 → m2 j = m j
 ls : Lst m2 1 ((T.take i).map fun s => [S s]) (σ so)
 kf : ∀ k, kof (σ so) = some k → n0 ≤ k ∧ k < n2
theorem getD_T (T : List (List UInt8)) {i : Nat} (h : i < T.length) : T.getD i [] = T[i] := by rw [List.getD_eq_getElem?_getD, List.getElem?_eq_getElem h]; rfl
theorem textTms_get (l : List Tm) {i : Nat} (h : i < l.length) (h' : i < (textTms l).length) : (textTms l)[i] = textTm l[i] := by
 have : (textTms l)[i]? = some (textTm l[i]) := by rw [textTms_eq]; simp [h]
 exact get_opt this h'
theorem smL_mem {c : Nat} {T : List (List UInt8)} {s : List UInt8} (h : s ∈ T) : s.length ≤ smL c T := by
 obtain ⟨j, hj, rfl⟩ := List.getElem_of_mem h
 have := smL_get (c := c) T j
 rwa [getD_T T hj] at this
set_option maxHeartbeats 2000000 in
theorem cListTm {l : List Tm} (H : ∀ t ∈ l, Pc Tryz.prog 98 [.agg (tmD t)] (S (textTm t))) (hlen : l.length ≤ 1000) (hb : smL 100 (textTms l) ≤ 1000000000) :
  Pc Tryz.prog 155 [.sl 8 (l.map tmD)] (S (joinB comma (textTms l))) := by
 refine pc_of (pur_S _) (fun m n => ?_)
 have hL2 : (l.map tmD).length = l.length := by simp
 have hG2 : ∀ i (h : i < l.length), (l.map tmD)[i]? = some (tmD l[i]) := fun i h => by simp [h]
 generalize l.map tmD = SL at hL2 hG2
 have hTl := textTms_len l
 have hjl := join_sum (textTms l)
 have hTi : ∀ i (h : i < l.length) (h' : i < (textTms l).length), (textTms l)[i] = textTm l[i] := fun i h h' => textTms_get l h h'
 generalize textTms l = T at hTl hjl hTi hb
 have hfin : ∀ {d : D} {m2 : Mem} {n2 : Nat}, Lst m2 1 (T.map fun s => [S s]) d → ACalls Tryz.prog 182 [d, S comma] m2 n2 (fun d' m' n' => d' = S (joinB comma T) ∧ m' = m2 ∧ n' = n2) := fun h => cJoin h comma (by omega) (by omega) _
 simp only [comma, S] at hfin
 refine acalls_vc [0, 2, 3, 5, 6, 7, 8, 9] Tryz.func155 Tryz.ntmps155 (by kernel_rfl) rfl rfl (by simp) ?_
 simp -dsimp [hL2]
 refine vloop_of (β := Nat) (LsG [(6, .sl 8 SL), (7, I l.length)] l.length T 3 8 m n) (fun i => l.length - i) 0 ⟨by simp [I], by simp [I], by omega, by omega, by simp, ?_, ?_⟩ ?_
 ·first | exact Lst.nil | simp
 ·simp
 rintro i σ m2 n2 ⟨sl, h8, le, nn, fr, ls, kf⟩
 simp only [List.forall_mem_cons] at sl
 obtain ⟨h6, h7, -⟩ := sl
 by_cases hi : (i : Int) < l.length
 ·have hi' : i < l.length := by omega
  have wi : IntKind.i64.wrap ((i : Int) + 1) = (i : Int) + 1 := wrap_i64 (by omega) (by omega)
  have hiN : i < SL.length := by omega
  have hgi : SL[i] = tmD l[i] := get_opt (hG2 i hi') hiN
  have hH := H l[i] (List.getElem_mem hi')
  have h77 := tmD_len l[i]
  have hTe := hTi i hi' (by omega)
  have hTi' : i < T.length := by omega
  generalize tmD l[i] = TT at hgi hH h77
  have ht7 : List.take 8 TT = TT := List.take_of_length_le (by omega)
  generalize hd5 : σ 3 = d5 at ls kf
  simp -dsimp [h6, h7, h8, hd5, I, hi, hi', hiN, hgi, h77, ht7]
  refine pcall hH ?_
  simp -dsimp [h6, h7, h8, hd5, I, S]
  refine b4_append (ls.frame fun k hk => by have := kf k hk; rw [set_ne _ _ _ _ (by omega), set_ne _ _ _ _ (by omega)]) (fun k hk => by have := kf k hk; omega) trivial trivial (by omega) (by simp; omega) ?_
  intro d m6 n6 p1 p2 p3 p4
  simp -dsimp [h6, h7, h8, wi]
  refine ⟨i + 1, by omega, by simp [I], by simp [I], by omega, by omega, fun j hj => ?_, ?_, ?_⟩
  ·rw [p4 j (by omega) (fun e => by have := kf j e; omega), set_ne _ _ _ _ (by omega), set_ne _ _ _ _ (by omega)]; exact fr j hj
  ·rw [take_snoc hTi', List.map_append, hTe]; simpa [S] using p1
  ·intro k hk
   have := p3 k (by simpa using hk)
   rcases this.2 with e | e
   ·have := kf k e; omega
   ·omega
 ·have ht : T.take i = T := List.take_of_length_le (by omega)
  rw [ht] at ls
  generalize hd5 : σ 3 = d5 at ls kf
  simp -dsimp [h6, h7, h8, I, hi, hd5]
  refine aCall_of (hfin (by simpa [S] using ls)) ?_
  rintro d m3 n3 ⟨rfl, rfl, rfl⟩
  simp -dsimp [S]
  exact pcq rfl fr
set_option maxHeartbeats 2000000 in
theorem cHeadTm {t : Tm} (h : Pc Tryz.prog 98 [.agg (tmD t)] (S (textTm t))) (hl : (textTm t).length ≤ 1000000000) : Pc Tryz.prog 153 [.agg (tmD t)] (S (parK (kindTmK t) (textTm t))) := by
 refine pc_of (pur_S _) (fun m n => ?_)
 have fr : ∀ o j, j < n → (m.set n o) j = m j := fun o j hj => by rw [set_ne _ _ _ _ (by omega)]
 obtain ⟨k, N, mod, nm, names, vars, types, subs⟩ := t
 generalize textTm (.mk k N mod nm names vars types subs) = X at h hl
 simp only [kindTmK, tmD, sl1, tmsD_eq] at h ⊢
 generalize (names.map fun s => [S s]) = NL at h
 generalize (vars.map fun s => [S s]) = VL at h
 generalize types.map tyD = YL at h
 generalize subs.map tmD = SL at h
 simp only [I, S] at h
 refine acalls_vc [0, 1, 2, 15] Tryz.func153 Tryz.ntmps153 (by kernel_rfl) rfl rfl (by simp) ?_
 by_cases k8 : k = 8
 ·subst k8
  simp -dsimp [I, S, Tt]
  refine pcall h ?_
  simp -dsimp [S]
  exact ⟨by omega, by omega, pcq (by simp [parK, S]) (fr _)⟩
 have b8 : (k == 8) = false := by simpa using k8
 by_cases k11 : k = 11
 ·subst k11
  simp -dsimp [I, S, Tt]
  refine pcall h ?_
  simp -dsimp [S]
  exact ⟨by omega, by omega, pcq (by simp [parK, S]) (fr _)⟩
 have b11 : (k == 11) = false := by simpa using k11
 by_cases k12 : k = 12
 ·subst k12
  simp -dsimp [I, S, Tt]
  refine pcall h ?_
  simp -dsimp [S]
  exact ⟨by omega, by omega, pcq (by simp [parK, S]) (fr _)⟩
 have b12 : (k == 12) = false := by simpa using k12
 simp -dsimp [I, S, Tt, b8, b11, b12]
 refine pcall h ?_
 simp -dsimp [S]
 exact pcq (by simp [parK, S, k8, k11, k12]) (fr _)
set_option maxHeartbeats 4000000 in
theorem cMadeTm {k N : Int} {mod nm : List UInt8} {names vars : List (List UInt8)} {types : List Ty} {subs : List Tm} (H : ∀ t ∈ subs, Pc Tryz.prog 98 [.agg (tmD t)] (S (textTm t))) (he : subs.length = names.length) (hlen : subs.length ≤ 1000)
  (hn : ∀ s ∈ names, s.length ≤ 20) (hb : smL 100 (textTms subs) ≤ 1000000000) :
  Pc Tryz.prog 152 [.agg (tmD (.mk k N mod nm names vars types subs))] (S ([123] ++ joinB comma (makL names (textTms subs)) ++ [125])) := by
 refine pc_of (pur_S _) (fun m n => ?_)
 have hL1 : (names.map fun s => [S s]).length = names.length := by simp
 have hG1 : ∀ i (h : i < names.length), (names.map fun s => [S s])[i]? = some [S names[i]] := fun i h => by simp [h]
 have hL2 : (subs.map tmD).length = subs.length := by simp
 have hG2 : ∀ i (h : i < subs.length), (subs.map tmD)[i]? = some (tmD subs[i]) := fun i h => by simp [h]
 simp only [tmD, sl1, tmsD_eq]
 generalize (names.map fun s => [S s]) = NL at hL1 hG1
 generalize (vars.map fun s => [S s]) = VL
 generalize types.map tyD = YL
 generalize subs.map tmD = SL at hL2 hG2
 have hTl := textTms_len subs
 have hTi : ∀ i (h : i < subs.length) (h' : i < (textTms subs).length), (textTms subs)[i] = textTm subs[i] := fun i h h' => textTms_get subs h h'
 have hsum := makL_sum hn (T := textTms subs) (by omega)
 have hjl := joinB_len comma (makL names (textTms subs))
 have hml : (makL names (textTms subs)).length = names.length := by simp [makL]
 have hmi : ∀ i (h : i < names.length) (h' : i < (makL names (textTms subs)).length), (makL names (textTms subs))[i] = names[i] ++ [32, 61, 32] ++ (textTms subs).getD i [] := fun i h h' => by
  simp [makL, h]
 have hsm : ∀ s ∈ textTms subs, s.length ≤ smL 100 (textTms subs) := fun s hs => smL_mem hs
 generalize makL names (textTms subs) = M at hsum hjl hml hmi
 generalize textTms subs = T at hTl hTi hmi hsm hsum hb
 have hfin : ∀ {d : D} {m2 : Mem} {n2 : Nat}, Lst m2 1 (M.map fun s => [S s]) d → ACalls Tryz.prog 182 [d, S comma] m2 n2 (fun d' m' n' => d' = S (joinB comma M) ∧ m' = m2 ∧ n' = n2) := fun h => cJoin h comma (by omega) (by omega) _
 have hJ : (joinB comma M).length ≤ 1000000000 := by omega
 simp only [comma, S] at hfin hJ
 have nn1 : n ≠ n + 1 := by omega
 refine acalls_vc [0, 1, 2, 3, 4, 5, 7, 8, 9, 10] Tryz.func152 Tryz.ntmps152 (by kernel_rfl) rfl rfl (by simp) ?_
 simp -dsimp [hL2]
 refine vloop_of (β := Nat) (LsG [(1, .ptr n 0 0 0), (7, .sl 8 SL), (8, I subs.length)] subs.length M 3 9 (m.set n (tmO k N mod nm NL VL YL SL)) (n + 1)) (fun i => subs.length - i) 0 ⟨by simp [I], by simp [I], by omega, by omega, fun _ _ => rfl, ?_, ?_⟩ ?_
 ·first | exact Lst.nil | simp
 ·simp
 rintro i σ m2 n2 ⟨sl, h9, le, nn, fr, ls, kf⟩
 simp only [List.forall_mem_cons] at sl
 obtain ⟨h1, h7, h8, -⟩ := sl
 have hmn : m2 n = some (tmO k N mod nm NL VL YL SL) := by rw [fr n (by omega), set_same]
 by_cases hi : (i : Int) < subs.length
 ·have hi' : i < subs.length := by omega
  have wi : IntKind.i64.wrap ((i : Int) + 1) = (i : Int) + 1 := wrap_i64 (by omega) (by omega)
  have hiN : i < SL.length := by omega
  have hgi : SL[i] = tmD subs[i] := get_opt (hG2 i hi') hiN
  have hi1 : i < names.length := by omega
  have hi1' : (i : Int) < names.length := by omega
  have hiM : i < NL.length := by omega
  have hgm : NL[i] = [S names[i]] := get_opt (hG1 i hi1) hiM
  have hH := H subs[i] (List.getElem_mem hi')
  have h77 := tmD_len subs[i]
  have hTe := hTi i hi' (by omega)
  have hTm := hsm _ (List.getElem_mem (show i < T.length by omega))
  have hMi' : i < M.length := by omega
  have hMe := hmi i hi1 hMi'
  rw [getD_T T (show i < T.length by omega), hTe] at hMe
  rw [hTe] at hTm
  have hnl := hn _ (List.getElem_mem hi1)
  generalize textTm subs[i] = X at hH hMe hTm
  generalize names[i] = Y at hgm hMe hnl
  generalize tmD subs[i] = TT at hgi hH h77
  have ht7 : List.take 8 TT = TT := List.take_of_length_le (by omega)
  generalize hd5 : σ 3 = d5 at ls kf
  have a1 : n ≠ n2 := by omega
  simp -dsimp [h1, h7, h8, h9, hd5, I, S, hi, hi', hiN, hgi, h77, ht7, hmn]
  refine vdraw_tree [0, 0, 2, 0, 14, 30, 62, 0, 128, 510, 1022, 2047, 4095] (.rd 0 (.rd 1 (.rd 2 (.rd 3 (.rd 4 (.rd 5 (.rd 6 (.rd 7 (.wr (.cons 8 (.rd 9 (.wr (.cons 10 (.wr (.cons 11 (.rd 12 (.fin)) (.nil))) (.nil)))) (.nil))))))))))) (by kernel_rfl) (by kernel_rfl) ?_
  simp -dsimp [h1, h7, h8, h9, hd5, I, S, hi, hi', hiN, hgi, h77, ht7, hmn, set_ne, a1, hi1, hi1', hiM, hgm, tmO, hL1]
  refine ⟨by omega, pcall hH ?_⟩
  simp -dsimp [h1, h7, h8, h9, hd5, I, S, set_ne, a1, hi1, hi1', hiM, hgm, tmO, hL1]
  refine ⟨by omega, ?_⟩
  refine b4_append (ls.frame fun k hk => by have := kf k hk; rw [set_ne _ _ _ _ (by omega), set_ne _ _ _ _ (by omega)]) (fun k hk => by have := kf k hk; omega) trivial trivial (by omega) (by simp; omega) ?_
  intro d m6 n6 p1 p2 p3 p4
  refine ⟨fun p hp _ => ?_, ?_⟩
  ·simp only [List.mem_cons, List.not_mem_nil, or_false] at hp
   rcases hp with rfl | rfl
   ·exact p4 n2 (by omega) (fun e => by have := kf _ e; omega)
   ·exact p4 n (by omega) (fun e => by have := kf _ e; omega)
  simp -dsimp [h1, h7, h8, h9, I, wi]
  refine ⟨i + 1, by omega, by simp [I], by simp [I], by omega, by omega, fun j hj => ?_, ?_, ?_⟩
  ·rw [p4 j (by omega) (fun e => by have := kf j e; omega), set_ne _ _ _ _ (by omega), set_ne _ _ _ _ (by omega)]; exact fr j hj
  ·rw [take_snoc hMi', List.map_append, hMe]; simpa [S] using p1
  ·intro k hk
   have := p3 k (by simpa using hk)
   rcases this.2 with e | e
   ·have := kf k e; omega
   ·omega
 ·have ht : M.take i = M := List.take_of_length_le (by omega)
  rw [ht] at ls
  generalize hd5 : σ 3 = d5 at ls kf
  simp -dsimp [h1, h7, h8, h9, I, hi, hd5]
  refine aCall_of (hfin (by simpa [S] using ls)) ?_
  rintro d m3 n3 ⟨rfl, rfl, rfl⟩
  simp -dsimp [S]
  exact ⟨by omega, by omega, pcq (by simp [S, comma]) fun j hj => by rw [fr j (by omega), set_ne _ _ _ _ (by omega)]⟩
set_option maxHeartbeats 4000000 in
theorem cFunTm {k N : Int} {mod nm : List UInt8} {names vars : List (List UInt8)} {types : List Ty} {b : Tm} (H : Pc Tryz.prog 98 [.agg (tmD b)] (S (textTm b))) (hbl : (textTm b).length ≤ 1000000000) (hw : ∀ y ∈ types, TyW y) (hy : ∀ y ∈ types, mayT y = true)
  (he : types.length = names.length) (hlen : names.length ≤ 21) (hn : ∀ s ∈ names, s.length ≤ 20) :
  Pc Tryz.prog 154 [.agg (tmD (.mk k N mod nm names vars types [b]))] (S ([102, 110, 40] ++ joinB comma (fnL names (types.map textT)) ++ [41, 32] ++ textTm b)) := by
 refine pc_of (pur_S _) (fun m n => ?_)
 have hL1 : (names.map fun s => [S s]).length = names.length := by simp
 have hG1 : ∀ i (h : i < names.length), (names.map fun s => [S s])[i]? = some [S names[i]] := fun i h => by simp [h]
 have hL2 : (types.map tyD).length = types.length := by simp
 have hG2 : ∀ i (h : i < types.length), (types.map tyD)[i]? = some (tyD types[i]) := fun i h => by simp [h]
 have h8b := tmD_len b
 simp only [tmD, sl1, tmsD]
 generalize (names.map fun s => [S s]) = NL at hL1 hG1
 generalize (vars.map fun s => [S s]) = VL
 generalize types.map tyD = YL at hL2 hG2
 generalize textTm b = BT at H hbl
 generalize tmD b = BD at H h8b
 have htb : List.take 8 BD = BD := List.take_of_length_le (by omega)
 have hsum := fnL_sum (Y := types.map textT) hlen hn (fun s h => by obtain ⟨y, hy', rfl⟩ := List.mem_map.1 h; exact may_text (hy y hy'))
 have hjl := joinB_len comma (fnL names (types.map textT))
 have hml : (fnL names (types.map textT)).length = names.length := by simp [fnL]
 have hmi : ∀ i (h : i < names.length) (hy : i < types.length) (h' : i < (fnL names (types.map textT)).length), (fnL names (types.map textT))[i] = names[i] ++ [58, 32] ++ textT types[i] := fun i h hy h' => by
  simp [fnL, h, hy]
 generalize fnL names (types.map textT) = M at hsum hjl hml hmi
 have hfin : ∀ {d : D} {m2 : Mem} {n2 : Nat}, Lst m2 1 (M.map fun s => [S s]) d → ACalls Tryz.prog 182 [d, S comma] m2 n2 (fun d' m' n' => d' = S (joinB comma M) ∧ m' = m2 ∧ n' = n2) := fun h => cJoin h comma (by omega) (by omega) _
 have hJ : (joinB comma M).length ≤ 1000000000 := by omega
 simp only [comma, S] at hfin hJ
 refine acalls_vc [0, 1, 2, 3, 4, 5, 6, 9, 10, 11, 12] Tryz.func154 Tryz.ntmps154 (by kernel_rfl) rfl rfl (by simp) ?_
 simp -dsimp [hL2]
 refine vloop_of (β := Nat) (LsG [(1, .ptr n 0 0 0), (9, .sl 7 YL), (10, I types.length)] types.length M 3 11 (m.set n (tmO k N mod nm NL VL YL [BD])) (n + 1)) (fun i => types.length - i) 0 ⟨by simp [I], by simp [I], by omega, by omega, fun _ _ => rfl, ?_, ?_⟩ ?_
 ·first | exact Lst.nil | simp
 ·simp
 rintro i σ m2 n2 ⟨sl, h11, le, nn, fr, ls, kf⟩
 simp only [List.forall_mem_cons] at sl
 obtain ⟨h1, h9, h10, -⟩ := sl
 have hmn : m2 n = some (tmO k N mod nm NL VL YL [BD]) := by rw [fr n (by omega), set_same]
 by_cases hi : (i : Int) < types.length
 ·have hi' : i < types.length := by omega
  have wi : IntKind.i64.wrap ((i : Int) + 1) = (i : Int) + 1 := wrap_i64 (by omega) (by omega)
  have hiN : i < YL.length := by omega
  have hgi : YL[i] = tyD types[i] := get_opt (hG2 i hi') hiN
  have hi1 : i < names.length := by omega
  have hi1' : (i : Int) < names.length := by omega
  have hiM : i < NL.length := by omega
  have hgm : NL[i] = [S names[i]] := get_opt (hG1 i hi1) hiM
  have hyi := hy _ (List.getElem_mem hi')
  have hH : Pc Tryz.prog 28 [.agg (tyD types[i])] (.tup [S (textT types[i]), nilE]) := fun m n => by
   have := cPrintT (hw _ (List.getElem_mem hi')) m n
   rw [hyi] at this
   exact this
  have hXl := may_text hyi
  have h77 := tyD_len types[i]
  have hMi' : i < M.length := by omega
  have hMe := hmi i hi1 hi' hMi'
  have hnl := hn _ (List.getElem_mem hi1)
  generalize textT types[i] = X at hH hMe hXl
  generalize names[i] = Y at hgm hMe hnl
  generalize tyD types[i] = TT at hgi hH h77
  have ht7 : List.take 7 TT = TT := List.take_of_length_le (by omega)
  generalize hd5 : σ 3 = d5 at ls kf
  have a1 : n ≠ n2 := by omega
  simp -dsimp [h1, h9, h10, h11, hd5, I, S, hi, hi', hiN, hgi, h77, ht7, hmn]
  refine pcall hH ?_
  simp -dsimp [h1, h9, h10, h11, hd5, I, S, hi, hi', hiN, hgi, h77, ht7, hmn, set_ne, a1, hi1, hi1', hiM, hgm, tmO, hL1]
  refine ⟨by omega, by omega, ?_⟩
  refine b4_append (ls.frame fun k hk => by have := kf k hk; rw [set_ne _ _ _ _ (by omega), set_ne _ _ _ _ (by omega)]) (fun k hk => by have := kf k hk; omega) trivial trivial (by omega) (by simp; omega) ?_
  intro d m6 n6 p1 p2 p3 p4
  simp -dsimp [h1, h9, h10, h11, I, wi]
  refine ⟨i + 1, by omega, by simp [I], by simp [I], by omega, by omega, fun j hj => ?_, ?_, ?_⟩
  ·rw [p4 j (by omega) (fun e => by have := kf j e; omega), set_ne _ _ _ _ (by omega), set_ne _ _ _ _ (by omega)]; exact fr j hj
  ·rw [take_snoc hMi', List.map_append, hMe]; simpa [S] using p1
  ·intro k hk
   have := p3 k (by simpa using hk)
   rcases this.2 with e | e
   ·have := kf k e; omega
   ·omega
 ·have ht : M.take i = M := List.take_of_length_le (by omega)
  rw [ht] at ls
  generalize hd5 : σ 3 = d5 at ls kf
  have hJn := hfin (d := d5) (m2 := m2) (n2 := n2) (by simpa [S] using ls)
  simp -dsimp [h1, h9, h10, h11, I, hi, hd5]
  refine vdraw_tree [0, 1, 3, 7, 0, 16, 48, 112, 243, 511, 1023] (.rd 0 (.rd 4 (.rd 5 (.rd 6 (.rd 7 (.wr (.cons 1 (.rd 2 (.rd 3 (.wr (.cons 8 (.rd 9 (.rd 10 (.fin))) (.nil))))) (.nil)))))))) (by kernel_rfl) (by kernel_rfl) ?_
  simp -dsimp [h1, h9, h10, h11, I, S, hi, hd5, hmn, tmO, h8b, htb]
  refine aCall_of hJn ?_
  rintro d m3 n3 ⟨rfl, rfl, rfl⟩
  refine ⟨fun _ _ _ => rfl, ?_⟩
  simp -dsimp [h1, h9, h10, h11, I, S, hi, hmn, tmO, h8b, htb]
  refine ⟨by omega, by omega, ?_⟩
  refine pcall H ?_
  simp -dsimp [h1, h9, h10, h11, I, S, hi, hmn, tmO, h8b, htb]
  exact ⟨by omega, pcq (by simp [S, comma]) fun j hj => by rw [fr j (by omega), set_ne _ _ _ _ (by omega)]⟩
set_option maxHeartbeats 4000000 in
theorem cChosenTm {k N : Int} {mod nm : List UInt8} {names vars : List (List UInt8)} {types : List Ty} {subs : List Tm} (H : ∀ t ∈ subs, Pc Tryz.prog 98 [.agg (tmD t)] (S (textTm t))) (he : subs.length = names.length + 1) (hv : vars.length = names.length) (hlen : names.length ≤ 21)
  (hn : ∀ s ∈ names, s.length ≤ 20) (hvl : ∀ s ∈ vars, s.length ≤ 20) (hb : smL 100 (textTms subs) ≤ 1000000000) :
  Pc Tryz.prog 156 [.agg (tmD (.mk k N mod nm names vars types subs))] (S ([99, 97, 115, 101, 32] ++ (textTms subs).getD 0 [] ++ [32, 111, 102, 32] ++ brL names vars (textTms subs) names.length ++ [101, 110, 100])) := by
 refine pc_of (pur_S _) (fun m n => ?_)
 have fr : ∀ o j, j < n → (m.set n o) j = m j := fun o j hj => by rw [set_ne _ _ _ _ (by omega)]
 have hL1 : (names.map fun s => [S s]).length = names.length := by simp
 have hG1 : ∀ i (h : i < names.length), (names.map fun s => [S s])[i]? = some [S names[i]] := fun i h => by simp [h]
 have hL3 : (vars.map fun s => [S s]).length = vars.length := by simp
 have hG3 : ∀ i (h : i < vars.length), (vars.map fun s => [S s])[i]? = some [S vars[i]] := fun i h => by simp [h]
 have hL2 : (subs.map tmD).length = subs.length := by simp
 have hG2 : ∀ i (h : i < subs.length), (subs.map tmD)[i]? = some (tmD subs[i]) := fun i h => by simp [h]
 simp only [tmD, sl1, tmsD_eq]
 generalize (names.map fun s => [S s]) = NL at hL1 hG1
 generalize (vars.map fun s => [S s]) = VL at hL3 hG3
 generalize types.map tyD = YL
 generalize subs.map tmD = SL at hL2 hG2
 have hTl := textTms_len subs
 have hTi : ∀ i (h : i < subs.length) (h' : i < (textTms subs).length), (textTms subs)[i] = textTm subs[i] := fun i h h' => textTms_get subs h h'
 have hsm : ∀ s ∈ textTms subs, s.length ≤ 1000000000 := fun s hs => Nat.le_trans (smL_mem hs) hb
 have hbr : ∀ i, i + 1 ≤ (textTms subs).length → (brL names vars (textTms subs) i).length ≤ 1000000000 := fun i h => Nat.le_trans (brL_len hn hvl i h) (Nat.le_trans (smL_take 100 _ i) (Nat.le_trans (smL_drop 100 _ 1) hb))
 generalize textTms subs = T at hTl hTi hsm hbr
 have h0 : 0 < subs.length := by omega
 have h0N : 0 < SL.length := by omega
 have hg0 : SL[0] = tmD subs[0] := get_opt (hG2 0 h0) h0N
 have hH0 := H subs[0] (List.getElem_mem h0)
 have h80 := tmD_len subs[0]
 have hT0 : T.getD 0 [] = textTm subs[0] := by rw [getD_T T (by omega)]; exact hTi 0 h0 (by omega)
 have hX0 : (textTm subs[0]).length ≤ 1000000000 := by rw [← hTi 0 h0 (by omega)]; exact hsm _ (List.getElem_mem _)
 rw [hT0]
 generalize textTm subs[0] = X0 at hH0 hX0
 generalize tmD subs[0] = D0 at hg0 hH0 h80
 have ht0 : List.take 8 D0 = D0 := List.take_of_length_le (by omega)
 have hs0 : (0 : Int) < subs.length := by omega
 refine acalls_vc [0, 1, 2, 3, 4, 5, 14, 15, 16, 17] Tryz.func156 Tryz.ntmps156 (by kernel_rfl) rfl rfl (by simp) ?_
 simp -dsimp [I, S, hL2, hs0, h0, h0N, hg0, h80, ht0]
 refine pcall hH0 ?_
 simp -dsimp [I, S]
 refine ⟨by omega, by omega, ?_⟩
 refine vloop_as (β := Nat) (fun i => [(1, .ptr n 0 0 0), (3, S ([99, 97, 115, 101, 32] ++ X0 ++ [32, 111, 102, 32] ++ brL names vars T i)), (14, .sl 1 NL), (15, I names.length), (16, I i)]) (fun i m2 n2 => m2 = m.set n (tmO k N mod nm NL VL YL SL) ∧ n2 = n + 1 ∧ i ≤ names.length) (fun i => names.length - i) 0 (by simp [I, S, brL, hL1]) ⟨rfl, rfl, by omega⟩ ?_
 rintro i m2 n2 ⟨rfl, rfl, le⟩
 by_cases hi : (i : Int) < names.length
 ·have hi' : i < names.length := by omega
  have wi : IntKind.i64.wrap ((i : Int) + 1) = ((i + 1 : Nat) : Int) := by rw [wrap_i64 (by omega) (by omega)]; omega
  have hiN : i < NL.length := by omega
  have hgi : NL[i] = [S names[i]] := get_opt (hG1 i hi') hiN
  have hiv : i < vars.length := by omega
  have hiV : i < VL.length := by omega
  have hgv : VL[i] = [S vars[i]] := get_opt (hG3 i hiv) hiV
  have his : i + 1 < subs.length := by omega
  have hisI : ((i + 1 : Nat) : Int) < subs.length := by omega
  have hvI : ((i : Nat) : Int) < vars.length := by omega
  have hiS : i + 1 < SL.length := by omega
  have hgs : SL[i + 1] = tmD subs[i + 1] := get_opt (hG2 (i + 1) his) hiS
  have hH := H subs[i + 1] (List.getElem_mem his)
  have h77 := tmD_len subs[i + 1]
  have hTe := hTi (i + 1) his (by omega)
  have hTm := hsm _ (List.getElem_mem (show i + 1 < T.length by omega))
  have hbo : brOne names vars T i = names[i] ++ [40] ++ vars[i] ++ [41, 32, 45, 62, 32] ++ textTm subs[i + 1] ++ [32] := by
   rw [brOne, getD_T names hi', getD_T vars hiv, getD_T T (show i + 1 < T.length by omega), hTe]
  have hbi := hbr i (by omega)
  rw [hTe] at hTm
  have hnl := hn _ (List.getElem_mem hi')
  have hvl' := hvl _ (List.getElem_mem hiv)
  have hsn : brL names vars T (i + 1) = brL names vars T i ++ brOne names vars T i := rfl
  rw [hbo] at hsn
  generalize brL names vars T i = BB at hsn hbi
  generalize textTm subs[i + 1] = X at hH hsn hTm
  generalize names[i] = Y at hgi hsn hnl
  generalize vars[i] = Z at hgv hsn hvl'
  generalize tmD subs[i + 1] = TT at hgs hH h77
  have ht7 : List.take 8 TT = TT := List.take_of_length_le (by omega)
  simp -dsimp [I, S, hi, hi', hiN, hgi, hL1]
  refine vdraw_treeM (.rd 0 (.rd 1 (.rd 2 (.rd 3 (.rd 4 (.rd 5 (.rd 6 (.rd 7 (.rd 8 (.rd 9 (.rd 10 (.rd 11 (.rd 12 (.rd 13 (.rd 14 (.rd 15 (.wr (.cons 16 (.rd 17 (.rd 18 (.rd 19 (.rd 20 (.fin))))) (.nil))))))))))))))))))) (by kernel_rfl) (by kernel_rfl) ?_; intro mk
  simp -dsimp [I, S, hi, hi', hiN, hgi, hiv, hiV, hgv, his, hisI, hvI, hiS, hgs, h77, ht7, wi, hL1, hL2, hL3, tmO]
  refine ⟨by omega, by omega, by omega, by omega, ?_⟩
  refine pcall hH ?_
  refine ⟨fun _ _ _ => rfl, ?_⟩
  simp -dsimp [I, S, wi]
  refine ⟨by omega, by omega, by omega, ?_⟩
  exact rnd (i + 1) (by omega) (by simp [I, S, hsn]) ⟨rfl, rfl, by omega⟩
 ·have e : i = names.length := by omega
  subst e
  have hbi := hbr names.length (by omega)
  generalize brL names vars T names.length = BB at hbi
  simp -dsimp [I, S, hi]
  exact ⟨by omega, pcq (by simp [S]) (fr _)⟩
end Go.Proofs.Mv.App
open Go Go.Proofs Go.Proofs.Mv.V
set_option maxRecDepth 10000
namespace Go.Proofs.Mv.App
theorem manyTms_le_mem {t : Tm} : ∀ {l : List Tm}, t ∈ l → manyTm t ≤ manyTms l
 | [], h => by cases h
 | x :: l, h => by
  simp only [manyTms]
  rcases List.mem_cons.1 h with rfl | h
  ·omega
  ·have := manyTms_le_mem h; omega
set_option maxHeartbeats 8000000 in
theorem cTextTm {t : Tm} (ht : TmW t) : allTm t = true → manyTm t ≤ 500 → Pc Tryz.prog 98 [.agg (tmD t)] (S (textTm t)) := by
 induction ht with
 | mk k N mod nm names vars types subs l1 l2 l3 l4 l5 l6 l7 l8 l9 l10 ih =>
  intro ha hm
  simp only [allTm, Bool.and_eq_true] at ha
  simp only [manyTm] at hm
  obtain ⟨ko, sm⟩ := shapeTm_parts ha.1
  have hH : ∀ t ∈ subs, Pc Tryz.prog 98 [.agg (tmD t)] (S (textTm t)) := fun t h => ih t h (allTms_mem ha.2 t h) (by have := manyTms_le_mem h; omega)
  have hX : ∀ t ∈ subs, (textTm t).length ≤ 1000000000 := fun t h => textTm_small (allTms_mem ha.2 t h) (by have := manyTms_le_mem h; omega)
  have hb : smL 100 (textTms subs) ≤ 1000000000 := textTms_small ha.2 (by omega)
  have cn := ko.cn
  have q1 := sm.sm
  have q2 := sm.sn
  unfold cntK at cn
  refine pc_of (pur_S _) (fun m n => ?_)
  have fr : ∀ o j, j < n → (m.set n o) j = m j := fun o j hj => by rw [set_ne _ _ _ _ (by omega)]
  by_cases k1 : k = 1
  ·subst k1
   have e : textTm (.mk 1 N mod nm names vars types subs) = digits N.toNat := by simp [textTm, textK]
   have hc : Pc Tryz.prog 48 [I N] (S (digits N.toNat)) := fun m n => cItoa (ko.n1 rfl).1 (by have := (ko.n1 rfl).2; omega) m n
   rw [e]
   generalize digits N.toNat = X at hc
   simp only [tmD, sl1, tmsD_eq]
   simp only [I] at hc
   refine acalls_vc [0, 1, 2, 4, 5, 10, 17, 21, 29, 33, 44, 56, 60, 74, 81] Tryz.func98 Tryz.ntmps98 (by kernel_rfl) rfl rfl (by simp) ?_
   simp -dsimp [I, S]
   refine pcall hc ?_
   simp -dsimp [S]
   exact pcq rfl (fr _)
  by_cases k2 : k = 2
  ·subst k2
   simp only [tmD, sl1, tmsD_eq]
   rcases ko.n2 rfl with rfl | rfl
   ·have e : textTm (.mk 2 0 mod nm names vars types subs) = wFalse := by simp [textTm, textK]
    rw [e]
    refine acalls_vc [0, 1, 2, 4, 5, 10, 17, 21, 29, 33, 44, 56, 60, 74, 81] Tryz.func98 Tryz.ntmps98 (by kernel_rfl) rfl rfl (by simp) ?_
    simp -dsimp [I, S]
    exact pcq (by simp [S, wFalse]) (fun j hj => by rw [set_ne _ _ _ _ (by omega), set_ne _ _ _ _ (by omega)])
   ·have e : textTm (.mk 2 1 mod nm names vars types subs) = wTrue := by simp [textTm, textK]
    rw [e]
    refine acalls_vc [0, 1, 2, 4, 5, 10, 17, 21, 29, 33, 44, 56, 60, 74, 81] Tryz.func98 Tryz.ntmps98 (by kernel_rfl) rfl rfl (by simp) ?_
    simp -dsimp [I, S]
    exact pcq (by simp [S, wTrue]) (fun j hj => by rw [set_ne _ _ _ _ (by omega), set_ne _ _ _ _ (by omega)])
  by_cases k3 : k = 3
  ·subst k3
   have e : textTm (.mk 3 N mod nm names vars types subs) = nm := by simp [textTm, textK]
   rw [e]
   simp only [tmD, sl1, tmsD_eq]
   refine acalls_vc [0, 1, 2, 4, 5, 10, 17, 21, 29, 33, 44, 56, 60, 74, 81] Tryz.func98 Tryz.ntmps98 (by kernel_rfl) rfl rfl (by simp) ?_
   simp -dsimp [I, S]
   exact pcq rfl (fr _)
  by_cases k4 : k = 4
  ·subst k4
   have e : textTm (.mk 4 N mod nm names vars types subs) = mod ++ [58] ++ nm := by simp [textTm, textK]
   rw [e]
   simp only [tmD, sl1, tmsD_eq]
   refine acalls_vc [0, 1, 2, 4, 5, 10, 17, 21, 29, 33, 44, 56, 60, 74, 81] Tryz.func98 Tryz.ntmps98 (by kernel_rfl) rfl rfl (by simp) ?_
   simp -dsimp [I, S]
   exact ⟨by omega, by omega, pcq (by simp [S]) (fr _)⟩
  by_cases k5 : k = 5
  ·subst k5
   have e : textTm (.mk 5 N mod nm names vars types subs) = [123] ++ joinB comma (makL names (textTms subs)) ++ [125] := by simp [textTm, textK]
   have hc := cMadeTm (k := 5) (N := N) (mod := mod) (nm := nm) (vars := vars) (types := types) hH (by omega) (by have := sm.ls; omega) sm.nn hb
   rw [e]
   generalize [123] ++ joinB comma (makL names (textTms subs)) ++ [125] = X at hc
   simp only [tmD, sl1, tmsD_eq] at hc ⊢
   generalize (names.map fun s => [S s]) = NL at hc
   generalize (vars.map fun s => [S s]) = VL at hc
   generalize types.map tyD = YL at hc
   generalize subs.map tmD = SL at hc
   simp only [I, S] at hc
   refine acalls_vc [0, 1, 2, 4, 5, 10, 17, 21, 29, 33, 44, 56, 60, 74, 81] Tryz.func98 Tryz.ntmps98 (by kernel_rfl) rfl rfl (by simp) ?_
   simp -dsimp [I, S]
   refine pcall hc ?_
   simp -dsimp [S]
   exact pcq rfl (fr _)
  by_cases k6 : k = 6
  ·subst k6
   obtain ⟨u, rfl⟩ := List.length_eq_one_iff.1 (show subs.length = 1 by omega)
   have e : textTm (.mk 6 N mod nm names vars types [u]) = parK (kindTmK u) (textTm u) ++ [46] ++ nm := by simp [textTm, textTms, textK, kindH]
   have hc := cHeadTm (hH u (by simp)) (hX u (by simp))
   have hl := parK_len (kindTmK u) (textTm u)
   have hx := hX u (by simp)
   have h8 := tmD_len u
   rw [e]
   generalize parK (kindTmK u) (textTm u) = X at hc hl
   simp only [tmD, sl1, tmsD]
   generalize tmD u = UD at hc h8
   have ht8 : List.take 8 UD = UD := List.take_of_length_le (by omega)
   refine acalls_vc [0, 1, 2, 4, 5, 10, 17, 21, 29, 33, 44, 56, 60, 74, 81] Tryz.func98 Tryz.ntmps98 (by kernel_rfl) rfl rfl (by simp) ?_
   simp -dsimp [I, S]
   refine vdraw_tree [0, 1, 3, 7, 15, 31, 0, 64, 255, 511] (.rd 0 (.rd 1 (.rd 2 (.rd 3 (.rd 6 (.rd 7 (.wr (.cons 4 (.rd 5 (.rd 8 (.rd 9 (.fin)))) (.nil))))))))) (by kernel_rfl) (by kernel_rfl) ?_
   simp -dsimp [I, S, h8, ht8]
   refine pcall hc ?_
   refine ⟨fun _ _ _ => rfl, ?_⟩
   simp -dsimp [I, S, h8, ht8]
   exact ⟨by omega, by omega, pcq (by simp [S]) (fr _)⟩
  by_cases k7 : k = 7
  ·subst k7
   obtain ⟨u, rfl⟩ := List.length_eq_one_iff.1 (show subs.length = 1 by omega)
   have e : textTm (.mk 7 N mod nm names vars types [u]) = nm ++ [40] ++ textTm u ++ [41] := by simp [textTm, textTms, textK, kindH]
   have hc := hH u (by simp)
   have hx := hX u (by simp)
   have h8 := tmD_len u
   rw [e]
   generalize textTm u = X at hc hx
   simp only [tmD, sl1, tmsD]
   generalize tmD u = UD at hc h8
   have ht8 : List.take 8 UD = UD := List.take_of_length_le (by omega)
   refine acalls_vc [0, 1, 2, 4, 5, 10, 17, 21, 29, 33, 44, 56, 60, 74, 81] Tryz.func98 Tryz.ntmps98 (by kernel_rfl) rfl rfl (by simp) ?_
   simp -dsimp [I, S]
   refine vdraw_tree [0, 1, 3, 0, 8, 24, 56, 120, 255, 511, 1023] (.rd 0 (.rd 1 (.rd 2 (.rd 3 (.rd 4 (.rd 5 (.rd 6 (.wr (.cons 7 (.rd 8 (.rd 9 (.rd 10 (.fin)))) (.nil)))))))))) (by kernel_rfl) (by kernel_rfl) ?_
   simp -dsimp [I, S, h8, ht8]
   refine ⟨by omega, pcall hc ⟨fun _ _ _ => rfl, ?_⟩⟩
   simp -dsimp [I, S, h8, ht8]
   exact ⟨by omega, by omega, pcq (by simp [S]) (fr _)⟩
  by_cases k8 : k = 8
  ·subst k8
   obtain ⟨u, rfl⟩ := List.length_eq_one_iff.1 (show subs.length = 1 by omega)
   have e : textTm (.mk 8 N mod nm names vars types [u]) = [102, 110, 40] ++ joinB comma (fnL names (types.map textT)) ++ [41, 32] ++ textTm u := by simp [textTm, textTms, textK, kindH]
   have hc := cFunTm (k := 8) (N := N) (mod := mod) (nm := nm) (vars := vars) (hH u (by simp)) (hX u (by simp)) l9 sm.ny (by omega) sm.ln sm.nn
   rw [e]
   generalize [102, 110, 40] ++ joinB comma (fnL names (types.map textT)) ++ [41, 32] ++ textTm u = X at hc
   simp only [tmD, sl1, tmsD] at hc ⊢
   generalize (names.map fun s => [S s]) = NL at hc
   generalize (vars.map fun s => [S s]) = VL at hc
   generalize types.map tyD = YL at hc
   generalize tmD u = UD at hc
   simp only [I, S] at hc
   refine acalls_vc [0, 1, 2, 4, 5, 10, 17, 21, 29, 33, 44, 56, 60, 74, 81] Tryz.func98 Tryz.ntmps98 (by kernel_rfl) rfl rfl (by simp) ?_
   simp -dsimp [I, S]
   refine pcall hc ?_
   simp -dsimp [S]
   exact pcq rfl (fr _)
  by_cases k9 : k = 9
  ·subst k9
   obtain ⟨u, r, rfl⟩ : ∃ u r, subs = u :: r := by
    cases subs with
    | nil => simp at cn
    | cons u r => exact ⟨u, r, rfl⟩
   have e : textTm (.mk 9 N mod nm names vars types (u :: r)) = parK (kindTmK u) (textTm u) ++ [40] ++ joinB comma (textTms r) ++ [41] := by simp [textTm, textTms, textK, kindH]
   have hc := cHeadTm (hH u (by simp)) (hX u (by simp))
   have hx := hX u (by simp)
   have hl := parK_len (kindTmK u) (textTm u)
   have hbr : smL 100 (textTms r) ≤ 1000000000 := by simp only [textTms, smL, List.map_cons, List.sum_cons] at hb ⊢; omega
   have hrl : r.length ≤ 1000 := by have := sm.ls; simp only [List.length_cons] at this; omega
   have hr := cListTm (l := r) (fun t h => hH t (by simp [h])) hrl hbr
   have hj := join_sum (textTms r)
   have h8 := tmD_len u
   rw [e]
   generalize parK (kindTmK u) (textTm u) = X at hc hl
   generalize joinB comma (textTms r) = J at hr hj
   simp only [tmD, sl1, tmsD, tmsD_eq]
   generalize tmD u = UD at hc h8
   have hRL : (r.map tmD).length = r.length := by simp
   generalize r.map tmD = RL at hr hRL
   have ht8 : List.take 8 UD = UD := List.take_of_length_le (by omega)
   refine acalls_vc [0, 1, 2, 4, 5, 10, 17, 21, 29, 33, 44, 56, 60, 74, 81] Tryz.func98 Tryz.ntmps98 (by kernel_rfl) rfl rfl (by simp) ?_
   simp -dsimp [I, S]
   refine vdraw_tree [0, 1, 3, 7, 15, 31, 0, 64, 192, 479, 1023, 2047, 4095] (.rd 0 (.rd 1 (.rd 2 (.rd 3 (.rd 6 (.rd 7 (.rd 8 (.wr (.cons 4 (.rd 5 (.wr (.cons 9 (.rd 10 (.rd 11 (.rd 12 (.fin)))) (.nil)))) (.nil)))))))))) (by kernel_rfl) (by kernel_rfl) ?_
   simp -dsimp [I, S, h8, ht8]
   refine ⟨by omega, pcall hc ⟨fun _ _ _ => rfl, ?_⟩⟩
   simp -dsimp [I, S, h8, ht8, hRL]
   refine ⟨by omega, pcall hr ⟨fun _ _ _ => rfl, ?_⟩⟩
   simp -dsimp [I, S, h8, ht8]
   exact ⟨by omega, by omega, pcq (by simp [S]) (fr _)⟩
  by_cases k10 : k = 10
  ·subst k10
   have e : textTm (.mk 10 N mod nm names vars types subs) = [91] ++ joinB comma (textTms subs) ++ [93] := by simp [textTm, textTms, textK, kindH]
   have hc := cListTm hH (by have := sm.ls; omega) hb
   have hj := join_sum (textTms subs)
   rw [e]
   generalize joinB comma (textTms subs) = J at hc hj
   simp only [tmD, sl1, tmsD_eq]
   generalize subs.map tmD = SL at hc
   refine acalls_vc [0, 1, 2, 4, 5, 10, 17, 21, 29, 33, 44, 56, 60, 74, 81] Tryz.func98 Tryz.ntmps98 (by kernel_rfl) rfl rfl (by simp) ?_
   simp -dsimp [I, S]
   refine pcall hc ?_
   simp -dsimp [S]
   exact ⟨by omega, by omega, pcq (by simp [S]) (fr _)⟩
  by_cases k11 : k = 11
  ·subst k11
   obtain ⟨a, b, c, rfl⟩ : ∃ a b c, subs = [a, b, c] := by
    match subs, (show subs.length = 3 by omega) with
    | [a, b, c], _ => exact ⟨a, b, c, rfl⟩
   have e : textTm (.mk 11 N mod nm names vars types [a, b, c]) = [105, 102, 32] ++ textTm a ++ [32, 116, 104, 101, 110, 32] ++ textTm b ++ [32, 101, 108, 115, 101, 32] ++ textTm c := by simp [textTm, textTms, textK, kindH]
   have ca := hH a (by simp)
   have cb := hH b (by simp)
   have cc := hH c (by simp)
   have xa := hX a (by simp)
   have xb := hX b (by simp)
   have xc := hX c (by simp)
   have za := tmD_len a
   have zb := tmD_len b
   have zc := tmD_len c
   rw [e]
   generalize textTm a = A at ca xa
   generalize textTm b = B at cb xb
   generalize textTm c = C at cc xc
   simp only [tmD, sl1, tmsD]
   generalize tmD a = AD at ca za
   generalize tmD b = BD at cb zb
   generalize tmD c = CD at cc zc
   have ta : List.take 8 AD = AD := List.take_of_length_le (by omega)
   have tb : List.take 8 BD = BD := List.take_of_length_le (by omega)
   have tc : List.take 8 CD = CD := List.take_of_length_le (by omega)
   refine acalls_vc [0, 1, 2, 4, 5, 10, 17, 21, 29, 33, 44, 56, 60, 74, 81] Tryz.func98 Tryz.ntmps98 (by kernel_rfl) rfl rfl (by simp) ?_
   simp -dsimp [I, S]
   refine vdraw_treeM (.rd 0 (.rd 1 (.rd 2 (.rd 3 (.rd 7 (.rd 8 (.rd 9 (.rd 10 (.rd 14 (.rd 15 (.rd 16 (.rd 17 (.wr (.cons 4 (.rd 5 (.rd 6 (.wr (.cons 11 (.rd 12 (.rd 13 (.wr (.cons 18 (.rd 19 (.rd 20 (.fin))) (.nil))))) (.nil))))) (.nil))))))))))))))) (by kernel_rfl) (by kernel_rfl) ?_; intro mk
   simp -dsimp [I, S, za, zb, zc, ta, tb, tc]
   refine pcall ca ⟨fun _ _ _ => rfl, ?_⟩
   simp -dsimp [I, S, za, zb, zc, ta, tb, tc]
   refine ⟨by omega, by omega, pcall cb ⟨fun _ _ _ => rfl, ?_⟩⟩
   simp -dsimp [I, S, za, zb, zc, ta, tb, tc]
   refine ⟨by omega, by omega, pcall cc ⟨fun _ _ _ => rfl, ?_⟩⟩
   simp -dsimp [I, S, za, zb, zc, ta, tb, tc]
   exact ⟨by omega, pcq (by simp [S]) (fr _)⟩
  by_cases k12 : k = 12
  ·subst k12
   have e : textTm (.mk 12 N mod nm names vars types subs) = [99, 97, 115, 101, 32] ++ (textTms subs).getD 0 [] ++ [32, 111, 102, 32] ++ brL names vars (textTms subs) names.length ++ [101, 110, 100] := by simp [textTm, textTms, textK, kindH]
   have hc := cChosenTm (k := 12) (N := N) (mod := mod) (nm := nm) (types := types) hH (by omega) (by omega) sm.ln sm.nn sm.nv hb
   rw [e]
   generalize [99, 97, 115, 101, 32] ++ (textTms subs).getD 0 [] ++ [32, 111, 102, 32] ++ brL names vars (textTms subs) names.length ++ [101, 110, 100] = X at hc
   simp only [tmD, sl1, tmsD_eq] at hc ⊢
   generalize (names.map fun s => [S s]) = NL at hc
   generalize (vars.map fun s => [S s]) = VL at hc
   generalize types.map tyD = YL at hc
   generalize subs.map tmD = SL at hc
   simp only [I, S] at hc
   refine acalls_vc [0, 1, 2, 4, 5, 10, 17, 21, 29, 33, 44, 56, 60, 74, 81] Tryz.func98 Tryz.ntmps98 (by kernel_rfl) rfl rfl (by simp) ?_
   simp -dsimp [I, S]
   refine pcall hc ?_
   simp -dsimp [S]
   exact pcq rfl (fr _)
  omega
theorem cPrintTm {t : Tm} (ht : TmW t) : Pc Tryz.prog 49 [.agg (tmD t)] (.tup [S (if mayTm t then textTm t else []), argE (mayTm t)]) := by
 have hp : Pur (.tup [S (if mayTm t then textTm t else []), argE (mayTm t)]) := Pur.tup (by
  intro d hd
  simp only [List.mem_cons, List.not_mem_nil, or_false] at hd
  rcases hd with rfl | rfl
  ·exact pur_S _
  ·unfold argE; split
   ·exact pur_nilE
   ·exact pur_code 1)
 refine pc_of hp (fun m n => ?_)
 have h8 := tmD_len t
 have hc := cMayTm ht
 have hx : mayTm t = true → _ := fun h => cTextTm ht (by simp only [mayTm, Bool.and_eq_true] at h; exact h.1.1) (by simp only [mayTm, Bool.and_eq_true, decide_eq_true_eq] at h; omega)
 generalize tmD t = TT at h8 hc hx
 have ht8 : List.take 8 TT = TT := List.take_of_length_le (by omega)
 refine acalls_vc [0, 1, 2, 3, 6] Tryz.func49 Tryz.ntmps49 (by kernel_rfl) rfl rfl (by simp) ?_
 simp -dsimp [h8, ht8]
 refine pcall hc ?_
 cases hm : mayTm t with
 | false =>
  simp -dsimp [I, Tt]
  exact pcq (by simp [S, argE]) (fun j hj => by rw [set_ne _ _ _ _ (by omega)])
 | true =>
  simp -dsimp [I, Tt, h8, ht8]
  refine pcall (hx hm) ?_
  simp -dsimp [I, Tt]
  exact pcq (by simp [S, argE, nilE]) (fun j hj => by rw [set_ne _ _ _ _ (by omega)])
end Go.Proofs.Mv.App
