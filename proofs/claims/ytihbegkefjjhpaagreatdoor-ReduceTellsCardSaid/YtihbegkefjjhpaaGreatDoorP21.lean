/- A part of the proofs: machine, contracts, laws. No condition of its own. -/
import Derived.Test.YtihbegkefjjhpaaGreatDoorP20
set_option linter.unusedSimpArgs false
set_option linter.unusedVariables false
set_option linter.unusedSectionVars false
open Go Go.Proofs Go.Proofs.Mv.V
set_option maxRecDepth 10000
namespace Go.Proofs.Mv.App
def resTi [GI] (r : Int × Tm) : D := .tup [.agg (tmD r.2), I r.1]
theorem pub_resTi [GI] {n : Nat} {m : Mem} {d : D} {c : Int} {r : Int × Tm} (h1 : PubAs n m d (.agg (tmD r.2))) (h2 : c = r.1) : PubAs n m (.tup [d, .v (.int .i64 c)]) (resTi r) := by
  subst h2
  exact .tup (.cons h1 (.cons (pur_I _).pub .nil))
theorem defF_hit {l : List Df} {md nm : List UInt8} {i : Nat} (hi : i < l.length) (h1 : ∀ x ∈ l.take i, (decide (x.mod = md) && decide (x.name = nm)) = false) (h2 : (decide (l[i].mod = md) && decide (l[i].name = nm)) = true) : defF l md nm = some l[i] := by
  have e : l = l.take i ++ l[i] :: l.drop (i + 1) := by rw [List.getElem_cons_drop, List.take_append_drop]
  have e2 : defF l md nm = defF (l.take i ++ l[i] :: l.drop (i + 1)) md nm := congrArg (fun x => defF x md nm) e
  rw [e2]
  unfold defF
  rw [List.find?_append, List.find?_eq_none.2 (fun x hx => by rw [h1 x hx]; simp), Option.none_or, List.find?_cons]
  simp only [h2]
theorem defF_no {l : List Df} {md nm : List UInt8} (h1 : ∀ x ∈ l, (decide (x.mod = md) && decide (x.name = nm)) = false) : defF l md nm = none := by
  unfold defF
  rw [List.find?_eq_none]
  intro x hx
  rw [h1 x hx]; simp
theorem idx_hit {ns : Nms} {x : List UInt8} {i : Nat} (hi : i < ns.length) (h1 : ∀ y ∈ ns.take i, y ≠ x) (h2 : ns[i] = x) : x ∈ ns ∧ ns.idxOf x = i := by
  refine ⟨h2 ▸ List.getElem_mem hi, ?_⟩
  have e : ns = ns.take i ++ ns[i] :: ns.drop (i + 1) := by rw [List.getElem_cons_drop, List.take_append_drop]
  have hn : x ∉ ns.take i := fun h => h1 x h rfl
  rw [h2] at e
  rw [e, List.idxOf_append, if_neg hn]
  simp; omega
structure CaL [GI] (k N : Int) (mod nm : List UInt8) (NL VL YL SL : List (List D)) (CD : List D) (out : Nat → Tm) (len : Nat) (m : Mem) (n n2 : Nat) (j : Nat) (m3 : Mem) (n3 : Nat) : Prop where
  o0 : m3 n = some ⟨8, [[I k, I N, S mod, S nm, .sl 1 NL, .sl 1 VL, .sl 7 YL, .sl 8 SL]], 0⟩
  o1 : m3 (n + 1) = some zTo
  oc : m3 n2 = some ⟨8, [CD], 0⟩
  oo : m3 (n2 + 1) = some ⟨8, [tmD (out j)], 0⟩
  fr : ∀ j, j < n → m3 j = m j
  nn : n2 + 2 ≤ n3
  le : j ≤ len
structure RsL [GI] (k N : Int) (mod nm : List UInt8) (NL VL YL SL : List (List D)) (subs : List Tm) (len : Nat) (m : Mem) (n : Nat) (i : Nat) (m2 : Mem) (n2 : Nat) : Prop where
  o0 : m2 n = some ⟨8, [[I k, I N, S mod, S nm, .sl 1 NL, .sl 1 VL, .sl 7 YL, .sl 8 SL]], 0⟩
  o1 : m2 (n + 1) = some zTo
  fr : ∀ j, j < n → m2 j = m j
  nn : n + 2 ≤ n2
  le : i ≤ len
  al : ∀ j (h : j < subs.length), j < i → valT subs[j] = true
set_option maxHeartbeats 8000000 in
theorem cRStep {l : List Df} (hl : l.length ≤ 9223372036854775807) {t : Tm} (ht : TmW t) : allTm t = true → cloT t [] = true → valT t = false → Pc Tryz.prog 25 [.sl 10 (l.map dfD), .agg (tmD t)] (resTi (stepT l t)) := by
  induction ht with
  | mk k N mod nm names vars types subs l1 l2 l3 l4 l5 l6 l7 l8 l9 l10 ih =>
  intro ha hc hv
  refine pc_pub (fun m n => ?_)
  have nn1 : n ≠ n + 1 := by omega
  have n1n : n + 1 ≠ n := by omega
  have nn2 : n ≠ n + 1 + 1 := by omega
  have n2n : n + 1 + 1 ≠ n := by omega
  have n12 : n + 1 ≠ n + 1 + 1 := by omega
  have n21 : n + 1 + 1 ≠ n + 1 := by omega
  have haa := ha
  simp only [allTm, Bool.and_eq_true] at haa
  obtain ⟨kk, sm⟩ := shapeTm_parts haa.1
  have has : ∀ s ∈ subs, allTm s = true := by have := haa.2; rw [allTms_eq, List.all_eq_true] at this; exact this
  have cn := kk.cn
  simp only [cntK] at cn
  have k8 : k ≠ 8 := fun e => by subst e; simp [valT] at hv
  have b8 : (k == 8) = false := by simpa using k8
  obtain ⟨len, hlen, hlb⟩ : ∃ len, len = (if k = 11 ∨ k = 12 then 1 else subs.length) ∧ len ≤ subs.length := ⟨_, rfl, by split <;> omega⟩
  -- a Sub that does a step is closed
  have hcs : ∀ i (h : i < subs.length), i < len → cloT subs[i] [] = true := fun i h hil => by
    simp only [cloT, if_neg k8] at hc
    by_cases k3 : k = 3
    · omega
    rw [if_neg k3] at hc
    by_cases k12 : k = 12
    · rw [if_pos k12] at hc
      rw [if_pos (.inr k12)] at hlen
      have : i = 0 := by omega
      subst this
      cases subs with
      | nil => simp at h
      | cons s ss => simp only [cloC, Bool.and_eq_true] at hc; exact hc.1
    · rw [if_neg k12] at hc
      exact cloTs_mem hc (List.getElem_mem h)
  have ih' : ∀ i (h : i < subs.length), i < len → valT subs[i] = false → Pc Tryz.prog 25 [.sl 10 (l.map dfD), .agg (tmD subs[i])] (resTi (stepT l subs[i])) := fun i h hil hvv => ih _ (List.getElem_mem h) (has _ (List.getElem_mem h)) (hcs i h hil) hvv
  have hval : ∀ i (h : i < subs.length), Pc Tryz.prog 20 [.agg (tmD subs[i])] (Tt (valT subs[i])) := fun i h => cRValue (l10 _ (List.getElem_mem h))
  have hSL : (subs.map tmD).length = subs.length := by simp
  have hSG : ∀ i (h : i < subs.length), (subs.map tmD)[i]? = some (tmD subs[i]) := fun i h => by simp [h]
  have hps := pur_tmm subs
  have hpy : ∀ e ∈ types.map tyD, ∀ d ∈ e, Pur d := fun e he d hd => by
    obtain ⟨y, _, rfl⟩ := List.mem_map.1 he
    exact pur_ty y d hd
  have hpn : ∀ e ∈ names.map fun s => [S s], ∀ d ∈ e, Pur d := pur_ss
  have hpv : ∀ e ∈ vars.map fun s => [S s], ∀ d ∈ e, Pur d := pur_ss
  have hres : ∀ {n : Nat} {m : Mem} {d : D} {c : Int} (i : Nat) (hi : i < subs.length), stepT l (.mk k N mod nm names vars types subs) = ((stepT l subs[i]).1, .mk k N mod nm names vars types (subs.set i (stepT l subs[i]).2)) → c = (stepT l subs[i]).1 → PubAs n m d (.agg [I k, I N, S mod, S nm, sl1 names, sl1 vars, .sl 7 (types.map tyD), .sl 8 ((subs.map tmD).set i (tmD (stepT l subs[i]).2))]) → PubAs n m (.tup [d, .v (.int .i64 c)]) (resTi (stepT l (.mk k N mod nm names vars types subs))) := fun {n m d c} i hi h hcc hd => by
    rw [h]
    refine pub_resTi ?_ hcc
    simp only [tmD, tmsD_eq]
    rw [List.map_set]; exact hd
  have hst := fun (i : Nat) (hi : i < subs.length) (hil : i < len) (h1 : ∀ j (h : j < i), valT (subs[j]'(by omega)) = true) (h2 : valT subs[i] = false) => step_at (defs := l) (N := N) (mod := mod) (nm := nm) (names := names) (vars := vars) (types := types) k8 hi (fun hk => by rw [if_pos hk] at hlen; omega) h1 h2
  have hno : (∀ j (h : j < subs.length), j < len → valT subs[j] = true) → stepT l (.mk k N mod nm names vars types subs) = ownS l k mod nm names vars subs := fun h => step_no (by
    by_cases kx : k = 11 ∨ k = 12
    · rw [if_pos kx] at hlen
      exact .inr (.inl ⟨kx, fun h0 => h 0 h0 (by omega)⟩)
    · rw [if_neg kx] at hlen
      refine .inr (.inr fun s hs => ?_)
      obtain ⟨j, hj, rfl⟩ := List.mem_iff_getElem.1 hs
      exact h j hj (by omega))
  simp only [tmD, tmsD_eq, sl1] at hres ⊢
  have hNL : (names.map fun s => [S s]).length = names.length := by simp
  have hNG : ∀ i (h : i < names.length), (names.map fun s => [S s])[i]? = some [S names[i]] := fun i h => by simp [h]
  have hVL : (vars.map fun s => [S s]).length = vars.length := by simp
  have hVG : ∀ i (h : i < vars.length), (vars.map fun s => [S s])[i]? = some [S vars[i]] := fun i h => by simp [h]
  generalize (names.map fun s => [S s]) = NL at hpn hres hNL hNG ⊢
  generalize (vars.map fun s => [S s]) = VL at hpv hres hVL hVG ⊢
  generalize types.map tyD = YL at hpy hres ⊢
  obtain ⟨SL, hSLe⟩ : ∃ SL, SL = subs.map tmD := ⟨_, rfl⟩
  rw [← hSLe] at hSL hps ⊢
  simp only [← hSLe] at hSG hres
  refine acalls_vcC [0, 1, 3, 4, 5, 6, 7, 8, 9, 10, 11, 12, 13, 14, 15, 16, 17, 18, 19, 30, 33, 42, 66, 67, 72, 92, 99, 114, 124, 130, 148, 157, 174, 189, 199, 204, 219, 229] Tryz.func25 Tryz.ntmps25 (by kernel_rfl) rfl rfl (by simp) ?_
  have hkx : (k = 11 ∧ (k == 11) = true) ∨ (k ≠ 11 ∧ (k == 11) = false ∧ k = 12 ∧ (k == 12) = true) ∨ (k ≠ 11 ∧ (k == 11) = false ∧ k ≠ 12 ∧ (k == 12) = false) := by
    by_cases h1 : k = 11
    · exact .inl ⟨h1, by simpa using h1⟩
    · by_cases h2 : k = 12
      · exact .inr (.inl ⟨h1, by simpa using h1, h2, by simpa using h2⟩)
      · exact .inr (.inr ⟨h1, by simpa using h1, h2, by simpa using h2⟩)
  rcases hkx with ⟨q1, q2⟩ | ⟨q1, q2, q3, q4⟩ | ⟨q1, q2, q3, q4⟩
  case' inl =>
    rw [if_pos (.inl q1)] at hlen
    simp -dsimp [I, S, hSL, q2, set_ne, nn1, n1n, nn2, n2n, n12, n21]
  case' inr.inl =>
    rw [if_pos (.inr q3)] at hlen
    simp -dsimp [I, S, hSL, q2, q4, set_ne, nn1, n1n, nn2, n2n, n12, n21]
  case' inr.inr =>
    rw [if_neg (by omega)] at hlen
    simp -dsimp [I, S, hSL, q2, q4, set_ne, nn1, n1n, nn2, n2n, n12, n21]
  all_goals
    refine vloop_as (β := Nat) (fun i => [(0, .sl 10 (l.map dfD)), (3, .ptr n 0 0 0), (4, .ptr (n + 1) 0 0 0), (6, I len), (7, I i)]) (RsL k N mod nm NL VL YL SL subs len m n) (fun i => len - i) 0 (by simp [I, hlen])
      ⟨by simp [set_ne, I, S, nn1], by simp [zTo], fun j hj => by simp [set_ne, show j ≠ n by omega, show j ≠ n + 1 by omega], by omega, by omega, fun j h hj => by omega⟩ ?_
    rintro i m2 n2 ⟨o0, o1, hfr, hnn, hle, hal⟩
    by_cases hi : (i : Int) < len
    · have hil : i < len := by omega
      have hi' : i < subs.length := by omega
      have hiS : i < SL.length := by omega
      have wi : IntKind.i64.wrap ((i : Int) + 1) = (i : Int) + 1 := wrap_i64 (by omega) (by omega)
      have hgs : SL[i] = tmD subs[i] := get_opt (hSG i hi') hiS
      have hz : (tmD subs[i]).length = 8 := by simp
      have c1 := hval i hi'
      have c2 := ih' i hi' hil
      generalize tmD subs[i] = X at hgs hz c1 c2
      have hX : List.take 8 X = X := List.take_of_length_le (by omega)
      have hdX : List.drop 8 X = [] := List.drop_eq_nil_of_le (by omega)
      simp -dsimp [I, S, hi, hiS, hgs, hz, hX, o0, o1, set_ne]
      refine pcall c1 ?_
      cases hvi : valT subs[i] with
      | true =>
        simp -dsimp [I, S, Tt, wi]
        refine rnd (i + 1) (by omega) (by simp [I]) ⟨o0, o1, hfr, hnn, by omega, fun j h hj => ?_⟩
        rcases Nat.lt_or_ge j i with q | q
        · exact hal j h q
        · obtain rfl : j = i := by omega
          exact hvi
      | false =>
        have c2 := c2 hvi
        have hs := hst i hi' hil (fun j h => hal j (by omega) h) hvi
        have hr8 : (tmD (stepT l subs[i]).2).length = 8 := by simp
        have hprR := pur_tm (stepT l subs[i]).2
        have hres := fun {n : Nat} {m : Mem} {d : D} {c : Int} => hres (n := n) (m := m) (d := d) (c := c) i hi' hs
        unfold resTi at c2
        generalize tmD (stepT l subs[i]).2 = Y at c2 hr8 hprR hres
        have hY : List.take 8 Y = Y := List.take_of_length_le (by omega)
        simp -dsimp [I, S, Tt, hi', hiS, hgs, hz, hX, o0, o1, set_ne]
        refine pcall c2 ?_
        have x0 : n ≠ n2 := by omega
        have x1 : n ≠ n2 + 1 := by omega
        have x2 : n + 1 ≠ n2 := by omega
        have x3 : n + 1 ≠ n2 + 1 := by omega
        have x4 : n2 ≠ n2 + 1 := by omega
        simp -dsimp [I, S, Tt, hi', hiS, hgs, hz, hX, hdX, hr8, hY, o0, o1, zTo, set_ne, nn1, n1n, x0, x1, x2, x3, x4, x0.symm, x1.symm, x2.symm, x3.symm, x4.symm]
        refine ⟨by have := sm.ls; omega, ?_⟩
        refine pcp (hres rfl ?_) fun j hj => ?_
        · refine .agg (.cons (pur_I _).pub (.cons (pur_I _).pub (.cons (pur_S _).pub (.cons (pur_S _).pub (.cons (Pur.sl hpn).pub (.cons (Pur.sl hpv).pub (.cons (Pur.sl hpy).pub (.cons ?_ .nil))))))))
          refine .lstP (Lst.mk (es' := SL.set i Y) (g := 1) ?_ (by simp) (by simp) (List.take_of_length_le (by simp))) (fun j hj => by simp at hj; omega) ?_
          · rw [set_ne _ _ _ _ (by omega), set_ne _ _ _ _ (by omega), set_same]
          · intro e he d hd
            rcases List.mem_or_eq_of_mem_set he with he | he
            · exact hps e he d hd
            · rw [he] at hd; exact hprR d hd
        · simp [set_ne, show j ≠ n by omega, show j ≠ n + 1 by omega, show j ≠ n2 by omega, show j ≠ n2 + 1 by omega]
          exact hfr j hj
    have hilen : i = len := by omega
    have hown := hno fun j h hj => hal j h (by omega)
    rw [hown]
    clear ih ih' hst hno hres hal
    have x0 : n ≠ n2 := by omega
    have x1 : n ≠ n2 + 1 := by omega
    have x2 : n + 1 ≠ n2 := by omega
    have x3 : n + 1 ≠ n2 + 1 := by omega
    have x4 : n2 ≠ n2 + 1 := by omega
  · have hlt : l.length ≤ 9223372036854775807 := hl
    by_cases k4 : k = 4
    · subst k4
      have ho : ownS l 4 mod nm names vars subs = meansF l mod nm := by unfold ownS meansF; simp; cases defF l mod nm <;> rfl
      rw [ho]
      have hLL : (l.map dfD).length = l.length := by simp
      have hLG : ∀ i (h : i < l.length), (l.map dfD)[i]? = some (dfD l[i]) := fun i h => by simp [h]
      generalize l.map dfD = L at hLL hLG
      simp -dsimp [I, S, hi, o0, o1, zTo, set_ne, nn1, n1n]
      refine vloop_as (β := Nat) (fun i => [(0, .sl 10 L), (3, .ptr n 0 0 0), (4, .ptr (n + 1) 0 0 0), (12, I i)]) (fun i M Nx => M = m2 ∧ Nx = n2 ∧ i ≤ l.length ∧ ∀ x ∈ l.take i, (decide (x.mod = mod) && decide (x.name = nm)) = false) (fun i => l.length - i) 0 (by simp [I]) ⟨rfl, rfl, by omega, by simp⟩ ?_
      rintro j m3 n3 ⟨rfl, rfl, jle, hno⟩
      by_cases hj : (j : Int) < l.length
      · have hj' : j < l.length := by omega
        have wj : IntKind.i64.wrap ((j : Int) + 1) = (j : Int) + 1 := wrap_i64 (by omega) (by omega)
        have hjL : j < L.length := by omega
        have hgj : L[j] = dfD l[j] := get_opt (hLG j hj') hjL
        have hz : (tmD l[j].term).length = 8 := by simp
        have hpY := pur_tmA l[j].term
        simp only [dfD] at hgj
        have hP : ∀ Y, Y = tmD l[j].term → ∀ n (m : Mem), PubAs n m (.agg Y) (.agg (tmD (((0 : Int), l[j].term) : Int × Tm).2)) := fun Y h n m => by subst h; exact hpY.pub
        have hnx : (decide (l[j].mod = mod) && decide (l[j].name = nm)) = false → ∀ x ∈ l.take (j + 1), (decide (x.mod = mod) && decide (x.name = nm)) = false := fun h x hx => by
          rw [List.take_succ_eq_append_getElem hj'] at hx
          rcases List.mem_append.1 hx with hx | hx
          · exact hno x hx
          · simp only [List.mem_singleton] at hx; rw [hx]; exact h
        generalize hYY : tmD l[j].term = Y at hgj hz
        have hY : List.take 8 Y = Y := List.take_of_length_le (by omega)
        by_cases e1 : l[j].mod = mod
        · by_cases e2 : l[j].name = nm
          · have hm : meansF l mod nm = (0, l[j].term) := by unfold meansF; rw [defF_hit hj' hno (by simp [e1, e2])]
            rw [hm]
            simp -dsimp [I, S, hj, hj', hLL, hjL, hgj]
            refine vdraw_tree [0, 0, 3, 7, 15, 0, 32, 127, 255, 511, 511, 2047, 4095, 8191, 511, 16895, 65535, 131071] (.rd 0 (.rd 1 (.rd 2 (.rd 3 (.rd 4 (.rd 5 (.rd 6 (.rd 7 (.rd 8 (.rd 9 (.rd 10 (.rd 11 (.rd 12 (.rd 13 (.rd 14 (.rd 15 (.rd 16 (.rd 17 (.fin))))))))))))))))))) (by kernel_rfl) (by kernel_rfl) ?_
            simp -dsimp [I, S, hj, hj', hLL, hjL, hgj, e1, e2, hz, hY, o0, o1, zTo, set_ne, nn1, n1n]
            exact pcp (pub_resTi (r := (0, l[j].term)) (hP Y hYY.symm _ _) rfl) fun j hj => by rw [set_ne _ _ _ _ (by omega)]; exact hfr j hj
          · have b2 : (l[j].name == nm) = false := by simpa using e2
            simp -dsimp [I, S, hj, hj', hLL, hjL, hgj]
            refine vdraw_tree [0, 0, 3, 7, 15, 0, 32, 127, 255, 511, 511, 2047, 4095, 8191, 511, 16895, 65535, 131071] (.rd 0 (.rd 1 (.rd 2 (.rd 3 (.rd 4 (.rd 5 (.rd 6 (.rd 7 (.rd 8 (.rd 9 (.rd 10 (.rd 11 (.rd 12 (.rd 13 (.rd 14 (.rd 15 (.rd 16 (.rd 17 (.fin))))))))))))))))))) (by kernel_rfl) (by kernel_rfl) ?_
            simp -dsimp [I, S, hj, hj', hLL, hjL, hgj, e1, b2, hz, hY, o0, o1, zTo, wj, set_ne, nn1, n1n]
            exact rnd (j + 1) (by omega) (by simp [I]) ⟨rfl, rfl, by omega, hnx (by simp [e2])⟩
        · have b1 : (l[j].mod == mod) = false := by simpa using e1
          simp -dsimp [I, S, hj, hj', hLL, hjL, hgj]
          refine vdraw_tree [0, 0, 3, 7, 15, 0, 32, 127, 255, 511, 511, 2047, 4095, 8191, 511, 16895, 65535, 131071] (.rd 0 (.rd 1 (.rd 2 (.rd 3 (.rd 4 (.rd 5 (.rd 6 (.rd 7 (.rd 8 (.rd 9 (.rd 10 (.rd 11 (.rd 12 (.rd 13 (.rd 14 (.rd 15 (.rd 16 (.rd 17 (.fin))))))))))))))))))) (by kernel_rfl) (by kernel_rfl) ?_
          simp -dsimp [I, S, hj, hj', hLL, hjL, hgj, b1, hz, hY, o0, o1, zTo, wj, set_ne, nn1, n1n]
          exact rnd (j + 1) (by omega) (by simp [I]) ⟨rfl, rfl, by omega, hnx (by simp [e1])⟩
      · have e : j = l.length := by omega
        subst e
        rw [List.take_length] at hno
        have hm : meansF l mod nm = (9, Tm0) := by unfold meansF; rw [defF_no hno]
        rw [hm]
        simp -dsimp [I, S, hj, hLL, o0, o1, zTo]
        exact pcp (pub_resTi (r := (9, Tm0)) pub_zt rfl) fun j hj => by rw [set_ne _ _ _ _ (by omega)]; exact hfr j hj
    have b4 : (k == 4) = false := by simpa using k4
    by_cases k6 : k = 6
    · subst k6
      obtain ⟨c, rfl⟩ : ∃ c, subs = [c] := List.length_eq_one_iff.1 (by omega)
      obtain ⟨k', N', mod', nm', names', vars', types', subs'⟩ := c
      have hca := has (.mk k' N' mod' nm' names' vars' types' subs') (by simp)
      simp only [allTm, Bool.and_eq_true] at hca
      obtain ⟨kk', sm'⟩ := shapeTm_parts hca.1
      have hk5 : k' = 5 → subs'.length = names'.length := fun e => by
        have cn' := kk'.cn
        simp only [cntK] at cn'
        omega
      have ho : ownS l 6 mod nm names vars [.mk k' N' mod' nm' names' vars' types' subs'] = if k' = 5 ∧ nm ∈ names' then (0, subs'.getD (names'.idxOf nm) Tm0) else (12, Tm0) := by unfold ownS; simp [kindTmK, namesT, kidsT]
      rw [ho]
      simp only [tmD, tmsD_eq, sl1, List.map_cons, List.map_nil] at hSLe
      have hSL' : (subs'.map tmD).length = subs'.length := by simp
      have hSG' : ∀ i (h : i < subs'.length), (subs'.map tmD)[i]? = some (tmD subs'[i]) := fun i h => by simp [h]
      have hNL' : (names'.map fun s => [S s]).length = names'.length := by simp
      have hNG' : ∀ i (h : i < names'.length), (names'.map fun s => [S s])[i]? = some [S names'[i]] := fun i h => by simp [h]
      generalize (names'.map fun s => [S s]) = NL' at hNL' hNG' hSLe
      generalize (vars'.map fun s => [S s]) = VL' at hSLe
      generalize types'.map tyD = YL' at hSLe
      generalize subs'.map tmD = SL' at hSL' hSG' hSLe
      subst hSLe
      by_cases k5 : k' = 5
      case neg =>
        have b5 : (k' == 5) = false := by simpa using k5
        rw [if_neg (fun h => k5 h.1)]
        simp -dsimp [I, S, hi, o0, o1, zTo, set_ne, nn1, n1n]
        refine vloop_as (β := Nat) (fun i => [(0, .sl 10 (l.map dfD)), (3, .ptr n 0 0 0), (4, .ptr (n + 1) 0 0 0), (13, .ptr n2 0 0 0), (14, I i)]) (fun i M Nx => M = m2.set n2 ⟨8, [[I k', I N', S mod', S nm', .sl 1 NL', .sl 1 VL', .sl 7 YL', .sl 8 SL']], 0⟩ ∧ Nx = n2 + 1 ∧ i = 0) (fun i => 1 - i) 0 (by simp [I]) ⟨by simp [I, S], rfl, rfl⟩ ?_
        rintro j m3 n3 ⟨rfl, rfl, rfl⟩
        by_cases hj : 0 < names'.length
        · simp -dsimp [I, S, hj, hNL', b5, o0, o1, zTo, set_ne, x0, x1, x2, x0.symm, x2.symm]
          exact pcp (pub_resTi (r := (12, Tm0)) pub_zt rfl) fun j hj => by rw [set_ne _ _ _ _ (by omega), set_ne _ _ _ _ (by omega)]; exact hfr j hj
        · simp -dsimp [I, S, hj, hNL', b5, o0, o1, zTo, set_ne, x0, x1, x2, x0.symm, x2.symm]
          exact pcp (pub_resTi (r := (12, Tm0)) pub_zt rfl) fun j hj => by rw [set_ne _ _ _ _ (by omega), set_ne _ _ _ _ (by omega)]; exact hfr j hj
      subst k5
      simp -dsimp [I, S, hi, o0, o1, zTo, set_ne, nn1, n1n]
      refine vloop_as (β := Nat) (fun i => [(0, .sl 10 (l.map dfD)), (3, .ptr n 0 0 0), (4, .ptr (n + 1) 0 0 0), (13, .ptr n2 0 0 0), (14, I i)]) (fun i M Nx => M = m2.set n2 ⟨8, [[I 5, I N', S mod', S nm', .sl 1 NL', .sl 1 VL', .sl 7 YL', .sl 8 SL']], 0⟩ ∧ Nx = n2 + 1 ∧ i ≤ names'.length ∧ ∀ y ∈ names'.take i, y ≠ nm) (fun i => names'.length - i) 0 (by simp [I]) ⟨by simp [I, S], rfl, by omega, by simp⟩ ?_
      rintro j m3 n3 ⟨rfl, rfl, jle, hno⟩
      by_cases hj : (j : Int) < names'.length
      · have hj' : j < names'.length := by omega
        have wj : IntKind.i64.wrap ((j : Int) + 1) = (j : Int) + 1 := wrap_i64 (by omega) (by have := sm'.ln; omega)
        have hjN : j < NL'.length := by omega
        have hgn : NL'[j] = [S names'[j]] := get_opt (hNG' j hj') hjN
        have hj2 : j < subs'.length := by rw [hk5 rfl]; exact hj'
        have hjS : j < SL'.length := by omega
        have hgs : SL'[j] = tmD subs'[j] := get_opt (hSG' j hj2) hjS
        have hz : (tmD subs'[j]).length = 8 := by simp
        have hpY := pur_tmA subs'[j]
        have hP : ∀ Y, Y = tmD subs'[j] → ∀ n (m : Mem), PubAs n m (.agg Y) (.agg (tmD (((0 : Int), subs'[j]) : Int × Tm).2)) := fun Y h n m => by subst h; exact hpY.pub
        generalize hYY : tmD subs'[j] = Y at hgs hz
        have hY : List.take 8 Y = Y := List.take_of_length_le (by omega)
        simp -dsimp [I, S, hj, hj', hNL', o0, o1, set_ne, x0, x1, x2, x0.symm, x2.symm]
        refine vdraw_tree [0, 1, 0, 7, 15, 0, 32, 127] (.rd 0 (.rd 1 (.rd 2 (.rd 3 (.rd 4 (.rd 5 (.rd 6 (.rd 7 (.fin))))))))) (by kernel_rfl) (by kernel_rfl) ?_
        by_cases e1 : names'[j] = nm
        · obtain ⟨hm1, hm2⟩ := idx_hit hj' hno e1
          rw [if_pos ⟨rfl, hm1⟩, hm2, show subs'.getD j Tm0 = subs'[j] by simp [hj2]]
          simp -dsimp [I, S, hj, hj', hNL', hjN, hgn, e1, hjS, hgs, hz, hY, o0, o1, zTo, set_ne, nn1, n1n, x0, x1, x2, x0.symm, x2.symm]
          exact pcp (pub_resTi (r := (0, subs'[j])) (hP Y hYY.symm _ _) rfl) fun j hj => by rw [set_ne _ _ _ _ (by omega), set_ne _ _ _ _ (by omega)]; exact hfr j hj
        · have b1 : (names'[j] == nm) = false := by simpa using e1
          simp -dsimp [I, S, hj, hj', hNL', hjN, hgn, b1, hjS, hgs, hz, hY, o0, o1, zTo, wj, set_ne, nn1, n1n, x0, x1, x2, x0.symm, x2.symm]
          refine rnd (j + 1) (by omega) (by simp [I]) ⟨rfl, rfl, by omega, fun y hy => ?_⟩
          rw [List.take_succ_eq_append_getElem hj'] at hy
          rcases List.mem_append.1 hy with hy | hy
          · exact hno y hy
          · simp only [List.mem_singleton] at hy; rw [hy]; exact e1
      · have e : j = names'.length := by omega
        subst e
        rw [List.take_length] at hno
        rw [if_neg (fun h => hno _ h.2 rfl)]
        simp -dsimp [I, S, hj, hNL', o0, o1, zTo, set_ne, x0, x1, x2, x0.symm, x2.symm]
        exact pcp (pub_resTi (r := (12, Tm0)) pub_zt rfl) fun j hj => by rw [set_ne _ _ _ _ (by omega), set_ne _ _ _ _ (by omega)]; exact hfr j hj
    have b6 : (k == 6) = false := by simpa using k6
    by_cases k9 : k = 9
    · subst k9
      obtain ⟨c, args, rfl⟩ : ∃ c args, subs = c :: args := by
        cases subs with
        | nil => simp at cn
        | cons c args => exact ⟨c, args, rfl⟩
      obtain ⟨k', N', mod', nm', names', vars', types', subs'⟩ := c
      have hca := has (.mk k' N' mod' nm' names' vars' types' subs') (by simp)
      have hcT := all_c _ hca
      simp only [allTm, Bool.and_eq_true] at hca
      obtain ⟨kk', sm'⟩ := shapeTm_parts hca.1
      have hargc : ∀ s ∈ args, TmC s := fun s hs => all_c s (has s (by simp [hs]))
      have hargl : ∀ s ∈ args, cloT s [] = true := fun s hs => by
        simp only [cloT, show ¬ (9 : Int) = 3 by omega, show ¬ (9 : Int) = 8 by omega, show ¬ (9 : Int) = 12 by omega, if_false, cloTs, Bool.and_eq_true] at hc
        exact cloTs_mem hc.2 hs
      have hk8 : k' = 8 → ∃ body, subs' = [body] ∧ TmC body := fun e => by
        have cn' := kk'.cn
        simp only [cntK] at cn'
        obtain ⟨body, rfl⟩ := List.length_eq_one_iff.1 (show subs'.length = 1 by omega)
        exact ⟨body, rfl, her_c.kids hcT body (by simp [kidsT])⟩
      have ho : ownS l 9 mod nm names vars (.mk k' N' mod' nm' names' vars' types' subs' :: args) = if k' = 8 ∧ names'.length = args.length then (0, putT (subs'.headD Tm0) (names'.zip args)) else (12, Tm0) := by unfold ownS; simp [kindTmK, namesT, kidsT]
      rw [ho]
      have hal : args.length ≤ 20 := by have := sm.ls; simp at this; omega
      simp only [tmD, tmsD_eq, sl1, List.map_cons] at hSLe
      have hAL : (args.map tmD).length = args.length := by simp
      have hAG : ∀ i (h : i < args.length), (args.map tmD)[i]? = some (tmD args[i]) := fun i h => by simp [h]
      have hNL' : (names'.map fun s => [S s]).length = names'.length := by simp
      have hNG' : ∀ i (h : i < names'.length), (names'.map fun s => [S s])[i]? = some [S names'[i]] := fun i h => by simp [h]
      generalize (names'.map fun s => [S s]) = NL' at hNL' hNG' hSLe
      generalize (vars'.map fun s => [S s]) = VL' at hSLe
      generalize types'.map tyD = YL' at hSLe
      generalize args.map tmD = AL at hAL hAG hSLe
      have w1 : IntKind.i64.wrap (args.length : Int) = args.length := wrap_i64 (by omega) (by omega)
      by_cases k8' : k' = 8
      case neg =>
        have b8' : (k' == 8) = false := by simpa using k8'
        generalize subs'.map tmD = SL' at hSLe
        subst hSLe
        rw [if_neg (fun h => k8' h.1)]
        simp -dsimp [I, S, hi, b8', o0, o1, zTo, set_ne, nn1, n1n, x0, x1, x2, x0.symm, x2.symm]
        exact pcp (pub_resTi (r := (12, Tm0)) pub_zt rfl) fun j hj => by rw [set_ne _ _ _ _ (by omega), set_ne _ _ _ _ (by omega)]; exact hfr j hj
      subst k8'
      obtain ⟨body, rfl, hbc⟩ := hk8 rfl
      simp only [List.map_cons, List.map_nil] at hSLe
      by_cases hlen' : names'.length = args.length
      case neg =>
        have hle' : ¬ (names'.length : Int) = args.length := by omega
        have hleb : ((names'.length : Int) == args.length) = false := by simpa using hle'
        subst hSLe
        rw [if_neg (fun h => hlen' h.2)]
        simp -dsimp [I, S, hi, hNL', hAL, w1, hlen', hle', hleb, o0, o1, zTo, set_ne, nn1, n1n, x0, x1, x2, x0.symm, x2.symm]
        exact pcp (pub_resTi (r := (12, Tm0)) pub_zt rfl) fun j hj => by rw [set_ne _ _ _ _ (by omega), set_ne _ _ _ _ (by omega)]; exact hfr j hj
      rw [if_pos ⟨rfl, hlen'⟩]
      simp only [List.headD_cons]
      have hb8 : (tmD body).length = 8 := by simp
      have hB0 : tmD (putT body ((names'.zip args).take 0)) = tmD body := by simp [putT_nil]
      have hB : List.take 8 (tmD body) = tmD body := List.take_of_length_le (by omega)
      generalize hBB : tmD body = B at hSLe hb8 hB0 hB
      subst hSLe
      simp -dsimp [I, S, hi, hNL', hAL, w1, hlen', hb8, hB, o0, o1, zTo, set_ne, nn1, n1n, x0, x1, x2, x3, x4, x0.symm, x1.symm, x2.symm, x3.symm, x4.symm]
      refine vloop_as (β := Nat) (fun i => [(0, .sl 10 (l.map dfD)), (3, .ptr n 0 0 0), (4, .ptr (n + 1) 0 0 0), (15, .ptr n2 0 0 0), (16, .ptr (n2 + 1) 0 0 0), (17, I i)])
        (CaL 9 N mod nm NL VL YL ([I 8, I N', S mod', S nm', .sl 1 NL', .sl 1 VL', .sl 7 YL', .sl 8 [B]] :: AL) [I 8, I N', S mod', S nm', .sl 1 NL', .sl 1 VL', .sl 7 YL', .sl 8 [B]] (fun j => putT body ((names'.zip args).take j)) args.length m n n2) (fun i => args.length - i) 0 (by simp [I])
        ⟨by rw [set_ne _ _ _ _ x1, set_ne _ _ _ _ x0]; exact o0, by rw [set_ne _ _ _ _ x3, set_ne _ _ _ _ x2]; exact o1, by rw [set_ne _ _ _ _ x4]; simp [I, S], by rw [hB0]; simp, fun j hj => by rw [set_ne _ _ _ _ (by omega), set_ne _ _ _ _ (by omega)]; exact hfr j hj, by omega, by omega⟩ ?_
      rintro j m3 n3 ⟨p0, p1, pc, po, pfr, pnn, jle⟩
      by_cases hj : (j : Int) < args.length
      · have hj' : j < args.length := by omega
        have wj : IntKind.i64.wrap ((j : Int) + 1) = (j : Int) + 1 := wrap_i64 (by omega) (by omega)
        have hjN : j < NL'.length := by omega
        have hgn : NL'[j] = [S (names'[j]'(by omega))] := get_opt (hNG' j (by omega)) hjN
        have hjA : j < AL.length := by omega
        have hga : AL[j] = tmD args[j] := get_opt (hAG j hj') hjA
        have hzA : (tmD args[j]).length = 8 := by simp
        have hout : TmC (putT body ((names'.zip args).take j)) := her_put her_c _ _ hbc fun b hb => hargc _ (List.of_mem_zip (List.mem_of_mem_take hb)).2
        have hcp := cRPut (v := args[j]) (x := names'[j]'(by omega)) hout
        have hsn : putT (putT body ((names'.zip args).take j)) [((names'[j]'(by omega)), args[j])] = putT body ((names'.zip args).take (j + 1)) := by
          rw [putT_snoc (fun b hb => hargl _ (List.of_mem_zip (List.mem_of_mem_take hb)).2) (hargl _ (List.getElem_mem hj')), List.take_succ_eq_append_getElem (by simp; omega)]
          simp
        rw [hsn] at hcp
        have hz1 : (tmD (putT body ((names'.zip args).take j))).length = 8 := by simp
        have hz2 : (tmD (putT body ((names'.zip args).take (j + 1)))).length = 8 := by simp
        simp only [S] at hcp hgn
        generalize tmD args[j] = A at hga hzA hcp
        have hA : List.take 8 A = A := List.take_of_length_le (by omega)
        have hO : List.take 8 (tmD (putT body ((names'.zip args).take j))) = tmD (putT body ((names'.zip args).take j)) := List.take_of_length_le (by omega)
        generalize hOO : tmD (putT body ((names'.zip args).take j)) = O at po hz1 hcp hO
        generalize hOO2 : tmD (putT body ((names'.zip args).take (j + 1))) = O2 at hz2 hcp
        have hO2 : List.take 8 O2 = O2 := List.take_of_length_le (by omega)
        have hdO : List.drop 8 O = [] := List.drop_eq_nil_of_le (by omega)
        simp -dsimp [I, S, hj, hNL', hlen', p0, p1, pc, po, set_ne]
        refine vdraw_tree [0, 0, 2, 0, 14, 30, 0, 64, 0, 256, 960, 1984, 4095, 8191] (.rd 0 (.rd 1 (.rd 2 (.rd 3 (.rd 4 (.rd 5 (.rd 6 (.rd 7 (.rd 8 (.rd 9 (.rd 10 (.rd 11 (.wr (.cons 12 (.wr (.cons 13 (.fin) (.nil))) (.nil))))))))))))))) (by kernel_rfl) (by kernel_rfl) ?_
        simp -dsimp [I, S, hj, hj', hNL', hlen', hjN, hgn, hjA, hga, hzA, hA, hAL, wj, hz1, hO, hdO, p0, p1, pc, po, set_ne]
        refine ⟨by omega, ?_⟩
        refine pcall hcp ?_
        refine ⟨fun _ _ _ => rfl, ?_⟩
        simp -dsimp [I, S, hz2, hO2, hdO, hz1, wj, p0, p1, pc, po, set_ne]
        refine rnd (j + 1) (by omega) (by simp [I]) ⟨by rw [set_ne _ _ _ _ (by omega)]; exact p0, by rw [set_ne _ _ _ _ (by omega)]; exact p1, by rw [set_ne _ _ _ _ (by omega)]; exact pc, by rw [hOO2]; simp, fun i hi => by rw [set_ne _ _ _ _ (by omega)]; exact pfr i hi, by omega, by omega⟩
      · have e : j = args.length := by omega
        subst e
        have hz1 : (tmD (putT body (names'.zip args))).length = 8 := by simp
        have hpr := pur_tmA (putT body (names'.zip args))
        rw [List.take_of_length_le (by simp; omega)] at po
        have hP : ∀ Y, Y = tmD (putT body (names'.zip args)) → ∀ n (m : Mem), PubAs n m (.agg Y) (.agg (tmD (((0 : Int), putT body (names'.zip args)) : Int × Tm).2)) := fun Y h n m => by subst h; exact hpr.pub
        generalize hYY : tmD (putT body (names'.zip args)) = Y at po hz1
        have hY : List.take 8 Y = Y := List.take_of_length_le (by omega)
        simp -dsimp [I, S, hj, hNL', hlen', p0, p1, pc, po, zTo, hz1, hY, set_ne]
        exact pcp (pub_resTi (r := (0, putT body (names'.zip args))) (hP Y hYY.symm _ _) rfl) fun j hj => by rw [set_ne _ _ _ _ (by omega)]; exact pfr j hj
    have b9 : (k == 9) = false := by simpa using k9
    have ho : ownS l k mod nm names vars subs = (12, Tm0) := by
      unfold ownS
      simp [k4, k6, k9, q1, q3]
    rw [ho]
    simp -dsimp [I, S, hi, b4, b6, b9, q2, q4, o0, o1, zTo]
    exact pcp (pub_resTi (r := (12, Tm0)) pub_zt rfl) fun j hj => by rw [set_ne _ _ _ _ (by omega)]; exact hfr j hj
  · subst q3
    obtain ⟨c, br, rfl⟩ : ∃ c br, subs = c :: br := by
      cases subs with
      | nil => simp at cn
      | cons c br => exact ⟨c, br, rfl⟩
    simp only [List.length_cons] at cn
    have hbl : br.length = names.length := by omega
    have hvl : vars.length = names.length := by omega
    obtain ⟨k', N', mod', nm', names', vars', types', subs'⟩ := c
    have hca := has (.mk k' N' mod' nm' names' vars' types' subs') (by simp)
    have hbc := fun i (h : i < br.length) => all_c _ (has br[i] (List.mem_cons_of_mem _ (List.getElem_mem h)))
    simp only [allTm, Bool.and_eq_true] at hca
    obtain ⟨kk', sm'⟩ := shapeTm_parts hca.1
    have hk7 : k' = 7 → ∃ v, subs' = [v] := fun e => by
      have cn' := kk'.cn
      simp only [cntK] at cn'
      exact List.length_eq_one_iff.1 (by omega)
    have ho : ownS l 12 mod nm names vars (.mk k' N' mod' nm' names' vars' types' subs' :: br) = if k' = 7 ∧ nm' ∈ names then (0, putT (br.getD (names.idxOf nm') Tm0) [(vars.getD (names.idxOf nm') [], subs'.headD Tm0)]) else (12, Tm0) := by
      unfold ownS
      simp [kindTmK, nameT, kidsT]
    rw [ho]
    simp only [tmD, tmsD_eq, sl1, List.map_cons] at hSLe
    have hBL : (br.map tmD).length = br.length := by simp
    have hBG : ∀ i (h : i < br.length), (br.map tmD)[i]? = some (tmD br[i]) := fun i h => by simp [h]
    generalize (names'.map fun s => [S s]) = NL' at hSLe
    generalize (vars'.map fun s => [S s]) = VL' at hSLe
    generalize types'.map tyD = YL' at hSLe
    generalize br.map tmD = BL at hBL hBG hSLe
    by_cases k7 : k' = 7
    case neg =>
      have b7 : (k' == 7) = false := by simpa using k7
      generalize subs'.map tmD = SL' at hSLe
      subst hSLe
      rw [if_neg (fun h => k7 h.1)]
      simp -dsimp [I, S, hi, o0, o1, zTo, set_ne, nn1, n1n]
      refine vloop_as (β := Nat) (fun i => [(0, .sl 10 (l.map dfD)), (3, .ptr n 0 0 0), (4, .ptr (n + 1) 0 0 0), (18, .ptr n2 0 0 0), (19, I i)]) (fun i M Nx => M = m2.set n2 ⟨8, [[I k', I N', S mod', S nm', .sl 1 NL', .sl 1 VL', .sl 7 YL', .sl 8 SL']], 0⟩ ∧ Nx = n2 + 1 ∧ i = 0) (fun i => 1 - i) 0 (by simp [I]) ⟨by simp [I, S], rfl, rfl⟩ ?_
      rintro j m3 n3 ⟨rfl, rfl, rfl⟩
      have hj : 0 < names.length := by omega
      simp -dsimp [I, S, hj, hNL, b7, o0, o1, zTo, set_ne, x0, x1, x2, x0.symm, x2.symm]
      exact pcp (pub_resTi (r := (12, Tm0)) pub_zt rfl) fun j hj => by rw [set_ne _ _ _ _ (by omega), set_ne _ _ _ _ (by omega)]; exact hfr j hj
    subst k7
    obtain ⟨v, rfl⟩ := hk7 rfl
    simp only [List.map_cons, List.map_nil] at hSLe
    have hv8 : (tmD v).length = 8 := by simp
    generalize hAA : tmD v = A at hSLe hv8
    have hA : List.take 8 A = A := List.take_of_length_le (by omega)
    subst hSLe
    simp -dsimp [I, S, hi, o0, o1, zTo, set_ne, nn1, n1n]
    refine vloop_as (β := Nat) (fun i => [(0, .sl 10 (l.map dfD)), (3, .ptr n 0 0 0), (4, .ptr (n + 1) 0 0 0), (18, .ptr n2 0 0 0), (19, I i)]) (fun i M Nx => M = m2.set n2 ⟨8, [[I 7, I N', S mod', S nm', .sl 1 NL', .sl 1 VL', .sl 7 YL', .sl 8 [A]]], 0⟩ ∧ Nx = n2 + 1 ∧ i ≤ names.length ∧ ∀ y ∈ names.take i, y ≠ nm') (fun i => names.length - i) 0 (by simp [I]) ⟨by simp [I, S], rfl, by omega, by simp⟩ ?_
    rintro j m3 n3 ⟨rfl, rfl, jle, hno⟩
    by_cases hj : (j : Int) < names.length
    · have hj' : j < names.length := by omega
      have wj : IntKind.i64.wrap ((j : Int) + 1) = (j : Int) + 1 := wrap_i64 (by omega) (by have := sm.ln; omega)
      have hjN : j < NL.length := by omega
      have hgn : NL[j] = [S names[j]] := get_opt (hNG j hj') hjN
      have hj2 : j < br.length := by omega
      have hj3 : j < vars.length := by omega
      have hjB : j < BL.length := by omega
      have hjV : j < VL.length := by omega
      have hgb : BL[j] = tmD br[j] := get_opt (hBG j hj2) hjB
      have hgv : VL[j] = [S vars[j]] := get_opt (hVG j hj3) hjV
      have hz : (tmD br[j]).length = 8 := by simp
      have hcp := cRPut (v := v) (x := vars[j]) (hbc j hj2)
      have hr8 : (tmD (putT br[j] [(vars[j], v)])).length = 8 := by simp
      have hpr := pur_tmA (putT br[j] [(vars[j], v)])
      have hP : ∀ Y, Y = tmD (putT br[j] [(vars[j], v)]) → ∀ n (m : Mem), PubAs n m (.agg Y) (.agg (tmD (((0 : Int), putT br[j] [(vars[j], v)]) : Int × Tm).2)) := fun Y h n m => by subst h; exact hpr.pub
      simp only [S] at hcp hgn hgv
      rw [hAA] at hcp
      generalize tmD br[j] = B at hgb hz hcp
      generalize hYY : tmD (putT br[j] [(vars[j], v)]) = Y at hcp hr8
      have hB : List.take 8 B = B := List.take_of_length_le (by omega)
      have hY : List.take 8 Y = Y := List.take_of_length_le (by omega)
      simp -dsimp [I, S, hj, hj', hNL, o0, o1, set_ne, x0, x1, x2, x0.symm, x2.symm]
      refine vdraw_tree [0, 1, 0, 7, 15, 0, 32, 127] (.rd 0 (.rd 1 (.rd 2 (.rd 3 (.rd 4 (.rd 5 (.rd 6 (.rd 7 (.fin))))))))) (by kernel_rfl) (by kernel_rfl) ?_
      by_cases e1 : names[j] = nm'
      · obtain ⟨hm1, hm2⟩ := idx_hit hj' hno e1
        rw [if_pos ⟨rfl, hm1⟩, hm2, show br.getD j Tm0 = br[j] by simp [hj2], show vars.getD j [] = vars[j] by simp [hj3]]
        simp only [List.headD_cons]
        simp -dsimp [I, S, hj, hj', hNL, hjN, hgn, e1, o0, o1, set_ne, nn1, n1n, x0, x1, x2, x0.symm, x2.symm]
        refine vdraw_tree [0, 1, 0, 4, 15, 31, 0, 64, 0, 448, 960, 0, 2048, 6144, 14336, 32767, 65535, 131071] (.rd 0 (.rd 1 (.rd 2 (.rd 3 (.rd 4 (.rd 5 (.rd 6 (.rd 7 (.rd 8 (.rd 9 (.rd 10 (.rd 11 (.rd 12 (.rd 13 (.rd 14 (.wr (.cons 15 (.wr (.cons 16 (.rd 17 (.fin)) (.nil))) (.nil)))))))))))))))))) (by kernel_rfl) (by kernel_rfl) ?_
        simp -dsimp [I, S, hj, hj', hj2, hj3, hVL, hBL, hjB, hjV, hgb, hgv, hz, hB, hv8, hA, wj, o0, o1, zTo, set_ne, nn1, n1n, x0, x1, x2, x0.symm, x2.symm]
        refine ⟨by omega, ?_⟩
        refine pcall hcp ?_
        refine ⟨fun _ _ _ => rfl, ?_⟩
        simp -dsimp [I, S, hr8, hY, o0, o1, zTo, set_ne, nn1, n1n, x0, x1, x2, x0.symm, x2.symm]
        exact pcp (pub_resTi (r := (0, putT br[j] [(vars[j], v)])) (hP Y hYY.symm _ _) rfl) fun j hj => by rw [set_ne _ _ _ _ (by omega), set_ne _ _ _ _ (by omega)]; exact hfr j hj
      · have b1 : (names[j] == nm') = false := by simpa using e1
        simp -dsimp [I, S, hj, hj', hNL, hjN, hgn, b1, o0, o1, zTo, wj, set_ne, nn1, n1n, x0, x1, x2, x0.symm, x2.symm]
        refine rnd (j + 1) (by omega) (by simp [I]) ⟨rfl, rfl, by omega, fun y hy => ?_⟩
        rw [List.take_succ_eq_append_getElem hj'] at hy
        rcases List.mem_append.1 hy with hy | hy
        · exact hno y hy
        · simp only [List.mem_singleton] at hy; rw [hy]; exact e1
    · have e : j = names.length := by omega
      subst e
      rw [List.take_length] at hno
      rw [if_neg (fun h => hno _ h.2 rfl)]
      simp -dsimp [I, S, hj, hNL, o0, o1, zTo, set_ne, x0, x1, x2, x0.symm, x2.symm]
      exact pcp (pub_resTi (r := (12, Tm0)) pub_zt rfl) fun j hj => by rw [set_ne _ _ _ _ (by omega), set_ne _ _ _ _ (by omega)]; exact hfr j hj
  · subst q1
    obtain ⟨c, s1, s2, rfl⟩ : ∃ c s1 s2, subs = [c, s1, s2] := by
      match subs, (show subs.length = 3 by omega) with
      | [c, s1, s2], _ => exact ⟨c, s1, s2, rfl⟩
    obtain ⟨k', N', mod', nm', names', vars', types', subs'⟩ := c
    have ho : ownS l 11 mod nm names vars [.mk k' N' mod' nm' names' vars' types' subs', s1, s2] = if k' = 2 then (0, if N' = 1 then s1 else s2) else (12, Tm0) := by unfold ownS; simp [kindTmK, numT]
    rw [ho]
    have h81 : (tmD s1).length = 8 := by simp
    have h82 : (tmD s2).length = 8 := by simp
    have hp1 := pur_tmA s1
    have hp2 := pur_tmA s2
    simp only [tmD, tmsD_eq, sl1, List.map_cons, List.map_nil] at hSLe
    subst hSLe
    have w2 : IntKind.i64.wrap 2 = 2 := wrap_i64 (by omega) (by omega)
    have w1 : IntKind.i64.wrap 1 = 1 := wrap_i64 (by omega) (by omega)
    have hP1 : ∀ Y, Y = tmD s1 → ∀ n (m : Mem), PubAs n m (.agg Y) (.agg (tmD (((0 : Int), s1) : Int × Tm).2)) := fun Y h n m => by subst h; exact hp1.pub
    have hP2 : ∀ Y, Y = tmD s2 → ∀ n (m : Mem), PubAs n m (.agg Y) (.agg (tmD (((0 : Int), s2) : Int × Tm).2)) := fun Y h n m => by subst h; exact hp2.pub
    generalize hY1 : tmD s1 = Y1 at h81 o0
    generalize hY2 : tmD s2 = Y2 at h82 o0
    have hYY1 : List.take 8 Y1 = Y1 := List.take_of_length_le (by omega)
    have hYY2 : List.take 8 Y2 = Y2 := List.take_of_length_le (by omega)
    by_cases k2 : k' = 2
    · subst k2
      rw [if_pos rfl]
      by_cases n1 : N' = 1
      · subst n1
        rw [if_pos rfl]
        simp -dsimp [I, S, hi, w1, w2, h81, hYY1, o0, o1, zTo, set_ne, nn1, n1n]
        exact pcp (pub_resTi (r := (0, s1)) (hP1 Y1 hY1.symm _ _) rfl) fun j hj => by rw [set_ne _ _ _ _ (by omega)]; exact hfr j hj
      · have b1 : (N' == 1) = false := by simpa using n1
        rw [if_neg n1]
        simp -dsimp [I, S, hi, w1, w2, b1, h82, hYY2, o0, o1, zTo, set_ne, nn1, n1n]
        exact pcp (pub_resTi (r := (0, s2)) (hP2 Y2 hY2.symm _ _) rfl) fun j hj => by rw [set_ne _ _ _ _ (by omega)]; exact hfr j hj
    · have b2 : (k' == 2) = false := by simpa using k2
      rw [if_neg k2]
      simp -dsimp [I, S, hi, b2, o0, o1, zTo, set_ne, nn1, n1n]
      exact pcp (pub_resTi (r := (12, Tm0)) pub_zt rfl) fun j hj => by rw [set_ne _ _ _ _ (by omega)]; exact hfr j hj
end Go.Proofs.Mv.App
