/- A part of the proofs: machine, contracts, laws. No condition of its own. -/
import Derived.Test.YtihbegkefjjhpaaGreatDoorP19
set_option linter.unusedSimpArgs false
set_option linter.unusedVariables false
set_option linter.unusedSectionVars false
open Go Go.Proofs Go.Proofs.Mv.V
set_option maxRecDepth 10000
namespace Go.Proofs.Mv.App
def ownP (k : Int) (names vars : Nms) (x : List UInt8) (i : Nat) : Bool := (decide (k = 12) && decide (0 < i) && decide (vars.getD (i - 1) [] = x)) || (decide (k = 8) && names.any fun s => decide (s = x))
def putI (k : Int) (names vars : Nms) (x : List UInt8) (v : Tm) (subs : List Tm) (i : Nat) : Tm := if ownP k names vars x i then subs.getD i Tm0 else putT (subs.getD i Tm0) [(x, v)]
theorem putT1_eq {k N : Int} {mod nm : List UInt8} {names vars : Nms} {types : List Ty} {subs : List Tm} {x : List UInt8} {v : Tm} (h3 : k = 3 → subs = [] ∧ nm ≠ x) (hv : k = 12 → subs.length = vars.length + 1) :
    putT (.mk k N mod nm names vars types subs) [(x, v)] = .mk k N mod nm names vars types ((List.range subs.length).map (putI k names vars x v subs)) := by
  by_cases k3 : k = 3
  · obtain ⟨h1, h2⟩ := h3 k3
    subst h1
    have : ¬ x = nm := fun e => h2 e.symm
    simp [putT, k3, this]
  rw [putT_eq k3 hv]
  congr 1
  apply List.map_congr_left
  intro i hi
  have hw : ∀ l : Nms, wout [(x, v)] l = if x ∈ l then [] else [(x, v)] := fun l => by
    simp only [wout, List.filter_cons, List.filter_nil]
    by_cases h : x ∈ l <;> simp [h]
  unfold putI ownP inP
  by_cases k8 : k = 8
  · have k12 : ¬ k = 12 := by omega
    have ha : (names.any fun s => decide (s = x)) = decide (x ∈ names) := by
      rw [Bool.eq_iff_iff]; simp
    rw [if_pos k8, hw, ha]
    by_cases h : x ∈ names
    · simp [k8, h, putT_nil]
    · simp [k8, h]
  · by_cases k12 : k = 12
    · by_cases h0 : 0 < i
      · rw [if_neg k8, if_pos ⟨k12, h0⟩, hw]
        by_cases h : vars.getD (i - 1) [] = x
        · have h1 : x ∈ [vars.getD (i - 1) []] := by rw [h]; simp
          have h2 : decide (vars.getD (i - 1) [] = x) = true := by simpa using h
          rw [if_pos h1, h2]
          simp [k12, h0, putT_nil]
        · have h' : ¬ x = vars.getD (i - 1) [] := fun e => h e.symm
          have h1 : ¬ x ∈ [vars.getD (i - 1) []] := by simpa using h'
          rw [if_neg h1]
          have h2 : decide (vars.getD (i - 1) [] = x) = false := by simpa using h
          rw [h2]
          simp [k12, h0]
      · rw [if_neg k8, if_neg (fun h => h0 h.2)]
        simp [k12, h0]
    · rw [if_neg k8, if_neg (fun h => k12 h.1)]
      simp [k8, k12]
structure PuL [GI] (k N : Int) (mod nm : List UInt8) (NL VL YL : List (List D)) (V : List D) (R : Nat → Tm) (len : Nat) (m : Mem) (n : Nat) (b : Nat × D) (m2 : Mem) (n2 : Nat) : Prop where
  o0 : m2 n = some ⟨8, [[I k, I N, S mod, S nm, .sl 1 NL, .sl 1 VL, .sl 7 YL, b.2]], 0⟩
  o1 : m2 (n + 1) = some ⟨8, [V], 0⟩
  o2 : m2 (n + 1 + 1) = some zTo
  fr : ∀ j, j < n → m2 j = m j
  nn : n + 3 ≤ n2
  le : b.1 ≤ len
  ls : Lst m2 8 (((List.range b.1).map R).map tmD) b.2
  kf : ∀ j, kof b.2 = some j → n + 3 ≤ j ∧ j < n2
structure PuJ (k : Int) (names : Nms) (x : List UInt8) (ow0 : Bool) (m2 : Mem) (n2 : Nat) (b : Nat × Bool) (m3 : Mem) (n3 : Nat) : Prop where
  mm : m3 = m2
  nn : n3 = n2
  le : b.1 ≤ names.length
  ow : b.2 = (ow0 || (decide (k = 8) && (names.take b.1).any fun s => decide (s = x)))
  z : k ≠ 8 → b.1 = 0
set_option maxHeartbeats 8000000 in
theorem cRPut {v : Tm} {x : List UInt8} {t : Tm} (ht : TmC t) : Pc Tryz.prog 50 [.agg (tmD t), S x, .agg (tmD v)] (.agg (tmD (putT t [(x, v)]))) := by
  induction ht with
  | mk k N mod nm names vars types subs h3 h12 ln lv ly lss ny hs ih =>
  refine pc_pub (fun m n => ?_)
  have nn1 : n ≠ n + 1 := by omega
  have n1n : n + 1 ≠ n := by omega
  have nn2 : n ≠ n + 1 + 1 := by omega
  have n2n : n + 1 + 1 ≠ n := by omega
  have n12 : n + 1 ≠ n + 1 + 1 := by omega
  have n21 : n + 1 + 1 ≠ n + 1 := by omega
  have hv8 : (tmD v).length = 8 := by simp
  have hpv := pur_tmA v
  have ih' : ∀ i (h : i < subs.length), Pc Tryz.prog 50 [.agg (tmD subs[i]), S x, .agg (tmD v)] (.agg (tmD (putT subs[i] [(x, v)]))) := fun i h => ih _ (List.getElem_mem h)
  by_cases hk3 : k = 3 ∧ nm = x
  · obtain ⟨rfl, rfl⟩ := hk3
    have hr : putT (.mk 3 N mod nm names vars types subs) [(nm, v)] = v := by simp [putT]
    rw [hr]
    generalize tmD v = V at hv8 hpv ⊢
    have hV : List.take 8 V = V := List.take_of_length_le (by omega)
    simp only [tmD, tmsD_eq, sl1]
    refine acalls_vcC [0, 1, 2, 3, 5, 6, 7, 8, 9, 10, 19, 27, 56, 69] Tryz.func50 Tryz.ntmps50 (by kernel_rfl) rfl rfl (by simp) ?_
    simp -dsimp [I, S, hv8, hV, set_ne, nn1, n1n, nn2, n2n, n12, n21]
    exact pcp hpv.pub fun j hj => by simp [set_ne, show j ≠ n by omega, show j ≠ n + 1 by omega, show j ≠ n + 1 + 1 by omega]
  rw [putT1_eq (fun e => ⟨h3 e, fun e2 => hk3 ⟨e, e2⟩⟩) h12]
  have hNL : (names.map fun s => [S s]).length = names.length := by simp
  have hNG : ∀ i (h : i < names.length), (names.map fun s => [S s])[i]? = some [S names[i]] := fun i h => by simp [h]
  have hVL : (vars.map fun s => [S s]).length = vars.length := by simp
  have hVG : ∀ i (h : i < vars.length), (vars.map fun s => [S s])[i]? = some [S vars[i]] := fun i h => by simp [h]
  have hSL : (subs.map tmD).length = subs.length := by simp
  have hSG : ∀ i (h : i < subs.length), (subs.map tmD)[i]? = some (tmD subs[i]) := fun i h => by simp [h]
  have hpy : ∀ e ∈ types.map tyD, ∀ d ∈ e, Pur d := fun e he d hd => by
    obtain ⟨y, _, rfl⟩ := List.mem_map.1 he
    exact pur_ty y d hd
  have hpn : ∀ e ∈ names.map fun s => [S s], ∀ d ∈ e, Pur d := pur_ss
  have hpvv : ∀ e ∈ vars.map fun s => [S s], ∀ d ∈ e, Pur d := pur_ss
  simp only [tmD, tmsD_eq, sl1]
  generalize (names.map fun s => [S s]) = NL at hNL hNG hpn ⊢
  generalize (vars.map fun s => [S s]) = VL at hVL hVG hpvv ⊢
  generalize types.map tyD = YL at hpy ⊢
  generalize subs.map tmD = SL at hSL hSG ⊢
  generalize hVV : tmD v = V at hv8 ih' ⊢
  have hV : List.take 8 V = V := List.take_of_length_le (by omega)
  have hnb : (k == 3) = true → (nm == x) = false := fun h => by
    have h1 : k = 3 := by simpa using h
    have : ¬ nm = x := fun e => hk3 ⟨h1, e⟩
    simpa using this
  have hstart : ∀ K : Prop, (k = 3 → (nm == x) = false → K) → ((k == 3) = false → K) → K := fun K h1 h2 => by
    cases hb : (k == 3) with
    | true => exact h1 (by simpa using hb) (hnb hb)
    | false => exact h2 hb
  have hRl : ∀ i (h : i < subs.length), ownP k names vars x i = true → putI k names vars x v subs i = subs[i] := fun i h ho => by unfold putI; rw [ho]; simp [h]
  have hRr : ∀ i (h : i < subs.length), ownP k names vars x i = false → putI k names vars x v subs i = putT subs[i] [(x, v)] := fun i h ho => by unfold putI; rw [ho]; simp [h]
  generalize hRR : putI k names vars x v subs = R at hRl hRr ⊢
  have hpR : ∀ i, ∀ d ∈ tmD (R i), Pur d := fun i => pur_tm _
  refine acalls_vcC [0, 1, 2, 3, 5, 6, 7, 8, 9, 10, 19, 27, 56, 69] Tryz.func50 Tryz.ntmps50 (by kernel_rfl) rfl rfl (by simp) ?_
  apply hstart
  all_goals intro hq
  · intro hq2
    have hq' : (k == 3) = true := by simpa using hq
    simp -dsimp [I, S, hq', hq2, hv8, hV, set_ne, nn1, n1n, nn2, n2n, n12, n21]
    have hs0 := h3 hq
    subst hs0
    refine vloop_as (β := Nat × D) (fun b => [(1, S x), (3, .ptr n 0 0 0), (5, .ptr (n + 1) 0 0 0), (6, .ptr (n + 1 + 1) 0 0 0), (7, .sl 8 SL), (8, I b.1)]) (PuL k N mod nm NL VL YL V R 0 m n) (fun b => 0 - b.1) (0, .v (.slice none 0 0)) (by simp [I, S])
      ⟨by simp [set_ne, I, S, nn1, nn2], by simp [set_ne, n12, n1n], by simp [zTo, set_ne, n2n], fun j hj => by simp [set_ne, show j ≠ n by omega, show j ≠ n + 1 by omega, show j ≠ n + 1 + 1 by omega], by omega, by omega, by simp; exact .nil, by simp [kof]⟩ ?_
    rintro ⟨i, d⟩ m2 n2 ⟨o0, o1, o2, hfr, hnn, hle, hls, hkf⟩
    simp only at o0 hle hls hkf
    have e : i = 0 := by simpa using hle
    subst e
    simp -dsimp [I, S, hSL, o0, o1, o2, zTo]
    simp only [List.map_map] at hls
    refine pcp ?_ fun j hj => by rw [set_ne _ _ _ _ (by omega)]; exact hfr j hj
    refine .agg (.cons (pur_I _).pub (.cons (pur_I _).pub (.cons (pur_S _).pub (.cons (pur_S _).pub (.cons (Pur.sl hpn).pub (.cons (Pur.sl hpvv).pub (.cons (Pur.sl hpy).pub (.cons ?_ .nil))))))))
    refine .lstP (hls.frame fun j hj => set_ne _ _ _ _ (by have := hkf j hj; omega)) (fun j hj => by have := hkf j hj; omega) ?_
    intro e he d hd
    simp at he
  · simp -dsimp [I, S, hq, hv8, hV, set_ne, nn1, n1n, nn2, n2n, n12, n21]
    clear hstart hnb hq
    refine vloop_as (β := Nat × D) (fun b => [(1, S x), (3, .ptr n 0 0 0), (5, .ptr (n + 1) 0 0 0), (6, .ptr (n + 1 + 1) 0 0 0), (7, .sl 8 SL), (8, I b.1)]) (PuL k N mod nm NL VL YL V R subs.length m n) (fun b => subs.length - b.1) (0, .v (.slice none 0 0)) (by simp [I, S])
      ⟨by simp [set_ne, I, S, nn1, nn2], by simp [set_ne, n12, n1n], by simp [zTo, set_ne, n2n], fun j hj => by simp [set_ne, show j ≠ n by omega, show j ≠ n + 1 by omega, show j ≠ n + 1 + 1 by omega], by omega, by omega, by simp; exact .nil, by simp [kof]⟩ ?_
    rintro ⟨i, d⟩ m2 n2 ⟨o0, o1, o2, hfr, hnn, hle, hls, hkf⟩
    simp only at o0 hle hls hkf
    by_cases hi : (i : Int) < subs.length
    · have hi' : i < subs.length := by omega
      have hiS : i < SL.length := by omega
      have wi : IntKind.i64.wrap ((i : Int) + 1) = (i : Int) + 1 := wrap_i64 (by omega) (by omega)
      have wm : IntKind.i64.wrap ((i : Int) - 1) = (i : Int) - 1 := wrap_i64 (by omega) (by omega)
      have hgs : SL[i] = tmD subs[i] := get_opt (hSG i hi') hiS
      have hcase : (k = 12 ∧ 0 < i ∧ ∃ (h : i - 1 < vars.length), decide (vars.getD (i - 1) [] = x) = (vars[i - 1] == x)) ∨ (k = 12 ∧ i = 0) ∨ k ≠ 12 := by
        by_cases k12 : k = 12
        · by_cases h0 : 0 < i
          · have hv := h12 k12
            have h1 : i - 1 < vars.length := by omega
            refine .inl ⟨k12, h0, h1, ?_⟩
            rw [Bool.eq_iff_iff]; simp [h1]
          · exact .inr (.inl ⟨k12, by omega⟩)
        · exact .inr (.inr k12)
      obtain ⟨ow0, how0⟩ : ∃ b, b = (decide (k = 12) && decide (0 < i) && decide (vars.getD (i - 1) [] = x)) := ⟨_, rfl⟩
      have hpR' := hpR i
      have hst : ∃ b12, b12 = (k == 12) := ⟨_, rfl⟩
      rcases hcase with ⟨k12, h0, h1, h2⟩ | ⟨k12, h0⟩ | k12
      case' inl =>
        have h0' : (0 : Int) < (i : Int) := by omega
        have b12 : (k == 12) = true := by simpa using k12
        have hiV : i - 1 < VL.length := by omega
        have hgv : VL[i - 1] = [S vars[i - 1]] := get_opt (hVG (i - 1) h1) hiV
        have e1 : ((i : Int) - 1).toNat = i - 1 := by omega
        have hon : (vars[i - 1] == x) = ow0 := by rw [how0, ← h2]; simp [h0, k12]
        have hw0 : ow0 = ow0 := rfl
        simp -dsimp [I, S, hi, hSL, o0, o1, o2, b12, h0, h0', wm, e1, hiV, hgv, hon, set_ne, nn1, n1n, nn2, n2n, n12, n21]
        refine ⟨⟨by omega, by omega⟩, ?_⟩
      case' inr.inl =>
        have h0' : ¬ (0 : Int) < (i : Int) := by omega
        have hn0 : ¬ 0 < i := by omega
        have b12 : (k == 12) = true := by simpa using k12
        have hw0 : ow0 = false := by rw [how0]; simp [h0]
        simp -dsimp [I, S, hi, hSL, o0, o1, o2, b12, h0', hn0, set_ne, nn1, n1n, nn2, n2n, n12, n21]
      case' inr.inr =>
        have b12 : (k == 12) = false := by simpa using k12
        have hw0 : ow0 = false := by rw [how0]; simp [k12]
        simp -dsimp [I, S, hi, hSL, o0, o1, o2, b12, set_ne, nn1, n1n, nn2, n2n, n12, n21]
      all_goals
        refine vloop_as (β := Nat × Bool) (fun b => [(1, S x), (3, .ptr n 0 0 0), (5, .ptr (n + 1) 0 0 0), (6, .ptr (n + 1 + 1) 0 0 0), (7, .sl 8 SL), (8, I i), (9, Tt b.2), (10, I b.1)]) (PuJ k names x ow0 m2 n2) (fun b => names.length - b.1) (0, ow0) (by simp [I, S, Tt, hw0])
          ⟨rfl, rfl, by simp, by simp, by simp⟩ ?_
        clear hw0 hst
        rintro ⟨q, ow⟩ m3 n3 ⟨rfl, rfl, qle, how, hqz⟩
        simp only at qle how hqz
        by_cases hgo : q < names.length ∧ k = 8
        · obtain ⟨hq, k8⟩ := hgo
          have hq' : (q : Int) < names.length := by omega
          have b8 : (k == 8) = true := by simpa using k8
          have wq : IntKind.i64.wrap ((q : Int) + 1) = (q : Int) + 1 := wrap_i64 (by omega) (by omega)
          have hqN : q < NL.length := by omega
          have hgn : NL[q] = [S names[q]] := get_opt (hNG q hq) hqN
          have hnx : ∀ b, b = (ow || decide (names[q] = x)) → b = (ow0 || (decide (k = 8) && (names.take (q + 1)).any fun s => decide (s = x))) := fun b hb => by
            rw [hb, how, List.take_succ_eq_append_getElem hq, List.any_append]
            simp [k8, Bool.or_assoc]
          cases ow with
          | true =>
            simp -dsimp [I, S, Tt, o0, hNL, hq, hq', b8, wq, set_ne]
            exact rnd (q + 1, true) (by simp; omega) (by simp [I, S, Tt]) ⟨rfl, rfl, by simp; omega, hnx _ (by simp), fun h => absurd k8 h⟩
          | false =>
            simp -dsimp [I, S, Tt, o0, hNL, hq, hq', hqN, hgn, b8, wq, set_ne]
            exact rnd (q + 1, names[q] == x) (by simp; omega) (by simp [I, S, Tt]) ⟨rfl, rfl, by simp; omega, hnx _ (by rw [Bool.eq_iff_iff]; simp), fun h => absurd k8 h⟩
        · have hfin : ow = ownP k names vars x i := by
            rw [how, how0]
            unfold ownP
            by_cases k8 : k = 8
            · have : q = names.length := by have : ¬ q < names.length := fun h => hgo ⟨h, k8⟩; omega
              subst this
              rw [List.take_length]
            · simp [k8]
          have hexit : (¬ (q : Int) < names.length) ∨ ((q : Int) < names.length ∧ (k == 8) = false) := by
            by_cases h : q < names.length
            · exact .inr ⟨by omega, by have : ¬ k = 8 := fun e => hgo ⟨h, e⟩; simpa using this⟩
            · exact .inl (by omega)
          have hz : (tmD subs[i]).length = 8 := by simp
          have hrg : (((List.range (i + 1)).map R).map tmD) = (((List.range i).map R).map tmD) ++ [tmD (R i)] := by
            rw [List.range_succ, List.map_append, List.map_append, List.map_cons, List.map_nil, List.map_cons, List.map_nil]
          have hRLl : (((List.range i).map R).map tmD).length = i := by simp
          generalize (((List.range i).map R).map tmD) = RL at hls hrg hRLl
          have hcl := ih' i hi'
          have hr8 : (tmD (R i)).length = 8 := by simp
          cases ow with
          | true =>
            have hre := hRl i hi' hfin.symm
            rw [hre] at hrg hr8
            generalize tmD subs[i] = X at hgs hz hrg hr8
            have hX : List.take 8 X = X := List.take_of_length_le (by omega)
            rcases hexit with hq' | ⟨hq', b8⟩
            case' inl => simp -dsimp [I, S, Tt, o0, hNL, hq', set_ne]
            case' inr => simp -dsimp [I, S, Tt, o0, hNL, hq', b8, set_ne]
            all_goals
              refine vdraw_tree [0, 1, 0, 0, 12, 28, 60, 127, 255, 511] (.rd 0 (.rd 1 (.rd 2 (.rd 3 (.rd 4 (.rd 5 (.wr (.cons 6 (.wr (.cons 7 (.rd 8 (.wr (.cons 9 (.fin) (.nil)))) (.nil))) (.nil))))))))) (by kernel_rfl) (by kernel_rfl) ?_
              simp -dsimp [I, S, hiS, hgs, hz, hX, o0, o1, o2, set_ne]
              refine ⟨by rw [set_ne _ _ _ _ (by omega)]; exact o0, ?_⟩
              refine b4_append (es := RL) ?_ ?_ trivial trivial (by omega) (by simp [hRLl]; omega) ?_
              · exact hls.frame fun j hj => by have := hkf j hj; simp [set_ne, show j ≠ n3 by omega]
              · exact fun j hj => by have := hkf j hj; omega
              intro da ma na a1 a2 a3 a4
              have hma : ∀ j, j < n + 3 → ma j = m3 j := fun j hj => by
                rw [a4 j (by omega) (fun e => by have := hkf j e; omega)]
                simp [set_ne, show j ≠ n3 by omega]
              have ka : ∀ j, kof da = some j → n + 3 ≤ j ∧ j < na := fun j hj => by
                have := a3 j hj
                rcases this.2 with e | e
                · exact ⟨(hkf j e).1, this.1⟩
                · omega
              refine ⟨fun p hp _ => ?_, ?_⟩
              · simp only [List.mem_cons, List.not_mem_nil, or_false] at hp
                subst hp
                exact a4 _ (by dsimp only; omega) (fun e => by have := hkf _ e; dsimp only at this; omega)
              have o0a : ma n = _ := (hma n (by omega)).trans o0
              simp -dsimp [I, S, o0a, wi, (okD_lst a1).1, (okD_lst a1).2]
              refine rnd (i + 1, da) (by simp; omega) (by simp [I, S]) ⟨?_, ?_, ?_, ?_, ?_, ?_, ?_, ?_⟩
              · simp [I, S]
              · rw [set_ne _ _ _ _ (by omega), hma (n + 1) (by omega)]; exact o1
              · rw [set_ne _ _ _ _ (by omega), hma (n + 1 + 1) (by omega)]; exact o2
              · intro j hj; rw [set_ne _ _ _ _ (by omega), hma j (by omega)]; exact hfr j hj
              · omega
              · simp; omega
              · simp only; rw [hrg]; exact a1.frame fun j hj => set_ne _ _ _ _ (by have := ka j hj; omega)
              · exact ka
          | false =>
            have hre := hRr i hi' hfin.symm
            rw [← hre] at hcl
            generalize tmD (R i) = Y at hcl hrg hr8
            have hY : List.take 8 Y = Y := List.take_of_length_le (by omega)
            generalize tmD subs[i] = X at hgs hz hcl
            have hX : List.take 8 X = X := List.take_of_length_le (by omega)
            rcases hexit with hq' | ⟨hq', b8⟩
            case' inl => simp -dsimp [I, S, Tt, o0, hNL, hq', set_ne]
            case' inr => simp -dsimp [I, S, Tt, o0, hNL, hq', b8, set_ne]
            all_goals
              refine vdraw_tree [0, 1, 0, 0, 12, 28, 0, 0, 252, 508, 1023, 2047, 4095] (.rd 0 (.rd 1 (.rd 2 (.rd 3 (.rd 4 (.rd 5 (.rd 6 (.rd 7 (.wr (.cons 8 (.wr (.cons 9 (.wr (.cons 10 (.rd 11 (.wr (.cons 12 (.fin) (.nil)))) (.nil))) (.nil))) (.nil))))))))))) (by kernel_rfl) (by kernel_rfl) ?_
              simp -dsimp [I, S, hiS, hgs, hz, hX, hv8, hV, o0, o1, o2, set_ne]
              refine pcall hcl ?_
              refine ⟨fun _ _ _ => rfl, ?_⟩
              simp -dsimp [I, S, hr8, hY, o0, o1, o2, set_ne]
              refine ⟨by rw [set_ne _ _ _ _ (by omega)]; exact o0, ?_⟩
              refine b4_append (es := RL) ?_ ?_ trivial trivial (by omega) (by simp [hRLl]; omega) ?_
              · exact hls.frame fun j hj => by have := hkf j hj; simp [set_ne, show j ≠ n3 by omega]
              · exact fun j hj => by have := hkf j hj; omega
              intro da ma na a1 a2 a3 a4
              have hma : ∀ j, j < n + 3 → ma j = m3 j := fun j hj => by
                rw [a4 j (by omega) (fun e => by have := hkf j e; omega)]
                simp [set_ne, show j ≠ n3 by omega]
              have ka : ∀ j, kof da = some j → n + 3 ≤ j ∧ j < na := fun j hj => by
                have := a3 j hj
                rcases this.2 with e | e
                · exact ⟨(hkf j e).1, this.1⟩
                · omega
              refine ⟨fun p hp _ => ?_, ?_⟩
              · simp only [List.mem_cons, List.not_mem_nil, or_false] at hp
                rcases hp with rfl | rfl <;> exact a4 _ (by dsimp only; omega) (fun e => by have := hkf _ e; dsimp only at this; omega)
              have o0a : ma n = _ := (hma n (by omega)).trans o0
              simp -dsimp [I, S, o0a, wi, (okD_lst a1).1, (okD_lst a1).2]
              refine rnd (i + 1, da) (by simp; omega) (by simp [I, S]) ⟨?_, ?_, ?_, ?_, ?_, ?_, ?_, ?_⟩
              · simp [I, S]
              · rw [set_ne _ _ _ _ (by omega), hma (n + 1) (by omega)]; exact o1
              · rw [set_ne _ _ _ _ (by omega), hma (n + 1 + 1) (by omega)]; exact o2
              · intro j hj; rw [set_ne _ _ _ _ (by omega), hma j (by omega)]; exact hfr j hj
              · omega
              · simp; omega
              · simp only; rw [hrg]; exact a1.frame fun j hj => set_ne _ _ _ _ (by have := ka j hj; omega)
              · exact ka
    · have e : i = subs.length := by omega
      subst e
      simp -dsimp [I, S, hi, hSL, o0, o1, o2, zTo]
      simp only [List.map_map] at hls
      refine pcp ?_ fun j hj => by rw [set_ne _ _ _ _ (by omega)]; exact hfr j hj
      refine .agg (.cons (pur_I _).pub (.cons (pur_I _).pub (.cons (pur_S _).pub (.cons (pur_S _).pub (.cons (Pur.sl hpn).pub (.cons (Pur.sl hpvv).pub (.cons (Pur.sl hpy).pub (.cons ?_ .nil))))))))
      refine .lstP (hls.frame fun j hj => set_ne _ _ _ _ (by have := hkf j hj; omega)) (fun j hj => by have := hkf j hj; omega) ?_
      intro e he d hd
      obtain ⟨i, _, rfl⟩ := List.mem_map.1 he
      exact pur_tm _ d hd
end Go.Proofs.Mv.App
