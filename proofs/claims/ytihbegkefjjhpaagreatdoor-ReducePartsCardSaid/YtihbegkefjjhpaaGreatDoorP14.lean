/- A part of the proofs: machine, contracts, laws. No condition of its own. -/
import Derived.Test.YtihbegkefjjhpaaGreatDoorP00
import Derived.Test.YtihbegkefjjhpaaGreatDoorP12
import Derived.Test.YtihbegkefjjhpaaGreatDoorP13
import Derived.Test.YtihbegkefjjhpaaGreatDoorP06
import Derived.Test.YtihbegkefjjhpaaGreatDoorP07
import Derived.Test.YtihbegkefjjhpaaGreatDoorMvP2
set_option linter.unusedSimpArgs false
set_option linter.unusedVariables false
set_option linter.unusedSectionVars false
open Go Go.Proofs Go.Proofs.Mv.V
set_option maxRecDepth 10000
namespace Go.Proofs.Mv.App
def encS (s : List UInt8) : List D := [S s]
theorem cIdxTyS {l : List (Ty)} {q : Ty → Bool} {fp : FuncId} {cs : List D} (hcs : List.length cs ≤ 3) (hp : ∀ x ∈ l, Pc Tryz.prog fp (.agg (tyD x) :: cs) (Tt (q x))) (hlen : l.length ≤ 9223372036854775807) :
    Pc Tryz.prog 159 [.sl 7 (l.map tyD), .func (.func fp) [] cs] (I (findI q l)) := by
  refine pc_of (pur_I _) (fun m n => ?_)
  have hL2 : (l.map tyD).length = l.length := by simp
  have hG2 : ∀ i (h : i < l.length), (l.map tyD)[i]? = some (tyD l[i]) := fun i h => by simp [h]
  generalize l.map tyD = EL at hL2 hG2
  refine acalls_vc [0, 1, 4, 5, 7, 8, 9, 16] Tryz.func159 Tryz.ntmps159 (by kernel_rfl) rfl rfl (by simp) ?_
  simp -dsimp [hL2, I]
  refine vloop_as (β := Nat) (fun i => [(0, .sl 7 EL), (1, .func (.func fp) [] cs), (7, I l.length), (8, I i)]) (fun i m2 n2 => m2 = m ∧ n2 = n ∧ i ≤ l.length ∧ ∀ x ∈ l.take i, q x = false) (fun i => l.length - i) 0 (by simp [I]) ⟨rfl, rfl, by omega, by simp⟩ ?_
  rintro i m2 n2 ⟨rfl, rfl, le, hno⟩
  by_cases hi : (i : Int) < l.length
  · have hi' : i < l.length := by omega
    have wi : IntKind.i64.wrap ((i : Int) + 1) = (i : Int) + 1 := wrap_i64 (by omega) (by omega)
    have hiN : i < EL.length := by omega
    have hgi : EL[i] = tyD l[i] := get_opt (hG2 i hi') hiN
    have hz : (tyD l[i]).length = 7 := by simp
    have hc := hp l[i] (List.getElem_mem hi')
    generalize tyD l[i] = XX at hgi hz hc
    have htz : List.take 7 XX = XX := List.take_of_length_le (by omega)
    simp -dsimp [I, Tt, hi, hi', hiN, hgi, hz, htz]
    refine pcall hc ?_
    cases e : q l[i] with
    | true =>
      simp -dsimp [I, Tt]
      exact pcq' (by rw [findI_hit hi' e hno])
    | false =>
      simp -dsimp [I, Tt, wi]
      refine rnd (i + 1) (by omega) (by simp [I]) ⟨rfl, rfl, by omega, fun x hx => ?_⟩
      rw [List.take_succ_eq_append_getElem hi'] at hx
      rcases List.mem_append.1 hx with hx | hx
      · exact hno x hx
      · simp at hx; rw [hx]; exact e
  · have : i = l.length := by omega
    subst this
    rw [List.take_length] at hno
    simp -dsimp [I, Tt, hi]
    exact pcq' (by rw [findI_no hno])
theorem cHasTyS {l : List (Ty)} {q : Ty → Bool} {fp : FuncId} {cs : List D} (hcs : List.length cs ≤ 3) (hp : ∀ x ∈ l, Pc Tryz.prog fp (.agg (tyD x) :: cs) (Tt (q x))) (hlen : l.length ≤ 9223372036854775807) :
    Pc Tryz.prog 119 [.sl 7 (l.map tyD), .func (.func fp) [] cs] (Tt (l.any q)) := by
  refine pc_of (pur_T _) (fun m n => ?_)
  have hc := cIdxTyS hcs hp hlen
  generalize l.map tyD = EL at hc
  refine acalls_vc [0, 1, 4] Tryz.func119 Tryz.ntmps119 (by kernel_rfl) rfl rfl (by simp) ?_
  simp -dsimp
  refine pcall hc ?_
  have h := findI_any q l
  cases e : l.any q with
  | true =>
    have : 0 ≤ findI q l := h.2 e
    simp -dsimp [I, Tt, this]
    exact pcq' rfl
  | false =>
    have : ¬ 0 ≤ findI q l := fun h' => by rw [h.1 h'] at e; cases e
    simp -dsimp [I, Tt, this]
    exact pcq' rfl
theorem cIdxStrS {l : List (List UInt8)} {q : List UInt8 → Bool} {fp : FuncId} {cs : List D} (hcs : List.length cs ≤ 3) (hp : ∀ x ∈ l, Pc Tryz.prog fp (S x :: cs) (Tt (q x))) (hlen : l.length ≤ 9223372036854775807) :
    Pc Tryz.prog 161 [.sl 1 (l.map encS), .func (.func fp) [] cs] (I (findI q l)) := by
  refine pc_of (pur_I _) (fun m n => ?_)
  have hL2 : (l.map encS).length = l.length := by simp
  have hG2 : ∀ i (h : i < l.length), (l.map encS)[i]? = some (encS l[i]) := fun i h => by simp [h]
  generalize l.map encS = EL at hL2 hG2
  refine acalls_vc [0, 1, 4, 5, 7, 8, 9, 16] Tryz.func161 Tryz.ntmps161 (by kernel_rfl) rfl rfl (by simp) ?_
  simp -dsimp [hL2, I]
  refine vloop_as (β := Nat) (fun i => [(0, .sl 1 EL), (1, .func (.func fp) [] cs), (7, I l.length), (8, I i)]) (fun i m2 n2 => m2 = m ∧ n2 = n ∧ i ≤ l.length ∧ ∀ x ∈ l.take i, q x = false) (fun i => l.length - i) 0 (by simp [I]) ⟨rfl, rfl, by omega, by simp⟩ ?_
  rintro i m2 n2 ⟨rfl, rfl, le, hno⟩
  by_cases hi : (i : Int) < l.length
  · have hi' : i < l.length := by omega
    have wi : IntKind.i64.wrap ((i : Int) + 1) = (i : Int) + 1 := wrap_i64 (by omega) (by omega)
    have hiN : i < EL.length := by omega
    have hgi : EL[i] = encS l[i] := get_opt (hG2 i hi') hiN
    have hc := hp l[i] (List.getElem_mem hi')
    simp -dsimp [I, Tt, hi, hi', hiN, hgi, S, encS]
    refine pcall hc ?_
    cases e : q l[i] with
    | true =>
      simp -dsimp [I, Tt]
      exact pcq' (by rw [findI_hit hi' e hno])
    | false =>
      simp -dsimp [I, Tt, wi]
      refine rnd (i + 1) (by omega) (by simp [I]) ⟨rfl, rfl, by omega, fun x hx => ?_⟩
      rw [List.take_succ_eq_append_getElem hi'] at hx
      rcases List.mem_append.1 hx with hx | hx
      · exact hno x hx
      · simp at hx; rw [hx]; exact e
  · have : i = l.length := by omega
    subst this
    rw [List.take_length] at hno
    simp -dsimp [I, Tt, hi]
    exact pcq' (by rw [findI_no hno])
theorem cHasStrS {l : List (List UInt8)} {q : List UInt8 → Bool} {fp : FuncId} {cs : List D} (hcs : List.length cs ≤ 3) (hp : ∀ x ∈ l, Pc Tryz.prog fp (S x :: cs) (Tt (q x))) (hlen : l.length ≤ 9223372036854775807) :
    Pc Tryz.prog 122 [.sl 1 (l.map encS), .func (.func fp) [] cs] (Tt (l.any q)) := by
  refine pc_of (pur_T _) (fun m n => ?_)
  have hc := cIdxStrS hcs hp hlen
  generalize l.map encS = EL at hc
  refine acalls_vc [0, 1, 4] Tryz.func122 Tryz.ntmps122 (by kernel_rfl) rfl rfl (by simp) ?_
  simp -dsimp
  refine pcall hc ?_
  have h := findI_any q l
  cases e : l.any q with
  | true =>
    have : 0 ≤ findI q l := h.2 e
    simp -dsimp [I, Tt, this]
    exact pcq' rfl
  | false =>
    have : ¬ 0 ≤ findI q l := fun h' => by rw [h.1 h'] at e; cases e
    simp -dsimp [I, Tt, this]
    exact pcq' rfl
theorem cShape1 {t : Ty} (ht : TyW t) : Pc Tryz.prog 120 [.agg (tyD t)] (Tt (!mayT t)) := by
  refine pc_of (pur_T _) (fun m n => ?_)
  have hc : Pc Tryz.prog 121 [.agg (tyD t)] (Tt (mayT t)) := cMay ht
  have hz : (tyD t).length = 7 := by simp
  generalize tyD t = XX at hc hz
  have htz : List.take 7 XX = XX := List.take_of_length_le (by omega)
  refine acalls_vc [0, 1, 2] Tryz.func120 Tryz.ntmps120 (by kernel_rfl) rfl rfl (by simp) ?_
  simp -dsimp [hz, htz]
  refine pcall hc ?_
  simp -dsimp [Tt]
  exact pcq rfl fun j hj => set_ne _ _ _ _ (by omega)
theorem cShape2 {s : List UInt8} (hs : s.length ≤ 9223372036854775807) : Pc Tryz.prog 123 [S s] (Tt (!nameN s)) := by
  refine pc_of (pur_T _) (fun m n => ?_)
  have hc := cNameT hs
  refine acalls_vc [0, 2] Tryz.func123 Tryz.ntmps123 (by kernel_rfl) rfl rfl (by simp) ?_
  simp -dsimp [S]
  refine pcall hc ?_
  simp -dsimp [Tt]
  exact pcq' rfl
def bareV (t : Tm) (x y z : Bool) : Bool := match t with
  | .mk _ N mod nm _ _ _ _ => (x || decide (N = 0)) && (y || decide (mod = [])) && (z || decide (nm = []))
set_option maxHeartbeats 2000000 in
theorem cBareT (t : Tm) (x y z : Bool) : Pc Tryz.prog 114 [.agg (tmD t), Tt x, Tt y, Tt z] (Tt (bareV t x y z)) := by
  refine pc_of (pur_T _) (fun m n => ?_)
  obtain ⟨k, N, mod, nm, names, vars, types, subs⟩ := t
  have fr : ∀ o j, j < n → (m.set n o) j = m j := fun o j hj => set_ne _ _ _ _ (by omega)
  simp only [tmD, bareV, sl1]
  generalize (names.map fun s => [S s]) = NL
  generalize (vars.map fun s => [S s]) = VL
  generalize types.map tyD = YL
  generalize tmsD subs = SL
  obtain ⟨c1, b1, g1⟩ : ∃ c : Bool, (N == 0) = c ∧ decide (N = 0) = c := ⟨N == 0, rfl, by rw [Bool.eq_iff_iff]; simp⟩
  obtain ⟨c2, b2, g2⟩ : ∃ c : Bool, (mod == []) = c ∧ decide (mod = []) = c := ⟨mod == [], rfl, by rw [Bool.eq_iff_iff]; simp⟩
  obtain ⟨c3, b3, g3⟩ : ∃ c : Bool, (nm == []) = c ∧ decide (nm = []) = c := ⟨nm == [], rfl, by rw [Bool.eq_iff_iff]; simp⟩
  rw [g1, g2, g3]
  refine acalls_vc [0, 1, 2, 3, 4, 8] Tryz.func114 Tryz.ntmps114 (by kernel_rfl) rfl rfl (by simp) ?_
  cases x <;> cases y <;> cases z <;> cases c1 <;> cases c2 <;> cases c3 <;>
    (simp -dsimp [I, S, Tt, b1, b2, b3]; exact pcq rfl (fr _))
end Go.Proofs.Mv.App
open Go Go.Proofs Go.Proofs.Mv.V
set_option maxRecDepth 10000
namespace Go.Proofs.Mv.App
theorem sl_len {w : World} {ν : Nu} {F : Nat → Prop} {z : Nat} {es : List (List D)} {y : Value} (h : Con w ν F (.sl z es) y) : ∃ a c, y = .slice a es.length c := by
  simp only [Con] at h
  rcases h with ⟨b, o, c, rfl, _⟩ | ⟨rfl, a, rfl⟩
  · exact ⟨_, _, rfl⟩
  · exact ⟨a, 0, rfl⟩
theorem ans_of {P : Program} {f : FuncId} {args : List D} {b : Bool} {w : World} {ν : Nu} {F : Nat → Prop} {m : Mem} {n : Nat} {vals : Array Value} (hst : St w ν F m n) (hp : Pc P f args (Tt b)) (ha : belowL 0 args = true) (hv : ConVs w ν F args vals.toList) : Ans P f vals w (.bool b) := by
  intro W hb
  refine (calls_all (hp _ _) ha (st_blw hst hb) (ConVs.mono (ext_blw hst hb) _ _ hv)).mono ?_
  rintro e w' ⟨v, rfl, hb2, ν', F', hcv⟩
  simp only [Con, Tt] at hcv; subst hcv
  exact ⟨rfl, hb2⟩
theorem blw_pur {d : D} (h : Pur d) : below 0 d = true := h.2 0
set_option maxHeartbeats 4000000 in
theorem cShapeT {t : Tm} (ht : TmW t) : Pc Tryz.prog 67 [.agg (tmD t)] (Tt (shapeTm t)) := by
  intro m n
  refine acalls_blw ⟨_, Tryz.func67, by kernel_rfl, by kernel_rfl⟩ fun w ν F vals hst hv => ?_
  obtain ⟨y, rfl, hy⟩ := conVs_arr1 hv
  obtain ⟨k, N, mod, nm, names, vars, types, subs⟩ := t
  cases ht with | mk _ _ _ _ _ _ _ _ w1 w2 w3 w4 w5 w6 w7 w8 w9 w10 =>
  have hy0 := hy
  have hT : TmW (.mk k N mod nm names vars types subs) := .mk _ _ _ _ _ _ _ _ w1 w2 w3 w4 w5 w6 w7 w8 w9 w10
  simp only [tmD, sl1] at hy
  rw [Con] at hy
  obtain ⟨ys, rfl, hys, _⟩ := hy
  simp only [ConVs] at hys
  obtain ⟨v0, r0, e0, h0, v1, r1, e1, h1, v2, r2, e2, h2, v3, r3, e3, h3, v4, r4, e4, h4, v5, r5, e5, h5, v6, r6, e6, h6, v7, r7, e7, h7, e8⟩ := hys
  subst e8; subst e7; subst e6; subst e5; subst e4; subst e3; subst e2; subst e1
  obtain rfl : ys = #[v0, v1, v2, v3, v4, v5, v6, v7] := Array.toList_inj.1 e0
  obtain ⟨a4, c4, rfl⟩ := sl_len h4
  obtain ⟨a5, c5, rfl⟩ := sl_len h5
  obtain ⟨a6, c6, rfl⟩ := sl_len h6
  obtain ⟨a7, c7, rfl⟩ := sl_len h7
  simp only [Con, S, I] at h0 h1 h2 h3
  subst h0; subst h1; subst h2; subst h3
  simp only [List.length_map, tmsD_eq] at hy0 h4 h5 h6 h7 ⊢
  have hbare : ∀ x y z, Ans Tryz.prog 114 #[.agg #[.int .i64 k, .int .i64 N, .string (ofL mod), .string (ofL nm), .slice a4 names.length c4, .slice a5 vars.length c5, .slice a6 types.length c6, .slice a7 subs.length c7], .bool x, .bool y, .bool z] w (.bool (bareV (.mk k N mod nm names vars types subs) x y z)) := fun x y z =>
    ans_of hst (cBareT _ x y z) (by have := blw_pur (pur_tmA (.mk k N mod nm names vars types subs)); simp [belowL, below, Tt] at this ⊢; exact this) (by simp only [ConVs]; exact ⟨_, _, rfl, hy0, by simp [ConVs, Con, Tt]⟩)
  have hnm : Ans Tryz.prog 115 #[.string (ofL nm)] w (.bool (nameN nm)) := ans_of hst (cNameT w6) rfl (by simp [ConVs, Con, S])
  have hmod : Ans Tryz.prog 115 #[.string (ofL mod)] w (.bool (nameN mod)) := ans_of hst (cNameT w5) rfl (by simp [ConVs, Con, S])
  have htag : Ans Tryz.prog 117 #[.string (ofL nm)] w (.bool (tagN nm)) := ans_of hst (cTagT w6) rfl (by simp [ConVs, Con, S])
  have hbn : below 0 (sl1 names) = true := blw_pur (pur_sl1 names)
  have hbv : below 0 (sl1 vars) = true := blw_pur (pur_sl1 vars)
  have hby : below 0 (.sl 7 (types.map tyD)) = true := blw_pur (Pur.sl (pur_tym types))
  have hrn : Ans Tryz.prog 116 #[.slice a4 names.length c4, .func (.func 115) #[] #[]] w (.bool (risO nameN names)) :=
    ans_of hst (cRisingT w1 fun s hs => cNameT (w7 s hs)) (by simp only [belowL, hbn, Bool.true_and]; rfl) (by simp only [ConVs]; exact ⟨_, _, rfl, h4, _, _, rfl, by simp [Con, ConVs], rfl⟩)
  have hrt : Ans Tryz.prog 116 #[.slice a4 names.length c4, .func (.func 117) #[] #[]] w (.bool (risO tagN names)) :=
    ans_of hst (cRisingT w1 fun s hs => cTagT (w7 s hs)) (by simp only [belowL, hbn, Bool.true_and]; rfl) (by simp only [ConVs]; exact ⟨_, _, rfl, h4, _, _, rfl, by simp [Con, ConVs], rfl⟩)
  have hdist : Ans Tryz.prog 118 #[.slice a4 names.length c4] w (.bool (names.all nameN && distN names)) :=
    ans_of hst (cDistinctT w1 w7) (by simp only [belowL, hbn, Bool.true_and]) (by simp only [ConVs]; exact ⟨_, _, rfl, h4, rfl⟩)
  have hty : Ans Tryz.prog 119 #[.slice a6 types.length c6, .func (.func 120) #[] #[]] w (.bool (types.any fun t => !mayT t)) :=
    ans_of hst (cHasTyS (q := fun t => !mayT t) (by simp) (fun x hx => cShape1 (w9 x hx)) w3) (by simp only [belowL, hby, Bool.true_and]; rfl) (by simp only [ConVs]; exact ⟨_, _, rfl, h6, _, _, rfl, by simp [Con, ConVs], rfl⟩)
  have hbv' : below 0 (.sl 1 (vars.map encS)) = true := hbv
  have hvr : Ans Tryz.prog 122 #[.slice a5 vars.length c5, .func (.func 123) #[] #[]] w (.bool (vars.any fun s => !nameN s)) :=
    ans_of hst (cHasStrS (l := vars) (q := fun s => !nameN s) (by simp) (fun x hx => cShape2 (w8 x hx)) w2) (by simp only [belowL, hbv', Bool.true_and]; rfl) (by simp only [ConVs]; exact ⟨_, _, rfl, h5, _, _, rfl, by simp [Con, ConVs], rfl⟩)
  have hY : (!(types.any fun t => !mayT t)) = types.all mayT := by simp [List.all_eq_not_any_not]
  have hV : (!(vars.any fun s => !nameN s)) = vars.all nameN := by simp [List.all_eq_not_any_not]
  have hF : decide (names.length ≤ 21 ∧ vars.length ≤ 21 ∧ types.length ≤ 21 ∧ subs.length ≤ 21) = fitsT names vars types subs := by simp [fitsT, Bool.and_assoc]
  have hZ : ∀ a b c d : Nat, decide (names.length = a ∧ vars.length = b ∧ types.length = c ∧ subs.length = d) = cntsT names vars types subs a b c d := fun a b c d => by simp [cntsT, Bool.and_assoc]
  have fin : ∀ {b : Bool}, Calls Tryz.prog 67 #[.agg #[.int .i64 k, .int .i64 N, .string (ofL mod), .string (ofL nm), .slice a4 names.length c4, .slice a5 vars.length c5, .slice a6 types.length c6, .slice a7 subs.length c7]] w (fun e w' => e = .returned (.bool b) ∧ Blw w.heap.size w w') → b = shapeTm (.mk k N mod nm names vars types subs) →
      Calls Tryz.prog 67 #[.agg #[.int .i64 k, .int .i64 N, .string (ofL mod), .string (ofL nm), .slice a4 names.length c4, .slice a5 vars.length c5, .slice a6 types.length c6, .slice a7 subs.length c7]] w (fun e w' => ∃ v, e = .returned v ∧ Blw w.heap.size w w' ∧ ∃ d, Con w' ν F d v ∧ d = Tt (shapeTm (.mk k N mod nm names vars types subs)) ∧ True ∧ True) := fun {b} h e => by
    subst e
    refine h.mono ?_
    rintro e w' ⟨rfl, hb⟩
    exact ⟨_, rfl, hb, Tt _, by simp [Con, Tt], rfl, trivial, trivial⟩
  have hB : ∀ x y z, x = (decide (k = 1) || decide (k = 2)) → y = decide (k = 4) → z = (decide (k = 3) || decide (k = 4) || decide (k = 6) || decide (k = 7)) → bareV (.mk k N mod nm names vars types subs) x y z = bareTm k N mod nm := fun x y z hx hy hz => by
    subst hx; subst hy; subst hz
    simp only [bareV, bareTm]
    ac_rfl
  by_cases k1 : k = 1
  · subst k1
    refine fin (shape_1 hF (hbare true false false) rfl rfl (hZ 0 0 0 0)) ?_
    rw [hB true false false rfl rfl rfl]
    simp [shapeTm, kindTm]
    try ac_rfl
  by_cases k2 : k = 2
  · subst k2
    refine fin (shape_2 hF (hbare true false false) rfl (hZ 0 0 0 0)) ?_
    rw [hB true false false rfl rfl rfl]
    simp [shapeTm, kindTm]
    try ac_rfl
  by_cases k3 : k = 3
  · subst k3
    refine fin (shape_3 hF (hbare false false true) hnm (hZ 0 0 0 0)) ?_
    rw [hB false false true rfl rfl rfl]
    simp [shapeTm, kindTm]
    try ac_rfl
  by_cases k4 : k = 4
  · subst k4
    refine fin (shape_4 hF (hbare false true true) hmod hnm (hZ 0 0 0 0)) ?_
    rw [hB false true true rfl rfl rfl]
    simp [shapeTm, kindTm]
    try ac_rfl
  by_cases k5 : k = 5
  · subst k5
    refine fin (shape_5 hF (hbare false false false) (hZ names.length 0 0 names.length) hrn) ?_
    rw [hB false false false rfl rfl rfl]
    simp [shapeTm, kindTm]
    try ac_rfl
  by_cases k6 : k = 6
  · subst k6
    refine fin (shape_6 hF (hbare false false true) (hZ 0 0 0 1) hnm) ?_
    rw [hB false false true rfl rfl rfl]
    simp [shapeTm, kindTm]
    try ac_rfl
  by_cases k7 : k = 7
  · subst k7
    refine fin (shape_7 hF (hbare false false true) (hZ 0 0 0 1) htag) ?_
    rw [hB false false true rfl rfl rfl]
    simp [shapeTm, kindTm]
    try ac_rfl
  by_cases k8 : k = 8
  · subst k8
    refine fin (shape_8 hF (hbare false false false) (hZ names.length 0 names.length 1) hdist hty) ?_
    rw [hB false false false rfl rfl rfl, hY]
    simp [shapeTm, kindTm]
    try ac_rfl
  by_cases k9 : k = 9
  · subst k9
    refine fin (shape_9 hF (hbare false false false) (hZ 0 0 0 subs.length) rfl) ?_
    rw [hB false false false rfl rfl rfl]
    simp [shapeTm, kindTm]
    try ac_rfl
  by_cases k10 : k = 10
  · subst k10
    refine fin (shape_10 hF (hbare false false false) (hZ 0 0 0 subs.length) rfl) ?_
    rw [hB false false false rfl rfl rfl]
    simp [shapeTm, kindTm]
    try ac_rfl
  by_cases k11 : k = 11
  · subst k11
    refine fin (shape_11 hF (hbare false false false) (hZ 0 0 0 3)) ?_
    rw [hB false false false rfl rfl rfl]
    simp [shapeTm, kindTm]
    try ac_rfl
  by_cases k12 : k = 12
  · subst k12
    refine fin (shape_12 hF (hbare false false false) rfl (hZ names.length names.length 0 (names.length + 1)) hrt hvr) ?_
    rw [hB false false false rfl rfl rfl, hV]
    simp [shapeTm, kindTm]
    try ac_rfl
  refine fin (shape_0 hF k1 k2 k3 k4 k5 k6 k7 k8 k9 k10 k11 k12) ?_
  simp [shapeTm, kindTm, k1, k2, k3, k4, k5, k6, k7, k8, k9, k10, k11, k12]
end Go.Proofs.Mv.App
open Go Go.Proofs Go.Proofs.Mv.V
set_option maxRecDepth 10000
namespace Go.Proofs.Mv.App
structure CntInvT (SL : List (List D)) (subs : List Tm) (depth most : Int) (m : Mem) (n : Nat) (i : Nat) (σ : Nat → D) (m2 : Mem) (n2 : Nat) : Prop where
  h1 : σ 1 = I depth
  h2 : σ 2 = I most
  h3 : σ 3 = .ptr n 0 0 0
  h7 : σ 7 = I (1 + manyTms (subs.take i))
  h23 : σ 23 = .sl 8 SL
  h24 : σ 24 = I subs.length
  h25 : σ 25 = I i
  le : i ≤ subs.length
  ok : CntOkT subs depth most i
  nn : n + 1 ≤ n2
  fr : ∀ j, j < n → m2 j = m j
set_option maxHeartbeats 2000000 in
theorem cCountTm {t : Tm} (ht : TmW t) : ∀ (depth most : Int) (m : Mem) (n : Nat), depth ≤ 1000000 → 0 ≤ depth → most ≤ 1000000 → -1000000 ≤ most → ACalls Tryz.prog 39 [.agg (tmD t), I depth, I most] m n (fun d m' n' => d = I (cntTm t depth most) ∧ m' = m ∧ n' = n) := by
  induction ht with
  | mk kind num mod name names vars types subs l1 l2 l3 l4 l5 l6 l7 l8 l9 l10 ih =>
    intro depth most m n d1 d2 q1 q2
    refine acalls_done (R' := Hq (fun d m' n' => d = I (cntTm (.mk kind num mod name names vars types subs) depth most) ∧ ∀ j, j < n → m' j = m j) tg) ?_ ?_
    · have fr : ∀ o j, j < n → (m.set n o) j = m j := fun o j hj => by rw [set_ne _ _ _ _ (by omega)]
      have hL2 : (tmsD subs).length = subs.length := by rw [tmsD_eq]; simp
      have hG2 : ∀ i (h : i < subs.length), (tmsD subs)[i]? = some (tmD subs[i]) := fun i h => by rw [tmsD_eq]; simp [h]
      have hcs := fun m n => cShapeT (.mk kind num mod name names vars types subs l1 l2 l3 l4 l5 l6 l7 l8 l9 l10) m n
      have hno : ∀ h, cntTm (.mk kind num mod name names vars types subs) depth most = 0 := fun h => cntTm_no h
      have hst : ∀ {i : Nat} (hi : i < subs.length), cntTm subs[i] (depth - 1) (most - (1 + manyTms (subs.take i))) = 0 → cntTm (.mk kind num mod name names vars types subs) depth most = 0 := fun hi h => CntOkT.stop hi h
      have hal : ∀ {i : Nat}, shapeTm (.mk kind num mod name names vars types subs) = true → CntOkT subs depth most i → subs.length ≤ i → cntTm (.mk kind num mod name names vars types subs) depth most = 1 + manyTms subs := fun h1 h2 h3 => CntOkT.all h1 h2 h3
      simp only [tmD, sl1] at hcs ⊢
      generalize cntTm (.mk kind num mod name names vars types subs) depth most = CT at hno hst hal
      generalize shapeTm (.mk kind num mod name names vars types subs) = SH at hno hcs hal
      generalize (names.map fun s => [S s]) = NL at hcs
      generalize (vars.map fun s => [S s]) = VL at hcs
      generalize types.map tyD = YL at hcs
      generalize tmsD subs = SL at hL2 hG2 hcs
      refine acalls_vc [0, 1, 2, 3, 6, 7, 9, 10, 21, 23, 24, 25, 26, 37] Tryz.func39 Tryz.ntmps39 (by kernel_rfl) rfl rfl (by simp) ?_
      by_cases c1 : depth < 1
      · simp -dsimp [I, c1]
        exact hq ⟨by rw [hno (.inl c1)]; rfl, fr _⟩
      by_cases c2 : most < 1
      · simp -dsimp [I, c1, c2]
        exact hq ⟨by rw [hno (.inr (.inl c2))]; rfl, fr _⟩
      simp -dsimp [I, c1, c2]
      refine aCall_of (hcs _ _) ?_
      rintro d m' n' ⟨rfl, rfl, rfl⟩
      cases hS : SH with
      | false =>
        simp -dsimp [I, c1, c2, Tt]
        exact hq ⟨by rw [hno (.inr (.inr hS))]; rfl, fr _⟩
      | true =>
      simp -dsimp [I, c1, c2, Tt]
      refine vloop_of (β := Nat) (CntInvT SL subs depth most m n) (fun i => subs.length - i) 0 ⟨by simp [I], by simp [I], by simp, by simp [I, manyTms], by simp, by simp [I, hL2], by simp [I], by omega, CntOkT.zero (by omega) (by omega), by omega, fr _⟩ ?_
      rintro i σ m2 n2 ⟨h1, h2, h3, h7, h23, h24, h25, le, ok, nn, fr2⟩
      by_cases hi : (i : Int) < subs.length
      · have hi' : i < subs.length := by omega
        have wi : IntKind.i64.wrap ((i : Int) + 1) = (i : Int) + 1 := wrap_i64 (by omega) (by omega)
        have hiN : i < SL.length := by omega
        have hgi : SL[i] = tmD subs[i] := get_opt (hG2 i hi') hiN
        have hsn := manyTms_snoc (subs.take i) subs[i]
        rw [← take_snoc hi'] at hsn
        have hmn := ok.mn
        have hstp := ok.step hi'
        have hs0 := hst hi'
        have hih := fun m n => ih subs[i] (List.getElem_mem hi') (depth - 1) (most - (1 + manyTms (subs.take i))) m n (by omega) (by omega) (by omega) (by omega)
        have hcl := cntTm_le subs[i] (depth - 1) (most - (1 + manyTms (subs.take i)))
        have hce := cntTm_eq (t := subs[i]) (d := depth - 1) (q := most - (1 + manyTms (subs.take i)))
        have wd : IntKind.i64.wrap (depth - 1) = depth - 1 := wrap_i64 (by omega) (by omega)
        have wm : IntKind.i64.wrap (most - (1 + (manyTms (subs.take i) : Int))) = most - (1 + (manyTms (subs.take i) : Int)) := wrap_i64 (by omega) (by omega)
        have h77 := tmD_len subs[i]
        generalize tmD subs[i] = TT at hgi hih h77
        have ht7 : List.take 8 TT = TT := List.take_of_length_le (by omega)
        simp -dsimp [h1, h2, h3, h7, h23, h24, h25, I, hi, hi', hiN, hgi, h77, ht7, wd, wm]
        refine aCall_of (hih _ _) ?_
        rintro d m' n' ⟨rfl, rfl, rfl⟩
        generalize cntTm subs[i] (depth - 1) (most - (1 + manyTms (subs.take i))) = CK at hstp hs0 hcl hce
        by_cases c3 : CK = 0
        · have c3' : (CK == 0) = true := by simpa using c3
          simp -dsimp [h1, h2, h3, h7, h23, h24, h25, I, c3']
          exact hq ⟨by rw [hs0 c3]; rfl, fun j hj => by rw [set_ne _ _ _ _ (by omega)]; exact fr2 j hj⟩
        · have hke := (hce c3).1
          have c3' : (CK == 0) = false := by simpa using c3
          have hcl2 := hcl.2 (by omega)
          have ws : IntKind.i64.wrap (1 + (manyTms (subs.take i) : Int) + CK) = 1 + (manyTms (subs.take i) : Int) + CK := wrap_i64 (by omega) (by omega)
          simp -dsimp [h1, h2, h3, h7, h23, h24, h25, I, c3', ws, wi]
          refine ⟨i + 1, by omega, by simp [I], by simp [I], by simp, by simp [I, hsn]; omega, by simp, by simp [I], by simp [I], by omega, hstp c3, by omega, fun j hj => by rw [set_ne _ _ _ _ (by omega)]; exact fr2 j hj⟩
      · have ht : subs.take i = subs := List.take_of_length_le (by omega)
        rw [ht] at h7
        simp -dsimp [h1, h2, h3, h7, h23, h24, h25, I, hi]
        exact hq ⟨by rw [hal hS ok (by omega)]; rfl, fr2⟩
    · rintro d m' n' ⟨rfl, h⟩
      exact ⟨_, (pur_I _).pub, h, rfl⟩
theorem cMayTm {t : Tm} (ht : TmW t) : Pc Tryz.prog 14 [.agg (tmD t)] (Tt (mayTm t)) := by
  refine pc_of (pur_T _) (fun m n => ?_)
  have h8 := tmD_len t
  have hc := fun m n => cCountTm ht 32 300 m n (by omega) (by omega) (by omega) (by omega)
  rw [mayTm_cnt]
  generalize cntTm t 32 300 = CT at hc
  generalize tmD t = TT at h8 hc
  have ht8 : List.take 8 TT = TT := List.take_of_length_le (by omega)
  refine acalls_vc [0, 1, 2] Tryz.func14 Tryz.ntmps14 (by kernel_rfl) rfl rfl (by simp) ?_
  simp -dsimp [h8, ht8]
  refine aCall_of (hc _ _) ?_
  rintro d m' n' ⟨rfl, rfl, rfl⟩
  simp -dsimp [I]
  exact pcq rfl fun j hj => set_ne _ _ _ _ (by omega)
end Go.Proofs.Mv.App
open Go Go.Proofs Go.Proofs.Mv.V
set_option maxRecDepth 10000
namespace Go.Proofs.Mv.App
theorem cClosed1 {x : Tm} {ns : Nms} {b : Bool} (h : Pc Tryz.prog 45 [.agg (tmD x), sl1 ns] (Tt b)) {k : Nat} {m : Mem} {n : Nat} (hk : k < n) (hm : m k = some ⟨1, [[sl1 ns]], 0⟩) :
    PcAt Tryz.prog 77 [.agg (tmD x), .ptr k 0 0 0] (Tt (!b)) m n := by
  refine pcat_of (pur_T _) ?_
  have kn : k ≠ n := by omega
  have h8 : (tmD x).length = 8 := by simp
  generalize tmD x = X at h h8
  have hX : List.take 8 X = X := List.take_of_length_le (by omega)
  refine acalls_vc [0, 1, 2, 3] Tryz.func77 Tryz.ntmps77 (by kernel_rfl) rfl rfl (by simp) ?_
  simp -dsimp [hm, set_ne, kn, h8, hX]
  refine pcall h ?_
  simp -dsimp [Tt]
  exact pcq (by cases b <;> rfl) fun j hj => set_ne _ _ _ _ (by omega)
theorem cloTs_any : ∀ (l : List Tm) (ns : Nms), cloTs l ns = !l.any fun x => !cloT x ns
  | [], _ => rfl
  | t :: ts, ns => by simp [cloTs, cloTs_any ts ns]
theorem cloB_iff : ∀ (ss : List Tm) (vs ns : Nms), ss.length = vs.length → (cloB ss vs ns = true ↔ ∀ i (h1 : i < ss.length) (h2 : i < vs.length), cloT ss[i] (ns ++ [vs[i]]) = true)
  | [], _, _, _ => by simp [cloB]
  | t :: ts, [], _, h => by simp at h
  | t :: ts, v :: vs, ns, h => by
    simp only [cloB, Bool.and_eq_true, cloB_iff ts vs ns (by simpa using h)]
    constructor
    · rintro ⟨h1, h2⟩ i q1 q2
      cases i with
      | zero => exact h1
      | succ i => exact h2 i (by simpa using q1) (by simpa using q2)
    · intro h
      exact ⟨h 0 (by simp) (by simp), fun i q1 q2 => h (i + 1) (by simpa using q1) (by simpa using q2)⟩
structure CloL [GI] (N : Int) (mod nm : List UInt8) (NL VL YL SL : List (List D)) (ns vars : Nms) (ss : List Tm) (m : Mem) (n : Nat) (i : Nat) (m2 : Mem) (n2 : Nat) : Prop where
  o0 : m2 n = some ⟨8, [[I 12, I N, S mod, S nm, .sl 1 NL, .sl 1 VL, .sl 7 YL, .sl 8 SL]], 0⟩
  o1 : m2 (n + 1) = some ⟨1, [[sl1 ns]], 0⟩
  fr : ∀ j, j < n → m2 j = m j
  nn : n + 2 ≤ n2
  le : i ≤ vars.length
  al : ∀ j (h1 : j < ss.length) (h2 : j < vars.length), j < i → cloT ss[j] (ns ++ [vars[j]]) = true
set_option maxHeartbeats 4000000 in
theorem cClosedT {t : Tm} (ht : TmW t) : ∀ {ns : Nms}, allTm t = true → ns.length + 21 * deepTm t ≤ 990 → Pc Tryz.prog 45 [.agg (tmD t), sl1 ns] (Tt (cloT t ns)) := by
  induction ht with
  | mk k N mod nm names vars types subs l1 l2 l3 l4 l5 l6 l7 l8 l9 l10 ih =>
  intro ns ha hb
  refine pc_of (pur_T _) (fun m n => ?_)
  have fr : ∀ o o' j, j < n → ((m.set n o).set (n + 1) o') j = m j := fun o o' j hj => by rw [set_ne _ _ _ _ (by omega), set_ne _ _ _ _ (by omega)]
  have nn1 : n ≠ n + 1 := by omega
  have n1n : n + 1 ≠ n := by omega
  have has : ∀ s ∈ subs, allTm s = true := by
    simp only [allTm, Bool.and_eq_true, allTms_eq, List.all_eq_true] at ha
    exact ha.2
  have hds : ∀ s ∈ subs, deepTm s + 1 ≤ deepTm (.mk k N mod nm names vars types subs) := by
    intro s hs
    simp only [deepTm]
    have := deepTms_mem hs
    omega
  have ih' : ∀ s ∈ subs, ∀ ms : Nms, ms.length ≤ ns.length + 21 → Pc Tryz.prog 45 [.agg (tmD s), sl1 ms] (Tt (cloT s ms)) := fun s hs ms h => ih s hs (has s hs) (by have := hds s hs; omega)
  simp only [tmD, tmsD_eq, cloT]
  by_cases k3 : k = 3
  · subst k3
    rw [if_pos rfl]
    have hc := cContainsSl (l := ns) (by omega) nm
    simp only [S] at hc
    refine acalls_vc [0, 1, 2, 3, 4, 5, 6, 8, 9, 15, 27, 30, 31, 32, 33, 49] Tryz.func45 Tryz.ntmps45 (by kernel_rfl) rfl rfl (by simp) ?_
    simp -dsimp [I, S, set_ne, nn1, n1n]
    refine pcall hc ?_
    simp -dsimp [Tt]
    exact pcq (by simp [Tt]) (fr _ _)
  by_cases k8 : k = 8
  · subst k8
    rw [if_neg k3, if_pos rfl]
    have hsp : shapeTm (.mk 8 N mod nm names vars types subs) = true := by
      simp only [allTm, Bool.and_eq_true] at ha; exact ha.1
    obtain ⟨kk, sm⟩ := shapeTm_parts hsp
    obtain ⟨s0, rfl⟩ : ∃ s0, subs = [s0] := by
      have := kk.cn
      simp only [cntK] at this
      match subs, this with
      | [s0], _ => exact ⟨s0, rfl⟩
      | [], h => simp at h
      | _ :: _ :: _, h => simp at h
    have hcl := ih' s0 (by simp) (ns ++ names) (by simp; exact sm.ln)
    have hnl : ns.length ≤ 1000 := by omega
    have hml : names.length ≤ 1000 := by have := sm.ln; omega
    have h8 : (tmD s0).length = 8 := by simp
    simp only [List.map_cons, List.map_nil, cloTs, Bool.and_true]
    have hpX := pur_tm s0
    generalize tmD s0 = X at hcl h8 hpX
    have hX : List.take 8 X = X := List.take_of_length_le (by omega)
    refine acalls_vc [0, 1, 2, 3, 4, 5, 6, 8, 9, 15, 27, 30, 31, 32, 33, 49] Tryz.func45 Tryz.ntmps45 (by kernel_rfl) rfl rfl (by simp) ?_
    simp -dsimp [I, S, set_ne, nn1, n1n, sl1]
    refine vdraw_tree [0, 1, 3, 7, 0, 0, 32, 112, 240, 511, 1023] (.rd 0 (.rd 1 (.rd 2 (.rd 3 (.rd 4 (.rd 5 (.rd 6 (.wr (.cons 7 (.wr (.cons 8 (.wr (.cons 9 (.rd 10 (.fin)) (.nil))) (.nil))) (.nil)))))))))) (by kernel_rfl) (by kernel_rfl) ?_
    simp -dsimp [I, S, set_ne, nn1, n1n, h8, hX, sl1]
    repeat' (with_reducible apply And.intro)
    all_goals try (simp [set_ne, nn1, n1n, show n ≠ n + 1 + 1 by omega, show n + 1 ≠ n + 1 + 1 by omega]; done)
    refine aCall_of (rConcatS (n + 1 + 1) [sl1 ns, sl1 names] [ns, names] _ _ (by simp [sl1, S]) rfl (by simp) ?_ ?_ (by omega) ?_) ?_
    · intro i h h'
      match i, h with
      | 0, _ => exact .inl rfl
      | 1, _ => exact .inl rfl
    · intro d hd k hk
      simp only [List.mem_cons, List.not_mem_nil, or_false] at hd
      rcases hd with rfl | rfl <;> simp [kof, sl1] at hk
    · intro l hl
      simp only [List.mem_cons, List.not_mem_nil, or_false] at hl
      rcases hl with rfl | rfl
      · exact hnl
      · exact hml
    rintro d m' n' ⟨q1, q2, q3, q4⟩
    simp only [List.flatten_cons, List.flatten_nil, List.append_nil] at q1
    refine ⟨fun p hp _ => ?_, ?_⟩
    · simp only [List.mem_cons, List.not_mem_nil, or_false] at hp
      rcases hp with rfl | rfl | rfl
      · exact q4 _ (by dsimp only; omega)
      · exact q4 _ (by dsimp only; omega)
      · exact q4 _ (by dsimp only; omega)
    simp -dsimp [I, S, set_ne, nn1, n1n, h8, hX]
    refine aCall_pubS (pre := [.agg X]) (post := []) (z := 1) q1 pur_ss (fun x hx => ?_) (by simp) ?_
    · simp only [List.mem_singleton] at hx
      subst hx
      exact Pur.agg hpX
    intro m2 hm2
    have hko : ∀ j, j < n + 1 + 1 + 1 → m2 j = m' j := fun j hj => hm2 j fun e => by have := q3 j e; omega
    refine pcall hcl ?_
    refine ⟨fun p hp _ => ?_, ?_⟩
    · simp only [List.mem_cons, List.not_mem_nil, or_false] at hp
      rcases hp with rfl | rfl | rfl
      · exact hko _ (by dsimp only; omega)
      · exact hko _ (by dsimp only; omega)
      · exact hko _ (by dsimp only; omega)
    simp -dsimp [I, S, Tt, set_ne, nn1, n1n, h8, hX]
    refine pcq rfl fun j hj => ?_
    rw [hko j (by omega), q4 j (by omega)]
    simp [set_ne, show j ≠ n by omega, show j ≠ n + 1 by omega, show j ≠ n + 1 + 1 by omega]
  by_cases k12 : k = 12
  · subst k12
    rw [if_neg k3, if_neg k8, if_pos rfl]
    have hsp : shapeTm (.mk 12 N mod nm names vars types subs) = true := by
      simp only [allTm, Bool.and_eq_true] at ha; exact ha.1
    obtain ⟨kk, sm⟩ := shapeTm_parts hsp
    have hcn := kk.cn
    simp only [cntK] at hcn
    obtain ⟨s0, ss, rfl, hsl⟩ : ∃ s0 ss, subs = s0 :: ss ∧ ss.length = vars.length := by
      cases subs with
      | nil => simp at hcn
      | cons a r => exact ⟨a, r, rfl, by simp at hcn; omega⟩
    clear hcn
    have hvl : vars.length ≤ 21 := sm.lv
    have hnl : ns.length ≤ 1000000 := by omega
    have hcl := fun i (h : i < ss.length) => ih' ss[i] (List.mem_cons_of_mem _ (List.getElem_mem h)) (ns ++ [vars[i]'(by omega)]) (by simp)
    have hc0 := ih' s0 (by simp) ns (by omega)
    simp only [cloC]
    have hVL : (vars.map fun s => [S s]).length = vars.length := by simp
    have hVG : ∀ i (h : i < vars.length), (vars.map fun s => [S s])[i]? = some [S vars[i]] := fun i h => by simp [h]
    have hSL : ((s0 :: ss).map tmD).length = ss.length + 1 := by simp
    have hSG : ∀ i (h : i < ss.length), ((s0 :: ss).map tmD)[i + 1]? = some (tmD ss[i]) := fun i h => by simp [h]
    have hS0 : ((s0 :: ss).map tmD)[0]? = some (tmD s0) := by simp
    simp only [sl1]
    generalize (vars.map fun s => [S s]) = VL at hVL hVG ⊢
    generalize ((s0 :: ss).map tmD) = SL at hSL hSG hS0 ⊢
    generalize (names.map fun s => [S s]) = NL
    generalize types.map tyD = YL
    refine acalls_vc [0, 1, 2, 3, 4, 5, 6, 8, 9, 15, 27, 30, 31, 32, 33, 49] Tryz.func45 Tryz.ntmps45 (by kernel_rfl) rfl rfl (by simp) ?_
    simp -dsimp [I, S, set_ne, nn1, n1n, hVL]
    refine vloop_as (β := Nat) (fun i => [(2, .ptr n 0 0 0), (3, .ptr (n + 1) 0 0 0), (30, .sl 1 VL), (31, I vars.length), (32, I i)]) (CloL N mod nm NL VL YL SL ns vars ss m n) (fun i => vars.length - i) 0 (by simp [I]) ⟨by simp [set_ne, nn1, I, S], by simp [sl1, S], fun j hj => fr _ _ j hj, by omega, by omega, by simp⟩ ?_
    rintro i m2 n2 ⟨o0, o1, hfr, hn2, le, hall⟩
    have h0n : n ≠ n2 := by omega
    have h1n : n + 1 ≠ n2 := by omega
    by_cases hi : (i : Int) < vars.length
    · have hi' : i < vars.length := by omega
      have his : i < ss.length := by omega
      have wi : IntKind.i64.wrap ((i : Int) + 1) = (i : Int) + 1 := wrap_i64 (by omega) (by omega)
      have hiN : i < VL.length := by omega
      have hgi : VL[i] = [S vars[i]] := get_opt (hVG i hi') hiN
      have hiS : i + 1 < SL.length := by omega
      have hgs : SL[i + 1] = tmD ss[i] := get_opt (hSG i his) hiS
      have hiS' : ((i : Int) + 1) < SL.length := by omega
      have hcl := hcl i his
      have hz : (tmD ss[i]).length = 8 := by simp
      have hpX := pur_tm ss[i]
      generalize tmD ss[i] = X at hgs hz hcl hpX
      have hX : List.take 8 X = X := List.take_of_length_le (by omega)
      have hrc := fun M N => rCloneS (l := ns) hnl M N
      simp -dsimp [I, S, hi, hi', hiN, hgi]
      refine vdraw_tree [0, 1, 0, 4, 15, 31, 0, 64, 0, 256, 960, 2047, 4095] (.rd 0 (.rd 1 (.rd 2 (.rd 3 (.rd 4 (.rd 5 (.rd 6 (.rd 8 (.wr (.cons 7 (.wr (.cons 9 (.wr (.cons 10 (.wr (.cons 11 (.rd 12 (.fin)) (.nil))) (.nil))) (.nil))) (.cons 9 (.wr (.cons 7 (.wr (.cons 10 (.wr (.cons 11 (.rd 12 (.fin)) (.nil))) (.nil))) (.nil))) (.nil)))))))))))) (by kernel_rfl) (by kernel_rfl) ?_
      simp -dsimp [I, S, o0, o1, wi, hgs, hiS, hiS', hz, hX, set_ne, h0n, h1n]
      repeat' (with_reducible apply And.intro)
      · omega
      · refine aCall_of (hrc _ _) ?_
        rintro d m' n' ⟨q1, q2, q3, q4⟩
        refine ⟨fun p hp _ => ?_, ?_⟩
        · simp only [List.mem_cons, List.not_mem_nil, or_false] at hp
          rcases hp with rfl | rfl
          · exact q4 _ (by dsimp only; omega)
          · exact q4 _ (by dsimp only; omega)
        simp -dsimp [I, S, o0, o1, wi, hgs, hiS, hiS', hz, hX, set_ne, h0n, h1n]
        refine ⟨⟨set_ne _ _ _ _ (by omega), set_ne _ _ _ _ (by omega)⟩, ?_⟩
        refine b4_append (es := ns.map fun s => [S s]) ?_ ?_ trivial trivial (by omega) (by simp; omega) ?_
        · exact q1.frame fun j hj => set_ne _ _ _ _ (by have := q3 j hj; omega)
        · exact fun j hj => by have := q3 j hj; omega
        intro da ma na a1 a2 a3 a4
        have hma : ∀ j, j < n2 → ma j = m2 j := fun j hj => by
          rw [a4 j (by omega) (fun e => by have := q3 j e; omega)]
          rw [set_ne _ _ _ _ (by omega), q4 j (by omega)]
        have ka : ∀ j, kof da = some j → n2 ≤ j := fun j hj => by
          have := a3 j hj
          rcases this.2 with e | e
          · exact (q3 j e).1 |> Nat.le_trans (by omega)
          · omega
        refine ⟨fun p hp _ => ?_, ?_⟩
        · simp only [List.mem_cons, List.not_mem_nil, or_false] at hp
          rcases hp with rfl | rfl
          · exact a4 _ (by dsimp only; omega) (fun e => by have := q3 _ e; dsimp only at this; omega)
          · exact a4 _ (by dsimp only; omega) (fun e => by have := q3 _ e; dsimp only at this; omega)
        simp -dsimp [I, S, wi, hgs, hiS, hiS', hz, hX, set_ne, h0n, h1n]
        have a1' : Lst ma 1 ((ns ++ [vars[i]]).map fun s => [S s]) da := by rw [List.map_append]; exact a1
        refine aCall_pubS (pre := [.agg X]) (post := []) (z := 1) a1' pur_ss (fun x hx => ?_) (by simp) ?_
        · simp only [List.mem_singleton] at hx
          subst hx
          exact Pur.agg hpX
        intro m3 hm3
        have hk3 : ∀ j, j < n2 → m3 j = m2 j := fun j hj => by rw [hm3 j fun e => by have := ka j e; omega, hma j hj]
        refine pcall hcl ?_
        refine ⟨fun p hp _ => ?_, ?_⟩
        · simp only [List.mem_cons, List.not_mem_nil, or_false] at hp
          rcases hp with rfl | rfl
          · exact hm3 _ fun e => by have := ka _ e; dsimp only at this; omega
          · exact hm3 _ fun e => by have := ka _ e; dsimp only at this; omega
        cases hce : cloT ss[i] (ns ++ [vars[i]]) with
        | true =>
          simp -dsimp [I, S, Tt, wi]
          refine rnd (i + 1) (by omega) (by simp [I]) ⟨by rw [hk3 n (by omega)]; exact o0, by rw [hk3 (n + 1) (by omega)]; exact o1, fun j hj => by rw [hk3 j (by omega)]; exact hfr j hj, by omega, by omega, fun j q1 q2 q3 => ?_⟩
          rcases Nat.lt_or_ge j i with q | q
          · exact hall j q1 q2 q
          · obtain rfl : j = i := by omega
            exact hce
        | false =>
          simp -dsimp [I, S, Tt, wi]
          refine pcq ?_ fun j hj => by rw [hk3 j (by omega)]; exact hfr j hj
          have : cloB ss vars ns = false := by
            rw [Bool.eq_false_iff]
            intro h
            have := (cloB_iff ss vars ns hsl).1 h i his hi'
            rw [hce] at this
            cases this
          simp [this, Tt]
      · refine aCall_of (hrc _ _) ?_
        rintro d m' n' ⟨q1, q2, q3, q4⟩
        refine ⟨fun p hp _ => ?_, ?_⟩
        · simp only [List.mem_cons, List.not_mem_nil, or_false] at hp
          rcases hp with rfl | rfl
          · exact q4 _ (by dsimp only; omega)
          · exact q4 _ (by dsimp only; omega)
        have hn2' : m' n2 = some ⟨1, [[.v (.string (ofL vars[i]))]], 0⟩ := by rw [q4 n2 (by omega), set_same]
        simp -dsimp [I, S, o0, o1, wi, hgs, hiS, hiS', hz, hX, set_ne, h0n, h1n, hn2']
        refine b4_append (es := ns.map fun s => [S s]) ?_ ?_ trivial trivial (by omega) (by simp; omega) ?_
        · exact q1
        · exact fun j hj => by have := q3 j hj; omega
        intro da ma na a1 a2 a3 a4
        have hma : ∀ j, j < n2 → ma j = m2 j := fun j hj => by
          rw [a4 j (by omega) (fun e => by have := q3 j e; omega)]
          rw [q4 j (by omega), set_ne _ _ _ _ (by omega)]
        have ka : ∀ j, kof da = some j → n2 ≤ j := fun j hj => by
          have := a3 j hj
          rcases this.2 with e | e
          · exact (q3 j e).1 |> Nat.le_trans (by omega)
          · omega
        refine ⟨fun p hp _ => ?_, ?_⟩
        · simp only [List.mem_cons, List.not_mem_nil, or_false] at hp
          rcases hp with rfl | rfl
          · exact a4 _ (by dsimp only; omega) (fun e => by have := q3 _ e; dsimp only at this; omega)
          · exact a4 _ (by dsimp only; omega) (fun e => by have := q3 _ e; dsimp only at this; omega)
        simp -dsimp [I, S, wi, hgs, hiS, hiS', hz, hX, set_ne, h0n, h1n]
        have a1' : Lst ma 1 ((ns ++ [vars[i]]).map fun s => [S s]) da := by rw [List.map_append]; exact a1
        refine aCall_pubS (pre := [.agg X]) (post := []) (z := 1) a1' pur_ss (fun x hx => ?_) (by simp) ?_
        · simp only [List.mem_singleton] at hx
          subst hx
          exact Pur.agg hpX
        intro m3 hm3
        have hk3 : ∀ j, j < n2 → m3 j = m2 j := fun j hj => by rw [hm3 j fun e => by have := ka j e; omega, hma j hj]
        refine pcall hcl ?_
        refine ⟨fun p hp _ => ?_, ?_⟩
        · simp only [List.mem_cons, List.not_mem_nil, or_false] at hp
          rcases hp with rfl | rfl
          · exact hm3 _ fun e => by have := ka _ e; dsimp only at this; omega
          · exact hm3 _ fun e => by have := ka _ e; dsimp only at this; omega
        cases hce : cloT ss[i] (ns ++ [vars[i]]) with
        | true =>
          simp -dsimp [I, S, Tt, wi]
          refine rnd (i + 1) (by omega) (by simp [I]) ⟨by rw [hk3 n (by omega)]; exact o0, by rw [hk3 (n + 1) (by omega)]; exact o1, fun j hj => by rw [hk3 j (by omega)]; exact hfr j hj, by omega, by omega, fun j q1 q2 q3 => ?_⟩
          rcases Nat.lt_or_ge j i with q | q
          · exact hall j q1 q2 q
          · obtain rfl : j = i := by omega
            exact hce
        | false =>
          simp -dsimp [I, S, Tt, wi]
          refine pcq ?_ fun j hj => by rw [hk3 j (by omega)]; exact hfr j hj
          have : cloB ss vars ns = false := by
            rw [Bool.eq_false_iff]
            intro h
            have := (cloB_iff ss vars ns hsl).1 h i his hi'
            rw [hce] at this
            cases this
          simp [this, Tt]
    · have e : i = vars.length := by omega
      subst e
      have hS0' : 0 < SL.length := by omega
      have hg0 : SL[0] = tmD s0 := get_opt hS0 hS0'
      have hz : (tmD s0).length = 8 := by simp
      have hcB : cloB ss vars ns = true := (cloB_iff ss vars ns hsl).2 fun j q1 q2 => hall j q1 q2 q2
      rw [hcB, Bool.and_true]
      generalize tmD s0 = X at hg0 hz hc0
      have hX : List.take 8 X = X := List.take_of_length_le (by omega)
      simp -dsimp [I, S, hi]
      refine vdraw_tree [0, 1, 3, 7, 0, 31, 63] (.rd 0 (.rd 1 (.rd 2 (.rd 3 (.rd 4 (.wr (.cons 5 (.rd 6 (.fin)) (.nil)))))))) (by kernel_rfl) (by kernel_rfl) ?_
      simp -dsimp [I, S, o0, o1, hg0, hS0', hz, hX]
      refine pcall hc0 ?_
      refine ⟨fun _ _ _ => rfl, ?_⟩
      simp -dsimp [I, S, Tt]
      exact pcq rfl fun j hj => hfr j hj
  rw [if_neg k3, if_neg k8, if_neg k12]
  have b3 : (k == 3) = false := by simpa using k3
  have b8 : (k == 8) = false := by simpa using k8
  have b12 : (k == 12) = false := by simpa using k12
  refine acalls_vc [0, 1, 2, 3, 4, 5, 6, 8, 9, 15, 27, 30, 31, 32, 33, 49] Tryz.func45 Tryz.ntmps45 (by kernel_rfl) rfl rfl (by simp) ?_
  simp -dsimp [I, S, set_ne, nn1, n1n, b3, b8, b12]
  refine pcallAt (cHasTmA (q := fun x => !cloT x ns) (by simp) (fun x hx => cClosed1 (ih' x hx ns (by omega)) (by omega) (by simp)) (by omega)) ?_
  simp -dsimp [Tt]
  exact pcq (by rw [cloTs_any]) (fr _ _)
theorem cClosedW {t : Tm} (ht : TmW t) : Pc Tryz.prog 21 [.agg (tmD t)] (Tt (mayTm t && cloT t [])) := by
  refine pc_of (pur_T _) (fun m n => ?_)
  have hz : (tmD t).length = 8 := by simp
  have h1 := cMayTm ht
  have h2 : mayTm t = true → Pc Tryz.prog 45 [.agg (tmD t), sl1 []] (Tt (cloT t [])) := fun h => by
    simp only [mayTm, Bool.and_eq_true, decide_eq_true_eq] at h
    exact cClosedT ht h.1.1 (by simp; omega)
  generalize tmD t = X at h1 h2 hz
  have hX : List.take 8 X = X := List.take_of_length_le (by omega)
  refine acalls_vc [0, 1, 2] Tryz.func21 Tryz.ntmps21 (by kernel_rfl) rfl rfl (by simp) ?_
  simp -dsimp [hz, hX]
  refine pcall h1 ?_
  cases hm : mayTm t with
  | false =>
    simp -dsimp [Tt]
    exact pcq rfl fun j hj => set_ne _ _ _ _ (by omega)
  | true =>
    have h2 := h2 hm
    simp -dsimp [Tt, hz, hX]
    refine aCall_le (.cons (Le.refl _) (.cons (Le_nil 1) .nil)) ?_
    refine pcall h2 ?_
    simp -dsimp [Tt]
    exact pcq rfl fun j hj => set_ne _ _ _ _ (by omega)
end Go.Proofs.Mv.App
