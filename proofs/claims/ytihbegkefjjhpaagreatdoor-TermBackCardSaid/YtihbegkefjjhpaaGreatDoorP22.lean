/- A part of the proofs: machine, contracts, laws. No condition of its own. -/
import Derived.Test.YtihbegkefjjhpaaGreatDoorP04
import Derived.Test.YtihbegkefjjhpaaGreatDoorP09
import Derived.Test.YtihbegkefjjhpaaGreatDoorP21
import Derived.Test.YtihbegkefjjhpaaGreatDoorP07
import Derived.Test.YtihbegkefjjhpaaGreatDoorP12
import Derived.Test.YtihbegkefjjhpaaGreatDoorP17
import Derived.Test.YtihbegkefjjhpaaGreatDoorP20
import Derived.Test.YtihbegkefjjhpaaGreatDoorP01
import Derived.Test.YtihbegkefjjhpaaGreatDoorP00
import Derived.Test.YtihbegkefjjhpaaGreatDoorMvPc
set_option linter.unusedSimpArgs false
set_option linter.unusedVariables false
set_option linter.unusedSectionVars false
open Go Go.Proofs Go.Proofs.Mv.V
set_option maxRecDepth 10000
namespace Go.Proofs.Mv.App
def encS (s : List UInt8) : List D := [S s]
theorem cIdxTyS {l : List (Ty)} {q : Ty → Bool} {fp : FuncId} {cs : List D} (hcs : List.length cs ≤ 3) (hp : ∀ x ∈ l, Pc Tryz.prog fp (.agg (tyD x) :: cs) (Tt (q x))) (hlen : l.length ≤ 9223372036854775807) :
  Pc Tryz.prog 159 [.sl 7 (l.map tyD), .func (.func fp) [] cs] (I (findI q l)) := by
 refine pc_of (pur_I _) (fun m n => ?_)
 have hL2 : (l.map tyD).length = l.length := by simp
 have hG2 : ∀ i (h : i < l.length), (l.map tyD)[i]? = some (tyD l[i]) := fun i h => by simp [h]
 generalize l.map tyD = EL at hL2 hG2
 refine acalls_vc [0, 1, 4, 5, 7, 8, 9, 16] Tryz.func159 Tryz.ntmps159 (by kernel_rfl) rfl rfl (by simp) ?_
 simp -dsimp [hL2, I]
 refine vloop_as (β := Nat) (fun i => [(0, .sl 7 EL), (1, .func (.func fp) [] cs), (7, I l.length), (8, I i)]) (fun i m2 n2 => m2 = m ∧ n2 = n ∧ i ≤ l.length ∧ ∀ x ∈ l.take i, q x = false) (fun i => l.length - i) 0 (by simp [I]) ⟨rfl, rfl, by omega, by simp⟩ ?_
 rintro i m2 n2 ⟨rfl, rfl, le, hno⟩
 by_cases hi : (i : Int) < l.length
 ·have hi' : i < l.length := by omega
  have wi : IntKind.i64.wrap ((i : Int) + 1) = (i : Int) + 1 := wrap_i64 (by omega) (by omega)
  have hiN : i < EL.length := by omega
  have hgi : EL[i] = tyD l[i] := get_opt (hG2 i hi') hiN
  have hz : (tyD l[i]).length = 7 := by simp
  have hc := hp l[i] (List.getElem_mem hi')
  generalize tyD l[i] = XX at hgi hz hc
  have htz : List.take 7 XX = XX := List.take_of_length_le (by omega)
  simp -dsimp [I, Tt, hi, hi', hiN, hgi, hz, htz]
  refine pcall hc ?_
  cases e : q l[i] with
  | true =>
   simp -dsimp [I, Tt]
   exact pcq' (by rw [findI_hit hi' e hno])
  | false =>
   simp -dsimp [I, Tt, wi]
   refine rnd (i + 1) (by omega) (by simp [I]) ⟨rfl, rfl, by omega, fun x hx => ?_⟩
   rw [List.take_succ_eq_append_getElem hi'] at hx
   rcases List.mem_append.1 hx with hx | hx
   ·exact hno x hx
   ·simp at hx; rw [hx]; exact e
 ·have : i = l.length := by omega
  subst this
  rw [List.take_length] at hno
  simp -dsimp [I, Tt, hi]
  exact pcq' (by rw [findI_no hno])
theorem cHasTyS {l : List (Ty)} {q : Ty → Bool} {fp : FuncId} {cs : List D} (hcs : List.length cs ≤ 3) (hp : ∀ x ∈ l, Pc Tryz.prog fp (.agg (tyD x) :: cs) (Tt (q x))) (hlen : l.length ≤ 9223372036854775807) :
  Pc Tryz.prog 119 [.sl 7 (l.map tyD), .func (.func fp) [] cs] (Tt (l.any q)) := by
 refine pc_of (pur_T _) (fun m n => ?_)
 have hc := cIdxTyS hcs hp hlen
 generalize l.map tyD = EL at hc
 refine acalls_vc [0, 1, 4] Tryz.func119 Tryz.ntmps119 (by kernel_rfl) rfl rfl (by simp) ?_
 simp -dsimp
 refine pcall hc ?_
 have h := findI_any q l
 cases e : l.any q with
 | true =>
  have : 0 ≤ findI q l := h.2 e
  simp -dsimp [I, Tt, this]
  exact pcq' rfl
 | false =>
  have : ¬ 0 ≤ findI q l := fun h' => by rw [h.1 h'] at e; cases e
  simp -dsimp [I, Tt, this]
  exact pcq' rfl
theorem cIdxStrS {l : List (List UInt8)} {q : List UInt8 → Bool} {fp : FuncId} {cs : List D} (hcs : List.length cs ≤ 3) (hp : ∀ x ∈ l, Pc Tryz.prog fp (S x :: cs) (Tt (q x))) (hlen : l.length ≤ 9223372036854775807) :
  Pc Tryz.prog 161 [.sl 1 (l.map encS), .func (.func fp) [] cs] (I (findI q l)) := by
 refine pc_of (pur_I _) (fun m n => ?_)
 have hL2 : (l.map encS).length = l.length := by simp
 have hG2 : ∀ i (h : i < l.length), (l.map encS)[i]? = some (encS l[i]) := fun i h => by simp [h]
 generalize l.map encS = EL at hL2 hG2
 refine acalls_vc [0, 1, 4, 5, 7, 8, 9, 16] Tryz.func161 Tryz.ntmps161 (by kernel_rfl) rfl rfl (by simp) ?_
 simp -dsimp [hL2, I]
 refine vloop_as (β := Nat) (fun i => [(0, .sl 1 EL), (1, .func (.func fp) [] cs), (7, I l.length), (8, I i)]) (fun i m2 n2 => m2 = m ∧ n2 = n ∧ i ≤ l.length ∧ ∀ x ∈ l.take i, q x = false) (fun i => l.length - i) 0 (by simp [I]) ⟨rfl, rfl, by omega, by simp⟩ ?_
 rintro i m2 n2 ⟨rfl, rfl, le, hno⟩
 by_cases hi : (i : Int) < l.length
 ·have hi' : i < l.length := by omega
  have wi : IntKind.i64.wrap ((i : Int) + 1) = (i : Int) + 1 := wrap_i64 (by omega) (by omega)
  have hiN : i < EL.length := by omega
  have hgi : EL[i] = encS l[i] := get_opt (hG2 i hi') hiN
  have hc := hp l[i] (List.getElem_mem hi')
  simp -dsimp [I, Tt, hi, hi', hiN, hgi, S, encS]
  refine pcall hc ?_
  cases e : q l[i] with
  | true =>
   simp -dsimp [I, Tt]
   exact pcq' (by rw [findI_hit hi' e hno])
  | false =>
   simp -dsimp [I, Tt, wi]
   refine rnd (i + 1) (by omega) (by simp [I]) ⟨rfl, rfl, by omega, fun x hx => ?_⟩
   rw [List.take_succ_eq_append_getElem hi'] at hx
   rcases List.mem_append.1 hx with hx | hx
   ·exact hno x hx
   ·simp at hx; rw [hx]; exact e
 ·have : i = l.length := by omega
  subst this
  rw [List.take_length] at hno
  simp -dsimp [I, Tt, hi]
  exact pcq' (by rw [findI_no hno])
theorem cHasStrS {l : List (List UInt8)} {q : List UInt8 → Bool} {fp : FuncId} {cs : List D} (hcs : List.length cs ≤ 3) (hp : ∀ x ∈ l, Pc Tryz.prog fp (S x :: cs) (Tt (q x))) (hlen : l.length ≤ 9223372036854775807) :
  Pc Tryz.prog 122 [.sl 1 (l.map encS), .func (.func fp) [] cs] (Tt (l.any q)) := by
 refine pc_of (pur_T _) (fun m n => ?_)
 have hc := cIdxStrS hcs hp hlen
 generalize l.map encS = EL at hc
 refine acalls_vc [0, 1, 4] Tryz.func122 Tryz.ntmps122 (by kernel_rfl) rfl rfl (by simp) ?_
 simp -dsimp
 refine pcall hc ?_
 have h := findI_any q l
 cases e : l.any q with
 | true =>
  have : 0 ≤ findI q l := h.2 e
  simp -dsimp [I, Tt, this]
  exact pcq' rfl
 | false =>
  have : ¬ 0 ≤ findI q l := fun h' => by rw [h.1 h'] at e; cases e
  simp -dsimp [I, Tt, this]
  exact pcq' rfl
theorem cShape1 {t : Ty} (ht : TyW t) : Pc Tryz.prog 120 [.agg (tyD t)] (Tt (!mayT t)) := by
 refine pc_of (pur_T _) (fun m n => ?_)
 have hc : Pc Tryz.prog 121 [.agg (tyD t)] (Tt (mayT t)) := cMay ht
 have hz : (tyD t).length = 7 := by simp
 generalize tyD t = XX at hc hz
 have htz : List.take 7 XX = XX := List.take_of_length_le (by omega)
 refine acalls_vc [0, 1, 2] Tryz.func120 Tryz.ntmps120 (by kernel_rfl) rfl rfl (by simp) ?_
 simp -dsimp [hz, htz]
 refine pcall hc ?_
 simp -dsimp [Tt]
 exact pcq rfl fun j hj => set_ne _ _ _ _ (by omega)
theorem cShape2 {s : List UInt8} (hs : s.length ≤ 9223372036854775807) : Pc Tryz.prog 123 [S s] (Tt (!nameN s)) := by
 refine pc_of (pur_T _) (fun m n => ?_)
 have hc := cNameT hs
 refine acalls_vc [0, 2] Tryz.func123 Tryz.ntmps123 (by kernel_rfl) rfl rfl (by simp) ?_
 simp -dsimp [S]
 refine pcall hc ?_
 simp -dsimp [Tt]
 exact pcq' rfl
def bareV (t : Tm) (x y z : Bool) : Bool := match t with
 | .mk _ N mod nm _ _ _ _ => (x || decide (N = 0)) && (y || decide (mod = [])) && (z || decide (nm = []))
set_option maxHeartbeats 2000000 in
theorem cBareT (t : Tm) (x y z : Bool) : Pc Tryz.prog 114 [.agg (tmD t), Tt x, Tt y, Tt z] (Tt (bareV t x y z)) := by
 refine pc_of (pur_T _) (fun m n => ?_)
 obtain ⟨k, N, mod, nm, names, vars, types, subs⟩ := t
 have fr : ∀ o j, j < n → (m.set n o) j = m j := fun o j hj => set_ne _ _ _ _ (by omega)
 simp only [tmD, bareV, sl1]
 generalize (names.map fun s => [S s]) = NL
 generalize (vars.map fun s => [S s]) = VL
 generalize types.map tyD = YL
 generalize tmsD subs = SL
 obtain ⟨c1, b1, g1⟩ : ∃ c : Bool, (N == 0) = c ∧ decide (N = 0) = c := ⟨N == 0, rfl, by rw [Bool.eq_iff_iff]; simp⟩
 obtain ⟨c2, b2, g2⟩ : ∃ c : Bool, (mod == []) = c ∧ decide (mod = []) = c := ⟨mod == [], rfl, by rw [Bool.eq_iff_iff]; simp⟩
 obtain ⟨c3, b3, g3⟩ : ∃ c : Bool, (nm == []) = c ∧ decide (nm = []) = c := ⟨nm == [], rfl, by rw [Bool.eq_iff_iff]; simp⟩
 rw [g1, g2, g3]
 refine acalls_vc [0, 1, 2, 3, 4, 8] Tryz.func114 Tryz.ntmps114 (by kernel_rfl) rfl rfl (by simp) ?_
 cases x <;> cases y <;> cases z <;> cases c1 <;> cases c2 <;> cases c3 <;>
  (simp -dsimp [I, S, Tt, b1, b2, b3]; exact pcq rfl (fr _))
end Go.Proofs.Mv.App
open Go Go.Proofs Go.Proofs.Mv.V
set_option maxRecDepth 10000
namespace Go.Proofs.Mv.App
theorem sl_len {w : World} {ν : Nu} {F : Nat → Prop} {z : Nat} {es : List (List D)} {y : Value} (h : Con w ν F (.sl z es) y) : ∃ a c, y = .slice a es.length c := by
 simp only [Con] at h
 rcases h with ⟨b, o, c, rfl, _⟩ | ⟨rfl, a, rfl⟩
 ·exact ⟨_, _, rfl⟩
 ·exact ⟨a, 0, rfl⟩
theorem ans_of {P : Program} {f : FuncId} {args : List D} {b : Bool} {w : World} {ν : Nu} {F : Nat → Prop} {m : Mem} {n : Nat} {vals : Array Value} (hst : St w ν F m n) (hp : Pc P f args (Tt b)) (ha : belowL 0 args = true) (hv : ConVs w ν F args vals.toList) : Ans P f vals w (.bool b) := by
 intro W hb
 refine (calls_all (hp _ _) ha (st_blw hst hb) (ConVs.mono (ext_blw hst hb) _ _ hv)).mono ?_
 rintro e w' ⟨v, rfl, hb2, ν', F', hcv⟩
 simp only [Con, Tt] at hcv; subst hcv
 exact ⟨rfl, hb2⟩
theorem blw_pur {d : D} (h : Pur d) : below 0 d = true := h.2 0
set_option maxHeartbeats 4000000 in
theorem cShapeT {t : Tm} (ht : TmW t) : Pc Tryz.prog 67 [.agg (tmD t)] (Tt (shapeTm t)) := by
 intro m n
 refine acalls_blw ⟨_, Tryz.func67, by kernel_rfl, by kernel_rfl⟩ fun w ν F vals hst hv => ?_
 obtain ⟨y, rfl, hy⟩ := conVs_arr1 hv
 obtain ⟨k, N, mod, nm, names, vars, types, subs⟩ := t
 cases ht with | mk _ _ _ _ _ _ _ _ w1 w2 w3 w4 w5 w6 w7 w8 w9 w10 =>
 have hy0 := hy
 have hT : TmW (.mk k N mod nm names vars types subs) := .mk _ _ _ _ _ _ _ _ w1 w2 w3 w4 w5 w6 w7 w8 w9 w10
 simp only [tmD, sl1] at hy
 rw [Con] at hy
 obtain ⟨ys, rfl, hys, _⟩ := hy
 simp only [ConVs] at hys
 obtain ⟨v0, r0, e0, h0, v1, r1, e1, h1, v2, r2, e2, h2, v3, r3, e3, h3, v4, r4, e4, h4, v5, r5, e5, h5, v6, r6, e6, h6, v7, r7, e7, h7, e8⟩ := hys
 subst e8; subst e7; subst e6; subst e5; subst e4; subst e3; subst e2; subst e1
 obtain rfl : ys = #[v0, v1, v2, v3, v4, v5, v6, v7] := Array.toList_inj.1 e0
 obtain ⟨a4, c4, rfl⟩ := sl_len h4
 obtain ⟨a5, c5, rfl⟩ := sl_len h5
 obtain ⟨a6, c6, rfl⟩ := sl_len h6
 obtain ⟨a7, c7, rfl⟩ := sl_len h7
 simp only [Con, S, I] at h0 h1 h2 h3
 subst h0; subst h1; subst h2; subst h3
 simp only [List.length_map, tmsD_eq] at hy0 h4 h5 h6 h7 ⊢
 have hbare : ∀ x y z, Ans Tryz.prog 114 #[.agg #[.int .i64 k, .int .i64 N, .string (ofL mod), .string (ofL nm), .slice a4 names.length c4, .slice a5 vars.length c5, .slice a6 types.length c6, .slice a7 subs.length c7], .bool x, .bool y, .bool z] w (.bool (bareV (.mk k N mod nm names vars types subs) x y z)) := fun x y z =>
  ans_of hst (cBareT _ x y z) (by have := blw_pur (pur_tmA (.mk k N mod nm names vars types subs)); simp [belowL, below, Tt] at this ⊢; exact this) (by simp only [ConVs]; exact ⟨_, _, rfl, hy0, by simp [ConVs, Con, Tt]⟩)
 have hnm : Ans Tryz.prog 115 #[.string (ofL nm)] w (.bool (nameN nm)) := ans_of hst (cNameT w6) rfl (by simp [ConVs, Con, S])
 have hmod : Ans Tryz.prog 115 #[.string (ofL mod)] w (.bool (nameN mod)) := ans_of hst (cNameT w5) rfl (by simp [ConVs, Con, S])
 have htag : Ans Tryz.prog 117 #[.string (ofL nm)] w (.bool (tagN nm)) := ans_of hst (cTagT w6) rfl (by simp [ConVs, Con, S])
 have hbn : below 0 (sl1 names) = true := blw_pur (pur_sl1 names)
 have hbv : below 0 (sl1 vars) = true := blw_pur (pur_sl1 vars)
 have hby : below 0 (.sl 7 (types.map tyD)) = true := blw_pur (Pur.sl (pur_tym types))
 have hrn : Ans Tryz.prog 116 #[.slice a4 names.length c4, .func (.func 115) #[] #[]] w (.bool (risO nameN names)) :=
  ans_of hst (cRisingT w1 fun s hs => cNameT (w7 s hs)) (by simp only [belowL, hbn, Bool.true_and]; rfl) (by simp only [ConVs]; exact ⟨_, _, rfl, h4, _, _, rfl, by simp [Con, ConVs], rfl⟩)
 have hrt : Ans Tryz.prog 116 #[.slice a4 names.length c4, .func (.func 117) #[] #[]] w (.bool (risO tagN names)) :=
  ans_of hst (cRisingT w1 fun s hs => cTagT (w7 s hs)) (by simp only [belowL, hbn, Bool.true_and]; rfl) (by simp only [ConVs]; exact ⟨_, _, rfl, h4, _, _, rfl, by simp [Con, ConVs], rfl⟩)
 have hdist : Ans Tryz.prog 118 #[.slice a4 names.length c4] w (.bool (names.all nameN && distN names)) :=
  ans_of hst (cDistinctT w1 w7) (by simp only [belowL, hbn, Bool.true_and]) (by simp only [ConVs]; exact ⟨_, _, rfl, h4, rfl⟩)
 have hty : Ans Tryz.prog 119 #[.slice a6 types.length c6, .func (.func 120) #[] #[]] w (.bool (types.any fun t => !mayT t)) :=
  ans_of hst (cHasTyS (q := fun t => !mayT t) (by simp) (fun x hx => cShape1 (w9 x hx)) w3) (by simp only [belowL, hby, Bool.true_and]; rfl) (by simp only [ConVs]; exact ⟨_, _, rfl, h6, _, _, rfl, by simp [Con, ConVs], rfl⟩)
 have hbv' : below 0 (.sl 1 (vars.map encS)) = true := hbv
 have hvr : Ans Tryz.prog 122 #[.slice a5 vars.length c5, .func (.func 123) #[] #[]] w (.bool (vars.any fun s => !nameN s)) :=
  ans_of hst (cHasStrS (l := vars) (q := fun s => !nameN s) (by simp) (fun x hx => cShape2 (w8 x hx)) w2) (by simp only [belowL, hbv', Bool.true_and]; rfl) (by simp only [ConVs]; exact ⟨_, _, rfl, h5, _, _, rfl, by simp [Con, ConVs], rfl⟩)
 have hY : (!(types.any fun t => !mayT t)) = types.all mayT := by simp [List.all_eq_not_any_not]
 have hV : (!(vars.any fun s => !nameN s)) = vars.all nameN := by simp [List.all_eq_not_any_not]
 have hF : decide (names.length ≤ 21 ∧ vars.length ≤ 21 ∧ types.length ≤ 21 ∧ subs.length ≤ 21) = fitsT names vars types subs := by simp [fitsT, Bool.and_assoc]
 have hZ : ∀ a b c d : Nat, decide (names.length = a ∧ vars.length = b ∧ types.length = c ∧ subs.length = d) = cntsT names vars types subs a b c d := fun a b c d => by simp [cntsT, Bool.and_assoc]
 have fin : ∀ {b : Bool}, Calls Tryz.prog 67 #[.agg #[.int .i64 k, .int .i64 N, .string (ofL mod), .string (ofL nm), .slice a4 names.length c4, .slice a5 vars.length c5, .slice a6 types.length c6, .slice a7 subs.length c7]] w (fun e w' => e = .returned (.bool b) ∧ Blw w.heap.size w w') → b = shapeTm (.mk k N mod nm names vars types subs) →
   Calls Tryz.prog 67 #[.agg #[.int .i64 k, .int .i64 N, .string (ofL mod), .string (ofL nm), .slice a4 names.length c4, .slice a5 vars.length c5, .slice a6 types.length c6, .slice a7 subs.length c7]] w (fun e w' => ∃ v, e = .returned v ∧ Blw w.heap.size w w' ∧ ∃ d, Con w' ν F d v ∧ d = Tt (shapeTm (.mk k N mod nm names vars types subs)) ∧ True ∧ True) := fun {b} h e => by
  subst e
  refine h.mono ?_
  rintro e w' ⟨rfl, hb⟩
  exact ⟨_, rfl, hb, Tt _, by simp [Con, Tt], rfl, trivial, trivial⟩
 have hB : ∀ x y z, x = (decide (k = 1) || decide (k = 2)) → y = decide (k = 4) → z = (decide (k = 3) || decide (k = 4) || decide (k = 6) || decide (k = 7)) → bareV (.mk k N mod nm names vars types subs) x y z = bareTm k N mod nm := fun x y z hx hy hz => by
  subst hx; subst hy; subst hz
  simp only [bareV, bareTm]
  ac_rfl
 by_cases k1 : k = 1
 ·subst k1
  refine fin (shape_1 hF (hbare true false false) rfl rfl (hZ 0 0 0 0)) ?_
  rw [hB true false false rfl rfl rfl]
  simp [shapeTm, kindTm]
  try ac_rfl
 by_cases k2 : k = 2
 ·subst k2
  refine fin (shape_2 hF (hbare true false false) rfl (hZ 0 0 0 0)) ?_
  rw [hB true false false rfl rfl rfl]
  simp [shapeTm, kindTm]
  try ac_rfl
 by_cases k3 : k = 3
 ·subst k3
  refine fin (shape_3 hF (hbare false false true) hnm (hZ 0 0 0 0)) ?_
  rw [hB false false true rfl rfl rfl]
  simp [shapeTm, kindTm]
  try ac_rfl
 by_cases k4 : k = 4
 ·subst k4
  refine fin (shape_4 hF (hbare false true true) hmod hnm (hZ 0 0 0 0)) ?_
  rw [hB false true true rfl rfl rfl]
  simp [shapeTm, kindTm]
  try ac_rfl
 by_cases k5 : k = 5
 ·subst k5
  refine fin (shape_5 hF (hbare false false false) (hZ names.length 0 0 names.length) hrn) ?_
  rw [hB false false false rfl rfl rfl]
  simp [shapeTm, kindTm]
  try ac_rfl
 by_cases k6 : k = 6
 ·subst k6
  refine fin (shape_6 hF (hbare false false true) (hZ 0 0 0 1) hnm) ?_
  rw [hB false false true rfl rfl rfl]
  simp [shapeTm, kindTm]
  try ac_rfl
 by_cases k7 : k = 7
 ·subst k7
  refine fin (shape_7 hF (hbare false false true) (hZ 0 0 0 1) htag) ?_
  rw [hB false false true rfl rfl rfl]
  simp [shapeTm, kindTm]
  try ac_rfl
 by_cases k8 : k = 8
 ·subst k8
  refine fin (shape_8 hF (hbare false false false) (hZ names.length 0 names.length 1) hdist hty) ?_
  rw [hB false false false rfl rfl rfl, hY]
  simp [shapeTm, kindTm]
  try ac_rfl
 by_cases k9 : k = 9
 ·subst k9
  refine fin (shape_9 hF (hbare false false false) (hZ 0 0 0 subs.length) rfl) ?_
  rw [hB false false false rfl rfl rfl]
  simp [shapeTm, kindTm]
  try ac_rfl
 by_cases k10 : k = 10
 ·subst k10
  refine fin (shape_10 hF (hbare false false false) (hZ 0 0 0 subs.length) rfl) ?_
  rw [hB false false false rfl rfl rfl]
  simp [shapeTm, kindTm]
  try ac_rfl
 by_cases k11 : k = 11
 ·subst k11
  refine fin (shape_11 hF (hbare false false false) (hZ 0 0 0 3)) ?_
  rw [hB false false false rfl rfl rfl]
  simp [shapeTm, kindTm]
  try ac_rfl
 by_cases k12 : k = 12
 ·subst k12
  refine fin (shape_12 hF (hbare false false false) rfl (hZ names.length names.length 0 (names.length + 1)) hrt hvr) ?_
  rw [hB false false false rfl rfl rfl, hV]
  simp [shapeTm, kindTm]
  try ac_rfl
 refine fin (shape_0 hF k1 k2 k3 k4 k5 k6 k7 k8 k9 k10 k11 k12) ?_
 simp [shapeTm, kindTm, k1, k2, k3, k4, k5, k6, k7, k8, k9, k10, k11, k12]
end Go.Proofs.Mv.App
open Go Go.Proofs Go.Proofs.Mv.V
set_option maxRecDepth 10000
namespace Go.Proofs.Mv.App
structure CntInvT (SL : List (List D)) (subs : List Tm) (depth most : Int) (m : Mem) (n : Nat) (i : Nat) (σ : Nat → D) (m2 : Mem) (n2 : Nat) : Prop where
 h1 : σ 1 = I depth
 h2 : σ 2 = I most
 h3 : σ 3 = .ptr n 0 0 0
 h7 : σ 7 = I (1 + manyTms (subs.take i))
 h23 : σ 23 = .sl 8 SL
 h24 : σ 24 = I subs.length
 h25 : σ 25 = I i
 le : i ≤ subs.length
 ok : CntOkT subs depth most i
 nn : n + 1 ≤ n2
 fr : ∀ j, j < n → m2 j = m j
set_option maxHeartbeats 2000000 in
theorem cCountTm {t : Tm} (ht : TmW t) : ∀ (depth most : Int) (m : Mem) (n : Nat), depth ≤ 1000000 → 0 ≤ depth → most ≤ 1000000 → -1000000 ≤ most → ACalls Tryz.prog 39 [.agg (tmD t), I depth, I most] m n (fun d m' n' => d = I (cntTm t depth most) ∧ m' = m ∧ n' = n) := by
 induction ht with
 | mk kind num mod name names vars types subs l1 l2 l3 l4 l5 l6 l7 l8 l9 l10 ih =>
  intro depth most m n d1 d2 q1 q2
  refine acalls_done (R' := Hq (fun d m' n' => d = I (cntTm (.mk kind num mod name names vars types subs) depth most) ∧ ∀ j, j < n → m' j = m j) tg) ?_ ?_
  ·have fr : ∀ o j, j < n → (m.set n o) j = m j := fun o j hj => by rw [set_ne _ _ _ _ (by omega)]
   have hL2 : (tmsD subs).length = subs.length := by rw [tmsD_eq]; simp
   have hG2 : ∀ i (h : i < subs.length), (tmsD subs)[i]? = some (tmD subs[i]) := fun i h => by rw [tmsD_eq]; simp [h]
   have hcs := fun m n => cShapeT (.mk kind num mod name names vars types subs l1 l2 l3 l4 l5 l6 l7 l8 l9 l10) m n
   have hno : ∀ h, cntTm (.mk kind num mod name names vars types subs) depth most = 0 := fun h => cntTm_no h
   have hst : ∀ {i : Nat} (hi : i < subs.length), cntTm subs[i] (depth - 1) (most - (1 + manyTms (subs.take i))) = 0 → cntTm (.mk kind num mod name names vars types subs) depth most = 0 := fun hi h => CntOkT.stop hi h
   have hal : ∀ {i : Nat}, shapeTm (.mk kind num mod name names vars types subs) = true → CntOkT subs depth most i → subs.length ≤ i → cntTm (.mk kind num mod name names vars types subs) depth most = 1 + manyTms subs := fun h1 h2 h3 => CntOkT.all h1 h2 h3
   simp only [tmD, sl1] at hcs ⊢
   generalize cntTm (.mk kind num mod name names vars types subs) depth most = CT at hno hst hal
   generalize shapeTm (.mk kind num mod name names vars types subs) = SH at hno hcs hal
   generalize (names.map fun s => [S s]) = NL at hcs
   generalize (vars.map fun s => [S s]) = VL at hcs
   generalize types.map tyD = YL at hcs
   generalize tmsD subs = SL at hL2 hG2 hcs
   refine acalls_vc [0, 1, 2, 3, 6, 7, 9, 10, 21, 23, 24, 25, 26, 37] Tryz.func39 Tryz.ntmps39 (by kernel_rfl) rfl rfl (by simp) ?_
   by_cases c1 : depth < 1
   ·simp -dsimp [I, c1]
    exact hq ⟨by rw [hno (.inl c1)]; rfl, fr _⟩
   by_cases c2 : most < 1
   ·simp -dsimp [I, c1, c2]
    exact hq ⟨by rw [hno (.inr (.inl c2))]; rfl, fr _⟩
   simp -dsimp [I, c1, c2]
   refine aCall_of (hcs _ _) ?_
   rintro d m' n' ⟨rfl, rfl, rfl⟩
   cases hS : SH with
   | false =>
    simp -dsimp [I, c1, c2, Tt]
    exact hq ⟨by rw [hno (.inr (.inr hS))]; rfl, fr _⟩
   | true =>
   simp -dsimp [I, c1, c2, Tt]
   refine vloop_of (β := Nat) (CntInvT SL subs depth most m n) (fun i => subs.length - i) 0 ⟨by simp [I], by simp [I], by simp, by simp [I, manyTms], by simp, by simp [I, hL2], by simp [I], by omega, CntOkT.zero (by omega) (by omega), by omega, fr _⟩ ?_
   rintro i σ m2 n2 ⟨h1, h2, h3, h7, h23, h24, h25, le, ok, nn, fr2⟩
   by_cases hi : (i : Int) < subs.length
   ·have hi' : i < subs.length := by omega
    have wi : IntKind.i64.wrap ((i : Int) + 1) = (i : Int) + 1 := wrap_i64 (by omega) (by omega)
    have hiN : i < SL.length := by omega
    have hgi : SL[i] = tmD subs[i] := get_opt (hG2 i hi') hiN
    have hsn := manyTms_snoc (subs.take i) subs[i]
    rw [← take_snoc hi'] at hsn
    have hmn := ok.mn
    have hstp := ok.step hi'
    have hs0 := hst hi'
    have hih := fun m n => ih subs[i] (List.getElem_mem hi') (depth - 1) (most - (1 + manyTms (subs.take i))) m n (by omega) (by omega) (by omega) (by omega)
    have hcl := cntTm_le subs[i] (depth - 1) (most - (1 + manyTms (subs.take i)))
    have hce := cntTm_eq (t := subs[i]) (d := depth - 1) (q := most - (1 + manyTms (subs.take i)))
    have wd : IntKind.i64.wrap (depth - 1) = depth - 1 := wrap_i64 (by omega) (by omega)
    have wm : IntKind.i64.wrap (most - (1 + (manyTms (subs.take i) : Int))) = most - (1 + (manyTms (subs.take i) : Int)) := wrap_i64 (by omega) (by omega)
    have h77 := tmD_len subs[i]
    generalize tmD subs[i] = TT at hgi hih h77
    have ht7 : List.take 8 TT = TT := List.take_of_length_le (by omega)
    simp -dsimp [h1, h2, h3, h7, h23, h24, h25, I, hi, hi', hiN, hgi, h77, ht7, wd, wm]
    refine aCall_of (hih _ _) ?_
    rintro d m' n' ⟨rfl, rfl, rfl⟩
    generalize cntTm subs[i] (depth - 1) (most - (1 + manyTms (subs.take i))) = CK at hstp hs0 hcl hce
    by_cases c3 : CK = 0
    ·have c3' : (CK == 0) = true := by simpa using c3
     simp -dsimp [h1, h2, h3, h7, h23, h24, h25, I, c3']
     exact hq ⟨by rw [hs0 c3]; rfl, fun j hj => by rw [set_ne _ _ _ _ (by omega)]; exact fr2 j hj⟩
    ·have hke := (hce c3).1
     have c3' : (CK == 0) = false := by simpa using c3
     have hcl2 := hcl.2 (by omega)
     have ws : IntKind.i64.wrap (1 + (manyTms (subs.take i) : Int) + CK) = 1 + (manyTms (subs.take i) : Int) + CK := wrap_i64 (by omega) (by omega)
     simp -dsimp [h1, h2, h3, h7, h23, h24, h25, I, c3', ws, wi]
     refine ⟨i + 1, by omega, by simp [I], by simp [I], by simp, by simp [I, hsn]; omega, by simp, by simp [I], by simp [I], by omega, hstp c3, by omega, fun j hj => by rw [set_ne _ _ _ _ (by omega)]; exact fr2 j hj⟩
   ·have ht : subs.take i = subs := List.take_of_length_le (by omega)
    rw [ht] at h7
    simp -dsimp [h1, h2, h3, h7, h23, h24, h25, I, hi]
    exact hq ⟨by rw [hal hS ok (by omega)]; rfl, fr2⟩
  ·rintro d m' n' ⟨rfl, h⟩
   exact ⟨_, (pur_I _).pub, h, rfl⟩
theorem cMayTm {t : Tm} (ht : TmW t) : Pc Tryz.prog 14 [.agg (tmD t)] (Tt (mayTm t)) := by
 refine pc_of (pur_T _) (fun m n => ?_)
 have h8 := tmD_len t
 have hc := fun m n => cCountTm ht 32 300 m n (by omega) (by omega) (by omega) (by omega)
 rw [mayTm_cnt]
 generalize cntTm t 32 300 = CT at hc
 generalize tmD t = TT at h8 hc
 have ht8 : List.take 8 TT = TT := List.take_of_length_le (by omega)
 refine acalls_vc [0, 1, 2] Tryz.func14 Tryz.ntmps14 (by kernel_rfl) rfl rfl (by simp) ?_
 simp -dsimp [h8, ht8]
 refine aCall_of (hc _ _) ?_
 rintro d m' n' ⟨rfl, rfl, rfl⟩
 simp -dsimp [I]
 exact pcq rfl fun j hj => set_ne _ _ _ _ (by omega)
end Go.Proofs.Mv.App
open Go Go.Proofs Go.Proofs.Mv.V
set_option maxRecDepth 10000
namespace Go.Proofs.Mv.App
set_option maxHeartbeats 8000000 in
theorem cTAtX {l : List Tok} (hl : TkOk l) {dg : List UInt8 → Int} (hD : ∀ t ∈ l, t.kind = 3 → Pc Tryz.prog 140 [S t.text] (I (dg t.text))) {f : Nat} (hf : f ≤ 100000) {t : Tm} {q : PS} (hrun : termX l dg f 0 ⟨0, 0, 0⟩ = some (t, q)) {b : Bool} (hMay : q.bad = 0 → Pc Tryz.prog 14 [.agg (tmD t)] (Tt b)) :
  Pc Tryz.prog 35 [toksD l, I 0] (atRes t q b) := by
 intro m n
 refine acalls_done (R' := Hq (fun d m' n' => PubAs n m' d (atRes t q b) ∧ ∀ j, j < n → m' j = m j) tg) ?_ ?_
 ·have hll : (l.map tokD).length = l.length := by simp
  have nn1 : n ≠ n + 1 := by omega
  have n1n : n + 1 ≠ n := by omega
  have n2n : n + 1 + 1 ≠ n := by omega
  have nn2 : n ≠ n + 1 + 1 := by omega
  have n21 : n + 1 + 1 ≠ n + 1 := by omega
  have n12 : n + 1 ≠ n + 1 + 1 := by omega
  have hn1 : n + 1 < n + 1 + 1 := by omega
  have nn3 : n ≠ n + 1 + 1 + 1 := by omega
  have n3n : n + 1 + 1 + 1 ≠ n := by omega
  have h8 := tmD_len
  have hT : toksD l = .sl 3 (l.map tokD) := rfl
  have hobj : (⟨4, [[toksD l, .v (.int .i64 0), .v (.int .i64 0), .v .nilIface]], 0⟩ : V.Obj) = pTObj l 0 ⟨0, 0, 0⟩ := by simp [pTObj, pTC, errS, I, nilE]
  have hlt : ¬ ((l.length : Int) < 0) := by omega
  have rc := cTTermX hl hD f hf 0 (by omega) _ _ _ hrun (n + 1)
  refine acalls_vcC [0, 1, 4, 5, 6, 7, 8, 20, 30, 41] Tryz.func35 Tryz.ntmps35 (by kernel_rfl) rfl rfl (by simp) ?_
  generalize hL : l.map tokD = L at hll hT
  simp -dsimp [I, hT, hll, hlt]
  rw [← hT, hobj]
  refine aCall_of (rc _ _ (by omega) (by simp)) ?_
  rintro d m' n' ⟨⟨t', rfl, ht'⟩, rfl, rfl⟩
  by_cases hb : q.bad = 0
  ·obtain rfl := ht' hb
   have hMay := hMay hb
   have hpo : pTObj l 0 q = ⟨4, [[toksD l, .v (.int .i64 q.at_), .v (.int .i64 0), .v .nilIface]], 0⟩ := by simp [pTObj, pTC, errS, hb, I, nilE]
   rw [hpo]
   simp -dsimp [set_ne, nn1, n1n, n2n, nn2, n21, n12, h8]
   refine pcall hMay ?_
   cases b with
   | false =>
    simp -dsimp [Tt, set_ne, nn1, n1n, n2n, nn2, n21, n12, h8, code, nn3, n3n]
    refine hq ⟨?_, fun j hj => by simp [set_ne, show j ≠ n by omega, show j ≠ n + 1 by omega, show j ≠ n + 1 + 1 by omega, show j ≠ n + 1 + 1 + 1 by omega]⟩
    rw [atRes, if_pos hb, if_neg (by simp)]
    exact pub_three pub_tm0 (pur_I _).pub (.iface (.ptr (z := 2) (g := 0) (cs := [.v (.int .i64 0), .iface 39 (.v (.int .i64 3))]) (by simp [set_ne, n3n]) (by omega) (.cons (pur_I _).pub (.cons (pur_code _).pub .nil))))
   | true =>
    simp -dsimp [Tt, set_ne, nn1, n1n, n2n, nn2, n21, n12, h8]
    refine vdraw_tree [0, 0, 2, 6, 14, 1, 63, 127] (.rd 0 (.rd 1 (.rd 2 (.rd 3 (.rd 4 (.wr (.cons 5 (.rd 6 (.rd 7 (.fin))) (.nil)))))))) (by kernel_rfl) (by kernel_rfl) ?_
    simp -dsimp [Tt, set_ne, nn1, n1n, n2n, nn2, n21, n12, h8]
    refine hq ⟨?_, fun j hj => by simp [set_ne, show j ≠ n by omega, show j ≠ n + 1 by omega, show j ≠ n + 1 + 1 by omega, show j ≠ n + 1 + 1 + 1 by omega]⟩
    rw [atRes, if_pos hb, if_pos rfl]
    exact pub_three (.agg (pubL_pur (pur_tm t'))) (pur_I _).pub (Pur.v _).pub
  ·have hpo : pTObj l 0 q = ⟨4, [[toksD l, .v (.int .i64 q.at_), .v (.int .i64 0), spotE q.cnt q.bad]], 0⟩ := by simp [pTObj, pTC, errS, hb, I]
   rw [hpo]
   simp -dsimp [set_ne, nn1, n1n, n2n, nn2, n21, n12, h8, spotE]
   refine vdraw_tree [0, 0, 2, 6, 14, 1, 33, 127] (.rd 0 (.rd 1 (.rd 2 (.rd 3 (.rd 4 (.wr (.cons 5 (.rd 6 (.rd 7 (.fin))) (.nil)))))))) (by kernel_rfl) (by kernel_rfl) ?_
   simp -dsimp [set_ne, nn1, n1n, n2n, nn2, n21, n12, h8, spotE]
   refine hq ⟨?_, fun j hj => by simp [set_ne, show j ≠ n by omega, show j ≠ n + 1 by omega, show j ≠ n + 1 + 1 by omega, show j ≠ n + 1 + 1 + 1 by omega]⟩
   rw [atRes, if_neg hb]
   exact pub_three pub_tm0 (pur_I _).pub (pur_spotE q.cnt q.bad).pub
 ·rintro d m' n' ⟨h1, h2⟩
  exact ⟨_, h1, h2, rfl⟩
theorem toks_len (s : List UInt8) : (toksAt s 0).1.length ≤ s.length := by have := (toks_ok (s.length + 1) s 0).1; unfold toksAt; omega
def runX (l : List Tok) : Tm × PS := (termX l dgX (l.length + 2) 0 ⟨0, 0, 0⟩).getD (Tm0, ⟨0, 0, 2⟩)
theorem runX_eq (l : List Tok) : termX l dgX (l.length + 2) 0 ⟨0, 0, 0⟩ = some ((runX l).1, (runX l).2) := by
 obtain ⟨t, q, h, _⟩ := term_ends (l := l) dgX (l.length + 2) 0 ⟨0, 0, 0⟩ (by simp [rem])
 simp [runX, h]
def parX (s : List UInt8) : Tm × D := if 20000 < s.length then (Tm0, code 3) else match (toksAt s 0).2 with
 | some a => (Tm0, spotE a 2)
 | none => if (runX (toksAt s 0).1).2.bad = 0 then (if mayTm (runX (toksAt s 0).1).1 then (if (runX (toksAt s 0).1).2.at_ < (toksAt s 0).1.length then (Tm0, spotE (runX (toksAt s 0).1).2.at_ 2) else ((runX (toksAt s 0).1).1, nilE)) else (Tm0, spotE 0 3)) else (Tm0, spotE (runX (toksAt s 0).1).2.cnt (runX (toksAt s 0).1).2.bad)
theorem cTAtR {l : List Tok} (hl : TkOk l) (h20 : l.length ≤ 20000) : Pc Tryz.prog 35 [toksD l, I 0] (atRes (runX l).1 (runX l).2 (mayTm (runX l).1)) :=
 cTAtX hl (fun t ht _ => cDigits t.text (by have := hl.txt t ht; omega)) (f := l.length + 2) (by omega) (runX_eq l) fun hb => cMayTm (termX_w hl (by omega) (runX_eq l) hb)
set_option maxHeartbeats 4000000 in
theorem cTParse (s : List UInt8) : Pc Tryz.prog 12 [S s] (.tup [.agg (tmD (parX s).1), (parX s).2]) := by
 have hz : ∀ {n : Nat} {m : Mem} {x : D}, Pur x → PubAs n m (.tup [.agg [.v (.int .i64 0), .v (.int .i64 0), .v (.string (ofL [])), .v (.string (ofL [])), .v (.slice none 0 0), .v (.slice none 0 0), .v (.slice none 0 0), .v (.slice none 0 0)], x]) (.tup [.agg (tmD Tm0), x]) := fun h => pub_pair pub_tm0 h.pub
 have h8 := tmD_len
 intro m n
 refine acalls_done (R' := Hq (fun d m' n' => PubAs n m' d (.tup [.agg (tmD (parX s).1), (parX s).2]) ∧ ∀ j, j < n → m' j = m j) tg) ?_ ?_
 ·have n01 : n ≠ n + 1 := by omega
  have n10 : n + 1 ≠ n := by omega
  refine acalls_vcC [0, 2, 3, 4, 5, 6, 7, 14, 24, 30] Tryz.func12 Tryz.ntmps12 (by kernel_rfl) rfl rfl (by simp) ?_
  simp -dsimp [S]
  refine aCall_of (cTokens s _ _) ?_
  rintro d m2 n2 ⟨rfl, rfl, rfl⟩
  by_cases h20 : 20000 < s.length
  ·rw [if_pos h20]
   simp -dsimp [code, I, set_ne]
   refine hq ⟨?_, fun j hj => by simp [set_ne, show j ≠ n by omega]⟩
   rw [parX, if_pos h20]
   exact hz (pur_code _)
  rw [if_neg h20]
  cases hlx : (toksAt s 0).2 with
  | some a =>
   simp -dsimp [spotE, I, set_ne]
   refine hq ⟨?_, fun j hj => by simp [set_ne, show j ≠ n by omega]⟩
   rw [parX, if_neg h20, hlx]
   exact hz (pur_spotE _ _)
  | none =>
   simp only
   have htk := toks_tk (s := s) (by omega)
   have hlen : (toksAt s 0).1.length ≤ 20000 := by have := toks_len s; omega
   have hat := cTAtR htk hlen
   have hp : parX s = (if (runX (toksAt s 0).1).2.bad = 0 then (if mayTm (runX (toksAt s 0).1).1 then (if (runX (toksAt s 0).1).2.at_ < (toksAt s 0).1.length then (Tm0, spotE (runX (toksAt s 0).1).2.at_ 2) else ((runX (toksAt s 0).1).1, nilE)) else (Tm0, spotE 0 3)) else (Tm0, spotE (runX (toksAt s 0).1).2.cnt (runX (toksAt s 0).1).2.bad)) := by
    rw [parX, if_neg h20, hlx]
   rw [hp]
   generalize (toksAt s 0).1 = l at htk hlen hat
   have hT : toksD l = .sl 3 (l.map tokD) := rfl
   have hll : (l.map tokD).length = l.length := by simp
   generalize hL : l.map tokD = L at hll hT ⊢
   rw [hT] at hat
   simp only [I] at hat
   simp -dsimp [nilE, I]
   refine pcall hat ?_
   generalize runX l = r
   obtain ⟨t, q⟩ := r
   simp only [atRes]
   by_cases hb : q.bad = 0
   ·rw [if_pos hb, if_pos hb]
    cases hm : mayTm t with
    | false =>
     simp -dsimp [spotE, I, set_ne, h8, n01, n10]
     refine hq ⟨?_, fun j hj => by simp [set_ne, show j ≠ n by omega, show j ≠ n + 1 by omega]⟩
     exact hz (pur_spotE 0 3)
    | true =>
     by_cases ha : q.at_ < l.length
     ·have ha' : (q.at_ : Int) < l.length := by omega
      simp -dsimp [nilE, I, set_ne, h8, n01, n10, hll, ha, ha', code, show n ≠ n + 1 + 1 by omega, show n + 1 + 1 ≠ n by omega]
      refine hq ⟨?_, fun j hj => by simp [set_ne, show j ≠ n by omega, show j ≠ n + 1 by omega, show j ≠ n + 1 + 1 by omega]⟩
      rw [if_pos rfl, if_pos ha]
      exact pub_pair pub_tm0 (.iface (.ptr (z := 2) (g := 0) (cs := [.v (.int .i64 q.at_), .iface 39 (.v (.int .i64 2))]) (by simp [set_ne, show n + 1 + 1 ≠ n by omega]) (by omega) (.cons (pur_I _).pub (.cons (pur_code _).pub .nil))))
     ·have ha' : ¬ (q.at_ : Int) < l.length := by omega
      simp -dsimp [nilE, I, set_ne, h8, n01, n10, hll, ha, ha']
      refine hq ⟨?_, fun j hj => by simp [set_ne, show j ≠ n by omega, show j ≠ n + 1 by omega]⟩
      rw [if_pos rfl, if_neg ha]
      exact pub_pair (.agg (pubL_pur (pur_tm t))) (Pur.v _).pub
   ·rw [if_neg hb, if_neg hb]
    simp -dsimp [spotE, I, set_ne, h8, n01, n10]
    refine hq ⟨?_, fun j hj => by simp [set_ne, show j ≠ n by omega, show j ≠ n + 1 by omega]⟩
    exact hz (pur_spotE _ _)
 ·rintro d m' n' ⟨h1, h2⟩
  exact ⟨_, h1, h2, rfl⟩
end Go.Proofs.Mv.App
open Go Go.Proofs Go.Proofs.Mv.V
namespace Go.Proofs.Mv.App
inductive TmF : Tm → Prop where
 | mk (kind num : Int) (mod name : List UInt8) (names vars : List (List UInt8)) (types : List Ty) (subs : List Tm) (h1 : ∀ y ∈ types, manyT y ≤ 1000000) (h2 : ∀ t ∈ subs, TmF t) : TmF (.mk kind num mod name names vars types subs)
end Go.Proofs.Mv.App
open Go Go.Proofs Go.Proofs.Mv.V
namespace Go.Proofs.Mv.App
variable [GI]
def PcAt (P : Program) (f : FuncId) (args : List D) (d : D) (m : Mem) (n : Nat) : Prop := ACalls P f args m n (fun d' m' n' => d' = d ∧ m' = m ∧ n' = n)
section
variable {P : Program} {f : FuncId} {args : List D} {d : D} {m : Mem} {n : Nat}
theorem Pc.at (h : Pc P f args d) : PcAt P f args d m n := h m n
def PcP (d : D) (m : Mem) (n : Nat) : D → Mem → Nat → Prop := Hq (fun d' m' _ => PubAs n m' d' d ∧ ∀ j, j < n → m' j = m j) tg
theorem pcp {m' : Mem} {n' : Nat} {d' : D} (h : PubAs n m' d' d) (hf : ∀ j, j < n → m' j = m j) : PcP d m n d' m' n' := ⟨h, hf⟩
theorem pcat_pub (h : ACalls P f args m n (PcP d m n)) : PcAt P f args d m n := by
 refine acalls_done h ?_
 rintro d' m' n' ⟨h1, h2⟩
 exact ⟨_, h1, h2, rfl⟩
theorem pc_pub (h : ∀ m n, ACalls P f args m n (PcP d m n)) : Pc P f args d := fun m n => pcat_pub (h m n)
end
end Go.Proofs.Mv.App
