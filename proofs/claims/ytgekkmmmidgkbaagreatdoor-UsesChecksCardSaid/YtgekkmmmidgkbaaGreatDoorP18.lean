/- A part of the proofs of the seat YtgekkmmmidgkbaaGreatDoor: the abstract machine, the contracts of the functions, the laws. No condition of its own. -/
import Derived.Test.YtgekkmmmidgkbaaGreatDoorP17
import Derived.Test.YtgekkmmmidgkbaaGreatDoorP14
import Derived.Test.YtgekkmmmidgkbaaGreatDoorP00
set_option linter.unusedSimpArgs false
set_option linter.unusedVariables false
set_option linter.unusedSectionVars false
open Go Go.Proofs Go.Proofs.Mv.V
set_option maxRecDepth 10000
namespace Go.Proofs.Mv.App
section
variable {md : List UInt8} {imps : List Imp} {pkg : List UInt8} {major : Int} {env : List Ifc}
theorem cRExpand0 {t : Ty} (ht : TyW t) (ha : allT t = true) (hp : plainT t = true) : RExC md imps pkg major env g0 t :=
  cRExpandG (q := fun _ => false) (g := g0) (fun l dp st h => by cases h) (fun l dp st h => by cases h) (fun l h => by cases h) ht ha (by rw [each_plain]; exact hp)
set_option maxHeartbeats 2000000 in
theorem cRExpandL (hi : imps.length ≤ 1000000) (he : env.length ≤ 1000000) (hw : ∀ f ∈ env, IfcW f) (hf : fewE env = true) {l : Ty} (hl : fineL imps env l = true) (hk : l.kind = 8) : RExC md imps pkg major env (gL imps env) l := by
  intro most depth b1 b2 b3 b4
  obtain ⟨t1, t2, t3, t4, t5⟩ := fine_th hw hl
  have hE := cRExpand0 (md := md) (imps := imps) (pkg := pkg) (major := major) (env := env) t3 (by simp only [mayT, Bool.and_eq_true] at t1; exact t1.1.1) t2 most depth b1 b2 b3 b4
  have hT := cRThere (md := md) hi he hw hf l
  rw [t5] at hT
  simp only [thD, Option.getD_some, Option.any_some] at hT
  have hex : exR (gL imps env) l most depth = exR g0 (thT imps env l) most depth := by
    unfold exR
    rw [exR_local hk]; rfl
  rw [hex]
  have hpu : Pur (exRD (exR g0 (thT imps env l) most depth)) := Pur.tup (by simp; exact ⟨pur_tyA _, pur_I _⟩)
  refine pc_of hpu (fun m n => ?_)
  generalize exR g0 (thT imps env l) most depth = R at hE hpu ⊢
  have zx := tyD_len (thT imps env l)
  generalize tyD (thT imps env l) = XX at hE hT zx
  have tx : List.take 7 XX = XX := List.take_of_length_le (by omega)
  have n01 : n ≠ n + 1 := by omega
  have n10 : n + 1 ≠ n := by omega
  have n02 : n ≠ n + 1 + 1 := by omega
  have n20 : n + 1 + 1 ≠ n := by omega
  have n12 : n + 1 ≠ n + 1 + 1 := by omega
  have n21 : n + 1 + 1 ≠ n + 1 := by omega
  have n03 : n ≠ n + 1 + 1 + 1 := by omega
  have n30 : n + 1 + 1 + 1 ≠ n := by omega
  have n13 : n + 1 ≠ n + 1 + 1 + 1 := by omega
  have n31 : n + 1 + 1 + 1 ≠ n + 1 := by omega
  have n23 : n + 1 + 1 ≠ n + 1 + 1 + 1 := by omega
  have n32 : n + 1 + 1 + 1 ≠ n + 1 + 1 := by omega
  have hmz : (mdX md imps).length = 3 := rfl
  generalize mdX md imps = MM at hE hT hmz
  have hmt : List.take 3 MM = MM := List.take_of_length_le (by omega)
  generalize env.map ifD = EL at hE hT
  obtain ⟨k1, p1, j1, m1, nm, na, sa⟩ := l
  simp only [Ty.kind, Ty.mod] at hk t4
  subst hk
  have d1 : m1.isEmpty = false := by cases m1 <;> simp_all
  simp only [exRD] at hE hpu ⊢
  have zr := tyD_len R.1
  generalize tyD R.1 = YY at hE hpu zr ⊢
  have tr : List.take 7 YY = YY := List.take_of_length_le (by omega)
  simp only [tyD, sl1] at hT ⊢
  generalize (na.map fun s => [S s]) = NA at hT ⊢
  generalize tysD sa = SA at hT ⊢
  simp only [I, S, Tt] at hT hE
  refine acalls_vcC [0, 1, 2, 3, 4, 5, 6, 7, 11, 14, 15, 16, 18, 19, 20, 21, 22, 23, 26, 29, 57, 81, 94, 116] Tryz.func78 Tryz.ntmps78 (by kernel_rfl) rfl rfl (by simp) ?_
  simp -dsimp [I, S, Tt, set_ne, n01, n10, n02, n20, n12, n21, n03, n30, n13, n31, n23, n32, hmz, hmt, d1, t4]
  refine pcall hT ?_
  simp -dsimp [I, S, Tt, set_ne, n01, n10, n02, n20, n12, n21, n03, n30, n13, n31, n23, n32, hmz, hmt, d1, t4, zx, tx]
  refine pcall hE ?_
  simp -dsimp [I, S, Tt, set_ne, n01, n10, n02, n20, n12, n21, n03, n30, n13, n31, n23, n32, zr, tr]
  exact pcq rfl fun j hj => by repeat rw [set_ne _ _ _ _ (by omega)]
theorem cRExpand (hi : imps.length ≤ 1000000) (he : env.length ≤ 1000000) (hw : ∀ f ∈ env, IfcW f) (hf : fewE env = true) {t : Ty} (ht : TyW t) (ha : allT t = true) (hq : eachT (fineL imps env) t = true) : RExC md imps pkg major env (gL imps env) t :=
  cRExpandG (glL hw) (gokpL hw) (fun l hl _ hk => cRExpandL hi he hw hf hl hk) ht ha hq
theorem pub_al0 {n : Nat} {m : Mem} (c : Int) : PubAs n m (.tup [.agg [I 0, S [], I 0, S [], S [], .v (.slice none 0 0), .v (.slice none 0 0)], I c]) (exRD (Ty0, c)) :=
  .tup (.cons pub_ty0X (.cons (pur_I _).pub .nil))
set_option maxHeartbeats 4000000 in
theorem cRAll (hi : imps.length ≤ 1000000) (he : env.length ≤ 1000000) (hw : ∀ f ∈ env, IfcW f) (hf : fewE env = true) {t : Ty} (ht : TyW t) (hb : manyT t ≤ 1000000) :
    Pc Tryz.prog 32 [.agg (mdX md imps), S pkg, I major, .sl 5 (env.map ifD), .agg (tyD t)] (exRD (expF md imps pkg major env t)) := by
  refine pc_pub (fun m n => ?_)
  have hC := cRCheck7 (md := md) (imps := imps)
  have hS := cRSm pkg
  have hM : Pc Tryz.prog 31 [.agg (tyD t)] (Tt (mayT t)) := fun m n => cRMay ht hb m n
  have hLo := cRLocals ht hb
  have hRe := cReach0 (md := md) (imps := imps) ht hb
  have hKn := fun x => cRKnown (md := md) (imps := imps) hi x
  have hll := locs_len t
  have hLa := cRLacks (md := md) hi he hw hf (l := locs t) (by omega)
  have hk1 := locs_all (knownT imps) t
  have hk2 := locs_all (hadT imps env) t
  rw [hk2] at hLa
  have hE : mayT t = true → eachT (knownT imps) t = true → eachT (hadT imps env) t = true → Pc Tryz.prog 78 [.agg (mdX md imps), S pkg, I major, .sl 5 (env.map ifD), .agg (tyD t), I 500, I 32] (exRD (exR (gL imps env) t 500 32)) := fun h1 h2 h3 =>
    cRExpand hi he hw hf ht (by simp only [mayT, Bool.and_eq_true] at h1; exact h1.1.1) (by have := each_and (knownT imps) (hadT imps env) t; rw [h2, h3] at this; exact this) 500 32 (by omega) (by omega) (by omega) (by omega)
  have hpos : mayT t = true → eachT (knownT imps) t = true → eachT (hadT imps env) t = true → (exT (gL imps env) t 1 (500, false)).2.2 = false → ¬ 500 - (exT (gL imps env) t 1 (500, false)).2.1 = 0 := fun h1 h2 h3 h4 => by
    have := exR_some (t := t) (most := 500) (depth := 32) (glL hw) (gokpL hw) (by have := each_and (knownT imps) (hadT imps env) t; rw [h2, h3] at this; exact this) (by simp only [mayT, Bool.and_eq_true] at h1; exact h1.1.1) (by rw [show (33 : Int) - 32 = 1 by omega, h4]; simp)
    rw [show (33 : Int) - 32 = 1 by omega] at this
    omega
  have hexR : exR (gL imps env) t 500 32 = if (exT (gL imps env) t 1 (500, false)).2.2 = true then (Ty0, 0) else ((exT (gL imps env) t 1 (500, false)).1, 500 - (exT (gL imps env) t 1 (500, false)).2.1) := rfl
  rw [hexR] at hE
  clear hexR
  unfold expF badX
  have hck := chkN_ok md imps
  have hL : ((locs t).map tyD).length = (locs t).length := by simp
  have hG : ∀ i (h : i < (locs t).length), ((locs t).map tyD)[i]? = some (tyD (locs t)[i]) := fun i h => by simp [h]
  have hEL : (env.map ifD).length = env.length := by simp
  have zt := tyD_len t
  have hmz : (mdX md imps).length = 3 := rfl
  generalize tyD t = TT at hM hLo hRe hE zt
  have tt : List.take 7 TT = TT := List.take_of_length_le (by omega)
  generalize mdX md imps = MM at hC hRe hKn hLa hE hmz
  have hmt : List.take 3 MM = MM := List.take_of_length_le (by omega)
  generalize env.map ifD = EL at hLa hE hEL
  generalize (locs t).map tyD = LL at hLo hL hG hLa
  generalize (chkN md imps).1 = C1 at hC hck
  generalize (chkN md imps).2 = C2 at hC
  generalize okX md imps = OK at hck ⊢
  generalize mayT t = MT at hM hE hpos ⊢
  generalize smallN pkg = SP at hS ⊢
  generalize eachT (knownT imps) t = K1 at hk1 hE hpos ⊢
  generalize eachT (hadT imps env) t = K2 at hLa hE hpos ⊢
  generalize exT (gL imps env) t 1 (500, false) = X at hE hpos ⊢
  have n01 : n ≠ n + 1 := by omega
  have n10 : n + 1 ≠ n := by omega
  have n02 : n ≠ n + 1 + 1 := by omega
  have n20 : n + 1 + 1 ≠ n := by omega
  have n12 : n + 1 ≠ n + 1 + 1 := by omega
  have n21 : n + 1 + 1 ≠ n + 1 := by omega
  have n03 : n ≠ n + 1 + 1 + 1 := by omega
  have n30 : n + 1 + 1 + 1 ≠ n := by omega
  have n13 : n + 1 ≠ n + 1 + 1 + 1 := by omega
  have n31 : n + 1 + 1 + 1 ≠ n + 1 := by omega
  have n23 : n + 1 + 1 ≠ n + 1 + 1 + 1 := by omega
  have n32 : n + 1 + 1 + 1 ≠ n + 1 + 1 := by omega
  have fr3 : ∀ o o' o'' j, j < n → (((m.set n o).set (n + 1) o').set (n + 1 + 1) o'') j = m j := fun o o' o'' j hj => by rw [set_ne _ _ _ _ (by omega), set_ne _ _ _ _ (by omega), set_ne _ _ _ _ (by omega)]
  have fr4 : ∀ o o' o'' o3 j, j < n → ((((m.set n o).set (n + 1) o').set (n + 1 + 1) o'').set (n + 1 + 1) o3) j = m j := fun o o' o'' o3 j hj => by rw [set_ne _ _ _ _ (by omega)]; exact fr3 _ _ _ j hj
  refine acalls_vcC [0, 1, 2, 3, 4, 5, 9, 10, 11, 12, 14, 15, 16, 17, 18, 19, 20, 21, 22, 23, 55, 62, 72, 88, 103, 114, 126] Tryz.func32 Tryz.ntmps32 (by kernel_rfl) rfl rfl (by simp) ?_
  simp -dsimp [I, S, Tt, set_ne, n01, n10, n02, n20, n12, n21, hmz, hmt, zt, tt]
  refine pcall hC ?_
  simp -dsimp [I, S, Tt, set_ne, n01, n10, n02, n20, n12, n21, hmz, hmt, zt, tt]
  refine pcall hS ?_
  simp -dsimp [I, S, Tt, set_ne, n01, n10, n02, n20, n12, n21, hmz, hmt, zt, tt]
  refine pcall hM ?_
  by_cases c1 : C1 = 0
  case neg =>
    have hok : OK = false := by cases OK with | false => rfl | true => exact absurd (hck.2 rfl) c1
    have c1' : (C1 != 0) = true := by simpa using c1
    rw [hok]
    rw [if_pos (by simp)]
    simp -dsimp [I, S, Tt, set_ne, n01, n10, n02, n20, n12, n21, c1, c1']
    exact pcp (pub_al0 1) (fr3 _ _ _)
  have hok : OK = true := hck.1 c1
  subst hok
  subst c1
  cases MT with
  | false =>
    rw [if_pos (by simp)]
    simp -dsimp [I, S, Tt, set_ne, n01, n10, n02, n20, n12, n21]
    exact pcp (pub_al0 1) (fr3 _ _ _)
  | true =>
  cases SP with
  | false =>
    rw [if_pos (by simp)]
    simp -dsimp [I, S, Tt, set_ne, n01, n10, n02, n20, n12, n21]
    exact pcp (pub_al0 1) (fr3 _ _ _)
  | true =>
  by_cases c2 : major < 1
  · rw [if_pos (by simp [c2])]
    simp -dsimp [I, S, Tt, set_ne, n01, n10, n02, n20, n12, n21, c2]
    exact pcp (pub_al0 1) (fr3 _ _ _)
  by_cases c3 : 999999999 < major
  · rw [if_pos (by simp [c3])]
    simp -dsimp [I, S, Tt, set_ne, n01, n10, n02, n20, n12, n21, c2, c3]
    exact pcp (pub_al0 1) (fr3 _ _ _)
  by_cases c4 : (100 : Int) < env.length
  · rw [if_pos (by simp; omega)]
    simp -dsimp [I, S, Tt, set_ne, n01, n10, n02, n20, n12, n21, c2, c3, c4, hEL]
    exact pcp (pub_al0 1) (fr3 _ _ _)
  rw [if_neg (by simp; omega)]
  have hE := hE rfl
  have hpos := hpos rfl
  simp -dsimp [I, S, Tt, set_ne, n01, n10, n02, n20, n12, n21, c2, c3, c4, hEL, hmz, hmt, zt, tt]
  refine pcall hLo ?_
  simp -dsimp [I, S, Tt, set_ne, n01, n10, n02, n20, n12, n21, hmz, hmt, zt, tt, -vc_block]
  rw [vc_block]
  simp -dsimp [I, S, Tt, set_ne, n01, n10, n02, n20, n12, n21, hmz, hmt, zt, tt, -vc_block]
  refine vloop_as (β := Nat) (fun i => [(1, S pkg), (2, I major), (3, .sl 5 EL), (5, .ptr n 0 0 0), (9, .ptr (n + 1) 0 0 0), (10, .ptr (n + 1 + 1) 0 0 0), (16, .sl 7 LL), (17, I i)])
    (fun i m2 n2 => m2 = ((m.set n ⟨3, [MM], 0⟩).set (n + 1) ⟨7, [TT], 0⟩).set (n + 1 + 1) ⟨7, [[I 0, S [], I 0, S [], S [], .v (.slice none 0 0), .v (.slice none 0 0)]], 0⟩ ∧ n2 = n + 1 + 1 + 1 ∧ i ≤ (locs t).length ∧ ∀ x ∈ (locs t).take i, knownT imps x = true) (fun i => (locs t).length - i) 0 (by simp [I, S]) ⟨by simp [I, S], rfl, by omega, by simp⟩ ?_
  rintro i m2 n2 ⟨rfl, rfl, le, al⟩
  by_cases ci : (i : Int) < (locs t).length
  · have ci' : i < (locs t).length := by omega
    have wi : IntKind.i64.wrap ((i : Int) + 1) = (i : Int) + 1 := wrap_i64 (by omega) (by omega)
    have hiN : i < LL.length := by omega
    have hgi : LL[i] = tyD (locs t)[i] := get_opt (hG i ci') hiN
    have hK := hKn (locs t)[i]
    have hno : knownT imps (locs t)[i] = false → K1 = false := fun h => by rw [← hk1]; exact List.all_eq_false.2 ⟨_, List.getElem_mem ci', by simp [h]⟩
    have nx := fun h => all_next (q := knownT imps) ci' al h
    have zx := tyD_len (locs t)[i]
    generalize tyD (locs t)[i] = XX at hgi hK zx
    have tx : List.take 7 XX = XX := List.take_of_length_le (by omega)
    simp -dsimp [I, S, Tt, set_ne, n01, n10, n02, n20, n12, n21, hmz, hmt, ci, ci', hiN, hgi, hL, zx, tx, -vc_block]
    rw [vc_block]
    simp -dsimp [I, S, Tt, set_ne, n01, n10, n02, n20, n12, n21, hmz, hmt, ci, ci', hiN, hgi, hL, zx, tx, -vc_block]
    refine vdraw_tree [0, 0, 0, 6, 14, 31, 63] (.rd 0 (.rd 1 (.rd 2 (.rd 3 (.rd 4 (.wr (.cons 5 (.rd 6 (.fin)) (.nil)))))))) (by kernel_rfl) (by kernel_rfl) ?_
    simp -dsimp [I, S, Tt, set_ne, n01, n10, n02, n20, n12, n21, hmz, hmt, ci, ci', hiN, hgi, hL, zx, tx, -vc_block]
    refine pcall hK ?_
    cases e : knownT imps (locs t)[i] with
    | false =>
      rw [if_pos (hno e)]
      simp -dsimp [I, S, Tt, set_ne, n01, n10, n02, n20, n12, n21]
      exact pcp (pub_al0 4) (fr3 _ _ _)
    | true =>
      simp -dsimp [I, S, Tt, wi, -vc_block]
      exact rnd (i + 1) (by omega) (by simp [I, S]) ⟨by simp [I, S], rfl, by omega, nx e⟩
  · have hK1 : K1 = true := by rw [← hk1]; exact all_fin (by omega) al
    subst hK1
    rw [if_neg (by simp)]
    have hE := hE rfl
    have hpos := hpos rfl
    simp -dsimp [I, S, Tt, set_ne, n01, n10, n02, n20, n12, n21, hmz, hmt, zt, tt, ci, hL, -vc_block]
    refine pcall hRe ?_
    simp -dsimp [I, S, Tt, set_ne, n01, n10, n02, n20, n12, n21, hmz, hmt, zt, tt, -vc_block]
    refine pcall hLa ?_
    simp -dsimp [I, S, Tt, set_ne, n01, n10, n02, n20, n12, n21, hmz, hmt, zt, tt, -vc_block]
    rw [vc_block]
    simp -dsimp [I, S, Tt, set_ne, n01, n10, n02, n20, n12, n21, hmz, hmt, zt, tt, -vc_block]
    refine vloop_as (β := Unit) (fun _ => [(1, S pkg), (2, I major), (3, .sl 5 EL), (5, .ptr n 0 0 0), (9, .ptr (n + 1) 0 0 0), (10, .ptr (n + 1 + 1) 0 0 0), (19, .sl 1 []), (20, Tt (!K2)), (21, I 0)])
      (fun _ m2 n2 => m2 = ((m.set n ⟨3, [MM], 0⟩).set (n + 1) ⟨7, [TT], 0⟩).set (n + 1 + 1) ⟨7, [[I 0, S [], I 0, S [], S [], .v (.slice none 0 0), .v (.slice none 0 0)]], 0⟩ ∧ n2 = n + 1 + 1 + 1) (fun _ => 0) () (by simp [I, S, Tt]) ⟨by simp [I, S], rfl⟩ ?_
    rintro _ m2 n2 ⟨rfl, rfl⟩
    cases K2 with
    | false =>
      rw [if_pos rfl]
      simp -dsimp [I, S, Tt, set_ne, n01, n10, n02, n20, n12, n21]
      exact pcp (pub_al0 9) (fr3 _ _ _)
    | true =>
      rw [if_neg (by simp)]
      have hE := hE rfl
      have hpos := hpos rfl
      simp -dsimp [I, S, Tt, set_ne, n01, n10, n02, n20, n12, n21, hmz, hmt, zt, tt]
      refine pcall hE ?_
      cases hX : X.2.2 with
      | true =>
        rw [if_pos rfl, if_pos rfl]
        simp only [exRD]
        have zy := tyD_len Ty0
        have hp0 := fun m => pub_al0 (n := n) (m := m) 3
        simp only [exRD] at hp0
        generalize tyD Ty0 = YY at zy hp0 ⊢
        have ty_ : List.take 7 YY = YY := List.take_of_length_le (by omega)
        simp -dsimp [I, S, Tt, set_ne, n01, n10, n02, n20, n12, n21, n03, n30, n13, n31, n23, n32, zy, ty_]
        exact pcp (hp0 _) fun j hj => by repeat rw [set_ne _ _ _ _ (by omega)]
      | false =>
        have hp := hpos hX
        rw [if_neg (by simp), if_neg (by simp)]
        generalize hkk : 500 - X.2.1 = kk at hp
        have k0 : (kk == 0) = false := by simpa using hp
        simp only [exRD]
        have zy := tyD_len X.1
        have py := pur_ty X.1
        generalize tyD X.1 = YY at zy py ⊢
        have ty_ : List.take 7 YY = YY := List.take_of_length_le (by omega)
        simp -dsimp [I, S, Tt, set_ne, n01, n10, n02, n20, n12, n21, n03, n30, n13, n31, n23, n32, zy, ty_, k0, hp]
        exact pcp (Pur.tup (by simp; exact ⟨Pur.agg py, pur_I _⟩)).pub fun j hj => by repeat rw [set_ne _ _ _ _ (by omega)]
end
end Go.Proofs.Mv.App
open Go Go.Proofs Go.Proofs.Mv.V
set_option maxRecDepth 10000
namespace Go.Proofs.Mv.App
theorem cov_no {f : Ty → Ty → Bool} {na nb : List (List UInt8)} {sa sb : List Ty} {i : Nat} (h : i < nb.length) (h' : i < sb.length) (e : (match fieldT na sa nb[i] with | some x => f x sb[i] | none => false) = false) : covF f na sa nb sb = false := by
  unfold covF
  rw [List.all_eq_false]
  refine ⟨(nb[i], sb[i]), ?_, fun h => by cases e.symm.trans h⟩
  rw [show (nb[i], sb[i]) = (nb.zip sb)[i]'(by simp; omega) by simp]
  exact List.getElem_mem _
theorem cov_yes {f : Ty → Ty → Bool} {na nb : List (List UInt8)} {sa sb : List Ty} (hz : nb.length = sb.length) (h : ∀ i (h : i < nb.length) (h' : i < sb.length), (match fieldT na sa nb[i] with | some x => f x sb[i] | none => false) = true) : covF f na sa nb sb = true := by
  unfold covF
  rw [List.all_eq_true]
  intro p hp
  obtain ⟨i, hi, rfl⟩ := List.getElem_of_mem hp
  have := h i (by simp at hi; omega) (by simp at hi; omega)
  rw [List.getElem_zip]
  exact this
variable [GI]
set_option maxHeartbeats 4000000 in
theorem cRSub : ∀ (k : Nat) (a b : Ty), TyW a → TyW b → mayT a = true → mayT b = true → deepT a ≤ k → deepT b ≤ k → Pc Tryz.prog 36 [.agg (tyD a), .agg (tyD b)] (Tt (belF k a b)) := by
  intro k
  induction k with
  | zero => intro a b _ _ _ _ h _; rw [deepT_eq] at h; omega
  | succ k ih =>
    intro a b wa wb ma mb da db
    have Q : ∀ x ∈ a.subs, ∀ y ∈ b.subs, Pc Tryz.prog 36 [.agg (tyD x), .agg (tyD y)] (Tt (belF k x y)) := fun x hx y hy =>
      ih x y (wa.subs x hx) (wb.subs y hy) (mayT_subE ma x hx).1 (mayT_subE mb y hy).1 (by have := (mayT_subE ma x hx).2; omega) (by have := (mayT_subE mb y hy).2; omega)
    have Q' : ∀ x ∈ a.subs, ∀ y ∈ b.subs, Pc Tryz.prog 36 [.agg (tyD y), .agg (tyD x)] (Tt (belF k y x)) := fun x hx y hy =>
      ih y x (wb.subs y hy) (wa.subs x hx) (mayT_subE mb y hy).1 (mayT_subE ma x hx).1 (by have := (mayT_subE mb y hy).2; omega) (by have := (mayT_subE ma x hx).2; omega)
    clear ih
    refine pc_of (pur_T _) (fun m n => ?_)
    have nn1 : n ≠ n + 1 := by omega
    have n1n : n + 1 ≠ n := by omega
    have fr : ∀ o o' j, j < n → ((m.set n o).set (n + 1) o') j = m j := fun o o' j hj => by rw [set_ne _ _ _ _ (by omega), set_ne _ _ _ _ (by omega)]
    obtain ⟨la, ha⟩ := mayT_shape ma
    obtain ⟨lb, hb⟩ := mayT_shape mb
    have hS := cSameT (b := b) wa
    obtain ⟨k1, p1, j1, m1, n1, na, sa⟩ := a
    obtain ⟨k2, p2, j2, m2, n2, nb, sb⟩ := b
    simp only [Ty.subs] at Q Q' la lb
    by_cases c : k1 = k2
    case neg =>
      have c' : (k1 != k2) = true := by simpa using c
      have e : belF (k + 1) (.mk k1 p1 j1 m1 n1 na sa) (.mk k2 p2 j2 m2 n2 nb sb) = false := by simp [belF, Ty.kind, c]
      rw [e]
      simp only [tyD]
      refine acalls_vc [0, 1, 2, 3, 4, 5, 6, 7, 8, 9, 10, 11, 12, 13, 18, 20, 21, 32, 38, 50, 63, 64, 70, 82, 95, 96, 105, 109, 124] Tryz.func36 Tryz.ntmps36 (by kernel_rfl) rfl rfl (by simp) ?_
      simp -dsimp [I, S, Tt, set_ne, nn1, n1n, c']
      exact pcq rfl (fr _ _)
    subst c
    by_cases c4 : k1 = 4
    · subst c4
      have l1 := shape4 ha rfl
      have l2 := shape4 hb rfl
      simp only [Ty.subs] at l1 l2
      obtain ⟨x, rfl⟩ := List.length_eq_one_iff.1 l1
      obtain ⟨y, rfl⟩ := List.length_eq_one_iff.1 l2
      have hq := Q x (by simp) y (by simp)
      have e : belF (k + 1) (.mk 4 p1 j1 m1 n1 na [x]) (.mk 4 p2 j2 m2 n2 nb [y]) = belF k x y := by simp [belF, Ty.kind, Ty.subs]
      rw [e]
      simp only [tyD, tysD]
      have z1 := tyD_len x
      have z2 := tyD_len y
      generalize tyD x = XX at hq z1
      generalize tyD y = YY at hq z2
      have t1 : List.take 7 XX = XX := List.take_of_length_le (by omega)
      have t2 : List.take 7 YY = YY := List.take_of_length_le (by omega)
      refine acalls_vc [0, 1, 2, 3, 4, 5, 6, 7, 8, 9, 10, 11, 12, 13, 18, 20, 21, 32, 38, 50, 63, 64, 70, 82, 95, 96, 105, 109, 124] Tryz.func36 Tryz.ntmps36 (by kernel_rfl) rfl rfl (by simp) ?_
      simp -dsimp [I, S, Tt, set_ne, nn1, n1n]
      refine vdraw_tree [0, 1, 3, 7, 0, 16, 48, 112, 255, 511] (.rd 0 (.rd 1 (.rd 2 (.rd 3 (.rd 4 (.rd 5 (.rd 6 (.rd 7 (.wr (.cons 8 (.rd 9 (.fin)) (.nil))))))))))) (by kernel_rfl) (by kernel_rfl) ?_
      simp -dsimp [I, S, Tt, set_ne, nn1, n1n, z1, z2, t1, t2]
      refine pcall hq ?_
      simp -dsimp [Tt]
      exact pcq rfl (fr _ _)
    have c4' : (k1 == 4) = false := by simpa using c4
    by_cases c5 : k1 = 5
    · subst c5
      obtain ⟨l1, r1⟩ := shape5 ha rfl
      obtain ⟨l2, r2⟩ := shape5 hb rfl
      simp only [Ty.subs, Ty.names] at l1 l2 r1 r2
      have e : belF (k + 1) (.mk 5 p1 j1 m1 n1 na sa) (.mk 5 p2 j2 m2 n2 nb sb) = covF (belF k) na sa nb sb := by simp [belF, Ty.kind, Ty.subs, Ty.names]
      rw [e]
      have hOf := fun s => cROf9 (l := na) (by omega) s
      have hno := fun i h h' => cov_no (f := belF k) (na := na) (sa := sa) (nb := nb) (sb := sb) (i := i) h h'
      have hyes := cov_yes (f := belF k) (na := na) (sa := sa) (nb := nb) (sb := sb) (by omega)
      generalize covF (belF k) na sa nb sb = R at hno hyes
      have hLn : (nb.map fun s => [S s]).length = nb.length := by simp
      have hGn : ∀ i (h : i < nb.length), (nb.map fun s => [S s])[i]? = some [S nb[i]] := fun i h => by simp [h]
      have hL1 : (sa.map tyD).length = sa.length := by simp
      have hG1 : ∀ i (h : i < sa.length), (sa.map tyD)[i]? = some (tyD sa[i]) := fun i h => by simp [h]
      have hL2 : (sb.map tyD).length = sb.length := by simp
      have hG2 : ∀ i (h : i < sb.length), (sb.map tyD)[i]? = some (tyD sb[i]) := fun i h => by simp [h]
      simp only [tyD, tysD_eq, sl1] at hOf ⊢
      generalize (na.map fun s => [S s]) = NA at *
      generalize (nb.map fun s => [S s]) = NB at *
      generalize sa.map tyD = SA at *
      generalize sb.map tyD = SB at *
      refine acalls_vc [0, 1, 2, 3, 4, 5, 6, 7, 8, 9, 10, 11, 12, 13, 18, 20, 21, 32, 38, 50, 63, 64, 70, 82, 95, 96, 105, 109, 124] Tryz.func36 Tryz.ntmps36 (by kernel_rfl) rfl rfl (by simp) ?_
      simp -dsimp [I, S, Tt, set_ne, nn1, n1n]
      refine vloop_as (β := Nat) (fun i => [(2, .ptr n 0 0 0), (3, .ptr (n + 1) 0 0 0), (5, I i)]) (fun i mm nn => mm = (m.set n ⟨7, [[I 5, S p1, I j1, S m1, S n1, .sl 1 NA, .sl 7 SA]], 0⟩).set (n + 1) ⟨7, [[I 5, S p2, I j2, S m2, S n2, .sl 1 NB, .sl 7 SB]], 0⟩ ∧ nn = n + 1 + 1 ∧ i ≤ nb.length ∧ ∀ q (h : q < nb.length) (h' : q < sb.length), q < i → (match fieldT na sa nb[q] with | some x => (belF k) x sb[q] | none => false) = true) (fun i => nb.length - i) 0 (by simp [I]) ⟨by simp [I, S], rfl, by omega, fun q h h' hq0 => by omega⟩ ?_
      rintro i mm nn ⟨rfl, rfl, le, hall⟩
      by_cases hi : (i : Int) < nb.length
      · have hi' : i < nb.length := by omega
        have hi2 : i < sb.length := by omega
        have hi3 : (i : Int) < sb.length := by omega
        have wi : IntKind.i64.wrap ((i : Int) + 1) = (i : Int) + 1 := wrap_i64 (by omega) (by omega)
        have hiN : i < NB.length := by omega
        have hiS : i < SB.length := by omega
        have hgn : NB[i] = [S nb[i]] := get_opt (hGn i hi') hiN
        have hgs : SB[i] = tyD sb[i] := get_opt (hG2 i hi2) hiS
        have hno := hno i hi' hi2
        have hf := fieldT_find na sa nb[i] (by omega)
        have hOi := hOf nb[i]
        have hnext : (match fieldT na sa nb[i] with | some x => (belF k) x sb[i] | none => false) = true → ∀ q (h : q < nb.length) (h' : q < sb.length), q < i + 1 → (match fieldT na sa nb[q] with | some x => (belF k) x sb[q] | none => false) = true := fun e q h h' hq0 => by
          rcases Nat.lt_or_eq_of_le (show q ≤ i by omega) with c | c
          · exact hall q h h' c
          · subst c; exact e
        clear hall hOf hyes
        have hge := findI_le (fun x => decide (x = nb[i])) na
        generalize findI (fun x => decide (x = nb[i])) na = F at hf hOi hge
        simp -dsimp [I, S, Tt, set_ne, nn1, n1n, hLn, hi]
        refine vdraw_tree [0, 1, 0, 4, 0, 28, 60, 127, 255] (.rd 0 (.rd 1 (.rd 2 (.rd 3 (.rd 4 (.rd 5 (.rd 6 (.wr (.cons 7 (.rd 8 (.fin)) (.nil)))))))))) (by kernel_rfl) (by kernel_rfl) ?_
        simp -dsimp [I, S, Tt, set_ne, nn1, n1n, hLn, hi, hi', hiN, hgn]
        refine pcall hOi ?_
        by_cases cF : F < 0
        · rw [hf.1 cF] at hno
          simp -dsimp [I, S, Tt, set_ne, nn1, n1n, cF]
          exact pcq (by rw [hno rfl]) (fr _ _)
        · obtain ⟨kk, rfl⟩ : ∃ kk : Nat, F = kk := ⟨F.toNat, by omega⟩
          obtain ⟨q1, q2⟩ := hf.2 kk rfl
          rw [q2] at hno hnext
          have kI : (kk : Int) < sa.length := by omega
          have kS : kk < SA.length := by omega
          have hgk : SA[kk] = tyD sa[kk] := get_opt (hG1 kk q1) kS
          have hq := Q sa[kk] (List.getElem_mem _) sb[i] (List.getElem_mem _)
          have y1 := tyD_len sa[kk]
          have y2 := tyD_len sb[i]
          simp only at hno hnext
          generalize belF k sa[kk] sb[i] = r at hq hno hnext
          generalize tyD sa[kk] = X2 at hq y1 hgk
          generalize tyD sb[i] = Y2 at hq y2 hgs
          have s1 : List.take 7 X2 = X2 := List.take_of_length_le (by omega)
          have s2 : List.take 7 Y2 = Y2 := List.take_of_length_le (by omega)
          simp -dsimp [I, S, Tt, set_ne, nn1, n1n, cF]
          refine vdraw_tree [0, 1, 0, 7, 15, 0, 32, 0, 224, 480, 1023, 2047] (.rd 0 (.rd 1 (.rd 2 (.rd 3 (.rd 4 (.rd 5 (.rd 6 (.rd 7 (.rd 8 (.rd 9 (.wr (.cons 10 (.rd 11 (.fin)) (.nil))))))))))))) (by kernel_rfl) (by kernel_rfl) ?_
          simp -dsimp [I, S, Tt, set_ne, nn1, n1n, cF, kI, q1, kS, hgk, hL1, hL2, hi2, hi3, hiS, hgs, y1, y2, s1, s2]
          refine pcall hq ?_
          cases r with
          | false =>
            simp -dsimp [I, S, Tt]
            exact pcq (by rw [hno rfl]) (fr _ _)
          | true =>
            simp -dsimp [I, S, Tt, wi]
            exact rnd (i + 1) (by omega) (by simp [I]) ⟨by simp [I, S], rfl, by omega, hnext rfl⟩
      · have e := hyes fun q h h' => hall q h h' (by omega)
        rw [e]
        simp -dsimp [I, S, Tt, set_ne, nn1, n1n, hLn, hi]
        exact pcq rfl (fr _ _)
    have c5' : (k1 == 5) = false := by simpa using c5
    by_cases c6 : k1 = 6
    · subst c6
      obtain ⟨l1, r1⟩ := shape6 ha rfl
      obtain ⟨l2, r2⟩ := shape6 hb rfl
      simp only [Ty.subs, Ty.names] at l1 l2 r1 r2
      have e : belF (k + 1) (.mk 6 p1 j1 m1 n1 na sa) (.mk 6 p2 j2 m2 n2 nb sb) = covF (fun x y => belF k y x) nb sb na sa := by simp [belF, Ty.kind, Ty.subs, Ty.names]
      rw [e]
      have hOf := fun s => cROf9 (l := nb) (by omega) s
      have hno := fun i h h' => cov_no (f := fun x y => belF k y x) (na := nb) (sa := sb) (nb := na) (sb := sa) (i := i) h h'
      have hyes := cov_yes (f := fun x y => belF k y x) (na := nb) (sa := sb) (nb := na) (sb := sa) (by omega)
      generalize covF (fun x y => belF k y x) nb sb na sa = R at hno hyes
      have hLn : (na.map fun s => [S s]).length = na.length := by simp
      have hGn : ∀ i (h : i < na.length), (na.map fun s => [S s])[i]? = some [S na[i]] := fun i h => by simp [h]
      have hL1 : (sa.map tyD).length = sa.length := by simp
      have hG1 : ∀ i (h : i < sa.length), (sa.map tyD)[i]? = some (tyD sa[i]) := fun i h => by simp [h]
      have hL2 : (sb.map tyD).length = sb.length := by simp
      have hG2 : ∀ i (h : i < sb.length), (sb.map tyD)[i]? = some (tyD sb[i]) := fun i h => by simp [h]
      simp only [tyD, tysD_eq, sl1] at hOf ⊢
      generalize (na.map fun s => [S s]) = NA at *
      generalize (nb.map fun s => [S s]) = NB at *
      generalize sa.map tyD = SA at *
      generalize sb.map tyD = SB at *
      refine acalls_vc [0, 1, 2, 3, 4, 5, 6, 7, 8, 9, 10, 11, 12, 13, 18, 20, 21, 32, 38, 50, 63, 64, 70, 82, 95, 96, 105, 109, 124] Tryz.func36 Tryz.ntmps36 (by kernel_rfl) rfl rfl (by simp) ?_
      simp -dsimp [I, S, Tt, set_ne, nn1, n1n]
      refine vloop_as (β := Nat) (fun i => [(2, .ptr n 0 0 0), (3, .ptr (n + 1) 0 0 0), (8, I i)]) (fun i mm nn => mm = (m.set n ⟨7, [[I 6, S p1, I j1, S m1, S n1, .sl 1 NA, .sl 7 SA]], 0⟩).set (n + 1) ⟨7, [[I 6, S p2, I j2, S m2, S n2, .sl 1 NB, .sl 7 SB]], 0⟩ ∧ nn = n + 1 + 1 ∧ i ≤ na.length ∧ ∀ q (h : q < na.length) (h' : q < sa.length), q < i → (match fieldT nb sb na[q] with | some x => (fun x y => belF k y x) x sa[q] | none => false) = true) (fun i => na.length - i) 0 (by simp [I]) ⟨by simp [I, S], rfl, by omega, fun q h h' hq0 => by omega⟩ ?_
      rintro i mm nn ⟨rfl, rfl, le, hall⟩
      by_cases hi : (i : Int) < na.length
      · have hi' : i < na.length := by omega
        have hi2 : i < sa.length := by omega
        have hi3 : (i : Int) < sa.length := by omega
        have wi : IntKind.i64.wrap ((i : Int) + 1) = (i : Int) + 1 := wrap_i64 (by omega) (by omega)
        have hiN : i < NA.length := by omega
        have hiS : i < SA.length := by omega
        have hgn : NA[i] = [S na[i]] := get_opt (hGn i hi') hiN
        have hgs : SA[i] = tyD sa[i] := get_opt (hG1 i hi2) hiS
        have hno := hno i hi' hi2
        have hf := fieldT_find nb sb na[i] (by omega)
        have hOi := hOf na[i]
        have hnext : (match fieldT nb sb na[i] with | some x => (fun x y => belF k y x) x sa[i] | none => false) = true → ∀ q (h : q < na.length) (h' : q < sa.length), q < i + 1 → (match fieldT nb sb na[q] with | some x => (fun x y => belF k y x) x sa[q] | none => false) = true := fun e q h h' hq0 => by
          rcases Nat.lt_or_eq_of_le (show q ≤ i by omega) with c | c
          · exact hall q h h' c
          · subst c; exact e
        clear hall hOf hyes
        have hge := findI_le (fun x => decide (x = na[i])) nb
        generalize findI (fun x => decide (x = na[i])) nb = F at hf hOi hge
        simp -dsimp [I, S, Tt, set_ne, nn1, n1n, hLn, hi]
        refine vdraw_tree [0, 1, 0, 4, 0, 28, 60, 127, 255] (.rd 0 (.rd 1 (.rd 2 (.rd 3 (.rd 4 (.rd 5 (.rd 6 (.wr (.cons 7 (.rd 8 (.fin)) (.nil)))))))))) (by kernel_rfl) (by kernel_rfl) ?_
        simp -dsimp [I, S, Tt, set_ne, nn1, n1n, hLn, hi, hi', hiN, hgn]
        refine pcall hOi ?_
        by_cases cF : F < 0
        · rw [hf.1 cF] at hno
          simp -dsimp [I, S, Tt, set_ne, nn1, n1n, cF]
          exact pcq (by rw [hno rfl]) (fr _ _)
        · obtain ⟨kk, rfl⟩ : ∃ kk : Nat, F = kk := ⟨F.toNat, by omega⟩
          obtain ⟨q1, q2⟩ := hf.2 kk rfl
          rw [q2] at hno hnext
          have kI : (kk : Int) < sb.length := by omega
          have kS : kk < SB.length := by omega
          have hgk : SB[kk] = tyD sb[kk] := get_opt (hG2 kk q1) kS
          have hq := Q sa[i] (List.getElem_mem _) sb[kk] (List.getElem_mem _)
          have y1 := tyD_len sb[kk]
          have y2 := tyD_len sa[i]
          simp only at hno hnext
          generalize belF k sa[i] sb[kk] = r at hq hno hnext
          generalize tyD sb[kk] = X2 at hq y1 hgk
          generalize tyD sa[i] = Y2 at hq y2 hgs
          have s1 : List.take 7 X2 = X2 := List.take_of_length_le (by omega)
          have s2 : List.take 7 Y2 = Y2 := List.take_of_length_le (by omega)
          simp -dsimp [I, S, Tt, set_ne, nn1, n1n, cF]
          refine vdraw_tree [0, 1, 0, 7, 15, 0, 32, 0, 224, 480, 1023, 2047] (.rd 0 (.rd 1 (.rd 2 (.rd 3 (.rd 4 (.rd 5 (.rd 6 (.rd 7 (.rd 8 (.rd 9 (.wr (.cons 10 (.rd 11 (.fin)) (.nil))))))))))))) (by kernel_rfl) (by kernel_rfl) ?_
          simp -dsimp [I, S, Tt, set_ne, nn1, n1n, cF, kI, q1, kS, hgk, hL1, hL2, hi2, hi3, hiS, hgs, y1, y2, s1, s2]
          refine pcall hq ?_
          cases r with
          | false =>
            simp -dsimp [I, S, Tt]
            exact pcq (by rw [hno rfl]) (fr _ _)
          | true =>
            simp -dsimp [I, S, Tt, wi]
            exact rnd (i + 1) (by omega) (by simp [I]) ⟨by simp [I, S], rfl, by omega, hnext rfl⟩
      · have e := hyes fun q h h' => hall q h h' (by omega)
        rw [e]
        simp -dsimp [I, S, Tt, set_ne, nn1, n1n, hLn, hi]
        exact pcq rfl (fr _ _)
    have c6' : (k1 == 6) = false := by simpa using c6
    by_cases c7 : k1 = 7
    · subst c7
      have l1 := shape7 ha rfl
      have l2 := shape7 hb rfl
      simp only [Ty.subs] at l1 l2
      have e : belF (k + 1) (.mk 7 p1 j1 m1 n1 na sa) (.mk 7 p2 j2 m2 n2 nb sb) = funS (belF k) sa sb := by simp [belF, Ty.kind, Ty.subs]
      rw [e]
      have hL1 : (sa.map tyD).length = sa.length := by simp
      have hG1 : ∀ i (h : i < sa.length), (sa.map tyD)[i]? = some (tyD sa[i]) := fun i h => by simp [h]
      have hL2 : (sb.map tyD).length = sb.length := by simp
      have hG2 : ∀ i (h : i < sb.length), (sb.map tyD)[i]? = some (tyD sb[i]) := fun i h => by simp [h]
      simp only [tyD, tysD_eq]
      generalize (sl1 na) = NA
      generalize (sl1 nb) = NB
      generalize sa.map tyD = SA at hL1 hG1
      generalize sb.map tyD = SB at hL2 hG2
      have w1 : IntKind.i64.wrap ((sa.length : Int) - 1) = ((sa.length - 1 : Nat) : Int) := by rw [wrap_i64 (by omega) (by omega)]; omega
      refine acalls_vc [0, 1, 2, 3, 4, 5, 6, 7, 8, 9, 10, 11, 12, 13, 18, 20, 21, 32, 38, 50, 63, 64, 70, 82, 95, 96, 105, 109, 124] Tryz.func36 Tryz.ntmps36 (by kernel_rfl) rfl rfl (by simp) ?_
      by_cases c : sa.length = sb.length
      case neg =>
        have c' : ((sa.length : Int) != (sb.length : Int)) = true := by rw [bne_iff_ne]; omega
        have c2 : ¬ (sa.length : Int) = sb.length := by omega
        have e : funS (belF k) sa sb = false := by simp [funS, c]
        rw [e]
        simp -dsimp [I, S, Tt, set_ne, nn1, n1n, hL1, hL2, c', c, c2]
        exact pcq rfl (fr _ _)
      have c' : ((sa.length : Int) != (sb.length : Int)) = false := by rw [bne_eq_false_iff_eq]; omega
      have ea : sa.getLastD Ty0 = sa[sa.length - 1] := by rw [List.getLastD_eq_getLast?, List.getLast?_eq_getElem?]; rw [List.getElem?_eq_getElem (by omega)]; rfl
      have eb : sb.getLastD Ty0 = sb[sa.length - 1] := by rw [List.getLastD_eq_getLast?, List.getLast?_eq_getElem?]; simp only [← c]; rw [List.getElem?_eq_getElem (by omega)]; rfl
      have e : funS (belF k) sa sb = (belF k sa[sa.length - 1] sb[sa.length - 1] && (sa.dropLast.zip sb.dropLast).all fun p => belF k p.2 p.1) := by rw [funS, ea, eb, decide_eq_true c, Bool.true_and]
      rw [e]
      have hq := Q sa[sa.length - 1] (List.getElem_mem _) sb[sa.length - 1] (List.getElem_mem _)
      have hz : (sa.dropLast.zip sb.dropLast).length = sa.length - 1 := by simp; omega
      have hno : ∀ i (h : i < sa.length - 1) (h' : i < sb.length), belF k sb[i] sa[i] = false → ((sa.dropLast.zip sb.dropLast).all fun p => belF k p.2 p.1) = false := fun i h h' e => by
        rw [List.all_eq_false]
        refine ⟨(sa[i], sb[i]), ?_, by simpa using e⟩
        rw [show (sa[i], sb[i]) = (sa.dropLast.zip sb.dropLast)[i]'(by omega) by simp]
        exact List.getElem_mem _
      have hyes : (∀ i (h : i < sa.length - 1) (h' : i < sb.length), belF k sb[i] sa[i] = true) → ((sa.dropLast.zip sb.dropLast).all fun p => belF k p.2 p.1) = true := fun h => by
        rw [List.all_eq_true]
        intro p hp
        obtain ⟨i, hi, rfl⟩ := List.getElem_of_mem hp
        have := h i (by omega) (by omega)
        simpa using this
      generalize ((sa.dropLast.zip sb.dropLast).all fun p => belF k p.2 p.1) = R at hno hyes ⊢
      have i1 : sa.length - 1 < SA.length := by omega
      have i4 : sa.length - 1 < SB.length := by omega
      have i1' : (((sa.length - 1 : Nat) : Int)) < sa.length := by omega
      have i2' : (((sa.length - 1 : Nat) : Int)) < sb.length := by omega
      have i3 : sa.length - 1 < sa.length := by omega
      have i3' : sa.length - 1 < sb.length := by omega
      have g1 : SA[sa.length - 1] = tyD sa[sa.length - 1] := get_opt (hG1 _ (by omega)) i1
      have g1' : SA[sa.length - 1]? = some (tyD sa[sa.length - 1]) := hG1 _ (by omega)
      have g2 : SB[sa.length - 1] = tyD sb[sa.length - 1] := get_opt (hG2 _ (by omega)) i4
      have g2' : SB[sa.length - 1]? = some (tyD sb[sa.length - 1]) := hG2 _ (by omega)
      have z1 := tyD_len sa[sa.length - 1]
      have z2 := tyD_len sb[sa.length - 1]
      generalize tyD sa[sa.length - 1] = XX at hq z1 g1 g1'
      generalize tyD sb[sa.length - 1] = YY at hq z2 g2 g2'
      generalize belF k sa[sa.length - 1] sb[sa.length - 1] = r at hq ⊢
      have t1 : List.take 7 XX = XX := List.take_of_length_le (by omega)
      have t2 : List.take 7 YY = YY := List.take_of_length_le (by omega)
      simp -dsimp [I, S, Tt, set_ne, nn1, n1n, hL1, hL2, c']
      refine vloop_as (β := Nat) (fun i => [(2, .ptr n 0 0 0), (3, .ptr (n + 1) 0 0 0), (11, I sa.length), (12, I i)]) (fun i mm nn => mm = (m.set n ⟨7, [[I 7, S p1, I j1, S m1, S n1, NA, .sl 7 SA]], 0⟩).set (n + 1) ⟨7, [[I 7, S p2, I j2, S m2, S n2, NB, .sl 7 SB]], 0⟩ ∧ nn = n + 1 + 1 ∧ i ≤ sa.length - 1 ∧ ∀ q (h : q < sa.length - 1) (h' : q < sb.length), q < i → belF k sb[q] sa[q] = true) (fun i => sa.length - 1 - i) 0 (by simp [I]) ⟨by simp [I, S], rfl, by omega, fun q h h' hq0 => by omega⟩ ?_
      rintro i mm nn ⟨rfl, rfl, le, hall⟩
      by_cases hi : (i : Int) < ((sa.length - 1 : Nat) : Int)
      · have hi' : i < sa.length - 1 := by omega
        have hi2 : i < sb.length := by omega
        have hi3 : (i : Int) < sb.length := by omega
        have hi4 : (i : Int) < sa.length := by omega
        have hi5 : i < sa.length := by omega
        have wi : IntKind.i64.wrap ((i : Int) + 1) = (i : Int) + 1 := wrap_i64 (by omega) (by omega)
        have hiA : i < SA.length := by omega
        have hiB : i < SB.length := by omega
        have hga : SA[i] = tyD sa[i] := get_opt (hG1 i (by omega)) hiA
        have hgb : SB[i] = tyD sb[i] := get_opt (hG2 i hi2) hiB
        have hno := hno i hi' hi2
        have hq2 := Q' sa[i] (List.getElem_mem _) sb[i] (List.getElem_mem _)
        have y1 := tyD_len sa[i]
        have y2 := tyD_len sb[i]
        have hnext : belF k sb[i] sa[i] = true → ∀ q (h : q < sa.length - 1) (h' : q < sb.length), q < i + 1 → belF k sb[q] sa[q] = true := fun e q h h' hq0 => by
          rcases Nat.lt_or_eq_of_le (show q ≤ i by omega) with c | c
          · exact hall q h h' c
          · subst c; exact e
        generalize tyD sa[i] = X2 at hq2 y1 hga
        generalize tyD sb[i] = Y2 at hq2 y2 hgb
        have s1 : List.take 7 X2 = X2 := List.take_of_length_le (by omega)
        have s2 : List.take 7 Y2 = Y2 := List.take_of_length_le (by omega)
        simp -dsimp [I, S, Tt, w1, hi, set_ne, nn1, n1n]
        refine vdraw_tree [0, 1, 0, 7, 15, 0, 32, 0, 224, 480, 1023, 2047] (.rd 0 (.rd 1 (.rd 2 (.rd 3 (.rd 4 (.rd 5 (.rd 6 (.rd 7 (.rd 8 (.rd 9 (.wr (.cons 10 (.rd 11 (.fin)) (.nil))))))))))))) (by kernel_rfl) (by kernel_rfl) ?_
        simp -dsimp [I, S, Tt, set_ne, nn1, n1n, hL1, hL2, hi2, hi3, hi4, hi5, hiA, hiB, hga, hgb, y1, y2, s1, s2]
        refine pcall hq2 ?_
        cases ce : belF k sb[i] sa[i]
        · rw [hno ce, Bool.and_false]
          simp -dsimp [I, S, Tt]
          exact pcq rfl (fr _ _)
        · simp -dsimp [I, S, Tt, wi]
          exact rnd (i + 1) (by omega) (by simp [I]) ⟨by simp [I, S], rfl, by omega, hnext ce⟩
      · have e := hyes fun q h h' => hall q h h' (by omega)
        rw [e, Bool.and_true]
        simp -dsimp [I, S, Tt, w1, hi]
        refine vdraw_tree [0, 1, 0, 4, 15, 31, 0, 64, 0, 256, 960, 1984, 4095, 8191] (.rd 0 (.rd 1 (.rd 2 (.rd 3 (.rd 4 (.rd 5 (.rd 6 (.rd 7 (.rd 8 (.rd 9 (.rd 10 (.rd 11 (.wr (.cons 12 (.rd 13 (.fin)) (.nil))))))))))))))) (by kernel_rfl) (by kernel_rfl) ?_
        simp -dsimp [I, S, Tt, set_ne, nn1, n1n, hL1, hL2, w1, i1, i4, i1', i2', i3, i3', g1, g1', g2, g2', z1, z2, t1, t2]
        refine pcall hq ?_
        simp -dsimp [I, S, Tt]
        exact pcq rfl (fr _ _)
    have c7' : (k1 == 7) = false := by simpa using c7
    have e : belF (k + 1) (.mk k1 p1 j1 m1 n1 na sa) (.mk k1 p2 j2 m2 n2 nb sb) = sameT (.mk k1 p1 j1 m1 n1 na sa) (.mk k1 p2 j2 m2 n2 nb sb) := by simp [belF, Ty.kind, c4, c5, c6, c7]
    rw [e]
    generalize sameT (.mk k1 p1 j1 m1 n1 na sa) (.mk k1 p2 j2 m2 n2 nb sb) = R at hS ⊢
    simp only [tyD] at hS ⊢
    generalize (sl1 na) = NA at hS ⊢
    generalize (sl1 nb) = NB at hS ⊢
    generalize tysD sa = SA at hS ⊢
    generalize tysD sb = SB at hS ⊢
    refine acalls_vc [0, 1, 2, 3, 4, 5, 6, 7, 8, 9, 10, 11, 12, 13, 18, 20, 21, 32, 38, 50, 63, 64, 70, 82, 95, 96, 105, 109, 124] Tryz.func36 Tryz.ntmps36 (by kernel_rfl) rfl rfl (by simp) ?_
    simp -dsimp [I, S, Tt, set_ne, nn1, n1n, c4', c5', c6', c7']
    refine pcall hS ?_
    simp -dsimp [Tt]
    exact pcq rfl (fr _ _)
end Go.Proofs.Mv.App
