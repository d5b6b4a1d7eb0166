/- A part of the proofs of the seat YtgekkmmmidgkbaaGreatDoor: the abstract machine, the contracts of the functions, the laws. No condition of its own. -/
import Derived.Test.YtgekkmmmidgkbaaGreatDoorP18
import Derived.Shelf.LaysC
import Derived.Ground.NamesProg
import Derived.Test.YtgekkmmmidgkbaaGreatDoorProg
import Derived.Test.YtgekkmmmidgkbaaGreatDoorP01
import Derived.Test.YtgekkmmmidgkbaaGreatDoorP03
import Derived.Shelf.Strconv.AtoiAll
set_option linter.unusedSimpArgs false
set_option linter.unusedVariables false
set_option linter.unusedSectionVars false
open Go Go.Proofs Go.Proofs.Mv.V
set_option maxRecDepth 10000
namespace Go.Proofs.Mv.App
theorem find_ofI {α : Type} {q : α → Bool} {l : List α} : (findI q l = -1 ∧ l.find? q = none) ∨ ∃ (k : Nat) (h : k < l.length), findI q l = k ∧ l.find? q = some l[k] := by
  by_cases h : findI q l < 0
  · left; have := findI_le q l; exact ⟨by omega, findI_none h⟩
  · right; obtain ⟨k, h1, h2, h3⟩ := findI_some (q := q) (l := l) (by omega); exact ⟨k, h1, h2, h3⟩
def TyMid (EL IL LL : List (List D)) (kd : Int) (lm nm : List UInt8) (TT : List D) (K : Int) (m : Mem) (n : Nat) (σ : Nat → D) (m2 : Mem) (n2 : Nat) : Prop :=
  σ 1 = .sl 5 EL ∧ σ 3 = .ptr n 0 0 0 ∧ σ 5 = .ptr (n + 1) 0 0 0 ∧ σ 7 = .ptr (n + 1 + 1) 0 0 0 ∧ σ 8 = I K ∧ m2 = ((m.set n ⟨2, [[.sl 4 IL, .sl 10 LL]], 0⟩).set (n + 1) ⟨10, [I kd :: S lm :: S nm :: TT], 0⟩).set (n + 1 + 1) ⟨3, [[S [99], .sl 4 IL, .v (.slice none 0 0)]], 0⟩ ∧ n2 = n + 1 + 1 + 1
theorem deep_may {t : Ty} (h : mayT t = true) : deepT t ≤ 32 := by simp only [mayT, Bool.and_eq_true, decide_eq_true_eq] at h; exact h.2
set_option maxHeartbeats 8000000 in
theorem cRTyped {x : Us} {env : List Ifc} {l : Ln} (hi : x.imps.length ≤ 1000000) (he : env.length ≤ 1000000) (hw : ∀ f ∈ env, IfcW f) (hf : fewE env = true) (hl : LnW l) (hb : manyT l.typ ≤ 1000000) :
    Pc Tryz.prog 15 [.agg (usD x), .sl 5 (env.map ifD), .agg (lnD l)] (I (typedR x.imps env l)) := by
  refine pc_of (pur_I _) (fun m n => ?_)
  obtain ⟨imps, lines⟩ := x
  obtain ⟨kd, lm, nm, ty⟩ := l
  obtain ⟨w1, w2, w3⟩ := hl
  simp only at hi w1 w2 w3 hb ⊢
  have hA := cRAll (md := wC) (pkg := wC) (major := 1) hi he hw hf w3 hb
  have hxW := expF_W (md := wC) (imps := imps) (pkg := wC) (major := 1) hw w3
  have hxo := exp_ok (md := wC) (imps := imps) (pkg := wC) (major := 1) (t := ty) hw
  have hF := fun i => cRFind8 he i
  generalize hV : typedR imps env ⟨kd, lm, nm, ty⟩ = V
  unfold typedR at hV
  simp only at hV
  generalize expF wC imps wC 1 env ty = R at hA hxW hxo hV
  obtain ⟨R1, R2⟩ := R
  simp only [exRD] at hA hxW hxo hV
  have hmd : mdX wC imps = [S wC, .sl 4 (imps.map impD), .sl 9 []] := rfl
  rw [hmd] at hA
  have hL : (imps.map impD).length = imps.length := by simp
  have hG : ∀ i (h : i < imps.length), (imps.map impD)[i]? = some (impD imps[i]) := fun i h => by simp [h]
  have hEL : (env.map ifD).length = env.length := by simp
  have hEG : ∀ i (h : i < env.length), (env.map ifD)[i]? = some (ifD env[i]) := fun i h => by simp [h]
  have z1 := tyD_len ty
  have zR := tyD_len R1
  have hSub : ∀ y : Ty, TyW y → plainM y = true → R2 = 0 → Pc Tryz.prog 36 [.agg (tyD y), .agg (tyD R1)] (Tt (belF 32 y R1)) := fun y hy hp h0 => by
    have hm := hxo h0
    simp only [plainM, Bool.and_eq_true] at hm hp
    exact cRSub 32 y R1 hy hxW hp.1 hm.1 (deep_may hp.1) (deep_may hm.1)
  have hSame : ∀ y : Ty, TyW y → Pc Tryz.prog 37 [.agg (tyD y), .agg (tyD R1)] (Tt (sameT y R1)) := fun y hy => cSameT hy
  clear hxo
  simp only [usD, lnD, wC] at hA ⊢
  generalize imps.map impD = IL at hA hL hG ⊢
  generalize lines.map lnD = LL
  generalize env.map ifD = EL at hA hF hEL hEG ⊢
  generalize tyD ty = TT at hA z1 ⊢
  have t1 : List.take 7 TT = TT := List.take_of_length_le (by omega)
  generalize tyD R1 = RR at hA hSub hSame zR
  have tR : List.take 7 RR = RR := List.take_of_length_le (by omega)
  have n01 : n ≠ n + 1 := by omega
  have n10 : n + 1 ≠ n := by omega
  have n02 : n ≠ n + 1 + 1 := by omega
  have n20 : n + 1 + 1 ≠ n := by omega
  have n12 : n + 1 ≠ n + 1 + 1 := by omega
  have n21 : n + 1 + 1 ≠ n + 1 := by omega
  have n03 : n ≠ n + 1 + 1 + 1 := by omega
  have n30 : n + 1 + 1 + 1 ≠ n := by omega
  have n13 : n + 1 ≠ n + 1 + 1 + 1 := by omega
  have n31 : n + 1 + 1 + 1 ≠ n + 1 := by omega
  have n23 : n + 1 + 1 ≠ n + 1 + 1 + 1 := by omega
  have n32 : n + 1 + 1 + 1 ≠ n + 1 + 1 := by omega
  have n04 : n ≠ n + 1 + 1 + 1 + 1 := by omega
  have n40 : n + 1 + 1 + 1 + 1 ≠ n := by omega
  have n14 : n + 1 ≠ n + 1 + 1 + 1 + 1 := by omega
  have n41 : n + 1 + 1 + 1 + 1 ≠ n + 1 := by omega
  have n24 : n + 1 + 1 ≠ n + 1 + 1 + 1 + 1 := by omega
  have n42 : n + 1 + 1 + 1 + 1 ≠ n + 1 + 1 := by omega
  have n34 : n + 1 + 1 + 1 ≠ n + 1 + 1 + 1 + 1 := by omega
  have n43 : n + 1 + 1 + 1 + 1 ≠ n + 1 + 1 + 1 := by omega
  refine acalls_vc [0, 1, 2, 3, 5, 6, 7, 8, 9, 10, 11, 12, 13, 14, 15, 16, 17, 18, 19, 31, 42, 57, 79, 87, 98, 100, 115, 118, 122, 126] Tryz.func15 Tryz.ntmps15 (by kernel_rfl) rfl rfl (by simp) ?_
  rw [vc_seq]
  simp -dsimp [I, S, Tt, set_ne, n01, n10, n02, n20, n12, n21, -vc_seq]
  rw [vc_seq]
  simp -dsimp [I, S, Tt, set_ne, n01, n10, n02, n20, n12, n21, -vc_seq]
  rw [vc_seq]
  simp -dsimp [I, S, Tt, set_ne, n01, n10, n02, n20, n12, n21, -vc_seq]
  rw [vc_seq]
  refine vc_mid (TyMid EL IL LL kd lm nm TT (findI (fun i => decide (i.as_ = lm)) imps) m n) ?_ ?_
  rotate_left
  · rintro σ m2 n2 ⟨h1, h3, h5, h7, h8, rfl, rfl⟩
    have fr3 : ∀ o o' o'' o3 j, j < n → ((((m.set n o).set (n + 1) o').set (n + 1 + 1) o'').set (n + 1 + 1 + 1) o3) j = m j := fun o o' o'' o3 j hj => by rw [set_ne _ _ _ _ (by omega), set_ne _ _ _ _ (by omega), set_ne _ _ _ _ (by omega), set_ne _ _ _ _ (by omega)]
    have fr4 : ∀ o o' o'' o3 o4 j, j < n → (((((m.set n o).set (n + 1) o').set (n + 1 + 1) o'').set (n + 1 + 1 + 1) o3).set (n + 1 + 1 + 1 + 1) o4) j = m j := fun o o' o'' o3 o4 j hj => by rw [set_ne _ _ _ _ (by omega)]; exact fr3 _ _ _ _ j hj
    have hle : LeL [.agg [S [99], .sl 4 IL, .v (.slice none 0 0)], S [99], I 1, .sl 5 EL, .agg TT] [.agg [S [99], .sl 4 IL, .sl 9 []], S [99], I 1, .sl 5 EL, .agg TT] := .cons (Le_agg (.cons (.refl _) (.cons (.refl _) (.cons (Le_nil 9) .nil)))) (.refl _)
    simp only [I, S] at hle
    rcases find_ofI (q := fun i : Imp => decide (i.as_ = lm)) (l := imps) with ⟨k1, k2⟩ | ⟨k, hk, k1, k2⟩
    · rw [k1] at h8
      rw [k2] at hV
      simp only at hV
      subst hV
      simp -dsimp [h1, h3, h5, h7, h8, I, S, Tt, set_ne, n01, n10, n02, n20, n12, n21, n03, n30, n13, n31, n23, n32, n04, n40, n14, n41, n24, n42, n34, n43, z1, t1, zR, tR]
      refine aCall_le hle ?_
      refine pcall hA ?_
      simp -dsimp [h1, h3, h5, h7, h8, I, S, Tt, set_ne, n01, n10, n02, n20, n12, n21, n03, n30, n13, n31, n23, n32, n04, n40, n14, n41, n24, n42, n34, n43, z1, t1, zR, tR]
      exact pcq rfl (fr3 _ _ _ _)
    rw [k1] at h8
    rw [k2] at hV
    simp only at hV
    have k0 : ¬ ((k : Int) < 0) := by omega
    by_cases c4 : R2 = 4
    · rw [if_pos c4] at hV
      subst hV
      subst c4
      simp -dsimp [h1, h3, h5, h7, h8, I, S, Tt, set_ne, n01, n10, n02, n20, n12, n21, n03, n30, n13, n31, n23, n32, n04, n40, n14, n41, n24, n42, n34, n43, z1, t1, zR, tR]
      refine aCall_le hle ?_
      refine pcall hA ?_
      simp -dsimp [h1, h3, h5, h7, h8, I, S, Tt, set_ne, n01, n10, n02, n20, n12, n21, n03, n30, n13, n31, n23, n32, n04, n40, n14, n41, n24, n42, n34, n43, z1, t1, zR, tR, k0]
      exact pcq rfl (fr3 _ _ _ _)
    rw [if_neg c4] at hV
    have c4' : (R2 == 4) = false := by simpa using c4
    have hkI : k < IL.length := by omega
    have hkL : (k : Int) < imps.length := by omega
    have hgk : IL[k] = impD imps[k] := get_opt (hG k hk) hkI
    have hkm : impD imps[k] = [S imps[k].pkg, I imps[k].major, S imps[k].mod, S imps[k].as_] := rfl
    have hFk := hF imps[k]
    have hfd : findF env imps[k] = env.find? (forI imps[k]) := rfl
    rw [hfd] at hV
    clear hfd hG hF
    rcases find_ofI (q := forI imps[k]) (l := env) with ⟨f1, f2⟩ | ⟨f, hf0, f1, f2⟩
    · rw [f1] at hFk
      rw [f2] at hV
      simp only at hV
      subst hV
      simp -dsimp [h1, h3, h5, h7, h8, I, S, Tt, set_ne, n01, n10, n02, n20, n12, n21, n03, n30, n13, n31, n23, n32, n04, n40, n14, n41, n24, n42, n34, n43, z1, t1, zR, tR]
      refine aCall_le hle ?_
      refine pcall hA ?_
      simp -dsimp [h1, h3, h5, h7, h8, I, S, Tt, set_ne, n01, n10, n02, n20, n12, n21, n03, n30, n13, n31, n23, n32, n04, n40, n14, n41, n24, n42, n34, n43, z1, t1, zR, tR, k0, c4, c4']
      refine vdraw_treeM (.rd 0 (.rd 1 (.rd 2 (.rd 3 (.rd 4 (.rd 5 (.rd 6 (.rd 7 (.rd 8 (.rd 9 (.rd 10 (.rd 11 (.rd 12 (.rd 13 (.rd 14 (.rd 15 (.rd 16 (.rd 17 (.rd 18 (.wr (.cons 19 (.rd 20 (.fin)) (.nil)))))))))))))))))))))) (by kernel_rfl) (by kernel_rfl) ?_; intro mk
      simp -dsimp [h1, h3, h5, h7, h8, I, S, Tt, set_ne, n01, n10, n02, n20, n12, n21, n03, n30, n13, n31, n23, n32, n04, n40, n14, n41, n24, n42, n34, n43, z1, t1, zR, tR, k0, hL, hk, hkI, hkL, hgk, hkm]
      refine pcall hFk ?_
      simp -dsimp [h1, h3, h5, h7, h8, I, S, Tt, set_ne, n01, n10, n02, n20, n12, n21, n03, n30, n13, n31, n23, n32, n04, n40, n14, n41, n24, n42, n34, n43, z1, t1, zR, tR, k0]
      exact pcq rfl (fr3 _ _ _ _)
    rw [f1] at hFk
    rw [f2] at hV
    simp only at hV
    clear f1 f2
    have hmem := List.getElem_mem hf0
    have hfE : f < EL.length := by omega
    have hfL : (f : Int) < env.length := by omega
    have hgf : EL[f] = ifD env[f] := get_opt (hEG f hf0) hfE
    have f0 : ¬ ((f : Int) < 0) := by omega
    have hwf := hw _ hmem
    have hff := fewE_mem hf _ hmem
    have hrow : ∃ ROW : List Nm, hasR env[f] ⟨kd, lm, nm, ty⟩ = ofF ROW nm ∧ (∀ x ∈ ROW, NmW x) ∧ ROW.length ≤ 200 ∧ (∀ x ∈ ROW, manyT x.2 ≤ 3000) ∧ ∃ TL VL, ifD env[f] = [S env[f].pkg, I env[f].major, S env[f].mod, .sl 8 TL, .sl 8 VL] ∧ ((kd == 2) = true ∧ TL = ROW.map nnD ∨ (kd == 2) = false ∧ VL = ROW.map nnD) := by
      by_cases h : kd = 2
      · exact ⟨env[f].types, by simp [hasR, h], hwf.h3, hff.1, hff.2.2.1, _, _, rfl, .inl ⟨by simp [h], rfl⟩⟩
      · exact ⟨env[f].vals, by simp [hasR, h], hwf.h4, hff.2.1, hff.2.2.2, _, _, rfl, .inr ⟨by simp [h], rfl⟩⟩
    obtain ⟨ROW, r1, r2, r3, r4, TL, VL, him5, hsel⟩ := hrow
    rw [r1] at hV
    rw [him5] at hgf
    clear hEG hwf hff him5 r1
    have hO := cROf8 (l := ROW) (by omega) nm
    have hRL : (ROW.map nnD).length = ROW.length := by simp
    have hRG : ∀ i (h : i < ROW.length), (ROW.map nnD)[i]? = some (nnD ROW[i]) := fun i h => by simp [h]
    generalize ROW.map nnD = RL at hO hRL hRG hsel
    have hof : ofF ROW nm = (ROW.find? fun x => decide (x.1 = nm)).map (·.2) := rfl
    rw [hof] at hV
    clear hof
    rcases find_ofI (q := fun x : Nm => decide (x.1 = nm)) (l := ROW) with ⟨o1, o2⟩ | ⟨q, hq, o1, o2⟩
    · rw [o1] at hO
      rw [o2] at hV
      simp only [Option.map_none] at hV
      subst hV
      rcases hsel with ⟨kb, rfl⟩ | ⟨kb, rfl⟩
      all_goals
        simp -dsimp [h1, h3, h5, h7, h8, I, S, Tt, set_ne, n01, n10, n02, n20, n12, n21, n03, n30, n13, n31, n23, n32, n04, n40, n14, n41, n24, n42, n34, n43, z1, t1, zR, tR]
        refine aCall_le hle ?_
        refine pcall hA ?_
        simp -dsimp [h1, h3, h5, h7, h8, I, S, Tt, set_ne, n01, n10, n02, n20, n12, n21, n03, n30, n13, n31, n23, n32, n04, n40, n14, n41, n24, n42, n34, n43, z1, t1, zR, tR, k0, c4, c4']
        refine vdraw_treeM (.rd 0 (.rd 1 (.rd 2 (.rd 3 (.rd 4 (.rd 5 (.rd 6 (.rd 7 (.rd 8 (.rd 9 (.rd 10 (.rd 11 (.rd 12 (.rd 13 (.rd 14 (.rd 15 (.rd 16 (.rd 17 (.rd 18 (.wr (.cons 19 (.rd 20 (.fin)) (.nil)))))))))))))))))))))) (by kernel_rfl) (by kernel_rfl) ?_; intro mk
        simp -dsimp [h1, h3, h5, h7, h8, I, S, Tt, set_ne, n01, n10, n02, n20, n12, n21, n03, n30, n13, n31, n23, n32, n04, n40, n14, n41, n24, n42, n34, n43, z1, t1, zR, tR, k0, hL, hk, hkI, hkL, hgk, hkm]
        refine pcall hFk ?_
        simp -dsimp [h1, h3, h5, h7, h8, I, S, Tt, set_ne, n01, n10, n02, n20, n12, n21, n03, n30, n13, n31, n23, n32, n04, n40, n14, n41, n24, n42, n34, n43, z1, t1, zR, tR, f0, hEL, hf0, hfE, hfL, hgf, kb]
        refine pcall hO ?_
        simp -dsimp [h1, h3, h5, h7, h8, I, S, Tt, set_ne, n01, n10, n02, n20, n12, n21, n03, n30, n13, n31, n23, n32, n04, n40, n14, n41, n24, n42, n34, n43, z1, t1, zR, tR]
        exact pcq rfl (fr3 _ _ _ _)
    rw [o1] at hO
    rw [o2] at hV
    simp only [Option.map_some] at hV
    clear o1 o2
    have q0 : ¬ ((q : Int) < 0) := by omega
    have hqL : (q : Int) < ROW.length := by omega
    have hqR : q < RL.length := by omega
    have hgq : RL[q] = nnD ROW[q] := get_opt (hRG q hq) hqR
    have hqm : nnD ROW[q] = S ROW[q].1 :: tyD ROW[q].2 := rfl
    have hyW := (r2 _ (List.getElem_mem hq)).h2
    have hM : Pc Tryz.prog 31 [.agg (tyD ROW[q].2)] (Tt (mayT ROW[q].2)) := fun m n => cRMay hyW (by have := r4 _ (List.getElem_mem hq); omega) m n
    have hPl := cRPlain hyW
    have hSb := hSub _ hyW
    have hSa := hSame _ hyW
    have hpm : plainM ROW[q].2 = (mayT ROW[q].2 && plainT ROW[q].2) := rfl
    clear hSub hSame r2 r4 hRG
    have zy := tyD_len ROW[q].2
    generalize mayT ROW[q].2 = b1 at hM hpm
    generalize plainT ROW[q].2 = b2 at hPl hpm
    generalize plainM ROW[q].2 = b3 at hpm hSb hV
    generalize belF 32 ROW[q].2 R1 = b4 at hSb hV
    generalize sameT ROW[q].2 R1 = b5 at hSa hV
    generalize tyD ROW[q].2 = YY at hqm hM hPl hSb hSa zy
    have ty_ : List.take 7 YY = YY := List.take_of_length_le (by omega)
    by_cases c0 : R2 = 0
    case neg =>
      have c0' : (R2 != 0) = true := by simpa using c0
      rw [if_neg c0] at hV
      subst hV
      rcases hsel with ⟨kb, rfl⟩ | ⟨kb, rfl⟩
      all_goals
        simp -dsimp [h1, h3, h5, h7, h8, I, S, Tt, set_ne, n01, n10, n02, n20, n12, n21, n03, n30, n13, n31, n23, n32, n04, n40, n14, n41, n24, n42, n34, n43, z1, t1, zR, tR]
        refine aCall_le hle ?_
        refine pcall hA ?_
        simp -dsimp [h1, h3, h5, h7, h8, I, S, Tt, set_ne, n01, n10, n02, n20, n12, n21, n03, n30, n13, n31, n23, n32, n04, n40, n14, n41, n24, n42, n34, n43, z1, t1, zR, tR, k0, c4, c4']
        refine vdraw_treeM (.rd 0 (.rd 1 (.rd 2 (.rd 3 (.rd 4 (.rd 5 (.rd 6 (.rd 7 (.rd 8 (.rd 9 (.rd 10 (.rd 11 (.rd 12 (.rd 13 (.rd 14 (.rd 15 (.rd 16 (.rd 17 (.rd 18 (.wr (.cons 19 (.rd 20 (.fin)) (.nil)))))))))))))))))))))) (by kernel_rfl) (by kernel_rfl) ?_; intro mk
        simp -dsimp [h1, h3, h5, h7, h8, I, S, Tt, set_ne, n01, n10, n02, n20, n12, n21, n03, n30, n13, n31, n23, n32, n04, n40, n14, n41, n24, n42, n34, n43, z1, t1, zR, tR, k0, hL, hk, hkI, hkL, hgk, hkm]
        refine pcall hFk ?_
        simp -dsimp [h1, h3, h5, h7, h8, I, S, Tt, set_ne, n01, n10, n02, n20, n12, n21, n03, n30, n13, n31, n23, n32, n04, n40, n14, n41, n24, n42, n34, n43, z1, t1, zR, tR, f0, hEL, hf0, hfE, hfL, hgf, kb]
        refine pcall hO ?_
        simp -dsimp [h1, h3, h5, h7, h8, I, S, Tt, set_ne, n01, n10, n02, n20, n12, n21, n03, n30, n13, n31, n23, n32, n04, n40, n14, n41, n24, n42, n34, n43, z1, t1, zR, tR, q0, c0, c0']
        exact pcq rfl (fr3 _ _ _ _)
    subst c0
    rw [if_pos rfl] at hV
    have hSb := fun h => hSb h rfl
    rcases hsel with ⟨kb, rfl⟩ | ⟨kb, rfl⟩
    all_goals
      simp -dsimp [h1, h3, h5, h7, h8, I, S, Tt, set_ne, n01, n10, n02, n20, n12, n21, n03, n30, n13, n31, n23, n32, n04, n40, n14, n41, n24, n42, n34, n43, z1, t1, zR, tR]
      refine aCall_le hle ?_
      refine pcall hA ?_
      simp -dsimp [h1, h3, h5, h7, h8, I, S, Tt, set_ne, n01, n10, n02, n20, n12, n21, n03, n30, n13, n31, n23, n32, n04, n40, n14, n41, n24, n42, n34, n43, z1, t1, zR, tR, k0, c4, c4']
      refine vdraw_treeM (.rd 0 (.rd 1 (.rd 2 (.rd 3 (.rd 4 (.rd 5 (.rd 6 (.rd 7 (.rd 8 (.rd 9 (.rd 10 (.rd 11 (.rd 12 (.rd 13 (.rd 14 (.rd 15 (.rd 16 (.rd 17 (.rd 18 (.wr (.cons 19 (.rd 20 (.fin)) (.nil)))))))))))))))))))))) (by kernel_rfl) (by kernel_rfl) ?_; intro mk
      simp -dsimp [h1, h3, h5, h7, h8, I, S, Tt, set_ne, n01, n10, n02, n20, n12, n21, n03, n30, n13, n31, n23, n32, n04, n40, n14, n41, n24, n42, n34, n43, z1, t1, zR, tR, k0, hL, hk, hkI, hkL, hgk, hkm]
      refine pcall hFk ?_
      simp -dsimp [h1, h3, h5, h7, h8, I, S, Tt, set_ne, n01, n10, n02, n20, n12, n21, n03, n30, n13, n31, n23, n32, n04, n40, n14, n41, n24, n42, n34, n43, z1, t1, zR, tR, f0, hEL, hf0, hfE, hfL, hgf, kb]
      refine pcall hO ?_
      simp -dsimp [h1, h3, h5, h7, h8, I, S, Tt, set_ne, n01, n10, n02, n20, n12, n21, n03, n30, n13, n31, n23, n32, n04, n40, n14, n41, n24, n42, n34, n43, z1, t1, zR, tR, q0, hRL, hq, hqL, hqR, hgq, hqm, zy, ty_]
      refine pcall hM ?_
      cases b1 with
      | false =>
        rw [Bool.false_and] at hpm
        subst hpm
        simp only [Bool.false_eq_true, if_false] at hV
        subst hV
        simp -dsimp [h1, h3, h5, h7, h8, I, S, Tt, set_ne, n01, n10, n02, n20, n12, n21, n03, n30, n13, n31, n23, n32, n04, n40, n14, n41, n24, n42, n34, n43, z1, t1, zR, tR, zy, ty_]
        exact pcq rfl (fr4 _ _ _ _ _)
      | true =>
        rw [Bool.true_and] at hpm
        subst hpm
        simp -dsimp [h1, h3, h5, h7, h8, I, S, Tt, set_ne, n01, n10, n02, n20, n12, n21, n03, n30, n13, n31, n23, n32, n04, n40, n14, n41, n24, n42, n34, n43, z1, t1, zR, tR, zy, ty_]
        refine pcall hPl ?_
        cases b3 with
        | false =>
          simp only [Bool.false_eq_true, if_false] at hV
          subst hV
          simp -dsimp [h1, h3, h5, h7, h8, I, S, Tt, set_ne, n01, n10, n02, n20, n12, n21, n03, n30, n13, n31, n23, n32, n04, n40, n14, n41, n24, n42, n34, n43, z1, t1, zR, tR, zy, ty_]
          exact pcq rfl (fr4 _ _ _ _ _)
        | true =>
          have hSb := hSb rfl
          simp only [if_true] at hV
          by_cases c1 : kd = 1
          · rw [if_pos c1] at hV
            have c1' : (kd == 1) = true := by simpa using c1
            simp -dsimp [h1, h3, h5, h7, h8, I, S, Tt, set_ne, n01, n10, n02, n20, n12, n21, n03, n30, n13, n31, n23, n32, n04, n40, n14, n41, n24, n42, n34, n43, z1, t1, zR, tR, zy, ty_, c1, c1']
            refine pcall hSb ?_
            cases b4 with
            | false =>
              simp only [Bool.false_eq_true, if_false] at hV
              subst hV
              simp -dsimp [h1, h3, h5, h7, h8, I, S, Tt, set_ne, n01, n10, n02, n20, n12, n21, n03, n30, n13, n31, n23, n32, n04, n40, n14, n41, n24, n42, n34, n43, z1, t1, zR, tR, zy, ty_]
              exact pcq rfl (fr4 _ _ _ _ _)
            | true =>
              simp only [if_true] at hV
              subst hV
              simp -dsimp [h1, h3, h5, h7, h8, I, S, Tt, set_ne, n01, n10, n02, n20, n12, n21, n03, n30, n13, n31, n23, n32, n04, n40, n14, n41, n24, n42, n34, n43, z1, t1, zR, tR, zy, ty_]
              exact pcq rfl (fr4 _ _ _ _ _)
          · rw [if_neg c1] at hV
            have c1' : (kd == 1) = false := by simpa using c1
            simp -dsimp [h1, h3, h5, h7, h8, I, S, Tt, set_ne, n01, n10, n02, n20, n12, n21, n03, n30, n13, n31, n23, n32, n04, n40, n14, n41, n24, n42, n34, n43, z1, t1, zR, tR, zy, ty_, c1, c1']
            refine pcall hSa ?_
            cases b5 with
            | false =>
              simp only [Bool.false_eq_true, if_false] at hV
              subst hV
              simp -dsimp [h1, h3, h5, h7, h8, I, S, Tt, set_ne, n01, n10, n02, n20, n12, n21, n03, n30, n13, n31, n23, n32, n04, n40, n14, n41, n24, n42, n34, n43, z1, t1, zR, tR, zy, ty_]
              exact pcq rfl (fr4 _ _ _ _ _)
            | true =>
              simp only [if_true] at hV
              subst hV
              simp -dsimp [h1, h3, h5, h7, h8, I, S, Tt, set_ne, n01, n10, n02, n20, n12, n21, n03, n30, n13, n31, n23, n32, n04, n40, n14, n41, n24, n42, n34, n43, z1, t1, zR, tR, zy, ty_]
              exact pcq rfl (fr4 _ _ _ _ _)
  simp -dsimp [I, S, Tt, set_ne, n01, n10, n02, n20, n12, n21]
  refine vloop_as (β := Nat × Int) (fun b => [(1, .sl 5 EL), (3, .ptr n 0 0 0), (5, .ptr (n + 1) 0 0 0), (7, .ptr (n + 1 + 1) 0 0 0), (8, I b.2), (9, I b.1)])
    (fun b m2 n2 => m2 = ((m.set n ⟨2, [[.sl 4 IL, .sl 10 LL]], 0⟩).set (n + 1) ⟨10, [I kd :: S lm :: S nm :: TT], 0⟩).set (n + 1 + 1) ⟨3, [[S [99], .sl 4 IL, .v (.slice none 0 0)]], 0⟩ ∧ n2 = n + 1 + 1 + 1 ∧ b.1 ≤ imps.length ∧
      ((b.2 = -1 ∧ ∀ x ∈ imps.take b.1, decide (x.as_ = lm) = false) ∨ (b.2 = findI (fun i => decide (i.as_ = lm)) imps ∧ 0 ≤ b.2)))
    (fun b => imps.length - b.1) (0, -1) (by simp [I]) ⟨by simp [I, S, z1], rfl, by simp, by simp⟩ ?_
  rintro ⟨i, kk⟩ m2 n2 ⟨rfl, rfl, le, hinv⟩
  simp only at le hinv
  have hgo : (i < imps.length ∧ kk = -1 ∧ ∀ x ∈ imps.take i, decide (x.as_ = lm) = false) ∨ (kk = findI (fun i => decide (i.as_ = lm)) imps ∧ ¬ ((i : Int) < imps.length ∧ kk < 0)) := by
    rcases hinv with ⟨rfl, al⟩ | ⟨h1, h2⟩
    · by_cases c : i < imps.length
      · exact .inl ⟨c, rfl, al⟩
      · exact .inr ⟨by rw [no_end (by omega) al], by omega⟩
    · exact .inr ⟨h1, by omega⟩
  clear hinv
  rcases hgo with ⟨ci', rfl, al⟩ | ⟨hK, hstop⟩
  · have ci : (i : Int) < imps.length := by omega
    have wi : IntKind.i64.wrap ((i : Int) + 1) = (i : Int) + 1 := wrap_i64 (by omega) (by omega)
    have hiN : i < IL.length := by omega
    have hgi : IL[i] = impD imps[i] := get_opt (hG i ci') hiN
    have him : impD imps[i] = [S imps[i].pkg, I imps[i].major, S imps[i].mod, S imps[i].as_] := rfl
    simp -dsimp [I, S, Tt, set_ne, n01, n10, n02, n20, n12, n21, hL, ci, ci']
    refine vdraw_of [0, 1, 0, 7, 15, 31, 0, 64, 255] [0, 1, 2, 3, 4, 5, 6, 7, 8] (by kernel_rfl) (by kernel_rfl) ?_
    by_cases c : imps[i].as_ = lm
    · have c' : (imps[i].as_ == lm) = true := by simpa using c
      simp -dsimp [I, S, Tt, set_ne, n01, n10, n02, n20, n12, n21, hL, ci, ci', hiN, hgi, him, c', wi]
      exact rnd (i + 1, (i : Int)) (by simp only; omega) (by simp [I]) ⟨by simp [I, S], rfl, by simp only; omega, .inr ⟨by rw [findI_hit ci' (by simpa using c) al], by simp only; omega⟩⟩
    · have c' : (imps[i].as_ == lm) = false := by simpa using c
      simp -dsimp [I, S, Tt, set_ne, n01, n10, n02, n20, n12, n21, hL, ci, ci', hiN, hgi, him, c', wi]
      exact rnd (i + 1, -1) (by simp only; omega) (by simp [I]) ⟨by simp [I, S], rfl, by simp only; omega, .inl ⟨rfl, no_next ci' al (by simpa using c)⟩⟩
  · subst hK
    generalize findI (fun i => decide (i.as_ = lm)) imps = kk at *
    by_cases ci : (i : Int) < imps.length
    · have ck : ¬ kk < 0 := fun h => hstop ⟨ci, h⟩
      have ci' : i < imps.length := by omega
      simp -dsimp [I, S, Tt, set_ne, n01, n10, n02, n20, n12, n21, hL, ci, ci', ck]
      exact ⟨by simp, by simp, by simp, by simp, by simp [I], by simp [I, S], rfl⟩
    · have ci' : ¬ i < imps.length := by omega
      simp -dsimp [I, S, Tt, set_ne, n01, n10, n02, n20, n12, n21, hL, ci, ci']
      exact ⟨by simp, by simp, by simp, by simp, by simp [I], by simp [I, S], rfl⟩
end Go.Proofs.Mv.App
open Go Go.Proofs Go.Proofs.Mv.V
set_option maxRecDepth 10000
namespace Go.Proofs.Mv.App
set_option maxHeartbeats 4000000 in
theorem cRCheckU {x : Us} {env : List Ifc} (hx : UsW x) (hfu : fewU x = true) (hw : ∀ f ∈ env, IfcW f) (hf : fewE env = true) :
    Pc Tryz.prog 8 [.agg (usD x), .sl 5 (env.map ifD)] (.tup [I (chkU x env).1, I (chkU x env).2]) := by
  refine pc_of (Pur.tup (by simp; exact ⟨pur_I _, pur_I _⟩)) (fun m n => ?_)
  have he := fewE_len hf
  have hfp := fewU_parts hfu
  have hM := cRUMay hx hfu
  have hT : mayU x = true → ∀ i (h : i < x.lines.length), Pc Tryz.prog 15 [.agg (usD x), .sl 5 (env.map ifD), .agg (lnD x.lines[i])] (I (codeAt x env i)) := fun hm i h => by
    have hmem := List.getElem_mem h
    have := cRTyped (x := x) (env := env) (l := x.lines[i]) (by omega) (by omega) hw hf (hx.h4 _ hmem) (by have := few3_manyU (hfp.2.2 _ hmem); omega)
    rw [typedR_eq hw (by
      have := (mayU_parts hm).2.2.2 _ hmem
      simp only [lnOk, lnNm, Bool.and_eq_true, Bool.or_eq_true, decide_eq_true_eq] at this
      rcases this.1.1 with h | h
      · exact .inl h.1
      · exact .inr h.1)] at this
    have e : codeAt x env i = typedF x.imps env x.lines[i] := by simp [codeAt, h]
    rw [e]; exact this
  generalize hR : chkU x env = R
  unfold chkU at hR
  have hBa := fun i h h2 h3 => badL_at (x := x) (env := env) (i := i) h h2 h3
  have hBn := badL_no (x := x) (env := env)
  generalize codeAt x env = CA at hT hBa hBn hR
  generalize badL x env = BL at hBa hBn hR
  generalize mayU x = MU at hM hT hR
  obtain ⟨imps, lines⟩ := x
  simp only at hT hBa hBn hR hfp
  have hL : (imps.map impD).length = imps.length := by simp
  have hG : ∀ i (h : i < imps.length), (imps.map impD)[i]? = some (impD imps[i]) := fun i h => by simp [h]
  have hL2 : (lines.map lnD).length = lines.length := by simp
  have hG2 : ∀ i (h : i < lines.length), (lines.map lnD)[i]? = some (lnD lines[i]) := fun i h => by simp [h]
  have hEL : (env.map ifD).length = env.length := by simp
  simp only [usD] at hM hT ⊢
  generalize imps.map impD = IL at hM hT hL hG ⊢
  generalize lines.map lnD = LL at hM hT hL2 hG2 ⊢
  generalize env.map ifD = EL at hT hEL ⊢
  have fr : ∀ o j, j < n → (m.set n o) j = m j := fun o j hj => set_ne _ _ _ _ (by omega)
  refine acalls_vc [0, 1, 2, 4, 5, 6, 7, 8, 9, 10, 19, 24, 29, 44, 50, 62] Tryz.func8 Tryz.ntmps8 (by kernel_rfl) rfl rfl (by simp) ?_
  simp -dsimp [I, S, Tt]
  refine pcall hM ?_
  cases MU with
  | false =>
    simp at hR
    subst hR
    simp -dsimp [I, S, Tt]
    exact pcq rfl (fr _)
  | true =>
  by_cases ce : (100 : Int) < env.length
  · have ce' : ¬ env.length ≤ 100 := by omega
    simp [ce'] at hR
    subst hR
    simp -dsimp [I, S, Tt, hEL, ce]
    exact pcq rfl (fr _)
  have ce' : env.length ≤ 100 := by omega
  have hT := hT rfl
  rw [if_pos (by simp [ce'])] at hR
  simp -dsimp [I, S, Tt, hEL, ce]
  refine vloop_as (β := Nat) (fun i => [(1, .sl 5 EL), (2, .ptr n 0 0 0), (7, I i)]) (fun i m2 n2 => m2 = m.set n ⟨2, [[.sl 4 IL, .sl 10 LL]], 0⟩ ∧ n2 = n + 1 ∧ i ≤ imps.length ∧ ∀ q, q < i → dupAt imps q = false) (fun i => imps.length - i) 0 (by simp [I]) ⟨by simp, rfl, by omega, fun q h => by omega⟩ ?_
  rintro i m2 n2 ⟨rfl, rfl, le, hno⟩
  by_cases hi : (i : Int) < imps.length
  · have hi' : i < imps.length := by omega
    have wi : IntKind.i64.wrap ((i : Int) + 1) = (i : Int) + 1 := wrap_i64 (by omega) (by omega)
    have hiN : i < IL.length := by omega
    have hgi : IL[i] = impD imps[i] := get_opt (hG i hi') hiN
    have him : impD imps[i] = [S imps[i].pkg, I imps[i].major, S imps[i].mod, S imps[i].as_] := rfl
    simp -dsimp [I, S, Tt, hL, hi, hi']
    refine vloop_as (β := Nat) (fun k => [(1, .sl 5 EL), (2, .ptr n 0 0 0), (7, I i), (8, I k)]) (fun k m2 n2 => m2 = m.set n ⟨2, [[.sl 4 IL, .sl 10 LL]], 0⟩ ∧ n2 = n + 1 ∧ k ≤ i ∧ ∀ q (h : q < k) (h' : k ≤ i), ¬ (imps[q]'(by omega)).as_ = imps[i].as_) (fun k => i - k) 0 (by simp [I]) ⟨rfl, rfl, by omega, fun q h => by omega⟩ ?_
    rintro k m2 n2 ⟨rfl, rfl, lek, al⟩
    by_cases hk : (k : Int) < i
    · have hk' : k < i := by omega
      have hk2 : k < imps.length := by omega
      have wk : IntKind.i64.wrap ((k : Int) + 1) = (k : Int) + 1 := wrap_i64 (by omega) (by omega)
      have hkN : k < IL.length := by omega
      have hgk : IL[k] = impD imps[k] := get_opt (hG k hk2) hkN
      have hkm : impD imps[k] = [S imps[k].pkg, I imps[k].major, S imps[k].mod, S imps[k].as_] := rfl
      simp -dsimp [I, S, Tt, hL, hi, hi', hk, hk', hk2]
      refine vdraw_of [0, 1, 0, 7, 15, 31, 0, 64, 0, 448, 960, 1984, 4095] [0, 1, 2, 3, 4, 5, 6, 7, 8, 9, 10, 11, 12] (by kernel_rfl) (by kernel_rfl) ?_
      by_cases c : imps[k].as_ = imps[i].as_
      · have c' : (imps[k].as_ == imps[i].as_) = true := by simpa using c
        rw [dupI_at hi' (dupAt_hit hi' hk' c) hno] at hR
        simp only at hR
        subst hR
        simp -dsimp [I, S, Tt, hL, hi, hi', hiN, hgi, him, hk, hk', hk2, hkN, hgk, hkm, c']
        exact pcq rfl (fr _)
      · have c' : (imps[k].as_ == imps[i].as_) = false := by simpa using c
        simp -dsimp [I, S, Tt, hL, hi, hi', hiN, hgi, him, hk, hk', hk2, hkN, hgk, hkm, c', wk]
        refine rnd (k + 1) (by omega) (by simp [I]) ⟨rfl, rfl, by omega, fun q hq h' => ?_⟩
        rcases Nat.lt_or_eq_of_le (show q ≤ k by omega) with h | h
        · exact al q h lek
        · subst h; exact c
    · have hki : k = i := by omega
      simp -dsimp [I, S, Tt, hk, wi]
      refine rnd (i + 1) (by omega) (by simp [I]) ⟨by simp, rfl, by omega, fun q hq => ?_⟩
      rcases Nat.lt_or_eq_of_le (show q ≤ i by omega) with h | h
      · exact hno q h
      · subst h; exact dupAt_none hi' fun p hp => al p (by omega) (by omega)
  · rw [dupI_no fun j hj => hno j (by omega)] at hR
    simp only at hR
    clear hG hno
    simp -dsimp [I, S, Tt, hL, hi]
    refine vloop_as (β := Nat) (fun i => [(1, .sl 5 EL), (2, .ptr n 0 0 0), (9, I i)]) (fun i m2 n2 => m2 = m.set n ⟨2, [[.sl 4 IL, .sl 10 LL]], 0⟩ ∧ n2 = n + 1 ∧ i ≤ lines.length ∧ ∀ q, q < i → CA q = 0) (fun i => lines.length - i) 0 (by simp [I]) ⟨rfl, rfl, by omega, fun q h => by omega⟩ ?_
    rintro i m2 n2 ⟨rfl, rfl, le2, hno2⟩
    by_cases c2 : (i : Int) < lines.length
    · have c2' : i < lines.length := by omega
      have wi : IntKind.i64.wrap ((i : Int) + 1) = (i : Int) + 1 := wrap_i64 (by omega) (by omega)
      have hiI : i < LL.length := by omega
      have g1 : LL[i] = lnD lines[i] := get_opt (hG2 i c2') hiI
      have hTi := hT i c2'
      have hba := hBa i c2'
      have z1 := lnD_len lines[i]
      generalize lnD lines[i] = XX at g1 hTi z1
      have t1 : List.take 10 XX = XX := List.take_of_length_le (by omega)
      simp -dsimp [I, S, Tt, c2, c2', hL2]
      refine vdraw_tree [0, 0, 0, 4, 0, 28, 60, 127, 255] (.rd 0 (.rd 1 (.rd 2 (.rd 3 (.rd 4 (.rd 5 (.rd 6 (.wr (.cons 7 (.rd 8 (.fin)) (.nil)))))))))) (by kernel_rfl) (by kernel_rfl) ?_
      simp -dsimp [I, S, Tt, c2, c2', hiI, g1, hL2, z1, t1]
      refine pcall hTi ?_
      by_cases cz : CA i = 0
      · have cz' : (CA i != 0) = false := by simpa using cz
        simp -dsimp [I, S, Tt, cz, cz', wi]
        refine rnd (i + 1) (by omega) (by simp [I]) ⟨rfl, rfl, by omega, fun q hq0 => ?_⟩
        rcases Nat.lt_or_eq_of_le (show q ≤ i by omega) with c | c
        · exact hno2 q c
        · subst c; exact cz
      · have cz' : (CA i != 0) = true := by simpa using cz
        rw [hba cz hno2] at hR
        simp only at hR
        subst hR
        simp -dsimp [I, S, Tt, cz, cz']
        exact pcq rfl (fr _)
    · rw [hBn fun j hj => hno2 j (by omega)] at hR
      simp only at hR
      subst hR
      simp -dsimp [I, S, Tt, c2, hL2]
      exact pcq rfl (fr _)
end Go.Proofs.Mv.App
namespace Go.Proofs
open Go.Shelf
def Tryz.laysAtoi_ren : Go.Shelf.Ren := ⟨fun | 172 => 57 | 244 => 102 | 245 => 103 | 247 => 141 | 279 => 142 | 280 => 143 | 281 => 144 | 282 => 145 | 287 => 146 | 316 => 177 | 171 => 179 | 205 => 178 | 321 => 180 | 322 => 181 | 243 => 204 | 246 => 223 | 283 => 237 | 284 => 238 | 285 => 239 | 286 => 240 | 129 => 221 | 317 => 245 | 318 => 246 | 319 => 247 | 320 => 248 | 337 => 250 | 338 => 251 | n => n, fun | 9 => 9 | 3 => 3 | 75 => 34 | 76 => 102 | 4 => 4 | 5 => 5 | 167 => 189 | 37 => 190 | 0 => 0 | 85 => 191 | 2 => 2 | 168 => 193 | 53 => 146 | 175 => 147 | 46 => 211 | 210 => 214 | 127 => 233 | 145 => 236 | 143 => 234 | 21 => 21 | 171 => 262 | 173 => 264 | 212 => 272 | 51 => 248 | 20 => 20 | 213 => 273 | 232 => 276 | 233 => 277 | 80 => 278 | n => n, fun | 15 => 1 | 16 => 2 | 17 => 4 | 18 => 5 | 19 => 6 | n => n⟩
theorem Tryz.laysAtoi : Go.Proofs.LaysC.n172 Tryz.prog Tryz.laysAtoi_ren := {
  mixed := by kernel_rfl
  f129 := Tryz.func221.trans (congrArg some (by kernel_rfl))
  f171 := Tryz.func179.trans (congrArg some (by kernel_rfl))
  f172 := Tryz.func57.trans (congrArg some (by kernel_rfl))
  f205 := Tryz.func178.trans (congrArg some (by kernel_rfl))
  f243 := Tryz.func204.trans (congrArg some (by kernel_rfl))
  f244 := Tryz.func102.trans (congrArg some (by kernel_rfl))
  f245 := Tryz.func103.trans (congrArg some (by kernel_rfl))
  f246 := Tryz.func223.trans (congrArg some (by kernel_rfl))
  f247 := Tryz.func141.trans (congrArg some (by kernel_rfl))
  f279 := Tryz.func142.trans (congrArg some (by kernel_rfl))
  f280 := Tryz.func143.trans (congrArg some (by kernel_rfl))
  f281 := Tryz.func144.trans (congrArg some (by kernel_rfl))
  f282 := Tryz.func145.trans (congrArg some (by kernel_rfl))
  f283 := Tryz.func237.trans (congrArg some (by kernel_rfl))
  f284 := Tryz.func238.trans (congrArg some (by kernel_rfl))
  f285 := Tryz.func239.trans (congrArg some (by kernel_rfl))
  f286 := Tryz.func240.trans (congrArg some (by kernel_rfl))
  f287 := Tryz.func146.trans (congrArg some (by kernel_rfl))
  f316 := Tryz.func177.trans (congrArg some (by kernel_rfl))
  f317 := Tryz.func245.trans (congrArg some (by kernel_rfl))
  f318 := Tryz.func246.trans (congrArg some (by kernel_rfl))
  f319 := Tryz.func247.trans (congrArg some (by kernel_rfl))
  f320 := Tryz.func248.trans (congrArg some (by kernel_rfl))
  f321 := Tryz.func180.trans (congrArg some (by kernel_rfl))
  f322 := Tryz.func181.trans (congrArg some (by kernel_rfl))
  f337 := Tryz.func250.trans (congrArg some (by kernel_rfl))
  f338 := Tryz.func251.trans (congrArg some (by kernel_rfl))
  t0 := Tryz.underlying0
  a0 := Tryz.isAgg0
  z0 := Tryz.sizeOf0
  v0 := Tryz.zeroValue0
  t2 := Tryz.underlying2
  a2 := Tryz.isAgg2
  z2 := Tryz.sizeOf2
  v2 := Tryz.zeroValue2
  t3 := Tryz.underlying3
  a3 := Tryz.isAgg3
  z3 := Tryz.sizeOf3
  v3 := Tryz.zeroValue3
  t4 := Tryz.underlying4
  a4 := Tryz.isAgg4
  z4 := Tryz.sizeOf4
  v4 := Tryz.zeroValue4
  t5 := Tryz.underlying5
  a5 := Tryz.isAgg5
  z5 := Tryz.sizeOf5
  v5 := Tryz.zeroValue5
  t9 := Tryz.underlying9
  a9 := Tryz.isAgg9
  z9 := Tryz.sizeOf9
  v9 := Tryz.zeroValue9
  t20 := Tryz.underlying20
  a20 := Tryz.isAgg20
  z20 := Tryz.sizeOf20
  v20 := Tryz.zeroValue20
  t21 := Tryz.underlying21
  a21 := Tryz.isAgg21
  z21 := Tryz.sizeOf21
  v21 := Tryz.zeroValue21
  t37 := Tryz.underlying190
  a37 := Tryz.isAgg190
  z37 := Tryz.sizeOf190
  v37 := Tryz.zeroValue190
  t46 := Tryz.underlying211
  a46 := Tryz.isAgg211
  z46 := Tryz.sizeOf211
  v46 := Tryz.zeroValue211
  t51 := Tryz.underlying248
  a51 := Tryz.isAgg248
  z51 := Tryz.sizeOf248
  v51 := Tryz.zeroValue248
  t53 := Tryz.underlying146
  a53 := Tryz.isAgg146
  z53 := Tryz.sizeOf146
  v53 := Tryz.zeroValue146
  t75 := Tryz.underlying34
  a75 := Tryz.isAgg34
  z75 := Tryz.sizeOf34
  v75 := Tryz.zeroValue34
  t76 := Tryz.underlying102
  a76 := Tryz.isAgg102
  z76 := Tryz.sizeOf102
  v76 := Tryz.zeroValue102
  t85 := Tryz.underlying191
  a85 := Tryz.isAgg191
  z85 := Tryz.sizeOf191
  v85 := Tryz.zeroValue191
  t127 := Tryz.underlying233
  a127 := Tryz.isAgg233
  z127 := Tryz.sizeOf233
  v127 := Tryz.zeroValue233
  t143 := Tryz.underlying234
  a143 := Tryz.isAgg234
  z143 := Tryz.sizeOf234
  v143 := Tryz.zeroValue234
  t145 := Tryz.underlying236
  a145 := Tryz.isAgg236
  z145 := Tryz.sizeOf236
  v145 := Tryz.zeroValue236
  t167 := Tryz.underlying189
  a167 := Tryz.isAgg189
  z167 := Tryz.sizeOf189
  v167 := Tryz.zeroValue189
  t168 := Tryz.underlying193
  a168 := Tryz.isAgg193
  z168 := Tryz.sizeOf193
  v168 := Tryz.zeroValue193
  t171 := Tryz.underlying262
  a171 := Tryz.isAgg262
  z171 := Tryz.sizeOf262
  v171 := Tryz.zeroValue262
  t173 := Tryz.underlying264
  a173 := Tryz.isAgg264
  z173 := Tryz.sizeOf264
  v173 := Tryz.zeroValue264
  t175 := Tryz.underlying147
  a175 := Tryz.isAgg147
  z175 := Tryz.sizeOf147
  v175 := Tryz.zeroValue147
  t210 := Tryz.underlying214
  a210 := Tryz.isAgg214
  z210 := Tryz.sizeOf214
  v210 := Tryz.zeroValue214
  t212 := Tryz.underlying272
  a212 := Tryz.isAgg272
  z212 := Tryz.sizeOf272
  v212 := Tryz.zeroValue272
  t213 := Tryz.underlying273
  a213 := Tryz.isAgg273
  z213 := Tryz.sizeOf273
  t232 := Tryz.underlying276
  a232 := Tryz.isAgg276
  z232 := Tryz.sizeOf276
  v232 := Tryz.zeroValue276
  t233 := Tryz.underlying277
  a233 := Tryz.isAgg277
  z233 := Tryz.sizeOf277
  v233 := Tryz.zeroValue277
  g15 := by kernel_rfl
  g16 := by kernel_rfl
  g17 := by kernel_rfl
  g18 := by kernel_rfl
  g19 := by kernel_rfl
  t80 := Tryz.underlying278
  a80 := Tryz.isAgg278
  z80 := Tryz.sizeOf278
  v80 := Tryz.zeroValue278
  i0 := by kernel_rfl
  i2 := by kernel_rfl
  i3 := by kernel_rfl
  i4 := by kernel_rfl
  i5 := by kernel_rfl
  i9 := by kernel_rfl
  i20 := by kernel_rfl
  i21 := by kernel_rfl
  i37 := by kernel_rfl
  i46 := by kernel_rfl
  i51 := by kernel_rfl
  i53 := by kernel_rfl
  i75 := by kernel_rfl
  i76 := by kernel_rfl
  i80 := by kernel_rfl
  i85 := by kernel_rfl
  i127 := by kernel_rfl
  i143 := by kernel_rfl
  i145 := by kernel_rfl
  i167 := by kernel_rfl
  i168 := by kernel_rfl
  i171 := by kernel_rfl
  i173 := by kernel_rfl
  i175 := by kernel_rfl
  i210 := by kernel_rfl
  i212 := by kernel_rfl
  i232 := by kernel_rfl
  i233 := by kernel_rfl
  m15 := by kernel_rfl
  m16 := by kernel_rfl
  m17 := by kernel_rfl
  m18 := by kernel_rfl
  m19 := by kernel_rfl
  c0 := by kernel_rfl
  c2 := by kernel_rfl
  c3 := by kernel_rfl
  c4 := by kernel_rfl
  c5 := by kernel_rfl
  c9 := by kernel_rfl
  c20 := by kernel_rfl
  c21 := by kernel_rfl
  c37 := by kernel_rfl
  c46 := by kernel_rfl
  c51 := by kernel_rfl
  c53 := by kernel_rfl
  c75 := by kernel_rfl
  c76 := by kernel_rfl
  c80 := by kernel_rfl
  c85 := by kernel_rfl
  c127 := by kernel_rfl
  c143 := by kernel_rfl
  c145 := by kernel_rfl
  c167 := by kernel_rfl
  c168 := by kernel_rfl
  c171 := by kernel_rfl
  c173 := by kernel_rfl
  c175 := by kernel_rfl
  c210 := by kernel_rfl
  c212 := by kernel_rfl
  c213 := by kernel_rfl
  c232 := by kernel_rfl
  c233 := by kernel_rfl }
end Go.Proofs
open Go Go.Proofs Go.Proofs.Mv.V Go.RowKit
set_option maxRecDepth 10000
namespace Go.Proofs.Mv.App
theorem pu_ok : ∀ (s : List UInt8) (acc : Nat), s.all isDigit = true → decA acc s ≤ 4294967295 → Lib.parseUint10 acc s = .ok (decA acc s)
  | [], acc, _, _ => rfl
  | x :: s, acc, h, hle => by
    simp only [List.all_cons, Bool.and_eq_true] at h
    have hx : 48 ≤ x.toNat ∧ x.toNat ≤ 57 := by have := h.1; simpa [isDigit] using this
    rw [decA_cons] at hle ⊢
    have hm := decA_mono s (10 * acc + (x.toNat - 48))
    rw [Lib.parseUint10, if_pos hx, if_neg (by omega), if_neg (by omega), Nat.mul_comm acc 10]
    exact pu_ok s _ h.2 hle
theorem atoi_num {s : List UInt8} (h : numOk s = true) : Lib.atoiAll s = .ok (decF s : Int) := by
  have hp := (of_numOk h).1
  have hle := (of_numOk h).2.2.1
  simp only [numOk, Bool.and_eq_true, decide_eq_true_eq] at h
  obtain ⟨⟨⟨h1, h2⟩, h3⟩, h4⟩ := h
  match s, h1, h3 with
  | x :: r, h1, h3 =>
    have h3' := h3
    simp only [List.all_cons, Bool.and_eq_true] at h3
    have hx : 48 ≤ x.toNat ∧ x.toNat ≤ 57 := by have := h3.1; simpa [isDigit] using this
    have n1 : ¬ (x.toNat = 43 ∨ x.toNat = 45) := by omega
    have n2 : ¬ x.toNat = 45 := by omega
    have hm : Lib.parseMag (x :: r) = .ok (decF (x :: r)) := by
      rw [Lib.parseMag, if_neg (by simp)]
      exact pu_ok (x :: r) 0 h3' (by show decF _ ≤ _; omega)
    have hb : ¬ 9223372036854775808 ≤ decF (x :: r) := by omega
    simp only [Lib.atoiAll, if_neg n1]
    rw [hm]
    simp [n2, hb]
theorem cAtoiNum {s : List UInt8} (h : numOk s = true) (m : Mem) (n : Nat) : ACalls Tryz.prog 57 [S s] m n (fun d m' n' => ∃ e, d = .tup [I (decF s), e] ∧ m' = m ∧ n' = n) := by
  refine acalls_lib ⟨_, Tryz.func57, by kernel_rfl, by kernel_rfl⟩ fun w ν F vals hst hv => ?_
  obtain ⟨a, rfl, h1⟩ := conVs_arr1 hv
  simp only [Con, S] at h1
  subst h1
  have hsz : (ofL s).size = s.length := by show (s.toArray).size = _; simp
  have hl : s.length ≤ 9 := by simp only [numOk, Bool.and_eq_true, decide_eq_true_eq] at h; omega
  refine Calls.mono (show Calls Tryz.prog 57 _ _ _ from Any.strconv_Atoi_ok Tryz.laysAtoi (ofL s) (by omega) (decF s) (atoi_num h) w) ?_
  rintro e w' ⟨rfl, hw⟩
  refine ⟨_, rfl, ?_, .tup [I (decF s), nilE], ?_, _, rfl, rfl, rfl⟩
  · rcases hw with rfl | ⟨t, rfl⟩
    · exact Below.refl _ _
    · exact Lib.bytesWorld_below _ _ _
  · simp [Con, ConVs, nilE, I]
theorem cAtoi0 (m : Mem) (n : Nat) : ACalls Tryz.prog 57 [S []] m n (fun d m' n' => ∃ e, d = .tup [I 0, e] ∧ m' = m ∧ n' = n) := by
  refine acalls_lib ⟨_, Tryz.func57, by kernel_rfl, by kernel_rfl⟩ fun w ν F vals hst hv => ?_
  obtain ⟨a, rfl, h1⟩ := conVs_arr1 hv
  simp only [Con, S] at h1
  subst h1
  obtain ⟨te, pe, hc⟩ := hst.gi.c1
  refine Calls.mono (show Calls Tryz.prog 57 _ _ _ from Any.strconv_Atoi_syntax Tryz.laysAtoi (ofL []) (by decide) rfl _ w hc (.inr ⟨_, _, rfl⟩)) ?_
  rintro e w' ⟨N, rfl, _, _, hb⟩
  refine ⟨_, rfl, hb, .tup [I 0, .iface (Tryz.laysAtoi_ren.t 168) .any], ?_, _, rfl, rfl, rfl⟩
  simp only [Con, ConVs, I]
  exact ⟨_, rfl, _, _, rfl, rfl, _, _, rfl, ⟨_, rfl, trivial⟩, rfl⟩
end Go.Proofs.Mv.App
