/- A part of the proofs of the seat YtgekkmmmidgkbaaGreatDoor: the abstract machine, the contracts of the functions, the laws. No condition of its own. -/
import Derived.Test.YtgekkmmmidgkbaaGreatDoorP12
set_option linter.unusedSimpArgs false
set_option linter.unusedVariables false
set_option linter.unusedSectionVars false
open Go Go.Proofs Go.Proofs.Mv.V
set_option maxRecDepth 10000
namespace Go.Proofs.Mv.App
def hasF (f : Ifc) (l : Ln) : Option Ty := if l.kind = 1 then ofF f.vals l.name else ofF f.types l.name
def wC : List UInt8 := [99]
/-- Does what there is fit a line? -/
def fitF (l : Ln) (y t : Ty) : Bool :=
  !(decide (l.kind = 1) && !(plainM y && plainM t && belF 32 y t)) && !(decide (l.kind = 2) && !(mayT y && mayT t && sameT y t))
/-- What is amiss with a line: an error's number. -/
def typedF (imps : List Imp) (env : List Ifc) (l : Ln) : Int :=
  match imps.find? (fun i => decide (i.as_ = l.mod)) with
  | none => 4
  | some i => if (expF wC imps wC 1 env l.typ).2 = 4 then 4 else
    match hasF ((findF env i).getD Ifc0) l with
    | none => 9
    | some y => if (expF wC imps wC 1 env l.typ).2 = 0 then (if fitF l y (expF wC imps wC 1 env l.typ).1 then 0 else 12) else (expF wC imps wC 1 env l.typ).2
theorem expF_code (md : List UInt8) (imps : List Imp) (pkg : List UInt8) (major : Int) (env : List Ifc) (t : Ty) :
    (expF md imps pkg major env t).2 = 0 ∨ (expF md imps pkg major env t).2 = 1 ∨ (expF md imps pkg major env t).2 = 3 ∨ (expF md imps pkg major env t).2 = 4 ∨ (expF md imps pkg major env t).2 = 9 := by
  unfold expF; split
  · simp
  · split
    · simp
    · split
      · simp
      · split <;> simp
mutual
theorem exT_W {g : Ty → Int → ExS → Ty × ExS} (hg : ∀ l dp st, TyW (g l dp st).1) : ∀ (t : Ty) (dp : Int) (st : ExS), TyW t → TyW (exT g t dp st).1
  | .mk kind pkg major mod name names subs, dp, st, h => by
    rw [exT]
    split
    · exact hg _ _ _
    · split
      · exact TyW0
      · cases h with
        | mk _ _ _ _ _ _ _ l1 l2 l3 l4 l5 l6 l7 =>
          exact .mk _ _ _ _ _ _ _ l1 (by rw [exTs_len]; exact l2) l3 l4 l5 l6 (exTs_W hg subs _ _ l7)
theorem exTs_W {g : Ty → Int → ExS → Ty × ExS} (hg : ∀ l dp st, TyW (g l dp st).1) : ∀ (l : List Ty) (dp : Int) (st : ExS), (∀ t ∈ l, TyW t) → ∀ t ∈ (exTs g l dp st).1, TyW t
  | [], dp, st, _, t, ht => by simp [exTs] at ht
  | x :: l, dp, st, h, t, ht => by
    simp only [exTs, List.mem_cons] at ht
    rcases ht with rfl | ht
    · exact exT_W hg x dp st (h x (by simp))
    · exact exTs_W hg l dp _ (fun y hy => h y (by simp [hy])) t ht
end
theorem raw_W {imps : List Imp} {env : List Ifc} (hw : ∀ f ∈ env, IfcW f) (l : Ty) : TyW (thT imps env l) := by
  unfold thT rawF
  cases c2 : imps.find? (fun i => decide (i.as_ = l.mod)) with
  | none => exact TyW0
  | some i =>
    simp only [Option.bind_some]
    cases c : ofF ((findF env i).getD Ifc0).types l.name with
    | none => exact TyW0
    | some t => exact ofF_W (ifc_of hw i).1 c
theorem expF_W {md : List UInt8} {imps : List Imp} {pkg : List UInt8} {major : Int} {env : List Ifc} (hw : ∀ f ∈ env, IfcW f) {t : Ty} (ht : TyW t) : TyW (expF md imps pkg major env t).1 := by
  unfold expF; split
  · exact TyW0
  · split
    · exact TyW0
    · split
      · exact TyW0
      · split
        · exact TyW0
        · exact exT_W (fun l dp st => exT_W (fun _ _ _ => TyW0) _ _ _ (raw_W hw l)) _ _ _ ht
theorem ifc_of2 {env : List Ifc} (h : ∀ f ∈ env, IfcW f) (i : Imp) : (∀ x ∈ ((findF env i).getD Ifc0).vals, NmW x) ∧ ((findF env i).getD Ifc0).vals.length ≤ 9223372036854775807 := by
  unfold findF
  cases c : env.find? (forI i) with
  | none => simp [Ifc0]
  | some f => have := h f (List.mem_of_find?_eq_some c); exact ⟨this.h4, this.h2⟩
theorem has_W {env : List Ifc} (hw : ∀ f ∈ env, IfcW f) {i : Imp} {l : Ln} {y : Ty} (h : hasF ((findF env i).getD Ifc0) l = some y) : TyW y := by
  unfold hasF at h; split at h
  · exact ofF_W (ifc_of2 hw i).1 h
  · exact ofF_W (ifc_of hw i).1 h
set_option maxHeartbeats 1000000 in
theorem cHasU {f : Ifc} {l : Ln} (h1 : f.types.length ≤ 9223372036854775807) (h2 : f.vals.length ≤ 9223372036854775807) : Pc Tryz.prog 47 [.agg (ifD f), .agg (lnD l)] (ofD (hasF f l)) := by
  refine pc_of (pur_ofD _) (fun m n => ?_)
  have nn1 : n ≠ n + 1 := by omega
  have n1n : n + 1 ≠ n := by omega
  have nn2 : n ≠ n + 1 + 1 := by omega
  have n2n : n + 1 + 1 ≠ n := by omega
  have n12 : n + 1 ≠ n + 1 + 1 := by omega
  have n21 : n + 1 + 1 ≠ n + 1 := by omega
  obtain ⟨fp, fj, fm, ft, fv⟩ := f
  obtain ⟨kd, lm, nm, ty⟩ := l
  have c1 := cOfE h1 nm
  have c2 := cOfE h2 nm
  simp only [hasF, ifD, lnD] at c1 c2 ⊢
  generalize ft.map nnD = TL at c1
  generalize fv.map nnD = VL at c2
  have z1 := tyD_len ty
  generalize tyD ty = XX at z1
  have zt1 : List.take 7 XX = XX := List.take_of_length_le (by omega)
  refine acalls_vcC [0, 1, 2, 3, 4, 5, 8] Tryz.func47 Tryz.ntmps47 (by kernel_rfl) rfl rfl (by simp) ?_
  by_cases k1 : kd = 1
  · subst k1
    rw [if_pos rfl]
    simp only [ofD] at c2 ⊢
    have z2 := tyD_len ((ofF fv nm).getD Ty0)
    generalize tyD ((ofF fv nm).getD Ty0) = YY at c2 z2 ⊢
    have zt2 : List.take 7 YY = YY := List.take_of_length_le (by omega)
    simp -dsimp [I, S, Tt, set_ne, nn1, n1n, nn2, n2n, n12, n21, z1, zt1]
    refine pcall c2 ?_
    simp -dsimp [I, S, Tt, set_ne, nn1, n1n, nn2, n2n, n12, n21, z1, zt1, z2, zt2]
    exact pcq rfl (by intro j hj; repeat rw [set_ne _ _ _ _ (by omega)])
  · rw [if_neg k1]
    have k1' : (kd == 1) = false := by simpa using k1
    simp only [ofD] at c1 ⊢
    have z2 := tyD_len ((ofF ft nm).getD Ty0)
    generalize tyD ((ofF ft nm).getD Ty0) = YY at c1 z2 ⊢
    have zt2 : List.take 7 YY = YY := List.take_of_length_le (by omega)
    simp -dsimp [I, S, Tt, set_ne, nn1, n1n, nn2, n2n, n12, n21, z1, zt1, k1']
    refine pcall c1 ?_
    simp -dsimp [I, S, Tt, set_ne, nn1, n1n, nn2, n2n, n12, n21, z1, zt1, z2, zt2]
    exact pcq rfl (by intro j hj; repeat rw [set_ne _ _ _ _ (by omega)])
theorem cTypedU1 {i : Imp} {l : Ln} {k : Nat} {m : Mem} {n : Nat} (hk : k < n) (hm : m k = some ⟨10, [lnD l], 0⟩) : PcAt Tryz.prog 44 [.agg (impD i), .ptr k 0 0 0] (Tt (decide (i.as_ = l.mod))) m n := by
  refine pcat_of (pur_T _) ?_
  have kn : k ≠ n := by omega
  have nk : n ≠ k := by omega
  have fr : ∀ o j, j < n → (m.set n o) j = m j := fun o j hj => set_ne _ _ _ _ (by omega)
  obtain ⟨p2, j2, m2, a2⟩ := i
  obtain ⟨kd, lm, nm, ty⟩ := l
  simp only [impD, lnD] at hm ⊢
  generalize tyD ty = XX at hm
  refine acalls_vc [0, 1, 2, 3] Tryz.func44 Tryz.ntmps44 (by kernel_rfl) rfl rfl (by simp) ?_
  by_cases c1 : a2 = lm
  · subst c1
    simp -dsimp [I, S, Tt, hm, set_ne, kn, nk]
    exact pcq (by simp [Tt]) (fr _)
  · have d1 : (a2 == lm) = false := by simpa using c1
    simp -dsimp [I, S, Tt, hm, set_ne, kn, nk, d1]
    exact pcq (by simp [Tt, c1]) (fr _)
set_option maxHeartbeats 8000000 in
theorem cTypedU {x : Us} {env : List Ifc} {l : Ln} (hx : UsW x) (hi : x.imps.length ≤ 1000000) (he : env.length ≤ 1000000) (hw : ∀ f ∈ env, IfcW f) (hl : LnW l) :
    Pc Tryz.prog 20 [.agg (usD x), .sl 5 (env.map ifD), .agg (lnD l)] (ecD (typedF x.imps env l)) := by
  refine pc_of (pur_ecD _) (fun m n => ?_)
  have e01 : n ≠ n + 1 := by omega
  have e02 : n ≠ n + 1 + 1 := by omega
  have e03 : n ≠ n + 1 + 1 + 1 := by omega
  have e04 : n ≠ n + 1 + 1 + 1 + 1 := by omega
  have e05 : n ≠ n + 1 + 1 + 1 + 1 + 1 := by omega
  have e10 : n + 1 ≠ n := by omega
  have e12 : n + 1 ≠ n + 1 + 1 := by omega
  have e13 : n + 1 ≠ n + 1 + 1 + 1 := by omega
  have e14 : n + 1 ≠ n + 1 + 1 + 1 + 1 := by omega
  have e15 : n + 1 ≠ n + 1 + 1 + 1 + 1 + 1 := by omega
  have e20 : n + 1 + 1 ≠ n := by omega
  have e21 : n + 1 + 1 ≠ n + 1 := by omega
  have e23 : n + 1 + 1 ≠ n + 1 + 1 + 1 := by omega
  have e24 : n + 1 + 1 ≠ n + 1 + 1 + 1 + 1 := by omega
  have e25 : n + 1 + 1 ≠ n + 1 + 1 + 1 + 1 + 1 := by omega
  have e30 : n + 1 + 1 + 1 ≠ n := by omega
  have e31 : n + 1 + 1 + 1 ≠ n + 1 := by omega
  have e32 : n + 1 + 1 + 1 ≠ n + 1 + 1 := by omega
  have e34 : n + 1 + 1 + 1 ≠ n + 1 + 1 + 1 + 1 := by omega
  have e35 : n + 1 + 1 + 1 ≠ n + 1 + 1 + 1 + 1 + 1 := by omega
  have e40 : n + 1 + 1 + 1 + 1 ≠ n := by omega
  have e41 : n + 1 + 1 + 1 + 1 ≠ n + 1 := by omega
  have e42 : n + 1 + 1 + 1 + 1 ≠ n + 1 + 1 := by omega
  have e43 : n + 1 + 1 + 1 + 1 ≠ n + 1 + 1 + 1 := by omega
  have e45 : n + 1 + 1 + 1 + 1 ≠ n + 1 + 1 + 1 + 1 + 1 := by omega
  have e50 : n + 1 + 1 + 1 + 1 + 1 ≠ n := by omega
  have e51 : n + 1 + 1 + 1 + 1 + 1 ≠ n + 1 := by omega
  have e52 : n + 1 + 1 + 1 + 1 + 1 ≠ n + 1 + 1 := by omega
  have e53 : n + 1 + 1 + 1 + 1 + 1 ≠ n + 1 + 1 + 1 := by omega
  have e54 : n + 1 + 1 + 1 + 1 + 1 ≠ n + 1 + 1 + 1 + 1 := by omega
  have hiw := hx.h3
  obtain ⟨imps, lines⟩ := x
  simp only at hi hiw ⊢
  have hI := fun m (h : m (n + 1) = some ⟨10, [lnD l], 0⟩) => cIdxImA (l := imps) (q := fun i => decide (i.as_ = l.mod)) (fp := 44) (cs := [.ptr (n + 1) 0 0 0]) (m := m) (n := n + 1 + 1) (by simp) (fun i _ => cTypedU1 (by omega) h) (by omega)
  have hE := cExpand (md := wC) (imps := imps) (pkg := wC) (major := 1) (env := env) (by decide) hi hiw he hw (by decide) hl.h3
  have hF := fun i => cFindE (env := env) (by omega) i
  have hH := fun i => cHasU (f := (findF env i).getD Ifc0) (l := l) (ifc_of hw i).2 (ifc_of2 hw i).2
  have hcd := expF_code wC imps wC 1 env l.typ
  have hSb : ∀ i y, hasF ((findF env i).getD Ifc0) l = some y → Pc Tryz.prog 48 [.agg (tyD y), .agg (tyD (expF wC imps wC 1 env l.typ).1)] (Tt (plainM y && plainM (expF wC imps wC 1 env l.typ).1 && belF 32 y (expF wC imps wC 1 env l.typ).1)) := fun i y h => cSubTy (has_W hw h) (expF_W hw hl.h3)
  have hSk : ∀ i y, hasF ((findF env i).getD Ifc0) l = some y → Pc Tryz.prog 49 [.agg (tyD y), .agg (tyD (expF wC imps wC 1 env l.typ).1)] (Tt (mayT y && mayT (expF wC imps wC 1 env l.typ).1 && sameT y (expF wC imps wC 1 env l.typ).1)) := fun i y h => cSameK (has_W hw h) (expF_W hw hl.h3)
  have hL : (imps.map impD).length = imps.length := by simp
  have hG : ∀ i (h : i < imps.length), (imps.map impD)[i]? = some (impD imps[i]) := fun i h => by simp [h]
  have z1 := lnD_len l
  have hln := lnD.eq_1 l
  have hzt := tyD_len l.typ
  generalize hR : typedF imps env l = R
  unfold typedF at hR
  generalize expF wC imps wC 1 env l.typ = X at hE hcd hSb hSk hR
  obtain ⟨xt, xc⟩ := X
  simp only [exDX, mdX, usD] at hE hcd hSb hSk hR ⊢
  have z2 := tyD_len xt
  rw [hln] at hI hH z1 ⊢
  generalize tyD l.typ = LT at hE hI hH z1 hzt ⊢
  have zt1 : List.take 7 LT = LT := List.take_of_length_le (by omega)
  generalize imps.map impD = IL at hE hI hL hG ⊢
  generalize env.map ifD = EL at hE hF ⊢
  generalize lines.map lnD = LL
  simp only [wC] at hE
  refine acalls_vc [0, 1, 2, 3, 5, 6, 7, 8, 9, 10, 11, 13, 14, 36, 54, 58, 62] Tryz.func20 Tryz.ntmps20 (by kernel_rfl) rfl rfl (by simp) ?_
  simp -dsimp [I, S, Tt, set_ne, e01, e02, e03, e04, e05, e10, e12, e13, e14, e15, e20, e21, e23, e24, e25, e30, e31, e32, e34, e35, e40, e41, e42, e43, e45, e50, e51, e52, e53, e54, hzt, zt1]
  refine pcallAt (hI _ (by simp [I, S, set_ne, e10])) ?_
  simp -dsimp [I, S, Tt, set_ne, e01, e02, e03, e04, e05, e10, e12, e13, e14, e15, e20, e21, e23, e24, e25, e30, e31, e32, e34, e35, e40, e41, e42, e43, e45, e50, e51, e52, e53, e54, hzt, zt1]
  have zt2 : List.take 7 (tyD xt) = tyD xt := List.take_of_length_le (by omega)
  refine aCall_le (.cons (Le_agg (.cons (.refl _) (.cons (.refl _) (.cons (Le_nil 9) .nil)))) (.refl _)) ?_
  refine pcall hE ?_
  cases hfd : imps.find? (fun i => decide (i.as_ = l.mod)) with
  | none =>
    rw [hfd] at hR
    simp only at hR
    have hk : findI (fun i : Imp => decide (i.as_ = l.mod)) imps < 0 := by
      rcases Int.lt_or_le (findI (fun i : Imp => decide (i.as_ = l.mod)) imps) 0 with h | h
      · exact h
      · obtain ⟨a, ha, h1, h2⟩ := findI_some h
        rw [hfd] at h2; cases h2
    simp -dsimp [I, S, Tt, set_ne, e01, e02, e03, e04, e05, e10, e12, e13, e14, e15, e20, e21, e23, e24, e25, e30, e31, e32, e34, e35, e40, e41, e42, e43, e45, e50, e51, e52, e53, e54, hzt, zt1, z2, zt2, hL, code, nilE, hk]
    exact pcq (by subst hR; simp [ecD, code, nilE]) (by intro j hj; repeat rw [set_ne _ _ _ _ (by omega)])
  | some im =>
  rw [hfd] at hR
  simp only at hR
  obtain ⟨a, ha, ea, eb⟩ : ∃ (i : Nat) (h : i < imps.length), findI (fun i : Imp => decide (i.as_ = l.mod)) imps = i ∧ imps.find? (fun i => decide (i.as_ = l.mod)) = some imps[i] := by
    rcases Int.lt_or_le (findI (fun i : Imp => decide (i.as_ = l.mod)) imps) 0 with h | h
    · rw [findI_none h] at hfd; cases hfd
    · exact findI_some h
  have em : imps[a] = im := by rw [eb] at hfd; exact Option.some.inj hfd
  clear hfd eb
  have ca : ¬ ((a : Int) < 0) := by omega
  have ca2 : (a : Int) < imps.length := by omega
  have haI : a < IL.length := by omega
  have g1 : IL[a] = impD imps[a] := get_opt (hG a ha) haI
  rw [em] at g1
  have hF1 := hF im
  have hH1 := hH im
  have hSb1 := hSb im
  have hSk1 := hSk im
  clear hF hH hSb hSk
  simp only [ifoD] at hF1
  generalize (findF env im).isSome = bF at hF1
  generalize (findF env im).getD Ifc0 = f at hF1 hH1 hSb1 hSk1 hR
  have z3 := impD_len im
  generalize impD im = IM at g1 hF1 z3
  have zt3 : List.take 4 IM = IM := List.take_of_length_le (by omega)
  have z4 := ifD_len f
  generalize ifD f = FD at hF1 hH1 z4
  have zt4 : List.take 5 FD = FD := List.take_of_length_le (by omega)
  simp only [ofD] at hH1
  rcases hcd with rfl | rfl | rfl | rfl | rfl
  case inr.inr.inr.inl =>
    simp at hR
    simp -dsimp [I, S, Tt, set_ne, e01, e02, e03, e04, e05, e10, e12, e13, e14, e15, e20, e21, e23, e24, e25, e30, e31, e32, e34, e35, e40, e41, e42, e43, e45, e50, e51, e52, e53, e54, hzt, zt1, z2, zt2, hL, code, nilE, ea, ca, ecD]
    exact pcq (by subst hR; simp [ecD, code, nilE]) (by intro j hj; repeat rw [set_ne _ _ _ _ (by omega)])
  · simp -dsimp [I, S, Tt, set_ne, e01, e02, e03, e04, e05, e10, e12, e13, e14, e15, e20, e21, e23, e24, e25, e30, e31, e32, e34, e35, e40, e41, e42, e43, e45, e50, e51, e52, e53, e54, hzt, zt1, z2, zt2, hL, code, nilE, ea, ca, ca2, ha, haI, g1, z3, zt3, z4, zt4, ecD]
    refine pcall hF1 ?_
    simp -dsimp [I, S, Tt, set_ne, e01, e02, e03, e04, e05, e10, e12, e13, e14, e15, e20, e21, e23, e24, e25, e30, e31, e32, e34, e35, e40, e41, e42, e43, e45, e50, e51, e52, e53, e54, hzt, zt1, z2, zt2, hL, code, nilE, ea, ca, ca2, ha, haI, g1, z3, zt3, z4, zt4, ecD]
    refine pcall hH1 ?_
    cases eh : hasF f l with
    | none =>
      rw [eh] at hR
      simp at hR
      simp -dsimp [I, S, Tt, set_ne, e01, e02, e03, e04, e05, e10, e12, e13, e14, e15, e20, e21, e23, e24, e25, e30, e31, e32, e34, e35, e40, e41, e42, e43, e45, e50, e51, e52, e53, e54, hzt, zt1, z2, zt2, hL, code, nilE, ea, ca, ca2, ha, haI, g1, z3, zt3, z4, zt4, ecD, tyD_len, tyD_take]
      exact pcq (by subst hR; simp [ecD, code, nilE]) (by intro j hj; repeat rw [set_ne _ _ _ _ (by omega)])
    | some y =>
      rw [eh] at hR
      simp at hR
      have hSb2 := hSb1 y eh
      have hSk2 := hSk1 y eh
      simp -dsimp [I, S, Tt, set_ne, e01, e02, e03, e04, e05, e10, e12, e13, e14, e15, e20, e21, e23, e24, e25, e30, e31, e32, e34, e35, e40, e41, e42, e43, e45, e50, e51, e52, e53, e54, hzt, zt1, z2, zt2, hL, code, nilE, ea, ca, ca2, ha, haI, g1, z3, zt3, z4, zt4, ecD, tyD_len, tyD_take]
      by_cases k1 : l.kind = 1
      · have k1' : (l.kind == 1) = true := by simpa using k1
        simp -dsimp [I, S, Tt, set_ne, e01, e02, e03, e04, e05, e10, e12, e13, e14, e15, e20, e21, e23, e24, e25, e30, e31, e32, e34, e35, e40, e41, e42, e43, e45, e50, e51, e52, e53, e54, hzt, zt1, z2, zt2, hL, code, nilE, ea, ca, ca2, ha, haI, g1, z3, zt3, z4, zt4, ecD, tyD_len, tyD_take, k1]
        refine pcall hSb2 ?_
        cases es : plainM y && plainM xt && belF 32 y xt with
        | false =>
          have ef : fitF l y xt = false := by simp [fitF, k1, es]
          simp -dsimp [I, S, Tt, set_ne, e01, e02, e03, e04, e05, e10, e12, e13, e14, e15, e20, e21, e23, e24, e25, e30, e31, e32, e34, e35, e40, e41, e42, e43, e45, e50, e51, e52, e53, e54, hzt, zt1, z2, zt2, hL, code, nilE, ea, ca, ca2, ha, haI, g1, z3, zt3, z4, zt4, ecD, tyD_len, tyD_take, k1]
          exact pcq (by rw [ef] at hR; simp at hR; subst hR; simp [ecD, code, nilE]) (by intro j hj; repeat rw [set_ne _ _ _ _ (by omega)])
        | true =>
          have ef : fitF l y xt = true := by simp [fitF, k1, es]
          simp -dsimp [I, S, Tt, set_ne, e01, e02, e03, e04, e05, e10, e12, e13, e14, e15, e20, e21, e23, e24, e25, e30, e31, e32, e34, e35, e40, e41, e42, e43, e45, e50, e51, e52, e53, e54, hzt, zt1, z2, zt2, hL, code, nilE, ea, ca, ca2, ha, haI, g1, z3, zt3, z4, zt4, ecD, tyD_len, tyD_take, k1]
          exact pcq (by rw [ef] at hR; simp at hR; subst hR; simp [ecD, code, nilE]) (by intro j hj; repeat rw [set_ne _ _ _ _ (by omega)])
      · have k1' : (l.kind == 1) = false := by simpa using k1
        by_cases k2 : l.kind = 2
        · have k2' : (l.kind == 2) = true := by simpa using k2
          simp -dsimp [I, S, Tt, set_ne, e01, e02, e03, e04, e05, e10, e12, e13, e14, e15, e20, e21, e23, e24, e25, e30, e31, e32, e34, e35, e40, e41, e42, e43, e45, e50, e51, e52, e53, e54, hzt, zt1, z2, zt2, hL, code, nilE, ea, ca, ca2, ha, haI, g1, z3, zt3, z4, zt4, ecD, tyD_len, tyD_take, k1', k2']
          refine pcall hSk2 ?_
          cases es : mayT y && mayT xt && sameT y xt with
          | false =>
            have ef : fitF l y xt = false := by simp [fitF, k2, es]
            simp -dsimp [I, S, Tt, set_ne, e01, e02, e03, e04, e05, e10, e12, e13, e14, e15, e20, e21, e23, e24, e25, e30, e31, e32, e34, e35, e40, e41, e42, e43, e45, e50, e51, e52, e53, e54, hzt, zt1, z2, zt2, hL, code, nilE, ea, ca, ca2, ha, haI, g1, z3, zt3, z4, zt4, ecD, tyD_len, tyD_take, k1', k2']
            exact pcq (by rw [ef] at hR; simp at hR; subst hR; simp [ecD, code, nilE]) (by intro j hj; repeat rw [set_ne _ _ _ _ (by omega)])
          | true =>
            have ef : fitF l y xt = true := by simp [fitF, k2, es]
            simp -dsimp [I, S, Tt, set_ne, e01, e02, e03, e04, e05, e10, e12, e13, e14, e15, e20, e21, e23, e24, e25, e30, e31, e32, e34, e35, e40, e41, e42, e43, e45, e50, e51, e52, e53, e54, hzt, zt1, z2, zt2, hL, code, nilE, ea, ca, ca2, ha, haI, g1, z3, zt3, z4, zt4, ecD, tyD_len, tyD_take, k1', k2']
            exact pcq (by rw [ef] at hR; simp at hR; subst hR; simp [ecD, code, nilE]) (by intro j hj; repeat rw [set_ne _ _ _ _ (by omega)])
        · have k2' : (l.kind == 2) = false := by simpa using k2
          have ef : fitF l y xt = true := by simp [fitF, k1, k2]
          simp -dsimp [I, S, Tt, set_ne, e01, e02, e03, e04, e05, e10, e12, e13, e14, e15, e20, e21, e23, e24, e25, e30, e31, e32, e34, e35, e40, e41, e42, e43, e45, e50, e51, e52, e53, e54, hzt, zt1, z2, zt2, hL, code, nilE, ea, ca, ca2, ha, haI, g1, z3, zt3, z4, zt4, ecD, tyD_len, tyD_take, k1', k2']
          exact pcq (by rw [ef] at hR; simp at hR; subst hR; simp [ecD, code, nilE]) (by intro j hj; repeat rw [set_ne _ _ _ _ (by omega)])
  · simp -dsimp [I, S, Tt, set_ne, e01, e02, e03, e04, e05, e10, e12, e13, e14, e15, e20, e21, e23, e24, e25, e30, e31, e32, e34, e35, e40, e41, e42, e43, e45, e50, e51, e52, e53, e54, hzt, zt1, z2, zt2, hL, code, nilE, ea, ca, ca2, ha, haI, g1, z3, zt3, z4, zt4, ecD]
    refine pcall hF1 ?_
    simp -dsimp [I, S, Tt, set_ne, e01, e02, e03, e04, e05, e10, e12, e13, e14, e15, e20, e21, e23, e24, e25, e30, e31, e32, e34, e35, e40, e41, e42, e43, e45, e50, e51, e52, e53, e54, hzt, zt1, z2, zt2, hL, code, nilE, ea, ca, ca2, ha, haI, g1, z3, zt3, z4, zt4, ecD]
    refine pcall hH1 ?_
    cases eh : hasF f l with
    | none =>
      rw [eh] at hR
      simp at hR
      simp -dsimp [I, S, Tt, set_ne, e01, e02, e03, e04, e05, e10, e12, e13, e14, e15, e20, e21, e23, e24, e25, e30, e31, e32, e34, e35, e40, e41, e42, e43, e45, e50, e51, e52, e53, e54, hzt, zt1, z2, zt2, hL, code, nilE, ea, ca, ca2, ha, haI, g1, z3, zt3, z4, zt4, ecD, tyD_len, tyD_take]
      exact pcq (by subst hR; simp [ecD, code, nilE]) (by intro j hj; repeat rw [set_ne _ _ _ _ (by omega)])
    | some y =>
      rw [eh] at hR
      simp at hR
      simp -dsimp [I, S, Tt, set_ne, e01, e02, e03, e04, e05, e10, e12, e13, e14, e15, e20, e21, e23, e24, e25, e30, e31, e32, e34, e35, e40, e41, e42, e43, e45, e50, e51, e52, e53, e54, hzt, zt1, z2, zt2, hL, code, nilE, ea, ca, ca2, ha, haI, g1, z3, zt3, z4, zt4, ecD, tyD_len, tyD_take]
      exact pcq (by subst hR; simp [ecD, code, nilE]) (by intro j hj; repeat rw [set_ne _ _ _ _ (by omega)])
  · simp -dsimp [I, S, Tt, set_ne, e01, e02, e03, e04, e05, e10, e12, e13, e14, e15, e20, e21, e23, e24, e25, e30, e31, e32, e34, e35, e40, e41, e42, e43, e45, e50, e51, e52, e53, e54, hzt, zt1, z2, zt2, hL, code, nilE, ea, ca, ca2, ha, haI, g1, z3, zt3, z4, zt4, ecD]
    refine pcall hF1 ?_
    simp -dsimp [I, S, Tt, set_ne, e01, e02, e03, e04, e05, e10, e12, e13, e14, e15, e20, e21, e23, e24, e25, e30, e31, e32, e34, e35, e40, e41, e42, e43, e45, e50, e51, e52, e53, e54, hzt, zt1, z2, zt2, hL, code, nilE, ea, ca, ca2, ha, haI, g1, z3, zt3, z4, zt4, ecD]
    refine pcall hH1 ?_
    cases eh : hasF f l with
    | none =>
      rw [eh] at hR
      simp at hR
      simp -dsimp [I, S, Tt, set_ne, e01, e02, e03, e04, e05, e10, e12, e13, e14, e15, e20, e21, e23, e24, e25, e30, e31, e32, e34, e35, e40, e41, e42, e43, e45, e50, e51, e52, e53, e54, hzt, zt1, z2, zt2, hL, code, nilE, ea, ca, ca2, ha, haI, g1, z3, zt3, z4, zt4, ecD, tyD_len, tyD_take]
      exact pcq (by subst hR; simp [ecD, code, nilE]) (by intro j hj; repeat rw [set_ne _ _ _ _ (by omega)])
    | some y =>
      rw [eh] at hR
      simp at hR
      simp -dsimp [I, S, Tt, set_ne, e01, e02, e03, e04, e05, e10, e12, e13, e14, e15, e20, e21, e23, e24, e25, e30, e31, e32, e34, e35, e40, e41, e42, e43, e45, e50, e51, e52, e53, e54, hzt, zt1, z2, zt2, hL, code, nilE, ea, ca, ca2, ha, haI, g1, z3, zt3, z4, zt4, ecD, tyD_len, tyD_take]
      exact pcq (by subst hR; simp [ecD, code, nilE]) (by intro j hj; repeat rw [set_ne _ _ _ _ (by omega)])
  · simp -dsimp [I, S, Tt, set_ne, e01, e02, e03, e04, e05, e10, e12, e13, e14, e15, e20, e21, e23, e24, e25, e30, e31, e32, e34, e35, e40, e41, e42, e43, e45, e50, e51, e52, e53, e54, hzt, zt1, z2, zt2, hL, code, nilE, ea, ca, ca2, ha, haI, g1, z3, zt3, z4, zt4, ecD]
    refine pcall hF1 ?_
    simp -dsimp [I, S, Tt, set_ne, e01, e02, e03, e04, e05, e10, e12, e13, e14, e15, e20, e21, e23, e24, e25, e30, e31, e32, e34, e35, e40, e41, e42, e43, e45, e50, e51, e52, e53, e54, hzt, zt1, z2, zt2, hL, code, nilE, ea, ca, ca2, ha, haI, g1, z3, zt3, z4, zt4, ecD]
    refine pcall hH1 ?_
    cases eh : hasF f l with
    | none =>
      rw [eh] at hR
      simp at hR
      simp -dsimp [I, S, Tt, set_ne, e01, e02, e03, e04, e05, e10, e12, e13, e14, e15, e20, e21, e23, e24, e25, e30, e31, e32, e34, e35, e40, e41, e42, e43, e45, e50, e51, e52, e53, e54, hzt, zt1, z2, zt2, hL, code, nilE, ea, ca, ca2, ha, haI, g1, z3, zt3, z4, zt4, ecD, tyD_len, tyD_take]
      exact pcq (by subst hR; simp [ecD, code, nilE]) (by intro j hj; repeat rw [set_ne _ _ _ _ (by omega)])
    | some y =>
      rw [eh] at hR
      simp at hR
      simp -dsimp [I, S, Tt, set_ne, e01, e02, e03, e04, e05, e10, e12, e13, e14, e15, e20, e21, e23, e24, e25, e30, e31, e32, e34, e35, e40, e41, e42, e43, e45, e50, e51, e52, e53, e54, hzt, zt1, z2, zt2, hL, code, nilE, ea, ca, ca2, ha, haI, g1, z3, zt3, z4, zt4, ecD, tyD_len, tyD_take]
      exact pcq (by subst hR; simp [ecD, code, nilE]) (by intro j hj; repeat rw [set_ne _ _ _ _ (by omega)])
end Go.Proofs.Mv.App
open Go Go.Proofs Go.Proofs.Mv.V
set_option maxRecDepth 10000
namespace Go.Proofs.Mv.App
def codeAt (x : Us) (env : List Ifc) (i : Nat) : Int := match x.lines[i]? with
  | some l => typedF x.imps env l
  | none => 0
def badL (x : Us) (env : List Ifc) : Option Nat := (List.range x.lines.length).find? fun i => decide (codeAt x env i ≠ 0)
/-- What is amiss with a client: an error's number, and its place (below 0: itself). -/
def chkU (x : Us) (env : List Ifc) : Int × Int :=
  if mayU x && decide (env.length ≤ 100) then
    match dupI x.imps with
    | some i => (5, i)
    | none => match badL x env with
      | some i => (codeAt x env i, i)
      | none => (0, -1)
  else (1, -1)
def chkD (r : Int × Int) : D := if r.1 = 0 then nilE else if r.2 < 0 then code r.1 else spotE r.2 r.1
theorem badL_at {x : Us} {env : List Ifc} {i : Nat} (hi : i < x.lines.length) (h : codeAt x env i ≠ 0) (hno : ∀ j, j < i → codeAt x env j = 0) : badL x env = some i := by
  have := find_at (q := fun i => decide (codeAt x env i ≠ 0)) (l := List.range x.lines.length) (i := i) (by simpa using hi) (by simpa using h) (fun j hj hji => by simpa using hno j hji)
  simpa [badL] using this
theorem badL_no {x : Us} {env : List Ifc} (hno : ∀ j, j < x.lines.length → codeAt x env j = 0) : badL x env = none := find_no fun j hj => by simpa using hno j (by simpa using hj)
theorem cCheckU1 {i l : Imp} {k : Nat} {m : Mem} {n : Nat} (hk : k < n) (hm : m k = some ⟨4, [impD l], 0⟩) : PcAt Tryz.prog 19 [.agg (impD i), .ptr k 0 0 0] (Tt (decide (i.as_ = l.as_))) m n := by
  refine pcat_of (pur_T _) ?_
  have kn : k ≠ n := by omega
  have nk : n ≠ k := by omega
  have fr : ∀ o j, j < n → (m.set n o) j = m j := fun o j hj => set_ne _ _ _ _ (by omega)
  obtain ⟨p2, j2, m2, a2⟩ := i
  obtain ⟨p1, j1, m1, a1⟩ := l
  simp only [impD] at hm ⊢
  refine acalls_vc [0, 1, 2, 3] Tryz.func19 Tryz.ntmps19 (by kernel_rfl) rfl rfl (by simp) ?_
  by_cases c1 : a2 = a1
  · subst c1
    simp -dsimp [I, S, Tt, hm, set_ne, kn, nk]
    exact pcq (by simp [Tt]) (fr _)
  · have d1 : (a2 == a1) = false := by simpa using c1
    simp -dsimp [I, S, Tt, hm, set_ne, kn, nk, d1]
    exact pcq (by simp [Tt, c1]) (fr _)
set_option maxHeartbeats 4000000 in
theorem cCheckU {x : Us} {env : List Ifc} (hx : UsW x) (hi : x.imps.length ≤ 1000000) (hli : x.lines.length ≤ 1000000) (he : env.length ≤ 1000000) (hw : ∀ f ∈ env, IfcW f) : Pc Tryz.prog 10 [.agg (usD x), .sl 5 (env.map ifD)] (chkD (chkU x env)) := by
  refine pc_pub (fun m n => ?_)
  have h1 := cUMay hx
  have fr : ∀ o j, j < n → (m.set n o) j = m j := fun o j hj => set_ne _ _ _ _ (by omega)
  have hT : ∀ i (h : i < x.lines.length), Pc Tryz.prog 20 [.agg (usD x), .sl 5 (env.map ifD), .agg (lnD x.lines[i])] (ecD (codeAt x env i)) := fun i h => by
    have := cTypedU (l := x.lines[i]) hx hi he hw (hx.h4 _ (List.getElem_mem h))
    have e : codeAt x env i = typedF x.imps env x.lines[i] := by simp [codeAt, h]
    rw [e]; exact this
  generalize hR : chkU x env = R
  unfold chkU at hR
  have hBa := fun i h h2 h3 => badL_at (x := x) (env := env) (i := i) h h2 h3
  have hBn := badL_no (x := x) (env := env)
  generalize codeAt x env = CA at hT hBa hBn hR
  generalize badL x env = BL at hBa hBn hR
  generalize mayU x = MU at h1 hR
  obtain ⟨imps, lines⟩ := x
  simp only at hi hli hT hBa hBn hR
  have hL : (imps.map impD).length = imps.length := by simp
  have hG : ∀ i (h : i < imps.length), (imps.map impD)[i]? = some (impD imps[i]) := fun i h => by simp [h]
  have hL2 : (lines.map lnD).length = lines.length := by simp
  have hG2 : ∀ i (h : i < lines.length), (lines.map lnD)[i]? = some (lnD lines[i]) := fun i h => by simp [h]
  have hEL : (env.map ifD).length = env.length := by simp
  have hc : ∀ i (h : i < imps.length) m n, m n = some ⟨4, [impD imps[i]], 0⟩ → PcAt Tryz.prog 18 [.sl 4 ((imps.map impD).take i), .func (.func 19) [] [.ptr n 0 0 0]] (Tt (dupAt imps i)) m (n + 1) := fun i h m n hm => by
    have := cHasImA (l := imps.take i) (q := fun y => decide (y.as_ = imps[i].as_)) (fp := 19) (cs := [.ptr n 0 0 0]) (m := m) (n := n + 1) (by simp) (fun x _ => cCheckU1 (by omega) hm) (by simp; omega)
    rw [List.map_take] at this
    have e : dupAt imps i = (imps.take i).any fun y => decide (y.as_ = imps[i].as_) := by unfold dupAt; simp [h]
    rw [e]; exact this
  simp only [usD] at h1 hT ⊢
  generalize imps.map impD = IL at h1 hT hL hG hc ⊢
  generalize lines.map lnD = LL at h1 hT hL2 hG2 ⊢
  generalize env.map ifD = EL at hT hEL ⊢
  refine acalls_vc [0, 1, 2, 4, 5, 6, 7, 8, 9, 17, 20, 21, 22, 23, 32, 40, 41, 42, 43, 52] Tryz.func10 Tryz.ntmps10 (by kernel_rfl) rfl rfl (by simp) ?_
  cases MU with
  | false =>
    simp at hR
    simp -dsimp [I, S, Tt]
    refine pcall h1 ?_
    simp -dsimp [I, S, Tt]
    exact pcp (by subst hR; exact (pur_code 1).pub) (fr _)
  | true =>
  by_cases ce : (100 : Int) < env.length
  · have ce' : ¬ env.length ≤ 100 := by omega
    simp [ce'] at hR
    simp -dsimp [I, S, Tt]
    refine pcall h1 ?_
    simp -dsimp [I, S, Tt, hEL, ce]
    exact pcp (by subst hR; exact (pur_code 1).pub) (fr _)
  have ce' : env.length ≤ 100 := by omega
  simp [ce'] at hR
  simp -dsimp [I, S, Tt]
  refine pcall h1 ?_
  simp -dsimp [I, S, Tt, hL, hEL, ce]
  refine vloop_as (β := Nat) (fun i => [(1, .sl 5 EL), (2, .ptr n 0 0 0), (20, .sl 4 IL), (21, I imps.length), (22, I i)]) (fun i mm nn => mm n = some ⟨2, [[.sl 4 IL, .sl 10 LL]], 0⟩ ∧ (∀ j, j < n → mm j = m j) ∧ n + 1 ≤ nn ∧ i ≤ imps.length ∧ ∀ q, q < i → dupAt imps q = false) (fun i => imps.length - i) 0 (by simp [I]) ⟨by simp, fun j hj => fr _ _ hj, by omega, by omega, fun q h => by omega⟩ ?_
  rintro i mm nn ⟨e0, frm, hn, le, hno⟩
  by_cases c : (i : Int) < imps.length
  · have c' : i < imps.length := by omega
    have wi : IntKind.i64.wrap ((i : Int) + 1) = (i : Int) + 1 := wrap_i64 (by omega) (by omega)
    have hiI : i < IL.length := by omega
    have g1 : IL[i] = impD imps[i] := get_opt (hG i c') hiI
    have a1 : nn ≠ n := by omega
    have a2 : n ≠ nn := by omega
    have hci := hc i c'
    have hd := dupI_at (imps := imps) c'
    have z1 := impD_len imps[i]
    generalize impD imps[i] = XX at g1 hci z1
    have t1 : List.take 4 XX = XX := List.take_of_length_le (by omega)
    have le2 : (i : Int) ≤ imps.length := by omega
    simp -dsimp [I, S, Tt, set_ne, a1, a2, e0, c, c', hiI, g1, hL, z1, t1, le, le2]
    refine pcallAt (hci _ _ (by simp)) ?_
    cases cd : dupAt imps i with
    | true =>
      rw [hd cd hno] at hR
      simp only at hR
      have ni : ¬ ((i : Int) < 0) := by omega
      have hR2 : chkD R = spotE i 5 := by subst hR; simp [chkD, ni]
      rw [hR2]
      simp -dsimp [I, S, Tt]
      exact pcp (.iface (.ptr (z := 2) (cs := [I i, code 5]) (by simp [I, code]) (by omega) (.cons (pur_I _).pub (.cons (pur_code _).pub .nil)))) (fun j hj => by rw [set_ne _ _ _ _ (by omega), set_ne _ _ _ _ (by omega)]; exact frm j hj)
    | false =>
      simp -dsimp [I, S, Tt, wi]
      exact rnd (i + 1) (by omega) (by simp [I]) ⟨by rw [set_ne _ _ _ _ a2, e0], fun j hj => by rw [set_ne _ _ _ _ (by omega)]; exact frm j hj, by omega, by omega, fun q hq0 => by
        rcases Nat.lt_or_eq_of_le (show q ≤ i by omega) with c | c
        · exact hno q c
        · subst c; exact cd⟩
  · rw [dupI_no fun j hj => hno j (by omega)] at hR
    simp only at hR
    clear hc hno
    simp -dsimp [I, S, Tt, c, e0, hL2]
    refine vloop_as (β := Nat) (fun i => [(1, .sl 5 EL), (2, .ptr n 0 0 0), (40, .sl 10 LL), (41, I lines.length), (42, I i)]) (fun i m2 n2 => m2 n = some ⟨2, [[.sl 4 IL, .sl 10 LL]], 0⟩ ∧ (∀ j, j < n → m2 j = m j) ∧ n + 1 ≤ n2 ∧ i ≤ lines.length ∧ ∀ q, q < i → CA q = 0) (fun i => lines.length - i) 0 (by simp [I]) ⟨e0, frm, hn, by omega, fun q h => by omega⟩ ?_
    rintro i m2 n2 ⟨e02, frm2, hn2, le2, hno2⟩
    by_cases c2 : (i : Int) < lines.length
    · have c2' : i < lines.length := by omega
      have wi : IntKind.i64.wrap ((i : Int) + 1) = (i : Int) + 1 := wrap_i64 (by omega) (by omega)
      have hiI : i < LL.length := by omega
      have g1 : LL[i] = lnD lines[i] := get_opt (hG2 i c2') hiI
      have a1 : n2 ≠ n := by omega
      have a2 : n ≠ n2 := by omega
      have hTi := hT i c2'
      have hba := hBa i c2'
      have z1 := lnD_len lines[i]
      generalize lnD lines[i] = XX at g1 hTi z1
      have t1 : List.take 10 XX = XX := List.take_of_length_le (by omega)
      simp -dsimp [I, S, Tt, set_ne, a1, a2, e02, c2, c2', hiI, g1, hL2, z1, t1]
      refine pcall hTi ?_
      by_cases cz : CA i = 0
      · have ez : ecD (CA i) = nilE := by rw [ecD, if_pos cz]
        rw [ez]
        simp -dsimp [I, S, Tt, wi, nilE]
        exact rnd (i + 1) (by omega) (by simp [I]) ⟨by rw [set_ne _ _ _ _ a2, e02], fun j hj => by rw [set_ne _ _ _ _ (by omega)]; exact frm2 j hj, by omega, by omega, fun q hq0 => by
          rcases Nat.lt_or_eq_of_le (show q ≤ i by omega) with c | c
          · exact hno2 q c
          · subst c; exact cz⟩
      · have ez : ecD (CA i) = code (CA i) := by rw [ecD, if_neg cz]
        rw [ez]
        rw [hba cz hno2] at hR
        simp only at hR
        have ni : ¬ ((i : Int) < 0) := by omega
        have hR2 : chkD R = spotE i (CA i) := by subst hR; simp [chkD, ni, cz]
        rw [hR2]
        simp -dsimp [I, S, Tt, code]
        exact pcp (.iface (.ptr (z := 2) (cs := [I i, code (CA i)]) (by simp [I, code]) (by omega) (.cons (pur_I _).pub (.cons (pur_code _).pub .nil)))) (fun j hj => by rw [set_ne _ _ _ _ (by omega), set_ne _ _ _ _ (by omega)]; exact frm2 j hj)
    · rw [hBn fun j hj => hno2 j (by omega)] at hR
      simp only at hR
      have hR2 : chkD R = nilE := by subst hR; simp [chkD]
      rw [hR2]
      simp -dsimp [I, S, Tt, c2]
      exact pcp pur_nilE.pub frm2
end Go.Proofs.Mv.App
open Go Go.Proofs Go.Proofs.Mv.V
namespace Go.Proofs.Mv.App
/-! What is too large stays so; what comes takes some. -/
def GLg (q : Ty → Bool) (g : Ty → Int → ExS → Ty × ExS) : Prop := ∀ l dp st, q l = true → st.2 = true → (g l dp st).2.2 = true
mutual
theorem exT_large {q : Ty → Bool} {g : Ty → Int → ExS → Ty × ExS} (hg : GLg q g) : ∀ (t : Ty) (dp : Int) (st : ExS), eachT q t = true → st.2 = true → (exT g t dp st).2.2 = true
  | .mk kind pkg major mod name names subs, dp, st, e, h => by
    rw [eachT, Bool.and_eq_true] at e
    rw [exT]
    by_cases k8 : kind = 8
    · rw [if_pos k8]; exact hg _ dp st (by have := e.1; simpa [k8] using this) h
    · rw [if_neg k8, if_pos (.inl h)]
theorem exTs_large {q : Ty → Bool} {g : Ty → Int → ExS → Ty × ExS} (hg : GLg q g) : ∀ (l : List Ty) (dp : Int) (st : ExS), eachTs q l = true → st.2 = true → (exTs g l dp st).2.2 = true
  | [], dp, st, _, h => by rw [exTs]; exact h
  | t :: ts, dp, st, e, h => by
    rw [eachTs, Bool.and_eq_true] at e
    rw [exTs]; exact exTs_large hg ts dp _ e.2 (exT_large hg t dp st e.1 h)
end
/-- What comes of what is not too large. -/
structure ExOk (r : Ty × ExS) (dp left : Int) : Prop where
  h1 : allT r.1 = true
  h2 : plainT r.1 = true
  h3 : (manyT r.1 : Int) = left - r.2.1
  h4 : (deepT r.1 : Int) ≤ 33 - dp
  h5 : 0 ≤ r.2.1
def GOkP (q : Ty → Bool) (g : Ty → Int → ExS → Ty × ExS) : Prop := ∀ l dp left, q l = true → (g l dp (left, false)).2.2 = false → ExOk (g l dp (left, false)) dp left
theorem shapeT_len {kind : Int} {pkg : List UInt8} {major : Int} {mod name : List UInt8} {names : List (List UInt8)} {subs subs' : List Ty} (h : subs'.length = subs.length) :
    shapeT (.mk kind pkg major mod name names subs') = shapeT (.mk kind pkg major mod name names subs) := by
  simp only [shapeT, shapeK, emptyT, Ty.subs, Ty.names, Ty.kind, Ty.pkg, Ty.major, Ty.mod, Ty.name, h]
mutual
theorem exT_ok {q : Ty → Bool} {g : Ty → Int → ExS → Ty × ExS} (hg : GLg q g) (hp : GOkP q g) : ∀ (t : Ty) (dp left : Int), eachT q t = true → allT t = true → (exT g t dp (left, false)).2.2 = false → ExOk (exT g t dp (left, false)) dp left
  | .mk kind pkg major mod name names subs, dp, left, e, ha, h => by
    rw [eachT, Bool.and_eq_true] at e
    rw [exT] at h ⊢
    by_cases k8 : kind = 8
    · rw [if_pos k8] at h ⊢; exact hp _ dp left (by have := e.1; simpa [k8] using this) h
    · rw [if_neg k8] at h ⊢
      split at h
      · cases h
      · rename_i hn
        rw [if_neg hn]
        rw [allT_eq, Bool.and_eq_true] at ha
        have r := exTs_ok hg hp subs (dp + 1) (left - 1) e.2 (by simpa [allTs_eq, Ty.subs] using ha.2) h
        have hl := exTs_len g (dp + 1) subs (left - 1, false)
        simp only [not_or] at hn
        obtain ⟨r1, r2, r3, r4, r5⟩ := r
        have r5' := r5 (by omega)
        have hs := (shapeT_len (kind := kind) (pkg := pkg) (major := major) (mod := mod) (name := name) (names := names) hl).trans ha.1
        generalize exTs g subs (dp + 1) (left - 1, false) = A at r1 r2 r3 r4 r5' hs ⊢
        refine ⟨?_, ?_, ?_, ?_, ?_⟩
        · rw [allT]; simp only [hs, r1, Bool.and_self]
        · rw [plainT]; simp [k8, r2]
        · simp only [manyT]; omega
        · simp only [deepT]; omega
        · exact r5'
theorem exTs_ok {q : Ty → Bool} {g : Ty → Int → ExS → Ty × ExS} (hg : GLg q g) (hp : GOkP q g) : ∀ (l : List Ty) (dp left : Int), eachTs q l = true → allTs l = true → (exTs g l dp (left, false)).2.2 = false →
    allTs (exTs g l dp (left, false)).1 = true ∧ plainTs (exTs g l dp (left, false)).1 = true ∧ (manyTs (exTs g l dp (left, false)).1 : Int) = left - (exTs g l dp (left, false)).2.1 ∧ (deepTs (exTs g l dp (left, false)).1 : Int) ≤ max 0 (33 - dp) ∧ (0 ≤ left → 0 ≤ (exTs g l dp (left, false)).2.1)
  | [], dp, left, e, ha, h => by simp [exTs, allTs, plainTs, manyTs, deepTs]; omega
  | t :: ts, dp, left, e, ha, h => by
    rw [eachTs, Bool.and_eq_true] at e
    rw [allTs, Bool.and_eq_true] at ha
    rw [exTs] at h ⊢
    simp only at h ⊢
    have hf : (exT g t dp (left, false)).2.2 = false := by
      cases c : (exT g t dp (left, false)).2.2 with
      | false => rfl
      | true => rw [exTs_large hg ts dp _ e.2 c] at h; cases h
    have r := exT_ok hg hp t dp left e.1 ha.1 hf
    have hst : (exT g t dp (left, false)).2 = ((exT g t dp (left, false)).2.1, false) := Prod.ext rfl hf
    rw [hst] at h ⊢
    have rs := exTs_ok hg hp ts dp _ e.2 ha.2 h
    obtain ⟨s1, s2, s3, s4, s5⟩ := r
    obtain ⟨r1, r2, r3, r4, r5⟩ := rs
    generalize exTs g ts dp ((exT g t dp (left, false)).2.1, false) = A at r1 r2 r3 r4 r5 ⊢
    refine ⟨?_, ?_, ?_, ?_, fun _ => r5 s5⟩
    · rw [allTs, s1, r1]; rfl
    · rw [plainTs, s2, r2]; rfl
    · simp only [manyTs]; omega
    · simp only [deepTs]; omega
end
theorem glL {imps : List Imp} {env : List Ifc} (hw : ∀ f ∈ env, IfcW f) : GLg (fineL imps env) (gL imps env) := fun l dp st hq h =>
  exT_large (q := fun _ => false) (fun l dp st hq => by cases hq) _ dp st (by rw [each_plain]; exact (fine_th hw hq).2.1) h
theorem gokpL {imps : List Imp} {env : List Ifc} (hw : ∀ f ∈ env, IfcW f) : GOkP (fineL imps env) (gL imps env) := fun l dp left hq h => by
  obtain ⟨t1, t2, _⟩ := fine_th hw hq
  exact exT_ok (q := fun _ => false) (fun l dp st hq => by cases hq) (fun l dp st hq => by cases hq) _ dp left (by rw [each_plain]; exact t2) (by simp only [mayT, Bool.and_eq_true] at t1; exact t1.1.1) h
/-- What a type comes to is plain. -/
theorem exp_ok {md : List UInt8} {imps : List Imp} {pkg : List UInt8} {major : Int} {env : List Ifc} (hw : ∀ f ∈ env, IfcW f) {t : Ty} (h : (expF md imps pkg major env t).2 = 0) : plainM (expF md imps pkg major env t).1 = true := by
  unfold expF at h ⊢
  cases c1 : badX md imps pkg major env t with
  | true => rw [c1] at h; simp at h
  | false =>
  rw [c1] at h
  simp only [Bool.false_eq_true, if_false] at h ⊢
  cases c2 : eachT (knownT imps) t with
  | false => rw [c2] at h; simp at h
  | true =>
  rw [c2] at h
  simp only [Bool.true_eq_false, if_false] at h ⊢
  cases c3 : eachT (hadT imps env) t with
  | false => rw [c3] at h; simp at h
  | true =>
  rw [c3] at h
  simp only [Bool.true_eq_false, if_false] at h ⊢
  have c5 : eachT (fineL imps env) t = true := by
    have := each_and (knownT imps) (hadT imps env) t
    rw [c2, c3] at this
    exact this
  have hm : mayT t = true := by
    simp only [badX, Bool.or_eq_false_iff] at c1
    have := c1.1.1.1.1.2
    simpa using this
  cases c6 : (exT (gL imps env) t 1 (500, false)).2.2 with
  | true => rw [c6] at h; simp at h
  | false =>
  simp only [Bool.false_eq_true, if_false]
  obtain ⟨r1, r2, r3, r4, r5⟩ := exT_ok (glL hw) (gokpL hw) t 1 500 c5 (by simp only [mayT, Bool.and_eq_true] at hm; exact hm.1.1) c6
  simp only [plainM, mayT, Bool.and_eq_true, decide_eq_true_eq]
  exact ⟨⟨⟨r1, by omega⟩, by omega⟩, r2⟩
/-! What is amiss with a line, as the document tells it. -/
def hasR (f : Ifc) (l : Ln) : Option Ty := if l.kind = 2 then ofF f.types l.name else ofF f.vals l.name
def typedR (imps : List Imp) (env : List Ifc) (l : Ln) : Int :=
  match imps.find? (fun i => decide (i.as_ = l.mod)) with
  | none => 4
  | some i => if (expF wC imps wC 1 env l.typ).2 = 4 then 4 else
    match findF env i with
    | none => 9
    | some f => match hasR f l with
      | none => 9
      | some y => if (expF wC imps wC 1 env l.typ).2 = 0 then
          (if plainM y then (if l.kind = 1 then (if belF 32 y (expF wC imps wC 1 env l.typ).1 then 0 else 12) else (if sameT y (expF wC imps wC 1 env l.typ).1 then 0 else 12)) else 12)
        else (expF wC imps wC 1 env l.typ).2
theorem typedR_eq {imps : List Imp} {env : List Ifc} (hw : ∀ f ∈ env, IfcW f) {l : Ln} (hk : l.kind = 1 ∨ l.kind = 2) : typedR imps env l = typedF imps env l := by
  unfold typedR typedF
  cases c : imps.find? (fun i => decide (i.as_ = l.mod)) with
  | none => rfl
  | some i =>
    simp only
    by_cases c4 : (expF wC imps wC 1 env l.typ).2 = 4
    · rw [if_pos c4, if_pos c4]
    rw [if_neg c4, if_neg c4]
    cases cf : findF env i with
    | none => simp [Ifc0, hasF, ofF]
    | some f =>
      simp only [Option.getD_some]
      have hh : hasR f l = hasF f l := by
        unfold hasR hasF
        rcases hk with h | h <;> simp [h]
      rw [hh]
      cases ch : hasF f l with
      | none => rfl
      | some y =>
        simp only
        by_cases c0 : (expF wC imps wC 1 env l.typ).2 = 0
        · rw [if_pos c0, if_pos c0]
          have hp := exp_ok hw c0
          generalize (expF wC imps wC 1 env l.typ).1 = t at hp ⊢
          rcases hk with k | k
          · simp only [fitF, k, hp, if_true]
            cases plainM y <;> cases belF 32 y t <;> rfl
          · have k1 : ¬ l.kind = 1 := by omega
            simp only [fitF, k, if_neg k1]
            cases cs : sameT y t with
            | false => cases plainM y <;> simp
            | true =>
              have e := (sameT_iff _ _).1 cs
              subst e
              rw [hp]
              simp only [plainM, Bool.and_eq_true] at hp
              simp [hp.1]
        · rw [if_neg c0, if_neg c0]
/-- All Locals of a type. -/
def locs : Ty → List Ty
  | .mk kind pkg major mod name names subs => (if kind = 8 then [.mk kind pkg major mod name names subs] else []) ++ locss subs
where locss : List Ty → List Ty
  | [] => []
  | t :: ts => locs t ++ locss ts
mutual
theorem locs_all (q : Ty → Bool) : ∀ t : Ty, (locs t).all q = eachT q t
  | .mk kind pkg major mod name names subs => by
    rw [locs, eachT, List.all_append, locss_all q subs]
    by_cases k8 : kind = 8
    · simp [k8]
    · simp [k8]
theorem locss_all (q : Ty → Bool) : ∀ l : List Ty, (locs.locss l).all q = eachTs q l
  | [] => rfl
  | t :: ts => by rw [locs.locss, eachTs, List.all_append, locs_all q t, locss_all q ts]
end
end Go.Proofs.Mv.App
