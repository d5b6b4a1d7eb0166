/- A part of the proofs of the seat YtbgkkoloflcnbaaGreatDoor: the abstract machine, the contracts of the functions, the laws. No condition of its own. -/
import Derived.Test.YtbgkkoloflcnbaaGreatDoorTyG
set_option linter.unusedSimpArgs false
set_option linter.unusedVariables false
set_option linter.unusedSectionVars false
open Go Go.Proofs Go.Proofs.Mv.V
set_option maxRecDepth 10000
namespace Go.Proofs.Mv.App
structure PrI (name : List UInt8) (il : Nat) (T : Nat → List (List UInt8)) (IL DL : List (List D)) (m : Mem) (n : Nat) (i : Nat) (σ : Nat → D) (m2 : Mem) (n2 : Nat) : Prop where
  h1 : σ 1 = .ptr n 0 0 0
  h20 : σ 20 = .sl 4 IL
  h21 : σ 21 = I il
  h22 : σ 22 = I i
  le : i ≤ il
  nn : n + 1 ≤ n2
  fr : ∀ j, j < n → m2 j = m j
  mo : m2 n = some ⟨3, [[S name, .sl 4 IL, .sl 9 DL]], 0⟩
  ls : Lst m2 1 ((T i).map fun s => [S s]) (σ 4)
  kf : ∀ k, kof (σ 4) = some k → n + 1 ≤ k ∧ k < n2
structure PrD (name : List UInt8) (il : Nat) (T : Nat → List (List UInt8)) (IL DL : List (List D)) (m : Mem) (n : Nat) (i : Nat) (σ : Nat → D) (m2 : Mem) (n2 : Nat) : Prop where
  h1 : σ 1 = .ptr n 0 0 0
  h47 : σ 47 = .sl 9 DL
  h48 : σ 48 = I il
  h49 : σ 49 = I i
  le : i ≤ il
  nn : n + 1 ≤ n2
  fr : ∀ j, j < n → m2 j = m j
  mo : m2 n = some ⟨3, [[S name, .sl 4 IL, .sl 9 DL]], 0⟩
  ls : Lst m2 1 ((T i).map fun s => [S s]) (σ 4)
  kf : ∀ k, kof (σ 4) = some k → n + 1 ≤ k ∧ k < n2
set_option maxHeartbeats 4000000 in
theorem cPrintM {x : Md} (hx : MdW x) (m : Mem) (n : Nat) : ACalls Tryz.prog 32 [.agg (mdD x)] m n (fun d m' n' => d = .tup [S (if mayM x then textM x else []), argE (mayM x)] ∧ m' = m ∧ n' = n) := by
  refine acalls_done (R' := Hq (fun d m' n' => d = .tup [S (if mayM x then textM x else []), argE (mayM x)] ∧ ∀ j, j < n → m' j = m j) tg) ?_ ?_
  · have fr : ∀ o j, j < n → (m.set n o) j = m j := fun o j hj => by rw [set_ne _ _ _ _ (by omega)]
    have hmd : mdD x = [S x.name, .sl 4 (x.imps.map impD), .sl 9 (x.decls.map dclD)] := rfl
    have hL1 : (x.imps.map impD).length = x.imps.length := by simp
    have hG1 : ∀ i (h : i < x.imps.length), (x.imps.map impD)[i]? = some (impD x.imps[i]) := fun i h => by simp [h]
    have hL2 : (x.decls.map dclD).length = x.decls.length := by simp
    have hG2 : ∀ i (h : i < x.decls.length), (x.decls.map dclD)[i]? = some (dclD x.decls[i]) := fun i h => by simp [h]
    have hmay := fun m n => cMayM hx m n
    rw [hmd] at hmay ⊢
    generalize x.imps.map impD = IL at hL1 hG1 hmay
    generalize x.decls.map dclD = DL at hL2 hG2 hmay
    refine acalls_vc [0, 1, 2, 3, 4, 6, 8, 9, 10, 13, 20, 21, 22, 23, 47, 48, 49, 50, 59] Tryz.func32 Tryz.ntmps32 (by kernel_rfl) rfl rfl (by simp) ?_
    simp -dsimp [I]
    refine aCall_of (hmay _ _) ?_
    rintro d m' n' ⟨rfl, rfl, rfl⟩
    cases hm : mayM x with
    | false =>
      simp -dsimp [I, Tt]
      exact hq ⟨by simp [S, argE], fr _⟩
    | true =>
    obtain ⟨r1, r2, r3, r4, r5⟩ := mayM_parts hm
    have wl := impsL_len hm
    have wd := dclsL_len hm
    simp -dsimp [I, Tt, S, -vc_block]
    refine ⟨by omega, ?_⟩
    rw [vc_block]
    simp -dsimp [I, S, hL1, -vc_block]
    have n1n : n + 1 ≠ n := by omega
    have nn1 : n ≠ n + 1 := by omega
    refine vloop_of (β := Nat) (PrI x.name x.imps.length (impsL x) IL DL m n) (fun i => x.imps.length - i) 0 ⟨by simp, by simp, by simp [I, hL1], by simp [I], by omega, by omega, fun j hj => ?_, by simp [set_ne, nn1, S], ?_, by simp [kof]⟩ ?_
    · have j1 : j ≠ n := by omega
      have j2 : j ≠ n + 1 := by omega
      simp [set_ne, j1, j2]
    · rw [impsL_zero]
      exact Lst.own (es := [[S (headL x)]]) (g := 0) (k := n + 1) (by simp [headL, wMod, S])
    rintro i σ m2 n2 ⟨g1, g20, g21, g22, le, nn, fr, mo, ls, kf⟩
    generalize hd4 : σ 4 = d4 at ls kf
    by_cases hi : (i : Int) < x.imps.length
    · have hi' : i < x.imps.length := by omega
      have wi : IntKind.i64.wrap ((i : Int) + 1) = (i : Int) + 1 := wrap_i64 (by omega) (by omega)
      have hiN : i < IL.length := by omega
      have hgi : IL[i] = impD x.imps[i] := get_opt (hG1 i hi') hiN
      obtain ⟨t1, t2, t3, t4, t5⟩ := imp_parts (r4 _ (List.getElem_mem hi'))
      have hdl := digits_len x.imps[i].major.toNat
      have hsn := impsL_snoc hi'
      have hnm := impsL_num x i
      have him : impD x.imps[i] = [S x.imps[i].pkg, I x.imps[i].major, S x.imps[i].mod, S x.imps[i].as_] := rfl
      have hlin : impLine x.imps[i] = impLine ⟨x.imps[i].pkg, x.imps[i].major, x.imps[i].mod, x.imps[i].as_⟩ := rfl
      rw [hlin] at hsn
      generalize x.imps[i].pkg = y1 at t1 him hsn
      generalize x.imps[i].major = y2 at t4 t5 him hsn hdl
      generalize x.imps[i].mod = y3 at t2 him hsn
      generalize x.imps[i].as_ = y4 at t3 him hsn
      have kn : n ≠ n2 := by omega
      have nk : n2 ≠ n := by omega
      simp -dsimp [g1, g20, g21, g22, hd4, mo, I, S, hL1, hi, hi', hiN, hgi, him, set_ne, kn, nk, -vc_block]
      rw [vc_block]
      simp -dsimp [g1, g20, g21, g22, hd4, mo, I, S, hL1, hi, hi', hiN, hgi, him, set_ne, kn, nk, -vc_block]
      refine vdraw_tree [0, 0, 2, 6, 14, 0, 32, 96, 254, 510, 0, 1024, 4094, 8190, 0, 16384, 65534, 131070, 262143, 524287] (.rd 0 (.rd 1 (.rd 2 (.rd 3 (.rd 4 (.rd 5 (.rd 6 (.rd 10 (.rd 11 (.rd 14 (.rd 15 (.wr (.cons 7 (.rd 8 (.rd 9 (.rd 12 (.rd 13 (.rd 16 (.wr (.cons 17 (.wr (.cons 18 (.rd 19 (.fin)) (.nil))) (.nil)))))))) (.nil)))))))))))))) (by kernel_rfl) (by kernel_rfl) ?_
      simp -dsimp [g1, g20, g21, g22, hd4, mo, I, S, hL1, hi, hi', hiN, hgi, him, set_ne, kn, nk, -vc_block]
      refine ⟨by omega, by omega, ?_⟩
      refine aCall_of (cItoa (i := y2) (by omega) (by omega) _ _) ?_
      rintro d m3 n3 ⟨rfl, rfl, rfl⟩
      simp -dsimp [g1, g20, g21, g22, hd4, mo, I, S, hL1, hi, hi', hiN, hgi, him, set_ne, kn, nk, -vc_block]
      refine ⟨by omega, by omega, by omega, by omega, by omega, ?_⟩
      have hR : ∀ (o o' : V.Obj) (j : Nat), j < n2 → ((m2.set n2 o).set (n2 + 1) o') j = m2 j := fun o o' j hj => by rw [set_ne _ _ _ _ (by omega), set_ne _ _ _ _ (by omega)]
      refine b4_append (ls.frame fun j hj => hR _ _ j (by have := kf j hj; omega)) (fun j hj => by have := kf j hj; omega) trivial trivial (by omega) (by simp; omega) ?_
      intro d5 m5 n5 p1 p2 p3 p4
      have nd : ∀ j, j < n + 1 → kof d4 ≠ some j := fun j hj e => by have := kf j e; omega
      have ok5 := okD_lst p1
      have hkd : ∀ j, kof d5 = some j → n + 1 ≤ j ∧ j < n5 := fun j hj => by
        have h := p3 j hj
        rcases h.2 with e | e
        · have := kf j e; omega
        · omega
      simp -dsimp [g1, g20, g21, g22, hd4, I, S, wi, ok5, -vc_block]
      refine ⟨i + 1, by omega, by simp [g1], by simp [g20], by simp [g21, I], by simp [I], by omega, by omega, fun j hj => ?_, ?_, ?_, by simpa using hkd⟩
      · rw [p4 j (by omega) (nd j (by omega)), hR _ _ _ (by omega)]; exact fr j hj
      · rw [p4 n (by omega) (nd n (by omega)), hR _ _ _ (by omega)]; exact mo
      · rw [hsn, List.map_append]
        simpa [S, impLine, wImp] using p1
    · have : i = x.imps.length := by omega
      subst this
      rw [impsL_all] at ls
      simp -dsimp [g1, g20, g21, g22, hd4, mo, I, S, hL1, -vc_block]
      rw [vc_block]
      simp -dsimp [g1, g20, g21, g22, hd4, mo, I, S, hL1, hL2, -vc_block]
      refine vloop_of (β := Nat) (PrD x.name x.decls.length (dclsL x) IL DL m n) (fun i => x.decls.length - i) 0 ⟨by simp [g1], by simp, by simp [I], by simp [I], by omega, nn, fr, mo, by simp [hd4]; exact ls, by simp [hd4]; exact kf⟩ ?_
      clear g1 g20 g21 g22 hd4 le nn fr mo ls kf
      clear d4
      rintro i σ m2 n2 ⟨g1, g47, g48, g49, le, nn, fr, mo, ls, kf⟩
      generalize hd4 : σ 4 = d4 at ls kf
      by_cases hi : (i : Int) < x.decls.length
      · have hi' : i < x.decls.length := by omega
        have wi : IntKind.i64.wrap ((i : Int) + 1) = (i : Int) + 1 := wrap_i64 (by omega) (by omega)
        have hiN : i < DL.length := by omega
        have hgi : DL[i] = dclD x.decls[i] := get_opt (hG2 i hi') hiN
        have hc := fun m n => cLine (r5 _ (List.getElem_mem hi')) m n
        have hsn := dclsL_snoc hi'
        have hnm := dclsL_num x i
        have h9 : (dclD x.decls[i]).length = 9 := by simp [dclD, tyD_len]
        generalize dclD x.decls[i] = XX at hgi hc h9
        generalize dclLine x.decls[i] = ll at hc hsn
        have htz : List.take 9 XX = XX := List.take_of_length_le (by omega)
        have kn : n ≠ n2 := by omega
        have nk : n2 ≠ n := by omega
        simp -dsimp [g1, g47, g48, g49, hd4, mo, I, S, hL2, hi, hi', hiN, hgi, h9, htz, set_ne, kn, nk, -vc_block]
        rw [vc_block]
        simp -dsimp [g1, g47, g48, g49, hd4, mo, I, S, hL2, hi, hi', hiN, hgi, h9, htz, set_ne, kn, nk, -vc_block]
        refine aCall_of (hc _ _) ?_
        rintro d m3 n3 ⟨rfl, rfl, rfl⟩
        simp -dsimp [g1, g47, g48, g49, hd4, mo, I, S, nilE, hL2, set_ne, kn, nk, -vc_block]
        have hR : ∀ (o o' : V.Obj) (j : Nat), j < n2 → ((m2.set n2 o).set (n2 + 1) o') j = m2 j := fun o o' j hj => by rw [set_ne _ _ _ _ (by omega), set_ne _ _ _ _ (by omega)]
        refine b4_append (ls.frame fun j hj => hR _ _ j (by have := kf j hj; omega)) (fun j hj => by have := kf j hj; omega) trivial trivial (by omega) (by simp; omega) ?_
        intro d5 m5 n5 p1 p2 p3 p4
        have nd : ∀ j, j < n + 1 → kof d4 ≠ some j := fun j hj e => by have := kf j e; omega
        have ok5 := okD_lst p1
        have hkd : ∀ j, kof d5 = some j → n + 1 ≤ j ∧ j < n5 := fun j hj => by
          have h := p3 j hj
          rcases h.2 with e | e
          · have := kf j e; omega
          · omega
        simp -dsimp [g1, g47, g48, g49, hd4, I, S, wi, ok5, -vc_block]
        refine ⟨i + 1, by omega, by simp [g1], by simp [g47], by simp [g48, I], by simp [I], by omega, by omega, fun j hj => ?_, ?_, ?_, by simpa using hkd⟩
        · rw [p4 j (by omega) (nd j (by omega)), hR _ _ _ (by omega)]; exact fr j hj
        · rw [p4 n (by omega) (nd n (by omega)), hR _ _ _ (by omega)]; exact mo
        · rw [hsn, List.map_append]
          simpa [S] using p1
      · have : i = x.decls.length := by omega
        subst this
        have hjl := joinB_lines (headL x) (x.imps.map impLine ++ (x.decls.take x.decls.length).map dclLine)
        have hln := wd x.decls.length
        have hnm := dclsL_num x x.decls.length
        have hjj : joinB [10] (dclsL x x.decls.length) ++ [10] = linesF (dclsL x x.decls.length) := hjl
        have hjq := congrArg List.length hjj
        rw [List.length_append] at hjq
        simp only [List.length_cons, List.length_nil] at hjq
        simp -dsimp [g1, g47, g48, g49, hd4, mo, I, S, hL2]
        refine aCall_of (cJoin ls [10] (by omega) (by omega) _) ?_
        rintro d m3 n3 ⟨rfl, rfl, rfl⟩
        simp -dsimp [S, I]
        refine ⟨by omega, ?_⟩
        exact hq ⟨by rw [hjj, dclsL_all]; rfl, fr⟩
  · rintro d m' n' ⟨rfl, h⟩
    refine ⟨_, pub_pair (pur_S _).pub ?_, h, rfl⟩
    unfold argE
    cases mayM x
    · exact (pur_code _).pub
    · exact pur_nilE.pub
end Go.Proofs.Mv.App
open Go Go.Proofs Go.Proofs.Mv.V
set_option maxRecDepth 10000
namespace Go.Proofs.Mv.App
def fewD (d : Dcl) : Bool := few3 d.typ && decide (d.name.length ≤ 500)
structure FwM (name : List UInt8) (decls : List Dcl) (IL DL : List (List D)) (m : Mem) (n : Nat) (i : Nat) (σ : Nat → D) (m2 : Mem) (n2 : Nat) : Prop where
  h1 : σ 1 = .ptr n 0 0 0
  h3 : σ 3 = I i
  le : i ≤ decls.length
  al : ∀ d ∈ decls.take i, fewD d = true
  mm : m2 = m.set n ⟨3, [[S name, .sl 4 IL, .sl 9 DL]], 0⟩
  nn : n2 = n + 1
set_option maxHeartbeats 2000000 in
theorem cFewM {x : Md} (hx : MdW x) (m : Mem) (n : Nat) : ACalls Tryz.prog 31 [.agg (mdD x)] m n (fun d m' n' => d = Tt (fewM x) ∧ m' = m ∧ n' = n) := by
  obtain ⟨name, imps, decls⟩ := x
  obtain ⟨q1, q2, q3, q4, q5⟩ := hx
  simp only at q1 q2 q3 q4 q5
  refine acalls_done (R' := Hq (fun d m' n' => d = Tt (fewM ⟨name, imps, decls⟩) ∧ ∀ j, j < n → m' j = m j) tg) ?_ ?_
  · have fr : ∀ o j, j < n → (m.set n o) j = m j := fun o j hj => by rw [set_ne _ _ _ _ (by omega)]
    have hL1 : (imps.map impD).length = imps.length := by simp
    have hL2 : (decls.map dclD).length = decls.length := by simp
    have hG2 : ∀ i (h : i < decls.length), (decls.map dclD)[i]? = some (dclD decls[i]) := fun i h => by simp [h]
    have hfm : fewM ⟨name, imps, decls⟩ = (decide (name.length ≤ 500) && decide (imps.length ≤ 100) && decide (decls.length ≤ 100) && decls.all fewD) := rfl
    rw [hfm]
    simp only [mdD]
    generalize imps.map impD = IL at hL1
    generalize decls.map dclD = DL at hL2 hG2
    refine acalls_vc [0, 1, 2, 3, 4, 20, 25, 46] Tryz.func31 Tryz.ntmps31 (by kernel_rfl) rfl rfl (by simp) ?_
    by_cases h1 : (500 : Int) < name.length
    · have h1' : 500 < name.length := by omega
      simp -dsimp [S, hL1, hL2, h1, h1']
      exact hq ⟨by simp [Tt, show ¬ name.length ≤ 500 by omega], fr _⟩
    have h1' : ¬ 500 < name.length := by omega
    by_cases h2 : (100 : Int) < imps.length
    · have h2' : 100 < imps.length := by omega
      simp -dsimp [S, hL1, hL2, h1, h1', h2, h2']
      exact hq ⟨by simp [Tt, show ¬ imps.length ≤ 100 by omega], fr _⟩
    have h2' : ¬ 100 < imps.length := by omega
    by_cases h3 : (100 : Int) < decls.length
    · have h3' : 100 < decls.length := by omega
      simp -dsimp [S, hL1, hL2, h1, h1', h2, h2', h3, h3']
      exact hq ⟨by simp [Tt, show ¬ decls.length ≤ 100 by omega], fr _⟩
    have h3' : ¬ 100 < decls.length := by omega
    have e : (decide (name.length ≤ 500) && decide (imps.length ≤ 100) && decide (decls.length ≤ 100) && decls.all fewD) = decls.all fewD := by
      simp [show name.length ≤ 500 by omega, show imps.length ≤ 100 by omega, show decls.length ≤ 100 by omega]
    rw [e]
    simp -dsimp [S, hL1, hL2, h1, h1', h2, h2', h3, h3']
    refine vloop_of (β := Nat) (FwM name decls IL DL m n) (fun i => decls.length - i) 0 ⟨by simp, by simp [I], by omega, by simp, by simp [S], rfl⟩ ?_
    rintro i σ m2 n2 ⟨g1, g3, le, al, rfl, rfl⟩
    by_cases hi : (i : Int) < decls.length
    · have hi' : i < decls.length := by omega
      have wi : IntKind.i64.wrap ((i : Int) + 1) = (i : Int) + 1 := wrap_i64 (by omega) (by omega)
      have hiN : i < DL.length := by omega
      have hgi : DL[i] = dclD decls[i] := get_opt (hG2 i hi') hiN
      have him : dclD decls[i] = I decls[i].kind :: S decls[i].name :: tyD decls[i].typ := rfl
      have hmem := List.getElem_mem hi'
      have hc := fun m n => cFewT (q5 _ hmem).h2 m n
      have h7 := tyD_len decls[i].typ
      have hbad : fewD decls[i] = false → decls.all fewD = false := fun h => by
        rw [List.all_eq_false]; exact ⟨_, hmem, by simp [h]⟩
      have hfd : fewD decls[i] = (few3 decls[i].typ && decide (decls[i].name.length ≤ 500)) := rfl
      generalize tyD decls[i].typ = TT at h7 him hc
      have ht7 : List.take 7 TT = TT := List.take_of_length_le (by omega)
      simp -dsimp [g1, g3, I, S, hL2, hi, hi', hiN, hgi, him, h7, ht7]
      refine aCall_of (hc _ _) ?_
      rintro d m' n' ⟨rfl, rfl, rfl⟩
      cases e1 : few3 decls[i].typ with
      | false =>
        simp -dsimp [g1, g3, I, S, Tt]
        exact hq ⟨by rw [hbad (by rw [hfd, e1]; rfl)]; rfl, fr _⟩
      | true =>
      by_cases e2 : (500 : Int) < decls[i].name.length
      · have e2' : 500 < decls[i].name.length := by omega
        simp -dsimp [g1, g3, I, S, Tt, hL2, hi, hi', hiN, hgi, him, h7, ht7, e2, e2']
        exact hq ⟨by rw [hbad (by rw [hfd, e1]; simp; omega)]; rfl, fr _⟩
      · have e2' : ¬ 500 < decls[i].name.length := by omega
        simp -dsimp [g1, g3, I, S, Tt, hL2, hi, hi', hiN, hgi, him, h7, ht7, e2, e2', wi]
        refine ⟨i + 1, by omega, by simp [g1], by simp [I], by omega, ?_, by simp [S], rfl⟩
        intro x hx
        rw [List.take_succ_eq_append_getElem hi'] at hx
        rcases List.mem_append.1 hx with hx | hx
        · exact al x hx
        · simp at hx; rw [hx, hfd, e1]; simp; omega
    · have : decls.take i = decls := List.take_of_length_le (by omega)
      rw [this] at al
      have hall : decls.all fewD = true := List.all_eq_true.2 al
      simp -dsimp [g1, g3, I, S, hL2, hi]
      exact hq ⟨by rw [hall]; rfl, fr _⟩
  · rintro d m' n' ⟨rfl, h⟩
    exact ⟨_, (pur_T _).pub, h, rfl⟩
structure MyI (name : List UInt8) (imps : List Imp) (IL DL : List (List D)) (m : Mem) (n : Nat) (i : Nat) (σ : Nat → D) (m2 : Mem) (n2 : Nat) : Prop where
  h1 : σ 1 = .ptr n 0 0 0
  h3 : σ 3 = Tt ((imps.take i).all impOk)
  h4 : σ 4 = I i
  le : i ≤ imps.length
  mm : m2 = m.set n ⟨3, [[S name, .sl 4 IL, .sl 9 DL]], 0⟩
  nn : n2 = n + 1
structure MyD (name : List UInt8) (b : Bool) (decls : List Dcl) (IL DL : List (List D)) (m : Mem) (n : Nat) (i : Nat) (σ : Nat → D) (m2 : Mem) (n2 : Nat) : Prop where
  h1 : σ 1 = .ptr n 0 0 0
  h3 : σ 3 = Tt (b && (decls.take i).all dclOk)
  h5 : σ 5 = I i
  le : i ≤ decls.length
  mm : m2 = m.set n ⟨3, [[S name, .sl 4 IL, .sl 9 DL]], 0⟩
  nn : n2 = n + 1
theorem all_take_false {α : Type} {l : List α} {p : α → Bool} {i : Nat} (h : (l.take i).all p = false) : l.all p = false := by
  rw [List.all_eq_false] at h ⊢
  obtain ⟨x, hx, hp⟩ := h
  exact ⟨x, List.mem_of_mem_take hx, hp⟩
theorem all_take_snoc {α : Type} {l : List α} {p : α → Bool} {i : Nat} (h : i < l.length) : (l.take (i + 1)).all p = ((l.take i).all p && p l[i]) := by
  rw [take_snoc h, List.all_append]; simp
set_option maxHeartbeats 4000000 in
theorem cRMayM {x : Md} (hx : MdW x) (hf : fewM x = true) (m : Mem) (n : Nat) : ACalls Tryz.prog 33 [.agg (mdD x)] m n (fun d m' n' => d = Tt (mayM x) ∧ m' = m ∧ n' = n) := by
  have hfp := (fewM_parts hf).2.2.2
  obtain ⟨name, imps, decls⟩ := x
  obtain ⟨q1, q2, q3, q4, q5⟩ := hx
  simp only at q1 q2 q3 q4 q5 hfp
  refine acalls_done (R' := Hq (fun d m' n' => d = Tt (mayM ⟨name, imps, decls⟩) ∧ ∀ j, j < n → m' j = m j) tg) ?_ ?_
  · have fr : ∀ o j, j < n → (m.set n o) j = m j := fun o j hj => by rw [set_ne _ _ _ _ (by omega)]
    have hL1 : (imps.map impD).length = imps.length := by simp
    have hG1 : ∀ i (h : i < imps.length), (imps.map impD)[i]? = some (impD imps[i]) := fun i h => by simp [h]
    have hL2 : (decls.map dclD).length = decls.length := by simp
    have hG2 : ∀ i (h : i < decls.length), (decls.map dclD)[i]? = some (dclD decls[i]) := fun i h => by simp [h]
    simp only [mdD, mayM]
    generalize imps.map impD = IL at hL1 hG1
    generalize decls.map dclD = DL at hL2 hG2
    refine acalls_vc [0, 1, 2, 3, 4, 5, 22, 30, 46] Tryz.func33 Tryz.ntmps33 (by kernel_rfl) rfl rfl (by simp) ?_
    simp -dsimp [S]
    refine aCall_of (cRefSmall name _ _) ?_
    rintro d m' n' ⟨rfl, rfl, rfl⟩
    cases h1 : smallN name with
    | false =>
      simp -dsimp [I, S, Tt]
      exact hq ⟨by simp [Tt], fr _⟩
    | true =>
    by_cases h2 : (20 : Int) < imps.length
    · have h2' : 20 < imps.length := by omega
      simp -dsimp [I, S, Tt, hL1, hL2, h2, h2']
      exact hq ⟨by simp [Tt, show ¬ imps.length ≤ 20 by omega], fr _⟩
    have h2' : ¬ 20 < imps.length := by omega
    by_cases h3 : (60 : Int) < decls.length
    · have h3' : 60 < decls.length := by omega
      simp -dsimp [I, S, Tt, hL1, hL2, h2, h2', h3, h3']
      exact hq ⟨by simp [Tt, show ¬ decls.length ≤ 60 by omega], fr _⟩
    have h3' : ¬ 60 < decls.length := by omega
    have e : (true && decide (imps.length ≤ 20) && decide (decls.length ≤ 60) && imps.all impOk && decls.all dclOk) = (imps.all impOk && decls.all dclOk) := by
      simp [show imps.length ≤ 20 by omega, show decls.length ≤ 60 by omega]
    rw [e]
    simp -dsimp [I, S, Tt, hL1, hL2, h2, h2', h3, h3', -vc_block]
    rw [vc_block]
    simp -dsimp [I, S, Tt, hL1, hL2, -vc_block]
    refine vloop_of (β := Nat) (MyI name imps IL DL m n) (fun i => imps.length - i) 0 ⟨by simp, by simp [Tt], by simp [I], by omega, by simp [S], rfl⟩ ?_
    rintro i σ m2 n2 ⟨g1, g3, g4, le, rfl, rfl⟩
    have hnext : ∀ (b : Bool), True := fun _ => trivial
    by_cases hgo : (i : Int) < imps.length ∧ (imps.take i).all impOk = true
    · obtain ⟨hi, hb⟩ := hgo
      rw [hb] at g3
      have hi' : i < imps.length := by omega
      have wi : IntKind.i64.wrap ((i : Int) + 1) = (i : Int) + 1 := wrap_i64 (by omega) (by omega)
      have hiN : i < IL.length := by omega
      have hgi : IL[i] = impD imps[i] := get_opt (hG1 i hi') hiN
      have hc := fun m n => cRImp (i := imps[i]) m n
      have hz : (impD imps[i]).length = 4 := rfl
      generalize impD imps[i] = TT at hgi hc hz
      have ht7 : List.take 4 TT = TT := List.take_of_length_le (by omega)
      simp -dsimp [g1, g3, g4, I, S, Tt, hL1, hL2, hi, hi', hiN, hgi, hz, ht7, -vc_block]
      rw [vc_block]
      simp -dsimp [g1, g3, g4, I, S, Tt, hL1, hL2, hi, hi', hiN, hgi, hz, ht7, -vc_block]
      refine aCall_of (hc _ _) ?_
      rintro d m' n' ⟨rfl, rfl, rfl⟩
      simp -dsimp [g1, g3, g4, I, S, Tt, wi, -vc_block]
      exact ⟨i + 1, by omega, by simp [g1], by rw [all_take_snoc hi', hb]; simp [Tt], by simp [I], by omega, by simp [S], rfl⟩
    · have hb : (imps.take i).all impOk = imps.all impOk := by
        cases e : (imps.take i).all impOk with
        | false => rw [all_take_false e]
        | true =>
          have : ¬ (i : Int) < imps.length := fun h => hgo ⟨h, e⟩
          rw [← e, List.take_of_length_le (by omega)]
      have hex : ((i : Int) < imps.length) = false ∨ ((i : Int) < imps.length) = true ∧ imps.all impOk = false := by
        by_cases h : (i : Int) < imps.length
        · right
          refine ⟨by simp [h], ?_⟩
          rw [← hb]
          cases e : (imps.take i).all impOk with
          | false => rfl
          | true => exact absurd ⟨h, e⟩ hgo
        · left; simp [h]
      rw [hb] at g3
      generalize imps.all impOk = B at g3 hex ⊢
      rcases hex with h | ⟨h, hB⟩
      · have hlt : ¬ (i : Int) < imps.length := by simpa using h
        simp -dsimp [g1, g3, g4, I, S, Tt, hL1, hL2, hlt, -vc_block]
        rw [vc_block]
        simp -dsimp [g1, g3, I, S, Tt, hL1, hL2, -vc_block]
        refine vloop_of (β := Nat) (MyD name B decls IL DL m n) (fun i => decls.length - i) 0 ⟨by simp [g1], by simp [g3, Tt], by simp [I], by omega, by simp [S], rfl⟩ ?_
        rintro j σ2 m2 n2 ⟨c1, c3, c5, le2, rfl, rfl⟩
        by_cases hgo2 : (j : Int) < decls.length ∧ (B && (decls.take j).all dclOk) = true
        · obtain ⟨hj, hb2⟩ := hgo2
          rw [hb2] at c3
          have hj' : j < decls.length := by omega
          have wj : IntKind.i64.wrap ((j : Int) + 1) = (j : Int) + 1 := wrap_i64 (by omega) (by omega)
          have hjN : j < DL.length := by omega
          have hgj : DL[j] = dclD decls[j] := get_opt (hG2 j hj') hjN
          have hmem := List.getElem_mem hj'
          have hc := fun m n => cRDcl (q5 _ hmem) (hfp _ hmem) m n
          have hz : (dclD decls[j]).length = 9 := by simp [dclD, tyD_len]
          generalize dclD decls[j] = TT at hgj hc hz
          have ht7 : List.take 9 TT = TT := List.take_of_length_le (by omega)
          simp -dsimp [c1, c3, c5, I, S, Tt, hL1, hL2, hj, hj', hjN, hgj, hz, ht7]
          refine aCall_of (hc _ _) ?_
          rintro d m' n' ⟨rfl, rfl, rfl⟩
          simp -dsimp [c1, c3, c5, I, S, Tt, wj]
          exact ⟨j + 1, by omega, by simp [c1], by rw [all_take_snoc hj', ← Bool.and_assoc, hb2]; simp [Tt], by simp [I], by omega, by simp [S], rfl⟩
        · have hb2 : (B && (decls.take j).all dclOk) = (B && decls.all dclOk) := by
            cases e : (B && (decls.take j).all dclOk) with
            | false =>
              rw [Bool.and_eq_false_iff] at e
              rcases e with e | e
              · rw [e]; rfl
              · rw [all_take_false e]; simp
            | true =>
              have : ¬ (j : Int) < decls.length := fun h => hgo2 ⟨h, e⟩
              rw [← e, List.take_of_length_le (by omega)]
          rw [hb2] at c3 hgo2
          by_cases hj : (j : Int) < decls.length
          · have hf2 : (B && decls.all dclOk) = false := by
              cases e : (B && decls.all dclOk) with
              | false => rfl
              | true => exact absurd ⟨hj, e⟩ hgo2
            rw [hf2] at c3 ⊢
            simp -dsimp [c1, c3, c5, I, S, Tt, hL1, hL2, hj]
            exact hq ⟨rfl, fr _⟩
          · generalize (B && decls.all dclOk) = V at c3 ⊢
            simp -dsimp [c1, c3, c5, I, S, Tt, hL1, hL2, hj]
            exact hq ⟨rfl, fr _⟩
      · have hlt : (i : Int) < imps.length := by simpa using h
        subst hB
        simp -dsimp [g1, g3, g4, I, S, Tt, hL1, hL2, hlt, -vc_block]
        rw [vc_block]
        simp -dsimp [g1, g3, I, S, Tt, hL1, hL2, -vc_block]
        refine vloop_of (β := Nat) (MyD name false decls IL DL m n) (fun i => decls.length - i) 0 ⟨by simp [g1], by simp [g3, Tt], by simp [I], by omega, by simp [S], rfl⟩ ?_
        rintro j σ2 m2 n2 ⟨c1, c3, c5, le2, rfl, rfl⟩
        by_cases hgo2 : (j : Int) < decls.length ∧ (false && (decls.take j).all dclOk) = true
        · obtain ⟨hj, hb2⟩ := hgo2
          rw [hb2] at c3
          have hj' : j < decls.length := by omega
          have wj : IntKind.i64.wrap ((j : Int) + 1) = (j : Int) + 1 := wrap_i64 (by omega) (by omega)
          have hjN : j < DL.length := by omega
          have hgj : DL[j] = dclD decls[j] := get_opt (hG2 j hj') hjN
          have hmem := List.getElem_mem hj'
          have hc := fun m n => cRDcl (q5 _ hmem) (hfp _ hmem) m n
          have hz : (dclD decls[j]).length = 9 := by simp [dclD, tyD_len]
          generalize dclD decls[j] = TT at hgj hc hz
          have ht7 : List.take 9 TT = TT := List.take_of_length_le (by omega)
          simp -dsimp [c1, c3, c5, I, S, Tt, hL1, hL2, hj, hj', hjN, hgj, hz, ht7]
          refine aCall_of (hc _ _) ?_
          rintro d m' n' ⟨rfl, rfl, rfl⟩
          simp -dsimp [c1, c3, c5, I, S, Tt, wj]
          exact ⟨j + 1, by omega, by simp [c1], by rw [all_take_snoc hj', ← Bool.and_assoc, hb2]; simp [Tt], by simp [I], by omega, by simp [S], rfl⟩
        · have hb2 : (false && (decls.take j).all dclOk) = (false && decls.all dclOk) := by
            cases e : (false && (decls.take j).all dclOk) with
            | false =>
              rw [Bool.and_eq_false_iff] at e
              rcases e with e | e
              · rw [e]; rfl
              · rw [all_take_false e]; simp
            | true =>
              have : ¬ (j : Int) < decls.length := fun h => hgo2 ⟨h, e⟩
              rw [← e, List.take_of_length_le (by omega)]
          rw [hb2] at c3 hgo2
          by_cases hj : (j : Int) < decls.length
          · have hf2 : (false && decls.all dclOk) = false := by
              cases e : (false && decls.all dclOk) with
              | false => rfl
              | true => exact absurd ⟨hj, e⟩ hgo2
            rw [hf2] at c3 ⊢
            simp -dsimp [c1, c3, c5, I, S, Tt, hL1, hL2, hj]
            exact hq ⟨rfl, fr _⟩
          · generalize (false && decls.all dclOk) = V at c3 ⊢
            simp -dsimp [c1, c3, c5, I, S, Tt, hL1, hL2, hj]
            exact hq ⟨rfl, fr _⟩
  · rintro d m' n' ⟨rfl, h⟩
    exact ⟨_, (pur_T _).pub, h, rfl⟩
end Go.Proofs.Mv.App
open Go Go.Proofs Go.Proofs.Mv.V
set_option maxRecDepth 10000
namespace Go.Proofs.Mv.App
structure RpI (x : Md) (IL DL : List (List D)) (m : Mem) (n : Nat) (i : Nat) (σ : Nat → D) (m2 : Mem) (n2 : Nat) : Prop where
  h1 : σ 1 = .ptr n 0 0 0
  h3 : σ 3 = S (linesF (impsL x i))
  h4 : σ 4 = I i
  le : i ≤ x.imps.length
  nn : n + 1 ≤ n2
  fr : ∀ j, j < n → m2 j = m j
  mo : m2 n = some ⟨3, [[S x.name, .sl 4 IL, .sl 9 DL]], 0⟩
structure RpD (x : Md) (IL DL : List (List D)) (m : Mem) (n : Nat) (i : Nat) (σ : Nat → D) (m2 : Mem) (n2 : Nat) : Prop where
  h1 : σ 1 = .ptr n 0 0 0
  h3 : σ 3 = S (linesF (dclsL x i))
  h6 : σ 6 = I i
  le : i ≤ x.decls.length
  nn : n + 1 ≤ n2
  fr : ∀ j, j < n → m2 j = m j
  mo : m2 n = some ⟨3, [[S x.name, .sl 4 IL, .sl 9 DL]], 0⟩
set_option maxHeartbeats 4000000 in
theorem cRPrintM {x : Md} (hx : MdW x) (hm : mayM x = true) (m : Mem) (n : Nat) : ACalls Tryz.prog 35 [.agg (mdD x)] m n (fun d m' n' => d = S (textM x) ∧ m' = m ∧ n' = n) := by
  refine acalls_done (R' := Hq (fun d m' n' => d = S (textM x) ∧ ∀ j, j < n → m' j = m j) tg) ?_ ?_
  · have hmd : mdD x = [S x.name, .sl 4 (x.imps.map impD), .sl 9 (x.decls.map dclD)] := rfl
    have hL1 : (x.imps.map impD).length = x.imps.length := by simp
    have hG1 : ∀ i (h : i < x.imps.length), (x.imps.map impD)[i]? = some (impD x.imps[i]) := fun i h => by simp [h]
    have hL2 : (x.decls.map dclD).length = x.decls.length := by simp
    have hG2 : ∀ i (h : i < x.decls.length), (x.decls.map dclD)[i]? = some (dclD x.decls[i]) := fun i h => by simp [h]
    rw [hmd]
    generalize x.imps.map impD = IL at hL1 hG1
    generalize x.decls.map dclD = DL at hL2 hG2
    obtain ⟨r1, r2, r3, r4, r5⟩ := mayM_parts hm
    have wl := impsL_len hm
    have wd := dclsL_len hm
    refine acalls_vc [0, 1, 2, 3, 4, 5, 6, 7, 16, 47, 56, 67, 74, 81] Tryz.func35 Tryz.ntmps35 (by kernel_rfl) rfl rfl (by simp) ?_
    simp -dsimp [I, S, -vc_block]
    refine ⟨by omega, by omega, ?_⟩
    rw [vc_block]
    simp -dsimp [I, S, hL1, -vc_block]
    refine vloop_of (β := Nat) (RpI x IL DL m n) (fun i => x.imps.length - i) 0 ⟨by simp, by simp [S, impsL_zero, linesF, headL, wMod], by simp [I], by omega, by omega, fun j hj => set_ne _ _ _ _ (by omega), by simp [S]⟩ ?_
    rintro i σ m2 n2 ⟨g1, g3, g4, le, nn, fr, mo⟩
    by_cases hi : (i : Int) < x.imps.length
    · have hi' : i < x.imps.length := by omega
      have wi : IntKind.i64.wrap ((i : Int) + 1) = (i : Int) + 1 := wrap_i64 (by omega) (by omega)
      have hiN : i < IL.length := by omega
      have hgi : IL[i] = impD x.imps[i] := get_opt (hG1 i hi') hiN
      obtain ⟨t1, t2, t3, t4, t5⟩ := imp_parts (r4 _ (List.getElem_mem hi'))
      have hdl := digits_len x.imps[i].major.toNat
      have hsn := impsL_snoc hi'
      have hll := wl i
      have him : impD x.imps[i] = [S x.imps[i].pkg, I x.imps[i].major, S x.imps[i].mod, S x.imps[i].as_] := rfl
      have hlin : impLine x.imps[i] = impLine ⟨x.imps[i].pkg, x.imps[i].major, x.imps[i].mod, x.imps[i].as_⟩ := rfl
      rw [hlin] at hsn
      generalize x.imps[i].pkg = y1 at t1 him hsn
      generalize x.imps[i].major = y2 at t4 t5 him hsn hdl
      generalize x.imps[i].mod = y3 at t2 him hsn
      generalize x.imps[i].as_ = y4 at t3 him hsn
      have kn : n ≠ n2 := by omega
      have nk : n2 ≠ n := by omega
      simp -dsimp [g1, g3, g4, mo, I, S, hL1, hi, hi', hiN, hgi, him, set_ne, kn, nk, -vc_block]
      rw [vc_block]
      simp -dsimp [g1, g3, g4, mo, I, S, hL1, hi, hi', hiN, hgi, him, set_ne, kn, nk, -vc_block]
      refine vdraw_tree [0, 1, 0, 4, 15, 31, 0, 64, 192, 511, 1023, 0, 2048, 8191, 16383, 0, 32768, 131071, 262143, 524287] (.rd 0 (.rd 1 (.rd 2 (.rd 3 (.rd 4 (.rd 5 (.rd 6 (.rd 7 (.rd 11 (.rd 12 (.rd 15 (.rd 16 (.wr (.cons 8 (.rd 9 (.rd 10 (.rd 13 (.rd 14 (.rd 17 (.rd 18 (.rd 19 (.fin)))))))) (.nil))))))))))))))) (by kernel_rfl) (by kernel_rfl) ?_
      simp -dsimp [g1, g3, g4, mo, I, S, hL1, hi, hi', hiN, hgi, him, set_ne, kn, nk, -vc_block]
      refine ⟨by omega, by omega, by omega, ?_⟩
      refine aCall_of (cDigitsI (j := y2) (by omega) (by omega) _ _) ?_
      rintro d m3 n3 ⟨rfl, rfl, rfl⟩
      simp -dsimp [g1, g3, g4, mo, I, S, hL1, set_ne, kn, nk, wi, -vc_block]
      refine ⟨by omega, by omega, by omega, by omega, by omega, by omega, i + 1, by omega, by simp [g1], by rw [hsn, linesF_snoc]; simp [S, impLine, wImp], by simp [I], by omega, by omega, fun j hj => by rw [set_ne _ _ _ _ (by omega)]; exact fr j hj, by rw [set_ne _ _ _ _ kn]; exact mo⟩
    · have : i = x.imps.length := by omega
      subst this
      rw [impsL_all] at g3
      simp -dsimp [g1, g3, g4, mo, I, S, hL1, -vc_block]
      rw [vc_block]
      simp -dsimp [g1, g3, g4, mo, I, S, hL1, hL2, -vc_block]
      refine vloop_of (β := Nat) (RpD x IL DL m n) (fun i => x.decls.length - i) 0 ⟨by simp [g1], by simp [g3, S], by simp [I], by omega, nn, fr, mo⟩ ?_
      clear g1 g3 g4 le nn fr mo
      rintro i σ m2 n2 ⟨g1, g3, g6, le, nn, fr, mo⟩
      by_cases hi : (i : Int) < x.decls.length
      · have hi' : i < x.decls.length := by omega
        have wi : IntKind.i64.wrap ((i : Int) + 1) = (i : Int) + 1 := wrap_i64 (by omega) (by omega)
        have hiN : i < DL.length := by omega
        have hgi : DL[i] = dclD x.decls[i] := get_opt (hG2 i hi') hiN
        have hok := r5 _ (List.getElem_mem hi')
        obtain ⟨t1, t2⟩ := dcl_parts hok
        have t3 := dclLine_len hok
        have hsn := dclsL_snoc hi'
        have hll := wd i
        have him : dclD x.decls[i] = I x.decls[i].kind :: S x.decls[i].name :: tyD x.decls[i].typ := rfl
        have hc : mayT x.decls[i].typ = true → ∀ m n, ACalls Tryz.prog 83 [.agg (tyD x.decls[i].typ)] m n (fun d m' n' => d = S (textT x.decls[i].typ) ∧ m' = m ∧ n' = n) := fun h m n => cPrintR (allT_w _ (may_all h).1) (may_all h).1 (by have := (may_all h).2.1; omega) m n
        have htl := mayT_len (t := x.decls[i].typ)
        have h7 := tyD_len x.decls[i].typ
        rw [him] at hgi
        clear him
        unfold dclLine at hsn t3
        generalize tyD x.decls[i].typ = TT at h7 hgi hc
        generalize textT x.decls[i].typ = tt at hsn t3 htl hc
        generalize mayT x.decls[i].typ = my at t2 htl hc
        generalize x.decls[i].kind = y1 at hgi hsn t3 t2
        generalize x.decls[i].name = y2 at hgi hsn t3 t1
        obtain ⟨a1, a2, a3, a4, a5, a6, a7, rfl⟩ : ∃ a1 a2 a3 a4 a5 a6 a7, TT = [a1, a2, a3, a4, a5, a6, a7] := by
          match TT, h7 with
          | [a1, a2, a3, a4, a5, a6, a7], _ => exact ⟨a1, a2, a3, a4, a5, a6, a7, rfl⟩
        have kn : n ≠ n2 := by omega
        have nk : n2 ≠ n := by omega
        by_cases k1 : y1 = 1
        · subst k1
          simp -dsimp [g1, g3, g6, mo, I, S, hL2, hi, hi', hiN, hgi, set_ne, kn, nk, wi]
          refine ⟨by omega, by omega, by omega, i + 1, by omega, by simp [g1], by rw [hsn, linesF_snoc]; simp [S, wOpa], by simp [I], by omega, by omega, fun j hj => by rw [set_ne _ _ _ _ (by omega)]; exact fr j hj, by rw [set_ne _ _ _ _ kn]; exact mo⟩
        have k1' : (y1 == 1) = false := by simpa using k1
        by_cases k2 : y1 = 2
        · subst k2
          simp -dsimp [g1, g3, g6, mo, I, S, hL2, hi, hi', hiN, hgi, set_ne, kn, nk, wi]
          refine ⟨by omega, by omega, by omega, i + 1, by omega, by simp [g1], by rw [hsn, linesF_snoc]; simp [S, wHid], by simp [I], by omega, by omega, fun j hj => by rw [set_ne _ _ _ _ (by omega)]; exact fr j hj, by rw [set_ne _ _ _ _ kn]; exact mo⟩
        have k2' : (y1 == 2) = false := by simpa using k2
        have hm : my = true := by
          rcases t2 with ⟨p, _⟩ | ⟨_, p⟩
          · omega
          · exact p
        have htl := htl hm
        have hc := hc hm
        by_cases k3 : y1 = 3
        · subst k3
          simp -dsimp [g1, g3, g6, mo, I, S, hL2, hi, hi', hiN, hgi, set_ne, kn, nk, wi]
          refine vdraw_tree [0, 1, 0, 4, 15, 31, 0, 64, 192, 511, 1023] (.rd 0 (.rd 1 (.rd 2 (.rd 3 (.rd 4 (.rd 5 (.rd 6 (.rd 7 (.wr (.cons 8 (.rd 9 (.rd 10 (.fin))) (.nil))))))))))) (by kernel_rfl) (by kernel_rfl) ?_
          simp -dsimp [g1, g3, g6, mo, I, S, hL2, hi, hi', hiN, hgi, set_ne, kn, nk, wi]
          refine ⟨by omega, by omega, by omega, ?_⟩
          refine aCall_of (hc _ _) ?_
          rintro d m3 n3 ⟨rfl, rfl, rfl⟩
          simp -dsimp [g1, g3, g6, mo, I, S, hL2, set_ne, kn, nk, wi]
          refine ⟨by omega, by omega, i + 1, by omega, by simp [g1], by rw [hsn, linesF_snoc]; simp [S, wAli], by simp [I], by omega, by omega, fun j hj => by rw [set_ne _ _ _ _ (by omega)]; exact fr j hj, by rw [set_ne _ _ _ _ kn]; exact mo⟩
        have k3' : (y1 == 3) = false := by simpa using k3
        simp -dsimp [g1, g3, g6, mo, I, S, hL2, hi, hi', hiN, hgi, set_ne, kn, nk, wi, k1', k2', k3']
        refine vdraw_tree [0, 1, 0, 4, 15, 31, 0, 64, 192, 511, 1023] (.rd 0 (.rd 1 (.rd 2 (.rd 3 (.rd 4 (.rd 5 (.rd 6 (.rd 7 (.wr (.cons 8 (.rd 9 (.rd 10 (.fin))) (.nil))))))))))) (by kernel_rfl) (by kernel_rfl) ?_
        simp -dsimp [g1, g3, g6, mo, I, S, hL2, hi, hi', hiN, hgi, set_ne, kn, nk, wi]
        refine ⟨by omega, by omega, by omega, ?_⟩
        refine aCall_of (hc _ _) ?_
        rintro d m3 n3 ⟨rfl, rfl, rfl⟩
        simp -dsimp [g1, g3, g6, mo, I, S, hL2, set_ne, kn, nk, wi]
        refine ⟨by omega, by omega, i + 1, by omega, by simp [g1], by rw [hsn, linesF_snoc]; simp [S, wVal, k1, k2, k3], by simp [I], by omega, by omega, fun j hj => by rw [set_ne _ _ _ _ (by omega)]; exact fr j hj, by rw [set_ne _ _ _ _ kn]; exact mo⟩
      · have : i = x.decls.length := by omega
        subst this
        rw [dclsL_all, ← textM_lines] at g3
        simp -dsimp [g1, g3, g6, mo, I, S, hL2]
        exact hq ⟨rfl, fr⟩
  · rintro d m' n' ⟨rfl, h⟩
    exact ⟨_, (pur_S _).pub, h, rfl⟩
end Go.Proofs.Mv.App
