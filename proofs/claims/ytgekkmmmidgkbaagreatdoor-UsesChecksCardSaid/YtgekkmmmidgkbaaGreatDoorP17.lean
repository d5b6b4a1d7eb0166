/- A part of the proofs of the seat YtgekkmmmidgkbaaGreatDoor: the abstract machine, the contracts of the functions, the laws. No condition of its own. -/
import Derived.Test.YtgekkmmmidgkbaaGreatDoorP16
set_option linter.unusedSimpArgs false
set_option linter.unusedVariables false
set_option linter.unusedSectionVars false
open Go Go.Proofs Go.Proofs.Mv.V
set_option maxRecDepth 10000
namespace Go.Proofs.Mv.App
theorem pub_ty0X {n : Nat} {m : Mem} : PubAs n m (.agg [I 0, S [], I 0, S [], S [], .v (.slice none 0 0), .v (.slice none 0 0)]) (.agg (tyD Ty0)) := by
  rw [tyD_zero]
  exact .agg (.cons (pur_I _).pub (.cons (pur_S _).pub (.cons (pur_I _).pub (.cons (pur_S _).pub (.cons (pur_S _).pub (.cons (pub_nil 1) (.cons (pub_nil 7) .nil)))))))
theorem pub_th0 {n : Nat} {m : Mem} : PubAs n m (.tup [.agg [I 0, S [], I 0, S [], S [], .v (.slice none 0 0), .v (.slice none 0 0)], Tt false]) (thD none) := by
  simp only [thD, Option.getD_none, Option.any_none]
  exact .tup (.cons pub_ty0X (.cons (pur_T _).pub .nil))
section
variable {md : List UInt8} {imps : List Imp} {env : List Ifc}
set_option maxHeartbeats 8000000 in
theorem cRThere (hi : imps.length ≤ 1000000) (he : env.length ≤ 1000000) (hw : ∀ f ∈ env, IfcW f) (hf : fewE env = true) (l : Ty) :
    Pc Tryz.prog 115 [.agg (mdX md imps), .sl 5 (env.map ifD), .agg (tyD l)] (thD (rawF imps env l.mod l.name)) := by
  refine pc_pub (fun m n => ?_)
  have nn1 : n ≠ n + 1 := by omega
  have n1n : n + 1 ≠ n := by omega
  have nn2 : n ≠ n + 1 + 1 := by omega
  have n2n : n + 1 + 1 ≠ n := by omega
  have n12 : n + 1 ≠ n + 1 + 1 := by omega
  have n21 : n + 1 + 1 ≠ n + 1 := by omega
  have hF := fun x => cRFind8 he x
  have hL : (imps.map impD).length = imps.length := by simp
  have hG : ∀ i (h : i < imps.length), (imps.map impD)[i]? = some (impD imps[i]) := fun i h => by simp [h]
  have hEL : (env.map ifD).length = env.length := by simp
  have hEG : ∀ i (h : i < env.length), (env.map ifD)[i]? = some (ifD env[i]) := fun i h => by simp [h]
  obtain ⟨k1, p1, j1, m1, n1, na, sa⟩ := l
  simp only [Ty.mod, Ty.name]
  simp only [mdX]
  generalize imps.map impD = IL at hL hG
  generalize env.map ifD = EL at hF hEL hEG
  simp only [tyD, sl1]
  generalize (na.map fun s => [S s]) = NA
  generalize tysD sa = SA
  refine acalls_vcC [0, 1, 2, 3, 5, 6, 7, 8, 9, 10, 11, 12, 13, 14, 19, 31, 41, 52] Tryz.func115 Tryz.ntmps115 (by kernel_rfl) rfl rfl (by simp) ?_
  simp -dsimp [I, S, Tt, set_ne, nn1, n1n, nn2, n2n, n12, n21]
  refine vloop_as (β := Nat) (fun i => [(1, .sl 5 EL), (3, .ptr n 0 0 0), (5, .ptr (n + 1) 0 0 0), (6, .ptr (n + 1 + 1) 0 0 0), (8, I i)])
    (fun i mm nn => mm n = some ⟨3, [[S md, .sl 4 IL, .sl 9 []]], 0⟩ ∧ mm (n + 1) = some ⟨7, [[I k1, S p1, I j1, S m1, S n1, .sl 1 NA, .sl 7 SA]], 0⟩ ∧ mm (n + 1 + 1) = some ⟨7, [[I 0, S [], I 0, S [], S [], .v (.slice none 0 0), .v (.slice none 0 0)]], 0⟩ ∧ (∀ j, j < n → mm j = m j) ∧ n + 1 + 1 + 1 ≤ nn ∧ i ≤ imps.length ∧ ∀ q (h : q < imps.length), q < i → decide (imps[q].as_ = m1) = false)
    (fun i => imps.length - i) 0 (by simp [I]) ⟨by simp [set_ne, nn1, nn2, S], by simp [I, S, set_ne, n12], by simp [I, S], fun j hj => by rw [set_ne _ _ _ _ (by omega), set_ne _ _ _ _ (by omega), set_ne _ _ _ _ (by omega)], by omega, by omega, fun q h hq0 => by omega⟩ ?_
  rintro i mm nn ⟨e0, e1, e2, frm, hn, le, hno⟩
  by_cases c : (i : Int) < imps.length
  · have c' : i < imps.length := by omega
    have wi : IntKind.i64.wrap ((i : Int) + 1) = (i : Int) + 1 := wrap_i64 (by omega) (by omega)
    have hiI : i < IL.length := by omega
    have g1 : IL[i] = impD imps[i] := get_opt (hG i c') hiI
    have a1 : nn ≠ n := by omega
    have a2 : n ≠ nn := by omega
    have a3 : nn ≠ n + 1 := by omega
    have a4 : n + 1 ≠ nn := by omega
    have a5 : nn ≠ n + 1 + 1 := by omega
    have a6 : n + 1 + 1 ≠ nn := by omega
    by_cases ca : imps[i].as_ = m1
    · have hraw : rawF imps env m1 n1 = ofF ((findF env imps[i]).getD Ifc0).types n1 := by
        rw [rawF, find_at c' (by simpa using ca) hno]; rfl
      rw [hraw]
      clear hraw hno
      have hF1 := hF imps[i]
      clear hF
      generalize imps[i] = x at g1 ca hF1 ⊢
      have hfs : findI (forI x) env < 0 ∨ 0 ≤ findI (forI x) env := by omega
      have hff : findF env x = env.find? (forI x) := rfl
      rw [hff]
      have hx4 : impD x = [S x.pkg, I x.major, S x.mod, S x.as_] := rfl
      rw [hx4] at g1
      have ca' : (x.as_ != m1) = false := by simp [ca]
      have ca2 : (x.as_ == m1) = true := by simp [ca]
      rcases hfs with hneg | hpos
      · rw [findI_none hneg]
        have hge := findI_le (forI x) env
        have hz : findI (forI x) env = -1 := by omega
        rw [hz] at hF1
        simp -dsimp [I, S, Tt, set_ne, a1, a2, a3, a4, a5, a6, e0, e1, e2, c, c', hiI, g1, hL, ca', ca2, ca]
        refine pcall hF1 ?_
        simp -dsimp [I, S, Tt, set_ne, a1, a2, a3, a4, a5, a6, e0, e1, e2]
        exact pcp pub_th0 (fun j hj => by rw [set_ne _ _ _ _ (by omega), set_ne _ _ _ _ (by omega)]; exact frm j hj)
      · obtain ⟨k, hk, hk1, hk2⟩ := findI_some hpos
        rw [hk2]
        rw [hk1] at hF1
        simp only [Option.getD_some]
        have hmem := List.getElem_mem hk
        have hkE : k < EL.length := by omega
        have hgk : EL[k] = ifD env[k] := get_opt (hEG k hk) hkE
        have hkm : ifD env[k] = [S env[k].pkg, I env[k].major, S env[k].mod, .sl 8 (env[k].types.map nnD), .sl 8 (env[k].vals.map nnD)] := rfl
        have hwk := (hw _ hmem).h3
        have hfk := fewE_mem hf _ hmem
        have k0 : ¬ ((k : Int) < 0) := by omega
        have kI : (k : Int) < env.length := by omega
        have hO := cROf8 (l := env[k].types) (by have := hfk.1; omega) n1
        have hfm := hfk.2.2.1
        clear hfk
        generalize env[k].types = TT at hkm hwk hO hfm ⊢
        have hTL : (TT.map nnD).length = TT.length := by simp
        have hTG : ∀ i (h : i < TT.length), (TT.map nnD)[i]? = some (nnD TT[i]) := fun i h => by simp [h]
        generalize TT.map nnD = TL at hkm hO hTL hTG
        generalize env[k].vals.map nnD = VL at hkm
        have hof : ofF TT n1 = (TT.find? fun x => decide (x.1 = n1)).map (·.2) := rfl
        rw [hof]
        have hfs : findI (fun x : Nm => decide (x.1 = n1)) TT < 0 ∨ 0 ≤ findI (fun x : Nm => decide (x.1 = n1)) TT := by omega
        rcases hfs with hneg | hpos2
        · rw [findI_none hneg]
          have hge := findI_le (fun x : Nm => decide (x.1 = n1)) TT
          have hz : findI (fun x : Nm => decide (x.1 = n1)) TT = -1 := by omega
          rw [hz] at hO
          simp -dsimp [I, S, Tt, set_ne, a1, a2, a3, a4, a5, a6, e0, e1, e2, c, c', hiI, g1, hL, ca', ca2, ca]
          refine pcall hF1 ?_
          simp -dsimp [I, S, Tt, set_ne, a1, a2, a3, a4, a5, a6, e0, e1, e2, k0]
          refine vdraw_tree [0, 0, 3, 7, 15, 0, 32, 127, 255] (.rd 0 (.rd 1 (.rd 2 (.rd 3 (.rd 4 (.rd 5 (.rd 6 (.wr (.cons 7 (.rd 8 (.fin)) (.nil)))))))))) (by kernel_rfl) (by kernel_rfl) ?_
          simp -dsimp [I, S, Tt, set_ne, a1, a2, a3, a4, a5, a6, e0, e1, e2, k0, kI, hk, hEL, hkE, hgk, hkm]
          refine pcall hO ?_
          simp -dsimp [I, S, Tt, set_ne, a1, a2, a3, a4, a5, a6, e0, e1, e2]
          exact pcp pub_th0 (fun j hj => by rw [set_ne _ _ _ _ (by omega), set_ne _ _ _ _ (by omega)]; exact frm j hj)
        · obtain ⟨q, hq, hq1, hq2⟩ := findI_some hpos2
          rw [hq2]
          rw [hq1] at hO
          simp only [Option.map_some]
          have hmq := List.getElem_mem hq
          have hqT : q < TL.length := by omega
          have hgq : TL[q] = nnD TT[q] := get_opt (hTG q hq) hqT
          have hqm : nnD TT[q] = S TT[q].1 :: tyD TT[q].2 := rfl
          have q0 : ¬ ((q : Int) < 0) := by omega
          have qI : (q : Int) < TT.length := by omega
          have hM : Pc Tryz.prog 31 [.agg (tyD TT[q].2)] (Tt (mayT TT[q].2)) := fun m n => cRMay (hwk _ hmq).h2 (by have := hfm _ hmq; omega) m n
          have hPl := cRPlain (hwk _ hmq).h2
          have hpu := pur_thD (some TT[q].2)
          simp only [thD, Option.getD_some, Option.any_some, plainM] at hpu ⊢
          generalize mayT TT[q].2 = b1 at hM hpu ⊢
          generalize plainT TT[q].2 = b2 at hPl hpu ⊢
          have zo := tyD_len TT[q].2
          generalize tyD TT[q].2 = XX at hqm hM hPl zo hpu ⊢
          have to : List.take 7 XX = XX := List.take_of_length_le (by omega)
          have q1 : nn + 1 ≠ n := by omega
          have q2 : n ≠ nn + 1 := by omega
          have q3 : nn + 1 ≠ n + 1 := by omega
          have q4 : n + 1 ≠ nn + 1 := by omega
          have q5 : nn + 1 ≠ n + 1 + 1 := by omega
          have q6 : n + 1 + 1 ≠ nn + 1 := by omega
          have q7 : nn + 1 ≠ nn := by omega
          have q8 : nn ≠ nn + 1 := by omega
          simp -dsimp [I, S, Tt, set_ne, a1, a2, a3, a4, a5, a6, e0, e1, e2, c, c', hiI, g1, hL, ca', ca2, ca]
          refine pcall hF1 ?_
          simp -dsimp [I, S, Tt, set_ne, a1, a2, a3, a4, a5, a6, e0, e1, e2, k0]
          refine vdraw_tree [0, 0, 3, 7, 15, 0, 32, 127, 255] (.rd 0 (.rd 1 (.rd 2 (.rd 3 (.rd 4 (.rd 5 (.rd 6 (.wr (.cons 7 (.rd 8 (.fin)) (.nil)))))))))) (by kernel_rfl) (by kernel_rfl) ?_
          simp -dsimp [I, S, Tt, set_ne, a1, a2, a3, a4, a5, a6, e0, e1, e2, k0, kI, hk, hEL, hkE, hgk, hkm]
          refine pcall hO ?_
          simp -dsimp [I, S, Tt, set_ne, a1, a2, a3, a4, a5, a6, q1, q2, q3, q4, q5, q6, q7, q8, e0, e1, e2, k0, kI, hk, hEL, hkE, hgk, hkm, q0, qI, hq, hTL, hqT, hgq, hqm, zo, to]
          refine pcall hM ?_
          cases b1 with
          | false =>
            simp -dsimp [I, S, Tt, set_ne, a1, a2, a3, a4, a5, a6, q1, q2, q3, q4, q5, q6, q7, q8, e0, e1, e2, zo, to]
            exact pcp hpu.pub (fun j hj => by rw [set_ne _ _ _ _ (by omega), set_ne _ _ _ _ (by omega), set_ne _ _ _ _ (by omega)]; exact frm j hj)
          | true =>
            simp -dsimp [I, S, Tt, set_ne, a1, a2, a3, a4, a5, a6, q1, q2, q3, q4, q5, q6, q7, q8, e0, e1, e2, zo, to]
            refine pcall hPl ?_
            simp -dsimp [I, S, Tt, set_ne, a1, a2, a3, a4, a5, a6, q1, q2, q3, q4, q5, q6, q7, q8, e0, e1, e2, zo, to]
            exact pcp (by rw [Bool.true_and] at hpu; exact hpu.pub) (fun j hj => by rw [set_ne _ _ _ _ (by omega), set_ne _ _ _ _ (by omega), set_ne _ _ _ _ (by omega)]; exact frm j hj)
    · have hnext : ∀ q (h : q < imps.length), q < i + 1 → decide (imps[q].as_ = m1) = false := fun q h hq0 => by
        rcases Nat.lt_or_eq_of_le (show q ≤ i by omega) with c | c
        · exact hno q h c
        · subst c; simpa using ca
      generalize imps[i] = x at g1 ca
      obtain ⟨p2, j2, m2, a2'⟩ := x
      have ca' : (a2' == m1) = false := by simpa using ca
      simp only [impD] at g1
      simp -dsimp [I, S, Tt, set_ne, a1, a2, a3, a4, a5, a6, e0, e1, e2, c, c', hiI, g1, hL, ca', wi]
      exact rnd (i + 1) (by omega) (by simp [I]) ⟨by rw [set_ne _ _ _ _ a2, e0], by rw [set_ne _ _ _ _ a4, e1], by rw [set_ne _ _ _ _ a6, e2], fun j hj => by rw [set_ne _ _ _ _ (by omega)]; exact frm j hj, by omega, by omega, hnext⟩
  · have hraw : rawF imps env m1 n1 = none := by
      rw [rawF, find_no fun j hj => hno j hj (by omega)]; rfl
    rw [hraw]
    simp -dsimp [I, S, Tt, set_ne, e0, e1, e2, c, hL]
    exact pcp pub_th0 (fun j hj => by rw [set_ne _ _ _ _ (by omega)]; exact frm j hj)
set_option maxHeartbeats 4000000 in
theorem cRLacks (hi : imps.length ≤ 1000000) (he : env.length ≤ 1000000) (hw : ∀ f ∈ env, IfcW f) (hf : fewE env = true) {l : List Ty} (hl : l.length ≤ 1000000) :
    Pc Tryz.prog 77 [.agg (mdX md imps), .sl 5 (env.map ifD), .sl 7 (l.map tyD)] (Tt (!l.all (hadT imps env))) := by
  refine pc_of (pur_T _) (fun m n => ?_)
  have hT := fun t => cRThere (md := md) hi he hw hf t
  have hL : (l.map tyD).length = l.length := by simp
  have hG : ∀ i (h : i < l.length), (l.map tyD)[i]? = some (tyD l[i]) := fun i h => by simp [h]
  have hmz : (mdX md imps).length = 3 := rfl
  generalize mdX md imps = MM at hT hmz
  have hmt : List.take 3 MM = MM := List.take_of_length_le (by omega)
  generalize env.map ifD = EL at hT
  generalize l.map tyD = LL at hL hG
  refine acalls_vc [0, 1, 2, 3, 6, 7, 9, 13, 21, 33] Tryz.func77 Tryz.ntmps77 (by kernel_rfl) rfl rfl (by simp) ?_
  simp -dsimp [I, S, Tt, hmz, hmt]
  refine vloop_as (β := Nat) (fun i => [(1, .sl 5 EL), (2, .sl 7 LL), (3, .ptr n 0 0 0), (7, I i)]) (fun i mm nn => mm n = some ⟨3, [MM], 0⟩ ∧ (∀ j, j < n → mm j = m j) ∧ n + 1 ≤ nn ∧ i ≤ l.length ∧ ∀ x ∈ l.take i, hadT imps env x = true) (fun i => l.length - i) 0 (by simp [I]) ⟨by simp, fun j hj => set_ne _ _ _ _ (by omega), by omega, by omega, by simp⟩ ?_
  rintro i mm nn ⟨e0, frm, hn, le, al⟩
  by_cases c : (i : Int) < l.length
  · have c' : i < l.length := by omega
    have wi : IntKind.i64.wrap ((i : Int) + 1) = (i : Int) + 1 := wrap_i64 (by omega) (by omega)
    have hiL : i < LL.length := by omega
    have g1 : LL[i] = tyD l[i] := get_opt (hG i c') hiL
    have hTi := hT l[i]
    have hbad : hadT imps env l[i] = false → l.all (hadT imps env) = false := fun h => List.all_eq_false.2 ⟨_, List.getElem_mem c', by simp [h]⟩
    have nx := fun h => all_next (q := hadT imps env) c' al h
    have hh : hadT imps env l[i] = (decide (l[i].mod = []) || (rawF imps env l[i].mod l[i].name).any plainM) := rfl
    clear al hT
    generalize hadT imps env l[i] = R at hbad nx hh
    generalize rawF imps env l[i].mod l[i].name = O at hTi hh
    simp only [thD] at hTi
    generalize O.any plainM = b2 at hTi hh
    have z2 := tyD_len (O.getD Ty0)
    generalize tyD (O.getD Ty0) = YY at hTi z2
    have t2 : List.take 7 YY = YY := List.take_of_length_le (by omega)
    have hm1 : ∃ k p j nm na sa, tyD l[i] = [k, p, j, S l[i].mod, nm, na, sa] := by
      rcases l[i] with ⟨k1, p1, j1, m1, n1, na, sa⟩
      simp only [tyD, Ty.mod]
      exact ⟨_, _, _, _, _, _, rfl⟩
    obtain ⟨x1, x2, x3, x5, x6, x7, hty⟩ := hm1
    rw [hty] at hTi g1
    generalize l[i].mod = md1 at hTi g1 hh
    have a1 : nn ≠ n := by omega
    have a2 : n ≠ nn := by omega
    have frn : ∀ o j, j < n → (mm.set nn o) j = m j := fun o j hj => by rw [set_ne _ _ _ _ (by omega)]; exact frm j hj
    by_cases cm : md1 = []
    · subst cm
      simp -dsimp [I, S, Tt, e0, c, c', hiL, g1, hL, wi]
      exact rnd (i + 1) (by omega) (by simp [I]) ⟨e0, frm, hn, by omega, nx (by rw [hh]; simp)⟩
    · have d1 : (md1 == []) = false := by simpa using cm
      simp -dsimp [I, S, Tt, e0, c, c', hiL, g1, hL, d1, cm]
      refine vdraw_tree [0, 0, 0, 0, 12, 28, 63, 127, 255, 255, 0, 1535, 4095] (.rd 0 (.rd 1 (.rd 2 (.rd 3 (.rd 4 (.rd 5 (.wr (.cons 6 (.rd 7 (.rd 8 (.rd 9 (.wr (.cons 10 (.wr (.cons 11 (.rd 12 (.fin)) (.nil))) (.nil)))))) (.cons 10 (.wr (.cons 6 (.rd 7 (.rd 8 (.rd 9 (.wr (.cons 11 (.rd 12 (.fin)) (.nil)))))) (.nil))) (.nil)))))))))) (by kernel_rfl) (by kernel_rfl) ?_
      simp -dsimp [I, S, Tt, e0, c, c', hiL, g1, hL, d1, cm, hmz, hmt, set_ne, a1, a2]
      refine ⟨?_, ?_⟩
      all_goals refine pcall hTi ?_
      all_goals simp -dsimp [I, S, Tt, e0, z2, t2, set_ne, a1, a2]
      all_goals cases b2 with
        | false =>
          simp -dsimp [I, S, Tt]
          exact pcq (by rw [hbad (by rw [hh]; simp [cm])]; rfl) (frn _)
        | true =>
          simp -dsimp [I, S, Tt, wi]
          exact rnd (i + 1) (by omega) (by simp [I]) ⟨by rw [set_ne _ _ _ _ a2]; exact e0, frn _, by omega, by omega, nx (by rw [hh]; simp)⟩
  · simp -dsimp [I, S, Tt, c, hL]
    exact pcq (by rw [all_fin (by omega) al]; rfl) frm
end
end Go.Proofs.Mv.App
open Go Go.Proofs Go.Proofs.Mv.V
set_option maxRecDepth 10000
namespace Go.Proofs.Mv.App
def exRD (r : Ty × Int) : D := .tup [.agg (tyD r.1), I r.2]
def RExC (md : List UInt8) (imps : List Imp) (pkg : List UInt8) (major : Int) (env : List Ifc) (g : Ty → Int → ExS → Ty × ExS) (t : Ty) : Prop :=
  ∀ (most depth : Int), 0 ≤ most → most ≤ 1000000 → 0 ≤ depth → depth ≤ 1000000 → Pc Tryz.prog 78 [.agg (mdX md imps), S pkg, I major, .sl 5 (env.map ifD), .agg (tyD t), I most, I depth] (exRD (exR g t most depth))
theorem pub_ex0 {n : Nat} {m : Mem} : PubAs n m (.tup [.agg [I 0, S [], I 0, S [], S [], .v (.slice none 0 0), .v (.slice none 0 0)], I 0]) (exRD (Ty0, 0)) :=
  .tup (.cons pub_ty0X (.cons (pur_I _).pub .nil))
structure ExInv (g : Ty → Int → ExS → Ty × ExS) (subs : List Ty) (most depth : Int) (kind : Int) (pk : List UInt8) (mj : Int) (mo nm : List UInt8) (MM : List D) (NL SL : List (List D)) (m : Mem) (n : Nat) (b : Nat × Int) (mm : Mem) (nn : Nat) : Prop where
  e0 : mm n = some ⟨3, [MM], 0⟩
  e1 : mm (n + 1) = some ⟨7, [[I kind, S pk, I mj, S mo, S nm, .sl 1 NL, .sl 7 SL]], 0⟩
  e2 : mm (n + 1 + 1) = some ⟨7, [[I 0, S [], I 0, S [], S [], .v (.slice none 0 0), .v (.slice none 0 0)]], 0⟩
  ex : ∃ dN dS, mm (n + 1 + 1 + 1) = some ⟨7, [[I kind, S pk, I mj, S mo, S nm, dN, dS]], 0⟩ ∧ Lst mm 1 NL dN ∧ (∀ j, kof dN = some j → n + 1 + 1 + 1 + 1 ≤ j ∧ j < nn) ∧ Lst mm 7 ((exTs g (subs.take b.1) (33 - depth + 1) (most - 1, false)).1.map tyD) dS ∧ ∀ j, kof dS = some j → n + 1 + 1 + 1 + 1 ≤ j ∧ j < nn ∧ kof dN ≠ some j
  fr : ∀ j, j < n → mm j = m j
  nn : n + 1 + 1 + 1 + 1 ≤ nn
  le : b.1 ≤ subs.length
  q1 : 1 ≤ b.2
  q2 : b.2 ≤ most
  st : (exTs g (subs.take b.1) (33 - depth + 1) (most - 1, false)).2 = (most - b.2, false)
section
variable {md : List UInt8} {imps : List Imp} {pkg : List UInt8} {major : Int} {env : List Ifc}
set_option maxHeartbeats 2000000 in
theorem cRExpandG {q : Ty → Bool} {g : Ty → Int → ExS → Ty × ExS} (hl : GLg q g) (hk : GOkP q g) (H : ∀ l, q l = true → TyW l → l.kind = 8 → RExC md imps pkg major env g l) {t : Ty} (ht : TyW t) :
    allT t = true → eachT q t = true → RExC md imps pkg major env g t := by
  induction ht with
  | mk kind pk mj mo nm names subs l1 l2 l3 l4 l5 l6 l7 ih =>
    intro ha he most depth b1 b2 b3 b4
    by_cases k8 : kind = 8
    · exact H _ (by rw [eachT, Bool.and_eq_true] at he; have := he.1; simpa [k8] using this) (.mk _ _ _ _ _ _ _ l1 l2 l3 l4 l5 l6 l7) k8 most depth b1 b2 b3 b4
    have hsh : shapeK (.mk kind pk mj mo nm names subs) = true := by
      rw [allT_eq] at ha; simp only [Bool.and_eq_true] at ha; exact (shape_parts ha.1).2
    have hsl : subs.length ≤ 20 := by
      rw [allT_eq] at ha; simp only [Bool.and_eq_true] at ha; exact (shape_parts ha.1).1
    have hnl := names_le hsh
    simp only [Ty.names, Ty.subs] at hnl
    have has : ∀ x ∈ subs, allT x = true := by
      rw [allT_eq] at ha; simp only [Bool.and_eq_true, List.all_eq_true] at ha; exact ha.2
    have hes : eachTs q subs = true := by rw [eachT, Bool.and_eq_true] at he; exact he.2
    refine pc_pub (fun m n => ?_)
    have hzero : (most < 1 ∨ depth < 1) → exR g (.mk kind pk mj mo nm names subs) most depth = (Ty0, 0) := fun h => by
      unfold exR
      rw [exT, if_neg k8, if_pos (show (most, false).2 = true ∨ (most, false).1 - 1 < 0 ∨ 32 < 33 - depth by simp only; omega)]
      simp
    have hgo : 1 ≤ most → 1 ≤ depth → exT g (.mk kind pk mj mo nm names subs) (33 - depth) (most, false) = (.mk kind pk mj mo nm names (exTs g subs (33 - depth + 1) (most - 1, false)).1, (exTs g subs (33 - depth + 1) (most - 1, false)).2) := fun h1 h2 => by
      rw [exT, if_neg k8, if_neg (by simp only [Bool.false_eq_true, false_or]; omega)]
    have n01 : n ≠ n + 1 := by omega
    have n10 : n + 1 ≠ n := by omega
    have n02 : n ≠ n + 1 + 1 := by omega
    have n20 : n + 1 + 1 ≠ n := by omega
    have n12 : n + 1 ≠ n + 1 + 1 := by omega
    have n21 : n + 1 + 1 ≠ n + 1 := by omega
    have n03 : n ≠ n + 1 + 1 + 1 := by omega
    have n30 : n + 1 + 1 + 1 ≠ n := by omega
    have n13 : n + 1 ≠ n + 1 + 1 + 1 := by omega
    have n31 : n + 1 + 1 + 1 ≠ n + 1 := by omega
    have n23 : n + 1 + 1 ≠ n + 1 + 1 + 1 := by omega
    have n32 : n + 1 + 1 + 1 ≠ n + 1 + 1 := by omega
    have n04 : n ≠ n + 1 + 1 + 1 + 1 := by omega
    have n40 : n + 1 + 1 + 1 + 1 ≠ n := by omega
    have n14 : n + 1 ≠ n + 1 + 1 + 1 + 1 := by omega
    have n41 : n + 1 + 1 + 1 + 1 ≠ n + 1 := by omega
    have n24 : n + 1 + 1 ≠ n + 1 + 1 + 1 + 1 := by omega
    have n42 : n + 1 + 1 + 1 + 1 ≠ n + 1 + 1 := by omega
    have n34 : n + 1 + 1 + 1 ≠ n + 1 + 1 + 1 + 1 := by omega
    have n43 : n + 1 + 1 + 1 + 1 ≠ n + 1 + 1 + 1 := by omega
    have k8' : (kind == 8) = false := by simpa using k8
    have hIH : ∀ i (h : i < subs.length), RExC md imps pkg major env g subs[i] := fun i h => ih _ (List.getElem_mem h) (has _ (List.getElem_mem h)) (eachTs_get hes h)
    clear ih H
    simp only [RExC] at hIH
    have hL : (subs.map tyD).length = subs.length := by simp
    have hG : ∀ i (h : i < subs.length), (subs.map tyD)[i]? = some (tyD subs[i]) := fun i h => by simp [h]
    have hLN : (names.map fun s => [S s]).length = names.length := by simp
    have hPN := pur_ss (l := names)
    have hmz : (mdX md imps).length = 3 := rfl
    generalize mdX md imps = MM at hIH hmz
    have hmt : List.take 3 MM = MM := List.take_of_length_le (by omega)
    generalize env.map ifD = EL at hIH
    have hres : ∀ s' : List Ty, tyD (.mk kind pk mj mo nm names s') = [I kind, S pk, I mj, S mo, S nm, .sl 1 (names.map fun s => [S s]), .sl 7 (s'.map tyD)] := fun s' => by simp only [tyD, tysD_eq, sl1]
    rw [hres subs]
    generalize (names.map fun s => [S s]) = NL at hLN hPN hres
    generalize subs.map tyD = SL at hL hG
    refine acalls_vcC [0, 1, 2, 3, 4, 5, 6, 7, 11, 14, 15, 16, 18, 19, 20, 21, 22, 23, 26, 29, 57, 81, 94, 116] Tryz.func78 Tryz.ntmps78 (by kernel_rfl) rfl rfl (by simp) ?_
    by_cases c1 : most < 1
    · rw [hzero (.inl c1)]
      simp -dsimp [I, S, Tt, set_ne, n01, n10, n02, n20, n12, n21, k8', hmz, hmt, c1]
      exact pcp pub_ex0 fun j hj => by repeat rw [set_ne _ _ _ _ (by omega)]
    by_cases c2 : depth < 1
    · rw [hzero (.inr c2)]
      simp -dsimp [I, S, Tt, set_ne, n01, n10, n02, n20, n12, n21, k8', hmz, hmt, c1, c2]
      exact pcp pub_ex0 fun j hj => by repeat rw [set_ne _ _ _ _ (by omega)]
    have hgo := hgo (by omega) (by omega)
    have wd : IntKind.i64.wrap (depth - 1) = depth - 1 := wrap_i64 (by omega) (by omega)
    simp -dsimp [I, S, Tt, set_ne, n01, n10, n02, n20, n12, n21, n03, n30, n13, n31, n23, n32, n04, n40, n14, n41, n24, n42, n34, n43, k8', hmz, hmt, c1, c2, hLN, -vc_block]
    rw [vc_block]
    simp -dsimp [I, S, Tt, set_ne, n01, n10, n02, n20, n12, n21, n03, n30, n13, n31, n23, n32, n04, n40, n14, n41, n24, n42, n34, n43, k8', hmz, hmt, c1, c2, hLN, -vc_block]
    refine ⟨by omega, ?_⟩
    refine vloop_as (β := Nat × Int) (fun b => [(1, S pkg), (2, I major), (3, .sl 5 EL), (5, I most), (6, I depth), (7, .ptr n 0 0 0), (11, .ptr (n + 1) 0 0 0), (14, .ptr (n + 1 + 1) 0 0 0), (19, .ptr (n + 1 + 1 + 1) 0 0 0), (20, I b.2), (21, I b.1)])
      (ExInv g subs most depth kind pk mj mo nm MM NL SL m n)
      (fun b => subs.length - b.1) (0, 1) (by simp [I, S]) ⟨by simp [set_ne, n01, n02, n03, n04], by simp [set_ne, n12, n13, n14, I, S], by simp [set_ne, n23, n24, I, S],
        ⟨.own (n + 1 + 1 + 1 + 1) 1 0 names.length 1, .v (.slice none 0 0), by simp [I, S], Lst.mk (es' := NL) (by simp [set_ne, n43]) (by omega) (by omega) (List.take_of_length_le (by omega)), fun j hj => by rw [kof_own] at hj; obtain rfl := Option.some.inj hj; omega, by simpa [exTs] using Lst.nil, by simp⟩,
        fun j hj => by repeat rw [set_ne _ _ _ _ (by omega)], by omega, by simp, by simp, by simp only; omega, by simp [exTs]⟩ ?_
    rintro ⟨i, cn⟩ mm nn ⟨e0, e1, e2, ⟨dN, dS, e3, hN, kN, hS, kS⟩, frm, hn, le, q1, q2, hst⟩
    simp only at le q1 q2 hst hS
    have okN := okD_lst hN
    have okS := okD_lst hS
    by_cases c : (i : Int) < subs.length
    · have c' : i < subs.length := by omega
      have wi : IntKind.i64.wrap ((i : Int) + 1) = (i : Int) + 1 := wrap_i64 (by omega) (by omega)
      have wm : IntKind.i64.wrap (most - cn) = most - cn := wrap_i64 (by omega) (by omega)
      have hiN : i < SL.length := by omega
      have hgi : SL[i] = tyD subs[i] := get_opt (hG i c') hiN
      have hc := hIH i c' (most - cn) (depth - 1) (by omega) (by omega) (by omega) (by omega)
      have e33 : 33 - (depth - 1) = 33 - depth + 1 := by omega
      have hsn := exTs_snoc g subs[i] (33 - depth + 1) (subs.take i) (most - 1, false)
      rw [← List.take_succ_eq_append_getElem c', hst] at hsn
      have hsm := fun h => exR_some (depth := depth - 1) (most := most - cn) hl hk (eachTs_get hes c') (has _ (List.getElem_mem c')) h
      have htk := fun h => exT_take (dp := 33 - depth + 1) (st := (most - 1, false)) hl hes (i + 1) h
      rw [hsn] at htk
      simp only [exR, e33] at hc hsm
      have h7 := tyD_len subs[i]
      generalize exT g subs[i] (33 - depth + 1) (most - cn, false) = R at hc hsn hsm htk
      generalize tyD subs[i] = TT at h7 hgi hc
      have ht7 : List.take 7 TT = TT := List.take_of_length_le (by omega)
      have a1 : nn ≠ n := by omega
      have a2 : n ≠ nn := by omega
      have a3 : nn ≠ n + 1 := by omega
      have a4 : n + 1 ≠ nn := by omega
      have a5 : nn ≠ n + 1 + 1 := by omega
      have a6 : n + 1 + 1 ≠ nn := by omega
      have a7 : nn ≠ n + 1 + 1 + 1 := by omega
      have a8 : n + 1 + 1 + 1 ≠ nn := by omega
      simp -dsimp [I, S, Tt, c, c', e0, e1, e2, e3, hL, hiN, hgi, h7, ht7, hmz, hmt, wm, wd, set_ne, a1, a2, a3, a4, a5, a6, a7, a8, okN, okS, -vc_block]
      rw [vc_block]
      simp -dsimp [I, S, Tt, c, c', e0, e1, e2, e3, hL, hiN, hgi, h7, ht7, hmz, hmt, wm, wd, set_ne, a1, a2, a3, a4, a5, a6, a7, a8, okN, okS, -vc_block]
      refine vdraw_treeM (.rd 0 (.rd 1 (.rd 2 (.rd 3 (.rd 4 (.rd 5 (.rd 6 (.rd 7 (.rd 8 (.rd 9 (.rd 10 (.rd 11 (.rd 12 (.rd 13 (.wr (.cons 14 (.rd 15 (.rd 16 (.rd 17 (.wr (.cons 18 (.wr (.cons 19 (.rd 20 (.fin)) (.nil))) (.nil)))))) (.cons 18 (.wr (.cons 14 (.rd 15 (.rd 16 (.rd 17 (.wr (.cons 19 (.rd 20 (.fin)) (.nil)))))) (.nil))) (.nil)))))))))))))))))) (by kernel_rfl) (by kernel_rfl) ?_; intro mk
      simp -dsimp [I, S, Tt, c, c', e0, e1, e2, e3, hL, hiN, hgi, h7, ht7, hmz, hmt, wm, wd, set_ne, a1, a2, a3, a4, a5, a6, a7, a8, okN, okS, -vc_block]
      have frn : ∀ o j, j < n → (mm.set nn o) j = m j := fun o j hj => by rw [set_ne _ _ _ _ (by omega)]; exact frm j hj
      by_cases hR : R.2.2 = true
      · rw [if_pos hR] at hc
        have hz : exR g (.mk kind pk mj mo nm names subs) most depth = (Ty0, 0) := by
          unfold exR; rw [hgo, if_pos (htk hR)]
        rw [hz]
        simp only [exRD] at hc
        have zY := tyD_len Ty0
        generalize tyD Ty0 = YY at hc zY
        have tY : List.take 7 YY = YY := List.take_of_length_le (by omega)
        refine ⟨?_, ?_⟩
        all_goals refine pcall hc ?_
        all_goals simp -dsimp [I, S, Tt, c, c', e0, e1, e2, e3, hL, hiN, hgi, h7, ht7, hmz, hmt, wm, wd, set_ne, a1, a2, a3, a4, a5, a6, a7, a8, n01, n10, n02, n20, n12, n21, n03, n30, n13, n31, n23, n32, okN, okS, zY, tY, -vc_block]
        all_goals exact pcp pub_ex0 fun j hj => by rw [set_ne _ _ _ _ (by omega)]; exact frn _ j hj
      · rw [if_neg hR] at hc
        obtain ⟨s1, s2⟩ := hsm hR
        simp only [exRD] at hc
        have hkd : ∃ kk, kk = most - cn - R.2.1 := ⟨_, rfl⟩
        obtain ⟨kk, hkk⟩ := hkd
        rw [← hkk] at hc s1
        have k0 : (kk == 0) = false := by simp; omega
        have k0' : ¬ kk = 0 := by omega
        have wk : IntKind.i64.wrap (cn + kk) = cn + kk := wrap_i64 (by omega) (by omega)
        have zY := tyD_len R.1
        have pY := pur_ty R.1
        have hsn1 : (exTs g (subs.take (i + 1)) (33 - depth + 1) (most - 1, false)).1.map tyD = (exTs g (subs.take i) (33 - depth + 1) (most - 1, false)).1.map tyD ++ [tyD R.1] := by rw [hsn]; simp
        have hsn2 : (exTs g (subs.take (i + 1)) (33 - depth + 1) (most - 1, false)).2 = (most - (cn + kk), false) := by
          rw [hsn]
          have : R.2.2 = false := by simpa using hR
          rw [show most - (cn + kk) = R.2.1 by omega, ← this]
        have hln : (exTs g (subs.take i) (33 - depth + 1) (most - 1, false)).1.length = i := by rw [exTs_len, List.length_take]; omega
        generalize tyD R.1 = YY at hc zY pY hsn1
        have tY : List.take 7 YY = YY := List.take_of_length_le (by omega)
        refine ⟨?_, ?_⟩
        all_goals
          refine pcall hc ?_
          simp -dsimp [I, S, Tt, c, c', e0, e1, e2, e3, hL, hiN, hgi, h7, ht7, hmz, hmt, wm, wd, set_ne, a1, a2, a3, a4, a5, a6, a7, a8, k0, k0', n01, n10, n02, n20, n12, n21, n03, n30, n13, n31, n23, n32, okN, okS, zY, tY, -vc_block]
          refine b4_append (hS.frame fun j hj => by have := kS j hj; rw [set_ne _ _ _ _ (by omega), set_ne _ _ _ _ (by omega)]) (fun j hj => by have := kS j hj; omega) trivial trivial (by omega) (by simp [hln]; omega) ?_
          intro d5 m5 n5 p1 p2 p3 p4
          have nd : ∀ j, j < n + 1 + 1 + 1 + 1 → kof dS ≠ some j := fun j hj e => by have := kS j e; omega
          have f0 : m5 n = some ⟨3, [MM], 0⟩ := by rw [p4 _ (by omega) (nd _ (by omega)), set_ne _ _ _ _ (by omega), set_ne _ _ _ _ a2]; exact e0
          have f1 : m5 (n + 1) = some ⟨7, [[I kind, S pk, I mj, S mo, S nm, .sl 1 NL, .sl 7 SL]], 0⟩ := by rw [p4 _ (by omega) (nd _ (by omega)), set_ne _ _ _ _ (by omega), set_ne _ _ _ _ a4]; exact e1
          have f2 : m5 (n + 1 + 1) = some ⟨7, [[I 0, S [], I 0, S [], S [], .v (.slice none 0 0), .v (.slice none 0 0)]], 0⟩ := by rw [p4 _ (by omega) (nd _ (by omega)), set_ne _ _ _ _ (by omega), set_ne _ _ _ _ a6]; exact e2
          have f3 : m5 (n + 1 + 1 + 1) = some ⟨7, [[I kind, S pk, I mj, S mo, S nm, dN, dS]], 0⟩ := by rw [p4 _ (by omega) (nd _ (by omega)), set_ne _ _ _ _ (by omega), set_ne _ _ _ _ a8]; exact e3
          have ok5 := okD_lst p1
          have hkd5 : ∀ j, kof d5 = some j → n + 1 + 1 + 1 + 1 ≤ j ∧ j < n5 ∧ kof dN ≠ some j := fun j hj => by
            have h := p3 j hj
            rcases h.2 with e | e
            · have := kS j e; exact ⟨by omega, by omega, this.2.2⟩
            · exact ⟨by omega, by omega, fun e' => by have := kN j e'; omega⟩
          simp -dsimp [I, S, Tt, f0, f1, f2, f3, ok5, wi, wk, set_ne, n01, n10, n02, n20, n12, n21, n03, n30, n13, n31, n23, n32, -vc_block]
          refine rnd (i + 1, cn + kk) (by simp only; omega) (by simp [I, S]) ⟨by rw [set_ne _ _ _ _ n03]; exact f0, by rw [set_ne _ _ _ _ n13]; exact f1, by rw [set_ne _ _ _ _ n23]; exact f2, ⟨dN, d5, by simp [I, S], hN.frame fun j hj => ?_, fun j hj => by have := kN j hj; omega, ?_, hkd5⟩, fun j hj => ?_, by omega, by simp only; omega, by simp only; omega, by simp only; omega, hsn2⟩
          all_goals first
            | (have h1 := kN j hj
               rw [set_ne _ _ _ _ (by omega), p4 j (by omega) (fun e => (kS j e).2.2 hj), set_ne _ _ _ _ (by omega), set_ne _ _ _ _ (by omega)])
            | (simp only
               rw [hsn1]
               exact p1.frame fun j hj => set_ne _ _ _ _ (by have := hkd5 j hj; omega))
            | (rw [set_ne _ _ _ _ (by omega), p4 j (by omega) (nd j (by omega)), set_ne _ _ _ _ (by omega), set_ne _ _ _ _ (by omega)]
               exact frm j hj)
    · have : i = subs.length := by omega
      subst this
      rw [List.take_length] at hS hst
      have hex : exR g (.mk kind pk mj mo nm names subs) most depth = (.mk kind pk mj mo nm names (exTs g subs (33 - depth + 1) (most - 1, false)).1, cn) := by
        unfold exR
        rw [hgo, hst]
        simp only [Bool.false_eq_true, if_false]
        rw [show most - (most - cn) = cn by omega]
      rw [hex]
      simp only [exRD]
      rw [hres]
      simp -dsimp [I, S, Tt, c, e0, e1, e2, e3, hL, okN, okS, set_ne]
      refine pcp ?_ fun j hj => by rw [set_ne _ _ _ _ (by omega)]; exact frm j hj
      exact .tup (.cons (.agg (.cons (pur_I _).pub (.cons (pur_S _).pub (.cons (pur_I _).pub (.cons (pur_S _).pub (.cons (pur_S _).pub (.cons (.lstP (hN.frame fun j hj => set_ne _ _ _ _ (by have := kN j hj; omega)) (fun j hj => by have := kN j hj; omega) hPN) (.cons (.lstP (hS.frame fun j hj => set_ne _ _ _ _ (by have := kS j hj; omega)) (fun j hj => by have := kS j hj; omega) pur_tyl) .nil)))))))) (.cons (pur_I _).pub .nil))
end
end Go.Proofs.Mv.App
