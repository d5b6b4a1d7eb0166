/- A part of the proofs of the seat YtgekkmmmidgkbaaGreatDoor: the abstract machine, the contracts of the functions, the laws. No condition of its own. -/
import Derived.Test.YtgekkmmmidgkbaaGreatDoorP11
set_option linter.unusedSimpArgs false
set_option linter.unusedVariables false
set_option linter.unusedSectionVars false
open Go Go.Proofs Go.Proofs.Mv.V
set_option maxRecDepth 10000
namespace Go.Proofs.Mv.App
variable [GI]
theorem cCloneS {l : List (List UInt8)} (hl : l.length ≤ 1000000) : Pc Tryz.prog 129 [sl1 l] (sl1 l) := by
  refine pc_pub (fun m n => ?_)
  cases l with
  | nil =>
    simp only [sl1, List.map_nil]
    refine acalls_vc [0, 2, 4] Tryz.func129 Tryz.ntmps129 (by kernel_rfl) rfl rfl (by simp) ?_
    simp -dsimp
    refine ⟨pcp (pub_nil 1) fun _ _ => rfl, pcp ?_ fun j hj => ?_⟩
    · exact .lst (Lst.own (es := []) (set_same _ _ _)) (fun k hk => by simp [kof] at hk; omega) .nil
    · exact set_ne _ _ _ _ (by omega)
  | cons a r =>
    have hp := pur_ss (l := a :: r)
    simp only [List.length_cons] at hl
    simp only [sl1, List.map_cons] at hp ⊢
    have hL : (r.map fun s => [S s]).length = r.length := by simp
    generalize (r.map fun s => [S s]) = RL at hp hL ⊢
    refine acalls_vc [0, 2, 4] Tryz.func129 Tryz.ntmps129 (by kernel_rfl) rfl rfl (by simp) ?_
    simp -dsimp
    refine ⟨by omega, pcp ?_ fun j hj => set_ne _ _ _ _ (by omega)⟩
    exact .lstP (.mk (set_same _ _ _) (by simp) (by simp) (by rw [List.take_of_length_le (by simp)])) (fun k hk => by simp [kof] at hk; omega) hp
theorem pur_exC (md : List UInt8) (imps : List Imp) (pkg : List UInt8) (major : Int) (env : List Ifc) (left : Int) (large : Bool) : ∀ d ∈ exC md imps pkg major env left large, Pur d := by
  intro d hd
  simp only [exC, List.mem_cons, List.not_mem_nil, or_false] at hd
  rcases hd with rfl | rfl | rfl | rfl | rfl | rfl | rfl | rfl
  · exact pur_S _
  · exact Pur.sl (fun e he d hd => by
      obtain ⟨i, _, rfl⟩ := List.mem_map.1 he
      simp only [impD, List.mem_cons, List.not_mem_nil, or_false] at hd
      rcases hd with rfl | rfl | rfl | rfl
      · exact pur_S _
      · exact pur_I _
      · exact pur_S _
      · exact pur_S _)
  · exact Pur.sl (by simp)
  · exact pur_S _
  · exact pur_I _
  · exact Pur.sl (fun e he d hd => by
      obtain ⟨i, _, rfl⟩ := List.mem_map.1 he
      exact pur_if i d hd)
  · exact pur_I _
  · exact pur_T _
section
variable (md : List UInt8) (imps : List Imp) (pkg : List UInt8) (major : Int) (env : List Ifc)
/-- A contract of typ, or local, at a type. -/
def ExpC (f : FuncId) (t : Ty) (F : Int → ExS → Ty × ExS) (w : Nat) : Prop :=
  ∀ (dp left : Int) (large : Bool) (k : Nat) (m : Mem) (n : Nat), k < n → m k = some (exO md imps pkg major env left large) → -1000000000 ≤ left - w → left ≤ 1000000000 → 1 ≤ dp → dp ≤ 100 →
    ACalls Tryz.prog f [.ptr k 0 0 0, .agg (tyD t), I dp] m n (fun d m' n' => d = .agg (tyD (F dp (left, large)).1) ∧ m' = m.set k (exO md imps pkg major env (F dp (left, large)).2.1 (F dp (left, large)).2.2) ∧ n' = n)
variable {md imps pkg major env}
set_option maxHeartbeats 8000000 in
theorem cTypX {q : Ty → Bool} {g : Ty → Int → ExS → Ty × ExS} {w : Ty → Nat} (hg : GOk q g w)
    (hl : ∀ l, q l = true → TyW l → ExpC md imps pkg major env 128 l (g l) (w l)) {t : Ty} (ht : TyW t) :
    allT t = true → eachT q t = true → ExpC md imps pkg major env 86 t (exT g t) (szE w t) := by
  induction ht with
  | mk kind pk mj mo nm names subs l1 l2 l3 l4 l5 l6 l7 ih =>
    intro ha hq dp left large k m n hk hm b1 b2 b3 b4
    have wt : TyW (.mk kind pk mj mo nm names subs) := .mk kind pk mj mo nm names subs l1 l2 l3 l4 l5 l6 l7
    refine acalls_put (X := fun d => d = .agg (tyD (exT g (.mk kind pk mj mo nm names subs) dp (left, large)).1)) (R' := Hq (fun d m' n' => PubAs n m' d (.agg (tyD (exT g (.mk kind pk mj mo nm names subs) dp (left, large)).1)) ∧ m' k = some (exO md imps pkg major env (exT g (.mk kind pk mj mo nm names subs) dp (left, large)).2.1 (exT g (.mk kind pk mj mo nm names subs) dp (left, large)).2.2) ∧ ∀ j, j < n → j ≠ k → m' j = m j) tg) k hk _ ?_ ?_
    case refine_2 =>
      rintro d m' n' ⟨h1, h2, h3⟩
      exact ⟨_, _, h1, h2, .pur (fun e he => by simp only [exO, List.mem_singleton] at he; subst he; exact pur_exC _ _ _ _ _ _ _), h3, rfl⟩
    have kn : k ≠ n := by omega
    have nk : n ≠ k := by omega
    have kn1 : k ≠ n + 1 := by omega
    have n1k : n + 1 ≠ k := by omega
    have kn2 : k ≠ n + 1 + 1 := by omega
    have n2k : n + 1 + 1 ≠ k := by omega
    have nn1 : n ≠ n + 1 := by omega
    have n1n : n + 1 ≠ n := by omega
    have nn2 : n ≠ n + 1 + 1 := by omega
    have n2n : n + 1 + 1 ≠ n := by omega
    have n12 : n + 1 ≠ n + 1 + 1 := by omega
    have n21 : n + 1 + 1 ≠ n + 1 := by omega
    rw [allT_eq, Bool.and_eq_true] at ha
    obtain ⟨ha1, ha2⟩ := ha
    obtain ⟨ls, hsh⟩ := shape_parts ha1
    have ln := names_le hsh
    simp only [Ty.subs, Ty.names] at ls ln ha2
    rw [eachT, Bool.and_eq_true] at hq
    obtain ⟨hq1, hq2⟩ := hq
    by_cases k8 : kind = 8
    · have hql : q (.mk kind pk mj mo nm names subs) = true := by simpa [k8] using hq1
      have e : exT g (.mk kind pk mj mo nm names subs) dp (left, large) = g (.mk kind pk mj mo nm names subs) dp (left, large) := by rw [exT, if_pos k8]
      rw [e]
      rw [szE, if_pos k8] at b1
      have hc := fun m n hk hm => hl _ hql wt dp left large k m n hk hm b1 b2 b3 b4
      generalize g (.mk kind pk mj mo nm names subs) dp (left, large) = G at hc ⊢
      have zz := tyD_len G.1
      have hpu : Pur (.agg (tyD G.1)) := pur_tyA _
      generalize tyD G.1 = XX at hc zz hpu ⊢
      have htz : List.take 7 XX = XX := List.take_of_length_le (by omega)
      simp only [tyD, sl1, tysD_eq] at hc ⊢
      generalize (names.map fun s => [S s]) = NL at hc ⊢
      generalize subs.map tyD = SL at hc ⊢
      subst k8
      generalize hO : exO md imps pkg major env G.2.1 G.2.2 = OO at hc ⊢
      refine acalls_vcC [0, 1, 2, 4, 6, 7, 9, 12, 32, 39, 48, 49, 50, 51] Tryz.func86 Tryz.ntmps86 (by kernel_rfl) rfl rfl (by simp) ?_
      simp -dsimp [I, S, Tt, set_ne, kn, nk, kn1, n1k, nn1, n1n]
      refine aCall_of (hc _ _ (by omega) (by simp [set_ne, kn, kn1, hm])) ?_
      rintro d m' n' ⟨rfl, rfl, rfl⟩
      simp -dsimp [I, S, Tt, set_ne, kn, nk, kn1, n1k, nn1, n1n, zz, htz]
      refine hq ⟨hpu.pub, by simp [set_ne, kn, kn1], fun j hj hjk => ?_⟩
      have j1 : j ≠ n := by omega
      have j2 : j ≠ n + 1 := by omega
      simp [set_ne, j1, j2, hjk]
    have k8' : (kind == 8) = false := by simpa using k8
    rw [szE, if_neg k8] at b1
    clear hl
    have hm' : m k = some ⟨8, [[S md, .sl 4 (imps.map impD), .sl 9 [], S pkg, I major, .sl 5 (env.map ifD), I left, Tt large]], 0⟩ := hm
    have wl : IntKind.i64.wrap (left - 1) = left - 1 := wrap_i64 (by omega) (by omega)
    have hZ : PubAs n m (.agg [I 0, S [], I 0, S [], S [], .v (.slice none 0 0), .v (.slice none 0 0)]) (.agg (tyD Ty0)) := pub_ty0
    by_cases tb : large = true ∨ left - 1 < 0 ∨ 32 < dp
    · have e : exT g (.mk kind pk mj mo nm names subs) dp (left, large) = (Ty0, (left - 1, true)) := by rw [exT, if_neg k8, if_pos tb]
      rw [e]
      simp only [tyD, sl1, tysD_eq]
      generalize (names.map fun s => [S s]) = NL
      generalize subs.map tyD = SL
      refine acalls_vcC [0, 1, 2, 4, 6, 7, 9, 12, 32, 39, 48, 49, 50, 51] Tryz.func86 Tryz.ntmps86 (by kernel_rfl) rfl rfl (by simp) ?_
      by_cases c1 : left - 1 < 0
      · simp -dsimp [I, S, Tt, set_ne, kn, nk, kn1, n1k, nn1, n1n, k8', hm', wl, c1]
        refine hq ⟨pub_ty0, by simp [set_ne, kn, kn1, exO, exC, I, S, Tt], fun j hj hjk => ?_⟩
        have j1 : j ≠ n := by omega
        have j2 : j ≠ n + 1 := by omega
        simp [set_ne, j1, j2, hjk]
      · by_cases c2 : 32 < dp
        · simp -dsimp [I, S, Tt, set_ne, kn, nk, kn1, n1k, nn1, n1n, k8', hm', wl, c1, c2]
          refine hq ⟨pub_ty0, by simp [set_ne, kn, kn1, exO, exC, I, S, Tt], fun j hj hjk => ?_⟩
          have j1 : j ≠ n := by omega
          have j2 : j ≠ n + 1 := by omega
          simp [set_ne, j1, j2, hjk]
        · have c3 : large = true := by rcases tb with h | h | h <;> first | exact h | (exfalso; omega)
          subst c3
          simp -dsimp [I, S, Tt, set_ne, kn, nk, kn1, n1k, nn1, n1n, k8', hm', wl, c1, c2]
          refine hq ⟨pub_ty0, by simp [set_ne, kn, kn1, exO, exC, I, S, Tt], fun j hj hjk => ?_⟩
          have j1 : j ≠ n := by omega
          have j2 : j ≠ n + 1 := by omega
          simp [set_ne, j1, j2, hjk]
    · have e : exT g (.mk kind pk mj mo nm names subs) dp (left, large) = (.mk kind pk mj mo nm names (exTs g subs (dp + 1) (left - 1, false)).1, (exTs g subs (dp + 1) (left - 1, false)).2) := by rw [exT, if_neg k8, if_neg tb]
      rw [e]
      have c1 : ¬ left - 1 < 0 := fun h => tb (.inr (.inl h))
      have c2 : ¬ 32 < dp := fun h => tb (.inr (.inr h))
      have c3 : large = false := by cases large <;> simp_all
      subst c3
      have hcl := cCloneS (l := names) (by omega)
      have hLs := fun i => exTs_len g (dp + 1) (subs.take i) (left - 1, false)
      have hpN := pur_ss (l := names)
      simp only [tyD, sl1, tysD_eq] at hcl ⊢
      have hL : (subs.map tyD).length = subs.length := by simp
      have hG : ∀ i (h : i < subs.length), (subs.map tyD)[i]? = some (tyD subs[i]) := fun i h => by simp [h]
      generalize (names.map fun s => [S s]) = NL at hcl hpN ⊢
      generalize subs.map tyD = SL at hL hG ⊢
      refine acalls_vcC [0, 1, 2, 4, 6, 7, 9, 12, 32, 39, 48, 49, 50, 51] Tryz.func86 Tryz.ntmps86 (by kernel_rfl) rfl rfl (by simp) ?_
      simp -dsimp [I, S, Tt, set_ne, kn, nk, kn1, n1k, kn2, n2k, nn1, n1n, nn2, n2n, n12, n21, k8', hm', wl, c1, c2]
      refine pcall hcl ?_
      simp -dsimp [I, S, Tt, set_ne, kn, nk, kn1, n1k, kn2, n2k, nn1, n1n, nn2, n2n, n12, n21, hL]
      refine vloop_as (β := Nat) (fun i => [(0, .ptr k 0 0 0), (2, I dp), (6, .ptr (n + 1) 0 0 0), (7, .ptr (n + 1 + 1) 0 0 0), (48, .sl 7 SL), (49, I subs.length), (50, I i)])
        (fun i mm nn => ∃ dS, mm k = some (exO md imps pkg major env (exTs g (subs.take i) (dp + 1) (left - 1, false)).2.1 (exTs g (subs.take i) (dp + 1) (left - 1, false)).2.2) ∧ mm (n + 1) = some ⟨7, [[I 0, S [], I 0, S [], S [], .v (.slice none 0 0), .v (.slice none 0 0)]], 0⟩ ∧ mm (n + 1 + 1) = some ⟨7, [[I kind, S pk, I mj, S mo, S nm, .sl 1 NL, dS]], 0⟩ ∧ Lst mm 7 ((exTs g (subs.take i) (dp + 1) (left - 1, false)).1.map tyD) dS ∧ (∀ j, kof dS = some j → n + 1 + 1 + 1 ≤ j ∧ j < nn) ∧ (∀ j, j < n → j ≠ k → mm j = m j) ∧ n + 1 + 1 + 1 ≤ nn ∧ i ≤ subs.length)
        (fun i => subs.length - i) 0 (by simp [I]) ⟨.v (.slice none 0 0), by simp [exTs, set_ne, kn2, exO, exC, I, S, Tt], by simp [set_ne, n1k, n1n, n12, I, S], by simp [I, S], by simpa [exTs] using Lst.nil, by simp [kof], fun j hj hjk => by rw [set_ne _ _ _ _ (by omega), set_ne _ _ _ _ hjk, set_ne _ _ _ _ (by omega), set_ne _ _ _ _ (by omega)], by omega, by omega⟩ ?_
      rintro i mm nn ⟨dS, ek, e1, e2, hS, kS, frm, hn, le⟩
      have q1 : nn ≠ k := by omega
      have q2 : k ≠ nn := by omega
      have q3 : nn ≠ n + 1 := by omega
      have q4 : n + 1 ≠ nn := by omega
      have q5 : nn ≠ n + 1 + 1 := by omega
      have q6 : n + 1 + 1 ≠ nn := by omega
      by_cases c : (i : Int) < subs.length
      · have c' : i < subs.length := by omega
        have wi : IntKind.i64.wrap ((i : Int) + 1) = (i : Int) + 1 := wrap_i64 (by omega) (by omega)
        have wd : IntKind.i64.wrap (dp + 1) = dp + 1 := wrap_i64 (by omega) (by omega)
        have hiN : i < SL.length := by omega
        have hgi : SL[i] = tyD subs[i] := get_opt (hG i c') hiN
        have hsn : exTs g (subs.take (i + 1)) (dp + 1) (left - 1, false) = ((exTs g (subs.take i) (dp + 1) (left - 1, false)).1 ++ [(exT g subs[i] (dp + 1) (exTs g (subs.take i) (dp + 1) (left - 1, false)).2).1], (exT g subs[i] (dp + 1) (exTs g (subs.take i) (dp + 1) (left - 1, false)).2).2) := by
          rw [List.take_succ_eq_append_getElem c', exTs_snoc]
        have hb1 := exTs_left hg (subs.take i) (dp + 1) (left - 1, false) (eachTs_take hq2 i)
        have hb2 := szEs_take (w := w) c'
        have hb3 := szEs_le (w := w) subs (i + 1)
        have hLi := hLs i
        have hx : ExpC md imps pkg major env 86 (subs[i]'c') (exT g (subs[i]'c')) (szE w (subs[i]'c')) := ih _ (List.getElem_mem c') (List.all_eq_true.1 ha2 _ (List.getElem_mem c')) (eachTs_get hq2 c')
        have hc2 := fun m n hk hm => hx (dp + 1) (exTs g (subs.take i) (dp + 1) (left - 1, false)).2.1 (exTs g (subs.take i) (dp + 1) (left - 1, false)).2.2 k m n hk hm (by simp only at hb1; omega) (by simp only at hb1; omega) (by omega) (by omega)
        clear hx
        generalize exTs g (subs.take i) (dp + 1) (left - 1, false) = A at ek hS hc2 hLi hsn
        obtain ⟨AL, A1, A2⟩ := A
        simp only at ek hS hc2 hLi hsn
        generalize exT g subs[i] (dp + 1) (A1, A2) = G at hc2 hsn
        have h7 := tyD_len subs[i]
        generalize tyD subs[i] = TT at h7 hgi hc2
        have ht7 : List.take 7 TT = TT := List.take_of_length_le (by omega)
        have g7 := tyD_len G.1
        have hpg := pur_ty G.1
        have hmap : (AL ++ [G.1]).map tyD = AL.map tyD ++ [tyD G.1] := by simp
        have hLm : (AL.map tyD).length = AL.length := by simp
        generalize AL.map tyD = AM at hS hLm hmap
        generalize tyD G.1 = GG at hc2 g7 hpg hmap
        have hg7 : List.take 7 GG = GG := List.take_of_length_le (by omega)
        have hla : AL.length ≤ 20 := by rw [hLi, List.length_take]; omega
        simp -dsimp [I, S, Tt, set_ne, q1, q2, q3, q4, q5, q6, c, c', hiN, hgi, h7, ht7, e1, e2, hL]
        refine vdraw_tree [0, 1, 0, 0, 0, 16, 60, 124, 255, 511, 1023] (.rd 0 (.rd 1 (.rd 2 (.rd 3 (.rd 4 (.rd 5 (.wr (.cons 6 (.wr (.cons 7 (.wr (.cons 8 (.rd 9 (.wr (.cons 10 (.fin) (.nil)))) (.nil))) (.nil))) (.nil))))))))) (by kernel_rfl) (by kernel_rfl) ?_
        simp -dsimp [I, S, Tt, set_ne, q1, q2, q3, q4, q5, q6, c, c', hiN, hgi, h7, ht7, e1, e2, hL, wd]
        refine aCall_of (hc2 _ _ (by omega) (by simp [set_ne, q2, ek])) ?_
        rintro d m3 n3 ⟨rfl, rfl, rfl⟩
        simp -dsimp [I, S, Tt, set_ne, n2k, q1, q2, q3, q4, q5, q6, c, c', h7, ht7, e1, e2, g7, hg7]
        have nd : ∀ j, j < n + 1 + 1 + 1 → kof dS ≠ some j := fun j hj e => by have := kS j e; omega
        refine b4_append (hS.frame fun j hj => by have := kS j hj; rw [set_ne _ _ _ _ (by omega), set_ne _ _ _ _ (by omega), set_ne _ _ _ _ (by omega)]) (fun j hj => by have := kS j hj; omega) trivial trivial (by omega) (by simp; omega) ?_
        intro d5 m5 n5 p1 p2 p3 p4
        have f0 : m5 k = some (exO md imps pkg major env G.2.1 G.2.2) := by rw [p4 _ (by omega) (nd _ (by omega)), set_ne _ _ _ _ (by omega), set_same]
        have f1 : m5 (n + 1) = some ⟨7, [[I 0, S [], I 0, S [], S [], .v (.slice none 0 0), .v (.slice none 0 0)]], 0⟩ := by rw [p4 _ (by omega) (nd _ (by omega)), set_ne _ _ _ _ (by omega), set_ne _ _ _ _ (by omega), set_ne _ _ _ _ (by omega)]; exact e1
        have f2 : m5 (n + 1 + 1) = some ⟨7, [[I kind, S pk, I mj, S mo, S nm, .sl 1 NL, dS]], 0⟩ := by rw [p4 _ (by omega) (nd _ (by omega)), set_ne _ _ _ _ (by omega), set_ne _ _ _ _ (by omega), set_ne _ _ _ _ (by omega)]; exact e2
        have ok5 := okD_lst p1
        have hkd : ∀ j, kof d5 = some j → n + 1 + 1 + 1 ≤ j ∧ j < n5 := fun j hj => by
          have h := p3 j hj
          rcases h.2 with e | e
          · have := kS j e; exact ⟨by omega, by omega⟩
          · exact ⟨by omega, by omega⟩
        simp -dsimp [I, S, Tt, f0, f1, f2, ok5, wi, set_ne]
        refine rnd (i + 1) (by omega) (by simp [I]) ⟨d5, by rw [hsn, set_ne _ _ _ _ (by omega)]; exact f0, by rw [set_ne _ _ _ _ n12]; exact f1, by simp [I, S], ?_, hkd, fun j hj hjk => ?_, by omega, by omega⟩
        · rw [hsn]
          simp only [hmap]
          exact p1.frame fun j hj => set_ne _ _ _ _ (by have := hkd j hj; omega)
        · rw [set_ne _ _ _ _ (by omega), p4 j (by omega) (nd j (by omega)), set_ne _ _ _ _ (by omega), set_ne _ _ _ _ hjk, set_ne _ _ _ _ (by omega)]; exact frm j hj hjk
      · have ei : subs.take i = subs := List.take_of_length_le (by omega)
        rw [ei] at ek hS
        generalize exTs g subs (dp + 1) (left - 1, false) = A at ek hS ⊢
        obtain ⟨AL, AS⟩ := A
        simp only at ek hS ⊢
        have hpm := pur_tys AL
        rw [← tysD_eq] at hS
        simp -dsimp [I, S, Tt, set_ne, c, e1, e2]
        refine hq ⟨.agg (.cons (pur_I _).pub (.cons (pur_S _).pub (.cons (pur_I _).pub (.cons (pur_S _).pub (.cons (pur_S _).pub (.cons (Pur.sl hpN).pub (.cons (.lstP (hS.frame fun j hj => set_ne _ _ _ _ (by have := kS j hj; omega)) (fun j hj => by have := kS j hj; omega) hpm) .nil))))))), by rw [set_ne _ _ _ _ (by omega)]; exact ek, fun j hj hjk => ?_⟩
        rw [set_ne _ _ _ _ (by omega)]; exact frm j hj hjk
end
end Go.Proofs.Mv.App
open Go Go.Proofs Go.Proofs.Mv.V
set_option maxRecDepth 10000
namespace Go.Proofs.Mv.App
/-- What a Local stands for. -/
def thT (imps : List Imp) (env : List Ifc) (l : Ty) : Ty := (rawF imps env l.mod l.name).getD Ty0
def g0 (_ : Ty) (_ : Int) (s : ExS) : Ty × ExS := (Ty0, s)
def gL (imps : List Imp) (env : List Ifc) (l : Ty) (dp : Int) (st : ExS) : Ty × ExS := exT g0 (thT imps env l) dp st
def wL (imps : List Imp) (env : List Ifc) (l : Ty) : Nat := szE (fun _ => 0) (thT imps env l)
/-- Is a Local fine? -/
def fineL (imps : List Imp) (env : List Ifc) (l : Ty) : Bool := knownT imps l && hadT imps env l
mutual
theorem each_plain : ∀ t : Ty, eachT (fun _ => false) t = plainT t
  | .mk kind pkg major mod name names subs => by
    rw [eachT, plainT, eaches_plain subs]; simp
theorem eaches_plain : ∀ l : List Ty, eachTs (fun _ => false) l = plainTs l
  | [] => rfl
  | t :: ts => by rw [eachTs, plainTs, each_plain t, eaches_plain ts]
end
theorem gok0 : GOk (fun _ => false) g0 (fun _ => 0) := fun l dp st h => by cases h
theorem fine_th {imps : List Imp} {env : List Ifc} (hw : ∀ f ∈ env, IfcW f) {l : Ty} (h : fineL imps env l = true) : mayT (thT imps env l) = true ∧ plainT (thT imps env l) = true ∧ TyW (thT imps env l) ∧ l.mod ≠ [] ∧ rawF imps env l.mod l.name = some (thT imps env l) := by
  simp only [fineL, knownT, hadT, Bool.and_eq_true, Bool.or_eq_true, decide_eq_true_eq] at h
  obtain ⟨⟨h1, h2⟩, h3⟩ := h
  rcases h3 with h3 | h3
  · exact absurd h3 h1
  · unfold thT
    cases c : rawF imps env l.mod l.name with
    | none => rw [c] at h3; simp at h3
    | some t =>
      rw [c] at h3
      simp only [Option.any_some, plainM, Bool.and_eq_true] at h3
      refine ⟨h3.1, h3.2, ?_, h1, rfl⟩
      unfold rawF at c
      cases c2 : imps.find? (fun i => decide (i.as_ = l.mod)) with
      | none => rw [c2] at c; cases c
      | some i => rw [c2] at c; exact ofF_W (ifc_of hw i).1 c
theorem gokL {imps : List Imp} {env : List Ifc} (hw : ∀ f ∈ env, IfcW f) : GOk (fineL imps env) (gL imps env) (wL imps env) := fun l dp st h =>
  exT_left gok0 _ dp st (by rw [each_plain]; exact (fine_th hw h).2.1)
variable [GI]
section
variable {md : List UInt8} {imps : List Imp} {pkg : List UInt8} {major : Int} {env : List Ifc}
set_option maxHeartbeats 4000000 in
theorem cLocal (hi : imps.length ≤ 1000000) (he : env.length ≤ 9223372036854775807) (hw : ∀ f ∈ env, IfcW f) {l : Ty} (hl : fineL imps env l = true) :
    ExpC md imps pkg major env 128 l (gL imps env l) (wL imps env l) := by
  obtain ⟨t1, t2, t3, t4, t5⟩ := fine_th hw hl
  intro dp left large k m n hk hm b1 b2 b3 b4
  have hT := fun m n hk hm => cTypX (md := md) (imps := imps) (pkg := pkg) (major := major) (env := env) gok0 (fun l h => by cases h) t3 (by simp only [mayT, Bool.and_eq_true] at t1; exact t1.1.1) (by rw [each_plain]; exact t2) dp left large k m n hk hm b1 b2 b3 b4
  have hth := fun m n (hk : k < n) (hm : m k = some (exO md imps pkg major env left large)) => cThere (k := k) (m := m) (n := n) hi he hw l hk hm
  rw [t5] at hth
  simp only [thD, Option.getD_some] at hth
  refine acalls_put (X := fun d => d = .agg (tyD (gL imps env l dp (left, large)).1)) (R' := Hq (fun d m' n' => PubAs n m' d (.agg (tyD (gL imps env l dp (left, large)).1)) ∧ m' k = some (exO md imps pkg major env (gL imps env l dp (left, large)).2.1 (gL imps env l dp (left, large)).2.2) ∧ ∀ j, j < n → j ≠ k → m' j = m j) tg) k hk _ ?_ ?_
  case refine_2 =>
    rintro d m' n' ⟨h1, h2, h3⟩
    exact ⟨_, _, h1, h2, .pur (fun e he => by simp only [exO, List.mem_singleton] at he; subst he; exact pur_exC _ _ _ _ _ _ _), h3, rfl⟩
  have kn : k ≠ n := by omega
  have nk : n ≠ k := by omega
  have kn1 : k ≠ n + 1 := by omega
  have n1k : n + 1 ≠ k := by omega
  have kn2 : k ≠ n + 1 + 1 := by omega
  have n2k : n + 1 + 1 ≠ k := by omega
  have nn1 : n ≠ n + 1 := by omega
  have n1n : n + 1 ≠ n := by omega
  have nn2 : n ≠ n + 1 + 1 := by omega
  have n2n : n + 1 + 1 ≠ n := by omega
  have n12 : n + 1 ≠ n + 1 + 1 := by omega
  have n21 : n + 1 + 1 ≠ n + 1 := by omega
  simp only [gL] at hT ⊢
  have z1 := tyD_len (thT imps env l)
  generalize exT g0 (thT imps env l) dp (left, large) = G at hT ⊢
  generalize tyD (thT imps env l) = XX at hT hth z1
  have zt1 : List.take 7 XX = XX := List.take_of_length_le (by omega)
  have z2 := tyD_len G.1
  have hpu : Pur (.agg (tyD G.1)) := pur_tyA _
  generalize tyD G.1 = GG at hT z2 hpu ⊢
  have zt2 : List.take 7 GG = GG := List.take_of_length_le (by omega)
  obtain ⟨k1, p1, j1, m1, n1, na, sa⟩ := l
  simp only [Ty.mod] at t4
  have t4' : (m1 != []) = true := by simpa using t4
  have t4'' : (m1 == []) = false := by simpa using t4
  simp only [tyD, sl1, tysD_eq] at hth ⊢
  generalize (na.map fun s => [S s]) = NL at hth ⊢
  generalize sa.map tyD = SL at hth ⊢
  refine acalls_vcC [0, 1, 2, 4, 6, 7, 9, 13, 33] Tryz.func128 Tryz.ntmps128 (by kernel_rfl) rfl rfl (by simp) ?_
  simp -dsimp [I, S, Tt, set_ne, kn, nk, kn1, n1k, nn1, n1n, t4, t4', t4'']
  refine pcallAt (hth _ _ (by omega) (by simp [set_ne, kn, kn1, hm])) ?_
  simp -dsimp [I, S, Tt, set_ne, kn, nk, kn1, n1k, kn2, n2k, nn1, n1n, nn2, n2n, n12, n21, z1, zt1]
  refine aCall_of (hT _ _ (by omega) (by simp [set_ne, kn, kn1, kn2, hm])) ?_
  rintro d m' n' ⟨rfl, rfl, rfl⟩
  simp -dsimp [I, S, Tt, set_ne, kn, nk, kn1, n1k, kn2, n2k, nn1, n1n, nn2, n2n, n12, n21, z2, zt2]
  refine hq ⟨hpu.pub, by simp [set_ne, kn1], fun j hj hjk => ?_⟩
  have j1 : j ≠ n := by omega
  have j2 : j ≠ n + 1 := by omega
  have j3 : j ≠ n + 1 + 1 := by omega
  simp [set_ne, j1, j2, j3, hjk]
end
theorem each_and (p q : Ty → Bool) : ∀ t : Ty, eachT (fun l => p l && q l) t = (eachT p t && eachT q t) := by
  have key : ∀ k, ∀ t : Ty, deepT t ≤ k → eachT (fun l => p l && q l) t = (eachT p t && eachT q t) := by
    intro k
    induction k with
    | zero => intro t h; rw [deepT_eq] at h; omega
    | succ k ih =>
      intro t h
      obtain ⟨kind, pkg, major, mod, name, names, subs⟩ := t
      rw [deepT_eq] at h
      simp only [Ty.subs] at h
      have hs : eachTs (fun l => p l && q l) subs = (eachTs p subs && eachTs q subs) := by
        simp only [eachTs_eq]
        rw [Bool.eq_iff_iff]
        simp only [List.all_eq_true, Bool.and_eq_true]
        constructor
        · intro hh
          exact ⟨fun x hx => by have := hh x hx; rw [ih x (by have := deepTs_mem hx; omega), Bool.and_eq_true] at this; exact this.1, fun x hx => by have := hh x hx; rw [ih x (by have := deepTs_mem hx; omega), Bool.and_eq_true] at this; exact this.2⟩
        · rintro ⟨h1, h2⟩ x hx
          rw [ih x (by have := deepTs_mem hx; omega), h1 x hx, h2 x hx]; rfl
      simp only [eachT, hs]
      generalize p (.mk kind pkg major mod name names subs) = a
      generalize q (.mk kind pkg major mod name names subs) = b
      generalize eachTs p subs = c
      generalize eachTs q subs = d
      cases decide (kind = 8) <;> cases a <;> cases b <;> cases c <;> cases d <;> rfl
  exact fun t => key _ t (Nat.le_refl _)
end Go.Proofs.Mv.App
open Go Go.Proofs Go.Proofs.Mv.V
set_option maxRecDepth 10000
namespace Go.Proofs.Mv.App
def okX (md : List UInt8) (imps : List Imp) : Bool := mayX md imps && (dupI imps).isNone
def badX (md : List UInt8) (imps : List Imp) (pkg : List UInt8) (major : Int) (env : List Ifc) (t : Ty) : Bool :=
  !okX md imps || !mayT t || !smallN pkg || decide (major < 1) || decide (999999999 < major) || decide (100 < env.length)
/-- What a type comes to; an error's number. -/
def expF (md : List UInt8) (imps : List Imp) (pkg : List UInt8) (major : Int) (env : List Ifc) (t : Ty) : Ty × Int :=
  if badX md imps pkg major env t then (Ty0, 1)
  else if eachT (knownT imps) t = false then (Ty0, 4)
  else if eachT (hadT imps env) t = false then (Ty0, 9)
  else if (exT (gL imps env) t 1 (500, false)).2.2 then (Ty0, 3)
  else ((exT (gL imps env) t 1 (500, false)).1, 0)
theorem szE_le {w : Ty → Nat} {b : Nat} (hw : ∀ l, w l ≤ b) (hb : 1 ≤ b) : ∀ k (t : Ty), deepT t ≤ k → szE w t ≤ b * manyT t := by
  intro k
  induction k with
  | zero => intro t h; rw [deepT_eq] at h; omega
  | succ k ih =>
    intro t h
    obtain ⟨kind, pkg, major, mod, name, names, subs⟩ := t
    rw [deepT_eq] at h
    simp only [Ty.subs] at h
    have hs : szEs w subs ≤ b * manyTs subs := by
      clear pkg
      induction subs with
      | nil => simp [szEs, manyTs]
      | cons x l ihl =>
        have h1 := ih x (by have := deepTs_mem (t := x) (l := x :: l) (by simp); omega)
        have h2 := ihl (by simp only [deepTs] at h; omega)
        simp only [szEs, manyTs, Nat.mul_add]; omega
    rw [szE, manyT, Nat.mul_add]
    have := hw (.mk kind pkg major mod name names subs)
    split <;> omega
variable [GI]
def ecD (c : Int) : D := if c = 0 then nilE else code c
theorem pur_ecD (c : Int) : Pur (ecD c) := by unfold ecD; split; exact pur_nilE; exact pur_code _
def exDX (r : Ty × Int) : D := .tup [.agg (tyD r.1), ecD r.2]
section
variable {md : List UInt8} {imps : List Imp} {pkg : List UInt8} {major : Int} {env : List Ifc}
set_option maxHeartbeats 8000000 in
theorem cExpand (hmd : md.length ≤ 9223372036854775807) (hi : imps.length ≤ 1000000) (hiw : ∀ i ∈ imps, ImpWU i) (he : env.length ≤ 1000000) (hw : ∀ f ∈ env, IfcW f) (hp : pkg.length ≤ 9223372036854775807) {t : Ty} (ht : TyW t) :
    Pc Tryz.prog 45 [.agg (mdX md imps), S pkg, I major, .sl 5 (env.map ifD), .agg (tyD t)] (exDX (expF md imps pkg major env t)) := by
  refine pc_pub (fun m n => ?_)
  have nn1 : n ≠ n + 1 := by omega
  have n1n : n + 1 ≠ n := by omega
  have nn2 : n ≠ n + 1 + 1 := by omega
  have n2n : n + 1 + 1 ≠ n := by omega
  have n12 : n + 1 ≠ n + 1 + 1 := by omega
  have n21 : n + 1 + 1 ≠ n + 1 := by omega
  have nn3 : n ≠ n + 1 + 1 + 1 := by omega
  have n3n : n + 1 + 1 + 1 ≠ n := by omega
  have n13 : n + 1 ≠ n + 1 + 1 + 1 := by omega
  have n31 : n + 1 + 1 + 1 ≠ n + 1 := by omega
  have n23 : n + 1 + 1 ≠ n + 1 + 1 + 1 := by omega
  have n32 : n + 1 + 1 + 1 ≠ n + 1 + 1 := by omega
  have hCk := cChkX (md := md) (imps := imps) hmd hi hiw
  have hMt : Pc Tryz.prog 80 [.agg (tyD t)] (Tt (mayT t)) := cMay ht
  have hSm := fun m n => cSmall pkg hp m n
  have hKn := fun m0 (h : m0 (n + 1 + 1 + 1) = some (exO md imps pkg major env 500 false)) => cEach (fp := 84) (fs := [.ptr (n + 1 + 1 + 1) 0 0 0]) (by simp) (q := knownT imps) (m0 := m0) (n0 := n + 1 + 1 + 1 + 1) (fun l m n' hf => cKnown (m := m) (n := n') (by omega) l (by have := hf.1; omega) (by rw [hf.2 _ (by omega)]; exact h)) ht m0 (n + 1 + 1 + 1 + 1) (.refl _ _)
  have hCp := fun m0 (h : m0 (n + 1 + 1 + 1) = some (exO md imps pkg major env 500 false)) => cComplete (k := n + 1 + 1 + 1) (m := m0) (n := n + 1 + 1 + 1 + 1) hmd hi hiw (by omega) hw ht (by omega) h
  have hTy : mayT t = true → eachT (fineL imps env) t = true → ∀ m0, m0 (n + 1 + 1 + 1) = some (exO md imps pkg major env 500 false) → ACalls Tryz.prog 86 [.ptr (n + 1 + 1 + 1) 0 0 0, .agg (tyD t), I 1] m0 (n + 1 + 1 + 1 + 1) (fun d m' n' => d = .agg (tyD (exT (gL imps env) t 1 (500, false)).1) ∧ m' = m0.set (n + 1 + 1 + 1) (exO md imps pkg major env (exT (gL imps env) t 1 (500, false)).2.1 (exT (gL imps env) t 1 (500, false)).2.2) ∧ n' = n + 1 + 1 + 1 + 1) := by
    intro q1 q2 m0 h
    have hwl : ∀ l, (if fineL imps env l then wL imps env l else 0) ≤ 500 := by
      intro l
      split
      · rename_i hf
        obtain ⟨t1, _⟩ := fine_th hw hf
        have := szE_le (w := fun _ => 0) (b := 1) (by simp) (by omega) _ (thT imps env l) (Nat.le_refl _)
        simp only [mayT, Bool.and_eq_true, decide_eq_true_eq] at t1
        unfold wL; omega
      · omega
    have hg : GOk (fineL imps env) (gL imps env) (fun l => if fineL imps env l then wL imps env l else 0) := fun l dp st h => by
      simp only [h, if_true]; exact gokL hw l dp st h
    have hsz := szE_le hwl (by omega) _ t (Nat.le_refl _)
    have q1' := q1
    simp only [mayT, Bool.and_eq_true, decide_eq_true_eq] at q1'
    exact cTypX (md := md) (pkg := pkg) (major := major) hg (fun l hl _ => by simp only [hl, if_true]; exact cLocal hi (by omega) hw hl) ht q1'.1.1 q2 1 500 false _ _ _ (by omega) h (by omega) (by omega) (by omega) (by omega)
  have hfine : eachT (fineL imps env) t = (eachT (knownT imps) t && eachT (hadT imps env) t) := each_and _ _ t
  rw [hfine] at hTy
  have hO : exO md imps pkg major env 500 false = ⟨8, [[S md, .sl 4 (imps.map impD), .sl 9 [], S pkg, I major, .sl 5 (env.map ifD), I 500, Tt false]], 0⟩ := rfl
  rw [hO] at hKn hCp hTy
  have hEL : (env.map ifD).length = env.length := by simp
  have z1 := tyD_len t
  have hZ : ∀ {m' : Mem}, PubAs n m' (.agg [I 0, S [], I 0, S [], S [], .v (.slice none 0 0), .v (.slice none 0 0)]) (.agg (tyD Ty0)) := fun {m'} => pub_ty0
  have fr3 : ∀ o o' o'' j, j < n → (((m.set n o).set (n + 1) o').set (n + 1 + 1) o'') j = m j := fun o o' o'' j hj => by rw [set_ne _ _ _ _ (by omega), set_ne _ _ _ _ (by omega), set_ne _ _ _ _ (by omega)]
  have fr4 : ∀ o o' o'' o3 j, j < n → ((((m.set n o).set (n + 1) o').set (n + 1 + 1) o'').set (n + 1 + 1 + 1) o3) j = m j := fun o o' o'' o3 j hj => by rw [set_ne _ _ _ _ (by omega), set_ne _ _ _ _ (by omega), set_ne _ _ _ _ (by omega), set_ne _ _ _ _ (by omega)]
  generalize hR : exDX (expF md imps pkg major env t) = R
  have hE : ∀ {m' : Mem} (c : Int), c ≠ 0 → expF md imps pkg major env t = (Ty0, c) → PubAs n m' (.tup [.agg [I 0, S [], I 0, S [], S [], .v (.slice none 0 0), .v (.slice none 0 0)], code c]) R := fun {m'} c hc h => by
    rw [← hR, h, exDX, ecD, if_neg hc]
    exact .tup (.cons hZ (.cons (pur_code c).pub .nil))
  have hB : ∀ {m' : Mem}, badX md imps pkg major env t = true → PubAs n m' (.tup [.agg [I 0, S [], I 0, S [], S [], .v (.slice none 0 0), .v (.slice none 0 0)], code 1]) R := fun {m'} h => hE 1 (by decide) (by rw [expF, if_pos h])
  have hN : badX md imps pkg major env t = false → expF md imps pkg major env t = (if eachT (knownT imps) t = false then (Ty0, 4)
    else if eachT (hadT imps env) t = false then (Ty0, 9)
    else if (exT (gL imps env) t 1 (500, false)).2.2 then (Ty0, 3)
    else ((exT (gL imps env) t 1 (500, false)).1, 0)) := fun h => by rw [expF, h]; rfl
  simp only [mdX, chkX] at hCk ⊢
  have zz1 : tyD t = tyD t := rfl
  generalize hXX : tyD t = XX at hMt hKn hCp hTy z1 ⊢
  have zt1 : List.take 7 XX = XX := List.take_of_length_le (by omega)
  generalize hIL : imps.map impD = IL at hCk hKn hCp hTy ⊢
  generalize hIE : env.map ifD = EL at hKn hCp hTy hEL ⊢
  refine acalls_vcC [0, 1, 2, 3, 4, 5, 9, 10, 11, 12, 13, 39, 48, 56, 69] Tryz.func45 Tryz.ntmps45 (by kernel_rfl) rfl rfl (by simp) ?_
  simp -dsimp [I, S, Tt, set_ne, nn1, n1n, nn2, n2n, n12, n21, nn3, n3n, n13, n31, n23, n32, z1, zt1, hEL, code, nilE, spotE]
  refine pcall hCk ?_
  cases cm : mayX md imps with
  | false =>
    simp -dsimp [I, S, Tt, set_ne, nn1, n1n, nn2, n2n, n12, n21, nn3, n3n, n13, n31, n23, n32, z1, zt1, hEL, code, nilE, spotE]
    exact pcp (hB (by simp [badX, okX, cm])) (fr3 _ _ _)
  | true =>
  cases cd : dupI imps with
  | some i =>
    simp -dsimp [I, S, Tt, set_ne, nn1, n1n, nn2, n2n, n12, n21, nn3, n3n, n13, n31, n23, n32, z1, zt1, hEL, code, nilE, spotE, dupE]
    exact pcp (hB (by simp [badX, okX, cd])) (fr3 _ _ _)
  | none =>
  simp -dsimp [I, S, Tt, set_ne, nn1, n1n, nn2, n2n, n12, n21, nn3, n3n, n13, n31, n23, n32, z1, zt1, hEL, code, nilE, spotE, dupE]
  refine pcall hMt ?_
  cases bM : mayT t with
  | false =>
    simp -dsimp [I, S, Tt, set_ne, nn1, n1n, nn2, n2n, n12, n21, nn3, n3n, n13, n31, n23, n32, z1, zt1, hEL, code, nilE, spotE]
    exact pcp (hB (by simp [badX, bM])) (fr3 _ _ _)
  | true =>
  simp -dsimp [I, S, Tt, set_ne, nn1, n1n, nn2, n2n, n12, n21, nn3, n3n, n13, n31, n23, n32, z1, zt1, hEL, code, nilE, spotE]
  refine aCall_of (hSm _ _) ?_
  rintro d m' n' ⟨rfl, rfl, rfl⟩
  cases bS : smallN pkg with
  | false =>
    simp -dsimp [I, S, Tt, set_ne, nn1, n1n, nn2, n2n, n12, n21, nn3, n3n, n13, n31, n23, n32, z1, zt1, hEL, code, nilE, spotE]
    exact pcp (hB (by simp [badX, bS])) (fr3 _ _ _)
  | true =>
  by_cases c1 : major < 1
  · simp -dsimp [I, S, Tt, set_ne, nn1, n1n, nn2, n2n, n12, n21, nn3, n3n, n13, n31, n23, n32, z1, zt1, hEL, code, nilE, spotE, c1]
    exact pcp (hB (by simp [badX, c1])) (fr3 _ _ _)
  by_cases c2 : 999999999 < major
  · simp -dsimp [I, S, Tt, set_ne, nn1, n1n, nn2, n2n, n12, n21, nn3, n3n, n13, n31, n23, n32, z1, zt1, hEL, code, nilE, spotE, c1, c2]
    exact pcp (hB (by simp [badX, c2])) (fr3 _ _ _)
  by_cases c3 : (100 : Int) < env.length
  · have c3' : 100 < env.length := by omega
    simp -dsimp [I, S, Tt, set_ne, nn1, n1n, nn2, n2n, n12, n21, nn3, n3n, n13, n31, n23, n32, z1, zt1, hEL, code, nilE, spotE, c1, c2, c3, c3']
    exact pcp (hB (by simp [badX, c3'])) (fr3 _ _ _)
  have c3' : ¬ 100 < env.length := by omega
  have hN' := hN (by simp [badX, okX, cm, cd, bM, bS, c1, c2, c3'])
  rw [bM] at hTy
  simp -dsimp [I, S, Tt, set_ne, nn1, n1n, nn2, n2n, n12, n21, nn3, n3n, n13, n31, n23, n32, z1, zt1, hEL, code, nilE, spotE, c1, c2, c3, c3']
  refine pcallAt (hKn _ (by simp [set_ne, I, S, Tt])) ?_
  cases eK : eachT (knownT imps) t with
  | false =>
    simp -dsimp [I, S, Tt, set_ne, nn1, n1n, nn2, n2n, n12, n21, nn3, n3n, n13, n31, n23, n32, z1, zt1, hEL, code, nilE, spotE]
    exact pcp (hE 4 (by decide) (by rw [hN', eK]; rfl)) (by intro j hj; repeat rw [set_ne _ _ _ _ (by omega)])
  | true =>
  simp -dsimp [I, S, Tt, set_ne, nn1, n1n, nn2, n2n, n12, n21, nn3, n3n, n13, n31, n23, n32, z1, zt1, hEL, code, nilE, spotE]
  refine pcallAt (hCp _ (by simp [set_ne, I, S, Tt])) ?_
  cases eH : eachT (hadT imps env) t with
  | false =>
    simp -dsimp [I, S, Tt, set_ne, nn1, n1n, nn2, n2n, n12, n21, nn3, n3n, n13, n31, n23, n32, z1, zt1, hEL, code, nilE, spotE]
    exact pcp (hE 9 (by decide) (by rw [hN', eK, eH]; rfl)) (by intro j hj; repeat rw [set_ne _ _ _ _ (by omega)])
  | true =>
  rw [eK, eH] at hTy
  simp -dsimp [I, S, Tt, set_ne, nn1, n1n, nn2, n2n, n12, n21, nn3, n3n, n13, n31, n23, n32, z1, zt1, hEL, code, nilE, spotE]
  refine aCall_of (hTy rfl rfl _ (by simp [set_ne, I, S, Tt])) ?_
  rintro d m' n' ⟨rfl, rfl, rfl⟩
  rw [eK, eH] at hN'
  simp only [Bool.true_eq_false, if_false] at hN'
  generalize exT (gL imps env) t 1 (500, false) = G at hN' ⊢
  obtain ⟨g1, g2, g3⟩ := G
  simp only at hN' ⊢
  have z2 := tyD_len g1
  have hpu := pur_tyA g1
  cases g3 with
  | true =>
    simp only [if_true] at hN'
    generalize tyD g1 = GG at z2
    have zt2 : List.take 7 GG = GG := List.take_of_length_le (by omega)
    simp -dsimp [I, S, Tt, set_ne, nn1, n1n, nn2, n2n, n12, n21, nn3, n3n, n13, n31, n23, n32, z1, zt1, hEL, code, nilE, spotE, z2, zt2, exO, exC, hIL, hIE]
    exact pcp (hE 3 (by decide) hN') (by intro j hj; repeat rw [set_ne _ _ _ _ (by omega)])
  | false =>
    simp only [Bool.false_eq_true, if_false] at hN'
    have hR2 : R = .tup [.agg (tyD g1), nilE] := by rw [← hR, hN', exDX, ecD, if_pos rfl]
    generalize tyD g1 = GG at z2 hpu hR2
    have zt2 : List.take 7 GG = GG := List.take_of_length_le (by omega)
    simp -dsimp [I, S, Tt, set_ne, nn1, n1n, nn2, n2n, n12, n21, nn3, n3n, n13, n31, n23, n32, z1, zt1, hEL, code, nilE, spotE, z2, zt2, exO, exC, hIL, hIE]
    refine pcp ?_ (by intro j hj; repeat rw [set_ne _ _ _ _ (by omega)])
    rw [hR2]
    exact .tup (.cons hpu.pub (.cons pur_nilE.pub .nil))
end
end Go.Proofs.Mv.App
