/- A part of the proofs: machine, contracts, laws. No condition of its own. -/
import Derived.Test.YtihbegkefjjhpaaGreatDoorP18
set_option linter.unusedSimpArgs false
set_option linter.unusedVariables false
set_option linter.unusedSectionVars false
open Go Go.Proofs Go.Proofs.Mv.V
set_option maxRecDepth 10000
namespace Go.Proofs.Mv.App
section
variable [GI]
theorem rCloneTyX {EL : List (List D)} (hl : EL.length ≤ 1000000) (m : Mem) (n : Nat) : ACalls Tryz.prog 82 [.sl 7 EL] m n
    (fun d m' n' => LsX m' 7 EL n n' d ∧ n ≤ n' ∧ ∀ j, j < n → m' j = m j) := by
  cases EL with
  | nil =>
    refine acalls_vc [0, 2, 4] Tryz.func82 Tryz.ntmps82 (by kernel_rfl) rfl rfl (by simp) ?_
    simp -dsimp
    exact ⟨.inl ⟨rfl, rfl⟩, .inr ⟨_, _, rfl, set_same _ _ _, by omega, by omega⟩, fun j hj => set_ne _ _ _ _ (by omega)⟩
  | cons a r =>
    simp only [List.length_cons] at hl
    refine acalls_vc [0, 2, 4] Tryz.func82 Tryz.ntmps82 (by kernel_rfl) rfl rfl (by simp) ?_
    simp -dsimp
    exact ⟨by omega, .inr ⟨_, _, rfl, set_same _ _ _, by omega, by omega⟩, fun j hj => set_ne _ _ _ _ (by omega)⟩
theorem rCloneSX {EL : List (List D)} (hl : EL.length ≤ 1000000) (m : Mem) (n : Nat) : ACalls Tryz.prog 75 [.sl 1 EL] m n
    (fun d m' n' => LsX m' 1 EL n n' d ∧ n ≤ n' ∧ ∀ j, j < n → m' j = m j) := by
  cases EL with
  | nil =>
    refine acalls_vc [0, 2, 4] Tryz.func75 Tryz.ntmps75 (by kernel_rfl) rfl rfl (by simp) ?_
    simp -dsimp
    exact ⟨.inl ⟨rfl, rfl⟩, .inr ⟨_, _, rfl, set_same _ _ _, by omega, by omega⟩, fun j hj => set_ne _ _ _ _ (by omega)⟩
  | cons a r =>
    simp only [List.length_cons] at hl
    refine acalls_vc [0, 2, 4] Tryz.func75 Tryz.ntmps75 (by kernel_rfl) rfl rfl (by simp) ?_
    simp -dsimp
    exact ⟨by omega, .inr ⟨_, _, rfl, set_same _ _ _, by omega, by omega⟩, fun j hj => set_ne _ _ _ _ (by omega)⟩
end
theorem allT_sz {kind : Int} {pkg : List UInt8} {major : Int} {mod name : List UInt8} {names : Nms} {subs : List Ty} (h : allT (.mk kind pkg major mod name names subs) = true) : names.length ≤ 20 ∧ subs.length ≤ 20 ∧ ∀ s ∈ subs, allT s = true := by
  rw [allT_eq] at h
  simp only [Bool.and_eq_true, List.all_eq_true, Ty.subs] at h
  obtain ⟨h1, h2⟩ := h
  obtain ⟨h3, h4⟩ := shape_parts h1
  simp only [Ty.subs] at h3
  refine ⟨?_, h3, h2⟩
  simp only [shapeK, Ty.kind, Ty.names, Ty.subs] at h4
  repeat' split at h4
  all_goals first | (cases h4; done) | (simp only [Bool.and_eq_true, decide_eq_true_eq] at h4; omega)
structure TypL [GI] (kind : Int) (pkg : List UInt8) (major : Int) (mod name : List UInt8) (NL SL : List (List D)) (dN dS : D) (m : Mem) (n : Nat) (i : Nat) (m2 : Mem) (n2 : Nat) : Prop where
  o0 : m2 n = some ⟨7, [[I kind, S pkg, I major, S mod, S name, dN, dS]], 0⟩
  o1 : m2 (n + 1) = some ⟨7, [[.v (.int .i64 0), .v (.string (ofL [])), .v (.int .i64 0), .v (.string (ofL [])), .v (.string (ofL [])), .v (.slice none 0 0), .v (.slice none 0 0)]], 0⟩
  lN : LsX m2 1 NL (n + 2) n2 dN
  lS : LsX m2 7 SL (n + 2) n2 dS
  fr : ∀ j, j < n → m2 j = m j
  nn : n + 2 ≤ n2
  le : i ≤ SL.length
set_option maxHeartbeats 8000000 in
theorem cTyped {t : Ty} (ht : TyW t) : allT t = true → Pc Tryz.prog 84 [.agg (tyD t)] (.agg (tyD t)) := by
  induction ht with
  | mk kind pkg major mod name names subs l1 l2 l3 l4 l5 l6 l7 ih =>
  intro ha
  obtain ⟨hn, hs, hall⟩ := allT_sz ha
  refine pc_pub (fun m n => ?_)
  have nn1 : n ≠ n + 1 := by omega
  have n1n : n + 1 ≠ n := by omega
  have hSL : (subs.map tyD).length = subs.length := by simp
  have hSG : ∀ i (h : i < subs.length), (subs.map tyD)[i]? = some (tyD subs[i]) := fun i h => by simp [h]
  have hNL : (names.map fun s => [S s]).length = names.length := by simp
  have hpn : ∀ e ∈ names.map fun s => [S s], ∀ d ∈ e, Pur d := pur_ss
  have hpy : ∀ e ∈ subs.map tyD, ∀ d ∈ e, Pur d := fun e he d hd => by
    obtain ⟨y, _, rfl⟩ := List.mem_map.1 he
    exact pur_ty y d hd
  have ih' : ∀ i (h : i < subs.length), Pc Tryz.prog 84 [.agg (tyD subs[i])] (.agg (tyD subs[i])) := fun i h => ih _ (List.getElem_mem h) (hall _ (List.getElem_mem h))
  simp only [tyD, tysD_eq, sl1]
  generalize (names.map fun s => [S s]) = NL at hNL hpn ⊢
  generalize subs.map tyD = SL at hSL hSG hpy ⊢
  have c1 := fun M N => rCloneSX (EL := NL) (by omega) M N
  have c2 := fun M N => rCloneTyX (EL := SL) (by omega) M N
  refine acalls_vcC [0, 1, 2, 3, 14, 15, 16] Tryz.func84 Tryz.ntmps84 (by kernel_rfl) rfl rfl (by simp) ?_
  simp -dsimp [I, S, set_ne, nn1, n1n]
  refine vdraw_tree [0, 1, 3, 0, 8, 31, 31, 127, 255, 511] (.rd 0 (.rd 1 (.rd 3 (.rd 4 (.wr (.cons 2 (.rd 6 (.wr (.cons 5 (.wr (.cons 7 (.rd 8 (.wr (.cons 9 (.fin) (.nil)))) (.nil))) (.nil)))) (.nil))))))) (by kernel_rfl) (by kernel_rfl) ?_
  simp -dsimp [I, S, set_ne, nn1, n1n]
  refine aCall_of (c1 _ _) ?_
  rintro dN ma na ⟨a1, a2, a3⟩
  have p0 := (a3 n (by omega)).trans (by simp [set_ne, nn1]; rfl)
  have p1 := (a3 (n + 1) (by omega)).trans (set_same _ _ _)
  have oN := okD_lst a1.lst
  refine ⟨fun p hp _ => ?_, ?_⟩
  · simp only [List.mem_cons, List.not_mem_nil, or_false] at hp
    rcases hp with rfl | rfl <;> exact a3 _ (by dsimp only; omega)
  simp -dsimp [I, S, p0, p1, set_ne, nn1, n1n]
  refine aCall_of (c2 _ _) ?_
  rintro dS mb nb ⟨b1, b2, b3⟩
  have r0 := (b3 n (by omega)).trans p0
  have r1 := (b3 (n + 1) (by omega)).trans p1
  have oS := okD_lst b1.lst
  have hlS := lenD_lst b1.lst
  refine ⟨fun p hp _ => ?_, ?_⟩
  · simp only [List.mem_cons, List.not_mem_nil, or_false] at hp
    rcases hp with rfl | rfl <;> exact b3 _ (by dsimp only; omega)
  simp -dsimp [I, S, r0, r1, oN.1, oN.2, oS.1, oS.2, hlS, set_ne, nn1, n1n]
  refine vloop_as (β := Nat) (fun i => [(1, .ptr n 0 0 0), (2, .ptr (n + 1) 0 0 0), (14, I SL.length), (15, I i)]) (TypL kind pkg major mod name NL SL dN dS m n) (fun i => SL.length - i) 0 (by simp [I])
    ⟨by simp [I, S], by rw [set_ne _ _ _ _ (by omega)]; exact r1, a1.frame (fun j h1 h2 => by rw [set_ne _ _ _ _ (by omega), b3 j (by omega)]) (by omega), (?_ : LsX _ 7 SL (n + 2) nb dS), fun j hj => ?_, by omega, by omega⟩ ?_
  · rcases b1 with ⟨h1, h2⟩ | ⟨kx, g, h1, h2, h3, h4⟩
    · exact .inl ⟨h1, h2⟩
    · exact .inr ⟨kx, g, h1, by rw [set_ne _ _ _ _ (by omega)]; exact h2, by omega, h4⟩
  · rw [set_ne _ _ _ _ (by omega), b3 j (by omega), a3 j (by omega)]
    simp [set_ne, show j ≠ n by omega, show j ≠ n + 1 by omega]
  rintro i m2 n2 ⟨o0, o1, lN, lS, hfr, hnn, hle⟩
  by_cases hi : (i : Int) < SL.length
  · have hi' : i < SL.length := by omega
    have his : i < subs.length := by omega
    have wi : IntKind.i64.wrap ((i : Int) + 1) = (i : Int) + 1 := wrap_i64 (by omega) (by omega)
    rcases lS with ⟨rfl, _⟩ | ⟨kx, g, rfl, hm, hk1, hk2⟩
    · simp at hi'
    have hgs : SL[i] = tyD subs[i] := get_opt (hSG i his) hi'
    have hz : (tyD subs[i]).length = 7 := by simp
    have hc := ih' i his
    generalize tyD subs[i] = A at hgs hz hc
    have hA : List.take 7 A = A := List.take_of_length_le (by omega)
    have hdA : List.drop 7 A = [] := List.drop_eq_nil_of_le (by omega)
    have x0 : n ≠ kx := by omega
    have x1 : n + 1 ≠ kx := by omega
    simp -dsimp [I, S, hi, o0, o1, set_ne, nn1, n1n]
    refine vdraw_tree [0, 1, 0, 0, 8, 0, 56, 120, 248, 511, 1023] (.rd 0 (.rd 1 (.rd 2 (.rd 3 (.rd 4 (.rd 5 (.rd 6 (.rd 7 (.wr (.cons 8 (.rd 9 (.wr (.cons 10 (.fin) (.nil)))) (.nil))))))))))) (by kernel_rfl) (by kernel_rfl) ?_
    simp -dsimp [I, S, hi, hi', hgs, hz, hA, hdA, o0, o1, hm, wi, set_ne, nn1, n1n, x0, x1, x0.symm, x1.symm]
    refine pcall hc ?_
    refine ⟨fun _ _ _ => rfl, ?_⟩
    simp -dsimp [I, S, hi', hgs, hz, hA, hdA, o0, o1, hm, wi, set_ne, nn1, n1n, x0, x1, x0.symm, x1.symm]
    have hself : SL.set i A = SL := by rw [← hgs]; exact List.set_getElem_self hi'
    rw [hself]
    refine rnd (i + 1) (by omega) (by simp [I]) ⟨by rw [set_ne _ _ _ _ x0]; exact o0, by rw [set_ne _ _ _ _ x1]; exact o1, ?_, .inr ⟨kx, g, rfl, set_same _ _ _, hk1, hk2⟩, fun j hj => by rw [set_ne _ _ _ _ (by omega)]; exact hfr j hj, hnn, by omega⟩
    rcases lN with ⟨h1, h2⟩ | ⟨ky, g', h1, h2, h3, h4⟩
    · exact .inl ⟨h1, h2⟩
    · refine .inr ⟨ky, g', h1, ?_, h3, h4⟩
      by_cases e : ky = kx
      · subst e
        rw [hm] at h2
        simp only [Option.some.injEq, V.Obj.mk.injEq] at h2
        omega
      · rw [set_ne _ _ _ _ e]; exact h2
  · have e : i = SL.length := by omega
    subst e
    simp -dsimp [I, S, hi, o0, o1, set_ne, nn1, n1n, oN.1, oN.2, oS.1, oS.2]
    refine pcp ?_ fun j hj => by rw [set_ne _ _ _ _ (by omega)]; exact hfr j hj
    refine .agg (.cons (pur_I _).pub (.cons (pur_S _).pub (.cons (pur_I _).pub (.cons (pur_S _).pub (.cons (pur_S _).pub (.cons ?_ (.cons ?_ .nil)))))))
    · exact .lstP (lN.lst.frame fun j hj => set_ne _ _ _ _ (by have := lN.kof j hj; omega)) (fun j hj => by have := lN.kof j hj; omega) hpn
    · exact .lstP (lS.lst.frame fun j hj => set_ne _ _ _ _ (by have := lS.kof j hj; omega)) (fun j hj => by have := lS.kof j hj; omega) hpy
structure CopL [GI] (k N : Int) (mod nm : List UInt8) (NL VL YL SL : List (List D)) (dN dV dY dS : D) (m : Mem) (n : Nat) (m2 : Mem) (n2 : Nat) : Prop where
  o0 : m2 n = some ⟨8, [[I k, I N, S mod, S nm, dN, dV, dY, dS]], 0⟩
  o1 : m2 (n + 1) = some zTo
  lN : LsX m2 1 NL (n + 2) n2 dN
  lV : LsX m2 1 VL (n + 2) n2 dV
  lY : LsX m2 7 YL (n + 2) n2 dY
  lS : LsX m2 8 SL (n + 2) n2 dS
  fr : ∀ j, j < n → m2 j = m j
  nn : n + 2 ≤ n2
theorem LsX.set [GI] {m : Mem} {z z' n n' kx g g' : Nat} {EL es es' : List (List D)} {d : D} (h : LsX m z EL n n' d) (hm : m kx = some ⟨z', es, g⟩) (hz : z ≠ z') : LsX (m.set kx ⟨z', es', g'⟩) z EL n n' d := by
  rcases h with ⟨h1, h2⟩ | ⟨ky, g2, h1, h2, h3, h4⟩
  · exact .inl ⟨h1, h2⟩
  · refine .inr ⟨ky, g2, h1, ?_, h3, h4⟩
    by_cases e : ky = kx
    · subst e
      rw [hm] at h2
      simp only [Option.some.injEq, V.Obj.mk.injEq] at h2
      omega
    · rw [set_ne _ _ _ _ e]; exact h2
theorem LsX.low [GI] {m m' : Mem} {z a a' n n'' : Nat} {EL : List (List D)} {d : D} (h : LsX m z EL a a' d) (hf : ∀ j, a ≤ j → j < a' → m' j = m j) (h1 : n ≤ a) (h2 : a' ≤ n'') : LsX m' z EL n n'' d := by
  rcases h with ⟨e1, e2⟩ | ⟨k, g, e1, e2, h3, h4⟩
  · exact .inl ⟨e1, e2⟩
  · exact .inr ⟨k, g, e1, by rw [hf k h3 h4]; exact e2, by omega, by omega⟩
set_option maxHeartbeats 8000000 in
theorem cCopied {t : Tm} (ht : TmW t) : TmC t → Pc Tryz.prog 49 [.agg (tmD t)] (.agg (tmD t)) := by
  induction ht with
  | mk k N mod nm names vars types subs l1 l2 l3 l4 l5 l6 l7 l8 l9 l10 ih =>
  intro hc
  obtain ⟨ln, lv, ly, ls, ny, hcs⟩ : names.length ≤ 21 ∧ vars.length ≤ 21 ∧ types.length ≤ 21 ∧ subs.length ≤ 21 ∧ (∀ y ∈ types, mayT y = true) ∧ ∀ s ∈ subs, TmC s := by
    cases hc with
    | mk _ _ _ _ _ _ _ _ h3 h12 ln lv ly ls ny hs => exact ⟨ln, lv, ly, ls, ny, hs⟩
  refine pc_pub (fun m n => ?_)
  have nn1 : n ≠ n + 1 := by omega
  have n1n : n + 1 ≠ n := by omega
  have hSL : (subs.map tmD).length = subs.length := by simp
  have hSG : ∀ i (h : i < subs.length), (subs.map tmD)[i]? = some (tmD subs[i]) := fun i h => by simp [h]
  have hYL : (types.map tyD).length = types.length := by simp
  have hYG : ∀ i (h : i < types.length), (types.map tyD)[i]? = some (tyD types[i]) := fun i h => by simp [h]
  have hNL : (names.map fun s => [S s]).length = names.length := by simp
  have hVL : (vars.map fun s => [S s]).length = vars.length := by simp
  have hpn : ∀ e ∈ names.map fun s => [S s], ∀ d ∈ e, Pur d := pur_ss
  have hpv : ∀ e ∈ vars.map fun s => [S s], ∀ d ∈ e, Pur d := pur_ss
  have hps := pur_tmm subs
  have hpy : ∀ e ∈ types.map tyD, ∀ d ∈ e, Pur d := fun e he d hd => by
    obtain ⟨y, _, rfl⟩ := List.mem_map.1 he
    exact pur_ty y d hd
  have ih' : ∀ i (h : i < subs.length), Pc Tryz.prog 49 [.agg (tmD subs[i])] (.agg (tmD subs[i])) := fun i h => ih _ (List.getElem_mem h) (hcs _ (List.getElem_mem h))
  have iy' : ∀ i (h : i < types.length), Pc Tryz.prog 84 [.agg (tyD types[i])] (.agg (tyD types[i])) := fun i h => cTyped (l9 _ (List.getElem_mem h)) (by
    have := ny _ (List.getElem_mem h)
    simp only [mayT, Bool.and_eq_true] at this
    exact this.1.1)
  simp only [tmD, tmsD_eq, sl1]
  generalize (names.map fun s => [S s]) = NL at hNL hpn ⊢
  generalize (vars.map fun s => [S s]) = VL at hVL hpv ⊢
  generalize types.map tyD = YL at hYL hYG hpy ⊢
  generalize subs.map tmD = SL at hSL hSG hps ⊢
  have c1 := fun M Nx => rCloneSX (EL := NL) (by omega) M Nx
  have c2 := fun M Nx => rCloneSX (EL := VL) (by omega) M Nx
  have c3 := fun M Nx => rCloneTyX (EL := YL) (by omega) M Nx
  have c4 := fun M Nx => rCloneTmX (EL := SL) (by omega) M Nx
  refine acalls_vcC [0, 1, 2, 3, 4, 23, 24, 25, 40, 41, 42] Tryz.func49 Tryz.ntmps49 (by kernel_rfl) rfl rfl (by simp) ?_
  simp -dsimp [I, S, set_ne, nn1, n1n]
  refine vdraw_tree [0, 1, 3, 0, 8, 31, 0, 64, 255, 0, 512, 2047, 1759, 8191, 16383, 32767, 65535, 131071, 262143, 524287] (.rd 0 (.rd 1 (.rd 3 (.rd 4 (.rd 6 (.rd 7 (.rd 9 (.rd 10 (.wr (.cons 2 (.rd 12 (.wr (.cons 5 (.wr (.cons 8 (.wr (.cons 11 (.wr (.cons 13 (.rd 14 (.wr (.cons 15 (.rd 16 (.wr (.cons 17 (.rd 18 (.wr (.cons 19 (.fin) (.nil)))) (.nil)))) (.nil)))) (.nil))) (.nil))) (.nil))) (.nil)))) (.nil))))))))))) (by kernel_rfl) (by kernel_rfl) ?_
  generalize hmk : ([0, 1, 3, 0, 8, 31, 0, 64, 255, 0, 512, 2047, 1759, 8191, 16383, 32767, 65535, 131071, 262143, 524287] : List Nat) = mk
  have hb : ([13, 15, 17, 19].all fun i => [1, 4, 7, 10].all fun j => (mk.getD i 0).testBit j) = true := by rw [← hmk]; kernel_rfl
  simp at hb
  simp -dsimp [I, S, set_ne, nn1, n1n]
  refine aCall_of (c1 _ _) ?_
  rintro dN ma na ⟨a1, a2, a3⟩
  have p0 := (a3 n (by omega)).trans (by simp [set_ne, nn1]; rfl)
  have p1 := (a3 (n + 1) (by omega)).trans (set_same _ _ _)
  have oN := okD_lst a1.lst
  refine ⟨fun p hp _ => ?_, ?_⟩
  · simp only [List.mem_cons, List.not_mem_nil, or_false] at hp
    rcases hp with rfl | rfl | rfl | rfl <;> exact a3 _ (by dsimp only; omega)
  simp -dsimp [I, S, p0, p1, set_ne, nn1, n1n]
  refine aCall_of (c2 _ _) ?_
  rintro dV mb nb ⟨b1, b2, b3⟩
  have q0 := (b3 n (by omega)).trans p0
  have q1 := (b3 (n + 1) (by omega)).trans p1
  have oV := okD_lst b1.lst
  refine ⟨fun p hp _ => ?_, ?_⟩
  · simp only [List.mem_cons, List.not_mem_nil, or_false] at hp
    rcases hp with rfl | rfl | rfl | rfl <;> exact b3 _ (by dsimp only; omega)
  simp -dsimp [I, S, q0, q1, set_ne, nn1, n1n]
  refine aCall_of (c3 _ _) ?_
  rintro dY mc nc ⟨d1, d2, d3⟩
  have r0 := (d3 n (by omega)).trans q0
  have r1 := (d3 (n + 1) (by omega)).trans q1
  have oY := okD_lst d1.lst
  have hlY := lenD_lst d1.lst
  refine ⟨fun p hp _ => ?_, ?_⟩
  · simp only [List.mem_cons, List.not_mem_nil, or_false] at hp
    rcases hp with rfl | rfl | rfl | rfl <;> exact d3 _ (by dsimp only; omega)
  simp -dsimp [I, S, r0, r1, set_ne, nn1, n1n]
  refine aCall_of (c4 _ _) ?_
  rintro dS md nd ⟨e1, e2, e3⟩
  have s0 := (e3 n (by omega)).trans r0
  have s1 := (e3 (n + 1) (by omega)).trans r1
  have oS := okD_lst e1.lst
  have hlS := lenD_lst e1.lst
  refine ⟨fun p hp _ => ?_, ?_⟩
  · simp only [List.mem_cons, List.not_mem_nil, or_false] at hp
    rcases hp with rfl | rfl | rfl | rfl <;> exact e3 _ (by dsimp only; omega)
  simp -dsimp [I, S, s0, s1, hb, oN.1, oN.2, oV.1, oV.2, oY.1, oY.2, oS.1, oS.2, hlY, set_ne, nn1, n1n]
  have hC0 : ∀ M, M = md.set n ⟨8, [[I k, I N, S mod, S nm, dN, dV, dY, dS]], 0⟩ → CopL k N mod nm NL VL YL SL dN dV dY dS m n M nd := fun M hM => by
    subst hM
    refine ⟨set_same _ _ _, ?_, ?_, ?_, ?_, ?_, fun j hj => ?_, by omega⟩
    · rw [set_ne _ _ _ _ (by omega)]; exact s1
    · exact a1.low (fun j h1 h2 => by rw [set_ne _ _ _ _ (by omega), e3 j (by omega), d3 j (by omega), b3 j (by omega)]) (by omega) (by omega)
    · exact b1.low (fun j h1 h2 => by rw [set_ne _ _ _ _ (by omega), e3 j (by omega), d3 j (by omega)]) (by omega) (by omega)
    · exact d1.low (fun j h1 h2 => by rw [set_ne _ _ _ _ (by omega), e3 j (by omega)]) (by omega) (by omega)
    · exact e1.low (fun j h1 h2 => by rw [set_ne _ _ _ _ (by omega)]) (by omega) (by omega)
    · rw [set_ne _ _ _ _ (by omega), e3 j (by omega), d3 j (by omega), b3 j (by omega), a3 j (by omega)]
      simp [set_ne, show j ≠ n by omega, show j ≠ n + 1 by omega]
  clear a1 a2 a3 b1 b2 b3 d1 d2 d3 e1 e2 e3 p0 p1 q0 q1 r0 r1 s0 s1
  refine vloop_as (β := Nat) (fun i => [(1, .ptr n 0 0 0), (2, .ptr (n + 1) 0 0 0), (23, I YL.length), (24, I i)]) (fun i M Nx => CopL k N mod nm NL VL YL SL dN dV dY dS m n M Nx ∧ i ≤ YL.length) (fun i => YL.length - i) 0 (by simp [I])
    ⟨hC0 _ (by simp [I, S]), by omega⟩ ?_
  rintro i m2 n2 ⟨⟨o0, o1, lN, lV, lY, lS, hfr, hnn⟩, hle⟩
  by_cases hi : (i : Int) < YL.length
  · have hi' : i < YL.length := by omega
    have his : i < types.length := by omega
    have wi : IntKind.i64.wrap ((i : Int) + 1) = (i : Int) + 1 := wrap_i64 (by omega) (by omega)
    rcases lY with ⟨rfl, _⟩ | ⟨kx, g, rfl, hm, hk1, hk2⟩
    · simp at hi'
    have hgs : YL[i] = tyD types[i] := get_opt (hYG i his) hi'
    have hz : (tyD types[i]).length = 7 := by simp
    have hc := iy' i his
    generalize tyD types[i] = A at hgs hz hc
    have hA : List.take 7 A = A := List.take_of_length_le (by omega)
    have hdA : List.drop 7 A = [] := List.drop_eq_nil_of_le (by omega)
    have x0 : n ≠ kx := by omega
    have x1 : n + 1 ≠ kx := by omega
    simp -dsimp [I, S, hi, o0, o1, set_ne, nn1, n1n]
    refine vdraw_tree [0, 1, 0, 0, 8, 0, 56, 120, 248, 511, 1023] (.rd 0 (.rd 1 (.rd 2 (.rd 3 (.rd 4 (.rd 5 (.rd 6 (.rd 7 (.wr (.cons 8 (.rd 9 (.wr (.cons 10 (.fin) (.nil)))) (.nil))))))))))) (by kernel_rfl) (by kernel_rfl) ?_
    simp -dsimp [I, S, hi, hi', hgs, hz, hA, hdA, o0, o1, hm, wi, set_ne, nn1, n1n, x0, x1, x0.symm, x1.symm]
    refine pcall hc ?_
    refine ⟨fun _ _ _ => rfl, ?_⟩
    simp -dsimp [I, S, hi', hgs, hz, hA, hdA, o0, o1, hm, wi, set_ne, nn1, n1n, x0, x1, x0.symm, x1.symm]
    have hself : YL.set i A = YL := by rw [← hgs]; exact List.set_getElem_self hi'
    rw [hself]
    exact rnd (i + 1) (by omega) (by simp [I]) ⟨⟨by rw [set_ne _ _ _ _ x0]; exact o0, by rw [set_ne _ _ _ _ x1]; exact o1, lN.set hm (by omega), lV.set hm (by omega), .inr ⟨kx, g, rfl, set_same _ _ _, hk1, hk2⟩, lS.set hm (by omega), fun j hj => by rw [set_ne _ _ _ _ (by omega)]; exact hfr j hj, hnn⟩, by omega⟩
  · have e : i = YL.length := by omega
    subst e
    have hlS2 := lenD_lst lS.lst
    simp -dsimp [I, S, hi, o0, o1, hlS2, set_ne, nn1, n1n]
    refine vloop_as (β := Nat) (fun i => [(1, .ptr n 0 0 0), (2, .ptr (n + 1) 0 0 0), (40, I SL.length), (41, I i)]) (fun i M Nx => CopL k N mod nm NL VL YL SL dN dV dY dS m n M Nx ∧ i ≤ SL.length) (fun i => SL.length - i) 0 (by simp [I])
      ⟨⟨o0, o1, lN, lV, lY, lS, hfr, hnn⟩, by omega⟩ ?_
    clear o0 o1 lN lV lY lS hfr hnn hle hi
    rintro i m2 n2 ⟨⟨o0, o1, lN, lV, lY, lS, hfr, hnn⟩, hle⟩
    by_cases hi : (i : Int) < SL.length
    · have hi' : i < SL.length := by omega
      have his : i < subs.length := by omega
      have wi : IntKind.i64.wrap ((i : Int) + 1) = (i : Int) + 1 := wrap_i64 (by omega) (by omega)
      rcases lS with ⟨rfl, _⟩ | ⟨kx, g, rfl, hm, hk1, hk2⟩
      · simp at hi'
      have hgs : SL[i] = tmD subs[i] := get_opt (hSG i his) hi'
      have hz : (tmD subs[i]).length = 8 := by simp
      have hc := ih' i his
      generalize tmD subs[i] = A at hgs hz hc
      have hA : List.take 8 A = A := List.take_of_length_le (by omega)
      have hdA : List.drop 8 A = [] := List.drop_eq_nil_of_le (by omega)
      have x0 : n ≠ kx := by omega
      have x1 : n + 1 ≠ kx := by omega
      simp -dsimp [I, S, hi, o0, o1, set_ne, nn1, n1n]
      refine vdraw_tree [0, 1, 0, 0, 8, 0, 56, 120, 248, 511, 1023] (.rd 0 (.rd 1 (.rd 2 (.rd 3 (.rd 4 (.rd 5 (.rd 6 (.rd 7 (.wr (.cons 8 (.rd 9 (.wr (.cons 10 (.fin) (.nil)))) (.nil))))))))))) (by kernel_rfl) (by kernel_rfl) ?_
      simp -dsimp [I, S, hi, hi', hgs, hz, hA, hdA, o0, o1, hm, wi, set_ne, nn1, n1n, x0, x1, x0.symm, x1.symm]
      refine pcall hc ?_
      refine ⟨fun _ _ _ => rfl, ?_⟩
      simp -dsimp [I, S, hi', hgs, hz, hA, hdA, o0, o1, hm, wi, set_ne, nn1, n1n, x0, x1, x0.symm, x1.symm]
      have hself : SL.set i A = SL := by rw [← hgs]; exact List.set_getElem_self hi'
      rw [hself]
      exact rnd (i + 1) (by omega) (by simp [I]) ⟨⟨by rw [set_ne _ _ _ _ x0]; exact o0, by rw [set_ne _ _ _ _ x1]; exact o1, lN.set hm (by omega), lV.set hm (by omega), lY.set hm (by omega), .inr ⟨kx, g, rfl, set_same _ _ _, hk1, hk2⟩, fun j hj => by rw [set_ne _ _ _ _ (by omega)]; exact hfr j hj, hnn⟩, by omega⟩
    · have e : i = SL.length := by omega
      subst e
      simp -dsimp [I, S, hi, o0, o1, zTo, set_ne, nn1, n1n, oN.1, oN.2, oV.1, oV.2, oY.1, oY.2, oS.1, oS.2]
      refine pcp ?_ fun j hj => by rw [set_ne _ _ _ _ (by omega)]; exact hfr j hj
      refine .agg (.cons (pur_I _).pub (.cons (pur_I _).pub (.cons (pur_S _).pub (.cons (pur_S _).pub (.cons ?_ (.cons ?_ (.cons ?_ (.cons ?_ .nil))))))))
      · exact .lstP (lN.lst.frame fun j hj => set_ne _ _ _ _ (by have := lN.kof j hj; omega)) (fun j hj => by have := lN.kof j hj; omega) hpn
      · exact .lstP (lV.lst.frame fun j hj => set_ne _ _ _ _ (by have := lV.kof j hj; omega)) (fun j hj => by have := lV.kof j hj; omega) hpv
      · exact .lstP (lY.lst.frame fun j hj => set_ne _ _ _ _ (by have := lY.kof j hj; omega)) (fun j hj => by have := lY.kof j hj; omega) hpy
      · exact .lstP (lS.lst.frame fun j hj => set_ne _ _ _ _ (by have := lS.kof j hj; omega)) (fun j hj => by have := lS.kof j hj; omega) hps
end Go.Proofs.Mv.App
open Go Go.Proofs Go.Proofs.Mv.V
set_option maxRecDepth 10000
namespace Go.Proofs.Mv.App
def onceF (l : List Df) (t : Tm) : Int × Bool × Tm := if valT t then (0, false, t) else if (stepT l t).1 ≠ 0 then ((stepT l t).1, false, Tm0) else if mayTm (stepT l t).2 then (0, true, (stepT l t).2) else (3, false, Tm0)
def erC [GI] (c : Int) : D := if c = 0 then nilE else code c
def resTb [GI] (r : Int × Bool × Tm) : D := .tup [.agg (tmD r.2.2), Tt r.2.1, erC r.1]
theorem onceF_z {l : List Df} {t : Tm} (h : (onceF l t).1 ≠ 0) : (onceF l t).2 = (false, Tm0) := by
  unfold onceF at h ⊢
  repeat' split
  all_goals simp_all
theorem pub_resTb [GI] {n : Nat} {m : Mem} {d : D} {b : Bool} {e : D} {r : Int × Bool × Tm} (h1 : PubAs n m d (.agg (tmD r.2.2))) (h2 : b = r.2.1) (h3 : e = erC r.1) : PubAs n m (.tup [d, .v (.bool b), e]) (resTb r) := by
  subst h2 h3
  refine .tup (.cons h1 (.cons (pur_T _).pub (.cons ?_ .nil)))
  unfold erC
  split
  · exact (Pur.v _).pub
  · exact (Pur.iface (Pur.v _)).pub
set_option maxHeartbeats 4000000 in
theorem cOnce {l : List Df} (hl : l.length ≤ 9223372036854775807) (hd : ∀ d ∈ l, TmW d.term) {t : Tm} (ht : TmW t) (ha : allTm t = true) : Pc Tryz.prog 48 [.sl 10 (l.map dfD), .agg (tmD t)] (resTb (onceF l t)) := by
  refine pc_pub (fun m n => ?_)
  have nn1 : n ≠ n + 1 := by omega
  have n1n : n + 1 ≠ n := by omega
  have nn2 : n ≠ n + 1 + 1 := by omega
  have n2n : n + 1 + 1 ≠ n := by omega
  have n12 : n + 1 ≠ n + 1 + 1 := by omega
  have n21 : n + 1 + 1 ≠ n + 1 := by omega
  have hdn := cDone ht
  have hst := cStepT cWout hl ht ha
  have hw2 : TmW (stepT l t).2 := her_step her_w hd (.mk _ _ _ _ _ _ _ _ (by simp) (by simp) (by simp) (by simp) (by simp) (by simp) (by simp) (by simp) (by simp) (by simp)) t ht
  have hmy := cMayTm hw2
  have h8 : (tmD t).length = 8 := by simp
  have hpt := pur_tmA t
  have h82 : (tmD (stepT l t).2).length = 8 := by simp
  have hp2 := pur_tmA (stepT l t).2
  obtain ⟨X, E, hr, hX8, hXp, hEp, hok, her⟩ := resTm_tup (stepT l t)
  rw [hr] at hst
  have hP1 : ∀ T, T = tmD t → ∀ n (m : Mem), PubAs n m (.agg T) (.agg (tmD t)) := fun T h n m => by subst h; exact hpt.pub
  have hP2 : ∀ T, T = tmD (stepT l t).2 → ∀ n (m : Mem), PubAs n m (.agg T) (.agg (tmD (stepT l t).2)) := fun T h n m => by subst h; exact hp2.pub
  have hX : List.take 8 X = X := List.take_of_length_le (by omega)
  cases hv : valT t with
  | true =>
    rw [hv] at hdn
    have ho : onceF l t = (0, false, t) := by simp [onceF, hv]
    rw [ho]
    generalize hTT : tmD t = T at hdn hst h8
    have hT : List.take 8 T = T := List.take_of_length_le (by omega)
    refine acalls_vcC [0, 1, 3, 4, 5, 6, 7, 8, 10, 18, 23] Tryz.func48 Tryz.ntmps48 (by kernel_rfl) rfl rfl (by simp) ?_
    simp -dsimp [h8, hT, set_ne, nn1, n1n]
    refine pcall hdn ?_
    simp -dsimp [Tt, h8, hT, set_ne, nn1, n1n]
    exact pcp (pub_resTb (r := (0, false, t)) (hP1 T hTT.symm _ _) rfl rfl) fun j hj => by simp [set_ne, show j ≠ n by omega, show j ≠ n + 1 by omega]
  | false =>
    rw [hv] at hdn
    by_cases h0 : (stepT l t).1 = 0
    · obtain ⟨hXX, rfl⟩ := hok h0
      rw [← hXX] at hmy
      cases hm : mayTm (stepT l t).2 with
      | true =>
        rw [hm] at hmy
        have ho : onceF l t = (0, true, (stepT l t).2) := by simp [onceF, hv, h0, hm]
        rw [ho]
        generalize hTT : tmD t = T at hdn hst h8
        have hT : List.take 8 T = T := List.take_of_length_le (by omega)
        refine acalls_vcC [0, 1, 3, 4, 5, 6, 7, 8, 10, 18, 23] Tryz.func48 Tryz.ntmps48 (by kernel_rfl) rfl rfl (by simp) ?_
        simp -dsimp [h8, hT, set_ne, nn1, n1n]
        refine pcall hdn ?_
        simp -dsimp [Tt, h8, hT, set_ne, nn1, n1n]
        refine pcall hst ?_
        simp -dsimp [Tt, h8, hT, hX8, hX, set_ne, nn1, n1n, nn2, n2n, n12, n21]
        refine pcall hmy ?_
        simp -dsimp [Tt, h8, hT, hX8, hX, set_ne, nn1, n1n, nn2, n2n, n12, n21]
        exact pcp (pub_resTb (r := (0, true, (stepT l t).2)) (hP2 X hXX _ _) rfl rfl) fun j hj => by simp [set_ne, show j ≠ n by omega, show j ≠ n + 1 by omega, show j ≠ n + 1 + 1 by omega]
      | false =>
        rw [hm] at hmy
        have ho : onceF l t = (3, false, Tm0) := by simp [onceF, hv, h0, hm]
        rw [ho]
        generalize hTT : tmD t = T at hdn hst h8
        have hT : List.take 8 T = T := List.take_of_length_le (by omega)
        refine acalls_vcC [0, 1, 3, 4, 5, 6, 7, 8, 10, 18, 23] Tryz.func48 Tryz.ntmps48 (by kernel_rfl) rfl rfl (by simp) ?_
        simp -dsimp [h8, hT, set_ne, nn1, n1n]
        refine pcall hdn ?_
        simp -dsimp [Tt, h8, hT, set_ne, nn1, n1n]
        refine pcall hst ?_
        simp -dsimp [Tt, h8, hT, hX8, hX, set_ne, nn1, n1n, nn2, n2n, n12, n21]
        refine pcall hmy ?_
        simp -dsimp [Tt, h8, hT, hX8, hX, set_ne, nn1, n1n, nn2, n2n, n12, n21]
        exact pcp (pub_resTb (r := (3, false, Tm0)) pub_zt rfl (by simp [erC, code])) fun j hj => by simp [set_ne, show j ≠ n by omega, show j ≠ n + 1 by omega, show j ≠ n + 1 + 1 by omega]
    · obtain ⟨hXX, rfl⟩ := her h0
      have ho : onceF l t = ((stepT l t).1, false, Tm0) := by simp [onceF, hv, h0]
      rw [ho]
      generalize hTT : tmD t = T at hdn hst h8
      have hT : List.take 8 T = T := List.take_of_length_le (by omega)
      refine acalls_vcC [0, 1, 3, 4, 5, 6, 7, 8, 10, 18, 23] Tryz.func48 Tryz.ntmps48 (by kernel_rfl) rfl rfl (by simp) ?_
      simp -dsimp [h8, hT, set_ne, nn1, n1n]
      refine pcall hdn ?_
      simp -dsimp [Tt, h8, hT, set_ne, nn1, n1n]
      refine pcall hst ?_
      simp -dsimp [Tt, h8, hT, hX8, hX, set_ne, nn1, n1n, nn2, n2n, n12, n21]
      exact pcp (pub_resTb (r := ((stepT l t).1, false, Tm0)) pub_zt rfl (by simp [erC, code, h0])) fun j hj => by simp [set_ne, show j ≠ n by omega, show j ≠ n + 1 by omega, show j ≠ n + 1 + 1 by omega]
def stpF (l : List Df) (t : Tm) : Int × Bool × Tm := if fairF l t then onceF l t else (1, false, Tm0)
theorem fair_all {l : List Df} {t : Tm} (h : fairF l t = true) : allTm t = true := by
  simp only [fairF, mayTm, Bool.and_eq_true] at h
  exact h.1.1.1.1.1
theorem tmw0 : TmW Tm0 := .mk _ _ _ _ _ _ _ _ (by simp) (by simp) (by simp) (by simp) (by simp) (by simp) (by simp) (by simp) (by simp) (by simp)
theorem once_w {l : List Df} (hd : ∀ d ∈ l, TmW d.term) {t : Tm} (ht : TmW t) : TmW (onceF l t).2.2 := by
  unfold onceF
  repeat' split
  · exact ht
  · exact tmw0
  · exact her_step her_w hd tmw0 t ht
  · exact tmw0
theorem once_c {l : List Df} (hd : ∀ d ∈ l, TmC d.term) {t : Tm} (ht : TmC t) : TmC (onceF l t).2.2 := by
  unfold onceF
  repeat' split
  · exact ht
  · exact tmc0
  · exact her_step her_c hd tmc0 t ht
  · exact tmc0
theorem fair_defs {l : List Df} {t : Tm} (h : fairF l t = true) : ∀ d ∈ l, TmC d.term := fun d hd => by
  simp only [fairF, Bool.and_eq_true, List.all_eq_true] at h
  have := h.2 d hd
  simp only [valF, mayTm, Bool.and_eq_true] at this
  exact all_c _ this.1.1.1.1
set_option maxHeartbeats 4000000 in
theorem cStepR {l : List Df} (hl : l.length ≤ 9223372036854775807) (hd : ∀ d ∈ l, TmW d.term) {t : Tm} (ht : TmW t) : Pc Tryz.prog 23 [.sl 10 (l.map dfD), .agg (tmD t)] (resTb (stpF l t)) := by
  refine pc_pub (fun m n => ?_)
  have nn1 : n ≠ n + 1 := by omega
  have n1n : n + 1 ≠ n := by omega
  have nn2 : n ≠ n + 1 + 1 := by omega
  have n2n : n + 1 + 1 ≠ n := by omega
  have n12 : n + 1 ≠ n + 1 + 1 := by omega
  have n21 : n + 1 + 1 ≠ n + 1 := by omega
  have hfr := cFairW hl hd ht
  have h8 : (tmD t).length = 8 := by simp
  cases hf : fairF l t with
  | false =>
    rw [hf] at hfr
    have ho : stpF l t = (1, false, Tm0) := by simp [stpF, hf]
    rw [ho]
    generalize tmD t = T at hfr h8
    have hT : List.take 8 T = T := List.take_of_length_le (by omega)
    refine acalls_vcC [0, 1, 3, 4, 5, 6, 7, 8, 9, 13, 24] Tryz.func23 Tryz.ntmps23 (by kernel_rfl) rfl rfl (by simp) ?_
    simp -dsimp [h8, hT, set_ne, nn1, n1n]
    refine pcall hfr ?_
    simp -dsimp [Tt, h8, hT, set_ne, nn1, n1n]
    exact pcp (pub_resTb (r := (1, false, Tm0)) pub_zt rfl (by simp [erC, code])) fun j hj => by simp [set_ne, show j ≠ n by omega, show j ≠ n + 1 by omega]
  | true =>
    rw [hf] at hfr
    have hon := cOnce hl hd ht (fair_all hf)
    have hcp := cCopied (once_w hd ht) (once_c (fair_defs hf) (all_c t (fair_all hf)))
    have ho : stpF l t = onceF l t := by simp [stpF, hf]
    rw [ho]
    have hz := onceF_z (l := l) (t := t)
    unfold resTb at hon
    have hX8 : (tmD (onceF l t).2.2).length = 8 := by simp
    have hpX := pur_tmA (onceF l t).2.2
    have hP : ∀ T, T = tmD (onceF l t).2.2 → ∀ n (m : Mem), PubAs n m (.agg T) (.agg (tmD (onceF l t).2.2)) := fun T h n m => by subst h; exact hpX.pub
    generalize hXX : tmD (onceF l t).2.2 = X at hon hcp hX8
    have hX : List.take 8 X = X := List.take_of_length_le (by omega)
    generalize tmD t = T at hfr hon h8
    have hT : List.take 8 T = T := List.take_of_length_le (by omega)
    by_cases h0 : (onceF l t).1 = 0
    · rw [h0] at hon
      have hE : erC (0 : Int) = .v .nilIface := by simp [erC, nilE]
      rw [hE] at hon
      refine acalls_vcC [0, 1, 3, 4, 5, 6, 7, 8, 9, 13, 24] Tryz.func23 Tryz.ntmps23 (by kernel_rfl) rfl rfl (by simp) ?_
      simp -dsimp [h8, hT, set_ne, nn1, n1n]
      refine pcall hfr ?_
      simp -dsimp [Tt, h8, hT, set_ne, nn1, n1n]
      refine pcall hon ?_
      simp -dsimp [Tt, h8, hT, hX8, hX, set_ne, nn1, n1n, nn2, n2n, n12, n21]
      refine pcall hcp ?_
      simp -dsimp [Tt, h8, hT, hX8, hX, set_ne, nn1, n1n, nn2, n2n, n12, n21]
      exact pcp (pub_resTb (hP X hXX.symm _ _) rfl (by rw [h0]; simp [erC, nilE])) fun j hj => by simp [set_ne, show j ≠ n by omega, show j ≠ n + 1 by omega, show j ≠ n + 1 + 1 by omega]
    · have hE : erC (onceF l t).1 = .iface 39 (.v (.int .i64 (onceF l t).1)) := by simp [erC, code, h0]
      rw [hE] at hon
      have hz := hz h0
      refine acalls_vcC [0, 1, 3, 4, 5, 6, 7, 8, 9, 13, 24] Tryz.func23 Tryz.ntmps23 (by kernel_rfl) rfl rfl (by simp) ?_
      simp -dsimp [h8, hT, set_ne, nn1, n1n]
      refine pcall hfr ?_
      simp -dsimp [Tt, h8, hT, set_ne, nn1, n1n]
      refine pcall hon ?_
      simp -dsimp [Tt, h8, hT, hX8, hX, set_ne, nn1, n1n, nn2, n2n, n12, n21]
      exact pcp (pub_resTb (by rw [hz]; exact pub_zt) (by rw [hz]) hE.symm) fun j hj => by simp [set_ne, show j ≠ n by omega, show j ≠ n + 1 by omega, show j ≠ n + 1 + 1 by omega]
end Go.Proofs.Mv.App
