/- A part of the proofs: machine, contracts, laws. No condition of its own. -/
import Derived.Test.YtihbegkefjjhpaaGreatDoorP16
set_option linter.unusedSimpArgs false
set_option linter.unusedVariables false
set_option linter.unusedSectionVars false
open Go Go.Proofs Go.Proofs.Mv.V
namespace Go.Proofs.Mv.App
inductive TmC : Tm → Prop where
  | mk (k N : Int) (mod nm : List UInt8) (names vars : List (List UInt8)) (types : List Ty) (subs : List Tm) (h3 : k = 3 → subs = []) (h12 : k = 12 → subs.length = vars.length + 1)
      (ln : names.length ≤ 21) (lv : vars.length ≤ 21) (ly : types.length ≤ 21) (ls : subs.length ≤ 21) (ny : ∀ y ∈ types, mayT y = true) (hs : ∀ t ∈ subs, TmC t) : TmC (.mk k N mod nm names vars types subs)
theorem her_c : Her TmC := by
  refine ⟨fun h s hs => ?_, fun h e hs => ?_⟩
  · cases h with
    | mk _ _ _ _ _ _ _ _ h3 h12 ln lv ly ls ny h => exact h s hs
  · cases h with
    | mk _ _ _ _ _ _ _ _ h3 h12 ln lv ly ls ny h => exact .mk _ _ _ _ _ _ _ _ (fun k => by rw [h3 k, List.length_nil] at e; exact List.length_eq_zero_iff.1 e) (fun k => by rw [e]; exact h12 k) ln lv ly (by omega) ny hs
theorem tmc0 : TmC Tm0 := .mk _ _ _ _ _ _ _ _ (by simp) (by simp) (by simp) (by simp) (by simp) (by simp) (by simp) (by simp)
mutual
theorem all_c : ∀ t : Tm, allTm t = true → TmC t
  | .mk k N mod nm names vars types subs, h => by
    simp only [allTm, Bool.and_eq_true] at h
    obtain ⟨kk, sm⟩ := shapeTm_parts h.1
    have cn := kk.cn
    refine .mk _ _ _ _ _ _ _ _ (fun e => ?_) (fun e => ?_) sm.ln sm.lv sm.ly sm.ls sm.ny (alls_c subs h.2)
    · subst e
      simp only [cntK] at cn
      exact List.length_eq_zero_iff.1 (by omega)
    · subst e
      simp only [cntK] at cn
      omega
theorem alls_c : ∀ l : List Tm, allTms l = true → ∀ t ∈ l, TmC t
  | [], _ => fun t ht => by cases ht
  | x :: l, h => by
    simp only [allTms, Bool.and_eq_true] at h
    intro t ht
    rcases List.mem_cons.1 ht with e | ht
    · rw [e]; exact all_c x h.1
    · exact alls_c l h.2 t ht
end
end Go.Proofs.Mv.App
open Go Go.Proofs Go.Proofs.Mv.V
set_option maxRecDepth 10000
namespace Go.Proofs.Mv.App
def resTm [GI] (r : Int × Tm) : D := if r.1 = 0 then .tup [.agg (tmD r.2), nilE] else .tup [.agg (tmD Tm0), code r.1]
theorem pub_zt [GI] {n : Nat} {m : Mem} : PubAs n m (.agg [.v (.int .i64 0), .v (.int .i64 0), .v (.string (ofL [])), .v (.string (ofL [])), .v (.slice none 0 0), .v (.slice none 0 0), .v (.slice none 0 0), .v (.slice none 0 0)]) (.agg (tmD Tm0)) := by
  rw [tmD_zero]
  refine .agg (.cons (Pur.v _).pub (.cons (Pur.v _).pub (.cons (Pur.v _).pub (.cons (Pur.v _).pub (.cons ?_ (.cons ?_ (.cons ?_ (.cons ?_ .nil)))))))) <;> exact PubAs.le (Pur.v _).pub (Le_nil _)
theorem pub_res_er [GI] {n : Nat} {m : Mem} {r : Int × Tm} (h : r.1 ≠ 0) : PubAs n m (.tup [.agg [.v (.int .i64 0), .v (.int .i64 0), .v (.string (ofL [])), .v (.string (ofL [])), .v (.slice none 0 0), .v (.slice none 0 0), .v (.slice none 0 0), .v (.slice none 0 0)], .iface 39 (.v (.int .i64 r.1))]) (resTm r) := by
  rw [resTm, if_neg h]
  exact .tup (.cons pub_zt (.cons (Pur.iface (Pur.v _)).pub .nil))
theorem pub_res_ok [GI] {n : Nat} {m : Mem} {r : Int × Tm} {d : D} (h : r.1 = 0) (hd : PubAs n m d (.agg (tmD r.2))) : PubAs n m (.tup [d, .v .nilIface]) (resTm r) := by
  rw [resTm, if_pos h]
  exact .tup (.cons hd (.cons (Pur.v _).pub .nil))
theorem resTm_tup [GI] (r : Int × Tm) : ∃ X E, resTm r = .tup [.agg X, E] ∧ X.length = 8 ∧ Pur (.agg X) ∧ Pur E ∧ (r.1 = 0 → X = tmD r.2 ∧ E = .v .nilIface) ∧ (r.1 ≠ 0 → X = tmD Tm0 ∧ E = .iface 39 (.v (.int .i64 r.1))) := by
  by_cases h : r.1 = 0
  · exact ⟨tmD r.2, .v .nilIface, by rw [resTm, if_pos h]; rfl, by simp, pur_tmA _, Pur.v _, fun _ => ⟨rfl, rfl⟩, fun h' => absurd h h'⟩
  · exact ⟨tmD Tm0, _, by rw [resTm, if_neg h]; rfl, by simp, pur_tmA _, Pur.iface (Pur.v _), fun h' => absurd h' h, fun _ => ⟨rfl, rfl⟩⟩
theorem findI_idx (x : List UInt8) : ∀ l : Nms, findI (fun s => decide (s = x)) l = if x ∈ l then (l.idxOf x : Int) else -1
  | [] => by simp [findI]
  | y :: l => by
    by_cases h : y = x
    · subst h; simp [findI]
    · have h' : ¬ x = y := fun e => h e.symm
      have ih := findI_idx x l
      by_cases hm : x ∈ l
      · rw [if_pos hm] at ih
        rw [if_pos (by simp [hm])]
        simp [findI, h, ih, List.idxOf_cons, show (y == x) = false by simpa using h]
      · rw [if_neg hm] at ih
        rw [if_neg (by simp [hm, h'])]
        simp [findI, h, ih]
def meansF (defs : List Df) (mod nm : List UInt8) : Int × Tm := match defF defs mod nm with | some d => (0, d.term) | none => (9, Tm0)
theorem findI_defF {mod nm : List UInt8} : ∀ {l : List Df}, (defF l mod nm = none ∧ findI (fun b => decide (b.mod = mod) && decide (b.name = nm)) l = -1) ∨ ∃ (i : Nat) (h : i < l.length), findI (fun b : Df => decide (b.mod = mod) && decide (b.name = nm)) l = i ∧ defF l mod nm = some l[i]
  | [] => .inl ⟨rfl, by simp [findI]⟩
  | x :: l => by
    by_cases hx : (decide (x.mod = mod) && decide (x.name = nm)) = true
    · exact .inr ⟨0, by simp, by simp only [findI, hx]; simp, by simp only [defF, List.find?_cons, hx]; simp⟩
    rcases findI_defF (l := l) (nm := nm) (mod := mod) with ⟨h1, h2⟩ | ⟨i, hi, h1, h2⟩
    · have hx' := Bool.eq_false_iff.2 hx
      refine .inl ⟨?_, ?_⟩
      · unfold defF at h1 ⊢; simp only [List.find?_cons, hx']; exact h1
      · simp only [findI, hx]; simp [h2]
    · have hx' := Bool.eq_false_iff.2 hx
      refine .inr ⟨i + 1, by simpa using hi, ?_, ?_⟩
      · simp only [findI, hx]; simp [h1]
      · unfold defF at h2 ⊢; simp only [List.find?_cons, hx']; simpa using h2
set_option maxHeartbeats 1000000 in
theorem cMeans {l : List Df} (hl : l.length ≤ 9223372036854775807) {k N : Int} {mod nm : List UInt8} {names vars : Nms} {types : List Ty} {subs : List Tm} :
    Pc Tryz.prog 163 [.sl 10 (l.map dfD), .agg (tmD (.mk k N mod nm names vars types subs))] (resTm (meansF l mod nm)) := by
  refine pc_pub (fun m n => ?_)
  have nn1 : n ≠ n + 1 := by omega
  have n1n : n + 1 ≠ n := by omega
  have hc := fun (M : Mem) (Nx : Nat) (h1 : n < Nx) (h2 : M n = some ⟨8, [tmD (.mk k N mod nm names vars types subs)], 0⟩) => cIdxDfA (l := l) (q := fun b => decide (b.mod = mod) && decide (b.name = nm)) (fp := 191) (cs := [.ptr n 0 0 0]) (m := M) (n := Nx) (by simp) (fun x hx => by
      simp only [tmD] at h2
      exact cMeans1 h1 h2) hl
  have hLL : (l.map dfD).length = l.length := by simp
  have hLG : ∀ i (h : i < l.length), (l.map dfD)[i]? = some (dfD l[i]) := fun i h => by simp [h]
  have h8 : (tmD (.mk k N mod nm names vars types subs)).length = 8 := by simp
  have hcs := findI_defF (l := l) (nm := nm) (mod := mod)
  generalize findI (fun b : Df => decide (b.mod = mod) && decide (b.name = nm)) l = FI at hc hcs
  generalize tmD (.mk k N mod nm names vars types subs) = X at h8 hc
  have hX : List.take 8 X = X := List.take_of_length_le (by omega)
  refine acalls_vcC [0, 1, 3, 4, 5, 6, 11] Tryz.func163 Tryz.ntmps163 (by kernel_rfl) rfl rfl (by simp) ?_
  simp -dsimp [h8, hX, set_ne, nn1, n1n]
  refine pcallAt (hc _ _ (by omega) (by simp [set_ne, nn1])) ?_
  rcases hcs with ⟨hf, he⟩ | ⟨i, hi, he, hf⟩
  · subst he
    simp -dsimp [h8, hX, I, set_ne, nn1, n1n]
    refine pcp ?_ fun j hj => by simp [set_ne, show j ≠ n by omega, show j ≠ n + 1 by omega]
    have : meansF l mod nm = (9, Tm0) := by unfold meansF; rw [hf]
    rw [this]
    exact pub_res_er (r := (9, Tm0)) (by simp)
  · subst he
    have hneg : ¬ (i : Int) < 0 := by omega
    have hiL : i < (l.map dfD).length := by simpa using hi
    have hgi : (l.map dfD)[i] = dfD l[i] := get_opt (hLG i hi) hiL
    have hz : (tmD l[i].term).length = 8 := by simp
    have hpY := pur_tmA l[i].term
    simp only [dfD] at hgi
    have hm : meansF l mod nm = (0, l[i].term) := by unfold meansF; rw [hf]
    rw [hm]
    have hres : PubAs n (m := m) (.agg (tmD l[i].term)) (.agg (tmD (((0 : Int), l[i].term) : Int × Tm).2)) := hpY.pub
    have hY2 : ∀ Y, Y = tmD l[i].term → ∀ n (m : Mem), PubAs n m (.agg Y) (.agg (tmD (((0 : Int), l[i].term) : Int × Tm).2)) := fun Y h n m => by subst h; exact hpY.pub
    generalize hYY : tmD l[i].term = Y at hgi hz
    have hY : List.take 8 Y = Y := List.take_of_length_le (by omega)
    generalize l.map dfD = LL at hLL hiL hgi
    simp -dsimp [h8, hX, I, S, hneg, hiL, hgi, hz, hY, set_ne, nn1, n1n]
    exact pcp (pub_res_ok rfl (hY2 Y hYY.symm _ _)) fun j hj => by simp [set_ne, show j ≠ n by omega, show j ≠ n + 1 by omega]
end Go.Proofs.Mv.App
open Go Go.Proofs Go.Proofs.Mv.V
set_option maxRecDepth 10000
namespace Go.Proofs.Mv.App
def calledF (subs : List Tm) : Int × Tm := if kindTmK (subs.headD Tm0) = 8 ∧ (namesT (subs.headD Tm0)).length = subs.length - 1 then (0, putT ((kidsT (subs.headD Tm0)).headD Tm0) ((namesT (subs.headD Tm0)).zip subs.tail)) else (12, Tm0)
structure CalL [GI] (k N : Int) (mod nm : List UInt8) (NL VL YL SL : List (List D)) (k' N' : Int) (mod' nm' : List UInt8) (NL' VL' YL' SL' : List (List D)) (L : List Bnd) (m : Mem) (n : Nat) (b : Nat × D) (m2 : Mem) (n2 : Nat) : Prop where
  o0 : m2 n = some ⟨8, [[I k, I N, S mod, S nm, .sl 1 NL, .sl 1 VL, .sl 7 YL, .sl 8 SL]], 0⟩
  o1 : m2 (n + 1) = some zTo
  o2 : m2 (n + 1 + 1) = some ⟨8, [[I k', I N', S mod', S nm', .sl 1 NL', .sl 1 VL', .sl 7 YL', .sl 8 SL']], 0⟩
  fr : ∀ j, j < n → m2 j = m j
  nn : n + 3 ≤ n2
  le : b.1 ≤ L.length
  ls : Lst m2 9 ((L.take b.1).map bndD) b.2
  kf : ∀ j, kof b.2 = some j → n + 3 ≤ j ∧ j < n2
set_option maxHeartbeats 4000000 in
theorem cCalled (hwo : WoutC) {k N : Int} {mod nm : List UInt8} {names vars : Nms} {types : List Ty} {subs : List Tm} (hw : ∀ s ∈ subs, TmW s) (ha : ∀ s ∈ subs, allTm s = true) (hne : subs ≠ []) (hsl : subs.length ≤ 21) :
    Pc Tryz.prog 164 [.agg (tmD (.mk k N mod nm names vars types subs))] (resTm (calledF subs)) := by
  refine pc_pub (fun m n => ?_)
  have nn1 : n ≠ n + 1 := by omega
  have n1n : n + 1 ≠ n := by omega
  have nn2 : n ≠ n + 1 + 1 := by omega
  have n2n : n + 1 + 1 ≠ n := by omega
  have n12 : n + 1 ≠ n + 1 + 1 := by omega
  have n21 : n + 1 + 1 ≠ n + 1 := by omega
  obtain ⟨c, args, rfl⟩ : ∃ c args, subs = c :: args := by
    cases subs with
    | nil => exact absurd rfl hne
    | cons c args => exact ⟨c, args, rfl⟩
  clear hne
  have hcw := hw c (by simp)
  have hca := ha c (by simp)
  obtain ⟨k', N', mod', nm', names', vars', types', subs'⟩ := c
  have hSL : ((Tm.mk k' N' mod' nm' names' vars' types' subs' :: args).map tmD).length = args.length + 1 := by simp
  have hS0 : ((Tm.mk k' N' mod' nm' names' vars' types' subs' :: args).map tmD)[0]? = some (tmD (.mk k' N' mod' nm' names' vars' types' subs')) := by simp
  have hSG : ∀ i (h : i < args.length), ((Tm.mk k' N' mod' nm' names' vars' types' subs' :: args).map tmD)[i + 1]? = some (tmD args[i]) := fun i h => by simp [h]
  have hal : args.length ≤ 20 := by simp at hsl; omega
  simp only [calledF, List.headD_cons, kindTmK, namesT, kidsT, List.tail_cons, List.length_cons, Nat.add_sub_cancel]
  simp only [tmD, tmsD_eq, sl1]
  generalize hNM : (names.map fun s => [S s]) = NM
  generalize hVV : (vars.map fun s => [S s]) = VL
  generalize hYY : types.map tyD = YL
  generalize hSS : ((Tm.mk k' N' mod' nm' names' vars' types' subs' :: args).map tmD) = SL at hSL hS0 hSG ⊢
  have hiS0 : 0 < SL.length := by omega
  have hgs0 : SL[0] = tmD (.mk k' N' mod' nm' names' vars' types' subs') := get_opt hS0 hiS0
  have hNL' : (names'.map fun s => [S s]).length = names'.length := by simp
  have hNG' : ∀ i (h : i < names'.length), (names'.map fun s => [S s])[i]? = some [S names'[i]] := fun i h => by simp [h]
  have hgs : ∀ i (h : i < args.length) (h' : i + 1 < SL.length), SL[i + 1] = tmD args[i] := fun i h h' => get_opt (hSG i h) h'
  have hbd : kindTmK (.mk k' N' mod' nm' names' vars' types' subs') = 8 → ∃ body, subs' = [body] ∧ TmW body ∧ allTm body = true := fun h8 => by
    simp only [kindTmK] at h8
    subst h8
    simp only [allTm, Bool.and_eq_true] at hca
    obtain ⟨kk, sm⟩ := shapeTm_parts hca.1
    have cn := kk.cn
    simp only [cntK] at cn
    obtain ⟨body, rfl⟩ := List.length_eq_one_iff.1 (show subs'.length = 1 by omega)
    refine ⟨body, rfl, ?_, ?_⟩
    · cases hcw with
      | mk _ _ _ _ _ _ _ _ l1 l2 l3 l4 l5 l6 l7 l8 l9 l10 => exact l10 body (by simp)
    · have := hca.2; simp only [allTms, Bool.and_true] at this; exact this
  simp only [kindTmK] at hbd
  simp only [tmD, tmsD_eq, sl1] at hgs0
  generalize hNN' : (names'.map fun s => [S s]) = NL' at hNL' hNG' hgs0
  generalize hVV' : (vars'.map fun s => [S s]) = VL' at hgs0
  generalize hYY' : types'.map tyD = YL' at hgs0
  by_cases k8 : k' = 8
  case neg =>
    have b8 : (k' == 8) = false := by simpa using k8
    have bn8 : (k' != 8) = true := by simpa using k8
    generalize hSS' : subs'.map tmD = SL' at hgs0
    rw [if_neg (fun h => k8 h.1)]
    refine acalls_vcC [0, 1, 2, 3, 4, 5, 6, 7, 24, 28, 29, 30, 31] Tryz.func164 Tryz.ntmps164 (by kernel_rfl) rfl rfl (by simp) ?_
    simp -dsimp [I, S, hiS0, hgs0, k8, b8, bn8, set_ne, nn1, n1n, nn2, n2n, n12, n21]
    refine pcp ?_ fun j hj => by simp [set_ne, show j ≠ n by omega, show j ≠ n + 1 by omega, show j ≠ n + 1 + 1 by omega]
    exact pub_res_er (r := (12, Tm0)) (by simp)
  subst k8
  obtain ⟨body, rfl, hbw, hba⟩ := hbd rfl
  simp only [List.map_cons, List.map_nil] at hgs0
  have w1 : IntKind.i64.wrap (args.length : Int) = args.length := wrap_i64 (by omega) (by omega)
  by_cases hlen : names'.length = args.length
  case neg =>
    have hlen' : ¬ (names'.length : Int) = args.length := by omega
    have hlenb : ((names'.length : Int) != args.length) = true := by simpa using hlen'
    rw [if_neg (fun h => hlen h.2)]
    refine acalls_vcC [0, 1, 2, 3, 4, 5, 6, 7, 24, 28, 29, 30, 31] Tryz.func164 Tryz.ntmps164 (by kernel_rfl) rfl rfl (by simp) ?_
    simp -dsimp [I, S, hiS0, hgs0, hSL, hNL', w1, hlen, hlen', hlenb, set_ne, nn1, n1n, nn2, n2n, n12, n21]
    refine pcp ?_ fun j hj => by simp [set_ne, show j ≠ n by omega, show j ≠ n + 1 by omega, show j ≠ n + 1 + 1 by omega]
    exact pub_res_er (r := (12, Tm0)) (by simp)
  rw [if_pos ⟨rfl, hlen⟩]
  simp only [List.headD_cons]
  have hZL : (names'.zip args).length = args.length := by simp [hlen]
  have hZG : ∀ i (h : i < args.length), (names'.zip args)[i]? = some (names'[i]'(by omega), args[i]) := fun i h => by
    rw [List.getElem?_zip_eq_some]
    simp [h, show i < names'.length by omega]
  have hput := cPutT hwo hbw (l := names'.zip args) hba (by omega)
  have hpb := pur_tmA body
  have hb8 : (tmD body).length = 8 := by simp
  have hrP := pur_tmA (putT body (names'.zip args))
  have hr8 : (tmD (putT body (names'.zip args))).length = 8 := by simp
  generalize hBB : tmD body = B at hgs0 hput hpb hb8
  have hB : List.take 8 B = B := List.take_of_length_le (by omega)
  refine acalls_vcC [0, 1, 2, 3, 4, 5, 6, 7, 24, 28, 29, 30, 31] Tryz.func164 Tryz.ntmps164 (by kernel_rfl) rfl rfl (by simp) ?_
  simp -dsimp [I, S, hiS0, hgs0, hSL, hNL', w1, hlen, set_ne, nn1, n1n, nn2, n2n, n12, n21]
  refine vloop_as (β := Nat × D) (fun b => [(1, .ptr n 0 0 0), (2, .ptr (n + 1) 0 0 0), (4, .ptr (n + 1 + 1) 0 0 0), (5, b.2), (28, .sl 1 NL'), (29, I args.length), (30, I b.1)])
    (CalL k N mod nm NM VL YL SL 8 N' mod' nm' NL' VL' YL' [B] (names'.zip args) m n) (fun b => args.length - b.1) (0, .v (.slice none 0 0)) (by simp [I])
    ⟨by simp [set_ne, I, S, nn1, nn2], by simp [set_ne, zTo, n12], by simp [I, S], fun j hj => by simp [set_ne, show j ≠ n by omega, show j ≠ n + 1 by omega, show j ≠ n + 1 + 1 by omega], by omega, by omega, by simp; exact .nil, by simp [kof]⟩ ?_
  rintro ⟨i, d⟩ m2 n2 ⟨o0, o1, o2, hfr, hnn, hle, hls, hkf⟩
  simp only at hle hls hkf
  rw [hZL] at hle
  by_cases hi : (i : Int) < args.length
  · have hi' : i < args.length := by omega
    have wi : IntKind.i64.wrap ((i : Int) + 1) = (i : Int) + 1 := wrap_i64 (by omega) (by omega)
    have hiN : i < NL'.length := by omega
    have hgn : NL'[i] = [S (names'[i]'(by omega))] := get_opt (hNG' i (by omega)) hiN
    have hiS : i + 1 < SL.length := by omega
    have hiS' : (i : Int) + 1 < SL.length := by omega
    have hgsi := hgs i hi' hiS
    have hzA : (tmD args[i]).length = 8 := by simp
    have hzip : ((names'.zip args).take (i + 1)).map bndD = ((names'.zip args).take i).map bndD ++ [S (names'[i]'(by omega)) :: tmD args[i]] := by
      rw [List.take_succ_eq_append_getElem (by omega), List.map_append]
      simp [bndD]
    have hRl : (((names'.zip args).take i).map bndD).length = i := by simp; omega
    generalize ((names'.zip args).take i).map bndD = RL at hls hzip hRl
    generalize tmD args[i] = A at hgsi hzA hzip
    have hA : List.take 8 A = A := List.take_of_length_le (by omega)
    simp -dsimp [I, S, hi, hi', hiN, hgn, hiS, hiS', hgsi, hzA, hA, o0, o1, o2, wi, set_ne]
    refine ⟨by omega, ?_⟩
    refine b4_append (es := RL) (hls.frame fun j hj => set_ne _ _ _ _ (by have := hkf j hj; omega)) (fun j hj => by have := hkf j hj; omega) trivial trivial (by omega) (by simp [hRl]; omega) ?_
    intro d' m4 n4 q1 q2 q3 q4
    have hma : ∀ j, j < n + 3 → m4 j = m2 j := fun j hj => by
      rw [q4 j (by omega) (fun e => by have := hkf j e; omega), set_ne _ _ _ _ (by omega)]
    simp -dsimp [I, wi]
    refine rnd (i + 1, d') (by simp; omega) (by simp [I]) ⟨(hma n (by omega)).trans o0, (hma (n + 1) (by omega)).trans o1, (hma (n + 1 + 1) (by omega)).trans o2, fun j hj => by rw [hma j (by omega)]; exact hfr j hj, by omega, by simp only; omega, by simp only; rw [hzip]; exact q1, fun j hj => ?_⟩
    have := q3 j hj
    refine ⟨?_, this.1⟩
    rcases this.2 with h' | h'
    · exact (hkf j h').1
    · omega
  · have e : i = args.length := by omega
    subst e
    simp -dsimp [I, S, hi, o0, o1, o2, hB, hb8]
    rw [List.take_of_length_le (by omega)] at hls
    refine aCall_pubS (pre := [.agg B]) (post := []) (z := 9) hls (pur_bnds _) (fun x hx => ?_) (by simp) ?_
    · simp only [List.mem_singleton] at hx
      subst hx
      exact hpb
    intro m3 hm3
    have hk3 : ∀ j, j < n + 3 → m3 j = m2 j := fun j hj => hm3 j fun e => by have := hkf j e; omega
    refine pcall hput ?_
    have p1 := (hk3 (n + 1) (by omega)).trans o1
    have hY2 : ∀ Y, Y = tmD (putT body (names'.zip args)) → ∀ n (m : Mem), PubAs n m (.agg Y) (.agg (tmD (((0 : Int), putT body (names'.zip args)) : Int × Tm).2)) := fun Y h n m => by subst h; exact hrP.pub
    generalize hYY : tmD (putT body (names'.zip args)) = Y at hr8
    have hY : List.take 8 Y = Y := List.take_of_length_le (by omega)
    simp -dsimp [I, S, p1, zTo, hr8, hY]
    exact pcp (pub_res_ok rfl (hY2 Y hYY.symm _ _)) fun j hj => by rw [set_ne _ _ _ _ (by omega), hk3 j (by omega)]; exact hfr j hj
end Go.Proofs.Mv.App
open Go Go.Proofs Go.Proofs.Mv.V
set_option maxRecDepth 10000
namespace Go.Proofs.Mv.App
theorem pub_tup2 [GI] {n : Nat} {m : Mem} {X : List D} {E d : D} (h : d = .tup [.agg X, E]) (h1 : Pur (.agg X)) (h2 : Pur E) : PubAs n m (.tup [.agg X, E]) d := by
  subst h
  exact .tup (.cons h1.pub (.cons h2.pub .nil))
set_option maxHeartbeats 8000000 in
theorem cOwnR (hwo : WoutC) {l : List Df} (hl : l.length ≤ 9223372036854775807) {k N : Int} {mod nm : List UInt8} {names vars : Nms} {types : List Ty} {subs : List Tm} (ht : TmW (.mk k N mod nm names vars types subs)) (ha : allTm (.mk k N mod nm names vars types subs) = true) :
    Pc Tryz.prog 130 [.sl 10 (l.map dfD), .agg (tmD (.mk k N mod nm names vars types subs))] (resTm (ownS l k mod nm names vars subs)) := by
  refine pc_pub (fun m n => ?_)
  have nn1 : n ≠ n + 1 := by omega
  have n1n : n + 1 ≠ n := by omega
  have nn2 : n ≠ n + 1 + 1 := by omega
  have n2n : n + 1 + 1 ≠ n := by omega
  have n12 : n + 1 ≠ n + 1 + 1 := by omega
  have n21 : n + 1 + 1 ≠ n + 1 := by omega
  have haa := ha
  simp only [allTm, Bool.and_eq_true] at haa
  obtain ⟨kk, sm⟩ := shapeTm_parts haa.1
  have has : ∀ s ∈ subs, allTm s = true := by have := haa.2; rw [allTms_eq, List.all_eq_true] at this; exact this
  have hsw : ∀ s ∈ subs, TmW s := by
    cases ht with
    | mk _ _ _ _ _ _ _ _ l1 l2 l3 l4 l5 l6 l7 l8 l9 l10 => exact l10
  have cn := kk.cn
  simp only [cntK] at cn
  have hpX := pur_tmA (.mk k N mod nm names vars types subs)
  have fr1 : ∀ o o', ∀ j, j < n → ((m.set n o).set (n + 1) o') j = m j := fun o o' j hj => by simp [set_ne, show j ≠ n by omega, show j ≠ n + 1 by omega]
  have fr2 : ∀ o o' o'', ∀ j, j < n → (((m.set n o).set (n + 1) o').set (n + 1 + 1) o'') j = m j := fun o o' o'' j hj => by simp [set_ne, show j ≠ n by omega, show j ≠ n + 1 by omega, show j ≠ n + 1 + 1 by omega]
  by_cases k4 : k = 4
  · subst k4
    have hm := cMeans (l := l) hl (k := 4) (N := N) (mod := mod) (nm := nm) (names := names) (vars := vars) (types := types) (subs := subs)
    have ho : ownS l 4 mod nm names vars subs = meansF l mod nm := by unfold ownS meansF; simp; cases defF l mod nm <;> rfl
    rw [ho]
    obtain ⟨X, E, hr, hX8, hXp, hEp, _⟩ := resTm_tup (meansF l mod nm)
    rw [hr] at hm ⊢
    have hX : List.take 8 X = X := List.take_of_length_le (by omega)
    have h8 : (tmD (.mk 4 N mod nm names vars types subs)).length = 8 := by simp
    have hk0 : (tmD (.mk 4 N mod nm names vars types subs))[0]? = some (I 4) := by simp [tmD]
    generalize tmD (.mk 4 N mod nm names vars types subs) = T at hm h8 hk0 ⊢
    have hT : List.take 8 T = T := List.take_of_length_le (by omega)
    have hk0' : T[0] = I 4 := get_opt hk0 (by omega)
    refine acalls_vcC [0, 1, 3, 4, 5, 6, 7, 8, 9, 11, 12, 19, 38, 47, 53, 61, 69, 86] Tryz.func130 Tryz.ntmps130 (by kernel_rfl) rfl rfl (by simp) ?_
    simp -dsimp [h8, hT, hk0', I, set_ne, nn1, n1n]
    refine pcall hm ?_
    simp -dsimp [h8, hT, hX8, hX, I, set_ne, nn1, n1n]
    exact pcp (pub_tup2 rfl hXp hEp) fun j hj => by simp [set_ne, show j ≠ n by omega, show j ≠ n + 1 by omega]
  have b4 : (k == 4) = false := by simpa using k4
  by_cases k9 : k = 9
  · subst k9
    have hne : subs ≠ [] := fun e => by subst e; simp at cn
    have hm := cCalled hwo (k := 9) (N := N) (mod := mod) (nm := nm) (names := names) (vars := vars) (types := types) hsw has hne sm.ls
    have ho : ownS l 9 mod nm names vars subs = calledF subs := by unfold ownS calledF; simp
    rw [ho]
    obtain ⟨X, E, hr, hX8, hXp, hEp, _⟩ := resTm_tup (calledF subs)
    rw [hr] at hm ⊢
    have hX : List.take 8 X = X := List.take_of_length_le (by omega)
    have h8 : (tmD (.mk 9 N mod nm names vars types subs)).length = 8 := by simp
    have hk0 : (tmD (.mk 9 N mod nm names vars types subs))[0]? = some (I 9) := by simp [tmD]
    generalize tmD (.mk 9 N mod nm names vars types subs) = T at hm h8 hk0 ⊢
    have hT : List.take 8 T = T := List.take_of_length_le (by omega)
    have hk0' : T[0] = I 9 := get_opt hk0 (by omega)
    refine acalls_vcC [0, 1, 3, 4, 5, 6, 7, 8, 9, 11, 12, 19, 38, 47, 53, 61, 69, 86] Tryz.func130 Tryz.ntmps130 (by kernel_rfl) rfl rfl (by simp) ?_
    simp -dsimp [h8, hT, hk0', I, set_ne, nn1, n1n]
    refine pcall hm ?_
    simp -dsimp [h8, hT, hX8, hX, I, set_ne, nn1, n1n]
    exact pcp (pub_tup2 rfl hXp hEp) fun j hj => by simp [set_ne, show j ≠ n by omega, show j ≠ n + 1 by omega]
  have b9 : (k == 9) = false := by simpa using k9
  by_cases k11 : k = 11
  · subst k11
    obtain ⟨c, s1, s2, rfl⟩ : ∃ c s1 s2, subs = [c, s1, s2] := by
      match subs, (show subs.length = 3 by omega) with
      | [c, s1, s2], _ => exact ⟨c, s1, s2, rfl⟩
    obtain ⟨k', N', mod', nm', names', vars', types', subs'⟩ := c
    have hc2 : k' = 2 → N' = 0 ∨ N' = 1 := fun e => by
      have := has (.mk k' N' mod' nm' names' vars' types' subs') (by simp)
      simp only [allTm, Bool.and_eq_true] at this
      exact (shapeTm_parts this.1).1.n2 e
    have ho : ownS l 11 mod nm names vars [.mk k' N' mod' nm' names' vars' types' subs', s1, s2] = if k' = 2 then (0, if N' = 1 then s1 else s2) else (12, Tm0) := by unfold ownS; simp [kindTmK, numT]
    rw [ho]
    have w2 : IntKind.i64.wrap 2 = 2 := wrap_i64 (by omega) (by omega)
    have w1 : IntKind.i64.wrap 1 = 1 := wrap_i64 (by omega) (by omega)
    have h81 : (tmD s1).length = 8 := by simp
    have h82 : (tmD s2).length = 8 := by simp
    have hp1 := pur_tmA s1
    have hp2 := pur_tmA s2
    simp only [tmD, tmsD_eq, sl1, List.map_cons, List.map_nil]
    by_cases k2 : k' = 2
    · subst k2
      rcases hc2 rfl with rfl | rfl
      · rw [if_pos rfl, if_neg (by omega)]
        have hP : ∀ Y, Y = tmD s2 → ∀ n (m : Mem), PubAs n m (.agg Y) (.agg (tmD (((0 : Int), s2) : Int × Tm).2)) := fun Y h n m => by subst h; exact hp2.pub
        generalize hYY : tmD s2 = Y at h82
        generalize tmD s1 = Z at h81
        have hY : List.take 8 Y = Y := List.take_of_length_le (by omega)
        refine acalls_vcC [0, 1, 3, 4, 5, 6, 7, 8, 9, 11, 12, 19, 38, 47, 53, 61, 69, 86] Tryz.func130 Tryz.ntmps130 (by kernel_rfl) rfl rfl (by simp) ?_
        simp -dsimp [I, S, w1, w2, h82, hY, set_ne, nn1, n1n, nn2, n2n, n12, n21]
        exact pcp (pub_res_ok rfl (hP Y hYY.symm _ _)) fun j hj => by simp [set_ne, show j ≠ n by omega, show j ≠ n + 1 by omega, show j ≠ n + 1 + 1 by omega]
      · rw [if_pos rfl, if_pos rfl]
        have hP : ∀ Y, Y = tmD s1 → ∀ n (m : Mem), PubAs n m (.agg Y) (.agg (tmD (((0 : Int), s1) : Int × Tm).2)) := fun Y h n m => by subst h; exact hp1.pub
        generalize hYY : tmD s1 = Y at h81
        generalize tmD s2 = Z at h82
        have hY : List.take 8 Y = Y := List.take_of_length_le (by omega)
        refine acalls_vcC [0, 1, 3, 4, 5, 6, 7, 8, 9, 11, 12, 19, 38, 47, 53, 61, 69, 86] Tryz.func130 Tryz.ntmps130 (by kernel_rfl) rfl rfl (by simp) ?_
        simp -dsimp [I, S, w1, w2, h81, hY, set_ne, nn1, n1n, nn2, n2n, n12, n21]
        exact pcp (pub_res_ok rfl (hP Y hYY.symm _ _)) fun j hj => by simp [set_ne, show j ≠ n by omega, show j ≠ n + 1 by omega, show j ≠ n + 1 + 1 by omega]
    · have b2 : (k' == 2) = false := by simpa using k2
      rw [if_neg k2]
      generalize tmD s1 = Z1 at h81
      generalize tmD s2 = Z2 at h82
      refine acalls_vcC [0, 1, 3, 4, 5, 6, 7, 8, 9, 11, 12, 19, 38, 47, 53, 61, 69, 86] Tryz.func130 Tryz.ntmps130 (by kernel_rfl) rfl rfl (by simp) ?_
      simp -dsimp [I, S, b2, k2, set_ne, nn1, n1n, nn2, n2n, n12, n21]
      exact pcp (pub_res_er (r := (12, Tm0)) (by simp)) fun j hj => by simp [set_ne, show j ≠ n by omega, show j ≠ n + 1 by omega, show j ≠ n + 1 + 1 by omega]
  have b11 : (k == 11) = false := by simpa using k11
  by_cases k6 : k = 6
  · subst k6
    obtain ⟨c, rfl⟩ : ∃ c, subs = [c] := List.length_eq_one_iff.1 (by omega)
    obtain ⟨k', N', mod', nm', names', vars', types', subs'⟩ := c
    have hca := has (.mk k' N' mod' nm' names' vars' types' subs') (by simp)
    simp only [allTm, Bool.and_eq_true] at hca
    obtain ⟨kk', sm'⟩ := shapeTm_parts hca.1
    have hk5 : k' = 5 → subs'.length = names'.length := fun e => by
      have cn' := kk'.cn
      simp only [cntK] at cn'
      omega
    have ho : ownS l 6 mod nm names vars [.mk k' N' mod' nm' names' vars' types' subs'] = if k' = 5 ∧ nm ∈ names' then (0, subs'.getD (names'.idxOf nm) Tm0) else (12, Tm0) := by unfold ownS; simp [kindTmK, namesT, kidsT]
    rw [ho]
    have hix := cIndexSl (l := names') (by have := sm'.ln; omega) nm
    rw [findI_idx] at hix
    simp only [tmD, tmsD_eq, sl1, S, List.map_cons, List.map_nil] at hix ⊢
    have hSL : (subs'.map tmD).length = subs'.length := by simp
    have hSG : ∀ i (h : i < subs'.length), (subs'.map tmD)[i]? = some (tmD subs'[i]) := fun i h => by simp [h]
    generalize (names'.map fun s => [D.v (.string (ofL s))]) = NL' at hix ⊢
    generalize (vars'.map fun s => [D.v (.string (ofL s))]) = VL'
    generalize types'.map tyD = YL'
    generalize subs'.map tmD = SL' at hSL hSG ⊢
    refine acalls_vcC [0, 1, 3, 4, 5, 6, 7, 8, 9, 11, 12, 19, 38, 47, 53, 61, 69, 86] Tryz.func130 Tryz.ntmps130 (by kernel_rfl) rfl rfl (by simp) ?_
    simp -dsimp [I, S, set_ne, nn1, n1n, nn2, n2n, n12, n21]
    refine vdraw_tree [0, 1, 3, 7, 15, 0, 32, 127, 255] (.rd 0 (.rd 1 (.rd 2 (.rd 3 (.rd 4 (.rd 5 (.rd 6 (.wr (.cons 7 (.rd 8 (.fin)) (.nil)))))))))) (by kernel_rfl) (by kernel_rfl) ?_
    simp -dsimp [I, S, set_ne, nn1, n1n, nn2, n2n, n12, n21]
    refine pcall hix ?_
    refine ⟨fun _ _ _ => rfl, ?_⟩
    by_cases k5 : k' = 5
    case neg =>
      have b5 : (k' == 5) = false := by simpa using k5
      rw [if_neg (fun h => k5 h.1)]
      simp -dsimp [I, S, b5, set_ne, nn1, n1n, nn2, n2n, n12, n21]
      exact pcp (pub_res_er (r := (12, Tm0)) (by simp)) fun j hj => by simp [set_ne, show j ≠ n by omega, show j ≠ n + 1 by omega]
    subst k5
    by_cases hmem : nm ∈ names'
    case neg =>
      rw [if_neg hmem, if_neg (fun h => hmem h.2)]
      simp -dsimp [I, S, set_ne, nn1, n1n, nn2, n2n, n12, n21]
      exact pcp (pub_res_er (r := (12, Tm0)) (by simp)) fun j hj => by simp [set_ne, show j ≠ n by omega, show j ≠ n + 1 by omega]
    rw [if_pos hmem, if_pos ⟨rfl, hmem⟩]
    have hi1 : names'.idxOf nm < names'.length := List.idxOf_lt_length_iff.2 hmem
    generalize names'.idxOf nm = i at hi1 ⊢
    have hi2 : i < subs'.length := by rw [hk5 rfl]; exact hi1
    have hiS : i < SL'.length := by omega
    have hgs : SL'[i] = tmD subs'[i] := get_opt (hSG i hi2) hiS
    have hz : (tmD subs'[i]).length = 8 := by simp
    have hpY := pur_tmA subs'[i]
    have hgd : subs'.getD i Tm0 = subs'[i] := by simp [hi2]
    rw [hgd]
    have hP : ∀ Y, Y = tmD subs'[i] → ∀ n (m : Mem), PubAs n m (.agg Y) (.agg (tmD (((0 : Int), subs'[i]) : Int × Tm).2)) := fun Y h n m => by subst h; exact hpY.pub
    generalize hYY : tmD subs'[i] = Y at hgs hz
    have hY : List.take 8 Y = Y := List.take_of_length_le (by omega)
    simp -dsimp [I, S, hiS, hgs, hz, hY, set_ne, nn1, n1n, nn2, n2n, n12, n21]
    exact pcp (pub_res_ok rfl (hP Y hYY.symm _ _)) fun j hj => by simp [set_ne, show j ≠ n by omega, show j ≠ n + 1 by omega]
  have b6 : (k == 6) = false := by simpa using k6
  by_cases k12 : k = 12
  · subst k12
    obtain ⟨c, br, rfl⟩ : ∃ c br, subs = c :: br := by
      cases subs with
      | nil => simp at cn
      | cons c br => exact ⟨c, br, rfl⟩
    simp only [List.length_cons] at cn
    have hbl : br.length = names.length := by omega
    have hvl : vars.length = names.length := by omega
    obtain ⟨k', N', mod', nm', names', vars', types', subs'⟩ := c
    have hca := has (.mk k' N' mod' nm' names' vars' types' subs') (by simp)
    have hba := fun i (h : i < br.length) => has br[i] (List.mem_cons_of_mem _ (List.getElem_mem h))
    have hbw := fun i (h : i < br.length) => hsw br[i] (List.mem_cons_of_mem _ (List.getElem_mem h))
    simp only [allTm, Bool.and_eq_true] at hca
    obtain ⟨kk', sm'⟩ := shapeTm_parts hca.1
    have hk7 : k' = 7 → ∃ v, subs' = [v] := fun e => by
      have cn' := kk'.cn
      simp only [cntK] at cn'
      exact List.length_eq_one_iff.1 (by omega)
    have ho : ownS l 12 mod nm names vars (.mk k' N' mod' nm' names' vars' types' subs' :: br) = if k' = 7 ∧ nm' ∈ names then (0, putT (br.getD (names.idxOf nm') Tm0) [(vars.getD (names.idxOf nm') [], subs'.headD Tm0)]) else (12, Tm0) := by
      unfold ownS
      simp [kindTmK, nameT, kidsT]
    rw [ho]
    have hix := cIndexSl (l := names) (by have := sm.ln; omega) nm'
    rw [findI_idx] at hix
    simp only [tmD, tmsD_eq, sl1, S, List.map_cons] at hix ⊢
    have hSL : (br.map tmD).length = br.length := by simp
    have hSG : ∀ i (h : i < br.length), (br.map tmD)[i]? = some (tmD br[i]) := fun i h => by simp [h]
    have hVL : (vars.map fun s => [D.v (.string (ofL s))]).length = vars.length := by simp
    have hVG : ∀ i (h : i < vars.length), (vars.map fun s => [D.v (.string (ofL s))])[i]? = some [D.v (.string (ofL vars[i]))] := fun i h => by simp [h]
    generalize (names'.map fun s => [D.v (.string (ofL s))]) = NL' at hix ⊢
    generalize (vars'.map fun s => [D.v (.string (ofL s))]) = VL'
    generalize types'.map tyD = YL'
    generalize (names.map fun s => [D.v (.string (ofL s))]) = NL at hix ⊢
    generalize (vars.map fun s => [D.v (.string (ofL s))]) = VL at hVL hVG ⊢
    generalize types.map tyD = YL
    generalize br.map tmD = SL at hSL hSG ⊢
    generalize hS' : subs'.map tmD = SL' at ⊢
    refine acalls_vcC [0, 1, 3, 4, 5, 6, 7, 8, 9, 11, 12, 19, 38, 47, 53, 61, 69, 86] Tryz.func130 Tryz.ntmps130 (by kernel_rfl) rfl rfl (by simp) ?_
    simp -dsimp [I, S, set_ne, nn1, n1n, nn2, n2n, n12, n21]
    refine pcall hix ?_
    by_cases k7 : k' = 7
    case neg =>
      have b7 : (k' == 7) = false := by simpa using k7
      rw [if_neg (fun h => k7 h.1)]
      simp -dsimp [I, S, b7, set_ne, nn1, n1n, nn2, n2n, n12, n21]
      exact pcp (pub_res_er (r := (12, Tm0)) (by simp)) fun j hj => by simp [set_ne, show j ≠ n by omega, show j ≠ n + 1 by omega, show j ≠ n + 1 + 1 by omega]
    subst k7
    by_cases hmem : nm' ∈ names
    case neg =>
      rw [if_neg hmem, if_neg (fun h => hmem h.2)]
      simp -dsimp [I, S, set_ne, nn1, n1n, nn2, n2n, n12, n21]
      exact pcp (pub_res_er (r := (12, Tm0)) (by simp)) fun j hj => by simp [set_ne, show j ≠ n by omega, show j ≠ n + 1 by omega, show j ≠ n + 1 + 1 by omega]
    rw [if_pos hmem, if_pos ⟨rfl, hmem⟩]
    have hi1 : names.idxOf nm' < names.length := List.idxOf_lt_length_iff.2 hmem
    generalize names.idxOf nm' = i at hi1 ⊢
    obtain ⟨v, rfl⟩ := hk7 rfl
    have hi2 : i < br.length := by omega
    have hi3 : i < vars.length := by omega
    have hiS : i < SL.length := by omega
    have hiV : i < VL.length := by omega
    have hgs : SL[i] = tmD br[i] := get_opt (hSG i hi2) hiS
    have hgv : VL[i] = [D.v (.string (ofL vars[i]))] := get_opt (hVG i hi3) hiV
    have hz : (tmD br[i]).length = 8 := by simp
    have hgd : br.getD i Tm0 = br[i] := by simp [hi2]
    have hgd2 : vars.getD i [] = vars[i] := by simp [hi3]
    rw [hgd, hgd2]
    simp only [List.headD_cons]
    have wi : IntKind.i64.wrap ((i : Int) + 1) = (i : Int) + 1 := wrap_i64 (by omega) (by have := sm.ln; omega)
    have hput := cPutT hwo (hbw i hi2) (l := [(vars[i], v)]) (hba i hi2) (by simp)
    simp only [List.map_cons, List.map_nil, bndD, S] at hput
    have hrP := pur_tmA (putT br[i] [(vars[i], v)])
    have hr8 : (tmD (putT br[i] [(vars[i], v)])).length = 8 := by simp
    have hv8 : (tmD v).length = 8 := by simp
    have hpv := pur_tm v
    have hpb := pur_tmA br[i]
    simp only [List.map_cons, List.map_nil] at hS'
    subst hS'
    generalize tmD br[i] = B at hgs hz hput hpb
    generalize tmD v = A at hv8 hput hpv ⊢
    have hB : List.take 8 B = B := List.take_of_length_le (by omega)
    have hA : List.take 8 A = A := List.take_of_length_le (by omega)
    simp -dsimp [I, S, set_ne, nn1, n1n, nn2, n2n, n12, n21]
    refine vdraw_tree [0, 1, 0, 4, 15, 31, 0, 64, 0, 448, 960, 0, 2048, 6144, 14336, 32704, 65472, 131071, 262143, 524287] (.rd 0 (.rd 1 (.rd 2 (.rd 3 (.rd 4 (.rd 5 (.rd 6 (.rd 7 (.rd 8 (.rd 9 (.rd 10 (.rd 11 (.rd 12 (.rd 13 (.rd 14 (.rd 15 (.wr (.cons 16 (.wr (.cons 17 (.wr (.cons 18 (.rd 19 (.fin)) (.nil))) (.nil))) (.nil))))))))))))))))))) (by kernel_rfl) (by kernel_rfl) ?_
    simp -dsimp [I, S, wi, hiS, hiV, hgs, hgv, hz, hB, hA, hv8, set_ne, nn1, n1n, nn2, n2n, n12, n21]
    refine ⟨by omega, by simp [set_ne, nn1, nn2, show n ≠ n + 1 + 1 + 1 by omega], ?_⟩
    refine aCall_pubS (pre := [.agg B]) (post := []) (z := 9) (es := [D.v (.string (ofL vars[i])) :: A]) (.mk (set_same _ _ _) (by simp) (by simp) (by simp)) (fun e he d hd => ?_) (fun x hx => ?_) (by simp) ?_
    · simp only [List.mem_singleton] at he
      subst he
      rcases List.mem_cons.1 hd with rfl | hd
      · exact Pur.v _
      · exact hpv d hd
    · simp only [List.mem_singleton] at hx
      subst hx
      exact hpb
    intro m3 hm3
    have hk3 : ∀ j, j < n + 1 + 1 + 1 → m3 j = _ := fun j hj => hm3 j fun e => by simp at e; omega
    refine pcall hput ?_
    have p1 : m3 (n + 1) = _ := (hk3 (n + 1) (by omega)).trans (by simp [set_ne, n12, show n + 1 ≠ n + 1 + 1 + 1 by omega]; rfl)
    refine ⟨fun p hp _ => ?_, ?_⟩
    · simp only [List.mem_cons, List.not_mem_nil, or_false] at hp
      rcases hp with rfl | rfl | rfl | rfl <;> exact hk3 _ (by dsimp only; omega)
    have hP : ∀ Y, Y = tmD (putT br[i] [(vars[i], v)]) → ∀ n (m : Mem), PubAs n m (.agg Y) (.agg (tmD (((0 : Int), putT br[i] [(vars[i], v)]) : Int × Tm).2)) := fun Y h n m => by subst h; exact hrP.pub
    generalize hYY : tmD (putT br[i] [(vars[i], v)]) = Y at hr8
    have hY : List.take 8 Y = Y := List.take_of_length_le (by omega)
    simp -dsimp [I, S, p1, hr8, hY]
    exact pcp (pub_res_ok rfl (hP Y hYY.symm _ _)) fun j hj => by rw [set_ne _ _ _ _ (by omega), hk3 j (by omega)]; simp [set_ne, show j ≠ n by omega, show j ≠ n + 1 by omega, show j ≠ n + 1 + 1 by omega, show j ≠ n + 1 + 1 + 1 by omega]
  have b12 : (k == 12) = false := by simpa using k12
  have ho : ownS l k mod nm names vars subs = (12, Tm0) := by
    unfold ownS
    simp [k4, k6, k9, k11, k12]
  rw [ho]
  have h8 : (tmD (.mk k N mod nm names vars types subs)).length = 8 := by simp
  have hk0 : (tmD (.mk k N mod nm names vars types subs))[0]? = some (I k) := by simp [tmD]
  generalize tmD (.mk k N mod nm names vars types subs) = T at h8 hk0
  have hT : List.take 8 T = T := List.take_of_length_le (by omega)
  have hk0' : T[0] = I k := get_opt hk0 (by omega)
  refine acalls_vcC [0, 1, 3, 4, 5, 6, 7, 8, 9, 11, 12, 19, 38, 47, 53, 61, 69, 86] Tryz.func130 Tryz.ntmps130 (by kernel_rfl) rfl rfl (by simp) ?_
  simp -dsimp [h8, hT, hk0', I, b4, b6, b9, b11, b12, set_ne, nn1, n1n]
  exact pcp (pub_res_er (r := (12, Tm0)) (by simp)) fun j hj => by simp [set_ne, show j ≠ n by omega, show j ≠ n + 1 by omega]
end Go.Proofs.Mv.App
