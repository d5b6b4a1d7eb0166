/- A part of the proofs: machine, contracts, laws. No condition of its own. -/
import Derived.Test.YtihbegkefjjhpaaGreatDoorP18
import Derived.Test.YtihbegkefjjhpaaGreatDoorMvDf
set_option linter.unusedSimpArgs false
set_option linter.unusedVariables false
set_option linter.unusedSectionVars false
open Go Go.Proofs Go.Proofs.Mv.V
set_option maxRecDepth 10000
namespace Go.Proofs.Mv.App
theorem pubL_pur {n : Nat} {m : Mem} : ∀ {l : List D}, (∀ d ∈ l, Pur d) → PubL n m l l
  | [], _ => .nil
  | d :: l, h => .cons (h d (by simp)).pub (pubL_pur fun x hx => h x (by simp [hx]))
def FunC (l : List Tok) : Prop := ∀ (dp : Nat) (rec : PS → Option (Tm × PS)), RecC l dp rec → ∀ F, F ≤ 100000 → ∀ p0 : PS, p0.bad = 0 → p0.at_ < l.length → curT l p0 = wFn → ∀ t q, funO l rec F (stepF p0) = some (t, q) → ∀ (k : Nat) (m : Mem) (n : Nat), k < n → m k = some (pTObj l dp p0) →
  ACalls Tryz.prog 104 [.ptr k 0 0 0] m n (fun d m' n' => (∃ t', d = .agg (tmD t') ∧ (q.bad = 0 → t' = t)) ∧ m' = m.set k (pTObj l dp q) ∧ n' = n)
theorem funC_none {l : List Tok} (h : ∀ t ∈ l, t.text ≠ wFn) : FunC l := fun _ _ _ _ _ p0 hb ha he => by
  have hc : cur l p0 = some l[p0.at_] := by simp [cur, hb, ha]
  simp only [curT, hc] at he
  exact absurd he (h _ (List.getElem_mem ha))
structure BhI (l : List Tok) (dp : Nat) (k : Nat) (m : Mem) (n : Nat) (t' : Tm) (p : PS) (X : List D) (σ : Nat → D) (m2 : Mem) (n2 : Nat) : Prop where
  h0 : σ 0 = .ptr k 0 0 0
  h3 : σ 3 = .ptr n 0 0 0
  h4 : σ 4 = .ptr (n + 1) 0 0 0
  ob : m2 n = some ⟨8, [X], 0⟩
  rs : m2 (n + 1) = some zT
  xl : X.length = 8
  hX : ∀ M, (∀ j, n + 2 ≤ j → j < n2 → M j = m2 j) → PubL n M X (tmD t')
  nn : n + 2 ≤ n2
  pk : m2 k = some (pTObj l dp p)
  fr : ∀ j, j < n → j ≠ k → m2 j = m j
structure BhH (l : List Tok) (rec : PS → Option (Tm × PS)) (dp g : Nat) (tF : Tm) (q : PS) (k : Nat) (m : Mem) (n : Nat) (b : Nat × Tm × PS × Tm) (σ : Nat → D) (m2 : Mem) (n2 : Nat) : Prop where
  ii : ∃ X, BhI l dp k m n b.2.2.2 b.2.2.1 X σ m2 n2
  st : behO l rec g b.1 b.2.1 b.2.2.1 = some (tF, q)
  eq : b.2.2.1.bad = 0 → b.2.2.2 = b.2.1
set_option maxHeartbeats 8000000 in
theorem cTBeh {l : List Tok} (hl : TkOk l) {dp : Nat} {rec : PS → Option (Tm × PS)} (hrec : RecC l dp rec) {g : Nat} (hg : g ≤ 100000) {F : Nat} {t0 t0' : Tm} {p0 : PS} (h00 : p0.bad = 0 → t0' = t0) {t : Tm} {q : PS} (hrun : behO l rec g F t0 p0 = some (t, q)) {k : Nat} {m : Mem} {n : Nat} (hk : k < n) (hm : m k = some (pTObj l dp p0)) :
    ACalls Tryz.prog 107 [.ptr k 0 0 0, .agg (tmD t0')] m n (fun d m' n' => (∃ t', d = .agg (tmD t') ∧ (q.bad = 0 → t' = t)) ∧ m' = m.set k (pTObj l dp q) ∧ n' = n) := by
  refine acalls_put (X := fun d => ∃ t', d = .agg (tmD t') ∧ (q.bad = 0 → t' = t)) (R' := Hq (fun d m' n' => (∃ t' : Tm, PubAs n m' d (.agg (tmD t')) ∧ (q.bad = 0 → t' = t)) ∧ m' k = some (pTObj l dp q) ∧ ∀ j, j < n → j ≠ k → m' j = m j) tg) k hk _ ?_ ?_
  rotate_left
  · rintro d m' n' ⟨⟨t', h1, h3⟩, h4, h5⟩
    exact ⟨.agg (tmD t'), _, h1, h4, .pur (pur_pT _ _ _), h5, t', rfl, h3⟩
  have kn : k ≠ n := by omega
  have h8 := tmD_len
  refine acalls_vcC [0, 1, 3, 4, 9, 11, 19] Tryz.func107 Tryz.ntmps107 (by kernel_rfl) rfl rfl (by simp) ?_
  simp -dsimp [h8]
  refine vloop_of (β := Nat × Tm × PS × Tm) (BhH l rec dp g t q k m n) (fun b => b.1) (F, t0, p0, t0') ⟨⟨tmD t0', by simp, by simp, by simp, by simp [set_ne], by simp [zT], h8 _, fun M hM => pubL_pur (pur_tm t0'), by omega, by simp [set_ne, kn, show k ≠ n + 1 by omega, hm], fun j h1 h2 => by simp [set_ne, show j ≠ n by omega, show j ≠ n + 1 by omega]⟩, hrun, h00⟩ ?_
  rintro ⟨f, t1, p, t'⟩ σ m2 n2 ⟨⟨X, ii⟩, st, eq⟩
  simp only at ii st eq
  have ii' := ii
  obtain ⟨h0, h3, h4, ob, rs, xl, hX, nn, pk, fr⟩ := ii
  have tX : List.take 8 X = X := List.take_of_length_le (by omega)
  have dX : List.drop 8 X = [] := List.drop_of_length_le (by omega)
  cases f with
  | zero => simp only [behO] at st; cases st
  | succ f =>
  simp only [behO] at st
  have fin : ∀ {M : Mem} {N : Nat}, q = p → t = t1 → (∀ j, j < n2 → j ≠ k → j ≠ n + 1 → M j = m2 j) → M k = some (pTObj l dp p) → n2 ≤ N → Hq (fun d m' n' => (∃ t' : Tm, PubAs n m' d (.agg (tmD t')) ∧ (q.bad = 0 → t' = t)) ∧ m' k = some (pTObj l dp q) ∧ ∀ j, j < n → j ≠ k → m' j = m j) tg (.agg X) M N := by
    rintro M N rfl rfl hM hMk hN
    exact hq ⟨⟨t', .agg (hX M fun j h1 h2 => hM j h2 (by omega) (by omega)), eq⟩, hMk, fun j h1 h2 => by rw [hM j (by omega) h2 (by omega)]; exact fr j h1 h2⟩
  by_cases hb : p.bad = 0
  case neg =>
    rw [if_neg hb] at st
    simp only [Option.some.injEq, Prod.mk.injEq] at st
    have hmx : m2 k = some ⟨4, [[toksD l, I p.at_, I dp, spotE p.cnt p.bad]], 0⟩ := by rw [pk]; simp [pTObj, pTC, errS, hb]
    simp -dsimp [h0, h3, h4, hmx, spotE, ob, rs, xl, tX, zT]
    exact fin st.2.symm st.1.symm (fun j h1 h2 h3 => set_ne _ _ _ _ h3) (by rw [set_ne _ _ _ _ (by omega)]; exact pk) (by omega)
  rw [if_pos hb] at st
  have hmx : m2 k = some ⟨4, [[toksD l, I p.at_, I dp, nilE]], 0⟩ := by rw [pk]; simp [pTObj, pTC, errS, hb]
  simp -dsimp [h0, h3, h4, hmx, nilE]
  refine aCall_of (cTPass hl (dp := dp) (p := p) (kd := 4) (by omega) [46] (by omega) pk) ?_
  rintro d m3 n3 ⟨rfl, rfl, rfl⟩
  cases hi : isT 4 [46] l p with
  | true =>
    rw [hi] at st
    simp only [if_true] at st
    simp -dsimp [h0, h3, h4, Tt, hi]
    have hnm := fun (M : Mem) (N : Nat) (hN : k < N) (hM : M k = some (pTObj l dp (stepF p))) => cTNamed (n := N) hl (dp := dp) (p := stepF p) (kd := 1) (by omega) fineTn hN hM
    generalize namedT 1 nameN l (stepF p) = fn at st hnm
    obtain ⟨nm, p1⟩ := fn
    simp only [I] at st hnm
    have nx : ∀ {M : Mem} {σ' : Nat → D}, (∀ j, j < n3 → j ≠ k → j ≠ n → M j = m2 j) → M n = some ⟨8, [[.v (.int .i64 6), .v (.int .i64 0), .v (.string (ofL [])), S nm, .v (.slice none 0 0), .v (.slice none 0 0), .v (.slice none 0 0), .own n3 0 0 1 8]], 0⟩ → M k = some (pTObj l dp p1) → M n3 = some ⟨8, [X], 0⟩ → σ' 0 = .ptr k 0 0 0 → σ' 3 = .ptr n 0 0 0 → σ' 4 = .ptr (n + 1) 0 0 0 →
        BhI l dp k m n (.mk 6 0 [] nm [] [] [] [t']) p1 [.v (.int .i64 6), .v (.int .i64 0), .v (.string (ofL [])), S nm, .v (.slice none 0 0), .v (.slice none 0 0), .v (.slice none 0 0), .own n3 0 0 1 8] σ' M (n3 + 1) := fun {M σ'} hM hMn hMk hM3 e0 e3 e4 => by
      refine ⟨e0, e3, e4, hMn, by rw [hM (n + 1) (by omega) (by omega) (by omega)]; exact rs, rfl, fun M2 hM2 => ?_, by omega, hMk, fun j h1 h2 => by rw [hM j (by omega) h2 (by omega)]; exact fr j h1 h2⟩
      simp only [tmD, tmsD, sl1, List.map_nil]
      refine .cons (pur_I _).pub (.cons (pur_I _).pub (.cons (pur_S _).pub (.cons (pur_S _).pub (.cons (pub_nil 1) (.cons (pub_nil 1) (.cons (pub_nil 7) (.cons ?_ .nil)))))))
      refine .lst (es := [X]) (.mk (es' := [X]) (by rw [hM2 n3 (by omega) (by omega)]; exact hM3) (by simp) (by simp) (by simp)) (fun j hj => by simp [kof] at hj; omega) (.cons (hX M2 fun j h1 h2 => by rw [hM2 j h1 (by omega), hM j h2 (by omega) (by omega)]) .nil)
    refine vdraw_tree [0, 1, 0, 4, 15, 31] (.rd 0 (.rd 2 (.wr (.cons 1 (.wr (.cons 3 (.rd 4 (.wr (.cons 5 (.fin) (.nil)))) (.nil))) (.cons 3 (.wr (.cons 1 (.rd 4 (.wr (.cons 5 (.fin) (.nil)))) (.nil))) (.nil)))))) (by kernel_rfl) (by kernel_rfl) ?_
    simp -dsimp [h0, h3, h4, Tt, hi, ob, rs, xl, tX, set_ne, show n ≠ k by omega]
    repeat' (with_reducible apply And.intro)
    · refine aCall_of (hnm _ _ (by omega) (by simp)) ?_
      rintro d m4 n4 ⟨rfl, rfl, rfl⟩
      refine ⟨fun p hp _ => ?_, ?_⟩
      · simp only [List.mem_cons, List.not_mem_nil, or_false] at hp
        subst hp
        exact set_ne _ _ _ _ (by omega)
      simp -dsimp [h0, h3, h4, S, ob, rs, xl, tX, dX, set_ne, show n ≠ k by omega, show n ≠ n4 by omega]
      exact ⟨f, by omega, _, _, _, ⟨⟨_, nx (fun j h1 h2 h3 => by simp [set_ne, h2, h3, show j ≠ n4 by omega]) (by simp [S]) (by simp [set_ne, kn, show k ≠ n4 by omega]) (by simp [set_ne, show n4 ≠ n by omega]) (by simp) (by simp) (by simp)⟩, st, fun _ => by rw [eq hb]⟩⟩
    · refine aCall_of (hnm _ _ (by omega) (by simp [set_ne, show k ≠ n3 by omega])) ?_
      rintro d m4 n4 ⟨rfl, rfl, rfl⟩
      refine ⟨fun p hp _ => ?_, ?_⟩
      · simp only [List.mem_cons, List.not_mem_nil, or_false] at hp
        subst hp
        exact set_ne _ _ _ _ (by omega)
      simp -dsimp [h0, h3, h4, S, ob, rs, xl, tX, dX, set_ne, show n ≠ k by omega, show n ≠ n3 by omega]
      exact ⟨f, by omega, _, _, _, ⟨⟨_, nx (fun j h1 h2 h3 => by simp [set_ne, h2, h3, show j ≠ n3 by omega]) (by simp [S]) (by simp [set_ne, kn]) (by simp [set_ne, show n3 ≠ n by omega, show n3 ≠ k by omega]) (by simp) (by simp) (by simp)⟩, st, fun _ => by rw [eq hb]⟩⟩
  | false =>
    rw [hi] at st
    simp only [Bool.false_eq_true, if_false] at st
    simp -dsimp [h0, h3, h4, Tt, hi]
    refine aCall_of (cTPass hl (dp := dp) (p := p) (kd := 4) (by omega) [40] (by omega) (by simp)) ?_
    rintro d m3 n4 ⟨rfl, rfl, rfl⟩
    cases hi2 : isT 4 [40] l p with
    | true =>
      rw [hi2] at st
      simp only [if_true] at st
      simp -dsimp [h0, h3, h4, Tt, hi2]
      cases hsv : sevO l rec g [41] true (stepF p) with
      | none => rw [hsv] at st; cases st
      | some r =>
      obtain ⟨ts, q1⟩ := r
      rw [hsv] at st
      simp only at st
      have hcs := fun (M : Mem) (N : Nat) (hN : k < N) (hM : M k = some (pTObj l dp (stepF p))) => cTSev (n := N) hl hrec hg hsv hN hM
      simp only [S, Tt] at hcs
      have nx : ∀ {M : Mem} {N : Nat} {σ' : Nat → D} {d : D} {ts' : List Tm}, n4 ≤ N → (∀ j, j < n4 → j ≠ k → j ≠ n → M j = m2 j) → M n = some ⟨8, [[.v (.int .i64 9), .v (.int .i64 0), .v (.string (ofL [])), .v (.string (ofL [])), .v (.slice none 0 0), .v (.slice none 0 0), .v (.slice none 0 0), d]], 0⟩ → M k = some (pTObj l dp q1) → Lst M 8 (X :: ts'.map tmD) d → (∀ j, kof d = some j → n4 ≤ j ∧ j < N) → σ' 0 = .ptr k 0 0 0 → σ' 3 = .ptr n 0 0 0 → σ' 4 = .ptr (n + 1) 0 0 0 →
          BhI l dp k m n (.mk 9 0 [] [] [] [] [] (t' :: ts')) q1 [.v (.int .i64 9), .v (.int .i64 0), .v (.string (ofL [])), .v (.string (ofL [])), .v (.slice none 0 0), .v (.slice none 0 0), .v (.slice none 0 0), d] σ' M N := fun {M N σ' d ts'} hN hM hMn hMk hL hk2 e0 e3 e4 => by
        refine ⟨e0, e3, e4, hMn, by rw [hM (n + 1) (by omega) (by omega) (by omega)]; exact rs, rfl, fun M2 hM2 => ?_, by omega, hMk, fun j h1 h2 => by rw [hM j (by omega) h2 (by omega)]; exact fr j h1 h2⟩
        simp only [tmD, tmsD, tmsD_eq, sl1, List.map_nil]
        refine .cons (pur_I _).pub (.cons (pur_I _).pub (.cons (pur_S _).pub (.cons (pur_S _).pub (.cons (pub_nil 1) (.cons (pub_nil 1) (.cons (pub_nil 7) (.cons ?_ .nil)))))))
        exact .lst (hL.frame fun j hj => hM2 j (by have := hk2 j hj; omega) (hk2 j hj).2) (fun j hj => by have := hk2 j hj; omega) (.cons (hX M2 fun j h1 h2 => by rw [hM2 j h1 (by omega), hM j h2 (by omega) (by omega)]) (.pur (pur_tmm ts')))
      refine vdraw_tree [0, 1, 0, 4, 15, 31, 63] (.rd 0 (.rd 2 (.wr (.cons 1 (.wr (.cons 3 (.wr (.cons 4 (.rd 5 (.wr (.cons 6 (.fin) (.nil)))) (.nil))) (.nil))) (.cons 3 (.wr (.cons 1 (.wr (.cons 4 (.rd 5 (.wr (.cons 6 (.fin) (.nil)))) (.nil))) (.nil))) (.nil)))))) (by kernel_rfl) (by kernel_rfl) ?_
      simp -dsimp [h0, h3, h4, Tt, hi2, ob, rs, xl, tX, set_ne, show n ≠ k by omega]
      repeat' (with_reducible apply And.intro)
      · refine aCall_of (hcs _ _ (by omega) (by simp [set_ne, show k ≠ n4 by omega])) ?_
        rintro d m5 n5 ⟨⟨ts', rfl, hts, htl⟩, rfl, rfl⟩
        refine ⟨fun p hp _ => ?_, ?_⟩
        · simp only [List.mem_cons, List.not_mem_nil, or_false] at hp
          subst hp
          exact set_ne _ _ _ _ (by omega)
        have e4 : ((m2.set k (pTObj l dp (stepF p))).set n4 { z := 8, es := [X], g := 0 }).set k (pTObj l dp q1) n4 = some ⟨8, [X], 0⟩ := by simp [set_ne, show n4 ≠ k by omega]
        simp -dsimp [h0, h3, h4, ob, xl, tX, dX, set_ne, show n4 ≠ k by omega, show n ≠ k by omega, show n ≠ n4 by omega]
        refine ⟨by omega, f, by omega, _, _, _, ⟨⟨_, nx (N := n4 + 1) (d := .own n4 1 0 (1 + ts'.length) 8) (ts' := ts') (by omega) (fun j h1 h2 h3 => by simp [set_ne, h2, h3, show j ≠ n4 by omega]) (by simp) (by simp [set_ne, kn, show k ≠ n4 by omega]) ?_ (fun j hj => by simp [kof] at hj; omega) (by simp) (by simp) (by simp)⟩, st, fun hq => by rw [eq hb, hts hq]⟩⟩
        exact .mk (es' := X :: ts'.map tmD) (by simp [set_ne, show n4 ≠ n by omega]) (by simp; omega) (by simp; omega) (List.take_of_length_le (by simp; omega))
      · refine aCall_of (hcs _ _ (by omega) (by simp)) ?_
        rintro d m5 n5 ⟨⟨ts', rfl, hts, htl⟩, rfl, rfl⟩
        refine ⟨fun p hp _ => ?_, ?_⟩
        · simp only [List.mem_cons, List.not_mem_nil, or_false] at hp
          subst hp
          exact set_ne _ _ _ _ (by omega)
        simp -dsimp [h0, h3, h4, ob, xl, tX, dX, set_ne, show n5 ≠ k by omega, show n ≠ k by omega, show n ≠ n5 by omega]
        refine ⟨by omega, f, by omega, _, _, _, ⟨⟨_, nx (N := n5 + 1) (d := .own n5 1 0 (1 + ts'.length) 8) (ts' := ts') (by omega) (fun j h1 h2 h3 => by simp [set_ne, h2, h3, show j ≠ n5 by omega]) (by simp) (by simp [set_ne, kn, show k ≠ n5 by omega]) ?_ (fun j hj => by simp [kof] at hj; omega) (by simp) (by simp) (by simp)⟩, st, fun hq => by rw [eq hb, hts hq]⟩⟩
        exact .mk (es' := X :: ts'.map tmD) (by simp [set_ne, show n5 ≠ n by omega]) (by simp; omega) (by simp; omega) (List.take_of_length_le (by simp; omega))
    | false =>
      rw [hi2] at st
      simp only [Bool.false_eq_true, if_false, Option.some.injEq, Prod.mk.injEq] at st
      simp -dsimp [h0, h3, h4, Tt, hi2, ob, rs, xl, tX, zT, set_ne, show n ≠ k by omega, show n + 1 ≠ k by omega]
      exact fin st.2.symm st.1.symm (fun j h1 h2 h3 => by simp [set_ne, h2, h3]) (by simp [set_ne, show k ≠ n + 1 by omega]) (by omega)
end Go.Proofs.Mv.App
open Go Go.Proofs Go.Proofs.Mv.V
set_option maxRecDepth 10000
namespace Go.Proofs.Mv.App
theorem pk_kind {l : List Tok} {p : PS} {kd a : Int} {tx : List UInt8} (hp : Pk l p kd a tx) : kindC l p = kd := by
  unfold kindC
  rcases hp.cu with ⟨h, e⟩ | h
  · rw [h]; simp_all
  · rw [h]
theorem must0 {kd : Int} {s : List UInt8} {l : List Tok} {p : PS} (h : (mustT kd s l p).bad = 0) : p.bad = 0 := by
  unfold mustT at h
  by_cases e : p.bad = 0
  · exact e
  · split at h
    · exact h
    · simp [failS, e] at h
set_option maxHeartbeats 8000000 in
theorem cTPri {l : List Tok} (hl : TkOk l) {dp : Nat} {dg : List UInt8 → Int} {rec : PS → Option (Tm × PS)} (hrec : RecC l dp rec) (hbad : ∀ p t q, rec p = some (t, q) → q.bad = 0 → p.bad = 0) {F : Nat} (hF : F ≤ 100000) {p0 : PS} (hD : kindC l p0 = 3 → Pc Tryz.prog 140 [S (curT l p0)] (I (dg (curT l p0)))) (hb0 : p0.bad = 0) (ha0 : p0.at_ < l.length) {t : Tm} {q : PS} (hrun : priO l dg rec F p0 = some (t, q)) {k : Nat} {m : Mem} {n : Nat} (hk : k < n) (hm : m k = some (pTObj l dp p0)) :
    ACalls Tryz.prog 108 [.ptr k 0 0 0] m n (fun d m' n' => (∃ t', d = .agg (tmD t') ∧ (q.bad = 0 → t' = t)) ∧ m' = m.set k (pTObj l dp q) ∧ n' = n) := by
  obtain ⟨kd, a, tx, hp⟩ := pk_of hl p0
  have hkd := pk_kind hp
  have htx := hp.tex
  unfold priO at hrun
  simp only [hkd, htx] at hrun hD
  refine acalls_put (X := fun d => ∃ t', d = .agg (tmD t') ∧ (q.bad = 0 → t' = t)) (R' := Hq (fun d m' n' => (∃ t' : Tm, PubAs n m' d (.agg (tmD t')) ∧ (q.bad = 0 → t' = t)) ∧ m' k = some (pTObj l dp q) ∧ ∀ j, j < n → j ≠ k → m' j = m j) tg) k hk _ ?_ ?_
  rotate_left
  · rintro d m' n' ⟨⟨t', h1, h3⟩, h4, h5⟩
    exact ⟨.agg (tmD t'), _, h1, h4, .pur (pur_pT _ _ _), h5, t', rfl, h3⟩
  have kn : k ≠ n := by omega
  have kn1 : k ≠ n + 1 := by omega
  have kn2 : k ≠ n + 1 + 1 := by omega
  have nk2 : n + 1 + 1 ≠ k := by omega
  have d1 : n ≠ n + 1 + 1 := by omega
  have d2 : n + 1 ≠ n + 1 + 1 := by omega
  have d3 : n + 1 + 1 ≠ n := by omega
  have d4 : n + 1 + 1 ≠ n + 1 := by omega
  have d5 : n ≠ n + 1 + 1 + 1 := by omega
  have d6 : n + 1 + 1 + 1 ≠ n := by omega
  have kn3 : k ≠ n + 1 + 1 + 1 := by omega
  have nk : n ≠ k := by omega
  have nk1 : n + 1 ≠ k := by omega
  have h8 := tmD_len
  have wa := wrap_at hl ha0
  have hmx : m k = some ⟨4, [[toksD l, .v (.int .i64 p0.at_), .v (.int .i64 dp), .v .nilIface]], 0⟩ := by rw [hm]; simp [pTObj, pTC, errS, hb0, I, nilE]
  have hst := pTObj_step (l := l) (dp := dp) hb0
  by_cases k3 : kd = 3
  · subst k3
    simp only [if_true, Option.some.injEq, Prod.mk.injEq] at hrun
    obtain ⟨rfl, rfl⟩ := hrun
    have hD := hD rfl
    simp only [S, I] at hD
    refine acalls_vcC [0, 2, 3, 4, 5, 16, 17, 23, 26, 35, 39, 43, 57, 58, 62] Tryz.func108 Tryz.ntmps108 (by kernel_rfl) rfl rfl (by simp) ?_
    simp -dsimp
    refine aCall_of (cTPeek (l := l) (dp := dp) (p := p0) (by omega) (by simp [set_ne, kn, hm])) ?_
    rintro d m1 n1 ⟨rfl, rfl, rfl⟩
    rw [hp.pk]
    simp -dsimp [I, S, Tt, hmx, wa, set_ne, kn, kn1, nk, nk1, h8]
    rw [← hst]
    refine pcall hD ?_
    simp -dsimp [I, S, Tt, set_ne, kn, kn1, nk, nk1, h8]
    refine hq ⟨⟨.mk 1 (dg tx) [] [] [] [] [] [], ?_, fun _ => rfl⟩, ?_, fun j hj hjk => ?_⟩
    · simp only [tmD, tmsD, sl1, List.map_nil]
      exact .agg (.cons (pur_I _).pub (.cons (pur_I _).pub (.cons (pur_S _).pub (.cons (pur_S _).pub (.cons (pub_nil 1) (.cons (pub_nil 1) (.cons (pub_nil 7) (.cons (pub_nil 8) .nil))))))))
    · simp [set_ne, kn, kn1, kn2, nk, nk1, nk2, d1, d2, d3, d4, d5, d6, kn3]
    · simp [set_ne, hjk, show j ≠ n by omega, show j ≠ n + 1 by omega, show j ≠ n + 1 + 1 by omega, show j ≠ n + 1 + 1 + 1 by omega, show ∀ x, n ≤ x → j ≠ x from fun x hx => by omega]
  by_cases k1 : kd = 1
  · subst k1
    simp only [if_true, if_neg k3] at hrun
    refine acalls_vcC [0, 2, 3, 4, 5, 16, 17, 23, 26, 35, 39, 43, 57, 58, 62] Tryz.func108 Tryz.ntmps108 (by kernel_rfl) rfl rfl (by simp) ?_
    simp -dsimp
    refine aCall_of (cTPeek (l := l) (dp := dp) (p := p0) (by omega) (by simp [set_ne, kn, hm])) ?_
    rintro d m1 n1 ⟨rfl, rfl, rfl⟩
    rw [hp.pk]
    simp -dsimp [I, S, Tt, hmx, wa, set_ne, kn, kn1, nk, nk1, h8]
    rw [← hst]
    refine aCall_of (cTPass hl (dp := dp) (p := stepF p0) (kd := 4) (by omega) [58] (by omega) (by simp)) ?_
    rintro d m2 n2 ⟨rfl, rfl, rfl⟩
    cases hi : isT 4 [58] l (stepF p0) with
    | true =>
      rw [hi] at hrun
      simp only [if_true, Option.some.injEq, Prod.mk.injEq] at hrun
      obtain ⟨rfl, rfl⟩ := hrun
      simp -dsimp [I, S, Tt, hi, set_ne, kn, kn1, nk, nk1, h8]
      have hnm := fun (M : Mem) (N : Nat) (hN : k < N) (hM : M k = some (pTObj l dp (stepF (stepF p0)))) => cTNamed (n := N) hl (dp := dp) (p := stepF (stepF p0)) (kd := 1) (by omega) fineTn hN hM
      generalize namedT 1 nameN l (stepF (stepF p0)) = fn at hnm ⊢
      obtain ⟨nm, p1⟩ := fn
      simp only [I] at hnm
      refine vdraw_tree [0, 1, 0, 4, 15, 31] (.rd 0 (.rd 1 (.rd 2 (.wr (.cons 3 (.rd 4 (.wr (.cons 5 (.fin) (.nil)))) (.nil)))))) (by kernel_rfl) (by kernel_rfl) ?_
      simp -dsimp [I, S, Tt, hi, set_ne, kn, kn1, nk, nk1, h8]
      repeat' (with_reducible apply And.intro)
      all_goals refine aCall_of (hnm _ _ (by omega) (by simp)) ?_
      all_goals rintro d m4 n4 ⟨rfl, rfl, rfl⟩
      all_goals refine ⟨fun p hp _ => ?_, ?_⟩
      all_goals first
        | (simp only [List.mem_cons, List.not_mem_nil, or_false] at hp
           subst hp
           exact set_ne _ _ _ _ (by omega))
        | skip
      all_goals simp -dsimp [I, S, Tt, hi, set_ne, kn, kn1, nk, nk1, h8]
      all_goals
        refine hq ⟨⟨.mk 4 0 tx nm [] [] [] [], ?_, fun _ => rfl⟩, ?_, fun j hj hjk => ?_⟩
        · simp only [tmD, tmsD, sl1, List.map_nil]
          exact .agg (.cons (pur_I _).pub (.cons (pur_I _).pub (.cons (pur_S _).pub (.cons (pur_S _).pub (.cons (pub_nil 1) (.cons (pub_nil 1) (.cons (pub_nil 7) (.cons (pub_nil 8) .nil))))))))
        · simp [set_ne, kn, kn1, kn2, nk, nk1, nk2, d1, d2, d3, d4, d5, d6, kn3]
        · simp [set_ne, hjk, show j ≠ n by omega, show j ≠ n + 1 by omega, show j ≠ n + 1 + 1 by omega, show j ≠ n + 1 + 1 + 1 by omega, show ∀ x, n ≤ x → j ≠ x from fun x hx => by omega]
    | false =>
      rw [hi] at hrun
      simp only [Bool.false_eq_true, if_false, Option.some.injEq, Prod.mk.injEq] at hrun
      obtain ⟨rfl, rfl⟩ := hrun
      simp -dsimp [I, S, Tt, hi, set_ne, kn, kn1, nk, nk1, h8]
      refine hq ⟨⟨.mk 3 0 [] tx [] [] [] [], ?_, fun _ => rfl⟩, ?_, fun j hj hjk => ?_⟩
      · simp only [tmD, tmsD, sl1, List.map_nil]
        exact .agg (.cons (pur_I _).pub (.cons (pur_I _).pub (.cons (pur_S _).pub (.cons (pur_S _).pub (.cons (pub_nil 1) (.cons (pub_nil 1) (.cons (pub_nil 7) (.cons (pub_nil 8) .nil))))))))
      · simp [set_ne, kn, kn1, kn2, nk, nk1, nk2, d1, d2, d3, d4, d5, d6, kn3]
      · simp [set_ne, hjk, show j ≠ n by omega, show j ≠ n + 1 by omega, show j ≠ n + 1 + 1 by omega, show j ≠ n + 1 + 1 + 1 by omega, show ∀ x, n ≤ x → j ≠ x from fun x hx => by omega]
  by_cases k2 : kd = 2
  · subst k2
    simp only [if_true, if_neg k3, if_neg k1] at hrun
    by_cases e1 : tx = wTrue
    · subst e1
      simp only [if_true, Option.some.injEq, Prod.mk.injEq] at hrun
      obtain ⟨rfl, rfl⟩ := hrun
      refine acalls_vcC [0, 2, 3, 4, 5, 16, 17, 23, 26, 35, 39, 43, 57, 58, 62] Tryz.func108 Tryz.ntmps108 (by kernel_rfl) rfl rfl (by simp) ?_
      simp -dsimp
      refine aCall_of (cTPeek (l := l) (dp := dp) (p := p0) (by omega) (by simp [set_ne, kn, hm])) ?_
      rintro d m1 n1 ⟨rfl, rfl, rfl⟩
      rw [hp.pk]
      simp -dsimp [I, S, Tt, hmx, wa, set_ne, kn, kn1, nk, nk1, h8, wTrue]
      rw [← hst]
      refine hq ⟨⟨.mk 2 1 [] [] [] [] [] [], ?_, fun _ => rfl⟩, ?_, fun j hj hjk => ?_⟩
      · simp only [tmD, tmsD, sl1, List.map_nil]
        exact .agg (.cons (pur_I _).pub (.cons (pur_I _).pub (.cons (pur_S _).pub (.cons (pur_S _).pub (.cons (pub_nil 1) (.cons (pub_nil 1) (.cons (pub_nil 7) (.cons (pub_nil 8) .nil))))))))
      · simp [set_ne, kn, kn1, kn2, nk, nk1, nk2, d1, d2, d3, d4, d5, d6, kn3]
      · simp [set_ne, hjk, show j ≠ n by omega, show j ≠ n + 1 by omega, show j ≠ n + 1 + 1 by omega, show j ≠ n + 1 + 1 + 1 by omega, show ∀ x, n ≤ x → j ≠ x from fun x hx => by omega]
    have e1' : (tx == [84, 114, 117, 101]) = false := by simpa [wTrue] using e1
    rw [if_neg e1] at hrun
    by_cases e2 : tx = wFalse
    · subst e2
      simp only [if_true, Option.some.injEq, Prod.mk.injEq] at hrun
      obtain ⟨rfl, rfl⟩ := hrun
      refine acalls_vcC [0, 2, 3, 4, 5, 16, 17, 23, 26, 35, 39, 43, 57, 58, 62] Tryz.func108 Tryz.ntmps108 (by kernel_rfl) rfl rfl (by simp) ?_
      simp -dsimp
      refine aCall_of (cTPeek (l := l) (dp := dp) (p := p0) (by omega) (by simp [set_ne, kn, hm])) ?_
      rintro d m1 n1 ⟨rfl, rfl, rfl⟩
      rw [hp.pk]
      simp -dsimp [I, S, Tt, hmx, wa, set_ne, kn, kn1, nk, nk1, h8, wFalse]
      rw [← hst]
      refine hq ⟨⟨.mk 2 0 [] [] [] [] [] [], ?_, fun _ => rfl⟩, ?_, fun j hj hjk => ?_⟩
      · simp only [tmD, tmsD, sl1, List.map_nil]
        exact .agg (.cons (pur_I _).pub (.cons (pur_I _).pub (.cons (pur_S _).pub (.cons (pur_S _).pub (.cons (pub_nil 1) (.cons (pub_nil 1) (.cons (pub_nil 7) (.cons (pub_nil 8) .nil))))))))
      · simp [set_ne, kn, kn1, kn2, nk, nk1, nk2, d1, d2, d3, d4, d5, d6, kn3]
      · simp [set_ne, hjk, show j ≠ n by omega, show j ≠ n + 1 by omega, show j ≠ n + 1 + 1 by omega, show j ≠ n + 1 + 1 + 1 by omega, show ∀ x, n ≤ x → j ≠ x from fun x hx => by omega]
    have e2' : (tx == [70, 97, 108, 115, 101]) = false := by simpa [wFalse] using e2
    rw [if_neg e2] at hrun
    cases hrp : rec (mustT 4 [40] l (stepF p0)) with
    | none => rw [hrp] at hrun; cases hrun
    | some r =>
    obtain ⟨tb, q2⟩ := r
    rw [hrp] at hrun
    simp only [Option.some.injEq, Prod.mk.injEq] at hrun
    obtain ⟨rfl, rfl⟩ := hrun
    refine acalls_vcC [0, 2, 3, 4, 5, 16, 17, 23, 26, 35, 39, 43, 57, 58, 62] Tryz.func108 Tryz.ntmps108 (by kernel_rfl) rfl rfl (by simp) ?_
    simp -dsimp
    refine aCall_of (cTPeek (l := l) (dp := dp) (p := p0) (by omega) (by simp [set_ne, kn, hm])) ?_
    rintro d m1 n1 ⟨rfl, rfl, rfl⟩
    rw [hp.pk]
    simp -dsimp [I, S, Tt, hmx, wa, set_ne, kn, kn1, nk, nk1, h8, e1', e2']
    rw [← hst]
    refine aCall_of (cTMust hl (dp := dp) (p := stepF p0) (kd := 4) (by omega) [40] (by omega) (by simp)) ?_
    rintro d m2 n2 ⟨rfl, rfl, rfl⟩
    simp -dsimp [I, S, Tt, set_ne, kn, kn1, nk, nk1, h8]
    refine aCall_of (hrec _ tb q2 hrp k _ _ (by omega) (by simp)) ?_
    rintro d m3 n3 ⟨⟨t', rfl, ht⟩, rfl, rfl⟩
    simp -dsimp [I, S, Tt, set_ne, kn, kn1, nk, nk1, h8]
    refine aCall_of (cTMust hl (dp := dp) (p := q2) (kd := 4) (by omega) [41] (by omega) (by simp [set_ne, kn2, show k ≠ n + 1 + 1 by omega])) ?_
    rintro d m4 n4 ⟨rfl, rfl, rfl⟩
    simp -dsimp [I, S, Tt, set_ne, kn, kn1, kn2, nk, nk1, nk2, d1, d2, d3, d4, d5, d6, kn3, h8]
    refine hq ⟨⟨.mk 7 0 [] tx [] [] [] [t'], ?_, fun h => by rw [ht (must0 h)]⟩, ?_, fun j hj hjk => ?_⟩
    · simp only [tmD, tmsD, sl1, List.map_nil]
      exact .agg (.cons (pur_I _).pub (.cons (pur_I _).pub (.cons (pur_S _).pub (.cons (pur_S _).pub (.cons (pub_nil 1) (.cons (pub_nil 1) (.cons (pub_nil 7) (.cons (.lstP (es := [tmD t']) (.mk (es' := [tmD t']) (by simp [set_ne, d6]) (by simp) (by simp) (by simp)) (fun j hj => by simp [kof] at hj; omega) (fun e he d hd => by simp only [List.mem_singleton] at he; subst he; exact pur_tm t' d hd)) .nil))))))))
    · simp [set_ne, kn, kn1, kn2, nk, nk1, nk2, d1, d2, d3, d4, d5, d6, kn3]
    · simp [set_ne, hjk, show j ≠ n by omega, show j ≠ n + 1 by omega, show j ≠ n + 1 + 1 by omega, show j ≠ n + 1 + 1 + 1 by omega, show ∀ x, n ≤ x → j ≠ x from fun x hx => by omega]
  have b1 : (kd == 1) = false := by simpa using k1
  have b2 : (kd == 2) = false := by simpa using k2
  have b3 : (kd == 3) = false := by simpa using k3
  rw [if_neg k3, if_neg k1, if_neg k2] at hrun
  by_cases e1 : tx = [123]
  · subst e1
    simp only [if_true] at hrun
    refine acalls_vcC [0, 2, 3, 4, 5, 16, 17, 23, 26, 35, 39, 43, 57, 58, 62] Tryz.func108 Tryz.ntmps108 (by kernel_rfl) rfl rfl (by simp) ?_
    simp -dsimp
    refine aCall_of (cTPeek (l := l) (dp := dp) (p := p0) (by omega) (by simp [set_ne, kn, hm])) ?_
    rintro d m1 n1 ⟨rfl, rfl, rfl⟩
    rw [hp.pk]
    simp -dsimp [I, S, Tt, hmx, wa, set_ne, kn, kn1, nk, nk1, h8, b1, b2, b3]
    rw [← hst]
    refine aCall_of (cTFields hl hrec hbad hF hrun (by omega) (by simp)) ?_
    rintro d m2 n2 ⟨⟨t', rfl, ht⟩, rfl, rfl⟩
    simp -dsimp [I, S, Tt, set_ne, kn, kn1, nk, nk1, h8]
    refine hq ⟨⟨t', ?_, ht⟩, ?_, fun j hj hjk => ?_⟩
    · exact .agg (pubL_pur (pur_tm t'))
    · simp [set_ne, kn, kn1, kn2, nk, nk1, nk2, d1, d2, d3, d4, d5, d6, kn3]
    · simp [set_ne, hjk, show j ≠ n by omega, show j ≠ n + 1 by omega, show j ≠ n + 1 + 1 by omega, show j ≠ n + 1 + 1 + 1 by omega, show ∀ x, n ≤ x → j ≠ x from fun x hx => by omega]
  have e1' : (tx == [123]) = false := by simpa using e1
  rw [if_neg e1] at hrun
  by_cases e2 : tx = [91]
  · subst e2
    simp only [if_true] at hrun
    cases hsv : sevO l rec F [93] false (stepF p0) with
    | none => rw [hsv] at hrun; cases hrun
    | some r =>
    obtain ⟨ts, q2⟩ := r
    rw [hsv] at hrun
    simp only [Option.map_some, Option.some.injEq, Prod.mk.injEq] at hrun
    obtain ⟨rfl, rfl⟩ := hrun
    have hcs := fun (M : Mem) (N : Nat) (hN : k < N) (hM : M k = some (pTObj l dp (stepF p0))) => cTSev (n := N) hl hrec hF hsv hN hM
    simp only [S, Tt] at hcs
    refine acalls_vcC [0, 2, 3, 4, 5, 16, 17, 23, 26, 35, 39, 43, 57, 58, 62] Tryz.func108 Tryz.ntmps108 (by kernel_rfl) rfl rfl (by simp) ?_
    simp -dsimp
    refine aCall_of (cTPeek (l := l) (dp := dp) (p := p0) (by omega) (by simp [set_ne, kn, hm])) ?_
    rintro d m1 n1 ⟨rfl, rfl, rfl⟩
    rw [hp.pk]
    simp -dsimp [I, S, Tt, hmx, wa, set_ne, kn, kn1, nk, nk1, h8, b1, b2, b3]
    rw [← hst]
    refine aCall_of (hcs _ _ (by omega) (by simp)) ?_
    rintro d m2 n2 ⟨⟨ts', rfl, hts, htl⟩, rfl, rfl⟩
    simp -dsimp [I, S, Tt, set_ne, kn, kn1, nk, nk1, h8]
    refine hq ⟨⟨.mk 10 0 [] [] [] [] [] ts', ?_, fun h => by rw [hts h]⟩, ?_, fun j hj hjk => ?_⟩
    · simp only [tmD, tmsD, tmsD_eq, sl1, List.map_nil]
      exact .agg (.cons (pur_I _).pub (.cons (pur_I _).pub (.cons (pur_S _).pub (.cons (pur_S _).pub (.cons (pub_nil 1) (.cons (pub_nil 1) (.cons (pub_nil 7) (.cons (Pur.sl (pur_tmm _)).pub .nil))))))))
    · simp [set_ne, kn, kn1, kn2, nk, nk1, nk2, d1, d2, d3, d4, d5, d6, kn3]
    · simp [set_ne, hjk, show j ≠ n by omega, show j ≠ n + 1 by omega, show j ≠ n + 1 + 1 by omega, show j ≠ n + 1 + 1 + 1 by omega, show ∀ x, n ≤ x → j ≠ x from fun x hx => by omega]
  have e2' : (tx == [91]) = false := by simpa using e2
  rw [if_neg e2] at hrun
  cases hrp : rec (stepF p0) with
  | none => rw [hrp] at hrun; cases hrun
  | some r =>
  obtain ⟨tb, q2⟩ := r
  rw [hrp] at hrun
  simp only [Option.some.injEq, Prod.mk.injEq] at hrun
  obtain ⟨rfl, rfl⟩ := hrun
  refine acalls_vcC [0, 2, 3, 4, 5, 16, 17, 23, 26, 35, 39, 43, 57, 58, 62] Tryz.func108 Tryz.ntmps108 (by kernel_rfl) rfl rfl (by simp) ?_
  simp -dsimp
  refine aCall_of (cTPeek (l := l) (dp := dp) (p := p0) (by omega) (by simp [set_ne, kn, hm])) ?_
  rintro d m1 n1 ⟨rfl, rfl, rfl⟩
  rw [hp.pk]
  simp -dsimp [I, S, Tt, hmx, wa, set_ne, kn, kn1, nk, nk1, h8, b1, b2, b3, e1', e2']
  rw [← hst]
  refine aCall_of (hrec _ tb q2 hrp k _ _ (by omega) (by simp)) ?_
  rintro d m3 n3 ⟨⟨t', rfl, ht⟩, rfl, rfl⟩
  simp -dsimp [I, S, Tt, set_ne, kn, kn1, nk, nk1, h8]
  refine aCall_of (cTMust hl (dp := dp) (p := q2) (kd := 4) (by omega) [41] (by omega) (by simp [set_ne, kn2, show k ≠ n + 1 + 1 by omega])) ?_
  rintro d m4 n4 ⟨rfl, rfl, rfl⟩
  simp -dsimp [I, S, Tt, set_ne, kn, kn1, kn2, nk, nk1, nk2, d1, d2, d3, d4, d5, d6, kn3, h8]
  refine hq ⟨⟨t', ?_, fun h => ht (must0 h)⟩, ?_, fun j hj hjk => ?_⟩
  · exact .agg (pubL_pur (pur_tm t'))
  · simp [set_ne, kn, kn1, kn2, nk, nk1, nk2, d1, d2, d3, d4, d5, d6, kn3]
  · simp [set_ne, hjk, show j ≠ n by omega, show j ≠ n + 1 by omega, show j ≠ n + 1 + 1 by omega, show j ≠ n + 1 + 1 + 1 by omega, show ∀ x, n ≤ x → j ≠ x from fun x hx => by omega]
end Go.Proofs.Mv.App
open Go Go.Proofs Go.Proofs.Mv.V
set_option maxRecDepth 10000
namespace Go.Proofs.Mv.App
theorem cTDef {l : List Tok} {dp : Nat} (hdp : dp ≤ 2000) {p : PS} {k b : Nat} {m : Mem} {n : Nat} (hk : k < n) (hb : b < n) (hbk : b ≠ k) (hmb : m b = some ⟨1, [[.ptr k 0 0 0]], 0⟩) (hm : m k = some (pTObj l (dp + 1) p)) :
    DCalls Tryz.prog 103 [.ptr b 0 0 0] m n (fun m' n' => m' = m.set k (pTObj l dp p) ∧ n' = n) := by
  have hmx : m k = some ⟨4, [[toksD l, I p.at_, .v (.int .i64 ((dp + 1 : Nat) : Int)), errS p]], 0⟩ := hm
  refine dcalls_of (ts := []) Tryz.func103 (by kernel_rfl) rfl rfl (by simp) (by kernel_rfl) ?_
  rw [Tryz.ntmps103]
  refine vc_sound (G := [0]) _ _ tg _ _ _ ?_
  simp -dsimp [hmb, hmx, set_ne, hbk, hbk.symm]
  rw [wrap_i64 (by omega) (by omega)]
  rfl
theorem termO_bad {l : List Tok} {dg : List UInt8 → Int} {f dp : Nat} {p : PS} {t : Tm} {q : PS} (h : termO l dg f dp p = some (t, q)) (hq : q.bad = 0) : p.bad = 0 := by
  cases f with
  | zero => simp [termO] at h
  | succ f =>
  by_cases e : p.bad = 0
  · exact e
  have hc : cur l p = none := by simp [cur, e]
  have hb : begB dg (kindC l p) (curT l p) = false := by simp [kindC, curT, hc, begB]
  simp only [termO, hb, Bool.false_eq_true, if_false, Option.some.injEq, Prod.mk.injEq] at h
  rw [← h.2] at hq
  rw [failS_bad e] at hq
  exact absurd hq e
theorem retD_ret {P : Program} (l : List ResultVar) (gf : FuncId) (cs : List D) (R : D → Mem → Nat → Prop) (σ : Nat → D) (m : Mem) (n : Nat) : RetD P l gf cs R .ret σ m n = DCalls P gf cs m n fun m' n' => rets P l (fun ds => R (oneOr ds) m' n') tg σ m' n' := rfl
set_option maxHeartbeats 8000000 in
theorem cTTerm {l : List Tok} (hl : TkOk l) (hfn : FunC l) {dg : List UInt8 → Int} (hD : ∀ t ∈ l, t.kind = 3 → Pc Tryz.prog 140 [S t.text] (I (dg t.text))) (hw : ∀ t ∈ l, t.kind = 1 → t.text ≠ wIf ∧ t.text ≠ wCase) : ∀ (f : Nat), f ≤ 100000 → ∀ dp, dp ≤ 2000 → RecC l dp (termO l dg f dp) := by
  intro f
  induction f with
  | zero => intro _ dp _ p t q h; simp [termO] at h
  | succ f ih =>
  intro hf dp hdp p t q hrun k m n hk hm
  obtain ⟨kd, a, tx, hp⟩ := pk_of hl p
  have hkd := pk_kind hp
  have htx := hp.tex
  simp only [termO, hkd, htx] at hrun
  have kn : k ≠ n := by omega
  have kn1 : k ≠ n + 1 := by omega
  have kn2 : k ≠ n + 1 + 1 := by omega
  have nk : n ≠ k := by omega
  have nk1 : n + 1 ≠ k := by omega
  have nk2 : n + 1 + 1 ≠ k := by omega
  have d1 : n ≠ n + 1 := by omega
  have d2 : n ≠ n + 1 + 1 := by omega
  have d3 : n + 1 ≠ n + 1 + 1 := by omega
  have d1' : n + 1 ≠ n := by omega
  have d2' : n + 1 + 1 ≠ n := by omega
  have d3' : n + 1 + 1 ≠ n + 1 := by omega
  have hmx : m k = some ⟨4, [[toksD l, I p.at_, .v (.int .i64 (dp : Int)), errS p]], 0⟩ := hm
  have h8 := tmD_len
  have hbg : Pc Tryz.prog 102 [.agg [I kd, I a, S tx]] (Tt (begB dg kd tx)) := cTBegins kd a tx hp.len fun e => by
    subst e
    rcases hp.cu with ⟨h, e⟩ | h
    · simp at e
    · exact hD _ (List.mem_of_getElem? (cur_some h).2.2) rfl
  simp only [I, S] at hbg
  refine acalls_put (X := fun d => ∃ t', d = .agg (tmD t') ∧ (q.bad = 0 → t' = t)) (R' := Hq (fun d m' n' => (∃ t' : Tm, PubAs n m' d (.agg (tmD t')) ∧ (q.bad = 0 → t' = t)) ∧ m' k = some (pTObj l dp q) ∧ ∀ j, j < n → j ≠ k → m' j = m j) tg) k hk _ ?_ ?_
  rotate_left
  · rintro d m' n' ⟨⟨t', h1, h3⟩, h4, h5⟩
    exact ⟨.agg (tmD t'), _, h1, h4, .pur (pur_pT _ _ _), h5, t', rfl, h3⟩
  refine acalls_ofD (gf := 103) (cs := [.ptr n 0 0 0]) Tryz.func65 Tryz.ntmps65 (by kernel_rfl) rfl rfl (by simp) ?_
  refine vcd_seq [0, 1, 2, 3, 6, 13, 32, 34, 35, 39, 43] ?_
  simp -dsimp
  refine vcd_seq [0, 1, 2, 3, 6, 13, 32, 34, 35, 39, 43] ?_
  simp -dsimp [set_ne, d1]
  refine aCall_of (cTPeek (l := l) (dp := dp) (p := p) (by omega) (by simp [set_ne, kn, kn1, hm])) ?_
  rintro d m1 n1 ⟨rfl, rfl, rfl⟩
  rw [hp.pk]
  simp -dsimp [I, S]
  refine vcd_seq [0, 1, 2, 3, 6, 13, 32, 34, 35, 39, 43] ?_
  simp -dsimp [I, S, set_ne, d3']
  refine pcall hbg ?_
  cases hb : begB dg kd tx with
  | false =>
    rw [hb] at hrun
    simp only [Bool.false_eq_true, if_false, Option.some.injEq, Prod.mk.injEq] at hrun
    obtain ⟨rfl, rfl⟩ := hrun
    simp -dsimp [I, S, Tt, set_ne, kn, kn1, kn2, nk, nk1, nk2, d1, d2, d3, d1', d2', d3', h8, hmx, hb]
    refine aCall_of (cTFail (l := l) (dp := dp) (p := p) 2 (by omega) (by omega) (by simp [set_ne, kn, kn1, kn2, hm])) ?_
    rintro d m2 n2 ⟨rfl, rfl, rfl⟩
    simp -dsimp [I, S, Tt, set_ne, kn, kn1, kn2, nk, nk1, nk2, d1, d2, d3, d1', d2', d3', h8, hmx, hb]
    refine hq ⟨⟨Tm0, ?_, fun _ => rfl⟩, ?_, fun j hj hjk => ?_⟩
    · rw [tmD_zero]
      exact .agg (.cons (pur_I _).pub (.cons (pur_I _).pub (.cons (pur_S _).pub (.cons (pur_S _).pub (.cons (pub_nil 1) (.cons (pub_nil 1) (.cons (pub_nil 7) (.cons (pub_nil 8) .nil))))))))
    · simp [set_ne, kn, kn1, kn2, nk, nk1]
    · simp [set_ne, hjk, show j ≠ n by omega, show j ≠ n + 1 by omega, show j ≠ n + 1 + 1 by omega]
  | true =>
    rw [hb] at hrun
    simp only [if_true] at hrun
    have k0 : kd ≠ 0 := by rintro rfl; simp [begB] at hb
    obtain ⟨hb0, ha0⟩ := hp.ok k0
    by_cases hge : 2000 ≤ dp
    · rw [if_pos hge] at hrun
      simp only [Option.some.injEq, Prod.mk.injEq] at hrun
      obtain ⟨rfl, rfl⟩ := hrun
      have hge' : (2000 : Int) ≤ (dp : Int) := by omega
      simp -dsimp [I, S, Tt, set_ne, kn, kn1, kn2, nk, nk1, nk2, d1, d2, d3, d1', d2', d3', h8, hmx, hb, hge']
      refine aCall_of (cTFail (l := l) (dp := dp) (p := p) 3 (by omega) (by omega) (by simp [set_ne, kn, kn1, kn2, hm])) ?_
      rintro d m2 n2 ⟨rfl, rfl, rfl⟩
      simp -dsimp [I, S, Tt, set_ne, kn, kn1, kn2, nk, nk1, nk2, d1, d2, d3, d1', d2', d3', h8, hmx, hb]
      refine hq ⟨⟨Tm0, ?_, fun _ => rfl⟩, ?_, fun j hj hjk => ?_⟩
      · rw [tmD_zero]
        exact .agg (.cons (pur_I _).pub (.cons (pur_I _).pub (.cons (pur_S _).pub (.cons (pur_S _).pub (.cons (pub_nil 1) (.cons (pub_nil 1) (.cons (pub_nil 7) (.cons (pub_nil 8) .nil))))))))
      · simp [set_ne, kn, kn1, kn2, nk, nk1]
      · simp [set_ne, hjk, show j ≠ n by omega, show j ≠ n + 1 by omega, show j ≠ n + 1 + 1 by omega]
    rw [if_neg hge] at hrun
    have hge' : ¬ (2000 : Int) ≤ (dp : Int) := by omega
    simp -dsimp [I, S, Tt, set_ne, kn, kn1, kn2, nk, nk1, nk2, d1, d2, d3, d1', d2', d3', h8, hmx, hb, hge']
    refine vcd_seq [0, 1, 2, 3, 6, 13, 32, 34, 35, 39, 43] ?_
    have wd : IntKind.i64.wrap ((dp : Int) + 1) = (dp : Int) + 1 := wrap_i64 (by omega) (by omega)
    simp -dsimp [I, S, Tt, set_ne, kn, kn1, kn2, nk, nk1, nk2, d1, d2, d3, d1', d2', d3', h8, hmx, hb, hge', wd]
    have hst : (⟨4, [[toksD l, .v (.int .i64 p.at_), .v (.int .i64 ((dp : Int) + 1)), errS p]], 0⟩ : V.Obj) = pTObj l (dp + 1) p := by simp [pTObj, pTC, I]
    rw [hst]
    have rc := ih (by omega) (dp + 1) (by omega)
    have rb : ∀ p t q, termO l dg f (dp + 1) p = some (t, q) → q.bad = 0 → p.bad = 0 := fun p t q h => termO_bad h
    refine vcd_defer [⟨some 29, .makeFunc (.func 103) _ _, _, _, _, none⟩] [0, 1, 2, 3, 6, 13, 32, 34, 35, 39, 43] rfl rfl ?_
    by_cases k1 : kd = 1
    · subst k1
      by_cases ef : tx = wFn
      · subst ef
        simp only [and_self, if_true] at hrun
        simp -dsimp [I, S, Tt, set_ne, kn, kn1, kn2, nk, nk1, nk2, d1, d2, d3, d1', d2', d3', h8, hmx, hb, retD_ret, wFn]
        refine aCall_of (hfn (dp + 1) _ rc f (by omega) p hb0 ha0 htx _ _ hrun k _ _ (by omega) (by simp)) ?_
        rintro d m2 n2 ⟨⟨t', rfl, ht⟩, rfl, rfl⟩
        simp -dsimp [I, S, Tt, set_ne, kn, kn1, kn2, nk, nk1, nk2, d1, d2, d3, d1', d2', d3', h8, hmx, hb, retD_ret]
        refine (cTDef (l := l) hdp (p := q) (k := k) (by omega) (by omega) nk (by simp [set_ne, nk, d1, d2]) (by simp [set_ne, kn1])).mono ?_
        rintro m' n' ⟨rfl, rfl⟩
        simp -dsimp [I, S, Tt, set_ne, kn, kn1, kn2, nk, nk1, nk2, d1, d2, d3, d1', d2', d3', h8, hmx, hb, retD_ret]
        refine hq ⟨⟨t', .agg (pubL_pur (pur_tm t')), ht⟩, by simp, fun j hj hjk => ?_⟩
        simp [set_ne, hjk, show j ≠ n by omega, show j ≠ n + 1 by omega, show j ≠ n + 1 + 1 by omega]
      have hcu : cur l p = some ⟨1, a, tx⟩ := by
        rcases hp.cu with ⟨h, e⟩ | h
        · simp at e
        · exact h
      have hwx := hw _ (List.mem_of_getElem? (cur_some hcu).2.2) rfl
      have e1 : (tx == [102, 110]) = false := by simpa [wFn] using ef
      have e2 : (tx == [105, 102]) = false := by simpa [wIf] using hwx.1
      have e3 : (tx == [99, 97, 115, 101]) = false := by simpa [wCase] using hwx.2
      rw [if_neg (by simp [ef]), if_neg (fun h => hwx.1 h.2)] at hrun
      cases hpr : priO l dg (termO l dg f (dp + 1)) f p with
      | none => rw [hpr] at hrun; cases hrun
      | some r =>
      obtain ⟨t1, q1⟩ := r
      rw [hpr] at hrun
      simp only at hrun
      simp -dsimp [I, S, Tt, set_ne, kn, kn1, kn2, nk, nk1, nk2, d1, d2, d3, d1', d2', d3', h8, hmx, hb, retD_ret, e1, e2, e3]
      refine vdraw_tree [0, 0, 2, 7, 15] (.rd 0 (.rd 1 (.wr (.cons 2 (.wr (.cons 3 (.wr (.cons 4 (.fin) (.nil))) (.nil))) (.nil))))) (by kernel_rfl) (by kernel_rfl) ?_
      simp -dsimp [I, S, Tt, set_ne, kn, kn1, kn2, nk, nk1, nk2, d1, d2, d3, d1', d2', d3', h8, hmx, hb, retD_ret]
      refine aCall_of (cTPri hl rc rb (by omega) (fun e => ?_) hb0 ha0 hpr (by omega) (by simp)) ?_
      · rw [hkd] at e
        exact absurd e (by decide)
      rintro d m2 n2 ⟨⟨t1', rfl, ht1⟩, rfl, rfl⟩
      refine ⟨fun p hp _ => ?_, ?_⟩
      · simp only [List.mem_cons, List.not_mem_nil, or_false] at hp
        rcases hp with rfl | rfl
        · simp [set_ne, nk]
        · simp [set_ne, nk]
      simp -dsimp [I, S, Tt, set_ne, kn, kn1, kn2, nk, nk1, nk2, d1, d2, d3, d1', d2', d3', h8, hmx, hb, retD_ret]
      refine aCall_of (cTBeh hl rc (g := f) (by omega) ht1 hrun (by omega) (by simp)) ?_
      rintro d m3 n3 ⟨⟨t', rfl, ht⟩, rfl, rfl⟩
      refine ⟨fun p hp _ => ?_, ?_⟩
      · simp only [List.mem_cons, List.not_mem_nil, or_false] at hp
        rcases hp with rfl | rfl
        · simp [set_ne, nk]
        · simp [set_ne, nk]
      simp -dsimp [I, S, Tt, set_ne, kn, kn1, kn2, nk, nk1, nk2, d1, d2, d3, d1', d2', d3', h8, hmx, hb, retD_ret]
      refine (cTDef (l := l) hdp (p := q) (k := k) (by omega) (by omega) nk (by simp [set_ne, nk, d1, d2]) (by simp [set_ne, kn1])).mono ?_
      rintro m' n' ⟨rfl, rfl⟩
      simp -dsimp [I, S, Tt, set_ne, kn, kn1, kn2, nk, nk1, nk2, d1, d2, d3, d1', d2', d3', h8, hmx, hb, retD_ret]
      refine hq ⟨⟨t', .agg (pubL_pur (pur_tm t')), ht⟩, by simp, fun j hj hjk => ?_⟩
      simp [set_ne, hjk, show j ≠ n by omega, show j ≠ n + 1 by omega, show j ≠ n + 1 + 1 by omega]
    have b1 : (kd == 1) = false := by simpa using k1
    rw [if_neg (by simp [k1]), if_neg (by simp [k1])] at hrun
    cases hpr : priO l dg (termO l dg f (dp + 1)) f p with
    | none => rw [hpr] at hrun; cases hrun
    | some r =>
    obtain ⟨t1, q1⟩ := r
    rw [hpr] at hrun
    simp only at hrun
    simp -dsimp [I, S, Tt, set_ne, kn, kn1, kn2, nk, nk1, nk2, d1, d2, d3, d1', d2', d3', h8, hmx, hb, retD_ret, b1]
    refine vdraw_tree [0, 0, 2, 7, 15] (.rd 0 (.rd 1 (.wr (.cons 2 (.wr (.cons 3 (.wr (.cons 4 (.fin) (.nil))) (.nil))) (.nil))))) (by kernel_rfl) (by kernel_rfl) ?_
    simp -dsimp [I, S, Tt, set_ne, kn, kn1, kn2, nk, nk1, nk2, d1, d2, d3, d1', d2', d3', h8, hmx, hb, retD_ret]
    refine aCall_of (cTPri hl rc rb (by omega) (fun e => ?_) hb0 ha0 hpr (by omega) (by simp)) ?_
    · rw [hkd] at e
      subst e
      rcases hp.cu with ⟨h, e⟩ | h
      · simp at e
      · rw [htx]
        exact hD _ (List.mem_of_getElem? (cur_some h).2.2) rfl
    rintro d m2 n2 ⟨⟨t1', rfl, ht1⟩, rfl, rfl⟩
    refine ⟨fun p hp _ => ?_, ?_⟩
    · simp only [List.mem_cons, List.not_mem_nil, or_false] at hp
      rcases hp with rfl | rfl
      · simp [set_ne, nk]
      · simp [set_ne, nk]
    simp -dsimp [I, S, Tt, set_ne, kn, kn1, kn2, nk, nk1, nk2, d1, d2, d3, d1', d2', d3', h8, hmx, hb, retD_ret]
    refine aCall_of (cTBeh hl rc (g := f) (by omega) ht1 hrun (by omega) (by simp)) ?_
    rintro d m3 n3 ⟨⟨t', rfl, ht⟩, rfl, rfl⟩
    refine ⟨fun p hp _ => ?_, ?_⟩
    · simp only [List.mem_cons, List.not_mem_nil, or_false] at hp
      rcases hp with rfl | rfl
      · simp [set_ne, nk]
      · simp [set_ne, nk]
    simp -dsimp [I, S, Tt, set_ne, kn, kn1, kn2, nk, nk1, nk2, d1, d2, d3, d1', d2', d3', h8, hmx, hb, retD_ret]
    refine (cTDef (l := l) hdp (p := q) (k := k) (by omega) (by omega) nk (by simp [set_ne, nk, d1, d2]) (by simp [set_ne, kn1])).mono ?_
    rintro m' n' ⟨rfl, rfl⟩
    simp -dsimp [I, S, Tt, set_ne, kn, kn1, kn2, nk, nk1, nk2, d1, d2, d3, d1', d2', d3', h8, hmx, hb, retD_ret]
    refine hq ⟨⟨t', .agg (pubL_pur (pur_tm t')), ht⟩, by simp, fun j hj hjk => ?_⟩
    simp [set_ne, hjk, show j ≠ n by omega, show j ≠ n + 1 by omega, show j ≠ n + 1 + 1 by omega]
end Go.Proofs.Mv.App
