/- A part of the proofs: machine, contracts, laws. No condition of its own. -/
import Derived.Test.YtihbegkefjjhpaaGreatDoorP11
import Derived.Test.YtihbegkefjjhpaaGreatDoorMvDf
import Derived.Ground.SlsfProg
import Derived.Shelf.SlLaysF0
import Derived.Test.YtihbegkefjjhpaaGreatDoorProg
import Derived.Test.YtihbegkefjjhpaaGreatDoorP10
import Derived.Shelf.SlSortCmp.NoneTotal
set_option linter.unusedSimpArgs false
set_option linter.unusedVariables false
set_option linter.unusedSectionVars false
open Go Go.Proofs Go.Proofs.Mv.V
set_option maxRecDepth 10000
namespace Go.Proofs.Mv.App
theorem pubL_pur {n : Nat} {m : Mem} : ∀ {l : List D}, (∀ d ∈ l, Pur d) → PubL n m l l
 | [], _ => .nil
 | d :: l, h => .cons (h d (by simp)).pub (pubL_pur fun x hx => h x (by simp [hx]))
def FunC (l : List Tok) : Prop := ∀ (dp : Nat) (rec : PS → Option (Tm × PS)), RecC l dp rec → ∀ F, F ≤ 100000 → ∀ p0 : PS, p0.bad = 0 → p0.at_ < l.length → curT l p0 = wFn → ∀ t q, funO l rec F (stepF p0) = some (t, q) → ∀ (k : Nat) (m : Mem) (n : Nat), k < n → m k = some (pTObj l dp p0) →
 ACalls Tryz.prog 104 [.ptr k 0 0 0] m n (fun d m' n' => (∃ t', d = .agg (tmD t') ∧ (q.bad = 0 → t' = t)) ∧ m' = m.set k (pTObj l dp q) ∧ n' = n)
structure BhI (l : List Tok) (dp : Nat) (k : Nat) (m : Mem) (n : Nat) (t' : Tm) (p : PS) (X : List D) (σ : Nat → D) (m2 : Mem) (n2 : Nat) : Prop where
 h0 : σ 0 = .ptr k 0 0 0
 h3 : σ 3 = .ptr n 0 0 0
 h4 : σ 4 = .ptr (n + 1) 0 0 0
 ob : m2 n = some ⟨8, [X], 0⟩
 rs : m2 (n + 1) = some zT
 xl : X.length = 8
 hX : ∀ M, (∀ j, n + 2 ≤ j → j < n2 → M j = m2 j) → PubL n M X (tmD t')
 nn : n + 2 ≤ n2
 pk : m2 k = some (pTObj l dp p)
 fr : ∀ j, j < n → j ≠ k → m2 j = m j
structure BhH (l : List Tok) (rec : PS → Option (Tm × PS)) (dp g : Nat) (tF : Tm) (q : PS) (k : Nat) (m : Mem) (n : Nat) (b : Nat × Tm × PS × Tm) (σ : Nat → D) (m2 : Mem) (n2 : Nat) : Prop where
 ii : ∃ X, BhI l dp k m n b.2.2.2 b.2.2.1 X σ m2 n2
 st : behO l rec g b.1 b.2.1 b.2.2.1 = some (tF, q)
 eq : b.2.2.1.bad = 0 → b.2.2.2 = b.2.1
set_option maxHeartbeats 8000000 in
theorem cTBeh {l : List Tok} (hl : TkOk l) {dp : Nat} {rec : PS → Option (Tm × PS)} (hrec : RecC l dp rec) {g : Nat} (hg : g ≤ 100000) {F : Nat} {t0 t0' : Tm} {p0 : PS} (h00 : p0.bad = 0 → t0' = t0) {t : Tm} {q : PS} (hrun : behO l rec g F t0 p0 = some (t, q)) {k : Nat} {m : Mem} {n : Nat} (hk : k < n) (hm : m k = some (pTObj l dp p0)) :
  ACalls Tryz.prog 107 [.ptr k 0 0 0, .agg (tmD t0')] m n (fun d m' n' => (∃ t', d = .agg (tmD t') ∧ (q.bad = 0 → t' = t)) ∧ m' = m.set k (pTObj l dp q) ∧ n' = n) := by
 refine acalls_put (X := fun d => ∃ t', d = .agg (tmD t') ∧ (q.bad = 0 → t' = t)) (R' := Hq (fun d m' n' => (∃ t' : Tm, PubAs n m' d (.agg (tmD t')) ∧ (q.bad = 0 → t' = t)) ∧ m' k = some (pTObj l dp q) ∧ ∀ j, j < n → j ≠ k → m' j = m j) tg) k hk _ ?_ ?_
 rotate_left
 ·rintro d m' n' ⟨⟨t', h1, h3⟩, h4, h5⟩
  exact ⟨.agg (tmD t'), _, h1, h4, .pur (pur_pT _ _ _), h5, t', rfl, h3⟩
 have kn : k ≠ n := by omega
 have h8 := tmD_len
 refine acalls_vcC [0, 1, 3, 4, 9, 11, 19] Tryz.func107 Tryz.ntmps107 (by kernel_rfl) rfl rfl (by simp) ?_
 simp -dsimp [h8]
 refine vloop_of (β := Nat × Tm × PS × Tm) (BhH l rec dp g t q k m n) (fun b => b.1) (F, t0, p0, t0') ⟨⟨tmD t0', by simp, by simp, by simp, by simp [set_ne], by simp [zT], h8 _, fun M hM => pubL_pur (pur_tm t0'), by omega, by simp [set_ne, kn, show k ≠ n + 1 by omega, hm], fun j h1 h2 => by simp [set_ne, show j ≠ n by omega, show j ≠ n + 1 by omega]⟩, hrun, h00⟩ ?_
 rintro ⟨f, t1, p, t'⟩ σ m2 n2 ⟨⟨X, ii⟩, st, eq⟩
 simp only at ii st eq
 have ii' := ii
 obtain ⟨h0, h3, h4, ob, rs, xl, hX, nn, pk, fr⟩ := ii
 have tX : List.take 8 X = X := List.take_of_length_le (by omega)
 have dX : List.drop 8 X = [] := List.drop_of_length_le (by omega)
 cases f with
 | zero => simp only [behO] at st; cases st
 | succ f =>
 simp only [behO] at st
 have fin : ∀ {M : Mem} {N : Nat}, q = p → t = t1 → (∀ j, j < n2 → j ≠ k → j ≠ n + 1 → M j = m2 j) → M k = some (pTObj l dp p) → n2 ≤ N → Hq (fun d m' n' => (∃ t' : Tm, PubAs n m' d (.agg (tmD t')) ∧ (q.bad = 0 → t' = t)) ∧ m' k = some (pTObj l dp q) ∧ ∀ j, j < n → j ≠ k → m' j = m j) tg (.agg X) M N := by
  rintro M N rfl rfl hM hMk hN
  exact hq ⟨⟨t', .agg (hX M fun j h1 h2 => hM j h2 (by omega) (by omega)), eq⟩, hMk, fun j h1 h2 => by rw [hM j (by omega) h2 (by omega)]; exact fr j h1 h2⟩
 by_cases hb : p.bad = 0
 case neg =>
  rw [if_neg hb] at st
  simp only [Option.some.injEq, Prod.mk.injEq] at st
  have hmx : m2 k = some ⟨4, [[toksD l, I p.at_, I dp, spotE p.cnt p.bad]], 0⟩ := by rw [pk]; simp [pTObj, pTC, errS, hb]
  simp -dsimp [h0, h3, h4, hmx, spotE, ob, rs, xl, tX, zT]
  exact fin st.2.symm st.1.symm (fun j h1 h2 h3 => set_ne _ _ _ _ h3) (by rw [set_ne _ _ _ _ (by omega)]; exact pk) (by omega)
 rw [if_pos hb] at st
 have hmx : m2 k = some ⟨4, [[toksD l, I p.at_, I dp, nilE]], 0⟩ := by rw [pk]; simp [pTObj, pTC, errS, hb]
 simp -dsimp [h0, h3, h4, hmx, nilE]
 refine aCall_of (cTPass hl (dp := dp) (p := p) (kd := 4) (by omega) [46] (by omega) pk) ?_
 rintro d m3 n3 ⟨rfl, rfl, rfl⟩
 cases hi : isT 4 [46] l p with
 | true =>
  rw [hi] at st
  simp only [if_true] at st
  simp -dsimp [h0, h3, h4, Tt, hi]
  have hnm := fun (M : Mem) (N : Nat) (hN : k < N) (hM : M k = some (pTObj l dp (stepF p))) => cTNamed (n := N) hl (dp := dp) (p := stepF p) (kd := 1) (by omega) fineTn hN hM
  generalize namedT 1 nameN l (stepF p) = fn at st hnm
  obtain ⟨nm, p1⟩ := fn
  simp only [I] at st hnm
  have nx : ∀ {M : Mem} {σ' : Nat → D}, (∀ j, j < n3 → j ≠ k → j ≠ n → M j = m2 j) → M n = some ⟨8, [[.v (.int .i64 6), .v (.int .i64 0), .v (.string (ofL [])), S nm, .v (.slice none 0 0), .v (.slice none 0 0), .v (.slice none 0 0), .own n3 0 0 1 8]], 0⟩ → M k = some (pTObj l dp p1) → M n3 = some ⟨8, [X], 0⟩ → σ' 0 = .ptr k 0 0 0 → σ' 3 = .ptr n 0 0 0 → σ' 4 = .ptr (n + 1) 0 0 0 →
    BhI l dp k m n (.mk 6 0 [] nm [] [] [] [t']) p1 [.v (.int .i64 6), .v (.int .i64 0), .v (.string (ofL [])), S nm, .v (.slice none 0 0), .v (.slice none 0 0), .v (.slice none 0 0), .own n3 0 0 1 8] σ' M (n3 + 1) := fun {M σ'} hM hMn hMk hM3 e0 e3 e4 => by
   refine ⟨e0, e3, e4, hMn, by rw [hM (n + 1) (by omega) (by omega) (by omega)]; exact rs, rfl, fun M2 hM2 => ?_, by omega, hMk, fun j h1 h2 => by rw [hM j (by omega) h2 (by omega)]; exact fr j h1 h2⟩
   simp only [tmD, tmsD, sl1, List.map_nil]
   refine .cons (pur_I _).pub (.cons (pur_I _).pub (.cons (pur_S _).pub (.cons (pur_S _).pub (.cons (pub_nil 1) (.cons (pub_nil 1) (.cons (pub_nil 7) (.cons ?_ .nil)))))))
   refine .lst (es := [X]) (.mk (es' := [X]) (by rw [hM2 n3 (by omega) (by omega)]; exact hM3) (by simp) (by simp) (by simp)) (fun j hj => by simp [kof] at hj; omega) (.cons (hX M2 fun j h1 h2 => by rw [hM2 j h1 (by omega), hM j h2 (by omega) (by omega)]) .nil)
  refine vdraw_tree [0, 1, 0, 4, 15, 31] (.rd 0 (.rd 2 (.wr (.cons 1 (.wr (.cons 3 (.rd 4 (.wr (.cons 5 (.fin) (.nil)))) (.nil))) (.cons 3 (.wr (.cons 1 (.rd 4 (.wr (.cons 5 (.fin) (.nil)))) (.nil))) (.nil)))))) (by kernel_rfl) (by kernel_rfl) ?_
  simp -dsimp [h0, h3, h4, Tt, hi, ob, rs, xl, tX, set_ne, show n ≠ k by omega]
  repeat' (with_reducible apply And.intro)
  ·refine aCall_of (hnm _ _ (by omega) (by simp)) ?_
   rintro d m4 n4 ⟨rfl, rfl, rfl⟩
   refine ⟨fun p hp _ => ?_, ?_⟩
   ·simp only [List.mem_cons, List.not_mem_nil, or_false] at hp
    subst hp
    exact set_ne _ _ _ _ (by omega)
   simp -dsimp [h0, h3, h4, S, ob, rs, xl, tX, dX, set_ne, show n ≠ k by omega, show n ≠ n4 by omega]
   exact ⟨f, by omega, _, _, _, ⟨⟨_, nx (fun j h1 h2 h3 => by simp [set_ne, h2, h3, show j ≠ n4 by omega]) (by simp [S]) (by simp [set_ne, kn, show k ≠ n4 by omega]) (by simp [set_ne, show n4 ≠ n by omega]) (by simp) (by simp) (by simp)⟩, st, fun _ => by rw [eq hb]⟩⟩
  ·refine aCall_of (hnm _ _ (by omega) (by simp [set_ne, show k ≠ n3 by omega])) ?_
   rintro d m4 n4 ⟨rfl, rfl, rfl⟩
   refine ⟨fun p hp _ => ?_, ?_⟩
   ·simp only [List.mem_cons, List.not_mem_nil, or_false] at hp
    subst hp
    exact set_ne _ _ _ _ (by omega)
   simp -dsimp [h0, h3, h4, S, ob, rs, xl, tX, dX, set_ne, show n ≠ k by omega, show n ≠ n3 by omega]
   exact ⟨f, by omega, _, _, _, ⟨⟨_, nx (fun j h1 h2 h3 => by simp [set_ne, h2, h3, show j ≠ n3 by omega]) (by simp [S]) (by simp [set_ne, kn]) (by simp [set_ne, show n3 ≠ n by omega, show n3 ≠ k by omega]) (by simp) (by simp) (by simp)⟩, st, fun _ => by rw [eq hb]⟩⟩
 | false =>
  rw [hi] at st
  simp only [Bool.false_eq_true, if_false] at st
  simp -dsimp [h0, h3, h4, Tt, hi]
  refine aCall_of (cTPass hl (dp := dp) (p := p) (kd := 4) (by omega) [40] (by omega) (by simp)) ?_
  rintro d m3 n4 ⟨rfl, rfl, rfl⟩
  cases hi2 : isT 4 [40] l p with
  | true =>
   rw [hi2] at st
   simp only [if_true] at st
   simp -dsimp [h0, h3, h4, Tt, hi2]
   cases hsv : sevO l rec g [41] true (stepF p) with
   | none => rw [hsv] at st; cases st
   | some r =>
   obtain ⟨ts, q1⟩ := r
   rw [hsv] at st
   simp only at st
   have hcs := fun (M : Mem) (N : Nat) (hN : k < N) (hM : M k = some (pTObj l dp (stepF p))) => cTSev (n := N) hl hrec hg hsv hN hM
   simp only [S, Tt] at hcs
   have nx : ∀ {M : Mem} {N : Nat} {σ' : Nat → D} {d : D} {ts' : List Tm}, n4 ≤ N → (∀ j, j < n4 → j ≠ k → j ≠ n → M j = m2 j) → M n = some ⟨8, [[.v (.int .i64 9), .v (.int .i64 0), .v (.string (ofL [])), .v (.string (ofL [])), .v (.slice none 0 0), .v (.slice none 0 0), .v (.slice none 0 0), d]], 0⟩ → M k = some (pTObj l dp q1) → Lst M 8 (X :: ts'.map tmD) d → (∀ j, kof d = some j → n4 ≤ j ∧ j < N) → σ' 0 = .ptr k 0 0 0 → σ' 3 = .ptr n 0 0 0 → σ' 4 = .ptr (n + 1) 0 0 0 →
     BhI l dp k m n (.mk 9 0 [] [] [] [] [] (t' :: ts')) q1 [.v (.int .i64 9), .v (.int .i64 0), .v (.string (ofL [])), .v (.string (ofL [])), .v (.slice none 0 0), .v (.slice none 0 0), .v (.slice none 0 0), d] σ' M N := fun {M N σ' d ts'} hN hM hMn hMk hL hk2 e0 e3 e4 => by
    refine ⟨e0, e3, e4, hMn, by rw [hM (n + 1) (by omega) (by omega) (by omega)]; exact rs, rfl, fun M2 hM2 => ?_, by omega, hMk, fun j h1 h2 => by rw [hM j (by omega) h2 (by omega)]; exact fr j h1 h2⟩
    simp only [tmD, tmsD, tmsD_eq, sl1, List.map_nil]
    refine .cons (pur_I _).pub (.cons (pur_I _).pub (.cons (pur_S _).pub (.cons (pur_S _).pub (.cons (pub_nil 1) (.cons (pub_nil 1) (.cons (pub_nil 7) (.cons ?_ .nil)))))))
    exact .lst (hL.frame fun j hj => hM2 j (by have := hk2 j hj; omega) (hk2 j hj).2) (fun j hj => by have := hk2 j hj; omega) (.cons (hX M2 fun j h1 h2 => by rw [hM2 j h1 (by omega), hM j h2 (by omega) (by omega)]) (.pur (pur_tmm ts')))
   refine vdraw_tree [0, 1, 0, 4, 15, 31, 63] (.rd 0 (.rd 2 (.wr (.cons 1 (.wr (.cons 3 (.wr (.cons 4 (.rd 5 (.wr (.cons 6 (.fin) (.nil)))) (.nil))) (.nil))) (.cons 3 (.wr (.cons 1 (.wr (.cons 4 (.rd 5 (.wr (.cons 6 (.fin) (.nil)))) (.nil))) (.nil))) (.nil)))))) (by kernel_rfl) (by kernel_rfl) ?_
   simp -dsimp [h0, h3, h4, Tt, hi2, ob, rs, xl, tX, set_ne, show n ≠ k by omega]
   repeat' (with_reducible apply And.intro)
   ·refine aCall_of (hcs _ _ (by omega) (by simp [set_ne, show k ≠ n4 by omega])) ?_
    rintro d m5 n5 ⟨⟨ts', rfl, hts, htl⟩, rfl, rfl⟩
    refine ⟨fun p hp _ => ?_, ?_⟩
    ·simp only [List.mem_cons, List.not_mem_nil, or_false] at hp
     subst hp
     exact set_ne _ _ _ _ (by omega)
    have e4 : ((m2.set k (pTObj l dp (stepF p))).set n4 { z := 8, es := [X], g := 0 }).set k (pTObj l dp q1) n4 = some ⟨8, [X], 0⟩ := by simp [set_ne, show n4 ≠ k by omega]
    simp -dsimp [h0, h3, h4, ob, xl, tX, dX, set_ne, show n4 ≠ k by omega, show n ≠ k by omega, show n ≠ n4 by omega]
    refine ⟨by omega, f, by omega, _, _, _, ⟨⟨_, nx (N := n4 + 1) (d := .own n4 1 0 (1 + ts'.length) 8) (ts' := ts') (by omega) (fun j h1 h2 h3 => by simp [set_ne, h2, h3, show j ≠ n4 by omega]) (by simp) (by simp [set_ne, kn, show k ≠ n4 by omega]) ?_ (fun j hj => by simp [kof] at hj; omega) (by simp) (by simp) (by simp)⟩, st, fun hq => by rw [eq hb, hts hq]⟩⟩
    exact .mk (es' := X :: ts'.map tmD) (by simp [set_ne, show n4 ≠ n by omega]) (by simp; omega) (by simp; omega) (List.take_of_length_le (by simp; omega))
   ·refine aCall_of (hcs _ _ (by omega) (by simp)) ?_
    rintro d m5 n5 ⟨⟨ts', rfl, hts, htl⟩, rfl, rfl⟩
    refine ⟨fun p hp _ => ?_, ?_⟩
    ·simp only [List.mem_cons, List.not_mem_nil, or_false] at hp
     subst hp
     exact set_ne _ _ _ _ (by omega)
    simp -dsimp [h0, h3, h4, ob, xl, tX, dX, set_ne, show n5 ≠ k by omega, show n ≠ k by omega, show n ≠ n5 by omega]
    refine ⟨by omega, f, by omega, _, _, _, ⟨⟨_, nx (N := n5 + 1) (d := .own n5 1 0 (1 + ts'.length) 8) (ts' := ts') (by omega) (fun j h1 h2 h3 => by simp [set_ne, h2, h3, show j ≠ n5 by omega]) (by simp) (by simp [set_ne, kn, show k ≠ n5 by omega]) ?_ (fun j hj => by simp [kof] at hj; omega) (by simp) (by simp) (by simp)⟩, st, fun hq => by rw [eq hb, hts hq]⟩⟩
    exact .mk (es' := X :: ts'.map tmD) (by simp [set_ne, show n5 ≠ n by omega]) (by simp; omega) (by simp; omega) (List.take_of_length_le (by simp; omega))
  | false =>
   rw [hi2] at st
   simp only [Bool.false_eq_true, if_false, Option.some.injEq, Prod.mk.injEq] at st
   simp -dsimp [h0, h3, h4, Tt, hi2, ob, rs, xl, tX, zT, set_ne, show n ≠ k by omega, show n + 1 ≠ k by omega]
   exact fin st.2.symm st.1.symm (fun j h1 h2 h3 => by simp [set_ne, h2, h3]) (by simp [set_ne, show k ≠ n + 1 by omega]) (by omega)
end Go.Proofs.Mv.App
open Go Go.Proofs Go.Proofs.Mv.V
set_option maxRecDepth 10000
namespace Go.Proofs.Mv.App
theorem pk_kind {l : List Tok} {p : PS} {kd a : Int} {tx : List UInt8} (hp : Pk l p kd a tx) : kindC l p = kd := by
 unfold kindC
 rcases hp.cu with ⟨h, e⟩ | h
 ·rw [h]; simp_all
 ·rw [h]
theorem must0 {kd : Int} {s : List UInt8} {l : List Tok} {p : PS} (h : (mustT kd s l p).bad = 0) : p.bad = 0 := by
 unfold mustT at h
 by_cases e : p.bad = 0
 ·exact e
 ·split at h
  ·exact h
  ·simp [failS, e] at h
set_option maxHeartbeats 8000000 in
theorem cTPri {l : List Tok} (hl : TkOk l) {dp : Nat} {dg : List UInt8 → Int} {rec : PS → Option (Tm × PS)} (hrec : RecC l dp rec) (hbad : ∀ p t q, rec p = some (t, q) → q.bad = 0 → p.bad = 0) {F : Nat} (hF : F ≤ 100000) {p0 : PS} (hD : kindC l p0 = 3 → Pc Tryz.prog 140 [S (curT l p0)] (I (dg (curT l p0)))) (hb0 : p0.bad = 0) (ha0 : p0.at_ < l.length) {t : Tm} {q : PS} (hrun : priO l dg rec F p0 = some (t, q)) {k : Nat} {m : Mem} {n : Nat} (hk : k < n) (hm : m k = some (pTObj l dp p0)) :
  ACalls Tryz.prog 108 [.ptr k 0 0 0] m n (fun d m' n' => (∃ t', d = .agg (tmD t') ∧ (q.bad = 0 → t' = t)) ∧ m' = m.set k (pTObj l dp q) ∧ n' = n) := by
 obtain ⟨kd, a, tx, hp⟩ := pk_of hl p0
 have hkd := pk_kind hp
 have htx := hp.tex
 unfold priO at hrun
 simp only [hkd, htx] at hrun hD
 refine acalls_put (X := fun d => ∃ t', d = .agg (tmD t') ∧ (q.bad = 0 → t' = t)) (R' := Hq (fun d m' n' => (∃ t' : Tm, PubAs n m' d (.agg (tmD t')) ∧ (q.bad = 0 → t' = t)) ∧ m' k = some (pTObj l dp q) ∧ ∀ j, j < n → j ≠ k → m' j = m j) tg) k hk _ ?_ ?_
 rotate_left
 ·rintro d m' n' ⟨⟨t', h1, h3⟩, h4, h5⟩
  exact ⟨.agg (tmD t'), _, h1, h4, .pur (pur_pT _ _ _), h5, t', rfl, h3⟩
 have kn : k ≠ n := by omega
 have kn1 : k ≠ n + 1 := by omega
 have kn2 : k ≠ n + 1 + 1 := by omega
 have nk2 : n + 1 + 1 ≠ k := by omega
 have d1 : n ≠ n + 1 + 1 := by omega
 have d2 : n + 1 ≠ n + 1 + 1 := by omega
 have d3 : n + 1 + 1 ≠ n := by omega
 have d4 : n + 1 + 1 ≠ n + 1 := by omega
 have d5 : n ≠ n + 1 + 1 + 1 := by omega
 have d6 : n + 1 + 1 + 1 ≠ n := by omega
 have kn3 : k ≠ n + 1 + 1 + 1 := by omega
 have nk : n ≠ k := by omega
 have nk1 : n + 1 ≠ k := by omega
 have h8 := tmD_len
 have wa := wrap_at hl ha0
 have hmx : m k = some ⟨4, [[toksD l, .v (.int .i64 p0.at_), .v (.int .i64 dp), .v .nilIface]], 0⟩ := by rw [hm]; simp [pTObj, pTC, errS, hb0, I, nilE]
 have hst := pTObj_step (l := l) (dp := dp) hb0
 by_cases k3 : kd = 3
 ·subst k3
  simp only [if_true, Option.some.injEq, Prod.mk.injEq] at hrun
  obtain ⟨rfl, rfl⟩ := hrun
  have hD := hD rfl
  simp only [S, I] at hD
  refine acalls_vcC [0, 2, 3, 4, 5, 16, 17, 23, 26, 35, 39, 43, 57, 58, 62] Tryz.func108 Tryz.ntmps108 (by kernel_rfl) rfl rfl (by simp) ?_
  simp -dsimp
  refine aCall_of (cTPeek (l := l) (dp := dp) (p := p0) (by omega) (by simp [set_ne, kn, hm])) ?_
  rintro d m1 n1 ⟨rfl, rfl, rfl⟩
  rw [hp.pk]
  simp -dsimp [I, S, Tt, hmx, wa, set_ne, kn, kn1, nk, nk1, h8]
  rw [← hst]
  refine pcall hD ?_
  simp -dsimp [I, S, Tt, set_ne, kn, kn1, nk, nk1, h8]
  refine hq ⟨⟨.mk 1 (dg tx) [] [] [] [] [] [], ?_, fun _ => rfl⟩, ?_, fun j hj hjk => ?_⟩
  ·simp only [tmD, tmsD, sl1, List.map_nil]
   exact .agg (.cons (pur_I _).pub (.cons (pur_I _).pub (.cons (pur_S _).pub (.cons (pur_S _).pub (.cons (pub_nil 1) (.cons (pub_nil 1) (.cons (pub_nil 7) (.cons (pub_nil 8) .nil))))))))
  ·simp [set_ne, kn, kn1, kn2, nk, nk1, nk2, d1, d2, d3, d4, d5, d6, kn3]
  ·simp [set_ne, hjk, show j ≠ n by omega, show j ≠ n + 1 by omega, show j ≠ n + 1 + 1 by omega, show j ≠ n + 1 + 1 + 1 by omega, show ∀ x, n ≤ x → j ≠ x from fun x hx => by omega]
 by_cases k1 : kd = 1
 ·subst k1
  simp only [if_true, if_neg k3] at hrun
  refine acalls_vcC [0, 2, 3, 4, 5, 16, 17, 23, 26, 35, 39, 43, 57, 58, 62] Tryz.func108 Tryz.ntmps108 (by kernel_rfl) rfl rfl (by simp) ?_
  simp -dsimp
  refine aCall_of (cTPeek (l := l) (dp := dp) (p := p0) (by omega) (by simp [set_ne, kn, hm])) ?_
  rintro d m1 n1 ⟨rfl, rfl, rfl⟩
  rw [hp.pk]
  simp -dsimp [I, S, Tt, hmx, wa, set_ne, kn, kn1, nk, nk1, h8]
  rw [← hst]
  refine aCall_of (cTPass hl (dp := dp) (p := stepF p0) (kd := 4) (by omega) [58] (by omega) (by simp)) ?_
  rintro d m2 n2 ⟨rfl, rfl, rfl⟩
  cases hi : isT 4 [58] l (stepF p0) with
  | true =>
   rw [hi] at hrun
   simp only [if_true, Option.some.injEq, Prod.mk.injEq] at hrun
   obtain ⟨rfl, rfl⟩ := hrun
   simp -dsimp [I, S, Tt, hi, set_ne, kn, kn1, nk, nk1, h8]
   have hnm := fun (M : Mem) (N : Nat) (hN : k < N) (hM : M k = some (pTObj l dp (stepF (stepF p0)))) => cTNamed (n := N) hl (dp := dp) (p := stepF (stepF p0)) (kd := 1) (by omega) fineTn hN hM
   generalize namedT 1 nameN l (stepF (stepF p0)) = fn at hnm ⊢
   obtain ⟨nm, p1⟩ := fn
   simp only [I] at hnm
   refine vdraw_tree [0, 1, 0, 4, 15, 31] (.rd 0 (.rd 1 (.rd 2 (.wr (.cons 3 (.rd 4 (.wr (.cons 5 (.fin) (.nil)))) (.nil)))))) (by kernel_rfl) (by kernel_rfl) ?_
   simp -dsimp [I, S, Tt, hi, set_ne, kn, kn1, nk, nk1, h8]
   repeat' (with_reducible apply And.intro)
   all_goals refine aCall_of (hnm _ _ (by omega) (by simp)) ?_
   all_goals rintro d m4 n4 ⟨rfl, rfl, rfl⟩
   all_goals refine ⟨fun p hp _ => ?_, ?_⟩
   all_goals first
    | (simp only [List.mem_cons, List.not_mem_nil, or_false] at hp
       subst hp
       exact set_ne _ _ _ _ (by omega))
    | skip
   all_goals simp -dsimp [I, S, Tt, hi, set_ne, kn, kn1, nk, nk1, h8]
   all_goals
    refine hq ⟨⟨.mk 4 0 tx nm [] [] [] [], ?_, fun _ => rfl⟩, ?_, fun j hj hjk => ?_⟩
    ·simp only [tmD, tmsD, sl1, List.map_nil]
     exact .agg (.cons (pur_I _).pub (.cons (pur_I _).pub (.cons (pur_S _).pub (.cons (pur_S _).pub (.cons (pub_nil 1) (.cons (pub_nil 1) (.cons (pub_nil 7) (.cons (pub_nil 8) .nil))))))))
    ·simp [set_ne, kn, kn1, kn2, nk, nk1, nk2, d1, d2, d3, d4, d5, d6, kn3]
    ·simp [set_ne, hjk, show j ≠ n by omega, show j ≠ n + 1 by omega, show j ≠ n + 1 + 1 by omega, show j ≠ n + 1 + 1 + 1 by omega, show ∀ x, n ≤ x → j ≠ x from fun x hx => by omega]
  | false =>
   rw [hi] at hrun
   simp only [Bool.false_eq_true, if_false, Option.some.injEq, Prod.mk.injEq] at hrun
   obtain ⟨rfl, rfl⟩ := hrun
   simp -dsimp [I, S, Tt, hi, set_ne, kn, kn1, nk, nk1, h8]
   refine hq ⟨⟨.mk 3 0 [] tx [] [] [] [], ?_, fun _ => rfl⟩, ?_, fun j hj hjk => ?_⟩
   ·simp only [tmD, tmsD, sl1, List.map_nil]
    exact .agg (.cons (pur_I _).pub (.cons (pur_I _).pub (.cons (pur_S _).pub (.cons (pur_S _).pub (.cons (pub_nil 1) (.cons (pub_nil 1) (.cons (pub_nil 7) (.cons (pub_nil 8) .nil))))))))
   ·simp [set_ne, kn, kn1, kn2, nk, nk1, nk2, d1, d2, d3, d4, d5, d6, kn3]
   ·simp [set_ne, hjk, show j ≠ n by omega, show j ≠ n + 1 by omega, show j ≠ n + 1 + 1 by omega, show j ≠ n + 1 + 1 + 1 by omega, show ∀ x, n ≤ x → j ≠ x from fun x hx => by omega]
 by_cases k2 : kd = 2
 ·subst k2
  simp only [if_true, if_neg k3, if_neg k1] at hrun
  by_cases e1 : tx = wTrue
  ·subst e1
   simp only [if_true, Option.some.injEq, Prod.mk.injEq] at hrun
   obtain ⟨rfl, rfl⟩ := hrun
   refine acalls_vcC [0, 2, 3, 4, 5, 16, 17, 23, 26, 35, 39, 43, 57, 58, 62] Tryz.func108 Tryz.ntmps108 (by kernel_rfl) rfl rfl (by simp) ?_
   simp -dsimp
   refine aCall_of (cTPeek (l := l) (dp := dp) (p := p0) (by omega) (by simp [set_ne, kn, hm])) ?_
   rintro d m1 n1 ⟨rfl, rfl, rfl⟩
   rw [hp.pk]
   simp -dsimp [I, S, Tt, hmx, wa, set_ne, kn, kn1, nk, nk1, h8, wTrue]
   rw [← hst]
   refine hq ⟨⟨.mk 2 1 [] [] [] [] [] [], ?_, fun _ => rfl⟩, ?_, fun j hj hjk => ?_⟩
   ·simp only [tmD, tmsD, sl1, List.map_nil]
    exact .agg (.cons (pur_I _).pub (.cons (pur_I _).pub (.cons (pur_S _).pub (.cons (pur_S _).pub (.cons (pub_nil 1) (.cons (pub_nil 1) (.cons (pub_nil 7) (.cons (pub_nil 8) .nil))))))))
   ·simp [set_ne, kn, kn1, kn2, nk, nk1, nk2, d1, d2, d3, d4, d5, d6, kn3]
   ·simp [set_ne, hjk, show j ≠ n by omega, show j ≠ n + 1 by omega, show j ≠ n + 1 + 1 by omega, show j ≠ n + 1 + 1 + 1 by omega, show ∀ x, n ≤ x → j ≠ x from fun x hx => by omega]
  have e1' : (tx == [84, 114, 117, 101]) = false := by simpa [wTrue] using e1
  rw [if_neg e1] at hrun
  by_cases e2 : tx = wFalse
  ·subst e2
   simp only [if_true, Option.some.injEq, Prod.mk.injEq] at hrun
   obtain ⟨rfl, rfl⟩ := hrun
   refine acalls_vcC [0, 2, 3, 4, 5, 16, 17, 23, 26, 35, 39, 43, 57, 58, 62] Tryz.func108 Tryz.ntmps108 (by kernel_rfl) rfl rfl (by simp) ?_
   simp -dsimp
   refine aCall_of (cTPeek (l := l) (dp := dp) (p := p0) (by omega) (by simp [set_ne, kn, hm])) ?_
   rintro d m1 n1 ⟨rfl, rfl, rfl⟩
   rw [hp.pk]
   simp -dsimp [I, S, Tt, hmx, wa, set_ne, kn, kn1, nk, nk1, h8, wFalse]
   rw [← hst]
   refine hq ⟨⟨.mk 2 0 [] [] [] [] [] [], ?_, fun _ => rfl⟩, ?_, fun j hj hjk => ?_⟩
   ·simp only [tmD, tmsD, sl1, List.map_nil]
    exact .agg (.cons (pur_I _).pub (.cons (pur_I _).pub (.cons (pur_S _).pub (.cons (pur_S _).pub (.cons (pub_nil 1) (.cons (pub_nil 1) (.cons (pub_nil 7) (.cons (pub_nil 8) .nil))))))))
   ·simp [set_ne, kn, kn1, kn2, nk, nk1, nk2, d1, d2, d3, d4, d5, d6, kn3]
   ·simp [set_ne, hjk, show j ≠ n by omega, show j ≠ n + 1 by omega, show j ≠ n + 1 + 1 by omega, show j ≠ n + 1 + 1 + 1 by omega, show ∀ x, n ≤ x → j ≠ x from fun x hx => by omega]
  have e2' : (tx == [70, 97, 108, 115, 101]) = false := by simpa [wFalse] using e2
  rw [if_neg e2] at hrun
  cases hrp : rec (mustT 4 [40] l (stepF p0)) with
  | none => rw [hrp] at hrun; cases hrun
  | some r =>
  obtain ⟨tb, q2⟩ := r
  rw [hrp] at hrun
  simp only [Option.some.injEq, Prod.mk.injEq] at hrun
  obtain ⟨rfl, rfl⟩ := hrun
  refine acalls_vcC [0, 2, 3, 4, 5, 16, 17, 23, 26, 35, 39, 43, 57, 58, 62] Tryz.func108 Tryz.ntmps108 (by kernel_rfl) rfl rfl (by simp) ?_
  simp -dsimp
  refine aCall_of (cTPeek (l := l) (dp := dp) (p := p0) (by omega) (by simp [set_ne, kn, hm])) ?_
  rintro d m1 n1 ⟨rfl, rfl, rfl⟩
  rw [hp.pk]
  simp -dsimp [I, S, Tt, hmx, wa, set_ne, kn, kn1, nk, nk1, h8, e1', e2']
  rw [← hst]
  refine aCall_of (cTMust hl (dp := dp) (p := stepF p0) (kd := 4) (by omega) [40] (by omega) (by simp)) ?_
  rintro d m2 n2 ⟨rfl, rfl, rfl⟩
  simp -dsimp [I, S, Tt, set_ne, kn, kn1, nk, nk1, h8]
  refine aCall_of (hrec _ tb q2 hrp k _ _ (by omega) (by simp)) ?_
  rintro d m3 n3 ⟨⟨t', rfl, ht⟩, rfl, rfl⟩
  simp -dsimp [I, S, Tt, set_ne, kn, kn1, nk, nk1, h8]
  refine aCall_of (cTMust hl (dp := dp) (p := q2) (kd := 4) (by omega) [41] (by omega) (by simp [set_ne, kn2, show k ≠ n + 1 + 1 by omega])) ?_
  rintro d m4 n4 ⟨rfl, rfl, rfl⟩
  simp -dsimp [I, S, Tt, set_ne, kn, kn1, kn2, nk, nk1, nk2, d1, d2, d3, d4, d5, d6, kn3, h8]
  refine hq ⟨⟨.mk 7 0 [] tx [] [] [] [t'], ?_, fun h => by rw [ht (must0 h)]⟩, ?_, fun j hj hjk => ?_⟩
  ·simp only [tmD, tmsD, sl1, List.map_nil]
   exact .agg (.cons (pur_I _).pub (.cons (pur_I _).pub (.cons (pur_S _).pub (.cons (pur_S _).pub (.cons (pub_nil 1) (.cons (pub_nil 1) (.cons (pub_nil 7) (.cons (.lstP (es := [tmD t']) (.mk (es' := [tmD t']) (by simp [set_ne, d6]) (by simp) (by simp) (by simp)) (fun j hj => by simp [kof] at hj; omega) (fun e he d hd => by simp only [List.mem_singleton] at he; subst he; exact pur_tm t' d hd)) .nil))))))))
  ·simp [set_ne, kn, kn1, kn2, nk, nk1, nk2, d1, d2, d3, d4, d5, d6, kn3]
  ·simp [set_ne, hjk, show j ≠ n by omega, show j ≠ n + 1 by omega, show j ≠ n + 1 + 1 by omega, show j ≠ n + 1 + 1 + 1 by omega, show ∀ x, n ≤ x → j ≠ x from fun x hx => by omega]
 have b1 : (kd == 1) = false := by simpa using k1
 have b2 : (kd == 2) = false := by simpa using k2
 have b3 : (kd == 3) = false := by simpa using k3
 rw [if_neg k3, if_neg k1, if_neg k2] at hrun
 by_cases e1 : tx = [123]
 ·subst e1
  simp only [if_true] at hrun
  refine acalls_vcC [0, 2, 3, 4, 5, 16, 17, 23, 26, 35, 39, 43, 57, 58, 62] Tryz.func108 Tryz.ntmps108 (by kernel_rfl) rfl rfl (by simp) ?_
  simp -dsimp
  refine aCall_of (cTPeek (l := l) (dp := dp) (p := p0) (by omega) (by simp [set_ne, kn, hm])) ?_
  rintro d m1 n1 ⟨rfl, rfl, rfl⟩
  rw [hp.pk]
  simp -dsimp [I, S, Tt, hmx, wa, set_ne, kn, kn1, nk, nk1, h8, b1, b2, b3]
  rw [← hst]
  refine aCall_of (cTFields hl hrec hbad hF hrun (by omega) (by simp)) ?_
  rintro d m2 n2 ⟨⟨t', rfl, ht⟩, rfl, rfl⟩
  simp -dsimp [I, S, Tt, set_ne, kn, kn1, nk, nk1, h8]
  refine hq ⟨⟨t', ?_, ht⟩, ?_, fun j hj hjk => ?_⟩
  ·exact .agg (pubL_pur (pur_tm t'))
  ·simp [set_ne, kn, kn1, kn2, nk, nk1, nk2, d1, d2, d3, d4, d5, d6, kn3]
  ·simp [set_ne, hjk, show j ≠ n by omega, show j ≠ n + 1 by omega, show j ≠ n + 1 + 1 by omega, show j ≠ n + 1 + 1 + 1 by omega, show ∀ x, n ≤ x → j ≠ x from fun x hx => by omega]
 have e1' : (tx == [123]) = false := by simpa using e1
 rw [if_neg e1] at hrun
 by_cases e2 : tx = [91]
 ·subst e2
  simp only [if_true] at hrun
  cases hsv : sevO l rec F [93] false (stepF p0) with
  | none => rw [hsv] at hrun; cases hrun
  | some r =>
  obtain ⟨ts, q2⟩ := r
  rw [hsv] at hrun
  simp only [Option.map_some, Option.some.injEq, Prod.mk.injEq] at hrun
  obtain ⟨rfl, rfl⟩ := hrun
  have hcs := fun (M : Mem) (N : Nat) (hN : k < N) (hM : M k = some (pTObj l dp (stepF p0))) => cTSev (n := N) hl hrec hF hsv hN hM
  simp only [S, Tt] at hcs
  refine acalls_vcC [0, 2, 3, 4, 5, 16, 17, 23, 26, 35, 39, 43, 57, 58, 62] Tryz.func108 Tryz.ntmps108 (by kernel_rfl) rfl rfl (by simp) ?_
  simp -dsimp
  refine aCall_of (cTPeek (l := l) (dp := dp) (p := p0) (by omega) (by simp [set_ne, kn, hm])) ?_
  rintro d m1 n1 ⟨rfl, rfl, rfl⟩
  rw [hp.pk]
  simp -dsimp [I, S, Tt, hmx, wa, set_ne, kn, kn1, nk, nk1, h8, b1, b2, b3]
  rw [← hst]
  refine aCall_of (hcs _ _ (by omega) (by simp)) ?_
  rintro d m2 n2 ⟨⟨ts', rfl, hts, htl⟩, rfl, rfl⟩
  simp -dsimp [I, S, Tt, set_ne, kn, kn1, nk, nk1, h8]
  refine hq ⟨⟨.mk 10 0 [] [] [] [] [] ts', ?_, fun h => by rw [hts h]⟩, ?_, fun j hj hjk => ?_⟩
  ·simp only [tmD, tmsD, tmsD_eq, sl1, List.map_nil]
   exact .agg (.cons (pur_I _).pub (.cons (pur_I _).pub (.cons (pur_S _).pub (.cons (pur_S _).pub (.cons (pub_nil 1) (.cons (pub_nil 1) (.cons (pub_nil 7) (.cons (Pur.sl (pur_tmm _)).pub .nil))))))))
  ·simp [set_ne, kn, kn1, kn2, nk, nk1, nk2, d1, d2, d3, d4, d5, d6, kn3]
  ·simp [set_ne, hjk, show j ≠ n by omega, show j ≠ n + 1 by omega, show j ≠ n + 1 + 1 by omega, show j ≠ n + 1 + 1 + 1 by omega, show ∀ x, n ≤ x → j ≠ x from fun x hx => by omega]
 have e2' : (tx == [91]) = false := by simpa using e2
 rw [if_neg e2] at hrun
 cases hrp : rec (stepF p0) with
 | none => rw [hrp] at hrun; cases hrun
 | some r =>
 obtain ⟨tb, q2⟩ := r
 rw [hrp] at hrun
 simp only [Option.some.injEq, Prod.mk.injEq] at hrun
 obtain ⟨rfl, rfl⟩ := hrun
 refine acalls_vcC [0, 2, 3, 4, 5, 16, 17, 23, 26, 35, 39, 43, 57, 58, 62] Tryz.func108 Tryz.ntmps108 (by kernel_rfl) rfl rfl (by simp) ?_
 simp -dsimp
 refine aCall_of (cTPeek (l := l) (dp := dp) (p := p0) (by omega) (by simp [set_ne, kn, hm])) ?_
 rintro d m1 n1 ⟨rfl, rfl, rfl⟩
 rw [hp.pk]
 simp -dsimp [I, S, Tt, hmx, wa, set_ne, kn, kn1, nk, nk1, h8, b1, b2, b3, e1', e2']
 rw [← hst]
 refine aCall_of (hrec _ tb q2 hrp k _ _ (by omega) (by simp)) ?_
 rintro d m3 n3 ⟨⟨t', rfl, ht⟩, rfl, rfl⟩
 simp -dsimp [I, S, Tt, set_ne, kn, kn1, nk, nk1, h8]
 refine aCall_of (cTMust hl (dp := dp) (p := q2) (kd := 4) (by omega) [41] (by omega) (by simp [set_ne, kn2, show k ≠ n + 1 + 1 by omega])) ?_
 rintro d m4 n4 ⟨rfl, rfl, rfl⟩
 simp -dsimp [I, S, Tt, set_ne, kn, kn1, kn2, nk, nk1, nk2, d1, d2, d3, d4, d5, d6, kn3, h8]
 refine hq ⟨⟨t', ?_, fun h => ht (must0 h)⟩, ?_, fun j hj hjk => ?_⟩
 ·exact .agg (pubL_pur (pur_tm t'))
 ·simp [set_ne, kn, kn1, kn2, nk, nk1, nk2, d1, d2, d3, d4, d5, d6, kn3]
 ·simp [set_ne, hjk, show j ≠ n by omega, show j ≠ n + 1 by omega, show j ≠ n + 1 + 1 by omega, show j ≠ n + 1 + 1 + 1 by omega, show ∀ x, n ≤ x → j ≠ x from fun x hx => by omega]
end Go.Proofs.Mv.App
open Go Go.Proofs Go.Proofs.Mv.V
set_option maxRecDepth 10000
namespace Go.Proofs.Mv.App
theorem cTDef {l : List Tok} {dp : Nat} (hdp : dp ≤ 2000) {p : PS} {k b : Nat} {m : Mem} {n : Nat} (hk : k < n) (hb : b < n) (hbk : b ≠ k) (hmb : m b = some ⟨1, [[.ptr k 0 0 0]], 0⟩) (hm : m k = some (pTObj l (dp + 1) p)) :
  DCalls Tryz.prog 103 [.ptr b 0 0 0] m n (fun m' n' => m' = m.set k (pTObj l dp p) ∧ n' = n) := by
 have hmx : m k = some ⟨4, [[toksD l, I p.at_, .v (.int .i64 ((dp + 1 : Nat) : Int)), errS p]], 0⟩ := hm
 refine dcalls_of (ts := []) Tryz.func103 (by kernel_rfl) rfl rfl (by simp) (by kernel_rfl) ?_
 rw [Tryz.ntmps103]
 refine vc_sound (G := [0]) _ _ tg _ _ _ ?_
 simp -dsimp [hmb, hmx, set_ne, hbk, hbk.symm]
 rw [wrap_i64 (by omega) (by omega)]
 rfl
theorem retD_ret {P : Program} (l : List ResultVar) (gf : FuncId) (cs : List D) (R : D → Mem → Nat → Prop) (σ : Nat → D) (m : Mem) (n : Nat) : RetD P l gf cs R .ret σ m n = DCalls P gf cs m n fun m' n' => rets P l (fun ds => R (oneOr ds) m' n') tg σ m' n' := rfl
end Go.Proofs.Mv.App
open Go Go.Proofs Go.Proofs.Mv.V
set_option maxRecDepth 10000
namespace Go.Proofs.Mv.App
def atRes [GI] (t : Tm) (q : PS) (b : Bool) : D := if q.bad = 0 then (if b then .tup [.agg (tmD t), I q.at_, nilE] else .tup [.agg (tmD Tm0), I 0, spotE 0 3]) else .tup [.agg (tmD Tm0), I 0, spotE q.cnt q.bad]
theorem pub_tm0 {n : Nat} {m : Mem} : PubAs n m (.agg [.v (.int .i64 0), .v (.int .i64 0), .v (.string (ofL [])), .v (.string (ofL [])), .v (.slice none 0 0), .v (.slice none 0 0), .v (.slice none 0 0), .v (.slice none 0 0)]) (.agg (tmD Tm0)) := by
 rw [tmD_zero]
 exact .agg (.cons (pur_I _).pub (.cons (pur_I _).pub (.cons (pur_S _).pub (.cons (pur_S _).pub (.cons (pub_nil 1) (.cons (pub_nil 1) (.cons (pub_nil 7) (.cons (pub_nil 8) .nil))))))))
end Go.Proofs.Mv.App
namespace Go.Proofs
open Go.Shelf
def Tryz.laysSort_ren : Go.Shelf.Ren := ⟨fun | 6 => 238 | 15 => 180 | 14 => 251 | 28 => 221 | 29 => 196 | 20 => 253 | 21 => 254 | 22 => 255 | 23 => 256 | 24 => 257 | 25 => 258 | 26 => 259 | 27 => 260 | 46 => 261 | 47 => 242 | 48 => 243 | 49 => 262 | 50 => 263 | 57 => 264 | n => n, fun | 22 => 235 | 24 => 237 | 25 => 241 | 3 => 3 | 39 => 200 | 0 => 0 | 53 => 209 | 55 => 184 | 4 => 4 | 46 => 220 | 45 => 219 | 50 => 224 | 5 => 5 | 9 => 9 | 66 => 243 | 70 => 247 | 76 => 257 | 77 => 80 | n => n, fun | n => n⟩
theorem Tryz.laysSort : Go.Proofs.SlLaysF0.n6 Tryz.prog Tryz.laysSort_ren := {
 mixed := by kernel_rfl
 f6 := ⟨Tryz.f238.name, by decide, Tryz.func238.trans (congrArg some (by kernel_rfl))⟩
 f14 := ⟨Tryz.f251.name, by decide, Tryz.func251.trans (congrArg some (by kernel_rfl))⟩
 f15 := Tryz.func180.trans (congrArg some (by kernel_rfl))
 f20 := ⟨Tryz.f253.name, by decide, Tryz.func253.trans (congrArg some (by kernel_rfl))⟩
 f21 := ⟨Tryz.f254.name, by decide, Tryz.func254.trans (congrArg some (by kernel_rfl))⟩
 f22 := ⟨Tryz.f255.name, by decide, Tryz.func255.trans (congrArg some (by kernel_rfl))⟩
 f23 := ⟨Tryz.f256.name, by decide, Tryz.func256.trans (congrArg some (by kernel_rfl))⟩
 f24 := ⟨Tryz.f257.name, by decide, Tryz.func257.trans (congrArg some (by kernel_rfl))⟩
 f25 := ⟨Tryz.f258.name, by decide, Tryz.func258.trans (congrArg some (by kernel_rfl))⟩
 f26 := ⟨Tryz.f259.name, by decide, Tryz.func259.trans (congrArg some (by kernel_rfl))⟩
 f27 := ⟨Tryz.f260.name, by decide, Tryz.func260.trans (congrArg some (by kernel_rfl))⟩
 f28 := Tryz.func221.trans (congrArg some (by kernel_rfl))
 f29 := Tryz.func196.trans (congrArg some (by kernel_rfl))
 f46 := ⟨Tryz.f261.name, by decide, Tryz.func261.trans (congrArg some (by kernel_rfl))⟩
 f47 := Tryz.func242.trans (congrArg some (by kernel_rfl))
 f48 := Tryz.func243.trans (congrArg some (by kernel_rfl))
 f49 := ⟨Tryz.f262.name, by decide, Tryz.func262.trans (congrArg some (by kernel_rfl))⟩
 f50 := ⟨Tryz.f263.name, by decide, Tryz.func263.trans (congrArg some (by kernel_rfl))⟩
 f57 := ⟨Tryz.f264.name, by decide, Tryz.func264.trans (congrArg some (by kernel_rfl))⟩
 t0 := Tryz.underlying0
 a0 := Tryz.isAgg0
 z0 := Tryz.sizeOf0
 v0 := Tryz.zeroValue0
 t3 := Tryz.underlying3
 a3 := Tryz.isAgg3
 z3 := Tryz.sizeOf3
 v3 := Tryz.zeroValue3
 t4 := Tryz.underlying4
 a4 := Tryz.isAgg4
 z4 := Tryz.sizeOf4
 v4 := Tryz.zeroValue4
 t5 := Tryz.underlying5
 a5 := Tryz.isAgg5
 z5 := Tryz.sizeOf5
 v5 := Tryz.zeroValue5
 t9 := Tryz.underlying9
 a9 := Tryz.isAgg9
 z9 := Tryz.sizeOf9
 v9 := Tryz.zeroValue9
 t22 := Tryz.underlying235
 a22 := Tryz.isAgg235
 z22 := Tryz.sizeOf235
 v22 := Tryz.zeroValue235
 t25 := Tryz.underlying241
 a25 := Tryz.isAgg241
 z25 := Tryz.sizeOf241
 v25 := Tryz.zeroValue241
 t39 := Tryz.underlying200
 a39 := Tryz.isAgg200
 z39 := Tryz.sizeOf200
 v39 := Tryz.zeroValue200
 t45 := Tryz.underlying219
 a45 := Tryz.isAgg219
 z45 := Tryz.sizeOf219
 v45 := Tryz.zeroValue219
 t46 := Tryz.underlying220
 a46 := Tryz.isAgg220
 z46 := Tryz.sizeOf220
 v46 := Tryz.zeroValue220
 t50 := Tryz.underlying224
 a50 := Tryz.isAgg224
 z50 := Tryz.sizeOf224
 v50 := Tryz.zeroValue224
 t53 := Tryz.underlying209
 a53 := Tryz.isAgg209
 z53 := Tryz.sizeOf209
 v53 := Tryz.zeroValue209
 t55 := Tryz.underlying184
 a55 := Tryz.isAgg184
 z55 := Tryz.sizeOf184
 v55 := Tryz.zeroValue184
 t66 := Tryz.underlying243
 a66 := Tryz.isAgg243
 z66 := Tryz.sizeOf243
 v66 := Tryz.zeroValue243
 t70 := Tryz.underlying247
 a70 := Tryz.isAgg247
 z70 := Tryz.sizeOf247
 v70 := Tryz.zeroValue247
 t76 := Tryz.underlying257
 a76 := Tryz.isAgg257
 z76 := Tryz.sizeOf257
 v76 := Tryz.zeroValue257
 t77 := Tryz.underlying80
 a77 := Tryz.isAgg80
 z77 := Tryz.sizeOf80
 v77 := Tryz.zeroValue80 }
end Go.Proofs
open Go Go.Proofs Go.Proofs.Mv.V Go.RowKit Go.Sort
set_option maxRecDepth 10000
namespace Go.Proofs.Mv.App
theorem cSort [GI] {ps : List Nm} {dl : D} {m : Mem} {n : Nat} (hL : Lst m 8 (ps.map partD) dl) (hlen : ps.length ≤ 1000) (hk : ∀ j, kof dl = some j → j < n) :
  ACalls Tryz.prog 238 [dl, .func (.func 239) [] []] m n (Hq (fun d m' n' => ∃ qs : List Nm, qs.Perm ps ∧ SortedN qs ∧ Lst m' 8 (qs.map partD) dl ∧ (∀ j, kof dl ≠ some j → m' j = m j) ∧ n' = n) tg) := by
 have hcl : Callable Tryz.prog 238 := ⟨_, Tryz.func238, by kernel_rfl, by kernel_rfl⟩
 rcases hL with ⟨he, hd⟩ | ⟨kk, gg, es', rfl, hmk, hle, htk⟩
 ·have hps : ps = [] := by simpa using he
  subst hps
  refine acalls_lib hcl fun w ν F vals hst hv => ?_
  obtain ⟨x, y, rfl, h1, h2⟩ := conVs_arr2 hv
  have hx : ∃ a, x = .slice a 0 0 := by
   rcases hd with rfl | rfl
   ·simp only [Con] at h1; exact ⟨_, h1⟩
   ·simpa only [Con] using h1
  obtain ⟨a, rfl⟩ := hx
  refine Calls.mono (show Calls Tryz.prog 238 _ _ _ from AnyF.slices_SortFunc_none Tryz.laysSort a 0 y w) ?_
  rintro e w' ⟨rfl, rfl⟩
  exact ⟨_, rfl, Below.refl _ _, .any, trivial, [], .refl _, by simp [SortedN], .inl ⟨rfl, hd⟩, fun _ _ => rfl, rfl⟩
 ·have hll : (ps.map fun x => (x.1, tyD x.2)).length = ps.length := by simp
  have hpl : (ps.map partD).length = ps.length := by simp
  rw [hpl] at hle htk ⊢
  have := acalls_sort (P := Tryz.prog) (ρ := Tryz.laysSort_ren) Tryz.laysSort hcl 7 Tryz.isAgg237 Tryz.sizeOf237 239 (enters_of Tryz.func239 (by kernel_rfl) rfl) wLess (ps.map fun x => (x.1, tyD x.2)) (k := kk) (gg := gg) (es' := es') (m := m) (n := n) hmk (by rw [hll]; exact hle) (by rw [hll, htk, el_part]) (by rw [hll]; omega) (hk kk rfl)
  rw [hll] at this
  refine ACalls.mono (show ACalls Tryz.prog 238 _ _ _ _ from this) ?_
  rintro d m' n' ⟨qs', h1, h2, rfl, rfl⟩
  obtain ⟨qs, g1, g2⟩ := perm_map_ex (fun x : Nm => (x.1, tyD x.2)) h1 ps rfl
  subst g2
  refine ⟨qs, g1, ?_, ?_, fun j hj => set_ne _ _ _ _ fun e => hj (by rw [e]; rfl), rfl⟩
  ·rw [List.pairwise_map] at h2
   exact h2
  ·rw [el_part]
   have hq : (qs.map partD).length = ps.length := by rw [List.length_map]; exact g1.length_eq
   exact Lst.mk (set_same _ _ _) hq.symm (by simp [g1.length_eq]) (by rw [List.take_append_of_le_length (by simp [g1.length_eq]), List.take_of_length_le (by simp [g1.length_eq])])
end Go.Proofs.Mv.App
