/- A part of the proofs of the seat YtbgkkoloflcnbaaGreatDoor: the abstract machine, the contracts of the functions, the laws. No condition of its own. -/
import Derived.Test.YtbgkkoloflcnbaaGreatDoorRef
set_option linter.unusedSimpArgs false
set_option linter.unusedVariables false
set_option linter.unusedSectionVars false
open Go Go.Proofs Go.Proofs.Mv.V
set_option maxRecDepth 10000
namespace Go.Proofs.Mv.App
theorem cIsLaw (a : Int) (c : Int) (m : Mem) (n : Nat) : ACalls Tryz.prog 26 [spotE a c, I a, I c] m n (fun d m' n' => d = Tt true ∧ m' = m ∧ n' = n) := a_is none a c m n
theorem cTold (a : Int) (c : Int) (ha : 0 ≤ a) (m : Mem) (n : Nat) : ACalls Tryz.prog 18 [spotE a c, I c, I a] m n (fun d m' n' => d = Tt true ∧ m' = m ∧ n' = n) := by
  refine acalls_vc [0, 1, 2, 6, 8] Tryz.func18 Tryz.ntmps18 (by kernel_rfl) rfl rfl (by simp) ?_
  have h : ¬ a < 0 := by omega
  simp -dsimp [I, h]
  refine aCall_of (cIsLaw a c _ _) ?_
  rintro d m' n' ⟨rfl, rfl, rfl⟩
  simp -dsimp [Tt]
def tx1 : List UInt8 := [123, 98, 58, 32, 73, 110, 116, 44, 32, 97, 58, 32, 84, 101, 120, 116, 125]
def tx2 : List UInt8 := [123, 97, 58, 32, 73, 110, 116, 44, 32, 97, 58, 32, 84, 101, 120, 116, 125]
def ty1 : Ty := .mk 5 [] 0 [] [] [[97], [98]] [.mk 2 [] 0 [] [] [] [], .mk 1 [] 0 [] [] [] []]
theorem p1 : parseF tx1 = (ty1, .none) := by rfl
theorem p2 : parseF tx2 = (Ty0, .spot 5 5) := by rfl
set_option maxHeartbeats 1000000 in
theorem cUpE (m : Mem) (n : Nat) : ACalls Tryz.prog 20 [] m n (fun d m' n' => d = Tt true ∧ m' = m ∧ n' = n) := by
  refine acalls_done (R' := Hq (fun d m' n' => d = Tt true ∧ ∀ j, j < n → m' j = m j) tg) ?_ ?_
  · have nn1 : n ≠ n + 1 := by omega
    have n1n : n + 1 ≠ n := by omega
    refine acalls_vc [0, 1, 2, 4] Tryz.func20 Tryz.ntmps20 (by kernel_rfl) rfl rfl (by simp) ?_
    simp -dsimp
    refine aCall_of (cParse tx1 _ _) ?_
    rintro d m' n' ⟨rfl, rfl, rfl⟩
    rw [p1]
    simp -dsimp
    refine aCall_of (cParse tx2 _ _) ?_
    rintro d m2 n2 ⟨rfl, rfl, rfl⟩
    rw [p2]
    simp -dsimp [errP, nilE, ty1, tyD, tysD, sl1, I, S, set_ne, nn1, n1n]
    refine aCall_of (cIsLaw 5 5 _ _) ?_
    rintro d m3 n3 ⟨rfl, rfl, rfl⟩
    simp -dsimp [Tt]
    refine hq ⟨rfl, fun j hj => ?_⟩
    have j1 : j ≠ n' := by omega
    have j2 : j ≠ n' + 1 := by omega
    simp [set_ne, j1, j2]
  · rintro d m' n' ⟨rfl, h⟩
    exact ⟨_, (pur_T _).pub, h, rfl⟩
theorem le_ty0 {d : D} : LeL [d, .agg [I 0, S [], I 0, S [], S [], .v (.slice none 0 0), .v (.slice none 0 0)]] [d, .agg (tyD Ty0)] := by
  rw [tyD_zero]
  exact .cons (Le.refl _) (.cons (Le_agg (.cons (Le.refl _) (.cons (Le.refl _) (.cons (Le.refl _) (.cons (Le.refl _) (.cons (Le.refl _) (.cons (Le_nil 1) (.cons (Le_nil 7) .nil)))))))) .nil)
theorem parse_spot {s : List UInt8} {a : Int} {c : Nat} (h : (parseF s).2 = .spot a c) : 0 ≤ a ∧ c ≠ 0 ∧ (parseF s).1 = Ty0 := by
  by_cases h1 : 20000 < s.length
  · rw [parseF, if_pos h1] at h; cases h
  rw [parseF_small h1] at h ⊢
  generalize toksAt s 0 = T at h ⊢
  obtain ⟨l, o⟩ := T
  cases o with
  | some b =>
    simp only [PErr.spot.injEq] at h ⊢
    refine ⟨by omega, by omega, ?_⟩
    first | trivial | rfl
  | none =>
    have hy2 := fun a c => atF_bad (l := l) (i := 0) (a := a) (c := c)
    have hpos : ∀ a c, (atF l 0).2.2 = some (a, c) → 0 ≤ a := by
      intro a c hy
      unfold atF at hy
      split at hy
      · rename_i hh; omega
      · split at hy
        · simp only [Option.some.injEq, Prod.mk.injEq] at hy; omega
        · cases hy
    generalize atF l 0 = A at h hy2 hpos ⊢
    obtain ⟨t, nx, e⟩ := A
    cases e with
    | some e =>
      obtain ⟨b, e⟩ := e
      simp only [PErr.spot.injEq] at h ⊢
      obtain ⟨g1, _, _⟩ := hy2 b e rfl
      have := hpos b e rfl
      refine ⟨by omega, by omega, ?_⟩
      first | trivial | rfl
    | none =>
      simp only at h ⊢
      by_cases hz : nx < l.length
      · rw [if_pos hz] at h ⊢
        simp only [PErr.spot.injEq] at h
        exact ⟨by omega, by omega, rfl⟩
      · rw [if_neg hz] at h; cases h
theorem parse_large {s : List UInt8} (h1 : ¬ 20000 < s.length) : (parseF s).2 ≠ .large := by
  intro h
  unfold parseF at h
  rw [if_neg h1] at h
  split at h
  · cases h
  · split at h
    · cases h
    · split at h <;> cases h
set_option maxHeartbeats 1000000 in
theorem cExprParses (s : List UInt8) (m : Mem) (n : Nat) : ACalls Tryz.prog 4 [S s] m n (fun d m' n' => d = Tt true ∧ m' = m ∧ n' = n) := by
  refine acalls_done (R' := Hq (fun d m' n' => d = Tt true ∧ ∀ j, j < n → m' j = m j) tg) ?_ ?_
  · have nn1 : n ≠ n + 1 := by omega
    have n1n : n + 1 ≠ n := by omega
    have hsm := parseF_sm s
    refine acalls_vc [0, 2, 3, 4, 5, 6, 7, 8, 17, 36] Tryz.func4 Tryz.ntmps4 (by kernel_rfl) rfl rfl (by simp) ?_
    simp -dsimp
    refine aCall_of (cUpE _ _) ?_
    rintro d m' n' ⟨rfl, rfl, rfl⟩
    simp -dsimp
    refine aCall_of (cParse s _ _) ?_
    rintro d m' n' ⟨rfl, rfl, rfl⟩
    by_cases h1 : 20000 < s.length
    · have hp : parseF s = (Ty0, .large) := by rw [parseF, if_pos h1]
      rw [hp]
      have h1' : (20000 : Int) < s.length := by omega
      simp -dsimp [S, h1, h1', errP, code, I, Tt, set_ne, nn1, n1n]
      refine aCall_le le_ty0 ?_
      refine aCall_of (cSame Ty0_sm _ _) ?_
      rintro d m3 n3 ⟨rfl, rfl, rfl⟩
      simp -dsimp [Tt]
      refine hq ⟨rfl, fun j hj => ?_⟩
      have j1 : j ≠ n' := by omega
      simp [set_ne, j1]
    have h1' : ¬ (20000 : Int) < s.length := by omega
    simp -dsimp [S, h1, h1']
    refine aCall_of (cRefParse s h1 _ _) ?_
    rintro d m2 n2 ⟨rfl, rfl, rfl⟩
    have hsp := fun a c => parse_spot (s := s) (a := a) (c := c)
    have hlg := parse_large h1
    generalize parseF s = P at hsm hsp hlg ⊢
    obtain ⟨t, e⟩ := P
    cases e with
    | large => exact absurd rfl hlg
    | none =>
      simp -dsimp [badP, placeP, errP, nilE, I, Tt, set_ne, nn1, n1n]
      refine aCall_of (cSame hsm _ _) ?_
      rintro d m3 n3 ⟨rfl, rfl, rfl⟩
      simp -dsimp [Tt]
      refine hq ⟨rfl, fun j hj => ?_⟩
      have j1 : j ≠ n' := by omega
      have j2 : j ≠ n' + 1 := by omega
      simp [set_ne, j1, j2]
    | spot a c =>
      obtain ⟨ha, hc, ht⟩ := hsp a c rfl
      simp only at ht
      subst ht
      have hc' : ((c : Int) != 0) = true := by simp; omega
      simp -dsimp [badP, placeP, errP, I, Tt, set_ne, nn1, n1n, hc, hc']
      refine aCall_of (cTold a c ha _ _) ?_
      rintro d m3 n3 ⟨rfl, rfl, rfl⟩
      simp -dsimp [Tt, set_ne, nn1, n1n, I]
      refine aCall_le le_ty0 ?_
      refine aCall_of (cSame Ty0_sm _ _) ?_
      rintro d m4 n4 ⟨rfl, rfl, rfl⟩
      simp -dsimp [Tt]
      refine hq ⟨rfl, fun j hj => ?_⟩
      have j1 : j ≠ n' := by omega
      have j2 : j ≠ n' + 1 := by omega
      simp [set_ne, j1, j2]
  · rintro d m' n' ⟨rfl, h⟩
    exact ⟨_, (pur_T _).pub, h, rfl⟩
structure AtInv (l : List Tok) (i : Int) (m : Mem) (n : Nat) (q : Nat) (σ : Nat → D) (m2 : Mem) (n2 : Nat) : Prop where
  h0 : σ 0 = toksD l
  h1 : σ 1 = I i
  h5 : σ 5 = Tt true
  h6 : σ 6 = I q
  le : q ≤ l.length
  al : ∀ t ∈ l.take q, t.text.length ≤ 1000
  mm : m2 = m
  nn : n2 = n
set_option maxHeartbeats 1000000 in
theorem cExprAt (l : List Tok) (i : Int) (m : Mem) (n : Nat) : ACalls Tryz.prog 5 [toksD l, I i] m n (fun d m' n' => d = Tt true ∧ m' = m ∧ n' = n) := by
  refine acalls_done (R' := Hq (fun d m' n' => d = Tt true ∧ ∀ j, j < n → m' j = m j) tg) ?_ ?_
  · have nn1 : n ≠ n + 1 := by omega
    have n1n : n + 1 ≠ n := by omega
    have hT : toksD l = .sl 3 (l.map tokD) := rfl
    have hll : (l.map tokD).length = l.length := by simp
    have hG : ∀ q (h : q < l.length), (l.map tokD)[q]? = some (tokD l[q]) := fun q h => by simp [h]
    refine acalls_vc [0, 1, 4, 5, 6, 7, 8, 9, 10, 11, 12, 13, 17, 22, 31, 49] Tryz.func5 Tryz.ntmps5 (by kernel_rfl) rfl rfl (by simp) ?_
    simp -dsimp
    refine aCall_of (cUpE _ _) ?_
    rintro d m' n' ⟨rfl, rfl, rfl⟩
    generalize hL : l.map tokD = L at hT hll hG
    by_cases h1 : 5000 < (l.length : Int)
    · have h1' : 5000 < l.length := by omega
      simp -dsimp [hT, hll, h1, h1', Tt]
      exact hq ⟨rfl, fun _ _ => rfl⟩
    have h1' : ¬ 5000 < l.length := by omega
    have hlen : l.length ≤ 1000000000 := by omega
    simp -dsimp [hT, hll, h1, h1', Tt, -vc_block]
    rw [vc_block]
    simp -dsimp [-vc_block]
    refine vloop_of (β := Nat) (AtInv l i m' n') (fun q => l.length - q) 0 ⟨by simp [hT], by simp, by simp [Tt], by simp [I], by omega, by simp, rfl, rfl⟩ ?_
    rintro q σ m2 n2 ⟨h0, h1s, h5, h6, le, al, rfl, rfl⟩
    rw [hT] at h0
    by_cases hq2 : (q : Int) < l.length
    · have hq' : q < l.length := by omega
      have wi : IntKind.i64.wrap ((q : Int) + 1) = (q : Int) + 1 := wrap_i64 (by omega) (by omega)
      have hqL : q < L.length := by omega
      have hgi : L[q] = [I l[q].kind, I l[q].at_, S l[q].text] := get_opt (hG q hq') hqL
      by_cases h3 : 1000 < (l[q].text.length : Int)
      · have h3' : 1000 < l[q].text.length := by omega
        simp -dsimp [h0, h1s, h5, h6, hll, I, S, hq2, hq', hqL, hgi, h3, h3', Tt]
        exact hq ⟨rfl, fun _ _ => rfl⟩
      · have h3' : ¬ 1000 < l[q].text.length := by omega
        simp -dsimp [h0, h1s, h5, h6, hll, I, S, hq2, hq', hqL, hgi, h3, h3', Tt, wi]
        refine ⟨q + 1, by omega, by simp [hT], by simp [I], by simp [Tt], by simp [I], by omega, ?_, rfl, rfl⟩
        intro x hx
        rw [List.take_succ_eq_append_getElem hq'] at hx
        rcases List.mem_append.1 hx with hx | hx
        · exact al x hx
        · simp at hx; rw [hx]; omega
    · have hql : q = l.length := by omega
      rw [hql, List.take_length] at al
      have htk : TkOk l := ⟨by omega, fun t ht => by have := al t ht; omega⟩
      have hsm := atF_sm l i
      simp -dsimp [h0, h1s, h5, h6, hll, I, S, hq2, Tt]
      rw [← hT]
      refine aCall_of (cAt htk i _ _) ?_
      rintro d m3 n3 ⟨rfl, rfl, rfl⟩
      simp -dsimp [Tt]
      refine aCall_of (cRefAt htk i _ _) ?_
      rintro d m3 n3 ⟨rfl, rfl, rfl⟩
      have hab := fun a c => atF_bad (l := l) (i := i) (a := a) (c := c)
      generalize atF l i = A at hsm hab ⊢
      obtain ⟨t, nx, e⟩ := A
      cases e with
      | none =>
        simp -dsimp [badO, placeO, errO, nilE, I, Tt, set_ne, nn1, n1n]
        refine aCall_of (cSame hsm _ _) ?_
        rintro d m4 n4 ⟨rfl, rfl, rfl⟩
        simp -dsimp [Tt]
        refine hq ⟨rfl, fun j hj => ?_⟩
        have j1 : j ≠ n3 := by omega
        have j2 : j ≠ n3 + 1 := by omega
        simp [set_ne, j1, j2]
      | some e =>
        obtain ⟨a, c⟩ := e
        obtain ⟨hc, ht, hnx⟩ := hab a c rfl
        simp only at ht hnx
        subst ht; subst hnx
        have hc' : ((c : Int) != 0) = true := by simp; omega
        simp -dsimp [badO, placeO, errO, I, Tt, set_ne, nn1, n1n, hc, hc']
        refine aCall_of (cIsLaw a c _ _) ?_
        rintro d m4 n4 ⟨rfl, rfl, rfl⟩
        simp -dsimp [Tt, set_ne, nn1, n1n, I]
        refine aCall_le le_ty0 ?_
        refine aCall_of (cSame Ty0_sm _ _) ?_
        rintro d m5 n5 ⟨rfl, rfl, rfl⟩
        simp -dsimp [Tt]
        refine hq ⟨rfl, fun j hj => ?_⟩
        have j1 : j ≠ n3 := by omega
        have j2 : j ≠ n3 + 1 := by omega
        simp [set_ne, j1, j2]
  · rintro d m' n' ⟨rfl, h⟩
    exact ⟨_, (pur_T _).pub, h, rfl⟩
end Go.Proofs.Mv.App
