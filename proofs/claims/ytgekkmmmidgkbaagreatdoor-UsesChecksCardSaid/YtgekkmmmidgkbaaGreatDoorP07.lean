/- A part of the proofs of the seat YtgekkmmmidgkbaaGreatDoor: the abstract machine, the contracts of the functions, the laws. No condition of its own. -/
import Derived.Test.YtgekkmmmidgkbaaGreatDoorP06
import Derived.Test.YtgekkmmmidgkbaaGreatDoorP03
import Derived.Test.YtgekkmmmidgkbaaGreatDoorP01
set_option linter.unusedSimpArgs false
set_option linter.unusedVariables false
set_option linter.unusedSectionVars false
open Go Go.Proofs Go.Proofs.Mv.V
set_option maxRecDepth 10000
namespace Go.Proofs.Mv.App
/-- Of as many parameters, each the other way round; and the last. -/
def funS (f : Ty → Ty → Bool) (sa sb : List Ty) : Bool :=
  decide (sa.length = sb.length) && f (sa.getLastD Ty0) (sb.getLastD Ty0) && (sa.dropLast.zip sb.dropLast).all fun p => f p.2 p.1
/-- May one stand for the other? (So deep.) -/
def belF : Nat → Ty → Ty → Bool
  | 0, _, _ => false
  | k + 1, a, b =>
    if a.kind = b.kind then
      if a.kind = 4 then belF k (a.subs.headD Ty0) (b.subs.headD Ty0)
      else if a.kind = 5 then covF (belF k) a.names a.subs b.names b.subs
      else if a.kind = 6 then covF (fun x y => belF k y x) b.names b.subs a.names a.subs
      else if a.kind = 7 then funS (belF k) a.subs b.subs
      else sameT a b
    else false
theorem manyTs_mem : ∀ {l : List Ty} {x : Ty}, x ∈ l → manyT x ≤ manyTs l
  | t :: ts, x, h => by
    rcases List.mem_cons.1 h with rfl | h
    · simp [manyTs]
    · have := manyTs_mem h; simp [manyTs]; omega
theorem mayT_subE {t : Ty} (h : mayT t = true) : ∀ x ∈ t.subs, mayT x = true ∧ deepT x + 1 ≤ deepT t := fun x hx => by
  cases t with
  | mk kind pkg major mod name names subs =>
    have h1 := manyTs_mem hx
    have h2 := deepTs_mem hx
    simp only [Ty.subs] at hx h1 h2
    have e1 : manyT (.mk kind pkg major mod name names subs) = 1 + manyTs subs := by rw [manyT]
    have e2 : deepT (.mk kind pkg major mod name names subs) = deepTs subs + 1 := by rw [deepT]
    have e3 := allT_eq (.mk kind pkg major mod name names subs)
    simp only [mayT, Bool.and_eq_true, decide_eq_true_eq] at h ⊢
    rw [e1, e2, e3] at h
    rw [e2]
    simp only [Bool.and_eq_true, List.all_eq_true, Ty.subs] at h
    obtain ⟨⟨⟨_, q1⟩, q2⟩, q3⟩ := h
    exact ⟨⟨⟨q1 x hx, by omega⟩, by omega⟩, by omega⟩
theorem TyW.subs {t : Ty} (h : TyW t) : ∀ x ∈ t.subs, TyW x := by
  cases h with
  | mk kind pkg major mod name names subs l1 l2 l3 l4 l5 l6 l7 => exact l7
variable [GI]
theorem cBel1 {x y : Ty} {r : Bool} (h : Pc Tryz.prog 91 [.agg (tyD y), .agg (tyD x)] (Tt r)) : Pc Tryz.prog 134 [.agg (tyD x), .agg (tyD y)] (Tt r) := by
  refine pc_of (pur_T _) (fun m n => ?_)
  have nn1 : n ≠ n + 1 := by omega
  have n1n : n + 1 ≠ n := by omega
  have fr : ∀ o o' j, j < n → ((m.set n o).set (n + 1) o') j = m j := fun o o' j hj => by rw [set_ne _ _ _ _ (by omega), set_ne _ _ _ _ (by omega)]
  have z1 := tyD_len x
  have z2 := tyD_len y
  generalize tyD x = XX at h z1
  generalize tyD y = YY at h z2
  have t1 : List.take 7 XX = XX := List.take_of_length_le (by omega)
  have t2 : List.take 7 YY = YY := List.take_of_length_le (by omega)
  refine acalls_vc [0, 1, 2, 3, 4] Tryz.func134 Tryz.ntmps134 (by kernel_rfl) rfl rfl (by simp) ?_
  simp -dsimp [I, S, Tt, set_ne, nn1, n1n, z1, z2, t1, t2]
  refine pcall h ?_
  simp -dsimp [Tt]
  exact pcq rfl (fr _ _)
theorem mayT_shape {t : Ty} (h : mayT t = true) : t.subs.length ≤ 20 ∧ shapeK t = true := by
  have h1 : allT t = true := by simp only [mayT, Bool.and_eq_true] at h; exact h.1.1
  rw [allT_eq] at h1
  exact shape_parts (by simp only [Bool.and_eq_true] at h1; exact h1.1)
theorem shape4 {t : Ty} (h : shapeK t = true) (hk : t.kind = 4) : t.subs.length = 1 := by
  unfold shapeK at h; simp [hk] at h; exact h.1.2
theorem shape5 {t : Ty} (h : shapeK t = true) (hk : t.kind = 5) : t.subs.length = t.names.length ∧ risingN false t.names = true := by
  unfold shapeK at h; simp [hk] at h; exact ⟨h.1.2, h.2⟩
theorem shape6 {t : Ty} (h : shapeK t = true) (hk : t.kind = 6) : t.subs.length = t.names.length ∧ risingN true t.names = true := by
  unfold shapeK at h; simp [hk] at h; exact ⟨h.1.2, h.2⟩
theorem shape7 {t : Ty} (h : shapeK t = true) (hk : t.kind = 7) : 1 ≤ t.subs.length := by
  unfold shapeK at h; simp [hk] at h; omega
set_option maxHeartbeats 4000000 in
theorem cBelow : ∀ (k : Nat) (a b : Ty), TyW a → TyW b → mayT a = true → mayT b = true → deepT a ≤ k → deepT b ≤ k → Pc Tryz.prog 91 [.agg (tyD a), .agg (tyD b)] (Tt (belF k a b)) := by
  intro k
  induction k with
  | zero => intro a b _ _ _ _ h _; rw [deepT_eq] at h; omega
  | succ k ih =>
    intro a b wa wb ma mb da db
    have Q : ∀ x ∈ a.subs, ∀ y ∈ b.subs, Pc Tryz.prog 91 [.agg (tyD x), .agg (tyD y)] (Tt (belF k x y)) := fun x hx y hy =>
      ih x y (wa.subs x hx) (wb.subs y hy) (mayT_subE ma x hx).1 (mayT_subE mb y hy).1 (by have := (mayT_subE ma x hx).2; omega) (by have := (mayT_subE mb y hy).2; omega)
    have Q' : ∀ x ∈ a.subs, ∀ y ∈ b.subs, Pc Tryz.prog 91 [.agg (tyD y), .agg (tyD x)] (Tt (belF k y x)) := fun x hx y hy =>
      ih y x (wb.subs y hy) (wa.subs x hx) (mayT_subE mb y hy).1 (mayT_subE ma x hx).1 (by have := (mayT_subE mb y hy).2; omega) (by have := (mayT_subE ma x hx).2; omega)
    clear ih
    refine pc_of (pur_T _) (fun m n => ?_)
    have nn1 : n ≠ n + 1 := by omega
    have n1n : n + 1 ≠ n := by omega
    have fr : ∀ o o' j, j < n → ((m.set n o).set (n + 1) o') j = m j := fun o o' j hj => by rw [set_ne _ _ _ _ (by omega), set_ne _ _ _ _ (by omega)]
    obtain ⟨la, ha⟩ := mayT_shape ma
    obtain ⟨lb, hb⟩ := mayT_shape mb
    have hS := cSameK wa wb
    rw [ma, mb] at hS
    obtain ⟨k1, p1, j1, m1, n1, na, sa⟩ := a
    obtain ⟨k2, p2, j2, m2, n2, nb, sb⟩ := b
    simp only [Ty.subs] at Q Q' la lb
    by_cases c : k1 = k2
    case neg =>
      have c' : (k1 != k2) = true := by simpa using c
      have e : belF (k + 1) (.mk k1 p1 j1 m1 n1 na sa) (.mk k2 p2 j2 m2 n2 nb sb) = false := by simp [belF, Ty.kind, c]
      rw [e]
      simp only [tyD]
      refine acalls_vc [0, 1, 2, 3, 4, 5, 6, 11, 13, 14, 25, 30, 35, 60, 61, 62, 63, 76] Tryz.func91 Tryz.ntmps91 (by kernel_rfl) rfl rfl (by simp) ?_
      simp -dsimp [I, S, Tt, set_ne, nn1, n1n, c']
      exact pcq rfl (fr _ _)
    subst c
    by_cases c4 : k1 = 4
    · subst c4
      have l1 := shape4 ha rfl
      have l2 := shape4 hb rfl
      simp only [Ty.subs] at l1 l2
      obtain ⟨x, rfl⟩ := List.length_eq_one_iff.1 l1
      obtain ⟨y, rfl⟩ := List.length_eq_one_iff.1 l2
      have hq := Q x (by simp) y (by simp)
      have e : belF (k + 1) (.mk 4 p1 j1 m1 n1 na [x]) (.mk 4 p2 j2 m2 n2 nb [y]) = belF k x y := by simp [belF, Ty.kind, Ty.subs]
      rw [e]
      simp only [tyD, tysD]
      have z1 := tyD_len x
      have z2 := tyD_len y
      generalize tyD x = XX at hq z1
      generalize tyD y = YY at hq z2
      have t1 : List.take 7 XX = XX := List.take_of_length_le (by omega)
      have t2 : List.take 7 YY = YY := List.take_of_length_le (by omega)
      refine acalls_vc [0, 1, 2, 3, 4, 5, 6, 11, 13, 14, 25, 30, 35, 60, 61, 62, 63, 76] Tryz.func91 Tryz.ntmps91 (by kernel_rfl) rfl rfl (by simp) ?_
      simp -dsimp [I, S, Tt, set_ne, nn1, n1n]
      refine vdraw_tree [0, 1, 3, 7, 0, 16, 48, 112, 255, 511] (.rd 0 (.rd 1 (.rd 2 (.rd 3 (.rd 4 (.rd 5 (.rd 6 (.rd 7 (.wr (.cons 8 (.rd 9 (.fin)) (.nil))))))))))) (by kernel_rfl) (by kernel_rfl) ?_
      simp -dsimp [I, S, Tt, set_ne, nn1, n1n, z1, z2, t1, t2]
      refine pcall hq ?_
      simp -dsimp [Tt]
      exact pcq rfl (fr _ _)
    have c4' : (k1 == 4) = false := by simpa using c4
    by_cases c5 : k1 = 5
    · subst c5
      obtain ⟨l1, r1⟩ := shape5 ha rfl
      obtain ⟨l2, r2⟩ := shape5 hb rfl
      simp only [Ty.subs, Ty.names] at l1 l2 r1 r2
      have hc := cCov (k1 := 5) (p1 := p1) (j1 := j1) (m1 := m1) (n1 := n1) (k2 := 5) (p2 := p2) (j2 := j2) (m2 := m2) (n2 := n2) (by omega) (rising_lt r1) l1 (by omega) l2 Q
      have e : belF (k + 1) (.mk 5 p1 j1 m1 n1 na sa) (.mk 5 p2 j2 m2 n2 nb sb) = covF (belF k) na sa nb sb := by simp [belF, Ty.kind, Ty.subs, Ty.names]
      rw [e]
      simp only [tyD] at hc ⊢
      generalize (sl1 na) = NA at hc ⊢
      generalize (sl1 nb) = NB at hc ⊢
      generalize tysD sa = SA at hc ⊢
      generalize tysD sb = SB at hc ⊢
      refine acalls_vc [0, 1, 2, 3, 4, 5, 6, 11, 13, 14, 25, 30, 35, 60, 61, 62, 63, 76] Tryz.func91 Tryz.ntmps91 (by kernel_rfl) rfl rfl (by simp) ?_
      simp -dsimp [I, S, Tt, set_ne, nn1, n1n]
      refine pcall hc ?_
      simp -dsimp [Tt]
      exact pcq rfl (fr _ _)
    have c5' : (k1 == 5) = false := by simpa using c5
    by_cases c6 : k1 = 6
    · subst c6
      obtain ⟨l1, r1⟩ := shape6 ha rfl
      obtain ⟨l2, r2⟩ := shape6 hb rfl
      simp only [Ty.subs, Ty.names] at l1 l2 r1 r2
      have hc := cCov (f := fun x y => belF k y x) (fp := 134) (k1 := 6) (p1 := p2) (j1 := j2) (m1 := m2) (n1 := n2) (k2 := 6) (p2 := p1) (j2 := j1) (m2 := m1) (n2 := n1) (by omega) (rising_lt r2) l2 (by omega) l1 (fun x hx y hy => cBel1 (Q y hy x hx))
      have e : belF (k + 1) (.mk 6 p1 j1 m1 n1 na sa) (.mk 6 p2 j2 m2 n2 nb sb) = covF (fun x y => belF k y x) nb sb na sa := by simp [belF, Ty.kind, Ty.subs, Ty.names]
      rw [e]
      simp only [tyD] at hc ⊢
      generalize (sl1 na) = NA at hc ⊢
      generalize (sl1 nb) = NB at hc ⊢
      generalize tysD sa = SA at hc ⊢
      generalize tysD sb = SB at hc ⊢
      refine acalls_vc [0, 1, 2, 3, 4, 5, 6, 11, 13, 14, 25, 30, 35, 60, 61, 62, 63, 76] Tryz.func91 Tryz.ntmps91 (by kernel_rfl) rfl rfl (by simp) ?_
      simp -dsimp [I, S, Tt, set_ne, nn1, n1n]
      refine pcall hc ?_
      simp -dsimp [Tt]
      exact pcq rfl (fr _ _)
    have c6' : (k1 == 6) = false := by simpa using c6
    by_cases c7 : k1 = 7
    · subst c7
      have l1 := shape7 ha rfl
      have l2 := shape7 hb rfl
      simp only [Ty.subs] at l1 l2
      have e : belF (k + 1) (.mk 7 p1 j1 m1 n1 na sa) (.mk 7 p2 j2 m2 n2 nb sb) = funS (belF k) sa sb := by simp [belF, Ty.kind, Ty.subs]
      rw [e]
      have hL1 : (sa.map tyD).length = sa.length := by simp
      have hG1 : ∀ i (h : i < sa.length), (sa.map tyD)[i]? = some (tyD sa[i]) := fun i h => by simp [h]
      have hL2 : (sb.map tyD).length = sb.length := by simp
      have hG2 : ∀ i (h : i < sb.length), (sb.map tyD)[i]? = some (tyD sb[i]) := fun i h => by simp [h]
      simp only [tyD, tysD_eq]
      generalize (sl1 na) = NA
      generalize (sl1 nb) = NB
      generalize sa.map tyD = SA at hL1 hG1
      generalize sb.map tyD = SB at hL2 hG2
      have w1 : IntKind.i64.wrap ((sa.length : Int) - 1) = ((sa.length - 1 : Nat) : Int) := by rw [wrap_i64 (by omega) (by omega)]; omega
      have w2 : IntKind.i64.wrap ((sb.length : Int) - 1) = ((sb.length - 1 : Nat) : Int) := by rw [wrap_i64 (by omega) (by omega)]; omega
      refine acalls_vc [0, 1, 2, 3, 4, 5, 6, 11, 13, 14, 25, 30, 35, 60, 61, 62, 63, 76] Tryz.func91 Tryz.ntmps91 (by kernel_rfl) rfl rfl (by simp) ?_
      by_cases c : sa.length = sb.length
      case neg =>
        have c' : (((sa.length - 1 : Nat) : Int) != ((sb.length - 1 : Nat) : Int)) = true := by rw [bne_iff_ne]; omega
        have e : funS (belF k) sa sb = false := by simp [funS, c]
        rw [e]
        simp -dsimp [I, S, Tt, set_ne, nn1, n1n, hL1, w1]
        refine vdraw_tree [0, 0, 2, 6, 14, 31, 63, 127, 255, 127, 1023, 2047, 127, 4223, 127, 28799, 61567, 131071, 262143, 524287] (.rd 0 (.rd 1 (.rd 2 (.rd 3 (.rd 4 (.rd 5 (.rd 6 (.rd 7 (.rd 8 (.rd 9 (.rd 10 (.rd 11 (.rd 12 (.rd 13 (.rd 14 (.rd 15 (.rd 16 (.wr (.cons 17 (.rd 18 (.rd 19 (.fin))) (.nil)))))))))))))))))))) (by kernel_rfl) (by kernel_rfl) ?_
        simp -dsimp [I, S, Tt, set_ne, nn1, n1n, hL1, hL2, w1, w2, c']
        exact pcq rfl (fr _ _)
      have c' : (((sa.length - 1 : Nat) : Int) != ((sb.length - 1 : Nat) : Int)) = false := by rw [bne_eq_false_iff_eq]; omega
      have i1 : sa.length - 1 < SA.length := by omega
      have i2 : sb.length - 1 < SB.length := by omega
      have i1' : (((sa.length - 1 : Nat) : Int)) < sa.length := by omega
      have i2' : (((sa.length - 1 : Nat) : Int)) < sb.length := by omega
      have i3' : sa.length - 1 < sb.length := by omega
      have i4 : sa.length - 1 < SB.length := by omega
      have g1 : SA[sa.length - 1] = tyD sa[sa.length - 1] := get_opt (hG1 _ (by omega)) i1
      have g1' : SA[sa.length - 1]? = some (tyD sa[sa.length - 1]) := hG1 _ (by omega)
      have g2 : SB[sa.length - 1] = tyD sb[sa.length - 1] := get_opt (hG2 _ (by omega)) i4
      have hq := Q sa[sa.length - 1] (List.getElem_mem _) sb[sa.length - 1] (List.getElem_mem _)
      have ea : sa.getLastD Ty0 = sa[sa.length - 1] := by rw [List.getLastD_eq_getLast?, List.getLast?_eq_getElem?]; rw [List.getElem?_eq_getElem (by omega)]; rfl
      have eb : sb.getLastD Ty0 = sb[sa.length - 1] := by rw [List.getLastD_eq_getLast?, List.getLast?_eq_getElem?]; simp only [← c]; rw [List.getElem?_eq_getElem (by omega)]; rfl
      have e : funS (belF k) sa sb = (belF k sa[sa.length - 1] sb[sa.length - 1] && (sa.dropLast.zip sb.dropLast).all fun p => belF k p.2 p.1) := by rw [funS, ea, eb, decide_eq_true c, Bool.true_and]
      rw [e]
      have z1 := tyD_len sa[sa.length - 1]
      have z2 := tyD_len sb[sa.length - 1]
      generalize tyD sa[sa.length - 1] = XX at hq z1 g1 g1'
      generalize tyD sb[sa.length - 1] = YY at hq z2 g2
      generalize belF k sa[sa.length - 1] sb[sa.length - 1] = r at hq ⊢
      have t1 : List.take 7 XX = XX := List.take_of_length_le (by omega)
      have t2 : List.take 7 YY = YY := List.take_of_length_le (by omega)
      have hz : (sa.dropLast.zip sb.dropLast).length = sa.length - 1 := by simp; omega
      have hno : ∀ i (h : i < sa.length - 1) (h' : i < sb.length), belF k sb[i] sa[i] = false → ((sa.dropLast.zip sb.dropLast).all fun p => belF k p.2 p.1) = false := fun i h h' e => by
        rw [List.all_eq_false]
        refine ⟨(sa[i], sb[i]), ?_, by simpa using e⟩
        rw [show (sa[i], sb[i]) = (sa.dropLast.zip sb.dropLast)[i]'(by omega) by simp]
        exact List.getElem_mem _
      have hyes : (∀ i (h : i < sa.length - 1) (h' : i < sb.length), belF k sb[i] sa[i] = true) → ((sa.dropLast.zip sb.dropLast).all fun p => belF k p.2 p.1) = true := fun h => by
        rw [List.all_eq_true]
        intro p hp
        obtain ⟨i, hi, rfl⟩ := List.getElem_of_mem hp
        have := h i (by omega) (by omega)
        simpa using this
      generalize ((sa.dropLast.zip sb.dropLast).all fun p => belF k p.2 p.1) = R at hno hyes ⊢
      simp -dsimp [I, S, Tt, set_ne, nn1, n1n, hL1, w1]
      refine vdraw_tree [0, 0, 2, 6, 14, 31, 63, 127, 255, 127, 1023, 2047, 127, 4223, 127, 28799, 61567, 131071, 262143, 524287] (.rd 0 (.rd 1 (.rd 2 (.rd 3 (.rd 4 (.rd 5 (.rd 6 (.rd 7 (.rd 8 (.rd 9 (.rd 10 (.rd 11 (.rd 12 (.rd 13 (.rd 14 (.rd 15 (.rd 16 (.wr (.cons 17 (.rd 18 (.rd 19 (.fin))) (.nil)))))))))))))))))))) (by kernel_rfl) (by kernel_rfl) ?_
      simp -dsimp [I, S, Tt, set_ne, nn1, n1n, hL1, hL2, w1, w2, c', i1, i2, i1', i2', i3', i4, g1, g1', g2, z1, z2, t1, t2]
      refine pcall hq ?_
      cases r with
      | false =>
        simp -dsimp [I, S, Tt]
        exact pcq (by rfl) (fr _ _)
      | true =>
        simp -dsimp [I, S, Tt]
        refine vloop_as (β := Nat) (fun i => [(2, .ptr n 0 0 0), (3, .ptr (n + 1) 0 0 0), (61, I (sa.length - 1 : Nat)), (62, I i)]) (fun i mm nn => mm n = some ⟨7, [[I 7, S p1, I j1, S m1, S n1, NA, .sl 7 SA]], 0⟩ ∧ mm (n + 1) = some ⟨7, [[I 7, S p2, I j2, S m2, S n2, NB, .sl 7 SB]], 0⟩ ∧ (∀ j, j < n → mm j = m j) ∧ n + 1 + 1 ≤ nn ∧ i ≤ sa.length - 1 ∧ ∀ q (h : q < sa.length - 1) (h' : q < sb.length), q < i → belF k sb[q] sa[q] = true) (fun i => sa.length - 1 - i) 0 (by simp [I]) ⟨by simp [I, S, set_ne, nn1], by simp [I, S], fun j hj => by rw [set_ne _ _ _ _ (by omega), set_ne _ _ _ _ (by omega)], by omega, by omega, fun q h h' hq0 => by omega⟩ ?_
        rintro i mm nn ⟨e0, e1, frm, hn, le, hall⟩
        by_cases hi : (i : Int) < ((sa.length - 1 : Nat) : Int)
        · have hi' : i < sa.length - 1 := by omega
          have hi2 : i < sb.length := by omega
          have hi3 : (i : Int) < sb.length := by omega
          have hi4 : (i : Int) < sa.length := by omega
          have hi5 : i < sa.length := by omega
          have wi : IntKind.i64.wrap ((i : Int) + 1) = (i : Int) + 1 := wrap_i64 (by omega) (by omega)
          have hiA : i < SA.length := by omega
          have hiB : i < SB.length := by omega
          have hga : SA[i] = tyD sa[i] := get_opt (hG1 i (by omega)) hiA
          have hgb : SB[i] = tyD sb[i] := get_opt (hG2 i hi2) hiB
          have hno := hno i hi' hi2
          have hq2 := Q' sa[i] (List.getElem_mem _) sb[i] (List.getElem_mem _)
          have y1 := tyD_len sa[i]
          have y2 := tyD_len sb[i]
          have hnext : belF k sb[i] sa[i] = true → ∀ q (h : q < sa.length - 1) (h' : q < sb.length), q < i + 1 → belF k sb[q] sa[q] = true := fun e q h h' hq0 => by
            rcases Nat.lt_or_eq_of_le (show q ≤ i by omega) with c | c
            · exact hall q h h' c
            · subst c; exact e
          generalize tyD sa[i] = X2 at hq2 y1 hga
          generalize tyD sb[i] = Y2 at hq2 y2 hgb
          have s1 : List.take 7 X2 = X2 := List.take_of_length_le (by omega)
          have s2 : List.take 7 Y2 = Y2 := List.take_of_length_le (by omega)
          simp -dsimp [I, S, Tt, hi, e0, e1]
          refine vdraw_tree [0, 1, 0, 7, 15, 0, 32, 0, 224, 480, 1023, 2047] (.rd 0 (.rd 1 (.rd 2 (.rd 3 (.rd 4 (.rd 5 (.rd 6 (.rd 7 (.rd 8 (.rd 9 (.wr (.cons 10 (.rd 11 (.fin)) (.nil))))))))))))) (by kernel_rfl) (by kernel_rfl) ?_
          simp -dsimp [I, S, Tt, e0, e1, hL1, hL2, hi2, hi3, hi4, hi5, hiA, hiB, hga, hgb, y1, y2, s1, s2]
          refine pcall hq2 ?_
          cases ce : belF k sb[i] sa[i]
          · simp -dsimp [I, S, Tt]
            exact pcq (by rw [hno ce]) frm
          · simp -dsimp [I, S, Tt, wi]
            exact rnd (i + 1) (by omega) (by simp [I]) ⟨e0, e1, frm, by omega, by omega, hnext ce⟩
        · have e := hyes fun q h h' => hall q h h' (by omega)
          rw [e]
          simp -dsimp [I, S, Tt, hi]
          exact pcq rfl frm
    have c7' : (k1 == 7) = false := by simpa using c7
    have e : belF (k + 1) (.mk k1 p1 j1 m1 n1 na sa) (.mk k1 p2 j2 m2 n2 nb sb) = sameT (.mk k1 p1 j1 m1 n1 na sa) (.mk k1 p2 j2 m2 n2 nb sb) := by simp [belF, Ty.kind, c4, c5, c6, c7]
    rw [e]
    simp only [Bool.true_and] at hS
    generalize sameT (.mk k1 p1 j1 m1 n1 na sa) (.mk k1 p2 j2 m2 n2 nb sb) = R at hS ⊢
    simp only [tyD] at hS ⊢
    generalize (sl1 na) = NA at hS ⊢
    generalize (sl1 nb) = NB at hS ⊢
    generalize tysD sa = SA at hS ⊢
    generalize tysD sb = SB at hS ⊢
    refine acalls_vc [0, 1, 2, 3, 4, 5, 6, 11, 13, 14, 25, 30, 35, 60, 61, 62, 63, 76] Tryz.func91 Tryz.ntmps91 (by kernel_rfl) rfl rfl (by simp) ?_
    simp -dsimp [I, S, Tt, set_ne, nn1, n1n, c4', c5', c6', c7']
    refine pcall hS ?_
    simp -dsimp [Tt]
    exact pcq rfl (fr _ _)
theorem cSubTy {a b : Ty} (wa : TyW a) (wb : TyW b) : Pc Tryz.prog 48 [.agg (tyD a), .agg (tyD b)] (Tt (mayT a && plainT a && (mayT b && plainT b) && belF 32 a b)) := by
  refine pc_of (pur_T _) (fun m n => ?_)
  have nn1 : n ≠ n + 1 := by omega
  have n1n : n + 1 ≠ n := by omega
  have fr : ∀ o o' j, j < n → ((m.set n o).set (n + 1) o') j = m j := fun o o' j hj => by rw [set_ne _ _ _ _ (by omega), set_ne _ _ _ _ (by omega)]
  have h1 := cPlainK wa
  have h2 := cPlainK wb
  have h3 : mayT a = true → mayT b = true → Pc Tryz.prog 91 [.agg (tyD a), .agg (tyD b)] (Tt (belF 32 a b)) := fun q1 q2 => cBelow 32 a b wa wb q1 q2 (by simp only [mayT, Bool.and_eq_true, decide_eq_true_eq] at q1; exact q1.2) (by simp only [mayT, Bool.and_eq_true, decide_eq_true_eq] at q2; exact q2.2)
  have z1 := tyD_len a
  have z2 := tyD_len b
  generalize tyD a = XX at h1 h3 z1
  generalize tyD b = YY at h2 h3 z2
  have t1 : List.take 7 XX = XX := List.take_of_length_le (by omega)
  have t2 : List.take 7 YY = YY := List.take_of_length_le (by omega)
  refine acalls_vc [0, 1, 2, 3, 4] Tryz.func48 Tryz.ntmps48 (by kernel_rfl) rfl rfl (by simp) ?_
  simp -dsimp [I, S, Tt, set_ne, nn1, n1n, z1, z2, t1, t2]
  refine pcall h1 ?_
  cases e1 : mayT a && plainT a with
  | false =>
    simp -dsimp [Tt]
    exact pcq (by simp [Tt]) (fr _ _)
  | true =>
  simp -dsimp [I, S, Tt, set_ne, nn1, n1n, z1, z2, t1, t2]
  refine pcall h2 ?_
  cases e2 : mayT b && plainT b with
  | false =>
    simp -dsimp [Tt]
    exact pcq (by simp [Tt]) (fr _ _)
  | true =>
  simp -dsimp [I, S, Tt, set_ne, nn1, n1n, z1, z2, t1, t2]
  refine pcall (h3 (by simp at e1; exact e1.1) (by simp at e2; exact e2.1)) ?_
  simp -dsimp [Tt]
  exact pcq (by simp [Tt]) (fr _ _)
end Go.Proofs.Mv.App
open Go Go.Proofs Go.Proofs.Mv.V
set_option maxRecDepth 10000
namespace Go.Proofs.Mv.App
variable [GI]
structure TkOk (l : List Tok) : Prop where
  len : l.length ≤ 1000000
  txt : ∀ t ∈ l, t.text.length ≤ 1000000
def errD (p : PS) : D := if p.bad = 0 then nilE else spotE p.at_ p.bad
def toksD (l : List Tok) : D := .sl 3 (l.map tokD)
def pC (l : List Tok) (p : PS) : List D := [toksD l, I p.at_, I p.cnt, errD p]
def pObj (l : List Tok) (p : PS) : V.Obj := ⟨4, [pC l p], 0⟩
theorem pur_tok (t : Tok) : ∀ d ∈ tokD t, Pur d := by
  intro d hd
  simp only [tokD, List.mem_cons, List.not_mem_nil, or_false] at hd
  rcases hd with rfl | rfl | rfl
  · exact pur_I _
  · exact pur_I _
  · exact pur_S _
theorem pur_toks (l : List Tok) : Pur (toksD l) := Pur.sl (by
  intro e he d hd
  obtain ⟨t, _, rfl⟩ := List.mem_map.1 he
  exact pur_tok t d hd)
theorem pur_spotE (a c : Int) : Pur (spotE a c) := Pur.iface (Pur.rptr (by
  intro d hd
  simp only [List.mem_cons, List.not_mem_nil, or_false] at hd
  rcases hd with rfl | rfl
  · exact Pur.v _
  · exact Pur.iface (Pur.v _)))
theorem pur_errD (p : PS) : Pur (errD p) := by
  unfold errD; split
  · exact pur_nilE
  · exact pur_spotE _ _
theorem pur_pC (l : List Tok) (p : PS) : ∀ d ∈ pC l p, Pur d := by
  intro d hd
  simp only [pC, List.mem_cons, List.not_mem_nil, or_false] at hd
  rcases hd with rfl | rfl | rfl | rfl
  · exact pur_toks _
  · exact pur_I _
  · exact pur_I _
  · exact pur_errD _
theorem pur_pObj (l : List Tok) (p : PS) : ∀ e ∈ (pObj l p).es, ∀ d ∈ e, Pur d := by
  intro e he d hd
  simp only [pObj, List.mem_singleton] at he
  subst he; exact pur_pC l p d hd
theorem pur_tup0 : Pur (.tup []) := Pur.tup (by simp)
def peekD (l : List Tok) (p : PS) : List D := match cur l p with
  | some t => tokD t
  | none => [I 0, I 0, S []]
theorem cur_some {l : List Tok} {p : PS} {t : Tok} (h : cur l p = some t) : p.bad = 0 ∧ p.at_ < l.length ∧ l[p.at_]? = some t := by
  unfold cur at h
  split at h
  · rename_i hb
    refine ⟨hb, ?_, h⟩
    rcases Nat.lt_or_ge p.at_ l.length with h1 | h1
    · exact h1
    · rw [List.getElem?_eq_none h1] at h; cases h
  · cases h
theorem cFail {l : List Tok} {p : PS} (c : Nat) (hc : c ≠ 0) {k : Nat} {m : Mem} {n : Nat} (hk : k < n) (hm : m k = some (pObj l p)) :
    ACalls Tryz.prog 107 [.ptr k 0 0 0, I c] m n (fun d m' n' => d = .tup [] ∧ m' = m.set k (pObj l (failF c p)) ∧ n' = n) := by
  have kn : k ≠ n := by omega
  have nk : n ≠ k := by omega
  by_cases hb : p.bad = 0
  · refine acalls_put (R' := Hq (fun d m' n' => d = .tup [] ∧ (∃ q, n ≤ q ∧ m' k = some ⟨4, [[toksD l, I p.at_, I p.cnt, .iface 60 (.ptr q 0 0 0)]], 0⟩ ∧ m' q = some ⟨2, [[I p.at_, code c]], 0⟩) ∧ ∀ j, j < n → j ≠ k → m' j = m j) tg) k hk _ ?_ ?_
    · refine acalls_vc [0, 1, 8] Tryz.func107 Tryz.ntmps107 (by kernel_rfl) rfl rfl (by simp) ?_
      simp -dsimp [hm, pObj, pC, errD, hb, nilE, set_ne, kn, nk]
      refine hq ⟨rfl, ⟨n, Nat.le_refl _, by simp, by simp [set_ne, nk, code, I]⟩, fun j hj hjk => ?_⟩
      rw [set_ne _ _ _ _ hjk, set_ne _ _ _ _ (by omega)]
    · rintro d m' n' ⟨rfl, ⟨q, h1, h2, h3⟩, h4⟩
      have hf : failF c p = ⟨p.at_, p.cnt, c⟩ := by simp [failF, hb]
      rw [hf]
      refine ⟨_, _, pur_tup0.pub, h2, .cons (.cons (pur_toks l).pub (.cons (pur_I _).pub (.cons (pur_I _).pub (.cons ?_ .nil)))) .nil, h4, rfl⟩
      simp only [errD, if_neg hc]
      exact .iface (.ptr h3 h1 (.cons (pur_I _).pub (.cons (pur_code _).pub .nil)))
  · rw [failF_bad hb, set_self hm]
    refine acalls_vc [0, 1, 8] Tryz.func107 Tryz.ntmps107 (by kernel_rfl) rfl rfl (by simp) ?_
    simp -dsimp [hm, pObj, pC, errD, hb, spotE]
    done
theorem cPeek {l : List Tok} {p : PS} {k : Nat} {m : Mem} {n : Nat} (hk : k < n) (hm : m k = some (pObj l p)) :
    ACalls Tryz.prog 147 [.ptr k 0 0 0] m n (fun d m' n' => d = .agg (peekD l p) ∧ m' = m ∧ n' = n) := by
  have kn : k ≠ n := by omega
  have nk : n ≠ k := by omega
  have fr : ∀ o, ∀ j, j < n → (m.set n o) j = m j := fun o j hj => set_ne _ _ _ _ (by omega)
  refine acalls_done (R' := Hq (fun d m' n' => d = .agg (peekD l p) ∧ ∀ j, j < n → m' j = m j) tg) ?_ ?_
  · refine acalls_vcC [0, 2, 19] Tryz.func147 Tryz.ntmps147 (by kernel_rfl) rfl rfl (by simp) ?_
    by_cases hb : p.bad = 0
    · by_cases ha : p.at_ < l.length
      · have hg : (l.map tokD)[p.at_]? = some (tokD l[p.at_]) := by simp [ha]
        have hl : (l.map tokD).length = l.length := by simp
        have hc : peekD l p = tokD l[p.at_] := by simp [peekD, cur, hb, ha]
        have hle : ¬ (l.length : Int) ≤ p.at_ := by omega
        have htk : tokD l[p.at_] = [I l[p.at_].kind, I l[p.at_].at_, S l[p.at_].text] := rfl
        generalize hL : l.map tokD = L at hg hl
        have hgi : L[p.at_]'(by omega) = tokD l[p.at_] := get_opt hg _
        rw [hc]
        simp -dsimp [hm, pObj, pC, errD, hb, nilE, toksD, hL, hl, I, hle, set_ne, kn, nk]
        refine vdraw_of [0, 1, 3, 7, 15, 31, 63, 127, 255, 511, 63, 1087, 3135, 7231, 15423, 32767, 65535] [0, 1, 2, 3, 4, 5, 6, 7, 8, 9, 10, 11, 12, 13, 14, 15, 16] (by kernel_rfl) (by kernel_rfl) ?_
        simp -dsimp [hm, pObj, pC, errD, hb, nilE, toksD, hL, hl, I, hle, set_ne, kn, nk]
        refine vdraw_of [0, 1, 3, 7, 0, 16, 48, 112, 255, 511, 1023] [0, 1, 2, 3, 4, 5, 6, 7, 8, 9, 10] (by kernel_rfl) (by kernel_rfl) ?_
        simp -dsimp [hm, pObj, pC, errD, hb, nilE, toksD, hL, hl, I, hle, set_ne, kn, nk, hgi, ha, htk]
        exact hq ⟨by simp [htk, I], fr _⟩
      · have hc : peekD l p = [I 0, I 0, S []] := by simp [peekD, cur, hb, ha]
        have hle : (l.length : Int) ≤ p.at_ := by omega
        rw [hc]
        simp -dsimp [hm, pObj, pC, errD, hb, nilE, toksD, I, hle, set_ne, kn, nk]
        refine vdraw_of [0, 1, 3, 7, 15, 31, 63, 127, 255, 511, 63, 1087, 3135, 7231, 15423, 32767, 65535] [0, 1, 2, 3, 4, 5, 6, 7, 8, 9, 10, 11, 12, 13, 14, 15, 16] (by kernel_rfl) (by kernel_rfl) ?_
        simp -dsimp [hm, pObj, pC, errD, hb, nilE, toksD, I, hle, set_ne, kn, nk]
        exact hq ⟨by simp [I, S], fr _⟩
    · have hc : peekD l p = [I 0, I 0, S []] := by simp [peekD, cur, hb]
      rw [hc]
      simp -dsimp [hm, pObj, pC, errD, hb, spotE, set_ne, kn, nk]
      refine vdraw_of [0, 1, 3, 7, 15, 31, 63, 127, 255, 511, 63, 1087, 3135, 7231, 15423, 32767, 65535] [0, 1, 2, 3, 4, 5, 6, 7, 8, 9, 10, 11, 12, 13, 14, 15, 16] (by kernel_rfl) (by kernel_rfl) ?_
      simp -dsimp [hm, pObj, pC, errD, hb, spotE, set_ne, kn, nk]
      exact hq ⟨by simp [I, S], fr _⟩
  · rintro d m' n' ⟨rfl, h⟩
    refine ⟨_, Pur.pub (Pur.agg ?_), h, rfl⟩
    unfold peekD; split
    · exact pur_tok _
    · intro d hd
      simp only [List.mem_cons, List.not_mem_nil, or_false] at hd
      rcases hd with rfl | rfl | rfl
      · exact pur_I _
      · exact pur_I _
      · exact pur_S _
end Go.Proofs.Mv.App
open Go Go.Proofs Go.Proofs.Mv.V
set_option maxRecDepth 10000
namespace Go.Proofs.Mv.App
variable [GI]
/-- The token at hand, as it is looked at. -/
structure Pk (l : List Tok) (p : PS) (kd a : Int) (tx : List UInt8) : Prop where
  pk : peekD l p = [I kd, I a, S tx]
  sig : ∀ s, isSig s l p = (decide (kd = 4) && decide (tx = s))
  nam : ∀ g, isNam g l p = (decide (kd = if g then 2 else 1) && namOk g tx)
  num : isNum l p = (decide (kd = 3) && numOk tx)
  beg : begF l p = begT ⟨kd, a, tx⟩
  tex : curT l p = tx
  len : tx.length ≤ 1000000
  ok : kd ≠ 0 → p.bad = 0 ∧ p.at_ < l.length
  cu : (cur l p = none ∧ kd = 0) ∨ cur l p = some ⟨kd, a, tx⟩
theorem pk_of {l : List Tok} (hl : TkOk l) (p : PS) : ∃ kd a tx, Pk l p kd a tx := by
  cases h : cur l p with
  | none => exact ⟨0, 0, [], by simp [peekD, h], by simp [isSig, h], by intro g; cases g <;> simp [isNam, h], by simp [isNum, h], by simp [begF, h, begT], by simp [curT, h], by simp, by simp, .inl ⟨h, rfl⟩⟩
  | some t =>
    obtain ⟨kd, a, tx⟩ := t
    obtain ⟨h1, h2, h3⟩ := cur_some h
    exact ⟨kd, a, tx, by simp [peekD, h, tokD], by simp [isSig, h], by intro g; simp [isNam, h], by simp [isNum, h], by simp [begF, h], by simp [curT, h],
      hl.txt _ (List.mem_of_getElem? h3), fun _ => ⟨h1, h2⟩, .inr h⟩
theorem wrap_at {l : List Tok} (hl : TkOk l) {p : PS} (h : p.at_ < l.length) : IntKind.i64.wrap ((p.at_ : Int) + 1) = (p.at_ : Int) + 1 := wrap_i64 (by omega) (by have := hl.len; omega)
theorem pObj_step {l : List Tok} {p : PS} (h : p.bad = 0) : pObj l (stepF p) = ⟨4, [[toksD l, .v (.int .i64 ((p.at_ : Int) + 1)), I p.cnt, .v .nilIface]], 0⟩ := by
  simp [pObj, pC, stepF, errD, h, I, nilE]
theorem cSign {l : List Tok} (hl : TkOk l) {p : PS} (s : List UInt8) {k : Nat} {m : Mem} {n : Nat} (hk : k < n) (hm : m k = some (pObj l p)) :
    ACalls Tryz.prog 182 [.ptr k 0 0 0, S s] m n (fun d m' n' => d = Tt (isSig s l p) ∧ m' = m.set k (pObj l (if isSig s l p then stepF p else p)) ∧ n' = n) := by
  have kn : k ≠ n := by omega
  have nk : n ≠ k := by omega
  obtain ⟨kd, a, tx, hp⟩ := pk_of hl p
  refine acalls_fin hk (pur_pObj _ _) (fun d h => by rw [h]; exact pur_T _) ?_
  refine acalls_vc [0, 1, 4, 5, 6, 18] Tryz.func182 Tryz.ntmps182 (by kernel_rfl) rfl rfl (by simp) ?_
  simp -dsimp
  refine aCall_of (cPeek hk hm) ?_
  rintro d m' n' ⟨rfl, rfl, rfl⟩
  rw [hp.pk, hp.sig]
  by_cases e4 : kd = 4
  · obtain ⟨hb, ha⟩ := hp.ok (by omega)
    have wa := wrap_at hl ha
    by_cases e : tx = s
    · have e' : (tx == s) = true := by simp [e]
      simp -dsimp [I, S, e4, e', hm, set_ne, kn, nk, pObj, pC, wa]
      refine fin_mk (by simp [e, Tt]) ?_ fun j hj hjk => ?_
      · simp [e, pObj, pC, errD, hb, stepF, I]
      · rw [set_ne _ _ _ _ hjk, set_ne _ _ _ _ (by omega)]
    · have e' : (tx == s) = false := by simp [e]
      simp -dsimp [I, S, e4, e', hm, set_ne, kn, nk]
      refine fin_mk (by simp [e, Tt]) ?_ fun j hj hjk => ?_
      · simp [e, hm, set_ne, kn]
      · rw [set_ne _ _ _ _ (by omega)]
  · have e4' : (kd == 4) = false := by simp [e4]
    simp -dsimp [I, S, e4', hm, set_ne, kn, nk]
    refine fin_mk (by simp [e4, Tt]) ?_ fun j hj hjk => ?_
    · simp [e4, hm, set_ne, kn]
    · rw [set_ne _ _ _ _ (by omega)]
theorem cMust {l : List Tok} (hl : TkOk l) {p : PS} (s : List UInt8) {k : Nat} {m : Mem} {n : Nat} (hk : k < n) (hm : m k = some (pObj l p)) :
    ACalls Tryz.prog 149 [.ptr k 0 0 0, S s] m n (fun d m' n' => d = .tup [] ∧ m' = m.set k (pObj l (mustF s l p)) ∧ n' = n) := by
  refine acalls_vc [0, 1, 7] Tryz.func149 Tryz.ntmps149 (by kernel_rfl) rfl rfl (by simp) ?_
  simp -dsimp [S]
  refine aCall_of (cSign hl s hk hm) ?_
  rintro d m' n' ⟨rfl, rfl, rfl⟩
  cases e : isSig s l p
  · simp -dsimp [Tt]
    refine aCall_of (cFail (l := l) (p := p) 2 (by omega) hk (by simp)) ?_
    rintro d m' n' ⟨rfl, rfl, rfl⟩
    simp -dsimp [mustF, e]
  · simp -dsimp [Tt, mustF, e]
theorem cName {l : List Tok} (hl : TkOk l) {p : PS} (g : Bool) (f : FuncId) (hf : ∀ (s : List UInt8) (hs : s.length ≤ 1000000000) (m : Mem) (n : Nat), ACalls Tryz.prog f [S s] m n (fun d m' n' => d = Tt (namOk g s) ∧ m' = m ∧ n' = n))
    {k : Nat} {m : Mem} {n : Nat} (hk : k < n) (hm : m k = some (pObj l p)) :
    ACalls Tryz.prog 150 [.ptr k 0 0 0, I (if g then 2 else 1), .func (.func f) [] []] m n (fun d m' n' => d = S (nameF g l p).1 ∧ m' = m.set k (pObj l (nameF g l p).2) ∧ n' = n) := by
  have kn : k ≠ n := by omega
  have nk : n ≠ k := by omega
  have kn1 : k < n + 1 := by omega
  obtain ⟨kd, a, tx, hp⟩ := pk_of hl p
  refine acalls_fin hk (pur_pObj _ _) (fun d h => by rw [h]; exact pur_S _) ?_
  refine acalls_vc [0, 1, 2, 6, 7, 20] Tryz.func150 Tryz.ntmps150 (by kernel_rfl) rfl rfl (by simp) ?_
  simp -dsimp [I]
  refine aCall_of (cPeek hk hm) ?_
  rintro d m' n' ⟨rfl, rfl, rfl⟩
  rw [hp.pk]
  have hn := hp.nam g
  generalize hg2 : (if g = true then (2 : Int) else 1) = kg at hn
  have hkg : kg ≠ 0 := by rw [← hg2]; split <;> omega
  have fail : ∀ (m2 : Mem), m2 k = some (pObj l p) → isNam g l p = false → nameF g l p = ([], failF 2 p) := fun m2 _ h => by simp [nameF, h]
  by_cases e : kd = kg
  · have e' : (kd != kg) = false := by simp [e]
    have hlen := hp.len
    simp -dsimp [I, S, e', hm, set_ne, kn, nk]
    refine aCall_of (hf tx (by omega) _ _) ?_
    rintro d m2 n2 ⟨rfl, rfl, rfl⟩
    cases eo : namOk g tx
    · have hfa : isNam g l p = false := by rw [hn]; simp [eo]
      simp -dsimp [Tt]
      refine aCall_of (cFail (l := l) (p := p) 2 (by omega) kn1 (by simp [set_ne, kn, hm])) ?_
      rintro d m2 n2 ⟨rfl, rfl, rfl⟩
      simp -dsimp
      refine fin_mk (by simp [nameF, hfa, S]) (by simp [nameF, hfa]) fun j hj hjk => ?_
      rw [set_ne _ _ _ _ hjk, set_ne _ _ _ _ (by omega)]
    · have htr : isNam g l p = true := by rw [hn]; simp [eo, e]
      obtain ⟨hb, ha⟩ := hp.ok (by omega)
      have wa := wrap_at hl ha
      simp -dsimp [Tt, hm, set_ne, kn, nk, pObj, pC, I, wa]
      refine fin_mk (by simp [nameF, htr, hp.tex, S]) ?_ fun j hj hjk => ?_
      · simp [nameF, htr, pObj, pC, errD, hb, stepF, I]
      · rw [set_ne _ _ _ _ hjk, set_ne _ _ _ _ (by omega)]
  · have e' : (kd != kg) = true := by simp [e]
    have hfa : isNam g l p = false := by rw [hn]; simp [e]
    simp -dsimp [I, S, e', hm, set_ne, kn, nk]
    refine aCall_of (cFail (l := l) (p := p) 2 (by omega) kn1 (by simp [set_ne, kn, hm])) ?_
    rintro d m2 n2 ⟨rfl, rfl, rfl⟩
    simp -dsimp
    refine fin_mk (by simp [nameF, hfa, S]) (by simp [nameF, hfa]) fun j hj hjk => ?_
    rw [set_ne _ _ _ _ hjk, set_ne _ _ _ _ (by omega)]
theorem cBase (s : List UInt8) (m : Mem) (n : Nat) : ACalls Tryz.prog 154 [S s] m n (fun d m' n' => d = I (baseN s) ∧ m' = m ∧ n' = n) := by
  refine acalls_vc [0, 2, 3, 4, 6, 8] Tryz.func154 Tryz.ntmps154 (by kernel_rfl) rfl rfl (by simp) ?_
  by_cases e1 : s = wInt
  · have : baseN s = 1 := by simp [baseN, e1]
    have f1 : (s == [73, 110, 116]) = true := by simp [e1, wInt]
    simp -dsimp [S, this, I, f1]
  have f1 : (s == [73, 110, 116]) = false := by simpa [wInt] using e1
  by_cases e2 : s = wText
  · have : baseN s = 2 := by simp [baseN, e2]; decide
    have f2 : (s == [84, 101, 120, 116]) = true := by simp [e2, wText]
    simp -dsimp [S, this, I, f1, f2]
  have f2 : (s == [84, 101, 120, 116]) = false := by simpa [wText] using e2
  by_cases e3 : s = wBool
  · have : baseN s = 3 := by simp [baseN, e3]; decide
    have f3 : (s == [66, 111, 111, 108]) = true := by simp [e3, wBool]
    simp -dsimp [S, this, I, f1, f2, f3]
  have f3 : (s == [66, 111, 111, 108]) = false := by simpa [wBool] using e3
  have : baseN s = 0 := by simp [baseN, e1, e2, e3]
  simp -dsimp [S, this, I, f1, f2, f3]
end Go.Proofs.Mv.App
open Go Go.Proofs Go.Proofs.Mv.V Go.RowKit
set_option maxRecDepth 10000
namespace Go.Proofs.Mv.App
theorem cParseUint (s : List UInt8) (hs : s.length ≤ 1000000000) (m : Mem) (n : Nat) : ACalls Tryz.prog 104 [S s, I 10, I 32] m n (fun d m' n' => ∃ (x : Int) (e : D), d = .tup [.v (.int .u64 x), e] ∧
    (match okU (Lib.parseUintB 32 s) with | some u => x = u ∧ e = nilE | none => ∃ t, e = .iface t .any) ∧ m' = m ∧ n' = n) := by
  refine acalls_lib ⟨_, Tryz.func104, by kernel_rfl, by kernel_rfl⟩ fun w ν F vals hst hv => ?_
  obtain ⟨a, b, c, rfl, h1, h2, h3⟩ := conVs_arr3 hv
  simp only [Con, S, I] at h1 h2 h3
  subst h1; subst h2; subst h3
  have hsz : (ofL s).size = s.length := by show (s.toArray).size = _; simp
  have hdl : (ofL s).data.toList = s := rfl
  rcases hp : Lib.parseUintB 32 s with u | _ | _
  · refine Calls.mono (show Calls Tryz.prog 104 _ _ _ from Any.strconv_ParseUint_10_at32_ok Tryz.laysPu14 (ofL s) (by omega) u (by rw [hdl]; exact hp) w) ?_
    rintro e w' ⟨rfl, hw⟩
    refine ⟨_, rfl, ?_, .tup [.v (.int .u64 u), nilE], ?_, (u : Int), nilE, rfl, by simp [okU], rfl, rfl⟩
    · rcases hw with rfl | rfl
      · exact Below.refl _ _
      · exact Lib.bytesWorld_below _ _ _
    · simp [Con, ConVs, nilE]
  · obtain ⟨te, pe, hc⟩ := hst.gi.c1
    refine Calls.mono (show Calls Tryz.prog 104 _ _ _ from Any.strconv_ParseUint_10_at32_syntax Tryz.laysPu14 (ofL s) (by omega) (by rw [hdl]; exact hp) _ w hc (.inr ⟨_, _, rfl⟩)) ?_
    rintro e w' ⟨N, rfl, _, _, hb⟩
    refine ⟨_, rfl, hb, .tup [.v (.int .u64 0), .iface (Tryz.laysPu14_ren.t 39) .any], ?_, _, _, rfl, ⟨_, rfl⟩, rfl, rfl⟩
    simp only [Con, ConVs]
    exact ⟨_, rfl, _, _, rfl, rfl, _, _, rfl, ⟨_, rfl, trivial⟩, rfl⟩
  · obtain ⟨te, pe, hc⟩ := hst.gi.c2
    refine Calls.mono (show Calls Tryz.prog 104 _ _ _ from Any.strconv_ParseUint_10_at32_range Tryz.laysPu14 (ofL s) (by omega) (by rw [hdl]; exact hp) _ w hc (.inr ⟨_, _, rfl⟩)) ?_
    rintro e w' ⟨N, rfl, _, _, hb⟩
    refine ⟨_, rfl, hb, .tup [.v (.int .u64 4294967295), .iface (Tryz.laysPu14_ren.t 39) .any], ?_, _, _, rfl, ⟨_, rfl⟩, rfl, rfl⟩
    simp only [Con, ConVs]
    exact ⟨_, rfl, _, _, rfl, rfl, _, _, rfl, ⟨_, rfl, trivial⟩, rfl⟩
end Go.Proofs.Mv.App
