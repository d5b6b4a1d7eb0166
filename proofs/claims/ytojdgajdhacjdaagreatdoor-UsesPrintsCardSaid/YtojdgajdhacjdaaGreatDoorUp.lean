/- A part of the proofs of the seat YtojdgajdhacjdaaGreatDoor: the abstract machine, the contracts of the functions, the laws. No condition of its own. -/
import Derived.Test.YtojdgajdhacjdaaGreatDoorUs
import Derived.Test.YtojdgajdhacjdaaGreatDoorTyA
import Derived.Test.YtojdgajdhacjdaaGreatDoorLex
import Derived.Test.YtojdgajdhacjdaaGreatDoorMvPc
import Derived.Test.YtojdgajdhacjdaaGreatDoorTyE
set_option linter.unusedSimpArgs false
set_option linter.unusedVariables false
set_option linter.unusedSectionVars false
open Go Go.Proofs Go.Proofs.Mv.V
set_option maxRecDepth 10000
namespace Go.Proofs.Mv.App
structure ImpWU (i : Imp) : Prop where
  h1 : i.pkg.length ≤ 9223372036854775807
  h2 : i.mod.length ≤ 9223372036854775807
  h3 : i.as_.length ≤ 9223372036854775807
structure LnW (d : Ln) : Prop where
  h1 : d.mod.length ≤ 9223372036854775807
  h2 : d.name.length ≤ 9223372036854775807
  h3 : TyW d.typ
structure UsW (x : Us) : Prop where
  h1 : x.imps.length ≤ 9223372036854775807
  h2 : x.lines.length ≤ 9223372036854775807
  h3 : ∀ i ∈ x.imps, ImpWU i
  h4 : ∀ d ∈ x.lines, LnW d
@[simp] theorem impD_len (i : Imp) : (impD i).length = 4 := rfl
def impOkU (i : Imp) : Bool := smallN i.pkg && smallN i.mod && smallN i.as_ && decide (1 ≤ i.major) && decide (i.major ≤ 999999999)
def lnNm (d : Ln) : Bool := (decide (d.kind = 1) && smallN d.name) || (decide (d.kind = 2) && greatN d.name)
def lnOk (d : Ln) : Bool := lnNm d && smallN d.mod && mayT d.typ
def mayU (x : Us) : Bool := decide (x.imps.length ≤ 20) && decide (x.lines.length ≤ 60) && x.imps.all impOkU && x.lines.all lnOk
def fewLn (d : Ln) : Bool := few3 d.typ && decide (d.name.length ≤ 500)
def fewU (x : Us) : Bool := decide (x.imps.length ≤ 100) && decide (x.lines.length ≤ 100) && x.lines.all fewLn
def impLnU (i : Imp) : List UInt8 := wImp ++ [32] ++ i.pkg ++ [32] ++ digits i.major.toNat ++ [32] ++ i.mod ++ [32, 97, 115, 32] ++ i.as_ ++ [10]
def lnHd (d : Ln) : List UInt8 := if d.kind = 1 then [117, 115, 101, 32] ++ d.mod ++ [46] ++ d.name ++ [32, 58, 32] else [105, 115, 32] ++ d.mod ++ [46] ++ d.name ++ [32, 61, 32]
def lnTx (d : Ln) : List UInt8 := lnHd d ++ textT d.typ ++ [10]
/-- A client's text, up to so many imports, or lines. -/
def impsU (x : Us) (i : Nat) : List UInt8 := ((x.imps.take i).map impLnU).flatten
def lnsU (x : Us) (i : Nat) : List UInt8 := (x.imps.map impLnU).flatten ++ ((x.lines.take i).map lnTx).flatten
def textU (x : Us) : List UInt8 := lnsU x x.lines.length
theorem impsU_zero (x : Us) : impsU x 0 = [] := by simp [impsU]
theorem impsU_snoc {x : Us} {i : Nat} (h : i < x.imps.length) : impsU x (i + 1) = impsU x i ++ impLnU x.imps[i] := by
  simp only [impsU]
  rw [List.take_succ_eq_append_getElem h, List.map_append, List.flatten_append]
  simp only [List.map_cons, List.map_nil, List.flatten_cons, List.flatten_nil, List.append_nil]
theorem impsU_all (x : Us) : impsU x x.imps.length = lnsU x 0 := by simp [impsU, lnsU]
theorem lnsU_snoc {x : Us} {i : Nat} (h : i < x.lines.length) : lnsU x (i + 1) = lnsU x i ++ lnTx x.lines[i] := by
  simp only [lnsU]
  rw [List.take_succ_eq_append_getElem h, List.map_append, List.flatten_append]
  simp only [List.map_cons, List.map_nil, List.flatten_cons, List.flatten_nil, List.append_nil, List.append_assoc]
theorem flat_len {α : Type} {B : Nat} {f : α → List UInt8} : ∀ {l : List α}, (∀ x ∈ l, (f x).length ≤ B) → ((l.map f).flatten).length ≤ l.length * B
  | [], _ => by simp
  | s :: l, h => by
    have h1 := flat_len (l := l) fun t ht => h t (by simp [ht])
    have h2 := h s (by simp)
    simp only [List.map_cons, List.flatten_cons, List.length_append, List.length_cons, Nat.add_mul] at h1 ⊢
    omega
theorem mayT_all {t : Ty} (h : mayT t = true) : allT t = true ∧ manyT t ≤ 500 := by
  simp only [mayT, Bool.and_eq_true, decide_eq_true_eq] at h
  exact ⟨h.1.1, h.1.2⟩
theorem mayT_lenU {t : Ty} (h : mayT t = true) : (textT t).length ≤ 65000 := by
  obtain ⟨h1, h2⟩ := mayT_all h
  have := text_len t h1; omega
theorem imp_partsU {i : Imp} (h : impOkU i = true) : i.pkg.length ≤ 20 ∧ i.mod.length ≤ 20 ∧ i.as_.length ≤ 20 ∧ 1 ≤ i.major ∧ i.major ≤ 999999999 := by
  simp only [impOkU, Bool.and_eq_true, decide_eq_true_eq] at h
  exact ⟨(small_parts h.1.1.1.1).2.2.1, (small_parts h.1.1.1.2).2.2.1, (small_parts h.1.1.2).2.2.1, h.1.2, h.2⟩
theorem ln_parts {d : Ln} (h : lnOk d = true) : d.mod.length ≤ 20 ∧ d.name.length ≤ 20 ∧ mayT d.typ = true := by
  simp only [lnOk, lnNm, Bool.and_eq_true, Bool.or_eq_true, decide_eq_true_eq] at h
  refine ⟨(small_parts h.1.2).2.2.1, ?_, h.2⟩
  rcases h.1.1 with h | h
  · exact (small_parts h.2).2.2.1
  · exact (great_parts h.2).2.2.1
theorem impLnU_len {i : Imp} (h : impOkU i = true) : (impLnU i).length ≤ 200 := by
  obtain ⟨h1, h2, h3, _⟩ := imp_partsU h
  have := digits_len i.major.toNat
  simp [impLnU, wImp]; omega
theorem lnHd_len {d : Ln} (h : lnOk d = true) : (lnHd d).length ≤ 50 := by
  obtain ⟨h1, h2, _⟩ := ln_parts h
  unfold lnHd; split <;> simp <;> omega
theorem lnTx_len {d : Ln} (h : lnOk d = true) : (lnTx d).length ≤ 66000 := by
  have h1 := lnHd_len h
  have h2 := mayT_lenU (ln_parts h).2.2
  simp [lnTx]; omega
theorem mayU_parts {x : Us} (h : mayU x = true) : x.imps.length ≤ 20 ∧ x.lines.length ≤ 60 ∧ (∀ i ∈ x.imps, impOkU i = true) ∧ ∀ d ∈ x.lines, lnOk d = true := by
  simp only [mayU, Bool.and_eq_true, decide_eq_true_eq, List.all_eq_true] at h
  exact ⟨h.1.1.1, h.1.1.2, h.1.2, h.2⟩
theorem impsU_len {x : Us} (h : mayU x = true) (i : Nat) : (impsU x i).length ≤ 4000 := by
  obtain ⟨h1, h2, h3, h4⟩ := mayU_parts h
  have h5 : (impsU x i).length ≤ (x.imps.take i).length * 200 := flat_len fun a ha => impLnU_len (h3 a (List.mem_of_mem_take ha))
  rw [List.length_take] at h5
  have : min i x.imps.length * 200 ≤ 20 * 200 := Nat.mul_le_mul_right _ (by omega)
  omega
theorem lnsU_len {x : Us} (h : mayU x = true) (i : Nat) : (lnsU x i).length ≤ 4000000 := by
  obtain ⟨h1, h2, h3, h4⟩ := mayU_parts h
  have h5 : ((x.imps.map impLnU).flatten).length ≤ x.imps.length * 200 := flat_len fun a ha => impLnU_len (h3 a ha)
  have h6 : (((x.lines.take i).map lnTx).flatten).length ≤ (x.lines.take i).length * 66000 := flat_len fun a ha => lnTx_len (h4 a (List.mem_of_mem_take ha))
  rw [List.length_take] at h6
  have : min i x.lines.length * 66000 ≤ 60 * 66000 := Nat.mul_le_mul_right _ (by omega)
  have : x.imps.length * 200 ≤ 20 * 200 := Nat.mul_le_mul_right _ (by omega)
  simp only [lnsU, List.length_append]; omega
theorem few3_manyU {t : Ty} (h : few3 t = true) : manyT t ≤ 3000 := by
  simp only [few3, decide_eq_true_eq] at h
  have := fewT_spec t 3000 h
  omega
theorem fewU_parts {x : Us} (h : fewU x = true) : x.imps.length ≤ 100 ∧ x.lines.length ≤ 100 ∧ ∀ d ∈ x.lines, few3 d.typ = true := by
  simp only [fewU, Bool.and_eq_true, decide_eq_true_eq, List.all_eq_true] at h
  exact ⟨h.1.1, h.1.2, fun d hd => by have := h.2 d hd; simp only [fewLn, Bool.and_eq_true] at this; exact this.1⟩
end Go.Proofs.Mv.App
open Go Go.Proofs Go.Proofs.Mv.V
namespace Go.Proofs.Mv.App
/-- The place of the first that fits; below 0: none. -/
def findI {α : Type} (q : α → Bool) : List α → Int
  | [] => -1
  | x :: l => if q x then 0 else if findI q l < 0 then -1 else findI q l + 1
theorem findI_le {α : Type} (q : α → Bool) : ∀ l : List α, -1 ≤ findI q l
  | [] => by simp [findI]
  | x :: l => by
    have := findI_le q l
    simp only [findI]; split
    · omega
    · split <;> omega
theorem findI_no {α : Type} {q : α → Bool} : ∀ {l : List α}, (∀ x ∈ l, q x = false) → findI q l = -1
  | [], _ => rfl
  | x :: l, h => by
    have h1 := h x (by simp)
    have h2 := findI_no (l := l) fun y hy => h y (by simp [hy])
    simp [findI, h1, h2]
theorem findI_hit {α : Type} {q : α → Bool} : ∀ {l : List α} {i : Nat} (hi : i < l.length), q l[i] = true → (∀ x ∈ l.take i, q x = false) → findI q l = i
  | x :: l, 0, _, h, _ => by simp at h; simp [findI, h]
  | x :: l, i + 1, hi, h, hn => by
    have h1 := hn x (by simp)
    have h2 := findI_hit (l := l) (i := i) (by simpa using hi) (by simpa using h) fun y hy => hn y (by simp [hy])
    have h3 : ¬ ((i : Int) < 0) := by omega
    simp [findI, h1, h2, h3]
theorem findI_any {α : Type} (q : α → Bool) : ∀ l : List α, 0 ≤ findI q l ↔ l.any q = true
  | [] => by simp [findI]
  | x :: l => by
    have ih := findI_any q l
    have hle := findI_le q l
    simp only [findI, List.any_cons, Bool.or_eq_true]
    by_cases e : q x = true
    · simp [e]
    · rw [if_neg e]
      have h0 : q x = true ↔ False := ⟨e, False.elim⟩
      rw [h0, false_or, ← ih]
      by_cases h : findI q l < 0
      · rw [if_pos h]; omega
      · rw [if_neg h]; omega
end Go.Proofs.Mv.App
open Go Go.Proofs Go.Proofs.Mv.V
set_option maxRecDepth 10000
namespace Go.Proofs.Mv.App
set_option maxHeartbeats 1000000 in
theorem cUImpOk {i : Imp} (hi : ImpWU i) (m : Mem) (n : Nat) : ACalls Tryz.prog 38 [.agg (impD i)] m n (fun d m' n' => d = Tt (impOkU i) ∧ m' = m ∧ n' = n) := by
  obtain ⟨pkg, major, mod, as_⟩ := i
  obtain ⟨q1, q2, q3⟩ := hi
  simp only at q1 q2 q3
  refine acalls_done (R' := Hq (fun d m' n' => d = Tt (impOkU ⟨pkg, major, mod, as_⟩) ∧ ∀ j, j < n → m' j = m j) tg) ?_ ?_
  · have fr : ∀ o j, j < n → (m.set n o) j = m j := fun o j hj => by rw [set_ne _ _ _ _ (by omega)]
    simp only [impD, impOkU]
    refine acalls_vc [0, 1, 2] Tryz.func38 Tryz.ntmps38 (by kernel_rfl) rfl rfl (by simp) ?_
    simp -dsimp [I, S]
    refine aCall_of (cSmall pkg q1 _ _) ?_
    rintro d m' n' ⟨rfl, rfl, rfl⟩
    cases h1 : smallN pkg with
    | false =>
      simp -dsimp [I, S, Tt]
      exact hq ⟨by simp [Tt], fr _⟩
    | true =>
    simp -dsimp [I, S, Tt]
    refine aCall_of (cSmall mod q2 _ _) ?_
    rintro d m' n' ⟨rfl, rfl, rfl⟩
    cases h2 : smallN mod with
    | false =>
      simp -dsimp [I, S, Tt]
      exact hq ⟨by simp [Tt], fr _⟩
    | true =>
    simp -dsimp [I, S, Tt]
    refine aCall_of (cSmall as_ q3 _ _) ?_
    rintro d m' n' ⟨rfl, rfl, rfl⟩
    cases h3 : smallN as_ with
    | false =>
      simp -dsimp [I, S, Tt]
      exact hq ⟨by simp [Tt], fr _⟩
    | true =>
    by_cases h4 : 1 ≤ major
    · simp -dsimp [I, S, Tt, h4]
      exact hq ⟨by simp [Tt, h4], fr _⟩
    · simp -dsimp [I, S, Tt, h4]
      exact hq ⟨by simp [Tt, h4], fr _⟩
  · rintro d m' n' ⟨rfl, h⟩
    exact ⟨_, (pur_T _).pub, h, rfl⟩
theorem cUOdd1 {i : Imp} (hi : ImpWU i) : Pc Tryz.prog 37 [.agg (impD i)] (Tt (!impOkU i)) := by
  refine pc_of (pur_T _) (fun m n => ?_)
  have hc := fun m n => cUImpOk hi m n
  have hz : (impD i).length = 4 := by simp
  generalize impD i = XX at hc hz
  have htz : List.take 4 XX = XX := List.take_of_length_le (by omega)
  refine acalls_vc [0, 1, 2] Tryz.func37 Tryz.ntmps37 (by kernel_rfl) rfl rfl (by simp) ?_
  simp -dsimp [hz, htz]
  refine pcall hc ?_
  simp -dsimp [Tt]
  exact pcq (by simp [Tt]) fun j hj => set_ne _ _ _ _ (by omega)
set_option maxHeartbeats 1000000 in
theorem cUSaid {d : Ln} (hd : LnW d) : Pc Tryz.prog 40 [.agg (lnD d)] (Tt (lnOk d)) := by
  obtain ⟨kind, mod, name, typ⟩ := d
  obtain ⟨q1, q2, q3⟩ := hd
  simp only at q1 q2 q3
  refine pc_of (pur_T _) (fun m n => ?_)
  have hc := fun m n => cMay q3 m n
  have h7 := tyD_len typ
  simp only [lnD, lnOk, lnNm]
  generalize tyD typ = TT at hc h7
  have ht7 : List.take 7 TT = TT := List.take_of_length_le (by omega)
  have fr : ∀ o j, j < n → (m.set n o) j = m j := fun o j hj => set_ne _ _ _ _ (by omega)
  have rest : ∀ (nm : Bool) (K : D → Mem → Nat → Prop), True := fun _ _ => trivial
  refine acalls_vc [0, 1, 2, 3] Tryz.func40 Tryz.ntmps40 (by kernel_rfl) rfl rfl (by simp) ?_
  by_cases k1 : kind = 1
  · subst k1
    simp -dsimp [I, S, h7, ht7]
    refine pcall (fun m n => cSmall name q2 m n) ?_
    cases e1 : smallN name
    · simp -dsimp [I, S, Tt, h7, ht7]
      exact pcq (by simp [Tt]) (fr _)
    · simp -dsimp [I, S, Tt, h7, ht7]
      refine pcall (fun m n => cSmall mod q1 m n) ?_
      cases e2 : smallN mod
      · simp -dsimp [I, S, Tt, h7, ht7]
        exact pcq (by simp [Tt]) (fr _)
      · simp -dsimp [I, S, Tt, h7, ht7]
        refine pcall hc ?_
        simp -dsimp [I, S, Tt, h7, ht7]
        exact pcq (by simp [Tt]) (fr _)
  · have k1' : (kind == 1) = false := by simp [k1]
    by_cases k2 : kind = 2
    · subst k2
      simp -dsimp [I, S, h7, ht7, k1']
      refine pcall (fun m n => cGreat name q2 m n) ?_
      cases e1 : greatN name
      · simp -dsimp [I, S, Tt, h7, ht7]
        exact pcq (by simp [Tt]) (fr _)
      · simp -dsimp [I, S, Tt, h7, ht7]
        refine pcall (fun m n => cSmall mod q1 m n) ?_
        cases e2 : smallN mod
        · simp -dsimp [I, S, Tt, h7, ht7]
          exact pcq (by simp [Tt]) (fr _)
        · simp -dsimp [I, S, Tt, h7, ht7]
          refine pcall hc ?_
          simp -dsimp [I, S, Tt, h7, ht7]
          exact pcq (by simp [Tt]) (fr _)
    · have k2' : (kind == 2) = false := by simp [k2]
      simp -dsimp [I, S, h7, ht7, k1', k2']
      exact pcq (by simp [Tt, k1, k2]) (fr _)
theorem cUOdd2 {d : Ln} (hd : LnW d) : Pc Tryz.prog 39 [.agg (lnD d)] (Tt (!lnOk d)) := by
  refine pc_of (pur_T _) (fun m n => ?_)
  have hc := cUSaid hd
  have hz : (lnD d).length = 10 := by simp
  generalize lnD d = XX at hc hz
  have htz : List.take 10 XX = XX := List.take_of_length_le (by omega)
  refine acalls_vc [0, 1, 2] Tryz.func39 Tryz.ntmps39 (by kernel_rfl) rfl rfl (by simp) ?_
  simp -dsimp [hz, htz]
  refine pcall hc ?_
  simp -dsimp [Tt]
  exact pcq (by simp [Tt]) fun j hj => set_ne _ _ _ _ (by omega)
theorem cIdxUI {l : List (Imp)} {q : Imp → Bool} {fp : FuncId} {cs : List D} (hcs : List.length cs ≤ 3) (hp : ∀ x ∈ l, Pc Tryz.prog fp (.agg (impD x) :: cs) (Tt (q x))) (hlen : l.length ≤ 9223372036854775807) :
    Pc Tryz.prog 79 [.sl 4 (l.map impD), .func (.func fp) [] cs] (I (findI q l)) := by
  refine pc_of (pur_I _) (fun m n => ?_)
  have hL2 : (l.map impD).length = l.length := by simp
  have hG2 : ∀ i (h : i < l.length), (l.map impD)[i]? = some (impD l[i]) := fun i h => by simp [h]
  generalize l.map impD = EL at hL2 hG2
  refine acalls_vc [0, 1, 4, 5, 7, 8, 9, 16] Tryz.func79 Tryz.ntmps79 (by kernel_rfl) rfl rfl (by simp) ?_
  simp -dsimp [hL2, I]
  refine vloop_as (β := Nat) (fun i => [(0, .sl 4 EL), (1, .func (.func fp) [] cs), (7, I l.length), (8, I i)]) (fun i m2 n2 => m2 = m ∧ n2 = n ∧ i ≤ l.length ∧ ∀ x ∈ l.take i, q x = false) (fun i => l.length - i) 0 (by simp [I]) ⟨rfl, rfl, by omega, by simp⟩ ?_
  rintro i m2 n2 ⟨rfl, rfl, le, hno⟩
  by_cases hi : (i : Int) < l.length
  · have hi' : i < l.length := by omega
    have wi : IntKind.i64.wrap ((i : Int) + 1) = (i : Int) + 1 := wrap_i64 (by omega) (by omega)
    have hiN : i < EL.length := by omega
    have hgi : EL[i] = impD l[i] := get_opt (hG2 i hi') hiN
    have hz : (impD l[i]).length = 4 := by simp
    have hc := hp l[i] (List.getElem_mem hi')
    generalize impD l[i] = XX at hgi hz hc
    have htz : List.take 4 XX = XX := List.take_of_length_le (by omega)
    simp -dsimp [I, Tt, hi, hi', hiN, hgi, hz, htz]
    refine pcall hc ?_
    cases e : q l[i] with
    | true =>
      simp -dsimp [I, Tt]
      exact pcq' (by rw [findI_hit hi' e hno])
    | false =>
      simp -dsimp [I, Tt, wi]
      refine rnd (i + 1) (by omega) (by simp [I]) ⟨rfl, rfl, by omega, fun x hx => ?_⟩
      rw [List.take_succ_eq_append_getElem hi'] at hx
      rcases List.mem_append.1 hx with hx | hx
      · exact hno x hx
      · simp at hx; rw [hx]; exact e
  · have : i = l.length := by omega
    subst this
    rw [List.take_length] at hno
    simp -dsimp [I, Tt, hi]
    exact pcq' (by rw [findI_no hno])
theorem cHasUI {l : List (Imp)} {q : Imp → Bool} {fp : FuncId} {cs : List D} (hcs : List.length cs ≤ 3) (hp : ∀ x ∈ l, Pc Tryz.prog fp (.agg (impD x) :: cs) (Tt (q x))) (hlen : l.length ≤ 9223372036854775807) :
    Pc Tryz.prog 41 [.sl 4 (l.map impD), .func (.func fp) [] cs] (Tt (l.any q)) := by
  refine pc_of (pur_T _) (fun m n => ?_)
  have hc := cIdxUI hcs hp hlen
  generalize l.map impD = EL at hc
  refine acalls_vc [0, 1, 4] Tryz.func41 Tryz.ntmps41 (by kernel_rfl) rfl rfl (by simp) ?_
  simp -dsimp
  refine pcall hc ?_
  have h := findI_any q l
  cases e : l.any q with
  | true =>
    have : 0 ≤ findI q l := h.2 e
    simp -dsimp [I, Tt, this]
    exact pcq' rfl
  | false =>
    have : ¬ 0 ≤ findI q l := fun h' => by rw [h.1 h'] at e; cases e
    simp -dsimp [I, Tt, this]
    exact pcq' rfl
theorem cIdxUL {l : List (Ln)} {q : Ln → Bool} {fp : FuncId} {cs : List D} (hcs : List.length cs ≤ 3) (hp : ∀ x ∈ l, Pc Tryz.prog fp (.agg (lnD x) :: cs) (Tt (q x))) (hlen : l.length ≤ 9223372036854775807) :
    Pc Tryz.prog 80 [.sl 10 (l.map lnD), .func (.func fp) [] cs] (I (findI q l)) := by
  refine pc_of (pur_I _) (fun m n => ?_)
  have hL2 : (l.map lnD).length = l.length := by simp
  have hG2 : ∀ i (h : i < l.length), (l.map lnD)[i]? = some (lnD l[i]) := fun i h => by simp [h]
  generalize l.map lnD = EL at hL2 hG2
  refine acalls_vc [0, 1, 4, 5, 7, 8, 9, 16] Tryz.func80 Tryz.ntmps80 (by kernel_rfl) rfl rfl (by simp) ?_
  simp -dsimp [hL2, I]
  refine vloop_as (β := Nat) (fun i => [(0, .sl 10 EL), (1, .func (.func fp) [] cs), (7, I l.length), (8, I i)]) (fun i m2 n2 => m2 = m ∧ n2 = n ∧ i ≤ l.length ∧ ∀ x ∈ l.take i, q x = false) (fun i => l.length - i) 0 (by simp [I]) ⟨rfl, rfl, by omega, by simp⟩ ?_
  rintro i m2 n2 ⟨rfl, rfl, le, hno⟩
  by_cases hi : (i : Int) < l.length
  · have hi' : i < l.length := by omega
    have wi : IntKind.i64.wrap ((i : Int) + 1) = (i : Int) + 1 := wrap_i64 (by omega) (by omega)
    have hiN : i < EL.length := by omega
    have hgi : EL[i] = lnD l[i] := get_opt (hG2 i hi') hiN
    have hz : (lnD l[i]).length = 10 := by simp
    have hc := hp l[i] (List.getElem_mem hi')
    generalize lnD l[i] = XX at hgi hz hc
    have htz : List.take 10 XX = XX := List.take_of_length_le (by omega)
    simp -dsimp [I, Tt, hi, hi', hiN, hgi, hz, htz]
    refine pcall hc ?_
    cases e : q l[i] with
    | true =>
      simp -dsimp [I, Tt]
      exact pcq' (by rw [findI_hit hi' e hno])
    | false =>
      simp -dsimp [I, Tt, wi]
      refine rnd (i + 1) (by omega) (by simp [I]) ⟨rfl, rfl, by omega, fun x hx => ?_⟩
      rw [List.take_succ_eq_append_getElem hi'] at hx
      rcases List.mem_append.1 hx with hx | hx
      · exact hno x hx
      · simp at hx; rw [hx]; exact e
  · have : i = l.length := by omega
    subst this
    rw [List.take_length] at hno
    simp -dsimp [I, Tt, hi]
    exact pcq' (by rw [findI_no hno])
theorem cHasUL {l : List (Ln)} {q : Ln → Bool} {fp : FuncId} {cs : List D} (hcs : List.length cs ≤ 3) (hp : ∀ x ∈ l, Pc Tryz.prog fp (.agg (lnD x) :: cs) (Tt (q x))) (hlen : l.length ≤ 9223372036854775807) :
    Pc Tryz.prog 42 [.sl 10 (l.map lnD), .func (.func fp) [] cs] (Tt (l.any q)) := by
  refine pc_of (pur_T _) (fun m n => ?_)
  have hc := cIdxUL hcs hp hlen
  generalize l.map lnD = EL at hc
  refine acalls_vc [0, 1, 4] Tryz.func42 Tryz.ntmps42 (by kernel_rfl) rfl rfl (by simp) ?_
  simp -dsimp
  refine pcall hc ?_
  have h := findI_any q l
  cases e : l.any q with
  | true =>
    have : 0 ≤ findI q l := h.2 e
    simp -dsimp [I, Tt, this]
    exact pcq' rfl
  | false =>
    have : ¬ 0 ≤ findI q l := fun h' => by rw [h.1 h'] at e; cases e
    simp -dsimp [I, Tt, this]
    exact pcq' rfl
theorem any_not {α : Type} (p : α → Bool) (l : List α) : (l.any fun x => !p x) = !l.all p := by
  induction l with
  | nil => rfl
  | cons x l ih => simp [List.any_cons, List.all_cons, ih]
set_option maxHeartbeats 1000000 in
theorem cUMay {x : Us} (hx : UsW x) : Pc Tryz.prog 13 [.agg (usD x)] (Tt (mayU x)) := by
  obtain ⟨imps, lines⟩ := x
  obtain ⟨q1, q2, q3, q4⟩ := hx
  simp only at q1 q2 q3 q4
  refine pc_of (pur_T _) (fun m n => ?_)
  have fr : ∀ o j, j < n → (m.set n o) j = m j := fun o j hj => set_ne _ _ _ _ (by omega)
  have c1 := cHasUI (l := imps) (q := fun i => !impOkU i) (fp := 37) (cs := []) (by simp) (fun i hi => cUOdd1 (q3 i hi)) q1
  have c2 := cHasUL (l := lines) (q := fun d => !lnOk d) (fp := 39) (cs := []) (by simp) (fun d hd => cUOdd2 (q4 d hd)) q2
  rw [any_not] at c1 c2
  have hL1 : (imps.map impD).length = imps.length := by simp
  have hL2 : (lines.map lnD).length = lines.length := by simp
  simp only [usD, mayU]
  generalize imps.map impD = IL at hL1 c1
  generalize lines.map lnD = DL at hL2 c2
  refine acalls_vc [0, 1, 2, 3, 4] Tryz.func13 Tryz.ntmps13 (by kernel_rfl) rfl rfl (by simp) ?_
  by_cases h2 : (imps.length : Int) ≤ 20
  case neg =>
    have h2' : ¬ imps.length ≤ 20 := by omega
    simp -dsimp [I, S, Tt, hL1, hL2, h2, h2']
    exact pcq (by simp [Tt, h2']) (fr _)
  have h2' : imps.length ≤ 20 := by omega
  by_cases h3 : (lines.length : Int) ≤ 60
  case neg =>
    have h3' : ¬ lines.length ≤ 60 := by omega
    simp -dsimp [I, S, Tt, hL1, hL2, h2, h2', h3, h3']
    exact pcq (by simp [Tt, h3']) (fr _)
  have h3' : lines.length ≤ 60 := by omega
  simp -dsimp [I, S, Tt, hL1, hL2, h2, h2', h3, h3']
  refine pcall c1 ?_
  cases h4 : imps.all impOkU with
  | false =>
    simp -dsimp [I, S, Tt]
    exact pcq (by simp [Tt]) (fr _)
  | true =>
  simp -dsimp [I, S, Tt, hL1, hL2]
  refine pcall c2 ?_
  simp -dsimp [Tt]
  exact pcq (by simp [Tt, h2', h3']) (fr _)
end Go.Proofs.Mv.App
