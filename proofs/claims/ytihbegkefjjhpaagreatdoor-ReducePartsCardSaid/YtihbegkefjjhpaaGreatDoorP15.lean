/- A part of the proofs: machine, contracts, laws. No condition of its own. -/
import Derived.Test.YtihbegkefjjhpaaGreatDoorP14
import Derived.Test.YtihbegkefjjhpaaGreatDoorP01
import Derived.Test.YtihbegkefjjhpaaGreatDoorP06
set_option linter.unusedSimpArgs false
set_option linter.unusedVariables false
set_option linter.unusedSectionVars false
open Go Go.Proofs Go.Proofs.Mv.V
set_option maxRecDepth 10000
namespace Go.Proofs.Mv.App
def dfD [GI] (d : Df) : List D := S d.mod :: S d.name :: tmD d.term
@[simp] theorem dfD_len [GI] (d : Df) : (dfD d).length = 10 := by simp [dfD]
def valF (t : Tm) : Bool := mayTm t && cloT t [] && valT t
def fairF (l : List Df) (t : Tm) : Bool := mayTm t && cloT t [] && decide (l.length ≤ 40) && l.all fun d => valF d.term
theorem cValueW {t : Tm} (ht : TmW t) : Pc Tryz.prog 22 [.agg (tmD t)] (Tt (valF t)) := by
  refine pc_of (pur_T _) (fun m n => ?_)
  have hz : (tmD t).length = 8 := by simp
  have h1 := cClosedW ht
  have h2 := cDone ht
  unfold valF
  generalize tmD t = X at h1 h2 hz
  have hX : List.take 8 X = X := List.take_of_length_le (by omega)
  refine acalls_vc [0, 1, 2] Tryz.func22 Tryz.ntmps22 (by kernel_rfl) rfl rfl (by simp) ?_
  simp -dsimp [hz, hX]
  refine pcall h1 ?_
  cases hm : (mayTm t && cloT t []) with
  | false =>
    simp -dsimp [Tt]
    exact pcq rfl fun j hj => set_ne _ _ _ _ (by omega)
  | true =>
    simp -dsimp [Tt, hz, hX]
    refine pcall h2 ?_
    simp -dsimp [Tt]
    exact pcq rfl fun j hj => set_ne _ _ _ _ (by omega)
theorem cIdxDf {l : List (Df)} {q : Df → Bool} {fp : FuncId} {cs : List D} (hcs : List.length cs ≤ 3) (hp : ∀ x ∈ l, Pc Tryz.prog fp (.agg (dfD x) :: cs) (Tt (q x))) (hlen : l.length ≤ 9223372036854775807) :
    Pc Tryz.prog 128 [.sl 10 (l.map dfD), .func (.func fp) [] cs] (I (findI q l)) := by
  refine pc_of (pur_I _) (fun m n => ?_)
  have hL2 : (l.map dfD).length = l.length := by simp
  have hG2 : ∀ i (h : i < l.length), (l.map dfD)[i]? = some (dfD l[i]) := fun i h => by simp [h]
  generalize l.map dfD = EL at hL2 hG2
  refine acalls_vc [0, 1, 4, 5, 7, 8, 9, 16] Tryz.func128 Tryz.ntmps128 (by kernel_rfl) rfl rfl (by simp) ?_
  simp -dsimp [hL2, I]
  refine vloop_as (β := Nat) (fun i => [(0, .sl 10 EL), (1, .func (.func fp) [] cs), (7, I l.length), (8, I i)]) (fun i m2 n2 => m2 = m ∧ n2 = n ∧ i ≤ l.length ∧ ∀ x ∈ l.take i, q x = false) (fun i => l.length - i) 0 (by simp [I]) ⟨rfl, rfl, by omega, by simp⟩ ?_
  rintro i m2 n2 ⟨rfl, rfl, le, hno⟩
  by_cases hi : (i : Int) < l.length
  · have hi' : i < l.length := by omega
    have wi : IntKind.i64.wrap ((i : Int) + 1) = (i : Int) + 1 := wrap_i64 (by omega) (by omega)
    have hiN : i < EL.length := by omega
    have hgi : EL[i] = dfD l[i] := get_opt (hG2 i hi') hiN
    have hz : (dfD l[i]).length = 10 := by simp
    have hc := hp l[i] (List.getElem_mem hi')
    generalize dfD l[i] = XX at hgi hz hc
    have htz : List.take 10 XX = XX := List.take_of_length_le (by omega)
    simp -dsimp [I, Tt, hi, hi', hiN, hgi, hz, htz]
    refine pcall hc ?_
    cases e : q l[i] with
    | true =>
      simp -dsimp [I, Tt]
      exact pcq' (by rw [findI_hit hi' e hno])
    | false =>
      simp -dsimp [I, Tt, wi]
      refine rnd (i + 1) (by omega) (by simp [I]) ⟨rfl, rfl, by omega, fun x hx => ?_⟩
      rw [List.take_succ_eq_append_getElem hi'] at hx
      rcases List.mem_append.1 hx with hx | hx
      · exact hno x hx
      · simp at hx; rw [hx]; exact e
  · have : i = l.length := by omega
    subst this
    rw [List.take_length] at hno
    simp -dsimp [I, Tt, hi]
    exact pcq' (by rw [findI_no hno])
theorem cHasDf {l : List (Df)} {q : Df → Bool} {fp : FuncId} {cs : List D} (hcs : List.length cs ≤ 3) (hp : ∀ x ∈ l, Pc Tryz.prog fp (.agg (dfD x) :: cs) (Tt (q x))) (hlen : l.length ≤ 9223372036854775807) :
    Pc Tryz.prog 80 [.sl 10 (l.map dfD), .func (.func fp) [] cs] (Tt (l.any q)) := by
  refine pc_of (pur_T _) (fun m n => ?_)
  have hc := cIdxDf hcs hp hlen
  generalize l.map dfD = EL at hc
  refine acalls_vc [0, 1, 4] Tryz.func80 Tryz.ntmps80 (by kernel_rfl) rfl rfl (by simp) ?_
  simp -dsimp
  refine pcall hc ?_
  have h := findI_any q l
  cases e : l.any q with
  | true =>
    have : 0 ≤ findI q l := h.2 e
    simp -dsimp [I, Tt, this]
    exact pcq' rfl
  | false =>
    have : ¬ 0 ≤ findI q l := fun h' => by rw [h.1 h'] at e; cases e
    simp -dsimp [I, Tt, this]
    exact pcq' rfl
theorem cFair1 {d : Df} (hd : TmW d.term) : Pc Tryz.prog 79 [.agg (dfD d)] (Tt (!valF d.term)) := by
  refine pc_of (pur_T _) (fun m n => ?_)
  have h1 := cValueW hd
  have hz : (tmD d.term).length = 8 := by simp
  simp only [dfD]
  generalize tmD d.term = X at h1 hz
  have hX : List.take 8 X = X := List.take_of_length_le (by omega)
  refine acalls_vc [0, 1, 2] Tryz.func79 Tryz.ntmps79 (by kernel_rfl) rfl rfl (by simp) ?_
  simp -dsimp [hz, hX]
  refine pcall h1 ?_
  simp -dsimp [Tt]
  exact pcq rfl fun j hj => set_ne _ _ _ _ (by omega)
theorem cFairW {l : List Df} {t : Tm} (hl : l.length ≤ 9223372036854775807) (hd : ∀ d ∈ l, TmW d.term) (ht : TmW t) : Pc Tryz.prog 47 [.sl 10 (l.map dfD), .agg (tmD t)] (Tt (fairF l t)) := by
  refine pc_of (pur_T _) (fun m n => ?_)
  have hz : (tmD t).length = 8 := by simp
  have h1 := cClosedW ht
  have h2 := cHasDf (l := l) (q := fun d => !valF d.term) (fp := 79) (cs := []) (by simp) (fun x hx => cFair1 (hd x hx)) hl
  have hll : (l.map dfD).length = l.length := by simp
  unfold fairF
  generalize tmD t = X at h1 hz
  generalize l.map dfD = L at h2 hll
  have hX : List.take 8 X = X := List.take_of_length_le (by omega)
  refine acalls_vc [0, 1, 3, 4, 5] Tryz.func47 Tryz.ntmps47 (by kernel_rfl) rfl rfl (by simp) ?_
  simp -dsimp [hz, hX, hll]
  refine pcall h1 ?_
  cases hm : (mayTm t && cloT t []) with
  | false =>
    simp -dsimp [Tt]
    exact pcq rfl fun j hj => set_ne _ _ _ _ (by omega)
  | true =>
    by_cases hle : l.length ≤ 40
    · have hle' : (l.length : Int) ≤ 40 := by omega
      simp -dsimp [Tt, hz, hX, hll, hle, hle']
      refine pcall h2 ?_
      simp -dsimp [Tt]
      exact pcq (by simp [Tt, hle, List.not_any_eq_all_not]) fun j hj => set_ne _ _ _ _ (by omega)
    · have hle' : ¬ (l.length : Int) ≤ 40 := by omega
      simp -dsimp [Tt, hz, hX, hll, hle, hle']
      exact pcq (by simp [Tt, hle]) fun j hj => set_ne _ _ _ _ (by omega)
end Go.Proofs.Mv.App
open Go Go.Proofs Go.Proofs.Mv.V
set_option maxRecDepth 10000
namespace Go.Proofs.Mv.App
def bndD [GI] (b : Bnd) : List D := S b.1 :: tmD b.2
@[simp] theorem bndD_len [GI] (b : Bnd) : (bndD b).length = 9 := by simp [bndD]
theorem pur_bnd [GI] (b : Bnd) : ∀ x ∈ bndD b, Pur x := by
  intro x hx
  simp only [bndD, List.mem_cons] at hx
  rcases hx with rfl | h
  · exact pur_S _
  · exact pur_tm _ x h
theorem pur_bnds [GI] (l : List Bnd) : ∀ e ∈ l.map bndD, ∀ d ∈ e, Pur d := by
  intro e he d hd
  obtain ⟨x, _, rfl⟩ := List.mem_map.1 he
  exact pur_bnd x d hd
def inP (k : Int) (names vars : Nms) (l : List Bnd) (i : Nat) : List Bnd := if k = 8 then wout l names else if k = 12 ∧ 0 < i then wout l [vars.getD (i - 1) []] else l
theorem putTs_map : ∀ (ts : List Tm) (l : List Bnd), putTs ts l = ts.map fun t => putT t l
  | [], _ => rfl
  | t :: ts, l => by simp only [putTs, putTs_map ts l, List.map_cons]
theorem putB_range : ∀ (ts : List Tm) (vs : Nms) (l : List Bnd), ts.length = vs.length → putB ts vs l = (List.range ts.length).map fun i => putT (ts.getD i Tm0) (wout l [vs.getD i []])
  | [], _, _, _ => by simp only [putB]; rfl
  | t :: ts, [], _, h => by simp at h
  | t :: ts, v :: vs, l, h => by
    simp only [putB, putB_range ts vs l (by simpa using h), List.length_cons, List.range_succ_eq_map, List.map_cons, List.map_map]
    simp [Function.comp_def]
theorem map_range_get (ts : List Tm) (f : Tm → Tm) : (ts.map f) = (List.range ts.length).map fun i => f (ts.getD i Tm0) := by
  apply List.ext_getElem
  · simp
  · intro i h1 h2
    have : i < ts.length := by simpa using h1
    simp [this]
theorem putT_eq {k N : Int} {mod nm : List UInt8} {names vars : Nms} {types : List Ty} {subs : List Tm} {l : List Bnd} (k3 : k ≠ 3) (hv : k = 12 → subs.length = vars.length + 1) :
    putT (.mk k N mod nm names vars types subs) l = .mk k N mod nm names vars types ((List.range subs.length).map fun i => putT (subs.getD i Tm0) (inP k names vars l i)) := by
  simp only [putT, if_neg k3, inP]
  by_cases k8 : k = 8
  · simp only [if_pos k8, putTs_map]
    rw [map_range_get]
  by_cases k12 : k = 12
  · subst k12
    simp only [if_neg k8, if_true, true_and]
    have hv := hv rfl
    cases subs with
    | nil => simp at hv
    | cons s ss =>
      simp only [List.length_cons] at hv
      simp only [putC, putB_range ss vars l (by omega), List.length_cons, List.range_succ_eq_map, List.map_cons, List.map_map]
      simp [Function.comp_def]
  · simp only [if_neg k8, if_neg k12, putTs_map, k12, false_and, if_false]
    rw [map_range_get]
theorem cIdxBndA {l : List (Bnd)} {q : Bnd → Bool} {fp : FuncId} {cs : List D} {m : Mem} {n : Nat} (hcs : List.length cs ≤ 3) (hp : ∀ x ∈ l, PcAt Tryz.prog fp (.agg (bndD x) :: cs) (Tt (q x)) m n) (hlen : l.length ≤ 9223372036854775807) :
    PcAt Tryz.prog 192 [.sl 9 (l.map bndD), .func (.func fp) [] cs] (I (findI q l)) m n := by
  refine pcat_of (pur_I _) ?_
  have hL2 : (l.map bndD).length = l.length := by simp
  have hG2 : ∀ i (h : i < l.length), (l.map bndD)[i]? = some (bndD l[i]) := fun i h => by simp [h]
  generalize l.map bndD = EL at hL2 hG2
  refine acalls_vc [0, 1, 4, 5, 7, 8, 9, 16] Tryz.func192 Tryz.ntmps192 (by kernel_rfl) rfl rfl (by simp) ?_
  simp -dsimp [hL2, I]
  refine vloop_as (β := Nat) (fun i => [(0, .sl 9 EL), (1, .func (.func fp) [] cs), (7, I l.length), (8, I i)]) (fun i m2 n2 => m2 = m ∧ n2 = n ∧ i ≤ l.length ∧ ∀ x ∈ l.take i, q x = false) (fun i => l.length - i) 0 (by simp [I]) ⟨rfl, rfl, by omega, by simp⟩ ?_
  rintro i m2 n2 ⟨rfl, rfl, le, hno⟩
  by_cases hi : (i : Int) < l.length
  · have hi' : i < l.length := by omega
    have wi : IntKind.i64.wrap ((i : Int) + 1) = (i : Int) + 1 := wrap_i64 (by omega) (by omega)
    have hiN : i < EL.length := by omega
    have hgi : EL[i] = bndD l[i] := get_opt (hG2 i hi') hiN
    have hz : (bndD l[i]).length = 9 := by simp
    have hc := hp l[i] (List.getElem_mem hi')
    generalize bndD l[i] = XX at hgi hz hc
    have htz : List.take 9 XX = XX := List.take_of_length_le (by omega)
    simp -dsimp [I, Tt, hi, hi', hiN, hgi, hz, htz]
    refine pcallAt hc ?_
    cases e : q l[i] with
    | true =>
      simp -dsimp [I, Tt]
      exact pcq' (by rw [findI_hit hi' e hno])
    | false =>
      simp -dsimp [I, Tt, wi]
      refine rnd (i + 1) (by omega) (by simp [I]) ⟨rfl, rfl, by omega, fun x hx => ?_⟩
      rw [List.take_succ_eq_append_getElem hi'] at hx
      rcases List.mem_append.1 hx with hx | hx
      · exact hno x hx
      · simp at hx; rw [hx]; exact e
  · have : i = l.length := by omega
    subst this
    rw [List.take_length] at hno
    simp -dsimp [I, Tt, hi]
    exact pcq' (by rw [findI_no hno])
theorem cPut1 {b : Bnd} {o0 o1 o2 o4 o5 o6 o7 : D} {nm : List UInt8} {k : Nat} {m : Mem} {n : Nat} (hk : k < n) (hm : m k = some ⟨8, [[o0, o1, o2, S nm, o4, o5, o6, o7]], 0⟩) : PcAt Tryz.prog 193 [.agg (bndD b), .ptr k 0 0 0] (Tt (decide (b.1 = nm))) m n := by
  refine pcat_of (pur_T _) ?_
  have kn : k ≠ n := by omega
  have h8 : (tmD b.2).length = 8 := by simp
  simp only [bndD]
  generalize tmD b.2 = X at h8
  refine acalls_vc [0, 1, 2, 3] Tryz.func193 Tryz.ntmps193 (by kernel_rfl) rfl rfl (by simp) ?_
  simp -dsimp [hm, set_ne, kn, h8, S]
  refine pcq ?_ fun j hj => set_ne _ _ _ _ (by omega)
  simp only [Tt]
  rw [show (b.1 == nm) = decide (b.1 = nm) by rw [Bool.eq_iff_iff]; simp]
end Go.Proofs.Mv.App
open Go Go.Proofs Go.Proofs.Mv.V
set_option maxRecDepth 10000
namespace Go.Proofs.Mv.App
def WoutC : Prop := ∀ (l : List Bnd) (names : Nms), l.length ≤ 1000 → names.length ≤ 1000 → l ≠ [] → Pc Tryz.prog 194 [.sl 9 (l.map bndD), sl1 names] (.sl 9 ((wout l names).map bndD))
def zTo : V.Obj := ⟨8, [[.v (.int .i64 0), .v (.int .i64 0), .v (.string (ofL [])), .v (.string (ofL [])), .v (.slice none 0 0), .v (.slice none 0 0), .v (.slice none 0 0), .v (.slice none 0 0)]], 0⟩
theorem pubL_of [GI] {n : Nat} {m : Mem} : ∀ {l : List D}, (∀ d ∈ l, Pur d) → PubL n m l l
  | [], _ => .nil
  | d :: l, h => .cons (h d (by simp)).pub (pubL_of fun x hx => h x (by simp [hx]))
structure PtL [GI] (k N : Int) (mod nm : List UInt8) (NL VL YL SL : List (List D)) (names vars : Nms) (l : List Bnd) (subs : List Tm) (m : Mem) (n : Nat) (b : Nat × D) (m2 : Mem) (n2 : Nat) : Prop where
  o0 : m2 n = some ⟨8, [[I k, I N, S mod, S nm, .sl 1 NL, .sl 1 VL, .sl 7 YL, .sl 8 SL]], 0⟩
  o1 : m2 (n + 1) = some zTo
  o2 : m2 (n + 1 + 1) = some ⟨8, [[I k, I N, S mod, S nm, .sl 1 NL, .sl 1 VL, .sl 7 YL, b.2]], 0⟩
  fr : ∀ j, j < n → m2 j = m j
  nn : n + 3 ≤ n2
  le : b.1 ≤ subs.length
  ls : Lst m2 8 (((List.range b.1).map fun i => putT (subs.getD i Tm0) (inP k names vars l i)).map tmD) b.2
  kf : ∀ j, kof b.2 = some j → n + 3 ≤ j ∧ j < n2
theorem findI_find {nm : List UInt8} : ∀ {l : List Bnd}, (l.find? (fun b => decide (b.1 = nm)) = none ∧ findI (fun b => decide (b.1 = nm)) l = -1) ∨ ∃ (i : Nat) (h : i < l.length), findI (fun b : Bnd => decide (b.1 = nm)) l = i ∧ l.find? (fun b => decide (b.1 = nm)) = some l[i]
  | [] => .inl ⟨rfl, by simp [findI]⟩
  | x :: l => by
    by_cases hx : x.1 = nm
    · exact .inr ⟨0, by simp, by simp [findI, hx], by simp [hx]⟩
    rcases findI_find (l := l) (nm := nm) with ⟨h1, h2⟩ | ⟨i, hi, h1, h2⟩
    · refine .inl ⟨?_, ?_⟩
      · rw [List.find?_cons_of_neg (by simpa using hx)]; exact h1
      · simp [findI, hx, h2]
    · refine .inr ⟨i + 1, by simpa using hi, ?_, ?_⟩
      · simp [findI, hx, h1]
      · rw [List.find?_cons_of_neg (by simpa using hx)]; simpa using h2
set_option maxHeartbeats 4000000 in
theorem cPutT (hwo : WoutC) {t : Tm} (ht : TmW t) : ∀ {l : List Bnd}, allTm t = true → l.length ≤ 1000 → Pc Tryz.prog 165 [.agg (tmD t), .sl 9 (l.map bndD)] (.agg (tmD (putT t l))) := by
  induction ht with
  | mk k N mod nm names vars types subs l1 l2 l3 l4 l5 l6 l7 l8 l9 l10 ih =>
  intro l ha hb
  refine pc_pub (fun m n => ?_)
  have has : ∀ s ∈ subs, allTm s = true := by
    simp only [allTm, Bool.and_eq_true, allTms_eq, List.all_eq_true] at ha
    exact ha.2
  have hsp : shapeTm (.mk k N mod nm names vars types subs) = true := by
    simp only [allTm, Bool.and_eq_true] at ha; exact ha.1
  obtain ⟨kk, sm⟩ := shapeTm_parts hsp
  have ih' : ∀ s ∈ subs, ∀ l2 : List Bnd, l2.length ≤ 1000 → Pc Tryz.prog 165 [.agg (tmD s), .sl 9 (l2.map bndD)] (.agg (tmD (putT s l2))) := fun s hs l2 h => ih s hs (has s hs) h
  have hpt := pur_tm (.mk k N mod nm names vars types subs)
  have nn1 : n ≠ n + 1 := by omega
  have n1n : n + 1 ≠ n := by omega
  have hLL : (l.map bndD).length = l.length := by simp
  by_cases hl0 : l = []
  · subst hl0
    rw [putT_nil]
    have h8 : (tmD (.mk k N mod nm names vars types subs)).length = 8 := by simp
    generalize tmD (.mk k N mod nm names vars types subs) = X at hpt h8
    have hX : List.take 8 X = X := List.take_of_length_le (by omega)
    refine acalls_vcC [0, 1, 2, 4, 5, 6, 7, 8, 9, 12, 16, 21, 31, 32, 33, 34, 39, 47] Tryz.func165 Tryz.ntmps165 (by kernel_rfl) rfl rfl (by simp) ?_
    simp -dsimp [h8, hX, set_ne, nn1, n1n]
    exact pcp (.agg (pubL_of hpt)) fun j hj => by simp [set_ne, show j ≠ n by omega, show j ≠ n + 1 by omega]
  have hl0' : ¬ (l.length : Int) = 0 := by
    have := List.length_pos_iff.2 hl0
    omega
  have hl0b : ((l.length : Int) == 0) = false := by simpa using hl0'
  by_cases k3 : k = 3
  · subst k3
    have hc := fun (M : Mem) (Nx : Nat) (h1 : n < Nx) (h2 : M n = some ⟨8, [tmD (.mk 3 N mod nm names vars types subs)], 0⟩) => cIdxBndA (l := l) (q := fun b => decide (b.1 = nm)) (fp := 193) (cs := [.ptr n 0 0 0]) (m := M) (n := Nx) (by simp) (fun x hx => by
      simp only [tmD] at h2
      exact cPut1 h1 h2) (by omega)
    have hLG : ∀ i (h : i < l.length), (l.map bndD)[i]? = some (bndD l[i]) := fun i h => by simp [h]
    have hv : putT (.mk 3 N mod nm names vars types subs) l = (match l.find? (fun b => decide (b.1 = nm)) with | some b => b.2 | none => .mk 3 N mod nm names vars types subs) := by simp only [putT, if_true]; cases l.find? (fun b => decide (b.1 = nm)) <;> rfl
    rw [hv]
    have h8 : (tmD (.mk 3 N mod nm names vars types subs)).length = 8 := by simp
    have hk0 : (tmD (.mk 3 N mod nm names vars types subs))[0]? = some (I 3) := by simp [tmD]
    have hcs := findI_find (l := l) (nm := nm)
    generalize findI (fun b => decide (b.1 = nm)) l = FI at hc hcs
    generalize hX0 : tmD (.mk 3 N mod nm names vars types subs) = X at hpt h8 hk0 hc
    have hX : List.take 8 X = X := List.take_of_length_le (by omega)
    have hk0' : X[0] = I 3 := get_opt hk0 (by omega)
    refine acalls_vcC [0, 1, 2, 4, 5, 6, 7, 8, 9, 12, 16, 21, 31, 32, 33, 34, 39, 47] Tryz.func165 Tryz.ntmps165 (by kernel_rfl) rfl rfl (by simp) ?_
    simp -dsimp [h8, hX, hLL, hl0b, hk0', I, set_ne, nn1, n1n]
    refine pcallAt (hc _ _ (by omega) (by simp [set_ne, nn1])) ?_
    rcases hcs with ⟨hf, he⟩ | ⟨i, hi, he, hf⟩
    · subst he
      rw [hf]
      simp -dsimp [h8, hX, I, set_ne, nn1, n1n]
      refine pcp (.agg (by rw [hX0]; exact pubL_of hpt)) fun j hj => by simp [set_ne, show j ≠ n by omega, show j ≠ n + 1 by omega]
    · subst he
      rw [hf]
      have hneg : ¬ (i : Int) < 0 := by omega
      have hiL : i < (l.map bndD).length := by simpa using hi
      have hgi : (l.map bndD)[i] = bndD l[i] := get_opt (hLG i hi) hiL
      have hz : (tmD l[i].2).length = 8 := by simp
      have hpY := pur_tm l[i].2
      simp only [bndD] at hgi
      simp only
      generalize tmD l[i].2 = Y at hgi hz hpY
      have hY : List.take 8 Y = Y := List.take_of_length_le (by omega)
      generalize l.map bndD = LL at hLL hiL hgi
      simp -dsimp [h8, hX, I, S, hneg, hiL, hgi, hz, hY, set_ne, nn1, n1n]
      exact pcp (.agg (pubL_of hpY)) fun j hj => by simp [set_ne, show j ≠ n by omega, show j ≠ n + 1 by omega]
  have b3 : (k == 3) = false := by simpa using k3
  have hvn : k = 12 → subs.length = vars.length + 1 := fun e => by
    have hcn := kk.cn
    subst e
    simp only [cntK] at hcn
    omega
  rw [putT_eq k3 hvn]
  have hsl21 := sm.ls
  have hSL : (subs.map tmD).length = subs.length := by simp
  have hSG : ∀ i (h : i < subs.length), (subs.map tmD)[i]? = some (tmD subs[i]) := fun i h => by simp [h]
  have hVL : (vars.map fun s => [S s]).length = vars.length := by simp
  have hVG : ∀ i (h : i < vars.length), (vars.map fun s => [S s])[i]? = some [S vars[i]] := fun i h => by simp [h]
  have hnl : names.length ≤ 1000 := by have := sm.ln; omega
  have hw8 := hwo l names hb hnl hl0
  have hwv := fun v => hwo l [v] hb (by simp) hl0
  have hpy : ∀ e ∈ types.map tyD, ∀ d ∈ e, Pur d := fun e he d hd => by
    obtain ⟨y, _, rfl⟩ := List.mem_map.1 he
    exact pur_ty y d hd
  have hpn : ∀ e ∈ names.map fun s => [S s], ∀ d ∈ e, Pur d := pur_ss
  have hpv : ∀ e ∈ vars.map fun s => [S s], ∀ d ∈ e, Pur d := pur_ss
  simp only [tmD, tmsD_eq, sl1, S] at hw8 hwv hpn hpv hVG hVL ⊢
  generalize hNM : (names.map fun s => [D.v (.string (ofL s))]) = NM at hw8 hpn ⊢
  generalize hVV : (vars.map fun s => [D.v (.string (ofL s))]) = VL at hVL hVG hpv ⊢
  generalize hSS : (subs.map tmD) = SL at hSL hSG ⊢
  generalize hYY : types.map tyD = YL at hpy ⊢
  refine acalls_vcC [0, 1, 2, 4, 5, 6, 7, 8, 9, 12, 16, 21, 31, 32, 33, 34, 39, 47] Tryz.func165 Tryz.ntmps165 (by kernel_rfl) rfl rfl (by simp) ?_
  simp -dsimp [I, S, b3, hl0b, hLL, hSL, set_ne, nn1, n1n, show n ≠ n + 1 + 1 by omega, show n + 1 ≠ n + 1 + 1 by omega]
  refine vloop_as (β := Nat × D) (fun b => [(1, .sl 9 (l.map bndD)), (2, .ptr n 0 0 0), (4, .ptr (n + 1) 0 0 0), (6, .ptr (n + 1 + 1) 0 0 0), (31, .sl 8 SL), (32, I subs.length), (33, I b.1)]) (PtL k N mod nm NM VL YL SL names vars l subs m n) (fun b => subs.length - b.1) (0, .v (.slice none 0 0)) (by simp [I]) ⟨by simp [set_ne, I, S, show n ≠ n + 1 + 1 by omega], by simp [set_ne, zTo], by simp [I, S], fun j hj => by simp [set_ne, show j ≠ n by omega, show j ≠ n + 1 by omega, show j ≠ n + 1 + 1 by omega], by omega, by omega, by simp; exact .nil, by simp [kof]⟩ ?_
  rintro ⟨i, dS⟩ m2 n2 ⟨o0, o1, o2, hfr, hn2, le, hls, hkf⟩
  simp only at o0 o1 o2 le hls hkf
  by_cases hi : (i : Int) < subs.length
  · have hi' : i < subs.length := by omega
    have wi : IntKind.i64.wrap ((i : Int) + 1) = (i : Int) + 1 := wrap_i64 (by omega) (by omega)
    have hiS : i < SL.length := by omega
    have hgs : SL[i] = tmD subs[i] := get_opt (hSG i hi') hiS
    have hIP : (inP k names vars l i).length ≤ 1000 := by
      unfold inP
      split
      · exact Nat.le_trans (List.length_filter_le _ _) hb
      · split
        · exact Nat.le_trans (List.length_filter_le _ _) hb
        · exact hb
    have hpc := ih' subs[i] (List.getElem_mem hi') _ hIP
    have hz : (tmD subs[i]).length = 8 := by simp
    generalize tmD subs[i] = X at hgs hz hpc
    have hX : List.take 8 X = X := List.take_of_length_le (by omega)
    have hr8 : (tmD (putT subs[i] (inP k names vars l i))).length = 8 := by simp
    have hprT := pur_tm (putT subs[i] (inP k names vars l i))
    have hgd : subs.getD i Tm0 = subs[i] := by simp [hi']
    have hrg : (((List.range (i + 1)).map fun i => putT (subs.getD i Tm0) (inP k names vars l i)).map tmD) = (((List.range i).map fun i => putT (subs.getD i Tm0) (inP k names vars l i)).map tmD) ++ [tmD (putT subs[i] (inP k names vars l i))] := by
      rw [List.range_succ, List.map_append, List.map_append, List.map_cons, List.map_nil, List.map_cons, List.map_nil, hgd]
    have hRLl : (((List.range i).map fun i => putT (subs.getD i Tm0) (inP k names vars l i)).map tmD).length = i := by simp
    generalize (((List.range i).map fun i => putT (subs.getD i Tm0) (inP k names vars l i)).map tmD) = RL at hls hrg hRLl
    by_cases k8 : k = 8
    · subst k8
      have hin : inP 8 names vars l i = wout l names := by simp [inP, k3]
      rw [hin] at hpc hr8 hprT hrg
      simp -dsimp [I, S, hi, hi', hiS, hgs, hz, hX, o0, o1, o2, zTo, set_ne, nn1, n1n, show n ≠ n2 by omega, show n + 1 ≠ n2 by omega, show n + 1 + 1 ≠ n2 by omega]
      refine pcall hw8 ?_
      simp -dsimp [I, S, o0, o1, o2, wi]
      refine vdraw_tree [0, 1, 0, 0, 12, 28, 63, 127, 255] (.rd 0 (.rd 1 (.rd 2 (.rd 3 (.wr (.cons 4 (.wr (.cons 5 (.wr (.cons 6 (.rd 7 (.wr (.cons 8 (.fin) (.nil)))) (.nil))) (.nil))) (.nil))))))) (by kernel_rfl) (by kernel_rfl) ?_
      simp -dsimp [I, S, hz, hX, o0, o1, o2, set_ne, show n ≠ n2 by omega, show n + 1 ≠ n2 by omega, show n + 1 + 1 ≠ n2 by omega]
      refine pcall hpc ?_
      refine ⟨fun _ _ _ => rfl, ?_⟩
      generalize tmD (putT subs[i] (wout l names)) = Y at hr8 hprT hrg
      have hY : List.take 8 Y = Y := List.take_of_length_le (by omega)
      simp -dsimp [I, S, hz, hX, hr8, hY, o0, o1, o2, set_ne, show n + 1 + 1 ≠ n2 by omega, show n + 1 + 1 ≠ n2 + 1 by omega, show n2 ≠ n2 + 1 by omega]
      refine ⟨?_, ?_⟩
      · rw [set_ne _ _ _ _ (by omega), set_ne _ _ _ _ (by omega)]
        exact o2
      have hRl : RL.length = i := hRLl
      refine b4_append (es := RL) ?_ ?_ trivial trivial (by omega) (by simp [hRl]; omega) ?_
      · exact hls.frame fun j hj => by have := hkf j hj; simp [set_ne, show j ≠ n2 by omega, show j ≠ n2 + 1 by omega]
      · exact fun j hj => by have := hkf j hj; omega
      intro da ma na a1 a2 a3 a4
      have hma : ∀ j, j < n + 3 → ma j = m2 j := fun j hj => by
        rw [a4 j (by omega) (fun e => by have := hkf j e; omega)]
        simp [set_ne, show j ≠ n2 by omega, show j ≠ n2 + 1 by omega]
      have ka : ∀ j, kof da = some j → n + 3 ≤ j ∧ j < na := fun j hj => by
        have := a3 j hj
        rcases this.2 with e | e
        · exact ⟨(hkf j e).1, this.1⟩
        · omega
      refine ⟨fun p hp _ => ?_, ?_⟩
      · simp only [List.mem_cons, List.not_mem_nil, or_false] at hp
        rcases hp with rfl | rfl
        · exact a4 _ (by dsimp only; omega) (fun e => by have := hkf _ e; dsimp only at this; omega)
        · exact a4 _ (by dsimp only; omega) (fun e => by have := hkf _ e; dsimp only at this; omega)
      have o2a : ma (n + 1 + 1) = _ := (hma _ (by omega)).trans o2
      simp -dsimp [I, S, o2a, wi]
      refine ⟨⟨(okD_lst a1).1, by rw [(okD_lst a1).2]; rfl⟩, ?_⟩
      refine rnd (i + 1, da) (by simp; omega) (by simp [I]) ⟨?_, ?_, ?_, ?_, ?_, ?_, ?_, ?_⟩
      · rw [set_ne _ _ _ _ (by omega), hma n (by omega)]
        exact o0
      · rw [set_ne _ _ _ _ (by omega), hma (n + 1) (by omega)]
        exact o1
      · simp [I, S, (okD_lst a1).2]
      · intro j hj
        rw [set_ne _ _ _ _ (by omega), hma j (by omega)]
        exact hfr j hj
      · omega
      · simp; omega
      · rw [hrg]
        exact a1.frame fun j hj => set_ne _ _ _ _ (by have := ka j hj; omega)
      · exact ka
    have b8 : (k == 8) = false := by simpa using k8
    by_cases k12 : k = 12
    · subst k12
      by_cases hi0 : 0 < i
      · have hi0' : (0 : Int) < (i : Int) := by omega
        have wm : IntKind.i64.wrap ((i : Int) - 1) = ((i - 1 : Nat) : Int) := by rw [wrap_i64 (by omega) (by omega)]; omega
        have hv := hvn rfl
        have hiV : i - 1 < VL.length := by omega
        have hgv : VL[i - 1] = [.v (.string (ofL (vars[i - 1]'(by omega))))] := get_opt (hVG (i - 1) (by omega)) hiV
        have hwc := hwv (vars[i - 1]'(by omega))
        have hin : inP 12 names vars l i = wout l [vars[i - 1]] := by simp [inP, hi0, show i - 1 < vars.length by omega]
        rw [hin] at hpc hr8 hprT hrg
        simp -dsimp [I, S, hi, hi', hiS, hgs, hz, hX, o0, o1, o2, zTo, hi0, hi0', wm, hiV, hgv, set_ne, nn1, n1n, show n ≠ n2 by omega, show n + 1 ≠ n2 by omega, show n + 1 + 1 ≠ n2 by omega]
        refine aCall_pubS (pre := [.sl 9 (l.map bndD)]) (post := []) (z := 1) (es := [[.v (.string (ofL vars[i - 1]))]]) ?_ (by simp; exact Pur.v _) (fun x hx => ?_) (by simp) ?_
        · exact .mk (es' := [[.v (.string (ofL vars[i - 1]))]]) (set_same _ _ _) (by simp) (by simp) (by simp)
        · simp only [List.mem_singleton] at hx
          subst hx
          exact Pur.sl (pur_bnds l)
        intro m3 hm3
        have hm3b : ∀ j, j < n2 → m3 j = m2 j := fun j hj => by
          rw [hm3 j (fun e => by simp [kof] at e; omega)]
          simp [set_ne, show j ≠ n2 by omega, show j ≠ n2 + 1 by omega]
        have x3 : m3 n2 = some ⟨8, [X], 0⟩ := by
          rw [hm3 n2 (fun e => by simp [kof] at e), set_ne _ _ _ _ (by omega), set_same]
        have p0 : m3 n = _ := (hm3b n (by omega)).trans o0
        have p2 : m3 (n + 1 + 1) = _ := (hm3b (n + 1 + 1) (by omega)).trans o2
        refine pcall hwc ?_
        simp -dsimp [I, S, p0, p2, x3, wi]
        refine vdraw_tree [0, 1, 0, 0, 12, 28, 63, 127, 255] (.rd 0 (.rd 1 (.rd 2 (.rd 3 (.wr (.cons 4 (.wr (.cons 5 (.wr (.cons 6 (.rd 7 (.wr (.cons 8 (.fin) (.nil)))) (.nil))) (.nil))) (.nil))))))) (by kernel_rfl) (by kernel_rfl) ?_
        simp -dsimp [I, S, hz, hX, p0, x3, p2, set_ne, show n ≠ n2 by omega, show n + 1 ≠ n2 by omega, show n + 1 + 1 ≠ n2 by omega]
        refine pcall hpc ?_
        refine ⟨fun _ _ _ => rfl, ?_⟩
        generalize tmD (putT subs[i] (wout l [vars[i - 1]])) = Y at hr8 hprT hrg
        have hY : List.take 8 Y = Y := List.take_of_length_le (by omega)
        simp -dsimp [I, S, hz, hX, hr8, hY, p0, x3, p2, set_ne, show n + 1 + 1 ≠ n2 by omega, show n + 1 + 1 ≠ n2 + 1 by omega, show n2 ≠ n2 + 1 by omega]
        refine ⟨?_, ?_⟩
        · first
          | exact p2
          | (rw [set_ne _ _ _ _ (by omega)]; exact p2)
        have hRl : RL.length = i := hRLl
        refine b4_append (es := RL) ?_ ?_ trivial trivial (by omega) (by simp [hRl]; omega) ?_
        · exact hls.frame fun j hj => by have := hkf j hj; first | exact hm3b j (by omega) | (rw [set_ne _ _ _ _ (by omega)]; exact hm3b j (by omega))
        · exact fun j hj => by have := hkf j hj; omega
        intro da ma na a1 a2 a3 a4
        have hma : ∀ j, j < n + 3 → ma j = m2 j := fun j hj => by
          rw [a4 j (by omega) (fun e => by have := hkf j e; omega)]
          first
          | exact hm3b j (by omega)
          | (rw [set_ne _ _ _ _ (by omega)]; exact hm3b j (by omega))
        have ka : ∀ j, kof da = some j → n + 3 ≤ j ∧ j < na := fun j hj => by
          have := a3 j hj
          rcases this.2 with e | e
          · exact ⟨(hkf j e).1, this.1⟩
          · omega
        refine ⟨fun p hp _ => ?_, ?_⟩
        · simp only [List.mem_cons, List.not_mem_nil, or_false] at hp
          rcases hp with rfl | rfl
          · exact a4 _ (by dsimp only; omega) (fun e => by have := hkf _ e; dsimp only at this; omega)
          · exact a4 _ (by dsimp only; omega) (fun e => by have := hkf _ e; dsimp only at this; omega)
        have o2a : ma (n + 1 + 1) = _ := (hma _ (by omega)).trans o2
        simp -dsimp [I, S, o2a, wi]
        refine ⟨⟨(okD_lst a1).1, by rw [(okD_lst a1).2]; rfl⟩, ?_⟩
        refine rnd (i + 1, da) (by simp; omega) (by simp [I]) ⟨?_, ?_, ?_, ?_, ?_, ?_, ?_, ?_⟩
        · rw [set_ne _ _ _ _ (by omega), hma n (by omega)]
          exact o0
        · rw [set_ne _ _ _ _ (by omega), hma (n + 1) (by omega)]
          exact o1
        · simp [I, S, (okD_lst a1).2]
        · intro j hj
          rw [set_ne _ _ _ _ (by omega), hma j (by omega)]
          exact hfr j hj
        · omega
        · simp; omega
        · rw [hrg]
          exact a1.frame fun j hj => set_ne _ _ _ _ (by have := ka j hj; omega)
        · exact ka
      · have hi0' : ¬ (0 : Int) < (i : Int) := by omega
        have hin : inP 12 names vars l i = l := by simp [inP, hi0]
        rw [hin] at hpc hr8 hprT hrg
        simp -dsimp [I, S, hi, hi', hiS, hgs, hz, hX, o0, o1, o2, zTo, hi0, hi0', set_ne, nn1, n1n, show n ≠ n2 by omega, show n + 1 ≠ n2 by omega, show n + 1 + 1 ≠ n2 by omega]
        refine vdraw_tree [0, 1, 0, 0, 12, 28, 63, 127, 255] (.rd 0 (.rd 1 (.rd 2 (.rd 3 (.wr (.cons 4 (.wr (.cons 5 (.wr (.cons 6 (.rd 7 (.wr (.cons 8 (.fin) (.nil)))) (.nil))) (.nil))) (.nil))))))) (by kernel_rfl) (by kernel_rfl) ?_
        simp -dsimp [I, S, hz, hX, o0, o1, o2, set_ne, show n ≠ n2 by omega, show n + 1 ≠ n2 by omega, show n + 1 + 1 ≠ n2 by omega]
        refine pcall hpc ?_
        refine ⟨fun _ _ _ => rfl, ?_⟩
        generalize tmD (putT subs[i] (l)) = Y at hr8 hprT hrg
        have hY : List.take 8 Y = Y := List.take_of_length_le (by omega)
        simp -dsimp [I, S, hz, hX, hr8, hY, o0, o1, o2, set_ne, show n + 1 + 1 ≠ n2 by omega, show n + 1 + 1 ≠ n2 + 1 by omega, show n2 ≠ n2 + 1 by omega]
        refine ⟨?_, ?_⟩
        · rw [set_ne _ _ _ _ (by omega), set_ne _ _ _ _ (by omega)]
          exact o2
        have hRl : RL.length = i := hRLl
        refine b4_append (es := RL) ?_ ?_ trivial trivial (by omega) (by simp [hRl]; omega) ?_
        · exact hls.frame fun j hj => by have := hkf j hj; simp [set_ne, show j ≠ n2 by omega, show j ≠ n2 + 1 by omega]
        · exact fun j hj => by have := hkf j hj; omega
        intro da ma na a1 a2 a3 a4
        have hma : ∀ j, j < n + 3 → ma j = m2 j := fun j hj => by
          rw [a4 j (by omega) (fun e => by have := hkf j e; omega)]
          simp [set_ne, show j ≠ n2 by omega, show j ≠ n2 + 1 by omega]
        have ka : ∀ j, kof da = some j → n + 3 ≤ j ∧ j < na := fun j hj => by
          have := a3 j hj
          rcases this.2 with e | e
          · exact ⟨(hkf j e).1, this.1⟩
          · omega
        refine ⟨fun p hp _ => ?_, ?_⟩
        · simp only [List.mem_cons, List.not_mem_nil, or_false] at hp
          rcases hp with rfl | rfl
          · exact a4 _ (by dsimp only; omega) (fun e => by have := hkf _ e; dsimp only at this; omega)
          · exact a4 _ (by dsimp only; omega) (fun e => by have := hkf _ e; dsimp only at this; omega)
        have o2a : ma (n + 1 + 1) = _ := (hma _ (by omega)).trans o2
        simp -dsimp [I, S, o2a, wi]
        refine ⟨⟨(okD_lst a1).1, by rw [(okD_lst a1).2]; rfl⟩, ?_⟩
        refine rnd (i + 1, da) (by simp; omega) (by simp [I]) ⟨?_, ?_, ?_, ?_, ?_, ?_, ?_, ?_⟩
        · rw [set_ne _ _ _ _ (by omega), hma n (by omega)]
          exact o0
        · rw [set_ne _ _ _ _ (by omega), hma (n + 1) (by omega)]
          exact o1
        · simp [I, S, (okD_lst a1).2]
        · intro j hj
          rw [set_ne _ _ _ _ (by omega), hma j (by omega)]
          exact hfr j hj
        · omega
        · simp; omega
        · rw [hrg]
          exact a1.frame fun j hj => set_ne _ _ _ _ (by have := ka j hj; omega)
        · exact ka
    have b12 : (k == 12) = false := by simpa using k12
    have hin : inP k names vars l i = l := by simp [inP, k8, k12]
    rw [hin] at hpc hr8 hprT hrg
    simp -dsimp [I, S, hi, hi', hiS, hgs, hz, hX, o0, o1, o2, zTo, b8, b12, set_ne, nn1, n1n, show n ≠ n2 by omega, show n + 1 ≠ n2 by omega, show n + 1 + 1 ≠ n2 by omega]
    refine vdraw_tree [0, 1, 0, 0, 12, 28, 63, 127, 255] (.rd 0 (.rd 1 (.rd 2 (.rd 3 (.wr (.cons 4 (.wr (.cons 5 (.wr (.cons 6 (.rd 7 (.wr (.cons 8 (.fin) (.nil)))) (.nil))) (.nil))) (.nil))))))) (by kernel_rfl) (by kernel_rfl) ?_
    simp -dsimp [I, S, hz, hX, o0, o1, o2, set_ne, show n ≠ n2 by omega, show n + 1 ≠ n2 by omega, show n + 1 + 1 ≠ n2 by omega]
    refine pcall hpc ?_
    refine ⟨fun _ _ _ => rfl, ?_⟩
    generalize tmD (putT subs[i] l) = Y at hr8 hprT hrg
    have hY : List.take 8 Y = Y := List.take_of_length_le (by omega)
    simp -dsimp [I, S, hz, hX, hr8, hY, o0, o1, o2, set_ne, show n + 1 + 1 ≠ n2 by omega, show n + 1 + 1 ≠ n2 + 1 by omega, show n2 ≠ n2 + 1 by omega]
    refine ⟨?_, ?_⟩
    · rw [set_ne _ _ _ _ (by omega), set_ne _ _ _ _ (by omega)]
      exact o2
    have hRl : RL.length = i := hRLl
    refine b4_append (es := RL) ?_ ?_ trivial trivial (by omega) (by simp [hRl]; omega) ?_
    · exact hls.frame fun j hj => by have := hkf j hj; simp [set_ne, show j ≠ n2 by omega, show j ≠ n2 + 1 by omega]
    · exact fun j hj => by have := hkf j hj; omega
    intro da ma na a1 a2 a3 a4
    have hma : ∀ j, j < n + 3 → ma j = m2 j := fun j hj => by
      rw [a4 j (by omega) (fun e => by have := hkf j e; omega)]
      simp [set_ne, show j ≠ n2 by omega, show j ≠ n2 + 1 by omega]
    have ka : ∀ j, kof da = some j → n + 3 ≤ j ∧ j < na := fun j hj => by
      have := a3 j hj
      rcases this.2 with e | e
      · exact ⟨(hkf j e).1, this.1⟩
      · omega
    refine ⟨fun p hp _ => ?_, ?_⟩
    · simp only [List.mem_cons, List.not_mem_nil, or_false] at hp
      rcases hp with rfl | rfl
      · exact a4 _ (by dsimp only; omega) (fun e => by have := hkf _ e; dsimp only at this; omega)
      · exact a4 _ (by dsimp only; omega) (fun e => by have := hkf _ e; dsimp only at this; omega)
    have o2a : ma (n + 1 + 1) = _ := (hma _ (by omega)).trans o2
    simp -dsimp [I, S, o2a, wi]
    refine ⟨⟨(okD_lst a1).1, by rw [(okD_lst a1).2]; rfl⟩, ?_⟩
    refine rnd (i + 1, da) (by simp; omega) (by simp [I]) ⟨?_, ?_, ?_, ?_, ?_, ?_, ?_, ?_⟩
    · rw [set_ne _ _ _ _ (by omega), hma n (by omega)]
      exact o0
    · rw [set_ne _ _ _ _ (by omega), hma (n + 1) (by omega)]
      exact o1
    · simp [I, S, (okD_lst a1).2]
    · intro j hj
      rw [set_ne _ _ _ _ (by omega), hma j (by omega)]
      exact hfr j hj
    · omega
    · simp; omega
    · rw [hrg]
      exact a1.frame fun j hj => set_ne _ _ _ _ (by have := ka j hj; omega)
    · exact ka
  · have e : i = subs.length := by omega
    subst e
    simp -dsimp [I, hi, o0, o1, o2, zTo, set_ne, nn1, n1n]
    simp only [List.map_map] at hls
    refine pcp ?_ fun j hj => by rw [set_ne _ _ _ _ (by omega)]; exact hfr j hj
    refine .agg (.cons (pur_I _).pub (.cons (pur_I _).pub (.cons (pur_S _).pub (.cons (pur_S _).pub (.cons (Pur.sl hpn).pub (.cons (Pur.sl hpv).pub (.cons (Pur.sl hpy).pub (.cons ?_ .nil))))))))
    refine .lstP (hls.frame fun j hj => set_ne _ _ _ _ (by have := hkf j hj; omega)) (fun j hj => by have := hkf j hj; omega) ?_
    intro e he d hd
    obtain ⟨i, _, rfl⟩ := List.mem_map.1 he
    exact pur_tm _ d hd
end Go.Proofs.Mv.App
open Go Go.Proofs Go.Proofs.Mv.V
set_option maxRecDepth 10000
namespace Go.Proofs.Mv.App
theorem cNext1 {t : Tm} (ht : TmW t) : Pc Tryz.prog 162 [.agg (tmD t)] (Tt (!valT t)) := by
  refine pc_of (pur_T _) (fun m n => ?_)
  have hz : (tmD t).length = 8 := by simp
  have h := cDone ht
  generalize tmD t = X at h hz
  have hX : List.take 8 X = X := List.take_of_length_le (by omega)
  refine acalls_vc [0, 1, 2] Tryz.func162 Tryz.ntmps162 (by kernel_rfl) rfl rfl (by simp) ?_
  simp -dsimp [hz, hX]
  refine pcall h ?_
  simp -dsimp [Tt]
  exact pcq rfl fun j hj => set_ne _ _ _ _ (by omega)
def nextL : Tm → List Tm
  | .mk k _ _ _ _ _ _ subs => if k = 8 then [] else if k = 11 ∨ k = 12 then subs.take 1 else subs
theorem cNextT {t : Tm} (ht : TmW t) (hs : ∀ k N mod nm names vars types subs, t = .mk k N mod nm names vars types subs → k = 11 ∨ k = 12 → 1 ≤ subs.length) : Pc Tryz.prog 129 [.agg (tmD t)] (I (findI (fun s => !valT s) (nextL t))) := by
  cases ht with
  | mk k N mod nm names vars types subs l1 l2 l3 l4 l5 l6 l7 l8 l9 l10 =>
  refine pc_of (pur_I _) (fun m n => ?_)
  have hc := fun (l : List Tm) (h : ∀ s ∈ l, s ∈ subs) (hl : l.length ≤ subs.length) => cIdxTm (l := l) (q := fun s => !valT s) (fp := 162) (cs := []) (by simp) (fun x hx => cNext1 (l10 x (h x hx))) (by omega)
  have hs := hs _ _ _ _ _ _ _ _ rfl
  have hSL : (subs.map tmD).length = subs.length := by simp
  have hS1 : (subs.map tmD).take 1 = (subs.take 1).map tmD := by simp
  simp only [tmD, tmsD_eq, nextL]
  by_cases k8 : k = 8
  · subst k8
    have hc := hc [] (by simp) (by simp)
    simp only [List.map_nil] at hc
    refine acalls_vc [0, 1, 2, 3, 7, 8, 13] Tryz.func129 Tryz.ntmps129 (by kernel_rfl) rfl rfl (by simp) ?_
    simp -dsimp [I, S]
    refine aCall_le (.cons (Le_nil 8) (.cons (Le.refl _) .nil)) ?_
    refine pcall hc ?_
    simp -dsimp [I]
    exact pcq rfl fun j hj => set_ne _ _ _ _ (by omega)
  have b8 : (k == 8) = false := by simpa using k8
  by_cases kx : k = 11 ∨ k = 12
  · have hc := hc (subs.take 1) (fun s h => List.mem_of_mem_take h) (by simp; omega)
    have h1 := hs kx
    rw [if_neg k8, if_pos kx]
    rw [← hS1] at hc
    generalize subs.map tmD = SL at hSL hc
    have h1' : 1 ≤ SL.length := by omega
    refine acalls_vc [0, 1, 2, 3, 7, 8, 13] Tryz.func129 Tryz.ntmps129 (by kernel_rfl) rfl rfl (by simp) ?_
    rcases kx with rfl | rfl
    · simp -dsimp [I, S, h1', hSL]
      refine ⟨by omega, ?_⟩
      refine pcall hc ?_
      simp -dsimp [I]
      exact pcq rfl fun j hj => set_ne _ _ _ _ (by omega)
    · simp -dsimp [I, S, h1', hSL]
      refine ⟨by omega, ?_⟩
      refine pcall hc ?_
      simp -dsimp [I]
      exact pcq rfl fun j hj => set_ne _ _ _ _ (by omega)
  · have hc := hc subs (fun _ h => h) (Nat.le_refl _)
    have b11 : (k == 11) = false := by simp at kx ⊢; exact kx.1
    have b12 : (k == 12) = false := by simp at kx ⊢; exact kx.2
    rw [if_neg k8, if_neg kx]
    generalize subs.map tmD = SL at hSL hc
    refine acalls_vc [0, 1, 2, 3, 7, 8, 13] Tryz.func129 Tryz.ntmps129 (by kernel_rfl) rfl rfl (by simp) ?_
    simp -dsimp [I, S, b8, b11, b12]
    refine pcall hc ?_
    simp -dsimp [I]
    exact pcq rfl fun j hj => set_ne _ _ _ _ (by omega)
end Go.Proofs.Mv.App
open Go Go.Proofs Go.Proofs.Mv.V
namespace Go.Proofs.Mv.App
inductive TmF : Tm → Prop where
  | mk (kind num : Int) (mod name : List UInt8) (names vars : List (List UInt8)) (types : List Ty) (subs : List Tm) (h1 : ∀ y ∈ types, manyT y ≤ 1000000) (h2 : ∀ t ∈ subs, TmF t) : TmF (.mk kind num mod name names vars types subs)
end Go.Proofs.Mv.App
