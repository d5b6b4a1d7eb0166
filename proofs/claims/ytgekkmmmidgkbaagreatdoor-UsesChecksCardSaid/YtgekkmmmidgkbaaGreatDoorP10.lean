/- A part of the proofs of the seat YtgekkmmmidgkbaaGreatDoor: the abstract machine, the contracts of the functions, the laws. No condition of its own. -/
import Derived.Test.YtgekkmmmidgkbaaGreatDoorP09
import Derived.Test.YtgekkmmmidgkbaaGreatDoorMvEvP
import Derived.Test.YtgekkmmmidgkbaaGreatDoorFact
import Derived.KernelRfl
set_option linter.unusedSimpArgs false
set_option linter.unusedVariables false
set_option linter.unusedSectionVars false
open Go Go.Proofs Go.Proofs.Mv.V
set_option maxRecDepth 10000
namespace Go.Proofs.Mv.App
structure DcX where
  kind : Int
  name : List UInt8
  typ : Ty
def DcX0 : DcX := ⟨0, [], Ty0⟩
variable [GI]
def dcD (d : DcX) : List D := I d.kind :: S d.name :: tyD d.typ
@[simp] theorem dcD_len (d : DcX) : (dcD d).length = 9 := by simp [dcD, tyD_len]
/-- What types are expanded in: the object. -/
def exC (md : List UInt8) (imps : List Imp) (pkg : List UInt8) (major : Int) (env : List Ifc) (left : Int) (large : Bool) : List D :=
  [S md, .sl 4 (imps.map impD), .sl 9 [], S pkg, I major, .sl 5 (env.map ifD), I left, Tt large]
def exO (md : List UInt8) (imps : List Imp) (pkg : List UInt8) (major : Int) (env : List Ifc) (left : Int) (large : Bool) : V.Obj := ⟨8, [exC md imps pkg major env left large], 0⟩
theorem cIdxDcA {l : List (DcX)} {q : DcX → Bool} {fp : FuncId} {cs : List D} {m : Mem} {n : Nat} (hcs : List.length cs ≤ 3) (hp : ∀ x ∈ l, PcAt Tryz.prog fp (.agg (dcD x) :: cs) (Tt (q x)) m n) (hlen : l.length ≤ 9223372036854775807) :
    PcAt Tryz.prog 167 [.sl 9 (l.map dcD), .func (.func fp) [] cs] (I (findI q l)) m n := by
  refine pcat_of (pur_I _) ?_
  have hL2 : (l.map dcD).length = l.length := by simp
  have hG2 : ∀ i (h : i < l.length), (l.map dcD)[i]? = some (dcD l[i]) := fun i h => by simp [h]
  generalize l.map dcD = EL at hL2 hG2
  refine acalls_vc [0, 1, 4, 5, 7, 8, 9, 16] Tryz.func167 Tryz.ntmps167 (by kernel_rfl) rfl rfl (by simp) ?_
  simp -dsimp [hL2, I]
  refine vloop_as (β := Nat) (fun i => [(0, .sl 9 EL), (1, .func (.func fp) [] cs), (7, I l.length), (8, I i)]) (fun i m2 n2 => m2 = m ∧ n2 = n ∧ i ≤ l.length ∧ ∀ x ∈ l.take i, q x = false) (fun i => l.length - i) 0 (by simp [I]) ⟨rfl, rfl, by omega, by simp⟩ ?_
  rintro i m2 n2 ⟨rfl, rfl, le, hno⟩
  by_cases hi : (i : Int) < l.length
  · have hi' : i < l.length := by omega
    have wi : IntKind.i64.wrap ((i : Int) + 1) = (i : Int) + 1 := wrap_i64 (by omega) (by omega)
    have hiN : i < EL.length := by omega
    have hgi : EL[i] = dcD l[i] := get_opt (hG2 i hi') hiN
    have hz : (dcD l[i]).length = 9 := by simp
    have hc := hp l[i] (List.getElem_mem hi')
    generalize dcD l[i] = XX at hgi hz hc
    have htz : List.take 9 XX = XX := List.take_of_length_le (by omega)
    simp -dsimp [I, Tt, hi, hi', hiN, hgi, hz, htz]
    refine pcallAt hc ?_
    cases e : q l[i] with
    | true =>
      simp -dsimp [I, Tt]
      exact pcq' (by rw [findI_hit hi' e hno])
    | false =>
      simp -dsimp [I, Tt, wi]
      refine rnd (i + 1) (by omega) (by simp [I]) ⟨rfl, rfl, by omega, fun x hx => ?_⟩
      rw [List.take_succ_eq_append_getElem hi'] at hx
      rcases List.mem_append.1 hx with hx | hx
      · exact hno x hx
      · simp at hx; rw [hx]; exact e
  · have : i = l.length := by omega
    subst this
    rw [List.take_length] at hno
    simp -dsimp [I, Tt, hi]
    exact pcq' (by rw [findI_no hno])
theorem cHasDcA {l : List (DcX)} {q : DcX → Bool} {fp : FuncId} {cs : List D} {m : Mem} {n : Nat} (hcs : List.length cs ≤ 3) (hp : ∀ x ∈ l, PcAt Tryz.prog fp (.agg (dcD x) :: cs) (Tt (q x)) m n) (hlen : l.length ≤ 9223372036854775807) :
    PcAt Tryz.prog 191 [.sl 9 (l.map dcD), .func (.func fp) [] cs] (Tt (l.any q)) m n := by
  refine pcat_of (pur_T _) ?_
  have hc := cIdxDcA hcs hp hlen
  generalize l.map dcD = EL at hc
  refine acalls_vc [0, 1, 4] Tryz.func191 Tryz.ntmps191 (by kernel_rfl) rfl rfl (by simp) ?_
  simp -dsimp
  refine pcallAt hc ?_
  have h := findI_any q l
  cases e : l.any q with
  | true =>
    have : 0 ≤ findI q l := h.2 e
    simp -dsimp [I, Tt, this]
    exact pcq' rfl
  | false =>
    have : ¬ 0 ≤ findI q l := fun h' => by rw [h.1 h'] at e; cases e
    simp -dsimp [I, Tt, this]
    exact pcq' rfl
section
variable {md : List UInt8} {imps : List Imp} {pkg : List UInt8} {major : Int} {env : List Ifc} {left : Int} {large : Bool} {k : Nat} {m : Mem} {n : Nat}
set_option maxHeartbeats 1000000 in
theorem cDecl0 (s : List UInt8) (hk : k < n) (hm : m k = some (exO md imps pkg major env left large)) :
    PcAt Tryz.prog 122 [.ptr k 0 0 0, S s] (.tup [.agg (dcD DcX0), Tt false]) m n := by
  refine pcat_pub ?_
  have kn : k ≠ n := by omega
  have nk : n ≠ k := by omega
  have kn1 : k ≠ n + 1 := by omega
  have n1k : n + 1 ≠ k := by omega
  have nn1 : n ≠ n + 1 := by omega
  have n1n : n + 1 ≠ n := by omega
  have fr : ∀ o o' j, j < n → ((m.set n o).set (n + 1) o') j = m j := fun o o' j hj => by rw [set_ne _ _ _ _ (by omega), set_ne _ _ _ _ (by omega)]
  have hc := fun m n => cIdxDcA (l := []) (q := fun _ => true) (fp := 168) (cs := [.ptr n 0 0 0]) (m := m) (n := n + 1 + 1) (by simp) (fun x hx => by simp at hx) (by simp)
  have e : findI (fun _ : DcX => true) [] = -1 := rfl
  rw [e] at hc
  simp only [exO, exC] at hm
  generalize imps.map impD = IL at hm
  generalize env.map ifD = EL at hm
  simp only [List.map_nil] at hc
  refine acalls_vcC [0, 1, 3, 4, 5, 6, 15] Tryz.func122 Tryz.ntmps122 (by kernel_rfl) rfl rfl (by simp) ?_
  simp -dsimp [I, S, Tt, set_ne, kn, nk, kn1, n1k, nn1, n1n, hm]
  refine pcallAt (hc _ _) ?_
  simp -dsimp [I, S, Tt, set_ne, kn, nk, kn1, n1k, nn1, n1n, hm]
  refine pcp ?_ (fr _ _)
  simp only [dcD, DcX0, tyD_zero]
  exact .tup (.cons (.agg (.cons (pur_I _).pub (.cons (pur_S _).pub (.cons (pur_I _).pub (.cons (pur_S _).pub (.cons (pur_I _).pub (.cons (pur_S _).pub (.cons (pur_S _).pub (.cons (pub_nil 1) (.cons (pub_nil 7) .nil)))))))))) (.cons (pur_T _).pub .nil))
set_option maxHeartbeats 1000000 in
theorem cKnown1 {i : Imp} {l : Ty} {k : Nat} {m : Mem} {n : Nat} (hk : k < n) (hm : m k = some ⟨7, [tyD l], 0⟩) : PcAt Tryz.prog 123 [.agg (impD i), .ptr k 0 0 0] (Tt (decide (i.as_ = l.mod))) m n := by
  refine pcat_of (pur_T _) ?_
  have kn : k ≠ n := by omega
  have nk : n ≠ k := by omega
  have fr : ∀ o j, j < n → (m.set n o) j = m j := fun o j hj => set_ne _ _ _ _ (by omega)
  obtain ⟨p2, j2, m2, a2⟩ := i
  obtain ⟨k1, p1, j1, m1, n1, na, sa⟩ := l
  simp only [tyD, impD, sl1, Ty.mod] at hm ⊢
  generalize (na.map fun s => [S s]) = NA at hm
  generalize tysD sa = SA at hm
  refine acalls_vc [0, 1, 2, 3] Tryz.func123 Tryz.ntmps123 (by kernel_rfl) rfl rfl (by simp) ?_
  by_cases c1 : a2 = m1
  · subst c1
    simp -dsimp [I, S, Tt, hm, set_ne, kn, nk]
    exact pcq (by simp [Tt]) (fr _)
  · have d1 : (a2 == m1) = false := by simpa using c1
    simp -dsimp [I, S, Tt, hm, set_ne, kn, nk, d1]
    exact pcq (by simp [Tt, c1]) (fr _)
set_option maxHeartbeats 1000000 in
theorem cKnown (hi : imps.length ≤ 9223372036854775807) (l : Ty) (hk : k < n) (hm : m k = some (exO md imps pkg major env left large)) :
    PcAt Tryz.prog 84 [.ptr k 0 0 0, .agg (tyD l)] (Tt (knownT imps l)) m n := by
  refine pcat_of (pur_T _) ?_
  have kn : k ≠ n := by omega
  have nk : n ≠ k := by omega
  have kn1 : k ≠ n + 1 := by omega
  have n1k : n + 1 ≠ k := by omega
  have nn1 : n ≠ n + 1 := by omega
  have n1n : n + 1 ≠ n := by omega
  have fr1 : ∀ o j, j < n → (m.set n o) j = m j := fun o j hj => set_ne _ _ _ _ (by omega)
  have fr : ∀ o o' j, j < n → ((m.set n o).set (n + 1) o') j = m j := fun o o' j hj => by rw [set_ne _ _ _ _ (by omega), set_ne _ _ _ _ (by omega)]
  have hd := fun m n (hk : k < n) (hm : m k = some (exO md imps pkg major env left large)) => cDecl0 (k := k) (m := m) (n := n) l.name hk hm
  have hc := fun m n (h : m n = some ⟨7, [tyD l], 0⟩) => cHasImA (l := imps) (q := fun i => decide (i.as_ = l.mod)) (fp := 123) (cs := [.ptr n 0 0 0]) (m := m) (n := n + 1) (by simp) (fun x _ => cKnown1 (by omega) h) hi
  obtain ⟨k1, p1, j1, m1, n1, na, sa⟩ := l
  simp only [exO, exC, dcD, DcX0, tyD_zero, knownT, Ty.mod, Ty.name] at hm hc hd ⊢
  generalize (imps.any fun i => decide (i.as_ = m1)) = R at hc ⊢
  simp only [tyD, sl1] at hc ⊢
  generalize (na.map fun s => [S s]) = NA at hc ⊢
  generalize tysD sa = SA at hc ⊢
  generalize imps.map impD = IL at hm hc hd
  generalize env.map ifD = EL at hm hd
  refine acalls_vc [0, 1, 3, 4, 6, 9] Tryz.func84 Tryz.ntmps84 (by kernel_rfl) rfl rfl (by simp) ?_
  by_cases c1 : m1 = []
  · subst c1
    simp -dsimp [I, S, Tt, set_ne, kn, nk, kn1, n1k, nn1, n1n, hm]
    refine pcallAt (hd _ _ (by omega) (by simp [set_ne, kn, hm])) ?_
    simp -dsimp [I, S, Tt, set_ne, kn, nk, kn1, n1k, nn1, n1n, hm]
    exact pcq (by simp [Tt]) (fr _ _)
  · have d1 : (m1 == []) = false := by simpa using c1
    simp -dsimp [I, S, Tt, set_ne, kn, nk, kn1, n1k, nn1, n1n, hm, c1, d1]
    refine pcallAt (hc _ _ (by simp [I, S])) ?_
    simp -dsimp [I, S, Tt, set_ne, kn, nk, kn1, n1k, nn1, n1n, hm]
    exact pcq (by simp [Tt, c1]) (fr1 _)
end
end Go.Proofs.Mv.App
open Go Go.Proofs Go.Proofs.Mv.V
set_option maxRecDepth 10000
namespace Go.Proofs.Mv.App
variable [GI]
/-- What there hands back. -/
def thD (o : Option Ty) : D := .tup [.agg (tyD (o.getD Ty0)), Tt (o.any plainM)]
theorem pur_thD (o : Option Ty) : Pur (thD o) := Pur.tup (by
  intro d hd
  simp only [List.mem_cons, List.not_mem_nil, or_false] at hd
  rcases hd with rfl | rfl
  · exact pur_tyA _
  · exact pur_T _)
theorem find_at {α : Type} {q : α → Bool} {l : List α} {i : Nat} (hi : i < l.length) (h : q l[i] = true) (hno : ∀ j (hj : j < l.length), j < i → q l[j] = false) : l.find? q = some l[i] := by
  rw [List.find?_eq_some_iff_getElem]
  exact ⟨h, i, hi, rfl, fun j hj => by simpa using hno j (by omega) hj⟩
theorem find_no {α : Type} {q : α → Bool} {l : List α} (hno : ∀ j (hj : j < l.length), q l[j] = false) : l.find? q = none := by
  rw [List.find?_eq_none]
  intro x hx
  obtain ⟨i, hi, rfl⟩ := List.getElem_of_mem hx
  simpa using hno i hi
theorem ofF_W {l : List Nm} (h : ∀ x ∈ l, NmW x) {s : List UInt8} {t : Ty} (e : ofF l s = some t) : TyW t := by
  unfold ofF at e
  cases c : l.find? (fun x => decide (x.1 = s)) with
  | none => rw [c] at e; cases e
  | some x => rw [c] at e; cases e; exact (h x (List.mem_of_find?_eq_some c)).h2
theorem TyW0 : TyW Ty0 := .mk 0 [] 0 [] [] [] [] (by simp) (by simp) (by simp) (by simp) (by simp) (by simp) (by simp)
theorem ifc_of {env : List Ifc} (h : ∀ f ∈ env, IfcW f) (i : Imp) : (∀ x ∈ ((findF env i).getD Ifc0).types, NmW x) ∧ ((findF env i).getD Ifc0).types.length ≤ 9223372036854775807 := by
  unfold findF
  cases c : env.find? (forI i) with
  | none => simp [Ifc0]
  | some f => have := h f (List.mem_of_find?_eq_some c); exact ⟨this.h3, this.h1⟩
section
variable {md : List UInt8} {imps : List Imp} {pkg : List UInt8} {major : Int} {env : List Ifc} {left : Int} {large : Bool} {k : Nat} {m : Mem} {n : Nat}
set_option maxHeartbeats 4000000 in
theorem cThere (hi : imps.length ≤ 1000000) (he : env.length ≤ 9223372036854775807) (hw : ∀ f ∈ env, IfcW f) (l : Ty) (hk : k < n) (hm : m k = some (exO md imps pkg major env left large)) :
    PcAt Tryz.prog 169 [.ptr k 0 0 0, .agg (tyD l)] (thD (rawF imps env l.mod l.name)) m n := by
  refine pcat_pub ?_
  have kn : k ≠ n := by omega
  have nk : n ≠ k := by omega
  have kn1 : k ≠ n + 1 := by omega
  have n1k : n + 1 ≠ k := by omega
  have nn1 : n ≠ n + 1 := by omega
  have n1n : n + 1 ≠ n := by omega
  have fr : ∀ o o' j, j < n → ((m.set n o).set (n + 1) o') j = m j := fun o o' j hj => by rw [set_ne _ _ _ _ (by omega), set_ne _ _ _ _ (by omega)]
  have hF := fun i => cFindE he i
  have hO := fun i (s : List UInt8) => cOfE (ifc_of hw i).2 s
  have hP : ∀ i s, Pc Tryz.prog 90 [.agg (tyD ((ofF ((findF env i).getD Ifc0).types s).getD Ty0))] (Tt (plainM ((ofF ((findF env i).getD Ifc0).types s).getD Ty0))) := fun i s => cPlainK (by
    cases c : ofF ((findF env i).getD Ifc0).types s with
    | none => exact TyW0
    | some t => exact ofF_W (ifc_of hw i).1 c)
  obtain ⟨k1, p1, j1, m1, n1, na, sa⟩ := l
  simp only [Ty.mod, Ty.name]
  have hL : (imps.map impD).length = imps.length := by simp
  have hG : ∀ i (h : i < imps.length), (imps.map impD)[i]? = some (impD imps[i]) := fun i h => by simp [h]
  simp only [exO, exC] at hm
  generalize imps.map impD = IL at hm hL hG
  generalize env.map ifD = EL at hm hF
  simp only [tyD, sl1]
  generalize (na.map fun s => [S s]) = NA
  generalize tysD sa = SA
  refine acalls_vcC [0, 1, 3, 4, 5, 7, 8, 10, 11, 16, 17, 18, 19, 26] Tryz.func169 Tryz.ntmps169 (by kernel_rfl) rfl rfl (by simp) ?_
  simp -dsimp [I, S, Tt, set_ne, kn, nk, kn1, n1k, nn1, n1n, hm, hL]
  refine vloop_as (β := Nat) (fun i => [(0, .ptr k 0 0 0), (3, .ptr n 0 0 0), (4, .ptr (n + 1) 0 0 0), (16, .sl 4 IL), (17, I imps.length), (18, I i)])
    (fun i mm nn => mm k = m k ∧ mm n = some ⟨7, [[I k1, S p1, I j1, S m1, S n1, .sl 1 NA, .sl 7 SA]], 0⟩ ∧ mm (n + 1) = some ⟨7, [[I 0, S [], I 0, S [], S [], .v (.slice none 0 0), .v (.slice none 0 0)]], 0⟩ ∧ (∀ j, j < n → mm j = m j) ∧ n + 1 + 1 ≤ nn ∧ i ≤ imps.length ∧ ∀ q (h : q < imps.length), q < i → decide (imps[q].as_ = m1) = false)
    (fun i => imps.length - i) 0 (by simp [I]) ⟨by simp [set_ne, kn, kn1], by simp [I, S, set_ne, nn1], by simp [I, S], fun j hj => fr _ _ j hj, by omega, by omega, fun q h hq0 => by omega⟩ ?_
  rintro i mm nn ⟨ek, e0, e1, frm, hn, le, hno⟩
  rw [hm] at ek
  by_cases c : (i : Int) < imps.length
  · have c' : i < imps.length := by omega
    have wi : IntKind.i64.wrap ((i : Int) + 1) = (i : Int) + 1 := wrap_i64 (by omega) (by omega)
    have hiI : i < IL.length := by omega
    have g1 : IL[i] = impD imps[i] := get_opt (hG i c') hiI
    have a1 : nn ≠ n := by omega
    have a2 : n ≠ nn := by omega
    have a3 : nn ≠ n + 1 := by omega
    have a4 : n + 1 ≠ nn := by omega
    have a5 : nn ≠ k := by omega
    have a6 : k ≠ nn := by omega
    have hF1 := hF imps[i]
    have hO1 := hO imps[i] n1
    have hP1 := hP imps[i] n1
    by_cases ca : imps[i].as_ = m1
    · have hraw : rawF imps env m1 n1 = ofF ((findF env imps[i]).getD Ifc0).types n1 := by
        rw [rawF, find_at c' (by simpa using ca) hno]; rfl
      rw [hraw]
      clear hraw hno hF hO hP
      generalize imps[i] = x at g1 ca hF1 hO1 hP1 ⊢
      simp only [ifoD] at hF1
      generalize hfo : findF env x = FO at hF1 hO1 hP1 ⊢
      clear hfo
      obtain ⟨p2, j2, m2, a2'⟩ := x
      simp only at ca
      subst ca
      simp only [impD] at g1 hF1
      generalize FO.isSome = b1 at hF1
      generalize FO.getD Ifc0 = f at hF1 hO1 hP1 ⊢
      simp only [ifD] at hF1
      simp only [ofD] at hO1
      generalize f.types.map nnD = TL at hF1 hO1
      generalize f.vals.map nnD = VL at hF1
      generalize ofF f.types n1 = o at hO1 hP1 ⊢
      have hpu := pur_thD o
      have hany : o.any plainM = (o.isSome && plainM (o.getD Ty0)) := by cases o <;> rfl
      simp only [thD, hany] at hpu ⊢
      generalize plainM (o.getD Ty0) = b3 at hP1 hpu hany ⊢
      generalize o.isSome = b2 at hO1 hpu hany ⊢
      have zo := tyD_len (o.getD Ty0)
      generalize tyD (o.getD Ty0) = XX at hO1 hP1 hpu zo ⊢
      have to : List.take 7 XX = XX := List.take_of_length_le (by omega)
      have q1 : nn + 1 ≠ k := by omega
      have q2 : k ≠ nn + 1 := by omega
      have q3 : nn + 1 ≠ n := by omega
      have q4 : n ≠ nn + 1 := by omega
      have q5 : n + 1 ≠ nn + 1 := by omega
      have q6 : nn + 1 ≠ n + 1 := by omega
      have q7 : nn + 1 ≠ nn := by omega
      have q8 : nn ≠ nn + 1 := by omega
      have r1 : nn + 1 + 1 ≠ k := by omega
      have r2 : k ≠ nn + 1 + 1 := by omega
      have r3 : nn + 1 + 1 ≠ n := by omega
      have r4 : n ≠ nn + 1 + 1 := by omega
      have r5 : n + 1 ≠ nn + 1 + 1 := by omega
      have r6 : nn + 1 + 1 ≠ n + 1 := by omega
      have r7 : nn + 1 + 1 ≠ nn := by omega
      have r8 : nn ≠ nn + 1 + 1 := by omega
      have r9 : nn + 1 + 1 ≠ nn + 1 := by omega
      have r10 : nn + 1 ≠ nn + 1 + 1 := by omega
      simp -dsimp [I, S, Tt, set_ne, a1, a2, a3, a4, a5, a6, ek, e0, e1, c, c', hiI, g1, hL]
      refine vdraw_tree [0, 1, 3, 7, 0, 31, 63, 127, 127, 0, 767, 2047] (.rd 0 (.rd 1 (.rd 2 (.rd 3 (.rd 4 (.wr (.cons 5 (.rd 6 (.rd 7 (.rd 8 (.wr (.cons 9 (.wr (.cons 10 (.rd 11 (.fin)) (.nil))) (.nil)))))) (.cons 9 (.wr (.cons 5 (.rd 6 (.rd 7 (.rd 8 (.wr (.cons 10 (.rd 11 (.fin)) (.nil)))))) (.nil))) (.nil))))))))) (by kernel_rfl) (by kernel_rfl) ?_
      simp -dsimp [I, S, Tt, set_ne, a1, a2, a3, a4, a5, a6, ek, e0, e1]
      refine ⟨?_, ?_⟩
      all_goals try simp -dsimp [I, S, Tt, set_ne, a1, a2, a3, a4, a5, a6, q1, q2, q3, q4, q5, q6, q7, q8, ek, e0, e1]
      all_goals refine pcall hF1 ?_
      all_goals simp -dsimp [I, S, Tt, set_ne, a1, a2, a3, a4, a5, a6, q1, q2, q3, q4, q5, q6, q7, q8, ek, e0, e1]
      all_goals refine pcall hO1 ?_
      all_goals simp -dsimp [I, S, Tt, set_ne, a1, a2, a3, a4, a5, a6, q1, q2, q3, q4, q5, q6, q7, q8, r1, r2, r3, r4, r5, r6, r7, r8, r9, r10, ek, e0, e1, zo, to]
      all_goals refine vdraw_tree [0, 0, 2, 6, 14, 30, 31, 127] (.rd 0 (.rd 1 (.rd 2 (.rd 3 (.wr (.cons 4 (.rd 5 (.wr (.cons 6 (.rd 7 (.fin)) (.nil)))) (.nil))))))) (by kernel_rfl) (by kernel_rfl) ?_
      all_goals simp -dsimp [I, S, Tt, set_ne, a1, a2, a3, a4, a5, a6, q1, q2, q3, q4, q5, q6, q7, q8, r1, r2, r3, r4, r5, r6, r7, r8, r9, r10, ek, e0, e1, zo, to]
      all_goals cases b2 with
        | false =>
          simp -dsimp [I, S, Tt, set_ne, a1, a2, a3, a4, a5, a6, q1, q2, q3, q4, q5, q6, q7, q8, r1, r2, r3, r4, r5, r6, r7, r8, r9, r10, ek, e0, e1, zo, to]
          refine pcp (d := .tup [.agg XX, Tt (o.any plainM)]) ?_ ?_
          · rw [hany]; rw [Bool.false_and] at hpu ⊢; exact hpu.pub
          exact (fun j hj => by rw [set_ne _ _ _ _ (by omega), set_ne _ _ _ _ (by omega), set_ne _ _ _ _ (by omega), set_ne _ _ _ _ (by omega)]; exact frm j hj)
        | true =>
          simp -dsimp [I, S, Tt, set_ne, a1, a2, a3, a4, a5, a6, q1, q2, q3, q4, q5, q6, q7, q8, r1, r2, r3, r4, r5, r6, r7, r8, r9, r10, ek, e0, e1, zo, to]
          refine pcall hP1 ?_
          simp -dsimp [I, S, Tt, set_ne, a1, a2, a3, a4, a5, a6, q1, q2, q3, q4, q5, q6, q7, q8, r1, r2, r3, r4, r5, r6, r7, r8, r9, r10, ek, e0, e1, zo, to]
          refine pcp (d := .tup [.agg XX, Tt (o.any plainM)]) ?_ ?_
          · rw [hany]; rw [Bool.true_and] at hpu ⊢; exact hpu.pub
          exact (fun j hj => by rw [set_ne _ _ _ _ (by omega), set_ne _ _ _ _ (by omega), set_ne _ _ _ _ (by omega), set_ne _ _ _ _ (by omega)]; exact frm j hj)
    · have hnext : ∀ q (h : q < imps.length), q < i + 1 → decide (imps[q].as_ = m1) = false := fun q h hq0 => by
        rcases Nat.lt_or_eq_of_le (show q ≤ i by omega) with c | c
        · exact hno q h c
        · subst c; simpa using ca
      generalize imps[i] = x at g1 ca
      obtain ⟨p2, j2, m2, a2'⟩ := x
      have ca' : (a2' == m1) = false := by simpa using ca
      simp only [impD] at g1
      simp -dsimp [I, S, Tt, set_ne, a1, a2, a3, a4, a5, a6, ek, e0, e1, c, c', hiI, g1, hL, ca', wi]
      exact rnd (i + 1) (by omega) (by simp [I]) ⟨by rw [set_ne _ _ _ _ a6, ek, hm], by rw [set_ne _ _ _ _ a2, e0], by rw [set_ne _ _ _ _ a4, e1], fun j hj => by rw [set_ne _ _ _ _ (by omega)]; exact frm j hj, by omega, by omega, hnext⟩
  · have hraw : rawF imps env m1 n1 = none := by
      rw [rawF, find_no fun j hj => hno j hj (by omega)]; rfl
    rw [hraw]
    simp -dsimp [I, S, Tt, set_ne, ek, e0, e1, c]
    refine pcp ?_ (fun j hj => by rw [set_ne _ _ _ _ (by omega)]; exact frm j hj)
    simp only [thD, Option.getD_none, Option.any_none, tyD_zero]
    exact .tup (.cons (.agg (.cons (pur_I _).pub (.cons (pur_S _).pub (.cons (pur_I _).pub (.cons (pur_S _).pub (.cons (pur_S _).pub (.cons (pub_nil 1) (.cons (pub_nil 7) .nil)))))))) (.cons (pur_T _).pub .nil))
set_option maxHeartbeats 2000000 in
theorem cHad (hi : imps.length ≤ 1000000) (he : env.length ≤ 9223372036854775807) (hw : ∀ f ∈ env, IfcW f) (l : Ty) (hk : k < n) (hm : m k = some (exO md imps pkg major env left large)) :
    PcAt Tryz.prog 124 [.ptr k 0 0 0, .agg (tyD l)] (Tt (hadT imps env l)) m n := by
  refine pcat_of (pur_T _) ?_
  have kn : k ≠ n := by omega
  have nk : n ≠ k := by omega
  have kn1 : k ≠ n + 1 := by omega
  have n1k : n + 1 ≠ k := by omega
  have nn1 : n ≠ n + 1 := by omega
  have n1n : n + 1 ≠ n := by omega
  have fr1 : ∀ o j, j < n → (m.set n o) j = m j := fun o j hj => set_ne _ _ _ _ (by omega)
  have fr : ∀ o o' j, j < n → ((m.set n o).set (n + 1) o') j = m j := fun o o' j hj => by rw [set_ne _ _ _ _ (by omega), set_ne _ _ _ _ (by omega)]
  have ht := fun m n (hk : k < n) (hm : m k = some (exO md imps pkg major env left large)) => cThere (k := k) (m := m) (n := n) hi he hw l hk hm
  obtain ⟨k1, p1, j1, m1, n1, na, sa⟩ := l
  simp only [hadT, Ty.mod, Ty.name, thD] at ht ⊢
  have zo := tyD_len ((rawF imps env m1 n1).getD Ty0)
  generalize tyD ((rawF imps env m1 n1).getD Ty0) = XX at ht zo
  have to : List.take 7 XX = XX := List.take_of_length_le (by omega)
  generalize (rawF imps env m1 n1).any plainM = R at ht ⊢
  simp only [tyD, sl1] at ht ⊢
  generalize (na.map fun s => [S s]) = NA at ht ⊢
  generalize tysD sa = SA at ht ⊢
  generalize exO md imps pkg major env left large = OO at hm ht
  refine acalls_vc [0, 1, 3, 4, 6, 9] Tryz.func124 Tryz.ntmps124 (by kernel_rfl) rfl rfl (by simp) ?_
  by_cases c1 : m1 = []
  · subst c1
    simp -dsimp [I, S, Tt, set_ne, kn, nk]
    exact pcq (by simp [Tt]) (fr1 _)
  · have d1 : (m1 == []) = false := by simpa using c1
    simp -dsimp [I, S, Tt, set_ne, kn, nk, c1, d1]
    refine pcallAt (ht _ _ (by omega) (by simp [set_ne, kn, hm])) ?_
    simp -dsimp [I, S, Tt, set_ne, kn, nk, kn1, n1k, nn1, n1n, zo, to]
    exact pcq (by simp [Tt, c1]) (fr _ _)
end
theorem any_nt {α : Type} (q : α → Bool) : ∀ l : List α, (l.any fun x => !q x) = !l.all q
  | [] => rfl
  | x :: l => by simp [any_nt q l]
/-- Memories that are alike below. -/
def Fr (m0 : Mem) (n0 : Nat) (m : Mem) (n : Nat) : Prop := n0 ≤ n ∧ ∀ j, j < n0 → m j = m0 j
theorem Fr.set {m0 : Mem} {n0 : Nat} {m : Mem} {n : Nat} (h : Fr m0 n0 m n) (o : V.Obj) : Fr m0 n0 (m.set n o) (n + 1) := ⟨by have := h.1; omega, fun j hj => by rw [set_ne _ _ _ _ (by have := h.1; omega)]; exact h.2 j hj⟩
theorem Fr.refl (m : Mem) (n : Nat) : Fr m n m n := ⟨Nat.le_refl _, fun _ _ => rfl⟩
set_option maxHeartbeats 2000000 in
theorem cEach1 {fp : FuncId} {fs : List D} {t : Ty} {r : Bool} {m0 : Mem} {n0 : Nat} (h : ∀ m n, Fr m0 n0 m n → PcAt Tryz.prog 83 [.agg (tyD t), .func (.func fp) fs []] (Tt r) m n)
    {k : Nat} {m : Mem} {n : Nat} (hf : Fr m0 n0 m n) (hk : k < n) (hm : m k = some ⟨1, [[.func (.func fp) fs []]], 0⟩) :
    PcAt Tryz.prog 121 [.agg (tyD t), .ptr k 0 0 0] (Tt (!r)) m n := by
  refine pcat_of (pur_T _) ?_
  have kn : k ≠ n := by omega
  have nk : n ≠ k := by omega
  have fr : ∀ o j, j < n → (m.set n o) j = m j := fun o j hj => set_ne _ _ _ _ (by omega)
  have h1 := fun o => h (m.set n o) (n + 1) (hf.set o)
  have zo := tyD_len t
  generalize tyD t = XX at h1 zo
  have to : List.take 7 XX = XX := List.take_of_length_le (by omega)
  refine acalls_vc [0, 1, 2, 3] Tryz.func121 Tryz.ntmps121 (by kernel_rfl) rfl rfl (by simp) ?_
  simp -dsimp [I, S, Tt, set_ne, kn, nk, hm, zo, to]
  refine pcallAt (h1 _) ?_
  simp -dsimp [I, S, Tt, set_ne, kn, nk]
  exact pcq (by simp [Tt]) (fr _)
set_option maxHeartbeats 2000000 in
theorem cEach {fp : FuncId} {fs : List D} (hfs : fs.length ≤ 3) {q : Ty → Bool} {m0 : Mem} {n0 : Nat} (H : ∀ (l : Ty) m n, Fr m0 n0 m n → PcAt Tryz.prog fp (fs ++ [.agg (tyD l)]) (Tt (q l)) m n) {t : Ty} (ht : TyW t) :
    ∀ m n, Fr m0 n0 m n → PcAt Tryz.prog 83 [.agg (tyD t), .func (.func fp) fs []] (Tt (eachT q t)) m n := by
  induction ht with
  | mk kind pkg major mod name names subs l1 l2 l3 l4 l5 l6 l7 ih =>
    intro m n hf
    refine pcat_of (pur_T _) ?_
    have nn1 : n ≠ n + 1 := by omega
    have n1n : n + 1 ≠ n := by omega
    have fr : ∀ o o' j, j < n → ((m.set n o).set (n + 1) o') j = m j := fun o o' j hj => by rw [set_ne _ _ _ _ (by omega), set_ne _ _ _ _ (by omega)]
    have hc := fun o o' (h : ((m.set n o).set (n + 1) o') (n + 1) = some ⟨1, [[.func (.func fp) fs []]], 0⟩) => cHasTyA (l := subs) (q := fun x => !eachT q x) (fp := 121) (cs := [.ptr (n + 1) 0 0 0]) (m := (m.set n o).set (n + 1) o') (n := n + 1 + 1) (by simp) (fun x hx => cEach1 (ih x hx) ((hf.set o).set o') (by omega) h) l2
    have hany : (subs.any fun x => !eachT q x) = !eachTs q subs := by rw [eachTs_eq]; exact any_nt _ _
    rw [hany] at hc
    have hq := fun o o' => H (.mk kind pkg major mod name names subs) _ _ ((hf.set o).set o')
    have he : eachT q (.mk kind pkg major mod name names subs) = ((!(decide (kind = 8)) || q (.mk kind pkg major mod name names subs)) && eachTs q subs) := by rw [eachT]
    rw [he]
    generalize q (.mk kind pkg major mod name names subs) = b1 at hq ⊢
    generalize eachTs q subs = b2 at hc ⊢
    simp only [tyD, tysD_eq, sl1] at hc hq ⊢
    generalize (names.map fun s => [S s]) = NA at hc hq ⊢
    generalize subs.map tyD = SA at hc hq ⊢
    refine acalls_vc [0, 1, 2, 3, 4, 13] Tryz.func83 Tryz.ntmps83 (by kernel_rfl) rfl rfl (by simp) ?_
    by_cases k8 : kind = 8
    · subst k8
      simp -dsimp [I, S, Tt, set_ne, nn1, n1n]
      refine pcallAt (hq _ _) ?_
      cases b1 with
      | false =>
        simp -dsimp [I, S, Tt, set_ne, nn1, n1n]
        exact pcq (by simp [Tt]) (fr _ _)
      | true =>
        simp -dsimp [I, S, Tt, set_ne, nn1, n1n]
        refine pcallAt (hc _ _ (by simp)) ?_
        simp -dsimp [I, S, Tt, set_ne, nn1, n1n]
        exact pcq (by simp [Tt]) (fr _ _)
    · have k8' : (kind == 8) = false := by simpa using k8
      simp -dsimp [I, S, Tt, set_ne, nn1, n1n, k8']
      refine pcallAt (hc _ _ (by simp)) ?_
      simp -dsimp [I, S, Tt, set_ne, nn1, n1n]
      exact pcq (by simp [Tt, k8]) (fr _ _)
end Go.Proofs.Mv.App
open Go Go.Proofs Go.Proofs.Mv.V
namespace Go.Proofs.Mv.App
theorem ev_mixed : Tryz.prog.follows .mixedOrders = true := by kernel_rfl
theorem ev_names : Tryz.prog.funcs.all (fun fn => !(fn.name == "runtime.NumGoroutine")) = true := by kernel_rfl
theorem run_at [GI] (fuel k : Nat) {f : FuncId} {args : List D} {x : Value} (ha : belowL 0 args = true)
    (h : (match callE Tryz.prog noOrc (fun _ => false) fuel k f args [] with | some (.v y, _, _) => eqVE y x | _ => false) = true) (m : Mem) (n : Nat) :
    ACalls Tryz.prog f args m n (fun d' m' n' => d' = .v x ∧ m' = m ∧ n' = n) := run_flat noOrc_cs ev_mixed ev_names _ fuel k ha h m n
end Go.Proofs.Mv.App
open Go Go.Proofs Go.Proofs.Mv.V
set_option maxRecDepth 10000
namespace Go.Proofs.Mv.App
variable [GI]
theorem cLen0 (m : Mem) (n : Nat) : ACalls Tryz.prog 202 [.v (.int .u64 0)] m n (fun d m' n' => d = .v (.int .i64 0) ∧ m' = m ∧ n' = n) :=
  run_at 200 20 (by rfl) (by kernel_rfl) m n
theorem cIns0 : Pc Tryz.prog 211 [.sl 1 [], I 0, I 0] (.tup []) := by
  refine pc_of (Pur.tup (by simp)) (fun m n => ?_)
  have w1 : IntKind.i64.wrap 1 = 1 := wrap_i64 (by omega) (by omega)
  refine acalls_vc [0, 1, 2, 6, 7, 12, 30] Tryz.func211 Tryz.ntmps211 (by kernel_rfl) rfl rfl (by simp) ?_
  simp -dsimp [I, w1]
  refine vloop_as (β := Unit) (fun _ => [(0, .sl 1 []), (1, I 0), (2, I 0), (6, I 1)]) (fun _ m2 n2 => m2 = m ∧ n2 = n) (fun _ => 0) () (by simp [I]) ⟨rfl, rfl⟩ ?_
  rintro _ m2 n2 ⟨rfl, rfl⟩
  simp -dsimp [I]
  exact pcq' rfl
theorem cPdq0 : Pc Tryz.prog 201 [.sl 1 [], I 0, I 0, I 0] (.tup []) := by
  refine pc_of (Pur.tup (by simp)) (fun m n => ?_)
  have w0 : IntKind.i64.wrap 0 = 0 := wrap_i64 (by omega) (by omega)
  refine acalls_vc [0, 1, 2, 3, 8, 9, 10, 11, 12, 13, 14, 15, 16, 17, 18, 23, 29, 35, 50, 68, 72, 87, 113] Tryz.func201 Tryz.ntmps201 (by kernel_rfl) rfl rfl (by simp) ?_
  simp -dsimp [I]
  refine vloop_as (β := Unit) (fun _ => [(0, .sl 1 []), (1, I 0), (2, I 0), (3, I 0)]) (fun _ m2 n2 => m2 = m ∧ n2 = n) (fun _ => 0) () (by simp [I]) ⟨rfl, rfl⟩ ?_
  rintro _ m2 n2 ⟨rfl, rfl⟩
  simp -dsimp [I, w0]
  refine pcall cIns0 ?_
  simp -dsimp [I]
  exact pcq' rfl
theorem cSort0 : Pc Tryz.prog 172 [.sl 1 []] (.tup []) := by
  refine pc_of (Pur.tup (by simp)) (fun m n => ?_)
  refine acalls_vc [0, 2] Tryz.func172 Tryz.ntmps172 (by kernel_rfl) rfl rfl (by simp) ?_
  simp -dsimp [I]
  refine aCall_of (cLen0 _ _) ?_
  rintro d m' n' ⟨rfl, rfl, rfl⟩
  simp -dsimp [I]
  refine pcall cPdq0 ?_
  simp -dsimp [I]
  exact pcq' rfl
theorem cIdxStA {l : List (List UInt8)} {q : List UInt8 → Bool} {fp : FuncId} {cs : List D} {m : Mem} {n : Nat} (hcs : List.length cs ≤ 3) (hp : ∀ x ∈ l, PcAt Tryz.prog fp (S x :: cs) (Tt (q x)) m n) (hlen : l.length ≤ 9223372036854775807) :
    PcAt Tryz.prog 170 [.sl 1 (l.map (fun s => [S s])), .func (.func fp) [] cs] (I (findI q l)) m n := by
  refine pcat_of (pur_I _) ?_
  have hL2 : (l.map (fun s => [S s])).length = l.length := by simp
  have hG2 : ∀ i (h : i < l.length), (l.map (fun s => [S s]))[i]? = some ((fun s => [S s]) l[i]) := fun i h => by simp [h]
  generalize l.map (fun s => [S s]) = EL at hL2 hG2
  refine acalls_vc [0, 1, 4, 5, 7, 8, 9, 16] Tryz.func170 Tryz.ntmps170 (by kernel_rfl) rfl rfl (by simp) ?_
  simp -dsimp [hL2, I]
  refine vloop_as (β := Nat) (fun i => [(0, .sl 1 EL), (1, .func (.func fp) [] cs), (7, I l.length), (8, I i)]) (fun i m2 n2 => m2 = m ∧ n2 = n ∧ i ≤ l.length ∧ ∀ x ∈ l.take i, q x = false) (fun i => l.length - i) 0 (by simp [I]) ⟨rfl, rfl, by omega, by simp⟩ ?_
  rintro i m2 n2 ⟨rfl, rfl, le, hno⟩
  by_cases hi : (i : Int) < l.length
  · have hi' : i < l.length := by omega
    have wi : IntKind.i64.wrap ((i : Int) + 1) = (i : Int) + 1 := wrap_i64 (by omega) (by omega)
    have hiN : i < EL.length := by omega
    have hgi : EL[i] = (fun s => [S s]) l[i] := get_opt (hG2 i hi') hiN
    have hc := hp l[i] (List.getElem_mem hi')
    simp -dsimp [I, Tt, hi, hi', hiN, hgi, S]
    refine pcallAt hc ?_
    cases e : q l[i] with
    | true =>
      simp -dsimp [I, Tt]
      exact pcq' (by rw [findI_hit hi' e hno])
    | false =>
      simp -dsimp [I, Tt, wi]
      refine rnd (i + 1) (by omega) (by simp [I]) ⟨rfl, rfl, by omega, fun x hx => ?_⟩
      rw [List.take_succ_eq_append_getElem hi'] at hx
      rcases List.mem_append.1 hx with hx | hx
      · exact hno x hx
      · simp at hx; rw [hx]; exact e
  · have : i = l.length := by omega
    subst this
    rw [List.take_length] at hno
    simp -dsimp [I, Tt, hi]
    exact pcq' (by rw [findI_no hno])
theorem cHasStA {l : List (List UInt8)} {q : List UInt8 → Bool} {fp : FuncId} {cs : List D} {m : Mem} {n : Nat} (hcs : List.length cs ≤ 3) (hp : ∀ x ∈ l, PcAt Tryz.prog fp (S x :: cs) (Tt (q x)) m n) (hlen : l.length ≤ 9223372036854775807) :
    PcAt Tryz.prog 125 [.sl 1 (l.map (fun s => [S s])), .func (.func fp) [] cs] (Tt (l.any q)) m n := by
  refine pcat_of (pur_T _) ?_
  have hc := cIdxStA hcs hp hlen
  generalize l.map (fun s => [S s]) = EL at hc
  refine acalls_vc [0, 1, 4] Tryz.func125 Tryz.ntmps125 (by kernel_rfl) rfl rfl (by simp) ?_
  simp -dsimp
  refine pcallAt hc ?_
  have h := findI_any q l
  cases e : l.any q with
  | true =>
    have : 0 ≤ findI q l := h.2 e
    simp -dsimp [I, Tt, this]
    exact pcq' rfl
  | false =>
    have : ¬ 0 ≤ findI q l := fun h' => by rw [h.1 h'] at e; cases e
    simp -dsimp [I, Tt, this]
    exact pcq' rfl

/-- A module without declarations. -/
def mdX (md : List UInt8) (imps : List Imp) : List D := [S md, .sl 4 (imps.map impD), .sl 9 []]
theorem cFindD {md : List UInt8} {imps : List Imp} (s : List UInt8) : Pc Tryz.prog 198 [.agg (mdX md imps), S s] (I (-1)) := by
  refine pc_of (pur_I _) (fun m n => ?_)
  have nn1 : n ≠ n + 1 := by omega
  have n1n : n + 1 ≠ n := by omega
  have fr : ∀ o o' j, j < n → ((m.set n o).set (n + 1) o') j = m j := fun o o' j hj => by rw [set_ne _ _ _ _ (by omega), set_ne _ _ _ _ (by omega)]
  have hc := fun k m n => cIdxDcA (l := []) (q := fun _ => true) (fp := 210) (cs := [.ptr k 0 0 0]) (m := m) (n := n) (by simp) (fun x hx => by simp at hx) (by simp)
  have e : findI (fun _ : DcX => true) [] = -1 := rfl
  rw [e] at hc
  simp only [List.map_nil] at hc
  simp only [mdX]
  generalize imps.map impD = IL
  refine acalls_vc [0, 1, 2, 3, 4] Tryz.func198 Tryz.ntmps198 (by kernel_rfl) rfl rfl (by simp) ?_
  simp -dsimp [I, S, Tt, set_ne, nn1, n1n]
  refine pcallAt (hc _ _ _) ?_
  simp -dsimp [I, S, Tt, set_ne, nn1, n1n]
  exact pcq rfl (fr _ _)
theorem cAdd0 {md : List UInt8} {imps : List Imp} (l : Ty) {a b : Nat} {m : Mem} {n : Nat} (ha : a < n) (hm : m a = some ⟨3, [mdX md imps], 0⟩) :
    PcAt Tryz.prog 200 [.agg (tyD l), .ptr a 0 0 0, .ptr b 0 0 0] (.tup []) m n := by
  refine pcat_of (Pur.tup (by simp)) ?_
  have kn : a ≠ n := by omega
  have nk : n ≠ a := by omega
  have fr : ∀ o j, j < n → (m.set n o) j = m j := fun o j hj => set_ne _ _ _ _ (by omega)
  have hf := fun s => cFindD (md := md) (imps := imps) s
  obtain ⟨k1, p1, j1, m1, n1, na, sa⟩ := l
  simp only [tyD, sl1, mdX] at hm hf ⊢
  generalize imps.map impD = IL at hm hf
  generalize (na.map fun s => [S s]) = NA
  generalize tysD sa = SA
  refine acalls_vc [0, 1, 2, 3, 20] Tryz.func200 Tryz.ntmps200 (by kernel_rfl) rfl rfl (by simp) ?_
  by_cases c1 : m1 = []
  · subst c1
    simp -dsimp [I, S, Tt, set_ne, kn, nk, hm]
    refine pcall (hf _) ?_
    simp -dsimp [I, S, Tt, set_ne, kn, nk, hm]
    exact pcq rfl (fr _)
  · have d1 : (m1 == []) = false := by simpa using c1
    simp -dsimp [I, S, Tt, set_ne, kn, nk, hm, c1, d1]
    exact pcq rfl (fr _)
set_option maxHeartbeats 2000000 in
theorem cLocals {fp : FuncId} {cs : List D} (hcs : cs.length ≤ 3) {m0 : Mem} {n0 : Nat} (H : ∀ (l : Ty) m n, Fr m0 n0 m n → PcAt Tryz.prog fp (.agg (tyD l) :: cs) (.tup []) m n) {t : Ty} (ht : TyW t) :
    ∀ m n, Fr m0 n0 m n → PcAt Tryz.prog 195 [.agg (tyD t), .func (.func fp) [] cs] (.tup []) m n := by
  induction ht with
  | mk kind pkg major mod name names subs l1 l2 l3 l4 l5 l6 l7 ih =>
    intro m n hf
    refine pcat_of (Pur.tup (by simp)) ?_
    have fr : ∀ o j, j < n → (m.set n o) j = m j := fun o j hj => set_ne _ _ _ _ (by omega)
    have hq := fun o => H (.mk kind pkg major mod name names subs) _ _ (hf.set o)
    have hL : (subs.map tyD).length = subs.length := by simp
    have hG : ∀ i (h : i < subs.length), (subs.map tyD)[i]? = some (tyD subs[i]) := fun i h => by simp [h]
    simp only [tyD, tysD_eq, sl1] at hq ⊢
    generalize (names.map fun s => [S s]) = NA at hq ⊢
    generalize subs.map tyD = SA at hq hL hG ⊢
    refine acalls_vc [0, 1, 2, 5, 8, 13, 14, 15, 16] Tryz.func195 Tryz.ntmps195 (by kernel_rfl) rfl rfl (by simp) ?_
    have hk : kind = 8 ∨ ¬ kind = 8 := by omega
    rcases hk with k8 | k8
    · subst k8
      simp -dsimp [I, S, Tt, set_ne]
      refine pcallAt (hq _) ?_
      simp -dsimp [I, S, Tt, set_ne, hL]
      refine vloop_as (β := Nat) (fun i => [(1, .func (.func fp) [] cs), (13, .sl 7 SA), (14, I subs.length), (15, I i)]) (fun i mm nn => Fr m n mm nn ∧ i ≤ subs.length) (fun i => subs.length - i) 0 (by simp [I]) ⟨(Fr.refl m n).set _, by omega⟩ ?_
      rintro i mm nn ⟨hfr, le⟩
      by_cases c : (i : Int) < subs.length
      · have c' : i < subs.length := by omega
        have wi : IntKind.i64.wrap ((i : Int) + 1) = (i : Int) + 1 := wrap_i64 (by omega) (by omega)
        have hiA : i < SA.length := by omega
        have g1 : SA[i] = tyD subs[i] := get_opt (hG i c') hiA
        have h0 : Fr m0 n0 mm nn := ⟨by have := hf.1; have := hfr.1; omega, fun j hj => by rw [hfr.2 j (by have := hf.1; omega)]; exact hf.2 j hj⟩
        have hr := fun o => ih subs[i] (List.getElem_mem _) _ _ (h0.set o)
        have z1 := tyD_len subs[i]
        generalize tyD subs[i] = XX at g1 hr z1
        have t1 : List.take 7 XX = XX := List.take_of_length_le (by omega)
        simp -dsimp [I, S, Tt, c, c', hiA, g1, hL, z1, t1]
        refine pcallAt (hr _) ?_
        simp -dsimp [I, S, Tt, wi]
        exact rnd (i + 1) (by omega) (by simp [I]) ⟨hfr.set _, by omega⟩
      · simp -dsimp [I, S, Tt, c]
        exact pcq rfl hfr.2
    · have k8' : (kind == 8) = false := by simpa using k8
      simp -dsimp [I, S, Tt, set_ne, k8', hL]
      refine vloop_as (β := Nat) (fun i => [(1, .func (.func fp) [] cs), (13, .sl 7 SA), (14, I subs.length), (15, I i)]) (fun i mm nn => Fr m n mm nn ∧ i ≤ subs.length) (fun i => subs.length - i) 0 (by simp [I]) ⟨(Fr.refl m n).set _, by omega⟩ ?_
      rintro i mm nn ⟨hfr, le⟩
      by_cases c : (i : Int) < subs.length
      · have c' : i < subs.length := by omega
        have wi : IntKind.i64.wrap ((i : Int) + 1) = (i : Int) + 1 := wrap_i64 (by omega) (by omega)
        have hiA : i < SA.length := by omega
        have g1 : SA[i] = tyD subs[i] := get_opt (hG i c') hiA
        have h0 : Fr m0 n0 mm nn := ⟨by have := hf.1; have := hfr.1; omega, fun j hj => by rw [hfr.2 j (by have := hf.1; omega)]; exact hf.2 j hj⟩
        have hr := fun o => ih subs[i] (List.getElem_mem _) _ _ (h0.set o)
        have z1 := tyD_len subs[i]
        generalize tyD subs[i] = XX at g1 hr z1
        have t1 : List.take 7 XX = XX := List.take_of_length_le (by omega)
        simp -dsimp [I, S, Tt, c, c', hiA, g1, hL, z1, t1]
        refine pcallAt (hr _) ?_
        simp -dsimp [I, S, Tt, wi]
        exact rnd (i + 1) (by omega) (by simp [I]) ⟨hfr.set _, by omega⟩
      · simp -dsimp [I, S, Tt, c]
        exact pcq rfl hfr.2
/-- What is there of a module's types that a type mentions, all in all: nothing. -/
theorem cMentions0 {md : List UInt8} {imps : List Imp} {t : Ty} (ht : TyW t) : Pc Tryz.prog 171 [.agg (mdX md imps), .agg (tyD t)] (.sl 1 []) := by
  refine pc_pub (fun m n => ?_)
  have nn1 : n ≠ n + 1 := by omega
  have n1n : n + 1 ≠ n := by omega
  have nn2 : n ≠ n + 1 + 1 := by omega
  have n2n : n + 1 + 1 ≠ n := by omega
  have n12 : n + 1 ≠ n + 1 + 1 := by omega
  have n21 : n + 1 + 1 ≠ n + 1 := by omega
  have fr : ∀ o o' o'' j, j < n → (((m.set n o).set (n + 1) o').set (n + 1 + 1) o'') j = m j := fun o o' o'' j hj => by rw [set_ne _ _ _ _ (by omega), set_ne _ _ _ _ (by omega), set_ne _ _ _ _ (by omega)]
  have hc := fun m0 (h : m0 n = some ⟨3, [mdX md imps], 0⟩) => cLocals (fp := 200) (cs := [.ptr n 0 0 0, .ptr (n + 1 + 1) 0 0 0]) (m0 := m0) (n0 := n + 1 + 1 + 1) (by simp) (fun l m n' hf => cAdd0 (md := md) (imps := imps) l (by have := hf.1; omega) (by rw [hf.2 n (by omega)]; exact h)) ht m0 (n + 1 + 1 + 1) (.refl _ _)
  have z0 : (mdX md imps).length = 3 := rfl
  have z1 := tyD_len t
  generalize mdX md imps = MM at hc z0
  generalize tyD t = XX at hc z1
  have t0 : List.take 3 MM = MM := List.take_of_length_le (by omega)
  have t1 : List.take 7 XX = XX := List.take_of_length_le (by omega)
  refine acalls_vc [0, 1, 2, 3, 4, 5, 6, 7, 8, 16, 31] Tryz.func171 Tryz.ntmps171 (by kernel_rfl) rfl rfl (by simp) ?_
  simp -dsimp [I, S, Tt, set_ne, nn1, n1n, nn2, n2n, n12, n21, z0, z1, t0, t1]
  refine pcallAt (hc _ (by simp [set_ne, nn1, nn2])) ?_
  simp -dsimp [I, S, Tt, set_ne, nn1, n1n, nn2, n2n, n12, n21, z0, z1, t0, t1]
  refine vloop_as (β := Unit) (fun _ => [(5, .ptr (n + 1 + 1) 0 0 0), (7, I 0)]) (fun _ m2 n2 => m2 (n + 1 + 1) = some ⟨1, [[.v (.slice none 0 0)]], 0⟩ ∧ ∀ j, j < n → m2 j = m j) (fun _ => 0) () (by simp [I]) ⟨by simp, fun j hj => fr _ _ _ j hj⟩ ?_
  rintro _ m2 n2 ⟨e0, frm⟩
  simp -dsimp [I, S, Tt, e0]
  exact pcp (pub_nil 1) frm
theorem cMentionsX {md : List UInt8} {imps : List Imp} {t : Ty} (ht : TyW t) {b : Bool} (hM : Pc Tryz.prog 117 [.agg (mdX md imps)] (Tt b)) : Pc Tryz.prog 126 [.agg (mdX md imps), .agg (tyD t)] (.sl 1 []) := by
  refine pc_pub (fun m n => ?_)
  have nn1 : n ≠ n + 1 := by omega
  have n1n : n + 1 ≠ n := by omega
  have fr : ∀ o o' j, j < n → ((m.set n o).set (n + 1) o') j = m j := fun o o' j hj => by rw [set_ne _ _ _ _ (by omega), set_ne _ _ _ _ (by omega)]
  have h1 : Pc Tryz.prog 80 [.agg (tyD t)] (Tt (mayT t)) := cMay ht
  have h2 := cMentions0 (md := md) (imps := imps) ht
  have z0 : (mdX md imps).length = 3 := rfl
  have z1 := tyD_len t
  generalize mdX md imps = MM at hM h2 z0
  generalize tyD t = XX at h1 h2 z1
  have t0 : List.take 3 MM = MM := List.take_of_length_le (by omega)
  have t1 : List.take 7 XX = XX := List.take_of_length_le (by omega)
  refine acalls_vc [0, 1, 2, 3, 4, 5, 13] Tryz.func126 Tryz.ntmps126 (by kernel_rfl) rfl rfl (by simp) ?_
  simp -dsimp [I, S, Tt, set_ne, nn1, n1n, z0, z1, t0, t1]
  refine pcall hM ?_
  cases b with
  | false =>
    simp -dsimp [I, S, Tt, set_ne, nn1, n1n, z0, z1, t0, t1]
    exact pcp (pub_nil 1) (fr _ _)
  | true =>
    simp -dsimp [I, S, Tt, set_ne, nn1, n1n, z0, z1, t0, t1]
    refine pcall h1 ?_
    cases mayT t with
    | false =>
      simp -dsimp [I, S, Tt, set_ne, nn1, n1n, z0, z1, t0, t1]
      exact pcp (pub_nil 1) (fr _ _)
    | true =>
      simp -dsimp [I, S, Tt, set_ne, nn1, n1n, z0, z1, t0, t1]
      refine pcall h2 ?_
      simp -dsimp [I, S, Tt, set_ne, nn1, n1n, z0, z1, t0, t1]
      refine pcall cSort0 ?_
      simp -dsimp [I, S, Tt, set_ne, nn1, n1n, z0, z1, t0, t1]
      exact pcp (Pur.sl (by simp)).pub (fr _ _)
end Go.Proofs.Mv.App
