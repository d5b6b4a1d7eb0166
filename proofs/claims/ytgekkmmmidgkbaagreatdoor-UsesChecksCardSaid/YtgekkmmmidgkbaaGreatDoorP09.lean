/- A part of the proofs of the seat YtgekkmmmidgkbaaGreatDoor: the abstract machine, the contracts of the functions, the laws. No condition of its own. -/
import Derived.Test.YtgekkmmmidgkbaaGreatDoorP08
import Derived.Test.YtgekkmmmidgkbaaGreatDoorP05
import Derived.Test.YtgekkmmmidgkbaaGreatDoorP07
set_option linter.unusedSimpArgs false
set_option linter.unusedVariables false
set_option linter.unusedSectionVars false
open Go Go.Proofs Go.Proofs.Mv.V
set_option maxRecDepth 10000
namespace Go.Proofs.Mv.App
/-- The reader notes the place of what is amiss in cnt. -/
def failS (c : Nat) (p : PS) : PS := if p.bad = 0 then ⟨p.at_, p.at_, c⟩ else p
theorem failS_bad {c : Nat} {p : PS} (h : ¬ p.bad = 0) : failS c p = p := by simp [failS, h]
def errS (p : PS) : D := if p.bad = 0 then nilE else spotE p.cnt p.bad
theorem pur_errS (p : PS) : Pur (errS p) := by
  unfold errS; split
  · exact pur_nilE
  · exact pur_spotE _ _
def sC (l : List Tok) (p : PS) : List D := [toksD l, I p.at_, errS p]
def sObj (l : List Tok) (p : PS) : V.Obj := ⟨3, [sC l p], 0⟩
theorem pur_sObj (l : List Tok) (p : PS) : ∀ e ∈ (sObj l p).es, ∀ d ∈ e, Pur d := by
  intro e he d hd
  simp only [sObj, List.mem_singleton] at he
  subst he
  simp only [sC, List.mem_cons, List.not_mem_nil, or_false] at hd
  rcases hd with rfl | rfl | rfl
  · exact pur_toks _
  · exact pur_I _
  · exact pur_errS _
/-- Passes the token at hand, if it is fine. -/
def takeF (fine : Bool) (l : List Tok) (p : PS) : List UInt8 × PS := if fine then (curT l p, stepF p) else ([], failS 2 p)
def isKey (s : List UInt8) (l : List Tok) (p : PS) : Bool := match cur l p with
  | some t => decide (t.kind = 1) && decide (t.text = s)
  | none => false
theorem pk_key {l : List Tok} {p : PS} {kd a : Int} {tx : List UInt8} (hp : Pk l p kd a tx) (s : List UInt8) : isKey s l p = (decide (kd = 1) && decide (tx = s)) := by
  rcases hp.cu with ⟨h, rfl⟩ | h <;> simp [isKey, h]
def mustS (s : List UInt8) (l : List Tok) (p : PS) : PS := (takeF (isSig s l p) l p).2
def nameS (g : Bool) (l : List Tok) (p : PS) : List UInt8 × PS := takeF (isNam g l p) l p
def numS (l : List Tok) (p : PS) : PS := (takeF (isNum l p) l p).2
def typS (l : List Tok) (p : PS) : Ty × PS :=
  if p.bad = 0 then match (atF l p.at_).2.2 with
    | some (a, c) => (Ty0, ⟨0, a.toNat, c⟩)
    | none => ((atF l p.at_).1, ⟨(atF l p.at_).2.1, p.cnt, 0⟩)
  else (Ty0, p)
theorem atF_nn {l : List Tok} {q : Nat} {a : Int} {c : Nat} (h : (atF l (q : Int)).2.2 = some (a, c)) : 0 ≤ a := by
  unfold atF at h
  split at h
  · simp at h; omega
  · split at h
    · simp at h; omega
    · cases h
theorem takeF_ok {f : Bool} {l : List Tok} {p : PS} (h : (takeF f l p).2.bad = 0) : f = true ∧ p.bad = 0 := by
  cases f with
  | true => exact ⟨rfl, by simpa [takeF, stepF] using h⟩
  | false =>
    simp only [takeF, failS, Bool.false_eq_true, if_false] at h
    split at h
    · simp at h
    · rename_i h1; exact absurd h h1
theorem key_ok {l : List Tok} (hl : TkOk l) {p : PS} {s : List UInt8} (h : isKey s l p = true) : p.bad = 0 ∧ p.at_ < l.length := by
  obtain ⟨kd, a, tx, hp⟩ := pk_of hl p
  rw [pk_key hp] at h; simp at h
  exact hp.ok (by omega)
theorem typS_ok {l : List Tok} {p : PS} (h : (typS l p).2.bad = 0) : p.bad = 0 := by
  by_cases hb : p.bad = 0
  · exact hb
  · rw [typS, if_neg hb] at h; exact h
structure Imp where
  pkg : List UInt8
  major : Int
  mod : List UInt8
  as_ : List UInt8
def impD (i : Imp) : List D := [S i.pkg, I i.major, S i.mod, S i.as_]
def wAs : List UInt8 := [97, 115]
def imp1 (l : List Tok) (p : PS) : List UInt8 × PS := nameS false l p
def imp2 (l : List Tok) (p : PS) : PS := numS l (imp1 l p).2
def imp3 (l : List Tok) (p : PS) : List UInt8 × PS := nameS false l (imp2 l p)
def imp4 (l : List Tok) (p : PS) : PS := (takeF (isKey wAs l (imp3 l p).2) l (imp3 l p).2).2
def imp5 (l : List Tok) (p : PS) : List UInt8 × PS := nameS false l (imp4 l p)
def impF (l : List Tok) (p : PS) : Imp × PS := (⟨(imp1 l p).1, decF (curT l (imp1 l p).2), (imp3 l p).1, (imp5 l p).1⟩, (imp5 l p).2)
theorem impF_ok {l : List Tok} {p : PS} (h : (impF l p).2.bad = 0) : isNum l (imp1 l p).2 = true ∧ p.bad = 0 := by
  have h5 := takeF_ok (show (takeF _ l (imp4 l p)).2.bad = 0 from h)
  have h4 := takeF_ok (show (takeF _ l (imp3 l p).2).2.bad = 0 from h5.2)
  have h3 := takeF_ok (show (takeF _ l (imp2 l p)).2.bad = 0 from h4.2)
  have h2 := takeF_ok (show (takeF _ l (imp1 l p).2).2.bad = 0 from h3.2)
  have h1 := takeF_ok (show (takeF _ l p).2.bad = 0 from h2.2)
  exact ⟨h2.1, h1.2⟩
theorem pur_imp (i : Imp) : Pur (.agg (impD i)) := Pur.agg (by
  intro d hd
  simp only [impD, List.mem_cons, List.not_mem_nil, or_false] at hd
  rcases hd with rfl | rfl | rfl | rfl
  · exact pur_S _
  · exact pur_I _
  · exact pur_S _
  · exact pur_S _)
theorem sObj_step {l : List Tok} {p : PS} (h : p.bad = 0) : sObj l (stepF p) = ⟨3, [[toksD l, .v (.int .i64 ((p.at_ : Int) + 1)), .v .nilIface]], 0⟩ := by
  simp [sObj, sC, stepF, errS, h, I, nilE]
def wImp : List UInt8 := [105, 109, 112, 111, 114, 116]
def impsF (l : List Tok) : Nat → List Imp → PS → List Imp × PS
  | 0, acc, p => (acc, p)
  | k + 1, acc, p => if isKey wImp l p then
      (if 20 ≤ acc.length then (acc, failS 3 p) else impsF l k (acc ++ [(impF l (stepF p)).1]) (impF l (stepF p)).2) else (acc, p)
theorem pur_imps {l : List Imp} : ∀ e ∈ l.map impD, ∀ d ∈ e, Pur d := by
  intro e he d hd
  obtain ⟨i, _, rfl⟩ := List.mem_map.1 he
  simp only [impD, List.mem_cons, List.not_mem_nil, or_false] at hd
  rcases hd with rfl | rfl | rfl | rfl
  · exact pur_S _
  · exact pur_I _
  · exact pur_S _
  · exact pur_S _
def numV (l : List Tok) (p : PS) : Int := if isNum l p then decF (curT l p) else 0
def impR (l : List Tok) (q : PS) : Imp := ⟨(imp1 l q).1, numV l (imp1 l q).2, (imp3 l q).1, (imp5 l q).1⟩
theorem impR_ok {l : List Tok} {q : PS} (h : (impF l q).2.bad = 0) : impR l q = (impF l q).1 := by
  simp [impR, impF, numV, (impF_ok h).1]
end Go.Proofs.Mv.App
open Go Go.Proofs Go.Proofs.Mv.V
set_option maxRecDepth 10000
namespace Go.Proofs.Mv.App
/-- Is the token at hand of a kind, and fine? -/
def kF (kd : Int) (ok : List UInt8 → Bool) (l : List Tok) (p : PS) : Bool := match cur l p with
  | some t => decide (t.kind = kd) && ok t.text
  | none => false
theorem pk_kF {l : List Tok} {p : PS} {kd a : Int} {tx : List UInt8} (hp : Pk l p kd a tx) {k : Int} (hk : k ≠ 0) (ok : List UInt8 → Bool) : kF k ok l p = (decide (kd = k) && ok tx) := by
  rcases hp.cu with ⟨h, rfl⟩ | h
  · have : ¬ (0 : Int) = k := fun e => hk e.symm
    simp [kF, h, this]
  · simp [kF, h]
theorem kF_nam (g : Bool) (l : List Tok) (p : PS) : kF (if g then 2 else 1) (namOk g) l p = isNam g l p := by
  unfold kF isNam; cases cur l p <;> rfl
theorem kF_sig (s : List UInt8) (l : List Tok) (p : PS) : kF 4 (fun t => t == s) l p = isSig s l p := by
  unfold kF isSig; cases cur l p
  · rfl
  · rw [Bool.eq_iff_iff]; simp
theorem kF_key (s : List UInt8) (l : List Tok) (p : PS) : kF 1 (fun t => t == s) l p = isKey s l p := by
  unfold kF isKey; cases cur l p
  · rfl
  · rw [Bool.eq_iff_iff]; simp
theorem kF_num (l : List Tok) (p : PS) : kF 3 numOk l p = isNum l p := by
  unfold kF isNum; cases cur l p <;> rfl
structure Ln where
  kind : Int
  mod : List UInt8
  name : List UInt8
  typ : Ty
def lnD (x : Ln) : List D := I x.kind :: S x.mod :: S x.name :: tyD x.typ
theorem pur_ln (x : Ln) : ∀ d ∈ lnD x, Pur d := by
  intro d hd
  simp only [lnD, List.mem_cons] at hd
  rcases hd with rfl | rfl | rfl | hd
  · exact pur_I _
  · exact pur_S _
  · exact pur_S _
  · exact pur_ty _ d hd
theorem pur_lns {l : List Ln} : ∀ e ∈ l.map lnD, ∀ d ∈ e, Pur d := by
  intro e he d hd
  obtain ⟨i, _, rfl⟩ := List.mem_map.1 he
  exact pur_ln i d hd
@[simp] theorem lnD_len (x : Ln) : (lnD x).length = 10 := by simp [lnD, tyD_len]
def wUse : List UInt8 := [117, 115, 101]
def wIs : List UInt8 := [105, 115]
/-- A line, from its key on: its parts, one behind the other. -/
def ln1 (l : List Tok) (q : PS) : List UInt8 × PS := nameS false l q
def ln2 (l : List Tok) (q : PS) : PS := mustS [46] l (ln1 l q).2
def ln3 (g : Bool) (l : List Tok) (q : PS) : List UInt8 × PS := nameS g l (ln2 l q)
def ln4 (g : Bool) (l : List Tok) (q : PS) : PS := mustS (if g then [61] else [58]) l (ln3 g l q).2
def ln5 (g : Bool) (l : List Tok) (q : PS) : Ty × PS := typS l (ln4 g l q)
def lineF (l : List Tok) (p : PS) : Ln × PS :=
  (⟨if isKey wIs l p then 2 else 1, (ln1 l (stepF p)).1, (ln3 (isKey wIs l p) l (stepF p)).1, (ln5 (isKey wIs l p) l (stepF p)).1⟩, (ln5 (isKey wIs l p) l (stepF p)).2)
theorem lineF_ok {l : List Tok} {p : PS} (h : (lineF l p).2.bad = 0) : p.bad = 0 := by
  have h5 : (ln4 (isKey wIs l p) l (stepF p)).bad = 0 := typS_ok h
  have h4 := (takeF_ok h5).2
  have h3 := (takeF_ok (show (takeF _ l (ln2 l (stepF p))).2.bad = 0 from h4)).2
  have h2 := (takeF_ok h3).2
  exact (takeF_ok (p := stepF p) h2).2
def isLine (l : List Tok) (p : PS) : Bool := isKey wUse l p || isKey wIs l p
def linesF (l : List Tok) : Nat → List Ln → PS → List Ln × PS
  | 0, acc, p => (acc, p)
  | k + 1, acc, p => if isLine l p then
      (if 60 ≤ acc.length then (acc, failS 3 p) else linesF l k (acc ++ [(lineF l p).1]) (lineF l p).2) else (acc, p)
theorem linesF_ok {l : List Tok} : ∀ (k : Nat) (acc : List Ln) (p : PS), (linesF l k acc p).2.bad = 0 → p.bad = 0
  | 0, _, _, h => h
  | k + 1, acc, p, h => by
    simp only [linesF] at h
    split at h
    · split at h
      · by_cases hb : p.bad = 0
        · exact hb
        · rw [failS_bad hb] at h; exact h
      · exact lineF_ok (linesF_ok k _ _ h)
    · exact h
structure Us where
  imps : List Imp
  lines : List Ln
def usD (x : Us) : List D := [.sl 4 (x.imps.map impD), .sl 10 (x.lines.map lnD)]
def Us0 : Us := ⟨[], []⟩
def uiP (l : List Tok) : List Imp × PS := impsF l 21 [] ⟨0, 0, 0⟩
def ulP (l : List Tok) : List Ln × PS := linesF l 61 [] (uiP l).2
def ueP (l : List Tok) : PS := if (ulP l).2.at_ < l.length then failS 2 (ulP l).2 else (ulP l).2
def usesF (s : List UInt8) : Us × PErr :=
  if 20000 < s.length then (Us0, .large)
  else match (toksAt s 0).2 with
    | some a => (Us0, .spot a 2)
    | Option.none => if (ueP (toksAt s 0).1).bad = 0 then (⟨(uiP (toksAt s 0).1).1, (ulP (toksAt s 0).1).1⟩, .none)
      else (Us0, .spot (ueP (toksAt s 0).1).cnt (ueP (toksAt s 0).1).bad)
end Go.Proofs.Mv.App
open Go Go.Proofs Go.Proofs.Mv.V
set_option maxRecDepth 10000
namespace Go.Proofs.Mv.App
structure ImpWU (i : Imp) : Prop where
  h1 : i.pkg.length ≤ 9223372036854775807
  h2 : i.mod.length ≤ 9223372036854775807
  h3 : i.as_.length ≤ 9223372036854775807
structure LnW (d : Ln) : Prop where
  h1 : d.mod.length ≤ 9223372036854775807
  h2 : d.name.length ≤ 9223372036854775807
  h3 : TyW d.typ
structure UsW (x : Us) : Prop where
  h1 : x.imps.length ≤ 9223372036854775807
  h2 : x.lines.length ≤ 9223372036854775807
  h3 : ∀ i ∈ x.imps, ImpWU i
  h4 : ∀ d ∈ x.lines, LnW d
@[simp] theorem impD_len (i : Imp) : (impD i).length = 4 := rfl
def impOkU (i : Imp) : Bool := smallN i.pkg && smallN i.mod && smallN i.as_ && decide (1 ≤ i.major) && decide (i.major ≤ 999999999)
def lnNm (d : Ln) : Bool := (decide (d.kind = 1) && smallN d.name) || (decide (d.kind = 2) && greatN d.name)
def lnOk (d : Ln) : Bool := lnNm d && smallN d.mod && mayT d.typ
def mayU (x : Us) : Bool := decide (x.imps.length ≤ 20) && decide (x.lines.length ≤ 60) && x.imps.all impOkU && x.lines.all lnOk
def fewLn (d : Ln) : Bool := few3 d.typ && decide (d.name.length ≤ 500)
def fewU (x : Us) : Bool := decide (x.imps.length ≤ 100) && decide (x.lines.length ≤ 100) && x.lines.all fewLn
theorem mayU_parts {x : Us} (h : mayU x = true) : x.imps.length ≤ 20 ∧ x.lines.length ≤ 60 ∧ (∀ i ∈ x.imps, impOkU i = true) ∧ ∀ d ∈ x.lines, lnOk d = true := by
  simp only [mayU, Bool.and_eq_true, decide_eq_true_eq, List.all_eq_true] at h
  exact ⟨h.1.1.1, h.1.1.2, h.1.2, h.2⟩
theorem few3_manyU {t : Ty} (h : few3 t = true) : manyT t ≤ 3000 := by
  simp only [few3, decide_eq_true_eq] at h
  have := fewT_spec t 3000 h
  omega
theorem fewU_parts {x : Us} (h : fewU x = true) : x.imps.length ≤ 100 ∧ x.lines.length ≤ 100 ∧ ∀ d ∈ x.lines, few3 d.typ = true := by
  simp only [fewU, Bool.and_eq_true, decide_eq_true_eq, List.all_eq_true] at h
  exact ⟨h.1.1, h.1.2, fun d hd => by have := h.2 d hd; simp only [fewLn, Bool.and_eq_true] at this; exact this.1⟩
end Go.Proofs.Mv.App
open Go Go.Proofs Go.Proofs.Mv.V
set_option maxRecDepth 10000
namespace Go.Proofs.Mv.App
structure Ifc where
  pkg : List UInt8
  major : Int
  mod : List UInt8
  types : List Nm
  vals : List Nm
def nnD [GI] (x : Nm) : List D := S x.1 :: tyD x.2
def ifD [GI] (f : Ifc) : List D := [S f.pkg, I f.major, S f.mod, .sl 8 (f.types.map nnD), .sl 8 (f.vals.map nnD)]
def Ifc0 : Ifc := ⟨[], 0, [], [], []⟩
/-- An import's interface. -/
def forI (i : Imp) (f : Ifc) : Bool := decide (f.pkg = i.pkg) && decide (f.major = i.major) && decide (f.mod = i.mod)
def findF (env : List Ifc) (i : Imp) : Option Ifc := env.find? (forI i)
/-- The type of a name. -/
def ofF (l : List Nm) (s : List UInt8) : Option Ty := (l.find? fun x => decide (x.1 = s)).map (·.2)
/-- What the environment has of a Local with a Mod, plain or not. -/
def rawF (imps : List Imp) (env : List Ifc) (md nm : List UInt8) : Option Ty :=
  (imps.find? fun i => decide (i.as_ = md)).bind fun i => ofF ((findF env i).getD Ifc0).types nm
def plainM (t : Ty) : Bool := mayT t && plainT t
mutual
/-- Are all Locals of a type fine? -/
def eachT (q : Ty → Bool) : Ty → Bool
  | .mk kind pkg major mod name names subs => (!(decide (kind = 8)) || q (.mk kind pkg major mod name names subs)) && eachTs q subs
def eachTs (q : Ty → Bool) : List Ty → Bool
  | [] => true
  | t :: ts => eachT q t && eachTs q ts
end
theorem eachTs_eq (q : Ty → Bool) : ∀ l : List Ty, eachTs q l = l.all (eachT q)
  | [] => by simp [eachTs]
  | t :: ts => by simp [eachTs, eachTs_eq q ts]
def knownT (imps : List Imp) (t : Ty) : Bool := decide (t.mod ≠ []) && imps.any fun i => decide (i.as_ = t.mod)
def hadT (imps : List Imp) (env : List Ifc) (t : Ty) : Bool := decide (t.mod = []) || (rawF imps env t.mod t.name).any plainM
/-- Lengths. -/
structure NmW (x : Nm) : Prop where
  h1 : x.1.length ≤ 9223372036854775807
  h2 : TyW x.2
structure IfcW (f : Ifc) : Prop where
  h1 : f.types.length ≤ 9223372036854775807
  h2 : f.vals.length ≤ 9223372036854775807
  h3 : ∀ x ∈ f.types, NmW x
  h4 : ∀ x ∈ f.vals, NmW x
  h5 : f.pkg.length ≤ 9223372036854775807
  h6 : f.mod.length ≤ 9223372036854775807
theorem findI_some {α : Type} {q : α → Bool} : ∀ {l : List α}, 0 ≤ findI q l → ∃ (i : Nat) (h : i < l.length), findI q l = i ∧ l.find? q = some l[i]
  | [], h => by simp [findI] at h
  | x :: l, h => by
    by_cases e : q x = true
    · exact ⟨0, by simp, by simp [findI, e], by simp [e]⟩
    · simp only [findI, if_neg e] at h ⊢
      by_cases c : findI q l < 0
      · rw [if_pos c] at h; omega
      · obtain ⟨i, hi, h1, h2⟩ := findI_some (q := q) (l := l) (by omega)
        refine ⟨i + 1, by simpa using hi, by rw [if_neg c, h1]; rfl, ?_⟩
        rw [List.find?_cons_of_neg (by simpa using e), h2]; simp
theorem findI_none {α : Type} {q : α → Bool} {l : List α} (h : findI q l < 0) : l.find? q = none := by
  have h1 : ¬ (l.any q = true) := fun e => by have := (findI_any q l).2 e; omega
  rw [List.find?_eq_none]
  intro x hx e
  exact h1 (List.any_eq_true.2 ⟨x, hx, e⟩)
variable [GI]
@[simp] theorem nnD_len (x : Nm) : (nnD x).length = 8 := by simp [nnD, tyD_len]
@[simp] theorem ifD_len (f : Ifc) : (ifD f).length = 5 := rfl
theorem pur_nn (x : Nm) : ∀ d ∈ nnD x, Pur d := by
  intro d hd
  simp only [nnD, List.mem_cons] at hd
  rcases hd with rfl | hd
  · exact pur_S _
  · exact pur_ty _ d hd
theorem pur_nns {l : List Nm} : ∀ e ∈ l.map nnD, ∀ d ∈ e, Pur d := by
  intro e he d hd
  obtain ⟨i, _, rfl⟩ := List.mem_map.1 he
  exact pur_nn i d hd
theorem pur_if (f : Ifc) : ∀ d ∈ ifD f, Pur d := by
  intro d hd
  simp only [ifD, List.mem_cons, List.not_mem_nil, or_false] at hd
  rcases hd with rfl | rfl | rfl | rfl | rfl
  · exact pur_S _
  · exact pur_I _
  · exact pur_S _
  · exact Pur.sl pur_nns
  · exact Pur.sl pur_nns
/-- A call at one memory hands d back, and leaves nothing. -/
def PcAt (P : Program) (f : FuncId) (args : List D) (d : D) (m : Mem) (n : Nat) : Prop := ACalls P f args m n (fun d' m' n' => d' = d ∧ m' = m ∧ n' = n)
section
variable {P : Program} {f : FuncId} {args : List D} {d : D} {m : Mem} {n : Nat}
theorem Pc.at (h : Pc P f args d) : PcAt P f args d m n := h m n
theorem pcat_of (hp : Pur d) (h : ACalls P f args m n (PcQ d m n)) : PcAt P f args d m n := by
  refine acalls_done h ?_
  rintro d' m' n' ⟨rfl, hf⟩
  exact ⟨_, hp.pub, hf, rfl⟩
/-- What a function leaves that hands on what reads as d. -/
def PcP (d : D) (m : Mem) (n : Nat) : D → Mem → Nat → Prop := Hq (fun d' m' _ => PubAs n m' d' d ∧ ∀ j, j < n → m' j = m j) tg
theorem pcp {m' : Mem} {n' : Nat} {d' : D} (h : PubAs n m' d' d) (hf : ∀ j, j < n → m' j = m j) : PcP d m n d' m' n' := ⟨h, hf⟩
theorem pcat_pub (h : ACalls P f args m n (PcP d m n)) : PcAt P f args d m n := by
  refine acalls_done h ?_
  rintro d' m' n' ⟨h1, h2⟩
  exact ⟨_, h1, h2, rfl⟩
theorem pc_pub (h : ∀ m n, ACalls P f args m n (PcP d m n)) : Pc P f args d := fun m n => pcat_pub (h m n)
theorem pcallAt {K : D → Mem → Nat → Prop} {u : Tg K () ()} (h : PcAt P f args d m n) (hk : K d m n) : aCall P f args m n K u :=
  aCall_of h fun _ _ _ ⟨e1, e2, e3⟩ => by rw [e1, e2, e3]; exact hk
end
end Go.Proofs.Mv.App
open Go Go.Proofs Go.Proofs.Mv.V
set_option maxRecDepth 10000
namespace Go.Proofs.Mv.App
variable [GI]
theorem cIdxIfc {l : List (Ifc)} {q : Ifc → Bool} {fp : FuncId} {cs : List D} {m : Mem} {n : Nat} (hcs : List.length cs ≤ 3) (hp : ∀ x ∈ l, PcAt Tryz.prog fp (.agg (ifD x) :: cs) (Tt (q x)) m n) (hlen : l.length ≤ 9223372036854775807) :
    PcAt Tryz.prog 87 [.sl 5 (l.map ifD), .func (.func fp) [] cs] (I (findI q l)) m n := by
  refine pcat_of (pur_I _) ?_
  have hL2 : (l.map ifD).length = l.length := by simp
  have hG2 : ∀ i (h : i < l.length), (l.map ifD)[i]? = some (ifD l[i]) := fun i h => by simp [h]
  generalize l.map ifD = EL at hL2 hG2
  refine acalls_vc [0, 1, 4, 5, 7, 8, 9, 16] Tryz.func87 Tryz.ntmps87 (by kernel_rfl) rfl rfl (by simp) ?_
  simp -dsimp [hL2, I]
  refine vloop_as (β := Nat) (fun i => [(0, .sl 5 EL), (1, .func (.func fp) [] cs), (7, I l.length), (8, I i)]) (fun i m2 n2 => m2 = m ∧ n2 = n ∧ i ≤ l.length ∧ ∀ x ∈ l.take i, q x = false) (fun i => l.length - i) 0 (by simp [I]) ⟨rfl, rfl, by omega, by simp⟩ ?_
  rintro i m2 n2 ⟨rfl, rfl, le, hno⟩
  by_cases hi : (i : Int) < l.length
  · have hi' : i < l.length := by omega
    have wi : IntKind.i64.wrap ((i : Int) + 1) = (i : Int) + 1 := wrap_i64 (by omega) (by omega)
    have hiN : i < EL.length := by omega
    have hgi : EL[i] = ifD l[i] := get_opt (hG2 i hi') hiN
    have hz : (ifD l[i]).length = 5 := by simp
    have hc := hp l[i] (List.getElem_mem hi')
    generalize ifD l[i] = XX at hgi hz hc
    have htz : List.take 5 XX = XX := List.take_of_length_le (by omega)
    simp -dsimp [I, Tt, hi, hi', hiN, hgi, hz, htz]
    refine pcallAt hc ?_
    cases e : q l[i] with
    | true =>
      simp -dsimp [I, Tt]
      exact pcq' (by rw [findI_hit hi' e hno])
    | false =>
      simp -dsimp [I, Tt, wi]
      refine rnd (i + 1) (by omega) (by simp [I]) ⟨rfl, rfl, by omega, fun x hx => ?_⟩
      rw [List.take_succ_eq_append_getElem hi'] at hx
      rcases List.mem_append.1 hx with hx | hx
      · exact hno x hx
      · simp at hx; rw [hx]; exact e
  · have : i = l.length := by omega
    subst this
    rw [List.take_length] at hno
    simp -dsimp [I, Tt, hi]
    exact pcq' (by rw [findI_no hno])
theorem cIdxNn {l : List (Nm)} {q : Nm → Bool} {fp : FuncId} {cs : List D} {m : Mem} {n : Nat} (hcs : List.length cs ≤ 3) (hp : ∀ x ∈ l, PcAt Tryz.prog fp (.agg (nnD x) :: cs) (Tt (q x)) m n) (hlen : l.length ≤ 9223372036854775807) :
    PcAt Tryz.prog 130 [.sl 8 (l.map nnD), .func (.func fp) [] cs] (I (findI q l)) m n := by
  refine pcat_of (pur_I _) ?_
  have hL2 : (l.map nnD).length = l.length := by simp
  have hG2 : ∀ i (h : i < l.length), (l.map nnD)[i]? = some (nnD l[i]) := fun i h => by simp [h]
  generalize l.map nnD = EL at hL2 hG2
  refine acalls_vc [0, 1, 4, 5, 7, 8, 9, 16] Tryz.func130 Tryz.ntmps130 (by kernel_rfl) rfl rfl (by simp) ?_
  simp -dsimp [hL2, I]
  refine vloop_as (β := Nat) (fun i => [(0, .sl 8 EL), (1, .func (.func fp) [] cs), (7, I l.length), (8, I i)]) (fun i m2 n2 => m2 = m ∧ n2 = n ∧ i ≤ l.length ∧ ∀ x ∈ l.take i, q x = false) (fun i => l.length - i) 0 (by simp [I]) ⟨rfl, rfl, by omega, by simp⟩ ?_
  rintro i m2 n2 ⟨rfl, rfl, le, hno⟩
  by_cases hi : (i : Int) < l.length
  · have hi' : i < l.length := by omega
    have wi : IntKind.i64.wrap ((i : Int) + 1) = (i : Int) + 1 := wrap_i64 (by omega) (by omega)
    have hiN : i < EL.length := by omega
    have hgi : EL[i] = nnD l[i] := get_opt (hG2 i hi') hiN
    have hz : (nnD l[i]).length = 8 := by simp
    have hc := hp l[i] (List.getElem_mem hi')
    generalize nnD l[i] = XX at hgi hz hc
    have htz : List.take 8 XX = XX := List.take_of_length_le (by omega)
    simp -dsimp [I, Tt, hi, hi', hiN, hgi, hz, htz]
    refine pcallAt hc ?_
    cases e : q l[i] with
    | true =>
      simp -dsimp [I, Tt]
      exact pcq' (by rw [findI_hit hi' e hno])
    | false =>
      simp -dsimp [I, Tt, wi]
      refine rnd (i + 1) (by omega) (by simp [I]) ⟨rfl, rfl, by omega, fun x hx => ?_⟩
      rw [List.take_succ_eq_append_getElem hi'] at hx
      rcases List.mem_append.1 hx with hx | hx
      · exact hno x hx
      · simp at hx; rw [hx]; exact e
  · have : i = l.length := by omega
    subst this
    rw [List.take_length] at hno
    simp -dsimp [I, Tt, hi]
    exact pcq' (by rw [findI_no hno])
theorem cIdxImA {l : List (Imp)} {q : Imp → Bool} {fp : FuncId} {cs : List D} {m : Mem} {n : Nat} (hcs : List.length cs ≤ 3) (hp : ∀ x ∈ l, PcAt Tryz.prog fp (.agg (impD x) :: cs) (Tt (q x)) m n) (hlen : l.length ≤ 9223372036854775807) :
    PcAt Tryz.prog 43 [.sl 4 (l.map impD), .func (.func fp) [] cs] (I (findI q l)) m n := by
  refine pcat_of (pur_I _) ?_
  have hL2 : (l.map impD).length = l.length := by simp
  have hG2 : ∀ i (h : i < l.length), (l.map impD)[i]? = some (impD l[i]) := fun i h => by simp [h]
  generalize l.map impD = EL at hL2 hG2
  refine acalls_vc [0, 1, 4, 5, 7, 8, 9, 16] Tryz.func43 Tryz.ntmps43 (by kernel_rfl) rfl rfl (by simp) ?_
  simp -dsimp [hL2, I]
  refine vloop_as (β := Nat) (fun i => [(0, .sl 4 EL), (1, .func (.func fp) [] cs), (7, I l.length), (8, I i)]) (fun i m2 n2 => m2 = m ∧ n2 = n ∧ i ≤ l.length ∧ ∀ x ∈ l.take i, q x = false) (fun i => l.length - i) 0 (by simp [I]) ⟨rfl, rfl, by omega, by simp⟩ ?_
  rintro i m2 n2 ⟨rfl, rfl, le, hno⟩
  by_cases hi : (i : Int) < l.length
  · have hi' : i < l.length := by omega
    have wi : IntKind.i64.wrap ((i : Int) + 1) = (i : Int) + 1 := wrap_i64 (by omega) (by omega)
    have hiN : i < EL.length := by omega
    have hgi : EL[i] = impD l[i] := get_opt (hG2 i hi') hiN
    have hz : (impD l[i]).length = 4 := by simp
    have hc := hp l[i] (List.getElem_mem hi')
    generalize impD l[i] = XX at hgi hz hc
    have htz : List.take 4 XX = XX := List.take_of_length_le (by omega)
    simp -dsimp [I, Tt, hi, hi', hiN, hgi, hz, htz]
    refine pcallAt hc ?_
    cases e : q l[i] with
    | true =>
      simp -dsimp [I, Tt]
      exact pcq' (by rw [findI_hit hi' e hno])
    | false =>
      simp -dsimp [I, Tt, wi]
      refine rnd (i + 1) (by omega) (by simp [I]) ⟨rfl, rfl, by omega, fun x hx => ?_⟩
      rw [List.take_succ_eq_append_getElem hi'] at hx
      rcases List.mem_append.1 hx with hx | hx
      · exact hno x hx
      · simp at hx; rw [hx]; exact e
  · have : i = l.length := by omega
    subst this
    rw [List.take_length] at hno
    simp -dsimp [I, Tt, hi]
    exact pcq' (by rw [findI_no hno])
theorem cHasImA {l : List (Imp)} {q : Imp → Bool} {fp : FuncId} {cs : List D} {m : Mem} {n : Nat} (hcs : List.length cs ≤ 3) (hp : ∀ x ∈ l, PcAt Tryz.prog fp (.agg (impD x) :: cs) (Tt (q x)) m n) (hlen : l.length ≤ 9223372036854775807) :
    PcAt Tryz.prog 18 [.sl 4 (l.map impD), .func (.func fp) [] cs] (Tt (l.any q)) m n := by
  refine pcat_of (pur_T _) ?_
  have hc := cIdxImA hcs hp hlen
  generalize l.map impD = EL at hc
  refine acalls_vc [0, 1, 4] Tryz.func18 Tryz.ntmps18 (by kernel_rfl) rfl rfl (by simp) ?_
  simp -dsimp
  refine pcallAt hc ?_
  have h := findI_any q l
  cases e : l.any q with
  | true =>
    have : 0 ≤ findI q l := h.2 e
    simp -dsimp [I, Tt, this]
    exact pcq' rfl
  | false =>
    have : ¬ 0 ≤ findI q l := fun h' => by rw [h.1 h'] at e; cases e
    simp -dsimp [I, Tt, this]
    exact pcq' rfl
theorem cIdxTyA {l : List (Ty)} {q : Ty → Bool} {fp : FuncId} {cs : List D} {m : Mem} {n : Nat} (hcs : List.length cs ≤ 3) (hp : ∀ x ∈ l, PcAt Tryz.prog fp (.agg (tyD x) :: cs) (Tt (q x)) m n) (hlen : l.length ≤ 9223372036854775807) :
    PcAt Tryz.prog 166 [.sl 7 (l.map tyD), .func (.func fp) [] cs] (I (findI q l)) m n := by
  refine pcat_of (pur_I _) ?_
  have hL2 : (l.map tyD).length = l.length := by simp
  have hG2 : ∀ i (h : i < l.length), (l.map tyD)[i]? = some (tyD l[i]) := fun i h => by simp [h]
  generalize l.map tyD = EL at hL2 hG2
  refine acalls_vc [0, 1, 4, 5, 7, 8, 9, 16] Tryz.func166 Tryz.ntmps166 (by kernel_rfl) rfl rfl (by simp) ?_
  simp -dsimp [hL2, I]
  refine vloop_as (β := Nat) (fun i => [(0, .sl 7 EL), (1, .func (.func fp) [] cs), (7, I l.length), (8, I i)]) (fun i m2 n2 => m2 = m ∧ n2 = n ∧ i ≤ l.length ∧ ∀ x ∈ l.take i, q x = false) (fun i => l.length - i) 0 (by simp [I]) ⟨rfl, rfl, by omega, by simp⟩ ?_
  rintro i m2 n2 ⟨rfl, rfl, le, hno⟩
  by_cases hi : (i : Int) < l.length
  · have hi' : i < l.length := by omega
    have wi : IntKind.i64.wrap ((i : Int) + 1) = (i : Int) + 1 := wrap_i64 (by omega) (by omega)
    have hiN : i < EL.length := by omega
    have hgi : EL[i] = tyD l[i] := get_opt (hG2 i hi') hiN
    have hz : (tyD l[i]).length = 7 := by simp
    have hc := hp l[i] (List.getElem_mem hi')
    generalize tyD l[i] = XX at hgi hz hc
    have htz : List.take 7 XX = XX := List.take_of_length_le (by omega)
    simp -dsimp [I, Tt, hi, hi', hiN, hgi, hz, htz]
    refine pcallAt hc ?_
    cases e : q l[i] with
    | true =>
      simp -dsimp [I, Tt]
      exact pcq' (by rw [findI_hit hi' e hno])
    | false =>
      simp -dsimp [I, Tt, wi]
      refine rnd (i + 1) (by omega) (by simp [I]) ⟨rfl, rfl, by omega, fun x hx => ?_⟩
      rw [List.take_succ_eq_append_getElem hi'] at hx
      rcases List.mem_append.1 hx with hx | hx
      · exact hno x hx
      · simp at hx; rw [hx]; exact e
  · have : i = l.length := by omega
    subst this
    rw [List.take_length] at hno
    simp -dsimp [I, Tt, hi]
    exact pcq' (by rw [findI_no hno])
theorem cHasTyA {l : List (Ty)} {q : Ty → Bool} {fp : FuncId} {cs : List D} {m : Mem} {n : Nat} (hcs : List.length cs ≤ 3) (hp : ∀ x ∈ l, PcAt Tryz.prog fp (.agg (tyD x) :: cs) (Tt (q x)) m n) (hlen : l.length ≤ 9223372036854775807) :
    PcAt Tryz.prog 120 [.sl 7 (l.map tyD), .func (.func fp) [] cs] (Tt (l.any q)) m n := by
  refine pcat_of (pur_T _) ?_
  have hc := cIdxTyA hcs hp hlen
  generalize l.map tyD = EL at hc
  refine acalls_vc [0, 1, 4] Tryz.func120 Tryz.ntmps120 (by kernel_rfl) rfl rfl (by simp) ?_
  simp -dsimp
  refine pcallAt hc ?_
  have h := findI_any q l
  cases e : l.any q with
  | true =>
    have : 0 ≤ findI q l := h.2 e
    simp -dsimp [I, Tt, this]
    exact pcq' rfl
  | false =>
    have : ¬ 0 ≤ findI q l := fun h' => by rw [h.1 h'] at e; cases e
    simp -dsimp [I, Tt, this]
    exact pcq' rfl
set_option maxHeartbeats 1000000 in
theorem cFindE1 {f : Ifc} {i : Imp} {k : Nat} {m : Mem} {n : Nat} (hk : k < n) (hm : m k = some ⟨4, [impD i], 0⟩) : PcAt Tryz.prog 88 [.agg (ifD f), .ptr k 0 0 0] (Tt (forI i f)) m n := by
  refine pcat_of (pur_T _) ?_
  have kn : k ≠ n := by omega
  have nk : n ≠ k := by omega
  have fr : ∀ o j, j < n → (m.set n o) j = m j := fun o j hj => set_ne _ _ _ _ (by omega)
  obtain ⟨p1, j1, m1, t1, v1⟩ := f
  obtain ⟨p2, j2, m2, a2⟩ := i
  simp only [ifD, impD, forI] at hm ⊢
  generalize List.map nnD t1 = TL
  generalize List.map nnD v1 = VL
  refine acalls_vc [0, 1, 2, 3] Tryz.func88 Tryz.ntmps88 (by kernel_rfl) rfl rfl (by simp) ?_
  by_cases c1 : p1 = p2
  case neg =>
    have d1 : (p1 == p2) = false := by simpa using c1
    simp -dsimp [I, S, Tt, hm, set_ne, kn, nk, d1]
    exact pcq (by simp [Tt, c1]) (fr _)
  subst c1
  by_cases c2 : j1 = j2
  case neg =>
    have d2 : (j1 == j2) = false := by simpa using c2
    simp -dsimp [I, S, Tt, hm, set_ne, kn, nk, d2]
    exact pcq (by simp [Tt, c2]) (fr _)
  subst c2
  by_cases c3 : m1 = m2
  case neg =>
    have d3 : (m1 == m2) = false := by simpa using c3
    simp -dsimp [I, S, Tt, hm, set_ne, kn, nk, d3]
    exact pcq (by simp [Tt, c3]) (fr _)
  subst c3
  simp -dsimp [I, S, Tt, hm, set_ne, kn, nk]
  exact pcq (by simp [Tt]) (fr _)
/-- What is found, and whether. -/
def ifoD (o : Option Ifc) : D := .tup [.agg (ifD (o.getD Ifc0)), Tt o.isSome]
theorem pur_ifo (o : Option Ifc) : Pur (ifoD o) := by
  refine Pur.tup ?_
  intro d hd
  simp only [List.mem_cons, List.not_mem_nil, or_false] at hd
  rcases hd with rfl | rfl
  · exact Pur.agg (pur_if _)
  · exact pur_T _
set_option maxHeartbeats 1000000 in
theorem cFindE {env : List Ifc} (hl : env.length ≤ 9223372036854775807) (i : Imp) : Pc Tryz.prog 46 [.sl 5 (env.map ifD), .agg (impD i)] (ifoD (findF env i)) := by
  refine pc_pub (fun m n => ?_)
  have nn1 : n ≠ n + 1 := by omega
  have n1n : n + 1 ≠ n := by omega
  have fr : ∀ o o' j, j < n → ((m.set n o).set (n + 1) o') j = m j := fun o o' j hj => by rw [set_ne _ _ _ _ (by omega), set_ne _ _ _ _ (by omega)]
  have fr3 : ∀ o o' o'' j, j < n → (((m.set n o).set (n + 1) o').set (n + 1) o'') j = m j := fun o o' o'' j hj => by rw [set_ne _ _ _ _ (by omega), set_ne _ _ _ _ (by omega), set_ne _ _ _ _ (by omega)]
  have hL : (env.map ifD).length = env.length := by simp
  have hG : ∀ i (h : i < env.length), (env.map ifD)[i]? = some (ifD env[i]) := fun i h => by simp [h]
  have hc := fun m n (h : m n = some ⟨4, [impD i], 0⟩) => cIdxIfc (l := env) (q := forI i) (fp := 88) (cs := [.ptr n 0 0 0]) (m := m) (n := n + 1 + 1) (by simp) (fun x _ => cFindE1 (by omega) h) hl
  have z0 : (impD i).length = 4 := rfl
  have hz := fun x => ifD_len x
  unfold findF
  generalize env.map ifD = EL at hL hG hc
  generalize impD i = AA at hc z0
  have t0 : List.take 4 AA = AA := List.take_of_length_le (by omega)
  refine acalls_vcC [0, 1, 3, 4, 5, 6, 11] Tryz.func46 Tryz.ntmps46 (by kernel_rfl) rfl rfl (by simp) ?_
  simp -dsimp [I, S, Tt, set_ne, nn1, n1n, z0, t0]
  refine pcallAt (hc _ _ (by simp [set_ne, nn1])) ?_
  by_cases c : findI (forI i) env < 0
  · have e := findI_none c
    rw [e]
    simp -dsimp [I, S, Tt, set_ne, nn1, n1n, c]
    refine pcp ?_ (fr _ _)
    simp only [ifoD, ifD, Ifc0, Option.getD_none, Option.isSome_none, List.map_nil]
    exact .tup (.cons (.agg (.cons (pur_S _).pub (.cons (pur_I _).pub (.cons (pur_S _).pub (.cons (pub_nil 8) (.cons (pub_nil 8) .nil)))))) (.cons (pur_T _).pub .nil))
  · obtain ⟨a, ha, e1, e2⟩ := findI_some (q := forI i) (l := env) (by omega)
    rw [e2]
    rw [e1]
    have c2 : ¬ ((a : Int) < 0) := by omega
    have ha2 : (a : Int) < env.length := by omega
    have haE : a < EL.length := by omega
    have g1 : EL[a]? = some (ifD env[a]) := hG a ha
    have g2 : EL[a] = ifD env[a] := get_opt (hG a ha) haE
    have z1 := hz env[a]
    have hp := pur_ifo (some env[a])
    simp only [ifoD, Option.getD_some, Option.isSome_some] at hp ⊢
    generalize ifD env[a] = XX at g1 g2 z1 hp ⊢
    have t1 : List.take 5 XX = XX := List.take_of_length_le (by omega)
    simp -dsimp [I, S, Tt, set_ne, nn1, n1n, c2, ha, ha2, hL, haE, g1, g2, z1, t1]
    exact pcp hp.pub (fr _ _)
set_option maxHeartbeats 1000000 in
theorem cOfE1 {x : Nm} {s : List UInt8} {k : Nat} {m : Mem} {n : Nat} (hk : k < n) (hm : m k = some ⟨1, [[S s]], 0⟩) : PcAt Tryz.prog 131 [.agg (nnD x), .ptr k 0 0 0] (Tt (decide (x.1 = s))) m n := by
  refine pcat_of (pur_T _) ?_
  have kn : k ≠ n := by omega
  have nk : n ≠ k := by omega
  have fr : ∀ o j, j < n → (m.set n o) j = m j := fun o j hj => set_ne _ _ _ _ (by omega)
  obtain ⟨nm, t⟩ := x
  have z0 := tyD_len t
  simp only [nnD] at hm ⊢
  generalize tyD t = XX at z0
  have t0 : List.take 7 XX = XX := List.take_of_length_le (by omega)
  refine acalls_vc [0, 1, 2, 3] Tryz.func131 Tryz.ntmps131 (by kernel_rfl) rfl rfl (by simp) ?_
  by_cases c1 : nm = s
  · subst c1
    simp -dsimp [I, S, Tt, hm, set_ne, kn, nk, z0, t0]
    exact pcq (by simp [Tt]) (fr _)
  · have d1 : (nm == s) = false := by simpa using c1
    simp -dsimp [I, S, Tt, hm, set_ne, kn, nk, d1, z0, t0]
    exact pcq (by simp [Tt, c1]) (fr _)
set_option maxHeartbeats 1000000 in
theorem cOfE {l : List Nm} (hl : l.length ≤ 9223372036854775807) (s : List UInt8) : Pc Tryz.prog 89 [.sl 8 (l.map nnD), S s] (ofD (ofF l s)) := by
  refine pc_pub (fun m n => ?_)
  have nn1 : n ≠ n + 1 := by omega
  have n1n : n + 1 ≠ n := by omega
  have fr : ∀ o o' j, j < n → ((m.set n o).set (n + 1) o') j = m j := fun o o' j hj => by rw [set_ne _ _ _ _ (by omega), set_ne _ _ _ _ (by omega)]
  have hL : (l.map nnD).length = l.length := by simp
  have hG : ∀ i (h : i < l.length), (l.map nnD)[i]? = some (S l[i].1 :: tyD l[i].2) := fun i h => by simp [h, nnD]
  have hc := fun m n (h : m n = some ⟨1, [[S s]], 0⟩) => cIdxNn (l := l) (q := fun x => decide (x.1 = s)) (fp := 131) (cs := [.ptr n 0 0 0]) (m := m) (n := n + 1 + 1) (by simp) (fun x _ => cOfE1 (by omega) h) hl
  unfold ofF
  generalize l.map nnD = EL at hL hG hc
  refine acalls_vcC [0, 1, 3, 4, 5, 6, 11] Tryz.func89 Tryz.ntmps89 (by kernel_rfl) rfl rfl (by simp) ?_
  simp -dsimp [I, S, Tt, set_ne, nn1, n1n]
  refine pcallAt (hc _ _ (by simp [set_ne, nn1, S])) ?_
  by_cases c : findI (fun x => decide (x.1 = s)) l < 0
  · have e := findI_none c
    rw [e]
    simp -dsimp [I, S, Tt, set_ne, nn1, n1n, c]
    refine pcp ?_ (fr _ _)
    simp only [ofD, Option.map_none, Option.getD_none, Option.isSome_none, tyD_zero]
    exact .tup (.cons (.agg (.cons (pur_I _).pub (.cons (pur_S _).pub (.cons (pur_I _).pub (.cons (pur_S _).pub (.cons (pur_S _).pub (.cons (pub_nil 1) (.cons (pub_nil 7) .nil)))))))) (.cons (pur_T _).pub .nil))
  · obtain ⟨a, ha, e1, e2⟩ := findI_some (q := fun x : Nm => decide (x.1 = s)) (l := l) (by omega)
    rw [e2]
    rw [e1]
    have c2 : ¬ ((a : Int) < 0) := by omega
    have ha2 : (a : Int) < l.length := by omega
    have haE : a < EL.length := by omega
    have z1 := tyD_len l[a].2
    have hp := pur_ofD (some l[a].2)
    simp only [ofD, Option.getD_some, Option.isSome_some, Option.map_some] at hp ⊢
    have g1 : EL[a]? = some (S l[a].1 :: tyD l[a].2) := hG a ha
    have g2 : EL[a] = S l[a].1 :: tyD l[a].2 := get_opt (hG a ha) haE
    generalize tyD l[a].2 = XX at g1 g2 z1 hp ⊢
    have t1 : List.take 7 XX = XX := List.take_of_length_le (by omega)
    simp -dsimp [I, S, Tt, set_ne, nn1, n1n, c2, ha, ha2, hL, haE, g1, g2, z1, t1]
    exact pcp hp.pub (fr _ _)
end Go.Proofs.Mv.App
