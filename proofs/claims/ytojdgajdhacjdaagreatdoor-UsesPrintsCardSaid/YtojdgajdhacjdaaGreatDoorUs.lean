/- A part of the proofs of the seat YtojdgajdhacjdaaGreatDoor: the abstract machine, the contracts of the functions, the laws. No condition of its own. -/
import Derived.Test.YtojdgajdhacjdaaGreatDoorTy
import Derived.Test.YtojdgajdhacjdaaGreatDoorLex
import Derived.Test.YtojdgajdhacjdaaGreatDoorLay
import Derived.Shelf.Strconv.AtoiAll
import Derived.Test.YtojdgajdhacjdaaGreatDoorMvPc
import Derived.Test.YtojdgajdhacjdaaGreatDoorMvRf
set_option linter.unusedSimpArgs false
set_option linter.unusedVariables false
set_option linter.unusedSectionVars false
open Go Go.Proofs Go.Proofs.Mv.V
set_option maxRecDepth 10000
namespace Go.Proofs.Mv.App
/-- The reader notes the place of what is amiss in cnt. -/
def failS (c : Nat) (p : PS) : PS := if p.bad = 0 then ⟨p.at_, p.at_, c⟩ else p
theorem failS_bad {c : Nat} {p : PS} (h : ¬ p.bad = 0) : failS c p = p := by simp [failS, h]
def errS (p : PS) : D := if p.bad = 0 then nilE else spotE p.cnt p.bad
theorem pur_errS (p : PS) : Pur (errS p) := by
  unfold errS; split
  · exact pur_nilE
  · exact pur_spotE _ _
def sC (l : List Tok) (p : PS) : List D := [toksD l, I p.at_, errS p]
def sObj (l : List Tok) (p : PS) : V.Obj := ⟨3, [sC l p], 0⟩
theorem pur_sObj (l : List Tok) (p : PS) : ∀ e ∈ (sObj l p).es, ∀ d ∈ e, Pur d := by
  intro e he d hd
  simp only [sObj, List.mem_singleton] at he
  subst he
  simp only [sC, List.mem_cons, List.not_mem_nil, or_false] at hd
  rcases hd with rfl | rfl | rfl
  · exact pur_toks _
  · exact pur_I _
  · exact pur_errS _
/-- Passes the token at hand, if it is fine. -/
def takeF (fine : Bool) (l : List Tok) (p : PS) : List UInt8 × PS := if fine then (curT l p, stepF p) else ([], failS 2 p)
def isKey (s : List UInt8) (l : List Tok) (p : PS) : Bool := match cur l p with
  | some t => decide (t.kind = 1) && decide (t.text = s)
  | none => false
theorem pk_key {l : List Tok} {p : PS} {kd a : Int} {tx : List UInt8} (hp : Pk l p kd a tx) (s : List UInt8) : isKey s l p = (decide (kd = 1) && decide (tx = s)) := by
  rcases hp.cu with ⟨h, rfl⟩ | h <;> simp [isKey, h]
def mustS (s : List UInt8) (l : List Tok) (p : PS) : PS := (takeF (isSig s l p) l p).2
def nameS (g : Bool) (l : List Tok) (p : PS) : List UInt8 × PS := takeF (isNam g l p) l p
def numS (l : List Tok) (p : PS) : PS := (takeF (isNum l p) l p).2
def typS (l : List Tok) (p : PS) : Ty × PS :=
  if p.bad = 0 then match (atF l p.at_).2.2 with
    | some (a, c) => (Ty0, ⟨0, a.toNat, c⟩)
    | none => ((atF l p.at_).1, ⟨(atF l p.at_).2.1, p.cnt, 0⟩)
  else (Ty0, p)
theorem atF_nn {l : List Tok} {q : Nat} {a : Int} {c : Nat} (h : (atF l (q : Int)).2.2 = some (a, c)) : 0 ≤ a := by
  unfold atF at h
  split at h
  · simp at h; omega
  · split at h
    · simp at h; omega
    · cases h
theorem takeF_ok {f : Bool} {l : List Tok} {p : PS} (h : (takeF f l p).2.bad = 0) : f = true ∧ p.bad = 0 := by
  cases f with
  | true => exact ⟨rfl, by simpa [takeF, stepF] using h⟩
  | false =>
    simp only [takeF, failS, Bool.false_eq_true, if_false] at h
    split at h
    · simp at h
    · rename_i h1; exact absurd h h1
theorem key_ok {l : List Tok} (hl : TkOk l) {p : PS} {s : List UInt8} (h : isKey s l p = true) : p.bad = 0 ∧ p.at_ < l.length := by
  obtain ⟨kd, a, tx, hp⟩ := pk_of hl p
  rw [pk_key hp] at h; simp at h
  exact hp.ok (by omega)
theorem typS_ok {l : List Tok} {p : PS} (h : (typS l p).2.bad = 0) : p.bad = 0 := by
  by_cases hb : p.bad = 0
  · exact hb
  · rw [typS, if_neg hb] at h; exact h
structure Imp where
  pkg : List UInt8
  major : Int
  mod : List UInt8
  as_ : List UInt8
def impD (i : Imp) : List D := [S i.pkg, I i.major, S i.mod, S i.as_]
def wAs : List UInt8 := [97, 115]
def imp1 (l : List Tok) (p : PS) : List UInt8 × PS := nameS false l p
def imp2 (l : List Tok) (p : PS) : PS := numS l (imp1 l p).2
def imp3 (l : List Tok) (p : PS) : List UInt8 × PS := nameS false l (imp2 l p)
def imp4 (l : List Tok) (p : PS) : PS := (takeF (isKey wAs l (imp3 l p).2) l (imp3 l p).2).2
def imp5 (l : List Tok) (p : PS) : List UInt8 × PS := nameS false l (imp4 l p)
def impF (l : List Tok) (p : PS) : Imp × PS := (⟨(imp1 l p).1, decF (curT l (imp1 l p).2), (imp3 l p).1, (imp5 l p).1⟩, (imp5 l p).2)
theorem impF_ok {l : List Tok} {p : PS} (h : (impF l p).2.bad = 0) : isNum l (imp1 l p).2 = true ∧ p.bad = 0 := by
  have h5 := takeF_ok (show (takeF _ l (imp4 l p)).2.bad = 0 from h)
  have h4 := takeF_ok (show (takeF _ l (imp3 l p).2).2.bad = 0 from h5.2)
  have h3 := takeF_ok (show (takeF _ l (imp2 l p)).2.bad = 0 from h4.2)
  have h2 := takeF_ok (show (takeF _ l (imp1 l p).2).2.bad = 0 from h3.2)
  have h1 := takeF_ok (show (takeF _ l p).2.bad = 0 from h2.2)
  exact ⟨h2.1, h1.2⟩
theorem pur_imp (i : Imp) : Pur (.agg (impD i)) := Pur.agg (by
  intro d hd
  simp only [impD, List.mem_cons, List.not_mem_nil, or_false] at hd
  rcases hd with rfl | rfl | rfl | rfl
  · exact pur_S _
  · exact pur_I _
  · exact pur_S _
  · exact pur_S _)
theorem sObj_step {l : List Tok} {p : PS} (h : p.bad = 0) : sObj l (stepF p) = ⟨3, [[toksD l, .v (.int .i64 ((p.at_ : Int) + 1)), .v .nilIface]], 0⟩ := by
  simp [sObj, sC, stepF, errS, h, I, nilE]
def wImp : List UInt8 := [105, 109, 112, 111, 114, 116]
def impsF (l : List Tok) : Nat → List Imp → PS → List Imp × PS
  | 0, acc, p => (acc, p)
  | k + 1, acc, p => if isKey wImp l p then
      (if 20 ≤ acc.length then (acc, failS 3 p) else impsF l k (acc ++ [(impF l (stepF p)).1]) (impF l (stepF p)).2) else (acc, p)
theorem isKey_bad {s : List UInt8} {l : List Tok} {p : PS} (h : ¬ p.bad = 0) : isKey s l p = false := by simp [isKey, cur, h]
theorem impsF_bad {l : List Tok} {p : PS} (h : ¬ p.bad = 0) (k : Nat) (acc : List Imp) : impsF l k acc p = (acc, p) := by
  cases k with
  | zero => rfl
  | succ k => simp [impsF, isKey_bad h]
theorem pur_imps {l : List Imp} : ∀ e ∈ l.map impD, ∀ d ∈ e, Pur d := by
  intro e he d hd
  obtain ⟨i, _, rfl⟩ := List.mem_map.1 he
  simp only [impD, List.mem_cons, List.not_mem_nil, or_false] at hd
  rcases hd with rfl | rfl | rfl | rfl
  · exact pur_S _
  · exact pur_I _
  · exact pur_S _
  · exact pur_S _
def numV (l : List Tok) (p : PS) : Int := if isNum l p then decF (curT l p) else 0
def impR (l : List Tok) (q : PS) : Imp := ⟨(imp1 l q).1, numV l (imp1 l q).2, (imp3 l q).1, (imp5 l q).1⟩
theorem impR_ok {l : List Tok} {q : PS} (h : (impF l q).2.bad = 0) : impR l q = (impF l q).1 := by
  simp [impR, impF, numV, (impF_ok h).1]
end Go.Proofs.Mv.App
open Go Go.Proofs Go.Proofs.Mv.V
set_option maxRecDepth 10000
namespace Go.Proofs.Mv.App
/-- Is the token at hand of a kind, and fine? -/
def kF (kd : Int) (ok : List UInt8 → Bool) (l : List Tok) (p : PS) : Bool := match cur l p with
  | some t => decide (t.kind = kd) && ok t.text
  | none => false
theorem pk_kF {l : List Tok} {p : PS} {kd a : Int} {tx : List UInt8} (hp : Pk l p kd a tx) {k : Int} (hk : k ≠ 0) (ok : List UInt8 → Bool) : kF k ok l p = (decide (kd = k) && ok tx) := by
  rcases hp.cu with ⟨h, rfl⟩ | h
  · have : ¬ (0 : Int) = k := fun e => hk e.symm
    simp [kF, h, this]
  · simp [kF, h]
theorem kF_nam (g : Bool) (l : List Tok) (p : PS) : kF (if g then 2 else 1) (namOk g) l p = isNam g l p := by
  unfold kF isNam; cases cur l p <;> rfl
theorem kF_sig (s : List UInt8) (l : List Tok) (p : PS) : kF 4 (fun t => t == s) l p = isSig s l p := by
  unfold kF isSig; cases cur l p
  · rfl
  · rw [Bool.eq_iff_iff]; simp
theorem kF_key (s : List UInt8) (l : List Tok) (p : PS) : kF 1 (fun t => t == s) l p = isKey s l p := by
  unfold kF isKey; cases cur l p
  · rfl
  · rw [Bool.eq_iff_iff]; simp
theorem kF_num (l : List Tok) (p : PS) : kF 3 numOk l p = isNum l p := by
  unfold kF isNum; cases cur l p <;> rfl
structure Ln where
  kind : Int
  mod : List UInt8
  name : List UInt8
  typ : Ty
def lnD (x : Ln) : List D := I x.kind :: S x.mod :: S x.name :: tyD x.typ
theorem pur_ln (x : Ln) : ∀ d ∈ lnD x, Pur d := by
  intro d hd
  simp only [lnD, List.mem_cons] at hd
  rcases hd with rfl | rfl | rfl | hd
  · exact pur_I _
  · exact pur_S _
  · exact pur_S _
  · exact pur_ty _ d hd
theorem pur_lns {l : List Ln} : ∀ e ∈ l.map lnD, ∀ d ∈ e, Pur d := by
  intro e he d hd
  obtain ⟨i, _, rfl⟩ := List.mem_map.1 he
  exact pur_ln i d hd
@[simp] theorem lnD_len (x : Ln) : (lnD x).length = 10 := by simp [lnD, tyD_len]
def wUse : List UInt8 := [117, 115, 101]
def wIs : List UInt8 := [105, 115]
/-- A line, from its key on: its parts, one behind the other. -/
def ln1 (l : List Tok) (q : PS) : List UInt8 × PS := nameS false l q
def ln2 (l : List Tok) (q : PS) : PS := mustS [46] l (ln1 l q).2
def ln3 (g : Bool) (l : List Tok) (q : PS) : List UInt8 × PS := nameS g l (ln2 l q)
def ln4 (g : Bool) (l : List Tok) (q : PS) : PS := mustS (if g then [61] else [58]) l (ln3 g l q).2
def ln5 (g : Bool) (l : List Tok) (q : PS) : Ty × PS := typS l (ln4 g l q)
def lineF (l : List Tok) (p : PS) : Ln × PS :=
  (⟨if isKey wIs l p then 2 else 1, (ln1 l (stepF p)).1, (ln3 (isKey wIs l p) l (stepF p)).1, (ln5 (isKey wIs l p) l (stepF p)).1⟩, (ln5 (isKey wIs l p) l (stepF p)).2)
theorem lineF_ok {l : List Tok} {p : PS} (h : (lineF l p).2.bad = 0) : p.bad = 0 := by
  have h5 : (ln4 (isKey wIs l p) l (stepF p)).bad = 0 := typS_ok h
  have h4 := (takeF_ok h5).2
  have h3 := (takeF_ok (show (takeF _ l (ln2 l (stepF p))).2.bad = 0 from h4)).2
  have h2 := (takeF_ok h3).2
  exact (takeF_ok (p := stepF p) h2).2
def isLine (l : List Tok) (p : PS) : Bool := isKey wUse l p || isKey wIs l p
def linesF (l : List Tok) : Nat → List Ln → PS → List Ln × PS
  | 0, acc, p => (acc, p)
  | k + 1, acc, p => if isLine l p then
      (if 60 ≤ acc.length then (acc, failS 3 p) else linesF l k (acc ++ [(lineF l p).1]) (lineF l p).2) else (acc, p)
theorem linesF_ok {l : List Tok} : ∀ (k : Nat) (acc : List Ln) (p : PS), (linesF l k acc p).2.bad = 0 → p.bad = 0
  | 0, _, _, h => h
  | k + 1, acc, p, h => by
    simp only [linesF] at h
    split at h
    · split at h
      · by_cases hb : p.bad = 0
        · exact hb
        · rw [failS_bad hb] at h; exact h
      · exact lineF_ok (linesF_ok k _ _ h)
    · exact h
structure Us where
  imps : List Imp
  lines : List Ln
def usD (x : Us) : List D := [.sl 4 (x.imps.map impD), .sl 10 (x.lines.map lnD)]
def Us0 : Us := ⟨[], []⟩
def uiP (l : List Tok) : List Imp × PS := impsF l 21 [] ⟨0, 0, 0⟩
def ulP (l : List Tok) : List Ln × PS := linesF l 61 [] (uiP l).2
def ueP (l : List Tok) : PS := if (ulP l).2.at_ < l.length then failS 2 (ulP l).2 else (ulP l).2
def usesF (s : List UInt8) : Us × PErr :=
  if 20000 < s.length then (Us0, .large)
  else match (toksAt s 0).2 with
    | some a => (Us0, .spot a 2)
    | Option.none => if (ueP (toksAt s 0).1).bad = 0 then (⟨(uiP (toksAt s 0).1).1, (ulP (toksAt s 0).1).1⟩, .none)
      else (Us0, .spot (ueP (toksAt s 0).1).cnt (ueP (toksAt s 0).1).bad)
theorem pur_us (x : Us) : ∀ d ∈ usD x, Pur d := by
  intro d hd
  simp only [usD, List.mem_cons, List.not_mem_nil, or_false] at hd
  rcases hd with rfl | rfl
  · exact Pur.sl pur_imps
  · exact Pur.sl pur_lns
end Go.Proofs.Mv.App
open Go Go.Proofs Go.Proofs.Mv.V Go.RowKit
set_option maxRecDepth 10000
namespace Go.Proofs.Mv.App
theorem pu_ok : ∀ (s : List UInt8) (acc : Nat), s.all isDigit = true → decA acc s ≤ 4294967295 → Lib.parseUint10 acc s = .ok (decA acc s)
  | [], acc, _, _ => rfl
  | x :: s, acc, h, hle => by
    simp only [List.all_cons, Bool.and_eq_true] at h
    have hx : 48 ≤ x.toNat ∧ x.toNat ≤ 57 := by have := h.1; simpa [isDigit] using this
    rw [decA_cons] at hle ⊢
    have hm := decA_mono s (10 * acc + (x.toNat - 48))
    rw [Lib.parseUint10, if_pos hx, if_neg (by omega), if_neg (by omega), Nat.mul_comm acc 10]
    exact pu_ok s _ h.2 hle
theorem atoi_num {s : List UInt8} (h : numOk s = true) : Lib.atoiAll s = .ok (decF s : Int) := by
  have hp := (of_numOk h).1
  have hle := (of_numOk h).2.2.1
  simp only [numOk, Bool.and_eq_true, decide_eq_true_eq] at h
  obtain ⟨⟨⟨h1, h2⟩, h3⟩, h4⟩ := h
  match s, h1, h3 with
  | x :: r, h1, h3 =>
    have h3' := h3
    simp only [List.all_cons, Bool.and_eq_true] at h3
    have hx : 48 ≤ x.toNat ∧ x.toNat ≤ 57 := by have := h3.1; simpa [isDigit] using this
    have n1 : ¬ (x.toNat = 43 ∨ x.toNat = 45) := by omega
    have n2 : ¬ x.toNat = 45 := by omega
    have hm : Lib.parseMag (x :: r) = .ok (decF (x :: r)) := by
      rw [Lib.parseMag, if_neg (by simp)]
      exact pu_ok (x :: r) 0 h3' (by show decF _ ≤ _; omega)
    have hb : ¬ 9223372036854775808 ≤ decF (x :: r) := by omega
    simp only [Lib.atoiAll, if_neg n1]
    rw [hm]
    simp [n2, hb]
theorem cAtoiNum {s : List UInt8} (h : numOk s = true) (m : Mem) (n : Nat) : ACalls Tryz.prog 54 [S s] m n (fun d m' n' => ∃ e, d = .tup [I (decF s), e] ∧ m' = m ∧ n' = n) := by
  refine acalls_lib ⟨_, Tryz.func54, by kernel_rfl, by kernel_rfl⟩ fun w ν F vals hst hv => ?_
  obtain ⟨a, rfl, h1⟩ := conVs_arr1 hv
  simp only [Con, S] at h1
  subst h1
  have hsz : (ofL s).size = s.length := by show (s.toArray).size = _; simp
  have hl : s.length ≤ 9 := by simp only [numOk, Bool.and_eq_true, decide_eq_true_eq] at h; omega
  refine Calls.mono (show Calls Tryz.prog 54 _ _ _ from Any.strconv_Atoi_ok Tryz.laysAtoi (ofL s) (by omega) (decF s) (atoi_num h) w) ?_
  rintro e w' ⟨rfl, hw⟩
  refine ⟨_, rfl, ?_, .tup [I (decF s), nilE], ?_, _, rfl, rfl, rfl⟩
  · rcases hw with rfl | ⟨t, rfl⟩
    · exact Below.refl _ _
    · exact Lib.bytesWorld_below _ _ _
  · simp [Con, ConVs, nilE, I]
theorem cAtoi0 (m : Mem) (n : Nat) : ACalls Tryz.prog 54 [S []] m n (fun d m' n' => ∃ e, d = .tup [I 0, e] ∧ m' = m ∧ n' = n) := by
  refine acalls_lib ⟨_, Tryz.func54, by kernel_rfl, by kernel_rfl⟩ fun w ν F vals hst hv => ?_
  obtain ⟨a, rfl, h1⟩ := conVs_arr1 hv
  simp only [Con, S] at h1
  subst h1
  obtain ⟨te, pe, hc⟩ := hst.gi.c1
  refine Calls.mono (show Calls Tryz.prog 54 _ _ _ from Any.strconv_Atoi_syntax Tryz.laysAtoi (ofL []) (by decide) rfl _ w hc (.inr ⟨_, _, rfl⟩)) ?_
  rintro e w' ⟨N, rfl, _, _, hb⟩
  refine ⟨_, rfl, hb, .tup [I 0, .iface (Tryz.laysAtoi_ren.t 168) .any], ?_, _, rfl, rfl, rfl⟩
  simp only [Con, ConVs, I]
  exact ⟨_, rfl, _, _, rfl, rfl, _, _, rfl, ⟨_, rfl, trivial⟩, rfl⟩
end Go.Proofs.Mv.App
open Go Go.Proofs Go.Proofs.Mv.V
set_option maxRecDepth 10000
namespace Go.Proofs.Mv.App
theorem cUSpoil {l : List Tok} {p : PS} (c : Nat) (hc : c ≠ 0) {k : Nat} {m : Mem} {n : Nat} (hk : k < n) (hm : m k = some (sObj l p)) :
    ACalls Tryz.prog 18 [.ptr k 0 0 0, I c] m n (fun d m' n' => d = .tup [] ∧ m' = m.set k (sObj l (failS c p)) ∧ n' = n) := by
  have kn : k ≠ n := by omega
  have nk : n ≠ k := by omega
  by_cases hb : p.bad = 0
  · refine acalls_put (R' := Hq (fun d m' n' => d = .tup [] ∧ (∃ q, n ≤ q ∧ m' k = some ⟨3, [[toksD l, I p.at_, .iface 73 (.ptr q 0 0 0)]], 0⟩ ∧ m' q = some ⟨2, [[I p.at_, code c]], 0⟩) ∧ ∀ j, j < n → j ≠ k → m' j = m j) tg) k hk _ ?_ ?_
    · refine acalls_vc [0, 1, 8] Tryz.func18 Tryz.ntmps18 (by kernel_rfl) rfl rfl (by simp) ?_
      simp -dsimp [hm, sObj, sC, errS, hb, nilE, set_ne, kn, nk]
      refine hq ⟨rfl, ⟨n, Nat.le_refl _, by simp, by simp [set_ne, nk, code, I]⟩, fun j hj hjk => ?_⟩
      rw [set_ne _ _ _ _ hjk, set_ne _ _ _ _ (by omega)]
    · rintro d m' n' ⟨rfl, ⟨q, h1, h2, h3⟩, h4⟩
      have hf : failS c p = ⟨p.at_, p.at_, c⟩ := by simp [failS, hb]
      rw [hf]
      refine ⟨_, _, pur_tup0.pub, h2, .cons (.cons (pur_toks l).pub (.cons (pur_I _).pub (.cons ?_ .nil))) .nil, h4, rfl⟩
      simp only [errS, if_neg hc]
      exact .iface (.ptr h3 h1 (.cons (pur_I _).pub (.cons (pur_code _).pub .nil)))
  · rw [failS_bad hb, set_self hm]
    refine acalls_vc [0, 1, 8] Tryz.func18 Tryz.ntmps18 (by kernel_rfl) rfl rfl (by simp) ?_
    simp -dsimp [hm, sObj, sC, errS, hb, spotE]
    done
theorem cUHere {l : List Tok} {p : PS} {k : Nat} {m : Mem} {n : Nat} (hk : k < n) (hm : m k = some (sObj l p)) :
    ACalls Tryz.prog 51 [.ptr k 0 0 0] m n (fun d m' n' => d = .agg (peekD l p) ∧ m' = m ∧ n' = n) := by
  have kn : k ≠ n := by omega
  have nk : n ≠ k := by omega
  have fr : ∀ o, ∀ j, j < n → (m.set n o) j = m j := fun o j hj => set_ne _ _ _ _ (by omega)
  refine acalls_done (R' := Hq (fun d m' n' => d = .agg (peekD l p) ∧ ∀ j, j < n → m' j = m j) tg) ?_ ?_
  · refine acalls_vcC [0, 2, 19] Tryz.func51 Tryz.ntmps51 (by kernel_rfl) rfl rfl (by simp) ?_
    by_cases hb : p.bad = 0
    · by_cases ha : p.at_ < l.length
      · have hg : (l.map tokD)[p.at_]? = some (tokD l[p.at_]) := by simp [ha]
        have hl : (l.map tokD).length = l.length := by simp
        have hc : peekD l p = tokD l[p.at_] := by simp [peekD, cur, hb, ha]
        have hle : ¬ (l.length : Int) ≤ p.at_ := by omega
        have htk : tokD l[p.at_] = [I l[p.at_].kind, I l[p.at_].at_, S l[p.at_].text] := rfl
        generalize hL : l.map tokD = L at hg hl
        have hgi : L[p.at_]'(by omega) = tokD l[p.at_] := get_opt hg _
        rw [hc]
        simp -dsimp [hm, sObj, sC, errS, hb, nilE, toksD, hL, hl, I, hle, set_ne, kn, nk]
        refine vdraw_of [0, 1, 3, 7, 15, 31, 63, 127, 255, 511, 63, 1087, 3135, 7231, 15423, 32767, 65535] [0, 1, 2, 3, 4, 5, 6, 7, 8, 9, 10, 11, 12, 13, 14, 15, 16] (by kernel_rfl) (by kernel_rfl) ?_
        simp -dsimp [hm, sObj, sC, errS, hb, nilE, toksD, hL, hl, I, hle, set_ne, kn, nk]
        refine vdraw_of [0, 1, 3, 7, 0, 16, 48, 112, 255, 511, 1023] [0, 1, 2, 3, 4, 5, 6, 7, 8, 9, 10] (by kernel_rfl) (by kernel_rfl) ?_
        simp -dsimp [hm, sObj, sC, errS, hb, nilE, toksD, hL, hl, I, hle, set_ne, kn, nk, hgi, ha, htk]
        exact hq ⟨by simp [htk, I], fr _⟩
      · have hc : peekD l p = [I 0, I 0, S []] := by simp [peekD, cur, hb, ha]
        have hle : (l.length : Int) ≤ p.at_ := by omega
        rw [hc]
        simp -dsimp [hm, sObj, sC, errS, hb, nilE, toksD, I, hle, set_ne, kn, nk]
        refine vdraw_of [0, 1, 3, 7, 15, 31, 63, 127, 255, 511, 63, 1087, 3135, 7231, 15423, 32767, 65535] [0, 1, 2, 3, 4, 5, 6, 7, 8, 9, 10, 11, 12, 13, 14, 15, 16] (by kernel_rfl) (by kernel_rfl) ?_
        simp -dsimp [hm, sObj, sC, errS, hb, nilE, toksD, I, hle, set_ne, kn, nk]
        exact hq ⟨by simp [I, S], fr _⟩
    · have hc : peekD l p = [I 0, I 0, S []] := by simp [peekD, cur, hb]
      rw [hc]
      simp -dsimp [hm, sObj, sC, errS, hb, spotE, set_ne, kn, nk]
      refine vdraw_of [0, 1, 3, 7, 15, 31, 63, 127, 255, 511, 63, 1087, 3135, 7231, 15423, 32767, 65535] [0, 1, 2, 3, 4, 5, 6, 7, 8, 9, 10, 11, 12, 13, 14, 15, 16] (by kernel_rfl) (by kernel_rfl) ?_
      simp -dsimp [hm, sObj, sC, errS, hb, spotE, set_ne, kn, nk]
      exact hq ⟨by simp [I, S], fr _⟩
  · rintro d m' n' ⟨rfl, h⟩
    refine ⟨_, Pur.pub (Pur.agg ?_), h, rfl⟩
    unfold peekD; split
    · exact pur_tok _
    · intro d hd
      simp only [List.mem_cons, List.not_mem_nil, or_false] at hd
      rcases hd with rfl | rfl | rfl
      · exact pur_I _
      · exact pur_I _
      · exact pur_S _
theorem cUBeg {l : List Tok} (hl : TkOk l) {p : PS} (s : List UInt8) {k : Nat} {m : Mem} {n : Nat} (hk : k < n) (hm : m k = some (sObj l p)) :
    ACalls Tryz.prog 17 [.ptr k 0 0 0, S s] m n (fun d m' n' => d = Tt (isKey s l p) ∧ m' = m ∧ n' = n) := by
  have kn : k ≠ n := by omega
  have nk : n ≠ k := by omega
  obtain ⟨kd, a, tx, hp⟩ := pk_of hl p
  refine acalls_done (R' := Hq (fun d m' n' => d = Tt (isKey s l p) ∧ ∀ j, j < n → m' j = m j) tg) ?_ ?_
  · have fr : ∀ o, ∀ j, j < n → (m.set n o) j = m j := fun o j hj => set_ne _ _ _ _ (by omega)
    refine acalls_vc [0, 1, 4, 5] Tryz.func17 Tryz.ntmps17 (by kernel_rfl) rfl rfl (by simp) ?_
    simp -dsimp
    refine aCall_of (cUHere hk hm) ?_
    rintro d m' n' ⟨rfl, rfl, rfl⟩
    rw [hp.pk, pk_key hp]
    by_cases e1 : kd = 1
    · by_cases e : tx = s
      · have e' : (tx == s) = true := by simp [e]
        simp -dsimp [I, S, e1, e', hm, set_ne, kn, nk]
        exact hq ⟨by simp [e, e1, Tt], fr _⟩
      · have e' : (tx == s) = false := by simp [e]
        simp -dsimp [I, S, e1, e', hm, set_ne, kn, nk]
        exact hq ⟨by simp [e, Tt], fr _⟩
    · have e1' : (kd == 1) = false := by simp [e1]
      simp -dsimp [I, S, e1', hm, set_ne, kn, nk]
      exact hq ⟨by simp [e1, Tt], fr _⟩
  · rintro d m' n' ⟨rfl, h⟩
    exact ⟨_, (pur_T _).pub, h, rfl⟩
/-- What a reader's question is: a pure one, of a text. -/
def Fine (f : D) (ok : List UInt8 → Bool) : Prop := ∃ fp cs, f = .func (.func fp) [] cs ∧ List.length cs ≤ 3 ∧ ∀ s : List UInt8, s.length ≤ 1000000 → Pc Tryz.prog fp (S s :: cs) (Tt (ok s))
theorem fineS : Fine (.func (.func 53) [] []) (namOk false) := ⟨_, _, rfl, by simp, fun s hs m n => cSmall s (by omega) m n⟩
theorem fineG : Fine (.func (.func 57) [] []) (namOk true) := ⟨_, _, rfl, by simp, fun s hs m n => cGreat s (by omega) m n⟩
def exD (s : List UInt8) : D := .func (.func 100) [] [.rptr none [S s]]
theorem cExact (s : List UInt8) : Pc Tryz.prog 56 [S s] (exD s) := fun m n => by
  refine acalls_done (R' := Hq (fun d m' n' => d = .func (.func 100) [] [.ptr n 0 0 0] ∧ m' n = some ⟨1, [[S s]], 0⟩ ∧ ∀ j, j < n → m' j = m j) tg) ?_ ?_
  · refine acalls_vc [0, 1, 2] Tryz.func56 Tryz.ntmps56 (by kernel_rfl) rfl rfl (by simp) ?_
    simp -dsimp [S]
    exact hq ⟨rfl, by simp [S], fun j hj => set_ne _ _ _ _ (by omega)⟩
  · rintro d m' n' ⟨rfl, h1, h2⟩
    exact ⟨_, .func (.cons (.ptr h1 (Nat.le_refl _) (.cons (pur_S _).pub .nil)) .nil), h2, rfl⟩
theorem fineX (s : List UInt8) : Fine (exD s) (fun t => t == s) := ⟨_, _, rfl, by simp, fun t ht => by
  refine pc_of (pur_T _) (fun m n => ?_)
  refine acalls_vc [0, 1, 3] Tryz.func100 Tryz.ntmps100 (by kernel_rfl) rfl rfl (by simp) ?_
  simp -dsimp [S]
  exact pcq' (by simp [Tt])⟩
set_option maxHeartbeats 1000000 in
theorem cUMajor (s : List UInt8) (hs : s.length ≤ 1000000) : Pc Tryz.prog 55 [S s] (Tt (numOk s)) := by
  refine pc_of (pur_T _) (fun m n => ?_)
  refine acalls_vc [0, 2, 3, 4] Tryz.func55 Tryz.ntmps55 (by kernel_rfl) rfl rfl (by simp) ?_
  simp -dsimp [I]
  refine aCall_of (cParseUint s (by omega) _ _) ?_
  rintro d m2 n2 ⟨x, e, rfl, hx, rfl, rfl⟩
  cases hu : okU (Lib.parseUintB 32 s) with
  | none =>
    rw [hu] at hx
    obtain ⟨t, rfl⟩ := hx
    simp -dsimp [I, S, Tt]
    exact pcq' (by simp [numOk_no hu, Tt])
  | some u =>
    rw [hu] at hx
    obtain ⟨rfl, rfl⟩ := hx
    have hpu := okU_some hu
    have no : ¬ numOk s = true → Tt (numOk s) = .v (.bool false) := fun h => by simp [Tt]; simpa using h
    by_cases u1 : (1 : Int) ≤ (u : Int)
    case neg =>
      have u1' : ¬ 1 ≤ u := by omega
      have u0 : u = 0 := by omega
      simp -dsimp [I, S, Tt, u1, u1', u0, nilE]
      exact pcq' (no fun q => by have := of_numOk q; rw [hpu] at this; simp at this; omega).symm
    have u1' : 1 ≤ u := by omega
    by_cases u2 : (u : Int) ≤ 999999999
    case neg =>
      have u2' : ¬ u ≤ 999999999 := by omega
      simp -dsimp [I, S, Tt, u1, u1', u2, u2', nilE]
      exact pcq' (no fun q => by have := of_numOk q; rw [hpu] at this; simp at this; omega).symm
    have u2' : u ≤ 999999999 := by omega
    obtain ⟨y, r, rfl⟩ : ∃ y r, s = y :: r := by
      cases s with
      | nil => simp [Lib.parseUintB] at hpu
      | cons y r => exact ⟨_, _, rfl⟩
    by_cases u3 : y.toNat = 48
    · have hy : y = 48 := UInt8.toNat_inj.1 u3
      have hno := no fun q => absurd (by simp [hy]) (of_numOk q).2.2.2.1
      clear hy
      simp -dsimp [I, S, Tt, u1, u1', u2, u2', u3, nilE]
      exact pcq' hno.symm
    have u3' : ((y.toNat : Int) != 48) = true := by simp; omega
    obtain ⟨q1, q2⟩ := numOk_of hpu (by omega) (by omega) (by simp; intro h; exact u3 (by rw [h]; rfl))
    simp -dsimp [I, S, Tt, u1, u1', u2, u2', u3', nilE]
    exact pcq' (by simp [q1, Tt])
theorem fineN : Fine (.func (.func 55) [] []) numOk := ⟨_, _, rfl, by simp, cUMajor⟩
theorem cUPass {l : List Tok} (hl : TkOk l) {p : PS} {kd : Int} (hkd : kd ≠ 0) {f : D} {ok : List UInt8 → Bool} (hf : Fine f ok) {k : Nat} {m : Mem} {n : Nat} (hk : k < n) (hm : m k = some (sObj l p)) :
    ACalls Tryz.prog 52 [.ptr k 0 0 0, I kd, f] m n (fun d m' n' => d = S (takeF (kF kd ok l p) l p).1 ∧ m' = m.set k (sObj l (takeF (kF kd ok l p) l p).2) ∧ n' = n) := by
  have kn : k ≠ n := by omega
  have nk : n ≠ k := by omega
  have kn1 : k < n + 1 := by omega
  obtain ⟨fp, cs, rfl, hcs, hc⟩ := hf
  obtain ⟨kx, a, tx, hp⟩ := pk_of hl p
  rw [pk_kF hp hkd]
  refine acalls_fin hk (pur_sObj _ _) (fun d h => by rw [h]; exact pur_S _) ?_
  refine acalls_vc [0, 1, 2, 6, 7, 20] Tryz.func52 Tryz.ntmps52 (by kernel_rfl) rfl rfl (by simp) ?_
  simp -dsimp
  refine aCall_of (cUHere hk hm) ?_
  rintro d m' n' ⟨rfl, rfl, rfl⟩
  rw [hp.pk]
  by_cases ek : kx = kd
  case neg =>
    have ek' : (kx != kd) = true := by simp [ek]
    simp -dsimp [I, S, ek, ek', hm, set_ne, kn, nk]
    refine aCall_of (cUSpoil (l := l) (p := p) 2 (by omega) kn1 (by simp [set_ne, kn, hm])) ?_
    rintro d m2 n2 ⟨rfl, rfl, rfl⟩
    simp -dsimp
    refine fin_mk (by simp [takeF, S, ek]) (by simp [takeF, ek]) fun j hj hjk => ?_
    rw [set_ne _ _ _ _ hjk, set_ne _ _ _ _ (by omega)]
  subst ek
  have ek' : (kx != kx) = false := by simp
  obtain ⟨hb, ha⟩ := hp.ok hkd
  simp -dsimp [I, S, ek', hm, set_ne, kn, nk]
  refine pcall (hc tx (by have := hp.len; omega)) ?_
  cases eo : ok tx
  · simp -dsimp [Tt]
    refine aCall_of (cUSpoil (l := l) (p := p) 2 (by omega) kn1 (by simp [set_ne, kn, hm])) ?_
    rintro d m2 n2 ⟨rfl, rfl, rfl⟩
    simp -dsimp
    refine fin_mk (by simp [takeF, S, eo]) (by simp [takeF, eo]) fun j hj hjk => ?_
    rw [set_ne _ _ _ _ hjk, set_ne _ _ _ _ (by omega)]
  · have wa := wrap_at hl ha
    simp -dsimp [Tt, hm, set_ne, kn, nk, sObj, sC, I, S, wa]
    refine fin_mk (by simp [takeF, hp.tex, S, eo]) ?_ fun j hj hjk => ?_
    · simp [takeF, sObj, sC, errS, hb, stepF, I, eo]
    · rw [set_ne _ _ _ _ hjk, set_ne _ _ _ _ (by omega)]
theorem cUPnam {l : List Tok} (hl : TkOk l) (g : Bool) {p : PS} {f : D} (hf : Fine f (namOk g)) {k : Nat} {m : Mem} {n : Nat} (hk : k < n) (hm : m k = some (sObj l p)) :
    ACalls Tryz.prog 52 [.ptr k 0 0 0, I (if g then 2 else 1), f] m n (fun d m' n' => d = S (nameS g l p).1 ∧ m' = m.set k (sObj l (nameS g l p).2) ∧ n' = n) := by
  have h := cUPass hl (p := p) (kd := if g then 2 else 1) (by cases g <;> simp) hf hk hm
  rw [kF_nam] at h; exact h
theorem cUPsig {l : List Tok} (hl : TkOk l) (s : List UInt8) {p : PS} {k : Nat} {m : Mem} {n : Nat} (hk : k < n) (hm : m k = some (sObj l p)) :
    ACalls Tryz.prog 52 [.ptr k 0 0 0, I 4, exD s] m n (fun d m' n' => d = S (takeF (isSig s l p) l p).1 ∧ m' = m.set k (sObj l (mustS s l p)) ∧ n' = n) := by
  have h := cUPass hl (p := p) (kd := 4) (by omega) (fineX s) hk hm
  rw [kF_sig] at h; exact h
theorem cUPkey {l : List Tok} (hl : TkOk l) (s : List UInt8) {p : PS} {k : Nat} {m : Mem} {n : Nat} (hk : k < n) (hm : m k = some (sObj l p)) :
    ACalls Tryz.prog 52 [.ptr k 0 0 0, I 1, exD s] m n (fun d m' n' => d = S (takeF (isKey s l p) l p).1 ∧ m' = m.set k (sObj l (takeF (isKey s l p) l p).2) ∧ n' = n) := by
  have h := cUPass hl (p := p) (kd := 1) (by omega) (fineX s) hk hm
  rw [kF_key] at h; exact h
theorem cUPnum {l : List Tok} (hl : TkOk l) {p : PS} {k : Nat} {m : Mem} {n : Nat} (hk : k < n) (hm : m k = some (sObj l p)) :
    ACalls Tryz.prog 52 [.ptr k 0 0 0, I 3, .func (.func 55) [] []] m n (fun d m' n' => d = S (takeF (isNum l p) l p).1 ∧ m' = m.set k (sObj l (numS l p)) ∧ n' = n) := by
  have h := cUPass hl (p := p) (kd := 3) (by omega) fineN hk hm
  rw [kF_num] at h; exact h
end Go.Proofs.Mv.App
