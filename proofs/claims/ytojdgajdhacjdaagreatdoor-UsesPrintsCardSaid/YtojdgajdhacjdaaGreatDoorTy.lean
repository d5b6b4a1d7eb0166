/- A part of the proofs of the seat YtojdgajdhacjdaaGreatDoor: the abstract machine, the contracts of the functions, the laws. No condition of its own. -/
import Derived.Test.YtojdgajdhacjdaaGreatDoorLex
import Derived.Test.YtojdgajdhacjdaaGreatDoorTok
import Derived.Test.YtojdgajdhacjdaaGreatDoorMvD
import Derived.Test.YtojdgajdhacjdaaGreatDoorMvC
import Derived.Test.YtojdgajdhacjdaaGreatDoorMvCl
import Derived.Lib.ParseIntB
import Derived.Test.YtojdgajdhacjdaaGreatDoorMvSo
import Derived.WalkKit
import Derived.Laws.Cover1
set_option linter.unusedSimpArgs false
set_option linter.unusedVariables false
set_option linter.unusedSectionVars false
open Go Go.Proofs Go.Proofs.Mv.V
set_option maxRecDepth 10000
namespace Go.Proofs.Mv.App
inductive Ty where
  | mk (kind : Int) (pkg : List UInt8) (major : Int) (mod name : List UInt8) (names : List (List UInt8)) (subs : List Ty)
instance : Inhabited Ty := ⟨.mk 0 [] 0 [] [] [] []⟩
def Ty0 : Ty := .mk 0 [] 0 [] [] [] []
mutual
def tyD [GI] : Ty → List D
  | .mk kind pkg major mod name names subs => [I kind, S pkg, I major, S mod, S name, sl1 names, .sl 7 (tysD subs)]
def tysD [GI] : List Ty → List (List D)
  | [] => []
  | t :: ts => tyD t :: tysD ts
end
section
variable [GI]
theorem tysD_eq : ∀ l : List Ty, tysD l = l.map tyD
  | [] => by simp [tysD]
  | t :: ts => by simp [tysD, tysD_eq ts]
@[simp] theorem tyD_len (t : Ty) : (tyD t).length = 7 := by cases t; simp [tyD]
@[simp] theorem tyD_take (t : Ty) : (tyD t).take 7 = tyD t := List.take_of_length_le (by simp)
mutual
theorem pur_ty : ∀ t : Ty, ∀ d ∈ tyD t, Pur d
  | .mk kind pkg major mod name names subs, d, hd => by
    simp only [tyD, List.mem_cons, List.not_mem_nil, or_false] at hd
    rcases hd with rfl | rfl | rfl | rfl | rfl | rfl | rfl
    · exact pur_I _
    · exact pur_S _
    · exact pur_I _
    · exact pur_S _
    · exact pur_S _
    · exact pur_sl1 _
    · exact Pur.sl (pur_tys subs)
theorem pur_tys : ∀ l : List Ty, ∀ e ∈ tysD l, ∀ d ∈ e, Pur d
  | [], e, he, _, _ => by simp [tysD] at he
  | t :: ts, e, he, d, hd => by
    simp only [tysD, List.mem_cons] at he
    rcases he with rfl | he
    · exact pur_ty t d hd
    · exact pur_tys ts e he d hd
end
theorem pur_tyA (t : Ty) : Pur (.agg (tyD t)) := Pur.agg (pur_ty t)
theorem pur_tym (l : List Ty) : ∀ e ∈ l.map tyD, ∀ d ∈ e, Pur d := by rw [← tysD_eq]; exact pur_tys l
theorem tyD_zero : tyD Ty0 = [I 0, S [], I 0, S [], S [], .sl 1 [], .sl 7 []] := by simp [Ty0, tyD, tysD, sl1]
end
end Go.Proofs.Mv.App
open Go Go.Proofs Go.Proofs.Mv.V
set_option maxRecDepth 10000
namespace Go.Proofs.Mv.App
/-- How far tokens were read, how many nodes there are, what is amiss. -/
structure PS where
  at_ : Nat
  cnt : Nat
  bad : Nat
def cur (l : List Tok) (p : PS) : Option Tok := if p.bad = 0 then l[p.at_]? else none
def failF (c : Nat) (p : PS) : PS := if p.bad = 0 then { p with bad := c } else p
def stepF (p : PS) : PS := { p with at_ := p.at_ + 1 }
def isSig (s : List UInt8) (l : List Tok) (p : PS) : Bool := match cur l p with
  | some t => decide (t.kind = 4) && decide (t.text = s)
  | none => false
def mustF (s : List UInt8) (l : List Tok) (p : PS) : PS := if isSig s l p then stepF p else failF 2 p
def namOk (g : Bool) (s : List UInt8) : Bool := if g then greatN s else smallN s
def isNam (g : Bool) (l : List Tok) (p : PS) : Bool := match cur l p with
  | some t => decide (t.kind = if g then 2 else 1) && namOk g t.text
  | none => false
def curT (l : List Tok) (p : PS) : List UInt8 := match cur l p with
  | some t => t.text
  | none => []
def nameF (g : Bool) (l : List Tok) (p : PS) : List UInt8 × PS := if isNam g l p then (curT l p, stepF p) else ([], failF 2 p)
def decF (s : List UInt8) : Nat := s.foldl (fun n x => 10 * n + (x.toNat - 48)) 0
def numOk (s : List UInt8) : Bool := decide (1 ≤ s.length) && decide (s.length ≤ 9) && s.all isDigit && decide (s.head? ≠ some 48)
def isNum (l : List Tok) (p : PS) : Bool := match cur l p with
  | some t => decide (t.kind = 3) && numOk t.text
  | none => false
def numF (l : List Tok) (p : PS) : Nat × PS := if isNum l p then (decF (curT l p), stepF p) else (0, failF 2 p)
def wInt : List UInt8 := [73, 110, 116]
def wText : List UInt8 := [84, 101, 120, 116]
def wBool : List UInt8 := [66, 111, 111, 108]
def wList : List UInt8 := [76, 105, 115, 116]
def baseN (s : List UInt8) : Nat := if s = wInt then 1 else if s = wText then 2 else if s = wBool then 3 else 0
def begT (t : Tok) : Bool := if t.kind = 2 then (decide (0 < baseN t.text) || decide (t.text = wList) || greatN t.text) else if t.kind = 1 then smallN t.text
  else decide (t.kind = 4) && (decide (t.text = [123]) || decide (t.text = [91]) || decide (t.text = [40]) || decide (t.text = [60]))
def begF (l : List Tok) (p : PS) : Bool := match cur l p with
  | some t => begT t
  | none => false
abbrev Nm := List UInt8 × Ty
/-- The parts that were read, one behind the other. -/
def namedF (l : List Tok) (g : Bool) (en : List UInt8) (rec : PS → Ty × PS) : Nat → List Nm → PS → List Nm × PS
  | 0, ps, p => (ps, p)
  | r + 1, ps, p =>
    if p.bad ≠ 0 then (ps, p)
    else if isNam g l p = false then (ps, failF 2 p)
    else if 20 ≤ ps.length then (ps, failF 3 p)
    else if curT l p ∈ ps.map (·.1) then (ps, failF 5 p)
    else
      let q := rec (mustF [58] l (stepF p))
      let ps' := ps ++ [(curT l p, q.1)]
      if isSig en l q.2 then (ps', stepF q.2) else namedF l g en rec r ps' (mustF [44] l q.2)
def subF (l : List Tok) (rec : PS → Ty × PS) (n : Nat) (p : PS) : Ty × PS := if begF l p = true ∧ 20 ≤ n then (Ty0, failF 3 p) else rec p
def funF (l : List Tok) (rec : PS → Ty × PS) : Nat → List Ty → PS → List Ty × PS
  | 0, ts, p => (ts, p)
  | r + 1, ts, p =>
    if p.bad ≠ 0 then (ts, p)
    else
      let q := subF l rec ts.length p
      if isSig [41] l q.2 then (ts ++ [q.1], stepF q.2) else funF l rec r (ts ++ [q.1]) (mustF [44] l q.2)
def insF (x : Nm) : List Nm → List Nm
  | [] => [x]
  | y :: ys => if ltB x.1 y.1 then x :: y :: ys else y :: insF x ys
def sortF (ps : List Nm) : List Nm := ps.foldl (fun acc x => insF x acc) []
def recT (kind : Int) (ps : List Nm) : Ty := .mk kind [] 0 [] [] ((sortF ps).map (·.1)) ((sortF ps).map (·.2))
def localT (mod name : List UInt8) : Ty := .mk 8 [] 0 mod name [] []
def openF (l : List Tok) (p : PS) : Ty × PS :=
  let a := nameF false l p
  let b := numF l a.2
  let c := nameF false l b.2
  let d := nameF true l c.2
  (.mk 9 a.1 b.1 c.1 d.1 [] [], mustF [62] l d.2)
def funcF (l : List Tok) (rec : PS → Ty × PS) (p : PS) : Ty × PS :=
  let a := if isSig [41] l p then ([], stepF p) else funF l rec 22 [] p
  let b := subF l rec a.1.length (mustF [45, 62] l a.2)
  (.mk 7 [] 0 [] [] [] (a.1 ++ [b.1]), b.2)
def partsF (l : List Tok) (g : Bool) (rec : PS → Ty × PS) (p : PS) : Ty × PS :=
  let a := if g = false ∧ isSig [125] l p = true then ([], stepF p) else namedF l g (if g then [93] else [125]) rec 22 [] p
  (recT (if g then 6 else 5) a.1, a.2)
def listF (l : List Tok) (rec : PS → Ty × PS) (p : PS) : Ty × PS :=
  let b := rec (mustF [40] l p)
  (.mk 4 [] 0 [] [] [] [b.1], mustF [41] l b.2)
def bodyF (l : List Tok) (t : Tok) (rec : PS → Ty × PS) (p : PS) : Ty × PS :=
  if t.kind = 1 then let a := nameF true l (mustF [46] l p); (localT t.text a.1, a.2)
  else if t.text = wList then listF l rec p
  else if t.text = [123] then partsF l false rec p
  else if t.text = [91] then partsF l true rec p
  else if t.text = [40] then funcF l rec p
  else if t.text = [60] then openF l p
  else if 0 < baseN t.text then (.mk (baseN t.text) [] 0 [] [] [] [], p)
  else (localT [] t.text, p)
/-- A type; k: how much deeper it may go. -/
def typF (l : List Tok) : Nat → PS → Ty × PS
  | 0, p => if begF l p then (Ty0, failF 3 p) else (Ty0, failF 2 p)
  | k + 1, p => match cur l p with
    | none => (Ty0, failF 2 p)
    | some t => if begT t = false then (Ty0, failF 2 p) else if 500 ≤ p.cnt then (Ty0, failF 3 p) else bodyF l t (typF l k) ⟨p.at_ + 1, p.cnt + 1, p.bad⟩
/-! What is amiss stays. -/
theorem cur_bad {l : List Tok} {p : PS} (h : p.bad ≠ 0) : cur l p = none := by simp [cur, h]
theorem failF_bad {c : Nat} {p : PS} (h : p.bad ≠ 0) : failF c p = p := by simp [failF, h]
theorem isSig_bad {s : List UInt8} {l : List Tok} {p : PS} (h : p.bad ≠ 0) : isSig s l p = false := by simp [isSig, cur_bad h]
theorem isNam_bad {g : Bool} {l : List Tok} {p : PS} (h : p.bad ≠ 0) : isNam g l p = false := by simp [isNam, cur_bad h]
theorem isNum_bad {l : List Tok} {p : PS} (h : p.bad ≠ 0) : isNum l p = false := by simp [isNum, cur_bad h]
theorem begF_bad {l : List Tok} {p : PS} (h : p.bad ≠ 0) : begF l p = false := by simp [begF, cur_bad h]
theorem mustF_bad {s : List UInt8} {l : List Tok} {p : PS} (h : p.bad ≠ 0) : mustF s l p = p := by simp [mustF, isSig_bad h, failF_bad h]
theorem typF_bad {l : List Tok} {k : Nat} {p : PS} (h : p.bad ≠ 0) : typF l k p = (Ty0, p) := by
  cases k <;> simp [typF, begF_bad h, cur_bad h, failF_bad h]
end Go.Proofs.Mv.App
open Go Go.Proofs Go.Proofs.Mv.V
namespace Go.Proofs.Mv.App
def decA (acc : Nat) (s : List UInt8) : Nat := s.foldl (fun n x => 10 * n + (x.toNat - 48)) acc
theorem decA_cons (acc : Nat) (x : UInt8) (s : List UInt8) : decA acc (x :: s) = decA (10 * acc + (x.toNat - 48)) s := by unfold decA; rw [List.foldl_cons]
theorem decA_ge (s : List UInt8) : ∀ acc, acc * 10 ^ s.length ≤ decA acc s := by
  induction s with
  | nil => intro acc; simp [decA]
  | cons x s ih =>
    intro acc
    have h1 := ih (10 * acc + (x.toNat - 48))
    rw [decA_cons, List.length_cons, Nat.pow_succ]
    generalize 10 ^ s.length = q at h1 ⊢
    have h2 : 10 * acc * q ≤ (10 * acc + (x.toNat - 48)) * q := Nat.mul_le_mul_right _ (by omega)
    have h3 : acc * (q * 10) = 10 * acc * q := by rw [Nat.mul_comm q 10, ← Nat.mul_assoc, Nat.mul_comm acc 10]
    omega
theorem decA_lt (s : List UInt8) : ∀ acc, s.all isDigit = true → decA acc s < (acc + 1) * 10 ^ s.length := by
  induction s with
  | nil => intro acc _; simp [decA]
  | cons x s ih =>
    intro acc h
    simp only [List.all_cons, Bool.and_eq_true] at h
    have hx : x.toNat ≤ 57 := by have := h.1; simp [isDigit] at this; omega
    have h1 := ih (10 * acc + (x.toNat - 48)) h.2
    rw [decA_cons, List.length_cons, Nat.pow_succ]
    generalize 10 ^ s.length = q at h1 ⊢
    have h2 : (10 * acc + (x.toNat - 48) + 1) * q ≤ (10 * (acc + 1)) * q := Nat.mul_le_mul_right _ (by omega)
    have h3 : (acc + 1) * (q * 10) = 10 * (acc + 1) * q := by rw [Nat.mul_comm q 10, ← Nat.mul_assoc, Nat.mul_comm (acc + 1) 10]
    omega
theorem decA_mono (s : List UInt8) (acc : Nat) : acc ≤ decA acc s :=
  Nat.le_trans (by exact Nat.le_mul_of_pos_right _ (Nat.pow_pos (by omega))) (decA_ge s acc)
theorem pm_ok : ∀ (s : List UInt8) (acc : Nat), s.all isDigit = true → decA acc s ≤ 4294967295 → Lib.parseUintM (2 ^ 32 - 1) acc s = .ok (decA acc s)
  | [], acc, _, _ => rfl
  | x :: s, acc, h, hle => by
    simp only [List.all_cons, Bool.and_eq_true] at h
    have hx : 48 ≤ x.toNat ∧ x.toNat ≤ 57 := by have := h.1; simpa [isDigit] using this
    rw [decA_cons] at hle ⊢
    have hm := decA_mono s (10 * acc + (x.toNat - 48))
    rw [Lib.parseUintM, if_pos hx, if_neg (by omega), if_neg (by omega), Nat.mul_comm acc 10]
    exact pm_ok s _ h.2 hle
theorem pm_inv (M : Nat) : ∀ (s : List UInt8) (acc u : Nat), Lib.parseUintM M acc s = .ok u → s.all isDigit = true ∧ u = decA acc s
  | [], acc, u, h => by simp only [Lib.parseUintM, Lib.NumEnd.ok.injEq] at h; exact ⟨rfl, h.symm⟩
  | x :: s, acc, u, h => by
    rw [Lib.parseUintM] at h
    split at h
    · rename_i hx
      split at h
      · cases h
      · split at h
        · cases h
        · obtain ⟨h1, h2⟩ := pm_inv M s _ u h
          rw [Nat.mul_comm acc 10] at h2
          exact ⟨by simp [List.all_cons, h1, isDigit, hx], h2⟩
    · cases h
theorem numOk_of {s : List UInt8} {u : Nat} (h : Lib.parseUintB 32 s = .ok u) (h1 : 1 ≤ u) (h2 : u ≤ 999999999) (h3 : s.head? ≠ some 48) : numOk s = true ∧ u = decF s := by
  unfold Lib.parseUintB at h
  split at h
  · cases h
  rename_i hne
  obtain ⟨hd, hu⟩ := pm_inv _ s 0 u h
  refine ⟨?_, hu⟩
  match s, hne with
  | x :: r, _ =>
    simp only [List.all_cons, Bool.and_eq_true] at hd
    have hx : 48 ≤ x.toNat ∧ x.toNat ≤ 57 := by have := hd.1; simpa [isDigit] using this
    have hx0 : x.toNat ≠ 48 := fun e => h3 (by simp; exact UInt8.toNat_inj.1 e)
    have hlen : (x :: r).length ≤ 9 := by
      rw [decA_cons] at hu
      have hge := decA_ge r (10 * 0 + (x.toNat - 48))
      have : 1 * 10 ^ r.length ≤ (10 * 0 + (x.toNat - 48)) * 10 ^ r.length := Nat.mul_le_mul_right _ (by omega)
      rcases Nat.lt_or_ge r.length 9 with hl | hl
      · simp only [List.length_cons]; omega
      · have hp : 10 ^ 9 ≤ 10 ^ r.length := Nat.pow_le_pow_right (by omega) hl
        have : (10 : Nat) ^ 9 = 1000000000 := by decide
        omega
    simp only [numOk, List.all_cons, hd.1, hd.2, Bool.and_self, Bool.and_true, Bool.and_eq_true, decide_eq_true_eq]
    exact ⟨⟨by simp, hlen⟩, h3⟩
theorem of_numOk {s : List UInt8} (h : numOk s = true) : Lib.parseUintB 32 s = .ok (decF s) ∧ 1 ≤ decF s ∧ decF s ≤ 999999999 ∧ s.head? ≠ some 48 ∧ s ≠ [] := by
  simp only [numOk, Bool.and_eq_true, decide_eq_true_eq] at h
  obtain ⟨⟨⟨h1, h2⟩, h3⟩, h4⟩ := h
  match s, h1, h2, h3, h4 with
  | x :: r, h1, h2, h3, h4 =>
    have h3' := h3
    simp only [List.all_cons, Bool.and_eq_true] at h3
    have hx : 48 ≤ x.toNat ∧ x.toNat ≤ 57 := by have := h3.1; simpa [isDigit] using this
    have hx0 : x.toNat ≠ 48 := fun e => h4 (by simp; exact UInt8.toNat_inj.1 e)
    have hlt := decA_lt (x :: r) 0 h3'
    have hp : 10 ^ (x :: r).length ≤ 10 ^ 9 := Nat.pow_le_pow_right (by omega) h2
    have h9 : (10 : Nat) ^ 9 = 1000000000 := by decide
    have hle : decF (x :: r) ≤ 999999999 := by show decA 0 (x :: r) ≤ _; omega
    have hge : 1 ≤ decF (x :: r) := by
      show 1 ≤ decA 0 (x :: r)
      rw [decA_cons]
      exact Nat.le_trans (by omega) (decA_mono r _)
    refine ⟨?_, hge, hle, h4, by simp⟩
    unfold Lib.parseUintB
    rw [if_neg (by simp)]
    exact pm_ok (x :: r) 0 h3' (by show decF _ ≤ _; omega)
end Go.Proofs.Mv.App
open Go Go.Proofs Go.Proofs.Mv.V
namespace Go.Proofs.Mv.App
/-- No later one is less. -/
def SortedN (l : List Nm) : Prop := l.Pairwise fun a b => ltB b.1 a.1 = false
theorem insF_perm (x : Nm) : ∀ l : List Nm, (insF x l).Perm (x :: l)
  | [] => .refl _
  | y :: ys => by
    simp only [insF]; split
    · exact .refl _
    · exact ((insF_perm x ys).cons y).trans (.swap _ _ _)
theorem insF_sorted (x : Nm) : ∀ {l : List Nm}, SortedN l → SortedN (insF x l)
  | [], _ => by simp [SortedN, insF]
  | y :: ys, h => by
    have h' := List.pairwise_cons.1 h
    simp only [insF]; split
    · rename_i e
      refine List.pairwise_cons.2 ⟨fun z hz => ?_, h⟩
      rcases List.mem_cons.1 hz with rfl | hz
      · exact ltB_asymm e
      · exact ltB_ntr (h'.1 z hz) (ltB_asymm e)
    · rename_i e
      refine List.pairwise_cons.2 ⟨fun z hz => ?_, insF_sorted x h'.2⟩
      have := (insF_perm x ys).mem_iff.1 hz
      rcases List.mem_cons.1 this with rfl | hz'
      · simpa using e
      · exact h'.1 z hz'
theorem sortF_snoc (ps : List Nm) (x : Nm) : sortF (ps ++ [x]) = insF x (sortF ps) := by simp [sortF]
theorem sortF_spec (ps : List Nm) : (sortF ps).Perm ps ∧ SortedN (sortF ps) := by
  have : ∀ (r acc : List Nm), SortedN acc → (r.foldl (fun acc x => insF x acc) acc).Perm (acc ++ r) ∧ SortedN (r.foldl (fun acc x => insF x acc) acc) := by
    intro r
    induction r with
    | nil => intro acc h; simp [h]
    | cons x r ih =>
      intro acc h
      obtain ⟨h1, h2⟩ := ih (insF x acc) (insF_sorted x h)
      refine ⟨h1.trans ?_, h2⟩
      refine ((insF_perm x acc).append_right r).trans ?_
      exact (List.perm_middle (a := x) (l₁ := acc) (l₂ := r)).symm
  have := this ps [] (by simp [SortedN])
  simpa [sortF] using this
theorem sorted_uniq {l l' ps : List Nm} (hd : (ps.map (·.1)).Nodup) (h : l.Perm ps) (h' : l'.Perm ps) (hs : SortedN l) (hs' : SortedN l') : l = l' := by
  refine List.Perm.eq_of_pairwise (le := fun a b : Nm => ltB b.1 a.1 = false) ?_ hs hs' (h.trans h'.symm)
  intro a b ha hb h1 h2
  have hn : a.1 = b.1 := ltB_anti h2 h1
  have ha' : a ∈ ps := h.mem_iff.1 ha
  have hb' : b ∈ ps := h'.mem_iff.1 hb
  have key : ∀ l : List Nm, (l.map (·.1)).Nodup → a ∈ l → b ∈ l → a = b := by
    intro l
    induction l with
    | nil => intro _ h; cases h
    | cons x l ih =>
      intro hd ha hb
      simp only [List.map_cons, List.nodup_cons, List.mem_map, not_exists, not_and] at hd
      rcases List.mem_cons.1 ha with rfl | ha2
      · rcases List.mem_cons.1 hb with rfl | hb
        · rfl
        · exact absurd hn.symm (hd.1 b hb)
      · rcases List.mem_cons.1 hb with rfl | hb
        · exact absurd hn (hd.1 a ha2)
        · exact ih hd.2 ha2 hb
  exact key ps hd ha' hb'
theorem insF_at (x : Nm) : ∀ {pre post : List Nm}, (∀ y ∈ pre, ltB x.1 y.1 = false) → (∀ y, post.head? = some y → ltB x.1 y.1 = true) → insF x (pre ++ post) = pre ++ x :: post
  | [], [], _, _ => rfl
  | [], y :: ys, _, h => by simp [insF, h y rfl]
  | z :: pre, post, h, h' => by
    have hz : ltB x.1 z.1 = false := h z (by simp)
    simp only [List.cons_append, insF, hz, Bool.false_eq_true, if_false]
    rw [insF_at x (fun y hy => h y (by simp [hy])) h']
end Go.Proofs.Mv.App
open Go Go.Proofs Go.Proofs.Mv.V
set_option maxRecDepth 10000
namespace Go.Proofs.Mv.App
variable [GI]
structure TkOk (l : List Tok) : Prop where
  len : l.length ≤ 1000000
  txt : ∀ t ∈ l, t.text.length ≤ 1000000
def errD (p : PS) : D := if p.bad = 0 then nilE else spotE p.at_ p.bad
def toksD (l : List Tok) : D := .sl 3 (l.map tokD)
def pC (l : List Tok) (p : PS) : List D := [toksD l, I p.at_, I p.cnt, errD p]
def pObj (l : List Tok) (p : PS) : V.Obj := ⟨4, [pC l p], 0⟩
theorem pur_tok (t : Tok) : ∀ d ∈ tokD t, Pur d := by
  intro d hd
  simp only [tokD, List.mem_cons, List.not_mem_nil, or_false] at hd
  rcases hd with rfl | rfl | rfl
  · exact pur_I _
  · exact pur_I _
  · exact pur_S _
theorem pur_toks (l : List Tok) : Pur (toksD l) := Pur.sl (by
  intro e he d hd
  obtain ⟨t, _, rfl⟩ := List.mem_map.1 he
  exact pur_tok t d hd)
theorem pur_spotE (a c : Int) : Pur (spotE a c) := Pur.iface (Pur.rptr (by
  intro d hd
  simp only [List.mem_cons, List.not_mem_nil, or_false] at hd
  rcases hd with rfl | rfl
  · exact Pur.v _
  · exact Pur.iface (Pur.v _)))
theorem pur_errD (p : PS) : Pur (errD p) := by
  unfold errD; split
  · exact pur_nilE
  · exact pur_spotE _ _
theorem pur_pC (l : List Tok) (p : PS) : ∀ d ∈ pC l p, Pur d := by
  intro d hd
  simp only [pC, List.mem_cons, List.not_mem_nil, or_false] at hd
  rcases hd with rfl | rfl | rfl | rfl
  · exact pur_toks _
  · exact pur_I _
  · exact pur_I _
  · exact pur_errD _
theorem pur_pObj (l : List Tok) (p : PS) : ∀ e ∈ (pObj l p).es, ∀ d ∈ e, Pur d := by
  intro e he d hd
  simp only [pObj, List.mem_singleton] at he
  subst he; exact pur_pC l p d hd
theorem pur_tup0 : Pur (.tup []) := Pur.tup (by simp)
def peekD (l : List Tok) (p : PS) : List D := match cur l p with
  | some t => tokD t
  | none => [I 0, I 0, S []]
theorem cur_some {l : List Tok} {p : PS} {t : Tok} (h : cur l p = some t) : p.bad = 0 ∧ p.at_ < l.length ∧ l[p.at_]? = some t := by
  unfold cur at h
  split at h
  · rename_i hb
    refine ⟨hb, ?_, h⟩
    rcases Nat.lt_or_ge p.at_ l.length with h1 | h1
    · exact h1
    · rw [List.getElem?_eq_none h1] at h; cases h
  · cases h
theorem cFail {l : List Tok} {p : PS} (c : Nat) (hc : c ≠ 0) {k : Nat} {m : Mem} {n : Nat} (hk : k < n) (hm : m k = some (pObj l p)) :
    ACalls Tryz.prog 102 [.ptr k 0 0 0, I c] m n (fun d m' n' => d = .tup [] ∧ m' = m.set k (pObj l (failF c p)) ∧ n' = n) := by
  have kn : k ≠ n := by omega
  have nk : n ≠ k := by omega
  by_cases hb : p.bad = 0
  · refine acalls_put (R' := Hq (fun d m' n' => d = .tup [] ∧ (∃ q, n ≤ q ∧ m' k = some ⟨4, [[toksD l, I p.at_, I p.cnt, .iface 73 (.ptr q 0 0 0)]], 0⟩ ∧ m' q = some ⟨2, [[I p.at_, code c]], 0⟩) ∧ ∀ j, j < n → j ≠ k → m' j = m j) tg) k hk _ ?_ ?_
    · refine acalls_vc [0, 1, 8] Tryz.func102 Tryz.ntmps102 (by kernel_rfl) rfl rfl (by simp) ?_
      simp -dsimp [hm, pObj, pC, errD, hb, nilE, set_ne, kn, nk]
      refine hq ⟨rfl, ⟨n, Nat.le_refl _, by simp, by simp [set_ne, nk, code, I]⟩, fun j hj hjk => ?_⟩
      rw [set_ne _ _ _ _ hjk, set_ne _ _ _ _ (by omega)]
    · rintro d m' n' ⟨rfl, ⟨q, h1, h2, h3⟩, h4⟩
      have hf : failF c p = ⟨p.at_, p.cnt, c⟩ := by simp [failF, hb]
      rw [hf]
      refine ⟨_, _, pur_tup0.pub, h2, .cons (.cons (pur_toks l).pub (.cons (pur_I _).pub (.cons (pur_I _).pub (.cons ?_ .nil)))) .nil, h4, rfl⟩
      simp only [errD, if_neg hc]
      exact .iface (.ptr h3 h1 (.cons (pur_I _).pub (.cons (pur_code _).pub .nil)))
  · rw [failF_bad hb, set_self hm]
    refine acalls_vc [0, 1, 8] Tryz.func102 Tryz.ntmps102 (by kernel_rfl) rfl rfl (by simp) ?_
    simp -dsimp [hm, pObj, pC, errD, hb, spotE]
    done
theorem cPeek {l : List Tok} {p : PS} {k : Nat} {m : Mem} {n : Nat} (hk : k < n) (hm : m k = some (pObj l p)) :
    ACalls Tryz.prog 133 [.ptr k 0 0 0] m n (fun d m' n' => d = .agg (peekD l p) ∧ m' = m ∧ n' = n) := by
  have kn : k ≠ n := by omega
  have nk : n ≠ k := by omega
  have fr : ∀ o, ∀ j, j < n → (m.set n o) j = m j := fun o j hj => set_ne _ _ _ _ (by omega)
  refine acalls_done (R' := Hq (fun d m' n' => d = .agg (peekD l p) ∧ ∀ j, j < n → m' j = m j) tg) ?_ ?_
  · refine acalls_vcC [0, 2, 19] Tryz.func133 Tryz.ntmps133 (by kernel_rfl) rfl rfl (by simp) ?_
    by_cases hb : p.bad = 0
    · by_cases ha : p.at_ < l.length
      · have hg : (l.map tokD)[p.at_]? = some (tokD l[p.at_]) := by simp [ha]
        have hl : (l.map tokD).length = l.length := by simp
        have hc : peekD l p = tokD l[p.at_] := by simp [peekD, cur, hb, ha]
        have hle : ¬ (l.length : Int) ≤ p.at_ := by omega
        have htk : tokD l[p.at_] = [I l[p.at_].kind, I l[p.at_].at_, S l[p.at_].text] := rfl
        generalize hL : l.map tokD = L at hg hl
        have hgi : L[p.at_]'(by omega) = tokD l[p.at_] := get_opt hg _
        rw [hc]
        simp -dsimp [hm, pObj, pC, errD, hb, nilE, toksD, hL, hl, I, hle, set_ne, kn, nk]
        refine vdraw_of [0, 1, 3, 7, 15, 31, 63, 127, 255, 511, 63, 1087, 3135, 7231, 15423, 32767, 65535] [0, 1, 2, 3, 4, 5, 6, 7, 8, 9, 10, 11, 12, 13, 14, 15, 16] (by kernel_rfl) (by kernel_rfl) ?_
        simp -dsimp [hm, pObj, pC, errD, hb, nilE, toksD, hL, hl, I, hle, set_ne, kn, nk]
        refine vdraw_of [0, 1, 3, 7, 0, 16, 48, 112, 255, 511, 1023] [0, 1, 2, 3, 4, 5, 6, 7, 8, 9, 10] (by kernel_rfl) (by kernel_rfl) ?_
        simp -dsimp [hm, pObj, pC, errD, hb, nilE, toksD, hL, hl, I, hle, set_ne, kn, nk, hgi, ha, htk]
        exact hq ⟨by simp [htk, I], fr _⟩
      · have hc : peekD l p = [I 0, I 0, S []] := by simp [peekD, cur, hb, ha]
        have hle : (l.length : Int) ≤ p.at_ := by omega
        rw [hc]
        simp -dsimp [hm, pObj, pC, errD, hb, nilE, toksD, I, hle, set_ne, kn, nk]
        refine vdraw_of [0, 1, 3, 7, 15, 31, 63, 127, 255, 511, 63, 1087, 3135, 7231, 15423, 32767, 65535] [0, 1, 2, 3, 4, 5, 6, 7, 8, 9, 10, 11, 12, 13, 14, 15, 16] (by kernel_rfl) (by kernel_rfl) ?_
        simp -dsimp [hm, pObj, pC, errD, hb, nilE, toksD, I, hle, set_ne, kn, nk]
        exact hq ⟨by simp [I, S], fr _⟩
    · have hc : peekD l p = [I 0, I 0, S []] := by simp [peekD, cur, hb]
      rw [hc]
      simp -dsimp [hm, pObj, pC, errD, hb, spotE, set_ne, kn, nk]
      refine vdraw_of [0, 1, 3, 7, 15, 31, 63, 127, 255, 511, 63, 1087, 3135, 7231, 15423, 32767, 65535] [0, 1, 2, 3, 4, 5, 6, 7, 8, 9, 10, 11, 12, 13, 14, 15, 16] (by kernel_rfl) (by kernel_rfl) ?_
      simp -dsimp [hm, pObj, pC, errD, hb, spotE, set_ne, kn, nk]
      exact hq ⟨by simp [I, S], fr _⟩
  · rintro d m' n' ⟨rfl, h⟩
    refine ⟨_, Pur.pub (Pur.agg ?_), h, rfl⟩
    unfold peekD; split
    · exact pur_tok _
    · intro d hd
      simp only [List.mem_cons, List.not_mem_nil, or_false] at hd
      rcases hd with rfl | rfl | rfl
      · exact pur_I _
      · exact pur_I _
      · exact pur_S _
end Go.Proofs.Mv.App
open Go Go.Proofs Go.Proofs.Mv.V
set_option maxRecDepth 10000
namespace Go.Proofs.Mv.App
variable [GI]
/-- The token at hand, as it is looked at. -/
structure Pk (l : List Tok) (p : PS) (kd a : Int) (tx : List UInt8) : Prop where
  pk : peekD l p = [I kd, I a, S tx]
  sig : ∀ s, isSig s l p = (decide (kd = 4) && decide (tx = s))
  nam : ∀ g, isNam g l p = (decide (kd = if g then 2 else 1) && namOk g tx)
  num : isNum l p = (decide (kd = 3) && numOk tx)
  beg : begF l p = begT ⟨kd, a, tx⟩
  tex : curT l p = tx
  len : tx.length ≤ 1000000
  ok : kd ≠ 0 → p.bad = 0 ∧ p.at_ < l.length
  cu : (cur l p = none ∧ kd = 0) ∨ cur l p = some ⟨kd, a, tx⟩
theorem pk_of {l : List Tok} (hl : TkOk l) (p : PS) : ∃ kd a tx, Pk l p kd a tx := by
  cases h : cur l p with
  | none => exact ⟨0, 0, [], by simp [peekD, h], by simp [isSig, h], by intro g; cases g <;> simp [isNam, h], by simp [isNum, h], by simp [begF, h, begT], by simp [curT, h], by simp, by simp, .inl ⟨h, rfl⟩⟩
  | some t =>
    obtain ⟨kd, a, tx⟩ := t
    obtain ⟨h1, h2, h3⟩ := cur_some h
    exact ⟨kd, a, tx, by simp [peekD, h, tokD], by simp [isSig, h], by intro g; simp [isNam, h], by simp [isNum, h], by simp [begF, h], by simp [curT, h],
      hl.txt _ (List.mem_of_getElem? h3), fun _ => ⟨h1, h2⟩, .inr h⟩
theorem wrap_at {l : List Tok} (hl : TkOk l) {p : PS} (h : p.at_ < l.length) : IntKind.i64.wrap ((p.at_ : Int) + 1) = (p.at_ : Int) + 1 := wrap_i64 (by omega) (by have := hl.len; omega)
theorem pObj_step {l : List Tok} {p : PS} (h : p.bad = 0) : pObj l (stepF p) = ⟨4, [[toksD l, .v (.int .i64 ((p.at_ : Int) + 1)), I p.cnt, .v .nilIface]], 0⟩ := by
  simp [pObj, pC, stepF, errD, h, I, nilE]
theorem cSign {l : List Tok} (hl : TkOk l) {p : PS} (s : List UInt8) {k : Nat} {m : Mem} {n : Nat} (hk : k < n) (hm : m k = some (pObj l p)) :
    ACalls Tryz.prog 183 [.ptr k 0 0 0, S s] m n (fun d m' n' => d = Tt (isSig s l p) ∧ m' = m.set k (pObj l (if isSig s l p then stepF p else p)) ∧ n' = n) := by
  have kn : k ≠ n := by omega
  have nk : n ≠ k := by omega
  obtain ⟨kd, a, tx, hp⟩ := pk_of hl p
  refine acalls_fin hk (pur_pObj _ _) (fun d h => by rw [h]; exact pur_T _) ?_
  refine acalls_vc [0, 1, 4, 5, 6, 18] Tryz.func183 Tryz.ntmps183 (by kernel_rfl) rfl rfl (by simp) ?_
  simp -dsimp
  refine aCall_of (cPeek hk hm) ?_
  rintro d m' n' ⟨rfl, rfl, rfl⟩
  rw [hp.pk, hp.sig]
  by_cases e4 : kd = 4
  · obtain ⟨hb, ha⟩ := hp.ok (by omega)
    have wa := wrap_at hl ha
    by_cases e : tx = s
    · have e' : (tx == s) = true := by simp [e]
      simp -dsimp [I, S, e4, e', hm, set_ne, kn, nk, pObj, pC, wa]
      refine fin_mk (by simp [e, Tt]) ?_ fun j hj hjk => ?_
      · simp [e, pObj, pC, errD, hb, stepF, I]
      · rw [set_ne _ _ _ _ hjk, set_ne _ _ _ _ (by omega)]
    · have e' : (tx == s) = false := by simp [e]
      simp -dsimp [I, S, e4, e', hm, set_ne, kn, nk]
      refine fin_mk (by simp [e, Tt]) ?_ fun j hj hjk => ?_
      · simp [e, hm, set_ne, kn]
      · rw [set_ne _ _ _ _ (by omega)]
  · have e4' : (kd == 4) = false := by simp [e4]
    simp -dsimp [I, S, e4', hm, set_ne, kn, nk]
    refine fin_mk (by simp [e4, Tt]) ?_ fun j hj hjk => ?_
    · simp [e4, hm, set_ne, kn]
    · rw [set_ne _ _ _ _ (by omega)]
theorem cMust {l : List Tok} (hl : TkOk l) {p : PS} (s : List UInt8) {k : Nat} {m : Mem} {n : Nat} (hk : k < n) (hm : m k = some (pObj l p)) :
    ACalls Tryz.prog 135 [.ptr k 0 0 0, S s] m n (fun d m' n' => d = .tup [] ∧ m' = m.set k (pObj l (mustF s l p)) ∧ n' = n) := by
  refine acalls_vc [0, 1, 7] Tryz.func135 Tryz.ntmps135 (by kernel_rfl) rfl rfl (by simp) ?_
  simp -dsimp [S]
  refine aCall_of (cSign hl s hk hm) ?_
  rintro d m' n' ⟨rfl, rfl, rfl⟩
  cases e : isSig s l p
  · simp -dsimp [Tt]
    refine aCall_of (cFail (l := l) (p := p) 2 (by omega) hk (by simp)) ?_
    rintro d m' n' ⟨rfl, rfl, rfl⟩
    simp -dsimp [mustF, e]
  · simp -dsimp [Tt, mustF, e]
theorem cName {l : List Tok} (hl : TkOk l) {p : PS} (g : Bool) (f : FuncId) (hf : ∀ (s : List UInt8) (hs : s.length ≤ 1000000000) (m : Mem) (n : Nat), ACalls Tryz.prog f [S s] m n (fun d m' n' => d = Tt (namOk g s) ∧ m' = m ∧ n' = n))
    {k : Nat} {m : Mem} {n : Nat} (hk : k < n) (hm : m k = some (pObj l p)) :
    ACalls Tryz.prog 136 [.ptr k 0 0 0, I (if g then 2 else 1), .func (.func f) [] []] m n (fun d m' n' => d = S (nameF g l p).1 ∧ m' = m.set k (pObj l (nameF g l p).2) ∧ n' = n) := by
  have kn : k ≠ n := by omega
  have nk : n ≠ k := by omega
  have kn1 : k < n + 1 := by omega
  obtain ⟨kd, a, tx, hp⟩ := pk_of hl p
  refine acalls_fin hk (pur_pObj _ _) (fun d h => by rw [h]; exact pur_S _) ?_
  refine acalls_vc [0, 1, 2, 6, 7, 20] Tryz.func136 Tryz.ntmps136 (by kernel_rfl) rfl rfl (by simp) ?_
  simp -dsimp [I]
  refine aCall_of (cPeek hk hm) ?_
  rintro d m' n' ⟨rfl, rfl, rfl⟩
  rw [hp.pk]
  have hn := hp.nam g
  generalize hg2 : (if g = true then (2 : Int) else 1) = kg at hn
  have hkg : kg ≠ 0 := by rw [← hg2]; split <;> omega
  have fail : ∀ (m2 : Mem), m2 k = some (pObj l p) → isNam g l p = false → nameF g l p = ([], failF 2 p) := fun m2 _ h => by simp [nameF, h]
  by_cases e : kd = kg
  · have e' : (kd != kg) = false := by simp [e]
    have hlen := hp.len
    simp -dsimp [I, S, e', hm, set_ne, kn, nk]
    refine aCall_of (hf tx (by omega) _ _) ?_
    rintro d m2 n2 ⟨rfl, rfl, rfl⟩
    cases eo : namOk g tx
    · have hfa : isNam g l p = false := by rw [hn]; simp [eo]
      simp -dsimp [Tt]
      refine aCall_of (cFail (l := l) (p := p) 2 (by omega) kn1 (by simp [set_ne, kn, hm])) ?_
      rintro d m2 n2 ⟨rfl, rfl, rfl⟩
      simp -dsimp
      refine fin_mk (by simp [nameF, hfa, S]) (by simp [nameF, hfa]) fun j hj hjk => ?_
      rw [set_ne _ _ _ _ hjk, set_ne _ _ _ _ (by omega)]
    · have htr : isNam g l p = true := by rw [hn]; simp [eo, e]
      obtain ⟨hb, ha⟩ := hp.ok (by omega)
      have wa := wrap_at hl ha
      simp -dsimp [Tt, hm, set_ne, kn, nk, pObj, pC, I, wa]
      refine fin_mk (by simp [nameF, htr, hp.tex, S]) ?_ fun j hj hjk => ?_
      · simp [nameF, htr, pObj, pC, errD, hb, stepF, I]
      · rw [set_ne _ _ _ _ hjk, set_ne _ _ _ _ (by omega)]
  · have e' : (kd != kg) = true := by simp [e]
    have hfa : isNam g l p = false := by rw [hn]; simp [e]
    simp -dsimp [I, S, e', hm, set_ne, kn, nk]
    refine aCall_of (cFail (l := l) (p := p) 2 (by omega) kn1 (by simp [set_ne, kn, hm])) ?_
    rintro d m2 n2 ⟨rfl, rfl, rfl⟩
    simp -dsimp
    refine fin_mk (by simp [nameF, hfa, S]) (by simp [nameF, hfa]) fun j hj hjk => ?_
    rw [set_ne _ _ _ _ hjk, set_ne _ _ _ _ (by omega)]
theorem cBase (s : List UInt8) (m : Mem) (n : Nat) : ACalls Tryz.prog 140 [S s] m n (fun d m' n' => d = I (baseN s) ∧ m' = m ∧ n' = n) := by
  refine acalls_vc [0, 2, 3, 4, 6, 8] Tryz.func140 Tryz.ntmps140 (by kernel_rfl) rfl rfl (by simp) ?_
  by_cases e1 : s = wInt
  · have : baseN s = 1 := by simp [baseN, e1]
    have f1 : (s == [73, 110, 116]) = true := by simp [e1, wInt]
    simp -dsimp [S, this, I, f1]
  have f1 : (s == [73, 110, 116]) = false := by simpa [wInt] using e1
  by_cases e2 : s = wText
  · have : baseN s = 2 := by simp [baseN, e2]; decide
    have f2 : (s == [84, 101, 120, 116]) = true := by simp [e2, wText]
    simp -dsimp [S, this, I, f1, f2]
  have f2 : (s == [84, 101, 120, 116]) = false := by simpa [wText] using e2
  by_cases e3 : s = wBool
  · have : baseN s = 3 := by simp [baseN, e3]; decide
    have f3 : (s == [66, 111, 111, 108]) = true := by simp [e3, wBool]
    simp -dsimp [S, this, I, f1, f2, f3]
  have f3 : (s == [66, 111, 111, 108]) = false := by simpa [wBool] using e3
  have : baseN s = 0 := by simp [baseN, e1, e2, e3]
  simp -dsimp [S, this, I, f1, f2, f3]
end Go.Proofs.Mv.App
open Go Go.Proofs Go.Proofs.Mv.V Go.RowKit
set_option maxRecDepth 10000
namespace Go.Proofs.Mv.App
theorem cParseUint (s : List UInt8) (hs : s.length ≤ 1000000000) (m : Mem) (n : Nat) : ACalls Tryz.prog 99 [S s, I 10, I 32] m n (fun d m' n' => ∃ (x : Int) (e : D), d = .tup [.v (.int .u64 x), e] ∧
    (match okU (Lib.parseUintB 32 s) with | some u => x = u ∧ e = nilE | none => ∃ t, e = .iface t .any) ∧ m' = m ∧ n' = n) := by
  refine acalls_lib ⟨_, Tryz.func99, by kernel_rfl, by kernel_rfl⟩ fun w ν F vals hst hv => ?_
  obtain ⟨a, b, c, rfl, h1, h2, h3⟩ := conVs_arr3 hv
  simp only [Con, S, I] at h1 h2 h3
  subst h1; subst h2; subst h3
  have hsz : (ofL s).size = s.length := by show (s.toArray).size = _; simp
  have hdl : (ofL s).data.toList = s := rfl
  rcases hp : Lib.parseUintB 32 s with u | _ | _
  · refine Calls.mono (show Calls Tryz.prog 99 _ _ _ from Any.strconv_ParseUint_10_at32_ok Tryz.laysPu14 (ofL s) (by omega) u (by rw [hdl]; exact hp) w) ?_
    rintro e w' ⟨rfl, hw⟩
    refine ⟨_, rfl, ?_, .tup [.v (.int .u64 u), nilE], ?_, (u : Int), nilE, rfl, by simp [okU], rfl, rfl⟩
    · rcases hw with rfl | rfl
      · exact Below.refl _ _
      · exact Lib.bytesWorld_below _ _ _
    · simp [Con, ConVs, nilE]
  · obtain ⟨te, pe, hc⟩ := hst.gi.c1
    refine Calls.mono (show Calls Tryz.prog 99 _ _ _ from Any.strconv_ParseUint_10_at32_syntax Tryz.laysPu14 (ofL s) (by omega) (by rw [hdl]; exact hp) _ w hc (.inr ⟨_, _, rfl⟩)) ?_
    rintro e w' ⟨N, rfl, _, _, hb⟩
    refine ⟨_, rfl, hb, .tup [.v (.int .u64 0), .iface (Tryz.laysPu14_ren.t 39) .any], ?_, _, _, rfl, ⟨_, rfl⟩, rfl, rfl⟩
    simp only [Con, ConVs]
    exact ⟨_, rfl, _, _, rfl, rfl, _, _, rfl, ⟨_, rfl, trivial⟩, rfl⟩
  · obtain ⟨te, pe, hc⟩ := hst.gi.c2
    refine Calls.mono (show Calls Tryz.prog 99 _ _ _ from Any.strconv_ParseUint_10_at32_range Tryz.laysPu14 (ofL s) (by omega) (by rw [hdl]; exact hp) _ w hc (.inr ⟨_, _, rfl⟩)) ?_
    rintro e w' ⟨N, rfl, _, _, hb⟩
    refine ⟨_, rfl, hb, .tup [.v (.int .u64 4294967295), .iface (Tryz.laysPu14_ren.t 39) .any], ?_, _, _, rfl, ⟨_, rfl⟩, rfl, rfl⟩
    simp only [Con, ConVs]
    exact ⟨_, rfl, _, _, rfl, rfl, _, _, rfl, ⟨_, rfl, trivial⟩, rfl⟩
end Go.Proofs.Mv.App
open Go Go.Proofs Go.Proofs.Mv.V
set_option maxRecDepth 10000
namespace Go.Proofs.Mv.App
theorem numOk_no {s : List UInt8} (h : okU (Lib.parseUintB 32 s) = none) : numOk s = false := by
  cases e : numOk s
  · rfl
  · rw [(of_numOk e).1] at h; simp [okU] at h
theorem okU_some {s : List UInt8} {u : Nat} (h : okU (Lib.parseUintB 32 s) = some u) : Lib.parseUintB 32 s = .ok u := by
  unfold okU at h; split at h
  · rename_i e; rw [e]; simp at h; rw [h]
  · cases h
set_option maxHeartbeats 1000000 in
theorem cNumber {l : List Tok} (hl : TkOk l) {p : PS} {k : Nat} {m : Mem} {n : Nat} (hk : k < n) (hm : m k = some (pObj l p)) :
    ACalls Tryz.prog 139 [.ptr k 0 0 0] m n (fun d m' n' => d = I (numF l p).1 ∧ m' = m.set k (pObj l (numF l p).2) ∧ n' = n) := by
  have kn : k ≠ n := by omega
  have nk : n ≠ k := by omega
  have kn1 : k < n + 1 := by omega
  obtain ⟨kd, a, tx, hp⟩ := pk_of hl p
  refine acalls_fin hk (pur_pObj _ _) (fun d h => by rw [h]; exact pur_I _) ?_
  refine acalls_vc [0, 2, 3, 4, 5, 34] Tryz.func139 Tryz.ntmps139 (by kernel_rfl) rfl rfl (by simp) ?_
  simp -dsimp [I]
  refine aCall_of (cPeek hk hm) ?_
  rintro d m' n' ⟨rfl, rfl, rfl⟩
  rw [hp.pk]
  have hn := hp.num
  have hlen := hp.len
  simp -dsimp [I, S]
  refine aCall_of (cParseUint tx (by omega) _ _) ?_
  rintro d m2 n2 ⟨x, e, rfl, hx, rfl, rfl⟩
  by_cases e3 : kd = 3
  case neg =>
    have e3' : (kd != 3) = true := by simp [e3]
    have hfa : isNum l p = false := by rw [hn]; simp [e3]
    simp -dsimp [I, S, e3', hm, set_ne, kn, nk]
    refine aCall_of (cFail (l := l) (p := p) 2 (by omega) kn1 (by simp [set_ne, kn, hm])) ?_
    rintro d m2 n2 ⟨rfl, rfl, rfl⟩
    simp -dsimp
    refine fin_mk (by simp [numF, hfa, I]) (by simp [numF, hfa]) fun j hj hjk => ?_
    rw [set_ne _ _ _ _ hjk, set_ne _ _ _ _ (by omega)]
  cases hu : okU (Lib.parseUintB 32 tx) with
  | none =>
    rw [hu] at hx
    obtain ⟨t, rfl⟩ := hx
    have hfa : isNum l p = false := by rw [hn]; simp [numOk_no hu]
    simp -dsimp [I, S, e3, hm, set_ne, kn, nk]
    refine aCall_of (cFail (l := l) (p := p) 2 (by omega) kn1 (by simp [set_ne, kn, hm])) ?_
    rintro d m2 n2 ⟨rfl, rfl, rfl⟩
    simp -dsimp
    refine fin_mk (by simp [numF, hfa, I]) (by simp [numF, hfa]) fun j hj hjk => ?_
    rw [set_ne _ _ _ _ hjk, set_ne _ _ _ _ (by omega)]
  | some u =>
    rw [hu] at hx
    obtain ⟨rfl, rfl⟩ := hx
    have hpu := okU_some hu
    have hbad : isNum l p = false → (numF l p) = (0, failF 2 p) := fun h => by simp [numF, h]
    by_cases u1 : (u : Int) < 1
    · have hfa : isNum l p = false := by
        rw [hn]; cases q : numOk tx
        · simp
        · have := of_numOk q; rw [hpu] at this; simp at this; omega
      simp -dsimp [I, S, e3, hm, set_ne, kn, nk, u1, nilE]
      refine aCall_of (cFail (l := l) (p := p) 2 (by omega) kn1 (by simp [set_ne, kn, hm])) ?_
      rintro d m2 n2 ⟨rfl, rfl, rfl⟩
      simp -dsimp
      refine fin_mk (by simp [numF, hfa, I]) (by simp [numF, hfa]) fun j hj hjk => ?_
      rw [set_ne _ _ _ _ hjk, set_ne _ _ _ _ (by omega)]
    by_cases u2 : 999999999 < (u : Int)
    · have hfa : isNum l p = false := by
        rw [hn]; cases q : numOk tx
        · simp
        · have := of_numOk q; rw [hpu] at this; simp at this; omega
      simp -dsimp [I, S, e3, hm, set_ne, kn, nk, u1, u2, nilE]
      refine aCall_of (cFail (l := l) (p := p) 2 (by omega) kn1 (by simp [set_ne, kn, hm])) ?_
      rintro d m2 n2 ⟨rfl, rfl, rfl⟩
      simp -dsimp
      refine fin_mk (by simp [numF, hfa, I]) (by simp [numF, hfa]) fun j hj hjk => ?_
      rw [set_ne _ _ _ _ hjk, set_ne _ _ _ _ (by omega)]
    obtain ⟨y, r, rfl⟩ : ∃ y r, tx = y :: r := by
      cases tx with
      | nil => simp [Lib.parseUintB] at hpu
      | cons y r => exact ⟨_, _, rfl⟩
    by_cases u3 : y.toNat = 48
    · have hy : y = 48 := UInt8.toNat_inj.1 u3
      have hfa : isNum l p = false := by
        rw [hn]; cases q : numOk (y :: r)
        · simp
        · exact absurd (by simp [hy]) (of_numOk q).2.2.2.1
      clear hy
      simp -dsimp [I, S, e3, hm, set_ne, kn, nk, u1, u2, u3, nilE]
      refine aCall_of (cFail (l := l) (p := p) 2 (by omega) kn1 (by simp [set_ne, kn, hm])) ?_
      rintro d m2 n2 ⟨rfl, rfl, rfl⟩
      simp -dsimp
      refine fin_mk (by simp [numF, hfa, I]) (by simp [numF, hfa]) fun j hj hjk => ?_
      rw [set_ne _ _ _ _ hjk, set_ne _ _ _ _ (by omega)]
    have u3' : ((y.toNat : Int) == 48) = false := by simp; omega
    obtain ⟨q1, q2⟩ := numOk_of hpu (by omega) (by omega) (by simp; intro h; exact u3 (by rw [h]; rfl))
    have htr : isNum l p = true := by rw [hn]; simp [e3, q1]
    obtain ⟨hb, ha⟩ := hp.ok (by omega)
    have wa := wrap_at hl ha
    have wu : IntKind.i64.wrap (u : Int) = u := wrap_i64 (by omega) (by omega)
    simp -dsimp [I, S, e3, hm, set_ne, kn, nk, u1, u2, u3', nilE, pObj, pC, wa, wu]
    refine fin_mk (by simp [numF, htr, hp.tex, q2, I]) ?_ fun j hj hjk => ?_
    · simp [numF, htr, pObj, pC, errD, hb, stepF, I]
    · rw [set_ne _ _ _ _ hjk, set_ne _ _ _ _ (by omega)]
set_option maxHeartbeats 1000000 in
theorem cBegins [GI] (kd a : Int) (tx : List UInt8) (hlen : tx.length ≤ 1000000000) (m : Mem) (n : Nat) : ACalls Tryz.prog 134 [.agg [I kd, I a, S tx]] m n (fun d m' n' => d = Tt (begT ⟨kd, a, tx⟩) ∧ m' = m ∧ n' = n) := by
  have fr : ∀ o, ∀ j, j < n → (m.set n o) j = m j := fun o j hj => set_ne _ _ _ _ (by omega)
  refine acalls_done (R' := Hq (fun d m' n' => d = Tt (begT ⟨kd, a, tx⟩) ∧ ∀ j, j < n → m' j = m j) tg) ?_ ?_
  · refine acalls_vc [0, 1, 2, 4, 5, 21] Tryz.func134 Tryz.ntmps134 (by kernel_rfl) rfl rfl (by simp) ?_
    by_cases e2 : kd = 2
    · simp -dsimp [I, S, e2]
      refine aCall_of (cBase tx _ _) ?_
      rintro d m2 n2 ⟨rfl, rfl, rfl⟩
      by_cases b0 : 0 < baseN tx
      · have b0' : (0 : Int) < baseN tx := by omega
        simp -dsimp [I, S, e2, b0', b0, Tt]
        exact hq ⟨by simp [begT, e2, b0, Tt], fr _⟩
      have b0' : ¬ (0 : Int) < baseN tx := by omega
      by_cases eL : tx = wList
      · have eL' : (tx == [76, 105, 115, 116]) = true := by simp [eL, wList]
        simp -dsimp [I, S, e2, b0', b0, Tt, eL']
        exact hq ⟨by simp [begT, e2, b0, eL, Tt], fr _⟩
      have eL' : (tx == [76, 105, 115, 116]) = false := by simpa [wList] using eL
      simp -dsimp [I, S, e2, b0', b0, Tt, eL']
      refine aCall_of (cGreat tx (by omega) _ _) ?_
      rintro d m2 n2 ⟨rfl, rfl, rfl⟩
      simp -dsimp [Tt]
      exact hq ⟨by simp [begT, e2, b0, eL, Tt], fr _⟩
    have e2' : (kd == 2) = false := by simp [e2]
    by_cases e1 : kd = 1
    · simp -dsimp [I, S, e1]
      refine aCall_of (cSmall tx (by omega) _ _) ?_
      rintro d m2 n2 ⟨rfl, rfl, rfl⟩
      simp -dsimp [Tt]
      exact hq ⟨by simp [begT, e1, Tt], fr _⟩
    have e1' : (kd == 1) = false := by simp [e1]
    by_cases e4 : kd = 4
    case neg =>
      have e4' : (kd == 4) = false := by simp [e4]
      simp -dsimp [I, S, e2', e1', e4']
      exact hq ⟨by simp [begT, e2, e1, e4, Tt], fr _⟩
    have h123 : begT ⟨kd, a, tx⟩ = (decide (tx = [123]) || decide (tx = [91]) || decide (tx = [40]) || decide (tx = [60])) := by simp [begT, e4]
    rw [h123]
    by_cases f1 : tx = [123]
    · have f1' : (tx == [123]) = true := by simp [f1]
      simp -dsimp [I, S, e4, f1']
      exact hq ⟨by simp [f1, Tt], fr _⟩
    have f1' : (tx == [123]) = false := by simp [f1]
    by_cases f2 : tx = [91]
    · have f2' : (tx == [91]) = true := by simp [f2]
      simp -dsimp [I, S, e4, f1', f2']
      exact hq ⟨by simp [f2, Tt], fr _⟩
    have f2' : (tx == [91]) = false := by simp [f2]
    by_cases f3 : tx = [40]
    · have f3' : (tx == [40]) = true := by simp [f3]
      simp -dsimp [I, S, e4, f1', f2', f3']
      exact hq ⟨by simp [f3, Tt], fr _⟩
    have f3' : (tx == [40]) = false := by simp [f3]
    by_cases f4 : tx = [60]
    · have f4' : (tx == [60]) = true := by simp [f4]
      simp -dsimp [I, S, e4, f1', f2', f3', f4']
      exact hq ⟨by simp [f4, Tt], fr _⟩
    have f4' : (tx == [60]) = false := by simp [f4]
    simp -dsimp [I, S, e4, f1', f2', f3', f4']
    exact hq ⟨by simp [f1, f2, f3, f4, Tt], fr _⟩
  · rintro d m' n' ⟨rfl, h⟩
    exact ⟨_, (pur_T _).pub, h, rfl⟩
end Go.Proofs.Mv.App
open Go Go.Proofs Go.Proofs.Mv.V
set_option maxRecDepth 10000
namespace Go.Proofs.Mv.App
section
variable [GI]
/-- What a type's read must do. -/
def TyR (l : List Tok) (k : Nat) (m : Mem) (n : Nat) (t : Ty) (q : PS) (d : D) (m' : Mem) (n' : Nat) : Prop :=
  (∃ t', d = .agg (tyD t') ∧ (q.bad = 0 → t' = t)) ∧ m' = m.set k (pObj l q) ∧ n' = n
def TypC (l : List Tok) (r : Nat) : Prop := ∀ (p : PS) (k : Nat) (m : Mem) (n : Nat), k < n → m k = some (pObj l p) → ACalls Tryz.prog 103 [.ptr k 0 0 0, I (33 - r)] m n (TyR l k m n (typF l r p).1 (typF l r p).2)
/-- The list of one's own behind one more type. -/
structure SubR (l : List Tok) (k : Nat) (m : Mem) (n : Nat) (ts : List Ty) (dl : D) (t : Ty) (q : PS) (d : D) (m' : Mem) (n' : Nat) : Prop where
  ls : ∃ t', Lst m' 7 ((ts ++ [t']).map tyD) d ∧ (q.bad = 0 → t' = t)
  pk : m' k = some (pObj l q)
  nn : n ≤ n'
  kk : ∀ j, kof d = some j → j < n' ∧ j ≠ k ∧ (kof dl = some j ∨ n ≤ j)
  fr : ∀ j, j < n → j ≠ k → kof dl ≠ some j → m' j = m j
theorem cSub {l : List Tok} (hl : TkOk l) {r : Nat} (hr : r ≤ 32) (H : TypC l r) {p : PS} {k : Nat} {m : Mem} {n : Nat} (hk : k < n) (hm : m k = some (pObj l p)) {ts : List Ty} {dl : D} (hL : Lst m 7 (ts.map tyD) dl) (hlen : ts.length ≤ 100)
    (hq : ∀ j, kof dl = some j → j < n ∧ j ≠ k) :
    ACalls Tryz.prog 189 [.ptr k 0 0 0, dl, I (32 - r)] m n (SubR l k m n ts dl (subF l (typF l r) ts.length p).1 (subF l (typF l r) ts.length p).2) := by
  have kn : k ≠ n := by omega
  have nk : n ≠ k := by omega
  have hll := lenD_lst hL
  rw [List.length_map] at hll
  have wd : IntKind.i64.wrap ((32 : Int) - r + 1) = 33 - r := by rw [wrap_i64 (by omega) (by omega)]; omega
  obtain ⟨kd, a, tx, hp⟩ := pk_of hl p
  have hbeg := hp.beg
  have hcu := hp.cu
  have hend : ∀ (p' : PS), subF l (typF l r) ts.length p = typF l r p' → ∀ (t' : Ty), ((typF l r p').2.bad = 0 → t' = (typF l r p').1) → ∀ (O : Prop), O → ∀ (K : D → Mem → Nat → Prop) (u : Tg K () ()),
      (∀ d m' n', SubR l k m n ts dl (subF l (typF l r) ts.length p).1 (subF l (typF l r) ts.length p).2 d m' n' → K d m' n') →
      b4 (apD (some (7, 112)) O dl (some (True, [tyD t'])) ((m.set k (pObj l (typF l r p').2)).set n ⟨7, [tyD t'], 0⟩) (n + 1)) K u := by
    intro p' he t' ht' O hO K u hK
    refine b4_append (hL.frame fun j hj => ?_) (fun j hj => by have := hq j hj; omega) hO trivial (by omega) (by simp; omega) ?_
    · have := hq j hj
      rw [set_ne _ _ _ _ (by omega), set_ne _ _ _ _ this.2]
    intro d m' n2 h1 h2 h3 h4
    refine hK _ _ _ ⟨⟨t', by simpa using h1, by rw [he]; exact ht'⟩, ?_, by omega, fun j hj => ?_, fun j hj hjk hjd => ?_⟩
    · rw [h4 k (by omega) (fun e => (hq k e).2 rfl), set_ne _ _ _ _ kn, set_same, he]
    · have := h3 j hj
      rcases this.2 with e | e
      · have h5 := hq j e; exact ⟨this.1, h5.2, .inl e⟩
      · exact ⟨this.1, by omega, .inr (by omega)⟩
    · rw [h4 j (by omega) hjd, set_ne _ _ _ _ (by omega), set_ne _ _ _ _ hjk]
  refine acalls_vc [0, 1, 2, 6, 14] Tryz.func189 Tryz.ntmps189 (by kernel_rfl) rfl rfl (by simp) ?_
  simp -dsimp [I]
  refine aCall_of (cPeek hk hm) ?_
  rintro d m' n' ⟨rfl, rfl, rfl⟩
  rw [hp.pk]
  simp -dsimp
  refine aCall_of (cBegins kd a tx (by have := hp.len; omega) _ _) ?_
  rintro d m2 n2 ⟨rfl, rfl, rfl⟩
  rw [← hbeg]
  cases hb : begF l p
  case false =>
    have he : subF l (typF l r) ts.length p = typF l r p := by simp [subF, hb]
    simp -dsimp [Tt, wd, I]
    refine aCall_of (H p k _ _ hk hm) ?_
    rintro d m' n' ⟨⟨t', rfl, ht'⟩, rfl, rfl⟩
    simp -dsimp
    refine hend p he t' ht' _ trivial _ _ ?_
    intro d m' n' hR
    simp -dsimp
    exact hR
  case true =>
    by_cases h20 : 20 ≤ (ts.length : Int)
    · have h20' : 20 ≤ ts.length := by omega
      have hbd : p.bad = 0 := by
        cases q : p.bad with
        | zero => rfl
        | succ q => rw [begF_bad (by omega)] at hb; cases hb
      have hf : (failF 3 p).bad ≠ 0 := by simp [failF, hbd]
      have he : subF l (typF l r) ts.length p = typF l r (failF 3 p) := by rw [typF_bad hf]; simp [subF, hb, h20']
      simp -dsimp [Tt, hll, h20, h20', wd, I]
      refine aCall_of (cFail (l := l) (p := p) 3 (by omega) hk hm) ?_
      rintro d m' n' ⟨rfl, rfl, rfl⟩
      simp -dsimp [wd]
      refine aCall_of (H (failF 3 p) k _ _ hk (by simp)) ?_
      rintro d m' n' ⟨⟨t', rfl, ht'⟩, rfl, rfl⟩
      simp -dsimp
      refine hend _ he t' ht' _ trivial _ _ ?_
      intro d m' n' hR
      simp -dsimp
      exact hR
    · have h20' : ¬ 20 ≤ ts.length := by omega
      have he : subF l (typF l r) ts.length p = typF l r p := by simp [subF, h20']
      simp -dsimp [Tt, hll, h20, h20', wd, I]
      refine aCall_of (H p k _ _ hk hm) ?_
      rintro d m' n' ⟨⟨t', rfl, ht'⟩, rfl, rfl⟩
      simp -dsimp
      refine hend p he t' ht' _ trivial _ _ ?_
      intro d m' n' hR
      simp -dsimp
      exact hR
end
end Go.Proofs.Mv.App
open Go Go.Proofs Go.Proofs.Mv.V
set_option maxRecDepth 10000
namespace Go.Proofs.Mv.App
variable [GI]
/-- The parts of a function, and how far they were read. -/
def headF (l : List Tok) (r : Nat) (p : PS) : List Ty × PS := if isSig [41] l p then ([], stepF p) else funF l (typF l r) 22 [] p
theorem funF_bad {l : List Tok} {rec : PS → Ty × PS} {k : Nat} {ts : List Ty} {p : PS} (h : p.bad ≠ 0) : funF l rec k ts p = (ts, p) := by
  cases k <;> simp [funF, h]
theorem subF_bad {l : List Tok} {r n : Nat} {p : PS} (h : p.bad ≠ 0) : subF l (typF l r) n p = (Ty0, p) := by
  simp [subF, begF_bad h, typF_bad h]
/-- The list as it stands: what was read, exactly so while nothing is amiss. -/
def As {α : Type} (xs' xs : List α) (p : PS) : Prop := xs'.length = xs.length ∧ (p.bad = 0 → xs' = xs)
theorem As.snoc {α : Type} {xs' xs : List α} {p q : PS} {x' x : α} (h : As xs' xs p) (hx : q.bad = 0 → x' = x) (hb : q.bad = 0 → p.bad = 0) : As (xs' ++ [x']) (xs ++ [x]) q :=
  ⟨by simp [h.1], fun e => by rw [h.2 (hb e), hx e]⟩
theorem As.step {α : Type} {xs' xs : List α} {p : PS} (h : As xs' xs p) : As xs' xs (stepF p) := ⟨h.1, h.2⟩
theorem As.then {α : Type} {xs' xs : List α} {p q : PS} (h : As xs' xs p) (hb : q.bad = 0 → p.bad = 0) : As xs' xs q := ⟨h.1, fun e => h.2 (hb e)⟩
theorem failF_keep {c : Nat} (hc : c ≠ 0) {p : PS} : (failF c p).bad ≠ 0 := by
  unfold failF; split
  · exact hc
  · assumption
theorem mustF_keep {l : List Tok} {s : List UInt8} {p : PS} (h : (mustF s l p).bad = 0) : p.bad = 0 := by
  cases e : p.bad with
  | zero => rfl
  | succ q => rw [mustF_bad (by omega)] at h; omega
theorem subF_keep {l : List Tok} {r n : Nat} {p : PS} (h : (subF l (typF l r) n p).2.bad = 0) : p.bad = 0 := by
  cases e : p.bad with
  | zero => rfl
  | succ q => rw [subF_bad (by omega)] at h; simp at h; omega
theorem typF_keep {l : List Tok} {r : Nat} {p : PS} (h : (typF l r p).2.bad = 0) : p.bad = 0 := by
  cases e : p.bad with
  | zero => rfl
  | succ q => rw [typF_bad (by omega)] at h; simp at h; omega
structure FunInv (l : List Tok) (r : Nat) (p0 : PS) (k : Nat) (m : Mem) (n n0 : Nat) (rem : Nat) (σ : Nat → D) (m2 : Mem) (n2 : Nat) : Prop where
  h0 : σ 0 = .ptr k 0 0 0
  h1 : σ 1 = I (32 - r)
  h4 : σ 4 = .ptr n 0 0 0
  nn : n + 1 ≤ n2
  m4 : m2 n = some ⟨7, [[I 0, S [], I 0, S [], S [], .v (.slice none 0 0), .v (.slice none 0 0)]], 0⟩
  fr : ∀ j, j < n → j ≠ k → m2 j = m j
  ex : ∃ ts ts' p, Lst m2 7 (ts'.map tyD) (σ 5) ∧ (∀ j, kof (σ 5) = some j → n + 1 ≤ j ∧ j < n2) ∧ m2 k = some (pObj l p) ∧ As ts' ts p ∧ ts.length + rem = 22 ∧ (20 < ts.length → p.bad ≠ 0) ∧
    (ts = [] → p = p0) ∧ (ts ≠ [] → headF l r p0 = funF l (typF l r) rem ts p)
structure FunMid (l : List Tok) (r : Nat) (p0 : PS) (k : Nat) (m : Mem) (n : Nat) (σ : Nat → D) (m2 : Mem) (n2 : Nat) : Prop where
  h0 : σ 0 = .ptr k 0 0 0
  h1 : σ 1 = I (32 - r)
  h4 : σ 4 = .ptr n 0 0 0
  nn : n + 1 ≤ n2
  m4 : m2 n = some ⟨7, [[I 0, S [], I 0, S [], S [], .v (.slice none 0 0), .v (.slice none 0 0)]], 0⟩
  fr : ∀ j, j < n → j ≠ k → m2 j = m j
  ex : ∃ ts', Lst m2 7 (ts'.map tyD) (σ 5) ∧ (∀ j, kof (σ 5) = some j → n + 1 ≤ j ∧ j < n2) ∧ m2 k = some (pObj l (headF l r p0).2) ∧ As ts' (headF l r p0).1 (headF l r p0).2 ∧ ts'.length ≤ 22
structure FunGo (k : Nat) (r n : Nat) (d5 : D) (m2 : Mem) (n2 : Nat) (C : Prop) (σ : Nat → D) (m' : Mem) (n' : Nat) : Prop where
  h0 : σ 0 = .ptr k 0 0 0
  h1 : σ 1 = I (32 - r)
  h4 : σ 4 = .ptr n 0 0 0
  h5 : σ 5 = d5
  mm : m' = m2
  nn : n' = n2
  cc : C
theorem typF_nob {l : List Tok} {r : Nat} {p : PS} (h : begF l p = false) : typF l r p = (Ty0, failF 2 p) := by
  cases r with
  | zero => simp [typF, h]
  | succ r =>
    simp only [typF]
    split
    · rfl
    · rename_i t ht
      have : begT t = false := by simpa [begF, ht] using h
      simp [this]
theorem subF_20 {l : List Tok} {r n : Nat} {p : PS} (h : 20 ≤ n) : (subF l (typF l r) n p).2.bad ≠ 0 := by
  unfold subF
  split
  · exact failF_keep (by omega)
  · rename_i hh
    have : begF l p = false := by simpa [h] using hh
    rw [typF_nob this]; exact failF_keep (by omega)
theorem step_bad {p : PS} : (stepF p).bad = p.bad := rfl
set_option maxHeartbeats 2000000 in
theorem cFunction {l : List Tok} (hl : TkOk l) {r : Nat} (hr : r ≤ 31) (H : TypC l r) {p : PS} {k : Nat} {m : Mem} {n : Nat} (hk : k < n) (hm : m k = some (pObj l p)) (hb0 : p.bad = 0) :
    ACalls Tryz.prog 138 [.ptr k 0 0 0, I (32 - r)] m n (TyR l k m n (funcF l (typF l r) p).1 (funcF l (typF l r) p).2) := by
  have kn : k ≠ n := by omega
  have nk : n ≠ k := by omega
  have hfun : funcF l (typF l r) p = (.mk 7 [] 0 [] [] [] ((headF l r p).1 ++ [(subF l (typF l r) (headF l r p).1.length (mustF [45, 62] l (headF l r p).2)).1]), (subF l (typF l r) (headF l r p).1.length (mustF [45, 62] l (headF l r p).2)).2) := rfl
  refine acalls_put (X := fun d => ∃ t', d = .agg (tyD t') ∧ ((funcF l (typF l r) p).2.bad = 0 → t' = (funcF l (typF l r) p).1)) (R' := Hq (fun d m' n' => ∃ ts' dl, d = .agg [I 7, S [], I 0, S [], S [], .v (.slice none 0 0), dl] ∧ Lst m' 7 (ts'.map tyD) dl ∧ (∀ j, kof dl = some j → n ≤ j) ∧
      ((funcF l (typF l r) p).2.bad = 0 → Ty.mk 7 [] 0 [] [] [] ts' = (funcF l (typF l r) p).1) ∧ m' k = some (pObj l (funcF l (typF l r) p).2) ∧ ∀ j, j < n → j ≠ k → m' j = m j) tg) k hk _ ?_ ?_
  · refine acalls_vcC [0, 1, 4, 5, 20, 26] Tryz.func138 Tryz.ntmps138 (by kernel_rfl) rfl rfl (by simp) ?_
    simp -dsimp [-vc_block, I]
    refine vc_mid (FunMid l r p k m n) ?_ ?_
    · rw [vc_block]
      simp -dsimp [-vc_block, I]
      refine vloop_of (β := Nat) (FunInv l r p k m n n) (fun b => b) 22 ⟨by simp, by simp [I], by simp, by omega, by simp [I, S], fun j hj hjk => set_ne _ _ _ _ (by omega), [], [], p, by simpa using Lst.nil, by simp, by rw [set_ne _ _ _ _ kn]; exact hm, ⟨rfl, fun _ => rfl⟩, by simp, by simp, fun _ => rfl, fun h => absurd rfl h⟩ ?_
      rintro rem σ m2 n2 ⟨h0, h1, h4, nn, m4, fr, ts, ts', q, hL, hkk, hpk, has, hrem, hbad, hfst, hrest⟩
      have hll := lenD_lst hL
      rw [List.length_map, has.1] at hll
      have hkn2 : k < n2 := by omega
      have done_ : ∀ (σ' : Nat → D) (m' : Mem) (n' : Nat) (us us' : List Ty) (q' : PS), σ' 0 = .ptr k 0 0 0 → σ' 1 = I (32 - r) → σ' 4 = .ptr n 0 0 0 → n + 1 ≤ n' → m' n = m2 n → (∀ j, j < n → j ≠ k → m' j = m j) →
          Lst m' 7 (us'.map tyD) (σ' 5) → (∀ j, kof (σ' 5) = some j → n + 1 ≤ j ∧ j < n') → m' k = some (pObj l q') → As us' us q' → us.length ≤ 22 → headF l r p = (us, q') → FunMid l r p k m n σ' m' n' := by
        intro σ' m' n' us us' q' a0 a1 a2 a3 a4 a5 a6 a7 a8 a9 a10 a11
        exact ⟨a0, a1, a2, a3, by rw [a4]; exact m4, a5, us', a6, a7, by rw [a11]; exact a8, by rw [a11]; exact a9, by rw [a9.1]; exact a10⟩
      by_cases hqb : q.bad = 0
      case neg =>
        have hq0 : ts ≠ [] := fun e => hqb (by rw [hfst e]; exact hb0)
        simp -dsimp [-vc_block, h0, h1, h4, hpk, pObj, pC, errD, hqb, spotE]
        refine done_ _ _ _ ts ts' q (by simp) (by simp) (by simp) nn rfl fr (by simpa using hL) (by simpa using hkk) (by simp [hpk, pObj, pC, errD]) has (by omega) ?_
        rw [hrest hq0, funF_bad hqb]
      have hts20 : ts.length ≤ 20 := by
        rcases Nat.lt_or_ge 20 ts.length with h | h
        · exact absurd hqb (hbad h)
        · exact h
      rw [vc_seq]
      refine vc_mid (FunGo k r n (σ 5) m2 n2 (ts = [] → isSig [41] l q = false)) ?_ ?_
      · by_cases hts : ts = []
        · have h0l : ts.length = 0 := by simp [hts]
          rw [h0l] at hll
          have hh : headF l r p = if isSig [41] l p then ([], stepF p) else funF l (typF l r) 22 [] p := rfl
          have hqp := hfst hts
          simp -dsimp [-vc_block, h0, h1, h4, hpk, pObj, pC, errD, hqb, nilE, hll]
          refine aCall_of (cSign hl [41] hkn2 hpk) ?_
          rintro d m3 n3 ⟨rfl, rfl, rfl⟩
          cases hs : isSig [41] l q
          · simp -dsimp [Tt, hs]
            exact ⟨by simp [h0], by simp [h1], by simp [h4], by simp, set_self hpk, rfl, by simp [hs]⟩
          · simp -dsimp [Tt, hs]
            have hT : ts' = [] := by rw [has.2 hqb, hts]
            refine done_ _ _ _ [] [] (stepF q) (by simp [h0]) (by simp [h1]) (by simp [h4]) nn (set_ne _ _ _ _ nk) (fun j hj hjk => by rw [set_ne _ _ _ _ hjk]; exact fr j hj hjk) ?_ (by simpa using hkk) (by simp) ⟨rfl, fun _ => rfl⟩ (by simp) ?_
            · rw [hT] at hL
              have := hL.frame (m' := m2.set k (pObj l (stepF q))) fun j hj => set_ne _ _ _ _ (by have := hkk j hj; omega)
              simpa using this
            · rw [hh, ← hqp, hs]; rfl
        · have h0l : (0 : Int) < ts.length := by have := List.length_pos_iff.2 hts; omega
          have h0n : 0 < ts.length := List.length_pos_iff.2 hts
          simp -dsimp [-vc_block, h0, h1, h4, hpk, pObj, pC, errD, hqb, nilE, hll, h0l, h0n]
          exact ⟨by simp [h0], by simp [h1], by simp [h4], by simp, rfl, rfl, by simp [hts]⟩
      · rintro σ1 m3 n3 ⟨g0, g1, g4, g5, rfl, rfl, hcc⟩
        obtain ⟨rem', rfl⟩ : ∃ rem', rem = rem' + 1 := ⟨rem - 1, by omega⟩
        have hrec : headF l r p = funF l (typF l r) (rem' + 1) ts q := by
          by_cases hts : ts = []
          · have h22 : rem' + 1 = 22 := by simp [hts] at hrem; omega
            rw [h22, hts, hfst hts, headF, ← hfst hts, hcc hts]; simp [hfst hts]
          · exact hrest hts
        simp only [funF, hqb, ne_eq, not_true_eq_false, if_false] at hrec
        rw [vc_block]
        simp -dsimp [-vc_block, g0, g1, g4, g5]
        have hT : ts' = ts := has.2 hqb
        subst hT
        refine aCall_of (cSub hl (by omega) H hkn2 hpk hL (by omega) fun j hj => by have := hkk j hj; omega) ?_
        intro d m4' n4 hR
        obtain ⟨⟨t', hL4, ht4⟩, hpk4, hnn4, hkk4, hfr4⟩ := hR
        generalize hq1 : subF l (typF l r) ts'.length q = q1 at hrec hpk4 ht4
        have hkk5 : ∀ j, kof d = some j → n + 1 ≤ j ∧ j < n4 ∧ j ≠ k := by
          intro j hj
          have := hkk4 j hj
          rcases this.2.2 with e | e
          · have := hkk j e; omega
          · omega
        have hk4 : k < n4 := by omega
        have hasn : As (ts' ++ [t']) (ts' ++ [q1.1]) q1.2 := ⟨by simp, fun e => by rw [ht4 e]⟩
        have hnm : m4' n = m3 n := hfr4 n (by omega) nk fun e => by have := hkk n e; omega
        have hfr5 : ∀ j, j < n → j ≠ k → m4' j = m j := fun j hj hjk => by rw [hfr4 j (by omega) hjk fun e => by have := hkk j e; omega]; exact fr j hj hjk
        simp -dsimp [-vc_block, g0, g1, g4, g5]
        refine aCall_of (cSign hl [41] hk4 hpk4) ?_
        rintro d5 m5 n5 ⟨rfl, rfl, rfl⟩
        cases hs : isSig [41] l q1.2
        · simp -dsimp [Tt, hs, -vc_block, g0, g1, g4, g5]
          refine aCall_of (cMust hl [44] (p := q1.2) hk4 (by simp)) ?_
          rintro d6 m6 n6 ⟨rfl, rfl, rfl⟩
          simp -dsimp [-vc_block, g0, g1, g4, g5]
          refine ⟨rem', by omega, by simp [g0], by simp [g1], by simp [g4], by omega, by rw [set_ne _ _ _ _ nk, hnm]; exact m4, fun j hj hjk => by rw [set_ne _ _ _ _ hjk]; exact hfr5 j hj hjk, ts' ++ [q1.1], ts' ++ [t'], mustF [44] l q1.2, ?_, ?_, by simp, hasn.then mustF_keep, by simp; omega, fun h20 => ?_, by simp, fun _ => ?_⟩
          · have := hL4.frame (m' := m4'.set k (pObj l (mustF [44] l q1.2))) fun j hj => set_ne _ _ _ _ (by have := hkk5 j hj; omega)
            simpa using this
          · intro j hj
            have := hkk5 j (by simpa using hj); omega
          · have h1 : q1.2.bad ≠ 0 := by rw [← hq1]; exact subF_20 (by simp at h20; omega)
            intro e; exact h1 (mustF_keep e)
          · rw [hrec, hs]; simp
        · simp -dsimp [Tt, hs, -vc_block, g0, g1, g4, g5]
          refine done_ _ _ _ (ts' ++ [q1.1]) (ts' ++ [t']) (stepF q1.2) (by simp [g0]) (by simp [g1]) (by simp [g4]) (by omega) (by rw [set_ne _ _ _ _ nk, hnm]) (fun j hj hjk => by rw [set_ne _ _ _ _ hjk]; exact hfr5 j hj hjk) ?_ ?_ (by simp) hasn.step (by simp; omega) ?_
          · have := hL4.frame (m' := m4'.set k (pObj l (stepF q1.2))) fun j hj => set_ne _ _ _ _ (by have := hkk5 j hj; omega)
            simpa using this
          · intro j hj
            have := hkk5 j (by simpa using hj); omega
          · rw [hrec, hs]; simp
    · rintro σ m2 n2 ⟨h0, h1, h4, nn, m4, fr, ts', hL, hkk, hpk, has, hlen⟩
      have hk2 : k < n2 := by omega
      simp -dsimp [h0, h1, h4]
      refine aCall_of (cMust hl [45, 62] hk2 hpk) ?_
      rintro d m3 n3 ⟨rfl, rfl, rfl⟩
      simp -dsimp [h0, h1, h4]
      refine aCall_of (cSub hl (by omega) H hk2 (p := mustF [45, 62] l (headF l r p).2) (by simp) (hL.frame fun j hj => set_ne _ _ _ _ (by have := hkk j hj; omega)) (by omega) fun j hj => by have := hkk j hj; omega) ?_
      intro d m4' n4 hR
      obtain ⟨⟨t', hL4, ht4⟩, hpk4, hnn4, hkk4, hfr4⟩ := hR
      have hn4 : m4' n = some ⟨7, [[I 0, S [], I 0, S [], S [], .v (.slice none 0 0), .v (.slice none 0 0)]], 0⟩ := by
        rw [hfr4 n (by omega) nk fun e => by have := hkk n e; omega, set_ne _ _ _ _ nk]; exact m4
      have hokd := okD_lst hL4
      simp -dsimp [hn4, hokd, S, I]
      refine hq ⟨ts' ++ [t'], d, by simp [I, S], ?_, ?_, ?_, ?_, ?_⟩
      · exact hL4.frame fun j hj => set_ne _ _ _ _ (by
          have := hkk4 j hj
          rcases this.2.2 with e | e
          · have := hkk j e; omega
          · omega)
      · intro j hj
        have := hkk4 j hj
        rcases this.2.2 with e | e
        · have := hkk j e; omega
        · omega
      · rw [hfun, has.1] at *
        intro e
        rw [ht4 e, has.2 (mustF_keep (subF_keep e))]
      · rw [set_ne _ _ _ _ kn, hpk4, hfun, has.1]
      · intro j hj hjk
        rw [set_ne _ _ _ _ (by omega), hfr4 j (by omega) hjk fun e => by have := hkk j e; omega, set_ne _ _ _ _ hjk]
        exact fr j hj hjk
  · rintro d m' n' ⟨ts', dl, rfl, h1, h2, h3, h4, h5⟩
    refine ⟨.agg (tyD (.mk 7 [] 0 [] [] [] ts')), _, ?_, h4, .pur (pur_pObj _ _), h5, _, rfl, h3⟩
    simp only [tyD]
    exact .agg (.cons (pur_I _).pub (.cons (pur_S _).pub (.cons (pur_I _).pub (.cons (pur_S _).pub (.cons (pur_S _).pub (.cons (pub_nil 1) (.cons (by rw [tysD_eq]; exact .lstP h1 h2 (pur_tym ts')) .nil)))))))
end Go.Proofs.Mv.App
open Go Go.Proofs Go.Proofs.Mv.V Go.RowKit
set_option maxRecDepth 10000
namespace Go.Proofs.Mv.App
section
variable [GI]
def partD (x : Nm) : List D := S x.1 :: tyD x.2
@[simp] theorem partD_len (x : Nm) : (partD x).length = 8 := by simp [partD]
@[simp] theorem partD_take (x : Nm) : (partD x).take 8 = partD x := List.take_of_length_le (by simp)
theorem pur_part (x : Nm) : ∀ d ∈ partD x, Pur d := by
  intro d hd
  simp only [partD, List.mem_cons] at hd
  rcases hd with rfl | hd
  · exact pur_S _
  · exact pur_ty _ d hd
def hasD (q : Nat) : D := .func (.func 184) [] [.ptr q 0 0 0]
theorem cHas (x : Nm) {q : Nat} {kd a : Int} {tx : List UInt8} {m : Mem} {n : Nat} (hq' : q < n) (hm : m q = some ⟨3, [[I kd, I a, S tx]], 0⟩) :
    ACalls Tryz.prog 184 [.agg (partD x), .ptr q 0 0 0] m n (fun d m' n' => d = Tt (x.1 == tx) ∧ m' = m ∧ n' = n) := by
  have qn : q ≠ n := by omega
  have nq : n ≠ q := by omega
  refine acalls_done (R' := Hq (fun d m' n' => d = Tt (x.1 == tx) ∧ ∀ j, j < n → m' j = m j) tg) ?_ ?_
  · refine acalls_vc [0, 1, 2, 3] Tryz.func184 Tryz.ntmps184 (by kernel_rfl) rfl rfl (by simp) ?_
    simp -dsimp [partD, hm, set_ne, qn, nq, S, I]
    exact hq ⟨by simp [Tt], fun j hj => set_ne _ _ _ _ (by omega)⟩
  · rintro d m' n' ⟨rfl, h⟩
    exact ⟨_, (pur_T _).pub, h, rfl⟩
structure FindInv (ps : List Nm) (tx : List UInt8) (dl : D) (q : Nat) (m : Mem) (n : Nat) (i : Nat) (σ : Nat → D) (m2 : Mem) (n2 : Nat) : Prop where
  h0 : σ 0 = dl
  h1 : σ 1 = hasD q
  h7 : σ 7 = I ps.length
  h8 : σ 8 = I i
  le : i ≤ ps.length
  al : ∀ x ∈ ps.take i, ¬ x.1 = tx
  mm : m2 = m
  nn : n2 = n
theorem cFind {ps : List Nm} {dl : D} {q : Nat} {kd a : Int} {tx : List UInt8} {m : Mem} {n : Nat} (hL : Lst m 8 (ps.map partD) dl) (hlen : ps.length ≤ 1000) (hq' : q < n) (hm : m q = some ⟨3, [[I kd, I a, S tx]], 0⟩) :
    ACalls Tryz.prog 216 [dl, hasD q] m n (Hq (fun d m' n' => ∃ r : Int, d = I r ∧ (0 ≤ r ↔ tx ∈ ps.map (·.1)) ∧ m' = m ∧ n' = n) tg) := by
  have hll := lenD_lst hL
  rw [List.length_map] at hll
  refine acalls_vc [0, 1, 4, 5, 7, 8, 9, 16] Tryz.func216 Tryz.ntmps216 (by kernel_rfl) rfl rfl (by simp) ?_
  simp -dsimp [hll, hasD]
  refine vloop_of (β := Nat) (FindInv ps tx dl q m n) (fun i => ps.length - i) 0 ⟨by simp, by simp [hasD], by simp [I], by simp [I], by omega, by simp, rfl, rfl⟩ ?_
  rintro i σ m2 n2 ⟨h0, h1, h7, h8, le, al, rfl, rfl⟩
  by_cases hi : (i : Int) < ps.length
  · have hi' : i < ps.length := by omega
    have wi : IntKind.i64.wrap ((i : Int) + 1) = (i : Int) + 1 := wrap_i64 (by omega) (by omega)
    rcases hL with ⟨he, _⟩ | ⟨kk, gg, es', rfl, hmk, hle, htk⟩
    · have : ps = [] := by simpa using he
      subst this; simp at hi'
    have hgi : es'[i]? = some (partD ps[i]) := by
      have h1 : (es'.take (ps.map partD).length)[i]? = some (partD ps[i]) := by rw [htk]; simp [hi']
      rw [List.getElem?_take] at h1
      split at h1
      · exact h1
      · cases h1
    have hle' : i < es'.length := by simp at hle; omega
    have hgi' : es'[i] = partD ps[i] := get_opt hgi hle'
    simp -dsimp [h0, h1, h7, h8, I, hi, hi', hasD, hmk, hgi', hle']
    refine aCall_of (cHas ps[i] hq' hm) ?_
    rintro d m' n' ⟨rfl, rfl, rfl⟩
    by_cases e : ps[i].1 = tx
    · have e' : (ps[i].1 == tx) = true := by simp [e]
      simp -dsimp [Tt, e', h0, h1, h7, h8, I]
      exact hq ⟨i, rfl, by simp; exact ⟨ps[i].2, by rw [← e]; exact List.getElem_mem hi'⟩, rfl, rfl⟩
    · have e' : (ps[i].1 == tx) = false := by simp [e]
      simp -dsimp [Tt, e', h0, h1, h7, h8, I, wi]
      refine ⟨i + 1, by omega, by simp, by simp [hasD], by simp [I], by simp [I], by omega, ?_, rfl, rfl⟩
      intro x hx
      rw [List.take_succ_eq_append_getElem hi'] at hx
      rcases List.mem_append.1 hx with hx | hx
      · exact al x hx
      · simp at hx; rw [hx]; exact e
  · simp -dsimp [h0, h1, h7, h8, I, hi]
    have : i = ps.length := by omega
    subst this
    rw [List.take_length] at al
    refine hq ⟨-1, rfl, ?_, rfl, rfl⟩
    simp only [List.mem_map, not_exists]
    constructor
    · intro h; omega
    · rintro ⟨x, hx, e⟩; exact absurd e (al x hx)
theorem cContains {ps : List Nm} {dl : D} {q : Nat} {kd a : Int} {tx : List UInt8} {m : Mem} {n : Nat} (hL : Lst m 8 (ps.map partD) dl) (hlen : ps.length ≤ 1000) (hq' : q < n) (hm : m q = some ⟨3, [[I kd, I a, S tx]], 0⟩) :
    ACalls Tryz.prog 185 [dl, hasD q] m n (fun d m' n' => d = Tt (decide (tx ∈ ps.map (·.1))) ∧ m' = m ∧ n' = n) := by
  refine acalls_vc [0, 1, 4] Tryz.func185 Tryz.ntmps185 (by kernel_rfl) rfl rfl (by simp) ?_
  simp -dsimp
  refine aCall_of (cFind hL hlen hq' hm) ?_
  rintro d m' n' ⟨r, rfl, hr, rfl, rfl⟩
  by_cases h : tx ∈ ps.map (·.1)
  · have : 0 ≤ r := hr.2 h
    simp -dsimp [I, Tt, this, h]
  · have : ¬ 0 ≤ r := fun e => h (hr.1 e)
    simp -dsimp [I, Tt, this, h]
end
end Go.Proofs.Mv.App
open Go Go.Proofs Go.Proofs.Mv.V
set_option maxRecDepth 10000
namespace Go.Proofs.Mv.App
theorem firstT_le2 (x : UInt8) (r : List UInt8) : (firstT (x :: r)).2 ≤ r.length + 1 := firstT_le x r
theorem toks_ok : ∀ (k : Nat) (s : List UInt8) (a : Nat), (tokF k s a).1.length ≤ s.length ∧ ∀ t ∈ (tokF k s a).1, t.text.length ≤ s.length := by
  intro k
  induction k with
  | zero => intro s a; simp [tokF]
  | succ k ih =>
    intro s a
    match s with
    | [] => simp [tokF]
    | x :: r =>
      have drop : ∀ q b, ((tokF k ((x :: r).drop q) b).1.length ≤ (x :: r).length - q) ∧ ∀ t ∈ (tokF k ((x :: r).drop q) b).1, t.text.length ≤ (x :: r).length - q := by
        intro q b
        have := ih ((x :: r).drop q) b
        rw [List.length_drop] at this
        exact this
      simp only [tokF]
      split
      · have := ih r (a + 1)
        simp only [List.length_cons]
        exact ⟨by omega, fun t ht => by have := this.2 t ht; omega⟩
      · split
        · have := drop (runN (fun y => !decide (y.toNat = 10)) (x :: r)) (a + runN (fun y => !decide (y.toNat = 10)) (x :: r))
          exact ⟨by omega, fun t ht => by have := this.2 t ht; omega⟩
        · split
          · simp
          · rename_i hf
            have := drop (firstT (x :: r)).2 (a + (firstT (x :: r)).2)
            have hl := firstT_le x r
            refine ⟨by simp only [List.length_cons] at this ⊢; omega, fun t ht => ?_⟩
            rcases List.mem_cons.1 ht with rfl | ht
            · simp only [List.length_take]; omega
            · have := this.2 t ht; omega
theorem toks_tk {s : List UInt8} (h : s.length ≤ 1000000) : TkOk (toksAt s 0).1 :=
  ⟨by have := (toks_ok (s.length + 1) s 0).1; unfold toksAt; omega, fun t ht => by have := (toks_ok (s.length + 1) s 0).2 t (by simpa [toksAt] using ht); omega⟩
end Go.Proofs.Mv.App
open Go Go.Proofs Go.Proofs.Mv.V
set_option maxRecDepth 10000
namespace Go.Proofs.Mv.App
section
variable [GI]
def zero7 : List D := [I 0, S [], I 0, S [], S [], .v (.slice none 0 0), .v (.slice none 0 0)]
def endS (g : Bool) : List UInt8 := if g then [93] else [125]
def knd (g : Bool) : Int := if g then 6 else 5
def headN (l : List Tok) (g : Bool) (r : Nat) (p : PS) : List Nm × PS := if g = false ∧ isSig [125] l p = true then ([], stepF p) else namedF l g (endS g) (typF l r) 22 [] p
theorem namedF_bad {l : List Tok} {g : Bool} {en : List UInt8} {rec : PS → Ty × PS} {k : Nat} {ts : List Nm} {p : PS} (h : p.bad ≠ 0) : namedF l g en rec k ts p = (ts, p) := by
  cases k <;> simp [namedF, h]
/-- What is amiss with the next part. -/
def swF (l : List Tok) (g : Bool) (ps : List Nm) (p : PS) : PS :=
  if isNam g l p = false then failF 2 p else if 20 ≤ ps.length then failF 3 p else if curT l p ∈ ps.map (·.1) then failF 5 p else p
theorem namedF_sw {l : List Tok} {g : Bool} {en : List UInt8} {rec : PS → Ty × PS} {k : Nat} {ps : List Nm} {p : PS} (h : p.bad = 0) (hs : (swF l g ps p).bad ≠ 0) : namedF l g en rec (k + 1) ps p = (ps, swF l g ps p) := by
  unfold swF at hs ⊢
  simp only [namedF]
  rw [if_neg (by simp [h])]
  split
  · rfl
  · split
    · rfl
    · split
      · rfl
      · rename_i h1 h2 h3; rw [if_neg h1, if_neg h2, if_neg h3] at hs; exact absurd h hs
theorem namedF_go {l : List Tok} {g : Bool} {en : List UInt8} {rec : PS → Ty × PS} {k : Nat} {ps : List Nm} {p : PS} (h : p.bad = 0) (hs : (swF l g ps p).bad = 0) : isNam g l p = true ∧ ps.length < 20 ∧ curT l p ∉ ps.map (·.1) ∧ swF l g ps p = p ∧
    namedF l g en rec (k + 1) ps p = (if isSig en l (rec (mustF [58] l (stepF p))).2 then (ps ++ [(curT l p, (rec (mustF [58] l (stepF p))).1)], stepF (rec (mustF [58] l (stepF p))).2)
      else namedF l g en rec k (ps ++ [(curT l p, (rec (mustF [58] l (stepF p))).1)]) (mustF [44] l (rec (mustF [58] l (stepF p))).2)) := by
  unfold swF at hs ⊢
  split at hs
  · exact absurd hs (failF_keep (by omega))
  · rename_i h1
    split at hs
    · exact absurd hs (failF_keep (by omega))
    · rename_i h2
      split at hs
      · exact absurd hs (failF_keep (by omega))
      · rename_i h3
        refine ⟨by simpa using h1, by omega, h3, by rw [if_neg h1, if_neg h2, if_neg h3], ?_⟩
        simp only [namedF]
        rw [if_neg (by simp [h]), if_neg h1, if_neg h2, if_neg h3]
end
section
variable [GI]
theorem pub_build {n : Nat} {m : Mem} (kd : Int) (a : List UInt8) (b : Int) (c d : List UInt8) : PubAs n m (.agg [I kd, S a, I b, S c, S d, .v (.slice none 0 0), .v (.slice none 0 0)]) (.agg (tyD (.mk kd a b c d [] []))) := by
  simp only [tyD, tysD]
  exact .agg (.cons (pur_I _).pub (.cons (pur_S _).pub (.cons (pur_I _).pub (.cons (pur_S _).pub (.cons (pur_S _).pub (.cons (pub_nil 1) (.cons (pub_nil 7) .nil)))))))
def TyQ (l : List Tok) (k : Nat) (m : Mem) (n : Nat) (t : Ty) (q : PS) : D → Mem → Nat → Prop :=
  Hq (fun d m' n' => ∃ t', PubAs n m' d (.agg (tyD t')) ∧ (q.bad = 0 → t' = t) ∧ m' k = some (pObj l q) ∧ ∀ j, j < n → j ≠ k → m' j = m j) tg
theorem acalls_ty {f : FuncId} {args : List D} {l : List Tok} {k : Nat} {m : Mem} {n : Nat} {t : Ty} {q : PS} (hk : k < n) (h : ACalls Tryz.prog f args m n (TyQ l k m n t q)) : ACalls Tryz.prog f args m n (TyR l k m n t q) := by
  refine acalls_put (X := fun d => ∃ t', d = .agg (tyD t') ∧ (q.bad = 0 → t' = t)) k hk _ h ?_
  rintro d m' n' ⟨t', h1, h2, h3, h4⟩
  exact ⟨.agg (tyD t'), _, h1, h3, .pur (pur_pObj _ _), h4, t', rfl, h2⟩
theorem tyq {l : List Tok} {k : Nat} {m : Mem} {n : Nat} {t : Ty} {q : PS} {d : D} {m' : Mem} {n' : Nat} (t' : Ty) (h1 : PubAs n m' d (.agg (tyD t'))) (h2 : q.bad = 0 → t' = t) (h3 : m' k = some (pObj l q)) (h4 : ∀ j, j < n → j ≠ k → m' j = m j) : TyQ l k m n t q d m' n' := ⟨t', h1, h2, h3, h4⟩
theorem typF_step {l : List Tok} {r : Nat} {p : PS} {t : Tok} (hc : cur l p = some t) (hb : begT t = true) (hn : p.cnt < 500) : typF l (r + 1) p = bodyF l t (typF l r) ⟨p.at_ + 1, p.cnt + 1, p.bad⟩ := by
  simp only [typF, hc]
  rw [if_neg (by simp [hb]), if_neg (by omega)]
theorem typF_large {l : List Tok} {r : Nat} {p : PS} (hb : begF l p = true) (h : r = 0 ∨ 500 ≤ p.cnt) : typF l r p = (Ty0, failF 3 p) := by
  cases r with
  | zero => simp [typF, hb]
  | succ r =>
    have hn : 500 ≤ p.cnt := by omega
    simp only [typF]
    split
    · rename_i h; simp [begF, h] at hb
    · rename_i t ht
      have : begT t = true := by simpa [begF, ht] using hb
      simp [this, hn]
theorem cnt_obj {l : List Tok} {p : PS} (hb : p.bad = 0) : (⟨4, [[toksD l, .v (.int .i64 ((p.at_ : Int) + 1)), .v (.int .i64 ((p.cnt : Int) + 1)), .v .nilIface]], 0⟩ : V.Obj) = pObj l ⟨p.at_ + 1, p.cnt + 1, p.bad⟩ := by
  simp [pObj, pC, errD, hb, I, nilE]
end
@[simp] theorem okD_toks [GI] (l : List Tok) : okD (toksD l) = true := rfl
@[simp] theorem cellsOf_toks [GI] (l : List Tok) : cellsOf (toksD l) = [toksD l] := rfl
@[simp] theorem okD_errO' [GI] (a c : Int) : okD (spotE a c) = true := rfl
@[simp] theorem cellsOf_spotE [GI] (a c : Int) : cellsOf (spotE a c) = [spotE a c] := rfl
/-- What At tells: the type, the place behind it, what is amiss. -/
def atF (l : List Tok) (i : Int) : Ty × Nat × Option (Int × Nat) :=
  if i < 0 ∨ (l.length : Int) < i then (Ty0, 0, some (i, 2))
  else if (typF l 32 ⟨i.toNat, 0, 0⟩).2.bad ≠ 0 then (Ty0, 0, some ((typF l 32 ⟨i.toNat, 0, 0⟩).2.at_, (typF l 32 ⟨i.toNat, 0, 0⟩).2.bad))
  else ((typF l 32 ⟨i.toNat, 0, 0⟩).1, (typF l 32 ⟨i.toNat, 0, 0⟩).2.at_, none)
def errO [GI] : Option (Int × Nat) → D
  | none => nilE
  | some (a, c) => spotE a c
theorem pur_errO [GI] (o : Option (Int × Nat)) : Pur (errO o) := by
  cases o with
  | none => exact pur_nilE
  | some x => exact pur_spotE _ _
theorem pub_ty0 [GI] {n : Nat} {m : Mem} : PubAs n m (.agg [I 0, S [], I 0, S [], S [], .v (.slice none 0 0), .v (.slice none 0 0)]) (.agg (tyD Ty0)) := pub_build 0 [] 0 [] []
/-- What is amiss with a text. -/
inductive PErr where
  | none
  | large
  | spot (a : Int) (c : Nat)
def errP [GI] : PErr → D
  | .none => nilE
  | .large => code 3
  | .spot a c => spotE a c
theorem pur_errP [GI] (o : PErr) : Pur (errP o) := by
  cases o
  · exact pur_nilE
  · exact pur_code _
  · exact pur_spotE _ _
def parseF (s : List UInt8) : Ty × PErr :=
  if 20000 < s.length then (Ty0, .large)
  else match (toksAt s 0).2 with
    | some a => (Ty0, .spot a 2)
    | Option.none => match (atF (toksAt s 0).1 0).2.2 with
      | some (a, c) => (Ty0, .spot a c)
      | Option.none => if (atF (toksAt s 0).1 0).2.1 < (toksAt s 0).1.length then (Ty0, .spot (atF (toksAt s 0).1 0).2.1 2) else ((atF (toksAt s 0).1 0).1, .none)
end Go.Proofs.Mv.App
open Go Go.Proofs Go.Proofs.Mv.V Go.RowKit Go.Sort
set_option maxRecDepth 10000
namespace Go.Proofs.Mv.App
set_option maxHeartbeats 1000000 in
theorem wIsNaN (x : ByteArray) (w : World) : Calls Tryz.prog 219 #[.string x] w fun e w' => e = .returned (.bool false) ∧ w' = w := by
  go_enter Tryz.func219, Tryz.ntmps219
  go_wp2
  go_ret
  exact ⟨by simp, rfl⟩
theorem tl_ofL (l : List UInt8) : (ofL l).toList = l := by rw [Lib.toList_data]; rfl
set_option maxHeartbeats 1000000 in
theorem wCompare (a b : List UInt8) (w : World) : Calls Tryz.prog 188 #[.string (ofL a), .string (ofL b)] w fun e w' => e = .returned (.int .i64 (cmpB a b)) ∧ w' = w := by
  have k1 : ltB a b = Op.bytesLess (ofL a).toList (ofL b).toList := by rw [tl_ofL, tl_ofL]; rfl
  have k2 : cmpB a b = if Op.bytesLess (ofL a).toList (ofL b).toList = true then -1 else if (!(Op.bytesLess (ofL a).toList (ofL b).toList || (ofL a).toList == (ofL b).toList)) = true then 1 else 0 := by
    rw [← k1, tl_ofL, tl_ofL]
    unfold cmpB
    cases h : ltB a b
    · by_cases e : a = b
      · subst e; simp [ltB_irr]
      · have : ltB b a = true := by
          cases h' : ltB b a
          · exact absurd (ltB_anti h h') e
          · rfl
        simp [this, e]
    · simp
  rw [k2]
  generalize (ofL a) = x
  generalize (ofL b) = y
  clear k1 k2
  go_enter Tryz.func188, Tryz.ntmps188
  go_wp2_with (go_at_call 219; refine (wIsNaN _ _).mono ?_; rintro e w' ⟨rfl, hw⟩; rw [hw])
  all_goals (go_ret; refine ⟨?_, rfl⟩; (repeat' split) <;> first | rfl | simp_all)
set_option maxHeartbeats 1000000 in
theorem wLess (x y : RowD 7) (W : World) : Calls Tryz.prog 187 #[.agg (encV x).toArray, .agg (encV y).toArray] W fun e w' => e = .returned (.int .i64 (cfV x y)) ∧ ∃ q os', w' = grow (W.drewN q) os' := by
  obtain ⟨⟨nx, rx, lx, ox⟩, px⟩ := x
  obtain ⟨⟨ny, ry, ly, oy⟩, py⟩ := y
  have hcon := fun W' => wCompare nx ny W'
  simp only [encV, cfV]
  clear px py ox oy
  match rx, ry, lx, ly with
  | [a0, a1, a2, a3, a4, a5, a6], [b0, b1, b2, b3, b4, b5, b6], _, _ =>
    generalize cmpB nx ny = r at hcon ⊢
    generalize ofL nx = x at hcon ⊢
    generalize ofL ny = y at hcon ⊢
    go_enter Tryz.func187, Tryz.ntmps187
    go_wp2_with (go_at_call 188; refine (hcon _).mono ?_; rintro e w' ⟨rfl, rfl⟩)
    go_ret
    exact ⟨rfl, 0, _, by rw [alloc_eq_grow, alloc_eq_grow, grow_grow]; rfl⟩
theorem perm_map_ex {α β : Type} (f : α → β) {a b : List β} (h : a.Perm b) : ∀ l : List α, l.map f = b → ∃ qs : List α, qs.Perm l ∧ qs.map f = a := by
  induction h with
  | nil => intro l hl; exact ⟨l, .refl _, hl⟩
  | cons x h ih =>
    intro l hl
    cases l with
    | nil => simp at hl
    | cons y ys =>
      simp only [List.map_cons, List.cons.injEq] at hl
      obtain ⟨qs, h1, h2⟩ := ih ys hl.2
      exact ⟨y :: qs, h1.cons y, by simp [h2, hl.1]⟩
  | swap x y t =>
    intro l hl
    match l, hl with
    | u :: v :: t', hl =>
      simp only [List.map_cons, List.cons.injEq] at hl
      exact ⟨v :: u :: t', .swap _ _ _, by simp [hl.1, hl.2.1, hl.2.2]⟩
  | trans h1 h2 ih1 ih2 =>
    intro l hl
    obtain ⟨q2, g1, g2⟩ := ih2 l hl
    obtain ⟨q1, g3, g4⟩ := ih1 q2 g2
    exact ⟨q1, g3.trans g1, g4⟩
theorem el_part [GI] (ps : List Nm) : (ps.map fun x => (x.1, tyD x.2)).map el = ps.map partD := by
  rw [List.map_map]; rfl
end Go.Proofs.Mv.App
