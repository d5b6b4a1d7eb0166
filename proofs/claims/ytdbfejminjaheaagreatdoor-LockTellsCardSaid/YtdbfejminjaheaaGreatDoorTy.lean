/- A part of the proofs of the seat YtdbfejminjaheaaGreatDoor: the abstract machine, the contracts of the functions, the laws. No condition of its own. -/
import Derived.Test.YtdbfejminjaheaaGreatDoorLex
import Derived.Test.YtdbfejminjaheaaGreatDoorTok
import Derived.Test.YtdbfejminjaheaaGreatDoorMvD
import Derived.Test.YtdbfejminjaheaaGreatDoorMvC
import Derived.Test.YtdbfejminjaheaaGreatDoorMvCl
import Derived.Lib.ParseIntB
set_option linter.unusedSimpArgs false
set_option linter.unusedVariables false
set_option linter.unusedSectionVars false
open Go Go.Proofs Go.Proofs.Mv.V
set_option maxRecDepth 10000
namespace Go.Proofs.Mv.App
inductive Ty where
  | mk (kind : Int) (pkg : List UInt8) (major : Int) (mod name : List UInt8) (names : List (List UInt8)) (subs : List Ty)
instance : Inhabited Ty := ⟨.mk 0 [] 0 [] [] [] []⟩
def Ty0 : Ty := .mk 0 [] 0 [] [] [] []
mutual
def tyD [GI] : Ty → List D
  | .mk kind pkg major mod name names subs => [I kind, S pkg, I major, S mod, S name, sl1 names, .sl 7 (tysD subs)]
def tysD [GI] : List Ty → List (List D)
  | [] => []
  | t :: ts => tyD t :: tysD ts
end
section
variable [GI]
theorem tysD_eq : ∀ l : List Ty, tysD l = l.map tyD
  | [] => by simp [tysD]
  | t :: ts => by simp [tysD, tysD_eq ts]
@[simp] theorem tyD_len (t : Ty) : (tyD t).length = 7 := by cases t; simp [tyD]
@[simp] theorem tyD_take (t : Ty) : (tyD t).take 7 = tyD t := List.take_of_length_le (by simp)
mutual
theorem pur_ty : ∀ t : Ty, ∀ d ∈ tyD t, Pur d
  | .mk kind pkg major mod name names subs, d, hd => by
    simp only [tyD, List.mem_cons, List.not_mem_nil, or_false] at hd
    rcases hd with rfl | rfl | rfl | rfl | rfl | rfl | rfl
    · exact pur_I _
    · exact pur_S _
    · exact pur_I _
    · exact pur_S _
    · exact pur_S _
    · exact pur_sl1 _
    · exact Pur.sl (pur_tys subs)
theorem pur_tys : ∀ l : List Ty, ∀ e ∈ tysD l, ∀ d ∈ e, Pur d
  | [], e, he, _, _ => by simp [tysD] at he
  | t :: ts, e, he, d, hd => by
    simp only [tysD, List.mem_cons] at he
    rcases he with rfl | he
    · exact pur_ty t d hd
    · exact pur_tys ts e he d hd
end
theorem pur_tyA (t : Ty) : Pur (.agg (tyD t)) := Pur.agg (pur_ty t)
theorem pur_tym (l : List Ty) : ∀ e ∈ l.map tyD, ∀ d ∈ e, Pur d := by rw [← tysD_eq]; exact pur_tys l
theorem tyD_zero : tyD Ty0 = [I 0, S [], I 0, S [], S [], .sl 1 [], .sl 7 []] := by simp [Ty0, tyD, tysD, sl1]
end
end Go.Proofs.Mv.App
open Go Go.Proofs Go.Proofs.Mv.V
set_option maxRecDepth 10000
namespace Go.Proofs.Mv.App
/-- How far tokens were read, how many nodes there are, what is amiss. -/
structure PS where
  at_ : Nat
  cnt : Nat
  bad : Nat
def cur (l : List Tok) (p : PS) : Option Tok := if p.bad = 0 then l[p.at_]? else none
def failF (c : Nat) (p : PS) : PS := if p.bad = 0 then { p with bad := c } else p
def stepF (p : PS) : PS := { p with at_ := p.at_ + 1 }
def isSig (s : List UInt8) (l : List Tok) (p : PS) : Bool := match cur l p with
  | some t => decide (t.kind = 4) && decide (t.text = s)
  | none => false
def mustF (s : List UInt8) (l : List Tok) (p : PS) : PS := if isSig s l p then stepF p else failF 2 p
def namOk (g : Bool) (s : List UInt8) : Bool := if g then greatN s else smallN s
def isNam (g : Bool) (l : List Tok) (p : PS) : Bool := match cur l p with
  | some t => decide (t.kind = if g then 2 else 1) && namOk g t.text
  | none => false
def curT (l : List Tok) (p : PS) : List UInt8 := match cur l p with
  | some t => t.text
  | none => []
def nameF (g : Bool) (l : List Tok) (p : PS) : List UInt8 × PS := if isNam g l p then (curT l p, stepF p) else ([], failF 2 p)
def decF (s : List UInt8) : Nat := s.foldl (fun n x => 10 * n + (x.toNat - 48)) 0
def numOk (s : List UInt8) : Bool := decide (1 ≤ s.length) && decide (s.length ≤ 9) && s.all isDigit && decide (s.head? ≠ some 48)
def isNum (l : List Tok) (p : PS) : Bool := match cur l p with
  | some t => decide (t.kind = 3) && numOk t.text
  | none => false
def numF (l : List Tok) (p : PS) : Nat × PS := if isNum l p then (decF (curT l p), stepF p) else (0, failF 2 p)
def wInt : List UInt8 := [73, 110, 116]
def wText : List UInt8 := [84, 101, 120, 116]
def wBool : List UInt8 := [66, 111, 111, 108]
def wList : List UInt8 := [76, 105, 115, 116]
def baseN (s : List UInt8) : Nat := if s = wInt then 1 else if s = wText then 2 else if s = wBool then 3 else 0
def begT (t : Tok) : Bool := if t.kind = 2 then (decide (0 < baseN t.text) || decide (t.text = wList) || greatN t.text) else if t.kind = 1 then smallN t.text
  else decide (t.kind = 4) && (decide (t.text = [123]) || decide (t.text = [91]) || decide (t.text = [40]) || decide (t.text = [60]))
def begF (l : List Tok) (p : PS) : Bool := match cur l p with
  | some t => begT t
  | none => false
abbrev Nm := List UInt8 × Ty
/-- The parts that were read, one behind the other. -/
def namedF (l : List Tok) (g : Bool) (en : List UInt8) (rec : PS → Ty × PS) : Nat → List Nm → PS → List Nm × PS
  | 0, ps, p => (ps, p)
  | r + 1, ps, p =>
    if p.bad ≠ 0 then (ps, p)
    else if isNam g l p = false then (ps, failF 2 p)
    else if 20 ≤ ps.length then (ps, failF 3 p)
    else if curT l p ∈ ps.map (·.1) then (ps, failF 5 p)
    else
      let q := rec (mustF [58] l (stepF p))
      let ps' := ps ++ [(curT l p, q.1)]
      if isSig en l q.2 then (ps', stepF q.2) else namedF l g en rec r ps' (mustF [44] l q.2)
def subF (l : List Tok) (rec : PS → Ty × PS) (n : Nat) (p : PS) : Ty × PS := if begF l p = true ∧ 20 ≤ n then (Ty0, failF 3 p) else rec p
def funF (l : List Tok) (rec : PS → Ty × PS) : Nat → List Ty → PS → List Ty × PS
  | 0, ts, p => (ts, p)
  | r + 1, ts, p =>
    if p.bad ≠ 0 then (ts, p)
    else
      let q := subF l rec ts.length p
      if isSig [41] l q.2 then (ts ++ [q.1], stepF q.2) else funF l rec r (ts ++ [q.1]) (mustF [44] l q.2)
def insF (x : Nm) : List Nm → List Nm
  | [] => [x]
  | y :: ys => if ltB x.1 y.1 then x :: y :: ys else y :: insF x ys
def sortF (ps : List Nm) : List Nm := ps.foldl (fun acc x => insF x acc) []
def recT (kind : Int) (ps : List Nm) : Ty := .mk kind [] 0 [] [] ((sortF ps).map (·.1)) ((sortF ps).map (·.2))
def localT (mod name : List UInt8) : Ty := .mk 8 [] 0 mod name [] []
def openF (l : List Tok) (p : PS) : Ty × PS :=
  let a := nameF false l p
  let b := numF l a.2
  let c := nameF false l b.2
  let d := nameF true l c.2
  (.mk 9 a.1 b.1 c.1 d.1 [] [], mustF [62] l d.2)
def funcF (l : List Tok) (rec : PS → Ty × PS) (p : PS) : Ty × PS :=
  let a := if isSig [41] l p then ([], stepF p) else funF l rec 22 [] p
  let b := subF l rec a.1.length (mustF [45, 62] l a.2)
  (.mk 7 [] 0 [] [] [] (a.1 ++ [b.1]), b.2)
def partsF (l : List Tok) (g : Bool) (rec : PS → Ty × PS) (p : PS) : Ty × PS :=
  let a := if g = false ∧ isSig [125] l p = true then ([], stepF p) else namedF l g (if g then [93] else [125]) rec 22 [] p
  (recT (if g then 6 else 5) a.1, a.2)
def listF (l : List Tok) (rec : PS → Ty × PS) (p : PS) : Ty × PS :=
  let b := rec (mustF [40] l p)
  (.mk 4 [] 0 [] [] [] [b.1], mustF [41] l b.2)
def bodyF (l : List Tok) (t : Tok) (rec : PS → Ty × PS) (p : PS) : Ty × PS :=
  if t.kind = 1 then let a := nameF true l (mustF [46] l p); (localT t.text a.1, a.2)
  else if t.text = wList then listF l rec p
  else if t.text = [123] then partsF l false rec p
  else if t.text = [91] then partsF l true rec p
  else if t.text = [40] then funcF l rec p
  else if t.text = [60] then openF l p
  else if 0 < baseN t.text then (.mk (baseN t.text) [] 0 [] [] [] [], p)
  else (localT [] t.text, p)
/-- A type; k: how much deeper it may go. -/
def typF (l : List Tok) : Nat → PS → Ty × PS
  | 0, p => if begF l p then (Ty0, failF 3 p) else (Ty0, failF 2 p)
  | k + 1, p => match cur l p with
    | none => (Ty0, failF 2 p)
    | some t => if begT t = false then (Ty0, failF 2 p) else if 500 ≤ p.cnt then (Ty0, failF 3 p) else bodyF l t (typF l k) ⟨p.at_ + 1, p.cnt + 1, p.bad⟩
/-! What is amiss stays. -/
theorem cur_bad {l : List Tok} {p : PS} (h : p.bad ≠ 0) : cur l p = none := by simp [cur, h]
theorem failF_bad {c : Nat} {p : PS} (h : p.bad ≠ 0) : failF c p = p := by simp [failF, h]
theorem isSig_bad {s : List UInt8} {l : List Tok} {p : PS} (h : p.bad ≠ 0) : isSig s l p = false := by simp [isSig, cur_bad h]
theorem isNam_bad {g : Bool} {l : List Tok} {p : PS} (h : p.bad ≠ 0) : isNam g l p = false := by simp [isNam, cur_bad h]
theorem isNum_bad {l : List Tok} {p : PS} (h : p.bad ≠ 0) : isNum l p = false := by simp [isNum, cur_bad h]
theorem begF_bad {l : List Tok} {p : PS} (h : p.bad ≠ 0) : begF l p = false := by simp [begF, cur_bad h]
theorem mustF_bad {s : List UInt8} {l : List Tok} {p : PS} (h : p.bad ≠ 0) : mustF s l p = p := by simp [mustF, isSig_bad h, failF_bad h]
theorem typF_bad {l : List Tok} {k : Nat} {p : PS} (h : p.bad ≠ 0) : typF l k p = (Ty0, p) := by
  cases k <;> simp [typF, begF_bad h, cur_bad h, failF_bad h]
end Go.Proofs.Mv.App
open Go Go.Proofs Go.Proofs.Mv.V
namespace Go.Proofs.Mv.App
def decA (acc : Nat) (s : List UInt8) : Nat := s.foldl (fun n x => 10 * n + (x.toNat - 48)) acc
theorem decA_cons (acc : Nat) (x : UInt8) (s : List UInt8) : decA acc (x :: s) = decA (10 * acc + (x.toNat - 48)) s := by unfold decA; rw [List.foldl_cons]
theorem decA_ge (s : List UInt8) : ∀ acc, acc * 10 ^ s.length ≤ decA acc s := by
  induction s with
  | nil => intro acc; simp [decA]
  | cons x s ih =>
    intro acc
    have h1 := ih (10 * acc + (x.toNat - 48))
    rw [decA_cons, List.length_cons, Nat.pow_succ]
    generalize 10 ^ s.length = q at h1 ⊢
    have h2 : 10 * acc * q ≤ (10 * acc + (x.toNat - 48)) * q := Nat.mul_le_mul_right _ (by omega)
    have h3 : acc * (q * 10) = 10 * acc * q := by rw [Nat.mul_comm q 10, ← Nat.mul_assoc, Nat.mul_comm acc 10]
    omega
theorem decA_lt (s : List UInt8) : ∀ acc, s.all isDigit = true → decA acc s < (acc + 1) * 10 ^ s.length := by
  induction s with
  | nil => intro acc _; simp [decA]
  | cons x s ih =>
    intro acc h
    simp only [List.all_cons, Bool.and_eq_true] at h
    have hx : x.toNat ≤ 57 := by have := h.1; simp [isDigit] at this; omega
    have h1 := ih (10 * acc + (x.toNat - 48)) h.2
    rw [decA_cons, List.length_cons, Nat.pow_succ]
    generalize 10 ^ s.length = q at h1 ⊢
    have h2 : (10 * acc + (x.toNat - 48) + 1) * q ≤ (10 * (acc + 1)) * q := Nat.mul_le_mul_right _ (by omega)
    have h3 : (acc + 1) * (q * 10) = 10 * (acc + 1) * q := by rw [Nat.mul_comm q 10, ← Nat.mul_assoc, Nat.mul_comm (acc + 1) 10]
    omega
theorem decA_mono (s : List UInt8) (acc : Nat) : acc ≤ decA acc s :=
  Nat.le_trans (by exact Nat.le_mul_of_pos_right _ (Nat.pow_pos (by omega))) (decA_ge s acc)
theorem pm_ok : ∀ (s : List UInt8) (acc : Nat), s.all isDigit = true → decA acc s ≤ 4294967295 → Lib.parseUintM (2 ^ 32 - 1) acc s = .ok (decA acc s)
  | [], acc, _, _ => rfl
  | x :: s, acc, h, hle => by
    simp only [List.all_cons, Bool.and_eq_true] at h
    have hx : 48 ≤ x.toNat ∧ x.toNat ≤ 57 := by have := h.1; simpa [isDigit] using this
    rw [decA_cons] at hle ⊢
    have hm := decA_mono s (10 * acc + (x.toNat - 48))
    rw [Lib.parseUintM, if_pos hx, if_neg (by omega), if_neg (by omega), Nat.mul_comm acc 10]
    exact pm_ok s _ h.2 hle
theorem pm_inv (M : Nat) : ∀ (s : List UInt8) (acc u : Nat), Lib.parseUintM M acc s = .ok u → s.all isDigit = true ∧ u = decA acc s
  | [], acc, u, h => by simp only [Lib.parseUintM, Lib.NumEnd.ok.injEq] at h; exact ⟨rfl, h.symm⟩
  | x :: s, acc, u, h => by
    rw [Lib.parseUintM] at h
    split at h
    · rename_i hx
      split at h
      · cases h
      · split at h
        · cases h
        · obtain ⟨h1, h2⟩ := pm_inv M s _ u h
          rw [Nat.mul_comm acc 10] at h2
          exact ⟨by simp [List.all_cons, h1, isDigit, hx], h2⟩
    · cases h
theorem numOk_of {s : List UInt8} {u : Nat} (h : Lib.parseUintB 32 s = .ok u) (h1 : 1 ≤ u) (h2 : u ≤ 999999999) (h3 : s.head? ≠ some 48) : numOk s = true ∧ u = decF s := by
  unfold Lib.parseUintB at h
  split at h
  · cases h
  rename_i hne
  obtain ⟨hd, hu⟩ := pm_inv _ s 0 u h
  refine ⟨?_, hu⟩
  match s, hne with
  | x :: r, _ =>
    simp only [List.all_cons, Bool.and_eq_true] at hd
    have hx : 48 ≤ x.toNat ∧ x.toNat ≤ 57 := by have := hd.1; simpa [isDigit] using this
    have hx0 : x.toNat ≠ 48 := fun e => h3 (by simp; exact UInt8.toNat_inj.1 e)
    have hlen : (x :: r).length ≤ 9 := by
      rw [decA_cons] at hu
      have hge := decA_ge r (10 * 0 + (x.toNat - 48))
      have : 1 * 10 ^ r.length ≤ (10 * 0 + (x.toNat - 48)) * 10 ^ r.length := Nat.mul_le_mul_right _ (by omega)
      rcases Nat.lt_or_ge r.length 9 with hl | hl
      · simp only [List.length_cons]; omega
      · have hp : 10 ^ 9 ≤ 10 ^ r.length := Nat.pow_le_pow_right (by omega) hl
        have : (10 : Nat) ^ 9 = 1000000000 := by decide
        omega
    simp only [numOk, List.all_cons, hd.1, hd.2, Bool.and_self, Bool.and_true, Bool.and_eq_true, decide_eq_true_eq]
    exact ⟨⟨by simp, hlen⟩, h3⟩
theorem of_numOk {s : List UInt8} (h : numOk s = true) : Lib.parseUintB 32 s = .ok (decF s) ∧ 1 ≤ decF s ∧ decF s ≤ 999999999 ∧ s.head? ≠ some 48 ∧ s ≠ [] := by
  simp only [numOk, Bool.and_eq_true, decide_eq_true_eq] at h
  obtain ⟨⟨⟨h1, h2⟩, h3⟩, h4⟩ := h
  match s, h1, h2, h3, h4 with
  | x :: r, h1, h2, h3, h4 =>
    have h3' := h3
    simp only [List.all_cons, Bool.and_eq_true] at h3
    have hx : 48 ≤ x.toNat ∧ x.toNat ≤ 57 := by have := h3.1; simpa [isDigit] using this
    have hx0 : x.toNat ≠ 48 := fun e => h4 (by simp; exact UInt8.toNat_inj.1 e)
    have hlt := decA_lt (x :: r) 0 h3'
    have hp : 10 ^ (x :: r).length ≤ 10 ^ 9 := Nat.pow_le_pow_right (by omega) h2
    have h9 : (10 : Nat) ^ 9 = 1000000000 := by decide
    have hle : decF (x :: r) ≤ 999999999 := by show decA 0 (x :: r) ≤ _; omega
    have hge : 1 ≤ decF (x :: r) := by
      show 1 ≤ decA 0 (x :: r)
      rw [decA_cons]
      exact Nat.le_trans (by omega) (decA_mono r _)
    refine ⟨?_, hge, hle, h4, by simp⟩
    unfold Lib.parseUintB
    rw [if_neg (by simp)]
    exact pm_ok (x :: r) 0 h3' (by show decF _ ≤ _; omega)
end Go.Proofs.Mv.App
open Go Go.Proofs Go.Proofs.Mv.V
namespace Go.Proofs.Mv.App
/-- No later one is less. -/
def SortedN (l : List Nm) : Prop := l.Pairwise fun a b => ltB b.1 a.1 = false
theorem insF_perm (x : Nm) : ∀ l : List Nm, (insF x l).Perm (x :: l)
  | [] => .refl _
  | y :: ys => by
    simp only [insF]; split
    · exact .refl _
    · exact ((insF_perm x ys).cons y).trans (.swap _ _ _)
theorem insF_sorted (x : Nm) : ∀ {l : List Nm}, SortedN l → SortedN (insF x l)
  | [], _ => by simp [SortedN, insF]
  | y :: ys, h => by
    have h' := List.pairwise_cons.1 h
    simp only [insF]; split
    · rename_i e
      refine List.pairwise_cons.2 ⟨fun z hz => ?_, h⟩
      rcases List.mem_cons.1 hz with rfl | hz
      · exact ltB_asymm e
      · exact ltB_ntr (h'.1 z hz) (ltB_asymm e)
    · rename_i e
      refine List.pairwise_cons.2 ⟨fun z hz => ?_, insF_sorted x h'.2⟩
      have := (insF_perm x ys).mem_iff.1 hz
      rcases List.mem_cons.1 this with rfl | hz'
      · simpa using e
      · exact h'.1 z hz'
theorem sortF_snoc (ps : List Nm) (x : Nm) : sortF (ps ++ [x]) = insF x (sortF ps) := by simp [sortF]
theorem sortF_spec (ps : List Nm) : (sortF ps).Perm ps ∧ SortedN (sortF ps) := by
  have : ∀ (r acc : List Nm), SortedN acc → (r.foldl (fun acc x => insF x acc) acc).Perm (acc ++ r) ∧ SortedN (r.foldl (fun acc x => insF x acc) acc) := by
    intro r
    induction r with
    | nil => intro acc h; simp [h]
    | cons x r ih =>
      intro acc h
      obtain ⟨h1, h2⟩ := ih (insF x acc) (insF_sorted x h)
      refine ⟨h1.trans ?_, h2⟩
      refine ((insF_perm x acc).append_right r).trans ?_
      exact (List.perm_middle (a := x) (l₁ := acc) (l₂ := r)).symm
  have := this ps [] (by simp [SortedN])
  simpa [sortF] using this
theorem sorted_uniq {l l' ps : List Nm} (hd : (ps.map (·.1)).Nodup) (h : l.Perm ps) (h' : l'.Perm ps) (hs : SortedN l) (hs' : SortedN l') : l = l' := by
  refine List.Perm.eq_of_pairwise (le := fun a b : Nm => ltB b.1 a.1 = false) ?_ hs hs' (h.trans h'.symm)
  intro a b ha hb h1 h2
  have hn : a.1 = b.1 := ltB_anti h2 h1
  have ha' : a ∈ ps := h.mem_iff.1 ha
  have hb' : b ∈ ps := h'.mem_iff.1 hb
  have key : ∀ l : List Nm, (l.map (·.1)).Nodup → a ∈ l → b ∈ l → a = b := by
    intro l
    induction l with
    | nil => intro _ h; cases h
    | cons x l ih =>
      intro hd ha hb
      simp only [List.map_cons, List.nodup_cons, List.mem_map, not_exists, not_and] at hd
      rcases List.mem_cons.1 ha with rfl | ha2
      · rcases List.mem_cons.1 hb with rfl | hb
        · rfl
        · exact absurd hn.symm (hd.1 b hb)
      · rcases List.mem_cons.1 hb with rfl | hb
        · exact absurd hn (hd.1 a ha2)
        · exact ih hd.2 ha2 hb
  exact key ps hd ha' hb'
theorem insF_at (x : Nm) : ∀ {pre post : List Nm}, (∀ y ∈ pre, ltB x.1 y.1 = false) → (∀ y, post.head? = some y → ltB x.1 y.1 = true) → insF x (pre ++ post) = pre ++ x :: post
  | [], [], _, _ => rfl
  | [], y :: ys, _, h => by simp [insF, h y rfl]
  | z :: pre, post, h, h' => by
    have hz : ltB x.1 z.1 = false := h z (by simp)
    simp only [List.cons_append, insF, hz, Bool.false_eq_true, if_false]
    rw [insF_at x (fun y hy => h y (by simp [hy])) h']
end Go.Proofs.Mv.App
open Go Go.Proofs Go.Proofs.Mv.V
set_option maxRecDepth 10000
namespace Go.Proofs.Mv.App
variable [GI]
structure TkOk (l : List Tok) : Prop where
  len : l.length ≤ 1000000
  txt : ∀ t ∈ l, t.text.length ≤ 1000000
def errD (p : PS) : D := if p.bad = 0 then nilE else spotE p.at_ p.bad
def toksD (l : List Tok) : D := .sl 3 (l.map tokD)
def pC (l : List Tok) (p : PS) : List D := [toksD l, I p.at_, I p.cnt, errD p]
def pObj (l : List Tok) (p : PS) : V.Obj := ⟨4, [pC l p], 0⟩
theorem pur_tok (t : Tok) : ∀ d ∈ tokD t, Pur d := by
  intro d hd
  simp only [tokD, List.mem_cons, List.not_mem_nil, or_false] at hd
  rcases hd with rfl | rfl | rfl
  · exact pur_I _
  · exact pur_I _
  · exact pur_S _
theorem pur_toks (l : List Tok) : Pur (toksD l) := Pur.sl (by
  intro e he d hd
  obtain ⟨t, _, rfl⟩ := List.mem_map.1 he
  exact pur_tok t d hd)
theorem pur_spotE (a c : Int) : Pur (spotE a c) := Pur.iface (Pur.rptr (by
  intro d hd
  simp only [List.mem_cons, List.not_mem_nil, or_false] at hd
  rcases hd with rfl | rfl
  · exact Pur.v _
  · exact Pur.iface (Pur.v _)))
theorem pur_errD (p : PS) : Pur (errD p) := by
  unfold errD; split
  · exact pur_nilE
  · exact pur_spotE _ _
theorem pur_pC (l : List Tok) (p : PS) : ∀ d ∈ pC l p, Pur d := by
  intro d hd
  simp only [pC, List.mem_cons, List.not_mem_nil, or_false] at hd
  rcases hd with rfl | rfl | rfl | rfl
  · exact pur_toks _
  · exact pur_I _
  · exact pur_I _
  · exact pur_errD _
theorem pur_pObj (l : List Tok) (p : PS) : ∀ e ∈ (pObj l p).es, ∀ d ∈ e, Pur d := by
  intro e he d hd
  simp only [pObj, List.mem_singleton] at he
  subst he; exact pur_pC l p d hd
theorem pur_tup0 : Pur (.tup []) := Pur.tup (by simp)
def peekD (l : List Tok) (p : PS) : List D := match cur l p with
  | some t => tokD t
  | none => [I 0, I 0, S []]
theorem cur_some {l : List Tok} {p : PS} {t : Tok} (h : cur l p = some t) : p.bad = 0 ∧ p.at_ < l.length ∧ l[p.at_]? = some t := by
  unfold cur at h
  split at h
  · rename_i hb
    refine ⟨hb, ?_, h⟩
    rcases Nat.lt_or_ge p.at_ l.length with h1 | h1
    · exact h1
    · rw [List.getElem?_eq_none h1] at h; cases h
  · cases h
theorem cFail {l : List Tok} {p : PS} (c : Nat) (hc : c ≠ 0) {k : Nat} {m : Mem} {n : Nat} (hk : k < n) (hm : m k = some (pObj l p)) :
    ACalls Tryz.prog 273 [.ptr k 0 0 0, I c] m n (fun d m' n' => d = .tup [] ∧ m' = m.set k (pObj l (failF c p)) ∧ n' = n) := by
  have kn : k ≠ n := by omega
  have nk : n ≠ k := by omega
  by_cases hb : p.bad = 0
  · refine acalls_put (R' := Hq (fun d m' n' => d = .tup [] ∧ (∃ q, n ≤ q ∧ m' k = some ⟨4, [[toksD l, I p.at_, I p.cnt, .iface 110 (.ptr q 0 0 0)]], 0⟩ ∧ m' q = some ⟨2, [[I p.at_, code c]], 0⟩) ∧ ∀ j, j < n → j ≠ k → m' j = m j) tg) k hk _ ?_ ?_
    · refine acalls_vc [0, 1, 8] Tryz.func273 Tryz.ntmps273 (by kernel_rfl) rfl rfl (by simp) ?_
      simp -dsimp [hm, pObj, pC, errD, hb, nilE, set_ne, kn, nk]
      refine hq ⟨rfl, ⟨n, Nat.le_refl _, by simp, by simp [set_ne, nk, code, I]⟩, fun j hj hjk => ?_⟩
      rw [set_ne _ _ _ _ hjk, set_ne _ _ _ _ (by omega)]
    · rintro d m' n' ⟨rfl, ⟨q, h1, h2, h3⟩, h4⟩
      have hf : failF c p = ⟨p.at_, p.cnt, c⟩ := by simp [failF, hb]
      rw [hf]
      refine ⟨_, _, pur_tup0.pub, h2, .cons (.cons (pur_toks l).pub (.cons (pur_I _).pub (.cons (pur_I _).pub (.cons ?_ .nil)))) .nil, h4, rfl⟩
      simp only [errD, if_neg hc]
      exact .iface (.ptr h3 h1 (.cons (pur_I _).pub (.cons (pur_code _).pub .nil)))
  · rw [failF_bad hb, set_self hm]
    refine acalls_vc [0, 1, 8] Tryz.func273 Tryz.ntmps273 (by kernel_rfl) rfl rfl (by simp) ?_
    simp -dsimp [hm, pObj, pC, errD, hb, spotE]
    done
theorem cPeek {l : List Tok} {p : PS} {k : Nat} {m : Mem} {n : Nat} (hk : k < n) (hm : m k = some (pObj l p)) :
    ACalls Tryz.prog 297 [.ptr k 0 0 0] m n (fun d m' n' => d = .agg (peekD l p) ∧ m' = m ∧ n' = n) := by
  have kn : k ≠ n := by omega
  have nk : n ≠ k := by omega
  have fr : ∀ o, ∀ j, j < n → (m.set n o) j = m j := fun o j hj => set_ne _ _ _ _ (by omega)
  refine acalls_done (R' := Hq (fun d m' n' => d = .agg (peekD l p) ∧ ∀ j, j < n → m' j = m j) tg) ?_ ?_
  · refine acalls_vcC [0, 2, 19] Tryz.func297 Tryz.ntmps297 (by kernel_rfl) rfl rfl (by simp) ?_
    by_cases hb : p.bad = 0
    · by_cases ha : p.at_ < l.length
      · have hg : (l.map tokD)[p.at_]? = some (tokD l[p.at_]) := by simp [ha]
        have hl : (l.map tokD).length = l.length := by simp
        have hc : peekD l p = tokD l[p.at_] := by simp [peekD, cur, hb, ha]
        have hle : ¬ (l.length : Int) ≤ p.at_ := by omega
        have htk : tokD l[p.at_] = [I l[p.at_].kind, I l[p.at_].at_, S l[p.at_].text] := rfl
        generalize hL : l.map tokD = L at hg hl
        have hgi : L[p.at_]'(by omega) = tokD l[p.at_] := get_opt hg _
        rw [hc]
        simp -dsimp [hm, pObj, pC, errD, hb, nilE, toksD, hL, hl, I, hle, set_ne, kn, nk]
        refine vdraw_of [0, 1, 3, 7, 15, 31, 63, 127, 255, 511, 63, 1087, 3135, 7231, 15423, 32767, 65535] [0, 1, 2, 3, 4, 5, 6, 7, 8, 9, 10, 11, 12, 13, 14, 15, 16] (by kernel_rfl) (by kernel_rfl) ?_
        simp -dsimp [hm, pObj, pC, errD, hb, nilE, toksD, hL, hl, I, hle, set_ne, kn, nk]
        refine vdraw_of [0, 1, 3, 7, 0, 16, 48, 112, 255, 511, 1023] [0, 1, 2, 3, 4, 5, 6, 7, 8, 9, 10] (by kernel_rfl) (by kernel_rfl) ?_
        simp -dsimp [hm, pObj, pC, errD, hb, nilE, toksD, hL, hl, I, hle, set_ne, kn, nk, hgi, ha, htk]
        exact hq ⟨by simp [htk, I], fr _⟩
      · have hc : peekD l p = [I 0, I 0, S []] := by simp [peekD, cur, hb, ha]
        have hle : (l.length : Int) ≤ p.at_ := by omega
        rw [hc]
        simp -dsimp [hm, pObj, pC, errD, hb, nilE, toksD, I, hle, set_ne, kn, nk]
        refine vdraw_of [0, 1, 3, 7, 15, 31, 63, 127, 255, 511, 63, 1087, 3135, 7231, 15423, 32767, 65535] [0, 1, 2, 3, 4, 5, 6, 7, 8, 9, 10, 11, 12, 13, 14, 15, 16] (by kernel_rfl) (by kernel_rfl) ?_
        simp -dsimp [hm, pObj, pC, errD, hb, nilE, toksD, I, hle, set_ne, kn, nk]
        exact hq ⟨by simp [I, S], fr _⟩
    · have hc : peekD l p = [I 0, I 0, S []] := by simp [peekD, cur, hb]
      rw [hc]
      simp -dsimp [hm, pObj, pC, errD, hb, spotE, set_ne, kn, nk]
      refine vdraw_of [0, 1, 3, 7, 15, 31, 63, 127, 255, 511, 63, 1087, 3135, 7231, 15423, 32767, 65535] [0, 1, 2, 3, 4, 5, 6, 7, 8, 9, 10, 11, 12, 13, 14, 15, 16] (by kernel_rfl) (by kernel_rfl) ?_
      simp -dsimp [hm, pObj, pC, errD, hb, spotE, set_ne, kn, nk]
      exact hq ⟨by simp [I, S], fr _⟩
  · rintro d m' n' ⟨rfl, h⟩
    refine ⟨_, Pur.pub (Pur.agg ?_), h, rfl⟩
    unfold peekD; split
    · exact pur_tok _
    · intro d hd
      simp only [List.mem_cons, List.not_mem_nil, or_false] at hd
      rcases hd with rfl | rfl | rfl
      · exact pur_I _
      · exact pur_I _
      · exact pur_S _
end Go.Proofs.Mv.App
