/- A part of the proofs: machine, contracts, laws. No condition of its own. -/
import Derived.Test.YtndinledjelleaaGreatDoorP01
import Derived.Test.YtndinledjelleaaGreatDoorMvD
import Derived.Test.YtndinledjelleaaGreatDoorMvC
import Derived.Test.YtndinledjelleaaGreatDoorMvCl
import Derived.Lib.ParseIntB
import Derived.Test.YtndinledjelleaaGreatDoorP00
set_option linter.unusedSimpArgs false
set_option linter.unusedVariables false
set_option linter.unusedSectionVars false
open Go Go.Proofs Go.Proofs.Mv.V
set_option maxRecDepth 10000
namespace Go.Proofs.Mv.App
structure PS where
 at_ : Nat
 cnt : Nat
 bad : Nat
def cur (l : List Tok) (p : PS) : Option Tok := if p.bad = 0 then l[p.at_]? else none
def failF (c : Nat) (p : PS) : PS := if p.bad = 0 then { p with bad := c } else p
def stepF (p : PS) : PS := { p with at_ := p.at_ + 1 }
def isSig (s : List UInt8) (l : List Tok) (p : PS) : Bool := match cur l p with
 | some t => decide (t.kind = 4) && decide (t.text = s)
 | none => false
def mustF (s : List UInt8) (l : List Tok) (p : PS) : PS := if isSig s l p then stepF p else failF 2 p
def namOk (g : Bool) (s : List UInt8) : Bool := if g then greatN s else smallN s
def isNam (g : Bool) (l : List Tok) (p : PS) : Bool := match cur l p with
 | some t => decide (t.kind = if g then 2 else 1) && namOk g t.text
 | none => false
def curT (l : List Tok) (p : PS) : List UInt8 := match cur l p with
 | some t => t.text
 | none => []
def nameF (g : Bool) (l : List Tok) (p : PS) : List UInt8 × PS := if isNam g l p then (curT l p, stepF p) else ([], failF 2 p)
def decF (s : List UInt8) : Nat := s.foldl (fun n x => 10 * n + (x.toNat - 48)) 0
def numOk (s : List UInt8) : Bool := decide (1 ≤ s.length) && decide (s.length ≤ 9) && s.all isDigit && decide (s.head? ≠ some 48)
def isNum (l : List Tok) (p : PS) : Bool := match cur l p with
 | some t => decide (t.kind = 3) && numOk t.text
 | none => false
def numF (l : List Tok) (p : PS) : Nat × PS := if isNum l p then (decF (curT l p), stepF p) else (0, failF 2 p)
def wInt : List UInt8 := [73, 110, 116]
def wText : List UInt8 := [84, 101, 120, 116]
def wBool : List UInt8 := [66, 111, 111, 108]
def wList : List UInt8 := [76, 105, 115, 116]
def baseN (s : List UInt8) : Nat := if s = wInt then 1 else if s = wText then 2 else if s = wBool then 3 else 0
def begT (t : Tok) : Bool := if t.kind = 2 then (decide (0 < baseN t.text) || decide (t.text = wList) || greatN t.text) else if t.kind = 1 then smallN t.text
 else decide (t.kind = 4) && (decide (t.text = [123]) || decide (t.text = [91]) || decide (t.text = [40]) || decide (t.text = [60]))
def begF (l : List Tok) (p : PS) : Bool := match cur l p with
 | some t => begT t
 | none => false
abbrev Nm := List UInt8 × Ty
def namedF (l : List Tok) (g : Bool) (en : List UInt8) (rec : PS → Ty × PS) : Nat → List Nm → PS → List Nm × PS
 | 0, ps, p => (ps, p)
 | r + 1, ps, p =>
  if p.bad ≠ 0 then (ps, p)
  else if isNam g l p = false then (ps, failF 2 p)
  else if 20 ≤ ps.length then (ps, failF 3 p)
  else if curT l p ∈ ps.map (·.1) then (ps, failF 5 p)
  else
   let q := rec (mustF [58] l (stepF p))
   let ps' := ps ++ [(curT l p, q.1)]
   if isSig en l q.2 then (ps', stepF q.2) else namedF l g en rec r ps' (mustF [44] l q.2)
def subF (l : List Tok) (rec : PS → Ty × PS) (n : Nat) (p : PS) : Ty × PS := if begF l p = true ∧ 20 ≤ n then (Ty0, failF 3 p) else rec p
def funF (l : List Tok) (rec : PS → Ty × PS) : Nat → List Ty → PS → List Ty × PS
 | 0, ts, p => (ts, p)
 | r + 1, ts, p =>
  if p.bad ≠ 0 then (ts, p)
  else
   let q := subF l rec ts.length p
   if isSig [41] l q.2 then (ts ++ [q.1], stepF q.2) else funF l rec r (ts ++ [q.1]) (mustF [44] l q.2)
def insF (x : Nm) : List Nm → List Nm
 | [] => [x]
 | y :: ys => if ltB x.1 y.1 then x :: y :: ys else y :: insF x ys
def sortF (ps : List Nm) : List Nm := ps.foldl (fun acc x => insF x acc) []
def recT (kind : Int) (ps : List Nm) : Ty := .mk kind [] 0 [] [] ((sortF ps).map (·.1)) ((sortF ps).map (·.2))
def localT (mod name : List UInt8) : Ty := .mk 8 [] 0 mod name [] []
def openF (l : List Tok) (p : PS) : Ty × PS :=
 let a := nameF false l p
 let b := numF l a.2
 let c := nameF false l b.2
 let d := nameF true l c.2
 (.mk 9 a.1 b.1 c.1 d.1 [] [], mustF [62] l d.2)
def funcF (l : List Tok) (rec : PS → Ty × PS) (p : PS) : Ty × PS :=
 let a := if isSig [41] l p then ([], stepF p) else funF l rec 22 [] p
 let b := subF l rec a.1.length (mustF [45, 62] l a.2)
 (.mk 7 [] 0 [] [] [] (a.1 ++ [b.1]), b.2)
def partsF (l : List Tok) (g : Bool) (rec : PS → Ty × PS) (p : PS) : Ty × PS :=
 let a := if g = false ∧ isSig [125] l p = true then ([], stepF p) else namedF l g (if g then [93] else [125]) rec 22 [] p
 (recT (if g then 6 else 5) a.1, a.2)
def listF (l : List Tok) (rec : PS → Ty × PS) (p : PS) : Ty × PS :=
 let b := rec (mustF [40] l p)
 (.mk 4 [] 0 [] [] [] [b.1], mustF [41] l b.2)
def bodyF (l : List Tok) (t : Tok) (rec : PS → Ty × PS) (p : PS) : Ty × PS :=
 if t.kind = 1 then let a := nameF true l (mustF [46] l p); (localT t.text a.1, a.2)
 else if t.text = wList then listF l rec p
 else if t.text = [123] then partsF l false rec p
 else if t.text = [91] then partsF l true rec p
 else if t.text = [40] then funcF l rec p
 else if t.text = [60] then openF l p
 else if 0 < baseN t.text then (.mk (baseN t.text) [] 0 [] [] [] [], p)
 else (localT [] t.text, p)
def typF (l : List Tok) : Nat → PS → Ty × PS
 | 0, p => if begF l p then (Ty0, failF 3 p) else (Ty0, failF 2 p)
 | k + 1, p => match cur l p with
  | none => (Ty0, failF 2 p)
  | some t => if begT t = false then (Ty0, failF 2 p) else if 500 ≤ p.cnt then (Ty0, failF 3 p) else bodyF l t (typF l k) ⟨p.at_ + 1, p.cnt + 1, p.bad⟩
/-! What is amiss stays. -/
end Go.Proofs.Mv.App
open Go Go.Proofs Go.Proofs.Mv.V
namespace Go.Proofs.Mv.App
end Go.Proofs.Mv.App
open Go Go.Proofs Go.Proofs.Mv.V
namespace Go.Proofs.Mv.App
def decA (acc : Nat) (s : List UInt8) : Nat := s.foldl (fun n x => 10 * n + (x.toNat - 48)) acc
theorem decA_cons (acc : Nat) (x : UInt8) (s : List UInt8) : decA acc (x :: s) = decA (10 * acc + (x.toNat - 48)) s := by unfold decA; rw [List.foldl_cons]
theorem decA_ge (s : List UInt8) : ∀ acc, acc * 10 ^ s.length ≤ decA acc s := by
 induction s with
 | nil => intro acc; simp [decA]
 | cons x s ih =>
  intro acc
  have h1 := ih (10 * acc + (x.toNat - 48))
  rw [decA_cons, List.length_cons, Nat.pow_succ]
  generalize 10 ^ s.length = q at h1 ⊢
  have h2 : 10 * acc * q ≤ (10 * acc + (x.toNat - 48)) * q := Nat.mul_le_mul_right _ (by omega)
  have h3 : acc * (q * 10) = 10 * acc * q := by rw [Nat.mul_comm q 10, ← Nat.mul_assoc, Nat.mul_comm acc 10]
  omega
theorem decA_lt (s : List UInt8) : ∀ acc, s.all isDigit = true → decA acc s < (acc + 1) * 10 ^ s.length := by
 induction s with
 | nil => intro acc _; simp [decA]
 | cons x s ih =>
  intro acc h
  simp only [List.all_cons, Bool.and_eq_true] at h
  have hx : x.toNat ≤ 57 := by have := h.1; simp [isDigit] at this; omega
  have h1 := ih (10 * acc + (x.toNat - 48)) h.2
  rw [decA_cons, List.length_cons, Nat.pow_succ]
  generalize 10 ^ s.length = q at h1 ⊢
  have h2 : (10 * acc + (x.toNat - 48) + 1) * q ≤ (10 * (acc + 1)) * q := Nat.mul_le_mul_right _ (by omega)
  have h3 : (acc + 1) * (q * 10) = 10 * (acc + 1) * q := by rw [Nat.mul_comm q 10, ← Nat.mul_assoc, Nat.mul_comm (acc + 1) 10]
  omega
theorem decA_mono (s : List UInt8) (acc : Nat) : acc ≤ decA acc s :=
 Nat.le_trans (by exact Nat.le_mul_of_pos_right _ (Nat.pow_pos (by omega))) (decA_ge s acc)
theorem pm_ok : ∀ (s : List UInt8) (acc : Nat), s.all isDigit = true → decA acc s ≤ 4294967295 → Lib.parseUintM (2 ^ 32 - 1) acc s = .ok (decA acc s)
 | [], acc, _, _ => rfl
 | x :: s, acc, h, hle => by
  simp only [List.all_cons, Bool.and_eq_true] at h
  have hx : 48 ≤ x.toNat ∧ x.toNat ≤ 57 := by have := h.1; simpa [isDigit] using this
  rw [decA_cons] at hle ⊢
  have hm := decA_mono s (10 * acc + (x.toNat - 48))
  rw [Lib.parseUintM, if_pos hx, if_neg (by omega), if_neg (by omega), Nat.mul_comm acc 10]
  exact pm_ok s _ h.2 hle
theorem pm_inv (M : Nat) : ∀ (s : List UInt8) (acc u : Nat), Lib.parseUintM M acc s = .ok u → s.all isDigit = true ∧ u = decA acc s
 | [], acc, u, h => by simp only [Lib.parseUintM, Lib.NumEnd.ok.injEq] at h; exact ⟨rfl, h.symm⟩
 | x :: s, acc, u, h => by
  rw [Lib.parseUintM] at h
  split at h
  ·rename_i hx
   split at h
   ·cases h
   ·split at h
    ·cases h
    ·obtain ⟨h1, h2⟩ := pm_inv M s _ u h
     rw [Nat.mul_comm acc 10] at h2
     exact ⟨by simp [List.all_cons, h1, isDigit, hx], h2⟩
  ·cases h
theorem numOk_of {s : List UInt8} {u : Nat} (h : Lib.parseUintB 32 s = .ok u) (h1 : 1 ≤ u) (h2 : u ≤ 999999999) (h3 : s.head? ≠ some 48) : numOk s = true ∧ u = decF s := by
 unfold Lib.parseUintB at h
 split at h
 ·cases h
 rename_i hne
 obtain ⟨hd, hu⟩ := pm_inv _ s 0 u h
 refine ⟨?_, hu⟩
 match s, hne with
 | x :: r, _ =>
  simp only [List.all_cons, Bool.and_eq_true] at hd
  have hx : 48 ≤ x.toNat ∧ x.toNat ≤ 57 := by have := hd.1; simpa [isDigit] using this
  have hx0 : x.toNat ≠ 48 := fun e => h3 (by simp; exact UInt8.toNat_inj.1 e)
  have hlen : (x :: r).length ≤ 9 := by
   rw [decA_cons] at hu
   have hge := decA_ge r (10 * 0 + (x.toNat - 48))
   have : 1 * 10 ^ r.length ≤ (10 * 0 + (x.toNat - 48)) * 10 ^ r.length := Nat.mul_le_mul_right _ (by omega)
   rcases Nat.lt_or_ge r.length 9 with hl | hl
   ·simp only [List.length_cons]; omega
   ·have hp : 10 ^ 9 ≤ 10 ^ r.length := Nat.pow_le_pow_right (by omega) hl
    have : (10 : Nat) ^ 9 = 1000000000 := by decide
    omega
  simp only [numOk, List.all_cons, hd.1, hd.2, Bool.and_self, Bool.and_true, Bool.and_eq_true, decide_eq_true_eq]
  exact ⟨⟨by simp, hlen⟩, h3⟩
theorem of_numOk {s : List UInt8} (h : numOk s = true) : Lib.parseUintB 32 s = .ok (decF s) ∧ 1 ≤ decF s ∧ decF s ≤ 999999999 ∧ s.head? ≠ some 48 ∧ s ≠ [] := by
 simp only [numOk, Bool.and_eq_true, decide_eq_true_eq] at h
 obtain ⟨⟨⟨h1, h2⟩, h3⟩, h4⟩ := h
 match s, h1, h2, h3, h4 with
 | x :: r, h1, h2, h3, h4 =>
  have h3' := h3
  simp only [List.all_cons, Bool.and_eq_true] at h3
  have hx : 48 ≤ x.toNat ∧ x.toNat ≤ 57 := by have := h3.1; simpa [isDigit] using this
  have hx0 : x.toNat ≠ 48 := fun e => h4 (by simp; exact UInt8.toNat_inj.1 e)
  have hlt := decA_lt (x :: r) 0 h3'
  have hp : 10 ^ (x :: r).length ≤ 10 ^ 9 := Nat.pow_le_pow_right (by omega) h2
  have h9 : (10 : Nat) ^ 9 = 1000000000 := by decide
  have hle : decF (x :: r) ≤ 999999999 := by show decA 0 (x :: r) ≤ _; omega
  have hge : 1 ≤ decF (x :: r) := by
   show 1 ≤ decA 0 (x :: r)
   rw [decA_cons]
   exact Nat.le_trans (by omega) (decA_mono r _)
  refine ⟨?_, hge, hle, h4, by simp⟩
  unfold Lib.parseUintB
  rw [if_neg (by simp)]
  exact pm_ok (x :: r) 0 h3' (by show decF _ ≤ _; omega)
end Go.Proofs.Mv.App
open Go Go.Proofs Go.Proofs.Mv.V
set_option maxRecDepth 10000
namespace Go.Proofs.Mv.App
variable [GI]
structure TkOk (l : List Tok) : Prop where
 len : l.length ≤ 1000000
 txt : ∀ t ∈ l, t.text.length ≤ 1000000
def errD (p : PS) : D := if p.bad = 0 then nilE else spotE p.at_ p.bad
def toksD (l : List Tok) : D := .sl 3 (l.map tokD)
def pC (l : List Tok) (p : PS) : List D := [toksD l, I p.at_, I p.cnt, errD p]
def pObj (l : List Tok) (p : PS) : V.Obj := ⟨4, [pC l p], 0⟩
def peekD (l : List Tok) (p : PS) : List D := match cur l p with
 | some t => tokD t
 | none => [I 0, I 0, S []]
end Go.Proofs.Mv.App
open Go Go.Proofs Go.Proofs.Mv.V
set_option maxRecDepth 10000
namespace Go.Proofs.Mv.App
variable [GI]
structure Pk (l : List Tok) (p : PS) (kd a : Int) (tx : List UInt8) : Prop where
 pk : peekD l p = [I kd, I a, S tx]
 sig : ∀ s, isSig s l p = (decide (kd = 4) && decide (tx = s))
 nam : ∀ g, isNam g l p = (decide (kd = if g then 2 else 1) && namOk g tx)
 num : isNum l p = (decide (kd = 3) && numOk tx)
 beg : begF l p = begT ⟨kd, a, tx⟩
 tex : curT l p = tx
 len : tx.length ≤ 1000000
 ok : kd ≠ 0 → p.bad = 0 ∧ p.at_ < l.length
 cu : (cur l p = none ∧ kd = 0) ∨ cur l p = some ⟨kd, a, tx⟩
end Go.Proofs.Mv.App
open Go Go.Proofs Go.Proofs.Mv.V Go.RowKit
set_option maxRecDepth 10000
namespace Go.Proofs.Mv.App
theorem cParseUint (s : List UInt8) (hs : s.length ≤ 1000000000) (m : Mem) (n : Nat) : ACalls Tryz.prog 214 [S s, I 10, I 32] m n (fun d m' n' => ∃ (x : Int) (e : D), d = .tup [.v (.int .u64 x), e] ∧
  (match okU (Lib.parseUintB 32 s) with | some u => x = u ∧ e = nilE | none => ∃ t, e = .iface t .any) ∧ m' = m ∧ n' = n) := by
 refine acalls_lib ⟨_, Tryz.func214, by kernel_rfl, by kernel_rfl⟩ fun w ν F vals hst hv => ?_
 obtain ⟨a, b, c, rfl, h1, h2, h3⟩ := conVs_arr3 hv
 simp only [Con, S, I] at h1 h2 h3
 subst h1; subst h2; subst h3
 have hsz : (ofL s).size = s.length := by show (s.toArray).size = _; simp
 have hdl : (ofL s).data.toList = s := rfl
 rcases hp : Lib.parseUintB 32 s with u | _ | _
 ·refine Calls.mono (show Calls Tryz.prog 214 _ _ _ from Any.strconv_ParseUint_10_at32_ok Tryz.laysPu14 (ofL s) (by omega) u (by rw [hdl]; exact hp) w) ?_
  rintro e w' ⟨rfl, hw⟩
  refine ⟨_, rfl, ?_, .tup [.v (.int .u64 u), nilE], ?_, (u : Int), nilE, rfl, by simp [okU], rfl, rfl⟩
  ·rcases hw with rfl | rfl
   ·exact Below.refl _ _
   ·exact Lib.bytesWorld_below _ _ _
  ·simp [Con, ConVs, nilE]
 ·obtain ⟨te, pe, hc⟩ := hst.gi.c1
  refine Calls.mono (show Calls Tryz.prog 214 _ _ _ from Any.strconv_ParseUint_10_at32_syntax Tryz.laysPu14 (ofL s) (by omega) (by rw [hdl]; exact hp) _ w hc (.inr ⟨_, _, rfl⟩)) ?_
  rintro e w' ⟨N, rfl, _, _, hb⟩
  refine ⟨_, rfl, hb, .tup [.v (.int .u64 0), .iface (Tryz.laysPu14_ren.t 39) .any], ?_, _, _, rfl, ⟨_, rfl⟩, rfl, rfl⟩
  simp only [Con, ConVs]
  exact ⟨_, rfl, _, _, rfl, rfl, _, _, rfl, ⟨_, rfl, trivial⟩, rfl⟩
 ·obtain ⟨te, pe, hc⟩ := hst.gi.c2
  refine Calls.mono (show Calls Tryz.prog 214 _ _ _ from Any.strconv_ParseUint_10_at32_range Tryz.laysPu14 (ofL s) (by omega) (by rw [hdl]; exact hp) _ w hc (.inr ⟨_, _, rfl⟩)) ?_
  rintro e w' ⟨N, rfl, _, _, hb⟩
  refine ⟨_, rfl, hb, .tup [.v (.int .u64 4294967295), .iface (Tryz.laysPu14_ren.t 39) .any], ?_, _, _, rfl, ⟨_, rfl⟩, rfl, rfl⟩
  simp only [Con, ConVs]
  exact ⟨_, rfl, _, _, rfl, rfl, _, _, rfl, ⟨_, rfl, trivial⟩, rfl⟩
end Go.Proofs.Mv.App
open Go Go.Proofs Go.Proofs.Mv.V
set_option maxRecDepth 10000
namespace Go.Proofs.Mv.App
theorem numOk_no {s : List UInt8} (h : okU (Lib.parseUintB 32 s) = none) : numOk s = false := by
 cases e : numOk s
 ·rfl
 ·rw [(of_numOk e).1] at h; simp [okU] at h
theorem okU_some {s : List UInt8} {u : Nat} (h : okU (Lib.parseUintB 32 s) = some u) : Lib.parseUintB 32 s = .ok u := by
 unfold okU at h; split at h
 ·rename_i e; rw [e]; simp at h; rw [h]
 ·cases h
end Go.Proofs.Mv.App
