/- A part of the proofs of the seat YtojdgajdhacjdaaGreatDoor: the abstract machine, the contracts of the functions, the laws. No condition of its own. -/
import Derived.Test.YtojdgajdhacjdaaGreatDoorUs
import Derived.Test.YtojdgajdhacjdaaGreatDoorRef
set_option linter.unusedSimpArgs false
set_option linter.unusedVariables false
set_option linter.unusedSectionVars false
open Go Go.Proofs Go.Proofs.Mv.V
set_option maxRecDepth 10000
namespace Go.Proofs.Mv.App
def plc (p : PS) : Nat := if p.bad = 0 then p.at_ else p.cnt
def yC (l : List Tok) (p : PS) : List D := [toksD l, I (plc p), I p.bad]
def yObj (l : List Tok) (p : PS) : V.Obj := ⟨3, [yC l p], 0⟩
theorem yObj_ok {l : List Tok} {p : PS} (h : p.bad = 0) : yObj l p = ⟨3, [[toksD l, .v (.int .i64 p.at_), .v (.int .i64 0)]], 0⟩ := by simp [yObj, yC, plc, h, I]
theorem yObj_fail {l : List Tok} {p : PS} {c : Nat} (h : p.bad = 0) (hc : c ≠ 0) : yObj l (failS c p) = ⟨3, [[toksD l, .v (.int .i64 p.at_), .v (.int .i64 c)]], 0⟩ := by simp [yObj, yC, plc, failS, h, hc, I]
theorem yObj_step {l : List Tok} {p : PS} (h : p.bad = 0) : yObj l (stepF p) = ⟨3, [[toksD l, .v (.int .i64 ((p.at_ : Int) + 1)), .v (.int .i64 0)]], 0⟩ := by simp [yObj, yC, plc, stepF, h, I]
/-- Is a token of a kind, and of a sort. -/
def wfine (kd sort : Int) (t : List UInt8) (tk : Tok) : Bool := decide (tk.kind = kd) && ((decide (sort = 0) && decide (tk.text = t)) || (decide (sort = 1) && smallN tk.text) || (decide (sort = 2) && greatN tk.text))
def wF (kd sort : Int) (t : List UInt8) (l : List Tok) (p : PS) : Bool := match cur l p with
  | some tk => wfine kd sort t tk
  | none => false
set_option maxHeartbeats 2000000 in
theorem cYWord {l : List Tok} (hl : TkOk l) {p : PS} (kd sort : Int) (t : List UInt8) (hs : sort = 0 ∨ sort = 1 ∨ sort = 2) {k : Nat} {m : Mem} {n : Nat} (hm : m k = some (yObj l p)) :
    ACalls Tryz.prog 25 [.ptr k 0 0 0, I kd, I sort, S t] m n (fun d m' n' => d = S (takeF (wF kd sort t l p) l p).1 ∧ m' = m.set k (yObj l (takeF (wF kd sort t l p) l p).2) ∧ n' = n) := by
  by_cases hb : p.bad = 0
  case neg =>
    have hb' : ((p.bad : Int) != 0) = true := by simp; omega
    have hf : wF kd sort t l p = false := by simp [wF, cur, hb]
    have e : takeF false l p = ([], p) := by simp [takeF, failS_bad hb]
    rw [hf, e]
    refine acalls_vc [0, 1, 2, 3, 8, 9, 10, 11, 12, 17, 43, 81] Tryz.func25 Tryz.ntmps25 (by kernel_rfl) rfl rfl (by simp) ?_
    simp -dsimp [I, S, hm, yObj, yC, hb, hb']
    exact (set_self hm).symm
  have hmx : m k = some ⟨3, [[toksD l, .v (.int .i64 p.at_), .v (.int .i64 0)]], 0⟩ := by rw [hm, yObj_ok hb]
  have hfl : takeF false l p = ([], failS 2 p) := rfl
  by_cases ha : p.at_ < l.length
  case neg =>
    have ha' : ¬ (p.at_ : Int) < l.length := by omega
    have hf : wF kd sort t l p = false := by simp [wF, cur, hb, ha]
    rw [hf, hfl, yObj_fail hb (by omega)]
    refine acalls_vc [0, 1, 2, 3, 8, 9, 10, 11, 12, 17, 43, 81] Tryz.func25 Tryz.ntmps25 (by kernel_rfl) rfl rfl (by simp) ?_
    simp -dsimp [I, S, hmx, toksD]
    refine vdraw_of [0, 1, 3, 7, 0, 16, 48, 112, 240, 511, 1023, 2047, 4095, 8191, 16383, 2047, 34815, 100351, 231423, 524287, 1048575, 2097151, 2047, 8388607, 16777215, 33554431] [0, 1, 2, 3, 4, 5, 6, 7, 8, 9, 10, 11, 12, 13, 14, 15, 16, 17, 18, 19, 20, 21, 22, 23, 24, 25] (by kernel_rfl) (by kernel_rfl) ?_
    simp -dsimp [I, S, hmx, toksD, ha, ha']
  have ha' : (p.at_ : Int) < l.length := by omega
  have hlen : l[p.at_].text.length ≤ 1000000 := hl.txt _ (List.getElem_mem ha)
  have hcur : cur l p = some l[p.at_] := by simp [cur, hb, ha]
  have hcT : curT l p = l[p.at_].text := by simp [curT, hcur]
  have hwf : wF kd sort t l p = wfine kd sort t l[p.at_] := by simp [wF, hcur]
  rw [hwf]
  have wa := wrap_at hl ha
  have ws : IntKind.i64.wrap ((p.at_ : Int) + 1 - 1) = p.at_ := by rw [wrap_i64 (by omega) (by have := hl.len; omega)]; omega
  have ws' : IntKind.i64.wrap (p.at_ : Int) = p.at_ := wrap_i64 (by omega) (by have := hl.len; omega)
  have hg : (l.map tokD)[p.at_]? = some (tokD l[p.at_]) := by simp [ha]
  have hll : (l.map tokD).length = l.length := by simp
  have htk : tokD l[p.at_] = [I l[p.at_].kind, I l[p.at_].at_, S l[p.at_].text] := rfl
  have hT : toksD l = .sl 3 (l.map tokD) := rfl
  have hst := yObj_step (l := l) hb
  generalize hL : l.map tokD = L at hg hll hT
  have hgi : L[p.at_]'(by omega) = tokD l[p.at_] := get_opt hg _
  clear hcur hwf
  generalize l[p.at_] = x at *
  obtain ⟨kx, ax, tx⟩ := x
  simp only at htk hgi hcT hlen
  refine acalls_vc [0, 1, 2, 3, 8, 9, 10, 11, 12, 17, 43, 81] Tryz.func25 Tryz.ntmps25 (by kernel_rfl) rfl rfl (by simp) ?_
  simp -dsimp [I, S, hmx, hT, hll]
  refine vdraw_of [0, 1, 3, 7, 0, 16, 48, 112, 240, 511, 1023, 2047, 4095, 8191, 16383, 2047, 34815, 100351, 231423, 524287, 1048575, 2097151, 2047, 8388607, 16777215, 33554431] [0, 1, 2, 3, 4, 5, 6, 7, 8, 9, 10, 11, 12, 13, 14, 15, 16, 17, 18, 19, 20, 21, 22, 23, 24, 25] (by kernel_rfl) (by kernel_rfl) ?_
  by_cases k4 : kx = kd
  case neg =>
    have k4' : (kx == kd) = false := by simp [k4]
    have hf : wfine kd sort t ⟨kx, ax, tx⟩ = false := by simp [wfine, k4]
    rw [hf, hfl, yObj_fail hb (by omega)]
    simp -dsimp [I, S, hmx, hT, hll, ha, ha', hgi, htk, k4, k4']
  subst k4
  simp -dsimp [I, S, hmx, hT, hll, ha, ha', hgi, htk]
  refine vdraw_of [0, 1, 3, 7, 0, 16, 48, 112, 255, 511, 1023, 2047] [0, 1, 2, 3, 4, 5, 6, 7, 8, 9, 10, 11] (by kernel_rfl) (by kernel_rfl) ?_
  simp -dsimp [I, S, hmx, hT, hll, ha, ha', hgi, htk]
  refine aCall_of (cRefSmall tx _ _) ?_
  rintro d m1 n1 ⟨rfl, rfl, rfl⟩
  simp -dsimp [S]
  refine aCall_of (cRefGreat tx _ _) ?_
  rintro d m1 n1 ⟨rfl, rfl, rfl⟩
  have htr : takeF true l p = (tx, stepF p) := by simp [takeF, hcT]
  rcases hs with rfl | rfl | rfl
  · by_cases e : tx = t
    · have e' : (tx == t) = true := by simp [e]
      have hf : wfine kx 0 t ⟨kx, ax, tx⟩ = true := by simp [wfine, e]
      rw [hf, htr, hst]
      simp -dsimp [I, S, Tt, hmx, hT, hll, ha, ha', hgi, htk, wa, ws, ws', e']
      refine vdraw_of [0, 1, 3, 7, 0, 16, 48, 112, 240, 511, 1023, 2047, 4095] [0, 1, 2, 3, 4, 5, 6, 7, 8, 9, 10, 11, 12] (by kernel_rfl) (by kernel_rfl) ?_
      simp -dsimp [I, S, Tt, hmx, hT, hll, ha, ha', hgi, htk, wa, ws, ws', e']
    · have e' : (tx == t) = false := by simp [e]
      have hf : wfine kx 0 t ⟨kx, ax, tx⟩ = false := by simp [wfine, e]
      rw [hf, hfl, yObj_fail hb (by omega)]
      simp -dsimp [I, S, Tt, hmx, hT, hll, ha, ha', hgi, htk, wa, ws, ws', e']
  · cases e : smallN tx
    · have hf : wfine kx 1 t ⟨kx, ax, tx⟩ = false := by simp [wfine, e]
      rw [hf, hfl, yObj_fail hb (by omega)]
      simp -dsimp [I, S, Tt, hmx, hT, hll, ha, ha', hgi, htk, wa, ws, ws', e]
    · have hf : wfine kx 1 t ⟨kx, ax, tx⟩ = true := by simp [wfine, e]
      rw [hf, htr, hst]
      simp -dsimp [I, S, Tt, hmx, hT, hll, ha, ha', hgi, htk, wa, ws, ws', e]
      refine vdraw_of [0, 1, 3, 7, 0, 16, 48, 112, 240, 511, 1023, 2047, 4095] [0, 1, 2, 3, 4, 5, 6, 7, 8, 9, 10, 11, 12] (by kernel_rfl) (by kernel_rfl) ?_
      simp -dsimp [I, S, Tt, hmx, hT, hll, ha, ha', hgi, htk, wa, ws, ws', e]
  · cases e : greatN tx
    · have hf : wfine kx 2 t ⟨kx, ax, tx⟩ = false := by simp [wfine, e]
      rw [hf, hfl, yObj_fail hb (by omega)]
      simp -dsimp [I, S, Tt, hmx, hT, hll, ha, ha', hgi, htk, wa, ws, ws', e]
    · have hf : wfine kx 2 t ⟨kx, ax, tx⟩ = true := by simp [wfine, e]
      rw [hf, htr, hst]
      simp -dsimp [I, S, Tt, hmx, hT, hll, ha, ha', hgi, htk, wa, ws, ws', e]
      refine vdraw_of [0, 1, 3, 7, 0, 16, 48, 112, 240, 511, 1023, 2047, 4095] [0, 1, 2, 3, 4, 5, 6, 7, 8, 9, 10, 11, 12] (by kernel_rfl) (by kernel_rfl) ?_
      simp -dsimp [I, S, Tt, hmx, hT, hll, ha, ha', hgi, htk, wa, ws, ws', e]
end Go.Proofs.Mv.App
open Go Go.Proofs Go.Proofs.Mv.V
set_option maxRecDepth 10000
namespace Go.Proofs.Mv.App
set_option maxHeartbeats 1000000 in
theorem cYKey {l : List Tok} {p : PS} (s : List UInt8) {k : Nat} {m : Mem} {n : Nat} (hm : m k = some (yObj l p)) :
    ACalls Tryz.prog 23 [.ptr k 0 0 0, S s] m n (fun d m' n' => d = Tt (isKey s l p) ∧ m' = m ∧ n' = n) := by
  refine acalls_vc [0, 1, 4] Tryz.func23 Tryz.ntmps23 (by kernel_rfl) rfl rfl (by simp) ?_
  by_cases hb : p.bad = 0
  case neg =>
    have hb' : ((p.bad : Int) == 0) = false := by simp; omega
    rw [isKey_bad hb]
    simp -dsimp [I, S]
    refine vdraw_of [0, 1, 3, 7, 15, 31, 63, 127, 255, 511, 63, 1087, 3135, 7231, 15423, 32767, 65535, 131071, 262143, 524287, 1048575, 2097151, 262143, 4456447, 12845055, 29622271, 67108863, 134217727, 268435455, 536870911, 1073741823, 2147483647, 4294967295, 8589934591, 17179869183, 34359738367, 4294967295, 73014444031, 210453397503, 485331304447, 1099511627775, 2199023255551, 4398046511103, 4294967295, 17592186044415, 35184372088831, 70368744177663] [0, 1, 2, 3, 4, 5, 6, 7, 8, 9, 10, 11, 12, 13, 14, 15, 16, 17, 18, 19, 20, 21, 22, 23, 24, 25, 26, 27, 28, 29, 30, 31, 32, 33, 34, 35, 36, 37, 38, 39, 40, 41, 42, 43, 44, 45, 46] (by kernel_rfl) (by kernel_rfl) ?_
    simp -dsimp [I, S, hm, yObj, yC, hb, hb', Tt]
  have hmx : m k = some ⟨3, [[toksD l, .v (.int .i64 p.at_), .v (.int .i64 0)]], 0⟩ := by rw [hm, yObj_ok hb]
  by_cases ha : p.at_ < l.length
  case neg =>
    have ha' : ¬ (p.at_ : Int) < l.length := by omega
    have hf : isKey s l p = false := by simp [isKey, cur, hb, ha]
    rw [hf]
    simp -dsimp [I, S]
    refine vdraw_of [0, 1, 3, 7, 15, 31, 63, 127, 255, 511, 63, 1087, 3135, 7231, 15423, 32767, 65535, 131071, 262143, 524287, 1048575, 2097151, 262143, 4456447, 12845055, 29622271, 67108863, 134217727, 268435455, 536870911, 1073741823, 2147483647, 4294967295, 8589934591, 17179869183, 34359738367, 4294967295, 73014444031, 210453397503, 485331304447, 1099511627775, 2199023255551, 4398046511103, 4294967295, 17592186044415, 35184372088831, 70368744177663] [0, 1, 2, 3, 4, 5, 6, 7, 8, 9, 10, 11, 12, 13, 14, 15, 16, 17, 18, 19, 20, 21, 22, 23, 24, 25, 26, 27, 28, 29, 30, 31, 32, 33, 34, 35, 36, 37, 38, 39, 40, 41, 42, 43, 44, 45, 46] (by kernel_rfl) (by kernel_rfl) ?_
    simp -dsimp [I, S, hmx, toksD, ha, ha', Tt]
  have ha' : (p.at_ : Int) < l.length := by omega
  have hc : isKey s l p = (decide (l[p.at_].kind = 1) && decide (l[p.at_].text = s)) := by simp [isKey, cur, hb, ha]
  rw [hc]
  have hg : (l.map tokD)[p.at_]? = some (tokD l[p.at_]) := by simp [ha]
  have hll : (l.map tokD).length = l.length := by simp
  have htk : tokD l[p.at_] = [I l[p.at_].kind, I l[p.at_].at_, S l[p.at_].text] := rfl
  have hT : toksD l = .sl 3 (l.map tokD) := rfl
  generalize hL : l.map tokD = L at hg hll hT
  have hgi : L[p.at_]'(by omega) = tokD l[p.at_] := get_opt hg _
  generalize l[p.at_] = x at *
  obtain ⟨kx, ax, tx⟩ := x
  simp only at htk hgi ⊢
  simp -dsimp [I, S]
  refine vdraw_of [0, 1, 3, 7, 15, 31, 63, 127, 255, 511, 63, 1087, 3135, 7231, 15423, 32767, 65535, 131071, 262143, 524287, 1048575, 2097151, 262143, 4456447, 12845055, 29622271, 67108863, 134217727, 268435455, 536870911, 1073741823, 2147483647, 4294967295, 8589934591, 17179869183, 34359738367, 4294967295, 73014444031, 210453397503, 485331304447, 1099511627775, 2199023255551, 4398046511103, 4294967295, 17592186044415, 35184372088831, 70368744177663] [0, 1, 2, 3, 4, 5, 6, 7, 8, 9, 10, 11, 12, 13, 14, 15, 16, 17, 18, 19, 20, 21, 22, 23, 24, 25, 26, 27, 28, 29, 30, 31, 32, 33, 34, 35, 36, 37, 38, 39, 40, 41, 42, 43, 44, 45, 46] (by kernel_rfl) (by kernel_rfl) ?_
  by_cases k4 : kx = 1
  · subst k4
    by_cases e : tx = s
    · have e' : (tx == s) = true := by simp [e]
      simp -dsimp [I, S, hmx, hT, hll, ha, ha', hgi, htk, Tt, e']
      simp [e]
    · have e' : (tx == s) = false := by simp [e]
      simp -dsimp [I, S, hmx, hT, hll, ha, ha', hgi, htk, Tt, e', e]
  · have k4' : (kx == 1) = false := by simp [k4]
    simp -dsimp [I, S, hmx, hT, hll, ha, ha', hgi, htk, Tt, k4, k4']
structure MajY (s : List UInt8) (k : Nat) (m : Mem) (n : Nat) (i : Nat) (σ : Nat → D) (m2 : Mem) (n2 : Nat) : Prop where
  h0 : σ 0 = .ptr k 0 0 0
  h5 : σ 5 = S s
  ex : ∃ (ok : Bool) (v : Int), σ 3 = Tt ok ∧ σ 4 = I v ∧ σ 6 = I i ∧ i ≤ s.length ∧ (ok = true → (s.take i).all isDigit = true ∧ v = decF (s.take i) ∧ s.head? ≠ some 48 ∧ 1 ≤ s.length ∧ s.length ≤ 9) ∧ (ok = false → numOk s = false)
  mm : m2 = m
  nn : n2 = n
set_option maxHeartbeats 4000000 in
theorem cYNum {l : List Tok} (hl : TkOk l) {p : PS} {k : Nat} {m : Mem} {n : Nat} (hm : m k = some (yObj l p)) :
    ACalls Tryz.prog 61 [.ptr k 0 0 0] m n (fun d m' n' => d = I (numV l p) ∧ m' = m.set k (yObj l (numS l p)) ∧ n' = n) := by
  have badc : isNum l p = false → numV l p = 0 ∧ numS l p = failS 2 p := fun h => by simp [numV, numS, takeF, h]
  refine acalls_vc [0, 2, 3, 4, 5, 6, 11, 36, 67, 89] Tryz.func61 Tryz.ntmps61 (by kernel_rfl) rfl rfl (by simp) ?_
  by_cases hb : p.bad = 0
  case neg =>
    have hb' : ((p.bad : Int) != 0) = true := by simp; omega
    obtain ⟨e1, e2⟩ := badc (isNum_bad hb)
    rw [e1, e2, failS_bad hb]
    simp -dsimp [I, S, hm, yObj, yC, hb, hb']
    exact (set_self hm).symm
  have hmx : m k = some ⟨3, [[toksD l, .v (.int .i64 p.at_), .v (.int .i64 0)]], 0⟩ := by rw [hm, yObj_ok hb]
  by_cases ha : p.at_ < l.length
  case neg =>
    have ha' : ¬ (p.at_ : Int) < l.length := by omega
    obtain ⟨e1, e2⟩ := badc (by simp [isNum, cur, hb, ha])
    rw [e1, e2, yObj_fail hb (by omega)]
    simp -dsimp [I, S, hmx, toksD]
    refine vdraw_of [0, 1, 3, 7, 0, 16, 48, 112, 240, 511, 1023, 2047, 4095, 8191, 16383, 2047, 34815, 100351, 231423, 524287, 1048575, 2097151, 4194303, 8388607, 16777215] [0, 1, 2, 3, 4, 5, 6, 7, 8, 9, 10, 11, 12, 13, 14, 15, 16, 17, 18, 19, 20, 21, 22, 23, 24] (by kernel_rfl) (by kernel_rfl) ?_
    simp -dsimp [I, S, hmx, toksD, ha, ha']
  have ha' : (p.at_ : Int) < l.length := by omega
  have wa := wrap_at hl ha
  have hcur : cur l p = some l[p.at_] := by simp [cur, hb, ha]
  have hnum : isNum l p = (decide (l[p.at_].kind = 3) && numOk l[p.at_].text) := by simp [isNum, hcur]
  have hcT : curT l p = l[p.at_].text := by simp [curT, hcur]
  have hlen : l[p.at_].text.length ≤ 1000000 := hl.txt _ (List.getElem_mem ha)
  have hg : (l.map tokD)[p.at_]? = some (tokD l[p.at_]) := by simp [ha]
  have hll : (l.map tokD).length = l.length := by simp
  have htk : tokD l[p.at_] = [I l[p.at_].kind, I l[p.at_].at_, S l[p.at_].text] := rfl
  have hT : toksD l = .sl 3 (l.map tokD) := rfl
  generalize hL : l.map tokD = L at hg hll hT
  have hgi : L[p.at_]'(by omega) = tokD l[p.at_] := get_opt hg _
  clear hcur
  generalize l[p.at_] = t at *
  obtain ⟨kd, a, tx⟩ := t
  simp only at htk hgi hnum hcT hlen
  simp -dsimp [I, hmx, hT, hll]
  refine vdraw_of [0, 1, 3, 7, 0, 16, 48, 112, 240, 511, 1023, 2047, 4095, 8191, 16383, 2047, 34815, 100351, 231423, 524287, 1048575, 2097151, 4194303, 8388607, 16777215] [0, 1, 2, 3, 4, 5, 6, 7, 8, 9, 10, 11, 12, 13, 14, 15, 16, 17, 18, 19, 20, 21, 22, 23, 24] (by kernel_rfl) (by kernel_rfl) ?_
  by_cases k3 : kd = 3
  case neg =>
    have k3' : (kd == 3) = false := by simp [k3]
    obtain ⟨e1, e2⟩ := badc (by rw [hnum]; simp [k3])
    rw [e1, e2, yObj_fail hb (by omega)]
    simp -dsimp [I, hmx, hT, hll, ha, ha', hgi, htk, k3, k3', Tt]
  have hn3 : isNum l p = numOk tx := by rw [hnum]; simp [k3]
  subst k3
  simp -dsimp [I, hmx, hT, hll, ha, ha', hgi, htk, Tt]
  refine vdraw_of [0, 1, 3, 7, 0, 16, 48, 112, 255, 511, 1023, 2047] [0, 1, 2, 3, 4, 5, 6, 7, 8, 9, 10, 11] (by kernel_rfl) (by kernel_rfl) ?_
  simp -dsimp [I, hmx, hT, hll, ha, ha', hgi, htk, Tt]
  have start : ∀ (ok : Bool), (ok = true → tx.head? ≠ some 48 ∧ 1 ≤ tx.length ∧ tx.length ≤ 9) → (ok = false → numOk tx = false) → ∀ σ : Nat → D, σ 0 = .ptr k 0 0 0 → σ 5 = S tx → σ 3 = Tt ok → σ 4 = I 0 → σ 6 = I 0 → MajY tx k m n 0 σ m n := by
    intro ok h1 h2 σ a0 a5 a3 a4 a6
    exact ⟨a0, a5, ⟨ok, 0, a3, a4, a6, by omega, fun h => ⟨rfl, rfl, h1 h⟩, h2⟩, rfl, rfl⟩
  clear htk hgi hg
  by_cases l9 : (tx.length : Int) ≤ 9
  case' neg =>
    have l9' : ¬ tx.length ≤ 9 := by omega
    simp -dsimp [S, l9, l9']
    refine vloop_of (β := Nat) (MajY tx k m n) (fun i => tx.length - i) 0 (start false (by simp) (fun _ => by simp [numOk, l9']) _ (by simp) (by simp [S]) (by simp [Tt]) (by simp [I]) (by simp [I])) ?_
  case' pos =>
    have l9' : tx.length ≤ 9 := by omega
    by_cases l1 : 1 ≤ (tx.length : Int)
    case' neg =>
      have l1' : ¬ 1 ≤ tx.length := by omega
      simp -dsimp [S, l9, l9', l1, l1']
      refine vloop_of (β := Nat) (MajY tx k m n) (fun i => tx.length - i) 0 (start false (by simp) (fun _ => by simp [numOk, l1']) _ (by simp) (by simp [S]) (by simp [Tt]) (by simp [I]) (by simp [I])) ?_
    case' pos =>
      have l1' : 1 ≤ tx.length := by omega
      have l0 : 0 < tx.length := by omega
      have hhd : tx.head? = some tx[0] := by cases tx with | nil => simp at l1' | cons a b => rfl
      by_cases u3 : tx[0].toNat = 48
      case' pos =>
        have hy : tx[0] = 48 := UInt8.toNat_inj.1 u3
        have hno : numOk tx = false := by simp [numOk, hhd, hy]
        simp -dsimp [S, l9, l9', l1, l1', l0, u3]
        refine vloop_of (β := Nat) (MajY tx k m n) (fun i => tx.length - i) 0 (start false (by simp) (fun _ => hno) _ (by simp) (by simp [S]) (by simp [Tt]) (by simp [I]) (by simp [I])) ?_
      case' neg =>
        have u3' : ((tx[0].toNat : Int) != 48) = true := by simp; omega
        have hy : tx.head? ≠ some 48 := by rw [hhd]; intro e; exact u3 (by rw [Option.some.inj e]; rfl)
        simp -dsimp [S, l9, l9', l1, l1', l0, u3, u3']
        refine vloop_of (β := Nat) (MajY tx k m n) (fun i => tx.length - i) 0 (start true (fun _ => ⟨hy, l1', l9'⟩) (by simp) _ (by simp) (by simp [S]) (by simp [Tt]) (by simp [I]) (by simp [I])) ?_
  all_goals
    rintro i σ m2 n2 ⟨h0, h5, ⟨ok, v, h3, h4, h6, le, hok, hno⟩, rfl, rfl⟩
    have wi : IntKind.i64.wrap ((i : Int) + 1) = (i : Int) + 1 := wrap_i64 (by omega) (by omega)
    cases ok
    · have hf : isNum l p = false := by rw [hn3]; exact hno rfl
      obtain ⟨e1, e2⟩ := badc hf
      rw [e1, e2, yObj_fail hb (by omega)]
      by_cases hi : i < tx.length
      · have hi2 : (i : Int) < tx.length := by omega
        simp -dsimp [h0, h3, h4, h5, h6, S, I, Tt, hi, hi2, hmx]
      · have hi2 : ¬ (i : Int) < tx.length := by omega
        simp -dsimp [h0, h3, h4, h5, h6, S, I, Tt, hi, hi2, hmx]
    obtain ⟨hall, hv, hhd, q1, q9⟩ := hok rfl
    by_cases hi : i < tx.length
    · have hi2 : (i : Int) < tx.length := by omega
      have hsm := decF_small hall (by simp; omega)
      have hxlt := tx[i].toNat_lt
      have htk : tx.take (i + 1) = tx.take i ++ [tx[i]] := List.take_succ_eq_append_getElem hi
      have w1 : IntKind.i64.wrap (10 * v) = 10 * v := wrap_i64 (by omega) (by omega)
      have w2 : IntKind.i64.wrap (10 * v + (tx[i].toNat : Int)) = 10 * v + tx[i].toNat := wrap_i64 (by omega) (by omega)
      have w3 : IntKind.i64.wrap (10 * v + (tx[i].toNat : Int) - 48) = 10 * v + tx[i].toNat - 48 := wrap_i64 (by omega) (by omega)
      have nxt : ∀ (ok' : Bool) (σ' : Nat → D), σ' 0 = .ptr k 0 0 0 → σ' 5 = S tx → σ' 3 = Tt ok' → σ' 4 = I (10 * v + tx[i].toNat - 48) → σ' 6 = I ((i : Int) + 1) → ok' = isDigit tx[i] →
          ∃ b', tx.length - b' < tx.length - i ∧ MajY tx k m2 n2 b' σ' m2 n2 := by
        intro ok' σ' a0 a5 a3 a4 a6 ho
        refine ⟨i + 1, by omega, a0, a5, ⟨ok', _, a3, a4, by rw [a6]; simp [I], by omega, fun h => ?_, fun h => ?_⟩, rfl, rfl⟩
        · rw [ho] at h
          have hx : 48 ≤ tx[i].toNat := by have := h; simp [isDigit] at this; omega
          exact ⟨by rw [htk, List.all_append, hall]; simp [h], by rw [htk, decF_snoc]; omega, hhd, q1, q9⟩
        · rw [ho] at h
          have : tx.all isDigit = false := by
            cases e : tx.all isDigit
            · rfl
            · have := List.all_eq_true.1 e tx[i] (List.getElem_mem hi); rw [h] at this; cases this
          simp [numOk, this]
      by_cases c1 : 48 ≤ (tx[i].toNat : Int)
      case neg =>
        simp -dsimp [h0, h3, h4, h5, h6, S, I, Tt, hi, hi2, c1, w1, w2, w3, wi]
        exact nxt false _ (by simp) (by simp [S]) (by simp [Tt]) (by simp [I]) (by simp [I]) (by simp [isDigit]; omega)
      by_cases c2 : (tx[i].toNat : Int) ≤ 57
      case neg =>
        simp -dsimp [h0, h3, h4, h5, h6, S, I, Tt, hi, hi2, c1, c2, w1, w2, w3, wi]
        exact nxt false _ (by simp) (by simp [S]) (by simp [Tt]) (by simp [I]) (by simp [I]) (by simp [isDigit]; omega)
      simp -dsimp [h0, h3, h4, h5, h6, S, I, Tt, hi, hi2, c1, c2, w1, w2, w3, wi]
      exact nxt true _ (by simp) (by simp [S]) (by simp [Tt]) (by simp [I]) (by simp [I]) (by simp [isDigit]; omega)
    · have hi2 : ¬ (i : Int) < tx.length := by omega
      have hil : i = tx.length := by omega
      rw [hil, List.take_length] at hall hv
      have hnt : isNum l p = true := by
        rw [hn3]; simp only [numOk, hall, Bool.and_true, Bool.and_eq_true, decide_eq_true_eq]
        exact ⟨⟨q1, q9⟩, hhd⟩
      have hnf : numV l p = decF tx := by simp [numV, hnt, hcT]
      have hns : numS l p = stepF p := by simp [numS, takeF, hnt]
      rw [hnf, hns, yObj_step hb]
      simp -dsimp [h0, h3, h4, h5, h6, S, I, Tt, hi, hi2, hmx, wa, hv]
end Go.Proofs.Mv.App
open Go Go.Proofs Go.Proofs.Mv.V
set_option maxRecDepth 10000
namespace Go.Proofs.Mv.App
theorem pur_yObj (l : List Tok) (p : PS) : ∀ e ∈ (yObj l p).es, ∀ d ∈ e, Pur d := by
  intro e he d hd
  simp only [yObj, List.mem_singleton] at he
  subst he
  simp only [yC, List.mem_cons, List.not_mem_nil, or_false] at hd
  rcases hd with rfl | rfl | rfl
  · exact pur_toks _
  · exact pur_I _
  · exact pur_I _
set_option maxHeartbeats 1000000 in
theorem cYType {l : List Tok} (hl : TkOk l) {p : PS} {k : Nat} {m : Mem} {n : Nat} (hk : k < n) (hm : m k = some (yObj l p)) :
    ACalls Tryz.prog 26 [.ptr k 0 0 0] m n (fun d m' n' => d = .agg (tyD (typS l p).1) ∧ m' = m.set k (yObj l (typS l p).2) ∧ n' = n) := by
  have kn : k ≠ n := by omega
  have nk : n ≠ k := by omega
  have kn1 : k ≠ n + 1 := by omega
  have n1k : n + 1 ≠ k := by omega
  have nn1 : n ≠ n + 1 := by omega
  have n1n : n + 1 ≠ n := by omega
  refine acalls_put (X := fun d => d = .agg (tyD (typS l p).1)) (R' := Hq (fun d m' n' => PubAs n m' d (.agg (tyD (typS l p).1)) ∧ m' k = some (yObj l (typS l p).2) ∧ ∀ j, j < n → j ≠ k → m' j = m j) tg) k hk _ ?_ ?_
  · refine acalls_vcC [0, 2, 3, 4, 5, 6, 11, 28] Tryz.func26 Tryz.ntmps26 (by kernel_rfl) rfl rfl (by simp) ?_
    by_cases hb : p.bad = 0
    case neg =>
      have hb' : ((p.bad : Int) != 0) = true := by simp; omega
      have e : typS l p = (Ty0, p) := by rw [typS, if_neg hb]
      rw [e]
      simp -dsimp [hm, yObj, yC, hb, hb', I, set_ne, kn, nk]
      refine hq ⟨by simpa [I, S] using pub_ty0, by simp [hm, set_ne, kn, yObj, yC, I], fun j hj hjk => by rw [set_ne _ _ _ _ (by omega)]⟩
    have hmx : m k = some ⟨3, [[toksD l, .v (.int .i64 p.at_), .v (.int .i64 0)]], 0⟩ := by rw [hm, yObj_ok hb]
    have e : typS l p = match (atF l p.at_).2.2 with
      | some (a, c) => (Ty0, ⟨0, a.toNat, c⟩)
      | none => ((atF l p.at_).1, ⟨(atF l p.at_).2.1, p.cnt, 0⟩) := by rw [typS, if_pos hb]; rfl
    rw [e]
    simp -dsimp [hmx, set_ne, kn, nk]
    refine vdraw_tree [0, 1, 3, 7, 0, 16, 48, 112, 255, 511, 1023, 1023, 1023, 1023, 0, 18431, 53247, 122879, 262143] (.rd 0 (.rd 1 (.rd 2 (.rd 3 (.rd 4 (.rd 5 (.rd 6 (.rd 7 (.wr (.cons 8 (.rd 9 (.rd 10 (.rd 11 (.rd 12 (.rd 13 (.wr (.cons 14 (.wr (.cons 15 (.rd 16 (.rd 17 (.rd 18 (.fin)))) (.nil))) (.nil)))))))) (.cons 14 (.wr (.cons 8 (.rd 9 (.rd 10 (.rd 11 (.rd 12 (.rd 13 (.wr (.cons 15 (.rd 16 (.rd 17 (.rd 18 (.fin)))) (.nil)))))))) (.nil))) (.nil)))))))))))) (by kernel_rfl) (by kernel_rfl) ?_
    simp -dsimp [hmx, set_ne, kn, nk]
    have hab := fun a c => atF_bad (l := l) (i := p.at_) (a := a) (c := c)
    have hnn := fun a c => atF_nn (l := l) (q := p.at_) (a := a) (c := c)
    have hat := fun m n => cRefAt hl (p.at_ : Int) m n
    generalize atF l p.at_ = A at hab hnn hat ⊢
    simp only [I] at hat
    refine ⟨?_, ?_⟩
    · refine aCall_of (hat _ _) ?_
      rintro d m' n' ⟨rfl, rfl, rfl⟩
      obtain ⟨t, nx, o⟩ := A
      cases o with
      | none =>
        simp -dsimp [hmx, set_ne, kn, nk, kn1, n1k, nn1, n1n, I, badO, placeO]
        refine hq ⟨(pur_tyA _).pub, by simp [hmx, set_ne, kn, nk, kn1, n1k, nn1, n1n, I, badO, placeO, yObj, yC, plc], fun j hj hjk => ?_⟩
        have j1 : j ≠ n := by omega
        have j2 : j ≠ n + 1 := by omega
        simp [set_ne, hjk, j1, j2]
      | some x =>
        obtain ⟨a, c⟩ := x
        obtain ⟨hc, ht, hnx⟩ := hab a c rfl
        have h0 := hnn a c rfl
        simp only at ht hnx
        subst ht; subst hnx
        have hc' : ((c : Int) != 0) = true := by simp; omega
        simp -dsimp [hmx, set_ne, kn, nk, kn1, n1k, nn1, n1n, I, badO, placeO, hc, hc']
        refine hq ⟨by simpa [I, S] using pub_ty0, by simp [hmx, set_ne, kn, nk, kn1, n1k, nn1, n1n, I, badO, placeO, hc, yObj, yC, plc, Int.toNat_of_nonneg h0], fun j hj hjk => ?_⟩
        have j1 : j ≠ n := by omega
        have j2 : j ≠ n + 1 := by omega
        simp [set_ne, hjk, j1, j2]
    · simp -dsimp [hmx, set_ne, kn, nk, kn1, n1k, nn1, n1n, I, badO, placeO]
      refine aCall_of (hat _ _) ?_
      rintro d m' n' ⟨rfl, rfl, rfl⟩
      obtain ⟨t, nx, o⟩ := A
      cases o with
      | none =>
        simp -dsimp [hmx, set_ne, kn, nk, kn1, n1k, nn1, n1n, I, badO, placeO]
        refine hq ⟨(pur_tyA _).pub, by simp [hmx, set_ne, kn, nk, kn1, n1k, nn1, n1n, I, badO, placeO, yObj, yC, plc], fun j hj hjk => ?_⟩
        have j1 : j ≠ n := by omega
        have j2 : j ≠ n + 1 := by omega
        simp [set_ne, hjk, j1, j2]
      | some x =>
        obtain ⟨a, c⟩ := x
        obtain ⟨hc, ht, hnx⟩ := hab a c rfl
        have h0 := hnn a c rfl
        simp only at ht hnx
        subst ht; subst hnx
        have hc' : ((c : Int) != 0) = true := by simp; omega
        simp -dsimp [hmx, set_ne, kn, nk, kn1, n1k, nn1, n1n, I, badO, placeO, hc, hc']
        refine hq ⟨by simpa [I, S] using pub_ty0, by simp [hmx, set_ne, kn, nk, kn1, n1k, nn1, n1n, I, badO, placeO, hc, yObj, yC, plc, Int.toNat_of_nonneg h0], fun j hj hjk => ?_⟩
        have j1 : j ≠ n := by omega
        have j2 : j ≠ n + 1 := by omega
        simp [set_ne, hjk, j1, j2]
  · rintro d m' n' ⟨h1, h3, h4⟩
    exact ⟨.agg (tyD (typS l p).1), _, h1, h3, .pur (pur_yObj _ _), h4, rfl⟩
theorem wF_nam (l : List Tok) (p : PS) : wF 1 1 [] l p = isNam false l p := by
  unfold wF isNam; cases cur l p <;> simp [wfine, namOk]
theorem wF_gre (l : List Tok) (p : PS) : wF 2 2 [] l p = isNam true l p := by
  unfold wF isNam; cases cur l p <;> simp [wfine, namOk]
theorem wF_key (s : List UInt8) (l : List Tok) (p : PS) : wF 1 0 s l p = isKey s l p := by
  unfold wF isKey; cases cur l p <;> simp [wfine]
theorem wF_sig (s : List UInt8) (l : List Tok) (p : PS) : wF 4 0 s l p = isSig s l p := by
  unfold wF isSig; cases cur l p <;> simp [wfine]
theorem cYW (g : Bool) {l : List Tok} (hl : TkOk l) {p : PS} {k : Nat} {m : Mem} {n : Nat} (hm : m k = some (yObj l p)) :
    ACalls Tryz.prog 25 [.ptr k 0 0 0, I (if g then 2 else 1), I (if g then 2 else 1), S []] m n (fun d m' n' => d = S (nameS g l p).1 ∧ m' = m.set k (yObj l (nameS g l p).2) ∧ n' = n) := by
  cases g
  · have := cYWord hl (p := p) 1 1 [] (by simp) hm (n := n)
    rw [wF_nam] at this; exact this
  · have := cYWord hl (p := p) 2 2 [] (by simp) hm (n := n)
    rw [wF_gre] at this; exact this
theorem cYWk (s : List UInt8) {l : List Tok} (hl : TkOk l) {p : PS} {k : Nat} {m : Mem} {n : Nat} (hm : m k = some (yObj l p)) :
    ACalls Tryz.prog 25 [.ptr k 0 0 0, I 1, I 0, S s] m n (fun d m' n' => d = S (takeF (isKey s l p) l p).1 ∧ m' = m.set k (yObj l (takeF (isKey s l p) l p).2) ∧ n' = n) := by
  have := cYWord hl (p := p) 1 0 s (by simp) hm (n := n)
  rw [wF_key] at this; exact this
theorem cYWs (s : List UInt8) {l : List Tok} (hl : TkOk l) {p : PS} {k : Nat} {m : Mem} {n : Nat} (hm : m k = some (yObj l p)) :
    ACalls Tryz.prog 25 [.ptr k 0 0 0, I 4, I 0, S s] m n (fun d m' n' => d = S (takeF (isSig s l p) l p).1 ∧ m' = m.set k (yObj l (mustS s l p)) ∧ n' = n) := by
  have := cYWord hl (p := p) 4 0 s (by simp) hm (n := n)
  rw [wF_sig] at this; exact this
set_option maxHeartbeats 1000000 in
theorem cYImpR {l : List Tok} (hl : TkOk l) {p : PS} (hb : p.bad = 0) (ha : p.at_ < l.length) {k : Nat} {m : Mem} {n : Nat} (hk : k < n) (hm : m k = some (yObj l p)) :
    ACalls Tryz.prog 24 [.ptr k 0 0 0] m n (fun d m' n' => d = .agg (impD (impR l (stepF p))) ∧ m' = m.set k (yObj l (impF l (stepF p)).2) ∧ n' = n) := by
  have kn : k ≠ n := by omega
  have nk : n ≠ k := by omega
  have kn1 : k ≠ n + 1 := by omega
  have n1k : n + 1 ≠ k := by omega
  have nn1 : n ≠ n + 1 := by omega
  have n1n : n + 1 ≠ n := by omega
  have hmx : m k = some ⟨3, [[toksD l, .v (.int .i64 p.at_), .v (.int .i64 0)]], 0⟩ := by rw [hm, yObj_ok hb]
  have wa := wrap_at hl ha
  have hst := yObj_step (l := l) hb
  refine acalls_fin (X := fun d => d = .agg (impD (impR l (stepF p)))) hk (pur_yObj _ _) (fun d h => by rw [h]; exact pur_imp _) ?_
  refine acalls_vcC [0, 2, 3] Tryz.func24 Tryz.ntmps24 (by kernel_rfl) rfl rfl (by simp) ?_
  simp -dsimp [hmx, wa, set_ne, kn, nk]
  rw [← hst]
  generalize stepF p = q
  refine aCall_of (cYW false hl (p := q) (by simp [set_ne, kn, kn1])) ?_
  rintro d m2 n2 ⟨rfl, rfl, rfl⟩
  have e1 : nameS false l q = imp1 l q := rfl
  rw [e1]
  simp -dsimp [I, S, set_ne, kn, nk, kn1, n1k, nn1, n1n]
  refine aCall_of (cYNum hl (p := (imp1 l q).2) (by simp [set_ne, kn, kn1])) ?_
  rintro d m2 n2 ⟨rfl, rfl, rfl⟩
  have e2 : numS l (imp1 l q).2 = imp2 l q := rfl
  rw [e2]
  simp -dsimp [I, S, set_ne, kn, nk, kn1, n1k, nn1, n1n]
  refine aCall_of (cYW false hl (p := imp2 l q) (by simp [set_ne, kn, kn1])) ?_
  rintro d m2 n2 ⟨rfl, rfl, rfl⟩
  have e3 : nameS false l (imp2 l q) = imp3 l q := rfl
  rw [e3]
  simp -dsimp [I, S, set_ne, kn, nk, kn1, n1k, nn1, n1n]
  refine aCall_of (cYWk wAs hl (p := (imp3 l q).2) (by simp [set_ne, kn, kn1])) ?_
  rintro d m2 n2 ⟨rfl, rfl, rfl⟩
  have e4 : (takeF (isKey wAs l (imp3 l q).2) l (imp3 l q).2).2 = imp4 l q := rfl
  rw [e4]
  simp -dsimp [I, S, set_ne, kn, nk, kn1, n1k, nn1, n1n]
  refine aCall_of (cYW false hl (p := imp4 l q) (by simp [set_ne, kn, kn1])) ?_
  rintro d m2 n2 ⟨rfl, rfl, rfl⟩
  have e5 : nameS false l (imp4 l q) = imp5 l q := rfl
  rw [e5]
  simp -dsimp [I, S, set_ne, kn, nk, kn1, n1k, nn1, n1n]
  refine fin_mk rfl (by simp [set_ne, kn, kn1, impF]) fun j hj hjk => ?_
  have j1 : j ≠ n := by omega
  have j2 : j ≠ n + 1 := by omega
  simp [set_ne, hjk, j1, j2]
end Go.Proofs.Mv.App
