/- A part of the proofs of the seat YtbgkkoloflcnbaaGreatDoor: the abstract machine, the contracts of the functions, the laws. No condition of its own. -/
import Derived.Test.YtbgkkoloflcnbaaGreatDoorSyn
set_option linter.unusedSimpArgs false
set_option linter.unusedVariables false
set_option linter.unusedSectionVars false
open Go Go.Proofs Go.Proofs.Mv.V
set_option maxRecDepth 10000
namespace Go.Proofs.Mv.App
def plc (p : PS) : Nat := if p.bad = 0 then p.at_ else p.cnt
def yC (l : List Tok) (p : PS) : List D := [toksD l, I (plc p), I p.bad]
def yObj (l : List Tok) (p : PS) : V.Obj := ⟨3, [yC l p], 0⟩
theorem yObj_ok {l : List Tok} {p : PS} (h : p.bad = 0) : yObj l p = ⟨3, [[toksD l, .v (.int .i64 p.at_), .v (.int .i64 0)]], 0⟩ := by simp [yObj, yC, plc, h, I]
theorem yObj_fail {l : List Tok} {p : PS} {c : Nat} (h : p.bad = 0) (hc : c ≠ 0) : yObj l (failS c p) = ⟨3, [[toksD l, .v (.int .i64 p.at_), .v (.int .i64 c)]], 0⟩ := by simp [yObj, yC, plc, failS, h, hc, I]
theorem yObj_step {l : List Tok} {p : PS} (h : p.bad = 0) : yObj l (stepF p) = ⟨3, [[toksD l, .v (.int .i64 ((p.at_ : Int) + 1)), .v (.int .i64 0)]], 0⟩ := by simp [yObj, yC, plc, stepF, h, I]
/-- Is a token of a kind, and of a sort. -/
def wfine (kd sort : Int) (t : List UInt8) (tk : Tok) : Bool := decide (tk.kind = kd) && ((decide (sort = 0) && decide (tk.text = t)) || (decide (sort = 1) && smallN tk.text) || (decide (sort = 2) && greatN tk.text))
def wF (kd sort : Int) (t : List UInt8) (l : List Tok) (p : PS) : Bool := match cur l p with
  | some tk => wfine kd sort t tk
  | none => false
set_option maxHeartbeats 2000000 in
theorem cYWord {l : List Tok} (hl : TkOk l) {p : PS} (kd sort : Int) (t : List UInt8) (hs : sort = 0 ∨ sort = 1 ∨ sort = 2) {k : Nat} {m : Mem} {n : Nat} (hm : m k = some (yObj l p)) :
    ACalls Tryz.prog 67 [.ptr k 0 0 0, I kd, I sort, S t] m n (fun d m' n' => d = S (takeF (wF kd sort t l p) l p).1 ∧ m' = m.set k (yObj l (takeF (wF kd sort t l p) l p).2) ∧ n' = n) := by
  by_cases hb : p.bad = 0
  case neg =>
    have hb' : ((p.bad : Int) != 0) = true := by simp; omega
    have hf : wF kd sort t l p = false := by simp [wF, cur, hb]
    have e : takeF false l p = ([], p) := by simp [takeF, failS_bad hb]
    rw [hf, e]
    refine acalls_vc [0, 1, 2, 3, 8, 9, 10, 11, 12, 17, 43, 81] Tryz.func67 Tryz.ntmps67 (by kernel_rfl) rfl rfl (by simp) ?_
    simp -dsimp [I, S, hm, yObj, yC, hb, hb']
    exact (set_self hm).symm
  have hmx : m k = some ⟨3, [[toksD l, .v (.int .i64 p.at_), .v (.int .i64 0)]], 0⟩ := by rw [hm, yObj_ok hb]
  have hfl : takeF false l p = ([], failS 2 p) := rfl
  by_cases ha : p.at_ < l.length
  case neg =>
    have ha' : ¬ (p.at_ : Int) < l.length := by omega
    have hf : wF kd sort t l p = false := by simp [wF, cur, hb, ha]
    rw [hf, hfl, yObj_fail hb (by omega)]
    refine acalls_vc [0, 1, 2, 3, 8, 9, 10, 11, 12, 17, 43, 81] Tryz.func67 Tryz.ntmps67 (by kernel_rfl) rfl rfl (by simp) ?_
    simp -dsimp [I, S, hmx, toksD]
    refine vdraw_of [0, 1, 3, 7, 0, 16, 48, 112, 240, 511, 1023, 2047, 4095, 8191, 16383, 2047, 34815, 100351, 231423, 524287, 1048575, 2097151, 2047, 8388607, 16777215, 33554431] [0, 1, 2, 3, 4, 5, 6, 7, 8, 9, 10, 11, 12, 13, 14, 15, 16, 17, 18, 19, 20, 21, 22, 23, 24, 25] (by kernel_rfl) (by kernel_rfl) ?_
    simp -dsimp [I, S, hmx, toksD, ha, ha']
  have ha' : (p.at_ : Int) < l.length := by omega
  have hlen : l[p.at_].text.length ≤ 1000000 := hl.txt _ (List.getElem_mem ha)
  have hcur : cur l p = some l[p.at_] := by simp [cur, hb, ha]
  have hcT : curT l p = l[p.at_].text := by simp [curT, hcur]
  have hwf : wF kd sort t l p = wfine kd sort t l[p.at_] := by simp [wF, hcur]
  rw [hwf]
  have wa := wrap_at hl ha
  have ws : IntKind.i64.wrap ((p.at_ : Int) + 1 - 1) = p.at_ := by rw [wrap_i64 (by omega) (by have := hl.len; omega)]; omega
  have ws' : IntKind.i64.wrap (p.at_ : Int) = p.at_ := wrap_i64 (by omega) (by have := hl.len; omega)
  have hg : (l.map tokD)[p.at_]? = some (tokD l[p.at_]) := by simp [ha]
  have hll : (l.map tokD).length = l.length := by simp
  have htk : tokD l[p.at_] = [I l[p.at_].kind, I l[p.at_].at_, S l[p.at_].text] := rfl
  have hT : toksD l = .sl 3 (l.map tokD) := rfl
  have hst := yObj_step (l := l) hb
  generalize hL : l.map tokD = L at hg hll hT
  have hgi : L[p.at_]'(by omega) = tokD l[p.at_] := get_opt hg _
  clear hcur hwf
  generalize l[p.at_] = x at *
  obtain ⟨kx, ax, tx⟩ := x
  simp only at htk hgi hcT hlen
  refine acalls_vc [0, 1, 2, 3, 8, 9, 10, 11, 12, 17, 43, 81] Tryz.func67 Tryz.ntmps67 (by kernel_rfl) rfl rfl (by simp) ?_
  simp -dsimp [I, S, hmx, hT, hll]
  refine vdraw_of [0, 1, 3, 7, 0, 16, 48, 112, 240, 511, 1023, 2047, 4095, 8191, 16383, 2047, 34815, 100351, 231423, 524287, 1048575, 2097151, 2047, 8388607, 16777215, 33554431] [0, 1, 2, 3, 4, 5, 6, 7, 8, 9, 10, 11, 12, 13, 14, 15, 16, 17, 18, 19, 20, 21, 22, 23, 24, 25] (by kernel_rfl) (by kernel_rfl) ?_
  by_cases k4 : kx = kd
  case neg =>
    have k4' : (kx == kd) = false := by simp [k4]
    have hf : wfine kd sort t ⟨kx, ax, tx⟩ = false := by simp [wfine, k4]
    rw [hf, hfl, yObj_fail hb (by omega)]
    simp -dsimp [I, S, hmx, hT, hll, ha, ha', hgi, htk, k4, k4']
  subst k4
  simp -dsimp [I, S, hmx, hT, hll, ha, ha', hgi, htk]
  refine vdraw_of [0, 1, 3, 7, 0, 16, 48, 112, 255, 511, 1023, 2047] [0, 1, 2, 3, 4, 5, 6, 7, 8, 9, 10, 11] (by kernel_rfl) (by kernel_rfl) ?_
  simp -dsimp [I, S, hmx, hT, hll, ha, ha', hgi, htk]
  refine aCall_of (cRefSmall tx _ _) ?_
  rintro d m1 n1 ⟨rfl, rfl, rfl⟩
  simp -dsimp [S]
  refine aCall_of (cRefGreat tx _ _) ?_
  rintro d m1 n1 ⟨rfl, rfl, rfl⟩
  have htr : takeF true l p = (tx, stepF p) := by simp [takeF, hcT]
  rcases hs with rfl | rfl | rfl
  · by_cases e : tx = t
    · have e' : (tx == t) = true := by simp [e]
      have hf : wfine kx 0 t ⟨kx, ax, tx⟩ = true := by simp [wfine, e]
      rw [hf, htr, hst]
      simp -dsimp [I, S, Tt, hmx, hT, hll, ha, ha', hgi, htk, wa, ws, ws', e']
      refine vdraw_of [0, 1, 3, 7, 0, 16, 48, 112, 240, 511, 1023, 2047, 4095] [0, 1, 2, 3, 4, 5, 6, 7, 8, 9, 10, 11, 12] (by kernel_rfl) (by kernel_rfl) ?_
      simp -dsimp [I, S, Tt, hmx, hT, hll, ha, ha', hgi, htk, wa, ws, ws', e']
    · have e' : (tx == t) = false := by simp [e]
      have hf : wfine kx 0 t ⟨kx, ax, tx⟩ = false := by simp [wfine, e]
      rw [hf, hfl, yObj_fail hb (by omega)]
      simp -dsimp [I, S, Tt, hmx, hT, hll, ha, ha', hgi, htk, wa, ws, ws', e']
  · cases e : smallN tx
    · have hf : wfine kx 1 t ⟨kx, ax, tx⟩ = false := by simp [wfine, e]
      rw [hf, hfl, yObj_fail hb (by omega)]
      simp -dsimp [I, S, Tt, hmx, hT, hll, ha, ha', hgi, htk, wa, ws, ws', e]
    · have hf : wfine kx 1 t ⟨kx, ax, tx⟩ = true := by simp [wfine, e]
      rw [hf, htr, hst]
      simp -dsimp [I, S, Tt, hmx, hT, hll, ha, ha', hgi, htk, wa, ws, ws', e]
      refine vdraw_of [0, 1, 3, 7, 0, 16, 48, 112, 240, 511, 1023, 2047, 4095] [0, 1, 2, 3, 4, 5, 6, 7, 8, 9, 10, 11, 12] (by kernel_rfl) (by kernel_rfl) ?_
      simp -dsimp [I, S, Tt, hmx, hT, hll, ha, ha', hgi, htk, wa, ws, ws', e]
  · cases e : greatN tx
    · have hf : wfine kx 2 t ⟨kx, ax, tx⟩ = false := by simp [wfine, e]
      rw [hf, hfl, yObj_fail hb (by omega)]
      simp -dsimp [I, S, Tt, hmx, hT, hll, ha, ha', hgi, htk, wa, ws, ws', e]
    · have hf : wfine kx 2 t ⟨kx, ax, tx⟩ = true := by simp [wfine, e]
      rw [hf, htr, hst]
      simp -dsimp [I, S, Tt, hmx, hT, hll, ha, ha', hgi, htk, wa, ws, ws', e]
      refine vdraw_of [0, 1, 3, 7, 0, 16, 48, 112, 240, 511, 1023, 2047, 4095] [0, 1, 2, 3, 4, 5, 6, 7, 8, 9, 10, 11, 12] (by kernel_rfl) (by kernel_rfl) ?_
      simp -dsimp [I, S, Tt, hmx, hT, hll, ha, ha', hgi, htk, wa, ws, ws', e]
end Go.Proofs.Mv.App
open Go Go.Proofs Go.Proofs.Mv.V
set_option maxRecDepth 10000
namespace Go.Proofs.Mv.App
set_option maxHeartbeats 1000000 in
theorem cYKey {l : List Tok} {p : PS} (s : List UInt8) {k : Nat} {m : Mem} {n : Nat} (hm : m k = some (yObj l p)) :
    ACalls Tryz.prog 68 [.ptr k 0 0 0, S s] m n (fun d m' n' => d = Tt (isKey s l p) ∧ m' = m ∧ n' = n) := by
  refine acalls_vc [0, 1, 4] Tryz.func68 Tryz.ntmps68 (by kernel_rfl) rfl rfl (by simp) ?_
  by_cases hb : p.bad = 0
  case neg =>
    have hb' : ((p.bad : Int) == 0) = false := by simp; omega
    rw [isKey_bad hb]
    simp -dsimp [I, S]
    refine vdraw_of [0, 1, 3, 7, 15, 31, 63, 127, 255, 511, 63, 1087, 3135, 7231, 15423, 32767, 65535, 131071, 262143, 524287, 1048575, 2097151, 262143, 4456447, 12845055, 29622271, 67108863, 134217727, 268435455, 536870911, 1073741823, 2147483647, 4294967295, 8589934591, 17179869183, 34359738367, 4294967295, 73014444031, 210453397503, 485331304447, 1099511627775, 2199023255551, 4398046511103, 4294967295, 17592186044415, 35184372088831, 70368744177663] [0, 1, 2, 3, 4, 5, 6, 7, 8, 9, 10, 11, 12, 13, 14, 15, 16, 17, 18, 19, 20, 21, 22, 23, 24, 25, 26, 27, 28, 29, 30, 31, 32, 33, 34, 35, 36, 37, 38, 39, 40, 41, 42, 43, 44, 45, 46] (by kernel_rfl) (by kernel_rfl) ?_
    simp -dsimp [I, S, hm, yObj, yC, hb, hb', Tt]
  have hmx : m k = some ⟨3, [[toksD l, .v (.int .i64 p.at_), .v (.int .i64 0)]], 0⟩ := by rw [hm, yObj_ok hb]
  by_cases ha : p.at_ < l.length
  case neg =>
    have ha' : ¬ (p.at_ : Int) < l.length := by omega
    have hf : isKey s l p = false := by simp [isKey, cur, hb, ha]
    rw [hf]
    simp -dsimp [I, S]
    refine vdraw_of [0, 1, 3, 7, 15, 31, 63, 127, 255, 511, 63, 1087, 3135, 7231, 15423, 32767, 65535, 131071, 262143, 524287, 1048575, 2097151, 262143, 4456447, 12845055, 29622271, 67108863, 134217727, 268435455, 536870911, 1073741823, 2147483647, 4294967295, 8589934591, 17179869183, 34359738367, 4294967295, 73014444031, 210453397503, 485331304447, 1099511627775, 2199023255551, 4398046511103, 4294967295, 17592186044415, 35184372088831, 70368744177663] [0, 1, 2, 3, 4, 5, 6, 7, 8, 9, 10, 11, 12, 13, 14, 15, 16, 17, 18, 19, 20, 21, 22, 23, 24, 25, 26, 27, 28, 29, 30, 31, 32, 33, 34, 35, 36, 37, 38, 39, 40, 41, 42, 43, 44, 45, 46] (by kernel_rfl) (by kernel_rfl) ?_
    simp -dsimp [I, S, hmx, toksD, ha, ha', Tt]
  have ha' : (p.at_ : Int) < l.length := by omega
  have hc : isKey s l p = (decide (l[p.at_].kind = 1) && decide (l[p.at_].text = s)) := by simp [isKey, cur, hb, ha]
  rw [hc]
  have hg : (l.map tokD)[p.at_]? = some (tokD l[p.at_]) := by simp [ha]
  have hll : (l.map tokD).length = l.length := by simp
  have htk : tokD l[p.at_] = [I l[p.at_].kind, I l[p.at_].at_, S l[p.at_].text] := rfl
  have hT : toksD l = .sl 3 (l.map tokD) := rfl
  generalize hL : l.map tokD = L at hg hll hT
  have hgi : L[p.at_]'(by omega) = tokD l[p.at_] := get_opt hg _
  generalize l[p.at_] = x at *
  obtain ⟨kx, ax, tx⟩ := x
  simp only at htk hgi ⊢
  simp -dsimp [I, S]
  refine vdraw_of [0, 1, 3, 7, 15, 31, 63, 127, 255, 511, 63, 1087, 3135, 7231, 15423, 32767, 65535, 131071, 262143, 524287, 1048575, 2097151, 262143, 4456447, 12845055, 29622271, 67108863, 134217727, 268435455, 536870911, 1073741823, 2147483647, 4294967295, 8589934591, 17179869183, 34359738367, 4294967295, 73014444031, 210453397503, 485331304447, 1099511627775, 2199023255551, 4398046511103, 4294967295, 17592186044415, 35184372088831, 70368744177663] [0, 1, 2, 3, 4, 5, 6, 7, 8, 9, 10, 11, 12, 13, 14, 15, 16, 17, 18, 19, 20, 21, 22, 23, 24, 25, 26, 27, 28, 29, 30, 31, 32, 33, 34, 35, 36, 37, 38, 39, 40, 41, 42, 43, 44, 45, 46] (by kernel_rfl) (by kernel_rfl) ?_
  by_cases k4 : kx = 1
  · subst k4
    by_cases e : tx = s
    · have e' : (tx == s) = true := by simp [e]
      simp -dsimp [I, S, hmx, hT, hll, ha, ha', hgi, htk, Tt, e']
      simp [e]
    · have e' : (tx == s) = false := by simp [e]
      simp -dsimp [I, S, hmx, hT, hll, ha, ha', hgi, htk, Tt, e', e]
  · have k4' : (kx == 1) = false := by simp [k4]
    simp -dsimp [I, S, hmx, hT, hll, ha, ha', hgi, htk, Tt, k4, k4']
structure MajY (s : List UInt8) (k : Nat) (m : Mem) (n : Nat) (i : Nat) (σ : Nat → D) (m2 : Mem) (n2 : Nat) : Prop where
  h0 : σ 0 = .ptr k 0 0 0
  h5 : σ 5 = S s
  ex : ∃ (ok : Bool) (v : Int), σ 3 = Tt ok ∧ σ 4 = I v ∧ σ 6 = I i ∧ i ≤ s.length ∧ (ok = true → (s.take i).all isDigit = true ∧ v = decF (s.take i) ∧ s.head? ≠ some 48 ∧ 1 ≤ s.length ∧ s.length ≤ 9) ∧ (ok = false → numOk s = false)
  mm : m2 = m
  nn : n2 = n
def numV (l : List Tok) (p : PS) : Int := if isNum l p then decF (curT l p) else 0
set_option maxHeartbeats 4000000 in
theorem cYNum {l : List Tok} (hl : TkOk l) {p : PS} {k : Nat} {m : Mem} {n : Nat} (hm : m k = some (yObj l p)) :
    ACalls Tryz.prog 143 [.ptr k 0 0 0] m n (fun d m' n' => d = I (numV l p) ∧ m' = m.set k (yObj l (numS l p)) ∧ n' = n) := by
  have badc : isNum l p = false → numV l p = 0 ∧ numS l p = failS 2 p := fun h => by simp [numV, numS, takeF, h]
  refine acalls_vc [0, 2, 3, 4, 5, 6, 11, 36, 67, 89] Tryz.func143 Tryz.ntmps143 (by kernel_rfl) rfl rfl (by simp) ?_
  by_cases hb : p.bad = 0
  case neg =>
    have hb' : ((p.bad : Int) != 0) = true := by simp; omega
    obtain ⟨e1, e2⟩ := badc (isNum_bad hb)
    rw [e1, e2, failS_bad hb]
    simp -dsimp [I, S, hm, yObj, yC, hb, hb']
    exact (set_self hm).symm
  have hmx : m k = some ⟨3, [[toksD l, .v (.int .i64 p.at_), .v (.int .i64 0)]], 0⟩ := by rw [hm, yObj_ok hb]
  by_cases ha : p.at_ < l.length
  case neg =>
    have ha' : ¬ (p.at_ : Int) < l.length := by omega
    obtain ⟨e1, e2⟩ := badc (by simp [isNum, cur, hb, ha])
    rw [e1, e2, yObj_fail hb (by omega)]
    simp -dsimp [I, S, hmx, toksD]
    refine vdraw_of [0, 1, 3, 7, 0, 16, 48, 112, 240, 511, 1023, 2047, 4095, 8191, 16383, 2047, 34815, 100351, 231423, 524287, 1048575, 2097151, 4194303, 8388607, 16777215] [0, 1, 2, 3, 4, 5, 6, 7, 8, 9, 10, 11, 12, 13, 14, 15, 16, 17, 18, 19, 20, 21, 22, 23, 24] (by kernel_rfl) (by kernel_rfl) ?_
    simp -dsimp [I, S, hmx, toksD, ha, ha']
  have ha' : (p.at_ : Int) < l.length := by omega
  have wa := wrap_at hl ha
  have hcur : cur l p = some l[p.at_] := by simp [cur, hb, ha]
  have hnum : isNum l p = (decide (l[p.at_].kind = 3) && numOk l[p.at_].text) := by simp [isNum, hcur]
  have hcT : curT l p = l[p.at_].text := by simp [curT, hcur]
  have hlen : l[p.at_].text.length ≤ 1000000 := hl.txt _ (List.getElem_mem ha)
  have hg : (l.map tokD)[p.at_]? = some (tokD l[p.at_]) := by simp [ha]
  have hll : (l.map tokD).length = l.length := by simp
  have htk : tokD l[p.at_] = [I l[p.at_].kind, I l[p.at_].at_, S l[p.at_].text] := rfl
  have hT : toksD l = .sl 3 (l.map tokD) := rfl
  generalize hL : l.map tokD = L at hg hll hT
  have hgi : L[p.at_]'(by omega) = tokD l[p.at_] := get_opt hg _
  clear hcur
  generalize l[p.at_] = t at *
  obtain ⟨kd, a, tx⟩ := t
  simp only at htk hgi hnum hcT hlen
  simp -dsimp [I, hmx, hT, hll]
  refine vdraw_of [0, 1, 3, 7, 0, 16, 48, 112, 240, 511, 1023, 2047, 4095, 8191, 16383, 2047, 34815, 100351, 231423, 524287, 1048575, 2097151, 4194303, 8388607, 16777215] [0, 1, 2, 3, 4, 5, 6, 7, 8, 9, 10, 11, 12, 13, 14, 15, 16, 17, 18, 19, 20, 21, 22, 23, 24] (by kernel_rfl) (by kernel_rfl) ?_
  by_cases k3 : kd = 3
  case neg =>
    have k3' : (kd == 3) = false := by simp [k3]
    obtain ⟨e1, e2⟩ := badc (by rw [hnum]; simp [k3])
    rw [e1, e2, yObj_fail hb (by omega)]
    simp -dsimp [I, hmx, hT, hll, ha, ha', hgi, htk, k3, k3', Tt]
  have hn3 : isNum l p = numOk tx := by rw [hnum]; simp [k3]
  subst k3
  simp -dsimp [I, hmx, hT, hll, ha, ha', hgi, htk, Tt]
  refine vdraw_of [0, 1, 3, 7, 0, 16, 48, 112, 255, 511, 1023, 2047] [0, 1, 2, 3, 4, 5, 6, 7, 8, 9, 10, 11] (by kernel_rfl) (by kernel_rfl) ?_
  simp -dsimp [I, hmx, hT, hll, ha, ha', hgi, htk, Tt]
  have start : ∀ (ok : Bool), (ok = true → tx.head? ≠ some 48 ∧ 1 ≤ tx.length ∧ tx.length ≤ 9) → (ok = false → numOk tx = false) → ∀ σ : Nat → D, σ 0 = .ptr k 0 0 0 → σ 5 = S tx → σ 3 = Tt ok → σ 4 = I 0 → σ 6 = I 0 → MajY tx k m n 0 σ m n := by
    intro ok h1 h2 σ a0 a5 a3 a4 a6
    exact ⟨a0, a5, ⟨ok, 0, a3, a4, a6, by omega, fun h => ⟨rfl, rfl, h1 h⟩, h2⟩, rfl, rfl⟩
  clear htk hgi hg
  by_cases l9 : (tx.length : Int) ≤ 9
  case' neg =>
    have l9' : ¬ tx.length ≤ 9 := by omega
    simp -dsimp [S, l9, l9']
    refine vloop_of (β := Nat) (MajY tx k m n) (fun i => tx.length - i) 0 (start false (by simp) (fun _ => by simp [numOk, l9']) _ (by simp) (by simp [S]) (by simp [Tt]) (by simp [I]) (by simp [I])) ?_
  case' pos =>
    have l9' : tx.length ≤ 9 := by omega
    by_cases l1 : 1 ≤ (tx.length : Int)
    case' neg =>
      have l1' : ¬ 1 ≤ tx.length := by omega
      simp -dsimp [S, l9, l9', l1, l1']
      refine vloop_of (β := Nat) (MajY tx k m n) (fun i => tx.length - i) 0 (start false (by simp) (fun _ => by simp [numOk, l1']) _ (by simp) (by simp [S]) (by simp [Tt]) (by simp [I]) (by simp [I])) ?_
    case' pos =>
      have l1' : 1 ≤ tx.length := by omega
      have l0 : 0 < tx.length := by omega
      have hhd : tx.head? = some tx[0] := by cases tx with | nil => simp at l1' | cons a b => rfl
      by_cases u3 : tx[0].toNat = 48
      case' pos =>
        have hy : tx[0] = 48 := UInt8.toNat_inj.1 u3
        have hno : numOk tx = false := by simp [numOk, hhd, hy]
        simp -dsimp [S, l9, l9', l1, l1', l0, u3]
        refine vloop_of (β := Nat) (MajY tx k m n) (fun i => tx.length - i) 0 (start false (by simp) (fun _ => hno) _ (by simp) (by simp [S]) (by simp [Tt]) (by simp [I]) (by simp [I])) ?_
      case' neg =>
        have u3' : ((tx[0].toNat : Int) != 48) = true := by simp; omega
        have hy : tx.head? ≠ some 48 := by rw [hhd]; intro e; exact u3 (by rw [Option.some.inj e]; rfl)
        simp -dsimp [S, l9, l9', l1, l1', l0, u3, u3']
        refine vloop_of (β := Nat) (MajY tx k m n) (fun i => tx.length - i) 0 (start true (fun _ => ⟨hy, l1', l9'⟩) (by simp) _ (by simp) (by simp [S]) (by simp [Tt]) (by simp [I]) (by simp [I])) ?_
  all_goals
    rintro i σ m2 n2 ⟨h0, h5, ⟨ok, v, h3, h4, h6, le, hok, hno⟩, rfl, rfl⟩
    have wi : IntKind.i64.wrap ((i : Int) + 1) = (i : Int) + 1 := wrap_i64 (by omega) (by omega)
    cases ok
    · have hf : isNum l p = false := by rw [hn3]; exact hno rfl
      obtain ⟨e1, e2⟩ := badc hf
      rw [e1, e2, yObj_fail hb (by omega)]
      by_cases hi : i < tx.length
      · have hi2 : (i : Int) < tx.length := by omega
        simp -dsimp [h0, h3, h4, h5, h6, S, I, Tt, hi, hi2, hmx]
      · have hi2 : ¬ (i : Int) < tx.length := by omega
        simp -dsimp [h0, h3, h4, h5, h6, S, I, Tt, hi, hi2, hmx]
    obtain ⟨hall, hv, hhd, q1, q9⟩ := hok rfl
    by_cases hi : i < tx.length
    · have hi2 : (i : Int) < tx.length := by omega
      have hsm := decF_small hall (by simp; omega)
      have hxlt := tx[i].toNat_lt
      have htk : tx.take (i + 1) = tx.take i ++ [tx[i]] := List.take_succ_eq_append_getElem hi
      have w1 : IntKind.i64.wrap (10 * v) = 10 * v := wrap_i64 (by omega) (by omega)
      have w2 : IntKind.i64.wrap (10 * v + (tx[i].toNat : Int)) = 10 * v + tx[i].toNat := wrap_i64 (by omega) (by omega)
      have w3 : IntKind.i64.wrap (10 * v + (tx[i].toNat : Int) - 48) = 10 * v + tx[i].toNat - 48 := wrap_i64 (by omega) (by omega)
      have nxt : ∀ (ok' : Bool) (σ' : Nat → D), σ' 0 = .ptr k 0 0 0 → σ' 5 = S tx → σ' 3 = Tt ok' → σ' 4 = I (10 * v + tx[i].toNat - 48) → σ' 6 = I ((i : Int) + 1) → ok' = isDigit tx[i] →
          ∃ b', tx.length - b' < tx.length - i ∧ MajY tx k m2 n2 b' σ' m2 n2 := by
        intro ok' σ' a0 a5 a3 a4 a6 ho
        refine ⟨i + 1, by omega, a0, a5, ⟨ok', _, a3, a4, by rw [a6]; simp [I], by omega, fun h => ?_, fun h => ?_⟩, rfl, rfl⟩
        · rw [ho] at h
          have hx : 48 ≤ tx[i].toNat := by have := h; simp [isDigit] at this; omega
          exact ⟨by rw [htk, List.all_append, hall]; simp [h], by rw [htk, decF_snoc]; omega, hhd, q1, q9⟩
        · rw [ho] at h
          have : tx.all isDigit = false := by
            cases e : tx.all isDigit
            · rfl
            · have := List.all_eq_true.1 e tx[i] (List.getElem_mem hi); rw [h] at this; cases this
          simp [numOk, this]
      by_cases c1 : 48 ≤ (tx[i].toNat : Int)
      case neg =>
        simp -dsimp [h0, h3, h4, h5, h6, S, I, Tt, hi, hi2, c1, w1, w2, w3, wi]
        exact nxt false _ (by simp) (by simp [S]) (by simp [Tt]) (by simp [I]) (by simp [I]) (by simp [isDigit]; omega)
      by_cases c2 : (tx[i].toNat : Int) ≤ 57
      case neg =>
        simp -dsimp [h0, h3, h4, h5, h6, S, I, Tt, hi, hi2, c1, c2, w1, w2, w3, wi]
        exact nxt false _ (by simp) (by simp [S]) (by simp [Tt]) (by simp [I]) (by simp [I]) (by simp [isDigit]; omega)
      simp -dsimp [h0, h3, h4, h5, h6, S, I, Tt, hi, hi2, c1, c2, w1, w2, w3, wi]
      exact nxt true _ (by simp) (by simp [S]) (by simp [Tt]) (by simp [I]) (by simp [I]) (by simp [isDigit]; omega)
    · have hi2 : ¬ (i : Int) < tx.length := by omega
      have hil : i = tx.length := by omega
      rw [hil, List.take_length] at hall hv
      have hnt : isNum l p = true := by
        rw [hn3]; simp only [numOk, hall, Bool.and_true, Bool.and_eq_true, decide_eq_true_eq]
        exact ⟨⟨q1, q9⟩, hhd⟩
      have hnf : numV l p = decF tx := by simp [numV, hnt, hcT]
      have hns : numS l p = stepF p := by simp [numS, takeF, hnt]
      rw [hnf, hns, yObj_step hb]
      simp -dsimp [h0, h3, h4, h5, h6, S, I, Tt, hi, hi2, hmx, wa, hv]
end Go.Proofs.Mv.App
open Go Go.Proofs Go.Proofs.Mv.V
set_option maxRecDepth 10000
namespace Go.Proofs.Mv.App
theorem pur_yObj (l : List Tok) (p : PS) : ∀ e ∈ (yObj l p).es, ∀ d ∈ e, Pur d := by
  intro e he d hd
  simp only [yObj, List.mem_singleton] at he
  subst he
  simp only [yC, List.mem_cons, List.not_mem_nil, or_false] at hd
  rcases hd with rfl | rfl | rfl
  · exact pur_toks _
  · exact pur_I _
  · exact pur_I _
set_option maxHeartbeats 1000000 in
theorem cYType {l : List Tok} (hl : TkOk l) {p : PS} {k : Nat} {m : Mem} {n : Nat} (hk : k < n) (hm : m k = some (yObj l p)) :
    ACalls Tryz.prog 144 [.ptr k 0 0 0] m n (fun d m' n' => d = .agg (tyD (typS l p).1) ∧ m' = m.set k (yObj l (typS l p).2) ∧ n' = n) := by
  have kn : k ≠ n := by omega
  have nk : n ≠ k := by omega
  have kn1 : k ≠ n + 1 := by omega
  have n1k : n + 1 ≠ k := by omega
  have nn1 : n ≠ n + 1 := by omega
  have n1n : n + 1 ≠ n := by omega
  refine acalls_put (X := fun d => d = .agg (tyD (typS l p).1)) (R' := Hq (fun d m' n' => PubAs n m' d (.agg (tyD (typS l p).1)) ∧ m' k = some (yObj l (typS l p).2) ∧ ∀ j, j < n → j ≠ k → m' j = m j) tg) k hk _ ?_ ?_
  · refine acalls_vcC [0, 2, 3, 4, 5, 6, 11, 28] Tryz.func144 Tryz.ntmps144 (by kernel_rfl) rfl rfl (by simp) ?_
    by_cases hb : p.bad = 0
    case neg =>
      have hb' : ((p.bad : Int) != 0) = true := by simp; omega
      have e : typS l p = (Ty0, p) := by rw [typS, if_neg hb]
      rw [e]
      simp -dsimp [hm, yObj, yC, hb, hb', I, set_ne, kn, nk]
      refine hq ⟨by simpa [I, S] using pub_ty0, by simp [hm, set_ne, kn, yObj, yC, I], fun j hj hjk => by rw [set_ne _ _ _ _ (by omega)]⟩
    have hmx : m k = some ⟨3, [[toksD l, .v (.int .i64 p.at_), .v (.int .i64 0)]], 0⟩ := by rw [hm, yObj_ok hb]
    have e : typS l p = match (atF l p.at_).2.2 with
      | some (a, c) => (Ty0, ⟨0, a.toNat, c⟩)
      | none => ((atF l p.at_).1, ⟨(atF l p.at_).2.1, p.cnt, 0⟩) := by rw [typS, if_pos hb]; rfl
    rw [e]
    simp -dsimp [hmx, set_ne, kn, nk]
    refine vdraw_tree [0, 1, 3, 7, 0, 16, 48, 112, 255, 511, 1023, 1023, 1023, 1023, 0, 18431, 53247, 122879, 262143] (.rd 0 (.rd 1 (.rd 2 (.rd 3 (.rd 4 (.rd 5 (.rd 6 (.rd 7 (.wr (.cons 8 (.rd 9 (.rd 10 (.rd 11 (.rd 12 (.rd 13 (.wr (.cons 14 (.wr (.cons 15 (.rd 16 (.rd 17 (.rd 18 (.fin)))) (.nil))) (.nil)))))))) (.cons 14 (.wr (.cons 8 (.rd 9 (.rd 10 (.rd 11 (.rd 12 (.rd 13 (.wr (.cons 15 (.rd 16 (.rd 17 (.rd 18 (.fin)))) (.nil)))))))) (.nil))) (.nil)))))))))))) (by kernel_rfl) (by kernel_rfl) ?_
    simp -dsimp [hmx, set_ne, kn, nk]
    have hab := fun a c => atF_bad (l := l) (i := p.at_) (a := a) (c := c)
    have hnn := fun a c => atF_nn (l := l) (q := p.at_) (a := a) (c := c)
    have hat := fun m n => cRefAt hl (p.at_ : Int) m n
    generalize atF l p.at_ = A at hab hnn hat ⊢
    simp only [I] at hat
    refine ⟨?_, ?_⟩
    · refine aCall_of (hat _ _) ?_
      rintro d m' n' ⟨rfl, rfl, rfl⟩
      obtain ⟨t, nx, o⟩ := A
      cases o with
      | none =>
        simp -dsimp [hmx, set_ne, kn, nk, kn1, n1k, nn1, n1n, I, badO, placeO]
        refine hq ⟨(pur_tyA _).pub, by simp [hmx, set_ne, kn, nk, kn1, n1k, nn1, n1n, I, badO, placeO, yObj, yC, plc], fun j hj hjk => ?_⟩
        have j1 : j ≠ n := by omega
        have j2 : j ≠ n + 1 := by omega
        simp [set_ne, hjk, j1, j2]
      | some x =>
        obtain ⟨a, c⟩ := x
        obtain ⟨hc, ht, hnx⟩ := hab a c rfl
        have h0 := hnn a c rfl
        simp only at ht hnx
        subst ht; subst hnx
        have hc' : ((c : Int) != 0) = true := by simp; omega
        simp -dsimp [hmx, set_ne, kn, nk, kn1, n1k, nn1, n1n, I, badO, placeO, hc, hc']
        refine hq ⟨by simpa [I, S] using pub_ty0, by simp [hmx, set_ne, kn, nk, kn1, n1k, nn1, n1n, I, badO, placeO, hc, yObj, yC, plc, Int.toNat_of_nonneg h0], fun j hj hjk => ?_⟩
        have j1 : j ≠ n := by omega
        have j2 : j ≠ n + 1 := by omega
        simp [set_ne, hjk, j1, j2]
    · simp -dsimp [hmx, set_ne, kn, nk, kn1, n1k, nn1, n1n, I, badO, placeO]
      refine aCall_of (hat _ _) ?_
      rintro d m' n' ⟨rfl, rfl, rfl⟩
      obtain ⟨t, nx, o⟩ := A
      cases o with
      | none =>
        simp -dsimp [hmx, set_ne, kn, nk, kn1, n1k, nn1, n1n, I, badO, placeO]
        refine hq ⟨(pur_tyA _).pub, by simp [hmx, set_ne, kn, nk, kn1, n1k, nn1, n1n, I, badO, placeO, yObj, yC, plc], fun j hj hjk => ?_⟩
        have j1 : j ≠ n := by omega
        have j2 : j ≠ n + 1 := by omega
        simp [set_ne, hjk, j1, j2]
      | some x =>
        obtain ⟨a, c⟩ := x
        obtain ⟨hc, ht, hnx⟩ := hab a c rfl
        have h0 := hnn a c rfl
        simp only at ht hnx
        subst ht; subst hnx
        have hc' : ((c : Int) != 0) = true := by simp; omega
        simp -dsimp [hmx, set_ne, kn, nk, kn1, n1k, nn1, n1n, I, badO, placeO, hc, hc']
        refine hq ⟨by simpa [I, S] using pub_ty0, by simp [hmx, set_ne, kn, nk, kn1, n1k, nn1, n1n, I, badO, placeO, hc, yObj, yC, plc, Int.toNat_of_nonneg h0], fun j hj hjk => ?_⟩
        have j1 : j ≠ n := by omega
        have j2 : j ≠ n + 1 := by omega
        simp [set_ne, hjk, j1, j2]
  · rintro d m' n' ⟨h1, h3, h4⟩
    exact ⟨.agg (tyD (typS l p).1), _, h1, h3, .pur (pur_yObj _ _), h4, rfl⟩
theorem wF_nam (l : List Tok) (p : PS) : wF 1 1 [] l p = isNam false l p := by
  unfold wF isNam; cases cur l p <;> simp [wfine, namOk]
theorem wF_gre (l : List Tok) (p : PS) : wF 2 2 [] l p = isNam true l p := by
  unfold wF isNam; cases cur l p <;> simp [wfine, namOk]
theorem wF_key (s : List UInt8) (l : List Tok) (p : PS) : wF 1 0 s l p = isKey s l p := by
  unfold wF isKey; cases cur l p <;> simp [wfine]
theorem wF_sig (s : List UInt8) (l : List Tok) (p : PS) : wF 4 0 s l p = isSig s l p := by
  unfold wF isSig; cases cur l p <;> simp [wfine]
theorem cYW (g : Bool) {l : List Tok} (hl : TkOk l) {p : PS} {k : Nat} {m : Mem} {n : Nat} (hm : m k = some (yObj l p)) :
    ACalls Tryz.prog 67 [.ptr k 0 0 0, I (if g then 2 else 1), I (if g then 2 else 1), S []] m n (fun d m' n' => d = S (nameS g l p).1 ∧ m' = m.set k (yObj l (nameS g l p).2) ∧ n' = n) := by
  cases g
  · have := cYWord hl (p := p) 1 1 [] (by simp) hm (n := n)
    rw [wF_nam] at this; exact this
  · have := cYWord hl (p := p) 2 2 [] (by simp) hm (n := n)
    rw [wF_gre] at this; exact this
theorem cYWk (s : List UInt8) {l : List Tok} (hl : TkOk l) {p : PS} {k : Nat} {m : Mem} {n : Nat} (hm : m k = some (yObj l p)) :
    ACalls Tryz.prog 67 [.ptr k 0 0 0, I 1, I 0, S s] m n (fun d m' n' => d = S (takeF (isKey s l p) l p).1 ∧ m' = m.set k (yObj l (takeF (isKey s l p) l p).2) ∧ n' = n) := by
  have := cYWord hl (p := p) 1 0 s (by simp) hm (n := n)
  rw [wF_key] at this; exact this
theorem cYWs (s : List UInt8) {l : List Tok} (hl : TkOk l) {p : PS} {k : Nat} {m : Mem} {n : Nat} (hm : m k = some (yObj l p)) :
    ACalls Tryz.prog 67 [.ptr k 0 0 0, I 4, I 0, S s] m n (fun d m' n' => d = S (takeF (isSig s l p) l p).1 ∧ m' = m.set k (yObj l (mustS s l p)) ∧ n' = n) := by
  have := cYWord hl (p := p) 4 0 s (by simp) hm (n := n)
  rw [wF_sig] at this; exact this
def impR (l : List Tok) (q : PS) : Imp := ⟨(imp1 l q).1, numV l (imp1 l q).2, (imp3 l q).1, (imp5 l q).1⟩
theorem impR_ok {l : List Tok} {q : PS} (h : (impF l q).2.bad = 0) : impR l q = (impF l q).1 := by
  simp [impR, impF, numV, (impF_ok h).1]
set_option maxHeartbeats 1000000 in
theorem cYImpR {l : List Tok} (hl : TkOk l) {p : PS} (hb : p.bad = 0) (ha : p.at_ < l.length) {k : Nat} {m : Mem} {n : Nat} (hk : k < n) (hm : m k = some (yObj l p)) :
    ACalls Tryz.prog 69 [.ptr k 0 0 0] m n (fun d m' n' => d = .agg (impD (impR l (stepF p))) ∧ m' = m.set k (yObj l (impF l (stepF p)).2) ∧ n' = n) := by
  have kn : k ≠ n := by omega
  have nk : n ≠ k := by omega
  have kn1 : k ≠ n + 1 := by omega
  have n1k : n + 1 ≠ k := by omega
  have nn1 : n ≠ n + 1 := by omega
  have n1n : n + 1 ≠ n := by omega
  have hmx : m k = some ⟨3, [[toksD l, .v (.int .i64 p.at_), .v (.int .i64 0)]], 0⟩ := by rw [hm, yObj_ok hb]
  have wa := wrap_at hl ha
  have hst := yObj_step (l := l) hb
  refine acalls_fin (X := fun d => d = .agg (impD (impR l (stepF p)))) hk (pur_yObj _ _) (fun d h => by rw [h]; exact pur_imp _) ?_
  refine acalls_vcC [0, 2, 3] Tryz.func69 Tryz.ntmps69 (by kernel_rfl) rfl rfl (by simp) ?_
  simp -dsimp [hmx, wa, set_ne, kn, nk]
  rw [← hst]
  generalize stepF p = q
  refine aCall_of (cYW false hl (p := q) (by simp [set_ne, kn, kn1])) ?_
  rintro d m2 n2 ⟨rfl, rfl, rfl⟩
  have e1 : nameS false l q = imp1 l q := rfl
  rw [e1]
  simp -dsimp [I, S, set_ne, kn, nk, kn1, n1k, nn1, n1n]
  refine aCall_of (cYNum hl (p := (imp1 l q).2) (by simp [set_ne, kn, kn1])) ?_
  rintro d m2 n2 ⟨rfl, rfl, rfl⟩
  have e2 : numS l (imp1 l q).2 = imp2 l q := rfl
  rw [e2]
  simp -dsimp [I, S, set_ne, kn, nk, kn1, n1k, nn1, n1n]
  refine aCall_of (cYW false hl (p := imp2 l q) (by simp [set_ne, kn, kn1])) ?_
  rintro d m2 n2 ⟨rfl, rfl, rfl⟩
  have e3 : nameS false l (imp2 l q) = imp3 l q := rfl
  rw [e3]
  simp -dsimp [I, S, set_ne, kn, nk, kn1, n1k, nn1, n1n]
  refine aCall_of (cYWk wAs hl (p := (imp3 l q).2) (by simp [set_ne, kn, kn1])) ?_
  rintro d m2 n2 ⟨rfl, rfl, rfl⟩
  have e4 : (takeF (isKey wAs l (imp3 l q).2) l (imp3 l q).2).2 = imp4 l q := rfl
  rw [e4]
  simp -dsimp [I, S, set_ne, kn, nk, kn1, n1k, nn1, n1n]
  refine aCall_of (cYW false hl (p := imp4 l q) (by simp [set_ne, kn, kn1])) ?_
  rintro d m2 n2 ⟨rfl, rfl, rfl⟩
  have e5 : nameS false l (imp4 l q) = imp5 l q := rfl
  rw [e5]
  simp -dsimp [I, S, set_ne, kn, nk, kn1, n1k, nn1, n1n]
  refine fin_mk rfl (by simp [set_ne, kn, kn1, impF]) fun j hj hjk => ?_
  have j1 : j ≠ n := by omega
  have j2 : j ≠ n + 1 := by omega
  simp [set_ne, hjk, j1, j2]
end Go.Proofs.Mv.App
open Go Go.Proofs Go.Proofs.Mv.V
set_option maxRecDepth 10000
namespace Go.Proofs.Mv.App
set_option maxHeartbeats 4000000 in
theorem cYDeclR {l : List Tok} (hl : TkOk l) {p : PS} (hb : p.bad = 0) (ha : p.at_ < l.length) {k : Nat} {m : Mem} {n : Nat} (hk : k < n) (hm : m k = some (yObj l p)) :
    ACalls Tryz.prog 71 [.ptr k 0 0 0] m n (fun d m' n' => d = .agg (dclD (declF l p).1) ∧ m' = m.set k (yObj l (declF l p).2) ∧ n' = n) := by
  have kn : k ≠ n := by omega
  have nk : n ≠ k := by omega
  have kn1 : k ≠ n + 1 := by omega
  have n1k : n + 1 ≠ k := by omega
  have nn1 : n ≠ n + 1 := by omega
  have n1n : n + 1 ≠ n := by omega
  have hmx : m k = some ⟨3, [[toksD l, .v (.int .i64 p.at_), .v (.int .i64 0)]], 0⟩ := by rw [hm, yObj_ok hb]
  have wa := wrap_at hl ha
  have hst := yObj_step (l := l) hb
  have fr1 : ∀ (j : Nat), j < n → j ≠ n := fun j hj => by omega
  have fr2 : ∀ (j : Nat), j < n → j ≠ n + 1 := fun j hj => by omega
  have hdl : ∀ t : Ty, (tyD t).length = 7 := tyD_len
  have ha' : (p.at_ : Int) < l.length := by omega
  have hcur : cur l p = some l[p.at_] := by simp [cur, hb, ha]
  have htx : curT l p = l[p.at_].text := by simp [curT, hcur]
  refine acalls_put (X := fun d => d = .agg (dclD (declF l p).1)) (R' := Hq (fun d m' n' => PubAs n m' d (.agg (dclD (declF l p).1)) ∧ m' k = some (yObj l (declF l p).2) ∧ ∀ j, j < n → j ≠ k → m' j = m j) tg) k hk _ ?_ ?_
  · have hg : (l.map tokD)[p.at_]? = some (tokD l[p.at_]) := by simp [ha]
    have hll : (l.map tokD).length = l.length := by simp
    have htk : tokD l[p.at_] = [I l[p.at_].kind, I l[p.at_].at_, S l[p.at_].text] := rfl
    have hT : toksD l = .sl 3 (l.map tokD) := rfl
    generalize hL : l.map tokD = L at hg hll hT
    have hgi : L[p.at_]'(by omega) = tokD l[p.at_] := get_opt hg _
    clear hcur
    generalize l[p.at_] = t at *
    obtain ⟨kd, a, tx⟩ := t
    simp only at htk hgi htx
    refine acalls_vcC [0, 2, 3, 4, 23, 33, 39, 45] Tryz.func71 Tryz.ntmps71 (by kernel_rfl) rfl rfl (by simp) ?_
    simp -dsimp [I, S, hmx, set_ne, kn, nk, -vc_block]
    refine vdraw_of [0, 1, 3, 7, 0, 16, 48, 112, 255, 511, 1023, 2047] [0, 1, 2, 3, 4, 5, 6, 7, 8, 9, 10, 11] (by kernel_rfl) (by kernel_rfl) ?_
    simp -dsimp [I, S, hmx, set_ne, kn, nk, hT, hll, ha, ha', hgi, htk, wa, -vc_block]
    rw [← hT, ← hst]
    rw [vc_block]
    by_cases q1 : tx = wOpa
    · have f1 : (tx == [111, 112, 97, 113, 117, 101]) = true := by simp [q1, wOpa]
      have e : declF l p = dclN 1 l (stepF p) := by rw [declF, if_pos (by rw [htx, q1])]
      rw [e]
      simp -dsimp [f1, I, S, set_ne, kn, nk, kn1, n1k, nn1, n1n]
      refine aCall_of (cYW true hl (p := stepF p) (by simp [set_ne, kn, kn1])) ?_
      rintro d m2 n2 ⟨rfl, rfl, rfl⟩
      simp -dsimp [I, S, set_ne, kn, nk, kn1, n1k, nn1, n1n]
      exact hq ⟨pub_decl 1 _, by simp [set_ne, kn, kn1, dclN], fun j hj hjk => by simp [set_ne, hjk, fr1 j hj, fr2 j hj]⟩
    have f1 : (tx == [111, 112, 97, 113, 117, 101]) = false := by simpa [wOpa] using q1
    by_cases q2 : tx = wHid
    · have f2 : (tx == [104, 105, 100, 100, 101, 110]) = true := by simp [q2, wHid]
      have e : declF l p = dclN 2 l (stepF p) := by rw [declF, if_neg (by rw [htx]; exact q1), if_pos (by rw [htx, q2])]
      rw [e]
      simp -dsimp [f1, f2, I, S, set_ne, kn, nk, kn1, n1k, nn1, n1n]
      refine aCall_of (cYW true hl (p := stepF p) (by simp [set_ne, kn, kn1])) ?_
      rintro d m2 n2 ⟨rfl, rfl, rfl⟩
      simp -dsimp [I, S, set_ne, kn, nk, kn1, n1k, nn1, n1n]
      exact hq ⟨pub_decl 2 _, by simp [set_ne, kn, kn1, dclN], fun j hj hjk => by simp [set_ne, hjk, fr1 j hj, fr2 j hj]⟩
    have f2 : (tx == [104, 105, 100, 100, 101, 110]) = false := by simpa [wHid] using q2
    by_cases q3 : tx = wAli
    · have f3 : (tx == [97, 108, 105, 97, 115]) = true := by simp [q3, wAli]
      have e : declF l p = dclT 3 true [61] l (stepF p) := by rw [declF, if_neg (by rw [htx]; exact q1), if_neg (by rw [htx]; exact q2), if_pos (by rw [htx, q3])]
      rw [e]
      simp -dsimp [f1, f2, f3, I, S, set_ne, kn, nk, kn1, n1k, nn1, n1n]
      refine aCall_of (cYW true hl (p := stepF p) (by simp [set_ne, kn, kn1])) ?_
      rintro d m2 n2 ⟨rfl, rfl, rfl⟩
      simp -dsimp [I, S, set_ne, kn, nk, kn1, n1k, nn1, n1n]
      refine aCall_of (cYWs [61] hl (p := (nameS true l (stepF p)).2) (by simp [set_ne, kn, kn1])) ?_
      rintro d m2 n2 ⟨rfl, rfl, rfl⟩
      simp -dsimp [I, S, set_ne, kn, nk, kn1, n1k, nn1, n1n]
      refine aCall_of (cYType hl (p := mustS [61] l (nameS true l (stepF p)).2) (by omega) (by simp [set_ne, kn, kn1])) ?_
      rintro d m2 n2 ⟨rfl, rfl, rfl⟩
      simp -dsimp [I, S, set_ne, kn, nk, kn1, n1k, nn1, n1n, hdl]
      exact hq ⟨(Pur.agg (pur_dcl ⟨3, _, _⟩)).pub, by simp [set_ne, kn, kn1, dclT], fun j hj hjk => by simp [set_ne, hjk, fr1 j hj, fr2 j hj]⟩
    have f3 : (tx == [97, 108, 105, 97, 115]) = false := by simpa [wAli] using q3
    have e : declF l p = dclT 4 false [58] l (stepF p) := by rw [declF, if_neg (by rw [htx]; exact q1), if_neg (by rw [htx]; exact q2), if_neg (by rw [htx]; exact q3)]
    rw [e]
    simp -dsimp [f1, f2, f3, I, S, set_ne, kn, nk, kn1, n1k, nn1, n1n]
    refine aCall_of (cYW false hl (p := stepF p) (by simp [set_ne, kn, kn1])) ?_
    rintro d m2 n2 ⟨rfl, rfl, rfl⟩
    simp -dsimp [I, S, set_ne, kn, nk, kn1, n1k, nn1, n1n]
    refine aCall_of (cYWs [58] hl (p := (nameS false l (stepF p)).2) (by simp [set_ne, kn, kn1])) ?_
    rintro d m2 n2 ⟨rfl, rfl, rfl⟩
    simp -dsimp [I, S, set_ne, kn, nk, kn1, n1k, nn1, n1n]
    refine aCall_of (cYType hl (p := mustS [58] l (nameS false l (stepF p)).2) (by omega) (by simp [set_ne, kn, kn1])) ?_
    rintro d m2 n2 ⟨rfl, rfl, rfl⟩
    simp -dsimp [I, S, set_ne, kn, nk, kn1, n1k, nn1, n1n, hdl]
    exact hq ⟨(Pur.agg (pur_dcl ⟨4, _, _⟩)).pub, by simp [set_ne, kn, kn1, dclT], fun j hj hjk => by simp [set_ne, hjk, fr1 j hj, fr2 j hj]⟩
  · rintro d m' n' ⟨h1, h3, h4⟩
    exact ⟨.agg (dclD (declF l p).1), _, h1, h3, .pur (pur_yObj _ _), h4, rfl⟩
theorem cYKeyR {l : List Tok} {p : PS} {k : Nat} {m : Mem} {n : Nat} (hm : m k = some (yObj l p)) :
    ACalls Tryz.prog 70 [.ptr k 0 0 0] m n (fun d m' n' => d = Tt (isDecl l p) ∧ m' = m ∧ n' = n) := by
  refine acalls_vc [0, 2, 3, 4, 5, 6] Tryz.func70 Tryz.ntmps70 (by kernel_rfl) rfl rfl (by simp) ?_
  simp -dsimp
  refine aCall_of (cYKey wOpa hm) ?_
  rintro d m2 n2 ⟨rfl, rfl, rfl⟩
  simp -dsimp
  refine aCall_of (cYKey wHid hm) ?_
  rintro d m2 n2 ⟨rfl, rfl, rfl⟩
  simp -dsimp
  refine aCall_of (cYKey wAli hm) ?_
  rintro d m2 n2 ⟨rfl, rfl, rfl⟩
  simp -dsimp
  refine aCall_of (cYKey wVal hm) ?_
  rintro d m2 n2 ⟨rfl, rfl, rfl⟩
  unfold isDecl
  cases isKey wOpa l p <;> cases isKey wHid l p <;> cases isKey wAli l p <;> cases isKey wVal l p <;> simp -dsimp [Tt]
end Go.Proofs.Mv.App
open Go Go.Proofs Go.Proofs.Mv.V
set_option maxRecDepth 10000
namespace Go.Proofs.Mv.App
structure RImp (l : List Tok) (nm : List UInt8) (p1 : PS) (m : Mem) (n : Nat) (k : Nat) (σ : Nat → D) (m' : Mem) (n' : Nat) : Prop where
  h2 : σ 2 = .ptr n 0 0 0
  h4 : σ 5 = toksD l
  h6 : σ 7 = .ptr (n + 1) 0 0 0
  h7 : σ 8 = .ptr (n + 1 + 1) 0 0 0
  nn : n + 1 + 1 + 1 ≤ n'
  fr : ∀ j, j < n → m' j = m j
  m2 : m' n = some ⟨3, [[S [], .v (.slice none 0 0), .v (.slice none 0 0)]], 0⟩
  ex : ∃ acc acc0 p dI, k + acc.length = 21 ∧ acc.length ≤ 20 ∧ acc0.length = acc.length ∧ (p.bad = 0 → acc = acc0) ∧ impsF l 21 [] p1 = impsF l k acc0 p ∧ m' (n + 1) = some (yObj l p) ∧
    m' (n + 1 + 1) = some ⟨3, [[S nm, dI, .v (.slice none 0 0)]], 0⟩ ∧ Lst m' 4 (acc.map impD) dI ∧ ∀ j, kof dI = some j → n + 1 + 1 + 1 ≤ j ∧ j < n'
structure RMid (l : List Tok) (nm : List UInt8) (is : List Imp) (p : PS) (m : Mem) (n : Nat) (σ : Nat → D) (m' : Mem) (n' : Nat) : Prop where
  h2 : σ 2 = .ptr n 0 0 0
  h4 : σ 5 = toksD l
  h6 : σ 7 = .ptr (n + 1) 0 0 0
  h7 : σ 8 = .ptr (n + 1 + 1) 0 0 0
  nn : n + 1 + 1 + 1 ≤ n'
  fr : ∀ j, j < n → m' j = m j
  m2 : m' n = some ⟨3, [[S [], .v (.slice none 0 0), .v (.slice none 0 0)]], 0⟩
  mo : m' (n + 1) = some (yObj l p)
  ex : ∃ acc dI, (p.bad = 0 → acc = is) ∧ m' (n + 1 + 1) = some ⟨3, [[S nm, dI, .v (.slice none 0 0)]], 0⟩ ∧ Lst m' 4 (acc.map impD) dI ∧ ∀ j, kof dI = some j → n + 1 + 1 + 1 ≤ j ∧ j < n'
structure RDec (l : List Tok) (nm : List UInt8) (is : List Imp) (dI : D) (p1 : PS) (m : Mem) (n : Nat) (k : Nat) (σ : Nat → D) (m' : Mem) (n' : Nat) : Prop where
  h2 : σ 2 = .ptr n 0 0 0
  h4 : σ 5 = toksD l
  h6 : σ 7 = .ptr (n + 1) 0 0 0
  h7 : σ 8 = .ptr (n + 1 + 1) 0 0 0
  nn : n + 1 + 1 + 1 ≤ n'
  fr : ∀ j, j < n → m' j = m j
  m2 : m' n = some ⟨3, [[S [], .v (.slice none 0 0), .v (.slice none 0 0)]], 0⟩
  li : Lst m' 4 (is.map impD) dI
  ki : ∀ j, kof dI = some j → n + 1 + 1 + 1 ≤ j ∧ j < n'
  ex : ∃ acc p dD, k + acc.length = 61 ∧ acc.length ≤ 60 ∧ declsF l 61 [] p1 = declsF l k acc p ∧ m' (n + 1) = some (yObj l p) ∧
    m' (n + 1 + 1) = some ⟨3, [[S nm, dI, dD]], 0⟩ ∧ Lst m' 9 (acc.map dclD) dD ∧ ∀ j, kof dD = some j → n + 1 + 1 + 1 ≤ j ∧ j < n' ∧ kof dI ≠ some j
structure RMid2 (l : List Tok) (nm : List UInt8) (is : List Imp) (dI : D) (ds : List Dcl) (p : PS) (m : Mem) (n : Nat) (σ : Nat → D) (m' : Mem) (n' : Nat) : Prop where
  h2 : σ 2 = .ptr n 0 0 0
  h4 : σ 5 = toksD l
  h6 : σ 7 = .ptr (n + 1) 0 0 0
  h7 : σ 8 = .ptr (n + 1 + 1) 0 0 0
  nn : n + 1 + 1 + 1 ≤ n'
  fr : ∀ j, j < n → m' j = m j
  m2 : m' n = some ⟨3, [[S [], .v (.slice none 0 0), .v (.slice none 0 0)]], 0⟩
  li : Lst m' 4 (is.map impD) dI
  ki : ∀ j, kof dI = some j → n + 1 + 1 + 1 ≤ j ∧ j < n'
  mo : m' (n + 1) = some (yObj l p)
  ex : ∃ dD, m' (n + 1 + 1) = some ⟨3, [[S nm, dI, dD]], 0⟩ ∧ Lst m' 9 (ds.map dclD) dD ∧ ∀ j, kof dD = some j → n + 1 + 1 + 1 ≤ j ∧ j < n' ∧ kof dI ≠ some j
theorem endP_decls {l : List Tok} (h : (declsP l).2.bad ≠ 0) : endP l = (declsP l).2 := by
  unfold endP; split
  · exact failS_bad h
  · rfl
theorem declsP_imps {l : List Tok} (h : (impsP l).2.bad ≠ 0) : declsP l = ([], (impsP l).2) := by
  simp [declsP, declsF, isDecl, isKey_bad h]
theorem endP_imps {l : List Tok} (h : (impsP l).2.bad ≠ 0) : endP l = (impsP l).2 := by
  have e := declsP_imps h
  rw [endP_decls (by rw [e]; exact h), e]
set_option maxHeartbeats 4000000 in
theorem cYParseR (s : List UInt8) (hs : ¬ 20000 < s.length) (m : Mem) (n : Nat) : ACalls Tryz.prog 30 [S s] m n (fun d m' n' => d = .tup [.agg (mdD (modF s).1), I (badP (modF s).2), I (placeP (modF s).2)] ∧ m' = m ∧ n' = n) := by
  refine acalls_done (R' := Hq (fun d m' n' => (∃ dt, d = .tup [dt, I (badP (modF s).2), I (placeP (modF s).2)] ∧ PubAs n m' dt (.agg (mdD (modF s).1))) ∧ ∀ j, j < n → m' j = m j) tg) ?_ ?_
  · have nn1 : n ≠ n + 1 := by omega
    have n1n : n + 1 ≠ n := by omega
    have pub0 : ∀ m', PubAs n m' (.agg [.v (.string (ofL [])), .v (.slice none 0 0), .v (.slice none 0 0)]) (.agg (mdD Md0)) := fun m' => by
      simp only [mdD, Md0, List.map_nil]
      exact .agg (.cons (pur_S _).pub (.cons (pub_nil 4) (.cons (pub_nil 9) .nil)))
    refine acalls_vcC [0, 2, 3, 4, 5, 6, 7, 8, 15, 27, 31, 45, 49, 75, 83] Tryz.func30 Tryz.ntmps30 (by kernel_rfl) rfl rfl (by simp) ?_
    simp -dsimp
    refine aCall_of (cRefTokens s (by omega) _ _) ?_
    rintro d m' n' ⟨rfl, rfl, rfl⟩
    have hl := toks_tk (s := s) (by omega)
    have hp : modF s = (match (toksAt s 0).2 with
    | some a => (Md0, .spot a 2)
    | Option.none => if (endP (toksAt s 0).1).bad = 0 then (⟨(nameP (toksAt s 0).1).1, (impsP (toksAt s 0).1).1, (declsP (toksAt s 0).1).1⟩, .none)
      else (Md0, .spot (endP (toksAt s 0).1).cnt (endP (toksAt s 0).1).bad)) := by rw [modF, if_neg hs]; rfl
    rw [hp]
    generalize toksAt s 0 = T at hl ⊢
    obtain ⟨l, o⟩ := T
    cases o with
    | some a =>
      have ha : (0 : Int) ≤ a := by omega
      simp -dsimp [I, ha]
      refine hq ⟨⟨_, rfl, pub0 _⟩, fun j hj => ?_⟩
      have j1 : j ≠ n := by omega
      simp [set_ne, j1]
    | none =>
      simp only at hl ⊢
      have e0 : (⟨3, [[.sl 3 (l.map tokD), .v (.int .i64 0), .v (.int .i64 0)]], 0⟩ : V.Obj) = yObj l ⟨0, 0, 0⟩ := by simp [yObj, yC, plc, I, toksD]
      have nn2 : n ≠ n + 1 + 1 := by omega
      have n12 : n + 1 ≠ n + 1 + 1 := by omega
      have n21 : n + 1 + 1 ≠ n + 1 := by omega
      have n2n : n + 1 + 1 ≠ n := by omega
      simp -dsimp [I, S, -vc_block]
      rw [e0]
      refine aCall_of (cYWk wMod hl (p := ⟨0, 0, 0⟩) (by simp [set_ne, n12])) ?_
      rintro d m2 n2' ⟨rfl, rfl, rfl⟩
      have e1 : (takeF (isKey wMod l ⟨0, 0, 0⟩) l ⟨0, 0, 0⟩).2 = headP l := rfl
      rw [e1]
      simp -dsimp [I, S, -vc_block]
      refine aCall_of (cYW false hl (p := headP l) (by simp [set_ne, n12])) ?_
      rintro d m2 n2' ⟨rfl, rfl, rfl⟩
      have e2 : nameS false l (headP l) = nameP l := rfl
      rw [e2]
      simp -dsimp [-vc_block, I, S, set_ne, nn1, n1n, n12, n21]
      refine vc_mid (RMid l (nameP l).1 (impsP l).1 (impsP l).2 m n) ?_ ?_
      · rw [vc_block]
        simp -dsimp [-vc_block]
        refine vloop_of (β := Nat) (RImp l (nameP l).1 (nameP l).2 m n) (fun b => b) 21 ⟨by simp, by simp [toksD], by simp, by simp, by omega, fun j hj => ?_, ?_, [], [], (nameP l).2, .v (.slice none 0 0), rfl, by simp, rfl, fun _ => rfl, rfl, ?_, ?_, by simpa using Lst.nil, by simp⟩ ?_
        · have j1 : j ≠ n := by omega
          have j2 : j ≠ n + 1 := by omega
          have j3 : j ≠ n + 1 + 1 := by omega
          simp [set_ne, j1, j2, j3]
        · simp [set_ne, nn1, nn2, S, I]
        · simp [set_ne, n12, nn1]
        · simp [S, set_ne, n21]
        rintro rem σ m2 n2 ⟨g2, g4, g6, g7, nn, fr, m2n, acc, acc0, p, dI, hrem, hle, hlen, hacc, hmod, hmk, hm7, hL, hkk⟩
        have hlen2 := lenD_lst hL
        rw [List.length_map] at hlen2
        have hk2 : n + 1 < n2 := by omega
        simp -dsimp [-vc_block, g2, g4, g6, g7]
        refine aCall_of (cYKey (p := p) wImp hmk) ?_
        rintro d m3 n3 ⟨rfl, rfl, rfl⟩
        cases hkey : isKey wImp l p
        case false =>
          simp -dsimp [-vc_block, Tt]
          have hend : impsP l = (acc0, p) := by
            rw [impsP, hmod]; cases rem with
            | zero => rfl
            | succ r => simp [impsF, hkey]
          exact ⟨by simp [g2], by simp [g4], by simp [g6], by simp [g7], nn, fr, m2n, by rw [hend]; exact hmk, acc, dI, by rw [hend]; exact hacc, hm7, hL, hkk⟩
        obtain ⟨hpb, hpa⟩ := key_ok hl hkey
        have hae := hacc hpb
        subst hae
        obtain ⟨r, rfl⟩ : ∃ r, rem = r + 1 := ⟨rem - 1, by omega⟩
        simp -dsimp [-vc_block, Tt]
        rw [vc_block]
        by_cases h20 : acc.length = 20
        · have h20b : ((acc.length : Int) == 20) = true := by simp; omega
          have hend : impsP l = (acc, failS 3 p) := by rw [impsP, hmod]; simp [impsF, hkey, h20]
          have hE : endP l = failS 3 p := by rw [endP_imps (by rw [hend]; simp [failS, hpb]), hend]
          rw [hE]
          have hfb : (failS 3 p).bad ≠ 0 := by simp [failS, hpb]
          rw [if_neg hfb]
          have hmx : m3 (n + 1) = some ⟨3, [[toksD l, .v (.int .i64 p.at_), .v (.int .i64 0)]], 0⟩ := by rw [hmk, yObj_ok hpb]
          simp -dsimp [g2, g4, g6, g7, hm7, hlen2, h20b, hmx, m2n]
          refine vdraw_of [0, 0, 2, 6, 14, 1, 33, 127] [0, 1, 2, 3, 4, 5, 6, 7] (by kernel_rfl) (by kernel_rfl) ?_
          simp -dsimp [g2, g4, g6, g7, hmx, m2n]
          refine hq ⟨⟨_, by simp [badP, placeP, failS, hpb, I], pub0 _⟩, fun j hj => ?_⟩
          have j1 : j ≠ n := by omega
          simp [set_ne, j1]; exact fr j hj
        have h20b : ((acc.length : Int) == 20) = false := by simp; omega
        have h20' : ¬ 20 ≤ acc.length := by omega
        simp -dsimp [-vc_block, g2, g4, g6, g7, hm7, hlen2, h20b]
        refine vdraw_tree [0, 1, 0, 4, 12, 31, 63, 127] (.rd 0 (.rd 1 (.rd 2 (.wr (.cons 3 (.wr (.cons 4 (.wr (.cons 5 (.rd 6 (.wr (.cons 7 (.fin) (.nil)))) (.nil))) (.nil))) (.nil)))))) (by kernel_rfl) (by kernel_rfl) ?_
        simp -dsimp [-vc_block, g2, g4, g6, g7, hm7, hlen2, set_ne, n21, n12]
        refine aCall_of (cYImpR hl hpb hpa (by omega) hmk) ?_
        rintro d m4 n4 ⟨rfl, rfl, rfl⟩
        have kn3 : n4 ≠ n + 1 := by omega
        have kn4 : n4 ≠ n + 1 + 1 := by omega
        have nk3 : n + 1 ≠ n4 := by omega
        have nk4 : n + 1 + 1 ≠ n4 := by omega
        have hx := @impR_ok l (stepF p)
        generalize impR l (stepF p) = x at hx ⊢
        have hil : (impD x).length = 4 := rfl
        simp -dsimp [-vc_block, g2, g4, g6, g7, hm7, set_ne, n21, n12, kn3, kn4, nk3, nk4, hil]
        refine b4_append (hL.frame fun j hj => ?_) (fun j hj => by have := hkk j hj; omega) trivial trivial (by omega) (by simp; omega) ?_
        · have := hkk j hj
          rw [set_ne _ _ _ _ (by omega), set_ne _ _ _ _ (by omega)]
        intro d5 m5 n5 p1 p2 p3 p4
        have q4 : ∀ j, j < n4 → j ≠ n + 1 → kof dI ≠ some j → m5 j = m3 j := fun j h1 h2 h3 => by rw [p4 j (by omega) h3, set_ne _ _ _ _ (by omega), set_ne _ _ _ _ h2]
        have nd : ∀ j, j < n + 1 + 1 + 1 → kof dI ≠ some j := fun j hj e => by have := hkk j e; omega
        have e7 : m5 (n + 1 + 1) = some ⟨3, [[S (nameP l).1, dI, .v (.slice none 0 0)]], 0⟩ := by rw [q4 _ (by omega) n21 (nd _ (by omega))]; exact hm7
        have ek : m5 (n + 1) = some (yObj l (impF l (stepF p)).2) := by rw [p4 _ (by omega) (nd _ (by omega)), set_ne _ _ _ _ (by omega), set_same]
        have ok5 := okD_lst p1
        simp -dsimp [-vc_block, g2, g4, g6, g7, e7, ok5, S]
        have hkd : ∀ j, kof d5 = some j → n + 1 + 1 + 1 ≤ j ∧ j < n5 := fun j hj => by
          have := p3 j hj
          rcases this.2 with e | e
          · have := hkk j e; omega
          · omega
        refine ⟨r, by omega, by simp, by simp, by simp, by simp, by omega, fun j hj => ?_, ?_, acc ++ [x], acc ++ [(impF l (stepF p)).1], (impF l (stepF p)).2, d5, by simp; omega, by simp; omega, by simp, fun h => by rw [hx h], ?_, ?_, by simp [S], ?_, hkd⟩
        · rw [set_ne _ _ _ _ (by omega), q4 j (by omega) (by omega) (nd j (by omega))]; exact fr j hj
        · rw [set_ne _ _ _ _ nn2, q4 n (by omega) nn1 (nd n (by omega))]; exact m2n
        · rw [hmod]; simp [impsF, hkey, h20']
        · rw [set_ne _ _ _ _ n12]; exact ek
        · rw [List.map_append]
          exact p1.frame fun j hj => set_ne _ _ _ _ (by have := hkd j hj; omega)
      rintro σ0 m0 n0 ⟨g2, g4, g6, g7, nn, fr, m2n, mo, is, dI, hiso, hm7, hLi, hki⟩
      simp -dsimp [-vc_block, g2, g4, g6, g7]
      refine vc_mid (RMid2 l (nameP l).1 is dI (declsP l).1 (declsP l).2 m n) ?_ ?_
      · rw [vc_block]
        simp -dsimp [-vc_block]
        refine vloop_of (β := Nat) (RDec l (nameP l).1 is dI (impsP l).2 m n) (fun b => b) 61 ⟨by simp [g2], by simp [g4], by simp [g6], by simp [g7], nn, fr, m2n, hLi, hki, [], (impsP l).2, .v (.slice none 0 0), rfl, by simp, rfl, mo, hm7, by simpa using Lst.nil, by simp⟩ ?_
        rintro rem σ m2 n2 ⟨g2, g4, g6, g7, nn, fr, m2n, hLi, hki, acc, p, dD, hrem, hle, hmod, hmk, hm7, hL, hkk⟩
        have hk2 : n + 1 < n2 := by omega
        have hlen2 := lenD_lst hL
        rw [List.length_map] at hlen2
        simp -dsimp [-vc_block, g2, g4, g6, g7]
        refine aCall_of (cYKeyR (p := p) hmk) ?_
        rintro d m3 n3 ⟨rfl, rfl, rfl⟩
        cases hkey : isDecl l p
        case false =>
          simp -dsimp [-vc_block, Tt]
          have hend : declsP l = (acc, p) := by
            rw [declsP, hmod]; cases rem with
            | zero => rfl
            | succ r => simp [declsF, hkey]
          exact ⟨by simp [g2], by simp [g4], by simp [g6], by simp [g7], nn, fr, m2n, hLi, hki, by rw [hend]; exact hmk, dD, hm7, by rw [hend]; exact hL, hkk⟩
        obtain ⟨hpb, hpa⟩ : p.bad = 0 ∧ p.at_ < l.length := by
          have hkey' := hkey
          simp only [isDecl, Bool.or_eq_true] at hkey'
          rcases hkey' with ((h | h) | h) | h <;> exact key_ok hl h
        obtain ⟨r, rfl⟩ : ∃ r, rem = r + 1 := ⟨rem - 1, by omega⟩
        simp -dsimp [-vc_block, Tt]
        rw [vc_block]
        by_cases h20 : acc.length = 60
        · have h20b : ((acc.length : Int) == 60) = true := by simp; omega
          have hend : declsP l = (acc, failS 3 p) := by rw [declsP, hmod]; simp [declsF, hkey, h20]
          have hE : endP l = failS 3 p := by rw [endP_decls (by rw [hend]; simp [failS, hpb]), hend]
          rw [hE]
          have hfb : (failS 3 p).bad ≠ 0 := by simp [failS, hpb]
          rw [if_neg hfb]
          have hmx : m3 (n + 1) = some ⟨3, [[toksD l, .v (.int .i64 p.at_), .v (.int .i64 0)]], 0⟩ := by rw [hmk, yObj_ok hpb]
          simp -dsimp [g2, g4, g6, g7, hm7, hlen2, h20b, hmx, m2n]
          refine vdraw_of [0, 0, 2, 6, 14, 1, 33, 127] [0, 1, 2, 3, 4, 5, 6, 7] (by kernel_rfl) (by kernel_rfl) ?_
          simp -dsimp [g2, g4, g6, g7, hmx, m2n]
          refine hq ⟨⟨_, by simp [badP, placeP, failS, hpb, I], pub0 _⟩, fun j hj => ?_⟩
          have j1 : j ≠ n := by omega
          simp [set_ne, j1]; exact fr j hj
        have h20b : ((acc.length : Int) == 60) = false := by simp; omega
        have h20' : ¬ 60 ≤ acc.length := by omega
        simp -dsimp [-vc_block, g2, g4, g6, g7, hm7, hlen2, h20b]
        refine vdraw_tree [0, 1, 0, 4, 12, 31, 63, 127] (.rd 0 (.rd 1 (.rd 2 (.wr (.cons 3 (.wr (.cons 4 (.wr (.cons 5 (.rd 6 (.wr (.cons 7 (.fin) (.nil)))) (.nil))) (.nil))) (.nil)))))) (by kernel_rfl) (by kernel_rfl) ?_
        simp -dsimp [-vc_block, g2, g4, g6, g7, hm7, hlen2, set_ne, n21, n12]
        refine aCall_of (cYDeclR hl hpb hpa (by omega) hmk) ?_
        rintro d m4 n4 ⟨rfl, rfl, rfl⟩
        have kn3 : n4 ≠ n + 1 := by omega
        have kn4 : n4 ≠ n + 1 + 1 := by omega
        have nk3 : n + 1 ≠ n4 := by omega
        have nk4 : n + 1 + 1 ≠ n4 := by omega
        have hil : (dclD (declF l p).1).length = 9 := by simp [dclD, tyD_len]
        generalize hX : dclD (declF l p).1 = X at hil
        simp -dsimp [-vc_block, g2, g4, g6, g7, hm7, set_ne, n21, n12, kn3, kn4, nk3, nk4, hil]
        refine b4_append (hL.frame fun j hj => ?_) (fun j hj => by have := hkk j hj; omega) trivial trivial (by omega) (by simp; omega) ?_
        · have := hkk j hj
          rw [set_ne _ _ _ _ (by omega), set_ne _ _ _ _ (by omega)]
        intro d5 m5 n5 p1 p2 p3 p4
        have q4 : ∀ j, j < n4 → j ≠ n + 1 → kof dD ≠ some j → m5 j = m3 j := fun j h1 h2 h3 => by rw [p4 j (by omega) h3, set_ne _ _ _ _ (by omega), set_ne _ _ _ _ h2]
        have nd : ∀ j, j < n + 1 + 1 + 1 → kof dD ≠ some j := fun j hj e => by have := hkk j e; omega
        have e7 : m5 (n + 1 + 1) = some ⟨3, [[S (nameP l).1, dI, dD]], 0⟩ := by rw [q4 _ (by omega) n21 (nd _ (by omega))]; exact hm7
        have ek : m5 (n + 1) = some (yObj l (declF l p).2) := by rw [p4 _ (by omega) (nd _ (by omega)), set_ne _ _ _ _ (by omega), set_same]
        have ok5 := okD_lst p1
        simp -dsimp [-vc_block, g2, g4, g6, g7, e7, ok5, S]
        have hkd : ∀ j, kof d5 = some j → n + 1 + 1 + 1 ≤ j ∧ j < n5 ∧ kof dI ≠ some j := fun j hj => by
          have := p3 j hj
          rcases this.2 with e | e
          · have := hkk j e; exact ⟨by omega, by omega, this.2.2⟩
          · exact ⟨by omega, by omega, fun h => by have := hki j h; omega⟩
        refine ⟨r, by omega, by simp, by simp, by simp, by simp, by omega, fun j hj => ?_, ?_, hLi.frame fun j hj => ?_, fun j hj => by have := hki j hj; omega, acc ++ [(declF l p).1], (declF l p).2, d5, by simp; omega, by simp; omega, ?_, ?_, by simp [S], ?_, hkd⟩
        · rw [set_ne _ _ _ _ (by omega), q4 j (by omega) (by omega) (nd j (by omega))]; exact fr j hj
        · rw [set_ne _ _ _ _ nn2, q4 n (by omega) nn1 (nd n (by omega))]; exact m2n
        · have := hki j hj
          rw [set_ne _ _ _ _ (by omega), q4 j (by omega) (by omega) (fun e => (hkk j e).2.2 hj)]
        · rw [hmod]; simp [declsF, hkey, h20']
        · rw [set_ne _ _ _ _ n12]; exact ek
        · rw [List.map_append]
          simp only [List.map_cons, List.map_nil, hX]
          exact p1.frame fun j hj => set_ne _ _ _ _ (by have := hkd j hj; omega)
      rintro σ1 m1 n1 ⟨g2, g4, g6, g7, nn, fr, m2n, hLi, hki, mo, dD, hm7, hL, hkk⟩
      have hnp : ∀ (l : List Tok), endP l = if (declsP l).2.at_ < l.length then failS 2 (declsP l).2 else (declsP l).2 := fun _ => rfl
      rw [hnp]
      have hqi : (declsP l).2.bad = 0 → (impsP l).2.bad = 0 := declsF_ok _ _ _
      generalize (declsP l).2 = q at mo hqi ⊢
      have hT : toksD l = .sl 3 (l.map tokD) := rfl
      have hll : (l.map tokD).length = l.length := by simp
      have fin : ∀ (j : Nat), j < n → j ≠ n ∧ j ≠ n + 1 ∧ j ≠ n + 1 + 1 := fun j hj => by omega
      by_cases hqb : q.bad = 0
      case neg =>
        have e : (if q.at_ < l.length then failS 2 q else q) = q := by split
                                                                       · exact failS_bad hqb
                                                                       · rfl
        rw [e, if_neg hqb]
        have hb1 : ((q.bad : Int) == 0) = false := by simp; omega
        have hb2 : ((q.bad : Int) != 0) = true := by simp; omega
        have hmx : m1 (n + 1) = some ⟨3, [[toksD l, I (q.cnt : Int), I (q.bad : Int)]], 0⟩ := by rw [mo]; simp [yObj, yC, plc, hqb]
        generalize hLL : l.map tokD = L at hT hll
        simp -dsimp [g2, g4, g6, g7, hmx, I, hb1, hb2]
        refine vdraw_of [0, 0, 2, 6, 14, 0, 32, 96, 224, 1, 543, 2047] [0, 1, 2, 3, 4, 5, 6, 7, 8, 9, 10, 11] (by kernel_rfl) (by kernel_rfl) ?_
        simp -dsimp [g2, g4, g6, g7, hmx, I, hb1, hb2, set_ne, nn1, n1n, m2n]
        refine hq ⟨⟨_, by simp [badP, placeP, I], pub0 _⟩, fun j hj => ?_⟩
        obtain ⟨j1, j2, _⟩ := fin j hj
        simp [set_ne, j1, j2]; exact fr j hj
      have hmx : m1 (n + 1) = some ⟨3, [[toksD l, .v (.int .i64 q.at_), .v (.int .i64 0)]], 0⟩ := by rw [mo, yObj_ok hqb]
      generalize hLL : l.map tokD = L at hT hll
      by_cases hat : (q.at_ : Int) < l.length
      · have hat' : q.at_ < l.length := by omega
        have hfb : (failS 2 q).bad ≠ 0 := by simp [failS, hqb]
        rw [if_pos hat', if_neg hfb]
        simp -dsimp [g2, g4, g6, g7, hmx, hT, hll, hat, hat']
        refine vdraw_of [0, 0, 2, 6, 14, 0, 32, 96, 224, 1, 543, 2047] [0, 1, 2, 3, 4, 5, 6, 7, 8, 9, 10, 11] (by kernel_rfl) (by kernel_rfl) ?_
        simp -dsimp [g2, g4, g6, g7, hmx, set_ne, nn1, n1n, m2n]
        refine hq ⟨⟨_, by simp [badP, placeP, failS, hqb, I], pub0 _⟩, fun j hj => ?_⟩
        obtain ⟨j1, j2, _⟩ := fin j hj
        simp [set_ne, j1, j2]; exact fr j hj
      · have hat' : ¬ q.at_ < l.length := by omega
        rw [if_neg hat', if_pos hqb]
        simp -dsimp [g2, g4, g6, g7, hmx, hT, hll, hat, hat', hm7, m2n]
        refine hq ⟨⟨.agg [S (nameP l).1, dI, dD], by simp [badP, placeP, I, S], .agg (.cons (pur_S _).pub (.cons ?_ (.cons ?_ .nil)))⟩, fun j hj => ?_⟩
        · rw [← hiso (hqi hqb)]
          exact .lstP (hLi.frame fun j hj => set_ne _ _ _ _ (by have := hki j hj; omega)) (fun j hj => by have := hki j hj; omega) pur_imps
        · exact .lstP (hL.frame fun j hj => set_ne _ _ _ _ (by have := hkk j hj; omega)) (fun j hj => by have := hkk j hj; omega) pur_dcls
        · obtain ⟨j1, j2, _⟩ := fin j hj
          simp [set_ne, j1, j2]; exact fr j hj
  · rintro d m' n' ⟨⟨dt, rfl, h⟩, hf⟩
    exact ⟨_, pub_three h (pur_I _).pub (pur_I _).pub, hf, rfl⟩
end Go.Proofs.Mv.App
open Go Go.Proofs Go.Proofs.Mv.V
set_option maxRecDepth 10000
namespace Go.Proofs.Mv.App
structure MdSm (x : Md) : Prop where
  il : x.imps.length ≤ 1000
  dl : x.decls.length ≤ 1000
  sm : ∀ d ∈ x.decls, TySm d.typ
set_option maxHeartbeats 4000000 in
theorem cSameM {x : Md} (hx : MdSm x) (m : Mem) (n : Nat) : ACalls Tryz.prog 29 [.agg (mdD x), .agg (mdD x)] m n (fun d m' n' => d = Tt true ∧ m' = m ∧ n' = n) := by
  have nn1 : n ≠ n + 1 := by omega
  have n1n : n + 1 ≠ n := by omega
  obtain ⟨l1, l2, l3⟩ := hx
  obtain ⟨name, imps, decls⟩ := x
  simp only at l1 l2 l3
  refine acalls_done (R' := Hq (fun d m' n' => d = Tt true ∧ ∀ j, j < n → m' j = m j) tg) ?_ ?_
  · have fr : ∀ o o' j, j < n → ((m.set n o).set (n + 1) o') j = m j := fun o o' j hj => by rw [set_ne _ _ _ _ (by omega), set_ne _ _ _ _ (by omega)]
    have hL1 : (imps.map impD).length = imps.length := by simp
    have hG1 : ∀ i (h : i < imps.length), (imps.map impD)[i]? = some (impD imps[i]) := fun i h => by simp [h]
    have hL2 : (decls.map dclD).length = decls.length := by simp
    have hG2 : ∀ i (h : i < decls.length), (decls.map dclD)[i]? = some (dclD decls[i]) := fun i h => by simp [h]
    simp only [mdD]
    generalize imps.map impD = NL at hL1 hG1
    generalize decls.map dclD = SL at hL2 hG2
    refine acalls_vc [0, 1, 2, 3, 4, 5, 6, 7, 30, 35, 48, 53, 100] Tryz.func29 Tryz.ntmps29 (by kernel_rfl) rfl rfl (by simp) ?_
    simp -dsimp [I, S, set_ne, nn1, n1n, hL1, hL2, -vc_block]
    rw [vc_block]
    simp -dsimp [I, S, set_ne, nn1, n1n, hL1, hL2, -vc_block]
    refine vloop_of (β := Nat) (SameInv n ((m.set n ⟨3, [[S name, .sl 4 NL, .sl 9 SL]], 0⟩).set (n + 1) ⟨3, [[S name, .sl 4 NL, .sl 9 SL]], 0⟩) (n + 1 + 1) 5 imps.length) (fun i => imps.length - i) 0 ⟨by simp, by simp, by simp [I], by omega, rfl, rfl⟩ ?_
    rintro i σ m2 n2 ⟨h2, h3, h5, le, rfl, rfl⟩
    by_cases hi : (i : Int) < imps.length
    · have hi' : i < imps.length := by omega
      have wi : IntKind.i64.wrap ((i : Int) + 1) = (i : Int) + 1 := wrap_i64 (by omega) (by omega)
      have hiN : i < NL.length := by omega
      have hgi : NL[i] = impD imps[i] := get_opt (hG1 i hi') hiN
      have him : impD imps[i] = [S imps[i].pkg, I imps[i].major, S imps[i].mod, S imps[i].as_] := rfl
      simp -dsimp [h2, h3, h5, I, S, set_ne, nn1, n1n, hL1, hL2, hi, hi', -vc_block]
      rw [vc_block]
      simp -dsimp [h2, h3, h5, I, S, set_ne, nn1, n1n, hL1, hL2, hi, hi', -vc_block]
      refine vdraw_of [0, 1, 0, 7, 15, 0, 32, 0, 224, 480, 1023] [0, 1, 2, 3, 4, 5, 6, 7, 8, 9, 10] (by kernel_rfl) (by kernel_rfl) ?_
      simp -dsimp [h2, h3, h5, I, S, set_ne, nn1, n1n, hL1, hL2, hi, hi', hiN, hgi, him, wi, -vc_block]
      exact ⟨i + 1, by omega, by simp, by simp, by simp [I], by omega, rfl, rfl⟩
    · simp -dsimp [h2, h3, h5, I, S, set_ne, nn1, n1n, hL1, hL2, hi, -vc_block]
      rw [vc_block]
      simp -dsimp [h2, h3, h5, I, S, set_ne, nn1, n1n, hL1, hL2, -vc_block]
      refine vloop_of (β := Nat) (SameInv n ((m.set n ⟨3, [[S name, .sl 4 NL, .sl 9 SL]], 0⟩).set (n + 1) ⟨3, [[S name, .sl 4 NL, .sl 9 SL]], 0⟩) (n + 1 + 1) 6 decls.length) (fun i => decls.length - i) 0 ⟨by simp, by simp, by simp [I], by omega, rfl, rfl⟩ ?_
      rintro i σ m2 n2 ⟨h2, h3, h5, le, rfl, rfl⟩
      by_cases hi : (i : Int) < decls.length
      · have hi' : i < decls.length := by omega
        have wi : IntKind.i64.wrap ((i : Int) + 1) = (i : Int) + 1 := wrap_i64 (by omega) (by omega)
        have hiN : i < SL.length := by omega
        have hgi : SL[i] = dclD decls[i] := get_opt (hG2 i hi') hiN
        have him : dclD decls[i] = I decls[i].kind :: S decls[i].name :: tyD decls[i].typ := rfl
        have hty := l3 _ (List.getElem_mem hi')
        have h7 := tyD_len decls[i].typ
        have hself := cSame hty
        generalize hTT : tyD decls[i].typ = TT at h7 him hself
        have ht7 : List.take 7 TT = TT := List.take_of_length_le (by omega)
        simp -dsimp [h2, h3, h5, I, S, set_ne, nn1, n1n, hL1, hL2, hi, hi', -vc_block]
        rw [vc_block]
        simp -dsimp [h2, h3, h5, I, S, set_ne, nn1, n1n, hL1, hL2, hi, hi', -vc_block]
        refine vdraw_of [0, 1, 0, 7, 15, 31, 0, 64, 0, 448, 960, 1984, 4095, 8191] [0, 1, 2, 3, 4, 5, 6, 7, 8, 9, 10, 11, 12, 13] (by kernel_rfl) (by kernel_rfl) ?_
        simp -dsimp [h2, h3, h5, I, S, set_ne, nn1, n1n, hL1, hL2, hi, hi', hiN, hgi, him, h7, ht7, wi, -vc_block]
        refine aCall_of (hself _ _) ?_
        rintro d m3 n3 ⟨rfl, rfl, rfl⟩
        simp -dsimp [h2, h3, h5, I, S, Tt, set_ne, nn1, n1n, hL1, hL2, hi, hi', hiN, hgi, him, h7, ht7, wi, -vc_block]
        refine vdraw_of [0, 1, 0, 7, 15, 31, 0, 64, 0, 448, 960, 1984, 4095, 8191, 16383, 32767, 16383, 131071, 262143, 524287, 16383, 1064959, 16383, 7356415, 15745023, 32522239, 67108863, 134217727, 268435455, 536870911, 1073741823, 2147483647] [0, 1, 2, 3, 4, 5, 6, 7, 8, 9, 10, 11, 12, 13, 14, 15, 16, 17, 18, 19, 20, 21, 22, 23, 24, 25, 26, 27, 28, 29, 30, 31] (by kernel_rfl) (by kernel_rfl) ?_
        simp -dsimp [h2, h3, h5, I, S, Tt, set_ne, nn1, n1n, hL1, hL2, hi, hi', hiN, hgi, him, h7, ht7, wi, -vc_block]
        exact ⟨i + 1, by omega, by simp, by simp, by simp [I], by omega, rfl, rfl⟩
      · simp -dsimp [h2, h3, h5, I, S, set_ne, nn1, n1n, hL1, hL2, hi]
        exact hq ⟨by simp [Tt], fr _ _⟩
  · rintro d m' n' ⟨rfl, h⟩
    exact ⟨_, (pur_T _).pub, h, rfl⟩
end Go.Proofs.Mv.App
