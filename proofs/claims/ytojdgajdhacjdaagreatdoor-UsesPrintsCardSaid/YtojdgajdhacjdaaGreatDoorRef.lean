/- A part of the proofs of the seat YtojdgajdhacjdaaGreatDoor: the abstract machine, the contracts of the functions, the laws. No condition of its own. -/
import Derived.Test.YtojdgajdhacjdaaGreatDoorTy
set_option linter.unusedSimpArgs false
set_option linter.unusedVariables false
set_option linter.unusedSectionVars false
open Go Go.Proofs Go.Proofs.Mv.V
namespace Go.Proofs.Mv.App
theorem decF_snoc (s : List UInt8) (x : UInt8) : decF (s ++ [x]) = 10 * decF s + (x.toNat - 48) := by simp [decF]
theorem decF_small {s : List UInt8} (h : s.all isDigit = true) (hl : s.length ≤ 9) : decF s < 1000000000 := by
  have h1 := decA_lt s 0 h
  have h2 : 10 ^ s.length ≤ 10 ^ 9 := Nat.pow_le_pow_right (by omega) hl
  have h9 : (10 : Nat) ^ 9 = 1000000000 := by decide
  have : decF s = decA 0 s := rfl
  omega
end Go.Proofs.Mv.App
open Go Go.Proofs Go.Proofs.Mv.V
set_option maxRecDepth 10000
namespace Go.Proofs.Mv.App
variable [GI]
def rC (l : List Tok) (p : PS) : List D := [toksD l, I p.at_, I p.cnt, I p.bad]
def rObj (l : List Tok) (p : PS) : V.Obj := ⟨4, [rC l p], 0⟩
theorem pur_rObj (l : List Tok) (p : PS) : ∀ e ∈ (rObj l p).es, ∀ d ∈ e, Pur d := by
  intro e he d hd
  simp only [rObj, rC, List.mem_singleton] at he
  subst he
  simp only [List.mem_cons, List.not_mem_nil, or_false] at hd
  rcases hd with rfl | rfl | rfl | rfl
  · exact pur_toks _
  · exact pur_I _
  · exact pur_I _
  · exact pur_I _
theorem rObj_step {l : List Tok} {p : PS} : (⟨4, [[toksD l, .v (.int .i64 ((p.at_ : Int) + 1)), .v (.int .i64 (p.cnt : Int)), .v (.int .i64 (p.bad : Int))]], 0⟩ : V.Obj) = rObj l (stepF p) := by
  simp [rObj, rC, stepF, I]
theorem rObj_fail {l : List Tok} {p : PS} (c : Nat) (h : p.bad = 0) : (⟨4, [[toksD l, .v (.int .i64 (p.at_ : Int)), .v (.int .i64 (p.cnt : Int)), .v (.int .i64 (c : Int))]], 0⟩ : V.Obj) = rObj l (failF c p) := by
  simp [rObj, rC, failF, h, I]
theorem cWrong {l : List Tok} {p : PS} {k : Nat} {m : Mem} {n : Nat} (hm : m k = some (rObj l p)) :
    ACalls Tryz.prog 142 [.ptr k 0 0 0] m n (fun d m' n' => d = .tup [] ∧ m' = m.set k (rObj l (failF 2 p)) ∧ n' = n) := by
  refine acalls_vc [0, 6] Tryz.func142 Tryz.ntmps142 (by kernel_rfl) rfl rfl (by simp) ?_
  by_cases hb : p.bad = 0
  · simp -dsimp [hm, rObj, rC, hb, I]
    simp [failF, hb]
  · have hb' : ((p.bad : Int) == 0) = false := by simp; omega
    rw [failF_bad hb, set_self hm]
    simp -dsimp [hm, rObj, rC, hb, hb', I]
theorem cIs {l : List Tok} {p : PS} (s : List UInt8) {k : Nat} {m : Mem} {n : Nat} (hm : m k = some (rObj l p)) :
    ACalls Tryz.prog 190 [.ptr k 0 0 0, S s] m n (fun d m' n' => d = Tt (isSig s l p) ∧ m' = m ∧ n' = n) := by
  refine acalls_vc [0, 1, 4] Tryz.func190 Tryz.ntmps190 (by kernel_rfl) rfl rfl (by simp) ?_
  by_cases hb : p.bad = 0
  case neg =>
    have hb' : ((p.bad : Int) == 0) = false := by simp; omega
    rw [isSig_bad hb]
    simp -dsimp [I, S, hm, rObj, rC, hb, hb']
    refine vdraw_of [0, 1, 3, 7, 15, 31, 63, 127, 255, 511, 63, 1087, 3135, 7231, 15423, 32767, 65535, 131071, 262143, 524287, 1048575, 2097151, 262143, 4456447, 12845055, 29622271, 67108863, 134217727, 268435455, 536870911, 1073741823, 2147483647, 4294967295, 8589934591, 17179869183, 34359738367, 4294967295, 73014444031, 210453397503, 485331304447, 1099511627775, 2199023255551, 4398046511103, 4294967295, 17592186044415, 35184372088831, 70368744177663] [0, 1, 2, 3, 4, 5, 6, 7, 8, 9, 10, 11, 12, 13, 14, 15, 16, 17, 18, 19, 20, 21, 22, 23, 24, 25, 26, 27, 28, 29, 30, 31, 32, 33, 34, 35, 36, 37, 38, 39, 40, 41, 42, 43, 44, 45, 46] (by kernel_rfl) (by kernel_rfl) ?_
    simp -dsimp [I, S, hm, rObj, rC, hb, hb', Tt]
  by_cases ha : p.at_ < l.length
  case neg =>
    have ha' : ¬ (p.at_ : Int) < l.length := by omega
    have : isSig s l p = false := by simp [isSig, cur, hb, ha]
    rw [this]
    simp -dsimp [I, S, hm, rObj, rC, hb]
    refine vdraw_of [0, 1, 3, 7, 15, 31, 63, 127, 255, 511, 63, 1087, 3135, 7231, 15423, 32767, 65535, 131071, 262143, 524287, 1048575, 2097151, 262143, 4456447, 12845055, 29622271, 67108863, 134217727, 268435455, 536870911, 1073741823, 2147483647, 4294967295, 8589934591, 17179869183, 34359738367, 4294967295, 73014444031, 210453397503, 485331304447, 1099511627775, 2199023255551, 4398046511103, 4294967295, 17592186044415, 35184372088831, 70368744177663] [0, 1, 2, 3, 4, 5, 6, 7, 8, 9, 10, 11, 12, 13, 14, 15, 16, 17, 18, 19, 20, 21, 22, 23, 24, 25, 26, 27, 28, 29, 30, 31, 32, 33, 34, 35, 36, 37, 38, 39, 40, 41, 42, 43, 44, 45, 46] (by kernel_rfl) (by kernel_rfl) ?_
    simp -dsimp [I, S, hm, rObj, rC, hb, ha, ha', Tt, toksD]
  have ha' : (p.at_ : Int) < l.length := by omega
  have hc : isSig s l p = (decide (l[p.at_].kind = 4) && decide (l[p.at_].text = s)) := by simp [isSig, cur, hb, ha]
  rw [hc]
  have hg : (l.map tokD)[p.at_]? = some (tokD l[p.at_]) := by simp [ha]
  have hl : (l.map tokD).length = l.length := by simp
  have htk : tokD l[p.at_] = [I l[p.at_].kind, I l[p.at_].at_, S l[p.at_].text] := rfl
  generalize hL : l.map tokD = L at hg hl
  have hgi : L[p.at_]'(by omega) = tokD l[p.at_] := get_opt hg _
  generalize l[p.at_] = t at *
  by_cases k4 : t.kind = 4
  · by_cases e : t.text = s
    · have e' : (t.text == s) = true := by simp [e]
      simp -dsimp [I, S, hm, rObj, rC, hb]
      refine vdraw_of [0, 1, 3, 7, 15, 31, 63, 127, 255, 511, 63, 1087, 3135, 7231, 15423, 32767, 65535, 131071, 262143, 524287, 1048575, 2097151, 262143, 4456447, 12845055, 29622271, 67108863, 134217727, 268435455, 536870911, 1073741823, 2147483647, 4294967295, 8589934591, 17179869183, 34359738367, 4294967295, 73014444031, 210453397503, 485331304447, 1099511627775, 2199023255551, 4398046511103, 4294967295, 17592186044415, 35184372088831, 70368744177663] [0, 1, 2, 3, 4, 5, 6, 7, 8, 9, 10, 11, 12, 13, 14, 15, 16, 17, 18, 19, 20, 21, 22, 23, 24, 25, 26, 27, 28, 29, 30, 31, 32, 33, 34, 35, 36, 37, 38, 39, 40, 41, 42, 43, 44, 45, 46] (by kernel_rfl) (by kernel_rfl) ?_
      simp -dsimp [I, S, hm, rObj, rC, hb, ha, ha', Tt, toksD, hL, hl, hgi, htk, k4, e', e]
    · have e' : (t.text == s) = false := by simp [e]
      simp -dsimp [I, S, hm, rObj, rC, hb]
      refine vdraw_of [0, 1, 3, 7, 15, 31, 63, 127, 255, 511, 63, 1087, 3135, 7231, 15423, 32767, 65535, 131071, 262143, 524287, 1048575, 2097151, 262143, 4456447, 12845055, 29622271, 67108863, 134217727, 268435455, 536870911, 1073741823, 2147483647, 4294967295, 8589934591, 17179869183, 34359738367, 4294967295, 73014444031, 210453397503, 485331304447, 1099511627775, 2199023255551, 4398046511103, 4294967295, 17592186044415, 35184372088831, 70368744177663] [0, 1, 2, 3, 4, 5, 6, 7, 8, 9, 10, 11, 12, 13, 14, 15, 16, 17, 18, 19, 20, 21, 22, 23, 24, 25, 26, 27, 28, 29, 30, 31, 32, 33, 34, 35, 36, 37, 38, 39, 40, 41, 42, 43, 44, 45, 46] (by kernel_rfl) (by kernel_rfl) ?_
      simp -dsimp [I, S, hm, rObj, rC, hb, ha, ha', Tt, toksD, hL, hl, hgi, htk, k4, e', e]
  · have k4' : (t.kind == 4) = false := by simp [k4]
    simp -dsimp [I, S, hm, rObj, rC, hb]
    refine vdraw_of [0, 1, 3, 7, 15, 31, 63, 127, 255, 511, 63, 1087, 3135, 7231, 15423, 32767, 65535, 131071, 262143, 524287, 1048575, 2097151, 262143, 4456447, 12845055, 29622271, 67108863, 134217727, 268435455, 536870911, 1073741823, 2147483647, 4294967295, 8589934591, 17179869183, 34359738367, 4294967295, 73014444031, 210453397503, 485331304447, 1099511627775, 2199023255551, 4398046511103, 4294967295, 17592186044415, 35184372088831, 70368744177663] [0, 1, 2, 3, 4, 5, 6, 7, 8, 9, 10, 11, 12, 13, 14, 15, 16, 17, 18, 19, 20, 21, 22, 23, 24, 25, 26, 27, 28, 29, 30, 31, 32, 33, 34, 35, 36, 37, 38, 39, 40, 41, 42, 43, 44, 45, 46] (by kernel_rfl) (by kernel_rfl) ?_
    simp -dsimp [I, S, hm, rObj, rC, hb, ha, ha', Tt, toksD, hL, hl, hgi, htk, k4, k4']
theorem cPass {l : List Tok} (hl : TkOk l) {p : PS} (s : List UInt8) {k : Nat} {m : Mem} {n : Nat} (hm : m k = some (rObj l p)) :
    ACalls Tryz.prog 143 [.ptr k 0 0 0, S s] m n (fun d m' n' => d = .tup [] ∧ m' = m.set k (rObj l (mustF s l p)) ∧ n' = n) := by
  refine acalls_vc [0, 1, 6, 18] Tryz.func143 Tryz.ntmps143 (by kernel_rfl) rfl rfl (by simp) ?_
  simp -dsimp
  refine aCall_of (cIs s hm) ?_
  rintro d m' n' ⟨rfl, rfl, rfl⟩
  cases hs : isSig s l p
  · rw [mustF, hs, if_neg (by simp)]
    by_cases hb : p.bad = 0
    · simp -dsimp [Tt, hm, rObj, rC, hb, I]
      simp [failF, hb]
    · have hb' : ((p.bad : Int) == 0) = false := by simp; omega
      rw [failF_bad hb, set_self hm]
      simp -dsimp [Tt, hm, rObj, rC, hb, hb', I]
  · have hat : p.at_ < l.length := by
      unfold isSig at hs; split at hs
      · rename_i t ht; exact (cur_some ht).2.1
      · cases hs
    have wa := wrap_at hl hat
    rw [mustF, hs, if_pos rfl]
    simp -dsimp [Tt, hm, rObj, rC, I, wa]
    simp [stepF]
theorem cNamR {l : List Tok} (hl : TkOk l) {p : PS} (g : Bool) {k : Nat} {m : Mem} {n : Nat} (hm : m k = some (rObj l p)) :
    ACalls Tryz.prog (if g then 145 else 148) [.ptr k 0 0 0] m n (fun d m' n' => d = Tt (isNam g l p) ∧ m' = m ∧ n' = n) := by
  by_cases hb : p.bad = 0
  case neg =>
    have hb' : ((p.bad : Int) == 0) = false := by simp; omega
    rw [isNam_bad hb]
    cases g
    · refine acalls_vc [0, 2] Tryz.func148 Tryz.ntmps148 (by kernel_rfl) rfl rfl (by simp) ?_
      simp -dsimp [I, S, hm, rObj, rC, hb, hb']
      refine vdraw_of [0, 1, 3, 7, 15, 31, 63, 127, 255, 511, 63, 1087, 3135, 7231, 15423, 32767, 65535, 131071, 262143, 524287, 1048575, 2097151, 262143, 4456447, 12845055, 29622271, 67108863, 134217727, 268435455, 536870911, 1073741823, 2147483647, 4294967295, 8589934591, 17179869183, 34359738367, 4294967295, 73014444031, 210453397503, 485331304447, 1099511627775, 2199023255551, 4398046511103, 8796093022207, 17592186044415, 35184372088831] [0, 1, 2, 3, 4, 5, 6, 7, 8, 9, 10, 11, 12, 13, 14, 15, 16, 17, 18, 19, 20, 21, 22, 23, 24, 25, 26, 27, 28, 29, 30, 31, 32, 33, 34, 35, 36, 37, 38, 39, 40, 41, 42, 43, 44, 45] (by kernel_rfl) (by kernel_rfl) ?_
      simp -dsimp [I, S, hm, rObj, rC, hb, hb', Tt]
    · refine acalls_vc [0, 2] Tryz.func145 Tryz.ntmps145 (by kernel_rfl) rfl rfl (by simp) ?_
      simp -dsimp [I, S, hm, rObj, rC, hb, hb']
      refine vdraw_of [0, 1, 3, 7, 15, 31, 63, 127, 255, 511, 63, 1087, 3135, 7231, 15423, 32767, 65535, 131071, 262143, 524287, 1048575, 2097151, 262143, 4456447, 12845055, 29622271, 67108863, 134217727, 268435455, 536870911, 1073741823, 2147483647, 4294967295, 8589934591, 17179869183, 34359738367, 4294967295, 73014444031, 210453397503, 485331304447, 1099511627775, 2199023255551, 4398046511103, 8796093022207, 17592186044415, 35184372088831] [0, 1, 2, 3, 4, 5, 6, 7, 8, 9, 10, 11, 12, 13, 14, 15, 16, 17, 18, 19, 20, 21, 22, 23, 24, 25, 26, 27, 28, 29, 30, 31, 32, 33, 34, 35, 36, 37, 38, 39, 40, 41, 42, 43, 44, 45] (by kernel_rfl) (by kernel_rfl) ?_
      simp -dsimp [I, S, hm, rObj, rC, hb, hb', Tt]
  by_cases ha : p.at_ < l.length
  case neg =>
    have ha' : ¬ (p.at_ : Int) < l.length := by omega
    have : isNam g l p = false := by simp [isNam, cur, hb, ha]
    rw [this]
    cases g
    · refine acalls_vc [0, 2] Tryz.func148 Tryz.ntmps148 (by kernel_rfl) rfl rfl (by simp) ?_
      simp -dsimp [I, S, hm, rObj, rC, hb]
      refine vdraw_of [0, 1, 3, 7, 15, 31, 63, 127, 255, 511, 63, 1087, 3135, 7231, 15423, 32767, 65535, 131071, 262143, 524287, 1048575, 2097151, 262143, 4456447, 12845055, 29622271, 67108863, 134217727, 268435455, 536870911, 1073741823, 2147483647, 4294967295, 8589934591, 17179869183, 34359738367, 4294967295, 73014444031, 210453397503, 485331304447, 1099511627775, 2199023255551, 4398046511103, 8796093022207, 17592186044415, 35184372088831] [0, 1, 2, 3, 4, 5, 6, 7, 8, 9, 10, 11, 12, 13, 14, 15, 16, 17, 18, 19, 20, 21, 22, 23, 24, 25, 26, 27, 28, 29, 30, 31, 32, 33, 34, 35, 36, 37, 38, 39, 40, 41, 42, 43, 44, 45] (by kernel_rfl) (by kernel_rfl) ?_
      simp -dsimp [I, S, hm, rObj, rC, hb, ha, ha', Tt, toksD]
    · refine acalls_vc [0, 2] Tryz.func145 Tryz.ntmps145 (by kernel_rfl) rfl rfl (by simp) ?_
      simp -dsimp [I, S, hm, rObj, rC, hb]
      refine vdraw_of [0, 1, 3, 7, 15, 31, 63, 127, 255, 511, 63, 1087, 3135, 7231, 15423, 32767, 65535, 131071, 262143, 524287, 1048575, 2097151, 262143, 4456447, 12845055, 29622271, 67108863, 134217727, 268435455, 536870911, 1073741823, 2147483647, 4294967295, 8589934591, 17179869183, 34359738367, 4294967295, 73014444031, 210453397503, 485331304447, 1099511627775, 2199023255551, 4398046511103, 8796093022207, 17592186044415, 35184372088831] [0, 1, 2, 3, 4, 5, 6, 7, 8, 9, 10, 11, 12, 13, 14, 15, 16, 17, 18, 19, 20, 21, 22, 23, 24, 25, 26, 27, 28, 29, 30, 31, 32, 33, 34, 35, 36, 37, 38, 39, 40, 41, 42, 43, 44, 45] (by kernel_rfl) (by kernel_rfl) ?_
      simp -dsimp [I, S, hm, rObj, rC, hb, ha, ha', Tt, toksD]
  have ha' : (p.at_ : Int) < l.length := by omega
  have hc : isNam g l p = (decide (l[p.at_].kind = if g then 2 else 1) && namOk g l[p.at_].text) := by simp [isNam, cur, hb, ha]
  have hlen : l[p.at_].text.length ≤ 1000000 := hl.txt _ (List.getElem_mem ha)
  rw [hc]
  have hg : (l.map tokD)[p.at_]? = some (tokD l[p.at_]) := by simp [ha]
  have hll : (l.map tokD).length = l.length := by simp
  have htk : tokD l[p.at_] = [I l[p.at_].kind, I l[p.at_].at_, S l[p.at_].text] := rfl
  generalize hL : l.map tokD = L at hg hll
  have hgi : L[p.at_]'(by omega) = tokD l[p.at_] := get_opt hg _
  generalize l[p.at_] = t at *
  cases g
  · refine acalls_vc [0, 2] Tryz.func148 Tryz.ntmps148 (by kernel_rfl) rfl rfl (by simp) ?_
    by_cases k4 : t.kind = 1
    · simp -dsimp [I, hm, rObj, rC, hb]
      refine vdraw_of [0, 1, 3, 7, 15, 31, 63, 127, 255, 511, 63, 1087, 3135, 7231, 15423, 32767, 65535, 131071, 262143, 524287, 1048575, 2097151, 262143, 4456447, 12845055, 29622271, 67108863, 134217727, 268435455, 536870911, 1073741823, 2147483647, 4294967295, 8589934591, 17179869183, 34359738367, 4294967295, 73014444031, 210453397503, 485331304447, 1099511627775, 2199023255551, 4398046511103, 8796093022207, 17592186044415, 35184372088831] [0, 1, 2, 3, 4, 5, 6, 7, 8, 9, 10, 11, 12, 13, 14, 15, 16, 17, 18, 19, 20, 21, 22, 23, 24, 25, 26, 27, 28, 29, 30, 31, 32, 33, 34, 35, 36, 37, 38, 39, 40, 41, 42, 43, 44, 45] (by kernel_rfl) (by kernel_rfl) ?_
      simp -dsimp [I, hm, rObj, rC, hb, ha, ha', toksD, hL, hll, hgi, htk, k4]
      refine aCall_of (cRefSmall t.text _ _) ?_
      rintro d m' n' ⟨rfl, rfl, rfl⟩
      simp -dsimp [Tt, k4, namOk]
    · have k4' : (t.kind == 1) = false := by simp [k4]
      simp -dsimp [I, hm, rObj, rC, hb]
      refine vdraw_of [0, 1, 3, 7, 15, 31, 63, 127, 255, 511, 63, 1087, 3135, 7231, 15423, 32767, 65535, 131071, 262143, 524287, 1048575, 2097151, 262143, 4456447, 12845055, 29622271, 67108863, 134217727, 268435455, 536870911, 1073741823, 2147483647, 4294967295, 8589934591, 17179869183, 34359738367, 4294967295, 73014444031, 210453397503, 485331304447, 1099511627775, 2199023255551, 4398046511103, 8796093022207, 17592186044415, 35184372088831] [0, 1, 2, 3, 4, 5, 6, 7, 8, 9, 10, 11, 12, 13, 14, 15, 16, 17, 18, 19, 20, 21, 22, 23, 24, 25, 26, 27, 28, 29, 30, 31, 32, 33, 34, 35, 36, 37, 38, 39, 40, 41, 42, 43, 44, 45] (by kernel_rfl) (by kernel_rfl) ?_
      simp -dsimp [I, hm, rObj, rC, hb, ha, ha', Tt, toksD, hL, hll, hgi, htk, k4, k4']
  · refine acalls_vc [0, 2] Tryz.func145 Tryz.ntmps145 (by kernel_rfl) rfl rfl (by simp) ?_
    by_cases k4 : t.kind = 2
    · simp -dsimp [I, hm, rObj, rC, hb]
      refine vdraw_of [0, 1, 3, 7, 15, 31, 63, 127, 255, 511, 63, 1087, 3135, 7231, 15423, 32767, 65535, 131071, 262143, 524287, 1048575, 2097151, 262143, 4456447, 12845055, 29622271, 67108863, 134217727, 268435455, 536870911, 1073741823, 2147483647, 4294967295, 8589934591, 17179869183, 34359738367, 4294967295, 73014444031, 210453397503, 485331304447, 1099511627775, 2199023255551, 4398046511103, 8796093022207, 17592186044415, 35184372088831] [0, 1, 2, 3, 4, 5, 6, 7, 8, 9, 10, 11, 12, 13, 14, 15, 16, 17, 18, 19, 20, 21, 22, 23, 24, 25, 26, 27, 28, 29, 30, 31, 32, 33, 34, 35, 36, 37, 38, 39, 40, 41, 42, 43, 44, 45] (by kernel_rfl) (by kernel_rfl) ?_
      simp -dsimp [I, hm, rObj, rC, hb, ha, ha', toksD, hL, hll, hgi, htk, k4]
      refine aCall_of (cRefGreat t.text _ _) ?_
      rintro d m' n' ⟨rfl, rfl, rfl⟩
      simp -dsimp [Tt, k4, namOk]
    · have k4' : (t.kind == 2) = false := by simp [k4]
      simp -dsimp [I, hm, rObj, rC, hb]
      refine vdraw_of [0, 1, 3, 7, 15, 31, 63, 127, 255, 511, 63, 1087, 3135, 7231, 15423, 32767, 65535, 131071, 262143, 524287, 1048575, 2097151, 262143, 4456447, 12845055, 29622271, 67108863, 134217727, 268435455, 536870911, 1073741823, 2147483647, 4294967295, 8589934591, 17179869183, 34359738367, 4294967295, 73014444031, 210453397503, 485331304447, 1099511627775, 2199023255551, 4398046511103, 8796093022207, 17592186044415, 35184372088831] [0, 1, 2, 3, 4, 5, 6, 7, 8, 9, 10, 11, 12, 13, 14, 15, 16, 17, 18, 19, 20, 21, 22, 23, 24, 25, 26, 27, 28, 29, 30, 31, 32, 33, 34, 35, 36, 37, 38, 39, 40, 41, 42, 43, 44, 45] (by kernel_rfl) (by kernel_rfl) ?_
      simp -dsimp [I, hm, rObj, rC, hb, ha, ha', Tt, toksD, hL, hll, hgi, htk, k4, k4']
theorem cWordR {l : List Tok} (hl : TkOk l) {p : PS} (g : Bool) {k : Nat} {m : Mem} {n : Nat} (hm : m k = some (rObj l p)) :
    ACalls Tryz.prog 144 [.ptr k 0 0 0, Tt (isNam g l p)] m n (fun d m' n' => d = S (nameF g l p).1 ∧ m' = m.set k (rObj l (nameF g l p).2) ∧ n' = n) := by
  refine acalls_vc [0, 1, 4, 6, 11] Tryz.func144 Tryz.ntmps144 (by kernel_rfl) rfl rfl (by simp) ?_
  cases hn : isNam g l p
  · rw [nameF, hn, if_neg (by simp)]
    by_cases hb : p.bad = 0
    · simp -dsimp [Tt, hm, rObj, rC, hb, I]
      simp [failF, hb, S]
    · have hb' : ((p.bad : Int) == 0) = false := by simp; omega
      simp -dsimp [Tt, hm, rObj, rC, hb, hb', I, S]
      rw [failF_bad hb]
      exact (set_self hm).symm
  · obtain ⟨t, ht⟩ : ∃ t, cur l p = some t := by
      unfold isNam at hn; split at hn
      · exact ⟨_, by assumption⟩
      · cases hn
    obtain ⟨hb, ha, hgt⟩ := cur_some ht
    have wa := wrap_at hl ha
    have ws : IntKind.i64.wrap ((p.at_ : Int) + 1 - 1) = p.at_ := by rw [wrap_i64 (by omega) (by have := hl.len; omega)]; omega
    have ws' : IntKind.i64.wrap (p.at_ : Int) = p.at_ := wrap_i64 (by omega) (by have := hl.len; omega)
    have hcT : curT l p = t.text := by simp [curT, ht]
    have hgx : l[p.at_] = t := get_opt hgt ha
    have hg : (l.map tokD)[p.at_]? = some (tokD t) := by simp [ha, hgx]
    have hll : (l.map tokD).length = l.length := by simp
    have htk : tokD t = [I t.kind, I t.at_, S t.text] := rfl
    generalize hL : l.map tokD = L at hg hll
    have hgi : L[p.at_]'(by omega) = tokD t := get_opt hg _
    rw [nameF, hn, if_pos rfl, hcT]
    simp -dsimp [Tt, hm, rObj, rC, I, wa]
    refine vdraw_of [0, 1, 3, 7, 0, 16, 48, 112, 240, 511, 1023, 2047, 4095] [0, 1, 2, 3, 4, 5, 6, 7, 8, 9, 10, 11, 12] (by kernel_rfl) (by kernel_rfl) ?_
    simp -dsimp [Tt, hm, rObj, rC, I, wa, ws, ws', toksD, hL, hll, hgi, htk, ha]
    simp [stepF, I, toksD, hL]
end Go.Proofs.Mv.App
open Go Go.Proofs Go.Proofs.Mv.V
set_option maxRecDepth 10000
namespace Go.Proofs.Mv.App
variable [GI]
def base4 (s : List UInt8) : Nat := if s = wList then 4 else baseN s
theorem base4_eq (s : List UInt8) : base4 s = if s = wInt then 1 else if s = wText then 2 else if s = wBool then 3 else if s = wList then 4 else 0 := by
  unfold base4 baseN
  by_cases h : s = wList
  · subst h; decide
  · simp [h]
theorem cBaseR (s : List UInt8) (m : Mem) (n : Nat) : ACalls Tryz.prog 146 [S s] m n (fun d m' n' => d = I (base4 s) ∧ m' = m ∧ n' = n) := by
  rw [base4_eq]
  refine acalls_vc [0, 2, 3, 4, 6, 8, 10] Tryz.func146 Tryz.ntmps146 (by kernel_rfl) rfl rfl (by simp) ?_
  by_cases e1 : s = wInt
  · have f1 : (s == [73, 110, 116]) = true := by simp [e1, wInt]
    rw [if_pos e1]
    simp -dsimp [S, I, f1]
  have f1 : (s == [73, 110, 116]) = false := by simpa [wInt] using e1
  rw [if_neg e1]
  by_cases e2 : s = wText
  · have f2 : (s == [84, 101, 120, 116]) = true := by simp [e2, wText]
    rw [if_pos e2]
    simp -dsimp [S, I, f1, f2]
  have f2 : (s == [84, 101, 120, 116]) = false := by simpa [wText] using e2
  rw [if_neg e2]
  by_cases e3 : s = wBool
  · have f3 : (s == [66, 111, 111, 108]) = true := by simp [e3, wBool]
    rw [if_pos e3]
    simp -dsimp [S, I, f1, f2, f3]
  have f3 : (s == [66, 111, 111, 108]) = false := by simpa [wBool] using e3
  rw [if_neg e3]
  by_cases e4 : s = wList
  · have f4 : (s == [76, 105, 115, 116]) = true := by simp [e4, wList]
    rw [if_pos e4]
    simp -dsimp [S, I, f1, f2, f3, f4]
  have f4 : (s == [76, 105, 115, 116]) = false := by simpa [wList] using e4
  rw [if_neg e4]
  simp -dsimp [S, I, f1, f2, f3, f4]
theorem begT_ref (t : Tok) : begT t = ((decide (t.kind = 1) && smallN t.text) || (decide (t.kind = 2) && greatN t.text) || (decide (t.kind = 4) && (decide (t.text = [123]) || decide (t.text = [91]) || decide (t.text = [40]) || decide (t.text = [60]))) || (decide (t.kind = 2) && decide (0 < base4 t.text))) := by
  unfold begT base4
  by_cases k2 : t.kind = 2
  · by_cases h : t.text = wList
    · simp [k2, h]
    · simp [k2, h]; cases greatN t.text <;> simp
  · by_cases k1 : t.kind = 1
    · simp [k1]
    · simp [k2, k1]
set_option maxHeartbeats 2000000 in
theorem cBeginsR {l : List Tok} (hl : TkOk l) {p : PS} {k : Nat} {m : Mem} {n : Nat} (hk : k < n) (hm : m k = some (rObj l p)) :
    ACalls Tryz.prog 141 [.ptr k 0 0 0] m n (fun d m' n' => d = Tt (begF l p) ∧ m' = m ∧ n' = n) := by
  refine acalls_done (R' := Hq (fun d m' n' => d = Tt (begF l p) ∧ ∀ j, j < n → m' j = m j) tg) ?_ ?_
  · have kn : k ≠ n := by omega
    have nk : n ≠ k := by omega
    have fr : ∀ o, ∀ j, j < n → (m.set n o) j = m j := fun o j hj => set_ne _ _ _ _ (by omega)
    refine acalls_vc [0, 2, 3, 4, 5, 6, 23] Tryz.func141 Tryz.ntmps141 (by kernel_rfl) rfl rfl (by simp) ?_
    by_cases hb : p.bad = 0
    case neg =>
      have hb' : ((p.bad : Int) != 0) = true := by simp; omega
      rw [begF_bad hb]
      simp -dsimp [I, S, hm, rObj, rC, hb, hb']
      refine vdraw_of [0, 1, 3, 7, 15, 31, 63, 127, 255, 511, 63, 1087, 3135, 7231, 15423, 32767, 65535] [0, 1, 2, 3, 4, 5, 6, 7, 8, 9, 10, 11, 12, 13, 14, 15, 16] (by kernel_rfl) (by kernel_rfl) ?_
      simp -dsimp [I, S, hm, rObj, rC, hb, hb', Tt]
      exact hq ⟨rfl, fun _ _ => rfl⟩
    by_cases ha : p.at_ < l.length
    case neg =>
      have ha' : (l.length : Int) ≤ p.at_ := by omega
      have ha2 : l.length ≤ p.at_ := by omega
      have : begF l p = false := by simp [begF, cur, hb, ha]
      rw [this]
      simp -dsimp [I, S, hm, rObj, rC, hb]
      refine vdraw_of [0, 1, 3, 7, 15, 31, 63, 127, 255, 511, 63, 1087, 3135, 7231, 15423, 32767, 65535] [0, 1, 2, 3, 4, 5, 6, 7, 8, 9, 10, 11, 12, 13, 14, 15, 16] (by kernel_rfl) (by kernel_rfl) ?_
      simp -dsimp [I, S, hm, rObj, rC, hb, ha, ha', ha2, Tt, toksD]
      exact hq ⟨rfl, fun _ _ => rfl⟩
    have ha' : ¬ (l.length : Int) ≤ p.at_ := by omega
    have ha2 : ¬ l.length ≤ p.at_ := by omega
    have hcur : cur l p = some l[p.at_] := by simp [cur, hb, ha]
    have hc : begF l p = begT l[p.at_] := by simp [begF, hcur]
    have hsm : isNam false l p = (decide (l[p.at_].kind = 1) && smallN l[p.at_].text) := by simp [isNam, hcur, namOk]
    have hgr : isNam true l p = (decide (l[p.at_].kind = 2) && greatN l[p.at_].text) := by simp [isNam, hcur, namOk]
    rw [hc, begT_ref, ← hsm, ← hgr]
    have hg : (l.map tokD)[p.at_]? = some (tokD l[p.at_]) := by simp [ha]
    have hll : (l.map tokD).length = l.length := by simp
    have htk : tokD l[p.at_] = [I l[p.at_].kind, I l[p.at_].at_, S l[p.at_].text] := rfl
    have c1 := fun (o : V.Obj) => cNamR hl (p := p) false (k := k) (m := m.set n o) (n := n + 1) (by rw [set_ne _ _ _ _ kn]; exact hm)
    have c2 := fun (o : V.Obj) => cNamR hl (p := p) true (k := k) (m := m.set n o) (n := n + 1) (by rw [set_ne _ _ _ _ kn]; exact hm)
    simp only [Bool.false_eq_true, if_false, if_true] at c1 c2
    clear hsm hgr hc hcur
    generalize hL : l.map tokD = L at hg hll
    have hgi : L[p.at_]'(by omega) = tokD l[p.at_] := get_opt hg _
    generalize l[p.at_] = t at *
    obtain ⟨kd, a, tx⟩ := t
    simp only at htk hgi ⊢
    simp -dsimp [I, hm, rObj, rC, hb]
    refine vdraw_of [0, 1, 3, 7, 15, 31, 63, 127, 255, 511, 63, 1087, 3135, 7231, 15423, 32767, 65535] [0, 1, 2, 3, 4, 5, 6, 7, 8, 9, 10, 11, 12, 13, 14, 15, 16] (by kernel_rfl) (by kernel_rfl) ?_
    simp -dsimp [I, hm, rObj, rC, hb, ha, ha', ha2, toksD, hL, hll]
    refine vdraw_of [0, 1, 3, 7, 0, 16, 48, 112, 255, 511, 0, 2047] [0, 1, 2, 3, 4, 5, 6, 7, 8, 9, 10, 11] (by kernel_rfl) (by kernel_rfl) ?_
    simp -dsimp [I, hm, rObj, rC, hb, ha, ha', ha2, toksD, hL, hll, hgi, htk, set_ne, kn, nk]
    refine aCall_of (c1 _) ?_
    rintro d m' n' ⟨rfl, rfl, rfl⟩
    simp -dsimp
    refine aCall_of (c2 _) ?_
    rintro d m' n' ⟨rfl, rfl, rfl⟩
    generalize isNam false l p = b1
    generalize isNam true l p = b2
    by_cases k4 : kd = 4
    · subst k4
      by_cases t1 : tx = [123]
      · have t1' : (tx == [123]) = true := by simp [t1]
        cases b1 <;> cases b2 <;> (simp -dsimp [I, S, Tt, t1']; exact hq ⟨by simp [Tt, t1], fr _⟩)
      have t1' : (tx == [123]) = false := by simp [t1]
      by_cases t2 : tx = [91]
      · have t2' : (tx == [91]) = true := by simp [t2]
        cases b1 <;> cases b2 <;> (simp -dsimp [I, S, Tt, t1', t2']; exact hq ⟨by simp [Tt, t2], fr _⟩)
      have t2' : (tx == [91]) = false := by simp [t2]
      by_cases t3 : tx = [40]
      · have t3' : (tx == [40]) = true := by simp [t3]
        cases b1 <;> cases b2 <;> (simp -dsimp [I, S, Tt, t1', t2', t3']; exact hq ⟨by simp [Tt, t3], fr _⟩)
      have t3' : (tx == [40]) = false := by simp [t3]
      by_cases t4 : tx = [60]
      · have t4' : (tx == [60]) = true := by simp [t4]
        cases b1 <;> cases b2 <;> (simp -dsimp [I, S, Tt, t1', t2', t3', t4']; exact hq ⟨by simp [Tt, t4], fr _⟩)
      have t4' : (tx == [60]) = false := by simp [t4]
      cases b1 <;> cases b2 <;> (simp -dsimp [I, S, Tt, t1', t2', t3', t4']; exact hq ⟨by simp [Tt, t1, t2, t3, t4], fr _⟩)
    have k4' : (kd == 4) = false := by simp [k4]
    by_cases k2 : kd = 2
    · subst k2
      cases b1
      · cases b2
        · simp -dsimp [I, S, Tt]
          refine aCall_of (cBaseR tx _ _) ?_
          rintro d m' n' ⟨rfl, rfl, rfl⟩
          simp -dsimp [I, Tt]
          exact hq ⟨by simp [Tt], fr _⟩
        · simp -dsimp [I, S, Tt]
          exact hq ⟨by simp [Tt], fr _⟩
      · cases b2 <;> (simp -dsimp [I, S, Tt]; exact hq ⟨by simp [Tt], fr _⟩)
    have k2' : (kd == 2) = false := by simp [k2]
    cases b1 <;> cases b2 <;> (simp -dsimp [I, S, Tt, k4', k2']; exact hq ⟨by simp [Tt, k4, k2], fr _⟩)
  · rintro d m' n' ⟨rfl, h⟩
    exact ⟨_, (pur_T _).pub, h, rfl⟩
structure MajInv (s : List UInt8) (k : Nat) (m : Mem) (n : Nat) (i : Nat) (σ : Nat → D) (m2 : Mem) (n2 : Nat) : Prop where
  h0 : σ 0 = .ptr k 0 0 0
  h3 : σ 3 = S s
  ex : ∃ (ok : Bool) (v : Int), σ 5 = Tt ok ∧ σ 4 = I v ∧ σ 6 = I i ∧ i ≤ s.length ∧ (ok = true → (s.take i).all isDigit = true ∧ v = decF (s.take i) ∧ (i = 0 ∨ s.head? ≠ some 48) ∧ 1 ≤ s.length ∧ s.length ≤ 9) ∧ (ok = false → numOk s = false)
  mm : m2 = m
  nn : n2 = n
set_option maxHeartbeats 2000000 in
theorem cMajor {l : List Tok} (hl : TkOk l) {p : PS} {k : Nat} {m : Mem} {n : Nat} (hm : m k = some (rObj l p)) :
    ACalls Tryz.prog 149 [.ptr k 0 0 0] m n (fun d m' n' => d = I (numF l p).1 ∧ m' = m.set k (rObj l (numF l p).2) ∧ n' = n) := by
  have badc : isNum l p = false → numF l p = (0, failF 2 p) := fun h => by simp [numF, h]
  refine acalls_vc [0, 2, 3, 4, 5, 6, 37, 65, 97] Tryz.func149 Tryz.ntmps149 (by kernel_rfl) rfl rfl (by simp) ?_
  by_cases hb : p.bad = 0
  case neg =>
    have hb' : ((p.bad : Int) != 0) = true := by simp; omega
    rw [badc (isNum_bad hb)]
    simp -dsimp [I, S, hm, rObj, rC, hb, hb']
    refine vdraw_of [0, 1, 3, 7, 15, 31, 63, 127, 255, 511, 63, 1087, 3135, 7231, 15423, 32767, 65535, 131071, 262143, 524287, 1048575, 2097151, 262143, 4456447, 12845055, 29622271, 67108863, 134217727, 268435455, 536870911, 1073741823] [0, 1, 2, 3, 4, 5, 6, 7, 8, 9, 10, 11, 12, 13, 14, 15, 16, 17, 18, 19, 20, 21, 22, 23, 24, 25, 26, 27, 28, 29, 30] (by kernel_rfl) (by kernel_rfl) ?_
    simp -dsimp [I, S, hm, rObj, rC, hb, hb', Tt]
    refine aCall_of (cWrong hm) ?_
    rintro d m' n' ⟨rfl, rfl, rfl⟩
    simp -dsimp [rObj, rC, I]
  by_cases ha : p.at_ < l.length
  case neg =>
    have ha' : (l.length : Int) ≤ p.at_ := by omega
    have ha2 : l.length ≤ p.at_ := by omega
    rw [badc (by simp [isNum, cur, hb, ha])]
    simp -dsimp [I, S, hm, rObj, rC, hb]
    refine vdraw_of [0, 1, 3, 7, 15, 31, 63, 127, 255, 511, 63, 1087, 3135, 7231, 15423, 32767, 65535, 131071, 262143, 524287, 1048575, 2097151, 262143, 4456447, 12845055, 29622271, 67108863, 134217727, 268435455, 536870911, 1073741823] [0, 1, 2, 3, 4, 5, 6, 7, 8, 9, 10, 11, 12, 13, 14, 15, 16, 17, 18, 19, 20, 21, 22, 23, 24, 25, 26, 27, 28, 29, 30] (by kernel_rfl) (by kernel_rfl) ?_
    simp -dsimp [I, S, hm, rObj, rC, hb, ha, ha', ha2, Tt, toksD]
    refine aCall_of (cWrong hm) ?_
    rintro d m' n' ⟨rfl, rfl, rfl⟩
    simp -dsimp [rObj, rC, I, toksD]
  have ha' : ¬ (l.length : Int) ≤ p.at_ := by omega
  have ha2 : ¬ l.length ≤ p.at_ := by omega
  have wa := wrap_at hl ha
  have hcur : cur l p = some l[p.at_] := by simp [cur, hb, ha]
  have hnum : isNum l p = (decide (l[p.at_].kind = 3) && numOk l[p.at_].text) := by simp [isNum, hcur]
  have hcT : curT l p = l[p.at_].text := by simp [curT, hcur]
  have hlen : l[p.at_].text.length ≤ 1000000 := hl.txt _ (List.getElem_mem ha)
  have hg : (l.map tokD)[p.at_]? = some (tokD l[p.at_]) := by simp [ha]
  have hll : (l.map tokD).length = l.length := by simp
  have htk : tokD l[p.at_] = [I l[p.at_].kind, I l[p.at_].at_, S l[p.at_].text] := rfl
  have hT : toksD l = .sl 3 (l.map tokD) := rfl
  generalize hL : l.map tokD = L at hg hll hT
  have hgi : L[p.at_]'(by omega) = tokD l[p.at_] := get_opt hg _
  clear hcur
  generalize l[p.at_] = t at *
  obtain ⟨kd, a, tx⟩ := t
  simp only at htk hgi hnum hcT hlen
  by_cases k3 : kd = 3
  case neg =>
    have k3' : (kd != 3) = true := by simp [k3]
    rw [badc (by rw [hnum]; simp [k3])]
    simp -dsimp [I, hm, rObj, rC, hb]
    refine vdraw_of [0, 1, 3, 7, 15, 31, 63, 127, 255, 511, 63, 1087, 3135, 7231, 15423, 32767, 65535, 131071, 262143, 524287, 1048575, 2097151, 262143, 4456447, 12845055, 29622271, 67108863, 134217727, 268435455, 536870911, 1073741823] [0, 1, 2, 3, 4, 5, 6, 7, 8, 9, 10, 11, 12, 13, 14, 15, 16, 17, 18, 19, 20, 21, 22, 23, 24, 25, 26, 27, 28, 29, 30] (by kernel_rfl) (by kernel_rfl) ?_
    simp -dsimp [I, hm, rObj, rC, hb, ha, ha', ha2, Tt, hT, hll, hgi, htk, k3, k3']
    refine aCall_of (cWrong hm) ?_
    rintro d m' n' ⟨rfl, rfl, rfl⟩
    simp -dsimp [rObj, rC, I]
  have hn3 : isNum l p = numOk tx := by rw [hnum]; simp [k3]
  subst k3
  simp -dsimp [I, hm, rObj, rC, hb]
  refine vdraw_of [0, 1, 3, 7, 15, 31, 63, 127, 255, 511, 63, 1087, 3135, 7231, 15423, 32767, 65535, 131071, 262143, 524287, 1048575, 2097151, 262143, 4456447, 12845055, 29622271, 67108863, 134217727, 268435455, 536870911, 1073741823] [0, 1, 2, 3, 4, 5, 6, 7, 8, 9, 10, 11, 12, 13, 14, 15, 16, 17, 18, 19, 20, 21, 22, 23, 24, 25, 26, 27, 28, 29, 30] (by kernel_rfl) (by kernel_rfl) ?_
  simp -dsimp [I, hm, rObj, rC, hb, ha, ha', ha2, Tt, hT, hll, hgi, htk]
  refine vdraw_of [0, 1, 3, 7, 0, 16, 48, 112, 255, 511, 1023, 2047] [0, 1, 2, 3, 4, 5, 6, 7, 8, 9, 10, 11] (by kernel_rfl) (by kernel_rfl) ?_
  simp -dsimp [I, hm, rObj, rC, hb, ha, ha', ha2, Tt, hT, hll, hgi, htk]
  have start : ∀ (ok : Bool), ok = (decide (1 ≤ tx.length) && decide (tx.length ≤ 9)) → ∀ σ : Nat → D, σ 0 = .ptr k 0 0 0 → σ 3 = S tx → σ 5 = Tt ok → σ 4 = I 0 → σ 6 = I 0 → MajInv tx k m n 0 σ m n := by
    intro ok hok σ a0 a3 a5 a4 a6
    refine ⟨a0, a3, ⟨ok, 0, a5, a4, a6, by omega, fun h => ?_, fun h => ?_⟩, rfl, rfl⟩
    · rw [hok] at h
      simp at h
      exact ⟨rfl, rfl, .inl rfl, by omega, by omega⟩
    · rw [hok] at h
      unfold numOk; rw [h]; rfl
  clear htk hgi hg
  by_cases l1 : 1 ≤ (tx.length : Int)
  case' pos =>
    have l1' : 1 ≤ tx.length := by omega
    simp -dsimp [S, l1, l1']
    refine vloop_of (β := Nat) (MajInv tx k m n) (fun i => tx.length - i) 0 (start (decide (tx.length ≤ 9)) (by simp [l1']) _ (by simp) (by simp [S]) (by simp [Tt]; omega) (by simp [I]) (by simp [I])) ?_
  case' neg =>
    have l1' : ¬ 1 ≤ tx.length := by omega
    simp -dsimp [S, l1, l1']
    refine vloop_of (β := Nat) (MajInv tx k m n) (fun i => tx.length - i) 0 (start false (by simp [l1']) _ (by simp) (by simp [S]) (by simp [Tt]) (by simp [I]) (by simp [I])) ?_
  all_goals
    rintro i σ m2 n2 ⟨h0, h3, ⟨ok, v, h5, h4, h6, le, hok, hno⟩, rfl, rfl⟩
    have wi : IntKind.i64.wrap ((i : Int) + 1) = (i : Int) + 1 := wrap_i64 (by omega) (by omega)
    by_cases hi : i < tx.length
    · have hi2 : (i : Int) < tx.length := by omega
      cases ok
      · have hf : isNum l p = false := by rw [hn3]; exact hno rfl
        rw [badc hf]
        simp -dsimp [h0, h3, h4, h5, h6, S, I, Tt, hi, hi2]
        refine aCall_of (cWrong hm) ?_
        rintro d m' n' ⟨rfl, rfl, rfl⟩
        simp -dsimp [I, rObj, rC]
      · obtain ⟨hall, hv, hhd, q1, q9⟩ := hok rfl
        have hsm := decF_small hall (by simp; omega)
        have hxlt := tx[i].toNat_lt
        have htk : tx.take (i + 1) = tx.take i ++ [tx[i]] := List.take_succ_eq_append_getElem hi
        have w1 : IntKind.i64.wrap (10 * v) = 10 * v := wrap_i64 (by omega) (by omega)
        have w2 : IntKind.i64.wrap (10 * v + (tx[i].toNat : Int)) = 10 * v + tx[i].toNat := wrap_i64 (by omega) (by omega)
        have w3 : IntKind.i64.wrap (10 * v + (tx[i].toNat : Int) - 48) = 10 * v + tx[i].toNat - 48 := wrap_i64 (by omega) (by omega)
        have nxt : ∀ (ok' : Bool) (σ' : Nat → D), σ' 0 = .ptr k 0 0 0 → σ' 3 = S tx → σ' 5 = Tt ok' → σ' 4 = I (10 * v + tx[i].toNat - 48) → σ' 6 = I ((i : Int) + 1) → ok' = (isDigit tx[i] && (decide (0 < i) || decide (48 < tx[i].toNat))) →
            ∃ b', tx.length - b' < tx.length - i ∧ MajInv tx k m2 n2 b' σ' m2 n2 := by
          intro ok' σ' a0 a3 a5 a4 a6 ho
          refine ⟨i + 1, by omega, a0, a3, ⟨ok', _, a5, a4, by rw [a6]; simp [I], by omega, fun h => ?_, fun h => ?_⟩, rfl, rfl⟩
          · rw [ho] at h
            simp only [Bool.and_eq_true, Bool.or_eq_true, decide_eq_true_eq] at h
            have hx : 48 ≤ tx[i].toNat := by have := h.1; simp [isDigit] at this; omega
            refine ⟨by rw [htk, List.all_append, hall]; simp [h.1], by rw [htk, decF_snoc]; omega, .inr ?_, q1, q9⟩
            rcases hhd with e | e
            · subst e
              rcases h.2 with h2 | h2
              · omega
              · intro e
                have h0 : tx.head? = some tx[0] := by cases tx with | nil => simp at hi | cons a b => rfl
                rw [h0] at e
                have := Option.some.inj e
                rw [this] at h2; simp at h2
            · exact e
          · rw [ho] at h
            cases hd : isDigit tx[i]
            · have : tx.all isDigit = false := by
                cases e : tx.all isDigit
                · rfl
                · have := List.all_eq_true.1 e tx[i] (List.getElem_mem hi); rw [hd] at this; cases this
              simp [numOk, this]
            · rw [hd] at h
              simp only [Bool.true_and, Bool.or_eq_false_iff, decide_eq_false_iff_not] at h
              have i0 : i = 0 := by omega
              subst i0
              have h0 : tx.head? = some tx[0] := by cases tx with | nil => simp at hi | cons a b => rfl
              have hx : tx[0].toNat = 48 := by simp [isDigit] at hd; omega
              have : tx[0] = 48 := UInt8.toNat_inj.1 hx
              simp [numOk, h0, this]
        by_cases c1 : 48 ≤ (tx[i].toNat : Int)
        case neg =>
          simp -dsimp [h0, h3, h4, h5, h6, S, I, Tt, hi, hi2, c1, w1, w2, w3, wi]
          exact nxt false _ (by simp) (by simp [S]) (by simp [Tt]) (by simp [I]) (by simp [I]) (by
            have : isDigit tx[i] = false := by simp [isDigit]; omega
            simp [this])
        by_cases c2 : (tx[i].toNat : Int) ≤ 57
        case neg =>
          simp -dsimp [h0, h3, h4, h5, h6, S, I, Tt, hi, hi2, c1, c2, w1, w2, w3, wi]
          exact nxt false _ (by simp) (by simp [S]) (by simp [Tt]) (by simp [I]) (by simp [I]) (by
            have : isDigit tx[i] = false := by simp [isDigit]; omega
            simp [this])
        have hd : isDigit tx[i] = true := by simp [isDigit]; omega
        by_cases c3 : (0 : Int) < i
        · have c3' : 0 < i := by omega
          simp -dsimp [h0, h3, h4, h5, h6, S, I, Tt, hi, hi2, c1, c2, c3, c3', w1, w2, w3, wi]
          exact nxt true _ (by simp) (by simp [S]) (by simp [Tt]) (by simp [I]) (by simp [I]) (by simp [hd, c3'])
        · have c3' : ¬ 0 < i := by omega
          by_cases c4 : 48 < (tx[i].toNat : Int)
          · simp -dsimp [h0, h3, h4, h5, h6, S, I, Tt, hi, hi2, c1, c2, c3, c3', c4, w1, w2, w3, wi]
            exact nxt true _ (by simp) (by simp [S]) (by simp [Tt]) (by simp [I]) (by simp [I]) (by simp [hd]; omega)
          · simp -dsimp [h0, h3, h4, h5, h6, S, I, Tt, hi, hi2, c1, c2, c3, c3', c4, w1, w2, w3, wi]
            exact nxt false _ (by simp) (by simp [S]) (by simp [Tt]) (by simp [I]) (by simp [I]) (by simp [hd]; omega)
    · have hi2 : ¬ (i : Int) < tx.length := by omega
      have hil : i = tx.length := by omega
      cases ok
      · have hf : isNum l p = false := by rw [hn3]; exact hno rfl
        rw [badc hf]
        simp -dsimp [h0, h3, h4, h5, h6, S, I, Tt, hi, hi2]
        refine aCall_of (cWrong hm) ?_
        rintro d m' n' ⟨rfl, rfl, rfl⟩
        simp -dsimp [I, rObj, rC]
      · obtain ⟨hall, hv, hhd, q1, q9⟩ := hok rfl
        rw [hil, List.take_length] at hall hv
        have hnt : isNum l p = true := by
          rw [hn3]; simp only [numOk, hall, Bool.and_true, Bool.and_eq_true, decide_eq_true_eq]
          refine ⟨⟨q1, q9⟩, ?_⟩
          rcases hhd with e | e
          · omega
          · exact e
        have hnf : numF l p = (decF tx, stepF p) := by simp [numF, hnt, hcT]
        rw [hnf]
        simp -dsimp [h0, h3, h4, h5, h6, S, I, Tt, hi, hi2, hm, rObj, rC, wa, hv]
        simp [stepF]
end Go.Proofs.Mv.App
open Go Go.Proofs Go.Proofs.Mv.V
set_option maxRecDepth 10000
namespace Go.Proofs.Mv.App
variable [GI]
def TyRR (l : List Tok) (k : Nat) (m : Mem) (n : Nat) (t : Ty) (q : PS) (d : D) (m' : Mem) (n' : Nat) : Prop :=
  (∃ t', d = .agg (tyD t') ∧ (q.bad = 0 → t' = t)) ∧ m' = m.set k (rObj l q) ∧ n' = n
def TyQR (l : List Tok) (k : Nat) (m : Mem) (n : Nat) (t : Ty) (q : PS) : D → Mem → Nat → Prop :=
  Hq (fun d m' n' => ∃ t', PubAs n m' d (.agg (tyD t')) ∧ (q.bad = 0 → t' = t) ∧ m' k = some (rObj l q) ∧ ∀ j, j < n → j ≠ k → m' j = m j) tg
theorem acalls_tyr {f : FuncId} {args : List D} {l : List Tok} {k : Nat} {m : Mem} {n : Nat} {t : Ty} {q : PS} (hk : k < n) (h : ACalls Tryz.prog f args m n (TyQR l k m n t q)) : ACalls Tryz.prog f args m n (TyRR l k m n t q) := by
  refine acalls_put (X := fun d => ∃ t', d = .agg (tyD t') ∧ (q.bad = 0 → t' = t)) k hk _ h ?_
  rintro d m' n' ⟨t', h1, h2, h3, h4⟩
  exact ⟨.agg (tyD t'), _, h1, h3, .pur (pur_rObj _ _), h4, t', rfl, h2⟩
theorem tyqr {l : List Tok} {k : Nat} {m : Mem} {n : Nat} {t : Ty} {q : PS} {d : D} {m' : Mem} {n' : Nat} (t' : Ty) (h1 : PubAs n m' d (.agg (tyD t'))) (h2 : q.bad = 0 → t' = t) (h3 : m' k = some (rObj l q)) (h4 : ∀ j, j < n → j ≠ k → m' j = m j) : TyQR l k m n t q d m' n' := ⟨t', h1, h2, h3, h4⟩
def RTypC (l : List Tok) (r : Nat) : Prop := ∀ (p : PS) (k : Nat) (m : Mem) (n : Nat), k < n → m k = some (rObj l p) → ACalls Tryz.prog 104 [.ptr k 0 0 0, I (33 - r)] m n (TyRR l k m n (typF l r p).1 (typF l r p).2)
theorem cOne {l : List Tok} (hl : TkOk l) {r : Nat} (hr : r ≤ 32) (H : RTypC l r) {p : PS} {k : Nat} {m : Mem} {n : Nat} (hk : k < n) (hm : m k = some (rObj l p)) (c : Nat) (hc : c ≤ 100) :
    ACalls Tryz.prog 191 [.ptr k 0 0 0, I c, I (32 - r)] m n (TyRR l k m n (subF l (typF l r) c p).1 (subF l (typF l r) c p).2) := by
  have kn : k ≠ n := by omega
  have nk : n ≠ k := by omega
  have wd : IntKind.i64.wrap ((32 : Int) - r + 1) = 33 - r := by rw [wrap_i64 (by omega) (by omega)]; omega
  refine acalls_tyr hk ?_
  refine acalls_vcC [0, 1, 2, 6, 7, 14] Tryz.func191 Tryz.ntmps191 (by kernel_rfl) rfl rfl (by simp) ?_
  simp -dsimp [I]
  refine aCall_of (cBeginsR hl (p := p) (by omega) (by rw [set_ne _ _ _ _ kn]; exact hm)) ?_
  rintro d m' n' ⟨rfl, rfl, rfl⟩
  have go : subF l (typF l r) c p = typF l r p → ∀ (K : D → Mem → Nat → Prop) (u : Tg K () ()), True := fun _ _ _ => trivial
  clear go
  cases hb : begF l p
  · have he : subF l (typF l r) c p = typF l r p := by simp [subF, hb]
    rw [he]
    simp -dsimp [Tt, wd, I]
    refine aCall_of (H p k _ _ (by omega) (by rw [set_ne _ _ _ _ kn]; exact hm)) ?_
    rintro d m' n' ⟨⟨t', rfl, ht'⟩, rfl, rfl⟩
    simp -dsimp [set_ne, kn, nk]
    refine tyqr t' (pur_tyA t').pub ht' (by simp [set_ne, kn]) fun j hj hjk => ?_
    have j1 : j ≠ n := by omega
    simp [set_ne, j1, hjk]
  · by_cases h20 : 20 ≤ (c : Int)
    · have h20' : 20 ≤ c := by omega
      have hbd : p.bad = 0 := by
        cases q : p.bad with
        | zero => rfl
        | succ q => rw [begF_bad (by omega)] at hb; cases hb
      have he : subF l (typF l r) c p = (Ty0, failF 3 p) := by simp [subF, hb, h20']
      rw [he]
      simp -dsimp [Tt, wd, I, h20, h20', set_ne, kn, nk, hm, rObj, rC]
      refine tyqr Ty0 (pub_build 0 [] 0 [] []) (fun _ => rfl) (by simp [set_ne, kn, rObj, rC, failF, hbd, I]) fun j hj hjk => ?_
      have j1 : j ≠ n := by omega
      simp [set_ne, j1, hjk]
    · have h20' : ¬ 20 ≤ c := by omega
      have he : subF l (typF l r) c p = typF l r p := by simp [subF, h20']
      rw [he]
      simp -dsimp [Tt, wd, I, h20, h20']
      refine aCall_of (H p k _ _ (by omega) (by rw [set_ne _ _ _ _ kn]; exact hm)) ?_
      rintro d m' n' ⟨⟨t', rfl, ht'⟩, rfl, rfl⟩
      simp -dsimp [set_ne, kn, nk]
      refine tyqr t' (pur_tyA t').pub ht' (by simp [set_ne, kn]) fun j hj hjk => ?_
      have j1 : j ≠ n := by omega
      simp [set_ne, j1, hjk]
def out7 (dl : D) : V.Obj := ⟨7, [[I 7, S [], I 0, S [], S [], .v (.slice none 0 0), dl]], 0⟩
structure RFInv (l : List Tok) (r : Nat) (p0 : PS) (k : Nat) (m : Mem) (n : Nat) (b : Nat × Bool) (σ : Nat → D) (m2 : Mem) (n2 : Nat) : Prop where
  h0 : σ 0 = .ptr k 0 0 0
  h1 : σ 1 = I (32 - r)
  h4 : σ 4 = .ptr n 0 0 0
  h5 : σ 5 = .ptr (n + 1) 0 0 0
  h6 : σ 6 = Tt b.2
  nn : n + 2 ≤ n2
  m4 : m2 n = some ⟨7, [zero7], 0⟩
  fr : ∀ j, j < n → j ≠ k → m2 j = m j
  ex : ∃ ts ts' dl q, m2 (n + 1) = some (out7 dl) ∧ Lst m2 7 (ts'.map tyD) dl ∧ (∀ j, kof dl = some j → n + 2 ≤ j ∧ j < n2) ∧ m2 k = some (rObj l q) ∧ As ts' ts q ∧ ts.length ≤ 22 ∧
    (b.2 = true → headF l r p0 = funF l (typF l r) b.1 ts q ∧ ts.length + b.1 = 22 ∧ (20 < ts.length → q.bad ≠ 0)) ∧ (b.2 = false → headF l r p0 = (ts, q))
structure RFMid (l : List Tok) (r : Nat) (p0 : PS) (k : Nat) (m : Mem) (n : Nat) (σ : Nat → D) (m2 : Mem) (n2 : Nat) : Prop where
  h0 : σ 0 = .ptr k 0 0 0
  h1 : σ 1 = I (32 - r)
  h4 : σ 4 = .ptr n 0 0 0
  h5 : σ 5 = .ptr (n + 1) 0 0 0
  nn : n + 2 ≤ n2
  m4 : m2 n = some ⟨7, [zero7], 0⟩
  fr : ∀ j, j < n → j ≠ k → m2 j = m j
  ex : ∃ ts' dl, m2 (n + 1) = some (out7 dl) ∧ Lst m2 7 (ts'.map tyD) dl ∧ (∀ j, kof dl = some j → n + 2 ≤ j ∧ j < n2) ∧ m2 k = some (rObj l (headF l r p0).2) ∧ As ts' (headF l r p0).1 (headF l r p0).2 ∧ ts'.length ≤ 22
structure RFPre (l : List Tok) (r : Nat) (p0 : PS) (k : Nat) (m : Mem) (n : Nat) (σ : Nat → D) (m2 : Mem) (n2 : Nat) : Prop where
  inv : ∃ b : Bool, RFInv l r p0 k m n (22, b) σ m2 n2
set_option maxHeartbeats 4000000 in
theorem cFunR {l : List Tok} (hl : TkOk l) {r : Nat} (hr : r ≤ 31) (H : RTypC l r) {p : PS} {k : Nat} {m : Mem} {n : Nat} (hk : k < n) (hm : m k = some (rObj l p)) :
    ACalls Tryz.prog 150 [.ptr k 0 0 0, I (32 - r)] m n (TyRR l k m n (funcF l (typF l r) p).1 (funcF l (typF l r) p).2) := by
  have kn : k ≠ n := by omega
  have nk : n ≠ k := by omega
  have kn1 : k ≠ n + 1 := by omega
  have n1k : n + 1 ≠ k := by omega
  have nn1 : n ≠ n + 1 := by omega
  have n1n : n + 1 ≠ n := by omega
  have hfun : funcF l (typF l r) p = (.mk 7 [] 0 [] [] [] ((headF l r p).1 ++ [(subF l (typF l r) (headF l r p).1.length (mustF [45, 62] l (headF l r p).2)).1]), (subF l (typF l r) (headF l r p).1.length (mustF [45, 62] l (headF l r p).2)).2) := rfl
  have hz : zero7 = [I 0, S [], I 0, S [], S [], .v (.slice none 0 0), .v (.slice none 0 0)] := rfl
  refine acalls_tyr hk ?_
  refine acalls_vcC [0, 1, 4, 5, 6, 9, 24, 37] Tryz.func150 Tryz.ntmps150 (by kernel_rfl) rfl rfl (by simp) ?_
  rw [vc_seq]
  simp -dsimp [-vc_seq, -vc_block]
  rw [vc_seq]
  simp -dsimp [-vc_seq, -vc_block]
  rw [vc_seq]
  simp -dsimp [-vc_seq, -vc_block]
  rw [vc_seq]
  refine vc_mid (RFPre l r p k m n) ?_ ?_
  · have hm2 : ((m.set n ⟨7, [zero7], 0⟩).set (n + 1) (out7 (.v (.slice none 0 0)))) k = some (rObj l p) := by rw [set_ne _ _ _ _ kn1, set_ne _ _ _ _ kn]; exact hm
    have hfr : ∀ j, j < n → j ≠ k → ((m.set n ⟨7, [zero7], 0⟩).set (n + 1) (out7 (.v (.slice none 0 0)))) j = m j := fun j hj hjk => by rw [set_ne _ _ _ _ (by omega), set_ne _ _ _ _ (by omega)]
    have hm1 : ((m.set n ⟨7, [zero7], 0⟩).set (n + 1) (out7 (.v (.slice none 0 0)))) (n + 1) = some (out7 (.v (.slice none 0 0))) := set_same _ _ _
    have hm0 : ((m.set n ⟨7, [zero7], 0⟩).set (n + 1) (out7 (.v (.slice none 0 0)))) n = some ⟨7, [zero7], 0⟩ := by rw [set_ne _ _ _ _ nn1, set_same]
    have hM : ((m.set n ⟨7, [[D.v (.int .i64 0), .v (.string (ofL [])), .v (.int .i64 0), .v (.string (ofL [])), .v (.string (ofL [])), .v (.slice none 0 0), .v (.slice none 0 0)]], 0⟩).set (n + 1) ⟨7, [[D.v (.int .i64 7), .v (.string (ofL [])), .v (.int .i64 0), .v (.string (ofL [])), .v (.string (ofL [])), .v (.slice none 0 0), .v (.slice none 0 0)]], 0⟩) = ((m.set n ⟨7, [zero7], 0⟩).set (n + 1) (out7 (.v (.slice none 0 0)))) := rfl
    simp -dsimp
    rw [hM]
    generalize ((m.set n ⟨7, [zero7], 0⟩).set (n + 1) (out7 (.v (.slice none 0 0)))) = M at hm2 hfr hm1 hm0
    refine aCall_of (cIs [41] hm2) ?_
    rintro d m' n' ⟨rfl, rfl, rfl⟩
    cases hs : isSig [41] l p
    · simp -dsimp [Tt]
      exact ⟨true, by simp, by simp, by simp, by simp, by simp [Tt], by omega, hm0, hfr, [], [], _, p, hm1, by simpa using Lst.nil, by simp, hm2, ⟨rfl, fun _ => rfl⟩, by simp, fun _ => ⟨by rw [headF, hs, if_neg (by simp)], by simp, by simp⟩, by simp⟩
    · have hat : p.at_ < l.length := by
        unfold isSig at hs; split at hs
        · rename_i t ht; exact (cur_some ht).2.1
        · cases hs
      have wa := wrap_at hl hat
      simp -dsimp [Tt, hm2, rObj, rC, I, wa]
      rw [rObj_step]
      exact ⟨false, by simp, by simp [I], by simp, by simp, by simp [Tt], by omega, by rw [set_ne _ _ _ _ nk]; exact hm0, fun j hj hjk => by rw [set_ne _ _ _ _ hjk]; exact hfr j hj hjk, [], [], _, stepF p, by rw [set_ne _ _ _ _ n1k]; exact hm1, by simpa using Lst.nil, by simp, by simp, ⟨rfl, fun _ => rfl⟩, by simp, by simp, fun _ => by rw [headF, hs, if_pos rfl]⟩
  rintro σ0 m0 n0 ⟨b0, hinv0⟩
  rw [vc_seq]
  refine vc_mid (RFMid l r p k m n) ?_ ?_
  · rw [vc_block, vc_loop]
    refine vloop_of (β := Nat × Bool) (RFInv l r p k m n) (fun b => 2 * b.1 + (if b.2 then 1 else 0)) (22, b0) hinv0 ?_
    rintro ⟨rem, more⟩ σ m2 n2 ⟨h0, h1, h4, h5, h6, nn, m4, fr, ts, ts', dl, q, ho, hL, hkk, hpk, has, hle, hmore, hdone⟩
    simp only at h6 hmore hdone
    have mid : headF l r p = (ts, q) → ∀ (σ' : Nat → D), σ' 0 = .ptr k 0 0 0 → σ' 1 = I (32 - r) → σ' 4 = .ptr n 0 0 0 → σ' 5 = .ptr (n + 1) 0 0 0 → RFMid l r p k m n σ' m2 n2 := by
      intro e σ' a0 a1 a4 a5
      exact ⟨a0, a1, a4, a5, nn, m4, fr, ts', dl, ho, hL, hkk, by rw [e]; exact hpk, by rw [e]; exact has, by rw [has.1]; exact hle⟩
    cases more
    · simp -dsimp [-vc_block, h0, h1, h4, h5, h6, Tt]
      exact mid (hdone rfl) _ (by simp [h0]) (by simp [h1]) (by simp [h4]) (by simp [h5])
    obtain ⟨hrec, hrem, h20⟩ := hmore rfl
    by_cases hqb : q.bad = 0
    case neg =>
      have hqb' : ((q.bad : Int) == 0) = false := by simp; omega
      simp -dsimp [-vc_block, h0, h1, h4, h5, h6, Tt, hpk, rObj, rC, I, hqb, hqb']
      exact mid (by rw [hrec, funF_bad hqb]) _ (by simp [h0]) (by simp [h1, I]) (by simp [h4]) (by simp [h5])
    have hts20 : ts.length ≤ 20 := by
      rcases Nat.lt_or_ge 20 ts.length with h | h
      · exact absurd hqb (h20 h)
      · exact h
    obtain ⟨rem', rfl⟩ : ∃ rem', rem = rem' + 1 := ⟨rem - 1, by omega⟩
    have hT : ts' = ts := has.2 hqb
    subst hT
    simp only [funF, hqb, ne_eq, not_true_eq_false, if_false] at hrec
    have hll := lenD_lst hL
    rw [List.length_map] at hll
    have hokd := okD_lst hL
    have hkn2 : k < n2 := by omega
    have hon : out7 dl = ⟨7, [[I 7, S [], I 0, S [], S [], .v (.slice none 0 0), dl]], 0⟩ := rfl
    simp -dsimp [-vc_block, h0, h1, h4, h5, h6, Tt, hpk, rObj, rC, I, hqb]
    rw [vc_block]
    simp -dsimp [-vc_block, h0, h1, h4, h5, h6]
    refine vdraw_of [0, 1, 0, 0, 8, 24, 0, 124, 252, 511, 1023, 2047] [0, 1, 2, 3, 4, 5, 6, 7, 8, 9, 10, 11] (by kernel_rfl) (by kernel_rfl) ?_
    simp -dsimp [-vc_block, h0, h1, h4, h5, h6, ho, hon, hll, I]
    have n12 : n + 1 ≠ n2 := by omega
    have n21 : n2 ≠ n + 1 := by omega
    have k2 : k ≠ n2 := by omega
    have k2' : n2 ≠ k := by omega
    refine aCall_of (cOne hl (by omega) H hkn2 hpk ts'.length (by omega)) ?_
    rintro d m' n' ⟨⟨t', rfl, ht'⟩, rfl, rfl⟩
    simp -dsimp [-vc_block, h0, h1, h4, h5, h6, ho, hon, hll, set_ne, n1k, I, n12, n21]
    generalize hq1 : subF l (typF l r) ts'.length q = q1 at hrec ht' ⊢
    refine b4_append (hL.frame fun j hj => ?_) (fun j hj => by have := hkk j hj; omega) trivial trivial (by omega) (by simp; omega) ?_
    · have := hkk j hj
      rw [set_ne _ _ _ _ (by omega), set_ne _ _ _ _ (by omega)]
    intro d6 m6 n6 p1 p2 p3 p4
    have p1' : Lst m6 7 ((ts' ++ [t']).map tyD) d6 := by simpa using p1
    have hold : ∀ j, j ≠ k → j < n' → kof dl ≠ some j → m6 j = m2 j := fun j h1 h2 h3 => by rw [p4 j (by omega) h3, set_ne _ _ _ _ (by omega), set_ne _ _ _ _ h1]
    have e1 : m6 (n + 1) = some ⟨7, [[I 7, S [], I 0, S [], S [], .v (.slice none 0 0), dl]], 0⟩ := by rw [hold (n + 1) n1k (by omega) fun e => by have := hkk _ e; omega, ho]; rfl
    have ek : m6 k = some (rObj l q1.2) := by rw [p4 k (by omega) (fun e => by have := hkk _ e; omega), set_ne _ _ _ _ (by omega), set_same]
    have hkk6 : ∀ j, kof d6 = some j → n + 2 ≤ j ∧ j < n6 := fun j hj => by
      have := p3 j hj
      rcases this.2 with e | e
      · have := hkk j e; omega
      · omega
    have ok6 := okD_lst p1
    have asn : As (ts' ++ [t']) (ts' ++ [q1.1]) q1.2 := ⟨by simp, fun e => by rw [ht' e]⟩
    have nxt : ∀ (b : Nat × Bool) (σ' : Nat → D) (q' : PS), σ' 0 = .ptr k 0 0 0 → σ' 1 = I (32 - r) → σ' 4 = .ptr n 0 0 0 → σ' 5 = .ptr (n + 1) 0 0 0 → σ' 6 = Tt b.2 → (q'.bad = 0 → q1.2.bad = 0) →
        (b.2 = true → headF l r p = funF l (typF l r) b.1 (ts' ++ [q1.1]) q' ∧ (ts' ++ [q1.1]).length + b.1 = 22 ∧ (20 < (ts' ++ [q1.1]).length → q'.bad ≠ 0)) → (b.2 = false → headF l r p = (ts' ++ [q1.1], q')) →
        RFInv l r p k m n b σ' ((m6.set (n + 1) (out7 d6)).set k (rObj l q')) n6 := by
      intro b σ' q' a0 a1 a4 a5 a6 hq' h1 h2
      refine ⟨a0, a1, a4, a5, a6, by omega, ?_, fun j hj hjk => ?_, ts' ++ [q1.1], ts' ++ [t'], d6, q', ?_, p1'.frame fun j hj => ?_, hkk6, set_same _ _ _, asn.then hq', by simp; omega, h1, h2⟩
      · rw [set_ne _ _ _ _ nk, set_ne _ _ _ _ nn1, hold n nk (by omega) fun e => by have := hkk _ e; omega]; exact m4
      · rw [set_ne _ _ _ _ hjk, set_ne _ _ _ _ (by omega), hold j hjk (by omega) fun e => by have := hkk _ e; omega]; exact fr j hj hjk
      · rw [set_ne _ _ _ _ n1k, set_same]
      · have := hkk6 j hj; rw [set_ne _ _ _ _ (by omega), set_ne _ _ _ _ (by omega)]
    simp -dsimp [-vc_block, h0, h1, h4, h5, h6, e1, ok6]
    have hok : (⟨7, [[I 7, S [], I 0, S [], S [], .v (.slice none 0 0), d6]], 0⟩ : V.Obj) = out7 d6 := rfl
    rw [hok]
    refine aCall_of (cIs [41] (p := q1.2) (by rw [set_ne _ _ _ _ kn1]; exact ek)) ?_
    rintro d m7 n7 ⟨rfl, rfl, rfl⟩
    have ek7 : (m6.set (n + 1) (out7 d6)) k = some (rObj l q1.2) := by rw [set_ne _ _ _ _ kn1]; exact ek
    cases hs : isSig [41] l q1.2
    · simp -dsimp [-vc_block, h0, h1, h4, h5, h6, Tt]
      refine aCall_of (cPass hl [44] ek7) ?_
      rintro d m8 n8 ⟨rfl, rfl, rfl⟩
      simp -dsimp [-vc_block, h0, h1, h4, h5, h6, Tt]
      exact ⟨rem', .inr ⟨by omega, nxt (rem', true) _ (mustF [44] l q1.2) (by simp) (by simp [h1, I]) (by simp) (by simp) (by simp [Tt]) mustF_keep
        (fun _ => ⟨by rw [hrec, hs]; simp, by simp; omega, fun h => fun e => absurd (mustF_keep e) (by rw [← hq1]; exact subF_20 (by simp at h; omega))⟩) (by simp)⟩⟩
    · have hat : q1.2.at_ < l.length := by
        unfold isSig at hs; split at hs
        · rename_i t ht; exact (cur_some ht).2.1
        · cases hs
      have wa := wrap_at hl hat
      simp -dsimp [-vc_block, h0, h1, h4, h5, h6, Tt, ek7, rObj, rC, I, wa]
      rw [rObj_step]
      exact ⟨rem', .inl ⟨by omega, nxt (rem', false) _ (stepF q1.2) (by simp) (by simp [I]) (by simp) (by simp) (by simp [Tt]) (fun e => e) (by simp) (fun _ => by rw [hrec, hs]; simp)⟩⟩
  · rintro σ m2 n2 ⟨h0, h1, h4, h5, nn, m4, fr, ts', dl, ho, hL, hkk, hpk, has, hlen⟩
    have hkn2 : k < n2 := by omega
    have hon : out7 dl = ⟨7, [[I 7, S [], I 0, S [], S [], .v (.slice none 0 0), dl]], 0⟩ := rfl
    have hll := lenD_lst hL
    rw [List.length_map] at hll
    have n12 : n + 1 ≠ n2 := by omega
    have n21 : n2 ≠ n + 1 := by omega
    simp -dsimp [-vc_block, h0, h1, h4, h5]
    refine aCall_of (cPass hl [45, 62] hpk) ?_
    rintro d m' n' ⟨rfl, rfl, rfl⟩
    simp -dsimp [-vc_block, h0, h1, h4, h5]
    refine vdraw_of [0, 1, 0, 0, 8, 24, 0, 124, 252, 511, 1023, 2047] [0, 1, 2, 3, 4, 5, 6, 7, 8, 9, 10, 11] (by kernel_rfl) (by kernel_rfl) ?_
    simp -dsimp [-vc_block, h0, h1, h4, h5, ho, hon, hll, I, set_ne, n1k]
    refine aCall_of (cOne hl (by omega) H hkn2 (p := mustF [45, 62] l (headF l r p).2) (set_same _ _ _) ts'.length (by omega)) ?_
    rintro d m' n' ⟨⟨t', rfl, ht'⟩, rfl, rfl⟩
    simp -dsimp [-vc_block, h0, h1, h4, h5, ho, hon, hll, set_ne, n1k, I, n12, n21]
    rw [hfun]
    have hal := has.1
    rw [← hal]
    rw [← hal] at hfun
    generalize hq1 : subF l (typF l r) ts'.length (mustF [45, 62] l (headF l r p).2) = q1 at ht' ⊢
    have hkp : q1.2.bad = 0 → (headF l r p).2.bad = 0 := fun e => mustF_keep (l := l) (s := [45, 62]) (subF_keep (l := l) (r := r) (n := ts'.length) (by rw [hq1]; exact e))
    refine b4_append (hL.frame fun j hj => ?_) (fun j hj => by have := hkk j hj; omega) trivial trivial (by omega) (by simp; omega) ?_
    · have := hkk j hj
      rw [set_ne _ _ _ _ (by omega), set_ne _ _ _ _ (by omega)]
    intro d6 m6 n6 p1 p2 p3 p4
    have p1' : Lst m6 7 ((ts' ++ [t']).map tyD) d6 := by simpa using p1
    have hold : ∀ j, j ≠ k → j < n' → kof dl ≠ some j → m6 j = m2 j := fun j h1 h2 h3 => by rw [p4 j (by omega) h3, set_ne _ _ _ _ (by omega), set_ne _ _ _ _ h1]
    have e1 : m6 (n + 1) = some ⟨7, [[I 7, S [], I 0, S [], S [], .v (.slice none 0 0), dl]], 0⟩ := by rw [hold (n + 1) n1k (by omega) fun e => by have := hkk _ e; omega, ho]; rfl
    have e0 : m6 n = some ⟨7, [zero7], 0⟩ := by rw [hold n nk (by omega) fun e => by have := hkk _ e; omega]; exact m4
    have ek : m6 k = some (rObj l q1.2) := by rw [p4 k (by omega) (fun e => by have := hkk _ e; omega), set_ne _ _ _ _ (by omega), set_same]
    have hkk6 : ∀ j, kof d6 = some j → n + 2 ≤ j ∧ j < n6 := fun j hj => by
      have := p3 j hj
      rcases this.2 with e | e
      · have := hkk j e; omega
      · omega
    have ok6 := okD_lst p1
    simp -dsimp [-vc_block, h0, h1, h4, h5, e1, e0, ok6, set_ne, n1k, nn1, n1n, S, I]
    refine ⟨by simp [zero7], tyqr (.mk 7 [] 0 [] [] [] (ts' ++ [t'])) ?_ (fun e => by rw [ht' e, has.2 (hkp e)]) (by simp [set_ne, kn, kn1, ek]) fun j hj hjk => ?_⟩
    · simp only [tyD]
      refine .agg (.cons (pur_I 7).pub (.cons (pur_S []).pub (.cons (pur_I 0).pub (.cons (pur_S []).pub (.cons (pur_S []).pub (.cons (pub_nil 1) (.cons ?_ .nil)))))))
      rw [tysD_eq]
      refine .lstP (p1'.frame fun j hj => ?_) (fun j hj => by have := hkk6 j hj; omega) (pur_tym _)
      have := hkk6 j hj
      rw [set_ne _ _ _ _ (by omega), set_ne _ _ _ _ (by omega)]
    · rw [set_ne _ _ _ _ (by omega), set_ne _ _ _ _ (by omega), hold j hjk (by omega) fun e => by have := hkk _ e; omega]
      exact fr j hj hjk
end Go.Proofs.Mv.App
open Go Go.Proofs Go.Proofs.Mv.V
set_option maxRecDepth 10000
namespace Go.Proofs.Mv.App
variable [GI]
def nmC (x : Nm) : List D := [S x.1]
def tyC (x : Nm) : List D := tyD x.2
/-- The record, or variant, as it is made. -/
def outN (g : Bool) (dN dS : D) : V.Obj := ⟨7, [[I (knd g), S [], I 0, S [], S [], dN, dS]], 0⟩
theorem rfin {l : List Tok} (g : Bool) {k : Nat} {m : Mem} {n : Nat} {t : Ty} {q' : PS} {M : Mem} {n' : Nat} {dN dS : D} (qs : List Nm) (hN : Lst M 1 (qs.map nmC) dN) (kN : ∀ j, kof dN = some j → n + 2 ≤ j) (hS : Lst M 7 (qs.map tyC) dS) (kS : ∀ j, kof dS = some j → n + 2 ≤ j)
    (hk : k ≠ n) (hM : M k = some (rObj l q')) (hf : ∀ j, j < n → j ≠ k → M j = m j) (ht : q'.bad = 0 → Ty.mk (knd g) [] 0 [] [] (qs.map (·.1)) (qs.map (·.2)) = t) :
    TyQR l k m n t q' (.agg [I (knd g), S [], I 0, S [], S [], dN, dS]) (M.set n (outN g dN dS)) n' := by
  refine tyqr (.mk (knd g) [] 0 [] [] (qs.map (·.1)) (qs.map (·.2))) ?_ ht (by rw [set_ne _ _ _ _ hk]; exact hM) fun j hj hjk => by rw [set_ne _ _ _ _ (by omega)]; exact hf j hj hjk
  simp only [tyD]
  have e1 : sl1 (qs.map (·.1)) = .sl 1 (qs.map nmC) := by simp [sl1, nmC]
  have e2 : tysD (qs.map (·.2)) = qs.map tyC := by rw [tysD_eq, List.map_map]; rfl
  rw [e1, e2]
  refine .agg (.cons (pur_I _).pub (.cons (pur_S _).pub (.cons (pur_I _).pub (.cons (pur_S _).pub (.cons (pur_S _).pub (.cons (.lstP (hN.frame fun j hj => set_ne _ _ _ _ (by have := kN j hj; omega)) (fun j hj => by have := kN j hj; omega) ?_) (.cons (.lstP (hS.frame fun j hj => set_ne _ _ _ _ (by have := kS j hj; omega)) (fun j hj => by have := kS j hj; omega) ?_) .nil)))))))
  · intro e he d hd
    obtain ⟨x, _, rfl⟩ := List.mem_map.1 he
    simp [nmC] at hd; subst hd; exact pur_S _
  · intro e he d hd
    obtain ⟨x, _, rfl⟩ := List.mem_map.1 he
    exact pur_ty _ d hd
structure PaInv (l : List Tok) (g : Bool) (r : Nat) (p0 : PS) (k : Nat) (m : Mem) (n : Nat) (rem : Nat) (σ : Nat → D) (m2 : Mem) (n2 : Nat) : Prop where
  h0 : σ 0 = .ptr k 0 0 0
  h1 : σ 1 = I (knd g)
  h2 : σ 2 = S (endS g)
  h3 : σ 3 = I (32 - r)
  h8 : σ 8 = .ptr n 0 0 0
  h9 : σ 9 = .ptr (n + 1) 0 0 0
  nn : n + 2 ≤ n2
  m8 : m2 n = some ⟨7, [zero7], 0⟩
  fr : ∀ j, j < n → j ≠ k → m2 j = m j
  ex : ∃ ps ps' dN dS q, m2 (n + 1) = some (outN g dN dS) ∧ Lst m2 1 ((sortF ps').map nmC) dN ∧ (∀ j, kof dN = some j → n + 2 ≤ j ∧ j < n2) ∧ Lst m2 7 ((sortF ps').map tyC) dS ∧ (∀ j, kof dS = some j → n + 2 ≤ j ∧ j < n2) ∧ (∀ j, kof dN = some j → kof dS ≠ some j) ∧
    m2 k = some (rObj l q) ∧ As ps' ps q ∧ ps'.map (·.1) = ps.map (·.1) ∧ ps.length + rem = 22 ∧ ps.length ≤ 20 ∧ headN l g r p0 = namedF l g (endS g) (typF l r) rem ps q
structure PaSel (l : List Tok) (g : Bool) (r : Nat) (k : Nat) (n : Nat) (q : PS) (m2 : Mem) (n2 : Nat) (σ : Nat → D) (m' : Mem) (n' : Nat) : Prop where
  h0 : σ 0 = .ptr k 0 0 0
  h1 : σ 1 = I (knd g)
  h2 : σ 2 = S (endS g)
  h3 : σ 3 = I (32 - r)
  h8 : σ 8 = .ptr n 0 0 0
  h9 : σ 9 = .ptr (n + 1) 0 0 0
  h10 : σ 10 = Tt (isNam g l q)
  mm : m' = m2
  nn : n' = n2
structure PaFind (g : Bool) (r : Nat) (k : Nat) (n : Nat) (tx : List UInt8) (qs : List Nm) (m2 : Mem) (n2 : Nat) (i : Nat) (σ : Nat → D) (m' : Mem) (n' : Nat) : Prop where
  h0 : σ 0 = .ptr k 0 0 0
  h1 : σ 1 = I (knd g)
  h2 : σ 2 = S (endS g)
  h3 : σ 3 = I (32 - r)
  h8 : σ 8 = .ptr n 0 0 0
  h9 : σ 9 = .ptr (n + 1) 0 0 0
  h11 : σ 11 = S tx
  h12 : σ 12 = I i
  le : i ≤ qs.length
  al : ∀ x ∈ qs.take i, ¬ x.1 = tx
  mm : m' = m2
  nn : n' = n2
@[simp] theorem tyD_drop (t : Ty) : (tyD t).drop 7 = [] := List.drop_eq_nil_of_le (by simp)
theorem take_swap {α : Type} {es : List α} {L j : Nat} {A C : List α} {b c : α} (hA : A.length = j) (h : es.take L = A ++ b :: c :: C) : ((es.set (j + 1) b).set j c).take L = A ++ c :: b :: C := by
  rw [List.take_set, List.take_set, h]
  subst hA
  simp [List.set_append]
structure PaBub (g : Bool) (r : Nat) (k : Nat) (n : Nat) (qs : List Nm) (x : Nm) (kN gN kS gS : Nat) (M7 : Mem) (n7 : Nat) (i : Nat) (σ : Nat → D) (m' : Mem) (n' : Nat) : Prop where
  h0 : σ 0 = .ptr k 0 0 0
  h1 : σ 1 = I (knd g)
  h2 : σ 2 = S (endS g)
  h3 : σ 3 = I (32 - r)
  h8 : σ 8 = .ptr n 0 0 0
  h9 : σ 9 = .ptr (n + 1) 0 0 0
  h14 : σ 14 = I i
  nn : n7 ≤ n'
  fr : ∀ j, j < n7 → j ≠ kN → j ≠ kS → m' j = M7 j
  ex : ∃ pre post esN esS, pre.length = i ∧ pre ++ post = qs ∧ (∀ y ∈ post, ltB x.1 y.1 = true) ∧ m' kN = some ⟨1, esN, gN⟩ ∧ qs.length + 1 ≤ esN.length ∧ esN.take (qs.length + 1) = (pre ++ x :: post).map nmC ∧
    m' kS = some ⟨7, esS, gS⟩ ∧ qs.length + 1 ≤ esS.length ∧ esS.take (qs.length + 1) = (pre ++ x :: post).map tyC
structure PaDone (g : Bool) (r : Nat) (k : Nat) (n : Nat) (qs : List Nm) (d6 d7 : D) (kN kS : Nat) (M7 : Mem) (n7 : Nat) (σ : Nat → D) (m' : Mem) (n' : Nat) : Prop where
  h0 : σ 0 = .ptr k 0 0 0
  h1 : σ 1 = I (knd g)
  h2 : σ 2 = S (endS g)
  h3 : σ 3 = I (32 - r)
  h8 : σ 8 = .ptr n 0 0 0
  h9 : σ 9 = .ptr (n + 1) 0 0 0
  nn : n7 ≤ n'
  fr : ∀ j, j < n7 → j ≠ kN → j ≠ kS → m' j = M7 j
  lN : Lst m' 1 (qs.map nmC) d6
  lS : Lst m' 7 (qs.map tyC) d7
set_option maxHeartbeats 4000000 in
theorem cParts {l : List Tok} (hl : TkOk l) (g : Bool) {r : Nat} (hr : r ≤ 31) (H : RTypC l r) {p : PS} {k : Nat} {m : Mem} {n : Nat} (hk : k < n) (hm : m k = some (rObj l p)) :
    ACalls Tryz.prog 147 [.ptr k 0 0 0, I (knd g), S (endS g), I (32 - r)] m n (TyRR l k m n (partsF l g (typF l r) p).1 (partsF l g (typF l r) p).2) := by
  have kn : k ≠ n := by omega
  have nk : n ≠ k := by omega
  have kn1 : k ≠ n + 1 := by omega
  have n1k : n + 1 ≠ k := by omega
  have nn1 : n ≠ n + 1 := by omega
  have n1n : n + 1 ≠ n := by omega
  have hfun : partsF l g (typF l r) p = (recT (if g then 6 else 5) (headN l g r p).1, (headN l g r p).2) := by cases g <;> rfl
  have wd : IntKind.i64.wrap ((32 : Int) - r + 1) = 33 - r := by rw [wrap_i64 (by omega) (by omega)]; omega
  have hz : zero7 = [I 0, S [], I 0, S [], S [], .v (.slice none 0 0), .v (.slice none 0 0)] := rfl
  have hon : ∀ dN dS, outN g dN dS = ⟨7, [[I (knd g), S [], I 0, S [], S [], dN, dS]], 0⟩ := fun _ _ => rfl
  refine acalls_tyr hk ?_
  have ret : ∀ (M : Mem) (n' : Nat) (dN dS : D) (ps' : List Nm) (q' : PS), headN l g r p = headN l g r p → (partsF l g (typF l r) p).2 = q' → (q'.bad = 0 → (headN l g r p).1 = ps') → Lst M 1 ((sortF ps').map nmC) dN → (∀ j, kof dN = some j → n + 2 ≤ j) → Lst M 7 ((sortF ps').map tyC) dS → (∀ j, kof dS = some j → n + 2 ≤ j) →
      M k = some (rObj l q') → (∀ j, j < n → j ≠ k → M j = m j) → TyQR l k m n (partsF l g (typF l r) p).1 (partsF l g (typF l r) p).2 (.agg [I (knd g), S [], I 0, S [], S [], dN, dS]) (M.set n (outN g dN dS)) n' := by
    intro M n' dN dS ps' q' _ a1 a2 a3 a4 a5 a6 a7 a8
    rw [a1]
    refine rfin g (sortF ps') a3 a4 a5 a6 kn a7 a8 fun e => ?_
    rw [hfun, a2 e]
    cases g <;> rfl
  refine acalls_vcC [0, 1, 2, 3, 8, 9, 10, 11, 12, 13, 14, 15, 16, 25, 38, 54, 72, 81, 90, 139, 186] Tryz.func147 Tryz.ntmps147 (by kernel_rfl) rfl rfl (by simp) ?_
  rw [vc_seq]
  simp -dsimp [-vc_seq, -vc_block]
  rw [vc_seq]
  simp -dsimp [-vc_seq, -vc_block, I]
  have hM0 : ((m.set n ⟨7, [[D.v (.int .i64 0), .v (.string (ofL [])), .v (.int .i64 0), .v (.string (ofL [])), .v (.string (ofL [])), .v (.slice none 0 0), .v (.slice none 0 0)]], 0⟩).set (n + 1) ⟨7, [[D.v (.int .i64 (knd g)), .v (.string (ofL [])), .v (.int .i64 0), .v (.string (ofL [])), .v (.string (ofL [])), .v (.slice none 0 0), .v (.slice none 0 0)]], 0⟩) = ((m.set n ⟨7, [zero7], 0⟩).set (n + 1) (outN g (.v (.slice none 0 0)) (.v (.slice none 0 0)))) := rfl
  rw [hM0, vc_seq]
  have hm2 : ((m.set n ⟨7, [zero7], 0⟩).set (n + 1) (outN g (.v (.slice none 0 0)) (.v (.slice none 0 0)))) k = some (rObj l p) := by rw [set_ne _ _ _ _ kn1, set_ne _ _ _ _ kn]; exact hm
  have hfr0 : ∀ j, j < n → j ≠ k → ((m.set n ⟨7, [zero7], 0⟩).set (n + 1) (outN g (.v (.slice none 0 0)) (.v (.slice none 0 0)))) j = m j := fun j hj hjk => by rw [set_ne _ _ _ _ (by omega), set_ne _ _ _ _ (by omega)]
  have hm1 : ((m.set n ⟨7, [zero7], 0⟩).set (n + 1) (outN g (.v (.slice none 0 0)) (.v (.slice none 0 0)))) (n + 1) = some (outN g (.v (.slice none 0 0)) (.v (.slice none 0 0))) := set_same _ _ _
  have hmz : ((m.set n ⟨7, [zero7], 0⟩).set (n + 1) (outN g (.v (.slice none 0 0)) (.v (.slice none 0 0)))) n = some ⟨7, [zero7], 0⟩ := by rw [set_ne _ _ _ _ nn1, set_same]
  generalize ((m.set n ⟨7, [zero7], 0⟩).set (n + 1) (outN g (.v (.slice none 0 0)) (.v (.slice none 0 0)))) = M at hm2 hfr0 hm1 hmz ⊢
  have start : headN l g r p = namedF l g (endS g) (typF l r) 22 [] p → ∀ σ : Nat → D, σ 0 = .ptr k 0 0 0 → σ 1 = I (knd g) → σ 2 = S (endS g) → σ 3 = I (32 - r) → σ 8 = .ptr n 0 0 0 → σ 9 = .ptr (n + 1) 0 0 0 → PaInv l g r p k m n 22 σ M (n + 1 + 1) := by
    intro e σ a0 a1 a2 a3 a8 a9
    exact ⟨a0, a1, a2, a3, a8, a9, by omega, hmz, hfr0, [], [], _, _, p, hm1, by simpa [sortF] using Lst.nil, by simp, by simpa [sortF] using Lst.nil, by simp, by simp, hm2, ⟨rfl, fun _ => rfl⟩, rfl, by simp, by simp, e⟩
  refine vc_mid (PaInv l g r p k m n 22) ?_ ?_
  · cases g
    · simp -dsimp [knd]
      refine aCall_of (cIs (endS false) hm2) ?_
      rintro d m' n' ⟨rfl, rfl, rfl⟩
      cases hs : isSig (endS false) l p
      · simp -dsimp [Tt]
        exact start (by rw [headN, if_neg (by intro h; have h2 := h.2; rw [show ([125] : List UInt8) = endS false from rfl, hs] at h2; cases h2)]) _ (by simp) (by simp [I, knd]) (by simp) (by simp [I]) (by simp) (by simp)
      · have hat : p.at_ < l.length := by
          unfold isSig at hs; split at hs
          · rename_i t ht; exact (cur_some ht).2.1
          · cases hs
        have wa := wrap_at hl hat
        have hh : headN l false r p = ([], stepF p) := by rw [headN, if_pos ⟨rfl, hs⟩]
        have hmz' := hmz
        rw [hz] at hmz'
        simp -dsimp [Tt, hm2, rObj, rC, I, wa, hm1, hon, set_ne, n1k, nk, hmz']
        rw [rObj_step]
        exact ret _ _ (.v (.slice none 0 0)) (.v (.slice none 0 0)) [] (stepF p) rfl (by rw [hfun, hh]) (fun _ => by rw [hh]) (by simpa [sortF] using Lst.nil) (by simp) (by simpa [sortF] using Lst.nil) (by simp) (set_same _ _ _) (fun j hj hjk => by rw [set_ne _ _ _ _ hjk]; exact hfr0 j hj hjk)
    · simp -dsimp [knd]
      exact start (by rw [headN, if_neg (by simp)]) _ (by simp) (by simp [I, knd]) (by simp) (by simp [I]) (by simp) (by simp)
  clear hM0 hm2 hfr0 hm1 hmz start
  rintro σ0 m0 n0 hinv0
  simp -dsimp [-vc_block]
  rw [vc_block]
  simp -dsimp [-vc_block]
  refine vloop_of (β := Nat) (PaInv l g r p k m n) (fun b => b) 22 hinv0 ?_
  rintro rem σ m2 n2 ⟨h0, h1, h2, h3, h8, h9, nn, m8, fr, ps, ps', dN, dS, q, ho, lN, kN, lS, kS, kNS, hpk, has, hnm, hrem, h20, hrec⟩
  rw [hz] at m8
  rw [hon] at ho
  by_cases hqb : q.bad = 0
  case neg =>
    have hqb' : ((q.bad : Int) == 0) = false := by simp; omega
    have hh : headN l g r p = (ps, q) := by rw [hrec, namedF_bad hqb]
    simp -dsimp [-vc_block, h0, h1, h2, h3, h8, h9, hpk, rObj, rC, I, hqb, hqb', ho, m8, okD_lst lN, okD_lst lS, S]
    exact ret m2 n2 dN dS ps' q rfl (by rw [hfun, hh]) (fun e => absurd e hqb) lN (fun j hj => (kN j hj).1) lS (fun j hj => (kS j hj).1) hpk fr
  have hT : ps' = ps := has.2 hqb
  subst hT
  obtain ⟨rem', rfl⟩ : ∃ rem', rem = rem' + 1 := ⟨rem - 1, by omega⟩
  simp -dsimp [-vc_block, h0, h1, h2, h3, h8, h9, hpk, rObj, rC, I, hqb]
  rw [vc_block, vc_seq]
  refine vc_mid (PaSel l g r k n q m2 n2) ?_ ?_
  · cases g
    · have hc := cNamR hl (p := q) false (k := k) (m := m2) (n := n2) hpk
      simp only [Bool.false_eq_true, if_false] at hc
      simp -dsimp [h0, h1, h2, h3, h8, h9, knd, I]
      refine aCall_of hc ?_
      rintro d m' n' ⟨rfl, rfl, rfl⟩
      cases e : isNam false l q
      · simp -dsimp [Tt]
        exact ⟨by simp [h0], by simp [h1, I, knd], by simp [h2], by simp [h3, I], by simp [h8], by simp [h9], by simp [Tt, e], rfl, rfl⟩
      · simp -dsimp [Tt]
        exact ⟨by simp [h0], by simp [h1, I, knd], by simp [h2], by simp [h3, I], by simp [h8], by simp [h9], by simp [Tt, e], rfl, rfl⟩
    · have hc := cNamR hl (p := q) true (k := k) (m := m2) (n := n2) hpk
      simp only [if_true] at hc
      simp -dsimp [h0, h1, h2, h3, h8, h9, knd, I]
      refine aCall_of hc ?_
      rintro d m' n' ⟨rfl, rfl, rfl⟩
      simp -dsimp [Tt]
      exact ⟨by simp [h0], by simp [h1, I, knd], by simp [h2], by simp [h3, I], by simp [h8], by simp [h9], by simp [Tt], rfl, rfl⟩
  rintro σ1 m3 n3 ⟨h0, h1, h2, h3, h8, h9, h10, rfl, rfl⟩
  have keepN : ∀ (q' : PS) (j : Nat), kof dN = some j → (m3.set k (rObj l q')) j = m3 j := fun q' j hj => set_ne _ _ _ _ (by have := kN j hj; omega)
  have keepS : ∀ (q' : PS) (j : Nat), kof dS = some j → (m3.set k (rObj l q')) j = m3 j := fun q' j hj => set_ne _ _ _ _ (by have := kS j hj; omega)
  have stop : ∀ (c : Nat), c ≠ 0 → headN l g r p = (ps', failF c q) → ∀ n', TyQR l k m n (partsF l g (typF l r) p).1 (partsF l g (typF l r) p).2 (.agg [I (knd g), S [], I 0, S [], S [], dN, dS]) ((m3.set k (rObj l (failF c q))).set n (outN g dN dS)) n' := by
    intro c hc hh n'
    exact ret (m3.set k (rObj l (failF c q))) n' dN dS ps' (failF c q) rfl (by rw [hfun, hh]) (fun e => by rw [hh]) (lN.frame (keepN _)) (fun j hj => (kN j hj).1) (lS.frame (keepS _)) (fun j hj => (kS j hj).1) (set_same _ _ _) (fun j hj hjk => by rw [set_ne _ _ _ _ hjk]; exact fr j hj hjk)
  have okN := okD_lst lN
  have okS := okD_lst lS
  cases hnam : isNam g l q
  · have hh : headN l g r p = (ps', failF 2 q) := by rw [hrec]; simp [namedF, hqb, hnam]
    rw [hnam] at h10
    simp -dsimp [-vc_block, h0, h1, h2, h3, h8, h9, h10, Tt]
    refine aCall_of (cWrong hpk) ?_
    rintro d m' n' ⟨rfl, rfl, rfl⟩
    simp -dsimp [h0, h1, h2, h3, h8, h9, h10, ho, m8, okN, okS, set_ne, n1k, nk, I, S]
    exact stop 2 (by omega) hh _
  rw [hnam] at h10
  obtain ⟨t, hcur⟩ : ∃ t, cur l q = some t := by
    unfold isNam at hnam; split at hnam
    · exact ⟨_, by assumption⟩
    · cases hnam
  obtain ⟨_, ha, hgt⟩ := cur_some hcur
  have wa := wrap_at hl ha
  have hcT : curT l q = t.text := by simp [curT, hcur]
  have hgx : l[q.at_] = t := get_opt hgt ha
  have hg : (l.map tokD)[q.at_]? = some (tokD t) := by simp [ha, hgx]
  have hll : (l.map tokD).length = l.length := by simp
  have htk : tokD t = [I t.kind, I t.at_, S t.text] := rfl
  have hTo : toksD l = .sl 3 (l.map tokD) := rfl
  generalize hL : l.map tokD = L at hg hll hTo
  have hgi : L[q.at_]'(by omega) = tokD t := get_opt hg _
  generalize t.text = tx at hcT htk
  have hpk' : m3 k = some ⟨4, [[.sl 3 L, I q.at_, I q.cnt, I q.bad]], 0⟩ := by rw [hpk]; simp [rObj, rC, hTo]
  have lenN := lenD_lst lN
  rw [List.length_map, (sortF_spec ps').1.length_eq] at lenN
  by_cases h20i : 20 ≤ (ps'.length : Int)
  · have h20n : 20 ≤ ps'.length := by omega
    have hh : headN l g r p = (ps', failF 3 q) := by rw [hrec]; simp [namedF, hqb, hnam, h20n]
    simp -dsimp [-vc_block, h0, h1, h2, h3, h8, h9, h10, Tt]
    refine vdraw_of [0, 1, 3, 7, 0, 16, 48, 112, 255, 511, 1023, 2047] [0, 1, 2, 3, 4, 5, 6, 7, 8, 9, 10, 11] (by kernel_rfl) (by kernel_rfl) ?_
    simp -dsimp [-vc_block, h0, h1, h2, h3, h8, h9, h10, hpk', hll, ha, hgi, htk, I, ho, lenN, h20i, h20n, m8, okN, okS, set_ne, n1k, nk]
    have e : (⟨4, [[.sl 3 L, .v (.int .i64 (q.at_ : Int)), .v (.int .i64 (q.cnt : Int)), .v (.int .i64 3)]], 0⟩ : V.Obj) = rObj l (failF 3 q) := by simp [rObj, rC, failF, hqb, I, hTo]
    rw [e]
    exact stop 3 (by omega) hh _
  have h20n : ¬ 20 ≤ ps'.length := by omega
  simp -dsimp [-vc_block, h0, h1, h2, h3, h8, h9, h10, Tt]
  refine vdraw_of [0, 1, 3, 7, 0, 16, 48, 112, 255, 511, 1023, 2047] [0, 1, 2, 3, 4, 5, 6, 7, 8, 9, 10, 11] (by kernel_rfl) (by kernel_rfl) ?_
  simp -dsimp [-vc_block, h0, h1, h2, h3, h8, h9, h10, hpk', hll, ha, hgi, htk, I, ho, lenN, h20i, h20n]
  have hsl : (sortF ps').length = ps'.length := (sortF_spec ps').1.length_eq
  have fwd : ∀ σ : Nat → D, True := fun _ => trivial
  clear fwd
  refine vc_mid (PaFind g r k n tx (sortF ps') m3 n3 (sortF ps').length) ?_ ?_
  · rw [vc_block]
    simp -dsimp [-vc_block]
    refine vloop_of (β := Nat) (PaFind g r k n tx (sortF ps') m3 n3) (fun i => (sortF ps').length - i) 0 ⟨by simp [h0], by simp [h1, I], by simp [h2], by simp [h3, I], by simp [h8], by simp [h9], by simp, by simp [I], by omega, by simp, rfl, rfl⟩ ?_
    rintro i σ2 m4 n4 ⟨g0, g1, g2, g3, g8, g9, g11, g12, le, al, rfl, rfl⟩
    by_cases hi : (i : Int) < ps'.length
    · have hi' : i < ps'.length := by omega
      have hi2 : i < (sortF ps').length := by omega
      have hi2' : (i : Int) < (sortF ps').length := by omega
      have wi : IntKind.i64.wrap ((i : Int) + 1) = (i : Int) + 1 := wrap_i64 (by omega) (by omega)
      rcases lN with ⟨he, _⟩ | ⟨kk, gg, es', rfl, hmk, hle, htkk⟩
      · have : (sortF ps').length = 0 := by have := congrArg List.length he; simpa using this
        omega
      have hge : es'[i]? = some (nmC (sortF ps')[i]) := by
        have h1 : (es'.take ((sortF ps').map nmC).length)[i]? = some (nmC (sortF ps')[i]) := by rw [htkk]; simp [hi2]
        rw [List.getElem?_take] at h1
        split at h1
        · exact h1
        · cases h1
      have hle' : i < es'.length := by simp at hle; omega
      have hge' : es'[i] = [S (sortF ps')[i].1] := get_opt hge hle'
      by_cases e : (sortF ps')[i].1 = tx
      · have e' : ((sortF ps')[i].1 == tx) = true := by simp [e]
        have hmem : tx ∈ ps'.map (·.1) := by
          rw [← e]; exact List.mem_map.2 ⟨_, (sortF_spec ps').1.mem_iff.1 (List.getElem_mem hi2), rfl⟩
        have hh : headN l g r p = (ps', failF 5 q) := by
          rw [hrec]; simp only [namedF]
          rw [if_neg (by simp [hqb]), if_neg (by simp [hnam]), if_neg h20n, hcT, if_pos hmem]
        have e5 : (⟨4, [[.sl 3 L, .v (.int .i64 (q.at_ : Int)), .v (.int .i64 (q.cnt : Int)), .v (.int .i64 5)]], 0⟩ : V.Obj) = rObj l (failF 5 q) := by simp [rObj, rC, failF, hqb, I, hTo]
        simp -dsimp [g0, g1, g2, g3, g8, g9, g11, g12, ho, lenN, hi, hi', hi2, hi2', I, hmk, hle', hge', S, e', hpk', m8, okN, okS, set_ne, n1k, nk]
        rw [e5]
        have h5 := stop 5 (by omega) hh n4
        simp only [List.length_map] at h5
        exact h5
      · have e' : ((sortF ps')[i].1 == tx) = false := by simp [e]
        simp -dsimp [g0, g1, g2, g3, g8, g9, g11, g12, ho, lenN, hi, hi', hi2, hi2', I, hmk, hle', hge', S, e', wi]
        refine ⟨i + 1, by omega, by simp [g0], by simp [g1, I], by simp [g2, S], by simp [g3, I], by simp [g8], by simp [g9], by simp [g11, S], by simp [I], by omega, ?_, rfl, rfl⟩
        intro x hx
        rw [List.take_succ_eq_append_getElem hi2] at hx
        rcases List.mem_append.1 hx with hx | hx
        · exact al x hx
        · simp at hx; rw [hx]; exact e
    · have hil : i = (sortF ps').length := by omega
      subst hil
      have hi3 : ¬ (ps'.length : Int) < ps'.length := by omega
      simp -dsimp [-vc_block, g0, g1, g2, g3, g8, g9, g11, g12, ho, lenN, hi, I]
      exact ⟨by simp [g0], by simp [g1, I], by simp [g2], by simp [g3, I], by simp [g8], by simp [g9], by simp [g11], by simp [I, hsl], by omega, al, rfl, rfl⟩
  rintro σ2 m4 n4 ⟨h0, h1, h2, h3, h8, h9, h11, h12, _, al, rfl, rfl⟩
  rw [List.take_length] at al
  have hnotin : tx ∉ ps'.map (·.1) := by
    intro h
    obtain ⟨x, hx, e⟩ := List.mem_map.1 h
    exact al x ((sortF_spec ps').1.mem_iff.2 hx) e
  have hrec2 : headN l g r p = (if isSig (endS g) l (typF l r (mustF [58] l (stepF q))).2 then (ps' ++ [(tx, (typF l r (mustF [58] l (stepF q))).1)], stepF (typF l r (mustF [58] l (stepF q))).2)
      else namedF l g (endS g) (typF l r) rem' (ps' ++ [(tx, (typF l r (mustF [58] l (stepF q))).1)]) (mustF [44] l (typF l r (mustF [58] l (stepF q))).2)) := by
    rw [hrec]; simp only [namedF]
    rw [if_neg (by simp [hqb]), if_neg (by simp [hnam]), if_neg h20n, hcT, if_neg hnotin]
  have est : (⟨4, [[.sl 3 L, .v (.int .i64 ((q.at_ : Int) + 1)), .v (.int .i64 (q.cnt : Int)), .v (.int .i64 (q.bad : Int))]], 0⟩ : V.Obj) = rObj l (stepF q) := by rw [← hTo]; exact rObj_step
  have hkn4 : k < n4 := by omega
  simp -dsimp [-vc_block, h0, h1, h2, h3, h8, h9, h11, hpk', I, wa]
  rw [est]
  refine aCall_of (cPass hl [58] (p := stepF q) (set_same _ _ _)) ?_
  rintro d m5 n5 ⟨rfl, rfl, rfl⟩
  simp -dsimp [-vc_block, h0, h1, h2, h3, h8, h9, h11, I, wd]
  refine aCall_of (H (mustF [58] l (stepF q)) k _ _ hkn4 (set_same _ _ _)) ?_
  rintro d m5 n5 ⟨⟨t', rfl, ht'⟩, rfl, rfl⟩
  generalize hq2 : typF l r (mustF [58] l (stepF q)) = q2 at ht' hrec2 ⊢
  have a1 : n + 1 ≠ n5 := by omega
  have a2 : n5 ≠ n + 1 := by omega
  have a3 : n5 ≠ k := by omega
  have a4 : k ≠ n5 := by omega
  have a5 : n + 1 ≠ n5 + 1 := by omega
  have a6 : n5 + 1 ≠ n + 1 := by omega
  have a7 : n5 + 1 ≠ n5 := by omega
  have a8 : n5 ≠ n5 + 1 := by omega
  simp -dsimp [-vc_block, h0, h1, h2, h3, h8, h9, h11, I, set_ne, ho, a1, a2, a3, a4, a5, a6, a7, a8, n1k]
  refine b4_append (lN.frame fun j hj => ?_) (fun j hj => by have := kN j hj; omega) trivial trivial (by omega) (by simp; omega) ?_
  · have := kN j hj
    rw [set_ne _ _ _ _ (by omega), set_ne _ _ _ _ (by omega), set_ne _ _ _ _ (by omega)]
  intro d6 m6 n6 p1 p2 p3 p4
  have o6 : ∀ j, j ≠ k → j < n5 → kof dN ≠ some j → m6 j = m4 j := fun j h1 h2 h3 => by rw [p4 j (by omega) h3, set_ne _ _ _ _ (by omega), set_ne _ _ _ _ (by omega), set_ne _ _ _ _ h1]
  have e61 : m6 (n + 1) = some ⟨7, [[I (knd g), S [], I 0, S [], S [], dN, dS]], 0⟩ := by rw [o6 _ n1k (by omega) fun e => by have := kN _ e; omega]; exact ho
  have e65 : m6 n5 = some ⟨7, [tyD t'], 0⟩ := by rw [p4 _ (by omega) (fun e => by have := kN _ e; omega), set_ne _ _ _ _ a8, set_same]
  have e6k : m6 k = some (rObj l q2.2) := by rw [p4 _ (by omega) (fun e => by have := kN _ e; omega), set_ne _ _ _ _ (by omega), set_ne _ _ _ _ a4, set_same]
  have k6 : ∀ j, kof d6 = some j → n + 2 ≤ j ∧ j < n6 ∧ (kof dN = some j ∨ n5 + 1 < j) := fun j hj => by
    have := p3 j hj
    rcases this.2 with e | e
    · have h := kN j e; exact ⟨h.1, this.1, .inl e⟩
    · exact ⟨by omega, this.1, .inr (by omega)⟩
  have d6S : ∀ j, kof d6 = some j → kof dS ≠ some j := fun j hj => by
    rcases (k6 j hj).2.2 with e | e
    · exact kNS j e
    · intro h; have := kS j h; omega
  have ok6 := okD_lst p1
  have b1 : n + 1 ≠ n6 := by omega
  have b2 : n6 ≠ n + 1 := by omega
  have b3 : n6 ≠ n5 := by omega
  have b4' : n5 ≠ n6 := by omega
  simp -dsimp [-vc_block, h0, h1, h2, h3, h8, h9, h11, I, set_ne, e61, e65, ok6, a1, a2, b1, b2, b3, b4']
  refine b4_append (lS.frame fun j hj => ?_) (fun j hj => by have := kS j hj; omega) trivial trivial (by omega) (by simp; omega) ?_
  · have := kS j hj
    rw [set_ne _ _ _ _ (by omega), set_ne _ _ _ _ (by omega)]
    exact o6 j (by omega) (by omega) fun e => kNS j e hj
  intro d7 m7 n7 r1 r2 r3 r4
  have o7 : ∀ j, j ≠ n + 1 → j < n6 → kof dS ≠ some j → m7 j = m6 j := fun j h1 h2 h3 => by rw [r4 j (by omega) h3, set_ne _ _ _ _ (by omega), set_ne _ _ _ _ h1]
  have e71 : m7 (n + 1) = some ⟨7, [[.v (.int .i64 (knd g)), S [], .v (.int .i64 0), S [], S [], d6, dS]], 0⟩ := by
    rw [r4 _ (by omega) (fun e => by have := kS _ e; omega), set_ne _ _ _ _ b1, set_same]
  have e7k : m7 k = some (rObj l q2.2) := by rw [o7 k kn1 (by omega) fun e => by have := kS _ e; omega]; exact e6k
  have k7 : ∀ j, kof d7 = some j → n + 2 ≤ j ∧ j < n7 ∧ (kof dS = some j ∨ n6 ≤ j) := fun j hj => by
    have := r3 j hj
    rcases this.2 with e | e
    · have h := kS j e; exact ⟨h.1, this.1, .inl e⟩
    · exact ⟨by omega, this.1, .inr (by omega)⟩
  have d67 : ∀ j, kof d6 = some j → kof d7 ≠ some j := fun j hj e => by
    rcases (k7 j e).2.2 with h | h
    · exact d6S j hj h
    · have := k6 j hj; omega
  have p1' : Lst m7 1 ((sortF ps' ++ [(tx, t')]).map nmC) d6 := by
    have := p1.frame (m' := m7) fun j hj => o7 j (by have := k6 j hj; omega) (by have := k6 j hj; omega) (d6S j hj)
    simpa [nmC] using this
  have r1' : Lst m7 7 ((sortF ps' ++ [(tx, t')]).map tyC) d7 := by simpa [tyC] using r1
  have ok7 := okD_lst r1
  have len6 := lenD_lst p1'
  rw [List.length_map, List.length_append, hsl] at len6
  simp only [List.length_singleton] at len6
  have wl : IntKind.i64.wrap ((ps'.length : Int) + 1 - 1) = ps'.length := by rw [wrap_i64 (by omega) (by omega)]; omega
  have wl' : IntKind.i64.wrap ((ps'.length : Int)) = ps'.length := wrap_i64 (by omega) (by omega)
  simp -dsimp [-vc_block, h0, h1, h2, h3, h8, h9, h11, I, set_ne, e71, ok7, ok6, len6, wl, wl']
  obtain ⟨kN', gN, esN, hd6, hmN, hleN, htN⟩ : ∃ kk gg es', d6 = .own kk gg 0 ((sortF ps').length + 1) 1 ∧ m7 kk = some ⟨1, es', gg⟩ ∧ (sortF ps').length + 1 ≤ es'.length ∧ es'.take ((sortF ps').length + 1) = (sortF ps' ++ [(tx, t')]).map nmC := by
    rcases p1' with ⟨he, _⟩ | ⟨kk, gg, es', h1, h2, h3, h4⟩
    · simp at he
    · simp only [List.length_map, List.length_append, List.length_singleton] at h1 h3 h4
      exact ⟨kk, gg, es', h1, h2, h3, h4⟩
  obtain ⟨kS', gS, esS, hd7, hmS, hleS, htS⟩ : ∃ kk gg es', d7 = .own kk gg 0 ((sortF ps').length + 1) 7 ∧ m7 kk = some ⟨7, es', gg⟩ ∧ (sortF ps').length + 1 ≤ es'.length ∧ es'.take ((sortF ps').length + 1) = (sortF ps' ++ [(tx, t')]).map tyC := by
    rcases r1' with ⟨he, _⟩ | ⟨kk, gg, es', h1, h2, h3, h4⟩
    · simp at he
    · simp only [List.length_map, List.length_append, List.length_singleton] at h1 h3 h4
      exact ⟨kk, gg, es', h1, h2, h3, h4⟩
  have hkN := k6 kN' (by rw [hd6]; rfl)
  have hkS := k7 kS' (by rw [hd7]; rfl)
  have hNS : kN' ≠ kS' := fun e => d67 kN' (by rw [hd6]; rfl) (by rw [hd7, e]; rfl)
  have hSN : kS' ≠ kN' := Ne.symm hNS
  have hN1 : kN' ≠ n + 1 := by omega
  have hS1 : kS' ≠ n + 1 := by omega
  have h1N : n + 1 ≠ kN' := by omega
  have h1S : n + 1 ≠ kS' := by omega
  have houtM : (⟨7, [[.v (.int .i64 (knd g)), S [], .v (.int .i64 0), S [], S [], d6, d7]], 0⟩ : V.Obj) = outN g d6 d7 := rfl
  rw [houtM]
  generalize hM7 : m7.set (n + 1) (outN g d6 d7) = M7
  have M7o : ∀ j, j ≠ n + 1 → M7 j = m7 j := fun j h => by rw [← hM7]; exact set_ne _ _ _ _ h
  have M71 : M7 (n + 1) = some (outN g d6 d7) := by rw [← hM7]; exact set_same _ _ _
  refine vc_mid (PaDone g r k n (sortF (ps' ++ [(tx, t')])) d6 d7 kN' kS' M7 n7) ?_ ?_
  · rw [vc_block]
    simp -dsimp [-vc_block]
    refine vloop_of (β := Nat) (PaBub g r k n (sortF ps') (tx, t') kN' gN kS' gS M7 n7) (fun i => i) ps'.length ⟨by simp [h0], by simp [h1, I], by simp [h2], by simp [h3, I], by simp [h8], by simp [h9], by simp [I], Nat.le_refl _, fun _ _ _ _ => rfl, sortF ps', [], esN, esS, hsl, by simp, by simp, by rw [M7o _ hN1]; exact hmN, hleN, htN, by rw [M7o _ hS1]; exact hmS, hleS, htS⟩ ?_
    rintro i σ3 m8' n8 ⟨g0, g1, g2, g3, g8, g9, g14, gnn, gfr, pre, post, eN, eS, hpl, hpp, hlt, gN1, gN2, gN3, gS1, gS2, gS3⟩
    have ho8 : m8' (n + 1) = some ⟨7, [[I (knd g), S [], I 0, S [], S [], d6, d7]], 0⟩ := by rw [gfr _ (by omega) h1N h1S, M71]; rfl
    have fin : (∀ y ∈ pre, ltB tx y.1 = false) → ∀ σ' : Nat → D, σ' 0 = .ptr k 0 0 0 → σ' 1 = I (knd g) → σ' 2 = S (endS g) → σ' 3 = I (32 - r) → σ' 8 = .ptr n 0 0 0 → σ' 9 = .ptr (n + 1) 0 0 0 → PaDone g r k n (sortF (ps' ++ [(tx, t')])) d6 d7 kN' kS' M7 n7 σ' m8' n8 := by
      intro hpre σ' b0 b1 b2 b3 b8 b9
      have hs : sortF (ps' ++ [(tx, t')]) = pre ++ (tx, t') :: post := by
        rw [sortF_snoc, ← hpp]
        exact insF_at _ hpre fun y hy => hlt y (List.mem_of_mem_head? hy)
      have hsL : (pre ++ (tx, t') :: post).length = (sortF ps').length + 1 := by rw [← hpp]; simp; omega
      refine ⟨b0, b1, b2, b3, b8, b9, gnn, gfr, ?_, ?_⟩
      · rw [hs, hd6]
        exact Lst.mk gN1 (by rw [List.length_map, hsL]) gN2 gN3
      · rw [hs, hd7]
        exact Lst.mk gS1 (by rw [List.length_map, hsL]) gS2 gS3
    rcases List.eq_nil_or_concat pre with rfl | ⟨pre', y, rfl⟩
    · have i0 : i = 0 := by simpa using hpl.symm
      subst i0
      simp -dsimp [-vc_block, g0, g1, g2, g3, g8, g9, g14, I]
      refine vdraw_of [0, 1, 3, 7, 15, 7, 63, 127, 7, 263, 7, 1031, 3847, 7943, 16383, 32767] [0, 1, 2, 3, 4, 5, 6, 7, 8, 9, 10, 11, 12, 13, 14, 15] (by kernel_rfl) (by kernel_rfl) ?_
      simp -dsimp [-vc_block, g0, g1, g2, g3, g8, g9, g14, I]
      exact fin (by simp) _ (by simp [g0]) (by simp [g1, I]) (by simp [g2]) (by simp [g3, I]) (by simp [g8]) (by simp [g9])
    simp only [List.concat_eq_append] at hpl hpp gN3 gS3 fin
    obtain ⟨j, hj⟩ : ∃ j, pre'.length = j := ⟨_, rfl⟩
    have hij : i = j + 1 := by simp at hpl; omega
    subst hij
    have hqL : (sortF ps').length = j + 1 + post.length := by rw [← hpp]; simp [hj]; omega
    have getN : ∀ q, q < (sortF ps').length + 1 → eN[q]? = ((pre' ++ [y] ++ (tx, t') :: post).map nmC)[q]? := fun q hq => by
      rw [← gN3, List.getElem?_take, if_pos hq]
    have getS : ∀ q, q < (sortF ps').length + 1 → eS[q]? = ((pre' ++ [y] ++ (tx, t') :: post).map tyC)[q]? := fun q hq => by
      rw [← gS3, List.getElem?_take, if_pos hq]
    have lj0 : j < eN.length := by omega
    have lj1 : j + 1 < eN.length := by omega
    have ls0 : j < eS.length := by omega
    have ls1 : j + 1 < eS.length := by omega
    have vN0 : eN[j] = [S y.1] := get_opt (by rw [getN j (by omega)]; subst hj; simp [nmC]) lj0
    have vN1 : eN[j + 1] = [S tx] := get_opt (by rw [getN (j + 1) (by omega)]; subst hj; simp [nmC]) lj1
    have vS0 : eS[j] = tyD y.2 := get_opt (by rw [getS j (by omega)]; subst hj; simp [tyC]) ls0
    have vS1 : eS[j + 1] = tyD t' := get_opt (by rw [getS (j + 1) (by omega)]; subst hj; simp [tyC]) ls1
    have w1 : IntKind.i64.wrap ((j : Int) + 1 - 1) = j := by rw [wrap_i64 (by omega) (by omega)]; omega
    have w1' : IntKind.i64.wrap (j : Int) = j := wrap_i64 (by omega) (by omega)
    have wt : ((j : Int) + 1).toNat = j + 1 := by omega
    have wb : ((j : Int) + 1) < ((sortF ps').length : Int) + 1 := by omega
    have wb2 : j + 1 < (sortF ps').length + 1 := by omega
    have wb0 : (j : Int) < ((sortF ps').length : Int) + 1 := by omega
    have wb3 : j < (sortF ps').length + 1 := by omega
    have wb4 : j < (sortF ps').length := by omega
    rw [hd6, hd7] at ho8
    have lss : Op.bytesLess tx y.1 = ltB tx y.1 := rfl
    cases hb : ltB tx y.1
    · simp -dsimp [-vc_block, g0, g1, g2, g3, g8, g9, g14, I]
      refine vdraw_of [0, 1, 3, 7, 15, 7, 63, 127, 7, 263, 7, 1031, 3847, 7943, 16383, 32767] [0, 1, 2, 3, 4, 5, 6, 7, 8, 9, 10, 11, 12, 13, 14, 15] (by kernel_rfl) (by kernel_rfl) ?_
      simp -dsimp [-vc_block, g0, g1, g2, g3, g8, g9, g14, I, ho8, gN1, vN0, vN1, lj0, lj1, w1, w1', wt, wb, wb2, wb0, wb3, wb4, S, lss, hb]
      refine ⟨by omega, fin (fun z hz' => ?_) _ (by simp [g0]) (by simp [g1, I]) (by simp [g2, S]) (by simp [g3, I]) (by simp [g8]) (by simp [g9])⟩
      rcases List.mem_append.1 hz' with h | h
      · have hso := (sortF_spec ps').2
        rw [← hpp] at hso
        have h2 := (List.pairwise_append.1 hso).1
        have h3 := (List.pairwise_append.1 h2).2.2 z h y (by simp)
        exact ltB_ntr hb h3
      · simp at h; rw [h]; exact hb
    · simp -dsimp [-vc_block, g0, g1, g2, g3, g8, g9, g14, I]
      refine vdraw_of [0, 1, 3, 7, 15, 7, 63, 127, 7, 263, 7, 1031, 3847, 7943, 16383, 32767] [0, 1, 2, 3, 4, 5, 6, 7, 8, 9, 10, 11, 12, 13, 14, 15] (by kernel_rfl) (by kernel_rfl) ?_
      simp -dsimp [-vc_block, g0, g1, g2, g3, g8, g9, g14, I, ho8, gN1, vN0, vN1, lj0, lj1, w1, w1', wt, wb, wb2, wb0, wb3, wb4, S, lss, hb]
      refine ⟨by omega, ?_⟩
      rw [vc_block]
      have c1 : kN' ≠ n8 := by omega
      have c2 : n8 ≠ kN' := by omega
      have c3 : kS' ≠ n8 := by omega
      have c4 : n8 ≠ kS' := by omega
      have c5 : n + 1 ≠ n8 := by omega
      have c6 : n8 ≠ n + 1 := by omega
      have hj1 : ¬ j + 1 = j := by omega
      have nn0 : (0 : Int) ≤ (j : Int) + 1 := by omega
      simp -dsimp [-vc_block, g0, g1, g2, g3, g8, g9, g14, I, ho8, gN1, gS1, vN0, vN1, vS0, vS1, lj0, lj1, ls0, ls1, w1, w1', wt, wb, wb2, wb0, wb3, wb4, set_ne, hNS, hSN, hN1, hS1, h1N, h1S, c1, c2, c3, c4, c5, c6, hj1, nn0]
      refine vdraw_of [0, 1, 0, 0, 8, 0, 32, 120, 248, 511, 1023] [0, 1, 2, 3, 4, 5, 6, 7, 8, 9, 10] (by kernel_rfl) (by kernel_rfl) ?_
      simp -dsimp [-vc_block, g0, g1, g2, g3, g8, g9, g14, I, ho8, gN1, gS1, vN0, vN1, vS0, vS1, lj0, lj1, ls0, ls1, w1, w1', wt, wb, wb2, wb0, wb3, wb4, set_ne, hNS, hSN, hN1, hS1, h1N, h1S, c1, c2, c3, c4, c5, c6, hj1, nn0]
      refine vdraw_of [0, 1, 0, 0, 8, 0, 32, 120, 248, 511, 1023] [0, 1, 2, 3, 4, 5, 6, 7, 8, 9, 10] (by kernel_rfl) (by kernel_rfl) ?_
      simp -dsimp [-vc_block, g0, g1, g2, g3, g8, g9, g14, I, ho8, gN1, gS1, vN0, vN1, vS0, vS1, lj0, lj1, ls0, ls1, w1, w1', wt, wb, wb2, wb0, wb3, wb4, set_ne, hNS, hSN, hN1, hS1, h1N, h1S, c1, c2, c3, c4, c5, c6, hj1, nn0]
      have eN2 : ((eN.set (j + 1) [S y.1]).set j [S tx]).take ((sortF ps').length + 1) = (pre' ++ (tx, t') :: y :: post).map nmC := by
        have := take_swap (j := j) (A := pre'.map nmC) (C := post.map nmC) (b := nmC y) (c := nmC (tx, t')) (by simp [hj]) (by rw [gN3]; simp)
        simpa [nmC] using this
      have eS2 : ((eS.set (j + 1) (tyD y.2)).set j (tyD t')).take ((sortF ps').length + 1) = (pre' ++ (tx, t') :: y :: post).map tyC := by
        have := take_swap (j := j) (A := pre'.map tyC) (C := post.map tyC) (b := tyC y) (c := tyC (tx, t')) (by simp [hj]) (by rw [gS3]; simp)
        simpa [tyC] using this
      refine ⟨j, by omega, by simp [g0], by simp [g1, I], by simp [g2, S], by simp [g3, I], by simp [g8], by simp [g9], by simp [I], by omega, fun q h1 h2 h3 => ?_, pre', y :: post, _, _, hj, by rw [← hpp]; simp, ?_, by rw [set_ne _ _ _ _ hNS, set_ne _ _ _ _ c1, set_same], ?_, eN2, by simp, ?_, eS2⟩
      · have : q ≠ n8 := by omega
        simp [set_ne, h2, h3, this]; exact gfr q h1 h2 h3
      · intro z hz'
        rcases List.mem_cons.1 hz' with rfl | h
        · exact hb
        · exact hlt z h
      · simp; omega
      · simp; omega
  · rintro σ3 m8' n8 ⟨g0, g1, g2, g3, g8, g9, gnn, gfr, gN, gS⟩
    have ho8 : m8' (n + 1) = some ⟨7, [[I (knd g), S [], I 0, S [], S [], d6, d7]], 0⟩ := by rw [gfr _ (by omega) h1N h1S, M71]; rfl
    have hk8 : m8' k = some (rObj l q2.2) := by rw [gfr k (by omega) (by omega) (by omega), M7o k kn1]; exact e7k
    have hdl : ∀ j, j < n + 1 → j ≠ k → m7 j = m4 j := fun j h1 h2 => by
      rw [o7 j (by omega) (by omega) fun e => by have := kS j e; omega, o6 j h2 (by omega) fun e => by have := kN j e; omega]
    have hn8 : m8' n = some ⟨7, [[I 0, S [], I 0, S [], S [], .v (.slice none 0 0), .v (.slice none 0 0)]], 0⟩ := by rw [gfr n (by omega) (by omega) (by omega), M7o n nn1, hdl n (by omega) nk]; exact m8
    have hf8 : ∀ j, j < n → j ≠ k → m8' j = m j := fun j hj hjk => by rw [gfr j (by omega) (by omega) (by omega), M7o j (by omega), hdl j (by omega) hjk]; exact fr j hj hjk
    have k6' : ∀ j, kof d6 = some j → n + 2 ≤ j ∧ j < n8 := fun j hj => by have := k6 j hj; omega
    have k7' : ∀ j, kof d7 = some j → n + 2 ≤ j ∧ j < n8 := fun j hj => by have := k7 j hj; omega
    have hps : As (ps' ++ [(tx, t')]) (ps' ++ [(tx, q2.1)]) q2.2 := ⟨by simp, fun e => by rw [ht' e]⟩
    simp -dsimp [-vc_block, g0, g1, g2, g3, g8, g9]
    refine aCall_of (cIs (endS g) hk8) ?_
    rintro d m9 n9 ⟨rfl, rfl, rfl⟩
    cases hs : isSig (endS g) l q2.2
    · simp -dsimp [-vc_block, g0, g1, g2, g3, g8, g9, Tt]
      refine aCall_of (cPass hl [44] hk8) ?_
      rintro d m10 n10 ⟨rfl, rfl, rfl⟩
      simp -dsimp [-vc_block, g0, g1, g2, g3, g8, g9, Tt]
      refine ⟨rem', by omega, by simp [g0], by simp [g1, I], by simp [g2, S], by simp [g3, I], by simp [g8], by simp [g9], by omega, by rw [set_ne _ _ _ _ nk, hn8]; rfl, fun j hj hjk => by rw [set_ne _ _ _ _ hjk]; exact hf8 j hj hjk, ps' ++ [(tx, q2.1)], ps' ++ [(tx, t')], d6, d7, mustF [44] l q2.2,
        by rw [set_ne _ _ _ _ n1k, ho8]; rfl, gN.frame fun j hj => set_ne _ _ _ _ (by have := k6' j hj; omega), k6', gS.frame fun j hj => set_ne _ _ _ _ (by have := k7' j hj; omega), k7', d67, set_same _ _ _, hps.then mustF_keep, by simp, by simp; omega, by simp; omega, by rw [hrec2, hs]; simp⟩
    · have hat : q2.2.at_ < l.length := by
        unfold isSig at hs; split at hs
        · rename_i t ht; exact (cur_some ht).2.1
        · cases hs
      have wa2 := wrap_at hl hat
      have hh : headN l g r p = (ps' ++ [(tx, q2.1)], stepF q2.2) := by rw [hrec2, hs]; simp
      have ok6' := okD_lst gN
      have ok7' := okD_lst gS
      simp -dsimp [-vc_block, g0, g1, g2, g3, g8, g9, Tt, hk8, rObj, rC, I, wa2, ho8, hn8, set_ne, n1k, nk, ok6', ok7', S]
      rw [rObj_step]
      exact ret _ _ d6 d7 (ps' ++ [(tx, t')]) (stepF q2.2) rfl (by rw [hfun, hh]) (fun e => by rw [hh, ht' e]) (gN.frame fun j hj => set_ne _ _ _ _ (by have := k6' j hj; omega)) (fun j hj => (k6' j hj).1) (gS.frame fun j hj => set_ne _ _ _ _ (by have := k7' j hj; omega)) (fun j hj => (k7' j hj).1) (set_same _ _ _) (fun j hj hjk => by rw [set_ne _ _ _ _ hjk]; exact hf8 j hj hjk)
end Go.Proofs.Mv.App
open Go Go.Proofs Go.Proofs.Mv.V
set_option maxRecDepth 10000
namespace Go.Proofs.Mv.App
variable [GI]
theorem great_not {s : List UInt8} (h : greatN s = true) (x : UInt8) (hx : isGreat x = false) : s ≠ [x] := by
  intro e; subst e
  simp [greatN, hx] at h
theorem body_k2 {l : List Tok} {a : Int} {tx : List UInt8} {rec : PS → Ty × PS} {p : PS} (h : begT ⟨2, a, tx⟩ = true) : bodyF l ⟨2, a, tx⟩ rec p = (if tx = wList then listF l rec p else if 0 < baseN tx then (.mk (baseN tx) [] 0 [] [] [] [], p) else (localT [] tx, p)) := by
  have hne : ∀ x : UInt8, isGreat x = false → tx ≠ [x] := by
    intro x hx e
    subst e
    have h1 : begT ⟨2, a, [x]⟩ = (decide (0 < baseN [x]) || decide ([x] = wList) || greatN [x]) := by simp [begT]
    rw [h1] at h
    simp only [Bool.or_eq_true, decide_eq_true_eq] at h
    rcases h with (h | h) | h
    · unfold baseN at h
      rw [if_neg (by simp [wInt]), if_neg (by simp [wText]), if_neg (by simp [wBool])] at h
      omega
    · simp [wList] at h
    · exact great_not h x hx rfl
  simp only [bodyF]
  rw [if_neg (by decide), if_neg (hne 123 (by decide)), if_neg (hne 91 (by decide)), if_neg (hne 40 (by decide)), if_neg (hne 60 (by decide))]
set_option maxHeartbeats 4000000 in
theorem cTypeR {l : List Tok} (hl : TkOk l) {r : Nat} (hr : r ≤ 32) (IH : ∀ r', r = r' + 1 → RTypC l r') : RTypC l r := by
  intro p k m n hk hm
  refine acalls_tyr hk ?_
  have kn : k ≠ n := by omega
  have nk : n ≠ k := by omega
  have kn1 : k ≠ n + 1 := by omega
  have n1k : n + 1 ≠ k := by omega
  have nn1 : n ≠ n + 1 := by omega
  have n1n : n + 1 ≠ n := by omega
  have hkn1 : k < n + 1 := by omega
  have hkn2 : k < n + 1 + 1 := by omega
  obtain ⟨dpt, hd⟩ : ∃ x : Int, x = 33 - r := ⟨_, rfl⟩
  rw [← hd]
  have hz7 : ([I 0, S [], I 0, S [], S [], .v (.slice none 0 0), .v (.slice none 0 0)] : List D) = zero7 := rfl
  refine acalls_vcC [0, 1, 4, 5, 6, 7, 8, 9, 13, 25, 56, 68, 73, 86, 93, 94, 99, 104] Tryz.func104 Tryz.ntmps104 (by kernel_rfl) rfl rfl (by simp) ?_
  simp -dsimp [I]
  refine aCall_of (cBeginsR hl (p := p) (by omega) (by rw [set_ne _ _ _ _ kn]; exact hm)) ?_
  rintro d m' n' ⟨rfl, rfl, rfl⟩
  cases hb : begF l p
  case false =>
    simp -dsimp [Tt]
    refine aCall_of (cWrong (p := p) (by rw [set_ne _ _ _ _ kn]; exact hm)) ?_
    rintro d m' n' ⟨rfl, rfl, rfl⟩
    rw [typF_nob hb]
    simp -dsimp [I, S, set_ne, kn, nk]
    refine tyqr Ty0 (pub_build 0 [] 0 [] []) (fun _ => rfl) (by simp [set_ne, kn]) fun j hj hjk => ?_
    rw [set_ne _ _ _ _ (by omega), set_ne _ _ _ _ hjk, set_ne _ _ _ _ (by omega)]
  obtain ⟨t, hcur⟩ : ∃ t, cur l p = some t := by
    unfold begF at hb; split at hb
    · exact ⟨_, by assumption⟩
    · cases hb
  obtain ⟨hbd, hat, hgt⟩ := cur_some hcur
  have hbt : begT t = true := by simpa [begF, hcur] using hb
  by_cases hlg : 32 < dpt
  · have hr0 : r = 0 := by omega
    rw [typF_large hb (.inl hr0)]
    simp -dsimp [Tt, I, S, hlg, set_ne, kn, nk, hm, rObj, rC]
    refine tyqr Ty0 (pub_build 0 [] 0 [] []) (fun _ => rfl) (by simp [set_ne, kn, rObj, rC, failF, hbd, I]) fun j hj hjk => ?_
    have j1 : j ≠ n := by omega
    simp [set_ne, j1, hjk]
  by_cases hct : 500 ≤ (p.cnt : Int)
  · have hct' : 500 ≤ p.cnt := by omega
    rw [typF_large hb (.inr hct')]
    simp -dsimp [Tt, I, S, hlg, set_ne, kn, nk, hm, rObj, rC, hct, hct']
    refine tyqr Ty0 (pub_build 0 [] 0 [] []) (fun _ => rfl) (by simp [set_ne, kn, rObj, rC, failF, hbd, I]) fun j hj hjk => ?_
    have j1 : j ≠ n := by omega
    simp [set_ne, j1, hjk]
  have hct' : ¬ 500 ≤ p.cnt := by omega
  obtain ⟨r', rfl⟩ : ∃ r', r = r' + 1 := ⟨r - 1, by omega⟩
  have H : RTypC l r' := IH r' rfl
  rw [typF_step hcur hbt (by omega)]
  have hd' : dpt = 32 - r' := by omega
  have wd : IntKind.i64.wrap (dpt + 1) = 33 - r' := by rw [wrap_i64 (by omega) (by omega)]; omega
  have wc : IntKind.i64.wrap ((p.cnt : Int) + 1) = (p.cnt : Int) + 1 := wrap_i64 (by omega) (by omega)
  have wa := wrap_at hl hat
  have hgx : l[p.at_] = t := get_opt hgt hat
  have hg : (l.map tokD)[p.at_]? = some (tokD t) := by simp [hat, hgx]
  have hll : (l.map tokD).length = l.length := by simp
  have htk : tokD t = [I t.kind, I t.at_, S t.text] := rfl
  have hTo : toksD l = .sl 3 (l.map tokD) := rfl
  have hb1 : (⟨p.at_ + 1, p.cnt + 1, p.bad⟩ : PS).bad = 0 := hbd
  have hp1 : ∀ L, toksD l = .sl 3 L → (⟨4, [[.sl 3 L, .v (.int .i64 ((p.at_ : Int) + 1)), .v (.int .i64 ((p.cnt : Int) + 1)), .v (.int .i64 (p.bad : Int))]], 0⟩ : V.Obj) = rObj l ⟨p.at_ + 1, p.cnt + 1, p.bad⟩ := fun L h => by simp [rObj, rC, I, h]
  generalize hL : l.map tokD = L at hg hll hTo
  have hp1' := hp1 L hTo
  clear hp1
  have hgi : L[p.at_]'(by omega) = tokD t := get_opt hg _
  have hm' : m k = some ⟨4, [[.sl 3 L, I p.at_, I p.cnt, I p.bad]], 0⟩ := by rw [hm]; simp [rObj, rC, hTo]
  generalize hpp : (⟨p.at_ + 1, p.cnt + 1, p.bad⟩ : PS) = p1 at hp1' hb1 ⊢
  clear hcur hgt hgx
  obtain ⟨kd, a, tx⟩ := t
  simp only at htk hgi
  simp -dsimp [Tt, I, hlg, set_ne, kn, nk, hm', hct, hct', wc]
  refine vdraw_of [0, 1, 3, 7, 0, 16, 48, 112, 255, 511, 0, 2047] [0, 1, 2, 3, 4, 5, 6, 7, 8, 9, 10, 11] (by kernel_rfl) (by kernel_rfl) ?_
  simp -dsimp [I, set_ne, kn, nk, hll, hgi, htk, hat, kn1, n1k, nn1, n1n, wa]
  rw [hp1']
  have fr : ∀ j, j < n → j ≠ k → j ≠ n ∧ j ≠ n + 1 ∧ j ≠ n + 1 + 1 ∧ j ≠ n + 1 + 1 + 1 := fun j h1 h2 => by omega
  have kn2 : k ≠ n + 1 + 1 := by omega
  have n2k : n + 1 + 1 ≠ k := by omega
  have n2n : n + 1 + 1 ≠ n := by omega
  have nn2 : n ≠ n + 1 + 1 := by omega
  have n21 : n + 1 + 1 ≠ n + 1 := by omega
  have n12 : n + 1 ≠ n + 1 + 1 := by omega
  have kn3 : k ≠ n + 1 + 1 + 1 := by omega
  have n3k : n + 1 + 1 + 1 ≠ k := by omega
  have n3n : n + 1 + 1 + 1 ≠ n := by omega
  have nn3 : n ≠ n + 1 + 1 + 1 := by omega
  have n23 : n + 1 + 1 ≠ n + 1 + 1 + 1 := by omega
  have n32 : n + 1 + 1 + 1 ≠ n + 1 + 1 := by omega
  have hkn3 : k < n + 1 + 1 + 1 := by omega
  have cS := fun (q : PS) (M : Mem) (N : Nat) (h : M k = some (rObj l q)) => cNamR hl (p := q) false (k := k) (m := M) (n := N) h
  have cG := fun (q : PS) (M : Mem) (N : Nat) (h : M k = some (rObj l q)) => cNamR hl (p := q) true (k := k) (m := M) (n := N) h
  simp only [Bool.false_eq_true, if_false, if_true] at cS cG
  by_cases k1 : kd = 1
  · subst k1
    simp -dsimp [set_ne, kn, nk, kn1, n1k, nn1, n1n, I]
    refine aCall_of (cPass hl [46] (p := p1) (by simp)) ?_
    rintro d m' n' ⟨rfl, rfl, rfl⟩
    simp -dsimp [set_ne, kn, nk, kn1, n1k, nn1, n1n, I]
    refine vdraw_of [0, 1, 0, 0, 8, 28, 63, 127] [0, 1, 2, 3, 4, 5, 6, 7] (by kernel_rfl) (by kernel_rfl) ?_
    simp -dsimp [set_ne, kn, nk, kn1, n1k, nn1, n1n, I]
    refine aCall_of (cG (mustF [46] l p1) _ _ (by simp)) ?_
    rintro d m' n' ⟨rfl, rfl, rfl⟩
    simp -dsimp [set_ne, kn, nk, kn1, n1k, nn1, n1n, I]
    refine aCall_of (cWordR hl (p := mustF [46] l p1) true (by simp)) ?_
    rintro d m' n' ⟨rfl, rfl, rfl⟩
    simp -dsimp [set_ne, kn, nk, kn1, n1k, nn1, n1n, I, S]
    refine tyqr (localT tx (nameF true l (mustF [46] l p1)).1) (pub_build 8 [] 0 tx _) (fun _ => by simp [bodyF]) (by simp [bodyF, set_ne, kn]) fun j hj hjk => ?_
    obtain ⟨j1, j2, j3, j4⟩ := fr j hj hjk
    simp [set_ne, j1, j2, j3, j4, hjk]
  have k1' : (kd == 1) = false := by simp [k1]
  by_cases k2 : kd = 2
  · subst k2
    rw [body_k2 hbt]
    simp -dsimp [set_ne, kn, nk, kn1, n1k, nn1, n1n, I, S]
    refine aCall_of (cBaseR tx _ _) ?_
    rintro d m' n' ⟨rfl, rfl, rfl⟩
    by_cases tL : tx = wList
    · have b4 : base4 tx = 4 := by simp [base4, tL]
      rw [if_pos tL, b4]
      simp -dsimp [set_ne, kn, nk, kn1, n1k, nn1, n1n, I]
      refine aCall_of (cPass hl [40] (p := p1) (by simp)) ?_
      rintro d m' n' ⟨rfl, rfl, rfl⟩
      simp -dsimp [set_ne, kn, nk, kn1, n1k, nn1, n1n, wd]
      refine aCall_of (H (mustF [40] l p1) k _ _ hkn2 (by simp)) ?_
      rintro d m' n' ⟨⟨t', rfl, ht'⟩, rfl, rfl⟩
      simp -dsimp [set_ne, kn, nk, kn1, n1k, nn1, n1n, kn2, n2k, n2n, nn2, n21, n12]
      refine aCall_of (cPass hl [41] (p := (typF l r' (mustF [40] l p1)).2) (by simp [set_ne, kn2])) ?_
      rintro d m' n' ⟨rfl, rfl, rfl⟩
      simp -dsimp [set_ne, kn, nk, kn1, n1k, nn1, n1n, kn2, n2k, n2n, nn2, n21, n12, kn3, n3k, n3n, nn3, n23, n32]
      refine tyqr (.mk 4 [] 0 [] [] [] [t']) ?_ (fun e => by have := ht' (mustF_keep e); simp [listF, this]) (by simp [listF, set_ne, kn, kn3]) fun j hj hjk => ?_
      · simp only [tyD]
        refine .agg (.cons (pur_I _).pub (.cons (pur_S _).pub (.cons (pur_I _).pub (.cons (pur_S _).pub (.cons (pur_S _).pub (.cons (pub_nil 1) (.cons ?_ .nil)))))))
        rw [tysD_eq]
        refine .lstP (z := 7) (Lst.own (k := n + 1 + 1 + 1) (g := 0) (es := [tyD t']) (by simp [set_ne, n3n])) (fun j hj => by simp at hj; omega) (by simpa using pur_ty t')
      · obtain ⟨j1, j2, j3, j4⟩ := fr j hj hjk
        simp [set_ne, j1, j2, j3, j4, hjk]
    rw [if_neg tL]
    have hb4 : base4 tx = baseN tx := by simp [base4, tL]
    have hne4 : (((baseN tx : Nat) : Int) == 4) = false := by
      unfold baseN
      by_cases h1 : tx = wInt
      · simp [h1]
      · by_cases h2 : tx = wText
        · simp [h2]; split <;> simp
        · by_cases h3 : tx = wBool
          · simp [h3]; split <;> (try split) <;> simp
          · simp [h1, h2, h3]
    rw [hb4]
    by_cases b0 : 0 < baseN tx
    · rw [if_pos b0]
      have b0' : (0 : Int) < baseN tx := by omega
      simp -dsimp [set_ne, kn, nk, kn1, n1k, nn1, n1n, I, S, hne4, b0, b0']
      refine tyqr (.mk (baseN tx) [] 0 [] [] [] []) (pub_build _ [] 0 [] []) (fun _ => rfl) (by simp [set_ne, kn]) fun j hj hjk => ?_
      obtain ⟨j1, j2, j3, j4⟩ := fr j hj hjk
      simp [set_ne, j1, j2, j3, j4, hjk]
    · rw [if_neg b0]
      have b0' : ¬ (0 : Int) < baseN tx := by omega
      simp -dsimp [set_ne, kn, nk, kn1, n1k, nn1, n1n, I, S, hne4, b0, b0']
      refine tyqr (localT [] tx) (pub_build 8 [] 0 [] tx) (fun _ => rfl) (by simp [set_ne, kn]) fun j hj hjk => ?_
      obtain ⟨j1, j2, j3, j4⟩ := fr j hj hjk
      simp [set_ne, j1, j2, j3, j4, hjk]
  have k2' : (kd == 2) = false := by simp [k2]
  have h4 : (decide (tx = [123]) || decide (tx = [91]) || decide (tx = [40]) || decide (tx = [60])) = true := by
    simp only [begT, k1, k2, if_false, Bool.and_eq_true] at hbt; exact hbt.2
  have hbody : bodyF l ⟨kd, a, tx⟩ (typF l r') p1 = (if tx = [123] then partsF l false (typF l r') p1 else if tx = [91] then partsF l true (typF l r') p1
      else if tx = [60] then openF l p1 else funcF l (typF l r') p1) := by
    simp only [bodyF]; rw [if_neg k1]
    simp only [Bool.or_eq_true, decide_eq_true_eq] at h4
    rcases h4 with ((h | h) | h) | h <;> subst h <;> simp [wList]
  rw [hbody]
  by_cases t1 : tx = [123]
  · have t1' : (tx == [123]) = true := by simp [t1]
    rw [if_pos t1]
    simp -dsimp [set_ne, kn, nk, kn1, n1k, nn1, n1n, I, S, k1', k2', t1']
    have hN := fun (M : Mem) (h : M k = some (rObj l p1)) => cParts hl false (by omega) H hkn2 h
    rw [← hd'] at hN
    refine aCall_of (hN _ (by simp)) ?_
    rintro d m' n' ⟨⟨t', rfl, ht'⟩, rfl, rfl⟩
    simp -dsimp [set_ne, kn, nk, kn1, n1k, nn1, n1n]
    refine tyqr t' (pur_tyA t').pub ht' (by simp [set_ne, kn]) fun j hj hjk => ?_
    obtain ⟨j1, j2, j3, j4⟩ := fr j hj hjk
    simp [set_ne, j1, j2, j3, j4, hjk]
  have t1' : (tx == [123]) = false := by simp [t1]
  rw [if_neg t1]
  by_cases t2 : tx = [91]
  · have t2' : (tx == [91]) = true := by simp [t2]
    rw [if_pos t2]
    simp -dsimp [set_ne, kn, nk, kn1, n1k, nn1, n1n, I, S, k1', k2', t1', t2']
    have hN := fun (M : Mem) (h : M k = some (rObj l p1)) => cParts hl true (by omega) H hkn2 h
    rw [← hd'] at hN
    refine aCall_of (hN _ (by simp)) ?_
    rintro d m' n' ⟨⟨t', rfl, ht'⟩, rfl, rfl⟩
    simp -dsimp [set_ne, kn, nk, kn1, n1k, nn1, n1n]
    refine tyqr t' (pur_tyA t').pub ht' (by simp [set_ne, kn]) fun j hj hjk => ?_
    obtain ⟨j1, j2, j3, j4⟩ := fr j hj hjk
    simp [set_ne, j1, j2, j3, j4, hjk]
  have t2' : (tx == [91]) = false := by simp [t2]
  rw [if_neg t2]
  by_cases t4 : tx = [60]
  · have t4' : (tx == [60]) = true := by simp [t4]
    rw [if_pos t4]
    simp -dsimp [set_ne, kn, nk, kn1, n1k, nn1, n1n, kn2, n2k, n2n, nn2, n21, n12, I, S, k1', k2', t1', t2', t4']
    refine aCall_of (cS p1 _ _ (by simp [set_ne, kn2])) ?_
    rintro d m' n' ⟨rfl, rfl, rfl⟩
    simp -dsimp [set_ne, kn, nk, kn1, n1k, nn1, n1n, kn2, n2k, n2n, nn2, n21, n12]
    refine aCall_of (cWordR hl (p := p1) false (by simp [set_ne, kn2])) ?_
    rintro d m' n' ⟨rfl, rfl, rfl⟩
    simp -dsimp [set_ne, kn, nk, kn1, n1k, nn1, n1n, kn2, n2k, n2n, nn2, n21, n12]
    refine aCall_of (cMajor hl (p := (nameF false l p1).2) (by simp [set_ne, kn2])) ?_
    rintro d m' n' ⟨rfl, rfl, rfl⟩
    simp -dsimp [set_ne, kn, nk, kn1, n1k, nn1, n1n, kn2, n2k, n2n, nn2, n21, n12]
    refine aCall_of (cS (numF l (nameF false l p1).2).2 _ _ (by simp [set_ne, kn2])) ?_
    rintro d m' n' ⟨rfl, rfl, rfl⟩
    simp -dsimp [set_ne, kn, nk, kn1, n1k, nn1, n1n, kn2, n2k, n2n, nn2, n21, n12]
    refine aCall_of (cWordR hl (p := (numF l (nameF false l p1).2).2) false (by simp [set_ne, kn2])) ?_
    rintro d m' n' ⟨rfl, rfl, rfl⟩
    simp -dsimp [set_ne, kn, nk, kn1, n1k, nn1, n1n, kn2, n2k, n2n, nn2, n21, n12]
    refine aCall_of (cG (nameF false l (numF l (nameF false l p1).2).2).2 _ _ (by simp [set_ne, kn2])) ?_
    rintro d m' n' ⟨rfl, rfl, rfl⟩
    simp -dsimp [set_ne, kn, nk, kn1, n1k, nn1, n1n, kn2, n2k, n2n, nn2, n21, n12]
    refine aCall_of (cWordR hl (p := (nameF false l (numF l (nameF false l p1).2).2).2) true (by simp [set_ne, kn2])) ?_
    rintro d m' n' ⟨rfl, rfl, rfl⟩
    simp -dsimp [set_ne, kn, nk, kn1, n1k, nn1, n1n, kn2, n2k, n2n, nn2, n21, n12]
    refine aCall_of (cPass hl [62] (p := (nameF true l (nameF false l (numF l (nameF false l p1).2).2).2).2) (by simp [set_ne, kn2])) ?_
    rintro d m' n' ⟨rfl, rfl, rfl⟩
    simp -dsimp [set_ne, kn, nk, kn1, n1k, nn1, n1n, kn2, n2k, n2n, nn2, n21, n12]
    refine tyqr (openF l p1).1 (pub_build 9 _ _ _ _) (fun _ => rfl) (by simp [openF, set_ne, kn, kn2]) fun j hj hjk => ?_
    obtain ⟨j1, j2, j3, j4⟩ := fr j hj hjk
    simp [set_ne, j1, j2, j3, j4, hjk]
  have t4' : (tx == [60]) = false := by simp [t4]
  rw [if_neg t4]
  simp -dsimp [set_ne, kn, nk, kn1, n1k, nn1, n1n, I, S, k1', k2', t1', t2', t4']
  have hN := fun (M : Mem) (h : M k = some (rObj l p1)) => cFunR hl (by omega) H hkn2 h
  rw [← hd'] at hN
  refine aCall_of (hN _ (by simp)) ?_
  rintro d m' n' ⟨⟨t', rfl, ht'⟩, rfl, rfl⟩
  simp -dsimp [set_ne, kn, nk, kn1, n1k, nn1, n1n]
  refine tyqr t' (pur_tyA t').pub ht' (by simp [set_ne, kn]) fun j hj hjk => ?_
  obtain ⟨j1, j2, j3, j4⟩ := fr j hj hjk
  simp [set_ne, j1, j2, j3, j4, hjk]
theorem rtypC {l : List Tok} (hl : TkOk l) : ∀ r, r ≤ 32 → RTypC l r
  | 0, h => cTypeR hl h fun r' e => by omega
  | r + 1, h => cTypeR hl h fun r' e => by
    obtain rfl : r = r' := by omega
    exact rtypC hl r (by omega)
end Go.Proofs.Mv.App
open Go Go.Proofs Go.Proofs.Mv.V
set_option maxRecDepth 10000
namespace Go.Proofs.Mv.App
variable [GI]
def badO : Option (Int × Nat) → Nat
  | none => 0
  | some (_, c) => c
def placeO : Option (Int × Nat) → Int
  | none => -1
  | some (a, _) => a
set_option maxHeartbeats 2000000 in
theorem cRefAt {l : List Tok} (hl : TkOk l) (i : Int) (m : Mem) (n : Nat) : ACalls Tryz.prog 62 [toksD l, I i] m n (fun d m' n' => d = .tup [.agg (tyD (atF l i).1), I (atF l i).2.1, I (badO (atF l i).2.2), I (placeO (atF l i).2.2)] ∧ m' = m ∧ n' = n) := by
  refine acalls_done (R' := Hq (fun d m' n' => (∃ dt, d = .tup [dt, I (atF l i).2.1, I (badO (atF l i).2.2), I (placeO (atF l i).2.2)] ∧ PubAs n m' dt (.agg (tyD (atF l i).1))) ∧ ∀ j, j < n → m' j = m j) tg) ?_ ?_
  · have hll : (l.map tokD).length = l.length := by simp
    have nn1 : n ≠ n + 1 := by omega
    have n1n : n + 1 ≠ n := by omega
    have hn1 : n + 1 < n + 1 + 1 := by omega
    have bad : i < 0 ∨ (l.length : Int) < i → atF l i = (Ty0, 0, some (i, 2)) := fun h => by rw [atF, if_pos h]
    have hT : toksD l = .sl 3 (l.map tokD) := rfl
    refine acalls_vcC [0, 1, 4, 5, 6, 7, 8, 9, 17, 30] Tryz.func62 Tryz.ntmps62 (by kernel_rfl) rfl rfl (by simp) ?_
    by_cases h1 : i < 0
    · rw [bad (.inl h1)]
      simp -dsimp [I, h1]
      refine hq ⟨⟨_, rfl, by simpa [I, S] using pub_ty0⟩, fun j hj => ?_⟩
      have j1 : j ≠ n := by omega
      simp [set_ne, j1]
    by_cases h2 : (l.length : Int) < i
    · rw [bad (.inr h2)]
      generalize hL : l.map tokD = L at hll hT
      simp -dsimp [I, h1, hT, hll, h2]
      refine hq ⟨⟨_, rfl, by simpa [I, S] using pub_ty0⟩, fun j hj => ?_⟩
      have j1 : j ≠ n := by omega
      simp [set_ne, j1]
    obtain ⟨q, hqi⟩ : ∃ q : Nat, i = q := ⟨i.toNat, by omega⟩
    subst hqi
    have hgo : atF l q = if (typF l 32 ⟨q, 0, 0⟩).2.bad ≠ 0 then (Ty0, 0, some (((typF l 32 ⟨q, 0, 0⟩).2.at_ : Int), (typF l 32 ⟨q, 0, 0⟩).2.bad)) else ((typF l 32 ⟨q, 0, 0⟩).1, (typF l 32 ⟨q, 0, 0⟩).2.at_, none) := by
      rw [atF, if_neg (by omega)]; rfl
    have h2' : ¬ l.length < q := by omega
    have hobj : (⟨4, [[toksD l, .v (.int .i64 (q : Int)), .v (.int .i64 0), .v (.int .i64 0)]], 0⟩ : V.Obj) = rObj l ⟨q, 0, 0⟩ := by simp [rObj, rC, I]
    generalize hL : l.map tokD = L at hll hT
    simp -dsimp [I, h1, hT, hll, h2, h2']
    rw [← hT, hobj]
    have ht := rtypC hl 32 (by omega) ⟨q, 0, 0⟩ (n + 1) (m.set n ⟨7, [[D.v (.int .i64 0), .v (.string (ofL [])), .v (.int .i64 0), .v (.string (ofL [])), .v (.string (ofL [])), .v (.slice none 0 0), .v (.slice none 0 0)]], 0⟩ |>.set (n + 1) (rObj l ⟨q, 0, 0⟩)) (n + 1 + 1) hn1 (by simp)
    refine aCall_of ht ?_
    rintro d m' n' ⟨⟨t', rfl, ht'⟩, rfl, rfl⟩
    rw [hgo]
    generalize typF l 32 ⟨q, 0, 0⟩ = x at ht' ⊢
    have n2n : n + 1 + 1 ≠ n := by omega
    have nn2 : n ≠ n + 1 + 1 := by omega
    have n21 : n + 1 + 1 ≠ n + 1 := by omega
    have n12 : n + 1 ≠ n + 1 + 1 := by omega
    by_cases hb : x.2.bad = 0
    · rw [if_neg (by simp [hb])]
      simp -dsimp [set_ne, nn1, n1n, n2n, nn2, n21, n12, rObj, rC, hb, I]
      refine vdraw_of [0, 0, 2, 6, 14, 1, 63, 127, 255] [0, 1, 2, 3, 4, 5, 6, 7, 8] (by kernel_rfl) (by kernel_rfl) ?_
      simp -dsimp [set_ne, nn1, n1n, n2n, nn2, n21, n12, rObj, rC, hb, I]
      refine hq ⟨⟨_, rfl, by rw [ht' hb]; exact (pur_tyA _).pub⟩, fun j hj => ?_⟩
      have j1 : j ≠ n := by omega
      have j2 : j ≠ n + 1 := by omega
      have j3 : j ≠ n + 1 + 1 := by omega
      simp [set_ne, j1, j2, j3]
    · rw [if_pos (by simp [hb])]
      have hb' : ((x.2.bad : Int) != 0) = true := by simp; omega
      simp -dsimp [set_ne, nn1, n1n, n2n, nn2, n21, n12, rObj, rC, hb, hb', I]
      refine vdraw_of [0, 0, 2, 6, 14, 0, 32, 96, 224, 1, 513, 1567, 4095] [0, 1, 2, 3, 4, 5, 6, 7, 8, 9, 10, 11, 12] (by kernel_rfl) (by kernel_rfl) ?_
      simp -dsimp [set_ne, nn1, n1n, n2n, nn2, n21, n12, rObj, rC, hb, hb', I]
      refine hq ⟨⟨_, rfl, by simpa [I, S] using pub_ty0⟩, fun j hj => ?_⟩
      have j1 : j ≠ n := by omega
      have j2 : j ≠ n + 1 := by omega
      have j3 : j ≠ n + 1 + 1 := by omega
      simp [set_ne, j1, j2, j3]
  · rintro d m' n' ⟨⟨dt, rfl, h⟩, hf⟩
    exact ⟨_, .tup (.cons h (.cons (pur_I _).pub (.cons (pur_I _).pub (.cons (pur_I _).pub .nil)))), hf, rfl⟩
def badP : PErr → Nat
  | .none => 0
  | .large => 3
  | .spot _ c => c
def placeP : PErr → Int
  | .none => -1
  | .large => -1
  | .spot a _ => a
theorem parseF_small {s : List UInt8} (h1 : ¬ 20000 < s.length) : parseF s = (match (toksAt s 0).2 with
    | some a => (Ty0, .spot a 2)
    | Option.none => match (atF (toksAt s 0).1 0).2.2 with
      | some (a, c) => (Ty0, .spot a c)
      | Option.none => if (atF (toksAt s 0).1 0).2.1 < (toksAt s 0).1.length then (Ty0, .spot (atF (toksAt s 0).1 0).2.1 2) else ((atF (toksAt s 0).1 0).1, .none)) := by rw [parseF, if_neg h1]; rfl
theorem atF_bad {l : List Tok} {i a : Int} {c : Nat} (h : (atF l i).2.2 = some (a, c)) : c ≠ 0 ∧ (atF l i).1 = Ty0 ∧ (atF l i).2.1 = 0 := by
  unfold atF at h ⊢
  split at h
  · rename_i h1; simp only [Option.some.injEq, Prod.mk.injEq] at h; simp [if_pos h1]; omega
  · rename_i h1
    split at h
    · rename_i h2; simp only [Option.some.injEq, Prod.mk.injEq] at h; rw [if_neg h1, if_pos h2]; exact ⟨by omega, rfl, rfl⟩
    · cases h
end Go.Proofs.Mv.App
