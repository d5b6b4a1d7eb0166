/- A part of the proofs of the seat YtgekkmmmidgkbaaGreatDoor: the abstract machine, the contracts of the functions, the laws. No condition of its own. -/
import Derived.Test.YtgekkmmmidgkbaaGreatDoorP09
import Derived.Test.YtgekkmmmidgkbaaGreatDoorP19
import Derived.Test.YtgekkmmmidgkbaaGreatDoorP07
import Derived.Test.YtgekkmmmidgkbaaGreatDoorMvPc
import Derived.Test.YtgekkmmmidgkbaaGreatDoorMvRf
import Derived.Test.YtgekkmmmidgkbaaGreatDoorP08
import Derived.Test.YtgekkmmmidgkbaaGreatDoorMvSo
import Derived.WalkKit
import Derived.Laws.Cover1
import Derived.Ground.SlsfProg
import Derived.Shelf.SlLaysF0
import Derived.Test.YtgekkmmmidgkbaaGreatDoorProg
import Derived.Shelf.SlSortCmp.NoneTotal
set_option linter.unusedSimpArgs false
set_option linter.unusedVariables false
set_option linter.unusedSectionVars false
open Go Go.Proofs Go.Proofs.Mv.V
set_option maxRecDepth 10000
namespace Go.Proofs.Mv.App
theorem cUSpoil {l : List Tok} {p : PS} (c : Nat) (hc : c ≠ 0) {k : Nat} {m : Mem} {n : Nat} (hk : k < n) (hm : m k = some (sObj l p)) :
    ACalls Tryz.prog 23 [.ptr k 0 0 0, I c] m n (fun d m' n' => d = .tup [] ∧ m' = m.set k (sObj l (failS c p)) ∧ n' = n) := by
  have kn : k ≠ n := by omega
  have nk : n ≠ k := by omega
  by_cases hb : p.bad = 0
  · refine acalls_put (R' := Hq (fun d m' n' => d = .tup [] ∧ (∃ q, n ≤ q ∧ m' k = some ⟨3, [[toksD l, I p.at_, .iface 60 (.ptr q 0 0 0)]], 0⟩ ∧ m' q = some ⟨2, [[I p.at_, code c]], 0⟩) ∧ ∀ j, j < n → j ≠ k → m' j = m j) tg) k hk _ ?_ ?_
    · refine acalls_vc [0, 1, 8] Tryz.func23 Tryz.ntmps23 (by kernel_rfl) rfl rfl (by simp) ?_
      simp -dsimp [hm, sObj, sC, errS, hb, nilE, set_ne, kn, nk]
      refine hq ⟨rfl, ⟨n, Nat.le_refl _, by simp, by simp [set_ne, nk, code, I]⟩, fun j hj hjk => ?_⟩
      rw [set_ne _ _ _ _ hjk, set_ne _ _ _ _ (by omega)]
    · rintro d m' n' ⟨rfl, ⟨q, h1, h2, h3⟩, h4⟩
      have hf : failS c p = ⟨p.at_, p.at_, c⟩ := by simp [failS, hb]
      rw [hf]
      refine ⟨_, _, pur_tup0.pub, h2, .cons (.cons (pur_toks l).pub (.cons (pur_I _).pub (.cons ?_ .nil))) .nil, h4, rfl⟩
      simp only [errS, if_neg hc]
      exact .iface (.ptr h3 h1 (.cons (pur_I _).pub (.cons (pur_code _).pub .nil)))
  · rw [failS_bad hb, set_self hm]
    refine acalls_vc [0, 1, 8] Tryz.func23 Tryz.ntmps23 (by kernel_rfl) rfl rfl (by simp) ?_
    simp -dsimp [hm, sObj, sC, errS, hb, spotE]
    done
theorem cUHere {l : List Tok} {p : PS} {k : Nat} {m : Mem} {n : Nat} (hk : k < n) (hm : m k = some (sObj l p)) :
    ACalls Tryz.prog 54 [.ptr k 0 0 0] m n (fun d m' n' => d = .agg (peekD l p) ∧ m' = m ∧ n' = n) := by
  have kn : k ≠ n := by omega
  have nk : n ≠ k := by omega
  have fr : ∀ o, ∀ j, j < n → (m.set n o) j = m j := fun o j hj => set_ne _ _ _ _ (by omega)
  refine acalls_done (R' := Hq (fun d m' n' => d = .agg (peekD l p) ∧ ∀ j, j < n → m' j = m j) tg) ?_ ?_
  · refine acalls_vcC [0, 2, 19] Tryz.func54 Tryz.ntmps54 (by kernel_rfl) rfl rfl (by simp) ?_
    by_cases hb : p.bad = 0
    · by_cases ha : p.at_ < l.length
      · have hg : (l.map tokD)[p.at_]? = some (tokD l[p.at_]) := by simp [ha]
        have hl : (l.map tokD).length = l.length := by simp
        have hc : peekD l p = tokD l[p.at_] := by simp [peekD, cur, hb, ha]
        have hle : ¬ (l.length : Int) ≤ p.at_ := by omega
        have htk : tokD l[p.at_] = [I l[p.at_].kind, I l[p.at_].at_, S l[p.at_].text] := rfl
        generalize hL : l.map tokD = L at hg hl
        have hgi : L[p.at_]'(by omega) = tokD l[p.at_] := get_opt hg _
        rw [hc]
        simp -dsimp [hm, sObj, sC, errS, hb, nilE, toksD, hL, hl, I, hle, set_ne, kn, nk]
        refine vdraw_of [0, 1, 3, 7, 15, 31, 63, 127, 255, 511, 63, 1087, 3135, 7231, 15423, 32767, 65535] [0, 1, 2, 3, 4, 5, 6, 7, 8, 9, 10, 11, 12, 13, 14, 15, 16] (by kernel_rfl) (by kernel_rfl) ?_
        simp -dsimp [hm, sObj, sC, errS, hb, nilE, toksD, hL, hl, I, hle, set_ne, kn, nk]
        refine vdraw_of [0, 1, 3, 7, 0, 16, 48, 112, 255, 511, 1023] [0, 1, 2, 3, 4, 5, 6, 7, 8, 9, 10] (by kernel_rfl) (by kernel_rfl) ?_
        simp -dsimp [hm, sObj, sC, errS, hb, nilE, toksD, hL, hl, I, hle, set_ne, kn, nk, hgi, ha, htk]
        exact hq ⟨by simp [htk, I], fr _⟩
      · have hc : peekD l p = [I 0, I 0, S []] := by simp [peekD, cur, hb, ha]
        have hle : (l.length : Int) ≤ p.at_ := by omega
        rw [hc]
        simp -dsimp [hm, sObj, sC, errS, hb, nilE, toksD, I, hle, set_ne, kn, nk]
        refine vdraw_of [0, 1, 3, 7, 15, 31, 63, 127, 255, 511, 63, 1087, 3135, 7231, 15423, 32767, 65535] [0, 1, 2, 3, 4, 5, 6, 7, 8, 9, 10, 11, 12, 13, 14, 15, 16] (by kernel_rfl) (by kernel_rfl) ?_
        simp -dsimp [hm, sObj, sC, errS, hb, nilE, toksD, I, hle, set_ne, kn, nk]
        exact hq ⟨by simp [I, S], fr _⟩
    · have hc : peekD l p = [I 0, I 0, S []] := by simp [peekD, cur, hb]
      rw [hc]
      simp -dsimp [hm, sObj, sC, errS, hb, spotE, set_ne, kn, nk]
      refine vdraw_of [0, 1, 3, 7, 15, 31, 63, 127, 255, 511, 63, 1087, 3135, 7231, 15423, 32767, 65535] [0, 1, 2, 3, 4, 5, 6, 7, 8, 9, 10, 11, 12, 13, 14, 15, 16] (by kernel_rfl) (by kernel_rfl) ?_
      simp -dsimp [hm, sObj, sC, errS, hb, spotE, set_ne, kn, nk]
      exact hq ⟨by simp [I, S], fr _⟩
  · rintro d m' n' ⟨rfl, h⟩
    refine ⟨_, Pur.pub (Pur.agg ?_), h, rfl⟩
    unfold peekD; split
    · exact pur_tok _
    · intro d hd
      simp only [List.mem_cons, List.not_mem_nil, or_false] at hd
      rcases hd with rfl | rfl | rfl
      · exact pur_I _
      · exact pur_I _
      · exact pur_S _
theorem cUBeg {l : List Tok} (hl : TkOk l) {p : PS} (s : List UInt8) {k : Nat} {m : Mem} {n : Nat} (hk : k < n) (hm : m k = some (sObj l p)) :
    ACalls Tryz.prog 22 [.ptr k 0 0 0, S s] m n (fun d m' n' => d = Tt (isKey s l p) ∧ m' = m ∧ n' = n) := by
  have kn : k ≠ n := by omega
  have nk : n ≠ k := by omega
  obtain ⟨kd, a, tx, hp⟩ := pk_of hl p
  refine acalls_done (R' := Hq (fun d m' n' => d = Tt (isKey s l p) ∧ ∀ j, j < n → m' j = m j) tg) ?_ ?_
  · have fr : ∀ o, ∀ j, j < n → (m.set n o) j = m j := fun o j hj => set_ne _ _ _ _ (by omega)
    refine acalls_vc [0, 1, 4, 5] Tryz.func22 Tryz.ntmps22 (by kernel_rfl) rfl rfl (by simp) ?_
    simp -dsimp
    refine aCall_of (cUHere hk hm) ?_
    rintro d m' n' ⟨rfl, rfl, rfl⟩
    rw [hp.pk, pk_key hp]
    by_cases e1 : kd = 1
    · by_cases e : tx = s
      · have e' : (tx == s) = true := by simp [e]
        simp -dsimp [I, S, e1, e', hm, set_ne, kn, nk]
        exact hq ⟨by simp [e, e1, Tt], fr _⟩
      · have e' : (tx == s) = false := by simp [e]
        simp -dsimp [I, S, e1, e', hm, set_ne, kn, nk]
        exact hq ⟨by simp [e, Tt], fr _⟩
    · have e1' : (kd == 1) = false := by simp [e1]
      simp -dsimp [I, S, e1', hm, set_ne, kn, nk]
      exact hq ⟨by simp [e1, Tt], fr _⟩
  · rintro d m' n' ⟨rfl, h⟩
    exact ⟨_, (pur_T _).pub, h, rfl⟩
/-- What a reader's question is: a pure one, of a text. -/
def Fine (f : D) (ok : List UInt8 → Bool) : Prop := ∃ fp cs, f = .func (.func fp) [] cs ∧ List.length cs ≤ 3 ∧ ∀ s : List UInt8, s.length ≤ 1000000 → Pc Tryz.prog fp (S s :: cs) (Tt (ok s))
theorem fineS : Fine (.func (.func 56) [] []) (namOk false) := ⟨_, _, rfl, by simp, fun s hs m n => cSmall s (by omega) m n⟩
theorem fineG : Fine (.func (.func 60) [] []) (namOk true) := ⟨_, _, rfl, by simp, fun s hs m n => cGreat s (by omega) m n⟩
def exD (s : List UInt8) : D := .func (.func 105) [] [.rptr none [S s]]
theorem cExact (s : List UInt8) : Pc Tryz.prog 59 [S s] (exD s) := fun m n => by
  refine acalls_done (R' := Hq (fun d m' n' => d = .func (.func 105) [] [.ptr n 0 0 0] ∧ m' n = some ⟨1, [[S s]], 0⟩ ∧ ∀ j, j < n → m' j = m j) tg) ?_ ?_
  · refine acalls_vc [0, 1, 2] Tryz.func59 Tryz.ntmps59 (by kernel_rfl) rfl rfl (by simp) ?_
    simp -dsimp [S]
    exact hq ⟨rfl, by simp [S], fun j hj => set_ne _ _ _ _ (by omega)⟩
  · rintro d m' n' ⟨rfl, h1, h2⟩
    exact ⟨_, .func (.cons (.ptr h1 (Nat.le_refl _) (.cons (pur_S _).pub .nil)) .nil), h2, rfl⟩
theorem fineX (s : List UInt8) : Fine (exD s) (fun t => t == s) := ⟨_, _, rfl, by simp, fun t ht => by
  refine pc_of (pur_T _) (fun m n => ?_)
  refine acalls_vc [0, 1, 3] Tryz.func105 Tryz.ntmps105 (by kernel_rfl) rfl rfl (by simp) ?_
  simp -dsimp [S]
  exact pcq' (by simp [Tt])⟩
set_option maxHeartbeats 1000000 in
theorem cUMajor (s : List UInt8) (hs : s.length ≤ 1000000) : Pc Tryz.prog 58 [S s] (Tt (numOk s)) := by
  refine pc_of (pur_T _) (fun m n => ?_)
  refine acalls_vc [0, 2, 3, 4] Tryz.func58 Tryz.ntmps58 (by kernel_rfl) rfl rfl (by simp) ?_
  simp -dsimp [I]
  refine aCall_of (cParseUint s (by omega) _ _) ?_
  rintro d m2 n2 ⟨x, e, rfl, hx, rfl, rfl⟩
  cases hu : okU (Lib.parseUintB 32 s) with
  | none =>
    rw [hu] at hx
    obtain ⟨t, rfl⟩ := hx
    simp -dsimp [I, S, Tt]
    exact pcq' (by simp [numOk_no hu, Tt])
  | some u =>
    rw [hu] at hx
    obtain ⟨rfl, rfl⟩ := hx
    have hpu := okU_some hu
    have no : ¬ numOk s = true → Tt (numOk s) = .v (.bool false) := fun h => by simp [Tt]; simpa using h
    by_cases u1 : (1 : Int) ≤ (u : Int)
    case neg =>
      have u1' : ¬ 1 ≤ u := by omega
      have u0 : u = 0 := by omega
      simp -dsimp [I, S, Tt, u1, u1', u0, nilE]
      exact pcq' (no fun q => by have := of_numOk q; rw [hpu] at this; simp at this; omega).symm
    have u1' : 1 ≤ u := by omega
    by_cases u2 : (u : Int) ≤ 999999999
    case neg =>
      have u2' : ¬ u ≤ 999999999 := by omega
      simp -dsimp [I, S, Tt, u1, u1', u2, u2', nilE]
      exact pcq' (no fun q => by have := of_numOk q; rw [hpu] at this; simp at this; omega).symm
    have u2' : u ≤ 999999999 := by omega
    obtain ⟨y, r, rfl⟩ : ∃ y r, s = y :: r := by
      cases s with
      | nil => simp [Lib.parseUintB] at hpu
      | cons y r => exact ⟨_, _, rfl⟩
    by_cases u3 : y.toNat = 48
    · have hy : y = 48 := UInt8.toNat_inj.1 u3
      have hno := no fun q => absurd (by simp [hy]) (of_numOk q).2.2.2.1
      clear hy
      simp -dsimp [I, S, Tt, u1, u1', u2, u2', u3, nilE]
      exact pcq' hno.symm
    have u3' : ((y.toNat : Int) != 48) = true := by simp; omega
    obtain ⟨q1, q2⟩ := numOk_of hpu (by omega) (by omega) (by simp; intro h; exact u3 (by rw [h]; rfl))
    simp -dsimp [I, S, Tt, u1, u1', u2, u2', u3', nilE]
    exact pcq' (by simp [q1, Tt])
theorem fineN : Fine (.func (.func 58) [] []) numOk := ⟨_, _, rfl, by simp, cUMajor⟩
theorem cUPass {l : List Tok} (hl : TkOk l) {p : PS} {kd : Int} (hkd : kd ≠ 0) {f : D} {ok : List UInt8 → Bool} (hf : Fine f ok) {k : Nat} {m : Mem} {n : Nat} (hk : k < n) (hm : m k = some (sObj l p)) :
    ACalls Tryz.prog 55 [.ptr k 0 0 0, I kd, f] m n (fun d m' n' => d = S (takeF (kF kd ok l p) l p).1 ∧ m' = m.set k (sObj l (takeF (kF kd ok l p) l p).2) ∧ n' = n) := by
  have kn : k ≠ n := by omega
  have nk : n ≠ k := by omega
  have kn1 : k < n + 1 := by omega
  obtain ⟨fp, cs, rfl, hcs, hc⟩ := hf
  obtain ⟨kx, a, tx, hp⟩ := pk_of hl p
  rw [pk_kF hp hkd]
  refine acalls_fin hk (pur_sObj _ _) (fun d h => by rw [h]; exact pur_S _) ?_
  refine acalls_vc [0, 1, 2, 6, 7, 20] Tryz.func55 Tryz.ntmps55 (by kernel_rfl) rfl rfl (by simp) ?_
  simp -dsimp
  refine aCall_of (cUHere hk hm) ?_
  rintro d m' n' ⟨rfl, rfl, rfl⟩
  rw [hp.pk]
  by_cases ek : kx = kd
  case neg =>
    have ek' : (kx != kd) = true := by simp [ek]
    simp -dsimp [I, S, ek, ek', hm, set_ne, kn, nk]
    refine aCall_of (cUSpoil (l := l) (p := p) 2 (by omega) kn1 (by simp [set_ne, kn, hm])) ?_
    rintro d m2 n2 ⟨rfl, rfl, rfl⟩
    simp -dsimp
    refine fin_mk (by simp [takeF, S, ek]) (by simp [takeF, ek]) fun j hj hjk => ?_
    rw [set_ne _ _ _ _ hjk, set_ne _ _ _ _ (by omega)]
  subst ek
  have ek' : (kx != kx) = false := by simp
  obtain ⟨hb, ha⟩ := hp.ok hkd
  simp -dsimp [I, S, ek', hm, set_ne, kn, nk]
  refine pcall (hc tx (by have := hp.len; omega)) ?_
  cases eo : ok tx
  · simp -dsimp [Tt]
    refine aCall_of (cUSpoil (l := l) (p := p) 2 (by omega) kn1 (by simp [set_ne, kn, hm])) ?_
    rintro d m2 n2 ⟨rfl, rfl, rfl⟩
    simp -dsimp
    refine fin_mk (by simp [takeF, S, eo]) (by simp [takeF, eo]) fun j hj hjk => ?_
    rw [set_ne _ _ _ _ hjk, set_ne _ _ _ _ (by omega)]
  · have wa := wrap_at hl ha
    simp -dsimp [Tt, hm, set_ne, kn, nk, sObj, sC, I, S, wa]
    refine fin_mk (by simp [takeF, hp.tex, S, eo]) ?_ fun j hj hjk => ?_
    · simp [takeF, sObj, sC, errS, hb, stepF, I, eo]
    · rw [set_ne _ _ _ _ hjk, set_ne _ _ _ _ (by omega)]
theorem cUPnam {l : List Tok} (hl : TkOk l) (g : Bool) {p : PS} {f : D} (hf : Fine f (namOk g)) {k : Nat} {m : Mem} {n : Nat} (hk : k < n) (hm : m k = some (sObj l p)) :
    ACalls Tryz.prog 55 [.ptr k 0 0 0, I (if g then 2 else 1), f] m n (fun d m' n' => d = S (nameS g l p).1 ∧ m' = m.set k (sObj l (nameS g l p).2) ∧ n' = n) := by
  have h := cUPass hl (p := p) (kd := if g then 2 else 1) (by cases g <;> simp) hf hk hm
  rw [kF_nam] at h; exact h
theorem cUPsig {l : List Tok} (hl : TkOk l) (s : List UInt8) {p : PS} {k : Nat} {m : Mem} {n : Nat} (hk : k < n) (hm : m k = some (sObj l p)) :
    ACalls Tryz.prog 55 [.ptr k 0 0 0, I 4, exD s] m n (fun d m' n' => d = S (takeF (isSig s l p) l p).1 ∧ m' = m.set k (sObj l (mustS s l p)) ∧ n' = n) := by
  have h := cUPass hl (p := p) (kd := 4) (by omega) (fineX s) hk hm
  rw [kF_sig] at h; exact h
theorem cUPkey {l : List Tok} (hl : TkOk l) (s : List UInt8) {p : PS} {k : Nat} {m : Mem} {n : Nat} (hk : k < n) (hm : m k = some (sObj l p)) :
    ACalls Tryz.prog 55 [.ptr k 0 0 0, I 1, exD s] m n (fun d m' n' => d = S (takeF (isKey s l p) l p).1 ∧ m' = m.set k (sObj l (takeF (isKey s l p) l p).2) ∧ n' = n) := by
  have h := cUPass hl (p := p) (kd := 1) (by omega) (fineX s) hk hm
  rw [kF_key] at h; exact h
theorem cUPnum {l : List Tok} (hl : TkOk l) {p : PS} {k : Nat} {m : Mem} {n : Nat} (hk : k < n) (hm : m k = some (sObj l p)) :
    ACalls Tryz.prog 55 [.ptr k 0 0 0, I 3, .func (.func 58) [] []] m n (fun d m' n' => d = S (takeF (isNum l p) l p).1 ∧ m' = m.set k (sObj l (numS l p)) ∧ n' = n) := by
  have h := cUPass hl (p := p) (kd := 3) (by omega) fineN hk hm
  rw [kF_num] at h; exact h
end Go.Proofs.Mv.App
open Go Go.Proofs Go.Proofs.Mv.V
namespace Go.Proofs.Mv.App
theorem atF_bad {l : List Tok} {i a : Int} {c : Nat} (h : (atF l i).2.2 = some (a, c)) : c ≠ 0 ∧ (atF l i).1 = Ty0 ∧ (atF l i).2.1 = 0 := by
  unfold atF at h ⊢
  split at h
  · rename_i h1; simp only [Option.some.injEq, Prod.mk.injEq] at h; simp [if_pos h1]; omega
  · rename_i h1
    split at h
    · rename_i h2; simp only [Option.some.injEq, Prod.mk.injEq] at h; rw [if_neg h1, if_pos h2]; exact ⟨by omega, rfl, rfl⟩
    · cases h
end Go.Proofs.Mv.App
open Go Go.Proofs Go.Proofs.Mv.V Go.RowKit Go.Sort
set_option maxRecDepth 10000
namespace Go.Proofs.Mv.App
set_option maxHeartbeats 1000000 in
theorem wIsNaN (x : ByteArray) (w : World) : Calls Tryz.prog 207 #[.string x] w fun e w' => e = .returned (.bool false) ∧ w' = w := by
  go_enter Tryz.func207, Tryz.ntmps207
  go_wp2
  go_ret
  exact ⟨by simp, rfl⟩
theorem tl_ofL (l : List UInt8) : (ofL l).toList = l := by rw [Lib.toList_data]; rfl
set_option maxHeartbeats 1000000 in
theorem wCompare (a b : List UInt8) (w : World) : Calls Tryz.prog 187 #[.string (ofL a), .string (ofL b)] w fun e w' => e = .returned (.int .i64 (cmpB a b)) ∧ w' = w := by
  have k1 : ltB a b = Op.bytesLess (ofL a).toList (ofL b).toList := by rw [tl_ofL, tl_ofL]; rfl
  have k2 : cmpB a b = if Op.bytesLess (ofL a).toList (ofL b).toList = true then -1 else if (!(Op.bytesLess (ofL a).toList (ofL b).toList || (ofL a).toList == (ofL b).toList)) = true then 1 else 0 := by
    rw [← k1, tl_ofL, tl_ofL]
    unfold cmpB
    cases h : ltB a b
    · by_cases e : a = b
      · subst e; simp [ltB_irr]
      · have : ltB b a = true := by
          cases h' : ltB b a
          · exact absurd (ltB_anti h h') e
          · rfl
        simp [this, e]
    · simp
  rw [k2]
  generalize (ofL a) = x
  generalize (ofL b) = y
  clear k1 k2
  go_enter Tryz.func187, Tryz.ntmps187
  go_wp2_with (go_at_call 207; refine (wIsNaN _ _).mono ?_; rintro e w' ⟨rfl, hw⟩; rw [hw])
  all_goals (go_ret; refine ⟨?_, rfl⟩; (repeat' split) <;> first | rfl | simp_all)
set_option maxHeartbeats 1000000 in
theorem wLess (x y : RowD 7) (W : World) : Calls Tryz.prog 186 #[.agg (encV x).toArray, .agg (encV y).toArray] W fun e w' => e = .returned (.int .i64 (cfV x y)) ∧ ∃ q os', w' = grow (W.drewN q) os' := by
  obtain ⟨⟨nx, rx, lx, ox⟩, px⟩ := x
  obtain ⟨⟨ny, ry, ly, oy⟩, py⟩ := y
  have hcon := fun W' => wCompare nx ny W'
  simp only [encV, cfV]
  clear px py ox oy
  match rx, ry, lx, ly with
  | [a0, a1, a2, a3, a4, a5, a6], [b0, b1, b2, b3, b4, b5, b6], _, _ =>
    generalize cmpB nx ny = r at hcon ⊢
    generalize ofL nx = x at hcon ⊢
    generalize ofL ny = y at hcon ⊢
    go_enter Tryz.func186, Tryz.ntmps186
    go_wp2_with (go_at_call 187; refine (hcon _).mono ?_; rintro e w' ⟨rfl, rfl⟩)
    go_ret
    exact ⟨rfl, 0, _, by rw [alloc_eq_grow, alloc_eq_grow, grow_grow]; rfl⟩
theorem perm_map_ex {α β : Type} (f : α → β) {a b : List β} (h : a.Perm b) : ∀ l : List α, l.map f = b → ∃ qs : List α, qs.Perm l ∧ qs.map f = a := by
  induction h with
  | nil => intro l hl; exact ⟨l, .refl _, hl⟩
  | cons x h ih =>
    intro l hl
    cases l with
    | nil => simp at hl
    | cons y ys =>
      simp only [List.map_cons, List.cons.injEq] at hl
      obtain ⟨qs, h1, h2⟩ := ih ys hl.2
      exact ⟨y :: qs, h1.cons y, by simp [h2, hl.1]⟩
  | swap x y t =>
    intro l hl
    match l, hl with
    | u :: v :: t', hl =>
      simp only [List.map_cons, List.cons.injEq] at hl
      exact ⟨v :: u :: t', .swap _ _ _, by simp [hl.1, hl.2.1, hl.2.2]⟩
  | trans h1 h2 ih1 ih2 =>
    intro l hl
    obtain ⟨q2, g1, g2⟩ := ih2 l hl
    obtain ⟨q1, g3, g4⟩ := ih1 q2 g2
    exact ⟨q1, g3.trans g1, g4⟩
theorem el_part [GI] (ps : List Nm) : (ps.map fun x => (x.1, tyD x.2)).map el = ps.map partD := by
  rw [List.map_map]; rfl
end Go.Proofs.Mv.App
namespace Go.Proofs
open Go.Shelf
def Tryz.laysSort_ren : Go.Shelf.Ren := ⟨fun | 6 => 185 | 15 => 202 | 14 => 206 | 28 => 220 | 29 => 221 | 20 => 224 | 21 => 225 | 22 => 226 | 23 => 227 | 24 => 228 | 25 => 229 | 26 => 230 | 27 => 231 | 46 => 241 | 47 => 233 | 48 => 234 | 49 => 242 | 50 => 243 | 57 => 249 | n => n, fun | 22 => 218 | 24 => 220 | 25 => 225 | 3 => 3 | 39 => 211 | 0 => 0 | 53 => 248 | 55 => 146 | 4 => 4 | 46 => 242 | 45 => 241 | 50 => 231 | 5 => 5 | 9 => 9 | 66 => 256 | 70 => 260 | 76 => 268 | 77 => 30 | n => n, fun | n => n⟩
theorem Tryz.laysSort : Go.Proofs.SlLaysF0.n6 Tryz.prog Tryz.laysSort_ren := {
  mixed := by kernel_rfl
  f6 := ⟨Tryz.f185.name, by decide, Tryz.func185.trans (congrArg some (by kernel_rfl))⟩
  f14 := ⟨Tryz.f206.name, by decide, Tryz.func206.trans (congrArg some (by kernel_rfl))⟩
  f15 := Tryz.func202.trans (congrArg some (by kernel_rfl))
  f20 := ⟨Tryz.f224.name, by decide, Tryz.func224.trans (congrArg some (by kernel_rfl))⟩
  f21 := ⟨Tryz.f225.name, by decide, Tryz.func225.trans (congrArg some (by kernel_rfl))⟩
  f22 := ⟨Tryz.f226.name, by decide, Tryz.func226.trans (congrArg some (by kernel_rfl))⟩
  f23 := ⟨Tryz.f227.name, by decide, Tryz.func227.trans (congrArg some (by kernel_rfl))⟩
  f24 := ⟨Tryz.f228.name, by decide, Tryz.func228.trans (congrArg some (by kernel_rfl))⟩
  f25 := ⟨Tryz.f229.name, by decide, Tryz.func229.trans (congrArg some (by kernel_rfl))⟩
  f26 := ⟨Tryz.f230.name, by decide, Tryz.func230.trans (congrArg some (by kernel_rfl))⟩
  f27 := ⟨Tryz.f231.name, by decide, Tryz.func231.trans (congrArg some (by kernel_rfl))⟩
  f28 := Tryz.func220.trans (congrArg some (by kernel_rfl))
  f29 := Tryz.func221.trans (congrArg some (by kernel_rfl))
  f46 := ⟨Tryz.f241.name, by decide, Tryz.func241.trans (congrArg some (by kernel_rfl))⟩
  f47 := Tryz.func233.trans (congrArg some (by kernel_rfl))
  f48 := Tryz.func234.trans (congrArg some (by kernel_rfl))
  f49 := ⟨Tryz.f242.name, by decide, Tryz.func242.trans (congrArg some (by kernel_rfl))⟩
  f50 := ⟨Tryz.f243.name, by decide, Tryz.func243.trans (congrArg some (by kernel_rfl))⟩
  f57 := ⟨Tryz.f249.name, by decide, Tryz.func249.trans (congrArg some (by kernel_rfl))⟩
  t0 := Tryz.underlying0
  a0 := Tryz.isAgg0
  z0 := Tryz.sizeOf0
  v0 := Tryz.zeroValue0
  t3 := Tryz.underlying3
  a3 := Tryz.isAgg3
  z3 := Tryz.sizeOf3
  v3 := Tryz.zeroValue3
  t4 := Tryz.underlying4
  a4 := Tryz.isAgg4
  z4 := Tryz.sizeOf4
  v4 := Tryz.zeroValue4
  t5 := Tryz.underlying5
  a5 := Tryz.isAgg5
  z5 := Tryz.sizeOf5
  v5 := Tryz.zeroValue5
  t9 := Tryz.underlying9
  a9 := Tryz.isAgg9
  z9 := Tryz.sizeOf9
  v9 := Tryz.zeroValue9
  t22 := Tryz.underlying218
  a22 := Tryz.isAgg218
  z22 := Tryz.sizeOf218
  v22 := Tryz.zeroValue218
  t25 := Tryz.underlying225
  a25 := Tryz.isAgg225
  z25 := Tryz.sizeOf225
  v25 := Tryz.zeroValue225
  t39 := Tryz.underlying211
  a39 := Tryz.isAgg211
  z39 := Tryz.sizeOf211
  v39 := Tryz.zeroValue211
  t45 := Tryz.underlying241
  a45 := Tryz.isAgg241
  z45 := Tryz.sizeOf241
  v45 := Tryz.zeroValue241
  t46 := Tryz.underlying242
  a46 := Tryz.isAgg242
  z46 := Tryz.sizeOf242
  v46 := Tryz.zeroValue242
  t50 := Tryz.underlying231
  a50 := Tryz.isAgg231
  z50 := Tryz.sizeOf231
  v50 := Tryz.zeroValue231
  t53 := Tryz.underlying248
  a53 := Tryz.isAgg248
  z53 := Tryz.sizeOf248
  v53 := Tryz.zeroValue248
  t55 := Tryz.underlying146
  a55 := Tryz.isAgg146
  z55 := Tryz.sizeOf146
  v55 := Tryz.zeroValue146
  t66 := Tryz.underlying256
  a66 := Tryz.isAgg256
  z66 := Tryz.sizeOf256
  v66 := Tryz.zeroValue256
  t70 := Tryz.underlying260
  a70 := Tryz.isAgg260
  z70 := Tryz.sizeOf260
  v70 := Tryz.zeroValue260
  t76 := Tryz.underlying268
  a76 := Tryz.isAgg268
  z76 := Tryz.sizeOf268
  v76 := Tryz.zeroValue268
  t77 := Tryz.underlying30
  a77 := Tryz.isAgg30
  z77 := Tryz.sizeOf30
  v77 := Tryz.zeroValue30 }
end Go.Proofs
open Go Go.Proofs Go.Proofs.Mv.V Go.RowKit Go.Sort
set_option maxRecDepth 10000
namespace Go.Proofs.Mv.App
theorem cSort [GI] {ps : List Nm} {dl : D} {m : Mem} {n : Nat} (hL : Lst m 8 (ps.map partD) dl) (hlen : ps.length ≤ 1000) (hk : ∀ j, kof dl = some j → j < n) :
    ACalls Tryz.prog 185 [dl, .func (.func 186) [] []] m n (Hq (fun d m' n' => ∃ qs : List Nm, qs.Perm ps ∧ SortedN qs ∧ Lst m' 8 (qs.map partD) dl ∧ (∀ j, kof dl ≠ some j → m' j = m j) ∧ n' = n) tg) := by
  have hcl : Callable Tryz.prog 185 := ⟨_, Tryz.func185, by kernel_rfl, by kernel_rfl⟩
  rcases hL with ⟨he, hd⟩ | ⟨kk, gg, es', rfl, hmk, hle, htk⟩
  · have hps : ps = [] := by simpa using he
    subst hps
    refine acalls_lib hcl fun w ν F vals hst hv => ?_
    obtain ⟨x, y, rfl, h1, h2⟩ := conVs_arr2 hv
    have hx : ∃ a, x = .slice a 0 0 := by
      rcases hd with rfl | rfl
      · simp only [Con] at h1; exact ⟨_, h1⟩
      · simpa only [Con] using h1
    obtain ⟨a, rfl⟩ := hx
    refine Calls.mono (show Calls Tryz.prog 185 _ _ _ from AnyF.slices_SortFunc_none Tryz.laysSort a 0 y w) ?_
    rintro e w' ⟨rfl, rfl⟩
    exact ⟨_, rfl, Below.refl _ _, .any, trivial, [], .refl _, by simp [SortedN], .inl ⟨rfl, hd⟩, fun _ _ => rfl, rfl⟩
  · have hll : (ps.map fun x => (x.1, tyD x.2)).length = ps.length := by simp
    have hpl : (ps.map partD).length = ps.length := by simp
    rw [hpl] at hle htk ⊢
    have := acalls_sort (P := Tryz.prog) (ρ := Tryz.laysSort_ren) Tryz.laysSort hcl 7 Tryz.isAgg220 Tryz.sizeOf220 186 (enters_of Tryz.func186 (by kernel_rfl) rfl) wLess (ps.map fun x => (x.1, tyD x.2)) (k := kk) (gg := gg) (es' := es') (m := m) (n := n) hmk (by rw [hll]; exact hle) (by rw [hll, htk, el_part]) (by rw [hll]; omega) (hk kk rfl)
    rw [hll] at this
    refine ACalls.mono (show ACalls Tryz.prog 185 _ _ _ _ from this) ?_
    rintro d m' n' ⟨qs', h1, h2, rfl, rfl⟩
    obtain ⟨qs, g1, g2⟩ := perm_map_ex (fun x : Nm => (x.1, tyD x.2)) h1 ps rfl
    subst g2
    refine ⟨qs, g1, ?_, ?_, fun j hj => set_ne _ _ _ _ fun e => hj (by rw [e]; rfl), rfl⟩
    · rw [List.pairwise_map] at h2
      exact h2
    · rw [el_part]
      have hq : (qs.map partD).length = ps.length := by rw [List.length_map]; exact g1.length_eq
      exact Lst.mk (set_same _ _ _) hq.symm (by simp [g1.length_eq]) (by rw [List.take_append_of_le_length (by simp [g1.length_eq]), List.take_of_length_le (by simp [g1.length_eq])])
end Go.Proofs.Mv.App
