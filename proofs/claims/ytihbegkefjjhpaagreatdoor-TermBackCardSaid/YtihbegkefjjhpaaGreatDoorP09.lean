/- A part of the proofs: machine, contracts, laws. No condition of its own. -/
import Derived.Test.YtihbegkefjjhpaaGreatDoorP08
import Derived.Test.YtihbegkefjjhpaaGreatDoorMvCl
import Derived.Test.YtihbegkefjjhpaaGreatDoorMvPc
import Derived.Test.YtihbegkefjjhpaaGreatDoorMvD
set_option linter.unusedSimpArgs false
set_option linter.unusedVariables false
set_option linter.unusedSectionVars false
open Go Go.Proofs Go.Proofs.Mv.V
set_option maxRecDepth 10000
namespace Go.Proofs.Mv.App
theorem cIndexSl {l : List (List UInt8)} (hl : l.length ≤ 9223372036854775807) (x : List UInt8) : Pc Tryz.prog 125 [sl1 l, S x] (I (findI (fun s => decide (s = x)) l)) := by
 refine pc_of (pur_I _) (fun m n => ?_)
 have hL : (l.map fun s => [S s]).length = l.length := by simp
 have hG : ∀ i (h : i < l.length), (l.map fun s => [S s])[i]? = some [S l[i]] := fun i h => by simp [h]
 simp only [sl1]
 generalize (l.map fun s => [S s]) = EL at hL hG
 refine acalls_vc [0, 1, 4, 5, 7, 8, 9, 16] Tryz.func125 Tryz.ntmps125 (by kernel_rfl) rfl rfl (by simp) ?_
 simp -dsimp [S, I, hL]
 refine vloop_as (β := Nat) (fun i => [(0, .sl 1 EL), (1, S x), (7, I l.length), (8, I i)]) (fun i m2 n2 => m2 = m ∧ n2 = n ∧ i ≤ l.length ∧ ∀ s ∈ l.take i, decide (s = x) = false) (fun i => l.length - i) 0 (by simp [I, S]) ⟨rfl, rfl, by omega, by simp⟩ ?_
 rintro i m2 n2 ⟨rfl, rfl, le, al⟩
 by_cases hi : (i : Int) < l.length
 ·have hi' : i < l.length := by omega
  have wi : IntKind.i64.wrap ((i : Int) + 1) = (i : Int) + 1 := wrap_i64 (by omega) (by omega)
  have hiN : i < EL.length := by omega
  have hgi : EL[i] = [S l[i]] := get_opt (hG i hi') hiN
  by_cases c : l[i] = x
  ·have c' : (x == l[i]) = true := by simp [c]
   simp -dsimp [I, S, Tt, hL, hi, hi', hiN, hgi, c']
   exact pcq' (by rw [findI_hit hi' (by simpa using c) al])
  ·have c' : (x == l[i]) = false := by
    have : ¬ x = l[i] := fun e => c e.symm
    simpa using this
   simp -dsimp [I, S, Tt, hL, hi, hi', hiN, hgi, c', wi]
   refine rnd (i + 1) (by omega) (by simp [I, S]) ⟨rfl, rfl, by omega, fun s hs => ?_⟩
   rw [List.take_succ_eq_append_getElem hi'] at hs
   rcases List.mem_append.1 hs with hs | hs
   ·exact al s hs
   ·simp at hs; rw [hs]; simpa using c
 ·rw [List.take_of_length_le (by omega)] at al
  simp -dsimp [I, S, Tt, hL, hi]
  exact pcq' (by rw [findI_no al])
theorem findI_mem {l : List (List UInt8)} {x : List UInt8} : 0 ≤ findI (fun s => decide (s = x)) l ↔ x ∈ l := by
 rw [findI_any, List.any_eq_true]
 constructor
 ·rintro ⟨s, hs, e⟩; rw [← (by simpa using e : s = x)]; exact hs
 ·intro h; exact ⟨x, h, by simp⟩
theorem cContainsSl {l : List (List UInt8)} (hl : l.length ≤ 9223372036854775807) (x : List UInt8) : Pc Tryz.prog 73 [sl1 l, S x] (Tt (decide (x ∈ l))) := by
 refine pc_of (pur_T _) (fun m n => ?_)
 have hc := cIndexSl hl x
 have hm := findI_mem (l := l) (x := x)
 generalize findI (fun s => decide (s = x)) l = F at hc hm
 simp only [sl1] at hc ⊢
 generalize (l.map fun s => [S s]) = EL at hc
 refine acalls_vc [0, 1, 4] Tryz.func73 Tryz.ntmps73 (by kernel_rfl) rfl rfl (by simp) ?_
 simp -dsimp [S]
 refine pcall hc ?_
 by_cases h : x ∈ l
 ·have := hm.2 h
  simp -dsimp [I, Tt, this]
  exact pcq' (by simp [Tt, h])
 ·have : ¬ 0 ≤ F := fun e => h (hm.1 e)
  simp -dsimp [I, Tt, this]
  exact pcq' (by simp [Tt, h])
set_option maxHeartbeats 1000000 in
theorem cRisingT {ok : List UInt8 → Bool} {fp : FuncId} {l : List (List UInt8)} (hl : l.length ≤ 9223372036854775807) (hp : ∀ s ∈ l, Pc Tryz.prog fp [S s] (Tt (ok s))) :
  Pc Tryz.prog 116 [sl1 l, .func (.func fp) [] []] (Tt (risO ok l)) := by
 refine pc_of (pur_T _) (fun m n => ?_)
 have hL : (l.map fun s => [S s]).length = l.length := by simp
 have hG : ∀ i (h : i < l.length), (l.map fun s => [S s])[i]? = some [S l[i]] := fun i h => by simp [h]
 simp only [sl1]
 generalize (l.map fun s => [S s]) = EL at hL hG
 refine acalls_vc [0, 1, 4, 5, 6, 7, 8, 9, 10, 30] Tryz.func116 Tryz.ntmps116 (by kernel_rfl) rfl rfl (by simp) ?_
 simp -dsimp [S, I, hL]
 refine vloop_as (β := Nat) (fun i => [(0, .sl 1 EL), (1, .func (.func fp) [] []), (7, .sl 1 EL), (8, I l.length), (9, I i)]) (fun i m2 n2 => m2 = m ∧ n2 = n ∧ i ≤ l.length ∧ ∀ j, j < i → stepO ok l j = true) (fun i => l.length - i) 0 (by simp [I, S]) ⟨rfl, rfl, by omega, fun j h => by omega⟩ ?_
 rintro i m2 n2 ⟨rfl, rfl, le, al⟩
 by_cases hi : (i : Int) < l.length
 ·have hi' : i < l.length := by omega
  have wi : IntKind.i64.wrap ((i : Int) + 1) = (i : Int) + 1 := wrap_i64 (by omega) (by omega)
  have hiN : i < EL.length := by omega
  have hgi : EL[i] = [S l[i]] := get_opt (hG i hi') hiN
  have hc := hp l[i] (List.getElem_mem hi')
  have hst := stepO_get (ok := ok) hi'
  have hno := fun h => risO_no (ok := ok) hi' h
  have nx : stepO ok l i = true → ∀ j, j < i + 1 → stepO ok l j = true := fun h j hj => by
   rcases Nat.lt_or_eq_of_le (show j ≤ i by omega) with c | c
   ·exact al j c
   ·subst c; exact h
  simp -dsimp [I, S, Tt, hL, hi, hi', hiN, hgi]
  refine pcall hc ?_
  cases e : ok l[i] with
  | false =>
   simp -dsimp [I, S, Tt]
   exact pcq' (by rw [hno (by rw [hst, e]; rfl)])
  | true =>
   rw [e, Bool.true_and] at hst
   by_cases i0 : i = 0
   ·subst i0
    simp -dsimp [I, S, Tt, hL, hi, hi', hiN, hgi, wi]
    have w1 : IntKind.i64.wrap 1 = 1 := wrap_i64 (by omega) (by omega)
    exact rnd 1 (by omega) (by simp [I, S, w1]) ⟨rfl, rfl, by omega, nx (by rw [hst]; simp)⟩
   ·have i1 : (0 : Int) < i := by omega
    have i1' : 0 < i := by omega
    have w1 : IntKind.i64.wrap ((i : Int) - 1) = ((i - 1 : Nat) : Int) := by rw [wrap_i64 (by omega) (by omega)]; omega
    have hp1 : i - 1 < l.length := by omega
    have hp2 : i - 1 < EL.length := by omega
    have hp3 : ((i - 1 : Nat) : Int) < l.length := by omega
    have hgp : EL[i - 1] = [S l[i - 1]] := get_opt (hG _ hp1) hp2
    have hgp' : EL[i - 1]? = some [S l[i - 1]] := hG _ hp1
    have hgd : l.getD (i - 1) [] = l[i - 1] := by rw [List.getD_eq_getElem?_getD, List.getElem?_eq_getElem hp1]; rfl
    have hlt : Op.bytesLess l[i - 1] l[i] = ltB l[i - 1] l[i] := rfl
    rw [hgd, decide_eq_false i0, Bool.false_or] at hst
    cases c2 : ltB l[i - 1] l[i]
    ·simp -dsimp [I, S, Tt, hL, hi, hi', hiN, hgi, i1, i1', w1, hp1, hp2, hp3, hgp, hgp', hlt, c2]
     exact pcq' (by rw [hno (by rw [hst, c2])])
    ·simp -dsimp [I, S, Tt, hL, hi, hi', hiN, hgi, i1, i1', w1, hp1, hp2, hp3, hgp, hgp', hlt, c2, wi]
     exact rnd (i + 1) (by omega) (by simp [I, S]) ⟨rfl, rfl, by omega, nx (by rw [hst, c2])⟩
 ·simp -dsimp [I, S, Tt, hL, hi]
  exact pcq' (by rw [risO_yes fun j hj => al j (by omega)])
set_option maxHeartbeats 1000000 in
theorem cDistinctT {l : List (List UInt8)} (hl : l.length ≤ 9223372036854775807) (hs : ∀ s ∈ l, s.length ≤ 9223372036854775807) :
  Pc Tryz.prog 118 [sl1 l] (Tt (l.all nameN && distN l)) := by
 refine pc_of (pur_T _) (fun m n => ?_)
 have hL : (l.map fun s => [S s]).length = l.length := by simp
 have hG : ∀ i (h : i < l.length), (l.map fun s => [S s])[i]? = some [S l[i]] := fun i h => by simp [h]
 have hC : ∀ i (h : i < l.length), Pc Tryz.prog 73 [.sl 1 ((l.map fun s => [S s]).take i), S l[i]] (Tt (decide (l[i] ∈ l.take i))) := fun i h => by
  have := cContainsSl (l := l.take i) (by simp; omega) l[i]
  simp only [sl1, List.map_take] at this
  exact this
 simp only [sl1]
 generalize (l.map fun s => [S s]) = EL at hL hG hC
 refine acalls_vc [0, 2, 3, 4, 5, 6, 7, 8, 21] Tryz.func118 Tryz.ntmps118 (by kernel_rfl) rfl rfl (by simp) ?_
 simp -dsimp [S, I, hL]
 refine vloop_as (β := Nat) (fun i => [(0, .sl 1 EL), (5, .sl 1 EL), (6, I l.length), (7, I i)]) (fun i m2 n2 => m2 = m ∧ n2 = n ∧ i ≤ l.length ∧ (∀ s ∈ l.take i, nameN s = true) ∧ ∀ j (hj : j < l.length), j < i → l[j] ∉ l.take j) (fun i => l.length - i) 0 (by simp [I, S]) ⟨rfl, rfl, by omega, by simp, fun j h h2 => by omega⟩ ?_
 rintro i m2 n2 ⟨rfl, rfl, le, al, ad⟩
 by_cases hi : (i : Int) < l.length
 ·have hi' : i < l.length := by omega
  have wi : IntKind.i64.wrap ((i : Int) + 1) = (i : Int) + 1 := wrap_i64 (by omega) (by omega)
  have hiN : i < EL.length := by omega
  have hgi : EL[i] = [S l[i]] := get_opt (hG i hi') hiN
  have hn := cNameT (hs _ (List.getElem_mem hi'))
  have hc := hC i hi'
  have le2 : (i : Int) ≤ l.length := by omega
  simp -dsimp [I, S, Tt, hL, hi, hi', hiN, hgi]
  refine pcall hn ?_
  cases e : nameN l[i] with
  | false =>
   simp -dsimp [I, S, Tt]
   refine pcq' ?_
   rw [show l.all nameN = false from List.all_eq_false.2 ⟨_, List.getElem_mem hi', by simp [e]⟩]; rfl
  | true =>
   simp -dsimp [I, S, Tt, hL, hi, hi', hiN, hgi, le, le2]
   refine pcall hc ?_
   by_cases h : l[i] ∈ l.take i
   ·simp -dsimp [I, S, Tt, h]
    exact pcq' (by rw [distN_no hi' h, Bool.and_false])
   ·simp -dsimp [I, S, Tt, h, wi]
    refine rnd (i + 1) (by omega) (by simp [I, S]) ⟨rfl, rfl, by omega, fun s hs => ?_, fun j hj hji => ?_⟩
    ·rw [List.take_succ_eq_append_getElem hi'] at hs
     rcases List.mem_append.1 hs with hs | hs
     ·exact al s hs
     ·simp at hs; rw [hs]; exact e
    ·rcases Nat.lt_or_eq_of_le (show j ≤ i by omega) with c | c
     ·exact ad j hj c
     ·subst c; exact h
 ·rw [List.take_of_length_le (by omega)] at al
  simp -dsimp [I, S, Tt, hL, hi]
  refine pcq' ?_
  rw [show l.all nameN = true from List.all_eq_true.2 al, distN_yes fun j hj => ad j hj (by omega)]; rfl
end Go.Proofs.Mv.App
open Go Go.Proofs Go.Proofs.Mv.V
set_option maxRecDepth 10000
namespace Go.Proofs.Mv.App
theorem cTFail {l : List Tok} {dp : Nat} {p : PS} (c : Nat) (hc : c ≠ 0) {k : Nat} {m : Mem} {n : Nat} (hk : k < n) (hm : m k = some (pTObj l dp p)) :
  ACalls Tryz.prog 64 [.ptr k 0 0 0, I c] m n (fun d m' n' => d = .tup [] ∧ m' = m.set k (pTObj l dp (failS c p)) ∧ n' = n) := by
 have kn : k ≠ n := by omega
 have nk : n ≠ k := by omega
 by_cases hb : p.bad = 0
 ·refine acalls_put (R' := Hq (fun d m' n' => d = .tup [] ∧ (∃ q, n ≤ q ∧ m' k = some ⟨4, [[toksD l, I p.at_, I dp, .iface 62 (.ptr q 0 0 0)]], 0⟩ ∧ m' q = some ⟨2, [[I p.at_, code c]], 0⟩) ∧ ∀ j, j < n → j ≠ k → m' j = m j) tg) k hk _ ?_ ?_
  ·refine acalls_vc [0, 1, 8] Tryz.func64 Tryz.ntmps64 (by kernel_rfl) rfl rfl (by simp) ?_
   simp -dsimp [hm, pTObj, pTC, errS, hb, nilE, set_ne, kn, nk]
   refine hq ⟨rfl, ⟨n, Nat.le_refl _, by simp, by simp [set_ne, nk, code, I]⟩, fun j hj hjk => ?_⟩
   rw [set_ne _ _ _ _ hjk, set_ne _ _ _ _ (by omega)]
  ·rintro d m' n' ⟨rfl, ⟨q, h1, h2, h3⟩, h4⟩
   have hf : failS c p = ⟨p.at_, p.at_, c⟩ := by simp [failS, hb]
   rw [hf]
   refine ⟨_, _, pur_tup0.pub, h2, .cons (.cons (pur_toks l).pub (.cons (pur_I _).pub (.cons (pur_I _).pub (.cons ?_ .nil)))) .nil, h4, rfl⟩
   simp only [errS, if_neg hc]
   exact .iface (.ptr h3 h1 (.cons (pur_I _).pub (.cons (pur_code _).pub .nil)))
 ·rw [failS_bad hb, set_self hm]
  refine acalls_vc [0, 1, 8] Tryz.func64 Tryz.ntmps64 (by kernel_rfl) rfl rfl (by simp) ?_
  simp -dsimp [hm, pTObj, pTC, errS, hb, spotE]
  done
theorem cTPeek {l : List Tok} {dp : Nat} {p : PS} {k : Nat} {m : Mem} {n : Nat} (hk : k < n) (hm : m k = some (pTObj l dp p)) :
  ACalls Tryz.prog 101 [.ptr k 0 0 0] m n (fun d m' n' => d = .agg (peekD l p) ∧ m' = m ∧ n' = n) := by
 have kn : k ≠ n := by omega
 have nk : n ≠ k := by omega
 have fr : ∀ o, ∀ j, j < n → (m.set n o) j = m j := fun o j hj => set_ne _ _ _ _ (by omega)
 refine acalls_done (R' := Hq (fun d m' n' => d = .agg (peekD l p) ∧ ∀ j, j < n → m' j = m j) tg) ?_ ?_
 ·refine acalls_vcC [0, 2, 19] Tryz.func101 Tryz.ntmps101 (by kernel_rfl) rfl rfl (by simp) ?_
  by_cases hb : p.bad = 0
  ·by_cases ha : p.at_ < l.length
   ·have hg : (l.map tokD)[p.at_]? = some (tokD l[p.at_]) := by simp [ha]
    have hl : (l.map tokD).length = l.length := by simp
    have hc : peekD l p = tokD l[p.at_] := by simp [peekD, cur, hb, ha]
    have hle : ¬ (l.length : Int) ≤ p.at_ := by omega
    have htk : tokD l[p.at_] = [I l[p.at_].kind, I l[p.at_].at_, S l[p.at_].text] := rfl
    generalize hL : l.map tokD = L at hg hl
    have hgi : L[p.at_]'(by omega) = tokD l[p.at_] := get_opt hg _
    rw [hc]
    simp -dsimp [hm, pTObj, pTC, errS, hb, nilE, toksD, hL, hl, I, hle, set_ne, kn, nk]
    refine vdraw_of [0, 1, 3, 7, 15, 31, 63, 127, 255, 511, 63, 1087, 3135, 7231, 15423, 32767, 65535] [0, 1, 2, 3, 4, 5, 6, 7, 8, 9, 10, 11, 12, 13, 14, 15, 16] (by kernel_rfl) (by kernel_rfl) ?_
    simp -dsimp [hm, pTObj, pTC, errS, hb, nilE, toksD, hL, hl, I, hle, set_ne, kn, nk]
    refine vdraw_of [0, 1, 3, 7, 0, 16, 48, 112, 255, 511, 1023] [0, 1, 2, 3, 4, 5, 6, 7, 8, 9, 10] (by kernel_rfl) (by kernel_rfl) ?_
    simp -dsimp [hm, pTObj, pTC, errS, hb, nilE, toksD, hL, hl, I, hle, set_ne, kn, nk, hgi, ha, htk]
    exact hq ⟨by simp [htk, I], fr _⟩
   ·have hc : peekD l p = [I 0, I 0, S []] := by simp [peekD, cur, hb, ha]
    have hle : (l.length : Int) ≤ p.at_ := by omega
    rw [hc]
    simp -dsimp [hm, pTObj, pTC, errS, hb, nilE, toksD, I, hle, set_ne, kn, nk]
    refine vdraw_of [0, 1, 3, 7, 15, 31, 63, 127, 255, 511, 63, 1087, 3135, 7231, 15423, 32767, 65535] [0, 1, 2, 3, 4, 5, 6, 7, 8, 9, 10, 11, 12, 13, 14, 15, 16] (by kernel_rfl) (by kernel_rfl) ?_
    simp -dsimp [hm, pTObj, pTC, errS, hb, nilE, toksD, I, hle, set_ne, kn, nk]
    exact hq ⟨by simp [I, S], fr _⟩
  ·have hc : peekD l p = [I 0, I 0, S []] := by simp [peekD, cur, hb]
   rw [hc]
   simp -dsimp [hm, pTObj, pTC, errS, hb, spotE, set_ne, kn, nk]
   refine vdraw_of [0, 1, 3, 7, 15, 31, 63, 127, 255, 511, 63, 1087, 3135, 7231, 15423, 32767, 65535] [0, 1, 2, 3, 4, 5, 6, 7, 8, 9, 10, 11, 12, 13, 14, 15, 16] (by kernel_rfl) (by kernel_rfl) ?_
   simp -dsimp [hm, pTObj, pTC, errS, hb, spotE, set_ne, kn, nk]
   exact hq ⟨by simp [I, S], fr _⟩
 ·rintro d m' n' ⟨rfl, h⟩
  refine ⟨_, Pur.pub (Pur.agg ?_), h, rfl⟩
  unfold peekD; split
  ·exact pur_tok _
  ·intro d hd
   simp only [List.mem_cons, List.not_mem_nil, or_false] at hd
   rcases hd with rfl | rfl | rfl
   ·exact pur_I _
   ·exact pur_I _
   ·exact pur_S _
theorem cTIs {l : List Tok} (hl : TkOk l) {dp : Nat} {p : PS} {kd : Int} (hkd : kd ≠ 0) (s : List UInt8) {k : Nat} {m : Mem} {n : Nat} (hk : k < n) (hm : m k = some (pTObj l dp p)) :
  ACalls Tryz.prog 176 [.ptr k 0 0 0, I kd, S s] m n (fun d m' n' => d = Tt (isT kd s l p) ∧ m' = m ∧ n' = n) := by
 have kn : k ≠ n := by omega
 have nk : n ≠ k := by omega
 obtain ⟨kx, a, tx, hp⟩ := pk_of hl p
 refine acalls_done (R' := Hq (fun d m' n' => d = Tt (isT kd s l p) ∧ ∀ j, j < n → m' j = m j) tg) ?_ ?_
 ·have fr : ∀ o, ∀ j, j < n → (m.set n o) j = m j := fun o j hj => set_ne _ _ _ _ (by omega)
  refine acalls_vc [0, 1, 2, 6, 7] Tryz.func176 Tryz.ntmps176 (by kernel_rfl) rfl rfl (by simp) ?_
  simp -dsimp
  refine aCall_of (cTPeek hk hm) ?_
  rintro d m' n' ⟨rfl, rfl, rfl⟩
  rw [hp.pk, isT, pk_kF hp hkd]
  by_cases e1 : kx = kd
  ·subst e1
   by_cases e : tx = s
   ·have e' : (tx == s) = true := by simp [e]
    simp -dsimp [I, S, e', hm, set_ne, kn, nk]
    exact hq ⟨by simp [e, Tt], fr _⟩
   ·have e' : (tx == s) = false := by simp [e]
    simp -dsimp [I, S, e', hm, set_ne, kn, nk]
    exact hq ⟨by simp [e, Tt], fr _⟩
  ·have e1' : (kx == kd) = false := by simp [e1]
   simp -dsimp [I, S, e1', hm, set_ne, kn, nk]
   exact hq ⟨by simp [e1, Tt], fr _⟩
 ·rintro d m' n' ⟨rfl, h⟩
  exact ⟨_, (pur_T _).pub, h, rfl⟩
theorem isT_ok {l : List Tok} (hl : TkOk l) {kd : Int} (hkd : kd ≠ 0) {s : List UInt8} {p : PS} (h : isT kd s l p = true) : p.bad = 0 ∧ p.at_ < l.length := by
 obtain ⟨kx, a, tx, hp⟩ := pk_of hl p
 rw [isT, pk_kF hp hkd] at h
 simp only [Bool.and_eq_true, decide_eq_true_eq] at h
 exact hp.ok (by rw [h.1]; exact hkd)
theorem pTObj_step {l : List Tok} {dp : Nat} {p : PS} (h : p.bad = 0) : pTObj l dp (stepF p) = ⟨4, [[toksD l, .v (.int .i64 ((p.at_ : Int) + 1)), .v (.int .i64 dp), .v .nilIface]], 0⟩ := by
 simp [pTObj, pTC, stepF, errS, h, I, nilE]
theorem cTPass {l : List Tok} (hl : TkOk l) {dp : Nat} {p : PS} {kd : Int} (hkd : kd ≠ 0) (s : List UInt8) {k : Nat} {m : Mem} {n : Nat} (hk : k < n) (hm : m k = some (pTObj l dp p)) :
  ACalls Tryz.prog 142 [.ptr k 0 0 0, I kd, S s] m n (fun d m' n' => d = Tt (isT kd s l p) ∧ m' = m.set k (pTObj l dp (if isT kd s l p then stepF p else p)) ∧ n' = n) := by
 refine acalls_fin hk (pur_pT _ _ _) (fun d h => by rw [h]; exact pur_T _) ?_
 refine acalls_vc [0, 1, 2, 6, 7, 12] Tryz.func142 Tryz.ntmps142 (by kernel_rfl) rfl rfl (by simp) ?_
 simp -dsimp
 refine aCall_of (cTIs hl hkd s hk hm) ?_
 rintro d m n ⟨rfl, rfl, rfl⟩
 cases hi : isT kd s l p with
 | false =>
  simp -dsimp [Tt]
  exact fin_mk (by simp [Tt]) (by simpa using hm) fun j hj hjk => rfl
 | true =>
  obtain ⟨hb, ha⟩ := isT_ok hl hkd hi
  have wa := wrap_at hl ha
  have hmx : m k = some ⟨4, [[toksD l, .v (.int .i64 p.at_), .v (.int .i64 dp), .v .nilIface]], 0⟩ := by rw [hm]; simp [pTObj, pTC, errS, hb, I, nilE]
  simp -dsimp [Tt, hmx, wa]
  exact fin_mk (by simp [Tt]) (by simp [pTObj_step hb]) fun j hj hjk => set_ne _ _ _ _ hjk
theorem cTMust {l : List Tok} (hl : TkOk l) {dp : Nat} {p : PS} {kd : Int} (hkd : kd ≠ 0) (s : List UInt8) {k : Nat} {m : Mem} {n : Nat} (hk : k < n) (hm : m k = some (pTObj l dp p)) :
  ACalls Tryz.prog 141 [.ptr k 0 0 0, I kd, S s] m n (fun d m' n' => d = .tup [] ∧ m' = m.set k (pTObj l dp (mustT kd s l p)) ∧ n' = n) := by
 refine acalls_fin hk (pur_pT _ _ _) (fun d h => by rw [h]; exact pur_tup0) ?_
 refine acalls_vc [0, 1, 2, 10] Tryz.func141 Tryz.ntmps141 (by kernel_rfl) rfl rfl (by simp) ?_
 simp -dsimp
 refine aCall_of (cTPass hl hkd s hk hm) ?_
 rintro d m2 n2 ⟨rfl, rfl, rfl⟩
 cases hi : isT kd s l p with
 | true =>
  simp -dsimp [Tt]
  exact fin_mk rfl (by simp [mustT, hi]) fun j hj hjk => set_ne _ _ _ _ hjk
 | false =>
  simp -dsimp [Tt]
  refine aCall_of (cTFail (l := l) (dp := dp) (p := p) 2 (by omega) hk (by simp)) ?_
  rintro d m2 n2 ⟨rfl, rfl, rfl⟩
  simp -dsimp
  exact fin_mk rfl (by simp [mustT, hi]) fun j hj hjk => by simp [set_ne, hjk]
def FineT (f : FuncId) (ok : List UInt8 → Bool) : Prop := ∀ s : List UInt8, s.length ≤ 1000000 → Pc Tryz.prog f [S s] (Tt (ok s))
theorem fineTn : FineT 115 nameN := fun s h => cNameT (by omega)
theorem fineTt : FineT 117 tagN := fun s h => cTagT (by omega)
theorem cTNamed {l : List Tok} (hl : TkOk l) {dp : Nat} {p : PS} {kd : Int} (hkd : kd ≠ 0) {f : FuncId} {ok : List UInt8 → Bool} (hf : FineT f ok) {k : Nat} {m : Mem} {n : Nat} (hk : k < n) (hm : m k = some (pTObj l dp p)) :
  ACalls Tryz.prog 145 [.ptr k 0 0 0, I kd, .func (.func f) [] []] m n (fun d m' n' => d = S (namedT kd ok l p).1 ∧ m' = m.set k (pTObj l dp (namedT kd ok l p).2) ∧ n' = n) := by
 have kn : k ≠ n := by omega
 have nk : n ≠ k := by omega
 have kn1 : k < n + 1 := by omega
 obtain ⟨kx, a, tx, hp⟩ := pk_of hl p
 simp only [namedT]
 rw [pk_kF hp hkd]
 refine acalls_fin hk (pur_pT _ _ _) (fun d h => by rw [h]; exact pur_S _) ?_
 refine acalls_vc [0, 1, 2, 6, 7, 20] Tryz.func145 Tryz.ntmps145 (by kernel_rfl) rfl rfl (by simp) ?_
 simp -dsimp
 refine aCall_of (cTPeek hk hm) ?_
 rintro d m' n' ⟨rfl, rfl, rfl⟩
 rw [hp.pk]
 by_cases ek : kx = kd
 case neg =>
  have ek' : (kx != kd) = true := by simp [ek]
  simp -dsimp [I, S, ek, ek', hm, set_ne, kn, nk]
  refine aCall_of (cTFail (l := l) (dp := dp) (p := p) 2 (by omega) kn1 (by simp [set_ne, kn, hm])) ?_
  rintro d m2 n2 ⟨rfl, rfl, rfl⟩
  simp -dsimp
  refine fin_mk (by simp [takeF, S, ek]) (by simp [takeF, ek]) fun j hj hjk => ?_
  rw [set_ne _ _ _ _ hjk, set_ne _ _ _ _ (by omega)]
 subst ek
 have ek' : (kx != kx) = false := by simp
 obtain ⟨hb, ha⟩ := hp.ok hkd
 simp -dsimp [I, S, ek', hm, set_ne, kn, nk]
 refine pcall (hf tx hp.len) ?_
 cases eo : ok tx
 ·simp -dsimp [Tt]
  refine aCall_of (cTFail (l := l) (dp := dp) (p := p) 2 (by omega) kn1 (by simp [set_ne, kn, hm])) ?_
  rintro d m2 n2 ⟨rfl, rfl, rfl⟩
  simp -dsimp
  refine fin_mk (by simp [takeF, S, eo]) (by simp [takeF, eo]) fun j hj hjk => ?_
  rw [set_ne _ _ _ _ hjk, set_ne _ _ _ _ (by omega)]
 ·have wa := wrap_at hl ha
  simp -dsimp [Tt, hm, set_ne, kn, nk, pTObj, pTC, I, S, wa]
  refine fin_mk (by simp [takeF, hp.tex, S, eo]) ?_ fun j hj hjk => ?_
  ·simp [takeF, pTObj, pTC, errS, hb, stepF, I, eo]
  ·rw [set_ne _ _ _ _ hjk, set_ne _ _ _ _ (by omega)]
end Go.Proofs.Mv.App
open Go Go.Proofs Go.Proofs.Mv.V
set_option maxRecDepth 10000
namespace Go.Proofs.Mv.App
theorem cTBegins {dg : List UInt8 → Int} (kd a : Int) (tx : List UInt8) (hlen : tx.length ≤ 1000000) (hd : kd = 3 → Pc Tryz.prog 140 [S tx] (I (dg tx))) : Pc Tryz.prog 102 [.agg [I kd, I a, S tx]] (Tt (begB dg kd tx)) := by
 refine pc_of (pur_T _) (fun m n => ?_)
 have fr : ∀ o j, j < n → (m.set n o) j = m j := fun o j hj => by rw [set_ne _ _ _ _ (by omega)]
 by_cases k3 : kd = 3
 ·subst k3
  have hd := hd rfl
  simp only [S] at hd
  refine acalls_vc [0, 1, 2, 4, 5, 11, 31] Tryz.func102 Tryz.ntmps102 (by kernel_rfl) rfl rfl (by simp) ?_
  simp -dsimp [I, S]
  refine pcall hd ?_
  simp -dsimp [I, S]
  exact pcq (by simp [begB, Tt]) (fr _)
 by_cases k1 : kd = 1
 ·subst k1
  have hc := cNameT (s := tx) (by omega)
  simp only [S] at hc
  have e : begB dg 1 tx = (nameN tx || decide (tx = wFn) || decide (tx = wIf) || decide (tx = wCase)) := by simp [begB]
  rw [e]
  refine acalls_vc [0, 1, 2, 4, 5, 11, 31] Tryz.func102 Tryz.ntmps102 (by kernel_rfl) rfl rfl (by simp) ?_
  simp -dsimp [I, S]
  refine pcall hc ?_
  cases h1 : nameN tx with
  | true => simp -dsimp [Tt]; exact pcq (by simp [Tt]) (fr _)
  | false =>
  by_cases h2 : tx = wFn
  ·subst h2; simp -dsimp [Tt, wFn]; exact pcq (by simp [Tt, wFn]) (fr _)
  have h2' : (tx == [102, 110]) = false := by simpa [wFn] using h2
  by_cases h3 : tx = wIf
  ·subst h3; simp -dsimp [Tt, wIf]; exact pcq (by simp [Tt, wIf]) (fr _)
  have h3' : (tx == [105, 102]) = false := by simpa [wIf] using h3
  by_cases h4 : tx = wCase
  ·subst h4; simp -dsimp [Tt, wCase]; exact pcq (by simp [Tt, wCase]) (fr _)
  have h4' : (tx == [99, 97, 115, 101]) = false := by simpa [wCase] using h4
  simp -dsimp [Tt, h2', h3', h4']
  exact pcq (by simp [Tt, h2, h3, h4]) (fr _)
 by_cases k2 : kd = 2
 ·subst k2
  have hc := cTagT (s := tx) (by omega)
  simp only [S] at hc
  have e : begB dg 2 tx = (decide (tx = wTrue) || decide (tx = wFalse) || tagN tx) := by simp [begB]
  rw [e]
  refine acalls_vc [0, 1, 2, 4, 5, 11, 31] Tryz.func102 Tryz.ntmps102 (by kernel_rfl) rfl rfl (by simp) ?_
  by_cases h2 : tx = wTrue
  ·subst h2; simp -dsimp [I, S, Tt, wTrue]; exact pcq (by simp [Tt, wTrue]) (fr _)
  have h2' : (tx == [84, 114, 117, 101]) = false := by simpa [wTrue] using h2
  by_cases h3 : tx = wFalse
  ·subst h3; simp -dsimp [I, S, Tt, wFalse]; exact pcq (by simp [Tt, wFalse]) (fr _)
  have h3' : (tx == [70, 97, 108, 115, 101]) = false := by simpa [wFalse] using h3
  simp -dsimp [I, S, Tt, h2', h3']
  refine pcall hc ?_
  simp -dsimp [Tt]
  exact pcq (by simp [Tt, h2, h3]) (fr _)
 have b1 : (kd == 1) = false := by simpa using k1
 have b2 : (kd == 2) = false := by simpa using k2
 have b3 : (kd == 3) = false := by simpa using k3
 have e : begB dg kd tx = (decide (kd = 4) && (decide (tx = [123]) || decide (tx = [91]) || decide (tx = [40]))) := by simp [begB, k1, k2, k3]
 rw [e]
 refine acalls_vc [0, 1, 2, 4, 5, 11, 31] Tryz.func102 Tryz.ntmps102 (by kernel_rfl) rfl rfl (by simp) ?_
 by_cases k4 : kd = 4
 ·subst k4
  by_cases h2 : tx = [123]
  ·subst h2; simp -dsimp [I, S, Tt]; exact pcq (by simp [Tt]) (fr _)
  have h2' : (tx == [123]) = false := by simpa using h2
  by_cases h3 : tx = [91]
  ·subst h3; simp -dsimp [I, S, Tt]; exact pcq (by simp [Tt]) (fr _)
  have h3' : (tx == [91]) = false := by simpa using h3
  by_cases h4 : tx = [40]
  ·subst h4; simp -dsimp [I, S, Tt]; exact pcq (by simp [Tt]) (fr _)
  have h4' : (tx == [40]) = false := by simpa using h4
  simp -dsimp [I, S, Tt, h2', h3', h4']
  exact pcq (by simp [Tt, h2, h3, h4]) (fr _)
 ·have b4 : (kd == 4) = false := by simpa using k4
  simp -dsimp [I, S, Tt, b1, b2, b3, b4]
  exact pcq (by simp [Tt, k4]) (fr _)
def RecC (l : List Tok) (dp : Nat) (rec : PS → Option (Tm × PS)) : Prop := ∀ (p : PS) (t : Tm) (q : PS), rec p = some (t, q) → ∀ (k : Nat) (m : Mem) (n : Nat), k < n → m k = some (pTObj l dp p) →
 ACalls Tryz.prog 65 [.ptr k 0 0 0] m n (fun d m' n' => (∃ t', d = .agg (tmD t') ∧ (q.bad = 0 → t' = t)) ∧ m' = m.set k (pTObj l dp q) ∧ n' = n)
structure SvI (l : List Tok) (dp : Nat) (rec : PS → Option (Tm × PS)) (en : List UInt8) (non : Bool) (F : Nat) (ts : List Tm) (q : PS) (k : Nat) (m : Mem) (n : Nat) (b : Nat × List Tm × PS) (σ : Nat → D) (m2 : Mem) (n2 : Nat) : Prop where
 h0 : σ 0 = .ptr k 0 0 0
 h1 : σ 1 = S en
 h2 : σ 2 = Tt non
 ls : Lst m2 8 (b.2.1.map tmD) (σ 7)
 kf : ∀ j, kof (σ 7) = some j → n ≤ j ∧ j < n2
 nn : n ≤ n2
 pk : m2 k = some (pTObj l dp b.2.2)
 fr : ∀ j, j < n → j ≠ k → m2 j = m j
 st : (b.2.1 = [] ∧ b.1 = F + 1 ∧ sevO l rec F en non b.2.2 = some (ts, q)) ∨ (b.2.1 ≠ [] ∧ b.2.2.bad = 0 ∧ severO l rec en b.1 b.2.1 b.2.2 = some (ts, q)) ∨ (b.2.2.bad ≠ 0 ∧ b.2.2 = q)
 ln : b.2.1.length + b.1 ≤ F + 1
structure SvB (l : List Tok) (dp : Nat) (rec : PS → Option (Tm × PS)) (en : List UInt8) (non : Bool) (F : Nat) (ts : List Tm) (q : PS) (k : Nat) (m : Mem) (n : Nat) (f : Nat) (L : List Tm) (p : PS) (σ : Nat → D) (m2 : Mem) (n2 : Nat) : Prop where
 h0 : σ 0 = .ptr k 0 0 0
 h1 : σ 1 = S en
 h2 : σ 2 = Tt non
 ls : Lst m2 8 (L.map tmD) (σ 7)
 kf : ∀ j, kof (σ 7) = some j → n ≤ j ∧ j < n2
 nn : n ≤ n2
 pk : m2 k = some (pTObj l dp p)
 fr : ∀ j, j < n → j ≠ k → m2 j = m j
 bd : p.bad = 0
 run : ∃ g, g ≤ f ∧ L.length + g ≤ F + 1 ∧ severO l rec en g L p = some (ts, q)
set_option maxHeartbeats 4000000 in
theorem cTSev {l : List Tok} (hl : TkOk l) {dp : Nat} {rec : PS → Option (Tm × PS)} (hrec : RecC l dp rec) {F : Nat} (hF : F ≤ 100000) {en : List UInt8} {non : Bool} {p0 : PS} {ts : List Tm} {q : PS} (hrun : sevO l rec F en non p0 = some (ts, q)) {k : Nat} {m : Mem} {n : Nat} (hk : k < n) (hm : m k = some (pTObj l dp p0)) :
  ACalls Tryz.prog 149 [.ptr k 0 0 0, S en, Tt non] m n (fun d m' n' => (∃ ts', d = .sl 8 (ts'.map tmD) ∧ (q.bad = 0 → ts' = ts) ∧ ts'.length ≤ F + 1) ∧ m' = m.set k (pTObj l dp q) ∧ n' = n) := by
 refine acalls_put (X := fun d => ∃ ts', d = .sl 8 (ts'.map tmD) ∧ (q.bad = 0 → ts' = ts) ∧ ts'.length ≤ F + 1) (R' := Hq (fun d m' n' => (∃ ts' : List Tm, Lst m' 8 (ts'.map tmD) d ∧ (∀ j, kof d = some j → n ≤ j) ∧ (q.bad = 0 → ts' = ts) ∧ ts'.length ≤ F + 1) ∧ m' k = some (pTObj l dp q) ∧ ∀ j, j < n → j ≠ k → m' j = m j) tg) k hk _ ?_ ?_
 rotate_left
 ·rintro d m' n' ⟨⟨ts', h1, h2, h3⟩, h4, h5⟩
  exact ⟨.sl 8 (ts'.map tmD), _, .lstP h1 h2 (pur_tmm ts'), h4, .pur (pur_pT _ _ _), h5, ts', rfl, h3⟩
 refine acalls_vc [0, 1, 2, 6, 7, 27, 35] Tryz.func149 Tryz.ntmps149 (by kernel_rfl) rfl rfl (by simp) ?_
 simp -dsimp
 refine vloop_of (β := Nat × List Tm × PS) (SvI l dp rec en non F ts q k m n) (fun b => if b.2.2.bad = 0 then b.1 + 1 else 0) (F + 1, [], p0) ⟨by simp, by simp, by simp, by first | exact Lst.nil | simp, by simp, by omega, hm, fun _ _ _ => rfl, .inl ⟨rfl, rfl, hrun⟩, by simp⟩ ?_
 rintro ⟨f, L, p⟩ σ m2 n2 ⟨h0, h1, h2, ls, kf, nn, pk, fr, st, ln⟩
 simp only at ls kf pk st ln
 have hll := lenD_lst ls
 rw [List.length_map] at hll
 have hkx : ∀ j, kof (σ 7) = some j → j ≠ k := fun j hj e => by have := kf j hj; omega
 rw [vc_seq]
 refine vc_mid (SvB l dp rec en non F ts q k m n f L p) ?_ ?_
 ·by_cases hb : p.bad = 0
  case neg =>
   have hq' : q = p ∧ (L = [] → True) := by
    rcases st with ⟨rfl, _, h⟩ | ⟨_, h, _⟩ | ⟨_, h⟩
    ·simp only [sevO, if_neg hb, Option.some.injEq, Prod.mk.injEq] at h; exact ⟨h.2.symm, fun _ => trivial⟩
    ·exact absurd h hb
    ·exact ⟨h.symm, fun _ => trivial⟩
   obtain ⟨rfl, -⟩ := hq'
   have hmx : m2 k = some ⟨4, [[toksD l, I q.at_, I dp, spotE q.cnt q.bad]], 0⟩ := by rw [pk]; simp [pTObj, pTC, errS, hb]
   simp -dsimp [h0, h1, h2, hmx, spotE]
   exact hq ⟨⟨L, ls, fun j hj => (kf j hj).1, fun e => absurd e hb, by omega⟩, pk, fr⟩
  have hmx : m2 k = some ⟨4, [[toksD l, I p.at_, I dp, nilE]], 0⟩ := by rw [pk]; simp [pTObj, pTC, errS, hb]
  by_cases hL : L = []
  ·subst hL
   rcases st with ⟨_, rfl, hr⟩ | ⟨h, _⟩ | ⟨h, _⟩
   rotate_left
   ·exact absurd rfl h
   ·exact absurd hb h
   simp only [List.length_nil] at hll
   simp only [sevO, if_pos hb] at hr
   cases non with
   | false =>
    simp only [Bool.false_and, Bool.false_eq_true, if_false] at hr
    simp -dsimp [h0, h1, h2, hmx, nilE, hll, Tt]
    exact ⟨by simp, by simp, by simp [Tt], by simpa using ls, by simpa using kf, nn, pk, fr, hb, F, by omega, by simp, hr⟩
   | true =>
    simp only [Bool.true_and] at hr
    simp -dsimp [h0, h1, h2, hmx, nilE, hll, Tt]
    refine aCall_of (cTPass hl (by omega) en (by omega) pk) ?_
    rintro d m3 n3 ⟨rfl, rfl, rfl⟩
    cases hi : isT 4 en l p with
    | true =>
     rw [hi] at hr
     simp only [if_true, Option.some.injEq, Prod.mk.injEq] at hr
     obtain ⟨rfl, rfl⟩ := hr
     simp -dsimp [Tt, hi]
     exact hq ⟨⟨[], ls.frame fun j hj => set_ne _ _ _ _ (hkx j hj), fun j hj => (kf j hj).1, fun _ => rfl, by simp⟩, by simp, fun j h1 h2 => by rw [set_ne _ _ _ _ h2]; exact fr j h1 h2⟩
    | false =>
     rw [hi] at hr
     simp only [Bool.false_eq_true, if_false] at hr
     simp -dsimp [Tt, hi]
     exact ⟨by simp [h0], by simp [h1], by simp [h2, Tt], by simpa using ls.frame fun j hj => set_ne _ _ _ _ (hkx j hj), by simpa using kf, nn, by simp, fun j h1 h2 => by rw [set_ne _ _ _ _ h2]; exact fr j h1 h2, hb, F, by omega, by simp, hr⟩
  ·rcases st with ⟨h, _⟩ | ⟨_, _, hr⟩ | ⟨h, _⟩
   ·exact absurd h hL
   rotate_left
   ·exact absurd hb h
   have hpos : 0 < L.length := List.length_pos_iff.2 hL
   have hpos' : (0 : Int) < L.length := by omega
   simp -dsimp [h0, h1, h2, hmx, nilE, hll, Tt, hpos, hpos']
   exact ⟨by simp, by simp, by simp [Tt], by simpa using ls, by simpa using kf, nn, pk, fr, hb, f, by omega, by omega, hr⟩
 rintro σ m2 n2 ⟨h0, h1, h2, ls, kf, nn, pk, fr, hb, g, g1, g2, hr⟩
 cases g with
 | zero => simp only [severO] at hr; cases hr
 | succ g =>
 simp only [severO] at hr
 cases hrp : rec p with
 | none => rw [hrp] at hr; cases hr
 | some r =>
 obtain ⟨t, p1⟩ := r
 rw [hrp] at hr
 simp only at hr
 generalize hd7 : σ 7 = d7 at ls kf
 have hkx : ∀ j, kof d7 = some j → j ≠ k := fun j hj e => by have := kf j hj; omega
 have h8 := tmD_len
 simp -dsimp [h0, h1, h2, hd7]
 refine aCall_of (hrec p t p1 hrp k _ _ (by omega) pk) ?_
 rintro d m3 n3 ⟨⟨t', rfl, ht⟩, rfl, rfl⟩
 simp -dsimp [h0, h1, h2, hd7, h8]
 refine b4_append (ls.frame fun j hj => by have := kf j hj; rw [set_ne _ _ _ _ (by omega), set_ne _ _ _ _ (hkx j hj)]) (fun j hj => by have := kf j hj; omega) trivial trivial (by omega) (by simp; omega) ?_
 intro d m6 n6 a1 a2 a3 a4
 have pk6 : m6 k = some (pTObj l dp p1) := by
  rw [a4 k (by omega) (fun e => hkx k e rfl), set_ne _ _ _ _ (by omega), set_same]
 have fr6 : ∀ j, j < n → j ≠ k → m6 j = m j := fun j h1 h2 => by
  rw [a4 j (by omega) (fun e => by have := kf j e; omega), set_ne _ _ _ _ (by omega), set_ne _ _ _ _ h2]; exact fr j h1 h2
 have kf6 : ∀ j, kof d = some j → n ≤ j ∧ j < n6 ∧ j ≠ k := fun j hj => by
  have := a3 j hj
  rcases this.2 with e | e
  ·have := kf j e; omega
  ·omega
 simp -dsimp [h0, h1, h2]
 refine aCall_of (cTPass hl (by omega) en (by omega) pk6) ?_
 rintro d2 m7 n7 ⟨rfl, rfl, rfl⟩
 cases hi : isT 4 en l p1 with
 | true =>
  rw [hi] at hr
  simp only [if_true, Option.some.injEq, Prod.mk.injEq] at hr
  obtain ⟨rfl, rfl⟩ := hr
  have hb1 := (isT_ok hl (by omega) hi).1
  simp -dsimp [Tt, hi]
  exact hq ⟨⟨L ++ [t'], by simpa using a1.frame fun j hj => set_ne _ _ _ _ (kf6 j hj).2.2, fun j hj => (kf6 j (by simpa using hj)).1, fun _ => by rw [ht hb1], by simp; omega⟩, by simp, fun j h1 h2 => by rw [set_ne _ _ _ _ h2]; exact fr6 j h1 h2⟩
 | false =>
  rw [hi] at hr
  simp only [Bool.false_eq_true, if_false] at hr
  simp -dsimp [Tt, hi, h0, h1, h2]
  refine aCall_of (cTMust hl (dp := dp) (p := p1) (kd := 4) (by omega) [44] (by omega) (by simp)) ?_
  rintro d3 m8 n8 ⟨rfl, rfl, rfl⟩
  simp -dsimp [h0, h1, h2]
  have stn : (L ++ [t'] = [] ∧ g = F + 1 ∧ sevO l rec F en non (mustT 4 [44] l p1) = some (ts, q)) ∨ (L ++ [t'] ≠ [] ∧ (mustT 4 [44] l p1).bad = 0 ∧ severO l rec en g (L ++ [t']) (mustT 4 [44] l p1) = some (ts, q)) ∨ ((mustT 4 [44] l p1).bad ≠ 0 ∧ mustT 4 [44] l p1 = q) := by
   by_cases hm : (mustT 4 [44] l p1).bad = 0
   ·have hb1 : p1.bad = 0 := by
     unfold mustT at hm
     split at hm
     ·rename_i h; exact (isT_ok hl (by omega) h).1
     ·by_cases e : p1.bad = 0
      ·exact e
      ·rw [failS_bad e] at hm; exact absurd hm e
    rw [if_pos hm] at hr
    rw [ht hb1]
    exact .inr (.inl ⟨by simp, hm, hr⟩)
   ·rw [if_neg hm] at hr
    simp only [Option.some.injEq, Prod.mk.injEq] at hr
    exact .inr (.inr ⟨hm, hr.2⟩)
  refine ⟨g, L ++ [t'], mustT 4 [44] l p1, ?_, ⟨by simp [h0], by simp [h1], by simp [h2, Tt], ?_, ?_, by omega, by simp, fun j h1 h2 => by simp [set_ne, h2]; exact fr6 j h1 h2, stn, by simp; omega⟩⟩
  ·simp only [if_pos hb]
   split <;> omega
  ·simpa using a1.frame fun j hj => by simp [set_ne, (kf6 j hj).2.2]
  ·intro j hj
   have := kf6 j (by simpa using hj)
   omega
end Go.Proofs.Mv.App
open Go Go.Proofs Go.Proofs.Mv.V
set_option maxRecDepth 10000
namespace Go.Proofs.Mv.App
theorem cIndexO {l : List (List UInt8)} {dl : D} {m : Mem} (hL : Lst m 1 (l.map fun s => [S s]) dl) (hl : l.length ≤ 9223372036854775807) (x : List UInt8) (n : Nat) : ACalls Tryz.prog 125 [dl, S x] m n (fun d m' n' => d = I (findI (fun s => decide (s = x)) l) ∧ m' = m ∧ n' = n) := by
 refine acalls_done (R' := Hq (fun d m' n' => d = I (findI (fun s => decide (s = x)) l) ∧ ∀ j, j < n → m' j = m j) tg) ?_ ?_
 rotate_left
 ·rintro d m' n' ⟨rfl, h⟩
  exact ⟨_, (pur_I _).pub, h, rfl⟩
 have hll := lenD_lst hL
 rw [List.length_map] at hll
 refine acalls_vc [0, 1, 4, 5, 7, 8, 9, 16] Tryz.func125 Tryz.ntmps125 (by kernel_rfl) rfl rfl (by simp) ?_
 simp -dsimp [S, I, hll]
 refine vloop_as (β := Nat) (fun i => [(0, dl), (1, S x), (7, I l.length), (8, I i)]) (fun i m2 n2 => m2 = m ∧ n2 = n ∧ i ≤ l.length ∧ ∀ s ∈ l.take i, decide (s = x) = false) (fun i => l.length - i) 0 (by simp [I, S]) ⟨rfl, rfl, by omega, by simp⟩ ?_
 rintro i m2 n2 ⟨rfl, rfl, le, al⟩
 by_cases hi : (i : Int) < l.length
 ·have hi' : i < l.length := by omega
  have wi : IntKind.i64.wrap ((i : Int) + 1) = (i : Int) + 1 := wrap_i64 (by omega) (by omega)
  rcases hL with ⟨he, _⟩ | ⟨kk, gg, es', rfl, hmk, hle, htk⟩
  ·have : l = [] := by simpa using he
   subst this; simp at hi'
  have hgi : es'[i]? = some [S l[i]] := by
   have h1 : (es'.take (l.map fun s => [S s]).length)[i]? = some [S l[i]] := by rw [htk]; simp [hi']
   rw [List.getElem?_take] at h1
   split at h1
   ·exact h1
   ·cases h1
  have hle' : i < es'.length := by simp at hle; omega
  have hgi' : es'[i] = [S l[i]] := get_opt hgi hle'
  by_cases c : l[i] = x
  ·have c' : (x == l[i]) = true := by simp [c]
   simp -dsimp [I, S, Tt, hll, hi, hi', hmk, hle', hgi', c']
   exact hq ⟨by rw [findI_hit hi' (by simpa using c) al]; simp [I], fun _ _ => rfl⟩
  ·have c' : (x == l[i]) = false := by
    have : ¬ x = l[i] := fun e => c e.symm
    simpa using this
   simp -dsimp [I, S, Tt, hll, hi, hi', hmk, hle', hgi', c', wi]
   refine rnd (i + 1) (by omega) (by simp [I, S]) ⟨rfl, rfl, by omega, fun s hs => ?_⟩
   rw [List.take_succ_eq_append_getElem hi'] at hs
   rcases List.mem_append.1 hs with hs | hs
   ·exact al s hs
   ·simp at hs; rw [hs]; simpa using c
 ·rw [List.take_of_length_le (by omega)] at al
  simp -dsimp [I, S, Tt, hll, hi]
  exact hq ⟨by rw [findI_no al]; simp [I], fun _ _ => rfl⟩
theorem cContainsO {l : List (List UInt8)} {dl : D} {m : Mem} (hL : Lst m 1 (l.map fun s => [S s]) dl) (hl : l.length ≤ 9223372036854775807) (x : List UInt8) (n : Nat) : ACalls Tryz.prog 73 [dl, S x] m n (fun d m' n' => d = Tt (decide (x ∈ l)) ∧ m' = m ∧ n' = n) := by
 have hm := findI_mem (l := l) (x := x)
 have hc := cIndexO hL hl x n
 generalize findI (fun s => decide (s = x)) l = F at hc hm
 refine acalls_vc [0, 1, 4] Tryz.func73 Tryz.ntmps73 (by kernel_rfl) rfl rfl (by simp) ?_
 simp -dsimp [S]
 refine aCall_of (by simpa [S] using hc) ?_
 rintro d m' n' ⟨rfl, rfl, rfl⟩
 by_cases h : x ∈ l
 ·have := hm.2 h
  simp -dsimp [I, Tt, this, h]
 ·have : ¬ 0 ≤ F := fun e => h (hm.1 e)
  simp -dsimp [I, Tt, this, h]
theorem cTFreshO {l : List Tok} (hl : TkOk l) {dp : Nat} {p : PS} {kd : Int} (hkd : kd ≠ 0) {f : FuncId} {ok : List UInt8 → Bool} (hf : FineT f ok) {names : List (List UInt8)} {dn : D} {k : Nat} {m : Mem} {n : Nat} (hL : Lst m 1 (names.map fun s => [S s]) dn) (hn : names.length ≤ 1000000) (hkn : ∀ j, kof dn = some j → j < n) (hk : k < n) (hm : m k = some (pTObj l dp p)) :
  ACalls Tryz.prog 143 [.ptr k 0 0 0, I kd, .func (.func f) [] [], dn] m n (fun d m' n' => d = S (freshT kd ok names l p).1 ∧ m' = m.set k (pTObj l dp (freshT kd ok names l p).2) ∧ n' = n) := by
 have kn : k ≠ n := by omega
 have nk : n ≠ k := by omega
 have kn1 : k < n + 1 := by omega
 obtain ⟨kx, a, tx, hp⟩ := pk_of hl p
 have hB : twiceT kd ok names l p = (decide (kx = kd) && ok tx && decide (tx ∈ names)) := by rw [twiceT, pk_kF hp hkd, hp.tex]
 have last : ∀ {q : PS} {M : Mem} {o : V.Obj}, M k = some (pTObj l dp q) → (∀ j, j < n → j ≠ k → M j = m j) → o = pTObj l dp (namedT kd ok l q).2 → ∀ {K : D → Mem → Nat → Prop} {u : Tg K () ()},
   (∀ M', M' k = some o → (∀ j, j < n → j ≠ k → M' j = m j) → K (S (namedT kd ok l q).1) M' (n + 1)) → aCall Tryz.prog 145 [.ptr k 0 0 0, I kd, .func (.func f) [] []] M (n + 1) K u := fun {q M o} hM hj ho {K u} hK => by
  refine aCall_of (cTNamed hl hkd hf kn1 hM) ?_
  rintro d m2 n2 ⟨rfl, rfl, rfl⟩
  exact hK _ (by simp [ho]) fun j h1 h2 => by rw [set_ne _ _ _ _ h2]; exact hj j h1 h2
 simp only [freshT]
 generalize hq : (if twiceT kd ok names l p = true then failS 5 p else p) = q
 refine acalls_fin hk (pur_pT _ _ _) (fun d h => by rw [h]; exact pur_S _) ?_
 have last0 := @last q
 simp only [I] at last0
 refine acalls_vc [0, 1, 2, 3, 8, 9, 27] Tryz.func143 Tryz.ntmps143 (by kernel_rfl) rfl rfl (by simp) ?_
 simp -dsimp
 refine aCall_of (cTPeek hk hm) ?_
 rintro d m2 n2 ⟨rfl, rfl, rfl⟩
 rw [hp.pk]
 by_cases ek : kx = kd
 case neg =>
  have ek' : (kx == kd) = false := by simp [ek]
  have e : q = p := by rw [← hq, hB]; simp [ek]
  subst e
  simp -dsimp [I, S, ek, ek', hm, set_ne, kn, nk]
  refine last0 (by simp [set_ne, kn, hm]) (fun j h1 h2 => by rw [set_ne _ _ _ _ (by omega)]) rfl fun M h1 h2 => ?_
  simp -dsimp
  exact fin_mk (by simp [S]) h1 h2
 subst ek
 have ek' : (kx == kx) = true := by simp
 simp -dsimp [I, S, ek', hm, set_ne, kn, nk]
 refine pcall (hf tx hp.len) ?_
 cases eo : ok tx
 ·have e : q = p := by rw [← hq, hB]; simp [eo]
  subst e
  simp -dsimp [Tt]
  refine last0 (by simp [set_ne, kn, hm]) (fun j h1 h2 => by rw [set_ne _ _ _ _ (by omega)]) rfl fun M h1 h2 => ?_
  simp -dsimp
  exact fin_mk (by simp [S]) h1 h2
 simp -dsimp [Tt, S]
 refine aCall_of (cContainsO (l := names) (dl := dn) (hL.frame fun j hj => set_ne _ _ _ _ (by have := hkn j hj; omega)) (by omega) tx _) ?_
 rintro d m3 n3 ⟨rfl, rfl, rfl⟩
 by_cases hin : tx ∈ names
 ·have e : q = failS 5 p := by rw [← hq, hB]; simp [eo, hin]
  subst e
  simp -dsimp [Tt, hin]
  refine aCall_of (cTFail (l := l) (dp := dp) (p := p) 5 (by omega) kn1 (by simp [set_ne, kn, hm])) ?_
  rintro d m3 n3 ⟨rfl, rfl, rfl⟩
  simp -dsimp
  refine last0 (by simp) (fun j h1 h2 => by rw [set_ne _ _ _ _ h2, set_ne _ _ _ _ (by omega)]) rfl fun M h1 h2 => ?_
  simp -dsimp
  exact fin_mk (by simp [S]) h1 h2
 ·have e : q = p := by rw [← hq, hB]; simp [hin]
  subst e
  simp -dsimp [Tt, hin]
  refine last0 (by simp [set_ne, kn, hm]) (fun j h1 h2 => by rw [set_ne _ _ _ _ (by omega)]) rfl fun M h1 h2 => ?_
  simp -dsimp
  exact fin_mk (by simp [S]) h1 h2
end Go.Proofs.Mv.App
