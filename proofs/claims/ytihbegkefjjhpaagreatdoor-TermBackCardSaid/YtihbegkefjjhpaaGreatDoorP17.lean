/- A part of the proofs: machine, contracts, laws. No condition of its own. -/
import Derived.Test.YtihbegkefjjhpaaGreatDoorP12
import Derived.Test.YtihbegkefjjhpaaGreatDoorP14
import Derived.Test.YtihbegkefjjhpaaGreatDoorP15
import Derived.Test.YtihbegkefjjhpaaGreatDoorP16
import Derived.Shelf.LaysM
import Derived.Ground.NamesProg
import Derived.Test.YtihbegkefjjhpaaGreatDoorProg
import Derived.Test.YtihbegkefjjhpaaGreatDoorP04
import Derived.Shelf.Strings.OnBuilder
import Derived.Shelf.Strconv.Itoa3
import Derived.Test.YtihbegkefjjhpaaGreatDoorP02
import Derived.WalkKit
import Derived.BigCall
import Derived.BigGuard
import Derived.Test.YtihbegkefjjhpaaGreatDoorMvPc
import Derived.Test.YtihbegkefjjhpaaGreatDoorP07
import Derived.Test.YtihbegkefjjhpaaGreatDoorP05
set_option linter.unusedSimpArgs false
set_option linter.unusedVariables false
set_option linter.unusedSectionVars false
open Go Go.Proofs Go.Proofs.Mv.V
set_option maxRecDepth 10000
namespace Go.Proofs.Mv.App
set_option maxHeartbeats 8000000 in
theorem cTTermX {l : List Tok} (hl : TkOk l) {dg : List UInt8 → Int} (hD : ∀ t ∈ l, t.kind = 3 → Pc Tryz.prog 140 [S t.text] (I (dg t.text))) : ∀ (f : Nat), f ≤ 100000 → ∀ dp, dp ≤ 2000 → RecC l dp (termX l dg f dp) := by
 have hfn := funC_all hl
 intro f
 induction f with
 | zero => intro _ dp _ p t q h; simp [termX] at h
 | succ f ih =>
 intro hf dp hdp p t q hrun k m n hk hm
 obtain ⟨kd, a, tx, hp⟩ := pk_of hl p
 have hkd := pk_kind hp
 have htx := hp.tex
 simp only [termX, hkd, htx] at hrun
 have kn : k ≠ n := by omega
 have kn1 : k ≠ n + 1 := by omega
 have kn2 : k ≠ n + 1 + 1 := by omega
 have nk : n ≠ k := by omega
 have nk1 : n + 1 ≠ k := by omega
 have nk2 : n + 1 + 1 ≠ k := by omega
 have d1 : n ≠ n + 1 := by omega
 have d2 : n ≠ n + 1 + 1 := by omega
 have d3 : n + 1 ≠ n + 1 + 1 := by omega
 have d1' : n + 1 ≠ n := by omega
 have d2' : n + 1 + 1 ≠ n := by omega
 have d3' : n + 1 + 1 ≠ n + 1 := by omega
 have hmx : m k = some ⟨4, [[toksD l, I p.at_, .v (.int .i64 (dp : Int)), errS p]], 0⟩ := hm
 have h8 := tmD_len
 have hbg : Pc Tryz.prog 102 [.agg [I kd, I a, S tx]] (Tt (begB dg kd tx)) := cTBegins kd a tx hp.len fun e => by
  subst e
  rcases hp.cu with ⟨h, e⟩ | h
  ·simp at e
  ·exact hD _ (List.mem_of_getElem? (cur_some h).2.2) rfl
 simp only [I, S] at hbg
 refine acalls_put (X := fun d => ∃ t', d = .agg (tmD t') ∧ (q.bad = 0 → t' = t)) (R' := Hq (fun d m' n' => (∃ t' : Tm, PubAs n m' d (.agg (tmD t')) ∧ (q.bad = 0 → t' = t)) ∧ m' k = some (pTObj l dp q) ∧ ∀ j, j < n → j ≠ k → m' j = m j) tg) k hk _ ?_ ?_
 rotate_left
 ·rintro d m' n' ⟨⟨t', h1, h3⟩, h4, h5⟩
  exact ⟨.agg (tmD t'), _, h1, h4, .pur (pur_pT _ _ _), h5, t', rfl, h3⟩
 refine acalls_ofD (gf := 103) (cs := [.ptr n 0 0 0]) Tryz.func65 Tryz.ntmps65 (by kernel_rfl) rfl rfl (by simp) ?_
 refine vcd_seq [0, 1, 2, 3, 6, 13, 32, 34, 35, 39, 43] ?_
 simp -dsimp
 refine vcd_seq [0, 1, 2, 3, 6, 13, 32, 34, 35, 39, 43] ?_
 simp -dsimp [set_ne, d1]
 refine aCall_of (cTPeek (l := l) (dp := dp) (p := p) (by omega) (by simp [set_ne, kn, kn1, hm])) ?_
 rintro d m1 n1 ⟨rfl, rfl, rfl⟩
 rw [hp.pk]
 simp -dsimp [I, S]
 refine vcd_seq [0, 1, 2, 3, 6, 13, 32, 34, 35, 39, 43] ?_
 simp -dsimp [I, S, set_ne, d3']
 refine pcall hbg ?_
 cases hb : begB dg kd tx with
 | false =>
  rw [hb] at hrun
  simp only [Bool.false_eq_true, if_false, Option.some.injEq, Prod.mk.injEq] at hrun
  obtain ⟨rfl, rfl⟩ := hrun
  simp -dsimp [I, S, Tt, set_ne, kn, kn1, kn2, nk, nk1, nk2, d1, d2, d3, d1', d2', d3', h8, hmx, hb]
  refine aCall_of (cTFail (l := l) (dp := dp) (p := p) 2 (by omega) (by omega) (by simp [set_ne, kn, kn1, kn2, hm])) ?_
  rintro d m2 n2 ⟨rfl, rfl, rfl⟩
  simp -dsimp [I, S, Tt, set_ne, kn, kn1, kn2, nk, nk1, nk2, d1, d2, d3, d1', d2', d3', h8, hmx, hb]
  refine hq ⟨⟨Tm0, ?_, fun _ => rfl⟩, ?_, fun j hj hjk => ?_⟩
  ·rw [tmD_zero]
   exact .agg (.cons (pur_I _).pub (.cons (pur_I _).pub (.cons (pur_S _).pub (.cons (pur_S _).pub (.cons (pub_nil 1) (.cons (pub_nil 1) (.cons (pub_nil 7) (.cons (pub_nil 8) .nil))))))))
  ·simp [set_ne, kn, kn1, kn2, nk, nk1]
  ·simp [set_ne, hjk, show j ≠ n by omega, show j ≠ n + 1 by omega, show j ≠ n + 1 + 1 by omega]
 | true =>
  rw [hb] at hrun
  simp only [if_true] at hrun
  have k0 : kd ≠ 0 := by rintro rfl; simp [begB] at hb
  obtain ⟨hb0, ha0⟩ := hp.ok k0
  by_cases hge : 2000 ≤ dp
  ·rw [if_pos hge] at hrun
   simp only [Option.some.injEq, Prod.mk.injEq] at hrun
   obtain ⟨rfl, rfl⟩ := hrun
   have hge' : (2000 : Int) ≤ (dp : Int) := by omega
   simp -dsimp [I, S, Tt, set_ne, kn, kn1, kn2, nk, nk1, nk2, d1, d2, d3, d1', d2', d3', h8, hmx, hb, hge']
   refine aCall_of (cTFail (l := l) (dp := dp) (p := p) 3 (by omega) (by omega) (by simp [set_ne, kn, kn1, kn2, hm])) ?_
   rintro d m2 n2 ⟨rfl, rfl, rfl⟩
   simp -dsimp [I, S, Tt, set_ne, kn, kn1, kn2, nk, nk1, nk2, d1, d2, d3, d1', d2', d3', h8, hmx, hb]
   refine hq ⟨⟨Tm0, ?_, fun _ => rfl⟩, ?_, fun j hj hjk => ?_⟩
   ·rw [tmD_zero]
    exact .agg (.cons (pur_I _).pub (.cons (pur_I _).pub (.cons (pur_S _).pub (.cons (pur_S _).pub (.cons (pub_nil 1) (.cons (pub_nil 1) (.cons (pub_nil 7) (.cons (pub_nil 8) .nil))))))))
   ·simp [set_ne, kn, kn1, kn2, nk, nk1]
   ·simp [set_ne, hjk, show j ≠ n by omega, show j ≠ n + 1 by omega, show j ≠ n + 1 + 1 by omega]
  rw [if_neg hge] at hrun
  have hge' : ¬ (2000 : Int) ≤ (dp : Int) := by omega
  simp -dsimp [I, S, Tt, set_ne, kn, kn1, kn2, nk, nk1, nk2, d1, d2, d3, d1', d2', d3', h8, hmx, hb, hge']
  refine vcd_seq [0, 1, 2, 3, 6, 13, 32, 34, 35, 39, 43] ?_
  have wd : IntKind.i64.wrap ((dp : Int) + 1) = (dp : Int) + 1 := wrap_i64 (by omega) (by omega)
  simp -dsimp [I, S, Tt, set_ne, kn, kn1, kn2, nk, nk1, nk2, d1, d2, d3, d1', d2', d3', h8, hmx, hb, hge', wd]
  have hst : (⟨4, [[toksD l, .v (.int .i64 p.at_), .v (.int .i64 ((dp : Int) + 1)), errS p]], 0⟩ : V.Obj) = pTObj l (dp + 1) p := by simp [pTObj, pTC, I]
  rw [hst]
  have rc := ih (by omega) (dp + 1) (by omega)
  have rb : ∀ p t q, termX l dg f (dp + 1) p = some (t, q) → q.bad = 0 → p.bad = 0 := fun p t q h => termX_keep h
  refine vcd_defer [⟨some 29, .makeFunc (.func 103) _ _, _, _, _, none⟩] [0, 1, 2, 3, 6, 13, 32, 34, 35, 39, 43] rfl rfl ?_
  by_cases k1 : kd = 1
  ·subst k1
   by_cases ef : tx = wFn
   ·subst ef
    rw [if_pos ⟨rfl, rfl⟩] at hrun
    simp -dsimp [I, S, Tt, set_ne, kn, kn1, kn2, nk, nk1, nk2, d1, d2, d3, d1', d2', d3', h8, hmx, hb, retD_ret, wFn]
    refine aCall_of (hfn (dp + 1) _ rc f (by omega) p hb0 ha0 htx _ _ hrun k _ _ (by omega) (by simp)) ?_
    rintro d m2 n2 ⟨⟨t', rfl, ht⟩, rfl, rfl⟩
    simp -dsimp [I, S, Tt, set_ne, kn, kn1, kn2, nk, nk1, nk2, d1, d2, d3, d1', d2', d3', h8, hmx, hb, retD_ret]
    refine (cTDef (l := l) hdp (p := q) (k := k) (by omega) (by omega) nk (by simp [set_ne, nk, d1, d2]) (by simp [set_ne, kn1])).mono ?_
    rintro m' n' ⟨rfl, rfl⟩
    simp -dsimp [I, S, Tt, set_ne, kn, kn1, kn2, nk, nk1, nk2, d1, d2, d3, d1', d2', d3', h8, hmx, hb, retD_ret]
    refine hq ⟨⟨t', .agg (pubL_pur (pur_tm t')), ht⟩, by simp, fun j hj hjk => ?_⟩
    simp [set_ne, hjk, show j ≠ n by omega, show j ≠ n + 1 by omega, show j ≠ n + 1 + 1 by omega]
   by_cases ei : tx = wIf
   ·subst ei
    have e1 : (wIf == [102, 110]) = false := by decide
    have e2 : (wIf == [105, 102]) = true := by decide
    have e3 : (wIf == [99, 97, 115, 101]) = false := by decide
    rw [if_neg (by decide), if_pos ⟨rfl, rfl⟩] at hrun
    simp -dsimp [I, S, Tt, set_ne, kn, kn1, kn2, nk, nk1, nk2, d1, d2, d3, d1', d2', d3', h8, hmx, hb, retD_ret, e1, e2, e3]
    refine aCall_of (cTCho hl rc rb hb0 ha0 hrun (by omega) (by simp)) ?_
    rintro d m2 n2 ⟨⟨t', rfl, ht⟩, rfl, rfl⟩
    simp -dsimp [I, S, Tt, set_ne, kn, kn1, kn2, nk, nk1, nk2, d1, d2, d3, d1', d2', d3', h8, hmx, hb, retD_ret]
    refine (cTDef (l := l) hdp (p := q) (k := k) (by omega) (by omega) nk (by simp [set_ne, nk, d1, d2]) (by simp [set_ne, kn1])).mono ?_
    rintro m' n' ⟨rfl, rfl⟩
    simp -dsimp [I, S, Tt, set_ne, kn, kn1, kn2, nk, nk1, nk2, d1, d2, d3, d1', d2', d3', h8, hmx, hb, retD_ret]
    refine hq ⟨⟨t', .agg (pubL_pur (pur_tm t')), ht⟩, by simp, fun j hj hjk => ?_⟩
    simp [set_ne, hjk, show j ≠ n by omega, show j ≠ n + 1 by omega, show j ≠ n + 1 + 1 by omega]
   by_cases ec : tx = wCase
   ·subst ec
    have e1 : (wCase == [102, 110]) = false := by decide
    have e2 : (wCase == [105, 102]) = false := by decide
    have e3 : (wCase == [99, 97, 115, 101]) = true := by decide
    rw [if_neg (by decide), if_neg (by decide), if_pos ⟨rfl, rfl⟩] at hrun
    simp -dsimp [I, S, Tt, set_ne, kn, kn1, kn2, nk, nk1, nk2, d1, d2, d3, d1', d2', d3', h8, hmx, hb, retD_ret, e1, e2, e3]
    refine aCall_of (cTCas hl rc rb (show f ≤ 100000 by omega) hb0 ha0 hrun (by omega) (by simp)) ?_
    rintro d m2 n2 ⟨⟨t', rfl, ht⟩, rfl, rfl⟩
    simp -dsimp [I, S, Tt, set_ne, kn, kn1, kn2, nk, nk1, nk2, d1, d2, d3, d1', d2', d3', h8, hmx, hb, retD_ret]
    refine (cTDef (l := l) hdp (p := q) (k := k) (by omega) (by omega) nk (by simp [set_ne, nk, d1, d2]) (by simp [set_ne, kn1])).mono ?_
    rintro m' n' ⟨rfl, rfl⟩
    simp -dsimp [I, S, Tt, set_ne, kn, kn1, kn2, nk, nk1, nk2, d1, d2, d3, d1', d2', d3', h8, hmx, hb, retD_ret]
    refine hq ⟨⟨t', .agg (pubL_pur (pur_tm t')), ht⟩, by simp, fun j hj hjk => ?_⟩
    simp [set_ne, hjk, show j ≠ n by omega, show j ≠ n + 1 by omega, show j ≠ n + 1 + 1 by omega]
   have e1 : (tx == [102, 110]) = false := by simpa [wFn] using ef
   have e2 : (tx == [105, 102]) = false := by simpa [wIf] using ei
   have e3 : (tx == [99, 97, 115, 101]) = false := by simpa [wCase] using ec
   rw [if_neg (by simp [ef]), if_neg (by simp [ei]), if_neg (by simp [ec])] at hrun
   cases hpr : priO l dg (termX l dg f (dp + 1)) f p with
   | none => rw [hpr] at hrun; cases hrun
   | some r =>
   obtain ⟨t1, q1⟩ := r
   rw [hpr] at hrun
   simp only at hrun
   simp -dsimp [I, S, Tt, set_ne, kn, kn1, kn2, nk, nk1, nk2, d1, d2, d3, d1', d2', d3', h8, hmx, hb, retD_ret, e1, e2, e3]
   refine vdraw_tree [0, 0, 2, 7, 15] (.rd 0 (.rd 1 (.wr (.cons 2 (.wr (.cons 3 (.wr (.cons 4 (.fin) (.nil))) (.nil))) (.nil))))) (by kernel_rfl) (by kernel_rfl) ?_
   simp -dsimp [I, S, Tt, set_ne, kn, kn1, kn2, nk, nk1, nk2, d1, d2, d3, d1', d2', d3', h8, hmx, hb, retD_ret]
   refine aCall_of (cTPri hl rc rb (by omega) (fun e => ?_) hb0 ha0 hpr (by omega) (by simp)) ?_
   ·rw [hkd] at e
    exact absurd e (by decide)
   rintro d m2 n2 ⟨⟨t1', rfl, ht1⟩, rfl, rfl⟩
   refine ⟨fun p hp _ => ?_, ?_⟩
   ·simp only [List.mem_cons, List.not_mem_nil, or_false] at hp
    rcases hp with rfl | rfl
    ·simp [set_ne, nk]
    ·simp [set_ne, nk]
   simp -dsimp [I, S, Tt, set_ne, kn, kn1, kn2, nk, nk1, nk2, d1, d2, d3, d1', d2', d3', h8, hmx, hb, retD_ret]
   refine aCall_of (cTBeh hl rc (g := f) (by omega) ht1 hrun (by omega) (by simp)) ?_
   rintro d m3 n3 ⟨⟨t', rfl, ht⟩, rfl, rfl⟩
   refine ⟨fun p hp _ => ?_, ?_⟩
   ·simp only [List.mem_cons, List.not_mem_nil, or_false] at hp
    rcases hp with rfl | rfl
    ·simp [set_ne, nk]
    ·simp [set_ne, nk]
   simp -dsimp [I, S, Tt, set_ne, kn, kn1, kn2, nk, nk1, nk2, d1, d2, d3, d1', d2', d3', h8, hmx, hb, retD_ret]
   refine (cTDef (l := l) hdp (p := q) (k := k) (by omega) (by omega) nk (by simp [set_ne, nk, d1, d2]) (by simp [set_ne, kn1])).mono ?_
   rintro m' n' ⟨rfl, rfl⟩
   simp -dsimp [I, S, Tt, set_ne, kn, kn1, kn2, nk, nk1, nk2, d1, d2, d3, d1', d2', d3', h8, hmx, hb, retD_ret]
   refine hq ⟨⟨t', .agg (pubL_pur (pur_tm t')), ht⟩, by simp, fun j hj hjk => ?_⟩
   simp [set_ne, hjk, show j ≠ n by omega, show j ≠ n + 1 by omega, show j ≠ n + 1 + 1 by omega]
  have b1 : (kd == 1) = false := by simpa using k1
  rw [if_neg (by simp [k1]), if_neg (by simp [k1]), if_neg (by simp [k1])] at hrun
  cases hpr : priO l dg (termX l dg f (dp + 1)) f p with
  | none => rw [hpr] at hrun; cases hrun
  | some r =>
  obtain ⟨t1, q1⟩ := r
  rw [hpr] at hrun
  simp only at hrun
  simp -dsimp [I, S, Tt, set_ne, kn, kn1, kn2, nk, nk1, nk2, d1, d2, d3, d1', d2', d3', h8, hmx, hb, retD_ret, b1]
  refine vdraw_tree [0, 0, 2, 7, 15] (.rd 0 (.rd 1 (.wr (.cons 2 (.wr (.cons 3 (.wr (.cons 4 (.fin) (.nil))) (.nil))) (.nil))))) (by kernel_rfl) (by kernel_rfl) ?_
  simp -dsimp [I, S, Tt, set_ne, kn, kn1, kn2, nk, nk1, nk2, d1, d2, d3, d1', d2', d3', h8, hmx, hb, retD_ret]
  refine aCall_of (cTPri hl rc rb (by omega) (fun e => ?_) hb0 ha0 hpr (by omega) (by simp)) ?_
  ·rw [hkd] at e
   subst e
   rcases hp.cu with ⟨h, e⟩ | h
   ·simp at e
   ·rw [htx]
    exact hD _ (List.mem_of_getElem? (cur_some h).2.2) rfl
  rintro d m2 n2 ⟨⟨t1', rfl, ht1⟩, rfl, rfl⟩
  refine ⟨fun p hp _ => ?_, ?_⟩
  ·simp only [List.mem_cons, List.not_mem_nil, or_false] at hp
   rcases hp with rfl | rfl
   ·simp [set_ne, nk]
   ·simp [set_ne, nk]
  simp -dsimp [I, S, Tt, set_ne, kn, kn1, kn2, nk, nk1, nk2, d1, d2, d3, d1', d2', d3', h8, hmx, hb, retD_ret]
  refine aCall_of (cTBeh hl rc (g := f) (by omega) ht1 hrun (by omega) (by simp)) ?_
  rintro d m3 n3 ⟨⟨t', rfl, ht⟩, rfl, rfl⟩
  refine ⟨fun p hp _ => ?_, ?_⟩
  ·simp only [List.mem_cons, List.not_mem_nil, or_false] at hp
   rcases hp with rfl | rfl
   ·simp [set_ne, nk]
   ·simp [set_ne, nk]
  simp -dsimp [I, S, Tt, set_ne, kn, kn1, kn2, nk, nk1, nk2, d1, d2, d3, d1', d2', d3', h8, hmx, hb, retD_ret]
  refine (cTDef (l := l) hdp (p := q) (k := k) (by omega) (by omega) nk (by simp [set_ne, nk, d1, d2]) (by simp [set_ne, kn1])).mono ?_
  rintro m' n' ⟨rfl, rfl⟩
  simp -dsimp [I, S, Tt, set_ne, kn, kn1, kn2, nk, nk1, nk2, d1, d2, d3, d1', d2', d3', h8, hmx, hb, retD_ret]
  refine hq ⟨⟨t', .agg (pubL_pur (pur_tm t')), ht⟩, by simp, fun j hj hjk => ?_⟩
  simp [set_ne, hjk, show j ≠ n by omega, show j ≠ n + 1 by omega, show j ≠ n + 1 + 1 by omega]
end Go.Proofs.Mv.App
namespace Go.Proofs
open Go.Shelf
def Tryz.laysJoin_ren : Go.Shelf.Ren := ⟨fun | 156 => 93 | 165 => 134 | 166 => 135 | 169 => 136 | 240 => 170 | 241 => 171 | 276 => 200 | 277 => 201 | n => n, fun | 31 => 22 | 9 => 9 | 3 => 3 | 4 => 4 | 0 => 0 | 20 => 20 | 72 => 156 | 76 => 158 | 70 => 154 | 37 => 89 | 75 => 31 | 127 => 189 | 164 => 102 | 5 => 5 | 80 => 160 | n => n, fun | n => n⟩
theorem Tryz.laysJoin : Go.Proofs.Lays.n156 Tryz.prog Tryz.laysJoin_ren := {
 mixed := by kernel_rfl
 f156 := Tryz.func93.trans (congrArg some (by kernel_rfl))
 f165 := Tryz.func134.trans (congrArg some (by kernel_rfl))
 f166 := Tryz.func135.trans (congrArg some (by kernel_rfl))
 f169 := Tryz.func136.trans (congrArg some (by kernel_rfl))
 f240 := Tryz.func170.trans (congrArg some (by kernel_rfl))
 f241 := Tryz.func171.trans (congrArg some (by kernel_rfl))
 f276 := Tryz.func200.trans (congrArg some (by kernel_rfl))
 f277 := Tryz.func201.trans (congrArg some (by kernel_rfl))
 t0 := Tryz.underlying0
 a0 := Tryz.isAgg0
 z0 := Tryz.sizeOf0
 v0 := Tryz.zeroValue0
 t3 := Tryz.underlying3
 a3 := Tryz.isAgg3
 z3 := Tryz.sizeOf3
 v3 := Tryz.zeroValue3
 t4 := Tryz.underlying4
 a4 := Tryz.isAgg4
 z4 := Tryz.sizeOf4
 v4 := Tryz.zeroValue4
 t9 := Tryz.underlying9
 a9 := Tryz.isAgg9
 z9 := Tryz.sizeOf9
 v9 := Tryz.zeroValue9
 t20 := Tryz.underlying20
 a20 := Tryz.isAgg20
 z20 := Tryz.sizeOf20
 v20 := Tryz.zeroValue20
 t31 := Tryz.underlying22
 a31 := Tryz.isAgg22
 z31 := Tryz.sizeOf22
 v31 := Tryz.zeroValue22
 t37 := Tryz.underlying89
 a37 := Tryz.isAgg89
 z37 := Tryz.sizeOf89
 v37 := Tryz.zeroValue89
 t70 := Tryz.underlying154
 a70 := Tryz.isAgg154
 z70 := Tryz.sizeOf154
 v70 := Tryz.zeroValue154
 t72 := Tryz.underlying156
 a72 := Tryz.isAgg156
 z72 := Tryz.sizeOf156
 v72 := Tryz.zeroValue156
 t75 := Tryz.underlying31
 a75 := Tryz.isAgg31
 z75 := Tryz.sizeOf31
 v75 := Tryz.zeroValue31
 t76 := Tryz.underlying158
 a76 := Tryz.isAgg158
 z76 := Tryz.sizeOf158
 v76 := Tryz.zeroValue158
 t127 := Tryz.underlying189
 a127 := Tryz.isAgg189
 z127 := Tryz.sizeOf189
 v127 := Tryz.zeroValue189
 t164 := Tryz.underlying102
 a164 := Tryz.isAgg102
 z164 := Tryz.sizeOf102
 v164 := Tryz.zeroValue102 }
def Tryz.laysItoa_ren : Go.Shelf.Ren := ⟨fun | 171 => 54 | 243 => 92 | 246 => 133 | 283 => 166 | 284 => 167 | 285 => 168 | 286 => 169 | 129 => 196 | 317 => 195 | 318 => 197 | 319 => 198 | 320 => 199 | 337 => 227 | 338 => 228 | n => n, fun | 3 => 3 | 9 => 9 | 2 => 2 | 4 => 4 | 171 => 183 | 0 => 0 | 53 => 184 | 37 => 89 | 5 => 5 | 173 => 187 | 212 => 208 | 51 => 209 | 20 => 20 | 213 => 210 | 46 => 200 | 232 => 249 | 233 => 250 | n => n, fun | 17 => 1 | 18 => 3 | 19 => 4 | n => n⟩
theorem Tryz.laysItoa : Go.Proofs.LaysM.n171 Tryz.prog Tryz.laysItoa_ren := {
 mixed := by kernel_rfl
 f129 := Tryz.func196.trans (congrArg some (by kernel_rfl))
 f171 := Tryz.func54.trans (congrArg some (by kernel_rfl))
 f243 := Tryz.func92.trans (congrArg some (by kernel_rfl))
 f246 := Tryz.func133.trans (congrArg some (by kernel_rfl))
 f283 := Tryz.func166.trans (congrArg some (by kernel_rfl))
 f284 := Tryz.func167.trans (congrArg some (by kernel_rfl))
 f285 := Tryz.func168.trans (congrArg some (by kernel_rfl))
 f286 := Tryz.func169.trans (congrArg some (by kernel_rfl))
 f317 := Tryz.func195.trans (congrArg some (by kernel_rfl))
 f318 := Tryz.func197.trans (congrArg some (by kernel_rfl))
 f319 := Tryz.func198.trans (congrArg some (by kernel_rfl))
 f320 := Tryz.func199.trans (congrArg some (by kernel_rfl))
 f337 := Tryz.func227.trans (congrArg some (by kernel_rfl))
 f338 := Tryz.func228.trans (congrArg some (by kernel_rfl))
 t0 := Tryz.underlying0
 a0 := Tryz.isAgg0
 z0 := Tryz.sizeOf0
 v0 := Tryz.zeroValue0
 t2 := Tryz.underlying2
 a2 := Tryz.isAgg2
 z2 := Tryz.sizeOf2
 v2 := Tryz.zeroValue2
 t3 := Tryz.underlying3
 a3 := Tryz.isAgg3
 z3 := Tryz.sizeOf3
 v3 := Tryz.zeroValue3
 t4 := Tryz.underlying4
 a4 := Tryz.isAgg4
 z4 := Tryz.sizeOf4
 v4 := Tryz.zeroValue4
 t5 := Tryz.underlying5
 a5 := Tryz.isAgg5
 z5 := Tryz.sizeOf5
 v5 := Tryz.zeroValue5
 t9 := Tryz.underlying9
 a9 := Tryz.isAgg9
 z9 := Tryz.sizeOf9
 v9 := Tryz.zeroValue9
 t20 := Tryz.underlying20
 a20 := Tryz.isAgg20
 z20 := Tryz.sizeOf20
 v20 := Tryz.zeroValue20
 t37 := Tryz.underlying89
 a37 := Tryz.isAgg89
 z37 := Tryz.sizeOf89
 v37 := Tryz.zeroValue89
 t46 := Tryz.underlying200
 a46 := Tryz.isAgg200
 z46 := Tryz.sizeOf200
 v46 := Tryz.zeroValue200
 t51 := Tryz.underlying209
 a51 := Tryz.isAgg209
 z51 := Tryz.sizeOf209
 v51 := Tryz.zeroValue209
 t53 := Tryz.underlying184
 a53 := Tryz.isAgg184
 z53 := Tryz.sizeOf184
 v53 := Tryz.zeroValue184
 t171 := Tryz.underlying183
 a171 := Tryz.isAgg183
 z171 := Tryz.sizeOf183
 v171 := Tryz.zeroValue183
 t173 := Tryz.underlying187
 a173 := Tryz.isAgg187
 z173 := Tryz.sizeOf187
 v173 := Tryz.zeroValue187
 t212 := Tryz.underlying208
 a212 := Tryz.isAgg208
 z212 := Tryz.sizeOf208
 v212 := Tryz.zeroValue208
 t213 := Tryz.underlying210
 a213 := Tryz.isAgg210
 z213 := Tryz.sizeOf210
 t232 := Tryz.underlying249
 a232 := Tryz.isAgg249
 z232 := Tryz.sizeOf249
 v232 := Tryz.zeroValue249
 t233 := Tryz.underlying250
 a233 := Tryz.isAgg250
 z233 := Tryz.sizeOf250
 v233 := Tryz.zeroValue250
 g17 := by kernel_rfl
 g18 := by kernel_rfl
 g19 := by kernel_rfl
 i0 := by kernel_rfl
 i2 := by kernel_rfl
 i3 := by kernel_rfl
 i4 := by kernel_rfl
 i5 := by kernel_rfl
 i9 := by kernel_rfl
 i20 := by kernel_rfl
 i37 := by kernel_rfl
 i46 := by kernel_rfl
 i51 := by kernel_rfl
 i53 := by kernel_rfl
 i171 := by kernel_rfl
 i173 := by kernel_rfl
 i212 := by kernel_rfl
 i232 := by kernel_rfl
 i233 := by kernel_rfl
 m17 := by kernel_rfl
 m18 := by kernel_rfl
 m19 := by kernel_rfl }
end Go.Proofs
open Go Go.Proofs Go.Proofs.Mv.V Go.RowKit
set_option maxRecDepth 10000
namespace Go.Proofs.Mv.App
theorem joinX : Builder.Extra Tryz.prog Tryz.laysJoin_ren where
 sizeBuilder := by kernel_rfl
 liesBuilder := by kernel_rfl
 t5 := Tryz.laysItoa.t5
 a5 := Tryz.laysItoa.a5
 z5 := Tryz.laysItoa.z5
 v5 := Tryz.laysItoa.v5
 infoByte := by kernel_rfl
 cellsByte := by kernel_rfl
 sizeByte := by kernel_rfl
 neB5 := by decide
theorem txt_cells {w : World} {ν : Nu} {F : Nat → Prop} {b : Nat} : ∀ (ss : List (List UInt8)) (o : Nat), ConEs w ν F 1 (ss.map fun s => [S s]) b o →
  ∀ (j : Nat) (x : ByteArray), (ss.map ofL)[j]? = some x → w.cell? ⟨b, o + j, none⟩ = some (.string x)
 | [], _, _, j, x, h => by simp at h
 | s :: ss, o, h, j, x, hx => by
  simp only [List.map_cons, ConEs, ConCs] at h
  obtain ⟨_, ⟨⟨y, hc, _, hy⟩, _⟩, h3⟩ := h
  cases j with
  | zero =>
   simp only [List.map_cons, List.getElem?_cons_zero, Option.some.injEq] at hx
   subst hx
   simp only [Con, S] at hy
   subst hy; exact hc
  | succ j =>
   have := txt_cells ss (o + 1) h3 j x (by simpa using hx)
   rw [show o + (j + 1) = o + 1 + j by omega]; exact this
theorem joinB_lib (sep : List UInt8) : ∀ l : List (List UInt8), joinB sep l = Lib.join l sep
 | [] => rfl
 | [s] => by simp [joinB, Lib.join_one]
 | s :: t :: r => by
  have := joinB_lib sep (t :: r)
  rw [Lib.join_cons] at this ⊢
  rw [show joinB sep (s :: t :: r) = s ++ sep ++ joinB sep (t :: r) from rfl, this]
  simp [Lib.joinTail]
theorem cJoin {ss : List (List UInt8)} {d : D} {m : Mem} (hL : Lst m 1 (ss.map fun s => [S s]) d) (sep : List UInt8) (hl : ss.length ≤ 1000000) (hj : (joinB sep ss).length ≤ 140737488355328) (n : Nat) :
  ACalls Tryz.prog 93 [d, S sep] m n (fun d' m' n' => d' = S (joinB sep ss) ∧ m' = m ∧ n' = n) := by
 refine acalls_lib ⟨_, Tryz.func93, by kernel_rfl, by kernel_rfl⟩ fun w ν F vals hst hv => ?_
 obtain ⟨x, y, rfl, h1, h2⟩ := conVs_arr2 hv
 simp only [Con, S] at h2
 subst h2
 rw [joinB_lib] at hj ⊢
 have done : ∀ {e : Ending} {w' : World}, e = .returned (.string (ofL (Lib.join ss sep))) → Below w.heap.size w w' → ∃ v, e = .returned v ∧ Below w.heap.size w w' ∧ ∃ d, Con w' ν F d v ∧ d = S (Lib.join ss sep) ∧ m = m ∧ n = n :=
  fun h hb => ⟨_, h, hb, _, by simp [Con, S], rfl, rfl, rfl⟩
 rcases hL with ⟨h0, hd⟩ | ⟨k, g, es', rfl, hm, hle, ht⟩
 ·obtain rfl : ss = [] := by simpa using h0
  have : ∃ a, x = .slice a 0 0 := by
   rcases hd with rfl | rfl
   ·exact ⟨none, by simpa [Con] using h1⟩
   ·simpa [Con] using h1
  obtain ⟨a, rfl⟩ := this
  refine Calls.mono (show Calls Tryz.prog 93 _ _ _ from Any.strings_Join_none Tryz.laysJoin joinX a 0 (ofL sep) w) ?_
  rintro e w' ⟨rfl, rfl⟩
  exact done rfl (Below.refl _ _)
 ·simp only [Con] at h1
  obtain ⟨l, b, off, c, hl1, hg, hlz, rfl, hn, he⟩ := h1
  obtain ⟨l2, arr, e, f, q1, q2, q3, q4, q5, q6, q7⟩ := hst.mem.at_ k _ hm
  rw [hl1] at q1; obtain rfl := Option.some.inj q1
  simp only at q2 q3 q7
  obtain ⟨rfl, hoff, arr2, e2, f2, ha2, hsz2⟩ := he q2
  have hlt : l.b < w.heap.size := (Array.getElem?_eq_some_iff.1 q4).1
  have hml : (ss.map ofL).length = ss.length := by simp
  have hmm : (ss.map ofL).map (·.data.toList) = ss := by
   rw [List.map_map]; exact List.map_id' _
  have hcells : ∀ (j : Nat) (x : ByteArray), (ss.map ofL)[j]? = some x → w.cell? ⟨l.b, off + j, none⟩ = some (.string x) := by
   intro j x hx
   have hfirst : ConEs w ν F 1 (ss.map fun s => [S s]) l.b 0 := by
    rw [← ht]; exact conEs_take q7 _
   have := txt_cells ss 0 hfirst j x hx
   have hj : j < ss.length := by
    have := (List.getElem?_eq_some_iff.1 hx).1; simpa using this
   have ho : off = 0 := by
    rcases hoff with h | h
    ·omega
    ·exfalso; rw [h] at hn; simp only [List.length_map] at hn; omega
   rw [ho]; exact this
  have hln : (ss.map fun s => [S s]).length = (ss.map ofL).length := by simp
  rw [hln] at hn ⊢
  refine Calls.mono (show Calls Tryz.prog 93 _ _ _ from Any.strings_Join Tryz.laysJoin joinX l.b off c (ss.map ofL) (ofL sep) w hcells hlt (by omega) hn (by rw [hmm]; exact hj)) ?_
  rintro e w' ⟨rfl, hb⟩
  refine done ?_ hb
  rw [hmm]; rfl
theorem digitsF_lib : ∀ (f n : Nat), n < 10 ^ f → 1 ≤ f → digitsF f n = Lib.decDigits n
 | 0, _, _, h => by omega
 | f + 1, n, h, _ => by
  rw [Lib.decDigits, digitsF]
  split
  ·rfl
  ·have hf : n / 10 < 10 ^ f := by rw [Nat.pow_succ] at h; omega
   have : 1 ≤ f := by
    cases f with
    | zero => simp at h; omega
    | succ f => omega
   rw [digitsF_lib f (n / 10) hf this]
theorem digits_lib {n : Nat} (h : n ≤ 9223372036854775807) : digits n = Lib.decDigits n := digitsF_lib 20 n (Nat.lt_of_le_of_lt h (by decide)) (by decide)
theorem cItoa {i : Int} (h0 : 0 ≤ i) (h1 : i ≤ 9223372036854775807) (m : Mem) (n : Nat) : ACalls Tryz.prog 54 [I i] m n (fun d m' n' => d = S (digits i.toNat) ∧ m' = m ∧ n' = n) := by
 refine acalls_lib ⟨_, Tryz.func54, by kernel_rfl, by kernel_rfl⟩ fun w ν F vals hst hv => ?_
 obtain ⟨x, rfl, h2⟩ := conVs_arr1 hv
 simp only [Con, I] at h2
 subst h2
 refine Calls.mono (show Calls Tryz.prog 54 _ _ _ from Any.strconv_Itoa Tryz.laysItoa i (by omega) h1 w hst.gi.c3) ?_
 rintro e w' ⟨rfl, k, os, rfl⟩
 refine ⟨_, rfl, ?_, S (digits i.toNat), ?_, rfl, rfl, rfl⟩
 ·exact ⟨rfl, rfl, rfl, by simp [Go.Sort.grow, World.drewN], fun b hb => Go.Sort.heap_grow_old (w.drewN k) os hb⟩
 ·simp only [Con, S]
  rw [digits_lib (by omega)]
  simp only [Lib.itoa, if_neg (show ¬ i < 0 by omega)]
  rfl
end Go.Proofs.Mv.App
open Go Go.Proofs Go.Proofs.Mv.V Go.RowKit Go.Sort Go.Lib
set_option maxRecDepth 100000
namespace Go.Proofs.Mv.App
theorem holds_zero0 (w : World) (T : TypeId) (nd : Nat) (hs : nd ≤ 24) : Holds (fun (b : UInt8) => Value.int .u8 (b.toNat : Int)) (w.alloc (.cells Lib.zeros24 T)) w.heap.size 0 (Array.replicate nd (0 : UInt8)) := fun j hj => by
 have hj' : j < nd := by simpa using hj
 refine ⟨?_, World.frozen?_alloc_new _ _ _ _⟩
 rw [World.cell?_alloc_new, Lib.zeros24_at _ (by omega), getElem!_pos _ j hj]
 simp
theorem fin_pos0 (w : World) (o : Obj) (dk : Array UInt8) (k : Nat) : ∃ os, (putRow (fun (b : UInt8) => Value.int .u8 (b.toNat : Int)) (w.alloc o) w.heap.size 0 dk).drewN k = grow (w.drewN k) os := by
 rw [alloc_eq_grow]
 obtain ⟨os', _, e⟩ := putRow_grow_new (fun (b : UInt8) => Value.int .u8 (b.toNat : Int)) w #[o] w.heap.size 0 dk (Nat.le_refl _)
 exact ⟨os', by rw [e]; rfl⟩
set_option maxHeartbeats 6400000 in
theorem wFormatUint (u : Nat) (hu64 : u < 18446744073709551616) (w : World) (htab : Lib.TabIs Tryz.prog w "internal/strconv.uint64pow10" .u64 Lib.pow10Tab) :
  Calls Tryz.prog 204 #[.int .u64 u, .int .i64 10] w fun e w' => e = .returned (.string ⟨(Lib.decDigits u).toArray⟩) ∧ ∃ k os, w' = grow (w.drewN k) os := by
 have L : LaysM.n171 Tryz.prog Tryz.laysItoa_ren := Tryz.laysItoa
 by_cases hs : u < 100
 ·have hc : ∀ W, Calls Tryz.prog 166 #[.int .i64 u] W fun e w' => e = .returned (.string ⟨(Lib.decDigits u).toArray⟩) ∧ w' = W := fun W => Any.internal_strconv_small (ρ := Tryz.laysItoa_ren) { L with } u hs W
  have hcv : IntKind.i64.wrap (u : Int) = (u : Int) := wrap_i64 (by omega) (by omega)
  go_enter Tryz.func204, Tryz.ntmps204
  go_wp2_with (go_at_call 166; refine (hc _).mono ?_; rintro e w' ⟨rfl, rfl⟩)
  go_ret
  exact ⟨rfl, 0, #[], by simp [World.drewN_zero]⟩
 ·have hu1 : 1 ≤ u := by omega
  have hnd20 : Lib.nDigits u ≤ 20 := by have := Lib.numDigits_eq u hu1 hu64; split at this <;> omega
  have hb3 : Lib.nDigits u ≤ 24 := by omega
  have hal : Tryz.prog.arrayLen 183 = 24 := by kernel_rfl
  have hsl1 : ∀ W, (Instr.sliceAt 183 (.pointer (some ⟨w.heap.size, 0, none⟩)) none (some (.int .i64 (Lib.nDigits u : Int))) none).run Tryz.prog W = .ok (.slice (some ⟨w.heap.size, 0, none⟩) (Lib.nDigits u) 24) W := fun W => by
   rw [run_sliceAt_array_h W 183 ⟨w.heap.size, 0, none⟩ (by simp [Program.arrayLen, Program.elem, Tryz.laysItoa.t171]) .i64 (Lib.nDigits u : Int) (by omega) (by rw [hal]; omega)]
   go_simp
  have hH0 := holds_zero0 w 183 (Lib.nDigits u) (by omega)
  have hnum : ∀ W, Lib.TabIs Tryz.prog W "internal/strconv.uint64pow10" .u64 Lib.pow10Tab → Calls Tryz.prog 167 #[.int .u64 u] W fun e w' => e = .returned (.int .i64 (Lib.nDigits u)) ∧ w' = W := fun W h => Any.internal_strconv_numDigits (ρ := Tryz.laysItoa_ren) { L with } u hu1 hu64 W h
  have hfmt : Calls Tryz.prog 168 #[.slice (some ⟨w.heap.size, 0, none⟩) (Array.replicate (Lib.nDigits u) (0 : UInt8)).size 24, .int .u64 u] (w.alloc (.cells Lib.zeros24 183)) fun e w' =>
   e = .returned (.tuple #[]) ∧ ∃ (n v' : Nat) (dk : Array UInt8), w' = (putRow (fun (b : UInt8) => Value.int .u8 (b.toNat : Int)) (w.alloc (.cells Lib.zeros24 183)) w.heap.size 0 dk).drewN n ∧ FmtInv (Array.replicate (Lib.nDigits u) (0 : UInt8)).size u 0 v' dk :=
   Any.internal_strconv_formatBase10 (ρ := Tryz.laysItoa_ren) { L with } w.heap.size 0 24 u (Array.replicate (Lib.nDigits u) 0) (w.alloc (.cells Lib.zeros24 183)) hH0 (by rw [Array.size_replicate]; exact Lib.lt_pow_nDigits u) hu64 (by rw [Array.size_replicate]; omega)
  rw [Array.size_replicate] at hfmt
  have HH0 := Lib.hid hH0
  clear hH0 hal
  go_enter Tryz.func204, Tryz.ntmps204
  go_wp2_with (go_at_call 167; refine (hnum _ (Lib.tabIs_alloc htab _)).mono ?_; rintro e w' ⟨rfl, rfl⟩)
  go_at_call 168
  refine hfmt.mono ?_
  rintro e w' ⟨rfl, k, v', dk, rfl, hF⟩
  have hcv : (convert 89 9 (.slice (some ⟨w.heap.size, 0, none⟩) (Lib.nDigits u) 24)).run Tryz.prog ((putRow (fun (b : UInt8) => Value.int .u8 (b.toNat : Int)) (w.alloc (.cells Lib.zeros24 183)) w.heap.size 0 dk).drewN k) = .ok (.string ⟨(Lib.decDigits u).toArray⟩) ((putRow (fun (b : UInt8) => Value.int .u8 (b.toNat : Int)) (w.alloc (.cells Lib.zeros24 183)) w.heap.size 0 dk).drewN k) := by
   have h := run_convert_bytes_back (P := Tryz.prog) ((putRow (fun (b : UInt8) => Value.int .u8 (b.toNat : Int)) (w.alloc (.cells Lib.zeros24 183)) w.heap.size 0 dk).drewN k) 89 9 5 ⟨w.heap.size, 0, none⟩ 24 (Lib.decDigits u) Tryz.laysItoa.t37 Tryz.laysItoa.t5 Tryz.laysItoa.t9 (fun j hj => by
    rw [Lib.row_is_numeral hF j hj, Lib.add_plain, World.cell?_drewN]
    exact cell?_putRow (fun (b : UInt8) => Value.int .u8 (b.toNat : Int)) _ w.heap.size 0 _ dk HH0.out (by rw [hF.size, Array.size_replicate]) j (by rw [hF.size]; rw [Lib.decDigits_length] at hj; exact hj))
   rw [Lib.decDigits_length] at h
   exact h
  go_wp2
  go_ret
  obtain ⟨os, eo⟩ := fin_pos0 w (.cells Lib.zeros24 183) dk k
  exact ⟨rfl, k, os, eo⟩
set_option maxHeartbeats 1000000 in
theorem cFormatUint {u : Nat} (h1 : u ≤ 9223372036854775807) (m : Mem) (n : Nat) : ACalls Tryz.prog 175 [.v (.int .u64 u), I 10] m n (fun d m' n' => d = S (digits u) ∧ m' = m ∧ n' = n) := by
 refine acalls_lib ⟨_, Tryz.func175, by kernel_rfl, by kernel_rfl⟩ fun w ν F vals hst hv => ?_
 obtain ⟨x, y, rfl, h2, h3⟩ := conVs_arr2 hv
 simp only [Con, I] at h2 h3
 subst h2; subst h3
 have hc : ∀ W, Lib.TabIs Tryz.prog W "internal/strconv.uint64pow10" .u64 Lib.pow10Tab → Calls Tryz.prog 204 #[.int .u64 u, .int .i64 10] W fun e w' => e = .returned (.string ⟨(Lib.decDigits u).toArray⟩) ∧ ∃ k os, w' = grow (W.drewN k) os := fun W h => wFormatUint u (by omega) W h
 have htab := hst.gi.c3
 refine Calls.mono (show Calls Tryz.prog 175 #[.int .u64 u, .int .i64 10] w fun e w' => e = .returned (.string ⟨(Lib.decDigits u).toArray⟩) ∧ ∃ k os, w' = grow (w.drewN k) os from ?_) ?_
 ·go_enter Tryz.func175, Tryz.ntmps175
  go_wp2_with (go_at_call 204; refine (hc _ htab).mono ?_; rintro e w' ⟨rfl, k, os, rfl⟩)
  go_ret
  exact ⟨rfl, _, _, rfl⟩
 rintro e w' ⟨rfl, k, os, rfl⟩
 refine ⟨_, rfl, ?_, S (digits u), ?_, rfl, rfl, rfl⟩
 ·exact ⟨rfl, rfl, rfl, by simp [Go.Sort.grow, World.drewN], fun b hb => Go.Sort.heap_grow_old (w.drewN k) os hb⟩
 ·simp only [Con, S]
  rw [digits_lib (by omega)]
  rfl
end Go.Proofs.Mv.App
open Go Go.Proofs Go.Proofs.Mv.V
set_option maxRecDepth 10000
namespace Go.Proofs.Mv.App
def dgX (s : List UInt8) : Int := match okU (Lib.parseUintB 32 s) with
 | some u => if u ≤ 999999999 then (if digits u = s then (u : Int) else -1) else -1
 | none => -1
set_option maxHeartbeats 2000000 in
theorem cDigits (s : List UInt8) (hs : s.length ≤ 1000000000) : Pc Tryz.prog 140 [S s] (I (dgX s)) := by
 refine pc_of (pur_I _) (fun m n => ?_)
 refine acalls_vc [0, 2, 3, 4, 21] Tryz.func140 Tryz.ntmps140 (by kernel_rfl) rfl rfl (by simp) ?_
 simp -dsimp [S]
 refine aCall_of (cParseUint s hs _ _) ?_
 rintro d m2 n2 ⟨x, e, rfl, hx, rfl, rfl⟩
 cases hu : okU (Lib.parseUintB 32 s) with
 | none =>
  rw [hu] at hx
  obtain ⟨t, rfl⟩ := hx
  simp -dsimp [S, I]
  exact pcq' (by simp [dgX, hu, I])
 | some u =>
  rw [hu] at hx
  obtain ⟨rfl, rfl⟩ := hx
  by_cases u2 : 999999999 < (u : Int)
  ·simp -dsimp [S, I, u2, nilE]
   exact pcq' (by simp [dgX, hu, I, show ¬ u ≤ 999999999 by omega])
  ·simp -dsimp [S, I, u2, nilE]
   refine aCall_of (cFormatUint (u := u) (by omega) _ _) ?_
   rintro d m3 n3 ⟨rfl, rfl, rfl⟩
   by_cases e : digits u = s
   ·subst e
    have wu : IntKind.i64.wrap (u : Int) = u := wrap_i64 (by omega) (by omega)
    simp -dsimp [S, I, nilE, wu]
    exact pcq' (by simp [dgX, hu, I, show u ≤ 999999999 by omega])
   ·have e2 : (digits u == s) = false := by simpa using e
    simp -dsimp [S, I, nilE, e2]
    exact pcq' (by simp [dgX, hu, I, show u ≤ 999999999 by omega, e])
theorem dgX_digits (n : Nat) (h : n ≤ 999999999) : dgX (digits n) = (n : Int) := by
 have : okU (Lib.parseUintB 32 (digits n)) = some n := by
  rcases Nat.eq_zero_or_pos n with rfl | h1
  ·kernel_rfl
  ·obtain ⟨d1, d2⟩ := digits_ok h1 h
   rw [(of_numOk d1).1, d2]; rfl
 simp [dgX, this, h]
end Go.Proofs.Mv.App
