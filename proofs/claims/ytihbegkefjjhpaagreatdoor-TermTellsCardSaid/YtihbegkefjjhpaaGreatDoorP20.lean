/- A part of the proofs: machine, contracts, laws. No condition of its own. -/
import Derived.Test.YtihbegkefjjhpaaGreatDoorP19
import Derived.Test.YtihbegkefjjhpaaGreatDoorP00
import Derived.Test.YtihbegkefjjhpaaGreatDoorMvEvL
import Derived.Test.YtihbegkefjjhpaaGreatDoorP15
import Derived.Test.YtihbegkefjjhpaaGreatDoorP03
import Derived.Test.YtihbegkefjjhpaaGreatDoorP02
import Derived.KernelRfl
import Derived.Test.YtihbegkefjjhpaaGreatDoorP08
import Derived.Test.YtihbegkefjjhpaaGreatDoorP13
import Derived.Test.YtihbegkefjjhpaaGreatDoorP09
set_option linter.unusedSimpArgs false
set_option linter.unusedVariables false
set_option linter.unusedSectionVars false
open Go Go.Proofs Go.Proofs.Mv.V
set_option maxRecDepth 10000
namespace Go.Proofs.Mv.App
def atRes [GI] (t : Tm) (q : PS) (b : Bool) : D := if q.bad = 0 then (if b then .tup [.agg (tmD t), I q.at_, nilE] else .tup [.agg (tmD Tm0), I 0, spotE 0 3]) else .tup [.agg (tmD Tm0), I 0, spotE q.cnt q.bad]
theorem pub_tm0 {n : Nat} {m : Mem} : PubAs n m (.agg [.v (.int .i64 0), .v (.int .i64 0), .v (.string (ofL [])), .v (.string (ofL [])), .v (.slice none 0 0), .v (.slice none 0 0), .v (.slice none 0 0), .v (.slice none 0 0)]) (.agg (tmD Tm0)) := by
  rw [tmD_zero]
  exact .agg (.cons (pur_I _).pub (.cons (pur_I _).pub (.cons (pur_S _).pub (.cons (pur_S _).pub (.cons (pub_nil 1) (.cons (pub_nil 1) (.cons (pub_nil 7) (.cons (pub_nil 8) .nil))))))))
set_option maxHeartbeats 8000000 in
theorem cTAt {l : List Tok} (hl : TkOk l) (hfn : FunC l) {dg : List UInt8 → Int} (hD : ∀ t ∈ l, t.kind = 3 → Pc Tryz.prog 140 [S t.text] (I (dg t.text))) (hw : ∀ t ∈ l, t.kind = 1 → t.text ≠ wIf ∧ t.text ≠ wCase) {f : Nat} (hf : f ≤ 100000) {t : Tm} {q : PS} (hrun : termO l dg f 0 ⟨0, 0, 0⟩ = some (t, q)) {b : Bool} (hMay : q.bad = 0 → Pc Tryz.prog 14 [.agg (tmD t)] (Tt b)) :
    Pc Tryz.prog 35 [toksD l, I 0] (atRes t q b) := by
  intro m n
  refine acalls_done (R' := Hq (fun d m' n' => PubAs n m' d (atRes t q b) ∧ ∀ j, j < n → m' j = m j) tg) ?_ ?_
  · have hll : (l.map tokD).length = l.length := by simp
    have nn1 : n ≠ n + 1 := by omega
    have n1n : n + 1 ≠ n := by omega
    have n2n : n + 1 + 1 ≠ n := by omega
    have nn2 : n ≠ n + 1 + 1 := by omega
    have n21 : n + 1 + 1 ≠ n + 1 := by omega
    have n12 : n + 1 ≠ n + 1 + 1 := by omega
    have hn1 : n + 1 < n + 1 + 1 := by omega
    have nn3 : n ≠ n + 1 + 1 + 1 := by omega
    have n3n : n + 1 + 1 + 1 ≠ n := by omega
    have h8 := tmD_len
    have hT : toksD l = .sl 3 (l.map tokD) := rfl
    have hobj : (⟨4, [[toksD l, .v (.int .i64 0), .v (.int .i64 0), .v .nilIface]], 0⟩ : V.Obj) = pTObj l 0 ⟨0, 0, 0⟩ := by simp [pTObj, pTC, errS, I, nilE]
    have hlt : ¬ ((l.length : Int) < 0) := by omega
    have rc := cTTerm hl hfn hD hw f hf 0 (by omega) _ _ _ hrun (n + 1)
    refine acalls_vcC [0, 1, 4, 5, 6, 7, 8, 20, 30, 41] Tryz.func35 Tryz.ntmps35 (by kernel_rfl) rfl rfl (by simp) ?_
    generalize hL : l.map tokD = L at hll hT
    simp -dsimp [I, hT, hll, hlt]
    rw [← hT, hobj]
    refine aCall_of (rc _ _ (by omega) (by simp)) ?_
    rintro d m' n' ⟨⟨t', rfl, ht'⟩, rfl, rfl⟩
    by_cases hb : q.bad = 0
    · obtain rfl := ht' hb
      have hMay := hMay hb
      have hpo : pTObj l 0 q = ⟨4, [[toksD l, .v (.int .i64 q.at_), .v (.int .i64 0), .v .nilIface]], 0⟩ := by simp [pTObj, pTC, errS, hb, I, nilE]
      rw [hpo]
      simp -dsimp [set_ne, nn1, n1n, n2n, nn2, n21, n12, h8]
      refine pcall hMay ?_
      cases b with
      | false =>
        simp -dsimp [Tt, set_ne, nn1, n1n, n2n, nn2, n21, n12, h8, code, nn3, n3n]
        refine hq ⟨?_, fun j hj => by simp [set_ne, show j ≠ n by omega, show j ≠ n + 1 by omega, show j ≠ n + 1 + 1 by omega, show j ≠ n + 1 + 1 + 1 by omega]⟩
        rw [atRes, if_pos hb, if_neg (by simp)]
        exact pub_three pub_tm0 (pur_I _).pub (.iface (.ptr (z := 2) (g := 0) (cs := [.v (.int .i64 0), .iface 39 (.v (.int .i64 3))]) (by simp [set_ne, n3n]) (by omega) (.cons (pur_I _).pub (.cons (pur_code _).pub .nil))))
      | true =>
        simp -dsimp [Tt, set_ne, nn1, n1n, n2n, nn2, n21, n12, h8]
        refine vdraw_tree [0, 0, 2, 6, 14, 1, 63, 127] (.rd 0 (.rd 1 (.rd 2 (.rd 3 (.rd 4 (.wr (.cons 5 (.rd 6 (.rd 7 (.fin))) (.nil)))))))) (by kernel_rfl) (by kernel_rfl) ?_
        simp -dsimp [Tt, set_ne, nn1, n1n, n2n, nn2, n21, n12, h8]
        refine hq ⟨?_, fun j hj => by simp [set_ne, show j ≠ n by omega, show j ≠ n + 1 by omega, show j ≠ n + 1 + 1 by omega, show j ≠ n + 1 + 1 + 1 by omega]⟩
        rw [atRes, if_pos hb, if_pos rfl]
        exact pub_three (.agg (pubL_pur (pur_tm t'))) (pur_I _).pub (Pur.v _).pub
    · have hpo : pTObj l 0 q = ⟨4, [[toksD l, .v (.int .i64 q.at_), .v (.int .i64 0), spotE q.cnt q.bad]], 0⟩ := by simp [pTObj, pTC, errS, hb, I]
      rw [hpo]
      simp -dsimp [set_ne, nn1, n1n, n2n, nn2, n21, n12, h8, spotE]
      refine vdraw_tree [0, 0, 2, 6, 14, 1, 33, 127] (.rd 0 (.rd 1 (.rd 2 (.rd 3 (.rd 4 (.wr (.cons 5 (.rd 6 (.rd 7 (.fin))) (.nil)))))))) (by kernel_rfl) (by kernel_rfl) ?_
      simp -dsimp [set_ne, nn1, n1n, n2n, nn2, n21, n12, h8, spotE]
      refine hq ⟨?_, fun j hj => by simp [set_ne, show j ≠ n by omega, show j ≠ n + 1 by omega, show j ≠ n + 1 + 1 by omega, show j ≠ n + 1 + 1 + 1 by omega]⟩
      rw [atRes, if_neg hb]
      exact pub_three pub_tm0 (pur_I _).pub (pur_spotE q.cnt q.bad).pub
  · rintro d m' n' ⟨h1, h2⟩
    exact ⟨_, h1, h2, rfl⟩
end Go.Proofs.Mv.App
open Go Go.Proofs Go.Proofs.Mv.V
set_option maxRecDepth 10000
namespace Go.Proofs.Mv.App
def tokRes (s : List UInt8) : D := if 20000 < s.length then .tup [.sl 3 [], code 3] else match (toksAt s 0).2 with | some a => .tup [.sl 3 [], spotE a 2] | none => .tup [.sl 3 ((toksAt s 0).1.map tokD), nilE]
def tx1 : List UInt8 := [40, 102, 110, 40, 120, 58, 32, 73, 110, 116, 41, 32, 120, 41, 40, 49, 41, 46, 97]
def tx2 : List UInt8 := [123, 97, 32, 61, 32, 49, 44, 32, 97, 32, 61, 32, 50, 125]
def tm1 : Tm := .mk 6 0 [] [97] [] [] [] [.mk 9 0 [] [] [] [] [] [.mk 8 0 [] [] [[120]] [] [.mk 1 [] 0 [] [] [] []] [.mk 3 0 [] [120] [] [] [] []], .mk 1 1 [] [] [] [] [] []]]
theorem tm1_w : TmW tm1 := by
  have w0 : ∀ {k N : Int} {s : List UInt8}, s.length ≤ 9 → TmW (.mk k N [] s [] [] [] []) := fun h => .mk _ _ _ _ _ _ _ _ (by simp) (by simp) (by simp) (by simp) (by simp) (by omega) (by simp) (by simp) (by simp) (by simp)
  refine .mk _ _ _ _ _ _ _ _ (by simp) (by simp) (by simp) (by simp) (by simp) (by simp) (by simp) (by simp) (by simp) ?_
  intro t ht
  simp only [List.mem_singleton] at ht
  subst ht
  refine .mk _ _ _ _ _ _ _ _ (by simp) (by simp) (by simp) (by simp) (by simp) (by simp) (by simp) (by simp) (by simp) ?_
  intro t ht
  simp only [List.mem_cons, List.not_mem_nil, or_false] at ht
  rcases ht with rfl | rfl
  · refine .mk _ _ _ _ _ _ _ _ (by simp) (by simp) (by simp) (by simp) (by simp) (by simp) (by simp) (by simp) ?_ ?_
    · intro y hy
      simp only [List.mem_singleton] at hy
      subst hy
      exact .mk _ _ _ _ _ _ _ (by simp) (by simp) (by simp) (by simp) (by simp) (by simp) (by simp)
    · intro t ht
      simp only [List.mem_singleton] at ht
      subst ht
      exact w0 (by simp)
  · exact w0 (by simp)
theorem tm1_may : mayTm tm1 = true := by kernel_rfl
theorem tm1_text : textTm tm1 = tx1 := by kernel_rfl
def dgN (s : List UInt8) : Int := if s = [49] then 1 else if s = [50] then 2 else -1
def lt2 : List Tok := [⟨4, 0, [123]⟩, ⟨1, 1, [97]⟩, ⟨4, 3, [61]⟩, ⟨3, 5, [49]⟩, ⟨4, 6, [44]⟩, ⟨1, 8, [97]⟩, ⟨4, 10, [61]⟩, ⟨3, 12, [50]⟩, ⟨4, 13, [125]⟩]
theorem tok2 : toksAt tx2 0 = (lt2, none) := by kernel_rfl
theorem dg1 : Pc Tryz.prog 140 [S [49]] (I 1) := fun m n => run_at 200 20 (by rfl) (by kernel_rfl) m n
theorem dg2 : Pc Tryz.prog 140 [S [50]] (I 2) := fun m n => run_at 200 20 (by rfl) (by kernel_rfl) m n
theorem ok2 : TkOk lt2 := ⟨by simp [lt2], by simp [lt2]⟩
theorem par2 : (termO lt2 dgN 30 0 ⟨0, 0, 0⟩).map (·.2) = some ⟨5, 5, 5⟩ := by kernel_rfl
theorem hd2 : ∀ t ∈ lt2, t.kind = 3 → Pc Tryz.prog 140 [S t.text] (I (dgN t.text)) := by
  intro t ht hk
  simp only [lt2, List.mem_cons, List.not_mem_nil, or_false] at ht
  rcases ht with rfl | rfl | rfl | rfl | rfl | rfl | rfl | rfl | rfl <;> first | exact dg1 | exact dg2 | exact absurd hk (by decide)
theorem hw2 : ∀ t ∈ lt2, t.kind = 1 → t.text ≠ wIf ∧ t.text ≠ wCase := by decide
theorem cAt2 : Pc Tryz.prog 35 [toksD lt2, I 0] (.tup [.agg (tmD Tm0), I 0, spotE 5 5]) := by
  cases h : termO lt2 dgN 30 0 ⟨0, 0, 0⟩ with
  | none => have := par2; rw [h] at this; cases this
  | some r =>
  obtain ⟨t, q⟩ := r
  have h2 := par2
  rw [h] at h2
  simp only [Option.map_some, Option.some.injEq] at h2
  subst h2
  have := cTAt ok2 (funC_none (by decide)) hd2 hw2 (f := 30) (by omega) h (b := true) fun h => absurd h (by decide)
  exact this
def ans1 : List AnsE := [⟨34, [S tx1], tokRes tx1⟩, ⟨34, [S tx2], .tup [toksD lt2, nilE]⟩, ⟨14, [.agg (tmD tm1)], Tt true⟩, ⟨35, [toksD lt2, I 0], .tup [.agg (tmD Tm0), I 0, spotE 5 5]⟩, ⟨10, [.agg (tmD tm1)], .tup [S tx1, nilE]⟩, ⟨28, [spotE 5 5, I 5, I 5], Tt true⟩]
theorem ans1_cs : CS Tryz.prog (orcL ans1) := by
  refine orcL_cs _ fun a ha m n => ?_
  simp only [ans1, List.mem_cons, List.not_mem_nil, or_false] at ha
  rcases ha with rfl | rfl | rfl | rfl | rfl | rfl
  · exact cTokens tx1 m n
  · have := cTokens tx2 m n
    rw [if_neg (by simp [tx2]), tok2] at this
    exact this
  · have := cMayTm tm1_w m n
    rwa [tm1_may] at this
  · exact cAt2 m n
  · have := cPrintTm tm1_w m n
    rw [tm1_may, tm1_text] at this
    exact this
  · exact a_is none 5 5 m n
set_option maxHeartbeats 40000000 in
theorem cUp23 : Pc Tryz.prog 7 [] (Tt true) := fun m n => run_trueN ans1_cs ev_mixed ev_names (fun _ => false) 200 40 (by kernel_rfl) m n
end Go.Proofs.Mv.App
open Go Go.Proofs Go.Proofs.Mv.V
set_option maxRecDepth 10000
namespace Go.Proofs.Mv.App
theorem byt_dig (k : Nat) : byt (48 + (k : Int)) = UInt8.ofNat (48 + k) := by
  unfold byt
  apply UInt8.toNat_inj.1
  simp only [UInt8.toNat_ofNat']
  omega
set_option maxHeartbeats 1000000 in
theorem cDigits0 (k : Nat) : k ≤ 9223372036854775807 → ∀ (m : Mem) (n : Nat), ACalls Tryz.prog 40 [I k] m n (fun d m' n' => d = S (Lib.decDigits k) ∧ m' = m ∧ n' = n) := by
  induction k using Nat.strongRecOn with
  | _ k ih =>
    intro hb m n
    refine acalls_done (R' := Hq (fun d m' n' => d = S (Lib.decDigits k) ∧ ∀ j, j < n → m' j = m j) tg) ?_ ?_
    · have fr : ∀ o j, j < n → (m.set n o) j = m j := fun o j hj => by rw [set_ne _ _ _ _ (by omega)]
      have hdd := Lib.decDigits.eq_1 k
      by_cases c' : k < 10
      · have c : (k : Int) < 10 := by omega
        rw [dif_pos c'] at hdd
        have w1 : IntKind.i64.wrap (48 + (k : Int)) = 48 + (k : Int) := wrap_i64 (by omega) (by omega)
        refine acalls_vc [0, 2, 4] Tryz.func40 Tryz.ntmps40 (by kernel_rfl) rfl rfl (by simp) ?_
        simp -dsimp [I, c, c', w1]
        exact hq ⟨by rw [hdd, byt_dig]; rfl, fr _⟩
      · have c : ¬ (k : Int) < 10 := by omega
        rw [dif_neg c'] at hdd
        have ek : (k : Int) / 10 = ((k / 10 : Nat) : Int) := by omega
        have hi : ∀ (m : Mem) (n : Nat), ACalls Tryz.prog 40 [I ((k : Int) / 10)] m n (fun d m' n' => d = S (Lib.decDigits (k / 10)) ∧ m' = m ∧ n' = n) := fun m n => by
          rw [ek]; exact ih (k / 10) (by omega) (by omega) m n
        have w2 : IntKind.i64.wrap ((k : Int) / 10) = ((k / 10 : Nat) : Int) := by rw [wrap_i64 (by omega) (by omega)]; omega
        have w1 : IntKind.i64.wrap (48 + (k : Int).tmod 10) = 48 + ((k % 10 : Nat) : Int) := by
          have : (k : Int).tmod 10 = ((k % 10 : Nat) : Int) := rfl
          rw [this]; exact wrap_i64 (by omega) (by omega)
        have hdl : (Lib.decDigits (k / 10)).length ≤ 20 := by rw [← digits_lib (by omega)]; exact digits_len _
        refine acalls_vc [0, 2, 4] Tryz.func40 Tryz.ntmps40 (by kernel_rfl) rfl rfl (by simp) ?_
        simp -dsimp [I, c, c']
        refine vdraw_tree [0, 1, 3, 0, 8, 24, 56, 120, 248, 511, 1023] (.rd 0 (.rd 1 (.rd 3 (.rd 4 (.rd 5 (.rd 6 (.wr (.cons 2 (.wr (.cons 7 (.rd 8 (.rd 9 (.rd 10 (.fin)))) (.nil))) (.cons 7 (.rd 8 (.wr (.cons 2 (.rd 9 (.rd 10 (.fin))) (.nil)))) (.nil)))))))))) (by kernel_rfl) (by kernel_rfl) ?_
        simp -dsimp [I, c, c', w2, w1]
        have fin : ∀ {m2 : Mem} {n2 : Nat} {s : List UInt8}, s = Lib.decDigits (k / 10) ++ [byt (48 + ((k % 10 : Nat) : Int))] → (∀ j, j < n → m2 j = m j) → Hq (fun d m' n' => d = S (Lib.decDigits k) ∧ ∀ j, j < n → m' j = m j) tg (.v (.string (ofL s))) m2 n2 := fun e h => hq ⟨by rw [e, hdd, byt_dig]; rfl, h⟩
        refine ⟨?_, ?_⟩
        · refine aCall_of (hi _ _) ?_
          rintro d m' n' ⟨rfl, rfl, rfl⟩
          simp -dsimp [I, S, c, c', w2, w1]
          exact ⟨by omega, fin (by simp) (fr _)⟩
        · refine aCall_of (hi _ _) ?_
          rintro d m' n' ⟨rfl, rfl, rfl⟩
          simp -dsimp [I, S, c, c', w2, w1]
          exact ⟨by omega, fin (by simp) (fr _)⟩
    · rintro d m' n' ⟨rfl, h⟩
      exact ⟨_, (pur_S _).pub, h, rfl⟩
structure RwInv (l : List Ty) (T : List (List UInt8)) (dn : D) (SL : List (List D)) (q : Nat) (m : Mem) (n : Nat) (i : Nat) (σ : Nat → D) (m2 : Mem) (n2 : Nat) : Prop where
  h0 : σ 0 = .sl 7 SL
  h1 : σ 1 = dn
  h2 : σ 2 = I q
  h7 : σ 7 = S (joinB comma (T.take i))
  h8 : σ 8 = I i
  le : i ≤ q
  mm : m2 = m
  nn : n2 = n
set_option maxHeartbeats 2000000 in
theorem cRow {l : List Ty} {ns : List (List UInt8)} {dn : D} {q : Nat} (hdn : dn = sl1 ns ∧ ns.length = l.length ∨ dn = .v (.slice none 0 0) ∧ ns = []) (H : ∀ t ∈ l, ∀ m n, ACalls Tryz.prog 42 [.agg (tyD t)] m n (fun d m' n' => d = S (textT t) ∧ m' = m ∧ n' = n))
    (hlen : l.length ≤ 1000) (hq : q ≤ l.length) (hb : ((textTs ns l).map fun s => s.length + comma.length).sum ≤ 1000000000) (m : Mem) (n : Nat) :
    ACalls Tryz.prog 68 [.sl 7 (tysD l), dn, I q] m n (fun d m' n' => d = S (joinB comma ((textTs ns l).take q)) ∧ m' = m ∧ n' = n) := by
  have hL2 : (tysD l).length = l.length := by rw [tysD_eq]; simp
  have hG2 : ∀ i (h : i < l.length), (tysD l)[i]? = some (tyD l[i]) := fun i h => by rw [tysD_eq]; simp [h]
  generalize tysD l = SL at hL2 hG2
  have hTl := textTs_len ns l
  have hTn : ns.length = l.length → ∀ i (h : i < l.length) (h' : i < ns.length), (textTs ns l)[i]? = some (ns[i] ++ [58, 32] ++ textT l[i]) := fun e i h h' => textTs_get ns l i h h'
  have hT0 : ns = [] → ∀ i (h : i < l.length), (textTs ns l)[i]? = some (textT l[i]) := fun e i h => by rw [e]; exact textTs_get0 l i h
  have hjs := joinB_sub comma (textTs ns l)
  generalize textTs ns l = T at hTl hTn hT0 hb hjs
  obtain ⟨BB, hBB⟩ : ∃ BB, BB = (T.map fun s => s.length + comma.length).sum := ⟨_, rfl⟩
  rw [← hBB] at hb
  simp only [← hBB] at hjs
  clear hBB
  refine acalls_vc [0, 1, 2, 6, 7, 8, 11, 15, 20] Tryz.func68 Tryz.ntmps68 (by kernel_rfl) rfl rfl (by simp) ?_
  simp -dsimp [I, S]
  refine vloop_of (β := Nat) (RwInv l T dn SL q m n) (fun i => q - i) 0 ⟨by simp, by simp, by simp [I], by simp [S, joinB], by simp [I], by omega, rfl, rfl⟩ ?_
  rintro i σ m2 n2 ⟨h0, h1, h2, h7, h8, le, rfl, rfl⟩
  by_cases hi : (i : Int) < q
  · have hi' : i < q := by omega
    have hil : i < l.length := by omega
    have wi : IntKind.i64.wrap ((i : Int) + 1) = (i : Int) + 1 := wrap_i64 (by omega) (by omega)
    have w01 : IntKind.i64.wrap 1 = 1 := wrap_i64 (by omega) (by omega)
    have hiN : i < SL.length := by omega
    have hgi : SL[i] = tyD l[i] := get_opt (hG2 i hil) hiN
    have hH := H l[i] (List.getElem_mem hil)
    have h77 := tyD_len l[i]
    generalize tyD l[i] = TT at hgi hH h77
    have ht7 : List.take 7 TT = TT := List.take_of_length_le (by omega)
    have hTi : i < T.length := by omega
    have hj1 := hjs (i + 1)
    have hcl : comma.length = 2 := rfl
    have hj0 := hjs i
    have hsn : joinB comma (T.take (i + 1)) = if i = 0 then T[i] else joinB comma (T.take i) ++ comma ++ T[i] := by
      rw [take_snoc hTi, joinB_snoc]
      by_cases e : i = 0
      · subst e; simp
      · rw [if_neg e, if_neg]
        intro h
        have := congrArg List.length h
        rw [List.length_take] at this; simp only [List.length_nil] at this; omega
    rcases hdn with ⟨rfl, hn⟩ | ⟨rfl, rfl⟩
    · have hpos : (0 : Int) < ns.length := by omega
      have hpos' : 0 < ns.length := by omega
      have hin : i < ns.length := by omega
      have hTe : T[i] = ns[i] ++ [58, 32] ++ textT l[i] := get_opt (hTn hn i hil hin) hTi
      by_cases i0 : i = 0
      · subst i0
        rw [if_pos rfl] at hsn
        rw [hsn, hTe] at hj1
        simp only [List.length_append, List.length_cons, List.length_nil] at hj1
        simp only [List.take_zero, joinB] at h7
        simp -dsimp [h0, h1, h2, h7, h8, I, S, sl1, hi, hi', hpos, hpos', hin, hiN, hgi, h77, ht7]
        refine ⟨by omega, by omega, ?_⟩
        refine aCall_of (hH _ _) ?_
        rintro d m3 n3 ⟨rfl, rfl, rfl⟩
        simp -dsimp [h0, h1, h2, h7, h8, I, S, wi, w01]
        refine ⟨by omega, ?_⟩
        exact ⟨1, by omega, by simp [S], by simp [S, sl1], by simp [I], by rw [show (1 : Nat) = 0 + 1 from rfl, hsn, hTe]; simp [S], by simp [I], by omega, rfl, rfl⟩
      · have i1 : (0 : Int) < i := by omega
        have i1' : 0 < i := by omega
        rw [if_neg i0] at hsn
        rw [hsn, hTe] at hj1
        simp only [List.length_append, List.length_cons, List.length_nil, hcl] at hj1
        simp -dsimp [h0, h1, h2, h7, h8, I, S, sl1, hi, hi', i1, i1', hpos, hpos', hin, hiN, hgi, h77, ht7]
        refine ⟨by omega, by omega, by omega, ?_⟩
        refine aCall_of (hH _ _) ?_
        rintro d m3 n3 ⟨rfl, rfl, rfl⟩
        simp -dsimp [h0, h1, h2, h7, h8, I, S, wi, w01]
        refine ⟨by omega, ?_⟩
        exact ⟨i + 1, by omega, by simp [S], by simp [S, sl1], by simp [I], by rw [hsn, hTe]; simp [S, comma], by simp [I], by omega, rfl, rfl⟩
    · have hTe : T[i] = textT l[i] := get_opt (hT0 rfl i hil) hTi
      by_cases i0 : i = 0
      · subst i0
        rw [if_pos rfl] at hsn
        rw [hsn, hTe] at hj1
        simp only [List.take_zero, joinB] at h7
        simp -dsimp [h0, h1, h2, h7, h8, I, S, hi, hi', hiN, hgi, h77, ht7]
        refine aCall_of (hH _ _) ?_
        rintro d m3 n3 ⟨rfl, rfl, rfl⟩
        simp -dsimp [h0, h1, h2, h7, h8, I, S, wi, w01]
        refine ⟨by omega, ?_⟩
        exact ⟨1, by omega, by simp [S], by simp [S, sl1], by simp [I], by rw [show (1 : Nat) = 0 + 1 from rfl, hsn, hTe]; simp [S], by simp [I], by omega, rfl, rfl⟩
      · have i1 : (0 : Int) < i := by omega
        have i1' : 0 < i := by omega
        rw [if_neg i0] at hsn
        rw [hsn, hTe] at hj1
        simp only [List.length_append, List.length_cons, List.length_nil, hcl] at hj1
        simp -dsimp [h0, h1, h2, h7, h8, I, S, hi, hi', i1, i1', hiN, hgi, h77, ht7]
        refine ⟨by omega, ?_⟩
        refine aCall_of (hH _ _) ?_
        rintro d m3 n3 ⟨rfl, rfl, rfl⟩
        simp -dsimp [h0, h1, h2, h7, h8, I, S, wi, w01]
        refine ⟨by omega, ?_⟩
        exact ⟨i + 1, by omega, by simp [S], by simp [S, sl1], by simp [I], by rw [hsn, hTe]; simp [S, comma], by simp [I], by omega, rfl, rfl⟩
  · have : i = q := by omega
    subst this
    simp -dsimp [h0, h1, h2, h7, h8, I, S, hi]
end Go.Proofs.Mv.App
open Go Go.Proofs Go.Proofs.Mv.V
set_option maxRecDepth 10000
namespace Go.Proofs.Mv.App
theorem cDigits {k : Nat} (h : k ≤ 9223372036854775807) (m : Mem) (n : Nat) : ACalls Tryz.prog 40 [I k] m n (fun d m' n' => d = S (digits k) ∧ m' = m ∧ n' = n) := by
  rw [digits_lib h]; exact cDigits0 k h m n
theorem cDigitsI {j : Int} (h0 : 0 ≤ j) (h1 : j ≤ 9223372036854775807) (m : Mem) (n : Nat) : ACalls Tryz.prog 40 [I j] m n (fun d m' n' => d = S (digits j.toNat) ∧ m' = m ∧ n' = n) := by
  have := cDigits (k := j.toNat) (by omega) m n
  rwa [show ((j.toNat : Nat) : Int) = j by omega] at this
set_option maxHeartbeats 4000000 in
theorem cPrintR {t : Ty} (ht : TyW t) : allT t = true → manyT t ≤ 100000 → ∀ (m : Mem) (n : Nat), ACalls Tryz.prog 42 [.agg (tyD t)] m n (fun d m' n' => d = S (textT t) ∧ m' = m ∧ n' = n) := by
  induction ht with
  | mk kind pkg major mod name names subs l1 l2 l3 l4 l5 l6 l7 ih =>
    intro ha hm m n
    refine acalls_done (R' := Hq (fun d m' n' => d = S (textT (.mk kind pkg major mod name names subs)) ∧ ∀ j, j < n → m' j = m j) tg) ?_ ?_
    · have fr : ∀ o j, j < n → (m.set n o) j = m j := fun o j hj => by rw [set_ne _ _ _ _ (by omega)]
      have ha0 := ha
      simp only [allT, Bool.and_eq_true] at ha
      obtain ⟨hs, hall⟩ := ha
      obtain ⟨e1, e2, e3, e4, e5, e6⟩ := shape_sm hs
      obtain ⟨hn, hs⟩ := shape_parts hs
      simp only [manyT] at hm
      simp only [shapeK, Ty.kind, Ty.pkg, Ty.major, Ty.mod, Ty.name, Ty.names, Ty.subs] at hs hn e1 e2 e3 e4 e5 e6
      have hsub : ∀ t ∈ subs, ∀ (m : Mem) (n : Nat), ACalls Tryz.prog 42 [.agg (tyD t)] m n (fun d m' n' => d = S (textT t) ∧ m' = m ∧ n' = n) := fun t h => ih t h (allTs_mem hall t h) (by have := manyTs_le_mem h; omega)
      have hsm : ∀ t ∈ subs, (textT t).length ≤ 13000000 := fun t h => text_small (allTs_mem hall t h) (by have := manyTs_le_mem h; omega)
      have hLs : subs.length = names.length → ∀ m n, ACalls Tryz.prog 68 [.sl 7 (tysD subs), sl1 names, I subs.length] m n (fun d m' n' => d = S (joinB comma (textTs names subs)) ∧ m' = m ∧ n' = n) := fun e m n => by
        have := cRow (l := subs) (ns := names) (q := subs.length) (.inl ⟨rfl, e.symm⟩) hsub (by omega) (Nat.le_refl _) (texts_small hall e6 (by omega)) m n
        rw [List.take_of_length_le (by rw [textTs_len]; exact Nat.le_refl _)] at this
        exact this
      have hLb : (joinB comma (textTs names subs)).length ≤ 1000000000 := by
        have h1 := joinB_len comma (textTs names subs)
        have h2 := texts_small hall e6 (show manyTs subs ≤ 100000 by omega)
        omega
      have hL7 : 1 ≤ subs.length → ∀ m n, ACalls Tryz.prog 68 [.sl 7 (tysD subs), .v (.slice none 0 0), I ((subs.length - 1 : Nat) : Int)] m n (fun d m' n' => d = S (joinB comma (textTs [] subs).dropLast) ∧ m' = m ∧ n' = n) := fun e m n => by
        have := cRow (l := subs) (ns := []) (q := subs.length - 1) (.inr ⟨rfl, rfl⟩) hsub (by omega) (by omega) (texts_small hall (by simp) (by omega)) m n
        rw [List.dropLast_eq_take, textTs_len]
        exact this
      have hL2 : (tysD subs).length = subs.length := by rw [tysD_eq]; simp
      simp only [tyD, sl1, textT] at hLs ⊢
      by_cases k1 : kind = 1
      · subst k1
        generalize (names.map fun s => [S s]) = NL
        generalize tysD subs = SL at hL2
        refine acalls_vc [0, 1, 2, 3, 8, 9, 11, 13, 15, 24, 34, 44, 61, 82] Tryz.func42 Tryz.ntmps42 (by kernel_rfl) rfl rfl (by simp) ?_
        simp -dsimp [I, S, hL2]
        exact hq ⟨by simp [S, wInt], fr _⟩
      by_cases k2 : kind = 2
      · subst k2
        generalize (names.map fun s => [S s]) = NL
        generalize tysD subs = SL at hL2
        refine acalls_vc [0, 1, 2, 3, 8, 9, 11, 13, 15, 24, 34, 44, 61, 82] Tryz.func42 Tryz.ntmps42 (by kernel_rfl) rfl rfl (by simp) ?_
        simp -dsimp [I, S, hL2]
        exact hq ⟨by simp [S, wText], fr _⟩
      by_cases k3 : kind = 3
      · subst k3
        generalize (names.map fun s => [S s]) = NL
        generalize tysD subs = SL at hL2
        refine acalls_vc [0, 1, 2, 3, 8, 9, 11, 13, 15, 24, 34, 44, 61, 82] Tryz.func42 Tryz.ntmps42 (by kernel_rfl) rfl rfl (by simp) ?_
        simp -dsimp [I, S, hL2]
        exact hq ⟨by simp [S, wBool], fr _⟩
      simp only [k1, k2, k3, or_self, if_false] at hs ⊢
      by_cases k4 : kind = 4
      · subst k4
        simp only [if_true, Bool.and_eq_true, decide_eq_true_eq, List.length_eq_zero_iff] at hs
        obtain ⟨⟨_, h1⟩, rfl⟩ := hs
        obtain ⟨u, rfl⟩ := List.length_eq_one_iff.1 h1
        have hu := hsub u (by simp)
        have hul := hsm u (by simp)
        have h77 := tyD_len u
        simp only [tysD]
        generalize tyD u = TT at hu h77
        have ht7 : List.take 7 TT = TT := List.take_of_length_le (by omega)
        refine acalls_vc [0, 1, 2, 3, 8, 9, 11, 13, 15, 24, 34, 44, 61, 82] Tryz.func42 Tryz.ntmps42 (by kernel_rfl) rfl rfl (by simp) ?_
        simp -dsimp [I, S, h77, ht7]
        refine aCall_of (hu _ _) ?_
        rintro d m' n' ⟨rfl, rfl, rfl⟩
        simp -dsimp [S]
        refine ⟨by omega, by omega, ?_⟩
        exact hq ⟨by simp [S, wList, textTs, joinB], fr _⟩
      have k1' : (kind == 1) = false := by simpa using k1
      have k2' : (kind == 2) = false := by simpa using k2
      have k3' : (kind == 3) = false := by simpa using k3
      have k4' : (kind == 4) = false := by simpa using k4
      simp only [k4, if_false] at hs ⊢
      by_cases k5 : kind = 5
      · subst k5
        simp only [if_true, Bool.and_eq_true, decide_eq_true_eq] at hs
        have hc := hLs hs.1.2
        generalize (names.map fun s => [S s]) = NL at hc
        generalize tysD subs = SL at hc hL2
        refine acalls_vc [0, 1, 2, 3, 8, 9, 11, 13, 15, 24, 34, 44, 61, 82] Tryz.func42 Tryz.ntmps42 (by kernel_rfl) rfl rfl (by simp) ?_
        simp -dsimp [I, S, hL2]
        simp -dsimp only [I] at hc
        refine aCall_of (hc _ _) ?_
        rintro d m' n' ⟨rfl, rfl, rfl⟩
        simp -dsimp [S]
        refine ⟨by omega, by omega, ?_⟩
        exact hq ⟨by simp [S], fr _⟩
      have k5' : (kind == 5) = false := by simpa using k5
      simp only [k5, if_false] at hs ⊢
      by_cases k6 : kind = 6
      · subst k6
        simp only [if_true, Bool.and_eq_true, decide_eq_true_eq] at hs
        have hc := hLs hs.1.2
        generalize (names.map fun s => [S s]) = NL at hc
        generalize tysD subs = SL at hc hL2
        refine acalls_vc [0, 1, 2, 3, 8, 9, 11, 13, 15, 24, 34, 44, 61, 82] Tryz.func42 Tryz.ntmps42 (by kernel_rfl) rfl rfl (by simp) ?_
        simp -dsimp [I, S, hL2]
        simp -dsimp only [I] at hc
        refine aCall_of (hc _ _) ?_
        rintro d m' n' ⟨rfl, rfl, rfl⟩
        simp -dsimp [S]
        refine ⟨by omega, by omega, ?_⟩
        exact hq ⟨by simp [S], fr _⟩
      have k6' : (kind == 6) = false := by simpa using k6
      simp only [k6, if_false] at hs ⊢
      by_cases k7 : kind = 7
      · subst k7
        simp only [if_true, Bool.and_eq_true, decide_eq_true_eq] at hs
        have h1 := hs.1.2
        have hne : subs ≠ [] := by intro e; subst e; simp at h1
        have hc := hL7 h1
        have hlast := last_texts hne
        have hu := hsub _ (List.getLast_mem hne)
        have hul := hsm _ (List.getLast_mem hne)
        have hjb : (joinB comma (textTs [] subs).dropLast).length ≤ 1000000000 := by
          have := text_small ha0 (by simp only [manyT]; omega)
          simp [textT] at this
          omega
        have hgl : (tysD subs)[subs.length - 1]? = some (tyD (subs.getLast hne)) := by
          rw [tysD_eq, List.getElem?_map, List.getElem?_eq_getElem (by omega), List.getLast_eq_getElem]; rfl
        rw [hlast]
        have h77 := tyD_len (subs.getLast hne)
        have w1 : IntKind.i64.wrap ((subs.length : Int) - 1) = ((subs.length - 1 : Nat) : Int) := by rw [wrap_i64 (by omega) (by omega)]; omega
        obtain ⟨q, hq0⟩ : ∃ q, subs.length = q + 1 := ⟨subs.length - 1, by omega⟩
        simp only [hq0, Nat.add_sub_cancel, I] at w1 hgl hc
        generalize tyD (subs.getLast hne) = TT at hu h77 hgl
        have ht7 : List.take 7 TT = TT := List.take_of_length_le (by omega)
        generalize (names.map fun s => [S s]) = NL
        generalize tysD subs = SL at hc hgl hL2
        rw [hq0] at hL2
        have hqN : q < SL.length := by omega
        have hgi : SL[q] = TT := get_opt hgl hqN
        have w2 : IntKind.i64.wrap (q : Int) = (q : Int) := wrap_i64 (by omega) (by omega)
        refine acalls_vc [0, 1, 2, 3, 8, 9, 11, 13, 15, 24, 34, 44, 61, 82] Tryz.func42 Tryz.ntmps42 (by kernel_rfl) rfl rfl (by simp) ?_
        simp -dsimp [I, S, hL2, w1, w2]
        refine vdraw_tree [0, 1, 0, 4, 15, 31, 63, 0, 128, 0, 512, 1920, 3968, 8095, 16383, 32767] (.rd 0 (.rd 1 (.rd 2 (.rd 3 (.rd 7 (.rd 8 (.rd 9 (.rd 10 (.rd 11 (.rd 12 (.wr (.cons 4 (.rd 5 (.rd 6 (.wr (.cons 13 (.rd 14 (.rd 15 (.fin))) (.nil))))) (.nil))))))))))))) (by kernel_rfl) (by kernel_rfl) ?_
        simp -dsimp [I, S, hL2, w1, w2, hqN, hgi, h77, ht7]
        refine ⟨by omega, ?_⟩
        refine aCall_of (hc _ _) ?_
        rintro d m' n' ⟨rfl, rfl, rfl⟩
        simp -dsimp [I, S, hL2, w1, w2, hqN, hgi, h77, ht7]
        refine ⟨by omega, by omega, ?_⟩
        refine aCall_of (hu _ _) ?_
        rintro d m' n' ⟨rfl, rfl, rfl⟩
        simp -dsimp [I, S, hL2, w1, w2, hqN, hgi, h77, ht7]
        refine ⟨by omega, hq ⟨by simp [S], fr _⟩⟩
      have k7' : (kind == 7) = false := by simpa using k7
      simp only [k7, if_false] at hs ⊢
      by_cases k9 : kind = 9
      · subst k9
        simp only [if_true, show ¬ (9 : Int) = 8 by omega, if_false, Bool.and_eq_true, decide_eq_true_eq] at hs
        generalize (names.map fun s => [S s]) = NL
        generalize tysD subs = SL at hL2
        have hj := hs.1.2
        have hdl := digits_len major.toNat
        refine acalls_vc [0, 1, 2, 3, 8, 9, 11, 13, 15, 24, 34, 44, 61, 82] Tryz.func42 Tryz.ntmps42 (by kernel_rfl) rfl rfl (by simp) ?_
        simp -dsimp [I, S]
        refine vdraw_tree [0, 1, 3, 7, 0, 16, 48, 127, 255, 0, 512, 2047, 4095, 0, 8192, 32767, 65535, 131071] (.rd 0 (.rd 1 (.rd 2 (.rd 3 (.rd 4 (.rd 5 (.rd 9 (.rd 10 (.rd 13 (.rd 14 (.wr (.cons 6 (.rd 7 (.rd 8 (.rd 11 (.rd 12 (.rd 15 (.rd 16 (.rd 17 (.fin)))))))) (.nil))))))))))))) (by kernel_rfl) (by kernel_rfl) ?_
        simp -dsimp [I, S]
        refine ⟨by omega, by omega, ?_⟩
        refine aCall_of (cDigitsI (j := major) (by omega) (by omega) _ _) ?_
        rintro d m' n' ⟨rfl, rfl, rfl⟩
        simp -dsimp [I, S]
        refine ⟨by omega, by omega, by omega, by omega, by omega, by omega, hq ⟨by simp [S], fr _⟩⟩
      have k9' : (kind == 9) = false := by simpa using k9
      simp only [k9, if_false] at hs ⊢
      generalize (names.map fun s => [S s]) = NL
      generalize tysD subs = SL at hL2
      by_cases em : mod = []
      · subst em
        refine acalls_vc [0, 1, 2, 3, 8, 9, 11, 13, 15, 24, 34, 44, 61, 82] Tryz.func42 Tryz.ntmps42 (by kernel_rfl) rfl rfl (by simp) ?_
        simp -dsimp [I, S, k1', k2', k3', k4', k5', k6', k7', k9']
        exact hq ⟨by simp [S, k1, k2, k3, k4, k5, k6, k7, k9], fr _⟩
      · have em' : (mod == []) = false := by simpa using em
        refine acalls_vc [0, 1, 2, 3, 8, 9, 11, 13, 15, 24, 34, 44, 61, 82] Tryz.func42 Tryz.ntmps42 (by kernel_rfl) rfl rfl (by simp) ?_
        simp -dsimp [I, S, k1', k2', k3', k4', k5', k6', k7', k9', em']
        refine ⟨by omega, by omega, ?_⟩
        exact hq ⟨by simp [S, em, k1, k2, k3, k4, k5, k6, k7, k9], fr _⟩
    · rintro d m' n' ⟨rfl, h⟩
      exact ⟨_, (pur_S _).pub, h, rfl⟩
end Go.Proofs.Mv.App
open Go Go.Proofs Go.Proofs.Mv.V
set_option maxRecDepth 10000
namespace Go.Proofs.Mv.App
set_option maxHeartbeats 2000000 in
theorem cRHeadTm {t : Tm} (h : Pc Tryz.prog 15 [.agg (tmD t)] (S (textTm t))) (hl : (textTm t).length ≤ 1000000000) : Pc Tryz.prog 41 [.agg (tmD t)] (S (parK (kindTmK t) (textTm t))) := by
  refine pc_of (pur_S _) (fun m n => ?_)
  have fr : ∀ o j, j < n → (m.set n o) j = m j := fun o j hj => by rw [set_ne _ _ _ _ (by omega)]
  obtain ⟨k, N, mod, nm, names, vars, types, subs⟩ := t
  generalize textTm (.mk k N mod nm names vars types subs) = X at h hl
  simp only [kindTmK, tmD, sl1, tmsD_eq] at h ⊢
  generalize (names.map fun s => [S s]) = NL at h
  generalize (vars.map fun s => [S s]) = VL at h
  generalize types.map tyD = YL at h
  generalize subs.map tmD = SL at h
  simp only [I, S] at h
  refine acalls_vc [0, 1, 2, 15] Tryz.func41 Tryz.ntmps41 (by kernel_rfl) rfl rfl (by simp) ?_
  by_cases k8 : k = 8
  · subst k8
    simp -dsimp [I, S, Tt]
    refine pcall h ?_
    simp -dsimp [S]
    exact ⟨by omega, by omega, pcq (by simp [parK, S]) (fr _)⟩
  have b8 : (k == 8) = false := by simpa using k8
  by_cases k11 : k = 11
  · subst k11
    simp -dsimp [I, S, Tt]
    refine pcall h ?_
    simp -dsimp [S]
    exact ⟨by omega, by omega, pcq (by simp [parK, S]) (fr _)⟩
  have b11 : (k == 11) = false := by simpa using k11
  by_cases k12 : k = 12
  · subst k12
    simp -dsimp [I, S, Tt]
    refine pcall h ?_
    simp -dsimp [S]
    exact ⟨by omega, by omega, pcq (by simp [parK, S]) (fr _)⟩
  have b12 : (k == 12) = false := by simpa using k12
  simp -dsimp [I, S, Tt, b8, b11, b12]
  refine pcall h ?_
  simp -dsimp [S]
  exact pcq (by simp [parK, S, k8, k11, k12]) (fr _)
theorem smL_drop0 (T : List (List UInt8)) (q : Nat) : ((T.drop q).map fun s => s.length + comma.length).sum ≤ smL 100 T := by
  have h0 : ((T.drop q).map fun s => s.length + comma.length).sum = smL 2 (T.drop q) := rfl
  have h1 := smL_drop 2 T q
  have h2 := smL_mono (show 2 ≤ 100 by omega) T
  omega
set_option maxHeartbeats 2000000 in
theorem cRRowTm {l : List Tm} (H : ∀ t ∈ l, Pc Tryz.prog 15 [.agg (tmD t)] (S (textTm t))) {q : Nat} (hq : q ≤ l.length) (hlen : l.length ≤ 1000) (hb : smL 100 (textTms l) ≤ 1000000000) :
    Pc Tryz.prog 43 [.sl 8 (l.map tmD), I q] (S (joinB comma ((textTms l).drop q))) := by
  refine pc_of (pur_S _) (fun m n => ?_)
  have hL2 : (l.map tmD).length = l.length := by simp
  have hG2 : ∀ i (h : i < l.length), (l.map tmD)[i]? = some (tmD l[i]) := fun i h => by simp [h]
  generalize l.map tmD = SL at hL2 hG2
  have hTl := textTms_len l
  have hTi : ∀ j (h : q + j < l.length) (h' : j < ((textTms l).drop q).length), ((textTms l).drop q)[j] = textTm l[q + j] := fun j h h' => by
    rw [List.getElem_drop]; exact textTms_get l h _
  have hjs := fun j => Nat.le_trans (joinB_sub comma ((textTms l).drop q) j) (smL_drop0 (textTms l) q)
  have hTl' : ((textTms l).drop q).length = l.length - q := by simp [hTl]
  have hsm : ∀ s ∈ (textTms l).drop q, s.length ≤ 1000000000 := fun s hs => Nat.le_trans (smL_mem (List.mem_of_mem_drop hs)) hb
  generalize (textTms l).drop q = T at hTi hjs hTl' hsm
  generalize smL 100 (textTms l) = BB at hb hjs
  refine acalls_vc [0, 1, 4, 5, 6, 11, 16] Tryz.func43 Tryz.ntmps43 (by kernel_rfl) rfl rfl (by simp) ?_
  simp -dsimp [I, S]
  refine vloop_as (β := Nat) (fun p => [(0, .sl 8 SL), (1, I q), (5, S (joinB comma (T.take (p - q)))), (6, I p)]) (fun p m2 n2 => m2 = m ∧ n2 = n ∧ q ≤ p ∧ p ≤ l.length) (fun p => l.length - p) q (by simp [I, S, joinB]) ⟨rfl, rfl, by omega, by omega⟩ ?_
  rintro p m2 n2 ⟨rfl, rfl, ge, le⟩
  by_cases hi : (p : Int) < l.length
  · have hi' : p < l.length := by omega
    have wi : IntKind.i64.wrap ((p : Int) + 1) = (p : Int) + 1 := wrap_i64 (by omega) (by omega)
    have hiN : p < SL.length := by omega
    have hgi : SL[p] = tmD l[p] := get_opt (hG2 _ hi') hiN
    have hH := H l[p] (List.getElem_mem hi')
    obtain ⟨j, hj⟩ : ∃ j, p - q = j := ⟨_, rfl⟩
    have hTj : j < T.length := by omega
    have hTe := hTi j (by omega) hTj
    have epj : q + j = p := by omega
    simp only [epj] at hTe
    have h77 := tmD_len l[p]
    generalize tmD l[p] = TT at hgi hH h77
    have ht7 : List.take 8 TT = TT := List.take_of_length_le (by omega)
    have hj1 := hjs (j + 1)
    have hj0 := hjs j
    have hxl := hsm _ (List.getElem_mem hTj)
    have hsn : joinB comma (T.take (j + 1)) = if j = 0 then T[j] else joinB comma (T.take j) ++ comma ++ T[j] := by
      rw [take_snoc hTj, joinB_snoc]
      by_cases e : j = 0
      · subst e; simp
      · rw [if_neg e, if_neg]
        intro h
        have := congrArg List.length h
        rw [List.length_take] at this; simp only [List.length_nil] at this; omega
    rw [hTe] at hsn hxl
    have hcl : comma.length = 2 := rfl
    have ep1 : p + 1 - q = j + 1 := by omega
    simp only [hj]
    generalize textTm l[p] = X at hH hsn hxl
    by_cases j0 : j = 0
    · subst j0
      have c1 : ¬ ((q : Nat) : Int) < (p : Int) := by omega
      have c1' : ¬ q < p := by omega
      simp only [List.take_zero, joinB]
      rw [if_pos rfl] at hsn
      simp -dsimp [I, S, hL2, hi, hi', hiN, hgi, h77, ht7, wi, c1, c1']
      refine pcall hH ?_
      simp -dsimp [I, S, wi]
      exact ⟨by omega, rnd (p + 1) (by omega) (by simp [I, S, hsn, ep1]) ⟨rfl, rfl, by omega, by omega⟩⟩
    · have c1 : ((q : Nat) : Int) < (p : Int) := by omega
      have c1' : q < p := by omega
      rw [if_neg j0] at hsn
      rw [hsn] at hj1
      generalize joinB comma (T.take j) = OO at hsn hj0 hj1
      simp only [List.length_append, hcl] at hj1
      simp -dsimp [I, S, hL2, hi, hi', hiN, hgi, h77, ht7, wi, c1, c1']
      refine ⟨by omega, ?_⟩
      refine pcall hH ?_
      simp -dsimp [I, S, wi]
      exact ⟨by omega, rnd (p + 1) (by omega) (by simp [I, S, ep1]; rw [hsn]; simp [comma]) ⟨rfl, rfl, by omega, by omega⟩⟩
  · have e : T.take (p - q) = T := List.take_of_length_le (by omega)
    rw [e]
    simp -dsimp [I, S, hL2, hi]
    exact pcq' rfl
end Go.Proofs.Mv.App
