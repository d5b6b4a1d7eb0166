/- A part of the proofs of the seat YtdbfejminjaheaaGreatDoor: the abstract machine, the contracts of the functions, the laws. No condition of its own. -/
import Derived.Test.YtdbfejminjaheaaGreatDoorLckE
import Derived.Test.YtdbfejminjaheaaGreatDoorVerD
import Derived.Test.YtdbfejminjaheaaGreatDoorTokL
import Derived.Test.YtdbfejminjaheaaGreatDoorMvPc
set_option linter.unusedSimpArgs false
set_option linter.unusedVariables false
set_option linter.unusedSectionVars false
open Go Go.Proofs Go.Proofs.Mv.V
set_option maxRecDepth 10000
namespace Go.Proofs.Mv.App
/-- The picks of tokens, six by six. -/
def picksF : List Tok → List Pck → Option (List Pck)
  | [], acc => some acc
  | t :: a :: b :: c :: d :: e :: r, acc => match parseR (a.text ++ b.text ++ c.text ++ d.text ++ e.text) with
    | some v => picksF r (acc ++ [⟨t.text, v⟩])
    | none => none
  | _, _ => none
def lockF (l : List Tok) : Option (List Pck) := if l.length % 6 = 0 then (match picksF l [] with
  | some p => if mayL p then some p else none
  | none => none) else none
theorem pur_pks {l : List Pck} : ∀ e ∈ l.map pkD, ∀ d ∈ e, Pur d := by
  intro e he d hd
  obtain ⟨p, _, rfl⟩ := List.mem_map.1 he
  simp only [pkD, verD, List.mem_cons, List.not_mem_nil, or_false] at hd
  rcases hd with rfl | rfl | rfl | rfl
  · exact pur_S _
  · exact pur_I _
  · exact pur_I _
  · exact pur_I _
theorem cRLockMayL {acc : List Pck} {d : D} {m : Mem} {n : Nat} (ls : Lst m 4 (acc.map pkD) d) (hl : acc.length ≤ 1000000) (hk : ∀ k, kof d = some k → k < n) :
    ACalls Tryz.prog 10 [d] m n (fun d m' n' => d = Tt (mayL acc) ∧ m' = m ∧ n' = n) := by
  rcases ls with ⟨e, rfl | rfl⟩ | ⟨k, g, es', rfl, h1, h2, h3⟩
  · obtain rfl : acc = [] := by simpa using e
    exact acalls_le (.cons (Le_nil 4) .nil) (cRLockMay (l := []) (by simp) m n)
  · obtain rfl : acc = [] := by simpa using e
    exact acalls_le (.cons (fun w ν F y h => by simp only [Con] at h ⊢; exact .inr ⟨by simp, h⟩) .nil) (cRLockMay (l := []) (by simp) m n)
  · rw [List.length_map] at h2 h3 ⊢
    exact cRLockMayO hl k g es' m n h1 (hk k rfl) h2 h3
structure LrInv (l : List Tok) (TL : List (List D)) (m : Mem) (n : Nat) (i : Nat) (σ : Nat → D) (m2 : Mem) (n2 : Nat) : Prop where
  h5 : σ 5 = .sl 3 TL
  h8 : σ 8 = I i
  le : i ≤ l.length
  i6 : i % 6 = 0
  nn : n ≤ n2
  fr : ∀ j, j < n → m2 j = m j
  ex : ∃ acc : List Pck, picksF l [] = picksF (l.drop i) acc ∧ acc.length ≤ i ∧ Lst m2 4 (acc.map pkD) (σ 7)
  kf : ∀ k, kof (σ 7) = some k → n ≤ k ∧ k < n2
set_option maxRecDepth 200000 in
set_option maxHeartbeats 40000000 in
theorem cRParseL (s : List UInt8) (hs : s.length ≤ 1000000) (m : Mem) (n : Nat) : ACalls Tryz.prog 16 [S s] m n (fun d m' n' =>
    d = (match (toksAt s 0).2 with
      | some a => .tup [.sl 4 [], I 2, I a]
      | none => match lockF (toksAt s 0).1 with
        | some p => .tup [.sl 4 (p.map pkD), I 0, I (-1)]
        | none => .tup [.sl 4 [], I 2, I (-1)]) ∧ m' = m ∧ n' = n) := by
  refine acalls_done (R' := Hq (fun d m' n' => (∃ dt, d = (match (toksAt s 0).2 with
      | some a => .tup [dt, I 2, I a]
      | none => match lockF (toksAt s 0).1 with
        | some p => .tup [dt, I 0, I (-1)]
        | none => .tup [dt, I 2, I (-1)]) ∧ PubAs n m' dt (match (toksAt s 0).2 with
      | some a => .sl 4 []
      | none => match lockF (toksAt s 0).1 with
        | some p => .sl 4 (p.map pkD)
        | none => .sl 4 [])) ∧ ∀ j, j < n → m' j = m j) tg) ?_ ?_
  · refine acalls_vc [0, 2, 3, 4, 5, 6, 7, 8, 9, 10, 11, 18, 23, 27, 69, 83] Tryz.func16 Tryz.ntmps16 (by kernel_rfl) rfl rfl (by simp) ?_
    simp -dsimp [S, I]
    refine aCall_of (cRefTokens s (by omega) _ _) ?_
    rintro d m' n' ⟨rfl, rfl, rfl⟩
    have htk := toks_tk (s := s) hs
    generalize toksAt s 0 = T at htk ⊢
    obtain ⟨l, o⟩ := T
    cases o with
    | some a =>
      simp -dsimp [I, S]
      exact hq ⟨⟨_, rfl, pub_nil 4⟩, fun _ _ => rfl⟩
    | none =>
    have hl := htk.len
    simp only at hl ⊢
    have hL2 : (l.map tokD).length = l.length := by simp
    have hG2 : ∀ i (h : i < l.length), (l.map tokD)[i]? = some (tokD l[i]) := fun i h => by simp [h]
    generalize l.map tokD = TL at hL2 hG2
    by_cases h6 : l.length % 6 = 0
    case neg =>
      have hlf : lockF l = none := by unfold lockF; rw [if_neg h6]
      have h6' : (((l.length : Int).tmod 6) != 0) = true := by
        have : (l.length : Int).tmod 6 = ((l.length % 6 : Nat) : Int) := rfl
        rw [this]; simp; omega
      rw [hlf]
      simp -dsimp [I, S, hL2, h6']
      exact hq ⟨⟨_, rfl, pub_nil 4⟩, fun _ _ => rfl⟩
    have h6' : (l.length : Int).tmod 6 = 0 := by
      have : (l.length : Int).tmod 6 = ((l.length % 6 : Nat) : Int) := rfl
      rw [this, h6]; rfl
    have hlf : lockF l = match picksF l [] with
      | some p => if mayL p then some p else none
      | none => none := by unfold lockF; rw [if_pos h6]
    simp -dsimp [I, S, hL2, h6']
    refine vloop_of (β := Nat) (LrInv l TL m' n') (fun i => l.length - i) 0 ⟨by simp, by simp [I], by omega, by simp, Nat.le_refl _, fun _ _ => rfl, ⟨[], by simp, by simp, by simpa using Lst.nil⟩, by simp [kof]⟩ ?_
    rintro i σ m2 n2 ⟨h5, h8, le, i6, nn, fr, ⟨acc, hpk, hacc, ls⟩, kf⟩
    generalize hd7 : σ 7 = d7 at ls kf
    by_cases hi : (i : Int) < l.length
    · have hi' : i < l.length := by omega
      have hi5 : i + 5 < l.length := by omega
      have g0 : TL[i]'(by omega) = tokD (l[i]'(by omega)) := get_opt (hG2 (i) (by omega)) (by omega)
      have z0 := htk.txt (l[i]'(by omega)) (List.getElem_mem _)
      have g1 : TL[i + 1]'(by omega) = tokD (l[i + 1]'(by omega)) := get_opt (hG2 (i + 1) (by omega)) (by omega)
      have z1 := htk.txt (l[i + 1]'(by omega)) (List.getElem_mem _)
      have g2 : TL[i + 2]'(by omega) = tokD (l[i + 2]'(by omega)) := get_opt (hG2 (i + 2) (by omega)) (by omega)
      have z2 := htk.txt (l[i + 2]'(by omega)) (List.getElem_mem _)
      have g3 : TL[i + 3]'(by omega) = tokD (l[i + 3]'(by omega)) := get_opt (hG2 (i + 3) (by omega)) (by omega)
      have z3 := htk.txt (l[i + 3]'(by omega)) (List.getElem_mem _)
      have g4 : TL[i + 4]'(by omega) = tokD (l[i + 4]'(by omega)) := get_opt (hG2 (i + 4) (by omega)) (by omega)
      have z4 := htk.txt (l[i + 4]'(by omega)) (List.getElem_mem _)
      have g5 : TL[i + 5]'(by omega) = tokD (l[i + 5]'(by omega)) := get_opt (hG2 (i + 5) (by omega)) (by omega)
      have z5 := htk.txt (l[i + 5]'(by omega)) (List.getElem_mem _)
      have hdr : l.drop i = l[i] :: l[i + 1] :: l[i + 2] :: l[i + 3] :: l[i + 4] :: l[i + 5] :: l.drop (i + 6) := by
        rw [List.drop_eq_getElem_cons hi', List.drop_eq_getElem_cons (show i + 1 < l.length by omega), List.drop_eq_getElem_cons (show i + 1 + 1 < l.length by omega), List.drop_eq_getElem_cons (show i + 1 + 1 + 1 < l.length by omega), List.drop_eq_getElem_cons (show i + 1 + 1 + 1 + 1 < l.length by omega), List.drop_eq_getElem_cons (show i + 1 + 1 + 1 + 1 + 1 < l.length by omega)]
      rw [hdr] at hpk
      simp only [picksF, List.append_assoc] at hpk
      have t_ : ∀ t : Tok, tokD t = [I t.kind, I t.at_, S t.text] := fun _ => rfl
      rw [t_] at g0
      rw [t_] at g1
      rw [t_] at g2
      rw [t_] at g3
      rw [t_] at g4
      rw [t_] at g5
      have w1 : IntKind.i64.wrap ((i : Int) + 1) = (i : Int) + 1 := wrap_i64 (by omega) (by omega)
      have v1 : ((i : Int) + 1).toNat = i + 1 := by omega
      have w2 : IntKind.i64.wrap ((i : Int) + 2) = (i : Int) + 2 := wrap_i64 (by omega) (by omega)
      have v2 : ((i : Int) + 2).toNat = i + 2 := by omega
      have w3 : IntKind.i64.wrap ((i : Int) + 3) = (i : Int) + 3 := wrap_i64 (by omega) (by omega)
      have v3 : ((i : Int) + 3).toNat = i + 3 := by omega
      have w4 : IntKind.i64.wrap ((i : Int) + 4) = (i : Int) + 4 := wrap_i64 (by omega) (by omega)
      have v4 : ((i : Int) + 4).toNat = i + 4 := by omega
      have w5 : IntKind.i64.wrap ((i : Int) + 5) = (i : Int) + 5 := wrap_i64 (by omega) (by omega)
      have v5 : ((i : Int) + 5).toNat = i + 5 := by omega
      have w6 : IntKind.i64.wrap ((i : Int) + 6) = (i : Int) + 6 := wrap_i64 (by omega) (by omega)
      have v6 : ((i : Int) + 6).toNat = i + 6 := by omega
      have x1 : (i : Int) + 1 < l.length := by omega
      have y1 : i + 1 < l.length := by omega
      have u1 : i + 1 < TL.length := by omega
      have x2 : (i : Int) + 2 < l.length := by omega
      have y2 : i + 2 < l.length := by omega
      have u2 : i + 2 < TL.length := by omega
      have x3 : (i : Int) + 3 < l.length := by omega
      have y3 : i + 3 < l.length := by omega
      have u3 : i + 3 < TL.length := by omega
      have x4 : (i : Int) + 4 < l.length := by omega
      have y4 : i + 4 < l.length := by omega
      have u4 : i + 4 < TL.length := by omega
      have x5 : (i : Int) + 5 < l.length := by omega
      have y5 : i + 5 < l.length := by omega
      have u5 : i + 5 < TL.length := by omega
      have u0 : i < TL.length := by omega
      simp -dsimp [h5, h8, hd7, I, S, hi, hi', hL2]
      refine vdraw_treeM (.rd 0 (.rd 1 (.rd 2 (.rd 3 (.rd 4 (.rd 5 (.rd 6 (.rd 7 (.rd 8 (.rd 9 (.rd 10 (.rd 11 (.rd 12 (.rd 13 (.rd 14 (.rd 15 (.rd 16 (.rd 17 (.rd 18 (.rd 19 (.rd 20 (.rd 21 (.rd 22 (.rd 23 (.rd 24 (.rd 25 (.rd 26 (.rd 27 (.rd 28 (.rd 29 (.rd 30 (.rd 31 (.rd 32 (.rd 33 (.wr (.cons 34 (.rd 35 (.rd 36 (.rd 37 (.wr (.cons 38 (.wr (.cons 39 (.rd 40 (.fin)) (.nil))) (.nil)))))) (.cons 38 (.wr (.cons 34 (.rd 35 (.rd 36 (.rd 37 (.wr (.cons 39 (.rd 40 (.fin)) (.nil)))))) (.nil))) (.nil)))))))))))))))))))))))))))))))))))))) (by kernel_rfl) (by kernel_rfl) ?_; intro mk
      simp -dsimp [h5, h8, hd7, I, S, hi, hi', hL2, u0, g0, g1, w1, v1, x1, y1, u1, g2, w2, v2, x2, y2, u2, g3, w3, v3, x3, y3, u3, g4, w4, v4, x4, y4, u4, g5, w5, v5, x5, y5, u5]
      refine ⟨by omega, by omega, by omega, by omega, by omega, by omega, by omega, by omega, by omega, ?_⟩
      generalize l[i + 1].text ++ (l[i + 2].text ++ (l[i + 3].text ++ (l[i + 4].text ++ l[i + 5].text))) = tx at hpk ⊢
      have hcp := fun m n => cRParseV tx m n
      simp only [S] at hcp
      have hpc : Pc Tryz.prog 57 [D.v (Value.string (ofL tx))] (verR (parseR tx)) := fun m n => hcp m n
      generalize parseR tx = PR at hpk hpc
      cases PR with
      | none =>
        simp only at hpk
        rw [hpk] at hlf
        simp only at hlf
        rw [hlf]
        refine ⟨?_, ?_⟩ <;>
        · refine pcall hpc ?_
          simp -dsimp [verR, I, Tt, set_ne]
          refine hq ⟨⟨_, rfl, pub_nil 4⟩, fun j hj => ?_⟩
          rw [set_ne _ _ _ _ (by omega)]; exact fr j hj
      | some v =>
        simp only at hpk
        refine ⟨?_, ?_⟩ <;>
        · refine pcall hpc ?_
          simp -dsimp [verR, verD, h5, h8, hd7, I, S, Tt, hi, hi', hL2, u0, g0, set_ne]
          refine vdraw_tree [0, 0, 0, 6, 14, 30, 0, 126, 254, 511, 1023] (.rd 0 (.rd 1 (.rd 2 (.rd 3 (.rd 4 (.rd 5 (.rd 6 (.rd 7 (.wr (.cons 8 (.wr (.cons 9 (.rd 10 (.fin)) (.nil))) (.nil))))))))))) (by kernel_rfl) (by kernel_rfl) ?_
          simp -dsimp [h5, h8, hd7, I, S, hi, hi', hL2, u0, g0, set_ne]
          have hR : ∀ (o o' : V.Obj) (j : Nat), j < n2 → ((m2.set n2 o).set (n2 + 1) o') j = m2 j := fun o o' j hj => by rw [set_ne _ _ _ _ (by omega), set_ne _ _ _ _ (by omega)]
          refine b4_append (ls.frame fun j hj => hR _ _ j (by have := kf j hj; omega)) (fun j hj => by have := kf j hj; omega) trivial trivial (by omega) (by simp; omega) ?_
          intro d5 m5 n5 p1 p2 p3 p4
          have hkd : ∀ j, kof d5 = some j → n' ≤ j ∧ j < n5 := fun j hj => by
            have h := p3 j hj
            rcases h.2 with e | e
            · have := kf j e; omega
            · omega
          simp -dsimp [h5, h8, I, S, w6]
          refine ⟨i + 6, by omega, by simp, by simp [I], by omega, by omega, by omega, fun j hj => ?_, ⟨acc ++ [⟨l[i].text, v⟩], hpk, by simp; omega, ?_⟩, by simpa using hkd⟩
          · rw [p4 j (by omega) (fun e => by have := kf j e; omega), hR _ _ _ (by omega)]; exact fr j hj
          · rw [List.map_append]; simpa [S, I, pkD, verD] using p1
    · have : i = l.length := by omega
      subst this
      rw [List.drop_length] at hpk
      have hpk2 : picksF l [] = some acc := by rw [hpk]; rfl
      rw [hpk2] at hlf
      simp only at hlf
      simp -dsimp [h5, h8, hd7, I, S, hi, hL2]
      refine aCall_of (cRLockMayL ls (by omega) (fun k h => (kf k h).2)) ?_
      rintro d m3 n3 ⟨rfl, rfl, rfl⟩
      rw [hlf]
      cases hm : mayL acc with
      | false =>
        simp -dsimp [Tt]
        exact hq ⟨⟨_, rfl, pub_nil 4⟩, fr⟩
      | true =>
        simp -dsimp [Tt, hd7, I]
        exact hq ⟨⟨_, rfl, .lstP ls (fun k h => (kf k h).1) pur_pks⟩, fr⟩
  · rintro d m' n' ⟨⟨dt, rfl, hp⟩, h⟩
    cases e : (toksAt s 0).2 with
    | some a =>
      rw [e] at hp
      exact ⟨_, pub_three hp (pur_I _).pub (pur_I _).pub, h, by simp only [e]⟩
    | none =>
      rw [e] at hp
      simp only at hp
      cases e2 : lockF (toksAt s 0).1 with
      | some p =>
        rw [e2] at hp
        exact ⟨_, pub_three hp (pur_I _).pub (pur_I _).pub, h, by simp only [e, e2]⟩
      | none =>
        rw [e2] at hp
        exact ⟨_, pub_three hp (pur_I _).pub (pur_I _).pub, h, by simp only [e, e2]⟩
end Go.Proofs.Mv.App
