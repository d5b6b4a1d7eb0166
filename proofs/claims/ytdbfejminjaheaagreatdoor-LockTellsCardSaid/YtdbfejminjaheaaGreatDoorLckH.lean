/- A part of the proofs of the seat YtdbfejminjaheaaGreatDoor: the abstract machine, the contracts of the functions, the laws. No condition of its own. -/
import Derived.Test.YtdbfejminjaheaaGreatDoorLckP
import Derived.Test.YtdbfejminjaheaaGreatDoorChk
import Derived.Test.YtdbfejminjaheaaGreatDoorLibD
set_option linter.unusedSimpArgs false
set_option linter.unusedVariables false
set_option linter.unusedSectionVars false
open Go Go.Proofs Go.Proofs.Mv.V
set_option maxRecDepth 10000
namespace Go.Proofs.Mv.App
def lpR (s : List UInt8) : List Pck × D := if 20000 < s.length then ([], code 3) else match (toksAt s 0).2 with
  | some a => ([], spotE a 2)
  | none => match lockF (toksAt s 0).1 with
    | some p => (p, nilE)
    | none => ([], code 2)
theorem cLockMayL {acc : List Pck} {d : D} {m : Mem} {n : Nat} (ls : Lst m 4 (acc.map pkD) d) (hw : ∀ p ∈ acc, p.pkg.length ≤ 9223372036854775807) (hl : acc.length ≤ 1000000) (hk : ∀ k, kof d = some k → k < n) :
    ACalls Tryz.prog 11 [d] m n (fun d m' n' => d = Tt (mayL acc) ∧ m' = m ∧ n' = n) := by
  rcases ls with ⟨e, rfl | rfl⟩ | ⟨k, g, es', rfl, h1, h2, h3⟩
  · obtain rfl : acc = [] := by simpa using e
    exact acalls_le (.cons (Le_nil 4) .nil) (cLockMay (l := []) (by simp) (by simp) m n)
  · obtain rfl : acc = [] := by simpa using e
    exact acalls_le (.cons (fun w ν F y h => by simp only [Con] at h ⊢; exact .inr ⟨by simp, h⟩) .nil) (cLockMay (l := []) (by simp) (by simp) m n)
  · rw [List.length_map] at h2 h3 ⊢
    exact cLockMayO hw hl k g es' m n h1 (hk k rfl) h2 h3
/-- What stands between two rounds. -/
structure LpI (l : List Tok) (m : Mem) (n : Nat) (pre : List (Fin (chN l))) (m2 : Mem) (n2 : Nat) : Prop where
  k0 : m2 n = some ⟨1, [[.v (.slice none 0 0)]], 0⟩
  k1 : m2 (n + 1) = some ⟨1, [[.v .nilIface]], 0⟩
  ex : ∃ (d : D) (acc : List Pck), m2 (n + 1 + 1) = some ⟨1, [[d]], 0⟩ ∧ Lst m2 4 (acc.map pkD) d ∧ acc.length = pre.length ∧ pre.length ≤ 100000 ∧ (∀ (i : Nat) (h : i < acc.length) (h' : i < pre.length), pkF (chk l pre[i].1) = some acc[i]) ∧ (∀ k, kof d = some k → n + 3 ≤ k ∧ k < n2)
  nn : n + 3 ≤ n2
  fr : ∀ j, j < n → m2 j = m j
set_option maxRecDepth 100000 in
set_option maxHeartbeats 4000000 in
theorem cLockParse (hM : ∀ {w : World} {F : Nat → Prop}, GI.inv w F → ∃ x : Int, w.cell? ⟨2, 0, none⟩ = some (.int .i64 x)) (s : List UInt8) (m : Mem) (n : Nat) :
    ACalls Tryz.prog 15 [S s] m n (fun d m' n' => d = .tup [.sl 4 ((lpR s).1.map pkD), (lpR s).2] ∧ m' = m ∧ n' = n) := by
  refine acalls_done (R' := Hq (fun d m' n' => (∃ dt, d = .tup [dt, (lpR s).2] ∧ PubAs n m' dt (.sl 4 ((lpR s).1.map pkD))) ∧ ∀ j, j < n → m' j = m j) tg) ?_ ?_
  · have q1 : n + 1 ≠ n := by omega
    have q2 : n + 1 + 1 ≠ n := by omega
    have q3 : n + 1 + 1 ≠ n + 1 := by omega
    have q1' : n ≠ n + 1 := by omega
    have q2' : n ≠ n + 1 + 1 := by omega
    have q3' : n + 1 ≠ n + 1 + 1 := by omega
    refine acalls_vcC [0, 2, 3, 4, 5, 6, 7, 8, 9, 16, 19, 20, 29, 42] Tryz.func15 Tryz.ntmps15 (by kernel_rfl) rfl rfl (by simp) ?_
    simp -dsimp [S, I]
    refine aCall_of (cTokens s _ _) ?_
    rintro d m' n' ⟨rfl, rfl, rfl⟩
    have hlp : lpR s = if 20000 < s.length then ([], code 3) else match (toksAt s 0).2 with
      | some a => ([], spotE a 2)
      | none => match lockF (toksAt s 0).1 with
        | some p => (p, nilE)
        | none => ([], code 2) := rfl
    by_cases hs : 20000 < s.length
    · rw [if_pos hs] at hlp
      simp -dsimp [hs, code, q1, q1']
      exact hq ⟨⟨_, by rw [hlp]; rfl, by rw [hlp]; exact pub_nil 4⟩, fun j hj => by simp [Mem.set, show j ≠ n by omega, show j ≠ n + 1 by omega]⟩
    rw [if_neg hs] at hlp
    have htk := toks_tk (s := s) (by omega)
    have hcc : ∀ t ∈ (toksAt s 0).1, TkC t := toks_c _ _ _
    have hsz : ∀ t ∈ (toksAt s 0).1, t.text.length ≤ 20000 := fun t ht => by have := (toks_ok (s.length + 1) s 0).2 t (by simpa [toksAt] using ht); omega
    have hln : (toksAt s 0).1.length ≤ 20000 := by have := (toks_ok (s.length + 1) s 0).1; unfold toksAt; omega
    generalize toksAt s 0 = T at htk hcc hsz hln hlp
    obtain ⟨l, o⟩ := T
    cases o with
    | some a =>
      simp only at hlp
      simp -dsimp [hs, spotE, q1, q1']
      exact hq ⟨⟨_, by rw [hlp]; rfl, by rw [hlp]; exact pub_nil 4⟩, fun j hj => by simp [Mem.set, show j ≠ n by omega, show j ≠ n + 1 by omega]⟩
    | none =>
    simp only at hlp hcc hsz hln
    simp -dsimp [hs, nilE, q1, q1', q2, q2', q3, q3']
    refine aCall_of (cChunk (TL := l.map tokD) (fun e he d hd => ?_) _ _) ?_
    · obtain ⟨t, _, rfl⟩ := List.mem_map.1 he
      simp only [tokD, List.mem_cons, List.not_mem_nil, or_false] at hd
      rcases hd with rfl | rfl | rfl
      · exact pur_I _
      · exact pur_I _
      · exact pur_S _
    rintro d m' n' ⟨rfl, rfl, rfl⟩
    simp -dsimp
    have hlL : (l.map tokD).length = l.length := by simp
    refine vrange_of (by simp) (itChunk (TL := l.map tokD) (by omega) (chN l) (fun k => by rw [hlL]; exact chN_lt l k)) (fun _ => rfl) (by simp) (by simp) rfl (LpI l m n) ⟨by simp [set_ne, q1', q2'], by simp [set_ne, q3'], ⟨_, [], by simp, Lst.nil, rfl, by simp, by simp, by simp [kof]⟩, Nat.le_refl _, fun j hj => by simp [Mem.set, show j ≠ n by omega, show j ≠ n + 1 by omega, show j ≠ n + 1 + 1 by omega]⟩ ?_ ?_
    · rintro pre x m2 n2 ⟨k0, k1, ⟨d6, acc, k2, ls, hal, hpl, hpk, kf⟩, nn, fr⟩ hpre
      have hx := (chN_lt l x.1).1 x.2
      obtain ⟨t, r, hch⟩ : ∃ t r, chk l x.1 = t :: r := by
        cases e : chk l x.1 with
        | nil =>
          have := congrArg List.length e
          unfold chk at this; rw [List.length_take, List.length_drop, List.length_nil] at this; omega
        | cons t r => exact ⟨t, r, rfl⟩
      have hD : List.take 6 (List.drop (6 * x.1) (l.map tokD)) = tokD t :: r.map tokD := by
        rw [← List.map_drop, ← List.map_take]
        show (chk l x.1).map tokD = _
        rw [hch]; rfl
      have hmem : ∀ y ∈ t :: r, y ∈ l := fun y hy => by rw [← hch] at hy; exact List.mem_of_mem_drop (List.mem_of_mem_take hy)
      have hrl : r.length ≤ 5 := by
        have := congrArg List.length hch
        unfold chk at this; rw [List.length_take, List.length_cons] at this; omega
      simp -dsimp [rfσ, hD]
      refine ⟨by omega, ?_⟩
      have hrt : ∀ y ∈ r.map (·.text), y.length ≤ 20000 := fun y hy => by
        obtain ⟨z, hz, rfl⟩ := List.mem_map.1 hy
        exact hsz z (hmem z (by simp [hz]))
      have h5 : r.length * 20001 ≤ 5 * 20001 := Nat.mul_le_mul_right _ hrl
      have hjl : (joinB [32] (r.map (·.text))).length ≤ 4000000000 := by
        have h1 := join32_le _ hrt
        rw [List.length_map] at h1; omega
      have hfl : (r.map (·.text)).flatten.length ≤ 4000000000 := by
        have h1 := flat_le _ hrt
        rw [List.length_map] at h1; omega
      refine aCall_of (cLexed hM (l := r) (by omega) hjl (fun y hy => tkc_sp (hcc y (hmem y (by simp [hy])))) _ _) ?_
      rintro d m3 n3 ⟨rfl, rfl, rfl⟩
      simp -dsimp [S]
      refine aCall_of (cVParse hM _ hfl _ _) ?_
      rintro d m3 n3 ⟨rfl, rfl, rfl⟩
      have a0 : n ≠ n3 := by omega
      have a1 : n + 1 ≠ n3 := by omega
      have a2 : n + 1 + 1 ≠ n3 := by omega
      have hpf : pkF (chk l x.1) = (parseR (r.map (·.text)).flatten).map fun v => ⟨t.text, v⟩ := by rw [hch]; rfl
      generalize parseR (r.map (·.text)).flatten = PR at hpf ⊢
      cases PR with
      | none =>
        have hln : lockF l = none := lock_none x.2 (by rw [hpf]; rfl)
        rw [hln] at hlp
        simp only at hlp
        simp -dsimp [vpD, I, code, k0, k1, k2, q1, q1', q2, q2', q3, q3', a0, a1, a2, set_ne]
        intro _ _
        refine hq ⟨⟨_, by rw [hlp]; rfl, by rw [hlp]; exact pub_nil 4⟩, fun j hj => ?_⟩
        simp [Mem.set, show j ≠ n by omega, show j ≠ n + 1 by omega, show j ≠ n3 by omega, fr j hj]
      | some v =>
        simp -dsimp [vpD, verD, nilE, I, k0, k1, k2, q1, q1', q2, q2', q3, q3', a0, a1, a2, set_ne]
        refine vdraw_tree [0, 0, 2, 6, 14, 0, 62, 126, 255, 511] (.rd 0 (.rd 1 (.rd 2 (.rd 3 (.rd 4 (.rd 5 (.rd 6 (.wr (.cons 7 (.wr (.cons 8 (.wr (.cons 9 (.fin) (.nil))) (.nil))) (.nil)))))))))) (by kernel_rfl) (by kernel_rfl) ?_
        simp -dsimp [hD, tokD, I, S, k0, k1, k2, q1, q1', q2, q2', q3, q3', a0, a1, a2, set_ne]
        have hR : ∀ (o o' : V.Obj) (j : Nat), j < n3 → ((m3.set n3 o).set (n3 + 1) o') j = m3 j := fun o o' j hj => by rw [set_ne _ _ _ _ (by omega), set_ne _ _ _ _ (by omega)]
        refine b4_append (ls.frame fun j hj => hR _ _ j (by have := kf j hj; omega)) (fun j hj => by have := kf j hj; omega) trivial trivial (by omega) (by simp; omega) ?_
        intro d5 m5 n5 p1 p2 p3 p4
        have hkd : ∀ j, kof d5 = some j → n + 3 ≤ j ∧ j < n5 := fun j hj => by
          have h := p3 j hj
          rcases h.2 with e | e
          · have := kf j e; omega
          · omega
        have hod := (okD_lst p1).1
        have hcd := (okD_lst p1).2
        have r0 : m5 n = m3 n := by rw [p4 n (by omega) (fun e => by have := kf n e; omega), hR _ _ _ (by omega)]
        have r1 : m5 (n + 1) = m3 (n + 1) := by rw [p4 (n + 1) (by omega) (fun e => by have := kf (n + 1) e; omega), hR _ _ _ (by omega)]
        have r2 : m5 (n + 1 + 1) = m3 (n + 1 + 1) := by rw [p4 (n + 1 + 1) (by omega) (fun e => by have := kf (n + 1 + 1) e; omega), hR _ _ _ (by omega)]
        simp -dsimp [r0, r1, r2, k0, k1, k2, hod, hcd]
        refine ⟨by simp [set_ne, q2', r0, k0], by simp [set_ne, q3', r1, k1], ⟨d5, acc ++ [⟨t.text, v⟩], by simp, ?_, by simp only [List.length_append, List.length_cons, List.length_nil]; omega, by simp only [List.length_append, List.length_cons, List.length_nil]; have hc4 : chN l ≤ 4000 := (by unfold chN; omega); omega, ?_, by simpa using hkd⟩, by omega, fun j hj => ?_⟩
        · rw [List.map_append]
          exact (p1.frame fun j hj => by have := hkd j hj; rw [set_ne _ _ _ _ (by omega)])
        · intro i h h'
          by_cases hi : i < acc.length
          · rw [List.getElem_append_left hi, List.getElem_append_left (by omega)]
            exact hpk i hi (by omega)
          · obtain rfl : i = acc.length := by simp at h; omega
            rw [List.getElem_append_right (by omega), List.getElem_append_right (Nat.le_refl _)]
            simp only [hal, Nat.sub_self, List.getElem_cons_zero]
            rw [hpf]; rfl
        · rw [set_ne _ _ _ _ (by omega), p4 j (by omega) (fun e => by have := kf j e; omega), hR _ _ _ (by omega)]; exact fr j hj
    · rintro m2 n2 ⟨k0, k1, ⟨d6, acc, k2, ls, hal, hpl, hpk, kf⟩, nn, fr⟩
      have hg : acc.length = chN l := by rw [hal]; simp
      have hla := lock_all hcc hg fun i h => by
        have := hpk i h (by rw [← hal]; exact h)
        simpa using this
      simp -dsimp [k0, k1, k2, q1, q1', q2, q2', q3, q3']
      have hpk' : ∀ p ∈ acc, p.pkg.length ≤ 20000 := fun p hp => by
        obtain ⟨i, hi, rfl⟩ := List.getElem_of_mem hp
        obtain ⟨t, ht, e⟩ := pkF_txt (hpk i hi (by omega))
        rw [e]; exact hsz t (List.mem_of_mem_drop (List.mem_of_mem_take ht))
      rw [hla] at hlp
      refine aCall_of (cLockMayL ls (fun p hp => by have := hpk' p hp; omega) (by unfold chN at hg; omega) (fun k h => (kf k h).2)) ?_
      rintro d m3 n3 ⟨rfl, rfl, rfl⟩
      cases hm : mayL acc with
      | false =>
        rw [hm] at hlp
        simp only [Bool.false_eq_true, if_false] at hlp
        simp -dsimp [Tt, k0, k1, k2, q1, q1', q2, q2', q3, q3']
        refine hq ⟨⟨_, by rw [hlp]; rfl, by rw [hlp]; exact pub_nil 4⟩, fun j hj => ?_⟩
        simp [Mem.set, show j ≠ n by omega, show j ≠ n + 1 by omega, fr j hj]
      | true =>
        rw [hm] at hlp
        simp only [if_true] at hlp
        have hod := (okD_lst ls).1
        have hcd := (okD_lst ls).2
        simp -dsimp [Tt, k0, k1, k2, q1, q1', q2, q2', q3, q3', hod, hcd]
        refine hq ⟨⟨d6, by rw [hlp]; rfl, ?_⟩, fun j hj => ?_⟩
        · rw [hlp]
          refine .lstP (ls.frame fun j hj => ?_) (fun k h => by have := kf k h; omega) pur_pks
          have := kf j hj
          simp [Mem.set, show j ≠ n by omega, show j ≠ n + 1 by omega]
        · simp [Mem.set, show j ≠ n by omega, show j ≠ n + 1 by omega, fr j hj]
  · rintro d m' n' ⟨⟨dt, rfl, hp⟩, h⟩
    refine ⟨_, pub_pair hp (Pur.pub ?_), h, rfl⟩
    unfold lpR
    split
    · exact pur_code _
    · split
      · exact pur_spotE _ _
      · split
        · exact pur_nilE
        · exact pur_code _
end Go.Proofs.Mv.App
