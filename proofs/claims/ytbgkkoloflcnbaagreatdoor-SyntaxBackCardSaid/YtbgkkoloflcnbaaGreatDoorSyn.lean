/- A part of the proofs of the seat YtbgkkoloflcnbaaGreatDoor: the abstract machine, the contracts of the functions, the laws. No condition of its own. -/
import Derived.Test.YtbgkkoloflcnbaaGreatDoorLaw
set_option linter.unusedSimpArgs false
set_option linter.unusedVariables false
set_option linter.unusedSectionVars false
open Go Go.Proofs Go.Proofs.Mv.V
set_option maxRecDepth 10000
namespace Go.Proofs.Mv.App
/-- The reader notes the place of what is amiss in cnt. -/
def failS (c : Nat) (p : PS) : PS := if p.bad = 0 then ⟨p.at_, p.at_, c⟩ else p
theorem failS_bad {c : Nat} {p : PS} (h : ¬ p.bad = 0) : failS c p = p := by simp [failS, h]
def errS (p : PS) : D := if p.bad = 0 then nilE else spotE p.cnt p.bad
theorem pur_errS (p : PS) : Pur (errS p) := by
  unfold errS; split
  · exact pur_nilE
  · exact pur_spotE _ _
def sC (l : List Tok) (p : PS) : List D := [toksD l, I p.at_, errS p]
def sObj (l : List Tok) (p : PS) : V.Obj := ⟨3, [sC l p], 0⟩
theorem pur_sObj (l : List Tok) (p : PS) : ∀ e ∈ (sObj l p).es, ∀ d ∈ e, Pur d := by
  intro e he d hd
  simp only [sObj, List.mem_singleton] at he
  subst he
  simp only [sC, List.mem_cons, List.not_mem_nil, or_false] at hd
  rcases hd with rfl | rfl | rfl
  · exact pur_toks _
  · exact pur_I _
  · exact pur_errS _
theorem cSFail {l : List Tok} {p : PS} (c : Nat) (hc : c ≠ 0) {k : Nat} {m : Mem} {n : Nat} (hk : k < n) (hm : m k = some (sObj l p)) :
    ACalls Tryz.prog 64 [.ptr k 0 0 0, I c] m n (fun d m' n' => d = .tup [] ∧ m' = m.set k (sObj l (failS c p)) ∧ n' = n) := by
  have kn : k ≠ n := by omega
  have nk : n ≠ k := by omega
  by_cases hb : p.bad = 0
  · refine acalls_put (R' := Hq (fun d m' n' => d = .tup [] ∧ (∃ q, n ≤ q ∧ m' k = some ⟨3, [[toksD l, I p.at_, .iface 108 (.ptr q 0 0 0)]], 0⟩ ∧ m' q = some ⟨2, [[I p.at_, code c]], 0⟩) ∧ ∀ j, j < n → j ≠ k → m' j = m j) tg) k hk _ ?_ ?_
    · refine acalls_vc [0, 1, 8] Tryz.func64 Tryz.ntmps64 (by kernel_rfl) rfl rfl (by simp) ?_
      simp -dsimp [hm, sObj, sC, errS, hb, nilE, set_ne, kn, nk]
      refine hq ⟨rfl, ⟨n, Nat.le_refl _, by simp, by simp [set_ne, nk, code, I]⟩, fun j hj hjk => ?_⟩
      rw [set_ne _ _ _ _ hjk, set_ne _ _ _ _ (by omega)]
    · rintro d m' n' ⟨rfl, ⟨q, h1, h2, h3⟩, h4⟩
      have hf : failS c p = ⟨p.at_, p.at_, c⟩ := by simp [failS, hb]
      rw [hf]
      refine ⟨_, _, pur_tup0.pub, h2, .cons (.cons (pur_toks l).pub (.cons (pur_I _).pub (.cons ?_ .nil))) .nil, h4, rfl⟩
      simp only [errS, if_neg hc]
      exact .iface (.ptr h3 h1 (.cons (pur_I _).pub (.cons (pur_code _).pub .nil)))
  · rw [failS_bad hb, set_self hm]
    refine acalls_vc [0, 1, 8] Tryz.func64 Tryz.ntmps64 (by kernel_rfl) rfl rfl (by simp) ?_
    simp -dsimp [hm, sObj, sC, errS, hb, spotE]
    done
theorem cNext {l : List Tok} {p : PS} {k : Nat} {m : Mem} {n : Nat} (hk : k < n) (hm : m k = some (sObj l p)) :
    ACalls Tryz.prog 137 [.ptr k 0 0 0] m n (fun d m' n' => d = .agg (peekD l p) ∧ m' = m ∧ n' = n) := by
  have kn : k ≠ n := by omega
  have nk : n ≠ k := by omega
  have fr : ∀ o, ∀ j, j < n → (m.set n o) j = m j := fun o j hj => set_ne _ _ _ _ (by omega)
  refine acalls_done (R' := Hq (fun d m' n' => d = .agg (peekD l p) ∧ ∀ j, j < n → m' j = m j) tg) ?_ ?_
  · refine acalls_vcC [0, 2, 19] Tryz.func137 Tryz.ntmps137 (by kernel_rfl) rfl rfl (by simp) ?_
    by_cases hb : p.bad = 0
    · by_cases ha : p.at_ < l.length
      · have hg : (l.map tokD)[p.at_]? = some (tokD l[p.at_]) := by simp [ha]
        have hl : (l.map tokD).length = l.length := by simp
        have hc : peekD l p = tokD l[p.at_] := by simp [peekD, cur, hb, ha]
        have hle : ¬ (l.length : Int) ≤ p.at_ := by omega
        have htk : tokD l[p.at_] = [I l[p.at_].kind, I l[p.at_].at_, S l[p.at_].text] := rfl
        generalize hL : l.map tokD = L at hg hl
        have hgi : L[p.at_]'(by omega) = tokD l[p.at_] := get_opt hg _
        rw [hc]
        simp -dsimp [hm, sObj, sC, errS, hb, nilE, toksD, hL, hl, I, hle, set_ne, kn, nk]
        refine vdraw_of [0, 1, 3, 7, 15, 31, 63, 127, 255, 511, 63, 1087, 3135, 7231, 15423, 32767, 65535] [0, 1, 2, 3, 4, 5, 6, 7, 8, 9, 10, 11, 12, 13, 14, 15, 16] (by kernel_rfl) (by kernel_rfl) ?_
        simp -dsimp [hm, sObj, sC, errS, hb, nilE, toksD, hL, hl, I, hle, set_ne, kn, nk]
        refine vdraw_of [0, 1, 3, 7, 0, 16, 48, 112, 255, 511, 1023] [0, 1, 2, 3, 4, 5, 6, 7, 8, 9, 10] (by kernel_rfl) (by kernel_rfl) ?_
        simp -dsimp [hm, sObj, sC, errS, hb, nilE, toksD, hL, hl, I, hle, set_ne, kn, nk, hgi, ha, htk]
        exact hq ⟨by simp [htk, I], fr _⟩
      · have hc : peekD l p = [I 0, I 0, S []] := by simp [peekD, cur, hb, ha]
        have hle : (l.length : Int) ≤ p.at_ := by omega
        rw [hc]
        simp -dsimp [hm, sObj, sC, errS, hb, nilE, toksD, I, hle, set_ne, kn, nk]
        refine vdraw_of [0, 1, 3, 7, 15, 31, 63, 127, 255, 511, 63, 1087, 3135, 7231, 15423, 32767, 65535] [0, 1, 2, 3, 4, 5, 6, 7, 8, 9, 10, 11, 12, 13, 14, 15, 16] (by kernel_rfl) (by kernel_rfl) ?_
        simp -dsimp [hm, sObj, sC, errS, hb, nilE, toksD, I, hle, set_ne, kn, nk]
        exact hq ⟨by simp [I, S], fr _⟩
    · have hc : peekD l p = [I 0, I 0, S []] := by simp [peekD, cur, hb]
      rw [hc]
      simp -dsimp [hm, sObj, sC, errS, hb, spotE, set_ne, kn, nk]
      refine vdraw_of [0, 1, 3, 7, 15, 31, 63, 127, 255, 511, 63, 1087, 3135, 7231, 15423, 32767, 65535] [0, 1, 2, 3, 4, 5, 6, 7, 8, 9, 10, 11, 12, 13, 14, 15, 16] (by kernel_rfl) (by kernel_rfl) ?_
      simp -dsimp [hm, sObj, sC, errS, hb, spotE, set_ne, kn, nk]
      exact hq ⟨by simp [I, S], fr _⟩
  · rintro d m' n' ⟨rfl, h⟩
    refine ⟨_, Pur.pub (Pur.agg ?_), h, rfl⟩
    unfold peekD; split
    · exact pur_tok _
    · intro d hd
      simp only [List.mem_cons, List.not_mem_nil, or_false] at hd
      rcases hd with rfl | rfl | rfl
      · exact pur_I _
      · exact pur_I _
      · exact pur_S _
/-- Passes the token at hand, if it is fine. -/
def takeF (fine : Bool) (l : List Tok) (p : PS) : List UInt8 × PS := if fine then (curT l p, stepF p) else ([], failS 2 p)
theorem cTake {l : List Tok} (hl : TkOk l) {p : PS} (fine : Bool) (hf : fine = true → p.bad = 0 ∧ p.at_ < l.length) {k : Nat} {m : Mem} {n : Nat} (hk : k < n) (hm : m k = some (sObj l p)) :
    ACalls Tryz.prog 61 [.ptr k 0 0 0, Tt fine] m n (fun d m' n' => d = S (takeF fine l p).1 ∧ m' = m.set k (sObj l (takeF fine l p).2) ∧ n' = n) := by
  have kn : k ≠ n := by omega
  have nk : n ≠ k := by omega
  have kn1 : k < n + 1 := by omega
  obtain ⟨kd, a, tx, hp⟩ := pk_of hl p
  refine acalls_fin hk (pur_sObj _ _) (fun d h => by rw [h]; exact pur_S _) ?_
  refine acalls_vc [0, 1, 4, 5, 9] Tryz.func61 Tryz.ntmps61 (by kernel_rfl) rfl rfl (by simp) ?_
  simp -dsimp
  refine aCall_of (cNext hk hm) ?_
  rintro d m' n' ⟨rfl, rfl, rfl⟩
  rw [hp.pk]
  cases fine
  · simp -dsimp [Tt, I, S]
    refine aCall_of (cSFail (l := l) (p := p) 2 (by omega) kn1 (by simp [set_ne, kn, hm])) ?_
    rintro d m2 n2 ⟨rfl, rfl, rfl⟩
    simp -dsimp
    refine fin_mk (by simp [takeF, S]) (by simp [takeF]) fun j hj hjk => ?_
    rw [set_ne _ _ _ _ hjk, set_ne _ _ _ _ (by omega)]
  · obtain ⟨hb, ha⟩ := hf rfl
    have wa := wrap_at hl ha
    simp -dsimp [Tt, hm, set_ne, kn, nk, sObj, sC, I, S, wa]
    refine fin_mk (by simp [takeF, hp.tex, S]) ?_ fun j hj hjk => ?_
    · simp [takeF, sObj, sC, errS, hb, stepF, I]
    · rw [set_ne _ _ _ _ hjk, set_ne _ _ _ _ (by omega)]
def isKey (s : List UInt8) (l : List Tok) (p : PS) : Bool := match cur l p with
  | some t => decide (t.kind = 1) && decide (t.text = s)
  | none => false
theorem pk_key {l : List Tok} {p : PS} {kd a : Int} {tx : List UInt8} (hp : Pk l p kd a tx) (s : List UInt8) : isKey s l p = (decide (kd = 1) && decide (tx = s)) := by
  rcases hp.cu with ⟨h, rfl⟩ | h <;> simp [isKey, h]
theorem cYIs {l : List Tok} (hl : TkOk l) {p : PS} (s : List UInt8) {k : Nat} {m : Mem} {n : Nat} (hk : k < n) (hm : m k = some (sObj l p)) :
    ACalls Tryz.prog 62 [.ptr k 0 0 0, S s] m n (fun d m' n' => d = Tt (isKey s l p) ∧ m' = m ∧ n' = n) := by
  have kn : k ≠ n := by omega
  have nk : n ≠ k := by omega
  obtain ⟨kd, a, tx, hp⟩ := pk_of hl p
  refine acalls_done (R' := Hq (fun d m' n' => d = Tt (isKey s l p) ∧ ∀ j, j < n → m' j = m j) tg) ?_ ?_
  · have fr : ∀ o, ∀ j, j < n → (m.set n o) j = m j := fun o j hj => set_ne _ _ _ _ (by omega)
    refine acalls_vc [0, 1, 4, 5] Tryz.func62 Tryz.ntmps62 (by kernel_rfl) rfl rfl (by simp) ?_
    simp -dsimp
    refine aCall_of (cNext hk hm) ?_
    rintro d m' n' ⟨rfl, rfl, rfl⟩
    rw [hp.pk, pk_key hp]
    by_cases e1 : kd = 1
    · by_cases e : tx = s
      · have e' : (tx == s) = true := by simp [e]
        simp -dsimp [I, S, e1, e', hm, set_ne, kn, nk]
        exact hq ⟨by simp [e, e1, Tt], fr _⟩
      · have e' : (tx == s) = false := by simp [e]
        simp -dsimp [I, S, e1, e', hm, set_ne, kn, nk]
        exact hq ⟨by simp [e, Tt], fr _⟩
    · have e1' : (kd == 1) = false := by simp [e1]
      simp -dsimp [I, S, e1', hm, set_ne, kn, nk]
      exact hq ⟨by simp [e1, Tt], fr _⟩
  · rintro d m' n' ⟨rfl, h⟩
    exact ⟨_, (pur_T _).pub, h, rfl⟩
def mustS (s : List UInt8) (l : List Tok) (p : PS) : PS := (takeF (isSig s l p) l p).2
def nameS (g : Bool) (l : List Tok) (p : PS) : List UInt8 × PS := takeF (isNam g l p) l p
def numS (l : List Tok) (p : PS) : PS := (takeF (isNum l p) l p).2
theorem cYSign {l : List Tok} (hl : TkOk l) {p : PS} (s : List UInt8) {k : Nat} {m : Mem} {n : Nat} (hk : k < n) (hm : m k = some (sObj l p)) :
    ACalls Tryz.prog 140 [.ptr k 0 0 0, S s] m n (fun d m' n' => d = .tup [] ∧ m' = m.set k (sObj l (mustS s l p)) ∧ n' = n) := by
  have kn : k ≠ n := by omega
  have nk : n ≠ k := by omega
  have kn1 : k < n + 1 := by omega
  obtain ⟨kd, a, tx, hp⟩ := pk_of hl p
  have hf : (takeF (isSig s l p) l p).2 = mustS s l p := rfl
  have hok : isSig s l p = true → p.bad = 0 ∧ p.at_ < l.length := fun h => by rw [hp.sig] at h; simp at h; exact hp.ok (by omega)
  rw [← hf]
  refine acalls_fin hk (pur_sObj _ _) (fun d h => by rw [h]; exact pur_tup0) ?_
  refine acalls_vc [0, 1, 4] Tryz.func140 Tryz.ntmps140 (by kernel_rfl) rfl rfl (by simp) ?_
  simp -dsimp
  refine aCall_of (cNext hk hm) ?_
  rintro d m' n' ⟨rfl, rfl, rfl⟩
  rw [hp.pk]
  have hs := hp.sig s
  by_cases e4 : kd = 4
  · by_cases e : tx = s
    · have e' : (tx == s) = true := by simp [e]
      have he : isSig s l p = true := by rw [hs]; simp [e4, e]
      rw [he]
      simp -dsimp [I, S, e4, e', hm, set_ne, kn, nk]
      refine aCall_of (cTake hl (p := p) true (fun _ => hok he) kn1 (by simp [set_ne, kn, hm])) ?_
      rintro d m2 n2 ⟨rfl, rfl, rfl⟩
      simp -dsimp
      refine fin_mk rfl (by simp) fun j hj hjk => ?_
      rw [set_ne _ _ _ _ hjk, set_ne _ _ _ _ (by omega)]
    · have e' : (tx == s) = false := by simp [e]
      have he : isSig s l p = false := by rw [hs]; simp [e]
      rw [he]
      simp -dsimp [I, S, e4, e', hm, set_ne, kn, nk]
      refine aCall_of (cTake hl (p := p) false (fun h => by cases h) kn1 (by simp [set_ne, kn, hm])) ?_
      rintro d m2 n2 ⟨rfl, rfl, rfl⟩
      simp -dsimp
      refine fin_mk rfl (by simp) fun j hj hjk => ?_
      rw [set_ne _ _ _ _ hjk, set_ne _ _ _ _ (by omega)]
  · have e4' : (kd == 4) = false := by simp [e4]
    have he : isSig s l p = false := by rw [hs]; simp [e4]
    rw [he]
    simp -dsimp [I, S, e4', hm, set_ne, kn, nk]
    refine aCall_of (cTake hl (p := p) false (fun h => by cases h) kn1 (by simp [set_ne, kn, hm])) ?_
    rintro d m2 n2 ⟨rfl, rfl, rfl⟩
    simp -dsimp
    refine fin_mk rfl (by simp) fun j hj hjk => ?_
    rw [set_ne _ _ _ _ hjk, set_ne _ _ _ _ (by omega)]
theorem cYSmall {l : List Tok} (hl : TkOk l) {p : PS} {k : Nat} {m : Mem} {n : Nat} (hk : k < n) (hm : m k = some (sObj l p)) :
    ACalls Tryz.prog 63 [.ptr k 0 0 0] m n (fun d m' n' => d = S (nameS false l p).1 ∧ m' = m.set k (sObj l (nameS false l p).2) ∧ n' = n) := by
  have kn : k ≠ n := by omega
  have nk : n ≠ k := by omega
  have kn1 : k < n + 1 := by omega
  obtain ⟨kd, a, tx, hp⟩ := pk_of hl p
  have hs := hp.nam false
  have hlen := hp.len
  have hf : nameS false l p = takeF (isNam false l p) l p := rfl
  have hok : isNam false l p = true → p.bad = 0 ∧ p.at_ < l.length := fun h => by rw [hs] at h; simp at h; exact hp.ok (by omega)
  rw [hf]
  refine acalls_fin hk (pur_sObj _ _) (fun d h => by rw [h]; exact pur_S _) ?_
  refine acalls_vc [0, 2, 3] Tryz.func63 Tryz.ntmps63 (by kernel_rfl) rfl rfl (by simp) ?_
  simp -dsimp
  refine aCall_of (cNext hk hm) ?_
  rintro d m' n' ⟨rfl, rfl, rfl⟩
  rw [hp.pk]
  by_cases e4 : kd = 1
  · simp -dsimp [I, S, e4, hm, set_ne, kn, nk]
    refine aCall_of (cSmall tx (by omega) _ _) ?_
    rintro d m2 n2 ⟨rfl, rfl, rfl⟩
    cases eo : namOk false tx
    · have eo' := eo
      simp only [namOk, if_true, if_false, Bool.false_eq_true] at eo'
      have he : isNam false l p = false := by rw [hs]; simp [eo]
      rw [he, eo']
      simp -dsimp [Tt]
      refine aCall_of (cTake hl (p := p) false (fun h => by cases h) kn1 (by simp [set_ne, kn, hm])) ?_
      rintro d m2 n2 ⟨rfl, rfl, rfl⟩
      simp -dsimp [S]
      refine fin_mk rfl (by simp) fun j hj hjk => ?_
      rw [set_ne _ _ _ _ hjk, set_ne _ _ _ _ (by omega)]
    · have eo' := eo
      simp only [namOk, if_true, if_false, Bool.false_eq_true] at eo'
      have he : isNam false l p = true := by rw [hs]; simp [e4, eo]
      rw [he, eo']
      simp -dsimp [Tt]
      refine aCall_of (cTake hl (p := p) true (fun _ => hok he) kn1 (by simp [set_ne, kn, hm])) ?_
      rintro d m2 n2 ⟨rfl, rfl, rfl⟩
      simp -dsimp [S]
      refine fin_mk rfl (by simp) fun j hj hjk => ?_
      rw [set_ne _ _ _ _ hjk, set_ne _ _ _ _ (by omega)]
  · have e4' : (kd == 1) = false := by simp [e4]
    have he : isNam false l p = false := by rw [hs]; simp [e4]
    rw [he]
    simp -dsimp [I, S, e4', hm, set_ne, kn, nk]
    refine aCall_of (cTake hl (p := p) false (fun h => by cases h) kn1 (by simp [set_ne, kn, hm])) ?_
    rintro d m2 n2 ⟨rfl, rfl, rfl⟩
    simp -dsimp [S]
    refine fin_mk rfl (by simp) fun j hj hjk => ?_
    rw [set_ne _ _ _ _ hjk, set_ne _ _ _ _ (by omega)]
theorem cYGreat {l : List Tok} (hl : TkOk l) {p : PS} {k : Nat} {m : Mem} {n : Nat} (hk : k < n) (hm : m k = some (sObj l p)) :
    ACalls Tryz.prog 139 [.ptr k 0 0 0] m n (fun d m' n' => d = S (nameS true l p).1 ∧ m' = m.set k (sObj l (nameS true l p).2) ∧ n' = n) := by
  have kn : k ≠ n := by omega
  have nk : n ≠ k := by omega
  have kn1 : k < n + 1 := by omega
  obtain ⟨kd, a, tx, hp⟩ := pk_of hl p
  have hs := hp.nam true
  have hlen := hp.len
  have hf : nameS true l p = takeF (isNam true l p) l p := rfl
  have hok : isNam true l p = true → p.bad = 0 ∧ p.at_ < l.length := fun h => by rw [hs] at h; simp at h; exact hp.ok (by omega)
  rw [hf]
  refine acalls_fin hk (pur_sObj _ _) (fun d h => by rw [h]; exact pur_S _) ?_
  refine acalls_vc [0, 2, 3] Tryz.func139 Tryz.ntmps139 (by kernel_rfl) rfl rfl (by simp) ?_
  simp -dsimp
  refine aCall_of (cNext hk hm) ?_
  rintro d m' n' ⟨rfl, rfl, rfl⟩
  rw [hp.pk]
  by_cases e4 : kd = 2
  · simp -dsimp [I, S, e4, hm, set_ne, kn, nk]
    refine aCall_of (cGreat tx (by omega) _ _) ?_
    rintro d m2 n2 ⟨rfl, rfl, rfl⟩
    cases eo : namOk true tx
    · have eo' := eo
      simp only [namOk, if_true, if_false, Bool.false_eq_true] at eo'
      have he : isNam true l p = false := by rw [hs]; simp [eo]
      rw [he, eo']
      simp -dsimp [Tt]
      refine aCall_of (cTake hl (p := p) false (fun h => by cases h) kn1 (by simp [set_ne, kn, hm])) ?_
      rintro d m2 n2 ⟨rfl, rfl, rfl⟩
      simp -dsimp [S]
      refine fin_mk rfl (by simp) fun j hj hjk => ?_
      rw [set_ne _ _ _ _ hjk, set_ne _ _ _ _ (by omega)]
    · have eo' := eo
      simp only [namOk, if_true, if_false, Bool.false_eq_true] at eo'
      have he : isNam true l p = true := by rw [hs]; simp [e4, eo]
      rw [he, eo']
      simp -dsimp [Tt]
      refine aCall_of (cTake hl (p := p) true (fun _ => hok he) kn1 (by simp [set_ne, kn, hm])) ?_
      rintro d m2 n2 ⟨rfl, rfl, rfl⟩
      simp -dsimp [S]
      refine fin_mk rfl (by simp) fun j hj hjk => ?_
      rw [set_ne _ _ _ _ hjk, set_ne _ _ _ _ (by omega)]
  · have e4' : (kd == 2) = false := by simp [e4]
    have he : isNam true l p = false := by rw [hs]; simp [e4]
    rw [he]
    simp -dsimp [I, S, e4', hm, set_ne, kn, nk]
    refine aCall_of (cTake hl (p := p) false (fun h => by cases h) kn1 (by simp [set_ne, kn, hm])) ?_
    rintro d m2 n2 ⟨rfl, rfl, rfl⟩
    simp -dsimp [S]
    refine fin_mk rfl (by simp) fun j hj hjk => ?_
    rw [set_ne _ _ _ _ hjk, set_ne _ _ _ _ (by omega)]
set_option maxHeartbeats 1000000 in
theorem cYMajor {l : List Tok} (hl : TkOk l) {p : PS} {k : Nat} {m : Mem} {n : Nat} (hk : k < n) (hm : m k = some (sObj l p)) :
    ACalls Tryz.prog 138 [.ptr k 0 0 0] m n (fun d m' n' => (∃ x : Int, d = I x ∧ (isNum l p = true → x = decF (curT l p))) ∧ m' = m.set k (sObj l (numS l p)) ∧ n' = n) := by
  have kn : k ≠ n := by omega
  have nk : n ≠ k := by omega
  have kn1 : k < n + 1 := by omega
  obtain ⟨kd, a, tx, hp⟩ := pk_of hl p
  refine acalls_fin (X := fun d => ∃ x : Int, d = I x ∧ (isNum l p = true → x = decF (curT l p))) hk (pur_sObj _ _) (fun d h => by obtain ⟨x, rfl, _⟩ := h; exact pur_I _) ?_
  refine acalls_vc [0, 2, 3, 4, 5] Tryz.func138 Tryz.ntmps138 (by kernel_rfl) rfl rfl (by simp) ?_
  simp -dsimp [I]
  refine aCall_of (cNext hk hm) ?_
  rintro d m' n' ⟨rfl, rfl, rfl⟩
  rw [hp.pk]
  have hn := hp.num
  have hlen := hp.len
  simp -dsimp [I, S]
  refine aCall_of (cParseUint tx (by omega) _ _) ?_
  rintro d m2 n2 ⟨x, e, rfl, hx, rfl, rfl⟩
  by_cases e3 : kd = 3
  case neg =>
    have e3' : (kd == 3) = false := by simp [e3]
    have hfa : isNum l p = false := by rw [hn]; simp [e3]
    simp -dsimp [I, S, hm, set_ne, kn, nk, e3']
    refine aCall_of (cTake hl (p := p) false (fun h => by cases h) kn1 (by simp [set_ne, kn, hm])) ?_
    rintro d m2 n2 ⟨rfl, rfl, rfl⟩
    simp -dsimp
    refine fin_mk ⟨_, rfl, fun h => by rw [hfa] at h; cases h⟩ (by simp [numS, hfa]) fun j hj hjk => ?_
    rw [set_ne _ _ _ _ hjk, set_ne _ _ _ _ (by omega)]
  cases hu : okU (Lib.parseUintB 32 tx) with
  | none =>
    rw [hu] at hx
    obtain ⟨t, rfl⟩ := hx
    have hfa : isNum l p = false := by rw [hn]; simp [numOk_no hu]
    simp -dsimp [I, S, hm, set_ne, kn, nk, e3]
    refine aCall_of (cTake hl (p := p) false (fun h => by cases h) kn1 (by simp [set_ne, kn, hm])) ?_
    rintro d m2 n2 ⟨rfl, rfl, rfl⟩
    simp -dsimp
    refine fin_mk ⟨_, rfl, fun h => by rw [hfa] at h; cases h⟩ (by simp [numS, hfa]) fun j hj hjk => ?_
    rw [set_ne _ _ _ _ hjk, set_ne _ _ _ _ (by omega)]
  | some u =>
    rw [hu] at hx
    obtain ⟨rfl, rfl⟩ := hx
    have hpu := okU_some hu
    by_cases u1 : (1 : Int) ≤ (u : Int)
    case neg =>
      have u1' : ¬ 1 ≤ u := by omega
      have u0 : u = 0 := by omega
      have hfa : isNum l p = false := by
        rw [hn]; cases q : numOk tx
        · simp
        · have := of_numOk q; rw [hpu] at this; simp at this; omega
      simp -dsimp [I, S, hm, set_ne, kn, nk, e3, u1, u1', u0, nilE]
      refine aCall_of (cTake hl (p := p) false (fun h => by cases h) kn1 (by simp [set_ne, kn, hm])) ?_
      rintro d m2 n2 ⟨rfl, rfl, rfl⟩
      simp -dsimp
      refine fin_mk ⟨_, rfl, fun h => by rw [hfa] at h; cases h⟩ (by simp [numS, hfa]) fun j hj hjk => ?_
      rw [set_ne _ _ _ _ hjk, set_ne _ _ _ _ (by omega)]
    have u1' : 1 ≤ u := by omega
    by_cases u2 : (u : Int) ≤ 999999999
    case neg =>
      have u2' : ¬ u ≤ 999999999 := by omega
      have hfa : isNum l p = false := by
        rw [hn]; cases q : numOk tx
        · simp
        · have := of_numOk q; rw [hpu] at this; simp at this; omega
      simp -dsimp [I, S, hm, set_ne, kn, nk, e3, u1, u1', u2, u2', nilE]
      refine aCall_of (cTake hl (p := p) false (fun h => by cases h) kn1 (by simp [set_ne, kn, hm])) ?_
      rintro d m2 n2 ⟨rfl, rfl, rfl⟩
      simp -dsimp
      refine fin_mk ⟨_, rfl, fun h => by rw [hfa] at h; cases h⟩ (by simp [numS, hfa]) fun j hj hjk => ?_
      rw [set_ne _ _ _ _ hjk, set_ne _ _ _ _ (by omega)]
    have u2' : u ≤ 999999999 := by omega
    obtain ⟨y, r, rfl⟩ : ∃ y r, tx = y :: r := by
      cases tx with
      | nil => simp [Lib.parseUintB] at hpu
      | cons y r => exact ⟨_, _, rfl⟩
    by_cases u3 : y.toNat = 48
    · have hy : y = 48 := UInt8.toNat_inj.1 u3
      have hfa : isNum l p = false := by
        rw [hn]; cases q : numOk (y :: r)
        · simp
        · exact absurd (by simp [hy]) (of_numOk q).2.2.2.1
      clear hy
      simp -dsimp [I, S, hm, set_ne, kn, nk, e3, u1, u1', u2, u2', u3, nilE]
      refine aCall_of (cTake hl (p := p) false (fun h => by cases h) kn1 (by simp [set_ne, kn, hm])) ?_
      rintro d m2 n2 ⟨rfl, rfl, rfl⟩
      simp -dsimp
      refine fin_mk ⟨_, rfl, fun h => by rw [hfa] at h; cases h⟩ (by simp [numS, hfa]) fun j hj hjk => ?_
      rw [set_ne _ _ _ _ hjk, set_ne _ _ _ _ (by omega)]
    have u3' : ((y.toNat : Int) != 48) = true := by simp; omega
    obtain ⟨q1, q2⟩ := numOk_of hpu (by omega) (by omega) (by simp; intro h; exact u3 (by rw [h]; rfl))
    have htr : isNum l p = true := by rw [hn]; simp [e3, q1]
    have hba := hp.ok (by omega)
    have wu : IntKind.i64.wrap (u : Int) = u := wrap_i64 (by omega) (by omega)
    simp -dsimp [I, S, hm, set_ne, kn, nk, e3, u1, u1', u2, u2', u3', nilE]
    refine aCall_of (cTake hl (p := p) true (fun _ => hba) kn1 (by simp [set_ne, kn, hm])) ?_
    rintro d m2 n2 ⟨rfl, rfl, rfl⟩
    simp -dsimp [wu]
    refine fin_mk ⟨_, rfl, fun h => by simp [hp.tex, q2]⟩ (by simp [numS, htr]) fun j hj hjk => ?_
    rw [set_ne _ _ _ _ hjk, set_ne _ _ _ _ (by omega)]
end Go.Proofs.Mv.App
open Go Go.Proofs Go.Proofs.Mv.V
set_option maxRecDepth 10000
namespace Go.Proofs.Mv.App
def typS (l : List Tok) (p : PS) : Ty × PS :=
  if p.bad = 0 then match (atF l p.at_).2.2 with
    | some (a, c) => (Ty0, ⟨0, a.toNat, c⟩)
    | none => ((atF l p.at_).1, ⟨(atF l p.at_).2.1, p.cnt, 0⟩)
  else (Ty0, p)
theorem atF_nn {l : List Tok} {q : Nat} {a : Int} {c : Nat} (h : (atF l (q : Int)).2.2 = some (a, c)) : 0 ≤ a := by
  unfold atF at h
  split at h
  · simp at h; omega
  · split at h
    · simp at h; omega
    · cases h
set_option maxHeartbeats 1000000 in
theorem cYTyp {l : List Tok} (hl : TkOk l) {p : PS} {k : Nat} {m : Mem} {n : Nat} (hk : k < n) (hm : m k = some (sObj l p)) :
    ACalls Tryz.prog 141 [.ptr k 0 0 0] m n (fun d m' n' => d = .agg (tyD (typS l p).1) ∧ m' = m.set k (sObj l (typS l p).2) ∧ n' = n) := by
  have kn : k ≠ n := by omega
  have nk : n ≠ k := by omega
  refine acalls_put (X := fun d => d = .agg (tyD (typS l p).1)) (R' := Hq (fun d m' n' => PubAs n m' d (.agg (tyD (typS l p).1)) ∧ m' k = some (sObj l (typS l p).2) ∧ ∀ j, j < n → j ≠ k → m' j = m j) tg) k hk _ ?_ ?_
  · refine acalls_vcC [0, 2, 3, 4, 5, 10] Tryz.func141 Tryz.ntmps141 (by kernel_rfl) rfl rfl (by simp) ?_
    by_cases hb : p.bad = 0
    case neg =>
      have e : typS l p = (Ty0, p) := by rw [typS, if_neg hb]
      rw [e]
      simp -dsimp [hm, sObj, sC, errS, hb, spotE, set_ne, kn, nk]
      refine hq ⟨by simpa [I, S] using pub_ty0, by simp [hm, set_ne, kn, sObj, sC, errS, hb, spotE], fun j hj hjk => by rw [set_ne _ _ _ _ (by omega)]⟩
    have e : typS l p = match (atF l p.at_).2.2 with
      | some (a, c) => (Ty0, ⟨0, a.toNat, c⟩)
      | none => ((atF l p.at_).1, ⟨(atF l p.at_).2.1, p.cnt, 0⟩) := by rw [typS, if_pos hb]
    rw [e]
    simp -dsimp [hm, sObj, sC, errS, hb, nilE, set_ne, kn, nk]
    refine vdraw_tree [0, 1, 3, 7, 0, 16, 48, 112, 255, 511, 1023, 1023, 1023, 0, 10239, 28671, 65535] (.rd 0 (.rd 1 (.rd 2 (.rd 3 (.rd 4 (.rd 5 (.rd 6 (.rd 7 (.wr (.cons 8 (.rd 9 (.rd 10 (.rd 11 (.rd 12 (.wr (.cons 13 (.wr (.cons 14 (.rd 15 (.rd 16 (.fin))) (.nil))) (.nil))))))) (.cons 13 (.wr (.cons 8 (.rd 9 (.rd 10 (.rd 11 (.rd 12 (.wr (.cons 14 (.rd 15 (.rd 16 (.fin))) (.nil))))))) (.nil))) (.nil)))))))))))) (by kernel_rfl) (by kernel_rfl) ?_
    simp -dsimp [hm, sObj, sC, errS, hb, nilE, set_ne, kn, nk]
    have hab := fun a c => atF_bad (l := l) (i := p.at_) (a := a) (c := c)
    have hnn := fun a c => atF_nn (l := l) (q := p.at_) (a := a) (c := c)
    have hat := fun m n => cAt hl (p.at_ : Int) m n
    generalize atF l p.at_ = A at hab hnn hat ⊢
    have kn1 : k ≠ n + 1 := by omega
    have n1k : n + 1 ≠ k := by omega
    have nn1 : n ≠ n + 1 := by omega
    have n1n : n + 1 ≠ n := by omega
    refine ⟨?_, ?_⟩
    · refine aCall_of (hat _ _) ?_
      rintro d m' n' ⟨rfl, rfl, rfl⟩
      obtain ⟨t, nx, o⟩ := A
      cases o with
      | none =>
        simp -dsimp [hm, sObj, sC, errS, hb, nilE, set_ne, kn, nk, kn1, n1k, nn1, n1n, errO, I]
        refine hq ⟨(pur_tyA _).pub, by simp [hm, sObj, sC, errS, hb, nilE, set_ne, kn, nk, kn1, n1k, nn1, n1n, errO, I], fun j hj hjk => ?_⟩
        have j1 : j ≠ n := by omega
        have j2 : j ≠ n + 1 := by omega
        try simp [set_ne, hjk, j1, j2]
      | some x =>
        obtain ⟨a, c⟩ := x
        obtain ⟨hc, ht, hnx⟩ := hab a c rfl
        have h0 := hnn a c rfl
        simp only at ht hnx
        subst ht; subst hnx
        simp -dsimp [hm, sObj, sC, errS, hb, nilE, set_ne, kn, nk, kn1, n1k, nn1, n1n, errO, I, spotE]
        refine hq ⟨(pur_tyA _).pub, by simp [hm, sObj, sC, errS, hb, nilE, set_ne, kn, nk, kn1, n1k, nn1, n1n, errO, I, hc, spotE, Int.toNat_of_nonneg h0], fun j hj hjk => ?_⟩
        have j1 : j ≠ n := by omega
        have j2 : j ≠ n + 1 := by omega
        try simp [set_ne, hjk, j1, j2]
    · simp -dsimp [hm, sObj, sC, errS, hb, nilE, set_ne, kn, nk, kn1, n1k, nn1, n1n, errO, I]
      refine aCall_of (hat _ _) ?_
      rintro d m' n' ⟨rfl, rfl, rfl⟩
      obtain ⟨t, nx, o⟩ := A
      cases o with
      | none =>
        simp -dsimp [hm, sObj, sC, errS, hb, nilE, set_ne, kn, nk, kn1, n1k, nn1, n1n, errO, I]
        refine hq ⟨(pur_tyA _).pub, by simp [hm, sObj, sC, errS, hb, nilE, set_ne, kn, nk, kn1, n1k, nn1, n1n, errO, I], fun j hj hjk => ?_⟩
        have j1 : j ≠ n := by omega
        have j2 : j ≠ n + 1 := by omega
        try simp [set_ne, hjk, j1, j2]
      | some x =>
        obtain ⟨a, c⟩ := x
        obtain ⟨hc, ht, hnx⟩ := hab a c rfl
        have h0 := hnn a c rfl
        simp only at ht hnx
        subst ht; subst hnx
        simp -dsimp [hm, sObj, sC, errS, hb, nilE, set_ne, kn, nk, kn1, n1k, nn1, n1n, errO, I, spotE]
        refine hq ⟨(pur_tyA _).pub, by simp [hm, sObj, sC, errS, hb, nilE, set_ne, kn, nk, kn1, n1k, nn1, n1n, errO, I, hc, spotE, Int.toNat_of_nonneg h0], fun j hj hjk => ?_⟩
        have j1 : j ≠ n := by omega
        have j2 : j ≠ n + 1 := by omega
        try simp [set_ne, hjk, j1, j2]
  · rintro d m' n' ⟨h1, h3, h4⟩
    exact ⟨.agg (tyD (typS l p).1), _, h1, h3, .pur (pur_sObj _ _), h4, rfl⟩
theorem takeF_ok {f : Bool} {l : List Tok} {p : PS} (h : (takeF f l p).2.bad = 0) : f = true ∧ p.bad = 0 := by
  cases f with
  | true => exact ⟨rfl, by simpa [takeF, stepF] using h⟩
  | false =>
    simp only [takeF, failS, Bool.false_eq_true, if_false] at h
    split at h
    · simp at h
    · rename_i h1; exact absurd h h1
theorem key_ok {l : List Tok} (hl : TkOk l) {p : PS} {s : List UInt8} (h : isKey s l p = true) : p.bad = 0 ∧ p.at_ < l.length := by
  obtain ⟨kd, a, tx, hp⟩ := pk_of hl p
  rw [pk_key hp] at h; simp at h
  exact hp.ok (by omega)
theorem typS_ok {l : List Tok} {p : PS} (h : (typS l p).2.bad = 0) : p.bad = 0 := by
  by_cases hb : p.bad = 0
  · exact hb
  · rw [typS, if_neg hb] at h; exact h
structure Imp where
  pkg : List UInt8
  major : Int
  mod : List UInt8
  as_ : List UInt8
def impD (i : Imp) : List D := [S i.pkg, I i.major, S i.mod, S i.as_]
def wAs : List UInt8 := [97, 115]
def imp1 (l : List Tok) (p : PS) : List UInt8 × PS := nameS false l p
def imp2 (l : List Tok) (p : PS) : PS := numS l (imp1 l p).2
def imp3 (l : List Tok) (p : PS) : List UInt8 × PS := nameS false l (imp2 l p)
def imp4 (l : List Tok) (p : PS) : PS := (takeF (isKey wAs l (imp3 l p).2) l (imp3 l p).2).2
def imp5 (l : List Tok) (p : PS) : List UInt8 × PS := nameS false l (imp4 l p)
def impF (l : List Tok) (p : PS) : Imp × PS := (⟨(imp1 l p).1, decF (curT l (imp1 l p).2), (imp3 l p).1, (imp5 l p).1⟩, (imp5 l p).2)
theorem impF_ok {l : List Tok} {p : PS} (h : (impF l p).2.bad = 0) : isNum l (imp1 l p).2 = true ∧ p.bad = 0 := by
  have h5 := takeF_ok (show (takeF _ l (imp4 l p)).2.bad = 0 from h)
  have h4 := takeF_ok (show (takeF _ l (imp3 l p).2).2.bad = 0 from h5.2)
  have h3 := takeF_ok (show (takeF _ l (imp2 l p)).2.bad = 0 from h4.2)
  have h2 := takeF_ok (show (takeF _ l (imp1 l p).2).2.bad = 0 from h3.2)
  have h1 := takeF_ok (show (takeF _ l p).2.bad = 0 from h2.2)
  exact ⟨h2.1, h1.2⟩
theorem pur_imp (i : Imp) : Pur (.agg (impD i)) := Pur.agg (by
  intro d hd
  simp only [impD, List.mem_cons, List.not_mem_nil, or_false] at hd
  rcases hd with rfl | rfl | rfl | rfl
  · exact pur_S _
  · exact pur_I _
  · exact pur_S _
  · exact pur_S _)
set_option maxHeartbeats 1000000 in
theorem cYImp {l : List Tok} (hl : TkOk l) {p : PS} {k : Nat} {m : Mem} {n : Nat} (hk : k < n) (hm : m k = some (sObj l p)) :
    ACalls Tryz.prog 65 [.ptr k 0 0 0] m n (fun d m' n' => (∃ i, d = .agg (impD i) ∧ ((impF l p).2.bad = 0 → i = (impF l p).1)) ∧ m' = m.set k (sObj l (impF l p).2) ∧ n' = n) := by
  have kn : k ≠ n := by omega
  have nk : n ≠ k := by omega
  have kn1 : k ≠ n + 1 := by omega
  have n1k : n + 1 ≠ k := by omega
  have nn1 : n ≠ n + 1 := by omega
  have n1n : n + 1 ≠ n := by omega
  have k1 : k < n + 1 := by omega
  have k2 : k < n + 1 + 1 := by omega
  have hnum := @impF_ok l p
  refine acalls_fin (X := fun d => ∃ i, d = .agg (impD i) ∧ ((impF l p).2.bad = 0 → i = (impF l p).1)) hk (pur_sObj _ _) (fun d h => by obtain ⟨i, rfl, _⟩ := h; exact pur_imp _) ?_
  refine acalls_vcC [0, 2, 3] Tryz.func65 Tryz.ntmps65 (by kernel_rfl) rfl rfl (by simp) ?_
  simp -dsimp
  refine aCall_of (cYSmall hl (p := p) k1 (by simp [set_ne, kn, hm])) ?_
  rintro d m2 n2 ⟨rfl, rfl, rfl⟩
  change _
  have e1 : nameS false l p = imp1 l p := rfl
  rw [e1]
  simp -dsimp
  refine aCall_of (cYMajor hl (p := (imp1 l p).2) k1 (by simp)) ?_
  rintro d m2 n2 ⟨⟨x, rfl, hx⟩, rfl, rfl⟩
  have e2 : numS l (imp1 l p).2 = imp2 l p := rfl
  rw [e2]
  simp -dsimp [I, S]
  refine aCall_of (cYSmall hl (p := imp2 l p) k2 (by simp [set_ne, kn, kn1])) ?_
  rintro d m2 n2 ⟨rfl, rfl, rfl⟩
  have e3 : nameS false l (imp2 l p) = imp3 l p := rfl
  rw [e3]
  simp -dsimp [I, S, set_ne, kn, nk, kn1, n1k, nn1, n1n]
  refine aCall_of (cYIs hl (p := (imp3 l p).2) wAs k2 (by simp [set_ne, kn, kn1])) ?_
  rintro d m2 n2 ⟨rfl, rfl, rfl⟩
  simp -dsimp
  refine aCall_of (cTake hl (p := (imp3 l p).2) (isKey wAs l (imp3 l p).2) (fun h => key_ok hl h) k2 (by simp [set_ne, kn, kn1])) ?_
  rintro d m2 n2 ⟨rfl, rfl, rfl⟩
  have e4 : (takeF (isKey wAs l (imp3 l p).2) l (imp3 l p).2).2 = imp4 l p := rfl
  rw [e4]
  simp -dsimp
  refine aCall_of (cYSmall hl (p := imp4 l p) k2 (by simp [set_ne, kn, kn1])) ?_
  rintro d m2 n2 ⟨rfl, rfl, rfl⟩
  have e5 : nameS false l (imp4 l p) = imp5 l p := rfl
  rw [e5]
  simp -dsimp [I, S, set_ne, kn, nk, kn1, n1k, nn1, n1n]
  refine fin_mk ⟨⟨(imp1 l p).1, x, (imp3 l p).1, (imp5 l p).1⟩, rfl, fun h => ?_⟩ (by simp [set_ne, kn, kn1, impF]) fun j hj hjk => ?_
  · rw [hx (hnum h).1]; rfl
  · have j1 : j ≠ n := by omega
    have j2 : j ≠ n + 1 := by omega
    simp [set_ne, hjk, j1, j2]
end Go.Proofs.Mv.App
open Go Go.Proofs Go.Proofs.Mv.V
set_option maxRecDepth 10000
namespace Go.Proofs.Mv.App
structure Dcl where
  kind : Int
  name : List UInt8
  typ : Ty
def dclD (d : Dcl) : List D := I d.kind :: S d.name :: tyD d.typ
theorem pur_dcl (d : Dcl) : ∀ x ∈ dclD d, Pur x := by
  intro x hx
  simp only [dclD, List.mem_cons] at hx
  rcases hx with rfl | rfl | hx
  · exact pur_I _
  · exact pur_S _
  · exact pur_ty _ x hx
def wOpa : List UInt8 := [111, 112, 97, 113, 117, 101]
def wHid : List UInt8 := [104, 105, 100, 100, 101, 110]
def wAli : List UInt8 := [97, 108, 105, 97, 115]
def wVal : List UInt8 := [118, 97, 108]
def dclN (kd : Int) (l : List Tok) (q : PS) : Dcl × PS := (⟨kd, (nameS true l q).1, Ty0⟩, (nameS true l q).2)
def dclT (kd : Int) (g : Bool) (s : List UInt8) (l : List Tok) (q : PS) : Dcl × PS := (⟨kd, (nameS g l q).1, (typS l (mustS s l (nameS g l q).2)).1⟩, (typS l (mustS s l (nameS g l q).2)).2)
def declF (l : List Tok) (p : PS) : Dcl × PS :=
  if curT l p = wOpa then dclN 1 l (stepF p)
  else if curT l p = wHid then dclN 2 l (stepF p)
  else if curT l p = wAli then dclT 3 true [61] l (stepF p)
  else dclT 4 false [58] l (stepF p)
theorem sObj_step {l : List Tok} {p : PS} (h : p.bad = 0) : sObj l (stepF p) = ⟨3, [[toksD l, .v (.int .i64 ((p.at_ : Int) + 1)), .v .nilIface]], 0⟩ := by
  simp [sObj, sC, stepF, errS, h, I, nilE]
theorem pub_decl {n : Nat} {m : Mem} (kd : Int) (a : List UInt8) : PubAs n m (.agg [I kd, S a, I 0, S [], I 0, S [], S [], .v (.slice none 0 0), .v (.slice none 0 0)]) (.agg (dclD ⟨kd, a, Ty0⟩)) := by
  simp only [dclD, tyD_zero]
  exact .agg (.cons (pur_I _).pub (.cons (pur_S _).pub (.cons (pur_I _).pub (.cons (pur_S _).pub (.cons (pur_I _).pub (.cons (pur_S _).pub (.cons (pur_S _).pub (.cons (pub_nil 1) (.cons (pub_nil 7) .nil)))))))))
set_option maxHeartbeats 2000000 in
theorem cYDecl {l : List Tok} (hl : TkOk l) {p : PS} (hb : p.bad = 0) (ha : p.at_ < l.length) {k : Nat} {m : Mem} {n : Nat} (hk : k < n) (hm : m k = some (sObj l p)) :
    ACalls Tryz.prog 66 [.ptr k 0 0 0] m n (fun d m' n' => d = .agg (dclD (declF l p).1) ∧ m' = m.set k (sObj l (declF l p).2) ∧ n' = n) := by
  have kn : k ≠ n := by omega
  have nk : n ≠ k := by omega
  have kn1 : k ≠ n + 1 := by omega
  have n1k : n + 1 ≠ k := by omega
  have nn1 : n ≠ n + 1 := by omega
  have n1n : n + 1 ≠ n := by omega
  have k1 : k < n + 1 := by omega
  have k2 : k < n + 1 + 1 := by omega
  obtain ⟨kd, a, tx, hp⟩ := pk_of hl p
  have wa := wrap_at hl ha
  have hmx : m k = some ⟨3, [[toksD l, .v (.int .i64 p.at_), .v .nilIface]], 0⟩ := by rw [hm]; simp [sObj, sC, errS, hb, I, nilE]
  have hst := sObj_step (l := l) hb
  have fr1 : ∀ (j : Nat), j < n → j ≠ n := fun j hj => by omega
  have fr2 : ∀ (j : Nat), j < n → j ≠ n + 1 := fun j hj => by omega
  have hdl : ∀ t : Ty, (tyD t).length = 7 := tyD_len
  refine acalls_put (X := fun d => d = .agg (dclD (declF l p).1)) (R' := Hq (fun d m' n' => PubAs n m' d (.agg (dclD (declF l p).1)) ∧ m' k = some (sObj l (declF l p).2) ∧ ∀ j, j < n → j ≠ k → m' j = m j) tg) k hk _ ?_ ?_
  · refine acalls_vcC [0, 2, 3, 4, 7, 8, 20, 32] Tryz.func66 Tryz.ntmps66 (by kernel_rfl) rfl rfl (by simp) ?_
    simp -dsimp
    refine aCall_of (cNext (l := l) (p := p) k1 (by simp [set_ne, kn, hm])) ?_
    rintro d m' n' ⟨rfl, rfl, rfl⟩
    rw [hp.pk]
    have htx := hp.tex
    simp -dsimp [I, S, -vc_block]
    rw [vc_block]
    by_cases q1 : tx = wOpa
    · have f1 : (tx == [111, 112, 97, 113, 117, 101]) = true := by simp [q1, wOpa]
      have e : declF l p = dclN 1 l (stepF p) := by rw [declF, if_pos (by rw [htx, q1])]
      rw [e]
      simp -dsimp [f1, hmx, set_ne, kn, nk, wa]
      rw [← hst]
      refine aCall_of (cYGreat hl (p := stepF p) k1 (by simp [set_ne, kn])) ?_
      rintro d m2 n2 ⟨rfl, rfl, rfl⟩
      simp -dsimp [I, S, set_ne, kn, nk]
      exact hq ⟨pub_decl 1 _, by simp [set_ne, kn, dclN], fun j hj hjk => by simp [set_ne, hjk, fr1 j hj]⟩
    have f1 : (tx == [111, 112, 97, 113, 117, 101]) = false := by simpa [wOpa] using q1
    by_cases q2 : tx = wHid
    · have f2 : (tx == [104, 105, 100, 100, 101, 110]) = true := by simp [q2, wHid]
      have e : declF l p = dclN 2 l (stepF p) := by rw [declF, if_neg (by rw [htx]; exact q1), if_pos (by rw [htx, q2])]
      rw [e]
      simp -dsimp [f1, f2, hmx, set_ne, kn, nk, wa]
      rw [← hst]
      refine aCall_of (cYGreat hl (p := stepF p) k1 (by simp [set_ne, kn])) ?_
      rintro d m2 n2 ⟨rfl, rfl, rfl⟩
      simp -dsimp [I, S, set_ne, kn, nk]
      exact hq ⟨pub_decl 2 _, by simp [set_ne, kn, dclN], fun j hj hjk => by simp [set_ne, hjk, fr1 j hj]⟩
    have f2 : (tx == [104, 105, 100, 100, 101, 110]) = false := by simpa [wHid] using q2
    by_cases q3 : tx = wAli
    · have f3 : (tx == [97, 108, 105, 97, 115]) = true := by simp [q3, wAli]
      have e : declF l p = dclT 3 true [61] l (stepF p) := by rw [declF, if_neg (by rw [htx]; exact q1), if_neg (by rw [htx]; exact q2), if_pos (by rw [htx, q3])]
      rw [e]
      simp -dsimp [f1, f2, f3, hmx, set_ne, kn, nk, wa]
      rw [← hst]
      refine aCall_of (cYGreat hl (p := stepF p) k1 (by simp [set_ne, kn])) ?_
      rintro d m2 n2 ⟨rfl, rfl, rfl⟩
      simp -dsimp [I, S, set_ne, kn, nk]
      refine aCall_of (cYSign hl (p := (nameS true l (stepF p)).2) [61] k2 (by simp [set_ne, kn, kn1])) ?_
      rintro d m2 n2 ⟨rfl, rfl, rfl⟩
      simp -dsimp
      refine aCall_of (cYTyp hl (p := mustS [61] l (nameS true l (stepF p)).2) k2 (by simp [set_ne, kn, kn1])) ?_
      rintro d m2 n2 ⟨rfl, rfl, rfl⟩
      simp -dsimp [I, S, set_ne, kn, nk, kn1, n1k, nn1, n1n, hdl]
      exact hq ⟨(Pur.agg (pur_dcl ⟨3, _, _⟩)).pub, by simp [set_ne, kn, kn1, dclT], fun j hj hjk => by simp [set_ne, hjk, fr1 j hj, fr2 j hj]⟩
    have f3 : (tx == [97, 108, 105, 97, 115]) = false := by simpa [wAli] using q3
    have e : declF l p = dclT 4 false [58] l (stepF p) := by rw [declF, if_neg (by rw [htx]; exact q1), if_neg (by rw [htx]; exact q2), if_neg (by rw [htx]; exact q3)]
    rw [e]
    simp -dsimp [f1, f2, f3, hmx, set_ne, kn, nk, wa]
    rw [← hst]
    refine aCall_of (cYSmall hl (p := stepF p) k1 (by simp [set_ne, kn])) ?_
    rintro d m2 n2 ⟨rfl, rfl, rfl⟩
    simp -dsimp [I, S, set_ne, kn, nk]
    refine aCall_of (cYSign hl (p := (nameS false l (stepF p)).2) [58] k2 (by simp [set_ne, kn, kn1])) ?_
    rintro d m2 n2 ⟨rfl, rfl, rfl⟩
    simp -dsimp
    refine aCall_of (cYTyp hl (p := mustS [58] l (nameS false l (stepF p)).2) k2 (by simp [set_ne, kn, kn1])) ?_
    rintro d m2 n2 ⟨rfl, rfl, rfl⟩
    simp -dsimp [I, S, set_ne, kn, nk, kn1, n1k, nn1, n1n, hdl]
    exact hq ⟨(Pur.agg (pur_dcl ⟨4, _, _⟩)).pub, by simp [set_ne, kn, kn1, dclT], fun j hj hjk => by simp [set_ne, hjk, fr1 j hj, fr2 j hj]⟩
  · rintro d m' n' ⟨h1, h3, h4⟩
    exact ⟨.agg (dclD (declF l p).1), _, h1, h3, .pur (pur_sObj _ _), h4, rfl⟩
end Go.Proofs.Mv.App
open Go Go.Proofs Go.Proofs.Mv.V
set_option maxRecDepth 10000
namespace Go.Proofs.Mv.App
structure Md where
  name : List UInt8
  imps : List Imp
  decls : List Dcl
def mdD (x : Md) : List D := [S x.name, .sl 4 (x.imps.map impD), .sl 9 (x.decls.map dclD)]
def Md0 : Md := ⟨[], [], []⟩
def wMod : List UInt8 := [109, 111, 100, 117, 108, 101]
def wImp : List UInt8 := [105, 109, 112, 111, 114, 116]
def impsF (l : List Tok) : Nat → List Imp → PS → List Imp × PS
  | 0, acc, p => (acc, p)
  | k + 1, acc, p => if isKey wImp l p then
      (if 20 ≤ acc.length then (acc, failS 3 p) else impsF l k (acc ++ [(impF l (stepF p)).1]) (impF l (stepF p)).2) else (acc, p)
def isDecl (l : List Tok) (p : PS) : Bool := isKey wOpa l p || isKey wHid l p || isKey wAli l p || isKey wVal l p
def declsF (l : List Tok) : Nat → List Dcl → PS → List Dcl × PS
  | 0, acc, p => (acc, p)
  | k + 1, acc, p => if isDecl l p then
      (if 60 ≤ acc.length then (acc, failS 3 p) else declsF l k (acc ++ [(declF l p).1]) (declF l p).2) else (acc, p)
def headP (l : List Tok) : PS := (takeF (isKey wMod l ⟨0, 0, 0⟩) l ⟨0, 0, 0⟩).2
def nameP (l : List Tok) : List UInt8 × PS := nameS false l (headP l)
def impsP (l : List Tok) : List Imp × PS := impsF l 21 [] (nameP l).2
def declsP (l : List Tok) : List Dcl × PS := declsF l 61 [] (impsP l).2
def endP (l : List Tok) : PS := if (declsP l).2.at_ < l.length then failS 2 (declsP l).2 else (declsP l).2
def modF (s : List UInt8) : Md × PErr :=
  if 20000 < s.length then (Md0, .large)
  else match (toksAt s 0).2 with
    | some a => (Md0, .spot a 2)
    | Option.none => if (endP (toksAt s 0).1).bad = 0 then (⟨(nameP (toksAt s 0).1).1, (impsP (toksAt s 0).1).1, (declsP (toksAt s 0).1).1⟩, .none)
      else (Md0, .spot (endP (toksAt s 0).1).cnt (endP (toksAt s 0).1).bad)
theorem isKey_bad {s : List UInt8} {l : List Tok} {p : PS} (h : ¬ p.bad = 0) : isKey s l p = false := by simp [isKey, cur, h]
theorem impsF_bad {l : List Tok} {p : PS} (h : ¬ p.bad = 0) (k : Nat) (acc : List Imp) : impsF l k acc p = (acc, p) := by
  cases k with
  | zero => rfl
  | succ k => simp [impsF, isKey_bad h]
theorem pur_imps {l : List Imp} : ∀ e ∈ l.map impD, ∀ d ∈ e, Pur d := by
  intro e he d hd
  obtain ⟨i, _, rfl⟩ := List.mem_map.1 he
  simp only [impD, List.mem_cons, List.not_mem_nil, or_false] at hd
  rcases hd with rfl | rfl | rfl | rfl
  · exact pur_S _
  · exact pur_I _
  · exact pur_S _
  · exact pur_S _
theorem pur_dcls {l : List Dcl} : ∀ e ∈ l.map dclD, ∀ d ∈ e, Pur d := by
  intro e he d hd
  obtain ⟨i, _, rfl⟩ := List.mem_map.1 he
  exact pur_dcl i d hd
theorem declF_ok {l : List Tok} {p : PS} (h : (declF l p).2.bad = 0) : p.bad = 0 := by
  have hN : ∀ kd, (dclN kd l (stepF p)).2.bad = 0 → p.bad = 0 := fun kd h => (takeF_ok (p := stepF p) h).2
  have hT : ∀ kd g s, (dclT kd g s l (stepF p)).2.bad = 0 → p.bad = 0 := fun kd g s h => by
    have h1 := typS_ok h
    have h2 := (takeF_ok h1).2
    exact (takeF_ok (p := stepF p) h2).2
  unfold declF at h
  split at h
  · exact hN _ h
  · split at h
    · exact hN _ h
    · split at h
      · exact hT _ _ _ h
      · exact hT _ _ _ h
theorem declsF_ok {l : List Tok} : ∀ (k : Nat) (acc : List Dcl) (p : PS), (declsF l k acc p).2.bad = 0 → p.bad = 0
  | 0, _, _, h => h
  | k + 1, acc, p, h => by
    simp only [declsF] at h
    split at h
    · split at h
      · by_cases hb : p.bad = 0
        · exact hb
        · rw [failS_bad hb] at h; exact h
      · exact declF_ok (declsF_ok k _ _ h)
    · exact h
structure SImp (l : List Tok) (nm : List UInt8) (p1 : PS) (m : Mem) (n : Nat) (k : Nat) (σ : Nat → D) (m' : Mem) (n' : Nat) : Prop where
  h2 : σ 2 = .ptr n 0 0 0
  h3 : σ 3 = nilE
  h4 : σ 4 = toksD l
  h6 : σ 6 = .ptr (n + 1) 0 0 0
  h7 : σ 7 = .ptr (n + 1 + 1) 0 0 0
  nn : n + 1 + 1 + 1 ≤ n'
  fr : ∀ j, j < n → m' j = m j
  m2 : m' n = some ⟨3, [[S [], .v (.slice none 0 0), .v (.slice none 0 0)]], 0⟩
  ex : ∃ acc acc0 p dI, k + acc.length = 21 ∧ acc.length ≤ 20 ∧ acc0.length = acc.length ∧ (p.bad = 0 → acc = acc0) ∧ impsF l 21 [] p1 = impsF l k acc0 p ∧ m' (n + 1) = some (sObj l p) ∧
    m' (n + 1 + 1) = some ⟨3, [[S nm, dI, .v (.slice none 0 0)]], 0⟩ ∧ Lst m' 4 (acc.map impD) dI ∧ ∀ j, kof dI = some j → n + 1 + 1 + 1 ≤ j ∧ j < n'
structure SMid (l : List Tok) (nm : List UInt8) (is : List Imp) (p : PS) (m : Mem) (n : Nat) (σ : Nat → D) (m' : Mem) (n' : Nat) : Prop where
  h2 : σ 2 = .ptr n 0 0 0
  h3 : σ 3 = nilE
  h4 : σ 4 = toksD l
  h6 : σ 6 = .ptr (n + 1) 0 0 0
  h7 : σ 7 = .ptr (n + 1 + 1) 0 0 0
  nn : n + 1 + 1 + 1 ≤ n'
  fr : ∀ j, j < n → m' j = m j
  m2 : m' n = some ⟨3, [[S [], .v (.slice none 0 0), .v (.slice none 0 0)]], 0⟩
  mo : m' (n + 1) = some (sObj l p)
  ex : ∃ acc dI, (p.bad = 0 → acc = is) ∧ m' (n + 1 + 1) = some ⟨3, [[S nm, dI, .v (.slice none 0 0)]], 0⟩ ∧ Lst m' 4 (acc.map impD) dI ∧ ∀ j, kof dI = some j → n + 1 + 1 + 1 ≤ j ∧ j < n'
structure SDec (l : List Tok) (nm : List UInt8) (is : List Imp) (dI : D) (p1 : PS) (m : Mem) (n : Nat) (k : Nat) (σ : Nat → D) (m' : Mem) (n' : Nat) : Prop where
  h2 : σ 2 = .ptr n 0 0 0
  h3 : σ 3 = nilE
  h4 : σ 4 = toksD l
  h6 : σ 6 = .ptr (n + 1) 0 0 0
  h7 : σ 7 = .ptr (n + 1 + 1) 0 0 0
  nn : n + 1 + 1 + 1 ≤ n'
  fr : ∀ j, j < n → m' j = m j
  m2 : m' n = some ⟨3, [[S [], .v (.slice none 0 0), .v (.slice none 0 0)]], 0⟩
  li : Lst m' 4 (is.map impD) dI
  ki : ∀ j, kof dI = some j → n + 1 + 1 + 1 ≤ j ∧ j < n'
  ex : ∃ acc p dD, k + acc.length = 61 ∧ acc.length ≤ 60 ∧ declsF l 61 [] p1 = declsF l k acc p ∧ m' (n + 1) = some (sObj l p) ∧
    m' (n + 1 + 1) = some ⟨3, [[S nm, dI, dD]], 0⟩ ∧ Lst m' 9 (acc.map dclD) dD ∧ ∀ j, kof dD = some j → n + 1 + 1 + 1 ≤ j ∧ j < n' ∧ kof dI ≠ some j
structure DecGo (l : List Tok) (p : PS) (n : Nat) (m2 : Mem) (n2 : Nat) (σ : Nat → D) (m' : Mem) (n' : Nat) : Prop where
  h2 : σ 2 = .ptr n 0 0 0
  h3 : σ 3 = nilE
  h4 : σ 4 = toksD l
  h6 : σ 6 = .ptr (n + 1) 0 0 0
  h7 : σ 7 = .ptr (n + 1 + 1) 0 0 0
  ky : isDecl l p = true
  mm : m' = m2
  nn : n' = n2
structure SMid2 (l : List Tok) (nm : List UInt8) (is : List Imp) (dI : D) (ds : List Dcl) (p : PS) (m : Mem) (n : Nat) (σ : Nat → D) (m' : Mem) (n' : Nat) : Prop where
  h2 : σ 2 = .ptr n 0 0 0
  h3 : σ 3 = nilE
  h4 : σ 4 = toksD l
  h6 : σ 6 = .ptr (n + 1) 0 0 0
  h7 : σ 7 = .ptr (n + 1 + 1) 0 0 0
  nn : n + 1 + 1 + 1 ≤ n'
  fr : ∀ j, j < n → m' j = m j
  m2 : m' n = some ⟨3, [[S [], .v (.slice none 0 0), .v (.slice none 0 0)]], 0⟩
  li : Lst m' 4 (is.map impD) dI
  ki : ∀ j, kof dI = some j → n + 1 + 1 + 1 ≤ j ∧ j < n'
  mo : m' (n + 1) = some (sObj l p)
  ex : ∃ dD, m' (n + 1 + 1) = some ⟨3, [[S nm, dI, dD]], 0⟩ ∧ Lst m' 9 (ds.map dclD) dD ∧ ∀ j, kof dD = some j → n + 1 + 1 + 1 ≤ j ∧ j < n' ∧ kof dI ≠ some j
set_option maxHeartbeats 4000000 in
theorem cYParse (s : List UInt8) (m : Mem) (n : Nat) : ACalls Tryz.prog 28 [S s] m n (fun d m' n' => d = .tup [.agg (mdD (modF s).1), errP (modF s).2] ∧ m' = m ∧ n' = n) := by
  refine acalls_done (R' := Hq (fun d m' n' => (∃ dt, d = .tup [dt, errP (modF s).2] ∧ PubAs n m' dt (.agg (mdD (modF s).1))) ∧ ∀ j, j < n → m' j = m j) tg) ?_ ?_
  · have nn1 : n ≠ n + 1 := by omega
    have n1n : n + 1 ≠ n := by omega
    have pub0 : ∀ m', PubAs n m' (.agg [S [], .v (.slice none 0 0), .v (.slice none 0 0)]) (.agg (mdD Md0)) := fun m' => by
      simp only [mdD, Md0, List.map_nil]
      exact .agg (.cons (pur_S _).pub (.cons (pub_nil 4) (.cons (pub_nil 9) .nil)))
    refine acalls_vcC [0, 2, 3, 4, 5, 6, 7, 14, 28, 32, 62, 66, 82, 89] Tryz.func28 Tryz.ntmps28 (by kernel_rfl) rfl rfl (by simp) ?_
    simp -dsimp
    refine aCall_of (cTokens s _ _) ?_
    rintro d m' n' ⟨rfl, rfl, rfl⟩
    have fr0 : ∀ (o : V.Obj) (j : Nat), j < n → (m.set n o) j = m j := fun o j hj => set_ne _ _ _ _ (by omega)
    by_cases h1 : 20000 < s.length
    · have hp : modF s = (Md0, .large) := by rw [modF, if_pos h1]
      rw [if_pos h1, hp]
      simp -dsimp [code, I]
      exact hq ⟨⟨_, rfl, pub0 _⟩, fun j hj => by have j1 : j ≠ n := by omega
                                                 simp [set_ne, j1]⟩
    have hl := toks_tk (s := s) (by omega)
    rw [if_neg h1]
    have hp : modF s = (match (toksAt s 0).2 with
    | some a => (Md0, .spot a 2)
    | Option.none => if (endP (toksAt s 0).1).bad = 0 then (⟨(nameP (toksAt s 0).1).1, (impsP (toksAt s 0).1).1, (declsP (toksAt s 0).1).1⟩, .none)
      else (Md0, .spot (endP (toksAt s 0).1).cnt (endP (toksAt s 0).1).bad)) := by rw [modF, if_neg h1]
    rw [hp]
    generalize toksAt s 0 = T at hl ⊢
    obtain ⟨l, o⟩ := T
    cases o with
    | some a =>
      simp -dsimp [spotE]
      exact hq ⟨⟨_, rfl, pub0 _⟩, fun j hj => by have j1 : j ≠ n := by omega
                                                 simp [set_ne, j1]⟩
    | none =>
      simp only at hl ⊢
      have e0 : (⟨3, [[.sl 3 (l.map tokD), .v (.int .i64 0), .v .nilIface]], 0⟩ : V.Obj) = sObj l ⟨0, 0, 0⟩ := by simp [sObj, sC, errS, I, nilE, toksD]
      have hlt2 : n + 1 < n + 1 + 1 := by omega
      have nn2 : n ≠ n + 1 + 1 := by omega
      have n12 : n + 1 ≠ n + 1 + 1 := by omega
      have n21 : n + 1 + 1 ≠ n + 1 := by omega
      have n2n : n + 1 + 1 ≠ n := by omega
      simp -dsimp [nilE]
      rw [e0]
      refine aCall_of (cYIs hl (p := ⟨0, 0, 0⟩) wMod hlt2 (by simp)) ?_
      rintro d m2 n2' ⟨rfl, rfl, rfl⟩
      simp -dsimp
      refine aCall_of (cTake hl (p := ⟨0, 0, 0⟩) (isKey wMod l ⟨0, 0, 0⟩) (fun h => key_ok hl h) hlt2 (by simp)) ?_
      rintro d m2 n2' ⟨rfl, rfl, rfl⟩
      have e1 : (takeF (isKey wMod l ⟨0, 0, 0⟩) l ⟨0, 0, 0⟩).2 = headP l := rfl
      rw [e1]
      simp -dsimp
      refine aCall_of (cYSmall hl (p := headP l) hlt2 (by simp)) ?_
      rintro d m2 n2' ⟨rfl, rfl, rfl⟩
      have e2 : nameS false l (headP l) = nameP l := rfl
      rw [e2]
      simp -dsimp [-vc_block, I, S, set_ne, nn1, n1n]
      refine vc_mid (SMid l (nameP l).1 (impsP l).1 (impsP l).2 m n) ?_ ?_
      · rw [vc_block]
        simp -dsimp [-vc_block]
        refine vloop_of (β := Nat) (SImp l (nameP l).1 (nameP l).2 m n) (fun b => b) 21 ⟨by simp, by simp [nilE], by simp [toksD], by simp, by simp, by omega, fun j hj => ?_, ?_, [], [], (nameP l).2, .v (.slice none 0 0), rfl, by simp, rfl, fun _ => rfl, rfl, ?_, ?_, by simpa using Lst.nil, by simp⟩ ?_
        · have j1 : j ≠ n := by omega
          have j2 : j ≠ n + 1 := by omega
          have j3 : j ≠ n + 1 + 1 := by omega
          simp [set_ne, j1, j2, j3]
        · simp [set_ne, nn1, nn2, S, I]
        · simp [set_ne, n12, nn1]
        · simp [S]
        rintro rem σ m2 n2 ⟨g2, g3, g4, g6, g7, nn, fr, m2n, acc, acc0, p, dI, hrem, hle, hlen, hacc, hmod, hmk, hm7, hL, hkk⟩
        have kn : n + 1 ≠ n2 := by omega
        have hlen2 := lenD_lst hL
        rw [List.length_map] at hlen2
        have hk2 : n + 1 < n2 := by omega
        simp -dsimp [-vc_block, g2, g3, g4, g6, g7]
        refine aCall_of (cYIs hl (p := p) wImp hk2 hmk) ?_
        rintro d m3 n3 ⟨rfl, rfl, rfl⟩
        cases hkey : isKey wImp l p
        case false =>
          simp -dsimp [-vc_block, Tt]
          have hend : impsP l = (acc0, p) := by
            rw [impsP, hmod]; cases rem with
            | zero => rfl
            | succ r => simp [impsF, hkey]
          exact ⟨by simp [g2], by simp [g3], by simp [g4], by simp [g6], by simp [g7], nn, fr, m2n, by rw [hend]; exact hmk, acc, dI, by rw [hend]; exact hacc, hm7, hL, hkk⟩
        obtain ⟨hpb, hpa⟩ := key_ok hl hkey
        have hae := hacc hpb
        subst hae
        obtain ⟨r, rfl⟩ : ∃ r, rem = r + 1 := ⟨rem - 1, by omega⟩
        simp -dsimp [-vc_block, Tt]
        rw [vc_block]
        by_cases h20 : (20 : Int) ≤ acc.length
        · have h20' : 20 ≤ acc.length := by omega
          have hend : impsP l = (acc, failS 3 p) := by rw [impsP, hmod]; simp [impsF, hkey, h20']
          simp -dsimp [-vc_block, g2, g3, g4, g6, g7, hm7, hlen2, h20, h20']
          refine aCall_of (cSFail (l := l) (p := p) 3 (by omega) hk2 hmk) ?_
          rintro d m3 n3 ⟨rfl, rfl, rfl⟩
          simp -dsimp [-vc_block]
          refine ⟨by simp [g2], by simp [g3], by simp [g4], by simp [g6], by simp [g7], nn, fun j hj => by rw [set_ne _ _ _ _ (by omega)]; exact fr j hj, by rw [set_ne _ _ _ _ nn1]; exact m2n, by rw [hend]; simp, acc, dI, by rw [hend]; exact fun _ => rfl,
            by rw [set_ne _ _ _ _ n21]; exact hm7, hL.frame fun j hj => set_ne _ _ _ _ (by have := hkk j hj; omega), hkk⟩
        have h20' : ¬ 20 ≤ acc.length := by omega
        have hmx : m3 (n + 1) = some ⟨3, [[toksD l, .v (.int .i64 p.at_), .v .nilIface]], 0⟩ := by rw [hmk]; simp [sObj, sC, errS, hpb, I, nilE]
        have hst := sObj_step (l := l) hpb
        have wa := wrap_at hl hpa
        simp -dsimp [-vc_block, g2, g3, g4, g6, g7, hm7, hlen2, h20, h20', hmx, wa]
        rw [← hst]
        refine vdraw_tree [0, 1, 0, 4, 12, 31, 63, 127] (.rd 0 (.rd 1 (.rd 2 (.wr (.cons 3 (.wr (.cons 4 (.wr (.cons 5 (.rd 6 (.wr (.cons 7 (.fin) (.nil)))) (.nil))) (.nil))) (.nil)))))) (by kernel_rfl) (by kernel_rfl) ?_
        simp -dsimp [-vc_block, g2, g3, g4, g6, g7, hm7, hlen2, hmx, set_ne, n21, n12]
        refine aCall_of (cYImp hl (p := stepF p) (by omega) (by simp)) ?_
        rintro d m4 n4 ⟨⟨x, rfl, hx⟩, rfl, rfl⟩
        have kn3 : n4 ≠ n + 1 := by omega
        have kn4 : n4 ≠ n + 1 + 1 := by omega
        have nk3 : n + 1 ≠ n4 := by omega
        have nk4 : n + 1 + 1 ≠ n4 := by omega
        have hil : (impD x).length = 4 := rfl
        simp -dsimp [-vc_block, g2, g3, g4, g6, g7, hm7, set_ne, n21, n12, kn3, kn4, nk3, nk4, hil]
        refine b4_append (hL.frame fun j hj => ?_) (fun j hj => by have := hkk j hj; omega) trivial trivial (by omega) (by simp; omega) ?_
        · have := hkk j hj
          rw [set_ne _ _ _ _ (by omega), set_ne _ _ _ _ (by omega)]
        intro d5 m5 n5 p1 p2 p3 p4
        have q4 : ∀ j, j < n4 → j ≠ n + 1 → kof dI ≠ some j → m5 j = m3 j := fun j h1 h2 h3 => by rw [p4 j (by omega) h3, set_ne _ _ _ _ (by omega), set_ne _ _ _ _ h2]
        have nd : ∀ j, j < n + 1 + 1 + 1 → kof dI ≠ some j := fun j hj e => by have := hkk j e; omega
        have e7 : m5 (n + 1 + 1) = some ⟨3, [[S (nameP l).1, dI, .v (.slice none 0 0)]], 0⟩ := by rw [q4 _ (by omega) n21 (nd _ (by omega))]; exact hm7
        have ek : m5 (n + 1) = some (sObj l (impF l (stepF p)).2) := by rw [p4 _ (by omega) (nd _ (by omega)), set_ne _ _ _ _ (by omega), set_same]
        have ok5 := okD_lst p1
        simp -dsimp [-vc_block, g2, g3, g4, g6, g7, e7, ok5, S]
        have hkd : ∀ j, kof d5 = some j → n + 1 + 1 + 1 ≤ j ∧ j < n5 := fun j hj => by
          have := p3 j hj
          rcases this.2 with e | e
          · have := hkk j e; omega
          · omega
        refine ⟨r, by omega, by simp, by simp, by simp, by simp, by simp, by omega, fun j hj => ?_, ?_, acc ++ [x], acc ++ [(impF l (stepF p)).1], (impF l (stepF p)).2, d5, by simp; omega, by simp; omega, by simp, fun h => by rw [hx h], ?_, ?_, by simp [S], ?_, hkd⟩
        · rw [set_ne _ _ _ _ (by omega), q4 j (by omega) (by omega) (nd j (by omega))]; exact fr j hj
        · rw [set_ne _ _ _ _ nn2, q4 n (by omega) nn1 (nd n (by omega))]; exact m2n
        · rw [hmod]; simp [impsF, hkey, h20']
        · rw [set_ne _ _ _ _ n12]; exact ek
        · rw [List.map_append]
          exact p1.frame fun j hj => set_ne _ _ _ _ (by have := hkd j hj; omega)
      rintro σ0 m0 n0 ⟨g2, g3, g4, g6, g7, nn, fr, m2n, mo, is, dI, hiso, hm7, hLi, hki⟩
      simp -dsimp [-vc_block, g2, g3, g4, g6, g7]
      refine vc_mid (SMid2 l (nameP l).1 is dI (declsP l).1 (declsP l).2 m n) ?_ ?_
      · rw [vc_block]
        simp -dsimp [-vc_block]
        refine vloop_of (β := Nat) (SDec l (nameP l).1 is dI (impsP l).2 m n) (fun b => b) 61 ⟨by simp [g2], by simp [g3], by simp [g4], by simp [g6], by simp [g7], nn, fr, m2n, hLi, hki, [], (impsP l).2, .v (.slice none 0 0), rfl, by simp, rfl, mo, hm7, by simpa using Lst.nil, by simp⟩ ?_
        rintro rem σ m2 n2 ⟨g2, g3, g4, g6, g7, nn, fr, m2n, hLi, hki, acc, p, dD, hrem, hle, hmod, hmk, hm7, hL, hkk⟩
        have hk2 : n + 1 < n2 := by omega
        have hlen2 := lenD_lst hL
        rw [List.length_map] at hlen2
        rw [vc_seq]
        refine vc_mid (DecGo l p n m2 n2) ?_ ?_
        · simp -dsimp [-vc_block, g2, g3, g4, g6, g7]
          refine aCall_of (cYIs hl (p := p) wOpa hk2 hmk) ?_
          rintro d m3 n3 ⟨rfl, rfl, rfl⟩
          cases o1 : isKey wOpa l p
          case true =>
            simp -dsimp [-vc_block, Tt]
            exact ⟨by simp [g2], by simp [g3], by simp [g4], by simp [g6], by simp [g7], by simp [isDecl, o1], rfl, rfl⟩
          simp -dsimp [-vc_block, Tt, g6]
          refine aCall_of (cYIs hl (p := p) wHid hk2 hmk) ?_
          rintro d m3 n3 ⟨rfl, rfl, rfl⟩
          cases o2 : isKey wHid l p
          case true =>
            simp -dsimp [-vc_block, Tt]
            exact ⟨by simp [g2], by simp [g3], by simp [g4], by simp [g6], by simp [g7], by simp [isDecl, o1, o2], rfl, rfl⟩
          simp -dsimp [-vc_block, Tt, g6]
          refine aCall_of (cYIs hl (p := p) wAli hk2 hmk) ?_
          rintro d m3 n3 ⟨rfl, rfl, rfl⟩
          cases o3 : isKey wAli l p
          case true =>
            simp -dsimp [-vc_block, Tt]
            exact ⟨by simp [g2], by simp [g3], by simp [g4], by simp [g6], by simp [g7], by simp [isDecl, o1, o2, o3], rfl, rfl⟩
          simp -dsimp [-vc_block, Tt, g6]
          refine aCall_of (cYIs hl (p := p) wVal hk2 hmk) ?_
          rintro d m3 n3 ⟨rfl, rfl, rfl⟩
          cases o4 : isKey wVal l p
          case true =>
            simp -dsimp [-vc_block, Tt]
            exact ⟨by simp [g2], by simp [g3], by simp [g4], by simp [g6], by simp [g7], by simp [isDecl, o1, o2, o3, o4], rfl, rfl⟩
          simp -dsimp [-vc_block, Tt, g6]
          have hend : declsP l = (acc, p) := by
            rw [declsP, hmod]; cases rem with
            | zero => rfl
            | succ r => simp [declsF, isDecl, o1, o2, o3, o4]
          exact ⟨by simp [g2], by simp [g3], by simp [g4], by simp [g6], by simp [g7], nn, fr, m2n, hLi, hki, by rw [hend]; exact hmk, dD, hm7, by rw [hend]; exact hL, hkk⟩
        rintro σ1 m1 n1 ⟨g2, g3, g4, g6, g7, hkey, rfl, rfl⟩
        obtain ⟨hpb, hpa⟩ : p.bad = 0 ∧ p.at_ < l.length := by
          simp only [isDecl, Bool.or_eq_true] at hkey
          rcases hkey with ((h | h) | h) | h <;> exact key_ok hl h
        obtain ⟨r, rfl⟩ : ∃ r, rem = r + 1 := ⟨rem - 1, by omega⟩
        rw [vc_block]
        by_cases h20 : (60 : Int) ≤ acc.length
        · have h20' : 60 ≤ acc.length := by omega
          have hend : declsP l = (acc, failS 3 p) := by rw [declsP, hmod]; simp [declsF, hkey, h20']
          simp -dsimp [-vc_block, g2, g3, g4, g6, g7, hm7, hlen2, h20, h20']
          refine aCall_of (cSFail (l := l) (p := p) 3 (by omega) hk2 hmk) ?_
          rintro d m3 n3 ⟨rfl, rfl, rfl⟩
          simp -dsimp [-vc_block]
          refine ⟨by simp [g2], by simp [g3], by simp [g4], by simp [g6], by simp [g7], nn, fun j hj => by rw [set_ne _ _ _ _ (by omega)]; exact fr j hj, by rw [set_ne _ _ _ _ nn1]; exact m2n, hLi.frame fun j hj => set_ne _ _ _ _ (by have := hki j hj; omega), hki, by rw [hend]; simp, dD,
            by rw [set_ne _ _ _ _ n21]; exact hm7, by rw [hend]; exact hL.frame fun j hj => set_ne _ _ _ _ (by have := hkk j hj; omega), hkk⟩
        have h20' : ¬ 60 ≤ acc.length := by omega
        simp -dsimp [-vc_block, g2, g3, g4, g6, g7, hm7, hlen2, h20, h20']
        refine vdraw_tree [0, 1, 0, 4, 12, 31, 63, 127] (.rd 0 (.rd 1 (.rd 2 (.wr (.cons 3 (.wr (.cons 4 (.wr (.cons 5 (.rd 6 (.wr (.cons 7 (.fin) (.nil)))) (.nil))) (.nil))) (.nil)))))) (by kernel_rfl) (by kernel_rfl) ?_
        simp -dsimp [-vc_block, g2, g3, g4, g6, g7, hm7, hlen2, set_ne, n21, n12]
        refine aCall_of (cYDecl hl hpb hpa (by omega) hmk) ?_
        rintro d m4 n4 ⟨rfl, rfl, rfl⟩
        have kn3 : n4 ≠ n + 1 := by omega
        have kn4 : n4 ≠ n + 1 + 1 := by omega
        have nk3 : n + 1 ≠ n4 := by omega
        have nk4 : n + 1 + 1 ≠ n4 := by omega
        have hil : (dclD (declF l p).1).length = 9 := by simp [dclD, tyD_len]
        generalize hX : dclD (declF l p).1 = X at hil
        simp -dsimp [-vc_block, g2, g3, g4, g6, g7, hm7, set_ne, n21, n12, kn3, kn4, nk3, nk4, hil]
        refine b4_append (hL.frame fun j hj => ?_) (fun j hj => by have := hkk j hj; omega) trivial trivial (by omega) (by simp; omega) ?_
        · have := hkk j hj
          rw [set_ne _ _ _ _ (by omega), set_ne _ _ _ _ (by omega)]
        intro d5 m5 n5 p1 p2 p3 p4
        have q4 : ∀ j, j < n4 → j ≠ n + 1 → kof dD ≠ some j → m5 j = m1 j := fun j h1 h2 h3 => by rw [p4 j (by omega) h3, set_ne _ _ _ _ (by omega), set_ne _ _ _ _ h2]
        have nd : ∀ j, j < n + 1 + 1 + 1 → kof dD ≠ some j := fun j hj e => by have := hkk j e; omega
        have e7 : m5 (n + 1 + 1) = some ⟨3, [[S (nameP l).1, dI, dD]], 0⟩ := by rw [q4 _ (by omega) n21 (nd _ (by omega))]; exact hm7
        have ek : m5 (n + 1) = some (sObj l (declF l p).2) := by rw [p4 _ (by omega) (nd _ (by omega)), set_ne _ _ _ _ (by omega), set_same]
        have ok5 := okD_lst p1
        simp -dsimp [-vc_block, g2, g3, g4, g6, g7, e7, ok5, S]
        have hkd : ∀ j, kof d5 = some j → n + 1 + 1 + 1 ≤ j ∧ j < n5 ∧ kof dI ≠ some j := fun j hj => by
          have := p3 j hj
          rcases this.2 with e | e
          · have := hkk j e; exact ⟨by omega, by omega, this.2.2⟩
          · exact ⟨by omega, by omega, fun h => by have := hki j h; omega⟩
        refine ⟨r, by omega, by simp, by simp, by simp, by simp, by simp, by omega, fun j hj => ?_, ?_, hLi.frame fun j hj => ?_, fun j hj => by have := hki j hj; omega, acc ++ [(declF l p).1], (declF l p).2, d5, by simp; omega, by simp; omega, ?_, ?_, by simp [S], ?_, hkd⟩
        · rw [set_ne _ _ _ _ (by omega), q4 j (by omega) (by omega) (nd j (by omega))]; exact fr j hj
        · rw [set_ne _ _ _ _ nn2, q4 n (by omega) nn1 (nd n (by omega))]; exact m2n
        · have := hki j hj
          rw [set_ne _ _ _ _ (by omega), q4 j (by omega) (by omega) (fun e => (hkk j e).2.2 hj)]
        · rw [hmod]; simp [declsF, hkey, h20']
        · rw [set_ne _ _ _ _ n12]; exact ek
        · rw [List.map_append]
          simp only [List.map_cons, List.map_nil, hX]
          exact p1.frame fun j hj => set_ne _ _ _ _ (by have := hkd j hj; omega)
      rintro σ1 m1 n1 ⟨g2, g3, g4, g6, g7, nn, fr, m2n, hLi, hki, mo, dD, hm7, hL, hkk⟩
      have hnp : ∀ (l : List Tok), endP l = if (declsP l).2.at_ < l.length then failS 2 (declsP l).2 else (declsP l).2 := fun _ => rfl
      rw [hnp]
      have hqi : (declsP l).2.bad = 0 → (impsP l).2.bad = 0 := declsF_ok _ _ _
      generalize (declsP l).2 = q at mo hqi ⊢
      have hT : toksD l = .sl 3 (l.map tokD) := rfl
      have hll : (l.map tokD).length = l.length := by simp
      have hmx : m1 (n + 1) = some ⟨3, [[toksD l, .v (.int .i64 q.at_), errS q]], 0⟩ := by rw [mo]; simp [sObj, sC, I]
      generalize hLL : l.map tokD = L at hT hll
      have fin : ∀ (j : Nat), j < n → j ≠ n ∧ j ≠ n + 1 ∧ j ≠ n + 1 + 1 := fun j hj => by omega
      by_cases hat : (q.at_ : Int) < l.length
      · have hat' : q.at_ < l.length := by omega
        have hqb : (failS 2 q).bad ≠ 0 := by unfold failS; split <;> simp_all
        rw [if_pos hat', if_neg hqb]
        simp -dsimp [g2, g3, g4, g6, g7, hmx, hT, hll, hat, hat']
        refine aCall_of (cSFail (l := l) (p := q) 2 (by omega) (by omega) mo) ?_
        rintro d m5 n5 ⟨rfl, rfl, rfl⟩
        generalize failS 2 q = qq at hqb ⊢
        have hob : sObj l qq = ⟨3, [[toksD l, I qq.at_, spotE qq.cnt qq.bad]], 0⟩ := by simp [sObj, sC, errS, hqb]
        rw [hob]
        simp -dsimp [g2, g3, g4, g6, g7, hqb, spotE]
        refine vdraw_of [0, 0, 2, 6, 14, 1, 63] [0, 1, 2, 3, 4, 5, 6] (by kernel_rfl) (by kernel_rfl) ?_
        simp -dsimp [g2, g3, g4, g6, g7, hqb, spotE, set_ne, nn1, n1n, m2n]
        refine hq ⟨⟨_, rfl, pub0 _⟩, fun j hj => ?_⟩
        obtain ⟨j1, j2, _⟩ := fin j hj
        simp [set_ne, j1, j2]; exact fr j hj
      · have hat' : ¬ q.at_ < l.length := by omega
        rw [if_neg hat']
        by_cases hqb : q.bad = 0
        · rw [if_pos hqb]
          simp -dsimp [g2, g3, g4, g6, g7, hmx, hT, hll, hat, hat', hqb, errS, nilE, hm7, m2n]
          refine hq ⟨⟨_, rfl, .agg (.cons (pur_S _).pub (.cons ?_ (.cons ?_ .nil)))⟩, fun j hj => ?_⟩
          · rw [← hiso (hqi hqb)]
            exact .lstP (hLi.frame fun j hj => set_ne _ _ _ _ (by have := hki j hj; omega)) (fun j hj => by have := hki j hj; omega) pur_imps
          · exact .lstP (hL.frame fun j hj => set_ne _ _ _ _ (by have := hkk j hj; omega)) (fun j hj => by have := hkk j hj; omega) pur_dcls
          · obtain ⟨j1, j2, _⟩ := fin j hj
            simp [set_ne, j1, j2]; exact fr j hj
        · rw [if_neg hqb]
          simp -dsimp [g2, g3, g4, g6, g7, hmx, hT, hll, hat, hat', hqb, errS, spotE]
          refine vdraw_of [0, 0, 2, 6, 14, 1, 63] [0, 1, 2, 3, 4, 5, 6] (by kernel_rfl) (by kernel_rfl) ?_
          simp -dsimp [g2, g3, g4, g6, g7, hmx, hqb, errS, spotE, set_ne, nn1, n1n, m2n]
          refine hq ⟨⟨_, rfl, pub0 _⟩, fun j hj => ?_⟩
          obtain ⟨j1, j2, _⟩ := fin j hj
          simp [set_ne, j1, j2]; exact fr j hj
  · rintro d m' n' ⟨⟨dt, rfl, h⟩, hf⟩
    exact ⟨_, pub_pair h (pur_errP _).pub, hf, rfl⟩
end Go.Proofs.Mv.App
