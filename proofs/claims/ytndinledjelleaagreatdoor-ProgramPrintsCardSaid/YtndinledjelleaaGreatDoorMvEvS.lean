/- A part of the proofs: machine, contracts, laws. No condition of its own. -/
import Derived.Test.YtndinledjelleaaGreatDoorMvEv
set_option linter.unusedSimpArgs false
set_option linter.unusedVariables false
set_option linter.unusedSectionVars false
namespace Go.Proofs.Mv.V
variable [GI]
theorem ltBy_iff : ∀ (a b : List UInt8), ltBy a b = Op.bytesLess a b
 | _, [] => by cases ‹List UInt8› <;> simp [ltBy, Op.bytesLess]
 | [], _ :: _ => by simp [ltBy, Op.bytesLess]
 | a :: l, b :: r => by
  have h1 : Nat.blt a.toNat b.toNat = decide (a < b) := by
   rw [Bool.eq_iff_iff, Nat.blt_eq, decide_eq_true_iff, UInt8.lt_iff_toNat_lt]
  have h2 : Nat.beq a.toNat b.toNat = (a == b) := by
   rw [Bool.eq_iff_iff, Nat.beq_eq, beq_iff_eq, UInt8.toNat_inj]
  simp only [ltBy, Op.bytesLess, ltBy_iff l r, h1, h2]
theorem sbinE_sound {op : BinOp} {x y : ByteArray} {v : Value} (h : sbinE op x y = some v) : ∃ O, sbin op x y = some (O, v) ∧ O := by
 have hs : ∀ x : ByteArray, x.size = (byL x).length := fun x => rfl
 have ha : x ++ y = ofL (byL x ++ byL y) := by rw [← append_ofL, ofL_byL, ofL_byL]
 unfold sbinE at h
 split at h
 ·split at h
  ·rename_i hb
   obtain rfl := Option.some.inj h
   exact ⟨x.size + y.size ≤ 9223372036854775807, by simp only [sbin, ha], by rw [hs, hs]; exact Nat.le_of_ble_eq_true hb⟩
  ·cases h
 ·obtain rfl := Option.some.inj h; exact ⟨_, by simp only [sbin, byL_toList, eqBy_iff], trivial⟩
 ·obtain rfl := Option.some.inj h; exact ⟨_, by simp only [sbin, byL_toList, eqBy_iff], trivial⟩
 ·obtain rfl := Option.some.inj h; exact ⟨_, by simp only [sbin, byL_toList, ltBy_iff], trivial⟩
 ·obtain rfl := Option.some.inj h; exact ⟨_, by simp only [sbin, byL_toList, ltBy_iff, eqBy_iff], trivial⟩
 ·obtain rfl := Option.some.inj h; exact ⟨_, by simp only [sbin, byL_toList, ltBy_iff, eqBy_iff], trivial⟩
 ·obtain rfl := Option.some.inj h; exact ⟨_, by simp only [sbin, byL_toList, ltBy_iff], trivial⟩
 ·cases h
mutual
theorem eqDE_eq (P : Program) : ∀ (f : Nat) (t : TypeId) (x y : D), eqDE P f t x y = eqD P f t x y
 | 0, _, _, _ => by simp only [eqDE, eqD]
 | d + 1, t, x, y => by
  unfold eqDE eqD
  split <;> simp_all [byL_toList, eqBy_iff]
  split <;> simp_all [eqFsE_eq P d]
theorem eqFsE_eq (P : Program) : ∀ (f : Nat) (fs : List (Nat × TypeId × Bool × Nat)) (x y : List D), eqFsE P f fs x y = eqFs P f fs x y
 | f, [], x, y => by simp only [eqFsE, eqFs]
 | f, (o, t, ag, z) :: fs, x, y => by
  simp only [eqFsE, eqFs, eqDE_eq P f, eqFsE_eq P f fs]
  split <;> rfl
end
theorem isByE_sound : ∀ (es : List (List D)), isByE es = true → es = (unB es).map bEnc
 | [], _ => rfl
 | [.v (.int .u8 n)] :: r, h => by
  simp only [isByE, Bool.and_eq_true, decide_eq_true_eq] at h
  obtain ⟨⟨h0, h1⟩, h2⟩ := h
  have ih := isByE_sound r h2
  simp only [unB, List.map_cons, bEnc]
  rw [← ih]
  have : (UInt8.ofNat n.toNat).toNat = n.toNat := by simp only [UInt8.toNat_ofNat']; omega
  rw [this, Int.toNat_of_nonneg h0]
theorem bndE_sound {len : Nat} {lo hi : Option D} {l h : Nat} (e : bndE len lo hi = some (l, h)) : ∃ O, sbounds len lo hi = some (O, l, h) ∧ O := by
 unfold bndE at e
 split at e
 ·simp only [Option.some.injEq, Prod.mk.injEq] at e; obtain ⟨rfl, rfl⟩ := e; exact ⟨_, rfl, trivial⟩
 ·split at e
  ·rename_i hc; simp only [Option.some.injEq, Prod.mk.injEq] at e; obtain ⟨rfl, rfl⟩ := e
   simp only [Bool.and_eq_true, decide_eq_true_eq] at hc; exact ⟨_, rfl, hc⟩
  ·cases e
 ·split at e
  ·rename_i hc; simp only [Option.some.injEq, Prod.mk.injEq] at e; obtain ⟨rfl, rfl⟩ := e
   simp only [Bool.and_eq_true, decide_eq_true_eq] at hc; exact ⟨_, rfl, hc⟩
  ·cases e
 ·split at e
  ·rename_i hc; simp only [Option.some.injEq, Prod.mk.injEq] at e; obtain ⟨rfl, rfl⟩ := e
   simp only [Bool.and_eq_true, decide_eq_true_eq] at hc; exact ⟨_, rfl, hc.1.1, hc.1.2, hc.2⟩
  ·cases e
 ·cases e
theorem bndE_some {len : Nat} {lo hi : Option D} (e : (bndE len lo hi).isSome = true) {O : Prop} {l h : Nat} (hs : sbounds len lo hi = some (O, l, h)) : O := by
 obtain ⟨⟨l', h'⟩, e'⟩ := Option.isSome_iff_exists.1 e
 obtain ⟨O', g1, g2⟩ := bndE_sound e'
 rw [hs] at g1
 simp only [Option.some.injEq, Prod.mk.injEq] at g1
 rw [g1.1]; exact g2
section
variable {P : Program} {s : Nat → D}
theorem popOk_sound {op : Op} {O : Prop} {d : D} (h : pop P s op = some (O, d)) (hk : popOk P s op = true)
  (hb : ∀ o t x y t', op = .binOp o t x y t' → ∀ a b, ¬ (ev s x = .v (.string a) ∧ ev s y = .v (.string b))) (hsl : ∀ t x lo hi mx, op = .slice t x lo hi mx → ∀ a, ev s x ≠ .v (.string a)) : O := by
 cases op with
 | binOp o t x y t' =>
  have hb := hb o t x y t' rfl
  simp only [pop] at h
  simp only [popOk] at hk
  generalize ev s x = X at h hk hb
  generalize ev s y = Y at h hk hb
  generalize (isConst x || isConst y) = nn at h
  unfold dbin at h
  split at h
  ·rename_i k a k' b
   simp only [ishift, Option.map_some, Option.some.injEq, Prod.mk.injEq] at h
   rw [← h.1]; simpa using hk
  ·rename_i k a k' b
   simp only [ishift, Option.map_some, Option.some.injEq, Prod.mk.injEq] at h
   rw [← h.1]; simpa using hk
  ·rename_i k a k' b _ _
   split at h
   ·unfold ibin at h
    split at h <;> simp only [Option.map_some, Option.map_none, Option.some.injEq, Prod.mk.injEq, reduceCtorEq] at h <;> rw [← h.1] <;> first | trivial | simpa using hk
   ·cases h
  ·exact absurd ⟨rfl, rfl⟩ (hb _ _)
  ·split at h
   ·simp only [Option.some.injEq, Prod.mk.injEq] at h; rw [← h.1]; trivial
   ·simp only [Option.map_eq_some_iff, Prod.mk.injEq] at h; obtain ⟨_, _, h1, _⟩ := h; rw [← h1]; trivial
  ·split at h
   ·simp only [Option.some.injEq, Prod.mk.injEq] at h; rw [← h.1]; trivial
   ·simp only [Option.map_eq_some_iff, Prod.mk.injEq] at h; obtain ⟨_, _, h1, _⟩ := h; rw [← h1]; trivial
  ·cases h
 | move x => simp only [pop, Option.some.injEq, Prod.mk.injEq] at h; rw [← h.1]; trivial
 | assign x => simp only [pop, Option.some.injEq, Prod.mk.injEq] at h; rw [← h.1]; trivial
 | pick c a b =>
  simp only [pop] at h
  split at h
  ·simp only [Option.some.injEq, Prod.mk.injEq] at h; rw [← h.1]; trivial
  ·cases h
 | nilCheck x => simp only [pop] at h; split at h <;> simp only [Option.some.injEq, Prod.mk.injEq, reduceCtorEq] at h <;> (rw [← h.1]; trivial)
 | unOp o t x => simp only [pop] at h; split at h <;> simp only [Option.some.injEq, Prod.mk.injEq, reduceCtorEq] at h <;> (rw [← h.1]; trivial)
 | convert src dst x =>
  simp only [pop] at h
  simp only [popOk] at hk
  split at h
  ·rename_i k n e
   rw [e] at hk
   split at h
   ·simp only [Option.some.injEq, Prod.mk.injEq] at h; rw [← h.1]; simpa using hk
   ·cases h
  ·split at h
   ·simp only [Option.some.injEq, Prod.mk.injEq] at h; rw [← h.1]; trivial
   ·cases h
  ·rename_i z es e
   rw [e] at hk
   split at h
   ·simp only [Option.some.injEq, Prod.mk.injEq] at h; rw [← h.1]
    simp only [Bool.and_eq_true, beq_iff_eq] at hk
    exact ⟨isByE_sound _ hk.1, hk.2⟩
   ·cases h
  ·split at h
   ·simp only [Option.some.injEq, Prod.mk.injEq] at h; rw [← h.1]; trivial
   ·cases h
  ·split at h
   ·simp only [Option.some.injEq, Prod.mk.injEq] at h; rw [← h.1]; trivial
   ·cases h
  ·cases h
 | makeInterface t x => simp only [pop] at h; split at h <;> simp only [Option.some.injEq, Prod.mk.injEq, reduceCtorEq] at h; rw [← h.1]; trivial
 | makeFunc fn fs cs => simp only [pop, Option.some.injEq, Prod.mk.injEq] at h; rw [← h.1]; trivial
 | field t x f =>
  simp only [pop] at h
  simp only [popOk] at hk
  split at h
  ·rename_i o z cs e1 e2
   rw [e1, e2] at hk
   simp only [Option.some.injEq, Prod.mk.injEq] at h; rw [← h.1]; simpa using hk
  ·rename_i o z cs e1 e2
   rw [e1, e2] at hk
   simp only [Option.some.injEq, Prod.mk.injEq] at h; rw [← h.1]; simpa [Nat.blt_eq] using hk
  ·cases h
 | index t x i =>
  simp only [pop] at h
  simp only [popOk] at hk
  split at h
  ·rename_i b k n e0 e1 e2
   rw [e1, e2] at hk
   simp only [Option.some.injEq, Prod.mk.injEq] at h; rw [← h.1]
   simp only [Bool.and_eq_true, decide_eq_true_eq] at hk
   exact ⟨hk.1, hk.2⟩
  ·cases h
 | extract x i =>
  simp only [pop] at h
  simp only [popOk] at hk
  split at h
  ·rename_i ds e
   rw [e] at hk
   simp only [Option.some.injEq, Prod.mk.injEq] at h; rw [← h.1]; simpa [Nat.blt_eq] using hk
  ·cases h
 | build t ps =>
  simp only [pop] at h
  split at h
  ·split at h
   ·simp only [Option.some.injEq, Prod.mk.injEq] at h; rw [← h.1]; trivial
   ·cases h
  ·cases h
 | slice t x lo hi mx =>
  have hsl2 := hsl t x lo hi mx rfl
  clear hsl hb
  simp only [pop] at h
  simp only [popOk] at hk
  cases mx with
  | none =>
   simp only [Option.map_none] at h hk
   generalize ev s x = X at h hk hsl2
   split at h
   ·exact absurd rfl (hsl2 _)
   ·split at h
    ·split at h
     ·rename_i O' l hh _ e _
      simp only [Option.some.injEq, Prod.mk.injEq] at h; rw [← h.1]; exact bndE_some hk e
     ·cases h
    ·rename_i q _ e; cases e
    ·cases h
   ·split at h
    ·split at h
     ·rename_i O' l hh _ e _
      simp only [Option.some.injEq, Prod.mk.injEq] at h; rw [← h.1]; exact bndE_some hk e
     ·cases h
    ·rename_i q _ e; cases e
    ·cases h
   ·split at h
    ·split at h
     ·rename_i O' l hh _ e _
      simp only [Option.some.injEq, Prod.mk.injEq] at h; rw [← h.1]; exact bndE_some hk e
     ·cases h
    ·rename_i q _ e; cases e
    ·cases h
   ·split at h
    ·split at h
     ·rename_i O' l hh _ e _
      simp only [Option.some.injEq, Prod.mk.injEq] at h; rw [← h.1]; exact bndE_some hk e
     ·cases h
    ·rename_i q _ e; cases e
    ·cases h
   ·cases h
  | some q =>
   simp only [Option.map_some] at h hk
   have key : ∀ {c : Bool} {dd : D}, (match (generalizing := false) lo, hi.map (ev s), ev s q with
    | none, some (.v (.int _ h)), .v (.int _ c') => if c then some (h = 0 ∧ c' = 0, dd) else none
    | _, _, _ => none) = some (O, d) → O := by
    intro c dd hh
    split at hh
    ·rename_i h' c' e1 e2
     rw [e1, e2] at hk
     simp only [Bool.and_eq_true, decide_eq_true_eq] at hk
     cases c with
     | true => simp only [if_true, Option.some.injEq, Prod.mk.injEq] at hh; rw [← hh.1]; exact hk
     | false => cases hh
    ·cases hh
   split at h
   ·exact absurd ‹_› (hsl2 _)
   ·exact key h
   ·exact key h
   ·exact key h
   ·exact key h
   ·cases h
 | fieldAddr t x f =>
  simp only [pop] at h
  simp only [popOk] at hk
  split at h
  ·simp only [Option.some.injEq, Prod.mk.injEq] at h; rw [← h.1]; trivial
  ·rename_i o _ _ tt cs e1 e2
   rw [e1, e2] at hk
   simp only [Option.some.injEq, Prod.mk.injEq] at h; rw [← h.1]; simpa using hk
  ·cases h
 | indexAddr t x i =>
  simp only [pop] at h
  simp only [popOk] at hk
  split at h
  ·rename_i e1 e2
   rw [e1, e2] at hk
   split at h
   ·simp only [Option.some.injEq, Prod.mk.injEq] at h; rw [← h.1]; simpa using hk
   ·cases h
  ·rename_i e1 e2
   rw [e1, e2] at hk
   split at h
   ·simp only [Option.some.injEq, Prod.mk.injEq] at h; rw [← h.1]; simpa using hk
   ·cases h
  ·cases h
 | load t a =>
  simp only [pop] at h
  simp only [popOk] at hk
  split at h
  ·rename_i e1 e2 e3
   rw [e1, e2, e3] at hk
   simp only [Option.some.injEq, Prod.mk.injEq] at h; rw [← h.1]; simpa using hk
  ·rename_i e1 e2 e3
   rw [e1, e2, e3] at hk
   simp only [Option.some.injEq, Prod.mk.injEq] at h; rw [← h.1]; simpa [Nat.blt_eq] using hk
  ·cases h
 | call c =>
  simp only [pop] at h
  split at h
  ·split at h <;> simp only [Option.some.injEq, Prod.mk.injEq, reduceCtorEq] at h <;> (rw [← h.1]; trivial)
  ·split at h <;> simp only [Option.some.injEq, Prod.mk.injEq, reduceCtorEq] at h <;> (rw [← h.1]; trivial)
  ·cases h
 | _ => simp [pop] at h
theorem popOkE {op : Op} {d : D} (h : (if popOk P s op then (pop P s op).map (·.2) else none) = some d)
  (hb : ∀ o t x y t', op = .binOp o t x y t' → ∀ a b, ¬ (ev s x = .v (.string a) ∧ ev s y = .v (.string b))) (hsl : ∀ t x lo hi mx, op = .slice t x lo hi mx → ∀ a, ev s x ≠ .v (.string a)) :
  ∃ O, pop P s op = some (O, d) ∧ O := by
 split at h
 ·rename_i hk
  obtain ⟨⟨O, d'⟩, h1, h2⟩ := Option.map_eq_some_iff.1 h
  subst h2
  exact ⟨O, h1, popOk_sound h1 hk hb hsl⟩
 ·cases h
theorem dbin_str (o : BinOp) (t : TypeId) (nn : Bool) (a b : ByteArray) : dbin P o t nn (.v (.string a)) (.v (.string b)) = (sbin o a b).map fun r => (r.1, .v r.2) := by cases o <;> rfl
theorem dbin_eqA {t : TypeId} (h : tcode P t = 8) (nn : Bool) (xs ys : List D) : dbin P .eql t nn (.agg xs) (.agg ys) = (eqD P 20 t (.agg xs) (.agg ys)).map fun b => ((True : Prop), .v (.bool b)) := by
 unfold dbin unk deq; simp only [h]; rfl
theorem dbin_neA {t : TypeId} (h : tcode P t = 8) (nn : Bool) (xs ys : List D) : dbin P .neq t nn (.agg xs) (.agg ys) = (eqD P 20 t (.agg xs) (.agg ys)).map fun b => ((True : Prop), .v (.bool !b)) := by
 unfold dbin unk deq; simp only [h]; rfl
theorem popE_sound {op : Op} {d : D} (h : popE P s op = some d) : ∃ O, pop P s op = some (O, d) ∧ O := by
 cases op with
 | binOp o t x y t' =>
  simp only [popE] at h
  split at h
  ·rename_i a b e1 e2
   obtain ⟨v, h1, rfl⟩ := Option.map_eq_some_iff.1 h
   obtain ⟨O, g1, g2⟩ := sbinE_sound h1
   refine ⟨O, ?_, g2⟩
   rw [pop_binOp, e1, e2, dbin_str, g1]; rfl
  ·rename_i xs ys e1 e2
   split at h
   ·split at h
    ·rename_i ht
     obtain ⟨b, h1, rfl⟩ := Option.map_eq_some_iff.1 h
     rw [eqDE_eq] at h1
     have ht : tcode P t = 8 := Nat.eq_of_beq_eq_true ht
     refine ⟨True, ?_, trivial⟩
     rw [pop_binOp, e1, e2, dbin_eqA ht, h1]; rfl
    ·cases h
   ·split at h
    ·rename_i ht
     obtain ⟨b, h1, rfl⟩ := Option.map_eq_some_iff.1 h
     rw [eqDE_eq] at h1
     have ht : tcode P t = 8 := Nat.eq_of_beq_eq_true ht
     refine ⟨True, ?_, trivial⟩
     rw [pop_binOp, e1, e2, dbin_neA ht, h1]; rfl
    ·cases h
   ·cases h
  ·rename_i hn _
   refine popOkE h (fun o' t' x' y' t'' e => ?_) (fun _ _ _ _ _ e => by cases e)
   cases e
   rintro a b ⟨e1, e2⟩
   exact hn a b e1 e2
 | slice t x lo hi mx =>
  simp only [popE] at h
  split at h
  ·rename_i b e
   split at h
   ·rename_i l hh e2
    split at h
    ·rename_i ht
     have ht : tcode P t = 3 := Nat.eq_of_beq_eq_true ht
     obtain rfl := Option.some.inj h
     obtain ⟨O, g1, g2⟩ := bndE_sound e2
     have g1' : sbounds b.size (lo.map (ev s)) (hi.map (ev s)) = some (O, l, hh) := g1
     have hx : ofL (((byL b).take hh).drop l) = b.extract l hh := by rw [← extract_ofL, ofL_byL]
     refine ⟨O, ?_, g2⟩
     rw [pop_slice, e, hx]
     simp only [Option.map_none]
     rw [g1']
     simp only [ht, if_true]
    ·cases h
   ·cases h
  ·rename_i hn
   refine popOkE h (fun _ _ _ _ _ e => by cases e) (fun t' x' lo' hi' mx' e => ?_)
   cases e
   exact hn
 | _ => exact popOkE h (fun _ _ _ _ _ e => by cases e) (fun _ _ _ _ _ e => by cases e)
theorem toMem_push (M : List Obj) (o : Obj) : toMem (M ++ [o]) = (toMem M).set M.length o := by
 funext k
 simp only [toMem, Mem.set]
 by_cases h : k = M.length
 ·subst h; simp
 ·rw [if_neg h, List.getElem?_append]
  split
  ·rfl
  ·have : M.length < k := by omega
   simp [List.getElem?_eq_none (show M.length ≤ k by omega)]; omega
theorem toMem_set {M : List Obj} {k : Nat} {o : Obj} (h : k < M.length) : toMem (M.set k o) = (toMem M).set k o := by
 funext j
 simp only [toMem, Mem.set, List.getElem?_set]
 by_cases e : j = k
 ·subst e; simp [h]
 ·simp [e, Ne.symm e]
theorem frame_push {M : List Obj} {o : Obj} : M.length ≤ (M ++ [o]).length ∧ ∀ j, j < M.length → (M ++ [o])[j]? = M[j]? := by
 refine ⟨by simp, fun j hj => by rw [List.getElem?_append_left hj]⟩
theorem some_lt {M : List Obj} {k : Nat} {o : Obj} (h : M[k]? = some o) : k < M.length := (List.getElem?_eq_some_iff.1 h).1
theorem elE_sound {M : List Obj} {z : Nat} {d : D} {xs : List (List D)} (h : elE M z d = some xs) : ∃ O, elemsOf (toMem M) z d = some (O, xs) ∧ O := by
 unfold elE at h
 split at h
 ·split at h
  ·rename_i hz; obtain rfl := Option.some.inj h; exact ⟨True, by rw [elemsOf_sl, if_pos (Nat.eq_of_beq_eq_true hz)], trivial⟩
  ·cases h
 ·split at h
  ·rename_i k g o n z' _ ob e
   split at h
   ·rename_i hc
    simp only [Bool.and_eq_true] at hc
    obtain ⟨⟨h1, h2⟩, h3⟩ := hc
    obtain rfl := Option.some.inj h
    refine ⟨ob.g = g ∧ o + n ≤ ob.es.length, by rw [elemsOf_own]; simp only [toMem, e]; rw [if_pos (Nat.eq_of_beq_eq_true h1)], Nat.eq_of_beq_eq_true h2, Nat.le_of_ble_eq_true h3⟩
   ·cases h
  ·cases h
 ·obtain rfl := Option.some.inj h; exact ⟨_, elemsOf_nil, trivial⟩
 ·obtain rfl := Option.some.inj h; exact ⟨_, elemsOf_mt, trivial⟩
 ·split at h
  ·rename_i hz; obtain rfl := Option.some.inj h; exact ⟨True, by rw [elemsOf_str, if_pos (Nat.eq_of_beq_eq_true hz)]; rfl, trivial⟩
  ·cases h
 ·cases h
def FrE (M M' : List Obj) (W : List Nat) : Prop := M.length ≤ M'.length ∧ ∀ j, j < M.length → j ∉ W → M'[j]? = M[j]?
theorem FrE.refl (M : List Obj) (W : List Nat) : FrE M M W := ⟨Nat.le_refl _, fun _ _ _ => rfl⟩
theorem FrE.trans {M M' M'' : List Obj} {W W' : List Nat} (h : FrE M M' W) (h' : FrE M' M'' W') : FrE M M'' (W' ++ W) :=
 ⟨Nat.le_trans h.1 h'.1, fun j hj hn => by
  simp only [List.mem_append, not_or] at hn
  rw [h'.2 j (Nat.lt_of_lt_of_le hj h.1) hn.1, h.2 j hj hn.2]⟩
theorem FrE.push {M : List Obj} {o : Obj} {W : List Nat} : FrE M (M ++ [o]) W := ⟨frame_push.1, fun j hj _ => frame_push.2 j hj⟩
theorem FrE.set {M : List Obj} {o : Obj} {k : Nat} : FrE M (M.set k o) [k] := ⟨by simp, fun j hj hn => by
 simp only [List.mem_singleton] at hn; simp [List.getElem?_set, Ne.symm hn]⟩
theorem popE_step {M : List Obj} {op : Op} (hp : ∀ {O d}, pop P s op = some (O, d) → stepD P s (toMem M) M.length op = some (O, d, toMem M, M.length)) {r : D × List Obj × Option Nat}
  (h : (popE P s op).map (fun d => (d, M, (none : Option Nat))) = some r) : (∃ O, stepD P s (toMem M) M.length op = some (O, r.1, toMem r.2.1, r.2.1.length) ∧ O) ∧ FrE M r.2.1 (addK r.2.2 []) := by
 obtain ⟨d, h1, rfl⟩ := Option.map_eq_some_iff.1 h
 obtain ⟨O, g1, g2⟩ := popE_sound h1
 exact ⟨⟨O, hp g1, g2⟩, FrE.refl _ _⟩
theorem stepE_sound {M : List Obj} {op : Op} {r : D × List Obj × Option Nat} (h : stepE P s M op = some r) :
  (∃ O, stepD P s (toMem M) M.length op = some (O, r.1, toMem r.2.1, r.2.1.length) ∧ O) ∧ FrE M r.2.1 (addK r.2.2 []) := by
 cases op with
 | load t a =>
  simp only [stepE] at h
  split at h
  ·rename_i k g i j e
   split at h
   ·rename_i b z o ha hz hm
    have hm' : toMem M k = some o := hm
    split at h
    ·rename_i hc
     simp only [Bool.and_eq_true] at hc
     have c1 := Nat.eq_of_beq_eq_true hc.1
     have c2 : i < o.es.length := by simpa [Nat.blt_eq] using hc.2
     cases b with
     | true =>
      simp only [if_true] at h
      split at h
      ·rename_i hj
       obtain rfl := Option.some.inj h
       refine ⟨⟨_, by simp only [stepD, e, ha, hz, ldD, hm', if_true]; rfl, ?_⟩, FrE.refl _ _⟩
       exact ⟨c1, c2, Nat.le_of_ble_eq_true hj⟩
      ·cases h
     | false =>
      simp only [Bool.false_eq_true, if_false] at h
      split at h
      ·rename_i hj
       obtain rfl := Option.some.inj h
       refine ⟨⟨_, by simp only [stepD, e, ha, hz, ldD, hm', Bool.false_eq_true, if_false]; rfl, ?_⟩, FrE.refl _ _⟩
       exact ⟨c1, c2, by simpa [Nat.blt_eq] using hj⟩
      ·cases h
    ·cases h
   ·cases h
  ·rename_i hne
   refine popE_step (fun {O d} hp => ?_) h
   rw [pop_load] at hp
   simp only [stepD]
   unfold ldD
   split at hp
   ·rename_i e1 e2 e3; simp only [Option.some.injEq, Prod.mk.injEq] at hp; obtain ⟨rfl, rfl⟩ := hp; rw [e1, e2, e3]
   ·rename_i e1 e2 e3; simp only [Option.some.injEq, Prod.mk.injEq] at hp; obtain ⟨rfl, rfl⟩ := hp; rw [e1, e2, e3]
   ·cases hp
 | store t a x =>
  simp only [stepE] at h
  split at h
  ·rename_i z k g i j hz e
   split at h
   ·rename_i o hm
    have hm' : toMem M k = some o := hm
    split at h
    ·rename_i hc
     simp only [Bool.and_eq_true] at hc
     obtain ⟨⟨⟨⟨c1, c2⟩, c3⟩, c4⟩, c5⟩ := hc
     obtain rfl := Option.some.inj h
     refine ⟨⟨_, by simp only [stepD, stD, hz, e, hm']; rw [toMem_set (some_lt hm)]; simp only [List.length_set]; rfl, ?_⟩, FrE.set⟩
     exact ⟨Nat.eq_of_beq_eq_true c1, by simpa [Nat.blt_eq] using c2, Nat.le_of_ble_eq_true c3, c4, Nat.eq_of_beq_eq_true c5⟩
    ·cases h
   ·cases h
  ·cases h
 | alloc t =>
  simp only [stepE] at h
  split at h
  ·rename_i zs hz
   obtain rfl := Option.some.inj h
   refine ⟨⟨_, by simp only [stepD, hz, toMem_push, List.length_append, List.length_singleton]; rfl, ?_⟩, FrE.push⟩
   exact trivial
  ·cases h
 | box t x =>
  simp only [stepE] at h
  split at h
  ·rename_i hz
   obtain rfl := Option.some.inj h
   refine ⟨⟨_, by simp only [stepD, toMem_push, List.length_append, List.length_singleton]; rfl, ?_⟩, FrE.push⟩
   exact hz
  ·cases h
 | buildSlice t len ps =>
  simp only [stepE] at h
  split at h
  ·rename_i z b zs ht hz
   split at h
   ·rename_i es he
    split at h
    ·rename_i hc
     obtain rfl := Option.some.inj h
     refine ⟨⟨_, by simp only [stepD, bsD, ht, hz, he, toMem_push, List.length_append, List.length_singleton]; rfl, ?_⟩, FrE.push⟩
     exact Nat.le_of_ble_eq_true hc
    ·cases h
   ·cases h
  ·cases h
 | makeSlice t l c =>
  simp only [stepE] at h
  split at h
  ·rename_i z b zs k1 l1 k2 c1 ht hz e1 e2
   split at h
   ·rename_i hc
    simp only [Bool.and_eq_true, decide_eq_true_eq] at hc
    obtain rfl := Option.some.inj h
    refine ⟨⟨_, by simp only [stepD, mkD, ht, hz, e1, e2, toMem_push, List.length_append, List.length_singleton]; rfl, ?_⟩, FrE.push⟩
    exact ⟨hc.1.1.1, hc.1.1.2, hc.1.2, hc.2⟩
   ·cases h
  ·cases h
 | convert src dst x =>
  simp only [stepE] at h
  split at h
  ·rename_i b e
   split at h
   ·rename_i hc
    simp only [Bool.and_eq_true] at hc
    obtain rfl := Option.some.inj h
    refine ⟨⟨_, by simp only [stepD, e, cvD, Nat.eq_of_beq_eq_true hc.2, if_true]; rfl, ?_⟩, FrE.refl _ _⟩
    exact Nat.eq_of_beq_eq_true hc.1
   ·split at h
    ·rename_i hn hc
     simp only [Bool.and_eq_true] at hc
     obtain rfl := Option.some.inj h
     have h3 : tcode P dst ≠ 3 := fun h3 => by
      have := hc.2
      unfold tbyte tcode at *
      cases hu : P.underlying dst with
      | none => rw [hu] at h3; simp at h3
      | some u => rw [hu] at h3 this; cases u <;> simp at h3 this
     refine ⟨⟨_, by simp only [stepD, e, cvD, if_neg h3, toMem_push, List.length_append, List.length_singleton]; rfl, ?_⟩, FrE.push⟩
     exact ⟨Nat.eq_of_beq_eq_true hc.1, hc.2⟩
    ·cases h
  ·rename_i k g o len z e
   split at h
   ·rename_i ob hm
    have hm' : toMem M k = some ob := hm
    split at h
    ·rename_i h3
     split at h
     ·rename_i hc
      simp only [Bool.and_eq_true] at hc
      obtain ⟨⟨⟨⟨c1, c2⟩, c3⟩, c4⟩, c5⟩ := hc
      obtain rfl := Option.some.inj h
      refine ⟨⟨_, by simp only [stepD, e, cvD, hm', Nat.eq_of_beq_eq_true h3, if_true]; rfl, ?_⟩, FrE.refl _ _⟩
      exact ⟨c1, Nat.eq_of_beq_eq_true c2, Nat.eq_of_beq_eq_true c3, Nat.le_of_ble_eq_true c4, isByE_sound _ c5⟩
     ·cases h
    ·cases h
   ·cases h
  ·rename_i hn1 hn2
   refine popE_step (fun {O d} hp => ?_) h
   rw [pop_convert] at hp
   simp only [stepD]
   generalize ev s x = X at hp hn1 hn2
   unfold cvD
   split at hp
   ·split at hp
    ·rename_i k hk; simp only [Option.some.injEq, Prod.mk.injEq] at hp; obtain ⟨rfl, rfl⟩ := hp; simp only [hk]
    ·cases hp
   ·exact absurd rfl (hn1 _)
   ·split at hp
    ·rename_i hc; simp only [Option.some.injEq, Prod.mk.injEq] at hp; obtain ⟨rfl, rfl⟩ := hp; simp [hc.1, hc.2]
    ·cases hp
   ·split at hp
    ·rename_i hc; simp only [Option.some.injEq, Prod.mk.injEq] at hp; obtain ⟨rfl, rfl⟩ := hp; simp [hc.1, hc.2]
    ·cases hp
   ·split at hp
    ·rename_i hc; simp only [Option.some.injEq, Prod.mk.injEq] at hp; obtain ⟨rfl, rfl⟩ := hp; simp [hc.1, hc.2]
    ·cases hp
   ·cases hp
 | call c =>
  simp only [stepE] at h
  split at h
  ·rename_i x y t t' hcal hargs hty
   split at h
   ·rename_i z b hti ht
    split at h
    ·rename_i xs hel
     obtain ⟨O, g1, g2⟩ := elE_sound hel
     split at h
     ·cases h
     ·rename_i hc0
      simp only [Bool.or_eq_true, not_or, Bool.not_eq_true] at hc0
      have ht0 : tcode P t' ≠ 0 := fun e => by rw [e] at hc0; simp at hc0
      have hb1 : 1 ≤ b := by
       rcases Nat.eq_zero_or_pos b with e | e
       ·rw [e] at hc0; simp at hc0
       ·exact e
      have key : stepD P s (toMem M) M.length (.call c) = apD (some (z, b)) (tcode P t' ≠ 0) (ev s x) (some (O, xs)) (toMem M) M.length := by
       simp only [stepD, hcal, hargs, hty, hti, ht, Option.map_some, Option.getD_some, g1]
      rw [key]
      split at h
      ·rename_i k g o len z' e
       split at h
       ·rename_i ob hm
        have hm' : toMem M k = some ob := hm
        split at h
        ·rename_i hc
         simp only [Bool.and_eq_true] at hc
         obtain ⟨⟨⟨⟨c1, c2⟩, c3⟩, c4⟩, c5⟩ := hc
         obtain rfl := Option.some.inj h
         refine ⟨⟨_, by rw [e, apD_own]; simp only [hm']; rw [toMem_set (some_lt hm)]; simp only [List.length_set]; rfl, ?_⟩, FrE.set⟩
         exact ⟨ht0, g2, Nat.eq_of_beq_eq_true c1, Nat.eq_of_beq_eq_true c2, Nat.eq_of_beq_eq_true c3, Nat.le_of_ble_eq_true c4, hb1, Nat.le_of_ble_eq_true c5⟩
        ·cases h
       ·cases h
      ·rename_i e
       split at h
       ·obtain rfl := Option.some.inj h
        refine ⟨⟨_, by rw [e, apD_nil_nil], ?_⟩, FrE.refl _ _⟩
        exact ⟨ht0, g2, hb1⟩
       ·split at h
        ·rename_i hc
         obtain rfl := Option.some.inj h
         refine ⟨⟨_, by rw [e, apD_nil_cons]; simp only [toMem_push, List.length_append, List.length_singleton]; rfl, ?_⟩, FrE.push⟩
         exact ⟨ht0, g2, hb1, Nat.le_of_ble_eq_true hc⟩
        ·cases h
      ·rename_i e
       split at h
       ·obtain rfl := Option.some.inj h
        refine ⟨⟨_, by rw [e, apD_mt_nil], ?_⟩, FrE.refl _ _⟩
        exact ⟨ht0, g2, hb1⟩
       ·split at h
        ·rename_i hc
         obtain rfl := Option.some.inj h
         refine ⟨⟨_, by rw [e, apD_mt_cons]; simp only [toMem_push, List.length_append, List.length_singleton]; rfl, ?_⟩, FrE.push⟩
         exact ⟨ht0, g2, hb1, Nat.le_of_ble_eq_true hc⟩
        ·cases h
      ·cases h
    ·cases h
   ·cases h
  ·rename_i hn
   refine popE_step (fun {O d} hp => ?_) h
   simp only [stepD]
   split
   ·rename_i h1 h2 h3; exact (hn _ _ _ _ h1 h2 h3).elim
   ·rename_i h1 h2 h3; simp only [pop, h1] at hp; cases hp
   ·simp only [pm, hp]
 | binOp o t x y t' => exact popE_step (fun {O d} hp => by simp only [stepD, pm, hp]) h
 | slice t x lo hi mx => exact popE_step (fun {O d} hp => by simp only [stepD, pm, hp]) h
 | _ => exact popE_step (fun {O d} hp => by simp only [stepD, pm, hp]) h
end
end Go.Proofs.Mv.V
