/- A part of the proofs: machine, contracts, laws. No condition of its own. -/
import Derived.Test.YtndinledjelleaaGreatDoorMvEvC
set_option linter.unusedSimpArgs false
set_option linter.unusedVariables false
set_option linter.unusedSectionVars false
namespace Go.Proofs.Mv.V
variable [GI]
section
variable {P : Program} {M : List Obj} {n0 : Nat}
theorem pubAs_below {m : Mem} {n : Nat} {d : D} (h : ∀ β f, rs β (From n m) f d = d) (hb : below n d = true) : PubAs n m d d := fun β => ⟨0, fun f _ => by rw [h]; exact ⟨Le.refl _, hb⟩⟩
theorem From_lt {n k : Nat} {m : Mem} (h : k < n) : From n m k = none := by simp only [From]; rw [if_neg (by omega)]
theorem From_ge {n k : Nat} {m : Mem} (h : n ≤ k) : From n m k = m k := by simp only [From]; rw [if_pos h]
mutual
theorem pubE_as : ∀ (f : Nat) (d d' : D), pubE M n0 f d = some d' → PubAs n0 (toMem M) d d'
 | 0, d, d', h => by simp only [pubE] at h; cases h
 | f + 1, .v x, d', h => by simp only [pubE, Option.some.injEq] at h; subst h; exact (Pur.v x).pub
 | f + 1, .any, d', h => by simp only [pubE, Option.some.injEq] at h; subst h; exact Pur.any.pub
 | f + 1, .mt, d', h => by simp only [pubE, Option.some.injEq] at h; subst h; exact Pur.mt.pub
 | f + 1, .bb, d', h => by
  simp only [pubE, Option.some.injEq] at h; subst h
  exact pubAs_below (fun β f => by cases f <;> rfl) (by simp [below])
 | f + 1, .ptr k g i j, d', h => by
  simp only [pubE] at h
  split at h
  ·rename_i hk
   have hk : k < n0 := by simpa [Nat.blt_eq] using hk
   obtain rfl := Option.some.inj h
   exact pubAs_below (fun β f => by cases f with | zero => rfl | succ f => simp only [rs, From_lt hk]) (by simp [below, hk])
  ·rename_i hk
   have hk : n0 ≤ k := by simpa [Nat.blt_eq] using hk
   split at h
   ·rename_i o hm
    split at h
    ·rename_i hc
     simp only [Bool.and_eq_true] at hc
     have c1 := Nat.eq_of_beq_eq_true hc.1
     have c2 : i < o.es.length := by simpa [Nat.blt_eq] using hc.2
     obtain ⟨cs, h1, rfl⟩ := Option.map_eq_some_iff.1 h
     have ih := pubLE_as f _ _ h1
     intro β
     obtain ⟨fu, hf⟩ := ih.get β
     refine ⟨fu + 1, fun f hle => ?_⟩
     obtain ⟨f', rfl⟩ : ∃ f', f = f' + 1 := ⟨f - 1, by omega⟩
     have hm' : toMem M k = some o := hm
     simp only [rs, From_ge hk, hm']
     rw [if_pos ⟨c1, c2⟩]
     exact ⟨fun w ν F y hh => Le_rptr (hf f' (by omega)).1 w ν F y (Le_rptr_none w ν F y hh), by simp only [below]; exact (hf f' (by omega)).2⟩
    ·cases h
   ·cases h
 | f + 1, .own k g o len z, d', h => by
  simp only [pubE] at h
  split at h
  ·rename_i hk
   have hk : k < n0 := by simpa [Nat.blt_eq] using hk
   obtain rfl := Option.some.inj h
   exact pubAs_below (fun β f => by cases f with | zero => rfl | succ f => simp only [rs, From_lt hk]) (by simp [below, hk])
  ·rename_i hk
   have hk : n0 ≤ k := by simpa [Nat.blt_eq] using hk
   split at h
   ·rename_i ob hm
    split at h
    ·rename_i hc
     simp only [Bool.and_eq_true] at hc
     have c1 := Nat.eq_of_beq_eq_true hc.1.1
     have c2 := Nat.le_of_ble_eq_true hc.1.2
     have c3 := Nat.eq_of_beq_eq_true hc.2
     obtain ⟨cs, h1, rfl⟩ := Option.map_eq_some_iff.1 h
     have ih := pubLLE_as f _ _ h1
     intro β
     obtain ⟨fu, hf⟩ := ih.get β
     refine ⟨fu + 1, fun f hle => ?_⟩
     obtain ⟨f', rfl⟩ : ∃ f', f = f' + 1 := ⟨f - 1, by omega⟩
     have hm' : toMem M k = some ob := hm
     simp only [rs, From_ge hk, hm']
     rw [if_pos ⟨c1, c2, c3⟩]
     exact ⟨Le_sl (hf f' (by omega)).1, by simp only [below]; exact (hf f' (by omega)).2⟩
    ·cases h
   ·cases h
 | f + 1, .rptr t cs, d', h => by
  simp only [pubE] at h
  obtain ⟨cs', h1, rfl⟩ := Option.map_eq_some_iff.1 h
  have ih := pubLE_as f _ _ h1
  intro β
  obtain ⟨fu, hf⟩ := ih.get β
  refine ⟨fu + 1, fun f hle => ?_⟩
  obtain ⟨f', rfl⟩ : ∃ f', f = f' + 1 := ⟨f - 1, by omega⟩
  simp only [rs, below]
  exact ⟨fun w ν F y hh => Le_rptr (hf f' (by omega)).1 w ν F y (Le_rptr_none w ν F y hh), (hf f' (by omega)).2⟩
 | f + 1, .sl z es, d', h => by
  simp only [pubE] at h
  obtain ⟨cs', h1, rfl⟩ := Option.map_eq_some_iff.1 h
  have ih := pubLLE_as f _ _ h1
  intro β
  obtain ⟨fu, hf⟩ := ih.get β
  refine ⟨fu + 1, fun f hle => ?_⟩
  obtain ⟨f', rfl⟩ : ∃ f', f = f' + 1 := ⟨f - 1, by omega⟩
  simp only [rs, below]
  exact ⟨Le_sl (hf f' (by omega)).1, (hf f' (by omega)).2⟩
 | f + 1, .iface t d, d', h => by
  simp only [pubE] at h
  obtain ⟨d2, h1, rfl⟩ := Option.map_eq_some_iff.1 h
  exact (pubE_as f _ _ h1).iface
 | f + 1, .func fn fs cs, d', h => by
  simp only [pubE] at h
  split at h
  ·rename_i a b h1 h2
   obtain rfl := Option.some.inj h
   have i1 := pubLE_as f _ _ h1
   have i2 := pubLE_as f _ _ h2
   intro β
   obtain ⟨f1, g1⟩ := i1.get β
   obtain ⟨f2, g2⟩ := i2.get β
   refine ⟨f1 + f2 + 1, fun f hle => ?_⟩
   obtain ⟨f', rfl⟩ : ∃ f', f = f' + 1 := ⟨f - 1, by omega⟩
   simp only [rs, below, (g1 f' (by omega)).2, (g2 f' (by omega)).2, Bool.and_self]
   exact ⟨Le_func (g1 f' (by omega)).1 (g2 f' (by omega)).1, trivial⟩
  ·cases h
 | f + 1, .agg cs, d', h => by
  simp only [pubE] at h
  obtain ⟨d2, h1, rfl⟩ := Option.map_eq_some_iff.1 h
  exact (pubLE_as f _ _ h1) |> PubAs.agg
 | f + 1, .tup cs, d', h => by
  simp only [pubE] at h
  obtain ⟨d2, h1, rfl⟩ := Option.map_eq_some_iff.1 h
  exact (pubLE_as f _ _ h1) |> PubAs.tup
theorem pubLE_as : ∀ (f : Nat) (l l' : List D), pubLE M n0 f l = some l' → PubL n0 (toMem M) l l'
 | 0, l, l', h => by simp only [pubLE] at h; cases h
 | f + 1, [], l', h => by simp only [pubLE, Option.some.injEq] at h; subst h; exact .nil
 | f + 1, d :: l, l', h => by
  simp only [pubLE] at h
  split at h
  ·rename_i a b h1 h2
   obtain rfl := Option.some.inj h
   exact .cons (pubE_as f _ _ h1) (pubLE_as f _ _ h2)
  ·cases h
theorem pubLLE_as : ∀ (f : Nat) (l l' : List (List D)), pubLLE M n0 f l = some l' → PubE n0 (toMem M) l l'
 | 0, l, l', h => by simp only [pubLLE] at h; cases h
 | f + 1, [], l', h => by simp only [pubLLE, Option.some.injEq] at h; subst h; exact .nil
 | f + 1, d :: l, l', h => by
  simp only [pubLLE] at h
  split at h
  ·rename_i a b h1 h2
   obtain rfl := Option.some.inj h
   exact .cons (pubLE_as f _ _ h1) (pubLLE_as f _ _ h2)
  ·cases h
end
theorem st_weakAll {w : World} {ν : Nu} {F : Nat → Prop} {m1 m2 : Mem} {n : Nat} (h : St w ν F m1 n)
  (hw : ∀ k, m1 k = m2 k ∨ ∃ o1 o2, m1 k = some o1 ∧ m2 k = some o2 ∧ o2.z = o1.z ∧ o2.g = o1.g ∧ LeE o1.es o2.es) : St w ν F m2 n := by
 have back : ∀ {k o}, m2 k = some o → ∃ o1, m1 k = some o1 ∧ o.z = o1.z ∧ o.g = o1.g ∧ (o1 = o ∨ LeE o1.es o.es) := by
  intro k o ho
  rcases hw k with e | ⟨o1, o2, h1, h2, h3, h4, h5⟩
  ·exact ⟨o, by rw [e]; exact ho, rfl, rfl, .inl rfl⟩
  ·rw [ho] at h2; obtain rfl := Option.some.inj h2
   exact ⟨o1, h1, h3, h4, .inr h5⟩
 refine ⟨⟨h.mem.lt, ?_, ?_⟩, fun k hk => ⟨(h.fresh k hk).1, ?_⟩, h.gi⟩
 ·intro k k' o o' l l' h1 h2 h3 h4 h5
  obtain ⟨p, hp, _⟩ := back h1
  obtain ⟨q, hq, _⟩ := back h2
  exact h.mem.inj k k' p q l l' hp hq h3 h4 h5
 ·intro k o hk
  obtain ⟨o1, g1, g2, g3, g4⟩ := back hk
  obtain ⟨l, arr, e, f, q1, q2, q3, q4, q5, q6, q7⟩ := h.mem.at_ k o1 g1
  refine ⟨l, arr, e, f, q1, by rw [q2, g3], by rw [q3, g2], q4, q5, q6, ?_⟩
  rw [g2]
  rcases g4 with rfl | g4
  ·exact q7
  ·exact g4.con _ _ q7
 ·rcases hw k with e | ⟨o1, o2, h1, _⟩
  ·rw [← e]; exact (h.fresh k hk).2
  ·rw [(h.fresh k hk).2] at h1; cases h1
theorem acalls_closeLe {f : FuncId} {args : List D} {m : Mem} {n : Nat} {R R' : D → Mem → Nat → Prop} (h : ACalls P f args m n R')
  (hR : ∀ d m' n', R' d m' n' → ∃ d2 m2, PubAs n m' d d2 ∧ (∀ k, n ≤ k → m2 k = none) ∧
   (∀ k, k < n → (m2 k = m' k ∧ m' k = m k) ∨ ∃ o o2, m' k = some o ∧ m2 k = some o2 ∧ o2.z = o.z ∧ o2.g = o.g ∧ PubE n m' o.es o2.es) ∧ R d2 m2 n) :
  ACalls P f args m n R := by
 have h1 : ACalls P f args m n (fun d1 m1 n1 => n1 = n ∧ ∃ d2 m2, Le d1 d2 ∧ (∀ k, m1 k = m2 k ∨ ∃ o1 o2, m1 k = some o1 ∧ m2 k = some o2 ∧ o2.z = o1.z ∧ o2.g = o1.g ∧ LeE o1.es o2.es) ∧ R d2 m2 n) := by
  refine acalls_close h fun d m' n' hr β => ?_
  obtain ⟨d2, m2, p1, p2, p3, p4⟩ := hR d m' n' hr
  obtain ⟨fu, hf⟩ := p1 β
  have hex : ∀ k, ∃ x : Option Obj, (n ≤ k → x = none) ∧ (k < n → (x = m' k ∧ m' k = m k) ∨ ∃ o o' fu', m' k = some o ∧ x = some o' ∧ o'.z = o.z ∧ o'.g = o.g ∧ o'.es = o.es.map (fun e => e.map (rs β (From n m') fu')) ∧ belowE n o'.es = true) ∧
    (x = m2 k ∨ ∃ o1 o2, x = some o1 ∧ m2 k = some o2 ∧ o2.z = o1.z ∧ o2.g = o1.g ∧ LeE o1.es o2.es) := by
   intro k
   rcases Nat.lt_or_ge k n with hk | hk
   ·rcases p3 k hk with ⟨e1, e2⟩ | ⟨o, o2, e1, e2, e3, e4, e5⟩
    ·exact ⟨m' k, fun hh => absurd hk (by omega), fun _ => .inl ⟨rfl, e2⟩, .inl e1.symm⟩
    ·obtain ⟨f2, hf2⟩ := e5.get β
     have := hf2 f2 (Nat.le_refl _)
     exact ⟨some ⟨o.z, o.es.map (fun e => e.map (rs β (From n m') f2)), o.g⟩, fun hh => absurd hk (by omega), fun _ => .inr ⟨o, _, f2, e1, rfl, rfl, rfl, rfl, this.2⟩, .inr ⟨_, o2, rfl, e2, e3, e4, this.1⟩⟩
   ·exact ⟨none, fun _ => rfl, fun hh => absurd hh (by omega), .inl (p2 k hk).symm⟩
  obtain ⟨m'', hm''⟩ := Classical.skolem.1 hex
  exact ⟨fu, _, m'', rfl, (hf fu (Nat.le_refl _)).2, fun k hk => (hm'' k).1 hk, fun k hk => (hm'' k).2.1 hk, rfl, d2, m2, (hf fu (Nat.le_refl _)).1, fun k => (hm'' k).2.2, p4⟩
 refine ⟨h.1, fun w ν F vals hst hv => Calls.mono (h1.2 w ν F vals hst hv) fun e w' he => ?_⟩
 obtain ⟨v, he, ν', F', d, m', n', g1, g2, g3, rfl, d2, m2, g4, g5, g6⟩ := he
 exact ⟨v, he, ν', F', d2, m2, n', g1, st_weakAll g2 g5, g4 _ _ _ _ g3, g6⟩
theorem pubME_sound {M' : List Obj} : ∀ (W : List Nat) (M M2 : List Obj), pubME M' n0 W M = some M2 → M2.length = M.length ∧ ∀ k, k < M.length → (k ∉ W → M2[k]? = M[k]?) ∧ (k ∈ W → ∃ o o2, M'[k]? = some o ∧ M2[k]? = some o2 ∧ o2.z = o.z ∧ o2.g = o.g ∧ PubE n0 (toMem M') o.es o2.es)
 | [], M, M2, h => by simp only [pubME, Option.some.injEq] at h; subst h; exact ⟨rfl, fun k hk => ⟨fun _ => rfl, fun hh => by cases hh⟩⟩
 | j :: W, M, M2, h => by
  simp only [pubME] at h
  split at h
  ·rename_i o ho
   split at h
   ·rename_i es M3 h1 h2
    obtain rfl := Option.some.inj h
    obtain ⟨i1, i2⟩ := pubME_sound W M M3 h2
    refine ⟨by simp [i1], fun k hk => ?_⟩
    by_cases e : k = j
    ·subst e
     refine ⟨fun hn => absurd (List.mem_cons_self) hn, fun _ => ⟨o, ⟨o.z, es, o.g⟩, ho, ?_, rfl, rfl, pubLLE_as _ _ _ h1⟩⟩
     rw [List.getElem?_set]; simp; omega
    ·have hg : (M3.set j ⟨o.z, es, o.g⟩)[k]? = M3[k]? := by rw [List.getElem?_set]; simp [Ne.symm e]
     rw [hg]
     exact ⟨fun hn => (i2 k hk).1 fun hh => hn (List.mem_cons_of_mem _ hh), fun hh => (i2 k hk).2 (by rcases List.mem_cons.1 hh with h | h; exact absurd h e; exact h)⟩
   ·cases h
  ·cases h
theorem callE_sound {orc : CallE} (ho : CS P orc) (hf : P.follows .mixedOrders = true) (hname : ∀ (id : FuncId) (fn : Func), P.funcs[id]? = some fn → (fn.name == "runtime.NumGoroutine") = false) (raw : FuncId → Bool) (fuel : Nat) : ∀ k, CS P (callE P orc raw fuel k)
 | 0 => fun id args M d M' W h => by simp only [callE] at h; cases h
 | k + 1 => fun id args M d M' W h => by
  have ih := callE_sound ho hf hname raw fuel k
  simp only [callE] at h
  split at h
  ·rename_i r hr
   obtain rfl := Option.some.inj h
   exact ho _ _ _ _ _ _ hr
  ·split at h
   ·rename_i fn hfn
    split at h
    ·rename_i c hc
     split at h
     ·rename_i hlen
      have hlen := Nat.le_of_ble_eq_true hlen
      have key : ∀ {e L' M1 W1 ds}, codeE P (callE P orc raw fuel k) fn.ntmps fuel c (args ++ List.replicate (fn.ntmps - args.length) undefD) M [] = some (e, L', M1, W1) → (e = .normal ∨ e = .ret) → resE P L' M1 fn.results.toList = some ds →
        ACalls P id args (toMem M) M.length (fun d' m' n' => d' = oneOr ds ∧ m' = toMem M1 ∧ n' = M1.length) ∧ FrE M M1 W1 := by
       intro e L' M1 W1 ds h1 he h2
       obtain ⟨a1, a2, W2, a3, a4⟩ := codeE_sound ih hf _ _ _ _ _ _ _ _ _ h1 (by simp; omega)
       rw [List.append_nil] at a3
       refine ⟨acalls_ofC hfn (hname _ _ hfn) hc hlen ?_, by rw [a3]; exact a4⟩
       rw [init_sget args (fn.ntmps - args.length)]
       refine a1 _ ?_
       rcases he with rfl | rfl
       ·simp only [exE, retC_normal]; exact resE_sound _ _ h2 _ _ ⟨rfl, rfl, rfl⟩
       ·simp only [exE, retC_ret]; exact resE_sound _ _ h2 _ _ ⟨rfl, rfl, rfl⟩
      have fin : ∀ {ds M1 W1}, (ACalls P id args (toMem M) M.length (fun d' m' n' => d' = oneOr ds ∧ m' = toMem M1 ∧ n' = M1.length) ∧ FrE M M1 W1) →
        (if raw id then some (oneOr ds, M1, W1.filter fun j => Nat.blt j M.length) else closeE M M1 (oneOr ds) (W1.filter fun j => Nat.blt j M.length)) = some (d, M', W) →
        ACalls P id args (toMem M) M.length (fun d' m' n' => d' = d ∧ m' = toMem M' ∧ n' = M'.length) ∧ FrE M M' W := by
       rintro ds M1 W1 ⟨b1, b2⟩ hfin
       have hW : ∀ j, j < M.length → (j ∉ W1.filter fun j => Nat.blt j M.length) → j ∉ W1 := fun j hj hn hin => hn (List.mem_filter.2 ⟨hin, by simpa [Nat.blt_eq] using hj⟩)
       split at hfin
       ·simp only [Option.some.injEq, Prod.mk.injEq] at hfin; obtain ⟨rfl, rfl, rfl⟩ := hfin
        exact ⟨b1, b2.1, fun j hj hn => b2.2 j hj (hW j hj hn)⟩
       ·unfold closeE at hfin
        split at hfin
        ·rename_i d2 M2 c1 c2
         simp only [Option.some.injEq, Prod.mk.injEq] at hfin; obtain ⟨rfl, rfl, rfl⟩ := hfin
         obtain ⟨e1, e2⟩ := pubME_sound _ _ _ c2
         refine ⟨acalls_closeLe b1 ?_, by omega, fun j hj hn => (e2 j hj).1 hn⟩
         rintro d' m' n' ⟨rfl, rfl, rfl⟩
         refine ⟨d2, toMem M2, pubE_as _ _ _ c1, fun k hk => List.getElem?_eq_none (by omega), fun k hk => ?_, rfl, rfl, e1.symm⟩
         by_cases hin : k ∈ W1.filter fun j => Nat.blt j M.length
         ·exact .inr ((e2 k hk).2 hin)
         ·refine .inl ⟨?_, b2.2 k hk (hW k hk hin)⟩
          show M2[k]? = M1[k]?
          rw [(e2 k hk).1 hin, b2.2 k hk (hW k hk hin)]
        ·cases hfin
      split at h
      ·rename_i L' M1 W1 h1
       split at h
       ·rename_i ds h2
        exact fin (key h1 (.inl rfl) h2) h
       ·cases h
      ·rename_i L' M1 W1 h1
       split at h
       ·rename_i ds h2
        exact fin (key h1 (.inr rfl) h2) h
       ·cases h
      ·cases h
     ·cases h
    ·cases h
   ·cases h
theorem acalls_frame {f : FuncId} {args : List D} {x : Value} {M' : List Obj} (ha : belowL 0 args = true) (h : ACalls P f args (toMem []) 0 (fun d' m' n' => d' = .v x ∧ m' = toMem M' ∧ n' = M'.length)) (m : Mem) (n : Nat) :
  ACalls P f args m n (fun d' m' n' => d' = .v x ∧ m' = m ∧ n' = n) := by
 refine ⟨h.1, fun w ν F vals hst hv => ?_⟩
 let G : Nat → Prop := fun b => ∃ k l, ν k = some l ∧ l.b = b ∧ b < w.heap.size
 have hx : Ext w (fun _ => none) F w (fun _ => none) (fun b => F b ∨ G b) := ext_more
 have hst0 : St w (fun _ => none) (fun b => F b ∨ G b) (toMem []) 0 := by
  refine ⟨⟨fun b hb => ?_, fun k k' o o' l l' h1 => by simp [toMem] at h1, fun k o hk => by simp [toMem] at hk⟩, fun k _ => ⟨rfl, by simp [toMem]⟩, GI.keep hst.gi fun b hb => ⟨.inl hb, rfl⟩⟩
  rcases hb with hb | ⟨k, l, _, _, hb⟩
  ·exact hst.mem.lt b hb
  ·exact hb
 have hv0 : ConVs w (fun _ => none) (fun b => F b ∨ G b) args vals.toList :=
  ConVs.mono hx _ _ (conVs_restrict (n := 0) (ν := ν) (ν' := fun _ => none) (fun k hk => absurd hk (Nat.not_lt_zero _)) _ _ ha hv)
 refine Calls.mono (h.2 w _ _ vals hst0 hv0) fun e w' he => ?_
 obtain ⟨v, he, ν', F', d, m', n', g1, g2, g3, rfl, _⟩ := he
 have hext : Ext w ν F w' ν (fun b => F b) := by
  refine ⟨g1.size, fun b hb => ⟨hb, (g1.fz b (.inl hb)).2⟩, fun k l hl => ⟨l, hl, Nat.le_refl _, rfl, fun _ => rfl⟩, fun k l l' hl hl' _ arr e f ha => ?_, g1.io⟩
  have hlt := (Array.getElem?_eq_some_iff.1 ha).1
  exact ⟨arr, e, f, by rw [(g1.fz l.b (.inr ⟨k, l, hl, rfl, hlt⟩)).2]; exact ha, rfl⟩
 refine ⟨v, he, ν, F, .v x, m, n, hext, ⟨⟨fun b hb => Nat.lt_of_lt_of_le (hst.mem.lt b hb) g1.size, hst.mem.inj, fun k o hk => ?_⟩, hst.fresh, GI.keep hst.gi hext.fz⟩, by simpa only [Con] using g3, rfl, rfl, rfl⟩
 obtain ⟨l, arr, e, f, q1, q2, q3, q4, q5, q6, q7⟩ := hst.mem.at_ k o hk
 have hlt := (Array.getElem?_eq_some_iff.1 q4).1
 have hsame : w'.heap[l.b]? = w.heap[l.b]? := (g1.fz l.b (.inr ⟨k, l, q1, rfl, hlt⟩)).2
 exact ⟨l, arr, e, f, q1, q2, q3, by rw [hsame]; exact q4, q5, q6, ConEs.mono hext _ _ _ _ hsame q7⟩
def noOrc : CallE := fun _ _ _ => none
theorem noOrc_cs : CS P noOrc := fun _ _ _ _ _ _ h => by cases h
theorem run_flat {orc : CallE} (ho : CS P orc) (hf : P.follows .mixedOrders = true) (hname : P.funcs.all (fun fn => !(fn.name == "runtime.NumGoroutine")) = true) (raw : FuncId → Bool) (fuel k : Nat) {f : FuncId} {args : List D} {x : Value} (ha : belowL 0 args = true)
  (h : (match callE P orc raw fuel k f args [] with | some (.v y, _, _) => eqVE y x | _ => false) = true) (m : Mem) (n : Nat) :
  ACalls P f args m n (fun d' m' n' => d' = .v x ∧ m' = m ∧ n' = n) := by
 split at h
 ·rename_i y M' W hr
  have hn : ∀ (id : FuncId) (fn : Func), P.funcs[id]? = some fn → (fn.name == "runtime.NumGoroutine") = false := fun id fn hfn => by
   obtain ⟨hlt, rfl⟩ := Array.getElem?_eq_some_iff.1 hfn
   have := Array.all_eq_true.1 hname id hlt
   simpa using this
  obtain rfl := eqVE_eq h
  exact acalls_frame ha (callE_sound ho hf hn raw fuel k _ _ _ _ _ _ hr).1 m n
 ·cases h
end
end Go.Proofs.Mv.V
