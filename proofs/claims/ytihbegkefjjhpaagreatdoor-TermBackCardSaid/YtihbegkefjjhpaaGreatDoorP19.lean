/- A part of the proofs: machine, contracts, laws. No condition of its own. -/
import Derived.Test.YtihbegkefjjhpaaGreatDoorP18
import Derived.Test.YtihbegkefjjhpaaGreatDoorP06
set_option linter.unusedSimpArgs false
set_option linter.unusedVariables false
set_option linter.unusedSectionVars false
open Go Go.Proofs Go.Proofs.Mv.V
set_option maxRecDepth 10000
namespace Go.Proofs.Mv.App
section
variable {l : List Tok} {dg : List UInt8 → Int}
theorem par_rt {bs : List (List UInt8 × Ty)} {f a c : Nat} {r : List Sk} (hf : (joinK (4, [44]) (bs.map parS)).length ≤ f) (hr : ∀ b ∈ bs, nameN b.1 = true ∧ mayT b.2 = true) (hn : (bs.map (·.1)).Nodup)
  (hs : Sees l a (joinK (4, [44]) (bs.map parS) ++ ((4, [41]) :: r))) : parO l f ⟨a, c, 0⟩ = some (bs.map (·.1), bs.map (·.2), ⟨a + (joinK (4, [44]) (bs.map parS)).length + 1, c, 0⟩) := by
 unfold parO
 rw [if_pos rfl]
 by_cases e : bs = []
 ·subst e
  simp only [List.map_nil, joinK, List.nil_append] at hs ⊢
  rw [if_pos (by rw [isT_sees hs]; simp)]
  simp [stepF]
 ·have hlen : bs.length ≤ f := by
   have := joinK_len (sep := (4, [44])) (ks := bs.map parS) (fun k hk => by obtain ⟨t, ht, rfl⟩ := List.mem_map.1 hk; simp [parS])
   simp only [List.length_map] at this
   omega
  have hnot : isT 4 [41] l ⟨a, c, 0⟩ = false := by
   obtain ⟨b, bs, rfl⟩ := List.exists_cons_of_ne_nil e
   have : ∃ q', joinK (4, [44]) ((b :: bs).map parS) ++ ((4, [41]) :: r) = (1, b.1) :: q' := by
    simp only [List.map_cons]
    by_cases e : bs.map parS = []
    ·rw [e]; simp only [joinK, parS]; exact ⟨_, rfl⟩
    ·rw [joinK_cons e, parS]; exact ⟨_, rfl⟩
   obtain ⟨q', hq⟩ := this
   rw [hq] at hs
   rw [isT_sees hs]
   simp
  rw [hnot, if_neg (by simp)]
  have := pars_rt (l := l) bs f [] [] a c r e hlen hr (by simpa using hn) hs
  simpa using this
theorem fields_rt {rec : PS → Option (Tm × PS)} {bs : List Bnd} {f a c : Nat} {r : List Sk} (hf : (joinK (4, [44]) (bs.map bndS)).length ≤ f) (hr : ∀ b ∈ bs, nameN b.1 = true ∧ RdT l rec b.2) (hn : (bs.map (·.1)).Pairwise fun a b => ltB a b = true) (hn2 : (bs.map (·.1)).Nodup)
  (hs : Sees l a (joinK (4, [44]) (bs.map bndS) ++ ((4, [125]) :: r))) : fieldsO l rec f ⟨a, c, 0⟩ = some (makeB bs, ⟨a + (joinK (4, [44]) (bs.map bndS)).length + 1, c, 0⟩) := by
 unfold fieldsO
 rw [if_pos rfl]
 by_cases e : bs = []
 ·subst e
  simp only [List.map_nil, joinK, List.nil_append] at hs ⊢
  rw [if_pos (by rw [isT_sees hs]; simp)]
  simp [stepF]
 ·have hlen : bs.length ≤ f := by
   have := joinK_len (sep := (4, [44])) (ks := bs.map bndS) (fun k hk => by obtain ⟨t, ht, rfl⟩ := List.mem_map.1 hk; simp [bndS])
   simp only [List.length_map] at this
   omega
  have hnot : isT 4 [125] l ⟨a, c, 0⟩ = false := by
   obtain ⟨b, bs, rfl⟩ := List.exists_cons_of_ne_nil e
   have : ∃ q', joinK (4, [44]) ((b :: bs).map bndS) ++ ((4, [125]) :: r) = (1, b.1) :: q' := by
    simp only [List.map_cons]
    by_cases e : bs.map bndS = []
    ·rw [e]; simp only [joinK, bndS]; exact ⟨_, rfl⟩
    ·rw [joinK_cons e, bndS]; exact ⟨_, rfl⟩
   obtain ⟨q', hq⟩ := this
   rw [hq] at hs
   rw [isT_sees hs]
   simp
  rw [hnot, if_neg (by simp)]
  have := flds_rt (rec := rec) bs f [] a c r e hlen hr (by simpa using hn2) hs
  rw [this]
  simp [sortB_ris hn]
theorem isT_nc {a c : Nat} {r : List Sk} (h : Sees l a r) (hn : NC r) : isT 4 [58] l ⟨a, c, 0⟩ = false := by
 cases r with
 | nil => exact isT_end h
 | cons x r =>
  obtain ⟨k, s⟩ := x
  rw [isT_sees h]
  by_cases e : k = 4
  ·subst e
   have : s ≠ [58] := fun e => hn (by rw [e]; rfl)
   simp [this]
  ·simp [e]
theorem deepTm_mk (k N : Int) (mod nm : List UInt8) (names vars : List (List UInt8)) (types : List Ty) (subs : List Tm) : deepTm (.mk k N mod nm names vars types subs) = 1 + deepTms subs := by simp only [deepTm]; omega
theorem skK_8 {N : Int} {mod nm : List UInt8} {names vars : List (List UInt8)} {Y : List (List Sk)} {kh : Int} {T : List (List Sk)} : skK 8 N mod nm names vars Y kh T = (1, [102, 110]) :: (4, [40]) :: (joinK (4, [44]) (fnS names Y) ++ (4, [41]) :: T.getD 0 []) := by
 unfold skK
 rw [if_neg (by decide), if_neg (by decide), if_neg (by decide), if_neg (by decide), if_neg (by decide), if_neg (by decide), if_neg (by decide), if_pos rfl]
theorem skK_11 {N : Int} {mod nm : List UInt8} {names vars : List (List UInt8)} {Y : List (List Sk)} {kh : Int} {T : List (List Sk)} : skK 11 N mod nm names vars Y kh T = (1, [105, 102]) :: (T.getD 0 [] ++ (1, [116, 104, 101, 110]) :: (T.getD 1 [] ++ (1, [101, 108, 115, 101]) :: T.getD 2 [])) := by
 unfold skK
 rw [if_neg (by decide), if_neg (by decide), if_neg (by decide), if_neg (by decide), if_neg (by decide), if_neg (by decide), if_neg (by decide), if_neg (by decide), if_neg (by decide), if_neg (by decide), if_pos rfl]
theorem skK_12 {N : Int} {mod nm : List UInt8} {names vars : List (List UInt8)} {Y : List (List Sk)} {kh : Int} {T : List (List Sk)} : skK 12 N mod nm names vars Y kh T = (1, [99, 97, 115, 101]) :: (T.getD 0 [] ++ (1, [111, 102]) :: (brS names vars T names.length ++ [(1, [101, 110, 100])])) := by
 unfold skK
 rw [if_neg (by decide), if_neg (by decide), if_neg (by decide), if_neg (by decide), if_neg (by decide), if_neg (by decide), if_neg (by decide), if_neg (by decide), if_neg (by decide), if_neg (by decide), if_neg (by decide)]
theorem rt_tm (hdg : ∀ n, n ≤ 999999999 → dg (digits n) = (n : Int)) : ∀ (n : Nat) (t : Tm), manyTm t ≤ n → allTm t = true → RdA l dg t ∧ (HdK (kindTmK t) → RdB l dg (skTm t) t)
 | 0, t, h, _ => by have := manyTm_pos t; omega
 | n + 1, .mk k N mod nm names vars types subs, hn, ha => by
  have hbeg := beg_tm hdg (n + 1) _ hn ha
  have hsub : ∀ s ∈ subs, manyTm s ≤ n ∧ allTm s = true := fun s hs => by
   simp only [allTm, Bool.and_eq_true] at ha
   refine ⟨?_, allTms_mem ha.2 s hs⟩
   have : ∀ (l : List Tm), s ∈ l → manyTm s ≤ manyTms l := by
    intro l
    induction l with
    | nil => intro h; cases h
    | cons x l ih =>
     intro h
     simp only [manyTms]
     rcases List.mem_cons.1 h with rfl | h
     ·omega
     ·have := ih h; omega
   have := this subs hs
   simp only [manyTm] at hn
   omega
  have ih : ∀ s ∈ subs, RdA l dg s ∧ (HdK (kindTmK s) → RdB l dg (skTm s) s) := fun s hs => rt_tm hdg n s (hsub s hs).1 (hsub s hs).2
  have hbs : ∀ s ∈ subs, BegOk dg (kindTmK s) (skTm s) := fun s hs => beg_tm hdg n s (hsub s hs).1 (hsub s hs).2
  have hdp : ∀ s ∈ subs, deepTm s ≤ deepTms subs := fun s hs => deepTms_mem hs
  have hall := ha
  simp only [allTm, Bool.and_eq_true] at hall
  obtain ⟨hk, hz⟩ := shapeTm_parts hall.1
  have hbare : bareTm k N mod nm = true := by
   have := hall.1
   simp only [shapeTm, Bool.and_eq_true] at this
   exact this.1.2
  obtain ⟨b1, b2, b3⟩ := bareTm_parts hbare
  have hc := hk.cn
  unfold cntK at hc
  have nil0 : ∀ {α : Type} {l : List α}, l.length = 0 → l = [] := fun h => List.length_eq_zero_iff.1 h
  have hS : skTm (.mk k N mod nm names vars types subs) = skK k N mod nm names vars (types.map skT) (kindH subs) (subs.map skTm) := by rw [skTm, skTms_eq]
  have hB : HdK k → RdB l dg (skTm (.mk k N mod nm names vars types subs)) (.mk k N mod nm names vars types subs) := by
   intro hh f dp a c r hf hd hs hnc
   rw [deepTm_mk] at hd
   rw [hS] at hf hs ⊢
   unfold skK at hf hs ⊢
   by_cases k1 : k = 1
   ·rw [if_pos k1] at hf hs ⊢
    refine ⟨_, _, by rw [pri_kind hs, if_pos rfl], fun F _ => ⟨F, by omega, ?_⟩⟩
    rw [hdg N.toNat (by have := hk.n1 k1; omega)]
    obtain rfl := nil0 (l := names) (by omega)
    obtain rfl := nil0 (l := vars) (by omega)
    obtain rfl := nil0 (l := types) (by omega)
    obtain rfl := nil0 (l := subs) (by omega)
    have e1 : mod = [] := b2.resolve_right (by omega)
    have e2 : nm = [] := b3.resolve_right (by omega)
    have e3 : ((N.toNat : Nat) : Int) = N := by have := hk.n1 k1; omega
    rw [e1, e2, e3, k1]
    rfl
   rw [if_neg k1] at hf hs ⊢
   by_cases k2 : k = 2
   ·rw [if_pos k2] at hf hs ⊢
    obtain rfl := nil0 (l := names) (by omega)
    obtain rfl := nil0 (l := vars) (by omega)
    obtain rfl := nil0 (l := types) (by omega)
    obtain rfl := nil0 (l := subs) (by omega)
    have e1 : mod = [] := b2.resolve_right (by omega)
    have e2 : nm = [] := b3.resolve_right (by omega)
    rcases hk.n2 k2 with e | e
    ·subst e
     rw [if_neg (by decide)] at hs
     refine ⟨.mk 2 0 [] [] [] [] [] [], ⟨a + 1, c, 0⟩, by rw [pri_kind hs, if_neg (by simp), if_neg (by simp), if_pos rfl, if_neg (by simp [wTrue, wFalse]), if_pos rfl], fun F _ => ⟨F, by omega, ?_⟩⟩
     rw [e1, e2, k2]
     rfl
    ·subst e
     rw [if_pos rfl] at hs
     refine ⟨.mk 2 1 [] [] [] [] [] [], ⟨a + 1, c, 0⟩, by rw [pri_kind hs, if_neg (by simp), if_neg (by simp), if_pos rfl, if_pos rfl], fun F _ => ⟨F, by omega, ?_⟩⟩
     rw [e1, e2, k2]
     rfl
   rw [if_neg k2] at hf hs ⊢
   have hN : N = 0 := b1.resolve_right (by omega)
   subst hN
   by_cases k3 : k = 3
   ·rw [if_pos k3] at hf hs ⊢
    obtain rfl := nil0 (l := names) (by omega)
    obtain rfl := nil0 (l := vars) (by omega)
    obtain rfl := nil0 (l := types) (by omega)
    obtain rfl := nil0 (l := subs) (by omega)
    have e1 : mod = [] := b2.resolve_right (by omega)
    subst e1
    have s1 := (sees_get hs).2
    refine ⟨.mk 3 0 [] nm [] [] [] [], ⟨a + 1, c, 0⟩, ?_, fun F _ => ⟨F, by omega, ?_⟩⟩
    ·rw [pri_kind hs, if_neg (by simp), if_pos rfl, isT_nc s1 hnc, if_neg (by simp)]
    ·rw [k3]; rfl
   rw [if_neg k3] at hf hs ⊢
   by_cases k4 : k = 4
   ·rw [if_pos k4] at hf hs ⊢
    obtain rfl := nil0 (l := names) (by omega)
    obtain rfl := nil0 (l := vars) (by omega)
    obtain rfl := nil0 (l := types) (by omega)
    obtain rfl := nil0 (l := subs) (by omega)
    have s1 := (sees_get hs).2
    have s2 := (sees_get s1).2
    refine ⟨.mk 4 0 mod nm [] [] [] [], ⟨a + 1 + 1 + 1, c, 0⟩, ?_, fun F _ => ⟨F, by omega, ?_⟩⟩
    ·rw [pri_kind hs, if_neg (by simp), if_pos rfl, if_pos (by rw [isT_sees s1]; simp)]
     simp only [stepF]
     rw [namedT_sees (hk.nm3 (.inr (.inl k4))) s2]
    ·rw [k4]; rfl
   rw [if_neg k4] at hf hs ⊢
   have e1 : mod = [] := b2.resolve_right (by omega)
   subst e1
   by_cases k5 : k = 5
   ·rw [if_pos k5] at hf hs ⊢
    have hl : names.length = subs.length := by omega
    rw [makS_zip hl] at hf hs ⊢
    obtain rfl := nil0 (l := vars) (by omega)
    obtain rfl := nil0 (l := types) (by omega)
    have e2 : nm = [] := b3.resolve_right (by omega)
    subst e2
    simp only [List.length_cons, List.length_append, List.length_nil] at hf ⊢
    have hs' : Sees l a ((4, [123]) :: (joinK (4, [44]) ((names.zip subs).map bndS) ++ ((4, [125]) :: r))) := by simpa using hs
    have s1 := (sees_get hs').2
    have z1 : (names.zip subs).map (·.1) = names := List.map_fst_zip (by omega)
    have z2 : (names.zip subs).map (·.2) = subs := List.map_snd_zip (by omega)
    have hr : ∀ b ∈ names.zip subs, nameN b.1 = true ∧ RdT l (termX l dg f (dp + 1)) b.2 := fun b hb => by
     have hb2 : b.2 ∈ subs := (List.of_mem_zip hb).2
     have hb3 := joinK_mem (sep := (4, [44])) (List.mem_map_of_mem (f := bndS) hb)
     simp only [bndS, List.length_cons] at hb3
     have := hdp b.2 hb2
     exact ⟨risO_mem (hk.r5 k5) (List.of_mem_zip hb).1, rdA_T (ih b.2 hb2).1 (by omega) (by omega)⟩
    have h1 := fields_rt (c := c) (rec := termX l dg f (dp + 1)) (f := f) (by omega) hr (by rw [z1]; exact ris_pairwise (hk.r5 k5)) (by rw [z1]; exact ris_nodup (hk.r5 k5)) s1
    refine ⟨_, _, by rw [pri_kind hs', if_neg (by simp), if_neg (by simp), if_neg (by simp), if_pos rfl, h1], fun F _ => ⟨F, by omega, ?_⟩⟩
    rw [makeB, z1, z2, k5]
    congr 2
    omega
   rw [if_neg k5] at hf hs ⊢
   by_cases k6 : k = 6
   ·rw [if_pos k6] at hf hs ⊢
    obtain rfl := nil0 (l := names) (by omega)
    obtain rfl := nil0 (l := vars) (by omega)
    obtain rfl := nil0 (l := types) (by omega)
    obtain ⟨u, rfl⟩ := List.length_eq_one_iff.1 (show subs.length = 1 by omega)
    simp only [kindH_cons, List.map_cons, List.map_nil, List.getD_cons_zero, List.length_append, List.length_cons, List.length_nil] at hf hs ⊢
    have hu := hdp u (by simp)
    have hs' : Sees l a (parKs (kindTmK u) (skTm u) ++ ((4, [46]) :: (1, nm) :: r)) := by simpa using hs
    obtain ⟨t0, q0, h1, h2⟩ := rdB_of (ih u (by simp)).1 (ih u (by simp)).2 f dp a c _ (by omega) (by omega) hs' (by simp [NC])
    refine ⟨t0, q0, h1, fun F hF => ?_⟩
    obtain ⟨F1, g1, g2⟩ := h2 F (by omega)
    obtain ⟨F2, rfl⟩ : ∃ F2, F1 = F2 + 1 := ⟨F1 - 1, by omega⟩
    refine ⟨F2, by omega, ?_⟩
    rw [g2, beh_dot (hk.nm3 (.inr (.inr k6))) (sees_app hs'), k6]
    congr 2
   rw [if_neg k6] at hf hs ⊢
   by_cases k7 : k = 7
   ·rw [if_pos k7] at hf hs ⊢
    obtain rfl := nil0 (l := names) (by omega)
    obtain rfl := nil0 (l := vars) (by omega)
    obtain rfl := nil0 (l := types) (by omega)
    obtain ⟨u, rfl⟩ := List.length_eq_one_iff.1 (show subs.length = 1 by omega)
    simp only [List.map_cons, List.map_nil, List.getD_cons_zero, List.length_append, List.length_cons, List.length_nil] at hf hs ⊢
    have hu := hdp u (by simp)
    have hs' : Sees l a ((2, nm) :: (4, [40]) :: (skTm u ++ ((4, [41]) :: r))) := by simpa using hs
    have s1 := (sees_get hs').2
    have s2 := (sees_get s1).2
    have h1 := (ih u (by simp)).1 f (dp + 1) (a + 1 + 1) c _ (by omega) (by omega) s2 (nf_cons (by decide) (by decide) (by decide))
    have s3 := sees_app s2
    have htg := hk.tg7 k7
    simp only [tagN, Bool.and_eq_true, Bool.not_eq_true', decide_eq_false_iff_not] at htg
    refine ⟨.mk 7 0 [] nm [] [] [] [u], ⟨a + 1 + 1 + (skTm u).length + 1, c, 0⟩, ?_, fun F _ => ⟨F, by omega, ?_⟩⟩
    ·rw [pri_kind hs', if_neg (by simp), if_neg (by simp), if_pos rfl, if_neg htg.1.2, if_neg htg.2, mustT_sees s1, h1]
     simp only
     rw [mustT_sees s3]
    ·rw [k7]
     congr 2
     omega
   rw [if_neg k7] at hf hs ⊢
   unfold HdK at hh
   rw [if_neg hh.1] at hf hs ⊢
   have e2 : nm = [] := b3.resolve_right (by omega)
   subst e2
   by_cases k9 : k = 9
   ·rw [if_pos k9] at hf hs ⊢
    obtain rfl := nil0 (l := names) (by omega)
    obtain rfl := nil0 (l := vars) (by omega)
    obtain rfl := nil0 (l := types) (by omega)
    obtain ⟨u, ts, rfl⟩ := List.exists_cons_of_ne_nil (show subs ≠ [] by rintro rfl; simp at hc; omega)
    simp only [kindH_cons, List.map_cons, List.map_nil, List.getD_cons_zero, List.drop_succ_cons, List.drop_zero, List.length_append, List.length_cons, List.length_nil] at hf hs ⊢
    have hu := hdp u (by simp)
    have hs' : Sees l a (parKs (kindTmK u) (skTm u) ++ ((4, [40]) :: (joinK (4, [44]) (ts.map skTm) ++ ((4, [41]) :: r)))) := by simpa using hs
    obtain ⟨t0, q0, h1, h2⟩ := rdB_of (ih u (by simp)).1 (ih u (by simp)).2 f dp a c _ (by omega) (by omega) hs' (by simp [NC])
    have s1 := sees_app hs'
    have s2 := (sees_get s1).2
    have hr : ∀ t ∈ ts, RdT l (termX l dg f (dp + 1)) t := fun t ht => by
     have h3 := joinK_mem (sep := (4, [44])) (List.mem_map_of_mem (f := skTm) ht)
     have := hdp t (by simp [ht])
     exact rdA_T (ih t (by simp [ht])).1 (by omega) (by omega)
    have h3 := sev_rt (c := c) (dg := dg) (rec := termX l dg f (dp + 1)) (f := f) (en := [41]) (non := true) (by decide) (by decide) (by decide) (by decide) (fun y hy => by rcases beg4 hy with rfl | rfl | rfl <;> decide) (fun h => by cases h) (fun t ht => hbs t (by simp [ht])) (by omega) hr s2
    refine ⟨t0, q0, h1, fun F hF => ?_⟩
    obtain ⟨F1, g1, g2⟩ := h2 F (by omega)
    obtain ⟨F2, rfl⟩ : ∃ F2, F1 = F2 + 1 := ⟨F1 - 1, by omega⟩
    refine ⟨F2, by omega, ?_⟩
    rw [g2, beh_call s1 h3, k9]
    congr 2
    omega
   rw [if_neg k9] at hf hs ⊢
   by_cases k10 : k = 10
   ·rw [if_pos k10] at hf hs ⊢
    obtain rfl := nil0 (l := names) (by omega)
    obtain rfl := nil0 (l := vars) (by omega)
    obtain rfl := nil0 (l := types) (by omega)
    simp only [List.length_append, List.length_cons, List.length_nil] at hf ⊢
    have hs' : Sees l a ((4, [91]) :: (joinK (4, [44]) (subs.map skTm) ++ ((4, [93]) :: r))) := by simpa using hs
    have s1 := (sees_get hs').2
    have hr : ∀ t ∈ subs, RdT l (termX l dg f (dp + 1)) t := fun t ht => by
     have h3 := joinK_mem (sep := (4, [44])) (List.mem_map_of_mem (f := skTm) ht)
     have := hdp t ht
     exact rdA_T (ih t ht).1 (by omega) (by omega)
    have h3 := sev_rt (c := c) (dg := dg) (rec := termX l dg f (dp + 1)) (f := f) (en := [93]) (non := false) (by decide) (by decide) (by decide) (by decide) (fun y hy => by rcases beg4 hy with rfl | rfl | rfl <;> decide) (fun _ e => by subst e; simp at hc; omega) hbs (by omega) hr s1
    refine ⟨.mk 10 0 [] [] [] [] [] subs, ⟨a + 1 + (joinK (4, [44]) (subs.map skTm)).length + 1, c, 0⟩, ?_, fun F _ => ⟨F, by omega, ?_⟩⟩
    ·rw [pri_kind hs', if_neg (by simp), if_neg (by simp), if_neg (by simp), if_neg (by simp), if_pos rfl, h3]
     rfl
    ·rw [k10]
     congr 2
     omega
   ·omega
  refine ⟨?_, hB⟩
  intro f dp a c r hf hd hs hnf
  obtain ⟨x, q, ex, eb, ew⟩ := hbeg
  obtain ⟨f, rfl⟩ : ∃ f', f = f' + 1 := ⟨f - 1, by omega⟩
  have hs' : Sees l a (x :: (q ++ r)) := by rw [ex] at hs; exact hs
  have hd2 := hd
  rw [deepTm_mk] at hd2
  unfold termX
  rw [kindC_sees hs', curT_sees hs', if_pos eb, if_neg (show ¬ 2000 ≤ dp by omega)]
  by_cases hh : HdK k
  ·have ew := ew hh
   rw [if_neg (fun h => ew ⟨h.1, .inl h.2⟩), if_neg (fun h => ew ⟨h.1, .inr (.inl h.2)⟩), if_neg (fun h => ew ⟨h.1, .inr (.inr h.2)⟩)]
   obtain ⟨t0, q0, h1, h2⟩ := hB hh f dp a c r (by omega) (by omega) hs (nf_nc hnf)
   rw [h1]
   simp only
   obtain ⟨F1, g1, g2⟩ := h2 f (by omega)
   obtain ⟨F2, rfl⟩ : ∃ F2, F1 = F2 + 1 := ⟨F1 - 1, by omega⟩
   rw [g2, beh_stop (sees_app hs) hnf]
  have hN : N = 0 := b1.resolve_right (by unfold HdK at hh; omega)
  subst hN
  have e1 : mod = [] := b2.resolve_right (by unfold HdK at hh; omega)
  subst e1
  have e2 : nm = [] := b3.resolve_right (by unfold HdK at hh; omega)
  subst e2
  clear hB ew
  unfold HdK at hh
  by_cases k8 : k = 8
  ·subst k8
   rw [hS, skK_8] at hf hs ex ⊢
   obtain ⟨rfl, -⟩ : x = (1, [102, 110]) ∧ _ = q := by simpa [eq_comm] using ex
   rw [if_pos ⟨rfl, rfl⟩]
   obtain rfl := nil0 (l := vars) (by omega)
   obtain ⟨u, rfl⟩ := List.length_eq_one_iff.1 (show subs.length = 1 by omega)
   have hl : names.length = types.length := by omega
   rw [fnS_zip hl] at hf hs ⊢
   simp only [List.map_cons, List.map_nil, List.getD_cons_zero, List.length_append, List.length_cons, List.length_nil] at hf hs ⊢
   have hs2 : Sees l a ((1, [102, 110]) :: (4, [40]) :: (joinK (4, [44]) ((names.zip types).map parS) ++ ((4, [41]) :: (skTm u ++ r)))) := by simpa using hs
   have s1 := (sees_get hs2).2
   have s2 := (sees_get s1).2
   have z1 : (names.zip types).map (·.1) = names := List.map_fst_zip (by omega)
   have z2 : (names.zip types).map (·.2) = types := List.map_snd_zip (by omega)
   obtain ⟨r1, r2, r3⟩ := hk.r8 rfl
   have h1 := par_rt (c := c) (f := f) (by omega) (fun b hb => ⟨List.all_eq_true.1 r1 _ (List.of_mem_zip hb).1, List.all_eq_true.1 r3 _ (List.of_mem_zip hb).2⟩) (by rw [z1]; exact dist_nodup r2) s2
   have s3 := (sees_get (sees_app s2)).2
   have hu := hdp u (by simp)
   have h2 := (ih u (by simp)).1 f (dp + 1) _ c r (by omega) (by omega) s3 hnf
   unfold funO
   simp only [stepF]
   rw [mustT_sees s1, h1]
   simp only
   rw [h2, z1, z2]
   simp only [Option.some.injEq, Prod.mk.injEq, PS.mk.injEq, and_true, true_and]
   omega
  by_cases k11 : k = 11
  ·subst k11
   rw [hS, skK_11] at hf hs ex ⊢
   obtain ⟨rfl, -⟩ : x = (1, [105, 102]) ∧ _ = q := by simpa [eq_comm] using ex
   rw [if_neg (by simp [wFn]), if_pos ⟨rfl, rfl⟩]
   obtain rfl := nil0 (l := names) (by omega)
   obtain rfl := nil0 (l := vars) (by omega)
   obtain rfl := nil0 (l := types) (by omega)
   obtain ⟨u, v, w, rfl⟩ : ∃ u v w, subs = [u, v, w] := by
    have : subs.length = 3 := by omega
    match subs, this with
    | [u, v, w], _ => exact ⟨u, v, w, rfl⟩
   simp only [List.map_cons, List.map_nil, List.getD_cons_zero, List.getD_cons_succ, List.length_append, List.length_cons, List.length_nil] at hf hs ⊢
   have hs2 : Sees l a ((1, [105, 102]) :: (skTm u ++ ((1, wThen) :: (skTm v ++ ((1, wElse) :: (skTm w ++ r)))))) := by simpa [wThen, wElse] using hs
   have s1 := (sees_get hs2).2
   have hu := hdp u (by simp)
   have hv := hdp v (by simp)
   have hw := hdp w (by simp)
   have h1 := (ih u (by simp)).1 f (dp + 1) _ c _ (by omega) (by omega) s1 (nf_cons (by decide) (by decide) (by decide))
   have s2 := sees_app s1
   have s3 := (sees_get s2).2
   have h2 := (ih v (by simp)).1 f (dp + 1) _ c _ (by omega) (by omega) s3 (nf_cons (by decide) (by decide) (by decide))
   have s4 := sees_app s3
   have s5 := (sees_get s4).2
   have h3 := (ih w (by simp)).1 f (dp + 1) _ c r (by omega) (by omega) s5 hnf
   unfold choO
   simp only [stepF]
   rw [h1]
   simp only
   rw [mustT_sees s2, h2]
   simp only
   rw [mustT_sees s4, h3]
   simp only [Option.some.injEq, Prod.mk.injEq, PS.mk.injEq, and_true, true_and]
   omega
  ·have k12 : k = 12 := by omega
   subst k12
   rw [hS, skK_12] at hf hs ex ⊢
   obtain ⟨rfl, -⟩ : x = (1, [99, 97, 115, 101]) ∧ _ = q := by simpa [eq_comm] using ex
   rw [if_neg (by simp [wFn]), if_neg (by simp [wIf]), if_pos ⟨rfl, rfl⟩]
   obtain rfl := nil0 (l := types) (by omega)
   obtain ⟨u, ts, rfl⟩ := List.exists_cons_of_ne_nil (show subs ≠ [] by rintro rfl; simp at hc)
   simp only [List.length_cons] at hc
   simp only [List.map_cons] at hf hs ⊢
   rw [brS_zip (show names.length = ts.length by omega) (show vars.length = names.length by omega)] at hf hs ⊢
   obtain ⟨r1, r2⟩ := hk.r12 rfl
   simp only [List.getD_cons_zero, List.length_append, List.length_cons, List.length_nil] at hf hs ⊢
   have hs2 : Sees l a ((1, [99, 97, 115, 101]) :: (skTm u ++ ((1, wOf) :: (((names.zip (vars.zip ts)).map brcS).flatten ++ ((1, wEnd) :: r))))) := by simpa [wOf, wEnd] using hs
   have s1 := (sees_get hs2).2
   have hu := hdp u (by simp)
   have h1 := (ih u (by simp)).1 f (dp + 1) _ c _ (by omega) (by omega) s1 (nf_cons (by decide) (by decide) (by decide))
   have s2 := sees_app s1
   have s3 := (sees_get s2).2
   have hlz : (vars.zip ts).length = names.length := by rw [List.length_zip]; omega
   have z1 : (names.zip (vars.zip ts)).map (·.1) = names := List.map_fst_zip (by omega)
   have z2 : (names.zip (vars.zip ts)).map (·.2) = vars.zip ts := List.map_snd_zip (by omega)
   have z3 : (names.zip (vars.zip ts)).map (·.2.1) = vars := by
    have : (names.zip (vars.zip ts)).map (·.2.1) = ((names.zip (vars.zip ts)).map (·.2)).map (·.1) := by rw [List.map_map]; rfl
    rw [this, z2, List.map_fst_zip (by omega)]
   have z4 : (names.zip (vars.zip ts)).map (·.2.2) = ts := by
    have : (names.zip (vars.zip ts)).map (·.2.2) = ((names.zip (vars.zip ts)).map (·.2)).map (·.2) := by rw [List.map_map]; rfl
    rw [this, z2, List.map_snd_zip (by omega)]
   have hr : ∀ b ∈ names.zip (vars.zip ts), tagN b.1 = true ∧ nameN b.2.1 = true ∧ RdT l (termX l dg f (dp + 1)) b.2.2 := fun b hb => by
    have m1 := List.of_mem_zip hb
    have m2 := List.of_mem_zip m1.2
    have hb3 := flatS_mem (List.mem_map_of_mem (f := brcS) hb)
    simp only [brcS, List.length_cons] at hb3
    have := hdp b.2.2 (by simp [m2.2])
    exact ⟨risO_mem r1 m1.1, List.all_eq_true.1 r2 _ m2.1, rdA_T (ih b.2.2 (by simp [m2.2])).1 (by omega) (by omega)⟩
   have hne : names.zip (vars.zip ts) ≠ [] := fun e => by
    have h0 : (names.zip (vars.zip ts)).length = names.length := by rw [List.length_zip]; omega
    rw [e] at h0
    simp only [List.length_nil] at h0
    omega
   have hln : (names.zip (vars.zip ts)).length ≤ f := by
    have := flatS_len (ks := (names.zip (vars.zip ts)).map brcS) (fun k hk => by obtain ⟨t, ht, rfl⟩ := List.mem_map.1 hk; simp [brcS])
    simp only [List.length_map] at this
    omega
   have h2 := brs_rt (rec := termX l dg f (dp + 1)) _ f [] _ c r hne hln hr (by rw [List.nil_append, z1]; exact ris_nodup r1) s3
   unfold casO
   simp only [stepF]
   rw [h1]
   simp only
   rw [mustT_sees s2, if_pos rfl, h2]
   simp only [List.nil_append, Option.map_some, sortR_ris (show ((names.zip (vars.zip ts)).map (·.1)).Pairwise _ by rw [z1]; exact ris_pairwise r1), caseR]
   rw [z1, z3, z4]
   simp only [Option.some.injEq, Prod.mk.injEq, PS.mk.injEq, and_true, true_and]
   omega
end
end Go.Proofs.Mv.App
open Go Go.Proofs Go.Proofs.Mv.V
namespace Go.Proofs.Mv.App
theorem mustF_may {s : List UInt8} {l : List Tok} {p : PS} (h : (mustF s l p).bad = 0) : p.bad = 0 ∧ isSig s l p = true ∧ mustF s l p = stepF p := by
 unfold mustF at h ⊢
 split at h
 ·rename_i e; exact ⟨by simpa [stepF] using h, e, by rw [if_pos e]⟩
 ·unfold failF at h; split at h
  ·cases h
  ·rename_i e; exact absurd h e
theorem nameF_may {g : Bool} {l : List Tok} {p : PS} (h : (nameF g l p).2.bad = 0) : p.bad = 0 ∧ namOk g (nameF g l p).1 = true ∧ (nameF g l p).2.cnt = p.cnt := by
 unfold nameF at h ⊢
 split at h
 ·rename_i e
  rw [if_pos e]
  refine ⟨by simpa [stepF] using h, ?_, rfl⟩
  unfold isNam at e; unfold curT
  cases hc : cur l p with
  | none => rw [hc] at e; cases e
  | some t => rw [hc] at e; simp only [Bool.and_eq_true] at e; exact e.2
 ·unfold failF at h; split at h
  ·cases h
  ·rename_i e; exact absurd h e
theorem numF_may {l : List Tok} {p : PS} (h : (numF l p).2.bad = 0) : p.bad = 0 ∧ 1 ≤ (numF l p).1 ∧ (numF l p).1 ≤ 999999999 ∧ (numF l p).2.cnt = p.cnt := by
 unfold numF at h ⊢
 split at h
 ·rename_i e
  rw [if_pos e]
  have : numOk (curT l p) = true := by
   unfold isNum at e; unfold curT
   cases hc : cur l p with
   | none => rw [hc] at e; cases e
   | some t => rw [hc] at e; simp only [Bool.and_eq_true] at e; exact e.2
  have := of_numOk this
  exact ⟨by simpa [stepF] using h, this.2.1, this.2.2.1, rfl⟩
 ·unfold failF at h; split at h
  ·cases h
  ·rename_i e; exact absurd h e
def RdMay (l : List Tok) (rec : PS → Ty × PS) (k : Nat) : Prop := ∀ p, (rec p).2.bad = 0 → begF l p = true ∧ p.bad = 0 ∧ allT (rec p).1 = true ∧ deepT (rec p).1 ≤ k ∧ (rec p).2.cnt = p.cnt + manyT (rec p).1 ∧ (rec p).2.cnt ≤ 500
theorem isNam_curT {g : Bool} {l : List Tok} {p : PS} (e : isNam g l p = true) : namOk g (curT l p) = true := by
 unfold isNam at e; unfold curT
 cases hc : cur l p with
 | none => rw [hc] at e; cases e
 | some t => rw [hc] at e; simp only [Bool.and_eq_true] at e; exact e.2
theorem failF_may {c : Nat} {p : PS} (hc : c ≠ 0) : ¬ (failF c p).bad = 0 := by
 unfold failF; split
 ·exact hc
 ·assumption
theorem named_may {l : List Tok} {g : Bool} {en : List UInt8} {rec : PS → Ty × PS} {k0 : Nat} (hr : RdMay l rec k0) : ∀ (k : Nat) (ps : List Nm) (p : PS),
  (namedF l g en rec k ps p).2.bad = 0 → ps.length ≤ 20 → 21 ≤ ps.length + k → (ps.map (·.1)).Nodup → (∀ x ∈ ps, namOk g x.1 = true) →
  p.bad = 0 ∧ ∃ qs, (namedF l g en rec k ps p).1 = ps ++ qs ∧ qs ≠ [] ∧ (ps ++ qs).length ≤ 20 ∧ ((ps ++ qs).map (·.1)).Nodup ∧ (∀ x ∈ ps ++ qs, namOk g x.1 = true) ∧ (∀ x ∈ qs, allT x.2 = true ∧ deepT x.2 ≤ k0) ∧
   (namedF l g en rec k ps p).2.cnt = p.cnt + manyTs (qs.map (·.2)) ∧ (namedF l g en rec k ps p).2.cnt ≤ 500
 | 0, ps, p, _, h1, h2, _, _ => by omega
 | k + 1, ps, p, h, h1, h2, hd, hn => by
  simp only [namedF] at h ⊢
  split at h
  ·rename_i e; exact absurd h e
  rename_i hb
  rw [if_neg hb]
  split at h
  ·exact absurd h (failF_may (by decide))
  rename_i hnam
  rw [if_neg hnam]
  split at h
  ·exact absurd h (failF_may (by decide))
  rename_i h20
  rw [if_neg h20]
  split at h
  ·exact absurd h (failF_may (by decide))
  rename_i hnin
  rw [if_neg hnin]
  have hb' : p.bad = 0 := by simpa using hb
  have hnam' : isNam g l p = true := by simpa using hnam
  have hcur := isNam_curT hnam'
  have hd' : ((ps ++ [(curT l p, (rec (mustF [58] l (stepF p))).1)]).map (·.1)).Nodup := by
   rw [List.map_append, List.nodup_append]
   refine ⟨hd, by simp, ?_⟩
   intro a ha b hb
   simp only [List.map_cons, List.map_nil, List.mem_singleton] at hb
   subst hb
   exact fun e => hnin (by rw [← e]; exact ha)
  have hn' : ∀ x ∈ ps ++ [(curT l p, (rec (mustF [58] l (stepF p))).1)], namOk g x.1 = true := by
   intro x hx
   rcases List.mem_append.1 hx with hx | hx
   ·exact hn x hx
   ·simp only [List.mem_singleton] at hx; subst hx; exact hcur
  split at h
  ·rename_i hsig
   rw [if_pos hsig]
   have hq : (rec (mustF [58] l (stepF p))).2.bad = 0 := by simpa [stepF] using h
   obtain ⟨_, m1, m2, m3, m4, m5⟩ := hr _ hq
   obtain ⟨_, _, e⟩ := mustF_may m1
   refine ⟨hb', [(curT l p, (rec (mustF [58] l (stepF p))).1)], rfl, by simp, by simp; omega, hd', hn', ?_, ?_, ?_⟩
   ·intro x hx; simp only [List.mem_singleton] at hx; subst hx; exact ⟨m2, m3⟩
   ·show (rec (mustF [58] l (stepF p))).2.cnt = _
    rw [m4, e]; simp [stepF, manyTs]
   ·simpa [stepF] using m5
  ·rename_i hsig
   rw [if_neg hsig]
   obtain ⟨i1, qs, i2, i3, i4, i5, i6, i7, i8, i9⟩ := named_may hr k _ _ h (by simp; omega) (by simp; omega) hd' hn'
   obtain ⟨j1, _, j3⟩ := mustF_may i1
   obtain ⟨_, m1, m2, m3, m4, m5⟩ := hr _ j1
   obtain ⟨_, _, e⟩ := mustF_may m1
   refine ⟨hb', (curT l p, (rec (mustF [58] l (stepF p))).1) :: qs, by rw [i2]; simp, by simp, by simpa using i4, by simpa using i5, by simpa using i6, ?_, ?_, i9⟩
   ·intro x hx
    rcases List.mem_cons.1 hx with rfl | hx
    ·exact ⟨m2, m3⟩
    ·exact i7 x hx
   ·rw [i8, j3]
    show (rec (mustF [58] l (stepF p))).2.cnt + _ = _
    rw [m4, e]; simp [stepF, manyTs]; omega
theorem subF_may {l : List Tok} {rec : PS → Ty × PS} {k0 n : Nat} {p : PS} (hr : RdMay l rec k0) (h : (subF l rec n p).2.bad = 0) : subF l rec n p = rec p ∧ n < 20 := by
 unfold subF at h ⊢
 split at h
 ·exact absurd h (failF_may (by decide))
 ·rename_i e
  rw [if_neg e]
  refine ⟨rfl, ?_⟩
  rcases Nat.lt_or_ge n 20 with hn | hn
  ·exact hn
  ·exact absurd ⟨(hr p h).1, hn⟩ e
theorem funFm_bad {l : List Tok} {rec : PS → Ty × PS} {k : Nat} {ts : List Ty} {p : PS} (h : p.bad ≠ 0) : funF l rec k ts p = (ts, p) := by
 cases k with
 | zero => rfl
 | succ k => simp only [funF]; rw [if_pos h]
theorem fun_may {l : List Tok} {rec : PS → Ty × PS} {k0 : Nat} (hr : RdMay l rec k0) : ∀ (k : Nat) (ts : List Ty) (p : PS),
  (funF l rec k ts p).2.bad = 0 → 21 ≤ ts.length + k → ts.length ≤ 20 →
  p.bad = 0 ∧ ∃ qs, (funF l rec k ts p).1 = ts ++ qs ∧ (ts ++ qs).length ≤ 20 ∧ (∀ x ∈ qs, allT x = true ∧ deepT x ≤ k0) ∧
   (funF l rec k ts p).2.cnt = p.cnt + manyTs qs ∧ (funF l rec k ts p).2.cnt ≤ 500
 | 0, ts, p, _, h1, h2 => by omega
 | k + 1, ts, p, h, h1, h2 => by
  simp only [funF] at h ⊢
  split at h
  ·rename_i e; exact absurd h e
  rename_i hb
  rw [if_neg hb]
  split at h
  ·rename_i hsig
   rw [if_pos hsig]
   have hq : (subF l rec ts.length p).2.bad = 0 := by simpa [stepF] using h
   obtain ⟨e, hlt⟩ := subF_may hr hq
   rw [e] at hq ⊢
   obtain ⟨_, m1, m2, m3, m4, m5⟩ := hr _ hq
   refine ⟨m1, [(rec p).1], rfl, by simp; omega, ?_, ?_, by simpa [stepF] using m5⟩
   ·intro x hx; simp only [List.mem_singleton] at hx; subst hx; exact ⟨m2, m3⟩
   ·simp only [stepF, manyTs]; rw [m4]; simp
  ·rename_i hsig
   rw [if_neg hsig]
   have hj : (mustF [44] l (subF l rec ts.length p).2).bad = 0 := by
    by_cases hm : (mustF [44] l (subF l rec ts.length p).2).bad = 0
    ·exact hm
    ·rw [funFm_bad hm] at h; exact absurd h hm
   obtain ⟨j1, _, j3⟩ := mustF_may hj
   obtain ⟨e, hlt⟩ := subF_may hr j1
   obtain ⟨i1, qs, i2, i4, i7, i8, i9⟩ := fun_may hr k _ _ h (by simp; omega) (by simp; omega)
   rw [e] at i2 i8 i9 i4 j1 j3 ⊢
   obtain ⟨_, m1, m2, m3, m4, m5⟩ := hr _ j1
   refine ⟨m1, (rec p).1 :: qs, by rw [i2]; simp, by simpa using i4, ?_, ?_, i9⟩
   ·intro x hx
    rcases List.mem_cons.1 hx with rfl | hx
    ·exact ⟨m2, m3⟩
    ·exact i7 x hx
   ·rw [i8, j3]; simp only [stepF, manyTs]; rw [m4]; omega
theorem rising_of {g : Bool} {l : List (List UInt8)} (hn : ∀ x ∈ l, namOk g x = true) (h : l.Pairwise fun a b => ltB a b = true) : risingN g l = true := by
 refine List.all_eq_true.2 fun i hi => ?_
 have hi' := List.mem_range.1 hi
 simp only [stepOk, Bool.and_eq_true, Bool.or_eq_true, decide_eq_true_eq]
 rw [List.getD_eq_getElem?_getD, List.getElem?_eq_getElem hi']
 refine ⟨hn _ (List.getElem_mem hi'), ?_⟩
 by_cases h0 : i = 0
 ·exact .inl h0
 ·right
  rw [List.getD_eq_getElem?_getD, List.getElem?_eq_getElem (by omega)]
  exact List.pairwise_iff_getElem.1 h (i - 1) i (by omega) hi' (by omega)
theorem sorted_lt {ps : List Nm} (hs : SortedN ps) (hn : (ps.map (·.1)).Nodup) : (ps.map (·.1)).Pairwise fun a b => ltB a b = true := by
 refine List.pairwise_map.2 ?_
 have h1 := List.pairwise_map.1 hn
 refine (hs.and h1).imp ?_
 rintro a b ⟨h, hne⟩
 cases e : ltB a.1 b.1
 ·exact absurd (ltB_anti e h) hne
 ·rfl
theorem deepTs_le {k : Nat} : ∀ {l : List Ty}, (∀ t ∈ l, deepT t ≤ k) → deepTs l ≤ k
 | [], _ => by simp [deepTs]
 | t :: ts, h => by
  simp only [deepTs]
  have := h t (by simp)
  have := deepTs_le (l := ts) fun x hx => h x (by simp [hx])
  omega
theorem rec_may {g : Bool} {ps : List Nm} {k : Nat} (hl : ps.length ≤ 20) (h1 : g = true → 1 ≤ ps.length) (hd : (ps.map (·.1)).Nodup) (hn : ∀ x ∈ ps, namOk g x.1 = true) (ha : ∀ x ∈ ps, allT x.2 = true ∧ deepT x.2 ≤ k) :
  allT (recT (if g then 6 else 5) ps) = true ∧ deepT (recT (if g then 6 else 5) ps) ≤ k + 1 ∧ manyT (recT (if g then 6 else 5) ps) = 1 + manyTs (ps.map (·.2)) := by
 obtain ⟨hp, hs⟩ := sortF_spec ps
 have hp1 : ((sortF ps).map (·.1)).Perm (ps.map (·.1)) := hp.map _
 have hri : risingN g ((sortF ps).map (·.1)) = true := by
  refine rising_of (fun x hx => ?_) (sorted_lt hs (hp1.nodup_iff.2 hd))
  obtain ⟨y, hy, rfl⟩ := List.mem_map.1 hx
  exact hn y (hp.mem_iff.1 hy)
 have hal : ∀ t ∈ (sortF ps).map (·.2), allT t = true ∧ deepT t ≤ k := by
  intro t ht
  obtain ⟨y, hy, rfl⟩ := List.mem_map.1 ht
  exact ha y (hp.mem_iff.1 hy)
 have hlen : (sortF ps).length = ps.length := hp.length_eq
 refine ⟨?_, ?_, ?_⟩
 ·rw [allT_eq, Bool.and_eq_true]
  refine ⟨?_, List.all_eq_true.2 fun t ht => (hal t ht).1⟩
  cases g <;> simp [shapeT, shapeK, recT, Ty.kind, Ty.subs, Ty.names, emptyT, Ty.pkg, Ty.major, Ty.mod, Ty.name, hlen, hl, hri]
  exact h1 rfl
 ·rw [deepT_eq]
  have : deepTs ((sortF ps).map (·.2)) ≤ k := deepTs_le fun t ht => (hal t ht).2
  show deepTs ((sortF ps).map (·.2)) + 1 ≤ k + 1
  omega
 ·rw [manyT_eq, manyTs_eq]
  show 1 + (((sortF ps).map (·.2)).map manyT).sum = _
  rw [((hp.map (·.2)).map manyT).sum_nat]
theorem typ_may (l : List Tok) : ∀ (k : Nat), RdMay l (typF l k) k
 | 0 => by
  intro p h
  simp only [typF] at h
  split at h <;> exact absurd h (failF_may (by decide))
 | k + 1 => by
  intro p h
  have hr := typ_may l k
  simp only [typF] at h ⊢
  cases hc : cur l p with
  | none => rw [hc] at h; exact absurd h (failF_may (by decide))
  | some t =>
   rw [hc] at h
   simp only at h ⊢
   split at h
   ·exact absurd h (failF_may (by decide))
   rename_i hbt
   rw [if_neg hbt]
   split at h
   ·exact absurd h (failF_may (by decide))
   rename_i hcn
   rw [if_neg hcn]
   have hbt' : begT t = true := by simpa using hbt
   have hb : p.bad = 0 := by
    by_cases e : p.bad = 0
    ·exact e
    ·rw [cur_bad e] at hc; cases hc
   refine ⟨by simp [begF, hc, hbt'], hb, ?_⟩
   unfold begT at hbt'
   unfold bodyF at h ⊢
   by_cases k1 : t.kind = 1
   ·simp only [k1, if_true] at h ⊢
    simp only [k1, show ¬ (1 : Int) = 2 by omega, if_false, if_true] at hbt'
    obtain ⟨n1, n2, n3⟩ := nameF_may h
    obtain ⟨m1, m2, m3⟩ := mustF_may n1
    have n2' : greatN (nameF true l (mustF [46] l ⟨p.at_ + 1, p.cnt + 1, p.bad⟩)).1 = true := n2
    refine ⟨?_, ?_, ?_, ?_⟩
    ·simp [localT, allT, allTs, shapeT, shapeK, Ty.kind, Ty.subs, Ty.names, Ty.pkg, Ty.major, Ty.mod, Ty.name, n2', hbt']
    ·simp [localT, deepT, deepTs]
    ·rw [n3, m3]; simp [localT, manyT, manyTs, stepF]
    ·rw [n3, m3]; simp [stepF]; omega
   simp only [k1, if_false] at h ⊢
   by_cases e1 : t.text = wList
   ·rw [if_pos e1] at h ⊢
    unfold listF at h ⊢
    simp only at h ⊢
    obtain ⟨m1, _, m3⟩ := mustF_may h
    obtain ⟨_, r1, r2, r3, r4, r5⟩ := hr _ m1
    obtain ⟨_, _, e⟩ := mustF_may r1
    refine ⟨?_, ?_, ?_, ?_⟩
    ·simp [allT, allTs, shapeT, shapeK, Ty.kind, Ty.subs, Ty.names, Ty.pkg, Ty.major, Ty.mod, Ty.name, emptyT, r2]
    ·simp [deepT, deepTs]; omega
    ·rw [m3]; simp only [stepF, manyT, manyTs]; rw [r4, e]; simp [stepF]; omega
    ·rw [m3]; simpa [stepF] using r5
   rw [if_neg e1] at h ⊢
   have parts : ∀ g : Bool, (partsF l g (typF l k) ⟨p.at_ + 1, p.cnt + 1, p.bad⟩).2.bad = 0 → allT (partsF l g (typF l k) ⟨p.at_ + 1, p.cnt + 1, p.bad⟩).1 = true ∧ deepT (partsF l g (typF l k) ⟨p.at_ + 1, p.cnt + 1, p.bad⟩).1 ≤ k + 1 ∧
     (partsF l g (typF l k) ⟨p.at_ + 1, p.cnt + 1, p.bad⟩).2.cnt = p.cnt + manyT (partsF l g (typF l k) ⟨p.at_ + 1, p.cnt + 1, p.bad⟩).1 ∧ (partsF l g (typF l k) ⟨p.at_ + 1, p.cnt + 1, p.bad⟩).2.cnt ≤ 500 := by
    intro g h
    unfold partsF at h ⊢
    by_cases hg : g = false ∧ isSig [125] l ⟨p.at_ + 1, p.cnt + 1, p.bad⟩ = true
    ·rw [if_pos hg] at h ⊢
     obtain ⟨rfl, _⟩ := hg
     have := rec_may (g := false) (ps := []) (k := k) (by simp) (by simp) (by simp) (by simp) (by simp)
     simp only [stepF, Bool.false_eq_true, if_false] at this ⊢
     refine ⟨this.1, this.2.1, ?_, by omega⟩
     rw [this.2.2]; simp [manyTs]
    ·rw [if_neg hg] at h ⊢
     obtain ⟨_, qs, i2, i3, i4, i5, i6, i7, i8, i9⟩ := named_may hr 22 [] ⟨p.at_ + 1, p.cnt + 1, p.bad⟩ h (by simp) (by simp) (by simp) (by simp)
     simp only [List.nil_append] at i2 i4 i5 i6
     have := rec_may (g := g) (ps := qs) (k := k) i4 (fun _ => by cases qs <;> simp_all) i5 i6 i7
     simp only [i2]
     refine ⟨this.1, this.2.1, ?_, i9⟩
     rw [this.2.2, i8]; simp only; omega
   by_cases e2 : t.text = [123]
   ·rw [if_pos e2] at h ⊢; exact parts false h
   rw [if_neg e2] at h ⊢
   by_cases e3 : t.text = [91]
   ·rw [if_pos e3] at h ⊢; exact parts true h
   rw [if_neg e3] at h ⊢
   clear parts
   by_cases e4 : t.text = [40]
   ·rw [if_pos e4] at h ⊢
    unfold funcF at h ⊢
    simp only at h ⊢
    obtain ⟨s1, s2⟩ := subF_may hr h
    rw [s1] at h ⊢
    obtain ⟨_, r1, r2, r3, r4, r5⟩ := hr _ h
    obtain ⟨m1, _, m3⟩ := mustF_may r1
    have hA : ∃ qs, (if isSig [41] l ⟨p.at_ + 1, p.cnt + 1, p.bad⟩ = true then (([] : List Ty), stepF ⟨p.at_ + 1, p.cnt + 1, p.bad⟩) else funF l (typF l k) 22 [] ⟨p.at_ + 1, p.cnt + 1, p.bad⟩).1 = qs ∧ (∀ x ∈ qs, allT x = true ∧ deepT x ≤ k) ∧
      (if isSig [41] l ⟨p.at_ + 1, p.cnt + 1, p.bad⟩ = true then (([] : List Ty), stepF ⟨p.at_ + 1, p.cnt + 1, p.bad⟩) else funF l (typF l k) 22 [] ⟨p.at_ + 1, p.cnt + 1, p.bad⟩).2.cnt = p.cnt + 1 + manyTs qs := by
     by_cases hg : isSig [41] l ⟨p.at_ + 1, p.cnt + 1, p.bad⟩ = true
     ·rw [if_pos hg]; exact ⟨[], rfl, by simp, by simp [stepF, manyTs]⟩
     ·rw [if_neg hg] at m1 ⊢
      obtain ⟨_, qs, i2, i4, i7, i8, i9⟩ := fun_may hr 22 [] ⟨p.at_ + 1, p.cnt + 1, p.bad⟩ m1 (by simp) (by simp)
      exact ⟨qs, by simpa using i2, i7, i8⟩
    obtain ⟨qs, a1, a2, a3⟩ := hA
    generalize (if isSig [41] l ⟨p.at_ + 1, p.cnt + 1, p.bad⟩ = true then (([] : List Ty), stepF ⟨p.at_ + 1, p.cnt + 1, p.bad⟩) else funF l (typF l k) 22 [] ⟨p.at_ + 1, p.cnt + 1, p.bad⟩) = A at *
    subst a1
    refine ⟨?_, ?_, ?_, r5⟩
    ·rw [allT_eq, Bool.and_eq_true]
     refine ⟨?_, ?_⟩
     ·simp [shapeT, shapeK, Ty.kind, Ty.subs, Ty.names, emptyT, Ty.pkg, Ty.major, Ty.mod, Ty.name]; omega
     ·refine List.all_eq_true.2 fun x hx => ?_
      rcases List.mem_append.1 hx with hx | hx
      ·exact (a2 x hx).1
      ·simp only [List.mem_singleton] at hx; subst hx; exact r2
    ·rw [deepT_eq]
     have : deepTs (A.1 ++ [(typF l k (mustF [45, 62] l A.2)).1]) ≤ k := deepTs_le fun x hx => by
      rcases List.mem_append.1 hx with hx | hx
      ·exact (a2 x hx).2
      ·simp only [List.mem_singleton] at hx; subst hx; exact r3
     show deepTs (A.1 ++ [(typF l k (mustF [45, 62] l A.2)).1]) + 1 ≤ k + 1
     omega
    ·rw [r4]
     simp only [manyT, manyTs_append, manyTs]
     have : (mustF [45, 62] l A.2).cnt = A.2.cnt := by rw [m3]; rfl
     omega
   rw [if_neg e4] at h ⊢
   by_cases e5 : t.text = [60]
   ·rw [if_pos e5] at h ⊢
    unfold openF at h ⊢
    simp only at h ⊢
    obtain ⟨m1, _, m3⟩ := mustF_may h
    obtain ⟨a1, a2, a3⟩ := nameF_may m1
    obtain ⟨b1, b2, b3⟩ := nameF_may a1
    obtain ⟨c1, c2, c3, c4⟩ := numF_may b1
    obtain ⟨d1, d2, d3⟩ := nameF_may c1
    simp only [namOk, if_true, Bool.false_eq_true, if_false] at a2 b2 d2
    refine ⟨?_, ?_, ?_, ?_⟩
    ·simp [allT, allTs, shapeT, shapeK, Ty.kind, Ty.subs, Ty.names, Ty.pkg, Ty.major, Ty.mod, Ty.name, a2, b2, d2]
     omega
    ·simp [deepT, deepTs]
    ·rw [m3]; simp [stepF, a3, b3, c4, d3, manyT, manyTs]
    ·rw [m3]; simp [stepF, a3, b3, c4, d3]; omega
   rw [if_neg e5] at h ⊢
   simp only [e1, e2, e3, e4, e5, decide_false, Bool.or_false, Bool.and_false, Bool.false_eq_true] at hbt'
   by_cases k2 : t.kind = 2
   ·simp only [k2, if_true, Bool.or_eq_true, decide_eq_true_eq] at hbt'
    by_cases e6 : 0 < baseN t.text
    ·rw [if_pos e6] at h ⊢
     have hbn : baseN t.text = 1 ∨ baseN t.text = 2 ∨ baseN t.text = 3 := by
      revert e6; unfold baseN; repeat' split
      all_goals simp
     refine ⟨?_, ?_, ?_, ?_⟩
     ·rcases hbn with e | e | e <;> simp [allT, allTs, shapeT, shapeK, Ty.kind, Ty.subs, Ty.names, Ty.pkg, Ty.major, Ty.mod, Ty.name, emptyT, e]
     ·simp [deepT, deepTs]
     ·simp [manyT, manyTs]
     ·simp only; omega
    ·rw [if_neg e6] at h ⊢
     have hg : greatN t.text = true := hbt'.resolve_left e6
     refine ⟨?_, ?_, ?_, ?_⟩
     ·simp [localT, allT, allTs, shapeT, shapeK, Ty.kind, Ty.subs, Ty.names, Ty.pkg, Ty.major, Ty.mod, Ty.name, hg]
     ·simp [localT, deepT, deepTs]
     ·simp [localT, manyT, manyTs]
     ·simp only; omega
   ·simp only [k1, k2, if_false] at hbt'
    simp at hbt'
end Go.Proofs.Mv.App
