/- A part of the proofs: machine, contracts, laws. No condition of its own. -/
import Derived.Test.YtihbegkefjjhpaaGreatDoorP03
import Derived.Test.YtihbegkefjjhpaaGreatDoorMvSo
import Derived.WalkKit
import Derived.Laws.Cover1
import Derived.Ground.SlsfProg
import Derived.Shelf.SlLaysF0
import Derived.Test.YtihbegkefjjhpaaGreatDoorProg
import Derived.Test.YtihbegkefjjhpaaGreatDoorP08
import Derived.Shelf.SlSortCmp.NoneTotal
set_option linter.unusedSimpArgs false
set_option linter.unusedVariables false
set_option linter.unusedSectionVars false
open Go Go.Proofs Go.Proofs.Mv.V Go.RowKit Go.Sort
set_option maxRecDepth 10000
namespace Go.Proofs.Mv.App
set_option maxHeartbeats 1000000 in
theorem wIsNaN (x : ByteArray) (w : World) : Calls Tryz.prog 181 #[.string x] w fun e w' => e = .returned (.bool false) ∧ w' = w := by
 go_enter Tryz.func181, Tryz.ntmps181
 go_wp2
 go_ret
 exact ⟨by simp, rfl⟩
theorem tl_ofL (l : List UInt8) : (ofL l).toList = l := by rw [Lib.toList_data]; rfl
set_option maxHeartbeats 1000000 in
theorem wCompare (a b : List UInt8) (w : World) : Calls Tryz.prog 148 #[.string (ofL a), .string (ofL b)] w fun e w' => e = .returned (.int .i64 (cmpB a b)) ∧ w' = w := by
 have k1 : ltB a b = Op.bytesLess (ofL a).toList (ofL b).toList := by rw [tl_ofL, tl_ofL]; rfl
 have k2 : cmpB a b = if Op.bytesLess (ofL a).toList (ofL b).toList = true then -1 else if (!(Op.bytesLess (ofL a).toList (ofL b).toList || (ofL a).toList == (ofL b).toList)) = true then 1 else 0 := by
  rw [← k1, tl_ofL, tl_ofL]
  unfold cmpB
  cases h : ltB a b
  ·by_cases e : a = b
   ·subst e; simp [ltB_irr]
   ·have : ltB b a = true := by
     cases h' : ltB b a
     ·exact absurd (ltB_anti h h') e
     ·rfl
    simp [this, e]
  ·simp
 rw [k2]
 generalize (ofL a) = x
 generalize (ofL b) = y
 clear k1 k2
 go_enter Tryz.func148, Tryz.ntmps148
 go_wp2_with (go_at_call 181; refine (wIsNaN _ _).mono ?_; rintro e w' ⟨rfl, hw⟩; rw [hw])
 all_goals (go_ret; refine ⟨?_, rfl⟩; (repeat' split) <;> first | rfl | simp_all)
set_option maxHeartbeats 1000000 in
theorem wLess (x y : RowD 7) (W : World) : Calls Tryz.prog 239 #[.agg (encV x).toArray, .agg (encV y).toArray] W fun e w' => e = .returned (.int .i64 (cfV x y)) ∧ ∃ q os', w' = grow (W.drewN q) os' := by
 obtain ⟨⟨nx, rx, lx, ox⟩, px⟩ := x
 obtain ⟨⟨ny, ry, ly, oy⟩, py⟩ := y
 have hcon := fun W' => wCompare nx ny W'
 simp only [encV, cfV]
 clear px py ox oy
 match rx, ry, lx, ly with
 | [a0, a1, a2, a3, a4, a5, a6], [b0, b1, b2, b3, b4, b5, b6], _, _ =>
  generalize cmpB nx ny = r at hcon ⊢
  generalize ofL nx = x at hcon ⊢
  generalize ofL ny = y at hcon ⊢
  go_enter Tryz.func239, Tryz.ntmps239
  go_wp2_with (go_at_call 148; refine (hcon _).mono ?_; rintro e w' ⟨rfl, rfl⟩)
  go_ret
  exact ⟨rfl, 0, _, by rw [alloc_eq_grow, alloc_eq_grow, grow_grow]; rfl⟩
theorem perm_map_ex {α β : Type} (f : α → β) {a b : List β} (h : a.Perm b) : ∀ l : List α, l.map f = b → ∃ qs : List α, qs.Perm l ∧ qs.map f = a := by
 induction h with
 | nil => intro l hl; exact ⟨l, .refl _, hl⟩
 | cons x h ih =>
  intro l hl
  cases l with
  | nil => simp at hl
  | cons y ys =>
   simp only [List.map_cons, List.cons.injEq] at hl
   obtain ⟨qs, h1, h2⟩ := ih ys hl.2
   exact ⟨y :: qs, h1.cons y, by simp [h2, hl.1]⟩
 | swap x y t =>
  intro l hl
  match l, hl with
  | u :: v :: t', hl =>
   simp only [List.map_cons, List.cons.injEq] at hl
   exact ⟨v :: u :: t', .swap _ _ _, by simp [hl.1, hl.2.1, hl.2.2]⟩
 | trans h1 h2 ih1 ih2 =>
  intro l hl
  obtain ⟨q2, g1, g2⟩ := ih2 l hl
  obtain ⟨q1, g3, g4⟩ := ih1 q2 g2
  exact ⟨q1, g3.trans g1, g4⟩
theorem el_part [GI] (ps : List Nm) : (ps.map fun x => (x.1, tyD x.2)).map el = ps.map partD := by
 rw [List.map_map]; rfl
end Go.Proofs.Mv.App
namespace Go.Proofs
open Go.Shelf
def Tryz.laysSortB_ren : Go.Shelf.Ren := ⟨fun | 6 => 146 | 15 => 180 | 14 => 179 | 28 => 221 | 29 => 196 | 20 => 213 | 21 => 214 | 22 => 215 | 23 => 216 | 24 => 217 | 25 => 218 | 26 => 219 | 27 => 220 | 46 => 241 | 47 => 242 | 48 => 243 | 49 => 244 | 50 => 245 | 57 => 252 | n => n, fun | 22 => 167 | 24 => 169 | 25 => 173 | 3 => 3 | 39 => 200 | 0 => 0 | 53 => 209 | 55 => 184 | 4 => 4 | 46 => 220 | 45 => 219 | 50 => 224 | 5 => 5 | 9 => 9 | 66 => 243 | 70 => 247 | 76 => 257 | 77 => 80 | n => n, fun | n => n⟩
theorem Tryz.laysSortB : Go.Proofs.SlLaysF0.n6 Tryz.prog Tryz.laysSortB_ren := {
 mixed := by kernel_rfl
 f6 := ⟨Tryz.f146.name, by decide, Tryz.func146.trans (congrArg some (by kernel_rfl))⟩
 f14 := ⟨Tryz.f179.name, by decide, Tryz.func179.trans (congrArg some (by kernel_rfl))⟩
 f15 := Tryz.func180.trans (congrArg some (by kernel_rfl))
 f20 := ⟨Tryz.f213.name, by decide, Tryz.func213.trans (congrArg some (by kernel_rfl))⟩
 f21 := ⟨Tryz.f214.name, by decide, Tryz.func214.trans (congrArg some (by kernel_rfl))⟩
 f22 := ⟨Tryz.f215.name, by decide, Tryz.func215.trans (congrArg some (by kernel_rfl))⟩
 f23 := ⟨Tryz.f216.name, by decide, Tryz.func216.trans (congrArg some (by kernel_rfl))⟩
 f24 := ⟨Tryz.f217.name, by decide, Tryz.func217.trans (congrArg some (by kernel_rfl))⟩
 f25 := ⟨Tryz.f218.name, by decide, Tryz.func218.trans (congrArg some (by kernel_rfl))⟩
 f26 := ⟨Tryz.f219.name, by decide, Tryz.func219.trans (congrArg some (by kernel_rfl))⟩
 f27 := ⟨Tryz.f220.name, by decide, Tryz.func220.trans (congrArg some (by kernel_rfl))⟩
 f28 := Tryz.func221.trans (congrArg some (by kernel_rfl))
 f29 := Tryz.func196.trans (congrArg some (by kernel_rfl))
 f46 := ⟨Tryz.f241.name, by decide, Tryz.func241.trans (congrArg some (by kernel_rfl))⟩
 f47 := Tryz.func242.trans (congrArg some (by kernel_rfl))
 f48 := Tryz.func243.trans (congrArg some (by kernel_rfl))
 f49 := ⟨Tryz.f244.name, by decide, Tryz.func244.trans (congrArg some (by kernel_rfl))⟩
 f50 := ⟨Tryz.f245.name, by decide, Tryz.func245.trans (congrArg some (by kernel_rfl))⟩
 f57 := ⟨Tryz.f252.name, by decide, Tryz.func252.trans (congrArg some (by kernel_rfl))⟩
 t0 := Tryz.underlying0
 a0 := Tryz.isAgg0
 z0 := Tryz.sizeOf0
 v0 := Tryz.zeroValue0
 t3 := Tryz.underlying3
 a3 := Tryz.isAgg3
 z3 := Tryz.sizeOf3
 v3 := Tryz.zeroValue3
 t4 := Tryz.underlying4
 a4 := Tryz.isAgg4
 z4 := Tryz.sizeOf4
 v4 := Tryz.zeroValue4
 t5 := Tryz.underlying5
 a5 := Tryz.isAgg5
 z5 := Tryz.sizeOf5
 v5 := Tryz.zeroValue5
 t9 := Tryz.underlying9
 a9 := Tryz.isAgg9
 z9 := Tryz.sizeOf9
 v9 := Tryz.zeroValue9
 t22 := Tryz.underlying167
 a22 := Tryz.isAgg167
 z22 := Tryz.sizeOf167
 v22 := Tryz.zeroValue167
 t25 := Tryz.underlying173
 a25 := Tryz.isAgg173
 z25 := Tryz.sizeOf173
 v25 := Tryz.zeroValue173
 t39 := Tryz.underlying200
 a39 := Tryz.isAgg200
 z39 := Tryz.sizeOf200
 v39 := Tryz.zeroValue200
 t45 := Tryz.underlying219
 a45 := Tryz.isAgg219
 z45 := Tryz.sizeOf219
 v45 := Tryz.zeroValue219
 t46 := Tryz.underlying220
 a46 := Tryz.isAgg220
 z46 := Tryz.sizeOf220
 v46 := Tryz.zeroValue220
 t50 := Tryz.underlying224
 a50 := Tryz.isAgg224
 z50 := Tryz.sizeOf224
 v50 := Tryz.zeroValue224
 t53 := Tryz.underlying209
 a53 := Tryz.isAgg209
 z53 := Tryz.sizeOf209
 v53 := Tryz.zeroValue209
 t55 := Tryz.underlying184
 a55 := Tryz.isAgg184
 z55 := Tryz.sizeOf184
 v55 := Tryz.zeroValue184
 t66 := Tryz.underlying243
 a66 := Tryz.isAgg243
 z66 := Tryz.sizeOf243
 v66 := Tryz.zeroValue243
 t70 := Tryz.underlying247
 a70 := Tryz.isAgg247
 z70 := Tryz.sizeOf247
 v70 := Tryz.zeroValue247
 t76 := Tryz.underlying257
 a76 := Tryz.isAgg257
 z76 := Tryz.sizeOf257
 v76 := Tryz.zeroValue257
 t77 := Tryz.underlying80
 a77 := Tryz.isAgg80
 z77 := Tryz.sizeOf80
 v77 := Tryz.zeroValue80 }
end Go.Proofs
open Go Go.Proofs Go.Proofs.Mv.V Go.RowKit Go.Sort
set_option maxRecDepth 10000
namespace Go.Proofs.Mv.App
abbrev Brn := List UInt8 × List UInt8 × Tm
def brnD [GI] (b : Brn) : List D := S b.1 :: S b.2.1 :: tmD b.2.2
def SortedB (l : List Brn) : Prop := l.Pairwise fun a b => ltB b.1 a.1 = false
set_option maxHeartbeats 1000000 in
theorem wLessB (x y : RowD 9) (W : World) : Calls Tryz.prog 182 #[.agg (encV x).toArray, .agg (encV y).toArray] W fun e w' => e = .returned (.int .i64 (cfV x y)) ∧ ∃ q os', w' = grow (W.drewN q) os' := by
 obtain ⟨⟨nx, rx, lx, ox⟩, px⟩ := x
 obtain ⟨⟨ny, ry, ly, oy⟩, py⟩ := y
 have hcon := fun W' => wCompare nx ny W'
 simp only [encV, cfV]
 clear px py ox oy
 match rx, ry, lx, ly with
 | [a0, a1, a2, a3, a4, a5, a6, a7, a8], [b0, b1, b2, b3, b4, b5, b6, b7, b8], _, _ =>
  generalize cmpB nx ny = r at hcon ⊢
  generalize ofL nx = x at hcon ⊢
  generalize ofL ny = y at hcon ⊢
  go_enter Tryz.func182, Tryz.ntmps182
  go_wp2_with (go_at_call 148; refine (hcon _).mono ?_; rintro e w' ⟨rfl, rfl⟩)
  go_ret
  exact ⟨rfl, 0, _, by rw [alloc_eq_grow, alloc_eq_grow, grow_grow]; rfl⟩
theorem el_brn [GI] (ps : List Brn) : (ps.map fun x => (x.1, S x.2.1 :: tmD x.2.2)).map el = ps.map brnD := by
 rw [List.map_map]; rfl
theorem cSortB [GI] {ps : List Brn} {dl : D} {m : Mem} {n : Nat} (hL : Lst m 10 (ps.map brnD) dl) (hlen : ps.length ≤ 1000000) (hk : ∀ j, kof dl = some j → j < n) :
  ACalls Tryz.prog 146 [dl, .func (.func 182) [] []] m n (Hq (fun d m' n' => ∃ qs : List Brn, qs.Perm ps ∧ SortedB qs ∧ Lst m' 10 (qs.map brnD) dl ∧ (∀ j, kof dl ≠ some j → m' j = m j) ∧ n' = n) tg) := by
 have hcl : Callable Tryz.prog 146 := ⟨_, Tryz.func146, by kernel_rfl, by kernel_rfl⟩
 rcases hL with ⟨he, hd⟩ | ⟨kk, gg, es', rfl, hmk, hle, htk⟩
 ·have hps : ps = [] := by simpa using he
  subst hps
  refine acalls_lib hcl fun w ν F vals hst hv => ?_
  obtain ⟨x, y, rfl, h1, h2⟩ := conVs_arr2 hv
  have hx : ∃ a, x = .slice a 0 0 := by
   rcases hd with rfl | rfl
   ·simp only [Con] at h1; exact ⟨_, h1⟩
   ·simpa only [Con] using h1
  obtain ⟨a, rfl⟩ := hx
  refine Calls.mono (show Calls Tryz.prog 146 _ _ _ from AnyF.slices_SortFunc_none Tryz.laysSortB a 0 y w) ?_
  rintro e w' ⟨rfl, rfl⟩
  exact ⟨_, rfl, Below.refl _ _, .any, trivial, [], .refl _, by simp [SortedB], .inl ⟨rfl, hd⟩, fun _ _ => rfl, rfl⟩
 ·have hll : (ps.map fun x => (x.1, S x.2.1 :: tmD x.2.2)).length = ps.length := by simp
  have hpl : (ps.map brnD).length = ps.length := by simp
  rw [hpl] at hle htk ⊢
  have := acalls_sort (P := Tryz.prog) (ρ := Tryz.laysSortB_ren) Tryz.laysSortB hcl 9 Tryz.isAgg169 Tryz.sizeOf169 182 (enters_of Tryz.func182 (by kernel_rfl) rfl) wLessB (ps.map fun x => (x.1, S x.2.1 :: tmD x.2.2)) (k := kk) (gg := gg) (es' := es') (m := m) (n := n) hmk (by rw [hll]; exact hle) (by rw [hll, el_brn]; exact htk) (by rw [hll]; omega) (hk kk rfl)
  rw [hll] at this
  refine ACalls.mono (show ACalls Tryz.prog 146 _ _ _ _ from this) ?_
  rintro d m' n' ⟨qs', h1, h2, rfl, rfl⟩
  obtain ⟨qs, g1, g2⟩ := perm_map_ex (fun x : Brn => (x.1, S x.2.1 :: tmD x.2.2)) h1 ps rfl
  subst g2
  refine ⟨qs, g1, ?_, ?_, fun j hj => set_ne _ _ _ _ fun e => hj (by rw [e]; rfl), rfl⟩
  ·rw [List.pairwise_map] at h2
   exact h2
  ·rw [el_brn]
   have hq : (qs.map brnD).length = ps.length := by rw [List.length_map]; exact g1.length_eq
   exact Lst.mk (set_same _ _ _) hq.symm (by simp [g1.length_eq]) (by rw [List.take_append_of_le_length (by simp [g1.length_eq]), List.take_of_length_le (by simp [g1.length_eq])])
end Go.Proofs.Mv.App
open Go Go.Proofs Go.Proofs.Mv.V
namespace Go.Proofs.Mv.App
def SortedBn (l : List Bnd) : Prop := l.Pairwise fun a b => ltB b.1 a.1 = false
theorem insB_perm (x : Bnd) : ∀ l : List Bnd, (insB x l).Perm (x :: l)
 | [] => .refl _
 | y :: ys => by
  simp only [insB]; split
  ·exact .refl _
  ·exact ((insB_perm x ys).cons y).trans (.swap _ _ _)
theorem insB_sorted (x : Bnd) : ∀ {l : List Bnd}, SortedBn l → SortedBn (insB x l)
 | [], _ => by simp [SortedBn, insB]
 | y :: ys, h => by
  have h' := List.pairwise_cons.1 h
  simp only [insB]; split
  ·rename_i e
   refine List.pairwise_cons.2 ⟨fun z hz => ?_, h⟩
   rcases List.mem_cons.1 hz with rfl | hz
   ·exact ltB_asymm e
   ·exact ltB_ntr (h'.1 z hz) (ltB_asymm e)
  ·rename_i e
   refine List.pairwise_cons.2 ⟨fun z hz => ?_, insB_sorted x h'.2⟩
   have := (insB_perm x ys).mem_iff.1 hz
   rcases List.mem_cons.1 this with rfl | hz'
   ·simpa using e
   ·exact h'.1 z hz'
theorem sortB_spec : ∀ ps : List Bnd, (sortB ps).Perm ps ∧ SortedBn (sortB ps)
 | [] => ⟨.refl _, by simp [SortedBn, sortB]⟩
 | x :: r => by
  obtain ⟨h1, h2⟩ := sortB_spec r
  exact ⟨(insB_perm x _).trans (h1.cons x), insB_sorted x h2⟩
theorem sortedB_uniq {l l' ps : List Bnd} (hd : (ps.map (·.1)).Nodup) (h : l.Perm ps) (h' : l'.Perm ps) (hs : SortedBn l) (hs' : SortedBn l') : l = l' := by
 refine List.Perm.eq_of_pairwise (le := fun a b : Bnd => ltB b.1 a.1 = false) ?_ hs hs' (h.trans h'.symm)
 intro a b ha hb h1 h2
 have hn : a.1 = b.1 := ltB_anti h2 h1
 have ha' : a ∈ ps := h.mem_iff.1 ha
 have hb' : b ∈ ps := h'.mem_iff.1 hb
 have key : ∀ l : List Bnd, (l.map (·.1)).Nodup → a ∈ l → b ∈ l → a = b := by
  intro l
  induction l with
  | nil => intro _ h; cases h
  | cons x l ih =>
   intro hd ha hb
   simp only [List.map_cons, List.nodup_cons, List.mem_map, not_exists, not_and] at hd
   rcases List.mem_cons.1 ha with rfl | ha2
   ·rcases List.mem_cons.1 hb with rfl | hb
    ·rfl
    ·exact absurd hn.symm (hd.1 b hb)
   ·rcases List.mem_cons.1 hb with rfl | hb
    ·exact absurd hn (hd.1 a ha2)
    ·exact ih hd.2 ha2 hb
 exact key ps hd ha' hb'
theorem kF_bad {kd : Int} {ok : List UInt8 → Bool} {l : List Tok} {p : PS} (h : ¬ p.bad = 0) : kF kd ok l p = false := by simp [kF, cur, h]
theorem fresh_ok {kd : Int} {ok : List UInt8 → Bool} {names : List (List UInt8)} {l : List Tok} {p : PS} (h : (freshT kd ok names l p).2.bad = 0) : (freshT kd ok names l p).1 ∉ names ∧ p.bad = 0 := by
 unfold freshT at h ⊢
 cases ht : twiceT kd ok names l p with
 | true =>
  rw [ht] at h
  simp only [if_true] at h
  have hb : ¬ (failS 5 p).bad = 0 := by
   unfold failS; split
   ·simp
   ·rename_i e; exact e
  simp only [namedT, kF_bad hb, takeF, Bool.false_eq_true, if_false] at h
  rw [failS_bad hb] at h
  exact absurd h hb
 | false =>
  rw [ht] at h
  simp only [Bool.false_eq_true, if_false, namedT] at h ⊢
  obtain ⟨h1, h2⟩ := takeF_ok h
  refine ⟨?_, h2⟩
  simp only [twiceT, h1, Bool.true_and, decide_eq_false_iff_not] at ht
  simp only [takeF, h1, if_true]
  exact ht
theorem mustT_ok {kd : Int} {s : List UInt8} {l : List Tok} {p : PS} (h : (mustT kd s l p).bad = 0) : p.bad = 0 := by
 unfold mustT at h
 split at h
 ·exact h
 ·unfold failS at h
  split at h
  ·simp at h
  ·exact h
theorem isT_good {kd : Int} {s : List UInt8} {l : List Tok} {p : PS} (h : isT kd s l p = true) : p.bad = 0 := by
 by_cases hb : p.bad = 0
 ·exact hb
 ·simp only [isT, kF_bad hb] at h; cases h
theorem flds_nodup {l : List Tok} {rec : PS → Option (Tm × PS)} (hbad : ∀ p t q, rec p = some (t, q) → q.bad = 0 → p.bad = 0) : ∀ (f : Nat) (acc : List Bnd) (p : PS) (Lf : List Bnd) (q : PS), fldsO l rec f acc p = some (Lf, q) → q.bad = 0 → (acc.map (·.1)).Nodup → (Lf.map (·.1)).Nodup
 | 0, _, _, _, _, h, _, _ => by simp only [fldsO] at h; cases h
 | f + 1, acc, p, Lf, q, h, hq, hn => by
  simp only [fldsO] at h
  split at h
  ·cases h
  ·rename_i t q1 hr
   have nd : q1.bad = 0 → ((acc ++ [((freshT 1 nameN (acc.map (·.1)) l p).1, t)]).map (·.1)).Nodup := fun e => by
    have h1 := fresh_ok (mustT_ok (hbad _ _ _ hr e))
    rw [List.map_append, List.nodup_append]
    refine ⟨hn, by simp, fun a ha b hb => ?_⟩
    simp only [List.map_cons, List.map_nil, List.mem_singleton] at hb
    subst hb
    intro e2
    exact h1.1 (e2 ▸ ha)
   split at h
   ·rename_i hi
    simp only [Option.some.injEq, Prod.mk.injEq] at h
    obtain ⟨rfl, rfl⟩ := h
    exact nd (isT_good hi)
   ·split at h
    ·rename_i hm
     exact flds_nodup hbad f _ _ Lf q h hq (nd (mustT_ok hm))
    ·rename_i hm
     simp only [Option.some.injEq, Prod.mk.injEq] at h
     obtain ⟨rfl, rfl⟩ := h
     exact absurd hq hm
end Go.Proofs.Mv.App
