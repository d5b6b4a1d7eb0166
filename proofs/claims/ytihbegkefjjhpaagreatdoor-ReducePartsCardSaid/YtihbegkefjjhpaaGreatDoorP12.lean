/- A part of the proofs: machine, contracts, laws. No condition of its own. -/
import Derived.Test.YtihbegkefjjhpaaGreatDoorP11
import Derived.WalkKit
import Derived.LoopTactic
import Derived.Handy
import Derived.Test.YtihbegkefjjhpaaGreatDoorMvFl
import Derived.Test.YtihbegkefjjhpaaGreatDoorP00
set_option linter.unusedSimpArgs false
set_option linter.unusedVariables false
set_option linter.unusedSectionVars false
open Go Go.Proofs Go.Proofs.Mv.V
set_option maxRecDepth 10000
namespace Go.Proofs.Mv.App
theorem cIndexSl {l : List (List UInt8)} (hl : l.length ≤ 9223372036854775807) (x : List UInt8) : Pc Tryz.prog 125 [sl1 l, S x] (I (findI (fun s => decide (s = x)) l)) := by
  refine pc_of (pur_I _) (fun m n => ?_)
  have hL : (l.map fun s => [S s]).length = l.length := by simp
  have hG : ∀ i (h : i < l.length), (l.map fun s => [S s])[i]? = some [S l[i]] := fun i h => by simp [h]
  simp only [sl1]
  generalize (l.map fun s => [S s]) = EL at hL hG
  refine acalls_vc [0, 1, 4, 5, 7, 8, 9, 16] Tryz.func125 Tryz.ntmps125 (by kernel_rfl) rfl rfl (by simp) ?_
  simp -dsimp [S, I, hL]
  refine vloop_as (β := Nat) (fun i => [(0, .sl 1 EL), (1, S x), (7, I l.length), (8, I i)]) (fun i m2 n2 => m2 = m ∧ n2 = n ∧ i ≤ l.length ∧ ∀ s ∈ l.take i, decide (s = x) = false) (fun i => l.length - i) 0 (by simp [I, S]) ⟨rfl, rfl, by omega, by simp⟩ ?_
  rintro i m2 n2 ⟨rfl, rfl, le, al⟩
  by_cases hi : (i : Int) < l.length
  · have hi' : i < l.length := by omega
    have wi : IntKind.i64.wrap ((i : Int) + 1) = (i : Int) + 1 := wrap_i64 (by omega) (by omega)
    have hiN : i < EL.length := by omega
    have hgi : EL[i] = [S l[i]] := get_opt (hG i hi') hiN
    by_cases c : l[i] = x
    · have c' : (x == l[i]) = true := by simp [c]
      simp -dsimp [I, S, Tt, hL, hi, hi', hiN, hgi, c']
      exact pcq' (by rw [findI_hit hi' (by simpa using c) al])
    · have c' : (x == l[i]) = false := by
        have : ¬ x = l[i] := fun e => c e.symm
        simpa using this
      simp -dsimp [I, S, Tt, hL, hi, hi', hiN, hgi, c', wi]
      refine rnd (i + 1) (by omega) (by simp [I, S]) ⟨rfl, rfl, by omega, fun s hs => ?_⟩
      rw [List.take_succ_eq_append_getElem hi'] at hs
      rcases List.mem_append.1 hs with hs | hs
      · exact al s hs
      · simp at hs; rw [hs]; simpa using c
  · rw [List.take_of_length_le (by omega)] at al
    simp -dsimp [I, S, Tt, hL, hi]
    exact pcq' (by rw [findI_no al])
theorem findI_mem {l : List (List UInt8)} {x : List UInt8} : 0 ≤ findI (fun s => decide (s = x)) l ↔ x ∈ l := by
  rw [findI_any, List.any_eq_true]
  constructor
  · rintro ⟨s, hs, e⟩; rw [← (by simpa using e : s = x)]; exact hs
  · intro h; exact ⟨x, h, by simp⟩
theorem cContainsSl {l : List (List UInt8)} (hl : l.length ≤ 9223372036854775807) (x : List UInt8) : Pc Tryz.prog 73 [sl1 l, S x] (Tt (decide (x ∈ l))) := by
  refine pc_of (pur_T _) (fun m n => ?_)
  have hc := cIndexSl hl x
  have hm := findI_mem (l := l) (x := x)
  generalize findI (fun s => decide (s = x)) l = F at hc hm
  simp only [sl1] at hc ⊢
  generalize (l.map fun s => [S s]) = EL at hc
  refine acalls_vc [0, 1, 4] Tryz.func73 Tryz.ntmps73 (by kernel_rfl) rfl rfl (by simp) ?_
  simp -dsimp [S]
  refine pcall hc ?_
  by_cases h : x ∈ l
  · have := hm.2 h
    simp -dsimp [I, Tt, this]
    exact pcq' (by simp [Tt, h])
  · have : ¬ 0 ≤ F := fun e => h (hm.1 e)
    simp -dsimp [I, Tt, this]
    exact pcq' (by simp [Tt, h])
set_option maxHeartbeats 1000000 in
theorem cRisingT {ok : List UInt8 → Bool} {fp : FuncId} {l : List (List UInt8)} (hl : l.length ≤ 9223372036854775807) (hp : ∀ s ∈ l, Pc Tryz.prog fp [S s] (Tt (ok s))) :
    Pc Tryz.prog 116 [sl1 l, .func (.func fp) [] []] (Tt (risO ok l)) := by
  refine pc_of (pur_T _) (fun m n => ?_)
  have hL : (l.map fun s => [S s]).length = l.length := by simp
  have hG : ∀ i (h : i < l.length), (l.map fun s => [S s])[i]? = some [S l[i]] := fun i h => by simp [h]
  simp only [sl1]
  generalize (l.map fun s => [S s]) = EL at hL hG
  refine acalls_vc [0, 1, 4, 5, 6, 7, 8, 9, 10, 30] Tryz.func116 Tryz.ntmps116 (by kernel_rfl) rfl rfl (by simp) ?_
  simp -dsimp [S, I, hL]
  refine vloop_as (β := Nat) (fun i => [(0, .sl 1 EL), (1, .func (.func fp) [] []), (7, .sl 1 EL), (8, I l.length), (9, I i)]) (fun i m2 n2 => m2 = m ∧ n2 = n ∧ i ≤ l.length ∧ ∀ j, j < i → stepO ok l j = true) (fun i => l.length - i) 0 (by simp [I, S]) ⟨rfl, rfl, by omega, fun j h => by omega⟩ ?_
  rintro i m2 n2 ⟨rfl, rfl, le, al⟩
  by_cases hi : (i : Int) < l.length
  · have hi' : i < l.length := by omega
    have wi : IntKind.i64.wrap ((i : Int) + 1) = (i : Int) + 1 := wrap_i64 (by omega) (by omega)
    have hiN : i < EL.length := by omega
    have hgi : EL[i] = [S l[i]] := get_opt (hG i hi') hiN
    have hc := hp l[i] (List.getElem_mem hi')
    have hst := stepO_get (ok := ok) hi'
    have hno := fun h => risO_no (ok := ok) hi' h
    have nx : stepO ok l i = true → ∀ j, j < i + 1 → stepO ok l j = true := fun h j hj => by
      rcases Nat.lt_or_eq_of_le (show j ≤ i by omega) with c | c
      · exact al j c
      · subst c; exact h
    simp -dsimp [I, S, Tt, hL, hi, hi', hiN, hgi]
    refine pcall hc ?_
    cases e : ok l[i] with
    | false =>
      simp -dsimp [I, S, Tt]
      exact pcq' (by rw [hno (by rw [hst, e]; rfl)])
    | true =>
      rw [e, Bool.true_and] at hst
      by_cases i0 : i = 0
      · subst i0
        simp -dsimp [I, S, Tt, hL, hi, hi', hiN, hgi, wi]
        have w1 : IntKind.i64.wrap 1 = 1 := wrap_i64 (by omega) (by omega)
        exact rnd 1 (by omega) (by simp [I, S, w1]) ⟨rfl, rfl, by omega, nx (by rw [hst]; simp)⟩
      · have i1 : (0 : Int) < i := by omega
        have i1' : 0 < i := by omega
        have w1 : IntKind.i64.wrap ((i : Int) - 1) = ((i - 1 : Nat) : Int) := by rw [wrap_i64 (by omega) (by omega)]; omega
        have hp1 : i - 1 < l.length := by omega
        have hp2 : i - 1 < EL.length := by omega
        have hp3 : ((i - 1 : Nat) : Int) < l.length := by omega
        have hgp : EL[i - 1] = [S l[i - 1]] := get_opt (hG _ hp1) hp2
        have hgp' : EL[i - 1]? = some [S l[i - 1]] := hG _ hp1
        have hgd : l.getD (i - 1) [] = l[i - 1] := by rw [List.getD_eq_getElem?_getD, List.getElem?_eq_getElem hp1]; rfl
        have hlt : Op.bytesLess l[i - 1] l[i] = ltB l[i - 1] l[i] := rfl
        rw [hgd, decide_eq_false i0, Bool.false_or] at hst
        cases c2 : ltB l[i - 1] l[i]
        · simp -dsimp [I, S, Tt, hL, hi, hi', hiN, hgi, i1, i1', w1, hp1, hp2, hp3, hgp, hgp', hlt, c2]
          exact pcq' (by rw [hno (by rw [hst, c2])])
        · simp -dsimp [I, S, Tt, hL, hi, hi', hiN, hgi, i1, i1', w1, hp1, hp2, hp3, hgp, hgp', hlt, c2, wi]
          exact rnd (i + 1) (by omega) (by simp [I, S]) ⟨rfl, rfl, by omega, nx (by rw [hst, c2])⟩
  · simp -dsimp [I, S, Tt, hL, hi]
    exact pcq' (by rw [risO_yes fun j hj => al j (by omega)])
set_option maxHeartbeats 1000000 in
theorem cDistinctT {l : List (List UInt8)} (hl : l.length ≤ 9223372036854775807) (hs : ∀ s ∈ l, s.length ≤ 9223372036854775807) :
    Pc Tryz.prog 118 [sl1 l] (Tt (l.all nameN && distN l)) := by
  refine pc_of (pur_T _) (fun m n => ?_)
  have hL : (l.map fun s => [S s]).length = l.length := by simp
  have hG : ∀ i (h : i < l.length), (l.map fun s => [S s])[i]? = some [S l[i]] := fun i h => by simp [h]
  have hC : ∀ i (h : i < l.length), Pc Tryz.prog 73 [.sl 1 ((l.map fun s => [S s]).take i), S l[i]] (Tt (decide (l[i] ∈ l.take i))) := fun i h => by
    have := cContainsSl (l := l.take i) (by simp; omega) l[i]
    simp only [sl1, List.map_take] at this
    exact this
  simp only [sl1]
  generalize (l.map fun s => [S s]) = EL at hL hG hC
  refine acalls_vc [0, 2, 3, 4, 5, 6, 7, 8, 21] Tryz.func118 Tryz.ntmps118 (by kernel_rfl) rfl rfl (by simp) ?_
  simp -dsimp [S, I, hL]
  refine vloop_as (β := Nat) (fun i => [(0, .sl 1 EL), (5, .sl 1 EL), (6, I l.length), (7, I i)]) (fun i m2 n2 => m2 = m ∧ n2 = n ∧ i ≤ l.length ∧ (∀ s ∈ l.take i, nameN s = true) ∧ ∀ j (hj : j < l.length), j < i → l[j] ∉ l.take j) (fun i => l.length - i) 0 (by simp [I, S]) ⟨rfl, rfl, by omega, by simp, fun j h h2 => by omega⟩ ?_
  rintro i m2 n2 ⟨rfl, rfl, le, al, ad⟩
  by_cases hi : (i : Int) < l.length
  · have hi' : i < l.length := by omega
    have wi : IntKind.i64.wrap ((i : Int) + 1) = (i : Int) + 1 := wrap_i64 (by omega) (by omega)
    have hiN : i < EL.length := by omega
    have hgi : EL[i] = [S l[i]] := get_opt (hG i hi') hiN
    have hn := cNameT (hs _ (List.getElem_mem hi'))
    have hc := hC i hi'
    have le2 : (i : Int) ≤ l.length := by omega
    simp -dsimp [I, S, Tt, hL, hi, hi', hiN, hgi]
    refine pcall hn ?_
    cases e : nameN l[i] with
    | false =>
      simp -dsimp [I, S, Tt]
      refine pcq' ?_
      rw [show l.all nameN = false from List.all_eq_false.2 ⟨_, List.getElem_mem hi', by simp [e]⟩]; rfl
    | true =>
      simp -dsimp [I, S, Tt, hL, hi, hi', hiN, hgi, le, le2]
      refine pcall hc ?_
      by_cases h : l[i] ∈ l.take i
      · simp -dsimp [I, S, Tt, h]
        exact pcq' (by rw [distN_no hi' h, Bool.and_false])
      · simp -dsimp [I, S, Tt, h, wi]
        refine rnd (i + 1) (by omega) (by simp [I, S]) ⟨rfl, rfl, by omega, fun s hs => ?_, fun j hj hji => ?_⟩
        · rw [List.take_succ_eq_append_getElem hi'] at hs
          rcases List.mem_append.1 hs with hs | hs
          · exact al s hs
          · simp at hs; rw [hs]; exact e
        · rcases Nat.lt_or_eq_of_le (show j ≤ i by omega) with c | c
          · exact ad j hj c
          · subst c; exact h
  · rw [List.take_of_length_le (by omega)] at al
    simp -dsimp [I, S, Tt, hL, hi]
    refine pcq' ?_
    rw [show l.all nameN = true from List.all_eq_true.2 al, distN_yes fun j hj => ad j hj (by omega)]; rfl
end Go.Proofs.Mv.App
open Go Go.Proofs Go.Proofs.Mv.V Go.RowKit
namespace Go.Proofs.Mv.App
variable [GI]
set_option maxRecDepth 100000 in
set_option maxHeartbeats 2000000 in
theorem sizes_w {W : World} {v0 v1 v2 v3 : Value} {a4 a5 a6 a7 : Option Addr} {n4 n5 n6 n7 c4 c5 c6 c7 : Nat} :
    Calls Tryz.prog 112 #[.agg #[v0, v1, v2, v3, .slice a4 n4 c4, .slice a5 n5 c5, .slice a6 n6 c6, .slice a7 n7 c7]] W fun e w' => e = .returned (.agg #[.int .i64 n4, .int .i64 n5, .int .i64 n6, .int .i64 n7]) ∧ Blw W.heap.size W w' := by
  refine calls_of_wp Tryz.func112 rfl ?_
  simp only [Tryz.ntmps112, List.size_toArray, List.length_cons, List.length_nil, Nat.reduceAdd, Nat.reduceSub, Array.replicate_succ, Array.replicate_zero, List.push_toArray, List.append_toArray, List.nil_append, List.cons_append]
  go_wp2_with fail
  go_returns
  exact ⟨rfl, ((Blw.refl _ W).alloc (Nat.le_refl _) _).alloc (by simp) _⟩
set_option maxRecDepth 100000 in
set_option maxHeartbeats 2000000 in
theorem max_w {W : World} {b : Nat} {n0 n1 n2 n3 : Int} (h0 : W.cell? ⟨b, 0, none⟩ = some (.int .i64 n0)) (h1 : W.cell? ⟨b, 1, none⟩ = some (.int .i64 n1)) (h2 : W.cell? ⟨b, 2, none⟩ = some (.int .i64 n2)) (h3 : W.cell? ⟨b, 3, none⟩ = some (.int .i64 n3)) :
    Calls Tryz.prog 113 #[.slice (some ⟨b, 0, none⟩) 4 4] W fun e w' => (∃ r : Int, e = .returned (.int .i64 r) ∧ (r ≤ 21 ↔ (n0 ≤ 21 ∧ n1 ≤ 21 ∧ n2 ≤ 21 ∧ n3 ≤ 21))) ∧ Blw W.heap.size W w' := by
  refine calls_of_wp Tryz.func113 rfl ?_
  simp only [Tryz.ntmps113, List.size_toArray, List.length_cons, List.length_nil, Nat.reduceAdd, Nat.reduceSub, Array.replicate_succ, Array.replicate_zero, List.push_toArray, List.append_toArray, List.nil_append, List.cons_append]
  go_wp2_with fail
  refine wp_loop_rounds 4 ?_
  rw [rounds_succ]
  go_wp2_with fail
  all_goals (rw [rounds_succ]; go_wp2_with fail)
  all_goals (rw [rounds_succ]; go_wp2_with fail)
  all_goals (rw [rounds_succ]; go_wp2_with fail)
  all_goals
    go_ret
    exact ⟨⟨_, rfl, by omega⟩, Blw.refl _ _⟩
end Go.Proofs.Mv.App
