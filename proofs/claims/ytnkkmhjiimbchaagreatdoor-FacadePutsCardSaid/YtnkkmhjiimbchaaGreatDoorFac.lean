/- A part of the proofs of the seat YtnkkmhjiimbchaaGreatDoor: the abstract machine, the contracts of the functions, the laws. No condition of its own. -/
import Derived.Test.YtnkkmhjiimbchaaGreatDoorCod
import Derived.Test.YtnkkmhjiimbchaaGreatDoorMvD
import Derived.Test.YtnkkmhjiimbchaaGreatDoorLay
import Derived.Lib.ItoaNum
import Derived.Shelf.Strconv.Itoa3
import Derived.Test.YtnkkmhjiimbchaaGreatDoorMvC
set_option linter.unusedSimpArgs false
set_option linter.unusedVariables false
set_option linter.unusedSectionVars false
open Go Go.Proofs Go.Proofs.Mv.V Go.RowKit
set_option maxRecDepth 10000
namespace Go.Proofs.Mv.V
/-- What the listed table holds. -/
structure LaidF (w : World) (F : Nat → Prop) : Prop where
  f3 : F 0
  c3 : w.var? Tryz.prog "internal/strconv.uint64pow10" = some (Lib.pow10Tab.map fun z => Value.int .u64 z).toArray
theorem pow10_g : Tryz.prog.globalNamed "internal/strconv.uint64pow10" = some 0 := by kernel_rfl
instance laidGI : GI where
  inv := LaidF
  keep := by
    intro w w' F F' h k
    have e3 : w'.var? Tryz.prog "internal/strconv.uint64pow10" = w.var? Tryz.prog "internal/strconv.uint64pow10" := by simp only [World.var?, pow10_g, Option.bind_some, (k _ h.f3).2]
    exact ⟨(k _ h.f3).1, by rw [e3]; exact h.c3⟩
end Go.Proofs.Mv.V
namespace Go.Proofs.Mv.App
theorem cItoaD {i : Int} (h0 : 0 ≤ i) (h1 : i ≤ 9223372036854775807) (m : Mem) (n : Nat) : ACalls Tryz.prog 14 [I i] m n (fun d m' n' => d = S (Lib.decDigits i.toNat) ∧ m' = m ∧ n' = n) := by
  refine acalls_lib ⟨_, Tryz.func14, by kernel_rfl, by kernel_rfl⟩ fun w ν F vals hst hv => ?_
  obtain ⟨x, rfl, h2⟩ := conVs_arr1 hv
  simp only [Con, I] at h2
  subst h2
  refine Calls.mono (show Calls Tryz.prog 14 _ _ _ from Any.strconv_Itoa Tryz.laysItoa i (by omega) h1 w hst.gi.c3) ?_
  rintro e w' ⟨rfl, k, os, rfl⟩
  refine ⟨_, rfl, ?_, S (Lib.decDigits i.toNat), ?_, rfl, rfl, rfl⟩
  · exact ⟨rfl, rfl, rfl, by simp [Go.Sort.grow, World.drewN], fun b hb => Go.Sort.heap_grow_old (w.drewN k) os hb⟩
  · simp only [Con, S]
    simp only [Lib.itoa, if_neg (show ¬ i < 0 by omega)]
    rfl
end Go.Proofs.Mv.App
open Go Go.Proofs Go.Proofs.Mv.V
set_option maxRecDepth 10000
namespace Go.Proofs.Mv.App
variable [GI]
theorem rGrowS (q : Nat) (hq : q ≤ 1000000) (m : Mem) (n : Nat) : ACalls Tryz.prog 22 [.v (.slice none 0 0), .v (.int .i64 q)] m n
    (fun d m' n' => Lst m' 1 [] d ∧ n ≤ n' ∧ (∀ k, kof d = some k → n ≤ k ∧ k < n') ∧ ∀ j, j < n → m' j = m j) := by
  refine acalls_vc [0, 1, 4, 6, 16] Tryz.func22 Tryz.ntmps22 (by kernel_rfl) rfl rfl (by simp) ?_
  simp -dsimp
  have w1 : IntKind.i64.wrap ((q : Int) - IntKind.i64.wrap 0) = q := by rw [wrap_i64 (x := 0) (by omega) (by omega), wrap_i64 (by omega) (by omega)]; omega
  simp -dsimp [w1]
  refine cnd_intro (fun h => ?_) (fun h => ?_)
  · simp at h
    simp -dsimp [w1]
    exact ⟨⟨h, by omega⟩, .mk (set_same _ _ _) rfl (by simp) (by simp), fun j hj => set_ne _ _ _ _ (by omega)⟩
  · simp -dsimp
    exact .nil
def sumL (ls : List (List (List UInt8))) (i : Nat) : Nat := ((ls.take i).map List.length).sum
theorem sumL_succ {ls : List (List (List UInt8))} {i : Nat} (h : i < ls.length) : sumL ls (i + 1) = sumL ls i + ls[i].length := by
  unfold sumL; rw [List.take_succ_eq_append_getElem h]; simp only [List.map_append, List.map_cons, List.map_nil, List.sum_append, List.sum_cons, List.sum_nil]; omega
theorem sumL_len (ls : List (List (List UInt8))) (i : Nat) : sumL ls i = (ls.take i).flatten.length := by
  unfold sumL; simp [List.length_flatten]
theorem sumL_le {ls : List (List (List UInt8))} {B : Nat} (h : ∀ l ∈ ls, l.length ≤ B) (i : Nat) : sumL ls i ≤ ls.length * B := by
  induction ls generalizing i with
  | nil => simp [sumL]
  | cons a r ih =>
    cases i with
    | zero => simp [sumL]
    | succ i =>
      have h1 := ih (fun l hl => h l (by simp [hl])) i
      have h2 := h a (by simp)
      simp only [sumL, List.take_succ_cons, List.map_cons, List.sum_cons, List.length_cons] at h1 ⊢
      rw [Nat.add_mul]; omega
structure CcI (kx : Nat) (q : Nat) (ls : List (List (List UInt8))) (m : Mem) (n : Nat) (i : Nat) (σ : Nat → D) (m2 : Mem) (n2 : Nat) : Prop where
  le : i ≤ q
  h0 : σ 0 = .own kx 0 0 q 1
  h9 : σ 9 = .own kx 0 0 q 1
  h10 : σ 10 = I q
  h11 : σ 11 = I i
  h3 : σ 3 = I (sumL ls i)
  mm : m2 = m
  nn : n2 = n
structure CcJ (kx : Nat) (q : Nat) (ls : List (List (List UInt8))) (m : Mem) (n : Nat) (i : Nat) (σ : Nat → D) (m2 : Mem) (n2 : Nat) : Prop where
  le : i ≤ q
  h25 : σ 25 = .own kx 0 0 q 1
  h26 : σ 26 = I q
  h27 : σ 27 = I i
  fr : ∀ j, j < n → m2 j = m j
  nn : n ≤ n2
  kf : ∀ k, kof (σ 6) = some k → n ≤ k ∧ k < n2
  ls : Lst m2 1 ((ls.take i).flatten.map fun s => [S s]) (σ 6)
/-- Some lists, each read-only or one's own, put behind one another. -/
theorem rConcatS (kx : Nat) (ds : List D) (ls : List (List (List UInt8))) (m : Mem) (n : Nat) (hm : m kx = some ⟨1, ds.map fun d => [d], 0⟩) (hlen : ds.length = ls.length) (h3 : ls.length ≤ 10)
    (hd : ∀ i (h : i < ls.length) (h' : i < ds.length), Rd m 1 (ls[i].map fun s => [S s]) ds[i]) (hk : ∀ d ∈ ds, ∀ k, kof d = some k → k < n) (hkx : kx < n) (hl : ∀ l ∈ ls, l.length ≤ 1000) :
    ACalls Tryz.prog 15 [.own kx 0 0 ls.length 1] m n (Hq (fun d m' n' => Lst m' 1 (ls.flatten.map fun s => [S s]) d ∧ n ≤ n' ∧ (∀ k, kof d = some k → n ≤ k ∧ k < n') ∧ ∀ j, j < n → m' j = m j) tg) := by
  have hS := sumL_le hl
  refine acalls_vc [0, 2, 3, 5, 6, 8, 9, 10, 11, 12, 20, 25, 26, 27, 28] Tryz.func15 Tryz.ntmps15 (by kernel_rfl) rfl rfl (by simp) ?_
  simp -dsimp
  refine vloop_of (β := Nat) (CcI kx ls.length ls m n) (fun i => ls.length - i) 0 ⟨by omega, by simp, by simp, by simp [I], by simp [I], by simp [I, sumL], rfl, rfl⟩ ?_
  rintro i σ m2 n2 ⟨le, h0, h9, h10, h11, h3', rfl, rfl⟩
  by_cases hi : (i : Int) < ls.length
  · have hi' : i < ls.length := by omega
    have hid : i < ds.length := by omega
    have wi : IntKind.i64.wrap ((i : Int) + 1) = (i : Int) + 1 := wrap_i64 (by omega) (by omega)
    have hs1 := hS (i + 1)
    have hs0 := sumL_succ hi'
    have hb : ls.length * 1000 ≤ 10000 := by omega
    have ws : IntKind.i64.wrap ((sumL ls i : Int) + (ls[i].length : Int)) = (sumL ls (i + 1) : Int) := by rw [wrap_i64 (by omega) (by omega)]; omega
    have nn : ¬ ((sumL ls (i + 1) : Int) < 0) := by omega
    have hln := lenD_rd (hd i hi' hid)
    rw [List.length_map] at hln
    have hgd : (ds.map fun d => [d])[i]? = some [ds[i]] := by simp [hid]
    simp -dsimp [h0, h9, h10, h11, h3', I, hm, hi, hi', hid, hln, ws, nn, wi]
    exact ⟨i + 1, by omega, by omega, by simp, by simp, by simp [I], by simp [I], by simp [I], rfl, rfl⟩
  · have : i = ls.length := by omega
    subst this
    simp -dsimp [h0, h9, h10, h11, h3', I, hi]
    refine aCall_of (rGrowS (sumL ls ls.length) (by have := hS ls.length; omega) _ _) ?_
    rintro d m' n' ⟨g1, g2, g3, g4⟩
    simp -dsimp
    refine vloop_of (β := Nat) (CcJ kx ls.length ls m2 n2) (fun i => ls.length - i) 0 ⟨by omega, by simp [h0], by simp [I], by simp [I], g4, g2, by simpa using g3, by simpa using g1⟩ ?_
    rintro i σ m3 n3 ⟨le, h25, h26, h27, hf, hn, hkk, hL⟩
    by_cases hi : (i : Int) < ls.length
    · have hi' : i < ls.length := by omega
      have hid : i < ds.length := by omega
      have wi : IntKind.i64.wrap ((i : Int) + 1) = (i : Int) + 1 := wrap_i64 (by omega) (by omega)
      have hm3 : m3 kx = some ⟨1, ds.map fun d => [d], 0⟩ := by rw [hf kx hkx]; exact hm
      obtain ⟨O1, e1, o1⟩ := ((hd i hi' hid).frame (m' := m3) (fun k hk' => hf k (hk _ (List.getElem_mem hid) k hk'))).elems
      simp -dsimp [h25, h26, h27, I, hm3, hi, hi', hid, e1]
      have hsl := sumL_len ls (i + 1)
      have hsb := hS (i + 1)
      have hfl : (ls.take (i + 1)).flatten = (ls.take i).flatten ++ ls[i] := by rw [List.take_succ_eq_append_getElem hi', List.flatten_append]; simp only [List.flatten_cons, List.flatten_nil, List.append_nil]
      rw [hfl, List.length_append] at hsl
      have hb : ls.length * 1000 ≤ 10000 := by omega
      generalize hd6 : σ 6 = d6 at hL hkk
      refine b4_append hL (fun k h => (hkk k h).2) trivial o1 (by omega) (by simp only [List.length_map]; omega) ?_
      intro d' m4 n4 q1 q2 q3 q4
      simp -dsimp [wi]
      refine ⟨i + 1, by omega, by omega, by simp, by simp [I], by simp [I], fun j hj => ?_, by omega, ?_, ?_⟩
      · rw [q4 j (by omega) (fun e => by have := hkk j e; omega), hf j hj]
      · intro k h
        have := q3 k (by simpa using h)
        refine ⟨?_, this.1⟩
        rcases this.2 with h' | h'
        · exact (hkk k h').1
        · omega
      · rw [hfl]; simpa using q1
    · have : i = ls.length := by omega
      subst this
      rw [List.take_length] at hL
      simp -dsimp [h25, h26, h27, I, hi]
      exact hq ⟨hL, hn, hkk, hf⟩
end Go.Proofs.Mv.App
open Go Go.Proofs Go.Proofs.Mv.V
set_option maxRecDepth 10000
namespace Go.Proofs.Mv.App
/-- A list of one's own is handed on as read-only. -/
theorem aCall_pubL {f : FuncId} {d : D} {l : List (List UInt8)} {m : Mem} {n : Nat} {K : D → Mem → Nat → Prop} {u : Tg K () ()} (hL : Lst m 1 (l.map fun s => [S s]) d) (hne : l ≠ [])
    (h : ∀ m2, (∀ j, kof d ≠ some j → m2 j = m j) → aCall Tryz.prog f [sl1 l] m2 n K u) : aCall Tryz.prog f [d] m n K u := by
  rcases hL with ⟨e, _⟩ | ⟨k, g, es', rfl, h1, h2, h3⟩
  · simp at e; exact absurd e hne
  · refine aCall_pub k _ 2 h1 fun β => ?_
    have hd : ∀ j, kof (.own k g 0 (l.map fun s => [S s]).length 1) ≠ some j → (m.del k) j = m j := fun j hj => del_ne _ _ _ (by intro e; subst e; exact hj rfl)
    have := h (m.del k) hd
    simp at h2
    simp at h3
    simp -dsimp [h3, h2]
    exact this
set_option maxHeartbeats 1000000 in
theorem cLockMay0 (m : Mem) (n : Nat) : ACalls Tryz.prog 16 [.v (.slice none 0 0)] m n (fun d m' n' => d = Tt true ∧ m' = m ∧ n' = n) := by
  refine acalls_vc [0, 2, 3, 4, 5, 6, 7, 8, 36] Tryz.func16 Tryz.ntmps16 (by kernel_rfl) rfl rfl (by simp) ?_
  simp -dsimp
  refine vloop_of (β := Nat) (fun i σ m2 n2 => i = 0 ∧ σ 0 = .v (.slice none 0 0) ∧ σ 6 = I 0 ∧ σ 7 = I 0 ∧ m2 = m ∧ n2 = n) (fun i => i) 0 (by simp [I]) ?_
  rintro i σ m2 n2 ⟨rfl, h0, h6, h7, rfl, rfl⟩
  simp -dsimp [h0, h6, h7, I, Tt]
theorem cNewSt (m : Mem) (n : Nat) : ACalls Tryz.prog 10 [] m n (Hq (fun d m' n' => d = .ptr n 0 0 0 ∧ (∀ j, j < n → m' j = m j) ∧ n < n') tg) := by
  refine acalls_vc [0] Tryz.func10 Tryz.ntmps10 (by kernel_rfl) rfl rfl (by simp) ?_
  simp -dsimp
  exact hq ⟨rfl, fun j hj => set_ne _ _ _ _ (by omega), by omega⟩
theorem cLink0 (m : Mem) (n : Nat) : ACalls Tryz.prog 9 [.v (.pointer none), .v (.slice none 0 0)] m n (fun d m' n' => d = code 1 ∧ m' = m ∧ n' = n) := by
  refine acalls_done (R' := Hq (fun d m' n' => d = code 1 ∧ ∀ j, j < n → m' j = m j) tg) ?_ ?_
  · refine acalls_vc [0, 1, 4, 5, 6, 7, 8, 9, 17, 22, 23, 24, 25, 39, 47] Tryz.func9 Tryz.ntmps9 (by kernel_rfl) rfl rfl (by simp) ?_
    simp -dsimp
    exact hq ⟨rfl, fun _ _ => rfl⟩
  · rintro d m' n' ⟨rfl, h⟩
    exact ⟨_, (pur_code _).pub, h, rfl⟩
theorem cLink1 (k : Nat) (m : Mem) (n : Nat) (hk : k < n) : ACalls Tryz.prog 9 [.ptr k 0 0 0, .v (.slice none 0 0)] m n (fun d m' n' => d = nilE ∧ m' = m ∧ n' = n) := by
  refine acalls_done (R' := Hq (fun d m' n' => d = nilE ∧ ∀ j, j < n → m' j = m j) tg) ?_ ?_
  · refine acalls_vc [0, 1, 4, 5, 6, 7, 8, 9, 17, 22, 23, 24, 25, 39, 47] Tryz.func9 Tryz.ntmps9 (by kernel_rfl) rfl rfl (by simp) ?_
    simp -dsimp
    refine aCall_of (cLockMay0 _ _) ?_
    rintro d m' n' ⟨rfl, rfl, rfl⟩
    simp -dsimp [Tt]
    refine vloop_of (β := Nat) (fun i σ m2 n2 => i = 0 ∧ σ 23 = I 0 ∧ σ 24 = I 0 ∧ ∀ j, j < n' → m2 j = m' j) (fun i => i) 0 ⟨rfl, by simp [I], by simp [I], fun j hj => set_ne _ _ _ _ (by omega)⟩ ?_
    rintro i σ m2 n2 ⟨rfl, h23, h24, hf⟩
    simp -dsimp [h23, h24, I]
    exact hq ⟨rfl, hf⟩
  · rintro d m' n' ⟨rfl, h⟩
    exact ⟨_, pur_nilE.pub, h, rfl⟩
theorem pur_putA (l : List (List UInt8)) : ∃ x y, putA l = .tup [x, y] ∧ Pur x ∧ Pur y := by
  unfold putA
  split
  · exact ⟨_, _, rfl, pur_B _, pur_nilE⟩
  · exact ⟨_, _, rfl, pur_B [], pur_code _⟩
theorem cCommand (l : List (List UInt8)) (hl : l.length ≤ 1000000) (m : Mem) (n : Nat) : ACalls Tryz.prog 5 [sl1 l] m n (fun d m' n' => d = putA l ∧ m' = m ∧ n' = n) := by
  have hc := fun m n => cPut l hl m n
  obtain ⟨x, y, e, p1, p2⟩ := pur_putA l
  rw [e] at hc ⊢
  refine acalls_done (R' := Hq (fun d m' n' => d = .tup [x, y] ∧ ∀ j, j < n → m' j = m j) tg) ?_ ?_
  · simp only [sl1] at hc ⊢
    refine acalls_vc [0, 2, 3] Tryz.func5 Tryz.ntmps5 (by kernel_rfl) rfl rfl (by simp) ?_
    simp -dsimp
    refine aCall_of (hc _ _) ?_
    rintro d m' n' ⟨rfl, rfl, rfl⟩
    simp -dsimp
    exact hq ⟨rfl, fun _ _ => rfl⟩
  · rintro d m' n' ⟨rfl, h⟩
    exact ⟨_, pub_pair p1.pub p2.pub, h, rfl⟩
def wPub : List UInt8 := [112, 117, 98, 108, 105, 115, 104]
def pubL (man : List UInt8) (mods clis : List (List UInt8)) : List (List UInt8) := [wPub, man, Lib.decDigits mods.length] ++ mods ++ clis
set_option maxHeartbeats 1000000 in
theorem cPublish (man : List UInt8) (mods clis : List (List UInt8)) (h1 : mods.length ≤ 100) (h2 : clis.length ≤ 100) (m : Mem) (n : Nat) : ACalls Tryz.prog 8 [.agg [S man, sl1 mods, sl1 clis]] m n (fun d m' n' => d = putA (pubL man mods clis) ∧ m' = m ∧ n' = n) := by
  refine acalls_done (R' := Hq (fun d m' n' => d = putA (pubL man mods clis) ∧ ∀ j, j < n → m' j = m j) tg) ?_ ?_
  · have hc := fun m n => cItoaD (i := mods.length) (by omega) (by omega) m n
    have hL1 : (mods.map fun s => [S s]).length = mods.length := by simp
    have hcat : ∀ (k : Nat) (m : Mem) (n : Nat) (o : D) (ol : List (List UInt8)), m k = some ⟨1, [[o], [.sl 1 (mods.map fun s => [S s])], [.sl 1 (clis.map fun s => [S s])]], 0⟩ → Lst m 1 (ol.map fun s => [S s]) o → (∀ j, kof o = some j → j < n) → k < n → ol.length ≤ 10 →
        ACalls Tryz.prog 15 [.own k 0 0 3 1] m n (Hq (fun d m' n' => Lst m' 1 ((ol ++ mods ++ clis).map fun s => [S s]) d ∧ n ≤ n' ∧ (∀ k, kof d = some k → n ≤ k ∧ k < n') ∧ ∀ j, j < n → m' j = m j) tg) := fun k m n o ol hm hL hK hk hol => by
      have := rConcatS k [o, .sl 1 (mods.map fun s => [S s]), .sl 1 (clis.map fun s => [S s])] [ol, mods, clis] m n hm rfl (by simp) (fun i h h' => by
        simp only [List.length_cons, List.length_nil] at h
        obtain rfl | rfl | rfl : i = 0 ∨ i = 1 ∨ i = 2 := by omega
        · exact .inr hL
        · exact .inl rfl
        · exact .inl rfl) (fun d hd j hj => by
        simp only [List.mem_cons, List.not_mem_nil, or_false] at hd
        rcases hd with rfl | rfl | rfl
        · exact hK j hj
        · simp [kof] at hj
        · simp [kof] at hj) hk (fun l hl => by
        simp only [List.mem_cons, List.not_mem_nil, or_false] at hl
        rcases hl with rfl | rfl | rfl <;> omega)
      have e : [ol, mods, clis].flatten = ol ++ mods ++ clis := by simp
      rw [e] at this
      exact this
    simp only [sl1]
    generalize (mods.map fun s => [S s]) = ML at hL1 hcat
    generalize (clis.map fun s => [S s]) = CL at hcat
    refine acalls_vc [0, 1, 2, 3, 4] Tryz.func8 Tryz.ntmps8 (by kernel_rfl) rfl rfl (by simp) ?_
    simp -dsimp [I, S, hL1]
    refine vdraw_tree [0, 1, 0, 4, 12, 28, 63, 127] (.rd 0 (.rd 1 (.rd 2 (.rd 3 (.rd 4 (.wr (.cons 5 (.wr (.cons 6 (.rd 7 (.fin)) (.nil))) (.nil)))))))) (by kernel_rfl) (by kernel_rfl) ?_
    simp -dsimp [I, S, hL1]
    refine aCall_of (hc _ _) ?_
    rintro d m' n' ⟨rfl, rfl, rfl⟩
    simp -dsimp [I, S, hL1]
    have n12 : n + 1 ≠ n + 1 + 1 := by omega
    refine aCall_of (hcat (n + 1 + 1) _ _ (.own (n + 1) 0 0 3 1) [wPub, man, Lib.decDigits mods.length] (by simp) (Lst.own (k := n + 1) (g := 0) (es := [[S wPub], [S man], [S (Lib.decDigits mods.length)]]) (by simp [set_ne, n12, S, wPub])) (by simp [kof]) (by omega) (by simp)) ?_
    rintro d m2 n2 ⟨hL, g2, g3, g4⟩
    simp -dsimp
    refine aCall_pubL hL (by simp) fun m3 hm3 => ?_
    refine aCall_of (cCommand _ (by simp; omega) _ _) ?_
    rintro d' m' n' ⟨rfl, rfl, rfl⟩
    have hpl : [wPub, man, Lib.decDigits mods.length] ++ mods ++ clis = pubL man mods clis := rfl
    rw [hpl]
    obtain ⟨x, y, e, p1, p2⟩ := pur_putA (pubL man mods clis)
    rw [e]
    simp -dsimp
    refine hq ⟨rfl, fun j hj => ?_⟩
    rw [hm3 j (fun e => by have := g3 j e; omega), g4 j (by omega), set_ne _ _ _ _ (by omega), set_ne _ _ _ _ (by omega), set_ne _ _ _ _ (by omega)]
  · rintro d m' n' ⟨rfl, h⟩
    obtain ⟨x, y, e, p1, p2⟩ := pur_putA (pubL man mods clis)
    rw [e]
    exact ⟨_, pub_pair p1.pub p2.pub, h, rfl⟩
end Go.Proofs.Mv.App
open Go Go.Proofs Go.Proofs.Mv.V
set_option maxRecDepth 10000
namespace Go.Proofs.Mv.App
theorem byt_dg (k : Nat) : byt (48 + (k : Int)) = UInt8.ofNat (48 + k) := by
  unfold byt
  apply UInt8.toNat_inj.1
  simp only [UInt8.toNat_ofNat']
  omega
theorem dig1n {n : Nat} (h : n ≤ 9) : Lib.decDigits n = [byt (48 + (n : Int))] := by
  rw [Lib.decDigits.eq_1, dif_pos (by omega), byt_dg]
theorem dig2 {n : Nat} (h1 : 9 < n) (h2 : n ≤ 99) : Lib.decDigits n = [byt (48 + (n : Int) / 10 % 10), byt (48 + (n : Int) % 10)] := by
  rw [Lib.decDigits.eq_1, dif_neg (by omega), dig1n (by omega)]
  have e1 : ((n / 10 : Nat) : Int) = (n : Int) / 10 % 10 := by omega
  have e2 : (n : Int) % 10 = ((n % 10 : Nat) : Int) := by omega
  rw [e1, e2, byt_dg (n % 10)]
  rfl
theorem dig1 : Lib.decDigits 1 = [49] := by rw [Lib.decDigits.eq_1]; rfl
def upL : List (List UInt8) := [wPub, [109], [49], [97], [98]]
theorem up_pub : pubL [109] [[97]] [[98]] = upL := by
  show [wPub, [109], Lib.decDigits 1] ++ [[97]] ++ [[98]] = upL
  rw [dig1]; rfl
theorem up_get : getO (putB upL) = some upL := by decide +kernel
theorem up_put : putA upL = .tup [B (putB upL), nilE] := by
  have : fits upL = true := by decide +kernel
  unfold putA; rw [if_pos this]; rfl
theorem up_getA : getA (putB upL) = .tup [sl1 upL, nilE] := by unfold getA; rw [up_get]; rfl
set_option maxHeartbeats 1000000 in
theorem cUpF (m : Mem) (n : Nat) : ACalls Tryz.prog 4 [] m n (fun d m' n' => d = Tt true ∧ m' = m ∧ n' = n) := by
  refine acalls_done (R' := Hq (fun d m' n' => d = Tt true ∧ ∀ j, j < n → m' j = m j) tg) ?_ ?_
  · refine acalls_vc [0, 1, 2, 3, 4, 5] Tryz.func4 Tryz.ntmps4 (by kernel_rfl) rfl rfl (by simp) ?_
    simp -dsimp
    refine aCall_of (cNewSt _ _) ?_
    rintro d m1 n1 ⟨rfl, hf, hn⟩
    simp -dsimp
    refine aCall_of (cLink1 n _ _ hn) ?_
    rintro d m2 n2 ⟨rfl, rfl, rfl⟩
    simp -dsimp [nilE]
    have q1 : n2 ≠ n2 + 1 := by omega
    have q2 : n2 + 1 ≠ n2 := by omega
    refine aCall_pub n2 ⟨1, [[.v (.string (ofL [97]))]], 0⟩ 3 (by simp [set_ne, q1]) fun β => ?_
    simp -dsimp [one_ne, q1, q2]
    refine aCall_pub (n2 + 1) ⟨1, [[.v (.string (ofL [98]))]], 0⟩ 3 (by rw [del_ne _ _ _ q2]; simp) fun β => ?_
    simp -dsimp [one_ne, q1, q2]
    refine aCall_of (cPublish [109] [[97]] [[98]] (by simp) (by simp) _ _) ?_
    rintro d m3 n3 ⟨rfl, rfl, rfl⟩
    rw [up_pub, up_put]
    simp -dsimp [nilE]
    refine aCall_of (cGet (putB upL) _ _) ?_
    rintro d m3 n3 ⟨rfl, rfl, rfl⟩
    rw [up_getA]
    simp -dsimp [nilE, sl1, upL, S, wPub]
    refine aCall_of (cLink0 _ _) ?_
    rintro d m3 n3 ⟨rfl, rfl, rfl⟩
    simp -dsimp [code]
    refine hq ⟨rfl, fun j hj => ?_⟩
    rw [del_ne _ _ _ (by omega), del_ne _ _ _ (by omega), set_ne _ _ _ _ (by omega), set_ne _ _ _ _ (by omega)]
    exact hf j hj
  · rintro d m' n' ⟨rfl, h⟩
    exact ⟨_, (pur_T _).pub, h, rfl⟩
set_option maxHeartbeats 2000000 in
theorem cFacadePuts (l : List (List UInt8)) (man : List UInt8) (mods clis : List (List UInt8)) (m : Mem) (n : Nat) : ACalls Tryz.prog 3 [sl1 l, .agg [S man, sl1 mods, sl1 clis]] m n (fun d m' n' => d = Tt true ∧ m' = m ∧ n' = n) := by
  refine acalls_done (R' := Hq (fun d m' n' => d = Tt true ∧ ∀ j, j < n → m' j = m j) tg) ?_ ?_
  · have fr : ∀ o j, j < n → (m.set n o) j = m j := fun o j hj => by rw [set_ne _ _ _ _ (by omega)]
    have q01 : n ≠ n + 1 := by omega
    have q02 : n ≠ n + 1 + 1 := by omega
    have q03 : n ≠ n + 1 + 1 + 1 := by omega
    have q04 : n ≠ n + 1 + 1 + 1 + 1 := by omega
    have q10 : n + 1 ≠ n := by omega
    have q12 : n + 1 ≠ n + 1 + 1 := by omega
    have q13 : n + 1 ≠ n + 1 + 1 + 1 := by omega
    have q14 : n + 1 ≠ n + 1 + 1 + 1 + 1 := by omega
    have q20 : n + 1 + 1 ≠ n := by omega
    have q21 : n + 1 + 1 ≠ n + 1 := by omega
    have q23 : n + 1 + 1 ≠ n + 1 + 1 + 1 := by omega
    have q24 : n + 1 + 1 ≠ n + 1 + 1 + 1 + 1 := by omega
    have q30 : n + 1 + 1 + 1 ≠ n := by omega
    have q31 : n + 1 + 1 + 1 ≠ n + 1 := by omega
    have q32 : n + 1 + 1 + 1 ≠ n + 1 + 1 := by omega
    have q34 : n + 1 + 1 + 1 ≠ n + 1 + 1 + 1 + 1 := by omega
    have q40 : n + 1 + 1 + 1 + 1 ≠ n := by omega
    have q41 : n + 1 + 1 + 1 + 1 ≠ n + 1 := by omega
    have q42 : n + 1 + 1 + 1 + 1 ≠ n + 1 + 1 := by omega
    have q43 : n + 1 + 1 + 1 + 1 ≠ n + 1 + 1 + 1 := by omega
    have hL0 : (l.map fun s => [S s]).length = l.length := by simp
    have hL1 : (mods.map fun s => [S s]).length = mods.length := by simp
    have hL2 : (clis.map fun s => [S s]).length = clis.length := by simp
    have hCmd := fun (h : l.length ≤ 200) m n => cCommand l (by omega) m n
    have hFit := fun (h : l.length ≤ 200) m n => refFits l m n (by omega)
    have hPut := fun (h : fits l = true) m n => refPut l (by simp [fits] at h; omega) (by simp [fits] at h; exact h.1) m n
    have hPub := fun h1 h2 m n => cPublish man mods clis h1 h2 m n
    simp only [sl1] at hCmd hFit hPut hPub ⊢
    generalize hLL : (l.map fun s => [S s]) = LL at hL0 hCmd hFit hPut
    generalize hML : (mods.map fun s => [S s]) = ML at hL1 hPub
    generalize hCL : (clis.map fun s => [S s]) = CL at hL2 hPub
    refine acalls_vc [0, 1, 3, 4, 5, 6, 7, 8, 9, 10, 11, 12, 28, 62, 75, 109] Tryz.func3 Tryz.ntmps3 (by kernel_rfl) rfl rfl (by simp) ?_
    simp -dsimp [S]
    refine aCall_of (cUpF _ _) ?_
    rintro d m1 n1 ⟨rfl, rfl, rfl⟩
    by_cases a1 : (200 : Int) < l.length
    · have a1' : 200 < l.length := by omega
      simp -dsimp [S, Tt, hL0, hL1, hL2, a1, a1']
      exact hq ⟨rfl, fr _⟩
    have a1' : ¬ 200 < l.length := by omega
    by_cases a2 : (100 : Int) < mods.length
    · have a2' : 100 < mods.length := by omega
      simp -dsimp [S, Tt, hL0, hL1, hL2, a1, a1', a2, a2']
      exact hq ⟨rfl, fr _⟩
    have a2' : ¬ 100 < mods.length := by omega
    by_cases a3 : (100 : Int) < clis.length
    · have a3' : 100 < clis.length := by omega
      simp -dsimp [S, Tt, hL0, hL1, hL2, a1, a1', a2, a2', a3, a3']
      exact hq ⟨rfl, fr _⟩
    have a3' : ¬ 100 < clis.length := by omega
    have t1 : (mods.length : Int).tmod 10 = (mods.length : Int) % 10 := Int.tmod_eq_emod_of_nonneg (by omega)
    have w10 : IntKind.i64.wrap ((mods.length : Int) / 10) = (mods.length : Int) / 10 := wrap_i64 (by omega) (by omega)
    have t2 : ((mods.length : Int) / 10).tmod 10 = (mods.length : Int) / 10 % 10 := Int.tmod_eq_emod_of_nonneg (by omega)
    have w1 : IntKind.i64.wrap (48 + (mods.length : Int) / 10 % 10) = 48 + (mods.length : Int) / 10 % 10 := wrap_i64 (by omega) (by omega)
    have w2 : IntKind.i64.wrap (48 + (mods.length : Int) % 10) = 48 + (mods.length : Int) % 10 := wrap_i64 (by omega) (by omega)
    have w3 : IntKind.i64.wrap (48 + (mods.length : Int)) = 48 + (mods.length : Int) := wrap_i64 (by omega) (by omega)
    have hlen : (pubL man mods clis).length = 3 + mods.length + clis.length := by simp [pubL]; omega
    have hes : ∀ dd : List UInt8, dd = Lib.decDigits mods.length → (List.take (3 + mods.length) ([S wPub] :: [S man] :: [S dd] :: ML) ++ CL) = (pubL man mods clis).map (fun s => [S s]) := fun dd h => by
      rw [List.take_of_length_le (by simp only [List.length_cons]; omega), ← hML, ← hCL, h]
      simp [pubL]
    have hdA : 9 < mods.length → mods.length ≤ 99 → [byt (48 + (mods.length : Int) / 10 % 10), byt (48 + (mods.length : Int) % 10)] = Lib.decDigits mods.length := fun h1 h2 => (dig2 h1 h2).symm
    have hdB : mods.length ≤ 9 → [byt (48 + (mods.length : Int))] = Lib.decDigits mods.length := fun h1 => (dig1n h1).symm
    have hFO : ∀ (m2 : Mem) (n2 : Nat), m2 (n + 1) = some ⟨1, (pubL man mods clis).map (fun s => [S s]), 2⟩ → ACalls Tryz.prog 6 [.own (n + 1) 2 0 (3 + mods.length + clis.length) 1] m2 n2 (fun d m' n' => d = .v (.bool (fits (pubL man mods clis))) ∧ m' = m2 ∧ n' = n2) := fun m2 n2 h => by
      have := refFitsO (pubL man mods clis) (n + 1) 2 m2 n2 h (by omega)
      rw [hlen] at this; exact this
    have hPO : fits (pubL man mods clis) = true → ∀ (m2 : Mem) (n2 : Nat), m2 (n + 1) = some ⟨1, (pubL man mods clis).map (fun s => [S s]), 2⟩ → ACalls Tryz.prog 7 [.own (n + 1) 2 0 (3 + mods.length + clis.length) 1] m2 n2 (fun d m' n' => d = S (putB (pubL man mods clis)) ∧ m' = m2 ∧ n' = n2) := fun hf m2 n2 h => by
      simp only [fits, Bool.and_eq_true, decide_eq_true_eq, List.all_eq_true] at hf
      have := refPutO (pubL man mods clis) hf.2 hf.1 (n + 1) 2 m2 n2 h
      rw [hlen] at this; exact this
    have hCmd := hCmd (by omega)
    have hFit := hFit (by omega)
    have hPub := hPub (by omega) (by omega)
    simp -dsimp [S, Tt, hL0, hL1, hL2, a1, a1', a2, a2', a3, a3']
    refine aCall_of (hCmd _ _) ?_
    rintro d m1 n1 ⟨rfl, rfl, rfl⟩
    cases hf : fits l with
    | true =>
      have e : putA l = .tup [.sl 1 ((putB l).map bEnc), .v .nilIface] := by simp [putA, hf]
      rw [e]
      simp -dsimp
      refine aCall_of (hFit _ _) ?_
      rintro d m1 n1 ⟨rfl, rfl, rfl⟩
      simp -dsimp [hf]
      refine vdraw_tree [0, 1, 3, 7, 15, 31, 63, 31, 159, 511, 1023, 2047, 4095, 8191, 16383, 32767, 65535, 65535, 262143, 524287, 1048575, 2097151, 4194303, 8388607, 16777215, 33554431] (.rd 0 (.rd 1 (.rd 2 (.rd 3 (.rd 4 (.rd 5 (.rd 6 (.rd 7 (.wr (.cons 8 (.rd 9 (.rd 10 (.rd 11 (.rd 12 (.rd 13 (.rd 14 (.rd 15 (.rd 16 (.rd 17 (.rd 18 (.rd 19 (.rd 20 (.rd 21 (.rd 22 (.rd 23 (.rd 24 (.rd 25 (.fin)))))))))))))))))) (.nil))))))))))) (by kernel_rfl) (by kernel_rfl) ?_
      simp -dsimp [hf, S]
      refine aCall_of (hPut hf _ _) ?_
      rintro d m1 n1 ⟨rfl, rfl, rfl⟩
      simp -dsimp [S]
      refine aCall_of (hPub _ _) ?_
      rintro d m1 n1 ⟨rfl, rfl, rfl⟩
      cases hf2 : fits (pubL man mods clis) with
      | true =>
        have e2 : putA (pubL man mods clis) = .tup [.sl 1 ((putB (pubL man mods clis)).map bEnc), .v .nilIface] := by simp [putA, hf2]
        rw [e2]
        have hm64 : 3 + mods.length + clis.length ≤ 64 := by rw [← hlen]; simp only [fits, Bool.and_eq_true, decide_eq_true_eq] at hf2; exact hf2.2
        have b2 : ¬ (99 : Int) < mods.length := by omega
        have b2' : ¬ 99 < mods.length := by omega
        by_cases b1 : (9 : Int) < mods.length
        · have b1' : 9 < mods.length := by omega
          simp -dsimp [S, Tt, hL0, hL1, hL2, b1, b1', t1, t2, w10, w1, w2, w3, set_ne, q01, q02, q03, q04, q10, q12, q13, q14, q20, q21, q23, q24, q30, q31, q32, q34, q40, q41, q42, q43]
          refine vdraw_tree [0, 0, 2, 7, 0, 16, 63, 127] (.rd 0 (.rd 1 (.rd 2 (.rd 4 (.rd 5 (.wr (.cons 3 (.wr (.cons 6 (.rd 7 (.fin)) (.nil))) (.nil)))))))) (by kernel_rfl) (by kernel_rfl) ?_
          simp -dsimp [S, Tt, hL0, hL1, hL2, b1, b1', t1, t2, w10, w1, w2, w3, set_ne, q01, q02, q03, q04, q10, q12, q13, q14, q20, q21, q23, q24, q30, q31, q32, q34, q40, q41, q42, q43]
          refine ⟨by omega, ⟨by omega, by omega⟩, ?_⟩
          simp -dsimp [S, Tt, b2, b2']
          refine aCall_of (hFO _ _ ((set_same _ _ _).trans (by rw [← hes _ (hdA (by omega) (by omega))]; rfl))) ?_
          rintro d m2 n2 ⟨rfl, rfl, rfl⟩
          simp -dsimp [hf2, S, Tt, code]
          refine vdraw_tree [0, 1, 3, 7, 15, 31, 63, 127, 63, 319, 1023, 2047, 4095] (.rd 0 (.rd 1 (.rd 2 (.rd 3 (.rd 4 (.rd 5 (.rd 6 (.rd 7 (.rd 8 (.wr (.cons 9 (.rd 10 (.rd 11 (.rd 12 (.fin)))) (.nil)))))))))))) (by kernel_rfl) (by kernel_rfl) ?_
          simp -dsimp [hf2, S, Tt]
          refine aCall_of (hPO hf2 _ _ ((set_same _ _ _).trans (by rw [← hes _ (hdA (by omega) (by omega))]; rfl))) ?_
          rintro d m2 n2 ⟨rfl, rfl, rfl⟩
          simp -dsimp [S, Tt]
          exact hq ⟨rfl, fun j hj => by rw [set_ne _ _ _ _ (by omega), set_ne _ _ _ _ (by omega), set_ne _ _ _ _ (by omega), set_ne _ _ _ _ (by omega)]⟩
        · have b1' : ¬ 9 < mods.length := by omega
          simp -dsimp [S, Tt, hL0, hL1, hL2, b1, b1', t1, t2, w10, w1, w2, w3, set_ne, q01, q02, q03, q04, q10, q12, q13, q14, q20, q21, q23, q24, q30, q31, q32, q34, q40, q41, q42, q43]
          refine vdraw_tree [0, 0, 2, 7, 0, 16, 63, 127] (.rd 0 (.rd 1 (.rd 2 (.rd 4 (.rd 5 (.wr (.cons 3 (.wr (.cons 6 (.rd 7 (.fin)) (.nil))) (.nil)))))))) (by kernel_rfl) (by kernel_rfl) ?_
          simp -dsimp [S, Tt, hL0, hL1, hL2, b1, b1', t1, t2, w10, w1, w2, w3, set_ne, q01, q02, q03, q04, q10, q12, q13, q14, q20, q21, q23, q24, q30, q31, q32, q34, q40, q41, q42, q43]
          refine ⟨by omega, ⟨by omega, by omega⟩, ?_⟩
          simp -dsimp [S, Tt, b2, b2']
          refine aCall_of (hFO _ _ ((set_same _ _ _).trans (by rw [← hes _ (hdB (by omega))]; rfl))) ?_
          rintro d m2 n2 ⟨rfl, rfl, rfl⟩
          simp -dsimp [hf2, S, Tt, code]
          refine vdraw_tree [0, 1, 3, 7, 15, 31, 63, 127, 63, 319, 1023, 2047, 4095] (.rd 0 (.rd 1 (.rd 2 (.rd 3 (.rd 4 (.rd 5 (.rd 6 (.rd 7 (.rd 8 (.wr (.cons 9 (.rd 10 (.rd 11 (.rd 12 (.fin)))) (.nil)))))))))))) (by kernel_rfl) (by kernel_rfl) ?_
          simp -dsimp [hf2, S, Tt]
          refine aCall_of (hPO hf2 _ _ ((set_same _ _ _).trans (by rw [← hes _ (hdB (by omega))]; rfl))) ?_
          rintro d m2 n2 ⟨rfl, rfl, rfl⟩
          simp -dsimp [S, Tt]
          exact hq ⟨rfl, fun j hj => by rw [set_ne _ _ _ _ (by omega), set_ne _ _ _ _ (by omega), set_ne _ _ _ _ (by omega), set_ne _ _ _ _ (by omega)]⟩
      | false =>
        have e2 : putA (pubL man mods clis) = .tup [.sl 1 [], code 3] := by simp [putA, hf2]
        rw [e2]
        by_cases b1 : (9 : Int) < mods.length
        · have b1' : 9 < mods.length := by omega
          simp -dsimp [S, Tt, hL0, hL1, hL2, b1, b1', t1, t2, w10, w1, w2, w3, set_ne, q01, q02, q03, q04, q10, q12, q13, q14, q20, q21, q23, q24, q30, q31, q32, q34, q40, q41, q42, q43]
          refine vdraw_tree [0, 0, 2, 7, 0, 16, 63, 127] (.rd 0 (.rd 1 (.rd 2 (.rd 4 (.rd 5 (.wr (.cons 3 (.wr (.cons 6 (.rd 7 (.fin)) (.nil))) (.nil)))))))) (by kernel_rfl) (by kernel_rfl) ?_
          simp -dsimp [S, Tt, hL0, hL1, hL2, b1, b1', t1, t2, w10, w1, w2, w3, set_ne, q01, q02, q03, q04, q10, q12, q13, q14, q20, q21, q23, q24, q30, q31, q32, q34, q40, q41, q42, q43]
          refine ⟨by omega, ⟨by omega, by omega⟩, ?_⟩
          by_cases b2 : (99 : Int) < mods.length
          · have b2' : 99 < mods.length := by omega
            simp -dsimp [S, Tt, code, b2, b2']
            exact hq ⟨rfl, fun j hj => by rw [set_ne _ _ _ _ (by omega), set_ne _ _ _ _ (by omega), set_ne _ _ _ _ (by omega), set_ne _ _ _ _ (by omega)]⟩
          · have b2' : ¬ 99 < mods.length := by omega
            simp -dsimp [S, Tt, b2, b2']
            refine aCall_of (hFO _ _ ((set_same _ _ _).trans (by rw [← hes _ (hdA (by omega) (by omega))]; rfl))) ?_
            rintro d m2 n2 ⟨rfl, rfl, rfl⟩
            simp -dsimp [hf2, S, Tt, code]
            exact hq ⟨rfl, fun j hj => by rw [set_ne _ _ _ _ (by omega), set_ne _ _ _ _ (by omega), set_ne _ _ _ _ (by omega), set_ne _ _ _ _ (by omega)]⟩
        · have b1' : ¬ 9 < mods.length := by omega
          have b2 : ¬ (99 : Int) < mods.length := by omega
          have b2' : ¬ 99 < mods.length := by omega
          simp -dsimp [S, Tt, hL0, hL1, hL2, b1, b1', t1, t2, w10, w1, w2, w3, set_ne, q01, q02, q03, q04, q10, q12, q13, q14, q20, q21, q23, q24, q30, q31, q32, q34, q40, q41, q42, q43]
          refine vdraw_tree [0, 0, 2, 7, 0, 16, 63, 127] (.rd 0 (.rd 1 (.rd 2 (.rd 4 (.rd 5 (.wr (.cons 3 (.wr (.cons 6 (.rd 7 (.fin)) (.nil))) (.nil)))))))) (by kernel_rfl) (by kernel_rfl) ?_
          simp -dsimp [S, Tt, hL0, hL1, hL2, b1, b1', t1, t2, w10, w1, w2, w3, set_ne, q01, q02, q03, q04, q10, q12, q13, q14, q20, q21, q23, q24, q30, q31, q32, q34, q40, q41, q42, q43]
          refine ⟨by omega, ⟨by omega, by omega⟩, ?_⟩
          simp -dsimp [S, Tt, b2, b2']
          refine aCall_of (hFO _ _ ((set_same _ _ _).trans (by rw [← hes _ (hdB (by omega))]; rfl))) ?_
          rintro d m2 n2 ⟨rfl, rfl, rfl⟩
          simp -dsimp [hf2, S, Tt, code]
          exact hq ⟨rfl, fun j hj => by rw [set_ne _ _ _ _ (by omega), set_ne _ _ _ _ (by omega), set_ne _ _ _ _ (by omega), set_ne _ _ _ _ (by omega)]⟩
    | false =>
      have e : putA l = .tup [.sl 1 [], code 3] := by simp [putA, hf]
      rw [e]
      simp -dsimp [code]
      refine aCall_of (hFit _ _) ?_
      rintro d m1 n1 ⟨rfl, rfl, rfl⟩
      simp -dsimp [hf]
      refine vdraw_tree [0, 1, 3, 7, 15, 31, 63, 31, 159, 511, 1023, 2047, 4095, 8191, 16383, 32767, 65535, 65535, 262143, 524287, 1048575, 2097151, 4194303, 8388607, 16777215, 33554431] (.rd 0 (.rd 1 (.rd 2 (.rd 3 (.rd 4 (.rd 5 (.rd 6 (.rd 7 (.wr (.cons 8 (.rd 9 (.rd 10 (.rd 11 (.rd 12 (.rd 13 (.rd 14 (.rd 15 (.rd 16 (.rd 17 (.rd 18 (.rd 19 (.rd 20 (.rd 21 (.rd 22 (.rd 23 (.rd 24 (.rd 25 (.fin)))))))))))))))))) (.nil))))))))))) (by kernel_rfl) (by kernel_rfl) ?_
      simp -dsimp [hf, S]
      refine aCall_of (hPub _ _) ?_
      rintro d m1 n1 ⟨rfl, rfl, rfl⟩
      cases hf2 : fits (pubL man mods clis) with
      | true =>
        have e2 : putA (pubL man mods clis) = .tup [.sl 1 ((putB (pubL man mods clis)).map bEnc), .v .nilIface] := by simp [putA, hf2]
        rw [e2]
        have hm64 : 3 + mods.length + clis.length ≤ 64 := by rw [← hlen]; simp only [fits, Bool.and_eq_true, decide_eq_true_eq] at hf2; exact hf2.2
        have b2 : ¬ (99 : Int) < mods.length := by omega
        have b2' : ¬ 99 < mods.length := by omega
        by_cases b1 : (9 : Int) < mods.length
        · have b1' : 9 < mods.length := by omega
          simp -dsimp [S, Tt, hL0, hL1, hL2, b1, b1', t1, t2, w10, w1, w2, w3, set_ne, q01, q02, q03, q04, q10, q12, q13, q14, q20, q21, q23, q24, q30, q31, q32, q34, q40, q41, q42, q43]
          refine vdraw_tree [0, 0, 2, 7, 0, 16, 63, 127] (.rd 0 (.rd 1 (.rd 2 (.rd 4 (.rd 5 (.wr (.cons 3 (.wr (.cons 6 (.rd 7 (.fin)) (.nil))) (.nil)))))))) (by kernel_rfl) (by kernel_rfl) ?_
          simp -dsimp [S, Tt, hL0, hL1, hL2, b1, b1', t1, t2, w10, w1, w2, w3, set_ne, q01, q02, q03, q04, q10, q12, q13, q14, q20, q21, q23, q24, q30, q31, q32, q34, q40, q41, q42, q43]
          refine ⟨by omega, ⟨by omega, by omega⟩, ?_⟩
          simp -dsimp [S, Tt, b2, b2']
          refine aCall_of (hFO _ _ ((set_same _ _ _).trans (by rw [← hes _ (hdA (by omega) (by omega))]; rfl))) ?_
          rintro d m2 n2 ⟨rfl, rfl, rfl⟩
          simp -dsimp [hf2, S, Tt, code]
          refine vdraw_tree [0, 1, 3, 7, 15, 31, 63, 127, 63, 319, 1023, 2047, 4095] (.rd 0 (.rd 1 (.rd 2 (.rd 3 (.rd 4 (.rd 5 (.rd 6 (.rd 7 (.rd 8 (.wr (.cons 9 (.rd 10 (.rd 11 (.rd 12 (.fin)))) (.nil)))))))))))) (by kernel_rfl) (by kernel_rfl) ?_
          simp -dsimp [hf2, S, Tt]
          refine aCall_of (hPO hf2 _ _ ((set_same _ _ _).trans (by rw [← hes _ (hdA (by omega) (by omega))]; rfl))) ?_
          rintro d m2 n2 ⟨rfl, rfl, rfl⟩
          simp -dsimp [S, Tt]
          exact hq ⟨rfl, fun j hj => by rw [set_ne _ _ _ _ (by omega), set_ne _ _ _ _ (by omega), set_ne _ _ _ _ (by omega), set_ne _ _ _ _ (by omega)]⟩
        · have b1' : ¬ 9 < mods.length := by omega
          simp -dsimp [S, Tt, hL0, hL1, hL2, b1, b1', t1, t2, w10, w1, w2, w3, set_ne, q01, q02, q03, q04, q10, q12, q13, q14, q20, q21, q23, q24, q30, q31, q32, q34, q40, q41, q42, q43]
          refine vdraw_tree [0, 0, 2, 7, 0, 16, 63, 127] (.rd 0 (.rd 1 (.rd 2 (.rd 4 (.rd 5 (.wr (.cons 3 (.wr (.cons 6 (.rd 7 (.fin)) (.nil))) (.nil)))))))) (by kernel_rfl) (by kernel_rfl) ?_
          simp -dsimp [S, Tt, hL0, hL1, hL2, b1, b1', t1, t2, w10, w1, w2, w3, set_ne, q01, q02, q03, q04, q10, q12, q13, q14, q20, q21, q23, q24, q30, q31, q32, q34, q40, q41, q42, q43]
          refine ⟨by omega, ⟨by omega, by omega⟩, ?_⟩
          simp -dsimp [S, Tt, b2, b2']
          refine aCall_of (hFO _ _ ((set_same _ _ _).trans (by rw [← hes _ (hdB (by omega))]; rfl))) ?_
          rintro d m2 n2 ⟨rfl, rfl, rfl⟩
          simp -dsimp [hf2, S, Tt, code]
          refine vdraw_tree [0, 1, 3, 7, 15, 31, 63, 127, 63, 319, 1023, 2047, 4095] (.rd 0 (.rd 1 (.rd 2 (.rd 3 (.rd 4 (.rd 5 (.rd 6 (.rd 7 (.rd 8 (.wr (.cons 9 (.rd 10 (.rd 11 (.rd 12 (.fin)))) (.nil)))))))))))) (by kernel_rfl) (by kernel_rfl) ?_
          simp -dsimp [hf2, S, Tt]
          refine aCall_of (hPO hf2 _ _ ((set_same _ _ _).trans (by rw [← hes _ (hdB (by omega))]; rfl))) ?_
          rintro d m2 n2 ⟨rfl, rfl, rfl⟩
          simp -dsimp [S, Tt]
          exact hq ⟨rfl, fun j hj => by rw [set_ne _ _ _ _ (by omega), set_ne _ _ _ _ (by omega), set_ne _ _ _ _ (by omega), set_ne _ _ _ _ (by omega)]⟩
      | false =>
        have e2 : putA (pubL man mods clis) = .tup [.sl 1 [], code 3] := by simp [putA, hf2]
        rw [e2]
        by_cases b1 : (9 : Int) < mods.length
        · have b1' : 9 < mods.length := by omega
          simp -dsimp [S, Tt, hL0, hL1, hL2, b1, b1', t1, t2, w10, w1, w2, w3, set_ne, q01, q02, q03, q04, q10, q12, q13, q14, q20, q21, q23, q24, q30, q31, q32, q34, q40, q41, q42, q43]
          refine vdraw_tree [0, 0, 2, 7, 0, 16, 63, 127] (.rd 0 (.rd 1 (.rd 2 (.rd 4 (.rd 5 (.wr (.cons 3 (.wr (.cons 6 (.rd 7 (.fin)) (.nil))) (.nil)))))))) (by kernel_rfl) (by kernel_rfl) ?_
          simp -dsimp [S, Tt, hL0, hL1, hL2, b1, b1', t1, t2, w10, w1, w2, w3, set_ne, q01, q02, q03, q04, q10, q12, q13, q14, q20, q21, q23, q24, q30, q31, q32, q34, q40, q41, q42, q43]
          refine ⟨by omega, ⟨by omega, by omega⟩, ?_⟩
          by_cases b2 : (99 : Int) < mods.length
          · have b2' : 99 < mods.length := by omega
            simp -dsimp [S, Tt, code, b2, b2']
            exact hq ⟨rfl, fun j hj => by rw [set_ne _ _ _ _ (by omega), set_ne _ _ _ _ (by omega), set_ne _ _ _ _ (by omega), set_ne _ _ _ _ (by omega)]⟩
          · have b2' : ¬ 99 < mods.length := by omega
            simp -dsimp [S, Tt, b2, b2']
            refine aCall_of (hFO _ _ ((set_same _ _ _).trans (by rw [← hes _ (hdA (by omega) (by omega))]; rfl))) ?_
            rintro d m2 n2 ⟨rfl, rfl, rfl⟩
            simp -dsimp [hf2, S, Tt, code]
            exact hq ⟨rfl, fun j hj => by rw [set_ne _ _ _ _ (by omega), set_ne _ _ _ _ (by omega), set_ne _ _ _ _ (by omega), set_ne _ _ _ _ (by omega)]⟩
        · have b1' : ¬ 9 < mods.length := by omega
          have b2 : ¬ (99 : Int) < mods.length := by omega
          have b2' : ¬ 99 < mods.length := by omega
          simp -dsimp [S, Tt, hL0, hL1, hL2, b1, b1', t1, t2, w10, w1, w2, w3, set_ne, q01, q02, q03, q04, q10, q12, q13, q14, q20, q21, q23, q24, q30, q31, q32, q34, q40, q41, q42, q43]
          refine vdraw_tree [0, 0, 2, 7, 0, 16, 63, 127] (.rd 0 (.rd 1 (.rd 2 (.rd 4 (.rd 5 (.wr (.cons 3 (.wr (.cons 6 (.rd 7 (.fin)) (.nil))) (.nil)))))))) (by kernel_rfl) (by kernel_rfl) ?_
          simp -dsimp [S, Tt, hL0, hL1, hL2, b1, b1', t1, t2, w10, w1, w2, w3, set_ne, q01, q02, q03, q04, q10, q12, q13, q14, q20, q21, q23, q24, q30, q31, q32, q34, q40, q41, q42, q43]
          refine ⟨by omega, ⟨by omega, by omega⟩, ?_⟩
          simp -dsimp [S, Tt, b2, b2']
          refine aCall_of (hFO _ _ ((set_same _ _ _).trans (by rw [← hes _ (hdB (by omega))]; rfl))) ?_
          rintro d m2 n2 ⟨rfl, rfl, rfl⟩
          simp -dsimp [hf2, S, Tt, code]
          exact hq ⟨rfl, fun j hj => by rw [set_ne _ _ _ _ (by omega), set_ne _ _ _ _ (by omega), set_ne _ _ _ _ (by omega), set_ne _ _ _ _ (by omega)]⟩
  · rintro d m' n' ⟨rfl, h⟩
    exact ⟨_, (pur_T _).pub, h, rfl⟩
end Go.Proofs.Mv.App
