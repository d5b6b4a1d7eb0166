/- A part of the proofs: machine, contracts, laws. No condition of its own. -/
import Derived.Test.YtndinledjelleaaGreatDoorP21
import Derived.Test.YtndinledjelleaaGreatDoorMvLb
set_option linter.unusedSimpArgs false
set_option linter.unusedVariables false
set_option linter.unusedSectionVars false
namespace Go.Proofs.Mv.App
open Go.RowKit Go.Shelf Go Go.Proofs Go.Proofs.Mv.V
attribute [local go_sem] Oper.semAt_some
set_option maxHeartbeats 1000000 in
theorem inAt_in (n : Nat) (N : Int) (c : Value) (w : World) :
  CallsIn Fence.wide n Tryz.prog 126 #[.int .i64 N, .iface 47 (.int .i64 4)] w fun e w' => e = .returned (.iface 77 (.pointer (some ⟨w.heap.size, 0, none⟩))) ∧ w' = w.alloc (.cells #[.int .i64 N, .iface 47 (.int .i64 4)] 82) := by
 refine callsIn_of_wp Tryz.func126 rfl trivial ?_ rfl
 simp only [Tryz.ntmps126, List.size_toArray, List.length_cons, List.length_nil, Nat.reduceAdd, Nat.reduceSub, Array.replicate_succ, Array.replicate_zero, List.push_toArray, List.append_toArray, List.nil_append, List.cons_append]
 gi_wp2
 go_ret
 exact ⟨rfl, rfl⟩
set_option maxHeartbeats 1000000 in
theorem back_in (n : Nat) (a : Option Addr) (L cap : Nat) (w : World) :
  CallsIn Fence.wide n Tryz.prog 125 #[.slice a L cap] w fun e w' => e = .returned (.func (.func 194) #[] #[.pointer (some ⟨w.heap.size, 0, none⟩)]) ∧ w' = w.alloc (.cells #[.slice a L cap] 24) := by
 refine callsIn_of_wp Tryz.func125 rfl trivial ?_ rfl
 simp only [Tryz.ntmps125, List.size_toArray, List.length_cons, List.length_nil, Nat.reduceAdd, Nat.reduceSub, Array.replicate_succ, Array.replicate_zero, List.push_toArray, List.append_toArray, List.nil_append, List.cons_append]
 gi_wp2
 go_ret
 exact ⟨rfl, rfl⟩
def Held (W : World) (B : Nat) (t : TypeId) (c : Array Value) : Prop := W.heap[B]? = some (.cells c t (0, 0))
theorem Held.lt {W : World} {B : Nat} {t : TypeId} {c : Array Value} (h : Held W B t c) : B < W.heap.size := (Array.getElem?_eq_some_iff.1 h).1
theorem Held.alloc {W : World} {B : Nat} {t : TypeId} {c : Array Value} (h : Held W B t c) (o : Obj) : Held (W.alloc o) B t c := (World.grownBy_alloc W o none).block B h.lt (by simp) |>.trans h
theorem held_own {β : Type} (B : Nat) (t : TypeId) (f : β → Array Value) : Own (fun s W => Held W B t (f s)) := fun s X Y row hs hg hrow =>
 (hg.block B (Held.lt hs) (fun e' => by obtain ⟨o, ho, hc⟩ := hrow B e'.symm; rw [show X.heap[B]? = _ from hs] at ho; cases ho; cases hc)).trans hs
theorem Held.at {W : World} {B : Nat} {t : TypeId} {c : Array Value} (h : Held W B t c) (i : Nat) : W.cell? ⟨B, i, none⟩ = c[i]? := by simp [World.cell?, show W.heap[B]? = _ from h]
theorem Held.fr {W : World} {B : Nat} {t : TypeId} {c : Array Value} (h : Held W B t c) (i : Nat) : W.frozen? ⟨B, i, none⟩ = false := by simp [World.frozen?, show W.heap[B]? = _ from h]
theorem Held.new (W : World) (t : TypeId) (c : Array Value) : Held (W.alloc (.cells c t)) W.heap.size t c := World.alloc_heap_new W _
theorem Held.set {W : World} {B : Nat} {t : TypeId} {c : Array Value} (h : Held W B t c) (i : Nat) (v : Value) : Held (W.setCell ⟨B, i, none⟩ v) B t (c.setIfInBounds i v) := by
 obtain ⟨hlt, hk⟩ := Array.getElem?_eq_some_iff.1 h
 show (W.heap.modify B _)[B]? = _
 rw [Array.getElem?_eq_getElem (by rw [Array.size_modify]; exact hlt), Array.getElem_modify_self, hk]
 rfl
theorem Held.other {W : World} {B B' : Nat} {t : TypeId} {c : Array Value} (h : Held W B t c) (hne : B ≠ B') (i : Nat) (v : Value) : Held (W.setCell ⟨B', i, none⟩ v) B t c :=
 (Below.heap_setCell _ _ _ B (fun e => hne (by rw [e]))).trans h
theorem hs_ne (W : World) (B i : Nat) (v : Value) (k : Nat) (h : k ≠ B) : (W.setCell ⟨B, i, none⟩ v).heap[k]? = W.heap[k]? := Below.heap_setCell _ _ _ k (fun e => h (by rw [e]))
def NV.tc (e : NV) : Array Value := #[.int .i64 e.k, .string e.p, .int .i64 e.mj, .string e.md, .string e.tn, .slice e.a5 e.n5 e.c5, .slice e.a6 e.n6 e.c6]
def NV.cs (e : NV) : Array Value := #[.string e.nm, .int .i64 e.k, .string e.p, .int .i64 e.mj, .string e.md, .string e.tn, .slice e.a5 e.n5 e.c5, .slice e.a6 e.n6 e.c6]
def lstN (L : Nat) (pre : List (Fin L)) : Nat := match pre.getLast? with
 | some x => L - 1 - x.1
 | none => 0
theorem lstN_snoc (L : Nat) (p : List (Fin L)) (x : Fin L) : lstN L (p ++ [x]) = L - 1 - x.1 := by simp [lstN]
def zTy : Array Value := #[.int .i64 0, .string (ofL []), .int .i64 0, .string (ofL []), .string (ofL []), .slice none 0 0, .slice none 0 0]
set_option maxHeartbeats 1000000 in
theorem res_var {tmps : Array Value} {W : World} {b : Nat} {k mj : Int} {p md tn : ByteArray} {a5 a6 : Option Addr} {n5 c5 n6 c6 : Nat} {v : Value} (h6 : tmps.getD 6 undef = .pointer (some ⟨b + 1, 0, none⟩)) (h7 : tmps.getD 7 undef = .pointer (some ⟨b + 1 + 1, 0, none⟩))
  (H6 : Held W (b + 1) 33 #[.int .i64 k, .string p, .int .i64 mj, .string md, .string tn, .slice a5 n5 c5, .slice a6 n6 c6]) (H7 : Held W (b + 1 + 1) 35 #[v]) :
  (results Tryz.f74 tmps).run Tryz.prog W = .ok (.tuple #[.agg #[.int .i64 k, .string p, .int .i64 mj, .string md, .string tn, .slice a5 n5 c5, .slice a6 n6 c6], v]) W := by
 have g0 : W.cell? ⟨b + 1, 0, none⟩ = some (.int .i64 k) := by rw [H6.at]; rfl
 have g1 : W.cell? ⟨b + 1, 1, none⟩ = some (.string p) := by rw [H6.at]; rfl
 have g2 : W.cell? ⟨b + 1, 2, none⟩ = some (.int .i64 mj) := by rw [H6.at]; rfl
 have g3 : W.cell? ⟨b + 1, 3, none⟩ = some (.string md) := by rw [H6.at]; rfl
 have g4 : W.cell? ⟨b + 1, 4, none⟩ = some (.string tn) := by rw [H6.at]; rfl
 have g5 : W.cell? ⟨b + 1, 5, none⟩ = some (.slice a5 n5 c5) := by rw [H6.at]; rfl
 have g6 : W.cell? ⟨b + 1, 6, none⟩ = some (.slice a6 n6 c6) := by rw [H6.at]; rfl
 have g7 : W.cell? ⟨b + 1 + 1, 0, none⟩ = some v := by rw [H7.at]; rfl
 have hr : Tryz.f74.results = #[.cell 6 33, .cell 7 35] := rfl
 have h6' : tmps[6]?.getD undef = .pointer (some ⟨b + 1, 0, none⟩) := by rw [← h6]; simp
 have h7' : tmps[7]?.getD undef = .pointer (some ⟨b + 1 + 1, 0, none⟩) := by rw [← h7]; simp
 simp only [results, hr]
 simp [asAddr]
 go_simp
set_option maxRecDepth 100000 in
set_option maxHeartbeats 4000000 in
theorem var_calls (L : Nat) (hL : L ≤ 1000000) (a : Option Addr) (cap : Nat) (e : Nat → NV) (s : ByteArray) (N : Int) (w : World)
  (hc : 0 < L → L ≤ cap ∧ ∃ b off, a = some ⟨b, off, none⟩ ∧ b < w.heap.size ∧ ∀ k, k < L → (e k).At w b (off + k * 8)) :
  CallsIn Fence.wide 2 Tryz.prog 74 #[.slice a L cap, .string s, .int .i64 N] w fun r w' => RowKit.Below w.heap.size w w' ∧
   ((∃ j, j < L ∧ (e j).nm.toList = s.toList ∧ (∀ i, j < i → i < L → (e i).nm.toList ≠ s.toList) ∧ r = .returned (.tuple #[(e j).ty, .nilIface])) ∨
    ((∀ i, i < L → (e i).nm.toList ≠ s.toList) ∧ ∃ b, w.heap.size ≤ b ∧ r = .returned (.tuple #[.agg zTy, .iface 77 (.pointer (some ⟨b, 0, none⟩))]) ∧ w'.cell? ⟨b, 0, none⟩ = some (.int .i64 N) ∧ w'.cell? ⟨b, 1, none⟩ = some (.iface 47 (.int .i64 4)))) := by
 refine callsIn_of_wp_marks Tryz.func74 rfl trivial ?_ rfl
 simp only [Tryz.ntmps74, List.size_toArray, List.length_cons, List.length_nil, Nat.reduceAdd, Nat.reduceSub, Array.replicate_succ, Array.replicate_zero, List.push_toArray, List.append_toArray, List.nil_append, List.cons_append]
 gi_wp2
 refine ⟨trivial, (back_in _ _ _ _ _).mono ?_⟩
 rintro e' w' ⟨rfl, rfl⟩
 gi_wp2
 have bA := Held.new (((w.alloc (.cells #[.string s] 9)).alloc (.cells #[.int .i64 0, .string (ofL []), .int .i64 0, .string (ofL []), .string (ofL []), .slice none 0 0, .slice none 0 0] 33)).alloc (.cells #[.nilIface] 35)) 24 #[.slice a L cap]
 have b7 := (Held.new ((w.alloc (.cells #[.string s] 9)).alloc (.cells #[.int .i64 0, .string (ofL []), .int .i64 0, .string (ofL []), .string (ofL []), .slice none 0 0, .slice none 0 0] 33)) 35 #[.nilIface]).alloc (.cells #[.slice a L cap] 24)
 have b6 := ((Held.new (w.alloc (.cells #[.string s] 9)) 33 #[.int .i64 0, .string (ofL []), .int .i64 0, .string (ofL []), .string (ofL []), .slice none 0 0, .slice none 0 0]).alloc (.cells #[.nilIface] 35)).alloc (.cells #[.slice a L cap] 24)
 have b4 := (((Held.new w 9 #[.string s]).alloc (.cells #[.int .i64 0, .string (ofL []), .int .i64 0, .string (ofL []), .string (ofL []), .slice none 0 0, .slice none 0 0] 33)).alloc (.cells #[.nilIface] 35)).alloc (.cells #[.slice a L cap] 24)
 simp only [World.size_alloc] at bA b7 b6
 have hB0 : RowKit.Below w.heap.size w ((((w.alloc (.cells #[.string s] 9)).alloc (.cells #[.int .i64 0, .string (ofL []), .int .i64 0, .string (ofL []), .string (ofL []), .slice none 0 0, .slice none 0 0] 33)).alloc (.cells #[.nilIface] 35)).alloc (.cells #[.slice a L cap] 24)) :=
  ((((Below.refl _ w).alloc (Nat.le_refl _) _).alloc (by simp) _).alloc (by simp; omega) _).alloc (by simp; omega) _
 have hsz : ((((w.alloc (.cells #[.string s] 9)).alloc (.cells #[.int .i64 0, .string (ofL []), .int .i64 0, .string (ofL []), .string (ofL []), .slice none 0 0, .slice none 0 0] 33)).alloc (.cells #[.nilIface] 35)).alloc (.cells #[.slice a L cap] 24)).heap.size = w.heap.size + 4 := by simp
 generalize ((((w.alloc (.cells #[.string s] 9)).alloc (.cells #[.int .i64 0, .string (ofL []), .int .i64 0, .string (ofL []), .string (ofL []), .slice none 0 0, .slice none 0 0] 33)).alloc (.cells #[.nilIface] 35)).alloc (.cells #[.slice a L cap] 24)) = W0 at bA b7 b6 b4 hB0 hsz ⊢
 refine wpIn_rangeFunc_ownH rfl (by decide) (gf := 194) (lb := #[.pointer (some ⟨w.heap.size + 1 + 1 + 1, 0, none⟩)]) rfl trivial (enters_of Tryz.func194 (by kernel_rfl) rfl)
  (back_stops L hL (w.heap.size + 1 + 1 + 1) a cap e w.heap.size W0 (by omega) (by omega) (by omega) (by rw [bA.at]; rfl) (fun h => by
   obtain ⟨q1, b, off, q2, q3, q4⟩ := hc h
   exact ⟨q1, b, off, q2, q3, fun k hk => (q4 k hk).kept (hB0.block b q3)⟩)) (fun h k x hx => (k x hx).trans (h x hx)) (fun W l o o' hl _ _ _ x hx => World.putObj_heap_other (fun e => by rcases hx with hx | hx <;> omega)) (Below.refl _ _) (fun _ => rfl)
  (fun pre W => ((((Held W w.heap.size 9 #[.string s] ∧ Held W (w.heap.size + 1) 33 zTy) ∧ Held W (w.heap.size + 1 + 1) 35 #[.nilIface]) ∧ Held W (w.heap.size + 1 + 1 + 1) 24 #[.slice a L cap]) ∧ RowKit.Below w.heap.size w W) ∧ ∀ y ∈ pre, (e (L - 1 - y.1)).nm.toList ≠ s.toList)
  (fun c pre W => ((Held W (w.heap.size + 1) 33 (e (lstN L pre)).tc ∧ Held W (w.heap.size + 1 + 1) 35 #[.nilIface]) ∧ RowKit.Below w.heap.size w W) ∧ (c = .ret ∧ ∃ p x, pre = p ++ [x] ∧ (∀ y ∈ p, (e (L - 1 - y.1)).nm.toList ≠ s.toList) ∧ (e (L - 1 - x.1)).nm.toList = s.toList))
  (OwnFrom.and (OwnFrom.and (OwnFrom.and (OwnFrom.and (OwnFrom.and (Own.from (held_own _ _ _) _) (Own.from (held_own _ _ _) _)) (Own.from (held_own _ _ _) _)) (Own.from (held_own _ _ _) _)) (ownFrom_below (Nat.le_refl _) (by omega))) (ownFrom_pure _ _))
  (fun c => OwnFrom.and (OwnFrom.and (OwnFrom.and (Own.from (held_own _ _ (fun pre => (e (lstN L pre)).tc)) _) (Own.from (held_own _ _ _) _)) (ownFrom_below (Nat.le_refl _) (by omega))) (ownFrom_pure _ _))
  ⟨⟨⟨⟨⟨b4, b6⟩, b7⟩, bA⟩, hB0⟩, fun y hy => by simp at hy⟩
  (fun x a' W => ∃ Bx, w.heap.size + 1 + 1 + 1 < Bx ∧ Held W Bx 41 (e (L - 1 - x.1)).cs ∧ a' = { tmps := #[.slice a L cap, .string s, .int .i64 N, undef, .pointer (some ⟨w.heap.size, 0, none⟩), undef, .pointer (some ⟨w.heap.size + 1, 0, none⟩), .pointer (some ⟨w.heap.size + 1 + 1, 0, none⟩), undef, .pointer (some ⟨Bx, 0, none⟩), .slice a L cap,
   .func (.func 194) #[] #[.pointer (some ⟨w.heap.size + 1 + 1 + 1, 0, none⟩)], .int .i64 ((L - 1 - x.1 : Nat) : Int), .agg (e (L - 1 - x.1)).cs, undef, undef, undef, undef, undef, undef, undef, undef, undef, undef], defers := [] })
  (fun x a' _ X Y row hs hg hr => by obtain ⟨Bx, h1, h2, h3⟩ := hs; exact ⟨Bx, h1, held_own Bx _ (fun (_ : Unit) => (e (L - 1 - x.1)).cs) () X Y row h2 hg (fun r e => (hr r e).2), h3⟩)
  ?assign ?body ?done ?stop
 case assign =>
  rintro l pre x W K hi hK
  obtain ⟨⟨⟨⟨⟨b4, b6⟩, b7⟩, bA⟩, hB⟩, hp⟩ := hi
  have hlt := bA.lt
  gi_wp2
  refine hK _ _ ((KeepsOthers.alloc _ _).from _) (fun k hk => Below.heap_alloc W _ k (by omega)) ⟨⟨⟨⟨⟨b4.alloc _, b6.alloc _⟩, b7.alloc _⟩, bA.alloc _⟩, hB.alloc hB.size _⟩, hp⟩ ⟨W.heap.size, hlt, Held.new W _ _, rfl⟩
 case body =>
  rintro l pre x a' W hl _ ⟨⟨⟨⟨⟨b4, b6⟩, b7⟩, bA⟩, hB⟩, hp⟩ ⟨Bx, hBx, bX, rfl⟩ hlt
  generalize hv : e (L - 1 - x.1) = v at bX
  have g0 : W.cell? ⟨Bx, 0, none⟩ = some (.string v.nm) := by rw [bX.at]; rfl
  have g1 : W.cell? ⟨Bx, 1, none⟩ = some (.int .i64 v.k) := by rw [bX.at]; rfl
  have g2 : W.cell? ⟨Bx, 2, none⟩ = some (.string v.p) := by rw [bX.at]; rfl
  have g3 : W.cell? ⟨Bx, 3, none⟩ = some (.int .i64 v.mj) := by rw [bX.at]; rfl
  have g4 : W.cell? ⟨Bx, 4, none⟩ = some (.string v.md) := by rw [bX.at]; rfl
  have g5 : W.cell? ⟨Bx, 5, none⟩ = some (.string v.tn) := by rw [bX.at]; rfl
  have g6 : W.cell? ⟨Bx, 6, none⟩ = some (.slice v.a5 v.n5 v.c5) := by rw [bX.at]; rfl
  have g7 : W.cell? ⟨Bx, 7, none⟩ = some (.slice v.a6 v.n6 v.c6) := by rw [bX.at]; rfl
  have g8 : W.cell? ⟨w.heap.size, 0, none⟩ = some (.string s) := by rw [b4.at]; rfl
  by_cases hn : v.nm.toList = s.toList
  ·have f0 := b6.fr 0
   have f1 := b6.fr 1
   have f2 := b6.fr 2
   have f3 := b6.fr 3
   have f4 := b6.fr 4
   have f5 := b6.fr 5
   have f6 := b6.fr 6
   have k0 : W.cell? ⟨w.heap.size + 1, 0, none⟩ = some (.int .i64 0) := by rw [b6.at]; rfl
   have k1 : W.cell? ⟨w.heap.size + 1, 1, none⟩ = some (.string (ofL [])) := by rw [b6.at]; rfl
   have k2 : W.cell? ⟨w.heap.size + 1, 2, none⟩ = some (.int .i64 0) := by rw [b6.at]; rfl
   have k3 : W.cell? ⟨w.heap.size + 1, 3, none⟩ = some (.string (ofL [])) := by rw [b6.at]; rfl
   have k4 : W.cell? ⟨w.heap.size + 1, 4, none⟩ = some (.string (ofL [])) := by rw [b6.at]; rfl
   have k5 : W.cell? ⟨w.heap.size + 1, 5, none⟩ = some (.slice none 0 0) := by rw [b6.at]; rfl
   have k6 : W.cell? ⟨w.heap.size + 1, 6, none⟩ = some (.slice none 0 0) := by rw [b6.at]; rfl
   have m0 := b7.fr 0
   have m1 : W.cell? ⟨w.heap.size + 1 + 1, 0, none⟩ = some .nilIface := by rw [b7.at]; rfl
   have hn' : (v.nm.toList == s.toList) = true := by simpa using hn
   gi_wp2
   refine ⟨?_, ⟨⟨?_, ?_⟩, ?_⟩, rfl, pre, x, rfl, hp, by rw [hv]; exact hn⟩
   ·exact ((((((((KeepsOthers.setCell _ _ _).trans (KeepsOthers.setCell _ _ _)).trans (KeepsOthers.setCell _ _ _)).trans (KeepsOthers.setCell _ _ _)).trans (KeepsOthers.setCell _ _ _)).trans (KeepsOthers.setCell _ _ _)).trans (KeepsOthers.setCell _ _ _)).trans (KeepsOthers.setCell _ _ _)).from _
   ·rw [lstN_snoc, hv]
    exact ((((((((b6.set 0 (.int .i64 v.k)).set 1 (.string v.p)).set 2 (.int .i64 v.mj)).set 3 (.string v.md)).set 4 (.string v.tn)).set 5 (.slice v.a5 v.n5 v.c5)).set 6 (.slice v.a6 v.n6 v.c6)).other (by omega) 0 .nilIface)
   ·exact (((((((b7.other (by omega) 0 (.int .i64 v.k)).other (by omega) 1 (.string v.p)).other (by omega) 2 (.int .i64 v.mj)).other (by omega) 3 (.string v.md)).other (by omega) 4 (.string v.tn)).other (by omega) 5 (.slice v.a5 v.n5 v.c5)).other (by omega) 6 (.slice v.a6 v.n6 v.c6)).set 0 .nilIface
   ·exact (((((((hB.setCell (p := ⟨w.heap.size + 1, 0, none⟩) (by simp) _).setCell (p := ⟨w.heap.size + 1, 1, none⟩) (by simp) _).setCell (p := ⟨w.heap.size + 1, 2, none⟩) (by simp) _).setCell (p := ⟨w.heap.size + 1, 3, none⟩) (by simp) _).setCell (p := ⟨w.heap.size + 1, 4, none⟩) (by simp) _).setCell (p := ⟨w.heap.size + 1, 5, none⟩) (by simp) _).setCell (p := ⟨w.heap.size + 1, 6, none⟩) (by simp) _).setCell (p := ⟨w.heap.size + 1 + 1, 0, none⟩) (by simp; omega) _
  ·have hn' : (v.nm.toList == s.toList) = false := by simpa using hn
   gi_wp2
   refine ⟨KeepsFrom.refl _ _, fun k hk => rfl, ⟨⟨⟨⟨b4, b6⟩, b7⟩, bA⟩, hB⟩, fun y hy => ?_⟩
   rcases List.mem_append.1 hy with hy | hy
   ·exact hp y hy
   ·rw [List.mem_singleton] at hy
    subst hy
    rw [hv]; exact hn
 case done =>
  rintro D xs W hD rfl ⟨⟨⟨⟨⟨b4, b6⟩, b7⟩, bA⟩, hB⟩, hp⟩ hK
  gi_wp2
  refine ⟨trivial, (inAt_in _ _ .nilIface _).mono ?_⟩
  rintro e' w' ⟨rfl, rfl⟩
  have bS := Held.new W 82 #[.int .i64 N, .iface 47 (.int .i64 4)]
  have hDlt : D < W.heap.size := (Array.getElem?_eq_some_iff.1 hK).1
  have hK := (Below.heap_alloc W (.cells #[.int .i64 N, .iface 47 (.int .i64 4)] 82) D hDlt).trans hK
  have b6 := b6.alloc (.cells #[.int .i64 N, .iface 47 (.int .i64 4)] 82)
  have b7 := b7.alloc (.cells #[.int .i64 N, .iface 47 (.int .i64 4)] 82)
  have hWs := bA.lt
  have hB := hB.alloc hB.size (.cells #[.int .i64 N, .iface 47 (.int .i64 4)] 82)
  generalize W.alloc (.cells #[.int .i64 N, .iface 47 (.int .i64 4)] 82) = W1 at hK b6 b7 bS hB ⊢
  have f0 := b6.fr 0
  have f1 := b6.fr 1
  have f2 := b6.fr 2
  have f3 := b6.fr 3
  have f4 := b6.fr 4
  have f5 := b6.fr 5
  have f6 := b6.fr 6
  have k0 : W1.cell? ⟨w.heap.size + 1, 0, none⟩ = some (.int .i64 0) := by rw [b6.at]; rfl
  have k1 : W1.cell? ⟨w.heap.size + 1, 1, none⟩ = some (.string (ofL [])) := by rw [b6.at]; rfl
  have k2 : W1.cell? ⟨w.heap.size + 1, 2, none⟩ = some (.int .i64 0) := by rw [b6.at]; rfl
  have k3 : W1.cell? ⟨w.heap.size + 1, 3, none⟩ = some (.string (ofL [])) := by rw [b6.at]; rfl
  have k4 : W1.cell? ⟨w.heap.size + 1, 4, none⟩ = some (.string (ofL [])) := by rw [b6.at]; rfl
  have k5 : W1.cell? ⟨w.heap.size + 1, 5, none⟩ = some (.slice none 0 0) := by rw [b6.at]; rfl
  have k6 : W1.cell? ⟨w.heap.size + 1, 6, none⟩ = some (.slice none 0 0) := by rw [b6.at]; rfl
  have m0 := b7.fr 0
  have m1 : W1.cell? ⟨w.heap.size + 1 + 1, 0, none⟩ = some .nilIface := by rw [b7.at]; rfl
  gi_wp2
  have H6 := ((((((((b6.set 0 (.int .i64 0)).set 1 (.string (ofL []))).set 2 (.int .i64 0)).set 3 (.string (ofL []))).set 4 (.string (ofL []))).set 5 (.slice none 0 0)).set 6 (.slice none 0 0)).other (by omega : w.heap.size + 1 ≠ w.heap.size + 1 + 1) 0 (.iface 77 (.pointer (some ⟨W.heap.size, 0, none⟩))))
  have H7 := (((((((b7.other (by omega : w.heap.size + 1 + 1 ≠ w.heap.size + 1) 0 (.int .i64 0)).other (by omega : w.heap.size + 1 + 1 ≠ w.heap.size + 1) 1 (.string (ofL []))).other (by omega : w.heap.size + 1 + 1 ≠ w.heap.size + 1) 2 (.int .i64 0)).other (by omega : w.heap.size + 1 + 1 ≠ w.heap.size + 1) 3 (.string (ofL []))).other (by omega : w.heap.size + 1 + 1 ≠ w.heap.size + 1) 4 (.string (ofL []))).other (by omega : w.heap.size + 1 + 1 ≠ w.heap.size + 1) 5 (.slice none 0 0)).other (by omega : w.heap.size + 1 + 1 ≠ w.heap.size + 1) 6 (.slice none 0 0)).set 0 (.iface 77 (.pointer (some ⟨W.heap.size, 0, none⟩)))
  have hB2 := (((((((hB.setCell (p := ⟨w.heap.size + 1, 0, none⟩) (by simp) (.int .i64 0)).setCell (p := ⟨w.heap.size + 1, 1, none⟩) (by simp) (.string (ofL []))).setCell (p := ⟨w.heap.size + 1, 2, none⟩) (by simp) (.int .i64 0)).setCell (p := ⟨w.heap.size + 1, 3, none⟩) (by simp) (.string (ofL []))).setCell (p := ⟨w.heap.size + 1, 4, none⟩) (by simp) (.string (ofL []))).setCell (p := ⟨w.heap.size + 1, 5, none⟩) (by simp) (.slice none 0 0)).setCell (p := ⟨w.heap.size + 1, 6, none⟩) (by simp) (.slice none 0 0)).setCell (p := ⟨w.heap.size + 1 + 1, 0, none⟩) (by simp; omega) (.iface 77 (.pointer (some ⟨W.heap.size, 0, none⟩)))
  have hS : ∀ k, k ≠ w.heap.size + 1 → k ≠ w.heap.size + 1 + 1 → ((((((((W1.setCell ⟨w.heap.size + 1, 0, none⟩ (.int .i64 0)).setCell ⟨w.heap.size + 1, 1, none⟩ (.string (ofL []))).setCell ⟨w.heap.size + 1, 2, none⟩ (.int .i64 0)).setCell ⟨w.heap.size + 1, 3, none⟩ (.string (ofL []))).setCell ⟨w.heap.size + 1, 4, none⟩ (.string (ofL []))).setCell ⟨w.heap.size + 1, 5, none⟩ (.slice none 0 0)).setCell ⟨w.heap.size + 1, 6, none⟩ (.slice none 0 0)).setCell ⟨w.heap.size + 1 + 1, 0, none⟩ (.iface 77 (.pointer (some ⟨W.heap.size, 0, none⟩)))).heap[k]? = W1.heap[k]? := fun k h1 h2 => by
   rw [hs_ne _ _ _ _ _ h2, hs_ne _ _ _ _ _ h1, hs_ne _ _ _ _ _ h1, hs_ne _ _ _ _ _ h1, hs_ne _ _ _ _ _ h1, hs_ne _ _ _ _ _ h1, hs_ne _ _ _ _ _ h1, hs_ne _ _ _ _ _ h1]
  generalize ((((((((W1.setCell ⟨w.heap.size + 1, 0, none⟩ (.int .i64 0)).setCell ⟨w.heap.size + 1, 1, none⟩ (.string (ofL []))).setCell ⟨w.heap.size + 1, 2, none⟩ (.int .i64 0)).setCell ⟨w.heap.size + 1, 3, none⟩ (.string (ofL []))).setCell ⟨w.heap.size + 1, 4, none⟩ (.string (ofL []))).setCell ⟨w.heap.size + 1, 5, none⟩ (.slice none 0 0)).setCell ⟨w.heap.size + 1, 6, none⟩ (.slice none 0 0)).setCell ⟨w.heap.size + 1 + 1, 0, none⟩ (.iface 77 (.pointer (some ⟨W.heap.size, 0, none⟩)))) = W2 at H6 H7 hB2 hS ⊢
  have hK2 := (hS D (by omega) (by omega)).trans hK
  refine ⟨by simp, .inl ⟨_, _, rfl, run_takeDeferred hK2, ?_⟩⟩
  have hP : ∀ k, k ≠ D → (W2.putObj D (.deferred none)).heap[k]? = W2.heap[k]? := fun k hk => World.putObj_heap_other hk
  have hSp := (hP W.heap.size (by omega)).trans ((hS W.heap.size (by omega) (by omega)).trans bS)
  refine ⟨_, res_var (b := w.heap.size) rfl rfl ((hP _ (by omega)).trans H6) ((hP _ (by omega)).trans H7), hB2.trans (belowK_b (w := w) (Nat.le_refl _) W2 D _ _ (by omega) hK2 rfl rfl), .inr ⟨fun i hi => ?_, W.heap.size, by omega, rfl, ?_, ?_⟩⟩
  ·have h3 : L - 1 - i < L := by omega
   have h4 := hp ⟨L - 1 - i, h3⟩ (List.mem_finRange _)
   rwa [show L - 1 - (L - 1 - i) = i by omega] at h4
  ·rw [Held.at (c := #[.int .i64 N, .iface 47 (.int .i64 4)]) hSp]; rfl
  ·rw [Held.at (c := #[.int .i64 N, .iface 47 (.int .i64 4)]) hSp]; rfl
 case stop =>
  rintro D c pre W hD hsp ⟨⟨⟨b6, b7⟩, hB⟩, rfl, p, x, rfl, hp, hx⟩ hK
  gi_wp2
  have hsz' := hB.size
  refine ⟨by simp, .inl ⟨_, _, rfl, run_takeDeferred hK, ?_⟩⟩
  have hP : ∀ k, k ≠ D → (W.putObj D (.deferred none)).heap[k]? = W.heap[k]? := fun k hk => World.putObj_heap_other hk
  refine ⟨_, res_var (b := w.heap.size) rfl rfl ((hP _ (by omega)).trans b6) ((hP _ (by omega)).trans b7), hB.trans (belowK_b (w := w) (Nat.le_refl _) W D _ _ (by omega) hK rfl rfl), .inl ⟨lstN L (p ++ [x]), ?_, ?_, ?_, rfl⟩⟩
  ·rw [lstN_snoc]; have := x.2; omega
  ·rw [lstN_snoc]; exact hx
  ·rw [lstN_snoc]
   intro i h1 h2
   obtain ⟨j, hj⟩ := hsp
   have hlen : p.length = x.1 := by
    have e1 := congrArg (fun l => l[p.length]?) hj
    simp only [List.getElem?_append_right (Nat.le_refl _), Nat.sub_self, List.getElem?_cons_zero, List.getElem?_take] at e1
    split at e1
    ·rw [List.getElem?_eq_some_iff.2 ⟨by have := congrArg List.length hj; simp at this ⊢; omega, rfl⟩] at e1
     simp at e1
     rw [e1]
    ·simp at e1
   have e2 : p = (List.finRange L).take p.length := by
    have := congrArg (List.take p.length) hj
    rw [List.take_left' rfl, List.take_take] at this
    rw [Nat.min_eq_left (by have := congrArg List.length hj; simp at this; omega)] at this
    exact this
   have h3 : L - 1 - i < L := by omega
   have h4 := hp ⟨L - 1 - i, h3⟩ (by
    rw [e2]
    refine List.mem_iff_getElem?.2 ⟨L - 1 - i, ?_⟩
    rw [List.getElem?_take, if_pos (by omega)]
    simp [h3])
   rwa [show L - 1 - (L - 1 - i) = i by omega] at h4
end Go.Proofs.Mv.App
namespace Go.Proofs.Mv.App
open Go.RowKit Go.Shelf Go Go.Proofs Go.Proofs.Mv.V
theorem sl_valX {w : World} {ν : Nu} {F : Nat → Prop} {z : Nat} {es : List (List D)} {y : Value} (h : Con w ν F (.sl z es) y) : ∃ a n c, y = .slice a n c := by
 simp only [Con] at h
 rcases h with ⟨b, o, c, rfl, hlc, hF, hes⟩ | ⟨rfl, a, rfl⟩
 ·exact ⟨_, _, _, rfl⟩
 ·exact ⟨_, _, _, rfl⟩
theorem nv_cells {w : World} {ν : Nu} {F : Nat → Prop} {b o : Nat} {x : Nm} (h : ConCs w ν F (nnD x) b o) : ∃ v : NV, v.At w b o ∧ v.nm = ofL x.1 ∧ Con w ν F (.agg (tyD x.2)) v.ty := by
 obtain ⟨nm, kind, pkg, major, mod, name, names, subs⟩ := x
 simp only [nnD, tyD, ConCs] at h
 obtain ⟨⟨z, cz, _, ez⟩, ⟨y0, c0, p0, e0⟩, ⟨y1, c1, p1, e1⟩, ⟨y2, c2, p2, e2⟩, ⟨y3, c3, p3, e3⟩, ⟨y4, c4, p4, e4⟩, ⟨y5, c5, p5, e5⟩, ⟨y6, c6, p6, e6⟩, _⟩ := h
 obtain ⟨a5, n5, q5, rfl⟩ := sl_valX e5
 obtain ⟨a6, n6, q6, rfl⟩ := sl_valX e6
 have f0 := e0; have f1 := e1; have f2 := e2; have f3 := e3; have f4 := e4
 simp only [Con, S, I] at f0 f1 f2 f3 f4 ez
 subst f0; subst f1; subst f2; subst f3; subst f4; subst ez
 refine ⟨⟨_, _, _, _, _, _, a5, n5, q5, a6, n6, q6⟩, ⟨cz, c0, c1, c2, c3, c4, c5, c6⟩, rfl, ?_⟩
 simp only [tyD, NV.ty]
 rw [Con]
 simp only [ConVs]
 refine ⟨_, rfl, ⟨_, _, rfl, e0, _, _, rfl, e1, _, _, rfl, e2, _, _, rfl, e3, _, _, rfl, e4, _, _, rfl, e5, _, _, rfl, e6, rfl⟩, ?_⟩
 intro x hx
 simp only [List.mem_cons, List.not_mem_nil, or_false] at hx
 rcases hx with rfl | rfl | rfl | rfl | rfl | rfl | rfl <;> assumption
def varD (l : List Nm) (s : List UInt8) (N : Int) : D := match l.reverse.find? (fun v => decide (v.1 = s)) with
 | some v => .tup [.agg (tyD v.2), nilE]
 | none => .tup [.agg (tyD Ty0), spotE N 4]
theorem find_last {l : List Nm} {s : List UInt8} {j : Nat} (hj : j < l.length) (h1 : l[j].1 = s) (h2 : ∀ i (hi : i < l.length), j < i → l[i].1 ≠ s) : l.reverse.find? (fun v => decide (v.1 = s)) = some l[j] := by
 have e : l = l.take j ++ l[j] :: l.drop (j + 1) := by rw [List.getElem_cons_drop, List.take_append_drop]
 have hn : (l.drop (j + 1)).reverse.find? (fun v => decide (v.1 = s)) = none := by
  rw [List.find?_eq_none]
  intro v hv
  rw [List.mem_reverse] at hv
  obtain ⟨k, hk, rfl⟩ := List.getElem_of_mem hv
  rw [List.getElem_drop]
  rw [List.length_drop] at hk
  have := h2 (j + 1 + k) (by omega) (by omega)
  simpa using this
 have : l.reverse = (l.drop (j + 1)).reverse ++ l[j] :: (l.take j).reverse := by
  conv => lhs; rw [e]
  simp
 rw [this, List.find?_append, hn]
 simp [h1]
theorem nv_es {w : World} {ν : Nu} {F : Nat → Prop} {l : List Nm} {b o : Nat} (hes : ConEs w ν F 8 (l.map nnD) b o) : ∃ e : Nat → NV, ∀ k (h : k < l.length), (e k).At w b (o + k * 8) ∧ (e k).nm = ofL l[k].1 ∧ Con w ν F (.agg (tyD l[k].2)) (e k).ty := by
 have hk : ∀ k, ∃ v : NV, ∀ h : k < l.length, v.At w b (o + k * 8) ∧ v.nm = ofL l[k].1 ∧ Con w ν F (.agg (tyD l[k].2)) v.ty := fun k => by
  by_cases h : k < l.length
  ·have h5 := (conEs_get hes k (by simpa using h)).2
   rw [List.getD_eq_getElem?_getD, List.getElem?_map, List.getElem?_eq_getElem h] at h5
   obtain ⟨v, q⟩ := nv_cells h5
   exact ⟨v, fun _ => q⟩
  ·exact ⟨⟨ofL [], 0, ofL [], 0, ofL [], ofL [], none, 0, 0, none, 0, 0⟩, fun h' => absurd h' h⟩
 obtain ⟨e, he⟩ := Classical.skolem.1 hk
 exact ⟨e, he⟩
set_option maxHeartbeats 1000000 in
theorem var_lib {l : List Nm} (hl : l.length ≤ 1000000) (s : List UInt8) (N : Int) {m : Mem} {n : Nat} {w : World} {ν : Nu} {F : Nat → Prop} (hst : St w ν F m n) {a : Option Addr} {cap : Nat} {e : Nat → NV}
  (hc : 0 < l.length → l.length ≤ cap ∧ ∃ b off, a = some ⟨b, off, none⟩ ∧ b < w.heap.size ∧ ∀ k, k < l.length → (e k).At w b (off + k * 8)) (he : ∀ k (h : k < l.length), (e k).nm = ofL l[k].1 ∧ Con w ν F (.agg (tyD l[k].2)) (e k).ty) :
  Calls Tryz.prog 74 #[.slice a l.length cap, .string (ofL s), .int .i64 N] w fun e w' => ∃ v, e = .returned v ∧ RowKit.Below w.heap.size w w' ∧ ∃ F' : Nat → Prop, (∀ b, F b → F' b) ∧ (∀ b, F' b → F b ∨ (w.heap.size ≤ b ∧ b < w'.heap.size)) ∧
    ∃ d, Con w' ν F' d v ∧ (d = varD l s N ∧ m = m ∧ n = n) := by
 refine (callsIn_wide.1 (var_calls l.length hl a cap e (ofL s) N w hc)).mono ?_
 rintro r w' ⟨hb, ⟨j, hj, h5, h6, rfl⟩ | ⟨h5, b, hbw, rfl, h6, h7⟩⟩
 ·refine ⟨_, rfl, hb, F, fun _ h => h, fun _ h => .inl h, varD l s N, ?_, rfl, rfl, rfl⟩
  have hf := find_last (s := s) hj (by have := h5; rw [(he j hj).1] at this; simpa using this) (fun i hi hji q => h6 i hji hi (by rw [(he i hi).1, q]))
  unfold varD
  rw [hf]
  simp only [Con, ConVs, nilE]
  exact ⟨_, rfl, _, _, rfl, Con.mono (ext_below hst hb) _ _ (he j hj).2, _, _, rfl, rfl, rfl⟩
 ·have hlt : b < w'.heap.size := by
   rcases Nat.lt_or_ge b w'.heap.size with h | h
   ·exact h
   ·simp [World.cell?, Array.getElem?_eq_none h] at h6
  refine ⟨_, rfl, hb, fun k => F k ∨ k = b, fun _ h => .inl h, fun k h => h.elim .inl (fun e => .inr ⟨by omega, by omega⟩), varD l s N, ?_, rfl, rfl, rfl⟩
  have hf : l.reverse.find? (fun v => decide (v.1 = s)) = none := by
   rw [List.find?_eq_none]
   intro v hv
   rw [List.mem_reverse] at hv
   obtain ⟨k, hk, rfl⟩ := List.getElem_of_mem hv
   have := h5 k hk
   rw [(he k hk).1] at this
   simpa using this
  unfold varD
  rw [hf]
  have hS : Con w' ν (fun k => F k ∨ k = b) (spotE N 4) (.iface 77 (.pointer (some ⟨b, 0, none⟩))) := by
   simp only [spotE, Con, ConCs]
   refine ⟨_, rfl, b, 0, rfl, .inr rfl, ?_⟩
   simp [h6, h7, oneC]
  have hT : Con w' ν (fun k => F k ∨ k = b) (.agg (tyD Ty0)) (.agg zTy) := by
   unfold Ty0
   simp only [tyD, tysD, zTy, sl1]
   rw [Con]
   simp only [ConVs]
   refine ⟨_, rfl, ⟨_, _, rfl, by simp [Con, I], _, _, rfl, by simp [Con, S], _, _, rfl, by simp [Con, I], _, _, rfl, by simp [Con, S], _, _, rfl, by simp [Con, S], _, _, rfl, by simp only [Con]; exact .inr ⟨by first | trivial | rfl, none, rfl⟩, _, _, rfl, by simp only [Con]; exact .inr ⟨by first | trivial | rfl, none, rfl⟩, rfl⟩, ?_⟩
   intro x hx
   simp only [List.mem_cons, List.not_mem_nil, or_false] at hx
   rcases hx with rfl | rfl | rfl | rfl | rfl | rfl | rfl <;> rfl
  simp only [Con, ConVs]
  simp only [Con, ConVs] at hS hT
  exact ⟨_, rfl, _, _, rfl, hT, _, _, rfl, hS, rfl⟩
theorem cInVar {l : List Nm} (hl : l.length ≤ 1000000) (s : List UInt8) (N : Int) (m : Mem) (n : Nat) : ACalls Tryz.prog 74 [.sl 8 (l.map nnD), S s, I N] m n (fun d m' n' => d = varD l s N ∧ m' = m ∧ n' = n) := by
 refine acalls_libF ⟨_, Tryz.func74, by kernel_rfl, by kernel_rfl⟩ fun w ν F vals hst hv => ?_
 obtain ⟨x, y, z, rfl, h1, h2, h3⟩ := conVs_arr3 hv
 simp only [Con, S, I] at h2 h3
 subst h2; subst h3
 simp only [Con] at h1
 rcases h1 with ⟨b, o, c, rfl, hlc, hF, hes⟩ | ⟨hn, a, rfl⟩
 ·rw [List.length_map] at hlc ⊢
  obtain ⟨e, he⟩ := nv_es hes
  exact var_lib hl s N hst (e := e) (fun _ => ⟨hlc, b, o, rfl, hst.mem.lt b hF, fun k h => (he k h).1⟩) (fun k h => (he k h).2)
 ·have h0 : l = [] := by simpa using hn
  subst h0
  exact var_lib (l := []) hl s N hst (e := fun _ => ⟨ofL [], 0, ofL [], 0, ofL [], ofL [], none, 0, 0, none, 0, 0⟩) (fun h => absurd h (Nat.lt_irrefl _)) (fun k h => absurd h (Nat.not_lt_zero _))
theorem cInVarO {l : List Nm} (hl : l.length ≤ 1000000) (s : List UInt8) (N : Int) {m : Mem} {n : Nat} {dl : D} (hL : Lst m 8 (l.map nnD) dl) : ACalls Tryz.prog 74 [dl, S s, I N] m n (fun d m' n' => d = varD l s N ∧ m' = m ∧ n' = n) := by
 refine acalls_libF ⟨_, Tryz.func74, by kernel_rfl, by kernel_rfl⟩ fun w ν F vals hst hv => ?_
 obtain ⟨x, y, z, rfl, h1, h2, h3⟩ := conVs_arr3 hv
 simp only [Con, S, I] at h2 h3
 subst h2; subst h3
 have none_ : ∀ a, l = [] → Calls Tryz.prog 74 #[.slice a 0 0, .string (ofL s), .int .i64 N] w fun e w' => ∃ v, e = .returned v ∧ RowKit.Below w.heap.size w w' ∧ ∃ F' : Nat → Prop, (∀ b, F b → F' b) ∧ (∀ b, F' b → F b ∨ (w.heap.size ≤ b ∧ b < w'.heap.size)) ∧
    ∃ d, Con w' ν F' d v ∧ (d = varD l s N ∧ m = m ∧ n = n) := fun a h0 => by
  subst h0
  exact var_lib (l := []) hl s N hst (a := a) (cap := 0) (e := fun _ => ⟨ofL [], 0, ofL [], 0, ofL [], ofL [], none, 0, 0, none, 0, 0⟩) (fun h => absurd h (Nat.lt_irrefl _)) (fun k h => absurd h (Nat.not_lt_zero _))
 rcases hL with ⟨he0, hd⟩ | ⟨k, g, es', rfl, hmk, hle, htk⟩
 ·have h0 : l = [] := by simpa using he0
  have hx : ∃ a, x = .slice a 0 0 := by
   rcases hd with rfl | rfl
   ·simp only [Con] at h1; exact ⟨_, h1⟩
   ·simpa only [Con] using h1
  obtain ⟨a, rfl⟩ := hx
  exact none_ a h0
 ·rw [List.length_map] at h1 hle htk
  simp only [Con] at h1
  obtain ⟨lc, b, off, c, q1, q2, q3, rfl, q4, q5⟩ := h1
  obtain ⟨l2, arr, el, ff, r1, r2, r3, r4, r5, r6, r7⟩ := hst.mem.at_ k _ hmk
  rw [q1] at r1; obtain rfl := Option.some.inj r1
  obtain ⟨rfl, hoff, _⟩ := q5 r2
  by_cases hc0 : c = 0
  ·have h0 : l = [] := List.length_eq_zero_iff.1 (by omega)
   subst h0; subst hc0
   exact none_ _ rfl
  ·have ho : off = 0 := by omega
   subst ho
   have hes : ConEs w ν F 8 (l.map nnD) lc.b 0 := by rw [← htk]; exact conEs_take r7 _
   obtain ⟨e, he⟩ := nv_es hes
   exact var_lib hl s N hst (e := e) (fun _ => ⟨q4, lc.b, 0, rfl, (Array.getElem?_eq_some_iff.1 r4).1, fun k h => (he k h).1⟩) (fun k h => (he k h).2)
end Go.Proofs.Mv.App
