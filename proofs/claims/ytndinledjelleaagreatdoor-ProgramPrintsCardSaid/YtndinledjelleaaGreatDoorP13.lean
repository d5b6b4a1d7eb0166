/- A part of the proofs: machine, contracts, laws. No condition of its own. -/
import Derived.Shelf.LaysM
import Derived.Ground.NamesProg
import Derived.Test.YtndinledjelleaaGreatDoorProg
import Derived.Test.YtndinledjelleaaGreatDoorP04
import Derived.Shelf.Strings.OnBuilder
import Derived.Shelf.Strconv.Itoa3
import Derived.WalkKit
import Derived.LoopTactic
import Derived.Test.YtndinledjelleaaGreatDoorMvFl
import Derived.Test.YtndinledjelleaaGreatDoorMvPc
import Derived.Test.YtndinledjelleaaGreatDoorP12
import Derived.Shelf.Strings.BuilderK
import Derived.Test.YtndinledjelleaaGreatDoorP06
import Derived.Test.YtndinledjelleaaGreatDoorP10
import Derived.Deep.RegionHeld3
import Derived.Test.YtndinledjelleaaGreatDoorP09
import Derived.Test.YtndinledjelleaaGreatDoorMvC
set_option linter.unusedSimpArgs false
set_option linter.unusedVariables false
set_option linter.unusedSectionVars false
namespace Go.Proofs
open Go.Shelf
def Tryz.laysJoin_ren : Go.Shelf.Ren := ⟨fun | 156 => 182 | 165 => 247 | 166 => 47 | 169 => 50 | 240 => 96 | 241 => 293 | 276 => 150 | 277 => 337 | n => n, fun | 31 => 26 | 9 => 9 | 3 => 3 | 4 => 4 | 0 => 0 | 20 => 20 | 72 => 93 | 76 => 96 | 70 => 90 | 37 => 91 | 75 => 35 | 127 => 148 | 164 => 130 | 5 => 5 | 80 => 100 | n => n, fun | n => n⟩
theorem Tryz.laysJoin : Go.Proofs.Lays.n156 Tryz.prog Tryz.laysJoin_ren := {
 mixed := by kernel_rfl
 f156 := Tryz.func182.trans (congrArg some (by kernel_rfl))
 f165 := Tryz.func247.trans (congrArg some (by kernel_rfl))
 f166 := Tryz.func47.trans (congrArg some (by kernel_rfl))
 f169 := Tryz.func50.trans (congrArg some (by kernel_rfl))
 f240 := Tryz.func96.trans (congrArg some (by kernel_rfl))
 f241 := Tryz.func293.trans (congrArg some (by kernel_rfl))
 f276 := Tryz.func150.trans (congrArg some (by kernel_rfl))
 f277 := Tryz.func337.trans (congrArg some (by kernel_rfl))
 t0 := Tryz.underlying0
 a0 := Tryz.isAgg0
 z0 := Tryz.sizeOf0
 v0 := Tryz.zeroValue0
 t3 := Tryz.underlying3
 a3 := Tryz.isAgg3
 z3 := Tryz.sizeOf3
 v3 := Tryz.zeroValue3
 t4 := Tryz.underlying4
 a4 := Tryz.isAgg4
 z4 := Tryz.sizeOf4
 v4 := Tryz.zeroValue4
 t9 := Tryz.underlying9
 a9 := Tryz.isAgg9
 z9 := Tryz.sizeOf9
 v9 := Tryz.zeroValue9
 t20 := Tryz.underlying20
 a20 := Tryz.isAgg20
 z20 := Tryz.sizeOf20
 v20 := Tryz.zeroValue20
 t31 := Tryz.underlying26
 a31 := Tryz.isAgg26
 z31 := Tryz.sizeOf26
 v31 := Tryz.zeroValue26
 t37 := Tryz.underlying91
 a37 := Tryz.isAgg91
 z37 := Tryz.sizeOf91
 v37 := Tryz.zeroValue91
 t70 := Tryz.underlying90
 a70 := Tryz.isAgg90
 z70 := Tryz.sizeOf90
 v70 := Tryz.zeroValue90
 t72 := Tryz.underlying93
 a72 := Tryz.isAgg93
 z72 := Tryz.sizeOf93
 v72 := Tryz.zeroValue93
 t75 := Tryz.underlying35
 a75 := Tryz.isAgg35
 z75 := Tryz.sizeOf35
 v75 := Tryz.zeroValue35
 t76 := Tryz.underlying96
 a76 := Tryz.isAgg96
 z76 := Tryz.sizeOf96
 v76 := Tryz.zeroValue96
 t127 := Tryz.underlying148
 a127 := Tryz.isAgg148
 z127 := Tryz.sizeOf148
 v127 := Tryz.zeroValue148
 t164 := Tryz.underlying130
 a164 := Tryz.isAgg130
 z164 := Tryz.sizeOf130
 v164 := Tryz.zeroValue130 }
def Tryz.laysItoa_ren : Go.Shelf.Ren := ⟨fun | 171 => 48 | 243 => 97 | 246 => 151 | 283 => 216 | 284 => 217 | 285 => 218 | 286 => 219 | 129 => 273 | 317 => 272 | 318 => 274 | 319 => 275 | 320 => 276 | 337 => 315 | 338 => 316 | n => n, fun | 3 => 3 | 9 => 9 | 2 => 2 | 4 => 4 | 171 => 249 | 0 => 0 | 53 => 246 | 37 => 91 | 5 => 5 | 173 => 252 | 212 => 295 | 51 => 296 | 20 => 20 | 213 => 297 | 46 => 286 | 232 => 341 | 233 => 342 | n => n, fun | 17 => 1 | 18 => 5 | 19 => 6 | n => n⟩
theorem Tryz.laysItoa : Go.Proofs.LaysM.n171 Tryz.prog Tryz.laysItoa_ren := {
 mixed := by kernel_rfl
 f129 := Tryz.func273.trans (congrArg some (by kernel_rfl))
 f171 := Tryz.func48.trans (congrArg some (by kernel_rfl))
 f243 := Tryz.func97.trans (congrArg some (by kernel_rfl))
 f246 := Tryz.func151.trans (congrArg some (by kernel_rfl))
 f283 := Tryz.func216.trans (congrArg some (by kernel_rfl))
 f284 := Tryz.func217.trans (congrArg some (by kernel_rfl))
 f285 := Tryz.func218.trans (congrArg some (by kernel_rfl))
 f286 := Tryz.func219.trans (congrArg some (by kernel_rfl))
 f317 := Tryz.func272.trans (congrArg some (by kernel_rfl))
 f318 := Tryz.func274.trans (congrArg some (by kernel_rfl))
 f319 := Tryz.func275.trans (congrArg some (by kernel_rfl))
 f320 := Tryz.func276.trans (congrArg some (by kernel_rfl))
 f337 := Tryz.func315.trans (congrArg some (by kernel_rfl))
 f338 := Tryz.func316.trans (congrArg some (by kernel_rfl))
 t0 := Tryz.underlying0
 a0 := Tryz.isAgg0
 z0 := Tryz.sizeOf0
 v0 := Tryz.zeroValue0
 t2 := Tryz.underlying2
 a2 := Tryz.isAgg2
 z2 := Tryz.sizeOf2
 v2 := Tryz.zeroValue2
 t3 := Tryz.underlying3
 a3 := Tryz.isAgg3
 z3 := Tryz.sizeOf3
 v3 := Tryz.zeroValue3
 t4 := Tryz.underlying4
 a4 := Tryz.isAgg4
 z4 := Tryz.sizeOf4
 v4 := Tryz.zeroValue4
 t5 := Tryz.underlying5
 a5 := Tryz.isAgg5
 z5 := Tryz.sizeOf5
 v5 := Tryz.zeroValue5
 t9 := Tryz.underlying9
 a9 := Tryz.isAgg9
 z9 := Tryz.sizeOf9
 v9 := Tryz.zeroValue9
 t20 := Tryz.underlying20
 a20 := Tryz.isAgg20
 z20 := Tryz.sizeOf20
 v20 := Tryz.zeroValue20
 t37 := Tryz.underlying91
 a37 := Tryz.isAgg91
 z37 := Tryz.sizeOf91
 v37 := Tryz.zeroValue91
 t46 := Tryz.underlying286
 a46 := Tryz.isAgg286
 z46 := Tryz.sizeOf286
 v46 := Tryz.zeroValue286
 t51 := Tryz.underlying296
 a51 := Tryz.isAgg296
 z51 := Tryz.sizeOf296
 v51 := Tryz.zeroValue296
 t53 := Tryz.underlying246
 a53 := Tryz.isAgg246
 z53 := Tryz.sizeOf246
 v53 := Tryz.zeroValue246
 t171 := Tryz.underlying249
 a171 := Tryz.isAgg249
 z171 := Tryz.sizeOf249
 v171 := Tryz.zeroValue249
 t173 := Tryz.underlying252
 a173 := Tryz.isAgg252
 z173 := Tryz.sizeOf252
 v173 := Tryz.zeroValue252
 t212 := Tryz.underlying295
 a212 := Tryz.isAgg295
 z212 := Tryz.sizeOf295
 v212 := Tryz.zeroValue295
 t213 := Tryz.underlying297
 a213 := Tryz.isAgg297
 z213 := Tryz.sizeOf297
 t232 := Tryz.underlying341
 a232 := Tryz.isAgg341
 z232 := Tryz.sizeOf341
 v232 := Tryz.zeroValue341
 t233 := Tryz.underlying342
 a233 := Tryz.isAgg342
 z233 := Tryz.sizeOf342
 v233 := Tryz.zeroValue342
 g17 := by kernel_rfl
 g18 := by kernel_rfl
 g19 := by kernel_rfl
 i0 := by kernel_rfl
 i2 := by kernel_rfl
 i3 := by kernel_rfl
 i4 := by kernel_rfl
 i5 := by kernel_rfl
 i9 := by kernel_rfl
 i20 := by kernel_rfl
 i37 := by kernel_rfl
 i46 := by kernel_rfl
 i51 := by kernel_rfl
 i53 := by kernel_rfl
 i171 := by kernel_rfl
 i173 := by kernel_rfl
 i212 := by kernel_rfl
 i232 := by kernel_rfl
 i233 := by kernel_rfl
 m17 := by kernel_rfl
 m18 := by kernel_rfl
 m19 := by kernel_rfl }
end Go.Proofs
open Go Go.Proofs Go.Proofs.Mv.V Go.RowKit
set_option maxRecDepth 10000
namespace Go.Proofs.Mv.App
theorem joinX : Builder.Extra Tryz.prog Tryz.laysJoin_ren where
 sizeBuilder := by kernel_rfl
 liesBuilder := by kernel_rfl
 t5 := Tryz.laysItoa.t5
 a5 := Tryz.laysItoa.a5
 z5 := Tryz.laysItoa.z5
 v5 := Tryz.laysItoa.v5
 infoByte := by kernel_rfl
 cellsByte := by kernel_rfl
 sizeByte := by kernel_rfl
 neB5 := by decide
theorem txt_cells {w : World} {ν : Nu} {F : Nat → Prop} {b : Nat} : ∀ (ss : List (List UInt8)) (o : Nat), ConEs w ν F 1 (ss.map fun s => [S s]) b o →
  ∀ (j : Nat) (x : ByteArray), (ss.map ofL)[j]? = some x → w.cell? ⟨b, o + j, none⟩ = some (.string x)
 | [], _, _, j, x, h => by simp at h
 | s :: ss, o, h, j, x, hx => by
  simp only [List.map_cons, ConEs, ConCs] at h
  obtain ⟨_, ⟨⟨y, hc, _, hy⟩, _⟩, h3⟩ := h
  cases j with
  | zero =>
   simp only [List.map_cons, List.getElem?_cons_zero, Option.some.injEq] at hx
   subst hx
   simp only [Con, S] at hy
   subst hy; exact hc
  | succ j =>
   have := txt_cells ss (o + 1) h3 j x (by simpa using hx)
   rw [show o + (j + 1) = o + 1 + j by omega]; exact this
theorem joinB_lib (sep : List UInt8) : ∀ l : List (List UInt8), joinB sep l = Lib.join l sep
 | [] => rfl
 | [s] => by simp [joinB, Lib.join_one]
 | s :: t :: r => by
  have := joinB_lib sep (t :: r)
  rw [Lib.join_cons] at this ⊢
  rw [show joinB sep (s :: t :: r) = s ++ sep ++ joinB sep (t :: r) from rfl, this]
  simp [Lib.joinTail]
theorem cJoin {ss : List (List UInt8)} {d : D} {m : Mem} (hL : Lst m 1 (ss.map fun s => [S s]) d) (sep : List UInt8) (hl : ss.length ≤ 1000000) (hj : (joinB sep ss).length ≤ 140737488355328) (n : Nat) :
  ACalls Tryz.prog 182 [d, S sep] m n (fun d' m' n' => d' = S (joinB sep ss) ∧ m' = m ∧ n' = n) := by
 refine acalls_lib ⟨_, Tryz.func182, by kernel_rfl, by kernel_rfl⟩ fun w ν F vals hst hv => ?_
 obtain ⟨x, y, rfl, h1, h2⟩ := conVs_arr2 hv
 simp only [Con, S] at h2
 subst h2
 rw [joinB_lib] at hj ⊢
 have done : ∀ {e : Ending} {w' : World}, e = .returned (.string (ofL (Lib.join ss sep))) → Below w.heap.size w w' → ∃ v, e = .returned v ∧ Below w.heap.size w w' ∧ ∃ d, Con w' ν F d v ∧ d = S (Lib.join ss sep) ∧ m = m ∧ n = n :=
  fun h hb => ⟨_, h, hb, _, by simp [Con, S], rfl, rfl, rfl⟩
 rcases hL with ⟨h0, hd⟩ | ⟨k, g, es', rfl, hm, hle, ht⟩
 ·obtain rfl : ss = [] := by simpa using h0
  have : ∃ a, x = .slice a 0 0 := by
   rcases hd with rfl | rfl
   ·exact ⟨none, by simpa [Con] using h1⟩
   ·simpa [Con] using h1
  obtain ⟨a, rfl⟩ := this
  refine Calls.mono (show Calls Tryz.prog 182 _ _ _ from Any.strings_Join_none Tryz.laysJoin joinX a 0 (ofL sep) w) ?_
  rintro e w' ⟨rfl, rfl⟩
  exact done rfl (Below.refl _ _)
 ·simp only [Con] at h1
  obtain ⟨l, b, off, c, hl1, hg, hlz, rfl, hn, he⟩ := h1
  obtain ⟨l2, arr, e, f, q1, q2, q3, q4, q5, q6, q7⟩ := hst.mem.at_ k _ hm
  rw [hl1] at q1; obtain rfl := Option.some.inj q1
  simp only at q2 q3 q7
  obtain ⟨rfl, hoff, arr2, e2, f2, ha2, hsz2⟩ := he q2
  have hlt : l.b < w.heap.size := (Array.getElem?_eq_some_iff.1 q4).1
  have hml : (ss.map ofL).length = ss.length := by simp
  have hmm : (ss.map ofL).map (·.data.toList) = ss := by
   rw [List.map_map]; exact List.map_id' _
  have hcells : ∀ (j : Nat) (x : ByteArray), (ss.map ofL)[j]? = some x → w.cell? ⟨l.b, off + j, none⟩ = some (.string x) := by
   intro j x hx
   have hfirst : ConEs w ν F 1 (ss.map fun s => [S s]) l.b 0 := by
    rw [← ht]; exact conEs_take q7 _
   have := txt_cells ss 0 hfirst j x hx
   have hj : j < ss.length := by
    have := (List.getElem?_eq_some_iff.1 hx).1; simpa using this
   have ho : off = 0 := by
    rcases hoff with h | h
    ·omega
    ·exfalso; rw [h] at hn; simp only [List.length_map] at hn; omega
   rw [ho]; exact this
  have hln : (ss.map fun s => [S s]).length = (ss.map ofL).length := by simp
  rw [hln] at hn ⊢
  refine Calls.mono (show Calls Tryz.prog 182 _ _ _ from Any.strings_Join Tryz.laysJoin joinX l.b off c (ss.map ofL) (ofL sep) w hcells hlt (by omega) hn (by rw [hmm]; exact hj)) ?_
  rintro e w' ⟨rfl, hb⟩
  refine done ?_ hb
  rw [hmm]; rfl
theorem digitsF_lib : ∀ (f n : Nat), n < 10 ^ f → 1 ≤ f → digitsF f n = Lib.decDigits n
 | 0, _, _, h => by omega
 | f + 1, n, h, _ => by
  rw [Lib.decDigits, digitsF]
  split
  ·rfl
  ·have hf : n / 10 < 10 ^ f := by rw [Nat.pow_succ] at h; omega
   have : 1 ≤ f := by
    cases f with
    | zero => simp at h; omega
    | succ f => omega
   rw [digitsF_lib f (n / 10) hf this]
theorem digits_lib {n : Nat} (h : n ≤ 9223372036854775807) : digits n = Lib.decDigits n := digitsF_lib 20 n (Nat.lt_of_le_of_lt h (by decide)) (by decide)
theorem cItoa {i : Int} (h0 : 0 ≤ i) (h1 : i ≤ 9223372036854775807) (m : Mem) (n : Nat) : ACalls Tryz.prog 48 [I i] m n (fun d m' n' => d = S (digits i.toNat) ∧ m' = m ∧ n' = n) := by
 refine acalls_lib ⟨_, Tryz.func48, by kernel_rfl, by kernel_rfl⟩ fun w ν F vals hst hv => ?_
 obtain ⟨x, rfl, h2⟩ := conVs_arr1 hv
 simp only [Con, I] at h2
 subst h2
 refine Calls.mono (show Calls Tryz.prog 48 _ _ _ from Any.strconv_Itoa Tryz.laysItoa i (by omega) h1 w hst.gi.c3) ?_
 rintro e w' ⟨rfl, k, os, rfl⟩
 refine ⟨_, rfl, ?_, S (digits i.toNat), ?_, rfl, rfl, rfl⟩
 ·exact ⟨rfl, rfl, rfl, by simp [Go.Sort.grow, World.drewN], fun b hb => Go.Sort.heap_grow_old (w.drewN k) os hb⟩
 ·simp only [Con, S]
  rw [digits_lib (by omega)]
  simp only [Lib.itoa, if_neg (show ¬ i < 0 by omega)]
  rfl
end Go.Proofs.Mv.App
open Go Go.Proofs Go.Proofs.Mv.V Go.RowKit
namespace Go.Proofs.Mv.App
theorem stX : Builder.Extra Tryz.prog Tryz.laysSt_ren where
 sizeBuilder := by kernel_rfl
 liesBuilder := by kernel_rfl
 t5 := Tryz.laysItoa.t5
 a5 := Tryz.laysItoa.a5
 z5 := Tryz.laysItoa.z5
 v5 := Tryz.laysItoa.v5
 infoByte := by kernel_rfl
 cellsByte := by kernel_rfl
 sizeByte := by kernel_rfl
 neB5 := by decide
end Go.Proofs.Mv.App
open Go Go.Proofs Go.Proofs.Mv.V Go.RowKit
namespace Go.Proofs.Mv.App
theorem isF_blw {B b : Nat} {T e : TypeId} {bs : List Value} {w w' : World} (h : Lib.IsBuilderF T e B b bs w) (hb : Blw w.heap.size w w') : Lib.IsBuilderF T e B b bs w' := by
 have hat : ∀ {p}, Lib.BuilderAtF T e B b p bs w → Lib.BuilderAtF T e B b p bs w' := by
  rintro p ⟨h1, v, h2, ⟨h3, h4⟩, h5⟩
  refine ⟨h1, v, by rw [hb.block _ (Array.getElem?_eq_some_iff.1 h2).1]; exact h2, ⟨h3, ?_⟩, h5⟩
  rcases h4 with h4 | ⟨g, cap, cur, fz, q1, q2, q3, q4⟩
  ·exact .inl h4
  ·exact .inr ⟨g, cap, cur, fz, q1, q2, by rw [hb.block _ (Array.getElem?_eq_some_iff.1 q3).1]; exact q3, q4⟩
 exact h.imp hat hat
theorem cWSk {B b : Nat} {l s : List UInt8} {w : World} (h : Lib.IsBuilderF 93 5 B b (Lib.byteCells l) w) (hl : l.length + s.length ≤ 140737488355328) (hB : B ≤ w.heap.size) :
  Calls Tryz.prog 47 #[.pointer (some ⟨b, 0, none⟩), .string (ofL s)] w fun e w' => e = .returned (.tuple #[.int .i64 (ofL s).size, .nilIface]) ∧ Lib.IsBuilderF 93 5 B b (Lib.byteCells (l ++ s)) w' ∧ Below B w w' ∧ Lib.OthersKept 5 (some b) w w' := by
 refine Calls.mono (show Calls Tryz.prog 47 _ _ _ from Any.Builder_WriteString_k { Tryz.laysJoin with } joinX B b (Lib.byteCells l) (ofL s) w h ?_ hB) ?_
 ·rw [Lib.byteCells_length]; have : (ofL s).size = s.length := by show (s.toArray).size = _; simp
  omega
 ·rintro e w' ⟨rfl, h1, h2, h3⟩
  refine ⟨rfl, .inr ?_, h2, h3⟩
  have : Lib.byteCells (l ++ s) = Lib.byteCells l ++ Lib.strCells (ofL s) := by rw [Lib.strCells_eq]; show _ = Lib.byteCells l ++ Lib.byteCells s; simp [Lib.byteCells]
  rw [this]; exact h1
theorem cSTk {B b : Nat} {l : List UInt8} {w : World} (h : Lib.IsBuilderF 93 5 B b (Lib.byteCells l) w) (hB : B ≤ w.heap.size) :
  Calls Tryz.prog 50 #[.pointer (some ⟨b, 0, none⟩)] w fun e w' => e = .returned (.string (ofL l)) ∧ Below B w w' :=
 (show Calls Tryz.prog 50 _ _ _ from Any.Builder_String_any_k { Tryz.laysSt with } stX B b l w h hB).mono fun e w' h => ⟨h.1, h.2.2.1⟩
theorem kept_cell {e : TypeId} {b : Nat} {w w' : World} (h : Lib.OthersKept e (some b) w w') {k o : Nat} {c : Array Value} {t : TypeId} {fz : Nat × Nat} (hk : w.heap[k]? = some (.cells c t fz)) (hb : k ≠ b) (ht : t ≠ e) {v : Value} (hv : w.cell? ⟨k, o, none⟩ = some v) : w'.cell? ⟨k, o, none⟩ = some v := by
 have h1 := h k _ hk (by simpa using hb) (fun c' fz' he => by injection he with _ h2 _; exact ht h2)
 rw [← hv]; simp only [World.cell?, h1, hk]
end Go.Proofs.Mv.App
open Go Go.Proofs Go.Proofs.Mv.V Go.RowKit
namespace Go.Proofs.Mv.App
theorem imp_cells {w : World} {ν : Nu} {F : Nat → Prop} {b : Nat} : ∀ (l : List Imp) (o : Nat), ConEs w ν F 4 (l.map impD) b o → ∀ (k : Nat) (h : k < l.length),
  w.cell? ⟨b, o + k * 4, none⟩ = some (.string (ofL l[k].pkg)) ∧ w.cell? ⟨b, o + k * 4 + 1, none⟩ = some (.int .i64 l[k].major) ∧
  w.cell? ⟨b, o + k * 4 + 2, none⟩ = some (.string (ofL l[k].mod)) ∧ w.cell? ⟨b, o + k * 4 + 3, none⟩ = some (.string (ofL l[k].as_))
 | [], _, _, k, h => by simp at h
 | p :: l, o, h, k, hk => by
  simp only [List.map_cons, ConEs, impD, ConCs] at h
  obtain ⟨_, ⟨⟨y0, c0, _, e0⟩, ⟨y1, c1, _, e1⟩, ⟨y2, c2, _, e2⟩, ⟨y3, c3, _, e3⟩, _⟩, hr⟩ := h
  cases k with
  | zero =>
   simp only [Con, S, I] at e0 e1 e2 e3
   subst e0; subst e1; subst e2; subst e3
   simpa using ⟨c0, c1, c2, c3⟩
  | succ k =>
   have := imp_cells l (o + 4) hr k (by simpa using hk)
   rw [show o + 4 + k * 4 = o + (k + 1) * 4 by omega] at this
   simpa using this
theorem sl_val {w : World} {ν : Nu} {F : Nat → Prop} {z : Nat} {es : List (List D)} {y : Value} (h : Con w ν F (.sl z es) y) : ∃ a n c, y = .slice a n c := by
 simp only [Con] at h
 rcases h with ⟨b, o, c, rfl, _⟩ | ⟨_, a, rfl⟩
 ·exact ⟨_, _, _, rfl⟩
 ·exact ⟨_, _, _, rfl⟩
theorem cIW {w : World} {ν : Nu} {F : Nat → Prop} {m : Mem} {n : Nat} (hst : St w ν F m n) {W : World} (hb : Blw w.heap.size w W) {i : Int} (h0 : 0 ≤ i) (h1 : i ≤ 9223372036854775807) :
  Calls Tryz.prog 48 #[.int .i64 i] W fun e w' => e = .returned (.string (ofL (digits i.toNat))) ∧ Blw W.heap.size W w' := by
 refine (calls_all (args := [I i]) (d := S (digits i.toNat)) (cItoa h0 h1 _ _) rfl (st_blw hst hb) (vals := #[.int .i64 i]) ?_).mono ?_
 ·simp [ConVs, Con, I]
 ·rintro e w' ⟨v, rfl, hb2, ν', F', hcv⟩
  simp only [Con, S] at hcv; subst hcv
  exact ⟨rfl, hb2⟩
end Go.Proofs.Mv.App
open Go Go.Proofs Go.Proofs.Mv.V
set_option maxRecDepth 10000
namespace Go.Proofs.Mv.App
structure LsInv (l : List Ty) (T : List (List UInt8)) (dn : D) (SL : List (List D)) (m : Mem) (n : Nat) (i : Nat) (σ : Nat → D) (m2 : Mem) (n2 : Nat) : Prop where
 h1 : σ 1 = dn
 h9 : σ 9 = .sl 7 SL
 h10 : σ 10 = I l.length
 h11 : σ 11 = I i
 le : i ≤ l.length
 nn : n ≤ n2
 fr : ∀ j, j < n → m2 j = m j
 ls : Lst m2 1 ((T.take i).map fun s => [S s]) (σ 5)
 kf : ∀ k, kof (σ 5) = some k → n ≤ k ∧ k < n2
set_option maxHeartbeats 2000000 in
theorem cList {l : List Ty} {ns : List (List UInt8)} {dn : D} (hdn : dn = sl1 ns ∧ ns.length = l.length ∨ dn = .v (.slice none 0 0) ∧ ns = []) (H : ∀ t ∈ l, ∀ m n, ACalls Tryz.prog 67 [.agg (tyD t)] m n (fun d m' n' => d = S (textT t) ∧ m' = m ∧ n' = n))
  (hlen : l.length ≤ 1000) (hb : ((textTs ns l).map fun s => s.length + comma.length).sum ≤ 1000000000) (m : Mem) (n : Nat) :
  ACalls Tryz.prog 118 [.sl 7 (tysD l), dn] m n (fun d m' n' => d = S (joinB comma (textTs ns l)) ∧ m' = m ∧ n' = n) := by
 refine acalls_done (R' := Hq (fun d m' n' => d = S (joinB comma (textTs ns l)) ∧ ∀ j, j < n → m' j = m j) tg) ?_ ?_
 ·have hL2 : (tysD l).length = l.length := by rw [tysD_eq]; simp
  have hG2 : ∀ i (h : i < l.length), (tysD l)[i]? = some (tyD l[i]) := fun i h => by rw [tysD_eq]; simp [h]
  generalize tysD l = SL at hL2 hG2
  have hTl := textTs_len ns l
  have hjl := joinB_len comma (textTs ns l)
  have hTn : ns.length = l.length → ∀ i (h : i < l.length) (h' : i < ns.length), (textTs ns l)[i]? = some (ns[i] ++ [58, 32] ++ textT l[i]) := fun e i h h' => textTs_get ns l i h h'
  have hT0 : ns = [] → ∀ i (h : i < l.length), (textTs ns l)[i]? = some (textT l[i]) := fun e i h => by rw [e]; exact textTs_get0 l i h
  have hsz : ∀ s ∈ textTs ns l, s.length ≤ 1000000000 := by
   intro s hs
   have : s.length + comma.length ≤ ((textTs ns l).map fun s => s.length + comma.length).sum := by
    clear hjl hTn hT0 hTl
    generalize textTs ns l = T at hs hb ⊢
    clear hb
    induction T with
    | nil => cases hs
    | cons x T ih =>
     rcases List.mem_cons.1 hs with rfl | hs
     ·simp
     ·have := ih hs; simp at this ⊢; omega
   omega
  generalize textTs ns l = T at hTl hjl hTn hT0 hsz hb
  have hfin : ∀ {d : D} {m2 : Mem} {n2 : Nat}, Lst m2 1 (T.map fun s => [S s]) d → ACalls Tryz.prog 182 [d, S comma] m2 n2 (fun d' m' n' => d' = S (joinB comma T) ∧ m' = m2 ∧ n' = n2) := fun h => cJoin h comma (by omega) (by omega) _
  simp only [comma, S] at hfin
  refine acalls_vc [0, 1, 4, 5, 6, 7, 8, 9, 10, 11, 12, 20] Tryz.func118 Tryz.ntmps118 (by kernel_rfl) rfl rfl (by simp) ?_
  simp -dsimp [hL2]
  refine vloop_of (β := Nat) (LsInv l T dn SL m n) (fun i => l.length - i) 0 ⟨by simp, by simp, by simp [I], by simp [I], by omega, by omega, by simp, ?_, ?_⟩ ?_
  ·first | exact Lst.nil | simp
  ·simp
  rintro i σ m2 n2 ⟨h1, h9, h10, h11, le, nn, fr, ls, kf⟩
  by_cases hi : (i : Int) < l.length
  ·have hi' : i < l.length := by omega
   have wi : IntKind.i64.wrap ((i : Int) + 1) = (i : Int) + 1 := wrap_i64 (by omega) (by omega)
   have hiN : i < SL.length := by omega
   have hgi : SL[i] = tyD l[i] := get_opt (hG2 i hi') hiN
   have hH := H l[i] (List.getElem_mem hi')
   have h77 := tyD_len l[i]
   generalize tyD l[i] = TT at hgi hH h77
   have ht7 : List.take 7 TT = TT := List.take_of_length_le (by omega)
   have hTi : i < T.length := by omega
   generalize hd5 : σ 5 = d5 at ls kf
   have nk : ∀ k, kof d5 = some k → k ≠ n2 := fun k hk => by have := kf k hk; omega
   have fin : ∀ {d : D} {m3 : Mem} {n3 : Nat}, Lst m3 1 ((T.take i).map (fun s => [S s]) ++ [[S T[i]]]) d → n2 + 1 + 1 ≤ n3 → (∀ k, kof d = some k → k < n3 ∧ (kof d5 = some k ∨ k = n2 + 1 + 1)) → (∀ j, j < n → m3 j = m j) →
     Lst m3 1 ((T.take (i + 1)).map fun s => [S s]) d ∧ (∀ k, kof d = some k → n ≤ k ∧ k < n3) := by
    intro d m3 n3 p1 p2 p3 p4
    refine ⟨?_, fun k hk => ?_⟩
    ·rw [take_snoc hTi, List.map_append]; exact p1
    ·have := p3 k hk
     rcases this.2 with e | e
     ·have := kf k e; omega
     ·omega
   simp -dsimp [h1, h9, h10, h11, hd5, I, hi, hi', hiN, hgi, h77, ht7]
   refine aCall_of (hH _ _) ?_
   rintro d m3 n3 ⟨rfl, rfl, rfl⟩
   rcases hdn with ⟨rfl, hn⟩ | ⟨rfl, rfl⟩
   ·have hpos : (0 : Int) < ns.length := by omega
    have hpos' : 0 < ns.length := by omega
    have hin : i < ns.length := by omega
    have hTe : T[i] = ns[i] ++ [58, 32] ++ textT l[i] := get_opt (hTn hn i hi' hin) hTi
    have hle := hsz T[i] (List.getElem_mem hTi)
    rw [hTe] at hle
    simp only [List.length_append, List.length_cons, List.length_nil] at hle
    simp -dsimp [h1, h9, h10, h11, hd5, I, S, sl1, hpos, hpos', hin]
    refine ⟨by omega, by omega, ?_⟩
    refine b4_append (ls.frame fun k hk => by have := kf k hk; rw [set_ne _ _ _ _ (by omega), set_ne _ _ _ _ (by omega)]) (fun k hk => by have := kf k hk; omega) trivial trivial (by omega) (by simp; omega) ?_
    intro d m6 n6 p1 p2 p3 p4
    simp -dsimp [h1, h9, h10, h11, wi]
    have q := fin (d := d) (m3 := m6) (n3 := n6) (by rw [hTe]; simpa [S] using p1) p2 p3 (fun j hj => by
     rw [p4 j (by omega) (fun e => by have := kf j e; omega), set_ne _ _ _ _ (by omega), set_ne _ _ _ _ (by omega)]; exact fr j hj)
    exact ⟨i + 1, by omega, by simp [sl1, S], by simp, by simp [I], by simp [I], by omega, by omega, fun j hj => by
     rw [p4 j (by omega) (fun e => by have := kf j e; omega), set_ne _ _ _ _ (by omega), set_ne _ _ _ _ (by omega)]; exact fr j hj, by simpa using q.1, by simpa using q.2⟩
   ·have hTe : T[i] = textT l[i] := get_opt (hT0 rfl i hi') hTi
    simp -dsimp [h1, h9, h10, h11, hd5, I, S]
    refine b4_append (ls.frame fun k hk => by have := kf k hk; rw [set_ne _ _ _ _ (by omega), set_ne _ _ _ _ (by omega)]) (fun k hk => by have := kf k hk; omega) trivial trivial (by omega) (by simp; omega) ?_
    intro d m6 n6 p1 p2 p3 p4
    simp -dsimp [h1, h9, h10, h11, wi]
    have q := fin (d := d) (m3 := m6) (n3 := n6) (by rw [hTe]; simpa [S] using p1) p2 p3 (fun j hj => by
     rw [p4 j (by omega) (fun e => by have := kf j e; omega), set_ne _ _ _ _ (by omega), set_ne _ _ _ _ (by omega)]; exact fr j hj)
    exact ⟨i + 1, by omega, by simp, by simp, by simp [I], by simp [I], by omega, by omega, fun j hj => by
     rw [p4 j (by omega) (fun e => by have := kf j e; omega), set_ne _ _ _ _ (by omega), set_ne _ _ _ _ (by omega)]; exact fr j hj, by simpa using q.1, by simpa using q.2⟩
  ·have ht : T.take i = T := List.take_of_length_le (by omega)
   rw [ht] at ls
   generalize hd5 : σ 5 = d5 at ls kf
   simp -dsimp [h1, h9, h10, h11, I, hi, hd5]
   refine aCall_of (hfin (by simpa [S] using ls)) ?_
   rintro d m3 n3 ⟨rfl, rfl, rfl⟩
   simp -dsimp [S]
   exact hq ⟨rfl, fr⟩
 ·rintro d m' n' ⟨rfl, h⟩
  exact ⟨_, (pur_S _).pub, h, rfl⟩
end Go.Proofs.Mv.App
open Go Go.Proofs Go.Proofs.Mv.V
set_option maxRecDepth 10000
namespace Go.Proofs.Mv.App
theorem manyTs_le_mem {t : Ty} : ∀ {l : List Ty}, t ∈ l → manyT t ≤ manyTs l
 | [], h => by cases h
 | x :: l, h => by
  simp only [manyTs]
  rcases List.mem_cons.1 h with rfl | h
  ·omega
  ·have := manyTs_le_mem h; omega
theorem text_small {t : Ty} (ha : allT t = true) (hm : manyT t ≤ 100000) : (textT t).length ≤ 13000000 := by
 have := text_len t ha; omega
theorem texts_small {l : List Ty} {ns : List (List UInt8)} (ha : allTs l = true) (hn : ∀ s ∈ ns, s.length ≤ 20) (hm : manyTs l ≤ 100000) : ((textTs ns l).map fun s => s.length + comma.length).sum ≤ 1000000000 := by
 have := texts_len l ns ha hn; omega
theorem dropLast_texts (l : List Ty) : (textTs [] l).dropLast = textTs [] l.dropLast := by
 rw [textTs_nil, textTs_nil, List.map_dropLast]
theorem last_texts {l : List Ty} (h : l ≠ []) : (textTs [] l).getLastD [] = textT (l.getLast h) := by
 rw [textTs_nil]
 conv => lhs; rw [← List.dropLast_concat_getLast h]
 simp
set_option maxHeartbeats 4000000 in
theorem cText {t : Ty} (ht : TyW t) : allT t = true → manyT t ≤ 100000 → ∀ (m : Mem) (n : Nat), ACalls Tryz.prog 67 [.agg (tyD t)] m n (fun d m' n' => d = S (textT t) ∧ m' = m ∧ n' = n) := by
 induction ht with
 | mk kind pkg major mod name names subs l1 l2 l3 l4 l5 l6 l7 ih =>
  intro ha hm m n
  refine acalls_done (R' := Hq (fun d m' n' => d = S (textT (.mk kind pkg major mod name names subs)) ∧ ∀ j, j < n → m' j = m j) tg) ?_ ?_
  ·have fr : ∀ o j, j < n → (m.set n o) j = m j := fun o j hj => by rw [set_ne _ _ _ _ (by omega)]
   have ha0 := ha
   simp only [allT, Bool.and_eq_true] at ha
   obtain ⟨hs, hall⟩ := ha
   obtain ⟨e1, e2, e3, e4, e5, e6⟩ := shape_sm hs
   obtain ⟨hn, hs⟩ := shape_parts hs
   simp only [manyT] at hm
   simp only [shapeK, Ty.kind, Ty.pkg, Ty.major, Ty.mod, Ty.name, Ty.names, Ty.subs] at hs hn e1 e2 e3 e4 e5 e6
   have hsub : ∀ t ∈ subs, ∀ (m : Mem) (n : Nat), ACalls Tryz.prog 67 [.agg (tyD t)] m n (fun d m' n' => d = S (textT t) ∧ m' = m ∧ n' = n) := fun t h => ih t h (allTs_mem hall t h) (by have := manyTs_le_mem h; omega)
   have hsm : ∀ t ∈ subs, (textT t).length ≤ 13000000 := fun t h => text_small (allTs_mem hall t h) (by have := manyTs_le_mem h; omega)
   have hLs : subs.length = names.length → ∀ m n, ACalls Tryz.prog 118 [.sl 7 (tysD subs), sl1 names] m n (fun d m' n' => d = S (joinB comma (textTs names subs)) ∧ m' = m ∧ n' = n) := fun e m n =>
    cList (.inl ⟨rfl, e.symm⟩) hsub (by omega) (texts_small hall e6 (by omega)) m n
   have hLb : (joinB comma (textTs names subs)).length ≤ 1000000000 := by
    have h1 := joinB_len comma (textTs names subs)
    have h2 := texts_small hall e6 (show manyTs subs ≤ 100000 by omega)
    omega
   have hdl : ∀ t ∈ subs.dropLast, t ∈ subs := fun t h => List.dropLast_subset subs h
   have hL7 : 1 ≤ subs.length → ∀ m n, ACalls Tryz.prog 118 [.sl 7 (tysD subs.dropLast), .v (.slice none 0 0)] m n (fun d m' n' => d = S (joinB comma (textTs [] subs).dropLast) ∧ m' = m ∧ n' = n) := fun e m n => by
    rw [dropLast_texts]
    refine cList (.inr ⟨rfl, rfl⟩) (fun t h => hsub t (hdl t h)) (by simp; omega) ?_ m n
    have h1 := texts_small (ns := []) hall (by simp) (show manyTs subs ≤ 100000 by omega)
    rw [← dropLast_texts]
    have h2 : ∀ q : List (List UInt8), ((q.dropLast).map fun s => s.length + comma.length).sum ≤ (q.map fun s => s.length + comma.length).sum := by
     intro q
     rcases List.eq_nil_or_concat q with e | ⟨r, x, e⟩
     ·rw [e]; simp
     ·rw [e]; simp
    exact Nat.le_trans (h2 _) h1
   simp only [tyD, sl1, textT] at hLs ⊢
   by_cases k1 : kind = 1
   ·subst k1
    generalize (names.map fun s => [S s]) = NL
    generalize tysD subs = SL
    refine acalls_vc [0, 1, 2, 3, 5, 6, 8, 10, 12, 21, 30, 39, 59, 80] Tryz.func67 Tryz.ntmps67 (by kernel_rfl) rfl rfl (by simp) ?_
    simp -dsimp [I, S]
    exact hq ⟨by simp [S, wInt], fr _⟩
   by_cases k2 : kind = 2
   ·subst k2
    generalize (names.map fun s => [S s]) = NL
    generalize tysD subs = SL
    refine acalls_vc [0, 1, 2, 3, 5, 6, 8, 10, 12, 21, 30, 39, 59, 80] Tryz.func67 Tryz.ntmps67 (by kernel_rfl) rfl rfl (by simp) ?_
    simp -dsimp [I, S]
    exact hq ⟨by simp [S, wText], fr _⟩
   by_cases k3 : kind = 3
   ·subst k3
    generalize (names.map fun s => [S s]) = NL
    generalize tysD subs = SL
    refine acalls_vc [0, 1, 2, 3, 5, 6, 8, 10, 12, 21, 30, 39, 59, 80] Tryz.func67 Tryz.ntmps67 (by kernel_rfl) rfl rfl (by simp) ?_
    simp -dsimp [I, S]
    exact hq ⟨by simp [S, wBool], fr _⟩
   simp only [k1, k2, k3, or_self, if_false] at hs ⊢
   by_cases k4 : kind = 4
   ·subst k4
    simp only [if_true, Bool.and_eq_true, decide_eq_true_eq, List.length_eq_zero_iff] at hs
    obtain ⟨⟨_, h1⟩, rfl⟩ := hs
    obtain ⟨u, rfl⟩ := List.length_eq_one_iff.1 h1
    have hu := hsub u (by simp)
    have hul := hsm u (by simp)
    have h77 := tyD_len u
    simp only [tysD]
    generalize tyD u = TT at hu h77
    have ht7 : List.take 7 TT = TT := List.take_of_length_le (by omega)
    refine acalls_vc [0, 1, 2, 3, 5, 6, 8, 10, 12, 21, 30, 39, 59, 80] Tryz.func67 Tryz.ntmps67 (by kernel_rfl) rfl rfl (by simp) ?_
    simp -dsimp [I, S, h77, ht7]
    refine aCall_of (hu _ _) ?_
    rintro d m' n' ⟨rfl, rfl, rfl⟩
    simp -dsimp [S]
    refine ⟨by omega, by omega, ?_⟩
    exact hq ⟨by simp [S, wList, textTs, joinB], fr _⟩
   have k1' : (kind == 1) = false := by simpa using k1
   have k2' : (kind == 2) = false := by simpa using k2
   have k3' : (kind == 3) = false := by simpa using k3
   have k4' : (kind == 4) = false := by simpa using k4
   simp only [k4, if_false] at hs ⊢
   by_cases k5 : kind = 5
   ·subst k5
    simp only [if_true, Bool.and_eq_true, decide_eq_true_eq] at hs
    have hc := hLs hs.1.2
    generalize (names.map fun s => [S s]) = NL at hc
    generalize tysD subs = SL at hc
    refine acalls_vc [0, 1, 2, 3, 5, 6, 8, 10, 12, 21, 30, 39, 59, 80] Tryz.func67 Tryz.ntmps67 (by kernel_rfl) rfl rfl (by simp) ?_
    simp -dsimp [I, S]
    refine aCall_of (hc _ _) ?_
    rintro d m' n' ⟨rfl, rfl, rfl⟩
    simp -dsimp [S]
    refine ⟨by omega, by omega, ?_⟩
    exact hq ⟨by simp [S], fr _⟩
   have k5' : (kind == 5) = false := by simpa using k5
   simp only [k5, if_false] at hs ⊢
   by_cases k6 : kind = 6
   ·subst k6
    simp only [if_true, Bool.and_eq_true, decide_eq_true_eq] at hs
    have hc := hLs hs.1.2
    generalize (names.map fun s => [S s]) = NL at hc
    generalize tysD subs = SL at hc
    refine acalls_vc [0, 1, 2, 3, 5, 6, 8, 10, 12, 21, 30, 39, 59, 80] Tryz.func67 Tryz.ntmps67 (by kernel_rfl) rfl rfl (by simp) ?_
    simp -dsimp [I, S]
    refine aCall_of (hc _ _) ?_
    rintro d m' n' ⟨rfl, rfl, rfl⟩
    simp -dsimp [S]
    refine ⟨by omega, by omega, ?_⟩
    exact hq ⟨by simp [S], fr _⟩
   have k6' : (kind == 6) = false := by simpa using k6
   simp only [k6, if_false] at hs ⊢
   by_cases k7 : kind = 7
   ·subst k7
    simp only [if_true, Bool.and_eq_true, decide_eq_true_eq] at hs
    have h1 := hs.1.2
    have hne : subs ≠ [] := by intro e; subst e; simp at h1
    have hc := hL7 h1
    have hlast := last_texts hne
    have hu := hsub _ (List.getLast_mem hne)
    have hul := hsm _ (List.getLast_mem hne)
    have hjb : (joinB comma (textTs [] subs).dropLast).length ≤ 1000000000 := by
     have := text_small ha0 (by simp only [manyT]; omega)
     simp [textT] at this
     omega
    have hL2 : (tysD subs).length = subs.length := by rw [tysD_eq]; simp
    have hgl : (tysD subs)[subs.length - 1]? = some (tyD (subs.getLast hne)) := by
     rw [tysD_eq, List.getElem?_map, List.getElem?_eq_getElem (by omega), List.getLast_eq_getElem]; rfl
    have hdr : tysD subs.dropLast = (tysD subs).take (subs.length - 1) := by
     rw [tysD_eq, tysD_eq, List.dropLast_eq_take, List.map_take]
    rw [hdr] at hc
    rw [hlast]
    have h77 := tyD_len (subs.getLast hne)
    have w1 : IntKind.i64.wrap ((subs.length : Int) - 1) = ((subs.length - 1 : Nat) : Int) := by rw [wrap_i64 (by omega) (by omega)]; omega
    obtain ⟨q, hq0⟩ : ∃ q, subs.length = q + 1 := ⟨subs.length - 1, by omega⟩
    simp only [hq0, Nat.add_sub_cancel] at w1 hgl hc
    generalize tyD (subs.getLast hne) = TT at hu h77 hgl
    have ht7 : List.take 7 TT = TT := List.take_of_length_le (by omega)
    generalize (names.map fun s => [S s]) = NL
    generalize tysD subs = SL at hc hgl hL2
    rw [hq0] at hL2
    have hqN : q < SL.length := by omega
    have hgi : SL[q] = TT := get_opt hgl hqN
    have w2 : IntKind.i64.wrap (q : Int) = (q : Int) := wrap_i64 (by omega) (by omega)
    refine acalls_vc [0, 1, 2, 3, 5, 6, 8, 10, 12, 21, 30, 39, 59, 80] Tryz.func67 Tryz.ntmps67 (by kernel_rfl) rfl rfl (by simp) ?_
    simp -dsimp [I, S, hL2, w1, w2]
    refine vdraw_tree [0, 1, 0, 7, 15, 31, 63, 0, 128, 0, 896, 1920, 3999, 8191, 16383] (.rd 0 (.rd 1 (.rd 2 (.rd 3 (.rd 7 (.rd 8 (.rd 9 (.rd 10 (.rd 11 (.wr (.cons 4 (.rd 5 (.rd 6 (.wr (.cons 12 (.rd 13 (.rd 14 (.fin))) (.nil))))) (.nil)))))))))))) (by kernel_rfl) (by kernel_rfl) ?_
    simp -dsimp [I, S, hL2, w1, w2, hqN, hgi, h77, ht7]
    refine ⟨by omega, by omega, ?_⟩
    refine aCall_of (hc _ _) ?_
    rintro d m' n' ⟨rfl, rfl, rfl⟩
    simp -dsimp [I, S, hL2, w1, w2, hqN, hgi, h77, ht7]
    refine ⟨by omega, by omega, ?_⟩
    refine aCall_of (hu _ _) ?_
    rintro d m' n' ⟨rfl, rfl, rfl⟩
    simp -dsimp [I, S, hL2, w1, w2, hqN, hgi, h77, ht7]
    refine ⟨by omega, hq ⟨by simp [S], fr _⟩⟩
   have k7' : (kind == 7) = false := by simpa using k7
   simp only [k7, if_false] at hs ⊢
   by_cases k9 : kind = 9
   ·subst k9
    simp only [if_true, show ¬ (9 : Int) = 8 by omega, if_false, Bool.and_eq_true, decide_eq_true_eq] at hs
    generalize (names.map fun s => [S s]) = NL
    generalize tysD subs = SL
    have hj := hs.1.2
    have hdl := digits_len major.toNat
    refine acalls_vc [0, 1, 2, 3, 5, 6, 8, 10, 12, 21, 30, 39, 59, 80] Tryz.func67 Tryz.ntmps67 (by kernel_rfl) rfl rfl (by simp) ?_
    simp -dsimp [I, S]
    refine vdraw_tree [0, 1, 3, 7, 0, 16, 48, 127, 255, 0, 512, 2047, 4095, 0, 8192, 32767, 65535, 131071] (.rd 0 (.rd 1 (.rd 2 (.rd 3 (.rd 4 (.rd 5 (.rd 9 (.rd 10 (.rd 13 (.rd 14 (.wr (.cons 6 (.rd 7 (.rd 8 (.rd 11 (.rd 12 (.rd 15 (.rd 16 (.rd 17 (.fin)))))))) (.nil))))))))))))) (by kernel_rfl) (by kernel_rfl) ?_
    simp -dsimp [I, S]
    refine ⟨by omega, by omega, ?_⟩
    refine aCall_of (cItoa (by omega) (by omega) _ _) ?_
    rintro d m' n' ⟨rfl, rfl, rfl⟩
    simp -dsimp [I, S]
    refine ⟨by omega, by omega, by omega, by omega, by omega, by omega, hq ⟨by simp [S], fr _⟩⟩
   have k9' : (kind == 9) = false := by simpa using k9
   simp only [k9, if_false] at hs ⊢
   generalize (names.map fun s => [S s]) = NL
   generalize tysD subs = SL
   by_cases em : mod = []
   ·subst em
    refine acalls_vc [0, 1, 2, 3, 5, 6, 8, 10, 12, 21, 30, 39, 59, 80] Tryz.func67 Tryz.ntmps67 (by kernel_rfl) rfl rfl (by simp) ?_
    simp -dsimp [I, S, k1', k2', k3', k4', k5', k6', k7', k9']
    exact hq ⟨by simp [S, k1, k2, k3, k4, k5, k6, k7, k9], fr _⟩
   ·have em' : (mod == []) = false := by simpa using em
    refine acalls_vc [0, 1, 2, 3, 5, 6, 8, 10, 12, 21, 30, 39, 59, 80] Tryz.func67 Tryz.ntmps67 (by kernel_rfl) rfl rfl (by simp) ?_
    simp -dsimp [I, S, k1', k2', k3', k4', k5', k6', k7', k9', em']
    refine ⟨by omega, by omega, ?_⟩
    exact hq ⟨by simp [S, em, k1, k2, k3, k4, k5, k6, k7, k9], fr _⟩
  ·rintro d m' n' ⟨rfl, h⟩
   exact ⟨_, (pur_S _).pub, h, rfl⟩
theorem may_parts {t : Ty} (h : mayT t = true) : allT t = true ∧ manyT t ≤ 500 ∧ deepT t ≤ 32 := by
 simp only [mayT, Bool.and_eq_true, decide_eq_true_eq] at h; exact ⟨h.1.1, h.1.2, h.2⟩
def argE (ok : Bool) : D := if ok then nilE else .iface 47 (.v (.int .i64 1))
theorem cPrintT {t : Ty} (ht : TyW t) (m : Mem) (n : Nat) : ACalls Tryz.prog 28 [.agg (tyD t)] m n (fun d m' n' => d = .tup [S (if mayT t then textT t else []), argE (mayT t)] ∧ m' = m ∧ n' = n) := by
 refine acalls_done (R' := Hq (fun d m' n' => d = .tup [S (if mayT t then textT t else []), argE (mayT t)] ∧ ∀ j, j < n → m' j = m j) tg) ?_ ?_
 ·have h7 := tyD_len t
  have hc := fun m n => cMay ht m n
  have hx := fun h m n => cText ht (may_parts h).1 (by have := (may_parts h).2.1; omega) m n
  generalize tyD t = TT at h7 hc hx
  have ht7 : List.take 7 TT = TT := List.take_of_length_le (by omega)
  refine acalls_vc [0, 1, 2, 3, 6] Tryz.func28 Tryz.ntmps28 (by kernel_rfl) rfl rfl (by simp) ?_
  simp -dsimp [h7, ht7]
  refine aCall_of (hc _ _) ?_
  rintro d m' n' ⟨rfl, rfl, rfl⟩
  cases hm : mayT t with
  | false =>
   simp -dsimp [I, Tt]
   exact hq ⟨by simp [S, argE], fun j hj => by rw [set_ne _ _ _ _ (by omega)]⟩
  | true =>
   simp -dsimp [I, Tt, h7, ht7]
   refine aCall_of (hx hm _ _) ?_
   rintro d m' n' ⟨rfl, rfl, rfl⟩
   simp -dsimp [I, Tt]
   exact hq ⟨by simp [S, argE, nilE], fun j hj => by rw [set_ne _ _ _ _ (by omega)]⟩
 ·rintro d m' n' ⟨rfl, h⟩
  refine ⟨_, pub_pair (pur_S _).pub ?_, h, rfl⟩
  unfold argE
  cases mayT t
  ·exact (pur_code _).pub
  ·exact pur_nilE.pub
end Go.Proofs.Mv.App
