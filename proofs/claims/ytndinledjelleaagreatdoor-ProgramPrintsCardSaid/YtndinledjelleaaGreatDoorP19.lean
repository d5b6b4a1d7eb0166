/- A part of the proofs: machine, contracts, laws. No condition of its own. -/
import Derived.Shelf.LaysC
import Derived.Ground.NamesProg
import Derived.Test.YtndinledjelleaaGreatDoorProg
import Derived.Test.YtndinledjelleaaGreatDoorP00
import Derived.Test.YtndinledjelleaaGreatDoorP02
import Derived.Shelf.Strconv.AtoiAll
set_option linter.unusedSimpArgs false
set_option linter.unusedVariables false
set_option linter.unusedSectionVars false
namespace Go.Proofs
open Go.Shelf
def Tryz.laysAtoi_ren : Go.Shelf.Ren := ⟨fun | 172 => 147 | 244 => 212 | 245 => 213 | 247 => 266 | 279 => 267 | 280 => 268 | 281 => 269 | 282 => 270 | 287 => 271 | 316 => 311 | 171 => 48 | 205 => 312 | 321 => 313 | 322 => 314 | 243 => 97 | 246 => 151 | 283 => 216 | 284 => 217 | 285 => 218 | 286 => 219 | 129 => 273 | 317 => 272 | 318 => 274 | 319 => 275 | 320 => 276 | 337 => 315 | 338 => 316 | n => n, fun | 9 => 9 | 3 => 3 | 75 => 35 | 76 => 96 | 4 => 4 | 5 => 5 | 167 => 287 | 37 => 91 | 0 => 0 | 85 => 288 | 2 => 2 | 168 => 290 | 53 => 246 | 175 => 247 | 46 => 286 | 210 => 319 | 127 => 148 | 145 => 340 | 143 => 338 | 21 => 21 | 171 => 249 | 173 => 252 | 212 => 295 | 51 => 296 | 20 => 20 | 213 => 297 | 232 => 341 | 233 => 342 | 80 => 100 | n => n, fun | 15 => 2 | 16 => 3 | 17 => 1 | 18 => 5 | 19 => 6 | n => n⟩
theorem Tryz.laysAtoi : Go.Proofs.LaysC.n172 Tryz.prog Tryz.laysAtoi_ren := {
 mixed := by kernel_rfl
 f129 := Tryz.func273.trans (congrArg some (by kernel_rfl))
 f171 := Tryz.func48.trans (congrArg some (by kernel_rfl))
 f172 := Tryz.func147.trans (congrArg some (by kernel_rfl))
 f205 := Tryz.func312.trans (congrArg some (by kernel_rfl))
 f243 := Tryz.func97.trans (congrArg some (by kernel_rfl))
 f244 := Tryz.func212.trans (congrArg some (by kernel_rfl))
 f245 := Tryz.func213.trans (congrArg some (by kernel_rfl))
 f246 := Tryz.func151.trans (congrArg some (by kernel_rfl))
 f247 := Tryz.func266.trans (congrArg some (by kernel_rfl))
 f279 := Tryz.func267.trans (congrArg some (by kernel_rfl))
 f280 := Tryz.func268.trans (congrArg some (by kernel_rfl))
 f281 := Tryz.func269.trans (congrArg some (by kernel_rfl))
 f282 := Tryz.func270.trans (congrArg some (by kernel_rfl))
 f283 := Tryz.func216.trans (congrArg some (by kernel_rfl))
 f284 := Tryz.func217.trans (congrArg some (by kernel_rfl))
 f285 := Tryz.func218.trans (congrArg some (by kernel_rfl))
 f286 := Tryz.func219.trans (congrArg some (by kernel_rfl))
 f287 := Tryz.func271.trans (congrArg some (by kernel_rfl))
 f316 := Tryz.func311.trans (congrArg some (by kernel_rfl))
 f317 := Tryz.func272.trans (congrArg some (by kernel_rfl))
 f318 := Tryz.func274.trans (congrArg some (by kernel_rfl))
 f319 := Tryz.func275.trans (congrArg some (by kernel_rfl))
 f320 := Tryz.func276.trans (congrArg some (by kernel_rfl))
 f321 := Tryz.func313.trans (congrArg some (by kernel_rfl))
 f322 := Tryz.func314.trans (congrArg some (by kernel_rfl))
 f337 := Tryz.func315.trans (congrArg some (by kernel_rfl))
 f338 := Tryz.func316.trans (congrArg some (by kernel_rfl))
 t0 := Tryz.underlying0
 a0 := Tryz.isAgg0
 z0 := Tryz.sizeOf0
 v0 := Tryz.zeroValue0
 t2 := Tryz.underlying2
 a2 := Tryz.isAgg2
 z2 := Tryz.sizeOf2
 v2 := Tryz.zeroValue2
 t3 := Tryz.underlying3
 a3 := Tryz.isAgg3
 z3 := Tryz.sizeOf3
 v3 := Tryz.zeroValue3
 t4 := Tryz.underlying4
 a4 := Tryz.isAgg4
 z4 := Tryz.sizeOf4
 v4 := Tryz.zeroValue4
 t5 := Tryz.underlying5
 a5 := Tryz.isAgg5
 z5 := Tryz.sizeOf5
 v5 := Tryz.zeroValue5
 t9 := Tryz.underlying9
 a9 := Tryz.isAgg9
 z9 := Tryz.sizeOf9
 v9 := Tryz.zeroValue9
 t20 := Tryz.underlying20
 a20 := Tryz.isAgg20
 z20 := Tryz.sizeOf20
 v20 := Tryz.zeroValue20
 t21 := Tryz.underlying21
 a21 := Tryz.isAgg21
 z21 := Tryz.sizeOf21
 v21 := Tryz.zeroValue21
 t37 := Tryz.underlying91
 a37 := Tryz.isAgg91
 z37 := Tryz.sizeOf91
 v37 := Tryz.zeroValue91
 t46 := Tryz.underlying286
 a46 := Tryz.isAgg286
 z46 := Tryz.sizeOf286
 v46 := Tryz.zeroValue286
 t51 := Tryz.underlying296
 a51 := Tryz.isAgg296
 z51 := Tryz.sizeOf296
 v51 := Tryz.zeroValue296
 t53 := Tryz.underlying246
 a53 := Tryz.isAgg246
 z53 := Tryz.sizeOf246
 v53 := Tryz.zeroValue246
 t75 := Tryz.underlying35
 a75 := Tryz.isAgg35
 z75 := Tryz.sizeOf35
 v75 := Tryz.zeroValue35
 t76 := Tryz.underlying96
 a76 := Tryz.isAgg96
 z76 := Tryz.sizeOf96
 v76 := Tryz.zeroValue96
 t85 := Tryz.underlying288
 a85 := Tryz.isAgg288
 z85 := Tryz.sizeOf288
 v85 := Tryz.zeroValue288
 t127 := Tryz.underlying148
 a127 := Tryz.isAgg148
 z127 := Tryz.sizeOf148
 v127 := Tryz.zeroValue148
 t143 := Tryz.underlying338
 a143 := Tryz.isAgg338
 z143 := Tryz.sizeOf338
 v143 := Tryz.zeroValue338
 t145 := Tryz.underlying340
 a145 := Tryz.isAgg340
 z145 := Tryz.sizeOf340
 v145 := Tryz.zeroValue340
 t167 := Tryz.underlying287
 a167 := Tryz.isAgg287
 z167 := Tryz.sizeOf287
 v167 := Tryz.zeroValue287
 t168 := Tryz.underlying290
 a168 := Tryz.isAgg290
 z168 := Tryz.sizeOf290
 v168 := Tryz.zeroValue290
 t171 := Tryz.underlying249
 a171 := Tryz.isAgg249
 z171 := Tryz.sizeOf249
 v171 := Tryz.zeroValue249
 t173 := Tryz.underlying252
 a173 := Tryz.isAgg252
 z173 := Tryz.sizeOf252
 v173 := Tryz.zeroValue252
 t175 := Tryz.underlying247
 a175 := Tryz.isAgg247
 z175 := Tryz.sizeOf247
 v175 := Tryz.zeroValue247
 t210 := Tryz.underlying319
 a210 := Tryz.isAgg319
 z210 := Tryz.sizeOf319
 v210 := Tryz.zeroValue319
 t212 := Tryz.underlying295
 a212 := Tryz.isAgg295
 z212 := Tryz.sizeOf295
 v212 := Tryz.zeroValue295
 t213 := Tryz.underlying297
 a213 := Tryz.isAgg297
 z213 := Tryz.sizeOf297
 t232 := Tryz.underlying341
 a232 := Tryz.isAgg341
 z232 := Tryz.sizeOf341
 v232 := Tryz.zeroValue341
 t233 := Tryz.underlying342
 a233 := Tryz.isAgg342
 z233 := Tryz.sizeOf342
 v233 := Tryz.zeroValue342
 g15 := by kernel_rfl
 g16 := by kernel_rfl
 g17 := by kernel_rfl
 g18 := by kernel_rfl
 g19 := by kernel_rfl
 t80 := Tryz.underlying100
 a80 := Tryz.isAgg100
 z80 := Tryz.sizeOf100
 v80 := Tryz.zeroValue100
 i0 := by kernel_rfl
 i2 := by kernel_rfl
 i3 := by kernel_rfl
 i4 := by kernel_rfl
 i5 := by kernel_rfl
 i9 := by kernel_rfl
 i20 := by kernel_rfl
 i21 := by kernel_rfl
 i37 := by kernel_rfl
 i46 := by kernel_rfl
 i51 := by kernel_rfl
 i53 := by kernel_rfl
 i75 := by kernel_rfl
 i76 := by kernel_rfl
 i80 := by kernel_rfl
 i85 := by kernel_rfl
 i127 := by kernel_rfl
 i143 := by kernel_rfl
 i145 := by kernel_rfl
 i167 := by kernel_rfl
 i168 := by kernel_rfl
 i171 := by kernel_rfl
 i173 := by kernel_rfl
 i175 := by kernel_rfl
 i210 := by kernel_rfl
 i212 := by kernel_rfl
 i232 := by kernel_rfl
 i233 := by kernel_rfl
 m15 := by kernel_rfl
 m16 := by kernel_rfl
 m17 := by kernel_rfl
 m18 := by kernel_rfl
 m19 := by kernel_rfl
 c0 := by kernel_rfl
 c2 := by kernel_rfl
 c3 := by kernel_rfl
 c4 := by kernel_rfl
 c5 := by kernel_rfl
 c9 := by kernel_rfl
 c20 := by kernel_rfl
 c21 := by kernel_rfl
 c37 := by kernel_rfl
 c46 := by kernel_rfl
 c51 := by kernel_rfl
 c53 := by kernel_rfl
 c75 := by kernel_rfl
 c76 := by kernel_rfl
 c80 := by kernel_rfl
 c85 := by kernel_rfl
 c127 := by kernel_rfl
 c143 := by kernel_rfl
 c145 := by kernel_rfl
 c167 := by kernel_rfl
 c168 := by kernel_rfl
 c171 := by kernel_rfl
 c173 := by kernel_rfl
 c175 := by kernel_rfl
 c210 := by kernel_rfl
 c212 := by kernel_rfl
 c213 := by kernel_rfl
 c232 := by kernel_rfl
 c233 := by kernel_rfl }
end Go.Proofs
open Go Go.Proofs Go.Proofs.Mv.V Go.RowKit
set_option maxRecDepth 10000
namespace Go.Proofs.Mv.App
theorem pu_ok : ∀ (s : List UInt8) (acc : Nat), s.all isDigit = true → decA acc s ≤ 4294967295 → Lib.parseUint10 acc s = .ok (decA acc s)
 | [], acc, _, _ => rfl
 | x :: s, acc, h, hle => by
  simp only [List.all_cons, Bool.and_eq_true] at h
  have hx : 48 ≤ x.toNat ∧ x.toNat ≤ 57 := by have := h.1; simpa [isDigit] using this
  rw [decA_cons] at hle ⊢
  have hm := decA_mono s (10 * acc + (x.toNat - 48))
  rw [Lib.parseUint10, if_pos hx, if_neg (by omega), if_neg (by omega), Nat.mul_comm acc 10]
  exact pu_ok s _ h.2 hle
theorem atoi_num {s : List UInt8} (h : numOk s = true) : Lib.atoiAll s = .ok (decF s : Int) := by
 have hp := (of_numOk h).1
 have hle := (of_numOk h).2.2.1
 simp only [numOk, Bool.and_eq_true, decide_eq_true_eq] at h
 obtain ⟨⟨⟨h1, h2⟩, h3⟩, h4⟩ := h
 match s, h1, h3 with
 | x :: r, h1, h3 =>
  have h3' := h3
  simp only [List.all_cons, Bool.and_eq_true] at h3
  have hx : 48 ≤ x.toNat ∧ x.toNat ≤ 57 := by have := h3.1; simpa [isDigit] using this
  have n1 : ¬ (x.toNat = 43 ∨ x.toNat = 45) := by omega
  have n2 : ¬ x.toNat = 45 := by omega
  have hm : Lib.parseMag (x :: r) = .ok (decF (x :: r)) := by
   rw [Lib.parseMag, if_neg (by simp)]
   exact pu_ok (x :: r) 0 h3' (by show decF _ ≤ _; omega)
  have hb : ¬ 9223372036854775808 ≤ decF (x :: r) := by omega
  simp only [Lib.atoiAll, if_neg n1]
  rw [hm]
  simp [n2, hb]
theorem cAtoiN {s : List UInt8} (h : numOk s = true) (m : Mem) (n : Nat) : ACalls Tryz.prog 147 [S s] m n (fun d m' n' => d = .tup [I (decF s), nilE] ∧ m' = m ∧ n' = n) := by
 refine acalls_lib ⟨_, Tryz.func147, by kernel_rfl, by kernel_rfl⟩ fun w ν F vals hst hv => ?_
 obtain ⟨a, rfl, h1⟩ := conVs_arr1 hv
 simp only [Con, S] at h1
 subst h1
 have hsz : (ofL s).size = s.length := by show (s.toArray).size = _; simp
 have hl : s.length ≤ 9 := by simp only [numOk, Bool.and_eq_true, decide_eq_true_eq] at h; omega
 refine Calls.mono (show Calls Tryz.prog 147 _ _ _ from Any.strconv_Atoi_ok Tryz.laysAtoi (ofL s) (by omega) (decF s) (atoi_num h) w) ?_
 rintro e w' ⟨rfl, hw⟩
 refine ⟨_, rfl, ?_, .tup [I (decF s), nilE], ?_, rfl, rfl, rfl⟩
 ·rcases hw with rfl | ⟨t, rfl⟩
  ·exact Below.refl _ _
  ·exact Lib.bytesWorld_below _ _ _
 ·simp [Con, ConVs, nilE, I]
end Go.Proofs.Mv.App
open Go Go.Proofs Go.Proofs.Mv.V Go.RowKit Go.Extern.Stop Go.Stop Go.Extern
set_option maxRecDepth 10000
namespace Go.Proofs.Mv.V
set_option maxHeartbeats 4000000 in
theorem alone_calls (pb po : Nat) (at_ c : Int) (w : World) (hg : w.cell? ⟨0, 0, none⟩ = some tyErr) (h0 : w.cell? ⟨pb, po, none⟩ = some (.int .i64 at_)) (h1 : w.cell? ⟨pb, po + 1, none⟩ = some (.iface 47 (.int .i64 c))) :
  Calls Tryz.prog 63 #[.iface 77 (.pointer (some ⟨pb, po, none⟩))] w fun e w' => e = .returned (.iface 47 (.int .i64 c)) ∧ Below w.heap.size w w' := by
 have hlt : pb < w.heap.size := by
  rcases Nat.lt_or_ge pb w.heap.size with h | h
  ·exact h
  ·simp [World.cell?, Array.getElem?_eq_none h] at h0
 have hlg : 0 < w.heap.size := by
  rcases Nat.lt_or_ge 0 w.heap.size with h | h
  ·exact h
  ·simp [World.cell?, Array.getElem?_eq_none h] at hg
 have hgA : (w.alloc (.cells #[.pointer none] 77)).cell? ⟨0, 0, none⟩ = some tyErr := by
  rw [World.cell?_alloc_lt _ _ ⟨0, 0, none⟩ hlg]; exact hg
 have htA : (w.alloc (.cells #[.pointer none] 77)).cell? ⟨w.heap.size, 0, none⟩ = some (.pointer none) := by simp
 have hfA : (w.alloc (.cells #[.pointer none] 77)).frozen? ⟨w.heap.size, 0, none⟩ = false := by simp
 go_enter Tryz.func63, Tryz.ntmps63
 go_wp2_with (go_at_call 42; refine (as_hit' ⟨pb, po, none⟩ w.heap.size (.pointer none) _ hgA htA hfA).mono ?_)
 rintro e W1 ⟨rfl, hc, hb⟩
 have hb1 : Below w.heap.size w W1 := (Below.alloc (Below.refl _ _) (Nat.le_refl _) _).trans hb
 have c1 : W1.cell? ⟨pb, po + 1, none⟩ = some (.iface 47 (.int .i64 c)) := (hb1.cell (show (⟨pb, po + 1, none⟩ : Addr).block < w.heap.size from hlt)).trans h1
 clear hb hgA htA hfA h0 h1 hg
 go_wp2
 go_ret
 exact ⟨rfl, hb1⟩
theorem a_alone (t : Option (Nat × Nat)) (at_ c : Int) (m : Mem) (n : Nat) : ACalls Tryz.prog 63 [spotD t at_ c] m n (fun d m' n' => d = .iface 47 (.v (.int .i64 c)) ∧ m' = m ∧ n' = n) := by
 refine acalls_lib ⟨_, Tryz.func63, by kernel_rfl, by kernel_rfl⟩ fun w ν F vals hst hv => ?_
 obtain ⟨x, rfl, h1⟩ := conVs_arr1 hv
 simp only [Con, ConCs] at h1
 obtain ⟨y', rfl, b, o, rfl, hF, _, ⟨y1, hc1, _, rfl⟩, ⟨y2, hc2, _, y3, rfl, rfl⟩, _⟩ := h1
 refine (alone_calls b o at_ c w hst.gi.c0 hc1 hc2).mono ?_
 rintro e w' ⟨rfl, hb⟩
 exact ⟨_, rfl, hb, .iface 47 (.v (.int .i64 c)), by simp [Con], rfl, rfl, rfl⟩
end Go.Proofs.Mv.V
