/- A part of the proofs of the seat YtnkkmhjiimbchaaGreatDoor: the abstract machine, the contracts of the functions, the laws. No condition of its own. -/
import Derived.Test.YtnkkmhjiimbchaaGreatDoorProg
import Derived.KernelRfl
import Derived.Test.YtnkkmhjiimbchaaGreatDoorMvD
set_option linter.unusedSimpArgs false
set_option linter.unusedVariables false
set_option linter.unusedSectionVars false
namespace Go.Proofs.Mv.V.Ty
@[simp] theorem z0 : tsz Tryz.prog 0 = some 1 := by kernel_rfl
@[simp] theorem c0 : tcode Tryz.prog 0 = 10 := by kernel_rfl
@[simp] theorem i0 : tint Tryz.prog 0 = none := by kernel_rfl
@[simp] theorem q0 : tcomp Tryz.prog 0 = false := by kernel_rfl
@[simp] theorem y0 : tbyte Tryz.prog 0 = false := by kernel_rfl
@[simp] theorem z1 : tsz Tryz.prog 1 = some 1 := by kernel_rfl
@[simp] theorem c1 : tcode Tryz.prog 1 = 7 := by kernel_rfl
@[simp] theorem i1 : tint Tryz.prog 1 = none := by kernel_rfl
@[simp] theorem a1 : tagg Tryz.prog 1 = some false := by kernel_rfl
@[simp] theorem o1 : tzero Tryz.prog 1 = some [.nilFunc] := by kernel_rfl
@[simp] theorem q1 : tcomp Tryz.prog 1 = false := by kernel_rfl
@[simp] theorem y1 : tbyte Tryz.prog 1 = false := by kernel_rfl
@[simp] theorem z2 : tsz Tryz.prog 2 = some 1 := by kernel_rfl
@[simp] theorem c2 : tcode Tryz.prog 2 = 2 := by kernel_rfl
@[simp] theorem i2 : tint Tryz.prog 2 = some .i64 := by kernel_rfl
@[simp] theorem a2 : tagg Tryz.prog 2 = some false := by kernel_rfl
@[simp] theorem o2 : tzero Tryz.prog 2 = some [.int .i64 0] := by kernel_rfl
@[simp] theorem q2 : tcomp Tryz.prog 2 = true := by kernel_rfl
@[simp] theorem y2 : tbyte Tryz.prog 2 = false := by kernel_rfl
@[simp] theorem z3 : tsz Tryz.prog 3 = some 1 := by kernel_rfl
@[simp] theorem c3 : tcode Tryz.prog 3 = 2 := by kernel_rfl
@[simp] theorem i3 : tint Tryz.prog 3 = some .i64 := by kernel_rfl
@[simp] theorem a3 : tagg Tryz.prog 3 = some false := by kernel_rfl
@[simp] theorem o3 : tzero Tryz.prog 3 = some [.int .i64 0] := by kernel_rfl
@[simp] theorem q3 : tcomp Tryz.prog 3 = true := by kernel_rfl
@[simp] theorem y3 : tbyte Tryz.prog 3 = false := by kernel_rfl
@[simp] theorem z4 : tsz Tryz.prog 4 = some 1 := by kernel_rfl
@[simp] theorem c4 : tcode Tryz.prog 4 = 1 := by kernel_rfl
@[simp] theorem i4 : tint Tryz.prog 4 = none := by kernel_rfl
@[simp] theorem a4 : tagg Tryz.prog 4 = some false := by kernel_rfl
@[simp] theorem o4 : tzero Tryz.prog 4 = some [.bool false] := by kernel_rfl
@[simp] theorem q4 : tcomp Tryz.prog 4 = true := by kernel_rfl
@[simp] theorem y4 : tbyte Tryz.prog 4 = false := by kernel_rfl
@[simp] theorem z5 : tsz Tryz.prog 5 = some 1 := by kernel_rfl
@[simp] theorem c5 : tcode Tryz.prog 5 = 2 := by kernel_rfl
@[simp] theorem i5 : tint Tryz.prog 5 = some .u8 := by kernel_rfl
@[simp] theorem a5 : tagg Tryz.prog 5 = some false := by kernel_rfl
@[simp] theorem o5 : tzero Tryz.prog 5 = some [.int .u8 0] := by kernel_rfl
@[simp] theorem q5 : tcomp Tryz.prog 5 = true := by kernel_rfl
@[simp] theorem y5 : tbyte Tryz.prog 5 = false := by kernel_rfl
@[simp] theorem z9 : tsz Tryz.prog 9 = some 1 := by kernel_rfl
@[simp] theorem c9 : tcode Tryz.prog 9 = 3 := by kernel_rfl
@[simp] theorem i9 : tint Tryz.prog 9 = none := by kernel_rfl
@[simp] theorem a9 : tagg Tryz.prog 9 = some false := by kernel_rfl
@[simp] theorem o9 : tzero Tryz.prog 9 = some [.string (ofL [])] := by kernel_rfl
@[simp] theorem q9 : tcomp Tryz.prog 9 = true := by kernel_rfl
@[simp] theorem y9 : tbyte Tryz.prog 9 = false := by kernel_rfl
@[simp] theorem z12 : tsz Tryz.prog 12 = some 1 := by kernel_rfl
@[simp] theorem c12 : tcode Tryz.prog 12 = 2 := by kernel_rfl
@[simp] theorem i12 : tint Tryz.prog 12 = some .u64 := by kernel_rfl
@[simp] theorem a12 : tagg Tryz.prog 12 = some false := by kernel_rfl
@[simp] theorem o12 : tzero Tryz.prog 12 = some [.int .u64 0] := by kernel_rfl
@[simp] theorem q12 : tcomp Tryz.prog 12 = true := by kernel_rfl
@[simp] theorem y12 : tbyte Tryz.prog 12 = false := by kernel_rfl
@[simp] theorem z20 : tsz Tryz.prog 20 = some 1 := by kernel_rfl
@[simp] theorem c20 : tcode Tryz.prog 20 = 6 := by kernel_rfl
@[simp] theorem i20 : tint Tryz.prog 20 = none := by kernel_rfl
@[simp] theorem a20 : tagg Tryz.prog 20 = some false := by kernel_rfl
@[simp] theorem o20 : tzero Tryz.prog 20 = some [.nilIface] := by kernel_rfl
@[simp] theorem q20 : tcomp Tryz.prog 20 = true := by kernel_rfl
@[simp] theorem y20 : tbyte Tryz.prog 20 = false := by kernel_rfl
@[simp] theorem z21 : tsz Tryz.prog 21 = some 1 := by kernel_rfl
@[simp] theorem c21 : tcode Tryz.prog 21 = 2 := by kernel_rfl
@[simp] theorem i21 : tint Tryz.prog 21 = some .i32 := by kernel_rfl
@[simp] theorem a21 : tagg Tryz.prog 21 = some false := by kernel_rfl
@[simp] theorem o21 : tzero Tryz.prog 21 = some [.int .i32 0] := by kernel_rfl
@[simp] theorem q21 : tcomp Tryz.prog 21 = true := by kernel_rfl
@[simp] theorem y21 : tbyte Tryz.prog 21 = false := by kernel_rfl
@[simp] theorem z22 : tsz Tryz.prog 22 = some 1 := by kernel_rfl
@[simp] theorem c22 : tcode Tryz.prog 22 = 5 := by kernel_rfl
@[simp] theorem i22 : tint Tryz.prog 22 = none := by kernel_rfl
@[simp] theorem a22 : tagg Tryz.prog 22 = some false := by kernel_rfl
@[simp] theorem o22 : tzero Tryz.prog 22 = some [.slice none 0 0] := by kernel_rfl
@[simp] theorem q22 : tcomp Tryz.prog 22 = false := by kernel_rfl
@[simp] theorem e22 : telem Tryz.prog 22 = some (1, 16) := by kernel_rfl
@[simp] theorem w22 : tezero Tryz.prog 22 = some [.string (ofL [])] := by kernel_rfl
@[simp] theorem y22 : tbyte Tryz.prog 22 = false := by kernel_rfl
@[simp] theorem z23 : tsz Tryz.prog 23 = some 3 := by kernel_rfl
@[simp] theorem c23 : tcode Tryz.prog 23 = 8 := by kernel_rfl
@[simp] theorem i23 : tint Tryz.prog 23 = none := by kernel_rfl
@[simp] theorem a23 : tagg Tryz.prog 23 = some true := by kernel_rfl
@[simp] theorem o23 : tzero Tryz.prog 23 = some [.string (ofL []), .slice none 0 0, .slice none 0 0] := by kernel_rfl
@[simp] theorem q23 : tcomp Tryz.prog 23 = false := by kernel_rfl
@[simp] theorem y23 : tbyte Tryz.prog 23 = false := by kernel_rfl
@[simp] theorem f23_0 : tfld Tryz.prog 23 0 = some (0, false, 1) := by kernel_rfl
@[simp] theorem f23_1 : tfld Tryz.prog 23 1 = some (1, false, 1) := by kernel_rfl
@[simp] theorem f23_2 : tfld Tryz.prog 23 2 = some (2, false, 1) := by kernel_rfl
@[simp] theorem p23 : tplaces Tryz.prog 23 = some [(0, 1), (1, 1), (2, 1)] := by kernel_rfl
@[simp] theorem z24 : tsz Tryz.prog 24 = some 3 := by kernel_rfl
@[simp] theorem c24 : tcode Tryz.prog 24 = 8 := by kernel_rfl
@[simp] theorem i24 : tint Tryz.prog 24 = none := by kernel_rfl
@[simp] theorem a24 : tagg Tryz.prog 24 = some true := by kernel_rfl
@[simp] theorem o24 : tzero Tryz.prog 24 = some [.string (ofL []), .slice none 0 0, .slice none 0 0] := by kernel_rfl
@[simp] theorem q24 : tcomp Tryz.prog 24 = false := by kernel_rfl
@[simp] theorem y24 : tbyte Tryz.prog 24 = false := by kernel_rfl
@[simp] theorem f24_0 : tfld Tryz.prog 24 0 = some (0, false, 1) := by kernel_rfl
@[simp] theorem f24_1 : tfld Tryz.prog 24 1 = some (1, false, 1) := by kernel_rfl
@[simp] theorem f24_2 : tfld Tryz.prog 24 2 = some (2, false, 1) := by kernel_rfl
@[simp] theorem p24 : tplaces Tryz.prog 24 = some [(0, 1), (1, 1), (2, 1)] := by kernel_rfl
@[simp] theorem z26 : tsz Tryz.prog 26 = some 1 := by kernel_rfl
@[simp] theorem c26 : tcode Tryz.prog 26 = 5 := by kernel_rfl
@[simp] theorem i26 : tint Tryz.prog 26 = none := by kernel_rfl
@[simp] theorem a26 : tagg Tryz.prog 26 = some false := by kernel_rfl
@[simp] theorem o26 : tzero Tryz.prog 26 = some [.slice none 0 0] := by kernel_rfl
@[simp] theorem q26 : tcomp Tryz.prog 26 = false := by kernel_rfl
@[simp] theorem e26 : telem Tryz.prog 26 = some (1, 1) := by kernel_rfl
@[simp] theorem w26 : tezero Tryz.prog 26 = some [.int .u8 0] := by kernel_rfl
@[simp] theorem y26 : tbyte Tryz.prog 26 = true := by kernel_rfl
@[simp] theorem z27 : tsz Tryz.prog 27 = some 1 := by kernel_rfl
@[simp] theorem c27 : tcode Tryz.prog 27 = 6 := by kernel_rfl
@[simp] theorem i27 : tint Tryz.prog 27 = none := by kernel_rfl
@[simp] theorem a27 : tagg Tryz.prog 27 = some false := by kernel_rfl
@[simp] theorem o27 : tzero Tryz.prog 27 = some [.nilIface] := by kernel_rfl
@[simp] theorem q27 : tcomp Tryz.prog 27 = true := by kernel_rfl
@[simp] theorem y27 : tbyte Tryz.prog 27 = false := by kernel_rfl
@[simp] theorem z28 : tsz Tryz.prog 28 = some 1 := by kernel_rfl
@[simp] theorem c28 : tcode Tryz.prog 28 = 6 := by kernel_rfl
@[simp] theorem i28 : tint Tryz.prog 28 = none := by kernel_rfl
@[simp] theorem a28 : tagg Tryz.prog 28 = some false := by kernel_rfl
@[simp] theorem o28 : tzero Tryz.prog 28 = some [.nilIface] := by kernel_rfl
@[simp] theorem q28 : tcomp Tryz.prog 28 = true := by kernel_rfl
@[simp] theorem y28 : tbyte Tryz.prog 28 = false := by kernel_rfl
@[simp] theorem z32 : tsz Tryz.prog 32 = some 1 := by kernel_rfl
@[simp] theorem c32 : tcode Tryz.prog 32 = 7 := by kernel_rfl
@[simp] theorem i32 : tint Tryz.prog 32 = none := by kernel_rfl
@[simp] theorem a32 : tagg Tryz.prog 32 = some false := by kernel_rfl
@[simp] theorem o32 : tzero Tryz.prog 32 = some [.nilFunc] := by kernel_rfl
@[simp] theorem q32 : tcomp Tryz.prog 32 = false := by kernel_rfl
@[simp] theorem y32 : tbyte Tryz.prog 32 = false := by kernel_rfl
@[simp] theorem z33 : tsz Tryz.prog 33 = some 1 := by kernel_rfl
@[simp] theorem c33 : tcode Tryz.prog 33 = 2 := by kernel_rfl
@[simp] theorem i33 : tint Tryz.prog 33 = some .i64 := by kernel_rfl
@[simp] theorem a33 : tagg Tryz.prog 33 = some false := by kernel_rfl
@[simp] theorem o33 : tzero Tryz.prog 33 = some [.int .i64 0] := by kernel_rfl
@[simp] theorem q33 : tcomp Tryz.prog 33 = true := by kernel_rfl
@[simp] theorem y33 : tbyte Tryz.prog 33 = false := by kernel_rfl
@[simp] theorem z37 : tsz Tryz.prog 37 = some 1 := by kernel_rfl
@[simp] theorem c37 : tcode Tryz.prog 37 = 4 := by kernel_rfl
@[simp] theorem i37 : tint Tryz.prog 37 = none := by kernel_rfl
@[simp] theorem a37 : tagg Tryz.prog 37 = some false := by kernel_rfl
@[simp] theorem o37 : tzero Tryz.prog 37 = some [.pointer none] := by kernel_rfl
@[simp] theorem q37 : tcomp Tryz.prog 37 = true := by kernel_rfl
@[simp] theorem y37 : tbyte Tryz.prog 37 = false := by kernel_rfl
@[simp] theorem z44 : tsz Tryz.prog 44 = some 1 := by kernel_rfl
@[simp] theorem c44 : tcode Tryz.prog 44 = 5 := by kernel_rfl
@[simp] theorem i44 : tint Tryz.prog 44 = none := by kernel_rfl
@[simp] theorem a44 : tagg Tryz.prog 44 = some false := by kernel_rfl
@[simp] theorem o44 : tzero Tryz.prog 44 = some [.slice none 0 0] := by kernel_rfl
@[simp] theorem q44 : tcomp Tryz.prog 44 = false := by kernel_rfl
@[simp] theorem e44 : telem Tryz.prog 44 = some (4, 40) := by kernel_rfl
@[simp] theorem w44 : tezero Tryz.prog 44 = some [.string (ofL []), .int .i64 0, .int .i64 0, .int .i64 0] := by kernel_rfl
@[simp] theorem y44 : tbyte Tryz.prog 44 = false := by kernel_rfl
@[simp] theorem z46 : tsz Tryz.prog 46 = some 2 := by kernel_rfl
@[simp] theorem c46 : tcode Tryz.prog 46 = 8 := by kernel_rfl
@[simp] theorem i46 : tint Tryz.prog 46 = none := by kernel_rfl
@[simp] theorem a46 : tagg Tryz.prog 46 = some true := by kernel_rfl
@[simp] theorem o46 : tzero Tryz.prog 46 = some [.pointer none, .slice none 0 0] := by kernel_rfl
@[simp] theorem q46 : tcomp Tryz.prog 46 = false := by kernel_rfl
@[simp] theorem y46 : tbyte Tryz.prog 46 = false := by kernel_rfl
@[simp] theorem f46_0 : tfld Tryz.prog 46 0 = some (0, false, 1) := by kernel_rfl
@[simp] theorem f46_1 : tfld Tryz.prog 46 1 = some (1, false, 1) := by kernel_rfl
@[simp] theorem p46 : tplaces Tryz.prog 46 = some [(0, 1), (1, 1)] := by kernel_rfl
@[simp] theorem z47 : tsz Tryz.prog 47 = some 2 := by kernel_rfl
@[simp] theorem c47 : tcode Tryz.prog 47 = 8 := by kernel_rfl
@[simp] theorem i47 : tint Tryz.prog 47 = none := by kernel_rfl
@[simp] theorem a47 : tagg Tryz.prog 47 = some true := by kernel_rfl
@[simp] theorem o47 : tzero Tryz.prog 47 = some [.pointer none, .slice none 0 0] := by kernel_rfl
@[simp] theorem q47 : tcomp Tryz.prog 47 = false := by kernel_rfl
@[simp] theorem y47 : tbyte Tryz.prog 47 = false := by kernel_rfl
@[simp] theorem f47_0 : tfld Tryz.prog 47 0 = some (0, false, 1) := by kernel_rfl
@[simp] theorem f47_1 : tfld Tryz.prog 47 1 = some (1, false, 1) := by kernel_rfl
@[simp] theorem p47 : tplaces Tryz.prog 47 = some [(0, 1), (1, 1)] := by kernel_rfl
@[simp] theorem z48 : tsz Tryz.prog 48 = some 3 := by kernel_rfl
@[simp] theorem c48 : tcode Tryz.prog 48 = 8 := by kernel_rfl
@[simp] theorem i48 : tint Tryz.prog 48 = none := by kernel_rfl
@[simp] theorem a48 : tagg Tryz.prog 48 = some true := by kernel_rfl
@[simp] theorem o48 : tzero Tryz.prog 48 = some [.int .i64 0, .int .i64 0, .int .i64 0] := by kernel_rfl
@[simp] theorem s48 : tsfl Tryz.prog 48 = some [(0, 3, false, 1), (1, 3, false, 1), (2, 3, false, 1)] := by kernel_rfl
@[simp] theorem q48 : tcomp Tryz.prog 48 = true := by kernel_rfl
@[simp] theorem y48 : tbyte Tryz.prog 48 = false := by kernel_rfl
@[simp] theorem f48_0 : tfld Tryz.prog 48 0 = some (0, false, 1) := by kernel_rfl
@[simp] theorem f48_1 : tfld Tryz.prog 48 1 = some (1, false, 1) := by kernel_rfl
@[simp] theorem f48_2 : tfld Tryz.prog 48 2 = some (2, false, 1) := by kernel_rfl
@[simp] theorem p48 : tplaces Tryz.prog 48 = some [(0, 1), (1, 1), (2, 1)] := by kernel_rfl
@[simp] theorem z49 : tsz Tryz.prog 49 = some 3 := by kernel_rfl
@[simp] theorem c49 : tcode Tryz.prog 49 = 8 := by kernel_rfl
@[simp] theorem i49 : tint Tryz.prog 49 = none := by kernel_rfl
@[simp] theorem a49 : tagg Tryz.prog 49 = some true := by kernel_rfl
@[simp] theorem o49 : tzero Tryz.prog 49 = some [.int .i64 0, .int .i64 0, .int .i64 0] := by kernel_rfl
@[simp] theorem s49 : tsfl Tryz.prog 49 = some [(0, 3, false, 1), (1, 3, false, 1), (2, 3, false, 1)] := by kernel_rfl
@[simp] theorem q49 : tcomp Tryz.prog 49 = true := by kernel_rfl
@[simp] theorem y49 : tbyte Tryz.prog 49 = false := by kernel_rfl
@[simp] theorem f49_0 : tfld Tryz.prog 49 0 = some (0, false, 1) := by kernel_rfl
@[simp] theorem f49_1 : tfld Tryz.prog 49 1 = some (1, false, 1) := by kernel_rfl
@[simp] theorem f49_2 : tfld Tryz.prog 49 2 = some (2, false, 1) := by kernel_rfl
@[simp] theorem p49 : tplaces Tryz.prog 49 = some [(0, 1), (1, 1), (2, 1)] := by kernel_rfl
@[simp] theorem z50 : tsz Tryz.prog 50 = some 4 := by kernel_rfl
@[simp] theorem c50 : tcode Tryz.prog 50 = 8 := by kernel_rfl
@[simp] theorem i50 : tint Tryz.prog 50 = none := by kernel_rfl
@[simp] theorem a50 : tagg Tryz.prog 50 = some true := by kernel_rfl
@[simp] theorem o50 : tzero Tryz.prog 50 = some [.string (ofL []), .int .i64 0, .int .i64 0, .int .i64 0] := by kernel_rfl
@[simp] theorem s50 : tsfl Tryz.prog 50 = some [(0, 9, false, 1), (1, 49, true, 3)] := by kernel_rfl
@[simp] theorem q50 : tcomp Tryz.prog 50 = true := by kernel_rfl
@[simp] theorem y50 : tbyte Tryz.prog 50 = false := by kernel_rfl
@[simp] theorem f50_0 : tfld Tryz.prog 50 0 = some (0, false, 1) := by kernel_rfl
@[simp] theorem f50_1 : tfld Tryz.prog 50 1 = some (1, true, 3) := by kernel_rfl
@[simp] theorem p50 : tplaces Tryz.prog 50 = some [(0, 1), (1, 3)] := by kernel_rfl
@[simp] theorem z51 : tsz Tryz.prog 51 = some 4 := by kernel_rfl
@[simp] theorem c51 : tcode Tryz.prog 51 = 8 := by kernel_rfl
@[simp] theorem i51 : tint Tryz.prog 51 = none := by kernel_rfl
@[simp] theorem a51 : tagg Tryz.prog 51 = some true := by kernel_rfl
@[simp] theorem o51 : tzero Tryz.prog 51 = some [.string (ofL []), .int .i64 0, .int .i64 0, .int .i64 0] := by kernel_rfl
@[simp] theorem s51 : tsfl Tryz.prog 51 = some [(0, 9, false, 1), (1, 49, true, 3)] := by kernel_rfl
@[simp] theorem q51 : tcomp Tryz.prog 51 = true := by kernel_rfl
@[simp] theorem y51 : tbyte Tryz.prog 51 = false := by kernel_rfl
@[simp] theorem f51_0 : tfld Tryz.prog 51 0 = some (0, false, 1) := by kernel_rfl
@[simp] theorem f51_1 : tfld Tryz.prog 51 1 = some (1, true, 3) := by kernel_rfl
@[simp] theorem p51 : tplaces Tryz.prog 51 = some [(0, 1), (1, 3)] := by kernel_rfl
@[simp] theorem z52 : tsz Tryz.prog 52 = some 1 := by kernel_rfl
@[simp] theorem c52 : tcode Tryz.prog 52 = 5 := by kernel_rfl
@[simp] theorem i52 : tint Tryz.prog 52 = none := by kernel_rfl
@[simp] theorem a52 : tagg Tryz.prog 52 = some false := by kernel_rfl
@[simp] theorem o52 : tzero Tryz.prog 52 = some [.slice none 0 0] := by kernel_rfl
@[simp] theorem q52 : tcomp Tryz.prog 52 = false := by kernel_rfl
@[simp] theorem e52 : telem Tryz.prog 52 = some (7, 64) := by kernel_rfl
@[simp] theorem w52 : tezero Tryz.prog 52 = some [.string (ofL []), .int .i64 0, .int .i64 0, .int .i64 0, .int .i64 0, .int .i64 0, .int .i64 0] := by kernel_rfl
@[simp] theorem y52 : tbyte Tryz.prog 52 = false := by kernel_rfl
@[simp] theorem z53 : tsz Tryz.prog 53 = some 5 := by kernel_rfl
@[simp] theorem c53 : tcode Tryz.prog 53 = 8 := by kernel_rfl
@[simp] theorem i53 : tint Tryz.prog 53 = none := by kernel_rfl
@[simp] theorem a53 : tagg Tryz.prog 53 = some true := by kernel_rfl
@[simp] theorem o53 : tzero Tryz.prog 53 = some [.string (ofL []), .int .i64 0, .int .i64 0, .int .i64 0, .slice none 0 0] := by kernel_rfl
@[simp] theorem q53 : tcomp Tryz.prog 53 = false := by kernel_rfl
@[simp] theorem y53 : tbyte Tryz.prog 53 = false := by kernel_rfl
@[simp] theorem f53_0 : tfld Tryz.prog 53 0 = some (0, false, 1) := by kernel_rfl
@[simp] theorem f53_1 : tfld Tryz.prog 53 1 = some (1, true, 3) := by kernel_rfl
@[simp] theorem f53_2 : tfld Tryz.prog 53 2 = some (4, false, 1) := by kernel_rfl
@[simp] theorem p53 : tplaces Tryz.prog 53 = some [(0, 1), (1, 3), (4, 1)] := by kernel_rfl
@[simp] theorem z54 : tsz Tryz.prog 54 = some 5 := by kernel_rfl
@[simp] theorem c54 : tcode Tryz.prog 54 = 8 := by kernel_rfl
@[simp] theorem i54 : tint Tryz.prog 54 = none := by kernel_rfl
@[simp] theorem a54 : tagg Tryz.prog 54 = some true := by kernel_rfl
@[simp] theorem o54 : tzero Tryz.prog 54 = some [.string (ofL []), .int .i64 0, .int .i64 0, .int .i64 0, .slice none 0 0] := by kernel_rfl
@[simp] theorem q54 : tcomp Tryz.prog 54 = false := by kernel_rfl
@[simp] theorem y54 : tbyte Tryz.prog 54 = false := by kernel_rfl
@[simp] theorem f54_0 : tfld Tryz.prog 54 0 = some (0, false, 1) := by kernel_rfl
@[simp] theorem f54_1 : tfld Tryz.prog 54 1 = some (1, true, 3) := by kernel_rfl
@[simp] theorem f54_2 : tfld Tryz.prog 54 2 = some (4, false, 1) := by kernel_rfl
@[simp] theorem p54 : tplaces Tryz.prog 54 = some [(0, 1), (1, 3), (4, 1)] := by kernel_rfl
@[simp] theorem z55 : tsz Tryz.prog 55 = some 1 := by kernel_rfl
@[simp] theorem c55 : tcode Tryz.prog 55 = 5 := by kernel_rfl
@[simp] theorem i55 : tint Tryz.prog 55 = none := by kernel_rfl
@[simp] theorem a55 : tagg Tryz.prog 55 = some false := by kernel_rfl
@[simp] theorem o55 : tzero Tryz.prog 55 = some [.slice none 0 0] := by kernel_rfl
@[simp] theorem q55 : tcomp Tryz.prog 55 = false := by kernel_rfl
@[simp] theorem e55 : telem Tryz.prog 55 = some (3, 64) := by kernel_rfl
@[simp] theorem w55 : tezero Tryz.prog 55 = some [.string (ofL []), .slice none 0 0, .slice none 0 0] := by kernel_rfl
@[simp] theorem y55 : tbyte Tryz.prog 55 = false := by kernel_rfl
@[simp] theorem z56 : tsz Tryz.prog 56 = some 1 := by kernel_rfl
@[simp] theorem c56 : tcode Tryz.prog 56 = 5 := by kernel_rfl
@[simp] theorem i56 : tint Tryz.prog 56 = none := by kernel_rfl
@[simp] theorem a56 : tagg Tryz.prog 56 = some false := by kernel_rfl
@[simp] theorem o56 : tzero Tryz.prog 56 = some [.slice none 0 0] := by kernel_rfl
@[simp] theorem q56 : tcomp Tryz.prog 56 = false := by kernel_rfl
@[simp] theorem e56 : telem Tryz.prog 56 = some (2, 48) := by kernel_rfl
@[simp] theorem w56 : tezero Tryz.prog 56 = some [.slice none 0 0, .slice none 0 0] := by kernel_rfl
@[simp] theorem y56 : tbyte Tryz.prog 56 = false := by kernel_rfl
@[simp] theorem z57 : tsz Tryz.prog 57 = some 1 := by kernel_rfl
@[simp] theorem c57 : tcode Tryz.prog 57 = 5 := by kernel_rfl
@[simp] theorem i57 : tint Tryz.prog 57 = none := by kernel_rfl
@[simp] theorem a57 : tagg Tryz.prog 57 = some false := by kernel_rfl
@[simp] theorem o57 : tzero Tryz.prog 57 = some [.slice none 0 0] := by kernel_rfl
@[simp] theorem q57 : tcomp Tryz.prog 57 = false := by kernel_rfl
@[simp] theorem e57 : telem Tryz.prog 57 = some (5, 88) := by kernel_rfl
@[simp] theorem w57 : tezero Tryz.prog 57 = some [.string (ofL []), .int .i64 0, .string (ofL []), .slice none 0 0, .slice none 0 0] := by kernel_rfl
@[simp] theorem y57 : tbyte Tryz.prog 57 = false := by kernel_rfl
@[simp] theorem z58 : tsz Tryz.prog 58 = some 8 := by kernel_rfl
@[simp] theorem c58 : tcode Tryz.prog 58 = 8 := by kernel_rfl
@[simp] theorem i58 : tint Tryz.prog 58 = none := by kernel_rfl
@[simp] theorem a58 : tagg Tryz.prog 58 = some true := by kernel_rfl
@[simp] theorem o58 : tzero Tryz.prog 58 = some [.string (ofL []), .int .i64 0, .int .i64 0, .int .i64 0, .slice none 0 0, .slice none 0 0, .slice none 0 0, .slice none 0 0] := by kernel_rfl
@[simp] theorem q58 : tcomp Tryz.prog 58 = false := by kernel_rfl
@[simp] theorem y58 : tbyte Tryz.prog 58 = false := by kernel_rfl
@[simp] theorem f58_0 : tfld Tryz.prog 58 0 = some (0, true, 5) := by kernel_rfl
@[simp] theorem f58_1 : tfld Tryz.prog 58 1 = some (5, false, 1) := by kernel_rfl
@[simp] theorem f58_2 : tfld Tryz.prog 58 2 = some (6, false, 1) := by kernel_rfl
@[simp] theorem f58_3 : tfld Tryz.prog 58 3 = some (7, false, 1) := by kernel_rfl
@[simp] theorem p58 : tplaces Tryz.prog 58 = some [(0, 5), (5, 1), (6, 1), (7, 1)] := by kernel_rfl
@[simp] theorem z59 : tsz Tryz.prog 59 = some 8 := by kernel_rfl
@[simp] theorem c59 : tcode Tryz.prog 59 = 8 := by kernel_rfl
@[simp] theorem i59 : tint Tryz.prog 59 = none := by kernel_rfl
@[simp] theorem a59 : tagg Tryz.prog 59 = some true := by kernel_rfl
@[simp] theorem o59 : tzero Tryz.prog 59 = some [.string (ofL []), .int .i64 0, .int .i64 0, .int .i64 0, .slice none 0 0, .slice none 0 0, .slice none 0 0, .slice none 0 0] := by kernel_rfl
@[simp] theorem q59 : tcomp Tryz.prog 59 = false := by kernel_rfl
@[simp] theorem y59 : tbyte Tryz.prog 59 = false := by kernel_rfl
@[simp] theorem f59_0 : tfld Tryz.prog 59 0 = some (0, true, 5) := by kernel_rfl
@[simp] theorem f59_1 : tfld Tryz.prog 59 1 = some (5, false, 1) := by kernel_rfl
@[simp] theorem f59_2 : tfld Tryz.prog 59 2 = some (6, false, 1) := by kernel_rfl
@[simp] theorem f59_3 : tfld Tryz.prog 59 3 = some (7, false, 1) := by kernel_rfl
@[simp] theorem p59 : tplaces Tryz.prog 59 = some [(0, 5), (5, 1), (6, 1), (7, 1)] := by kernel_rfl
@[simp] theorem z60 : tsz Tryz.prog 60 = some 1 := by kernel_rfl
@[simp] theorem c60 : tcode Tryz.prog 60 = 10 := by kernel_rfl
@[simp] theorem i60 : tint Tryz.prog 60 = none := by kernel_rfl
@[simp] theorem q60 : tcomp Tryz.prog 60 = false := by kernel_rfl
@[simp] theorem y60 : tbyte Tryz.prog 60 = false := by kernel_rfl
@[simp] theorem z62 : tsz Tryz.prog 62 = some 1 := by kernel_rfl
@[simp] theorem c62 : tcode Tryz.prog 62 = 4 := by kernel_rfl
@[simp] theorem i62 : tint Tryz.prog 62 = none := by kernel_rfl
@[simp] theorem a62 : tagg Tryz.prog 62 = some false := by kernel_rfl
@[simp] theorem o62 : tzero Tryz.prog 62 = some [.pointer none] := by kernel_rfl
@[simp] theorem q62 : tcomp Tryz.prog 62 = true := by kernel_rfl
@[simp] theorem y62 : tbyte Tryz.prog 62 = false := by kernel_rfl
@[simp] theorem z63 : tsz Tryz.prog 63 = some 2 := by kernel_rfl
@[simp] theorem c63 : tcode Tryz.prog 63 = 8 := by kernel_rfl
@[simp] theorem i63 : tint Tryz.prog 63 = none := by kernel_rfl
@[simp] theorem a63 : tagg Tryz.prog 63 = some true := by kernel_rfl
@[simp] theorem o63 : tzero Tryz.prog 63 = some [.int .i64 0, .nilIface] := by kernel_rfl
@[simp] theorem q63 : tcomp Tryz.prog 63 = true := by kernel_rfl
@[simp] theorem y63 : tbyte Tryz.prog 63 = false := by kernel_rfl
@[simp] theorem f63_0 : tfld Tryz.prog 63 0 = some (0, false, 1) := by kernel_rfl
@[simp] theorem f63_1 : tfld Tryz.prog 63 1 = some (1, false, 1) := by kernel_rfl
@[simp] theorem p63 : tplaces Tryz.prog 63 = some [(0, 1), (1, 1)] := by kernel_rfl
@[simp] theorem z64 : tsz Tryz.prog 64 = some 2 := by kernel_rfl
@[simp] theorem c64 : tcode Tryz.prog 64 = 8 := by kernel_rfl
@[simp] theorem i64 : tint Tryz.prog 64 = none := by kernel_rfl
@[simp] theorem a64 : tagg Tryz.prog 64 = some true := by kernel_rfl
@[simp] theorem o64 : tzero Tryz.prog 64 = some [.int .i64 0, .nilIface] := by kernel_rfl
@[simp] theorem q64 : tcomp Tryz.prog 64 = true := by kernel_rfl
@[simp] theorem y64 : tbyte Tryz.prog 64 = false := by kernel_rfl
@[simp] theorem f64_0 : tfld Tryz.prog 64 0 = some (0, false, 1) := by kernel_rfl
@[simp] theorem f64_1 : tfld Tryz.prog 64 1 = some (1, false, 1) := by kernel_rfl
@[simp] theorem p64 : tplaces Tryz.prog 64 = some [(0, 1), (1, 1)] := by kernel_rfl
@[simp] theorem z65 : tsz Tryz.prog 65 = some 1 := by kernel_rfl
@[simp] theorem c65 : tcode Tryz.prog 65 = 7 := by kernel_rfl
@[simp] theorem i65 : tint Tryz.prog 65 = none := by kernel_rfl
@[simp] theorem a65 : tagg Tryz.prog 65 = some false := by kernel_rfl
@[simp] theorem o65 : tzero Tryz.prog 65 = some [.nilFunc] := by kernel_rfl
@[simp] theorem q65 : tcomp Tryz.prog 65 = false := by kernel_rfl
@[simp] theorem y65 : tbyte Tryz.prog 65 = false := by kernel_rfl
@[simp] theorem z66 : tsz Tryz.prog 66 = some 1 := by kernel_rfl
@[simp] theorem c66 : tcode Tryz.prog 66 = 5 := by kernel_rfl
@[simp] theorem i66 : tint Tryz.prog 66 = none := by kernel_rfl
@[simp] theorem a66 : tagg Tryz.prog 66 = some false := by kernel_rfl
@[simp] theorem o66 : tzero Tryz.prog 66 = some [.slice none 0 0] := by kernel_rfl
@[simp] theorem q66 : tcomp Tryz.prog 66 = false := by kernel_rfl
@[simp] theorem e66 : telem Tryz.prog 66 = some (9, 144) := by kernel_rfl
@[simp] theorem w66 : tezero Tryz.prog 66 = some [.string (ofL []), .int .i64 0, .int .i64 0, .int .i64 0, .slice none 0 0, .slice none 0 0, .slice none 0 0, .slice none 0 0, .bool false] := by kernel_rfl
@[simp] theorem y66 : tbyte Tryz.prog 66 = false := by kernel_rfl
@[simp] theorem z67 : tsz Tryz.prog 67 = some 1 := by kernel_rfl
@[simp] theorem c67 : tcode Tryz.prog 67 = 8 := by kernel_rfl
@[simp] theorem i67 : tint Tryz.prog 67 = none := by kernel_rfl
@[simp] theorem a67 : tagg Tryz.prog 67 = some true := by kernel_rfl
@[simp] theorem o67 : tzero Tryz.prog 67 = some [.slice none 0 0] := by kernel_rfl
@[simp] theorem q67 : tcomp Tryz.prog 67 = false := by kernel_rfl
@[simp] theorem y67 : tbyte Tryz.prog 67 = false := by kernel_rfl
@[simp] theorem f67_0 : tfld Tryz.prog 67 0 = some (0, false, 1) := by kernel_rfl
@[simp] theorem p67 : tplaces Tryz.prog 67 = some [(0, 1)] := by kernel_rfl
@[simp] theorem z68 : tsz Tryz.prog 68 = some 1 := by kernel_rfl
@[simp] theorem c68 : tcode Tryz.prog 68 = 8 := by kernel_rfl
@[simp] theorem i68 : tint Tryz.prog 68 = none := by kernel_rfl
@[simp] theorem a68 : tagg Tryz.prog 68 = some true := by kernel_rfl
@[simp] theorem o68 : tzero Tryz.prog 68 = some [.slice none 0 0] := by kernel_rfl
@[simp] theorem q68 : tcomp Tryz.prog 68 = false := by kernel_rfl
@[simp] theorem y68 : tbyte Tryz.prog 68 = false := by kernel_rfl
@[simp] theorem f68_0 : tfld Tryz.prog 68 0 = some (0, false, 1) := by kernel_rfl
@[simp] theorem p68 : tplaces Tryz.prog 68 = some [(0, 1)] := by kernel_rfl
@[simp] theorem z69 : tsz Tryz.prog 69 = some 1 := by kernel_rfl
@[simp] theorem c69 : tcode Tryz.prog 69 = 5 := by kernel_rfl
@[simp] theorem i69 : tint Tryz.prog 69 = none := by kernel_rfl
@[simp] theorem a69 : tagg Tryz.prog 69 = some false := by kernel_rfl
@[simp] theorem o69 : tzero Tryz.prog 69 = some [.slice none 0 0] := by kernel_rfl
@[simp] theorem q69 : tcomp Tryz.prog 69 = false := by kernel_rfl
@[simp] theorem e69 : telem Tryz.prog 69 = some (1, 1) := by kernel_rfl
@[simp] theorem w69 : tezero Tryz.prog 69 = some [.int .u8 0] := by kernel_rfl
@[simp] theorem y69 : tbyte Tryz.prog 69 = true := by kernel_rfl
@[simp] theorem z72 : tsz Tryz.prog 72 = some 1 := by kernel_rfl
@[simp] theorem c72 : tcode Tryz.prog 72 = 5 := by kernel_rfl
@[simp] theorem i72 : tint Tryz.prog 72 = none := by kernel_rfl
@[simp] theorem a72 : tagg Tryz.prog 72 = some false := by kernel_rfl
@[simp] theorem o72 : tzero Tryz.prog 72 = some [.slice none 0 0] := by kernel_rfl
@[simp] theorem q72 : tcomp Tryz.prog 72 = false := by kernel_rfl
@[simp] theorem e72 : telem Tryz.prog 72 = some (1, 24) := by kernel_rfl
@[simp] theorem w72 : tezero Tryz.prog 72 = some [.slice none 0 0] := by kernel_rfl
@[simp] theorem y72 : tbyte Tryz.prog 72 = false := by kernel_rfl
@[simp] theorem z74 : tsz Tryz.prog 74 = some 1 := by kernel_rfl
@[simp] theorem c74 : tcode Tryz.prog 74 = 7 := by kernel_rfl
@[simp] theorem i74 : tint Tryz.prog 74 = none := by kernel_rfl
@[simp] theorem a74 : tagg Tryz.prog 74 = some false := by kernel_rfl
@[simp] theorem o74 : tzero Tryz.prog 74 = some [.nilFunc] := by kernel_rfl
@[simp] theorem q74 : tcomp Tryz.prog 74 = false := by kernel_rfl
@[simp] theorem y74 : tbyte Tryz.prog 74 = false := by kernel_rfl
@[simp] theorem z78 : tsz Tryz.prog 78 = some 9 := by kernel_rfl
@[simp] theorem c78 : tcode Tryz.prog 78 = 8 := by kernel_rfl
@[simp] theorem i78 : tint Tryz.prog 78 = none := by kernel_rfl
@[simp] theorem a78 : tagg Tryz.prog 78 = some true := by kernel_rfl
@[simp] theorem o78 : tzero Tryz.prog 78 = some [.string (ofL []), .int .i64 0, .int .i64 0, .int .i64 0, .slice none 0 0, .slice none 0 0, .slice none 0 0, .slice none 0 0, .bool false] := by kernel_rfl
@[simp] theorem q78 : tcomp Tryz.prog 78 = false := by kernel_rfl
@[simp] theorem y78 : tbyte Tryz.prog 78 = false := by kernel_rfl
@[simp] theorem f78_0 : tfld Tryz.prog 78 0 = some (0, true, 8) := by kernel_rfl
@[simp] theorem f78_1 : tfld Tryz.prog 78 1 = some (8, false, 1) := by kernel_rfl
@[simp] theorem p78 : tplaces Tryz.prog 78 = some [(0, 8), (8, 1)] := by kernel_rfl
@[simp] theorem z79 : tsz Tryz.prog 79 = some 9 := by kernel_rfl
@[simp] theorem c79 : tcode Tryz.prog 79 = 8 := by kernel_rfl
@[simp] theorem i79 : tint Tryz.prog 79 = none := by kernel_rfl
@[simp] theorem a79 : tagg Tryz.prog 79 = some true := by kernel_rfl
@[simp] theorem o79 : tzero Tryz.prog 79 = some [.string (ofL []), .int .i64 0, .int .i64 0, .int .i64 0, .slice none 0 0, .slice none 0 0, .slice none 0 0, .slice none 0 0, .bool false] := by kernel_rfl
@[simp] theorem q79 : tcomp Tryz.prog 79 = false := by kernel_rfl
@[simp] theorem y79 : tbyte Tryz.prog 79 = false := by kernel_rfl
@[simp] theorem f79_0 : tfld Tryz.prog 79 0 = some (0, true, 8) := by kernel_rfl
@[simp] theorem f79_1 : tfld Tryz.prog 79 1 = some (8, false, 1) := by kernel_rfl
@[simp] theorem p79 : tplaces Tryz.prog 79 = some [(0, 8), (8, 1)] := by kernel_rfl
@[simp] theorem z80 : tsz Tryz.prog 80 = some 1 := by kernel_rfl
@[simp] theorem c80 : tcode Tryz.prog 80 = 5 := by kernel_rfl
@[simp] theorem i80 : tint Tryz.prog 80 = none := by kernel_rfl
@[simp] theorem a80 : tagg Tryz.prog 80 = some false := by kernel_rfl
@[simp] theorem o80 : tzero Tryz.prog 80 = some [.slice none 0 0] := by kernel_rfl
@[simp] theorem q80 : tcomp Tryz.prog 80 = false := by kernel_rfl
@[simp] theorem e80 : telem Tryz.prog 80 = some (4, 56) := by kernel_rfl
@[simp] theorem w80 : tezero Tryz.prog 80 = some [.string (ofL []), .int .i64 0, .string (ofL []), .string (ofL [])] := by kernel_rfl
@[simp] theorem y80 : tbyte Tryz.prog 80 = false := by kernel_rfl
@[simp] theorem z81 : tsz Tryz.prog 81 = some 1 := by kernel_rfl
@[simp] theorem c81 : tcode Tryz.prog 81 = 5 := by kernel_rfl
@[simp] theorem i81 : tint Tryz.prog 81 = none := by kernel_rfl
@[simp] theorem a81 : tagg Tryz.prog 81 = some false := by kernel_rfl
@[simp] theorem o81 : tzero Tryz.prog 81 = some [.slice none 0 0] := by kernel_rfl
@[simp] theorem q81 : tcomp Tryz.prog 81 = false := by kernel_rfl
@[simp] theorem e81 : telem Tryz.prog 81 = some (9, 136) := by kernel_rfl
@[simp] theorem w81 : tezero Tryz.prog 81 = some [.int .i64 0, .string (ofL []), .int .i64 0, .string (ofL []), .int .i64 0, .string (ofL []), .string (ofL []), .slice none 0 0, .slice none 0 0] := by kernel_rfl
@[simp] theorem y81 : tbyte Tryz.prog 81 = false := by kernel_rfl
@[simp] theorem z82 : tsz Tryz.prog 82 = some 3 := by kernel_rfl
@[simp] theorem c82 : tcode Tryz.prog 82 = 8 := by kernel_rfl
@[simp] theorem i82 : tint Tryz.prog 82 = none := by kernel_rfl
@[simp] theorem a82 : tagg Tryz.prog 82 = some true := by kernel_rfl
@[simp] theorem o82 : tzero Tryz.prog 82 = some [.string (ofL []), .slice none 0 0, .slice none 0 0] := by kernel_rfl
@[simp] theorem q82 : tcomp Tryz.prog 82 = false := by kernel_rfl
@[simp] theorem y82 : tbyte Tryz.prog 82 = false := by kernel_rfl
@[simp] theorem f82_0 : tfld Tryz.prog 82 0 = some (0, false, 1) := by kernel_rfl
@[simp] theorem f82_1 : tfld Tryz.prog 82 1 = some (1, false, 1) := by kernel_rfl
@[simp] theorem f82_2 : tfld Tryz.prog 82 2 = some (2, false, 1) := by kernel_rfl
@[simp] theorem p82 : tplaces Tryz.prog 82 = some [(0, 1), (1, 1), (2, 1)] := by kernel_rfl
@[simp] theorem z83 : tsz Tryz.prog 83 = some 3 := by kernel_rfl
@[simp] theorem c83 : tcode Tryz.prog 83 = 8 := by kernel_rfl
@[simp] theorem i83 : tint Tryz.prog 83 = none := by kernel_rfl
@[simp] theorem a83 : tagg Tryz.prog 83 = some true := by kernel_rfl
@[simp] theorem o83 : tzero Tryz.prog 83 = some [.string (ofL []), .slice none 0 0, .slice none 0 0] := by kernel_rfl
@[simp] theorem q83 : tcomp Tryz.prog 83 = false := by kernel_rfl
@[simp] theorem y83 : tbyte Tryz.prog 83 = false := by kernel_rfl
@[simp] theorem f83_0 : tfld Tryz.prog 83 0 = some (0, false, 1) := by kernel_rfl
@[simp] theorem f83_1 : tfld Tryz.prog 83 1 = some (1, false, 1) := by kernel_rfl
@[simp] theorem f83_2 : tfld Tryz.prog 83 2 = some (2, false, 1) := by kernel_rfl
@[simp] theorem p83 : tplaces Tryz.prog 83 = some [(0, 1), (1, 1), (2, 1)] := by kernel_rfl
@[simp] theorem z84 : tsz Tryz.prog 84 = some 1 := by kernel_rfl
@[simp] theorem c84 : tcode Tryz.prog 84 = 5 := by kernel_rfl
@[simp] theorem i84 : tint Tryz.prog 84 = none := by kernel_rfl
@[simp] theorem a84 : tagg Tryz.prog 84 = some false := by kernel_rfl
@[simp] theorem o84 : tzero Tryz.prog 84 = some [.slice none 0 0] := by kernel_rfl
@[simp] theorem q84 : tcomp Tryz.prog 84 = false := by kernel_rfl
@[simp] theorem e84 : telem Tryz.prog 84 = some (8, 128) := by kernel_rfl
@[simp] theorem w84 : tezero Tryz.prog 84 = some [.string (ofL []), .int .i64 0, .string (ofL []), .int .i64 0, .string (ofL []), .string (ofL []), .slice none 0 0, .slice none 0 0] := by kernel_rfl
@[simp] theorem y84 : tbyte Tryz.prog 84 = false := by kernel_rfl
@[simp] theorem z85 : tsz Tryz.prog 85 = some 5 := by kernel_rfl
@[simp] theorem c85 : tcode Tryz.prog 85 = 8 := by kernel_rfl
@[simp] theorem i85 : tint Tryz.prog 85 = none := by kernel_rfl
@[simp] theorem a85 : tagg Tryz.prog 85 = some true := by kernel_rfl
@[simp] theorem o85 : tzero Tryz.prog 85 = some [.string (ofL []), .int .i64 0, .string (ofL []), .slice none 0 0, .slice none 0 0] := by kernel_rfl
@[simp] theorem q85 : tcomp Tryz.prog 85 = false := by kernel_rfl
@[simp] theorem y85 : tbyte Tryz.prog 85 = false := by kernel_rfl
@[simp] theorem f85_0 : tfld Tryz.prog 85 0 = some (0, false, 1) := by kernel_rfl
@[simp] theorem f85_1 : tfld Tryz.prog 85 1 = some (1, false, 1) := by kernel_rfl
@[simp] theorem f85_2 : tfld Tryz.prog 85 2 = some (2, false, 1) := by kernel_rfl
@[simp] theorem f85_3 : tfld Tryz.prog 85 3 = some (3, false, 1) := by kernel_rfl
@[simp] theorem f85_4 : tfld Tryz.prog 85 4 = some (4, false, 1) := by kernel_rfl
@[simp] theorem p85 : tplaces Tryz.prog 85 = some [(0, 1), (1, 1), (2, 1), (3, 1), (4, 1)] := by kernel_rfl
@[simp] theorem z86 : tsz Tryz.prog 86 = some 5 := by kernel_rfl
@[simp] theorem c86 : tcode Tryz.prog 86 = 8 := by kernel_rfl
@[simp] theorem i86 : tint Tryz.prog 86 = none := by kernel_rfl
@[simp] theorem a86 : tagg Tryz.prog 86 = some true := by kernel_rfl
@[simp] theorem o86 : tzero Tryz.prog 86 = some [.string (ofL []), .int .i64 0, .string (ofL []), .slice none 0 0, .slice none 0 0] := by kernel_rfl
@[simp] theorem q86 : tcomp Tryz.prog 86 = false := by kernel_rfl
@[simp] theorem y86 : tbyte Tryz.prog 86 = false := by kernel_rfl
@[simp] theorem f86_0 : tfld Tryz.prog 86 0 = some (0, false, 1) := by kernel_rfl
@[simp] theorem f86_1 : tfld Tryz.prog 86 1 = some (1, false, 1) := by kernel_rfl
@[simp] theorem f86_2 : tfld Tryz.prog 86 2 = some (2, false, 1) := by kernel_rfl
@[simp] theorem f86_3 : tfld Tryz.prog 86 3 = some (3, false, 1) := by kernel_rfl
@[simp] theorem f86_4 : tfld Tryz.prog 86 4 = some (4, false, 1) := by kernel_rfl
@[simp] theorem p86 : tplaces Tryz.prog 86 = some [(0, 1), (1, 1), (2, 1), (3, 1), (4, 1)] := by kernel_rfl
@[simp] theorem z90 : tsz Tryz.prog 90 = some 1 := by kernel_rfl
@[simp] theorem c90 : tcode Tryz.prog 90 = 10 := by kernel_rfl
@[simp] theorem i90 : tint Tryz.prog 90 = none := by kernel_rfl
@[simp] theorem q90 : tcomp Tryz.prog 90 = false := by kernel_rfl
@[simp] theorem y90 : tbyte Tryz.prog 90 = false := by kernel_rfl
@[simp] theorem z92 : tsz Tryz.prog 92 = some 4 := by kernel_rfl
@[simp] theorem c92 : tcode Tryz.prog 92 = 8 := by kernel_rfl
@[simp] theorem i92 : tint Tryz.prog 92 = none := by kernel_rfl
@[simp] theorem a92 : tagg Tryz.prog 92 = some true := by kernel_rfl
@[simp] theorem o92 : tzero Tryz.prog 92 = some [.string (ofL []), .int .i64 0, .string (ofL []), .string (ofL [])] := by kernel_rfl
@[simp] theorem s92 : tsfl Tryz.prog 92 = some [(0, 9, false, 1), (1, 3, false, 1), (2, 9, false, 1), (3, 9, false, 1)] := by kernel_rfl
@[simp] theorem q92 : tcomp Tryz.prog 92 = true := by kernel_rfl
@[simp] theorem y92 : tbyte Tryz.prog 92 = false := by kernel_rfl
@[simp] theorem f92_0 : tfld Tryz.prog 92 0 = some (0, false, 1) := by kernel_rfl
@[simp] theorem f92_1 : tfld Tryz.prog 92 1 = some (1, false, 1) := by kernel_rfl
@[simp] theorem f92_2 : tfld Tryz.prog 92 2 = some (2, false, 1) := by kernel_rfl
@[simp] theorem f92_3 : tfld Tryz.prog 92 3 = some (3, false, 1) := by kernel_rfl
@[simp] theorem p92 : tplaces Tryz.prog 92 = some [(0, 1), (1, 1), (2, 1), (3, 1)] := by kernel_rfl
@[simp] theorem z93 : tsz Tryz.prog 93 = some 4 := by kernel_rfl
@[simp] theorem c93 : tcode Tryz.prog 93 = 8 := by kernel_rfl
@[simp] theorem i93 : tint Tryz.prog 93 = none := by kernel_rfl
@[simp] theorem a93 : tagg Tryz.prog 93 = some true := by kernel_rfl
@[simp] theorem o93 : tzero Tryz.prog 93 = some [.string (ofL []), .int .i64 0, .string (ofL []), .string (ofL [])] := by kernel_rfl
@[simp] theorem s93 : tsfl Tryz.prog 93 = some [(0, 9, false, 1), (1, 3, false, 1), (2, 9, false, 1), (3, 9, false, 1)] := by kernel_rfl
@[simp] theorem q93 : tcomp Tryz.prog 93 = true := by kernel_rfl
@[simp] theorem y93 : tbyte Tryz.prog 93 = false := by kernel_rfl
@[simp] theorem f93_0 : tfld Tryz.prog 93 0 = some (0, false, 1) := by kernel_rfl
@[simp] theorem f93_1 : tfld Tryz.prog 93 1 = some (1, false, 1) := by kernel_rfl
@[simp] theorem f93_2 : tfld Tryz.prog 93 2 = some (2, false, 1) := by kernel_rfl
@[simp] theorem f93_3 : tfld Tryz.prog 93 3 = some (3, false, 1) := by kernel_rfl
@[simp] theorem p93 : tplaces Tryz.prog 93 = some [(0, 1), (1, 1), (2, 1), (3, 1)] := by kernel_rfl
@[simp] theorem z96 : tsz Tryz.prog 96 = some 1 := by kernel_rfl
@[simp] theorem c96 : tcode Tryz.prog 96 = 5 := by kernel_rfl
@[simp] theorem i96 : tint Tryz.prog 96 = none := by kernel_rfl
@[simp] theorem a96 : tagg Tryz.prog 96 = some false := by kernel_rfl
@[simp] theorem o96 : tzero Tryz.prog 96 = some [.slice none 0 0] := by kernel_rfl
@[simp] theorem q96 : tcomp Tryz.prog 96 = false := by kernel_rfl
@[simp] theorem e96 : telem Tryz.prog 96 = some (10, 152) := by kernel_rfl
@[simp] theorem w96 : tezero Tryz.prog 96 = some [.int .i64 0, .string (ofL []), .string (ofL []), .int .i64 0, .string (ofL []), .int .i64 0, .string (ofL []), .string (ofL []), .slice none 0 0, .slice none 0 0] := by kernel_rfl
@[simp] theorem y96 : tbyte Tryz.prog 96 = false := by kernel_rfl
@[simp] theorem z97 : tsz Tryz.prog 97 = some 2 := by kernel_rfl
@[simp] theorem c97 : tcode Tryz.prog 97 = 8 := by kernel_rfl
@[simp] theorem i97 : tint Tryz.prog 97 = none := by kernel_rfl
@[simp] theorem a97 : tagg Tryz.prog 97 = some true := by kernel_rfl
@[simp] theorem o97 : tzero Tryz.prog 97 = some [.slice none 0 0, .slice none 0 0] := by kernel_rfl
@[simp] theorem q97 : tcomp Tryz.prog 97 = false := by kernel_rfl
@[simp] theorem y97 : tbyte Tryz.prog 97 = false := by kernel_rfl
@[simp] theorem f97_0 : tfld Tryz.prog 97 0 = some (0, false, 1) := by kernel_rfl
@[simp] theorem f97_1 : tfld Tryz.prog 97 1 = some (1, false, 1) := by kernel_rfl
@[simp] theorem p97 : tplaces Tryz.prog 97 = some [(0, 1), (1, 1)] := by kernel_rfl
@[simp] theorem z98 : tsz Tryz.prog 98 = some 2 := by kernel_rfl
@[simp] theorem c98 : tcode Tryz.prog 98 = 8 := by kernel_rfl
@[simp] theorem i98 : tint Tryz.prog 98 = none := by kernel_rfl
@[simp] theorem a98 : tagg Tryz.prog 98 = some true := by kernel_rfl
@[simp] theorem o98 : tzero Tryz.prog 98 = some [.slice none 0 0, .slice none 0 0] := by kernel_rfl
@[simp] theorem q98 : tcomp Tryz.prog 98 = false := by kernel_rfl
@[simp] theorem y98 : tbyte Tryz.prog 98 = false := by kernel_rfl
@[simp] theorem f98_0 : tfld Tryz.prog 98 0 = some (0, false, 1) := by kernel_rfl
@[simp] theorem f98_1 : tfld Tryz.prog 98 1 = some (1, false, 1) := by kernel_rfl
@[simp] theorem p98 : tplaces Tryz.prog 98 = some [(0, 1), (1, 1)] := by kernel_rfl
@[simp] theorem z99 : tsz Tryz.prog 99 = some 1 := by kernel_rfl
@[simp] theorem c99 : tcode Tryz.prog 99 = 7 := by kernel_rfl
@[simp] theorem i99 : tint Tryz.prog 99 = none := by kernel_rfl
@[simp] theorem a99 : tagg Tryz.prog 99 = some false := by kernel_rfl
@[simp] theorem o99 : tzero Tryz.prog 99 = some [.nilFunc] := by kernel_rfl
@[simp] theorem q99 : tcomp Tryz.prog 99 = false := by kernel_rfl
@[simp] theorem y99 : tbyte Tryz.prog 99 = false := by kernel_rfl
@[simp] theorem z100 : tsz Tryz.prog 100 = some 1 := by kernel_rfl
@[simp] theorem c100 : tcode Tryz.prog 100 = 7 := by kernel_rfl
@[simp] theorem i100 : tint Tryz.prog 100 = none := by kernel_rfl
@[simp] theorem a100 : tagg Tryz.prog 100 = some false := by kernel_rfl
@[simp] theorem o100 : tzero Tryz.prog 100 = some [.nilFunc] := by kernel_rfl
@[simp] theorem q100 : tcomp Tryz.prog 100 = false := by kernel_rfl
@[simp] theorem y100 : tbyte Tryz.prog 100 = false := by kernel_rfl
@[simp] theorem z101 : tsz Tryz.prog 101 = some 1 := by kernel_rfl
@[simp] theorem c101 : tcode Tryz.prog 101 = 4 := by kernel_rfl
@[simp] theorem i101 : tint Tryz.prog 101 = none := by kernel_rfl
@[simp] theorem a101 : tagg Tryz.prog 101 = some false := by kernel_rfl
@[simp] theorem o101 : tzero Tryz.prog 101 = some [.pointer none] := by kernel_rfl
@[simp] theorem q101 : tcomp Tryz.prog 101 = true := by kernel_rfl
@[simp] theorem y101 : tbyte Tryz.prog 101 = false := by kernel_rfl
@[simp] theorem z102 : tsz Tryz.prog 102 = some 1 := by kernel_rfl
@[simp] theorem c102 : tcode Tryz.prog 102 = 2 := by kernel_rfl
@[simp] theorem i102 : tint Tryz.prog 102 = some .u64 := by kernel_rfl
@[simp] theorem a102 : tagg Tryz.prog 102 = some false := by kernel_rfl
@[simp] theorem o102 : tzero Tryz.prog 102 = some [.int .u64 0] := by kernel_rfl
@[simp] theorem q102 : tcomp Tryz.prog 102 = true := by kernel_rfl
@[simp] theorem y102 : tbyte Tryz.prog 102 = false := by kernel_rfl
@[simp] theorem z103 : tsz Tryz.prog 103 = some 1 := by kernel_rfl
@[simp] theorem c103 : tcode Tryz.prog 103 = 7 := by kernel_rfl
@[simp] theorem i103 : tint Tryz.prog 103 = none := by kernel_rfl
@[simp] theorem a103 : tagg Tryz.prog 103 = some false := by kernel_rfl
@[simp] theorem o103 : tzero Tryz.prog 103 = some [.nilFunc] := by kernel_rfl
@[simp] theorem q103 : tcomp Tryz.prog 103 = false := by kernel_rfl
@[simp] theorem y103 : tbyte Tryz.prog 103 = false := by kernel_rfl
@[simp] theorem z105 : tsz Tryz.prog 105 = some 1 := by kernel_rfl
@[simp] theorem c105 : tcode Tryz.prog 105 = 7 := by kernel_rfl
@[simp] theorem i105 : tint Tryz.prog 105 = none := by kernel_rfl
@[simp] theorem a105 : tagg Tryz.prog 105 = some false := by kernel_rfl
@[simp] theorem o105 : tzero Tryz.prog 105 = some [.nilFunc] := by kernel_rfl
@[simp] theorem q105 : tcomp Tryz.prog 105 = false := by kernel_rfl
@[simp] theorem y105 : tbyte Tryz.prog 105 = false := by kernel_rfl
@[simp] theorem z108 : tsz Tryz.prog 108 = some 1 := by kernel_rfl
@[simp] theorem c108 : tcode Tryz.prog 108 = 7 := by kernel_rfl
@[simp] theorem i108 : tint Tryz.prog 108 = none := by kernel_rfl
@[simp] theorem a108 : tagg Tryz.prog 108 = some false := by kernel_rfl
@[simp] theorem o108 : tzero Tryz.prog 108 = some [.nilFunc] := by kernel_rfl
@[simp] theorem q108 : tcomp Tryz.prog 108 = false := by kernel_rfl
@[simp] theorem y108 : tbyte Tryz.prog 108 = false := by kernel_rfl
@[simp] theorem z109 : tsz Tryz.prog 109 = some 1 := by kernel_rfl
@[simp] theorem c109 : tcode Tryz.prog 109 = 4 := by kernel_rfl
@[simp] theorem i109 : tint Tryz.prog 109 = none := by kernel_rfl
@[simp] theorem a109 : tagg Tryz.prog 109 = some false := by kernel_rfl
@[simp] theorem o109 : tzero Tryz.prog 109 = some [.pointer none] := by kernel_rfl
@[simp] theorem q109 : tcomp Tryz.prog 109 = true := by kernel_rfl
@[simp] theorem y109 : tbyte Tryz.prog 109 = false := by kernel_rfl
@[simp] theorem z110 : tsz Tryz.prog 110 = some 1 := by kernel_rfl
@[simp] theorem c110 : tcode Tryz.prog 110 = 5 := by kernel_rfl
@[simp] theorem i110 : tint Tryz.prog 110 = none := by kernel_rfl
@[simp] theorem a110 : tagg Tryz.prog 110 = some false := by kernel_rfl
@[simp] theorem o110 : tzero Tryz.prog 110 = some [.slice none 0 0] := by kernel_rfl
@[simp] theorem q110 : tcomp Tryz.prog 110 = false := by kernel_rfl
@[simp] theorem e110 : telem Tryz.prog 110 = some (7, 112) := by kernel_rfl
@[simp] theorem w110 : tezero Tryz.prog 110 = some [.int .i64 0, .string (ofL []), .int .i64 0, .string (ofL []), .string (ofL []), .slice none 0 0, .slice none 0 0] := by kernel_rfl
@[simp] theorem y110 : tbyte Tryz.prog 110 = false := by kernel_rfl
@[simp] theorem z111 : tsz Tryz.prog 111 = some 7 := by kernel_rfl
@[simp] theorem c111 : tcode Tryz.prog 111 = 8 := by kernel_rfl
@[simp] theorem i111 : tint Tryz.prog 111 = none := by kernel_rfl
@[simp] theorem a111 : tagg Tryz.prog 111 = some true := by kernel_rfl
@[simp] theorem o111 : tzero Tryz.prog 111 = some [.int .i64 0, .string (ofL []), .int .i64 0, .string (ofL []), .string (ofL []), .slice none 0 0, .slice none 0 0] := by kernel_rfl
@[simp] theorem q111 : tcomp Tryz.prog 111 = false := by kernel_rfl
@[simp] theorem y111 : tbyte Tryz.prog 111 = false := by kernel_rfl
@[simp] theorem f111_0 : tfld Tryz.prog 111 0 = some (0, false, 1) := by kernel_rfl
@[simp] theorem f111_1 : tfld Tryz.prog 111 1 = some (1, false, 1) := by kernel_rfl
@[simp] theorem f111_2 : tfld Tryz.prog 111 2 = some (2, false, 1) := by kernel_rfl
@[simp] theorem f111_3 : tfld Tryz.prog 111 3 = some (3, false, 1) := by kernel_rfl
@[simp] theorem f111_4 : tfld Tryz.prog 111 4 = some (4, false, 1) := by kernel_rfl
@[simp] theorem f111_5 : tfld Tryz.prog 111 5 = some (5, false, 1) := by kernel_rfl
@[simp] theorem f111_6 : tfld Tryz.prog 111 6 = some (6, false, 1) := by kernel_rfl
@[simp] theorem p111 : tplaces Tryz.prog 111 = some [(0, 1), (1, 1), (2, 1), (3, 1), (4, 1), (5, 1), (6, 1)] := by kernel_rfl
@[simp] theorem z112 : tsz Tryz.prog 112 = some 7 := by kernel_rfl
@[simp] theorem c112 : tcode Tryz.prog 112 = 8 := by kernel_rfl
@[simp] theorem i112 : tint Tryz.prog 112 = none := by kernel_rfl
@[simp] theorem a112 : tagg Tryz.prog 112 = some true := by kernel_rfl
@[simp] theorem o112 : tzero Tryz.prog 112 = some [.int .i64 0, .string (ofL []), .int .i64 0, .string (ofL []), .string (ofL []), .slice none 0 0, .slice none 0 0] := by kernel_rfl
@[simp] theorem q112 : tcomp Tryz.prog 112 = false := by kernel_rfl
@[simp] theorem y112 : tbyte Tryz.prog 112 = false := by kernel_rfl
@[simp] theorem f112_0 : tfld Tryz.prog 112 0 = some (0, false, 1) := by kernel_rfl
@[simp] theorem f112_1 : tfld Tryz.prog 112 1 = some (1, false, 1) := by kernel_rfl
@[simp] theorem f112_2 : tfld Tryz.prog 112 2 = some (2, false, 1) := by kernel_rfl
@[simp] theorem f112_3 : tfld Tryz.prog 112 3 = some (3, false, 1) := by kernel_rfl
@[simp] theorem f112_4 : tfld Tryz.prog 112 4 = some (4, false, 1) := by kernel_rfl
@[simp] theorem f112_5 : tfld Tryz.prog 112 5 = some (5, false, 1) := by kernel_rfl
@[simp] theorem f112_6 : tfld Tryz.prog 112 6 = some (6, false, 1) := by kernel_rfl
@[simp] theorem p112 : tplaces Tryz.prog 112 = some [(0, 1), (1, 1), (2, 1), (3, 1), (4, 1), (5, 1), (6, 1)] := by kernel_rfl
@[simp] theorem z114 : tsz Tryz.prog 114 = some 8 := by kernel_rfl
@[simp] theorem c114 : tcode Tryz.prog 114 = 8 := by kernel_rfl
@[simp] theorem i114 : tint Tryz.prog 114 = none := by kernel_rfl
@[simp] theorem a114 : tagg Tryz.prog 114 = some true := by kernel_rfl
@[simp] theorem o114 : tzero Tryz.prog 114 = some [.string (ofL []), .int .i64 0, .string (ofL []), .int .i64 0, .string (ofL []), .string (ofL []), .slice none 0 0, .slice none 0 0] := by kernel_rfl
@[simp] theorem q114 : tcomp Tryz.prog 114 = false := by kernel_rfl
@[simp] theorem y114 : tbyte Tryz.prog 114 = false := by kernel_rfl
@[simp] theorem f114_0 : tfld Tryz.prog 114 0 = some (0, false, 1) := by kernel_rfl
@[simp] theorem f114_1 : tfld Tryz.prog 114 1 = some (1, true, 7) := by kernel_rfl
@[simp] theorem p114 : tplaces Tryz.prog 114 = some [(0, 1), (1, 7)] := by kernel_rfl
@[simp] theorem z115 : tsz Tryz.prog 115 = some 8 := by kernel_rfl
@[simp] theorem c115 : tcode Tryz.prog 115 = 8 := by kernel_rfl
@[simp] theorem i115 : tint Tryz.prog 115 = none := by kernel_rfl
@[simp] theorem a115 : tagg Tryz.prog 115 = some true := by kernel_rfl
@[simp] theorem o115 : tzero Tryz.prog 115 = some [.string (ofL []), .int .i64 0, .string (ofL []), .int .i64 0, .string (ofL []), .string (ofL []), .slice none 0 0, .slice none 0 0] := by kernel_rfl
@[simp] theorem q115 : tcomp Tryz.prog 115 = false := by kernel_rfl
@[simp] theorem y115 : tbyte Tryz.prog 115 = false := by kernel_rfl
@[simp] theorem f115_0 : tfld Tryz.prog 115 0 = some (0, false, 1) := by kernel_rfl
@[simp] theorem f115_1 : tfld Tryz.prog 115 1 = some (1, true, 7) := by kernel_rfl
@[simp] theorem p115 : tplaces Tryz.prog 115 = some [(0, 1), (1, 7)] := by kernel_rfl
@[simp] theorem z116 : tsz Tryz.prog 116 = some 1 := by kernel_rfl
@[simp] theorem c116 : tcode Tryz.prog 116 = 7 := by kernel_rfl
@[simp] theorem i116 : tint Tryz.prog 116 = none := by kernel_rfl
@[simp] theorem a116 : tagg Tryz.prog 116 = some false := by kernel_rfl
@[simp] theorem o116 : tzero Tryz.prog 116 = some [.nilFunc] := by kernel_rfl
@[simp] theorem q116 : tcomp Tryz.prog 116 = false := by kernel_rfl
@[simp] theorem y116 : tbyte Tryz.prog 116 = false := by kernel_rfl
@[simp] theorem z117 : tsz Tryz.prog 117 = some 1 := by kernel_rfl
@[simp] theorem c117 : tcode Tryz.prog 117 = 7 := by kernel_rfl
@[simp] theorem i117 : tint Tryz.prog 117 = none := by kernel_rfl
@[simp] theorem a117 : tagg Tryz.prog 117 = some false := by kernel_rfl
@[simp] theorem o117 : tzero Tryz.prog 117 = some [.nilFunc] := by kernel_rfl
@[simp] theorem q117 : tcomp Tryz.prog 117 = false := by kernel_rfl
@[simp] theorem y117 : tbyte Tryz.prog 117 = false := by kernel_rfl
@[simp] theorem z118 : tsz Tryz.prog 118 = some 6 := by kernel_rfl
@[simp] theorem c118 : tcode Tryz.prog 118 = 8 := by kernel_rfl
@[simp] theorem i118 : tint Tryz.prog 118 = none := by kernel_rfl
@[simp] theorem a118 : tagg Tryz.prog 118 = some true := by kernel_rfl
@[simp] theorem o118 : tzero Tryz.prog 118 = some [.int .i64 0, .int .i64 0, .int .i64 0, .int .i64 0, .int .i64 0, .int .i64 0] := by kernel_rfl
@[simp] theorem s118 : tsfl Tryz.prog 118 = some [(0, 49, true, 3), (3, 49, true, 3)] := by kernel_rfl
@[simp] theorem q118 : tcomp Tryz.prog 118 = true := by kernel_rfl
@[simp] theorem y118 : tbyte Tryz.prog 118 = false := by kernel_rfl
@[simp] theorem f118_0 : tfld Tryz.prog 118 0 = some (0, true, 3) := by kernel_rfl
@[simp] theorem f118_1 : tfld Tryz.prog 118 1 = some (3, true, 3) := by kernel_rfl
@[simp] theorem p118 : tplaces Tryz.prog 118 = some [(0, 3), (3, 3)] := by kernel_rfl
@[simp] theorem z119 : tsz Tryz.prog 119 = some 6 := by kernel_rfl
@[simp] theorem c119 : tcode Tryz.prog 119 = 8 := by kernel_rfl
@[simp] theorem i119 : tint Tryz.prog 119 = none := by kernel_rfl
@[simp] theorem a119 : tagg Tryz.prog 119 = some true := by kernel_rfl
@[simp] theorem o119 : tzero Tryz.prog 119 = some [.int .i64 0, .int .i64 0, .int .i64 0, .int .i64 0, .int .i64 0, .int .i64 0] := by kernel_rfl
@[simp] theorem s119 : tsfl Tryz.prog 119 = some [(0, 49, true, 3), (3, 49, true, 3)] := by kernel_rfl
@[simp] theorem q119 : tcomp Tryz.prog 119 = true := by kernel_rfl
@[simp] theorem y119 : tbyte Tryz.prog 119 = false := by kernel_rfl
@[simp] theorem f119_0 : tfld Tryz.prog 119 0 = some (0, true, 3) := by kernel_rfl
@[simp] theorem f119_1 : tfld Tryz.prog 119 1 = some (3, true, 3) := by kernel_rfl
@[simp] theorem p119 : tplaces Tryz.prog 119 = some [(0, 3), (3, 3)] := by kernel_rfl
@[simp] theorem z120 : tsz Tryz.prog 120 = some 7 := by kernel_rfl
@[simp] theorem c120 : tcode Tryz.prog 120 = 8 := by kernel_rfl
@[simp] theorem i120 : tint Tryz.prog 120 = none := by kernel_rfl
@[simp] theorem a120 : tagg Tryz.prog 120 = some true := by kernel_rfl
@[simp] theorem o120 : tzero Tryz.prog 120 = some [.string (ofL []), .int .i64 0, .int .i64 0, .int .i64 0, .int .i64 0, .int .i64 0, .int .i64 0] := by kernel_rfl
@[simp] theorem s120 : tsfl Tryz.prog 120 = some [(0, 9, false, 1), (1, 119, true, 6)] := by kernel_rfl
@[simp] theorem q120 : tcomp Tryz.prog 120 = true := by kernel_rfl
@[simp] theorem y120 : tbyte Tryz.prog 120 = false := by kernel_rfl
@[simp] theorem f120_0 : tfld Tryz.prog 120 0 = some (0, false, 1) := by kernel_rfl
@[simp] theorem f120_1 : tfld Tryz.prog 120 1 = some (1, true, 6) := by kernel_rfl
@[simp] theorem p120 : tplaces Tryz.prog 120 = some [(0, 1), (1, 6)] := by kernel_rfl
@[simp] theorem z121 : tsz Tryz.prog 121 = some 7 := by kernel_rfl
@[simp] theorem c121 : tcode Tryz.prog 121 = 8 := by kernel_rfl
@[simp] theorem i121 : tint Tryz.prog 121 = none := by kernel_rfl
@[simp] theorem a121 : tagg Tryz.prog 121 = some true := by kernel_rfl
@[simp] theorem o121 : tzero Tryz.prog 121 = some [.string (ofL []), .int .i64 0, .int .i64 0, .int .i64 0, .int .i64 0, .int .i64 0, .int .i64 0] := by kernel_rfl
@[simp] theorem s121 : tsfl Tryz.prog 121 = some [(0, 9, false, 1), (1, 119, true, 6)] := by kernel_rfl
@[simp] theorem q121 : tcomp Tryz.prog 121 = true := by kernel_rfl
@[simp] theorem y121 : tbyte Tryz.prog 121 = false := by kernel_rfl
@[simp] theorem f121_0 : tfld Tryz.prog 121 0 = some (0, false, 1) := by kernel_rfl
@[simp] theorem f121_1 : tfld Tryz.prog 121 1 = some (1, true, 6) := by kernel_rfl
@[simp] theorem p121 : tplaces Tryz.prog 121 = some [(0, 1), (1, 6)] := by kernel_rfl
@[simp] theorem z122 : tsz Tryz.prog 122 = some 1 := by kernel_rfl
@[simp] theorem c122 : tcode Tryz.prog 122 = 7 := by kernel_rfl
@[simp] theorem i122 : tint Tryz.prog 122 = none := by kernel_rfl
@[simp] theorem a122 : tagg Tryz.prog 122 = some false := by kernel_rfl
@[simp] theorem o122 : tzero Tryz.prog 122 = some [.nilFunc] := by kernel_rfl
@[simp] theorem q122 : tcomp Tryz.prog 122 = false := by kernel_rfl
@[simp] theorem y122 : tbyte Tryz.prog 122 = false := by kernel_rfl
@[simp] theorem z123 : tsz Tryz.prog 123 = some 1 := by kernel_rfl
@[simp] theorem c123 : tcode Tryz.prog 123 = 4 := by kernel_rfl
@[simp] theorem i123 : tint Tryz.prog 123 = none := by kernel_rfl
@[simp] theorem a123 : tagg Tryz.prog 123 = some false := by kernel_rfl
@[simp] theorem o123 : tzero Tryz.prog 123 = some [.pointer none] := by kernel_rfl
@[simp] theorem q123 : tcomp Tryz.prog 123 = true := by kernel_rfl
@[simp] theorem y123 : tbyte Tryz.prog 123 = false := by kernel_rfl
@[simp] theorem z126 : tsz Tryz.prog 126 = some 9 := by kernel_rfl
@[simp] theorem c126 : tcode Tryz.prog 126 = 8 := by kernel_rfl
@[simp] theorem i126 : tint Tryz.prog 126 = none := by kernel_rfl
@[simp] theorem a126 : tagg Tryz.prog 126 = some true := by kernel_rfl
@[simp] theorem o126 : tzero Tryz.prog 126 = some [.int .i64 0, .string (ofL []), .int .i64 0, .string (ofL []), .int .i64 0, .string (ofL []), .string (ofL []), .slice none 0 0, .slice none 0 0] := by kernel_rfl
@[simp] theorem q126 : tcomp Tryz.prog 126 = false := by kernel_rfl
@[simp] theorem y126 : tbyte Tryz.prog 126 = false := by kernel_rfl
@[simp] theorem f126_0 : tfld Tryz.prog 126 0 = some (0, false, 1) := by kernel_rfl
@[simp] theorem f126_1 : tfld Tryz.prog 126 1 = some (1, false, 1) := by kernel_rfl
@[simp] theorem f126_2 : tfld Tryz.prog 126 2 = some (2, true, 7) := by kernel_rfl
@[simp] theorem p126 : tplaces Tryz.prog 126 = some [(0, 1), (1, 1), (2, 7)] := by kernel_rfl
@[simp] theorem z127 : tsz Tryz.prog 127 = some 9 := by kernel_rfl
@[simp] theorem c127 : tcode Tryz.prog 127 = 8 := by kernel_rfl
@[simp] theorem i127 : tint Tryz.prog 127 = none := by kernel_rfl
@[simp] theorem a127 : tagg Tryz.prog 127 = some true := by kernel_rfl
@[simp] theorem o127 : tzero Tryz.prog 127 = some [.int .i64 0, .string (ofL []), .int .i64 0, .string (ofL []), .int .i64 0, .string (ofL []), .string (ofL []), .slice none 0 0, .slice none 0 0] := by kernel_rfl
@[simp] theorem q127 : tcomp Tryz.prog 127 = false := by kernel_rfl
@[simp] theorem y127 : tbyte Tryz.prog 127 = false := by kernel_rfl
@[simp] theorem f127_0 : tfld Tryz.prog 127 0 = some (0, false, 1) := by kernel_rfl
@[simp] theorem f127_1 : tfld Tryz.prog 127 1 = some (1, false, 1) := by kernel_rfl
@[simp] theorem f127_2 : tfld Tryz.prog 127 2 = some (2, true, 7) := by kernel_rfl
@[simp] theorem p127 : tplaces Tryz.prog 127 = some [(0, 1), (1, 1), (2, 7)] := by kernel_rfl
@[simp] theorem z128 : tsz Tryz.prog 128 = some 1 := by kernel_rfl
@[simp] theorem c128 : tcode Tryz.prog 128 = 4 := by kernel_rfl
@[simp] theorem i128 : tint Tryz.prog 128 = none := by kernel_rfl
@[simp] theorem a128 : tagg Tryz.prog 128 = some false := by kernel_rfl
@[simp] theorem o128 : tzero Tryz.prog 128 = some [.pointer none] := by kernel_rfl
@[simp] theorem q128 : tcomp Tryz.prog 128 = true := by kernel_rfl
@[simp] theorem y128 : tbyte Tryz.prog 128 = false := by kernel_rfl
@[simp] theorem z129 : tsz Tryz.prog 129 = some 1 := by kernel_rfl
@[simp] theorem c129 : tcode Tryz.prog 129 = 7 := by kernel_rfl
@[simp] theorem i129 : tint Tryz.prog 129 = none := by kernel_rfl
@[simp] theorem a129 : tagg Tryz.prog 129 = some false := by kernel_rfl
@[simp] theorem o129 : tzero Tryz.prog 129 = some [.nilFunc] := by kernel_rfl
@[simp] theorem q129 : tcomp Tryz.prog 129 = false := by kernel_rfl
@[simp] theorem y129 : tbyte Tryz.prog 129 = false := by kernel_rfl
@[simp] theorem z130 : tsz Tryz.prog 130 = some 1 := by kernel_rfl
@[simp] theorem c130 : tcode Tryz.prog 130 = 7 := by kernel_rfl
@[simp] theorem i130 : tint Tryz.prog 130 = none := by kernel_rfl
@[simp] theorem a130 : tagg Tryz.prog 130 = some false := by kernel_rfl
@[simp] theorem o130 : tzero Tryz.prog 130 = some [.nilFunc] := by kernel_rfl
@[simp] theorem q130 : tcomp Tryz.prog 130 = false := by kernel_rfl
@[simp] theorem y130 : tbyte Tryz.prog 130 = false := by kernel_rfl
@[simp] theorem z132 : tsz Tryz.prog 132 = some 1 := by kernel_rfl
@[simp] theorem c132 : tcode Tryz.prog 132 = 4 := by kernel_rfl
@[simp] theorem i132 : tint Tryz.prog 132 = none := by kernel_rfl
@[simp] theorem a132 : tagg Tryz.prog 132 = some false := by kernel_rfl
@[simp] theorem o132 : tzero Tryz.prog 132 = some [.pointer none] := by kernel_rfl
@[simp] theorem q132 : tcomp Tryz.prog 132 = true := by kernel_rfl
@[simp] theorem y132 : tbyte Tryz.prog 132 = false := by kernel_rfl
@[simp] theorem z134 : tsz Tryz.prog 134 = some 10 := by kernel_rfl
@[simp] theorem c134 : tcode Tryz.prog 134 = 8 := by kernel_rfl
@[simp] theorem i134 : tint Tryz.prog 134 = none := by kernel_rfl
@[simp] theorem a134 : tagg Tryz.prog 134 = some true := by kernel_rfl
@[simp] theorem o134 : tzero Tryz.prog 134 = some [.int .i64 0, .string (ofL []), .string (ofL []), .int .i64 0, .string (ofL []), .int .i64 0, .string (ofL []), .string (ofL []), .slice none 0 0, .slice none 0 0] := by kernel_rfl
@[simp] theorem q134 : tcomp Tryz.prog 134 = false := by kernel_rfl
@[simp] theorem y134 : tbyte Tryz.prog 134 = false := by kernel_rfl
@[simp] theorem f134_0 : tfld Tryz.prog 134 0 = some (0, false, 1) := by kernel_rfl
@[simp] theorem f134_1 : tfld Tryz.prog 134 1 = some (1, false, 1) := by kernel_rfl
@[simp] theorem f134_2 : tfld Tryz.prog 134 2 = some (2, false, 1) := by kernel_rfl
@[simp] theorem f134_3 : tfld Tryz.prog 134 3 = some (3, true, 7) := by kernel_rfl
@[simp] theorem p134 : tplaces Tryz.prog 134 = some [(0, 1), (1, 1), (2, 1), (3, 7)] := by kernel_rfl
@[simp] theorem z135 : tsz Tryz.prog 135 = some 10 := by kernel_rfl
@[simp] theorem c135 : tcode Tryz.prog 135 = 8 := by kernel_rfl
@[simp] theorem i135 : tint Tryz.prog 135 = none := by kernel_rfl
@[simp] theorem a135 : tagg Tryz.prog 135 = some true := by kernel_rfl
@[simp] theorem o135 : tzero Tryz.prog 135 = some [.int .i64 0, .string (ofL []), .string (ofL []), .int .i64 0, .string (ofL []), .int .i64 0, .string (ofL []), .string (ofL []), .slice none 0 0, .slice none 0 0] := by kernel_rfl
@[simp] theorem q135 : tcomp Tryz.prog 135 = false := by kernel_rfl
@[simp] theorem y135 : tbyte Tryz.prog 135 = false := by kernel_rfl
@[simp] theorem f135_0 : tfld Tryz.prog 135 0 = some (0, false, 1) := by kernel_rfl
@[simp] theorem f135_1 : tfld Tryz.prog 135 1 = some (1, false, 1) := by kernel_rfl
@[simp] theorem f135_2 : tfld Tryz.prog 135 2 = some (2, false, 1) := by kernel_rfl
@[simp] theorem f135_3 : tfld Tryz.prog 135 3 = some (3, true, 7) := by kernel_rfl
@[simp] theorem p135 : tplaces Tryz.prog 135 = some [(0, 1), (1, 1), (2, 1), (3, 7)] := by kernel_rfl
@[simp] theorem z136 : tsz Tryz.prog 136 = some 1 := by kernel_rfl
@[simp] theorem c136 : tcode Tryz.prog 136 = 4 := by kernel_rfl
@[simp] theorem i136 : tint Tryz.prog 136 = none := by kernel_rfl
@[simp] theorem a136 : tagg Tryz.prog 136 = some false := by kernel_rfl
@[simp] theorem o136 : tzero Tryz.prog 136 = some [.pointer none] := by kernel_rfl
@[simp] theorem q136 : tcomp Tryz.prog 136 = true := by kernel_rfl
@[simp] theorem y136 : tbyte Tryz.prog 136 = false := by kernel_rfl
@[simp] theorem z137 : tsz Tryz.prog 137 = some 1 := by kernel_rfl
@[simp] theorem c137 : tcode Tryz.prog 137 = 7 := by kernel_rfl
@[simp] theorem i137 : tint Tryz.prog 137 = none := by kernel_rfl
@[simp] theorem a137 : tagg Tryz.prog 137 = some false := by kernel_rfl
@[simp] theorem o137 : tzero Tryz.prog 137 = some [.nilFunc] := by kernel_rfl
@[simp] theorem q137 : tcomp Tryz.prog 137 = false := by kernel_rfl
@[simp] theorem y137 : tbyte Tryz.prog 137 = false := by kernel_rfl
@[simp] theorem z138 : tsz Tryz.prog 138 = some 1 := by kernel_rfl
@[simp] theorem c138 : tcode Tryz.prog 138 = 7 := by kernel_rfl
@[simp] theorem i138 : tint Tryz.prog 138 = none := by kernel_rfl
@[simp] theorem a138 : tagg Tryz.prog 138 = some false := by kernel_rfl
@[simp] theorem o138 : tzero Tryz.prog 138 = some [.nilFunc] := by kernel_rfl
@[simp] theorem q138 : tcomp Tryz.prog 138 = false := by kernel_rfl
@[simp] theorem y138 : tbyte Tryz.prog 138 = false := by kernel_rfl
@[simp] theorem z140 : tsz Tryz.prog 140 = some 1 := by kernel_rfl
@[simp] theorem c140 : tcode Tryz.prog 140 = 4 := by kernel_rfl
@[simp] theorem i140 : tint Tryz.prog 140 = none := by kernel_rfl
@[simp] theorem a140 : tagg Tryz.prog 140 = some false := by kernel_rfl
@[simp] theorem o140 : tzero Tryz.prog 140 = some [.pointer none] := by kernel_rfl
@[simp] theorem q140 : tcomp Tryz.prog 140 = true := by kernel_rfl
@[simp] theorem y140 : tbyte Tryz.prog 140 = false := by kernel_rfl
@[simp] theorem z142 : tsz Tryz.prog 142 = some 1 := by kernel_rfl
@[simp] theorem c142 : tcode Tryz.prog 142 = 7 := by kernel_rfl
@[simp] theorem i142 : tint Tryz.prog 142 = none := by kernel_rfl
@[simp] theorem a142 : tagg Tryz.prog 142 = some false := by kernel_rfl
@[simp] theorem o142 : tzero Tryz.prog 142 = some [.nilFunc] := by kernel_rfl
@[simp] theorem q142 : tcomp Tryz.prog 142 = false := by kernel_rfl
@[simp] theorem y142 : tbyte Tryz.prog 142 = false := by kernel_rfl
@[simp] theorem z147 : tsz Tryz.prog 147 = some 1 := by kernel_rfl
@[simp] theorem c147 : tcode Tryz.prog 147 = 7 := by kernel_rfl
@[simp] theorem i147 : tint Tryz.prog 147 = none := by kernel_rfl
@[simp] theorem a147 : tagg Tryz.prog 147 = some false := by kernel_rfl
@[simp] theorem o147 : tzero Tryz.prog 147 = some [.nilFunc] := by kernel_rfl
@[simp] theorem q147 : tcomp Tryz.prog 147 = false := by kernel_rfl
@[simp] theorem y147 : tbyte Tryz.prog 147 = false := by kernel_rfl
@[simp] theorem z150 : tsz Tryz.prog 150 = some 1 := by kernel_rfl
@[simp] theorem c150 : tcode Tryz.prog 150 = 7 := by kernel_rfl
@[simp] theorem i150 : tint Tryz.prog 150 = none := by kernel_rfl
@[simp] theorem a150 : tagg Tryz.prog 150 = some false := by kernel_rfl
@[simp] theorem o150 : tzero Tryz.prog 150 = some [.nilFunc] := by kernel_rfl
@[simp] theorem q150 : tcomp Tryz.prog 150 = false := by kernel_rfl
@[simp] theorem y150 : tbyte Tryz.prog 150 = false := by kernel_rfl
@[simp] theorem z152 : tsz Tryz.prog 152 = some 1 := by kernel_rfl
@[simp] theorem c152 : tcode Tryz.prog 152 = 7 := by kernel_rfl
@[simp] theorem i152 : tint Tryz.prog 152 = none := by kernel_rfl
@[simp] theorem a152 : tagg Tryz.prog 152 = some false := by kernel_rfl
@[simp] theorem o152 : tzero Tryz.prog 152 = some [.nilFunc] := by kernel_rfl
@[simp] theorem q152 : tcomp Tryz.prog 152 = false := by kernel_rfl
@[simp] theorem y152 : tbyte Tryz.prog 152 = false := by kernel_rfl
@[simp] theorem z154 : tsz Tryz.prog 154 = some 1 := by kernel_rfl
@[simp] theorem c154 : tcode Tryz.prog 154 = 7 := by kernel_rfl
@[simp] theorem i154 : tint Tryz.prog 154 = none := by kernel_rfl
@[simp] theorem a154 : tagg Tryz.prog 154 = some false := by kernel_rfl
@[simp] theorem o154 : tzero Tryz.prog 154 = some [.nilFunc] := by kernel_rfl
@[simp] theorem q154 : tcomp Tryz.prog 154 = false := by kernel_rfl
@[simp] theorem y154 : tbyte Tryz.prog 154 = false := by kernel_rfl
@[simp] theorem z157 : tsz Tryz.prog 157 = some 1 := by kernel_rfl
@[simp] theorem c157 : tcode Tryz.prog 157 = 7 := by kernel_rfl
@[simp] theorem i157 : tint Tryz.prog 157 = none := by kernel_rfl
@[simp] theorem a157 : tagg Tryz.prog 157 = some false := by kernel_rfl
@[simp] theorem o157 : tzero Tryz.prog 157 = some [.nilFunc] := by kernel_rfl
@[simp] theorem q157 : tcomp Tryz.prog 157 = false := by kernel_rfl
@[simp] theorem y157 : tbyte Tryz.prog 157 = false := by kernel_rfl
@[simp] theorem z160 : tsz Tryz.prog 160 = some 1 := by kernel_rfl
@[simp] theorem c160 : tcode Tryz.prog 160 = 2 := by kernel_rfl
@[simp] theorem i160 : tint Tryz.prog 160 = some .u64 := by kernel_rfl
@[simp] theorem a160 : tagg Tryz.prog 160 = some false := by kernel_rfl
@[simp] theorem o160 : tzero Tryz.prog 160 = some [.int .u64 0] := by kernel_rfl
@[simp] theorem q160 : tcomp Tryz.prog 160 = true := by kernel_rfl
@[simp] theorem y160 : tbyte Tryz.prog 160 = false := by kernel_rfl
@[simp] theorem z176 : tsz Tryz.prog 176 = some 1 := by kernel_rfl
@[simp] theorem c176 : tcode Tryz.prog 176 = 5 := by kernel_rfl
@[simp] theorem i176 : tint Tryz.prog 176 = none := by kernel_rfl
@[simp] theorem a176 : tagg Tryz.prog 176 = some false := by kernel_rfl
@[simp] theorem o176 : tzero Tryz.prog 176 = some [.slice none 0 0] := by kernel_rfl
@[simp] theorem q176 : tcomp Tryz.prog 176 = false := by kernel_rfl
@[simp] theorem e176 : telem Tryz.prog 176 = some (1, 8) := by kernel_rfl
@[simp] theorem w176 : tezero Tryz.prog 176 = some [.int .i64 0] := by kernel_rfl
@[simp] theorem y176 : tbyte Tryz.prog 176 = false := by kernel_rfl
@[simp] theorem z178 : tsz Tryz.prog 178 = some 1 := by kernel_rfl
@[simp] theorem c178 : tcode Tryz.prog 178 = 7 := by kernel_rfl
@[simp] theorem i178 : tint Tryz.prog 178 = none := by kernel_rfl
@[simp] theorem a178 : tagg Tryz.prog 178 = some false := by kernel_rfl
@[simp] theorem o178 : tzero Tryz.prog 178 = some [.nilFunc] := by kernel_rfl
@[simp] theorem q178 : tcomp Tryz.prog 178 = false := by kernel_rfl
@[simp] theorem y178 : tbyte Tryz.prog 178 = false := by kernel_rfl
@[simp] theorem z179 : tsz Tryz.prog 179 = some 1 := by kernel_rfl
@[simp] theorem c179 : tcode Tryz.prog 179 = 4 := by kernel_rfl
@[simp] theorem i179 : tint Tryz.prog 179 = none := by kernel_rfl
@[simp] theorem a179 : tagg Tryz.prog 179 = some false := by kernel_rfl
@[simp] theorem o179 : tzero Tryz.prog 179 = some [.pointer none] := by kernel_rfl
@[simp] theorem q179 : tcomp Tryz.prog 179 = true := by kernel_rfl
@[simp] theorem y179 : tbyte Tryz.prog 179 = false := by kernel_rfl
@[simp] theorem z180 : tsz Tryz.prog 180 = some 8 := by kernel_rfl
@[simp] theorem c180 : tcode Tryz.prog 180 = 8 := by kernel_rfl
@[simp] theorem i180 : tint Tryz.prog 180 = none := by kernel_rfl
@[simp] theorem a180 : tagg Tryz.prog 180 = some true := by kernel_rfl
@[simp] theorem o180 : tzero Tryz.prog 180 = some [.string (ofL []), .slice none 0 0, .slice none 0 0, .string (ofL []), .int .i64 0, .slice none 0 0, .int .i64 0, .bool false] := by kernel_rfl
@[simp] theorem q180 : tcomp Tryz.prog 180 = false := by kernel_rfl
@[simp] theorem y180 : tbyte Tryz.prog 180 = false := by kernel_rfl
@[simp] theorem f180_0 : tfld Tryz.prog 180 0 = some (0, true, 3) := by kernel_rfl
@[simp] theorem f180_1 : tfld Tryz.prog 180 1 = some (3, false, 1) := by kernel_rfl
@[simp] theorem f180_2 : tfld Tryz.prog 180 2 = some (4, false, 1) := by kernel_rfl
@[simp] theorem f180_3 : tfld Tryz.prog 180 3 = some (5, false, 1) := by kernel_rfl
@[simp] theorem f180_4 : tfld Tryz.prog 180 4 = some (6, false, 1) := by kernel_rfl
@[simp] theorem f180_5 : tfld Tryz.prog 180 5 = some (7, false, 1) := by kernel_rfl
@[simp] theorem p180 : tplaces Tryz.prog 180 = some [(0, 3), (3, 1), (4, 1), (5, 1), (6, 1), (7, 1)] := by kernel_rfl
@[simp] theorem z181 : tsz Tryz.prog 181 = some 8 := by kernel_rfl
@[simp] theorem c181 : tcode Tryz.prog 181 = 8 := by kernel_rfl
@[simp] theorem i181 : tint Tryz.prog 181 = none := by kernel_rfl
@[simp] theorem a181 : tagg Tryz.prog 181 = some true := by kernel_rfl
@[simp] theorem o181 : tzero Tryz.prog 181 = some [.string (ofL []), .slice none 0 0, .slice none 0 0, .string (ofL []), .int .i64 0, .slice none 0 0, .int .i64 0, .bool false] := by kernel_rfl
@[simp] theorem q181 : tcomp Tryz.prog 181 = false := by kernel_rfl
@[simp] theorem y181 : tbyte Tryz.prog 181 = false := by kernel_rfl
@[simp] theorem f181_0 : tfld Tryz.prog 181 0 = some (0, true, 3) := by kernel_rfl
@[simp] theorem f181_1 : tfld Tryz.prog 181 1 = some (3, false, 1) := by kernel_rfl
@[simp] theorem f181_2 : tfld Tryz.prog 181 2 = some (4, false, 1) := by kernel_rfl
@[simp] theorem f181_3 : tfld Tryz.prog 181 3 = some (5, false, 1) := by kernel_rfl
@[simp] theorem f181_4 : tfld Tryz.prog 181 4 = some (6, false, 1) := by kernel_rfl
@[simp] theorem f181_5 : tfld Tryz.prog 181 5 = some (7, false, 1) := by kernel_rfl
@[simp] theorem p181 : tplaces Tryz.prog 181 = some [(0, 3), (3, 1), (4, 1), (5, 1), (6, 1), (7, 1)] := by kernel_rfl
@[simp] theorem z187 : tsz Tryz.prog 187 = some 1 := by kernel_rfl
@[simp] theorem c187 : tcode Tryz.prog 187 = 7 := by kernel_rfl
@[simp] theorem i187 : tint Tryz.prog 187 = none := by kernel_rfl
@[simp] theorem a187 : tagg Tryz.prog 187 = some false := by kernel_rfl
@[simp] theorem o187 : tzero Tryz.prog 187 = some [.nilFunc] := by kernel_rfl
@[simp] theorem q187 : tcomp Tryz.prog 187 = false := by kernel_rfl
@[simp] theorem y187 : tbyte Tryz.prog 187 = false := by kernel_rfl
@[simp] theorem z188 : tsz Tryz.prog 188 = some 1 := by kernel_rfl
@[simp] theorem c188 : tcode Tryz.prog 188 = 7 := by kernel_rfl
@[simp] theorem i188 : tint Tryz.prog 188 = none := by kernel_rfl
@[simp] theorem a188 : tagg Tryz.prog 188 = some false := by kernel_rfl
@[simp] theorem o188 : tzero Tryz.prog 188 = some [.nilFunc] := by kernel_rfl
@[simp] theorem q188 : tcomp Tryz.prog 188 = false := by kernel_rfl
@[simp] theorem y188 : tbyte Tryz.prog 188 = false := by kernel_rfl
@[simp] theorem z195 : tsz Tryz.prog 195 = some 1 := by kernel_rfl
@[simp] theorem c195 : tcode Tryz.prog 195 = 2 := by kernel_rfl
@[simp] theorem i195 : tint Tryz.prog 195 = some .u32 := by kernel_rfl
@[simp] theorem a195 : tagg Tryz.prog 195 = some false := by kernel_rfl
@[simp] theorem o195 : tzero Tryz.prog 195 = some [.int .u32 0] := by kernel_rfl
@[simp] theorem q195 : tcomp Tryz.prog 195 = true := by kernel_rfl
@[simp] theorem y195 : tbyte Tryz.prog 195 = false := by kernel_rfl
@[simp] theorem z199 : tsz Tryz.prog 199 = some 1 := by kernel_rfl
@[simp] theorem c199 : tcode Tryz.prog 199 = 7 := by kernel_rfl
@[simp] theorem i199 : tint Tryz.prog 199 = none := by kernel_rfl
@[simp] theorem a199 : tagg Tryz.prog 199 = some false := by kernel_rfl
@[simp] theorem o199 : tzero Tryz.prog 199 = some [.nilFunc] := by kernel_rfl
@[simp] theorem q199 : tcomp Tryz.prog 199 = false := by kernel_rfl
@[simp] theorem y199 : tbyte Tryz.prog 199 = false := by kernel_rfl
@[simp] theorem z200 : tsz Tryz.prog 200 = some 1 := by kernel_rfl
@[simp] theorem c200 : tcode Tryz.prog 200 = 7 := by kernel_rfl
@[simp] theorem i200 : tint Tryz.prog 200 = none := by kernel_rfl
@[simp] theorem a200 : tagg Tryz.prog 200 = some false := by kernel_rfl
@[simp] theorem o200 : tzero Tryz.prog 200 = some [.nilFunc] := by kernel_rfl
@[simp] theorem q200 : tcomp Tryz.prog 200 = false := by kernel_rfl
@[simp] theorem y200 : tbyte Tryz.prog 200 = false := by kernel_rfl
@[simp] theorem z220 : tsz Tryz.prog 220 = some 1 := by kernel_rfl
@[simp] theorem c220 : tcode Tryz.prog 220 = 7 := by kernel_rfl
@[simp] theorem i220 : tint Tryz.prog 220 = none := by kernel_rfl
@[simp] theorem a220 : tagg Tryz.prog 220 = some false := by kernel_rfl
@[simp] theorem o220 : tzero Tryz.prog 220 = some [.nilFunc] := by kernel_rfl
@[simp] theorem q220 : tcomp Tryz.prog 220 = false := by kernel_rfl
@[simp] theorem y220 : tbyte Tryz.prog 220 = false := by kernel_rfl
@[simp] theorem z227 : tsz Tryz.prog 227 = some 1 := by kernel_rfl
@[simp] theorem c227 : tcode Tryz.prog 227 = 2 := by kernel_rfl
@[simp] theorem i227 : tint Tryz.prog 227 = some .u64 := by kernel_rfl
@[simp] theorem a227 : tagg Tryz.prog 227 = some false := by kernel_rfl
@[simp] theorem o227 : tzero Tryz.prog 227 = some [.int .u64 0] := by kernel_rfl
@[simp] theorem q227 : tcomp Tryz.prog 227 = true := by kernel_rfl
@[simp] theorem y227 : tbyte Tryz.prog 227 = false := by kernel_rfl
@[simp] theorem z231 : tsz Tryz.prog 231 = some 1 := by kernel_rfl
@[simp] theorem c231 : tcode Tryz.prog 231 = 4 := by kernel_rfl
@[simp] theorem i231 : tint Tryz.prog 231 = none := by kernel_rfl
@[simp] theorem a231 : tagg Tryz.prog 231 = some false := by kernel_rfl
@[simp] theorem o231 : tzero Tryz.prog 231 = some [.pointer none] := by kernel_rfl
@[simp] theorem q231 : tcomp Tryz.prog 231 = true := by kernel_rfl
@[simp] theorem y231 : tbyte Tryz.prog 231 = false := by kernel_rfl
@[simp] theorem z236 : tsz Tryz.prog 236 = some 1 := by kernel_rfl
@[simp] theorem c236 : tcode Tryz.prog 236 = 7 := by kernel_rfl
@[simp] theorem i236 : tint Tryz.prog 236 = none := by kernel_rfl
@[simp] theorem a236 : tagg Tryz.prog 236 = some false := by kernel_rfl
@[simp] theorem o236 : tzero Tryz.prog 236 = some [.nilFunc] := by kernel_rfl
@[simp] theorem q236 : tcomp Tryz.prog 236 = false := by kernel_rfl
@[simp] theorem y236 : tbyte Tryz.prog 236 = false := by kernel_rfl
@[simp] theorem z256 : tsz Tryz.prog 256 = some 4 := by kernel_rfl
@[simp] theorem c256 : tcode Tryz.prog 256 = 8 := by kernel_rfl
@[simp] theorem i256 : tint Tryz.prog 256 = none := by kernel_rfl
@[simp] theorem a256 : tagg Tryz.prog 256 = some true := by kernel_rfl
@[simp] theorem o256 : tzero Tryz.prog 256 = some [.pointer none, .pointer none, .pointer none, .string (ofL [])] := by kernel_rfl
@[simp] theorem q256 : tcomp Tryz.prog 256 = true := by kernel_rfl
@[simp] theorem y256 : tbyte Tryz.prog 256 = false := by kernel_rfl
@[simp] theorem f256_0 : tfld Tryz.prog 256 0 = some (0, false, 1) := by kernel_rfl
@[simp] theorem f256_1 : tfld Tryz.prog 256 1 = some (1, false, 1) := by kernel_rfl
@[simp] theorem f256_2 : tfld Tryz.prog 256 2 = some (2, false, 1) := by kernel_rfl
@[simp] theorem f256_3 : tfld Tryz.prog 256 3 = some (3, false, 1) := by kernel_rfl
@[simp] theorem p256 : tplaces Tryz.prog 256 = some [(0, 1), (1, 1), (2, 1), (3, 1)] := by kernel_rfl
@[simp] theorem z258 : tsz Tryz.prog 258 = some 0 := by kernel_rfl
@[simp] theorem c258 : tcode Tryz.prog 258 = 9 := by kernel_rfl
@[simp] theorem i258 : tint Tryz.prog 258 = none := by kernel_rfl
@[simp] theorem a258 : tagg Tryz.prog 258 = some true := by kernel_rfl
@[simp] theorem o258 : tzero Tryz.prog 258 = some [] := by kernel_rfl
@[simp] theorem q258 : tcomp Tryz.prog 258 = true := by kernel_rfl
@[simp] theorem y258 : tbyte Tryz.prog 258 = false := by kernel_rfl
@[simp] theorem z259 : tsz Tryz.prog 259 = some 0 := by kernel_rfl
@[simp] theorem c259 : tcode Tryz.prog 259 = 8 := by kernel_rfl
@[simp] theorem i259 : tint Tryz.prog 259 = none := by kernel_rfl
@[simp] theorem a259 : tagg Tryz.prog 259 = some true := by kernel_rfl
@[simp] theorem o259 : tzero Tryz.prog 259 = some [] := by kernel_rfl
@[simp] theorem q259 : tcomp Tryz.prog 259 = true := by kernel_rfl
@[simp] theorem y259 : tbyte Tryz.prog 259 = false := by kernel_rfl
@[simp] theorem p259 : tplaces Tryz.prog 259 = some [(0, 0)] := by kernel_rfl
@[simp] theorem z260 : tsz Tryz.prog 260 = some 0 := by kernel_rfl
@[simp] theorem c260 : tcode Tryz.prog 260 = 8 := by kernel_rfl
@[simp] theorem i260 : tint Tryz.prog 260 = none := by kernel_rfl
@[simp] theorem a260 : tagg Tryz.prog 260 = some true := by kernel_rfl
@[simp] theorem o260 : tzero Tryz.prog 260 = some [] := by kernel_rfl
@[simp] theorem q260 : tcomp Tryz.prog 260 = true := by kernel_rfl
@[simp] theorem y260 : tbyte Tryz.prog 260 = false := by kernel_rfl
@[simp] theorem p260 : tplaces Tryz.prog 260 = some [(0, 0)] := by kernel_rfl
@[simp] theorem z262 : tsz Tryz.prog 262 = some 1 := by kernel_rfl
@[simp] theorem c262 : tcode Tryz.prog 262 = 2 := by kernel_rfl
@[simp] theorem i262 : tint Tryz.prog 262 = some .u8 := by kernel_rfl
@[simp] theorem a262 : tagg Tryz.prog 262 = some false := by kernel_rfl
@[simp] theorem o262 : tzero Tryz.prog 262 = some [.int .u8 0] := by kernel_rfl
@[simp] theorem q262 : tcomp Tryz.prog 262 = true := by kernel_rfl
@[simp] theorem y262 : tbyte Tryz.prog 262 = false := by kernel_rfl
@[simp] theorem z263 : tsz Tryz.prog 263 = some 1 := by kernel_rfl
@[simp] theorem c263 : tcode Tryz.prog 263 = 2 := by kernel_rfl
@[simp] theorem i263 : tint Tryz.prog 263 = some .u8 := by kernel_rfl
@[simp] theorem a263 : tagg Tryz.prog 263 = some false := by kernel_rfl
@[simp] theorem o263 : tzero Tryz.prog 263 = some [.int .u8 0] := by kernel_rfl
@[simp] theorem q263 : tcomp Tryz.prog 263 = true := by kernel_rfl
@[simp] theorem y263 : tbyte Tryz.prog 263 = false := by kernel_rfl
@[simp] theorem z264 : tsz Tryz.prog 264 = some 1 := by kernel_rfl
@[simp] theorem c264 : tcode Tryz.prog 264 = 7 := by kernel_rfl
@[simp] theorem i264 : tint Tryz.prog 264 = none := by kernel_rfl
@[simp] theorem a264 : tagg Tryz.prog 264 = some false := by kernel_rfl
@[simp] theorem o264 : tzero Tryz.prog 264 = some [.nilFunc] := by kernel_rfl
@[simp] theorem q264 : tcomp Tryz.prog 264 = false := by kernel_rfl
@[simp] theorem y264 : tbyte Tryz.prog 264 = false := by kernel_rfl
@[simp] theorem z265 : tsz Tryz.prog 265 = some 1 := by kernel_rfl
@[simp] theorem c265 : tcode Tryz.prog 265 = 4 := by kernel_rfl
@[simp] theorem i265 : tint Tryz.prog 265 = none := by kernel_rfl
@[simp] theorem a265 : tagg Tryz.prog 265 = some false := by kernel_rfl
@[simp] theorem o265 : tzero Tryz.prog 265 = some [.pointer none] := by kernel_rfl
@[simp] theorem q265 : tcomp Tryz.prog 265 = true := by kernel_rfl
@[simp] theorem y265 : tbyte Tryz.prog 265 = false := by kernel_rfl
@[simp] theorem z266 : tsz Tryz.prog 266 = some 1 := by kernel_rfl
@[simp] theorem c266 : tcode Tryz.prog 266 = 2 := by kernel_rfl
@[simp] theorem i266 : tint Tryz.prog 266 = some .i32 := by kernel_rfl
@[simp] theorem a266 : tagg Tryz.prog 266 = some false := by kernel_rfl
@[simp] theorem o266 : tzero Tryz.prog 266 = some [.int .i32 0] := by kernel_rfl
@[simp] theorem q266 : tcomp Tryz.prog 266 = true := by kernel_rfl
@[simp] theorem y266 : tbyte Tryz.prog 266 = false := by kernel_rfl
@[simp] theorem z267 : tsz Tryz.prog 267 = some 1 := by kernel_rfl
@[simp] theorem c267 : tcode Tryz.prog 267 = 2 := by kernel_rfl
@[simp] theorem i267 : tint Tryz.prog 267 = some .i32 := by kernel_rfl
@[simp] theorem a267 : tagg Tryz.prog 267 = some false := by kernel_rfl
@[simp] theorem o267 : tzero Tryz.prog 267 = some [.int .i32 0] := by kernel_rfl
@[simp] theorem q267 : tcomp Tryz.prog 267 = true := by kernel_rfl
@[simp] theorem y267 : tbyte Tryz.prog 267 = false := by kernel_rfl
@[simp] theorem z268 : tsz Tryz.prog 268 = some 11 := by kernel_rfl
@[simp] theorem c268 : tcode Tryz.prog 268 = 8 := by kernel_rfl
@[simp] theorem i268 : tint Tryz.prog 268 = none := by kernel_rfl
@[simp] theorem a268 : tagg Tryz.prog 268 = some true := by kernel_rfl
@[simp] theorem o268 : tzero Tryz.prog 268 = some [.int .u64 0, .int .u64 0, .int .u32 0, .int .u8 0, .int .u8 0, .int .u8 0, .int .u8 0, .nilFunc, .pointer none, .int .i32 0, .int .i32 0] := by kernel_rfl
@[simp] theorem q268 : tcomp Tryz.prog 268 = false := by kernel_rfl
@[simp] theorem y268 : tbyte Tryz.prog 268 = false := by kernel_rfl
@[simp] theorem f268_0 : tfld Tryz.prog 268 0 = some (0, false, 1) := by kernel_rfl
@[simp] theorem f268_1 : tfld Tryz.prog 268 1 = some (1, false, 1) := by kernel_rfl
@[simp] theorem f268_2 : tfld Tryz.prog 268 2 = some (2, false, 1) := by kernel_rfl
@[simp] theorem f268_3 : tfld Tryz.prog 268 3 = some (3, false, 1) := by kernel_rfl
@[simp] theorem f268_4 : tfld Tryz.prog 268 4 = some (4, false, 1) := by kernel_rfl
@[simp] theorem f268_5 : tfld Tryz.prog 268 5 = some (5, false, 1) := by kernel_rfl
@[simp] theorem f268_6 : tfld Tryz.prog 268 6 = some (6, false, 1) := by kernel_rfl
@[simp] theorem f268_7 : tfld Tryz.prog 268 7 = some (7, false, 1) := by kernel_rfl
@[simp] theorem f268_8 : tfld Tryz.prog 268 8 = some (8, false, 1) := by kernel_rfl
@[simp] theorem f268_9 : tfld Tryz.prog 268 9 = some (9, false, 1) := by kernel_rfl
@[simp] theorem f268_10 : tfld Tryz.prog 268 10 = some (10, false, 1) := by kernel_rfl
@[simp] theorem p268 : tplaces Tryz.prog 268 = some [(0, 1), (1, 1), (2, 1), (3, 1), (4, 1), (5, 1), (6, 1), (7, 1), (8, 1), (9, 1), (10, 1)] := by kernel_rfl
@[simp] theorem z269 : tsz Tryz.prog 269 = some 11 := by kernel_rfl
@[simp] theorem c269 : tcode Tryz.prog 269 = 8 := by kernel_rfl
@[simp] theorem i269 : tint Tryz.prog 269 = none := by kernel_rfl
@[simp] theorem a269 : tagg Tryz.prog 269 = some true := by kernel_rfl
@[simp] theorem o269 : tzero Tryz.prog 269 = some [.int .u64 0, .int .u64 0, .int .u32 0, .int .u8 0, .int .u8 0, .int .u8 0, .int .u8 0, .nilFunc, .pointer none, .int .i32 0, .int .i32 0] := by kernel_rfl
@[simp] theorem q269 : tcomp Tryz.prog 269 = false := by kernel_rfl
@[simp] theorem y269 : tbyte Tryz.prog 269 = false := by kernel_rfl
@[simp] theorem f269_0 : tfld Tryz.prog 269 0 = some (0, false, 1) := by kernel_rfl
@[simp] theorem f269_1 : tfld Tryz.prog 269 1 = some (1, false, 1) := by kernel_rfl
@[simp] theorem f269_2 : tfld Tryz.prog 269 2 = some (2, false, 1) := by kernel_rfl
@[simp] theorem f269_3 : tfld Tryz.prog 269 3 = some (3, false, 1) := by kernel_rfl
@[simp] theorem f269_4 : tfld Tryz.prog 269 4 = some (4, false, 1) := by kernel_rfl
@[simp] theorem f269_5 : tfld Tryz.prog 269 5 = some (5, false, 1) := by kernel_rfl
@[simp] theorem f269_6 : tfld Tryz.prog 269 6 = some (6, false, 1) := by kernel_rfl
@[simp] theorem f269_7 : tfld Tryz.prog 269 7 = some (7, false, 1) := by kernel_rfl
@[simp] theorem f269_8 : tfld Tryz.prog 269 8 = some (8, false, 1) := by kernel_rfl
@[simp] theorem f269_9 : tfld Tryz.prog 269 9 = some (9, false, 1) := by kernel_rfl
@[simp] theorem f269_10 : tfld Tryz.prog 269 10 = some (10, false, 1) := by kernel_rfl
@[simp] theorem p269 : tplaces Tryz.prog 269 = some [(0, 1), (1, 1), (2, 1), (3, 1), (4, 1), (5, 1), (6, 1), (7, 1), (8, 1), (9, 1), (10, 1)] := by kernel_rfl
end Go.Proofs.Mv.V.Ty
