/- A part of the proofs of the seat YtgekkmmmidgkbaaGreatDoor: the abstract machine, the contracts of the functions, the laws. No condition of its own. -/
import Derived.Test.YtgekkmmmidgkbaaGreatDoorProg
import Derived.KernelRfl
import Derived.Test.YtgekkmmmidgkbaaGreatDoorMvD
set_option linter.unusedSimpArgs false
set_option linter.unusedVariables false
set_option linter.unusedSectionVars false
namespace Go.Proofs.Mv.V.Ty
@[simp] theorem z0 : tsz Tryz.prog 0 = some 1 := by kernel_rfl
@[simp] theorem c0 : tcode Tryz.prog 0 = 10 := by kernel_rfl
@[simp] theorem i0 : tint Tryz.prog 0 = none := by kernel_rfl
@[simp] theorem q0 : tcomp Tryz.prog 0 = false := by kernel_rfl
@[simp] theorem y0 : tbyte Tryz.prog 0 = false := by kernel_rfl
@[simp] theorem z1 : tsz Tryz.prog 1 = some 1 := by kernel_rfl
@[simp] theorem c1 : tcode Tryz.prog 1 = 7 := by kernel_rfl
@[simp] theorem i1 : tint Tryz.prog 1 = none := by kernel_rfl
@[simp] theorem a1 : tagg Tryz.prog 1 = some false := by kernel_rfl
@[simp] theorem o1 : tzero Tryz.prog 1 = some [.nilFunc] := by kernel_rfl
@[simp] theorem q1 : tcomp Tryz.prog 1 = false := by kernel_rfl
@[simp] theorem y1 : tbyte Tryz.prog 1 = false := by kernel_rfl
@[simp] theorem z2 : tsz Tryz.prog 2 = some 1 := by kernel_rfl
@[simp] theorem c2 : tcode Tryz.prog 2 = 2 := by kernel_rfl
@[simp] theorem i2 : tint Tryz.prog 2 = some .i64 := by kernel_rfl
@[simp] theorem a2 : tagg Tryz.prog 2 = some false := by kernel_rfl
@[simp] theorem o2 : tzero Tryz.prog 2 = some [.int .i64 0] := by kernel_rfl
@[simp] theorem q2 : tcomp Tryz.prog 2 = true := by kernel_rfl
@[simp] theorem y2 : tbyte Tryz.prog 2 = false := by kernel_rfl
@[simp] theorem z3 : tsz Tryz.prog 3 = some 1 := by kernel_rfl
@[simp] theorem c3 : tcode Tryz.prog 3 = 2 := by kernel_rfl
@[simp] theorem i3 : tint Tryz.prog 3 = some .i64 := by kernel_rfl
@[simp] theorem a3 : tagg Tryz.prog 3 = some false := by kernel_rfl
@[simp] theorem o3 : tzero Tryz.prog 3 = some [.int .i64 0] := by kernel_rfl
@[simp] theorem q3 : tcomp Tryz.prog 3 = true := by kernel_rfl
@[simp] theorem y3 : tbyte Tryz.prog 3 = false := by kernel_rfl
@[simp] theorem z4 : tsz Tryz.prog 4 = some 1 := by kernel_rfl
@[simp] theorem c4 : tcode Tryz.prog 4 = 1 := by kernel_rfl
@[simp] theorem i4 : tint Tryz.prog 4 = none := by kernel_rfl
@[simp] theorem a4 : tagg Tryz.prog 4 = some false := by kernel_rfl
@[simp] theorem o4 : tzero Tryz.prog 4 = some [.bool false] := by kernel_rfl
@[simp] theorem q4 : tcomp Tryz.prog 4 = true := by kernel_rfl
@[simp] theorem y4 : tbyte Tryz.prog 4 = false := by kernel_rfl
@[simp] theorem z5 : tsz Tryz.prog 5 = some 1 := by kernel_rfl
@[simp] theorem c5 : tcode Tryz.prog 5 = 2 := by kernel_rfl
@[simp] theorem i5 : tint Tryz.prog 5 = some .u8 := by kernel_rfl
@[simp] theorem a5 : tagg Tryz.prog 5 = some false := by kernel_rfl
@[simp] theorem o5 : tzero Tryz.prog 5 = some [.int .u8 0] := by kernel_rfl
@[simp] theorem q5 : tcomp Tryz.prog 5 = true := by kernel_rfl
@[simp] theorem y5 : tbyte Tryz.prog 5 = false := by kernel_rfl
@[simp] theorem z9 : tsz Tryz.prog 9 = some 1 := by kernel_rfl
@[simp] theorem c9 : tcode Tryz.prog 9 = 3 := by kernel_rfl
@[simp] theorem i9 : tint Tryz.prog 9 = none := by kernel_rfl
@[simp] theorem a9 : tagg Tryz.prog 9 = some false := by kernel_rfl
@[simp] theorem o9 : tzero Tryz.prog 9 = some [.string (ofL [])] := by kernel_rfl
@[simp] theorem q9 : tcomp Tryz.prog 9 = true := by kernel_rfl
@[simp] theorem y9 : tbyte Tryz.prog 9 = false := by kernel_rfl
@[simp] theorem z12 : tsz Tryz.prog 12 = some 1 := by kernel_rfl
@[simp] theorem c12 : tcode Tryz.prog 12 = 2 := by kernel_rfl
@[simp] theorem i12 : tint Tryz.prog 12 = some .u64 := by kernel_rfl
@[simp] theorem a12 : tagg Tryz.prog 12 = some false := by kernel_rfl
@[simp] theorem o12 : tzero Tryz.prog 12 = some [.int .u64 0] := by kernel_rfl
@[simp] theorem q12 : tcomp Tryz.prog 12 = true := by kernel_rfl
@[simp] theorem y12 : tbyte Tryz.prog 12 = false := by kernel_rfl
@[simp] theorem z20 : tsz Tryz.prog 20 = some 1 := by kernel_rfl
@[simp] theorem c20 : tcode Tryz.prog 20 = 6 := by kernel_rfl
@[simp] theorem i20 : tint Tryz.prog 20 = none := by kernel_rfl
@[simp] theorem a20 : tagg Tryz.prog 20 = some false := by kernel_rfl
@[simp] theorem o20 : tzero Tryz.prog 20 = some [.nilIface] := by kernel_rfl
@[simp] theorem q20 : tcomp Tryz.prog 20 = true := by kernel_rfl
@[simp] theorem y20 : tbyte Tryz.prog 20 = false := by kernel_rfl
@[simp] theorem z21 : tsz Tryz.prog 21 = some 1 := by kernel_rfl
@[simp] theorem c21 : tcode Tryz.prog 21 = 2 := by kernel_rfl
@[simp] theorem i21 : tint Tryz.prog 21 = some .i32 := by kernel_rfl
@[simp] theorem a21 : tagg Tryz.prog 21 = some false := by kernel_rfl
@[simp] theorem o21 : tzero Tryz.prog 21 = some [.int .i32 0] := by kernel_rfl
@[simp] theorem q21 : tcomp Tryz.prog 21 = true := by kernel_rfl
@[simp] theorem y21 : tbyte Tryz.prog 21 = false := by kernel_rfl
@[simp] theorem z22 : tsz Tryz.prog 22 = some 1 := by kernel_rfl
@[simp] theorem c22 : tcode Tryz.prog 22 = 5 := by kernel_rfl
@[simp] theorem i22 : tint Tryz.prog 22 = none := by kernel_rfl
@[simp] theorem a22 : tagg Tryz.prog 22 = some false := by kernel_rfl
@[simp] theorem o22 : tzero Tryz.prog 22 = some [.slice none 0 0] := by kernel_rfl
@[simp] theorem q22 : tcomp Tryz.prog 22 = false := by kernel_rfl
@[simp] theorem e22 : telem Tryz.prog 22 = some (4, 56) := by kernel_rfl
@[simp] theorem w22 : tezero Tryz.prog 22 = some [.string (ofL []), .int .i64 0, .string (ofL []), .string (ofL [])] := by kernel_rfl
@[simp] theorem y22 : tbyte Tryz.prog 22 = false := by kernel_rfl
@[simp] theorem z23 : tsz Tryz.prog 23 = some 1 := by kernel_rfl
@[simp] theorem c23 : tcode Tryz.prog 23 = 5 := by kernel_rfl
@[simp] theorem i23 : tint Tryz.prog 23 = none := by kernel_rfl
@[simp] theorem a23 : tagg Tryz.prog 23 = some false := by kernel_rfl
@[simp] theorem o23 : tzero Tryz.prog 23 = some [.slice none 0 0] := by kernel_rfl
@[simp] theorem q23 : tcomp Tryz.prog 23 = false := by kernel_rfl
@[simp] theorem e23 : telem Tryz.prog 23 = some (10, 152) := by kernel_rfl
@[simp] theorem w23 : tezero Tryz.prog 23 = some [.int .i64 0, .string (ofL []), .string (ofL []), .int .i64 0, .string (ofL []), .int .i64 0, .string (ofL []), .string (ofL []), .slice none 0 0, .slice none 0 0] := by kernel_rfl
@[simp] theorem y23 : tbyte Tryz.prog 23 = false := by kernel_rfl
@[simp] theorem z24 : tsz Tryz.prog 24 = some 2 := by kernel_rfl
@[simp] theorem c24 : tcode Tryz.prog 24 = 8 := by kernel_rfl
@[simp] theorem i24 : tint Tryz.prog 24 = none := by kernel_rfl
@[simp] theorem a24 : tagg Tryz.prog 24 = some true := by kernel_rfl
@[simp] theorem o24 : tzero Tryz.prog 24 = some [.slice none 0 0, .slice none 0 0] := by kernel_rfl
@[simp] theorem q24 : tcomp Tryz.prog 24 = false := by kernel_rfl
@[simp] theorem y24 : tbyte Tryz.prog 24 = false := by kernel_rfl
@[simp] theorem f24_0 : tfld Tryz.prog 24 0 = some (0, false, 1) := by kernel_rfl
@[simp] theorem f24_1 : tfld Tryz.prog 24 1 = some (1, false, 1) := by kernel_rfl
@[simp] theorem p24 : tplaces Tryz.prog 24 = some [(0, 1), (1, 1)] := by kernel_rfl
@[simp] theorem z25 : tsz Tryz.prog 25 = some 2 := by kernel_rfl
@[simp] theorem c25 : tcode Tryz.prog 25 = 8 := by kernel_rfl
@[simp] theorem i25 : tint Tryz.prog 25 = none := by kernel_rfl
@[simp] theorem a25 : tagg Tryz.prog 25 = some true := by kernel_rfl
@[simp] theorem o25 : tzero Tryz.prog 25 = some [.slice none 0 0, .slice none 0 0] := by kernel_rfl
@[simp] theorem q25 : tcomp Tryz.prog 25 = false := by kernel_rfl
@[simp] theorem y25 : tbyte Tryz.prog 25 = false := by kernel_rfl
@[simp] theorem f25_0 : tfld Tryz.prog 25 0 = some (0, false, 1) := by kernel_rfl
@[simp] theorem f25_1 : tfld Tryz.prog 25 1 = some (1, false, 1) := by kernel_rfl
@[simp] theorem p25 : tplaces Tryz.prog 25 = some [(0, 1), (1, 1)] := by kernel_rfl
@[simp] theorem z26 : tsz Tryz.prog 26 = some 1 := by kernel_rfl
@[simp] theorem c26 : tcode Tryz.prog 26 = 5 := by kernel_rfl
@[simp] theorem i26 : tint Tryz.prog 26 = none := by kernel_rfl
@[simp] theorem a26 : tagg Tryz.prog 26 = some false := by kernel_rfl
@[simp] theorem o26 : tzero Tryz.prog 26 = some [.slice none 0 0] := by kernel_rfl
@[simp] theorem q26 : tcomp Tryz.prog 26 = false := by kernel_rfl
@[simp] theorem e26 : telem Tryz.prog 26 = some (5, 88) := by kernel_rfl
@[simp] theorem w26 : tezero Tryz.prog 26 = some [.string (ofL []), .int .i64 0, .string (ofL []), .slice none 0 0, .slice none 0 0] := by kernel_rfl
@[simp] theorem y26 : tbyte Tryz.prog 26 = false := by kernel_rfl
@[simp] theorem z32 : tsz Tryz.prog 32 = some 1 := by kernel_rfl
@[simp] theorem c32 : tcode Tryz.prog 32 = 7 := by kernel_rfl
@[simp] theorem i32 : tint Tryz.prog 32 = none := by kernel_rfl
@[simp] theorem a32 : tagg Tryz.prog 32 = some false := by kernel_rfl
@[simp] theorem o32 : tzero Tryz.prog 32 = some [.nilFunc] := by kernel_rfl
@[simp] theorem q32 : tcomp Tryz.prog 32 = false := by kernel_rfl
@[simp] theorem y32 : tbyte Tryz.prog 32 = false := by kernel_rfl
@[simp] theorem z33 : tsz Tryz.prog 33 = some 1 := by kernel_rfl
@[simp] theorem c33 : tcode Tryz.prog 33 = 6 := by kernel_rfl
@[simp] theorem i33 : tint Tryz.prog 33 = none := by kernel_rfl
@[simp] theorem a33 : tagg Tryz.prog 33 = some false := by kernel_rfl
@[simp] theorem o33 : tzero Tryz.prog 33 = some [.nilIface] := by kernel_rfl
@[simp] theorem q33 : tcomp Tryz.prog 33 = true := by kernel_rfl
@[simp] theorem y33 : tbyte Tryz.prog 33 = false := by kernel_rfl
@[simp] theorem z34 : tsz Tryz.prog 34 = some 1 := by kernel_rfl
@[simp] theorem c34 : tcode Tryz.prog 34 = 6 := by kernel_rfl
@[simp] theorem i34 : tint Tryz.prog 34 = none := by kernel_rfl
@[simp] theorem a34 : tagg Tryz.prog 34 = some false := by kernel_rfl
@[simp] theorem o34 : tzero Tryz.prog 34 = some [.nilIface] := by kernel_rfl
@[simp] theorem q34 : tcomp Tryz.prog 34 = true := by kernel_rfl
@[simp] theorem y34 : tbyte Tryz.prog 34 = false := by kernel_rfl
@[simp] theorem z35 : tsz Tryz.prog 35 = some 1 := by kernel_rfl
@[simp] theorem c35 : tcode Tryz.prog 35 = 7 := by kernel_rfl
@[simp] theorem i35 : tint Tryz.prog 35 = none := by kernel_rfl
@[simp] theorem a35 : tagg Tryz.prog 35 = some false := by kernel_rfl
@[simp] theorem o35 : tzero Tryz.prog 35 = some [.nilFunc] := by kernel_rfl
@[simp] theorem q35 : tcomp Tryz.prog 35 = false := by kernel_rfl
@[simp] theorem y35 : tbyte Tryz.prog 35 = false := by kernel_rfl
@[simp] theorem z37 : tsz Tryz.prog 37 = some 1 := by kernel_rfl
@[simp] theorem c37 : tcode Tryz.prog 37 = 5 := by kernel_rfl
@[simp] theorem i37 : tint Tryz.prog 37 = none := by kernel_rfl
@[simp] theorem a37 : tagg Tryz.prog 37 = some false := by kernel_rfl
@[simp] theorem o37 : tzero Tryz.prog 37 = some [.slice none 0 0] := by kernel_rfl
@[simp] theorem q37 : tcomp Tryz.prog 37 = false := by kernel_rfl
@[simp] theorem e37 : telem Tryz.prog 37 = some (8, 128) := by kernel_rfl
@[simp] theorem w37 : tezero Tryz.prog 37 = some [.string (ofL []), .int .i64 0, .string (ofL []), .int .i64 0, .string (ofL []), .string (ofL []), .slice none 0 0, .slice none 0 0] := by kernel_rfl
@[simp] theorem y37 : tbyte Tryz.prog 37 = false := by kernel_rfl
@[simp] theorem z38 : tsz Tryz.prog 38 = some 5 := by kernel_rfl
@[simp] theorem c38 : tcode Tryz.prog 38 = 8 := by kernel_rfl
@[simp] theorem i38 : tint Tryz.prog 38 = none := by kernel_rfl
@[simp] theorem a38 : tagg Tryz.prog 38 = some true := by kernel_rfl
@[simp] theorem o38 : tzero Tryz.prog 38 = some [.string (ofL []), .int .i64 0, .string (ofL []), .slice none 0 0, .slice none 0 0] := by kernel_rfl
@[simp] theorem q38 : tcomp Tryz.prog 38 = false := by kernel_rfl
@[simp] theorem y38 : tbyte Tryz.prog 38 = false := by kernel_rfl
@[simp] theorem f38_0 : tfld Tryz.prog 38 0 = some (0, false, 1) := by kernel_rfl
@[simp] theorem f38_1 : tfld Tryz.prog 38 1 = some (1, false, 1) := by kernel_rfl
@[simp] theorem f38_2 : tfld Tryz.prog 38 2 = some (2, false, 1) := by kernel_rfl
@[simp] theorem f38_3 : tfld Tryz.prog 38 3 = some (3, false, 1) := by kernel_rfl
@[simp] theorem f38_4 : tfld Tryz.prog 38 4 = some (4, false, 1) := by kernel_rfl
@[simp] theorem p38 : tplaces Tryz.prog 38 = some [(0, 1), (1, 1), (2, 1), (3, 1), (4, 1)] := by kernel_rfl
@[simp] theorem z39 : tsz Tryz.prog 39 = some 5 := by kernel_rfl
@[simp] theorem c39 : tcode Tryz.prog 39 = 8 := by kernel_rfl
@[simp] theorem i39 : tint Tryz.prog 39 = none := by kernel_rfl
@[simp] theorem a39 : tagg Tryz.prog 39 = some true := by kernel_rfl
@[simp] theorem o39 : tzero Tryz.prog 39 = some [.string (ofL []), .int .i64 0, .string (ofL []), .slice none 0 0, .slice none 0 0] := by kernel_rfl
@[simp] theorem q39 : tcomp Tryz.prog 39 = false := by kernel_rfl
@[simp] theorem y39 : tbyte Tryz.prog 39 = false := by kernel_rfl
@[simp] theorem f39_0 : tfld Tryz.prog 39 0 = some (0, false, 1) := by kernel_rfl
@[simp] theorem f39_1 : tfld Tryz.prog 39 1 = some (1, false, 1) := by kernel_rfl
@[simp] theorem f39_2 : tfld Tryz.prog 39 2 = some (2, false, 1) := by kernel_rfl
@[simp] theorem f39_3 : tfld Tryz.prog 39 3 = some (3, false, 1) := by kernel_rfl
@[simp] theorem f39_4 : tfld Tryz.prog 39 4 = some (4, false, 1) := by kernel_rfl
@[simp] theorem p39 : tplaces Tryz.prog 39 = some [(0, 1), (1, 1), (2, 1), (3, 1), (4, 1)] := by kernel_rfl
@[simp] theorem z40 : tsz Tryz.prog 40 = some 1 := by kernel_rfl
@[simp] theorem c40 : tcode Tryz.prog 40 = 7 := by kernel_rfl
@[simp] theorem i40 : tint Tryz.prog 40 = none := by kernel_rfl
@[simp] theorem a40 : tagg Tryz.prog 40 = some false := by kernel_rfl
@[simp] theorem o40 : tzero Tryz.prog 40 = some [.nilFunc] := by kernel_rfl
@[simp] theorem q40 : tcomp Tryz.prog 40 = false := by kernel_rfl
@[simp] theorem y40 : tbyte Tryz.prog 40 = false := by kernel_rfl
@[simp] theorem z41 : tsz Tryz.prog 41 = some 1 := by kernel_rfl
@[simp] theorem c41 : tcode Tryz.prog 41 = 10 := by kernel_rfl
@[simp] theorem i41 : tint Tryz.prog 41 = none := by kernel_rfl
@[simp] theorem q41 : tcomp Tryz.prog 41 = false := by kernel_rfl
@[simp] theorem y41 : tbyte Tryz.prog 41 = false := by kernel_rfl
@[simp] theorem z43 : tsz Tryz.prog 43 = some 1 := by kernel_rfl
@[simp] theorem c43 : tcode Tryz.prog 43 = 5 := by kernel_rfl
@[simp] theorem i43 : tint Tryz.prog 43 = none := by kernel_rfl
@[simp] theorem a43 : tagg Tryz.prog 43 = some false := by kernel_rfl
@[simp] theorem o43 : tzero Tryz.prog 43 = some [.slice none 0 0] := by kernel_rfl
@[simp] theorem q43 : tcomp Tryz.prog 43 = false := by kernel_rfl
@[simp] theorem e43 : telem Tryz.prog 43 = some (1, 16) := by kernel_rfl
@[simp] theorem w43 : tezero Tryz.prog 43 = some [.string (ofL [])] := by kernel_rfl
@[simp] theorem y43 : tbyte Tryz.prog 43 = false := by kernel_rfl
@[simp] theorem z44 : tsz Tryz.prog 44 = some 1 := by kernel_rfl
@[simp] theorem c44 : tcode Tryz.prog 44 = 5 := by kernel_rfl
@[simp] theorem i44 : tint Tryz.prog 44 = none := by kernel_rfl
@[simp] theorem a44 : tagg Tryz.prog 44 = some false := by kernel_rfl
@[simp] theorem o44 : tzero Tryz.prog 44 = some [.slice none 0 0] := by kernel_rfl
@[simp] theorem q44 : tcomp Tryz.prog 44 = false := by kernel_rfl
@[simp] theorem e44 : telem Tryz.prog 44 = some (7, 112) := by kernel_rfl
@[simp] theorem w44 : tezero Tryz.prog 44 = some [.int .i64 0, .string (ofL []), .int .i64 0, .string (ofL []), .string (ofL []), .slice none 0 0, .slice none 0 0] := by kernel_rfl
@[simp] theorem y44 : tbyte Tryz.prog 44 = false := by kernel_rfl
@[simp] theorem z45 : tsz Tryz.prog 45 = some 7 := by kernel_rfl
@[simp] theorem c45 : tcode Tryz.prog 45 = 8 := by kernel_rfl
@[simp] theorem i45 : tint Tryz.prog 45 = none := by kernel_rfl
@[simp] theorem a45 : tagg Tryz.prog 45 = some true := by kernel_rfl
@[simp] theorem o45 : tzero Tryz.prog 45 = some [.int .i64 0, .string (ofL []), .int .i64 0, .string (ofL []), .string (ofL []), .slice none 0 0, .slice none 0 0] := by kernel_rfl
@[simp] theorem q45 : tcomp Tryz.prog 45 = false := by kernel_rfl
@[simp] theorem y45 : tbyte Tryz.prog 45 = false := by kernel_rfl
@[simp] theorem f45_0 : tfld Tryz.prog 45 0 = some (0, false, 1) := by kernel_rfl
@[simp] theorem f45_1 : tfld Tryz.prog 45 1 = some (1, false, 1) := by kernel_rfl
@[simp] theorem f45_2 : tfld Tryz.prog 45 2 = some (2, false, 1) := by kernel_rfl
@[simp] theorem f45_3 : tfld Tryz.prog 45 3 = some (3, false, 1) := by kernel_rfl
@[simp] theorem f45_4 : tfld Tryz.prog 45 4 = some (4, false, 1) := by kernel_rfl
@[simp] theorem f45_5 : tfld Tryz.prog 45 5 = some (5, false, 1) := by kernel_rfl
@[simp] theorem f45_6 : tfld Tryz.prog 45 6 = some (6, false, 1) := by kernel_rfl
@[simp] theorem p45 : tplaces Tryz.prog 45 = some [(0, 1), (1, 1), (2, 1), (3, 1), (4, 1), (5, 1), (6, 1)] := by kernel_rfl
@[simp] theorem z46 : tsz Tryz.prog 46 = some 7 := by kernel_rfl
@[simp] theorem c46 : tcode Tryz.prog 46 = 8 := by kernel_rfl
@[simp] theorem i46 : tint Tryz.prog 46 = none := by kernel_rfl
@[simp] theorem a46 : tagg Tryz.prog 46 = some true := by kernel_rfl
@[simp] theorem o46 : tzero Tryz.prog 46 = some [.int .i64 0, .string (ofL []), .int .i64 0, .string (ofL []), .string (ofL []), .slice none 0 0, .slice none 0 0] := by kernel_rfl
@[simp] theorem q46 : tcomp Tryz.prog 46 = false := by kernel_rfl
@[simp] theorem y46 : tbyte Tryz.prog 46 = false := by kernel_rfl
@[simp] theorem f46_0 : tfld Tryz.prog 46 0 = some (0, false, 1) := by kernel_rfl
@[simp] theorem f46_1 : tfld Tryz.prog 46 1 = some (1, false, 1) := by kernel_rfl
@[simp] theorem f46_2 : tfld Tryz.prog 46 2 = some (2, false, 1) := by kernel_rfl
@[simp] theorem f46_3 : tfld Tryz.prog 46 3 = some (3, false, 1) := by kernel_rfl
@[simp] theorem f46_4 : tfld Tryz.prog 46 4 = some (4, false, 1) := by kernel_rfl
@[simp] theorem f46_5 : tfld Tryz.prog 46 5 = some (5, false, 1) := by kernel_rfl
@[simp] theorem f46_6 : tfld Tryz.prog 46 6 = some (6, false, 1) := by kernel_rfl
@[simp] theorem p46 : tplaces Tryz.prog 46 = some [(0, 1), (1, 1), (2, 1), (3, 1), (4, 1), (5, 1), (6, 1)] := by kernel_rfl
@[simp] theorem z47 : tsz Tryz.prog 47 = some 8 := by kernel_rfl
@[simp] theorem c47 : tcode Tryz.prog 47 = 8 := by kernel_rfl
@[simp] theorem i47 : tint Tryz.prog 47 = none := by kernel_rfl
@[simp] theorem a47 : tagg Tryz.prog 47 = some true := by kernel_rfl
@[simp] theorem o47 : tzero Tryz.prog 47 = some [.string (ofL []), .int .i64 0, .string (ofL []), .int .i64 0, .string (ofL []), .string (ofL []), .slice none 0 0, .slice none 0 0] := by kernel_rfl
@[simp] theorem q47 : tcomp Tryz.prog 47 = false := by kernel_rfl
@[simp] theorem y47 : tbyte Tryz.prog 47 = false := by kernel_rfl
@[simp] theorem f47_0 : tfld Tryz.prog 47 0 = some (0, false, 1) := by kernel_rfl
@[simp] theorem f47_1 : tfld Tryz.prog 47 1 = some (1, true, 7) := by kernel_rfl
@[simp] theorem p47 : tplaces Tryz.prog 47 = some [(0, 1), (1, 7)] := by kernel_rfl
@[simp] theorem z48 : tsz Tryz.prog 48 = some 8 := by kernel_rfl
@[simp] theorem c48 : tcode Tryz.prog 48 = 8 := by kernel_rfl
@[simp] theorem i48 : tint Tryz.prog 48 = none := by kernel_rfl
@[simp] theorem a48 : tagg Tryz.prog 48 = some true := by kernel_rfl
@[simp] theorem o48 : tzero Tryz.prog 48 = some [.string (ofL []), .int .i64 0, .string (ofL []), .int .i64 0, .string (ofL []), .string (ofL []), .slice none 0 0, .slice none 0 0] := by kernel_rfl
@[simp] theorem q48 : tcomp Tryz.prog 48 = false := by kernel_rfl
@[simp] theorem y48 : tbyte Tryz.prog 48 = false := by kernel_rfl
@[simp] theorem f48_0 : tfld Tryz.prog 48 0 = some (0, false, 1) := by kernel_rfl
@[simp] theorem f48_1 : tfld Tryz.prog 48 1 = some (1, true, 7) := by kernel_rfl
@[simp] theorem p48 : tplaces Tryz.prog 48 = some [(0, 1), (1, 7)] := by kernel_rfl
@[simp] theorem z49 : tsz Tryz.prog 49 = some 1 := by kernel_rfl
@[simp] theorem c49 : tcode Tryz.prog 49 = 7 := by kernel_rfl
@[simp] theorem i49 : tint Tryz.prog 49 = none := by kernel_rfl
@[simp] theorem a49 : tagg Tryz.prog 49 = some false := by kernel_rfl
@[simp] theorem o49 : tzero Tryz.prog 49 = some [.nilFunc] := by kernel_rfl
@[simp] theorem q49 : tcomp Tryz.prog 49 = false := by kernel_rfl
@[simp] theorem y49 : tbyte Tryz.prog 49 = false := by kernel_rfl
@[simp] theorem z50 : tsz Tryz.prog 50 = some 1 := by kernel_rfl
@[simp] theorem c50 : tcode Tryz.prog 50 = 2 := by kernel_rfl
@[simp] theorem i50 : tint Tryz.prog 50 = some .i64 := by kernel_rfl
@[simp] theorem a50 : tagg Tryz.prog 50 = some false := by kernel_rfl
@[simp] theorem o50 : tzero Tryz.prog 50 = some [.int .i64 0] := by kernel_rfl
@[simp] theorem q50 : tcomp Tryz.prog 50 = true := by kernel_rfl
@[simp] theorem y50 : tbyte Tryz.prog 50 = false := by kernel_rfl
@[simp] theorem z51 : tsz Tryz.prog 51 = some 1 := by kernel_rfl
@[simp] theorem c51 : tcode Tryz.prog 51 = 7 := by kernel_rfl
@[simp] theorem i51 : tint Tryz.prog 51 = none := by kernel_rfl
@[simp] theorem a51 : tagg Tryz.prog 51 = some false := by kernel_rfl
@[simp] theorem o51 : tzero Tryz.prog 51 = some [.nilFunc] := by kernel_rfl
@[simp] theorem q51 : tcomp Tryz.prog 51 = false := by kernel_rfl
@[simp] theorem y51 : tbyte Tryz.prog 51 = false := by kernel_rfl
@[simp] theorem z52 : tsz Tryz.prog 52 = some 10 := by kernel_rfl
@[simp] theorem c52 : tcode Tryz.prog 52 = 8 := by kernel_rfl
@[simp] theorem i52 : tint Tryz.prog 52 = none := by kernel_rfl
@[simp] theorem a52 : tagg Tryz.prog 52 = some true := by kernel_rfl
@[simp] theorem o52 : tzero Tryz.prog 52 = some [.int .i64 0, .string (ofL []), .string (ofL []), .int .i64 0, .string (ofL []), .int .i64 0, .string (ofL []), .string (ofL []), .slice none 0 0, .slice none 0 0] := by kernel_rfl
@[simp] theorem q52 : tcomp Tryz.prog 52 = false := by kernel_rfl
@[simp] theorem y52 : tbyte Tryz.prog 52 = false := by kernel_rfl
@[simp] theorem f52_0 : tfld Tryz.prog 52 0 = some (0, false, 1) := by kernel_rfl
@[simp] theorem f52_1 : tfld Tryz.prog 52 1 = some (1, false, 1) := by kernel_rfl
@[simp] theorem f52_2 : tfld Tryz.prog 52 2 = some (2, false, 1) := by kernel_rfl
@[simp] theorem f52_3 : tfld Tryz.prog 52 3 = some (3, true, 7) := by kernel_rfl
@[simp] theorem p52 : tplaces Tryz.prog 52 = some [(0, 1), (1, 1), (2, 1), (3, 7)] := by kernel_rfl
@[simp] theorem z53 : tsz Tryz.prog 53 = some 10 := by kernel_rfl
@[simp] theorem c53 : tcode Tryz.prog 53 = 8 := by kernel_rfl
@[simp] theorem i53 : tint Tryz.prog 53 = none := by kernel_rfl
@[simp] theorem a53 : tagg Tryz.prog 53 = some true := by kernel_rfl
@[simp] theorem o53 : tzero Tryz.prog 53 = some [.int .i64 0, .string (ofL []), .string (ofL []), .int .i64 0, .string (ofL []), .int .i64 0, .string (ofL []), .string (ofL []), .slice none 0 0, .slice none 0 0] := by kernel_rfl
@[simp] theorem q53 : tcomp Tryz.prog 53 = false := by kernel_rfl
@[simp] theorem y53 : tbyte Tryz.prog 53 = false := by kernel_rfl
@[simp] theorem f53_0 : tfld Tryz.prog 53 0 = some (0, false, 1) := by kernel_rfl
@[simp] theorem f53_1 : tfld Tryz.prog 53 1 = some (1, false, 1) := by kernel_rfl
@[simp] theorem f53_2 : tfld Tryz.prog 53 2 = some (2, false, 1) := by kernel_rfl
@[simp] theorem f53_3 : tfld Tryz.prog 53 3 = some (3, true, 7) := by kernel_rfl
@[simp] theorem p53 : tplaces Tryz.prog 53 = some [(0, 1), (1, 1), (2, 1), (3, 7)] := by kernel_rfl
@[simp] theorem z54 : tsz Tryz.prog 54 = some 4 := by kernel_rfl
@[simp] theorem c54 : tcode Tryz.prog 54 = 8 := by kernel_rfl
@[simp] theorem i54 : tint Tryz.prog 54 = none := by kernel_rfl
@[simp] theorem a54 : tagg Tryz.prog 54 = some true := by kernel_rfl
@[simp] theorem o54 : tzero Tryz.prog 54 = some [.string (ofL []), .int .i64 0, .string (ofL []), .string (ofL [])] := by kernel_rfl
@[simp] theorem s54 : tsfl Tryz.prog 54 = some [(0, 9, false, 1), (1, 3, false, 1), (2, 9, false, 1), (3, 9, false, 1)] := by kernel_rfl
@[simp] theorem q54 : tcomp Tryz.prog 54 = true := by kernel_rfl
@[simp] theorem y54 : tbyte Tryz.prog 54 = false := by kernel_rfl
@[simp] theorem f54_0 : tfld Tryz.prog 54 0 = some (0, false, 1) := by kernel_rfl
@[simp] theorem f54_1 : tfld Tryz.prog 54 1 = some (1, false, 1) := by kernel_rfl
@[simp] theorem f54_2 : tfld Tryz.prog 54 2 = some (2, false, 1) := by kernel_rfl
@[simp] theorem f54_3 : tfld Tryz.prog 54 3 = some (3, false, 1) := by kernel_rfl
@[simp] theorem p54 : tplaces Tryz.prog 54 = some [(0, 1), (1, 1), (2, 1), (3, 1)] := by kernel_rfl
@[simp] theorem z55 : tsz Tryz.prog 55 = some 4 := by kernel_rfl
@[simp] theorem c55 : tcode Tryz.prog 55 = 8 := by kernel_rfl
@[simp] theorem i55 : tint Tryz.prog 55 = none := by kernel_rfl
@[simp] theorem a55 : tagg Tryz.prog 55 = some true := by kernel_rfl
@[simp] theorem o55 : tzero Tryz.prog 55 = some [.string (ofL []), .int .i64 0, .string (ofL []), .string (ofL [])] := by kernel_rfl
@[simp] theorem s55 : tsfl Tryz.prog 55 = some [(0, 9, false, 1), (1, 3, false, 1), (2, 9, false, 1), (3, 9, false, 1)] := by kernel_rfl
@[simp] theorem q55 : tcomp Tryz.prog 55 = true := by kernel_rfl
@[simp] theorem y55 : tbyte Tryz.prog 55 = false := by kernel_rfl
@[simp] theorem f55_0 : tfld Tryz.prog 55 0 = some (0, false, 1) := by kernel_rfl
@[simp] theorem f55_1 : tfld Tryz.prog 55 1 = some (1, false, 1) := by kernel_rfl
@[simp] theorem f55_2 : tfld Tryz.prog 55 2 = some (2, false, 1) := by kernel_rfl
@[simp] theorem f55_3 : tfld Tryz.prog 55 3 = some (3, false, 1) := by kernel_rfl
@[simp] theorem p55 : tplaces Tryz.prog 55 = some [(0, 1), (1, 1), (2, 1), (3, 1)] := by kernel_rfl
@[simp] theorem z57 : tsz Tryz.prog 57 = some 1 := by kernel_rfl
@[simp] theorem c57 : tcode Tryz.prog 57 = 7 := by kernel_rfl
@[simp] theorem i57 : tint Tryz.prog 57 = none := by kernel_rfl
@[simp] theorem a57 : tagg Tryz.prog 57 = some false := by kernel_rfl
@[simp] theorem o57 : tzero Tryz.prog 57 = some [.nilFunc] := by kernel_rfl
@[simp] theorem q57 : tcomp Tryz.prog 57 = false := by kernel_rfl
@[simp] theorem y57 : tbyte Tryz.prog 57 = false := by kernel_rfl
@[simp] theorem z58 : tsz Tryz.prog 58 = some 1 := by kernel_rfl
@[simp] theorem c58 : tcode Tryz.prog 58 = 7 := by kernel_rfl
@[simp] theorem i58 : tint Tryz.prog 58 = none := by kernel_rfl
@[simp] theorem a58 : tagg Tryz.prog 58 = some false := by kernel_rfl
@[simp] theorem o58 : tzero Tryz.prog 58 = some [.nilFunc] := by kernel_rfl
@[simp] theorem q58 : tcomp Tryz.prog 58 = false := by kernel_rfl
@[simp] theorem y58 : tbyte Tryz.prog 58 = false := by kernel_rfl
@[simp] theorem z59 : tsz Tryz.prog 59 = some 1 := by kernel_rfl
@[simp] theorem c59 : tcode Tryz.prog 59 = 7 := by kernel_rfl
@[simp] theorem i59 : tint Tryz.prog 59 = none := by kernel_rfl
@[simp] theorem a59 : tagg Tryz.prog 59 = some false := by kernel_rfl
@[simp] theorem o59 : tzero Tryz.prog 59 = some [.nilFunc] := by kernel_rfl
@[simp] theorem q59 : tcomp Tryz.prog 59 = false := by kernel_rfl
@[simp] theorem y59 : tbyte Tryz.prog 59 = false := by kernel_rfl
@[simp] theorem z60 : tsz Tryz.prog 60 = some 1 := by kernel_rfl
@[simp] theorem c60 : tcode Tryz.prog 60 = 4 := by kernel_rfl
@[simp] theorem i60 : tint Tryz.prog 60 = none := by kernel_rfl
@[simp] theorem a60 : tagg Tryz.prog 60 = some false := by kernel_rfl
@[simp] theorem o60 : tzero Tryz.prog 60 = some [.pointer none] := by kernel_rfl
@[simp] theorem q60 : tcomp Tryz.prog 60 = true := by kernel_rfl
@[simp] theorem y60 : tbyte Tryz.prog 60 = false := by kernel_rfl
@[simp] theorem z61 : tsz Tryz.prog 61 = some 2 := by kernel_rfl
@[simp] theorem c61 : tcode Tryz.prog 61 = 8 := by kernel_rfl
@[simp] theorem i61 : tint Tryz.prog 61 = none := by kernel_rfl
@[simp] theorem a61 : tagg Tryz.prog 61 = some true := by kernel_rfl
@[simp] theorem o61 : tzero Tryz.prog 61 = some [.int .i64 0, .nilIface] := by kernel_rfl
@[simp] theorem q61 : tcomp Tryz.prog 61 = true := by kernel_rfl
@[simp] theorem y61 : tbyte Tryz.prog 61 = false := by kernel_rfl
@[simp] theorem f61_0 : tfld Tryz.prog 61 0 = some (0, false, 1) := by kernel_rfl
@[simp] theorem f61_1 : tfld Tryz.prog 61 1 = some (1, false, 1) := by kernel_rfl
@[simp] theorem p61 : tplaces Tryz.prog 61 = some [(0, 1), (1, 1)] := by kernel_rfl
@[simp] theorem z62 : tsz Tryz.prog 62 = some 2 := by kernel_rfl
@[simp] theorem c62 : tcode Tryz.prog 62 = 8 := by kernel_rfl
@[simp] theorem i62 : tint Tryz.prog 62 = none := by kernel_rfl
@[simp] theorem a62 : tagg Tryz.prog 62 = some true := by kernel_rfl
@[simp] theorem o62 : tzero Tryz.prog 62 = some [.int .i64 0, .nilIface] := by kernel_rfl
@[simp] theorem q62 : tcomp Tryz.prog 62 = true := by kernel_rfl
@[simp] theorem y62 : tbyte Tryz.prog 62 = false := by kernel_rfl
@[simp] theorem f62_0 : tfld Tryz.prog 62 0 = some (0, false, 1) := by kernel_rfl
@[simp] theorem f62_1 : tfld Tryz.prog 62 1 = some (1, false, 1) := by kernel_rfl
@[simp] theorem p62 : tplaces Tryz.prog 62 = some [(0, 1), (1, 1)] := by kernel_rfl
@[simp] theorem z64 : tsz Tryz.prog 64 = some 1 := by kernel_rfl
@[simp] theorem c64 : tcode Tryz.prog 64 = 5 := by kernel_rfl
@[simp] theorem i64 : tint Tryz.prog 64 = none := by kernel_rfl
@[simp] theorem a64 : tagg Tryz.prog 64 = some false := by kernel_rfl
@[simp] theorem o64 : tzero Tryz.prog 64 = some [.slice none 0 0] := by kernel_rfl
@[simp] theorem q64 : tcomp Tryz.prog 64 = false := by kernel_rfl
@[simp] theorem e64 : telem Tryz.prog 64 = some (3, 32) := by kernel_rfl
@[simp] theorem w64 : tezero Tryz.prog 64 = some [.int .i64 0, .int .i64 0, .string (ofL [])] := by kernel_rfl
@[simp] theorem y64 : tbyte Tryz.prog 64 = false := by kernel_rfl
@[simp] theorem z65 : tsz Tryz.prog 65 = some 1 := by kernel_rfl
@[simp] theorem c65 : tcode Tryz.prog 65 = 10 := by kernel_rfl
@[simp] theorem i65 : tint Tryz.prog 65 = none := by kernel_rfl
@[simp] theorem q65 : tcomp Tryz.prog 65 = false := by kernel_rfl
@[simp] theorem y65 : tbyte Tryz.prog 65 = false := by kernel_rfl
@[simp] theorem z67 : tsz Tryz.prog 67 = some 1 := by kernel_rfl
@[simp] theorem c67 : tcode Tryz.prog 67 = 4 := by kernel_rfl
@[simp] theorem i67 : tint Tryz.prog 67 = none := by kernel_rfl
@[simp] theorem a67 : tagg Tryz.prog 67 = some false := by kernel_rfl
@[simp] theorem o67 : tzero Tryz.prog 67 = some [.pointer none] := by kernel_rfl
@[simp] theorem q67 : tcomp Tryz.prog 67 = true := by kernel_rfl
@[simp] theorem y67 : tbyte Tryz.prog 67 = false := by kernel_rfl
@[simp] theorem z68 : tsz Tryz.prog 68 = some 3 := by kernel_rfl
@[simp] theorem c68 : tcode Tryz.prog 68 = 8 := by kernel_rfl
@[simp] theorem i68 : tint Tryz.prog 68 = none := by kernel_rfl
@[simp] theorem a68 : tagg Tryz.prog 68 = some true := by kernel_rfl
@[simp] theorem o68 : tzero Tryz.prog 68 = some [.slice none 0 0, .int .i64 0, .nilIface] := by kernel_rfl
@[simp] theorem q68 : tcomp Tryz.prog 68 = false := by kernel_rfl
@[simp] theorem y68 : tbyte Tryz.prog 68 = false := by kernel_rfl
@[simp] theorem f68_0 : tfld Tryz.prog 68 0 = some (0, false, 1) := by kernel_rfl
@[simp] theorem f68_1 : tfld Tryz.prog 68 1 = some (1, false, 1) := by kernel_rfl
@[simp] theorem f68_2 : tfld Tryz.prog 68 2 = some (2, false, 1) := by kernel_rfl
@[simp] theorem p68 : tplaces Tryz.prog 68 = some [(0, 1), (1, 1), (2, 1)] := by kernel_rfl
@[simp] theorem z69 : tsz Tryz.prog 69 = some 3 := by kernel_rfl
@[simp] theorem c69 : tcode Tryz.prog 69 = 8 := by kernel_rfl
@[simp] theorem i69 : tint Tryz.prog 69 = none := by kernel_rfl
@[simp] theorem a69 : tagg Tryz.prog 69 = some true := by kernel_rfl
@[simp] theorem o69 : tzero Tryz.prog 69 = some [.slice none 0 0, .int .i64 0, .nilIface] := by kernel_rfl
@[simp] theorem q69 : tcomp Tryz.prog 69 = false := by kernel_rfl
@[simp] theorem y69 : tbyte Tryz.prog 69 = false := by kernel_rfl
@[simp] theorem f69_0 : tfld Tryz.prog 69 0 = some (0, false, 1) := by kernel_rfl
@[simp] theorem f69_1 : tfld Tryz.prog 69 1 = some (1, false, 1) := by kernel_rfl
@[simp] theorem f69_2 : tfld Tryz.prog 69 2 = some (2, false, 1) := by kernel_rfl
@[simp] theorem p69 : tplaces Tryz.prog 69 = some [(0, 1), (1, 1), (2, 1)] := by kernel_rfl
@[simp] theorem z70 : tsz Tryz.prog 70 = some 1 := by kernel_rfl
@[simp] theorem c70 : tcode Tryz.prog 70 = 7 := by kernel_rfl
@[simp] theorem i70 : tint Tryz.prog 70 = none := by kernel_rfl
@[simp] theorem a70 : tagg Tryz.prog 70 = some false := by kernel_rfl
@[simp] theorem o70 : tzero Tryz.prog 70 = some [.nilFunc] := by kernel_rfl
@[simp] theorem q70 : tcomp Tryz.prog 70 = false := by kernel_rfl
@[simp] theorem y70 : tbyte Tryz.prog 70 = false := by kernel_rfl
@[simp] theorem z73 : tsz Tryz.prog 73 = some 1 := by kernel_rfl
@[simp] theorem c73 : tcode Tryz.prog 73 = 7 := by kernel_rfl
@[simp] theorem i73 : tint Tryz.prog 73 = none := by kernel_rfl
@[simp] theorem a73 : tagg Tryz.prog 73 = some false := by kernel_rfl
@[simp] theorem o73 : tzero Tryz.prog 73 = some [.nilFunc] := by kernel_rfl
@[simp] theorem q73 : tcomp Tryz.prog 73 = false := by kernel_rfl
@[simp] theorem y73 : tbyte Tryz.prog 73 = false := by kernel_rfl
@[simp] theorem z75 : tsz Tryz.prog 75 = some 1 := by kernel_rfl
@[simp] theorem c75 : tcode Tryz.prog 75 = 4 := by kernel_rfl
@[simp] theorem i75 : tint Tryz.prog 75 = none := by kernel_rfl
@[simp] theorem a75 : tagg Tryz.prog 75 = some false := by kernel_rfl
@[simp] theorem o75 : tzero Tryz.prog 75 = some [.pointer none] := by kernel_rfl
@[simp] theorem q75 : tcomp Tryz.prog 75 = true := by kernel_rfl
@[simp] theorem y75 : tbyte Tryz.prog 75 = false := by kernel_rfl
@[simp] theorem z78 : tsz Tryz.prog 78 = some 1 := by kernel_rfl
@[simp] theorem c78 : tcode Tryz.prog 78 = 5 := by kernel_rfl
@[simp] theorem i78 : tint Tryz.prog 78 = none := by kernel_rfl
@[simp] theorem a78 : tagg Tryz.prog 78 = some false := by kernel_rfl
@[simp] theorem o78 : tzero Tryz.prog 78 = some [.slice none 0 0] := by kernel_rfl
@[simp] theorem q78 : tcomp Tryz.prog 78 = false := by kernel_rfl
@[simp] theorem e78 : telem Tryz.prog 78 = some (9, 136) := by kernel_rfl
@[simp] theorem w78 : tezero Tryz.prog 78 = some [.int .i64 0, .string (ofL []), .int .i64 0, .string (ofL []), .int .i64 0, .string (ofL []), .string (ofL []), .slice none 0 0, .slice none 0 0] := by kernel_rfl
@[simp] theorem y78 : tbyte Tryz.prog 78 = false := by kernel_rfl
@[simp] theorem z79 : tsz Tryz.prog 79 = some 3 := by kernel_rfl
@[simp] theorem c79 : tcode Tryz.prog 79 = 8 := by kernel_rfl
@[simp] theorem i79 : tint Tryz.prog 79 = none := by kernel_rfl
@[simp] theorem a79 : tagg Tryz.prog 79 = some true := by kernel_rfl
@[simp] theorem o79 : tzero Tryz.prog 79 = some [.string (ofL []), .slice none 0 0, .slice none 0 0] := by kernel_rfl
@[simp] theorem q79 : tcomp Tryz.prog 79 = false := by kernel_rfl
@[simp] theorem y79 : tbyte Tryz.prog 79 = false := by kernel_rfl
@[simp] theorem f79_0 : tfld Tryz.prog 79 0 = some (0, false, 1) := by kernel_rfl
@[simp] theorem f79_1 : tfld Tryz.prog 79 1 = some (1, false, 1) := by kernel_rfl
@[simp] theorem f79_2 : tfld Tryz.prog 79 2 = some (2, false, 1) := by kernel_rfl
@[simp] theorem p79 : tplaces Tryz.prog 79 = some [(0, 1), (1, 1), (2, 1)] := by kernel_rfl
@[simp] theorem z80 : tsz Tryz.prog 80 = some 3 := by kernel_rfl
@[simp] theorem c80 : tcode Tryz.prog 80 = 8 := by kernel_rfl
@[simp] theorem i80 : tint Tryz.prog 80 = none := by kernel_rfl
@[simp] theorem a80 : tagg Tryz.prog 80 = some true := by kernel_rfl
@[simp] theorem o80 : tzero Tryz.prog 80 = some [.string (ofL []), .slice none 0 0, .slice none 0 0] := by kernel_rfl
@[simp] theorem q80 : tcomp Tryz.prog 80 = false := by kernel_rfl
@[simp] theorem y80 : tbyte Tryz.prog 80 = false := by kernel_rfl
@[simp] theorem f80_0 : tfld Tryz.prog 80 0 = some (0, false, 1) := by kernel_rfl
@[simp] theorem f80_1 : tfld Tryz.prog 80 1 = some (1, false, 1) := by kernel_rfl
@[simp] theorem f80_2 : tfld Tryz.prog 80 2 = some (2, false, 1) := by kernel_rfl
@[simp] theorem p80 : tplaces Tryz.prog 80 = some [(0, 1), (1, 1), (2, 1)] := by kernel_rfl
@[simp] theorem z85 : tsz Tryz.prog 85 = some 1 := by kernel_rfl
@[simp] theorem c85 : tcode Tryz.prog 85 = 7 := by kernel_rfl
@[simp] theorem i85 : tint Tryz.prog 85 = none := by kernel_rfl
@[simp] theorem a85 : tagg Tryz.prog 85 = some false := by kernel_rfl
@[simp] theorem o85 : tzero Tryz.prog 85 = some [.nilFunc] := by kernel_rfl
@[simp] theorem q85 : tcomp Tryz.prog 85 = false := by kernel_rfl
@[simp] theorem y85 : tbyte Tryz.prog 85 = false := by kernel_rfl
@[simp] theorem z86 : tsz Tryz.prog 86 = some 1 := by kernel_rfl
@[simp] theorem c86 : tcode Tryz.prog 86 = 7 := by kernel_rfl
@[simp] theorem i86 : tint Tryz.prog 86 = none := by kernel_rfl
@[simp] theorem a86 : tagg Tryz.prog 86 = some false := by kernel_rfl
@[simp] theorem o86 : tzero Tryz.prog 86 = some [.nilFunc] := by kernel_rfl
@[simp] theorem q86 : tcomp Tryz.prog 86 = false := by kernel_rfl
@[simp] theorem y86 : tbyte Tryz.prog 86 = false := by kernel_rfl
@[simp] theorem z90 : tsz Tryz.prog 90 = some 1 := by kernel_rfl
@[simp] theorem c90 : tcode Tryz.prog 90 = 7 := by kernel_rfl
@[simp] theorem i90 : tint Tryz.prog 90 = none := by kernel_rfl
@[simp] theorem a90 : tagg Tryz.prog 90 = some false := by kernel_rfl
@[simp] theorem o90 : tzero Tryz.prog 90 = some [.nilFunc] := by kernel_rfl
@[simp] theorem q90 : tcomp Tryz.prog 90 = false := by kernel_rfl
@[simp] theorem y90 : tbyte Tryz.prog 90 = false := by kernel_rfl
@[simp] theorem z91 : tsz Tryz.prog 91 = some 1 := by kernel_rfl
@[simp] theorem c91 : tcode Tryz.prog 91 = 10 := by kernel_rfl
@[simp] theorem i91 : tint Tryz.prog 91 = none := by kernel_rfl
@[simp] theorem q91 : tcomp Tryz.prog 91 = false := by kernel_rfl
@[simp] theorem y91 : tbyte Tryz.prog 91 = false := by kernel_rfl
@[simp] theorem z93 : tsz Tryz.prog 93 = some 1 := by kernel_rfl
@[simp] theorem c93 : tcode Tryz.prog 93 = 10 := by kernel_rfl
@[simp] theorem i93 : tint Tryz.prog 93 = none := by kernel_rfl
@[simp] theorem q93 : tcomp Tryz.prog 93 = false := by kernel_rfl
@[simp] theorem y93 : tbyte Tryz.prog 93 = false := by kernel_rfl
@[simp] theorem z95 : tsz Tryz.prog 95 = some 1 := by kernel_rfl
@[simp] theorem c95 : tcode Tryz.prog 95 = 7 := by kernel_rfl
@[simp] theorem i95 : tint Tryz.prog 95 = none := by kernel_rfl
@[simp] theorem a95 : tagg Tryz.prog 95 = some false := by kernel_rfl
@[simp] theorem o95 : tzero Tryz.prog 95 = some [.nilFunc] := by kernel_rfl
@[simp] theorem q95 : tcomp Tryz.prog 95 = false := by kernel_rfl
@[simp] theorem y95 : tbyte Tryz.prog 95 = false := by kernel_rfl
@[simp] theorem z97 : tsz Tryz.prog 97 = some 1 := by kernel_rfl
@[simp] theorem c97 : tcode Tryz.prog 97 = 7 := by kernel_rfl
@[simp] theorem i97 : tint Tryz.prog 97 = none := by kernel_rfl
@[simp] theorem a97 : tagg Tryz.prog 97 = some false := by kernel_rfl
@[simp] theorem o97 : tzero Tryz.prog 97 = some [.nilFunc] := by kernel_rfl
@[simp] theorem q97 : tcomp Tryz.prog 97 = false := by kernel_rfl
@[simp] theorem y97 : tbyte Tryz.prog 97 = false := by kernel_rfl
@[simp] theorem z98 : tsz Tryz.prog 98 = some 3 := by kernel_rfl
@[simp] theorem c98 : tcode Tryz.prog 98 = 8 := by kernel_rfl
@[simp] theorem i98 : tint Tryz.prog 98 = none := by kernel_rfl
@[simp] theorem a98 : tagg Tryz.prog 98 = some true := by kernel_rfl
@[simp] theorem o98 : tzero Tryz.prog 98 = some [.int .i64 0, .int .i64 0, .string (ofL [])] := by kernel_rfl
@[simp] theorem s98 : tsfl Tryz.prog 98 = some [(0, 3, false, 1), (1, 3, false, 1), (2, 9, false, 1)] := by kernel_rfl
@[simp] theorem q98 : tcomp Tryz.prog 98 = true := by kernel_rfl
@[simp] theorem y98 : tbyte Tryz.prog 98 = false := by kernel_rfl
@[simp] theorem f98_0 : tfld Tryz.prog 98 0 = some (0, false, 1) := by kernel_rfl
@[simp] theorem f98_1 : tfld Tryz.prog 98 1 = some (1, false, 1) := by kernel_rfl
@[simp] theorem f98_2 : tfld Tryz.prog 98 2 = some (2, false, 1) := by kernel_rfl
@[simp] theorem p98 : tplaces Tryz.prog 98 = some [(0, 1), (1, 1), (2, 1)] := by kernel_rfl
@[simp] theorem z99 : tsz Tryz.prog 99 = some 3 := by kernel_rfl
@[simp] theorem c99 : tcode Tryz.prog 99 = 8 := by kernel_rfl
@[simp] theorem i99 : tint Tryz.prog 99 = none := by kernel_rfl
@[simp] theorem a99 : tagg Tryz.prog 99 = some true := by kernel_rfl
@[simp] theorem o99 : tzero Tryz.prog 99 = some [.int .i64 0, .int .i64 0, .string (ofL [])] := by kernel_rfl
@[simp] theorem s99 : tsfl Tryz.prog 99 = some [(0, 3, false, 1), (1, 3, false, 1), (2, 9, false, 1)] := by kernel_rfl
@[simp] theorem q99 : tcomp Tryz.prog 99 = true := by kernel_rfl
@[simp] theorem y99 : tbyte Tryz.prog 99 = false := by kernel_rfl
@[simp] theorem f99_0 : tfld Tryz.prog 99 0 = some (0, false, 1) := by kernel_rfl
@[simp] theorem f99_1 : tfld Tryz.prog 99 1 = some (1, false, 1) := by kernel_rfl
@[simp] theorem f99_2 : tfld Tryz.prog 99 2 = some (2, false, 1) := by kernel_rfl
@[simp] theorem p99 : tplaces Tryz.prog 99 = some [(0, 1), (1, 1), (2, 1)] := by kernel_rfl
@[simp] theorem z100 : tsz Tryz.prog 100 = some 1 := by kernel_rfl
@[simp] theorem c100 : tcode Tryz.prog 100 = 7 := by kernel_rfl
@[simp] theorem i100 : tint Tryz.prog 100 = none := by kernel_rfl
@[simp] theorem a100 : tagg Tryz.prog 100 = some false := by kernel_rfl
@[simp] theorem o100 : tzero Tryz.prog 100 = some [.nilFunc] := by kernel_rfl
@[simp] theorem q100 : tcomp Tryz.prog 100 = false := by kernel_rfl
@[simp] theorem y100 : tbyte Tryz.prog 100 = false := by kernel_rfl
@[simp] theorem z101 : tsz Tryz.prog 101 = some 1 := by kernel_rfl
@[simp] theorem c101 : tcode Tryz.prog 101 = 7 := by kernel_rfl
@[simp] theorem i101 : tint Tryz.prog 101 = none := by kernel_rfl
@[simp] theorem a101 : tagg Tryz.prog 101 = some false := by kernel_rfl
@[simp] theorem o101 : tzero Tryz.prog 101 = some [.nilFunc] := by kernel_rfl
@[simp] theorem q101 : tcomp Tryz.prog 101 = false := by kernel_rfl
@[simp] theorem y101 : tbyte Tryz.prog 101 = false := by kernel_rfl
@[simp] theorem z102 : tsz Tryz.prog 102 = some 1 := by kernel_rfl
@[simp] theorem c102 : tcode Tryz.prog 102 = 10 := by kernel_rfl
@[simp] theorem i102 : tint Tryz.prog 102 = none := by kernel_rfl
@[simp] theorem q102 : tcomp Tryz.prog 102 = false := by kernel_rfl
@[simp] theorem y102 : tbyte Tryz.prog 102 = false := by kernel_rfl
@[simp] theorem z105 : tsz Tryz.prog 105 = some 1 := by kernel_rfl
@[simp] theorem c105 : tcode Tryz.prog 105 = 10 := by kernel_rfl
@[simp] theorem i105 : tint Tryz.prog 105 = none := by kernel_rfl
@[simp] theorem q105 : tcomp Tryz.prog 105 = false := by kernel_rfl
@[simp] theorem y105 : tbyte Tryz.prog 105 = false := by kernel_rfl
@[simp] theorem z107 : tsz Tryz.prog 107 = some 1 := by kernel_rfl
@[simp] theorem c107 : tcode Tryz.prog 107 = 10 := by kernel_rfl
@[simp] theorem i107 : tint Tryz.prog 107 = none := by kernel_rfl
@[simp] theorem o107 : tzero Tryz.prog 107 = some [.pointer none] := by kernel_rfl
@[simp] theorem q107 : tcomp Tryz.prog 107 = true := by kernel_rfl
@[simp] theorem y107 : tbyte Tryz.prog 107 = false := by kernel_rfl
@[simp] theorem z108 : tsz Tryz.prog 108 = some 1 := by kernel_rfl
@[simp] theorem c108 : tcode Tryz.prog 108 = 2 := by kernel_rfl
@[simp] theorem i108 : tint Tryz.prog 108 = some .u64 := by kernel_rfl
@[simp] theorem a108 : tagg Tryz.prog 108 = some false := by kernel_rfl
@[simp] theorem o108 : tzero Tryz.prog 108 = some [.int .u64 0] := by kernel_rfl
@[simp] theorem q108 : tcomp Tryz.prog 108 = true := by kernel_rfl
@[simp] theorem y108 : tbyte Tryz.prog 108 = false := by kernel_rfl
@[simp] theorem z109 : tsz Tryz.prog 109 = some 3 := by kernel_rfl
@[simp] theorem c109 : tcode Tryz.prog 109 = 8 := by kernel_rfl
@[simp] theorem i109 : tint Tryz.prog 109 = none := by kernel_rfl
@[simp] theorem a109 : tagg Tryz.prog 109 = some true := by kernel_rfl
@[simp] theorem o109 : tzero Tryz.prog 109 = some [.pointer none, .pointer none, .int .u64 0] := by kernel_rfl
@[simp] theorem q109 : tcomp Tryz.prog 109 = true := by kernel_rfl
@[simp] theorem y109 : tbyte Tryz.prog 109 = false := by kernel_rfl
@[simp] theorem f109_0 : tfld Tryz.prog 109 0 = some (0, false, 1) := by kernel_rfl
@[simp] theorem f109_1 : tfld Tryz.prog 109 1 = some (1, false, 1) := by kernel_rfl
@[simp] theorem f109_2 : tfld Tryz.prog 109 2 = some (2, false, 1) := by kernel_rfl
@[simp] theorem p109 : tplaces Tryz.prog 109 = some [(0, 1), (1, 1), (2, 1)] := by kernel_rfl
@[simp] theorem z110 : tsz Tryz.prog 110 = some 3 := by kernel_rfl
@[simp] theorem c110 : tcode Tryz.prog 110 = 8 := by kernel_rfl
@[simp] theorem i110 : tint Tryz.prog 110 = none := by kernel_rfl
@[simp] theorem a110 : tagg Tryz.prog 110 = some true := by kernel_rfl
@[simp] theorem o110 : tzero Tryz.prog 110 = some [.pointer none, .pointer none, .int .u64 0] := by kernel_rfl
@[simp] theorem q110 : tcomp Tryz.prog 110 = true := by kernel_rfl
@[simp] theorem y110 : tbyte Tryz.prog 110 = false := by kernel_rfl
@[simp] theorem f110_0 : tfld Tryz.prog 110 0 = some (0, false, 1) := by kernel_rfl
@[simp] theorem f110_1 : tfld Tryz.prog 110 1 = some (1, false, 1) := by kernel_rfl
@[simp] theorem f110_2 : tfld Tryz.prog 110 2 = some (2, false, 1) := by kernel_rfl
@[simp] theorem p110 : tplaces Tryz.prog 110 = some [(0, 1), (1, 1), (2, 1)] := by kernel_rfl
@[simp] theorem z111 : tsz Tryz.prog 111 = some 1 := by kernel_rfl
@[simp] theorem c111 : tcode Tryz.prog 111 = 7 := by kernel_rfl
@[simp] theorem i111 : tint Tryz.prog 111 = none := by kernel_rfl
@[simp] theorem a111 : tagg Tryz.prog 111 = some false := by kernel_rfl
@[simp] theorem o111 : tzero Tryz.prog 111 = some [.nilFunc] := by kernel_rfl
@[simp] theorem q111 : tcomp Tryz.prog 111 = false := by kernel_rfl
@[simp] theorem y111 : tbyte Tryz.prog 111 = false := by kernel_rfl
@[simp] theorem z112 : tsz Tryz.prog 112 = some 1 := by kernel_rfl
@[simp] theorem c112 : tcode Tryz.prog 112 = 6 := by kernel_rfl
@[simp] theorem i112 : tint Tryz.prog 112 = none := by kernel_rfl
@[simp] theorem a112 : tagg Tryz.prog 112 = some false := by kernel_rfl
@[simp] theorem o112 : tzero Tryz.prog 112 = some [.nilIface] := by kernel_rfl
@[simp] theorem q112 : tcomp Tryz.prog 112 = true := by kernel_rfl
@[simp] theorem y112 : tbyte Tryz.prog 112 = false := by kernel_rfl
@[simp] theorem z114 : tsz Tryz.prog 114 = some 1 := by kernel_rfl
@[simp] theorem c114 : tcode Tryz.prog 114 = 7 := by kernel_rfl
@[simp] theorem i114 : tint Tryz.prog 114 = none := by kernel_rfl
@[simp] theorem a114 : tagg Tryz.prog 114 = some false := by kernel_rfl
@[simp] theorem o114 : tzero Tryz.prog 114 = some [.nilFunc] := by kernel_rfl
@[simp] theorem q114 : tcomp Tryz.prog 114 = false := by kernel_rfl
@[simp] theorem y114 : tbyte Tryz.prog 114 = false := by kernel_rfl
@[simp] theorem z115 : tsz Tryz.prog 115 = some 1 := by kernel_rfl
@[simp] theorem c115 : tcode Tryz.prog 115 = 2 := by kernel_rfl
@[simp] theorem i115 : tint Tryz.prog 115 = some .u8 := by kernel_rfl
@[simp] theorem a115 : tagg Tryz.prog 115 = some false := by kernel_rfl
@[simp] theorem o115 : tzero Tryz.prog 115 = some [.int .u8 0] := by kernel_rfl
@[simp] theorem q115 : tcomp Tryz.prog 115 = true := by kernel_rfl
@[simp] theorem y115 : tbyte Tryz.prog 115 = false := by kernel_rfl
@[simp] theorem z116 : tsz Tryz.prog 116 = some 1 := by kernel_rfl
@[simp] theorem c116 : tcode Tryz.prog 116 = 7 := by kernel_rfl
@[simp] theorem i116 : tint Tryz.prog 116 = none := by kernel_rfl
@[simp] theorem a116 : tagg Tryz.prog 116 = some false := by kernel_rfl
@[simp] theorem o116 : tzero Tryz.prog 116 = some [.nilFunc] := by kernel_rfl
@[simp] theorem q116 : tcomp Tryz.prog 116 = false := by kernel_rfl
@[simp] theorem y116 : tbyte Tryz.prog 116 = false := by kernel_rfl
@[simp] theorem z117 : tsz Tryz.prog 117 = some 1 := by kernel_rfl
@[simp] theorem c117 : tcode Tryz.prog 117 = 7 := by kernel_rfl
@[simp] theorem i117 : tint Tryz.prog 117 = none := by kernel_rfl
@[simp] theorem a117 : tagg Tryz.prog 117 = some false := by kernel_rfl
@[simp] theorem o117 : tzero Tryz.prog 117 = some [.nilFunc] := by kernel_rfl
@[simp] theorem q117 : tcomp Tryz.prog 117 = false := by kernel_rfl
@[simp] theorem y117 : tbyte Tryz.prog 117 = false := by kernel_rfl
@[simp] theorem z122 : tsz Tryz.prog 122 = some 1 := by kernel_rfl
@[simp] theorem c122 : tcode Tryz.prog 122 = 7 := by kernel_rfl
@[simp] theorem i122 : tint Tryz.prog 122 = none := by kernel_rfl
@[simp] theorem a122 : tagg Tryz.prog 122 = some false := by kernel_rfl
@[simp] theorem o122 : tzero Tryz.prog 122 = some [.nilFunc] := by kernel_rfl
@[simp] theorem q122 : tcomp Tryz.prog 122 = false := by kernel_rfl
@[simp] theorem y122 : tbyte Tryz.prog 122 = false := by kernel_rfl
@[simp] theorem z123 : tsz Tryz.prog 123 = some 1 := by kernel_rfl
@[simp] theorem c123 : tcode Tryz.prog 123 = 7 := by kernel_rfl
@[simp] theorem i123 : tint Tryz.prog 123 = none := by kernel_rfl
@[simp] theorem a123 : tagg Tryz.prog 123 = some false := by kernel_rfl
@[simp] theorem o123 : tzero Tryz.prog 123 = some [.nilFunc] := by kernel_rfl
@[simp] theorem q123 : tcomp Tryz.prog 123 = false := by kernel_rfl
@[simp] theorem y123 : tbyte Tryz.prog 123 = false := by kernel_rfl
@[simp] theorem z125 : tsz Tryz.prog 125 = some 1 := by kernel_rfl
@[simp] theorem c125 : tcode Tryz.prog 125 = 7 := by kernel_rfl
@[simp] theorem i125 : tint Tryz.prog 125 = none := by kernel_rfl
@[simp] theorem a125 : tagg Tryz.prog 125 = some false := by kernel_rfl
@[simp] theorem o125 : tzero Tryz.prog 125 = some [.nilFunc] := by kernel_rfl
@[simp] theorem q125 : tcomp Tryz.prog 125 = false := by kernel_rfl
@[simp] theorem y125 : tbyte Tryz.prog 125 = false := by kernel_rfl
@[simp] theorem z126 : tsz Tryz.prog 126 = some 1 := by kernel_rfl
@[simp] theorem c126 : tcode Tryz.prog 126 = 5 := by kernel_rfl
@[simp] theorem i126 : tint Tryz.prog 126 = none := by kernel_rfl
@[simp] theorem a126 : tagg Tryz.prog 126 = some false := by kernel_rfl
@[simp] theorem o126 : tzero Tryz.prog 126 = some [.slice none 0 0] := by kernel_rfl
@[simp] theorem q126 : tcomp Tryz.prog 126 = false := by kernel_rfl
@[simp] theorem e126 : telem Tryz.prog 126 = some (1, 1) := by kernel_rfl
@[simp] theorem w126 : tezero Tryz.prog 126 = some [.bool false] := by kernel_rfl
@[simp] theorem y126 : tbyte Tryz.prog 126 = false := by kernel_rfl
@[simp] theorem z129 : tsz Tryz.prog 129 = some 9 := by kernel_rfl
@[simp] theorem c129 : tcode Tryz.prog 129 = 8 := by kernel_rfl
@[simp] theorem i129 : tint Tryz.prog 129 = none := by kernel_rfl
@[simp] theorem a129 : tagg Tryz.prog 129 = some true := by kernel_rfl
@[simp] theorem o129 : tzero Tryz.prog 129 = some [.int .i64 0, .string (ofL []), .int .i64 0, .string (ofL []), .int .i64 0, .string (ofL []), .string (ofL []), .slice none 0 0, .slice none 0 0] := by kernel_rfl
@[simp] theorem q129 : tcomp Tryz.prog 129 = false := by kernel_rfl
@[simp] theorem y129 : tbyte Tryz.prog 129 = false := by kernel_rfl
@[simp] theorem f129_0 : tfld Tryz.prog 129 0 = some (0, false, 1) := by kernel_rfl
@[simp] theorem f129_1 : tfld Tryz.prog 129 1 = some (1, false, 1) := by kernel_rfl
@[simp] theorem f129_2 : tfld Tryz.prog 129 2 = some (2, true, 7) := by kernel_rfl
@[simp] theorem p129 : tplaces Tryz.prog 129 = some [(0, 1), (1, 1), (2, 7)] := by kernel_rfl
@[simp] theorem z130 : tsz Tryz.prog 130 = some 9 := by kernel_rfl
@[simp] theorem c130 : tcode Tryz.prog 130 = 8 := by kernel_rfl
@[simp] theorem i130 : tint Tryz.prog 130 = none := by kernel_rfl
@[simp] theorem a130 : tagg Tryz.prog 130 = some true := by kernel_rfl
@[simp] theorem o130 : tzero Tryz.prog 130 = some [.int .i64 0, .string (ofL []), .int .i64 0, .string (ofL []), .int .i64 0, .string (ofL []), .string (ofL []), .slice none 0 0, .slice none 0 0] := by kernel_rfl
@[simp] theorem q130 : tcomp Tryz.prog 130 = false := by kernel_rfl
@[simp] theorem y130 : tbyte Tryz.prog 130 = false := by kernel_rfl
@[simp] theorem f130_0 : tfld Tryz.prog 130 0 = some (0, false, 1) := by kernel_rfl
@[simp] theorem f130_1 : tfld Tryz.prog 130 1 = some (1, false, 1) := by kernel_rfl
@[simp] theorem f130_2 : tfld Tryz.prog 130 2 = some (2, true, 7) := by kernel_rfl
@[simp] theorem p130 : tplaces Tryz.prog 130 = some [(0, 1), (1, 1), (2, 7)] := by kernel_rfl
@[simp] theorem z135 : tsz Tryz.prog 135 = some 1 := by kernel_rfl
@[simp] theorem c135 : tcode Tryz.prog 135 = 4 := by kernel_rfl
@[simp] theorem i135 : tint Tryz.prog 135 = none := by kernel_rfl
@[simp] theorem a135 : tagg Tryz.prog 135 = some false := by kernel_rfl
@[simp] theorem o135 : tzero Tryz.prog 135 = some [.pointer none] := by kernel_rfl
@[simp] theorem q135 : tcomp Tryz.prog 135 = true := by kernel_rfl
@[simp] theorem y135 : tbyte Tryz.prog 135 = false := by kernel_rfl
@[simp] theorem z136 : tsz Tryz.prog 136 = some 8 := by kernel_rfl
@[simp] theorem c136 : tcode Tryz.prog 136 = 8 := by kernel_rfl
@[simp] theorem i136 : tint Tryz.prog 136 = none := by kernel_rfl
@[simp] theorem a136 : tagg Tryz.prog 136 = some true := by kernel_rfl
@[simp] theorem o136 : tzero Tryz.prog 136 = some [.string (ofL []), .slice none 0 0, .slice none 0 0, .string (ofL []), .int .i64 0, .slice none 0 0, .int .i64 0, .bool false] := by kernel_rfl
@[simp] theorem q136 : tcomp Tryz.prog 136 = false := by kernel_rfl
@[simp] theorem y136 : tbyte Tryz.prog 136 = false := by kernel_rfl
@[simp] theorem f136_0 : tfld Tryz.prog 136 0 = some (0, true, 3) := by kernel_rfl
@[simp] theorem f136_1 : tfld Tryz.prog 136 1 = some (3, false, 1) := by kernel_rfl
@[simp] theorem f136_2 : tfld Tryz.prog 136 2 = some (4, false, 1) := by kernel_rfl
@[simp] theorem f136_3 : tfld Tryz.prog 136 3 = some (5, false, 1) := by kernel_rfl
@[simp] theorem f136_4 : tfld Tryz.prog 136 4 = some (6, false, 1) := by kernel_rfl
@[simp] theorem f136_5 : tfld Tryz.prog 136 5 = some (7, false, 1) := by kernel_rfl
@[simp] theorem p136 : tplaces Tryz.prog 136 = some [(0, 3), (3, 1), (4, 1), (5, 1), (6, 1), (7, 1)] := by kernel_rfl
@[simp] theorem z137 : tsz Tryz.prog 137 = some 8 := by kernel_rfl
@[simp] theorem c137 : tcode Tryz.prog 137 = 8 := by kernel_rfl
@[simp] theorem i137 : tint Tryz.prog 137 = none := by kernel_rfl
@[simp] theorem a137 : tagg Tryz.prog 137 = some true := by kernel_rfl
@[simp] theorem o137 : tzero Tryz.prog 137 = some [.string (ofL []), .slice none 0 0, .slice none 0 0, .string (ofL []), .int .i64 0, .slice none 0 0, .int .i64 0, .bool false] := by kernel_rfl
@[simp] theorem q137 : tcomp Tryz.prog 137 = false := by kernel_rfl
@[simp] theorem y137 : tbyte Tryz.prog 137 = false := by kernel_rfl
@[simp] theorem f137_0 : tfld Tryz.prog 137 0 = some (0, true, 3) := by kernel_rfl
@[simp] theorem f137_1 : tfld Tryz.prog 137 1 = some (3, false, 1) := by kernel_rfl
@[simp] theorem f137_2 : tfld Tryz.prog 137 2 = some (4, false, 1) := by kernel_rfl
@[simp] theorem f137_3 : tfld Tryz.prog 137 3 = some (5, false, 1) := by kernel_rfl
@[simp] theorem f137_4 : tfld Tryz.prog 137 4 = some (6, false, 1) := by kernel_rfl
@[simp] theorem f137_5 : tfld Tryz.prog 137 5 = some (7, false, 1) := by kernel_rfl
@[simp] theorem p137 : tplaces Tryz.prog 137 = some [(0, 3), (3, 1), (4, 1), (5, 1), (6, 1), (7, 1)] := by kernel_rfl
@[simp] theorem z141 : tsz Tryz.prog 141 = some 1 := by kernel_rfl
@[simp] theorem c141 : tcode Tryz.prog 141 = 7 := by kernel_rfl
@[simp] theorem i141 : tint Tryz.prog 141 = none := by kernel_rfl
@[simp] theorem a141 : tagg Tryz.prog 141 = some false := by kernel_rfl
@[simp] theorem o141 : tzero Tryz.prog 141 = some [.nilFunc] := by kernel_rfl
@[simp] theorem q141 : tcomp Tryz.prog 141 = false := by kernel_rfl
@[simp] theorem y141 : tbyte Tryz.prog 141 = false := by kernel_rfl
@[simp] theorem z146 : tsz Tryz.prog 146 = some 1 := by kernel_rfl
@[simp] theorem c146 : tcode Tryz.prog 146 = 2 := by kernel_rfl
@[simp] theorem i146 : tint Tryz.prog 146 = some .u64 := by kernel_rfl
@[simp] theorem a146 : tagg Tryz.prog 146 = some false := by kernel_rfl
@[simp] theorem o146 : tzero Tryz.prog 146 = some [.int .u64 0] := by kernel_rfl
@[simp] theorem q146 : tcomp Tryz.prog 146 = true := by kernel_rfl
@[simp] theorem y146 : tbyte Tryz.prog 146 = false := by kernel_rfl
@[simp] theorem z149 : tsz Tryz.prog 149 = some 1 := by kernel_rfl
@[simp] theorem c149 : tcode Tryz.prog 149 = 4 := by kernel_rfl
@[simp] theorem i149 : tint Tryz.prog 149 = none := by kernel_rfl
@[simp] theorem a149 : tagg Tryz.prog 149 = some false := by kernel_rfl
@[simp] theorem o149 : tzero Tryz.prog 149 = some [.pointer none] := by kernel_rfl
@[simp] theorem q149 : tcomp Tryz.prog 149 = true := by kernel_rfl
@[simp] theorem y149 : tbyte Tryz.prog 149 = false := by kernel_rfl
@[simp] theorem z150 : tsz Tryz.prog 150 = some 4 := by kernel_rfl
@[simp] theorem c150 : tcode Tryz.prog 150 = 8 := by kernel_rfl
@[simp] theorem i150 : tint Tryz.prog 150 = none := by kernel_rfl
@[simp] theorem a150 : tagg Tryz.prog 150 = some true := by kernel_rfl
@[simp] theorem o150 : tzero Tryz.prog 150 = some [.slice none 0 0, .int .i64 0, .int .i64 0, .nilIface] := by kernel_rfl
@[simp] theorem q150 : tcomp Tryz.prog 150 = false := by kernel_rfl
@[simp] theorem y150 : tbyte Tryz.prog 150 = false := by kernel_rfl
@[simp] theorem f150_0 : tfld Tryz.prog 150 0 = some (0, false, 1) := by kernel_rfl
@[simp] theorem f150_1 : tfld Tryz.prog 150 1 = some (1, false, 1) := by kernel_rfl
@[simp] theorem f150_2 : tfld Tryz.prog 150 2 = some (2, false, 1) := by kernel_rfl
@[simp] theorem f150_3 : tfld Tryz.prog 150 3 = some (3, false, 1) := by kernel_rfl
@[simp] theorem p150 : tplaces Tryz.prog 150 = some [(0, 1), (1, 1), (2, 1), (3, 1)] := by kernel_rfl
@[simp] theorem z151 : tsz Tryz.prog 151 = some 4 := by kernel_rfl
@[simp] theorem c151 : tcode Tryz.prog 151 = 8 := by kernel_rfl
@[simp] theorem i151 : tint Tryz.prog 151 = none := by kernel_rfl
@[simp] theorem a151 : tagg Tryz.prog 151 = some true := by kernel_rfl
@[simp] theorem o151 : tzero Tryz.prog 151 = some [.slice none 0 0, .int .i64 0, .int .i64 0, .nilIface] := by kernel_rfl
@[simp] theorem q151 : tcomp Tryz.prog 151 = false := by kernel_rfl
@[simp] theorem y151 : tbyte Tryz.prog 151 = false := by kernel_rfl
@[simp] theorem f151_0 : tfld Tryz.prog 151 0 = some (0, false, 1) := by kernel_rfl
@[simp] theorem f151_1 : tfld Tryz.prog 151 1 = some (1, false, 1) := by kernel_rfl
@[simp] theorem f151_2 : tfld Tryz.prog 151 2 = some (2, false, 1) := by kernel_rfl
@[simp] theorem f151_3 : tfld Tryz.prog 151 3 = some (3, false, 1) := by kernel_rfl
@[simp] theorem p151 : tplaces Tryz.prog 151 = some [(0, 1), (1, 1), (2, 1), (3, 1)] := by kernel_rfl
@[simp] theorem z170 : tsz Tryz.prog 170 = some 1 := by kernel_rfl
@[simp] theorem c170 : tcode Tryz.prog 170 = 5 := by kernel_rfl
@[simp] theorem i170 : tint Tryz.prog 170 = none := by kernel_rfl
@[simp] theorem a170 : tagg Tryz.prog 170 = some false := by kernel_rfl
@[simp] theorem o170 : tzero Tryz.prog 170 = some [.slice none 0 0] := by kernel_rfl
@[simp] theorem q170 : tcomp Tryz.prog 170 = false := by kernel_rfl
@[simp] theorem e170 : telem Tryz.prog 170 = some (1, 8) := by kernel_rfl
@[simp] theorem w170 : tezero Tryz.prog 170 = some [.int .i64 0] := by kernel_rfl
@[simp] theorem y170 : tbyte Tryz.prog 170 = false := by kernel_rfl
@[simp] theorem z174 : tsz Tryz.prog 174 = some 1 := by kernel_rfl
@[simp] theorem c174 : tcode Tryz.prog 174 = 5 := by kernel_rfl
@[simp] theorem i174 : tint Tryz.prog 174 = none := by kernel_rfl
@[simp] theorem a174 : tagg Tryz.prog 174 = some false := by kernel_rfl
@[simp] theorem o174 : tzero Tryz.prog 174 = some [.slice none 0 0] := by kernel_rfl
@[simp] theorem q174 : tcomp Tryz.prog 174 = false := by kernel_rfl
@[simp] theorem e174 : telem Tryz.prog 174 = some (1, 8) := by kernel_rfl
@[simp] theorem w174 : tezero Tryz.prog 174 = some [.int .i64 0] := by kernel_rfl
@[simp] theorem y174 : tbyte Tryz.prog 174 = false := by kernel_rfl
@[simp] theorem z183 : tsz Tryz.prog 183 = some 1 := by kernel_rfl
@[simp] theorem c183 : tcode Tryz.prog 183 = 7 := by kernel_rfl
@[simp] theorem i183 : tint Tryz.prog 183 = none := by kernel_rfl
@[simp] theorem a183 : tagg Tryz.prog 183 = some false := by kernel_rfl
@[simp] theorem o183 : tzero Tryz.prog 183 = some [.nilFunc] := by kernel_rfl
@[simp] theorem q183 : tcomp Tryz.prog 183 = false := by kernel_rfl
@[simp] theorem y183 : tbyte Tryz.prog 183 = false := by kernel_rfl
@[simp] theorem z200 : tsz Tryz.prog 200 = some 1 := by kernel_rfl
@[simp] theorem c200 : tcode Tryz.prog 200 = 7 := by kernel_rfl
@[simp] theorem i200 : tint Tryz.prog 200 = none := by kernel_rfl
@[simp] theorem a200 : tagg Tryz.prog 200 = some false := by kernel_rfl
@[simp] theorem o200 : tzero Tryz.prog 200 = some [.nilFunc] := by kernel_rfl
@[simp] theorem q200 : tcomp Tryz.prog 200 = false := by kernel_rfl
@[simp] theorem y200 : tbyte Tryz.prog 200 = false := by kernel_rfl
@[simp] theorem z201 : tsz Tryz.prog 201 = some 1 := by kernel_rfl
@[simp] theorem c201 : tcode Tryz.prog 201 = 7 := by kernel_rfl
@[simp] theorem i201 : tint Tryz.prog 201 = none := by kernel_rfl
@[simp] theorem a201 : tagg Tryz.prog 201 = some false := by kernel_rfl
@[simp] theorem o201 : tzero Tryz.prog 201 = some [.nilFunc] := by kernel_rfl
@[simp] theorem q201 : tcomp Tryz.prog 201 = false := by kernel_rfl
@[simp] theorem y201 : tbyte Tryz.prog 201 = false := by kernel_rfl
@[simp] theorem z211 : tsz Tryz.prog 211 = some 1 := by kernel_rfl
@[simp] theorem c211 : tcode Tryz.prog 211 = 2 := by kernel_rfl
@[simp] theorem i211 : tint Tryz.prog 211 = some .u64 := by kernel_rfl
@[simp] theorem a211 : tagg Tryz.prog 211 = some false := by kernel_rfl
@[simp] theorem o211 : tzero Tryz.prog 211 = some [.int .u64 0] := by kernel_rfl
@[simp] theorem q211 : tcomp Tryz.prog 211 = true := by kernel_rfl
@[simp] theorem y211 : tbyte Tryz.prog 211 = false := by kernel_rfl
@[simp] theorem z218 : tsz Tryz.prog 218 = some 1 := by kernel_rfl
@[simp] theorem c218 : tcode Tryz.prog 218 = 5 := by kernel_rfl
@[simp] theorem i218 : tint Tryz.prog 218 = none := by kernel_rfl
@[simp] theorem a218 : tagg Tryz.prog 218 = some false := by kernel_rfl
@[simp] theorem o218 : tzero Tryz.prog 218 = some [.slice none 0 0] := by kernel_rfl
@[simp] theorem q218 : tcomp Tryz.prog 218 = false := by kernel_rfl
@[simp] theorem e218 : telem Tryz.prog 218 = some (8, 128) := by kernel_rfl
@[simp] theorem w218 : tezero Tryz.prog 218 = some [.string (ofL []), .int .i64 0, .string (ofL []), .int .i64 0, .string (ofL []), .string (ofL []), .slice none 0 0, .slice none 0 0] := by kernel_rfl
@[simp] theorem y218 : tbyte Tryz.prog 218 = false := by kernel_rfl
@[simp] theorem z219 : tsz Tryz.prog 219 = some 8 := by kernel_rfl
@[simp] theorem c219 : tcode Tryz.prog 219 = 8 := by kernel_rfl
@[simp] theorem i219 : tint Tryz.prog 219 = none := by kernel_rfl
@[simp] theorem a219 : tagg Tryz.prog 219 = some true := by kernel_rfl
@[simp] theorem o219 : tzero Tryz.prog 219 = some [.string (ofL []), .int .i64 0, .string (ofL []), .int .i64 0, .string (ofL []), .string (ofL []), .slice none 0 0, .slice none 0 0] := by kernel_rfl
@[simp] theorem q219 : tcomp Tryz.prog 219 = false := by kernel_rfl
@[simp] theorem y219 : tbyte Tryz.prog 219 = false := by kernel_rfl
@[simp] theorem f219_0 : tfld Tryz.prog 219 0 = some (0, false, 1) := by kernel_rfl
@[simp] theorem f219_1 : tfld Tryz.prog 219 1 = some (1, true, 7) := by kernel_rfl
@[simp] theorem p219 : tplaces Tryz.prog 219 = some [(0, 1), (1, 7)] := by kernel_rfl
@[simp] theorem z220 : tsz Tryz.prog 220 = some 8 := by kernel_rfl
@[simp] theorem c220 : tcode Tryz.prog 220 = 8 := by kernel_rfl
@[simp] theorem i220 : tint Tryz.prog 220 = none := by kernel_rfl
@[simp] theorem a220 : tagg Tryz.prog 220 = some true := by kernel_rfl
@[simp] theorem o220 : tzero Tryz.prog 220 = some [.string (ofL []), .int .i64 0, .string (ofL []), .int .i64 0, .string (ofL []), .string (ofL []), .slice none 0 0, .slice none 0 0] := by kernel_rfl
@[simp] theorem q220 : tcomp Tryz.prog 220 = false := by kernel_rfl
@[simp] theorem y220 : tbyte Tryz.prog 220 = false := by kernel_rfl
@[simp] theorem f220_0 : tfld Tryz.prog 220 0 = some (0, false, 1) := by kernel_rfl
@[simp] theorem f220_1 : tfld Tryz.prog 220 1 = some (1, true, 7) := by kernel_rfl
@[simp] theorem p220 : tplaces Tryz.prog 220 = some [(0, 1), (1, 7)] := by kernel_rfl
@[simp] theorem z221 : tsz Tryz.prog 221 = some 1 := by kernel_rfl
@[simp] theorem c221 : tcode Tryz.prog 221 = 7 := by kernel_rfl
@[simp] theorem i221 : tint Tryz.prog 221 = none := by kernel_rfl
@[simp] theorem a221 : tagg Tryz.prog 221 = some false := by kernel_rfl
@[simp] theorem o221 : tzero Tryz.prog 221 = some [.nilFunc] := by kernel_rfl
@[simp] theorem q221 : tcomp Tryz.prog 221 = false := by kernel_rfl
@[simp] theorem y221 : tbyte Tryz.prog 221 = false := by kernel_rfl
@[simp] theorem z225 : tsz Tryz.prog 225 = some 1 := by kernel_rfl
@[simp] theorem c225 : tcode Tryz.prog 225 = 7 := by kernel_rfl
@[simp] theorem i225 : tint Tryz.prog 225 = none := by kernel_rfl
@[simp] theorem a225 : tagg Tryz.prog 225 = some false := by kernel_rfl
@[simp] theorem o225 : tzero Tryz.prog 225 = some [.nilFunc] := by kernel_rfl
@[simp] theorem q225 : tcomp Tryz.prog 225 = false := by kernel_rfl
@[simp] theorem y225 : tbyte Tryz.prog 225 = false := by kernel_rfl
@[simp] theorem z228 : tsz Tryz.prog 228 = some 1 := by kernel_rfl
@[simp] theorem c228 : tcode Tryz.prog 228 = 7 := by kernel_rfl
@[simp] theorem i228 : tint Tryz.prog 228 = none := by kernel_rfl
@[simp] theorem a228 : tagg Tryz.prog 228 = some false := by kernel_rfl
@[simp] theorem o228 : tzero Tryz.prog 228 = some [.nilFunc] := by kernel_rfl
@[simp] theorem q228 : tcomp Tryz.prog 228 = false := by kernel_rfl
@[simp] theorem y228 : tbyte Tryz.prog 228 = false := by kernel_rfl
@[simp] theorem z233 : tsz Tryz.prog 233 = some 1 := by kernel_rfl
@[simp] theorem c233 : tcode Tryz.prog 233 = 4 := by kernel_rfl
@[simp] theorem i233 : tint Tryz.prog 233 = none := by kernel_rfl
@[simp] theorem a233 : tagg Tryz.prog 233 = some false := by kernel_rfl
@[simp] theorem o233 : tzero Tryz.prog 233 = some [.pointer none] := by kernel_rfl
@[simp] theorem q233 : tcomp Tryz.prog 233 = true := by kernel_rfl
@[simp] theorem y233 : tbyte Tryz.prog 233 = false := by kernel_rfl
@[simp] theorem z248 : tsz Tryz.prog 248 = some 1 := by kernel_rfl
@[simp] theorem c248 : tcode Tryz.prog 248 = 2 := by kernel_rfl
@[simp] theorem i248 : tint Tryz.prog 248 = some .u32 := by kernel_rfl
@[simp] theorem a248 : tagg Tryz.prog 248 = some false := by kernel_rfl
@[simp] theorem o248 : tzero Tryz.prog 248 = some [.int .u32 0] := by kernel_rfl
@[simp] theorem q248 : tcomp Tryz.prog 248 = true := by kernel_rfl
@[simp] theorem y248 : tbyte Tryz.prog 248 = false := by kernel_rfl
@[simp] theorem z256 : tsz Tryz.prog 256 = some 1 := by kernel_rfl
@[simp] theorem c256 : tcode Tryz.prog 256 = 2 := by kernel_rfl
@[simp] theorem i256 : tint Tryz.prog 256 = some .u64 := by kernel_rfl
@[simp] theorem a256 : tagg Tryz.prog 256 = some false := by kernel_rfl
@[simp] theorem o256 : tzero Tryz.prog 256 = some [.int .u64 0] := by kernel_rfl
@[simp] theorem q256 : tcomp Tryz.prog 256 = true := by kernel_rfl
@[simp] theorem y256 : tbyte Tryz.prog 256 = false := by kernel_rfl
@[simp] theorem z260 : tsz Tryz.prog 260 = some 1 := by kernel_rfl
@[simp] theorem c260 : tcode Tryz.prog 260 = 4 := by kernel_rfl
@[simp] theorem i260 : tint Tryz.prog 260 = none := by kernel_rfl
@[simp] theorem a260 : tagg Tryz.prog 260 = some false := by kernel_rfl
@[simp] theorem o260 : tzero Tryz.prog 260 = some [.pointer none] := by kernel_rfl
@[simp] theorem q260 : tcomp Tryz.prog 260 = true := by kernel_rfl
@[simp] theorem y260 : tbyte Tryz.prog 260 = false := by kernel_rfl
@[simp] theorem z285 : tsz Tryz.prog 285 = some 1 := by kernel_rfl
@[simp] theorem c285 : tcode Tryz.prog 285 = 2 := by kernel_rfl
@[simp] theorem i285 : tint Tryz.prog 285 = some .u8 := by kernel_rfl
@[simp] theorem a285 : tagg Tryz.prog 285 = some false := by kernel_rfl
@[simp] theorem o285 : tzero Tryz.prog 285 = some [.int .u8 0] := by kernel_rfl
@[simp] theorem q285 : tcomp Tryz.prog 285 = true := by kernel_rfl
@[simp] theorem y285 : tbyte Tryz.prog 285 = false := by kernel_rfl
@[simp] theorem z286 : tsz Tryz.prog 286 = some 1 := by kernel_rfl
@[simp] theorem c286 : tcode Tryz.prog 286 = 7 := by kernel_rfl
@[simp] theorem i286 : tint Tryz.prog 286 = none := by kernel_rfl
@[simp] theorem a286 : tagg Tryz.prog 286 = some false := by kernel_rfl
@[simp] theorem o286 : tzero Tryz.prog 286 = some [.nilFunc] := by kernel_rfl
@[simp] theorem q286 : tcomp Tryz.prog 286 = false := by kernel_rfl
@[simp] theorem y286 : tbyte Tryz.prog 286 = false := by kernel_rfl
@[simp] theorem z287 : tsz Tryz.prog 287 = some 1 := by kernel_rfl
@[simp] theorem c287 : tcode Tryz.prog 287 = 2 := by kernel_rfl
@[simp] theorem i287 : tint Tryz.prog 287 = some .i32 := by kernel_rfl
@[simp] theorem a287 : tagg Tryz.prog 287 = some false := by kernel_rfl
@[simp] theorem o287 : tzero Tryz.prog 287 = some [.int .i32 0] := by kernel_rfl
@[simp] theorem q287 : tcomp Tryz.prog 287 = true := by kernel_rfl
@[simp] theorem y287 : tbyte Tryz.prog 287 = false := by kernel_rfl
@[simp] theorem z288 : tsz Tryz.prog 288 = some 1 := by kernel_rfl
@[simp] theorem c288 : tcode Tryz.prog 288 = 2 := by kernel_rfl
@[simp] theorem i288 : tint Tryz.prog 288 = some .i32 := by kernel_rfl
@[simp] theorem a288 : tagg Tryz.prog 288 = some false := by kernel_rfl
@[simp] theorem o288 : tzero Tryz.prog 288 = some [.int .i32 0] := by kernel_rfl
@[simp] theorem q288 : tcomp Tryz.prog 288 = true := by kernel_rfl
@[simp] theorem y288 : tbyte Tryz.prog 288 = false := by kernel_rfl
@[simp] theorem z289 : tsz Tryz.prog 289 = some 11 := by kernel_rfl
@[simp] theorem c289 : tcode Tryz.prog 289 = 8 := by kernel_rfl
@[simp] theorem i289 : tint Tryz.prog 289 = none := by kernel_rfl
@[simp] theorem a289 : tagg Tryz.prog 289 = some true := by kernel_rfl
@[simp] theorem o289 : tzero Tryz.prog 289 = some [.int .u64 0, .int .u64 0, .int .u32 0, .int .u8 0, .int .u8 0, .int .u8 0, .int .u8 0, .nilFunc, .pointer none, .int .i32 0, .int .i32 0] := by kernel_rfl
@[simp] theorem q289 : tcomp Tryz.prog 289 = false := by kernel_rfl
@[simp] theorem y289 : tbyte Tryz.prog 289 = false := by kernel_rfl
@[simp] theorem f289_0 : tfld Tryz.prog 289 0 = some (0, false, 1) := by kernel_rfl
@[simp] theorem f289_1 : tfld Tryz.prog 289 1 = some (1, false, 1) := by kernel_rfl
@[simp] theorem f289_2 : tfld Tryz.prog 289 2 = some (2, false, 1) := by kernel_rfl
@[simp] theorem f289_3 : tfld Tryz.prog 289 3 = some (3, false, 1) := by kernel_rfl
@[simp] theorem f289_4 : tfld Tryz.prog 289 4 = some (4, false, 1) := by kernel_rfl
@[simp] theorem f289_5 : tfld Tryz.prog 289 5 = some (5, false, 1) := by kernel_rfl
@[simp] theorem f289_6 : tfld Tryz.prog 289 6 = some (6, false, 1) := by kernel_rfl
@[simp] theorem f289_7 : tfld Tryz.prog 289 7 = some (7, false, 1) := by kernel_rfl
@[simp] theorem f289_8 : tfld Tryz.prog 289 8 = some (8, false, 1) := by kernel_rfl
@[simp] theorem f289_9 : tfld Tryz.prog 289 9 = some (9, false, 1) := by kernel_rfl
@[simp] theorem f289_10 : tfld Tryz.prog 289 10 = some (10, false, 1) := by kernel_rfl
@[simp] theorem p289 : tplaces Tryz.prog 289 = some [(0, 1), (1, 1), (2, 1), (3, 1), (4, 1), (5, 1), (6, 1), (7, 1), (8, 1), (9, 1), (10, 1)] := by kernel_rfl
@[simp] theorem z290 : tsz Tryz.prog 290 = some 11 := by kernel_rfl
@[simp] theorem c290 : tcode Tryz.prog 290 = 8 := by kernel_rfl
@[simp] theorem i290 : tint Tryz.prog 290 = none := by kernel_rfl
@[simp] theorem a290 : tagg Tryz.prog 290 = some true := by kernel_rfl
@[simp] theorem o290 : tzero Tryz.prog 290 = some [.int .u64 0, .int .u64 0, .int .u32 0, .int .u8 0, .int .u8 0, .int .u8 0, .int .u8 0, .nilFunc, .pointer none, .int .i32 0, .int .i32 0] := by kernel_rfl
@[simp] theorem q290 : tcomp Tryz.prog 290 = false := by kernel_rfl
@[simp] theorem y290 : tbyte Tryz.prog 290 = false := by kernel_rfl
@[simp] theorem f290_0 : tfld Tryz.prog 290 0 = some (0, false, 1) := by kernel_rfl
@[simp] theorem f290_1 : tfld Tryz.prog 290 1 = some (1, false, 1) := by kernel_rfl
@[simp] theorem f290_2 : tfld Tryz.prog 290 2 = some (2, false, 1) := by kernel_rfl
@[simp] theorem f290_3 : tfld Tryz.prog 290 3 = some (3, false, 1) := by kernel_rfl
@[simp] theorem f290_4 : tfld Tryz.prog 290 4 = some (4, false, 1) := by kernel_rfl
@[simp] theorem f290_5 : tfld Tryz.prog 290 5 = some (5, false, 1) := by kernel_rfl
@[simp] theorem f290_6 : tfld Tryz.prog 290 6 = some (6, false, 1) := by kernel_rfl
@[simp] theorem f290_7 : tfld Tryz.prog 290 7 = some (7, false, 1) := by kernel_rfl
@[simp] theorem f290_8 : tfld Tryz.prog 290 8 = some (8, false, 1) := by kernel_rfl
@[simp] theorem f290_9 : tfld Tryz.prog 290 9 = some (9, false, 1) := by kernel_rfl
@[simp] theorem f290_10 : tfld Tryz.prog 290 10 = some (10, false, 1) := by kernel_rfl
@[simp] theorem p290 : tplaces Tryz.prog 290 = some [(0, 1), (1, 1), (2, 1), (3, 1), (4, 1), (5, 1), (6, 1), (7, 1), (8, 1), (9, 1), (10, 1)] := by kernel_rfl
end Go.Proofs.Mv.V.Ty
