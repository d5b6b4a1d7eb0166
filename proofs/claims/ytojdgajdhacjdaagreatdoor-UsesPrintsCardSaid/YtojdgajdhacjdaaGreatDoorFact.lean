/- A part of the proofs of the seat YtojdgajdhacjdaaGreatDoor: the abstract machine, the contracts of the functions, the laws. No condition of its own. -/
import Derived.Test.YtojdgajdhacjdaaGreatDoorProg
import Derived.KernelRfl
import Derived.Test.YtojdgajdhacjdaaGreatDoorMvD
set_option linter.unusedSimpArgs false
set_option linter.unusedVariables false
set_option linter.unusedSectionVars false
namespace Go.Proofs.Mv.V.Ty
@[simp] theorem z0 : tsz Tryz.prog 0 = some 1 := by kernel_rfl
@[simp] theorem c0 : tcode Tryz.prog 0 = 10 := by kernel_rfl
@[simp] theorem i0 : tint Tryz.prog 0 = none := by kernel_rfl
@[simp] theorem q0 : tcomp Tryz.prog 0 = false := by kernel_rfl
@[simp] theorem y0 : tbyte Tryz.prog 0 = false := by kernel_rfl
@[simp] theorem z1 : tsz Tryz.prog 1 = some 1 := by kernel_rfl
@[simp] theorem c1 : tcode Tryz.prog 1 = 7 := by kernel_rfl
@[simp] theorem i1 : tint Tryz.prog 1 = none := by kernel_rfl
@[simp] theorem a1 : tagg Tryz.prog 1 = some false := by kernel_rfl
@[simp] theorem o1 : tzero Tryz.prog 1 = some [.nilFunc] := by kernel_rfl
@[simp] theorem q1 : tcomp Tryz.prog 1 = false := by kernel_rfl
@[simp] theorem y1 : tbyte Tryz.prog 1 = false := by kernel_rfl
@[simp] theorem z2 : tsz Tryz.prog 2 = some 1 := by kernel_rfl
@[simp] theorem c2 : tcode Tryz.prog 2 = 2 := by kernel_rfl
@[simp] theorem i2 : tint Tryz.prog 2 = some .i64 := by kernel_rfl
@[simp] theorem a2 : tagg Tryz.prog 2 = some false := by kernel_rfl
@[simp] theorem o2 : tzero Tryz.prog 2 = some [.int .i64 0] := by kernel_rfl
@[simp] theorem q2 : tcomp Tryz.prog 2 = true := by kernel_rfl
@[simp] theorem y2 : tbyte Tryz.prog 2 = false := by kernel_rfl
@[simp] theorem z3 : tsz Tryz.prog 3 = some 1 := by kernel_rfl
@[simp] theorem c3 : tcode Tryz.prog 3 = 2 := by kernel_rfl
@[simp] theorem i3 : tint Tryz.prog 3 = some .i64 := by kernel_rfl
@[simp] theorem a3 : tagg Tryz.prog 3 = some false := by kernel_rfl
@[simp] theorem o3 : tzero Tryz.prog 3 = some [.int .i64 0] := by kernel_rfl
@[simp] theorem q3 : tcomp Tryz.prog 3 = true := by kernel_rfl
@[simp] theorem y3 : tbyte Tryz.prog 3 = false := by kernel_rfl
@[simp] theorem z4 : tsz Tryz.prog 4 = some 1 := by kernel_rfl
@[simp] theorem c4 : tcode Tryz.prog 4 = 1 := by kernel_rfl
@[simp] theorem i4 : tint Tryz.prog 4 = none := by kernel_rfl
@[simp] theorem a4 : tagg Tryz.prog 4 = some false := by kernel_rfl
@[simp] theorem o4 : tzero Tryz.prog 4 = some [.bool false] := by kernel_rfl
@[simp] theorem q4 : tcomp Tryz.prog 4 = true := by kernel_rfl
@[simp] theorem y4 : tbyte Tryz.prog 4 = false := by kernel_rfl
@[simp] theorem z5 : tsz Tryz.prog 5 = some 1 := by kernel_rfl
@[simp] theorem c5 : tcode Tryz.prog 5 = 2 := by kernel_rfl
@[simp] theorem i5 : tint Tryz.prog 5 = some .u8 := by kernel_rfl
@[simp] theorem a5 : tagg Tryz.prog 5 = some false := by kernel_rfl
@[simp] theorem o5 : tzero Tryz.prog 5 = some [.int .u8 0] := by kernel_rfl
@[simp] theorem q5 : tcomp Tryz.prog 5 = true := by kernel_rfl
@[simp] theorem y5 : tbyte Tryz.prog 5 = false := by kernel_rfl
@[simp] theorem z9 : tsz Tryz.prog 9 = some 1 := by kernel_rfl
@[simp] theorem c9 : tcode Tryz.prog 9 = 3 := by kernel_rfl
@[simp] theorem i9 : tint Tryz.prog 9 = none := by kernel_rfl
@[simp] theorem a9 : tagg Tryz.prog 9 = some false := by kernel_rfl
@[simp] theorem o9 : tzero Tryz.prog 9 = some [.string (ofL [])] := by kernel_rfl
@[simp] theorem q9 : tcomp Tryz.prog 9 = true := by kernel_rfl
@[simp] theorem y9 : tbyte Tryz.prog 9 = false := by kernel_rfl
@[simp] theorem z12 : tsz Tryz.prog 12 = some 1 := by kernel_rfl
@[simp] theorem c12 : tcode Tryz.prog 12 = 2 := by kernel_rfl
@[simp] theorem i12 : tint Tryz.prog 12 = some .u64 := by kernel_rfl
@[simp] theorem a12 : tagg Tryz.prog 12 = some false := by kernel_rfl
@[simp] theorem o12 : tzero Tryz.prog 12 = some [.int .u64 0] := by kernel_rfl
@[simp] theorem q12 : tcomp Tryz.prog 12 = true := by kernel_rfl
@[simp] theorem y12 : tbyte Tryz.prog 12 = false := by kernel_rfl
@[simp] theorem z20 : tsz Tryz.prog 20 = some 1 := by kernel_rfl
@[simp] theorem c20 : tcode Tryz.prog 20 = 6 := by kernel_rfl
@[simp] theorem i20 : tint Tryz.prog 20 = none := by kernel_rfl
@[simp] theorem a20 : tagg Tryz.prog 20 = some false := by kernel_rfl
@[simp] theorem o20 : tzero Tryz.prog 20 = some [.nilIface] := by kernel_rfl
@[simp] theorem q20 : tcomp Tryz.prog 20 = true := by kernel_rfl
@[simp] theorem y20 : tbyte Tryz.prog 20 = false := by kernel_rfl
@[simp] theorem z21 : tsz Tryz.prog 21 = some 1 := by kernel_rfl
@[simp] theorem c21 : tcode Tryz.prog 21 = 2 := by kernel_rfl
@[simp] theorem i21 : tint Tryz.prog 21 = some .i32 := by kernel_rfl
@[simp] theorem a21 : tagg Tryz.prog 21 = some false := by kernel_rfl
@[simp] theorem o21 : tzero Tryz.prog 21 = some [.int .i32 0] := by kernel_rfl
@[simp] theorem q21 : tcomp Tryz.prog 21 = true := by kernel_rfl
@[simp] theorem y21 : tbyte Tryz.prog 21 = false := by kernel_rfl
@[simp] theorem z23 : tsz Tryz.prog 23 = some 1 := by kernel_rfl
@[simp] theorem c23 : tcode Tryz.prog 23 = 5 := by kernel_rfl
@[simp] theorem i23 : tint Tryz.prog 23 = none := by kernel_rfl
@[simp] theorem a23 : tagg Tryz.prog 23 = some false := by kernel_rfl
@[simp] theorem o23 : tzero Tryz.prog 23 = some [.slice none 0 0] := by kernel_rfl
@[simp] theorem q23 : tcomp Tryz.prog 23 = false := by kernel_rfl
@[simp] theorem e23 : telem Tryz.prog 23 = some (4, 56) := by kernel_rfl
@[simp] theorem w23 : tezero Tryz.prog 23 = some [.string (ofL []), .int .i64 0, .string (ofL []), .string (ofL [])] := by kernel_rfl
@[simp] theorem y23 : tbyte Tryz.prog 23 = false := by kernel_rfl
@[simp] theorem z24 : tsz Tryz.prog 24 = some 1 := by kernel_rfl
@[simp] theorem c24 : tcode Tryz.prog 24 = 5 := by kernel_rfl
@[simp] theorem i24 : tint Tryz.prog 24 = none := by kernel_rfl
@[simp] theorem a24 : tagg Tryz.prog 24 = some false := by kernel_rfl
@[simp] theorem o24 : tzero Tryz.prog 24 = some [.slice none 0 0] := by kernel_rfl
@[simp] theorem q24 : tcomp Tryz.prog 24 = false := by kernel_rfl
@[simp] theorem e24 : telem Tryz.prog 24 = some (10, 152) := by kernel_rfl
@[simp] theorem w24 : tezero Tryz.prog 24 = some [.int .i64 0, .string (ofL []), .string (ofL []), .int .i64 0, .string (ofL []), .int .i64 0, .string (ofL []), .string (ofL []), .slice none 0 0, .slice none 0 0] := by kernel_rfl
@[simp] theorem y24 : tbyte Tryz.prog 24 = false := by kernel_rfl
@[simp] theorem z25 : tsz Tryz.prog 25 = some 2 := by kernel_rfl
@[simp] theorem c25 : tcode Tryz.prog 25 = 8 := by kernel_rfl
@[simp] theorem i25 : tint Tryz.prog 25 = none := by kernel_rfl
@[simp] theorem a25 : tagg Tryz.prog 25 = some true := by kernel_rfl
@[simp] theorem o25 : tzero Tryz.prog 25 = some [.slice none 0 0, .slice none 0 0] := by kernel_rfl
@[simp] theorem q25 : tcomp Tryz.prog 25 = false := by kernel_rfl
@[simp] theorem y25 : tbyte Tryz.prog 25 = false := by kernel_rfl
@[simp] theorem f25_0 : tfld Tryz.prog 25 0 = some (0, false, 1) := by kernel_rfl
@[simp] theorem f25_1 : tfld Tryz.prog 25 1 = some (1, false, 1) := by kernel_rfl
@[simp] theorem p25 : tplaces Tryz.prog 25 = some [(0, 1), (1, 1)] := by kernel_rfl
@[simp] theorem z26 : tsz Tryz.prog 26 = some 2 := by kernel_rfl
@[simp] theorem c26 : tcode Tryz.prog 26 = 8 := by kernel_rfl
@[simp] theorem i26 : tint Tryz.prog 26 = none := by kernel_rfl
@[simp] theorem a26 : tagg Tryz.prog 26 = some true := by kernel_rfl
@[simp] theorem o26 : tzero Tryz.prog 26 = some [.slice none 0 0, .slice none 0 0] := by kernel_rfl
@[simp] theorem q26 : tcomp Tryz.prog 26 = false := by kernel_rfl
@[simp] theorem y26 : tbyte Tryz.prog 26 = false := by kernel_rfl
@[simp] theorem f26_0 : tfld Tryz.prog 26 0 = some (0, false, 1) := by kernel_rfl
@[simp] theorem f26_1 : tfld Tryz.prog 26 1 = some (1, false, 1) := by kernel_rfl
@[simp] theorem p26 : tplaces Tryz.prog 26 = some [(0, 1), (1, 1)] := by kernel_rfl
@[simp] theorem z27 : tsz Tryz.prog 27 = some 1 := by kernel_rfl
@[simp] theorem c27 : tcode Tryz.prog 27 = 6 := by kernel_rfl
@[simp] theorem i27 : tint Tryz.prog 27 = none := by kernel_rfl
@[simp] theorem a27 : tagg Tryz.prog 27 = some false := by kernel_rfl
@[simp] theorem o27 : tzero Tryz.prog 27 = some [.nilIface] := by kernel_rfl
@[simp] theorem q27 : tcomp Tryz.prog 27 = true := by kernel_rfl
@[simp] theorem y27 : tbyte Tryz.prog 27 = false := by kernel_rfl
@[simp] theorem z28 : tsz Tryz.prog 28 = some 1 := by kernel_rfl
@[simp] theorem c28 : tcode Tryz.prog 28 = 6 := by kernel_rfl
@[simp] theorem i28 : tint Tryz.prog 28 = none := by kernel_rfl
@[simp] theorem a28 : tagg Tryz.prog 28 = some false := by kernel_rfl
@[simp] theorem o28 : tzero Tryz.prog 28 = some [.nilIface] := by kernel_rfl
@[simp] theorem q28 : tcomp Tryz.prog 28 = true := by kernel_rfl
@[simp] theorem y28 : tbyte Tryz.prog 28 = false := by kernel_rfl
@[simp] theorem z31 : tsz Tryz.prog 31 = some 1 := by kernel_rfl
@[simp] theorem c31 : tcode Tryz.prog 31 = 2 := by kernel_rfl
@[simp] theorem i31 : tint Tryz.prog 31 = some .i64 := by kernel_rfl
@[simp] theorem a31 : tagg Tryz.prog 31 = some false := by kernel_rfl
@[simp] theorem o31 : tzero Tryz.prog 31 = some [.int .i64 0] := by kernel_rfl
@[simp] theorem q31 : tcomp Tryz.prog 31 = true := by kernel_rfl
@[simp] theorem y31 : tbyte Tryz.prog 31 = false := by kernel_rfl
@[simp] theorem z32 : tsz Tryz.prog 32 = some 1 := by kernel_rfl
@[simp] theorem c32 : tcode Tryz.prog 32 = 7 := by kernel_rfl
@[simp] theorem i32 : tint Tryz.prog 32 = none := by kernel_rfl
@[simp] theorem a32 : tagg Tryz.prog 32 = some false := by kernel_rfl
@[simp] theorem o32 : tzero Tryz.prog 32 = some [.nilFunc] := by kernel_rfl
@[simp] theorem q32 : tcomp Tryz.prog 32 = false := by kernel_rfl
@[simp] theorem y32 : tbyte Tryz.prog 32 = false := by kernel_rfl
@[simp] theorem z35 : tsz Tryz.prog 35 = some 1 := by kernel_rfl
@[simp] theorem c35 : tcode Tryz.prog 35 = 7 := by kernel_rfl
@[simp] theorem i35 : tint Tryz.prog 35 = none := by kernel_rfl
@[simp] theorem a35 : tagg Tryz.prog 35 = some false := by kernel_rfl
@[simp] theorem o35 : tzero Tryz.prog 35 = some [.nilFunc] := by kernel_rfl
@[simp] theorem q35 : tcomp Tryz.prog 35 = false := by kernel_rfl
@[simp] theorem y35 : tbyte Tryz.prog 35 = false := by kernel_rfl
@[simp] theorem z36 : tsz Tryz.prog 36 = some 1 := by kernel_rfl
@[simp] theorem c36 : tcode Tryz.prog 36 = 7 := by kernel_rfl
@[simp] theorem i36 : tint Tryz.prog 36 = none := by kernel_rfl
@[simp] theorem a36 : tagg Tryz.prog 36 = some false := by kernel_rfl
@[simp] theorem o36 : tzero Tryz.prog 36 = some [.nilFunc] := by kernel_rfl
@[simp] theorem q36 : tcomp Tryz.prog 36 = false := by kernel_rfl
@[simp] theorem y36 : tbyte Tryz.prog 36 = false := by kernel_rfl
@[simp] theorem z40 : tsz Tryz.prog 40 = some 1 := by kernel_rfl
@[simp] theorem c40 : tcode Tryz.prog 40 = 7 := by kernel_rfl
@[simp] theorem i40 : tint Tryz.prog 40 = none := by kernel_rfl
@[simp] theorem a40 : tagg Tryz.prog 40 = some false := by kernel_rfl
@[simp] theorem o40 : tzero Tryz.prog 40 = some [.nilFunc] := by kernel_rfl
@[simp] theorem q40 : tcomp Tryz.prog 40 = false := by kernel_rfl
@[simp] theorem y40 : tbyte Tryz.prog 40 = false := by kernel_rfl
@[simp] theorem z41 : tsz Tryz.prog 41 = some 1 := by kernel_rfl
@[simp] theorem c41 : tcode Tryz.prog 41 = 5 := by kernel_rfl
@[simp] theorem i41 : tint Tryz.prog 41 = none := by kernel_rfl
@[simp] theorem a41 : tagg Tryz.prog 41 = some false := by kernel_rfl
@[simp] theorem o41 : tzero Tryz.prog 41 = some [.slice none 0 0] := by kernel_rfl
@[simp] theorem q41 : tcomp Tryz.prog 41 = false := by kernel_rfl
@[simp] theorem e41 : telem Tryz.prog 41 = some (1, 16) := by kernel_rfl
@[simp] theorem w41 : tezero Tryz.prog 41 = some [.string (ofL [])] := by kernel_rfl
@[simp] theorem y41 : tbyte Tryz.prog 41 = false := by kernel_rfl
@[simp] theorem z42 : tsz Tryz.prog 42 = some 1 := by kernel_rfl
@[simp] theorem c42 : tcode Tryz.prog 42 = 5 := by kernel_rfl
@[simp] theorem i42 : tint Tryz.prog 42 = none := by kernel_rfl
@[simp] theorem a42 : tagg Tryz.prog 42 = some false := by kernel_rfl
@[simp] theorem o42 : tzero Tryz.prog 42 = some [.slice none 0 0] := by kernel_rfl
@[simp] theorem q42 : tcomp Tryz.prog 42 = false := by kernel_rfl
@[simp] theorem e42 : telem Tryz.prog 42 = some (7, 112) := by kernel_rfl
@[simp] theorem w42 : tezero Tryz.prog 42 = some [.int .i64 0, .string (ofL []), .int .i64 0, .string (ofL []), .string (ofL []), .slice none 0 0, .slice none 0 0] := by kernel_rfl
@[simp] theorem y42 : tbyte Tryz.prog 42 = false := by kernel_rfl
@[simp] theorem z43 : tsz Tryz.prog 43 = some 7 := by kernel_rfl
@[simp] theorem c43 : tcode Tryz.prog 43 = 8 := by kernel_rfl
@[simp] theorem i43 : tint Tryz.prog 43 = none := by kernel_rfl
@[simp] theorem a43 : tagg Tryz.prog 43 = some true := by kernel_rfl
@[simp] theorem o43 : tzero Tryz.prog 43 = some [.int .i64 0, .string (ofL []), .int .i64 0, .string (ofL []), .string (ofL []), .slice none 0 0, .slice none 0 0] := by kernel_rfl
@[simp] theorem q43 : tcomp Tryz.prog 43 = false := by kernel_rfl
@[simp] theorem y43 : tbyte Tryz.prog 43 = false := by kernel_rfl
@[simp] theorem f43_0 : tfld Tryz.prog 43 0 = some (0, false, 1) := by kernel_rfl
@[simp] theorem f43_1 : tfld Tryz.prog 43 1 = some (1, false, 1) := by kernel_rfl
@[simp] theorem f43_2 : tfld Tryz.prog 43 2 = some (2, false, 1) := by kernel_rfl
@[simp] theorem f43_3 : tfld Tryz.prog 43 3 = some (3, false, 1) := by kernel_rfl
@[simp] theorem f43_4 : tfld Tryz.prog 43 4 = some (4, false, 1) := by kernel_rfl
@[simp] theorem f43_5 : tfld Tryz.prog 43 5 = some (5, false, 1) := by kernel_rfl
@[simp] theorem f43_6 : tfld Tryz.prog 43 6 = some (6, false, 1) := by kernel_rfl
@[simp] theorem p43 : tplaces Tryz.prog 43 = some [(0, 1), (1, 1), (2, 1), (3, 1), (4, 1), (5, 1), (6, 1)] := by kernel_rfl
@[simp] theorem z44 : tsz Tryz.prog 44 = some 7 := by kernel_rfl
@[simp] theorem c44 : tcode Tryz.prog 44 = 8 := by kernel_rfl
@[simp] theorem i44 : tint Tryz.prog 44 = none := by kernel_rfl
@[simp] theorem a44 : tagg Tryz.prog 44 = some true := by kernel_rfl
@[simp] theorem o44 : tzero Tryz.prog 44 = some [.int .i64 0, .string (ofL []), .int .i64 0, .string (ofL []), .string (ofL []), .slice none 0 0, .slice none 0 0] := by kernel_rfl
@[simp] theorem q44 : tcomp Tryz.prog 44 = false := by kernel_rfl
@[simp] theorem y44 : tbyte Tryz.prog 44 = false := by kernel_rfl
@[simp] theorem f44_0 : tfld Tryz.prog 44 0 = some (0, false, 1) := by kernel_rfl
@[simp] theorem f44_1 : tfld Tryz.prog 44 1 = some (1, false, 1) := by kernel_rfl
@[simp] theorem f44_2 : tfld Tryz.prog 44 2 = some (2, false, 1) := by kernel_rfl
@[simp] theorem f44_3 : tfld Tryz.prog 44 3 = some (3, false, 1) := by kernel_rfl
@[simp] theorem f44_4 : tfld Tryz.prog 44 4 = some (4, false, 1) := by kernel_rfl
@[simp] theorem f44_5 : tfld Tryz.prog 44 5 = some (5, false, 1) := by kernel_rfl
@[simp] theorem f44_6 : tfld Tryz.prog 44 6 = some (6, false, 1) := by kernel_rfl
@[simp] theorem p44 : tplaces Tryz.prog 44 = some [(0, 1), (1, 1), (2, 1), (3, 1), (4, 1), (5, 1), (6, 1)] := by kernel_rfl
@[simp] theorem z45 : tsz Tryz.prog 45 = some 8 := by kernel_rfl
@[simp] theorem c45 : tcode Tryz.prog 45 = 8 := by kernel_rfl
@[simp] theorem i45 : tint Tryz.prog 45 = none := by kernel_rfl
@[simp] theorem a45 : tagg Tryz.prog 45 = some true := by kernel_rfl
@[simp] theorem o45 : tzero Tryz.prog 45 = some [.string (ofL []), .int .i64 0, .string (ofL []), .int .i64 0, .string (ofL []), .string (ofL []), .slice none 0 0, .slice none 0 0] := by kernel_rfl
@[simp] theorem q45 : tcomp Tryz.prog 45 = false := by kernel_rfl
@[simp] theorem y45 : tbyte Tryz.prog 45 = false := by kernel_rfl
@[simp] theorem f45_0 : tfld Tryz.prog 45 0 = some (0, false, 1) := by kernel_rfl
@[simp] theorem f45_1 : tfld Tryz.prog 45 1 = some (1, true, 7) := by kernel_rfl
@[simp] theorem p45 : tplaces Tryz.prog 45 = some [(0, 1), (1, 7)] := by kernel_rfl
@[simp] theorem z46 : tsz Tryz.prog 46 = some 8 := by kernel_rfl
@[simp] theorem c46 : tcode Tryz.prog 46 = 8 := by kernel_rfl
@[simp] theorem i46 : tint Tryz.prog 46 = none := by kernel_rfl
@[simp] theorem a46 : tagg Tryz.prog 46 = some true := by kernel_rfl
@[simp] theorem o46 : tzero Tryz.prog 46 = some [.string (ofL []), .int .i64 0, .string (ofL []), .int .i64 0, .string (ofL []), .string (ofL []), .slice none 0 0, .slice none 0 0] := by kernel_rfl
@[simp] theorem q46 : tcomp Tryz.prog 46 = false := by kernel_rfl
@[simp] theorem y46 : tbyte Tryz.prog 46 = false := by kernel_rfl
@[simp] theorem f46_0 : tfld Tryz.prog 46 0 = some (0, false, 1) := by kernel_rfl
@[simp] theorem f46_1 : tfld Tryz.prog 46 1 = some (1, true, 7) := by kernel_rfl
@[simp] theorem p46 : tplaces Tryz.prog 46 = some [(0, 1), (1, 7)] := by kernel_rfl
@[simp] theorem z47 : tsz Tryz.prog 47 = some 1 := by kernel_rfl
@[simp] theorem c47 : tcode Tryz.prog 47 = 5 := by kernel_rfl
@[simp] theorem i47 : tint Tryz.prog 47 = none := by kernel_rfl
@[simp] theorem a47 : tagg Tryz.prog 47 = some false := by kernel_rfl
@[simp] theorem o47 : tzero Tryz.prog 47 = some [.slice none 0 0] := by kernel_rfl
@[simp] theorem q47 : tcomp Tryz.prog 47 = false := by kernel_rfl
@[simp] theorem e47 : telem Tryz.prog 47 = some (8, 128) := by kernel_rfl
@[simp] theorem w47 : tezero Tryz.prog 47 = some [.string (ofL []), .int .i64 0, .string (ofL []), .int .i64 0, .string (ofL []), .string (ofL []), .slice none 0 0, .slice none 0 0] := by kernel_rfl
@[simp] theorem y47 : tbyte Tryz.prog 47 = false := by kernel_rfl
@[simp] theorem z48 : tsz Tryz.prog 48 = some 5 := by kernel_rfl
@[simp] theorem c48 : tcode Tryz.prog 48 = 8 := by kernel_rfl
@[simp] theorem i48 : tint Tryz.prog 48 = none := by kernel_rfl
@[simp] theorem a48 : tagg Tryz.prog 48 = some true := by kernel_rfl
@[simp] theorem o48 : tzero Tryz.prog 48 = some [.string (ofL []), .int .i64 0, .string (ofL []), .slice none 0 0, .slice none 0 0] := by kernel_rfl
@[simp] theorem q48 : tcomp Tryz.prog 48 = false := by kernel_rfl
@[simp] theorem y48 : tbyte Tryz.prog 48 = false := by kernel_rfl
@[simp] theorem f48_0 : tfld Tryz.prog 48 0 = some (0, false, 1) := by kernel_rfl
@[simp] theorem f48_1 : tfld Tryz.prog 48 1 = some (1, false, 1) := by kernel_rfl
@[simp] theorem f48_2 : tfld Tryz.prog 48 2 = some (2, false, 1) := by kernel_rfl
@[simp] theorem f48_3 : tfld Tryz.prog 48 3 = some (3, false, 1) := by kernel_rfl
@[simp] theorem f48_4 : tfld Tryz.prog 48 4 = some (4, false, 1) := by kernel_rfl
@[simp] theorem p48 : tplaces Tryz.prog 48 = some [(0, 1), (1, 1), (2, 1), (3, 1), (4, 1)] := by kernel_rfl
@[simp] theorem z49 : tsz Tryz.prog 49 = some 5 := by kernel_rfl
@[simp] theorem c49 : tcode Tryz.prog 49 = 8 := by kernel_rfl
@[simp] theorem i49 : tint Tryz.prog 49 = none := by kernel_rfl
@[simp] theorem a49 : tagg Tryz.prog 49 = some true := by kernel_rfl
@[simp] theorem o49 : tzero Tryz.prog 49 = some [.string (ofL []), .int .i64 0, .string (ofL []), .slice none 0 0, .slice none 0 0] := by kernel_rfl
@[simp] theorem q49 : tcomp Tryz.prog 49 = false := by kernel_rfl
@[simp] theorem y49 : tbyte Tryz.prog 49 = false := by kernel_rfl
@[simp] theorem f49_0 : tfld Tryz.prog 49 0 = some (0, false, 1) := by kernel_rfl
@[simp] theorem f49_1 : tfld Tryz.prog 49 1 = some (1, false, 1) := by kernel_rfl
@[simp] theorem f49_2 : tfld Tryz.prog 49 2 = some (2, false, 1) := by kernel_rfl
@[simp] theorem f49_3 : tfld Tryz.prog 49 3 = some (3, false, 1) := by kernel_rfl
@[simp] theorem f49_4 : tfld Tryz.prog 49 4 = some (4, false, 1) := by kernel_rfl
@[simp] theorem p49 : tplaces Tryz.prog 49 = some [(0, 1), (1, 1), (2, 1), (3, 1), (4, 1)] := by kernel_rfl
@[simp] theorem z50 : tsz Tryz.prog 50 = some 1 := by kernel_rfl
@[simp] theorem c50 : tcode Tryz.prog 50 = 5 := by kernel_rfl
@[simp] theorem i50 : tint Tryz.prog 50 = none := by kernel_rfl
@[simp] theorem a50 : tagg Tryz.prog 50 = some false := by kernel_rfl
@[simp] theorem o50 : tzero Tryz.prog 50 = some [.slice none 0 0] := by kernel_rfl
@[simp] theorem q50 : tcomp Tryz.prog 50 = false := by kernel_rfl
@[simp] theorem e50 : telem Tryz.prog 50 = some (5, 88) := by kernel_rfl
@[simp] theorem w50 : tezero Tryz.prog 50 = some [.string (ofL []), .int .i64 0, .string (ofL []), .slice none 0 0, .slice none 0 0] := by kernel_rfl
@[simp] theorem y50 : tbyte Tryz.prog 50 = false := by kernel_rfl
@[simp] theorem z52 : tsz Tryz.prog 52 = some 1 := by kernel_rfl
@[simp] theorem c52 : tcode Tryz.prog 52 = 5 := by kernel_rfl
@[simp] theorem i52 : tint Tryz.prog 52 = none := by kernel_rfl
@[simp] theorem a52 : tagg Tryz.prog 52 = some false := by kernel_rfl
@[simp] theorem o52 : tzero Tryz.prog 52 = some [.slice none 0 0] := by kernel_rfl
@[simp] theorem q52 : tcomp Tryz.prog 52 = false := by kernel_rfl
@[simp] theorem e52 : telem Tryz.prog 52 = some (3, 32) := by kernel_rfl
@[simp] theorem w52 : tezero Tryz.prog 52 = some [.int .i64 0, .int .i64 0, .string (ofL [])] := by kernel_rfl
@[simp] theorem y52 : tbyte Tryz.prog 52 = false := by kernel_rfl
@[simp] theorem z55 : tsz Tryz.prog 55 = some 1 := by kernel_rfl
@[simp] theorem c55 : tcode Tryz.prog 55 = 4 := by kernel_rfl
@[simp] theorem i55 : tint Tryz.prog 55 = none := by kernel_rfl
@[simp] theorem a55 : tagg Tryz.prog 55 = some false := by kernel_rfl
@[simp] theorem o55 : tzero Tryz.prog 55 = some [.pointer none] := by kernel_rfl
@[simp] theorem q55 : tcomp Tryz.prog 55 = true := by kernel_rfl
@[simp] theorem y55 : tbyte Tryz.prog 55 = false := by kernel_rfl
@[simp] theorem z56 : tsz Tryz.prog 56 = some 3 := by kernel_rfl
@[simp] theorem c56 : tcode Tryz.prog 56 = 8 := by kernel_rfl
@[simp] theorem i56 : tint Tryz.prog 56 = none := by kernel_rfl
@[simp] theorem a56 : tagg Tryz.prog 56 = some true := by kernel_rfl
@[simp] theorem o56 : tzero Tryz.prog 56 = some [.slice none 0 0, .int .i64 0, .nilIface] := by kernel_rfl
@[simp] theorem q56 : tcomp Tryz.prog 56 = false := by kernel_rfl
@[simp] theorem y56 : tbyte Tryz.prog 56 = false := by kernel_rfl
@[simp] theorem f56_0 : tfld Tryz.prog 56 0 = some (0, false, 1) := by kernel_rfl
@[simp] theorem f56_1 : tfld Tryz.prog 56 1 = some (1, false, 1) := by kernel_rfl
@[simp] theorem f56_2 : tfld Tryz.prog 56 2 = some (2, false, 1) := by kernel_rfl
@[simp] theorem p56 : tplaces Tryz.prog 56 = some [(0, 1), (1, 1), (2, 1)] := by kernel_rfl
@[simp] theorem z57 : tsz Tryz.prog 57 = some 3 := by kernel_rfl
@[simp] theorem c57 : tcode Tryz.prog 57 = 8 := by kernel_rfl
@[simp] theorem i57 : tint Tryz.prog 57 = none := by kernel_rfl
@[simp] theorem a57 : tagg Tryz.prog 57 = some true := by kernel_rfl
@[simp] theorem o57 : tzero Tryz.prog 57 = some [.slice none 0 0, .int .i64 0, .nilIface] := by kernel_rfl
@[simp] theorem q57 : tcomp Tryz.prog 57 = false := by kernel_rfl
@[simp] theorem y57 : tbyte Tryz.prog 57 = false := by kernel_rfl
@[simp] theorem f57_0 : tfld Tryz.prog 57 0 = some (0, false, 1) := by kernel_rfl
@[simp] theorem f57_1 : tfld Tryz.prog 57 1 = some (1, false, 1) := by kernel_rfl
@[simp] theorem f57_2 : tfld Tryz.prog 57 2 = some (2, false, 1) := by kernel_rfl
@[simp] theorem p57 : tplaces Tryz.prog 57 = some [(0, 1), (1, 1), (2, 1)] := by kernel_rfl
@[simp] theorem z58 : tsz Tryz.prog 58 = some 1 := by kernel_rfl
@[simp] theorem c58 : tcode Tryz.prog 58 = 7 := by kernel_rfl
@[simp] theorem i58 : tint Tryz.prog 58 = none := by kernel_rfl
@[simp] theorem a58 : tagg Tryz.prog 58 = some false := by kernel_rfl
@[simp] theorem o58 : tzero Tryz.prog 58 = some [.nilFunc] := by kernel_rfl
@[simp] theorem q58 : tcomp Tryz.prog 58 = false := by kernel_rfl
@[simp] theorem y58 : tbyte Tryz.prog 58 = false := by kernel_rfl
@[simp] theorem z59 : tsz Tryz.prog 59 = some 4 := by kernel_rfl
@[simp] theorem c59 : tcode Tryz.prog 59 = 8 := by kernel_rfl
@[simp] theorem i59 : tint Tryz.prog 59 = none := by kernel_rfl
@[simp] theorem a59 : tagg Tryz.prog 59 = some true := by kernel_rfl
@[simp] theorem o59 : tzero Tryz.prog 59 = some [.string (ofL []), .int .i64 0, .string (ofL []), .string (ofL [])] := by kernel_rfl
@[simp] theorem s59 : tsfl Tryz.prog 59 = some [(0, 9, false, 1), (1, 3, false, 1), (2, 9, false, 1), (3, 9, false, 1)] := by kernel_rfl
@[simp] theorem q59 : tcomp Tryz.prog 59 = true := by kernel_rfl
@[simp] theorem y59 : tbyte Tryz.prog 59 = false := by kernel_rfl
@[simp] theorem f59_0 : tfld Tryz.prog 59 0 = some (0, false, 1) := by kernel_rfl
@[simp] theorem f59_1 : tfld Tryz.prog 59 1 = some (1, false, 1) := by kernel_rfl
@[simp] theorem f59_2 : tfld Tryz.prog 59 2 = some (2, false, 1) := by kernel_rfl
@[simp] theorem f59_3 : tfld Tryz.prog 59 3 = some (3, false, 1) := by kernel_rfl
@[simp] theorem p59 : tplaces Tryz.prog 59 = some [(0, 1), (1, 1), (2, 1), (3, 1)] := by kernel_rfl
@[simp] theorem z60 : tsz Tryz.prog 60 = some 4 := by kernel_rfl
@[simp] theorem c60 : tcode Tryz.prog 60 = 8 := by kernel_rfl
@[simp] theorem i60 : tint Tryz.prog 60 = none := by kernel_rfl
@[simp] theorem a60 : tagg Tryz.prog 60 = some true := by kernel_rfl
@[simp] theorem o60 : tzero Tryz.prog 60 = some [.string (ofL []), .int .i64 0, .string (ofL []), .string (ofL [])] := by kernel_rfl
@[simp] theorem s60 : tsfl Tryz.prog 60 = some [(0, 9, false, 1), (1, 3, false, 1), (2, 9, false, 1), (3, 9, false, 1)] := by kernel_rfl
@[simp] theorem q60 : tcomp Tryz.prog 60 = true := by kernel_rfl
@[simp] theorem y60 : tbyte Tryz.prog 60 = false := by kernel_rfl
@[simp] theorem f60_0 : tfld Tryz.prog 60 0 = some (0, false, 1) := by kernel_rfl
@[simp] theorem f60_1 : tfld Tryz.prog 60 1 = some (1, false, 1) := by kernel_rfl
@[simp] theorem f60_2 : tfld Tryz.prog 60 2 = some (2, false, 1) := by kernel_rfl
@[simp] theorem f60_3 : tfld Tryz.prog 60 3 = some (3, false, 1) := by kernel_rfl
@[simp] theorem p60 : tplaces Tryz.prog 60 = some [(0, 1), (1, 1), (2, 1), (3, 1)] := by kernel_rfl
@[simp] theorem z61 : tsz Tryz.prog 61 = some 1 := by kernel_rfl
@[simp] theorem c61 : tcode Tryz.prog 61 = 7 := by kernel_rfl
@[simp] theorem i61 : tint Tryz.prog 61 = none := by kernel_rfl
@[simp] theorem a61 : tagg Tryz.prog 61 = some false := by kernel_rfl
@[simp] theorem o61 : tzero Tryz.prog 61 = some [.nilFunc] := by kernel_rfl
@[simp] theorem q61 : tcomp Tryz.prog 61 = false := by kernel_rfl
@[simp] theorem y61 : tbyte Tryz.prog 61 = false := by kernel_rfl
@[simp] theorem z62 : tsz Tryz.prog 62 = some 10 := by kernel_rfl
@[simp] theorem c62 : tcode Tryz.prog 62 = 8 := by kernel_rfl
@[simp] theorem i62 : tint Tryz.prog 62 = none := by kernel_rfl
@[simp] theorem a62 : tagg Tryz.prog 62 = some true := by kernel_rfl
@[simp] theorem o62 : tzero Tryz.prog 62 = some [.int .i64 0, .string (ofL []), .string (ofL []), .int .i64 0, .string (ofL []), .int .i64 0, .string (ofL []), .string (ofL []), .slice none 0 0, .slice none 0 0] := by kernel_rfl
@[simp] theorem q62 : tcomp Tryz.prog 62 = false := by kernel_rfl
@[simp] theorem y62 : tbyte Tryz.prog 62 = false := by kernel_rfl
@[simp] theorem f62_0 : tfld Tryz.prog 62 0 = some (0, false, 1) := by kernel_rfl
@[simp] theorem f62_1 : tfld Tryz.prog 62 1 = some (1, false, 1) := by kernel_rfl
@[simp] theorem f62_2 : tfld Tryz.prog 62 2 = some (2, false, 1) := by kernel_rfl
@[simp] theorem f62_3 : tfld Tryz.prog 62 3 = some (3, true, 7) := by kernel_rfl
@[simp] theorem p62 : tplaces Tryz.prog 62 = some [(0, 1), (1, 1), (2, 1), (3, 7)] := by kernel_rfl
@[simp] theorem z63 : tsz Tryz.prog 63 = some 10 := by kernel_rfl
@[simp] theorem c63 : tcode Tryz.prog 63 = 8 := by kernel_rfl
@[simp] theorem i63 : tint Tryz.prog 63 = none := by kernel_rfl
@[simp] theorem a63 : tagg Tryz.prog 63 = some true := by kernel_rfl
@[simp] theorem o63 : tzero Tryz.prog 63 = some [.int .i64 0, .string (ofL []), .string (ofL []), .int .i64 0, .string (ofL []), .int .i64 0, .string (ofL []), .string (ofL []), .slice none 0 0, .slice none 0 0] := by kernel_rfl
@[simp] theorem q63 : tcomp Tryz.prog 63 = false := by kernel_rfl
@[simp] theorem y63 : tbyte Tryz.prog 63 = false := by kernel_rfl
@[simp] theorem f63_0 : tfld Tryz.prog 63 0 = some (0, false, 1) := by kernel_rfl
@[simp] theorem f63_1 : tfld Tryz.prog 63 1 = some (1, false, 1) := by kernel_rfl
@[simp] theorem f63_2 : tfld Tryz.prog 63 2 = some (2, false, 1) := by kernel_rfl
@[simp] theorem f63_3 : tfld Tryz.prog 63 3 = some (3, true, 7) := by kernel_rfl
@[simp] theorem p63 : tplaces Tryz.prog 63 = some [(0, 1), (1, 1), (2, 1), (3, 7)] := by kernel_rfl
@[simp] theorem z65 : tsz Tryz.prog 65 = some 1 := by kernel_rfl
@[simp] theorem c65 : tcode Tryz.prog 65 = 7 := by kernel_rfl
@[simp] theorem i65 : tint Tryz.prog 65 = none := by kernel_rfl
@[simp] theorem a65 : tagg Tryz.prog 65 = some false := by kernel_rfl
@[simp] theorem o65 : tzero Tryz.prog 65 = some [.nilFunc] := by kernel_rfl
@[simp] theorem q65 : tcomp Tryz.prog 65 = false := by kernel_rfl
@[simp] theorem y65 : tbyte Tryz.prog 65 = false := by kernel_rfl
@[simp] theorem z68 : tsz Tryz.prog 68 = some 1 := by kernel_rfl
@[simp] theorem c68 : tcode Tryz.prog 68 = 4 := by kernel_rfl
@[simp] theorem i68 : tint Tryz.prog 68 = none := by kernel_rfl
@[simp] theorem a68 : tagg Tryz.prog 68 = some false := by kernel_rfl
@[simp] theorem o68 : tzero Tryz.prog 68 = some [.pointer none] := by kernel_rfl
@[simp] theorem q68 : tcomp Tryz.prog 68 = true := by kernel_rfl
@[simp] theorem y68 : tbyte Tryz.prog 68 = false := by kernel_rfl
@[simp] theorem z69 : tsz Tryz.prog 69 = some 3 := by kernel_rfl
@[simp] theorem c69 : tcode Tryz.prog 69 = 8 := by kernel_rfl
@[simp] theorem i69 : tint Tryz.prog 69 = none := by kernel_rfl
@[simp] theorem a69 : tagg Tryz.prog 69 = some true := by kernel_rfl
@[simp] theorem o69 : tzero Tryz.prog 69 = some [.slice none 0 0, .int .i64 0, .int .i64 0] := by kernel_rfl
@[simp] theorem q69 : tcomp Tryz.prog 69 = false := by kernel_rfl
@[simp] theorem y69 : tbyte Tryz.prog 69 = false := by kernel_rfl
@[simp] theorem f69_0 : tfld Tryz.prog 69 0 = some (0, false, 1) := by kernel_rfl
@[simp] theorem f69_1 : tfld Tryz.prog 69 1 = some (1, false, 1) := by kernel_rfl
@[simp] theorem f69_2 : tfld Tryz.prog 69 2 = some (2, false, 1) := by kernel_rfl
@[simp] theorem p69 : tplaces Tryz.prog 69 = some [(0, 1), (1, 1), (2, 1)] := by kernel_rfl
@[simp] theorem z70 : tsz Tryz.prog 70 = some 3 := by kernel_rfl
@[simp] theorem c70 : tcode Tryz.prog 70 = 8 := by kernel_rfl
@[simp] theorem i70 : tint Tryz.prog 70 = none := by kernel_rfl
@[simp] theorem a70 : tagg Tryz.prog 70 = some true := by kernel_rfl
@[simp] theorem o70 : tzero Tryz.prog 70 = some [.slice none 0 0, .int .i64 0, .int .i64 0] := by kernel_rfl
@[simp] theorem q70 : tcomp Tryz.prog 70 = false := by kernel_rfl
@[simp] theorem y70 : tbyte Tryz.prog 70 = false := by kernel_rfl
@[simp] theorem f70_0 : tfld Tryz.prog 70 0 = some (0, false, 1) := by kernel_rfl
@[simp] theorem f70_1 : tfld Tryz.prog 70 1 = some (1, false, 1) := by kernel_rfl
@[simp] theorem f70_2 : tfld Tryz.prog 70 2 = some (2, false, 1) := by kernel_rfl
@[simp] theorem p70 : tplaces Tryz.prog 70 = some [(0, 1), (1, 1), (2, 1)] := by kernel_rfl
@[simp] theorem z73 : tsz Tryz.prog 73 = some 1 := by kernel_rfl
@[simp] theorem c73 : tcode Tryz.prog 73 = 4 := by kernel_rfl
@[simp] theorem i73 : tint Tryz.prog 73 = none := by kernel_rfl
@[simp] theorem a73 : tagg Tryz.prog 73 = some false := by kernel_rfl
@[simp] theorem o73 : tzero Tryz.prog 73 = some [.pointer none] := by kernel_rfl
@[simp] theorem q73 : tcomp Tryz.prog 73 = true := by kernel_rfl
@[simp] theorem y73 : tbyte Tryz.prog 73 = false := by kernel_rfl
@[simp] theorem z75 : tsz Tryz.prog 75 = some 1 := by kernel_rfl
@[simp] theorem c75 : tcode Tryz.prog 75 = 4 := by kernel_rfl
@[simp] theorem i75 : tint Tryz.prog 75 = none := by kernel_rfl
@[simp] theorem a75 : tagg Tryz.prog 75 = some false := by kernel_rfl
@[simp] theorem o75 : tzero Tryz.prog 75 = some [.pointer none] := by kernel_rfl
@[simp] theorem q75 : tcomp Tryz.prog 75 = true := by kernel_rfl
@[simp] theorem y75 : tbyte Tryz.prog 75 = false := by kernel_rfl
@[simp] theorem z77 : tsz Tryz.prog 77 = some 2 := by kernel_rfl
@[simp] theorem c77 : tcode Tryz.prog 77 = 8 := by kernel_rfl
@[simp] theorem i77 : tint Tryz.prog 77 = none := by kernel_rfl
@[simp] theorem a77 : tagg Tryz.prog 77 = some true := by kernel_rfl
@[simp] theorem o77 : tzero Tryz.prog 77 = some [.int .i64 0, .nilIface] := by kernel_rfl
@[simp] theorem q77 : tcomp Tryz.prog 77 = true := by kernel_rfl
@[simp] theorem y77 : tbyte Tryz.prog 77 = false := by kernel_rfl
@[simp] theorem f77_0 : tfld Tryz.prog 77 0 = some (0, false, 1) := by kernel_rfl
@[simp] theorem f77_1 : tfld Tryz.prog 77 1 = some (1, false, 1) := by kernel_rfl
@[simp] theorem p77 : tplaces Tryz.prog 77 = some [(0, 1), (1, 1)] := by kernel_rfl
@[simp] theorem z78 : tsz Tryz.prog 78 = some 2 := by kernel_rfl
@[simp] theorem c78 : tcode Tryz.prog 78 = 8 := by kernel_rfl
@[simp] theorem i78 : tint Tryz.prog 78 = none := by kernel_rfl
@[simp] theorem a78 : tagg Tryz.prog 78 = some true := by kernel_rfl
@[simp] theorem o78 : tzero Tryz.prog 78 = some [.int .i64 0, .nilIface] := by kernel_rfl
@[simp] theorem q78 : tcomp Tryz.prog 78 = true := by kernel_rfl
@[simp] theorem y78 : tbyte Tryz.prog 78 = false := by kernel_rfl
@[simp] theorem f78_0 : tfld Tryz.prog 78 0 = some (0, false, 1) := by kernel_rfl
@[simp] theorem f78_1 : tfld Tryz.prog 78 1 = some (1, false, 1) := by kernel_rfl
@[simp] theorem p78 : tplaces Tryz.prog 78 = some [(0, 1), (1, 1)] := by kernel_rfl
@[simp] theorem z79 : tsz Tryz.prog 79 = some 1 := by kernel_rfl
@[simp] theorem c79 : tcode Tryz.prog 79 = 7 := by kernel_rfl
@[simp] theorem i79 : tint Tryz.prog 79 = none := by kernel_rfl
@[simp] theorem a79 : tagg Tryz.prog 79 = some false := by kernel_rfl
@[simp] theorem o79 : tzero Tryz.prog 79 = some [.nilFunc] := by kernel_rfl
@[simp] theorem q79 : tcomp Tryz.prog 79 = false := by kernel_rfl
@[simp] theorem y79 : tbyte Tryz.prog 79 = false := by kernel_rfl
@[simp] theorem z80 : tsz Tryz.prog 80 = some 1 := by kernel_rfl
@[simp] theorem c80 : tcode Tryz.prog 80 = 4 := by kernel_rfl
@[simp] theorem i80 : tint Tryz.prog 80 = none := by kernel_rfl
@[simp] theorem a80 : tagg Tryz.prog 80 = some false := by kernel_rfl
@[simp] theorem o80 : tzero Tryz.prog 80 = some [.pointer none] := by kernel_rfl
@[simp] theorem q80 : tcomp Tryz.prog 80 = true := by kernel_rfl
@[simp] theorem y80 : tbyte Tryz.prog 80 = false := by kernel_rfl
@[simp] theorem z81 : tsz Tryz.prog 81 = some 1 := by kernel_rfl
@[simp] theorem c81 : tcode Tryz.prog 81 = 5 := by kernel_rfl
@[simp] theorem i81 : tint Tryz.prog 81 = none := by kernel_rfl
@[simp] theorem a81 : tagg Tryz.prog 81 = some false := by kernel_rfl
@[simp] theorem o81 : tzero Tryz.prog 81 = some [.slice none 0 0] := by kernel_rfl
@[simp] theorem q81 : tcomp Tryz.prog 81 = false := by kernel_rfl
@[simp] theorem e81 : telem Tryz.prog 81 = some (1, 1) := by kernel_rfl
@[simp] theorem w81 : tezero Tryz.prog 81 = some [.int .u8 0] := by kernel_rfl
@[simp] theorem y81 : tbyte Tryz.prog 81 = true := by kernel_rfl
@[simp] theorem z82 : tsz Tryz.prog 82 = some 2 := by kernel_rfl
@[simp] theorem c82 : tcode Tryz.prog 82 = 8 := by kernel_rfl
@[simp] theorem i82 : tint Tryz.prog 82 = none := by kernel_rfl
@[simp] theorem a82 : tagg Tryz.prog 82 = some true := by kernel_rfl
@[simp] theorem o82 : tzero Tryz.prog 82 = some [.pointer none, .slice none 0 0] := by kernel_rfl
@[simp] theorem q82 : tcomp Tryz.prog 82 = false := by kernel_rfl
@[simp] theorem y82 : tbyte Tryz.prog 82 = false := by kernel_rfl
@[simp] theorem f82_0 : tfld Tryz.prog 82 0 = some (0, false, 1) := by kernel_rfl
@[simp] theorem f82_1 : tfld Tryz.prog 82 1 = some (1, false, 1) := by kernel_rfl
@[simp] theorem p82 : tplaces Tryz.prog 82 = some [(0, 1), (1, 1)] := by kernel_rfl
@[simp] theorem z83 : tsz Tryz.prog 83 = some 2 := by kernel_rfl
@[simp] theorem c83 : tcode Tryz.prog 83 = 8 := by kernel_rfl
@[simp] theorem i83 : tint Tryz.prog 83 = none := by kernel_rfl
@[simp] theorem a83 : tagg Tryz.prog 83 = some true := by kernel_rfl
@[simp] theorem o83 : tzero Tryz.prog 83 = some [.pointer none, .slice none 0 0] := by kernel_rfl
@[simp] theorem q83 : tcomp Tryz.prog 83 = false := by kernel_rfl
@[simp] theorem y83 : tbyte Tryz.prog 83 = false := by kernel_rfl
@[simp] theorem f83_0 : tfld Tryz.prog 83 0 = some (0, false, 1) := by kernel_rfl
@[simp] theorem f83_1 : tfld Tryz.prog 83 1 = some (1, false, 1) := by kernel_rfl
@[simp] theorem p83 : tplaces Tryz.prog 83 = some [(0, 1), (1, 1)] := by kernel_rfl
@[simp] theorem z89 : tsz Tryz.prog 89 = some 1 := by kernel_rfl
@[simp] theorem c89 : tcode Tryz.prog 89 = 7 := by kernel_rfl
@[simp] theorem i89 : tint Tryz.prog 89 = none := by kernel_rfl
@[simp] theorem a89 : tagg Tryz.prog 89 = some false := by kernel_rfl
@[simp] theorem o89 : tzero Tryz.prog 89 = some [.nilFunc] := by kernel_rfl
@[simp] theorem q89 : tcomp Tryz.prog 89 = false := by kernel_rfl
@[simp] theorem y89 : tbyte Tryz.prog 89 = false := by kernel_rfl
@[simp] theorem z90 : tsz Tryz.prog 90 = some 1 := by kernel_rfl
@[simp] theorem c90 : tcode Tryz.prog 90 = 7 := by kernel_rfl
@[simp] theorem i90 : tint Tryz.prog 90 = none := by kernel_rfl
@[simp] theorem a90 : tagg Tryz.prog 90 = some false := by kernel_rfl
@[simp] theorem o90 : tzero Tryz.prog 90 = some [.nilFunc] := by kernel_rfl
@[simp] theorem q90 : tcomp Tryz.prog 90 = false := by kernel_rfl
@[simp] theorem y90 : tbyte Tryz.prog 90 = false := by kernel_rfl
@[simp] theorem z91 : tsz Tryz.prog 91 = some 1 := by kernel_rfl
@[simp] theorem c91 : tcode Tryz.prog 91 = 7 := by kernel_rfl
@[simp] theorem i91 : tint Tryz.prog 91 = none := by kernel_rfl
@[simp] theorem a91 : tagg Tryz.prog 91 = some false := by kernel_rfl
@[simp] theorem o91 : tzero Tryz.prog 91 = some [.nilFunc] := by kernel_rfl
@[simp] theorem q91 : tcomp Tryz.prog 91 = false := by kernel_rfl
@[simp] theorem y91 : tbyte Tryz.prog 91 = false := by kernel_rfl
@[simp] theorem z93 : tsz Tryz.prog 93 = some 1 := by kernel_rfl
@[simp] theorem c93 : tcode Tryz.prog 93 = 7 := by kernel_rfl
@[simp] theorem i93 : tint Tryz.prog 93 = none := by kernel_rfl
@[simp] theorem a93 : tagg Tryz.prog 93 = some false := by kernel_rfl
@[simp] theorem o93 : tzero Tryz.prog 93 = some [.nilFunc] := by kernel_rfl
@[simp] theorem q93 : tcomp Tryz.prog 93 = false := by kernel_rfl
@[simp] theorem y93 : tbyte Tryz.prog 93 = false := by kernel_rfl
@[simp] theorem z95 : tsz Tryz.prog 95 = some 1 := by kernel_rfl
@[simp] theorem c95 : tcode Tryz.prog 95 = 7 := by kernel_rfl
@[simp] theorem i95 : tint Tryz.prog 95 = none := by kernel_rfl
@[simp] theorem a95 : tagg Tryz.prog 95 = some false := by kernel_rfl
@[simp] theorem o95 : tzero Tryz.prog 95 = some [.nilFunc] := by kernel_rfl
@[simp] theorem q95 : tcomp Tryz.prog 95 = false := by kernel_rfl
@[simp] theorem y95 : tbyte Tryz.prog 95 = false := by kernel_rfl
@[simp] theorem z97 : tsz Tryz.prog 97 = some 1 := by kernel_rfl
@[simp] theorem c97 : tcode Tryz.prog 97 = 10 := by kernel_rfl
@[simp] theorem i97 : tint Tryz.prog 97 = none := by kernel_rfl
@[simp] theorem q97 : tcomp Tryz.prog 97 = false := by kernel_rfl
@[simp] theorem y97 : tbyte Tryz.prog 97 = false := by kernel_rfl
@[simp] theorem z99 : tsz Tryz.prog 99 = some 3 := by kernel_rfl
@[simp] theorem c99 : tcode Tryz.prog 99 = 8 := by kernel_rfl
@[simp] theorem i99 : tint Tryz.prog 99 = none := by kernel_rfl
@[simp] theorem a99 : tagg Tryz.prog 99 = some true := by kernel_rfl
@[simp] theorem o99 : tzero Tryz.prog 99 = some [.int .i64 0, .int .i64 0, .string (ofL [])] := by kernel_rfl
@[simp] theorem s99 : tsfl Tryz.prog 99 = some [(0, 3, false, 1), (1, 3, false, 1), (2, 9, false, 1)] := by kernel_rfl
@[simp] theorem q99 : tcomp Tryz.prog 99 = true := by kernel_rfl
@[simp] theorem y99 : tbyte Tryz.prog 99 = false := by kernel_rfl
@[simp] theorem f99_0 : tfld Tryz.prog 99 0 = some (0, false, 1) := by kernel_rfl
@[simp] theorem f99_1 : tfld Tryz.prog 99 1 = some (1, false, 1) := by kernel_rfl
@[simp] theorem f99_2 : tfld Tryz.prog 99 2 = some (2, false, 1) := by kernel_rfl
@[simp] theorem p99 : tplaces Tryz.prog 99 = some [(0, 1), (1, 1), (2, 1)] := by kernel_rfl
@[simp] theorem z100 : tsz Tryz.prog 100 = some 3 := by kernel_rfl
@[simp] theorem c100 : tcode Tryz.prog 100 = 8 := by kernel_rfl
@[simp] theorem i100 : tint Tryz.prog 100 = none := by kernel_rfl
@[simp] theorem a100 : tagg Tryz.prog 100 = some true := by kernel_rfl
@[simp] theorem o100 : tzero Tryz.prog 100 = some [.int .i64 0, .int .i64 0, .string (ofL [])] := by kernel_rfl
@[simp] theorem s100 : tsfl Tryz.prog 100 = some [(0, 3, false, 1), (1, 3, false, 1), (2, 9, false, 1)] := by kernel_rfl
@[simp] theorem q100 : tcomp Tryz.prog 100 = true := by kernel_rfl
@[simp] theorem y100 : tbyte Tryz.prog 100 = false := by kernel_rfl
@[simp] theorem f100_0 : tfld Tryz.prog 100 0 = some (0, false, 1) := by kernel_rfl
@[simp] theorem f100_1 : tfld Tryz.prog 100 1 = some (1, false, 1) := by kernel_rfl
@[simp] theorem f100_2 : tfld Tryz.prog 100 2 = some (2, false, 1) := by kernel_rfl
@[simp] theorem p100 : tplaces Tryz.prog 100 = some [(0, 1), (1, 1), (2, 1)] := by kernel_rfl
@[simp] theorem z101 : tsz Tryz.prog 101 = some 1 := by kernel_rfl
@[simp] theorem c101 : tcode Tryz.prog 101 = 7 := by kernel_rfl
@[simp] theorem i101 : tint Tryz.prog 101 = none := by kernel_rfl
@[simp] theorem a101 : tagg Tryz.prog 101 = some false := by kernel_rfl
@[simp] theorem o101 : tzero Tryz.prog 101 = some [.nilFunc] := by kernel_rfl
@[simp] theorem q101 : tcomp Tryz.prog 101 = false := by kernel_rfl
@[simp] theorem y101 : tbyte Tryz.prog 101 = false := by kernel_rfl
@[simp] theorem z102 : tsz Tryz.prog 102 = some 1 := by kernel_rfl
@[simp] theorem c102 : tcode Tryz.prog 102 = 7 := by kernel_rfl
@[simp] theorem i102 : tint Tryz.prog 102 = none := by kernel_rfl
@[simp] theorem a102 : tagg Tryz.prog 102 = some false := by kernel_rfl
@[simp] theorem o102 : tzero Tryz.prog 102 = some [.nilFunc] := by kernel_rfl
@[simp] theorem q102 : tcomp Tryz.prog 102 = false := by kernel_rfl
@[simp] theorem y102 : tbyte Tryz.prog 102 = false := by kernel_rfl
@[simp] theorem z105 : tsz Tryz.prog 105 = some 1 := by kernel_rfl
@[simp] theorem c105 : tcode Tryz.prog 105 = 7 := by kernel_rfl
@[simp] theorem i105 : tint Tryz.prog 105 = none := by kernel_rfl
@[simp] theorem a105 : tagg Tryz.prog 105 = some false := by kernel_rfl
@[simp] theorem o105 : tzero Tryz.prog 105 = some [.nilFunc] := by kernel_rfl
@[simp] theorem q105 : tcomp Tryz.prog 105 = false := by kernel_rfl
@[simp] theorem y105 : tbyte Tryz.prog 105 = false := by kernel_rfl
@[simp] theorem z109 : tsz Tryz.prog 109 = some 1 := by kernel_rfl
@[simp] theorem c109 : tcode Tryz.prog 109 = 10 := by kernel_rfl
@[simp] theorem i109 : tint Tryz.prog 109 = none := by kernel_rfl
@[simp] theorem o109 : tzero Tryz.prog 109 = some [.pointer none] := by kernel_rfl
@[simp] theorem q109 : tcomp Tryz.prog 109 = true := by kernel_rfl
@[simp] theorem y109 : tbyte Tryz.prog 109 = false := by kernel_rfl
@[simp] theorem z110 : tsz Tryz.prog 110 = some 1 := by kernel_rfl
@[simp] theorem c110 : tcode Tryz.prog 110 = 2 := by kernel_rfl
@[simp] theorem i110 : tint Tryz.prog 110 = some .u64 := by kernel_rfl
@[simp] theorem a110 : tagg Tryz.prog 110 = some false := by kernel_rfl
@[simp] theorem o110 : tzero Tryz.prog 110 = some [.int .u64 0] := by kernel_rfl
@[simp] theorem q110 : tcomp Tryz.prog 110 = true := by kernel_rfl
@[simp] theorem y110 : tbyte Tryz.prog 110 = false := by kernel_rfl
@[simp] theorem z111 : tsz Tryz.prog 111 = some 3 := by kernel_rfl
@[simp] theorem c111 : tcode Tryz.prog 111 = 8 := by kernel_rfl
@[simp] theorem i111 : tint Tryz.prog 111 = none := by kernel_rfl
@[simp] theorem a111 : tagg Tryz.prog 111 = some true := by kernel_rfl
@[simp] theorem o111 : tzero Tryz.prog 111 = some [.pointer none, .pointer none, .int .u64 0] := by kernel_rfl
@[simp] theorem q111 : tcomp Tryz.prog 111 = true := by kernel_rfl
@[simp] theorem y111 : tbyte Tryz.prog 111 = false := by kernel_rfl
@[simp] theorem f111_0 : tfld Tryz.prog 111 0 = some (0, false, 1) := by kernel_rfl
@[simp] theorem f111_1 : tfld Tryz.prog 111 1 = some (1, false, 1) := by kernel_rfl
@[simp] theorem f111_2 : tfld Tryz.prog 111 2 = some (2, false, 1) := by kernel_rfl
@[simp] theorem p111 : tplaces Tryz.prog 111 = some [(0, 1), (1, 1), (2, 1)] := by kernel_rfl
@[simp] theorem z112 : tsz Tryz.prog 112 = some 3 := by kernel_rfl
@[simp] theorem c112 : tcode Tryz.prog 112 = 8 := by kernel_rfl
@[simp] theorem i112 : tint Tryz.prog 112 = none := by kernel_rfl
@[simp] theorem a112 : tagg Tryz.prog 112 = some true := by kernel_rfl
@[simp] theorem o112 : tzero Tryz.prog 112 = some [.pointer none, .pointer none, .int .u64 0] := by kernel_rfl
@[simp] theorem q112 : tcomp Tryz.prog 112 = true := by kernel_rfl
@[simp] theorem y112 : tbyte Tryz.prog 112 = false := by kernel_rfl
@[simp] theorem f112_0 : tfld Tryz.prog 112 0 = some (0, false, 1) := by kernel_rfl
@[simp] theorem f112_1 : tfld Tryz.prog 112 1 = some (1, false, 1) := by kernel_rfl
@[simp] theorem f112_2 : tfld Tryz.prog 112 2 = some (2, false, 1) := by kernel_rfl
@[simp] theorem p112 : tplaces Tryz.prog 112 = some [(0, 1), (1, 1), (2, 1)] := by kernel_rfl
@[simp] theorem z114 : tsz Tryz.prog 114 = some 1 := by kernel_rfl
@[simp] theorem c114 : tcode Tryz.prog 114 = 6 := by kernel_rfl
@[simp] theorem i114 : tint Tryz.prog 114 = none := by kernel_rfl
@[simp] theorem a114 : tagg Tryz.prog 114 = some false := by kernel_rfl
@[simp] theorem o114 : tzero Tryz.prog 114 = some [.nilIface] := by kernel_rfl
@[simp] theorem q114 : tcomp Tryz.prog 114 = true := by kernel_rfl
@[simp] theorem y114 : tbyte Tryz.prog 114 = false := by kernel_rfl
@[simp] theorem z115 : tsz Tryz.prog 115 = some 1 := by kernel_rfl
@[simp] theorem c115 : tcode Tryz.prog 115 = 6 := by kernel_rfl
@[simp] theorem i115 : tint Tryz.prog 115 = none := by kernel_rfl
@[simp] theorem a115 : tagg Tryz.prog 115 = some false := by kernel_rfl
@[simp] theorem o115 : tzero Tryz.prog 115 = some [.nilIface] := by kernel_rfl
@[simp] theorem q115 : tcomp Tryz.prog 115 = true := by kernel_rfl
@[simp] theorem y115 : tbyte Tryz.prog 115 = false := by kernel_rfl
@[simp] theorem z116 : tsz Tryz.prog 116 = some 1 := by kernel_rfl
@[simp] theorem c116 : tcode Tryz.prog 116 = 7 := by kernel_rfl
@[simp] theorem i116 : tint Tryz.prog 116 = none := by kernel_rfl
@[simp] theorem a116 : tagg Tryz.prog 116 = some false := by kernel_rfl
@[simp] theorem o116 : tzero Tryz.prog 116 = some [.nilFunc] := by kernel_rfl
@[simp] theorem q116 : tcomp Tryz.prog 116 = false := by kernel_rfl
@[simp] theorem y116 : tbyte Tryz.prog 116 = false := by kernel_rfl
@[simp] theorem z117 : tsz Tryz.prog 117 = some 1 := by kernel_rfl
@[simp] theorem c117 : tcode Tryz.prog 117 = 2 := by kernel_rfl
@[simp] theorem i117 : tint Tryz.prog 117 = some .u8 := by kernel_rfl
@[simp] theorem a117 : tagg Tryz.prog 117 = some false := by kernel_rfl
@[simp] theorem o117 : tzero Tryz.prog 117 = some [.int .u8 0] := by kernel_rfl
@[simp] theorem q117 : tcomp Tryz.prog 117 = true := by kernel_rfl
@[simp] theorem y117 : tbyte Tryz.prog 117 = false := by kernel_rfl
@[simp] theorem z122 : tsz Tryz.prog 122 = some 1 := by kernel_rfl
@[simp] theorem c122 : tcode Tryz.prog 122 = 7 := by kernel_rfl
@[simp] theorem i122 : tint Tryz.prog 122 = none := by kernel_rfl
@[simp] theorem a122 : tagg Tryz.prog 122 = some false := by kernel_rfl
@[simp] theorem o122 : tzero Tryz.prog 122 = some [.nilFunc] := by kernel_rfl
@[simp] theorem q122 : tcomp Tryz.prog 122 = false := by kernel_rfl
@[simp] theorem y122 : tbyte Tryz.prog 122 = false := by kernel_rfl
@[simp] theorem z123 : tsz Tryz.prog 123 = some 1 := by kernel_rfl
@[simp] theorem c123 : tcode Tryz.prog 123 = 7 := by kernel_rfl
@[simp] theorem i123 : tint Tryz.prog 123 = none := by kernel_rfl
@[simp] theorem a123 : tagg Tryz.prog 123 = some false := by kernel_rfl
@[simp] theorem o123 : tzero Tryz.prog 123 = some [.nilFunc] := by kernel_rfl
@[simp] theorem q123 : tcomp Tryz.prog 123 = false := by kernel_rfl
@[simp] theorem y123 : tbyte Tryz.prog 123 = false := by kernel_rfl
@[simp] theorem z124 : tsz Tryz.prog 124 = some 1 := by kernel_rfl
@[simp] theorem c124 : tcode Tryz.prog 124 = 4 := by kernel_rfl
@[simp] theorem i124 : tint Tryz.prog 124 = none := by kernel_rfl
@[simp] theorem a124 : tagg Tryz.prog 124 = some false := by kernel_rfl
@[simp] theorem o124 : tzero Tryz.prog 124 = some [.pointer none] := by kernel_rfl
@[simp] theorem q124 : tcomp Tryz.prog 124 = true := by kernel_rfl
@[simp] theorem y124 : tbyte Tryz.prog 124 = false := by kernel_rfl
@[simp] theorem z125 : tsz Tryz.prog 125 = some 1 := by kernel_rfl
@[simp] theorem c125 : tcode Tryz.prog 125 = 7 := by kernel_rfl
@[simp] theorem i125 : tint Tryz.prog 125 = none := by kernel_rfl
@[simp] theorem a125 : tagg Tryz.prog 125 = some false := by kernel_rfl
@[simp] theorem o125 : tzero Tryz.prog 125 = some [.nilFunc] := by kernel_rfl
@[simp] theorem q125 : tcomp Tryz.prog 125 = false := by kernel_rfl
@[simp] theorem y125 : tbyte Tryz.prog 125 = false := by kernel_rfl
@[simp] theorem z130 : tsz Tryz.prog 130 = some 1 := by kernel_rfl
@[simp] theorem c130 : tcode Tryz.prog 130 = 5 := by kernel_rfl
@[simp] theorem i130 : tint Tryz.prog 130 = none := by kernel_rfl
@[simp] theorem a130 : tagg Tryz.prog 130 = some false := by kernel_rfl
@[simp] theorem o130 : tzero Tryz.prog 130 = some [.slice none 0 0] := by kernel_rfl
@[simp] theorem q130 : tcomp Tryz.prog 130 = false := by kernel_rfl
@[simp] theorem e130 : telem Tryz.prog 130 = some (9, 136) := by kernel_rfl
@[simp] theorem w130 : tezero Tryz.prog 130 = some [.int .i64 0, .string (ofL []), .int .i64 0, .string (ofL []), .int .i64 0, .string (ofL []), .string (ofL []), .slice none 0 0, .slice none 0 0] := by kernel_rfl
@[simp] theorem y130 : tbyte Tryz.prog 130 = false := by kernel_rfl
@[simp] theorem z131 : tsz Tryz.prog 131 = some 3 := by kernel_rfl
@[simp] theorem c131 : tcode Tryz.prog 131 = 8 := by kernel_rfl
@[simp] theorem i131 : tint Tryz.prog 131 = none := by kernel_rfl
@[simp] theorem a131 : tagg Tryz.prog 131 = some true := by kernel_rfl
@[simp] theorem o131 : tzero Tryz.prog 131 = some [.string (ofL []), .slice none 0 0, .slice none 0 0] := by kernel_rfl
@[simp] theorem q131 : tcomp Tryz.prog 131 = false := by kernel_rfl
@[simp] theorem y131 : tbyte Tryz.prog 131 = false := by kernel_rfl
@[simp] theorem f131_0 : tfld Tryz.prog 131 0 = some (0, false, 1) := by kernel_rfl
@[simp] theorem f131_1 : tfld Tryz.prog 131 1 = some (1, false, 1) := by kernel_rfl
@[simp] theorem f131_2 : tfld Tryz.prog 131 2 = some (2, false, 1) := by kernel_rfl
@[simp] theorem p131 : tplaces Tryz.prog 131 = some [(0, 1), (1, 1), (2, 1)] := by kernel_rfl
@[simp] theorem z132 : tsz Tryz.prog 132 = some 3 := by kernel_rfl
@[simp] theorem c132 : tcode Tryz.prog 132 = 8 := by kernel_rfl
@[simp] theorem i132 : tint Tryz.prog 132 = none := by kernel_rfl
@[simp] theorem a132 : tagg Tryz.prog 132 = some true := by kernel_rfl
@[simp] theorem o132 : tzero Tryz.prog 132 = some [.string (ofL []), .slice none 0 0, .slice none 0 0] := by kernel_rfl
@[simp] theorem q132 : tcomp Tryz.prog 132 = false := by kernel_rfl
@[simp] theorem y132 : tbyte Tryz.prog 132 = false := by kernel_rfl
@[simp] theorem f132_0 : tfld Tryz.prog 132 0 = some (0, false, 1) := by kernel_rfl
@[simp] theorem f132_1 : tfld Tryz.prog 132 1 = some (1, false, 1) := by kernel_rfl
@[simp] theorem f132_2 : tfld Tryz.prog 132 2 = some (2, false, 1) := by kernel_rfl
@[simp] theorem p132 : tplaces Tryz.prog 132 = some [(0, 1), (1, 1), (2, 1)] := by kernel_rfl
@[simp] theorem z142 : tsz Tryz.prog 142 = some 1 := by kernel_rfl
@[simp] theorem c142 : tcode Tryz.prog 142 = 2 := by kernel_rfl
@[simp] theorem i142 : tint Tryz.prog 142 = some .u64 := by kernel_rfl
@[simp] theorem a142 : tagg Tryz.prog 142 = some false := by kernel_rfl
@[simp] theorem o142 : tzero Tryz.prog 142 = some [.int .u64 0] := by kernel_rfl
@[simp] theorem q142 : tcomp Tryz.prog 142 = true := by kernel_rfl
@[simp] theorem y142 : tbyte Tryz.prog 142 = false := by kernel_rfl
@[simp] theorem z145 : tsz Tryz.prog 145 = some 1 := by kernel_rfl
@[simp] theorem c145 : tcode Tryz.prog 145 = 4 := by kernel_rfl
@[simp] theorem i145 : tint Tryz.prog 145 = none := by kernel_rfl
@[simp] theorem a145 : tagg Tryz.prog 145 = some false := by kernel_rfl
@[simp] theorem o145 : tzero Tryz.prog 145 = some [.pointer none] := by kernel_rfl
@[simp] theorem q145 : tcomp Tryz.prog 145 = true := by kernel_rfl
@[simp] theorem y145 : tbyte Tryz.prog 145 = false := by kernel_rfl
@[simp] theorem z146 : tsz Tryz.prog 146 = some 4 := by kernel_rfl
@[simp] theorem c146 : tcode Tryz.prog 146 = 8 := by kernel_rfl
@[simp] theorem i146 : tint Tryz.prog 146 = none := by kernel_rfl
@[simp] theorem a146 : tagg Tryz.prog 146 = some true := by kernel_rfl
@[simp] theorem o146 : tzero Tryz.prog 146 = some [.slice none 0 0, .int .i64 0, .int .i64 0, .nilIface] := by kernel_rfl
@[simp] theorem q146 : tcomp Tryz.prog 146 = false := by kernel_rfl
@[simp] theorem y146 : tbyte Tryz.prog 146 = false := by kernel_rfl
@[simp] theorem f146_0 : tfld Tryz.prog 146 0 = some (0, false, 1) := by kernel_rfl
@[simp] theorem f146_1 : tfld Tryz.prog 146 1 = some (1, false, 1) := by kernel_rfl
@[simp] theorem f146_2 : tfld Tryz.prog 146 2 = some (2, false, 1) := by kernel_rfl
@[simp] theorem f146_3 : tfld Tryz.prog 146 3 = some (3, false, 1) := by kernel_rfl
@[simp] theorem p146 : tplaces Tryz.prog 146 = some [(0, 1), (1, 1), (2, 1), (3, 1)] := by kernel_rfl
@[simp] theorem z147 : tsz Tryz.prog 147 = some 4 := by kernel_rfl
@[simp] theorem c147 : tcode Tryz.prog 147 = 8 := by kernel_rfl
@[simp] theorem i147 : tint Tryz.prog 147 = none := by kernel_rfl
@[simp] theorem a147 : tagg Tryz.prog 147 = some true := by kernel_rfl
@[simp] theorem o147 : tzero Tryz.prog 147 = some [.slice none 0 0, .int .i64 0, .int .i64 0, .nilIface] := by kernel_rfl
@[simp] theorem q147 : tcomp Tryz.prog 147 = false := by kernel_rfl
@[simp] theorem y147 : tbyte Tryz.prog 147 = false := by kernel_rfl
@[simp] theorem f147_0 : tfld Tryz.prog 147 0 = some (0, false, 1) := by kernel_rfl
@[simp] theorem f147_1 : tfld Tryz.prog 147 1 = some (1, false, 1) := by kernel_rfl
@[simp] theorem f147_2 : tfld Tryz.prog 147 2 = some (2, false, 1) := by kernel_rfl
@[simp] theorem f147_3 : tfld Tryz.prog 147 3 = some (3, false, 1) := by kernel_rfl
@[simp] theorem p147 : tplaces Tryz.prog 147 = some [(0, 1), (1, 1), (2, 1), (3, 1)] := by kernel_rfl
@[simp] theorem z149 : tsz Tryz.prog 149 = some 1 := by kernel_rfl
@[simp] theorem c149 : tcode Tryz.prog 149 = 4 := by kernel_rfl
@[simp] theorem i149 : tint Tryz.prog 149 = none := by kernel_rfl
@[simp] theorem a149 : tagg Tryz.prog 149 = some false := by kernel_rfl
@[simp] theorem o149 : tzero Tryz.prog 149 = some [.pointer none] := by kernel_rfl
@[simp] theorem q149 : tcomp Tryz.prog 149 = true := by kernel_rfl
@[simp] theorem y149 : tbyte Tryz.prog 149 = false := by kernel_rfl
@[simp] theorem z150 : tsz Tryz.prog 150 = some 4 := by kernel_rfl
@[simp] theorem c150 : tcode Tryz.prog 150 = 8 := by kernel_rfl
@[simp] theorem i150 : tint Tryz.prog 150 = none := by kernel_rfl
@[simp] theorem a150 : tagg Tryz.prog 150 = some true := by kernel_rfl
@[simp] theorem o150 : tzero Tryz.prog 150 = some [.slice none 0 0, .int .i64 0, .int .i64 0, .int .i64 0] := by kernel_rfl
@[simp] theorem q150 : tcomp Tryz.prog 150 = false := by kernel_rfl
@[simp] theorem y150 : tbyte Tryz.prog 150 = false := by kernel_rfl
@[simp] theorem f150_0 : tfld Tryz.prog 150 0 = some (0, false, 1) := by kernel_rfl
@[simp] theorem f150_1 : tfld Tryz.prog 150 1 = some (1, false, 1) := by kernel_rfl
@[simp] theorem f150_2 : tfld Tryz.prog 150 2 = some (2, false, 1) := by kernel_rfl
@[simp] theorem f150_3 : tfld Tryz.prog 150 3 = some (3, false, 1) := by kernel_rfl
@[simp] theorem p150 : tplaces Tryz.prog 150 = some [(0, 1), (1, 1), (2, 1), (3, 1)] := by kernel_rfl
@[simp] theorem z151 : tsz Tryz.prog 151 = some 4 := by kernel_rfl
@[simp] theorem c151 : tcode Tryz.prog 151 = 8 := by kernel_rfl
@[simp] theorem i151 : tint Tryz.prog 151 = none := by kernel_rfl
@[simp] theorem a151 : tagg Tryz.prog 151 = some true := by kernel_rfl
@[simp] theorem o151 : tzero Tryz.prog 151 = some [.slice none 0 0, .int .i64 0, .int .i64 0, .int .i64 0] := by kernel_rfl
@[simp] theorem q151 : tcomp Tryz.prog 151 = false := by kernel_rfl
@[simp] theorem y151 : tbyte Tryz.prog 151 = false := by kernel_rfl
@[simp] theorem f151_0 : tfld Tryz.prog 151 0 = some (0, false, 1) := by kernel_rfl
@[simp] theorem f151_1 : tfld Tryz.prog 151 1 = some (1, false, 1) := by kernel_rfl
@[simp] theorem f151_2 : tfld Tryz.prog 151 2 = some (2, false, 1) := by kernel_rfl
@[simp] theorem f151_3 : tfld Tryz.prog 151 3 = some (3, false, 1) := by kernel_rfl
@[simp] theorem p151 : tplaces Tryz.prog 151 = some [(0, 1), (1, 1), (2, 1), (3, 1)] := by kernel_rfl
@[simp] theorem z172 : tsz Tryz.prog 172 = some 1 := by kernel_rfl
@[simp] theorem c172 : tcode Tryz.prog 172 = 4 := by kernel_rfl
@[simp] theorem i172 : tint Tryz.prog 172 = none := by kernel_rfl
@[simp] theorem a172 : tagg Tryz.prog 172 = some false := by kernel_rfl
@[simp] theorem o172 : tzero Tryz.prog 172 = some [.pointer none] := by kernel_rfl
@[simp] theorem q172 : tcomp Tryz.prog 172 = true := by kernel_rfl
@[simp] theorem y172 : tbyte Tryz.prog 172 = false := by kernel_rfl
@[simp] theorem z173 : tsz Tryz.prog 173 = some 8 := by kernel_rfl
@[simp] theorem c173 : tcode Tryz.prog 173 = 8 := by kernel_rfl
@[simp] theorem i173 : tint Tryz.prog 173 = none := by kernel_rfl
@[simp] theorem a173 : tagg Tryz.prog 173 = some true := by kernel_rfl
@[simp] theorem o173 : tzero Tryz.prog 173 = some [.string (ofL []), .slice none 0 0, .slice none 0 0, .string (ofL []), .int .i64 0, .slice none 0 0, .int .i64 0, .bool false] := by kernel_rfl
@[simp] theorem q173 : tcomp Tryz.prog 173 = false := by kernel_rfl
@[simp] theorem y173 : tbyte Tryz.prog 173 = false := by kernel_rfl
@[simp] theorem f173_0 : tfld Tryz.prog 173 0 = some (0, true, 3) := by kernel_rfl
@[simp] theorem f173_1 : tfld Tryz.prog 173 1 = some (3, false, 1) := by kernel_rfl
@[simp] theorem f173_2 : tfld Tryz.prog 173 2 = some (4, false, 1) := by kernel_rfl
@[simp] theorem f173_3 : tfld Tryz.prog 173 3 = some (5, false, 1) := by kernel_rfl
@[simp] theorem f173_4 : tfld Tryz.prog 173 4 = some (6, false, 1) := by kernel_rfl
@[simp] theorem f173_5 : tfld Tryz.prog 173 5 = some (7, false, 1) := by kernel_rfl
@[simp] theorem p173 : tplaces Tryz.prog 173 = some [(0, 3), (3, 1), (4, 1), (5, 1), (6, 1), (7, 1)] := by kernel_rfl
@[simp] theorem z174 : tsz Tryz.prog 174 = some 8 := by kernel_rfl
@[simp] theorem c174 : tcode Tryz.prog 174 = 8 := by kernel_rfl
@[simp] theorem i174 : tint Tryz.prog 174 = none := by kernel_rfl
@[simp] theorem a174 : tagg Tryz.prog 174 = some true := by kernel_rfl
@[simp] theorem o174 : tzero Tryz.prog 174 = some [.string (ofL []), .slice none 0 0, .slice none 0 0, .string (ofL []), .int .i64 0, .slice none 0 0, .int .i64 0, .bool false] := by kernel_rfl
@[simp] theorem q174 : tcomp Tryz.prog 174 = false := by kernel_rfl
@[simp] theorem y174 : tbyte Tryz.prog 174 = false := by kernel_rfl
@[simp] theorem f174_0 : tfld Tryz.prog 174 0 = some (0, true, 3) := by kernel_rfl
@[simp] theorem f174_1 : tfld Tryz.prog 174 1 = some (3, false, 1) := by kernel_rfl
@[simp] theorem f174_2 : tfld Tryz.prog 174 2 = some (4, false, 1) := by kernel_rfl
@[simp] theorem f174_3 : tfld Tryz.prog 174 3 = some (5, false, 1) := by kernel_rfl
@[simp] theorem f174_4 : tfld Tryz.prog 174 4 = some (6, false, 1) := by kernel_rfl
@[simp] theorem f174_5 : tfld Tryz.prog 174 5 = some (7, false, 1) := by kernel_rfl
@[simp] theorem p174 : tplaces Tryz.prog 174 = some [(0, 3), (3, 1), (4, 1), (5, 1), (6, 1), (7, 1)] := by kernel_rfl
@[simp] theorem z178 : tsz Tryz.prog 178 = some 1 := by kernel_rfl
@[simp] theorem c178 : tcode Tryz.prog 178 = 7 := by kernel_rfl
@[simp] theorem i178 : tint Tryz.prog 178 = none := by kernel_rfl
@[simp] theorem a178 : tagg Tryz.prog 178 = some false := by kernel_rfl
@[simp] theorem o178 : tzero Tryz.prog 178 = some [.nilFunc] := by kernel_rfl
@[simp] theorem q178 : tcomp Tryz.prog 178 = false := by kernel_rfl
@[simp] theorem y178 : tbyte Tryz.prog 178 = false := by kernel_rfl
@[simp] theorem z200 : tsz Tryz.prog 200 = some 1 := by kernel_rfl
@[simp] theorem c200 : tcode Tryz.prog 200 = 7 := by kernel_rfl
@[simp] theorem i200 : tint Tryz.prog 200 = none := by kernel_rfl
@[simp] theorem a200 : tagg Tryz.prog 200 = some false := by kernel_rfl
@[simp] theorem o200 : tzero Tryz.prog 200 = some [.nilFunc] := by kernel_rfl
@[simp] theorem q200 : tcomp Tryz.prog 200 = false := by kernel_rfl
@[simp] theorem y200 : tbyte Tryz.prog 200 = false := by kernel_rfl
@[simp] theorem z201 : tsz Tryz.prog 201 = some 1 := by kernel_rfl
@[simp] theorem c201 : tcode Tryz.prog 201 = 5 := by kernel_rfl
@[simp] theorem i201 : tint Tryz.prog 201 = none := by kernel_rfl
@[simp] theorem a201 : tagg Tryz.prog 201 = some false := by kernel_rfl
@[simp] theorem o201 : tzero Tryz.prog 201 = some [.slice none 0 0] := by kernel_rfl
@[simp] theorem q201 : tcomp Tryz.prog 201 = false := by kernel_rfl
@[simp] theorem e201 : telem Tryz.prog 201 = some (1, 8) := by kernel_rfl
@[simp] theorem w201 : tezero Tryz.prog 201 = some [.int .i64 0] := by kernel_rfl
@[simp] theorem y201 : tbyte Tryz.prog 201 = false := by kernel_rfl
@[simp] theorem z204 : tsz Tryz.prog 204 = some 9 := by kernel_rfl
@[simp] theorem c204 : tcode Tryz.prog 204 = 8 := by kernel_rfl
@[simp] theorem i204 : tint Tryz.prog 204 = none := by kernel_rfl
@[simp] theorem a204 : tagg Tryz.prog 204 = some true := by kernel_rfl
@[simp] theorem o204 : tzero Tryz.prog 204 = some [.int .i64 0, .string (ofL []), .int .i64 0, .string (ofL []), .int .i64 0, .string (ofL []), .string (ofL []), .slice none 0 0, .slice none 0 0] := by kernel_rfl
@[simp] theorem q204 : tcomp Tryz.prog 204 = false := by kernel_rfl
@[simp] theorem y204 : tbyte Tryz.prog 204 = false := by kernel_rfl
@[simp] theorem f204_0 : tfld Tryz.prog 204 0 = some (0, false, 1) := by kernel_rfl
@[simp] theorem f204_1 : tfld Tryz.prog 204 1 = some (1, false, 1) := by kernel_rfl
@[simp] theorem f204_2 : tfld Tryz.prog 204 2 = some (2, true, 7) := by kernel_rfl
@[simp] theorem p204 : tplaces Tryz.prog 204 = some [(0, 1), (1, 1), (2, 7)] := by kernel_rfl
@[simp] theorem z205 : tsz Tryz.prog 205 = some 9 := by kernel_rfl
@[simp] theorem c205 : tcode Tryz.prog 205 = 8 := by kernel_rfl
@[simp] theorem i205 : tint Tryz.prog 205 = none := by kernel_rfl
@[simp] theorem a205 : tagg Tryz.prog 205 = some true := by kernel_rfl
@[simp] theorem o205 : tzero Tryz.prog 205 = some [.int .i64 0, .string (ofL []), .int .i64 0, .string (ofL []), .int .i64 0, .string (ofL []), .string (ofL []), .slice none 0 0, .slice none 0 0] := by kernel_rfl
@[simp] theorem q205 : tcomp Tryz.prog 205 = false := by kernel_rfl
@[simp] theorem y205 : tbyte Tryz.prog 205 = false := by kernel_rfl
@[simp] theorem f205_0 : tfld Tryz.prog 205 0 = some (0, false, 1) := by kernel_rfl
@[simp] theorem f205_1 : tfld Tryz.prog 205 1 = some (1, false, 1) := by kernel_rfl
@[simp] theorem f205_2 : tfld Tryz.prog 205 2 = some (2, true, 7) := by kernel_rfl
@[simp] theorem p205 : tplaces Tryz.prog 205 = some [(0, 1), (1, 1), (2, 7)] := by kernel_rfl
@[simp] theorem z212 : tsz Tryz.prog 212 = some 1 := by kernel_rfl
@[simp] theorem c212 : tcode Tryz.prog 212 = 7 := by kernel_rfl
@[simp] theorem i212 : tint Tryz.prog 212 = none := by kernel_rfl
@[simp] theorem a212 : tagg Tryz.prog 212 = some false := by kernel_rfl
@[simp] theorem o212 : tzero Tryz.prog 212 = some [.nilFunc] := by kernel_rfl
@[simp] theorem q212 : tcomp Tryz.prog 212 = false := by kernel_rfl
@[simp] theorem y212 : tbyte Tryz.prog 212 = false := by kernel_rfl
@[simp] theorem z217 : tsz Tryz.prog 217 = some 1 := by kernel_rfl
@[simp] theorem c217 : tcode Tryz.prog 217 = 2 := by kernel_rfl
@[simp] theorem i217 : tint Tryz.prog 217 = some .u64 := by kernel_rfl
@[simp] theorem a217 : tagg Tryz.prog 217 = some false := by kernel_rfl
@[simp] theorem o217 : tzero Tryz.prog 217 = some [.int .u64 0] := by kernel_rfl
@[simp] theorem q217 : tcomp Tryz.prog 217 = true := by kernel_rfl
@[simp] theorem y217 : tbyte Tryz.prog 217 = false := by kernel_rfl
@[simp] theorem z223 : tsz Tryz.prog 223 = some 1 := by kernel_rfl
@[simp] theorem c223 : tcode Tryz.prog 223 = 5 := by kernel_rfl
@[simp] theorem i223 : tint Tryz.prog 223 = none := by kernel_rfl
@[simp] theorem a223 : tagg Tryz.prog 223 = some false := by kernel_rfl
@[simp] theorem o223 : tzero Tryz.prog 223 = some [.slice none 0 0] := by kernel_rfl
@[simp] theorem q223 : tcomp Tryz.prog 223 = false := by kernel_rfl
@[simp] theorem e223 : telem Tryz.prog 223 = some (8, 128) := by kernel_rfl
@[simp] theorem w223 : tezero Tryz.prog 223 = some [.string (ofL []), .int .i64 0, .string (ofL []), .int .i64 0, .string (ofL []), .string (ofL []), .slice none 0 0, .slice none 0 0] := by kernel_rfl
@[simp] theorem y223 : tbyte Tryz.prog 223 = false := by kernel_rfl
@[simp] theorem z224 : tsz Tryz.prog 224 = some 8 := by kernel_rfl
@[simp] theorem c224 : tcode Tryz.prog 224 = 8 := by kernel_rfl
@[simp] theorem i224 : tint Tryz.prog 224 = none := by kernel_rfl
@[simp] theorem a224 : tagg Tryz.prog 224 = some true := by kernel_rfl
@[simp] theorem o224 : tzero Tryz.prog 224 = some [.string (ofL []), .int .i64 0, .string (ofL []), .int .i64 0, .string (ofL []), .string (ofL []), .slice none 0 0, .slice none 0 0] := by kernel_rfl
@[simp] theorem q224 : tcomp Tryz.prog 224 = false := by kernel_rfl
@[simp] theorem y224 : tbyte Tryz.prog 224 = false := by kernel_rfl
@[simp] theorem f224_0 : tfld Tryz.prog 224 0 = some (0, false, 1) := by kernel_rfl
@[simp] theorem f224_1 : tfld Tryz.prog 224 1 = some (1, true, 7) := by kernel_rfl
@[simp] theorem p224 : tplaces Tryz.prog 224 = some [(0, 1), (1, 7)] := by kernel_rfl
@[simp] theorem z225 : tsz Tryz.prog 225 = some 8 := by kernel_rfl
@[simp] theorem c225 : tcode Tryz.prog 225 = 8 := by kernel_rfl
@[simp] theorem i225 : tint Tryz.prog 225 = none := by kernel_rfl
@[simp] theorem a225 : tagg Tryz.prog 225 = some true := by kernel_rfl
@[simp] theorem o225 : tzero Tryz.prog 225 = some [.string (ofL []), .int .i64 0, .string (ofL []), .int .i64 0, .string (ofL []), .string (ofL []), .slice none 0 0, .slice none 0 0] := by kernel_rfl
@[simp] theorem q225 : tcomp Tryz.prog 225 = false := by kernel_rfl
@[simp] theorem y225 : tbyte Tryz.prog 225 = false := by kernel_rfl
@[simp] theorem f225_0 : tfld Tryz.prog 225 0 = some (0, false, 1) := by kernel_rfl
@[simp] theorem f225_1 : tfld Tryz.prog 225 1 = some (1, true, 7) := by kernel_rfl
@[simp] theorem p225 : tplaces Tryz.prog 225 = some [(0, 1), (1, 7)] := by kernel_rfl
@[simp] theorem z226 : tsz Tryz.prog 226 = some 1 := by kernel_rfl
@[simp] theorem c226 : tcode Tryz.prog 226 = 7 := by kernel_rfl
@[simp] theorem i226 : tint Tryz.prog 226 = none := by kernel_rfl
@[simp] theorem a226 : tagg Tryz.prog 226 = some false := by kernel_rfl
@[simp] theorem o226 : tzero Tryz.prog 226 = some [.nilFunc] := by kernel_rfl
@[simp] theorem q226 : tcomp Tryz.prog 226 = false := by kernel_rfl
@[simp] theorem y226 : tbyte Tryz.prog 226 = false := by kernel_rfl
@[simp] theorem z230 : tsz Tryz.prog 230 = some 1 := by kernel_rfl
@[simp] theorem c230 : tcode Tryz.prog 230 = 7 := by kernel_rfl
@[simp] theorem i230 : tint Tryz.prog 230 = none := by kernel_rfl
@[simp] theorem a230 : tagg Tryz.prog 230 = some false := by kernel_rfl
@[simp] theorem o230 : tzero Tryz.prog 230 = some [.nilFunc] := by kernel_rfl
@[simp] theorem q230 : tcomp Tryz.prog 230 = false := by kernel_rfl
@[simp] theorem y230 : tbyte Tryz.prog 230 = false := by kernel_rfl
@[simp] theorem z236 : tsz Tryz.prog 236 = some 1 := by kernel_rfl
@[simp] theorem c236 : tcode Tryz.prog 236 = 2 := by kernel_rfl
@[simp] theorem i236 : tint Tryz.prog 236 = some .u32 := by kernel_rfl
@[simp] theorem a236 : tagg Tryz.prog 236 = some false := by kernel_rfl
@[simp] theorem o236 : tzero Tryz.prog 236 = some [.int .u32 0] := by kernel_rfl
@[simp] theorem q236 : tcomp Tryz.prog 236 = true := by kernel_rfl
@[simp] theorem y236 : tbyte Tryz.prog 236 = false := by kernel_rfl
@[simp] theorem z242 : tsz Tryz.prog 242 = some 1 := by kernel_rfl
@[simp] theorem c242 : tcode Tryz.prog 242 = 7 := by kernel_rfl
@[simp] theorem i242 : tint Tryz.prog 242 = none := by kernel_rfl
@[simp] theorem a242 : tagg Tryz.prog 242 = some false := by kernel_rfl
@[simp] theorem o242 : tzero Tryz.prog 242 = some [.nilFunc] := by kernel_rfl
@[simp] theorem q242 : tcomp Tryz.prog 242 = false := by kernel_rfl
@[simp] theorem y242 : tbyte Tryz.prog 242 = false := by kernel_rfl
@[simp] theorem z259 : tsz Tryz.prog 259 = some 1 := by kernel_rfl
@[simp] theorem c259 : tcode Tryz.prog 259 = 7 := by kernel_rfl
@[simp] theorem i259 : tint Tryz.prog 259 = none := by kernel_rfl
@[simp] theorem a259 : tagg Tryz.prog 259 = some false := by kernel_rfl
@[simp] theorem o259 : tzero Tryz.prog 259 = some [.nilFunc] := by kernel_rfl
@[simp] theorem q259 : tcomp Tryz.prog 259 = false := by kernel_rfl
@[simp] theorem y259 : tbyte Tryz.prog 259 = false := by kernel_rfl
@[simp] theorem z278 : tsz Tryz.prog 278 = some 1 := by kernel_rfl
@[simp] theorem c278 : tcode Tryz.prog 278 = 2 := by kernel_rfl
@[simp] theorem i278 : tint Tryz.prog 278 = some .u64 := by kernel_rfl
@[simp] theorem a278 : tagg Tryz.prog 278 = some false := by kernel_rfl
@[simp] theorem o278 : tzero Tryz.prog 278 = some [.int .u64 0] := by kernel_rfl
@[simp] theorem q278 : tcomp Tryz.prog 278 = true := by kernel_rfl
@[simp] theorem y278 : tbyte Tryz.prog 278 = false := by kernel_rfl
@[simp] theorem z282 : tsz Tryz.prog 282 = some 1 := by kernel_rfl
@[simp] theorem c282 : tcode Tryz.prog 282 = 4 := by kernel_rfl
@[simp] theorem i282 : tint Tryz.prog 282 = none := by kernel_rfl
@[simp] theorem a282 : tagg Tryz.prog 282 = some false := by kernel_rfl
@[simp] theorem o282 : tzero Tryz.prog 282 = some [.pointer none] := by kernel_rfl
@[simp] theorem q282 : tcomp Tryz.prog 282 = true := by kernel_rfl
@[simp] theorem y282 : tbyte Tryz.prog 282 = false := by kernel_rfl
@[simp] theorem z295 : tsz Tryz.prog 295 = some 1 := by kernel_rfl
@[simp] theorem c295 : tcode Tryz.prog 295 = 2 := by kernel_rfl
@[simp] theorem i295 : tint Tryz.prog 295 = some .u8 := by kernel_rfl
@[simp] theorem a295 : tagg Tryz.prog 295 = some false := by kernel_rfl
@[simp] theorem o295 : tzero Tryz.prog 295 = some [.int .u8 0] := by kernel_rfl
@[simp] theorem q295 : tcomp Tryz.prog 295 = true := by kernel_rfl
@[simp] theorem y295 : tbyte Tryz.prog 295 = false := by kernel_rfl
@[simp] theorem z296 : tsz Tryz.prog 296 = some 1 := by kernel_rfl
@[simp] theorem c296 : tcode Tryz.prog 296 = 7 := by kernel_rfl
@[simp] theorem i296 : tint Tryz.prog 296 = none := by kernel_rfl
@[simp] theorem a296 : tagg Tryz.prog 296 = some false := by kernel_rfl
@[simp] theorem o296 : tzero Tryz.prog 296 = some [.nilFunc] := by kernel_rfl
@[simp] theorem q296 : tcomp Tryz.prog 296 = false := by kernel_rfl
@[simp] theorem y296 : tbyte Tryz.prog 296 = false := by kernel_rfl
@[simp] theorem z297 : tsz Tryz.prog 297 = some 1 := by kernel_rfl
@[simp] theorem c297 : tcode Tryz.prog 297 = 2 := by kernel_rfl
@[simp] theorem i297 : tint Tryz.prog 297 = some .i32 := by kernel_rfl
@[simp] theorem a297 : tagg Tryz.prog 297 = some false := by kernel_rfl
@[simp] theorem o297 : tzero Tryz.prog 297 = some [.int .i32 0] := by kernel_rfl
@[simp] theorem q297 : tcomp Tryz.prog 297 = true := by kernel_rfl
@[simp] theorem y297 : tbyte Tryz.prog 297 = false := by kernel_rfl
@[simp] theorem z298 : tsz Tryz.prog 298 = some 1 := by kernel_rfl
@[simp] theorem c298 : tcode Tryz.prog 298 = 2 := by kernel_rfl
@[simp] theorem i298 : tint Tryz.prog 298 = some .i32 := by kernel_rfl
@[simp] theorem a298 : tagg Tryz.prog 298 = some false := by kernel_rfl
@[simp] theorem o298 : tzero Tryz.prog 298 = some [.int .i32 0] := by kernel_rfl
@[simp] theorem q298 : tcomp Tryz.prog 298 = true := by kernel_rfl
@[simp] theorem y298 : tbyte Tryz.prog 298 = false := by kernel_rfl
@[simp] theorem z299 : tsz Tryz.prog 299 = some 11 := by kernel_rfl
@[simp] theorem c299 : tcode Tryz.prog 299 = 8 := by kernel_rfl
@[simp] theorem i299 : tint Tryz.prog 299 = none := by kernel_rfl
@[simp] theorem a299 : tagg Tryz.prog 299 = some true := by kernel_rfl
@[simp] theorem o299 : tzero Tryz.prog 299 = some [.int .u64 0, .int .u64 0, .int .u32 0, .int .u8 0, .int .u8 0, .int .u8 0, .int .u8 0, .nilFunc, .pointer none, .int .i32 0, .int .i32 0] := by kernel_rfl
@[simp] theorem q299 : tcomp Tryz.prog 299 = false := by kernel_rfl
@[simp] theorem y299 : tbyte Tryz.prog 299 = false := by kernel_rfl
@[simp] theorem f299_0 : tfld Tryz.prog 299 0 = some (0, false, 1) := by kernel_rfl
@[simp] theorem f299_1 : tfld Tryz.prog 299 1 = some (1, false, 1) := by kernel_rfl
@[simp] theorem f299_2 : tfld Tryz.prog 299 2 = some (2, false, 1) := by kernel_rfl
@[simp] theorem f299_3 : tfld Tryz.prog 299 3 = some (3, false, 1) := by kernel_rfl
@[simp] theorem f299_4 : tfld Tryz.prog 299 4 = some (4, false, 1) := by kernel_rfl
@[simp] theorem f299_5 : tfld Tryz.prog 299 5 = some (5, false, 1) := by kernel_rfl
@[simp] theorem f299_6 : tfld Tryz.prog 299 6 = some (6, false, 1) := by kernel_rfl
@[simp] theorem f299_7 : tfld Tryz.prog 299 7 = some (7, false, 1) := by kernel_rfl
@[simp] theorem f299_8 : tfld Tryz.prog 299 8 = some (8, false, 1) := by kernel_rfl
@[simp] theorem f299_9 : tfld Tryz.prog 299 9 = some (9, false, 1) := by kernel_rfl
@[simp] theorem f299_10 : tfld Tryz.prog 299 10 = some (10, false, 1) := by kernel_rfl
@[simp] theorem p299 : tplaces Tryz.prog 299 = some [(0, 1), (1, 1), (2, 1), (3, 1), (4, 1), (5, 1), (6, 1), (7, 1), (8, 1), (9, 1), (10, 1)] := by kernel_rfl
@[simp] theorem z300 : tsz Tryz.prog 300 = some 11 := by kernel_rfl
@[simp] theorem c300 : tcode Tryz.prog 300 = 8 := by kernel_rfl
@[simp] theorem i300 : tint Tryz.prog 300 = none := by kernel_rfl
@[simp] theorem a300 : tagg Tryz.prog 300 = some true := by kernel_rfl
@[simp] theorem o300 : tzero Tryz.prog 300 = some [.int .u64 0, .int .u64 0, .int .u32 0, .int .u8 0, .int .u8 0, .int .u8 0, .int .u8 0, .nilFunc, .pointer none, .int .i32 0, .int .i32 0] := by kernel_rfl
@[simp] theorem q300 : tcomp Tryz.prog 300 = false := by kernel_rfl
@[simp] theorem y300 : tbyte Tryz.prog 300 = false := by kernel_rfl
@[simp] theorem f300_0 : tfld Tryz.prog 300 0 = some (0, false, 1) := by kernel_rfl
@[simp] theorem f300_1 : tfld Tryz.prog 300 1 = some (1, false, 1) := by kernel_rfl
@[simp] theorem f300_2 : tfld Tryz.prog 300 2 = some (2, false, 1) := by kernel_rfl
@[simp] theorem f300_3 : tfld Tryz.prog 300 3 = some (3, false, 1) := by kernel_rfl
@[simp] theorem f300_4 : tfld Tryz.prog 300 4 = some (4, false, 1) := by kernel_rfl
@[simp] theorem f300_5 : tfld Tryz.prog 300 5 = some (5, false, 1) := by kernel_rfl
@[simp] theorem f300_6 : tfld Tryz.prog 300 6 = some (6, false, 1) := by kernel_rfl
@[simp] theorem f300_7 : tfld Tryz.prog 300 7 = some (7, false, 1) := by kernel_rfl
@[simp] theorem f300_8 : tfld Tryz.prog 300 8 = some (8, false, 1) := by kernel_rfl
@[simp] theorem f300_9 : tfld Tryz.prog 300 9 = some (9, false, 1) := by kernel_rfl
@[simp] theorem f300_10 : tfld Tryz.prog 300 10 = some (10, false, 1) := by kernel_rfl
@[simp] theorem p300 : tplaces Tryz.prog 300 = some [(0, 1), (1, 1), (2, 1), (3, 1), (4, 1), (5, 1), (6, 1), (7, 1), (8, 1), (9, 1), (10, 1)] := by kernel_rfl
end Go.Proofs.Mv.V.Ty
