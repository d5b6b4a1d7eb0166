/- A part of the proofs of the seat YtbgkkoloflcnbaaGreatDoor: the abstract machine, the contracts of the functions, the laws. No condition of its own. -/
import Derived.Test.YtbgkkoloflcnbaaGreatDoorProg
import Derived.KernelRfl
import Derived.Test.YtbgkkoloflcnbaaGreatDoorMvD
set_option linter.unusedSimpArgs false
set_option linter.unusedVariables false
set_option linter.unusedSectionVars false
namespace Go.Proofs.Mv.V.Ty
@[simp] theorem z0 : tsz Tryz.prog 0 = some 1 := by kernel_rfl
@[simp] theorem c0 : tcode Tryz.prog 0 = 10 := by kernel_rfl
@[simp] theorem i0 : tint Tryz.prog 0 = none := by kernel_rfl
@[simp] theorem q0 : tcomp Tryz.prog 0 = false := by kernel_rfl
@[simp] theorem y0 : tbyte Tryz.prog 0 = false := by kernel_rfl
@[simp] theorem z1 : tsz Tryz.prog 1 = some 1 := by kernel_rfl
@[simp] theorem c1 : tcode Tryz.prog 1 = 7 := by kernel_rfl
@[simp] theorem i1 : tint Tryz.prog 1 = none := by kernel_rfl
@[simp] theorem a1 : tagg Tryz.prog 1 = some false := by kernel_rfl
@[simp] theorem o1 : tzero Tryz.prog 1 = some [.nilFunc] := by kernel_rfl
@[simp] theorem q1 : tcomp Tryz.prog 1 = false := by kernel_rfl
@[simp] theorem y1 : tbyte Tryz.prog 1 = false := by kernel_rfl
@[simp] theorem z2 : tsz Tryz.prog 2 = some 1 := by kernel_rfl
@[simp] theorem c2 : tcode Tryz.prog 2 = 2 := by kernel_rfl
@[simp] theorem i2 : tint Tryz.prog 2 = some .i64 := by kernel_rfl
@[simp] theorem a2 : tagg Tryz.prog 2 = some false := by kernel_rfl
@[simp] theorem o2 : tzero Tryz.prog 2 = some [.int .i64 0] := by kernel_rfl
@[simp] theorem q2 : tcomp Tryz.prog 2 = true := by kernel_rfl
@[simp] theorem y2 : tbyte Tryz.prog 2 = false := by kernel_rfl
@[simp] theorem z3 : tsz Tryz.prog 3 = some 1 := by kernel_rfl
@[simp] theorem c3 : tcode Tryz.prog 3 = 2 := by kernel_rfl
@[simp] theorem i3 : tint Tryz.prog 3 = some .i64 := by kernel_rfl
@[simp] theorem a3 : tagg Tryz.prog 3 = some false := by kernel_rfl
@[simp] theorem o3 : tzero Tryz.prog 3 = some [.int .i64 0] := by kernel_rfl
@[simp] theorem q3 : tcomp Tryz.prog 3 = true := by kernel_rfl
@[simp] theorem y3 : tbyte Tryz.prog 3 = false := by kernel_rfl
@[simp] theorem z4 : tsz Tryz.prog 4 = some 1 := by kernel_rfl
@[simp] theorem c4 : tcode Tryz.prog 4 = 1 := by kernel_rfl
@[simp] theorem i4 : tint Tryz.prog 4 = none := by kernel_rfl
@[simp] theorem a4 : tagg Tryz.prog 4 = some false := by kernel_rfl
@[simp] theorem o4 : tzero Tryz.prog 4 = some [.bool false] := by kernel_rfl
@[simp] theorem q4 : tcomp Tryz.prog 4 = true := by kernel_rfl
@[simp] theorem y4 : tbyte Tryz.prog 4 = false := by kernel_rfl
@[simp] theorem z5 : tsz Tryz.prog 5 = some 1 := by kernel_rfl
@[simp] theorem c5 : tcode Tryz.prog 5 = 2 := by kernel_rfl
@[simp] theorem i5 : tint Tryz.prog 5 = some .u8 := by kernel_rfl
@[simp] theorem a5 : tagg Tryz.prog 5 = some false := by kernel_rfl
@[simp] theorem o5 : tzero Tryz.prog 5 = some [.int .u8 0] := by kernel_rfl
@[simp] theorem q5 : tcomp Tryz.prog 5 = true := by kernel_rfl
@[simp] theorem y5 : tbyte Tryz.prog 5 = false := by kernel_rfl
@[simp] theorem z9 : tsz Tryz.prog 9 = some 1 := by kernel_rfl
@[simp] theorem c9 : tcode Tryz.prog 9 = 3 := by kernel_rfl
@[simp] theorem i9 : tint Tryz.prog 9 = none := by kernel_rfl
@[simp] theorem a9 : tagg Tryz.prog 9 = some false := by kernel_rfl
@[simp] theorem o9 : tzero Tryz.prog 9 = some [.string (ofL [])] := by kernel_rfl
@[simp] theorem q9 : tcomp Tryz.prog 9 = true := by kernel_rfl
@[simp] theorem y9 : tbyte Tryz.prog 9 = false := by kernel_rfl
@[simp] theorem z12 : tsz Tryz.prog 12 = some 1 := by kernel_rfl
@[simp] theorem c12 : tcode Tryz.prog 12 = 2 := by kernel_rfl
@[simp] theorem i12 : tint Tryz.prog 12 = some .u64 := by kernel_rfl
@[simp] theorem a12 : tagg Tryz.prog 12 = some false := by kernel_rfl
@[simp] theorem o12 : tzero Tryz.prog 12 = some [.int .u64 0] := by kernel_rfl
@[simp] theorem q12 : tcomp Tryz.prog 12 = true := by kernel_rfl
@[simp] theorem y12 : tbyte Tryz.prog 12 = false := by kernel_rfl
@[simp] theorem z20 : tsz Tryz.prog 20 = some 1 := by kernel_rfl
@[simp] theorem c20 : tcode Tryz.prog 20 = 6 := by kernel_rfl
@[simp] theorem i20 : tint Tryz.prog 20 = none := by kernel_rfl
@[simp] theorem a20 : tagg Tryz.prog 20 = some false := by kernel_rfl
@[simp] theorem o20 : tzero Tryz.prog 20 = some [.nilIface] := by kernel_rfl
@[simp] theorem q20 : tcomp Tryz.prog 20 = true := by kernel_rfl
@[simp] theorem y20 : tbyte Tryz.prog 20 = false := by kernel_rfl
@[simp] theorem z22 : tsz Tryz.prog 22 = some 1 := by kernel_rfl
@[simp] theorem c22 : tcode Tryz.prog 22 = 5 := by kernel_rfl
@[simp] theorem i22 : tint Tryz.prog 22 = none := by kernel_rfl
@[simp] theorem a22 : tagg Tryz.prog 22 = some false := by kernel_rfl
@[simp] theorem o22 : tzero Tryz.prog 22 = some [.slice none 0 0] := by kernel_rfl
@[simp] theorem q22 : tcomp Tryz.prog 22 = false := by kernel_rfl
@[simp] theorem e22 : telem Tryz.prog 22 = some (4, 40) := by kernel_rfl
@[simp] theorem w22 : tezero Tryz.prog 22 = some [.string (ofL []), .int .i64 0, .int .i64 0, .int .i64 0] := by kernel_rfl
@[simp] theorem y22 : tbyte Tryz.prog 22 = false := by kernel_rfl
@[simp] theorem z23 : tsz Tryz.prog 23 = some 1 := by kernel_rfl
@[simp] theorem c23 : tcode Tryz.prog 23 = 5 := by kernel_rfl
@[simp] theorem i23 : tint Tryz.prog 23 = none := by kernel_rfl
@[simp] theorem a23 : tagg Tryz.prog 23 = some false := by kernel_rfl
@[simp] theorem o23 : tzero Tryz.prog 23 = some [.slice none 0 0] := by kernel_rfl
@[simp] theorem q23 : tcomp Tryz.prog 23 = false := by kernel_rfl
@[simp] theorem e23 : telem Tryz.prog 23 = some (7, 64) := by kernel_rfl
@[simp] theorem w23 : tezero Tryz.prog 23 = some [.string (ofL []), .int .i64 0, .int .i64 0, .int .i64 0, .int .i64 0, .int .i64 0, .int .i64 0] := by kernel_rfl
@[simp] theorem y23 : tbyte Tryz.prog 23 = false := by kernel_rfl
@[simp] theorem z25 : tsz Tryz.prog 25 = some 1 := by kernel_rfl
@[simp] theorem c25 : tcode Tryz.prog 25 = 6 := by kernel_rfl
@[simp] theorem i25 : tint Tryz.prog 25 = none := by kernel_rfl
@[simp] theorem a25 : tagg Tryz.prog 25 = some false := by kernel_rfl
@[simp] theorem o25 : tzero Tryz.prog 25 = some [.nilIface] := by kernel_rfl
@[simp] theorem q25 : tcomp Tryz.prog 25 = true := by kernel_rfl
@[simp] theorem y25 : tbyte Tryz.prog 25 = false := by kernel_rfl
@[simp] theorem z26 : tsz Tryz.prog 26 = some 1 := by kernel_rfl
@[simp] theorem c26 : tcode Tryz.prog 26 = 6 := by kernel_rfl
@[simp] theorem i26 : tint Tryz.prog 26 = none := by kernel_rfl
@[simp] theorem a26 : tagg Tryz.prog 26 = some false := by kernel_rfl
@[simp] theorem o26 : tzero Tryz.prog 26 = some [.nilIface] := by kernel_rfl
@[simp] theorem q26 : tcomp Tryz.prog 26 = true := by kernel_rfl
@[simp] theorem y26 : tbyte Tryz.prog 26 = false := by kernel_rfl
@[simp] theorem z32 : tsz Tryz.prog 32 = some 1 := by kernel_rfl
@[simp] theorem c32 : tcode Tryz.prog 32 = 2 := by kernel_rfl
@[simp] theorem i32 : tint Tryz.prog 32 = some .i64 := by kernel_rfl
@[simp] theorem a32 : tagg Tryz.prog 32 = some false := by kernel_rfl
@[simp] theorem o32 : tzero Tryz.prog 32 = some [.int .i64 0] := by kernel_rfl
@[simp] theorem q32 : tcomp Tryz.prog 32 = true := by kernel_rfl
@[simp] theorem y32 : tbyte Tryz.prog 32 = false := by kernel_rfl
@[simp] theorem z35 : tsz Tryz.prog 35 = some 1 := by kernel_rfl
@[simp] theorem c35 : tcode Tryz.prog 35 = 10 := by kernel_rfl
@[simp] theorem i35 : tint Tryz.prog 35 = none := by kernel_rfl
@[simp] theorem q35 : tcomp Tryz.prog 35 = false := by kernel_rfl
@[simp] theorem y35 : tbyte Tryz.prog 35 = false := by kernel_rfl
@[simp] theorem z40 : tsz Tryz.prog 40 = some 1 := by kernel_rfl
@[simp] theorem c40 : tcode Tryz.prog 40 = 5 := by kernel_rfl
@[simp] theorem i40 : tint Tryz.prog 40 = none := by kernel_rfl
@[simp] theorem a40 : tagg Tryz.prog 40 = some false := by kernel_rfl
@[simp] theorem o40 : tzero Tryz.prog 40 = some [.slice none 0 0] := by kernel_rfl
@[simp] theorem q40 : tcomp Tryz.prog 40 = false := by kernel_rfl
@[simp] theorem e40 : telem Tryz.prog 40 = some (1, 16) := by kernel_rfl
@[simp] theorem w40 : tezero Tryz.prog 40 = some [.string (ofL [])] := by kernel_rfl
@[simp] theorem y40 : tbyte Tryz.prog 40 = false := by kernel_rfl
@[simp] theorem z41 : tsz Tryz.prog 41 = some 1 := by kernel_rfl
@[simp] theorem c41 : tcode Tryz.prog 41 = 5 := by kernel_rfl
@[simp] theorem i41 : tint Tryz.prog 41 = none := by kernel_rfl
@[simp] theorem a41 : tagg Tryz.prog 41 = some false := by kernel_rfl
@[simp] theorem o41 : tzero Tryz.prog 41 = some [.slice none 0 0] := by kernel_rfl
@[simp] theorem q41 : tcomp Tryz.prog 41 = false := by kernel_rfl
@[simp] theorem e41 : telem Tryz.prog 41 = some (7, 112) := by kernel_rfl
@[simp] theorem w41 : tezero Tryz.prog 41 = some [.int .i64 0, .string (ofL []), .int .i64 0, .string (ofL []), .string (ofL []), .slice none 0 0, .slice none 0 0] := by kernel_rfl
@[simp] theorem y41 : tbyte Tryz.prog 41 = false := by kernel_rfl
@[simp] theorem z42 : tsz Tryz.prog 42 = some 7 := by kernel_rfl
@[simp] theorem c42 : tcode Tryz.prog 42 = 8 := by kernel_rfl
@[simp] theorem i42 : tint Tryz.prog 42 = none := by kernel_rfl
@[simp] theorem a42 : tagg Tryz.prog 42 = some true := by kernel_rfl
@[simp] theorem o42 : tzero Tryz.prog 42 = some [.int .i64 0, .string (ofL []), .int .i64 0, .string (ofL []), .string (ofL []), .slice none 0 0, .slice none 0 0] := by kernel_rfl
@[simp] theorem q42 : tcomp Tryz.prog 42 = false := by kernel_rfl
@[simp] theorem y42 : tbyte Tryz.prog 42 = false := by kernel_rfl
@[simp] theorem f42_0 : tfld Tryz.prog 42 0 = some (0, false, 1) := by kernel_rfl
@[simp] theorem f42_1 : tfld Tryz.prog 42 1 = some (1, false, 1) := by kernel_rfl
@[simp] theorem f42_2 : tfld Tryz.prog 42 2 = some (2, false, 1) := by kernel_rfl
@[simp] theorem f42_3 : tfld Tryz.prog 42 3 = some (3, false, 1) := by kernel_rfl
@[simp] theorem f42_4 : tfld Tryz.prog 42 4 = some (4, false, 1) := by kernel_rfl
@[simp] theorem f42_5 : tfld Tryz.prog 42 5 = some (5, false, 1) := by kernel_rfl
@[simp] theorem f42_6 : tfld Tryz.prog 42 6 = some (6, false, 1) := by kernel_rfl
@[simp] theorem p42 : tplaces Tryz.prog 42 = some [(0, 1), (1, 1), (2, 1), (3, 1), (4, 1), (5, 1), (6, 1)] := by kernel_rfl
@[simp] theorem z43 : tsz Tryz.prog 43 = some 7 := by kernel_rfl
@[simp] theorem c43 : tcode Tryz.prog 43 = 8 := by kernel_rfl
@[simp] theorem i43 : tint Tryz.prog 43 = none := by kernel_rfl
@[simp] theorem a43 : tagg Tryz.prog 43 = some true := by kernel_rfl
@[simp] theorem o43 : tzero Tryz.prog 43 = some [.int .i64 0, .string (ofL []), .int .i64 0, .string (ofL []), .string (ofL []), .slice none 0 0, .slice none 0 0] := by kernel_rfl
@[simp] theorem q43 : tcomp Tryz.prog 43 = false := by kernel_rfl
@[simp] theorem y43 : tbyte Tryz.prog 43 = false := by kernel_rfl
@[simp] theorem f43_0 : tfld Tryz.prog 43 0 = some (0, false, 1) := by kernel_rfl
@[simp] theorem f43_1 : tfld Tryz.prog 43 1 = some (1, false, 1) := by kernel_rfl
@[simp] theorem f43_2 : tfld Tryz.prog 43 2 = some (2, false, 1) := by kernel_rfl
@[simp] theorem f43_3 : tfld Tryz.prog 43 3 = some (3, false, 1) := by kernel_rfl
@[simp] theorem f43_4 : tfld Tryz.prog 43 4 = some (4, false, 1) := by kernel_rfl
@[simp] theorem f43_5 : tfld Tryz.prog 43 5 = some (5, false, 1) := by kernel_rfl
@[simp] theorem f43_6 : tfld Tryz.prog 43 6 = some (6, false, 1) := by kernel_rfl
@[simp] theorem p43 : tplaces Tryz.prog 43 = some [(0, 1), (1, 1), (2, 1), (3, 1), (4, 1), (5, 1), (6, 1)] := by kernel_rfl
@[simp] theorem z44 : tsz Tryz.prog 44 = some 1 := by kernel_rfl
@[simp] theorem c44 : tcode Tryz.prog 44 = 10 := by kernel_rfl
@[simp] theorem i44 : tint Tryz.prog 44 = none := by kernel_rfl
@[simp] theorem q44 : tcomp Tryz.prog 44 = false := by kernel_rfl
@[simp] theorem y44 : tbyte Tryz.prog 44 = false := by kernel_rfl
@[simp] theorem z45 : tsz Tryz.prog 45 = some 1 := by kernel_rfl
@[simp] theorem c45 : tcode Tryz.prog 45 = 7 := by kernel_rfl
@[simp] theorem i45 : tint Tryz.prog 45 = none := by kernel_rfl
@[simp] theorem a45 : tagg Tryz.prog 45 = some false := by kernel_rfl
@[simp] theorem o45 : tzero Tryz.prog 45 = some [.nilFunc] := by kernel_rfl
@[simp] theorem q45 : tcomp Tryz.prog 45 = false := by kernel_rfl
@[simp] theorem y45 : tbyte Tryz.prog 45 = false := by kernel_rfl
@[simp] theorem z46 : tsz Tryz.prog 46 = some 1 := by kernel_rfl
@[simp] theorem c46 : tcode Tryz.prog 46 = 7 := by kernel_rfl
@[simp] theorem i46 : tint Tryz.prog 46 = none := by kernel_rfl
@[simp] theorem a46 : tagg Tryz.prog 46 = some false := by kernel_rfl
@[simp] theorem o46 : tzero Tryz.prog 46 = some [.nilFunc] := by kernel_rfl
@[simp] theorem q46 : tcomp Tryz.prog 46 = false := by kernel_rfl
@[simp] theorem y46 : tbyte Tryz.prog 46 = false := by kernel_rfl
@[simp] theorem z48 : tsz Tryz.prog 48 = some 1 := by kernel_rfl
@[simp] theorem c48 : tcode Tryz.prog 48 = 7 := by kernel_rfl
@[simp] theorem i48 : tint Tryz.prog 48 = none := by kernel_rfl
@[simp] theorem a48 : tagg Tryz.prog 48 = some false := by kernel_rfl
@[simp] theorem o48 : tzero Tryz.prog 48 = some [.nilFunc] := by kernel_rfl
@[simp] theorem q48 : tcomp Tryz.prog 48 = false := by kernel_rfl
@[simp] theorem y48 : tbyte Tryz.prog 48 = false := by kernel_rfl
@[simp] theorem z49 : tsz Tryz.prog 49 = some 1 := by kernel_rfl
@[simp] theorem c49 : tcode Tryz.prog 49 = 7 := by kernel_rfl
@[simp] theorem i49 : tint Tryz.prog 49 = none := by kernel_rfl
@[simp] theorem a49 : tagg Tryz.prog 49 = some false := by kernel_rfl
@[simp] theorem o49 : tzero Tryz.prog 49 = some [.nilFunc] := by kernel_rfl
@[simp] theorem q49 : tcomp Tryz.prog 49 = false := by kernel_rfl
@[simp] theorem y49 : tbyte Tryz.prog 49 = false := by kernel_rfl
@[simp] theorem z50 : tsz Tryz.prog 50 = some 1 := by kernel_rfl
@[simp] theorem c50 : tcode Tryz.prog 50 = 5 := by kernel_rfl
@[simp] theorem i50 : tint Tryz.prog 50 = none := by kernel_rfl
@[simp] theorem a50 : tagg Tryz.prog 50 = some false := by kernel_rfl
@[simp] theorem o50 : tzero Tryz.prog 50 = some [.slice none 0 0] := by kernel_rfl
@[simp] theorem q50 : tcomp Tryz.prog 50 = false := by kernel_rfl
@[simp] theorem e50 : telem Tryz.prog 50 = some (3, 32) := by kernel_rfl
@[simp] theorem w50 : tezero Tryz.prog 50 = some [.int .i64 0, .int .i64 0, .string (ofL [])] := by kernel_rfl
@[simp] theorem y50 : tbyte Tryz.prog 50 = false := by kernel_rfl
@[simp] theorem z51 : tsz Tryz.prog 51 = some 3 := by kernel_rfl
@[simp] theorem c51 : tcode Tryz.prog 51 = 8 := by kernel_rfl
@[simp] theorem i51 : tint Tryz.prog 51 = none := by kernel_rfl
@[simp] theorem a51 : tagg Tryz.prog 51 = some true := by kernel_rfl
@[simp] theorem o51 : tzero Tryz.prog 51 = some [.int .i64 0, .int .i64 0, .string (ofL [])] := by kernel_rfl
@[simp] theorem s51 : tsfl Tryz.prog 51 = some [(0, 3, false, 1), (1, 3, false, 1), (2, 9, false, 1)] := by kernel_rfl
@[simp] theorem q51 : tcomp Tryz.prog 51 = true := by kernel_rfl
@[simp] theorem y51 : tbyte Tryz.prog 51 = false := by kernel_rfl
@[simp] theorem f51_0 : tfld Tryz.prog 51 0 = some (0, false, 1) := by kernel_rfl
@[simp] theorem f51_1 : tfld Tryz.prog 51 1 = some (1, false, 1) := by kernel_rfl
@[simp] theorem f51_2 : tfld Tryz.prog 51 2 = some (2, false, 1) := by kernel_rfl
@[simp] theorem p51 : tplaces Tryz.prog 51 = some [(0, 1), (1, 1), (2, 1)] := by kernel_rfl
@[simp] theorem z52 : tsz Tryz.prog 52 = some 3 := by kernel_rfl
@[simp] theorem c52 : tcode Tryz.prog 52 = 8 := by kernel_rfl
@[simp] theorem i52 : tint Tryz.prog 52 = none := by kernel_rfl
@[simp] theorem a52 : tagg Tryz.prog 52 = some true := by kernel_rfl
@[simp] theorem o52 : tzero Tryz.prog 52 = some [.int .i64 0, .int .i64 0, .string (ofL [])] := by kernel_rfl
@[simp] theorem s52 : tsfl Tryz.prog 52 = some [(0, 3, false, 1), (1, 3, false, 1), (2, 9, false, 1)] := by kernel_rfl
@[simp] theorem q52 : tcomp Tryz.prog 52 = true := by kernel_rfl
@[simp] theorem y52 : tbyte Tryz.prog 52 = false := by kernel_rfl
@[simp] theorem f52_0 : tfld Tryz.prog 52 0 = some (0, false, 1) := by kernel_rfl
@[simp] theorem f52_1 : tfld Tryz.prog 52 1 = some (1, false, 1) := by kernel_rfl
@[simp] theorem f52_2 : tfld Tryz.prog 52 2 = some (2, false, 1) := by kernel_rfl
@[simp] theorem p52 : tplaces Tryz.prog 52 = some [(0, 1), (1, 1), (2, 1)] := by kernel_rfl
@[simp] theorem z57 : tsz Tryz.prog 57 = some 1 := by kernel_rfl
@[simp] theorem c57 : tcode Tryz.prog 57 = 7 := by kernel_rfl
@[simp] theorem i57 : tint Tryz.prog 57 = none := by kernel_rfl
@[simp] theorem a57 : tagg Tryz.prog 57 = some false := by kernel_rfl
@[simp] theorem o57 : tzero Tryz.prog 57 = some [.nilFunc] := by kernel_rfl
@[simp] theorem q57 : tcomp Tryz.prog 57 = false := by kernel_rfl
@[simp] theorem y57 : tbyte Tryz.prog 57 = false := by kernel_rfl
@[simp] theorem z58 : tsz Tryz.prog 58 = some 1 := by kernel_rfl
@[simp] theorem c58 : tcode Tryz.prog 58 = 7 := by kernel_rfl
@[simp] theorem i58 : tint Tryz.prog 58 = none := by kernel_rfl
@[simp] theorem a58 : tagg Tryz.prog 58 = some false := by kernel_rfl
@[simp] theorem o58 : tzero Tryz.prog 58 = some [.nilFunc] := by kernel_rfl
@[simp] theorem q58 : tcomp Tryz.prog 58 = false := by kernel_rfl
@[simp] theorem y58 : tbyte Tryz.prog 58 = false := by kernel_rfl
@[simp] theorem z59 : tsz Tryz.prog 59 = some 1 := by kernel_rfl
@[simp] theorem c59 : tcode Tryz.prog 59 = 5 := by kernel_rfl
@[simp] theorem i59 : tint Tryz.prog 59 = none := by kernel_rfl
@[simp] theorem a59 : tagg Tryz.prog 59 = some false := by kernel_rfl
@[simp] theorem o59 : tzero Tryz.prog 59 = some [.slice none 0 0] := by kernel_rfl
@[simp] theorem q59 : tcomp Tryz.prog 59 = false := by kernel_rfl
@[simp] theorem e59 : telem Tryz.prog 59 = some (4, 56) := by kernel_rfl
@[simp] theorem w59 : tezero Tryz.prog 59 = some [.string (ofL []), .int .i64 0, .string (ofL []), .string (ofL [])] := by kernel_rfl
@[simp] theorem y59 : tbyte Tryz.prog 59 = false := by kernel_rfl
@[simp] theorem z60 : tsz Tryz.prog 60 = some 1 := by kernel_rfl
@[simp] theorem c60 : tcode Tryz.prog 60 = 5 := by kernel_rfl
@[simp] theorem i60 : tint Tryz.prog 60 = none := by kernel_rfl
@[simp] theorem a60 : tagg Tryz.prog 60 = some false := by kernel_rfl
@[simp] theorem o60 : tzero Tryz.prog 60 = some [.slice none 0 0] := by kernel_rfl
@[simp] theorem q60 : tcomp Tryz.prog 60 = false := by kernel_rfl
@[simp] theorem e60 : telem Tryz.prog 60 = some (9, 136) := by kernel_rfl
@[simp] theorem w60 : tezero Tryz.prog 60 = some [.int .i64 0, .string (ofL []), .int .i64 0, .string (ofL []), .int .i64 0, .string (ofL []), .string (ofL []), .slice none 0 0, .slice none 0 0] := by kernel_rfl
@[simp] theorem y60 : tbyte Tryz.prog 60 = false := by kernel_rfl
@[simp] theorem z61 : tsz Tryz.prog 61 = some 3 := by kernel_rfl
@[simp] theorem c61 : tcode Tryz.prog 61 = 8 := by kernel_rfl
@[simp] theorem i61 : tint Tryz.prog 61 = none := by kernel_rfl
@[simp] theorem a61 : tagg Tryz.prog 61 = some true := by kernel_rfl
@[simp] theorem o61 : tzero Tryz.prog 61 = some [.string (ofL []), .slice none 0 0, .slice none 0 0] := by kernel_rfl
@[simp] theorem q61 : tcomp Tryz.prog 61 = false := by kernel_rfl
@[simp] theorem y61 : tbyte Tryz.prog 61 = false := by kernel_rfl
@[simp] theorem f61_0 : tfld Tryz.prog 61 0 = some (0, false, 1) := by kernel_rfl
@[simp] theorem f61_1 : tfld Tryz.prog 61 1 = some (1, false, 1) := by kernel_rfl
@[simp] theorem f61_2 : tfld Tryz.prog 61 2 = some (2, false, 1) := by kernel_rfl
@[simp] theorem p61 : tplaces Tryz.prog 61 = some [(0, 1), (1, 1), (2, 1)] := by kernel_rfl
@[simp] theorem z62 : tsz Tryz.prog 62 = some 3 := by kernel_rfl
@[simp] theorem c62 : tcode Tryz.prog 62 = 8 := by kernel_rfl
@[simp] theorem i62 : tint Tryz.prog 62 = none := by kernel_rfl
@[simp] theorem a62 : tagg Tryz.prog 62 = some true := by kernel_rfl
@[simp] theorem o62 : tzero Tryz.prog 62 = some [.string (ofL []), .slice none 0 0, .slice none 0 0] := by kernel_rfl
@[simp] theorem q62 : tcomp Tryz.prog 62 = false := by kernel_rfl
@[simp] theorem y62 : tbyte Tryz.prog 62 = false := by kernel_rfl
@[simp] theorem f62_0 : tfld Tryz.prog 62 0 = some (0, false, 1) := by kernel_rfl
@[simp] theorem f62_1 : tfld Tryz.prog 62 1 = some (1, false, 1) := by kernel_rfl
@[simp] theorem f62_2 : tfld Tryz.prog 62 2 = some (2, false, 1) := by kernel_rfl
@[simp] theorem p62 : tplaces Tryz.prog 62 = some [(0, 1), (1, 1), (2, 1)] := by kernel_rfl
@[simp] theorem z65 : tsz Tryz.prog 65 = some 1 := by kernel_rfl
@[simp] theorem c65 : tcode Tryz.prog 65 = 7 := by kernel_rfl
@[simp] theorem i65 : tint Tryz.prog 65 = none := by kernel_rfl
@[simp] theorem a65 : tagg Tryz.prog 65 = some false := by kernel_rfl
@[simp] theorem o65 : tzero Tryz.prog 65 = some [.nilFunc] := by kernel_rfl
@[simp] theorem q65 : tcomp Tryz.prog 65 = false := by kernel_rfl
@[simp] theorem y65 : tbyte Tryz.prog 65 = false := by kernel_rfl
@[simp] theorem z73 : tsz Tryz.prog 73 = some 1 := by kernel_rfl
@[simp] theorem c73 : tcode Tryz.prog 73 = 7 := by kernel_rfl
@[simp] theorem i73 : tint Tryz.prog 73 = none := by kernel_rfl
@[simp] theorem a73 : tagg Tryz.prog 73 = some false := by kernel_rfl
@[simp] theorem o73 : tzero Tryz.prog 73 = some [.nilFunc] := by kernel_rfl
@[simp] theorem q73 : tcomp Tryz.prog 73 = false := by kernel_rfl
@[simp] theorem y73 : tbyte Tryz.prog 73 = false := by kernel_rfl
@[simp] theorem z74 : tsz Tryz.prog 74 = some 1 := by kernel_rfl
@[simp] theorem c74 : tcode Tryz.prog 74 = 4 := by kernel_rfl
@[simp] theorem i74 : tint Tryz.prog 74 = none := by kernel_rfl
@[simp] theorem a74 : tagg Tryz.prog 74 = some false := by kernel_rfl
@[simp] theorem o74 : tzero Tryz.prog 74 = some [.pointer none] := by kernel_rfl
@[simp] theorem q74 : tcomp Tryz.prog 74 = true := by kernel_rfl
@[simp] theorem y74 : tbyte Tryz.prog 74 = false := by kernel_rfl
@[simp] theorem z76 : tsz Tryz.prog 76 = some 3 := by kernel_rfl
@[simp] theorem c76 : tcode Tryz.prog 76 = 8 := by kernel_rfl
@[simp] theorem i76 : tint Tryz.prog 76 = none := by kernel_rfl
@[simp] theorem a76 : tagg Tryz.prog 76 = some true := by kernel_rfl
@[simp] theorem o76 : tzero Tryz.prog 76 = some [.int .i64 0, .int .i64 0, .int .i64 0] := by kernel_rfl
@[simp] theorem s76 : tsfl Tryz.prog 76 = some [(0, 3, false, 1), (1, 3, false, 1), (2, 3, false, 1)] := by kernel_rfl
@[simp] theorem q76 : tcomp Tryz.prog 76 = true := by kernel_rfl
@[simp] theorem y76 : tbyte Tryz.prog 76 = false := by kernel_rfl
@[simp] theorem f76_0 : tfld Tryz.prog 76 0 = some (0, false, 1) := by kernel_rfl
@[simp] theorem f76_1 : tfld Tryz.prog 76 1 = some (1, false, 1) := by kernel_rfl
@[simp] theorem f76_2 : tfld Tryz.prog 76 2 = some (2, false, 1) := by kernel_rfl
@[simp] theorem p76 : tplaces Tryz.prog 76 = some [(0, 1), (1, 1), (2, 1)] := by kernel_rfl
@[simp] theorem z77 : tsz Tryz.prog 77 = some 3 := by kernel_rfl
@[simp] theorem c77 : tcode Tryz.prog 77 = 8 := by kernel_rfl
@[simp] theorem i77 : tint Tryz.prog 77 = none := by kernel_rfl
@[simp] theorem a77 : tagg Tryz.prog 77 = some true := by kernel_rfl
@[simp] theorem o77 : tzero Tryz.prog 77 = some [.int .i64 0, .int .i64 0, .int .i64 0] := by kernel_rfl
@[simp] theorem s77 : tsfl Tryz.prog 77 = some [(0, 3, false, 1), (1, 3, false, 1), (2, 3, false, 1)] := by kernel_rfl
@[simp] theorem q77 : tcomp Tryz.prog 77 = true := by kernel_rfl
@[simp] theorem y77 : tbyte Tryz.prog 77 = false := by kernel_rfl
@[simp] theorem f77_0 : tfld Tryz.prog 77 0 = some (0, false, 1) := by kernel_rfl
@[simp] theorem f77_1 : tfld Tryz.prog 77 1 = some (1, false, 1) := by kernel_rfl
@[simp] theorem f77_2 : tfld Tryz.prog 77 2 = some (2, false, 1) := by kernel_rfl
@[simp] theorem p77 : tplaces Tryz.prog 77 = some [(0, 1), (1, 1), (2, 1)] := by kernel_rfl
@[simp] theorem z78 : tsz Tryz.prog 78 = some 4 := by kernel_rfl
@[simp] theorem c78 : tcode Tryz.prog 78 = 8 := by kernel_rfl
@[simp] theorem i78 : tint Tryz.prog 78 = none := by kernel_rfl
@[simp] theorem a78 : tagg Tryz.prog 78 = some true := by kernel_rfl
@[simp] theorem o78 : tzero Tryz.prog 78 = some [.string (ofL []), .int .i64 0, .int .i64 0, .int .i64 0] := by kernel_rfl
@[simp] theorem s78 : tsfl Tryz.prog 78 = some [(0, 9, false, 1), (1, 77, true, 3)] := by kernel_rfl
@[simp] theorem q78 : tcomp Tryz.prog 78 = true := by kernel_rfl
@[simp] theorem y78 : tbyte Tryz.prog 78 = false := by kernel_rfl
@[simp] theorem f78_0 : tfld Tryz.prog 78 0 = some (0, false, 1) := by kernel_rfl
@[simp] theorem f78_1 : tfld Tryz.prog 78 1 = some (1, true, 3) := by kernel_rfl
@[simp] theorem p78 : tplaces Tryz.prog 78 = some [(0, 1), (1, 3)] := by kernel_rfl
@[simp] theorem z79 : tsz Tryz.prog 79 = some 4 := by kernel_rfl
@[simp] theorem c79 : tcode Tryz.prog 79 = 8 := by kernel_rfl
@[simp] theorem i79 : tint Tryz.prog 79 = none := by kernel_rfl
@[simp] theorem a79 : tagg Tryz.prog 79 = some true := by kernel_rfl
@[simp] theorem o79 : tzero Tryz.prog 79 = some [.string (ofL []), .int .i64 0, .int .i64 0, .int .i64 0] := by kernel_rfl
@[simp] theorem s79 : tsfl Tryz.prog 79 = some [(0, 9, false, 1), (1, 77, true, 3)] := by kernel_rfl
@[simp] theorem q79 : tcomp Tryz.prog 79 = true := by kernel_rfl
@[simp] theorem y79 : tbyte Tryz.prog 79 = false := by kernel_rfl
@[simp] theorem f79_0 : tfld Tryz.prog 79 0 = some (0, false, 1) := by kernel_rfl
@[simp] theorem f79_1 : tfld Tryz.prog 79 1 = some (1, true, 3) := by kernel_rfl
@[simp] theorem p79 : tplaces Tryz.prog 79 = some [(0, 1), (1, 3)] := by kernel_rfl
@[simp] theorem z80 : tsz Tryz.prog 80 = some 1 := by kernel_rfl
@[simp] theorem c80 : tcode Tryz.prog 80 = 4 := by kernel_rfl
@[simp] theorem i80 : tint Tryz.prog 80 = none := by kernel_rfl
@[simp] theorem a80 : tagg Tryz.prog 80 = some false := by kernel_rfl
@[simp] theorem o80 : tzero Tryz.prog 80 = some [.pointer none] := by kernel_rfl
@[simp] theorem q80 : tcomp Tryz.prog 80 = true := by kernel_rfl
@[simp] theorem y80 : tbyte Tryz.prog 80 = false := by kernel_rfl
@[simp] theorem z81 : tsz Tryz.prog 81 = some 1 := by kernel_rfl
@[simp] theorem c81 : tcode Tryz.prog 81 = 5 := by kernel_rfl
@[simp] theorem i81 : tint Tryz.prog 81 = none := by kernel_rfl
@[simp] theorem a81 : tagg Tryz.prog 81 = some false := by kernel_rfl
@[simp] theorem o81 : tzero Tryz.prog 81 = some [.slice none 0 0] := by kernel_rfl
@[simp] theorem q81 : tcomp Tryz.prog 81 = false := by kernel_rfl
@[simp] theorem e81 : telem Tryz.prog 81 = some (1, 1) := by kernel_rfl
@[simp] theorem w81 : tezero Tryz.prog 81 = some [.int .u8 0] := by kernel_rfl
@[simp] theorem y81 : tbyte Tryz.prog 81 = true := by kernel_rfl
@[simp] theorem z82 : tsz Tryz.prog 82 = some 2 := by kernel_rfl
@[simp] theorem c82 : tcode Tryz.prog 82 = 8 := by kernel_rfl
@[simp] theorem i82 : tint Tryz.prog 82 = none := by kernel_rfl
@[simp] theorem a82 : tagg Tryz.prog 82 = some true := by kernel_rfl
@[simp] theorem o82 : tzero Tryz.prog 82 = some [.pointer none, .slice none 0 0] := by kernel_rfl
@[simp] theorem q82 : tcomp Tryz.prog 82 = false := by kernel_rfl
@[simp] theorem y82 : tbyte Tryz.prog 82 = false := by kernel_rfl
@[simp] theorem f82_0 : tfld Tryz.prog 82 0 = some (0, false, 1) := by kernel_rfl
@[simp] theorem f82_1 : tfld Tryz.prog 82 1 = some (1, false, 1) := by kernel_rfl
@[simp] theorem p82 : tplaces Tryz.prog 82 = some [(0, 1), (1, 1)] := by kernel_rfl
@[simp] theorem z83 : tsz Tryz.prog 83 = some 2 := by kernel_rfl
@[simp] theorem c83 : tcode Tryz.prog 83 = 8 := by kernel_rfl
@[simp] theorem i83 : tint Tryz.prog 83 = none := by kernel_rfl
@[simp] theorem a83 : tagg Tryz.prog 83 = some true := by kernel_rfl
@[simp] theorem o83 : tzero Tryz.prog 83 = some [.pointer none, .slice none 0 0] := by kernel_rfl
@[simp] theorem q83 : tcomp Tryz.prog 83 = false := by kernel_rfl
@[simp] theorem y83 : tbyte Tryz.prog 83 = false := by kernel_rfl
@[simp] theorem f83_0 : tfld Tryz.prog 83 0 = some (0, false, 1) := by kernel_rfl
@[simp] theorem f83_1 : tfld Tryz.prog 83 1 = some (1, false, 1) := by kernel_rfl
@[simp] theorem p83 : tplaces Tryz.prog 83 = some [(0, 1), (1, 1)] := by kernel_rfl
@[simp] theorem z84 : tsz Tryz.prog 84 = some 1 := by kernel_rfl
@[simp] theorem c84 : tcode Tryz.prog 84 = 7 := by kernel_rfl
@[simp] theorem i84 : tint Tryz.prog 84 = none := by kernel_rfl
@[simp] theorem a84 : tagg Tryz.prog 84 = some false := by kernel_rfl
@[simp] theorem o84 : tzero Tryz.prog 84 = some [.nilFunc] := by kernel_rfl
@[simp] theorem q84 : tcomp Tryz.prog 84 = false := by kernel_rfl
@[simp] theorem y84 : tbyte Tryz.prog 84 = false := by kernel_rfl
@[simp] theorem z89 : tsz Tryz.prog 89 = some 6 := by kernel_rfl
@[simp] theorem c89 : tcode Tryz.prog 89 = 8 := by kernel_rfl
@[simp] theorem i89 : tint Tryz.prog 89 = none := by kernel_rfl
@[simp] theorem a89 : tagg Tryz.prog 89 = some true := by kernel_rfl
@[simp] theorem o89 : tzero Tryz.prog 89 = some [.int .i64 0, .int .i64 0, .int .i64 0, .int .i64 0, .int .i64 0, .int .i64 0] := by kernel_rfl
@[simp] theorem s89 : tsfl Tryz.prog 89 = some [(0, 77, true, 3), (3, 77, true, 3)] := by kernel_rfl
@[simp] theorem q89 : tcomp Tryz.prog 89 = true := by kernel_rfl
@[simp] theorem y89 : tbyte Tryz.prog 89 = false := by kernel_rfl
@[simp] theorem f89_0 : tfld Tryz.prog 89 0 = some (0, true, 3) := by kernel_rfl
@[simp] theorem f89_1 : tfld Tryz.prog 89 1 = some (3, true, 3) := by kernel_rfl
@[simp] theorem p89 : tplaces Tryz.prog 89 = some [(0, 3), (3, 3)] := by kernel_rfl
@[simp] theorem z90 : tsz Tryz.prog 90 = some 6 := by kernel_rfl
@[simp] theorem c90 : tcode Tryz.prog 90 = 8 := by kernel_rfl
@[simp] theorem i90 : tint Tryz.prog 90 = none := by kernel_rfl
@[simp] theorem a90 : tagg Tryz.prog 90 = some true := by kernel_rfl
@[simp] theorem o90 : tzero Tryz.prog 90 = some [.int .i64 0, .int .i64 0, .int .i64 0, .int .i64 0, .int .i64 0, .int .i64 0] := by kernel_rfl
@[simp] theorem s90 : tsfl Tryz.prog 90 = some [(0, 77, true, 3), (3, 77, true, 3)] := by kernel_rfl
@[simp] theorem q90 : tcomp Tryz.prog 90 = true := by kernel_rfl
@[simp] theorem y90 : tbyte Tryz.prog 90 = false := by kernel_rfl
@[simp] theorem f90_0 : tfld Tryz.prog 90 0 = some (0, true, 3) := by kernel_rfl
@[simp] theorem f90_1 : tfld Tryz.prog 90 1 = some (3, true, 3) := by kernel_rfl
@[simp] theorem p90 : tplaces Tryz.prog 90 = some [(0, 3), (3, 3)] := by kernel_rfl
@[simp] theorem z91 : tsz Tryz.prog 91 = some 7 := by kernel_rfl
@[simp] theorem c91 : tcode Tryz.prog 91 = 8 := by kernel_rfl
@[simp] theorem i91 : tint Tryz.prog 91 = none := by kernel_rfl
@[simp] theorem a91 : tagg Tryz.prog 91 = some true := by kernel_rfl
@[simp] theorem o91 : tzero Tryz.prog 91 = some [.string (ofL []), .int .i64 0, .int .i64 0, .int .i64 0, .int .i64 0, .int .i64 0, .int .i64 0] := by kernel_rfl
@[simp] theorem s91 : tsfl Tryz.prog 91 = some [(0, 9, false, 1), (1, 90, true, 6)] := by kernel_rfl
@[simp] theorem q91 : tcomp Tryz.prog 91 = true := by kernel_rfl
@[simp] theorem y91 : tbyte Tryz.prog 91 = false := by kernel_rfl
@[simp] theorem f91_0 : tfld Tryz.prog 91 0 = some (0, false, 1) := by kernel_rfl
@[simp] theorem f91_1 : tfld Tryz.prog 91 1 = some (1, true, 6) := by kernel_rfl
@[simp] theorem p91 : tplaces Tryz.prog 91 = some [(0, 1), (1, 6)] := by kernel_rfl
@[simp] theorem z92 : tsz Tryz.prog 92 = some 7 := by kernel_rfl
@[simp] theorem c92 : tcode Tryz.prog 92 = 8 := by kernel_rfl
@[simp] theorem i92 : tint Tryz.prog 92 = none := by kernel_rfl
@[simp] theorem a92 : tagg Tryz.prog 92 = some true := by kernel_rfl
@[simp] theorem o92 : tzero Tryz.prog 92 = some [.string (ofL []), .int .i64 0, .int .i64 0, .int .i64 0, .int .i64 0, .int .i64 0, .int .i64 0] := by kernel_rfl
@[simp] theorem s92 : tsfl Tryz.prog 92 = some [(0, 9, false, 1), (1, 90, true, 6)] := by kernel_rfl
@[simp] theorem q92 : tcomp Tryz.prog 92 = true := by kernel_rfl
@[simp] theorem y92 : tbyte Tryz.prog 92 = false := by kernel_rfl
@[simp] theorem f92_0 : tfld Tryz.prog 92 0 = some (0, false, 1) := by kernel_rfl
@[simp] theorem f92_1 : tfld Tryz.prog 92 1 = some (1, true, 6) := by kernel_rfl
@[simp] theorem p92 : tplaces Tryz.prog 92 = some [(0, 1), (1, 6)] := by kernel_rfl
@[simp] theorem z93 : tsz Tryz.prog 93 = some 1 := by kernel_rfl
@[simp] theorem c93 : tcode Tryz.prog 93 = 7 := by kernel_rfl
@[simp] theorem i93 : tint Tryz.prog 93 = none := by kernel_rfl
@[simp] theorem a93 : tagg Tryz.prog 93 = some false := by kernel_rfl
@[simp] theorem o93 : tzero Tryz.prog 93 = some [.nilFunc] := by kernel_rfl
@[simp] theorem q93 : tcomp Tryz.prog 93 = false := by kernel_rfl
@[simp] theorem y93 : tbyte Tryz.prog 93 = false := by kernel_rfl
@[simp] theorem z97 : tsz Tryz.prog 97 = some 1 := by kernel_rfl
@[simp] theorem c97 : tcode Tryz.prog 97 = 7 := by kernel_rfl
@[simp] theorem i97 : tint Tryz.prog 97 = none := by kernel_rfl
@[simp] theorem a97 : tagg Tryz.prog 97 = some false := by kernel_rfl
@[simp] theorem o97 : tzero Tryz.prog 97 = some [.nilFunc] := by kernel_rfl
@[simp] theorem q97 : tcomp Tryz.prog 97 = false := by kernel_rfl
@[simp] theorem y97 : tbyte Tryz.prog 97 = false := by kernel_rfl
@[simp] theorem z98 : tsz Tryz.prog 98 = some 1 := by kernel_rfl
@[simp] theorem c98 : tcode Tryz.prog 98 = 7 := by kernel_rfl
@[simp] theorem i98 : tint Tryz.prog 98 = none := by kernel_rfl
@[simp] theorem a98 : tagg Tryz.prog 98 = some false := by kernel_rfl
@[simp] theorem o98 : tzero Tryz.prog 98 = some [.nilFunc] := by kernel_rfl
@[simp] theorem q98 : tcomp Tryz.prog 98 = false := by kernel_rfl
@[simp] theorem y98 : tbyte Tryz.prog 98 = false := by kernel_rfl
@[simp] theorem z99 : tsz Tryz.prog 99 = some 1 := by kernel_rfl
@[simp] theorem c99 : tcode Tryz.prog 99 = 7 := by kernel_rfl
@[simp] theorem i99 : tint Tryz.prog 99 = none := by kernel_rfl
@[simp] theorem a99 : tagg Tryz.prog 99 = some false := by kernel_rfl
@[simp] theorem o99 : tzero Tryz.prog 99 = some [.nilFunc] := by kernel_rfl
@[simp] theorem q99 : tcomp Tryz.prog 99 = false := by kernel_rfl
@[simp] theorem y99 : tbyte Tryz.prog 99 = false := by kernel_rfl
@[simp] theorem z100 : tsz Tryz.prog 100 = some 1 := by kernel_rfl
@[simp] theorem c100 : tcode Tryz.prog 100 = 10 := by kernel_rfl
@[simp] theorem i100 : tint Tryz.prog 100 = none := by kernel_rfl
@[simp] theorem q100 : tcomp Tryz.prog 100 = false := by kernel_rfl
@[simp] theorem y100 : tbyte Tryz.prog 100 = false := by kernel_rfl
@[simp] theorem z101 : tsz Tryz.prog 101 = some 1 := by kernel_rfl
@[simp] theorem c101 : tcode Tryz.prog 101 = 7 := by kernel_rfl
@[simp] theorem i101 : tint Tryz.prog 101 = none := by kernel_rfl
@[simp] theorem a101 : tagg Tryz.prog 101 = some false := by kernel_rfl
@[simp] theorem o101 : tzero Tryz.prog 101 = some [.nilFunc] := by kernel_rfl
@[simp] theorem q101 : tcomp Tryz.prog 101 = false := by kernel_rfl
@[simp] theorem y101 : tbyte Tryz.prog 101 = false := by kernel_rfl
@[simp] theorem z102 : tsz Tryz.prog 102 = some 1 := by kernel_rfl
@[simp] theorem c102 : tcode Tryz.prog 102 = 7 := by kernel_rfl
@[simp] theorem i102 : tint Tryz.prog 102 = none := by kernel_rfl
@[simp] theorem a102 : tagg Tryz.prog 102 = some false := by kernel_rfl
@[simp] theorem o102 : tzero Tryz.prog 102 = some [.nilFunc] := by kernel_rfl
@[simp] theorem q102 : tcomp Tryz.prog 102 = false := by kernel_rfl
@[simp] theorem y102 : tbyte Tryz.prog 102 = false := by kernel_rfl
@[simp] theorem z104 : tsz Tryz.prog 104 = some 1 := by kernel_rfl
@[simp] theorem c104 : tcode Tryz.prog 104 = 7 := by kernel_rfl
@[simp] theorem i104 : tint Tryz.prog 104 = none := by kernel_rfl
@[simp] theorem a104 : tagg Tryz.prog 104 = some false := by kernel_rfl
@[simp] theorem o104 : tzero Tryz.prog 104 = some [.nilFunc] := by kernel_rfl
@[simp] theorem q104 : tcomp Tryz.prog 104 = false := by kernel_rfl
@[simp] theorem y104 : tbyte Tryz.prog 104 = false := by kernel_rfl
@[simp] theorem z108 : tsz Tryz.prog 108 = some 1 := by kernel_rfl
@[simp] theorem c108 : tcode Tryz.prog 108 = 4 := by kernel_rfl
@[simp] theorem i108 : tint Tryz.prog 108 = none := by kernel_rfl
@[simp] theorem a108 : tagg Tryz.prog 108 = some false := by kernel_rfl
@[simp] theorem o108 : tzero Tryz.prog 108 = some [.pointer none] := by kernel_rfl
@[simp] theorem q108 : tcomp Tryz.prog 108 = true := by kernel_rfl
@[simp] theorem y108 : tbyte Tryz.prog 108 = false := by kernel_rfl
@[simp] theorem z109 : tsz Tryz.prog 109 = some 2 := by kernel_rfl
@[simp] theorem c109 : tcode Tryz.prog 109 = 8 := by kernel_rfl
@[simp] theorem i109 : tint Tryz.prog 109 = none := by kernel_rfl
@[simp] theorem a109 : tagg Tryz.prog 109 = some true := by kernel_rfl
@[simp] theorem o109 : tzero Tryz.prog 109 = some [.int .i64 0, .nilIface] := by kernel_rfl
@[simp] theorem q109 : tcomp Tryz.prog 109 = true := by kernel_rfl
@[simp] theorem y109 : tbyte Tryz.prog 109 = false := by kernel_rfl
@[simp] theorem f109_0 : tfld Tryz.prog 109 0 = some (0, false, 1) := by kernel_rfl
@[simp] theorem f109_1 : tfld Tryz.prog 109 1 = some (1, false, 1) := by kernel_rfl
@[simp] theorem p109 : tplaces Tryz.prog 109 = some [(0, 1), (1, 1)] := by kernel_rfl
@[simp] theorem z110 : tsz Tryz.prog 110 = some 2 := by kernel_rfl
@[simp] theorem c110 : tcode Tryz.prog 110 = 8 := by kernel_rfl
@[simp] theorem i110 : tint Tryz.prog 110 = none := by kernel_rfl
@[simp] theorem a110 : tagg Tryz.prog 110 = some true := by kernel_rfl
@[simp] theorem o110 : tzero Tryz.prog 110 = some [.int .i64 0, .nilIface] := by kernel_rfl
@[simp] theorem q110 : tcomp Tryz.prog 110 = true := by kernel_rfl
@[simp] theorem y110 : tbyte Tryz.prog 110 = false := by kernel_rfl
@[simp] theorem f110_0 : tfld Tryz.prog 110 0 = some (0, false, 1) := by kernel_rfl
@[simp] theorem f110_1 : tfld Tryz.prog 110 1 = some (1, false, 1) := by kernel_rfl
@[simp] theorem p110 : tplaces Tryz.prog 110 = some [(0, 1), (1, 1)] := by kernel_rfl
@[simp] theorem z111 : tsz Tryz.prog 111 = some 1 := by kernel_rfl
@[simp] theorem c111 : tcode Tryz.prog 111 = 4 := by kernel_rfl
@[simp] theorem i111 : tint Tryz.prog 111 = none := by kernel_rfl
@[simp] theorem a111 : tagg Tryz.prog 111 = some false := by kernel_rfl
@[simp] theorem o111 : tzero Tryz.prog 111 = some [.pointer none] := by kernel_rfl
@[simp] theorem q111 : tcomp Tryz.prog 111 = true := by kernel_rfl
@[simp] theorem y111 : tbyte Tryz.prog 111 = false := by kernel_rfl
@[simp] theorem z112 : tsz Tryz.prog 112 = some 4 := by kernel_rfl
@[simp] theorem c112 : tcode Tryz.prog 112 = 8 := by kernel_rfl
@[simp] theorem i112 : tint Tryz.prog 112 = none := by kernel_rfl
@[simp] theorem a112 : tagg Tryz.prog 112 = some true := by kernel_rfl
@[simp] theorem o112 : tzero Tryz.prog 112 = some [.slice none 0 0, .int .i64 0, .int .i64 0, .nilIface] := by kernel_rfl
@[simp] theorem q112 : tcomp Tryz.prog 112 = false := by kernel_rfl
@[simp] theorem y112 : tbyte Tryz.prog 112 = false := by kernel_rfl
@[simp] theorem f112_0 : tfld Tryz.prog 112 0 = some (0, false, 1) := by kernel_rfl
@[simp] theorem f112_1 : tfld Tryz.prog 112 1 = some (1, false, 1) := by kernel_rfl
@[simp] theorem f112_2 : tfld Tryz.prog 112 2 = some (2, false, 1) := by kernel_rfl
@[simp] theorem f112_3 : tfld Tryz.prog 112 3 = some (3, false, 1) := by kernel_rfl
@[simp] theorem p112 : tplaces Tryz.prog 112 = some [(0, 1), (1, 1), (2, 1), (3, 1)] := by kernel_rfl
@[simp] theorem z113 : tsz Tryz.prog 113 = some 4 := by kernel_rfl
@[simp] theorem c113 : tcode Tryz.prog 113 = 8 := by kernel_rfl
@[simp] theorem i113 : tint Tryz.prog 113 = none := by kernel_rfl
@[simp] theorem a113 : tagg Tryz.prog 113 = some true := by kernel_rfl
@[simp] theorem o113 : tzero Tryz.prog 113 = some [.slice none 0 0, .int .i64 0, .int .i64 0, .nilIface] := by kernel_rfl
@[simp] theorem q113 : tcomp Tryz.prog 113 = false := by kernel_rfl
@[simp] theorem y113 : tbyte Tryz.prog 113 = false := by kernel_rfl
@[simp] theorem f113_0 : tfld Tryz.prog 113 0 = some (0, false, 1) := by kernel_rfl
@[simp] theorem f113_1 : tfld Tryz.prog 113 1 = some (1, false, 1) := by kernel_rfl
@[simp] theorem f113_2 : tfld Tryz.prog 113 2 = some (2, false, 1) := by kernel_rfl
@[simp] theorem f113_3 : tfld Tryz.prog 113 3 = some (3, false, 1) := by kernel_rfl
@[simp] theorem p113 : tplaces Tryz.prog 113 = some [(0, 1), (1, 1), (2, 1), (3, 1)] := by kernel_rfl
@[simp] theorem z115 : tsz Tryz.prog 115 = some 1 := by kernel_rfl
@[simp] theorem c115 : tcode Tryz.prog 115 = 7 := by kernel_rfl
@[simp] theorem i115 : tint Tryz.prog 115 = none := by kernel_rfl
@[simp] theorem a115 : tagg Tryz.prog 115 = some false := by kernel_rfl
@[simp] theorem o115 : tzero Tryz.prog 115 = some [.nilFunc] := by kernel_rfl
@[simp] theorem q115 : tcomp Tryz.prog 115 = false := by kernel_rfl
@[simp] theorem y115 : tbyte Tryz.prog 115 = false := by kernel_rfl
@[simp] theorem z116 : tsz Tryz.prog 116 = some 1 := by kernel_rfl
@[simp] theorem c116 : tcode Tryz.prog 116 = 4 := by kernel_rfl
@[simp] theorem i116 : tint Tryz.prog 116 = none := by kernel_rfl
@[simp] theorem a116 : tagg Tryz.prog 116 = some false := by kernel_rfl
@[simp] theorem o116 : tzero Tryz.prog 116 = some [.pointer none] := by kernel_rfl
@[simp] theorem q116 : tcomp Tryz.prog 116 = true := by kernel_rfl
@[simp] theorem y116 : tbyte Tryz.prog 116 = false := by kernel_rfl
@[simp] theorem z117 : tsz Tryz.prog 117 = some 4 := by kernel_rfl
@[simp] theorem c117 : tcode Tryz.prog 117 = 8 := by kernel_rfl
@[simp] theorem i117 : tint Tryz.prog 117 = none := by kernel_rfl
@[simp] theorem a117 : tagg Tryz.prog 117 = some true := by kernel_rfl
@[simp] theorem o117 : tzero Tryz.prog 117 = some [.slice none 0 0, .int .i64 0, .int .i64 0, .int .i64 0] := by kernel_rfl
@[simp] theorem q117 : tcomp Tryz.prog 117 = false := by kernel_rfl
@[simp] theorem y117 : tbyte Tryz.prog 117 = false := by kernel_rfl
@[simp] theorem f117_0 : tfld Tryz.prog 117 0 = some (0, false, 1) := by kernel_rfl
@[simp] theorem f117_1 : tfld Tryz.prog 117 1 = some (1, false, 1) := by kernel_rfl
@[simp] theorem f117_2 : tfld Tryz.prog 117 2 = some (2, false, 1) := by kernel_rfl
@[simp] theorem f117_3 : tfld Tryz.prog 117 3 = some (3, false, 1) := by kernel_rfl
@[simp] theorem p117 : tplaces Tryz.prog 117 = some [(0, 1), (1, 1), (2, 1), (3, 1)] := by kernel_rfl
@[simp] theorem z118 : tsz Tryz.prog 118 = some 4 := by kernel_rfl
@[simp] theorem c118 : tcode Tryz.prog 118 = 8 := by kernel_rfl
@[simp] theorem i118 : tint Tryz.prog 118 = none := by kernel_rfl
@[simp] theorem a118 : tagg Tryz.prog 118 = some true := by kernel_rfl
@[simp] theorem o118 : tzero Tryz.prog 118 = some [.slice none 0 0, .int .i64 0, .int .i64 0, .int .i64 0] := by kernel_rfl
@[simp] theorem q118 : tcomp Tryz.prog 118 = false := by kernel_rfl
@[simp] theorem y118 : tbyte Tryz.prog 118 = false := by kernel_rfl
@[simp] theorem f118_0 : tfld Tryz.prog 118 0 = some (0, false, 1) := by kernel_rfl
@[simp] theorem f118_1 : tfld Tryz.prog 118 1 = some (1, false, 1) := by kernel_rfl
@[simp] theorem f118_2 : tfld Tryz.prog 118 2 = some (2, false, 1) := by kernel_rfl
@[simp] theorem f118_3 : tfld Tryz.prog 118 3 = some (3, false, 1) := by kernel_rfl
@[simp] theorem p118 : tplaces Tryz.prog 118 = some [(0, 1), (1, 1), (2, 1), (3, 1)] := by kernel_rfl
@[simp] theorem z120 : tsz Tryz.prog 120 = some 1 := by kernel_rfl
@[simp] theorem c120 : tcode Tryz.prog 120 = 4 := by kernel_rfl
@[simp] theorem i120 : tint Tryz.prog 120 = none := by kernel_rfl
@[simp] theorem a120 : tagg Tryz.prog 120 = some false := by kernel_rfl
@[simp] theorem o120 : tzero Tryz.prog 120 = some [.pointer none] := by kernel_rfl
@[simp] theorem q120 : tcomp Tryz.prog 120 = true := by kernel_rfl
@[simp] theorem y120 : tbyte Tryz.prog 120 = false := by kernel_rfl
@[simp] theorem z122 : tsz Tryz.prog 122 = some 9 := by kernel_rfl
@[simp] theorem c122 : tcode Tryz.prog 122 = 8 := by kernel_rfl
@[simp] theorem i122 : tint Tryz.prog 122 = none := by kernel_rfl
@[simp] theorem a122 : tagg Tryz.prog 122 = some true := by kernel_rfl
@[simp] theorem o122 : tzero Tryz.prog 122 = some [.int .i64 0, .string (ofL []), .int .i64 0, .string (ofL []), .int .i64 0, .string (ofL []), .string (ofL []), .slice none 0 0, .slice none 0 0] := by kernel_rfl
@[simp] theorem q122 : tcomp Tryz.prog 122 = false := by kernel_rfl
@[simp] theorem y122 : tbyte Tryz.prog 122 = false := by kernel_rfl
@[simp] theorem f122_0 : tfld Tryz.prog 122 0 = some (0, false, 1) := by kernel_rfl
@[simp] theorem f122_1 : tfld Tryz.prog 122 1 = some (1, false, 1) := by kernel_rfl
@[simp] theorem f122_2 : tfld Tryz.prog 122 2 = some (2, true, 7) := by kernel_rfl
@[simp] theorem p122 : tplaces Tryz.prog 122 = some [(0, 1), (1, 1), (2, 7)] := by kernel_rfl
@[simp] theorem z123 : tsz Tryz.prog 123 = some 9 := by kernel_rfl
@[simp] theorem c123 : tcode Tryz.prog 123 = 8 := by kernel_rfl
@[simp] theorem i123 : tint Tryz.prog 123 = none := by kernel_rfl
@[simp] theorem a123 : tagg Tryz.prog 123 = some true := by kernel_rfl
@[simp] theorem o123 : tzero Tryz.prog 123 = some [.int .i64 0, .string (ofL []), .int .i64 0, .string (ofL []), .int .i64 0, .string (ofL []), .string (ofL []), .slice none 0 0, .slice none 0 0] := by kernel_rfl
@[simp] theorem q123 : tcomp Tryz.prog 123 = false := by kernel_rfl
@[simp] theorem y123 : tbyte Tryz.prog 123 = false := by kernel_rfl
@[simp] theorem f123_0 : tfld Tryz.prog 123 0 = some (0, false, 1) := by kernel_rfl
@[simp] theorem f123_1 : tfld Tryz.prog 123 1 = some (1, false, 1) := by kernel_rfl
@[simp] theorem f123_2 : tfld Tryz.prog 123 2 = some (2, true, 7) := by kernel_rfl
@[simp] theorem p123 : tplaces Tryz.prog 123 = some [(0, 1), (1, 1), (2, 7)] := by kernel_rfl
@[simp] theorem z124 : tsz Tryz.prog 124 = some 1 := by kernel_rfl
@[simp] theorem c124 : tcode Tryz.prog 124 = 4 := by kernel_rfl
@[simp] theorem i124 : tint Tryz.prog 124 = none := by kernel_rfl
@[simp] theorem a124 : tagg Tryz.prog 124 = some false := by kernel_rfl
@[simp] theorem o124 : tzero Tryz.prog 124 = some [.pointer none] := by kernel_rfl
@[simp] theorem q124 : tcomp Tryz.prog 124 = true := by kernel_rfl
@[simp] theorem y124 : tbyte Tryz.prog 124 = false := by kernel_rfl
@[simp] theorem z125 : tsz Tryz.prog 125 = some 3 := by kernel_rfl
@[simp] theorem c125 : tcode Tryz.prog 125 = 8 := by kernel_rfl
@[simp] theorem i125 : tint Tryz.prog 125 = none := by kernel_rfl
@[simp] theorem a125 : tagg Tryz.prog 125 = some true := by kernel_rfl
@[simp] theorem o125 : tzero Tryz.prog 125 = some [.slice none 0 0, .int .i64 0, .nilIface] := by kernel_rfl
@[simp] theorem q125 : tcomp Tryz.prog 125 = false := by kernel_rfl
@[simp] theorem y125 : tbyte Tryz.prog 125 = false := by kernel_rfl
@[simp] theorem f125_0 : tfld Tryz.prog 125 0 = some (0, false, 1) := by kernel_rfl
@[simp] theorem f125_1 : tfld Tryz.prog 125 1 = some (1, false, 1) := by kernel_rfl
@[simp] theorem f125_2 : tfld Tryz.prog 125 2 = some (2, false, 1) := by kernel_rfl
@[simp] theorem p125 : tplaces Tryz.prog 125 = some [(0, 1), (1, 1), (2, 1)] := by kernel_rfl
@[simp] theorem z126 : tsz Tryz.prog 126 = some 3 := by kernel_rfl
@[simp] theorem c126 : tcode Tryz.prog 126 = 8 := by kernel_rfl
@[simp] theorem i126 : tint Tryz.prog 126 = none := by kernel_rfl
@[simp] theorem a126 : tagg Tryz.prog 126 = some true := by kernel_rfl
@[simp] theorem o126 : tzero Tryz.prog 126 = some [.slice none 0 0, .int .i64 0, .nilIface] := by kernel_rfl
@[simp] theorem q126 : tcomp Tryz.prog 126 = false := by kernel_rfl
@[simp] theorem y126 : tbyte Tryz.prog 126 = false := by kernel_rfl
@[simp] theorem f126_0 : tfld Tryz.prog 126 0 = some (0, false, 1) := by kernel_rfl
@[simp] theorem f126_1 : tfld Tryz.prog 126 1 = some (1, false, 1) := by kernel_rfl
@[simp] theorem f126_2 : tfld Tryz.prog 126 2 = some (2, false, 1) := by kernel_rfl
@[simp] theorem p126 : tplaces Tryz.prog 126 = some [(0, 1), (1, 1), (2, 1)] := by kernel_rfl
@[simp] theorem z128 : tsz Tryz.prog 128 = some 4 := by kernel_rfl
@[simp] theorem c128 : tcode Tryz.prog 128 = 8 := by kernel_rfl
@[simp] theorem i128 : tint Tryz.prog 128 = none := by kernel_rfl
@[simp] theorem a128 : tagg Tryz.prog 128 = some true := by kernel_rfl
@[simp] theorem o128 : tzero Tryz.prog 128 = some [.string (ofL []), .int .i64 0, .string (ofL []), .string (ofL [])] := by kernel_rfl
@[simp] theorem s128 : tsfl Tryz.prog 128 = some [(0, 9, false, 1), (1, 3, false, 1), (2, 9, false, 1), (3, 9, false, 1)] := by kernel_rfl
@[simp] theorem q128 : tcomp Tryz.prog 128 = true := by kernel_rfl
@[simp] theorem y128 : tbyte Tryz.prog 128 = false := by kernel_rfl
@[simp] theorem f128_0 : tfld Tryz.prog 128 0 = some (0, false, 1) := by kernel_rfl
@[simp] theorem f128_1 : tfld Tryz.prog 128 1 = some (1, false, 1) := by kernel_rfl
@[simp] theorem f128_2 : tfld Tryz.prog 128 2 = some (2, false, 1) := by kernel_rfl
@[simp] theorem f128_3 : tfld Tryz.prog 128 3 = some (3, false, 1) := by kernel_rfl
@[simp] theorem p128 : tplaces Tryz.prog 128 = some [(0, 1), (1, 1), (2, 1), (3, 1)] := by kernel_rfl
@[simp] theorem z129 : tsz Tryz.prog 129 = some 4 := by kernel_rfl
@[simp] theorem c129 : tcode Tryz.prog 129 = 8 := by kernel_rfl
@[simp] theorem i129 : tint Tryz.prog 129 = none := by kernel_rfl
@[simp] theorem a129 : tagg Tryz.prog 129 = some true := by kernel_rfl
@[simp] theorem o129 : tzero Tryz.prog 129 = some [.string (ofL []), .int .i64 0, .string (ofL []), .string (ofL [])] := by kernel_rfl
@[simp] theorem s129 : tsfl Tryz.prog 129 = some [(0, 9, false, 1), (1, 3, false, 1), (2, 9, false, 1), (3, 9, false, 1)] := by kernel_rfl
@[simp] theorem q129 : tcomp Tryz.prog 129 = true := by kernel_rfl
@[simp] theorem y129 : tbyte Tryz.prog 129 = false := by kernel_rfl
@[simp] theorem f129_0 : tfld Tryz.prog 129 0 = some (0, false, 1) := by kernel_rfl
@[simp] theorem f129_1 : tfld Tryz.prog 129 1 = some (1, false, 1) := by kernel_rfl
@[simp] theorem f129_2 : tfld Tryz.prog 129 2 = some (2, false, 1) := by kernel_rfl
@[simp] theorem f129_3 : tfld Tryz.prog 129 3 = some (3, false, 1) := by kernel_rfl
@[simp] theorem p129 : tplaces Tryz.prog 129 = some [(0, 1), (1, 1), (2, 1), (3, 1)] := by kernel_rfl
@[simp] theorem z132 : tsz Tryz.prog 132 = some 1 := by kernel_rfl
@[simp] theorem c132 : tcode Tryz.prog 132 = 4 := by kernel_rfl
@[simp] theorem i132 : tint Tryz.prog 132 = none := by kernel_rfl
@[simp] theorem a132 : tagg Tryz.prog 132 = some false := by kernel_rfl
@[simp] theorem o132 : tzero Tryz.prog 132 = some [.pointer none] := by kernel_rfl
@[simp] theorem q132 : tcomp Tryz.prog 132 = true := by kernel_rfl
@[simp] theorem y132 : tbyte Tryz.prog 132 = false := by kernel_rfl
@[simp] theorem z133 : tsz Tryz.prog 133 = some 3 := by kernel_rfl
@[simp] theorem c133 : tcode Tryz.prog 133 = 8 := by kernel_rfl
@[simp] theorem i133 : tint Tryz.prog 133 = none := by kernel_rfl
@[simp] theorem a133 : tagg Tryz.prog 133 = some true := by kernel_rfl
@[simp] theorem o133 : tzero Tryz.prog 133 = some [.slice none 0 0, .int .i64 0, .int .i64 0] := by kernel_rfl
@[simp] theorem q133 : tcomp Tryz.prog 133 = false := by kernel_rfl
@[simp] theorem y133 : tbyte Tryz.prog 133 = false := by kernel_rfl
@[simp] theorem f133_0 : tfld Tryz.prog 133 0 = some (0, false, 1) := by kernel_rfl
@[simp] theorem f133_1 : tfld Tryz.prog 133 1 = some (1, false, 1) := by kernel_rfl
@[simp] theorem f133_2 : tfld Tryz.prog 133 2 = some (2, false, 1) := by kernel_rfl
@[simp] theorem p133 : tplaces Tryz.prog 133 = some [(0, 1), (1, 1), (2, 1)] := by kernel_rfl
@[simp] theorem z134 : tsz Tryz.prog 134 = some 3 := by kernel_rfl
@[simp] theorem c134 : tcode Tryz.prog 134 = 8 := by kernel_rfl
@[simp] theorem i134 : tint Tryz.prog 134 = none := by kernel_rfl
@[simp] theorem a134 : tagg Tryz.prog 134 = some true := by kernel_rfl
@[simp] theorem o134 : tzero Tryz.prog 134 = some [.slice none 0 0, .int .i64 0, .int .i64 0] := by kernel_rfl
@[simp] theorem q134 : tcomp Tryz.prog 134 = false := by kernel_rfl
@[simp] theorem y134 : tbyte Tryz.prog 134 = false := by kernel_rfl
@[simp] theorem f134_0 : tfld Tryz.prog 134 0 = some (0, false, 1) := by kernel_rfl
@[simp] theorem f134_1 : tfld Tryz.prog 134 1 = some (1, false, 1) := by kernel_rfl
@[simp] theorem f134_2 : tfld Tryz.prog 134 2 = some (2, false, 1) := by kernel_rfl
@[simp] theorem p134 : tplaces Tryz.prog 134 = some [(0, 1), (1, 1), (2, 1)] := by kernel_rfl
@[simp] theorem z140 : tsz Tryz.prog 140 = some 1 := by kernel_rfl
@[simp] theorem c140 : tcode Tryz.prog 140 = 7 := by kernel_rfl
@[simp] theorem i140 : tint Tryz.prog 140 = none := by kernel_rfl
@[simp] theorem a140 : tagg Tryz.prog 140 = some false := by kernel_rfl
@[simp] theorem o140 : tzero Tryz.prog 140 = some [.nilFunc] := by kernel_rfl
@[simp] theorem q140 : tcomp Tryz.prog 140 = false := by kernel_rfl
@[simp] theorem y140 : tbyte Tryz.prog 140 = false := by kernel_rfl
@[simp] theorem z141 : tsz Tryz.prog 141 = some 1 := by kernel_rfl
@[simp] theorem c141 : tcode Tryz.prog 141 = 7 := by kernel_rfl
@[simp] theorem i141 : tint Tryz.prog 141 = none := by kernel_rfl
@[simp] theorem a141 : tagg Tryz.prog 141 = some false := by kernel_rfl
@[simp] theorem o141 : tzero Tryz.prog 141 = some [.nilFunc] := by kernel_rfl
@[simp] theorem q141 : tcomp Tryz.prog 141 = false := by kernel_rfl
@[simp] theorem y141 : tbyte Tryz.prog 141 = false := by kernel_rfl
@[simp] theorem z147 : tsz Tryz.prog 147 = some 5 := by kernel_rfl
@[simp] theorem c147 : tcode Tryz.prog 147 = 8 := by kernel_rfl
@[simp] theorem i147 : tint Tryz.prog 147 = none := by kernel_rfl
@[simp] theorem a147 : tagg Tryz.prog 147 = some true := by kernel_rfl
@[simp] theorem o147 : tzero Tryz.prog 147 = some [.string (ofL []), .int .i64 0, .int .i64 0, .int .i64 0, .slice none 0 0] := by kernel_rfl
@[simp] theorem q147 : tcomp Tryz.prog 147 = false := by kernel_rfl
@[simp] theorem y147 : tbyte Tryz.prog 147 = false := by kernel_rfl
@[simp] theorem f147_0 : tfld Tryz.prog 147 0 = some (0, false, 1) := by kernel_rfl
@[simp] theorem f147_1 : tfld Tryz.prog 147 1 = some (1, true, 3) := by kernel_rfl
@[simp] theorem f147_2 : tfld Tryz.prog 147 2 = some (4, false, 1) := by kernel_rfl
@[simp] theorem p147 : tplaces Tryz.prog 147 = some [(0, 1), (1, 3), (4, 1)] := by kernel_rfl
@[simp] theorem z148 : tsz Tryz.prog 148 = some 5 := by kernel_rfl
@[simp] theorem c148 : tcode Tryz.prog 148 = 8 := by kernel_rfl
@[simp] theorem i148 : tint Tryz.prog 148 = none := by kernel_rfl
@[simp] theorem a148 : tagg Tryz.prog 148 = some true := by kernel_rfl
@[simp] theorem o148 : tzero Tryz.prog 148 = some [.string (ofL []), .int .i64 0, .int .i64 0, .int .i64 0, .slice none 0 0] := by kernel_rfl
@[simp] theorem q148 : tcomp Tryz.prog 148 = false := by kernel_rfl
@[simp] theorem y148 : tbyte Tryz.prog 148 = false := by kernel_rfl
@[simp] theorem f148_0 : tfld Tryz.prog 148 0 = some (0, false, 1) := by kernel_rfl
@[simp] theorem f148_1 : tfld Tryz.prog 148 1 = some (1, true, 3) := by kernel_rfl
@[simp] theorem f148_2 : tfld Tryz.prog 148 2 = some (4, false, 1) := by kernel_rfl
@[simp] theorem p148 : tplaces Tryz.prog 148 = some [(0, 1), (1, 3), (4, 1)] := by kernel_rfl
@[simp] theorem z149 : tsz Tryz.prog 149 = some 1 := by kernel_rfl
@[simp] theorem c149 : tcode Tryz.prog 149 = 5 := by kernel_rfl
@[simp] theorem i149 : tint Tryz.prog 149 = none := by kernel_rfl
@[simp] theorem a149 : tagg Tryz.prog 149 = some false := by kernel_rfl
@[simp] theorem o149 : tzero Tryz.prog 149 = some [.slice none 0 0] := by kernel_rfl
@[simp] theorem q149 : tcomp Tryz.prog 149 = false := by kernel_rfl
@[simp] theorem e149 : telem Tryz.prog 149 = some (3, 64) := by kernel_rfl
@[simp] theorem w149 : tezero Tryz.prog 149 = some [.string (ofL []), .slice none 0 0, .slice none 0 0] := by kernel_rfl
@[simp] theorem y149 : tbyte Tryz.prog 149 = false := by kernel_rfl
@[simp] theorem z150 : tsz Tryz.prog 150 = some 1 := by kernel_rfl
@[simp] theorem c150 : tcode Tryz.prog 150 = 5 := by kernel_rfl
@[simp] theorem i150 : tint Tryz.prog 150 = none := by kernel_rfl
@[simp] theorem a150 : tagg Tryz.prog 150 = some false := by kernel_rfl
@[simp] theorem o150 : tzero Tryz.prog 150 = some [.slice none 0 0] := by kernel_rfl
@[simp] theorem q150 : tcomp Tryz.prog 150 = false := by kernel_rfl
@[simp] theorem e150 : telem Tryz.prog 150 = some (2, 48) := by kernel_rfl
@[simp] theorem w150 : tezero Tryz.prog 150 = some [.slice none 0 0, .slice none 0 0] := by kernel_rfl
@[simp] theorem y150 : tbyte Tryz.prog 150 = false := by kernel_rfl
@[simp] theorem z151 : tsz Tryz.prog 151 = some 1 := by kernel_rfl
@[simp] theorem c151 : tcode Tryz.prog 151 = 5 := by kernel_rfl
@[simp] theorem i151 : tint Tryz.prog 151 = none := by kernel_rfl
@[simp] theorem a151 : tagg Tryz.prog 151 = some false := by kernel_rfl
@[simp] theorem o151 : tzero Tryz.prog 151 = some [.slice none 0 0] := by kernel_rfl
@[simp] theorem q151 : tcomp Tryz.prog 151 = false := by kernel_rfl
@[simp] theorem e151 : telem Tryz.prog 151 = some (5, 88) := by kernel_rfl
@[simp] theorem w151 : tezero Tryz.prog 151 = some [.string (ofL []), .int .i64 0, .string (ofL []), .slice none 0 0, .slice none 0 0] := by kernel_rfl
@[simp] theorem y151 : tbyte Tryz.prog 151 = false := by kernel_rfl
@[simp] theorem z152 : tsz Tryz.prog 152 = some 8 := by kernel_rfl
@[simp] theorem c152 : tcode Tryz.prog 152 = 8 := by kernel_rfl
@[simp] theorem i152 : tint Tryz.prog 152 = none := by kernel_rfl
@[simp] theorem a152 : tagg Tryz.prog 152 = some true := by kernel_rfl
@[simp] theorem o152 : tzero Tryz.prog 152 = some [.string (ofL []), .int .i64 0, .int .i64 0, .int .i64 0, .slice none 0 0, .slice none 0 0, .slice none 0 0, .slice none 0 0] := by kernel_rfl
@[simp] theorem q152 : tcomp Tryz.prog 152 = false := by kernel_rfl
@[simp] theorem y152 : tbyte Tryz.prog 152 = false := by kernel_rfl
@[simp] theorem f152_0 : tfld Tryz.prog 152 0 = some (0, true, 5) := by kernel_rfl
@[simp] theorem f152_1 : tfld Tryz.prog 152 1 = some (5, false, 1) := by kernel_rfl
@[simp] theorem f152_2 : tfld Tryz.prog 152 2 = some (6, false, 1) := by kernel_rfl
@[simp] theorem f152_3 : tfld Tryz.prog 152 3 = some (7, false, 1) := by kernel_rfl
@[simp] theorem p152 : tplaces Tryz.prog 152 = some [(0, 5), (5, 1), (6, 1), (7, 1)] := by kernel_rfl
@[simp] theorem z153 : tsz Tryz.prog 153 = some 8 := by kernel_rfl
@[simp] theorem c153 : tcode Tryz.prog 153 = 8 := by kernel_rfl
@[simp] theorem i153 : tint Tryz.prog 153 = none := by kernel_rfl
@[simp] theorem a153 : tagg Tryz.prog 153 = some true := by kernel_rfl
@[simp] theorem o153 : tzero Tryz.prog 153 = some [.string (ofL []), .int .i64 0, .int .i64 0, .int .i64 0, .slice none 0 0, .slice none 0 0, .slice none 0 0, .slice none 0 0] := by kernel_rfl
@[simp] theorem q153 : tcomp Tryz.prog 153 = false := by kernel_rfl
@[simp] theorem y153 : tbyte Tryz.prog 153 = false := by kernel_rfl
@[simp] theorem f153_0 : tfld Tryz.prog 153 0 = some (0, true, 5) := by kernel_rfl
@[simp] theorem f153_1 : tfld Tryz.prog 153 1 = some (5, false, 1) := by kernel_rfl
@[simp] theorem f153_2 : tfld Tryz.prog 153 2 = some (6, false, 1) := by kernel_rfl
@[simp] theorem f153_3 : tfld Tryz.prog 153 3 = some (7, false, 1) := by kernel_rfl
@[simp] theorem p153 : tplaces Tryz.prog 153 = some [(0, 5), (5, 1), (6, 1), (7, 1)] := by kernel_rfl
@[simp] theorem z160 : tsz Tryz.prog 160 = some 1 := by kernel_rfl
@[simp] theorem c160 : tcode Tryz.prog 160 = 7 := by kernel_rfl
@[simp] theorem i160 : tint Tryz.prog 160 = none := by kernel_rfl
@[simp] theorem a160 : tagg Tryz.prog 160 = some false := by kernel_rfl
@[simp] theorem o160 : tzero Tryz.prog 160 = some [.nilFunc] := by kernel_rfl
@[simp] theorem q160 : tcomp Tryz.prog 160 = false := by kernel_rfl
@[simp] theorem y160 : tbyte Tryz.prog 160 = false := by kernel_rfl
@[simp] theorem z161 : tsz Tryz.prog 161 = some 1 := by kernel_rfl
@[simp] theorem c161 : tcode Tryz.prog 161 = 5 := by kernel_rfl
@[simp] theorem i161 : tint Tryz.prog 161 = none := by kernel_rfl
@[simp] theorem a161 : tagg Tryz.prog 161 = some false := by kernel_rfl
@[simp] theorem o161 : tzero Tryz.prog 161 = some [.slice none 0 0] := by kernel_rfl
@[simp] theorem q161 : tcomp Tryz.prog 161 = false := by kernel_rfl
@[simp] theorem e161 : telem Tryz.prog 161 = some (9, 144) := by kernel_rfl
@[simp] theorem w161 : tezero Tryz.prog 161 = some [.string (ofL []), .int .i64 0, .int .i64 0, .int .i64 0, .slice none 0 0, .slice none 0 0, .slice none 0 0, .slice none 0 0, .bool false] := by kernel_rfl
@[simp] theorem y161 : tbyte Tryz.prog 161 = false := by kernel_rfl
@[simp] theorem z162 : tsz Tryz.prog 162 = some 1 := by kernel_rfl
@[simp] theorem c162 : tcode Tryz.prog 162 = 8 := by kernel_rfl
@[simp] theorem i162 : tint Tryz.prog 162 = none := by kernel_rfl
@[simp] theorem a162 : tagg Tryz.prog 162 = some true := by kernel_rfl
@[simp] theorem o162 : tzero Tryz.prog 162 = some [.slice none 0 0] := by kernel_rfl
@[simp] theorem q162 : tcomp Tryz.prog 162 = false := by kernel_rfl
@[simp] theorem y162 : tbyte Tryz.prog 162 = false := by kernel_rfl
@[simp] theorem f162_0 : tfld Tryz.prog 162 0 = some (0, false, 1) := by kernel_rfl
@[simp] theorem p162 : tplaces Tryz.prog 162 = some [(0, 1)] := by kernel_rfl
@[simp] theorem z163 : tsz Tryz.prog 163 = some 1 := by kernel_rfl
@[simp] theorem c163 : tcode Tryz.prog 163 = 8 := by kernel_rfl
@[simp] theorem i163 : tint Tryz.prog 163 = none := by kernel_rfl
@[simp] theorem a163 : tagg Tryz.prog 163 = some true := by kernel_rfl
@[simp] theorem o163 : tzero Tryz.prog 163 = some [.slice none 0 0] := by kernel_rfl
@[simp] theorem q163 : tcomp Tryz.prog 163 = false := by kernel_rfl
@[simp] theorem y163 : tbyte Tryz.prog 163 = false := by kernel_rfl
@[simp] theorem f163_0 : tfld Tryz.prog 163 0 = some (0, false, 1) := by kernel_rfl
@[simp] theorem p163 : tplaces Tryz.prog 163 = some [(0, 1)] := by kernel_rfl
@[simp] theorem z166 : tsz Tryz.prog 166 = some 1 := by kernel_rfl
@[simp] theorem c166 : tcode Tryz.prog 166 = 7 := by kernel_rfl
@[simp] theorem i166 : tint Tryz.prog 166 = none := by kernel_rfl
@[simp] theorem a166 : tagg Tryz.prog 166 = some false := by kernel_rfl
@[simp] theorem o166 : tzero Tryz.prog 166 = some [.nilFunc] := by kernel_rfl
@[simp] theorem q166 : tcomp Tryz.prog 166 = false := by kernel_rfl
@[simp] theorem y166 : tbyte Tryz.prog 166 = false := by kernel_rfl
@[simp] theorem z173 : tsz Tryz.prog 173 = some 1 := by kernel_rfl
@[simp] theorem c173 : tcode Tryz.prog 173 = 7 := by kernel_rfl
@[simp] theorem i173 : tint Tryz.prog 173 = none := by kernel_rfl
@[simp] theorem a173 : tagg Tryz.prog 173 = some false := by kernel_rfl
@[simp] theorem o173 : tzero Tryz.prog 173 = some [.nilFunc] := by kernel_rfl
@[simp] theorem q173 : tcomp Tryz.prog 173 = false := by kernel_rfl
@[simp] theorem y173 : tbyte Tryz.prog 173 = false := by kernel_rfl
@[simp] theorem z177 : tsz Tryz.prog 177 = some 1 := by kernel_rfl
@[simp] theorem c177 : tcode Tryz.prog 177 = 5 := by kernel_rfl
@[simp] theorem i177 : tint Tryz.prog 177 = none := by kernel_rfl
@[simp] theorem a177 : tagg Tryz.prog 177 = some false := by kernel_rfl
@[simp] theorem o177 : tzero Tryz.prog 177 = some [.slice none 0 0] := by kernel_rfl
@[simp] theorem q177 : tcomp Tryz.prog 177 = false := by kernel_rfl
@[simp] theorem e177 : telem Tryz.prog 177 = some (1, 8) := by kernel_rfl
@[simp] theorem w177 : tezero Tryz.prog 177 = some [.int .i64 0] := by kernel_rfl
@[simp] theorem y177 : tbyte Tryz.prog 177 = false := by kernel_rfl
@[simp] theorem z200 : tsz Tryz.prog 200 = some 1 := by kernel_rfl
@[simp] theorem c200 : tcode Tryz.prog 200 = 7 := by kernel_rfl
@[simp] theorem i200 : tint Tryz.prog 200 = none := by kernel_rfl
@[simp] theorem a200 : tagg Tryz.prog 200 = some false := by kernel_rfl
@[simp] theorem o200 : tzero Tryz.prog 200 = some [.nilFunc] := by kernel_rfl
@[simp] theorem q200 : tcomp Tryz.prog 200 = false := by kernel_rfl
@[simp] theorem y200 : tbyte Tryz.prog 200 = false := by kernel_rfl
@[simp] theorem z206 : tsz Tryz.prog 206 = some 1 := by kernel_rfl
@[simp] theorem c206 : tcode Tryz.prog 206 = 7 := by kernel_rfl
@[simp] theorem i206 : tint Tryz.prog 206 = none := by kernel_rfl
@[simp] theorem a206 : tagg Tryz.prog 206 = some false := by kernel_rfl
@[simp] theorem o206 : tzero Tryz.prog 206 = some [.nilFunc] := by kernel_rfl
@[simp] theorem q206 : tcomp Tryz.prog 206 = false := by kernel_rfl
@[simp] theorem y206 : tbyte Tryz.prog 206 = false := by kernel_rfl
@[simp] theorem z209 : tsz Tryz.prog 209 = some 9 := by kernel_rfl
@[simp] theorem c209 : tcode Tryz.prog 209 = 8 := by kernel_rfl
@[simp] theorem i209 : tint Tryz.prog 209 = none := by kernel_rfl
@[simp] theorem a209 : tagg Tryz.prog 209 = some true := by kernel_rfl
@[simp] theorem o209 : tzero Tryz.prog 209 = some [.string (ofL []), .int .i64 0, .int .i64 0, .int .i64 0, .slice none 0 0, .slice none 0 0, .slice none 0 0, .slice none 0 0, .bool false] := by kernel_rfl
@[simp] theorem q209 : tcomp Tryz.prog 209 = false := by kernel_rfl
@[simp] theorem y209 : tbyte Tryz.prog 209 = false := by kernel_rfl
@[simp] theorem f209_0 : tfld Tryz.prog 209 0 = some (0, true, 8) := by kernel_rfl
@[simp] theorem f209_1 : tfld Tryz.prog 209 1 = some (8, false, 1) := by kernel_rfl
@[simp] theorem p209 : tplaces Tryz.prog 209 = some [(0, 8), (8, 1)] := by kernel_rfl
@[simp] theorem z210 : tsz Tryz.prog 210 = some 9 := by kernel_rfl
@[simp] theorem c210 : tcode Tryz.prog 210 = 8 := by kernel_rfl
@[simp] theorem i210 : tint Tryz.prog 210 = none := by kernel_rfl
@[simp] theorem a210 : tagg Tryz.prog 210 = some true := by kernel_rfl
@[simp] theorem o210 : tzero Tryz.prog 210 = some [.string (ofL []), .int .i64 0, .int .i64 0, .int .i64 0, .slice none 0 0, .slice none 0 0, .slice none 0 0, .slice none 0 0, .bool false] := by kernel_rfl
@[simp] theorem q210 : tcomp Tryz.prog 210 = false := by kernel_rfl
@[simp] theorem y210 : tbyte Tryz.prog 210 = false := by kernel_rfl
@[simp] theorem f210_0 : tfld Tryz.prog 210 0 = some (0, true, 8) := by kernel_rfl
@[simp] theorem f210_1 : tfld Tryz.prog 210 1 = some (8, false, 1) := by kernel_rfl
@[simp] theorem p210 : tplaces Tryz.prog 210 = some [(0, 8), (8, 1)] := by kernel_rfl
@[simp] theorem z223 : tsz Tryz.prog 223 = some 1 := by kernel_rfl
@[simp] theorem c223 : tcode Tryz.prog 223 = 5 := by kernel_rfl
@[simp] theorem i223 : tint Tryz.prog 223 = none := by kernel_rfl
@[simp] theorem a223 : tagg Tryz.prog 223 = some false := by kernel_rfl
@[simp] theorem o223 : tzero Tryz.prog 223 = some [.slice none 0 0] := by kernel_rfl
@[simp] theorem q223 : tcomp Tryz.prog 223 = false := by kernel_rfl
@[simp] theorem e223 : telem Tryz.prog 223 = some (8, 128) := by kernel_rfl
@[simp] theorem w223 : tezero Tryz.prog 223 = some [.string (ofL []), .int .i64 0, .string (ofL []), .int .i64 0, .string (ofL []), .string (ofL []), .slice none 0 0, .slice none 0 0] := by kernel_rfl
@[simp] theorem y223 : tbyte Tryz.prog 223 = false := by kernel_rfl
@[simp] theorem z224 : tsz Tryz.prog 224 = some 8 := by kernel_rfl
@[simp] theorem c224 : tcode Tryz.prog 224 = 8 := by kernel_rfl
@[simp] theorem i224 : tint Tryz.prog 224 = none := by kernel_rfl
@[simp] theorem a224 : tagg Tryz.prog 224 = some true := by kernel_rfl
@[simp] theorem o224 : tzero Tryz.prog 224 = some [.string (ofL []), .int .i64 0, .string (ofL []), .int .i64 0, .string (ofL []), .string (ofL []), .slice none 0 0, .slice none 0 0] := by kernel_rfl
@[simp] theorem q224 : tcomp Tryz.prog 224 = false := by kernel_rfl
@[simp] theorem y224 : tbyte Tryz.prog 224 = false := by kernel_rfl
@[simp] theorem f224_0 : tfld Tryz.prog 224 0 = some (0, false, 1) := by kernel_rfl
@[simp] theorem f224_1 : tfld Tryz.prog 224 1 = some (1, true, 7) := by kernel_rfl
@[simp] theorem p224 : tplaces Tryz.prog 224 = some [(0, 1), (1, 7)] := by kernel_rfl
@[simp] theorem z225 : tsz Tryz.prog 225 = some 8 := by kernel_rfl
@[simp] theorem c225 : tcode Tryz.prog 225 = 8 := by kernel_rfl
@[simp] theorem i225 : tint Tryz.prog 225 = none := by kernel_rfl
@[simp] theorem a225 : tagg Tryz.prog 225 = some true := by kernel_rfl
@[simp] theorem o225 : tzero Tryz.prog 225 = some [.string (ofL []), .int .i64 0, .string (ofL []), .int .i64 0, .string (ofL []), .string (ofL []), .slice none 0 0, .slice none 0 0] := by kernel_rfl
@[simp] theorem q225 : tcomp Tryz.prog 225 = false := by kernel_rfl
@[simp] theorem y225 : tbyte Tryz.prog 225 = false := by kernel_rfl
@[simp] theorem f225_0 : tfld Tryz.prog 225 0 = some (0, false, 1) := by kernel_rfl
@[simp] theorem f225_1 : tfld Tryz.prog 225 1 = some (1, true, 7) := by kernel_rfl
@[simp] theorem p225 : tplaces Tryz.prog 225 = some [(0, 1), (1, 7)] := by kernel_rfl
@[simp] theorem z226 : tsz Tryz.prog 226 = some 1 := by kernel_rfl
@[simp] theorem c226 : tcode Tryz.prog 226 = 7 := by kernel_rfl
@[simp] theorem i226 : tint Tryz.prog 226 = none := by kernel_rfl
@[simp] theorem a226 : tagg Tryz.prog 226 = some false := by kernel_rfl
@[simp] theorem o226 : tzero Tryz.prog 226 = some [.nilFunc] := by kernel_rfl
@[simp] theorem q226 : tcomp Tryz.prog 226 = false := by kernel_rfl
@[simp] theorem y226 : tbyte Tryz.prog 226 = false := by kernel_rfl
@[simp] theorem z230 : tsz Tryz.prog 230 = some 1 := by kernel_rfl
@[simp] theorem c230 : tcode Tryz.prog 230 = 7 := by kernel_rfl
@[simp] theorem i230 : tint Tryz.prog 230 = none := by kernel_rfl
@[simp] theorem a230 : tagg Tryz.prog 230 = some false := by kernel_rfl
@[simp] theorem o230 : tzero Tryz.prog 230 = some [.nilFunc] := by kernel_rfl
@[simp] theorem q230 : tcomp Tryz.prog 230 = false := by kernel_rfl
@[simp] theorem y230 : tbyte Tryz.prog 230 = false := by kernel_rfl
@[simp] theorem z232 : tsz Tryz.prog 232 = some 1 := by kernel_rfl
@[simp] theorem c232 : tcode Tryz.prog 232 = 2 := by kernel_rfl
@[simp] theorem i232 : tint Tryz.prog 232 = some .u64 := by kernel_rfl
@[simp] theorem a232 : tagg Tryz.prog 232 = some false := by kernel_rfl
@[simp] theorem o232 : tzero Tryz.prog 232 = some [.int .u64 0] := by kernel_rfl
@[simp] theorem q232 : tcomp Tryz.prog 232 = true := by kernel_rfl
@[simp] theorem y232 : tbyte Tryz.prog 232 = false := by kernel_rfl
@[simp] theorem z258 : tsz Tryz.prog 258 = some 1 := by kernel_rfl
@[simp] theorem c258 : tcode Tryz.prog 258 = 7 := by kernel_rfl
@[simp] theorem i258 : tint Tryz.prog 258 = none := by kernel_rfl
@[simp] theorem a258 : tagg Tryz.prog 258 = some false := by kernel_rfl
@[simp] theorem o258 : tzero Tryz.prog 258 = some [.nilFunc] := by kernel_rfl
@[simp] theorem q258 : tcomp Tryz.prog 258 = false := by kernel_rfl
@[simp] theorem y258 : tbyte Tryz.prog 258 = false := by kernel_rfl
@[simp] theorem z259 : tsz Tryz.prog 259 = some 1 := by kernel_rfl
@[simp] theorem c259 : tcode Tryz.prog 259 = 4 := by kernel_rfl
@[simp] theorem i259 : tint Tryz.prog 259 = none := by kernel_rfl
@[simp] theorem a259 : tagg Tryz.prog 259 = some false := by kernel_rfl
@[simp] theorem o259 : tzero Tryz.prog 259 = some [.pointer none] := by kernel_rfl
@[simp] theorem q259 : tcomp Tryz.prog 259 = true := by kernel_rfl
@[simp] theorem y259 : tbyte Tryz.prog 259 = false := by kernel_rfl
@[simp] theorem z260 : tsz Tryz.prog 260 = some 8 := by kernel_rfl
@[simp] theorem c260 : tcode Tryz.prog 260 = 8 := by kernel_rfl
@[simp] theorem i260 : tint Tryz.prog 260 = none := by kernel_rfl
@[simp] theorem a260 : tagg Tryz.prog 260 = some true := by kernel_rfl
@[simp] theorem o260 : tzero Tryz.prog 260 = some [.string (ofL []), .int .i64 0, .string (ofL []), .int .i64 0, .string (ofL []), .string (ofL []), .slice none 0 0, .slice none 0 0] := by kernel_rfl
@[simp] theorem q260 : tcomp Tryz.prog 260 = false := by kernel_rfl
@[simp] theorem y260 : tbyte Tryz.prog 260 = false := by kernel_rfl
@[simp] theorem f260_0 : tfld Tryz.prog 260 0 = some (0, false, 1) := by kernel_rfl
@[simp] theorem f260_1 : tfld Tryz.prog 260 1 = some (1, true, 7) := by kernel_rfl
@[simp] theorem p260 : tplaces Tryz.prog 260 = some [(0, 1), (1, 7)] := by kernel_rfl
@[simp] theorem z261 : tsz Tryz.prog 261 = some 8 := by kernel_rfl
@[simp] theorem c261 : tcode Tryz.prog 261 = 8 := by kernel_rfl
@[simp] theorem i261 : tint Tryz.prog 261 = none := by kernel_rfl
@[simp] theorem a261 : tagg Tryz.prog 261 = some true := by kernel_rfl
@[simp] theorem o261 : tzero Tryz.prog 261 = some [.string (ofL []), .int .i64 0, .string (ofL []), .int .i64 0, .string (ofL []), .string (ofL []), .slice none 0 0, .slice none 0 0] := by kernel_rfl
@[simp] theorem q261 : tcomp Tryz.prog 261 = false := by kernel_rfl
@[simp] theorem y261 : tbyte Tryz.prog 261 = false := by kernel_rfl
@[simp] theorem f261_0 : tfld Tryz.prog 261 0 = some (0, false, 1) := by kernel_rfl
@[simp] theorem f261_1 : tfld Tryz.prog 261 1 = some (1, true, 7) := by kernel_rfl
@[simp] theorem p261 : tplaces Tryz.prog 261 = some [(0, 1), (1, 7)] := by kernel_rfl
@[simp] theorem z262 : tsz Tryz.prog 262 = some 1 := by kernel_rfl
@[simp] theorem c262 : tcode Tryz.prog 262 = 7 := by kernel_rfl
@[simp] theorem i262 : tint Tryz.prog 262 = none := by kernel_rfl
@[simp] theorem a262 : tagg Tryz.prog 262 = some false := by kernel_rfl
@[simp] theorem o262 : tzero Tryz.prog 262 = some [.nilFunc] := by kernel_rfl
@[simp] theorem q262 : tcomp Tryz.prog 262 = false := by kernel_rfl
@[simp] theorem y262 : tbyte Tryz.prog 262 = false := by kernel_rfl
@[simp] theorem z265 : tsz Tryz.prog 265 = some 1 := by kernel_rfl
@[simp] theorem c265 : tcode Tryz.prog 265 = 4 := by kernel_rfl
@[simp] theorem i265 : tint Tryz.prog 265 = none := by kernel_rfl
@[simp] theorem a265 : tagg Tryz.prog 265 = some false := by kernel_rfl
@[simp] theorem o265 : tzero Tryz.prog 265 = some [.pointer none] := by kernel_rfl
@[simp] theorem q265 : tcomp Tryz.prog 265 = true := by kernel_rfl
@[simp] theorem y265 : tbyte Tryz.prog 265 = false := by kernel_rfl
@[simp] theorem z268 : tsz Tryz.prog 268 = some 1 := by kernel_rfl
@[simp] theorem c268 : tcode Tryz.prog 268 = 4 := by kernel_rfl
@[simp] theorem i268 : tint Tryz.prog 268 = none := by kernel_rfl
@[simp] theorem a268 : tagg Tryz.prog 268 = some false := by kernel_rfl
@[simp] theorem o268 : tzero Tryz.prog 268 = some [.pointer none] := by kernel_rfl
@[simp] theorem q268 : tcomp Tryz.prog 268 = true := by kernel_rfl
@[simp] theorem y268 : tbyte Tryz.prog 268 = false := by kernel_rfl
@[simp] theorem z269 : tsz Tryz.prog 269 = some 1 := by kernel_rfl
@[simp] theorem c269 : tcode Tryz.prog 269 = 7 := by kernel_rfl
@[simp] theorem i269 : tint Tryz.prog 269 = none := by kernel_rfl
@[simp] theorem a269 : tagg Tryz.prog 269 = some false := by kernel_rfl
@[simp] theorem o269 : tzero Tryz.prog 269 = some [.nilFunc] := by kernel_rfl
@[simp] theorem q269 : tcomp Tryz.prog 269 = false := by kernel_rfl
@[simp] theorem y269 : tbyte Tryz.prog 269 = false := by kernel_rfl
@[simp] theorem z270 : tsz Tryz.prog 270 = some 1 := by kernel_rfl
@[simp] theorem c270 : tcode Tryz.prog 270 = 7 := by kernel_rfl
@[simp] theorem i270 : tint Tryz.prog 270 = none := by kernel_rfl
@[simp] theorem a270 : tagg Tryz.prog 270 = some false := by kernel_rfl
@[simp] theorem o270 : tzero Tryz.prog 270 = some [.nilFunc] := by kernel_rfl
@[simp] theorem q270 : tcomp Tryz.prog 270 = false := by kernel_rfl
@[simp] theorem y270 : tbyte Tryz.prog 270 = false := by kernel_rfl
@[simp] theorem z272 : tsz Tryz.prog 272 = some 1 := by kernel_rfl
@[simp] theorem c272 : tcode Tryz.prog 272 = 5 := by kernel_rfl
@[simp] theorem i272 : tint Tryz.prog 272 = none := by kernel_rfl
@[simp] theorem a272 : tagg Tryz.prog 272 = some false := by kernel_rfl
@[simp] theorem o272 : tzero Tryz.prog 272 = some [.slice none 0 0] := by kernel_rfl
@[simp] theorem q272 : tcomp Tryz.prog 272 = false := by kernel_rfl
@[simp] theorem e272 : telem Tryz.prog 272 = some (10, 152) := by kernel_rfl
@[simp] theorem w272 : tezero Tryz.prog 272 = some [.int .i64 0, .string (ofL []), .string (ofL []), .int .i64 0, .string (ofL []), .int .i64 0, .string (ofL []), .string (ofL []), .slice none 0 0, .slice none 0 0] := by kernel_rfl
@[simp] theorem y272 : tbyte Tryz.prog 272 = false := by kernel_rfl
@[simp] theorem z273 : tsz Tryz.prog 273 = some 2 := by kernel_rfl
@[simp] theorem c273 : tcode Tryz.prog 273 = 8 := by kernel_rfl
@[simp] theorem i273 : tint Tryz.prog 273 = none := by kernel_rfl
@[simp] theorem a273 : tagg Tryz.prog 273 = some true := by kernel_rfl
@[simp] theorem o273 : tzero Tryz.prog 273 = some [.slice none 0 0, .slice none 0 0] := by kernel_rfl
@[simp] theorem q273 : tcomp Tryz.prog 273 = false := by kernel_rfl
@[simp] theorem y273 : tbyte Tryz.prog 273 = false := by kernel_rfl
@[simp] theorem f273_0 : tfld Tryz.prog 273 0 = some (0, false, 1) := by kernel_rfl
@[simp] theorem f273_1 : tfld Tryz.prog 273 1 = some (1, false, 1) := by kernel_rfl
@[simp] theorem p273 : tplaces Tryz.prog 273 = some [(0, 1), (1, 1)] := by kernel_rfl
@[simp] theorem z274 : tsz Tryz.prog 274 = some 2 := by kernel_rfl
@[simp] theorem c274 : tcode Tryz.prog 274 = 8 := by kernel_rfl
@[simp] theorem i274 : tint Tryz.prog 274 = none := by kernel_rfl
@[simp] theorem a274 : tagg Tryz.prog 274 = some true := by kernel_rfl
@[simp] theorem o274 : tzero Tryz.prog 274 = some [.slice none 0 0, .slice none 0 0] := by kernel_rfl
@[simp] theorem q274 : tcomp Tryz.prog 274 = false := by kernel_rfl
@[simp] theorem y274 : tbyte Tryz.prog 274 = false := by kernel_rfl
@[simp] theorem f274_0 : tfld Tryz.prog 274 0 = some (0, false, 1) := by kernel_rfl
@[simp] theorem f274_1 : tfld Tryz.prog 274 1 = some (1, false, 1) := by kernel_rfl
@[simp] theorem p274 : tplaces Tryz.prog 274 = some [(0, 1), (1, 1)] := by kernel_rfl
@[simp] theorem z275 : tsz Tryz.prog 275 = some 1 := by kernel_rfl
@[simp] theorem c275 : tcode Tryz.prog 275 = 4 := by kernel_rfl
@[simp] theorem i275 : tint Tryz.prog 275 = none := by kernel_rfl
@[simp] theorem a275 : tagg Tryz.prog 275 = some false := by kernel_rfl
@[simp] theorem o275 : tzero Tryz.prog 275 = some [.pointer none] := by kernel_rfl
@[simp] theorem q275 : tcomp Tryz.prog 275 = true := by kernel_rfl
@[simp] theorem y275 : tbyte Tryz.prog 275 = false := by kernel_rfl
@[simp] theorem z277 : tsz Tryz.prog 277 = some 10 := by kernel_rfl
@[simp] theorem c277 : tcode Tryz.prog 277 = 8 := by kernel_rfl
@[simp] theorem i277 : tint Tryz.prog 277 = none := by kernel_rfl
@[simp] theorem a277 : tagg Tryz.prog 277 = some true := by kernel_rfl
@[simp] theorem o277 : tzero Tryz.prog 277 = some [.int .i64 0, .string (ofL []), .string (ofL []), .int .i64 0, .string (ofL []), .int .i64 0, .string (ofL []), .string (ofL []), .slice none 0 0, .slice none 0 0] := by kernel_rfl
@[simp] theorem q277 : tcomp Tryz.prog 277 = false := by kernel_rfl
@[simp] theorem y277 : tbyte Tryz.prog 277 = false := by kernel_rfl
@[simp] theorem f277_0 : tfld Tryz.prog 277 0 = some (0, false, 1) := by kernel_rfl
@[simp] theorem f277_1 : tfld Tryz.prog 277 1 = some (1, false, 1) := by kernel_rfl
@[simp] theorem f277_2 : tfld Tryz.prog 277 2 = some (2, false, 1) := by kernel_rfl
@[simp] theorem f277_3 : tfld Tryz.prog 277 3 = some (3, true, 7) := by kernel_rfl
@[simp] theorem p277 : tplaces Tryz.prog 277 = some [(0, 1), (1, 1), (2, 1), (3, 7)] := by kernel_rfl
@[simp] theorem z278 : tsz Tryz.prog 278 = some 10 := by kernel_rfl
@[simp] theorem c278 : tcode Tryz.prog 278 = 8 := by kernel_rfl
@[simp] theorem i278 : tint Tryz.prog 278 = none := by kernel_rfl
@[simp] theorem a278 : tagg Tryz.prog 278 = some true := by kernel_rfl
@[simp] theorem o278 : tzero Tryz.prog 278 = some [.int .i64 0, .string (ofL []), .string (ofL []), .int .i64 0, .string (ofL []), .int .i64 0, .string (ofL []), .string (ofL []), .slice none 0 0, .slice none 0 0] := by kernel_rfl
@[simp] theorem q278 : tcomp Tryz.prog 278 = false := by kernel_rfl
@[simp] theorem y278 : tbyte Tryz.prog 278 = false := by kernel_rfl
@[simp] theorem f278_0 : tfld Tryz.prog 278 0 = some (0, false, 1) := by kernel_rfl
@[simp] theorem f278_1 : tfld Tryz.prog 278 1 = some (1, false, 1) := by kernel_rfl
@[simp] theorem f278_2 : tfld Tryz.prog 278 2 = some (2, false, 1) := by kernel_rfl
@[simp] theorem f278_3 : tfld Tryz.prog 278 3 = some (3, true, 7) := by kernel_rfl
@[simp] theorem p278 : tplaces Tryz.prog 278 = some [(0, 1), (1, 1), (2, 1), (3, 7)] := by kernel_rfl
@[simp] theorem z279 : tsz Tryz.prog 279 = some 1 := by kernel_rfl
@[simp] theorem c279 : tcode Tryz.prog 279 = 4 := by kernel_rfl
@[simp] theorem i279 : tint Tryz.prog 279 = none := by kernel_rfl
@[simp] theorem a279 : tagg Tryz.prog 279 = some false := by kernel_rfl
@[simp] theorem o279 : tzero Tryz.prog 279 = some [.pointer none] := by kernel_rfl
@[simp] theorem q279 : tcomp Tryz.prog 279 = true := by kernel_rfl
@[simp] theorem y279 : tbyte Tryz.prog 279 = false := by kernel_rfl
@[simp] theorem z280 : tsz Tryz.prog 280 = some 1 := by kernel_rfl
@[simp] theorem c280 : tcode Tryz.prog 280 = 7 := by kernel_rfl
@[simp] theorem i280 : tint Tryz.prog 280 = none := by kernel_rfl
@[simp] theorem a280 : tagg Tryz.prog 280 = some false := by kernel_rfl
@[simp] theorem o280 : tzero Tryz.prog 280 = some [.nilFunc] := by kernel_rfl
@[simp] theorem q280 : tcomp Tryz.prog 280 = false := by kernel_rfl
@[simp] theorem y280 : tbyte Tryz.prog 280 = false := by kernel_rfl
@[simp] theorem z281 : tsz Tryz.prog 281 = some 1 := by kernel_rfl
@[simp] theorem c281 : tcode Tryz.prog 281 = 7 := by kernel_rfl
@[simp] theorem i281 : tint Tryz.prog 281 = none := by kernel_rfl
@[simp] theorem a281 : tagg Tryz.prog 281 = some false := by kernel_rfl
@[simp] theorem o281 : tzero Tryz.prog 281 = some [.nilFunc] := by kernel_rfl
@[simp] theorem q281 : tcomp Tryz.prog 281 = false := by kernel_rfl
@[simp] theorem y281 : tbyte Tryz.prog 281 = false := by kernel_rfl
@[simp] theorem z283 : tsz Tryz.prog 283 = some 1 := by kernel_rfl
@[simp] theorem c283 : tcode Tryz.prog 283 = 5 := by kernel_rfl
@[simp] theorem i283 : tint Tryz.prog 283 = none := by kernel_rfl
@[simp] theorem a283 : tagg Tryz.prog 283 = some false := by kernel_rfl
@[simp] theorem o283 : tzero Tryz.prog 283 = some [.slice none 0 0] := by kernel_rfl
@[simp] theorem q283 : tcomp Tryz.prog 283 = false := by kernel_rfl
@[simp] theorem e283 : telem Tryz.prog 283 = some (8, 128) := by kernel_rfl
@[simp] theorem w283 : tezero Tryz.prog 283 = some [.string (ofL []), .int .i64 0, .string (ofL []), .int .i64 0, .string (ofL []), .string (ofL []), .slice none 0 0, .slice none 0 0] := by kernel_rfl
@[simp] theorem y283 : tbyte Tryz.prog 283 = false := by kernel_rfl
@[simp] theorem z284 : tsz Tryz.prog 284 = some 5 := by kernel_rfl
@[simp] theorem c284 : tcode Tryz.prog 284 = 8 := by kernel_rfl
@[simp] theorem i284 : tint Tryz.prog 284 = none := by kernel_rfl
@[simp] theorem a284 : tagg Tryz.prog 284 = some true := by kernel_rfl
@[simp] theorem o284 : tzero Tryz.prog 284 = some [.string (ofL []), .int .i64 0, .string (ofL []), .slice none 0 0, .slice none 0 0] := by kernel_rfl
@[simp] theorem q284 : tcomp Tryz.prog 284 = false := by kernel_rfl
@[simp] theorem y284 : tbyte Tryz.prog 284 = false := by kernel_rfl
@[simp] theorem f284_0 : tfld Tryz.prog 284 0 = some (0, false, 1) := by kernel_rfl
@[simp] theorem f284_1 : tfld Tryz.prog 284 1 = some (1, false, 1) := by kernel_rfl
@[simp] theorem f284_2 : tfld Tryz.prog 284 2 = some (2, false, 1) := by kernel_rfl
@[simp] theorem f284_3 : tfld Tryz.prog 284 3 = some (3, false, 1) := by kernel_rfl
@[simp] theorem f284_4 : tfld Tryz.prog 284 4 = some (4, false, 1) := by kernel_rfl
@[simp] theorem p284 : tplaces Tryz.prog 284 = some [(0, 1), (1, 1), (2, 1), (3, 1), (4, 1)] := by kernel_rfl
@[simp] theorem z285 : tsz Tryz.prog 285 = some 5 := by kernel_rfl
@[simp] theorem c285 : tcode Tryz.prog 285 = 8 := by kernel_rfl
@[simp] theorem i285 : tint Tryz.prog 285 = none := by kernel_rfl
@[simp] theorem a285 : tagg Tryz.prog 285 = some true := by kernel_rfl
@[simp] theorem o285 : tzero Tryz.prog 285 = some [.string (ofL []), .int .i64 0, .string (ofL []), .slice none 0 0, .slice none 0 0] := by kernel_rfl
@[simp] theorem q285 : tcomp Tryz.prog 285 = false := by kernel_rfl
@[simp] theorem y285 : tbyte Tryz.prog 285 = false := by kernel_rfl
@[simp] theorem f285_0 : tfld Tryz.prog 285 0 = some (0, false, 1) := by kernel_rfl
@[simp] theorem f285_1 : tfld Tryz.prog 285 1 = some (1, false, 1) := by kernel_rfl
@[simp] theorem f285_2 : tfld Tryz.prog 285 2 = some (2, false, 1) := by kernel_rfl
@[simp] theorem f285_3 : tfld Tryz.prog 285 3 = some (3, false, 1) := by kernel_rfl
@[simp] theorem f285_4 : tfld Tryz.prog 285 4 = some (4, false, 1) := by kernel_rfl
@[simp] theorem p285 : tplaces Tryz.prog 285 = some [(0, 1), (1, 1), (2, 1), (3, 1), (4, 1)] := by kernel_rfl
@[simp] theorem z286 : tsz Tryz.prog 286 = some 1 := by kernel_rfl
@[simp] theorem c286 : tcode Tryz.prog 286 = 4 := by kernel_rfl
@[simp] theorem i286 : tint Tryz.prog 286 = none := by kernel_rfl
@[simp] theorem a286 : tagg Tryz.prog 286 = some false := by kernel_rfl
@[simp] theorem o286 : tzero Tryz.prog 286 = some [.pointer none] := by kernel_rfl
@[simp] theorem q286 : tcomp Tryz.prog 286 = true := by kernel_rfl
@[simp] theorem y286 : tbyte Tryz.prog 286 = false := by kernel_rfl
@[simp] theorem z288 : tsz Tryz.prog 288 = some 1 := by kernel_rfl
@[simp] theorem c288 : tcode Tryz.prog 288 = 7 := by kernel_rfl
@[simp] theorem i288 : tint Tryz.prog 288 = none := by kernel_rfl
@[simp] theorem a288 : tagg Tryz.prog 288 = some false := by kernel_rfl
@[simp] theorem o288 : tzero Tryz.prog 288 = some [.nilFunc] := by kernel_rfl
@[simp] theorem q288 : tcomp Tryz.prog 288 = false := by kernel_rfl
@[simp] theorem y288 : tbyte Tryz.prog 288 = false := by kernel_rfl
@[simp] theorem z295 : tsz Tryz.prog 295 = some 1 := by kernel_rfl
@[simp] theorem c295 : tcode Tryz.prog 295 = 2 := by kernel_rfl
@[simp] theorem i295 : tint Tryz.prog 295 = some .u64 := by kernel_rfl
@[simp] theorem a295 : tagg Tryz.prog 295 = some false := by kernel_rfl
@[simp] theorem o295 : tzero Tryz.prog 295 = some [.int .u64 0] := by kernel_rfl
@[simp] theorem q295 : tcomp Tryz.prog 295 = true := by kernel_rfl
@[simp] theorem y295 : tbyte Tryz.prog 295 = false := by kernel_rfl
@[simp] theorem z300 : tsz Tryz.prog 300 = some 1 := by kernel_rfl
@[simp] theorem c300 : tcode Tryz.prog 300 = 10 := by kernel_rfl
@[simp] theorem i300 : tint Tryz.prog 300 = none := by kernel_rfl
@[simp] theorem q300 : tcomp Tryz.prog 300 = false := by kernel_rfl
@[simp] theorem y300 : tbyte Tryz.prog 300 = false := by kernel_rfl
end Go.Proofs.Mv.V.Ty
