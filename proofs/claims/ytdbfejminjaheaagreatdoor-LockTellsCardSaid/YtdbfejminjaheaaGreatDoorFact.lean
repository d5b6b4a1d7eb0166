/- A part of the proofs of the seat YtdbfejminjaheaaGreatDoor: the abstract machine, the contracts of the functions, the laws. No condition of its own. -/
import Derived.Test.YtdbfejminjaheaaGreatDoorProg
import Derived.KernelRfl
import Derived.Test.YtdbfejminjaheaaGreatDoorMvD
set_option linter.unusedSimpArgs false
set_option linter.unusedVariables false
set_option linter.unusedSectionVars false
namespace Go.Proofs.Mv.V.Ty
@[simp] theorem z0 : tsz Tryz.prog 0 = some 1 := by kernel_rfl
@[simp] theorem c0 : tcode Tryz.prog 0 = 10 := by kernel_rfl
@[simp] theorem i0 : tint Tryz.prog 0 = none := by kernel_rfl
@[simp] theorem q0 : tcomp Tryz.prog 0 = false := by kernel_rfl
@[simp] theorem y0 : tbyte Tryz.prog 0 = false := by kernel_rfl
@[simp] theorem z1 : tsz Tryz.prog 1 = some 1 := by kernel_rfl
@[simp] theorem c1 : tcode Tryz.prog 1 = 7 := by kernel_rfl
@[simp] theorem i1 : tint Tryz.prog 1 = none := by kernel_rfl
@[simp] theorem a1 : tagg Tryz.prog 1 = some false := by kernel_rfl
@[simp] theorem o1 : tzero Tryz.prog 1 = some [.nilFunc] := by kernel_rfl
@[simp] theorem q1 : tcomp Tryz.prog 1 = false := by kernel_rfl
@[simp] theorem y1 : tbyte Tryz.prog 1 = false := by kernel_rfl
@[simp] theorem z2 : tsz Tryz.prog 2 = some 1 := by kernel_rfl
@[simp] theorem c2 : tcode Tryz.prog 2 = 2 := by kernel_rfl
@[simp] theorem i2 : tint Tryz.prog 2 = some .i64 := by kernel_rfl
@[simp] theorem a2 : tagg Tryz.prog 2 = some false := by kernel_rfl
@[simp] theorem o2 : tzero Tryz.prog 2 = some [.int .i64 0] := by kernel_rfl
@[simp] theorem q2 : tcomp Tryz.prog 2 = true := by kernel_rfl
@[simp] theorem y2 : tbyte Tryz.prog 2 = false := by kernel_rfl
@[simp] theorem z3 : tsz Tryz.prog 3 = some 1 := by kernel_rfl
@[simp] theorem c3 : tcode Tryz.prog 3 = 2 := by kernel_rfl
@[simp] theorem i3 : tint Tryz.prog 3 = some .i64 := by kernel_rfl
@[simp] theorem a3 : tagg Tryz.prog 3 = some false := by kernel_rfl
@[simp] theorem o3 : tzero Tryz.prog 3 = some [.int .i64 0] := by kernel_rfl
@[simp] theorem q3 : tcomp Tryz.prog 3 = true := by kernel_rfl
@[simp] theorem y3 : tbyte Tryz.prog 3 = false := by kernel_rfl
@[simp] theorem z4 : tsz Tryz.prog 4 = some 1 := by kernel_rfl
@[simp] theorem c4 : tcode Tryz.prog 4 = 1 := by kernel_rfl
@[simp] theorem i4 : tint Tryz.prog 4 = none := by kernel_rfl
@[simp] theorem a4 : tagg Tryz.prog 4 = some false := by kernel_rfl
@[simp] theorem o4 : tzero Tryz.prog 4 = some [.bool false] := by kernel_rfl
@[simp] theorem q4 : tcomp Tryz.prog 4 = true := by kernel_rfl
@[simp] theorem y4 : tbyte Tryz.prog 4 = false := by kernel_rfl
@[simp] theorem z5 : tsz Tryz.prog 5 = some 1 := by kernel_rfl
@[simp] theorem c5 : tcode Tryz.prog 5 = 2 := by kernel_rfl
@[simp] theorem i5 : tint Tryz.prog 5 = some .u8 := by kernel_rfl
@[simp] theorem a5 : tagg Tryz.prog 5 = some false := by kernel_rfl
@[simp] theorem o5 : tzero Tryz.prog 5 = some [.int .u8 0] := by kernel_rfl
@[simp] theorem q5 : tcomp Tryz.prog 5 = true := by kernel_rfl
@[simp] theorem y5 : tbyte Tryz.prog 5 = false := by kernel_rfl
@[simp] theorem z9 : tsz Tryz.prog 9 = some 1 := by kernel_rfl
@[simp] theorem c9 : tcode Tryz.prog 9 = 3 := by kernel_rfl
@[simp] theorem i9 : tint Tryz.prog 9 = none := by kernel_rfl
@[simp] theorem a9 : tagg Tryz.prog 9 = some false := by kernel_rfl
@[simp] theorem o9 : tzero Tryz.prog 9 = some [.string (ofL [])] := by kernel_rfl
@[simp] theorem q9 : tcomp Tryz.prog 9 = true := by kernel_rfl
@[simp] theorem y9 : tbyte Tryz.prog 9 = false := by kernel_rfl
@[simp] theorem z12 : tsz Tryz.prog 12 = some 1 := by kernel_rfl
@[simp] theorem c12 : tcode Tryz.prog 12 = 2 := by kernel_rfl
@[simp] theorem i12 : tint Tryz.prog 12 = some .u64 := by kernel_rfl
@[simp] theorem a12 : tagg Tryz.prog 12 = some false := by kernel_rfl
@[simp] theorem o12 : tzero Tryz.prog 12 = some [.int .u64 0] := by kernel_rfl
@[simp] theorem q12 : tcomp Tryz.prog 12 = true := by kernel_rfl
@[simp] theorem y12 : tbyte Tryz.prog 12 = false := by kernel_rfl
@[simp] theorem z20 : tsz Tryz.prog 20 = some 1 := by kernel_rfl
@[simp] theorem c20 : tcode Tryz.prog 20 = 6 := by kernel_rfl
@[simp] theorem i20 : tint Tryz.prog 20 = none := by kernel_rfl
@[simp] theorem a20 : tagg Tryz.prog 20 = some false := by kernel_rfl
@[simp] theorem o20 : tzero Tryz.prog 20 = some [.nilIface] := by kernel_rfl
@[simp] theorem q20 : tcomp Tryz.prog 20 = true := by kernel_rfl
@[simp] theorem y20 : tbyte Tryz.prog 20 = false := by kernel_rfl
@[simp] theorem z21 : tsz Tryz.prog 21 = some 1 := by kernel_rfl
@[simp] theorem c21 : tcode Tryz.prog 21 = 2 := by kernel_rfl
@[simp] theorem i21 : tint Tryz.prog 21 = some .i32 := by kernel_rfl
@[simp] theorem a21 : tagg Tryz.prog 21 = some false := by kernel_rfl
@[simp] theorem o21 : tzero Tryz.prog 21 = some [.int .i32 0] := by kernel_rfl
@[simp] theorem q21 : tcomp Tryz.prog 21 = true := by kernel_rfl
@[simp] theorem y21 : tbyte Tryz.prog 21 = false := by kernel_rfl
@[simp] theorem z22 : tsz Tryz.prog 22 = some 1 := by kernel_rfl
@[simp] theorem c22 : tcode Tryz.prog 22 = 5 := by kernel_rfl
@[simp] theorem i22 : tint Tryz.prog 22 = none := by kernel_rfl
@[simp] theorem a22 : tagg Tryz.prog 22 = some false := by kernel_rfl
@[simp] theorem o22 : tzero Tryz.prog 22 = some [.slice none 0 0] := by kernel_rfl
@[simp] theorem q22 : tcomp Tryz.prog 22 = false := by kernel_rfl
@[simp] theorem e22 : telem Tryz.prog 22 = some (4, 40) := by kernel_rfl
@[simp] theorem w22 : tezero Tryz.prog 22 = some [.string (ofL []), .int .i64 0, .int .i64 0, .int .i64 0] := by kernel_rfl
@[simp] theorem y22 : tbyte Tryz.prog 22 = false := by kernel_rfl
@[simp] theorem z23 : tsz Tryz.prog 23 = some 1 := by kernel_rfl
@[simp] theorem c23 : tcode Tryz.prog 23 = 5 := by kernel_rfl
@[simp] theorem i23 : tint Tryz.prog 23 = none := by kernel_rfl
@[simp] theorem a23 : tagg Tryz.prog 23 = some false := by kernel_rfl
@[simp] theorem o23 : tzero Tryz.prog 23 = some [.slice none 0 0] := by kernel_rfl
@[simp] theorem q23 : tcomp Tryz.prog 23 = false := by kernel_rfl
@[simp] theorem e23 : telem Tryz.prog 23 = some (7, 64) := by kernel_rfl
@[simp] theorem w23 : tezero Tryz.prog 23 = some [.string (ofL []), .int .i64 0, .int .i64 0, .int .i64 0, .int .i64 0, .int .i64 0, .int .i64 0] := by kernel_rfl
@[simp] theorem y23 : tbyte Tryz.prog 23 = false := by kernel_rfl
@[simp] theorem z25 : tsz Tryz.prog 25 = some 1 := by kernel_rfl
@[simp] theorem c25 : tcode Tryz.prog 25 = 6 := by kernel_rfl
@[simp] theorem i25 : tint Tryz.prog 25 = none := by kernel_rfl
@[simp] theorem a25 : tagg Tryz.prog 25 = some false := by kernel_rfl
@[simp] theorem o25 : tzero Tryz.prog 25 = some [.nilIface] := by kernel_rfl
@[simp] theorem q25 : tcomp Tryz.prog 25 = true := by kernel_rfl
@[simp] theorem y25 : tbyte Tryz.prog 25 = false := by kernel_rfl
@[simp] theorem z26 : tsz Tryz.prog 26 = some 1 := by kernel_rfl
@[simp] theorem c26 : tcode Tryz.prog 26 = 6 := by kernel_rfl
@[simp] theorem i26 : tint Tryz.prog 26 = none := by kernel_rfl
@[simp] theorem a26 : tagg Tryz.prog 26 = some false := by kernel_rfl
@[simp] theorem o26 : tzero Tryz.prog 26 = some [.nilIface] := by kernel_rfl
@[simp] theorem q26 : tcomp Tryz.prog 26 = true := by kernel_rfl
@[simp] theorem y26 : tbyte Tryz.prog 26 = false := by kernel_rfl
@[simp] theorem z32 : tsz Tryz.prog 32 = some 1 := by kernel_rfl
@[simp] theorem c32 : tcode Tryz.prog 32 = 2 := by kernel_rfl
@[simp] theorem i32 : tint Tryz.prog 32 = some .i64 := by kernel_rfl
@[simp] theorem a32 : tagg Tryz.prog 32 = some false := by kernel_rfl
@[simp] theorem o32 : tzero Tryz.prog 32 = some [.int .i64 0] := by kernel_rfl
@[simp] theorem q32 : tcomp Tryz.prog 32 = true := by kernel_rfl
@[simp] theorem y32 : tbyte Tryz.prog 32 = false := by kernel_rfl
@[simp] theorem z35 : tsz Tryz.prog 35 = some 1 := by kernel_rfl
@[simp] theorem c35 : tcode Tryz.prog 35 = 10 := by kernel_rfl
@[simp] theorem i35 : tint Tryz.prog 35 = none := by kernel_rfl
@[simp] theorem q35 : tcomp Tryz.prog 35 = false := by kernel_rfl
@[simp] theorem y35 : tbyte Tryz.prog 35 = false := by kernel_rfl
@[simp] theorem z40 : tsz Tryz.prog 40 = some 1 := by kernel_rfl
@[simp] theorem c40 : tcode Tryz.prog 40 = 5 := by kernel_rfl
@[simp] theorem i40 : tint Tryz.prog 40 = none := by kernel_rfl
@[simp] theorem a40 : tagg Tryz.prog 40 = some false := by kernel_rfl
@[simp] theorem o40 : tzero Tryz.prog 40 = some [.slice none 0 0] := by kernel_rfl
@[simp] theorem q40 : tcomp Tryz.prog 40 = false := by kernel_rfl
@[simp] theorem e40 : telem Tryz.prog 40 = some (1, 16) := by kernel_rfl
@[simp] theorem w40 : tezero Tryz.prog 40 = some [.string (ofL [])] := by kernel_rfl
@[simp] theorem y40 : tbyte Tryz.prog 40 = false := by kernel_rfl
@[simp] theorem z41 : tsz Tryz.prog 41 = some 1 := by kernel_rfl
@[simp] theorem c41 : tcode Tryz.prog 41 = 5 := by kernel_rfl
@[simp] theorem i41 : tint Tryz.prog 41 = none := by kernel_rfl
@[simp] theorem a41 : tagg Tryz.prog 41 = some false := by kernel_rfl
@[simp] theorem o41 : tzero Tryz.prog 41 = some [.slice none 0 0] := by kernel_rfl
@[simp] theorem q41 : tcomp Tryz.prog 41 = false := by kernel_rfl
@[simp] theorem e41 : telem Tryz.prog 41 = some (7, 112) := by kernel_rfl
@[simp] theorem w41 : tezero Tryz.prog 41 = some [.int .i64 0, .string (ofL []), .int .i64 0, .string (ofL []), .string (ofL []), .slice none 0 0, .slice none 0 0] := by kernel_rfl
@[simp] theorem y41 : tbyte Tryz.prog 41 = false := by kernel_rfl
@[simp] theorem z42 : tsz Tryz.prog 42 = some 1 := by kernel_rfl
@[simp] theorem c42 : tcode Tryz.prog 42 = 5 := by kernel_rfl
@[simp] theorem i42 : tint Tryz.prog 42 = none := by kernel_rfl
@[simp] theorem a42 : tagg Tryz.prog 42 = some false := by kernel_rfl
@[simp] theorem o42 : tzero Tryz.prog 42 = some [.slice none 0 0] := by kernel_rfl
@[simp] theorem q42 : tcomp Tryz.prog 42 = false := by kernel_rfl
@[simp] theorem e42 : telem Tryz.prog 42 = some (8, 144) := by kernel_rfl
@[simp] theorem w42 : tezero Tryz.prog 42 = some [.int .i64 0, .int .i64 0, .string (ofL []), .string (ofL []), .slice none 0 0, .slice none 0 0, .slice none 0 0, .slice none 0 0] := by kernel_rfl
@[simp] theorem y42 : tbyte Tryz.prog 42 = false := by kernel_rfl
@[simp] theorem z43 : tsz Tryz.prog 43 = some 8 := by kernel_rfl
@[simp] theorem c43 : tcode Tryz.prog 43 = 8 := by kernel_rfl
@[simp] theorem i43 : tint Tryz.prog 43 = none := by kernel_rfl
@[simp] theorem a43 : tagg Tryz.prog 43 = some true := by kernel_rfl
@[simp] theorem o43 : tzero Tryz.prog 43 = some [.int .i64 0, .int .i64 0, .string (ofL []), .string (ofL []), .slice none 0 0, .slice none 0 0, .slice none 0 0, .slice none 0 0] := by kernel_rfl
@[simp] theorem q43 : tcomp Tryz.prog 43 = false := by kernel_rfl
@[simp] theorem y43 : tbyte Tryz.prog 43 = false := by kernel_rfl
@[simp] theorem f43_0 : tfld Tryz.prog 43 0 = some (0, false, 1) := by kernel_rfl
@[simp] theorem f43_1 : tfld Tryz.prog 43 1 = some (1, false, 1) := by kernel_rfl
@[simp] theorem f43_2 : tfld Tryz.prog 43 2 = some (2, false, 1) := by kernel_rfl
@[simp] theorem f43_3 : tfld Tryz.prog 43 3 = some (3, false, 1) := by kernel_rfl
@[simp] theorem f43_4 : tfld Tryz.prog 43 4 = some (4, false, 1) := by kernel_rfl
@[simp] theorem f43_5 : tfld Tryz.prog 43 5 = some (5, false, 1) := by kernel_rfl
@[simp] theorem f43_6 : tfld Tryz.prog 43 6 = some (6, false, 1) := by kernel_rfl
@[simp] theorem f43_7 : tfld Tryz.prog 43 7 = some (7, false, 1) := by kernel_rfl
@[simp] theorem p43 : tplaces Tryz.prog 43 = some [(0, 1), (1, 1), (2, 1), (3, 1), (4, 1), (5, 1), (6, 1), (7, 1)] := by kernel_rfl
@[simp] theorem z44 : tsz Tryz.prog 44 = some 8 := by kernel_rfl
@[simp] theorem c44 : tcode Tryz.prog 44 = 8 := by kernel_rfl
@[simp] theorem i44 : tint Tryz.prog 44 = none := by kernel_rfl
@[simp] theorem a44 : tagg Tryz.prog 44 = some true := by kernel_rfl
@[simp] theorem o44 : tzero Tryz.prog 44 = some [.int .i64 0, .int .i64 0, .string (ofL []), .string (ofL []), .slice none 0 0, .slice none 0 0, .slice none 0 0, .slice none 0 0] := by kernel_rfl
@[simp] theorem q44 : tcomp Tryz.prog 44 = false := by kernel_rfl
@[simp] theorem y44 : tbyte Tryz.prog 44 = false := by kernel_rfl
@[simp] theorem f44_0 : tfld Tryz.prog 44 0 = some (0, false, 1) := by kernel_rfl
@[simp] theorem f44_1 : tfld Tryz.prog 44 1 = some (1, false, 1) := by kernel_rfl
@[simp] theorem f44_2 : tfld Tryz.prog 44 2 = some (2, false, 1) := by kernel_rfl
@[simp] theorem f44_3 : tfld Tryz.prog 44 3 = some (3, false, 1) := by kernel_rfl
@[simp] theorem f44_4 : tfld Tryz.prog 44 4 = some (4, false, 1) := by kernel_rfl
@[simp] theorem f44_5 : tfld Tryz.prog 44 5 = some (5, false, 1) := by kernel_rfl
@[simp] theorem f44_6 : tfld Tryz.prog 44 6 = some (6, false, 1) := by kernel_rfl
@[simp] theorem f44_7 : tfld Tryz.prog 44 7 = some (7, false, 1) := by kernel_rfl
@[simp] theorem p44 : tplaces Tryz.prog 44 = some [(0, 1), (1, 1), (2, 1), (3, 1), (4, 1), (5, 1), (6, 1), (7, 1)] := by kernel_rfl
@[simp] theorem z45 : tsz Tryz.prog 45 = some 1 := by kernel_rfl
@[simp] theorem c45 : tcode Tryz.prog 45 = 7 := by kernel_rfl
@[simp] theorem i45 : tint Tryz.prog 45 = none := by kernel_rfl
@[simp] theorem a45 : tagg Tryz.prog 45 = some false := by kernel_rfl
@[simp] theorem o45 : tzero Tryz.prog 45 = some [.nilFunc] := by kernel_rfl
@[simp] theorem q45 : tcomp Tryz.prog 45 = false := by kernel_rfl
@[simp] theorem y45 : tbyte Tryz.prog 45 = false := by kernel_rfl
@[simp] theorem z46 : tsz Tryz.prog 46 = some 1 := by kernel_rfl
@[simp] theorem c46 : tcode Tryz.prog 46 = 7 := by kernel_rfl
@[simp] theorem i46 : tint Tryz.prog 46 = none := by kernel_rfl
@[simp] theorem a46 : tagg Tryz.prog 46 = some false := by kernel_rfl
@[simp] theorem o46 : tzero Tryz.prog 46 = some [.nilFunc] := by kernel_rfl
@[simp] theorem q46 : tcomp Tryz.prog 46 = false := by kernel_rfl
@[simp] theorem y46 : tbyte Tryz.prog 46 = false := by kernel_rfl
@[simp] theorem z48 : tsz Tryz.prog 48 = some 1 := by kernel_rfl
@[simp] theorem c48 : tcode Tryz.prog 48 = 7 := by kernel_rfl
@[simp] theorem i48 : tint Tryz.prog 48 = none := by kernel_rfl
@[simp] theorem a48 : tagg Tryz.prog 48 = some false := by kernel_rfl
@[simp] theorem o48 : tzero Tryz.prog 48 = some [.nilFunc] := by kernel_rfl
@[simp] theorem q48 : tcomp Tryz.prog 48 = false := by kernel_rfl
@[simp] theorem y48 : tbyte Tryz.prog 48 = false := by kernel_rfl
@[simp] theorem z49 : tsz Tryz.prog 49 = some 1 := by kernel_rfl
@[simp] theorem c49 : tcode Tryz.prog 49 = 10 := by kernel_rfl
@[simp] theorem i49 : tint Tryz.prog 49 = none := by kernel_rfl
@[simp] theorem q49 : tcomp Tryz.prog 49 = false := by kernel_rfl
@[simp] theorem y49 : tbyte Tryz.prog 49 = false := by kernel_rfl
@[simp] theorem z53 : tsz Tryz.prog 53 = some 1 := by kernel_rfl
@[simp] theorem c53 : tcode Tryz.prog 53 = 5 := by kernel_rfl
@[simp] theorem i53 : tint Tryz.prog 53 = none := by kernel_rfl
@[simp] theorem a53 : tagg Tryz.prog 53 = some false := by kernel_rfl
@[simp] theorem o53 : tzero Tryz.prog 53 = some [.slice none 0 0] := by kernel_rfl
@[simp] theorem q53 : tcomp Tryz.prog 53 = false := by kernel_rfl
@[simp] theorem e53 : telem Tryz.prog 53 = some (10, 176) := by kernel_rfl
@[simp] theorem w53 : tezero Tryz.prog 53 = some [.string (ofL []), .string (ofL []), .int .i64 0, .int .i64 0, .string (ofL []), .string (ofL []), .slice none 0 0, .slice none 0 0, .slice none 0 0, .slice none 0 0] := by kernel_rfl
@[simp] theorem y53 : tbyte Tryz.prog 53 = false := by kernel_rfl
@[simp] theorem z57 : tsz Tryz.prog 57 = some 1 := by kernel_rfl
@[simp] theorem c57 : tcode Tryz.prog 57 = 7 := by kernel_rfl
@[simp] theorem i57 : tint Tryz.prog 57 = none := by kernel_rfl
@[simp] theorem a57 : tagg Tryz.prog 57 = some false := by kernel_rfl
@[simp] theorem o57 : tzero Tryz.prog 57 = some [.nilFunc] := by kernel_rfl
@[simp] theorem q57 : tcomp Tryz.prog 57 = false := by kernel_rfl
@[simp] theorem y57 : tbyte Tryz.prog 57 = false := by kernel_rfl
@[simp] theorem z58 : tsz Tryz.prog 58 = some 1 := by kernel_rfl
@[simp] theorem c58 : tcode Tryz.prog 58 = 10 := by kernel_rfl
@[simp] theorem i58 : tint Tryz.prog 58 = none := by kernel_rfl
@[simp] theorem q58 : tcomp Tryz.prog 58 = false := by kernel_rfl
@[simp] theorem y58 : tbyte Tryz.prog 58 = false := by kernel_rfl
@[simp] theorem z60 : tsz Tryz.prog 60 = some 1 := by kernel_rfl
@[simp] theorem c60 : tcode Tryz.prog 60 = 7 := by kernel_rfl
@[simp] theorem i60 : tint Tryz.prog 60 = none := by kernel_rfl
@[simp] theorem a60 : tagg Tryz.prog 60 = some false := by kernel_rfl
@[simp] theorem o60 : tzero Tryz.prog 60 = some [.nilFunc] := by kernel_rfl
@[simp] theorem q60 : tcomp Tryz.prog 60 = false := by kernel_rfl
@[simp] theorem y60 : tbyte Tryz.prog 60 = false := by kernel_rfl
@[simp] theorem z61 : tsz Tryz.prog 61 = some 1 := by kernel_rfl
@[simp] theorem c61 : tcode Tryz.prog 61 = 10 := by kernel_rfl
@[simp] theorem i61 : tint Tryz.prog 61 = none := by kernel_rfl
@[simp] theorem q61 : tcomp Tryz.prog 61 = false := by kernel_rfl
@[simp] theorem y61 : tbyte Tryz.prog 61 = false := by kernel_rfl
@[simp] theorem z62 : tsz Tryz.prog 62 = some 1 := by kernel_rfl
@[simp] theorem c62 : tcode Tryz.prog 62 = 7 := by kernel_rfl
@[simp] theorem i62 : tint Tryz.prog 62 = none := by kernel_rfl
@[simp] theorem a62 : tagg Tryz.prog 62 = some false := by kernel_rfl
@[simp] theorem o62 : tzero Tryz.prog 62 = some [.nilFunc] := by kernel_rfl
@[simp] theorem q62 : tcomp Tryz.prog 62 = false := by kernel_rfl
@[simp] theorem y62 : tbyte Tryz.prog 62 = false := by kernel_rfl
@[simp] theorem z65 : tsz Tryz.prog 65 = some 1 := by kernel_rfl
@[simp] theorem c65 : tcode Tryz.prog 65 = 4 := by kernel_rfl
@[simp] theorem i65 : tint Tryz.prog 65 = none := by kernel_rfl
@[simp] theorem a65 : tagg Tryz.prog 65 = some false := by kernel_rfl
@[simp] theorem o65 : tzero Tryz.prog 65 = some [.pointer none] := by kernel_rfl
@[simp] theorem q65 : tcomp Tryz.prog 65 = true := by kernel_rfl
@[simp] theorem y65 : tbyte Tryz.prog 65 = false := by kernel_rfl
@[simp] theorem z67 : tsz Tryz.prog 67 = some 3 := by kernel_rfl
@[simp] theorem c67 : tcode Tryz.prog 67 = 8 := by kernel_rfl
@[simp] theorem i67 : tint Tryz.prog 67 = none := by kernel_rfl
@[simp] theorem a67 : tagg Tryz.prog 67 = some true := by kernel_rfl
@[simp] theorem o67 : tzero Tryz.prog 67 = some [.int .i64 0, .int .i64 0, .int .i64 0] := by kernel_rfl
@[simp] theorem s67 : tsfl Tryz.prog 67 = some [(0, 3, false, 1), (1, 3, false, 1), (2, 3, false, 1)] := by kernel_rfl
@[simp] theorem q67 : tcomp Tryz.prog 67 = true := by kernel_rfl
@[simp] theorem y67 : tbyte Tryz.prog 67 = false := by kernel_rfl
@[simp] theorem f67_0 : tfld Tryz.prog 67 0 = some (0, false, 1) := by kernel_rfl
@[simp] theorem f67_1 : tfld Tryz.prog 67 1 = some (1, false, 1) := by kernel_rfl
@[simp] theorem f67_2 : tfld Tryz.prog 67 2 = some (2, false, 1) := by kernel_rfl
@[simp] theorem p67 : tplaces Tryz.prog 67 = some [(0, 1), (1, 1), (2, 1)] := by kernel_rfl
@[simp] theorem z68 : tsz Tryz.prog 68 = some 3 := by kernel_rfl
@[simp] theorem c68 : tcode Tryz.prog 68 = 8 := by kernel_rfl
@[simp] theorem i68 : tint Tryz.prog 68 = none := by kernel_rfl
@[simp] theorem a68 : tagg Tryz.prog 68 = some true := by kernel_rfl
@[simp] theorem o68 : tzero Tryz.prog 68 = some [.int .i64 0, .int .i64 0, .int .i64 0] := by kernel_rfl
@[simp] theorem s68 : tsfl Tryz.prog 68 = some [(0, 3, false, 1), (1, 3, false, 1), (2, 3, false, 1)] := by kernel_rfl
@[simp] theorem q68 : tcomp Tryz.prog 68 = true := by kernel_rfl
@[simp] theorem y68 : tbyte Tryz.prog 68 = false := by kernel_rfl
@[simp] theorem f68_0 : tfld Tryz.prog 68 0 = some (0, false, 1) := by kernel_rfl
@[simp] theorem f68_1 : tfld Tryz.prog 68 1 = some (1, false, 1) := by kernel_rfl
@[simp] theorem f68_2 : tfld Tryz.prog 68 2 = some (2, false, 1) := by kernel_rfl
@[simp] theorem p68 : tplaces Tryz.prog 68 = some [(0, 1), (1, 1), (2, 1)] := by kernel_rfl
@[simp] theorem z69 : tsz Tryz.prog 69 = some 4 := by kernel_rfl
@[simp] theorem c69 : tcode Tryz.prog 69 = 8 := by kernel_rfl
@[simp] theorem i69 : tint Tryz.prog 69 = none := by kernel_rfl
@[simp] theorem a69 : tagg Tryz.prog 69 = some true := by kernel_rfl
@[simp] theorem o69 : tzero Tryz.prog 69 = some [.string (ofL []), .int .i64 0, .int .i64 0, .int .i64 0] := by kernel_rfl
@[simp] theorem s69 : tsfl Tryz.prog 69 = some [(0, 9, false, 1), (1, 68, true, 3)] := by kernel_rfl
@[simp] theorem q69 : tcomp Tryz.prog 69 = true := by kernel_rfl
@[simp] theorem y69 : tbyte Tryz.prog 69 = false := by kernel_rfl
@[simp] theorem f69_0 : tfld Tryz.prog 69 0 = some (0, false, 1) := by kernel_rfl
@[simp] theorem f69_1 : tfld Tryz.prog 69 1 = some (1, true, 3) := by kernel_rfl
@[simp] theorem p69 : tplaces Tryz.prog 69 = some [(0, 1), (1, 3)] := by kernel_rfl
@[simp] theorem z70 : tsz Tryz.prog 70 = some 4 := by kernel_rfl
@[simp] theorem c70 : tcode Tryz.prog 70 = 8 := by kernel_rfl
@[simp] theorem i70 : tint Tryz.prog 70 = none := by kernel_rfl
@[simp] theorem a70 : tagg Tryz.prog 70 = some true := by kernel_rfl
@[simp] theorem o70 : tzero Tryz.prog 70 = some [.string (ofL []), .int .i64 0, .int .i64 0, .int .i64 0] := by kernel_rfl
@[simp] theorem s70 : tsfl Tryz.prog 70 = some [(0, 9, false, 1), (1, 68, true, 3)] := by kernel_rfl
@[simp] theorem q70 : tcomp Tryz.prog 70 = true := by kernel_rfl
@[simp] theorem y70 : tbyte Tryz.prog 70 = false := by kernel_rfl
@[simp] theorem f70_0 : tfld Tryz.prog 70 0 = some (0, false, 1) := by kernel_rfl
@[simp] theorem f70_1 : tfld Tryz.prog 70 1 = some (1, true, 3) := by kernel_rfl
@[simp] theorem p70 : tplaces Tryz.prog 70 = some [(0, 1), (1, 3)] := by kernel_rfl
@[simp] theorem z71 : tsz Tryz.prog 71 = some 1 := by kernel_rfl
@[simp] theorem c71 : tcode Tryz.prog 71 = 4 := by kernel_rfl
@[simp] theorem i71 : tint Tryz.prog 71 = none := by kernel_rfl
@[simp] theorem a71 : tagg Tryz.prog 71 = some false := by kernel_rfl
@[simp] theorem o71 : tzero Tryz.prog 71 = some [.pointer none] := by kernel_rfl
@[simp] theorem q71 : tcomp Tryz.prog 71 = true := by kernel_rfl
@[simp] theorem y71 : tbyte Tryz.prog 71 = false := by kernel_rfl
@[simp] theorem z72 : tsz Tryz.prog 72 = some 1 := by kernel_rfl
@[simp] theorem c72 : tcode Tryz.prog 72 = 5 := by kernel_rfl
@[simp] theorem i72 : tint Tryz.prog 72 = none := by kernel_rfl
@[simp] theorem a72 : tagg Tryz.prog 72 = some false := by kernel_rfl
@[simp] theorem o72 : tzero Tryz.prog 72 = some [.slice none 0 0] := by kernel_rfl
@[simp] theorem q72 : tcomp Tryz.prog 72 = false := by kernel_rfl
@[simp] theorem e72 : telem Tryz.prog 72 = some (1, 1) := by kernel_rfl
@[simp] theorem w72 : tezero Tryz.prog 72 = some [.int .u8 0] := by kernel_rfl
@[simp] theorem y72 : tbyte Tryz.prog 72 = true := by kernel_rfl
@[simp] theorem z73 : tsz Tryz.prog 73 = some 2 := by kernel_rfl
@[simp] theorem c73 : tcode Tryz.prog 73 = 8 := by kernel_rfl
@[simp] theorem i73 : tint Tryz.prog 73 = none := by kernel_rfl
@[simp] theorem a73 : tagg Tryz.prog 73 = some true := by kernel_rfl
@[simp] theorem o73 : tzero Tryz.prog 73 = some [.pointer none, .slice none 0 0] := by kernel_rfl
@[simp] theorem q73 : tcomp Tryz.prog 73 = false := by kernel_rfl
@[simp] theorem y73 : tbyte Tryz.prog 73 = false := by kernel_rfl
@[simp] theorem f73_0 : tfld Tryz.prog 73 0 = some (0, false, 1) := by kernel_rfl
@[simp] theorem f73_1 : tfld Tryz.prog 73 1 = some (1, false, 1) := by kernel_rfl
@[simp] theorem p73 : tplaces Tryz.prog 73 = some [(0, 1), (1, 1)] := by kernel_rfl
@[simp] theorem z74 : tsz Tryz.prog 74 = some 2 := by kernel_rfl
@[simp] theorem c74 : tcode Tryz.prog 74 = 8 := by kernel_rfl
@[simp] theorem i74 : tint Tryz.prog 74 = none := by kernel_rfl
@[simp] theorem a74 : tagg Tryz.prog 74 = some true := by kernel_rfl
@[simp] theorem o74 : tzero Tryz.prog 74 = some [.pointer none, .slice none 0 0] := by kernel_rfl
@[simp] theorem q74 : tcomp Tryz.prog 74 = false := by kernel_rfl
@[simp] theorem y74 : tbyte Tryz.prog 74 = false := by kernel_rfl
@[simp] theorem f74_0 : tfld Tryz.prog 74 0 = some (0, false, 1) := by kernel_rfl
@[simp] theorem f74_1 : tfld Tryz.prog 74 1 = some (1, false, 1) := by kernel_rfl
@[simp] theorem p74 : tplaces Tryz.prog 74 = some [(0, 1), (1, 1)] := by kernel_rfl
@[simp] theorem z77 : tsz Tryz.prog 77 = some 1 := by kernel_rfl
@[simp] theorem c77 : tcode Tryz.prog 77 = 7 := by kernel_rfl
@[simp] theorem i77 : tint Tryz.prog 77 = none := by kernel_rfl
@[simp] theorem a77 : tagg Tryz.prog 77 = some false := by kernel_rfl
@[simp] theorem o77 : tzero Tryz.prog 77 = some [.nilFunc] := by kernel_rfl
@[simp] theorem q77 : tcomp Tryz.prog 77 = false := by kernel_rfl
@[simp] theorem y77 : tbyte Tryz.prog 77 = false := by kernel_rfl
@[simp] theorem z79 : tsz Tryz.prog 79 = some 1 := by kernel_rfl
@[simp] theorem c79 : tcode Tryz.prog 79 = 7 := by kernel_rfl
@[simp] theorem i79 : tint Tryz.prog 79 = none := by kernel_rfl
@[simp] theorem a79 : tagg Tryz.prog 79 = some false := by kernel_rfl
@[simp] theorem o79 : tzero Tryz.prog 79 = some [.nilFunc] := by kernel_rfl
@[simp] theorem q79 : tcomp Tryz.prog 79 = false := by kernel_rfl
@[simp] theorem y79 : tbyte Tryz.prog 79 = false := by kernel_rfl
@[simp] theorem z81 : tsz Tryz.prog 81 = some 6 := by kernel_rfl
@[simp] theorem c81 : tcode Tryz.prog 81 = 8 := by kernel_rfl
@[simp] theorem i81 : tint Tryz.prog 81 = none := by kernel_rfl
@[simp] theorem a81 : tagg Tryz.prog 81 = some true := by kernel_rfl
@[simp] theorem o81 : tzero Tryz.prog 81 = some [.int .i64 0, .int .i64 0, .int .i64 0, .int .i64 0, .int .i64 0, .int .i64 0] := by kernel_rfl
@[simp] theorem s81 : tsfl Tryz.prog 81 = some [(0, 68, true, 3), (3, 68, true, 3)] := by kernel_rfl
@[simp] theorem q81 : tcomp Tryz.prog 81 = true := by kernel_rfl
@[simp] theorem y81 : tbyte Tryz.prog 81 = false := by kernel_rfl
@[simp] theorem f81_0 : tfld Tryz.prog 81 0 = some (0, true, 3) := by kernel_rfl
@[simp] theorem f81_1 : tfld Tryz.prog 81 1 = some (3, true, 3) := by kernel_rfl
@[simp] theorem p81 : tplaces Tryz.prog 81 = some [(0, 3), (3, 3)] := by kernel_rfl
@[simp] theorem z82 : tsz Tryz.prog 82 = some 6 := by kernel_rfl
@[simp] theorem c82 : tcode Tryz.prog 82 = 8 := by kernel_rfl
@[simp] theorem i82 : tint Tryz.prog 82 = none := by kernel_rfl
@[simp] theorem a82 : tagg Tryz.prog 82 = some true := by kernel_rfl
@[simp] theorem o82 : tzero Tryz.prog 82 = some [.int .i64 0, .int .i64 0, .int .i64 0, .int .i64 0, .int .i64 0, .int .i64 0] := by kernel_rfl
@[simp] theorem s82 : tsfl Tryz.prog 82 = some [(0, 68, true, 3), (3, 68, true, 3)] := by kernel_rfl
@[simp] theorem q82 : tcomp Tryz.prog 82 = true := by kernel_rfl
@[simp] theorem y82 : tbyte Tryz.prog 82 = false := by kernel_rfl
@[simp] theorem f82_0 : tfld Tryz.prog 82 0 = some (0, true, 3) := by kernel_rfl
@[simp] theorem f82_1 : tfld Tryz.prog 82 1 = some (3, true, 3) := by kernel_rfl
@[simp] theorem p82 : tplaces Tryz.prog 82 = some [(0, 3), (3, 3)] := by kernel_rfl
@[simp] theorem z83 : tsz Tryz.prog 83 = some 7 := by kernel_rfl
@[simp] theorem c83 : tcode Tryz.prog 83 = 8 := by kernel_rfl
@[simp] theorem i83 : tint Tryz.prog 83 = none := by kernel_rfl
@[simp] theorem a83 : tagg Tryz.prog 83 = some true := by kernel_rfl
@[simp] theorem o83 : tzero Tryz.prog 83 = some [.string (ofL []), .int .i64 0, .int .i64 0, .int .i64 0, .int .i64 0, .int .i64 0, .int .i64 0] := by kernel_rfl
@[simp] theorem s83 : tsfl Tryz.prog 83 = some [(0, 9, false, 1), (1, 82, true, 6)] := by kernel_rfl
@[simp] theorem q83 : tcomp Tryz.prog 83 = true := by kernel_rfl
@[simp] theorem y83 : tbyte Tryz.prog 83 = false := by kernel_rfl
@[simp] theorem f83_0 : tfld Tryz.prog 83 0 = some (0, false, 1) := by kernel_rfl
@[simp] theorem f83_1 : tfld Tryz.prog 83 1 = some (1, true, 6) := by kernel_rfl
@[simp] theorem p83 : tplaces Tryz.prog 83 = some [(0, 1), (1, 6)] := by kernel_rfl
@[simp] theorem z84 : tsz Tryz.prog 84 = some 7 := by kernel_rfl
@[simp] theorem c84 : tcode Tryz.prog 84 = 8 := by kernel_rfl
@[simp] theorem i84 : tint Tryz.prog 84 = none := by kernel_rfl
@[simp] theorem a84 : tagg Tryz.prog 84 = some true := by kernel_rfl
@[simp] theorem o84 : tzero Tryz.prog 84 = some [.string (ofL []), .int .i64 0, .int .i64 0, .int .i64 0, .int .i64 0, .int .i64 0, .int .i64 0] := by kernel_rfl
@[simp] theorem s84 : tsfl Tryz.prog 84 = some [(0, 9, false, 1), (1, 82, true, 6)] := by kernel_rfl
@[simp] theorem q84 : tcomp Tryz.prog 84 = true := by kernel_rfl
@[simp] theorem y84 : tbyte Tryz.prog 84 = false := by kernel_rfl
@[simp] theorem f84_0 : tfld Tryz.prog 84 0 = some (0, false, 1) := by kernel_rfl
@[simp] theorem f84_1 : tfld Tryz.prog 84 1 = some (1, true, 6) := by kernel_rfl
@[simp] theorem p84 : tplaces Tryz.prog 84 = some [(0, 1), (1, 6)] := by kernel_rfl
@[simp] theorem z87 : tsz Tryz.prog 87 = some 1 := by kernel_rfl
@[simp] theorem c87 : tcode Tryz.prog 87 = 5 := by kernel_rfl
@[simp] theorem i87 : tint Tryz.prog 87 = none := by kernel_rfl
@[simp] theorem a87 : tagg Tryz.prog 87 = some false := by kernel_rfl
@[simp] theorem o87 : tzero Tryz.prog 87 = some [.slice none 0 0] := by kernel_rfl
@[simp] theorem q87 : tcomp Tryz.prog 87 = false := by kernel_rfl
@[simp] theorem e87 : telem Tryz.prog 87 = some (3, 32) := by kernel_rfl
@[simp] theorem w87 : tezero Tryz.prog 87 = some [.int .i64 0, .int .i64 0, .string (ofL [])] := by kernel_rfl
@[simp] theorem y87 : tbyte Tryz.prog 87 = false := by kernel_rfl
@[simp] theorem z90 : tsz Tryz.prog 90 = some 1 := by kernel_rfl
@[simp] theorem c90 : tcode Tryz.prog 90 = 7 := by kernel_rfl
@[simp] theorem i90 : tint Tryz.prog 90 = none := by kernel_rfl
@[simp] theorem a90 : tagg Tryz.prog 90 = some false := by kernel_rfl
@[simp] theorem o90 : tzero Tryz.prog 90 = some [.nilFunc] := by kernel_rfl
@[simp] theorem q90 : tcomp Tryz.prog 90 = false := by kernel_rfl
@[simp] theorem y90 : tbyte Tryz.prog 90 = false := by kernel_rfl
@[simp] theorem z91 : tsz Tryz.prog 91 = some 1 := by kernel_rfl
@[simp] theorem c91 : tcode Tryz.prog 91 = 7 := by kernel_rfl
@[simp] theorem i91 : tint Tryz.prog 91 = none := by kernel_rfl
@[simp] theorem a91 : tagg Tryz.prog 91 = some false := by kernel_rfl
@[simp] theorem o91 : tzero Tryz.prog 91 = some [.nilFunc] := by kernel_rfl
@[simp] theorem q91 : tcomp Tryz.prog 91 = false := by kernel_rfl
@[simp] theorem y91 : tbyte Tryz.prog 91 = false := by kernel_rfl
@[simp] theorem z93 : tsz Tryz.prog 93 = some 3 := by kernel_rfl
@[simp] theorem c93 : tcode Tryz.prog 93 = 8 := by kernel_rfl
@[simp] theorem i93 : tint Tryz.prog 93 = none := by kernel_rfl
@[simp] theorem a93 : tagg Tryz.prog 93 = some true := by kernel_rfl
@[simp] theorem o93 : tzero Tryz.prog 93 = some [.int .i64 0, .int .i64 0, .string (ofL [])] := by kernel_rfl
@[simp] theorem s93 : tsfl Tryz.prog 93 = some [(0, 3, false, 1), (1, 3, false, 1), (2, 9, false, 1)] := by kernel_rfl
@[simp] theorem q93 : tcomp Tryz.prog 93 = true := by kernel_rfl
@[simp] theorem y93 : tbyte Tryz.prog 93 = false := by kernel_rfl
@[simp] theorem f93_0 : tfld Tryz.prog 93 0 = some (0, false, 1) := by kernel_rfl
@[simp] theorem f93_1 : tfld Tryz.prog 93 1 = some (1, false, 1) := by kernel_rfl
@[simp] theorem f93_2 : tfld Tryz.prog 93 2 = some (2, false, 1) := by kernel_rfl
@[simp] theorem p93 : tplaces Tryz.prog 93 = some [(0, 1), (1, 1), (2, 1)] := by kernel_rfl
@[simp] theorem z94 : tsz Tryz.prog 94 = some 3 := by kernel_rfl
@[simp] theorem c94 : tcode Tryz.prog 94 = 8 := by kernel_rfl
@[simp] theorem i94 : tint Tryz.prog 94 = none := by kernel_rfl
@[simp] theorem a94 : tagg Tryz.prog 94 = some true := by kernel_rfl
@[simp] theorem o94 : tzero Tryz.prog 94 = some [.int .i64 0, .int .i64 0, .string (ofL [])] := by kernel_rfl
@[simp] theorem s94 : tsfl Tryz.prog 94 = some [(0, 3, false, 1), (1, 3, false, 1), (2, 9, false, 1)] := by kernel_rfl
@[simp] theorem q94 : tcomp Tryz.prog 94 = true := by kernel_rfl
@[simp] theorem y94 : tbyte Tryz.prog 94 = false := by kernel_rfl
@[simp] theorem f94_0 : tfld Tryz.prog 94 0 = some (0, false, 1) := by kernel_rfl
@[simp] theorem f94_1 : tfld Tryz.prog 94 1 = some (1, false, 1) := by kernel_rfl
@[simp] theorem f94_2 : tfld Tryz.prog 94 2 = some (2, false, 1) := by kernel_rfl
@[simp] theorem p94 : tplaces Tryz.prog 94 = some [(0, 1), (1, 1), (2, 1)] := by kernel_rfl
@[simp] theorem z97 : tsz Tryz.prog 97 = some 1 := by kernel_rfl
@[simp] theorem c97 : tcode Tryz.prog 97 = 7 := by kernel_rfl
@[simp] theorem i97 : tint Tryz.prog 97 = none := by kernel_rfl
@[simp] theorem a97 : tagg Tryz.prog 97 = some false := by kernel_rfl
@[simp] theorem o97 : tzero Tryz.prog 97 = some [.nilFunc] := by kernel_rfl
@[simp] theorem q97 : tcomp Tryz.prog 97 = false := by kernel_rfl
@[simp] theorem y97 : tbyte Tryz.prog 97 = false := by kernel_rfl
@[simp] theorem z98 : tsz Tryz.prog 98 = some 1 := by kernel_rfl
@[simp] theorem c98 : tcode Tryz.prog 98 = 10 := by kernel_rfl
@[simp] theorem i98 : tint Tryz.prog 98 = none := by kernel_rfl
@[simp] theorem q98 : tcomp Tryz.prog 98 = false := by kernel_rfl
@[simp] theorem y98 : tbyte Tryz.prog 98 = false := by kernel_rfl
@[simp] theorem z99 : tsz Tryz.prog 99 = some 1 := by kernel_rfl
@[simp] theorem c99 : tcode Tryz.prog 99 = 7 := by kernel_rfl
@[simp] theorem i99 : tint Tryz.prog 99 = none := by kernel_rfl
@[simp] theorem a99 : tagg Tryz.prog 99 = some false := by kernel_rfl
@[simp] theorem o99 : tzero Tryz.prog 99 = some [.nilFunc] := by kernel_rfl
@[simp] theorem q99 : tcomp Tryz.prog 99 = false := by kernel_rfl
@[simp] theorem y99 : tbyte Tryz.prog 99 = false := by kernel_rfl
@[simp] theorem z100 : tsz Tryz.prog 100 = some 1 := by kernel_rfl
@[simp] theorem c100 : tcode Tryz.prog 100 = 10 := by kernel_rfl
@[simp] theorem i100 : tint Tryz.prog 100 = none := by kernel_rfl
@[simp] theorem q100 : tcomp Tryz.prog 100 = false := by kernel_rfl
@[simp] theorem y100 : tbyte Tryz.prog 100 = false := by kernel_rfl
@[simp] theorem z101 : tsz Tryz.prog 101 = some 1 := by kernel_rfl
@[simp] theorem c101 : tcode Tryz.prog 101 = 7 := by kernel_rfl
@[simp] theorem i101 : tint Tryz.prog 101 = none := by kernel_rfl
@[simp] theorem a101 : tagg Tryz.prog 101 = some false := by kernel_rfl
@[simp] theorem o101 : tzero Tryz.prog 101 = some [.nilFunc] := by kernel_rfl
@[simp] theorem q101 : tcomp Tryz.prog 101 = false := by kernel_rfl
@[simp] theorem y101 : tbyte Tryz.prog 101 = false := by kernel_rfl
@[simp] theorem z102 : tsz Tryz.prog 102 = some 1 := by kernel_rfl
@[simp] theorem c102 : tcode Tryz.prog 102 = 7 := by kernel_rfl
@[simp] theorem i102 : tint Tryz.prog 102 = none := by kernel_rfl
@[simp] theorem a102 : tagg Tryz.prog 102 = some false := by kernel_rfl
@[simp] theorem o102 : tzero Tryz.prog 102 = some [.nilFunc] := by kernel_rfl
@[simp] theorem q102 : tcomp Tryz.prog 102 = false := by kernel_rfl
@[simp] theorem y102 : tbyte Tryz.prog 102 = false := by kernel_rfl
@[simp] theorem z103 : tsz Tryz.prog 103 = some 1 := by kernel_rfl
@[simp] theorem c103 : tcode Tryz.prog 103 = 7 := by kernel_rfl
@[simp] theorem i103 : tint Tryz.prog 103 = none := by kernel_rfl
@[simp] theorem a103 : tagg Tryz.prog 103 = some false := by kernel_rfl
@[simp] theorem o103 : tzero Tryz.prog 103 = some [.nilFunc] := by kernel_rfl
@[simp] theorem q103 : tcomp Tryz.prog 103 = false := by kernel_rfl
@[simp] theorem y103 : tbyte Tryz.prog 103 = false := by kernel_rfl
@[simp] theorem z104 : tsz Tryz.prog 104 = some 7 := by kernel_rfl
@[simp] theorem c104 : tcode Tryz.prog 104 = 8 := by kernel_rfl
@[simp] theorem i104 : tint Tryz.prog 104 = none := by kernel_rfl
@[simp] theorem a104 : tagg Tryz.prog 104 = some true := by kernel_rfl
@[simp] theorem o104 : tzero Tryz.prog 104 = some [.int .i64 0, .string (ofL []), .int .i64 0, .string (ofL []), .string (ofL []), .slice none 0 0, .slice none 0 0] := by kernel_rfl
@[simp] theorem q104 : tcomp Tryz.prog 104 = false := by kernel_rfl
@[simp] theorem y104 : tbyte Tryz.prog 104 = false := by kernel_rfl
@[simp] theorem f104_0 : tfld Tryz.prog 104 0 = some (0, false, 1) := by kernel_rfl
@[simp] theorem f104_1 : tfld Tryz.prog 104 1 = some (1, false, 1) := by kernel_rfl
@[simp] theorem f104_2 : tfld Tryz.prog 104 2 = some (2, false, 1) := by kernel_rfl
@[simp] theorem f104_3 : tfld Tryz.prog 104 3 = some (3, false, 1) := by kernel_rfl
@[simp] theorem f104_4 : tfld Tryz.prog 104 4 = some (4, false, 1) := by kernel_rfl
@[simp] theorem f104_5 : tfld Tryz.prog 104 5 = some (5, false, 1) := by kernel_rfl
@[simp] theorem f104_6 : tfld Tryz.prog 104 6 = some (6, false, 1) := by kernel_rfl
@[simp] theorem p104 : tplaces Tryz.prog 104 = some [(0, 1), (1, 1), (2, 1), (3, 1), (4, 1), (5, 1), (6, 1)] := by kernel_rfl
@[simp] theorem z105 : tsz Tryz.prog 105 = some 7 := by kernel_rfl
@[simp] theorem c105 : tcode Tryz.prog 105 = 8 := by kernel_rfl
@[simp] theorem i105 : tint Tryz.prog 105 = none := by kernel_rfl
@[simp] theorem a105 : tagg Tryz.prog 105 = some true := by kernel_rfl
@[simp] theorem o105 : tzero Tryz.prog 105 = some [.int .i64 0, .string (ofL []), .int .i64 0, .string (ofL []), .string (ofL []), .slice none 0 0, .slice none 0 0] := by kernel_rfl
@[simp] theorem q105 : tcomp Tryz.prog 105 = false := by kernel_rfl
@[simp] theorem y105 : tbyte Tryz.prog 105 = false := by kernel_rfl
@[simp] theorem f105_0 : tfld Tryz.prog 105 0 = some (0, false, 1) := by kernel_rfl
@[simp] theorem f105_1 : tfld Tryz.prog 105 1 = some (1, false, 1) := by kernel_rfl
@[simp] theorem f105_2 : tfld Tryz.prog 105 2 = some (2, false, 1) := by kernel_rfl
@[simp] theorem f105_3 : tfld Tryz.prog 105 3 = some (3, false, 1) := by kernel_rfl
@[simp] theorem f105_4 : tfld Tryz.prog 105 4 = some (4, false, 1) := by kernel_rfl
@[simp] theorem f105_5 : tfld Tryz.prog 105 5 = some (5, false, 1) := by kernel_rfl
@[simp] theorem f105_6 : tfld Tryz.prog 105 6 = some (6, false, 1) := by kernel_rfl
@[simp] theorem p105 : tplaces Tryz.prog 105 = some [(0, 1), (1, 1), (2, 1), (3, 1), (4, 1), (5, 1), (6, 1)] := by kernel_rfl
@[simp] theorem z108 : tsz Tryz.prog 108 = some 1 := by kernel_rfl
@[simp] theorem c108 : tcode Tryz.prog 108 = 7 := by kernel_rfl
@[simp] theorem i108 : tint Tryz.prog 108 = none := by kernel_rfl
@[simp] theorem a108 : tagg Tryz.prog 108 = some false := by kernel_rfl
@[simp] theorem o108 : tzero Tryz.prog 108 = some [.nilFunc] := by kernel_rfl
@[simp] theorem q108 : tcomp Tryz.prog 108 = false := by kernel_rfl
@[simp] theorem y108 : tbyte Tryz.prog 108 = false := by kernel_rfl
@[simp] theorem z109 : tsz Tryz.prog 109 = some 1 := by kernel_rfl
@[simp] theorem c109 : tcode Tryz.prog 109 = 7 := by kernel_rfl
@[simp] theorem i109 : tint Tryz.prog 109 = none := by kernel_rfl
@[simp] theorem a109 : tagg Tryz.prog 109 = some false := by kernel_rfl
@[simp] theorem o109 : tzero Tryz.prog 109 = some [.nilFunc] := by kernel_rfl
@[simp] theorem q109 : tcomp Tryz.prog 109 = false := by kernel_rfl
@[simp] theorem y109 : tbyte Tryz.prog 109 = false := by kernel_rfl
@[simp] theorem z110 : tsz Tryz.prog 110 = some 1 := by kernel_rfl
@[simp] theorem c110 : tcode Tryz.prog 110 = 4 := by kernel_rfl
@[simp] theorem i110 : tint Tryz.prog 110 = none := by kernel_rfl
@[simp] theorem a110 : tagg Tryz.prog 110 = some false := by kernel_rfl
@[simp] theorem o110 : tzero Tryz.prog 110 = some [.pointer none] := by kernel_rfl
@[simp] theorem q110 : tcomp Tryz.prog 110 = true := by kernel_rfl
@[simp] theorem y110 : tbyte Tryz.prog 110 = false := by kernel_rfl
@[simp] theorem z111 : tsz Tryz.prog 111 = some 2 := by kernel_rfl
@[simp] theorem c111 : tcode Tryz.prog 111 = 8 := by kernel_rfl
@[simp] theorem i111 : tint Tryz.prog 111 = none := by kernel_rfl
@[simp] theorem a111 : tagg Tryz.prog 111 = some true := by kernel_rfl
@[simp] theorem o111 : tzero Tryz.prog 111 = some [.int .i64 0, .nilIface] := by kernel_rfl
@[simp] theorem q111 : tcomp Tryz.prog 111 = true := by kernel_rfl
@[simp] theorem y111 : tbyte Tryz.prog 111 = false := by kernel_rfl
@[simp] theorem f111_0 : tfld Tryz.prog 111 0 = some (0, false, 1) := by kernel_rfl
@[simp] theorem f111_1 : tfld Tryz.prog 111 1 = some (1, false, 1) := by kernel_rfl
@[simp] theorem p111 : tplaces Tryz.prog 111 = some [(0, 1), (1, 1)] := by kernel_rfl
@[simp] theorem z112 : tsz Tryz.prog 112 = some 2 := by kernel_rfl
@[simp] theorem c112 : tcode Tryz.prog 112 = 8 := by kernel_rfl
@[simp] theorem i112 : tint Tryz.prog 112 = none := by kernel_rfl
@[simp] theorem a112 : tagg Tryz.prog 112 = some true := by kernel_rfl
@[simp] theorem o112 : tzero Tryz.prog 112 = some [.int .i64 0, .nilIface] := by kernel_rfl
@[simp] theorem q112 : tcomp Tryz.prog 112 = true := by kernel_rfl
@[simp] theorem y112 : tbyte Tryz.prog 112 = false := by kernel_rfl
@[simp] theorem f112_0 : tfld Tryz.prog 112 0 = some (0, false, 1) := by kernel_rfl
@[simp] theorem f112_1 : tfld Tryz.prog 112 1 = some (1, false, 1) := by kernel_rfl
@[simp] theorem p112 : tplaces Tryz.prog 112 = some [(0, 1), (1, 1)] := by kernel_rfl
@[simp] theorem z114 : tsz Tryz.prog 114 = some 1 := by kernel_rfl
@[simp] theorem c114 : tcode Tryz.prog 114 = 7 := by kernel_rfl
@[simp] theorem i114 : tint Tryz.prog 114 = none := by kernel_rfl
@[simp] theorem a114 : tagg Tryz.prog 114 = some false := by kernel_rfl
@[simp] theorem o114 : tzero Tryz.prog 114 = some [.nilFunc] := by kernel_rfl
@[simp] theorem q114 : tcomp Tryz.prog 114 = false := by kernel_rfl
@[simp] theorem y114 : tbyte Tryz.prog 114 = false := by kernel_rfl
@[simp] theorem z115 : tsz Tryz.prog 115 = some 1 := by kernel_rfl
@[simp] theorem c115 : tcode Tryz.prog 115 = 7 := by kernel_rfl
@[simp] theorem i115 : tint Tryz.prog 115 = none := by kernel_rfl
@[simp] theorem a115 : tagg Tryz.prog 115 = some false := by kernel_rfl
@[simp] theorem o115 : tzero Tryz.prog 115 = some [.nilFunc] := by kernel_rfl
@[simp] theorem q115 : tcomp Tryz.prog 115 = false := by kernel_rfl
@[simp] theorem y115 : tbyte Tryz.prog 115 = false := by kernel_rfl
@[simp] theorem z116 : tsz Tryz.prog 116 = some 1 := by kernel_rfl
@[simp] theorem c116 : tcode Tryz.prog 116 = 7 := by kernel_rfl
@[simp] theorem i116 : tint Tryz.prog 116 = none := by kernel_rfl
@[simp] theorem a116 : tagg Tryz.prog 116 = some false := by kernel_rfl
@[simp] theorem o116 : tzero Tryz.prog 116 = some [.nilFunc] := by kernel_rfl
@[simp] theorem q116 : tcomp Tryz.prog 116 = false := by kernel_rfl
@[simp] theorem y116 : tbyte Tryz.prog 116 = false := by kernel_rfl
@[simp] theorem z117 : tsz Tryz.prog 117 = some 1 := by kernel_rfl
@[simp] theorem c117 : tcode Tryz.prog 117 = 7 := by kernel_rfl
@[simp] theorem i117 : tint Tryz.prog 117 = none := by kernel_rfl
@[simp] theorem a117 : tagg Tryz.prog 117 = some false := by kernel_rfl
@[simp] theorem o117 : tzero Tryz.prog 117 = some [.nilFunc] := by kernel_rfl
@[simp] theorem q117 : tcomp Tryz.prog 117 = false := by kernel_rfl
@[simp] theorem y117 : tbyte Tryz.prog 117 = false := by kernel_rfl
@[simp] theorem z118 : tsz Tryz.prog 118 = some 10 := by kernel_rfl
@[simp] theorem c118 : tcode Tryz.prog 118 = 8 := by kernel_rfl
@[simp] theorem i118 : tint Tryz.prog 118 = none := by kernel_rfl
@[simp] theorem a118 : tagg Tryz.prog 118 = some true := by kernel_rfl
@[simp] theorem o118 : tzero Tryz.prog 118 = some [.string (ofL []), .string (ofL []), .int .i64 0, .int .i64 0, .string (ofL []), .string (ofL []), .slice none 0 0, .slice none 0 0, .slice none 0 0, .slice none 0 0] := by kernel_rfl
@[simp] theorem q118 : tcomp Tryz.prog 118 = false := by kernel_rfl
@[simp] theorem y118 : tbyte Tryz.prog 118 = false := by kernel_rfl
@[simp] theorem f118_0 : tfld Tryz.prog 118 0 = some (0, false, 1) := by kernel_rfl
@[simp] theorem f118_1 : tfld Tryz.prog 118 1 = some (1, false, 1) := by kernel_rfl
@[simp] theorem f118_2 : tfld Tryz.prog 118 2 = some (2, true, 8) := by kernel_rfl
@[simp] theorem p118 : tplaces Tryz.prog 118 = some [(0, 1), (1, 1), (2, 8)] := by kernel_rfl
@[simp] theorem z119 : tsz Tryz.prog 119 = some 10 := by kernel_rfl
@[simp] theorem c119 : tcode Tryz.prog 119 = 8 := by kernel_rfl
@[simp] theorem i119 : tint Tryz.prog 119 = none := by kernel_rfl
@[simp] theorem a119 : tagg Tryz.prog 119 = some true := by kernel_rfl
@[simp] theorem o119 : tzero Tryz.prog 119 = some [.string (ofL []), .string (ofL []), .int .i64 0, .int .i64 0, .string (ofL []), .string (ofL []), .slice none 0 0, .slice none 0 0, .slice none 0 0, .slice none 0 0] := by kernel_rfl
@[simp] theorem q119 : tcomp Tryz.prog 119 = false := by kernel_rfl
@[simp] theorem y119 : tbyte Tryz.prog 119 = false := by kernel_rfl
@[simp] theorem f119_0 : tfld Tryz.prog 119 0 = some (0, false, 1) := by kernel_rfl
@[simp] theorem f119_1 : tfld Tryz.prog 119 1 = some (1, false, 1) := by kernel_rfl
@[simp] theorem f119_2 : tfld Tryz.prog 119 2 = some (2, true, 8) := by kernel_rfl
@[simp] theorem p119 : tplaces Tryz.prog 119 = some [(0, 1), (1, 1), (2, 8)] := by kernel_rfl
@[simp] theorem z120 : tsz Tryz.prog 120 = some 1 := by kernel_rfl
@[simp] theorem c120 : tcode Tryz.prog 120 = 7 := by kernel_rfl
@[simp] theorem i120 : tint Tryz.prog 120 = none := by kernel_rfl
@[simp] theorem a120 : tagg Tryz.prog 120 = some false := by kernel_rfl
@[simp] theorem o120 : tzero Tryz.prog 120 = some [.nilFunc] := by kernel_rfl
@[simp] theorem q120 : tcomp Tryz.prog 120 = false := by kernel_rfl
@[simp] theorem y120 : tbyte Tryz.prog 120 = false := by kernel_rfl
@[simp] theorem z121 : tsz Tryz.prog 121 = some 1 := by kernel_rfl
@[simp] theorem c121 : tcode Tryz.prog 121 = 7 := by kernel_rfl
@[simp] theorem i121 : tint Tryz.prog 121 = none := by kernel_rfl
@[simp] theorem a121 : tagg Tryz.prog 121 = some false := by kernel_rfl
@[simp] theorem o121 : tzero Tryz.prog 121 = some [.nilFunc] := by kernel_rfl
@[simp] theorem q121 : tcomp Tryz.prog 121 = false := by kernel_rfl
@[simp] theorem y121 : tbyte Tryz.prog 121 = false := by kernel_rfl
@[simp] theorem z122 : tsz Tryz.prog 122 = some 5 := by kernel_rfl
@[simp] theorem c122 : tcode Tryz.prog 122 = 8 := by kernel_rfl
@[simp] theorem i122 : tint Tryz.prog 122 = none := by kernel_rfl
@[simp] theorem a122 : tagg Tryz.prog 122 = some true := by kernel_rfl
@[simp] theorem o122 : tzero Tryz.prog 122 = some [.string (ofL []), .int .i64 0, .int .i64 0, .int .i64 0, .slice none 0 0] := by kernel_rfl
@[simp] theorem q122 : tcomp Tryz.prog 122 = false := by kernel_rfl
@[simp] theorem y122 : tbyte Tryz.prog 122 = false := by kernel_rfl
@[simp] theorem f122_0 : tfld Tryz.prog 122 0 = some (0, false, 1) := by kernel_rfl
@[simp] theorem f122_1 : tfld Tryz.prog 122 1 = some (1, true, 3) := by kernel_rfl
@[simp] theorem f122_2 : tfld Tryz.prog 122 2 = some (4, false, 1) := by kernel_rfl
@[simp] theorem p122 : tplaces Tryz.prog 122 = some [(0, 1), (1, 3), (4, 1)] := by kernel_rfl
@[simp] theorem z123 : tsz Tryz.prog 123 = some 5 := by kernel_rfl
@[simp] theorem c123 : tcode Tryz.prog 123 = 8 := by kernel_rfl
@[simp] theorem i123 : tint Tryz.prog 123 = none := by kernel_rfl
@[simp] theorem a123 : tagg Tryz.prog 123 = some true := by kernel_rfl
@[simp] theorem o123 : tzero Tryz.prog 123 = some [.string (ofL []), .int .i64 0, .int .i64 0, .int .i64 0, .slice none 0 0] := by kernel_rfl
@[simp] theorem q123 : tcomp Tryz.prog 123 = false := by kernel_rfl
@[simp] theorem y123 : tbyte Tryz.prog 123 = false := by kernel_rfl
@[simp] theorem f123_0 : tfld Tryz.prog 123 0 = some (0, false, 1) := by kernel_rfl
@[simp] theorem f123_1 : tfld Tryz.prog 123 1 = some (1, true, 3) := by kernel_rfl
@[simp] theorem f123_2 : tfld Tryz.prog 123 2 = some (4, false, 1) := by kernel_rfl
@[simp] theorem p123 : tplaces Tryz.prog 123 = some [(0, 1), (1, 3), (4, 1)] := by kernel_rfl
@[simp] theorem z124 : tsz Tryz.prog 124 = some 1 := by kernel_rfl
@[simp] theorem c124 : tcode Tryz.prog 124 = 5 := by kernel_rfl
@[simp] theorem i124 : tint Tryz.prog 124 = none := by kernel_rfl
@[simp] theorem a124 : tagg Tryz.prog 124 = some false := by kernel_rfl
@[simp] theorem o124 : tzero Tryz.prog 124 = some [.slice none 0 0] := by kernel_rfl
@[simp] theorem q124 : tcomp Tryz.prog 124 = false := by kernel_rfl
@[simp] theorem e124 : telem Tryz.prog 124 = some (3, 64) := by kernel_rfl
@[simp] theorem w124 : tezero Tryz.prog 124 = some [.string (ofL []), .slice none 0 0, .slice none 0 0] := by kernel_rfl
@[simp] theorem y124 : tbyte Tryz.prog 124 = false := by kernel_rfl
@[simp] theorem z125 : tsz Tryz.prog 125 = some 1 := by kernel_rfl
@[simp] theorem c125 : tcode Tryz.prog 125 = 5 := by kernel_rfl
@[simp] theorem i125 : tint Tryz.prog 125 = none := by kernel_rfl
@[simp] theorem a125 : tagg Tryz.prog 125 = some false := by kernel_rfl
@[simp] theorem o125 : tzero Tryz.prog 125 = some [.slice none 0 0] := by kernel_rfl
@[simp] theorem q125 : tcomp Tryz.prog 125 = false := by kernel_rfl
@[simp] theorem e125 : telem Tryz.prog 125 = some (2, 48) := by kernel_rfl
@[simp] theorem w125 : tezero Tryz.prog 125 = some [.slice none 0 0, .slice none 0 0] := by kernel_rfl
@[simp] theorem y125 : tbyte Tryz.prog 125 = false := by kernel_rfl
@[simp] theorem z126 : tsz Tryz.prog 126 = some 1 := by kernel_rfl
@[simp] theorem c126 : tcode Tryz.prog 126 = 5 := by kernel_rfl
@[simp] theorem i126 : tint Tryz.prog 126 = none := by kernel_rfl
@[simp] theorem a126 : tagg Tryz.prog 126 = some false := by kernel_rfl
@[simp] theorem o126 : tzero Tryz.prog 126 = some [.slice none 0 0] := by kernel_rfl
@[simp] theorem q126 : tcomp Tryz.prog 126 = false := by kernel_rfl
@[simp] theorem e126 : telem Tryz.prog 126 = some (5, 88) := by kernel_rfl
@[simp] theorem w126 : tezero Tryz.prog 126 = some [.string (ofL []), .int .i64 0, .string (ofL []), .slice none 0 0, .slice none 0 0] := by kernel_rfl
@[simp] theorem y126 : tbyte Tryz.prog 126 = false := by kernel_rfl
@[simp] theorem z127 : tsz Tryz.prog 127 = some 8 := by kernel_rfl
@[simp] theorem c127 : tcode Tryz.prog 127 = 8 := by kernel_rfl
@[simp] theorem i127 : tint Tryz.prog 127 = none := by kernel_rfl
@[simp] theorem a127 : tagg Tryz.prog 127 = some true := by kernel_rfl
@[simp] theorem o127 : tzero Tryz.prog 127 = some [.string (ofL []), .int .i64 0, .int .i64 0, .int .i64 0, .slice none 0 0, .slice none 0 0, .slice none 0 0, .slice none 0 0] := by kernel_rfl
@[simp] theorem q127 : tcomp Tryz.prog 127 = false := by kernel_rfl
@[simp] theorem y127 : tbyte Tryz.prog 127 = false := by kernel_rfl
@[simp] theorem f127_0 : tfld Tryz.prog 127 0 = some (0, true, 5) := by kernel_rfl
@[simp] theorem f127_1 : tfld Tryz.prog 127 1 = some (5, false, 1) := by kernel_rfl
@[simp] theorem f127_2 : tfld Tryz.prog 127 2 = some (6, false, 1) := by kernel_rfl
@[simp] theorem f127_3 : tfld Tryz.prog 127 3 = some (7, false, 1) := by kernel_rfl
@[simp] theorem p127 : tplaces Tryz.prog 127 = some [(0, 5), (5, 1), (6, 1), (7, 1)] := by kernel_rfl
@[simp] theorem z128 : tsz Tryz.prog 128 = some 8 := by kernel_rfl
@[simp] theorem c128 : tcode Tryz.prog 128 = 8 := by kernel_rfl
@[simp] theorem i128 : tint Tryz.prog 128 = none := by kernel_rfl
@[simp] theorem a128 : tagg Tryz.prog 128 = some true := by kernel_rfl
@[simp] theorem o128 : tzero Tryz.prog 128 = some [.string (ofL []), .int .i64 0, .int .i64 0, .int .i64 0, .slice none 0 0, .slice none 0 0, .slice none 0 0, .slice none 0 0] := by kernel_rfl
@[simp] theorem q128 : tcomp Tryz.prog 128 = false := by kernel_rfl
@[simp] theorem y128 : tbyte Tryz.prog 128 = false := by kernel_rfl
@[simp] theorem f128_0 : tfld Tryz.prog 128 0 = some (0, true, 5) := by kernel_rfl
@[simp] theorem f128_1 : tfld Tryz.prog 128 1 = some (5, false, 1) := by kernel_rfl
@[simp] theorem f128_2 : tfld Tryz.prog 128 2 = some (6, false, 1) := by kernel_rfl
@[simp] theorem f128_3 : tfld Tryz.prog 128 3 = some (7, false, 1) := by kernel_rfl
@[simp] theorem p128 : tplaces Tryz.prog 128 = some [(0, 5), (5, 1), (6, 1), (7, 1)] := by kernel_rfl
@[simp] theorem z135 : tsz Tryz.prog 135 = some 1 := by kernel_rfl
@[simp] theorem c135 : tcode Tryz.prog 135 = 7 := by kernel_rfl
@[simp] theorem i135 : tint Tryz.prog 135 = none := by kernel_rfl
@[simp] theorem a135 : tagg Tryz.prog 135 = some false := by kernel_rfl
@[simp] theorem o135 : tzero Tryz.prog 135 = some [.nilFunc] := by kernel_rfl
@[simp] theorem q135 : tcomp Tryz.prog 135 = false := by kernel_rfl
@[simp] theorem y135 : tbyte Tryz.prog 135 = false := by kernel_rfl
@[simp] theorem z136 : tsz Tryz.prog 136 = some 1 := by kernel_rfl
@[simp] theorem c136 : tcode Tryz.prog 136 = 5 := by kernel_rfl
@[simp] theorem i136 : tint Tryz.prog 136 = none := by kernel_rfl
@[simp] theorem a136 : tagg Tryz.prog 136 = some false := by kernel_rfl
@[simp] theorem o136 : tzero Tryz.prog 136 = some [.slice none 0 0] := by kernel_rfl
@[simp] theorem q136 : tcomp Tryz.prog 136 = false := by kernel_rfl
@[simp] theorem e136 : telem Tryz.prog 136 = some (9, 144) := by kernel_rfl
@[simp] theorem w136 : tezero Tryz.prog 136 = some [.string (ofL []), .int .i64 0, .int .i64 0, .int .i64 0, .slice none 0 0, .slice none 0 0, .slice none 0 0, .slice none 0 0, .bool false] := by kernel_rfl
@[simp] theorem y136 : tbyte Tryz.prog 136 = false := by kernel_rfl
@[simp] theorem z137 : tsz Tryz.prog 137 = some 1 := by kernel_rfl
@[simp] theorem c137 : tcode Tryz.prog 137 = 8 := by kernel_rfl
@[simp] theorem i137 : tint Tryz.prog 137 = none := by kernel_rfl
@[simp] theorem a137 : tagg Tryz.prog 137 = some true := by kernel_rfl
@[simp] theorem o137 : tzero Tryz.prog 137 = some [.slice none 0 0] := by kernel_rfl
@[simp] theorem q137 : tcomp Tryz.prog 137 = false := by kernel_rfl
@[simp] theorem y137 : tbyte Tryz.prog 137 = false := by kernel_rfl
@[simp] theorem f137_0 : tfld Tryz.prog 137 0 = some (0, false, 1) := by kernel_rfl
@[simp] theorem p137 : tplaces Tryz.prog 137 = some [(0, 1)] := by kernel_rfl
@[simp] theorem z138 : tsz Tryz.prog 138 = some 1 := by kernel_rfl
@[simp] theorem c138 : tcode Tryz.prog 138 = 8 := by kernel_rfl
@[simp] theorem i138 : tint Tryz.prog 138 = none := by kernel_rfl
@[simp] theorem a138 : tagg Tryz.prog 138 = some true := by kernel_rfl
@[simp] theorem o138 : tzero Tryz.prog 138 = some [.slice none 0 0] := by kernel_rfl
@[simp] theorem q138 : tcomp Tryz.prog 138 = false := by kernel_rfl
@[simp] theorem y138 : tbyte Tryz.prog 138 = false := by kernel_rfl
@[simp] theorem f138_0 : tfld Tryz.prog 138 0 = some (0, false, 1) := by kernel_rfl
@[simp] theorem p138 : tplaces Tryz.prog 138 = some [(0, 1)] := by kernel_rfl
@[simp] theorem z141 : tsz Tryz.prog 141 = some 1 := by kernel_rfl
@[simp] theorem c141 : tcode Tryz.prog 141 = 7 := by kernel_rfl
@[simp] theorem i141 : tint Tryz.prog 141 = none := by kernel_rfl
@[simp] theorem a141 : tagg Tryz.prog 141 = some false := by kernel_rfl
@[simp] theorem o141 : tzero Tryz.prog 141 = some [.nilFunc] := by kernel_rfl
@[simp] theorem q141 : tcomp Tryz.prog 141 = false := by kernel_rfl
@[simp] theorem y141 : tbyte Tryz.prog 141 = false := by kernel_rfl
@[simp] theorem z148 : tsz Tryz.prog 148 = some 1 := by kernel_rfl
@[simp] theorem c148 : tcode Tryz.prog 148 = 7 := by kernel_rfl
@[simp] theorem i148 : tint Tryz.prog 148 = none := by kernel_rfl
@[simp] theorem a148 : tagg Tryz.prog 148 = some false := by kernel_rfl
@[simp] theorem o148 : tzero Tryz.prog 148 = some [.nilFunc] := by kernel_rfl
@[simp] theorem q148 : tcomp Tryz.prog 148 = false := by kernel_rfl
@[simp] theorem y148 : tbyte Tryz.prog 148 = false := by kernel_rfl
@[simp] theorem z150 : tsz Tryz.prog 150 = some 1 := by kernel_rfl
@[simp] theorem c150 : tcode Tryz.prog 150 = 7 := by kernel_rfl
@[simp] theorem i150 : tint Tryz.prog 150 = none := by kernel_rfl
@[simp] theorem a150 : tagg Tryz.prog 150 = some false := by kernel_rfl
@[simp] theorem o150 : tzero Tryz.prog 150 = some [.nilFunc] := by kernel_rfl
@[simp] theorem q150 : tcomp Tryz.prog 150 = false := by kernel_rfl
@[simp] theorem y150 : tbyte Tryz.prog 150 = false := by kernel_rfl
@[simp] theorem z152 : tsz Tryz.prog 152 = some 1 := by kernel_rfl
@[simp] theorem c152 : tcode Tryz.prog 152 = 5 := by kernel_rfl
@[simp] theorem i152 : tint Tryz.prog 152 = none := by kernel_rfl
@[simp] theorem a152 : tagg Tryz.prog 152 = some false := by kernel_rfl
@[simp] theorem o152 : tzero Tryz.prog 152 = some [.slice none 0 0] := by kernel_rfl
@[simp] theorem q152 : tcomp Tryz.prog 152 = false := by kernel_rfl
@[simp] theorem e152 : telem Tryz.prog 152 = some (1, 8) := by kernel_rfl
@[simp] theorem w152 : tezero Tryz.prog 152 = some [.int .i64 0] := by kernel_rfl
@[simp] theorem y152 : tbyte Tryz.prog 152 = false := by kernel_rfl
@[simp] theorem z154 : tsz Tryz.prog 154 = some 1 := by kernel_rfl
@[simp] theorem c154 : tcode Tryz.prog 154 = 4 := by kernel_rfl
@[simp] theorem i154 : tint Tryz.prog 154 = none := by kernel_rfl
@[simp] theorem a154 : tagg Tryz.prog 154 = some false := by kernel_rfl
@[simp] theorem o154 : tzero Tryz.prog 154 = some [.pointer none] := by kernel_rfl
@[simp] theorem q154 : tcomp Tryz.prog 154 = true := by kernel_rfl
@[simp] theorem y154 : tbyte Tryz.prog 154 = false := by kernel_rfl
@[simp] theorem z156 : tsz Tryz.prog 156 = some 1 := by kernel_rfl
@[simp] theorem c156 : tcode Tryz.prog 156 = 7 := by kernel_rfl
@[simp] theorem i156 : tint Tryz.prog 156 = none := by kernel_rfl
@[simp] theorem a156 : tagg Tryz.prog 156 = some false := by kernel_rfl
@[simp] theorem o156 : tzero Tryz.prog 156 = some [.nilFunc] := by kernel_rfl
@[simp] theorem q156 : tcomp Tryz.prog 156 = false := by kernel_rfl
@[simp] theorem y156 : tbyte Tryz.prog 156 = false := by kernel_rfl
@[simp] theorem z158 : tsz Tryz.prog 158 = some 1 := by kernel_rfl
@[simp] theorem c158 : tcode Tryz.prog 158 = 4 := by kernel_rfl
@[simp] theorem i158 : tint Tryz.prog 158 = none := by kernel_rfl
@[simp] theorem a158 : tagg Tryz.prog 158 = some false := by kernel_rfl
@[simp] theorem o158 : tzero Tryz.prog 158 = some [.pointer none] := by kernel_rfl
@[simp] theorem q158 : tcomp Tryz.prog 158 = true := by kernel_rfl
@[simp] theorem y158 : tbyte Tryz.prog 158 = false := by kernel_rfl
@[simp] theorem z159 : tsz Tryz.prog 159 = some 4 := by kernel_rfl
@[simp] theorem c159 : tcode Tryz.prog 159 = 8 := by kernel_rfl
@[simp] theorem i159 : tint Tryz.prog 159 = none := by kernel_rfl
@[simp] theorem a159 : tagg Tryz.prog 159 = some true := by kernel_rfl
@[simp] theorem o159 : tzero Tryz.prog 159 = some [.slice none 0 0, .int .i64 0, .int .i64 0, .nilIface] := by kernel_rfl
@[simp] theorem q159 : tcomp Tryz.prog 159 = false := by kernel_rfl
@[simp] theorem y159 : tbyte Tryz.prog 159 = false := by kernel_rfl
@[simp] theorem f159_0 : tfld Tryz.prog 159 0 = some (0, false, 1) := by kernel_rfl
@[simp] theorem f159_1 : tfld Tryz.prog 159 1 = some (1, false, 1) := by kernel_rfl
@[simp] theorem f159_2 : tfld Tryz.prog 159 2 = some (2, false, 1) := by kernel_rfl
@[simp] theorem f159_3 : tfld Tryz.prog 159 3 = some (3, false, 1) := by kernel_rfl
@[simp] theorem p159 : tplaces Tryz.prog 159 = some [(0, 1), (1, 1), (2, 1), (3, 1)] := by kernel_rfl
@[simp] theorem z160 : tsz Tryz.prog 160 = some 4 := by kernel_rfl
@[simp] theorem c160 : tcode Tryz.prog 160 = 8 := by kernel_rfl
@[simp] theorem i160 : tint Tryz.prog 160 = none := by kernel_rfl
@[simp] theorem a160 : tagg Tryz.prog 160 = some true := by kernel_rfl
@[simp] theorem o160 : tzero Tryz.prog 160 = some [.slice none 0 0, .int .i64 0, .int .i64 0, .nilIface] := by kernel_rfl
@[simp] theorem q160 : tcomp Tryz.prog 160 = false := by kernel_rfl
@[simp] theorem y160 : tbyte Tryz.prog 160 = false := by kernel_rfl
@[simp] theorem f160_0 : tfld Tryz.prog 160 0 = some (0, false, 1) := by kernel_rfl
@[simp] theorem f160_1 : tfld Tryz.prog 160 1 = some (1, false, 1) := by kernel_rfl
@[simp] theorem f160_2 : tfld Tryz.prog 160 2 = some (2, false, 1) := by kernel_rfl
@[simp] theorem f160_3 : tfld Tryz.prog 160 3 = some (3, false, 1) := by kernel_rfl
@[simp] theorem p160 : tplaces Tryz.prog 160 = some [(0, 1), (1, 1), (2, 1), (3, 1)] := by kernel_rfl
@[simp] theorem z169 : tsz Tryz.prog 169 = some 1 := by kernel_rfl
@[simp] theorem c169 : tcode Tryz.prog 169 = 7 := by kernel_rfl
@[simp] theorem i169 : tint Tryz.prog 169 = none := by kernel_rfl
@[simp] theorem a169 : tagg Tryz.prog 169 = some false := by kernel_rfl
@[simp] theorem o169 : tzero Tryz.prog 169 = some [.nilFunc] := by kernel_rfl
@[simp] theorem q169 : tcomp Tryz.prog 169 = false := by kernel_rfl
@[simp] theorem y169 : tbyte Tryz.prog 169 = false := by kernel_rfl
@[simp] theorem z177 : tsz Tryz.prog 177 = some 1 := by kernel_rfl
@[simp] theorem c177 : tcode Tryz.prog 177 = 7 := by kernel_rfl
@[simp] theorem i177 : tint Tryz.prog 177 = none := by kernel_rfl
@[simp] theorem a177 : tagg Tryz.prog 177 = some false := by kernel_rfl
@[simp] theorem o177 : tzero Tryz.prog 177 = some [.nilFunc] := by kernel_rfl
@[simp] theorem q177 : tcomp Tryz.prog 177 = false := by kernel_rfl
@[simp] theorem y177 : tbyte Tryz.prog 177 = false := by kernel_rfl
@[simp] theorem z180 : tsz Tryz.prog 180 = some 9 := by kernel_rfl
@[simp] theorem c180 : tcode Tryz.prog 180 = 8 := by kernel_rfl
@[simp] theorem i180 : tint Tryz.prog 180 = none := by kernel_rfl
@[simp] theorem a180 : tagg Tryz.prog 180 = some true := by kernel_rfl
@[simp] theorem o180 : tzero Tryz.prog 180 = some [.string (ofL []), .int .i64 0, .int .i64 0, .int .i64 0, .slice none 0 0, .slice none 0 0, .slice none 0 0, .slice none 0 0, .bool false] := by kernel_rfl
@[simp] theorem q180 : tcomp Tryz.prog 180 = false := by kernel_rfl
@[simp] theorem y180 : tbyte Tryz.prog 180 = false := by kernel_rfl
@[simp] theorem f180_0 : tfld Tryz.prog 180 0 = some (0, true, 8) := by kernel_rfl
@[simp] theorem f180_1 : tfld Tryz.prog 180 1 = some (8, false, 1) := by kernel_rfl
@[simp] theorem p180 : tplaces Tryz.prog 180 = some [(0, 8), (8, 1)] := by kernel_rfl
@[simp] theorem z181 : tsz Tryz.prog 181 = some 9 := by kernel_rfl
@[simp] theorem c181 : tcode Tryz.prog 181 = 8 := by kernel_rfl
@[simp] theorem i181 : tint Tryz.prog 181 = none := by kernel_rfl
@[simp] theorem a181 : tagg Tryz.prog 181 = some true := by kernel_rfl
@[simp] theorem o181 : tzero Tryz.prog 181 = some [.string (ofL []), .int .i64 0, .int .i64 0, .int .i64 0, .slice none 0 0, .slice none 0 0, .slice none 0 0, .slice none 0 0, .bool false] := by kernel_rfl
@[simp] theorem q181 : tcomp Tryz.prog 181 = false := by kernel_rfl
@[simp] theorem y181 : tbyte Tryz.prog 181 = false := by kernel_rfl
@[simp] theorem f181_0 : tfld Tryz.prog 181 0 = some (0, true, 8) := by kernel_rfl
@[simp] theorem f181_1 : tfld Tryz.prog 181 1 = some (8, false, 1) := by kernel_rfl
@[simp] theorem p181 : tplaces Tryz.prog 181 = some [(0, 8), (8, 1)] := by kernel_rfl
@[simp] theorem z200 : tsz Tryz.prog 200 = some 1 := by kernel_rfl
@[simp] theorem c200 : tcode Tryz.prog 200 = 6 := by kernel_rfl
@[simp] theorem i200 : tint Tryz.prog 200 = none := by kernel_rfl
@[simp] theorem a200 : tagg Tryz.prog 200 = some false := by kernel_rfl
@[simp] theorem o200 : tzero Tryz.prog 200 = some [.nilIface] := by kernel_rfl
@[simp] theorem q200 : tcomp Tryz.prog 200 = true := by kernel_rfl
@[simp] theorem y200 : tbyte Tryz.prog 200 = false := by kernel_rfl
@[simp] theorem z213 : tsz Tryz.prog 213 = some 4 := by kernel_rfl
@[simp] theorem c213 : tcode Tryz.prog 213 = 9 := by kernel_rfl
@[simp] theorem i213 : tint Tryz.prog 213 = none := by kernel_rfl
@[simp] theorem a213 : tagg Tryz.prog 213 = some true := by kernel_rfl
@[simp] theorem o213 : tzero Tryz.prog 213 = some [.int .i64 0, .int .i64 0, .int .i64 0, .int .i64 0] := by kernel_rfl
@[simp] theorem q213 : tcomp Tryz.prog 213 = true := by kernel_rfl
@[simp] theorem y213 : tbyte Tryz.prog 213 = false := by kernel_rfl
@[simp] theorem z220 : tsz Tryz.prog 220 = some 1 := by kernel_rfl
@[simp] theorem c220 : tcode Tryz.prog 220 = 5 := by kernel_rfl
@[simp] theorem i220 : tint Tryz.prog 220 = none := by kernel_rfl
@[simp] theorem a220 : tagg Tryz.prog 220 = some false := by kernel_rfl
@[simp] theorem o220 : tzero Tryz.prog 220 = some [.slice none 0 0] := by kernel_rfl
@[simp] theorem q220 : tcomp Tryz.prog 220 = false := by kernel_rfl
@[simp] theorem e220 : telem Tryz.prog 220 = some (1, 24) := by kernel_rfl
@[simp] theorem w220 : tezero Tryz.prog 220 = some [.slice none 0 0] := by kernel_rfl
@[simp] theorem y220 : tbyte Tryz.prog 220 = false := by kernel_rfl
@[simp] theorem z226 : tsz Tryz.prog 226 = some 1 := by kernel_rfl
@[simp] theorem c226 : tcode Tryz.prog 226 = 7 := by kernel_rfl
@[simp] theorem i226 : tint Tryz.prog 226 = none := by kernel_rfl
@[simp] theorem a226 : tagg Tryz.prog 226 = some false := by kernel_rfl
@[simp] theorem o226 : tzero Tryz.prog 226 = some [.nilFunc] := by kernel_rfl
@[simp] theorem q226 : tcomp Tryz.prog 226 = false := by kernel_rfl
@[simp] theorem y226 : tbyte Tryz.prog 226 = false := by kernel_rfl
@[simp] theorem z227 : tsz Tryz.prog 227 = some 1 := by kernel_rfl
@[simp] theorem c227 : tcode Tryz.prog 227 = 4 := by kernel_rfl
@[simp] theorem i227 : tint Tryz.prog 227 = none := by kernel_rfl
@[simp] theorem a227 : tagg Tryz.prog 227 = some false := by kernel_rfl
@[simp] theorem o227 : tzero Tryz.prog 227 = some [.pointer none] := by kernel_rfl
@[simp] theorem q227 : tcomp Tryz.prog 227 = true := by kernel_rfl
@[simp] theorem y227 : tbyte Tryz.prog 227 = false := by kernel_rfl
@[simp] theorem z228 : tsz Tryz.prog 228 = some 8 := by kernel_rfl
@[simp] theorem c228 : tcode Tryz.prog 228 = 8 := by kernel_rfl
@[simp] theorem i228 : tint Tryz.prog 228 = none := by kernel_rfl
@[simp] theorem a228 : tagg Tryz.prog 228 = some true := by kernel_rfl
@[simp] theorem o228 : tzero Tryz.prog 228 = some [.string (ofL []), .int .i64 0, .string (ofL []), .int .i64 0, .string (ofL []), .string (ofL []), .slice none 0 0, .slice none 0 0] := by kernel_rfl
@[simp] theorem q228 : tcomp Tryz.prog 228 = false := by kernel_rfl
@[simp] theorem y228 : tbyte Tryz.prog 228 = false := by kernel_rfl
@[simp] theorem f228_0 : tfld Tryz.prog 228 0 = some (0, false, 1) := by kernel_rfl
@[simp] theorem f228_1 : tfld Tryz.prog 228 1 = some (1, true, 7) := by kernel_rfl
@[simp] theorem p228 : tplaces Tryz.prog 228 = some [(0, 1), (1, 7)] := by kernel_rfl
@[simp] theorem z229 : tsz Tryz.prog 229 = some 8 := by kernel_rfl
@[simp] theorem c229 : tcode Tryz.prog 229 = 8 := by kernel_rfl
@[simp] theorem i229 : tint Tryz.prog 229 = none := by kernel_rfl
@[simp] theorem a229 : tagg Tryz.prog 229 = some true := by kernel_rfl
@[simp] theorem o229 : tzero Tryz.prog 229 = some [.string (ofL []), .int .i64 0, .string (ofL []), .int .i64 0, .string (ofL []), .string (ofL []), .slice none 0 0, .slice none 0 0] := by kernel_rfl
@[simp] theorem q229 : tcomp Tryz.prog 229 = false := by kernel_rfl
@[simp] theorem y229 : tbyte Tryz.prog 229 = false := by kernel_rfl
@[simp] theorem f229_0 : tfld Tryz.prog 229 0 = some (0, false, 1) := by kernel_rfl
@[simp] theorem f229_1 : tfld Tryz.prog 229 1 = some (1, true, 7) := by kernel_rfl
@[simp] theorem p229 : tplaces Tryz.prog 229 = some [(0, 1), (1, 7)] := by kernel_rfl
@[simp] theorem z230 : tsz Tryz.prog 230 = some 1 := by kernel_rfl
@[simp] theorem c230 : tcode Tryz.prog 230 = 7 := by kernel_rfl
@[simp] theorem i230 : tint Tryz.prog 230 = none := by kernel_rfl
@[simp] theorem a230 : tagg Tryz.prog 230 = some false := by kernel_rfl
@[simp] theorem o230 : tzero Tryz.prog 230 = some [.nilFunc] := by kernel_rfl
@[simp] theorem q230 : tcomp Tryz.prog 230 = false := by kernel_rfl
@[simp] theorem y230 : tbyte Tryz.prog 230 = false := by kernel_rfl
@[simp] theorem z233 : tsz Tryz.prog 233 = some 1 := by kernel_rfl
@[simp] theorem c233 : tcode Tryz.prog 233 = 5 := by kernel_rfl
@[simp] theorem i233 : tint Tryz.prog 233 = none := by kernel_rfl
@[simp] theorem a233 : tagg Tryz.prog 233 = some false := by kernel_rfl
@[simp] theorem o233 : tzero Tryz.prog 233 = some [.slice none 0 0] := by kernel_rfl
@[simp] theorem q233 : tcomp Tryz.prog 233 = false := by kernel_rfl
@[simp] theorem e233 : telem Tryz.prog 233 = some (4, 56) := by kernel_rfl
@[simp] theorem w233 : tezero Tryz.prog 233 = some [.string (ofL []), .int .i64 0, .string (ofL []), .string (ofL [])] := by kernel_rfl
@[simp] theorem y233 : tbyte Tryz.prog 233 = false := by kernel_rfl
@[simp] theorem z234 : tsz Tryz.prog 234 = some 1 := by kernel_rfl
@[simp] theorem c234 : tcode Tryz.prog 234 = 5 := by kernel_rfl
@[simp] theorem i234 : tint Tryz.prog 234 = none := by kernel_rfl
@[simp] theorem a234 : tagg Tryz.prog 234 = some false := by kernel_rfl
@[simp] theorem o234 : tzero Tryz.prog 234 = some [.slice none 0 0] := by kernel_rfl
@[simp] theorem q234 : tcomp Tryz.prog 234 = false := by kernel_rfl
@[simp] theorem e234 : telem Tryz.prog 234 = some (9, 136) := by kernel_rfl
@[simp] theorem w234 : tezero Tryz.prog 234 = some [.int .i64 0, .string (ofL []), .int .i64 0, .string (ofL []), .int .i64 0, .string (ofL []), .string (ofL []), .slice none 0 0, .slice none 0 0] := by kernel_rfl
@[simp] theorem y234 : tbyte Tryz.prog 234 = false := by kernel_rfl
@[simp] theorem z235 : tsz Tryz.prog 235 = some 3 := by kernel_rfl
@[simp] theorem c235 : tcode Tryz.prog 235 = 8 := by kernel_rfl
@[simp] theorem i235 : tint Tryz.prog 235 = none := by kernel_rfl
@[simp] theorem a235 : tagg Tryz.prog 235 = some true := by kernel_rfl
@[simp] theorem o235 : tzero Tryz.prog 235 = some [.string (ofL []), .slice none 0 0, .slice none 0 0] := by kernel_rfl
@[simp] theorem q235 : tcomp Tryz.prog 235 = false := by kernel_rfl
@[simp] theorem y235 : tbyte Tryz.prog 235 = false := by kernel_rfl
@[simp] theorem f235_0 : tfld Tryz.prog 235 0 = some (0, false, 1) := by kernel_rfl
@[simp] theorem f235_1 : tfld Tryz.prog 235 1 = some (1, false, 1) := by kernel_rfl
@[simp] theorem f235_2 : tfld Tryz.prog 235 2 = some (2, false, 1) := by kernel_rfl
@[simp] theorem p235 : tplaces Tryz.prog 235 = some [(0, 1), (1, 1), (2, 1)] := by kernel_rfl
@[simp] theorem z236 : tsz Tryz.prog 236 = some 3 := by kernel_rfl
@[simp] theorem c236 : tcode Tryz.prog 236 = 8 := by kernel_rfl
@[simp] theorem i236 : tint Tryz.prog 236 = none := by kernel_rfl
@[simp] theorem a236 : tagg Tryz.prog 236 = some true := by kernel_rfl
@[simp] theorem o236 : tzero Tryz.prog 236 = some [.string (ofL []), .slice none 0 0, .slice none 0 0] := by kernel_rfl
@[simp] theorem q236 : tcomp Tryz.prog 236 = false := by kernel_rfl
@[simp] theorem y236 : tbyte Tryz.prog 236 = false := by kernel_rfl
@[simp] theorem f236_0 : tfld Tryz.prog 236 0 = some (0, false, 1) := by kernel_rfl
@[simp] theorem f236_1 : tfld Tryz.prog 236 1 = some (1, false, 1) := by kernel_rfl
@[simp] theorem f236_2 : tfld Tryz.prog 236 2 = some (2, false, 1) := by kernel_rfl
@[simp] theorem p236 : tplaces Tryz.prog 236 = some [(0, 1), (1, 1), (2, 1)] := by kernel_rfl
@[simp] theorem z237 : tsz Tryz.prog 237 = some 1 := by kernel_rfl
@[simp] theorem c237 : tcode Tryz.prog 237 = 4 := by kernel_rfl
@[simp] theorem i237 : tint Tryz.prog 237 = none := by kernel_rfl
@[simp] theorem a237 : tagg Tryz.prog 237 = some false := by kernel_rfl
@[simp] theorem o237 : tzero Tryz.prog 237 = some [.pointer none] := by kernel_rfl
@[simp] theorem q237 : tcomp Tryz.prog 237 = true := by kernel_rfl
@[simp] theorem y237 : tbyte Tryz.prog 237 = false := by kernel_rfl
@[simp] theorem z239 : tsz Tryz.prog 239 = some 4 := by kernel_rfl
@[simp] theorem c239 : tcode Tryz.prog 239 = 8 := by kernel_rfl
@[simp] theorem i239 : tint Tryz.prog 239 = none := by kernel_rfl
@[simp] theorem a239 : tagg Tryz.prog 239 = some true := by kernel_rfl
@[simp] theorem o239 : tzero Tryz.prog 239 = some [.string (ofL []), .int .i64 0, .string (ofL []), .string (ofL [])] := by kernel_rfl
@[simp] theorem s239 : tsfl Tryz.prog 239 = some [(0, 9, false, 1), (1, 3, false, 1), (2, 9, false, 1), (3, 9, false, 1)] := by kernel_rfl
@[simp] theorem q239 : tcomp Tryz.prog 239 = true := by kernel_rfl
@[simp] theorem y239 : tbyte Tryz.prog 239 = false := by kernel_rfl
@[simp] theorem f239_0 : tfld Tryz.prog 239 0 = some (0, false, 1) := by kernel_rfl
@[simp] theorem f239_1 : tfld Tryz.prog 239 1 = some (1, false, 1) := by kernel_rfl
@[simp] theorem f239_2 : tfld Tryz.prog 239 2 = some (2, false, 1) := by kernel_rfl
@[simp] theorem f239_3 : tfld Tryz.prog 239 3 = some (3, false, 1) := by kernel_rfl
@[simp] theorem p239 : tplaces Tryz.prog 239 = some [(0, 1), (1, 1), (2, 1), (3, 1)] := by kernel_rfl
@[simp] theorem z240 : tsz Tryz.prog 240 = some 4 := by kernel_rfl
@[simp] theorem c240 : tcode Tryz.prog 240 = 8 := by kernel_rfl
@[simp] theorem i240 : tint Tryz.prog 240 = none := by kernel_rfl
@[simp] theorem a240 : tagg Tryz.prog 240 = some true := by kernel_rfl
@[simp] theorem o240 : tzero Tryz.prog 240 = some [.string (ofL []), .int .i64 0, .string (ofL []), .string (ofL [])] := by kernel_rfl
@[simp] theorem s240 : tsfl Tryz.prog 240 = some [(0, 9, false, 1), (1, 3, false, 1), (2, 9, false, 1), (3, 9, false, 1)] := by kernel_rfl
@[simp] theorem q240 : tcomp Tryz.prog 240 = true := by kernel_rfl
@[simp] theorem y240 : tbyte Tryz.prog 240 = false := by kernel_rfl
@[simp] theorem f240_0 : tfld Tryz.prog 240 0 = some (0, false, 1) := by kernel_rfl
@[simp] theorem f240_1 : tfld Tryz.prog 240 1 = some (1, false, 1) := by kernel_rfl
@[simp] theorem f240_2 : tfld Tryz.prog 240 2 = some (2, false, 1) := by kernel_rfl
@[simp] theorem f240_3 : tfld Tryz.prog 240 3 = some (3, false, 1) := by kernel_rfl
@[simp] theorem p240 : tplaces Tryz.prog 240 = some [(0, 1), (1, 1), (2, 1), (3, 1)] := by kernel_rfl
@[simp] theorem z242 : tsz Tryz.prog 242 = some 9 := by kernel_rfl
@[simp] theorem c242 : tcode Tryz.prog 242 = 8 := by kernel_rfl
@[simp] theorem i242 : tint Tryz.prog 242 = none := by kernel_rfl
@[simp] theorem a242 : tagg Tryz.prog 242 = some true := by kernel_rfl
@[simp] theorem o242 : tzero Tryz.prog 242 = some [.int .i64 0, .string (ofL []), .int .i64 0, .string (ofL []), .int .i64 0, .string (ofL []), .string (ofL []), .slice none 0 0, .slice none 0 0] := by kernel_rfl
@[simp] theorem q242 : tcomp Tryz.prog 242 = false := by kernel_rfl
@[simp] theorem y242 : tbyte Tryz.prog 242 = false := by kernel_rfl
@[simp] theorem f242_0 : tfld Tryz.prog 242 0 = some (0, false, 1) := by kernel_rfl
@[simp] theorem f242_1 : tfld Tryz.prog 242 1 = some (1, false, 1) := by kernel_rfl
@[simp] theorem f242_2 : tfld Tryz.prog 242 2 = some (2, true, 7) := by kernel_rfl
@[simp] theorem p242 : tplaces Tryz.prog 242 = some [(0, 1), (1, 1), (2, 7)] := by kernel_rfl
@[simp] theorem z243 : tsz Tryz.prog 243 = some 9 := by kernel_rfl
@[simp] theorem c243 : tcode Tryz.prog 243 = 8 := by kernel_rfl
@[simp] theorem i243 : tint Tryz.prog 243 = none := by kernel_rfl
@[simp] theorem a243 : tagg Tryz.prog 243 = some true := by kernel_rfl
@[simp] theorem o243 : tzero Tryz.prog 243 = some [.int .i64 0, .string (ofL []), .int .i64 0, .string (ofL []), .int .i64 0, .string (ofL []), .string (ofL []), .slice none 0 0, .slice none 0 0] := by kernel_rfl
@[simp] theorem q243 : tcomp Tryz.prog 243 = false := by kernel_rfl
@[simp] theorem y243 : tbyte Tryz.prog 243 = false := by kernel_rfl
@[simp] theorem f243_0 : tfld Tryz.prog 243 0 = some (0, false, 1) := by kernel_rfl
@[simp] theorem f243_1 : tfld Tryz.prog 243 1 = some (1, false, 1) := by kernel_rfl
@[simp] theorem f243_2 : tfld Tryz.prog 243 2 = some (2, true, 7) := by kernel_rfl
@[simp] theorem p243 : tplaces Tryz.prog 243 = some [(0, 1), (1, 1), (2, 7)] := by kernel_rfl
@[simp] theorem z244 : tsz Tryz.prog 244 = some 1 := by kernel_rfl
@[simp] theorem c244 : tcode Tryz.prog 244 = 4 := by kernel_rfl
@[simp] theorem i244 : tint Tryz.prog 244 = none := by kernel_rfl
@[simp] theorem a244 : tagg Tryz.prog 244 = some false := by kernel_rfl
@[simp] theorem o244 : tzero Tryz.prog 244 = some [.pointer none] := by kernel_rfl
@[simp] theorem q244 : tcomp Tryz.prog 244 = true := by kernel_rfl
@[simp] theorem y244 : tbyte Tryz.prog 244 = false := by kernel_rfl
@[simp] theorem z245 : tsz Tryz.prog 245 = some 1 := by kernel_rfl
@[simp] theorem c245 : tcode Tryz.prog 245 = 7 := by kernel_rfl
@[simp] theorem i245 : tint Tryz.prog 245 = none := by kernel_rfl
@[simp] theorem a245 : tagg Tryz.prog 245 = some false := by kernel_rfl
@[simp] theorem o245 : tzero Tryz.prog 245 = some [.nilFunc] := by kernel_rfl
@[simp] theorem q245 : tcomp Tryz.prog 245 = false := by kernel_rfl
@[simp] theorem y245 : tbyte Tryz.prog 245 = false := by kernel_rfl
@[simp] theorem z246 : tsz Tryz.prog 246 = some 1 := by kernel_rfl
@[simp] theorem c246 : tcode Tryz.prog 246 = 7 := by kernel_rfl
@[simp] theorem i246 : tint Tryz.prog 246 = none := by kernel_rfl
@[simp] theorem a246 : tagg Tryz.prog 246 = some false := by kernel_rfl
@[simp] theorem o246 : tzero Tryz.prog 246 = some [.nilFunc] := by kernel_rfl
@[simp] theorem q246 : tcomp Tryz.prog 246 = false := by kernel_rfl
@[simp] theorem y246 : tbyte Tryz.prog 246 = false := by kernel_rfl
@[simp] theorem z248 : tsz Tryz.prog 248 = some 1 := by kernel_rfl
@[simp] theorem c248 : tcode Tryz.prog 248 = 5 := by kernel_rfl
@[simp] theorem i248 : tint Tryz.prog 248 = none := by kernel_rfl
@[simp] theorem a248 : tagg Tryz.prog 248 = some false := by kernel_rfl
@[simp] theorem o248 : tzero Tryz.prog 248 = some [.slice none 0 0] := by kernel_rfl
@[simp] theorem q248 : tcomp Tryz.prog 248 = false := by kernel_rfl
@[simp] theorem e248 : telem Tryz.prog 248 = some (10, 152) := by kernel_rfl
@[simp] theorem w248 : tezero Tryz.prog 248 = some [.int .i64 0, .string (ofL []), .string (ofL []), .int .i64 0, .string (ofL []), .int .i64 0, .string (ofL []), .string (ofL []), .slice none 0 0, .slice none 0 0] := by kernel_rfl
@[simp] theorem y248 : tbyte Tryz.prog 248 = false := by kernel_rfl
@[simp] theorem z249 : tsz Tryz.prog 249 = some 2 := by kernel_rfl
@[simp] theorem c249 : tcode Tryz.prog 249 = 8 := by kernel_rfl
@[simp] theorem i249 : tint Tryz.prog 249 = none := by kernel_rfl
@[simp] theorem a249 : tagg Tryz.prog 249 = some true := by kernel_rfl
@[simp] theorem o249 : tzero Tryz.prog 249 = some [.slice none 0 0, .slice none 0 0] := by kernel_rfl
@[simp] theorem q249 : tcomp Tryz.prog 249 = false := by kernel_rfl
@[simp] theorem y249 : tbyte Tryz.prog 249 = false := by kernel_rfl
@[simp] theorem f249_0 : tfld Tryz.prog 249 0 = some (0, false, 1) := by kernel_rfl
@[simp] theorem f249_1 : tfld Tryz.prog 249 1 = some (1, false, 1) := by kernel_rfl
@[simp] theorem p249 : tplaces Tryz.prog 249 = some [(0, 1), (1, 1)] := by kernel_rfl
@[simp] theorem z250 : tsz Tryz.prog 250 = some 2 := by kernel_rfl
@[simp] theorem c250 : tcode Tryz.prog 250 = 8 := by kernel_rfl
@[simp] theorem i250 : tint Tryz.prog 250 = none := by kernel_rfl
@[simp] theorem a250 : tagg Tryz.prog 250 = some true := by kernel_rfl
@[simp] theorem o250 : tzero Tryz.prog 250 = some [.slice none 0 0, .slice none 0 0] := by kernel_rfl
@[simp] theorem q250 : tcomp Tryz.prog 250 = false := by kernel_rfl
@[simp] theorem y250 : tbyte Tryz.prog 250 = false := by kernel_rfl
@[simp] theorem f250_0 : tfld Tryz.prog 250 0 = some (0, false, 1) := by kernel_rfl
@[simp] theorem f250_1 : tfld Tryz.prog 250 1 = some (1, false, 1) := by kernel_rfl
@[simp] theorem p250 : tplaces Tryz.prog 250 = some [(0, 1), (1, 1)] := by kernel_rfl
@[simp] theorem z251 : tsz Tryz.prog 251 = some 1 := by kernel_rfl
@[simp] theorem c251 : tcode Tryz.prog 251 = 4 := by kernel_rfl
@[simp] theorem i251 : tint Tryz.prog 251 = none := by kernel_rfl
@[simp] theorem a251 : tagg Tryz.prog 251 = some false := by kernel_rfl
@[simp] theorem o251 : tzero Tryz.prog 251 = some [.pointer none] := by kernel_rfl
@[simp] theorem q251 : tcomp Tryz.prog 251 = true := by kernel_rfl
@[simp] theorem y251 : tbyte Tryz.prog 251 = false := by kernel_rfl
@[simp] theorem z253 : tsz Tryz.prog 253 = some 10 := by kernel_rfl
@[simp] theorem c253 : tcode Tryz.prog 253 = 8 := by kernel_rfl
@[simp] theorem i253 : tint Tryz.prog 253 = none := by kernel_rfl
@[simp] theorem a253 : tagg Tryz.prog 253 = some true := by kernel_rfl
@[simp] theorem o253 : tzero Tryz.prog 253 = some [.int .i64 0, .string (ofL []), .string (ofL []), .int .i64 0, .string (ofL []), .int .i64 0, .string (ofL []), .string (ofL []), .slice none 0 0, .slice none 0 0] := by kernel_rfl
@[simp] theorem q253 : tcomp Tryz.prog 253 = false := by kernel_rfl
@[simp] theorem y253 : tbyte Tryz.prog 253 = false := by kernel_rfl
@[simp] theorem f253_0 : tfld Tryz.prog 253 0 = some (0, false, 1) := by kernel_rfl
@[simp] theorem f253_1 : tfld Tryz.prog 253 1 = some (1, false, 1) := by kernel_rfl
@[simp] theorem f253_2 : tfld Tryz.prog 253 2 = some (2, false, 1) := by kernel_rfl
@[simp] theorem f253_3 : tfld Tryz.prog 253 3 = some (3, true, 7) := by kernel_rfl
@[simp] theorem p253 : tplaces Tryz.prog 253 = some [(0, 1), (1, 1), (2, 1), (3, 7)] := by kernel_rfl
@[simp] theorem z254 : tsz Tryz.prog 254 = some 10 := by kernel_rfl
@[simp] theorem c254 : tcode Tryz.prog 254 = 8 := by kernel_rfl
@[simp] theorem i254 : tint Tryz.prog 254 = none := by kernel_rfl
@[simp] theorem a254 : tagg Tryz.prog 254 = some true := by kernel_rfl
@[simp] theorem o254 : tzero Tryz.prog 254 = some [.int .i64 0, .string (ofL []), .string (ofL []), .int .i64 0, .string (ofL []), .int .i64 0, .string (ofL []), .string (ofL []), .slice none 0 0, .slice none 0 0] := by kernel_rfl
@[simp] theorem q254 : tcomp Tryz.prog 254 = false := by kernel_rfl
@[simp] theorem y254 : tbyte Tryz.prog 254 = false := by kernel_rfl
@[simp] theorem f254_0 : tfld Tryz.prog 254 0 = some (0, false, 1) := by kernel_rfl
@[simp] theorem f254_1 : tfld Tryz.prog 254 1 = some (1, false, 1) := by kernel_rfl
@[simp] theorem f254_2 : tfld Tryz.prog 254 2 = some (2, false, 1) := by kernel_rfl
@[simp] theorem f254_3 : tfld Tryz.prog 254 3 = some (3, true, 7) := by kernel_rfl
@[simp] theorem p254 : tplaces Tryz.prog 254 = some [(0, 1), (1, 1), (2, 1), (3, 7)] := by kernel_rfl
@[simp] theorem z255 : tsz Tryz.prog 255 = some 1 := by kernel_rfl
@[simp] theorem c255 : tcode Tryz.prog 255 = 4 := by kernel_rfl
@[simp] theorem i255 : tint Tryz.prog 255 = none := by kernel_rfl
@[simp] theorem a255 : tagg Tryz.prog 255 = some false := by kernel_rfl
@[simp] theorem o255 : tzero Tryz.prog 255 = some [.pointer none] := by kernel_rfl
@[simp] theorem q255 : tcomp Tryz.prog 255 = true := by kernel_rfl
@[simp] theorem y255 : tbyte Tryz.prog 255 = false := by kernel_rfl
@[simp] theorem z256 : tsz Tryz.prog 256 = some 1 := by kernel_rfl
@[simp] theorem c256 : tcode Tryz.prog 256 = 7 := by kernel_rfl
@[simp] theorem i256 : tint Tryz.prog 256 = none := by kernel_rfl
@[simp] theorem a256 : tagg Tryz.prog 256 = some false := by kernel_rfl
@[simp] theorem o256 : tzero Tryz.prog 256 = some [.nilFunc] := by kernel_rfl
@[simp] theorem q256 : tcomp Tryz.prog 256 = false := by kernel_rfl
@[simp] theorem y256 : tbyte Tryz.prog 256 = false := by kernel_rfl
@[simp] theorem z257 : tsz Tryz.prog 257 = some 1 := by kernel_rfl
@[simp] theorem c257 : tcode Tryz.prog 257 = 7 := by kernel_rfl
@[simp] theorem i257 : tint Tryz.prog 257 = none := by kernel_rfl
@[simp] theorem a257 : tagg Tryz.prog 257 = some false := by kernel_rfl
@[simp] theorem o257 : tzero Tryz.prog 257 = some [.nilFunc] := by kernel_rfl
@[simp] theorem q257 : tcomp Tryz.prog 257 = false := by kernel_rfl
@[simp] theorem y257 : tbyte Tryz.prog 257 = false := by kernel_rfl
@[simp] theorem z259 : tsz Tryz.prog 259 = some 1 := by kernel_rfl
@[simp] theorem c259 : tcode Tryz.prog 259 = 5 := by kernel_rfl
@[simp] theorem i259 : tint Tryz.prog 259 = none := by kernel_rfl
@[simp] theorem a259 : tagg Tryz.prog 259 = some false := by kernel_rfl
@[simp] theorem o259 : tzero Tryz.prog 259 = some [.slice none 0 0] := by kernel_rfl
@[simp] theorem q259 : tcomp Tryz.prog 259 = false := by kernel_rfl
@[simp] theorem e259 : telem Tryz.prog 259 = some (8, 128) := by kernel_rfl
@[simp] theorem w259 : tezero Tryz.prog 259 = some [.string (ofL []), .int .i64 0, .string (ofL []), .int .i64 0, .string (ofL []), .string (ofL []), .slice none 0 0, .slice none 0 0] := by kernel_rfl
@[simp] theorem y259 : tbyte Tryz.prog 259 = false := by kernel_rfl
@[simp] theorem z260 : tsz Tryz.prog 260 = some 5 := by kernel_rfl
@[simp] theorem c260 : tcode Tryz.prog 260 = 8 := by kernel_rfl
@[simp] theorem i260 : tint Tryz.prog 260 = none := by kernel_rfl
@[simp] theorem a260 : tagg Tryz.prog 260 = some true := by kernel_rfl
@[simp] theorem o260 : tzero Tryz.prog 260 = some [.string (ofL []), .int .i64 0, .string (ofL []), .slice none 0 0, .slice none 0 0] := by kernel_rfl
@[simp] theorem q260 : tcomp Tryz.prog 260 = false := by kernel_rfl
@[simp] theorem y260 : tbyte Tryz.prog 260 = false := by kernel_rfl
@[simp] theorem f260_0 : tfld Tryz.prog 260 0 = some (0, false, 1) := by kernel_rfl
@[simp] theorem f260_1 : tfld Tryz.prog 260 1 = some (1, false, 1) := by kernel_rfl
@[simp] theorem f260_2 : tfld Tryz.prog 260 2 = some (2, false, 1) := by kernel_rfl
@[simp] theorem f260_3 : tfld Tryz.prog 260 3 = some (3, false, 1) := by kernel_rfl
@[simp] theorem f260_4 : tfld Tryz.prog 260 4 = some (4, false, 1) := by kernel_rfl
@[simp] theorem p260 : tplaces Tryz.prog 260 = some [(0, 1), (1, 1), (2, 1), (3, 1), (4, 1)] := by kernel_rfl
@[simp] theorem z261 : tsz Tryz.prog 261 = some 5 := by kernel_rfl
@[simp] theorem c261 : tcode Tryz.prog 261 = 8 := by kernel_rfl
@[simp] theorem i261 : tint Tryz.prog 261 = none := by kernel_rfl
@[simp] theorem a261 : tagg Tryz.prog 261 = some true := by kernel_rfl
@[simp] theorem o261 : tzero Tryz.prog 261 = some [.string (ofL []), .int .i64 0, .string (ofL []), .slice none 0 0, .slice none 0 0] := by kernel_rfl
@[simp] theorem q261 : tcomp Tryz.prog 261 = false := by kernel_rfl
@[simp] theorem y261 : tbyte Tryz.prog 261 = false := by kernel_rfl
@[simp] theorem f261_0 : tfld Tryz.prog 261 0 = some (0, false, 1) := by kernel_rfl
@[simp] theorem f261_1 : tfld Tryz.prog 261 1 = some (1, false, 1) := by kernel_rfl
@[simp] theorem f261_2 : tfld Tryz.prog 261 2 = some (2, false, 1) := by kernel_rfl
@[simp] theorem f261_3 : tfld Tryz.prog 261 3 = some (3, false, 1) := by kernel_rfl
@[simp] theorem f261_4 : tfld Tryz.prog 261 4 = some (4, false, 1) := by kernel_rfl
@[simp] theorem p261 : tplaces Tryz.prog 261 = some [(0, 1), (1, 1), (2, 1), (3, 1), (4, 1)] := by kernel_rfl
@[simp] theorem z262 : tsz Tryz.prog 262 = some 1 := by kernel_rfl
@[simp] theorem c262 : tcode Tryz.prog 262 = 4 := by kernel_rfl
@[simp] theorem i262 : tint Tryz.prog 262 = none := by kernel_rfl
@[simp] theorem a262 : tagg Tryz.prog 262 = some false := by kernel_rfl
@[simp] theorem o262 : tzero Tryz.prog 262 = some [.pointer none] := by kernel_rfl
@[simp] theorem q262 : tcomp Tryz.prog 262 = true := by kernel_rfl
@[simp] theorem y262 : tbyte Tryz.prog 262 = false := by kernel_rfl
@[simp] theorem z264 : tsz Tryz.prog 264 = some 1 := by kernel_rfl
@[simp] theorem c264 : tcode Tryz.prog 264 = 7 := by kernel_rfl
@[simp] theorem i264 : tint Tryz.prog 264 = none := by kernel_rfl
@[simp] theorem a264 : tagg Tryz.prog 264 = some false := by kernel_rfl
@[simp] theorem o264 : tzero Tryz.prog 264 = some [.nilFunc] := by kernel_rfl
@[simp] theorem q264 : tcomp Tryz.prog 264 = false := by kernel_rfl
@[simp] theorem y264 : tbyte Tryz.prog 264 = false := by kernel_rfl
@[simp] theorem z292 : tsz Tryz.prog 292 = some 1 := by kernel_rfl
@[simp] theorem c292 : tcode Tryz.prog 292 = 5 := by kernel_rfl
@[simp] theorem i292 : tint Tryz.prog 292 = none := by kernel_rfl
@[simp] theorem a292 : tagg Tryz.prog 292 = some false := by kernel_rfl
@[simp] theorem o292 : tzero Tryz.prog 292 = some [.slice none 0 0] := by kernel_rfl
@[simp] theorem q292 : tcomp Tryz.prog 292 = false := by kernel_rfl
@[simp] theorem e292 : telem Tryz.prog 292 = some (10, 176) := by kernel_rfl
@[simp] theorem w292 : tezero Tryz.prog 292 = some [.string (ofL []), .string (ofL []), .int .i64 0, .int .i64 0, .string (ofL []), .string (ofL []), .slice none 0 0, .slice none 0 0, .slice none 0 0, .slice none 0 0] := by kernel_rfl
@[simp] theorem y292 : tbyte Tryz.prog 292 = false := by kernel_rfl
@[simp] theorem z293 : tsz Tryz.prog 293 = some 10 := by kernel_rfl
@[simp] theorem c293 : tcode Tryz.prog 293 = 8 := by kernel_rfl
@[simp] theorem i293 : tint Tryz.prog 293 = none := by kernel_rfl
@[simp] theorem a293 : tagg Tryz.prog 293 = some true := by kernel_rfl
@[simp] theorem o293 : tzero Tryz.prog 293 = some [.string (ofL []), .string (ofL []), .int .i64 0, .int .i64 0, .string (ofL []), .string (ofL []), .slice none 0 0, .slice none 0 0, .slice none 0 0, .slice none 0 0] := by kernel_rfl
@[simp] theorem q293 : tcomp Tryz.prog 293 = false := by kernel_rfl
@[simp] theorem y293 : tbyte Tryz.prog 293 = false := by kernel_rfl
@[simp] theorem f293_0 : tfld Tryz.prog 293 0 = some (0, false, 1) := by kernel_rfl
@[simp] theorem f293_1 : tfld Tryz.prog 293 1 = some (1, false, 1) := by kernel_rfl
@[simp] theorem f293_2 : tfld Tryz.prog 293 2 = some (2, true, 8) := by kernel_rfl
@[simp] theorem p293 : tplaces Tryz.prog 293 = some [(0, 1), (1, 1), (2, 8)] := by kernel_rfl
@[simp] theorem z294 : tsz Tryz.prog 294 = some 10 := by kernel_rfl
@[simp] theorem c294 : tcode Tryz.prog 294 = 8 := by kernel_rfl
@[simp] theorem i294 : tint Tryz.prog 294 = none := by kernel_rfl
@[simp] theorem a294 : tagg Tryz.prog 294 = some true := by kernel_rfl
@[simp] theorem o294 : tzero Tryz.prog 294 = some [.string (ofL []), .string (ofL []), .int .i64 0, .int .i64 0, .string (ofL []), .string (ofL []), .slice none 0 0, .slice none 0 0, .slice none 0 0, .slice none 0 0] := by kernel_rfl
@[simp] theorem q294 : tcomp Tryz.prog 294 = false := by kernel_rfl
@[simp] theorem y294 : tbyte Tryz.prog 294 = false := by kernel_rfl
@[simp] theorem f294_0 : tfld Tryz.prog 294 0 = some (0, false, 1) := by kernel_rfl
@[simp] theorem f294_1 : tfld Tryz.prog 294 1 = some (1, false, 1) := by kernel_rfl
@[simp] theorem f294_2 : tfld Tryz.prog 294 2 = some (2, true, 8) := by kernel_rfl
@[simp] theorem p294 : tplaces Tryz.prog 294 = some [(0, 1), (1, 1), (2, 8)] := by kernel_rfl
@[simp] theorem z297 : tsz Tryz.prog 297 = some 1 := by kernel_rfl
@[simp] theorem c297 : tcode Tryz.prog 297 = 7 := by kernel_rfl
@[simp] theorem i297 : tint Tryz.prog 297 = none := by kernel_rfl
@[simp] theorem a297 : tagg Tryz.prog 297 = some false := by kernel_rfl
@[simp] theorem o297 : tzero Tryz.prog 297 = some [.nilFunc] := by kernel_rfl
@[simp] theorem q297 : tcomp Tryz.prog 297 = false := by kernel_rfl
@[simp] theorem y297 : tbyte Tryz.prog 297 = false := by kernel_rfl
@[simp] theorem z300 : tsz Tryz.prog 300 = some 1 := by kernel_rfl
@[simp] theorem c300 : tcode Tryz.prog 300 = 7 := by kernel_rfl
@[simp] theorem i300 : tint Tryz.prog 300 = none := by kernel_rfl
@[simp] theorem a300 : tagg Tryz.prog 300 = some false := by kernel_rfl
@[simp] theorem o300 : tzero Tryz.prog 300 = some [.nilFunc] := by kernel_rfl
@[simp] theorem q300 : tcomp Tryz.prog 300 = false := by kernel_rfl
@[simp] theorem y300 : tbyte Tryz.prog 300 = false := by kernel_rfl
@[simp] theorem z304 : tsz Tryz.prog 304 = some 9 := by kernel_rfl
@[simp] theorem c304 : tcode Tryz.prog 304 = 8 := by kernel_rfl
@[simp] theorem i304 : tint Tryz.prog 304 = none := by kernel_rfl
@[simp] theorem a304 : tagg Tryz.prog 304 = some true := by kernel_rfl
@[simp] theorem o304 : tzero Tryz.prog 304 = some [.string (ofL []), .int .i64 0, .int .i64 0, .string (ofL []), .string (ofL []), .slice none 0 0, .slice none 0 0, .slice none 0 0, .slice none 0 0] := by kernel_rfl
@[simp] theorem q304 : tcomp Tryz.prog 304 = false := by kernel_rfl
@[simp] theorem y304 : tbyte Tryz.prog 304 = false := by kernel_rfl
@[simp] theorem f304_0 : tfld Tryz.prog 304 0 = some (0, false, 1) := by kernel_rfl
@[simp] theorem f304_1 : tfld Tryz.prog 304 1 = some (1, true, 8) := by kernel_rfl
@[simp] theorem p304 : tplaces Tryz.prog 304 = some [(0, 1), (1, 8)] := by kernel_rfl
@[simp] theorem z305 : tsz Tryz.prog 305 = some 9 := by kernel_rfl
@[simp] theorem c305 : tcode Tryz.prog 305 = 8 := by kernel_rfl
@[simp] theorem i305 : tint Tryz.prog 305 = none := by kernel_rfl
@[simp] theorem a305 : tagg Tryz.prog 305 = some true := by kernel_rfl
@[simp] theorem o305 : tzero Tryz.prog 305 = some [.string (ofL []), .int .i64 0, .int .i64 0, .string (ofL []), .string (ofL []), .slice none 0 0, .slice none 0 0, .slice none 0 0, .slice none 0 0] := by kernel_rfl
@[simp] theorem q305 : tcomp Tryz.prog 305 = false := by kernel_rfl
@[simp] theorem y305 : tbyte Tryz.prog 305 = false := by kernel_rfl
@[simp] theorem f305_0 : tfld Tryz.prog 305 0 = some (0, false, 1) := by kernel_rfl
@[simp] theorem f305_1 : tfld Tryz.prog 305 1 = some (1, true, 8) := by kernel_rfl
@[simp] theorem p305 : tplaces Tryz.prog 305 = some [(0, 1), (1, 8)] := by kernel_rfl
@[simp] theorem z306 : tsz Tryz.prog 306 = some 1 := by kernel_rfl
@[simp] theorem c306 : tcode Tryz.prog 306 = 5 := by kernel_rfl
@[simp] theorem i306 : tint Tryz.prog 306 = none := by kernel_rfl
@[simp] theorem a306 : tagg Tryz.prog 306 = some false := by kernel_rfl
@[simp] theorem o306 : tzero Tryz.prog 306 = some [.slice none 0 0] := by kernel_rfl
@[simp] theorem q306 : tcomp Tryz.prog 306 = false := by kernel_rfl
@[simp] theorem e306 : telem Tryz.prog 306 = some (9, 160) := by kernel_rfl
@[simp] theorem w306 : tezero Tryz.prog 306 = some [.string (ofL []), .int .i64 0, .int .i64 0, .string (ofL []), .string (ofL []), .slice none 0 0, .slice none 0 0, .slice none 0 0, .slice none 0 0] := by kernel_rfl
@[simp] theorem y306 : tbyte Tryz.prog 306 = false := by kernel_rfl
@[simp] theorem z314 : tsz Tryz.prog 314 = some 1 := by kernel_rfl
@[simp] theorem c314 : tcode Tryz.prog 314 = 2 := by kernel_rfl
@[simp] theorem i314 : tint Tryz.prog 314 = some .u64 := by kernel_rfl
@[simp] theorem a314 : tagg Tryz.prog 314 = some false := by kernel_rfl
@[simp] theorem o314 : tzero Tryz.prog 314 = some [.int .u64 0] := by kernel_rfl
@[simp] theorem q314 : tcomp Tryz.prog 314 = true := by kernel_rfl
@[simp] theorem y314 : tbyte Tryz.prog 314 = false := by kernel_rfl
@[simp] theorem z323 : tsz Tryz.prog 323 = some 1 := by kernel_rfl
@[simp] theorem c323 : tcode Tryz.prog 323 = 4 := by kernel_rfl
@[simp] theorem i323 : tint Tryz.prog 323 = none := by kernel_rfl
@[simp] theorem a323 : tagg Tryz.prog 323 = some false := by kernel_rfl
@[simp] theorem o323 : tzero Tryz.prog 323 = some [.pointer none] := by kernel_rfl
@[simp] theorem q323 : tcomp Tryz.prog 323 = true := by kernel_rfl
@[simp] theorem y323 : tbyte Tryz.prog 323 = false := by kernel_rfl
@[simp] theorem z324 : tsz Tryz.prog 324 = some 4 := by kernel_rfl
@[simp] theorem c324 : tcode Tryz.prog 324 = 8 := by kernel_rfl
@[simp] theorem i324 : tint Tryz.prog 324 = none := by kernel_rfl
@[simp] theorem a324 : tagg Tryz.prog 324 = some true := by kernel_rfl
@[simp] theorem o324 : tzero Tryz.prog 324 = some [.slice none 0 0, .int .i64 0, .int .i64 0, .nilIface] := by kernel_rfl
@[simp] theorem q324 : tcomp Tryz.prog 324 = false := by kernel_rfl
@[simp] theorem y324 : tbyte Tryz.prog 324 = false := by kernel_rfl
@[simp] theorem f324_0 : tfld Tryz.prog 324 0 = some (0, false, 1) := by kernel_rfl
@[simp] theorem f324_1 : tfld Tryz.prog 324 1 = some (1, false, 1) := by kernel_rfl
@[simp] theorem f324_2 : tfld Tryz.prog 324 2 = some (2, false, 1) := by kernel_rfl
@[simp] theorem f324_3 : tfld Tryz.prog 324 3 = some (3, false, 1) := by kernel_rfl
@[simp] theorem p324 : tplaces Tryz.prog 324 = some [(0, 1), (1, 1), (2, 1), (3, 1)] := by kernel_rfl
@[simp] theorem z325 : tsz Tryz.prog 325 = some 4 := by kernel_rfl
@[simp] theorem c325 : tcode Tryz.prog 325 = 8 := by kernel_rfl
@[simp] theorem i325 : tint Tryz.prog 325 = none := by kernel_rfl
@[simp] theorem a325 : tagg Tryz.prog 325 = some true := by kernel_rfl
@[simp] theorem o325 : tzero Tryz.prog 325 = some [.slice none 0 0, .int .i64 0, .int .i64 0, .nilIface] := by kernel_rfl
@[simp] theorem q325 : tcomp Tryz.prog 325 = false := by kernel_rfl
@[simp] theorem y325 : tbyte Tryz.prog 325 = false := by kernel_rfl
@[simp] theorem f325_0 : tfld Tryz.prog 325 0 = some (0, false, 1) := by kernel_rfl
@[simp] theorem f325_1 : tfld Tryz.prog 325 1 = some (1, false, 1) := by kernel_rfl
@[simp] theorem f325_2 : tfld Tryz.prog 325 2 = some (2, false, 1) := by kernel_rfl
@[simp] theorem f325_3 : tfld Tryz.prog 325 3 = some (3, false, 1) := by kernel_rfl
@[simp] theorem p325 : tplaces Tryz.prog 325 = some [(0, 1), (1, 1), (2, 1), (3, 1)] := by kernel_rfl
@[simp] theorem z329 : tsz Tryz.prog 329 = some 1 := by kernel_rfl
@[simp] theorem c329 : tcode Tryz.prog 329 = 2 := by kernel_rfl
@[simp] theorem i329 : tint Tryz.prog 329 = some .u64 := by kernel_rfl
@[simp] theorem a329 : tagg Tryz.prog 329 = some false := by kernel_rfl
@[simp] theorem o329 : tzero Tryz.prog 329 = some [.int .u64 0] := by kernel_rfl
@[simp] theorem q329 : tcomp Tryz.prog 329 = true := by kernel_rfl
@[simp] theorem y329 : tbyte Tryz.prog 329 = false := by kernel_rfl
@[simp] theorem z332 : tsz Tryz.prog 332 = some 1 := by kernel_rfl
@[simp] theorem c332 : tcode Tryz.prog 332 = 7 := by kernel_rfl
@[simp] theorem i332 : tint Tryz.prog 332 = none := by kernel_rfl
@[simp] theorem a332 : tagg Tryz.prog 332 = some false := by kernel_rfl
@[simp] theorem o332 : tzero Tryz.prog 332 = some [.nilFunc] := by kernel_rfl
@[simp] theorem q332 : tcomp Tryz.prog 332 = false := by kernel_rfl
@[simp] theorem y332 : tbyte Tryz.prog 332 = false := by kernel_rfl
@[simp] theorem z333 : tsz Tryz.prog 333 = some 1 := by kernel_rfl
@[simp] theorem c333 : tcode Tryz.prog 333 = 7 := by kernel_rfl
@[simp] theorem i333 : tint Tryz.prog 333 = none := by kernel_rfl
@[simp] theorem a333 : tagg Tryz.prog 333 = some false := by kernel_rfl
@[simp] theorem o333 : tzero Tryz.prog 333 = some [.nilFunc] := by kernel_rfl
@[simp] theorem q333 : tcomp Tryz.prog 333 = false := by kernel_rfl
@[simp] theorem y333 : tbyte Tryz.prog 333 = false := by kernel_rfl
@[simp] theorem z334 : tsz Tryz.prog 334 = some 1 := by kernel_rfl
@[simp] theorem c334 : tcode Tryz.prog 334 = 7 := by kernel_rfl
@[simp] theorem i334 : tint Tryz.prog 334 = none := by kernel_rfl
@[simp] theorem a334 : tagg Tryz.prog 334 = some false := by kernel_rfl
@[simp] theorem o334 : tzero Tryz.prog 334 = some [.nilFunc] := by kernel_rfl
@[simp] theorem q334 : tcomp Tryz.prog 334 = false := by kernel_rfl
@[simp] theorem y334 : tbyte Tryz.prog 334 = false := by kernel_rfl
@[simp] theorem z335 : tsz Tryz.prog 335 = some 1 := by kernel_rfl
@[simp] theorem c335 : tcode Tryz.prog 335 = 7 := by kernel_rfl
@[simp] theorem i335 : tint Tryz.prog 335 = none := by kernel_rfl
@[simp] theorem a335 : tagg Tryz.prog 335 = some false := by kernel_rfl
@[simp] theorem o335 : tzero Tryz.prog 335 = some [.nilFunc] := by kernel_rfl
@[simp] theorem q335 : tcomp Tryz.prog 335 = false := by kernel_rfl
@[simp] theorem y335 : tbyte Tryz.prog 335 = false := by kernel_rfl
@[simp] theorem z336 : tsz Tryz.prog 336 = some 20 := by kernel_rfl
@[simp] theorem c336 : tcode Tryz.prog 336 = 9 := by kernel_rfl
@[simp] theorem i336 : tint Tryz.prog 336 = none := by kernel_rfl
@[simp] theorem a336 : tagg Tryz.prog 336 = some true := by kernel_rfl
@[simp] theorem o336 : tzero Tryz.prog 336 = some [.int .u64 0, .int .u64 0, .int .u64 0, .int .u64 0, .int .u64 0, .int .u64 0, .int .u64 0, .int .u64 0, .int .u64 0, .int .u64 0, .int .u64 0, .int .u64 0, .int .u64 0, .int .u64 0, .int .u64 0, .int .u64 0, .int .u64 0, .int .u64 0, .int .u64 0, .int .u64 0] := by kernel_rfl
@[simp] theorem q336 : tcomp Tryz.prog 336 = true := by kernel_rfl
@[simp] theorem y336 : tbyte Tryz.prog 336 = false := by kernel_rfl
@[simp] theorem z337 : tsz Tryz.prog 337 = some 1 := by kernel_rfl
@[simp] theorem c337 : tcode Tryz.prog 337 = 2 := by kernel_rfl
@[simp] theorem i337 : tint Tryz.prog 337 = some .u32 := by kernel_rfl
@[simp] theorem a337 : tagg Tryz.prog 337 = some false := by kernel_rfl
@[simp] theorem o337 : tzero Tryz.prog 337 = some [.int .u32 0] := by kernel_rfl
@[simp] theorem q337 : tcomp Tryz.prog 337 = true := by kernel_rfl
@[simp] theorem y337 : tbyte Tryz.prog 337 = false := by kernel_rfl
@[simp] theorem z338 : tsz Tryz.prog 338 = some 65 := by kernel_rfl
@[simp] theorem c338 : tcode Tryz.prog 338 = 9 := by kernel_rfl
@[simp] theorem i338 : tint Tryz.prog 338 = none := by kernel_rfl
@[simp] theorem a338 : tagg Tryz.prog 338 = some true := by kernel_rfl
@[simp] theorem q338 : tcomp Tryz.prog 338 = true := by kernel_rfl
@[simp] theorem y338 : tbyte Tryz.prog 338 = false := by kernel_rfl
@[simp] theorem z339 : tsz Tryz.prog 339 = some 1 := by kernel_rfl
@[simp] theorem c339 : tcode Tryz.prog 339 = 7 := by kernel_rfl
@[simp] theorem i339 : tint Tryz.prog 339 = none := by kernel_rfl
@[simp] theorem a339 : tagg Tryz.prog 339 = some false := by kernel_rfl
@[simp] theorem o339 : tzero Tryz.prog 339 = some [.nilFunc] := by kernel_rfl
@[simp] theorem q339 : tcomp Tryz.prog 339 = false := by kernel_rfl
@[simp] theorem y339 : tbyte Tryz.prog 339 = false := by kernel_rfl
@[simp] theorem z340 : tsz Tryz.prog 340 = some 256 := by kernel_rfl
@[simp] theorem c340 : tcode Tryz.prog 340 = 9 := by kernel_rfl
@[simp] theorem i340 : tint Tryz.prog 340 = none := by kernel_rfl
@[simp] theorem a340 : tagg Tryz.prog 340 = some true := by kernel_rfl
@[simp] theorem q340 : tcomp Tryz.prog 340 = true := by kernel_rfl
@[simp] theorem y340 : tbyte Tryz.prog 340 = false := by kernel_rfl
@[simp] theorem z341 : tsz Tryz.prog 341 = some 2 := by kernel_rfl
@[simp] theorem c341 : tcode Tryz.prog 341 = 8 := by kernel_rfl
@[simp] theorem i341 : tint Tryz.prog 341 = none := by kernel_rfl
@[simp] theorem a341 : tagg Tryz.prog 341 = some true := by kernel_rfl
@[simp] theorem o341 : tzero Tryz.prog 341 = some [.int .u8 0, .int .u8 0] := by kernel_rfl
@[simp] theorem s341 : tsfl Tryz.prog 341 = some [(0, 5, false, 1), (1, 5, false, 1)] := by kernel_rfl
@[simp] theorem q341 : tcomp Tryz.prog 341 = true := by kernel_rfl
@[simp] theorem y341 : tbyte Tryz.prog 341 = false := by kernel_rfl
@[simp] theorem f341_0 : tfld Tryz.prog 341 0 = some (0, false, 1) := by kernel_rfl
@[simp] theorem f341_1 : tfld Tryz.prog 341 1 = some (1, false, 1) := by kernel_rfl
@[simp] theorem p341 : tplaces Tryz.prog 341 = some [(0, 1), (1, 1)] := by kernel_rfl
@[simp] theorem z342 : tsz Tryz.prog 342 = some 2 := by kernel_rfl
@[simp] theorem c342 : tcode Tryz.prog 342 = 8 := by kernel_rfl
@[simp] theorem i342 : tint Tryz.prog 342 = none := by kernel_rfl
@[simp] theorem a342 : tagg Tryz.prog 342 = some true := by kernel_rfl
@[simp] theorem o342 : tzero Tryz.prog 342 = some [.int .u8 0, .int .u8 0] := by kernel_rfl
@[simp] theorem s342 : tsfl Tryz.prog 342 = some [(0, 5, false, 1), (1, 5, false, 1)] := by kernel_rfl
@[simp] theorem q342 : tcomp Tryz.prog 342 = true := by kernel_rfl
@[simp] theorem y342 : tbyte Tryz.prog 342 = false := by kernel_rfl
@[simp] theorem f342_0 : tfld Tryz.prog 342 0 = some (0, false, 1) := by kernel_rfl
@[simp] theorem f342_1 : tfld Tryz.prog 342 1 = some (1, false, 1) := by kernel_rfl
@[simp] theorem p342 : tplaces Tryz.prog 342 = some [(0, 1), (1, 1)] := by kernel_rfl
@[simp] theorem z343 : tsz Tryz.prog 343 = some 32 := by kernel_rfl
@[simp] theorem c343 : tcode Tryz.prog 343 = 9 := by kernel_rfl
@[simp] theorem i343 : tint Tryz.prog 343 = none := by kernel_rfl
@[simp] theorem a343 : tagg Tryz.prog 343 = some true := by kernel_rfl
@[simp] theorem o343 : tzero Tryz.prog 343 = some [.int .u8 0, .int .u8 0, .int .u8 0, .int .u8 0, .int .u8 0, .int .u8 0, .int .u8 0, .int .u8 0, .int .u8 0, .int .u8 0, .int .u8 0, .int .u8 0, .int .u8 0, .int .u8 0, .int .u8 0, .int .u8 0, .int .u8 0, .int .u8 0, .int .u8 0, .int .u8 0, .int .u8 0, .int .u8 0, .int .u8 0, .int .u8 0, .int .u8 0, .int .u8 0, .int .u8 0, .int .u8 0, .int .u8 0, .int .u8 0, .int .u8 0, .int .u8 0] := by kernel_rfl
@[simp] theorem q343 : tcomp Tryz.prog 343 = true := by kernel_rfl
@[simp] theorem y343 : tbyte Tryz.prog 343 = false := by kernel_rfl
@[simp] theorem z344 : tsz Tryz.prog 344 = some 1 := by kernel_rfl
@[simp] theorem c344 : tcode Tryz.prog 344 = 7 := by kernel_rfl
@[simp] theorem i344 : tint Tryz.prog 344 = none := by kernel_rfl
@[simp] theorem a344 : tagg Tryz.prog 344 = some false := by kernel_rfl
@[simp] theorem o344 : tzero Tryz.prog 344 = some [.nilFunc] := by kernel_rfl
@[simp] theorem q344 : tcomp Tryz.prog 344 = false := by kernel_rfl
@[simp] theorem y344 : tbyte Tryz.prog 344 = false := by kernel_rfl
@[simp] theorem z345 : tsz Tryz.prog 345 = some 1 := by kernel_rfl
@[simp] theorem c345 : tcode Tryz.prog 345 = 7 := by kernel_rfl
@[simp] theorem i345 : tint Tryz.prog 345 = none := by kernel_rfl
@[simp] theorem a345 : tagg Tryz.prog 345 = some false := by kernel_rfl
@[simp] theorem o345 : tzero Tryz.prog 345 = some [.nilFunc] := by kernel_rfl
@[simp] theorem q345 : tcomp Tryz.prog 345 = false := by kernel_rfl
@[simp] theorem y345 : tbyte Tryz.prog 345 = false := by kernel_rfl
@[simp] theorem z346 : tsz Tryz.prog 346 = some 1 := by kernel_rfl
@[simp] theorem c346 : tcode Tryz.prog 346 = 7 := by kernel_rfl
@[simp] theorem i346 : tint Tryz.prog 346 = none := by kernel_rfl
@[simp] theorem a346 : tagg Tryz.prog 346 = some false := by kernel_rfl
@[simp] theorem o346 : tzero Tryz.prog 346 = some [.nilFunc] := by kernel_rfl
@[simp] theorem q346 : tcomp Tryz.prog 346 = false := by kernel_rfl
@[simp] theorem y346 : tbyte Tryz.prog 346 = false := by kernel_rfl
@[simp] theorem z347 : tsz Tryz.prog 347 = some 1 := by kernel_rfl
@[simp] theorem c347 : tcode Tryz.prog 347 = 7 := by kernel_rfl
@[simp] theorem i347 : tint Tryz.prog 347 = none := by kernel_rfl
@[simp] theorem a347 : tagg Tryz.prog 347 = some false := by kernel_rfl
@[simp] theorem o347 : tzero Tryz.prog 347 = some [.nilFunc] := by kernel_rfl
@[simp] theorem q347 : tcomp Tryz.prog 347 = false := by kernel_rfl
@[simp] theorem y347 : tbyte Tryz.prog 347 = false := by kernel_rfl
@[simp] theorem z348 : tsz Tryz.prog 348 = some 1 := by kernel_rfl
@[simp] theorem c348 : tcode Tryz.prog 348 = 7 := by kernel_rfl
@[simp] theorem i348 : tint Tryz.prog 348 = none := by kernel_rfl
@[simp] theorem a348 : tagg Tryz.prog 348 = some false := by kernel_rfl
@[simp] theorem o348 : tzero Tryz.prog 348 = some [.nilFunc] := by kernel_rfl
@[simp] theorem q348 : tcomp Tryz.prog 348 = false := by kernel_rfl
@[simp] theorem y348 : tbyte Tryz.prog 348 = false := by kernel_rfl
@[simp] theorem z366 : tsz Tryz.prog 366 = some 1 := by kernel_rfl
@[simp] theorem c366 : tcode Tryz.prog 366 = 5 := by kernel_rfl
@[simp] theorem i366 : tint Tryz.prog 366 = none := by kernel_rfl
@[simp] theorem a366 : tagg Tryz.prog 366 = some false := by kernel_rfl
@[simp] theorem o366 : tzero Tryz.prog 366 = some [.slice none 0 0] := by kernel_rfl
@[simp] theorem q366 : tcomp Tryz.prog 366 = false := by kernel_rfl
@[simp] theorem e366 : telem Tryz.prog 366 = some (8, 128) := by kernel_rfl
@[simp] theorem w366 : tezero Tryz.prog 366 = some [.string (ofL []), .int .i64 0, .string (ofL []), .int .i64 0, .string (ofL []), .string (ofL []), .slice none 0 0, .slice none 0 0] := by kernel_rfl
@[simp] theorem y366 : tbyte Tryz.prog 366 = false := by kernel_rfl
@[simp] theorem z367 : tsz Tryz.prog 367 = some 8 := by kernel_rfl
@[simp] theorem c367 : tcode Tryz.prog 367 = 8 := by kernel_rfl
@[simp] theorem i367 : tint Tryz.prog 367 = none := by kernel_rfl
@[simp] theorem a367 : tagg Tryz.prog 367 = some true := by kernel_rfl
@[simp] theorem o367 : tzero Tryz.prog 367 = some [.string (ofL []), .int .i64 0, .string (ofL []), .int .i64 0, .string (ofL []), .string (ofL []), .slice none 0 0, .slice none 0 0] := by kernel_rfl
@[simp] theorem q367 : tcomp Tryz.prog 367 = false := by kernel_rfl
@[simp] theorem y367 : tbyte Tryz.prog 367 = false := by kernel_rfl
@[simp] theorem f367_0 : tfld Tryz.prog 367 0 = some (0, false, 1) := by kernel_rfl
@[simp] theorem f367_1 : tfld Tryz.prog 367 1 = some (1, true, 7) := by kernel_rfl
@[simp] theorem p367 : tplaces Tryz.prog 367 = some [(0, 1), (1, 7)] := by kernel_rfl
@[simp] theorem z368 : tsz Tryz.prog 368 = some 8 := by kernel_rfl
@[simp] theorem c368 : tcode Tryz.prog 368 = 8 := by kernel_rfl
@[simp] theorem i368 : tint Tryz.prog 368 = none := by kernel_rfl
@[simp] theorem a368 : tagg Tryz.prog 368 = some true := by kernel_rfl
@[simp] theorem o368 : tzero Tryz.prog 368 = some [.string (ofL []), .int .i64 0, .string (ofL []), .int .i64 0, .string (ofL []), .string (ofL []), .slice none 0 0, .slice none 0 0] := by kernel_rfl
@[simp] theorem q368 : tcomp Tryz.prog 368 = false := by kernel_rfl
@[simp] theorem y368 : tbyte Tryz.prog 368 = false := by kernel_rfl
@[simp] theorem f368_0 : tfld Tryz.prog 368 0 = some (0, false, 1) := by kernel_rfl
@[simp] theorem f368_1 : tfld Tryz.prog 368 1 = some (1, true, 7) := by kernel_rfl
@[simp] theorem p368 : tplaces Tryz.prog 368 = some [(0, 1), (1, 7)] := by kernel_rfl
@[simp] theorem z369 : tsz Tryz.prog 369 = some 1 := by kernel_rfl
@[simp] theorem c369 : tcode Tryz.prog 369 = 7 := by kernel_rfl
@[simp] theorem i369 : tint Tryz.prog 369 = none := by kernel_rfl
@[simp] theorem a369 : tagg Tryz.prog 369 = some false := by kernel_rfl
@[simp] theorem o369 : tzero Tryz.prog 369 = some [.nilFunc] := by kernel_rfl
@[simp] theorem q369 : tcomp Tryz.prog 369 = false := by kernel_rfl
@[simp] theorem y369 : tbyte Tryz.prog 369 = false := by kernel_rfl
@[simp] theorem z372 : tsz Tryz.prog 372 = some 1 := by kernel_rfl
@[simp] theorem c372 : tcode Tryz.prog 372 = 7 := by kernel_rfl
@[simp] theorem i372 : tint Tryz.prog 372 = none := by kernel_rfl
@[simp] theorem a372 : tagg Tryz.prog 372 = some false := by kernel_rfl
@[simp] theorem o372 : tzero Tryz.prog 372 = some [.nilFunc] := by kernel_rfl
@[simp] theorem q372 : tcomp Tryz.prog 372 = false := by kernel_rfl
@[simp] theorem y372 : tbyte Tryz.prog 372 = false := by kernel_rfl
end Go.Proofs.Mv.V.Ty
