/- A part of the proofs: machine, contracts, laws. No condition of its own. -/
import Derived.Test.YtihbegkefjjhpaaGreatDoorProg
import Derived.KernelRfl
import Derived.Test.YtihbegkefjjhpaaGreatDoorMvD
set_option linter.unusedSimpArgs false
set_option linter.unusedVariables false
set_option linter.unusedSectionVars false
namespace Go.Proofs.Mv.V.Ty
open Tryz
@[simp] theorem z0 : tsz prog 0 = some 1 := by kernel_rfl
@[simp] theorem c0 : tcode prog 0 = 10 := by kernel_rfl
@[simp] theorem i0 : tint prog 0 = none := by kernel_rfl
@[simp] theorem q0 : tcomp prog 0 = false := by kernel_rfl
@[simp] theorem y0 : tbyte prog 0 = false := by kernel_rfl
@[simp] theorem z1 : tsz prog 1 = some 1 := by kernel_rfl
@[simp] theorem c1 : tcode prog 1 = 7 := by kernel_rfl
@[simp] theorem i1 : tint prog 1 = none := by kernel_rfl
@[simp] theorem a1 : tagg prog 1 = some false := by kernel_rfl
@[simp] theorem o1 : tzero prog 1 = some [.nilFunc] := by kernel_rfl
@[simp] theorem q1 : tcomp prog 1 = false := by kernel_rfl
@[simp] theorem y1 : tbyte prog 1 = false := by kernel_rfl
@[simp] theorem z2 : tsz prog 2 = some 1 := by kernel_rfl
@[simp] theorem c2 : tcode prog 2 = 2 := by kernel_rfl
@[simp] theorem i2 : tint prog 2 = some .i64 := by kernel_rfl
@[simp] theorem a2 : tagg prog 2 = some false := by kernel_rfl
@[simp] theorem o2 : tzero prog 2 = some [.int .i64 0] := by kernel_rfl
@[simp] theorem q2 : tcomp prog 2 = true := by kernel_rfl
@[simp] theorem y2 : tbyte prog 2 = false := by kernel_rfl
@[simp] theorem z3 : tsz prog 3 = some 1 := by kernel_rfl
@[simp] theorem c3 : tcode prog 3 = 2 := by kernel_rfl
@[simp] theorem i3 : tint prog 3 = some .i64 := by kernel_rfl
@[simp] theorem a3 : tagg prog 3 = some false := by kernel_rfl
@[simp] theorem o3 : tzero prog 3 = some [.int .i64 0] := by kernel_rfl
@[simp] theorem q3 : tcomp prog 3 = true := by kernel_rfl
@[simp] theorem y3 : tbyte prog 3 = false := by kernel_rfl
@[simp] theorem z4 : tsz prog 4 = some 1 := by kernel_rfl
@[simp] theorem c4 : tcode prog 4 = 1 := by kernel_rfl
@[simp] theorem i4 : tint prog 4 = none := by kernel_rfl
@[simp] theorem a4 : tagg prog 4 = some false := by kernel_rfl
@[simp] theorem o4 : tzero prog 4 = some [.bool false] := by kernel_rfl
@[simp] theorem q4 : tcomp prog 4 = true := by kernel_rfl
@[simp] theorem y4 : tbyte prog 4 = false := by kernel_rfl
@[simp] theorem z5 : tsz prog 5 = some 1 := by kernel_rfl
@[simp] theorem c5 : tcode prog 5 = 2 := by kernel_rfl
@[simp] theorem i5 : tint prog 5 = some .u8 := by kernel_rfl
@[simp] theorem a5 : tagg prog 5 = some false := by kernel_rfl
@[simp] theorem o5 : tzero prog 5 = some [.int .u8 0] := by kernel_rfl
@[simp] theorem q5 : tcomp prog 5 = true := by kernel_rfl
@[simp] theorem y5 : tbyte prog 5 = false := by kernel_rfl
@[simp] theorem z9 : tsz prog 9 = some 1 := by kernel_rfl
@[simp] theorem c9 : tcode prog 9 = 3 := by kernel_rfl
@[simp] theorem i9 : tint prog 9 = none := by kernel_rfl
@[simp] theorem a9 : tagg prog 9 = some false := by kernel_rfl
@[simp] theorem o9 : tzero prog 9 = some [.string (ofL [])] := by kernel_rfl
@[simp] theorem q9 : tcomp prog 9 = true := by kernel_rfl
@[simp] theorem y9 : tbyte prog 9 = false := by kernel_rfl
@[simp] theorem z12 : tsz prog 12 = some 1 := by kernel_rfl
@[simp] theorem c12 : tcode prog 12 = 2 := by kernel_rfl
@[simp] theorem i12 : tint prog 12 = some .u64 := by kernel_rfl
@[simp] theorem a12 : tagg prog 12 = some false := by kernel_rfl
@[simp] theorem o12 : tzero prog 12 = some [.int .u64 0] := by kernel_rfl
@[simp] theorem q12 : tcomp prog 12 = true := by kernel_rfl
@[simp] theorem y12 : tbyte prog 12 = false := by kernel_rfl
@[simp] theorem z20 : tsz prog 20 = some 1 := by kernel_rfl
@[simp] theorem c20 : tcode prog 20 = 6 := by kernel_rfl
@[simp] theorem i20 : tint prog 20 = none := by kernel_rfl
@[simp] theorem a20 : tagg prog 20 = some false := by kernel_rfl
@[simp] theorem o20 : tzero prog 20 = some [.nilIface] := by kernel_rfl
@[simp] theorem q20 : tcomp prog 20 = true := by kernel_rfl
@[simp] theorem y20 : tbyte prog 20 = false := by kernel_rfl
@[simp] theorem z21 : tsz prog 21 = some 1 := by kernel_rfl
@[simp] theorem c21 : tcode prog 21 = 2 := by kernel_rfl
@[simp] theorem i21 : tint prog 21 = some .i32 := by kernel_rfl
@[simp] theorem a21 : tagg prog 21 = some false := by kernel_rfl
@[simp] theorem o21 : tzero prog 21 = some [.int .i32 0] := by kernel_rfl
@[simp] theorem q21 : tcomp prog 21 = true := by kernel_rfl
@[simp] theorem y21 : tbyte prog 21 = false := by kernel_rfl
@[simp] theorem z22 : tsz prog 22 = some 1 := by kernel_rfl
@[simp] theorem c22 : tcode prog 22 = 5 := by kernel_rfl
@[simp] theorem i22 : tint prog 22 = none := by kernel_rfl
@[simp] theorem a22 : tagg prog 22 = some false := by kernel_rfl
@[simp] theorem o22 : tzero prog 22 = some [.slice none 0 0] := by kernel_rfl
@[simp] theorem q22 : tcomp prog 22 = false := by kernel_rfl
@[simp] theorem e22 : telem prog 22 = some (1, 16) := by kernel_rfl
@[simp] theorem w22 : tezero prog 22 = some [.string (ofL [])] := by kernel_rfl
@[simp] theorem y22 : tbyte prog 22 = false := by kernel_rfl
@[simp] theorem z23 : tsz prog 23 = some 1 := by kernel_rfl
@[simp] theorem c23 : tcode prog 23 = 5 := by kernel_rfl
@[simp] theorem i23 : tint prog 23 = none := by kernel_rfl
@[simp] theorem a23 : tagg prog 23 = some false := by kernel_rfl
@[simp] theorem o23 : tzero prog 23 = some [.slice none 0 0] := by kernel_rfl
@[simp] theorem q23 : tcomp prog 23 = false := by kernel_rfl
@[simp] theorem e23 : telem prog 23 = some (7, 112) := by kernel_rfl
@[simp] theorem w23 : tezero prog 23 = some [.int .i64 0, .string (ofL []), .int .i64 0, .string (ofL []), .string (ofL []), .slice none 0 0, .slice none 0 0] := by kernel_rfl
@[simp] theorem y23 : tbyte prog 23 = false := by kernel_rfl
@[simp] theorem z24 : tsz prog 24 = some 1 := by kernel_rfl
@[simp] theorem c24 : tcode prog 24 = 5 := by kernel_rfl
@[simp] theorem i24 : tint prog 24 = none := by kernel_rfl
@[simp] theorem a24 : tagg prog 24 = some false := by kernel_rfl
@[simp] theorem o24 : tzero prog 24 = some [.slice none 0 0] := by kernel_rfl
@[simp] theorem q24 : tcomp prog 24 = false := by kernel_rfl
@[simp] theorem e24 : telem prog 24 = some (8, 144) := by kernel_rfl
@[simp] theorem w24 : tezero prog 24 = some [.int .i64 0, .int .i64 0, .string (ofL []), .string (ofL []), .slice none 0 0, .slice none 0 0, .slice none 0 0, .slice none 0 0] := by kernel_rfl
@[simp] theorem y24 : tbyte prog 24 = false := by kernel_rfl
@[simp] theorem z25 : tsz prog 25 = some 8 := by kernel_rfl
@[simp] theorem c25 : tcode prog 25 = 8 := by kernel_rfl
@[simp] theorem i25 : tint prog 25 = none := by kernel_rfl
@[simp] theorem a25 : tagg prog 25 = some true := by kernel_rfl
@[simp] theorem o25 : tzero prog 25 = some [.int .i64 0, .int .i64 0, .string (ofL []), .string (ofL []), .slice none 0 0, .slice none 0 0, .slice none 0 0, .slice none 0 0] := by kernel_rfl
@[simp] theorem q25 : tcomp prog 25 = false := by kernel_rfl
@[simp] theorem y25 : tbyte prog 25 = false := by kernel_rfl
@[simp] theorem f25_0 : tfld prog 25 0 = some (0, false, 1) := by kernel_rfl
@[simp] theorem f25_1 : tfld prog 25 1 = some (1, false, 1) := by kernel_rfl
@[simp] theorem f25_2 : tfld prog 25 2 = some (2, false, 1) := by kernel_rfl
@[simp] theorem f25_3 : tfld prog 25 3 = some (3, false, 1) := by kernel_rfl
@[simp] theorem f25_4 : tfld prog 25 4 = some (4, false, 1) := by kernel_rfl
@[simp] theorem f25_5 : tfld prog 25 5 = some (5, false, 1) := by kernel_rfl
@[simp] theorem f25_6 : tfld prog 25 6 = some (6, false, 1) := by kernel_rfl
@[simp] theorem f25_7 : tfld prog 25 7 = some (7, false, 1) := by kernel_rfl
@[simp] theorem p25 : tplaces prog 25 = some [(0, 1), (1, 1), (2, 1), (3, 1), (4, 1), (5, 1), (6, 1), (7, 1)] := by kernel_rfl
@[simp] theorem z26 : tsz prog 26 = some 8 := by kernel_rfl
@[simp] theorem c26 : tcode prog 26 = 8 := by kernel_rfl
@[simp] theorem i26 : tint prog 26 = none := by kernel_rfl
@[simp] theorem a26 : tagg prog 26 = some true := by kernel_rfl
@[simp] theorem o26 : tzero prog 26 = some [.int .i64 0, .int .i64 0, .string (ofL []), .string (ofL []), .slice none 0 0, .slice none 0 0, .slice none 0 0, .slice none 0 0] := by kernel_rfl
@[simp] theorem q26 : tcomp prog 26 = false := by kernel_rfl
@[simp] theorem y26 : tbyte prog 26 = false := by kernel_rfl
@[simp] theorem f26_0 : tfld prog 26 0 = some (0, false, 1) := by kernel_rfl
@[simp] theorem f26_1 : tfld prog 26 1 = some (1, false, 1) := by kernel_rfl
@[simp] theorem f26_2 : tfld prog 26 2 = some (2, false, 1) := by kernel_rfl
@[simp] theorem f26_3 : tfld prog 26 3 = some (3, false, 1) := by kernel_rfl
@[simp] theorem f26_4 : tfld prog 26 4 = some (4, false, 1) := by kernel_rfl
@[simp] theorem f26_5 : tfld prog 26 5 = some (5, false, 1) := by kernel_rfl
@[simp] theorem f26_6 : tfld prog 26 6 = some (6, false, 1) := by kernel_rfl
@[simp] theorem f26_7 : tfld prog 26 7 = some (7, false, 1) := by kernel_rfl
@[simp] theorem p26 : tplaces prog 26 = some [(0, 1), (1, 1), (2, 1), (3, 1), (4, 1), (5, 1), (6, 1), (7, 1)] := by kernel_rfl
@[simp] theorem z28 : tsz prog 28 = some 1 := by kernel_rfl
@[simp] theorem c28 : tcode prog 28 = 7 := by kernel_rfl
@[simp] theorem i28 : tint prog 28 = none := by kernel_rfl
@[simp] theorem a28 : tagg prog 28 = some false := by kernel_rfl
@[simp] theorem o28 : tzero prog 28 = some [.nilFunc] := by kernel_rfl
@[simp] theorem q28 : tcomp prog 28 = false := by kernel_rfl
@[simp] theorem y28 : tbyte prog 28 = false := by kernel_rfl
@[simp] theorem z30 : tsz prog 30 = some 1 := by kernel_rfl
@[simp] theorem c30 : tcode prog 30 = 6 := by kernel_rfl
@[simp] theorem i30 : tint prog 30 = none := by kernel_rfl
@[simp] theorem a30 : tagg prog 30 = some false := by kernel_rfl
@[simp] theorem o30 : tzero prog 30 = some [.nilIface] := by kernel_rfl
@[simp] theorem q30 : tcomp prog 30 = true := by kernel_rfl
@[simp] theorem y30 : tbyte prog 30 = false := by kernel_rfl
@[simp] theorem z31 : tsz prog 31 = some 1 := by kernel_rfl
@[simp] theorem c31 : tcode prog 31 = 6 := by kernel_rfl
@[simp] theorem i31 : tint prog 31 = none := by kernel_rfl
@[simp] theorem a31 : tagg prog 31 = some false := by kernel_rfl
@[simp] theorem o31 : tzero prog 31 = some [.nilIface] := by kernel_rfl
@[simp] theorem q31 : tcomp prog 31 = true := by kernel_rfl
@[simp] theorem y31 : tbyte prog 31 = false := by kernel_rfl
@[simp] theorem z32 : tsz prog 32 = some 1 := by kernel_rfl
@[simp] theorem c32 : tcode prog 32 = 10 := by kernel_rfl
@[simp] theorem i32 : tint prog 32 = none := by kernel_rfl
@[simp] theorem q32 : tcomp prog 32 = false := by kernel_rfl
@[simp] theorem y32 : tbyte prog 32 = false := by kernel_rfl
@[simp] theorem z34 : tsz prog 34 = some 1 := by kernel_rfl
@[simp] theorem c34 : tcode prog 34 = 7 := by kernel_rfl
@[simp] theorem i34 : tint prog 34 = none := by kernel_rfl
@[simp] theorem a34 : tagg prog 34 = some false := by kernel_rfl
@[simp] theorem o34 : tzero prog 34 = some [.nilFunc] := by kernel_rfl
@[simp] theorem q34 : tcomp prog 34 = false := by kernel_rfl
@[simp] theorem y34 : tbyte prog 34 = false := by kernel_rfl
@[simp] theorem z35 : tsz prog 35 = some 1 := by kernel_rfl
@[simp] theorem c35 : tcode prog 35 = 10 := by kernel_rfl
@[simp] theorem i35 : tint prog 35 = none := by kernel_rfl
@[simp] theorem q35 : tcomp prog 35 = false := by kernel_rfl
@[simp] theorem y35 : tbyte prog 35 = false := by kernel_rfl
@[simp] theorem z39 : tsz prog 39 = some 1 := by kernel_rfl
@[simp] theorem c39 : tcode prog 39 = 2 := by kernel_rfl
@[simp] theorem i39 : tint prog 39 = some .i64 := by kernel_rfl
@[simp] theorem a39 : tagg prog 39 = some false := by kernel_rfl
@[simp] theorem o39 : tzero prog 39 = some [.int .i64 0] := by kernel_rfl
@[simp] theorem q39 : tcomp prog 39 = true := by kernel_rfl
@[simp] theorem y39 : tbyte prog 39 = false := by kernel_rfl
@[simp] theorem z40 : tsz prog 40 = some 1 := by kernel_rfl
@[simp] theorem c40 : tcode prog 40 = 5 := by kernel_rfl
@[simp] theorem i40 : tint prog 40 = none := by kernel_rfl
@[simp] theorem a40 : tagg prog 40 = some false := by kernel_rfl
@[simp] theorem o40 : tzero prog 40 = some [.slice none 0 0] := by kernel_rfl
@[simp] theorem q40 : tcomp prog 40 = false := by kernel_rfl
@[simp] theorem e40 : telem prog 40 = some (10, 176) := by kernel_rfl
@[simp] theorem w40 : tezero prog 40 = some [.string (ofL []), .string (ofL []), .int .i64 0, .int .i64 0, .string (ofL []), .string (ofL []), .slice none 0 0, .slice none 0 0, .slice none 0 0, .slice none 0 0] := by kernel_rfl
@[simp] theorem y40 : tbyte prog 40 = false := by kernel_rfl
@[simp] theorem z41 : tsz prog 41 = some 1 := by kernel_rfl
@[simp] theorem c41 : tcode prog 41 = 7 := by kernel_rfl
@[simp] theorem i41 : tint prog 41 = none := by kernel_rfl
@[simp] theorem a41 : tagg prog 41 = some false := by kernel_rfl
@[simp] theorem o41 : tzero prog 41 = some [.nilFunc] := by kernel_rfl
@[simp] theorem q41 : tcomp prog 41 = false := by kernel_rfl
@[simp] theorem y41 : tbyte prog 41 = false := by kernel_rfl
@[simp] theorem z44 : tsz prog 44 = some 1 := by kernel_rfl
@[simp] theorem c44 : tcode prog 44 = 7 := by kernel_rfl
@[simp] theorem i44 : tint prog 44 = none := by kernel_rfl
@[simp] theorem a44 : tagg prog 44 = some false := by kernel_rfl
@[simp] theorem o44 : tzero prog 44 = some [.nilFunc] := by kernel_rfl
@[simp] theorem q44 : tcomp prog 44 = false := by kernel_rfl
@[simp] theorem y44 : tbyte prog 44 = false := by kernel_rfl
@[simp] theorem z46 : tsz prog 46 = some 1 := by kernel_rfl
@[simp] theorem c46 : tcode prog 46 = 7 := by kernel_rfl
@[simp] theorem i46 : tint prog 46 = none := by kernel_rfl
@[simp] theorem a46 : tagg prog 46 = some false := by kernel_rfl
@[simp] theorem o46 : tzero prog 46 = some [.nilFunc] := by kernel_rfl
@[simp] theorem q46 : tcomp prog 46 = false := by kernel_rfl
@[simp] theorem y46 : tbyte prog 46 = false := by kernel_rfl
@[simp] theorem z48 : tsz prog 48 = some 1 := by kernel_rfl
@[simp] theorem c48 : tcode prog 48 = 10 := by kernel_rfl
@[simp] theorem i48 : tint prog 48 = none := by kernel_rfl
@[simp] theorem q48 : tcomp prog 48 = false := by kernel_rfl
@[simp] theorem y48 : tbyte prog 48 = false := by kernel_rfl
@[simp] theorem z49 : tsz prog 49 = some 1 := by kernel_rfl
@[simp] theorem c49 : tcode prog 49 = 7 := by kernel_rfl
@[simp] theorem i49 : tint prog 49 = none := by kernel_rfl
@[simp] theorem a49 : tagg prog 49 = some false := by kernel_rfl
@[simp] theorem o49 : tzero prog 49 = some [.nilFunc] := by kernel_rfl
@[simp] theorem q49 : tcomp prog 49 = false := by kernel_rfl
@[simp] theorem y49 : tbyte prog 49 = false := by kernel_rfl
@[simp] theorem z53 : tsz prog 53 = some 7 := by kernel_rfl
@[simp] theorem c53 : tcode prog 53 = 8 := by kernel_rfl
@[simp] theorem i53 : tint prog 53 = none := by kernel_rfl
@[simp] theorem a53 : tagg prog 53 = some true := by kernel_rfl
@[simp] theorem o53 : tzero prog 53 = some [.int .i64 0, .string (ofL []), .int .i64 0, .string (ofL []), .string (ofL []), .slice none 0 0, .slice none 0 0] := by kernel_rfl
@[simp] theorem q53 : tcomp prog 53 = false := by kernel_rfl
@[simp] theorem y53 : tbyte prog 53 = false := by kernel_rfl
@[simp] theorem f53_0 : tfld prog 53 0 = some (0, false, 1) := by kernel_rfl
@[simp] theorem f53_1 : tfld prog 53 1 = some (1, false, 1) := by kernel_rfl
@[simp] theorem f53_2 : tfld prog 53 2 = some (2, false, 1) := by kernel_rfl
@[simp] theorem f53_3 : tfld prog 53 3 = some (3, false, 1) := by kernel_rfl
@[simp] theorem f53_4 : tfld prog 53 4 = some (4, false, 1) := by kernel_rfl
@[simp] theorem f53_5 : tfld prog 53 5 = some (5, false, 1) := by kernel_rfl
@[simp] theorem f53_6 : tfld prog 53 6 = some (6, false, 1) := by kernel_rfl
@[simp] theorem p53 : tplaces prog 53 = some [(0, 1), (1, 1), (2, 1), (3, 1), (4, 1), (5, 1), (6, 1)] := by kernel_rfl
@[simp] theorem z54 : tsz prog 54 = some 7 := by kernel_rfl
@[simp] theorem c54 : tcode prog 54 = 8 := by kernel_rfl
@[simp] theorem i54 : tint prog 54 = none := by kernel_rfl
@[simp] theorem a54 : tagg prog 54 = some true := by kernel_rfl
@[simp] theorem o54 : tzero prog 54 = some [.int .i64 0, .string (ofL []), .int .i64 0, .string (ofL []), .string (ofL []), .slice none 0 0, .slice none 0 0] := by kernel_rfl
@[simp] theorem q54 : tcomp prog 54 = false := by kernel_rfl
@[simp] theorem y54 : tbyte prog 54 = false := by kernel_rfl
@[simp] theorem f54_0 : tfld prog 54 0 = some (0, false, 1) := by kernel_rfl
@[simp] theorem f54_1 : tfld prog 54 1 = some (1, false, 1) := by kernel_rfl
@[simp] theorem f54_2 : tfld prog 54 2 = some (2, false, 1) := by kernel_rfl
@[simp] theorem f54_3 : tfld prog 54 3 = some (3, false, 1) := by kernel_rfl
@[simp] theorem f54_4 : tfld prog 54 4 = some (4, false, 1) := by kernel_rfl
@[simp] theorem f54_5 : tfld prog 54 5 = some (5, false, 1) := by kernel_rfl
@[simp] theorem f54_6 : tfld prog 54 6 = some (6, false, 1) := by kernel_rfl
@[simp] theorem p54 : tplaces prog 54 = some [(0, 1), (1, 1), (2, 1), (3, 1), (4, 1), (5, 1), (6, 1)] := by kernel_rfl
@[simp] theorem z57 : tsz prog 57 = some 1 := by kernel_rfl
@[simp] theorem c57 : tcode prog 57 = 7 := by kernel_rfl
@[simp] theorem i57 : tint prog 57 = none := by kernel_rfl
@[simp] theorem a57 : tagg prog 57 = some false := by kernel_rfl
@[simp] theorem o57 : tzero prog 57 = some [.nilFunc] := by kernel_rfl
@[simp] theorem q57 : tcomp prog 57 = false := by kernel_rfl
@[simp] theorem y57 : tbyte prog 57 = false := by kernel_rfl
@[simp] theorem z58 : tsz prog 58 = some 1 := by kernel_rfl
@[simp] theorem c58 : tcode prog 58 = 5 := by kernel_rfl
@[simp] theorem i58 : tint prog 58 = none := by kernel_rfl
@[simp] theorem a58 : tagg prog 58 = some false := by kernel_rfl
@[simp] theorem o58 : tzero prog 58 = some [.slice none 0 0] := by kernel_rfl
@[simp] theorem q58 : tcomp prog 58 = false := by kernel_rfl
@[simp] theorem e58 : telem prog 58 = some (3, 32) := by kernel_rfl
@[simp] theorem w58 : tezero prog 58 = some [.int .i64 0, .int .i64 0, .string (ofL [])] := by kernel_rfl
@[simp] theorem y58 : tbyte prog 58 = false := by kernel_rfl
@[simp] theorem z60 : tsz prog 60 = some 1 := by kernel_rfl
@[simp] theorem c60 : tcode prog 60 = 7 := by kernel_rfl
@[simp] theorem i60 : tint prog 60 = none := by kernel_rfl
@[simp] theorem a60 : tagg prog 60 = some false := by kernel_rfl
@[simp] theorem o60 : tzero prog 60 = some [.nilFunc] := by kernel_rfl
@[simp] theorem q60 : tcomp prog 60 = false := by kernel_rfl
@[simp] theorem y60 : tbyte prog 60 = false := by kernel_rfl
@[simp] theorem z61 : tsz prog 61 = some 1 := by kernel_rfl
@[simp] theorem c61 : tcode prog 61 = 7 := by kernel_rfl
@[simp] theorem i61 : tint prog 61 = none := by kernel_rfl
@[simp] theorem a61 : tagg prog 61 = some false := by kernel_rfl
@[simp] theorem o61 : tzero prog 61 = some [.nilFunc] := by kernel_rfl
@[simp] theorem q61 : tcomp prog 61 = false := by kernel_rfl
@[simp] theorem y61 : tbyte prog 61 = false := by kernel_rfl
@[simp] theorem z62 : tsz prog 62 = some 1 := by kernel_rfl
@[simp] theorem c62 : tcode prog 62 = 4 := by kernel_rfl
@[simp] theorem i62 : tint prog 62 = none := by kernel_rfl
@[simp] theorem a62 : tagg prog 62 = some false := by kernel_rfl
@[simp] theorem o62 : tzero prog 62 = some [.pointer none] := by kernel_rfl
@[simp] theorem q62 : tcomp prog 62 = true := by kernel_rfl
@[simp] theorem y62 : tbyte prog 62 = false := by kernel_rfl
@[simp] theorem z63 : tsz prog 63 = some 2 := by kernel_rfl
@[simp] theorem c63 : tcode prog 63 = 8 := by kernel_rfl
@[simp] theorem i63 : tint prog 63 = none := by kernel_rfl
@[simp] theorem a63 : tagg prog 63 = some true := by kernel_rfl
@[simp] theorem o63 : tzero prog 63 = some [.int .i64 0, .nilIface] := by kernel_rfl
@[simp] theorem q63 : tcomp prog 63 = true := by kernel_rfl
@[simp] theorem y63 : tbyte prog 63 = false := by kernel_rfl
@[simp] theorem f63_0 : tfld prog 63 0 = some (0, false, 1) := by kernel_rfl
@[simp] theorem f63_1 : tfld prog 63 1 = some (1, false, 1) := by kernel_rfl
@[simp] theorem p63 : tplaces prog 63 = some [(0, 1), (1, 1)] := by kernel_rfl
@[simp] theorem z64 : tsz prog 64 = some 2 := by kernel_rfl
@[simp] theorem c64 : tcode prog 64 = 8 := by kernel_rfl
@[simp] theorem i64 : tint prog 64 = none := by kernel_rfl
@[simp] theorem a64 : tagg prog 64 = some true := by kernel_rfl
@[simp] theorem o64 : tzero prog 64 = some [.int .i64 0, .nilIface] := by kernel_rfl
@[simp] theorem q64 : tcomp prog 64 = true := by kernel_rfl
@[simp] theorem y64 : tbyte prog 64 = false := by kernel_rfl
@[simp] theorem f64_0 : tfld prog 64 0 = some (0, false, 1) := by kernel_rfl
@[simp] theorem f64_1 : tfld prog 64 1 = some (1, false, 1) := by kernel_rfl
@[simp] theorem p64 : tplaces prog 64 = some [(0, 1), (1, 1)] := by kernel_rfl
@[simp] theorem z65 : tsz prog 65 = some 1 := by kernel_rfl
@[simp] theorem c65 : tcode prog 65 = 7 := by kernel_rfl
@[simp] theorem i65 : tint prog 65 = none := by kernel_rfl
@[simp] theorem a65 : tagg prog 65 = some false := by kernel_rfl
@[simp] theorem o65 : tzero prog 65 = some [.nilFunc] := by kernel_rfl
@[simp] theorem q65 : tcomp prog 65 = false := by kernel_rfl
@[simp] theorem y65 : tbyte prog 65 = false := by kernel_rfl
@[simp] theorem z70 : tsz prog 70 = some 10 := by kernel_rfl
@[simp] theorem c70 : tcode prog 70 = 8 := by kernel_rfl
@[simp] theorem i70 : tint prog 70 = none := by kernel_rfl
@[simp] theorem a70 : tagg prog 70 = some true := by kernel_rfl
@[simp] theorem o70 : tzero prog 70 = some [.string (ofL []), .string (ofL []), .int .i64 0, .int .i64 0, .string (ofL []), .string (ofL []), .slice none 0 0, .slice none 0 0, .slice none 0 0, .slice none 0 0] := by kernel_rfl
@[simp] theorem q70 : tcomp prog 70 = false := by kernel_rfl
@[simp] theorem y70 : tbyte prog 70 = false := by kernel_rfl
@[simp] theorem f70_0 : tfld prog 70 0 = some (0, false, 1) := by kernel_rfl
@[simp] theorem f70_1 : tfld prog 70 1 = some (1, false, 1) := by kernel_rfl
@[simp] theorem f70_2 : tfld prog 70 2 = some (2, true, 8) := by kernel_rfl
@[simp] theorem p70 : tplaces prog 70 = some [(0, 1), (1, 1), (2, 8)] := by kernel_rfl
@[simp] theorem z71 : tsz prog 71 = some 10 := by kernel_rfl
@[simp] theorem c71 : tcode prog 71 = 8 := by kernel_rfl
@[simp] theorem i71 : tint prog 71 = none := by kernel_rfl
@[simp] theorem a71 : tagg prog 71 = some true := by kernel_rfl
@[simp] theorem o71 : tzero prog 71 = some [.string (ofL []), .string (ofL []), .int .i64 0, .int .i64 0, .string (ofL []), .string (ofL []), .slice none 0 0, .slice none 0 0, .slice none 0 0, .slice none 0 0] := by kernel_rfl
@[simp] theorem q71 : tcomp prog 71 = false := by kernel_rfl
@[simp] theorem y71 : tbyte prog 71 = false := by kernel_rfl
@[simp] theorem f71_0 : tfld prog 71 0 = some (0, false, 1) := by kernel_rfl
@[simp] theorem f71_1 : tfld prog 71 1 = some (1, false, 1) := by kernel_rfl
@[simp] theorem f71_2 : tfld prog 71 2 = some (2, true, 8) := by kernel_rfl
@[simp] theorem p71 : tplaces prog 71 = some [(0, 1), (1, 1), (2, 8)] := by kernel_rfl
@[simp] theorem z73 : tsz prog 73 = some 1 := by kernel_rfl
@[simp] theorem c73 : tcode prog 73 = 7 := by kernel_rfl
@[simp] theorem i73 : tint prog 73 = none := by kernel_rfl
@[simp] theorem a73 : tagg prog 73 = some false := by kernel_rfl
@[simp] theorem o73 : tzero prog 73 = some [.nilFunc] := by kernel_rfl
@[simp] theorem q73 : tcomp prog 73 = false := by kernel_rfl
@[simp] theorem y73 : tbyte prog 73 = false := by kernel_rfl
@[simp] theorem z74 : tsz prog 74 = some 1 := by kernel_rfl
@[simp] theorem c74 : tcode prog 74 = 4 := by kernel_rfl
@[simp] theorem i74 : tint prog 74 = none := by kernel_rfl
@[simp] theorem a74 : tagg prog 74 = some false := by kernel_rfl
@[simp] theorem o74 : tzero prog 74 = some [.pointer none] := by kernel_rfl
@[simp] theorem q74 : tcomp prog 74 = true := by kernel_rfl
@[simp] theorem y74 : tbyte prog 74 = false := by kernel_rfl
@[simp] theorem z76 : tsz prog 76 = some 1 := by kernel_rfl
@[simp] theorem c76 : tcode prog 76 = 7 := by kernel_rfl
@[simp] theorem i76 : tint prog 76 = none := by kernel_rfl
@[simp] theorem a76 : tagg prog 76 = some false := by kernel_rfl
@[simp] theorem o76 : tzero prog 76 = some [.nilFunc] := by kernel_rfl
@[simp] theorem q76 : tcomp prog 76 = false := by kernel_rfl
@[simp] theorem y76 : tbyte prog 76 = false := by kernel_rfl
@[simp] theorem z77 : tsz prog 77 = some 1 := by kernel_rfl
@[simp] theorem c77 : tcode prog 77 = 7 := by kernel_rfl
@[simp] theorem i77 : tint prog 77 = none := by kernel_rfl
@[simp] theorem a77 : tagg prog 77 = some false := by kernel_rfl
@[simp] theorem o77 : tzero prog 77 = some [.nilFunc] := by kernel_rfl
@[simp] theorem q77 : tcomp prog 77 = false := by kernel_rfl
@[simp] theorem y77 : tbyte prog 77 = false := by kernel_rfl
@[simp] theorem z78 : tsz prog 78 = some 1 := by kernel_rfl
@[simp] theorem c78 : tcode prog 78 = 7 := by kernel_rfl
@[simp] theorem i78 : tint prog 78 = none := by kernel_rfl
@[simp] theorem a78 : tagg prog 78 = some false := by kernel_rfl
@[simp] theorem o78 : tzero prog 78 = some [.nilFunc] := by kernel_rfl
@[simp] theorem q78 : tcomp prog 78 = false := by kernel_rfl
@[simp] theorem y78 : tbyte prog 78 = false := by kernel_rfl
@[simp] theorem z82 : tsz prog 82 = some 3 := by kernel_rfl
@[simp] theorem c82 : tcode prog 82 = 8 := by kernel_rfl
@[simp] theorem i82 : tint prog 82 = none := by kernel_rfl
@[simp] theorem a82 : tagg prog 82 = some true := by kernel_rfl
@[simp] theorem o82 : tzero prog 82 = some [.int .i64 0, .int .i64 0, .string (ofL [])] := by kernel_rfl
@[simp] theorem s82 : tsfl prog 82 = some [(0, 3, false, 1), (1, 3, false, 1), (2, 9, false, 1)] := by kernel_rfl
@[simp] theorem q82 : tcomp prog 82 = true := by kernel_rfl
@[simp] theorem y82 : tbyte prog 82 = false := by kernel_rfl
@[simp] theorem f82_0 : tfld prog 82 0 = some (0, false, 1) := by kernel_rfl
@[simp] theorem f82_1 : tfld prog 82 1 = some (1, false, 1) := by kernel_rfl
@[simp] theorem f82_2 : tfld prog 82 2 = some (2, false, 1) := by kernel_rfl
@[simp] theorem p82 : tplaces prog 82 = some [(0, 1), (1, 1), (2, 1)] := by kernel_rfl
@[simp] theorem z83 : tsz prog 83 = some 3 := by kernel_rfl
@[simp] theorem c83 : tcode prog 83 = 8 := by kernel_rfl
@[simp] theorem i83 : tint prog 83 = none := by kernel_rfl
@[simp] theorem a83 : tagg prog 83 = some true := by kernel_rfl
@[simp] theorem o83 : tzero prog 83 = some [.int .i64 0, .int .i64 0, .string (ofL [])] := by kernel_rfl
@[simp] theorem s83 : tsfl prog 83 = some [(0, 3, false, 1), (1, 3, false, 1), (2, 9, false, 1)] := by kernel_rfl
@[simp] theorem q83 : tcomp prog 83 = true := by kernel_rfl
@[simp] theorem y83 : tbyte prog 83 = false := by kernel_rfl
@[simp] theorem f83_0 : tfld prog 83 0 = some (0, false, 1) := by kernel_rfl
@[simp] theorem f83_1 : tfld prog 83 1 = some (1, false, 1) := by kernel_rfl
@[simp] theorem f83_2 : tfld prog 83 2 = some (2, false, 1) := by kernel_rfl
@[simp] theorem p83 : tplaces prog 83 = some [(0, 1), (1, 1), (2, 1)] := by kernel_rfl
@[simp] theorem z84 : tsz prog 84 = some 1 := by kernel_rfl
@[simp] theorem c84 : tcode prog 84 = 4 := by kernel_rfl
@[simp] theorem i84 : tint prog 84 = none := by kernel_rfl
@[simp] theorem a84 : tagg prog 84 = some false := by kernel_rfl
@[simp] theorem o84 : tzero prog 84 = some [.pointer none] := by kernel_rfl
@[simp] theorem q84 : tcomp prog 84 = true := by kernel_rfl
@[simp] theorem y84 : tbyte prog 84 = false := by kernel_rfl
@[simp] theorem z85 : tsz prog 85 = some 4 := by kernel_rfl
@[simp] theorem c85 : tcode prog 85 = 8 := by kernel_rfl
@[simp] theorem i85 : tint prog 85 = none := by kernel_rfl
@[simp] theorem a85 : tagg prog 85 = some true := by kernel_rfl
@[simp] theorem o85 : tzero prog 85 = some [.slice none 0 0, .int .i64 0, .int .i64 0, .nilIface] := by kernel_rfl
@[simp] theorem q85 : tcomp prog 85 = false := by kernel_rfl
@[simp] theorem y85 : tbyte prog 85 = false := by kernel_rfl
@[simp] theorem f85_0 : tfld prog 85 0 = some (0, false, 1) := by kernel_rfl
@[simp] theorem f85_1 : tfld prog 85 1 = some (1, false, 1) := by kernel_rfl
@[simp] theorem f85_2 : tfld prog 85 2 = some (2, false, 1) := by kernel_rfl
@[simp] theorem f85_3 : tfld prog 85 3 = some (3, false, 1) := by kernel_rfl
@[simp] theorem p85 : tplaces prog 85 = some [(0, 1), (1, 1), (2, 1), (3, 1)] := by kernel_rfl
@[simp] theorem z86 : tsz prog 86 = some 4 := by kernel_rfl
@[simp] theorem c86 : tcode prog 86 = 8 := by kernel_rfl
@[simp] theorem i86 : tint prog 86 = none := by kernel_rfl
@[simp] theorem a86 : tagg prog 86 = some true := by kernel_rfl
@[simp] theorem o86 : tzero prog 86 = some [.slice none 0 0, .int .i64 0, .int .i64 0, .nilIface] := by kernel_rfl
@[simp] theorem q86 : tcomp prog 86 = false := by kernel_rfl
@[simp] theorem y86 : tbyte prog 86 = false := by kernel_rfl
@[simp] theorem f86_0 : tfld prog 86 0 = some (0, false, 1) := by kernel_rfl
@[simp] theorem f86_1 : tfld prog 86 1 = some (1, false, 1) := by kernel_rfl
@[simp] theorem f86_2 : tfld prog 86 2 = some (2, false, 1) := by kernel_rfl
@[simp] theorem f86_3 : tfld prog 86 3 = some (3, false, 1) := by kernel_rfl
@[simp] theorem p86 : tplaces prog 86 = some [(0, 1), (1, 1), (2, 1), (3, 1)] := by kernel_rfl
@[simp] theorem z89 : tsz prog 89 = some 1 := by kernel_rfl
@[simp] theorem c89 : tcode prog 89 = 5 := by kernel_rfl
@[simp] theorem i89 : tint prog 89 = none := by kernel_rfl
@[simp] theorem a89 : tagg prog 89 = some false := by kernel_rfl
@[simp] theorem o89 : tzero prog 89 = some [.slice none 0 0] := by kernel_rfl
@[simp] theorem q89 : tcomp prog 89 = false := by kernel_rfl
@[simp] theorem e89 : telem prog 89 = some (1, 1) := by kernel_rfl
@[simp] theorem w89 : tezero prog 89 = some [.int .u8 0] := by kernel_rfl
@[simp] theorem y89 : tbyte prog 89 = true := by kernel_rfl
@[simp] theorem z90 : tsz prog 90 = some 1 := by kernel_rfl
@[simp] theorem c90 : tcode prog 90 = 7 := by kernel_rfl
@[simp] theorem i90 : tint prog 90 = none := by kernel_rfl
@[simp] theorem a90 : tagg prog 90 = some false := by kernel_rfl
@[simp] theorem o90 : tzero prog 90 = some [.nilFunc] := by kernel_rfl
@[simp] theorem q90 : tcomp prog 90 = false := by kernel_rfl
@[simp] theorem y90 : tbyte prog 90 = false := by kernel_rfl
@[simp] theorem z91 : tsz prog 91 = some 1 := by kernel_rfl
@[simp] theorem c91 : tcode prog 91 = 7 := by kernel_rfl
@[simp] theorem i91 : tint prog 91 = none := by kernel_rfl
@[simp] theorem a91 : tagg prog 91 = some false := by kernel_rfl
@[simp] theorem o91 : tzero prog 91 = some [.nilFunc] := by kernel_rfl
@[simp] theorem q91 : tcomp prog 91 = false := by kernel_rfl
@[simp] theorem y91 : tbyte prog 91 = false := by kernel_rfl
@[simp] theorem z93 : tsz prog 93 = some 1 := by kernel_rfl
@[simp] theorem c93 : tcode prog 93 = 7 := by kernel_rfl
@[simp] theorem i93 : tint prog 93 = none := by kernel_rfl
@[simp] theorem a93 : tagg prog 93 = some false := by kernel_rfl
@[simp] theorem o93 : tzero prog 93 = some [.nilFunc] := by kernel_rfl
@[simp] theorem q93 : tcomp prog 93 = false := by kernel_rfl
@[simp] theorem y93 : tbyte prog 93 = false := by kernel_rfl
@[simp] theorem z97 : tsz prog 97 = some 1 := by kernel_rfl
@[simp] theorem c97 : tcode prog 97 = 7 := by kernel_rfl
@[simp] theorem i97 : tint prog 97 = none := by kernel_rfl
@[simp] theorem a97 : tagg prog 97 = some false := by kernel_rfl
@[simp] theorem o97 : tzero prog 97 = some [.nilFunc] := by kernel_rfl
@[simp] theorem q97 : tcomp prog 97 = false := by kernel_rfl
@[simp] theorem y97 : tbyte prog 97 = false := by kernel_rfl
@[simp] theorem z98 : tsz prog 98 = some 1 := by kernel_rfl
@[simp] theorem c98 : tcode prog 98 = 7 := by kernel_rfl
@[simp] theorem i98 : tint prog 98 = none := by kernel_rfl
@[simp] theorem a98 : tagg prog 98 = some false := by kernel_rfl
@[simp] theorem o98 : tzero prog 98 = some [.nilFunc] := by kernel_rfl
@[simp] theorem q98 : tcomp prog 98 = false := by kernel_rfl
@[simp] theorem y98 : tbyte prog 98 = false := by kernel_rfl
@[simp] theorem z99 : tsz prog 99 = some 1 := by kernel_rfl
@[simp] theorem c99 : tcode prog 99 = 7 := by kernel_rfl
@[simp] theorem i99 : tint prog 99 = none := by kernel_rfl
@[simp] theorem a99 : tagg prog 99 = some false := by kernel_rfl
@[simp] theorem o99 : tzero prog 99 = some [.nilFunc] := by kernel_rfl
@[simp] theorem q99 : tcomp prog 99 = false := by kernel_rfl
@[simp] theorem y99 : tbyte prog 99 = false := by kernel_rfl
@[simp] theorem z100 : tsz prog 100 = some 1 := by kernel_rfl
@[simp] theorem c100 : tcode prog 100 = 7 := by kernel_rfl
@[simp] theorem i100 : tint prog 100 = none := by kernel_rfl
@[simp] theorem a100 : tagg prog 100 = some false := by kernel_rfl
@[simp] theorem o100 : tzero prog 100 = some [.nilFunc] := by kernel_rfl
@[simp] theorem q100 : tcomp prog 100 = false := by kernel_rfl
@[simp] theorem y100 : tbyte prog 100 = false := by kernel_rfl
@[simp] theorem z101 : tsz prog 101 = some 1 := by kernel_rfl
@[simp] theorem c101 : tcode prog 101 = 7 := by kernel_rfl
@[simp] theorem i101 : tint prog 101 = none := by kernel_rfl
@[simp] theorem a101 : tagg prog 101 = some false := by kernel_rfl
@[simp] theorem o101 : tzero prog 101 = some [.nilFunc] := by kernel_rfl
@[simp] theorem q101 : tcomp prog 101 = false := by kernel_rfl
@[simp] theorem y101 : tbyte prog 101 = false := by kernel_rfl
@[simp] theorem z102 : tsz prog 102 = some 1 := by kernel_rfl
@[simp] theorem c102 : tcode prog 102 = 10 := by kernel_rfl
@[simp] theorem i102 : tint prog 102 = none := by kernel_rfl
@[simp] theorem o102 : tzero prog 102 = some [.pointer none] := by kernel_rfl
@[simp] theorem q102 : tcomp prog 102 = true := by kernel_rfl
@[simp] theorem y102 : tbyte prog 102 = false := by kernel_rfl
@[simp] theorem z103 : tsz prog 103 = some 1 := by kernel_rfl
@[simp] theorem c103 : tcode prog 103 = 2 := by kernel_rfl
@[simp] theorem i103 : tint prog 103 = some .u64 := by kernel_rfl
@[simp] theorem a103 : tagg prog 103 = some false := by kernel_rfl
@[simp] theorem o103 : tzero prog 103 = some [.int .u64 0] := by kernel_rfl
@[simp] theorem q103 : tcomp prog 103 = true := by kernel_rfl
@[simp] theorem y103 : tbyte prog 103 = false := by kernel_rfl
@[simp] theorem z104 : tsz prog 104 = some 3 := by kernel_rfl
@[simp] theorem c104 : tcode prog 104 = 8 := by kernel_rfl
@[simp] theorem i104 : tint prog 104 = none := by kernel_rfl
@[simp] theorem a104 : tagg prog 104 = some true := by kernel_rfl
@[simp] theorem o104 : tzero prog 104 = some [.pointer none, .pointer none, .int .u64 0] := by kernel_rfl
@[simp] theorem q104 : tcomp prog 104 = true := by kernel_rfl
@[simp] theorem y104 : tbyte prog 104 = false := by kernel_rfl
@[simp] theorem f104_0 : tfld prog 104 0 = some (0, false, 1) := by kernel_rfl
@[simp] theorem f104_1 : tfld prog 104 1 = some (1, false, 1) := by kernel_rfl
@[simp] theorem f104_2 : tfld prog 104 2 = some (2, false, 1) := by kernel_rfl
@[simp] theorem p104 : tplaces prog 104 = some [(0, 1), (1, 1), (2, 1)] := by kernel_rfl
@[simp] theorem z105 : tsz prog 105 = some 3 := by kernel_rfl
@[simp] theorem c105 : tcode prog 105 = 8 := by kernel_rfl
@[simp] theorem i105 : tint prog 105 = none := by kernel_rfl
@[simp] theorem a105 : tagg prog 105 = some true := by kernel_rfl
@[simp] theorem o105 : tzero prog 105 = some [.pointer none, .pointer none, .int .u64 0] := by kernel_rfl
@[simp] theorem q105 : tcomp prog 105 = true := by kernel_rfl
@[simp] theorem y105 : tbyte prog 105 = false := by kernel_rfl
@[simp] theorem f105_0 : tfld prog 105 0 = some (0, false, 1) := by kernel_rfl
@[simp] theorem f105_1 : tfld prog 105 1 = some (1, false, 1) := by kernel_rfl
@[simp] theorem f105_2 : tfld prog 105 2 = some (2, false, 1) := by kernel_rfl
@[simp] theorem p105 : tplaces prog 105 = some [(0, 1), (1, 1), (2, 1)] := by kernel_rfl
@[simp] theorem z107 : tsz prog 107 = some 1 := by kernel_rfl
@[simp] theorem c107 : tcode prog 107 = 6 := by kernel_rfl
@[simp] theorem i107 : tint prog 107 = none := by kernel_rfl
@[simp] theorem a107 : tagg prog 107 = some false := by kernel_rfl
@[simp] theorem o107 : tzero prog 107 = some [.nilIface] := by kernel_rfl
@[simp] theorem q107 : tcomp prog 107 = true := by kernel_rfl
@[simp] theorem y107 : tbyte prog 107 = false := by kernel_rfl
@[simp] theorem z108 : tsz prog 108 = some 1 := by kernel_rfl
@[simp] theorem c108 : tcode prog 108 = 6 := by kernel_rfl
@[simp] theorem i108 : tint prog 108 = none := by kernel_rfl
@[simp] theorem a108 : tagg prog 108 = some false := by kernel_rfl
@[simp] theorem o108 : tzero prog 108 = some [.nilIface] := by kernel_rfl
@[simp] theorem q108 : tcomp prog 108 = true := by kernel_rfl
@[simp] theorem y108 : tbyte prog 108 = false := by kernel_rfl
@[simp] theorem z109 : tsz prog 109 = some 1 := by kernel_rfl
@[simp] theorem c109 : tcode prog 109 = 7 := by kernel_rfl
@[simp] theorem i109 : tint prog 109 = none := by kernel_rfl
@[simp] theorem a109 : tagg prog 109 = some false := by kernel_rfl
@[simp] theorem o109 : tzero prog 109 = some [.nilFunc] := by kernel_rfl
@[simp] theorem q109 : tcomp prog 109 = false := by kernel_rfl
@[simp] theorem y109 : tbyte prog 109 = false := by kernel_rfl
@[simp] theorem z110 : tsz prog 110 = some 1 := by kernel_rfl
@[simp] theorem c110 : tcode prog 110 = 2 := by kernel_rfl
@[simp] theorem i110 : tint prog 110 = some .u8 := by kernel_rfl
@[simp] theorem a110 : tagg prog 110 = some false := by kernel_rfl
@[simp] theorem o110 : tzero prog 110 = some [.int .u8 0] := by kernel_rfl
@[simp] theorem q110 : tcomp prog 110 = true := by kernel_rfl
@[simp] theorem y110 : tbyte prog 110 = false := by kernel_rfl
@[simp] theorem z111 : tsz prog 111 = some 1 := by kernel_rfl
@[simp] theorem c111 : tcode prog 111 = 7 := by kernel_rfl
@[simp] theorem i111 : tint prog 111 = none := by kernel_rfl
@[simp] theorem a111 : tagg prog 111 = some false := by kernel_rfl
@[simp] theorem o111 : tzero prog 111 = some [.nilFunc] := by kernel_rfl
@[simp] theorem q111 : tcomp prog 111 = false := by kernel_rfl
@[simp] theorem y111 : tbyte prog 111 = false := by kernel_rfl
@[simp] theorem z112 : tsz prog 112 = some 1 := by kernel_rfl
@[simp] theorem c112 : tcode prog 112 = 7 := by kernel_rfl
@[simp] theorem i112 : tint prog 112 = none := by kernel_rfl
@[simp] theorem a112 : tagg prog 112 = some false := by kernel_rfl
@[simp] theorem o112 : tzero prog 112 = some [.nilFunc] := by kernel_rfl
@[simp] theorem q112 : tcomp prog 112 = false := by kernel_rfl
@[simp] theorem y112 : tbyte prog 112 = false := by kernel_rfl
@[simp] theorem z114 : tsz prog 114 = some 1 := by kernel_rfl
@[simp] theorem c114 : tcode prog 114 = 7 := by kernel_rfl
@[simp] theorem i114 : tint prog 114 = none := by kernel_rfl
@[simp] theorem a114 : tagg prog 114 = some false := by kernel_rfl
@[simp] theorem o114 : tzero prog 114 = some [.nilFunc] := by kernel_rfl
@[simp] theorem q114 : tcomp prog 114 = false := by kernel_rfl
@[simp] theorem y114 : tbyte prog 114 = false := by kernel_rfl
@[simp] theorem z115 : tsz prog 115 = some 1 := by kernel_rfl
@[simp] theorem c115 : tcode prog 115 = 7 := by kernel_rfl
@[simp] theorem i115 : tint prog 115 = none := by kernel_rfl
@[simp] theorem a115 : tagg prog 115 = some false := by kernel_rfl
@[simp] theorem o115 : tzero prog 115 = some [.nilFunc] := by kernel_rfl
@[simp] theorem q115 : tcomp prog 115 = false := by kernel_rfl
@[simp] theorem y115 : tbyte prog 115 = false := by kernel_rfl
@[simp] theorem z116 : tsz prog 116 = some 1 := by kernel_rfl
@[simp] theorem c116 : tcode prog 116 = 7 := by kernel_rfl
@[simp] theorem i116 : tint prog 116 = none := by kernel_rfl
@[simp] theorem a116 : tagg prog 116 = some false := by kernel_rfl
@[simp] theorem o116 : tzero prog 116 = some [.nilFunc] := by kernel_rfl
@[simp] theorem q116 : tcomp prog 116 = false := by kernel_rfl
@[simp] theorem y116 : tbyte prog 116 = false := by kernel_rfl
@[simp] theorem z117 : tsz prog 117 = some 1 := by kernel_rfl
@[simp] theorem c117 : tcode prog 117 = 7 := by kernel_rfl
@[simp] theorem i117 : tint prog 117 = none := by kernel_rfl
@[simp] theorem a117 : tagg prog 117 = some false := by kernel_rfl
@[simp] theorem o117 : tzero prog 117 = some [.nilFunc] := by kernel_rfl
@[simp] theorem q117 : tcomp prog 117 = false := by kernel_rfl
@[simp] theorem y117 : tbyte prog 117 = false := by kernel_rfl
@[simp] theorem z118 : tsz prog 118 = some 1 := by kernel_rfl
@[simp] theorem c118 : tcode prog 118 = 7 := by kernel_rfl
@[simp] theorem i118 : tint prog 118 = none := by kernel_rfl
@[simp] theorem a118 : tagg prog 118 = some false := by kernel_rfl
@[simp] theorem o118 : tzero prog 118 = some [.nilFunc] := by kernel_rfl
@[simp] theorem q118 : tcomp prog 118 = false := by kernel_rfl
@[simp] theorem y118 : tbyte prog 118 = false := by kernel_rfl
@[simp] theorem z120 : tsz prog 120 = some 1 := by kernel_rfl
@[simp] theorem c120 : tcode prog 120 = 7 := by kernel_rfl
@[simp] theorem i120 : tint prog 120 = none := by kernel_rfl
@[simp] theorem a120 : tagg prog 120 = some false := by kernel_rfl
@[simp] theorem o120 : tzero prog 120 = some [.nilFunc] := by kernel_rfl
@[simp] theorem q120 : tcomp prog 120 = false := by kernel_rfl
@[simp] theorem y120 : tbyte prog 120 = false := by kernel_rfl
@[simp] theorem z121 : tsz prog 121 = some 1 := by kernel_rfl
@[simp] theorem c121 : tcode prog 121 = 7 := by kernel_rfl
@[simp] theorem i121 : tint prog 121 = none := by kernel_rfl
@[simp] theorem a121 : tagg prog 121 = some false := by kernel_rfl
@[simp] theorem o121 : tzero prog 121 = some [.nilFunc] := by kernel_rfl
@[simp] theorem q121 : tcomp prog 121 = false := by kernel_rfl
@[simp] theorem y121 : tbyte prog 121 = false := by kernel_rfl
@[simp] theorem z122 : tsz prog 122 = some 1 := by kernel_rfl
@[simp] theorem c122 : tcode prog 122 = 7 := by kernel_rfl
@[simp] theorem i122 : tint prog 122 = none := by kernel_rfl
@[simp] theorem a122 : tagg prog 122 = some false := by kernel_rfl
@[simp] theorem o122 : tzero prog 122 = some [.nilFunc] := by kernel_rfl
@[simp] theorem q122 : tcomp prog 122 = false := by kernel_rfl
@[simp] theorem y122 : tbyte prog 122 = false := by kernel_rfl
@[simp] theorem z123 : tsz prog 123 = some 1 := by kernel_rfl
@[simp] theorem c123 : tcode prog 123 = 7 := by kernel_rfl
@[simp] theorem i123 : tint prog 123 = none := by kernel_rfl
@[simp] theorem a123 : tagg prog 123 = some false := by kernel_rfl
@[simp] theorem o123 : tzero prog 123 = some [.nilFunc] := by kernel_rfl
@[simp] theorem q123 : tcomp prog 123 = false := by kernel_rfl
@[simp] theorem y123 : tbyte prog 123 = false := by kernel_rfl
@[simp] theorem z124 : tsz prog 124 = some 4 := by kernel_rfl
@[simp] theorem c124 : tcode prog 124 = 9 := by kernel_rfl
@[simp] theorem i124 : tint prog 124 = none := by kernel_rfl
@[simp] theorem a124 : tagg prog 124 = some true := by kernel_rfl
@[simp] theorem o124 : tzero prog 124 = some [.int .i64 0, .int .i64 0, .int .i64 0, .int .i64 0] := by kernel_rfl
@[simp] theorem q124 : tcomp prog 124 = true := by kernel_rfl
@[simp] theorem y124 : tbyte prog 124 = false := by kernel_rfl
@[simp] theorem z125 : tsz prog 125 = some 1 := by kernel_rfl
@[simp] theorem c125 : tcode prog 125 = 7 := by kernel_rfl
@[simp] theorem i125 : tint prog 125 = none := by kernel_rfl
@[simp] theorem a125 : tagg prog 125 = some false := by kernel_rfl
@[simp] theorem o125 : tzero prog 125 = some [.nilFunc] := by kernel_rfl
@[simp] theorem q125 : tcomp prog 125 = false := by kernel_rfl
@[simp] theorem y125 : tbyte prog 125 = false := by kernel_rfl
@[simp] theorem z127 : tsz prog 127 = some 1 := by kernel_rfl
@[simp] theorem c127 : tcode prog 127 = 5 := by kernel_rfl
@[simp] theorem i127 : tint prog 127 = none := by kernel_rfl
@[simp] theorem a127 : tagg prog 127 = some false := by kernel_rfl
@[simp] theorem o127 : tzero prog 127 = some [.slice none 0 0] := by kernel_rfl
@[simp] theorem q127 : tcomp prog 127 = false := by kernel_rfl
@[simp] theorem e127 : telem prog 127 = some (1, 8) := by kernel_rfl
@[simp] theorem w127 : tezero prog 127 = some [.int .i64 0] := by kernel_rfl
@[simp] theorem y127 : tbyte prog 127 = false := by kernel_rfl
@[simp] theorem z133 : tsz prog 133 = some 1 := by kernel_rfl
@[simp] theorem c133 : tcode prog 133 = 5 := by kernel_rfl
@[simp] theorem i133 : tint prog 133 = none := by kernel_rfl
@[simp] theorem a133 : tagg prog 133 = some false := by kernel_rfl
@[simp] theorem o133 : tzero prog 133 = some [.slice none 0 0] := by kernel_rfl
@[simp] theorem q133 : tcomp prog 133 = false := by kernel_rfl
@[simp] theorem e133 : telem prog 133 = some (1, 24) := by kernel_rfl
@[simp] theorem w133 : tezero prog 133 = some [.slice none 0 0] := by kernel_rfl
@[simp] theorem y133 : tbyte prog 133 = false := by kernel_rfl
@[simp] theorem z150 : tsz prog 150 = some 1 := by kernel_rfl
@[simp] theorem c150 : tcode prog 150 = 6 := by kernel_rfl
@[simp] theorem i150 : tint prog 150 = none := by kernel_rfl
@[simp] theorem a150 : tagg prog 150 = some false := by kernel_rfl
@[simp] theorem o150 : tzero prog 150 = some [.nilIface] := by kernel_rfl
@[simp] theorem q150 : tcomp prog 150 = true := by kernel_rfl
@[simp] theorem y150 : tbyte prog 150 = false := by kernel_rfl
@[simp] theorem z167 : tsz prog 167 = some 1 := by kernel_rfl
@[simp] theorem c167 : tcode prog 167 = 5 := by kernel_rfl
@[simp] theorem i167 : tint prog 167 = none := by kernel_rfl
@[simp] theorem a167 : tagg prog 167 = some false := by kernel_rfl
@[simp] theorem o167 : tzero prog 167 = some [.slice none 0 0] := by kernel_rfl
@[simp] theorem q167 : tcomp prog 167 = false := by kernel_rfl
@[simp] theorem e167 : telem prog 167 = some (10, 176) := by kernel_rfl
@[simp] theorem w167 : tezero prog 167 = some [.string (ofL []), .string (ofL []), .int .i64 0, .int .i64 0, .string (ofL []), .string (ofL []), .slice none 0 0, .slice none 0 0, .slice none 0 0, .slice none 0 0] := by kernel_rfl
@[simp] theorem y167 : tbyte prog 167 = false := by kernel_rfl
@[simp] theorem z168 : tsz prog 168 = some 10 := by kernel_rfl
@[simp] theorem c168 : tcode prog 168 = 8 := by kernel_rfl
@[simp] theorem i168 : tint prog 168 = none := by kernel_rfl
@[simp] theorem a168 : tagg prog 168 = some true := by kernel_rfl
@[simp] theorem o168 : tzero prog 168 = some [.string (ofL []), .string (ofL []), .int .i64 0, .int .i64 0, .string (ofL []), .string (ofL []), .slice none 0 0, .slice none 0 0, .slice none 0 0, .slice none 0 0] := by kernel_rfl
@[simp] theorem q168 : tcomp prog 168 = false := by kernel_rfl
@[simp] theorem y168 : tbyte prog 168 = false := by kernel_rfl
@[simp] theorem f168_0 : tfld prog 168 0 = some (0, false, 1) := by kernel_rfl
@[simp] theorem f168_1 : tfld prog 168 1 = some (1, false, 1) := by kernel_rfl
@[simp] theorem f168_2 : tfld prog 168 2 = some (2, true, 8) := by kernel_rfl
@[simp] theorem p168 : tplaces prog 168 = some [(0, 1), (1, 1), (2, 8)] := by kernel_rfl
@[simp] theorem z169 : tsz prog 169 = some 10 := by kernel_rfl
@[simp] theorem c169 : tcode prog 169 = 8 := by kernel_rfl
@[simp] theorem i169 : tint prog 169 = none := by kernel_rfl
@[simp] theorem a169 : tagg prog 169 = some true := by kernel_rfl
@[simp] theorem o169 : tzero prog 169 = some [.string (ofL []), .string (ofL []), .int .i64 0, .int .i64 0, .string (ofL []), .string (ofL []), .slice none 0 0, .slice none 0 0, .slice none 0 0, .slice none 0 0] := by kernel_rfl
@[simp] theorem q169 : tcomp prog 169 = false := by kernel_rfl
@[simp] theorem y169 : tbyte prog 169 = false := by kernel_rfl
@[simp] theorem f169_0 : tfld prog 169 0 = some (0, false, 1) := by kernel_rfl
@[simp] theorem f169_1 : tfld prog 169 1 = some (1, false, 1) := by kernel_rfl
@[simp] theorem f169_2 : tfld prog 169 2 = some (2, true, 8) := by kernel_rfl
@[simp] theorem p169 : tplaces prog 169 = some [(0, 1), (1, 1), (2, 8)] := by kernel_rfl
@[simp] theorem z173 : tsz prog 173 = some 1 := by kernel_rfl
@[simp] theorem c173 : tcode prog 173 = 7 := by kernel_rfl
@[simp] theorem i173 : tint prog 173 = none := by kernel_rfl
@[simp] theorem a173 : tagg prog 173 = some false := by kernel_rfl
@[simp] theorem o173 : tzero prog 173 = some [.nilFunc] := by kernel_rfl
@[simp] theorem q173 : tcomp prog 173 = false := by kernel_rfl
@[simp] theorem y173 : tbyte prog 173 = false := by kernel_rfl
@[simp] theorem z180 : tsz prog 180 = some 9 := by kernel_rfl
@[simp] theorem c180 : tcode prog 180 = 8 := by kernel_rfl
@[simp] theorem i180 : tint prog 180 = none := by kernel_rfl
@[simp] theorem a180 : tagg prog 180 = some true := by kernel_rfl
@[simp] theorem o180 : tzero prog 180 = some [.string (ofL []), .int .i64 0, .int .i64 0, .string (ofL []), .string (ofL []), .slice none 0 0, .slice none 0 0, .slice none 0 0, .slice none 0 0] := by kernel_rfl
@[simp] theorem q180 : tcomp prog 180 = false := by kernel_rfl
@[simp] theorem y180 : tbyte prog 180 = false := by kernel_rfl
@[simp] theorem f180_0 : tfld prog 180 0 = some (0, false, 1) := by kernel_rfl
@[simp] theorem f180_1 : tfld prog 180 1 = some (1, true, 8) := by kernel_rfl
@[simp] theorem p180 : tplaces prog 180 = some [(0, 1), (1, 8)] := by kernel_rfl
@[simp] theorem z181 : tsz prog 181 = some 9 := by kernel_rfl
@[simp] theorem c181 : tcode prog 181 = 8 := by kernel_rfl
@[simp] theorem i181 : tint prog 181 = none := by kernel_rfl
@[simp] theorem a181 : tagg prog 181 = some true := by kernel_rfl
@[simp] theorem o181 : tzero prog 181 = some [.string (ofL []), .int .i64 0, .int .i64 0, .string (ofL []), .string (ofL []), .slice none 0 0, .slice none 0 0, .slice none 0 0, .slice none 0 0] := by kernel_rfl
@[simp] theorem q181 : tcomp prog 181 = false := by kernel_rfl
@[simp] theorem y181 : tbyte prog 181 = false := by kernel_rfl
@[simp] theorem f181_0 : tfld prog 181 0 = some (0, false, 1) := by kernel_rfl
@[simp] theorem f181_1 : tfld prog 181 1 = some (1, true, 8) := by kernel_rfl
@[simp] theorem p181 : tplaces prog 181 = some [(0, 1), (1, 8)] := by kernel_rfl
@[simp] theorem z182 : tsz prog 182 = some 1 := by kernel_rfl
@[simp] theorem c182 : tcode prog 182 = 5 := by kernel_rfl
@[simp] theorem i182 : tint prog 182 = none := by kernel_rfl
@[simp] theorem a182 : tagg prog 182 = some false := by kernel_rfl
@[simp] theorem o182 : tzero prog 182 = some [.slice none 0 0] := by kernel_rfl
@[simp] theorem q182 : tcomp prog 182 = false := by kernel_rfl
@[simp] theorem e182 : telem prog 182 = some (9, 160) := by kernel_rfl
@[simp] theorem w182 : tezero prog 182 = some [.string (ofL []), .int .i64 0, .int .i64 0, .string (ofL []), .string (ofL []), .slice none 0 0, .slice none 0 0, .slice none 0 0, .slice none 0 0] := by kernel_rfl
@[simp] theorem y182 : tbyte prog 182 = false := by kernel_rfl
@[simp] theorem z184 : tsz prog 184 = some 1 := by kernel_rfl
@[simp] theorem c184 : tcode prog 184 = 2 := by kernel_rfl
@[simp] theorem i184 : tint prog 184 = some .u64 := by kernel_rfl
@[simp] theorem a184 : tagg prog 184 = some false := by kernel_rfl
@[simp] theorem o184 : tzero prog 184 = some [.int .u64 0] := by kernel_rfl
@[simp] theorem q184 : tcomp prog 184 = true := by kernel_rfl
@[simp] theorem y184 : tbyte prog 184 = false := by kernel_rfl
@[simp] theorem z189 : tsz prog 189 = some 1 := by kernel_rfl
@[simp] theorem c189 : tcode prog 189 = 4 := by kernel_rfl
@[simp] theorem i189 : tint prog 189 = none := by kernel_rfl
@[simp] theorem a189 : tagg prog 189 = some false := by kernel_rfl
@[simp] theorem o189 : tzero prog 189 = some [.pointer none] := by kernel_rfl
@[simp] theorem q189 : tcomp prog 189 = true := by kernel_rfl
@[simp] theorem y189 : tbyte prog 189 = false := by kernel_rfl
@[simp] theorem z194 : tsz prog 194 = some 1 := by kernel_rfl
@[simp] theorem c194 : tcode prog 194 = 4 := by kernel_rfl
@[simp] theorem i194 : tint prog 194 = none := by kernel_rfl
@[simp] theorem a194 : tagg prog 194 = some false := by kernel_rfl
@[simp] theorem o194 : tzero prog 194 = some [.pointer none] := by kernel_rfl
@[simp] theorem q194 : tcomp prog 194 = true := by kernel_rfl
@[simp] theorem y194 : tbyte prog 194 = false := by kernel_rfl
@[simp] theorem z195 : tsz prog 195 = some 4 := by kernel_rfl
@[simp] theorem c195 : tcode prog 195 = 8 := by kernel_rfl
@[simp] theorem i195 : tint prog 195 = none := by kernel_rfl
@[simp] theorem a195 : tagg prog 195 = some true := by kernel_rfl
@[simp] theorem o195 : tzero prog 195 = some [.slice none 0 0, .int .i64 0, .int .i64 0, .nilIface] := by kernel_rfl
@[simp] theorem q195 : tcomp prog 195 = false := by kernel_rfl
@[simp] theorem y195 : tbyte prog 195 = false := by kernel_rfl
@[simp] theorem f195_0 : tfld prog 195 0 = some (0, false, 1) := by kernel_rfl
@[simp] theorem f195_1 : tfld prog 195 1 = some (1, false, 1) := by kernel_rfl
@[simp] theorem f195_2 : tfld prog 195 2 = some (2, false, 1) := by kernel_rfl
@[simp] theorem f195_3 : tfld prog 195 3 = some (3, false, 1) := by kernel_rfl
@[simp] theorem p195 : tplaces prog 195 = some [(0, 1), (1, 1), (2, 1), (3, 1)] := by kernel_rfl
@[simp] theorem z196 : tsz prog 196 = some 4 := by kernel_rfl
@[simp] theorem c196 : tcode prog 196 = 8 := by kernel_rfl
@[simp] theorem i196 : tint prog 196 = none := by kernel_rfl
@[simp] theorem a196 : tagg prog 196 = some true := by kernel_rfl
@[simp] theorem o196 : tzero prog 196 = some [.slice none 0 0, .int .i64 0, .int .i64 0, .nilIface] := by kernel_rfl
@[simp] theorem q196 : tcomp prog 196 = false := by kernel_rfl
@[simp] theorem y196 : tbyte prog 196 = false := by kernel_rfl
@[simp] theorem f196_0 : tfld prog 196 0 = some (0, false, 1) := by kernel_rfl
@[simp] theorem f196_1 : tfld prog 196 1 = some (1, false, 1) := by kernel_rfl
@[simp] theorem f196_2 : tfld prog 196 2 = some (2, false, 1) := by kernel_rfl
@[simp] theorem f196_3 : tfld prog 196 3 = some (3, false, 1) := by kernel_rfl
@[simp] theorem p196 : tplaces prog 196 = some [(0, 1), (1, 1), (2, 1), (3, 1)] := by kernel_rfl
@[simp] theorem z200 : tsz prog 200 = some 1 := by kernel_rfl
@[simp] theorem c200 : tcode prog 200 = 2 := by kernel_rfl
@[simp] theorem i200 : tint prog 200 = some .u64 := by kernel_rfl
@[simp] theorem a200 : tagg prog 200 = some false := by kernel_rfl
@[simp] theorem o200 : tzero prog 200 = some [.int .u64 0] := by kernel_rfl
@[simp] theorem q200 : tcomp prog 200 = true := by kernel_rfl
@[simp] theorem y200 : tbyte prog 200 = false := by kernel_rfl
@[simp] theorem z204 : tsz prog 204 = some 1 := by kernel_rfl
@[simp] theorem c204 : tcode prog 204 = 7 := by kernel_rfl
@[simp] theorem i204 : tint prog 204 = none := by kernel_rfl
@[simp] theorem a204 : tagg prog 204 = some false := by kernel_rfl
@[simp] theorem o204 : tzero prog 204 = some [.nilFunc] := by kernel_rfl
@[simp] theorem q204 : tcomp prog 204 = false := by kernel_rfl
@[simp] theorem y204 : tbyte prog 204 = false := by kernel_rfl
@[simp] theorem z209 : tsz prog 209 = some 1 := by kernel_rfl
@[simp] theorem c209 : tcode prog 209 = 2 := by kernel_rfl
@[simp] theorem i209 : tint prog 209 = some .u32 := by kernel_rfl
@[simp] theorem a209 : tagg prog 209 = some false := by kernel_rfl
@[simp] theorem o209 : tzero prog 209 = some [.int .u32 0] := by kernel_rfl
@[simp] theorem q209 : tcomp prog 209 = true := by kernel_rfl
@[simp] theorem y209 : tbyte prog 209 = false := by kernel_rfl
@[simp] theorem z235 : tsz prog 235 = some 1 := by kernel_rfl
@[simp] theorem c235 : tcode prog 235 = 5 := by kernel_rfl
@[simp] theorem i235 : tint prog 235 = none := by kernel_rfl
@[simp] theorem a235 : tagg prog 235 = some false := by kernel_rfl
@[simp] theorem o235 : tzero prog 235 = some [.slice none 0 0] := by kernel_rfl
@[simp] theorem q235 : tcomp prog 235 = false := by kernel_rfl
@[simp] theorem e235 : telem prog 235 = some (8, 128) := by kernel_rfl
@[simp] theorem w235 : tezero prog 235 = some [.string (ofL []), .int .i64 0, .string (ofL []), .int .i64 0, .string (ofL []), .string (ofL []), .slice none 0 0, .slice none 0 0] := by kernel_rfl
@[simp] theorem y235 : tbyte prog 235 = false := by kernel_rfl
@[simp] theorem z236 : tsz prog 236 = some 8 := by kernel_rfl
@[simp] theorem c236 : tcode prog 236 = 8 := by kernel_rfl
@[simp] theorem i236 : tint prog 236 = none := by kernel_rfl
@[simp] theorem a236 : tagg prog 236 = some true := by kernel_rfl
@[simp] theorem o236 : tzero prog 236 = some [.string (ofL []), .int .i64 0, .string (ofL []), .int .i64 0, .string (ofL []), .string (ofL []), .slice none 0 0, .slice none 0 0] := by kernel_rfl
@[simp] theorem q236 : tcomp prog 236 = false := by kernel_rfl
@[simp] theorem y236 : tbyte prog 236 = false := by kernel_rfl
@[simp] theorem f236_0 : tfld prog 236 0 = some (0, false, 1) := by kernel_rfl
@[simp] theorem f236_1 : tfld prog 236 1 = some (1, true, 7) := by kernel_rfl
@[simp] theorem p236 : tplaces prog 236 = some [(0, 1), (1, 7)] := by kernel_rfl
@[simp] theorem z237 : tsz prog 237 = some 8 := by kernel_rfl
@[simp] theorem c237 : tcode prog 237 = 8 := by kernel_rfl
@[simp] theorem i237 : tint prog 237 = none := by kernel_rfl
@[simp] theorem a237 : tagg prog 237 = some true := by kernel_rfl
@[simp] theorem o237 : tzero prog 237 = some [.string (ofL []), .int .i64 0, .string (ofL []), .int .i64 0, .string (ofL []), .string (ofL []), .slice none 0 0, .slice none 0 0] := by kernel_rfl
@[simp] theorem q237 : tcomp prog 237 = false := by kernel_rfl
@[simp] theorem y237 : tbyte prog 237 = false := by kernel_rfl
@[simp] theorem f237_0 : tfld prog 237 0 = some (0, false, 1) := by kernel_rfl
@[simp] theorem f237_1 : tfld prog 237 1 = some (1, true, 7) := by kernel_rfl
@[simp] theorem p237 : tplaces prog 237 = some [(0, 1), (1, 7)] := by kernel_rfl
@[simp] theorem z238 : tsz prog 238 = some 1 := by kernel_rfl
@[simp] theorem c238 : tcode prog 238 = 7 := by kernel_rfl
@[simp] theorem i238 : tint prog 238 = none := by kernel_rfl
@[simp] theorem a238 : tagg prog 238 = some false := by kernel_rfl
@[simp] theorem o238 : tzero prog 238 = some [.nilFunc] := by kernel_rfl
@[simp] theorem q238 : tcomp prog 238 = false := by kernel_rfl
@[simp] theorem y238 : tbyte prog 238 = false := by kernel_rfl
@[simp] theorem z241 : tsz prog 241 = some 1 := by kernel_rfl
@[simp] theorem c241 : tcode prog 241 = 7 := by kernel_rfl
@[simp] theorem i241 : tint prog 241 = none := by kernel_rfl
@[simp] theorem a241 : tagg prog 241 = some false := by kernel_rfl
@[simp] theorem o241 : tzero prog 241 = some [.nilFunc] := by kernel_rfl
@[simp] theorem q241 : tcomp prog 241 = false := by kernel_rfl
@[simp] theorem y241 : tbyte prog 241 = false := by kernel_rfl
@[simp] theorem z276 : tsz prog 276 = some 1 := by kernel_rfl
@[simp] theorem c276 : tcode prog 276 = 2 := by kernel_rfl
@[simp] theorem i276 : tint prog 276 = some .u8 := by kernel_rfl
@[simp] theorem a276 : tagg prog 276 = some false := by kernel_rfl
@[simp] theorem o276 : tzero prog 276 = some [.int .u8 0] := by kernel_rfl
@[simp] theorem q276 : tcomp prog 276 = true := by kernel_rfl
@[simp] theorem y276 : tbyte prog 276 = false := by kernel_rfl
@[simp] theorem z277 : tsz prog 277 = some 1 := by kernel_rfl
@[simp] theorem c277 : tcode prog 277 = 7 := by kernel_rfl
@[simp] theorem i277 : tint prog 277 = none := by kernel_rfl
@[simp] theorem a277 : tagg prog 277 = some false := by kernel_rfl
@[simp] theorem o277 : tzero prog 277 = some [.nilFunc] := by kernel_rfl
@[simp] theorem q277 : tcomp prog 277 = false := by kernel_rfl
@[simp] theorem y277 : tbyte prog 277 = false := by kernel_rfl
@[simp] theorem z278 : tsz prog 278 = some 1 := by kernel_rfl
@[simp] theorem c278 : tcode prog 278 = 2 := by kernel_rfl
@[simp] theorem i278 : tint prog 278 = some .i32 := by kernel_rfl
@[simp] theorem a278 : tagg prog 278 = some false := by kernel_rfl
@[simp] theorem o278 : tzero prog 278 = some [.int .i32 0] := by kernel_rfl
@[simp] theorem q278 : tcomp prog 278 = true := by kernel_rfl
@[simp] theorem y278 : tbyte prog 278 = false := by kernel_rfl
@[simp] theorem z279 : tsz prog 279 = some 1 := by kernel_rfl
@[simp] theorem c279 : tcode prog 279 = 2 := by kernel_rfl
@[simp] theorem i279 : tint prog 279 = some .i32 := by kernel_rfl
@[simp] theorem a279 : tagg prog 279 = some false := by kernel_rfl
@[simp] theorem o279 : tzero prog 279 = some [.int .i32 0] := by kernel_rfl
@[simp] theorem q279 : tcomp prog 279 = true := by kernel_rfl
@[simp] theorem y279 : tbyte prog 279 = false := by kernel_rfl
@[simp] theorem z280 : tsz prog 280 = some 11 := by kernel_rfl
@[simp] theorem c280 : tcode prog 280 = 8 := by kernel_rfl
@[simp] theorem i280 : tint prog 280 = none := by kernel_rfl
@[simp] theorem a280 : tagg prog 280 = some true := by kernel_rfl
@[simp] theorem o280 : tzero prog 280 = some [.int .u64 0, .int .u64 0, .int .u32 0, .int .u8 0, .int .u8 0, .int .u8 0, .int .u8 0, .nilFunc, .pointer none, .int .i32 0, .int .i32 0] := by kernel_rfl
@[simp] theorem q280 : tcomp prog 280 = false := by kernel_rfl
@[simp] theorem y280 : tbyte prog 280 = false := by kernel_rfl
@[simp] theorem f280_0 : tfld prog 280 0 = some (0, false, 1) := by kernel_rfl
@[simp] theorem f280_1 : tfld prog 280 1 = some (1, false, 1) := by kernel_rfl
@[simp] theorem f280_2 : tfld prog 280 2 = some (2, false, 1) := by kernel_rfl
@[simp] theorem f280_3 : tfld prog 280 3 = some (3, false, 1) := by kernel_rfl
@[simp] theorem f280_4 : tfld prog 280 4 = some (4, false, 1) := by kernel_rfl
@[simp] theorem f280_5 : tfld prog 280 5 = some (5, false, 1) := by kernel_rfl
@[simp] theorem f280_6 : tfld prog 280 6 = some (6, false, 1) := by kernel_rfl
@[simp] theorem f280_7 : tfld prog 280 7 = some (7, false, 1) := by kernel_rfl
@[simp] theorem f280_8 : tfld prog 280 8 = some (8, false, 1) := by kernel_rfl
@[simp] theorem f280_9 : tfld prog 280 9 = some (9, false, 1) := by kernel_rfl
@[simp] theorem f280_10 : tfld prog 280 10 = some (10, false, 1) := by kernel_rfl
@[simp] theorem p280 : tplaces prog 280 = some [(0, 1), (1, 1), (2, 1), (3, 1), (4, 1), (5, 1), (6, 1), (7, 1), (8, 1), (9, 1), (10, 1)] := by kernel_rfl
@[simp] theorem z281 : tsz prog 281 = some 11 := by kernel_rfl
@[simp] theorem c281 : tcode prog 281 = 8 := by kernel_rfl
@[simp] theorem i281 : tint prog 281 = none := by kernel_rfl
@[simp] theorem a281 : tagg prog 281 = some true := by kernel_rfl
@[simp] theorem o281 : tzero prog 281 = some [.int .u64 0, .int .u64 0, .int .u32 0, .int .u8 0, .int .u8 0, .int .u8 0, .int .u8 0, .nilFunc, .pointer none, .int .i32 0, .int .i32 0] := by kernel_rfl
@[simp] theorem q281 : tcomp prog 281 = false := by kernel_rfl
@[simp] theorem y281 : tbyte prog 281 = false := by kernel_rfl
@[simp] theorem f281_0 : tfld prog 281 0 = some (0, false, 1) := by kernel_rfl
@[simp] theorem f281_1 : tfld prog 281 1 = some (1, false, 1) := by kernel_rfl
@[simp] theorem f281_2 : tfld prog 281 2 = some (2, false, 1) := by kernel_rfl
@[simp] theorem f281_3 : tfld prog 281 3 = some (3, false, 1) := by kernel_rfl
@[simp] theorem f281_4 : tfld prog 281 4 = some (4, false, 1) := by kernel_rfl
@[simp] theorem f281_5 : tfld prog 281 5 = some (5, false, 1) := by kernel_rfl
@[simp] theorem f281_6 : tfld prog 281 6 = some (6, false, 1) := by kernel_rfl
@[simp] theorem f281_7 : tfld prog 281 7 = some (7, false, 1) := by kernel_rfl
@[simp] theorem f281_8 : tfld prog 281 8 = some (8, false, 1) := by kernel_rfl
@[simp] theorem f281_9 : tfld prog 281 9 = some (9, false, 1) := by kernel_rfl
@[simp] theorem f281_10 : tfld prog 281 10 = some (10, false, 1) := by kernel_rfl
@[simp] theorem p281 : tplaces prog 281 = some [(0, 1), (1, 1), (2, 1), (3, 1), (4, 1), (5, 1), (6, 1), (7, 1), (8, 1), (9, 1), (10, 1)] := by kernel_rfl
end Go.Proofs.Mv.V.Ty
