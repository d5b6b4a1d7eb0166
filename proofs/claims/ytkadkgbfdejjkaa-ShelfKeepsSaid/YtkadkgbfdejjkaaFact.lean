/- A part of the proofs of the seat Ytkadkgbfdejjkaa: the abstract machine, the contracts of the functions, the laws. No condition of its own. -/
import Derived.Test.YtkadkgbfdejjkaaProg
import Derived.KernelRfl
import Derived.Test.YtkadkgbfdejjkaaMvD
set_option linter.unusedSimpArgs false
set_option linter.unusedVariables false
/- The facts of the types of this seat, each by computation. Printed by my program mkfacts.py. -/
namespace Go.Proofs.Mv.V.Ty
@[simp] theorem z0 : tsz Try.prog 0 = some 1 := by kernel_rfl
@[simp] theorem c0 : tcode Try.prog 0 = 10 := by kernel_rfl
@[simp] theorem i0 : tint Try.prog 0 = none := by kernel_rfl
@[simp] theorem q0 : tcomp Try.prog 0 = false := by kernel_rfl
@[simp] theorem y0 : tbyte Try.prog 0 = false := by kernel_rfl
@[simp] theorem z1 : tsz Try.prog 1 = some 1 := by kernel_rfl
@[simp] theorem c1 : tcode Try.prog 1 = 7 := by kernel_rfl
@[simp] theorem i1 : tint Try.prog 1 = none := by kernel_rfl
@[simp] theorem a1 : tagg Try.prog 1 = some false := by kernel_rfl
@[simp] theorem o1 : tzero Try.prog 1 = some [.nilFunc] := by kernel_rfl
@[simp] theorem q1 : tcomp Try.prog 1 = false := by kernel_rfl
@[simp] theorem y1 : tbyte Try.prog 1 = false := by kernel_rfl
@[simp] theorem z2 : tsz Try.prog 2 = some 1 := by kernel_rfl
@[simp] theorem c2 : tcode Try.prog 2 = 2 := by kernel_rfl
@[simp] theorem i2 : tint Try.prog 2 = some .i64 := by kernel_rfl
@[simp] theorem a2 : tagg Try.prog 2 = some false := by kernel_rfl
@[simp] theorem o2 : tzero Try.prog 2 = some [.int .i64 0] := by kernel_rfl
@[simp] theorem q2 : tcomp Try.prog 2 = true := by kernel_rfl
@[simp] theorem y2 : tbyte Try.prog 2 = false := by kernel_rfl
@[simp] theorem z3 : tsz Try.prog 3 = some 1 := by kernel_rfl
@[simp] theorem c3 : tcode Try.prog 3 = 2 := by kernel_rfl
@[simp] theorem i3 : tint Try.prog 3 = some .i64 := by kernel_rfl
@[simp] theorem a3 : tagg Try.prog 3 = some false := by kernel_rfl
@[simp] theorem o3 : tzero Try.prog 3 = some [.int .i64 0] := by kernel_rfl
@[simp] theorem q3 : tcomp Try.prog 3 = true := by kernel_rfl
@[simp] theorem y3 : tbyte Try.prog 3 = false := by kernel_rfl
@[simp] theorem z4 : tsz Try.prog 4 = some 1 := by kernel_rfl
@[simp] theorem c4 : tcode Try.prog 4 = 1 := by kernel_rfl
@[simp] theorem i4 : tint Try.prog 4 = none := by kernel_rfl
@[simp] theorem a4 : tagg Try.prog 4 = some false := by kernel_rfl
@[simp] theorem o4 : tzero Try.prog 4 = some [.bool false] := by kernel_rfl
@[simp] theorem q4 : tcomp Try.prog 4 = true := by kernel_rfl
@[simp] theorem y4 : tbyte Try.prog 4 = false := by kernel_rfl
@[simp] theorem z5 : tsz Try.prog 5 = some 1 := by kernel_rfl
@[simp] theorem c5 : tcode Try.prog 5 = 2 := by kernel_rfl
@[simp] theorem i5 : tint Try.prog 5 = some .u8 := by kernel_rfl
@[simp] theorem a5 : tagg Try.prog 5 = some false := by kernel_rfl
@[simp] theorem o5 : tzero Try.prog 5 = some [.int .u8 0] := by kernel_rfl
@[simp] theorem q5 : tcomp Try.prog 5 = true := by kernel_rfl
@[simp] theorem y5 : tbyte Try.prog 5 = false := by kernel_rfl
@[simp] theorem z9 : tsz Try.prog 9 = some 1 := by kernel_rfl
@[simp] theorem c9 : tcode Try.prog 9 = 3 := by kernel_rfl
@[simp] theorem i9 : tint Try.prog 9 = none := by kernel_rfl
@[simp] theorem a9 : tagg Try.prog 9 = some false := by kernel_rfl
@[simp] theorem o9 : tzero Try.prog 9 = some [.string (ofL [])] := by kernel_rfl
@[simp] theorem q9 : tcomp Try.prog 9 = true := by kernel_rfl
@[simp] theorem y9 : tbyte Try.prog 9 = false := by kernel_rfl
@[simp] theorem z12 : tsz Try.prog 12 = some 1 := by kernel_rfl
@[simp] theorem c12 : tcode Try.prog 12 = 2 := by kernel_rfl
@[simp] theorem i12 : tint Try.prog 12 = some .u64 := by kernel_rfl
@[simp] theorem a12 : tagg Try.prog 12 = some false := by kernel_rfl
@[simp] theorem o12 : tzero Try.prog 12 = some [.int .u64 0] := by kernel_rfl
@[simp] theorem q12 : tcomp Try.prog 12 = true := by kernel_rfl
@[simp] theorem y12 : tbyte Try.prog 12 = false := by kernel_rfl
@[simp] theorem z20 : tsz Try.prog 20 = some 1 := by kernel_rfl
@[simp] theorem c20 : tcode Try.prog 20 = 6 := by kernel_rfl
@[simp] theorem i20 : tint Try.prog 20 = none := by kernel_rfl
@[simp] theorem a20 : tagg Try.prog 20 = some false := by kernel_rfl
@[simp] theorem o20 : tzero Try.prog 20 = some [.nilIface] := by kernel_rfl
@[simp] theorem q20 : tcomp Try.prog 20 = true := by kernel_rfl
@[simp] theorem y20 : tbyte Try.prog 20 = false := by kernel_rfl
@[simp] theorem z21 : tsz Try.prog 21 = some 1 := by kernel_rfl
@[simp] theorem c21 : tcode Try.prog 21 = 2 := by kernel_rfl
@[simp] theorem i21 : tint Try.prog 21 = some .i32 := by kernel_rfl
@[simp] theorem a21 : tagg Try.prog 21 = some false := by kernel_rfl
@[simp] theorem o21 : tzero Try.prog 21 = some [.int .i32 0] := by kernel_rfl
@[simp] theorem q21 : tcomp Try.prog 21 = true := by kernel_rfl
@[simp] theorem y21 : tbyte Try.prog 21 = false := by kernel_rfl
@[simp] theorem z22 : tsz Try.prog 22 = some 1 := by kernel_rfl
@[simp] theorem c22 : tcode Try.prog 22 = 5 := by kernel_rfl
@[simp] theorem i22 : tint Try.prog 22 = none := by kernel_rfl
@[simp] theorem a22 : tagg Try.prog 22 = some false := by kernel_rfl
@[simp] theorem o22 : tzero Try.prog 22 = some [.slice none 0 0] := by kernel_rfl
@[simp] theorem q22 : tcomp Try.prog 22 = false := by kernel_rfl
@[simp] theorem e22 : telem Try.prog 22 = some (1, 1) := by kernel_rfl
@[simp] theorem w22 : tezero Try.prog 22 = some [.int .u8 0] := by kernel_rfl
@[simp] theorem y22 : tbyte Try.prog 22 = true := by kernel_rfl
@[simp] theorem z23 : tsz Try.prog 23 = some 1 := by kernel_rfl
@[simp] theorem c23 : tcode Try.prog 23 = 5 := by kernel_rfl
@[simp] theorem i23 : tint Try.prog 23 = none := by kernel_rfl
@[simp] theorem a23 : tagg Try.prog 23 = some false := by kernel_rfl
@[simp] theorem o23 : tzero Try.prog 23 = some [.slice none 0 0] := by kernel_rfl
@[simp] theorem q23 : tcomp Try.prog 23 = false := by kernel_rfl
@[simp] theorem e23 : telem Try.prog 23 = some (1, 24) := by kernel_rfl
@[simp] theorem w23 : tezero Try.prog 23 = some [.slice none 0 0] := by kernel_rfl
@[simp] theorem y23 : tbyte Try.prog 23 = false := by kernel_rfl
@[simp] theorem z24 : tsz Try.prog 24 = some 1 := by kernel_rfl
@[simp] theorem c24 : tcode Try.prog 24 = 7 := by kernel_rfl
@[simp] theorem i24 : tint Try.prog 24 = none := by kernel_rfl
@[simp] theorem a24 : tagg Try.prog 24 = some false := by kernel_rfl
@[simp] theorem o24 : tzero Try.prog 24 = some [.nilFunc] := by kernel_rfl
@[simp] theorem q24 : tcomp Try.prog 24 = false := by kernel_rfl
@[simp] theorem y24 : tbyte Try.prog 24 = false := by kernel_rfl
@[simp] theorem z25 : tsz Try.prog 25 = some 1 := by kernel_rfl
@[simp] theorem c25 : tcode Try.prog 25 = 4 := by kernel_rfl
@[simp] theorem i25 : tint Try.prog 25 = none := by kernel_rfl
@[simp] theorem a25 : tagg Try.prog 25 = some false := by kernel_rfl
@[simp] theorem o25 : tzero Try.prog 25 = some [.pointer none] := by kernel_rfl
@[simp] theorem q25 : tcomp Try.prog 25 = true := by kernel_rfl
@[simp] theorem y25 : tbyte Try.prog 25 = false := by kernel_rfl
@[simp] theorem z26 : tsz Try.prog 26 = some 1 := by kernel_rfl
@[simp] theorem c26 : tcode Try.prog 26 = 6 := by kernel_rfl
@[simp] theorem i26 : tint Try.prog 26 = none := by kernel_rfl
@[simp] theorem a26 : tagg Try.prog 26 = some false := by kernel_rfl
@[simp] theorem o26 : tzero Try.prog 26 = some [.nilIface] := by kernel_rfl
@[simp] theorem q26 : tcomp Try.prog 26 = true := by kernel_rfl
@[simp] theorem y26 : tbyte Try.prog 26 = false := by kernel_rfl
@[simp] theorem z27 : tsz Try.prog 27 = some 1 := by kernel_rfl
@[simp] theorem c27 : tcode Try.prog 27 = 6 := by kernel_rfl
@[simp] theorem i27 : tint Try.prog 27 = none := by kernel_rfl
@[simp] theorem a27 : tagg Try.prog 27 = some false := by kernel_rfl
@[simp] theorem o27 : tzero Try.prog 27 = some [.nilIface] := by kernel_rfl
@[simp] theorem q27 : tcomp Try.prog 27 = true := by kernel_rfl
@[simp] theorem y27 : tbyte Try.prog 27 = false := by kernel_rfl
@[simp] theorem z28 : tsz Try.prog 28 = some 1 := by kernel_rfl
@[simp] theorem c28 : tcode Try.prog 28 = 10 := by kernel_rfl
@[simp] theorem i28 : tint Try.prog 28 = none := by kernel_rfl
@[simp] theorem q28 : tcomp Try.prog 28 = false := by kernel_rfl
@[simp] theorem y28 : tbyte Try.prog 28 = false := by kernel_rfl
@[simp] theorem z29 : tsz Try.prog 29 = some 1 := by kernel_rfl
@[simp] theorem c29 : tcode Try.prog 29 = 7 := by kernel_rfl
@[simp] theorem i29 : tint Try.prog 29 = none := by kernel_rfl
@[simp] theorem a29 : tagg Try.prog 29 = some false := by kernel_rfl
@[simp] theorem o29 : tzero Try.prog 29 = some [.nilFunc] := by kernel_rfl
@[simp] theorem q29 : tcomp Try.prog 29 = false := by kernel_rfl
@[simp] theorem y29 : tbyte Try.prog 29 = false := by kernel_rfl
@[simp] theorem z30 : tsz Try.prog 30 = some 1 := by kernel_rfl
@[simp] theorem c30 : tcode Try.prog 30 = 2 := by kernel_rfl
@[simp] theorem i30 : tint Try.prog 30 = some .i64 := by kernel_rfl
@[simp] theorem a30 : tagg Try.prog 30 = some false := by kernel_rfl
@[simp] theorem o30 : tzero Try.prog 30 = some [.int .i64 0] := by kernel_rfl
@[simp] theorem q30 : tcomp Try.prog 30 = true := by kernel_rfl
@[simp] theorem y30 : tbyte Try.prog 30 = false := by kernel_rfl
@[simp] theorem z31 : tsz Try.prog 31 = some 1 := by kernel_rfl
@[simp] theorem c31 : tcode Try.prog 31 = 5 := by kernel_rfl
@[simp] theorem i31 : tint Try.prog 31 = none := by kernel_rfl
@[simp] theorem a31 : tagg Try.prog 31 = some false := by kernel_rfl
@[simp] theorem o31 : tzero Try.prog 31 = some [.slice none 0 0] := by kernel_rfl
@[simp] theorem q31 : tcomp Try.prog 31 = false := by kernel_rfl
@[simp] theorem e31 : telem Try.prog 31 = some (1, 16) := by kernel_rfl
@[simp] theorem w31 : tezero Try.prog 31 = some [.string (ofL [])] := by kernel_rfl
@[simp] theorem y31 : tbyte Try.prog 31 = false := by kernel_rfl
@[simp] theorem z32 : tsz Try.prog 32 = some 1 := by kernel_rfl
@[simp] theorem c32 : tcode Try.prog 32 = 10 := by kernel_rfl
@[simp] theorem i32 : tint Try.prog 32 = none := by kernel_rfl
@[simp] theorem q32 : tcomp Try.prog 32 = false := by kernel_rfl
@[simp] theorem y32 : tbyte Try.prog 32 = false := by kernel_rfl
@[simp] theorem z33 : tsz Try.prog 33 = some 1 := by kernel_rfl
@[simp] theorem c33 : tcode Try.prog 33 = 7 := by kernel_rfl
@[simp] theorem i33 : tint Try.prog 33 = none := by kernel_rfl
@[simp] theorem a33 : tagg Try.prog 33 = some false := by kernel_rfl
@[simp] theorem o33 : tzero Try.prog 33 = some [.nilFunc] := by kernel_rfl
@[simp] theorem q33 : tcomp Try.prog 33 = false := by kernel_rfl
@[simp] theorem y33 : tbyte Try.prog 33 = false := by kernel_rfl
@[simp] theorem z34 : tsz Try.prog 34 = some 1 := by kernel_rfl
@[simp] theorem c34 : tcode Try.prog 34 = 4 := by kernel_rfl
@[simp] theorem i34 : tint Try.prog 34 = none := by kernel_rfl
@[simp] theorem a34 : tagg Try.prog 34 = some false := by kernel_rfl
@[simp] theorem o34 : tzero Try.prog 34 = some [.pointer none] := by kernel_rfl
@[simp] theorem q34 : tcomp Try.prog 34 = true := by kernel_rfl
@[simp] theorem y34 : tbyte Try.prog 34 = false := by kernel_rfl
@[simp] theorem z35 : tsz Try.prog 35 = some 2 := by kernel_rfl
@[simp] theorem c35 : tcode Try.prog 35 = 8 := by kernel_rfl
@[simp] theorem i35 : tint Try.prog 35 = none := by kernel_rfl
@[simp] theorem a35 : tagg Try.prog 35 = some true := by kernel_rfl
@[simp] theorem o35 : tzero Try.prog 35 = some [.int .i64 0, .string (ofL [])] := by kernel_rfl
@[simp] theorem s35 : tsfl Try.prog 35 = some [(0, 3, false, 1), (1, 9, false, 1)] := by kernel_rfl
@[simp] theorem q35 : tcomp Try.prog 35 = true := by kernel_rfl
@[simp] theorem y35 : tbyte Try.prog 35 = false := by kernel_rfl
@[simp] theorem f35_0 : tfld Try.prog 35 0 = some (0, false, 1) := by kernel_rfl
@[simp] theorem f35_1 : tfld Try.prog 35 1 = some (1, false, 1) := by kernel_rfl
@[simp] theorem p35 : tplaces Try.prog 35 = some [(0, 1), (1, 1)] := by kernel_rfl
@[simp] theorem z36 : tsz Try.prog 36 = some 2 := by kernel_rfl
@[simp] theorem c36 : tcode Try.prog 36 = 8 := by kernel_rfl
@[simp] theorem i36 : tint Try.prog 36 = none := by kernel_rfl
@[simp] theorem a36 : tagg Try.prog 36 = some true := by kernel_rfl
@[simp] theorem o36 : tzero Try.prog 36 = some [.int .i64 0, .string (ofL [])] := by kernel_rfl
@[simp] theorem s36 : tsfl Try.prog 36 = some [(0, 3, false, 1), (1, 9, false, 1)] := by kernel_rfl
@[simp] theorem q36 : tcomp Try.prog 36 = true := by kernel_rfl
@[simp] theorem y36 : tbyte Try.prog 36 = false := by kernel_rfl
@[simp] theorem f36_0 : tfld Try.prog 36 0 = some (0, false, 1) := by kernel_rfl
@[simp] theorem f36_1 : tfld Try.prog 36 1 = some (1, false, 1) := by kernel_rfl
@[simp] theorem p36 : tplaces Try.prog 36 = some [(0, 1), (1, 1)] := by kernel_rfl
@[simp] theorem z37 : tsz Try.prog 37 = some 1 := by kernel_rfl
@[simp] theorem c37 : tcode Try.prog 37 = 10 := by kernel_rfl
@[simp] theorem i37 : tint Try.prog 37 = none := by kernel_rfl
@[simp] theorem q37 : tcomp Try.prog 37 = false := by kernel_rfl
@[simp] theorem y37 : tbyte Try.prog 37 = false := by kernel_rfl
@[simp] theorem z38 : tsz Try.prog 38 = some 1 := by kernel_rfl
@[simp] theorem c38 : tcode Try.prog 38 = 7 := by kernel_rfl
@[simp] theorem i38 : tint Try.prog 38 = none := by kernel_rfl
@[simp] theorem a38 : tagg Try.prog 38 = some false := by kernel_rfl
@[simp] theorem o38 : tzero Try.prog 38 = some [.nilFunc] := by kernel_rfl
@[simp] theorem q38 : tcomp Try.prog 38 = false := by kernel_rfl
@[simp] theorem y38 : tbyte Try.prog 38 = false := by kernel_rfl
@[simp] theorem z39 : tsz Try.prog 39 = some 1 := by kernel_rfl
@[simp] theorem c39 : tcode Try.prog 39 = 7 := by kernel_rfl
@[simp] theorem i39 : tint Try.prog 39 = none := by kernel_rfl
@[simp] theorem a39 : tagg Try.prog 39 = some false := by kernel_rfl
@[simp] theorem o39 : tzero Try.prog 39 = some [.nilFunc] := by kernel_rfl
@[simp] theorem q39 : tcomp Try.prog 39 = false := by kernel_rfl
@[simp] theorem y39 : tbyte Try.prog 39 = false := by kernel_rfl
@[simp] theorem z40 : tsz Try.prog 40 = some 1 := by kernel_rfl
@[simp] theorem c40 : tcode Try.prog 40 = 7 := by kernel_rfl
@[simp] theorem i40 : tint Try.prog 40 = none := by kernel_rfl
@[simp] theorem a40 : tagg Try.prog 40 = some false := by kernel_rfl
@[simp] theorem o40 : tzero Try.prog 40 = some [.nilFunc] := by kernel_rfl
@[simp] theorem q40 : tcomp Try.prog 40 = false := by kernel_rfl
@[simp] theorem y40 : tbyte Try.prog 40 = false := by kernel_rfl
@[simp] theorem z41 : tsz Try.prog 41 = some 1 := by kernel_rfl
@[simp] theorem c41 : tcode Try.prog 41 = 7 := by kernel_rfl
@[simp] theorem i41 : tint Try.prog 41 = none := by kernel_rfl
@[simp] theorem a41 : tagg Try.prog 41 = some false := by kernel_rfl
@[simp] theorem o41 : tzero Try.prog 41 = some [.nilFunc] := by kernel_rfl
@[simp] theorem q41 : tcomp Try.prog 41 = false := by kernel_rfl
@[simp] theorem y41 : tbyte Try.prog 41 = false := by kernel_rfl
@[simp] theorem z42 : tsz Try.prog 42 = some 1 := by kernel_rfl
@[simp] theorem c42 : tcode Try.prog 42 = 7 := by kernel_rfl
@[simp] theorem i42 : tint Try.prog 42 = none := by kernel_rfl
@[simp] theorem a42 : tagg Try.prog 42 = some false := by kernel_rfl
@[simp] theorem o42 : tzero Try.prog 42 = some [.nilFunc] := by kernel_rfl
@[simp] theorem q42 : tcomp Try.prog 42 = false := by kernel_rfl
@[simp] theorem y42 : tbyte Try.prog 42 = false := by kernel_rfl
@[simp] theorem z43 : tsz Try.prog 43 = some 1 := by kernel_rfl
@[simp] theorem c43 : tcode Try.prog 43 = 7 := by kernel_rfl
@[simp] theorem i43 : tint Try.prog 43 = none := by kernel_rfl
@[simp] theorem a43 : tagg Try.prog 43 = some false := by kernel_rfl
@[simp] theorem o43 : tzero Try.prog 43 = some [.nilFunc] := by kernel_rfl
@[simp] theorem q43 : tcomp Try.prog 43 = false := by kernel_rfl
@[simp] theorem y43 : tbyte Try.prog 43 = false := by kernel_rfl
@[simp] theorem z44 : tsz Try.prog 44 = some 1 := by kernel_rfl
@[simp] theorem c44 : tcode Try.prog 44 = 7 := by kernel_rfl
@[simp] theorem i44 : tint Try.prog 44 = none := by kernel_rfl
@[simp] theorem a44 : tagg Try.prog 44 = some false := by kernel_rfl
@[simp] theorem o44 : tzero Try.prog 44 = some [.nilFunc] := by kernel_rfl
@[simp] theorem q44 : tcomp Try.prog 44 = false := by kernel_rfl
@[simp] theorem y44 : tbyte Try.prog 44 = false := by kernel_rfl
@[simp] theorem z45 : tsz Try.prog 45 = some 1 := by kernel_rfl
@[simp] theorem c45 : tcode Try.prog 45 = 7 := by kernel_rfl
@[simp] theorem i45 : tint Try.prog 45 = none := by kernel_rfl
@[simp] theorem a45 : tagg Try.prog 45 = some false := by kernel_rfl
@[simp] theorem o45 : tzero Try.prog 45 = some [.nilFunc] := by kernel_rfl
@[simp] theorem q45 : tcomp Try.prog 45 = false := by kernel_rfl
@[simp] theorem y45 : tbyte Try.prog 45 = false := by kernel_rfl
@[simp] theorem z46 : tsz Try.prog 46 = some 1 := by kernel_rfl
@[simp] theorem c46 : tcode Try.prog 46 = 7 := by kernel_rfl
@[simp] theorem i46 : tint Try.prog 46 = none := by kernel_rfl
@[simp] theorem a46 : tagg Try.prog 46 = some false := by kernel_rfl
@[simp] theorem o46 : tzero Try.prog 46 = some [.nilFunc] := by kernel_rfl
@[simp] theorem q46 : tcomp Try.prog 46 = false := by kernel_rfl
@[simp] theorem y46 : tbyte Try.prog 46 = false := by kernel_rfl
@[simp] theorem z47 : tsz Try.prog 47 = some 1 := by kernel_rfl
@[simp] theorem c47 : tcode Try.prog 47 = 7 := by kernel_rfl
@[simp] theorem i47 : tint Try.prog 47 = none := by kernel_rfl
@[simp] theorem a47 : tagg Try.prog 47 = some false := by kernel_rfl
@[simp] theorem o47 : tzero Try.prog 47 = some [.nilFunc] := by kernel_rfl
@[simp] theorem q47 : tcomp Try.prog 47 = false := by kernel_rfl
@[simp] theorem y47 : tbyte Try.prog 47 = false := by kernel_rfl
@[simp] theorem z48 : tsz Try.prog 48 = some 1 := by kernel_rfl
@[simp] theorem c48 : tcode Try.prog 48 = 7 := by kernel_rfl
@[simp] theorem i48 : tint Try.prog 48 = none := by kernel_rfl
@[simp] theorem a48 : tagg Try.prog 48 = some false := by kernel_rfl
@[simp] theorem o48 : tzero Try.prog 48 = some [.nilFunc] := by kernel_rfl
@[simp] theorem q48 : tcomp Try.prog 48 = false := by kernel_rfl
@[simp] theorem y48 : tbyte Try.prog 48 = false := by kernel_rfl
@[simp] theorem z49 : tsz Try.prog 49 = some 3 := by kernel_rfl
@[simp] theorem c49 : tcode Try.prog 49 = 8 := by kernel_rfl
@[simp] theorem i49 : tint Try.prog 49 = none := by kernel_rfl
@[simp] theorem a49 : tagg Try.prog 49 = some true := by kernel_rfl
@[simp] theorem o49 : tzero Try.prog 49 = some [.int .i64 0, .slice none 0 0, .slice none 0 0] := by kernel_rfl
@[simp] theorem q49 : tcomp Try.prog 49 = false := by kernel_rfl
@[simp] theorem y49 : tbyte Try.prog 49 = false := by kernel_rfl
@[simp] theorem f49_0 : tfld Try.prog 49 0 = some (0, false, 1) := by kernel_rfl
@[simp] theorem f49_1 : tfld Try.prog 49 1 = some (1, false, 1) := by kernel_rfl
@[simp] theorem f49_2 : tfld Try.prog 49 2 = some (2, false, 1) := by kernel_rfl
@[simp] theorem p49 : tplaces Try.prog 49 = some [(0, 1), (1, 1), (2, 1)] := by kernel_rfl
@[simp] theorem z50 : tsz Try.prog 50 = some 3 := by kernel_rfl
@[simp] theorem c50 : tcode Try.prog 50 = 8 := by kernel_rfl
@[simp] theorem i50 : tint Try.prog 50 = none := by kernel_rfl
@[simp] theorem a50 : tagg Try.prog 50 = some true := by kernel_rfl
@[simp] theorem o50 : tzero Try.prog 50 = some [.int .i64 0, .slice none 0 0, .slice none 0 0] := by kernel_rfl
@[simp] theorem q50 : tcomp Try.prog 50 = false := by kernel_rfl
@[simp] theorem y50 : tbyte Try.prog 50 = false := by kernel_rfl
@[simp] theorem f50_0 : tfld Try.prog 50 0 = some (0, false, 1) := by kernel_rfl
@[simp] theorem f50_1 : tfld Try.prog 50 1 = some (1, false, 1) := by kernel_rfl
@[simp] theorem f50_2 : tfld Try.prog 50 2 = some (2, false, 1) := by kernel_rfl
@[simp] theorem p50 : tplaces Try.prog 50 = some [(0, 1), (1, 1), (2, 1)] := by kernel_rfl
@[simp] theorem z51 : tsz Try.prog 51 = some 1 := by kernel_rfl
@[simp] theorem c51 : tcode Try.prog 51 = 7 := by kernel_rfl
@[simp] theorem i51 : tint Try.prog 51 = none := by kernel_rfl
@[simp] theorem a51 : tagg Try.prog 51 = some false := by kernel_rfl
@[simp] theorem o51 : tzero Try.prog 51 = some [.nilFunc] := by kernel_rfl
@[simp] theorem q51 : tcomp Try.prog 51 = false := by kernel_rfl
@[simp] theorem y51 : tbyte Try.prog 51 = false := by kernel_rfl
@[simp] theorem z52 : tsz Try.prog 52 = some 1 := by kernel_rfl
@[simp] theorem c52 : tcode Try.prog 52 = 7 := by kernel_rfl
@[simp] theorem i52 : tint Try.prog 52 = none := by kernel_rfl
@[simp] theorem a52 : tagg Try.prog 52 = some false := by kernel_rfl
@[simp] theorem o52 : tzero Try.prog 52 = some [.nilFunc] := by kernel_rfl
@[simp] theorem q52 : tcomp Try.prog 52 = false := by kernel_rfl
@[simp] theorem y52 : tbyte Try.prog 52 = false := by kernel_rfl
@[simp] theorem z53 : tsz Try.prog 53 = some 1 := by kernel_rfl
@[simp] theorem c53 : tcode Try.prog 53 = 7 := by kernel_rfl
@[simp] theorem i53 : tint Try.prog 53 = none := by kernel_rfl
@[simp] theorem a53 : tagg Try.prog 53 = some false := by kernel_rfl
@[simp] theorem o53 : tzero Try.prog 53 = some [.nilFunc] := by kernel_rfl
@[simp] theorem q53 : tcomp Try.prog 53 = false := by kernel_rfl
@[simp] theorem y53 : tbyte Try.prog 53 = false := by kernel_rfl
@[simp] theorem z54 : tsz Try.prog 54 = some 1 := by kernel_rfl
@[simp] theorem c54 : tcode Try.prog 54 = 7 := by kernel_rfl
@[simp] theorem i54 : tint Try.prog 54 = none := by kernel_rfl
@[simp] theorem a54 : tagg Try.prog 54 = some false := by kernel_rfl
@[simp] theorem o54 : tzero Try.prog 54 = some [.nilFunc] := by kernel_rfl
@[simp] theorem q54 : tcomp Try.prog 54 = false := by kernel_rfl
@[simp] theorem y54 : tbyte Try.prog 54 = false := by kernel_rfl
@[simp] theorem z55 : tsz Try.prog 55 = some 1 := by kernel_rfl
@[simp] theorem c55 : tcode Try.prog 55 = 2 := by kernel_rfl
@[simp] theorem i55 : tint Try.prog 55 = some .u64 := by kernel_rfl
@[simp] theorem a55 : tagg Try.prog 55 = some false := by kernel_rfl
@[simp] theorem o55 : tzero Try.prog 55 = some [.int .u64 0] := by kernel_rfl
@[simp] theorem q55 : tcomp Try.prog 55 = true := by kernel_rfl
@[simp] theorem y55 : tbyte Try.prog 55 = false := by kernel_rfl
@[simp] theorem z56 : tsz Try.prog 56 = some 1 := by kernel_rfl
@[simp] theorem c56 : tcode Try.prog 56 = 7 := by kernel_rfl
@[simp] theorem i56 : tint Try.prog 56 = none := by kernel_rfl
@[simp] theorem a56 : tagg Try.prog 56 = some false := by kernel_rfl
@[simp] theorem o56 : tzero Try.prog 56 = some [.nilFunc] := by kernel_rfl
@[simp] theorem q56 : tcomp Try.prog 56 = false := by kernel_rfl
@[simp] theorem y56 : tbyte Try.prog 56 = false := by kernel_rfl
@[simp] theorem z57 : tsz Try.prog 57 = some 1 := by kernel_rfl
@[simp] theorem c57 : tcode Try.prog 57 = 7 := by kernel_rfl
@[simp] theorem i57 : tint Try.prog 57 = none := by kernel_rfl
@[simp] theorem a57 : tagg Try.prog 57 = some false := by kernel_rfl
@[simp] theorem o57 : tzero Try.prog 57 = some [.nilFunc] := by kernel_rfl
@[simp] theorem q57 : tcomp Try.prog 57 = false := by kernel_rfl
@[simp] theorem y57 : tbyte Try.prog 57 = false := by kernel_rfl
@[simp] theorem z58 : tsz Try.prog 58 = some 4 := by kernel_rfl
@[simp] theorem c58 : tcode Try.prog 58 = 8 := by kernel_rfl
@[simp] theorem i58 : tint Try.prog 58 = none := by kernel_rfl
@[simp] theorem a58 : tagg Try.prog 58 = some true := by kernel_rfl
@[simp] theorem o58 : tzero Try.prog 58 = some [.pointer none, .pointer none, .pointer none, .string (ofL [])] := by kernel_rfl
@[simp] theorem q58 : tcomp Try.prog 58 = true := by kernel_rfl
@[simp] theorem y58 : tbyte Try.prog 58 = false := by kernel_rfl
@[simp] theorem f58_0 : tfld Try.prog 58 0 = some (0, false, 1) := by kernel_rfl
@[simp] theorem f58_1 : tfld Try.prog 58 1 = some (1, false, 1) := by kernel_rfl
@[simp] theorem f58_2 : tfld Try.prog 58 2 = some (2, false, 1) := by kernel_rfl
@[simp] theorem f58_3 : tfld Try.prog 58 3 = some (3, false, 1) := by kernel_rfl
@[simp] theorem p58 : tplaces Try.prog 58 = some [(0, 1), (1, 1), (2, 1), (3, 1)] := by kernel_rfl
@[simp] theorem z59 : tsz Try.prog 59 = some 4 := by kernel_rfl
@[simp] theorem c59 : tcode Try.prog 59 = 8 := by kernel_rfl
@[simp] theorem i59 : tint Try.prog 59 = none := by kernel_rfl
@[simp] theorem a59 : tagg Try.prog 59 = some true := by kernel_rfl
@[simp] theorem o59 : tzero Try.prog 59 = some [.pointer none, .pointer none, .pointer none, .string (ofL [])] := by kernel_rfl
@[simp] theorem q59 : tcomp Try.prog 59 = true := by kernel_rfl
@[simp] theorem y59 : tbyte Try.prog 59 = false := by kernel_rfl
@[simp] theorem f59_0 : tfld Try.prog 59 0 = some (0, false, 1) := by kernel_rfl
@[simp] theorem f59_1 : tfld Try.prog 59 1 = some (1, false, 1) := by kernel_rfl
@[simp] theorem f59_2 : tfld Try.prog 59 2 = some (2, false, 1) := by kernel_rfl
@[simp] theorem f59_3 : tfld Try.prog 59 3 = some (3, false, 1) := by kernel_rfl
@[simp] theorem p59 : tplaces Try.prog 59 = some [(0, 1), (1, 1), (2, 1), (3, 1)] := by kernel_rfl
@[simp] theorem z60 : tsz Try.prog 60 = some 0 := by kernel_rfl
@[simp] theorem c60 : tcode Try.prog 60 = 9 := by kernel_rfl
@[simp] theorem i60 : tint Try.prog 60 = none := by kernel_rfl
@[simp] theorem a60 : tagg Try.prog 60 = some true := by kernel_rfl
@[simp] theorem o60 : tzero Try.prog 60 = some [] := by kernel_rfl
@[simp] theorem q60 : tcomp Try.prog 60 = true := by kernel_rfl
@[simp] theorem y60 : tbyte Try.prog 60 = false := by kernel_rfl
@[simp] theorem z61 : tsz Try.prog 61 = some 0 := by kernel_rfl
@[simp] theorem c61 : tcode Try.prog 61 = 8 := by kernel_rfl
@[simp] theorem i61 : tint Try.prog 61 = none := by kernel_rfl
@[simp] theorem a61 : tagg Try.prog 61 = some true := by kernel_rfl
@[simp] theorem o61 : tzero Try.prog 61 = some [] := by kernel_rfl
@[simp] theorem q61 : tcomp Try.prog 61 = true := by kernel_rfl
@[simp] theorem y61 : tbyte Try.prog 61 = false := by kernel_rfl
@[simp] theorem p61 : tplaces Try.prog 61 = some [(0, 0)] := by kernel_rfl
@[simp] theorem z62 : tsz Try.prog 62 = some 0 := by kernel_rfl
@[simp] theorem c62 : tcode Try.prog 62 = 8 := by kernel_rfl
@[simp] theorem i62 : tint Try.prog 62 = none := by kernel_rfl
@[simp] theorem a62 : tagg Try.prog 62 = some true := by kernel_rfl
@[simp] theorem o62 : tzero Try.prog 62 = some [] := by kernel_rfl
@[simp] theorem q62 : tcomp Try.prog 62 = true := by kernel_rfl
@[simp] theorem y62 : tbyte Try.prog 62 = false := by kernel_rfl
@[simp] theorem p62 : tplaces Try.prog 62 = some [(0, 0)] := by kernel_rfl
@[simp] theorem z63 : tsz Try.prog 63 = some 1 := by kernel_rfl
@[simp] theorem c63 : tcode Try.prog 63 = 2 := by kernel_rfl
@[simp] theorem i63 : tint Try.prog 63 = some .u32 := by kernel_rfl
@[simp] theorem a63 : tagg Try.prog 63 = some false := by kernel_rfl
@[simp] theorem o63 : tzero Try.prog 63 = some [.int .u32 0] := by kernel_rfl
@[simp] theorem q63 : tcomp Try.prog 63 = true := by kernel_rfl
@[simp] theorem y63 : tbyte Try.prog 63 = false := by kernel_rfl
@[simp] theorem z64 : tsz Try.prog 64 = some 1 := by kernel_rfl
@[simp] theorem c64 : tcode Try.prog 64 = 2 := by kernel_rfl
@[simp] theorem i64 : tint Try.prog 64 = some .u8 := by kernel_rfl
@[simp] theorem a64 : tagg Try.prog 64 = some false := by kernel_rfl
@[simp] theorem o64 : tzero Try.prog 64 = some [.int .u8 0] := by kernel_rfl
@[simp] theorem q64 : tcomp Try.prog 64 = true := by kernel_rfl
@[simp] theorem y64 : tbyte Try.prog 64 = false := by kernel_rfl
@[simp] theorem z65 : tsz Try.prog 65 = some 1 := by kernel_rfl
@[simp] theorem c65 : tcode Try.prog 65 = 2 := by kernel_rfl
@[simp] theorem i65 : tint Try.prog 65 = some .u8 := by kernel_rfl
@[simp] theorem a65 : tagg Try.prog 65 = some false := by kernel_rfl
@[simp] theorem o65 : tzero Try.prog 65 = some [.int .u8 0] := by kernel_rfl
@[simp] theorem q65 : tcomp Try.prog 65 = true := by kernel_rfl
@[simp] theorem y65 : tbyte Try.prog 65 = false := by kernel_rfl
@[simp] theorem z66 : tsz Try.prog 66 = some 1 := by kernel_rfl
@[simp] theorem c66 : tcode Try.prog 66 = 7 := by kernel_rfl
@[simp] theorem i66 : tint Try.prog 66 = none := by kernel_rfl
@[simp] theorem a66 : tagg Try.prog 66 = some false := by kernel_rfl
@[simp] theorem o66 : tzero Try.prog 66 = some [.nilFunc] := by kernel_rfl
@[simp] theorem q66 : tcomp Try.prog 66 = false := by kernel_rfl
@[simp] theorem y66 : tbyte Try.prog 66 = false := by kernel_rfl
@[simp] theorem z67 : tsz Try.prog 67 = some 1 := by kernel_rfl
@[simp] theorem c67 : tcode Try.prog 67 = 4 := by kernel_rfl
@[simp] theorem i67 : tint Try.prog 67 = none := by kernel_rfl
@[simp] theorem a67 : tagg Try.prog 67 = some false := by kernel_rfl
@[simp] theorem o67 : tzero Try.prog 67 = some [.pointer none] := by kernel_rfl
@[simp] theorem q67 : tcomp Try.prog 67 = true := by kernel_rfl
@[simp] theorem y67 : tbyte Try.prog 67 = false := by kernel_rfl
@[simp] theorem z68 : tsz Try.prog 68 = some 1 := by kernel_rfl
@[simp] theorem c68 : tcode Try.prog 68 = 2 := by kernel_rfl
@[simp] theorem i68 : tint Try.prog 68 = some .i32 := by kernel_rfl
@[simp] theorem a68 : tagg Try.prog 68 = some false := by kernel_rfl
@[simp] theorem o68 : tzero Try.prog 68 = some [.int .i32 0] := by kernel_rfl
@[simp] theorem q68 : tcomp Try.prog 68 = true := by kernel_rfl
@[simp] theorem y68 : tbyte Try.prog 68 = false := by kernel_rfl
@[simp] theorem z69 : tsz Try.prog 69 = some 1 := by kernel_rfl
@[simp] theorem c69 : tcode Try.prog 69 = 2 := by kernel_rfl
@[simp] theorem i69 : tint Try.prog 69 = some .i32 := by kernel_rfl
@[simp] theorem a69 : tagg Try.prog 69 = some false := by kernel_rfl
@[simp] theorem o69 : tzero Try.prog 69 = some [.int .i32 0] := by kernel_rfl
@[simp] theorem q69 : tcomp Try.prog 69 = true := by kernel_rfl
@[simp] theorem y69 : tbyte Try.prog 69 = false := by kernel_rfl
@[simp] theorem z70 : tsz Try.prog 70 = some 11 := by kernel_rfl
@[simp] theorem c70 : tcode Try.prog 70 = 8 := by kernel_rfl
@[simp] theorem i70 : tint Try.prog 70 = none := by kernel_rfl
@[simp] theorem a70 : tagg Try.prog 70 = some true := by kernel_rfl
@[simp] theorem o70 : tzero Try.prog 70 = some [.int .u64 0, .int .u64 0, .int .u32 0, .int .u8 0, .int .u8 0, .int .u8 0, .int .u8 0, .nilFunc, .pointer none, .int .i32 0, .int .i32 0] := by kernel_rfl
@[simp] theorem q70 : tcomp Try.prog 70 = false := by kernel_rfl
@[simp] theorem y70 : tbyte Try.prog 70 = false := by kernel_rfl
@[simp] theorem f70_0 : tfld Try.prog 70 0 = some (0, false, 1) := by kernel_rfl
@[simp] theorem f70_1 : tfld Try.prog 70 1 = some (1, false, 1) := by kernel_rfl
@[simp] theorem f70_2 : tfld Try.prog 70 2 = some (2, false, 1) := by kernel_rfl
@[simp] theorem f70_3 : tfld Try.prog 70 3 = some (3, false, 1) := by kernel_rfl
@[simp] theorem f70_4 : tfld Try.prog 70 4 = some (4, false, 1) := by kernel_rfl
@[simp] theorem f70_5 : tfld Try.prog 70 5 = some (5, false, 1) := by kernel_rfl
@[simp] theorem f70_6 : tfld Try.prog 70 6 = some (6, false, 1) := by kernel_rfl
@[simp] theorem f70_7 : tfld Try.prog 70 7 = some (7, false, 1) := by kernel_rfl
@[simp] theorem f70_8 : tfld Try.prog 70 8 = some (8, false, 1) := by kernel_rfl
@[simp] theorem f70_9 : tfld Try.prog 70 9 = some (9, false, 1) := by kernel_rfl
@[simp] theorem f70_10 : tfld Try.prog 70 10 = some (10, false, 1) := by kernel_rfl
@[simp] theorem p70 : tplaces Try.prog 70 = some [(0, 1), (1, 1), (2, 1), (3, 1), (4, 1), (5, 1), (6, 1), (7, 1), (8, 1), (9, 1), (10, 1)] := by kernel_rfl
@[simp] theorem z71 : tsz Try.prog 71 = some 11 := by kernel_rfl
@[simp] theorem c71 : tcode Try.prog 71 = 8 := by kernel_rfl
@[simp] theorem i71 : tint Try.prog 71 = none := by kernel_rfl
@[simp] theorem a71 : tagg Try.prog 71 = some true := by kernel_rfl
@[simp] theorem o71 : tzero Try.prog 71 = some [.int .u64 0, .int .u64 0, .int .u32 0, .int .u8 0, .int .u8 0, .int .u8 0, .int .u8 0, .nilFunc, .pointer none, .int .i32 0, .int .i32 0] := by kernel_rfl
@[simp] theorem q71 : tcomp Try.prog 71 = false := by kernel_rfl
@[simp] theorem y71 : tbyte Try.prog 71 = false := by kernel_rfl
@[simp] theorem f71_0 : tfld Try.prog 71 0 = some (0, false, 1) := by kernel_rfl
@[simp] theorem f71_1 : tfld Try.prog 71 1 = some (1, false, 1) := by kernel_rfl
@[simp] theorem f71_2 : tfld Try.prog 71 2 = some (2, false, 1) := by kernel_rfl
@[simp] theorem f71_3 : tfld Try.prog 71 3 = some (3, false, 1) := by kernel_rfl
@[simp] theorem f71_4 : tfld Try.prog 71 4 = some (4, false, 1) := by kernel_rfl
@[simp] theorem f71_5 : tfld Try.prog 71 5 = some (5, false, 1) := by kernel_rfl
@[simp] theorem f71_6 : tfld Try.prog 71 6 = some (6, false, 1) := by kernel_rfl
@[simp] theorem f71_7 : tfld Try.prog 71 7 = some (7, false, 1) := by kernel_rfl
@[simp] theorem f71_8 : tfld Try.prog 71 8 = some (8, false, 1) := by kernel_rfl
@[simp] theorem f71_9 : tfld Try.prog 71 9 = some (9, false, 1) := by kernel_rfl
@[simp] theorem f71_10 : tfld Try.prog 71 10 = some (10, false, 1) := by kernel_rfl
@[simp] theorem p71 : tplaces Try.prog 71 = some [(0, 1), (1, 1), (2, 1), (3, 1), (4, 1), (5, 1), (6, 1), (7, 1), (8, 1), (9, 1), (10, 1)] := by kernel_rfl
@[simp] theorem z72 : tsz Try.prog 72 = some 1 := by kernel_rfl
@[simp] theorem c72 : tcode Try.prog 72 = 10 := by kernel_rfl
@[simp] theorem i72 : tint Try.prog 72 = none := by kernel_rfl
@[simp] theorem o72 : tzero Try.prog 72 = some [.pointer none] := by kernel_rfl
@[simp] theorem q72 : tcomp Try.prog 72 = true := by kernel_rfl
@[simp] theorem y72 : tbyte Try.prog 72 = false := by kernel_rfl
end Go.Proofs.Mv.V.Ty
