/-
  What the points of some functions' code need: written by a program (wip/tel/GenW.lean.txt).
-/
import Derived.Test.YtcmeadgdojfhnaaGreatDoorTab
import Derived.Test.YtcmeadgdojfhnaaGreatDoorWvG
set_option linter.unusedSimpArgs false
set_option linter.unusedVariables false
namespace Go.Proofs.YtcmeadgdojfhnaaGreatDoor
open Go.Tel
set_option linter.all false
set_option maxRecDepth 100000
set_option maxHeartbeats 4000000
noncomputable section
def lv3 : Nat → List Nat := ln [[],[0,1,2],[1,2,7,8,9],[1,2,7,8,9,10],[1,2,7,9,10,11],[1,2,7,9,10,11,12],[1,2,7,9,10,11,12],[1,2,7,9,10,11,12],[1,2,7,9,10,11,12,35],[1,2,7,9,10],[7,9,13,14]]
abbrev P3_0 := k3 env 3 Tryz.f3 1 0 1 2
abbrev P3_1 := k7 env 3 Tryz.f3 250 1 2 7 9 10 11 12
abbrev P3_2 := k7 env 3 Tryz.f3 1001 1 2 7 9 10 11 12
abbrev P3_3 := k5 env 3 Tryz.f3 63 1 2 7 9 10
abbrev P3_4 := k7 env 3 Tryz.f3 2003 1 2 7 9 10 11 12
def lv4 : Nat → List Nat := ln [[],[0],[0,5,6],[0,5,6,11],[0,5,6],[0,5,6,7],[0,5,6,7],[0,5,6,7],[0,5,6,7,31],[5,6]]
abbrev P4_0 := k1 env 4 Tryz.f4 1 0
abbrev P4_1 := k3 env 4 Tryz.f4 15 0 5 6
abbrev P4_2 := k4 env 4 Tryz.f4 122 0 5 6 7
abbrev P4_3 := k4 env 4 Tryz.f4 489 0 5 6 7
abbrev P4_4 := k2 env 4 Tryz.f4 31 5 6
abbrev P4_5 := k4 env 4 Tryz.f4 979 0 5 6 7
def lv5 : Nat → List Nat := ln [[],[0]]
abbrev P5_0 := k1 env 5 Tryz.f5 1 0
def lv20 : Nat → List Nat := ln [[],[0,1],[0,1,5],[0,1,5,6],[0,1,5,6],[0,1,5,6],[0,1,5,6,7],[0,1,5,6,7,31],[0,1,5,6,7,8],[0,1,5,6,7,8,9],[0,1,5,6,7,8,9],[0,1,5,6,7,8,9],[0,1,5,6,7,8,9,43],[0,1,5,6,7,8],[0,1,5,6,7,10],[0,1,5,6,7,10],[0,1,5,6,7,10,11],[0,1,5,6,7,10,11],[0,1,5,6,7,10,11],[0,1,5,6,7],[0,1,5,6,7,86],[0,1,5,6,7],[1]]
abbrev P20_0 := k2 env 20 Tryz.f20 1 0 1
abbrev P20_1 := k4 env 20 Tryz.f20 58 0 1 5 6
abbrev P20_2 := k4 env 20 Tryz.f20 233 0 1 5 6
abbrev P20_3 := k1 env 20 Tryz.f20 15 1
abbrev P20_4 := k7 env 20 Tryz.f20 238762 0 1 5 6 7 8 9
abbrev P20_5 := k5 env 20 Tryz.f20 3731 0 1 5 6 7
abbrev P20_6 := k7 env 20 Tryz.f20 955049 0 1 5 6 7 8 9
abbrev P20_7 := k6 env 20 Tryz.f20 59691 0 1 5 6 7 8
abbrev P20_8 := k5 env 20 Tryz.f20 7463 0 1 5 6 7
abbrev P20_9 := k7 env 20 Tryz.f20 1910099 0 1 5 6 7 8 9
abbrev P20_10 := k7 env 20 Tryz.f20 955070 0 1 5 6 7 10 11
abbrev P20_11 := k4 env 20 Tryz.f20 467 0 1 5 6
abbrev P20_12 := k7 env 20 Tryz.f20 3820281 0 1 5 6 7 10 11
abbrev P20_13 := k7 env 20 Tryz.f20 7640563 0 1 5 6 7 10 11
def lv21 : Nat → List Nat := ln [[],[0]]
abbrev P21_0 := k1 env 21 Tryz.f21 1 0
def lv7 : Nat → List Nat := ln [[],[0,1],[0,1],[0,1,9],[0]]
abbrev P7_0 := k2 env 7 Tryz.f7 1 0 1
abbrev P7_1 := k1 env 7 Tryz.f7 15 0
def lv39 : Nat → List Nat := ln [[],[0,1],[0,1,14],[0,1],[0,1]]
abbrev P39_0 := k2 env 39 Tryz.f39 1 0 1
abbrev P39_1 := k2 env 39 Tryz.f39 7 0 1
def lv40 : Nat → List Nat := ln [[],[0,1,2,3,8],[0,1,2,3,8,9],[0,1,2,3,8,9,12],[],[0,1,2,3,8,9,23],[],[0,1,2,3,8,32],[0,1,2,8]]
abbrev P40_0 := k4 env 40 Tryz.f40 1 0 1 2 3
abbrev P40_1 := k4 env 40 Tryz.f40 7 0 1 2 8
def lv65 : Nat → List Nat := ln [[],[0,1,2,3,8],[0,1,2,3,8,9],[0,1,2,3,8,9,19],[0,1,2,3,8,9],[0,1,2,3,8,10],[0,1,2,3,8,10,11],[0,1,2,3,8,10,11,12],[0,1,2,3,8,10,11,12],[0,1,2,3,8,10,11,12],[8,11]]
abbrev P65_0 := k4 env 65 Tryz.f65 1 0 1 2 3
abbrev P65_1 := k6 env 65 Tryz.f65 15 0 1 2 3 8 9
abbrev P65_2 := k8 env 65 Tryz.f65 506 0 1 2 3 8 10 11 12
abbrev P65_3 := k8 env 65 Tryz.f65 2025 0 1 2 3 8 10 11 12
abbrev P65_4 := k2 env 65 Tryz.f65 127 8 11
abbrev P65_5 := k8 env 65 Tryz.f65 4051 0 1 2 3 8 10 11 12
def lv66 : Nat → List Nat := ln [[],[0,1,2,3,8],[0,1,2,3,8,9],[0,1,2,3,8,9,21],[0,1,2,3,8,9],[0,1,2,3,8,22],[0,1,2,3,8,22,23],[0,1,2,3,8,22,23],[],[0,1,2,3,8,22,32],[],[0,1,2,3,8,22,35],[0,1,2,3,8,22,35],[0,1,2,3,8,39],[0,1,2,3,8],[],[0,1,2,3,8,22,49],[0,1,2,3,8,22,49],[0,1,2,3,8,22,49],[],[0,1,2,3,8,22,58],[0,1,2,3,8,22,58],[],[0,1,2,3,8,22,75],[0,1,2,3,8,22,75],[0,1,2,3,8,10],[0,1,2,3,8,10,11],[0,1,2,3,8,10,11,12],[0,1,2,3,8,10,11,12],[0,1,2,3,8,10,11,12],[8,10],[],[0,1,2,3,8,98],[0,1,2,3,8,13],[0,1,2,3,8,13,103],[0,1,2,3,8,13],[0,8],[8,118],[8]]
abbrev P66_0 := k4 env 66 Tryz.f66 1 0 1 2 3
abbrev P66_1 := k6 env 66 Tryz.f66 15 0 1 2 3 8 9
abbrev P66_2 := k7 env 66 Tryz.f66 245 0 1 2 3 8 22 23
abbrev P66_3 := k7 env 66 Tryz.f66 3935 0 1 2 3 8 22 35
abbrev P66_4 := k5 env 66 Tryz.f66 15741 0 1 2 3 8
abbrev P66_5 := k7 env 66 Tryz.f66 15743 0 1 2 3 8 22 49
def lv41 : Nat → List Nat := ln [[],[0,2]]
abbrev P41_0 := k1 env 41 Tryz.f41 1 0
def lv12 : Nat → List Nat := ln [[],[0]]
abbrev P12_0 := k0 env 12 Tryz.f12 1
def lv10 : Nat → List Nat := ln [[],[0,1,4]]
abbrev P10_0 := k2 env 10 Tryz.f10 1 0 1
def lv13 : Nat → List Nat := ln [[],[0,2]]
abbrev P13_0 := k1 env 13 Tryz.f13 1 0
section
variable {R : RT} {n0 ro rt : Nat} {t0 t1 t2 t3 t5 t6 t7 t8 t9 t10 t11 t12 t13 t22 t23 t35 t49 t58 t75 : AV}
def p3_0 := pD lv3 cF (P3_0 R n0 ro rt t0 t1 t2)
def p3_1 := pD lv3 cF (P3_1 R n0 ro rt t1 t2 t7 t9 t10 t11 t12)
def p3_2 := pD lv3 cF (P3_2 R n0 ro rt t1 t2 t7 t9 t10 t11 t12)
def p3_3 := pD lv3 cF (P3_3 R n0 ro rt t1 t2 t7 t9 t10)
def p3_4 := pD lv3 cF (P3_4 R n0 ro rt t1 t2 t7 t9 t10 t11 t12)
def e3 := rd3 (env R) Tryz.func3
def p4_0 := pD lv4 cF (P4_0 R n0 ro rt t0)
def p4_1 := pD lv4 cF (P4_1 R n0 ro rt t0 t5 t6)
def p4_2 := pD lv4 cF (P4_2 R n0 ro rt t0 t5 t6 t7)
def p4_3 := pD lv4 cF (P4_3 R n0 ro rt t0 t5 t6 t7)
def p4_4 := pD lv4 cF (P4_4 R n0 ro rt t5 t6)
def p4_5 := pD lv4 cF (P4_5 R n0 ro rt t0 t5 t6 t7)
def m4 := es1 (env R) Tryz.func4
def p5_0 := pD lv5 cF (P5_0 R n0 ro rt t0)
def e5 := rd1 (env R) Tryz.func5
def p20_0 := pD lv20 cF (P20_0 R n0 ro rt t0 t1)
def p20_1 := pD lv20 cF (P20_1 R n0 ro rt t0 t1 t5 t6)
def p20_2 := pD lv20 cF (P20_2 R n0 ro rt t0 t1 t5 t6)
def p20_3 := pD lv20 cF (P20_3 R n0 ro rt t1)
def p20_4 := pD lv20 cF (P20_4 R n0 ro rt t0 t1 t5 t6 t7 t8 t9)
def p20_5 := pD lv20 cF (P20_5 R n0 ro rt t0 t1 t5 t6 t7)
def p20_6 := pD lv20 cF (P20_6 R n0 ro rt t0 t1 t5 t6 t7 t8 t9)
def p20_7 := pD lv20 cF (P20_7 R n0 ro rt t0 t1 t5 t6 t7 t8)
def p20_8 := pD lv20 cF (P20_8 R n0 ro rt t0 t1 t5 t6 t7)
def p20_9 := pD lv20 cF (P20_9 R n0 ro rt t0 t1 t5 t6 t7 t8 t9)
def p20_10 := pD lv20 cF (P20_10 R n0 ro rt t0 t1 t5 t6 t7 t10 t11)
def p20_11 := pD lv20 cF (P20_11 R n0 ro rt t0 t1 t5 t6)
def p20_12 := pD lv20 cF (P20_12 R n0 ro rt t0 t1 t5 t6 t7 t10 t11)
def p20_13 := pD lv20 cF (P20_13 R n0 ro rt t0 t1 t5 t6 t7 t10 t11)
def m20 := im2 (env R) Tryz.func20
def p21_0 := pD lv21 cF (P21_0 R n0 ro rt t0)
def m21 := es1 (env R) Tryz.func21
def p7_0 := pD lv7 cF (P7_0 R n0 ro rt t0 t1)
def p7_1 := pD lv7 cF (P7_1 R n0 ro rt t0)
def e7 := rd2 (env R) Tryz.func7
def p39_0 := pD lv39 cF (P39_0 R n0 ro rt t0 t1)
def p39_1 := pD lv39 cF (P39_1 R n0 ro rt t0 t1)
def m39 := im2 (env R) Tryz.func39
def p40_0 := pD lv40 cF (P40_0 R n0 ro rt t0 t1 t2 t3)
def p40_1 := pD lv40 cF (P40_1 R n0 ro rt t0 t1 t2 t8)
def m40 := im4 (env R) Tryz.func40
def p65_0 := pD lv65 cF (P65_0 R n0 ro rt t0 t1 t2 t3)
def p65_1 := pD lv65 cF (P65_1 R n0 ro rt t0 t1 t2 t3 t8 t9)
def p65_2 := pD lv65 cF (P65_2 R n0 ro rt t0 t1 t2 t3 t8 t10 t11 t12)
def p65_3 := pD lv65 cF (P65_3 R n0 ro rt t0 t1 t2 t3 t8 t10 t11 t12)
def p65_4 := pD lv65 cF (P65_4 R n0 ro rt t8 t11)
def p65_5 := pD lv65 cF (P65_5 R n0 ro rt t0 t1 t2 t3 t8 t10 t11 t12)
def m65 := im4 (env R) Tryz.func65
def p66_0 := pD lv66 cF (P66_0 R n0 ro rt t0 t1 t2 t3)
def p66_1 := pD lv66 cF (P66_1 R n0 ro rt t0 t1 t2 t3 t8 t9)
def p66_2 := pD lv66 cF (P66_2 R n0 ro rt t0 t1 t2 t3 t8 t22 t23)
def p66_3 := pD lv66 cF (P66_3 R n0 ro rt t0 t1 t2 t3 t8 t22 t35)
def p66_4 := pD lv66 cF (P66_4 R n0 ro rt t0 t1 t2 t3 t8)
def p66_5 := pD lv66 cF (P66_5 R n0 ro rt t0 t1 t2 t3 t8 t22 t49)
def m66 := im4 (env R) Tryz.func66
def p41_0 := pD lv41 cF (P41_0 R n0 ro rt t0)
def e41 := rd1 (env R) Tryz.func41
def p12_0 := pD lv12 cF (P12_0 R n0 ro rt)
def e12 := rd0 (env R) Tryz.func12
def p10_0 := pD lv10 cF (P10_0 R n0 ro rt t0 t1)
def e10 := rd2 (env R) Tryz.func10
def p13_0 := pD lv13 cF (P13_0 R n0 ro rt t0)
def e13 := rd1 (env R) Tryz.func13
end
end
end Go.Proofs.YtcmeadgdojfhnaaGreatDoor
