/-
  What the points of some functions' code need: written by a program (wip/tel/GenW.lean.txt).
-/
import Derived.Test.YtcmeadgdojfhnaaGreatDoorTab
import Derived.Test.YtcmeadgdojfhnaaGreatDoorWvG
set_option linter.unusedSimpArgs false
set_option linter.unusedVariables false
namespace Go.Proofs.YtcmeadgdojfhnaaGreatDoor
open Go.Tel
set_option linter.all false
set_option maxRecDepth 100000
set_option maxHeartbeats 4000000
noncomputable section
def lv9 : Nat → List Nat := ln [[],[0,4,5],[0,5,7,8]]
abbrev P9_0 := k3 env 9 Tryz.f9 1 0 1 2
def lv25 : Nat → List Nat := ln [[],[1,3,5],[1,3,7,8]]
abbrev P25_0 := k3 env 25 Tryz.f25 1 0 1 2
def lv49 : Nat → List Nat := ln [[],[0,1]]
abbrev P49_0 := k2 env 49 Tryz.f49 1 0 1
def lv81 : Nat → List Nat := ln [[],[0,1],[0,1,7,8],[0,1,7,8,9],[0,1,5,7,8],[0,1,5,7,8,16],[0,1,7,8],[]]
abbrev P81_0 := k2 env 81 Tryz.f81 1 0 1
abbrev P81_1 := k4 env 81 Tryz.f81 26 0 1 7 8
abbrev P81_2 := k5 env 81 Tryz.f81 211 0 1 7 8 9
abbrev P81_3 := k0 env 81 Tryz.f81 7
abbrev P81_4 := k4 env 81 Tryz.f81 423 0 1 7 8
def lv50 : Nat → List Nat := ln [[],[1,2,3]]
abbrev P50_0 := k3 env 50 Tryz.f50 1 0 1 2
def lv51 : Nat → List Nat := ln [[],[3,4,5],[3,4,5,14,15,16],[3,4,5,14,15,16,17],[3,4,5,8,14,15,16],[3,4,5,10,14,15,16],[3,4,5,14,15,16,27],[3,4,5,14,15,16],[3,4,5],[3,4,5,31,32],[3,4,5,31,32,33],[3,4,5,11,31,32],[3,4,5,12,13,31,32],[3,4,5,31,32,47],[3,4,5,31,32],[]]
abbrev P51_0 := k3 env 51 Tryz.f51 1 0 1 2
abbrev P51_1 := k6 env 51 Tryz.f51 26 3 4 5 14 15 16
abbrev P51_2 := k7 env 51 Tryz.f51 211 3 4 5 14 15 16 17
abbrev P51_3 := k3 env 51 Tryz.f51 7 3 4 5
abbrev P51_4 := k6 env 51 Tryz.f51 423 3 4 5 14 15 16
abbrev P51_5 := k5 env 51 Tryz.f51 58 3 4 5 31 32
abbrev P51_7 := k0 env 51 Tryz.f51 15
def lv82 : Nat → List Nat := ln [[],[0,4,5],[0,4,5,8],[4,5,8,9],[5,8,9,38],[5,8,9],[5,8,9,42,43,44],[5,8,9,42,43,44,45],[5,8,9,11,42,43,44],[5,8,9,42,43,44,71],[5,8,9,42,43,44],[5,9],[9,74,75,76],[9,74,75,76,77],[9,12,13,74,75,76],[9,74,75,76,91],[9,74,75,76],[9]]
abbrev P82_0 := k3 env 82 Tryz.f82 1 0 1 2
abbrev P82_1 := k3 env 82 Tryz.f82 31 5 8 9
abbrev P82_2 := k6 env 82 Tryz.f82 250 5 8 9 42 43 44
abbrev P82_4 := k2 env 82 Tryz.f82 63 5 9
abbrev P82_6 := k4 env 82 Tryz.f82 506 9 74 75 76
abbrev P82_8 := k1 env 82 Tryz.f82 127 9
def lv114 : Nat → List Nat := ln [[],[0,4,5],[0,4,5,10],[0,4,5,10,11],[],[0,4,5,10,13],[],[],[0,4,5,10,28],[],[0,4,5,42],[0,5,7,8],[]]
abbrev P114_0 := k3 env 114 Tryz.f114 1 0 1 2
def lv115 : Nat → List Nat := ln [[],[0,1]]
abbrev P115_0 := k2 env 115 Tryz.f115 1 0 1
def lv148 : Nat → List Nat := ln [[],[0,1],[0,1,7,8],[0,1,7,8,9],[0,1,5,7,8],[0,1,5,7,8,16],[0,1,7,8],[]]
abbrev P148_0 := k2 env 148 Tryz.f148 1 0 1
abbrev P148_1 := k4 env 148 Tryz.f148 26 0 1 7 8
abbrev P148_3 := k0 env 148 Tryz.f148 7
def lv145 : Nat → List Nat := ln [[],[0,1,2],[0,1,2,14],[0,1,2],[1,2,15,16,17],[1,2,15,16,17,18],[1,2,7,8,15,16,17],[1,2,8,9,15,16,17],[1,2,15,16,17,30],[1,2,15,16,17],[]]
abbrev P145_0 := k3 env 145 Tryz.f145 1 0 1 2
abbrev P145_1 := k3 env 145 Tryz.f145 7 0 1 2
abbrev P145_2 := k5 env 145 Tryz.f145 58 1 2 15 16 17
abbrev P145_4 := k0 env 145 Tryz.f145 15
section
variable {R : RT} {n0 ro rt : Nat} {t0 t1 t2 t3 t4 t5 t7 t8 t9 t14 t15 t16 t17 t18 t31 t32 t33 t42 t43 t44 t45 t74 t75 t76 t77 : AV}
def p9_0 := pD lv9 cF (P9_0 R n0 ro rt t0 t1 t2)
def i9 := ri3 (env R) Tryz.func9
def p25_0 := pD lv25 cF (P25_0 R n0 ro rt t0 t1 t2)
def i25 := ri3 (env R) Tryz.func25
def p49_0 := pD lv49 cF (P49_0 R n0 ro rt t0 t1)
def m49 := im2 (env R) Tryz.func49
def p81_0 := pD lv81 cF (P81_0 R n0 ro rt t0 t1)
def p81_1 := pD lv81 cF (P81_1 R n0 ro rt t0 t1 t7 t8)
def p81_2 := pD lv81 cF (P81_2 R n0 ro rt t0 t1 t7 t8 t9)
def p81_3 := pD lv81 cF (P81_3 R n0 ro rt)
def p81_4 := pD lv81 cF (P81_4 R n0 ro rt t0 t1 t7 t8)
def m81 := im2 (env R) Tryz.func81
def p50_0 := pD lv50 cF (P50_0 R n0 ro rt t0 t1 t2)
def m50 := im3 (env R) Tryz.func50
def p51_0 := pD lv51 cF (P51_0 R n0 ro rt t0 t1 t2)
def p51_1 := pD lv51 cF (P51_1 R n0 ro rt t3 t4 t5 t14 t15 t16)
def p51_2 := pD lv51 cF (P51_2 R n0 ro rt t3 t4 t5 t14 t15 t16 t17)
def p51_3 := pD lv51 cF (P51_3 R n0 ro rt t3 t4 t5)
def p51_4 := pD lv51 cF (P51_4 R n0 ro rt t3 t4 t5 t14 t15 t16)
def p51_5 := pD lv51 cF (P51_5 R n0 ro rt t3 t4 t5 t31 t32)
def p51_7 := pD lv51 cF (P51_7 R n0 ro rt)
def i51 := ri3 (env R) Tryz.func51
def p82_0 := pD lv82 cF (P82_0 R n0 ro rt t0 t1 t2)
def p82_1 := pD lv82 cF (P82_1 R n0 ro rt t5 t8 t9)
def p82_2 := pD lv82 cF (P82_2 R n0 ro rt t5 t8 t9 t42 t43 t44)
def p82_4 := pD lv82 cF (P82_4 R n0 ro rt t5 t9)
def p82_6 := pD lv82 cF (P82_6 R n0 ro rt t9 t74 t75 t76)
def p82_8 := pD lv82 cF (P82_8 R n0 ro rt t9)
def i82 := ri3 (env R) Tryz.func82
def p114_0 := pD lv114 cF (P114_0 R n0 ro rt t0 t1 t2)
def m114 := im3 (env R) Tryz.func114
def p115_0 := pD lv115 cF (P115_0 R n0 ro rt t0 t1)
def e115 := rd2 (env R) Tryz.func115
def p148_0 := pD lv148 cF (P148_0 R n0 ro rt t0 t1)
def p148_1 := pD lv148 cF (P148_1 R n0 ro rt t0 t1 t7 t8)
def p148_3 := pD lv148 cF (P148_3 R n0 ro rt)
def e148 := rd2 (env R) Tryz.func148
def p145_0 := pD lv145 cF (P145_0 R n0 ro rt t0 t1 t2)
def p145_1 := pD lv145 cF (P145_1 R n0 ro rt t0 t1 t2)
def p145_2 := pD lv145 cF (P145_2 R n0 ro rt t1 t2 t15 t16 t17)
def p145_4 := pD lv145 cF (P145_4 R n0 ro rt)
def m145 := im3 (env R) Tryz.func145
end
end
end Go.Proofs.YtcmeadgdojfhnaaGreatDoor
