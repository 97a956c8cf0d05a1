/-
  What the points of some functions' code need: written by a program (wip/tel/GenW.lean.txt).
-/
import Derived.Test.YtmipbilokjkjiaaGreatDoorWx
set_option linter.unusedSimpArgs false
set_option linter.unusedVariables false
namespace Go.Proofs.YtmipbilokjkjiaaGreatDoor
open Go.Tel
noncomputable section
section
variable (R : RT) (N O T : Nat) (t0 t1 t2 t3 t4 t5 t7 t8 t9 t10 t17 t18 t19 t20 t22 t23 t28 t29 : AV)
noncomputable def b28 : Code := Tryz.f28.body.getD .skip
def lv28 : Nat → List Nat := ln [[],[1],[1,3],[],[12],[]]
abbrev Q28 := Wq R N O T 28 16 [.tmp 2]
def P28_0 := Q28 R N O T (aT b28 1) [(0,t0)]
def P28_1 := Q28 R N O T (aT b28 7) []
noncomputable def b52 : Code := Tryz.f52.body.getD .skip
def lv52 : Nat → List Nat := ln [[],[1],[1,3],[3,7,8,9],[3,7,8,9,10],[3,5,7,8,9],[3,7,8,9],[3]]
abbrev Q52 := Wq R N O T 52 19 [.tmp 2]
def P52_0 := Q52 R N O T (aT b52 1) [(0,t0)]
def P52_1 := Q52 R N O T (aT b52 58) [(3,t3),(7,t7),(8,t8),(9,t9)]
def P52_2 := Q52 R N O T (aT b52 467) [(3,t3),(7,t7),(8,t8),(9,t9),(10,t10)]
def P52_3 := Q52 R N O T (aT b52 15) [(3,t3)]
def P52_4 := Q52 R N O T (aT b52 935) [(3,t3),(7,t7),(8,t8),(9,t9)]
noncomputable def b53 : Code := Tryz.f53.body.getD .skip
def lv53 : Nat → List Nat := ln [[],[1],[1,3],[3,7,8,9],[3,7,8,9,10],[3,5,7,8,9],[3,7,8,9],[3]]
abbrev Q53 := Wq R N O T 53 20 [.tmp 2]
def P53_0 := Q53 R N O T (aT b53 1) [(0,t0)]
def P53_1 := Q53 R N O T (aT b53 58) [(3,t3),(7,t7),(8,t8),(9,t9)]
def P53_2 := Q53 R N O T (aT b53 467) [(3,t3),(7,t7),(8,t8),(9,t9),(10,t10)]
def P53_3 := Q53 R N O T (aT b53 15) [(3,t3)]
def P53_4 := Q53 R N O T (aT b53 935) [(3,t3),(7,t7),(8,t8),(9,t9)]
noncomputable def b54 : Code := Tryz.f54.body.getD .skip
def lv54 : Nat → List Nat := ln [[],[1]]
abbrev Q54 := Wq R N O T 54 11 [.tmp 2]
def P54_0 := Q54 R N O T (aT b54 1) [(0,t0)]
noncomputable def b78 : Code := Tryz.f78.body.getD .skip
def lv78 : Nat → List Nat := ln [[],[1],[1,20],[1],[1,22],[1,22,23],[1,22,23],[],[1,22,30],[],[1,22,52],[],[1,22,58],[],[1,22,64],[],[1,80],[]]
abbrev Q78 := Wq R N O T 78 93 [.tmp 2]
def P78_0 := Q78 R N O T (aT b78 1) [(0,t0)]
def P78_1 := Q78 R N O T (aT b78 7) [(1,t1)]
def P78_2 := Q78 R N O T (aT b78 117) [(1,t1),(22,t22),(23,t23)]
def P78_3 := Q78 R N O T (aT b78 15) []
noncomputable def b79 : Code := Tryz.f79.body.getD .skip
def lv79 : Nat → List Nat := ln [[],[0,1]]
abbrev Q79 := Wq R N O T 79 9 [.tmp 4]
def P79_0 := Q79 R N O T (aT b79 1) [(0,t0),(1,t1)]
noncomputable def b80 : Code := Tryz.f80.body.getD .skip
def lv80 : Nat → List Nat := ln [[],[1]]
abbrev Q80 := Wq R N O T 80 6 [.tmp 2]
def P80_0 := Q80 R N O T (aT b80 1) [(0,t0)]
noncomputable def b100 : Code := Tryz.f100.body.getD .skip
def lv100 : Nat → List Nat := ln [[],[0]]
abbrev Q100 := Wq R N O T 100 19 [.tmp 2]
def P100_0 := Q100 R N O T (aT b100 1) [(0,t0)]
noncomputable def b117 : Code := Tryz.f117.body.getD .skip
def lv117 : Nat → List Nat := ln ([]::[0,1]::rp 3 [0,1,5] [[0,1,5,17],[]])
abbrev Q117 := Wq R N O T 117 18 [.tmp 4]
def P117_0 := Q117 R N O T (aT b117 1) [(0,t0),(1,t1)]
def P117_1 := Q117 R N O T (aT b117 26) [(0,t0),(1,t1),(5,t5)]
def P117_2 := Q117 R N O T (aT b117 105) [(0,t0),(1,t1),(5,t5)]
def P117_3 := Q117 R N O T (aT b117 7) []
def P117_4 := Q117 R N O T (aT b117 211) [(0,t0),(1,t1),(5,t5)]
noncomputable def b118 : Code := Tryz.f118.body.getD .skip
def lv118 : Nat → List Nat := ln [[],[0]]
abbrev Q118 := Wq R N O T 118 9 [.tmp 2]
def P118_0 := Q118 R N O T (aT b118 1) [(0,t0)]
noncomputable def b92 : Code := Tryz.f92.body.getD .skip
def lv92 : Nat → List Nat := ln [[],[0]]
abbrev Q92 := Wq R N O T 92 17 [.tmp 2]
def P92_0 := Q92 R N O T (aT b92 1) [(0,t0)]
noncomputable def b112 : Code := Tryz.f112.body.getD .skip
def lv112 : Nat → List Nat := ln [[],[0]]
abbrev Q112 := Wq R N O T 112 17 [.tmp 2]
def P112_0 := Q112 R N O T (aT b112 1) [(0,t0)]
noncomputable def b113 : Code := Tryz.f113.body.getD .skip
def lv113 : Nat → List Nat := ln [[],[0]]
abbrev Q113 := Wq R N O T 113 9 [.tmp 2]
def P113_0 := Q113 R N O T (aT b113 1) [(0,t0)]
noncomputable def b84 : Code := Tryz.f84.body.getD .skip
def lv84 : Nat → List Nat := ln [[],[0,1]]
abbrev Q84 := Wq R N O T 84 9 [.tmp 4]
def P84_0 := Q84 R N O T (aT b84 1) [(0,t0),(1,t1)]
noncomputable def b108 : Code := Tryz.f108.body.getD .skip
def lv108 : Nat → List Nat := ln [[],[0,1],[0,1,7,8],[0,1,7,8,9],[0,1,5,7,8],[0,1,5,7,8,16],[0,1,7,8],[]]
abbrev Q108 := Wq R N O T 108 19 [.tmp 4]
def P108_0 := Q108 R N O T (aT b108 1) [(0,t0),(1,t1)]
def P108_1 := Q108 R N O T (aT b108 26) [(0,t0),(1,t1),(7,t7),(8,t8)]
def P108_2 := Q108 R N O T (aT b108 211) [(0,t0),(1,t1),(7,t7),(8,t8),(9,t9)]
def P108_3 := Q108 R N O T (aT b108 7) []
def P108_4 := Q108 R N O T (aT b108 423) [(0,t0),(1,t1),(7,t7),(8,t8)]
noncomputable def b101 : Code := Tryz.f101.body.getD .skip
def lv101 : Nat → List Nat := ln [[],[1]]
abbrev Q101 := Wq R N O T 101 7 [.tmp 2]
def P101_0 := Q101 R N O T (aT b101 1) [(0,t0)]
noncomputable def b119 : Code := Tryz.f119.body.getD .skip
def lv119 : Nat → List Nat := ln [[],[1]]
abbrev Q119 := Wq R N O T 119 6 [.tmp 2]
def P119_0 := Q119 R N O T (aT b119 1) [(0,t0)]
noncomputable def b120 : Code := Tryz.f120.body.getD .skip
def lv120 : Nat → List Nat := ln [[],[1]]
abbrev Q120 := Wq R N O T 120 19 [.tmp 2]
def P120_0 := Q120 R N O T (aT b120 1) [(0,t0)]
noncomputable def b102 : Code := Tryz.f102.body.getD .skip
def lv102 : Nat → List Nat := ln [[],[1,2],[1,2,15],[1,2],[1,2,17,18,19],[1,2,17,18,19,20],[1,2,5,6,17,18,19],[1,2,17,18,19,31],[1,2,17,18,19],[]]
abbrev Q102 := Wq R N O T 102 33 [.tmp 4]
def P102_0 := Q102 R N O T (aT b102 1) [(0,t0),(1,t1)]
def P102_1 := Q102 R N O T (aT b102 7) [(1,t1),(2,t2)]
def P102_2 := Q102 R N O T (aT b102 58) [(1,t1),(2,t2),(17,t17),(18,t18),(19,t19)]
def P102_3 := Q102 R N O T (aT b102 467) [(1,t1),(2,t2),(17,t17),(18,t18),(19,t19),(20,t20)]
def P102_4 := Q102 R N O T (aT b102 15) []
def P102_5 := Q102 R N O T (aT b102 935) [(1,t1),(2,t2),(17,t17),(18,t18),(19,t19)]
noncomputable def b121 : Code := Tryz.f121.body.getD .skip
def lv121 : Nat → List Nat := ln [[],[1,2],[11],[]]
abbrev Q121 := Wq R N O T 121 12 [.tmp 4]
def P121_0 := Q121 R N O T (aT b121 1) [(0,t0),(1,t1)]
def P121_1 := Q121 R N O T (aT b121 7) []
noncomputable def b103 : Code := Tryz.f103.body.getD .skip
def lv103 : Nat → List Nat := ln [[],[0,1],[0,1,7,8],[0,1,7,8,9],[0,1,5,7,8],[0,1,5,7,8,16],[0,1,7,8],[]]
abbrev Q103 := Wq R N O T 103 19 [.tmp 4]
def P103_0 := Q103 R N O T (aT b103 1) [(0,t0),(1,t1)]
def P103_1 := Q103 R N O T (aT b103 26) [(0,t0),(1,t1),(7,t7),(8,t8)]
def P103_2 := Q103 R N O T (aT b103 211) [(0,t0),(1,t1),(7,t7),(8,t8),(9,t9)]
def P103_3 := Q103 R N O T (aT b103 7) []
def P103_4 := Q103 R N O T (aT b103 423) [(0,t0),(1,t1),(7,t7),(8,t8)]
noncomputable def b14 : Code := Tryz.f14.body.getD .skip
def lv14 : Nat → List Nat := ln [[],[1],[1,3],[],[12],[]]
abbrev Q14 := Wq R N O T 14 16 [.tmp 2]
def P14_0 := Q14 R N O T (aT b14 1) [(0,t0)]
def P14_1 := Q14 R N O T (aT b14 7) []
noncomputable def b40 : Code := Tryz.f40.body.getD .skip
def lv40 : Nat → List Nat := ln ([]::[1]::[1,3]::rp 3 [1,3,4] [[3]])
abbrev Q40 := Wq R N O T 40 21 [.tmp 2]
def P40_0 := Q40 R N O T (aT b40 1) [(0,t0)]
def P40_1 := Q40 R N O T (aT b40 58) [(1,t1),(3,t3),(4,t4)]
def P40_2 := Q40 R N O T (aT b40 233) [(1,t1),(3,t3),(4,t4)]
def P40_3 := Q40 R N O T (aT b40 15) [(3,t3)]
def P40_4 := Q40 R N O T (aT b40 467) [(1,t1),(3,t3),(4,t4)]
noncomputable def b41 : Code := Tryz.f41.body.getD .skip
def lv41 : Nat → List Nat := ln ([]::[1]::[1,3]::rp 3 [1,3,4] [[3]])
abbrev Q41 := Wq R N O T 41 22 [.tmp 2]
def P41_0 := Q41 R N O T (aT b41 1) [(0,t0)]
def P41_1 := Q41 R N O T (aT b41 58) [(1,t1),(3,t3),(4,t4)]
def P41_2 := Q41 R N O T (aT b41 233) [(1,t1),(3,t3),(4,t4)]
def P41_3 := Q41 R N O T (aT b41 15) [(3,t3)]
def P41_4 := Q41 R N O T (aT b41 467) [(1,t1),(3,t3),(4,t4)]
noncomputable def b42 : Code := Tryz.f42.body.getD .skip
def lv42 : Nat → List Nat := ln ([]::[1]::[1,3]::[1,3,26]::[1,3]::[]::[1,3,28]::[1,3,28,29]::[1,3,28,29]::[]::[1,3,28,34]::[]::[1,3,28,48]::[1,3,62]::[1,3]::rp 3 [1,3,4] ([1,3,4,74]::[]::[1,3,28,75]::[1,3,78]::[]::[1,3,28,79]::[1,3,82]::[]::[1,3,83]::[1,3,94]::[1,3]::rp 3 [1,3,5] [[1,3,5,106],[]]))
abbrev Q42 := Wq R N O T 42 107 [.tmp 2]
def P42_0 := Q42 R N O T (aT b42 1) [(0,t0)]
def P42_1 := Q42 R N O T (aT b42 15) [(1,t1),(3,t3)]
def P42_2 := Q42 R N O T (aT b42 245) [(1,t1),(3,t3),(28,t28),(29,t29)]
def P42_3 := Q42 R N O T (aT b42 15741) [(1,t1),(3,t3)]
def P42_4 := Q42 R N O T (aT b42 31) [(1,t1),(3,t3)]
def P42_5 := Q42 R N O T (aT b42 62966) [(1,t1),(3,t3),(4,t4)]
def P42_6 := Q42 R N O T (aT b42 250) [(1,t1),(3,t3),(5,t5)]
def P42_7 := Q42 R N O T (aT b42 251865) [(1,t1),(3,t3),(4,t4)]
def P42_8 := Q42 R N O T (aT b42 1001) [(1,t1),(3,t3),(5,t5)]
def P42_9 := Q42 R N O T (aT b42 63) []
def P42_10 := Q42 R N O T (aT b42 503731) [(1,t1),(3,t3),(4,t4)]
def P42_11 := Q42 R N O T (aT b42 2003) [(1,t1),(3,t3),(5,t5)]
noncomputable def b67 : Code := Tryz.f67.body.getD .skip
def lv67 : Nat → List Nat := ln ([]::[0]::[0,17]::[0]::rp 3 [0,3] [[0,3,34],[]])
abbrev Q67 := Wq R N O T 67 35 [.tmp 2]
def P67_0 := Q67 R N O T (aT b67 1) [(0,t0)]
def P67_1 := Q67 R N O T (aT b67 7) [(0,t0)]
def P67_2 := Q67 R N O T (aT b67 58) [(0,t0),(3,t3)]
def P67_3 := Q67 R N O T (aT b67 233) [(0,t0),(3,t3)]
def P67_4 := Q67 R N O T (aT b67 15) []
def P67_5 := Q67 R N O T (aT b67 467) [(0,t0),(3,t3)]
noncomputable def b68 : Code := Tryz.f68.body.getD .skip
def lv68 : Nat → List Nat := ln [[],[0]]
abbrev Q68 := Wq R N O T 68 21 [.tmp 2]
def P68_0 := Q68 R N O T (aT b68 1) [(0,t0)]
noncomputable def b69 : Code := Tryz.f69.body.getD .skip
def lv69 : Nat → List Nat := ln ([]::[1]::[1,10]::[1]::rp 3 [1,3] [[1,3,24],[1]])
abbrev Q69 := Wq R N O T 69 28 [.tmp 2]
def P69_0 := Q69 R N O T (aT b69 1) [(0,t0)]
def P69_1 := Q69 R N O T (aT b69 7) [(1,t1)]
def P69_2 := Q69 R N O T (aT b69 58) [(1,t1),(3,t3)]
def P69_3 := Q69 R N O T (aT b69 233) [(1,t1),(3,t3)]
def P69_4 := Q69 R N O T (aT b69 15) [(1,t1)]
def P69_5 := Q69 R N O T (aT b69 467) [(1,t1),(3,t3)]
noncomputable def b70 : Code := Tryz.f70.body.getD .skip
def lv70 : Nat → List Nat := ln [[],[1]]
abbrev Q70 := Wq R N O T 70 7 [.tmp 2]
def P70_0 := Q70 R N O T (aT b70 1) [(0,t0)]
noncomputable def b96 : Code := Tryz.f96.body.getD .skip
def lv96 : Nat → List Nat := ln [[],[1]]
abbrev Q96 := Wq R N O T 96 5 [.tmp 2]
def P96_0 := Q96 R N O T (aT b96 1) [(0,t0)]
noncomputable def b115 : Code := Tryz.f115.body.getD .skip
def lv115 : Nat → List Nat := ln ([]::[1,2,3]::[1,2,3,16]::[1,2,3]::rp 3 [1,2,3,7] [[2]])
abbrev Q115 := Wq R N O T 115 43 [.tmp 6]
def P115_0 := Q115 R N O T (aT b115 1) [(0,t0),(1,t1),(2,t2)]
def P115_1 := Q115 R N O T (aT b115 7) [(1,t1),(2,t2),(3,t3)]
def P115_2 := Q115 R N O T (aT b115 58) [(1,t1),(2,t2),(3,t3),(7,t7)]
def P115_3 := Q115 R N O T (aT b115 233) [(1,t1),(2,t2),(3,t3),(7,t7)]
def P115_4 := Q115 R N O T (aT b115 15) [(2,t2)]
def P115_5 := Q115 R N O T (aT b115 467) [(1,t1),(2,t2),(3,t3),(7,t7)]
noncomputable def b131 : Code := Tryz.f131.body.getD .skip
def lv131 : Nat → List Nat := ln ([]::[0,1]::rp 3 [0,1,5] [[0,1,5,31],[0,1,5]])
abbrev Q131 := Wq R N O T 131 45 [.tmp 4]
def P131_0 := Q131 R N O T (aT b131 1) [(0,t0),(1,t1)]
def P131_1 := Q131 R N O T (aT b131 28) [(0,t0),(1,t1),(5,t5)]
def P131_2 := Q131 R N O T (aT b131 113) [(0,t0),(1,t1),(5,t5)]
def P131_3 := Q131 R N O T (aT b131 15) [(0,t0),(1,t1),(5,t5)]
def P131_4 := Q131 R N O T (aT b131 31) [(0,t0),(1,t1),(5,t5)]
noncomputable def b132 : Code := Tryz.f132.body.getD .skip
def lv132 : Nat → List Nat := ln [[],[1,2],[11],[]]
abbrev Q132 := Wq R N O T 132 12 [.tmp 4]
def P132_0 := Q132 R N O T (aT b132 1) [(0,t0),(1,t1)]
def P132_1 := Q132 R N O T (aT b132 7) []
noncomputable def b94 : Code := Tryz.f94.body.getD .skip
def lv94 : Nat → List Nat := ln [[],[0]]
abbrev Q94 := Wq R N O T 94 17 [.tmp 2]
def P94_0 := Q94 R N O T (aT b94 1) [(0,t0)]
noncomputable def b95 : Code := Tryz.f95.body.getD .skip
def lv95 : Nat → List Nat := ln [[],[0]]
abbrev Q95 := Wq R N O T 95 17 [.tmp 2]
def P95_0 := Q95 R N O T (aT b95 1) [(0,t0)]
noncomputable def b114 : Code := Tryz.f114.body.getD .skip
def lv114 : Nat → List Nat := ln [[],[0]]
abbrev Q114 := Wq R N O T 114 9 [.tmp 2]
def P114_0 := Q114 R N O T (aT b114 1) [(0,t0)]
end
variable {R : RT} {N O T : Nat} {s : Sto} {QR : QT} {t0 t1 t2 t3 t4 t5 t7 t8 t9 t10 t17 t18 t19 t20 t22 t23 t28 t29 : AV}
theorem p28_0 (h :
 wBox s t0 fun a b =>
 xM R b 4 a fun c =>
 xC R 28 N O T 52 [c] b fun d e =>
 xI .gtr d (I64 200) fun f =>
 g1 f false e (xM R e 4 a) fun i j =>
 wGK f false j (xC R 28 N O T 53 [i] j) fun m n =>
 g1 f false n (xI .gtr m (I64 12)) fun p q =>
 wPick f (BB true) p fun u =>
 wCond u (
 QR (I64 4) q) (
 xM R q 4 a fun v =>
 xC R 28 N O T 54 [v] q fun w x =>
 wNot w fun y =>
 wCond y (
 QR (I64 2) x) (
 P28_1 R N O T  x QR))) : P28_0 R N O T t0 s QR :=
  pC lv28 cF h
theorem p28_1 (h :
 QR (I64 0) s) : P28_1 R N O T  s QR :=
  pC lv28 cF h
theorem e28 {u0 : AV} {Post : AV → Prop} (hcl : closeL [] 0 0 [t0] = some [u0]) (h : P28_0 R 0 0 0 u0 ⟨[],[]⟩ (QP Post)) : PureC (env R) 28 [t0] Post :=
  hR Tryz.func28 hcl h
theorem p52_0 (h :
 wBox s t0 fun a b =>
 xF R b a 3 fun d =>
 wLen b d fun e =>
 P52_1 R N O T (I64 1) d e (I64 0) b QR) : P52_0 R N O T t0 s QR :=
  pC lv52 cF h
theorem p52_1 (h :
 xI .lss t9 t8 fun a =>
 wCond a (
 P52_2 R N O T t3 t7 t8 t9 a s QR) (
 P52_3 R N O T t3 s QR)) : P52_1 R N O T t3 t7 t8 t9 s QR :=
  pL lv52 cF h
theorem p52_2 (h :
 wIdx s 4 t7 t9 fun a =>
 xM R s 4 a fun b =>
 wNew s Y4 fun c d =>
 wSt (lf R 52 N O T) d 4 c b fun e =>
 xM R e 4 c fun f =>
 xC R 52 N O T 52 [f] e fun g i =>
 xI .add t3 g fun j =>
 P52_4 R N O T j t7 t8 t9 i QR) : P52_2 R N O T t3 t7 t8 t9 t10 s QR :=
  pC lv52 cF h
theorem p52_3 (h :
 QR t3 s) : P52_3 R N O T t3 s QR :=
  pC lv52 cF h
theorem p52_4 (h :
 xI .add t9 (I64 1) fun a =>
 P52_1 R N O T t3 t7 t8 a s QR) : P52_4 R N O T t3 t7 t8 t9 s QR :=
  pC lv52 cF h
theorem e52 {u0 : AV} {Post : AV → Prop} (hcl : closeL [] 0 0 [t0] = some [u0]) (h : P52_0 R 0 0 0 u0 ⟨[],[]⟩ (QP Post)) : PureC (env R) 52 [t0] Post :=
  hR Tryz.func52 hcl h
theorem p53_0 (h :
 wBox s t0 fun a b =>
 xF R b a 3 fun d =>
 wLen b d fun e =>
 P53_1 R N O T (I64 0) d e (I64 0) b QR) : P53_0 R N O T t0 s QR :=
  pC lv53 cF h
theorem p53_1 (h :
 xI .lss t9 t8 fun a =>
 wCond a (
 P53_2 R N O T t3 t7 t8 t9 a s QR) (
 P53_3 R N O T t3 s QR)) : P53_1 R N O T t3 t7 t8 t9 s QR :=
  pL lv53 cF h
theorem p53_2 (h :
 wIdx s 4 t7 t9 fun a =>
 xM R s 4 a fun b =>
 wNew s Y4 fun c d =>
 wSt (lf R 53 N O T) d 4 c b fun e =>
 xM R e 4 c fun f =>
 xC R 53 N O T 53 [f] e fun g i =>
 wAnyT (env R) (lf R 53 N O T) i (lkE [(15,g),(14,f),(13,t3),(5,c),(12,b),(11,a),(3,t3),(7,t7),(8,t8),(9,t9),(10,t10)]) (opOf (sn b53 3737) 3) fun j k =>
 P53_4 R N O T j t7 t8 t9 k QR) : P53_2 R N O T t3 t7 t8 t9 t10 s QR :=
  pC lv53 cF h
theorem p53_3 (h :
 xI .add t3 (I64 1) fun a =>
 QR a s) : P53_3 R N O T t3 s QR :=
  pC lv53 cF h
theorem p53_4 (h :
 xI .add t9 (I64 1) fun a =>
 P53_1 R N O T t3 t7 t8 a s QR) : P53_4 R N O T t3 t7 t8 t9 s QR :=
  pC lv53 cF h
theorem e53 {u0 : AV} {Post : AV → Prop} (hcl : closeL [] 0 0 [t0] = some [u0]) (h : P53_0 R 0 0 0 u0 ⟨[],[]⟩ (QP Post)) : PureC (env R) 53 [t0] Post :=
  hR Tryz.func53 hcl h
theorem p54_0 (h :
 wBox s t0 fun a b =>
 xM R b 4 a fun c =>
 xC R 54 N O T 78 [c] b fun d e =>
 g1 d true e (wFad e a 3) fun g i =>
 g1 d true i (xL R i g) fun k l =>
 wGK d true l (xC R 54 N O T 79 [k,(.func (.func 80) [] [])] l) fun o p =>
 g1 d true p (wNot o) fun u v =>
 wPick d u (BB false) fun w =>
 QR w v) : P54_0 R N O T t0 s QR :=
  pC lv54 cF h
theorem e54 {u0 : AV} {Post : AV → Prop} (hcl : closeL [] 0 0 [t0] = some [u0]) (h : P54_0 R 0 0 0 u0 ⟨[],[]⟩ (QP Post)) : PureC (env R) 54 [t0] Post :=
  hR Tryz.func54 hcl h
theorem p78_0 (h :
 wBox s t0 fun a b =>
 xF R b a 0 fun d =>
 xI .neq d (I64 2) fun e =>
 g1 e true b (wFad b a 1) fun g i =>
 g1 e true i (xL R i g) fun k l =>
 g1 e true l (wStr .neq k (SS [])) fun n o =>
 wPick e n (BB false) fun p =>
 g1 p false o (wFad o a 0) fun u v =>
 g1 p false v (xL R v u) fun x y =>
 g1 p false y (xI .neq x (I64 5)) fun aa ab =>
 g0 p false ab aa fun ac ad =>
 g1 ac true ad (wFad ad a 2) fun af ag =>
 g1 ac true ag (xL R ag af) fun ai aj =>
 g1 ac true aj (xI .neq ai (I64 0)) fun al am =>
 g1 p false am (wPick ac al (BB false)) fun ao ap =>
 wPick p (BB true) ao fun aq =>
 wCond aq (
 QR (BB false) ap) (
 P78_1 R N O T a ap QR)) : P78_0 R N O T t0 s QR :=
  pC lv78 cF h
theorem p78_1 (h :
 xF R s t1 0 fun b =>
 xI .eql b (I64 0) fun c =>
 wCond c (
 P78_2 R N O T t1 b c s QR) (
 xI .eql b (I64 1) fun d =>
 P78_2 R N O T t1 b d s QR)) : P78_1 R N O T t1 s QR :=
  pC lv78 cF h
theorem p78_2 (h :
 wCond t23 (
 xF R s t1 3 fun b =>
 wLen s b fun c =>
 xI .eql c (I64 0) fun d =>
 QR d s) (
 xI .eql t22 (I64 2) fun e =>
 wCond e (
 xF R s t1 1 fun g =>
 xC R 78 N O T 100 [g] s fun i j =>
 g1 i true j (xL R j (.gptr 6 0)) fun l m =>
 g1 i true m (wFad m t1 1) fun o p =>
 g1 i true p (xL R p o) fun u v =>
 wGK i true v (xC R 78 N O T 84 [l,u] v) fun y z =>
 g1 i true z (wNot y) fun ab ac =>
 wPick i ab (BB false) fun ad =>
 g1 ad true ac (wFad ac t1 3) fun af ag =>
 g1 ad true ag (xL R ag af) fun ai aj =>
 g1 ad true aj (wLen aj ai) fun al am =>
 g1 ad true am (xI .leq al (I64 6)) fun ao ap =>
 wPick ad ao (BB false) fun aq =>
 g1 aq true ap (xM R ap 4 t1) fun au av =>
 wGK aq true av (xC R 78 N O T 101 [au] av) fun ay az =>
 wPick aq ay (BB false) fun a0 =>
 QR a0 az) (
 xI .eql t22 (I64 3) fun a1 =>
 wCond a1 (
 xF R s t1 3 fun a3 =>
 wLen s a3 fun a4 =>
 xI .leq a4 (I64 6) fun a5 =>
 QR a5 s) (
 xI .eql t22 (I64 4) fun a6 =>
 wCond a6 (
 xF R s t1 3 fun a8 =>
 wLen s a8 fun a9 =>
 xI .geq a9 (I64 2) fun ba =>
 QR ba s) (
 xI .eql t22 (I64 5) fun bb =>
 wCond bb (
 xF R s t1 3 fun bd =>
 wLen s bd fun be =>
 xI .eql be (I64 0) fun bf =>
 g1 bf true s (wFad s t1 2) fun bh bi =>
 g1 bf true bi (xL R bi bh) fun bk bl =>
 g1 bf true bl (xI .geq bk (I64 0)) fun bn bo =>
 wPick bf bn (BB false) fun bp =>
 g1 bp true bo (wFad bo t1 2) fun br bs =>
 g1 bp true bs (xL R bs br) fun bu bv =>
 g1 bp true bv (xI .leq bu (I64 200)) fun bx bz =>
 wPick bp bx (BB false) fun b0 =>
 QR b0 bz) (
 xI .eql t22 (I64 6) fun b1 =>
 wCond b1 (
 xF R s t1 3 fun b3 =>
 wLen s b3 fun b4 =>
 xI .eql b4 (I64 2) fun b5 =>
 g1 b5 true s (wFad s t1 3) fun b7 b8 =>
 g1 b5 true b8 (xL R b8 b7) fun ca cb =>
 g1 b5 true cb (wIdx cb 4 ca (I64 0)) fun cd ce =>
 g1 b5 true ce (xM R ce 4 cd) fun cg ch =>
 wGK b5 true ch (xC R 78 N O T 102 [cg,(I64 0)] ch) fun ck cl =>
 wPick b5 ck (BB false) fun cm =>
 QR cm cl) (
 P78_3 R N O T  s QR))))))) : P78_2 R N O T t1 t22 t23 s QR :=
  pC lv78 cF h
theorem p78_3 (h :
 QR (BB false) s) : P78_3 R N O T  s QR :=
  pC lv78 cF h
theorem e78 {u0 : AV} {Post : AV → Prop} (hcl : closeL [] 0 0 [t0] = some [u0]) (h : P78_0 R 0 0 0 u0 ⟨[],[]⟩ (QP Post)) : PureC (env R) 78 [t0] Post :=
  hR Tryz.func78 hcl h
theorem p79_0 (h :
 xC R 79 N O T 103 [t0,t1] s fun a b =>
 xI .geq a (I64 0) fun c =>
 QR c b) : P79_0 R N O T t0 t1 s QR :=
  pC lv79 cF h
theorem e79 {Post : AV → Prop} (hn : noIdL [t0,t1] = true) (h : P79_0 R 0 0 0 t0 t1 ⟨[],[]⟩ (QP Post)) : PureC (env R) 79 [t0,t1] Post :=
  call_imp (fn := Tryz.f79) (body := b79) Tryz.func79 (by kernel_rfl) (by kernel_rfl) (by kernel_rfl) (aLs0022 (by kernel_rfl)) hn (mpK h (by kernel_rfl))
theorem p80_0 (h :
 wBox s t0 fun a b =>
 xM R b 4 a fun c =>
 xC R 80 N O T 54 [c] b fun d e =>
 wNot d fun f =>
 QR f e) : P80_0 R N O T t0 s QR :=
  pC lv80 cF h
theorem e80 {Post : AV → Prop} (hn : noIdL [t0] = true) (h : P80_0 R 0 0 0 t0 ⟨[],[]⟩ (QP Post)) : PureC (env R) 80 [t0] Post :=
  call_imp (fn := Tryz.f80) (body := b80) Tryz.func80 (by kernel_rfl) (by kernel_rfl) (by kernel_rfl) (aLs0022 (by kernel_rfl)) hn (mpK h (by kernel_rfl))
theorem p100_0 (h :
 wStr .neq t0 (SS []) fun a =>
 g0 a true s t0 fun b c =>
 g1 a true c (wSlen b) fun e f =>
 g1 a true f (xI .leq e (I64 24)) fun i j =>
 wPick a i (BB false) fun k =>
 g0 k true j t0 fun l m =>
 g1 k true m (wSidx l (I64 0)) fun o p =>
 wGK k true p (xC R 100 N O T 112 [o] p) fun v w =>
 wPick k v (BB false) fun x =>
 g0 x true w t0 fun y z =>
 wGK x true z (xC R 100 N O T 117 [y,(.func (.func 118) [] [])] z) fun ac ad =>
 wPick x ac (BB false) fun ae =>
 QR ae ad) : P100_0 R N O T t0 s QR :=
  pC lv100 cF h
theorem e100 {u0 : AV} {Post : AV → Prop} (hcl : closeL [] 0 0 [t0] = some [u0]) (h : P100_0 R 0 0 0 u0 ⟨[],[]⟩ (QP Post)) : PureC (env R) 100 [t0] Post :=
  hR Tryz.func100 hcl h
theorem p117_0 (h :
 P117_1 R N O T t0 t1 (I64 0) s QR) : P117_0 R N O T t0 t1 s QR :=
  pC lv117 cF h
theorem p117_1 (h :
 wSlen t0 fun a =>
 xI .lss t5 a fun b =>
 wCond b (
 P117_2 R N O T t0 t1 t5 s QR) (
 P117_3 R N O T  s QR)) : P117_1 R N O T t0 t1 t5 s QR :=
  pL lv117 cF h
theorem p117_2 (h :
 wSidx t0 t5 fun a =>
 wCall (env R) (lf R 117 N O T) t1 [a] s fun b c =>
 wNot b fun d =>
 wCond d (
 QR (BB false) c) (
 P117_4 R N O T t0 t1 t5 c QR)) : P117_2 R N O T t0 t1 t5 s QR :=
  pC lv117 cF h
theorem p117_3 (h :
 QR (BB true) s) : P117_3 R N O T  s QR :=
  pC lv117 cF h
theorem p117_4 (h :
 xI .add t5 (I64 1) fun a =>
 P117_1 R N O T t0 t1 a s QR) : P117_4 R N O T t0 t1 t5 s QR :=
  pC lv117 cF h
theorem e117 {u0 u1 : AV} {Post : AV → Prop} (hcl : closeL [] 0 0 [t0,t1] = some [u0,u1]) (h : P117_0 R 0 0 0 u0 u1 ⟨[],[]⟩ (QP Post)) : PureC (env R) 117 [t0,t1] Post :=
  hR Tryz.func117 hcl h
theorem p118_0 (h :
 wInt .u8 .neq t0 (.pv (.sc (.int .u8 45))) fun a =>
 g0 a true s t0 fun b c =>
 wGK a true c (xC R 118 N O T 92 [b] c) fun f g =>
 wPick a f (BB false) fun i =>
 QR i g) : P118_0 R N O T t0 s QR :=
  pC lv118 cF h
theorem e118 {Post : AV → Prop} (hn : noIdL [t0] = true) (h : P118_0 R 0 0 0 t0 ⟨[],[]⟩ (QP Post)) : PureC (env R) 118 [t0] Post :=
  call_imp (fn := Tryz.f118) (body := b118) Tryz.func118 (by kernel_rfl) (by kernel_rfl) (by kernel_rfl) (aLs0022 (by kernel_rfl)) hn (mpK h (by kernel_rfl))
theorem p92_0 (h :
 xC R 92 N O T 112 [t0] s fun a b =>
 g0 a false b t0 fun c d =>
 wGK a false d (xC R 92 N O T 113 [c] d) fun g i =>
 wPick a (BB true) g fun j =>
 g0 j false i t0 fun k l =>
 g1 j false l (wInt .u8 .eql k (.pv (.sc (.int .u8 95)))) fun n o =>
 wPick j (BB true) n fun p =>
 g0 p false o t0 fun q u =>
 g1 p false u (wInt .u8 .eql q (.pv (.sc (.int .u8 45)))) fun w x =>
 wPick p (BB true) w fun y =>
 QR y x) : P92_0 R N O T t0 s QR :=
  pC lv92 cF h
theorem e92 {u0 : AV} {Post : AV → Prop} (hcl : closeL [] 0 0 [t0] = some [u0]) (h : P92_0 R 0 0 0 u0 ⟨[],[]⟩ (QP Post)) : PureC (env R) 92 [t0] Post :=
  hR Tryz.func92 hcl h
theorem p112_0 (h :
 wInt .u8 .geq t0 (.pv (.sc (.int .u8 97))) fun a =>
 g0 a true s t0 fun b c =>
 g1 a true c (wInt .u8 .leq b (.pv (.sc (.int .u8 122)))) fun e f =>
 wPick a e (BB false) fun g =>
 g0 g false f t0 fun i j =>
 g1 g false j (wInt .u8 .geq i (.pv (.sc (.int .u8 65)))) fun l m =>
 g0 g false m l fun n o =>
 g0 n true o t0 fun p q =>
 g1 n true q (wInt .u8 .leq p (.pv (.sc (.int .u8 90)))) fun v w =>
 g1 g false w (wPick n v (BB false)) fun y z =>
 wPick g (BB true) y fun aa =>
 QR aa z) : P112_0 R N O T t0 s QR :=
  pC lv112 cF h
theorem e112 {u0 : AV} {Post : AV → Prop} (hcl : closeL [] 0 0 [t0] = some [u0]) (h : P112_0 R 0 0 0 u0 ⟨[],[]⟩ (QP Post)) : PureC (env R) 112 [t0] Post :=
  hR Tryz.func112 hcl h
theorem p113_0 (h :
 wInt .u8 .geq t0 (.pv (.sc (.int .u8 48))) fun a =>
 g0 a true s t0 fun b c =>
 g1 a true c (wInt .u8 .leq b (.pv (.sc (.int .u8 57)))) fun e f =>
 wPick a e (BB false) fun g =>
 QR g f) : P113_0 R N O T t0 s QR :=
  pC lv113 cF h
theorem e113 {u0 : AV} {Post : AV → Prop} (hcl : closeL [] 0 0 [t0] = some [u0]) (h : P113_0 R 0 0 0 u0 ⟨[],[]⟩ (QP Post)) : PureC (env R) 113 [t0] Post :=
  hR Tryz.func113 hcl h
theorem p84_0 (h :
 xC R 84 N O T 108 [t0,t1] s fun a b =>
 xI .geq a (I64 0) fun c =>
 QR c b) : P84_0 R N O T t0 t1 s QR :=
  pC lv84 cF h
theorem e84 {u0 u1 : AV} {Post : AV → Prop} (hcl : closeL [] 0 0 [t0,t1] = some [u0,u1]) (h : P84_0 R 0 0 0 u0 u1 ⟨[],[]⟩ (QP Post)) : PureC (env R) 84 [t0,t1] Post :=
  hR Tryz.func84 hcl h
theorem p108_0 (h :
 wLen s t0 fun a =>
 P108_1 R N O T t0 t1 a (I64 0) s QR) : P108_0 R N O T t0 t1 s QR :=
  pC lv108 cF h
theorem p108_1 (h :
 xI .lss t8 t7 fun a =>
 wCond a (
 P108_2 R N O T t0 t1 t7 t8 a s QR) (
 P108_3 R N O T  s QR)) : P108_1 R N O T t0 t1 t7 t8 s QR :=
  pL lv108 cF h
theorem p108_2 (h :
 wIdx s 1 t0 t8 fun a =>
 xL R s a fun b =>
 wStr .eql t1 b fun c =>
 wCond c (
 QR t8 s) (
 P108_4 R N O T t0 t1 t7 t8 s QR)) : P108_2 R N O T t0 t1 t7 t8 t9 s QR :=
  pC lv108 cF h
theorem p108_3 (h :
 QR (I64 (-1)) s) : P108_3 R N O T  s QR :=
  pC lv108 cF h
theorem p108_4 (h :
 xI .add t8 (I64 1) fun a =>
 P108_1 R N O T t0 t1 t7 a s QR) : P108_4 R N O T t0 t1 t7 t8 s QR :=
  pC lv108 cF h
theorem e108 {u0 u1 : AV} {Post : AV → Prop} (hcl : closeL [] 0 0 [t0,t1] = some [u0,u1]) (h : P108_0 R 0 0 0 u0 u1 ⟨[],[]⟩ (QP Post)) : PureC (env R) 108 [t0,t1] Post :=
  hR Tryz.func108 hcl h
theorem p101_0 (h :
 wBox s t0 fun a b =>
 xF R b a 3 fun d =>
 xC R 101 N O T 79 [d,(.func (.func 119) [] [])] b fun e f =>
 wNot e fun g =>
 QR g f) : P101_0 R N O T t0 s QR :=
  pC lv101 cF h
theorem e101 {u0 : AV} {Post : AV → Prop} (hcl : closeL [] 0 0 [t0] = some [u0]) (h : P101_0 R 0 0 0 u0 ⟨[],[]⟩ (QP Post)) : PureC (env R) 101 [t0] Post :=
  hR Tryz.func101 hcl h
theorem p119_0 (h :
 wBox s t0 fun a b =>
 xM R b 4 a fun c =>
 xC R 119 N O T 120 [c] b fun d e =>
 wNot d fun f =>
 QR f e) : P119_0 R N O T t0 s QR :=
  pC lv119 cF h
theorem e119 {Post : AV → Prop} (hn : noIdL [t0] = true) (h : P119_0 R 0 0 0 t0 ⟨[],[]⟩ (QP Post)) : PureC (env R) 119 [t0] Post :=
  call_imp (fn := Tryz.f119) (body := b119) Tryz.func119 (by kernel_rfl) (by kernel_rfl) (by kernel_rfl) (aLs0022 (by kernel_rfl)) hn (mpK h (by kernel_rfl))
theorem p120_0 (h :
 wBox s t0 fun a b =>
 xF R b a 0 fun d =>
 xI .eql d (I64 5) fun e =>
 g1 e false b (xM R b 4 a) fun g i =>
 wGK e false i (xC R 120 N O T 102 [g,(I64 0)] i) fun l m =>
 wPick e (BB true) l fun n =>
 g1 n false m (wFad m a 0) fun p q =>
 g1 n false q (xL R q p) fun v w =>
 g1 n false w (xI .eql v (I64 2)) fun y z =>
 g0 n false z y fun aa ab =>
 g1 aa true ab (xM R ab 4 a) fun ad ae =>
 wGK aa true ae (xC R 120 N O T 101 [ad] ae) fun ah ai =>
 g1 n false ai (wPick aa ah (BB false)) fun ak al =>
 wPick n (BB true) ak fun am =>
 QR am al) : P120_0 R N O T t0 s QR :=
  pC lv120 cF h
theorem e120 {u0 : AV} {Post : AV → Prop} (hcl : closeL [] 0 0 [t0] = some [u0]) (h : P120_0 R 0 0 0 u0 ⟨[],[]⟩ (QP Post)) : PureC (env R) 120 [t0] Post :=
  hR Tryz.func120 hcl h
theorem p102_0 (h :
 wBox s t0 fun a b =>
 xF R b a 0 fun d =>
 xI .eql d (I64 5) fun e =>
 g1 e true b (wFad b a 2) fun g i =>
 g1 e true i (xL R i g) fun k l =>
 g0 e true l t1 fun m n =>
 g1 e true n (xI .geq k m) fun p q =>
 wPick e p (BB false) fun u =>
 wCond u (
 QR (BB false) q) (
 P102_1 R N O T t1 a q QR)) : P102_0 R N O T t0 t1 s QR :=
  pC lv102 cF h
theorem p102_1 (h :
 xF R s t2 3 fun b =>
 wLen s b fun c =>
 P102_2 R N O T t1 t2 b c (I64 0) s QR) : P102_1 R N O T t1 t2 s QR :=
  pC lv102 cF h
theorem p102_2 (h :
 xI .lss t19 t18 fun a =>
 wCond a (
 P102_3 R N O T t1 t2 t17 t18 t19 a s QR) (
 P102_4 R N O T  s QR)) : P102_2 R N O T t1 t2 t17 t18 t19 s QR :=
  pL lv102 cF h
theorem p102_3 (h :
 wIdx s 4 t17 t19 fun a =>
 xM R s 4 a fun b =>
 wNew s Y4 fun c d =>
 wSt (lf R 102 N O T) d 4 c b fun e =>
 xM R e 4 c fun f =>
 xM R e 4 t2 fun g =>
 xC R 102 N O T 121 [g,t19] e fun i j =>
 xI .add t1 i fun k =>
 xC R 102 N O T 102 [f,k] j fun l m =>
 wNot l fun n =>
(xM R j 4 c fun o => eqA o f = true) ∧
 wCond n (
 QR (BB false) m) (
 P102_5 R N O T t1 t2 t17 t18 t19 m QR)) : P102_3 R N O T t1 t2 t17 t18 t19 t20 s QR :=
  pC lv102 cF h
theorem p102_4 (h :
 QR (BB true) s) : P102_4 R N O T  s QR :=
  pC lv102 cF h
theorem p102_5 (h :
 xI .add t19 (I64 1) fun a =>
 P102_2 R N O T t1 t2 t17 t18 a s QR) : P102_5 R N O T t1 t2 t17 t18 t19 s QR :=
  pC lv102 cF h
theorem e102 {u0 u1 : AV} {Post : AV → Prop} (hcl : closeL [] 0 0 [t0,t1] = some [u0,u1]) (h : P102_0 R 0 0 0 u0 u1 ⟨[],[]⟩ (QP Post)) : PureC (env R) 102 [t0,t1] Post :=
  hR Tryz.func102 hcl h
theorem p121_0 (h :
 wBox s t0 fun a b =>
 xF R b a 0 fun d =>
 xI .eql d (I64 6) fun e =>
 g0 e true b t1 fun f g =>
 g1 e true g (xI .eql f (I64 1)) fun j k =>
 wPick e j (BB false) fun l =>
 wCond l (
 QR (I64 1) k) (
 P121_1 R N O T  k QR)) : P121_0 R N O T t0 t1 s QR :=
  pC lv121 cF h
theorem p121_1 (h :
 QR (I64 0) s) : P121_1 R N O T  s QR :=
  pC lv121 cF h
theorem e121 {u0 u1 : AV} {Post : AV → Prop} (hcl : closeL [] 0 0 [t0,t1] = some [u0,u1]) (h : P121_0 R 0 0 0 u0 u1 ⟨[],[]⟩ (QP Post)) : PureC (env R) 121 [t0,t1] Post :=
  hR Tryz.func121 hcl h
theorem p103_0 (h :
 wLen s t0 fun a =>
 P103_1 R N O T t0 t1 a (I64 0) s QR) : P103_0 R N O T t0 t1 s QR :=
  pC lv103 cF h
theorem p103_1 (h :
 xI .lss t8 t7 fun a =>
 wCond a (
 P103_2 R N O T t0 t1 t7 t8 a s QR) (
 P103_3 R N O T  s QR)) : P103_1 R N O T t0 t1 t7 t8 s QR :=
  pL lv103 cF h
theorem p103_2 (h :
 wIdx s 4 t0 t8 fun a =>
 xM R s 4 a fun b =>
 wCall (env R) (lf R 103 N O T) t1 [b] s fun c d =>
 wCond c (
 QR t8 d) (
 P103_4 R N O T t0 t1 t7 t8 d QR)) : P103_2 R N O T t0 t1 t7 t8 t9 s QR :=
  pC lv103 cF h
theorem p103_3 (h :
 QR (I64 (-1)) s) : P103_3 R N O T  s QR :=
  pC lv103 cF h
theorem p103_4 (h :
 xI .add t8 (I64 1) fun a =>
 P103_1 R N O T t0 t1 t7 a s QR) : P103_4 R N O T t0 t1 t7 t8 s QR :=
  pC lv103 cF h
theorem e103 {Post : AV → Prop} (hn : noIdL [t0,t1] = true) (h : P103_0 R 0 0 0 t0 t1 ⟨[],[]⟩ (QP Post)) : PureC (env R) 103 [t0,t1] Post :=
  call_imp (fn := Tryz.f103) (body := b103) Tryz.func103 (by kernel_rfl) (by kernel_rfl) (by kernel_rfl) (aLs0022 (by kernel_rfl)) hn (mpK h (by kernel_rfl))
theorem p14_0 (h :
 wBox s t0 fun a b =>
 xM R b 4 a fun c =>
 xC R 14 N O T 40 [c] b fun d e =>
 xI .gtr d (I64 200) fun f =>
 g1 f false e (xM R e 4 a) fun i j =>
 wGK f false j (xC R 14 N O T 41 [i] j) fun m n =>
 g1 f false n (xI .gtr m (I64 12)) fun p q =>
 wPick f (BB true) p fun u =>
 wCond u (
 QR (I64 4) q) (
 xM R q 4 a fun v =>
 xC R 14 N O T 42 [v] q fun w x =>
 wNot w fun y =>
 wCond y (
 QR (I64 2) x) (
 P14_1 R N O T  x QR))) : P14_0 R N O T t0 s QR :=
  pC lv14 cF h
theorem p14_1 (h :
 QR (I64 0) s) : P14_1 R N O T  s QR :=
  pC lv14 cF h
theorem e14 {u0 : AV} {Post : AV → Prop} (hcl : closeL [] 0 0 [t0] = some [u0]) (h : P14_0 R 0 0 0 u0 ⟨[],[]⟩ (QP Post)) : PureC (env R) 14 [t0] Post :=
  hR Tryz.func14 hcl h
theorem p40_0 (h :
 wBox s t0 fun a b =>
 P40_1 R N O T a (I64 1) (I64 0) b QR) : P40_0 R N O T t0 s QR :=
  pC lv40 cF h
theorem p40_1 (h :
 xF R s t1 3 fun b =>
 wLen s b fun c =>
 xI .lss t4 c fun d =>
 wCond d (
 P40_2 R N O T t1 t3 t4 s QR) (
 P40_3 R N O T t3 s QR)) : P40_1 R N O T t1 t3 t4 s QR :=
  pL lv40 cF h
theorem p40_2 (h :
 xF R s t1 3 fun b =>
 wIdx s 4 b t4 fun c =>
 xM R s 4 c fun d =>
 xC R 40 N O T 40 [d] s fun e f =>
 xI .add t3 e fun g =>
 P40_4 R N O T t1 g t4 f QR) : P40_2 R N O T t1 t3 t4 s QR :=
  pC lv40 cF h
theorem p40_3 (h :
 QR t3 s) : P40_3 R N O T t3 s QR :=
  pC lv40 cF h
theorem p40_4 (h :
 xI .add t4 (I64 1) fun a =>
 P40_1 R N O T t1 t3 a s QR) : P40_4 R N O T t1 t3 t4 s QR :=
  pC lv40 cF h
theorem e40 {u0 : AV} {Post : AV → Prop} (hcl : closeL [] 0 0 [t0] = some [u0]) (h : P40_0 R 0 0 0 u0 ⟨[],[]⟩ (QP Post)) : PureC (env R) 40 [t0] Post :=
  hR Tryz.func40 hcl h
theorem p41_0 (h :
 wBox s t0 fun a b =>
 P41_1 R N O T a (I64 0) (I64 0) b QR) : P41_0 R N O T t0 s QR :=
  pC lv41 cF h
theorem p41_1 (h :
 xF R s t1 3 fun b =>
 wLen s b fun c =>
 xI .lss t4 c fun d =>
 wCond d (
 P41_2 R N O T t1 t3 t4 s QR) (
 P41_3 R N O T t3 s QR)) : P41_1 R N O T t1 t3 t4 s QR :=
  pL lv41 cF h
theorem p41_2 (h :
 wFad s t1 3 fun a =>
 xL R s a fun b =>
 wIdx s 4 b t4 fun c =>
 xM R s 4 c fun d =>
 xC R 41 N O T 41 [d] s fun e f =>
 wAnyT (env R) (lf R 41 N O T) f (lkE [(18,e),(17,d),(16,c),(15,t4),(14,b),(13,a),(12,t3),(1,t1),(3,t3),(4,t4)]) (opOf (sn b41 932) 7) fun g i =>
 P41_4 R N O T t1 g t4 i QR) : P41_2 R N O T t1 t3 t4 s QR :=
  pC lv41 cF h
theorem p41_3 (h :
 xI .add t3 (I64 1) fun a =>
 QR a s) : P41_3 R N O T t3 s QR :=
  pC lv41 cF h
theorem p41_4 (h :
 xI .add t4 (I64 1) fun a =>
 P41_1 R N O T t1 t3 a s QR) : P41_4 R N O T t1 t3 t4 s QR :=
  pC lv41 cF h
theorem e41 {u0 : AV} {Post : AV → Prop} (hcl : closeL [] 0 0 [t0] = some [u0]) (h : P41_0 R 0 0 0 u0 ⟨[],[]⟩ (QP Post)) : PureC (env R) 41 [t0] Post :=
  hR Tryz.func41 hcl h
theorem p42_0 (h :
 wBox s t0 fun a b =>
 xF R b a 3 fun d =>
 wLen b d fun e =>
 xF R b a 0 fun g =>
 xI .neq g (I64 2) fun i =>
 g1 i true b (wFad b a 1) fun k l =>
 g1 i true l (xL R l k) fun n o =>
 g1 i true o (wStr .neq n (SS [])) fun q u =>
 wPick i q (BB false) fun v =>
 g1 v false u (wFad u a 0) fun x y =>
 g1 v false y (xL R y x) fun aa ab =>
 g1 v false ab (xI .neq aa (I64 5)) fun ad ae =>
 g0 v false ae ad fun af ag =>
 g1 af true ag (wFad ag a 2) fun ai aj =>
 g1 af true aj (xL R aj ai) fun al am =>
 g1 af true am (xI .neq al (I64 0)) fun ao ap =>
 g1 v false ap (wPick af ao (BB false)) fun ar au =>
 wPick v (BB true) ar fun av =>
 wCond av (
 QR (BB false) au) (
 P42_1 R N O T a e au QR)) : P42_0 R N O T t0 s QR :=
  pC lv42 cF h
theorem p42_1 (h :
 xF R s t1 0 fun b =>
 xI .eql b (I64 0) fun c =>
 wCond c (
 P42_2 R N O T t1 t3 b c s QR) (
 xI .eql b (I64 1) fun d =>
 P42_2 R N O T t1 t3 b d s QR)) : P42_1 R N O T t1 t3 s QR :=
  pC lv42 cF h
theorem p42_2 (h :
 wCond t29 (
 xI .eql t3 (I64 0) fun a =>
 QR a s) (
 xI .eql t28 (I64 5) fun b =>
 wCond b (
 xI .eql t3 (I64 0) fun c =>
 g1 c true s (wFad s t1 2) fun e f =>
 g1 c true f (xL R f e) fun i j =>
 g1 c true j (xI .geq i (I64 0)) fun l m =>
 wPick c l (BB false) fun n =>
 g1 n true m (wFad m t1 2) fun p q =>
 g1 n true q (xL R q p) fun v w =>
 g1 n true w (xI .leq v (I64 200)) fun y z =>
 wPick n y (BB false) fun aa =>
 QR aa z) (
 xI .eql t28 (I64 2) fun ab =>
 wCond ab (
 xF R s t1 1 fun ad =>
 xC R 42 N O T 67 [ad] s fun ae af =>
 wNot ae fun ag =>
 g1 ag false af (wFad af t1 1) fun ai aj =>
 g1 ag false aj (xL R aj ai) fun al am =>
 wGK ag false am (xC R 42 N O T 68 [al] am) fun ap aq =>
 wPick ag (BB true) ap fun ar =>
 g0 ar false aq t3 fun au av =>
 g1 ar false av (xI .gtr au (I64 6)) fun ax ay =>
 wPick ar (BB true) ax fun az =>
 wCond az (
 QR (BB false) ay) (
 P42_3 R N O T t1 t3 ay QR)) (
 xI .eql t28 (I64 3) fun a0 =>
 wCond a0 (
 xI .gtr t3 (I64 6) fun a1 =>
 wCond a1 (
 QR (BB false) s) (
 P42_4 R N O T t1 t3 s QR)) (
 xI .eql t28 (I64 4) fun a2 =>
 wCond a2 (
 xI .lss t3 (I64 2) fun a3 =>
 wCond a3 (
 QR (BB false) s) (
 P42_4 R N O T t1 t3 s QR)) (
 xI .eql t28 (I64 6) fun a4 =>
 wCond a4 (
 xI .neq t3 (I64 2) fun a5 =>
 g1 a5 false s (wFad s t1 3) fun a7 a8 =>
 g1 a5 false a8 (xL R a8 a7) fun ba bb =>
 g1 a5 false bb (wIdx bb 4 ba (I64 0)) fun bd be =>
 g1 a5 false be (xM R be 4 bd) fun bg bh =>
 wGK a5 false bh (xC R 42 N O T 70 [bg] bh) fun bk bl =>
 g1 a5 false bl (wNot bk) fun bn bo =>
 wPick a5 (BB true) bn fun bp =>
 wCond bp (
 QR (BB false) bo) (
 P42_4 R N O T t1 t3 bo QR)) (
 QR (BB false) s))))))) : P42_2 R N O T t1 t3 t28 t29 s QR :=
  pC lv42 cF h
theorem p42_3 (h :
 P42_5 R N O T t1 t3 (I64 0) s QR) : P42_3 R N O T t1 t3 s QR :=
  pC lv42 cF h
theorem p42_4 (h :
 P42_6 R N O T t1 t3 (I64 0) s QR) : P42_4 R N O T t1 t3 s QR :=
  pC lv42 cF h
theorem p42_5 (h :
 xI .lss t4 t3 fun a =>
 wCond a (
 P42_7 R N O T t1 t3 t4 s QR) (
 P42_4 R N O T t1 t3 s QR)) : P42_5 R N O T t1 t3 t4 s QR :=
  pL lv42 cF h
theorem p42_6 (h :
 xI .lss t5 t3 fun a =>
 wCond a (
 P42_8 R N O T t1 t3 t5 s QR) (
 P42_9 R N O T  s QR)) : P42_6 R N O T t1 t3 t5 s QR :=
  pL lv42 cF h
theorem p42_7 (h :
 xF R s t1 3 fun b =>
 wIdx s 4 b t4 fun c =>
 xM R s 4 c fun d =>
 xC R 42 N O T 69 [d] s fun e f =>
 wNot e fun g =>
 wCond g (
 QR (BB false) f) (
 P42_10 R N O T t1 t3 t4 f QR)) : P42_7 R N O T t1 t3 t4 s QR :=
  pC lv42 cF h
theorem p42_8 (h :
 xF R s t1 3 fun b =>
 wIdx s 4 b t5 fun c =>
 xM R s 4 c fun d =>
 xC R 42 N O T 42 [d] s fun e f =>
 wNot e fun g =>
 wCond g (
 QR (BB false) f) (
 P42_11 R N O T t1 t3 t5 f QR)) : P42_8 R N O T t1 t3 t5 s QR :=
  pC lv42 cF h
theorem p42_9 (h :
 QR (BB true) s) : P42_9 R N O T  s QR :=
  pC lv42 cF h
theorem p42_10 (h :
 xI .add t4 (I64 1) fun a =>
 P42_5 R N O T t1 t3 a s QR) : P42_10 R N O T t1 t3 t4 s QR :=
  pC lv42 cF h
theorem p42_11 (h :
 xI .add t5 (I64 1) fun a =>
 P42_6 R N O T t1 t3 a s QR) : P42_11 R N O T t1 t3 t5 s QR :=
  pC lv42 cF h
theorem e42 {u0 : AV} {Post : AV → Prop} (hcl : closeL [] 0 0 [t0] = some [u0]) (h : P42_0 R 0 0 0 u0 ⟨[],[]⟩ (QP Post)) : PureC (env R) 42 [t0] Post :=
  hR Tryz.func42 hcl h
theorem p67_0 (h :
 wSlen t0 fun a =>
 xI .lss a (I64 1) fun b =>
 g0 b false s t0 fun c d =>
 g1 b false d (wSlen c) fun f g =>
 g1 b false g (xI .gtr f (I64 24)) fun j k =>
 wPick b (BB true) j fun l =>
 g0 l false k t0 fun m n =>
 g1 l false n (wSidx m (I64 0)) fun p q =>
 wGK l false q (xC R 67 N O T 94 [p] q) fun w x =>
 g1 l false x (wNot w) fun z aa =>
 wPick l (BB true) z fun ab =>
 wCond ab (
 QR (BB false) aa) (
 P67_1 R N O T t0 aa QR)) : P67_0 R N O T t0 s QR :=
  pC lv67 cF h
theorem p67_1 (h :
 P67_2 R N O T t0 (I64 0) s QR) : P67_1 R N O T t0 s QR :=
  pC lv67 cF h
theorem p67_2 (h :
 wSlen t0 fun a =>
 xI .lss t3 a fun b =>
 wCond b (
 P67_3 R N O T t0 t3 s QR) (
 P67_4 R N O T  s QR)) : P67_2 R N O T t0 t3 s QR :=
  pL lv67 cF h
theorem p67_3 (h :
 wSidx t0 t3 fun a =>
 xC R 67 N O T 95 [a] s fun b c =>
 wNot b fun d =>
 g0 d false c t0 fun e f =>
 g0 d false f t3 fun g i =>
 g1 d false i (wSidx e g) fun k l =>
 g1 d false l (wInt .u8 .eql k (.pv (.sc (.int .u8 45)))) fun n o =>
 wPick d (BB true) n fun p =>
 wCond p (
 QR (BB false) o) (
 P67_5 R N O T t0 t3 o QR)) : P67_3 R N O T t0 t3 s QR :=
  pC lv67 cF h
theorem p67_4 (h :
 QR (BB true) s) : P67_4 R N O T  s QR :=
  pC lv67 cF h
theorem p67_5 (h :
 xI .add t3 (I64 1) fun a =>
 P67_2 R N O T t0 a s QR) : P67_5 R N O T t0 t3 s QR :=
  pC lv67 cF h
theorem e67 {u0 : AV} {Post : AV → Prop} (hcl : closeL [] 0 0 [t0] = some [u0]) (h : P67_0 R 0 0 0 u0 ⟨[],[]⟩ (QP Post)) : PureC (env R) 67 [t0] Post :=
  hR Tryz.func67 hcl h
theorem p68_0 (h :
 wStr .eql t0 (SS [65,110,121]) fun a =>
 g0 a false s t0 fun b c =>
 g1 a false c (wStr .eql b (SS [78,101,118,101,114])) fun e f =>
 wPick a (BB true) e fun g =>
 g0 g false f t0 fun i j =>
 g1 g false j (wStr .eql i (SS [116,117,112,108,101])) fun l m =>
 wPick g (BB true) l fun n =>
 g0 n false m t0 fun o p =>
 g1 n false p (wStr .eql o (SS [117,110,105,111,110])) fun u v =>
 wPick n (BB true) u fun w =>
 g0 w false v t0 fun x y =>
 g1 w false y (wStr .eql x (SS [101,120,105,115,116,115])) fun aa ab =>
 wPick w (BB true) aa fun ac =>
 QR ac ab) : P68_0 R N O T t0 s QR :=
  pC lv68 cF h
theorem e68 {u0 : AV} {Post : AV → Prop} (hcl : closeL [] 0 0 [t0] = some [u0]) (h : P68_0 R 0 0 0 u0 ⟨[],[]⟩ (QP Post)) : PureC (env R) 68 [t0] Post :=
  hR Tryz.func68 hcl h
theorem p69_0 (h :
 wBox s t0 fun a b =>
 xF R b a 0 fun d =>
 xI .eql d (I64 5) fun e =>
 g1 e false b (xM R b 4 a) fun g i =>
 wGK e false i (xC R 69 N O T 70 [g] i) fun l m =>
 wPick e (BB true) l fun n =>
 wCond n (
 QR (BB true) m) (
 P69_1 R N O T a m QR)) : P69_0 R N O T t0 s QR :=
  pC lv69 cF h
theorem p69_1 (h :
 P69_2 R N O T t1 (I64 0) s QR) : P69_1 R N O T t1 s QR :=
  pC lv69 cF h
theorem p69_2 (h :
 xF R s t1 3 fun b =>
 wLen s b fun c =>
 xI .lss t3 c fun d =>
 wCond d (
 P69_3 R N O T t1 t3 s QR) (
 P69_4 R N O T t1 s QR)) : P69_2 R N O T t1 t3 s QR :=
  pL lv69 cF h
theorem p69_3 (h :
 xF R s t1 3 fun b =>
 wIdx s 4 b t3 fun c =>
 xM R s 4 c fun d =>
 xC R 69 N O T 69 [d] s fun e f =>
 wNot e fun g =>
 wCond g (
 QR (BB false) f) (
 P69_5 R N O T t1 t3 f QR)) : P69_3 R N O T t1 t3 s QR :=
  pC lv69 cF h
theorem p69_4 (h :
 xF R s t1 0 fun b =>
 xI .eql b (I64 2) fun c =>
 QR c s) : P69_4 R N O T t1 s QR :=
  pC lv69 cF h
theorem p69_5 (h :
 xI .add t3 (I64 1) fun a =>
 P69_2 R N O T t1 a s QR) : P69_5 R N O T t1 t3 s QR :=
  pC lv69 cF h
theorem e69 {u0 : AV} {Post : AV → Prop} (hcl : closeL [] 0 0 [t0] = some [u0]) (h : P69_0 R 0 0 0 u0 ⟨[],[]⟩ (QP Post)) : PureC (env R) 69 [t0] Post :=
  hR Tryz.func69 hcl h
theorem p70_0 (h :
 wBox s t0 fun a b =>
 xM R b 4 a fun c =>
 xC R 70 N O T 96 [c] b fun d e =>
 wLen e d fun f =>
 xI .eql f (I64 0) fun g =>
 QR g e) : P70_0 R N O T t0 s QR :=
  pC lv70 cF h
theorem e70 {u0 : AV} {Post : AV → Prop} (hcl : closeL [] 0 0 [t0] = some [u0]) (h : P70_0 R 0 0 0 u0 ⟨[],[]⟩ (QP Post)) : PureC (env R) 70 [t0] Post :=
  hR Tryz.func70 hcl h
theorem p96_0 (h :
 wBox s t0 fun a b =>
 xM R b 4 a fun c =>
 xC R 96 N O T 115 [c,(I64 0),(.capped [])] b fun d e =>
 QR d e) : P96_0 R N O T t0 s QR :=
  pC lv96 cF h
theorem e96 {u0 : AV} {Post : AV → Prop} (hcl : closeL [] 0 0 [t0] = some [u0]) (h : P96_0 R 0 0 0 u0 ⟨[],[]⟩ (QP Post)) : PureC (env R) 96 [t0] Post :=
  hR Tryz.func96 hcl h
theorem p115_0 (h :
 wBox s t0 fun a b =>
 xF R b a 0 fun d =>
 xI .eql d (I64 5) fun e =>
 g1 e true b (wFad b a 2) fun g i =>
 g1 e true i (xL R i g) fun k l =>
 g0 e true l t1 fun m n =>
 g1 e true n (xI .geq k m) fun p q =>
 wPick e p (BB false) fun u =>
 wCond u (
 xF R q a 2 fun w =>
 xI .sub w t1 fun x =>
 xC R 115 N O T 131 [t2,x] q fun y z =>
 P115_1 R N O T t1 y a z QR) (
 P115_1 R N O T t1 t2 a q QR)) : P115_0 R N O T t0 t1 t2 s QR :=
  pC lv115 cF h
theorem p115_1 (h :
 P115_2 R N O T t1 t2 t3 (I64 0) s QR) : P115_1 R N O T t1 t2 t3 s QR :=
  pC lv115 cF h
theorem p115_2 (h :
 xF R s t3 3 fun b =>
 wLen s b fun c =>
 xI .lss t7 c fun d =>
 wCond d (
 P115_3 R N O T t1 t2 t3 t7 s QR) (
 P115_4 R N O T t2 s QR)) : P115_2 R N O T t1 t2 t3 t7 s QR :=
  pL lv115 cF h
theorem p115_3 (h :
 wFad s t3 3 fun a =>
 xL R s a fun b =>
 wIdx s 4 b t7 fun c =>
 xM R s 4 c fun d =>
 xM R s 4 t3 fun e =>
 xC R 115 N O T 132 [e,t7] s fun f g =>
 xI .add t1 f fun i =>
 xC R 115 N O T 115 [d,i,t2] g fun j k =>
(wFad g t3 3 fun l => eqA l a = true) ∧
(xL R g a fun m => eqA m b = true) ∧
(wIdx g 4 b t7 fun n => eqA n c = true) ∧
(xM R g 4 c fun o => eqA o d = true) ∧
 P115_5 R N O T t1 j t3 t7 k QR) : P115_3 R N O T t1 t2 t3 t7 s QR :=
  pC lv115 cF h
theorem p115_4 (h :
 QR t2 s) : P115_4 R N O T t2 s QR :=
  pC lv115 cF h
theorem p115_5 (h :
 xI .add t7 (I64 1) fun a =>
 P115_2 R N O T t1 t2 t3 a s QR) : P115_5 R N O T t1 t2 t3 t7 s QR :=
  pC lv115 cF h
theorem e115 {u0 u1 u2 : AV} {Post : AV → Prop} (hcl : closeL [] 0 0 [t0,t1,t2] = some [u0,u1,u2]) (h : P115_0 R 0 0 0 u0 u1 u2 ⟨[],[]⟩ (QP Post)) : PureC (env R) 115 [t0,t1,t2] Post :=
  hR Tryz.func115 hcl h
theorem p131_0 (h :
 P131_1 R N O T t0 t1 (I64 0) s QR) : P131_0 R N O T t0 t1 s QR :=
  pC lv131 cF h
theorem p131_1 (h :
 wLen s t0 fun a =>
 xI .lss t5 a fun b =>
 g0 b true s t0 fun c d =>
 g0 b true d t5 fun e f =>
 g1 b true f (wIdx f 1 c e) fun i j =>
 g1 b true j (xL R j i) fun l m =>
 g0 b true m t1 fun n o =>
 g1 b true o (xI .lss l n) fun q u =>
 wPick b q (BB false) fun v =>
 wCond v (
 P131_2 R N O T t0 t1 t5 u QR) (
 P131_3 R N O T t0 t1 t5 u QR)) : P131_1 R N O T t0 t1 t5 s QR :=
  pL lv131 cF h
theorem p131_2 (h :
 xI .add t5 (I64 1) fun a =>
 P131_1 R N O T t0 t1 a s QR) : P131_2 R N O T t0 t1 t5 s QR :=
  pC lv131 cF h
theorem p131_3 (h :
 wLen s t0 fun a =>
 xI .lss t5 a fun b =>
 g0 b true s t0 fun c d =>
 g0 b true d t5 fun e f =>
 g1 b true f (wIdx f 1 c e) fun i j =>
 g1 b true j (xL R j i) fun l m =>
 g0 b true m t1 fun n o =>
 g1 b true o (xI .eql l n) fun q u =>
 wPick b q (BB false) fun v =>
 wCond v (
 QR t0 u) (
 P131_4 R N O T t0 t1 t5 u QR)) : P131_3 R N O T t0 t1 t5 s QR :=
  pC lv131 cF h
theorem p131_4 (h :
 wBsl false s 1 [(I64 0)] 0 [] fun a b =>
 wSlc s 1 t0 none (some t5) none fun c =>
(1 = 1 ∧ 1 ≠ 0) ∧ wApp false (lf R 131 N O T) s 3 1 8 a c fun d e =>
 wBsl false e 1 [(I64 0)] 1 [(0,1,t1)] fun f g =>
(1 = 1 ∧ 1 ≠ 0) ∧ wApp false (lf R 131 N O T) e 3 1 8 d f fun i j =>
 wSlc j 1 t0 (some t5) none none fun k =>
(1 = 1 ∧ 1 ≠ 0) ∧ wApp false (lf R 131 N O T) j 3 1 8 i k fun l m =>
(wSlc s 1 t0 (some t5) none none fun n => eqA n k = true) ∧
(wSlc e 1 t0 (some t5) none none fun o => eqA o k = true) ∧
 QR l m) : P131_4 R N O T t0 t1 t5 s QR :=
  pC lv131 cF h
theorem e131 {u0 u1 : AV} {Post : AV → Prop} (hcl : closeL [] 0 0 [t0,t1] = some [u0,u1]) (h : P131_0 R 0 0 0 u0 u1 ⟨[],[]⟩ (QP Post)) : PureC (env R) 131 [t0,t1] Post :=
  hR Tryz.func131 hcl h
theorem p132_0 (h :
 wBox s t0 fun a b =>
 xF R b a 0 fun d =>
 xI .eql d (I64 6) fun e =>
 g0 e true b t1 fun f g =>
 g1 e true g (xI .eql f (I64 1)) fun j k =>
 wPick e j (BB false) fun l =>
 wCond l (
 QR (I64 1) k) (
 P132_1 R N O T  k QR)) : P132_0 R N O T t0 t1 s QR :=
  pC lv132 cF h
theorem p132_1 (h :
 QR (I64 0) s) : P132_1 R N O T  s QR :=
  pC lv132 cF h
theorem e132 {u0 u1 : AV} {Post : AV → Prop} (hcl : closeL [] 0 0 [t0,t1] = some [u0,u1]) (h : P132_0 R 0 0 0 u0 u1 ⟨[],[]⟩ (QP Post)) : PureC (env R) 132 [t0,t1] Post :=
  hR Tryz.func132 hcl h
theorem p94_0 (h :
 wInt .u8 .geq t0 (.pv (.sc (.int .u8 97))) fun a =>
 g0 a true s t0 fun b c =>
 g1 a true c (wInt .u8 .leq b (.pv (.sc (.int .u8 122)))) fun e f =>
 wPick a e (BB false) fun g =>
 g0 g false f t0 fun i j =>
 g1 g false j (wInt .u8 .geq i (.pv (.sc (.int .u8 65)))) fun l m =>
 g0 g false m l fun n o =>
 g0 n true o t0 fun p q =>
 g1 n true q (wInt .u8 .leq p (.pv (.sc (.int .u8 90)))) fun v w =>
 g1 g false w (wPick n v (BB false)) fun y z =>
 wPick g (BB true) y fun aa =>
 QR aa z) : P94_0 R N O T t0 s QR :=
  pC lv94 cF h
theorem e94 {u0 : AV} {Post : AV → Prop} (hcl : closeL [] 0 0 [t0] = some [u0]) (h : P94_0 R 0 0 0 u0 ⟨[],[]⟩ (QP Post)) : PureC (env R) 94 [t0] Post :=
  hR Tryz.func94 hcl h
theorem p95_0 (h :
 xC R 95 N O T 94 [t0] s fun a b =>
 g0 a false b t0 fun c d =>
 wGK a false d (xC R 95 N O T 114 [c] d) fun g i =>
 wPick a (BB true) g fun j =>
 g0 j false i t0 fun k l =>
 g1 j false l (wInt .u8 .eql k (.pv (.sc (.int .u8 95)))) fun n o =>
 wPick j (BB true) n fun p =>
 g0 p false o t0 fun q u =>
 g1 p false u (wInt .u8 .eql q (.pv (.sc (.int .u8 45)))) fun w x =>
 wPick p (BB true) w fun y =>
 QR y x) : P95_0 R N O T t0 s QR :=
  pC lv95 cF h
theorem e95 {u0 : AV} {Post : AV → Prop} (hcl : closeL [] 0 0 [t0] = some [u0]) (h : P95_0 R 0 0 0 u0 ⟨[],[]⟩ (QP Post)) : PureC (env R) 95 [t0] Post :=
  hR Tryz.func95 hcl h
theorem p114_0 (h :
 wInt .u8 .geq t0 (.pv (.sc (.int .u8 48))) fun a =>
 g0 a true s t0 fun b c =>
 g1 a true c (wInt .u8 .leq b (.pv (.sc (.int .u8 57)))) fun e f =>
 wPick a e (BB false) fun g =>
 QR g f) : P114_0 R N O T t0 s QR :=
  pC lv114 cF h
theorem e114 {u0 : AV} {Post : AV → Prop} (hcl : closeL [] 0 0 [t0] = some [u0]) (h : P114_0 R 0 0 0 u0 ⟨[],[]⟩ (QP Post)) : PureC (env R) 114 [t0] Post :=
  hR Tryz.func114 hcl h
end
noncomputable section
section
variable (R : RT) (N O T : Nat) (t0 t1 t2 t3 t4 t5 t6 t7 t8 t9 t14 t15 t16 t17 t18 t19 : AV)
noncomputable def b10 : Code := Tryz.f10.body.getD .skip
def lv10 : Nat → List Nat := ln [[],[1],[1,6],[1],[1,3],[3]]
abbrev Q10 := Wq R N O T 10 18 [.tmp 2]
def P10_0 := Q10 R N O T (aT b10 1) [(0,t0)]
def P10_1 := Q10 R N O T (aT b10 7) [(1,t1)]
noncomputable def b29 : Code := Tryz.f29.body.getD .skip
def lv29 : Nat → List Nat := ln [[],[1],[1,3],[3]]
abbrev Q29 := Wq R N O T 29 8 [.tmp 2]
def P29_0 := Q29 R N O T (aT b29 1) [(0,t0)]
noncomputable def b30 : Code := Tryz.f30.body.getD .skip
def lv30 : Nat → List Nat := ln ([]::[0,2,4]::[0,2,4,9]::[0,2,4,9,10]::[]::[0,2,4,9,16]::[]::[0,2,4,9,22]::[]::[0,2,4,9,29]::[]::[0,2,4,9,36]::[0,2,4,6]::[0,2,4,6,45]::[]::[]::[0,2,4,9,65]::rp 4 [0,2,4,7] [[0],[],[0,2,4,102],[0,2,4,107],[0,2,4]])
abbrev Q30 := Wq R N O T 30 121 []
def P30_0 := Q30 R N O T (aT b30 1) [(0,t0),(1,t1),(2,t2)]
def P30_1 := Q30 R N O T (aT b30 491517) [(0,t0),(2,t2),(4,t4)]
noncomputable def b57 : Code := Tryz.f57.body.getD .skip
def lv57 : Nat → List Nat := ln [[],[0,2,3],[0,3,16,17,18],[0,3,16,17,18,19],[0,3,9,16,17,18],[0,3,9,16,17,18],[0,3,16,17,18],[0]]
abbrev Q57 := Wq R N O T 57 35 []
def P57_0 := Q57 R N O T (aT b57 1) [(0,t0),(1,t1),(2,t2),(3,t3)]
def P57_1 := Q57 R N O T (aT b57 26) [(0,t0),(3,t3),(16,t16),(17,t17),(18,t18)]
def P57_2 := Q57 R N O T (aT b57 211) [(0,t0),(3,t3),(16,t16),(17,t17),(18,t18),(19,t19)]
def P57_3 := Q57 R N O T (aT b57 7) [(0,t0)]
def P57_4 := Q57 R N O T (aT b57 423) [(0,t0),(3,t3),(16,t16),(17,t17),(18,t18)]
noncomputable def b59 : Code := Tryz.f59.body.getD .skip
def lv59 : Nat → List Nat := ln [[],[0,1],[0,1,5],[0,1,5],[0,1,5,6],[0,1,5,6,15],[0,1,5,6],[0,1,5,6,34]]
abbrev Q59 := Wq R N O T 59 36 [.tmp 4]
def P59_0 := Q59 R N O T (aT b59 1) [(0,t0),(1,t1)]
def P59_1 := Q59 R N O T (aT b59 14) [(0,t0),(1,t1),(5,t5)]
def P59_2 := Q59 R N O T (aT b59 451) [(0,t0),(1,t1),(5,t5),(6,t6)]
def P59_3 := Q59 R N O T (aT b59 57) [(0,t0),(1,t1),(5,t5)]
noncomputable def b56 : Code := Tryz.f56.body.getD .skip
def lv56 : Nat → List Nat := ln [[],[0,1],[0,1],[1]]
abbrev Q56 := Wq R N O T 56 19 [.tmp 4,.tmp 5]
def P56_0 := Q56 R N O T (aT b56 1) [(0,t0),(1,t1)]
noncomputable def b60 : Code := Tryz.f60.body.getD .skip
def lv60 : Nat → List Nat := ln [[],[0,1],[0,1],[]]
abbrev Q60 := Wq R N O T 60 17 [.tmp 4]
def P60_0 := Q60 R N O T (aT b60 1) [(0,t0),(1,t1)]
noncomputable def b55 : Code := Tryz.f55.body.getD .skip
def lv55 : Nat → List Nat := ln [[],[1,2],[1,2,8],[1,2],[1,14,15,16],[1,14,15,16,17],[1,5,14,15,16],[1,14,15,16]]
abbrev Q55 := Wq R N O T 55 24 []
def P55_0 := Q55 R N O T (aT b55 1) [(0,t0),(1,t1)]
def P55_1 := Q55 R N O T (aT b55 7) [(1,t1),(2,t2)]
def P55_2 := Q55 R N O T (aT b55 30) [(1,t1),(14,t14),(15,t15),(16,t16)]
def P55_3 := Q55 R N O T (aT b55 243) [(1,t1),(14,t14),(15,t15),(16,t16),(17,t17)]
def P55_4 := Q55 R N O T (aT b55 487) [(1,t1),(14,t14),(15,t15),(16,t16)]
noncomputable def b81 : Code := Tryz.f81.body.getD .skip
def lv81 : Nat → List Nat := ln [[],[0,1,4,5],[0,1,4,16]]
abbrev Q81 := Wq R N O T 81 28 []
def P81_0 := Q81 R N O T (aT b81 1) [(0,t0),(1,t1)]
noncomputable def b104 : Code := Tryz.f104.body.getD .skip
def lv104 : Nat → List Nat := ln [[],[0,1],[0,1,6],[0,1,6,7,8],[0,1,6,7,8],[0,1,6,7,8,9],[0,1,6,7,8,9,27],[],[0,1,6,7]]
abbrev Q104 := Wq R N O T 104 54 [.tmp 4,.tmp 5]
def P104_0 := Q104 R N O T (aT b104 1) [(0,t0),(1,t1)]
def P104_1 := Q104 R N O T (aT b104 60) [(0,t0),(1,t1),(6,t6),(7,t7),(8,t8)]
def P104_2 := Q104 R N O T (aT b104 241) [(0,t0),(1,t1),(6,t6),(7,t7),(8,t8)]
def P104_3 := Q104 R N O T (aT b104 31) [(0,t0),(1,t1),(6,t6),(7,t7)]
noncomputable def b122 : Code := Tryz.f122.body.getD .skip
def lv122 : Nat → List Nat := ln [[],[0,1]]
abbrev Q122 := Wq R N O T 122 17 [.tmp 4]
def P122_0 := Q122 R N O T (aT b122 1) [(0,t0),(1,t1)]
noncomputable def b123 : Code := Tryz.f123.body.getD .skip
def lv123 : Nat → List Nat := ln [[],[0]]
abbrev Q123 := Wq R N O T 123 6 [.tmp 2]
def P123_0 := Q123 R N O T (aT b123 1) [(0,t0)]
noncomputable def b133 : Code := Tryz.f133.body.getD .skip
def lv133 : Nat → List Nat := ln [[],[0]]
abbrev Q133 := Wq R N O T 133 6 [.tmp 2]
def P133_0 := Q133 R N O T (aT b133 1) [(0,t0)]
noncomputable def b12 : Code := Tryz.f12.body.getD .skip
def lv12 : Nat → List Nat := ln [[],[1],[1,5],[1]]
abbrev Q12 := Wq R N O T 12 10 [.tmp 2]
def P12_0 := Q12 R N O T (aT b12 1) [(0,t0)]
def P12_1 := Q12 R N O T (aT b12 7) [(1,t1)]
noncomputable def b38 : Code := Tryz.f38.body.getD .skip
def lv38 : Nat → List Nat := ln [[],[1]]
abbrev Q38 := Wq R N O T 38 5 [.tmp 2]
def P38_0 := Q38 R N O T (aT b38 1) [(0,t0)]
noncomputable def b64 : Code := Tryz.f64.body.getD .skip
def lv64 : Nat → List Nat := ln ([]::[1,2]::[1,2,8]::[1,2]::rp 3 [1,2,5] [[1]])
abbrev Q64 := Wq R N O T 64 28 [.tmp 4]
def P64_0 := Q64 R N O T (aT b64 1) [(0,t0),(1,t1)]
def P64_1 := Q64 R N O T (aT b64 7) [(1,t1),(2,t2)]
def P64_2 := Q64 R N O T (aT b64 58) [(1,t1),(2,t2),(5,t5)]
def P64_3 := Q64 R N O T (aT b64 233) [(1,t1),(2,t2),(5,t5)]
def P64_4 := Q64 R N O T (aT b64 15) [(1,t1)]
def P64_5 := Q64 R N O T (aT b64 467) [(1,t1),(2,t2),(5,t5)]
noncomputable def b87 : Code := Tryz.f87.body.getD .skip
def lv87 : Nat → List Nat := ln ([]::[0,1]::rp 3 [0,1,5] [[0,1,5,31],[0,1,5]])
abbrev Q87 := Wq R N O T 87 45 [.tmp 4]
def P87_0 := Q87 R N O T (aT b87 1) [(0,t0),(1,t1)]
def P87_1 := Q87 R N O T (aT b87 28) [(0,t0),(1,t1),(5,t5)]
def P87_2 := Q87 R N O T (aT b87 113) [(0,t0),(1,t1),(5,t5)]
def P87_3 := Q87 R N O T (aT b87 15) [(0,t0),(1,t1),(5,t5)]
def P87_4 := Q87 R N O T (aT b87 31) [(0,t0),(1,t1),(5,t5)]
noncomputable def b37 : Code := Tryz.f37.body.getD .skip
def lv37 : Nat → List Nat := ln ([]::[1,2,3]::[1,2,3]::[]::[1,2,3,11]::[1,2,3,11,12]::[]::[1,2,3,11,14]::[]::[1,2,3,11,16]::[2,3,22]::[2,3]::[]::[1,2,3,11,39]::[1,2,3,8]::[]::[1,2,3,11,72]::[1,2,3,77]::[1,2,3]::[]::[1,2,3,83]::[1,2,3,7]::rp 3 [1,2,3,7,9] [[7]])
abbrev Q37 := Wq R N O T 37 105 [.tmp 6]
def P37_0 := Q37 R N O T (aT b37 1) [(0,t0),(1,t1),(2,t2)]
def P37_1 := Q37 R N O T (aT b37 7549) [(2,t2),(3,t3)]
def P37_2 := Q37 R N O T (aT b37 120829) [(1,t1),(2,t2),(3,t3)]
def P37_3 := Q37 R N O T (aT b37 15) [(1,t1),(2,t2),(3,t3),(7,t7)]
def P37_4 := Q37 R N O T (aT b37 122) [(1,t1),(2,t2),(3,t3),(7,t7),(9,t9)]
def P37_5 := Q37 R N O T (aT b37 489) [(1,t1),(2,t2),(3,t3),(7,t7),(9,t9)]
def P37_6 := Q37 R N O T (aT b37 31) [(7,t7)]
def P37_7 := Q37 R N O T (aT b37 979) [(1,t1),(2,t2),(3,t3),(7,t7),(9,t9)]
noncomputable def b63 : Code := Tryz.f63.body.getD .skip
def lv63 : Nat → List Nat := ln ([]::[0]::[0,3]::[0,3]::rp 3 [0,3,4] [[0,3,4,5],[0,3,4,5,16],[0,3,4,5],[0,3,4,5,25]])
abbrev Q63 := Wq R N O T 63 27 [.tmp 2]
def P63_0 := Q63 R N O T (aT b63 1) [(0,t0)]
def P63_1 := Q63 R N O T (aT b63 14) [(0,t0),(3,t3)]
def P63_2 := Q63 R N O T (aT b63 450) [(0,t0),(3,t3),(4,t4)]
def P63_3 := Q63 R N O T (aT b63 1801) [(0,t0),(3,t3),(4,t4)]
def P63_4 := Q63 R N O T (aT b63 57) [(0,t0),(3,t3)]
def P63_5 := Q63 R N O T (aT b63 28819) [(0,t0),(3,t3),(4,t4),(5,t5)]
def P63_6 := Q63 R N O T (aT b63 3603) [(0,t0),(3,t3),(4,t4)]
noncomputable def b86 : Code := Tryz.f86.body.getD .skip
def lv86 : Nat → List Nat := ln ([]::[0,1]::rp 3 [0,1,5] [[0,1,5,17],[]])
abbrev Q86 := Wq R N O T 86 18 [.tmp 4]
def P86_0 := Q86 R N O T (aT b86 1) [(0,t0),(1,t1)]
def P86_1 := Q86 R N O T (aT b86 26) [(0,t0),(1,t1),(5,t5)]
def P86_2 := Q86 R N O T (aT b86 105) [(0,t0),(1,t1),(5,t5)]
def P86_3 := Q86 R N O T (aT b86 7) []
def P86_4 := Q86 R N O T (aT b86 211) [(0,t0),(1,t1),(5,t5)]
end
variable {R : RT} {N O T : Nat} {s : Sto} {QR : QT} {t0 t1 t2 t3 t4 t5 t6 t7 t8 t9 t14 t15 t16 t17 t18 t19 : AV}
theorem p10_0 (h :
 wBox s t0 fun a b =>
 xM R b 4 a fun c =>
 xC R 10 N O T 28 [c] b fun d e =>
 xI .neq d (I64 0) fun f =>
 wCond f (
 QR (SS []) e) (
 P10_1 R N O T a e QR)) : P10_0 R N O T t0 s QR :=
  pC lv10 cF h
theorem p10_1 (h :
 xM R s 4 t1 fun a =>
 xC R 10 N O T 29 [a] s fun b c =>
 wBuild [(.pv (.sc (.pointer none))),(.capped []),(.capped [])] [(2,1,b)] fun d =>
 wBoxZ c 71 d fun e f =>
 xM R f 4 t1 fun g =>
 xC R 10 N O T 30 [e,g,(.capped [])] f fun i j =>
 wNil j e fun k =>
 wFad j k 0 fun l =>
 xC R 10 N O T 31 [l] j fun m n =>
 QR m n) : P10_1 R N O T t1 s QR :=
  pC lv10 cF h
theorem e10 {u0 : AV} {Post : AV → Prop} (hcl : closeL [] 0 0 [t0] = some [u0]) (h : P10_0 R 0 0 0 u0 ⟨[],[]⟩ (QP Post)) : PureC (env R) 10 [t0] Post :=
  hR Tryz.func10 hcl h
theorem p29_0 (h :
 wBox s t0 fun a b =>
 wNew b [(.capped [])] fun c d =>
 xM R d 4 a fun e =>
 xC R 29 N O T 55 [e,c] d fun f g =>
 xF R g c 0 fun j =>
 QR j g) : P29_0 R N O T t0 s QR :=
  pC lv29 cF h
theorem e29 {u0 : AV} {Post : AV → Prop} (hcl : closeL [] 0 0 [t0] = some [u0]) (h : P29_0 R 0 0 0 u0 ⟨[],[]⟩ (QP Post)) : PureC (env R) 29 [t0] Post :=
  hR Tryz.func29 hcl h
theorem p30_0 (h :
 wBox s t1 fun a b =>
 xF R b a 0 fun d =>
 xI .eql d (I64 0) fun e =>
 wCond e (
 wNil b t0 fun f =>
 wFad b f 0 fun g =>
 xC R 30 N O T 56 [g,(SS [65,110,121])] b fun i j =>
 QR (.tuple []) j) (
 xI .eql d (I64 1) fun k =>
 wCond k (
 wNil b t0 fun l =>
 wFad b l 0 fun m =>
 xC R 30 N O T 56 [m,(SS [78,101,118,101,114])] b fun n o =>
 QR (.tuple []) o) (
 xI .eql d (I64 3) fun p =>
 wCond p (
 xF R b a 3 fun u =>
 xC R 30 N O T 57 [t0,(SS [116,117,112,108,101]),u,t2] b fun w x =>
 QR (.tuple []) x) (
 xI .eql d (I64 4) fun y =>
 wCond y (
 xF R b a 3 fun aa =>
 xC R 30 N O T 57 [t0,(SS [117,110,105,111,110]),aa,t2] b fun ab ac =>
 QR (.tuple []) ac) (
 xI .eql d (I64 5) fun ad =>
 wCond ad (
 wLen b t2 fun ae =>
 xI .sub ae (I64 1) fun af =>
 xF R b a 2 fun ah =>
 xI .sub af ah fun ai =>
 xI .geq ai (I64 0) fun aj =>
 wCond aj (
 wNil b t0 fun ak =>
 wFad b ak 0 fun al =>
 wIdx b 1 t2 ai fun am =>
 xL R b am fun an =>
 xC R 30 N O T 56 [al,an] b fun ao ap =>
 QR (.tuple []) ap) (
 wNil b t0 fun aq =>
 wFad b aq 0 fun ar =>
 xF R b a 2 fun av =>
 wLen b t2 fun aw =>
 xI .sub av aw fun ax =>
 xC R 30 N O T 58 [ax] b fun ay az =>
 wStr .add (SS [36]) ay fun a0 =>
 xC R 30 N O T 56 [ar,a0] az fun a1 a2 =>
(wNil az t0 fun a3 => eqA a3 aq = true) ∧
(wFad az aq 0 fun a5 => eqA a5 ar = true) ∧
 QR (.tuple []) a2)) (
 xI .eql d (I64 6) fun a6 =>
 wCond a6 (
 xC R 30 N O T 59 [t0,t2] b fun a7 ba =>
 wNil ba t0 fun bb =>
 wFad ba bb 0 fun bc =>
 wStr .add (SS [40,101,120,105,115,116,115,32]) a7 fun bd =>
 wStr .add bd (SS [32]) fun be =>
 xC R 30 N O T 56 [bc,be] ba fun bf bg =>
 xF R bg a 3 fun bi =>
 wIdx bg 4 bi (I64 0) fun bj =>
 xM R bg 4 bj fun bk =>
 xC R 30 N O T 30 [t0,bk,(.capped [])] bg fun bl bm =>
 wNil bm t0 fun bn =>
 wFad bm bn 0 fun bo =>
 xC R 30 N O T 60 [bo,(.pv (.sc (.int .u8 32)))] bm fun bp bq =>
 wFad bq a 3 fun br =>
 xL R bq br fun bs =>
 wIdx bq 4 bs (I64 1) fun bt =>
 xM R bq 4 bt fun bu =>
 xC R 30 N O T 61 [t2] bq fun bv bw =>
 wBsl false bw 1 [(SS [])] 1 [(0,1,a7)] fun bx bz =>
(1 = 1 ∧ 1 ≠ 0) ∧ wApp false (lf R 30 N O T) bw 9 1 16 bv bx fun b0 b1 =>
 xC R 30 N O T 30 [t0,bu,b0] b1 fun b2 b3 =>
(wFad bw a 3 fun b4 => eqA b4 br = true) ∧
(wFad b1 a 3 fun b5 => eqA b5 br = true) ∧
(xL R bw br fun b6 => eqA b6 bs = true) ∧
(xL R b1 br fun b7 => eqA b7 bs = true) ∧
(wIdx bw 4 bs (I64 1) fun b8 => eqA b8 bt = true) ∧
(wIdx b1 4 bs (I64 1) fun b9 => eqA b9 bt = true) ∧
(xM R bw 4 bt fun ca => eqA ca bu = true) ∧
(xM R b1 4 bt fun cb => eqA cb bu = true) ∧
 wNil b3 t0 fun cc =>
 wFad b3 cc 0 fun cd =>
 xC R 30 N O T 60 [cd,(.pv (.sc (.int .u8 41)))] b3 fun ce cf =>
 QR (.tuple []) cf) (
 xI .eql d (I64 2) fun cg =>
 wCond cg (
 xF R b a 3 fun ci =>
 wLen b ci fun cj =>
 xI .eql cj (I64 0) fun ck =>
 wCond ck (
 wNil b t0 fun cl =>
 wFad b cl 0 fun cm =>
 xF R b a 1 fun co =>
 xC R 30 N O T 56 [cm,co] b fun cp cq =>
 QR (.tuple []) cq) (
 P30_1 R N O T t0 t2 a b QR)) (
 QR (.tuple []) b)))))))) : P30_0 R N O T t0 t1 t2 s QR :=
  pC lv30 cF h
theorem p30_1 (h :
 xF R s t4 1 fun b =>
 xF R s t4 3 fun d =>
 xC R 30 N O T 57 [t0,b,d,t2] s fun e f =>
 QR (.tuple []) f) : P30_1 R N O T t0 t2 t4 s QR :=
  pC lv30 cF h
theorem m30 {L : Lim} {Post : AV → Sto → Prop} (hn : noIdL [t0,t1,t2] = false) (h : P30_0 R 0 L.ro L.rt t0 t1 t2 s (QM (L.rr 30) s.bs.length Post)) : ∃ v s',Post v s' ∧ CallE (env R) L 30 [t0,t1,t2] s v s' :=
  hM Tryz.func30 hn h
theorem p57_0 (h :
 wNil s t0 fun a =>
 wFad s a 0 fun b =>
 wStr .add (SS [40]) t1 fun c =>
 xC R 57 N O T 56 [b,c] s fun d e =>
 wLen e t2 fun f =>
 P57_1 R N O T t0 t3 t2 f (I64 0) e QR) : P57_0 R N O T t0 t1 t2 t3 s QR :=
  pC lv57 cF h
theorem p57_1 (h :
 xI .lss t18 t17 fun a =>
 wCond a (
 P57_2 R N O T t0 t3 t16 t17 t18 a s QR) (
 P57_3 R N O T t0 s QR)) : P57_1 R N O T t0 t3 t16 t17 t18 s QR :=
  pL lv57 cF h
theorem p57_2 (h :
 wIdx s 4 t16 t18 fun a =>
 xM R s 4 a fun b =>
 wNew s Y4 fun c d =>
 wSt (lf R 57 N O T) d 4 c b fun e =>
 wNil e t0 fun f =>
 wFad e f 0 fun g =>
 xC R 57 N O T 60 [g,(.pv (.sc (.int .u8 32)))] e fun i j =>
 xM R j 4 c fun k =>
 xC R 57 N O T 30 [t0,k,t3] j fun l m =>
 P57_4 R N O T t0 t3 t16 t17 t18 m QR) : P57_2 R N O T t0 t3 t16 t17 t18 t19 s QR :=
  pC lv57 cF h
theorem p57_3 (h :
 wNil s t0 fun a =>
 wFad s a 0 fun b =>
 xC R 57 N O T 60 [b,(.pv (.sc (.int .u8 41)))] s fun c d =>
 QR (.tuple []) d) : P57_3 R N O T t0 s QR :=
  pC lv57 cF h
theorem p57_4 (h :
 xI .add t18 (I64 1) fun a =>
 P57_1 R N O T t0 t3 t16 t17 a s QR) : P57_4 R N O T t0 t3 t16 t17 t18 s QR :=
  pC lv57 cF h
theorem m57 {L : Lim} {Post : AV → Sto → Prop} (hn : noIdL [t0,t1,t2,t3] = false) (h : P57_0 R 0 L.ro L.rt t0 t1 t2 t3 s (QM (L.rr 57) s.bs.length Post)) : ∃ v s',Post v s' ∧ CallE (env R) L 57 [t0,t1,t2,t3] s v s' :=
  hM Tryz.func57 hn h
theorem p59_0 (h :
 P59_1 R N O T t0 t1 (I64 0) s QR) : P59_0 R N O T t0 t1 s QR :=
  pC lv59 cF h
theorem p59_1 (h :
 xI .rem t5 (I64 26) fun a =>
 xI .add (I64 65) a fun b =>
 wConvI .i32 b fun c =>
 wAnyT (env R) (lf R 59 N O T) s (lkE [(12,c),(11,b),(10,a),(9,t5),(0,t0),(1,t1),(5,t5)]) (opOf (sn b59 224) 4) fun d e =>
 xI .geq t5 (I64 26) fun f =>
 wCond f (
 xI .quo t5 (I64 26) fun g =>
 xC R 59 N O T 58 [g] e fun i j =>
 wStr .add (SS [95]) i fun k =>
 wStr .add d k fun l =>
 P59_2 R N O T t0 t1 t5 l j QR) (
 P59_2 R N O T t0 t1 t5 d e QR)) : P59_1 R N O T t0 t1 t5 s QR :=
  pL lv59 cF h
theorem p59_2 (h :
 wNil s t0 fun a =>
 xF R s a 2 fun c =>
 xC R 59 N O T 84 [c,t6] s fun d e =>
 wNot d fun f =>
 g0 f true e t1 fun g i =>
 g0 f true i t6 fun j k =>
 wGK f true k (xC R 59 N O T 84 [g,j] k) fun n o =>
 g1 f true o (wNot n) fun q u =>
 wPick f q (BB false) fun v =>
 wCond v (
 QR t6 u) (
 P59_3 R N O T t0 t1 t5 u QR)) : P59_2 R N O T t0 t1 t5 t6 s QR :=
  pC lv59 cF h
theorem p59_3 (h :
 xI .add t5 (I64 1) fun a =>
 P59_1 R N O T t0 t1 a s QR) : P59_3 R N O T t0 t1 t5 s QR :=
  pC lv59 cF h
theorem m59 {L : Lim} {Post : AV → Sto → Prop} (hn : noIdL [t0,t1] = false) (h : P59_0 R 0 L.ro L.rt t0 t1 s (QM (L.rr 59) s.bs.length Post)) : ∃ v s',Post v s' ∧ CallE (env R) L 59 [t0,t1] s v s' :=
  hM Tryz.func59 hn h
theorem p56_0 (h :
 xC R 56 N O T 82 [t0] s fun a b =>
 wNil b t0 fun c =>
 xF R b c 1 fun e =>
(1 = 1 ∧ 1 ≠ 0) ∧ wApp false (lf R 56 N O T) b 5 1 1 e t1 fun f g =>
 wNil g t0 fun i =>
 wFad g i 1 fun j =>
 wSt (lf R 56 N O T) g 1 j f fun k =>
 wSlen t1 fun l =>
 QR (.tuple [l,(.pv (.sc .nilIface))]) k) : P56_0 R N O T t0 t1 s QR :=
  pC lv56 cF h
theorem m56 {L : Lim} {Post : AV → Sto → Prop} (hn : noIdL [t0,t1] = false) (h : P56_0 R 0 L.ro L.rt t0 t1 s (QM (L.rr 56) s.bs.length Post)) : ∃ v s',Post v s' ∧ CallE (env R) L 56 [t0,t1] s v s' :=
  hM Tryz.func56 hn h
theorem p60_0 (h :
 xC R 60 N O T 82 [t0] s fun a b =>
 wNil b t0 fun c =>
 xF R b c 1 fun e =>
 wBsl false b 1 [(.pv (.sc (.int .u8 0)))] 1 [(0,1,t1)] fun f g =>
(1 = 1 ∧ 1 ≠ 0) ∧ wApp false (lf R 60 N O T) g 5 1 1 e f fun i j =>
 wNil j t0 fun k =>
 wFad j k 1 fun l =>
 wSt (lf R 60 N O T) j 1 l i fun m =>
 QR (.pv (.sc .nilIface)) m) : P60_0 R N O T t0 t1 s QR :=
  pC lv60 cF h
theorem m60 {L : Lim} {Post : AV → Sto → Prop} (hn : noIdL [t0,t1] = false) (h : P60_0 R 0 L.ro L.rt t0 t1 s (QM (L.rr 60) s.bs.length Post)) : ∃ v s',Post v s' ∧ CallE (env R) L 60 [t0,t1] s v s' :=
  hM Tryz.func60 hn h
theorem p55_0 (h :
 wBox s t0 fun a b =>
 xF R b a 0 fun d =>
 xI .eql d (I64 2) fun e =>
 wCond e (
 xF R b a 1 fun g =>
 xC R 55 N O T 81 [t1,g] b fun i j =>
 P55_1 R N O T t1 a j QR) (
 P55_1 R N O T t1 a b QR)) : P55_0 R N O T t0 t1 s QR :=
  pC lv55 cF h
theorem p55_1 (h :
 xF R s t2 3 fun b =>
 wLen s b fun c =>
 P55_2 R N O T t1 b c (I64 0) s QR) : P55_1 R N O T t1 t2 s QR :=
  pC lv55 cF h
theorem p55_2 (h :
 xI .lss t16 t15 fun a =>
 wCond a (
 P55_3 R N O T t1 t14 t15 t16 a s QR) (
 QR (.tuple []) s)) : P55_2 R N O T t1 t14 t15 t16 s QR :=
  pL lv55 cF h
theorem p55_3 (h :
 wIdx s 4 t14 t16 fun a =>
 xM R s 4 a fun b =>
 wNew s Y4 fun c d =>
 wSt (lf R 55 N O T) d 4 c b fun e =>
 xM R e 4 c fun f =>
 xC R 55 N O T 55 [f,t1] e fun g i =>
 P55_4 R N O T t1 t14 t15 t16 i QR) : P55_3 R N O T t1 t14 t15 t16 t17 s QR :=
  pC lv55 cF h
theorem p55_4 (h :
 xI .add t16 (I64 1) fun a =>
 P55_2 R N O T t1 t14 t15 a s QR) : P55_4 R N O T t1 t14 t15 t16 s QR :=
  pC lv55 cF h
theorem m55 {L : Lim} {Post : AV → Sto → Prop} (h : P55_0 R L.n0 L.ro L.rt t0 t1 s Post) : ∃ v s',Post v s' ∧ CallE (env R) L 55 [t0,t1] s v s' :=
  hE Tryz.func55 h
theorem p81_0 (h :
 wNil s t0 fun a =>
 xF R s a 0 fun c =>
 xC R 81 N O T 104 [c,t1] s fun d e =>
 wExt d 0 fun f =>
 wExt d 1 fun g =>
 wNot g fun i =>
 wCond i (
 wNil e t0 fun j =>
 xF R e j 0 fun l =>
 wBsl false e 1 [(SS [])] 1 [(0,1,t1)] fun m n =>
 xC R 81 N O T 105 [l,f,m] n fun o p =>
 wNil p t0 fun q =>
 wFad p q 0 fun u =>
 wSt (lf R 81 N O T) p 1 u o fun v =>
 QR (.tuple []) v) (
 QR (.tuple []) e)) : P81_0 R N O T t0 t1 s QR :=
  pC lv81 cF h
theorem m81 {L : Lim} {Post : AV → Sto → Prop} (h : P81_0 R L.n0 L.ro L.rt t0 t1 s Post) : ∃ v s',Post v s' ∧ CallE (env R) L 81 [t0,t1] s v s' :=
  hE Tryz.func81 h
theorem p104_0 (h :
 wLen s t0 fun a =>
 P104_1 R N O T t0 t1 a (I64 0) a s QR) : P104_0 R N O T t0 t1 s QR :=
  pC lv104 cF h
theorem p104_1 (h :
 xI .lss t7 t8 fun a =>
 wCond a (
 P104_2 R N O T t0 t1 t6 t7 t8 s QR) (
 P104_3 R N O T t0 t1 t6 t7 s QR)) : P104_1 R N O T t0 t1 t6 t7 t8 s QR :=
  pL lv104 cF h
theorem p104_2 (h :
 xI .add t7 t8 fun a =>
 wConvI .u64 a fun b =>
 wInt .u64 .shr b (.pv (.sc (.int .u64 1))) fun c =>
 wConvI .i64 c fun d =>
 wIdx s 1 t0 d fun e =>
 xL R s e fun f =>
 xC R 104 N O T 122 [f,t1] s fun g i =>
 wCond g (
 xI .add d (I64 1) fun j =>
 P104_1 R N O T t0 t1 t6 j t8 i QR) (
 P104_1 R N O T t0 t1 t6 t7 d i QR)) : P104_2 R N O T t0 t1 t6 t7 t8 s QR :=
  pC lv104 cF h
theorem p104_3 (h :
 xI .lss t7 t6 fun a =>
 g0 a true s t0 fun b c =>
 g0 a true c t7 fun d e =>
 g1 a true e (wIdx e 1 b d) fun g i =>
 g1 a true i (xL R i g) fun k l =>
 g0 a true l t1 fun m n =>
 g1 a true n (wStr .eql k m) fun p q =>
 g0 a true q p fun u v =>
 g0 u false v t0 fun w x =>
 g0 u false x t7 fun y z =>
 g1 u false z (wIdx z 1 w y) fun ab ac =>
 g1 u false ac (xL R ac ab) fun ae af =>
 wGK u false af (xC R 104 N O T 123 [ae] af) fun ai aj =>
 g0 u false aj ai fun ak al =>
 g0 ak true al t1 fun am an =>
 wGK ak true an (xC R 104 N O T 123 [am] an) fun aq ar =>
 g1 u false ar (wPick ak aq (BB false)) fun av aw =>
 g1 a true aw (wPick u (BB true) av) fun ay az =>
 wPick a ay (BB false) fun a0 =>
 QR (.tuple [t7,a0]) az) : P104_3 R N O T t0 t1 t6 t7 s QR :=
  pC lv104 cF h
theorem e104 {u0 u1 : AV} {Post : AV → Prop} (hcl : closeL [] 0 0 [t0,t1] = some [u0,u1]) (h : P104_0 R 0 0 0 u0 u1 ⟨[],[]⟩ (QP Post)) : PureC (env R) 104 [t0,t1] Post :=
  hR Tryz.func104 hcl h
theorem i104 {Post : AV → Prop} (hcl : closeL [] 0 0 [t0,t1] = none) (h : P104_0 R s.bs.length s.bs.length s.ts.length t0 t1 s (QI s.bs.length s.ts.length Post)) : ∃ v,Post v ∧ ∀ L,CallE (env R) L 104 [t0,t1] s v s :=
  hI Tryz.func104 hcl h
theorem p122_0 (h :
 xC R 122 N O T 133 [t0] s fun a b =>
 g0 a true b t1 fun c d =>
 wGK a true d (xC R 122 N O T 133 [c] d) fun g i =>
 g1 a true i (wNot g) fun k l =>
 wPick a k (BB false) fun m =>
 g0 m false l t0 fun n o =>
 g0 m false o t1 fun p q =>
 g1 m false q (wStr .lss n p) fun v w =>
 wPick m (BB true) v fun x =>
 QR x w) : P122_0 R N O T t0 t1 s QR :=
  pC lv122 cF h
theorem e122 {u0 u1 : AV} {Post : AV → Prop} (hcl : closeL [] 0 0 [t0,t1] = some [u0,u1]) (h : P122_0 R 0 0 0 u0 u1 ⟨[],[]⟩ (QP Post)) : PureC (env R) 122 [t0,t1] Post :=
  hR Tryz.func122 hcl h
theorem p123_0 (h :
 wStr .neq t0 t0 fun a =>
 QR a s) : P123_0 R N O T t0 s QR :=
  pC lv123 cF h
theorem e123 {u0 : AV} {Post : AV → Prop} (hcl : closeL [] 0 0 [t0] = some [u0]) (h : P123_0 R 0 0 0 u0 ⟨[],[]⟩ (QP Post)) : PureC (env R) 123 [t0] Post :=
  hR Tryz.func123 hcl h
theorem p133_0 (h :
 wStr .neq t0 t0 fun a =>
 QR a s) : P133_0 R N O T t0 s QR :=
  pC lv133 cF h
theorem e133 {u0 : AV} {Post : AV → Prop} (hcl : closeL [] 0 0 [t0] = some [u0]) (h : P133_0 R 0 0 0 u0 ⟨[],[]⟩ (QP Post)) : PureC (env R) 133 [t0] Post :=
  hR Tryz.func133 hcl h
theorem p12_0 (h :
 wBox s t0 fun a b =>
 xM R b 4 a fun c =>
 xC R 12 N O T 14 [c] b fun d e =>
 xI .neq d (I64 0) fun f =>
 wCond f (
 QR (SS []) e) (
 P12_1 R N O T a e QR)) : P12_0 R N O T t0 s QR :=
  pC lv12 cF h
theorem p12_1 (h :
 xM R s 4 t1 fun a =>
 xM R s 4 t1 fun b =>
 xC R 12 N O T 38 [b] s fun c d =>
 xC R 12 N O T 37 [a,c,(.capped [])] d fun e f =>
(xM R d 4 t1 fun g => eqA g a = true) ∧
 QR e f) : P12_1 R N O T t1 s QR :=
  pC lv12 cF h
theorem e12 {u0 : AV} {Post : AV → Prop} (hcl : closeL [] 0 0 [t0] = some [u0]) (h : P12_0 R 0 0 0 u0 ⟨[],[]⟩ (QP Post)) : PureC (env R) 12 [t0] Post :=
  hR Tryz.func12 hcl h
theorem p38_0 (h :
 wBox s t0 fun a b =>
 xM R b 4 a fun c =>
 xC R 38 N O T 64 [c,(.capped [])] b fun d e =>
 QR d e) : P38_0 R N O T t0 s QR :=
  pC lv38 cF h
theorem e38 {u0 : AV} {Post : AV → Prop} (hcl : closeL [] 0 0 [t0] = some [u0]) (h : P38_0 R 0 0 0 u0 ⟨[],[]⟩ (QP Post)) : PureC (env R) 38 [t0] Post :=
  hR Tryz.func38 hcl h
theorem p64_0 (h :
 wBox s t0 fun a b =>
 xF R b a 0 fun d =>
 xI .eql d (I64 2) fun e =>
 wCond e (
 xF R b a 1 fun g =>
 xC R 64 N O T 87 [t1,g] b fun i j =>
 P64_1 R N O T i a j QR) (
 P64_1 R N O T t1 a b QR)) : P64_0 R N O T t0 t1 s QR :=
  pC lv64 cF h
theorem p64_1 (h :
 P64_2 R N O T t1 t2 (I64 0) s QR) : P64_1 R N O T t1 t2 s QR :=
  pC lv64 cF h
theorem p64_2 (h :
 xF R s t2 3 fun b =>
 wLen s b fun c =>
 xI .lss t5 c fun d =>
 wCond d (
 P64_3 R N O T t1 t2 t5 s QR) (
 P64_4 R N O T t1 s QR)) : P64_2 R N O T t1 t2 t5 s QR :=
  pL lv64 cF h
theorem p64_3 (h :
 xF R s t2 3 fun b =>
 wIdx s 4 b t5 fun c =>
 xM R s 4 c fun d =>
 xC R 64 N O T 64 [d,t1] s fun e f =>
 P64_5 R N O T e t2 t5 f QR) : P64_3 R N O T t1 t2 t5 s QR :=
  pC lv64 cF h
theorem p64_4 (h :
 QR t1 s) : P64_4 R N O T t1 s QR :=
  pC lv64 cF h
theorem p64_5 (h :
 xI .add t5 (I64 1) fun a =>
 P64_2 R N O T t1 t2 a s QR) : P64_5 R N O T t1 t2 t5 s QR :=
  pC lv64 cF h
theorem e64 {u0 u1 : AV} {Post : AV → Prop} (hcl : closeL [] 0 0 [t0,t1] = some [u0,u1]) (h : P64_0 R 0 0 0 u0 u1 ⟨[],[]⟩ (QP Post)) : PureC (env R) 64 [t0,t1] Post :=
  hR Tryz.func64 hcl h
theorem p87_0 (h :
 P87_1 R N O T t0 t1 (I64 0) s QR) : P87_0 R N O T t0 t1 s QR :=
  pC lv87 cF h
theorem p87_1 (h :
 wLen s t0 fun a =>
 xI .lss t5 a fun b =>
 g0 b true s t0 fun c d =>
 g0 b true d t5 fun e f =>
 g1 b true f (wIdx f 1 c e) fun i j =>
 g1 b true j (xL R j i) fun l m =>
 g0 b true m t1 fun n o =>
 g1 b true o (wStr .lss l n) fun q u =>
 wPick b q (BB false) fun v =>
 wCond v (
 P87_2 R N O T t0 t1 t5 u QR) (
 P87_3 R N O T t0 t1 t5 u QR)) : P87_1 R N O T t0 t1 t5 s QR :=
  pL lv87 cF h
theorem p87_2 (h :
 xI .add t5 (I64 1) fun a =>
 P87_1 R N O T t0 t1 a s QR) : P87_2 R N O T t0 t1 t5 s QR :=
  pC lv87 cF h
theorem p87_3 (h :
 wLen s t0 fun a =>
 xI .lss t5 a fun b =>
 g0 b true s t0 fun c d =>
 g0 b true d t5 fun e f =>
 g1 b true f (wIdx f 1 c e) fun i j =>
 g1 b true j (xL R j i) fun l m =>
 g0 b true m t1 fun n o =>
 g1 b true o (wStr .eql l n) fun q u =>
 wPick b q (BB false) fun v =>
 wCond v (
 QR t0 u) (
 P87_4 R N O T t0 t1 t5 u QR)) : P87_3 R N O T t0 t1 t5 s QR :=
  pC lv87 cF h
theorem p87_4 (h :
 wBsl false s 1 [(SS [])] 0 [] fun a b =>
 wSlc s 1 t0 none (some t5) none fun c =>
(1 = 1 ∧ 1 ≠ 0) ∧ wApp false (lf R 87 N O T) s 9 1 16 a c fun d e =>
 wBsl false e 1 [(SS [])] 1 [(0,1,t1)] fun f g =>
(1 = 1 ∧ 1 ≠ 0) ∧ wApp false (lf R 87 N O T) e 9 1 16 d f fun i j =>
 wSlc j 1 t0 (some t5) none none fun k =>
(1 = 1 ∧ 1 ≠ 0) ∧ wApp false (lf R 87 N O T) j 9 1 16 i k fun l m =>
(wSlc s 1 t0 (some t5) none none fun n => eqA n k = true) ∧
(wSlc e 1 t0 (some t5) none none fun o => eqA o k = true) ∧
 QR l m) : P87_4 R N O T t0 t1 t5 s QR :=
  pC lv87 cF h
theorem e87 {u0 u1 : AV} {Post : AV → Prop} (hcl : closeL [] 0 0 [t0,t1] = some [u0,u1]) (h : P87_0 R 0 0 0 u0 u1 ⟨[],[]⟩ (QP Post)) : PureC (env R) 87 [t0,t1] Post :=
  hR Tryz.func87 hcl h
theorem p37_0 (h :
 wBox s t0 fun a b =>
 xF R b a 0 fun d =>
 xI .eql d (I64 0) fun e =>
 wCond e (
 QR (SS [65,110,121]) b) (
 xI .eql d (I64 1) fun f =>
 wCond f (
 QR (SS [78,101,118,101,114]) b) (
 xI .eql d (I64 5) fun g =>
 wCond g (
 xF R b a 2 fun j =>
 wLen b t2 fun k =>
 xI .lss j k fun l =>
 wCond l (
 wLen b t2 fun m =>
 xI .sub m (I64 1) fun n =>
 xF R b a 2 fun p =>
 xI .sub n p fun q =>
 wIdx b 1 t2 q fun u =>
 xL R b u fun w =>
 QR w b) (
 P37_1 R N O T t2 a b QR)) (
 xI .eql d (I64 6) fun x =>
 wCond x (
 wBsl false b 1 [(SS [])] 0 [] fun y z =>
(1 = 1 ∧ 1 ≠ 0) ∧ wApp false (lf R 37 N O T) z 9 1 16 y t1 fun aa ab =>
(1 = 1 ∧ 1 ≠ 0) ∧ wApp false (lf R 37 N O T) ab 9 1 16 aa t2 fun ac ad =>
 xC R 37 N O T 63 [ac] ad fun ae af =>
 wStr .add (SS [40,101,120,105,115,116,115,32]) ae fun ag =>
 wStr .add ag (SS [32]) fun ah =>
 xF R af a 3 fun aj =>
 wIdx af 4 aj (I64 0) fun ak =>
 xM R af 4 ak fun al =>
 xC R 37 N O T 37 [al,t1,(.capped [])] af fun am an =>
 wStr .add ah am fun ao =>
 wStr .add ao (SS [32]) fun ap =>
 wFad an a 3 fun aq =>
 xL R an aq fun ar =>
 wIdx an 4 ar (I64 1) fun au =>
 xM R an 4 au fun av =>
 wBsl false an 1 [(SS [])] 0 [] fun aw ax =>
(1 = 1 ∧ 1 ≠ 0) ∧ wApp false (lf R 37 N O T) an 9 1 16 aw t2 fun ay az =>
 wBsl false az 1 [(SS [])] 1 [(0,1,ae)] fun a0 a1 =>
(1 = 1 ∧ 1 ≠ 0) ∧ wApp false (lf R 37 N O T) az 9 1 16 ay a0 fun a2 a4 =>
 xC R 37 N O T 37 [av,t1,a2] a4 fun a5 a6 =>
 wStr .add ap a5 fun a7 =>
 wStr .add a7 (SS [41]) fun a8 =>
(wStr .add (SS [40,101,120,105,115,116,115,32]) ae fun a9 => eqA a9 ag = true) ∧
(wStr .add (SS [40,101,120,105,115,116,115,32]) ae fun ba => eqA ba ag = true) ∧
(wStr .add (SS [40,101,120,105,115,116,115,32]) ae fun bb => eqA bb ag = true) ∧
(wStr .add (SS [40,101,120,105,115,116,115,32]) ae fun bc => eqA bc ag = true) ∧
(wStr .add ag (SS [32]) fun bd => eqA bd ah = true) ∧
(wStr .add ag (SS [32]) fun be => eqA be ah = true) ∧
(wStr .add ag (SS [32]) fun bf => eqA bf ah = true) ∧
(wStr .add ag (SS [32]) fun bg => eqA bg ah = true) ∧
(wStr .add ah am fun bh => eqA bh ao = true) ∧
(wStr .add ah am fun bi => eqA bi ao = true) ∧
(wStr .add ah am fun bj => eqA bj ao = true) ∧
(wStr .add ao (SS [32]) fun bk => eqA bk ap = true) ∧
(wStr .add ao (SS [32]) fun bl => eqA bl ap = true) ∧
(wStr .add ao (SS [32]) fun bm => eqA bm ap = true) ∧
(wFad af a 3 fun bn => eqA bn aq = true) ∧
(wFad az a 3 fun bo => eqA bo aq = true) ∧
(wFad a4 a 3 fun bp => eqA bp aq = true) ∧
(xL R af aq fun bq => eqA bq ar = true) ∧
(xL R az aq fun br => eqA br ar = true) ∧
(xL R a4 aq fun bs => eqA bs ar = true) ∧
(wIdx af 4 ar (I64 1) fun bt => eqA bt au = true) ∧
(wIdx az 4 ar (I64 1) fun bu => eqA bu au = true) ∧
(wIdx a4 4 ar (I64 1) fun bv => eqA bv au = true) ∧
(xM R af 4 au fun bw => eqA bw av = true) ∧
(xM R az 4 au fun bx => eqA bx av = true) ∧
(xM R a4 4 au fun bz => eqA bz av = true) ∧
 QR a8 a6) (
 xI .eql d (I64 2) fun b0 =>
 wCond b0 (
 xF R b a 3 fun b2 =>
 wLen b b2 fun b3 =>
 xI .eql b3 (I64 0) fun b4 =>
 wCond b4 (
 xF R b a 1 fun b6 =>
 QR b6 b) (
 P37_2 R N O T t1 t2 a b QR)) (
 xI .eql d (I64 3) fun b7 =>
 wCond b7 (
 P37_3 R N O T t1 t2 a (SS [40,116,117,112,108,101]) b QR) (
 P37_3 R N O T t1 t2 a (SS [40,117,110,105,111,110]) b QR))))))) : P37_0 R N O T t0 t1 t2 s QR :=
  pC lv37 cF h
theorem p37_1 (h :
 xF R s t3 2 fun b =>
 wLen s t2 fun c =>
 xI .sub b c fun d =>
 xC R 37 N O T 62 [d] s fun e f =>
 wStr .add (SS [36]) e fun g =>
 QR g f) : P37_1 R N O T t2 t3 s QR :=
  pC lv37 cF h
theorem p37_2 (h :
 xF R s t3 1 fun b =>
 wStr .add (SS [40]) b fun c =>
 P37_3 R N O T t1 t2 t3 c s QR) : P37_2 R N O T t1 t2 t3 s QR :=
  pC lv37 cF h
theorem p37_3 (h :
 P37_4 R N O T t1 t2 t3 t7 (I64 0) s QR) : P37_3 R N O T t1 t2 t3 t7 s QR :=
  pC lv37 cF h
theorem p37_4 (h :
 xF R s t3 3 fun b =>
 wLen s b fun c =>
 xI .lss t9 c fun d =>
 wCond d (
 P37_5 R N O T t1 t2 t3 t7 t9 s QR) (
 P37_6 R N O T t7 s QR)) : P37_4 R N O T t1 t2 t3 t7 t9 s QR :=
  pL lv37 cF h
theorem p37_5 (h :
 xF R s t3 3 fun b =>
 wIdx s 4 b t9 fun c =>
 xM R s 4 c fun d =>
 xC R 37 N O T 37 [d,t1,t2] s fun e f =>
 wStr .add (SS [32]) e fun g =>
 wStr .add t7 g fun i =>
 P37_7 R N O T t1 t2 t3 i t9 f QR) : P37_5 R N O T t1 t2 t3 t7 t9 s QR :=
  pC lv37 cF h
theorem p37_6 (h :
 wStr .add t7 (SS [41]) fun a =>
 QR a s) : P37_6 R N O T t7 s QR :=
  pC lv37 cF h
theorem p37_7 (h :
 xI .add t9 (I64 1) fun a =>
 P37_4 R N O T t1 t2 t3 t7 a s QR) : P37_7 R N O T t1 t2 t3 t7 t9 s QR :=
  pC lv37 cF h
theorem e37 {u0 u1 u2 : AV} {Post : AV → Prop} (hcl : closeL [] 0 0 [t0,t1,t2] = some [u0,u1,u2]) (h : P37_0 R 0 0 0 u0 u1 u2 ⟨[],[]⟩ (QP Post)) : PureC (env R) 37 [t0,t1,t2] Post :=
  hR Tryz.func37 hcl h
theorem p63_0 (h :
 P63_1 R N O T t0 (I64 0) s QR) : P63_0 R N O T t0 s QR :=
  pC lv63 cF h
theorem p63_1 (h :
 P63_2 R N O T t0 t3 (.pv (.sc (.int .u8 65))) s QR) : P63_1 R N O T t0 t3 s QR :=
  pL lv63 cF h
theorem p63_2 (h :
 wInt .u8 .leq t4 (.pv (.sc (.int .u8 90))) fun a =>
 wCond a (
 P63_3 R N O T t0 t3 t4 s QR) (
 P63_4 R N O T t0 t3 s QR)) : P63_2 R N O T t0 t3 t4 s QR :=
  pL lv63 cF h
theorem p63_3 (h :
 wBsl false s 1 [(.pv (.sc (.int .u8 0)))] 1 [(0,1,t4)] fun a b =>
 wO (sliceBytes b a) fun c =>
 xI .gtr t3 (I64 0) fun d =>
 wCond d (
 xC R 63 N O T 62 [t3] b fun e f =>
 wStr .add (SS [95]) e fun g =>
 wStr .add (.pv (.sc (.string ⟨c.toArray⟩))) g fun i =>
 P63_5 R N O T t0 t3 t4 i f QR) (
 P63_5 R N O T t0 t3 t4 (.pv (.sc (.string ⟨c.toArray⟩))) b QR)) : P63_3 R N O T t0 t3 t4 s QR :=
  pC lv63 cF h
theorem p63_4 (h :
 xI .add t3 (I64 1) fun a =>
 P63_1 R N O T t0 a s QR) : P63_4 R N O T t0 t3 s QR :=
  pC lv63 cF h
theorem p63_5 (h :
 xC R 63 N O T 86 [t0,t5] s fun a b =>
 wNot a fun c =>
 wCond c (
 QR t5 b) (
 P63_6 R N O T t0 t3 t4 b QR)) : P63_5 R N O T t0 t3 t4 t5 s QR :=
  pC lv63 cF h
theorem p63_6 (h :
 wInt .u8 .add t4 (.pv (.sc (.int .u8 1))) fun a =>
 P63_2 R N O T t0 t3 a s QR) : P63_6 R N O T t0 t3 t4 s QR :=
  pC lv63 cF h
theorem e63 {u0 : AV} {Post : AV → Prop} (hcl : closeL [] 0 0 [t0] = some [u0]) (h : P63_0 R 0 0 0 u0 ⟨[],[]⟩ (QP Post)) : PureC (env R) 63 [t0] Post :=
  hR Tryz.func63 hcl h
theorem p86_0 (h :
 P86_1 R N O T t0 t1 (I64 0) s QR) : P86_0 R N O T t0 t1 s QR :=
  pC lv86 cF h
theorem p86_1 (h :
 wLen s t0 fun a =>
 xI .lss t5 a fun b =>
 wCond b (
 P86_2 R N O T t0 t1 t5 s QR) (
 P86_3 R N O T  s QR)) : P86_1 R N O T t0 t1 t5 s QR :=
  pL lv86 cF h
theorem p86_2 (h :
 wIdx s 1 t0 t5 fun a =>
 xL R s a fun b =>
 wStr .eql b t1 fun c =>
 wCond c (
 QR (BB true) s) (
 P86_4 R N O T t0 t1 t5 s QR)) : P86_2 R N O T t0 t1 t5 s QR :=
  pC lv86 cF h
theorem p86_3 (h :
 QR (BB false) s) : P86_3 R N O T  s QR :=
  pC lv86 cF h
theorem p86_4 (h :
 xI .add t5 (I64 1) fun a =>
 P86_1 R N O T t0 t1 a s QR) : P86_4 R N O T t0 t1 t5 s QR :=
  pC lv86 cF h
theorem e86 {u0 u1 : AV} {Post : AV → Prop} (hcl : closeL [] 0 0 [t0,t1] = some [u0,u1]) (h : P86_0 R 0 0 0 u0 u1 ⟨[],[]⟩ (QP Post)) : PureC (env R) 86 [t0,t1] Post :=
  hR Tryz.func86 hcl h
end
noncomputable section
section
variable (R : RT) (N O T : Nat) (t0 t1 : AV)
noncomputable def b8 : Code := Tryz.f8.body.getD .skip
def lv8 : Nat → List Nat := ln [[],[0]]
abbrev Q8 := Wq R N O T 8 6 [.tmp 2]
def P8_0 := Q8 R N O T (aT b8 1) [(0,t0)]
noncomputable def b18 : Code := Tryz.f18.body.getD .skip
def lv18 : Nat → List Nat := ln [[],[0,1],[0,1],[0,1,9],[0]]
abbrev Q18 := Wq R N O T 18 14 [.tmp 4]
def P18_0 := Q18 R N O T (aT b18 1) [(0,t0),(1,t1)]
def P18_1 := Q18 R N O T (aT b18 15) [(0,t0)]
noncomputable def b44 : Code := Tryz.f44.body.getD .skip
def lv44 : Nat → List Nat := ln [[],[0,1],[0,1,14],[0,1],[0,1]]
abbrev Q44 := Wq R N O T 44 35 [.tmp 4]
def P44_0 := Q44 R N O T (aT b44 1) [(0,t0),(1,t1)]
def P44_1 := Q44 R N O T (aT b44 7) [(0,t0),(1,t1)]
noncomputable def b32 : Code := Tryz.f32.body.getD .skip
def lv32 : Nat → List Nat := ln [[],[2,3,4]]
abbrev Q32 := Wq R N O T 32 9 [.cell 4 25]
def P32_0 := Q32 R N O T (aT b32 1) [(0,t0),(1,t1)]
noncomputable def b33 : Code := Tryz.f33.body.getD .skip
def lv33 : Nat → List Nat := ln [[],[0]]
abbrev Q33 := Wq R N O T 33 2 [.cell 0 25]
def P33_0 := Q33 R N O T (aT b33 1) []
noncomputable def b35 : Code := Tryz.f35.body.getD .skip
def lv35 : Nat → List Nat := ln [[],[0,2]]
abbrev Q35 := Wq R N O T 35 5 [.cell 2 25]
def P35_0 := Q35 R N O T (aT b35 1) [(0,t0)]
noncomputable def b36 : Code := Tryz.f36.body.getD .skip
def lv36 : Nat → List Nat := ln [[],[0,1,4]]
abbrev Q36 := Wq R N O T 36 8 [.cell 4 25]
def P36_0 := Q36 R N O T (aT b36 1) [(0,t0),(1,t1)]
noncomputable def b49 : Code := Tryz.f49.body.getD .skip
def lv49 : Nat → List Nat := ln [[],[0,2]]
abbrev Q49 := Wq R N O T 49 5 [.cell 2 25]
def P49_0 := Q49 R N O T (aT b49 1) [(0,t0)]
noncomputable def b50 : Code := Tryz.f50.body.getD .skip
def lv50 : Nat → List Nat := ln [[],[0]]
abbrev Q50 := Wq R N O T 50 2 [.cell 0 25]
def P50_0 := Q50 R N O T (aT b50 1) []
end
variable {R : RT} {N O T : Nat} {s : Sto} {QR : QT} {t0 t1 : AV}
theorem p8_0 (h :
 wBuild [(.capped []),(I64 0)] [(0,1,t0)] fun a =>
 wBox s a fun b c =>
 QR b c) : P8_0 R N O T t0 s QR :=
  pC lv8 cF h
theorem m8 {L : Lim} {Post : AV → Sto → Prop} (h : P8_0 R L.n0 L.ro L.rt t0 s Post) : ∃ v s',Post v s' ∧ CallE (env R) L 8 [t0] s v s' :=
  hE Tryz.func8 h
theorem p18_0 (h :
 xI .rem t0 t1 fun a =>
 xI .lss a (I64 0) fun b =>
 wCond b (
 xI .add a t1 fun c =>
 P18_1 R N O T c s QR) (
 P18_1 R N O T a s QR)) : P18_0 R N O T t0 t1 s QR :=
  pC lv18 cF h
theorem p18_1 (h :
 QR t0 s) : P18_1 R N O T t0 s QR :=
  pC lv18 cF h
theorem e18 {u0 u1 : AV} {Post : AV → Prop} (hcl : closeL [] 0 0 [t0,t1] = some [u0,u1]) (h : P18_0 R 0 0 0 u0 u1 ⟨[],[]⟩ (QP Post)) : PureC (env R) 18 [t0,t1] Post :=
  hR Tryz.func18 hcl h
theorem p44_0 (h :
 wNil s t0 fun a =>
 xF R s a 1 fun c =>
 wNil s t0 fun d =>
 xF R s d 0 fun f =>
 wLen s f fun g =>
 xI .geq c g fun i =>
 wCond i (
 QR (I64 0) s) (
 P44_1 R N O T t0 t1 s QR)) : P44_0 R N O T t0 t1 s QR :=
  pC lv44 cF h
theorem p44_1 (h :
 wNil s t0 fun a =>
 xF R s a 1 fun c =>
 xI .add c (I64 1) fun d =>
 wNil s t0 fun e =>
 wFad s e 1 fun f =>
 wSt (lf R 44 N O T) s 1 f d fun g =>
 wNil g t0 fun i =>
 xF R g i 0 fun k =>
 wNil g t0 fun l =>
 xF R g l 1 fun n =>
 xI .sub n (I64 1) fun o =>
 wIdx g 1 k o fun p =>
 xL R g p fun q =>
 xC R 44 N O T 18 [q,t1] g fun u v =>
 QR u v) : P44_1 R N O T t0 t1 s QR :=
  pC lv44 cF h
theorem m44 {L : Lim} {Post : AV → Sto → Prop} (hn : noIdL [t0,t1] = false) (h : P44_0 R 0 L.ro L.rt t0 t1 s (QM (L.rr 44) s.bs.length Post)) : ∃ v s',Post v s' ∧ CallE (env R) L 44 [t0,t1] s v s' :=
  hM Tryz.func44 hn h
theorem p32_0 (h :
 wBox s t0 fun a b =>
 wBox b t1 fun c d =>
 wNew d Y4 fun e f =>
 xM R f 4 a fun g =>
 xM R f 4 c fun i =>
 wBsl false f 4 Y4 2 [(0,4,g),(4,4,i)] fun j k =>
 wBuild Y4 [(0,1,(I64 6)),(3,1,j)] fun l =>
 wSt (lf R 32 N O T) k 4 e l fun m =>
 xM R m 4 e fun n =>
 QR n m) : P32_0 R N O T t0 t1 s QR :=
  pC lv32 cF h
theorem e32 {u0 u1 : AV} {Post : AV → Prop} (hcl : closeL [] 0 0 [t0,t1] = some [u0,u1]) (h : P32_0 R 0 0 0 u0 u1 ⟨[],[]⟩ (QP Post)) : PureC (env R) 32 [t0,t1] Post :=
  hR Tryz.func32 hcl h
theorem p33_0 (h :
 wNew s Y4 fun a b =>
 wBuild Y4 [] fun c =>
 wSt (lf R 33 N O T) b 4 a c fun d =>
 xM R d 4 a fun e =>
 QR e d) : P33_0 R N O T  s QR :=
  pC lv33 cF h
theorem e33 {Post : AV → Prop} (hcl : closeL [] 0 0 [] = some []) (h : P33_0 R 0 0 0  ⟨[],[]⟩ (QP Post)) : PureC (env R) 33 [] Post :=
  hR Tryz.func33 hcl h
theorem p35_0 (h :
 wNew s Y4 fun a b =>
 wBuild Y4 [(0,1,(I64 5)),(2,1,t0)] fun c =>
 wSt (lf R 35 N O T) b 4 a c fun d =>
 xM R d 4 a fun e =>
 QR e d) : P35_0 R N O T t0 s QR :=
  pC lv35 cF h
theorem e35 {u0 : AV} {Post : AV → Prop} (hcl : closeL [] 0 0 [t0] = some [u0]) (h : P35_0 R 0 0 0 u0 ⟨[],[]⟩ (QP Post)) : PureC (env R) 35 [t0] Post :=
  hR Tryz.func35 hcl h
theorem p36_0 (h :
 wNew s Y4 fun a b =>
 wBuild Y4 [(0,1,(I64 2)),(1,1,t0),(3,1,t1)] fun c =>
 wSt (lf R 36 N O T) b 4 a c fun d =>
 xM R d 4 a fun e =>
 QR e d) : P36_0 R N O T t0 t1 s QR :=
  pC lv36 cF h
theorem e36 {u0 u1 : AV} {Post : AV → Prop} (hcl : closeL [] 0 0 [t0,t1] = some [u0,u1]) (h : P36_0 R 0 0 0 u0 u1 ⟨[],[]⟩ (QP Post)) : PureC (env R) 36 [t0,t1] Post :=
  hR Tryz.func36 hcl h
theorem p49_0 (h :
 wNew s Y4 fun a b =>
 wBuild Y4 [(0,1,(I64 4)),(3,1,t0)] fun c =>
 wSt (lf R 49 N O T) b 4 a c fun d =>
 xM R d 4 a fun e =>
 QR e d) : P49_0 R N O T t0 s QR :=
  pC lv49 cF h
theorem e49 {u0 : AV} {Post : AV → Prop} (hcl : closeL [] 0 0 [t0] = some [u0]) (h : P49_0 R 0 0 0 u0 ⟨[],[]⟩ (QP Post)) : PureC (env R) 49 [t0] Post :=
  hR Tryz.func49 hcl h
theorem p50_0 (h :
 wNew s Y4 fun a b =>
 wBuild Y4 [(0,1,(I64 1))] fun c =>
 wSt (lf R 50 N O T) b 4 a c fun d =>
 xM R d 4 a fun e =>
 QR e d) : P50_0 R N O T  s QR :=
  pC lv50 cF h
theorem e50 {Post : AV → Prop} (hcl : closeL [] 0 0 [] = some []) (h : P50_0 R 0 0 0  ⟨[],[]⟩ (QP Post)) : PureC (env R) 50 [] Post :=
  hR Tryz.func50 hcl h
end
noncomputable section
section
variable (R : RT) (N O T : Nat) (t0 t1 t2 t3 t4 t5 t6 t7 t8 t9 t11 t82 t83 t84 t85 : AV)
noncomputable def b22 : Code := Tryz.f22.body.getD .skip
def lv22 : Nat → List Nat := ln [[],[1,2,4,5],[2,4,5,6,7],[2,4,5,6,7,17],[2,4,5,6],[2,4,5,6,8],[2,4,5,6,8,23],[4,5,6]]
abbrev Q22 := Wq R N O T 22 31 [.cell 4 25,.cell 5 35]
def P22_0 := Q22 R N O T (aT b22 1) [(0,t0),(1,t1)]
def P22_1 := Q22 R N O T (aT b22 15) [(2,t2),(4,t4),(5,t5),(6,t6)]
def P22_2 := Q22 R N O T (aT b22 31) [(4,t4),(5,t5),(6,t6)]
noncomputable def b46 : Code := Tryz.f46.body.getD .skip
def lv46 : Nat → List Nat := ln [[],[1,2,4,5],[1,2,4,5,7],[1,2,4,5,7,8],[],[1,2,4,5,15],[2,4,5]]
abbrev Q46 := Wq R N O T 46 25 [.cell 4 25,.cell 5 35]
def P46_0 := Q46 R N O T (aT b46 1) [(0,t0),(1,t1)]
def P46_1 := Q46 R N O T (aT b46 7) [(2,t2),(4,t4),(5,t5)]
noncomputable def b73 : Code := Tryz.f73.body.getD .skip
def lv73 : Nat → List Nat := ln [[],[1,2,4,5],[1,2,4,5,24],[1,2,4,5],[1,2,4,5,6,7],[],[1,2,4,5,6,7,8],[1,2,4,5,6,7,8,39],[],[1,2,4,5,6,7,8,48],[],[1,2,4,5,6,7,8,53],[],[1,2,4,5,6,7,8,63],[],[1,4,5,6,7,8,75],[1,4,5,7,8],[1,4,5,8,82,83,84],[1,4,5,8,82,83,84,85],[1,4,5,8,10,82,83,84],[1,4,5,8,11,12,82,83,84],[1,4,5,8,11,12,82,83,84,96],[1,4,5,8,11,82,83,84],[1,4,5,8,82,83,84],[4,5,8]]
abbrev Q73 := Wq R N O T 73 108 [.cell 4 25,.cell 5 35]
def P73_0 := Q73 R N O T (aT b73 1) [(0,t0),(1,t1)]
def P73_1 := Q73 R N O T (aT b73 7) [(1,t1),(2,t2),(4,t4),(5,t5)]
def P73_2 := Q73 R N O T (aT b73 63) [(1,t1),(4,t4),(5,t5),(7,t7),(8,t8)]
def P73_3 := Q73 R N O T (aT b73 506) [(1,t1),(4,t4),(5,t5),(8,t8),(82,t82),(83,t83),(84,t84)]
def P73_4 := Q73 R N O T (aT b73 4051) [(1,t1),(4,t4),(5,t5),(8,t8),(82,t82),(83,t83),(84,t84),(85,t85)]
def P73_5 := Q73 R N O T (aT b73 127) [(4,t4),(5,t5),(8,t8)]
def P73_6 := Q73 R N O T (aT b73 129639) [(1,t1),(4,t4),(5,t5),(8,t8),(11,t11),(82,t82),(83,t83),(84,t84)]
def P73_7 := Q73 R N O T (aT b73 8103) [(1,t1),(4,t4),(5,t5),(8,t8),(82,t82),(83,t83),(84,t84)]
noncomputable def b74 : Code := Tryz.f74.body.getD .skip
def lv74 : Nat → List Nat := ln [[],[1,2]]
abbrev Q74 := Wq R N O T 74 6 [.cell 2 35]
def P74_0 := Q74 R N O T (aT b74 1) [(0,t0)]
noncomputable def b98 : Code := Tryz.f98.body.getD .skip
def lv98 : Nat → List Nat := ln [[],[1]]
abbrev Q98 := Wq R N O T 98 18 [.tmp 2]
def P98_0 := Q98 R N O T (aT b98 1) [(0,t0)]
noncomputable def b99 : Code := Tryz.f99.body.getD .skip
def lv99 : Nat → List Nat := ln [[],[1,2,4,5],[1,2,4,5,13],[1,2,4,5],[1,2,4,5,6],[1,2,4,5,6,23],[1,2,4,5,6],[1,2,4,5,6,7,8],[1,2,4,5,6,7,8,37],[1,2,4,5,6,7,8],[4,5,7,8,9],[4,5,7,8,9,56],[4,5,7,9]]
abbrev Q99 := Wq R N O T 99 64 [.cell 4 25,.cell 5 35]
def P99_0 := Q99 R N O T (aT b99 1) [(0,t0),(1,t1)]
def P99_1 := Q99 R N O T (aT b99 7) [(1,t1),(2,t2),(4,t4),(5,t5)]
def P99_2 := Q99 R N O T (aT b99 31) [(1,t1),(2,t2),(4,t4),(5,t5),(6,t6)]
def P99_3 := Q99 R N O T (aT b99 127) [(1,t1),(2,t2),(4,t4),(5,t5),(6,t6),(7,t7),(8,t8)]
def P99_4 := Q99 R N O T (aT b99 511) [(4,t4),(5,t5),(7,t7),(9,t9)]
noncomputable def b15 : Code := Tryz.f15.body.getD .skip
def lv15 : Nat → List Nat := ln [[],[2,3]]
abbrev Q15 := Wq R N O T 15 9 [.tmp 4]
def P15_0 := Q15 R N O T (aT b15 1) [(0,t0),(1,t1)]
noncomputable def b43 : Code := Tryz.f43.body.getD .skip
def lv43 : Nat → List Nat := ln ([]::[2,3]::[2,3,7]::[]::[2,3,19]::[]::[2,3,31]::[]::[2,3,43]::[2,3]::rp 3 [2,3,5] [[2,3,5,6],[2,3,5,6,78],[]])
abbrev Q43 := Wq R N O T 43 80 [.tmp 4]
def P43_0 := Q43 R N O T (aT b43 1) [(0,t0),(1,t1)]
def P43_1 := Q43 R N O T (aT b43 7) [(2,t2),(3,t3)]
def P43_2 := Q43 R N O T (aT b43 58) [(2,t2),(3,t3),(5,t5)]
def P43_3 := Q43 R N O T (aT b43 233) [(2,t2),(3,t3),(5,t5)]
def P43_4 := Q43 R N O T (aT b43 15) []
def P43_5 := Q43 R N O T (aT b43 467) [(2,t2),(3,t3),(5,t5)]
noncomputable def b71 : Code := Tryz.f71.body.getD .skip
def lv71 : Nat → List Nat := ln [[],[0],[3],[]]
abbrev Q71 := Wq R N O T 71 4 [.tmp 2]
def P71_0 := Q71 R N O T (aT b71 1) [(0,t0)]
def P71_1 := Q71 R N O T (aT b71 7) []
end
variable {R : RT} {N O T : Nat} {s : Sto} {QR : QT} {t0 t1 t2 t3 t4 t5 t6 t7 t8 t9 t11 t82 t83 t84 t85 : AV}
theorem p22_0 (h :
 wBox s t0 fun a b =>
 wNew b Y4 fun c d =>
 wNew d [(I64 0),(I64 0)] fun e f =>
 xM R f 4 a fun g =>
 xC R 22 N O T 46 [g,t1] f fun i j =>
 wExt i 0 fun k =>
 wExt i 1 fun l =>
 wNew j Y4 fun m n =>
 wNew n [(I64 0),(I64 0)] fun o p =>
 wSt (lf R 22 N O T) p 4 m k fun q =>
 wSt (lf R 22 N O T) q 2 o l fun u =>
 xF R u o 0 fun x =>
 xI .neq x (I64 0) fun y =>
 wCond y (
 wBuild Y4 [] fun z =>
 xM R u 2 o fun aa =>
 wSt (lf R 22 N O T) u 4 c z fun ab =>
 wSt (lf R 22 N O T) ab 2 e aa fun ac =>
(xM R ab 2 o fun ad => eqA ad aa = true) ∧
 xM R ac 4 c fun ae =>
 xM R ac 2 e fun af =>
 QR (.tuple [ae,af]) ac) (
 P22_1 R N O T a c e m u QR)) : P22_0 R N O T t0 t1 s QR :=
  pC lv22 cF h
theorem p22_1 (h :
 xM R s 4 t6 fun a =>
 xC R 22 N O T 28 [a] s fun b c =>
 xI .neq b (I64 0) fun d =>
 wCond d (
 wBuild Y4 [] fun e =>
 wFad c t2 3 fun f =>
 xL R c f fun g =>
 wBuild [(I64 0),(I64 0)] [(0,1,b),(1,1,g)] fun i =>
 wSt (lf R 22 N O T) c 4 t4 e fun j =>
 wSt (lf R 22 N O T) j 2 t5 i fun k =>
(wFad j t2 3 fun l => eqA l f = true) ∧
(xL R j f fun m => eqA m g = true) ∧
 xM R k 4 t4 fun n =>
 xM R k 2 t5 fun o =>
 QR (.tuple [n,o]) k) (
 P22_2 R N O T t4 t5 t6 c QR)) : P22_1 R N O T t2 t4 t5 t6 s QR :=
  pC lv22 cF h
theorem p22_2 (h :
 xM R s 4 t6 fun a =>
 wBuild [(I64 0),(I64 0)] [] fun b =>
 wSt (lf R 22 N O T) s 4 t4 a fun c =>
 wSt (lf R 22 N O T) c 2 t5 b fun d =>
 xM R d 4 t4 fun e =>
 xM R d 2 t5 fun f =>
 QR (.tuple [e,f]) d) : P22_2 R N O T t4 t5 t6 s QR :=
  pC lv22 cF h
theorem e22 {u0 u1 : AV} {Post : AV → Prop} (hcl : closeL [] 0 0 [t0,t1] = some [u0,u1]) (h : P22_0 R 0 0 0 u0 u1 ⟨[],[]⟩ (QP Post)) : PureC (env R) 22 [t0,t1] Post :=
  hR Tryz.func22 hcl h
theorem p46_0 (h :
 wBox s t0 fun a b =>
 wNew b Y4 fun c d =>
 wNew d [(I64 0),(I64 0)] fun e f =>
 xF R f a 0 fun i =>
 xI .eql i (I64 1) fun j =>
 wCond j (
 xM R f 4 a fun k =>
 xC R 46 N O T 72 [k,t1] f fun l m =>
 wExt l 0 fun n =>
 wExt l 1 fun o =>
 wSt (lf R 46 N O T) m 4 c n fun p =>
 wSt (lf R 46 N O T) p 2 e o fun q =>
 xM R q 4 c fun u =>
 xM R q 2 e fun v =>
 QR (.tuple [u,v]) q) (
 xI .eql i (I64 3) fun w =>
 wCond w (
 xM R f 4 a fun x =>
 xC R 46 N O T 73 [x,t1] f fun y z =>
 wExt y 0 fun aa =>
 wExt y 1 fun ab =>
 wSt (lf R 46 N O T) z 4 c aa fun ac =>
 wSt (lf R 46 N O T) ac 2 e ab fun ad =>
 xM R ad 4 c fun ae =>
 xM R ad 2 e fun af =>
 QR (.tuple [ae,af]) ad) (
 P46_1 R N O T a c e f QR))) : P46_0 R N O T t0 t1 s QR :=
  pC lv46 cF h
theorem p46_1 (h :
 wBuild Y4 [] fun a =>
 xM R s 4 t2 fun b =>
 xC R 46 N O T 74 [b] s fun c d =>
 wSt (lf R 46 N O T) d 4 t4 a fun e =>
 wSt (lf R 46 N O T) e 2 t5 c fun f =>
 xM R f 4 t4 fun g =>
 xM R f 2 t5 fun i =>
 QR (.tuple [g,i]) f) : P46_1 R N O T t2 t4 t5 s QR :=
  pC lv46 cF h
theorem e46 {u0 u1 : AV} {Post : AV → Prop} (hcl : closeL [] 0 0 [t0,t1] = some [u0,u1]) (h : P46_0 R 0 0 0 u0 u1 ⟨[],[]⟩ (QP Post)) : PureC (env R) 46 [t0,t1] Post :=
  hR Tryz.func46 hcl h
theorem p73_0 (h :
 wBox s t0 fun a b =>
 wNew b Y4 fun c d =>
 wNew d [(I64 0),(I64 0)] fun e f =>
 xF R f a 2 fun i =>
 wLen f i fun j =>
 xI .eql j (I64 0) fun k =>
 g1 k false f (wFad f a 2) fun m n =>
 g1 k false n (xL R n m) fun p q =>
 g1 k false q (wIdx q 4 p (I64 0)) fun v w =>
 g1 k false w (wFad w v 0) fun y z =>
 g1 k false z (xL R z y) fun ab ac =>
 g1 k false ac (xI .neq ab (I64 1)) fun ae af =>
 wPick k (BB true) ae fun ag =>
 wCond ag (
 wBuild Y4 [] fun ah =>
 xM R af 4 a fun ai =>
 xC R 73 N O T 74 [ai] af fun aj ak =>
 wSt (lf R 73 N O T) ak 4 c ah fun al =>
 wSt (lf R 73 N O T) al 2 e aj fun am =>
 xM R am 4 c fun an =>
 xM R am 2 e fun ao =>
 QR (.tuple [an,ao]) am) (
 P73_1 R N O T t1 a c e af QR)) : P73_0 R N O T t0 t1 s QR :=
  pC lv73 cF h
theorem p73_1 (h :
 wFad s t2 2 fun a =>
 xL R s a fun b =>
 wIdx s 4 b (I64 0) fun c =>
 xM R s 4 c fun d =>
 wFad s t2 2 fun e =>
 xL R s e fun f =>
 wSlc s 4 f (some (I64 1)) none none fun g =>
 wNew s [(I64 0),(SS []),(.capped []),(I64 0)] fun i j =>
 wSt (lf R 73 N O T) j 4 i d fun k =>
(wFad j t2 2 fun l => eqA l a = true) ∧
(xL R j a fun m => eqA m b = true) ∧
(wIdx j 4 b (I64 0) fun n => eqA n c = true) ∧
(xM R j 4 c fun o => eqA o d = true) ∧
(wFad j t2 2 fun p => eqA p e = true) ∧
(wFad k t2 2 fun q => eqA q e = true) ∧
(xL R j e fun u => eqA u f = true) ∧
(xL R k e fun w => eqA w f = true) ∧
(wSlc j 4 f (some (I64 1)) none none fun x => eqA x g = true) ∧
(wSlc k 4 f (some (I64 1)) none none fun y => eqA y g = true) ∧
 wNew k Y4 fun z aa =>
 xF R aa i 1 fun ac =>
 wStr .eql ac (SS [101,120,105,115,116,115]) fun ad =>
 wCond ad (
 xM R aa 4 t2 fun ae =>
 xC R 73 N O T 99 [ae,t1] aa fun af ag =>
 wExt af 0 fun ah =>
 wExt af 1 fun ai =>
 wSt (lf R 73 N O T) ag 4 t4 ah fun aj =>
 wSt (lf R 73 N O T) aj 2 t5 ai fun ak =>
 xM R ak 4 t4 fun al =>
 xM R ak 2 t5 fun am =>
 QR (.tuple [al,am]) ak) (
 xF R aa i 1 fun ao =>
 wStr .eql ao (SS [116,117,112,108,101]) fun ap =>
 wCond ap (
 wFad aa z 0 fun aq =>
 wSt (lf R 73 N O T) aa 1 aq (I64 3) fun ar =>
 P73_2 R N O T t1 t4 t5 g z ar QR) (
 xF R aa i 1 fun av =>
 wStr .eql av (SS [117,110,105,111,110]) fun aw =>
 g0 aw true aa g fun ax ay =>
 g1 aw true ay (wLen ay ax) fun a0 a1 =>
 g1 aw true a1 (xI .geq a0 (I64 2)) fun a3 a4 =>
 wPick aw a3 (BB false) fun a5 =>
 wCond a5 (
 wFad a4 z 0 fun a7 =>
 wSt (lf R 73 N O T) a4 1 a7 (I64 4) fun a9 =>
 P73_2 R N O T t1 t4 t5 g z a9 QR) (
 xF R a4 i 1 fun bb =>
 wStr .eql bb (SS [117,110,105,111,110]) fun bc =>
 g0 bc false a4 g fun bd be =>
 g1 bc false be (wLen be bd) fun bg bh =>
 g1 bc false bh (xI .eql bg (I64 0)) fun bj bk =>
 wPick bc (BB true) bj fun bl =>
 wCond bl (
 wBuild Y4 [] fun bm =>
 xM R bk 4 t2 fun bn =>
 xC R 73 N O T 74 [bn] bk fun bo bp =>
 wSt (lf R 73 N O T) bp 4 t4 bm fun bq =>
 wSt (lf R 73 N O T) bq 2 t5 bo fun br =>
 xM R br 4 t4 fun bs =>
 xM R br 2 t5 fun bt =>
 QR (.tuple [bs,bt]) br) (
 xM R bk 4 i fun bu =>
 xC R 73 N O T 98 [bu] bk fun bv bw =>
 wNot bv fun bx =>
 wCond bx (
 wBuild Y4 [] fun bz =>
 xM R bw 4 i fun b0 =>
 xC R 73 N O T 74 [b0] bw fun b1 b2 =>
 wSt (lf R 73 N O T) b2 4 t4 bz fun b3 =>
 wSt (lf R 73 N O T) b3 2 t5 b1 fun b4 =>
 xM R b4 4 t4 fun b5 =>
 xM R b4 2 t5 fun b6 =>
 QR (.tuple [b5,b6]) b4) (
 wFad bw i 1 fun b7 =>
 xL R bw b7 fun b8 =>
 wFad bw z 0 fun b9 =>
 wSt (lf R 73 N O T) bw 1 b9 (I64 2) fun ca =>
 wFad ca z 1 fun cb =>
 wSt (lf R 73 N O T) ca 1 cb b8 fun cc =>
(wFad ca i 1 fun cd => eqA cd b7 = true) ∧
(xL R ca b7 fun ce => eqA ce b8 = true) ∧
 P73_2 R N O T t1 t4 t5 g z cc QR)))))) : P73_1 R N O T t1 t2 t4 t5 s QR :=
  pC lv73 cF h
theorem p73_2 (h :
 wLen s t7 fun a =>
 P73_3 R N O T t1 t4 t5 t8 t7 a (I64 0) s QR) : P73_2 R N O T t1 t4 t5 t7 t8 s QR :=
  pC lv73 cF h
theorem p73_3 (h :
 xI .lss t84 t83 fun a =>
 wCond a (
 P73_4 R N O T t1 t4 t5 t8 t82 t83 t84 a s QR) (
 P73_5 R N O T t4 t5 t8 s QR)) : P73_3 R N O T t1 t4 t5 t8 t82 t83 t84 s QR :=
  pL lv73 cF h
theorem p73_4 (h :
 wIdx s 4 t82 t84 fun a =>
 xM R s 4 a fun b =>
 wNew s [(I64 0),(SS []),(.capped []),(I64 0)] fun c d =>
 wSt (lf R 73 N O T) d 4 c b fun e =>
 xM R e 4 c fun f =>
 xC R 73 N O T 46 [f,t1] e fun g i =>
 wExt g 0 fun j =>
 wExt g 1 fun k =>
 wNew i Y4 fun l m =>
 wNew m [(I64 0),(I64 0)] fun n o =>
 wSt (lf R 73 N O T) o 4 l j fun p =>
 wSt (lf R 73 N O T) p 2 n k fun q =>
 xF R q n 0 fun w =>
 xI .neq w (I64 0) fun x =>
 wCond x (
 wBuild Y4 [] fun y =>
 xM R q 2 n fun z =>
 wSt (lf R 73 N O T) q 4 t4 y fun aa =>
 wSt (lf R 73 N O T) aa 2 t5 z fun ab =>
(xM R aa 2 n fun ac => eqA ac z = true) ∧
 xM R ab 4 t4 fun ad =>
 xM R ab 2 t5 fun ae =>
 QR (.tuple [ad,ae]) ab) (
 P73_6 R N O T t1 t4 t5 t8 l t82 t83 t84 q QR)) : P73_4 R N O T t1 t4 t5 t8 t82 t83 t84 t85 s QR :=
  pC lv73 cF h
theorem p73_5 (h :
 xM R s 4 t8 fun a =>
 wBuild [(I64 0),(I64 0)] [] fun b =>
 wSt (lf R 73 N O T) s 4 t4 a fun c =>
 wSt (lf R 73 N O T) c 2 t5 b fun d =>
 xM R d 4 t4 fun e =>
 xM R d 2 t5 fun f =>
 QR (.tuple [e,f]) d) : P73_5 R N O T t4 t5 t8 s QR :=
  pC lv73 cF h
theorem p73_6 (h :
 xF R s t8 3 fun b =>
 xM R s 4 t11 fun c =>
 wBsl false s 4 Y4 1 [(0,4,c)] fun d e =>
(4 = 4 ∧ 4 ≠ 0) ∧ wApp false (lf R 73 N O T) e 25 4 56 b d fun f g =>
 wFad g t8 3 fun i =>
 wSt (lf R 73 N O T) g 1 i f fun j =>
 P73_7 R N O T t1 t4 t5 t8 t82 t83 t84 j QR) : P73_6 R N O T t1 t4 t5 t8 t11 t82 t83 t84 s QR :=
  pC lv73 cF h
theorem p73_7 (h :
 xI .add t84 (I64 1) fun a =>
 P73_3 R N O T t1 t4 t5 t8 t82 t83 a s QR) : P73_7 R N O T t1 t4 t5 t8 t82 t83 t84 s QR :=
  pC lv73 cF h
theorem e73 {u0 u1 : AV} {Post : AV → Prop} (hcl : closeL [] 0 0 [t0,t1] = some [u0,u1]) (h : P73_0 R 0 0 0 u0 u1 ⟨[],[]⟩ (QP Post)) : PureC (env R) 73 [t0,t1] Post :=
  hR Tryz.func73 hcl h
theorem p74_0 (h :
 wBox s t0 fun a b =>
 wNew b [(I64 0),(I64 0)] fun c d =>
 xF R d a 3 fun f =>
 wBuild [(I64 0),(I64 0)] [(0,1,(I64 2)),(1,1,f)] fun g =>
 wSt (lf R 74 N O T) d 2 c g fun i =>
 xM R i 2 c fun j =>
 QR j i) : P74_0 R N O T t0 s QR :=
  pC lv74 cF h
theorem e74 {u0 : AV} {Post : AV → Prop} (hcl : closeL [] 0 0 [t0] = some [u0]) (h : P74_0 R 0 0 0 u0 ⟨[],[]⟩ (QP Post)) : PureC (env R) 74 [t0] Post :=
  hR Tryz.func74 hcl h
theorem p98_0 (h :
 wBox s t0 fun a b =>
 xF R b a 0 fun d =>
 xI .eql d (I64 1) fun e =>
 g1 e true b (wFad b a 1) fun g i =>
 g1 e true i (xL R i g) fun k l =>
 wGK e true l (xC R 98 N O T 100 [k] l) fun o p =>
 wPick e o (BB false) fun q =>
 g1 q true p (xL R p (.gptr 7 0)) fun v w =>
 g1 q true w (wFad w a 1) fun y z =>
 g1 q true z (xL R z y) fun ab ac =>
 wGK q true ac (xC R 98 N O T 84 [v,ab] ac) fun af ag =>
 g1 q true ag (wNot af) fun ai aj =>
 wPick q ai (BB false) fun ak =>
 QR ak aj) : P98_0 R N O T t0 s QR :=
  pC lv98 cF h
theorem e98 {u0 : AV} {Post : AV → Prop} (hcl : closeL [] 0 0 [t0] = some [u0]) (h : P98_0 R 0 0 0 u0 ⟨[],[]⟩ (QP Post)) : PureC (env R) 98 [t0] Post :=
  hR Tryz.func98 hcl h
theorem p99_0 (h :
 wBox s t0 fun a b =>
 wNew b Y4 fun c d =>
 wNew d [(I64 0),(I64 0)] fun e f =>
 xF R f a 2 fun i =>
 wLen f i fun j =>
 xI .neq j (I64 4) fun k =>
 wCond k (
 wBuild Y4 [] fun l =>
 xM R f 4 a fun m =>
 xC R 99 N O T 74 [m] f fun n o =>
 wSt (lf R 99 N O T) o 4 c l fun p =>
 wSt (lf R 99 N O T) p 2 e n fun q =>
 xM R q 4 c fun u =>
 xM R q 2 e fun v =>
 QR (.tuple [u,v]) q) (
 P99_1 R N O T t1 a c e f QR)) : P99_0 R N O T t0 t1 s QR :=
  pC lv99 cF h
theorem p99_1 (h :
 xF R s t2 2 fun b =>
 wIdx s 4 b (I64 1) fun c =>
 xM R s 4 c fun d =>
 wNew s [(I64 0),(SS []),(.capped []),(I64 0)] fun e f =>
 wSt (lf R 99 N O T) f 4 e d fun g =>
 xM R g 4 e fun i =>
 xC R 99 N O T 98 [i] g fun j k =>
 wNot j fun l =>
 wCond l (
 wBuild Y4 [] fun m =>
 xM R k 4 e fun n =>
 xC R 99 N O T 74 [n] k fun o p =>
 wSt (lf R 99 N O T) p 4 t4 m fun q =>
 wSt (lf R 99 N O T) q 2 t5 o fun u =>
 xM R u 4 t4 fun v =>
 xM R u 2 t5 fun w =>
 QR (.tuple [v,w]) u) (
 P99_2 R N O T t1 t2 t4 t5 e k QR)) : P99_1 R N O T t1 t2 t4 t5 s QR :=
  pC lv99 cF h
theorem p99_2 (h :
 xF R s t2 2 fun b =>
 wIdx s 4 b (I64 2) fun c =>
 xM R s 4 c fun d =>
 xC R 99 N O T 46 [d,(.capped [])] s fun e f =>
 wExt e 0 fun g =>
 wExt e 1 fun i =>
 wNew f Y4 fun j k =>
 wNew k [(I64 0),(I64 0)] fun l m =>
 wSt (lf R 99 N O T) m 4 j g fun n =>
 wSt (lf R 99 N O T) n 2 l i fun o =>
 xF R o l 0 fun q =>
 xI .neq q (I64 0) fun u =>
 wCond u (
 wBuild Y4 [] fun w =>
 xM R o 2 l fun x =>
 wSt (lf R 99 N O T) o 4 t4 w fun y =>
 wSt (lf R 99 N O T) y 2 t5 x fun z =>
(xM R y 2 l fun aa => eqA aa x = true) ∧
 xM R z 4 t4 fun ab =>
 xM R z 2 t5 fun ac =>
 QR (.tuple [ab,ac]) z) (
 P99_3 R N O T t1 t2 t4 t5 t6 j l o QR)) : P99_2 R N O T t1 t2 t4 t5 t6 s QR :=
  pC lv99 cF h
theorem p99_3 (h :
 wFad (⟨s.bs ++ [Y4],s.ts⟩ : Sto) t2 2 fun a =>
 wLd (env R) (⟨s.bs ++ [Y4],s.ts⟩ : Sto) none a fun b =>
 wIdx (⟨s.bs ++ [Y4],s.ts⟩ : Sto) 4 b (I64 3) fun c =>
 wLd (env R) (⟨s.bs ++ [Y4],s.ts⟩ : Sto) (some 4) c fun d =>
 xC R 99 N O T 61 [t1] (⟨s.bs ++ [Y4],s.ts⟩ : Sto) fun e f =>
 wFad f t6 1 fun g =>
 xL R f g fun i =>
 wBsl false f 1 [(SS [])] 1 [(0,1,i)] fun j k =>
(1 = 1 ∧ 1 ≠ 0) ∧ wApp false (lf R 99 N O T) f 9 1 16 e j fun l m =>
 xC R 99 N O T 46 [d,l] m fun n o =>
 wExt n 0 fun p =>
 wExt n 1 fun q =>
 wSt (lf R 99 N O T) o 4 (.ptr s.bs.length 0) p fun u =>
 wSt (lf R 99 N O T) u 2 t8 q fun w =>
(wFad f t2 2 fun x => eqA x a = true) ∧
(wFad m t2 2 fun y => eqA y a = true) ∧
(xL R f a fun z => eqA z b = true) ∧
(xL R m a fun aa => eqA aa b = true) ∧
(wIdx f 4 b (I64 3) fun ab => eqA ab c = true) ∧
(wIdx m 4 b (I64 3) fun ac => eqA ac c = true) ∧
(xM R f 4 c fun ad => eqA ad d = true) ∧
(xM R m 4 c fun ae => eqA ae d = true) ∧
(wFad (⟨s.bs ++ [Y4],s.ts⟩ : Sto) t6 1 fun af => eqA af g = true) ∧
(wLd (env R) (⟨s.bs ++ [Y4],s.ts⟩ : Sto) none g fun ag => eqA ag i = true) ∧
(wO (idOf (.ptr s.bs.length 0)) fun id => wO (⟨s.bs ++ [Y4],s.ts⟩ : Sto).bs[id]? fun cs' => eqAL cs' Y4 = true) ∧
(wO (idOf (.ptr s.bs.length 0)) fun id => wO f.bs[id]? fun cs' => eqAL cs' Y4 = true) ∧
(wO (idOf (.ptr s.bs.length 0)) fun id => wO m.bs[id]? fun cs' => eqAL cs' Y4 = true) ∧
(wO (idOf (.ptr s.bs.length 0)) fun id => wO o.bs[id]? fun cs' => eqAL cs' Y4 = true) ∧
 xF R w t8 0 fun ai =>
 xI .neq ai (I64 0) fun aj =>
 wCond aj (
 wBuild Y4 [] fun ak =>
 xM R w 2 t8 fun al =>
 wSt (lf R 99 N O T) w 4 t4 ak fun am =>
 wSt (lf R 99 N O T) am 2 t5 al fun an =>
(xM R am 2 t8 fun ao => eqA ao al = true) ∧
 xM R an 4 t4 fun ap =>
 xM R an 2 t5 fun aq =>
 QR (.tuple [ap,aq]) an) (
 P99_4 R N O T t4 t5 t7 (.ptr s.bs.length 0) w QR)) : P99_3 R N O T t1 t2 t4 t5 t6 t7 t8 s QR :=
  pC lv99 cF h
theorem p99_4 (h :
 xM R s 4 t7 fun a =>
 xM R s 4 t9 fun b =>
 wBsl false s 4 Y4 2 [(0,4,a),(4,4,b)] fun c d =>
 wBuild Y4 [(0,1,(I64 6)),(3,1,c)] fun e =>
 wBuild [(I64 0),(I64 0)] [] fun f =>
 wSt (lf R 99 N O T) d 4 t4 e fun g =>
 wSt (lf R 99 N O T) g 2 t5 f fun i =>
 xM R i 4 t4 fun j =>
 xM R i 2 t5 fun k =>
 QR (.tuple [j,k]) i) : P99_4 R N O T t4 t5 t7 t9 s QR :=
  pC lv99 cF h
theorem e99 {u0 u1 : AV} {Post : AV → Prop} (hcl : closeL [] 0 0 [t0,t1] = some [u0,u1]) (h : P99_0 R 0 0 0 u0 u1 ⟨[],[]⟩ (QP Post)) : PureC (env R) 99 [t0,t1] Post :=
  hR Tryz.func99 hcl h
theorem p15_0 (h :
 wBox s t0 fun a b =>
 wBox b t1 fun c d =>
 xM R d 4 a fun e =>
 xM R d 4 c fun f =>
 xC R 15 N O T 43 [e,f] d fun g i =>
 xI .eql g (I64 0) fun j =>
 QR j i) : P15_0 R N O T t0 t1 s QR :=
  pC lv15 cF h
theorem e15 {u0 u1 : AV} {Post : AV → Prop} (hcl : closeL [] 0 0 [t0,t1] = some [u0,u1]) (h : P15_0 R 0 0 0 u0 u1 ⟨[],[]⟩ (QP Post)) : PureC (env R) 15 [t0,t1] Post :=
  hR Tryz.func15 hcl h
theorem p43_0 (h :
 wBox s t0 fun a b =>
 wBox b t1 fun c d =>
 xF R d a 0 fun f =>
 xF R d c 0 fun i =>
 xI .neq f i fun j =>
 wCond j (
 xF R d a 0 fun l =>
 xF R d c 0 fun n =>
 xI .lss l n fun o =>
 xC R 43 N O T 71 [o] d fun p q =>
 QR p q) (
 xF R d a 1 fun v =>
 xF R d c 1 fun x =>
 wStr .neq v x fun y =>
 wCond y (
 xF R d a 1 fun aa =>
 xF R d c 1 fun ac =>
 wStr .lss aa ac fun ad =>
 xC R 43 N O T 71 [ad] d fun ae af =>
 QR ae af) (
 xF R d a 2 fun ah =>
 xF R d c 2 fun aj =>
 xI .neq ah aj fun ak =>
 wCond ak (
 xF R d a 2 fun am =>
 xF R d c 2 fun ao =>
 xI .lss am ao fun ap =>
 xC R 43 N O T 71 [ap] d fun aq ar =>
 QR aq ar) (
 xF R d a 3 fun av =>
 wLen d av fun aw =>
 xF R d c 3 fun ay =>
 wLen d ay fun az =>
 xI .neq aw az fun a0 =>
 wCond a0 (
 xF R d a 3 fun a4 =>
 wLen d a4 fun a5 =>
 xF R d c 3 fun a7 =>
 wLen d a7 fun ba =>
 xI .lss a5 ba fun bb =>
 xC R 43 N O T 71 [bb] d fun bc bd =>
 QR bc bd) (
 P43_1 R N O T a c d QR))))) : P43_0 R N O T t0 t1 s QR :=
  pC lv43 cF h
theorem p43_1 (h :
 P43_2 R N O T t2 t3 (I64 0) s QR) : P43_1 R N O T t2 t3 s QR :=
  pC lv43 cF h
theorem p43_2 (h :
 xF R s t2 3 fun b =>
 wLen s b fun c =>
 xI .lss t5 c fun d =>
 wCond d (
 P43_3 R N O T t2 t3 t5 s QR) (
 P43_4 R N O T  s QR)) : P43_2 R N O T t2 t3 t5 s QR :=
  pL lv43 cF h
theorem p43_3 (h :
 xF R s t2 3 fun b =>
 wIdx s 4 b t5 fun c =>
 xM R s 4 c fun d =>
 xF R s t3 3 fun f =>
 wIdx s 4 f t5 fun g =>
 xM R s 4 g fun i =>
 xC R 43 N O T 43 [d,i] s fun j k =>
 xI .neq j (I64 0) fun l =>
 wCond l (
 QR j k) (
 P43_5 R N O T t2 t3 t5 k QR)) : P43_3 R N O T t2 t3 t5 s QR :=
  pC lv43 cF h
theorem p43_4 (h :
 QR (I64 0) s) : P43_4 R N O T  s QR :=
  pC lv43 cF h
theorem p43_5 (h :
 xI .add t5 (I64 1) fun a =>
 P43_2 R N O T t2 t3 a s QR) : P43_5 R N O T t2 t3 t5 s QR :=
  pC lv43 cF h
theorem e43 {u0 u1 : AV} {Post : AV → Prop} (hcl : closeL [] 0 0 [t0,t1] = some [u0,u1]) (h : P43_0 R 0 0 0 u0 u1 ⟨[],[]⟩ (QP Post)) : PureC (env R) 43 [t0,t1] Post :=
  hR Tryz.func43 hcl h
theorem p71_0 (h :
 wCond t0 (
 QR (I64 (-1)) s) (
 P71_1 R N O T  s QR)) : P71_0 R N O T t0 s QR :=
  pC lv71 cF h
theorem p71_1 (h :
 QR (I64 1) s) : P71_1 R N O T  s QR :=
  pC lv71 cF h
theorem e71 {u0 : AV} {Post : AV → Prop} (hcl : closeL [] 0 0 [t0] = some [u0]) (h : P71_0 R 0 0 0 u0 ⟨[],[]⟩ (QP Post)) : PureC (env R) 71 [t0] Post :=
  hR Tryz.func71 hcl h
end
noncomputable section
section
variable (R : RT) (N O T : Nat) (t0 t1 t2 t3 t4 t5 t19 : AV)
noncomputable def b97 : Code := Tryz.f97.body.getD .skip
def lv97 : Nat → List Nat := ln [[],[1]]
abbrev Q97 := Wq R N O T 97 4 [.tmp 2]
def P97_0 := Q97 R N O T (aT b97 1) [(0,t0)]
noncomputable def b72 : Code := Tryz.f72.body.getD .skip
def lv72 : Nat → List Nat := ln [[],[2,3,4,5],[2,3,4,5,9],[2,3,4,5,9,10],[],[2,3,4,5,14],[2,3,4,5],[2,3,4,5,19],[2,3,4,5,6,21],ra 6 2 [],[3,4,5,6,25],[2,4,5],[2,4,5,35],[2,4,5]]
abbrev Q72 := Wq R N O T 72 43 [.cell 4 25,.cell 5 35]
def P72_0 := Q72 R N O T (aT b72 1) [(0,t0),(1,t1)]
def P72_1 := Q72 R N O T (aT b72 7) [(2,t2),(3,t3),(4,t4),(5,t5)]
def P72_2 := Wqr R N O T 72 43 [.cell 4 25,.cell 5 35] (sub b72 [1,1,0,1,0]) [.blk 1,.seq (sub b72 [1,1,1])] [(2,t2),(3,t3),(4,t4),(5,t5),(19,t19)]
def P72_3 := Q72 R N O T (aT b72 15) [(2,t2),(4,t4),(5,t5)]
def P72_4 := Q72 R N O T (aT b72 31) [(2,t2),(4,t4),(5,t5)]
end
variable {R : RT} {N O T : Nat} {s : Sto} {QR : QT} {t0 t1 t2 t3 t4 t5 t19 : AV}
theorem p97_0 (h :
 wBox s t0 fun a b =>
 QR (.func (.func 116) [] [a]) b) : P97_0 R N O T t0 s QR :=
  pC lv97 cF h
theorem m97 {L : Lim} {Post : AV → Sto → Prop} (h : P97_0 R L.n0 L.ro L.rt t0 s Post) : ∃ v s',Post v s' ∧ CallE (env R) L 97 [t0] s v s' :=
  hE Tryz.func97 h
theorem p72_0 (h :
 wBox s t0 fun a b =>
 wBox b t1 fun c d =>
 wNew d Y4 fun e f =>
 wNew f [(I64 0),(I64 0)] fun g i =>
 xF R i a 1 fun k =>
 wStr .eql k (SS [65,110,121]) fun l =>
 wCond l (
 wBuild Y4 [(0,1,(I64 0))] fun m =>
 wBuild [(I64 0),(I64 0)] [] fun n =>
 wSt (lf R 72 N O T) i 4 e m fun o =>
 wSt (lf R 72 N O T) o 2 g n fun p =>
 xM R p 4 e fun q =>
 xM R p 2 g fun u =>
 QR (.tuple [q,u]) p) (
 wStr .eql k (SS [78,101,118,101,114]) fun v =>
 wCond v (
 wBuild Y4 [(0,1,(I64 1))] fun w =>
 wBuild [(I64 0),(I64 0)] [] fun x =>
 wSt (lf R 72 N O T) i 4 e w fun y =>
 wSt (lf R 72 N O T) y 2 g x fun z =>
 xM R z 4 e fun aa =>
 xM R z 2 g fun ab =>
 QR (.tuple [aa,ab]) z) (
 P72_1 R N O T a c e g i QR))) : P72_0 R N O T t0 t1 s QR :=
  pC lv72 cF h
theorem p72_1 (h :
 xL R s t3 fun a =>
 xC R 72 N O T 97 [a] s fun b c =>
 P72_2 R N O T t2 t3 t4 t5 b c QR) : P72_1 R N O T t2 t3 t4 t5 s QR :=
  pC lv72 cF h
theorem p72_2 (h :
 P72_3 R N O T t2 t4 t5 s QR) : Wp (env R) (lf R 72 N O T) 43 [.cell 4 25,.cell 5 35] .skip [.blk 1,.seq (sn b72 15)] [(2,t2),(3,t3),(4,t4),(5,t5),(19,t19)] s QR :=
  pC lv72 cF h
theorem p72_3 (h :
 xM R s 4 t2 fun a =>
 xC R 72 N O T 98 [a] s fun b c =>
 wNot b fun d =>
 wCond d (
 wBuild Y4 [] fun e =>
 xM R c 4 t2 fun f =>
 xC R 72 N O T 74 [f] c fun g i =>
 wSt (lf R 72 N O T) i 4 t4 e fun j =>
 wSt (lf R 72 N O T) j 2 t5 g fun k =>
 xM R k 4 t4 fun l =>
 xM R k 2 t5 fun m =>
 QR (.tuple [l,m]) k) (
 P72_4 R N O T t2 t4 t5 c QR)) : P72_3 R N O T t2 t4 t5 s QR :=
  pC lv72 cF h
theorem p72_4 (h :
 xF R s t2 1 fun b =>
 wBuild Y4 [(0,1,(I64 2)),(1,1,b)] fun c =>
 wBuild [(I64 0),(I64 0)] [] fun d =>
 wSt (lf R 72 N O T) s 4 t4 c fun e =>
 wSt (lf R 72 N O T) e 2 t5 d fun f =>
 xM R f 4 t4 fun g =>
 xM R f 2 t5 fun i =>
 QR (.tuple [g,i]) f) : P72_4 R N O T t2 t4 t5 s QR :=
  pC lv72 cF h
theorem e72 {u0 u1 : AV} {Post : AV → Prop} (hcl : closeL [] 0 0 [t0,t1] = some [u0,u1]) (h : P72_0 R 0 0 0 u0 u1 ⟨[],[]⟩ (QP Post)) : PureC (env R) 72 [t0,t1] Post :=
  hR Tryz.func72 hcl h
end
noncomputable section
section
variable (R : RT) (N O T : Nat) (t0 : AV)
noncomputable def b61 : Code := Tryz.f61.body.getD .skip
def lv61 : Nat → List Nat := ln [[],[0],[0,4],[0]]
abbrev Q61 := Wq R N O T 61 8 [.tmp 2]
def P61_0 := Q61 R N O T (aT b61 1) [(0,t0)]
def P61_1 := Q61 R N O T (aT b61 7) [(0,t0)]
end
variable {R : RT} {N O T : Nat} {s : Sto} {QR : QT} {t0 : AV}
theorem p61_0 (h :
 wNeN s (some 1) (nilV t0) (some 1) .eql t0 (.capped []) fun a =>
 wCond a (
 QR (.capped []) s) (
 P61_1 R N O T t0 s QR)) : P61_0 R N O T t0 s QR :=
  pC lv61 cF h
theorem p61_1 (h :
 wBsl false s 1 [(SS [])] 0 [] fun a b =>
(1 = 1 ∧ 1 ≠ 0) ∧ wApp false (lf R 61 N O T) b 9 1 16 a t0 fun c d =>
 QR c d) : P61_1 R N O T t0 s QR :=
  pC lv61 cF h
end
noncomputable section
section
variable (R : RT) (N O T : Nat) (t0 t1 t2 t3 t4 t5 t6 t8 t9 t10 t11 t12 t13 t22 t23 t35 t49 t58 t75 : AV)
noncomputable def b26 : Code := Tryz.f26.body.getD .skip
def lv26 : Nat → List Nat := ln ([]::[0,1,2,3,8]::[0,1,2,3,8,9]::[0,1,2,3,8,9,21]::[0,1,2,3,8,9]::[0,1,2,3,8,22]::[0,1,2,3,8,22,23]::[0,1,2,3,8,22,23]::[]::[0,1,2,3,8,22,32]::[]::[0,1,2,3,8,22,35]::[0,1,2,3,8,22,35]::[0,1,2,3,8,39]::[0,1,2,3,8]::[]::rp 3 [0,1,2,3,8,22,49] ([]::[0,1,2,3,8,22,58]::[0,1,2,3,8,22,58]::[]::[0,1,2,3,8,22,75]::[0,1,2,3,8,22,75]::[0,1,2,3,8,10]::[0,1,2,3,8,10,11]::rp 3 [0,1,2,3,8,10,11,12] [[8,10],[],[0,1,2,3,8,98],[0,1,2,3,8,13],[0,1,2,3,8,13,103],[0,1,2,3,8,13],[0,8],[8,118],[8]]))
abbrev Q26 := Wq R N O T 26 125 [.cell 8 25]
def P26_0 := Q26 R N O T (aT b26 1) [(0,t0),(1,t1),(2,t2),(3,t3)]
def P26_1 := Q26 R N O T (aT b26 15) [(0,t0),(1,t1),(2,t2),(3,t3),(8,t8),(9,t9)]
def P26_2 := Q26 R N O T (aT b26 245) [(0,t0),(1,t1),(2,t2),(3,t3),(8,t8),(22,t22),(23,t23)]
def P26_3 := Q26 R N O T (aT b26 3935) [(0,t0),(1,t1),(2,t2),(3,t3),(8,t8),(22,t22),(35,t35)]
def P26_4 := Q26 R N O T (aT b26 15741) [(0,t0),(1,t1),(2,t2),(3,t3),(8,t8)]
def P26_5 := Q26 R N O T (aT b26 15743) [(0,t0),(1,t1),(2,t2),(3,t3),(8,t8),(22,t22),(49,t49)]
def P26_6 := Q26 R N O T (aT b26 62975) [(0,t0),(1,t1),(2,t2),(3,t3),(8,t8),(22,t22),(58,t58)]
def P26_7 := Q26 R N O T (aT b26 251903) [(0,t0),(1,t1),(2,t2),(3,t3),(8,t8),(22,t22),(75,t75)]
def P26_8 := Q26 R N O T (aT b26 16121818) [(0,t0),(1,t1),(2,t2),(3,t3),(8,t8),(10,t10),(11,t11),(12,t12)]
def P26_9 := Q26 R N O T (aT b26 8060923) [(0,t0),(1,t1),(2,t2),(3,t3),(8,t8),(13,t13)]
def P26_10 := Q26 R N O T (aT b26 31) [(0,t0),(8,t8)]
def P26_11 := Q26 R N O T (aT b26 64487273) [(0,t0),(1,t1),(2,t2),(3,t3),(8,t8),(10,t10),(11,t11),(12,t12)]
def P26_12 := Q26 R N O T (aT b26 4030455) [(8,t8),(10,t10)]
def P26_13 := Q26 R N O T (aT b26 63) [(8,t8)]
def P26_14 := Q26 R N O T (aT b26 128974547) [(0,t0),(1,t1),(2,t2),(3,t3),(8,t8),(10,t10),(11,t11),(12,t12)]
noncomputable def b48 : Code := Tryz.f48.body.getD .skip
def lv48 : Nat → List Nat := ln ([]::[0,1,2,3,8]::[0,1,2,3,8,9]::[0,1,2,3,8,9,19]::[0,1,2,3,8,9]::[0,1,2,3,8,10]::[0,1,2,3,8,10,11]::rp 3 [0,1,2,3,8,10,11,12] [[8,11]])
abbrev Q48 := Wq R N O T 48 51 [.cell 8 25]
def P48_0 := Q48 R N O T (aT b48 1) [(0,t0),(1,t1),(2,t2),(3,t3)]
def P48_1 := Q48 R N O T (aT b48 15) [(0,t0),(1,t1),(2,t2),(3,t3),(8,t8),(9,t9)]
def P48_2 := Q48 R N O T (aT b48 506) [(0,t0),(1,t1),(2,t2),(3,t3),(8,t8),(10,t10),(11,t11),(12,t12)]
def P48_3 := Q48 R N O T (aT b48 2025) [(0,t0),(1,t1),(2,t2),(3,t3),(8,t8),(10,t10),(11,t11),(12,t12)]
def P48_4 := Q48 R N O T (aT b48 127) [(8,t8),(11,t11)]
def P48_5 := Q48 R N O T (aT b48 4051) [(0,t0),(1,t1),(2,t2),(3,t3),(8,t8),(10,t10),(11,t11),(12,t12)]
noncomputable def b51 : Code := Tryz.f51.body.getD .skip
def lv51 : Nat → List Nat := ln [[],[0,1,2,3,8],[0,1,2,3,8,9],[0,1,2,3,8,9,12],[],[0,1,2,3,8,9,23],[],[0,1,2,3,8,32],[0,1,2,8]]
abbrev Q51 := Wq R N O T 51 45 [.cell 8 25]
def P51_0 := Q51 R N O T (aT b51 1) [(0,t0),(1,t1),(2,t2),(3,t3)]
def P51_1 := Q51 R N O T (aT b51 7) [(0,t0),(1,t1),(2,t2),(8,t8)]
noncomputable def b7 : Code := Tryz.f7.body.getD .skip
def lv7 : Nat → List Nat := ln [[],[0,1,4]]
abbrev Q7 := Wq R N O T 7 8 [.cell 4 25]
def P7_0 := Q7 R N O T (aT b7 1) [(0,t0),(1,t1)]
noncomputable def b3 : Code := Tryz.f3.body.getD .skip
def lv3 : Nat → List Nat := ln [[],[0,1],[5],[5,6],[5,6,23],[5,6],[5,7,8]]
abbrev Q3 := Wq R N O T 3 42 [.tmp 4]
def P3_0 := Q3 R N O T (aT b3 1) [(0,t0),(1,t1)]
def P3_1 := Q3 R N O T (aT b3 31) [(5,t5),(6,t6)]
noncomputable def b13 : Code := Tryz.f13.body.getD .skip
def lv13 : Nat → List Nat := ln [[],[0,2,3],[2,3,4,5],[2,3,4,5,11],[],[2,3,4,17],[2,3,4]]
abbrev Q13 := Wq R N O T 13 29 [.cell 2 25,.cell 3 35]
def P13_0 := Q13 R N O T (aT b13 1) [(0,t0)]
def P13_1 := Q13 R N O T (aT b13 15) [(2,t2),(3,t3),(4,t4)]
end
variable {R : RT} {N O T : Nat} {s : Sto} {QR : QT} {t0 t1 t2 t3 t4 t5 t6 t8 t9 t10 t11 t12 t13 t22 t23 t35 t49 t58 t75 : AV}
theorem p26_0 (h :
 wNew s Y4 fun a b =>
 xC R 26 N O T 44 [t0,(I64 14)] b fun c d =>
 xI .leq t2 (I64 0) fun e =>
 g0 e true d c fun f g =>
 g1 e true g (xI .gtr f (I64 5)) fun j k =>
 wPick e j (BB false) fun l =>
 wCond l (
 P26_1 R N O T t0 t1 t2 t3 a (I64 0) k QR) (
 P26_1 R N O T t0 t1 t2 t3 a c k QR)) : P26_0 R N O T t0 t1 t2 t3 s QR :=
  pC lv26 cF h
theorem p26_1 (h :
 xI .eql t9 (I64 0) fun a =>
 wCond a (
 P26_2 R N O T t0 t1 t2 t3 t8 t9 a s QR) (
 xI .eql t9 (I64 1) fun b =>
 P26_2 R N O T t0 t1 t2 t3 t8 t9 b s QR)) : P26_1 R N O T t0 t1 t2 t3 t8 t9 s QR :=
  pC lv26 cF h
theorem p26_2 (h :
 wCond t23 (
 xL R s (.gptr 4 0) fun a =>
 xC R 26 N O T 44 [t0,(I64 4)] s fun b c =>
 wIdx c 1 a b fun d =>
 xL R c d fun e =>
 xC R 26 N O T 36 [e,(.capped [])] c fun f g =>
 wSt (lf R 26 N O T) g 4 t8 f fun i =>
(xL R c (.gptr 4 0) fun j => eqA j a = true) ∧
 xM R i 4 t8 fun k =>
 QR k i) (
 xI .eql t22 (I64 2) fun l =>
 wCond l (
 xC R 26 N O T 33 [] s fun m n =>
 wSt (lf R 26 N O T) n 4 t8 m fun o =>
 xM R o 4 t8 fun p =>
 QR p o) (
 xI .eql t22 (I64 3) fun q =>
 wCond q (
 P26_3 R N O T t0 t1 t2 t3 t8 t22 q s QR) (
 xI .eql t22 (I64 4) fun u =>
 P26_3 R N O T t0 t1 t2 t3 t8 t22 u s QR)))) : P26_2 R N O T t0 t1 t2 t3 t8 t22 t23 s QR :=
  pC lv26 cF h
theorem p26_3 (h :
 wCond t35 (
 xI .gtr t3 (I64 0) fun a =>
 wCond a (
 xC R 26 N O T 44 [t0,t3] s fun b c =>
 xC R 26 N O T 35 [b] c fun d e =>
 wSt (lf R 26 N O T) e 4 t8 d fun f =>
 xM R f 4 t8 fun g =>
 QR g f) (
 P26_4 R N O T t0 t1 t2 t3 t8 s QR)) (
 xI .eql t22 (I64 5) fun i =>
 wCond i (
 P26_5 R N O T t0 t1 t2 t3 t8 t22 i s QR) (
 xI .eql t22 (I64 6) fun j =>
 wCond j (
 P26_5 R N O T t0 t1 t2 t3 t8 t22 j s QR) (
 xI .eql t22 (I64 7) fun k =>
 P26_5 R N O T t0 t1 t2 t3 t8 t22 k s QR)))) : P26_3 R N O T t0 t1 t2 t3 t8 t22 t35 s QR :=
  pC lv26 cF h
theorem p26_4 (h :
 xC R 26 N O T 48 [t0,t1,t2,t3] s fun a b =>
 wSt (lf R 26 N O T) b 4 t8 a fun c =>
 xM R c 4 t8 fun d =>
 QR d c) : P26_4 R N O T t0 t1 t2 t3 t8 s QR :=
  pC lv26 cF h
theorem p26_5 (h :
 wCond t49 (
 xC R 26 N O T 48 [t0,t1,t2,t3] s fun a b =>
 wSt (lf R 26 N O T) b 4 t8 a fun c =>
 xM R c 4 t8 fun d =>
 QR d c) (
 xI .eql t22 (I64 8) fun e =>
 wCond e (
 P26_6 R N O T t0 t1 t2 t3 t8 t22 e s QR) (
 xI .eql t22 (I64 9) fun f =>
 P26_6 R N O T t0 t1 t2 t3 t8 t22 f s QR))) : P26_5 R N O T t0 t1 t2 t3 t8 t22 t49 s QR :=
  pC lv26 cF h
theorem p26_6 (h :
 wCond t58 (
 xI .sub t2 (I64 1) fun a =>
 xC R 26 N O T 26 [t0,t1,a,t3] s fun b c =>
 xI .sub t2 (I64 1) fun d =>
 xC R 26 N O T 26 [t0,t1,d,t3] c fun e f =>
 wBsl false f 4 Y4 2 [(0,4,b),(4,4,e)] fun g i =>
 xC R 26 N O T 49 [g] i fun j k =>
 wSt (lf R 26 N O T) k 4 t8 j fun l =>
 xM R l 4 t8 fun m =>
 QR m l) (
 xI .eql t22 (I64 10) fun n =>
 wCond n (
 P26_7 R N O T t0 t1 t2 t3 t8 t22 n s QR) (
 xI .eql t22 (I64 11) fun o =>
 P26_7 R N O T t0 t1 t2 t3 t8 t22 o s QR))) : P26_6 R N O T t0 t1 t2 t3 t8 t22 t58 s QR :=
  pC lv26 cF h
theorem p26_7 (h :
 wCond t75 (
 wBuild Y4 [(0,1,(I64 3))] fun a =>
 wNew s Y4 fun b c =>
 wSt (lf R 26 N O T) c 4 b a fun d =>
 xC R 26 N O T 44 [t0,(I64 4)] d fun e f =>
 P26_8 R N O T t0 t1 t2 t3 t8 b e (I64 0) f QR) (
 xI .eql t22 (I64 12) fun g =>
 wCond g (
 xC R 26 N O T 33 [] s fun i j =>
 wNew j Y4 fun k l =>
 wSt (lf R 26 N O T) l 4 k i fun m =>
 xC R 26 N O T 44 [t0,(I64 2)] m fun n o =>
 xI .eql n (I64 1) fun p =>
 wCond p (
 xC R 26 N O T 26 [t0,t1,(I64 1),(I64 0)] o fun q u =>
 wSt (lf R 26 N O T) u 4 k q fun v =>
 P26_9 R N O T t0 t1 t2 t3 t8 k v QR) (
 P26_9 R N O T t0 t1 t2 t3 t8 k o QR)) (
 P26_10 R N O T t0 t8 s QR))) : P26_7 R N O T t0 t1 t2 t3 t8 t22 t75 s QR :=
  pC lv26 cF h
theorem p26_8 (h :
 xI .lss t12 t11 fun a =>
 wCond a (
 P26_11 R N O T t0 t1 t2 t3 t8 t10 t11 t12 s QR) (
 P26_12 R N O T t8 t10 s QR)) : P26_8 R N O T t0 t1 t2 t3 t8 t10 t11 t12 s QR :=
  pL lv26 cF h
theorem p26_9 (h :
 xM R s 4 t13 fun a =>
 xI .sub t2 (I64 1) fun b =>
 xI .add t3 (I64 1) fun c =>
 xC R 26 N O T 26 [t0,t1,b,c] s fun d e =>
 xC R 26 N O T 32 [a,d] e fun f g =>
 wSt (lf R 26 N O T) g 4 t8 f fun i =>
(xM R e 4 t13 fun j => eqA j a = true) ∧
 xM R i 4 t8 fun k =>
 QR k i) : P26_9 R N O T t0 t1 t2 t3 t8 t13 s QR :=
  pC lv26 cF h
theorem p26_10 (h :
 xC R 26 N O T 44 [t0,(I64 4)] s fun a b =>
 xI .eql a (I64 0) fun c =>
 wCond c (
 xC R 26 N O T 50 [] b fun d e =>
 wSt (lf R 26 N O T) e 4 t8 d fun f =>
 xM R f 4 t8 fun g =>
 QR g f) (
 P26_13 R N O T t8 b QR)) : P26_10 R N O T t0 t8 s QR :=
  pC lv26 cF h
theorem p26_11 (h :
 wFad s t10 3 fun a =>
 xL R s a fun b =>
 xI .sub t2 (I64 1) fun c =>
 xC R 26 N O T 26 [t0,t1,c,t3] s fun d e =>
 wBsl false e 4 Y4 1 [(0,4,d)] fun f g =>
(4 = 4 ∧ 4 ≠ 0) ∧ wApp false (lf R 26 N O T) e 25 4 56 b f fun i j =>
 wFad j t10 3 fun k =>
 wSt (lf R 26 N O T) j 1 k i fun l =>
(wFad e t10 3 fun m => eqA m a = true) ∧
(xL R e a fun n => eqA n b = true) ∧
 P26_14 R N O T t0 t1 t2 t3 t8 t10 t11 t12 l QR) : P26_11 R N O T t0 t1 t2 t3 t8 t10 t11 t12 s QR :=
  pC lv26 cF h
theorem p26_12 (h :
 xM R s 4 t10 fun a =>
 wSt (lf R 26 N O T) s 4 t8 a fun b =>
 xM R b 4 t8 fun c =>
 QR c b) : P26_12 R N O T t8 t10 s QR :=
  pC lv26 cF h
theorem p26_13 (h :
 xC R 26 N O T 33 [] s fun a b =>
 xC R 26 N O T 35 [(I64 0)] b fun c d =>
 wBsl false d 4 Y4 1 [(0,4,c)] fun e f =>
 xC R 26 N O T 36 [(SS [66,111,120]),e] f fun g i =>
 xC R 26 N O T 32 [a,g] i fun j k =>
 wSt (lf R 26 N O T) k 4 t8 j fun l =>
 xM R l 4 t8 fun m =>
 QR m l) : P26_13 R N O T t8 s QR :=
  pC lv26 cF h
theorem p26_14 (h :
 xI .add t12 (I64 1) fun a =>
 P26_8 R N O T t0 t1 t2 t3 t8 t10 t11 a s QR) : P26_14 R N O T t0 t1 t2 t3 t8 t10 t11 t12 s QR :=
  pC lv26 cF h
theorem m26 {L : Lim} {Post : AV → Sto → Prop} (hn : noIdL [t0,t1,t2,t3] = false) (h : P26_0 R 0 L.ro L.rt t0 t1 t2 t3 s (QM (L.rr 26) s.bs.length Post)) : ∃ v s',Post v s' ∧ CallE (env R) L 26 [t0,t1,t2,t3] s v s' :=
  hM Tryz.func26 hn h
theorem p48_0 (h :
 wNew s Y4 fun a b =>
 wLen b t1 fun c =>
 xI .add c (I64 4) fun d =>
 xC R 48 N O T 44 [t0,d] b fun e f =>
 xI .lss e (I64 4) fun g =>
 wCond g (
 xL R f (.gptr 4 0) fun i =>
 wIdx f 1 i e fun j =>
 xL R f j fun k =>
 xC R 48 N O T 36 [k,(.capped [])] f fun l m =>
 wSt (lf R 48 N O T) m 4 a l fun n =>
 xM R n 4 a fun o =>
 QR o n) (
 P48_1 R N O T t0 t1 t2 t3 a e f QR)) : P48_0 R N O T t0 t1 t2 t3 s QR :=
  pC lv48 cF h
theorem p48_1 (h :
 xI .sub t9 (I64 4) fun a =>
 wIdx s 8 t1 a fun b =>
 xM R s 8 b fun c =>
 wNew s [(SS []),(I64 0),(I64 0),(SS []),(I64 0),(.capped []),(BB false),(.capped [])] fun d e =>
 wSt (lf R 48 N O T) e 8 d c fun f =>
 xF R f d 0 fun i =>
 wBuild Y4 [(0,1,(I64 2)),(1,1,i)] fun j =>
 wNew f Y4 fun k l =>
 wSt (lf R 48 N O T) l 4 k j fun m =>
 P48_2 R N O T t0 t1 t2 t3 t8 d k (I64 0) m QR) : P48_1 R N O T t0 t1 t2 t3 t8 t9 s QR :=
  pC lv48 cF h
theorem p48_2 (h :
 xF R s t10 1 fun b =>
 xI .lss t12 b fun c =>
 wCond c (
 P48_3 R N O T t0 t1 t2 t3 t8 t10 t11 t12 s QR) (
 P48_4 R N O T t8 t11 s QR)) : P48_2 R N O T t0 t1 t2 t3 t8 t10 t11 t12 s QR :=
  pL lv48 cF h
theorem p48_3 (h :
 wFad s t11 3 fun a =>
 xL R s a fun b =>
 xI .sub t2 (I64 1) fun c =>
 xC R 48 N O T 51 [t0,t1,c,t3] s fun d e =>
 wBsl false e 4 Y4 1 [(0,4,d)] fun f g =>
(4 = 4 ∧ 4 ≠ 0) ∧ wApp false (lf R 48 N O T) e 25 4 56 b f fun i j =>
 wFad j t11 3 fun k =>
 wSt (lf R 48 N O T) j 1 k i fun l =>
(wFad e t11 3 fun m => eqA m a = true) ∧
(xL R e a fun n => eqA n b = true) ∧
 P48_5 R N O T t0 t1 t2 t3 t8 t10 t11 t12 l QR) : P48_3 R N O T t0 t1 t2 t3 t8 t10 t11 t12 s QR :=
  pC lv48 cF h
theorem p48_4 (h :
 xM R s 4 t11 fun a =>
 wSt (lf R 48 N O T) s 4 t8 a fun b =>
 xM R b 4 t8 fun c =>
 QR c b) : P48_4 R N O T t8 t11 s QR :=
  pC lv48 cF h
theorem p48_5 (h :
 xI .add t12 (I64 1) fun a =>
 P48_2 R N O T t0 t1 t2 t3 t8 t10 t11 a s QR) : P48_5 R N O T t0 t1 t2 t3 t8 t10 t11 t12 s QR :=
  pC lv48 cF h
theorem m48 {L : Lim} {Post : AV → Sto → Prop} (hn : noIdL [t0,t1,t2,t3] = false) (h : P48_0 R 0 L.ro L.rt t0 t1 t2 t3 s (QM (L.rr 48) s.bs.length Post)) : ∃ v s',Post v s' ∧ CallE (env R) L 48 [t0,t1,t2,t3] s v s' :=
  hM Tryz.func48 hn h
theorem p51_0 (h :
 wNew s Y4 fun a b =>
 xC R 51 N O T 44 [t0,(I64 6)] b fun c d =>
 xI .lss c (I64 2) fun e =>
 g0 e true d t3 fun f g =>
 g1 e true g (xI .gtr f (I64 0)) fun j k =>
 wPick e j (BB false) fun l =>
 wCond l (
 xC R 51 N O T 44 [t0,t3] k fun m n =>
 xC R 51 N O T 35 [m] n fun o p =>
 wSt (lf R 51 N O T) p 4 a o fun q =>
 xM R q 4 a fun u =>
 QR u q) (
 xI .leq t2 (I64 0) fun w =>
 wCond w (
 xL R k (.gptr 4 0) fun x =>
 xC R 51 N O T 44 [t0,(I64 4)] k fun y z =>
 wIdx z 1 x y fun aa =>
 xL R z aa fun ab =>
 xC R 51 N O T 36 [ab,(.capped [])] z fun ac ad =>
 wSt (lf R 51 N O T) ad 4 a ac fun ae =>
(xL R z (.gptr 4 0) fun af => eqA af x = true) ∧
 xM R ae 4 a fun ag =>
 QR ag ae) (
 xI .lss c (I64 4) fun ah =>
 wCond ah (
 xC R 51 N O T 48 [t0,t1,t2,t3] k fun ai aj =>
 wSt (lf R 51 N O T) aj 4 a ai fun ak =>
 xM R ak 4 a fun al =>
 QR al ak) (
 P51_1 R N O T t0 t1 t2 a k QR)))) : P51_0 R N O T t0 t1 t2 t3 s QR :=
  pC lv51 cF h
theorem p51_1 (h :
 xI .sub t2 (I64 1) fun a =>
 xC R 51 N O T 26 [t0,t1,a,(I64 0)] s fun b c =>
 wSt (lf R 51 N O T) c 4 t8 b fun d =>
 xM R d 4 t8 fun e =>
 QR e d) : P51_1 R N O T t0 t1 t2 t8 s QR :=
  pC lv51 cF h
theorem m51 {L : Lim} {Post : AV → Sto → Prop} (hn : noIdL [t0,t1,t2,t3] = false) (h : P51_0 R 0 L.ro L.rt t0 t1 t2 t3 s (QM (L.rr 51) s.bs.length Post)) : ∃ v s',Post v s' ∧ CallE (env R) L 51 [t0,t1,t2,t3] s v s' :=
  hM Tryz.func51 hn h
theorem p7_0 (h :
 wNew s Y4 fun a b =>
 xC R 7 N O T 26 [t0,t1,(I64 3),(I64 0)] b fun c d =>
 wSt (lf R 7 N O T) d 4 a c fun e =>
 xM R e 4 a fun f =>
 QR f e) : P7_0 R N O T t0 t1 s QR :=
  pC lv7 cF h
theorem m7 {L : Lim} {Post : AV → Sto → Prop} (hn : noIdL [t0,t1] = false) (h : P7_0 R 0 L.ro L.rt t0 t1 s (QM (L.rr 7) s.bs.length Post)) : ∃ v s',Post v s' ∧ CallE (env R) L 7 [t0,t1] s v s' :=
  hM Tryz.func7 hn h
theorem p3_0 (h :
 xC R 3 N O T 8 [t1] s fun a b =>
 xC R 3 N O T 9 [t0] b fun c d =>
 xC R 3 N O T 7 [a,c] d fun e f =>
 wNew f Y4 fun g i =>
 wSt (lf R 3 N O T) i 4 g e fun j =>
 xM R j 4 g fun k =>
 xC R 3 N O T 10 [k] j fun l m =>
 xC R 3 N O T 11 [] m fun n o =>
 wNot n fun p =>
 g0 p false o l fun q u =>
 g1 p false u (xM R u 4 g) fun w x =>
 wGK p false x (xC R 3 N O T 12 [w] x) fun aa ab =>
 g1 p false ab (wStr .neq q aa) fun ad ae =>
 wPick p (BB true) ad fun af =>
 wCond af (
 QR (BB false) ae) (
 P3_1 R N O T g l ae QR)) : P3_0 R N O T t0 t1 s QR :=
  pC lv3 cF h
theorem p3_1 (h :
 xC R 3 N O T 13 [t6] s fun a b =>
 wExt a 0 fun c =>
 wExt a 1 fun d =>
 wNew b Y4 fun e f =>
 wNew f [(I64 0),(I64 0)] fun g i =>
 wSt (lf R 3 N O T) i 4 e c fun j =>
 wSt (lf R 3 N O T) j 2 g d fun k =>
 xM R k 4 t5 fun l =>
 xC R 3 N O T 14 [l] k fun m n =>
 xI .neq m (I64 0) fun o =>
 g1 o false n (wFad n g 0) fun q u =>
 g1 o false u (xL R u q) fun w x =>
 g1 o false x (xI .eql w (I64 0)) fun z aa =>
 g0 o false aa z fun ab ac =>
 g1 ab true ac (xM R ac 4 e) fun ae af =>
 g1 ab true af (xM R af 4 t5) fun ah ai =>
 wGK ab true ai (xC R 3 N O T 15 [ae,ah] ai) fun al am =>
 g1 o false am (wPick ab al (BB false)) fun ao ap =>
 wPick o (BB true) ao fun aq =>
 QR aq ap) : P3_1 R N O T t5 t6 s QR :=
  pC lv3 cF h
theorem e3 {u0 u1 : AV} {Post : AV → Prop} (hcl : closeL [] 0 0 [t0,t1] = some [u0,u1]) (h : P3_0 R 0 0 0 u0 u1 ⟨[],[]⟩ (QP Post)) : PureC (env R) 3 [t0,t1] Post :=
  hR Tryz.func3 hcl h
theorem p13_0 (h :
 wNew s Y4 fun a b =>
 wNew b [(I64 0),(I64 0)] fun c d =>
 xC R 13 N O T 39 [t0] d fun e f =>
 wExt e 0 fun g =>
 wExt e 1 fun i =>
 wNew f [(I64 0),(I64 0)] fun j k =>
 wSt (lf R 13 N O T) k 2 j i fun l =>
 xF R l j 0 fun n =>
 xI .neq n (I64 0) fun o =>
 wCond o (
 wBuild Y4 [] fun p =>
 xM R l 2 j fun q =>
 wSt (lf R 13 N O T) l 4 a p fun u =>
 wSt (lf R 13 N O T) u 2 c q fun w =>
(xM R u 2 j fun x => eqA x q = true) ∧
 xM R w 4 a fun y =>
 xM R w 2 c fun z =>
 QR (.tuple [y,z]) w) (
 wLen l g fun aa =>
 xI .neq aa (I64 1) fun ab =>
 wCond ab (
 wBuild Y4 [] fun ac =>
 wBuild [(I64 0),(I64 0)] [(0,1,(I64 2))] fun ad =>
 wSt (lf R 13 N O T) l 4 a ac fun ae =>
 wSt (lf R 13 N O T) ae 2 c ad fun af =>
 xM R af 4 a fun ag =>
 xM R af 2 c fun ah =>
 QR (.tuple [ag,ah]) af) (
 P13_1 R N O T a c g l QR))) : P13_0 R N O T t0 s QR :=
  pC lv13 cF h
theorem p13_1 (h :
 wIdx s 4 t4 (I64 0) fun a =>
 xM R s 4 a fun b =>
 xC R 13 N O T 22 [b,(.capped [])] s fun c d =>
 wExt c 0 fun e =>
 wExt c 1 fun f =>
 wSt (lf R 13 N O T) d 4 t2 e fun g =>
 wSt (lf R 13 N O T) g 2 t3 f fun i =>
 xM R i 4 t2 fun j =>
 xM R i 2 t3 fun k =>
 QR (.tuple [j,k]) i) : P13_1 R N O T t2 t3 t4 s QR :=
  pC lv13 cF h
theorem e13 {u0 : AV} {Post : AV → Prop} (hcl : closeL [] 0 0 [t0] = some [u0]) (h : P13_0 R 0 0 0 u0 ⟨[],[]⟩ (QP Post)) : PureC (env R) 13 [t0] Post :=
  hR Tryz.func13 hcl h
end
noncomputable section
section
variable (R : RT) (N O T : Nat) (t0 t1 t5 t6 t7 t8 t9 t10 t11 : AV)
noncomputable def b27 : Code := Tryz.f27.body.getD .skip
def lv27 : Nat → List Nat := ln ([]::[0,1]::[0,1,5]::rp 3 [0,1,5,6] ([0,1,5,6,7]::[0,1,5,6,7,31]::[0,1,5,6,7,8]::rp 3 [0,1,5,6,7,8,9] ([0,1,5,6,7,8,9,43]::[0,1,5,6,7,8]::[0,1,5,6,7,10]::[0,1,5,6,7,10]::rp 3 [0,1,5,6,7,10,11] [[0,1,5,6,7],[0,1,5,6,7,86],[0,1,5,6,7],[1]])))
abbrev Q27 := Wq R N O T 27 100 [.tmp 4]
def P27_0 := Q27 R N O T (aT b27 1) [(0,t0),(1,t1)]
def P27_1 := Q27 R N O T (aT b27 58) [(0,t0),(1,t1),(5,t5),(6,t6)]
def P27_2 := Q27 R N O T (aT b27 233) [(0,t0),(1,t1),(5,t5),(6,t6)]
def P27_3 := Q27 R N O T (aT b27 15) [(1,t1)]
def P27_4 := Q27 R N O T (aT b27 238762) [(0,t0),(1,t1),(5,t5),(6,t6),(7,t7),(8,t8),(9,t9)]
def P27_5 := Q27 R N O T (aT b27 3731) [(0,t0),(1,t1),(5,t5),(6,t6),(7,t7)]
def P27_6 := Q27 R N O T (aT b27 955049) [(0,t0),(1,t1),(5,t5),(6,t6),(7,t7),(8,t8),(9,t9)]
def P27_7 := Q27 R N O T (aT b27 59691) [(0,t0),(1,t1),(5,t5),(6,t6),(7,t7),(8,t8)]
def P27_8 := Q27 R N O T (aT b27 7463) [(0,t0),(1,t1),(5,t5),(6,t6),(7,t7)]
def P27_9 := Q27 R N O T (aT b27 1910099) [(0,t0),(1,t1),(5,t5),(6,t6),(7,t7),(8,t8),(9,t9)]
def P27_10 := Q27 R N O T (aT b27 955070) [(0,t0),(1,t1),(5,t5),(6,t6),(7,t7),(10,t10),(11,t11)]
def P27_11 := Q27 R N O T (aT b27 467) [(0,t0),(1,t1),(5,t5),(6,t6)]
def P27_12 := Q27 R N O T (aT b27 3820281) [(0,t0),(1,t1),(5,t5),(6,t6),(7,t7),(10,t10),(11,t11)]
def P27_13 := Q27 R N O T (aT b27 7640563) [(0,t0),(1,t1),(5,t5),(6,t6),(7,t7),(10,t10),(11,t11)]
noncomputable def b9 : Code := Tryz.f9.body.getD .skip
def lv9 : Nat → List Nat := ln [[],[0]]
abbrev Q9 := Wq R N O T 9 7 [.tmp 2]
def P9_0 := Q9 R N O T (aT b9 1) [(0,t0)]
end
variable {R : RT} {N O T : Nat} {s : Sto} {QR : QT} {t0 t1 t5 t6 t7 t8 t9 t10 t11 : AV}
theorem p27_0 (h :
 xC R 27 N O T 44 [t0,(I64 5)] s fun a b =>
 P27_1 R N O T t0 t1 a (I64 0) b QR) : P27_0 R N O T t0 t1 s QR :=
  pC lv27 cF h
theorem p27_1 (h :
 xI .lss t6 t5 fun a =>
 wCond a (
 P27_2 R N O T t0 t1 t5 t6 s QR) (
 P27_3 R N O T t1 s QR)) : P27_1 R N O T t0 t1 t5 t6 s QR :=
  pL lv27 cF h
theorem p27_2 (h :
 wLd (env R) (⟨s.bs ++ [[(SS []),(I64 0),(I64 0),(SS []),(I64 0),(.capped []),(BB false),(.capped [])]],s.ts⟩ : Sto) none (.gptr 5 0) fun a =>
 wIdx (⟨s.bs ++ [[(SS []),(I64 0),(I64 0),(SS []),(I64 0),(.capped []),(BB false),(.capped [])]],s.ts⟩ : Sto) 1 a t6 fun b =>
 wLd (env R) (⟨s.bs ++ [[(SS []),(I64 0),(I64 0),(SS []),(I64 0),(.capped []),(BB false),(.capped [])]],s.ts⟩ : Sto) none b fun c =>
 xC R 27 N O T 44 [t0,(I64 3)] (⟨s.bs ++ [[(SS []),(I64 0),(I64 0),(SS []),(I64 0),(.capped []),(BB false),(.capped [])]],s.ts⟩ : Sto) fun d e =>
 xC R 27 N O T 44 [t0,(I64 2)] e fun f g =>
 xI .eql f (I64 1) fun i =>
 wBuild [(SS []),(I64 0),(I64 0),(SS []),(I64 0),(.capped []),(BB false),(.capped [])] [(0,1,c),(1,1,d),(6,1,i)] fun j =>
 wSt (lf R 27 N O T) g 8 (.ptr s.bs.length 0) j fun k =>
(xL R e (.gptr 5 0) fun l => eqA l a = true) ∧
(xL R g (.gptr 5 0) fun m => eqA m a = true) ∧
(wIdx e 1 a t6 fun n => eqA n b = true) ∧
(wIdx g 1 a t6 fun o => eqA o b = true) ∧
(xL R e b fun p => eqA p c = true) ∧
(xL R g b fun q => eqA q c = true) ∧
(wO (idOf (.ptr s.bs.length 0)) fun id => wO (⟨s.bs ++ [[(SS []),(I64 0),(I64 0),(SS []),(I64 0),(.capped []),(BB false),(.capped [])]],s.ts⟩ : Sto).bs[id]? fun cs' => eqAL cs' [(SS []),(I64 0),(I64 0),(SS []),(I64 0),(.capped []),(BB false),(.capped [])] = true) ∧
(wO (idOf (.ptr s.bs.length 0)) fun id => wO e.bs[id]? fun cs' => eqAL cs' [(SS []),(I64 0),(I64 0),(SS []),(I64 0),(.capped []),(BB false),(.capped [])] = true) ∧
(wO (idOf (.ptr s.bs.length 0)) fun id => wO g.bs[id]? fun cs' => eqAL cs' [(SS []),(I64 0),(I64 0),(SS []),(I64 0),(.capped []),(BB false),(.capped [])] = true) ∧
 xC R 27 N O T 44 [t0,(I64 3)] k fun u w =>
 xI .gtr u (I64 0) fun x =>
 wCond x (
 P27_4 R N O T t0 t1 t5 t6 (.ptr s.bs.length 0) (.capped []) (I64 0) w QR) (
 P27_5 R N O T t0 t1 t5 t6 (.ptr s.bs.length 0) w QR)) : P27_2 R N O T t0 t1 t5 t6 s QR :=
  pC lv27 cF h
theorem p27_3 (h :
 QR t1 s) : P27_3 R N O T t1 s QR :=
  pC lv27 cF h
theorem p27_4 (h :
 wLen s t1 fun a =>
 xI .lss t9 a fun b =>
 wCond b (
 P27_6 R N O T t0 t1 t5 t6 t7 t8 t9 s QR) (
 P27_7 R N O T t0 t1 t5 t6 t7 t8 s QR)) : P27_4 R N O T t0 t1 t5 t6 t7 t8 t9 s QR :=
  pL lv27 cF h
theorem p27_5 (h :
 xF R s t7 6 fun b =>
 g0 b true s t0 fun c d =>
 wGK b true d (xC R 27 N O T 44 [c,(I64 2)] d) fun g i =>
 g1 b true i (xI .eql g (I64 1)) fun k l =>
 wPick b k (BB false) fun m =>
 wCond m (
 xF R l t7 1 fun o =>
 xC R 27 N O T 51 [t0,t1,(I64 1),o] l fun p q =>
 wBuild [(SS []),(I64 0),(SS []),(I64 0),(.capped [])] [(0,1,(SS [112,97,114,116])),(1,4,p)] fun u =>
 wBsl false q 5 [(SS []),(I64 0),(SS []),(I64 0),(.capped [])] 1 [(0,5,u)] fun v w =>
 wFad w t7 7 fun x =>
 wSt (lf R 27 N O T) w 1 x v fun y =>
 P27_8 R N O T t0 t1 t5 t6 t7 y QR) (
 P27_8 R N O T t0 t1 t5 t6 t7 l QR)) : P27_5 R N O T t0 t1 t5 t6 t7 s QR :=
  pC lv27 cF h
theorem p27_6 (h :
 wIdx s 8 t1 t9 fun a =>
 xF R s a 6 fun c =>
 wNot c fun d =>
 wCond d (
 wIdx s 8 t1 t9 fun e =>
 xM R s 8 e fun f =>
 wBsl false s 8 [(SS []),(I64 0),(I64 0),(SS []),(I64 0),(.capped []),(BB false),(.capped [])] 1 [(0,8,f)] fun g i =>
(8 = 8 ∧ 8 ≠ 0) ∧ wApp false (lf R 27 N O T) i 87 8 112 t8 g fun j k =>
 P27_9 R N O T t0 t1 t5 t6 t7 j t9 k QR) (
 P27_9 R N O T t0 t1 t5 t6 t7 t8 t9 s QR)) : P27_6 R N O T t0 t1 t5 t6 t7 t8 t9 s QR :=
  pC lv27 cF h
theorem p27_7 (h :
 wLen s t8 fun a =>
 xC R 27 N O T 44 [t0,a] s fun b c =>
 wIdx c 8 t8 b fun d =>
 xM R c 8 d fun e =>
 wNew c [(SS []),(I64 0),(I64 0),(SS []),(I64 0),(.capped []),(BB false),(.capped [])] fun f g =>
 wSt (lf R 27 N O T) g 8 f e fun i =>
 xF R i f 0 fun k =>
 wBuild Y4 [(0,1,(I64 2)),(1,1,k)] fun l =>
 wFad i t7 2 fun m =>
 wSt (lf R 27 N O T) i 4 m l fun n =>
 P27_10 R N O T t0 t1 t5 t6 t7 f (I64 0) n QR) : P27_7 R N O T t0 t1 t5 t6 t7 t8 s QR :=
  pC lv27 cF h
theorem p27_8 (h :
 xM R s 8 t7 fun a =>
 wBsl false s 8 [(SS []),(I64 0),(I64 0),(SS []),(I64 0),(.capped []),(BB false),(.capped [])] 1 [(0,8,a)] fun b c =>
(8 = 8 ∧ 8 ≠ 0) ∧ wApp false (lf R 27 N O T) c 87 8 112 t1 b fun d e =>
 P27_11 R N O T t0 d t5 t6 e QR) : P27_8 R N O T t0 t1 t5 t6 t7 s QR :=
  pC lv27 cF h
theorem p27_9 (h :
 xI .add t9 (I64 1) fun a =>
 P27_4 R N O T t0 t1 t5 t6 t7 t8 a s QR) : P27_9 R N O T t0 t1 t5 t6 t7 t8 t9 s QR :=
  pC lv27 cF h
theorem p27_10 (h :
 xF R s t10 1 fun b =>
 xI .lss t11 b fun c =>
 wCond c (
 P27_12 R N O T t0 t1 t5 t6 t7 t10 t11 s QR) (
 P27_5 R N O T t0 t1 t5 t6 t7 s QR)) : P27_10 R N O T t0 t1 t5 t6 t7 t10 t11 s QR :=
  pL lv27 cF h
theorem p27_11 (h :
 xI .add t6 (I64 1) fun a =>
 P27_1 R N O T t0 t1 t5 a s QR) : P27_11 R N O T t0 t1 t5 t6 s QR :=
  pC lv27 cF h
theorem p27_12 (h :
 wFad s t7 2 fun a =>
 wFad s a 3 fun b =>
 xL R s b fun c =>
 xF R s t7 1 fun e =>
 xC R 27 N O T 51 [t0,t1,(I64 1),e] s fun f g =>
 wBsl false g 4 Y4 1 [(0,4,f)] fun i j =>
(4 = 4 ∧ 4 ≠ 0) ∧ wApp false (lf R 27 N O T) g 25 4 56 c i fun k l =>
 wFad l t7 2 fun m =>
 wFad l m 3 fun n =>
 wSt (lf R 27 N O T) l 1 n k fun o =>
(wFad g t7 2 fun p => eqA p a = true) ∧
(wFad g a 3 fun q => eqA q b = true) ∧
(xL R g b fun u => eqA u c = true) ∧
 P27_13 R N O T t0 t1 t5 t6 t7 t10 t11 o QR) : P27_12 R N O T t0 t1 t5 t6 t7 t10 t11 s QR :=
  pC lv27 cF h
theorem p27_13 (h :
 xI .add t11 (I64 1) fun a =>
 P27_10 R N O T t0 t1 t5 t6 t7 t10 a s QR) : P27_13 R N O T t0 t1 t5 t6 t7 t10 t11 s QR :=
  pC lv27 cF h
theorem m27 {L : Lim} {Post : AV → Sto → Prop} (hn : noIdL [t0,t1] = false) (h : P27_0 R 0 L.ro L.rt t0 t1 s (QM (L.rr 27) s.bs.length Post)) : ∃ v s',Post v s' ∧ CallE (env R) L 27 [t0,t1] s v s' :=
  hM Tryz.func27 hn h
theorem p9_0 (h :
 xC R 9 N O T 8 [t0] s fun a b =>
 xC R 9 N O T 17 [] b fun c d =>
 xC R 9 N O T 27 [a,c] d fun e f =>
 QR e f) : P9_0 R N O T t0 s QR :=
  pC lv9 cF h
theorem e9 {u0 : AV} {Post : AV → Prop} (hcl : closeL [] 0 0 [t0] = some [u0]) (h : P9_0 R 0 0 0 u0 ⟨[],[]⟩ (QP Post)) : PureC (env R) 9 [t0] Post :=
  hR Tryz.func9 hcl h
end
noncomputable section
section
variable (R : RT) (N O T : Nat) (t0 t1 t2 : AV)
noncomputable def b566 : Code := Tryz.f66.body.getD .skip
def lv566 : Nat → List Nat := ln [[],[0,8],[0],[0],[],[0,2],[0,2,34],[],[0,2,48],[],[0,2,53],[],[0,2,62],[],[0,67],[0],[0,77]]
def P566_0 (R : RT) (N O T : Nat) (t0 : AV) (s : Sto) (QR : QT) : Prop := Wp (env0 R) (LFE (env0 R) 66 N O T) 84 [] (sub b566 []) [] [(0,t0)] s QR
def P566_1 (R : RT) (N O T : Nat) (t0 : AV) (s : Sto) (QR : QT) : Prop := Wp (env0 R) (LFE (env0 R) 66 N O T) 84 [] (sn b566 3) [] [(0,t0)] s QR
def P566_2 (R : RT) (N O T : Nat) (t0 : AV) (s : Sto) (QR : QT) : Prop := Wp (env0 R) (LFE (env0 R) 66 N O T) 84 [] (.loop (sn b566 24)) [.blk 0,.seq (sn b566 7)] [(0,t0)] s QR
def P566_3 (R : RT) (N O T : Nat) (t0 : AV) (s : Sto) (QR : QT) : Prop := Wp (env0 R) (LFE (env0 R) 66 N O T) 84 [] (sn b566 49) [.loop (sn b566 24),.blk 0,.seq (sn b566 7)] [(0,t0)] s QR
def P566_4 (R : RT) (N O T : Nat) (t0 : AV) (s : Sto) (QR : QT) : Prop := Wp (env0 R) (LFE (env0 R) 66 N O T) 84 [] (sn b566 7) [] [(0,t0)] s QR
noncomputable def b5110 : Code := Tryz.f110.body.getD .skip
def lv5110 : Nat → List Nat := ln [[],[0,3],[3,4]]
def P5110_0 (R : RT) (N O T : Nat) (t0 t1 : AV) (s : Sto) (QR : QT) : Prop := Wp (env0 R) (LFE (env0 R) 110 N O T) 27 [] (sub b5110 []) [] [(0,t0),(1,t1)] s QR
noncomputable def b590 : Code := Tryz.f90.body.getD .skip
def lv590 : Nat → List Nat := ln [[],[],[0,2,3],[0,3],[0,2],[0,2,29],[],[0,2,49],[],[0,2,75],[0]]
def P590_0 (R : RT) (N O T : Nat) (t0 : AV) (s : Sto) (QR : QT) : Prop := Wp (env0 R) (LFE (env0 R) 90 N O T) 90 [] (sub b590 []) [] [(0,t0)] s QR
def P590_1 (R : RT) (N O T : Nat) (t0 : AV) (s : Sto) (QR : QT) : Prop := Wp (env0 R) (LFE (env0 R) 90 N O T) 90 [] (sn b590 7) [] [(0,t0)] s QR
noncomputable def b593 : Code := Tryz.f93.body.getD .skip
def lv593 : Nat → List Nat := ln ([]::rp 3 [0,2] [[0,2,42],[0,2]])
def P593_0 (R : RT) (N O T : Nat) (t0 : AV) (s : Sto) (QR : QT) : Prop := Wp (env0 R) (LFE (env0 R) 93 N O T) 59 [] (sub b593 []) [] [(0,t0)] s QR
def P593_1 (R : RT) (N O T : Nat) (t0 t2 : AV) (s : Sto) (QR : QT) : Prop := Wp (env0 R) (LFE (env0 R) 93 N O T) 59 [] (.loop (sn b593 24)) [.blk 0,.seq (sn b593 7)] [(0,t0),(2,t2)] s QR
def P593_2 (R : RT) (N O T : Nat) (t0 t2 : AV) (s : Sto) (QR : QT) : Prop := Wp (env0 R) (LFE (env0 R) 93 N O T) 59 [] (sn b593 49) [.loop (sn b593 24),.blk 0,.seq (sn b593 7)] [(0,t0),(2,t2)] s QR
def P593_3 (R : RT) (N O T : Nat) (t0 t2 : AV) (s : Sto) (QR : QT) : Prop := Wp (env0 R) (LFE (env0 R) 93 N O T) 59 [] (sn b593 7) [] [(0,t0),(2,t2)] s QR
def P593_4 (R : RT) (N O T : Nat) (t0 t2 : AV) (s : Sto) (QR : QT) : Prop := Wp (env0 R) (LFE (env0 R) 93 N O T) 59 [] (sn b593 15) [] [(0,t0),(2,t2)] s QR
noncomputable def b592 : Code := Tryz.f92.body.getD .skip
def lv592 : Nat → List Nat := ln [[],[0]]
def P592_0 (R : RT) (N O T : Nat) (t0 : AV) (s : Sto) (QR : QT) : Prop := Wp (env0 R) (LFE (env0 R) 92 N O T) 17 [.tmp 2] (sub b592 []) [] [(0,t0)] s QR
noncomputable def b5112 : Code := Tryz.f112.body.getD .skip
def lv5112 : Nat → List Nat := ln [[],[0]]
def P5112_0 (R : RT) (N O T : Nat) (t0 : AV) (s : Sto) (QR : QT) : Prop := Wp (env0 R) (LFE (env0 R) 112 N O T) 17 [.tmp 2] (sub b5112 []) [] [(0,t0)] s QR
noncomputable def b5113 : Code := Tryz.f113.body.getD .skip
def lv5113 : Nat → List Nat := ln [[],[0]]
def P5113_0 (R : RT) (N O T : Nat) (t0 : AV) (s : Sto) (QR : QT) : Prop := Wp (env0 R) (LFE (env0 R) 113 N O T) 9 [.tmp 2] (sub b5113 []) [] [(0,t0)] s QR
end
variable {R : RT} {N O T : Nat} {s : Sto} {QR : QT} {t0 t1 t2 : AV}
theorem p566_0 (h :
 wNil s t0 fun a =>
 wFad s a 0 fun b =>
 wLd (env0 R) s none b fun c =>
 wSlen c fun d =>
 xI .gtr d (I64 65536) fun e =>
 wCond e (
 wCall (env0 R) (LFE (env0 R) 66 N O T) (.func (.func 88) [] []) [(I64 4),(I64 0)] s fun f g =>
 P566_1 R N O T t0 g QR) (
 P566_1 R N O T t0 s QR)) : P566_0 R N O T t0 s QR :=
  pC lv566 cF h
theorem p566_1 (h :
 P566_2 R N O T t0 s QR) : P566_1 R N O T t0 s QR :=
  pC lv566 cF h
theorem p566_2 (h :
 wNil s t0 fun a =>
 wFad s a 1 fun b =>
 wLd (env0 R) s none b fun c =>
 wNil s t0 fun d =>
 wFad s d 0 fun e =>
 wLd (env0 R) s none e fun f =>
 wSlen f fun g =>
 xI .lss c g fun i =>
 wCond i (
 P566_3 R N O T t0 s QR) (
 P566_4 R N O T t0 s QR)) : P566_2 R N O T t0 s QR :=
  pL lv566 cF h
theorem p566_3 (h :
 wNil s t0 fun a =>
 wFad s a 0 fun b =>
 wLd (env0 R) s none b fun c =>
 wNil s t0 fun d =>
 wFad s d 1 fun e =>
 wLd (env0 R) s none e fun f =>
 wSidx c f fun g =>
 wInt .u8 .eql g (.pv (.sc (.int .u8 32))) fun i =>
 g0 i false s g fun j k =>
 g1 i false k (wInt .u8 .eql j (.pv (.sc (.int .u8 10)))) fun m n =>
 wPick i (BB true) m fun o =>
 wCond o (
 wNil n t0 fun p =>
 wFad n p 1 fun q =>
 wLd (env0 R) n none q fun u =>
 xI .add u (I64 1) fun v =>
 wNil n t0 fun w =>
 wFad n w 1 fun x =>
 wSt (LFE (env0 R) 66 N O T) n 1 x v fun y =>
 P566_2 R N O T t0 y QR) (
 wInt .u8 .eql g (.pv (.sc (.int .u8 59))) fun z =>
 wCond z (
 wCall (env0 R) (LFE (env0 R) 66 N O T) (.func (.func 89) [] []) [t0] n fun aa ab =>
 P566_2 R N O T t0 ab QR) (
 wInt .u8 .eql g (.pv (.sc (.int .u8 40))) fun ac =>
 g0 ac false n g fun ad ae =>
 g1 ac false ae (wInt .u8 .eql ad (.pv (.sc (.int .u8 41)))) fun ag ah =>
 wPick ac (BB true) ag fun ai =>
 wCond ai (
 wCall (env0 R) (LFE (env0 R) 66 N O T) (.func (.func 90) [] []) [t0] ah fun aj ak =>
 P566_2 R N O T t0 ak QR) (
 wInt .u8 .eql g (.pv (.sc (.int .u8 34))) fun al =>
 wCond al (
 wCall (env0 R) (LFE (env0 R) 66 N O T) (.func (.func 91) [] []) [t0] ah fun am an =>
 P566_2 R N O T t0 an QR) (
 wCall (env0 R) (LFE (env0 R) 66 N O T) (.func (.func 92) [] []) [g] ah fun ao ap =>
 wCond ao (
 wCall (env0 R) (LFE (env0 R) 66 N O T) (.func (.func 93) [] []) [t0] ap fun aq ar =>
 P566_2 R N O T t0 ar QR) (
 wNil ap t0 fun au =>
 wFad ap au 1 fun av =>
 wLd (env0 R) ap none av fun aw =>
 wCall (env0 R) (LFE (env0 R) 66 N O T) (.func (.func 88) [] []) [(I64 2),aw] ap fun ax ay =>
 P566_2 R N O T t0 ay QR)))))) : P566_3 R N O T t0 s QR :=
  pC lv566 cF h
theorem p566_4 (h :
 wNil s t0 fun a =>
 wFad s a 2 fun b =>
 wLd (env0 R) s none b fun c =>
 wLen s c fun d =>
 xI .gtr d (I64 1) fun e =>
 wCond e (
 wNil s t0 fun f =>
 wFad s f 0 fun g =>
 wLd (env0 R) s none g fun i =>
 wSlen i fun j =>
 wCall (env0 R) (LFE (env0 R) 66 N O T) (.func (.func 88) [] []) [(I64 2),j] s fun k l =>
 QR (.tuple []) l) (
 QR (.tuple []) s)) : P566_4 R N O T t0 s QR :=
  pC lv566 cF h
theorem m566 {L : Lim} {Post : AV → Sto → Prop} (h : P566_0 R L.n0 L.ro L.rt t0 s Post) : ∃ v s',Post v s' ∧ CallE (env0 R) L 66 [t0] s v s' :=
  hE Tryz.func66 h
theorem p5110_0 (h :
 wBox s t1 fun a b =>
 wNil b t0 fun c =>
 wFad b c 2 fun d =>
 wLd (env0 R) b none d fun e =>
 wNil b t0 fun f =>
 wFad b f 2 fun g =>
 wLd (env0 R) b none g fun i =>
 wLen b i fun j =>
 xI .sub j (I64 1) fun k =>
 wIdx b 4 e k fun l =>
 wNil b l fun m =>
 wFad b m 2 fun n =>
 wLd (env0 R) b none n fun o =>
 wLd (env0 R) b (some 4) a fun p =>
 wLen b o fun q =>
 wBsl false b 4 [(I64 0),(SS []),(.capped []),(I64 0)] 1 [(0,4,(.agg [(I64 0),(SS []),(.capped []),(I64 0)]))] fun u v =>
(false = false ∧ 55 = 55 ∧ 4 = 4 ∧ 4 ≠ 0) ∧ wFu (LFE (env0 R) 110 N O T) b 55 4 56 o u q p fun w x =>
 wNil x l fun y =>
 wFad x y 2 fun z =>
 wSt (LFE (env0 R) 110 N O T) x 1 z w fun aa =>
 QR (.tuple []) aa) : P5110_0 R N O T t0 t1 s QR :=
  pC lv5110 cF h
theorem m5110 {L : Lim} {Post : AV → Sto → Prop} (hn : noIdL [t0,t1] = false) (h : P5110_0 R 0 L.ro L.rt t0 t1 s (QM (L.rr 110) s.bs.length Post)) : ∃ v s',Post v s' ∧ CallE (env0 R) L 110 [t0,t1] s v s' :=
  hM Tryz.func110 hn h
theorem p590_0 (h :
 wNil s t0 fun a =>
 wFad s a 2 fun b =>
 wLd (env0 R) s none b fun c =>
 wLen s c fun d =>
 xI .sub d (I64 1) fun e =>
 wNil s t0 fun f =>
 wFad s f 0 fun g =>
 wLd (env0 R) s none g fun i =>
 wNil s t0 fun j =>
 wFad s j 1 fun k =>
 wLd (env0 R) s none k fun l =>
 wSidx i l fun m =>
 wInt .u8 .eql m (.pv (.sc (.int .u8 40))) fun n =>
 g0 n true s e fun o p =>
 g1 n true s (xI .geq o (I64 40)) fun u w =>
 wPick n u (BB false) fun x =>
 wCond x (
 wNil s t0 fun y =>
 wFad s y 1 fun z =>
 wLd (env0 R) s none z fun aa =>
 wCall (env0 R) (LFE (env0 R) 90 N O T) (.func (.func 88) [] []) [(I64 9),aa] s fun ab ac =>
 P590_1 R N O T t0 ac QR) (
 wNil s t0 fun ad =>
 wFad s ad 0 fun ae =>
 wLd (env0 R) s none ae fun af =>
 wNil s t0 fun ag =>
 wFad s ag 1 fun ah =>
 wLd (env0 R) s none ah fun ai =>
 wSidx af ai fun aj =>
 wInt .u8 .eql aj (.pv (.sc (.int .u8 40))) fun ak =>
 wCond ak (
 wNil s t0 fun al =>
 wFad s al 2 fun am =>
 wLd (env0 R) s none am fun an =>
 wNil s t0 fun ao =>
 wFad s ao 1 fun ap =>
 wLd (env0 R) s none ap fun aq =>
 wBuild [(I64 0),(SS []),(.capped []),(I64 0)] [(0,1,(I64 3)),(3,1,aq)] fun ar =>
 wLen s an fun au =>
 wBsl true s 4 [(I64 0),(SS []),(.capped []),(I64 0)] 1 [(0,4,(.agg [(I64 0),(SS []),(.capped []),(I64 0)]))] fun av aw =>
(55 = 55 ∧ 4 = 4 ∧ 4 ≠ 0) ∧ wFuM (LFE (env0 R) 90 N O T) aw 4 56 an av au ar fun ax ay =>
 wNil ay t0 fun az =>
 wFad ay az 2 fun a0 =>
 wSt (LFE (env0 R) 90 N O T) ay 1 a0 ax fun a1 =>
(neId a0 ax) ∧
(wNil aw t0 fun a2 => eqA a2 al = true) ∧
(wFad aw al 2 fun a4 => eqA a4 am = true) ∧
(wLd (env0 R) aw none am fun ba => eqA ba an = true) ∧
(wNil aw t0 fun bb => eqA bb ao = true) ∧
(wFad aw ao 1 fun bc => eqA bc ap = true) ∧
(wLd (env0 R) aw none ap fun bd => eqA bd aq = true) ∧
(wLen aw an fun be => eqA be au = true) ∧
 P590_1 R N O T t0 a1 QR) (
 xI .eql e (I64 0) fun bf =>
 wCond bf (
 wNil s t0 fun bg =>
 wFad s bg 1 fun bh =>
 wLd (env0 R) s none bh fun bi =>
 wCall (env0 R) (LFE (env0 R) 90 N O T) (.func (.func 88) [] []) [(I64 2),bi] s fun bj bk =>
 P590_1 R N O T t0 bk QR) (
 wNil s t0 fun bl =>
 wFad s bl 2 fun bm =>
 wLd (env0 R) s none bm fun bn =>
 wIdx s 4 bn e fun bo =>
 wLd (env0 R) s (some 4) bo fun bp =>
 wNew s [(I64 0),(SS []),(.capped []),(I64 0)] fun bq br =>
 wSt (LFE (env0 R) 90 N O T) br 4 bq bp fun bs =>
 wNil bs t0 fun bt =>
 wFad bs bt 2 fun bu =>
 wLd (env0 R) bs none bu fun bv =>
 wSlc bs 4 bv none (some e) none fun bw =>
 wNil bs t0 fun bx =>
 wFad bs bx 2 fun bz =>
 wSt (LFE (env0 R) 90 N O T) bs 1 bz bw fun b0 =>
 wLd (env0 R) b0 (some 4) bq fun b1 =>
 wCall (env0 R) (LFE (env0 R) 90 N O T) (.func (.func 110) [] []) [t0,b1] b0 fun b2 b3 =>
 P590_1 R N O T t0 b3 QR)))) : P590_0 R N O T t0 s QR :=
  pC lv590 cF h
theorem p590_1 (h :
 wNil s t0 fun a =>
 wFad s a 1 fun b =>
 wLd (env0 R) s none b fun c =>
 xI .add c (I64 1) fun d =>
 wNil s t0 fun e =>
 wFad s e 1 fun f =>
 wSt (LFE (env0 R) 90 N O T) s 1 f d fun g =>
 QR (.tuple []) g) : P590_1 R N O T t0 s QR :=
  pC lv590 cF h
theorem m590 {L : Lim} {Post : AV → Sto → Prop} (h : P590_0 R L.n0 L.ro L.rt t0 s Post) : ∃ v s',Post v s' ∧ CallE (env0 R) L 90 [t0] s v s' :=
  hE Tryz.func90 h
theorem p593_0 (h :
 wNil s t0 fun a =>
 wFad s a 1 fun b =>
 wLd (env0 R) s none b fun c =>
 P593_1 R N O T t0 c s QR) : P593_0 R N O T t0 s QR :=
  pC lv593 cF h
theorem p593_1 (h :
 wNil s t0 fun a =>
 wFad s a 1 fun b =>
 wLd (env0 R) s none b fun c =>
 wNil s t0 fun d =>
 wFad s d 0 fun e =>
 wLd (env0 R) s none e fun f =>
 wSlen f fun g =>
 xI .lss c g fun i =>
 g0 i true s t0 fun j k =>
 g1 i true s (wNil s j) fun m n =>
 g1 i true s (wFad s m 0) fun p q =>
 g1 i true s (wLd (env0 R) s none p) fun v w =>
 g0 i true s t0 fun x y =>
 g1 i true s (wNil s x) fun aa ab =>
 g1 i true s (wFad s aa 1) fun ad ae =>
 g1 i true s (wLd (env0 R) s none ad) fun ag ah =>
 g1 i true s (wSidx v ag) fun aj ak =>
 wGK i true s (wCall (env0 R) (LFE (env0 R) 93 N O T) (.func (.func 92) [] []) [aj] s) fun an ao =>
 wPick i an (BB false) fun ap =>
 wCond ap (
 P593_2 R N O T t0 t2 ao QR) (
 P593_3 R N O T t0 t2 ao QR)) : P593_1 R N O T t0 t2 s QR :=
  pL lv593 cF h
theorem p593_2 (h :
 wNil s t0 fun a =>
 wFad s a 1 fun b =>
 wLd (env0 R) s none b fun c =>
 xI .add c (I64 1) fun d =>
 wNil s t0 fun e =>
 wFad s e 1 fun f =>
 wSt (LFE (env0 R) 93 N O T) s 1 f d fun g =>
 P593_1 R N O T t0 t2 g QR) : P593_2 R N O T t0 t2 s QR :=
  pC lv593 cF h
theorem p593_3 (h :
 wNil s t0 fun a =>
 wFad s a 1 fun b =>
 wLd (env0 R) s none b fun c =>
 xI .sub c t2 fun d =>
 xI .gtr d (I64 24) fun e =>
 wCond e (
 wCall (env0 R) (LFE (env0 R) 93 N O T) (.func (.func 88) [] []) [(I64 4),t2] s fun f g =>
 P593_4 R N O T t0 t2 g QR) (
 P593_4 R N O T t0 t2 s QR)) : P593_3 R N O T t0 t2 s QR :=
  pC lv593 cF h
theorem p593_4 (h :
 wNil s t0 fun a =>
 wFad s a 0 fun b =>
 wLd (env0 R) s none b fun c =>
 wNil s t0 fun d =>
 wFad s d 1 fun e =>
 wLd (env0 R) s none e fun f =>
 wAnyT (env0 R) (LFE (env0 R) 93 N O T) s (lkE [(54,f),(53,e),(52,d),(51,t0),(50,t2),(49,c),(48,b),(47,a),(46,t0),(45,t0),(0,t0),(2,t2)]) (opOf (sn b593 15) 10) fun g i =>
 wBuild [(I64 0),(SS []),(.capped []),(I64 0)] [(0,1,(I64 1)),(1,1,g),(3,1,t2)] fun j =>
 wCall (env0 R) (LFE (env0 R) 93 N O T) (.func (.func 110) [] []) [t0,j] s fun k l =>
 QR (.tuple []) l) : P593_4 R N O T t0 t2 s QR :=
  pC lv593 cF h
theorem m593 {L : Lim} {Post : AV → Sto → Prop} (hn : noIdL [t0] = false) (h : P593_0 R 0 L.ro L.rt t0 s (QM (L.rr 93) s.bs.length Post)) : ∃ v s',Post v s' ∧ CallE (env0 R) L 93 [t0] s v s' :=
  hM Tryz.func93 hn h
theorem p592_0 (h :
 wCall (env0 R) (LFE (env0 R) 92 N O T) (.func (.func 112) [] []) [t0] s fun a b =>
 g0 a false b t0 fun c d =>
 wGK a false d (wCall (env0 R) (LFE (env0 R) 92 N O T) (.func (.func 113) [] []) [c] d) fun g i =>
 wPick a (BB true) g fun j =>
 g0 j false i t0 fun k l =>
 g1 j false l (wInt .u8 .eql k (.pv (.sc (.int .u8 95)))) fun n o =>
 wPick j (BB true) n fun p =>
 g0 p false o t0 fun q u =>
 g1 p false u (wInt .u8 .eql q (.pv (.sc (.int .u8 45)))) fun w x =>
 wPick p (BB true) w fun y =>
 QR y x) : P592_0 R N O T t0 s QR :=
  pC lv592 cF h
theorem e592 {u0 : AV} {Post : AV → Prop} (hcl : closeL [] 0 0 [t0] = some [u0]) (h : P592_0 R 0 0 0 u0 ⟨[],[]⟩ (QP Post)) : PureC (env0 R) 92 [t0] Post :=
  hR Tryz.func92 hcl h
theorem p5112_0 (h :
 wInt .u8 .geq t0 (.pv (.sc (.int .u8 97))) fun a =>
 g0 a true s t0 fun b c =>
 g1 a true c (wInt .u8 .leq b (.pv (.sc (.int .u8 122)))) fun e f =>
 wPick a e (BB false) fun g =>
 g0 g false f t0 fun i j =>
 g1 g false j (wInt .u8 .geq i (.pv (.sc (.int .u8 65)))) fun l m =>
 g0 g false m l fun n o =>
 g0 n true o t0 fun p q =>
 g1 n true q (wInt .u8 .leq p (.pv (.sc (.int .u8 90)))) fun v w =>
 g1 g false w (wPick n v (BB false)) fun y z =>
 wPick g (BB true) y fun aa =>
 QR aa z) : P5112_0 R N O T t0 s QR :=
  pC lv5112 cF h
theorem e5112 {u0 : AV} {Post : AV → Prop} (hcl : closeL [] 0 0 [t0] = some [u0]) (h : P5112_0 R 0 0 0 u0 ⟨[],[]⟩ (QP Post)) : PureC (env0 R) 112 [t0] Post :=
  hR Tryz.func112 hcl h
theorem p5113_0 (h :
 wInt .u8 .geq t0 (.pv (.sc (.int .u8 48))) fun a =>
 g0 a true s t0 fun b c =>
 g1 a true c (wInt .u8 .leq b (.pv (.sc (.int .u8 57)))) fun e f =>
 wPick a e (BB false) fun g =>
 QR g f) : P5113_0 R N O T t0 s QR :=
  pC lv5113 cF h
theorem e5113 {u0 : AV} {Post : AV → Prop} (hcl : closeL [] 0 0 [t0] = some [u0]) (h : P5113_0 R 0 0 0 u0 ⟨[],[]⟩ (QP Post)) : PureC (env0 R) 113 [t0] Post :=
  hR Tryz.func113 hcl h
end
end Go.Proofs.YtmipbilokjkjiaaGreatDoor
