/-
  What the points of some functions' code need: written by a program (wip/tel/GenW.lean.txt).
-/
import Derived.Test.YtpgfpakdnijngaaGreatDoorWx
set_option linter.all false
namespace Go.Proofs.YtpgfpakdnijngaaGreatDoor
open Go.Tel
noncomputable section
section
variable (R:RT) (N O T:Nat) (t0 t1 t2 t3 t4 t5 t6 t7 t8 t9 t10 t11 t12 t13 t14 t15 t16 t17 t18 t19 t20 t21 t23 t24 t25 t26 t27 t31 t32 t33 t34 t35 t36 t37 t38 t39 t40 t41 t42 t43 t44 t45 t46:AV)
noncomputable def b14:Code:=Tryz.f14.body.getD .skip
def ZL:Nat->List Nat:=ln [[],[1],[1,20],[1],[1,4],[4,5,6],[4,5,30],[4,5],[4,5,7],[4,5,7,8],[4,7,8,31,32,33],[4,7,8,31,32,33,34],[4,7,8,10,31,32,33],[4,7,8,11,31,32,33],[4,7,8,11,31,32,33,42],[4,7,8,11,31,32,33],[4,7,8,31,32,33],[7,8],[7,54],[7]]
abbrev Q14:=Wq R N O T 14 56 [.tmp 2,.tmp 3]
def AHc:=Q14 R N O T (aT b14 1) [(0,t0)]
def AHd:=Q14 R N O T (aT b14 7) [(1,t1)]
def AHe:=Q14 R N O T (aT b14 63) [(4,t4),(5,t5)]
def l7:=Q14 R N O T (aT b14 2042) [(4,t4),(7,t7),(8,t8),(31,t31),(32,t32),(33,t33)]
def AHf:=Q14 R N O T (aT b14 16339) [(4,t4),(7,t7),(8,t8),(31,t31),(32,t32),(33,t33),(34,t34)]
def xO:=Q14 R N O T (aT b14 511) [(7,t7),(8,t8)]
def AHg:=Q14 R N O T (aT b14 522855) [(4,t4),(7,t7),(8,t8),(11,t11),(31,t31),(32,t32),(33,t33)]
def AHh:=Q14 R N O T (aT b14 1023) [(7,t7)]
def AHi:=Q14 R N O T (aT b14 32679) [(4,t4),(7,t7),(8,t8),(31,t31),(32,t32),(33,t33)]
noncomputable def b44:Code:=Tryz.f44.body.getD .skip
def iz:Nat->List Nat:=ln [[],[0,3],[0,3,6],[0,3,6,7],[0,3,6,7,14],[0,3,6,7,14,15],[0,3,6,7,14,15],[],[0,3,6,7,14,20],[0,6,7,23,24,25],[0,6,7,23,24,25,26],[0,6,7,9,23,24,25],[0,6,7,10,11,23,24,25],[0,6,7,23,24,25],[],[0,3,6,7,14,43],[],[0,3,6,7,52],[0,3,12],[0,3,12],[0,6,7,12],[0,6,7,12,85],[0,6,7],[6,103],[6]]
abbrev Q44:=Wq R N O T 44 105 [.tmp 4,.tmp 5]
def cP:=Q44 R N O T (aT b44 1) [(0,t0),(1,t1)]
def lO:=Q44 R N O T (aT b44 245) [(0,t0),(3,t3),(6,t6),(7,t7),(14,t14),(15,t15)]
def NN:=Q44 R N O T (aT b44 31) [(0,t0),(6,t6),(7,t7)]
def lM:=Q44 R N O T (aT b44 7866) [(0,t0),(6,t6),(7,t7),(23,t23),(24,t24),(25,t25)]
def AHj:=Q44 R N O T (aT b44 63) [(6,t6)]
def AHk:=Q44 R N O T (aT b44 62931) [(0,t0),(6,t6),(7,t7),(23,t23),(24,t24),(25,t25),(26,t26)]
def lN:=Q44 R N O T (aT b44 125863) [(0,t0),(6,t6),(7,t7),(23,t23),(24,t24),(25,t25)]
noncomputable def b45:Code:=Tryz.f45.body.getD .skip
def ABB:Nat->List Nat:=ln [[],[2,3,4],[2,3,4,5],[2,3,4,5,6],[2,3,4,5,6],[2,4,5,7],[2,4,7,15,16,17],[2,4,7,15,16,17,18],[2,4,7,9,15,16,17],[2,4,7,15,16,17],[4,7]]
abbrev Q45:=Wq R N O T 45 36 [.cell 4 45]
def AHl:=Q45 R N O T (aT b45 1) [(0,t0),(1,t1)]
def cB:=Q45 R N O T (aT b45 506) [(2,t2),(4,t4),(7,t7),(15,t15),(16,t16),(17,t17)]
def AHm:=Q45 R N O T (aT b45 4051) [(2,t2),(4,t4),(7,t7),(15,t15),(16,t16),(17,t17),(18,t18)]
def AHn:=Q45 R N O T (aT b45 127) [(4,t4),(7,t7)]
def AHo:=Q45 R N O T (aT b45 8103) [(2,t2),(4,t4),(7,t7),(15,t15),(16,t16),(17,t17)]
noncomputable def b91:Code:=Tryz.f91.body.getD .skip
def jA:Nat->List Nat:=ln [[],[1,2,3,4,5],ra 7 1 [],[2,3,4,5,6,26],[2,5,6,8],[2,5,6,8,31],[5,8],[3,4,5],[3,4,5,9],[3,4,5,9],[3,5,9,43,44,45],[3,5,9,43,44,45,46],[3,5,9,11,43,44,45],[3,5,9,43,44,45],[5,9]]
abbrev Q91:=Wq R N O T 91 59 [.cell 5 25]
def AHp:=Q91 R N O T (aT b91 1) [(0,t0),(1,t1),(2,t2),(3,t3)]
def kn:=Q91 R N O T (aT b91 219) [(5,t5),(8,t8)]
def AHq:=Q91 R N O T (aT b91 7) [(3,t3),(4,t4),(5,t5)]
def ki:=Q91 R N O T (aT b91 250) [(3,t3),(5,t5),(9,t9),(43,t43),(44,t44),(45,t45)]
def AHr:=Q91 R N O T (aT b91 2003) [(3,t3),(5,t5),(9,t9),(43,t43),(44,t44),(45,t45),(46,t46)]
def AHs:=Q91 R N O T (aT b91 63) [(5,t5),(9,t9)]
def AHt:=Q91 R N O T (aT b91 4007) [(3,t3),(5,t5),(9,t9),(43,t43),(44,t44),(45,t45)]
noncomputable def b46:Code:=Tryz.f46.body.getD .skip
def AY9:Nat->List Nat:=ln [[],[1]]
abbrev Q46:=Wq R N O T 46 13 [.tmp 2]
def AHu:=Q46 R N O T (aT b46 1) [(0,t0)]
noncomputable def b47:Code:=Tryz.f47.body.getD .skip
def qZ:Nat->List Nat:=ln ([]::[0]::[0,3]::[3,8,9,10]::[3,8,9,10,11]::rp 3 [3,5,8,9,10] [[3,6,7,8,9,10],[3,8,9,10,32],[3,8,9,10],[]])
abbrev Q47:=Wq R N O T 47 34 [.tmp 2]
def AHv:=Q47 R N O T (aT b47 1) [(0,t0)]
def lz:=Q47 R N O T (aT b47 58) [(3,t3),(8,t8),(9,t9),(10,t10)]
def AHw:=Q47 R N O T (aT b47 467) [(3,t3),(8,t8),(9,t9),(10,t10),(11,t11)]
def AHx:=Q47 R N O T (aT b47 15) []
def ABC:=Q47 R N O T (aT b47 935) [(3,t3),(8,t8),(9,t9),(10,t10)]
def AHy:=Q47 R N O T (aT b47 7475) [(3,t3),(5,t5),(8,t8),(9,t9),(10,t10)]
noncomputable def b95:Code:=Tryz.f95.body.getD .skip
def AZA:Nat->List Nat:=ln [[],[1,2]]
abbrev Q95:=Wq R N O T 95 7 [.tmp 3]
def AHz:=Q95 R N O T (aT b95 1) [(0,t0),(1,t1)]
noncomputable def b62:Code:=Tryz.f62.body.getD .skip
def ATk:Nat->List Nat:=ln [[],[3,4,5],[3,4,5,7,8],[3,4,5,7,14],[3,4,5]]
abbrev Q62:=Wq R N O T 62 26 [.tmp 6]
def AH0:=Q62 R N O T (aT b62 1) [(0,t0),(1,t1),(2,t2)]
def AH1:=Q62 R N O T (aT b62 7) [(3,t3),(4,t4),(5,t5)]
noncomputable def AZB:Code:=Tryz.f103.body.getD .skip
def ATl:Nat->List Nat:=ln [[],[1,2,3,4]]
abbrev AZC:=Wq R N O T 103 15 [.tmp 5]
def ABD:=AZC R N O T (aT AZB 1) [(0,t0),(1,t1),(2,t2),(3,t3)]
noncomputable def b59:Code:=Tryz.f59.body.getD .skip
def dW:Nat->List Nat:=ln [[],[1,2,4,7,8],[1,2,4,7,8,9,10],[1,2,4,7,8,9,19],[1,4,7,8,22],[1,4,7,8],[4,7,8,31],[4,8],[1,2,4,7,8],[1,2,4,7,8,36],[1,2,4,7,8],[1,2,4,7,8,11],[1,2,4,7,8,11],[1,2,7,8,11,41,42,43],[1,2,7,8,11,41,42,43,44],[1,2,7,8,11,13,41,42,43],[1,2,7,8,11,41,42,43],[8,11]]
abbrev Q59:=Wq R N O T 59 59 [.cell 8 25]
def wA:=Q59 R N O T (aT b59 1) [(0,t0),(1,t1),(2,t2),(3,t3)]
def WW:=Q59 R N O T (aT b59 109) [(4,t4),(8,t8)]
def v8:=Q59 R N O T (aT b59 7) [(1,t1),(2,t2),(4,t4),(7,t7),(8,t8)]
def AH4:=Q59 R N O T (aT b59 15) [(1,t1),(2,t2),(4,t4),(7,t7),(8,t8)]
def kz:=Q59 R N O T (aT b59 506) [(1,t1),(2,t2),(7,t7),(8,t8),(11,t11),(41,t41),(42,t42),(43,t43)]
def AH5:=Q59 R N O T (aT b59 4051) [(1,t1),(2,t2),(7,t7),(8,t8),(11,t11),(41,t41),(42,t42),(43,t43),(44,t44)]
def AH6:=Q59 R N O T (aT b59 127) [(8,t8),(11,t11)]
def AH7:=Q59 R N O T (aT b59 8103) [(1,t1),(2,t2),(7,t7),(8,t8),(11,t11),(41,t41),(42,t42),(43,t43)]
noncomputable def jB:Code:=Tryz.f114.body.getD .skip
def Uj:Nat->List Nat:=ln [[],[0,4,5],[0,4,5,19],[0,4,5],[0,4,5,8,9],[0,4,5,8,35],[0,4,5,8],[0,4,5,8,10],[0,4,5,10,36,37,38],[0,4,5,10,36,37,38,39],[0,4,5,10,12,36,37,38],[0,4,5,10,12,13,36,37,38],[0,4,5,10,14,15,36,37,38],[0,4,5,10,15,36,37,38],[0,4,5,10,36,37,38,65],[0,4,5,10,36,37,38],[10]]
abbrev jC:=Wq R N O T 114 68 [.tmp 6,.tmp 7]
def ABE:=jC R N O T (aT jB 1) [(0,t0),(1,t1),(2,t2)]
def ABF:=jC R N O T (aT jB 7) [(0,t0),(4,t4),(5,t5)]
def ABG:=jC R N O T (aT jB 31) [(0,t0),(4,t4),(5,t5),(8,t8)]
def Yl:=jC R N O T (aT jB 506) [(0,t0),(4,t4),(5,t5),(10,t10),(36,t36),(37,t37),(38,t38)]
def ABH:=jC R N O T (aT jB 4051) [(0,t0),(4,t4),(5,t5),(10,t10),(36,t36),(37,t37),(38,t38),(39,t39)]
def ABI:=jC R N O T (aT jB 127) [(10,t10)]
def ABJ:=jC R N O T (aT jB 8103) [(0,t0),(4,t4),(5,t5),(10,t10),(36,t36),(37,t37),(38,t38)]
noncomputable def AZD:Code:=Tryz.f137.body.getD .skip
def ATm:Nat->List Nat:=ln [[],[0,1]]
abbrev AZE:=Wq R N O T 137 7 [.tmp 3]
def ABK:=AZE R N O T (aT AZD 1) [(0,t0),(1,t1)]
noncomputable def b81:Code:=Tryz.f81.body.getD .skip
def qa:Nat->List Nat:=ln [[],[0,1,2],[0,1,2,8],[0,2,8,13,14,15],[0,2,8,13,14,15,16],[0,2,8,10,13,14,15],0::2::8::ra 6 10 [],0::2::8::ra 6 10 [24],[0,2,8,11,12,13,14,15],[0,2,8,12,13,14,15],[0,2,8,13,14,15,45],[0,2,8,13,14,15],[8]]
abbrev Q81:=Wq R N O T 81 48 [.tmp 6,.tmp 7]
def AH8:=Q81 R N O T (aT b81 1) [(0,t0),(1,t1),(2,t2)]
def lH:=Q81 R N O T (aT b81 58) [(0,t0),(2,t2),(8,t8),(13,t13),(14,t14),(15,t15)]
def AH9:=Q81 R N O T (aT b81 467) [(0,t0),(2,t2),(8,t8),(13,t13),(14,t14),(15,t15),(16,t16)]
def AIA:=Q81 R N O T (aT b81 15) [(8,t8)]
def lI:=Q81 R N O T (aT b81 14951) [(0,t0),(2,t2),(8,t8),(11,t11),(12,t12),(13,t13),(14,t14),(15,t15)]
def AIB:=Q81 R N O T (aT b81 935) [(0,t0),(2,t2),(8,t8),(13,t13),(14,t14),(15,t15)]
noncomputable def PU:Code:=Tryz.f120.body.getD .skip
def J4:Nat->List Nat:=ln [[],[0,1],[0,1,15],[0,1],[0,1,6],[0,6,17,18,19],[0,6,17,18,19,20],[0,6,8,17,18,19],[0,6,8,17,18,19,32],[0,6,8,17,18,19],[0,6,8,9,17,18,19],[0,8,9,17,18,19,33,34,35],[0,8,9,17,18,19,33,34,35,36],[0,8,9,11,17,18,19,33,34,35],[0,8,9,11,17,18,19,33,34,35,39,40,41],[0,8,9,11,17,18,19,33,34,35,39,40,41,42],[0,8,9,11,13,17,18,19,33,34,35,39,40,41],[0,8,9,11,17,18,19,33,34,35,39,40,41],[0,8,9,17,18,19,33,34,35],[0,9,17,18,19],[0,6,17,18,19],[6]]
abbrev PW:=Wq R N O T 120 58 [.tmp 4,.tmp 5]
def ABL:=PW R N O T (aT PU 1) [(0,t0),(1,t1)]
def ABM:=PW R N O T (aT PU 7) [(0,t0),(1,t1)]
def Ys:=PW R N O T (aT PU 122) [(0,t0),(6,t6),(17,t17),(18,t18),(19,t19)]
def ABN:=PW R N O T (aT PU 979) [(0,t0),(6,t6),(17,t17),(18,t18),(19,t19),(20,t20)]
def ABO:=PW R N O T (aT PU 31) [(6,t6)]
def ABP:=PW R N O T (aT PU 15667) [(0,t0),(6,t6),(8,t8),(17,t17),(18,t18),(19,t19)]
def Yr:=PW R N O T (aT PU 250682) [(0,t0),(8,t8),(9,t9),(17,t17),(18,t18),(19,t19),(33,t33),(34,t34),(35,t35)]
def ABQ:=PW R N O T (aT PU 2005459) [(0,t0),(8,t8),(9,t9),(17,t17),(18,t18),(19,t19),(33,t33),(34,t34),(35,t35),(36,t36)]
def ABR:=PW R N O T (aT PU 62671) [(0,t0),(9,t9),(17,t17),(18,t18),(19,t19)]
def Yp:=PW R N O T (aT PU 64174694) [(0,t0),(8,t8),(9,t9),(11,t11),(17,t17),(18,t18),(19,t19),(33,t33),(34,t34),(35,t35),(39,t39),(40,t40),(41,t41)]
def Yq:=PW R N O T (aT PU 1959) [(0,t0),(6,t6),(17,t17),(18,t18),(19,t19)]
def nQ:=PW R N O T (aT PU 513397555) [(0,t0),(8,t8),(9,t9),(11,t11),(17,t17),(18,t18),(19,t19),(33,t33),(34,t34),(35,t35),(39,t39),(40,t40),(41,t41),(42,t42)]
def Yo:=PW R N O T (aT PU 4010919) [(0,t0),(8,t8),(9,t9),(17,t17),(18,t18),(19,t19),(33,t33),(34,t34),(35,t35)]
def nR:=PW R N O T (aT PU 1026795111) [(0,t0),(8,t8),(9,t9),(11,t11),(17,t17),(18,t18),(19,t19),(33,t33),(34,t34),(35,t35),(39,t39),(40,t40),(41,t41)]
noncomputable def ATn:Code:=Tryz.f144.body.getD .skip
def ATo:Nat->List Nat:=ln [[],[0,1]]
abbrev AZF:=Wq R N O T 144 9 [.tmp 4]
def jD:=AZF R N O T (aT ATn 1) [(0,t0),(1,t1)]
noncomputable def ATp:Code:=Tryz.f145.body.getD .skip
def ATq:Nat->List Nat:=ln [[],[0]]
abbrev AZG:=Wq R N O T 145 6 [.tmp 2]
def ABS:=AZG R N O T (aT ATp 1) [(0,t0)]
noncomputable def qb:Code:=Tryz.f166.body.getD .skip
def dX:Nat->List Nat:=ln [[],[0,1],[0,1,7,8],[0,1,7,8,9],[0,1,5,7,8],[0,1,5,7,8,16],[0,1,7,8],[]]
abbrev ABT:=Wq R N O T 166 19 [.tmp 4]
def jE:=ABT R N O T (aT qb 1) [(0,t0),(1,t1)]
def Ym:=ABT R N O T (aT qb 26) [(0,t0),(1,t1),(7,t7),(8,t8)]
def ABU:=ABT R N O T (aT qb 211) [(0,t0),(1,t1),(7,t7),(8,t8),(9,t9)]
def ABV:=ABT R N O T (aT qb 7) []
def ABW:=ABT R N O T (aT qb 423) [(0,t0),(1,t1),(7,t7),(8,t8)]
noncomputable def b88:Code:=Tryz.f88.body.getD .skip
def VX:Nat->List Nat:=ln [[],[0,1],[0,1,6],[0,6,16,17,18],[0,6,16,17,18,19],[0,6,8,16,17,18],[0,6,9,10,16,17,18],[0,6,9,16,17,18,29],[0,6,9,16,17,18],[0,6,16,17,18],[0,6],[11,12],[11,12,13],[12,13,41,42,43],[12,13,41,42,43,44],[12,13,15,41,42,43],[12,13,41,42,43],[12,13]]
abbrev Q88:=Wq R N O T 88 55 [.tmp 4,.tmp 5]
def AIC:=Q88 R N O T (aT b88 1) [(0,t0),(1,t1)]
def lK:=Q88 R N O T (aT b88 58) [(0,t0),(6,t6),(16,t16),(17,t17),(18,t18)]
def AID:=Q88 R N O T (aT b88 467) [(0,t0),(6,t6),(16,t16),(17,t17),(18,t18),(19,t19)]
def wV:=Q88 R N O T (aT b88 15) [(0,t0),(6,t6)]
def AIE:=Q88 R N O T (aT b88 14951) [(0,t0),(6,t6),(9,t9),(16,t16),(17,t17),(18,t18)]
def cN:=Q88 R N O T (aT b88 506) [(12,t12),(13,t13),(41,t41),(42,t42),(43,t43)]
def AIF:=Q88 R N O T (aT b88 935) [(0,t0),(6,t6),(16,t16),(17,t17),(18,t18)]
def AIH:=Q88 R N O T (aT b88 4051) [(12,t12),(13,t13),(41,t41),(42,t42),(43,t43),(44,t44)]
def wT:=Q88 R N O T (aT b88 127) [(12,t12),(13,t13)]
def AII:=Q88 R N O T (aT b88 8103) [(12,t12),(13,t13),(41,t41),(42,t42),(43,t43)]
noncomputable def b89:Code:=Tryz.f89.body.getD .skip
def AZH:Nat->List Nat:=ln [[],[2,3,4]]
abbrev Q89:=Wq R N O T 89 8 [.cell 4 25]
def AIJ:=Q89 R N O T (aT b89 1) [(0,t0),(1,t1)]
noncomputable def jF:Code:=Tryz.f121.body.getD .skip
def Uk:Nat->List Nat:=ln [[],[1,2,3,6],[1,2,3,6,7],[1,2,3,6,7],[1,2,3,6,7,16],[1,2,3,6,7,8,9],[1,2,3,6,7,8,9,26],[1,2,3,6,7,9],[1,2,3,6,7],[1,2,3,6,7,34,35,36],[1,2,3,6,7,34,35,36,37],[1,2,3,6,7,10,11,34,35,36],[1,2,3,6,7,34,35,36],[6,7]]
abbrev jG:=Wq R N O T 121 56 [.cell 6 25]
def ABX:=jG R N O T (aT jF 1) [(0,t0),(1,t1),(2,t2)]
def Ye:=jG R N O T (aT jF 491) [(1,t1),(2,t2),(3,t3),(6,t6),(7,t7),(9,t9)]
def QN:=jG R N O T (aT jF 31) [(1,t1),(2,t2),(3,t3),(6,t6),(7,t7)]
def Yd:=jG R N O T (aT jF 250) [(1,t1),(2,t2),(3,t3),(6,t6),(7,t7),(34,t34),(35,t35),(36,t36)]
def ABY:=jG R N O T (aT jF 2003) [(1,t1),(2,t2),(3,t3),(6,t6),(7,t7),(34,t34),(35,t35),(36,t36),(37,t37)]
def ABZ:=jG R N O T (aT jF 63) [(6,t6),(7,t7)]
def ABa:=jG R N O T (aT jF 4007) [(1,t1),(2,t2),(3,t3),(6,t6),(7,t7),(34,t34),(35,t35),(36,t36)]
noncomputable def ATr:Code:=Tryz.f122.body.getD .skip
def AIK:Nat->List Nat:=ln [[],[0,1,2],[0,1,2,7],[],[0,11],[0]]
abbrev ATs:=Wq R N O T 122 18 [.tmp 5,.tmp 6]
def ABb:=ATs R N O T (aT ATr 1) [(0,t0),(1,t1),(2,t2)]
def ABc:=ATs R N O T (aT ATr 7) [(0,t0)]
noncomputable def ABd:Code:=Tryz.f146.body.getD .skip
def dY:Nat->List Nat:=ln [[],[1,2],[1,2,3],[1,2,3],[2,3,9,10,11],[2,3,9,10,11,12],[2,3,5,9,10,11],[2,3,9,10,11],[2,3]]
abbrev ABe:=Wq R N O T 146 24 [.cell 2 25]
def ABf:=ABe R N O T (aT ABd 1) [(0,t0)]
def Yc:=ABe R N O T (aT ABd 122) [(2,t2),(3,t3),(9,t9),(10,t10),(11,t11)]
def ABg:=ABe R N O T (aT ABd 979) [(2,t2),(3,t3),(9,t9),(10,t10),(11,t11),(12,t12)]
def ABh:=ABe R N O T (aT ABd 31) [(2,t2),(3,t3)]
def ABi:=ABe R N O T (aT ABd 1959) [(2,t2),(3,t3),(9,t9),(10,t10),(11,t11)]
noncomputable def b90:Code:=Tryz.f90.body.getD .skip
def AZI:Nat->List Nat:=ln [[],[0,2]]
abbrev Q90:=Wq R N O T 90 7 [.cell 2 25]
def AIL:=Q90 R N O T (aT b90 1) [(0,t0)]
noncomputable def b92:Code:=Tryz.f92.body.getD .skip
def ATt:Nat->List Nat:=ln [[],[1],[1,20],[1],[4,5]]
abbrev Q92:=Wq R N O T 92 31 [.tmp 2,.tmp 3]
def vY:=Q92 R N O T (aT b92 1) [(0,t0)]
def AIM:=Q92 R N O T (aT b92 7) [(1,t1)]
noncomputable def b93:Code:=Tryz.f93.body.getD .skip
def ABj:Nat->List Nat:=ln [[],[0,1],[0,1,7,8],[0,1,7,8,9],[0,1,5,7,8],[0,1,5,7,8,16],[0,1,7,8],[]]
abbrev Q93:=Wq R N O T 93 19 [.tmp 4]
def AIN:=Q93 R N O T (aT b93 1) [(0,t0),(1,t1)]
def kg:=Q93 R N O T (aT b93 26) [(0,t0),(1,t1),(7,t7),(8,t8)]
def AIO:=Q93 R N O T (aT b93 211) [(0,t0),(1,t1),(7,t7),(8,t8),(9,t9)]
def AIP:=Q93 R N O T (aT b93 7) []
def AIQ:=Q93 R N O T (aT b93 423) [(0,t0),(1,t1),(7,t7),(8,t8)]
noncomputable def b70:Code:=Tryz.f70.body.getD .skip
def AZJ:Nat->List Nat:=ln [[],[1,2]]
abbrev Q70:=Wq R N O T 70 5 [.cell 2 25]
def AIR:=Q70 R N O T (aT b70 1) [(0,t0)]
noncomputable def AZK:Code:=Tryz.f107.body.getD .skip
def ATw:Nat->List Nat:=ln [[],[2,3,4]]
abbrev AZL:=Wq R N O T 107 8 [.cell 4 25]
def ABk:=AZL R N O T (aT AZK 1) [(0,t0),(1,t1)]
noncomputable def ATx:Code:=Tryz.f134.body.getD .skip
def AIS:Nat->List Nat:=ln [[],[0,1,2],[0,1,2,7],[0,2,7,19],[0]]
abbrev ATy:=Wq R N O T 134 24 [.tmp 5,.tmp 6]
def ABl:=ATy R N O T (aT ATx 1) [(0,t0),(1,t1),(2,t2)]
def ABm:=ATy R N O T (aT ATx 7) [(0,t0)]
noncomputable def b23:Code:=Tryz.f23.body.getD .skip
def AZM:Nat->List Nat:=ln [[],[1],[1,3],[1,3,4],[1,3,4],[3]]
abbrev Q23:=Wq R N O T 23 11 [.tmp 2]
def AIT:=Q23 R N O T (aT b23 1) [(0,t0)]
noncomputable def b56:Code:=Tryz.f56.body.getD .skip
def AEI:Nat->List Nat:=ln [[],[1,2,3],[1,2,3,7],[1,2,3,7,8],[],[2,3,15],[2,18,19,20],[2,18,19,20,21],[2,5,18,19,20],[2,18,19,20]]
abbrev Q56:=Wq R N O T 56 28 []
def AIU:=Q56 R N O T (aT b56 1) [(0,t0),(1,t1),(2,t2)]
def kZ:=Q56 R N O T (aT b56 954) [(2,t2),(18,t18),(19,t19),(20,t20)]
def AIV:=Q56 R N O T (aT b56 7635) [(2,t2),(18,t18),(19,t19),(20,t20),(21,t21)]
def AIW:=Q56 R N O T (aT b56 15271) [(2,t2),(18,t18),(19,t19),(20,t20)]
noncomputable def b43:Code:=Tryz.f43.body.getD .skip
def AZN:Nat->List Nat:=ln [[],[1],[1,3],[3]]
abbrev Q43:=Wq R N O T 43 8 [.tmp 2]
def AIX:=Q43 R N O T (aT b43 1) [(0,t0)]
noncomputable def b87:Code:=Tryz.f87.body.getD .skip
def ABn:Nat->List Nat:=ln [[],[1,2,3],[1,2,3,16],[1,2,3],[1,2,3,24,25,26],[1,2,3,24,25,26,27],[1,2,3,6,7,24,25,26],[1,2,3,24,25,26]]
abbrev Q87:=Wq R N O T 87 40 []
def xE:=Q87 R N O T (aT b87 1) [(0,t0),(1,t1),(2,t2)]
def lq:=Q87 R N O T (aT b87 7) [(1,t1),(2,t2),(3,t3)]
def lg:=Q87 R N O T (aT b87 30) [(1,t1),(2,t2),(3,t3),(24,t24),(25,t25),(26,t26)]
def AIY:=Q87 R N O T (aT b87 243) [(1,t1),(2,t2),(3,t3),(24,t24),(25,t25),(26,t26),(27,t27)]
def AIZ:=Q87 R N O T (aT b87 487) [(1,t1),(2,t2),(3,t3),(24,t24),(25,t25),(26,t26)]
noncomputable def AZO:Code:=Tryz.f118.body.getD .skip
def AT1:Nat->List Nat:=ln [[],[0,1,4,5],[0,1,4,16]]
abbrev AZP:=Wq R N O T 118 28 []
def ABo:=AZP R N O T (aT AZO 1) [(0,t0),(1,t1)]
noncomputable def AEJ:Code:=Tryz.f142.body.getD .skip
def nS:Nat->List Nat:=ln [[],[0,1],[0,1,6],[0,1,6,7,8],[0,1,6,7,8],[0,1,6,7,8,9],[0,1,6,7,8,9,27],[],[0,1,6,7]]
abbrev AEK:=Wq R N O T 142 54 [.tmp 4,.tmp 5]
def jH:=AEK R N O T (aT AEJ 1) [(0,t0),(1,t1)]
def UE:=AEK R N O T (aT AEJ 60) [(0,t0),(1,t1),(6,t6),(7,t7),(8,t8)]
def ABp:=AEK R N O T (aT AEJ 241) [(0,t0),(1,t1),(6,t6),(7,t7),(8,t8)]
def ABq:=AEK R N O T (aT AEJ 31) [(0,t0),(1,t1),(6,t6),(7,t7)]
noncomputable def AZQ:Code:=Tryz.f162.body.getD .skip
def AT2:Nat->List Nat:=ln [[],[0,1]]
abbrev AZR:=Wq R N O T 162 17 [.tmp 4]
def ABr:=AZR R N O T (aT AZQ 1) [(0,t0),(1,t1)]
end
variable {R:RT} {N O T:Nat} {s:AL} {QR:QT} {t0 t1 t2 t3 t4 t5 t6 t7 t8 t9 t10 t11 t12 t13 t14 t15 t16 t17 t18 t19 t20 t21 t23 t24 t25 t26 t27 t31 t32 t33 t34 t35 t36 t37 t38 t39 t40 t41 t42 t43 t44 t45 t46:AV}
theorem AQp (h :
 Bs s t0 λa b=>
 xM R b 4 a λc=>
 xC R 14 N O T 42 [c] b λd e=>
 xI .neq d (AB 0) λf=>
 g1 f false e (xM R e 4 a) λi j=>
 I1 f false j (xC R 14 N O T 43 [i] j) λm n=>
 g1 f false n (BO n m) λp q=>
 g1 f false q (xI .gtr p (AB 0)) λv w=>
 A8 f (BB true) v λx=>
 AO x (
 QR (.tuple [(.AA []),(AB 2)]) w) (
 AHd R N O T a w QR)):AHc R N O T t0 s QR:=
 pC ZL cF h
theorem AQr (h :
 Cw [(.AA []),(AB 0)] [(1,1,(AB 32))] λa=>
 Bs s a λb c=>
 xM R c 4 t1 λd=>
 xC R 14 N O T 44 [b,d] c λe f=>
 DF e 0 λg=>
 DF e 1 λi=>
 Dv i λj=>
 AO j (
 QR (.tuple [(.AA []),(AB 4)]) f) (
 AHe R N O T b g f QR)):AHd R N O T t1 s QR:=
 pC ZL cF h
theorem AQs (h :
 BO s t5 λa=>
 l7 R N O T t4 (.AA []) (.AA []) t5 a (AB 0) s QR):AHe R N O T t4 t5 s QR:=
 pC ZL cF h
theorem AFa (h :
 xI .lss t33 t32 λa=>
 AO a (
 AHf R N O T t4 t7 t8 t31 t32 t33 a s QR) (
 xO R N O T t7 t8 s QR)):l7 R N O T t4 t7 t8 t31 t32 t33 s QR:=
 pL ZL cF h
theorem AQk (h :
 Bj s 4 t31 t33 λa=>
 xM R s 4 a λb=>
 Cl s Y4 λc d=>
 Ci (lf R 14 N O T) d 4 c b λe=>
 xM R e 4 c λf=>
 xC R 14 N O T 45 [t4,f] e λg i=>
 Cl i Y5 λj k=>
 Ci (lf R 14 N O T) k 5 j g λl=>
 xM R l 5 j λm=>
 xC R 14 N O T 46 [m] l λn o=>
 Dv n λp=>
 AO p (
 QR (.tuple [(.AA []),(AB 4)]) o) (
 AHg R N O T t4 t7 t8 j t31 t32 t33 o QR)):AHf R N O T t4 t7 t8 t31 t32 t33 t34 s QR:=
 pC ZL cF h
theorem AQt (h :
 xC R 14 N O T 47 [t8] s λa b=>
 Dv a λc=>
 AO c (
 QR (.tuple [(.AA []),(AB 4)]) b) (
 AHh R N O T t7 b QR)):xO R N O T t7 t8 s QR:=
 pC ZL cF h
theorem AQm (h :
 xM R s 5 t11 λa=>
 Ct true s 5 Y5 1 [(0,5,a)] λb c=>
(5=5/\5≠0)/\Cx true (lf R 14 N O T) c 45 5 80 t7 b λd e=>
 Ax e t11 0 λf=>
 xL R e f λg=>
(4=4/\4≠0)/\Cx false (lf R 14 N O T) e 25 4 56 t8 g λi j=>
(Ax s t11 0 λk=>Bl k f=true) /\
(Ax c t11 0 λl=>Bl l f=true) /\
(xL R s f λm=>Bl m g=true) /\
(xL R c f λn=>Bl n g=true) /\
 AHi R N O T t4 d i t31 t32 t33 j QR):AHg R N O T t4 t7 t8 t11 t31 t32 t33 s QR:=
 pC ZL cF h
theorem AQu (h :
 QR (.tuple [t7,(AB 0)]) s):AHh R N O T t7 s QR:=
 pC ZL cF h
theorem AQo (h :
 xI .add t33 (AB 1) λa=>
 l7 R N O T t4 t7 t8 t31 t32 a s QR):AHi R N O T t4 t7 t8 t31 t32 t33 s QR:=
 pC ZL cF h
theorem m14 {L:A3} {Post:AV->AL->Prop} (h:AHc R L.n0 L.ro L.rt t0 s Post):∃v s',Post v s'/\BA (env R) L 14 [t0] s v s':=
 hE Tryz.func14 h
theorem AQK (h :
 Bs s t1 λa b=>
 xF R b a 0 λd=>
 xI .eql d (AB 0) λe=>
 AO e (
 lO R N O T t0 a (.AA []) (BB true) d e b QR) (
 xI .eql d (AB 2) λf=>
 lO R N O T t0 a (.AA []) (BB true) d f b QR)):cP R N O T t0 t1 s QR:=
 pC iz cF h
theorem cQ (h :
 AO t15 (
 xM R s 4 t3 λa=>
 Ct false s 4 Y4 1 [(0,4,a)] λb c=>
 NN R N O T t0 b t7 c QR) (
 xI .eql t14 (AB 4) λd=>
 AO d (
 xF R s t3 3 λf=>
 BO s f λg=>
 lM R N O T t0 t6 t7 f g (AB 0) s QR) (
 xI .eql t14 (AB 3) λi=>
 AO i (
 xF R s t3 3 λk=>
 xC R 44 N O T 88 [t0,k] s λl m=>
 DF l 0 λn=>
 DF l 1 λo=>
 NN R N O T t0 n o m QR) (
 xI .eql t14 (AB 6) λp=>
 AO p (
 Cz s t0 λq=>
 xF R s q 0 λw=>
 BO s w λx=>
 Cz s t0 λy=>
 xF R s y 0 λaa=>
 xF R s t3 3 λac=>
 Bj s 4 ac (AB 0) λad=>
 xM R s 4 ad λae=>
 BO s aa λaf=>
 Ct false s 4 Y4 1 [(0,4,(.agg Y4))] λag ah=>
(false=false/\25=25/\4=4/\4≠0)/\wFu (lf R 44 N O T) s 25 4 56 aa ag af ae λai aj=>
 Cz aj t0 λak=>
 Ax aj ak 0 λal=>
 Ci (lf R 44 N O T) aj 1 al ai λam=>
 Ax am t3 3 λan=>
 xL R am an λao=>
 Bj am 4 ao (AB 1) λap=>
 xM R am 4 ap λaq=>
 xC R 44 N O T 90 [x] am λar au=>
 xC R 44 N O T 89 [aq,ar] au λav aw=>
 xC R 44 N O T 44 [t0,av] aw λax ay=>
 DF ax 0 λaz=>
 DF ax 1 λa0=>
(Ax au t3 3 λa1=>Bl a1 an=true) /\
(xL R au an λa2=>Bl a2 ao=true) /\
(Bj au 4 ao (AB 1) λa3=>Bl a3 ap=true) /\
(xM R au 4 ap λa4=>Bl a4 aq=true) /\
 AO a0 (
 xC R 44 N O T 81 [t0,az,x] ay λa5 a6=>
 DF a5 0 λa7=>
 DF a5 1 λa8=>
 NN R N O T t0 a7 a8 a6 QR) (
 NN R N O T t0 az a0 ay QR)) (
 NN R N O T t0 t6 t7 s QR))))):lO R N O T t0 t3 t6 t7 t14 t15 s QR:=
 pC iz cF h
theorem AFR (h :
 Dv t7 λa=>
 g0 a false s t6 λb c=>
 g1 a false c (BO c b) λe f=>
 g0 a false f t0 λg i=>
 g1 a false i (Cz i g) λk l=>
 g1 a false l (Ax l k 1) λn o=>
 g1 a false o (xL R o n) λq u=>
 g1 a false u (xI .gtr e q) λw x=>
 A8 a (BB true) w λy=>
 AO y (
 QR (.tuple [(.AA []),(BB false)]) x) (
 AHj R N O T t6 x QR)):NN R N O T t0 t6 t7 s QR:=
 pC iz cF h
theorem AFS (h :
 xI .lss t25 t24 λa=>
 AO a (
 AHk R N O T t0 t6 t7 t23 t24 t25 a s QR) (
 NN R N O T t0 t6 t7 s QR)):lM R N O T t0 t6 t7 t23 t24 t25 s QR:=
 pL iz cF h
theorem AQF (h :
 QR (.tuple [t6,(BB true)]) s):AHj R N O T t6 s QR:=
 pC iz cF h
theorem AQG (h :
 Bj s 4 t23 t25 λa=>
 xM R s 4 a λb=>
 Cl s Y4 λc d=>
 Ci (lf R 44 N O T) d 4 c b λe=>
 xM R e 4 c λf=>
 xC R 44 N O T 44 [t0,f] e λg i=>
 DF g 0 λj=>
 DF g 1 λk=>
(4=4/\4≠0)/\Cx false (lf R 44 N O T) i 25 4 56 t6 j λl m=>
 g0 t7 true m k λn o=>
 A8 t7 n (BB false) λp=>
 lN R N O T t0 l p t23 t24 t25 o QR):AHk R N O T t0 t6 t7 t23 t24 t25 t26 s QR:=
 pC iz cF h
theorem AQH (h :
 xI .add t25 (AB 1) λa=>
 lM R N O T t0 t6 t7 t23 t24 a s QR):lN R N O T t0 t6 t7 t23 t24 t25 s QR:=
 pC iz cF h
theorem m44 {L:A3} {Post:AV->AL->Prop} (hn:Bo [t0,t1]=false) (h:cP R 0 L.ro L.rt t0 t1 s (QM (L.rr 44) s.bs.length Post)):∃v s',Post v s'/\BA (env R) L 44 [t0,t1] s v s':=
 hM Tryz.func44 hn h
theorem APn (h :
 Bs s t0 λa b=>
 Bs b t1 λc d=>
 Cl d Y5 λe f=>
 Cl f [(.AA [])] λg i=>
 Cl i [(.pv (.sc .nilFunc))] λj k=>
 Ci (lf R 45 N O T) k 1 j (.func (.func 91) [] [a,g,j]) λl=>
 xL R l j λm=>
 xM R l 4 c λn=>
 GM (env R) (lf R 45 N O T) m [n] l λo p=>
 Cw Y5 [(1,4,o)] λq=>
 Cl p Y5 λu v=>
 Ci (lf R 45 N O T) v 5 u q λw=>
 xL R w g λx=>
 BO w x λy=>
 cB R N O T a e u x y (AB 0) w QR):AHl R N O T t0 t1 s QR:=
 pC ABB cF h
theorem AFE (h :
 xI .lss t17 t16 λa=>
 AO a (
 AHm R N O T t2 t4 t7 t15 t16 t17 a s QR) (
 AHn R N O T t4 t7 s QR)):cB R N O T t2 t4 t7 t15 t16 t17 s QR:=
 pL ABB cF h
theorem APl (h :
 Bj s 1 t15 t17 λa=>
 xL R s a λb=>
 Ax s t7 0 λc=>
 xL R s c λd=>
 xL R s t2 λe=>
 Cz s e λf=>
 xF R s f 0 λi=>
 Bj s 4 i b λj=>
 xM R s 4 j λk=>
 xC R 45 N O T 70 [k] s λl m=>
 Ct false m 4 Y4 1 [(0,4,l)] λn o=>
(4=4/\4≠0)/\Cx false (lf R 45 N O T) m 25 4 56 d n λp q=>
 Ax q t7 0 λu=>
 Ci (lf R 45 N O T) q 1 u p λw=>
(Ax m t7 0 λx=>Bl x c=true) /\
(xL R m c λy=>Bl y d=true) /\
 AHo R N O T t2 t4 t7 t15 t16 t17 w QR):AHm R N O T t2 t4 t7 t15 t16 t17 t18 s QR:=
 pC ABB cF h
theorem APk (h :
 xM R s 5 t7 λa=>
 Ci (lf R 45 N O T) s 5 t4 a λb=>
 xM R b 5 t4 λc=>
 QR c b):AHn R N O T t4 t7 s QR:=
 pC ABB cF h
theorem APm (h :
 xI .add t17 (AB 1) λa=>
 cB R N O T t2 t4 t7 t15 t16 a s QR):AHo R N O T t2 t4 t7 t15 t16 t17 s QR:=
 pC ABB cF h
theorem m45 {L:A3} {Post:AV->AL->Prop} (hn:Bo [t0,t1]=false) (h:AHl R 0 L.ro L.rt t0 t1 s (QM (L.rr 45) s.bs.length Post)):∃v s',Post v s'/\BA (env R) L 45 [t0,t1] s v s':=
 hM Tryz.func45 hn h
theorem AFD (h :
 Bs s t0 λa b=>
 Cl b Y4 λc d=>
 xM R d 4 a λe=>
 xC R 91 N O T 92 [e] d λf g=>
 DF f 0 λi=>
 DF f 1 λj=>
 g0 j true g i λk l=>
 g1 j true l (xL R l t1) λn o=>
 g1 j true o (Cz o n) λq u=>
 g1 j true u (Ax u q 0) λx y=>
 g1 j true y (xL R y x) λaa ab=>
 g1 j true ab (BO ab aa) λad ae=>
 g1 j true ae (xI .lss k ad) λag ah=>
 A8 j ag (BB false) λai=>
 AO ai (
 xL R ah t2 λaj=>
 xC R 91 N O T 93 [aj,i] ah λak al=>
 xI .lss ak (AB 0) λam=>
 AO am (
 xL R al t2 λan=>
 BO al an λao=>
 xL R al t2 λap=>
 Ct false al 1 [(AB 0)] 1 [(0,1,i)] λaq ar=>
(1=1/\1≠0)/\Cx false (lf R 91 N O T) al 3 1 8 ap aq λau av=>
 Ci (lf R 91 N O T) av 1 t2 au λaw=>
(xL R av t2 λax=>Bl ax an=true) /\
(BO av an λay=>Bl ay ao=true) /\
 kn R N O T c ao aw QR) (
 kn R N O T c ak al QR)) (
 AHq R N O T t3 a c ah QR)):AHp R N O T t0 t1 t2 t3 s QR:=
 pC jA cF h
theorem APi (h :
 Cw Y4 [(0,1,(AB 5)),(2,1,t8)] λa=>
 Ci (lf R 91 N O T) s 4 t5 a λb=>
 xM R b 4 t5 λc=>
 QR c b):kn R N O T t5 t8 s QR:=
 pC jA cF h
theorem APj (h :
 xM R s 4 t4 λa=>
 Cl s Y4 λb c=>
 Ci (lf R 91 N O T) c 4 b a λd=>
 Ax d b 3 λe=>
 Ci (lf R 91 N O T) d 1 e (.AA []) λf=>
 xF R f t4 3 λi=>
 BO f i λj=>
 ki R N O T t3 t5 b i j (AB 0) f QR):AHq R N O T t3 t4 t5 s QR:=
 pC jA cF h
theorem AFB (h :
 xI .lss t45 t44 λa=>
 AO a (
 AHr R N O T t3 t5 t9 t43 t44 t45 a s QR) (
 AHs R N O T t5 t9 s QR)):ki R N O T t3 t5 t9 t43 t44 t45 s QR:=
 pL jA cF h
theorem APg (h :
 Bj s 4 t43 t45 λa=>
 xM R s 4 a λb=>
 Cl s Y4 λc d=>
 Ci (lf R 91 N O T) d 4 c b λe=>
 Ax e t9 3 λf=>
 xL R e f λg=>
 xL R e t3 λi=>
 xM R e 4 c λj=>
 GM (env R) (lf R 91 N O T) i [j] e λk l=>
 Ct false l 4 Y4 1 [(0,4,k)] λm n=>
(4=4/\4≠0)/\Cx false (lf R 91 N O T) l 25 4 56 g m λo p=>
 Ax p t9 3 λq=>
 Ci (lf R 91 N O T) p 1 q o λu=>
(Ax l t9 3 λw=>Bl w f=true) /\
(xL R l f λx=>Bl x g=true) /\
 AHt R N O T t3 t5 t9 t43 t44 t45 u QR):AHr R N O T t3 t5 t9 t43 t44 t45 t46 s QR:=
 pC jA cF h
theorem APf (h :
 xM R s 4 t9 λa=>
 Ci (lf R 91 N O T) s 4 t5 a λb=>
 xM R b 4 t5 λc=>
 QR c b):AHs R N O T t5 t9 s QR:=
 pC jA cF h
theorem APh (h :
 xI .add t45 (AB 1) λa=>
 ki R N O T t3 t5 t9 t43 t44 a s QR):AHt R N O T t3 t5 t9 t43 t44 t45 s QR:=
 pC jA cF h
theorem m91 {L:A3} {Post:AV->AL->Prop} (hn:Bo [t0,t1,t2,t3]=false) (h:AHp R 0 L.ro L.rt t0 t1 t2 t3 s (QM (L.rr 91) s.bs.length Post)):∃v s',Post v s'/\BA (env R) L 91 [t0,t1,t2,t3] s v s':=
 hM Tryz.func91 hn h
theorem APa (h :
 Bs s t0 λa b=>
 xF R b a 0 λd=>
 BO b d λe=>
 xI .leq e (AB 6) λf=>
 g1 f true b (xM R b 5 a) λi j=>
 I1 f true j (xC R 46 N O T 23 [i] j) λm n=>
 g1 f true n (BO n m) λp q=>
 g1 f true q (xI .leq p (AB 3)) λv w=>
 A8 f v (BB false) λx=>
 QR x w):AHu R N O T t0 s QR:=
 pC AY9 cF h
theorem e46 {u0:AV} {Post:AV->Prop} (Bi:AX [] 0 0 [t0]=some [u0]) (h:AHu R 0 0 0 u0 ⟨[],[]⟩ (QP Post)):AM (env R) 46 [t0] Post:=
 hR Tryz.func46 Bi h
theorem AQj (h :
 BO s t0 λa=>
 lz R N O T (.AA []) t0 a (AB 0) s QR):AHv R N O T t0 s QR:=
 pC qZ cF h
theorem AFY (h :
 xI .lss t10 t9 λa=>
 AO a (
 AHw R N O T t3 t8 t9 t10 a s QR) (
 AHx R N O T  s QR)):lz R N O T t3 t8 t9 t10 s QR:=
 pL qZ cF h
theorem AQg (h :
 Bj s 4 t8 t10 λa=>
 xM R s 4 a λb=>
 Cl s Y4 λc d=>
 Ci (lf R 47 N O T) d 4 c b λe=>
 xC R 47 N O T 94 [t3,(.func (.func 95) [] [c])] e λf g=>
 AO f (
 ABC R N O T t3 t8 t9 t10 g QR) (
 AHy R N O T t3 c t8 t9 t10 g QR)):AHw R N O T t3 t8 t9 t10 t11 s QR:=
 pC qZ cF h
theorem AQf (h :
 QR (BB true) s):AHx R N O T  s QR:=
 pC qZ cF h
theorem AFZ (h :
 xI .add t10 (AB 1) λa=>
 lz R N O T t3 t8 t9 a s QR):ABC R N O T t3 t8 t9 t10 s QR:=
 pC qZ cF h
theorem AQi (h :
 xM R s 4 t5 λa=>
 Ct false s 4 Y4 1 [(0,4,a)] λb c=>
(4=4/\4≠0)/\Cx false (lf R 47 N O T) c 25 4 56 t3 b λd e=>
 xM R e 4 t5 λf=>
 xC R 47 N O T 14 [f] e λg i=>
 DF g 0 λj=>
 DF g 1 λk=>
 xI .neq k (AB 0) λl=>
 g0 l false i j λm n=>
 g1 l false n (BO n m) λp q=>
 g1 l false q (xI .gtr p (AB 4)) λv w=>
 A8 l (BB true) v λx=>
 AO x (
 QR (BB false) w) (
 ABC R N O T d t8 t9 t10 w QR)):AHy R N O T t3 t5 t8 t9 t10 s QR:=
 pC qZ cF h
theorem e47 {u0:AV} {Post:AV->Prop} (Bi:AX [] 0 0 [t0]=some [u0]) (h:AHv R 0 0 0 u0 ⟨[],[]⟩ (QP Post)):AM (env R) 47 [t0] Post:=
 hR Tryz.func47 Bi h
theorem AQd (h :
 Bs s t0 λa b=>
 xM R b 4 a λc=>
 xM R b 4 t1 λd=>
 xC R 95 N O T 63 [c,d] b λe f=>
 QR e f):AHz R N O T t0 t1 s QR:=
 pC AZA cF h
theorem m95 {L:A3} {Post:AV->AL->Prop} (hn:Bo [t0,t1]=false) (h:AHz R 0 L.ro L.rt t0 t1 s (QM (L.rr 95) s.bs.length Post)):∃v s',Post v s'/\BA (env R) L 95 [t0,t1] s v s':=
 hM Tryz.func95 hn h
theorem AE8 (h :
 Bs s t0 λa b=>
 Bs b t1 λc d=>
 Bs d t2 λe f=>
 xM R f 4 a λg=>
 xC R 62 N O T 92 [g] f λi j=>
 DF i 0 λk=>
 DF i 1 λl=>
 AO l (
 xL R j c λm=>
 xI .eql k m λn=>
 g1 n true j (xL R j e) λp q=>
 g1 n true q (Dv p) λv w=>
 A8 n v (BB false) λx=>
 QR x w) (
 AH1 R N O T a c e j QR)):AH0 R N O T t0 t1 t2 s QR:=
 pC ATk cF h
theorem APP (h :
 xF R s t3 3 λb=>
 xC R 62 N O T 94 [b,(.func (.func 103) [] [t4,t5,t3])] s λc d=>
 QR c d):AH1 R N O T t3 t4 t5 s QR:=
 pC ATk cF h
theorem e62 {u0 u1 u2:AV} {Post:AV->Prop} (Bi:AX [] 0 0 [t0,t1,t2]=some [u0,u1,u2]) (h:AH0 R 0 0 0 u0 u1 u2 ⟨[],[]⟩ (QP Post)):AM (env R) 62 [t0,t1,t2] Post:=
 hR Tryz.func62 Bi h
theorem AKH (h :
 Bs s t0 λa b=>
 xM R b 4 a λc=>
 xL R b t1 λd=>
 xL R b t2 λe=>
 g1 e true b (Ax b t3 0) λg i=>
 g1 e true i (xL R i g) λk l=>
 g1 e true l (xI .neq k (AB 2)) λn o=>
 A8 e n (BB false) λp=>
 xC R 103 N O T 62 [c,d,p] o λq u=>
 QR q u):ABD R N O T t0 t1 t2 t3 s QR:=
 pC ATl cF h
theorem AWK {L:A3} {Post:AV->AL->Prop} (hn:Bo [t0,t1,t2,t3]=false) (h:ABD R 0 L.ro L.rt t0 t1 t2 t3 s (QM (L.rr 103) s.bs.length Post)):∃v s',Post v s'/\BA (env R) L 103 [t0,t1,t2,t3] s v s':=
 hM Tryz.func103 hn h
theorem APs (h :
 Bs s t0 λa b=>
 Bs b t3 λc d=>
 Cl d Y4 λe f=>
 xM R f 4 a λg=>
 xC R 59 N O T 92 [g] f λi j=>
 DF i 0 λk=>
 DF i 1 λl=>
 AO l (
 GM (env R) (lf R 59 N O T) t2 [k] j λm n=>
 AO m (
 Cz n t1 λo=>
 xL R n o λp=>
 xI .sub p (AB 1) λq=>
 Cz n t1 λu=>
 Ci (lf R 59 N O T) n 1 u q λv=>
 Cz v t1 λw=>
 xL R v w λx=>
 xI .eql x (AB (-1)) λy=>
 AO y (
 xM R v 4 c λz=>
 Ci (lf R 59 N O T) v 4 e z λaa=>
 xM R aa 4 e λab=>
 QR ab aa) (
 WW R N O T a e v QR)) (
 WW R N O T a e n QR)) (
 v8 R N O T t1 t2 a c e j QR)):wA R N O T t0 t1 t2 t3 s QR:=
 pC dW cF h
theorem APt (h :
 xM R s 4 t4 λa=>
 Ci (lf R 59 N O T) s 4 t8 a λb=>
 xM R b 4 t8 λc=>
 QR c b):WW R N O T t4 t8 s QR:=
 pC dW cF h
theorem APv (h :
 xF R s t4 0 λb=>
 xI .neq b (AB 3) λc=>
 AO c (
 xM R s 4 t4 λd=>
 Ci (lf R 59 N O T) s 4 t8 d λe=>
 xM R e 4 t8 λf=>
 QR f e) (
 AH4 R N O T t1 t2 t4 t7 t8 s QR)):v8 R N O T t1 t2 t4 t7 t8 s QR:=
 pC dW cF h
theorem APw (h :
 xM R s 4 t4 λa=>
 Cl s Y4 λb c=>
 Ci (lf R 59 N O T) c 4 b a λd=>
 Ax d b 3 λe=>
 Ci (lf R 59 N O T) d 1 e (.AA []) λf=>
 xF R f t4 3 λi=>
 BO f i λj=>
 kz R N O T t1 t2 t7 t8 b i j (AB 0) f QR):AH4 R N O T t1 t2 t4 t7 t8 s QR:=
 pC dW cF h
theorem AFF (h :
 xI .lss t43 t42 λa=>
 AO a (
 AH5 R N O T t1 t2 t7 t8 t11 t41 t42 t43 a s QR) (
 AH6 R N O T t8 t11 s QR)):kz R N O T t1 t2 t7 t8 t11 t41 t42 t43 s QR:=
 pL dW cF h
theorem APp (h :
 Bj s 4 t41 t43 λa=>
 xM R s 4 a λb=>
 Cl s Y4 λc d=>
 Ci (lf R 59 N O T) d 4 c b λe=>
 Ax e t11 3 λf=>
 xL R e f λg=>
 xM R e 4 c λi=>
 xM R e 4 t7 λj=>
 xC R 59 N O T 59 [i,t1,t2,j] e λk l=>
 Ct false l 4 Y4 1 [(0,4,k)] λm n=>
(4=4/\4≠0)/\Cx false (lf R 59 N O T) l 25 4 56 g m λo p=>
 Ax p t11 3 λq=>
 Ci (lf R 59 N O T) p 1 q o λu=>
(Ax l t11 3 λw=>Bl w f=true) /\
(xL R l f λx=>Bl x g=true) /\
 AH7 R N O T t1 t2 t7 t8 t11 t41 t42 t43 u QR):AH5 R N O T t1 t2 t7 t8 t11 t41 t42 t43 t44 s QR:=
 pC dW cF h
theorem APo (h :
 xM R s 4 t11 λa=>
 Ci (lf R 59 N O T) s 4 t8 a λb=>
 xM R b 4 t8 λc=>
 QR c b):AH6 R N O T t8 t11 s QR:=
 pC dW cF h
theorem APq (h :
 xI .add t43 (AB 1) λa=>
 kz R N O T t1 t2 t7 t8 t11 t41 t42 a s QR):AH7 R N O T t1 t2 t7 t8 t11 t41 t42 t43 s QR:=
 pC dW cF h
theorem m59 {L:A3} {Post:AV->AL->Prop} (hn:Bo [t0,t1,t2,t3]=false) (h:wA R 0 L.ro L.rt t0 t1 t2 t3 s (QM (L.rr 59) s.bs.length Post)):∃v s',Post v s'/\BA (env R) L 59 [t0,t1,t2,t3] s v s':=
 hM Tryz.func59 hn h
theorem AKh (h :
 Bs s t1 λa b=>
 Bs b t2 λc d=>
 xM R d 4 a λe=>
 xL R d c λf=>
 xC R 114 N O T 62 [e,f,(BB false)] d λg i=>
 Dv g λj=>
 AO j (
 xM R i 4 a λk=>
 Ct false i 4 Y4 1 [(0,4,k)] λl m=>
 QR (.tuple [l,(BB true)]) m) (
 ABF R N O T t0 a c i QR)):ABE R N O T t0 t1 t2 s QR:=
 pC Uj cF h
theorem AKi (h :
 Cz s t0 λa=>
 xF R s a 0 λc=>
 xL R s t5 λd=>
 Bj s 4 c d λe=>
 xM R s 4 e λf=>
 xC R 114 N O T 44 [t0,f] s λg i=>
 DF g 0 λj=>
 DF g 1 λk=>
 Dv k λl=>
 AO l (
 QR (.tuple [(.AA []),(BB false)]) i) (
 ABG R N O T t0 t4 t5 j i QR)):ABF R N O T t0 t4 t5 s QR:=
 pC Uj cF h
theorem AKk (h :
 BO s t8 λa=>
 Yl R N O T t0 t4 t5 (.AA []) t8 a (AB 0) s QR):ABG R N O T t0 t4 t5 t8 s QR:=
 pC Uj cF h
theorem wE (h :
 xI .lss t38 t37 λa=>
 AO a (
 ABH R N O T t0 t4 t5 t10 t36 t37 t38 a s QR) (
 ABI R N O T t10 s QR)):Yl R N O T t0 t4 t5 t10 t36 t37 t38 s QR:=
 pL Uj cF h
theorem AKf (h :
 Bj s 4 t36 t38 λa=>
 xM R s 4 a λb=>
 Cl s Y4 λc d=>
 Ci (lf R 114 N O T) d 4 c b λe=>
 Cl e [(AB 0)] λf g=>
 Ci (lf R 114 N O T) g 1 f (AB 0) λi=>
 xM R i 4 t4 λj=>
 xM R i 4 c λk=>
 xC R 114 N O T 59 [j,f,(.func (.func 137) [] [t5]),k] i λl m=>
 xL R m t5 λn=>
 xC R 114 N O T 114 [t0,l,n] m λo p=>
 DF o 0 λq=>
 DF o 1 λu=>
(xL R i t5 λw=>Bl w n=true) /\
(4=4/\4≠0)/\Cx false (lf R 114 N O T) p 25 4 56 t10 q λx y=>
 Dv u λz=>
 g0 z false y x λaa ab=>
 g1 z false ab (BO ab aa) λad ae=>
 g0 z false ae t0 λaf ag=>
 g1 z false ag (Cz ag af) λai aj=>
 g1 z false aj (Ax aj ai 1) λal am=>
 g1 z false am (xL R am al) λao ap=>
 g1 z false ap (xI .gtr ad ao) λar au=>
 A8 z (BB true) ar λav=>
 AO av (
 QR (.tuple [(.AA []),(BB false)]) au) (
 ABJ R N O T t0 t4 t5 x t36 t37 t38 au QR)):ABH R N O T t0 t4 t5 t10 t36 t37 t38 t39 s QR:=
 pC Uj cF h
theorem AKe (h :
 QR (.tuple [t10,(BB true)]) s):ABI R N O T t10 s QR:=
 pC Uj cF h
theorem AKg (h :
 xI .add t38 (AB 1) λa=>
 Yl R N O T t0 t4 t5 t10 t36 t37 a s QR):ABJ R N O T t0 t4 t5 t10 t36 t37 t38 s QR:=
 pC Uj cF h
theorem AWZ {L:A3} {Post:AV->AL->Prop} (hn:Bo [t0,t1,t2]=false) (h:ABE R 0 L.ro L.rt t0 t1 t2 s (QM (L.rr 114) s.bs.length Post)):∃v s',Post v s'/\BA (env R) L 114 [t0,t1,t2] s v s':=
 hM Tryz.func114 hn h
theorem AKc (h :
 xL R s t1 λa=>
 xI .eql t0 a λb=>
 QR b s):ABK R N O T t0 t1 s QR:=
 pC ATm cF h
theorem AWV {L:A3} {Post:AV->AL->Prop} (hn:Bo [t0,t1]=false) (h:ABK R 0 L.ro L.rt t0 t1 s (QM (L.rr 137) s.bs.length Post)):∃v s',Post v s'/\BA (env R) L 137 [t0,t1] s v s':=
 hM Tryz.func137 hn h
theorem AP4 (h :
 BO s t1 λa=>
 lH R N O T t0 t2 (.AA []) t1 a (AB 0) s QR):AH8 R N O T t0 t1 t2 s QR:=
 pC qa cF h
theorem AFJ (h :
 xI .lss t15 t14 λa=>
 AO a (
 AH9 R N O T t0 t2 t8 t13 t14 t15 a s QR) (
 AIA R N O T t8 s QR)):lH R N O T t0 t2 t8 t13 t14 t15 s QR:=
 pL qa cF h
theorem AP2 (h :
 Bj s 4 t13 t15 λa=>
 xM R s 4 a λb=>
 Cl s Y4 λc d=>
 Ci (lf R 81 N O T) d 4 c b λe=>
 xM R e 4 c λf=>
 Ct false e 4 Y4 1 [(0,4,f)] λg i=>
 xM R i 4 c λj=>
 xC R 81 N O T 62 [j,t2,(BB true)] i λk l=>
 Dv k λm=>
 AO m (
 xM R l 4 c λn=>
 xC R 81 N O T 114 [t0,n,t2] l λo p=>
 DF o 0 λq=>
 DF o 1 λu=>
 lI R N O T t0 t2 t8 q u t13 t14 t15 p QR) (
 lI R N O T t0 t2 t8 g (BB true) t13 t14 t15 l QR)):AH9 R N O T t0 t2 t8 t13 t14 t15 t16 s QR:=
 pC qa cF h
theorem AP1 (h :
 QR (.tuple [t8,(BB true)]) s):AIA R N O T t8 s QR:=
 pC qa cF h
theorem AFK (h :
(4=4/\4≠0)/\Cx false (lf R 81 N O T) s 25 4 56 t8 t11 λa b=>
 Dv t12 λc=>
 g0 c false b a λd e=>
 g1 c false e (BO e d) λg i=>
 g0 c false i t0 λj k=>
 g1 c false k (Cz k j) λm n=>
 g1 c false n (Ax n m 1) λp q=>
 g1 c false q (xL R q p) λv w=>
 g1 c false w (xI .gtr g v) λy z=>
 A8 c (BB true) y λaa=>
 AO aa (
 QR (.tuple [(.AA []),(BB false)]) z) (
 AIB R N O T t0 t2 a t13 t14 t15 z QR)):lI R N O T t0 t2 t8 t11 t12 t13 t14 t15 s QR:=
 pC qa cF h
theorem AP3 (h :
 xI .add t15 (AB 1) λa=>
 lH R N O T t0 t2 t8 t13 t14 a s QR):AIB R N O T t0 t2 t8 t13 t14 t15 s QR:=
 pC qa cF h
theorem m81 {L:A3} {Post:AV->AL->Prop} (hn:Bo [t0,t1,t2]=false) (h:AH8 R 0 L.ro L.rt t0 t1 t2 s (QM (L.rr 81) s.bs.length Post)):∃v s',Post v s'/\BA (env R) L 81 [t0,t1,t2] s v s':=
 hM Tryz.func81 hn h
theorem AKx (h :
 xC R 120 N O T 144 [t1,(.func (.func 145) [] [])] s λa b=>
 AO a (
 QR (.tuple [(.AA []),(BB true)]) b) (
 ABM R N O T t0 t1 b QR)):ABL R N O T t0 t1 s QR:=
 pC J4 cF h
theorem AKy (h :
 Ct false s 1 [(.AA [])] 1 [(0,1,(.AA []))] λa b=>
 BO b t1 λc=>
 Ys R N O T t0 a t1 c (AB 0) b QR):ABM R N O T t0 t1 s QR:=
 pC J4 cF h
theorem wS (h :
 xI .lss t19 t18 λa=>
 AO a (
 ABN R N O T t0 t6 t17 t18 t19 a s QR) (
 ABO R N O T t6 s QR)):Ys R N O T t0 t6 t17 t18 t19 s QR:=
 pL J4 cF h
theorem AKv (h :
 Bj s 1 t17 t19 λa=>
 xL R s a λb=>
 BO s t6 λc=>
 Cz s t0 λd=>
 xF R s d 1 λf=>
 BO s b λg=>
 xI .quo f g λi=>
 xI .gtr c i λj=>
 AO j (
 QR (.tuple [(.AA []),(BB false)]) s) (
 ABP R N O T t0 t6 b t17 t18 t19 s QR)):ABN R N O T t0 t6 t17 t18 t19 t20 s QR:=
 pC J4 cF h
theorem AKu (h :
 QR (.tuple [t6,(BB true)]) s):ABO R N O T t6 s QR:=
 pC J4 cF h
theorem AKw (h :
 BO s t6 λa=>
 Yr R N O T t0 t8 (.AA []) t17 t18 t19 t6 a (AB 0) s QR):ABP R N O T t0 t6 t8 t17 t18 t19 s QR:=
 pC J4 cF h
theorem wQ (h :
 xI .lss t35 t34 λa=>
 AO a (
 ABQ R N O T t0 t8 t9 t17 t18 t19 t33 t34 t35 a s QR) (
 ABR R N O T t0 t9 t17 t18 t19 s QR)):Yr R N O T t0 t8 t9 t17 t18 t19 t33 t34 t35 s QR:=
 pL J4 cF h
theorem AKr (h :
 Bj s 1 t33 t35 λa=>
 xL R s a λb=>
 BO s t8 λc=>
 Yp R N O T t0 t8 t9 b t17 t18 t19 t33 t34 t35 t8 c (AB 0) s QR):ABQ R N O T t0 t8 t9 t17 t18 t19 t33 t34 t35 t36 s QR:=
 pC J4 cF h
theorem AKq (h :
 Yq R N O T t0 t9 t17 t18 t19 s QR):ABR R N O T t0 t9 t17 t18 t19 s QR:=
 pC J4 cF h
theorem wP (h :
 xI .lss t41 t40 λa=>
 AO a (
 nQ R N O T t0 t8 t9 t11 t17 t18 t19 t33 t34 t35 t39 t40 t41 a s QR) (
 Yo R N O T t0 t8 t9 t17 t18 t19 t33 t34 t35 s QR)):Yp R N O T t0 t8 t9 t11 t17 t18 t19 t33 t34 t35 t39 t40 t41 s QR:=
 pL J4 cF h
theorem ADL (h :
 xI .add t19 (AB 1) λa=>
 Ys R N O T t0 t6 t17 t18 a s QR):Yq R N O T t0 t6 t17 t18 t19 s QR:=
 pC J4 cF h
theorem ADI (h :
 Bj s 4 t39 t41 λa=>
 xM R s 4 a λb=>
 Cl s Y4 λc d=>
 Ci (lf R 120 N O T) d 4 c b λe=>
 xC R 120 N O T 57 [t11] e λf g=>
 xM R g 4 c λi=>
 Ct false g 4 Y4 1 [(0,4,i)] λj k=>
(4=4/\4≠0)/\Cx false (lf R 120 N O T) g 25 4 56 f j λl m=>
 Ct false m 1 [(.AA [])] 1 [(0,1,l)] λn o=>
(1=1/\1≠0)/\Cx false (lf R 120 N O T) m 23 1 24 t9 n λp q=>
(xM R e 4 c λu=>Bl u i=true) /\
 nR R N O T t0 t8 p t11 t17 t18 t19 t33 t34 t35 t39 t40 t41 q QR):nQ R N O T t0 t8 t9 t11 t17 t18 t19 t33 t34 t35 t39 t40 t41 t42 s QR:=
 pC J4 cF h
theorem ADK (h :
 xI .add t35 (AB 1) λa=>
 Yr R N O T t0 t8 t9 t17 t18 t19 t33 t34 a s QR):Yo R N O T t0 t8 t9 t17 t18 t19 t33 t34 t35 s QR:=
 pC J4 cF h
theorem ADJ (h :
 xI .add t41 (AB 1) λa=>
 Yp R N O T t0 t8 t9 t11 t17 t18 t19 t33 t34 t35 t39 t40 a s QR):nR R N O T t0 t8 t9 t11 t17 t18 t19 t33 t34 t35 t39 t40 t41 s QR:=
 pC J4 cF h
theorem AWi {L:A3} {Post:AV->AL->Prop} (hn:Bo [t0,t1]=false) (h:ABL R 0 L.ro L.rt t0 t1 s (QM (L.rr 120) s.bs.length Post)):∃v s',Post v s'/\BA (env R) L 120 [t0,t1] s v s':=
 hM Tryz.func120 hn h
theorem wK (h :
 xC R 144 N O T 166 [t0,t1] s λa b=>
 xI .geq a (AB 0) λc=>
 QR c b):jD R N O T t0 t1 s QR:=
 pC ATo cF h
theorem AWe {Post:AV->Prop} (hn:Bo [t0,t1]=true) (h:jD R 0 0 0 t0 t1 ⟨[],[]⟩ (QP Post)):AM (env R) 144 [t0,t1] Post:=
 HM (fn:=Tryz.f144) (body:=ATn) Tryz.func144 (by kernel_rfl) (by kernel_rfl) (by kernel_rfl) (Cm (by kernel_rfl)) hn (nO h (by kernel_rfl))
theorem AWf {L:A3} {Post:AV->AL->Prop} (hn:Bo [t0,t1]=false) (h:jD R 0 L.ro L.rt t0 t1 s (QM (L.rr 144) s.bs.length Post)):∃v s',Post v s'/\BA (env R) L 144 [t0,t1] s v s':=
 hM Tryz.func144 hn h
theorem AKl (h :
 BO s t0 λa=>
 xI .eql a (AB 0) λb=>
 QR b s):ABS R N O T t0 s QR:=
 pC ATq cF h
theorem AWb {Post:AV->Prop} (hn:Bo [t0]=true) (h:ABS R 0 0 0 t0 ⟨[],[]⟩ (QP Post)):AM (env R) 145 [t0] Post:=
 HM (fn:=Tryz.f145) (body:=ATp) Tryz.func145 (by kernel_rfl) (by kernel_rfl) (by kernel_rfl) (Cm (by kernel_rfl)) hn (nO h (by kernel_rfl))
theorem wJ (h :
 BO s t0 λa=>
 Ym R N O T t0 t1 a (AB 0) s QR):jE R N O T t0 t1 s QR:=
 pC dX cF h
theorem wG (h :
 xI .lss t8 t7 λa=>
 AO a (
 ABU R N O T t0 t1 t7 t8 a s QR) (
 ABV R N O T  s QR)):Ym R N O T t0 t1 t7 t8 s QR:=
 pL dX cF h
theorem AKn (h :
 Bj s 1 t0 t8 λa=>
 xL R s a λb=>
 GM (env R) (lf R 166 N O T) t1 [b] s λc d=>
 AO c (
 QR t8 d) (
 ABW R N O T t0 t1 t7 t8 d QR)):ABU R N O T t0 t1 t7 t8 t9 s QR:=
 pC dX cF h
theorem AKm (h :
 QR (AB (-1)) s):ABV R N O T  s QR:=
 pC dX cF h
theorem AKo (h :
 xI .add t8 (AB 1) λa=>
 Ym R N O T t0 t1 t7 a s QR):ABW R N O T t0 t1 t7 t8 s QR:=
 pC dX cF h
theorem AWc {Post:AV->Prop} (hn:Bo [t0,t1]=true) (h:jE R 0 0 0 t0 t1 ⟨[],[]⟩ (QP Post)):AM (env R) 166 [t0,t1] Post:=
 HM (fn:=Tryz.f166) (body:=qb) Tryz.func166 (by kernel_rfl) (by kernel_rfl) (by kernel_rfl) (Cm (by kernel_rfl)) hn (nO h (by kernel_rfl))
theorem AWd {L:A3} {Post:AV->AL->Prop} (hn:Bo [t0,t1]=false) (h:jE R 0 L.ro L.rt t0 t1 s (QM (L.rr 166) s.bs.length Post)):∃v s',Post v s'/\BA (env R) L 166 [t0,t1] s v s':=
 hM Tryz.func166 hn h
theorem AQD (h :
 BO s t1 λa=>
 lK R N O T t0 (.AA []) t1 a (AB 0) s QR):AIC R N O T t0 t1 s QR:=
 pC VX cF h
theorem AFO (h :
 xI .lss t18 t17 λa=>
 AO a (
 AID R N O T t0 t6 t16 t17 t18 a s QR) (
 wV R N O T t0 t6 s QR)):lK R N O T t0 t6 t16 t17 t18 s QR:=
 pL VX cF h
theorem AQA (h :
 Bj s 4 t16 t18 λa=>
 xM R s 4 a λb=>
 Cl s Y4 λc d=>
 Ci (lf R 88 N O T) d 4 c b λe=>
 xM R e 4 c λf=>
 xC R 88 N O T 44 [t0,f] e λg i=>
 DF g 0 λj=>
 DF g 1 λk=>
 Dv k λl=>
 AO l (
 QR (.tuple [(.AA []),(BB false)]) i) (
 AIE R N O T t0 t6 j t16 t17 t18 i QR)):AID R N O T t0 t6 t16 t17 t18 t19 s QR:=
 pC VX cF h
theorem AQE (h :
 xC R 88 N O T 120 [t0,t6] s λa b=>
 DF a 0 λc=>
 DF a 1 λd=>
 BO b c λe=>
 cN R N O T d (.AA []) c e (AB 0) b QR):wV R N O T t0 t6 s QR:=
 pC VX cF h
theorem AQB (h :
 Ct false s 1 [(.AA [])] 1 [(0,1,t9)] λa b=>
(1=1/\1≠0)/\Cx false (lf R 88 N O T) b 23 1 24 t6 a λc d=>
 AIF R N O T t0 c t16 t17 t18 d QR):AIE R N O T t0 t6 t9 t16 t17 t18 s QR:=
 pC VX cF h
theorem wU (h :
 xI .lss t43 t42 λa=>
 AO a (
 AIH R N O T t12 t13 t41 t42 t43 a s QR) (
 wT R N O T t12 t13 s QR)):cN R N O T t12 t13 t41 t42 t43 s QR:=
 pL VX cF h
theorem AQC (h :
 xI .add t18 (AB 1) λa=>
 lK R N O T t0 t6 t16 t17 a s QR):AIF R N O T t0 t6 t16 t17 t18 s QR:=
 pC VX cF h
theorem AP8 (h :
 Bj s 1 t41 t43 λa=>
 xL R s a λb=>
 Cw Y4 [(0,1,(AB 3)),(3,1,b)] λc=>
 Ct false s 4 Y4 1 [(0,4,c)] λd e=>
(4=4/\4≠0)/\Cx false (lf R 88 N O T) e 25 4 56 t13 d λf g=>
 AII R N O T t12 f t41 t42 t43 g QR):AIH R N O T t12 t13 t41 t42 t43 t44 s QR:=
 pC VX cF h
theorem AFQ (h :
 QR (.tuple [t13,t12]) s):wT R N O T t12 t13 s QR:=
 pC VX cF h
theorem AP9 (h :
 xI .add t43 (AB 1) λa=>
 cN R N O T t12 t13 t41 t42 a s QR):AII R N O T t12 t13 t41 t42 t43 s QR:=
 pC VX cF h
theorem m88 {L:A3} {Post:AV->AL->Prop} (hn:Bo [t0,t1]=false) (h:AIC R 0 L.ro L.rt t0 t1 s (QM (L.rr 88) s.bs.length Post)):∃v s',Post v s'/\BA (env R) L 88 [t0,t1] s v s':=
 hM Tryz.func88 hn h
theorem APT (h :
 Bs s t0 λa b=>
 Bs b t1 λc d=>
 Cl d Y4 λe f=>
 xM R f 4 a λg=>
 xC R 89 N O T 121 [g,(AB 0),(.func (.func 122) [] [c])] f λi j=>
 Ci (lf R 89 N O T) j 4 e i λk=>
 xM R k 4 e λl=>
 QR l k):AIJ R N O T t0 t1 s QR:=
 pC AZH cF h
theorem e89 {u0 u1:AV} {Post:AV->Prop} (Bi:AX [] 0 0 [t0,t1]=some [u0,u1]) (h:AIJ R 0 0 0 u0 u1 ⟨[],[]⟩ (QP Post)):AM (env R) 89 [t0,t1] Post:=
 hR Tryz.func89 Bi h
theorem AKS (h :
 Bs s t0 λa b=>
 Cl b Y4 λc d=>
 xM R d 4 a λe=>
 Cl d Y4 λf g=>
 Ci (lf R 121 N O T) g 4 f e λi=>
 Ax i f 3 λj=>
 Ci (lf R 121 N O T) i 1 j (.AA []) λk=>
 xF R k a 0 λm=>
 xI .eql m (AB 5) λn=>
 AO n (
 xF R k a 2 λp=>
 GM (env R) (lf R 121 N O T) t2 [p,t1] k λq u=>
 DF q 0 λv=>
 DF q 1 λw=>
 bO u (RQ v) (some 0) .neq v (.pv (.sc (.pointer none))) λx=>
 AO x (
 Cz u v λy=>
 xM R u 4 y λz=>
 xC R 121 N O T 146 [z] u λaa ab=>
 Ci (lf R 121 N O T) ab 4 c aa λac=>
 xM R ac 4 c λad=>
 QR ad ac) (
 Ye R N O T t1 t2 a c f w u QR)) (
 QN R N O T t1 t2 a c f k QR)):ABX R N O T t0 t1 t2 s QR:=
 pC Uk cF h
theorem AKU (h :
 Ax s t7 2 λa=>
 Ci (lf R 121 N O T) s 1 a t9 λb=>
 QN R N O T t1 t2 t3 t6 t7 b QR):Ye R N O T t1 t2 t3 t6 t7 t9 s QR:=
 pC Uk cF h
theorem AKT (h :
 xF R s t3 3 λb=>
 BO s b λc=>
 Yd R N O T t1 t2 t3 t6 t7 b c (AB 0) s QR):QN R N O T t1 t2 t3 t6 t7 s QR:=
 pC Uk cF h
theorem vg (h :
 xI .lss t36 t35 λa=>
 AO a (
 ABY R N O T t1 t2 t3 t6 t7 t34 t35 t36 a s QR) (
 ABZ R N O T t6 t7 s QR)):Yd R N O T t1 t2 t3 t6 t7 t34 t35 t36 s QR:=
 pL Uk cF h
theorem AKQ (h :
 Bj s 4 t34 t36 λa=>
 xM R s 4 a λb=>
 Cl s Y4 λc d=>
 Ci (lf R 121 N O T) d 4 c b λe=>
 Ax e t7 3 λf=>
 xL R e f λg=>
 xM R e 4 c λi=>
 xM R e 4 t3 λj=>
 xC R 121 N O T 119 [j,t36] e λk l=>
 xI .add t1 k λm=>
 xC R 121 N O T 121 [i,m,t2] l λn o=>
 Ct false o 4 Y4 1 [(0,4,n)] λp q=>
(4=4/\4≠0)/\Cx false (lf R 121 N O T) o 25 4 56 g p λu w=>
 Ax w t7 3 λx=>
 Ci (lf R 121 N O T) w 1 x u λy=>
(Ax l t7 3 λz=>Bl z f=true) /\
(Ax o t7 3 λaa=>Bl aa f=true) /\
(xL R l f λab=>Bl ab g=true) /\
(xL R o f λac=>Bl ac g=true) /\
(xM R l 4 c λad=>Bl ad i=true) /\
 ABa R N O T t1 t2 t3 t6 t7 t34 t35 t36 y QR):ABY R N O T t1 t2 t3 t6 t7 t34 t35 t36 t37 s QR:=
 pC Uk cF h
theorem AKP (h :
 xM R s 4 t7 λa=>
 Ci (lf R 121 N O T) s 4 t6 a λb=>
 xM R b 4 t6 λc=>
 QR c b):ABZ R N O T t6 t7 s QR:=
 pC Uk cF h
theorem AKR (h :
 xI .add t36 (AB 1) λa=>
 Yd R N O T t1 t2 t3 t6 t7 t34 t35 a s QR):ABa R N O T t1 t2 t3 t6 t7 t34 t35 t36 s QR:=
 pC Uk cF h
theorem i121 {Post:AV->Prop} (Bi:AX [] 0 0 [t0,t1,t2]=none) (h:ABX R s.bs.length s.bs.length s.ts.length t0 t1 t2 s (QI s.bs.length s.ts.length Post)):∃v,Post v/\∀L,BA (env R) L 121 [t0,t1,t2] s v s:=
 hI Tryz.func121 Bi h
theorem AKN (h :
 xI .eql t0 t1 λa=>
 AO a (
 QR (.tuple [t2,(AB 0)]) s) (
 xI .gtr t0 t1 λb=>
 AO b (
 xI .sub t0 (AB 1) λc=>
 QR (.tuple [(.pv (.sc (.pointer none))),c]) s) (
 ABc R N O T t0 s QR))):ABb R N O T t0 t1 t2 s QR:=
 pC AIK cF h
theorem AKO (h :
 QR (.tuple [(.pv (.sc (.pointer none))),t0]) s):ABc R N O T t0 s QR:=
 pC AIK cF h
theorem AWM {L:A3} {Post:AV->AL->Prop} (hn:Bo [t0,t1,t2]=false) (h:ABb R 0 L.ro L.rt t0 t1 t2 s (QM (L.rr 122) s.bs.length Post)):∃v s',Post v s'/\BA (env R) L 122 [t0,t1,t2] s v s':=
 hM Tryz.func122 hn h
theorem AKL (h :
 Bs s t0 λa b=>
 Cl b Y4 λc d=>
 xM R d 4 a λe=>
 Cl d Y4 λf g=>
 Ci (lf R 146 N O T) g 4 f e λi=>
 Ax i f 3 λj=>
 Ci (lf R 146 N O T) i 1 j (.AA []) λk=>
 xF R k a 3 λm=>
 BO k m λn=>
 Yc R N O T c f m n (AB 0) k QR):ABf R N O T t0 s QR:=
 pC dY cF h
theorem vZ (h :
 xI .lss t11 t10 λa=>
 AO a (
 ABg R N O T t2 t3 t9 t10 t11 a s QR) (
 ABh R N O T t2 t3 s QR)):Yc R N O T t2 t3 t9 t10 t11 s QR:=
 pL dY cF h
theorem AKJ (h :
 Bj s 4 t9 t11 λa=>
 xM R s 4 a λb=>
 Cl s Y4 λc d=>
 Ci (lf R 146 N O T) d 4 c b λe=>
 Ax e t3 3 λf=>
 xL R e f λg=>
 xM R e 4 c λi=>
 xC R 146 N O T 146 [i] e λj k=>
 Ct false k 4 Y4 1 [(0,4,j)] λl m=>
(4=4/\4≠0)/\Cx false (lf R 146 N O T) k 25 4 56 g l λn o=>
 Ax o t3 3 λp=>
 Ci (lf R 146 N O T) o 1 p n λq=>
(Ax k t3 3 λu=>Bl u f=true) /\
(xL R k f λw=>Bl w g=true) /\
 ABi R N O T t2 t3 t9 t10 t11 q QR):ABg R N O T t2 t3 t9 t10 t11 t12 s QR:=
 pC dY cF h
theorem AKI (h :
 xM R s 4 t3 λa=>
 Ci (lf R 146 N O T) s 4 t2 a λb=>
 xM R b 4 t2 λc=>
 QR c b):ABh R N O T t2 t3 s QR:=
 pC dY cF h
theorem AKK (h :
 xI .add t11 (AB 1) λa=>
 Yc R N O T t2 t3 t9 t10 a s QR):ABi R N O T t2 t3 t9 t10 t11 s QR:=
 pC dY cF h
theorem AWL {u0:AV} {Post:AV->Prop} (Bi:AX [] 0 0 [t0]=some [u0]) (h:ABf R 0 0 0 u0 ⟨[],[]⟩ (QP Post)):AM (env R) 146 [t0] Post:=
 hR Tryz.func146 Bi h
theorem APN (h :
 Cl s Y4 λa b=>
 xC R 90 N O T 123 [t0] b λc d=>
 GD .add (SS [36]) c λe=>
 Cw Y4 [(0,1,(AB 2)),(1,1,e)] λf=>
 Ci (lf R 90 N O T) d 4 a f λg=>
 xM R g 4 a λi=>
 QR i g):AIL R N O T t0 s QR:=
 pC AZI cF h
theorem e90 {u0:AV} {Post:AV->Prop} (Bi:AX [] 0 0 [t0]=some [u0]) (h:AIL R 0 0 0 u0 ⟨[],[]⟩ (QP Post)):AM (env R) 90 [t0] Post:=
 hR Tryz.func90 Bi h
theorem AE6 (h :
 Bs s t0 λa b=>
 xF R b a 0 λd=>
 xI .neq d (AB 2) λe=>
 g1 e false b (Ax b a 1) λg i=>
 g1 e false i (xL R i g) λk l=>
 g1 e false l (Gx k) λn o=>
 g1 e false o (xI .lss n (AB 2)) λq u=>
 A8 e (BB true) q λv=>
 g1 v false u (Ax u a 1) λx y=>
 g1 v false y (xL R y x) λaa ab=>
 g1 v false ab (MD aa (AB 0)) λad ae=>
 g1 v false ae (Cg .u8 .neq ad (.pv (.sc (.int .u8 36)))) λag ah=>
 A8 v (BB true) ag λai=>
 AO ai (
 QR (.tuple [(AB 0),(BB false)]) ah) (
 AIM R N O T a ah QR)):vY R N O T t0 s QR:=
 pC ATt cF h
theorem APM (h :
 Ax s t1 1 λa=>
 xL R s a λb=>
 Tj (env R) (lf R 92 N O T) s (Em [(23,b),(22,a),(1,t1)]) (AEC (sn b92 14) 2) λc d=>
 xC R 92 N O T 124 [c] d λe f=>
 DF e 0 λg=>
 DF e 1 λi=>
 Tj (env R) (lf R 92 N O T) f (Em [(29,i),(28,g),(5,i),(4,g),(27,i),(26,g),(21,e),(25,e),(24,c),(23,b),(22,a),(1,t1)]) (AEC (sn b92 30) 2) λj k=>
 QR (.tuple [g,j]) f):AIM R N O T t1 s QR:=
 pC ATt cF h
theorem e92 {u0:AV} {Post:AV->Prop} (Bi:AX [] 0 0 [t0]=some [u0]) (h:vY R 0 0 0 u0 ⟨[],[]⟩ (QP Post)):AM (env R) 92 [t0] Post:=
 hR Tryz.func92 Bi h
theorem APb (h :
 BO s t0 λa=>
 kg R N O T t0 t1 a (AB 0) s QR):AIN R N O T t0 t1 s QR:=
 pC ABj cF h
theorem AFA (h :
 xI .lss t8 t7 λa=>
 AO a (
 AIO R N O T t0 t1 t7 t8 a s QR) (
 AIP R N O T  s QR)):kg R N O T t0 t1 t7 t8 s QR:=
 pL ABj cF h
theorem APd (h :
 Bj s 1 t0 t8 λa=>
 xL R s a λb=>
 xI .eql t1 b λc=>
 AO c (
 QR t8 s) (
 AIQ R N O T t0 t1 t7 t8 s QR)):AIO R N O T t0 t1 t7 t8 t9 s QR:=
 pC ABj cF h
theorem APc (h :
 QR (AB (-1)) s):AIP R N O T  s QR:=
 pC ABj cF h
theorem APe (h :
 xI .add t8 (AB 1) λa=>
 kg R N O T t0 t1 t7 a s QR):AIQ R N O T t0 t1 t7 t8 s QR:=
 pC ABj cF h
theorem e93 {u0 u1:AV} {Post:AV->Prop} (Bi:AX [] 0 0 [t0,t1]=some [u0,u1]) (h:AIN R 0 0 0 u0 u1 ⟨[],[]⟩ (QP Post)):AM (env R) 93 [t0,t1] Post:=
 hR Tryz.func93 Bi h
theorem APV (h :
 Bs s t0 λa b=>
 Cl b Y4 λc d=>
 xM R d 4 a λe=>
 xC R 70 N O T 107 [e,(.AA [])] d λf g=>
 Ci (lf R 70 N O T) g 4 c f λi=>
 xM R i 4 c λj=>
 QR j i):AIR R N O T t0 s QR:=
 pC AZJ cF h
theorem e70 {u0:AV} {Post:AV->Prop} (Bi:AX [] 0 0 [t0]=some [u0]) (h:AIR R 0 0 0 u0 ⟨[],[]⟩ (QP Post)):AM (env R) 70 [t0] Post:=
 hR Tryz.func70 Bi h
theorem AKX (h :
 Bs s t0 λa b=>
 Bs b t1 λc d=>
 Cl d Y4 λe f=>
 xM R f 4 a λg=>
 xC R 107 N O T 121 [g,(AB 0),(.func (.func 134) [] [c])] f λi j=>
 Ci (lf R 107 N O T) j 4 e i λk=>
 xM R k 4 e λl=>
 QR l k):ABk R N O T t0 t1 s QR:=
 pC ATw cF h
theorem AWT {u0 u1:AV} {Post:AV->Prop} (Bi:AX [] 0 0 [t0,t1]=some [u0,u1]) (h:ABk R 0 0 0 u0 u1 ⟨[],[]⟩ (QP Post)):AM (env R) 107 [t0,t1] Post:=
 hR Tryz.func107 Bi h
theorem AKW (h :
 xI .sub t0 t1 λa=>
 xI .geq t0 t1 λb=>
 g0 b true s a λc d=>
 g1 b true d (xL R d t2) λf g=>
 g1 b true g (BO g f) λj k=>
 g1 b true k (xI .lss c j) λm n=>
 A8 b m (BB false) λo=>
 AO o (
 xL R n t2 λp=>
 Bj n 4 p a λq=>
 QR (.tuple [q,(AB 0)]) n) (
 ABm R N O T t0 n QR)):ABl R N O T t0 t1 t2 s QR:=
 pC AIS cF h
theorem vk (h :
 QR (.tuple [(.pv (.sc (.pointer none))),t0]) s):ABm R N O T t0 s QR:=
 pC AIS cF h
theorem AWS {L:A3} {Post:AV->AL->Prop} (hn:Bo [t0,t1,t2]=false) (h:ABl R 0 L.ro L.rt t0 t1 t2 s (QM (L.rr 134) s.bs.length Post)):∃v s',Post v s'/\BA (env R) L 134 [t0,t1,t2] s v s':=
 hM Tryz.func134 hn h
theorem APZ (h :
 Bs s t0 λa b=>
 Cl b [(.AA [])] λc d=>
 Cl d [(.pv (.sc .nilFunc))] λe f=>
 Ci (lf R 23 N O T) f 1 e (.func (.func 56) [] [c,e]) λg=>
 xL R g e λi=>
 xG R g a 1 4 λk=>
 GM (env R) (lf R 23 N O T) i [k] g λl m=>
 xL R m c λn=>
 QR n m):AIT R N O T t0 s QR:=
 pC AZM cF h
theorem e23 {u0:AV} {Post:AV->Prop} (Bi:AX [] 0 0 [t0]=some [u0]) (h:AIT R 0 0 0 u0 ⟨[],[]⟩ (QP Post)):AM (env R) 23 [t0] Post:=
 hR Tryz.func23 Bi h
theorem APY (h :
 Bs s t0 λa b=>
 xF R b a 0 λd=>
 xI .eql d (AB 5) λe=>
 AO e (
 xL R b t1 λf=>
 xF R b a 2 λi=>
 Ct false b 1 [(AB 0)] 1 [(0,1,i)] λj k=>
(1=1/\1≠0)/\Cx false (lf R 56 N O T) k 3 1 8 f j λl m=>
 Ci (lf R 56 N O T) m 1 t1 l λn=>
 QR (.tuple []) n) (
 xI .eql d (AB 3) λo=>
 AO o (
 xF R b a 3 λq=>
 BO b q λu=>
 kZ R N O T t2 q u (AB 0) b QR) (
 QR (.tuple []) b))):AIU R N O T t0 t1 t2 s QR:=
 pC AEI cF h
theorem AE9 (h :
 xI .lss t20 t19 λa=>
 AO a (
 AIV R N O T t2 t18 t19 t20 a s QR) (
 QR (.tuple []) s)):kZ R N O T t2 t18 t19 t20 s QR:=
 pL AEI cF h
theorem APW (h :
 Bj s 4 t18 t20 λa=>
 xM R s 4 a λb=>
 Cl s Y4 λc d=>
 Ci (lf R 56 N O T) d 4 c b λe=>
 xL R e t2 λf=>
 xM R e 4 c λg=>
 GM (env R) (lf R 56 N O T) f [g] e λi j=>
 AIW R N O T t2 t18 t19 t20 j QR):AIV R N O T t2 t18 t19 t20 t21 s QR:=
 pC AEI cF h
theorem APX (h :
 xI .add t20 (AB 1) λa=>
 kZ R N O T t2 t18 t19 a s QR):AIW R N O T t2 t18 t19 t20 s QR:=
 pC AEI cF h
theorem m56 {L:A3} {Post:AV->AL->Prop} (hn:Bo [t0,t1,t2]=false) (h:AIU R 0 L.ro L.rt t0 t1 t2 s (QM (L.rr 56) s.bs.length Post)):∃v s',Post v s'/\BA (env R) L 56 [t0,t1,t2] s v s':=
 hM Tryz.func56 hn h
theorem AQb (h :
 Bs s t0 λa b=>
 Cl b [(.AA [])] λc d=>
 xM R d 4 a λe=>
 xC R 43 N O T 87 [e,(AB 0),c] d λf g=>
 xF R g c 0 λj=>
 QR j g):AIX R N O T t0 s QR:=
 pC AZN cF h
theorem e43 {u0:AV} {Post:AV->Prop} (Bi:AX [] 0 0 [t0]=some [u0]) (h:AIX R 0 0 0 u0 ⟨[],[]⟩ (QP Post)):AM (env R) 43 [t0] Post:=
 hR Tryz.func43 Bi h
theorem AQZ (h :
 Bs s t0 λa b=>
 xF R b a 0 λd=>
 xI .eql d (AB 5) λe=>
 g1 e true b (Ax b a 2) λg i=>
 g1 e true i (xL R i g) λk l=>
 g0 e true l t1 λm n=>
 g1 e true n (xI .geq k m) λp q=>
 A8 e p (BB false) λu=>
 AO u (
 xF R q a 2 λw=>
 xI .sub w t1 λx=>
 xC R 87 N O T 118 [t2,x] q λy z=>
 lq R N O T t1 t2 a z QR) (
 lq R N O T t1 t2 a q QR)):xE R N O T t0 t1 t2 s QR:=
 pC ABn cF h
theorem AQa (h :
 xF R s t3 3 λb=>
 BO s b λc=>
 lg R N O T t1 t2 t3 b c (AB 0) s QR):lq R N O T t1 t2 t3 s QR:=
 pC ABn cF h
theorem AFX (h :
 xI .lss t26 t25 λa=>
 AO a (
 AIY R N O T t1 t2 t3 t24 t25 t26 a s QR) (
 QR (.tuple []) s)):lg R N O T t1 t2 t3 t24 t25 t26 s QR:=
 pL ABn cF h
theorem AQV (h :
 Bj s 4 t24 t26 λa=>
 xM R s 4 a λb=>
 Cl s Y4 λc d=>
 Ci (lf R 87 N O T) d 4 c b λe=>
 xM R e 4 c λf=>
 xM R e 4 t3 λg=>
 xC R 87 N O T 119 [g,t26] e λi j=>
 xI .add t1 i λk=>
 xC R 87 N O T 87 [f,k,t2] j λl m=>
(xM R j 4 c λn=>Bl n f=true) /\
 AIZ R N O T t1 t2 t3 t24 t25 t26 m QR):AIY R N O T t1 t2 t3 t24 t25 t26 t27 s QR:=
 pC ABn cF h
theorem AQY (h :
 xI .add t26 (AB 1) λa=>
 lg R N O T t1 t2 t3 t24 t25 a s QR):AIZ R N O T t1 t2 t3 t24 t25 t26 s QR:=
 pC ABn cF h
theorem m87 {L:A3} {Post:AV->AL->Prop} (h:xE R L.n0 L.ro L.rt t0 t1 t2 s Post):∃v s',Post v s'/\BA (env R) L 87 [t0,t1,t2] s v s':=
 hE Tryz.func87 h
theorem ALF (h :
 Cz s t0 λa=>
 xF R s a 0 λc=>
 xC R 118 N O T 142 [c,t1] s λd e=>
 DF d 0 λf=>
 DF d 1 λg=>
 Dv g λi=>
 AO i (
 Cz e t0 λj=>
 xF R e j 0 λl=>
 Ct false e 1 [(AB 0)] 1 [(0,1,t1)] λm n=>
 xC R 118 N O T 143 [l,f,m] n λo p=>
 Cz p t0 λq=>
 Ax p q 0 λu=>
 Ci (lf R 118 N O T) p 1 u o λv=>
 QR (.tuple []) v) (
 QR (.tuple []) e)):ABo R N O T t0 t1 s QR:=
 pC AT1 cF h
theorem AW0 {L:A3} {Post:AV->AL->Prop} (h:ABo R L.n0 L.ro L.rt t0 t1 s Post):∃v s',Post v s'/\BA (env R) L 118 [t0,t1] s v s':=
 hE Tryz.func118 h
theorem w9 (h :
 BO s t0 λa=>
 UE R N O T t0 t1 a (AB 0) a s QR):jH R N O T t0 t1 s QR:=
 pC nS cF h
theorem gj (h :
 xI .lss t7 t8 λa=>
 AO a (
 ABp R N O T t0 t1 t6 t7 t8 s QR) (
 ABq R N O T t0 t1 t6 t7 s QR)):UE R N O T t0 t1 t6 t7 t8 s QR:=
 pL nS cF h
theorem ALD (h :
 xI .add t7 t8 λa=>
 MP .u64 a λb=>
 Cg .u64 .shr b (.pv (.sc (.int .u64 1))) λc=>
 MP .i64 c λd=>
 Bj s 1 t0 d λe=>
 xL R s e λf=>
 xC R 142 N O T 162 [f,t1] s λg i=>
 AO g (
 xI .add d (AB 1) λj=>
 UE R N O T t0 t1 t6 j t8 i QR) (
 UE R N O T t0 t1 t6 t7 d i QR)):ABp R N O T t0 t1 t6 t7 t8 s QR:=
 pC nS cF h
theorem w8 (h :
 xI .lss t7 t6 λa=>
 g0 a true s t0 λb c=>
 g0 a true c t7 λd e=>
 g1 a true e (Bj e 1 b d) λg i=>
 g1 a true i (xL R i g) λk l=>
 g0 a true l t1 λm n=>
 g1 a true n (xI .eql k m) λp q=>
 g0 a true q p λu v=>
 g0 u false v t0 λw x=>
 g0 u false x t7 λy z=>
 g1 u false z (Bj z 1 w y) λab ac=>
 g1 u false ac (xL R ac ab) λae af=>
 I1 u false af (xC R 142 N O T 163 [ae] af) λai aj=>
 g0 u false aj ai λak al=>
 g0 ak true al t1 λam an=>
 I1 ak true an (xC R 142 N O T 163 [am] an) λaq ar=>
 g1 u false ar (A8 ak aq (BB false)) λav aw=>
 g1 a true aw (A8 u (BB true) av) λay az=>
 A8 a ay (BB false) λa0=>
 QR (.tuple [t7,a0]) az):ABq R N O T t0 t1 t6 t7 s QR:=
 pC nS cF h
theorem AWy {u0 u1:AV} {Post:AV->Prop} (Bi:AX [] 0 0 [t0,t1]=some [u0,u1]) (h:jH R 0 0 0 u0 u1 ⟨[],[]⟩ (QP Post)):AM (env R) 142 [t0,t1] Post:=
 hR Tryz.func142 Bi h
theorem i142 {Post:AV->Prop} (Bi:AX [] 0 0 [t0,t1]=none) (h:jH R s.bs.length s.bs.length s.ts.length t0 t1 s (QI s.bs.length s.ts.length Post)):∃v,Post v/\∀L,BA (env R) L 142 [t0,t1] s v s:=
 hI Tryz.func142 Bi h
theorem ALC (h :
 xC R 162 N O T 152 [t0] s λa b=>
 g0 a true b t1 λc d=>
 I1 a true d (xC R 162 N O T 152 [c] d) λg i=>
 g1 a true i (Dv g) λk l=>
 A8 a k (BB false) λm=>
 g0 m false l t0 λn o=>
 g0 m false o t1 λp q=>
 g1 m false q (xI .lss n p) λv w=>
 A8 m (BB true) v λx=>
 QR x w):ABr R N O T t0 t1 s QR:=
 pC AT2 cF h
theorem AWw {u0 u1:AV} {Post:AV->Prop} (Bi:AX [] 0 0 [t0,t1]=some [u0,u1]) (h:ABr R 0 0 0 u0 u1 ⟨[],[]⟩ (QP Post)):AM (env R) 162 [t0,t1] Post:=
 hR Tryz.func162 Bi h
end
end Go.Proofs.YtpgfpakdnijngaaGreatDoor
