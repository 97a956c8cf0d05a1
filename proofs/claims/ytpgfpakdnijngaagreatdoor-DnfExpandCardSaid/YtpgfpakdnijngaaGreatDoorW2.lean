/-
  What the points of some functions' code need: written by a program (wip/tel/GenW.lean.txt).
-/
import Derived.Test.YtpgfpakdnijngaaGreatDoorWx
set_option linter.all false
namespace Go.Proofs.YtpgfpakdnijngaaGreatDoor
open Go.Tel
noncomputable section
section
variable (R:RT) (N O T:Nat) (t0 t1 t2 t3 t4 t5 t6 t7 t8 t9 t10 t11 t12 t13 t14 t15 t16 t17 t18 t19 t20 t21 t23 t24 t25 t26 t27 t31 t32 t33 t34 t35 t36 t37 t38 t39 t40 t41 t42 t43 t44 t45 t46:AV)
noncomputable def b14:Code:=Tryz.f14.body.getD .skip
def Y6:Nat->List Nat:=ln [[],[1],[1,20],[1],[1,4],[4,5,6],[4,5,30],[4,5],[4,5,7],[4,5,7,8],[4,7,8,31,32,33],[4,7,8,31,32,33,34],[4,7,8,10,31,32,33],[4,7,8,11,31,32,33],[4,7,8,11,31,32,33,42],[4,7,8,11,31,32,33],[4,7,8,31,32,33],[7,8],[7,54],[7]]
abbrev Q14:=Wq R N O T 14 56 [.tmp 2,.tmp 3]
def AHg:=Q14 R N O T (aT b14 1) [(0,t0)]
def AHh:=Q14 R N O T (aT b14 7) [(1,t1)]
def AHi:=Q14 R N O T (aT b14 63) [(4,t4),(5,t5)]
def lS:=Q14 R N O T (aT b14 2042) [(4,t4),(7,t7),(8,t8),(31,t31),(32,t32),(33,t33)]
def AHj:=Q14 R N O T (aT b14 16339) [(4,t4),(7,t7),(8,t8),(31,t31),(32,t32),(33,t33),(34,t34)]
def wT:=Q14 R N O T (aT b14 511) [(7,t7),(8,t8)]
def AHk:=Q14 R N O T (aT b14 522855) [(4,t4),(7,t7),(8,t8),(11,t11),(31,t31),(32,t32),(33,t33)]
def AHl:=Q14 R N O T (aT b14 1023) [(7,t7)]
def AHm:=Q14 R N O T (aT b14 32679) [(4,t4),(7,t7),(8,t8),(31,t31),(32,t32),(33,t33)]
noncomputable def b44:Code:=Tryz.f44.body.getD .skip
def iW:Nat->List Nat:=ln [[],[0,3],[0,3,6],[0,3,6,7],[0,3,6,7,14],[0,3,6,7,14,15],[0,3,6,7,14,15],[],[0,3,6,7,14,20],[0,6,7,23,24,25],[0,6,7,23,24,25,26],[0,6,7,9,23,24,25],[0,6,7,10,11,23,24,25],[0,6,7,23,24,25],[],[0,3,6,7,14,43],[],[0,3,6,7,52],[0,3,12],[0,3,12],[0,6,7,12],[0,6,7,12,85],[0,6,7],[6,103],[6]]
abbrev Q44:=Wq R N O T 44 105 [.tmp 4,.tmp 5]
def bq:=Q44 R N O T (aT b44 1) [(0,t0),(1,t1)]
def ku:=Q44 R N O T (aT b44 245) [(0,t0),(3,t3),(6,t6),(7,t7),(14,t14),(15,t15)]
def M6:=Q44 R N O T (aT b44 31) [(0,t0),(6,t6),(7,t7)]
def kq:=Q44 R N O T (aT b44 7866) [(0,t0),(6,t6),(7,t7),(23,t23),(24,t24),(25,t25)]
def AHn:=Q44 R N O T (aT b44 63) [(6,t6)]
def AHo:=Q44 R N O T (aT b44 62931) [(0,t0),(6,t6),(7,t7),(23,t23),(24,t24),(25,t25),(26,t26)]
def kr:=Q44 R N O T (aT b44 125863) [(0,t0),(6,t6),(7,t7),(23,t23),(24,t24),(25,t25)]
noncomputable def b45:Code:=Tryz.f45.body.getD .skip
def AAq:Nat->List Nat:=ln [[],[2,3,4],[2,3,4,5],[2,3,4,5,6],[2,3,4,5,6],[2,4,5,7],[2,4,7,15,16,17],[2,4,7,15,16,17,18],[2,4,7,9,15,16,17],[2,4,7,15,16,17],[4,7]]
abbrev Q45:=Wq R N O T 45 36 [.cell 4 45]
def AHp:=Q45 R N O T (aT b45 1) [(0,t0),(1,t1)]
def bM:=Q45 R N O T (aT b45 506) [(2,t2),(4,t4),(7,t7),(15,t15),(16,t16),(17,t17)]
def AHq:=Q45 R N O T (aT b45 4051) [(2,t2),(4,t4),(7,t7),(15,t15),(16,t16),(17,t17),(18,t18)]
def AHr:=Q45 R N O T (aT b45 127) [(4,t4),(7,t7)]
def AHs:=Q45 R N O T (aT b45 8103) [(2,t2),(4,t4),(7,t7),(15,t15),(16,t16),(17,t17)]
noncomputable def b91:Code:=Tryz.f91.body.getD .skip
def iX:Nat->List Nat:=ln [[],[1,2,3,4,5],ra 7 1 [],[2,3,4,5,6,26],[2,5,6,8],[2,5,6,8,31],[5,8],[3,4,5],[3,4,5,9],[3,4,5,9],[3,5,9,43,44,45],[3,5,9,43,44,45,46],[3,5,9,11,43,44,45],[3,5,9,43,44,45],[5,9]]
abbrev Q91:=Wq R N O T 91 59 [.cell 5 25]
def AHt:=Q91 R N O T (aT b91 1) [(0,t0),(1,t1),(2,t2),(3,t3)]
def kS:=Q91 R N O T (aT b91 219) [(5,t5),(8,t8)]
def AHu:=Q91 R N O T (aT b91 7) [(3,t3),(4,t4),(5,t5)]
def kQ:=Q91 R N O T (aT b91 250) [(3,t3),(5,t5),(9,t9),(43,t43),(44,t44),(45,t45)]
def AHv:=Q91 R N O T (aT b91 2003) [(3,t3),(5,t5),(9,t9),(43,t43),(44,t44),(45,t45),(46,t46)]
def AHw:=Q91 R N O T (aT b91 63) [(5,t5),(9,t9)]
def AHx:=Q91 R N O T (aT b91 4007) [(3,t3),(5,t5),(9,t9),(43,t43),(44,t44),(45,t45)]
noncomputable def b46:Code:=Tryz.f46.body.getD .skip
def AZn:Nat->List Nat:=ln [[],[1]]
abbrev Q46:=Wq R N O T 46 13 [.tmp 2]
def AHy:=Q46 R N O T (aT b46 1) [(0,t0)]
noncomputable def b47:Code:=Tryz.f47.body.getD .skip
def qE:Nat->List Nat:=ln ([]::[0]::[0,3]::[3,8,9,10]::[3,8,9,10,11]::rp 3 [3,5,8,9,10] [[3,6,7,8,9,10],[3,8,9,10,32],[3,8,9,10],[]])
abbrev Q47:=Wq R N O T 47 34 [.tmp 2]
def AHz:=Q47 R N O T (aT b47 1) [(0,t0)]
def lQ:=Q47 R N O T (aT b47 58) [(3,t3),(8,t8),(9,t9),(10,t10)]
def AH0:=Q47 R N O T (aT b47 467) [(3,t3),(8,t8),(9,t9),(10,t10),(11,t11)]
def AH1:=Q47 R N O T (aT b47 15) []
def AAr:=Q47 R N O T (aT b47 935) [(3,t3),(8,t8),(9,t9),(10,t10)]
def AH2:=Q47 R N O T (aT b47 7475) [(3,t3),(5,t5),(8,t8),(9,t9),(10,t10)]
noncomputable def b95:Code:=Tryz.f95.body.getD .skip
def AZo:Nat->List Nat:=ln [[],[1,2]]
abbrev Q95:=Wq R N O T 95 7 [.tmp 3]
def AH3:=Q95 R N O T (aT b95 1) [(0,t0),(1,t1)]
noncomputable def b62:Code:=Tryz.f62.body.getD .skip
def AUC:Nat->List Nat:=ln [[],[3,4,5],[3,4,5,7,8],[3,4,5,7,14],[3,4,5]]
abbrev Q62:=Wq R N O T 62 26 [.tmp 6]
def AH4:=Q62 R N O T (aT b62 1) [(0,t0),(1,t1),(2,t2)]
def AH5:=Q62 R N O T (aT b62 7) [(3,t3),(4,t4),(5,t5)]
noncomputable def AZp:Code:=Tryz.f103.body.getD .skip
def AUD:Nat->List Nat:=ln [[],[1,2,3,4]]
abbrev AZq:=Wq R N O T 103 15 [.tmp 5]
def AAs:=AZq R N O T (aT AZp 1) [(0,t0),(1,t1),(2,t2),(3,t3)]
noncomputable def b59:Code:=Tryz.f59.body.getD .skip
def dI:Nat->List Nat:=ln [[],[1,2,4,7,8],[1,2,4,7,8,9,10],[1,2,4,7,8,9,19],[1,4,7,8,22],[1,4,7,8],[4,7,8,31],[4,8],[1,2,4,7,8],[1,2,4,7,8,36],[1,2,4,7,8],[1,2,4,7,8,11],[1,2,4,7,8,11],[1,2,7,8,11,41,42,43],[1,2,7,8,11,41,42,43,44],[1,2,7,8,11,13,41,42,43],[1,2,7,8,11,41,42,43],[8,11]]
abbrev Q59:=Wq R N O T 59 59 [.cell 8 25]
def vM:=Q59 R N O T (aT b59 1) [(0,t0),(1,t1),(2,t2),(3,t3)]
def V4:=Q59 R N O T (aT b59 109) [(4,t4),(8,t8)]
def vL:=Q59 R N O T (aT b59 7) [(1,t1),(2,t2),(4,t4),(7,t7),(8,t8)]
def AH8:=Q59 R N O T (aT b59 15) [(1,t1),(2,t2),(4,t4),(7,t7),(8,t8)]
def kX:=Q59 R N O T (aT b59 506) [(1,t1),(2,t2),(7,t7),(8,t8),(11,t11),(41,t41),(42,t42),(43,t43)]
def AH9:=Q59 R N O T (aT b59 4051) [(1,t1),(2,t2),(7,t7),(8,t8),(11,t11),(41,t41),(42,t42),(43,t43),(44,t44)]
def AIA:=Q59 R N O T (aT b59 127) [(8,t8),(11,t11)]
def AIB:=Q59 R N O T (aT b59 8103) [(1,t1),(2,t2),(7,t7),(8,t8),(11,t11),(41,t41),(42,t42),(43,t43)]
noncomputable def iY:Code:=Tryz.f114.body.getD .skip
def UI:Nat->List Nat:=ln [[],[0,4,5],[0,4,5,19],[0,4,5],[0,4,5,8,9],[0,4,5,8,35],[0,4,5,8],[0,4,5,8,10],[0,4,5,10,36,37,38],[0,4,5,10,36,37,38,39],[0,4,5,10,12,36,37,38],[0,4,5,10,12,13,36,37,38],[0,4,5,10,14,15,36,37,38],[0,4,5,10,15,36,37,38],[0,4,5,10,36,37,38,65],[0,4,5,10,36,37,38],[10]]
abbrev iZ:=Wq R N O T 114 68 [.tmp 6,.tmp 7]
def AAt:=iZ R N O T (aT iY 1) [(0,t0),(1,t1),(2,t2)]
def AAu:=iZ R N O T (aT iY 7) [(0,t0),(4,t4),(5,t5)]
def AAv:=iZ R N O T (aT iY 31) [(0,t0),(4,t4),(5,t5),(8,t8)]
def YR:=iZ R N O T (aT iY 506) [(0,t0),(4,t4),(5,t5),(10,t10),(36,t36),(37,t37),(38,t38)]
def AAw:=iZ R N O T (aT iY 4051) [(0,t0),(4,t4),(5,t5),(10,t10),(36,t36),(37,t37),(38,t38),(39,t39)]
def AAx:=iZ R N O T (aT iY 127) [(10,t10)]
def AAy:=iZ R N O T (aT iY 8103) [(0,t0),(4,t4),(5,t5),(10,t10),(36,t36),(37,t37),(38,t38)]
noncomputable def AZr:Code:=Tryz.f137.body.getD .skip
def AUE:Nat->List Nat:=ln [[],[0,1]]
abbrev AZs:=Wq R N O T 137 7 [.tmp 3]
def AAz:=AZs R N O T (aT AZr 1) [(0,t0),(1,t1)]
noncomputable def b81:Code:=Tryz.f81.body.getD .skip
def qG:Nat->List Nat:=ln [[],[0,1,2],[0,1,2,8],[0,2,8,13,14,15],[0,2,8,13,14,15,16],[0,2,8,10,13,14,15],0::2::8::ra 6 10 [],0::2::8::ra 6 10 [24],[0,2,8,11,12,13,14,15],[0,2,8,12,13,14,15],[0,2,8,13,14,15,45],[0,2,8,13,14,15],[8]]
abbrev Q81:=Wq R N O T 81 48 [.tmp 6,.tmp 7]
def AIC:=Q81 R N O T (aT b81 1) [(0,t0),(1,t1),(2,t2)]
def ki:=Q81 R N O T (aT b81 58) [(0,t0),(2,t2),(8,t8),(13,t13),(14,t14),(15,t15)]
def AID:=Q81 R N O T (aT b81 467) [(0,t0),(2,t2),(8,t8),(13,t13),(14,t14),(15,t15),(16,t16)]
def AIE:=Q81 R N O T (aT b81 15) [(8,t8)]
def kj:=Q81 R N O T (aT b81 14951) [(0,t0),(2,t2),(8,t8),(11,t11),(12,t12),(13,t13),(14,t14),(15,t15)]
def AIF:=Q81 R N O T (aT b81 935) [(0,t0),(2,t2),(8,t8),(13,t13),(14,t14),(15,t15)]
noncomputable def O9:Code:=Tryz.f120.body.getD .skip
def J0:Nat->List Nat:=ln [[],[0,1],[0,1,15],[0,1],[0,1,6],[0,6,17,18,19],[0,6,17,18,19,20],[0,6,8,17,18,19],[0,6,8,17,18,19,32],[0,6,8,17,18,19],[0,6,8,9,17,18,19],[0,8,9,17,18,19,33,34,35],[0,8,9,17,18,19,33,34,35,36],[0,8,9,11,17,18,19,33,34,35],[0,8,9,11,17,18,19,33,34,35,39,40,41],[0,8,9,11,17,18,19,33,34,35,39,40,41,42],[0,8,9,11,13,17,18,19,33,34,35,39,40,41],[0,8,9,11,17,18,19,33,34,35,39,40,41],[0,8,9,17,18,19,33,34,35],[0,9,17,18,19],[0,6,17,18,19],[6]]
abbrev PA:=Wq R N O T 120 58 [.tmp 4,.tmp 5]
def AA0:=PA R N O T (aT O9 1) [(0,t0),(1,t1)]
def AA1:=PA R N O T (aT O9 7) [(0,t0),(1,t1)]
def YY:=PA R N O T (aT O9 122) [(0,t0),(6,t6),(17,t17),(18,t18),(19,t19)]
def AA2:=PA R N O T (aT O9 979) [(0,t0),(6,t6),(17,t17),(18,t18),(19,t19),(20,t20)]
def AA3:=PA R N O T (aT O9 31) [(6,t6)]
def AA4:=PA R N O T (aT O9 15667) [(0,t0),(6,t6),(8,t8),(17,t17),(18,t18),(19,t19)]
def YX:=PA R N O T (aT O9 250682) [(0,t0),(8,t8),(9,t9),(17,t17),(18,t18),(19,t19),(33,t33),(34,t34),(35,t35)]
def AA5:=PA R N O T (aT O9 2005459) [(0,t0),(8,t8),(9,t9),(17,t17),(18,t18),(19,t19),(33,t33),(34,t34),(35,t35),(36,t36)]
def AA6:=PA R N O T (aT O9 62671) [(0,t0),(9,t9),(17,t17),(18,t18),(19,t19)]
def YV:=PA R N O T (aT O9 64174694) [(0,t0),(8,t8),(9,t9),(11,t11),(17,t17),(18,t18),(19,t19),(33,t33),(34,t34),(35,t35),(39,t39),(40,t40),(41,t41)]
def YW:=PA R N O T (aT O9 1959) [(0,t0),(6,t6),(17,t17),(18,t18),(19,t19)]
def nD:=PA R N O T (aT O9 513397555) [(0,t0),(8,t8),(9,t9),(11,t11),(17,t17),(18,t18),(19,t19),(33,t33),(34,t34),(35,t35),(39,t39),(40,t40),(41,t41),(42,t42)]
def YU:=PA R N O T (aT O9 4010919) [(0,t0),(8,t8),(9,t9),(17,t17),(18,t18),(19,t19),(33,t33),(34,t34),(35,t35)]
def nE:=PA R N O T (aT O9 1026795111) [(0,t0),(8,t8),(9,t9),(11,t11),(17,t17),(18,t18),(19,t19),(33,t33),(34,t34),(35,t35),(39,t39),(40,t40),(41,t41)]
noncomputable def AUF:Code:=Tryz.f144.body.getD .skip
def AUG:Nat->List Nat:=ln [[],[0,1]]
abbrev AZt:=Wq R N O T 144 9 [.tmp 4]
def ia:=AZt R N O T (aT AUF 1) [(0,t0),(1,t1)]
noncomputable def AUH:Code:=Tryz.f145.body.getD .skip
def AUI:Nat->List Nat:=ln [[],[0]]
abbrev AZu:=Wq R N O T 145 6 [.tmp 2]
def AA7:=AZu R N O T (aT AUH 1) [(0,t0)]
noncomputable def qH:Code:=Tryz.f166.body.getD .skip
def dJ:Nat->List Nat:=ln [[],[0,1],[0,1,7,8],[0,1,7,8,9],[0,1,5,7,8],[0,1,5,7,8,16],[0,1,7,8],[]]
abbrev AA8:=Wq R N O T 166 19 [.tmp 4]
def ic:=AA8 R N O T (aT qH 1) [(0,t0),(1,t1)]
def YS:=AA8 R N O T (aT qH 26) [(0,t0),(1,t1),(7,t7),(8,t8)]
def AA9:=AA8 R N O T (aT qH 211) [(0,t0),(1,t1),(7,t7),(8,t8),(9,t9)]
def ABA:=AA8 R N O T (aT qH 7) []
def ABB:=AA8 R N O T (aT qH 423) [(0,t0),(1,t1),(7,t7),(8,t8)]
noncomputable def b88:Code:=Tryz.f88.body.getD .skip
def U4:Nat->List Nat:=ln [[],[0,1],[0,1,6],[0,6,16,17,18],[0,6,16,17,18,19],[0,6,8,16,17,18],[0,6,9,10,16,17,18],[0,6,9,16,17,18,29],[0,6,9,16,17,18],[0,6,16,17,18],[0,6],[11,12],[11,12,13],[12,13,41,42,43],[12,13,41,42,43,44],[12,13,15,41,42,43],[12,13,41,42,43],[12,13]]
abbrev Q88:=Wq R N O T 88 55 [.tmp 4,.tmp 5]
def AIH:=Q88 R N O T (aT b88 1) [(0,t0),(1,t1)]
def ko:=Q88 R N O T (aT b88 58) [(0,t0),(6,t6),(16,t16),(17,t17),(18,t18)]
def AII:=Q88 R N O T (aT b88 467) [(0,t0),(6,t6),(16,t16),(17,t17),(18,t18),(19,t19)]
def vn:=Q88 R N O T (aT b88 15) [(0,t0),(6,t6)]
def AIJ:=Q88 R N O T (aT b88 14951) [(0,t0),(6,t6),(9,t9),(16,t16),(17,t17),(18,t18)]
def bX:=Q88 R N O T (aT b88 506) [(12,t12),(13,t13),(41,t41),(42,t42),(43,t43)]
def AIK:=Q88 R N O T (aT b88 935) [(0,t0),(6,t6),(16,t16),(17,t17),(18,t18)]
def AIL:=Q88 R N O T (aT b88 4051) [(12,t12),(13,t13),(41,t41),(42,t42),(43,t43),(44,t44)]
def vh:=Q88 R N O T (aT b88 127) [(12,t12),(13,t13)]
def AIM:=Q88 R N O T (aT b88 8103) [(12,t12),(13,t13),(41,t41),(42,t42),(43,t43)]
noncomputable def b89:Code:=Tryz.f89.body.getD .skip
def AZv:Nat->List Nat:=ln [[],[2,3,4]]
abbrev Q89:=Wq R N O T 89 8 [.cell 4 25]
def AIN:=Q89 R N O T (aT b89 1) [(0,t0),(1,t1)]
noncomputable def ie:Code:=Tryz.f121.body.getD .skip
def UJ:Nat->List Nat:=ln [[],[1,2,3,6],[1,2,3,6,7],[1,2,3,6,7],[1,2,3,6,7,16],[1,2,3,6,7,8,9],[1,2,3,6,7,8,9,26],[1,2,3,6,7,9],[1,2,3,6,7],[1,2,3,6,7,34,35,36],[1,2,3,6,7,34,35,36,37],[1,2,3,6,7,10,11,34,35,36],[1,2,3,6,7,34,35,36],[6,7]]
abbrev ig:=Wq R N O T 121 56 [.cell 6 25]
def ABC:=ig R N O T (aT ie 1) [(0,t0),(1,t1),(2,t2)]
def YK:=ig R N O T (aT ie 491) [(1,t1),(2,t2),(3,t3),(6,t6),(7,t7),(9,t9)]
def Px:=ig R N O T (aT ie 31) [(1,t1),(2,t2),(3,t3),(6,t6),(7,t7)]
def YJ:=ig R N O T (aT ie 250) [(1,t1),(2,t2),(3,t3),(6,t6),(7,t7),(34,t34),(35,t35),(36,t36)]
def ABD:=ig R N O T (aT ie 2003) [(1,t1),(2,t2),(3,t3),(6,t6),(7,t7),(34,t34),(35,t35),(36,t36),(37,t37)]
def ABE:=ig R N O T (aT ie 63) [(6,t6),(7,t7)]
def ABF:=ig R N O T (aT ie 4007) [(1,t1),(2,t2),(3,t3),(6,t6),(7,t7),(34,t34),(35,t35),(36,t36)]
noncomputable def AUJ:Code:=Tryz.f122.body.getD .skip
def AIO:Nat->List Nat:=ln [[],[0,1,2],[0,1,2,7],[],[0,11],[0]]
abbrev AUK:=Wq R N O T 122 18 [.tmp 5,.tmp 6]
def ABG:=AUK R N O T (aT AUJ 1) [(0,t0),(1,t1),(2,t2)]
def ABH:=AUK R N O T (aT AUJ 7) [(0,t0)]
noncomputable def ABI:Code:=Tryz.f146.body.getD .skip
def dK:Nat->List Nat:=ln [[],[1,2],[1,2,3],[1,2,3],[2,3,9,10,11],[2,3,9,10,11,12],[2,3,5,9,10,11],[2,3,9,10,11],[2,3]]
abbrev ABJ:=Wq R N O T 146 24 [.cell 2 25]
def ABK:=ABJ R N O T (aT ABI 1) [(0,t0)]
def YI:=ABJ R N O T (aT ABI 122) [(2,t2),(3,t3),(9,t9),(10,t10),(11,t11)]
def ABL:=ABJ R N O T (aT ABI 979) [(2,t2),(3,t3),(9,t9),(10,t10),(11,t11),(12,t12)]
def ABM:=ABJ R N O T (aT ABI 31) [(2,t2),(3,t3)]
def ABN:=ABJ R N O T (aT ABI 1959) [(2,t2),(3,t3),(9,t9),(10,t10),(11,t11)]
noncomputable def b90:Code:=Tryz.f90.body.getD .skip
def AZw:Nat->List Nat:=ln [[],[0,2]]
abbrev Q90:=Wq R N O T 90 7 [.cell 2 25]
def AIP:=Q90 R N O T (aT b90 1) [(0,t0)]
noncomputable def b92:Code:=Tryz.f92.body.getD .skip
def AUL:Nat->List Nat:=ln [[],[1],[1,20],[1],[4,5]]
abbrev Q92:=Wq R N O T 92 31 [.tmp 2,.tmp 3]
def uz:=Q92 R N O T (aT b92 1) [(0,t0)]
def AIQ:=Q92 R N O T (aT b92 7) [(1,t1)]
noncomputable def b93:Code:=Tryz.f93.body.getD .skip
def ABO:Nat->List Nat:=ln [[],[0,1],[0,1,7,8],[0,1,7,8,9],[0,1,5,7,8],[0,1,5,7,8,16],[0,1,7,8],[]]
abbrev Q93:=Wq R N O T 93 19 [.tmp 4]
def AIR:=Q93 R N O T (aT b93 1) [(0,t0),(1,t1)]
def kP:=Q93 R N O T (aT b93 26) [(0,t0),(1,t1),(7,t7),(8,t8)]
def AIS:=Q93 R N O T (aT b93 211) [(0,t0),(1,t1),(7,t7),(8,t8),(9,t9)]
def AIT:=Q93 R N O T (aT b93 7) []
def AIU:=Q93 R N O T (aT b93 423) [(0,t0),(1,t1),(7,t7),(8,t8)]
noncomputable def b70:Code:=Tryz.f70.body.getD .skip
def AZx:Nat->List Nat:=ln [[],[1,2]]
abbrev Q70:=Wq R N O T 70 5 [.cell 2 25]
def AIV:=Q70 R N O T (aT b70 1) [(0,t0)]
noncomputable def AZy:Code:=Tryz.f107.body.getD .skip
def AUO:Nat->List Nat:=ln [[],[2,3,4]]
abbrev AZz:=Wq R N O T 107 8 [.cell 4 25]
def ABP:=AZz R N O T (aT AZy 1) [(0,t0),(1,t1)]
noncomputable def AUP:Code:=Tryz.f134.body.getD .skip
def AIW:Nat->List Nat:=ln [[],[0,1,2],[0,1,2,7],[0,2,7,19],[0]]
abbrev AUQ:=Wq R N O T 134 24 [.tmp 5,.tmp 6]
def ABQ:=AUQ R N O T (aT AUP 1) [(0,t0),(1,t1),(2,t2)]
def ABR:=AUQ R N O T (aT AUP 7) [(0,t0)]
noncomputable def b23:Code:=Tryz.f23.body.getD .skip
def AZ0:Nat->List Nat:=ln [[],[1],[1,3],[1,3,4],[1,3,4],[3]]
abbrev Q23:=Wq R N O T 23 11 [.tmp 2]
def AIX:=Q23 R N O T (aT b23 1) [(0,t0)]
noncomputable def b56:Code:=Tryz.f56.body.getD .skip
def AD3:Nat->List Nat:=ln [[],[1,2,3],[1,2,3,7],[1,2,3,7,8],[],[2,3,15],[2,18,19,20],[2,18,19,20,21],[2,5,18,19,20],[2,18,19,20]]
abbrev Q56:=Wq R N O T 56 28 []
def AIY:=Q56 R N O T (aT b56 1) [(0,t0),(1,t1),(2,t2)]
def kO:=Q56 R N O T (aT b56 954) [(2,t2),(18,t18),(19,t19),(20,t20)]
def AIZ:=Q56 R N O T (aT b56 7635) [(2,t2),(18,t18),(19,t19),(20,t20),(21,t21)]
def AIa:=Q56 R N O T (aT b56 15271) [(2,t2),(18,t18),(19,t19),(20,t20)]
noncomputable def b43:Code:=Tryz.f43.body.getD .skip
def AZ1:Nat->List Nat:=ln [[],[1],[1,3],[3]]
abbrev Q43:=Wq R N O T 43 8 [.tmp 2]
def AIb:=Q43 R N O T (aT b43 1) [(0,t0)]
noncomputable def b87:Code:=Tryz.f87.body.getD .skip
def ABS:Nat->List Nat:=ln [[],[1,2,3],[1,2,3,16],[1,2,3],[1,2,3,24,25,26],[1,2,3,24,25,26,27],[1,2,3,6,7,24,25,26],[1,2,3,24,25,26]]
abbrev Q87:=Wq R N O T 87 40 []
def wM:=Q87 R N O T (aT b87 1) [(0,t0),(1,t1),(2,t2)]
def lN:=Q87 R N O T (aT b87 7) [(1,t1),(2,t2),(3,t3)]
def lM:=Q87 R N O T (aT b87 30) [(1,t1),(2,t2),(3,t3),(24,t24),(25,t25),(26,t26)]
def AIc:=Q87 R N O T (aT b87 243) [(1,t1),(2,t2),(3,t3),(24,t24),(25,t25),(26,t26),(27,t27)]
def AId:=Q87 R N O T (aT b87 487) [(1,t1),(2,t2),(3,t3),(24,t24),(25,t25),(26,t26)]
noncomputable def AZ2:Code:=Tryz.f118.body.getD .skip
def AUT:Nat->List Nat:=ln [[],[0,1,4,5],[0,1,4,16]]
abbrev AZ3:=Wq R N O T 118 28 []
def ABT:=AZ3 R N O T (aT AZ2 1) [(0,t0),(1,t1)]
noncomputable def AD4:Code:=Tryz.f142.body.getD .skip
def nG:Nat->List Nat:=ln [[],[0,1],[0,1,6],[0,1,6,7,8],[0,1,6,7,8],[0,1,6,7,8,9],[0,1,6,7,8,9,27],[],[0,1,6,7]]
abbrev AD5:=Wq R N O T 142 54 [.tmp 4,.tmp 5]
def ij:=AD5 R N O T (aT AD4 1) [(0,t0),(1,t1)]
def Th:=AD5 R N O T (aT AD4 60) [(0,t0),(1,t1),(6,t6),(7,t7),(8,t8)]
def ABU:=AD5 R N O T (aT AD4 241) [(0,t0),(1,t1),(6,t6),(7,t7),(8,t8)]
def ABV:=AD5 R N O T (aT AD4 31) [(0,t0),(1,t1),(6,t6),(7,t7)]
noncomputable def AZ4:Code:=Tryz.f162.body.getD .skip
def AUU:Nat->List Nat:=ln [[],[0,1]]
abbrev AZ5:=Wq R N O T 162 17 [.tmp 4]
def ABW:=AZ5 R N O T (aT AZ4 1) [(0,t0),(1,t1)]
end
variable {R:RT} {N O T:Nat} {s:AM} {QR:QT} {t0 t1 t2 t3 t4 t5 t6 t7 t8 t9 t10 t11 t12 t13 t14 t15 t16 t17 t18 t19 t20 t21 t23 t24 t25 t26 t27 t31 t32 t33 t34 t35 t36 t37 t38 t39 t40 t41 t42 t43 t44 t45 t46:AV}
theorem AQ1 (h :
 Bs s t0 λa b=>
 xM R b 4 a λc=>
 xC R 14 N O T 42 [c] b λd e=>
 xI .neq d (AA 0) λf=>
 g1 f false e (xM R e 4 a) λi j=>
 I4 f false j (xC R 14 N O T 43 [i] j) λm n=>
 g1 f false n (BO n m) λp q=>
 g1 f false q (xI .gtr p (AA 0)) λv w=>
 A6 f (BB true) v λx=>
 AO x (
 QR (.tuple [(.AB []),(AA 2)]) w) (
 AHh R N O T a w QR)):AHg R N O T t0 s QR:=
 pC Y6 cF h
theorem AQ3 (h :
 CU [(.AB []),(AA 0)] [(1,1,(AA 32))] λa=>
 Bs s a λb c=>
 xM R c 4 t1 λd=>
 xC R 14 N O T 44 [b,d] c λe f=>
 DC e 0 λg=>
 DC e 1 λi=>
 Dt i λj=>
 AO j (
 QR (.tuple [(.AB []),(AA 4)]) f) (
 AHi R N O T b g f QR)):AHh R N O T t1 s QR:=
 pC Y6 cF h
theorem AQ4 (h :
 BO s t5 λa=>
 lS R N O T t4 (.AB []) (.AB []) t5 a (AA 0) s QR):AHi R N O T t4 t5 s QR:=
 pC Y6 cF h
theorem AFM (h :
 xI .lss t33 t32 λa=>
 AO a (
 AHj R N O T t4 t7 t8 t31 t32 t33 a s QR) (
 wT R N O T t7 t8 s QR)):lS R N O T t4 t7 t8 t31 t32 t33 s QR:=
 pL Y6 cF h
theorem AQw (h :
 Bh s 4 t31 t33 λa=>
 xM R s 4 a λb=>
 CI s Y4 λc d=>
 CJ (lf R 14 N O T) d 4 c b λe=>
 xM R e 4 c λf=>
 xC R 14 N O T 45 [t4,f] e λg i=>
 CI i Y5 λj k=>
 CJ (lf R 14 N O T) k 5 j g λl=>
 xM R l 5 j λm=>
 xC R 14 N O T 46 [m] l λn o=>
 Dt n λp=>
 AO p (
 QR (.tuple [(.AB []),(AA 4)]) o) (
 AHk R N O T t4 t7 t8 j t31 t32 t33 o QR)):AHj R N O T t4 t7 t8 t31 t32 t33 t34 s QR:=
 pC Y6 cF h
theorem AQ5 (h :
 xC R 14 N O T 47 [t8] s λa b=>
 Dt a λc=>
 AO c (
 QR (.tuple [(.AB []),(AA 4)]) b) (
 AHl R N O T t7 b QR)):wT R N O T t7 t8 s QR:=
 pC Y6 cF h
theorem AQy (h :
 xM R s 5 t11 λa=>
 CV true s 5 Y5 1 [(0,5,a)] λb c=>
(5=5/\5≠0)/\Ct true (lf R 14 N O T) c 45 5 80 t7 b λd e=>
 A0 e t11 0 λf=>
 xL R e f λg=>
(4=4/\4≠0)/\Ct false (lf R 14 N O T) e 25 4 56 t8 g λi j=>
(A0 s t11 0 λk=>Bg k f=true) /\
(A0 c t11 0 λl=>Bg l f=true) /\
(xL R s f λm=>Bg m g=true) /\
(xL R c f λn=>Bg n g=true) /\
 AHm R N O T t4 d i t31 t32 t33 j QR):AHk R N O T t4 t7 t8 t11 t31 t32 t33 s QR:=
 pC Y6 cF h
theorem AQ6 (h :
 QR (.tuple [t7,(AA 0)]) s):AHl R N O T t7 s QR:=
 pC Y6 cF h
theorem AQ0 (h :
 xI .add t33 (AA 1) λa=>
 lS R N O T t4 t7 t8 t31 t32 a s QR):AHm R N O T t4 t7 t8 t31 t32 t33 s QR:=
 pC Y6 cF h
theorem m14 {L:A8} {Post:AV->AM->Prop} (h:AHg R L.n0 L.ro L.rt t0 s Post):∃v s',Post v s'/\BD (env R) L 14 [t0] s v s':=
 hE Tryz.func14 h
theorem AQZ (h :
 Bs s t1 λa b=>
 xF R b a 0 λd=>
 xI .eql d (AA 0) λe=>
 AO e (
 ku R N O T t0 a (.AB []) (BB true) d e b QR) (
 xI .eql d (AA 2) λf=>
 ku R N O T t0 a (.AB []) (BB true) d f b QR)):bq R N O T t0 t1 s QR:=
 pC iW cF h
theorem bt (h :
 AO t15 (
 xM R s 4 t3 λa=>
 CV false s 4 Y4 1 [(0,4,a)] λb c=>
 M6 R N O T t0 b t7 c QR) (
 xI .eql t14 (AA 4) λd=>
 AO d (
 xF R s t3 3 λf=>
 BO s f λg=>
 kq R N O T t0 t6 t7 f g (AA 0) s QR) (
 xI .eql t14 (AA 3) λi=>
 AO i (
 xF R s t3 3 λk=>
 xC R 44 N O T 88 [t0,k] s λl m=>
 DC l 0 λn=>
 DC l 1 λo=>
 M6 R N O T t0 n o m QR) (
 xI .eql t14 (AA 6) λp=>
 AO p (
 DT s t0 λq=>
 xF R s q 0 λw=>
 BO s w λx=>
 DT s t0 λy=>
 xF R s y 0 λaa=>
 xF R s t3 3 λac=>
 Bh s 4 ac (AA 0) λad=>
 xM R s 4 ad λae=>
 BO s aa λaf=>
 CV false s 4 Y4 1 [(0,4,(.agg Y4))] λag ah=>
(false=false/\25=25/\4=4/\4≠0)/\wFu (lf R 44 N O T) s 25 4 56 aa ag af ae λai aj=>
 DT aj t0 λak=>
 A0 aj ak 0 λal=>
 CJ (lf R 44 N O T) aj 1 al ai λam=>
 A0 am t3 3 λan=>
 xL R am an λao=>
 Bh am 4 ao (AA 1) λap=>
 xM R am 4 ap λaq=>
 xC R 44 N O T 90 [x] am λar au=>
 xC R 44 N O T 89 [aq,ar] au λav aw=>
 xC R 44 N O T 44 [t0,av] aw λax ay=>
 DC ax 0 λaz=>
 DC ax 1 λa0=>
(A0 au t3 3 λa1=>Bg a1 an=true) /\
(xL R au an λa2=>Bg a2 ao=true) /\
(Bh au 4 ao (AA 1) λa3=>Bg a3 ap=true) /\
(xM R au 4 ap λa4=>Bg a4 aq=true) /\
 AO a0 (
 xC R 44 N O T 81 [t0,az,x] ay λa5 a6=>
 DC a5 0 λa7=>
 DC a5 1 λa8=>
 M6 R N O T t0 a7 a8 a6 QR) (
 M6 R N O T t0 az a0 ay QR)) (
 M6 R N O T t0 t6 t7 s QR))))):ku R N O T t0 t3 t6 t7 t14 t15 s QR:=
 pC iW cF h
theorem AFD (h :
 Dt t7 λa=>
 g0 a false s t6 λb c=>
 g1 a false c (BO c b) λe f=>
 g0 a false f t0 λg i=>
 g1 a false i (DT i g) λk l=>
 g1 a false l (A0 l k 1) λn o=>
 g1 a false o (xL R o n) λq u=>
 g1 a false u (xI .gtr e q) λw x=>
 A6 a (BB true) w λy=>
 AO y (
 QR (.tuple [(.AB []),(BB false)]) x) (
 AHn R N O T t6 x QR)):M6 R N O T t0 t6 t7 s QR:=
 pC iW cF h
theorem AFE (h :
 xI .lss t25 t24 λa=>
 AO a (
 AHo R N O T t0 t6 t7 t23 t24 t25 a s QR) (
 M6 R N O T t0 t6 t7 s QR)):kq R N O T t0 t6 t7 t23 t24 t25 s QR:=
 pL iW cF h
theorem AQU (h :
 QR (.tuple [t6,(BB true)]) s):AHn R N O T t6 s QR:=
 pC iW cF h
theorem AQV (h :
 Bh s 4 t23 t25 λa=>
 xM R s 4 a λb=>
 CI s Y4 λc d=>
 CJ (lf R 44 N O T) d 4 c b λe=>
 xM R e 4 c λf=>
 xC R 44 N O T 44 [t0,f] e λg i=>
 DC g 0 λj=>
 DC g 1 λk=>
(4=4/\4≠0)/\Ct false (lf R 44 N O T) i 25 4 56 t6 j λl m=>
 g0 t7 true m k λn o=>
 A6 t7 n (BB false) λp=>
 kr R N O T t0 l p t23 t24 t25 o QR):AHo R N O T t0 t6 t7 t23 t24 t25 t26 s QR:=
 pC iW cF h
theorem AQW (h :
 xI .add t25 (AA 1) λa=>
 kq R N O T t0 t6 t7 t23 t24 a s QR):kr R N O T t0 t6 t7 t23 t24 t25 s QR:=
 pC iW cF h
theorem m44 {L:A8} {Post:AV->AM->Prop} (hn:Bi [t0,t1]=false) (h:bq R 0 L.ro L.rt t0 t1 s (QM (L.rr 44) s.bs.length Post)):∃v s',Post v s'/\BD (env R) L 44 [t0,t1] s v s':=
 hM Tryz.func44 hn h
theorem AP1 (h :
 Bs s t0 λa b=>
 Bs b t1 λc d=>
 CI d Y5 λe f=>
 CI f [(.AB [])] λg i=>
 CI i [(.pv (.sc .nilFunc))] λj k=>
 CJ (lf R 45 N O T) k 1 j (.func (.func 91) [] [a,g,j]) λl=>
 xL R l j λm=>
 xM R l 4 c λn=>
 E3 (env R) (lf R 45 N O T) m [n] l λo p=>
 CU Y5 [(1,4,o)] λq=>
 CI p Y5 λu v=>
 CJ (lf R 45 N O T) v 5 u q λw=>
 xL R w g λx=>
 BO w x λy=>
 bM R N O T a e u x y (AA 0) w QR):AHp R N O T t0 t1 s QR:=
 pC AAq cF h
theorem AE0 (h :
 xI .lss t17 t16 λa=>
 AO a (
 AHq R N O T t2 t4 t7 t15 t16 t17 a s QR) (
 AHr R N O T t4 t7 s QR)):bM R N O T t2 t4 t7 t15 t16 t17 s QR:=
 pL AAq cF h
theorem APz (h :
 Bh s 1 t15 t17 λa=>
 xL R s a λb=>
 A0 s t7 0 λc=>
 xL R s c λd=>
 xL R s t2 λe=>
 DT s e λf=>
 xF R s f 0 λi=>
 Bh s 4 i b λj=>
 xM R s 4 j λk=>
 xC R 45 N O T 70 [k] s λl m=>
 CV false m 4 Y4 1 [(0,4,l)] λn o=>
(4=4/\4≠0)/\Ct false (lf R 45 N O T) m 25 4 56 d n λp q=>
 A0 q t7 0 λu=>
 CJ (lf R 45 N O T) q 1 u p λw=>
(A0 m t7 0 λx=>Bg x c=true) /\
(xL R m c λy=>Bg y d=true) /\
 AHs R N O T t2 t4 t7 t15 t16 t17 w QR):AHq R N O T t2 t4 t7 t15 t16 t17 t18 s QR:=
 pC AAq cF h
theorem APy (h :
 xM R s 5 t7 λa=>
 CJ (lf R 45 N O T) s 5 t4 a λb=>
 xM R b 5 t4 λc=>
 QR c b):AHr R N O T t4 t7 s QR:=
 pC AAq cF h
theorem AP0 (h :
 xI .add t17 (AA 1) λa=>
 bM R N O T t2 t4 t7 t15 t16 a s QR):AHs R N O T t2 t4 t7 t15 t16 t17 s QR:=
 pC AAq cF h
theorem m45 {L:A8} {Post:AV->AM->Prop} (hn:Bi [t0,t1]=false) (h:AHp R 0 L.ro L.rt t0 t1 s (QM (L.rr 45) s.bs.length Post)):∃v s',Post v s'/\BD (env R) L 45 [t0,t1] s v s':=
 hM Tryz.func45 hn h
theorem AEz (h :
 Bs s t0 λa b=>
 CI b Y4 λc d=>
 xM R d 4 a λe=>
 xC R 91 N O T 92 [e] d λf g=>
 DC f 0 λi=>
 DC f 1 λj=>
 g0 j true g i λk l=>
 g1 j true l (xL R l t1) λn o=>
 g1 j true o (DT o n) λq u=>
 g1 j true u (A0 u q 0) λx y=>
 g1 j true y (xL R y x) λaa ab=>
 g1 j true ab (BO ab aa) λad ae=>
 g1 j true ae (xI .lss k ad) λag ah=>
 A6 j ag (BB false) λai=>
 AO ai (
 xL R ah t2 λaj=>
 xC R 91 N O T 93 [aj,i] ah λak al=>
 xI .lss ak (AA 0) λam=>
 AO am (
 xL R al t2 λan=>
 BO al an λao=>
 xL R al t2 λap=>
 CV false al 1 [(AA 0)] 1 [(0,1,i)] λaq ar=>
(1=1/\1≠0)/\Ct false (lf R 91 N O T) al 3 1 8 ap aq λau av=>
 CJ (lf R 91 N O T) av 1 t2 au λaw=>
(xL R av t2 λax=>Bg ax an=true) /\
(BO av an λay=>Bg ay ao=true) /\
 kS R N O T c ao aw QR) (
 kS R N O T c ak al QR)) (
 AHu R N O T t3 a c ah QR)):AHt R N O T t0 t1 t2 t3 s QR:=
 pC iX cF h
theorem APw (h :
 CU Y4 [(0,1,(AA 5)),(2,1,t8)] λa=>
 CJ (lf R 91 N O T) s 4 t5 a λb=>
 xM R b 4 t5 λc=>
 QR c b):kS R N O T t5 t8 s QR:=
 pC iX cF h
theorem APx (h :
 xM R s 4 t4 λa=>
 CI s Y4 λb c=>
 CJ (lf R 91 N O T) c 4 b a λd=>
 A0 d b 3 λe=>
 CJ (lf R 91 N O T) d 1 e (.AB []) λf=>
 xF R f t4 3 λi=>
 BO f i λj=>
 kQ R N O T t3 t5 b i j (AA 0) f QR):AHu R N O T t3 t4 t5 s QR:=
 pC iX cF h
theorem AEx (h :
 xI .lss t45 t44 λa=>
 AO a (
 AHv R N O T t3 t5 t9 t43 t44 t45 a s QR) (
 AHw R N O T t5 t9 s QR)):kQ R N O T t3 t5 t9 t43 t44 t45 s QR:=
 pL iX cF h
theorem APu (h :
 Bh s 4 t43 t45 λa=>
 xM R s 4 a λb=>
 CI s Y4 λc d=>
 CJ (lf R 91 N O T) d 4 c b λe=>
 A0 e t9 3 λf=>
 xL R e f λg=>
 xL R e t3 λi=>
 xM R e 4 c λj=>
 E3 (env R) (lf R 91 N O T) i [j] e λk l=>
 CV false l 4 Y4 1 [(0,4,k)] λm n=>
(4=4/\4≠0)/\Ct false (lf R 91 N O T) l 25 4 56 g m λo p=>
 A0 p t9 3 λq=>
 CJ (lf R 91 N O T) p 1 q o λu=>
(A0 l t9 3 λw=>Bg w f=true) /\
(xL R l f λx=>Bg x g=true) /\
 AHx R N O T t3 t5 t9 t43 t44 t45 u QR):AHv R N O T t3 t5 t9 t43 t44 t45 t46 s QR:=
 pC iX cF h
theorem APt (h :
 xM R s 4 t9 λa=>
 CJ (lf R 91 N O T) s 4 t5 a λb=>
 xM R b 4 t5 λc=>
 QR c b):AHw R N O T t5 t9 s QR:=
 pC iX cF h
theorem APv (h :
 xI .add t45 (AA 1) λa=>
 kQ R N O T t3 t5 t9 t43 t44 a s QR):AHx R N O T t3 t5 t9 t43 t44 t45 s QR:=
 pC iX cF h
theorem m91 {L:A8} {Post:AV->AM->Prop} (hn:Bi [t0,t1,t2,t3]=false) (h:AHt R 0 L.ro L.rt t0 t1 t2 t3 s (QM (L.rr 91) s.bs.length Post)):∃v s',Post v s'/\BD (env R) L 91 [t0,t1,t2,t3] s v s':=
 hM Tryz.func91 hn h
theorem APo (h :
 Bs s t0 λa b=>
 xF R b a 0 λd=>
 BO b d λe=>
 xI .leq e (AA 6) λf=>
 g1 f true b (xM R b 5 a) λi j=>
 I4 f true j (xC R 46 N O T 23 [i] j) λm n=>
 g1 f true n (BO n m) λp q=>
 g1 f true q (xI .leq p (AA 3)) λv w=>
 A6 f v (BB false) λx=>
 QR x w):AHy R N O T t0 s QR:=
 pC AZn cF h
theorem e46 {u0:AV} {Post:AV->Prop} (Be:AY [] 0 0 [t0]=some [u0]) (h:AHy R 0 0 0 u0 ⟨[],[]⟩ (QP Post)):AL (env R) 46 [t0] Post:=
 hR Tryz.func46 Be h
theorem AQv (h :
 BO s t0 λa=>
 lQ R N O T (.AB []) t0 a (AA 0) s QR):AHz R N O T t0 s QR:=
 pC qE cF h
theorem AFK (h :
 xI .lss t10 t9 λa=>
 AO a (
 AH0 R N O T t3 t8 t9 t10 a s QR) (
 AH1 R N O T  s QR)):lQ R N O T t3 t8 t9 t10 s QR:=
 pL qE cF h
theorem AQs (h :
 Bh s 4 t8 t10 λa=>
 xM R s 4 a λb=>
 CI s Y4 λc d=>
 CJ (lf R 47 N O T) d 4 c b λe=>
 xC R 47 N O T 94 [t3,(.func (.func 95) [] [c])] e λf g=>
 AO f (
 AAr R N O T t3 t8 t9 t10 g QR) (
 AH2 R N O T t3 c t8 t9 t10 g QR)):AH0 R N O T t3 t8 t9 t10 t11 s QR:=
 pC qE cF h
theorem AQr (h :
 QR (BB true) s):AH1 R N O T  s QR:=
 pC qE cF h
theorem AFL (h :
 xI .add t10 (AA 1) λa=>
 lQ R N O T t3 t8 t9 a s QR):AAr R N O T t3 t8 t9 t10 s QR:=
 pC qE cF h
theorem AQu (h :
 xM R s 4 t5 λa=>
 CV false s 4 Y4 1 [(0,4,a)] λb c=>
(4=4/\4≠0)/\Ct false (lf R 47 N O T) c 25 4 56 t3 b λd e=>
 xM R e 4 t5 λf=>
 xC R 47 N O T 14 [f] e λg i=>
 DC g 0 λj=>
 DC g 1 λk=>
 xI .neq k (AA 0) λl=>
 g0 l false i j λm n=>
 g1 l false n (BO n m) λp q=>
 g1 l false q (xI .gtr p (AA 4)) λv w=>
 A6 l (BB true) v λx=>
 AO x (
 QR (BB false) w) (
 AAr R N O T d t8 t9 t10 w QR)):AH2 R N O T t3 t5 t8 t9 t10 s QR:=
 pC qE cF h
theorem e47 {u0:AV} {Post:AV->Prop} (Be:AY [] 0 0 [t0]=some [u0]) (h:AHz R 0 0 0 u0 ⟨[],[]⟩ (QP Post)):AL (env R) 47 [t0] Post:=
 hR Tryz.func47 Be h
theorem AQq (h :
 Bs s t0 λa b=>
 xM R b 4 a λc=>
 xM R b 4 t1 λd=>
 xC R 95 N O T 63 [c,d] b λe f=>
 QR e f):AH3 R N O T t0 t1 s QR:=
 pC AZo cF h
theorem m95 {L:A8} {Post:AV->AM->Prop} (hn:Bi [t0,t1]=false) (h:AH3 R 0 L.ro L.rt t0 t1 s (QM (L.rr 95) s.bs.length Post)):∃v s',Post v s'/\BD (env R) L 95 [t0,t1] s v s':=
 hM Tryz.func95 hn h
theorem AEt (h :
 Bs s t0 λa b=>
 Bs b t1 λc d=>
 Bs d t2 λe f=>
 xM R f 4 a λg=>
 xC R 62 N O T 92 [g] f λi j=>
 DC i 0 λk=>
 DC i 1 λl=>
 AO l (
 xL R j c λm=>
 xI .eql k m λn=>
 g1 n true j (xL R j e) λp q=>
 g1 n true q (Dt p) λv w=>
 A6 n v (BB false) λx=>
 QR x w) (
 AH5 R N O T a c e j QR)):AH4 R N O T t0 t1 t2 s QR:=
 pC AUC cF h
theorem APc (h :
 xF R s t3 3 λb=>
 xC R 62 N O T 94 [b,(.func (.func 103) [] [t4,t5,t3])] s λc d=>
 QR c d):AH5 R N O T t3 t4 t5 s QR:=
 pC AUC cF h
theorem e62 {u0 u1 u2:AV} {Post:AV->Prop} (Be:AY [] 0 0 [t0,t1,t2]=some [u0,u1,u2]) (h:AH4 R 0 0 0 u0 u1 u2 ⟨[],[]⟩ (QP Post)):AL (env R) 62 [t0,t1,t2] Post:=
 hR Tryz.func62 Be h
theorem AKM (h :
 Bs s t0 λa b=>
 xM R b 4 a λc=>
 xL R b t1 λd=>
 xL R b t2 λe=>
 g1 e true b (A0 b t3 0) λg i=>
 g1 e true i (xL R i g) λk l=>
 g1 e true l (xI .neq k (AA 2)) λn o=>
 A6 e n (BB false) λp=>
 xC R 103 N O T 62 [c,d,p] o λq u=>
 QR q u):AAs R N O T t0 t1 t2 t3 s QR:=
 pC AUD cF h
theorem AWi {L:A8} {Post:AV->AM->Prop} (hn:Bi [t0,t1,t2,t3]=false) (h:AAs R 0 L.ro L.rt t0 t1 t2 t3 s (QM (L.rr 103) s.bs.length Post)):∃v s',Post v s'/\BD (env R) L 103 [t0,t1,t2,t3] s v s':=
 hM Tryz.func103 hn h
theorem AP6 (h :
 Bs s t0 λa b=>
 Bs b t3 λc d=>
 CI d Y4 λe f=>
 xM R f 4 a λg=>
 xC R 59 N O T 92 [g] f λi j=>
 DC i 0 λk=>
 DC i 1 λl=>
 AO l (
 E3 (env R) (lf R 59 N O T) t2 [k] j λm n=>
 AO m (
 DT n t1 λo=>
 xL R n o λp=>
 xI .sub p (AA 1) λq=>
 DT n t1 λu=>
 CJ (lf R 59 N O T) n 1 u q λv=>
 DT v t1 λw=>
 xL R v w λx=>
 xI .eql x (AA (-1)) λy=>
 AO y (
 xM R v 4 c λz=>
 CJ (lf R 59 N O T) v 4 e z λaa=>
 xM R aa 4 e λab=>
 QR ab aa) (
 V4 R N O T a e v QR)) (
 V4 R N O T a e n QR)) (
 vL R N O T t1 t2 a c e j QR)):vM R N O T t0 t1 t2 t3 s QR:=
 pC dI cF h
theorem AP7 (h :
 xM R s 4 t4 λa=>
 CJ (lf R 59 N O T) s 4 t8 a λb=>
 xM R b 4 t8 λc=>
 QR c b):V4 R N O T t4 t8 s QR:=
 pC dI cF h
theorem AP9 (h :
 xF R s t4 0 λb=>
 xI .neq b (AA 3) λc=>
 AO c (
 xM R s 4 t4 λd=>
 CJ (lf R 59 N O T) s 4 t8 d λe=>
 xM R e 4 t8 λf=>
 QR f e) (
 AH8 R N O T t1 t2 t4 t7 t8 s QR)):vL R N O T t1 t2 t4 t7 t8 s QR:=
 pC dI cF h
theorem AQA (h :
 xM R s 4 t4 λa=>
 CI s Y4 λb c=>
 CJ (lf R 59 N O T) c 4 b a λd=>
 A0 d b 3 λe=>
 CJ (lf R 59 N O T) d 1 e (.AB []) λf=>
 xF R f t4 3 λi=>
 BO f i λj=>
 kX R N O T t1 t2 t7 t8 b i j (AA 0) f QR):AH8 R N O T t1 t2 t4 t7 t8 s QR:=
 pC dI cF h
theorem AE1 (h :
 xI .lss t43 t42 λa=>
 AO a (
 AH9 R N O T t1 t2 t7 t8 t11 t41 t42 t43 a s QR) (
 AIA R N O T t8 t11 s QR)):kX R N O T t1 t2 t7 t8 t11 t41 t42 t43 s QR:=
 pL dI cF h
theorem AP3 (h :
 Bh s 4 t41 t43 λa=>
 xM R s 4 a λb=>
 CI s Y4 λc d=>
 CJ (lf R 59 N O T) d 4 c b λe=>
 A0 e t11 3 λf=>
 xL R e f λg=>
 xM R e 4 c λi=>
 xM R e 4 t7 λj=>
 xC R 59 N O T 59 [i,t1,t2,j] e λk l=>
 CV false l 4 Y4 1 [(0,4,k)] λm n=>
(4=4/\4≠0)/\Ct false (lf R 59 N O T) l 25 4 56 g m λo p=>
 A0 p t11 3 λq=>
 CJ (lf R 59 N O T) p 1 q o λu=>
(A0 l t11 3 λw=>Bg w f=true) /\
(xL R l f λx=>Bg x g=true) /\
 AIB R N O T t1 t2 t7 t8 t11 t41 t42 t43 u QR):AH9 R N O T t1 t2 t7 t8 t11 t41 t42 t43 t44 s QR:=
 pC dI cF h
theorem AP2 (h :
 xM R s 4 t11 λa=>
 CJ (lf R 59 N O T) s 4 t8 a λb=>
 xM R b 4 t8 λc=>
 QR c b):AIA R N O T t8 t11 s QR:=
 pC dI cF h
theorem AP4 (h :
 xI .add t43 (AA 1) λa=>
 kX R N O T t1 t2 t7 t8 t11 t41 t42 a s QR):AIB R N O T t1 t2 t7 t8 t11 t41 t42 t43 s QR:=
 pC dI cF h
theorem m59 {L:A8} {Post:AV->AM->Prop} (hn:Bi [t0,t1,t2,t3]=false) (h:vM R 0 L.ro L.rt t0 t1 t2 t3 s (QM (L.rr 59) s.bs.length Post)):∃v s',Post v s'/\BD (env R) L 59 [t0,t1,t2,t3] s v s':=
 hM Tryz.func59 hn h
theorem AKm (h :
 Bs s t1 λa b=>
 Bs b t2 λc d=>
 xM R d 4 a λe=>
 xL R d c λf=>
 xC R 114 N O T 62 [e,f,(BB false)] d λg i=>
 Dt g λj=>
 AO j (
 xM R i 4 a λk=>
 CV false i 4 Y4 1 [(0,4,k)] λl m=>
 QR (.tuple [l,(BB true)]) m) (
 AAu R N O T t0 a c i QR)):AAt R N O T t0 t1 t2 s QR:=
 pC UI cF h
theorem AKn (h :
 DT s t0 λa=>
 xF R s a 0 λc=>
 xL R s t5 λd=>
 Bh s 4 c d λe=>
 xM R s 4 e λf=>
 xC R 114 N O T 44 [t0,f] s λg i=>
 DC g 0 λj=>
 DC g 1 λk=>
 Dt k λl=>
 AO l (
 QR (.tuple [(.AB []),(BB false)]) i) (
 AAv R N O T t0 t4 t5 j i QR)):AAu R N O T t0 t4 t5 s QR:=
 pC UI cF h
theorem AKp (h :
 BO s t8 λa=>
 YR R N O T t0 t4 t5 (.AB []) t8 a (AA 0) s QR):AAv R N O T t0 t4 t5 t8 s QR:=
 pC UI cF h
theorem vR (h :
 xI .lss t38 t37 λa=>
 AO a (
 AAw R N O T t0 t4 t5 t10 t36 t37 t38 a s QR) (
 AAx R N O T t10 s QR)):YR R N O T t0 t4 t5 t10 t36 t37 t38 s QR:=
 pL UI cF h
theorem AKk (h :
 Bh s 4 t36 t38 λa=>
 xM R s 4 a λb=>
 CI s Y4 λc d=>
 CJ (lf R 114 N O T) d 4 c b λe=>
 CI e [(AA 0)] λf g=>
 CJ (lf R 114 N O T) g 1 f (AA 0) λi=>
 xM R i 4 t4 λj=>
 xM R i 4 c λk=>
 xC R 114 N O T 59 [j,f,(.func (.func 137) [] [t5]),k] i λl m=>
 xL R m t5 λn=>
 xC R 114 N O T 114 [t0,l,n] m λo p=>
 DC o 0 λq=>
 DC o 1 λu=>
(xL R i t5 λw=>Bg w n=true) /\
(4=4/\4≠0)/\Ct false (lf R 114 N O T) p 25 4 56 t10 q λx y=>
 Dt u λz=>
 g0 z false y x λaa ab=>
 g1 z false ab (BO ab aa) λad ae=>
 g0 z false ae t0 λaf ag=>
 g1 z false ag (DT ag af) λai aj=>
 g1 z false aj (A0 aj ai 1) λal am=>
 g1 z false am (xL R am al) λao ap=>
 g1 z false ap (xI .gtr ad ao) λar au=>
 A6 z (BB true) ar λav=>
 AO av (
 QR (.tuple [(.AB []),(BB false)]) au) (
 AAy R N O T t0 t4 t5 x t36 t37 t38 au QR)):AAw R N O T t0 t4 t5 t10 t36 t37 t38 t39 s QR:=
 pC UI cF h
theorem AKj (h :
 QR (.tuple [t10,(BB true)]) s):AAx R N O T t10 s QR:=
 pC UI cF h
theorem AKl (h :
 xI .add t38 (AA 1) λa=>
 YR R N O T t0 t4 t5 t10 t36 t37 a s QR):AAy R N O T t0 t4 t5 t10 t36 t37 t38 s QR:=
 pC UI cF h
theorem AWx {L:A8} {Post:AV->AM->Prop} (hn:Bi [t0,t1,t2]=false) (h:AAt R 0 L.ro L.rt t0 t1 t2 s (QM (L.rr 114) s.bs.length Post)):∃v s',Post v s'/\BD (env R) L 114 [t0,t1,t2] s v s':=
 hM Tryz.func114 hn h
theorem AKh (h :
 xL R s t1 λa=>
 xI .eql t0 a λb=>
 QR b s):AAz R N O T t0 t1 s QR:=
 pC AUE cF h
theorem AWr {L:A8} {Post:AV->AM->Prop} (hn:Bi [t0,t1]=false) (h:AAz R 0 L.ro L.rt t0 t1 s (QM (L.rr 137) s.bs.length Post)):∃v s',Post v s'/\BD (env R) L 137 [t0,t1] s v s':=
 hM Tryz.func137 hn h
theorem AQJ (h :
 BO s t1 λa=>
 ki R N O T t0 t2 (.AB []) t1 a (AA 0) s QR):AIC R N O T t0 t1 t2 s QR:=
 pC qG cF h
theorem AE5 (h :
 xI .lss t15 t14 λa=>
 AO a (
 AID R N O T t0 t2 t8 t13 t14 t15 a s QR) (
 AIE R N O T t8 s QR)):ki R N O T t0 t2 t8 t13 t14 t15 s QR:=
 pL qG cF h
theorem AQH (h :
 Bh s 4 t13 t15 λa=>
 xM R s 4 a λb=>
 CI s Y4 λc d=>
 CJ (lf R 81 N O T) d 4 c b λe=>
 xM R e 4 c λf=>
 CV false e 4 Y4 1 [(0,4,f)] λg i=>
 xM R i 4 c λj=>
 xC R 81 N O T 62 [j,t2,(BB true)] i λk l=>
 Dt k λm=>
 AO m (
 xM R l 4 c λn=>
 xC R 81 N O T 114 [t0,n,t2] l λo p=>
 DC o 0 λq=>
 DC o 1 λu=>
 kj R N O T t0 t2 t8 q u t13 t14 t15 p QR) (
 kj R N O T t0 t2 t8 g (BB true) t13 t14 t15 l QR)):AID R N O T t0 t2 t8 t13 t14 t15 t16 s QR:=
 pC qG cF h
theorem AQG (h :
 QR (.tuple [t8,(BB true)]) s):AIE R N O T t8 s QR:=
 pC qG cF h
theorem AE6 (h :
(4=4/\4≠0)/\Ct false (lf R 81 N O T) s 25 4 56 t8 t11 λa b=>
 Dt t12 λc=>
 g0 c false b a λd e=>
 g1 c false e (BO e d) λg i=>
 g0 c false i t0 λj k=>
 g1 c false k (DT k j) λm n=>
 g1 c false n (A0 n m 1) λp q=>
 g1 c false q (xL R q p) λv w=>
 g1 c false w (xI .gtr g v) λy z=>
 A6 c (BB true) y λaa=>
 AO aa (
 QR (.tuple [(.AB []),(BB false)]) z) (
 AIF R N O T t0 t2 a t13 t14 t15 z QR)):kj R N O T t0 t2 t8 t11 t12 t13 t14 t15 s QR:=
 pC qG cF h
theorem AQI (h :
 xI .add t15 (AA 1) λa=>
 ki R N O T t0 t2 t8 t13 t14 a s QR):AIF R N O T t0 t2 t8 t13 t14 t15 s QR:=
 pC qG cF h
theorem m81 {L:A8} {Post:AV->AM->Prop} (hn:Bi [t0,t1,t2]=false) (h:AIC R 0 L.ro L.rt t0 t1 t2 s (QM (L.rr 81) s.bs.length Post)):∃v s',Post v s'/\BD (env R) L 81 [t0,t1,t2] s v s':=
 hM Tryz.func81 hn h
theorem AK2 (h :
 xC R 120 N O T 144 [t1,(.func (.func 145) [] [])] s λa b=>
 AO a (
 QR (.tuple [(.AB []),(BB true)]) b) (
 AA1 R N O T t0 t1 b QR)):AA0 R N O T t0 t1 s QR:=
 pC J0 cF h
theorem AK3 (h :
 CV false s 1 [(.AB [])] 1 [(0,1,(.AB []))] λa b=>
 BO b t1 λc=>
 YY R N O T t0 a t1 c (AA 0) b QR):AA1 R N O T t0 t1 s QR:=
 pC J0 cF h
theorem vg (h :
 xI .lss t19 t18 λa=>
 AO a (
 AA2 R N O T t0 t6 t17 t18 t19 a s QR) (
 AA3 R N O T t6 s QR)):YY R N O T t0 t6 t17 t18 t19 s QR:=
 pL J0 cF h
theorem AK0 (h :
 Bh s 1 t17 t19 λa=>
 xL R s a λb=>
 BO s t6 λc=>
 DT s t0 λd=>
 xF R s d 1 λf=>
 BO s b λg=>
 xI .quo f g λi=>
 xI .gtr c i λj=>
 AO j (
 QR (.tuple [(.AB []),(BB false)]) s) (
 AA4 R N O T t0 t6 b t17 t18 t19 s QR)):AA2 R N O T t0 t6 t17 t18 t19 t20 s QR:=
 pC J0 cF h
theorem AKz (h :
 QR (.tuple [t6,(BB true)]) s):AA3 R N O T t6 s QR:=
 pC J0 cF h
theorem AK1 (h :
 BO s t6 λa=>
 YX R N O T t0 t8 (.AB []) t17 t18 t19 t6 a (AA 0) s QR):AA4 R N O T t0 t6 t8 t17 t18 t19 s QR:=
 pC J0 cF h
theorem vZ (h :
 xI .lss t35 t34 λa=>
 AO a (
 AA5 R N O T t0 t8 t9 t17 t18 t19 t33 t34 t35 a s QR) (
 AA6 R N O T t0 t9 t17 t18 t19 s QR)):YX R N O T t0 t8 t9 t17 t18 t19 t33 t34 t35 s QR:=
 pL J0 cF h
theorem AKw (h :
 Bh s 1 t33 t35 λa=>
 xL R s a λb=>
 BO s t8 λc=>
 YV R N O T t0 t8 t9 b t17 t18 t19 t33 t34 t35 t8 c (AA 0) s QR):AA5 R N O T t0 t8 t9 t17 t18 t19 t33 t34 t35 t36 s QR:=
 pC J0 cF h
theorem AKv (h :
 YW R N O T t0 t9 t17 t18 t19 s QR):AA6 R N O T t0 t9 t17 t18 t19 s QR:=
 pC J0 cF h
theorem vY (h :
 xI .lss t41 t40 λa=>
 AO a (
 nD R N O T t0 t8 t9 t11 t17 t18 t19 t33 t34 t35 t39 t40 t41 a s QR) (
 YU R N O T t0 t8 t9 t17 t18 t19 t33 t34 t35 s QR)):YV R N O T t0 t8 t9 t11 t17 t18 t19 t33 t34 t35 t39 t40 t41 s QR:=
 pL J0 cF h
theorem AC2 (h :
 xI .add t19 (AA 1) λa=>
 YY R N O T t0 t6 t17 t18 a s QR):YW R N O T t0 t6 t17 t18 t19 s QR:=
 pC J0 cF h
theorem ACz (h :
 Bh s 4 t39 t41 λa=>
 xM R s 4 a λb=>
 CI s Y4 λc d=>
 CJ (lf R 120 N O T) d 4 c b λe=>
 xC R 120 N O T 57 [t11] e λf g=>
 xM R g 4 c λi=>
 CV false g 4 Y4 1 [(0,4,i)] λj k=>
(4=4/\4≠0)/\Ct false (lf R 120 N O T) g 25 4 56 f j λl m=>
 CV false m 1 [(.AB [])] 1 [(0,1,l)] λn o=>
(1=1/\1≠0)/\Ct false (lf R 120 N O T) m 23 1 24 t9 n λp q=>
(xM R e 4 c λu=>Bg u i=true) /\
 nE R N O T t0 t8 p t11 t17 t18 t19 t33 t34 t35 t39 t40 t41 q QR):nD R N O T t0 t8 t9 t11 t17 t18 t19 t33 t34 t35 t39 t40 t41 t42 s QR:=
 pC J0 cF h
theorem AC1 (h :
 xI .add t35 (AA 1) λa=>
 YX R N O T t0 t8 t9 t17 t18 t19 t33 t34 a s QR):YU R N O T t0 t8 t9 t17 t18 t19 t33 t34 t35 s QR:=
 pC J0 cF h
theorem AC0 (h :
 xI .add t41 (AA 1) λa=>
 YV R N O T t0 t8 t9 t11 t17 t18 t19 t33 t34 t35 t39 t40 a s QR):nE R N O T t0 t8 t9 t11 t17 t18 t19 t33 t34 t35 t39 t40 t41 s QR:=
 pC J0 cF h
theorem AW6 {L:A8} {Post:AV->AM->Prop} (hn:Bi [t0,t1]=false) (h:AA0 R 0 L.ro L.rt t0 t1 s (QM (L.rr 120) s.bs.length Post)):∃v s',Post v s'/\BD (env R) L 120 [t0,t1] s v s':=
 hM Tryz.func120 hn h
theorem vU (h :
 xC R 144 N O T 166 [t0,t1] s λa b=>
 xI .geq a (AA 0) λc=>
 QR c b):ia R N O T t0 t1 s QR:=
 pC AUG cF h
theorem AW2 {Post:AV->Prop} (hn:Bi [t0,t1]=true) (h:ia R 0 0 0 t0 t1 ⟨[],[]⟩ (QP Post)):AL (env R) 144 [t0,t1] Post:=
 HH (fn:=Tryz.f144) (body:=AUF) Tryz.func144 (by kernel_rfl) (by kernel_rfl) (by kernel_rfl) (C1 (by kernel_rfl)) hn (nC h (by kernel_rfl))
theorem AW3 {L:A8} {Post:AV->AM->Prop} (hn:Bi [t0,t1]=false) (h:ia R 0 L.ro L.rt t0 t1 s (QM (L.rr 144) s.bs.length Post)):∃v s',Post v s'/\BD (env R) L 144 [t0,t1] s v s':=
 hM Tryz.func144 hn h
theorem AKq (h :
 BO s t0 λa=>
 xI .eql a (AA 0) λb=>
 QR b s):AA7 R N O T t0 s QR:=
 pC AUI cF h
theorem AWz {Post:AV->Prop} (hn:Bi [t0]=true) (h:AA7 R 0 0 0 t0 ⟨[],[]⟩ (QP Post)):AL (env R) 145 [t0] Post:=
 HH (fn:=Tryz.f145) (body:=AUH) Tryz.func145 (by kernel_rfl) (by kernel_rfl) (by kernel_rfl) (C1 (by kernel_rfl)) hn (nC h (by kernel_rfl))
theorem vT (h :
 BO s t0 λa=>
 YS R N O T t0 t1 a (AA 0) s QR):ic R N O T t0 t1 s QR:=
 pC dJ cF h
theorem vS (h :
 xI .lss t8 t7 λa=>
 AO a (
 AA9 R N O T t0 t1 t7 t8 a s QR) (
 ABA R N O T  s QR)):YS R N O T t0 t1 t7 t8 s QR:=
 pL dJ cF h
theorem AKs (h :
 Bh s 1 t0 t8 λa=>
 xL R s a λb=>
 E3 (env R) (lf R 166 N O T) t1 [b] s λc d=>
 AO c (
 QR t8 d) (
 ABB R N O T t0 t1 t7 t8 d QR)):AA9 R N O T t0 t1 t7 t8 t9 s QR:=
 pC dJ cF h
theorem AKr (h :
 QR (AA (-1)) s):ABA R N O T  s QR:=
 pC dJ cF h
theorem AKt (h :
 xI .add t8 (AA 1) λa=>
 YS R N O T t0 t1 t7 a s QR):ABB R N O T t0 t1 t7 t8 s QR:=
 pC dJ cF h
theorem AW0 {Post:AV->Prop} (hn:Bi [t0,t1]=true) (h:ic R 0 0 0 t0 t1 ⟨[],[]⟩ (QP Post)):AL (env R) 166 [t0,t1] Post:=
 HH (fn:=Tryz.f166) (body:=qH) Tryz.func166 (by kernel_rfl) (by kernel_rfl) (by kernel_rfl) (C1 (by kernel_rfl)) hn (nC h (by kernel_rfl))
theorem AW1 {L:A8} {Post:AV->AM->Prop} (hn:Bi [t0,t1]=false) (h:ic R 0 L.ro L.rt t0 t1 s (QM (L.rr 166) s.bs.length Post)):∃v s',Post v s'/\BD (env R) L 166 [t0,t1] s v s':=
 hM Tryz.func166 hn h
theorem AQS (h :
 BO s t1 λa=>
 ko R N O T t0 (.AB []) t1 a (AA 0) s QR):AIH R N O T t0 t1 s QR:=
 pC U4 cF h
theorem AFA (h :
 xI .lss t18 t17 λa=>
 AO a (
 AII R N O T t0 t6 t16 t17 t18 a s QR) (
 vn R N O T t0 t6 s QR)):ko R N O T t0 t6 t16 t17 t18 s QR:=
 pL U4 cF h
theorem AQP (h :
 Bh s 4 t16 t18 λa=>
 xM R s 4 a λb=>
 CI s Y4 λc d=>
 CJ (lf R 88 N O T) d 4 c b λe=>
 xM R e 4 c λf=>
 xC R 88 N O T 44 [t0,f] e λg i=>
 DC g 0 λj=>
 DC g 1 λk=>
 Dt k λl=>
 AO l (
 QR (.tuple [(.AB []),(BB false)]) i) (
 AIJ R N O T t0 t6 j t16 t17 t18 i QR)):AII R N O T t0 t6 t16 t17 t18 t19 s QR:=
 pC U4 cF h
theorem AQT (h :
 xC R 88 N O T 120 [t0,t6] s λa b=>
 DC a 0 λc=>
 DC a 1 λd=>
 BO b c λe=>
 bX R N O T d (.AB []) c e (AA 0) b QR):vn R N O T t0 t6 s QR:=
 pC U4 cF h
theorem AQQ (h :
 CV false s 1 [(.AB [])] 1 [(0,1,t9)] λa b=>
(1=1/\1≠0)/\Ct false (lf R 88 N O T) b 23 1 24 t6 a λc d=>
 AIK R N O T t0 c t16 t17 t18 d QR):AIJ R N O T t0 t6 t9 t16 t17 t18 s QR:=
 pC U4 cF h
theorem vk (h :
 xI .lss t43 t42 λa=>
 AO a (
 AIL R N O T t12 t13 t41 t42 t43 a s QR) (
 vh R N O T t12 t13 s QR)):bX R N O T t12 t13 t41 t42 t43 s QR:=
 pL U4 cF h
theorem AQR (h :
 xI .add t18 (AA 1) λa=>
 ko R N O T t0 t6 t16 t17 a s QR):AIK R N O T t0 t6 t16 t17 t18 s QR:=
 pC U4 cF h
theorem AQN (h :
 Bh s 1 t41 t43 λa=>
 xL R s a λb=>
 CU Y4 [(0,1,(AA 3)),(3,1,b)] λc=>
 CV false s 4 Y4 1 [(0,4,c)] λd e=>
(4=4/\4≠0)/\Ct false (lf R 88 N O T) e 25 4 56 t13 d λf g=>
 AIM R N O T t12 f t41 t42 t43 g QR):AIL R N O T t12 t13 t41 t42 t43 t44 s QR:=
 pC U4 cF h
theorem AFC (h :
 QR (.tuple [t13,t12]) s):vh R N O T t12 t13 s QR:=
 pC U4 cF h
theorem AQO (h :
 xI .add t43 (AA 1) λa=>
 bX R N O T t12 t13 t41 t42 a s QR):AIM R N O T t12 t13 t41 t42 t43 s QR:=
 pC U4 cF h
theorem m88 {L:A8} {Post:AV->AM->Prop} (hn:Bi [t0,t1]=false) (h:AIH R 0 L.ro L.rt t0 t1 s (QM (L.rr 88) s.bs.length Post)):∃v s',Post v s'/\BD (env R) L 88 [t0,t1] s v s':=
 hM Tryz.func88 hn h
theorem APh (h :
 Bs s t0 λa b=>
 Bs b t1 λc d=>
 CI d Y4 λe f=>
 xM R f 4 a λg=>
 xC R 89 N O T 121 [g,(AA 0),(.func (.func 122) [] [c])] f λi j=>
 CJ (lf R 89 N O T) j 4 e i λk=>
 xM R k 4 e λl=>
 QR l k):AIN R N O T t0 t1 s QR:=
 pC AZv cF h
theorem e89 {u0 u1:AV} {Post:AV->Prop} (Be:AY [] 0 0 [t0,t1]=some [u0,u1]) (h:AIN R 0 0 0 u0 u1 ⟨[],[]⟩ (QP Post)):AL (env R) 89 [t0,t1] Post:=
 hR Tryz.func89 Be h
theorem AKX (h :
 Bs s t0 λa b=>
 CI b Y4 λc d=>
 xM R d 4 a λe=>
 CI d Y4 λf g=>
 CJ (lf R 121 N O T) g 4 f e λi=>
 A0 i f 3 λj=>
 CJ (lf R 121 N O T) i 1 j (.AB []) λk=>
 xF R k a 0 λm=>
 xI .eql m (AA 5) λn=>
 AO n (
 xF R k a 2 λp=>
 E3 (env R) (lf R 121 N O T) t2 [p,t1] k λq u=>
 DC q 0 λv=>
 DC q 1 λw=>
 aZ u (Q5 v) (some 0) .neq v (.pv (.sc (.pointer none))) λx=>
 AO x (
 DT u v λy=>
 xM R u 4 y λz=>
 xC R 121 N O T 146 [z] u λaa ab=>
 CJ (lf R 121 N O T) ab 4 c aa λac=>
 xM R ac 4 c λad=>
 QR ad ac) (
 YK R N O T t1 t2 a c f w u QR)) (
 Px R N O T t1 t2 a c f k QR)):ABC R N O T t0 t1 t2 s QR:=
 pC UJ cF h
theorem AKZ (h :
 A0 s t7 2 λa=>
 CJ (lf R 121 N O T) s 1 a t9 λb=>
 Px R N O T t1 t2 t3 t6 t7 b QR):YK R N O T t1 t2 t3 t6 t7 t9 s QR:=
 pC UJ cF h
theorem AKY (h :
 xF R s t3 3 λb=>
 BO s b λc=>
 YJ R N O T t1 t2 t3 t6 t7 b c (AA 0) s QR):Px R N O T t1 t2 t3 t6 t7 s QR:=
 pC UJ cF h
theorem u9 (h :
 xI .lss t36 t35 λa=>
 AO a (
 ABD R N O T t1 t2 t3 t6 t7 t34 t35 t36 a s QR) (
 ABE R N O T t6 t7 s QR)):YJ R N O T t1 t2 t3 t6 t7 t34 t35 t36 s QR:=
 pL UJ cF h
theorem AKV (h :
 Bh s 4 t34 t36 λa=>
 xM R s 4 a λb=>
 CI s Y4 λc d=>
 CJ (lf R 121 N O T) d 4 c b λe=>
 A0 e t7 3 λf=>
 xL R e f λg=>
 xM R e 4 c λi=>
 xM R e 4 t3 λj=>
 xC R 121 N O T 119 [j,t36] e λk l=>
 xI .add t1 k λm=>
 xC R 121 N O T 121 [i,m,t2] l λn o=>
 CV false o 4 Y4 1 [(0,4,n)] λp q=>
(4=4/\4≠0)/\Ct false (lf R 121 N O T) o 25 4 56 g p λu w=>
 A0 w t7 3 λx=>
 CJ (lf R 121 N O T) w 1 x u λy=>
(A0 l t7 3 λz=>Bg z f=true) /\
(A0 o t7 3 λaa=>Bg aa f=true) /\
(xL R l f λab=>Bg ab g=true) /\
(xL R o f λac=>Bg ac g=true) /\
(xM R l 4 c λad=>Bg ad i=true) /\
 ABF R N O T t1 t2 t3 t6 t7 t34 t35 t36 y QR):ABD R N O T t1 t2 t3 t6 t7 t34 t35 t36 t37 s QR:=
 pC UJ cF h
theorem AKU (h :
 xM R s 4 t7 λa=>
 CJ (lf R 121 N O T) s 4 t6 a λb=>
 xM R b 4 t6 λc=>
 QR c b):ABE R N O T t6 t7 s QR:=
 pC UJ cF h
theorem AKW (h :
 xI .add t36 (AA 1) λa=>
 YJ R N O T t1 t2 t3 t6 t7 t34 t35 a s QR):ABF R N O T t1 t2 t3 t6 t7 t34 t35 t36 s QR:=
 pC UJ cF h
theorem i121 {Post:AV->Prop} (Be:AY [] 0 0 [t0,t1,t2]=none) (h:ABC R s.bs.length s.bs.length s.ts.length t0 t1 t2 s (QI s.bs.length s.ts.length Post)):∃v,Post v/\∀L,BD (env R) L 121 [t0,t1,t2] s v s:=
 hI Tryz.func121 Be h
theorem AKS (h :
 xI .eql t0 t1 λa=>
 AO a (
 QR (.tuple [t2,(AA 0)]) s) (
 xI .gtr t0 t1 λb=>
 AO b (
 xI .sub t0 (AA 1) λc=>
 QR (.tuple [(.pv (.sc (.pointer none))),c]) s) (
 ABH R N O T t0 s QR))):ABG R N O T t0 t1 t2 s QR:=
 pC AIO cF h
theorem AKT (h :
 QR (.tuple [(.pv (.sc (.pointer none))),t0]) s):ABH R N O T t0 s QR:=
 pC AIO cF h
theorem AWk {L:A8} {Post:AV->AM->Prop} (hn:Bi [t0,t1,t2]=false) (h:ABG R 0 L.ro L.rt t0 t1 t2 s (QM (L.rr 122) s.bs.length Post)):∃v s',Post v s'/\BD (env R) L 122 [t0,t1,t2] s v s':=
 hM Tryz.func122 hn h
theorem AKQ (h :
 Bs s t0 λa b=>
 CI b Y4 λc d=>
 xM R d 4 a λe=>
 CI d Y4 λf g=>
 CJ (lf R 146 N O T) g 4 f e λi=>
 A0 i f 3 λj=>
 CJ (lf R 146 N O T) i 1 j (.AB []) λk=>
 xF R k a 3 λm=>
 BO k m λn=>
 YI R N O T c f m n (AA 0) k QR):ABK R N O T t0 s QR:=
 pC dK cF h
theorem u6 (h :
 xI .lss t11 t10 λa=>
 AO a (
 ABL R N O T t2 t3 t9 t10 t11 a s QR) (
 ABM R N O T t2 t3 s QR)):YI R N O T t2 t3 t9 t10 t11 s QR:=
 pL dK cF h
theorem AKO (h :
 Bh s 4 t9 t11 λa=>
 xM R s 4 a λb=>
 CI s Y4 λc d=>
 CJ (lf R 146 N O T) d 4 c b λe=>
 A0 e t3 3 λf=>
 xL R e f λg=>
 xM R e 4 c λi=>
 xC R 146 N O T 146 [i] e λj k=>
 CV false k 4 Y4 1 [(0,4,j)] λl m=>
(4=4/\4≠0)/\Ct false (lf R 146 N O T) k 25 4 56 g l λn o=>
 A0 o t3 3 λp=>
 CJ (lf R 146 N O T) o 1 p n λq=>
(A0 k t3 3 λu=>Bg u f=true) /\
(xL R k f λw=>Bg w g=true) /\
 ABN R N O T t2 t3 t9 t10 t11 q QR):ABL R N O T t2 t3 t9 t10 t11 t12 s QR:=
 pC dK cF h
theorem AKN (h :
 xM R s 4 t3 λa=>
 CJ (lf R 146 N O T) s 4 t2 a λb=>
 xM R b 4 t2 λc=>
 QR c b):ABM R N O T t2 t3 s QR:=
 pC dK cF h
theorem AKP (h :
 xI .add t11 (AA 1) λa=>
 YI R N O T t2 t3 t9 t10 a s QR):ABN R N O T t2 t3 t9 t10 t11 s QR:=
 pC dK cF h
theorem AWj {u0:AV} {Post:AV->Prop} (Be:AY [] 0 0 [t0]=some [u0]) (h:ABK R 0 0 0 u0 ⟨[],[]⟩ (QP Post)):AL (env R) 146 [t0] Post:=
 hR Tryz.func146 Be h
theorem APa (h :
 CI s Y4 λa b=>
 xC R 90 N O T 123 [t0] b λc d=>
 F9 .add (SS [36]) c λe=>
 CU Y4 [(0,1,(AA 2)),(1,1,e)] λf=>
 CJ (lf R 90 N O T) d 4 a f λg=>
 xM R g 4 a λi=>
 QR i g):AIP R N O T t0 s QR:=
 pC AZw cF h
theorem e90 {u0:AV} {Post:AV->Prop} (Be:AY [] 0 0 [t0]=some [u0]) (h:AIP R 0 0 0 u0 ⟨[],[]⟩ (QP Post)):AL (env R) 90 [t0] Post:=
 hR Tryz.func90 Be h
theorem AEr (h :
 Bs s t0 λa b=>
 xF R b a 0 λd=>
 xI .neq d (AA 2) λe=>
 g1 e false b (A0 b a 1) λg i=>
 g1 e false i (xL R i g) λk l=>
 g1 e false l (Gs k) λn o=>
 g1 e false o (xI .lss n (AA 2)) λq u=>
 A6 e (BB true) q λv=>
 g1 v false u (A0 u a 1) λx y=>
 g1 v false y (xL R y x) λaa ab=>
 g1 v false ab (Lv aa (AA 0)) λad ae=>
 g1 v false ae (CY .u8 .neq ad (.pv (.sc (.int .u8 36)))) λag ah=>
 A6 v (BB true) ag λai=>
 AO ai (
 QR (.tuple [(AA 0),(BB false)]) ah) (
 AIQ R N O T a ah QR)):uz R N O T t0 s QR:=
 pC AUL cF h
theorem APZ (h :
 A0 s t1 1 λa=>
 xL R s a λb=>
 TF (env R) (lf R 92 N O T) s (Ek [(23,b),(22,a),(1,t1)]) (ADx (sn b92 14) 2) λc d=>
 xC R 92 N O T 124 [c] d λe f=>
 DC e 0 λg=>
 DC e 1 λi=>
 TF (env R) (lf R 92 N O T) f (Ek [(29,i),(28,g),(5,i),(4,g),(27,i),(26,g),(21,e),(25,e),(24,c),(23,b),(22,a),(1,t1)]) (ADx (sn b92 30) 2) λj k=>
 QR (.tuple [g,j]) f):AIQ R N O T t1 s QR:=
 pC AUL cF h
theorem e92 {u0:AV} {Post:AV->Prop} (Be:AY [] 0 0 [t0]=some [u0]) (h:uz R 0 0 0 u0 ⟨[],[]⟩ (QP Post)):AL (env R) 92 [t0] Post:=
 hR Tryz.func92 Be h
theorem APp (h :
 BO s t0 λa=>
 kP R N O T t0 t1 a (AA 0) s QR):AIR R N O T t0 t1 s QR:=
 pC ABO cF h
theorem AEw (h :
 xI .lss t8 t7 λa=>
 AO a (
 AIS R N O T t0 t1 t7 t8 a s QR) (
 AIT R N O T  s QR)):kP R N O T t0 t1 t7 t8 s QR:=
 pL ABO cF h
theorem APr (h :
 Bh s 1 t0 t8 λa=>
 xL R s a λb=>
 xI .eql t1 b λc=>
 AO c (
 QR t8 s) (
 AIU R N O T t0 t1 t7 t8 s QR)):AIS R N O T t0 t1 t7 t8 t9 s QR:=
 pC ABO cF h
theorem APq (h :
 QR (AA (-1)) s):AIT R N O T  s QR:=
 pC ABO cF h
theorem APs (h :
 xI .add t8 (AA 1) λa=>
 kP R N O T t0 t1 t7 a s QR):AIU R N O T t0 t1 t7 t8 s QR:=
 pC ABO cF h
theorem e93 {u0 u1:AV} {Post:AV->Prop} (Be:AY [] 0 0 [t0,t1]=some [u0,u1]) (h:AIR R 0 0 0 u0 u1 ⟨[],[]⟩ (QP Post)):AL (env R) 93 [t0,t1] Post:=
 hR Tryz.func93 Be h
theorem APj (h :
 Bs s t0 λa b=>
 CI b Y4 λc d=>
 xM R d 4 a λe=>
 xC R 70 N O T 107 [e,(.AB [])] d λf g=>
 CJ (lf R 70 N O T) g 4 c f λi=>
 xM R i 4 c λj=>
 QR j i):AIV R N O T t0 s QR:=
 pC AZx cF h
theorem e70 {u0:AV} {Post:AV->Prop} (Be:AY [] 0 0 [t0]=some [u0]) (h:AIV R 0 0 0 u0 ⟨[],[]⟩ (QP Post)):AL (env R) 70 [t0] Post:=
 hR Tryz.func70 Be h
theorem AKc (h :
 Bs s t0 λa b=>
 Bs b t1 λc d=>
 CI d Y4 λe f=>
 xM R f 4 a λg=>
 xC R 107 N O T 121 [g,(AA 0),(.func (.func 134) [] [c])] f λi j=>
 CJ (lf R 107 N O T) j 4 e i λk=>
 xM R k 4 e λl=>
 QR l k):ABP R N O T t0 t1 s QR:=
 pC AUO cF h
theorem AWp {u0 u1:AV} {Post:AV->Prop} (Be:AY [] 0 0 [t0,t1]=some [u0,u1]) (h:ABP R 0 0 0 u0 u1 ⟨[],[]⟩ (QP Post)):AL (env R) 107 [t0,t1] Post:=
 hR Tryz.func107 Be h
theorem AKb (h :
 xI .sub t0 t1 λa=>
 xI .geq t0 t1 λb=>
 g0 b true s a λc d=>
 g1 b true d (xL R d t2) λf g=>
 g1 b true g (BO g f) λj k=>
 g1 b true k (xI .lss c j) λm n=>
 A6 b m (BB false) λo=>
 AO o (
 xL R n t2 λp=>
 Bh n 4 p a λq=>
 QR (.tuple [q,(AA 0)]) n) (
 ABR R N O T t0 n QR)):ABQ R N O T t0 t1 t2 s QR:=
 pC AIW cF h
theorem vB (h :
 QR (.tuple [(.pv (.sc (.pointer none))),t0]) s):ABR R N O T t0 s QR:=
 pC AIW cF h
theorem AWo {L:A8} {Post:AV->AM->Prop} (hn:Bi [t0,t1,t2]=false) (h:ABQ R 0 L.ro L.rt t0 t1 t2 s (QM (L.rr 134) s.bs.length Post)):∃v s',Post v s'/\BD (env R) L 134 [t0,t1,t2] s v s':=
 hM Tryz.func134 hn h
theorem APn (h :
 Bs s t0 λa b=>
 CI b [(.AB [])] λc d=>
 CI d [(.pv (.sc .nilFunc))] λe f=>
 CJ (lf R 23 N O T) f 1 e (.func (.func 56) [] [c,e]) λg=>
 xL R g e λi=>
 xG R g a 1 4 λk=>
 E3 (env R) (lf R 23 N O T) i [k] g λl m=>
 xL R m c λn=>
 QR n m):AIX R N O T t0 s QR:=
 pC AZ0 cF h
theorem e23 {u0:AV} {Post:AV->Prop} (Be:AY [] 0 0 [t0]=some [u0]) (h:AIX R 0 0 0 u0 ⟨[],[]⟩ (QP Post)):AL (env R) 23 [t0] Post:=
 hR Tryz.func23 Be h
theorem APm (h :
 Bs s t0 λa b=>
 xF R b a 0 λd=>
 xI .eql d (AA 5) λe=>
 AO e (
 xL R b t1 λf=>
 xF R b a 2 λi=>
 CV false b 1 [(AA 0)] 1 [(0,1,i)] λj k=>
(1=1/\1≠0)/\Ct false (lf R 56 N O T) k 3 1 8 f j λl m=>
 CJ (lf R 56 N O T) m 1 t1 l λn=>
 QR (.tuple []) n) (
 xI .eql d (AA 3) λo=>
 AO o (
 xF R b a 3 λq=>
 BO b q λu=>
 kO R N O T t2 q u (AA 0) b QR) (
 QR (.tuple []) b))):AIY R N O T t0 t1 t2 s QR:=
 pC AD3 cF h
theorem AEv (h :
 xI .lss t20 t19 λa=>
 AO a (
 AIZ R N O T t2 t18 t19 t20 a s QR) (
 QR (.tuple []) s)):kO R N O T t2 t18 t19 t20 s QR:=
 pL AD3 cF h
theorem APk (h :
 Bh s 4 t18 t20 λa=>
 xM R s 4 a λb=>
 CI s Y4 λc d=>
 CJ (lf R 56 N O T) d 4 c b λe=>
 xL R e t2 λf=>
 xM R e 4 c λg=>
 E3 (env R) (lf R 56 N O T) f [g] e λi j=>
 AIa R N O T t2 t18 t19 t20 j QR):AIZ R N O T t2 t18 t19 t20 t21 s QR:=
 pC AD3 cF h
theorem APl (h :
 xI .add t20 (AA 1) λa=>
 kO R N O T t2 t18 t19 a s QR):AIa R N O T t2 t18 t19 t20 s QR:=
 pC AD3 cF h
theorem m56 {L:A8} {Post:AV->AM->Prop} (hn:Bi [t0,t1,t2]=false) (h:AIY R 0 L.ro L.rt t0 t1 t2 s (QM (L.rr 56) s.bs.length Post)):∃v s',Post v s'/\BD (env R) L 56 [t0,t1,t2] s v s':=
 hM Tryz.func56 hn h
theorem AQo (h :
 Bs s t0 λa b=>
 CI b [(.AB [])] λc d=>
 xM R d 4 a λe=>
 xC R 43 N O T 87 [e,(AA 0),c] d λf g=>
 xF R g c 0 λj=>
 QR j g):AIb R N O T t0 s QR:=
 pC AZ1 cF h
theorem e43 {u0:AV} {Post:AV->Prop} (Be:AY [] 0 0 [t0]=some [u0]) (h:AIb R 0 0 0 u0 ⟨[],[]⟩ (QP Post)):AL (env R) 43 [t0] Post:=
 hR Tryz.func43 Be h
theorem AQm (h :
 Bs s t0 λa b=>
 xF R b a 0 λd=>
 xI .eql d (AA 5) λe=>
 g1 e true b (A0 b a 2) λg i=>
 g1 e true i (xL R i g) λk l=>
 g0 e true l t1 λm n=>
 g1 e true n (xI .geq k m) λp q=>
 A6 e p (BB false) λu=>
 AO u (
 xF R q a 2 λw=>
 xI .sub w t1 λx=>
 xC R 87 N O T 118 [t2,x] q λy z=>
 lN R N O T t1 t2 a z QR) (
 lN R N O T t1 t2 a q QR)):wM R N O T t0 t1 t2 s QR:=
 pC ABS cF h
theorem AQn (h :
 xF R s t3 3 λb=>
 BO s b λc=>
 lM R N O T t1 t2 t3 b c (AA 0) s QR):lN R N O T t1 t2 t3 s QR:=
 pC ABS cF h
theorem AFJ (h :
 xI .lss t26 t25 λa=>
 AO a (
 AIc R N O T t1 t2 t3 t24 t25 t26 a s QR) (
 QR (.tuple []) s)):lM R N O T t1 t2 t3 t24 t25 t26 s QR:=
 pL ABS cF h
theorem AQi (h :
 Bh s 4 t24 t26 λa=>
 xM R s 4 a λb=>
 CI s Y4 λc d=>
 CJ (lf R 87 N O T) d 4 c b λe=>
 xM R e 4 c λf=>
 xM R e 4 t3 λg=>
 xC R 87 N O T 119 [g,t26] e λi j=>
 xI .add t1 i λk=>
 xC R 87 N O T 87 [f,k,t2] j λl m=>
(xM R j 4 c λn=>Bg n f=true) /\
 AId R N O T t1 t2 t3 t24 t25 t26 m QR):AIc R N O T t1 t2 t3 t24 t25 t26 t27 s QR:=
 pC ABS cF h
theorem AQl (h :
 xI .add t26 (AA 1) λa=>
 lM R N O T t1 t2 t3 t24 t25 a s QR):AId R N O T t1 t2 t3 t24 t25 t26 s QR:=
 pC ABS cF h
theorem m87 {L:A8} {Post:AV->AM->Prop} (h:wM R L.n0 L.ro L.rt t0 t1 t2 s Post):∃v s',Post v s'/\BD (env R) L 87 [t0,t1,t2] s v s':=
 hE Tryz.func87 h
theorem ALL (h :
 DT s t0 λa=>
 xF R s a 0 λc=>
 xC R 118 N O T 142 [c,t1] s λd e=>
 DC d 0 λf=>
 DC d 1 λg=>
 Dt g λi=>
 AO i (
 DT e t0 λj=>
 xF R e j 0 λl=>
 CV false e 1 [(AA 0)] 1 [(0,1,t1)] λm n=>
 xC R 118 N O T 143 [l,f,m] n λo p=>
 DT p t0 λq=>
 A0 p q 0 λu=>
 CJ (lf R 118 N O T) p 1 u o λv=>
 QR (.tuple []) v) (
 QR (.tuple []) e)):ABT R N O T t0 t1 s QR:=
 pC AUT cF h
theorem AXS {L:A8} {Post:AV->AM->Prop} (h:ABT R L.n0 L.ro L.rt t0 t1 s Post):∃v s',Post v s'/\BD (env R) L 118 [t0,t1] s v s':=
 hE Tryz.func118 h
theorem wG (h :
 BO s t0 λa=>
 Th R N O T t0 t1 a (AA 0) a s QR):ij R N O T t0 t1 s QR:=
 pC nG cF h
theorem gI (h :
 xI .lss t7 t8 λa=>
 AO a (
 ABU R N O T t0 t1 t6 t7 t8 s QR) (
 ABV R N O T t0 t1 t6 t7 s QR)):Th R N O T t0 t1 t6 t7 t8 s QR:=
 pL nG cF h
theorem ALJ (h :
 xI .add t7 t8 λa=>
 MB .u64 a λb=>
 CY .u64 .shr b (.pv (.sc (.int .u64 1))) λc=>
 MB .i64 c λd=>
 Bh s 1 t0 d λe=>
 xL R s e λf=>
 xC R 142 N O T 162 [f,t1] s λg i=>
 AO g (
 xI .add d (AA 1) λj=>
 Th R N O T t0 t1 t6 j t8 i QR) (
 Th R N O T t0 t1 t6 t7 d i QR)):ABU R N O T t0 t1 t6 t7 t8 s QR:=
 pC nG cF h
theorem wE (h :
 xI .lss t7 t6 λa=>
 g0 a true s t0 λb c=>
 g0 a true c t7 λd e=>
 g1 a true e (Bh e 1 b d) λg i=>
 g1 a true i (xL R i g) λk l=>
 g0 a true l t1 λm n=>
 g1 a true n (xI .eql k m) λp q=>
 g0 a true q p λu v=>
 g0 u false v t0 λw x=>
 g0 u false x t7 λy z=>
 g1 u false z (Bh z 1 w y) λab ac=>
 g1 u false ac (xL R ac ab) λae af=>
 I4 u false af (xC R 142 N O T 163 [ae] af) λai aj=>
 g0 u false aj ai λak al=>
 g0 ak true al t1 λam an=>
 I4 ak true an (xC R 142 N O T 163 [am] an) λaq ar=>
 g1 u false ar (A6 ak aq (BB false)) λav aw=>
 g1 a true aw (A6 u (BB true) av) λay az=>
 A6 a ay (BB false) λa0=>
 QR (.tuple [t7,a0]) az):ABV R N O T t0 t1 t6 t7 s QR:=
 pC nG cF h
theorem AXP {u0 u1:AV} {Post:AV->Prop} (Be:AY [] 0 0 [t0,t1]=some [u0,u1]) (h:ij R 0 0 0 u0 u1 ⟨[],[]⟩ (QP Post)):AL (env R) 142 [t0,t1] Post:=
 hR Tryz.func142 Be h
theorem i142 {Post:AV->Prop} (Be:AY [] 0 0 [t0,t1]=none) (h:ij R s.bs.length s.bs.length s.ts.length t0 t1 s (QI s.bs.length s.ts.length Post)):∃v,Post v/\∀L,BD (env R) L 142 [t0,t1] s v s:=
 hI Tryz.func142 Be h
theorem ALI (h :
 xC R 162 N O T 152 [t0] s λa b=>
 g0 a true b t1 λc d=>
 I4 a true d (xC R 162 N O T 152 [c] d) λg i=>
 g1 a true i (Dt g) λk l=>
 A6 a k (BB false) λm=>
 g0 m false l t0 λn o=>
 g0 m false o t1 λp q=>
 g1 m false q (xI .lss n p) λv w=>
 A6 m (BB true) v λx=>
 QR x w):ABW R N O T t0 t1 s QR:=
 pC AUU cF h
theorem AXN {u0 u1:AV} {Post:AV->Prop} (Be:AY [] 0 0 [t0,t1]=some [u0,u1]) (h:ABW R 0 0 0 u0 u1 ⟨[],[]⟩ (QP Post)):AL (env R) 162 [t0,t1] Post:=
 hR Tryz.func162 Be h
end
end Go.Proofs.YtpgfpakdnijngaaGreatDoor
