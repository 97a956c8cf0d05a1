/-
  What the points of some functions' code need: written by a program (wip/tel/GenW.lean.txt).
-/
import Derived.Test.YtpgfpakdnijngaaGreatDoorWx
set_option linter.all false
namespace Go.Proofs.YtpgfpakdnijngaaGreatDoor
open Go.Tel
noncomputable section
section
variable (R:RT) (N O T:Nat) (t0 t1 t2 t3 t4 t5 t6 t7 t8 t9 t10 t11 t12 t13 t14 t15 t16 t17 t18 t19 t20 t21 t23 t24 t25 t26 t27 t31 t32 t33 t34 t35 t36 t37 t38 t39 t40 t41 t42 t43 t44 t45 t46:AV)
noncomputable def b14:Code:=Tryz.f14.body.getD .skip
def ZQ:Nat->List Nat:=ln [[],[1],[1,20],[1],[1,4],[4,5,6],[4,5,30],[4,5],[4,5,7],[4,5,7,8],[4,7,8,31,32,33],[4,7,8,31,32,33,34],[4,7,8,10,31,32,33],[4,7,8,11,31,32,33],[4,7,8,11,31,32,33,42],[4,7,8,11,31,32,33],[4,7,8,31,32,33],[7,8],[7,54],[7]]
abbrev Q14:=Wq R N O T 14 56 [.tmp 2,.tmp 3]
def AGS:=Q14 R N O T (aT b14 1) [(0,t0)]
def AGT:=Q14 R N O T (aT b14 7) [(1,t1)]
def AGU:=Q14 R N O T (aT b14 63) [(4,t4),(5,t5)]
def lg:=Q14 R N O T (aT b14 2042) [(4,t4),(7,t7),(8,t8),(31,t31),(32,t32),(33,t33)]
def AGV:=Q14 R N O T (aT b14 16339) [(4,t4),(7,t7),(8,t8),(31,t31),(32,t32),(33,t33),(34,t34)]
def wD:=Q14 R N O T (aT b14 511) [(7,t7),(8,t8)]
def AGW:=Q14 R N O T (aT b14 522855) [(4,t4),(7,t7),(8,t8),(11,t11),(31,t31),(32,t32),(33,t33)]
def AGX:=Q14 R N O T (aT b14 1023) [(7,t7)]
def AGY:=Q14 R N O T (aT b14 32679) [(4,t4),(7,t7),(8,t8),(31,t31),(32,t32),(33,t33)]
noncomputable def b44:Code:=Tryz.f44.body.getD .skip
def iq:Nat->List Nat:=ln [[],[0,3],[0,3,6],[0,3,6,7],[0,3,6,7,14],[0,3,6,7,14,15],[0,3,6,7,14,15],[],[0,3,6,7,14,20],[0,6,7,23,24,25],[0,6,7,23,24,25,26],[0,6,7,9,23,24,25],[0,6,7,10,11,23,24,25],[0,6,7,23,24,25],[],[0,3,6,7,14,43],[],[0,3,6,7,52],[0,3,12],[0,3,12],[0,6,7,12],[0,6,7,12,85],[0,6,7],[6,103],[6]]
abbrev Q44:=Wq R N O T 44 105 [.tmp 4,.tmp 5]
def cI:=Q44 R N O T (aT b44 1) [(0,t0),(1,t1)]
def lJ:=Q44 R N O T (aT b44 245) [(0,t0),(3,t3),(6,t6),(7,t7),(14,t14),(15,t15)]
def NQ:=Q44 R N O T (aT b44 31) [(0,t0),(6,t6),(7,t7)]
def lH:=Q44 R N O T (aT b44 7866) [(0,t0),(6,t6),(7,t7),(23,t23),(24,t24),(25,t25)]
def AGZ:=Q44 R N O T (aT b44 63) [(6,t6)]
def AGa:=Q44 R N O T (aT b44 62931) [(0,t0),(6,t6),(7,t7),(23,t23),(24,t24),(25,t25),(26,t26)]
def lI:=Q44 R N O T (aT b44 125863) [(0,t0),(6,t6),(7,t7),(23,t23),(24,t24),(25,t25)]
noncomputable def b45:Code:=Tryz.f45.body.getD .skip
def z6:Nat->List Nat:=ln [[],[2,3,4],[2,3,4,5],[2,3,4,5,6],[2,3,4,5,6],[2,4,5,7],[2,4,7,15,16,17],[2,4,7,15,16,17,18],[2,4,7,9,15,16,17],[2,4,7,15,16,17],[4,7]]
abbrev Q45:=Wq R N O T 45 36 [.cell 4 45]
def AGb:=Q45 R N O T (aT b45 1) [(0,t0),(1,t1)]
def bW:=Q45 R N O T (aT b45 506) [(2,t2),(4,t4),(7,t7),(15,t15),(16,t16),(17,t17)]
def AGc:=Q45 R N O T (aT b45 4051) [(2,t2),(4,t4),(7,t7),(15,t15),(16,t16),(17,t17),(18,t18)]
def AGd:=Q45 R N O T (aT b45 127) [(4,t4),(7,t7)]
def AGe:=Q45 R N O T (aT b45 8103) [(2,t2),(4,t4),(7,t7),(15,t15),(16,t16),(17,t17)]
noncomputable def b91:Code:=Tryz.f91.body.getD .skip
def ir:Nat->List Nat:=ln [[],[1,2,3,4,5],ra 7 1 [],[2,3,4,5,6,26],[2,5,6,8],[2,5,6,8,31],[5,8],[3,4,5],[3,4,5,9],[3,4,5,9],[3,5,9,43,44,45],[3,5,9,43,44,45,46],[3,5,9,11,43,44,45],[3,5,9,43,44,45],[5,9]]
abbrev Q91:=Wq R N O T 91 59 [.cell 5 25]
def AGf:=Q91 R N O T (aT b91 1) [(0,t0),(1,t1),(2,t2),(3,t3)]
def kZ:=Q91 R N O T (aT b91 219) [(5,t5),(8,t8)]
def AGg:=Q91 R N O T (aT b91 7) [(3,t3),(4,t4),(5,t5)]
def kX:=Q91 R N O T (aT b91 250) [(3,t3),(5,t5),(9,t9),(43,t43),(44,t44),(45,t45)]
def AGh:=Q91 R N O T (aT b91 2003) [(3,t3),(5,t5),(9,t9),(43,t43),(44,t44),(45,t45),(46,t46)]
def AGi:=Q91 R N O T (aT b91 63) [(5,t5),(9,t9)]
def AGj:=Q91 R N O T (aT b91 4007) [(3,t3),(5,t5),(9,t9),(43,t43),(44,t44),(45,t45)]
noncomputable def b46:Code:=Tryz.f46.body.getD .skip
def AXq:Nat->List Nat:=ln [[],[1]]
abbrev Q46:=Wq R N O T 46 13 [.tmp 2]
def AGk:=Q46 R N O T (aT b46 1) [(0,t0)]
noncomputable def b47:Code:=Tryz.f47.body.getD .skip
def qA:Nat->List Nat:=ln ([]::[0]::[0,3]::[3,8,9,10]::[3,8,9,10,11]::rp 3 [3,5,8,9,10] [[3,6,7,8,9,10],[3,8,9,10,32],[3,8,9,10],[]])
abbrev Q47:=Wq R N O T 47 34 [.tmp 2]
def AGl:=Q47 R N O T (aT b47 1) [(0,t0)]
def ld:=Q47 R N O T (aT b47 58) [(3,t3),(8,t8),(9,t9),(10,t10)]
def AGm:=Q47 R N O T (aT b47 467) [(3,t3),(8,t8),(9,t9),(10,t10),(11,t11)]
def AGn:=Q47 R N O T (aT b47 15) []
def z7:=Q47 R N O T (aT b47 935) [(3,t3),(8,t8),(9,t9),(10,t10)]
def AGo:=Q47 R N O T (aT b47 7475) [(3,t3),(5,t5),(8,t8),(9,t9),(10,t10)]
noncomputable def b95:Code:=Tryz.f95.body.getD .skip
def AXr:Nat->List Nat:=ln [[],[1,2]]
abbrev Q95:=Wq R N O T 95 7 [.tmp 3]
def AGp:=Q95 R N O T (aT b95 1) [(0,t0),(1,t1)]
noncomputable def b62:Code:=Tryz.f62.body.getD .skip
def ASR:Nat->List Nat:=ln [[],[3,4,5],[3,4,5,7,8],[3,4,5,7,14],[3,4,5]]
abbrev Q62:=Wq R N O T 62 26 [.tmp 6]
def AGq:=Q62 R N O T (aT b62 1) [(0,t0),(1,t1),(2,t2)]
def AGr:=Q62 R N O T (aT b62 7) [(3,t3),(4,t4),(5,t5)]
noncomputable def AXs:Code:=Tryz.f103.body.getD .skip
def ASS:Nat->List Nat:=ln [[],[1,2,3,4]]
abbrev AXt:=Wq R N O T 103 15 [.tmp 5]
def z8:=AXt R N O T (aT AXs 1) [(0,t0),(1,t1),(2,t2),(3,t3)]
noncomputable def b59:Code:=Tryz.f59.body.getD .skip
def dY:Nat->List Nat:=ln [[],[1,2,4,7,8],[1,2,4,7,8,9,10],[1,2,4,7,8,9,19],[1,4,7,8,22],[1,4,7,8],[4,7,8,31],[4,8],[1,2,4,7,8],[1,2,4,7,8,36],[1,2,4,7,8],[1,2,4,7,8,11],[1,2,4,7,8,11],[1,2,7,8,11,41,42,43],[1,2,7,8,11,41,42,43,44],[1,2,7,8,11,13,41,42,43],[1,2,7,8,11,41,42,43],[8,11]]
abbrev Q59:=Wq R N O T 59 59 [.cell 8 25]
def vG:=Q59 R N O T (aT b59 1) [(0,t0),(1,t1),(2,t2),(3,t3)]
def WL:=Q59 R N O T (aT b59 109) [(4,t4),(8,t8)]
def vF:=Q59 R N O T (aT b59 7) [(1,t1),(2,t2),(4,t4),(7,t7),(8,t8)]
def AGu:=Q59 R N O T (aT b59 15) [(1,t1),(2,t2),(4,t4),(7,t7),(8,t8)]
def ko:=Q59 R N O T (aT b59 506) [(1,t1),(2,t2),(7,t7),(8,t8),(11,t11),(41,t41),(42,t42),(43,t43)]
def AGv:=Q59 R N O T (aT b59 4051) [(1,t1),(2,t2),(7,t7),(8,t8),(11,t11),(41,t41),(42,t42),(43,t43),(44,t44)]
def AGw:=Q59 R N O T (aT b59 127) [(8,t8),(11,t11)]
def AGx:=Q59 R N O T (aT b59 8103) [(1,t1),(2,t2),(7,t7),(8,t8),(11,t11),(41,t41),(42,t42),(43,t43)]
noncomputable def iu:Code:=Tryz.f114.body.getD .skip
def UT:Nat->List Nat:=ln [[],[0,4,5],[0,4,5,19],[0,4,5],[0,4,5,8,9],[0,4,5,8,35],[0,4,5,8],[0,4,5,8,10],[0,4,5,10,36,37,38],[0,4,5,10,36,37,38,39],[0,4,5,10,12,36,37,38],[0,4,5,10,12,13,36,37,38],[0,4,5,10,14,15,36,37,38],[0,4,5,10,15,36,37,38],[0,4,5,10,36,37,38,65],[0,4,5,10,36,37,38],[10]]
abbrev iw:=Wq R N O T 114 68 [.tmp 6,.tmp 7]
def AAA:=iw R N O T (aT iu 1) [(0,t0),(1,t1),(2,t2)]
def AAB:=iw R N O T (aT iu 7) [(0,t0),(4,t4),(5,t5)]
def AAC:=iw R N O T (aT iu 31) [(0,t0),(4,t4),(5,t5),(8,t8)]
def Yl:=iw R N O T (aT iu 506) [(0,t0),(4,t4),(5,t5),(10,t10),(36,t36),(37,t37),(38,t38)]
def AAD:=iw R N O T (aT iu 4051) [(0,t0),(4,t4),(5,t5),(10,t10),(36,t36),(37,t37),(38,t38),(39,t39)]
def AAE:=iw R N O T (aT iu 127) [(10,t10)]
def AAF:=iw R N O T (aT iu 8103) [(0,t0),(4,t4),(5,t5),(10,t10),(36,t36),(37,t37),(38,t38)]
noncomputable def AXu:Code:=Tryz.f137.body.getD .skip
def AST:Nat->List Nat:=ln [[],[0,1]]
abbrev AXv:=Wq R N O T 137 7 [.tmp 3]
def AAG:=AXv R N O T (aT AXu 1) [(0,t0),(1,t1)]
noncomputable def b81:Code:=Tryz.f81.body.getD .skip
def qB:Nat->List Nat:=ln [[],[0,1,2],[0,1,2,8],[0,2,8,13,14,15],[0,2,8,13,14,15,16],[0,2,8,10,13,14,15],0::2::8::ra 6 10 [],0::2::8::ra 6 10 [24],[0,2,8,11,12,13,14,15],[0,2,8,12,13,14,15],[0,2,8,13,14,15,45],[0,2,8,13,14,15],[8]]
abbrev Q81:=Wq R N O T 81 48 [.tmp 6,.tmp 7]
def AGy:=Q81 R N O T (aT b81 1) [(0,t0),(1,t1),(2,t2)]
def kz:=Q81 R N O T (aT b81 58) [(0,t0),(2,t2),(8,t8),(13,t13),(14,t14),(15,t15)]
def AGz:=Q81 R N O T (aT b81 467) [(0,t0),(2,t2),(8,t8),(13,t13),(14,t14),(15,t15),(16,t16)]
def AG0:=Q81 R N O T (aT b81 15) [(8,t8)]
def lB:=Q81 R N O T (aT b81 14951) [(0,t0),(2,t2),(8,t8),(11,t11),(12,t12),(13,t13),(14,t14),(15,t15)]
def AG1:=Q81 R N O T (aT b81 935) [(0,t0),(2,t2),(8,t8),(13,t13),(14,t14),(15,t15)]
noncomputable def PO:Code:=Tryz.f120.body.getD .skip
def Ju:Nat->List Nat:=ln [[],[0,1],[0,1,15],[0,1],[0,1,6],[0,6,17,18,19],[0,6,17,18,19,20],[0,6,8,17,18,19],[0,6,8,17,18,19,32],[0,6,8,17,18,19],[0,6,8,9,17,18,19],[0,8,9,17,18,19,33,34,35],[0,8,9,17,18,19,33,34,35,36],[0,8,9,11,17,18,19,33,34,35],[0,8,9,11,17,18,19,33,34,35,39,40,41],[0,8,9,11,17,18,19,33,34,35,39,40,41,42],[0,8,9,11,13,17,18,19,33,34,35,39,40,41],[0,8,9,11,17,18,19,33,34,35,39,40,41],[0,8,9,17,18,19,33,34,35],[0,9,17,18,19],[0,6,17,18,19],[6]]
abbrev PR:=Wq R N O T 120 58 [.tmp 4,.tmp 5]
def AAH:=PR R N O T (aT PO 1) [(0,t0),(1,t1)]
def AAI:=PR R N O T (aT PO 7) [(0,t0),(1,t1)]
def Yu:=PR R N O T (aT PO 122) [(0,t0),(6,t6),(17,t17),(18,t18),(19,t19)]
def AAJ:=PR R N O T (aT PO 979) [(0,t0),(6,t6),(17,t17),(18,t18),(19,t19),(20,t20)]
def AAK:=PR R N O T (aT PO 31) [(6,t6)]
def AAL:=PR R N O T (aT PO 15667) [(0,t0),(6,t6),(8,t8),(17,t17),(18,t18),(19,t19)]
def Yt:=PR R N O T (aT PO 250682) [(0,t0),(8,t8),(9,t9),(17,t17),(18,t18),(19,t19),(33,t33),(34,t34),(35,t35)]
def AAM:=PR R N O T (aT PO 2005459) [(0,t0),(8,t8),(9,t9),(17,t17),(18,t18),(19,t19),(33,t33),(34,t34),(35,t35),(36,t36)]
def AAN:=PR R N O T (aT PO 62671) [(0,t0),(9,t9),(17,t17),(18,t18),(19,t19)]
def Yq:=PR R N O T (aT PO 64174694) [(0,t0),(8,t8),(9,t9),(11,t11),(17,t17),(18,t18),(19,t19),(33,t33),(34,t34),(35,t35),(39,t39),(40,t40),(41,t41)]
def Ys:=PR R N O T (aT PO 1959) [(0,t0),(6,t6),(17,t17),(18,t18),(19,t19)]
def nQ:=PR R N O T (aT PO 513397555) [(0,t0),(8,t8),(9,t9),(11,t11),(17,t17),(18,t18),(19,t19),(33,t33),(34,t34),(35,t35),(39,t39),(40,t40),(41,t41),(42,t42)]
def Yp:=PR R N O T (aT PO 4010919) [(0,t0),(8,t8),(9,t9),(17,t17),(18,t18),(19,t19),(33,t33),(34,t34),(35,t35)]
def nR:=PR R N O T (aT PO 1026795111) [(0,t0),(8,t8),(9,t9),(11,t11),(17,t17),(18,t18),(19,t19),(33,t33),(34,t34),(35,t35),(39,t39),(40,t40),(41,t41)]
noncomputable def ASU:Code:=Tryz.f144.body.getD .skip
def ASV:Nat->List Nat:=ln [[],[0,1]]
abbrev AXw:=Wq R N O T 144 9 [.tmp 4]
def iy:=AXw R N O T (aT ASU 1) [(0,t0),(1,t1)]
noncomputable def ASW:Code:=Tryz.f145.body.getD .skip
def ASX:Nat->List Nat:=ln [[],[0]]
abbrev AXx:=Wq R N O T 145 6 [.tmp 2]
def AAO:=AXx R N O T (aT ASW 1) [(0,t0)]
noncomputable def qC:Code:=Tryz.f166.body.getD .skip
def dZ:Nat->List Nat:=ln [[],[0,1],[0,1,7,8],[0,1,7,8,9],[0,1,5,7,8],[0,1,5,7,8,16],[0,1,7,8],[]]
abbrev AAP:=Wq R N O T 166 19 [.tmp 4]
def iz:=AAP R N O T (aT qC 1) [(0,t0),(1,t1)]
def Yn:=AAP R N O T (aT qC 26) [(0,t0),(1,t1),(7,t7),(8,t8)]
def AAQ:=AAP R N O T (aT qC 211) [(0,t0),(1,t1),(7,t7),(8,t8),(9,t9)]
def AAR:=AAP R N O T (aT qC 7) []
def AAS:=AAP R N O T (aT qC 423) [(0,t0),(1,t1),(7,t7),(8,t8)]
noncomputable def b88:Code:=Tryz.f88.body.getD .skip
def VN:Nat->List Nat:=ln [[],[0,1],[0,1,6],[0,6,16,17,18],[0,6,16,17,18,19],[0,6,8,16,17,18],[0,6,9,10,16,17,18],[0,6,9,16,17,18,29],[0,6,9,16,17,18],[0,6,16,17,18],[0,6],[11,12],[11,12,13],[12,13,41,42,43],[12,13,41,42,43,44],[12,13,15,41,42,43],[12,13,41,42,43],[12,13]]
abbrev Q88:=Wq R N O T 88 55 [.tmp 4,.tmp 5]
def AG2:=Q88 R N O T (aT b88 1) [(0,t0),(1,t1)]
def lG:=Q88 R N O T (aT b88 58) [(0,t0),(6,t6),(16,t16),(17,t17),(18,t18)]
def AG3:=Q88 R N O T (aT b88 467) [(0,t0),(6,t6),(16,t16),(17,t17),(18,t18),(19,t19)]
def vW:=Q88 R N O T (aT b88 15) [(0,t0),(6,t6)]
def AG4:=Q88 R N O T (aT b88 14951) [(0,t0),(6,t6),(9,t9),(16,t16),(17,t17),(18,t18)]
def cG:=Q88 R N O T (aT b88 506) [(12,t12),(13,t13),(41,t41),(42,t42),(43,t43)]
def AG5:=Q88 R N O T (aT b88 935) [(0,t0),(6,t6),(16,t16),(17,t17),(18,t18)]
def AG6:=Q88 R N O T (aT b88 4051) [(12,t12),(13,t13),(41,t41),(42,t42),(43,t43),(44,t44)]
def vU:=Q88 R N O T (aT b88 127) [(12,t12),(13,t13)]
def AG7:=Q88 R N O T (aT b88 8103) [(12,t12),(13,t13),(41,t41),(42,t42),(43,t43)]
noncomputable def b89:Code:=Tryz.f89.body.getD .skip
def AXy:Nat->List Nat:=ln [[],[2,3,4]]
abbrev Q89:=Wq R N O T 89 8 [.cell 4 25]
def AG8:=Q89 R N O T (aT b89 1) [(0,t0),(1,t1)]
noncomputable def jA:Code:=Tryz.f121.body.getD .skip
def UU:Nat->List Nat:=ln [[],[1,2,3,6],[1,2,3,6,7],[1,2,3,6,7],[1,2,3,6,7,16],[1,2,3,6,7,8,9],[1,2,3,6,7,8,9,26],[1,2,3,6,7,9],[1,2,3,6,7],[1,2,3,6,7,34,35,36],[1,2,3,6,7,34,35,36,37],[1,2,3,6,7,10,11,34,35,36],[1,2,3,6,7,34,35,36],[6,7]]
abbrev jB:=Wq R N O T 121 56 [.cell 6 25]
def AAT:=jB R N O T (aT jA 1) [(0,t0),(1,t1),(2,t2)]
def Yc:=jB R N O T (aT jA 491) [(1,t1),(2,t2),(3,t3),(6,t6),(7,t7),(9,t9)]
def QD:=jB R N O T (aT jA 31) [(1,t1),(2,t2),(3,t3),(6,t6),(7,t7)]
def Yb:=jB R N O T (aT jA 250) [(1,t1),(2,t2),(3,t3),(6,t6),(7,t7),(34,t34),(35,t35),(36,t36)]
def AAU:=jB R N O T (aT jA 2003) [(1,t1),(2,t2),(3,t3),(6,t6),(7,t7),(34,t34),(35,t35),(36,t36),(37,t37)]
def AAV:=jB R N O T (aT jA 63) [(6,t6),(7,t7)]
def AAW:=jB R N O T (aT jA 4007) [(1,t1),(2,t2),(3,t3),(6,t6),(7,t7),(34,t34),(35,t35),(36,t36)]
noncomputable def ASY:Code:=Tryz.f122.body.getD .skip
def AG9:Nat->List Nat:=ln [[],[0,1,2],[0,1,2,7],[],[0,11],[0]]
abbrev ASZ:=Wq R N O T 122 18 [.tmp 5,.tmp 6]
def AAX:=ASZ R N O T (aT ASY 1) [(0,t0),(1,t1),(2,t2)]
def AAY:=ASZ R N O T (aT ASY 7) [(0,t0)]
noncomputable def AAZ:Code:=Tryz.f146.body.getD .skip
def dh:Nat->List Nat:=ln [[],[1,2],[1,2,3],[1,2,3],[2,3,9,10,11],[2,3,9,10,11,12],[2,3,5,9,10,11],[2,3,9,10,11],[2,3]]
abbrev AAa:=Wq R N O T 146 24 [.cell 2 25]
def AAb:=AAa R N O T (aT AAZ 1) [(0,t0)]
def Ya:=AAa R N O T (aT AAZ 122) [(2,t2),(3,t3),(9,t9),(10,t10),(11,t11)]
def AAc:=AAa R N O T (aT AAZ 979) [(2,t2),(3,t3),(9,t9),(10,t10),(11,t11),(12,t12)]
def AAd:=AAa R N O T (aT AAZ 31) [(2,t2),(3,t3)]
def AAe:=AAa R N O T (aT AAZ 1959) [(2,t2),(3,t3),(9,t9),(10,t10),(11,t11)]
noncomputable def b90:Code:=Tryz.f90.body.getD .skip
def AXz:Nat->List Nat:=ln [[],[0,2]]
abbrev Q90:=Wq R N O T 90 7 [.cell 2 25]
def AHA:=Q90 R N O T (aT b90 1) [(0,t0)]
noncomputable def b92:Code:=Tryz.f92.body.getD .skip
def ASa:Nat->List Nat:=ln [[],[1],[1,20],[1],[4,5]]
abbrev Q92:=Wq R N O T 92 31 [.tmp 2,.tmp 3]
def uo:=Q92 R N O T (aT b92 1) [(0,t0)]
def AHB:=Q92 R N O T (aT b92 7) [(1,t1)]
noncomputable def b93:Code:=Tryz.f93.body.getD .skip
def AAf:Nat->List Nat:=ln [[],[0,1],[0,1,7,8],[0,1,7,8,9],[0,1,5,7,8],[0,1,5,7,8,16],[0,1,7,8],[]]
abbrev Q93:=Wq R N O T 93 19 [.tmp 4]
def AHC:=Q93 R N O T (aT b93 1) [(0,t0),(1,t1)]
def kV:=Q93 R N O T (aT b93 26) [(0,t0),(1,t1),(7,t7),(8,t8)]
def AHD:=Q93 R N O T (aT b93 211) [(0,t0),(1,t1),(7,t7),(8,t8),(9,t9)]
def AHE:=Q93 R N O T (aT b93 7) []
def AHF:=Q93 R N O T (aT b93 423) [(0,t0),(1,t1),(7,t7),(8,t8)]
noncomputable def b70:Code:=Tryz.f70.body.getD .skip
def AX0:Nat->List Nat:=ln [[],[1,2]]
abbrev Q70:=Wq R N O T 70 5 [.cell 2 25]
def AHG:=Q70 R N O T (aT b70 1) [(0,t0)]
noncomputable def AX1:Code:=Tryz.f107.body.getD .skip
def ASd:Nat->List Nat:=ln [[],[2,3,4]]
abbrev AX2:=Wq R N O T 107 8 [.cell 4 25]
def AAg:=AX2 R N O T (aT AX1 1) [(0,t0),(1,t1)]
noncomputable def ASe:Code:=Tryz.f134.body.getD .skip
def AHH:Nat->List Nat:=ln [[],[0,1,2],[0,1,2,7],[0,2,7,19],[0]]
abbrev ASf:=Wq R N O T 134 24 [.tmp 5,.tmp 6]
def AAh:=ASf R N O T (aT ASe 1) [(0,t0),(1,t1),(2,t2)]
def AAi:=ASf R N O T (aT ASe 7) [(0,t0)]
noncomputable def b23:Code:=Tryz.f23.body.getD .skip
def AX3:Nat->List Nat:=ln [[],[1],[1,3],[1,3,4],[1,3,4],[3]]
abbrev Q23:=Wq R N O T 23 11 [.tmp 2]
def AHI:=Q23 R N O T (aT b23 1) [(0,t0)]
noncomputable def b56:Code:=Tryz.f56.body.getD .skip
def ADG:Nat->List Nat:=ln [[],[1,2,3],[1,2,3,7],[1,2,3,7,8],[],[2,3,15],[2,18,19,20],[2,18,19,20,21],[2,5,18,19,20],[2,18,19,20]]
abbrev Q56:=Wq R N O T 56 28 []
def AHJ:=Q56 R N O T (aT b56 1) [(0,t0),(1,t1),(2,t2)]
def kU:=Q56 R N O T (aT b56 954) [(2,t2),(18,t18),(19,t19),(20,t20)]
def AHK:=Q56 R N O T (aT b56 7635) [(2,t2),(18,t18),(19,t19),(20,t20),(21,t21)]
def AHL:=Q56 R N O T (aT b56 15271) [(2,t2),(18,t18),(19,t19),(20,t20)]
noncomputable def b43:Code:=Tryz.f43.body.getD .skip
def AX4:Nat->List Nat:=ln [[],[1],[1,3],[3]]
abbrev Q43:=Wq R N O T 43 8 [.tmp 2]
def AHM:=Q43 R N O T (aT b43 1) [(0,t0)]
noncomputable def b87:Code:=Tryz.f87.body.getD .skip
def AAj:Nat->List Nat:=ln [[],[1,2,3],[1,2,3,16],[1,2,3],[1,2,3,24,25,26],[1,2,3,24,25,26,27],[1,2,3,6,7,24,25,26],[1,2,3,24,25,26]]
abbrev Q87:=Wq R N O T 87 40 []
def wA:=Q87 R N O T (aT b87 1) [(0,t0),(1,t1),(2,t2)]
def lX:=Q87 R N O T (aT b87 7) [(1,t1),(2,t2),(3,t3)]
def lW:=Q87 R N O T (aT b87 30) [(1,t1),(2,t2),(3,t3),(24,t24),(25,t25),(26,t26)]
def AHN:=Q87 R N O T (aT b87 243) [(1,t1),(2,t2),(3,t3),(24,t24),(25,t25),(26,t26),(27,t27)]
def AHO:=Q87 R N O T (aT b87 487) [(1,t1),(2,t2),(3,t3),(24,t24),(25,t25),(26,t26)]
noncomputable def AX5:Code:=Tryz.f118.body.getD .skip
def ASi:Nat->List Nat:=ln [[],[0,1,4,5],[0,1,4,16]]
abbrev AX6:=Wq R N O T 118 28 []
def AAk:=AX6 R N O T (aT AX5 1) [(0,t0),(1,t1)]
noncomputable def ADH:Code:=Tryz.f142.body.getD .skip
def nS:Nat->List Nat:=ln [[],[0,1],[0,1,6],[0,1,6,7,8],[0,1,6,7,8],[0,1,6,7,8,9],[0,1,6,7,8,9,27],[],[0,1,6,7]]
abbrev ADI:=Wq R N O T 142 54 [.tmp 4,.tmp 5]
def jC:=ADI R N O T (aT ADH 1) [(0,t0),(1,t1)]
def Tv:=ADI R N O T (aT ADH 60) [(0,t0),(1,t1),(6,t6),(7,t7),(8,t8)]
def AAl:=ADI R N O T (aT ADH 241) [(0,t0),(1,t1),(6,t6),(7,t7),(8,t8)]
def AAm:=ADI R N O T (aT ADH 31) [(0,t0),(1,t1),(6,t6),(7,t7)]
noncomputable def AX7:Code:=Tryz.f162.body.getD .skip
def ASj:Nat->List Nat:=ln [[],[0,1]]
abbrev AX8:=Wq R N O T 162 17 [.tmp 4]
def AAn:=AX8 R N O T (aT AX7 1) [(0,t0),(1,t1)]
end
variable {R:RT} {N O T:Nat} {s:AM} {QR:QT} {t0 t1 t2 t3 t4 t5 t6 t7 t8 t9 t10 t11 t12 t13 t14 t15 t16 t17 t18 t19 t20 t21 t23 t24 t25 t26 t27 t31 t32 t33 t34 t35 t36 t37 t38 t39 t40 t41 t42 t43 t44 t45 t46:AV}
theorem APR (h :
 B6 s t0 λa b=>
 xM R b 4 a λc=>
 xC R 14 N O T 42 [c] b λd e=>
 xI .neq d (AA 0) λf=>
 g1 f false e (xM R e 4 a) λi j=>
 Hs f false j (xC R 14 N O T 43 [i] j) λm n=>
 g1 f false n (BV n m) λp q=>
 g1 f false q (xI .gtr p (AA 0)) λv w=>
 Ay f (BB true) v λx=>
 AO x (
 QR (.tuple [(.AB []),(AA 2)]) w) (
 AGT R N O T a w QR)):AGS R N O T t0 s QR:=
 pC ZQ cF h
theorem APT (h :
 C1 [(.AB []),(AA 0)] [(1,1,(AA 32))] λa=>
 B6 s a λb c=>
 xM R c 4 t1 λd=>
 xC R 14 N O T 44 [b,d] c λe f=>
 DC e 0 λg=>
 DC e 1 λi=>
 DY i λj=>
 AO j (
 QR (.tuple [(.AB []),(AA 4)]) f) (
 AGU R N O T b g f QR)):AGT R N O T t1 s QR:=
 pC ZQ cF h
theorem APU (h :
 BV s t5 λa=>
 lg R N O T t4 (.AB []) (.AB []) t5 a (AA 0) s QR):AGU R N O T t4 t5 s QR:=
 pC ZQ cF h
theorem AEX (h :
 xI .lss t33 t32 λa=>
 AO a (
 AGV R N O T t4 t7 t8 t31 t32 t33 a s QR) (
 wD R N O T t7 t8 s QR)):lg R N O T t4 t7 t8 t31 t32 t33 s QR:=
 pL ZQ cF h
theorem APN (h :
 Cl s 4 t31 t33 λa=>
 xM R s 4 a λb=>
 Bw s Y4 λc d=>
 CR (lf R 14 N O T) d 4 c b λe=>
 xM R e 4 c λf=>
 xC R 14 N O T 45 [t4,f] e λg i=>
 Bw i Y5 λj k=>
 CR (lf R 14 N O T) k 5 j g λl=>
 xM R l 5 j λm=>
 xC R 14 N O T 46 [m] l λn o=>
 DY n λp=>
 AO p (
 QR (.tuple [(.AB []),(AA 4)]) o) (
 AGW R N O T t4 t7 t8 j t31 t32 t33 o QR)):AGV R N O T t4 t7 t8 t31 t32 t33 t34 s QR:=
 pC ZQ cF h
theorem APV (h :
 xC R 14 N O T 47 [t8] s λa b=>
 DY a λc=>
 AO c (
 QR (.tuple [(.AB []),(AA 4)]) b) (
 AGX R N O T t7 b QR)):wD R N O T t7 t8 s QR:=
 pC ZQ cF h
theorem APO (h :
 xM R s 5 t11 λa=>
 Dc true s 5 Y5 1 [(0,5,a)] λb c=>
(5=5/\5≠0)/\EL true (lf R 14 N O T) c 45 5 80 t7 b λd e=>
 BD e t11 0 λf=>
 xL R e f λg=>
(4=4/\4≠0)/\EL false (lf R 14 N O T) e 25 4 56 t8 g λi j=>
(BD s t11 0 λk=>CQ k f=true) /\
(BD c t11 0 λl=>CQ l f=true) /\
(xL R s f λm=>CQ m g=true) /\
(xL R c f λn=>CQ n g=true) /\
 AGY R N O T t4 d i t31 t32 t33 j QR):AGW R N O T t4 t7 t8 t11 t31 t32 t33 s QR:=
 pC ZQ cF h
theorem APW (h :
 QR (.tuple [t7,(AA 0)]) s):AGX R N O T t7 s QR:=
 pC ZQ cF h
theorem APQ (h :
 xI .add t33 (AA 1) λa=>
 lg R N O T t4 t7 t8 t31 t32 a s QR):AGY R N O T t4 t7 t8 t31 t32 t33 s QR:=
 pC ZQ cF h
theorem m14 {L:A3} {Post:AV->AM->Prop} (h:AGS R L.n0 L.ro L.rt t0 s Post):∃v s',Post v s'/\A8 (env R) L 14 [t0] s v s':=
 hE Tryz.func14 h
theorem AOx (h :
 B6 s t1 λa b=>
 xF R b a 0 λd=>
 xI .eql d (AA 0) λe=>
 AO e (
 lJ R N O T t0 a (.AB []) (BB true) d e b QR) (
 xI .eql d (AA 2) λf=>
 lJ R N O T t0 a (.AB []) (BB true) d f b QR)):cI R N O T t0 t1 s QR:=
 pC iq cF h
theorem cJ (h :
 AO t15 (
 xM R s 4 t3 λa=>
 Dc false s 4 Y4 1 [(0,4,a)] λb c=>
 NQ R N O T t0 b t7 c QR) (
 xI .eql t14 (AA 4) λd=>
 AO d (
 xF R s t3 3 λf=>
 BV s f λg=>
 lH R N O T t0 t6 t7 f g (AA 0) s QR) (
 xI .eql t14 (AA 3) λi=>
 AO i (
 xF R s t3 3 λk=>
 xC R 44 N O T 88 [t0,k] s λl m=>
 DC l 0 λn=>
 DC l 1 λo=>
 NQ R N O T t0 n o m QR) (
 xI .eql t14 (AA 6) λp=>
 AO p (
 D0 s t0 λq=>
 xF R s q 0 λw=>
 BV s w λx=>
 D0 s t0 λy=>
 xF R s y 0 λaa=>
 xF R s t3 3 λac=>
 Cl s 4 ac (AA 0) λad=>
 xM R s 4 ad λae=>
 BV s aa λaf=>
 Dc false s 4 Y4 1 [(0,4,(.agg Y4))] λag ah=>
(false=false/\25=25/\4=4/\4≠0)/\wFu (lf R 44 N O T) s 25 4 56 aa ag af ae λai aj=>
 D0 aj t0 λak=>
 BD aj ak 0 λal=>
 CR (lf R 44 N O T) aj 1 al ai λam=>
 BD am t3 3 λan=>
 xL R am an λao=>
 Cl am 4 ao (AA 1) λap=>
 xM R am 4 ap λaq=>
 xC R 44 N O T 90 [x] am λar au=>
 xC R 44 N O T 89 [aq,ar] au λav aw=>
 xC R 44 N O T 44 [t0,av] aw λax ay=>
 DC ax 0 λaz=>
 DC ax 1 λa0=>
(BD au t3 3 λa1=>CQ a1 an=true) /\
(xL R au an λa2=>CQ a2 ao=true) /\
(Cl au 4 ao (AA 1) λa3=>CQ a3 ap=true) /\
(xM R au 4 ap λa4=>CQ a4 aq=true) /\
 AO a0 (
 xC R 44 N O T 81 [t0,az,x] ay λa5 a6=>
 DC a5 0 λa7=>
 DC a5 1 λa8=>
 NQ R N O T t0 a7 a8 a6 QR) (
 NQ R N O T t0 az a0 ay QR)) (
 NQ R N O T t0 t6 t7 s QR))))):lJ R N O T t0 t3 t6 t7 t14 t15 s QR:=
 pC iq cF h
theorem AEO (h :
 DY t7 λa=>
 g0 a false s t6 λb c=>
 g1 a false c (BV c b) λe f=>
 g0 a false f t0 λg i=>
 g1 a false i (D0 i g) λk l=>
 g1 a false l (BD l k 1) λn o=>
 g1 a false o (xL R o n) λq u=>
 g1 a false u (xI .gtr e q) λw x=>
 Ay a (BB true) w λy=>
 AO y (
 QR (.tuple [(.AB []),(BB false)]) x) (
 AGZ R N O T t6 x QR)):NQ R N O T t0 t6 t7 s QR:=
 pC iq cF h
theorem AEP (h :
 xI .lss t25 t24 λa=>
 AO a (
 AGa R N O T t0 t6 t7 t23 t24 t25 a s QR) (
 NQ R N O T t0 t6 t7 s QR)):lH R N O T t0 t6 t7 t23 t24 t25 s QR:=
 pL iq cF h
theorem AOr (h :
 QR (.tuple [t6,(BB true)]) s):AGZ R N O T t6 s QR:=
 pC iq cF h
theorem AOs (h :
 Cl s 4 t23 t25 λa=>
 xM R s 4 a λb=>
 Bw s Y4 λc d=>
 CR (lf R 44 N O T) d 4 c b λe=>
 xM R e 4 c λf=>
 xC R 44 N O T 44 [t0,f] e λg i=>
 DC g 0 λj=>
 DC g 1 λk=>
(4=4/\4≠0)/\EL false (lf R 44 N O T) i 25 4 56 t6 j λl m=>
 g0 t7 true m k λn o=>
 Ay t7 n (BB false) λp=>
 lI R N O T t0 l p t23 t24 t25 o QR):AGa R N O T t0 t6 t7 t23 t24 t25 t26 s QR:=
 pC iq cF h
theorem AOu (h :
 xI .add t25 (AA 1) λa=>
 lH R N O T t0 t6 t7 t23 t24 a s QR):lI R N O T t0 t6 t7 t23 t24 t25 s QR:=
 pC iq cF h
theorem m44 {L:A3} {Post:AV->AM->Prop} (hn:Bb [t0,t1]=false) (h:cI R 0 L.ro L.rt t0 t1 s (QM (L.rr 44) s.bs.length Post)):∃v s',Post v s'/\A8 (env R) L 44 [t0,t1] s v s':=
 hM Tryz.func44 hn h
theorem AOP (h :
 B6 s t0 λa b=>
 B6 b t1 λc d=>
 Bw d Y5 λe f=>
 Bw f [(.AB [])] λg i=>
 Bw i [(.pv (.sc .nilFunc))] λj k=>
 CR (lf R 45 N O T) k 1 j (.func (.func 91) [] [a,g,j]) λl=>
 xL R l j λm=>
 xM R l 4 c λn=>
 EK (env R) (lf R 45 N O T) m [n] l λo p=>
 C1 Y5 [(1,4,o)] λq=>
 Bw p Y5 λu v=>
 CR (lf R 45 N O T) v 5 u q λw=>
 xL R w g λx=>
 BV w x λy=>
 bW R N O T a e u x y (AA 0) w QR):AGb R N O T t0 t1 s QR:=
 pC z6 cF h
theorem AED (h :
 xI .lss t17 t16 λa=>
 AO a (
 AGc R N O T t2 t4 t7 t15 t16 t17 a s QR) (
 AGd R N O T t4 t7 s QR)):bW R N O T t2 t4 t7 t15 t16 t17 s QR:=
 pL z6 cF h
theorem AON (h :
 Cl s 1 t15 t17 λa=>
 xL R s a λb=>
 BD s t7 0 λc=>
 xL R s c λd=>
 xL R s t2 λe=>
 D0 s e λf=>
 xF R s f 0 λi=>
 Cl s 4 i b λj=>
 xM R s 4 j λk=>
 xC R 45 N O T 70 [k] s λl m=>
 Dc false m 4 Y4 1 [(0,4,l)] λn o=>
(4=4/\4≠0)/\EL false (lf R 45 N O T) m 25 4 56 d n λp q=>
 BD q t7 0 λu=>
 CR (lf R 45 N O T) q 1 u p λw=>
(BD m t7 0 λx=>CQ x c=true) /\
(xL R m c λy=>CQ y d=true) /\
 AGe R N O T t2 t4 t7 t15 t16 t17 w QR):AGc R N O T t2 t4 t7 t15 t16 t17 t18 s QR:=
 pC z6 cF h
theorem AOM (h :
 xM R s 5 t7 λa=>
 CR (lf R 45 N O T) s 5 t4 a λb=>
 xM R b 5 t4 λc=>
 QR c b):AGd R N O T t4 t7 s QR:=
 pC z6 cF h
theorem AOO (h :
 xI .add t17 (AA 1) λa=>
 bW R N O T t2 t4 t7 t15 t16 a s QR):AGe R N O T t2 t4 t7 t15 t16 t17 s QR:=
 pC z6 cF h
theorem m45 {L:A3} {Post:AV->AM->Prop} (hn:Bb [t0,t1]=false) (h:AGb R 0 L.ro L.rt t0 t1 s (QM (L.rr 45) s.bs.length Post)):∃v s',Post v s'/\A8 (env R) L 45 [t0,t1] s v s':=
 hM Tryz.func45 hn h
theorem AEC (h :
 B6 s t0 λa b=>
 Bw b Y4 λc d=>
 xM R d 4 a λe=>
 xC R 91 N O T 92 [e] d λf g=>
 DC f 0 λi=>
 DC f 1 λj=>
 g0 j true g i λk l=>
 g1 j true l (xL R l t1) λn o=>
 g1 j true o (D0 o n) λq u=>
 g1 j true u (BD u q 0) λx y=>
 g1 j true y (xL R y x) λaa ab=>
 g1 j true ab (BV ab aa) λad ae=>
 g1 j true ae (xI .lss k ad) λag ah=>
 Ay j ag (BB false) λai=>
 AO ai (
 xL R ah t2 λaj=>
 xC R 91 N O T 93 [aj,i] ah λak al=>
 xI .lss ak (AA 0) λam=>
 AO am (
 xL R al t2 λan=>
 BV al an λao=>
 xL R al t2 λap=>
 Dc false al 1 [(AA 0)] 1 [(0,1,i)] λaq ar=>
(1=1/\1≠0)/\EL false (lf R 91 N O T) al 3 1 8 ap aq λau av=>
 CR (lf R 91 N O T) av 1 t2 au λaw=>
(xL R av t2 λax=>CQ ax an=true) /\
(BV av an λay=>CQ ay ao=true) /\
 kZ R N O T c ao aw QR) (
 kZ R N O T c ak al QR)) (
 AGg R N O T t3 a c ah QR)):AGf R N O T t0 t1 t2 t3 s QR:=
 pC ir cF h
theorem AOK (h :
 C1 Y4 [(0,1,(AA 5)),(2,1,t8)] λa=>
 CR (lf R 91 N O T) s 4 t5 a λb=>
 xM R b 4 t5 λc=>
 QR c b):kZ R N O T t5 t8 s QR:=
 pC ir cF h
theorem AOL (h :
 xM R s 4 t4 λa=>
 Bw s Y4 λb c=>
 CR (lf R 91 N O T) c 4 b a λd=>
 BD d b 3 λe=>
 CR (lf R 91 N O T) d 1 e (.AB []) λf=>
 xF R f t4 3 λi=>
 BV f i λj=>
 kX R N O T t3 t5 b i j (AA 0) f QR):AGg R N O T t3 t4 t5 s QR:=
 pC ir cF h
theorem AEA (h :
 xI .lss t45 t44 λa=>
 AO a (
 AGh R N O T t3 t5 t9 t43 t44 t45 a s QR) (
 AGi R N O T t5 t9 s QR)):kX R N O T t3 t5 t9 t43 t44 t45 s QR:=
 pL ir cF h
theorem AOH (h :
 Cl s 4 t43 t45 λa=>
 xM R s 4 a λb=>
 Bw s Y4 λc d=>
 CR (lf R 91 N O T) d 4 c b λe=>
 BD e t9 3 λf=>
 xL R e f λg=>
 xL R e t3 λi=>
 xM R e 4 c λj=>
 EK (env R) (lf R 91 N O T) i [j] e λk l=>
 Dc false l 4 Y4 1 [(0,4,k)] λm n=>
(4=4/\4≠0)/\EL false (lf R 91 N O T) l 25 4 56 g m λo p=>
 BD p t9 3 λq=>
 CR (lf R 91 N O T) p 1 q o λu=>
(BD l t9 3 λw=>CQ w f=true) /\
(xL R l f λx=>CQ x g=true) /\
 AGj R N O T t3 t5 t9 t43 t44 t45 u QR):AGh R N O T t3 t5 t9 t43 t44 t45 t46 s QR:=
 pC ir cF h
theorem AOG (h :
 xM R s 4 t9 λa=>
 CR (lf R 91 N O T) s 4 t5 a λb=>
 xM R b 4 t5 λc=>
 QR c b):AGi R N O T t5 t9 s QR:=
 pC ir cF h
theorem AOJ (h :
 xI .add t45 (AA 1) λa=>
 kX R N O T t3 t5 t9 t43 t44 a s QR):AGj R N O T t3 t5 t9 t43 t44 t45 s QR:=
 pC ir cF h
theorem m91 {L:A3} {Post:AV->AM->Prop} (hn:Bb [t0,t1,t2,t3]=false) (h:AGf R 0 L.ro L.rt t0 t1 t2 t3 s (QM (L.rr 91) s.bs.length Post)):∃v s',Post v s'/\A8 (env R) L 91 [t0,t1,t2,t3] s v s':=
 hM Tryz.func91 hn h
theorem AOA (h :
 B6 s t0 λa b=>
 xF R b a 0 λd=>
 BV b d λe=>
 xI .leq e (AA 6) λf=>
 g1 f true b (xM R b 5 a) λi j=>
 Hs f true j (xC R 46 N O T 23 [i] j) λm n=>
 g1 f true n (BV n m) λp q=>
 g1 f true q (xI .leq p (AA 3)) λv w=>
 Ay f v (BB false) λx=>
 QR x w):AGk R N O T t0 s QR:=
 pC AXq cF h
theorem e46 {u0:AV} {Post:AV->Prop} (Ba:AU [] 0 0 [t0]=some [u0]) (h:AGk R 0 0 0 u0 ⟨[],[]⟩ (QP Post)):AL (env R) 46 [t0] Post:=
 hR Tryz.func46 Ba h
theorem APM (h :
 BV s t0 λa=>
 ld R N O T (.AB []) t0 a (AA 0) s QR):AGl R N O T t0 s QR:=
 pC qA cF h
theorem AEV (h :
 xI .lss t10 t9 λa=>
 AO a (
 AGm R N O T t3 t8 t9 t10 a s QR) (
 AGn R N O T  s QR)):ld R N O T t3 t8 t9 t10 s QR:=
 pL qA cF h
theorem APJ (h :
 Cl s 4 t8 t10 λa=>
 xM R s 4 a λb=>
 Bw s Y4 λc d=>
 CR (lf R 47 N O T) d 4 c b λe=>
 xC R 47 N O T 94 [t3,(.func (.func 95) [] [c])] e λf g=>
 AO f (
 z7 R N O T t3 t8 t9 t10 g QR) (
 AGo R N O T t3 c t8 t9 t10 g QR)):AGm R N O T t3 t8 t9 t10 t11 s QR:=
 pC qA cF h
theorem API (h :
 QR (BB true) s):AGn R N O T  s QR:=
 pC qA cF h
theorem AEW (h :
 xI .add t10 (AA 1) λa=>
 ld R N O T t3 t8 t9 a s QR):z7 R N O T t3 t8 t9 t10 s QR:=
 pC qA cF h
theorem APL (h :
 xM R s 4 t5 λa=>
 Dc false s 4 Y4 1 [(0,4,a)] λb c=>
(4=4/\4≠0)/\EL false (lf R 47 N O T) c 25 4 56 t3 b λd e=>
 xM R e 4 t5 λf=>
 xC R 47 N O T 14 [f] e λg i=>
 DC g 0 λj=>
 DC g 1 λk=>
 xI .neq k (AA 0) λl=>
 g0 l false i j λm n=>
 g1 l false n (BV n m) λp q=>
 g1 l false q (xI .gtr p (AA 4)) λv w=>
 Ay l (BB true) v λx=>
 AO x (
 QR (BB false) w) (
 z7 R N O T d t8 t9 t10 w QR)):AGo R N O T t3 t5 t8 t9 t10 s QR:=
 pC qA cF h
theorem e47 {u0:AV} {Post:AV->Prop} (Ba:AU [] 0 0 [t0]=some [u0]) (h:AGl R 0 0 0 u0 ⟨[],[]⟩ (QP Post)):AL (env R) 47 [t0] Post:=
 hR Tryz.func47 Ba h
theorem APH (h :
 B6 s t0 λa b=>
 xM R b 4 a λc=>
 xM R b 4 t1 λd=>
 xC R 95 N O T 63 [c,d] b λe f=>
 QR e f):AGp R N O T t0 t1 s QR:=
 pC AXr cF h
theorem m95 {L:A3} {Post:AV->AM->Prop} (hn:Bb [t0,t1]=false) (h:AGp R 0 L.ro L.rt t0 t1 s (QM (L.rr 95) s.bs.length Post)):∃v s',Post v s'/\A8 (env R) L 95 [t0,t1] s v s':=
 hM Tryz.func95 hn h
theorem AD6 (h :
 B6 s t0 λa b=>
 B6 b t1 λc d=>
 B6 d t2 λe f=>
 xM R f 4 a λg=>
 xC R 62 N O T 92 [g] f λi j=>
 DC i 0 λk=>
 DC i 1 λl=>
 AO l (
 xL R j c λm=>
 xI .eql k m λn=>
 g1 n true j (xL R j e) λp q=>
 g1 n true q (DY p) λv w=>
 Ay n v (BB false) λx=>
 QR x w) (
 AGr R N O T a c e j QR)):AGq R N O T t0 t1 t2 s QR:=
 pC ASR cF h
theorem ANz (h :
 xF R s t3 3 λb=>
 xC R 62 N O T 94 [b,(.func (.func 103) [] [t4,t5,t3])] s λc d=>
 QR c d):AGr R N O T t3 t4 t5 s QR:=
 pC ASR cF h
theorem e62 {u0 u1 u2:AV} {Post:AV->Prop} (Ba:AU [] 0 0 [t0,t1,t2]=some [u0,u1,u2]) (h:AGq R 0 0 0 u0 u1 u2 ⟨[],[]⟩ (QP Post)):AL (env R) 62 [t0,t1,t2] Post:=
 hR Tryz.func62 Ba h
theorem AI7 (h :
 B6 s t0 λa b=>
 xM R b 4 a λc=>
 xL R b t1 λd=>
 xL R b t2 λe=>
 g1 e true b (BD b t3 0) λg i=>
 g1 e true i (xL R i g) λk l=>
 g1 e true l (xI .neq k (AA 2)) λn o=>
 Ay e n (BB false) λp=>
 xC R 103 N O T 62 [c,d,p] o λq u=>
 QR q u):z8 R N O T t0 t1 t2 t3 s QR:=
 pC ASS cF h
theorem AUs {L:A3} {Post:AV->AM->Prop} (hn:Bb [t0,t1,t2,t3]=false) (h:z8 R 0 L.ro L.rt t0 t1 t2 t3 s (QM (L.rr 103) s.bs.length Post)):∃v s',Post v s'/\A8 (env R) L 103 [t0,t1,t2,t3] s v s':=
 hM Tryz.func103 hn h
theorem AOT (h :
 B6 s t0 λa b=>
 B6 b t3 λc d=>
 Bw d Y4 λe f=>
 xM R f 4 a λg=>
 xC R 59 N O T 92 [g] f λi j=>
 DC i 0 λk=>
 DC i 1 λl=>
 AO l (
 EK (env R) (lf R 59 N O T) t2 [k] j λm n=>
 AO m (
 D0 n t1 λo=>
 xL R n o λp=>
 xI .sub p (AA 1) λq=>
 D0 n t1 λu=>
 CR (lf R 59 N O T) n 1 u q λv=>
 D0 v t1 λw=>
 xL R v w λx=>
 xI .eql x (AA (-1)) λy=>
 AO y (
 xM R v 4 c λz=>
 CR (lf R 59 N O T) v 4 e z λaa=>
 xM R aa 4 e λab=>
 QR ab aa) (
 WL R N O T a e v QR)) (
 WL R N O T a e n QR)) (
 vF R N O T t1 t2 a c e j QR)):vG R N O T t0 t1 t2 t3 s QR:=
 pC dY cF h
theorem AOU (h :
 xM R s 4 t4 λa=>
 CR (lf R 59 N O T) s 4 t8 a λb=>
 xM R b 4 t8 λc=>
 QR c b):WL R N O T t4 t8 s QR:=
 pC dY cF h
theorem AOX (h :
 xF R s t4 0 λb=>
 xI .neq b (AA 3) λc=>
 AO c (
 xM R s 4 t4 λd=>
 CR (lf R 59 N O T) s 4 t8 d λe=>
 xM R e 4 t8 λf=>
 QR f e) (
 AGu R N O T t1 t2 t4 t7 t8 s QR)):vF R N O T t1 t2 t4 t7 t8 s QR:=
 pC dY cF h
theorem AOY (h :
 xM R s 4 t4 λa=>
 Bw s Y4 λb c=>
 CR (lf R 59 N O T) c 4 b a λd=>
 BD d b 3 λe=>
 CR (lf R 59 N O T) d 1 e (.AB []) λf=>
 xF R f t4 3 λi=>
 BV f i λj=>
 ko R N O T t1 t2 t7 t8 b i j (AA 0) f QR):AGu R N O T t1 t2 t4 t7 t8 s QR:=
 pC dY cF h
theorem AEE (h :
 xI .lss t43 t42 λa=>
 AO a (
 AGv R N O T t1 t2 t7 t8 t11 t41 t42 t43 a s QR) (
 AGw R N O T t8 t11 s QR)):ko R N O T t1 t2 t7 t8 t11 t41 t42 t43 s QR:=
 pL dY cF h
theorem AOR (h :
 Cl s 4 t41 t43 λa=>
 xM R s 4 a λb=>
 Bw s Y4 λc d=>
 CR (lf R 59 N O T) d 4 c b λe=>
 BD e t11 3 λf=>
 xL R e f λg=>
 xM R e 4 c λi=>
 xM R e 4 t7 λj=>
 xC R 59 N O T 59 [i,t1,t2,j] e λk l=>
 Dc false l 4 Y4 1 [(0,4,k)] λm n=>
(4=4/\4≠0)/\EL false (lf R 59 N O T) l 25 4 56 g m λo p=>
 BD p t11 3 λq=>
 CR (lf R 59 N O T) p 1 q o λu=>
(BD l t11 3 λw=>CQ w f=true) /\
(xL R l f λx=>CQ x g=true) /\
 AGx R N O T t1 t2 t7 t8 t11 t41 t42 t43 u QR):AGv R N O T t1 t2 t7 t8 t11 t41 t42 t43 t44 s QR:=
 pC dY cF h
theorem AOQ (h :
 xM R s 4 t11 λa=>
 CR (lf R 59 N O T) s 4 t8 a λb=>
 xM R b 4 t8 λc=>
 QR c b):AGw R N O T t8 t11 s QR:=
 pC dY cF h
theorem AOS (h :
 xI .add t43 (AA 1) λa=>
 ko R N O T t1 t2 t7 t8 t11 t41 t42 a s QR):AGx R N O T t1 t2 t7 t8 t11 t41 t42 t43 s QR:=
 pC dY cF h
theorem m59 {L:A3} {Post:AV->AM->Prop} (hn:Bb [t0,t1,t2,t3]=false) (h:vG R 0 L.ro L.rt t0 t1 t2 t3 s (QM (L.rr 59) s.bs.length Post)):∃v s',Post v s'/\A8 (env R) L 59 [t0,t1,t2,t3] s v s':=
 hM Tryz.func59 hn h
theorem AJW (h :
 B6 s t1 λa b=>
 B6 b t2 λc d=>
 xM R d 4 a λe=>
 xL R d c λf=>
 xC R 114 N O T 62 [e,f,(BB false)] d λg i=>
 DY g λj=>
 AO j (
 xM R i 4 a λk=>
 Dc false i 4 Y4 1 [(0,4,k)] λl m=>
 QR (.tuple [l,(BB true)]) m) (
 AAB R N O T t0 a c i QR)):AAA R N O T t0 t1 t2 s QR:=
 pC UT cF h
theorem AJX (h :
 D0 s t0 λa=>
 xF R s a 0 λc=>
 xL R s t5 λd=>
 Cl s 4 c d λe=>
 xM R s 4 e λf=>
 xC R 114 N O T 44 [t0,f] s λg i=>
 DC g 0 λj=>
 DC g 1 λk=>
 DY k λl=>
 AO l (
 QR (.tuple [(.AB []),(BB false)]) i) (
 AAC R N O T t0 t4 t5 j i QR)):AAB R N O T t0 t4 t5 s QR:=
 pC UT cF h
theorem AJZ (h :
 BV s t8 λa=>
 Yl R N O T t0 t4 t5 (.AB []) t8 a (AA 0) s QR):AAC R N O T t0 t4 t5 t8 s QR:=
 pC UT cF h
theorem vH (h :
 xI .lss t38 t37 λa=>
 AO a (
 AAD R N O T t0 t4 t5 t10 t36 t37 t38 a s QR) (
 AAE R N O T t10 s QR)):Yl R N O T t0 t4 t5 t10 t36 t37 t38 s QR:=
 pL UT cF h
theorem AJU (h :
 Cl s 4 t36 t38 λa=>
 xM R s 4 a λb=>
 Bw s Y4 λc d=>
 CR (lf R 114 N O T) d 4 c b λe=>
 Bw e [(AA 0)] λf g=>
 CR (lf R 114 N O T) g 1 f (AA 0) λi=>
 xM R i 4 t4 λj=>
 xM R i 4 c λk=>
 xC R 114 N O T 59 [j,f,(.func (.func 137) [] [t5]),k] i λl m=>
 xL R m t5 λn=>
 xC R 114 N O T 114 [t0,l,n] m λo p=>
 DC o 0 λq=>
 DC o 1 λu=>
(xL R i t5 λw=>CQ w n=true) /\
(4=4/\4≠0)/\EL false (lf R 114 N O T) p 25 4 56 t10 q λx y=>
 DY u λz=>
 g0 z false y x λaa ab=>
 g1 z false ab (BV ab aa) λad ae=>
 g0 z false ae t0 λaf ag=>
 g1 z false ag (D0 ag af) λai aj=>
 g1 z false aj (BD aj ai 1) λal am=>
 g1 z false am (xL R am al) λao ap=>
 g1 z false ap (xI .gtr ad ao) λar au=>
 Ay z (BB true) ar λav=>
 AO av (
 QR (.tuple [(.AB []),(BB false)]) au) (
 AAF R N O T t0 t4 t5 x t36 t37 t38 au QR)):AAD R N O T t0 t4 t5 t10 t36 t37 t38 t39 s QR:=
 pC UT cF h
theorem AJT (h :
 QR (.tuple [t10,(BB true)]) s):AAE R N O T t10 s QR:=
 pC UT cF h
theorem AJV (h :
 xI .add t38 (AA 1) λa=>
 Yl R N O T t0 t4 t5 t10 t36 t37 a s QR):AAF R N O T t0 t4 t5 t10 t36 t37 t38 s QR:=
 pC UT cF h
theorem AU7 {L:A3} {Post:AV->AM->Prop} (hn:Bb [t0,t1,t2]=false) (h:AAA R 0 L.ro L.rt t0 t1 t2 s (QM (L.rr 114) s.bs.length Post)):∃v s',Post v s'/\A8 (env R) L 114 [t0,t1,t2] s v s':=
 hM Tryz.func114 hn h
theorem AJQ (h :
 xL R s t1 λa=>
 xI .eql t0 a λb=>
 QR b s):AAG R N O T t0 t1 s QR:=
 pC AST cF h
theorem AU1 {L:A3} {Post:AV->AM->Prop} (hn:Bb [t0,t1]=false) (h:AAG R 0 L.ro L.rt t0 t1 s (QM (L.rr 137) s.bs.length Post)):∃v s',Post v s'/\A8 (env R) L 137 [t0,t1] s v s':=
 hM Tryz.func137 hn h
theorem AOe (h :
 BV s t1 λa=>
 kz R N O T t0 t2 (.AB []) t1 a (AA 0) s QR):AGy R N O T t0 t1 t2 s QR:=
 pC qB cF h
theorem AEH (h :
 xI .lss t15 t14 λa=>
 AO a (
 AGz R N O T t0 t2 t8 t13 t14 t15 a s QR) (
 AG0 R N O T t8 s QR)):kz R N O T t0 t2 t8 t13 t14 t15 s QR:=
 pL qB cF h
theorem AOc (h :
 Cl s 4 t13 t15 λa=>
 xM R s 4 a λb=>
 Bw s Y4 λc d=>
 CR (lf R 81 N O T) d 4 c b λe=>
 xM R e 4 c λf=>
 Dc false e 4 Y4 1 [(0,4,f)] λg i=>
 xM R i 4 c λj=>
 xC R 81 N O T 62 [j,t2,(BB true)] i λk l=>
 DY k λm=>
 AO m (
 xM R l 4 c λn=>
 xC R 81 N O T 114 [t0,n,t2] l λo p=>
 DC o 0 λq=>
 DC o 1 λu=>
 lB R N O T t0 t2 t8 q u t13 t14 t15 p QR) (
 lB R N O T t0 t2 t8 g (BB true) t13 t14 t15 l QR)):AGz R N O T t0 t2 t8 t13 t14 t15 t16 s QR:=
 pC qB cF h
theorem AOb (h :
 QR (.tuple [t8,(BB true)]) s):AG0 R N O T t8 s QR:=
 pC qB cF h
theorem AEI (h :
(4=4/\4≠0)/\EL false (lf R 81 N O T) s 25 4 56 t8 t11 λa b=>
 DY t12 λc=>
 g0 c false b a λd e=>
 g1 c false e (BV e d) λg i=>
 g0 c false i t0 λj k=>
 g1 c false k (D0 k j) λm n=>
 g1 c false n (BD n m 1) λp q=>
 g1 c false q (xL R q p) λv w=>
 g1 c false w (xI .gtr g v) λy z=>
 Ay c (BB true) y λaa=>
 AO aa (
 QR (.tuple [(.AB []),(BB false)]) z) (
 AG1 R N O T t0 t2 a t13 t14 t15 z QR)):lB R N O T t0 t2 t8 t11 t12 t13 t14 t15 s QR:=
 pC qB cF h
theorem AOd (h :
 xI .add t15 (AA 1) λa=>
 kz R N O T t0 t2 t8 t13 t14 a s QR):AG1 R N O T t0 t2 t8 t13 t14 t15 s QR:=
 pC qB cF h
theorem m81 {L:A3} {Post:AV->AM->Prop} (hn:Bb [t0,t1,t2]=false) (h:AGy R 0 L.ro L.rt t0 t1 t2 s (QM (L.rr 81) s.bs.length Post)):∃v s',Post v s'/\A8 (env R) L 81 [t0,t1,t2] s v s':=
 hM Tryz.func81 hn h
theorem AJo (h :
 xC R 120 N O T 144 [t1,(.func (.func 145) [] [])] s λa b=>
 AO a (
 QR (.tuple [(.AB []),(BB true)]) b) (
 AAI R N O T t0 t1 b QR)):AAH R N O T t0 t1 s QR:=
 pC Ju cF h
theorem AJp (h :
 Dc false s 1 [(.AB [])] 1 [(0,1,(.AB []))] λa b=>
 BV b t1 λc=>
 Yu R N O T t0 a t1 c (AA 0) b QR):AAI R N O T t0 t1 s QR:=
 pC Ju cF h
theorem vT (h :
 xI .lss t19 t18 λa=>
 AO a (
 AAJ R N O T t0 t6 t17 t18 t19 a s QR) (
 AAK R N O T t6 s QR)):Yu R N O T t0 t6 t17 t18 t19 s QR:=
 pL Ju cF h
theorem AJm (h :
 Cl s 1 t17 t19 λa=>
 xL R s a λb=>
 BV s t6 λc=>
 D0 s t0 λd=>
 xF R s d 1 λf=>
 BV s b λg=>
 xI .quo f g λi=>
 xI .gtr c i λj=>
 AO j (
 QR (.tuple [(.AB []),(BB false)]) s) (
 AAL R N O T t0 t6 b t17 t18 t19 s QR)):AAJ R N O T t0 t6 t17 t18 t19 t20 s QR:=
 pC Ju cF h
theorem AJl (h :
 QR (.tuple [t6,(BB true)]) s):AAK R N O T t6 s QR:=
 pC Ju cF h
theorem AJn (h :
 BV s t6 λa=>
 Yt R N O T t0 t8 (.AB []) t17 t18 t19 t6 a (AA 0) s QR):AAL R N O T t0 t6 t8 t17 t18 t19 s QR:=
 pC Ju cF h
theorem vR (h :
 xI .lss t35 t34 λa=>
 AO a (
 AAM R N O T t0 t8 t9 t17 t18 t19 t33 t34 t35 a s QR) (
 AAN R N O T t0 t9 t17 t18 t19 s QR)):Yt R N O T t0 t8 t9 t17 t18 t19 t33 t34 t35 s QR:=
 pL Ju cF h
theorem AJi (h :
 Cl s 1 t33 t35 λa=>
 xL R s a λb=>
 BV s t8 λc=>
 Yq R N O T t0 t8 t9 b t17 t18 t19 t33 t34 t35 t8 c (AA 0) s QR):AAM R N O T t0 t8 t9 t17 t18 t19 t33 t34 t35 t36 s QR:=
 pC Ju cF h
theorem AJh (h :
 Ys R N O T t0 t9 t17 t18 t19 s QR):AAN R N O T t0 t9 t17 t18 t19 s QR:=
 pC Ju cF h
theorem vQ (h :
 xI .lss t41 t40 λa=>
 AO a (
 nQ R N O T t0 t8 t9 t11 t17 t18 t19 t33 t34 t35 t39 t40 t41 a s QR) (
 Yp R N O T t0 t8 t9 t17 t18 t19 t33 t34 t35 s QR)):Yq R N O T t0 t8 t9 t11 t17 t18 t19 t33 t34 t35 t39 t40 t41 s QR:=
 pL Ju cF h
theorem ACI (h :
 xI .add t19 (AA 1) λa=>
 Yu R N O T t0 t6 t17 t18 a s QR):Ys R N O T t0 t6 t17 t18 t19 s QR:=
 pC Ju cF h
theorem ACF (h :
 Cl s 4 t39 t41 λa=>
 xM R s 4 a λb=>
 Bw s Y4 λc d=>
 CR (lf R 120 N O T) d 4 c b λe=>
 xC R 120 N O T 57 [t11] e λf g=>
 xM R g 4 c λi=>
 Dc false g 4 Y4 1 [(0,4,i)] λj k=>
(4=4/\4≠0)/\EL false (lf R 120 N O T) g 25 4 56 f j λl m=>
 Dc false m 1 [(.AB [])] 1 [(0,1,l)] λn o=>
(1=1/\1≠0)/\EL false (lf R 120 N O T) m 23 1 24 t9 n λp q=>
(xM R e 4 c λu=>CQ u i=true) /\
 nR R N O T t0 t8 p t11 t17 t18 t19 t33 t34 t35 t39 t40 t41 q QR):nQ R N O T t0 t8 t9 t11 t17 t18 t19 t33 t34 t35 t39 t40 t41 t42 s QR:=
 pC Ju cF h
theorem ACH (h :
 xI .add t35 (AA 1) λa=>
 Yt R N O T t0 t8 t9 t17 t18 t19 t33 t34 a s QR):Yp R N O T t0 t8 t9 t17 t18 t19 t33 t34 t35 s QR:=
 pC Ju cF h
theorem ACG (h :
 xI .add t41 (AA 1) λa=>
 Yq R N O T t0 t8 t9 t11 t17 t18 t19 t33 t34 t35 t39 t40 a s QR):nR R N O T t0 t8 t9 t11 t17 t18 t19 t33 t34 t35 t39 t40 t41 s QR:=
 pC Ju cF h
theorem AVG {L:A3} {Post:AV->AM->Prop} (hn:Bb [t0,t1]=false) (h:AAH R 0 L.ro L.rt t0 t1 s (QM (L.rr 120) s.bs.length Post)):∃v s',Post v s'/\A8 (env R) L 120 [t0,t1] s v s':=
 hM Tryz.func120 hn h
theorem vL (h :
 xC R 144 N O T 166 [t0,t1] s λa b=>
 xI .geq a (AA 0) λc=>
 QR c b):iy R N O T t0 t1 s QR:=
 pC ASV cF h
theorem AVC {Post:AV->Prop} (hn:Bb [t0,t1]=true) (h:iy R 0 0 0 t0 t1 ⟨[],[]⟩ (QP Post)):AL (env R) 144 [t0,t1] Post:=
 HI (fn:=Tryz.f144) (body:=ASU) Tryz.func144 (by kernel_rfl) (by kernel_rfl) (by kernel_rfl) (Cr (by kernel_rfl)) hn (mP h (by kernel_rfl))
theorem AVD {L:A3} {Post:AV->AM->Prop} (hn:Bb [t0,t1]=false) (h:iy R 0 L.ro L.rt t0 t1 s (QM (L.rr 144) s.bs.length Post)):∃v s',Post v s'/\A8 (env R) L 144 [t0,t1] s v s':=
 hM Tryz.func144 hn h
theorem AJa (h :
 BV s t0 λa=>
 xI .eql a (AA 0) λb=>
 QR b s):AAO R N O T t0 s QR:=
 pC ASX cF h
theorem AU9 {Post:AV->Prop} (hn:Bb [t0]=true) (h:AAO R 0 0 0 t0 ⟨[],[]⟩ (QP Post)):AL (env R) 145 [t0] Post:=
 HI (fn:=Tryz.f145) (body:=ASW) Tryz.func145 (by kernel_rfl) (by kernel_rfl) (by kernel_rfl) (Cr (by kernel_rfl)) hn (mP h (by kernel_rfl))
theorem vK (h :
 BV s t0 λa=>
 Yn R N O T t0 t1 a (AA 0) s QR):iz R N O T t0 t1 s QR:=
 pC dZ cF h
theorem vJ (h :
 xI .lss t8 t7 λa=>
 AO a (
 AAQ R N O T t0 t1 t7 t8 a s QR) (
 AAR R N O T  s QR)):Yn R N O T t0 t1 t7 t8 s QR:=
 pL dZ cF h
theorem AJc (h :
 Cl s 1 t0 t8 λa=>
 xL R s a λb=>
 EK (env R) (lf R 166 N O T) t1 [b] s λc d=>
 AO c (
 QR t8 d) (
 AAS R N O T t0 t1 t7 t8 d QR)):AAQ R N O T t0 t1 t7 t8 t9 s QR:=
 pC dZ cF h
theorem AJb (h :
 QR (AA (-1)) s):AAR R N O T  s QR:=
 pC dZ cF h
theorem AJd (h :
 xI .add t8 (AA 1) λa=>
 Yn R N O T t0 t1 t7 a s QR):AAS R N O T t0 t1 t7 t8 s QR:=
 pC dZ cF h
theorem AVA {Post:AV->Prop} (hn:Bb [t0,t1]=true) (h:iz R 0 0 0 t0 t1 ⟨[],[]⟩ (QP Post)):AL (env R) 166 [t0,t1] Post:=
 HI (fn:=Tryz.f166) (body:=qC) Tryz.func166 (by kernel_rfl) (by kernel_rfl) (by kernel_rfl) (Cr (by kernel_rfl)) hn (mP h (by kernel_rfl))
theorem AVB {L:A3} {Post:AV->AM->Prop} (hn:Bb [t0,t1]=false) (h:iz R 0 L.ro L.rt t0 t1 s (QM (L.rr 166) s.bs.length Post)):∃v s',Post v s'/\A8 (env R) L 166 [t0,t1] s v s':=
 hM Tryz.func166 hn h
theorem AOp (h :
 BV s t1 λa=>
 lG R N O T t0 (.AB []) t1 a (AA 0) s QR):AG2 R N O T t0 t1 s QR:=
 pC VN cF h
theorem AEL (h :
 xI .lss t18 t17 λa=>
 AO a (
 AG3 R N O T t0 t6 t16 t17 t18 a s QR) (
 vW R N O T t0 t6 s QR)):lG R N O T t0 t6 t16 t17 t18 s QR:=
 pL VN cF h
theorem AOm (h :
 Cl s 4 t16 t18 λa=>
 xM R s 4 a λb=>
 Bw s Y4 λc d=>
 CR (lf R 88 N O T) d 4 c b λe=>
 xM R e 4 c λf=>
 xC R 88 N O T 44 [t0,f] e λg i=>
 DC g 0 λj=>
 DC g 1 λk=>
 DY k λl=>
 AO l (
 QR (.tuple [(.AB []),(BB false)]) i) (
 AG4 R N O T t0 t6 j t16 t17 t18 i QR)):AG3 R N O T t0 t6 t16 t17 t18 t19 s QR:=
 pC VN cF h
theorem AOq (h :
 xC R 88 N O T 120 [t0,t6] s λa b=>
 DC a 0 λc=>
 DC a 1 λd=>
 BV b c λe=>
 cG R N O T d (.AB []) c e (AA 0) b QR):vW R N O T t0 t6 s QR:=
 pC VN cF h
theorem AOn (h :
 Dc false s 1 [(.AB [])] 1 [(0,1,t9)] λa b=>
(1=1/\1≠0)/\EL false (lf R 88 N O T) b 23 1 24 t6 a λc d=>
 AG5 R N O T t0 c t16 t17 t18 d QR):AG4 R N O T t0 t6 t9 t16 t17 t18 s QR:=
 pC VN cF h
theorem vV (h :
 xI .lss t43 t42 λa=>
 AO a (
 AG6 R N O T t12 t13 t41 t42 t43 a s QR) (
 vU R N O T t12 t13 s QR)):cG R N O T t12 t13 t41 t42 t43 s QR:=
 pL VN cF h
theorem AOo (h :
 xI .add t18 (AA 1) λa=>
 lG R N O T t0 t6 t16 t17 a s QR):AG5 R N O T t0 t6 t16 t17 t18 s QR:=
 pC VN cF h
theorem AOj (h :
 Cl s 1 t41 t43 λa=>
 xL R s a λb=>
 C1 Y4 [(0,1,(AA 3)),(3,1,b)] λc=>
 Dc false s 4 Y4 1 [(0,4,c)] λd e=>
(4=4/\4≠0)/\EL false (lf R 88 N O T) e 25 4 56 t13 d λf g=>
 AG7 R N O T t12 f t41 t42 t43 g QR):AG6 R N O T t12 t13 t41 t42 t43 t44 s QR:=
 pC VN cF h
theorem AEN (h :
 QR (.tuple [t13,t12]) s):vU R N O T t12 t13 s QR:=
 pC VN cF h
theorem AOl (h :
 xI .add t43 (AA 1) λa=>
 cG R N O T t12 t13 t41 t42 a s QR):AG7 R N O T t12 t13 t41 t42 t43 s QR:=
 pC VN cF h
theorem m88 {L:A3} {Post:AV->AM->Prop} (hn:Bb [t0,t1]=false) (h:AG2 R 0 L.ro L.rt t0 t1 s (QM (L.rr 88) s.bs.length Post)):∃v s',Post v s'/\A8 (env R) L 88 [t0,t1] s v s':=
 hM Tryz.func88 hn h
theorem AN2 (h :
 B6 s t0 λa b=>
 B6 b t1 λc d=>
 Bw d Y4 λe f=>
 xM R f 4 a λg=>
 xC R 89 N O T 121 [g,(AA 0),(.func (.func 122) [] [c])] f λi j=>
 CR (lf R 89 N O T) j 4 e i λk=>
 xM R k 4 e λl=>
 QR l k):AG8 R N O T t0 t1 s QR:=
 pC AXy cF h
theorem e89 {u0 u1:AV} {Post:AV->Prop} (Ba:AU [] 0 0 [t0,t1]=some [u0,u1]) (h:AG8 R 0 0 0 u0 u1 ⟨[],[]⟩ (QP Post)):AL (env R) 89 [t0,t1] Post:=
 hR Tryz.func89 Ba h
theorem AJK (h :
 B6 s t0 λa b=>
 Bw b Y4 λc d=>
 xM R d 4 a λe=>
 Bw d Y4 λf g=>
 CR (lf R 121 N O T) g 4 f e λi=>
 BD i f 3 λj=>
 CR (lf R 121 N O T) i 1 j (.AB []) λk=>
 xF R k a 0 λm=>
 xI .eql m (AA 5) λn=>
 AO n (
 xF R k a 2 λp=>
 EK (env R) (lf R 121 N O T) t2 [p,t1] k λq u=>
 DC q 0 λv=>
 DC q 1 λw=>
 bM u (RR v) (some 0) .neq v (.pv (.sc (.pointer none))) λx=>
 AO x (
 D0 u v λy=>
 xM R u 4 y λz=>
 xC R 121 N O T 146 [z] u λaa ab=>
 CR (lf R 121 N O T) ab 4 c aa λac=>
 xM R ac 4 c λad=>
 QR ad ac) (
 Yc R N O T t1 t2 a c f w u QR)) (
 QD R N O T t1 t2 a c f k QR)):AAT R N O T t0 t1 t2 s QR:=
 pC UU cF h
theorem AJM (h :
 BD s t7 2 λa=>
 CR (lf R 121 N O T) s 1 a t9 λb=>
 QD R N O T t1 t2 t3 t6 t7 b QR):Yc R N O T t1 t2 t3 t6 t7 t9 s QR:=
 pC UU cF h
theorem AJL (h :
 xF R s t3 3 λb=>
 BV s b λc=>
 Yb R N O T t1 t2 t3 t6 t7 b c (AA 0) s QR):QD R N O T t1 t2 t3 t6 t7 s QR:=
 pC UU cF h
theorem uv (h :
 xI .lss t36 t35 λa=>
 AO a (
 AAU R N O T t1 t2 t3 t6 t7 t34 t35 t36 a s QR) (
 AAV R N O T t6 t7 s QR)):Yb R N O T t1 t2 t3 t6 t7 t34 t35 t36 s QR:=
 pL UU cF h
theorem AJG (h :
 Cl s 4 t34 t36 λa=>
 xM R s 4 a λb=>
 Bw s Y4 λc d=>
 CR (lf R 121 N O T) d 4 c b λe=>
 BD e t7 3 λf=>
 xL R e f λg=>
 xM R e 4 c λi=>
 xM R e 4 t3 λj=>
 xC R 121 N O T 119 [j,t36] e λk l=>
 xI .add t1 k λm=>
 xC R 121 N O T 121 [i,m,t2] l λn o=>
 Dc false o 4 Y4 1 [(0,4,n)] λp q=>
(4=4/\4≠0)/\EL false (lf R 121 N O T) o 25 4 56 g p λu w=>
 BD w t7 3 λx=>
 CR (lf R 121 N O T) w 1 x u λy=>
(BD l t7 3 λz=>CQ z f=true) /\
(BD o t7 3 λaa=>CQ aa f=true) /\
(xL R l f λab=>CQ ab g=true) /\
(xL R o f λac=>CQ ac g=true) /\
(xM R l 4 c λad=>CQ ad i=true) /\
 AAW R N O T t1 t2 t3 t6 t7 t34 t35 t36 y QR):AAU R N O T t1 t2 t3 t6 t7 t34 t35 t36 t37 s QR:=
 pC UU cF h
theorem AJF (h :
 xM R s 4 t7 λa=>
 CR (lf R 121 N O T) s 4 t6 a λb=>
 xM R b 4 t6 λc=>
 QR c b):AAV R N O T t6 t7 s QR:=
 pC UU cF h
theorem AJH (h :
 xI .add t36 (AA 1) λa=>
 Yb R N O T t1 t2 t3 t6 t7 t34 t35 a s QR):AAW R N O T t1 t2 t3 t6 t7 t34 t35 t36 s QR:=
 pC UU cF h
theorem i121 {Post:AV->Prop} (Ba:AU [] 0 0 [t0,t1,t2]=none) (h:AAT R s.bs.length s.bs.length s.ts.length t0 t1 t2 s (QI s.bs.length s.ts.length Post)):∃v,Post v/\∀L,A8 (env R) L 121 [t0,t1,t2] s v s:=
 hI Tryz.func121 Ba h
theorem AJD (h :
 xI .eql t0 t1 λa=>
 AO a (
 QR (.tuple [t2,(AA 0)]) s) (
 xI .gtr t0 t1 λb=>
 AO b (
 xI .sub t0 (AA 1) λc=>
 QR (.tuple [(.pv (.sc (.pointer none))),c]) s) (
 AAY R N O T t0 s QR))):AAX R N O T t0 t1 t2 s QR:=
 pC AG9 cF h
theorem AJE (h :
 QR (.tuple [(.pv (.sc (.pointer none))),t0]) s):AAY R N O T t0 s QR:=
 pC AG9 cF h
theorem AUv {L:A3} {Post:AV->AM->Prop} (hn:Bb [t0,t1,t2]=false) (h:AAX R 0 L.ro L.rt t0 t1 t2 s (QM (L.rr 122) s.bs.length Post)):∃v s',Post v s'/\A8 (env R) L 122 [t0,t1,t2] s v s':=
 hM Tryz.func122 hn h
theorem AJB (h :
 B6 s t0 λa b=>
 Bw b Y4 λc d=>
 xM R d 4 a λe=>
 Bw d Y4 λf g=>
 CR (lf R 146 N O T) g 4 f e λi=>
 BD i f 3 λj=>
 CR (lf R 146 N O T) i 1 j (.AB []) λk=>
 xF R k a 3 λm=>
 BV k m λn=>
 Ya R N O T c f m n (AA 0) k QR):AAb R N O T t0 s QR:=
 pC dh cF h
theorem ur (h :
 xI .lss t11 t10 λa=>
 AO a (
 AAc R N O T t2 t3 t9 t10 t11 a s QR) (
 AAd R N O T t2 t3 s QR)):Ya R N O T t2 t3 t9 t10 t11 s QR:=
 pL dh cF h
theorem AI9 (h :
 Cl s 4 t9 t11 λa=>
 xM R s 4 a λb=>
 Bw s Y4 λc d=>
 CR (lf R 146 N O T) d 4 c b λe=>
 BD e t3 3 λf=>
 xL R e f λg=>
 xM R e 4 c λi=>
 xC R 146 N O T 146 [i] e λj k=>
 Dc false k 4 Y4 1 [(0,4,j)] λl m=>
(4=4/\4≠0)/\EL false (lf R 146 N O T) k 25 4 56 g l λn o=>
 BD o t3 3 λp=>
 CR (lf R 146 N O T) o 1 p n λq=>
(BD k t3 3 λu=>CQ u f=true) /\
(xL R k f λw=>CQ w g=true) /\
 AAe R N O T t2 t3 t9 t10 t11 q QR):AAc R N O T t2 t3 t9 t10 t11 t12 s QR:=
 pC dh cF h
theorem AI8 (h :
 xM R s 4 t3 λa=>
 CR (lf R 146 N O T) s 4 t2 a λb=>
 xM R b 4 t2 λc=>
 QR c b):AAd R N O T t2 t3 s QR:=
 pC dh cF h
theorem AJA (h :
 xI .add t11 (AA 1) λa=>
 Ya R N O T t2 t3 t9 t10 a s QR):AAe R N O T t2 t3 t9 t10 t11 s QR:=
 pC dh cF h
theorem AUu {u0:AV} {Post:AV->Prop} (Ba:AU [] 0 0 [t0]=some [u0]) (h:AAb R 0 0 0 u0 ⟨[],[]⟩ (QP Post)):AL (env R) 146 [t0] Post:=
 hR Tryz.func146 Ba h
theorem ANx (h :
 Bw s Y4 λa b=>
 xC R 90 N O T 123 [t0] b λc d=>
 Fi .add (SS [36]) c λe=>
 C1 Y4 [(0,1,(AA 2)),(1,1,e)] λf=>
 CR (lf R 90 N O T) d 4 a f λg=>
 xM R g 4 a λi=>
 QR i g):AHA R N O T t0 s QR:=
 pC AXz cF h
theorem e90 {u0:AV} {Post:AV->Prop} (Ba:AU [] 0 0 [t0]=some [u0]) (h:AHA R 0 0 0 u0 ⟨[],[]⟩ (QP Post)):AL (env R) 90 [t0] Post:=
 hR Tryz.func90 Ba h
theorem AD4 (h :
 B6 s t0 λa b=>
 xF R b a 0 λd=>
 xI .neq d (AA 2) λe=>
 g1 e false b (BD b a 1) λg i=>
 g1 e false i (xL R i g) λk l=>
 g1 e false l (GL k) λn o=>
 g1 e false o (xI .lss n (AA 2)) λq u=>
 Ay e (BB true) q λv=>
 g1 v false u (BD u a 1) λx y=>
 g1 v false y (xL R y x) λaa ab=>
 g1 v false ab (L9 aa (AA 0)) λad ae=>
 g1 v false ae (Cb .u8 .neq ad (.pv (.sc (.int .u8 36)))) λag ah=>
 Ay v (BB true) ag λai=>
 AO ai (
 QR (.tuple [(AA 0),(BB false)]) ah) (
 AHB R N O T a ah QR)):uo R N O T t0 s QR:=
 pC ASa cF h
theorem ANw (h :
 BD s t1 1 λa=>
 xL R s a λb=>
 TW (env R) (lf R 92 N O T) s (EC [(23,b),(22,a),(1,t1)]) (ADA (sn b92 14) 2) λc d=>
 xC R 92 N O T 124 [c] d λe f=>
 DC e 0 λg=>
 DC e 1 λi=>
 TW (env R) (lf R 92 N O T) f (EC [(29,i),(28,g),(5,i),(4,g),(27,i),(26,g),(21,e),(25,e),(24,c),(23,b),(22,a),(1,t1)]) (ADA (sn b92 30) 2) λj k=>
 QR (.tuple [g,j]) f):AHB R N O T t1 s QR:=
 pC ASa cF h
theorem e92 {u0:AV} {Post:AV->Prop} (Ba:AU [] 0 0 [t0]=some [u0]) (h:uo R 0 0 0 u0 ⟨[],[]⟩ (QP Post)):AL (env R) 92 [t0] Post:=
 hR Tryz.func92 Ba h
theorem AOB (h :
 BV s t0 λa=>
 kV R N O T t0 t1 a (AA 0) s QR):AHC R N O T t0 t1 s QR:=
 pC AAf cF h
theorem AD8 (h :
 xI .lss t8 t7 λa=>
 AO a (
 AHD R N O T t0 t1 t7 t8 a s QR) (
 AHE R N O T  s QR)):kV R N O T t0 t1 t7 t8 s QR:=
 pL AAf cF h
theorem AOD (h :
 Cl s 1 t0 t8 λa=>
 xL R s a λb=>
 xI .eql t1 b λc=>
 AO c (
 QR t8 s) (
 AHF R N O T t0 t1 t7 t8 s QR)):AHD R N O T t0 t1 t7 t8 t9 s QR:=
 pC AAf cF h
theorem AOC (h :
 QR (AA (-1)) s):AHE R N O T  s QR:=
 pC AAf cF h
theorem AOE (h :
 xI .add t8 (AA 1) λa=>
 kV R N O T t0 t1 t7 a s QR):AHF R N O T t0 t1 t7 t8 s QR:=
 pC AAf cF h
theorem e93 {u0 u1:AV} {Post:AV->Prop} (Ba:AU [] 0 0 [t0,t1]=some [u0,u1]) (h:AHC R 0 0 0 u0 u1 ⟨[],[]⟩ (QP Post)):AL (env R) 93 [t0,t1] Post:=
 hR Tryz.func93 Ba h
theorem AN4 (h :
 B6 s t0 λa b=>
 Bw b Y4 λc d=>
 xM R d 4 a λe=>
 xC R 70 N O T 107 [e,(.AB [])] d λf g=>
 CR (lf R 70 N O T) g 4 c f λi=>
 xM R i 4 c λj=>
 QR j i):AHG R N O T t0 s QR:=
 pC AX0 cF h
theorem e70 {u0:AV} {Post:AV->Prop} (Ba:AU [] 0 0 [t0]=some [u0]) (h:AHG R 0 0 0 u0 ⟨[],[]⟩ (QP Post)):AL (env R) 70 [t0] Post:=
 hR Tryz.func70 Ba h
theorem AJP (h :
 B6 s t0 λa b=>
 B6 b t1 λc d=>
 Bw d Y4 λe f=>
 xM R f 4 a λg=>
 xC R 107 N O T 121 [g,(AA 0),(.func (.func 134) [] [c])] f λi j=>
 CR (lf R 107 N O T) j 4 e i λk=>
 xM R k 4 e λl=>
 QR l k):AAg R N O T t0 t1 s QR:=
 pC ASd cF h
theorem AUz {u0 u1:AV} {Post:AV->Prop} (Ba:AU [] 0 0 [t0,t1]=some [u0,u1]) (h:AAg R 0 0 0 u0 u1 ⟨[],[]⟩ (QP Post)):AL (env R) 107 [t0,t1] Post:=
 hR Tryz.func107 Ba h
theorem AJO (h :
 xI .sub t0 t1 λa=>
 xI .geq t0 t1 λb=>
 g0 b true s a λc d=>
 g1 b true d (xL R d t2) λf g=>
 g1 b true g (BV g f) λj k=>
 g1 b true k (xI .lss c j) λm n=>
 Ay b m (BB false) λo=>
 AO o (
 xL R n t2 λp=>
 Cl n 4 p a λq=>
 QR (.tuple [q,(AA 0)]) n) (
 AAi R N O T t0 n QR)):AAh R N O T t0 t1 t2 s QR:=
 pC AHH cF h
theorem uy (h :
 QR (.tuple [(.pv (.sc (.pointer none))),t0]) s):AAi R N O T t0 s QR:=
 pC AHH cF h
theorem AUy {L:A3} {Post:AV->AM->Prop} (hn:Bb [t0,t1,t2]=false) (h:AAh R 0 L.ro L.rt t0 t1 t2 s (QM (L.rr 134) s.bs.length Post)):∃v s',Post v s'/\A8 (env R) L 134 [t0,t1,t2] s v s':=
 hM Tryz.func134 hn h
theorem AN9 (h :
 B6 s t0 λa b=>
 Bw b [(.AB [])] λc d=>
 Bw d [(.pv (.sc .nilFunc))] λe f=>
 CR (lf R 23 N O T) f 1 e (.func (.func 56) [] [c,e]) λg=>
 xL R g e λi=>
 xG R g a 1 4 λk=>
 EK (env R) (lf R 23 N O T) i [k] g λl m=>
 xL R m c λn=>
 QR n m):AHI R N O T t0 s QR:=
 pC AX3 cF h
theorem e23 {u0:AV} {Post:AV->Prop} (Ba:AU [] 0 0 [t0]=some [u0]) (h:AHI R 0 0 0 u0 ⟨[],[]⟩ (QP Post)):AL (env R) 23 [t0] Post:=
 hR Tryz.func23 Ba h
theorem AN8 (h :
 B6 s t0 λa b=>
 xF R b a 0 λd=>
 xI .eql d (AA 5) λe=>
 AO e (
 xL R b t1 λf=>
 xF R b a 2 λi=>
 Dc false b 1 [(AA 0)] 1 [(0,1,i)] λj k=>
(1=1/\1≠0)/\EL false (lf R 56 N O T) k 3 1 8 f j λl m=>
 CR (lf R 56 N O T) m 1 t1 l λn=>
 QR (.tuple []) n) (
 xI .eql d (AA 3) λo=>
 AO o (
 xF R b a 3 λq=>
 BV b q λu=>
 kU R N O T t2 q u (AA 0) b QR) (
 QR (.tuple []) b))):AHJ R N O T t0 t1 t2 s QR:=
 pC ADG cF h
theorem AD7 (h :
 xI .lss t20 t19 λa=>
 AO a (
 AHK R N O T t2 t18 t19 t20 a s QR) (
 QR (.tuple []) s)):kU R N O T t2 t18 t19 t20 s QR:=
 pL ADG cF h
theorem AN5 (h :
 Cl s 4 t18 t20 λa=>
 xM R s 4 a λb=>
 Bw s Y4 λc d=>
 CR (lf R 56 N O T) d 4 c b λe=>
 xL R e t2 λf=>
 xM R e 4 c λg=>
 EK (env R) (lf R 56 N O T) f [g] e λi j=>
 AHL R N O T t2 t18 t19 t20 j QR):AHK R N O T t2 t18 t19 t20 t21 s QR:=
 pC ADG cF h
theorem AN7 (h :
 xI .add t20 (AA 1) λa=>
 kU R N O T t2 t18 t19 a s QR):AHL R N O T t2 t18 t19 t20 s QR:=
 pC ADG cF h
theorem m56 {L:A3} {Post:AV->AM->Prop} (hn:Bb [t0,t1,t2]=false) (h:AHJ R 0 L.ro L.rt t0 t1 t2 s (QM (L.rr 56) s.bs.length Post)):∃v s',Post v s'/\A8 (env R) L 56 [t0,t1,t2] s v s':=
 hM Tryz.func56 hn h
theorem APF (h :
 B6 s t0 λa b=>
 Bw b [(.AB [])] λc d=>
 xM R d 4 a λe=>
 xC R 43 N O T 87 [e,(AA 0),c] d λf g=>
 xF R g c 0 λj=>
 QR j g):AHM R N O T t0 s QR:=
 pC AX4 cF h
theorem e43 {u0:AV} {Post:AV->Prop} (Ba:AU [] 0 0 [t0]=some [u0]) (h:AHM R 0 0 0 u0 ⟨[],[]⟩ (QP Post)):AL (env R) 43 [t0] Post:=
 hR Tryz.func43 Ba h
theorem APC (h :
 B6 s t0 λa b=>
 xF R b a 0 λd=>
 xI .eql d (AA 5) λe=>
 g1 e true b (BD b a 2) λg i=>
 g1 e true i (xL R i g) λk l=>
 g0 e true l t1 λm n=>
 g1 e true n (xI .geq k m) λp q=>
 Ay e p (BB false) λu=>
 AO u (
 xF R q a 2 λw=>
 xI .sub w t1 λx=>
 xC R 87 N O T 118 [t2,x] q λy z=>
 lX R N O T t1 t2 a z QR) (
 lX R N O T t1 t2 a q QR)):wA R N O T t0 t1 t2 s QR:=
 pC AAj cF h
theorem APD (h :
 xF R s t3 3 λb=>
 BV s b λc=>
 lW R N O T t1 t2 t3 b c (AA 0) s QR):lX R N O T t1 t2 t3 s QR:=
 pC AAj cF h
theorem AEU (h :
 xI .lss t26 t25 λa=>
 AO a (
 AHN R N O T t1 t2 t3 t24 t25 t26 a s QR) (
 QR (.tuple []) s)):lW R N O T t1 t2 t3 t24 t25 t26 s QR:=
 pL AAj cF h
theorem AO8 (h :
 Cl s 4 t24 t26 λa=>
 xM R s 4 a λb=>
 Bw s Y4 λc d=>
 CR (lf R 87 N O T) d 4 c b λe=>
 xM R e 4 c λf=>
 xM R e 4 t3 λg=>
 xC R 87 N O T 119 [g,t26] e λi j=>
 xI .add t1 i λk=>
 xC R 87 N O T 87 [f,k,t2] j λl m=>
(xM R j 4 c λn=>CQ n f=true) /\
 AHO R N O T t1 t2 t3 t24 t25 t26 m QR):AHN R N O T t1 t2 t3 t24 t25 t26 t27 s QR:=
 pC AAj cF h
theorem APB (h :
 xI .add t26 (AA 1) λa=>
 lW R N O T t1 t2 t3 t24 t25 a s QR):AHO R N O T t1 t2 t3 t24 t25 t26 s QR:=
 pC AAj cF h
theorem m87 {L:A3} {Post:AV->AM->Prop} (h:wA R L.n0 L.ro L.rt t0 t1 t2 s Post):∃v s',Post v s'/\A8 (env R) L 87 [t0,t1,t2] s v s':=
 hE Tryz.func87 h
theorem AJ7 (h :
 D0 s t0 λa=>
 xF R s a 0 λc=>
 xC R 118 N O T 142 [c,t1] s λd e=>
 DC d 0 λf=>
 DC d 1 λg=>
 DY g λi=>
 AO i (
 D0 e t0 λj=>
 xF R e j 0 λl=>
 Dc false e 1 [(AA 0)] 1 [(0,1,t1)] λm n=>
 xC R 118 N O T 143 [l,f,m] n λo p=>
 D0 p t0 λq=>
 BD p q 0 λu=>
 CR (lf R 118 N O T) p 1 u o λv=>
 QR (.tuple []) v) (
 QR (.tuple []) e)):AAk R N O T t0 t1 s QR:=
 pC ASi cF h
theorem AVa {L:A3} {Post:AV->AM->Prop} (h:AAk R L.n0 L.ro L.rt t0 t1 s Post):∃v s',Post v s'/\A8 (env R) L 118 [t0,t1] s v s':=
 hE Tryz.func118 h
theorem vv (h :
 BV s t0 λa=>
 Tv R N O T t0 t1 a (AA 0) a s QR):jC R N O T t0 t1 s QR:=
 pC nS cF h
theorem hY (h :
 xI .lss t7 t8 λa=>
 AO a (
 AAl R N O T t0 t1 t6 t7 t8 s QR) (
 AAm R N O T t0 t1 t6 t7 s QR)):Tv R N O T t0 t1 t6 t7 t8 s QR:=
 pL nS cF h
theorem AJ4 (h :
 xI .add t7 t8 λa=>
 MN .u64 a λb=>
 Cb .u64 .shr b (.pv (.sc (.int .u64 1))) λc=>
 MN .i64 c λd=>
 Cl s 1 t0 d λe=>
 xL R s e λf=>
 xC R 142 N O T 162 [f,t1] s λg i=>
 AO g (
 xI .add d (AA 1) λj=>
 Tv R N O T t0 t1 t6 j t8 i QR) (
 Tv R N O T t0 t1 t6 t7 d i QR)):AAl R N O T t0 t1 t6 t7 t8 s QR:=
 pC nS cF h
theorem vu (h :
 xI .lss t7 t6 λa=>
 g0 a true s t0 λb c=>
 g0 a true c t7 λd e=>
 g1 a true e (Cl e 1 b d) λg i=>
 g1 a true i (xL R i g) λk l=>
 g0 a true l t1 λm n=>
 g1 a true n (xI .eql k m) λp q=>
 g0 a true q p λu v=>
 g0 u false v t0 λw x=>
 g0 u false x t7 λy z=>
 g1 u false z (Cl z 1 w y) λab ac=>
 g1 u false ac (xL R ac ab) λae af=>
 Hs u false af (xC R 142 N O T 163 [ae] af) λai aj=>
 g0 u false aj ai λak al=>
 g0 ak true al t1 λam an=>
 Hs ak true an (xC R 142 N O T 163 [am] an) λaq ar=>
 g1 u false ar (Ay ak aq (BB false)) λav aw=>
 g1 a true aw (Ay u (BB true) av) λay az=>
 Ay a ay (BB false) λa0=>
 QR (.tuple [t7,a0]) az):AAm R N O T t0 t1 t6 t7 s QR:=
 pC nS cF h
theorem AVX {u0 u1:AV} {Post:AV->Prop} (Ba:AU [] 0 0 [t0,t1]=some [u0,u1]) (h:jC R 0 0 0 u0 u1 ⟨[],[]⟩ (QP Post)):AL (env R) 142 [t0,t1] Post:=
 hR Tryz.func142 Ba h
theorem i142 {Post:AV->Prop} (Ba:AU [] 0 0 [t0,t1]=none) (h:jC R s.bs.length s.bs.length s.ts.length t0 t1 s (QI s.bs.length s.ts.length Post)):∃v,Post v/\∀L,A8 (env R) L 142 [t0,t1] s v s:=
 hI Tryz.func142 Ba h
theorem AJ3 (h :
 xC R 162 N O T 152 [t0] s λa b=>
 g0 a true b t1 λc d=>
 Hs a true d (xC R 162 N O T 152 [c] d) λg i=>
 g1 a true i (DY g) λk l=>
 Ay a k (BB false) λm=>
 g0 m false l t0 λn o=>
 g0 m false o t1 λp q=>
 g1 m false q (xI .lss n p) λv w=>
 Ay m (BB true) v λx=>
 QR x w):AAn R N O T t0 t1 s QR:=
 pC ASj cF h
theorem AVV {u0 u1:AV} {Post:AV->Prop} (Ba:AU [] 0 0 [t0,t1]=some [u0,u1]) (h:AAn R 0 0 0 u0 u1 ⟨[],[]⟩ (QP Post)):AL (env R) 162 [t0,t1] Post:=
 hR Tryz.func162 Ba h
end
end Go.Proofs.YtpgfpakdnijngaaGreatDoor
