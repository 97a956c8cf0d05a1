/-
  What the points of some functions' code need: written by a program (wip/tel/GenW.lean.txt).
-/
import Derived.Test.YtpgfpakdnijngaaGreatDoorWx
set_option linter.unusedSimpArgs false
set_option linter.unusedVariables false
namespace Go.Proofs.YtpgfpakdnijngaaGreatDoor
open Go.Tel
noncomputable section
section
variable (R:RT) (n0 ro rt:Nat) (t0 t1 t2 t3 t4 t5 t6 t7 t8 t9 t10 t11 t12 t13 t14 t15 t16 t17 t18 t19 t20 t21 t23 t24 t25 t26 t27 t31 t32 t33 t34 t35 t36 t37 t38 t39 t40 t41 t42 t43 t44 t45 t46:AV)
noncomputable def cP:Code:=Tryz.f14.body.getD .skip
def Yt:Nat->List Nat:=ln [[],[1],[1,20],[1],[1,4],[4,5,6],[4,5,30],[4,5],[4,5,7],[4,5,7,8],[4,7,8,31,32,33],[4,7,8,31,32,33,34],[4,7,8,10,31,32,33],[4,7,8,11,31,32,33],[4,7,8,11,31,32,33,42],[4,7,8,11,31,32,33],[4,7,8,31,32,33],[7,8],[7,54],[7]]
abbrev Q14:=Wq R n0 ro rt 14 56 [.tmp 2,.tmp 3]
def ACJ:=Q14 R n0 ro rt (sub cP []) [] [(0,t0)]
def ACK:=Q14 R n0 ro rt (sn cP 7) [] [(1,t1)]
def ACL:=Q14 R n0 ro rt (sn cP 63) [] [(4,t4),(5,t5)]
def j9:=Q14 R n0 ro rt (.loop (sn cP 4084)) [.blk 0,.seq (sn cP 511)] [(4,t4),(7,t7),(8,t8),(31,t31),(32,t32),(33,t33)]
def ACN:=Q14 R n0 ro rt (sn cP 16339) [.loop (sn cP 4084),.blk 0,.seq (sn cP 511)] [(4,t4),(7,t7),(8,t8),(31,t31),(32,t32),(33,t33),(34,t34)]
def sS:=Q14 R n0 ro rt (sn cP 511) [] [(7,t7),(8,t8)]
def ACO:=Q14 R n0 ro rt (sn cP 522855) [.blk 1,.seq (sn cP 32679),.loop (sn cP 4084),.blk 0,.seq (sn cP 511)] [(4,t4),(7,t7),(8,t8),(11,t11),(31,t31),(32,t32),(33,t33)]
def ACP:=Q14 R n0 ro rt (sn cP 1023) [] [(7,t7)]
def ACQ:=Q14 R n0 ro rt (sn cP 32679) [.loop (sn cP 4084),.blk 0,.seq (sn cP 511)] [(4,t4),(7,t7),(8,t8),(31,t31),(32,t32),(33,t33)]
noncomputable def mq:Code:=Tryz.f44.body.getD .skip
def gH:Nat->List Nat:=ln [[],[0,3],[0,3,6],[0,3,6,7],[0,3,6,7,14],[0,3,6,7,14,15],[0,3,6,7,14,15],[],[0,3,6,7,14,20],[0,6,7,23,24,25],[0,6,7,23,24,25,26],[0,6,7,9,23,24,25],[0,6,7,10,11,23,24,25],[0,6,7,23,24,25],[],[0,3,6,7,14,43],[],[0,3,6,7,52],[0,3,12],[0,3,12],[0,6,7,12],[0,6,7,12,85],[0,6,7],[6,103],[6]]
abbrev Q44:=Wq R n0 ro rt 44 105 [.tmp 4,.tmp 5]
def bM:=Q44 R n0 ro rt (sub mq []) [] [(0,t0),(1,t1)]
def js:=Q44 R n0 ro rt (sn mq 245) [.blk 0,.seq (sn mq 31)] [(0,t0),(3,t3),(6,t6),(7,t7),(14,t14),(15,t15)]
def Nh:=Q44 R n0 ro rt (sn mq 31) [] [(0,t0),(6,t6),(7,t7)]
def jq:=Q44 R n0 ro rt (.loop (sn mq 15732)) [.blk 1,.blk 0,.seq (sn mq 31)] [(0,t0),(6,t6),(7,t7),(23,t23),(24,t24),(25,t25)]
def ACR:=Q44 R n0 ro rt (sn mq 63) [] [(6,t6)]
def ACS:=Q44 R n0 ro rt (sn mq 62931) [.loop (sn mq 15732),.blk 1,.blk 0,.seq (sn mq 31)] [(0,t0),(6,t6),(7,t7),(23,t23),(24,t24),(25,t25),(26,t26)]
def jr:=Q44 R n0 ro rt (sn mq 125863) [.loop (sn mq 15732),.blk 1,.blk 0,.seq (sn mq 31)] [(0,t0),(6,t6),(7,t7),(23,t23),(24,t24),(25,t25)]
noncomputable def xy:Code:=Tryz.f45.body.getD .skip
def uw:Nat->List Nat:=ln [[],[2,3,4],[2,3,4,5],[2,3,4,5,6],[2,3,4,5,6],[2,4,5,7],[2,4,7,15,16,17],[2,4,7,15,16,17,18],[2,4,7,9,15,16,17],[2,4,7,15,16,17],[4,7]]
abbrev Q45:=Wq R n0 ro rt 45 36 [.cell 4 45]
def ACT:=Q45 R n0 ro rt (sub xy []) [] [(0,t0),(1,t1)]
def aZ:=Q45 R n0 ro rt (.loop (sn xy 1012)) [.blk 0,.seq (sn xy 127)] [(2,t2),(4,t4),(7,t7),(15,t15),(16,t16),(17,t17)]
def ACU:=Q45 R n0 ro rt (sn xy 4051) [.loop (sn xy 1012),.blk 0,.seq (sn xy 127)] [(2,t2),(4,t4),(7,t7),(15,t15),(16,t16),(17,t17),(18,t18)]
def ACV:=Q45 R n0 ro rt (sn xy 127) [] [(4,t4),(7,t7)]
def ACW:=Q45 R n0 ro rt (sn xy 8103) [.loop (sn xy 1012),.blk 0,.seq (sn xy 127)] [(2,t2),(4,t4),(7,t7),(15,t15),(16,t16),(17,t17)]
noncomputable def mz:Code:=Tryz.f91.body.getD .skip
def gI:Nat->List Nat:=ln [[],[1,2,3,4,5],ra 7 1 [],[2,3,4,5,6,26],[2,5,6,8],[2,5,6,8,31],[5,8],[3,4,5],[3,4,5,9],[3,4,5,9],[3,5,9,43,44,45],[3,5,9,43,44,45,46],[3,5,9,11,43,44,45],[3,5,9,43,44,45],[5,9]]
abbrev Q91:=Wq R n0 ro rt 91 59 [.cell 5 25]
def ACX:=Q91 R n0 ro rt (sub mz []) [] [(0,t0),(1,t1),(2,t2),(3,t3)]
def jZ:=Q91 R n0 ro rt (sn mz 219) [.seq (sn mz 7)] [(5,t5),(8,t8)]
def ACY:=Q91 R n0 ro rt (sn mz 7) [] [(3,t3),(4,t4),(5,t5)]
def jX:=Q91 R n0 ro rt (.loop (sn mz 500)) [.blk 0,.seq (sn mz 63)] [(3,t3),(5,t5),(9,t9),(43,t43),(44,t44),(45,t45)]
def ACZ:=Q91 R n0 ro rt (sn mz 2003) [.loop (sn mz 500),.blk 0,.seq (sn mz 63)] [(3,t3),(5,t5),(9,t9),(43,t43),(44,t44),(45,t45),(46,t46)]
def ACa:=Q91 R n0 ro rt (sn mz 63) [] [(5,t5),(9,t9)]
def ACb:=Q91 R n0 ro rt (sn mz 4007) [.loop (sn mz 500),.blk 0,.seq (sn mz 63)] [(3,t3),(5,t5),(9,t9),(43,t43),(44,t44),(45,t45)]
noncomputable def b46:Code:=Tryz.f46.body.getD .skip
def AQ5:Nat->List Nat:=ln [[],[1]]
abbrev Q46:=Wq R n0 ro rt 46 13 [.tmp 2]
def ACc:=Q46 R n0 ro rt (sub b46 []) [] [(0,t0)]
noncomputable def kX:Code:=Tryz.f47.body.getD .skip
def nA:Nat->List Nat:=ln ([]::[0]::[0,3]::[3,8,9,10]::[3,8,9,10,11]::rp 3 [3,5,8,9,10] [[3,6,7,8,9,10],[3,8,9,10,32],[3,8,9,10],[]])
abbrev Q47:=Wq R n0 ro rt 47 34 [.tmp 2]
def ACd:=Q47 R n0 ro rt (sub kX []) [] [(0,t0)]
def j8:=Q47 R n0 ro rt (.loop (sn kX 116)) [.blk 0,.seq (sn kX 15)] [(3,t3),(8,t8),(9,t9),(10,t10)]
def ACe:=Q47 R n0 ro rt (sn kX 467) [.loop (sn kX 116),.blk 0,.seq (sn kX 15)] [(3,t3),(8,t8),(9,t9),(10,t10),(11,t11)]
def ACf:=Q47 R n0 ro rt (sn kX 15) [] []
def ux:=Q47 R n0 ro rt (sn kX 935) [.loop (sn kX 116),.blk 0,.seq (sn kX 15)] [(3,t3),(8,t8),(9,t9),(10,t10)]
def ACg:=Q47 R n0 ro rt (sn kX 7475) [.blk 1,.seq (sn kX 935),.loop (sn kX 116),.blk 0,.seq (sn kX 15)] [(3,t3),(5,t5),(8,t8),(9,t9),(10,t10)]
noncomputable def b95:Code:=Tryz.f95.body.getD .skip
def AQ6:Nat->List Nat:=ln [[],[1,2]]
abbrev Q95:=Wq R n0 ro rt 95 7 [.tmp 3]
def ACh:=Q95 R n0 ro rt (sub b95 []) [] [(0,t0),(1,t1)]
noncomputable def b62:Code:=Tryz.f62.body.getD .skip
def AL6:Nat->List Nat:=ln [[],[3,4,5],[3,4,5,7,8],[3,4,5,7,14],[3,4,5]]
abbrev Q62:=Wq R n0 ro rt 62 26 [.tmp 6]
def ACi:=Q62 R n0 ro rt (sub b62 []) [] [(0,t0),(1,t1),(2,t2)]
def ACj:=Q62 R n0 ro rt (sn b62 7) [] [(3,t3),(4,t4),(5,t5)]
noncomputable def AQ7:Code:=Tryz.f103.body.getD .skip
def AL7:Nat->List Nat:=ln [[],[1,2,3,4]]
abbrev AQ8:=Wq R n0 ro rt 103 15 [.tmp 5]
def uy:=AQ8 R n0 ro rt (sub AQ7 []) [] [(0,t0),(1,t1),(2,t2),(3,t3)]
noncomputable def kY:Code:=Tryz.f59.body.getD .skip
def cQ:Nat->List Nat:=ln [[],[1,2,4,7,8],[1,2,4,7,8,9,10],[1,2,4,7,8,9,19],[1,4,7,8,22],[1,4,7,8],[4,7,8,31],[4,8],[1,2,4,7,8],[1,2,4,7,8,36],[1,2,4,7,8],[1,2,4,7,8,11],[1,2,4,7,8,11],[1,2,7,8,11,41,42,43],[1,2,7,8,11,41,42,43,44],[1,2,7,8,11,13,41,42,43],[1,2,7,8,11,41,42,43],[8,11]]
abbrev Q59:=Wq R n0 ro rt 59 59 [.cell 8 25]
def rF:=Q59 R n0 ro rt (sub kY []) [] [(0,t0),(1,t1),(2,t2),(3,t3)]
def V9:=Q59 R n0 ro rt (sn kY 109) [.seq (sn kY 7)] [(4,t4),(8,t8)]
def rE:=Q59 R n0 ro rt (sn kY 7) [] [(1,t1),(2,t2),(4,t4),(7,t7),(8,t8)]
def ACl:=Q59 R n0 ro rt (sn kY 15) [] [(1,t1),(2,t2),(4,t4),(7,t7),(8,t8)]
def je:=Q59 R n0 ro rt (.loop (sn kY 1012)) [.blk 0,.seq (sn kY 127)] [(1,t1),(2,t2),(7,t7),(8,t8),(11,t11),(41,t41),(42,t42),(43,t43)]
def ACm:=Q59 R n0 ro rt (sn kY 4051) [.loop (sn kY 1012),.blk 0,.seq (sn kY 127)] [(1,t1),(2,t2),(7,t7),(8,t8),(11,t11),(41,t41),(42,t42),(43,t43),(44,t44)]
def ACn:=Q59 R n0 ro rt (sn kY 127) [] [(8,t8),(11,t11)]
def ACo:=Q59 R n0 ro rt (sn kY 8103) [.loop (sn kY 1012),.blk 0,.seq (sn kY 127)] [(1,t1),(2,t2),(7,t7),(8,t8),(11,t11),(41,t41),(42,t42),(43,t43)]
noncomputable def RX:Code:=Tryz.f114.body.getD .skip
def UE:Nat->List Nat:=ln [[],[0,4,5],[0,4,5,19],[0,4,5],[0,4,5,8,9],[0,4,5,8,35],[0,4,5,8],[0,4,5,8,10],[0,4,5,10,36,37,38],[0,4,5,10,36,37,38,39],[0,4,5,10,12,36,37,38],[0,4,5,10,12,13,36,37,38],[0,4,5,10,14,15,36,37,38],[0,4,5,10,15,36,37,38],[0,4,5,10,36,37,38,65],[0,4,5,10,36,37,38],[10]]
abbrev gJ:=Wq R n0 ro rt 114 68 [.tmp 6,.tmp 7]
def uz:=gJ R n0 ro rt (sub RX []) [] [(0,t0),(1,t1),(2,t2)]
def u6:=gJ R n0 ro rt (sn RX 7) [] [(0,t0),(4,t4),(5,t5)]
def u7:=gJ R n0 ro rt (sn RX 31) [] [(0,t0),(4,t4),(5,t5),(8,t8)]
def YP:=gJ R n0 ro rt (.loop (sn RX 1012)) [.blk 0,.seq (sn RX 127)] [(0,t0),(4,t4),(5,t5),(10,t10),(36,t36),(37,t37),(38,t38)]
def u9:=gJ R n0 ro rt (sn RX 4051) [.loop (sn RX 1012),.blk 0,.seq (sn RX 127)] [(0,t0),(4,t4),(5,t5),(10,t10),(36,t36),(37,t37),(38,t38),(39,t39)]
def vA:=gJ R n0 ro rt (sn RX 127) [] [(10,t10)]
def vB:=gJ R n0 ro rt (sn RX 8103) [.loop (sn RX 1012),.blk 0,.seq (sn RX 127)] [(0,t0),(4,t4),(5,t5),(10,t10),(36,t36),(37,t37),(38,t38)]
noncomputable def AQ9:Code:=Tryz.f137.body.getD .skip
def AL8:Nat->List Nat:=ln [[],[0,1]]
abbrev ARA:=Wq R n0 ro rt 137 7 [.tmp 3]
def vC:=ARA R n0 ro rt (sub AQ9 []) [] [(0,t0),(1,t1)]
noncomputable def kZ:Code:=Tryz.f81.body.getD .skip
def nB:Nat->List Nat:=ln [[],[0,1,2],[0,1,2,8],[0,2,8,13,14,15],[0,2,8,13,14,15,16],[0,2,8,10,13,14,15],0::2::8::ra 6 10 [],0::2::8::ra 6 10 [24],[0,2,8,11,12,13,14,15],[0,2,8,12,13,14,15],[0,2,8,13,14,15,45],[0,2,8,13,14,15],[8]]
abbrev Q81:=Wq R n0 ro rt 81 48 [.tmp 6,.tmp 7]
def ACp:=Q81 R n0 ro rt (sub kZ []) [] [(0,t0),(1,t1),(2,t2)]
def jl:=Q81 R n0 ro rt (.loop (sn kZ 116)) [.blk 0,.seq (sn kZ 15)] [(0,t0),(2,t2),(8,t8),(13,t13),(14,t14),(15,t15)]
def ACq:=Q81 R n0 ro rt (sn kZ 467) [.loop (sn kZ 116),.blk 0,.seq (sn kZ 15)] [(0,t0),(2,t2),(8,t8),(13,t13),(14,t14),(15,t15),(16,t16)]
def ACr:=Q81 R n0 ro rt (sn kZ 15) [] [(8,t8)]
def jm:=Q81 R n0 ro rt (sn kZ 14951) [.blk 1,.seq (sn kZ 935),.loop (sn kZ 116),.blk 0,.seq (sn kZ 15)] [(0,t0),(2,t2),(8,t8),(11,t11),(12,t12),(13,t13),(14,t14),(15,t15)]
def ACs:=Q81 R n0 ro rt (sn kZ 935) [.loop (sn kZ 116),.blk 0,.seq (sn kZ 15)] [(0,t0),(2,t2),(8,t8),(13,t13),(14,t14),(15,t15)]
noncomputable def Da:Code:=Tryz.f120.body.getD .skip
def KL:Nat->List Nat:=ln [[],[0,1],[0,1,15],[0,1],[0,1,6],[0,6,17,18,19],[0,6,17,18,19,20],[0,6,8,17,18,19],[0,6,8,17,18,19,32],[0,6,8,17,18,19],[0,6,8,9,17,18,19],[0,8,9,17,18,19,33,34,35],[0,8,9,17,18,19,33,34,35,36],[0,8,9,11,17,18,19,33,34,35],[0,8,9,11,17,18,19,33,34,35,39,40,41],[0,8,9,11,17,18,19,33,34,35,39,40,41,42],[0,8,9,11,13,17,18,19,33,34,35,39,40,41],[0,8,9,11,17,18,19,33,34,35,39,40,41],[0,8,9,17,18,19,33,34,35],[0,9,17,18,19],[0,6,17,18,19],[6]]
abbrev Pa:=Wq R n0 ro rt 120 58 [.tmp 4,.tmp 5]
def vD:=Pa R n0 ro rt (sub Da []) [] [(0,t0),(1,t1)]
def vE:=Pa R n0 ro rt (sn Da 7) [] [(0,t0),(1,t1)]
def YZ:=Pa R n0 ro rt (.loop (sn Da 244)) [.blk 0,.seq (sn Da 31)] [(0,t0),(6,t6),(17,t17),(18,t18),(19,t19)]
def vF:=Pa R n0 ro rt (sn Da 979) [.loop (sn Da 244),.blk 0,.seq (sn Da 31)] [(0,t0),(6,t6),(17,t17),(18,t18),(19,t19),(20,t20)]
def vG:=Pa R n0 ro rt (sn Da 31) [] [(6,t6)]
def vH:=Pa R n0 ro rt (sn Da 15667) [.blk 1,.seq (sn Da 1959),.loop (sn Da 244),.blk 0,.seq (sn Da 31)] [(0,t0),(6,t6),(8,t8),(17,t17),(18,t18),(19,t19)]
def YY:=Pa R n0 ro rt (.loop (sn Da 501364)) [.blk 2,.seq (sn Da 62671),.blk 1,.seq (sn Da 1959),.loop (sn Da 244),.blk 0,.seq (sn Da 31)] [(0,t0),(8,t8),(9,t9),(17,t17),(18,t18),(19,t19),(33,t33),(34,t34),(35,t35)]
def vI:=Pa R n0 ro rt (sn Da 2005459) [.loop (sn Da 501364),.blk 2,.seq (sn Da 62671),.blk 1,.seq (sn Da 1959),.loop (sn Da 244),.blk 0,.seq (sn Da 31)] [(0,t0),(8,t8),(9,t9),(17,t17),(18,t18),(19,t19),(33,t33),(34,t34),(35,t35),(36,t36)]
def vJ:=Pa R n0 ro rt (sn Da 62671) [.blk 1,.seq (sn Da 1959),.loop (sn Da 244),.blk 0,.seq (sn Da 31)] [(0,t0),(9,t9),(17,t17),(18,t18),(19,t19)]
def YV:=Pa R n0 ro rt (.loop (sn Da 128349388)) [.blk 4,.blk 3,.seq (sn Da 4010919),.loop (sn Da 501364),.blk 2,.seq (sn Da 62671),.blk 1,.seq (sn Da 1959),.loop (sn Da 244),.blk 0,.seq (sn Da 31)] [(0,t0),(8,t8),(9,t9),(11,t11),(17,t17),(18,t18),(19,t19),(33,t33),(34,t34),(35,t35),(39,t39),(40,t40),(41,t41)]
def YX:=Pa R n0 ro rt (sn Da 1959) [.loop (sn Da 244),.blk 0,.seq (sn Da 31)] [(0,t0),(6,t6),(17,t17),(18,t18),(19,t19)]
def kg:=Pa R n0 ro rt (sn Da 513397555) [.loop (sn Da 128349388),.blk 4,.blk 3,.seq (sn Da 4010919),.loop (sn Da 501364),.blk 2,.seq (sn Da 62671),.blk 1,.seq (sn Da 1959),.loop (sn Da 244),.blk 0,.seq (sn Da 31)] [(0,t0),(8,t8),(9,t9),(11,t11),(17,t17),(18,t18),(19,t19),(33,t33),(34,t34),(35,t35),(39,t39),(40,t40),(41,t41),(42,t42)]
def YU:=Pa R n0 ro rt (sn Da 4010919) [.loop (sn Da 501364),.blk 2,.seq (sn Da 62671),.blk 1,.seq (sn Da 1959),.loop (sn Da 244),.blk 0,.seq (sn Da 31)] [(0,t0),(8,t8),(9,t9),(17,t17),(18,t18),(19,t19),(33,t33),(34,t34),(35,t35)]
def kj:=Pa R n0 ro rt (sn Da 1026795111) [.loop (sn Da 128349388),.blk 4,.blk 3,.seq (sn Da 4010919),.loop (sn Da 501364),.blk 2,.seq (sn Da 62671),.blk 1,.seq (sn Da 1959),.loop (sn Da 244),.blk 0,.seq (sn Da 31)] [(0,t0),(8,t8),(9,t9),(11,t11),(17,t17),(18,t18),(19,t19),(33,t33),(34,t34),(35,t35),(39,t39),(40,t40),(41,t41)]
noncomputable def AL9:Code:=Tryz.f144.body.getD .skip
def AMA:Nat->List Nat:=ln [[],[0,1]]
abbrev ARB:=Wq R n0 ro rt 144 9 [.tmp 4]
def gK:=ARB R n0 ro rt (sub AL9 []) [] [(0,t0),(1,t1)]
noncomputable def AMB:Code:=Tryz.f145.body.getD .skip
def AMC:Nat->List Nat:=ln [[],[0]]
abbrev ARC:=Wq R n0 ro rt 145 6 [.tmp 2]
def vK:=ARC R n0 ro rt (sub AMB []) [] [(0,t0)]
noncomputable def UF:Code:=Tryz.f166.body.getD .skip
def cR:Nat->List Nat:=ln [[],[0,1],[0,1,7,8],[0,1,7,8,9],[0,1,5,7,8],[0,1,5,7,8,16],[0,1,7,8],[]]
abbrev vL:=Wq R n0 ro rt 166 19 [.tmp 4]
def gL:=vL R n0 ro rt (sub UF []) [] [(0,t0),(1,t1)]
def YS:=vL R n0 ro rt (.loop (sn UF 52)) [.blk 0,.seq (sn UF 7)] [(0,t0),(1,t1),(7,t7),(8,t8)]
def vM:=vL R n0 ro rt (sn UF 211) [.loop (sn UF 52),.blk 0,.seq (sn UF 7)] [(0,t0),(1,t1),(7,t7),(8,t8),(9,t9)]
def vN:=vL R n0 ro rt (sn UF 7) [] []
def vO:=vL R n0 ro rt (sn UF 423) [.loop (sn UF 52),.blk 0,.seq (sn UF 7)] [(0,t0),(1,t1),(7,t7),(8,t8)]
noncomputable def UG:Code:=Tryz.f88.body.getD .skip
def VA:Nat->List Nat:=ln [[],[0,1],[0,1,6],[0,6,16,17,18],[0,6,16,17,18,19],[0,6,8,16,17,18],[0,6,9,10,16,17,18],[0,6,9,16,17,18,29],[0,6,9,16,17,18],[0,6,16,17,18],[0,6],[11,12],[11,12,13],[12,13,41,42,43],[12,13,41,42,43,44],[12,13,15,41,42,43],[12,13,41,42,43],[12,13]]
abbrev xz:=Wq R n0 ro rt 88 55 [.tmp 4,.tmp 5]
def ACt:=xz R n0 ro rt (sub UG []) [] [(0,t0),(1,t1)]
def jo:=xz R n0 ro rt (.loop (sn UG 116)) [.blk 0,.seq (sn UG 15)] [(0,t0),(6,t6),(16,t16),(17,t17),(18,t18)]
def ACu:=xz R n0 ro rt (sn UG 467) [.loop (sn UG 116),.blk 0,.seq (sn UG 15)] [(0,t0),(6,t6),(16,t16),(17,t17),(18,t18),(19,t19)]
def rV:=xz R n0 ro rt (sn UG 15) [] [(0,t0),(6,t6)]
def ACv:=xz R n0 ro rt (sn UG 14951) [.blk 1,.seq (sn UG 935),.loop (sn UG 116),.blk 0,.seq (sn UG 15)] [(0,t0),(6,t6),(9,t9),(16,t16),(17,t17),(18,t18)]
def bK:=xz R n0 ro rt (.loop (sn UG 1012)) [.blk 2,.seq (sn UG 127)] [(12,t12),(13,t13),(41,t41),(42,t42),(43,t43)]
def ACw:=xz R n0 ro rt (sn UG 935) [.loop (sn UG 116),.blk 0,.seq (sn UG 15)] [(0,t0),(6,t6),(16,t16),(17,t17),(18,t18)]
def ACx:=xz R n0 ro rt (sn UG 4051) [.loop (sn UG 1012),.blk 2,.seq (sn UG 127)] [(12,t12),(13,t13),(41,t41),(42,t42),(43,t43),(44,t44)]
def rT:=xz R n0 ro rt (sn UG 127) [] [(12,t12),(13,t13)]
def ACy:=xz R n0 ro rt (sn UG 8103) [.loop (sn UG 1012),.blk 2,.seq (sn UG 127)] [(12,t12),(13,t13),(41,t41),(42,t42),(43,t43)]
noncomputable def b89:Code:=Tryz.f89.body.getD .skip
def ARD:Nat->List Nat:=ln [[],[2,3,4]]
abbrev Q89:=Wq R n0 ro rt 89 8 [.cell 4 25]
def ACz:=Q89 R n0 ro rt (sub b89 []) [] [(0,t0),(1,t1)]
noncomputable def Qe:Code:=Tryz.f121.body.getD .skip
def UH:Nat->List Nat:=ln [[],[1,2,3,6],[1,2,3,6,7],[1,2,3,6,7],[1,2,3,6,7,16],[1,2,3,6,7,8,9],[1,2,3,6,7,8,9,26],[1,2,3,6,7,9],[1,2,3,6,7],[1,2,3,6,7,34,35,36],[1,2,3,6,7,34,35,36,37],[1,2,3,6,7,10,11,34,35,36],[1,2,3,6,7,34,35,36],[6,7]]
abbrev gM:=Wq R n0 ro rt 121 56 [.cell 6 25]
def vQ:=gM R n0 ro rt (sub Qe []) [] [(0,t0),(1,t1),(2,t2)]
def YJ:=gM R n0 ro rt (sn Qe 491) [.seq (sn Qe 31)] [(1,t1),(2,t2),(3,t3),(6,t6),(7,t7),(9,t9)]
def QN:=gM R n0 ro rt (sn Qe 31) [] [(1,t1),(2,t2),(3,t3),(6,t6),(7,t7)]
def YH:=gM R n0 ro rt (.loop (sn Qe 500)) [.blk 0,.seq (sn Qe 63)] [(1,t1),(2,t2),(3,t3),(6,t6),(7,t7),(34,t34),(35,t35),(36,t36)]
def vR:=gM R n0 ro rt (sn Qe 2003) [.loop (sn Qe 500),.blk 0,.seq (sn Qe 63)] [(1,t1),(2,t2),(3,t3),(6,t6),(7,t7),(34,t34),(35,t35),(36,t36),(37,t37)]
def vS:=gM R n0 ro rt (sn Qe 63) [] [(6,t6),(7,t7)]
def vT:=gM R n0 ro rt (sn Qe 4007) [.loop (sn Qe 500),.blk 0,.seq (sn Qe 63)] [(1,t1),(2,t2),(3,t3),(6,t6),(7,t7),(34,t34),(35,t35),(36,t36)]
noncomputable def AMD:Code:=Tryz.f122.body.getD .skip
def AC0:Nat->List Nat:=ln [[],[0,1,2],[0,1,2,7],[],[0,11],[0]]
abbrev AME:=Wq R n0 ro rt 122 18 [.tmp 5,.tmp 6]
def vU:=AME R n0 ro rt (sub AMD []) [] [(0,t0),(1,t1),(2,t2)]
def vV:=AME R n0 ro rt (sn AMD 7) [] [(0,t0)]
noncomputable def VB:Code:=Tryz.f146.body.getD .skip
def cS:Nat->List Nat:=ln [[],[1,2],[1,2,3],[1,2,3],[2,3,9,10,11],[2,3,9,10,11,12],[2,3,5,9,10,11],[2,3,9,10,11],[2,3]]
abbrev vW:=Wq R n0 ro rt 146 24 [.cell 2 25]
def vX:=vW R n0 ro rt (sub VB []) [] [(0,t0)]
def YG:=vW R n0 ro rt (.loop (sn VB 244)) [.blk 0,.seq (sn VB 31)] [(2,t2),(3,t3),(9,t9),(10,t10),(11,t11)]
def vY:=vW R n0 ro rt (sn VB 979) [.loop (sn VB 244),.blk 0,.seq (sn VB 31)] [(2,t2),(3,t3),(9,t9),(10,t10),(11,t11),(12,t12)]
def vZ:=vW R n0 ro rt (sn VB 31) [] [(2,t2),(3,t3)]
def ve:=vW R n0 ro rt (sn VB 1959) [.loop (sn VB 244),.blk 0,.seq (sn VB 31)] [(2,t2),(3,t3),(9,t9),(10,t10),(11,t11)]
noncomputable def b90:Code:=Tryz.f90.body.getD .skip
def ARF:Nat->List Nat:=ln [[],[0,2]]
abbrev Q90:=Wq R n0 ro rt 90 7 [.cell 2 25]
def AC1:=Q90 R n0 ro rt (sub b90 []) [] [(0,t0)]
noncomputable def b92:Code:=Tryz.f92.body.getD .skip
def AMF:Nat->List Nat:=ln [[],[1],[1,20],[1],[4,5]]
abbrev Q92:=Wq R n0 ro rt 92 31 [.tmp 2,.tmp 3]
def qc:=Q92 R n0 ro rt (sub b92 []) [] [(0,t0)]
def AC2:=Q92 R n0 ro rt (sn b92 7) [] [(1,t1)]
noncomputable def x7:Code:=Tryz.f93.body.getD .skip
def vg:Nat->List Nat:=ln [[],[0,1],[0,1,7,8],[0,1,7,8,9],[0,1,5,7,8],[0,1,5,7,8,16],[0,1,7,8],[]]
abbrev Q93:=Wq R n0 ro rt 93 19 [.tmp 4]
def AC3:=Q93 R n0 ro rt (sub x7 []) [] [(0,t0),(1,t1)]
def jV:=Q93 R n0 ro rt (.loop (sn x7 52)) [.blk 0,.seq (sn x7 7)] [(0,t0),(1,t1),(7,t7),(8,t8)]
def AC4:=Q93 R n0 ro rt (sn x7 211) [.loop (sn x7 52),.blk 0,.seq (sn x7 7)] [(0,t0),(1,t1),(7,t7),(8,t8),(9,t9)]
def AC5:=Q93 R n0 ro rt (sn x7 7) [] []
def AC6:=Q93 R n0 ro rt (sn x7 423) [.loop (sn x7 52),.blk 0,.seq (sn x7 7)] [(0,t0),(1,t1),(7,t7),(8,t8)]
noncomputable def b70:Code:=Tryz.f70.body.getD .skip
def ARG:Nat->List Nat:=ln [[],[1,2]]
abbrev Q70:=Wq R n0 ro rt 70 5 [.cell 2 25]
def AC7:=Q70 R n0 ro rt (sub b70 []) [] [(0,t0)]
noncomputable def ARH:Code:=Tryz.f107.body.getD .skip
def AMH:Nat->List Nat:=ln [[],[2,3,4]]
abbrev ARI:=Wq R n0 ro rt 107 8 [.cell 4 25]
def vh:=ARI R n0 ro rt (sub ARH []) [] [(0,t0),(1,t1)]
noncomputable def AMI:Code:=Tryz.f134.body.getD .skip
def AC8:Nat->List Nat:=ln [[],[0,1,2],[0,1,2,7],[0,2,7,19],[0]]
abbrev AMJ:=Wq R n0 ro rt 134 24 [.tmp 5,.tmp 6]
def vk:=AMJ R n0 ro rt (sub AMI []) [] [(0,t0),(1,t1),(2,t2)]
def vn:=AMJ R n0 ro rt (sn AMI 7) [] [(0,t0)]
noncomputable def b23:Code:=Tryz.f23.body.getD .skip
def ARJ:Nat->List Nat:=ln [[],[1],[1,3],[1,3,4],[1,3,4],[3]]
abbrev Q23:=Wq R n0 ro rt 23 11 [.tmp 2]
def AC9:=Q23 R n0 ro rt (sub b23 []) [] [(0,t0)]
noncomputable def b56:Code:=Tryz.f56.body.getD .skip
def AAD:Nat->List Nat:=ln [[],[1,2,3],[1,2,3,7],[1,2,3,7,8],[],[2,3,15],[2,18,19,20],[2,18,19,20,21],[2,5,18,19,20],[2,18,19,20]]
abbrev Q56:=Wq R n0 ro rt 56 28 []
def ADA:=Q56 R n0 ro rt (sub b56 []) [] [(0,t0),(1,t1),(2,t2)]
def jS:=Q56 R n0 ro rt (.loop (sn b56 1908)) [.blk 1,.blk 0] [(2,t2),(18,t18),(19,t19),(20,t20)]
def ADB:=Q56 R n0 ro rt (sn b56 7635) [.loop (sn b56 1908),.blk 1,.blk 0] [(2,t2),(18,t18),(19,t19),(20,t20),(21,t21)]
def ADC:=Q56 R n0 ro rt (sn b56 15271) [.loop (sn b56 1908),.blk 1,.blk 0] [(2,t2),(18,t18),(19,t19),(20,t20)]
noncomputable def b43:Code:=Tryz.f43.body.getD .skip
def ARK:Nat->List Nat:=ln [[],[1],[1,3],[3]]
abbrev Q43:=Wq R n0 ro rt 43 8 [.tmp 2]
def ADE:=Q43 R n0 ro rt (sub b43 []) [] [(0,t0)]
noncomputable def b87:Code:=Tryz.f87.body.getD .skip
def vo:Nat->List Nat:=ln [[],[1,2,3],[1,2,3,16],[1,2,3],[1,2,3,24,25,26],[1,2,3,24,25,26,27],[1,2,3,6,7,24,25,26],[1,2,3,24,25,26]]
abbrev Q87:=Wq R n0 ro rt 87 40 []
def sN:=Q87 R n0 ro rt (sub b87 []) [] [(0,t0),(1,t1),(2,t2)]
def j6:=Q87 R n0 ro rt (sn b87 7) [] [(1,t1),(2,t2),(3,t3)]
def j5:=Q87 R n0 ro rt (.loop (sn b87 60)) [.blk 0] [(1,t1),(2,t2),(3,t3),(24,t24),(25,t25),(26,t26)]
def ADF:=Q87 R n0 ro rt (sn b87 243) [.loop (sn b87 60),.blk 0] [(1,t1),(2,t2),(3,t3),(24,t24),(25,t25),(26,t26),(27,t27)]
def ADG:=Q87 R n0 ro rt (sn b87 487) [.loop (sn b87 60),.blk 0] [(1,t1),(2,t2),(3,t3),(24,t24),(25,t25),(26,t26)]
noncomputable def ARL:Code:=Tryz.f118.body.getD .skip
def AML:Nat->List Nat:=ln [[],[0,1,4,5],[0,1,4,16]]
abbrev ARM:=Wq R n0 ro rt 118 28 []
def vp:=ARM R n0 ro rt (sub ARL []) [] [(0,t0),(1,t1)]
noncomputable def gN:Code:=Tryz.f142.body.getD .skip
def kn:Nat->List Nat:=ln [[],[0,1],[0,1,6],[0,1,6,7,8],[0,1,6,7,8],[0,1,6,7,8,9],[0,1,6,7,8,9,27],[],[0,1,6,7]]
abbrev AAE:=Wq R n0 ro rt 142 54 [.tmp 4,.tmp 5]
def gO:=AAE R n0 ro rt (sub gN []) [] [(0,t0),(1,t1)]
def Tm:=AAE R n0 ro rt (.loop (sn gN 120)) [.blk 0,.seq (sn gN 31)] [(0,t0),(1,t1),(6,t6),(7,t7),(8,t8)]
def vq:=AAE R n0 ro rt (sn gN 241) [.loop (sn gN 120),.blk 0,.seq (sn gN 31)] [(0,t0),(1,t1),(6,t6),(7,t7),(8,t8)]
def vr:=AAE R n0 ro rt (sn gN 31) [] [(0,t0),(1,t1),(6,t6),(7,t7)]
noncomputable def ARN:Code:=Tryz.f162.body.getD .skip
def AMM:Nat->List Nat:=ln [[],[0,1]]
abbrev ARO:=Wq R n0 ro rt 162 17 [.tmp 4]
def vt:=ARO R n0 ro rt (sub ARN []) [] [(0,t0),(1,t1)]
end
variable {R:RT} {n0 ro rt:Nat} {s:AK} {QR:QT} {t0 t1 t2 t3 t4 t5 t6 t7 t8 t9 t10 t11 t12 t13 t14 t15 t16 t17 t18 t19 t20 t21 t23 t24 t25 t26 t27 t31 t32 t33 t34 t35 t36 t37 t38 t39 t40 t41 t42 t43 t44 t45 t46:AV}
theorem AJ5 (h :
 Cx s t0 fun a b=>
 xM R b 4 a fun c=>
 xC R 14 n0 ro rt 42 [c] b fun d e=>
 xI .neq d (AD 0) fun f=>
 g1 f false e (xM R e 4 a) fun i j=>
 KX f false j (xC R 14 n0 ro rt 43 [i] j) fun m n=>
 g1 f false n (Bz n m) fun p q=>
 g1 f false q (xI .gtr p (AD 0)) fun v w=>
 Bi f (BB true) v fun x=>
 AX x (
 QR (.tuple [(.AA []),(AD 2)]) w) (
 ACK R n0 ro rt a w QR)):ACJ R n0 ro rt t0 s QR:=
 pC Yt cF h (by kernel_rfl)
theorem AJ6 (h :
 Df [(.AA []),(AD 0)] [(1,1,(AD 32))] fun a=>
 Cx s a fun b c=>
 xM R c 4 t1 fun d=>
 xC R 14 n0 ro rt 44 [b,d] c fun e f=>
 DF e 0 fun g=>
 DF e 1 fun i=>
 Fj i fun j=>
 AX j (
 QR (.tuple [(.AA []),(AD 4)]) f) (
 ACL R n0 ro rt b g f QR)):ACK R n0 ro rt t1 s QR:=
 pC Yt cF h (by kernel_rfl)
theorem AJ7 (h :
 Bz s t5 fun a=>
 j9 R n0 ro rt t4 (.AA []) (.AA []) t5 a (AD 0) s QR):ACL R n0 ro rt t4 t5 s QR:=
 pC Yt cF h (by kernel_rfl)
theorem ABN (h :
 xI .lss t33 t32 fun a=>
 AX a (
 ACN R n0 ro rt t4 t7 t8 t31 t32 t33 a s QR) (
 sS R n0 ro rt t7 t8 s QR)):j9 R n0 ro rt t4 t7 t8 t31 t32 t33 s QR:=
 pL Yt cF h (by kernel_rfl)
theorem AJ1 (h :
 Dc s 4 t31 t33 fun a=>
 xM R s 4 a fun b=>
 CX s Y4 fun c d=>
 C2 (lf R 14 n0 ro rt) d 4 c b fun e=>
 xM R e 4 c fun f=>
 xC R 14 n0 ro rt 45 [t4,f] e fun g i=>
 CX i Y5 fun j k=>
 C2 (lf R 14 n0 ro rt) k 5 j g fun l=>
 xM R l 5 j fun m=>
 xC R 14 n0 ro rt 46 [m] l fun n o=>
 Fj n fun p=>
 AX p (
 QR (.tuple [(.AA []),(AD 4)]) o) (
 ACO R n0 ro rt t4 t7 t8 j t31 t32 t33 o QR)):ACN R n0 ro rt t4 t7 t8 t31 t32 t33 t34 s QR:=
 pC Yt cF h (by kernel_rfl)
theorem AJ8 (h :
 xC R 14 n0 ro rt 47 [t8] s fun a b=>
 Fj a fun c=>
 AX c (
 QR (.tuple [(.AA []),(AD 4)]) b) (
 ACP R n0 ro rt t7 b QR)):sS R n0 ro rt t7 t8 s QR:=
 pC Yt cF h (by kernel_rfl)
theorem AJ2 (h :
 xM R s 5 t11 fun a=>
 D4 true s 5 Y5 1 [(0,5,a)] fun b c=>
(5=5/\5≠0)/\E1 true (lf R 14 n0 ro rt) c 45 5 80 t7 b fun d e=>
 Bo e t11 0 fun f=>
 xL R e f fun g=>
(4=4/\4≠0)/\E1 false (lf R 14 n0 ro rt) e 25 4 56 t8 g fun i j=>
(Bo s t11 0 fun k=>Cu k f=true) /\
(Bo c t11 0 fun l=>Cu l f=true) /\
(xL R s f fun m=>Cu m g=true) /\
(xL R c f fun n=>Cu n g=true) /\
 ACQ R n0 ro rt t4 d i t31 t32 t33 j QR):ACO R n0 ro rt t4 t7 t8 t11 t31 t32 t33 s QR:=
 pC Yt cF h (by kernel_rfl)
theorem AJ9 (h :
 QR (.tuple [t7,(AD 0)]) s):ACP R n0 ro rt t7 s QR:=
 pC Yt cF h (by kernel_rfl)
theorem AJ4 (h :
 xI .add t33 (AD 1) fun a=>
 j9 R n0 ro rt t4 t7 t8 t31 t32 a s QR):ACQ R n0 ro rt t4 t7 t8 t31 t32 t33 s QR:=
 pC Yt cF h (by kernel_rfl)
theorem m14 {L:A0} {Post:AV->AK->Prop} (h:ACJ R L.n0 L.ro L.rt t0 s Post):∃ v s',Post v s'/\BC (env R) L 14 [t0] s v s':=
 hE Tryz.func14 (by kernel_rfl) h
theorem AJb (h :
 Cx s t1 fun a b=>
 xF R b a 0 fun d=>
 xI .eql d (AD 0) fun e=>
 AX e (
 js R n0 ro rt t0 a (.AA []) (BB true) d e b QR) (
 xI .eql d (AD 2) fun f=>
 js R n0 ro rt t0 a (.AA []) (BB true) d f b QR)):bM R n0 ro rt t0 t1 s QR:=
 pC gH cF h (by kernel_rfl)
theorem bN (h :
 AX t15 (
 xM R s 4 t3 fun a=>
 D4 false s 4 Y4 1 [(0,4,a)] fun b c=>
 Nh R n0 ro rt t0 b t7 c QR) (
 xI .eql t14 (AD 4) fun d=>
 AX d (
 xF R s t3 3 fun f=>
 Bz s f fun g=>
 jq R n0 ro rt t0 t6 t7 f g (AD 0) s QR) (
 xI .eql t14 (AD 3) fun i=>
 AX i (
 xF R s t3 3 fun k=>
 xC R 44 n0 ro rt 88 [t0,k] s fun l m=>
 DF l 0 fun n=>
 DF l 1 fun o=>
 Nh R n0 ro rt t0 n o m QR) (
 xI .eql t14 (AD 6) fun p=>
 AX p (
 Eo s t0 fun q=>
 xF R s q 0 fun w=>
 Bz s w fun x=>
 Eo s t0 fun y=>
 xF R s y 0 fun aa=>
 xF R s t3 3 fun ac=>
 Dc s 4 ac (AD 0) fun ad=>
 xM R s 4 ad fun ae=>
 Bz s aa fun af=>
 D4 false s 4 Y4 1 [(0,4,(.agg Y4))] fun ag ah=>
(false=false/\25=25/\4=4/\4≠0)/\wFu (lf R 44 n0 ro rt) s 25 4 56 aa ag af ae fun ai aj=>
 Eo aj t0 fun ak=>
 Bo aj ak 0 fun al=>
 C2 (lf R 44 n0 ro rt) aj 1 al ai fun am=>
 Bo am t3 3 fun an=>
 xL R am an fun ao=>
 Dc am 4 ao (AD 1) fun ap=>
 xM R am 4 ap fun aq=>
 xC R 44 n0 ro rt 90 [x] am fun ar au=>
 xC R 44 n0 ro rt 89 [aq,ar] au fun av aw=>
 xC R 44 n0 ro rt 44 [t0,av] aw fun ax ay=>
 DF ax 0 fun az=>
 DF ax 1 fun a0=>
(Bo au t3 3 fun a1=>Cu a1 an=true) /\
(xL R au an fun a2=>Cu a2 ao=true) /\
(Dc au 4 ao (AD 1) fun a3=>Cu a3 ap=true) /\
(xM R au 4 ap fun a4=>Cu a4 aq=true) /\
 AX a0 (
 xC R 44 n0 ro rt 81 [t0,az,x] ay fun a5 a6=>
 DF a5 0 fun a7=>
 DF a5 1 fun a8=>
 Nh R n0 ro rt t0 a7 a8 a6 QR) (
 Nh R n0 ro rt t0 az a0 ay QR)) (
 Nh R n0 ro rt t0 t6 t7 s QR))))):js R n0 ro rt t0 t3 t6 t7 t14 t15 s QR:=
 pC gH cF h (by kernel_rfl)
theorem ABF (h :
 Fj t7 fun a=>
 g0 a false s t6 fun b c=>
 g1 a false c (Bz c b) fun e f=>
 g0 a false f t0 fun g i=>
 g1 a false i (Eo i g) fun k l=>
 g1 a false l (Bo l k 1) fun n o=>
 g1 a false o (xL R o n) fun q u=>
 g1 a false u (xI .gtr e q) fun w x=>
 Bi a (BB true) w fun y=>
 AX y (
 QR (.tuple [(.AA []),(BB false)]) x) (
 ACR R n0 ro rt t6 x QR)):Nh R n0 ro rt t0 t6 t7 s QR:=
 pC gH cF h (by kernel_rfl)
theorem ABG (h :
 xI .lss t25 t24 fun a=>
 AX a (
 ACS R n0 ro rt t0 t6 t7 t23 t24 t25 a s QR) (
 Nh R n0 ro rt t0 t6 t7 s QR)):jq R n0 ro rt t0 t6 t7 t23 t24 t25 s QR:=
 pL gH cF h (by kernel_rfl)
theorem AJV (h :
 QR (.tuple [t6,(BB true)]) s):ACR R n0 ro rt t6 s QR:=
 pC gH cF h (by kernel_rfl)
theorem AJW (h :
 Dc s 4 t23 t25 fun a=>
 xM R s 4 a fun b=>
 CX s Y4 fun c d=>
 C2 (lf R 44 n0 ro rt) d 4 c b fun e=>
 xM R e 4 c fun f=>
 xC R 44 n0 ro rt 44 [t0,f] e fun g i=>
 DF g 0 fun j=>
 DF g 1 fun k=>
(4=4/\4≠0)/\E1 false (lf R 44 n0 ro rt) i 25 4 56 t6 j fun l m=>
 g0 t7 true m k fun n o=>
 Bi t7 n (BB false) fun p=>
 jr R n0 ro rt t0 l p t23 t24 t25 o QR):ACS R n0 ro rt t0 t6 t7 t23 t24 t25 t26 s QR:=
 pC gH cF h (by kernel_rfl)
theorem AJZ (h :
 xI .add t25 (AD 1) fun a=>
 jq R n0 ro rt t0 t6 t7 t23 t24 a s QR):jr R n0 ro rt t0 t6 t7 t23 t24 t25 s QR:=
 pC gH cF h (by kernel_rfl)
theorem m44 {L:A0} {Post:AV->AK->Prop} (hn:BN [t0,t1]=false) (h:bM R 0 L.ro L.rt t0 t1 s (QM (L.rr 44) s.bs.length Post)):∃ v s',Post v s'/\BC (env R) L 44 [t0,t1] s v s':=
 hM Tryz.func44 (by kernel_rfl) hn h
theorem AI3 (h :
 Cx s t0 fun a b=>
 Cx b t1 fun c d=>
 CX d Y5 fun e f=>
 CX f [(.AA [])] fun g i=>
 CX i [(.pv (.sc .nilFunc))] fun j k=>
 C2 (lf R 45 n0 ro rt) k 1 j (.func (.func 91) [] [a,g,j]) fun l=>
 xL R l j fun m=>
 xM R l 4 c fun n=>
 Fe (env R) (lf R 45 n0 ro rt) m [n] l fun o p=>
 Df Y5 [(1,4,o)] fun q=>
 CX p Y5 fun u v=>
 C2 (lf R 45 n0 ro rt) v 5 u q fun w=>
 xL R w g fun x=>
 Bz w x fun y=>
 aZ R n0 ro rt a e u x y (AD 0) w QR):ACT R n0 ro rt t0 t1 s QR:=
 pC uw cF h (by kernel_rfl)
theorem AA3 (h :
 xI .lss t17 t16 fun a=>
 AX a (
 ACU R n0 ro rt t2 t4 t7 t15 t16 t17 a s QR) (
 ACV R n0 ro rt t4 t7 s QR)):aZ R n0 ro rt t2 t4 t7 t15 t16 t17 s QR:=
 pL uw cF h (by kernel_rfl)
theorem AI1 (h :
 Dc s 1 t15 t17 fun a=>
 xL R s a fun b=>
 Bo s t7 0 fun c=>
 xL R s c fun d=>
 xL R s t2 fun e=>
 Eo s e fun f=>
 xF R s f 0 fun i=>
 Dc s 4 i b fun j=>
 xM R s 4 j fun k=>
 xC R 45 n0 ro rt 70 [k] s fun l m=>
 D4 false m 4 Y4 1 [(0,4,l)] fun n o=>
(4=4/\4≠0)/\E1 false (lf R 45 n0 ro rt) m 25 4 56 d n fun p q=>
 Bo q t7 0 fun u=>
 C2 (lf R 45 n0 ro rt) q 1 u p fun w=>
(Bo m t7 0 fun x=>Cu x c=true) /\
(xL R m c fun y=>Cu y d=true) /\
 ACW R n0 ro rt t2 t4 t7 t15 t16 t17 w QR):ACU R n0 ro rt t2 t4 t7 t15 t16 t17 t18 s QR:=
 pC uw cF h (by kernel_rfl)
theorem AI0 (h :
 xM R s 5 t7 fun a=>
 C2 (lf R 45 n0 ro rt) s 5 t4 a fun b=>
 xM R b 5 t4 fun c=>
 QR c b):ACV R n0 ro rt t4 t7 s QR:=
 pC uw cF h (by kernel_rfl)
theorem AI2 (h :
 xI .add t17 (AD 1) fun a=>
 aZ R n0 ro rt t2 t4 t7 t15 t16 a s QR):ACW R n0 ro rt t2 t4 t7 t15 t16 t17 s QR:=
 pC uw cF h (by kernel_rfl)
theorem m45 {L:A0} {Post:AV->AK->Prop} (hn:BN [t0,t1]=false) (h:ACT R 0 L.ro L.rt t0 t1 s (QM (L.rr 45) s.bs.length Post)):∃ v s',Post v s'/\BC (env R) L 45 [t0,t1] s v s':=
 hM Tryz.func45 (by kernel_rfl) hn h
theorem AA2 (h :
 Cx s t0 fun a b=>
 CX b Y4 fun c d=>
 xM R d 4 a fun e=>
 xC R 91 n0 ro rt 92 [e] d fun f g=>
 DF f 0 fun i=>
 DF f 1 fun j=>
 g0 j true g i fun k l=>
 g1 j true l (xL R l t1) fun n o=>
 g1 j true o (Eo o n) fun q u=>
 g1 j true u (Bo u q 0) fun x y=>
 g1 j true y (xL R y x) fun aa ab=>
 g1 j true ab (Bz ab aa) fun ad ae=>
 g1 j true ae (xI .lss k ad) fun ag ah=>
 Bi j ag (BB false) fun ai=>
 AX ai (
 xL R ah t2 fun aj=>
 xC R 91 n0 ro rt 93 [aj,i] ah fun ak al=>
 xI .lss ak (AD 0) fun am=>
 AX am (
 xL R al t2 fun an=>
 Bz al an fun ao=>
 xL R al t2 fun ap=>
 D4 false al 1 [(AD 0)] 1 [(0,1,i)] fun aq ar=>
(1=1/\1≠0)/\E1 false (lf R 91 n0 ro rt) al 3 1 8 ap aq fun au av=>
 C2 (lf R 91 n0 ro rt) av 1 t2 au fun aw=>
(xL R av t2 fun ax=>Cu ax an=true) /\
(Bz av an fun ay=>Cu ay ao=true) /\
 jZ R n0 ro rt c ao aw QR) (
 jZ R n0 ro rt c ak al QR)) (
 ACY R n0 ro rt t3 a c ah QR)):ACX R n0 ro rt t0 t1 t2 t3 s QR:=
 pC gI cF h (by kernel_rfl)
theorem AIy (h :
 Df Y4 [(0,1,(AD 5)),(2,1,t8)] fun a=>
 C2 (lf R 91 n0 ro rt) s 4 t5 a fun b=>
 xM R b 4 t5 fun c=>
 QR c b):jZ R n0 ro rt t5 t8 s QR:=
 pC gI cF h (by kernel_rfl)
theorem AIz (h :
 xM R s 4 t4 fun a=>
 CX s Y4 fun b c=>
 C2 (lf R 91 n0 ro rt) c 4 b a fun d=>
 Bo d b 3 fun e=>
 C2 (lf R 91 n0 ro rt) d 1 e (.AA []) fun f=>
 xF R f t4 3 fun i=>
 Bz f i fun j=>
 jX R n0 ro rt t3 t5 b i j (AD 0) f QR):ACY R n0 ro rt t3 t4 t5 s QR:=
 pC gI cF h (by kernel_rfl)
theorem AA0 (h :
 xI .lss t45 t44 fun a=>
 AX a (
 ACZ R n0 ro rt t3 t5 t9 t43 t44 t45 a s QR) (
 ACa R n0 ro rt t5 t9 s QR)):jX R n0 ro rt t3 t5 t9 t43 t44 t45 s QR:=
 pL gI cF h (by kernel_rfl)
theorem AIv (h :
 Dc s 4 t43 t45 fun a=>
 xM R s 4 a fun b=>
 CX s Y4 fun c d=>
 C2 (lf R 91 n0 ro rt) d 4 c b fun e=>
 Bo e t9 3 fun f=>
 xL R e f fun g=>
 xL R e t3 fun i=>
 xM R e 4 c fun j=>
 Fe (env R) (lf R 91 n0 ro rt) i [j] e fun k l=>
 D4 false l 4 Y4 1 [(0,4,k)] fun m n=>
(4=4/\4≠0)/\E1 false (lf R 91 n0 ro rt) l 25 4 56 g m fun o p=>
 Bo p t9 3 fun q=>
 C2 (lf R 91 n0 ro rt) p 1 q o fun u=>
(Bo l t9 3 fun w=>Cu w f=true) /\
(xL R l f fun x=>Cu x g=true) /\
 ACb R n0 ro rt t3 t5 t9 t43 t44 t45 u QR):ACZ R n0 ro rt t3 t5 t9 t43 t44 t45 t46 s QR:=
 pC gI cF h (by kernel_rfl)
theorem AIu (h :
 xM R s 4 t9 fun a=>
 C2 (lf R 91 n0 ro rt) s 4 t5 a fun b=>
 xM R b 4 t5 fun c=>
 QR c b):ACa R n0 ro rt t5 t9 s QR:=
 pC gI cF h (by kernel_rfl)
theorem AIx (h :
 xI .add t45 (AD 1) fun a=>
 jX R n0 ro rt t3 t5 t9 t43 t44 a s QR):ACb R n0 ro rt t3 t5 t9 t43 t44 t45 s QR:=
 pC gI cF h (by kernel_rfl)
theorem m91 {L:A0} {Post:AV->AK->Prop} (hn:BN [t0,t1,t2,t3]=false) (h:ACX R 0 L.ro L.rt t0 t1 t2 t3 s (QM (L.rr 91) s.bs.length Post)):∃ v s',Post v s'/\BC (env R) L 91 [t0,t1,t2,t3] s v s':=
 hM Tryz.func91 (by kernel_rfl) hn h
theorem AIp (h :
 Cx s t0 fun a b=>
 xF R b a 0 fun d=>
 Bz b d fun e=>
 xI .leq e (AD 6) fun f=>
 g1 f true b (xM R b 5 a) fun i j=>
 KX f true j (xC R 46 n0 ro rt 23 [i] j) fun m n=>
 g1 f true n (Bz n m) fun p q=>
 g1 f true q (xI .leq p (AD 3)) fun v w=>
 Bi f v (BB false) fun x=>
 QR x w):ACc R n0 ro rt t0 s QR:=
 pC AQ5 cF h (by kernel_rfl)
theorem e46 {u0:AV} {Post:AV->Prop} (Bu:AN [] 0 0 [t0]=some [u0]) (h:ACc R 0 0 0 u0 ⟨[],[]⟩ (QP Post)):AW (env R) 46 [t0] Post:=
 hR Tryz.func46 (by kernel_rfl) Bu h
theorem AJ0 (h :
 Bz s t0 fun a=>
 j8 R n0 ro rt (.AA []) t0 a (AD 0) s QR):ACd R n0 ro rt t0 s QR:=
 pC nA cF h (by kernel_rfl)
theorem ABL (h :
 xI .lss t10 t9 fun a=>
 AX a (
 ACe R n0 ro rt t3 t8 t9 t10 a s QR) (
 ACf R n0 ro rt  s QR)):j8 R n0 ro rt t3 t8 t9 t10 s QR:=
 pL nA cF h (by kernel_rfl)
theorem AJw (h :
 Dc s 4 t8 t10 fun a=>
 xM R s 4 a fun b=>
 CX s Y4 fun c d=>
 C2 (lf R 47 n0 ro rt) d 4 c b fun e=>
 xC R 47 n0 ro rt 94 [t3,(.func (.func 95) [] [c])] e fun f g=>
 AX f (
 ux R n0 ro rt t3 t8 t9 t10 g QR) (
 ACg R n0 ro rt t3 c t8 t9 t10 g QR)):ACe R n0 ro rt t3 t8 t9 t10 t11 s QR:=
 pC nA cF h (by kernel_rfl)
theorem AJv (h :
 QR (BB true) s):ACf R n0 ro rt  s QR:=
 pC nA cF h (by kernel_rfl)
theorem ABM (h :
 xI .add t10 (AD 1) fun a=>
 j8 R n0 ro rt t3 t8 t9 a s QR):ux R n0 ro rt t3 t8 t9 t10 s QR:=
 pC nA cF h (by kernel_rfl)
theorem AJy (h :
 xM R s 4 t5 fun a=>
 D4 false s 4 Y4 1 [(0,4,a)] fun b c=>
(4=4/\4≠0)/\E1 false (lf R 47 n0 ro rt) c 25 4 56 t3 b fun d e=>
 xM R e 4 t5 fun f=>
 xC R 47 n0 ro rt 14 [f] e fun g i=>
 DF g 0 fun j=>
 DF g 1 fun k=>
 xI .neq k (AD 0) fun l=>
 g0 l false i j fun m n=>
 g1 l false n (Bz n m) fun p q=>
 g1 l false q (xI .gtr p (AD 4)) fun v w=>
 Bi l (BB true) v fun x=>
 AX x (
 QR (BB false) w) (
 ux R n0 ro rt d t8 t9 t10 w QR)):ACg R n0 ro rt t3 t5 t8 t9 t10 s QR:=
 pC nA cF h (by kernel_rfl)
theorem e47 {u0:AV} {Post:AV->Prop} (Bu:AN [] 0 0 [t0]=some [u0]) (h:ACd R 0 0 0 u0 ⟨[],[]⟩ (QP Post)):AW (env R) 47 [t0] Post:=
 hR Tryz.func47 (by kernel_rfl) Bu h
theorem AJs (h :
 Cx s t0 fun a b=>
 xM R b 4 a fun c=>
 xM R b 4 t1 fun d=>
 xC R 95 n0 ro rt 63 [c,d] b fun e f=>
 QR e f):ACh R n0 ro rt t0 t1 s QR:=
 pC AQ6 cF h (by kernel_rfl)
theorem m95 {L:A0} {Post:AV->AK->Prop} (hn:BN [t0,t1]=false) (h:ACh R 0 L.ro L.rt t0 t1 s (QM (L.rr 95) s.bs.length Post)):∃ v s',Post v s'/\BC (env R) L 95 [t0,t1] s v s':=
 hM Tryz.func95 (by kernel_rfl) hn h
theorem AAx (h :
 Cx s t0 fun a b=>
 Cx b t1 fun c d=>
 Cx d t2 fun e f=>
 xM R f 4 a fun g=>
 xC R 62 n0 ro rt 92 [g] f fun i j=>
 DF i 0 fun k=>
 DF i 1 fun l=>
 AX l (
 xL R j c fun m=>
 xI .eql k m fun n=>
 g1 n true j (xL R j e) fun p q=>
 g1 n true q (Fj p) fun v w=>
 Bi n v (BB false) fun x=>
 QR x w) (
 ACj R n0 ro rt a c e j QR)):ACi R n0 ro rt t0 t1 t2 s QR:=
 pC AL6 cF h (by kernel_rfl)
theorem AIe (h :
 xF R s t3 3 fun b=>
 xC R 62 n0 ro rt 94 [b,(.func (.func 103) [] [t4,t5,t3])] s fun c d=>
 QR c d):ACj R n0 ro rt t3 t4 t5 s QR:=
 pC AL6 cF h (by kernel_rfl)
theorem e62 {u0 u1 u2:AV} {Post:AV->Prop} (Bu:AN [] 0 0 [t0,t1,t2]=some [u0,u1,u2]) (h:ACi R 0 0 0 u0 u1 u2 ⟨[],[]⟩ (QP Post)):AW (env R) 62 [t0,t1,t2] Post:=
 hR Tryz.func62 (by kernel_rfl) Bu h
theorem AEg (h :
 Cx s t0 fun a b=>
 xM R b 4 a fun c=>
 xL R b t1 fun d=>
 xL R b t2 fun e=>
 g1 e true b (Bo b t3 0) fun g i=>
 g1 e true i (xL R i g) fun k l=>
 g1 e true l (xI .neq k (AD 2)) fun n o=>
 Bi e n (BB false) fun p=>
 xC R 103 n0 ro rt 62 [c,d,p] o fun q u=>
 QR q u):uy R n0 ro rt t0 t1 t2 t3 s QR:=
 pC AL7 cF h (by kernel_rfl)
theorem AOe {L:A0} {Post:AV->AK->Prop} (hn:BN [t0,t1,t2,t3]=false) (h:uy R 0 L.ro L.rt t0 t1 t2 t3 s (QM (L.rr 103) s.bs.length Post)):∃ v s',Post v s'/\BC (env R) L 103 [t0,t1,t2,t3] s v s':=
 hM Tryz.func103 (by kernel_rfl) hn h
theorem AI8 (h :
 Cx s t0 fun a b=>
 Cx b t3 fun c d=>
 CX d Y4 fun e f=>
 xM R f 4 a fun g=>
 xC R 59 n0 ro rt 92 [g] f fun i j=>
 DF i 0 fun k=>
 DF i 1 fun l=>
 AX l (
 Fe (env R) (lf R 59 n0 ro rt) t2 [k] j fun m n=>
 AX m (
 Eo n t1 fun o=>
 xL R n o fun p=>
 xI .sub p (AD 1) fun q=>
 Eo n t1 fun u=>
 C2 (lf R 59 n0 ro rt) n 1 u q fun v=>
 Eo v t1 fun w=>
 xL R v w fun x=>
 xI .eql x (AD (-1)) fun y=>
 AX y (
 xM R v 4 c fun z=>
 C2 (lf R 59 n0 ro rt) v 4 e z fun aa=>
 xM R aa 4 e fun ab=>
 QR ab aa) (
 V9 R n0 ro rt a e v QR)) (
 V9 R n0 ro rt a e n QR)) (
 rE R n0 ro rt t1 t2 a c e j QR)):rF R n0 ro rt t0 t1 t2 t3 s QR:=
 pC cQ cF h (by kernel_rfl)
theorem AI9 (h :
 xM R s 4 t4 fun a=>
 C2 (lf R 59 n0 ro rt) s 4 t8 a fun b=>
 xM R b 4 t8 fun c=>
 QR c b):V9 R n0 ro rt t4 t8 s QR:=
 pC cQ cF h (by kernel_rfl)
theorem AJC (h :
 xF R s t4 0 fun b=>
 xI .neq b (AD 3) fun c=>
 AX c (
 xM R s 4 t4 fun d=>
 C2 (lf R 59 n0 ro rt) s 4 t8 d fun e=>
 xM R e 4 t8 fun f=>
 QR f e) (
 ACl R n0 ro rt t1 t2 t4 t7 t8 s QR)):rE R n0 ro rt t1 t2 t4 t7 t8 s QR:=
 pC cQ cF h (by kernel_rfl)
theorem AJD (h :
 xM R s 4 t4 fun a=>
 CX s Y4 fun b c=>
 C2 (lf R 59 n0 ro rt) c 4 b a fun d=>
 Bo d b 3 fun e=>
 C2 (lf R 59 n0 ro rt) d 1 e (.AA []) fun f=>
 xF R f t4 3 fun i=>
 Bz f i fun j=>
 je R n0 ro rt t1 t2 t7 t8 b i j (AD 0) f QR):ACl R n0 ro rt t1 t2 t4 t7 t8 s QR:=
 pC cQ cF h (by kernel_rfl)
theorem AA4 (h :
 xI .lss t43 t42 fun a=>
 AX a (
 ACm R n0 ro rt t1 t2 t7 t8 t11 t41 t42 t43 a s QR) (
 ACn R n0 ro rt t8 t11 s QR)):je R n0 ro rt t1 t2 t7 t8 t11 t41 t42 t43 s QR:=
 pL cQ cF h (by kernel_rfl)
theorem AI5 (h :
 Dc s 4 t41 t43 fun a=>
 xM R s 4 a fun b=>
 CX s Y4 fun c d=>
 C2 (lf R 59 n0 ro rt) d 4 c b fun e=>
 Bo e t11 3 fun f=>
 xL R e f fun g=>
 xM R e 4 c fun i=>
 xM R e 4 t7 fun j=>
 xC R 59 n0 ro rt 59 [i,t1,t2,j] e fun k l=>
 D4 false l 4 Y4 1 [(0,4,k)] fun m n=>
(4=4/\4≠0)/\E1 false (lf R 59 n0 ro rt) l 25 4 56 g m fun o p=>
 Bo p t11 3 fun q=>
 C2 (lf R 59 n0 ro rt) p 1 q o fun u=>
(Bo l t11 3 fun w=>Cu w f=true) /\
(xL R l f fun x=>Cu x g=true) /\
 ACo R n0 ro rt t1 t2 t7 t8 t11 t41 t42 t43 u QR):ACm R n0 ro rt t1 t2 t7 t8 t11 t41 t42 t43 t44 s QR:=
 pC cQ cF h (by kernel_rfl)
theorem AI4 (h :
 xM R s 4 t11 fun a=>
 C2 (lf R 59 n0 ro rt) s 4 t8 a fun b=>
 xM R b 4 t8 fun c=>
 QR c b):ACn R n0 ro rt t8 t11 s QR:=
 pC cQ cF h (by kernel_rfl)
theorem AI7 (h :
 xI .add t43 (AD 1) fun a=>
 je R n0 ro rt t1 t2 t7 t8 t11 t41 t42 a s QR):ACo R n0 ro rt t1 t2 t7 t8 t11 t41 t42 t43 s QR:=
 pC cQ cF h (by kernel_rfl)
theorem m59 {L:A0} {Post:AV->AK->Prop} (hn:BN [t0,t1,t2,t3]=false) (h:rF R 0 L.ro L.rt t0 t1 t2 t3 s (QM (L.rr 59) s.bs.length Post)):∃ v s',Post v s'/\BC (env R) L 59 [t0,t1,t2,t3] s v s':=
 hM Tryz.func59 (by kernel_rfl) hn h
theorem AFA (h :
 Cx s t1 fun a b=>
 Cx b t2 fun c d=>
 xM R d 4 a fun e=>
 xL R d c fun f=>
 xC R 114 n0 ro rt 62 [e,f,(BB false)] d fun g i=>
 Fj g fun j=>
 AX j (
 xM R i 4 a fun k=>
 D4 false i 4 Y4 1 [(0,4,k)] fun l m=>
 QR (.tuple [l,(BB true)]) m) (
 u6 R n0 ro rt t0 a c i QR)):uz R n0 ro rt t0 t1 t2 s QR:=
 pC UE cF h (by kernel_rfl)
theorem AFC (h :
 Eo s t0 fun a=>
 xF R s a 0 fun c=>
 xL R s t5 fun d=>
 Dc s 4 c d fun e=>
 xM R s 4 e fun f=>
 xC R 114 n0 ro rt 44 [t0,f] s fun g i=>
 DF g 0 fun j=>
 DF g 1 fun k=>
 Fj k fun l=>
 AX l (
 QR (.tuple [(.AA []),(BB false)]) i) (
 u7 R n0 ro rt t0 t4 t5 j i QR)):u6 R n0 ro rt t0 t4 t5 s QR:=
 pC UE cF h (by kernel_rfl)
theorem AFF (h :
 Bz s t8 fun a=>
 YP R n0 ro rt t0 t4 t5 (.AA []) t8 a (AD 0) s QR):u7 R n0 ro rt t0 t4 t5 t8 s QR:=
 pC UE cF h (by kernel_rfl)
theorem rI (h :
 xI .lss t38 t37 fun a=>
 AX a (
 u9 R n0 ro rt t0 t4 t5 t10 t36 t37 t38 a s QR) (
 vA R n0 ro rt t10 s QR)):YP R n0 ro rt t0 t4 t5 t10 t36 t37 t38 s QR:=
 pL UE cF h (by kernel_rfl)
theorem AE7 (h :
 Dc s 4 t36 t38 fun a=>
 xM R s 4 a fun b=>
 CX s Y4 fun c d=>
 C2 (lf R 114 n0 ro rt) d 4 c b fun e=>
 CX e [(AD 0)] fun f g=>
 C2 (lf R 114 n0 ro rt) g 1 f (AD 0) fun i=>
 xM R i 4 t4 fun j=>
 xM R i 4 c fun k=>
 xC R 114 n0 ro rt 59 [j,f,(.func (.func 137) [] [t5]),k] i fun l m=>
 xL R m t5 fun n=>
 xC R 114 n0 ro rt 114 [t0,l,n] m fun o p=>
 DF o 0 fun q=>
 DF o 1 fun u=>
(xL R i t5 fun w=>Cu w n=true) /\
(4=4/\4≠0)/\E1 false (lf R 114 n0 ro rt) p 25 4 56 t10 q fun x y=>
 Fj u fun z=>
 g0 z false y x fun aa ab=>
 g1 z false ab (Bz ab aa) fun ad ae=>
 g0 z false ae t0 fun af ag=>
 g1 z false ag (Eo ag af) fun ai aj=>
 g1 z false aj (Bo aj ai 1) fun al am=>
 g1 z false am (xL R am al) fun ao ap=>
 g1 z false ap (xI .gtr ad ao) fun ar au=>
 Bi z (BB true) ar fun av=>
 AX av (
 QR (.tuple [(.AA []),(BB false)]) au) (
 vB R n0 ro rt t0 t4 t5 x t36 t37 t38 au QR)):u9 R n0 ro rt t0 t4 t5 t10 t36 t37 t38 t39 s QR:=
 pC UE cF h (by kernel_rfl)
theorem AE6 (h :
 QR (.tuple [t10,(BB true)]) s):vA R n0 ro rt t10 s QR:=
 pC UE cF h (by kernel_rfl)
theorem AE8 (h :
 xI .add t38 (AD 1) fun a=>
 YP R n0 ro rt t0 t4 t5 t10 t36 t37 a s QR):vB R n0 ro rt t0 t4 t5 t10 t36 t37 t38 s QR:=
 pC UE cF h (by kernel_rfl)
theorem AOr {L:A0} {Post:AV->AK->Prop} (hn:BN [t0,t1,t2]=false) (h:uz R 0 L.ro L.rt t0 t1 t2 s (QM (L.rr 114) s.bs.length Post)):∃ v s',Post v s'/\BC (env R) L 114 [t0,t1,t2] s v s':=
 hM Tryz.func114 (by kernel_rfl) hn h
theorem AE3 (h :
 xL R s t1 fun a=>
 xI .eql t0 a fun b=>
 QR b s):vC R n0 ro rt t0 t1 s QR:=
 pC AL8 cF h (by kernel_rfl)
theorem AOm {L:A0} {Post:AV->AK->Prop} (hn:BN [t0,t1]=false) (h:vC R 0 L.ro L.rt t0 t1 s (QM (L.rr 137) s.bs.length Post)):∃ v s',Post v s'/\BC (env R) L 137 [t0,t1] s v s':=
 hM Tryz.func137 (by kernel_rfl) hn h
theorem AJI (h :
 Bz s t1 fun a=>
 jl R n0 ro rt t0 t2 (.AA []) t1 a (AD 0) s QR):ACp R n0 ro rt t0 t1 t2 s QR:=
 pC nB cF h (by kernel_rfl)
theorem AA8 (h :
 xI .lss t15 t14 fun a=>
 AX a (
 ACq R n0 ro rt t0 t2 t8 t13 t14 t15 a s QR) (
 ACr R n0 ro rt t8 s QR)):jl R n0 ro rt t0 t2 t8 t13 t14 t15 s QR:=
 pL nB cF h (by kernel_rfl)
theorem AJG (h :
 Dc s 4 t13 t15 fun a=>
 xM R s 4 a fun b=>
 CX s Y4 fun c d=>
 C2 (lf R 81 n0 ro rt) d 4 c b fun e=>
 xM R e 4 c fun f=>
 D4 false e 4 Y4 1 [(0,4,f)] fun g i=>
 xM R i 4 c fun j=>
 xC R 81 n0 ro rt 62 [j,t2,(BB true)] i fun k l=>
 Fj k fun m=>
 AX m (
 xM R l 4 c fun n=>
 xC R 81 n0 ro rt 114 [t0,n,t2] l fun o p=>
 DF o 0 fun q=>
 DF o 1 fun u=>
 jm R n0 ro rt t0 t2 t8 q u t13 t14 t15 p QR) (
 jm R n0 ro rt t0 t2 t8 g (BB true) t13 t14 t15 l QR)):ACq R n0 ro rt t0 t2 t8 t13 t14 t15 t16 s QR:=
 pC nB cF h (by kernel_rfl)
theorem AJF (h :
 QR (.tuple [t8,(BB true)]) s):ACr R n0 ro rt t8 s QR:=
 pC nB cF h (by kernel_rfl)
theorem AA9 (h :
(4=4/\4≠0)/\E1 false (lf R 81 n0 ro rt) s 25 4 56 t8 t11 fun a b=>
 Fj t12 fun c=>
 g0 c false b a fun d e=>
 g1 c false e (Bz e d) fun g i=>
 g0 c false i t0 fun j k=>
 g1 c false k (Eo k j) fun m n=>
 g1 c false n (Bo n m 1) fun p q=>
 g1 c false q (xL R q p) fun v w=>
 g1 c false w (xI .gtr g v) fun y z=>
 Bi c (BB true) y fun aa=>
 AX aa (
 QR (.tuple [(.AA []),(BB false)]) z) (
 ACs R n0 ro rt t0 t2 a t13 t14 t15 z QR)):jm R n0 ro rt t0 t2 t8 t11 t12 t13 t14 t15 s QR:=
 pC nB cF h (by kernel_rfl)
theorem AJH (h :
 xI .add t15 (AD 1) fun a=>
 jl R n0 ro rt t0 t2 t8 t13 t14 a s QR):ACs R n0 ro rt t0 t2 t8 t13 t14 t15 s QR:=
 pC nB cF h (by kernel_rfl)
theorem m81 {L:A0} {Post:AV->AK->Prop} (hn:BN [t0,t1,t2]=false) (h:ACp R 0 L.ro L.rt t0 t1 t2 s (QM (L.rr 81) s.bs.length Post)):∃ v s',Post v s'/\BC (env R) L 81 [t0,t1,t2] s v s':=
 hM Tryz.func81 (by kernel_rfl) hn h
theorem AFV (h :
 xC R 120 n0 ro rt 144 [t1,(.func (.func 145) [] [])] s fun a b=>
 AX a (
 QR (.tuple [(.AA []),(BB true)]) b) (
 vE R n0 ro rt t0 t1 b QR)):vD R n0 ro rt t0 t1 s QR:=
 pC KL cF h (by kernel_rfl)
theorem AFW (h :
 D4 false s 1 [(.AA [])] 1 [(0,1,(.AA []))] fun a b=>
 Bz b t1 fun c=>
 YZ R n0 ro rt t0 a t1 c (AD 0) b QR):vE R n0 ro rt t0 t1 s QR:=
 pC KL cF h (by kernel_rfl)
theorem rS (h :
 xI .lss t19 t18 fun a=>
 AX a (
 vF R n0 ro rt t0 t6 t17 t18 t19 a s QR) (
 vG R n0 ro rt t6 s QR)):YZ R n0 ro rt t0 t6 t17 t18 t19 s QR:=
 pL KL cF h (by kernel_rfl)
theorem AFT (h :
 Dc s 1 t17 t19 fun a=>
 xL R s a fun b=>
 Bz s t6 fun c=>
 Eo s t0 fun d=>
 xF R s d 1 fun f=>
 Bz s b fun g=>
 xI .quo f g fun i=>
 xI .gtr c i fun j=>
 AX j (
 QR (.tuple [(.AA []),(BB false)]) s) (
 vH R n0 ro rt t0 t6 b t17 t18 t19 s QR)):vF R n0 ro rt t0 t6 t17 t18 t19 t20 s QR:=
 pC KL cF h (by kernel_rfl)
theorem AFS (h :
 QR (.tuple [t6,(BB true)]) s):vG R n0 ro rt t6 s QR:=
 pC KL cF h (by kernel_rfl)
theorem AFU (h :
 Bz s t6 fun a=>
 YY R n0 ro rt t0 t8 (.AA []) t17 t18 t19 t6 a (AD 0) s QR):vH R n0 ro rt t0 t6 t8 t17 t18 t19 s QR:=
 pC KL cF h (by kernel_rfl)
theorem rQ (h :
 xI .lss t35 t34 fun a=>
 AX a (
 vI R n0 ro rt t0 t8 t9 t17 t18 t19 t33 t34 t35 a s QR) (
 vJ R n0 ro rt t0 t9 t17 t18 t19 s QR)):YY R n0 ro rt t0 t8 t9 t17 t18 t19 t33 t34 t35 s QR:=
 pL KL cF h (by kernel_rfl)
theorem AFP (h :
 Dc s 1 t33 t35 fun a=>
 xL R s a fun b=>
 Bz s t8 fun c=>
 YV R n0 ro rt t0 t8 t9 b t17 t18 t19 t33 t34 t35 t8 c (AD 0) s QR):vI R n0 ro rt t0 t8 t9 t17 t18 t19 t33 t34 t35 t36 s QR:=
 pC KL cF h (by kernel_rfl)
theorem AFO (h :
 YX R n0 ro rt t0 t9 t17 t18 t19 s QR):vJ R n0 ro rt t0 t9 t17 t18 t19 s QR:=
 pC KL cF h (by kernel_rfl)
theorem rP (h :
 xI .lss t41 t40 fun a=>
 AX a (
 kg R n0 ro rt t0 t8 t9 t11 t17 t18 t19 t33 t34 t35 t39 t40 t41 a s QR) (
 YU R n0 ro rt t0 t8 t9 t17 t18 t19 t33 t34 t35 s QR)):YV R n0 ro rt t0 t8 t9 t11 t17 t18 t19 t33 t34 t35 t39 t40 t41 s QR:=
 pL KL cF h (by kernel_rfl)
theorem zP (h :
 xI .add t19 (AD 1) fun a=>
 YZ R n0 ro rt t0 t6 t17 t18 a s QR):YX R n0 ro rt t0 t6 t17 t18 t19 s QR:=
 pC KL cF h (by kernel_rfl)
theorem zM (h :
 Dc s 4 t39 t41 fun a=>
 xM R s 4 a fun b=>
 CX s Y4 fun c d=>
 C2 (lf R 120 n0 ro rt) d 4 c b fun e=>
 xC R 120 n0 ro rt 57 [t11] e fun f g=>
 xM R g 4 c fun i=>
 D4 false g 4 Y4 1 [(0,4,i)] fun j k=>
(4=4/\4≠0)/\E1 false (lf R 120 n0 ro rt) g 25 4 56 f j fun l m=>
 D4 false m 1 [(.AA [])] 1 [(0,1,l)] fun n o=>
(1=1/\1≠0)/\E1 false (lf R 120 n0 ro rt) m 23 1 24 t9 n fun p q=>
(xM R e 4 c fun u=>Cu u i=true) /\
 kj R n0 ro rt t0 t8 p t11 t17 t18 t19 t33 t34 t35 t39 t40 t41 q QR):kg R n0 ro rt t0 t8 t9 t11 t17 t18 t19 t33 t34 t35 t39 t40 t41 t42 s QR:=
 pC KL cF h (by kernel_rfl)
theorem zO (h :
 xI .add t35 (AD 1) fun a=>
 YY R n0 ro rt t0 t8 t9 t17 t18 t19 t33 t34 a s QR):YU R n0 ro rt t0 t8 t9 t17 t18 t19 t33 t34 t35 s QR:=
 pC KL cF h (by kernel_rfl)
theorem zN (h :
 xI .add t41 (AD 1) fun a=>
 YV R n0 ro rt t0 t8 t9 t11 t17 t18 t19 t33 t34 t35 t39 t40 a s QR):kj R n0 ro rt t0 t8 t9 t11 t17 t18 t19 t33 t34 t35 t39 t40 t41 s QR:=
 pC KL cF h (by kernel_rfl)
theorem AO0 {L:A0} {Post:AV->AK->Prop} (hn:BN [t0,t1]=false) (h:vD R 0 L.ro L.rt t0 t1 s (QM (L.rr 120) s.bs.length Post)):∃ v s',Post v s'/\BC (env R) L 120 [t0,t1] s v s':=
 hM Tryz.func120 (by kernel_rfl) hn h
theorem rL (h :
 xC R 144 n0 ro rt 166 [t0,t1] s fun a b=>
 xI .geq a (AD 0) fun c=>
 QR c b):gK R n0 ro rt t0 t1 s QR:=
 pC AMA cF h (by kernel_rfl)
theorem AOw {Post:AV->Prop} (hn:BN [t0,t1]=true) (h:gK R 0 0 0 t0 t1 ⟨[],[]⟩ (QP Post)):AW (env R) 144 [t0,t1] Post:=
 Ij (fn:=Tryz.f144) (body:=AL9) Tryz.func144 (by kernel_rfl) (by kernel_rfl) (by kernel_rfl) (Cm (by kernel_rfl)) hn (nZ h (by kernel_rfl))
theorem AOx {L:A0} {Post:AV->AK->Prop} (hn:BN [t0,t1]=false) (h:gK R 0 L.ro L.rt t0 t1 s (QM (L.rr 144) s.bs.length Post)):∃ v s',Post v s'/\BC (env R) L 144 [t0,t1] s v s':=
 hM Tryz.func144 (by kernel_rfl) hn h
theorem AFH (h :
 Bz s t0 fun a=>
 xI .eql a (AD 0) fun b=>
 QR b s):vK R n0 ro rt t0 s QR:=
 pC AMC cF h (by kernel_rfl)
theorem AOt {Post:AV->Prop} (hn:BN [t0]=true) (h:vK R 0 0 0 t0 ⟨[],[]⟩ (QP Post)):AW (env R) 145 [t0] Post:=
 Ij (fn:=Tryz.f145) (body:=AMB) Tryz.func145 (by kernel_rfl) (by kernel_rfl) (by kernel_rfl) (Cm (by kernel_rfl)) hn (nZ h (by kernel_rfl))
theorem rK (h :
 Bz s t0 fun a=>
 YS R n0 ro rt t0 t1 a (AD 0) s QR):gL R n0 ro rt t0 t1 s QR:=
 pC cR cF h (by kernel_rfl)
theorem rJ (h :
 xI .lss t8 t7 fun a=>
 AX a (
 vM R n0 ro rt t0 t1 t7 t8 a s QR) (
 vN R n0 ro rt  s QR)):YS R n0 ro rt t0 t1 t7 t8 s QR:=
 pL cR cF h (by kernel_rfl)
theorem AFJ (h :
 Dc s 1 t0 t8 fun a=>
 xL R s a fun b=>
 Fe (env R) (lf R 166 n0 ro rt) t1 [b] s fun c d=>
 AX c (
 QR t8 d) (
 vO R n0 ro rt t0 t1 t7 t8 d QR)):vM R n0 ro rt t0 t1 t7 t8 t9 s QR:=
 pC cR cF h (by kernel_rfl)
theorem AFI (h :
 QR (AD (-1)) s):vN R n0 ro rt  s QR:=
 pC cR cF h (by kernel_rfl)
theorem AFK (h :
 xI .add t8 (AD 1) fun a=>
 YS R n0 ro rt t0 t1 t7 a s QR):vO R n0 ro rt t0 t1 t7 t8 s QR:=
 pC cR cF h (by kernel_rfl)
theorem AOu {Post:AV->Prop} (hn:BN [t0,t1]=true) (h:gL R 0 0 0 t0 t1 ⟨[],[]⟩ (QP Post)):AW (env R) 166 [t0,t1] Post:=
 Ij (fn:=Tryz.f166) (body:=UF) Tryz.func166 (by kernel_rfl) (by kernel_rfl) (by kernel_rfl) (Cm (by kernel_rfl)) hn (nZ h (by kernel_rfl))
theorem AOv {L:A0} {Post:AV->AK->Prop} (hn:BN [t0,t1]=false) (h:gL R 0 L.ro L.rt t0 t1 s (QM (L.rr 166) s.bs.length Post)):∃ v s',Post v s'/\BC (env R) L 166 [t0,t1] s v s':=
 hM Tryz.func166 (by kernel_rfl) hn h
theorem AJT (h :
 Bz s t1 fun a=>
 jo R n0 ro rt t0 (.AA []) t1 a (AD 0) s QR):ACt R n0 ro rt t0 t1 s QR:=
 pC VA cF h (by kernel_rfl)
theorem ABC (h :
 xI .lss t18 t17 fun a=>
 AX a (
 ACu R n0 ro rt t0 t6 t16 t17 t18 a s QR) (
 rV R n0 ro rt t0 t6 s QR)):jo R n0 ro rt t0 t6 t16 t17 t18 s QR:=
 pL VA cF h (by kernel_rfl)
theorem AJQ (h :
 Dc s 4 t16 t18 fun a=>
 xM R s 4 a fun b=>
 CX s Y4 fun c d=>
 C2 (lf R 88 n0 ro rt) d 4 c b fun e=>
 xM R e 4 c fun f=>
 xC R 88 n0 ro rt 44 [t0,f] e fun g i=>
 DF g 0 fun j=>
 DF g 1 fun k=>
 Fj k fun l=>
 AX l (
 QR (.tuple [(.AA []),(BB false)]) i) (
 ACv R n0 ro rt t0 t6 j t16 t17 t18 i QR)):ACu R n0 ro rt t0 t6 t16 t17 t18 t19 s QR:=
 pC VA cF h (by kernel_rfl)
theorem AJU (h :
 xC R 88 n0 ro rt 120 [t0,t6] s fun a b=>
 DF a 0 fun c=>
 DF a 1 fun d=>
 Bz b c fun e=>
 bK R n0 ro rt d (.AA []) c e (AD 0) b QR):rV R n0 ro rt t0 t6 s QR:=
 pC VA cF h (by kernel_rfl)
theorem AJR (h :
 D4 false s 1 [(.AA [])] 1 [(0,1,t9)] fun a b=>
(1=1/\1≠0)/\E1 false (lf R 88 n0 ro rt) b 23 1 24 t6 a fun c d=>
 ACw R n0 ro rt t0 c t16 t17 t18 d QR):ACv R n0 ro rt t0 t6 t9 t16 t17 t18 s QR:=
 pC VA cF h (by kernel_rfl)
theorem rU (h :
 xI .lss t43 t42 fun a=>
 AX a (
 ACx R n0 ro rt t12 t13 t41 t42 t43 a s QR) (
 rT R n0 ro rt t12 t13 s QR)):bK R n0 ro rt t12 t13 t41 t42 t43 s QR:=
 pL VA cF h (by kernel_rfl)
theorem AJS (h :
 xI .add t18 (AD 1) fun a=>
 jo R n0 ro rt t0 t6 t16 t17 a s QR):ACw R n0 ro rt t0 t6 t16 t17 t18 s QR:=
 pC VA cF h (by kernel_rfl)
theorem AJO (h :
 Dc s 1 t41 t43 fun a=>
 xL R s a fun b=>
 Df Y4 [(0,1,(AD 3)),(3,1,b)] fun c=>
 D4 false s 4 Y4 1 [(0,4,c)] fun d e=>
(4=4/\4≠0)/\E1 false (lf R 88 n0 ro rt) e 25 4 56 t13 d fun f g=>
 ACy R n0 ro rt t12 f t41 t42 t43 g QR):ACx R n0 ro rt t12 t13 t41 t42 t43 t44 s QR:=
 pC VA cF h (by kernel_rfl)
theorem ABE (h :
 QR (.tuple [t13,t12]) s):rT R n0 ro rt t12 t13 s QR:=
 pC VA cF h (by kernel_rfl)
theorem AJP (h :
 xI .add t43 (AD 1) fun a=>
 bK R n0 ro rt t12 t13 t41 t42 a s QR):ACy R n0 ro rt t12 t13 t41 t42 t43 s QR:=
 pC VA cF h (by kernel_rfl)
theorem m88 {L:A0} {Post:AV->AK->Prop} (hn:BN [t0,t1]=false) (h:ACt R 0 L.ro L.rt t0 t1 s (QM (L.rr 88) s.bs.length Post)):∃ v s',Post v s'/\BC (env R) L 88 [t0,t1] s v s':=
 hM Tryz.func88 (by kernel_rfl) hn h
theorem AIi (h :
 Cx s t0 fun a b=>
 Cx b t1 fun c d=>
 CX d Y4 fun e f=>
 xM R f 4 a fun g=>
 xC R 89 n0 ro rt 121 [g,(AD 0),(.func (.func 122) [] [c])] f fun i j=>
 C2 (lf R 89 n0 ro rt) j 4 e i fun k=>
 xM R k 4 e fun l=>
 QR l k):ACz R n0 ro rt t0 t1 s QR:=
 pC ARD cF h (by kernel_rfl)
theorem e89 {u0 u1:AV} {Post:AV->Prop} (Bu:AN [] 0 0 [t0,t1]=some [u0,u1]) (h:ACz R 0 0 0 u0 u1 ⟨[],[]⟩ (QP Post)):AW (env R) 89 [t0,t1] Post:=
 hR Tryz.func89 (by kernel_rfl) Bu h
theorem AEu (h :
 Cx s t0 fun a b=>
 CX b Y4 fun c d=>
 xM R d 4 a fun e=>
 CX d Y4 fun f g=>
 C2 (lf R 121 n0 ro rt) g 4 f e fun i=>
 Bo i f 3 fun j=>
 C2 (lf R 121 n0 ro rt) i 1 j (.AA []) fun k=>
 xF R k a 0 fun m=>
 xI .eql m (AD 5) fun n=>
 AX n (
 xF R k a 2 fun p=>
 Fe (env R) (lf R 121 n0 ro rt) t2 [p,t1] k fun q u=>
 DF q 0 fun v=>
 DF q 1 fun w=>
 YI u (RP v) (some 0) .neq v (.pv (.sc (.pointer none))) fun x=>
 AX x (
 Eo u v fun y=>
 xM R u 4 y fun z=>
 xC R 121 n0 ro rt 146 [z] u fun aa ab=>
 C2 (lf R 121 n0 ro rt) ab 4 c aa fun ac=>
 xM R ac 4 c fun ad=>
 QR ad ac) (
 YJ R n0 ro rt t1 t2 a c f w u QR)) (
 QN R n0 ro rt t1 t2 a c f k QR)):vQ R n0 ro rt t0 t1 t2 s QR:=
 pC UH cF h (by kernel_rfl)
theorem AEw (h :
 Bo s t7 2 fun a=>
 C2 (lf R 121 n0 ro rt) s 1 a t9 fun b=>
 QN R n0 ro rt t1 t2 t3 t6 t7 b QR):YJ R n0 ro rt t1 t2 t3 t6 t7 t9 s QR:=
 pC UH cF h (by kernel_rfl)
theorem AEv (h :
 xF R s t3 3 fun b=>
 Bz s b fun c=>
 YH R n0 ro rt t1 t2 t3 t6 t7 b c (AD 0) s QR):QN R n0 ro rt t1 t2 t3 t6 t7 s QR:=
 pC UH cF h (by kernel_rfl)
theorem qi (h :
 xI .lss t36 t35 fun a=>
 AX a (
 vR R n0 ro rt t1 t2 t3 t6 t7 t34 t35 t36 a s QR) (
 vS R n0 ro rt t6 t7 s QR)):YH R n0 ro rt t1 t2 t3 t6 t7 t34 t35 t36 s QR:=
 pL UH cF h (by kernel_rfl)
theorem AEs (h :
 Dc s 4 t34 t36 fun a=>
 xM R s 4 a fun b=>
 CX s Y4 fun c d=>
 C2 (lf R 121 n0 ro rt) d 4 c b fun e=>
 Bo e t7 3 fun f=>
 xL R e f fun g=>
 xM R e 4 c fun i=>
 xM R e 4 t3 fun j=>
 xC R 121 n0 ro rt 119 [j,t36] e fun k l=>
 xI .add t1 k fun m=>
 xC R 121 n0 ro rt 121 [i,m,t2] l fun n o=>
 D4 false o 4 Y4 1 [(0,4,n)] fun p q=>
(4=4/\4≠0)/\E1 false (lf R 121 n0 ro rt) o 25 4 56 g p fun u w=>
 Bo w t7 3 fun x=>
 C2 (lf R 121 n0 ro rt) w 1 x u fun y=>
(Bo l t7 3 fun z=>Cu z f=true) /\
(Bo o t7 3 fun aa=>Cu aa f=true) /\
(xL R l f fun ab=>Cu ab g=true) /\
(xL R o f fun ac=>Cu ac g=true) /\
(xM R l 4 c fun ad=>Cu ad i=true) /\
 vT R n0 ro rt t1 t2 t3 t6 t7 t34 t35 t36 y QR):vR R n0 ro rt t1 t2 t3 t6 t7 t34 t35 t36 t37 s QR:=
 pC UH cF h (by kernel_rfl)
theorem AEq (h :
 xM R s 4 t7 fun a=>
 C2 (lf R 121 n0 ro rt) s 4 t6 a fun b=>
 xM R b 4 t6 fun c=>
 QR c b):vS R n0 ro rt t6 t7 s QR:=
 pC UH cF h (by kernel_rfl)
theorem AEt (h :
 xI .add t36 (AD 1) fun a=>
 YH R n0 ro rt t1 t2 t3 t6 t7 t34 t35 a s QR):vT R n0 ro rt t1 t2 t3 t6 t7 t34 t35 t36 s QR:=
 pC UH cF h (by kernel_rfl)
theorem i121 {Post:AV->Prop} (Bu:AN [] 0 0 [t0,t1,t2]=none) (h:vQ R s.bs.length s.bs.length s.ts.length t0 t1 t2 s (QI s.bs.length s.ts.length Post)):∃ v,Post v/\∀ L,BC (env R) L 121 [t0,t1,t2] s v s:=
 hI Tryz.func121 (by kernel_rfl) Bu h
theorem AEo (h :
 xI .eql t0 t1 fun a=>
 AX a (
 QR (.tuple [t2,(AD 0)]) s) (
 xI .gtr t0 t1 fun b=>
 AX b (
 xI .sub t0 (AD 1) fun c=>
 QR (.tuple [(.pv (.sc (.pointer none))),c]) s) (
 vV R n0 ro rt t0 s QR))):vU R n0 ro rt t0 t1 t2 s QR:=
 pC AC0 cF h (by kernel_rfl)
theorem AEp (h :
 QR (.tuple [(.pv (.sc (.pointer none))),t0]) s):vV R n0 ro rt t0 s QR:=
 pC AC0 cF h (by kernel_rfl)
theorem AOh {L:A0} {Post:AV->AK->Prop} (hn:BN [t0,t1,t2]=false) (h:vU R 0 L.ro L.rt t0 t1 t2 s (QM (L.rr 122) s.bs.length Post)):∃ v s',Post v s'/\BC (env R) L 122 [t0,t1,t2] s v s':=
 hM Tryz.func122 (by kernel_rfl) hn h
theorem AEm (h :
 Cx s t0 fun a b=>
 CX b Y4 fun c d=>
 xM R d 4 a fun e=>
 CX d Y4 fun f g=>
 C2 (lf R 146 n0 ro rt) g 4 f e fun i=>
 Bo i f 3 fun j=>
 C2 (lf R 146 n0 ro rt) i 1 j (.AA []) fun k=>
 xF R k a 3 fun m=>
 Bz k m fun n=>
 YG R n0 ro rt c f m n (AD 0) k QR):vX R n0 ro rt t0 s QR:=
 pC cS cF h (by kernel_rfl)
theorem qg (h :
 xI .lss t11 t10 fun a=>
 AX a (
 vY R n0 ro rt t2 t3 t9 t10 t11 a s QR) (
 vZ R n0 ro rt t2 t3 s QR)):YG R n0 ro rt t2 t3 t9 t10 t11 s QR:=
 pL cS cF h (by kernel_rfl)
theorem AEk (h :
 Dc s 4 t9 t11 fun a=>
 xM R s 4 a fun b=>
 CX s Y4 fun c d=>
 C2 (lf R 146 n0 ro rt) d 4 c b fun e=>
 Bo e t3 3 fun f=>
 xL R e f fun g=>
 xM R e 4 c fun i=>
 xC R 146 n0 ro rt 146 [i] e fun j k=>
 D4 false k 4 Y4 1 [(0,4,j)] fun l m=>
(4=4/\4≠0)/\E1 false (lf R 146 n0 ro rt) k 25 4 56 g l fun n o=>
 Bo o t3 3 fun p=>
 C2 (lf R 146 n0 ro rt) o 1 p n fun q=>
(Bo k t3 3 fun u=>Cu u f=true) /\
(xL R k f fun w=>Cu w g=true) /\
 ve R n0 ro rt t2 t3 t9 t10 t11 q QR):vY R n0 ro rt t2 t3 t9 t10 t11 t12 s QR:=
 pC cS cF h (by kernel_rfl)
theorem AEj (h :
 xM R s 4 t3 fun a=>
 C2 (lf R 146 n0 ro rt) s 4 t2 a fun b=>
 xM R b 4 t2 fun c=>
 QR c b):vZ R n0 ro rt t2 t3 s QR:=
 pC cS cF h (by kernel_rfl)
theorem AEl (h :
 xI .add t11 (AD 1) fun a=>
 YG R n0 ro rt t2 t3 t9 t10 a s QR):ve R n0 ro rt t2 t3 t9 t10 t11 s QR:=
 pC cS cF h (by kernel_rfl)
theorem AOg {u0:AV} {Post:AV->Prop} (Bu:AN [] 0 0 [t0]=some [u0]) (h:vX R 0 0 0 u0 ⟨[],[]⟩ (QP Post)):AW (env R) 146 [t0] Post:=
 hR Tryz.func146 (by kernel_rfl) Bu h
theorem AIc (h :
 CX s Y4 fun a b=>
 xC R 90 n0 ro rt 123 [t0] b fun c d=>
 Hv .add (SS [36]) c fun e=>
 Df Y4 [(0,1,(AD 2)),(1,1,e)] fun f=>
 C2 (lf R 90 n0 ro rt) d 4 a f fun g=>
 xM R g 4 a fun i=>
 QR i g):AC1 R n0 ro rt t0 s QR:=
 pC ARF cF h (by kernel_rfl)
theorem e90 {u0:AV} {Post:AV->Prop} (Bu:AN [] 0 0 [t0]=some [u0]) (h:AC1 R 0 0 0 u0 ⟨[],[]⟩ (QP Post)):AW (env R) 90 [t0] Post:=
 hR Tryz.func90 (by kernel_rfl) Bu h
theorem AAv (h :
 Cx s t0 fun a b=>
 xF R b a 0 fun d=>
 xI .neq d (AD 2) fun e=>
 g1 e false b (Bo b a 1) fun g i=>
 g1 e false i (xL R i g) fun k l=>
 g1 e false l (Ib k) fun n o=>
 g1 e false o (xI .lss n (AD 2)) fun q u=>
 Bi e (BB true) q fun v=>
 g1 v false u (Bo u a 1) fun x y=>
 g1 v false y (xL R y x) fun aa ab=>
 g1 v false ab (Sx aa (AD 0)) fun ad ae=>
 g1 v false ae (Dx .u8 .neq ad (.pv (.sc (.int .u8 36)))) fun ag ah=>
 Bi v (BB true) ag fun ai=>
 AX ai (
 QR (.tuple [(AD 0),(BB false)]) ah) (
 AC2 R n0 ro rt a ah QR)):qc R n0 ro rt t0 s QR:=
 pC AMF cF h (by kernel_rfl)
theorem AIb (h :
 Bo s t1 1 fun a=>
 xL R s a fun b=>
 Vn (env R) (lf R 92 n0 ro rt) s (Fo [(23,b),(22,a),(1,t1)]) (AGV (sn b92 14) 2) fun c d=>
 xC R 92 n0 ro rt 124 [c] d fun e f=>
 DF e 0 fun g=>
 DF e 1 fun i=>
 Vn (env R) (lf R 92 n0 ro rt) f (Fo [(29,i),(28,g),(5,i),(4,g),(27,i),(26,g),(21,e),(25,e),(24,c),(23,b),(22,a),(1,t1)]) (AGV (sn b92 30) 2) fun j k=>
 QR (.tuple [g,j]) f):AC2 R n0 ro rt t1 s QR:=
 pC AMF cF h (by kernel_rfl)
theorem e92 {u0:AV} {Post:AV->Prop} (Bu:AN [] 0 0 [t0]=some [u0]) (h:qc R 0 0 0 u0 ⟨[],[]⟩ (QP Post)):AW (env R) 92 [t0] Post:=
 hR Tryz.func92 (by kernel_rfl) Bu h
theorem AIq (h :
 Bz s t0 fun a=>
 jV R n0 ro rt t0 t1 a (AD 0) s QR):AC3 R n0 ro rt t0 t1 s QR:=
 pC vg cF h (by kernel_rfl)
theorem AAz (h :
 xI .lss t8 t7 fun a=>
 AX a (
 AC4 R n0 ro rt t0 t1 t7 t8 a s QR) (
 AC5 R n0 ro rt  s QR)):jV R n0 ro rt t0 t1 t7 t8 s QR:=
 pL vg cF h (by kernel_rfl)
theorem AIs (h :
 Dc s 1 t0 t8 fun a=>
 xL R s a fun b=>
 xI .eql t1 b fun c=>
 AX c (
 QR t8 s) (
 AC6 R n0 ro rt t0 t1 t7 t8 s QR)):AC4 R n0 ro rt t0 t1 t7 t8 t9 s QR:=
 pC vg cF h (by kernel_rfl)
theorem AIr (h :
 QR (AD (-1)) s):AC5 R n0 ro rt  s QR:=
 pC vg cF h (by kernel_rfl)
theorem AIt (h :
 xI .add t8 (AD 1) fun a=>
 jV R n0 ro rt t0 t1 t7 a s QR):AC6 R n0 ro rt t0 t1 t7 t8 s QR:=
 pC vg cF h (by kernel_rfl)
theorem e93 {u0 u1:AV} {Post:AV->Prop} (Bu:AN [] 0 0 [t0,t1]=some [u0,u1]) (h:AC3 R 0 0 0 u0 u1 ⟨[],[]⟩ (QP Post)):AW (env R) 93 [t0,t1] Post:=
 hR Tryz.func93 (by kernel_rfl) Bu h
theorem AIk (h :
 Cx s t0 fun a b=>
 CX b Y4 fun c d=>
 xM R d 4 a fun e=>
 xC R 70 n0 ro rt 107 [e,(.AA [])] d fun f g=>
 C2 (lf R 70 n0 ro rt) g 4 c f fun i=>
 xM R i 4 c fun j=>
 QR j i):AC7 R n0 ro rt t0 s QR:=
 pC ARG cF h (by kernel_rfl)
theorem e70 {u0:AV} {Post:AV->Prop} (Bu:AN [] 0 0 [t0]=some [u0]) (h:AC7 R 0 0 0 u0 ⟨[],[]⟩ (QP Post)):AW (env R) 70 [t0] Post:=
 hR Tryz.func70 (by kernel_rfl) Bu h
theorem AEz (h :
 Cx s t0 fun a b=>
 Cx b t1 fun c d=>
 CX d Y4 fun e f=>
 xM R f 4 a fun g=>
 xC R 107 n0 ro rt 121 [g,(AD 0),(.func (.func 134) [] [c])] f fun i j=>
 C2 (lf R 107 n0 ro rt) j 4 e i fun k=>
 xM R k 4 e fun l=>
 QR l k):vh R n0 ro rt t0 t1 s QR:=
 pC AMH cF h (by kernel_rfl)
theorem AOk {u0 u1:AV} {Post:AV->Prop} (Bu:AN [] 0 0 [t0,t1]=some [u0,u1]) (h:vh R 0 0 0 u0 u1 ⟨[],[]⟩ (QP Post)):AW (env R) 107 [t0,t1] Post:=
 hR Tryz.func107 (by kernel_rfl) Bu h
theorem AEy (h :
 xI .sub t0 t1 fun a=>
 xI .geq t0 t1 fun b=>
 g0 b true s a fun c d=>
 g1 b true d (xL R d t2) fun f g=>
 g1 b true g (Bz g f) fun j k=>
 g1 b true k (xI .lss c j) fun m n=>
 Bi b m (BB false) fun o=>
 AX o (
 xL R n t2 fun p=>
 Dc n 4 p a fun q=>
 QR (.tuple [q,(AD 0)]) n) (
 vn R n0 ro rt t0 n QR)):vk R n0 ro rt t0 t1 t2 s QR:=
 pC AC8 cF h (by kernel_rfl)
theorem qo (h :
 QR (.tuple [(.pv (.sc (.pointer none))),t0]) s):vn R n0 ro rt t0 s QR:=
 pC AC8 cF h (by kernel_rfl)
theorem AOj {L:A0} {Post:AV->AK->Prop} (hn:BN [t0,t1,t2]=false) (h:vk R 0 L.ro L.rt t0 t1 t2 s (QM (L.rr 134) s.bs.length Post)):∃ v s',Post v s'/\BC (env R) L 134 [t0,t1,t2] s v s':=
 hM Tryz.func134 (by kernel_rfl) hn h
theorem AIo (h :
 Cx s t0 fun a b=>
 CX b [(.AA [])] fun c d=>
 CX d [(.pv (.sc .nilFunc))] fun e f=>
 C2 (lf R 23 n0 ro rt) f 1 e (.func (.func 56) [] [c,e]) fun g=>
 xL R g e fun i=>
 xG R g a 1 4 fun k=>
 Fe (env R) (lf R 23 n0 ro rt) i [k] g fun l m=>
 xL R m c fun n=>
 QR n m):AC9 R n0 ro rt t0 s QR:=
 pC ARJ cF h (by kernel_rfl)
theorem e23 {u0:AV} {Post:AV->Prop} (Bu:AN [] 0 0 [t0]=some [u0]) (h:AC9 R 0 0 0 u0 ⟨[],[]⟩ (QP Post)):AW (env R) 23 [t0] Post:=
 hR Tryz.func23 (by kernel_rfl) Bu h
theorem AIn (h :
 Cx s t0 fun a b=>
 xF R b a 0 fun d=>
 xI .eql d (AD 5) fun e=>
 AX e (
 xL R b t1 fun f=>
 xF R b a 2 fun i=>
 D4 false b 1 [(AD 0)] 1 [(0,1,i)] fun j k=>
(1=1/\1≠0)/\E1 false (lf R 56 n0 ro rt) k 3 1 8 f j fun l m=>
 C2 (lf R 56 n0 ro rt) m 1 t1 l fun n=>
 QR (.tuple []) n) (
 xI .eql d (AD 3) fun o=>
 AX o (
 xF R b a 3 fun q=>
 Bz b q fun u=>
 jS R n0 ro rt t2 q u (AD 0) b QR) (
 QR (.tuple []) b))):ADA R n0 ro rt t0 t1 t2 s QR:=
 pC AAD cF h (by kernel_rfl)
theorem AAy (h :
 xI .lss t20 t19 fun a=>
 AX a (
 ADB R n0 ro rt t2 t18 t19 t20 a s QR) (
 QR (.tuple []) s)):jS R n0 ro rt t2 t18 t19 t20 s QR:=
 pL AAD cF h (by kernel_rfl)
theorem AIl (h :
 Dc s 4 t18 t20 fun a=>
 xM R s 4 a fun b=>
 CX s Y4 fun c d=>
 C2 (lf R 56 n0 ro rt) d 4 c b fun e=>
 xL R e t2 fun f=>
 xM R e 4 c fun g=>
 Fe (env R) (lf R 56 n0 ro rt) f [g] e fun i j=>
 ADC R n0 ro rt t2 t18 t19 t20 j QR):ADB R n0 ro rt t2 t18 t19 t20 t21 s QR:=
 pC AAD cF h (by kernel_rfl)
theorem AIm (h :
 xI .add t20 (AD 1) fun a=>
 jS R n0 ro rt t2 t18 t19 a s QR):ADC R n0 ro rt t2 t18 t19 t20 s QR:=
 pC AAD cF h (by kernel_rfl)
theorem m56 {L:A0} {Post:AV->AK->Prop} (hn:BN [t0,t1,t2]=false) (h:ADA R 0 L.ro L.rt t0 t1 t2 s (QM (L.rr 56) s.bs.length Post)):∃ v s',Post v s'/\BC (env R) L 56 [t0,t1,t2] s v s':=
 hM Tryz.func56 (by kernel_rfl) hn h
theorem AJq (h :
 Cx s t0 fun a b=>
 CX b [(.AA [])] fun c d=>
 xM R d 4 a fun e=>
 xC R 43 n0 ro rt 87 [e,(AD 0),c] d fun f g=>
 xF R g c 0 fun j=>
 QR j g):ADE R n0 ro rt t0 s QR:=
 pC ARK cF h (by kernel_rfl)
theorem e43 {u0:AV} {Post:AV->Prop} (Bu:AN [] 0 0 [t0]=some [u0]) (h:ADE R 0 0 0 u0 ⟨[],[]⟩ (QP Post)):AW (env R) 43 [t0] Post:=
 hR Tryz.func43 (by kernel_rfl) Bu h
theorem AJo (h :
 Cx s t0 fun a b=>
 xF R b a 0 fun d=>
 xI .eql d (AD 5) fun e=>
 g1 e true b (Bo b a 2) fun g i=>
 g1 e true i (xL R i g) fun k l=>
 g0 e true l t1 fun m n=>
 g1 e true n (xI .geq k m) fun p q=>
 Bi e p (BB false) fun u=>
 AX u (
 xF R q a 2 fun w=>
 xI .sub w t1 fun x=>
 xC R 87 n0 ro rt 118 [t2,x] q fun y z=>
 j6 R n0 ro rt t1 t2 a z QR) (
 j6 R n0 ro rt t1 t2 a q QR)):sN R n0 ro rt t0 t1 t2 s QR:=
 pC vo cF h (by kernel_rfl)
theorem AJp (h :
 xF R s t3 3 fun b=>
 Bz s b fun c=>
 j5 R n0 ro rt t1 t2 t3 b c (AD 0) s QR):j6 R n0 ro rt t1 t2 t3 s QR:=
 pC vo cF h (by kernel_rfl)
theorem ABK (h :
 xI .lss t26 t25 fun a=>
 AX a (
 ADF R n0 ro rt t1 t2 t3 t24 t25 t26 a s QR) (
 QR (.tuple []) s)):j5 R n0 ro rt t1 t2 t3 t24 t25 t26 s QR:=
 pL vo cF h (by kernel_rfl)
theorem AJk (h :
 Dc s 4 t24 t26 fun a=>
 xM R s 4 a fun b=>
 CX s Y4 fun c d=>
 C2 (lf R 87 n0 ro rt) d 4 c b fun e=>
 xM R e 4 c fun f=>
 xM R e 4 t3 fun g=>
 xC R 87 n0 ro rt 119 [g,t26] e fun i j=>
 xI .add t1 i fun k=>
 xC R 87 n0 ro rt 87 [f,k,t2] j fun l m=>
(xM R j 4 c fun n=>Cu n f=true) /\
 ADG R n0 ro rt t1 t2 t3 t24 t25 t26 m QR):ADF R n0 ro rt t1 t2 t3 t24 t25 t26 t27 s QR:=
 pC vo cF h (by kernel_rfl)
theorem AJn (h :
 xI .add t26 (AD 1) fun a=>
 j5 R n0 ro rt t1 t2 t3 t24 t25 a s QR):ADG R n0 ro rt t1 t2 t3 t24 t25 t26 s QR:=
 pC vo cF h (by kernel_rfl)
theorem m87 {L:A0} {Post:AV->AK->Prop} (h:sN R L.n0 L.ro L.rt t0 t1 t2 s Post):∃ v s',Post v s'/\BC (env R) L 87 [t0,t1,t2] s v s':=
 hE Tryz.func87 (by kernel_rfl) h
theorem AFo (h :
 Eo s t0 fun a=>
 xF R s a 0 fun c=>
 xC R 118 n0 ro rt 142 [c,t1] s fun d e=>
 DF d 0 fun f=>
 DF d 1 fun g=>
 Fj g fun i=>
 AX i (
 Eo e t0 fun j=>
 xF R e j 0 fun l=>
 D4 false e 1 [(AD 0)] 1 [(0,1,t1)] fun m n=>
 xC R 118 n0 ro rt 143 [l,f,m] n fun o p=>
 Eo p t0 fun q=>
 Bo p q 0 fun u=>
 C2 (lf R 118 n0 ro rt) p 1 u o fun v=>
 QR (.tuple []) v) (
 QR (.tuple []) e)):vp R n0 ro rt t0 t1 s QR:=
 pC AML cF h (by kernel_rfl)
theorem APL {L:A0} {Post:AV->AK->Prop} (h:vp R L.n0 L.ro L.rt t0 t1 s Post):∃ v s',Post v s'/\BC (env R) L 118 [t0,t1] s v s':=
 hE Tryz.func118 (by kernel_rfl) h
theorem sJ (h :
 Bz s t0 fun a=>
 Tm R n0 ro rt t0 t1 a (AD 0) a s QR):gO R n0 ro rt t0 t1 s QR:=
 pC kn cF h (by kernel_rfl)
theorem fO (h :
 xI .lss t7 t8 fun a=>
 AX a (
 vq R n0 ro rt t0 t1 t6 t7 t8 s QR) (
 vr R n0 ro rt t0 t1 t6 t7 s QR)):Tm R n0 ro rt t0 t1 t6 t7 t8 s QR:=
 pL kn cF h (by kernel_rfl)
theorem AFm (h :
 xI .add t7 t8 fun a=>
 Mf .u64 a fun b=>
 Dx .u64 .shr b (.pv (.sc (.int .u64 1))) fun c=>
 Mf .i64 c fun d=>
 Dc s 1 t0 d fun e=>
 xL R s e fun f=>
 xC R 142 n0 ro rt 162 [f,t1] s fun g i=>
 AX g (
 xI .add d (AD 1) fun j=>
 Tm R n0 ro rt t0 t1 t6 j t8 i QR) (
 Tm R n0 ro rt t0 t1 t6 t7 d i QR)):vq R n0 ro rt t0 t1 t6 t7 t8 s QR:=
 pC kn cF h (by kernel_rfl)
theorem sI (h :
 xI .lss t7 t6 fun a=>
 g0 a true s t0 fun b c=>
 g0 a true c t7 fun d e=>
 g1 a true e (Dc e 1 b d) fun g i=>
 g1 a true i (xL R i g) fun k l=>
 g0 a true l t1 fun m n=>
 g1 a true n (xI .eql k m) fun p q=>
 g0 a true q p fun u v=>
 g0 u false v t0 fun w x=>
 g0 u false x t7 fun y z=>
 g1 u false z (Dc z 1 w y) fun ab ac=>
 g1 u false ac (xL R ac ab) fun ae af=>
 KX u false af (xC R 142 n0 ro rt 163 [ae] af) fun ai aj=>
 g0 u false aj ai fun ak al=>
 g0 ak true al t1 fun am an=>
 KX ak true an (xC R 142 n0 ro rt 163 [am] an) fun aq ar=>
 g1 u false ar (Bi ak aq (BB false)) fun av aw=>
 g1 a true aw (Bi u (BB true) av) fun ay az=>
 Bi a ay (BB false) fun a0=>
 QR (.tuple [t7,a0]) az):vr R n0 ro rt t0 t1 t6 t7 s QR:=
 pC kn cF h (by kernel_rfl)
theorem APK {u0 u1:AV} {Post:AV->Prop} (Bu:AN [] 0 0 [t0,t1]=some [u0,u1]) (h:gO R 0 0 0 u0 u1 ⟨[],[]⟩ (QP Post)):AW (env R) 142 [t0,t1] Post:=
 hR Tryz.func142 (by kernel_rfl) Bu h
theorem i142 {Post:AV->Prop} (Bu:AN [] 0 0 [t0,t1]=none) (h:gO R s.bs.length s.bs.length s.ts.length t0 t1 s (QI s.bs.length s.ts.length Post)):∃ v,Post v/\∀ L,BC (env R) L 142 [t0,t1] s v s:=
 hI Tryz.func142 (by kernel_rfl) Bu h
theorem AFl (h :
 xC R 162 n0 ro rt 152 [t0] s fun a b=>
 g0 a true b t1 fun c d=>
 KX a true d (xC R 162 n0 ro rt 152 [c] d) fun g i=>
 g1 a true i (Fj g) fun k l=>
 Bi a k (BB false) fun m=>
 g0 m false l t0 fun n o=>
 g0 m false o t1 fun p q=>
 g1 m false q (xI .lss n p) fun v w=>
 Bi m (BB true) v fun x=>
 QR x w):vt R n0 ro rt t0 t1 s QR:=
 pC AMM cF h (by kernel_rfl)
theorem API {u0 u1:AV} {Post:AV->Prop} (Bu:AN [] 0 0 [t0,t1]=some [u0,u1]) (h:vt R 0 0 0 u0 u1 ⟨[],[]⟩ (QP Post)):AW (env R) 162 [t0,t1] Post:=
 hR Tryz.func162 (by kernel_rfl) Bu h
end
end Go.Proofs.YtpgfpakdnijngaaGreatDoor
