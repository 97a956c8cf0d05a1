/-
  What the points of some functions' code need: written by a program (wip/tel/GenW.lean.txt).
-/
import Derived.Test.YtpgfpakdnijngaaGreatDoorWx
set_option linter.all false
namespace Go.Proofs.YtpgfpakdnijngaaGreatDoor
open Go.Tel
noncomputable section
section
variable (R:RT) (N O T:Nat) (t0 t1 t2 t3 t4 t5 t7 t8 t9 t10 t17 t18 t19 t20 t22 t23 t28 t29:AV)
noncomputable def b84:Code:=Tryz.f84.body.getD .skip
def yh:Nat->List Nat:=ln [[],[1],[1,3],[3,7,8,9],[3,7,8,9,10],[3,5,7,8,9],[3,7,8,9],[3]]
abbrev Q84:=Wq R N O T 84 19 [.tmp 2]
def AF0:=Q84 R N O T (aT b84 1) [(0,t0)]
def ju:=Q84 R N O T (aT b84 58) [(3,t3),(7,t7),(8,t8),(9,t9)]
def AF1:=Q84 R N O T (aT b84 467) [(3,t3),(7,t7),(8,t8),(9,t9),(10,t10)]
def AF2:=Q84 R N O T (aT b84 15) [(3,t3)]
def AF3:=Q84 R N O T (aT b84 935) [(3,t3),(7,t7),(8,t8),(9,t9)]
noncomputable def b85:Code:=Tryz.f85.body.getD .skip
def yj:Nat->List Nat:=ln [[],[1],[1,3],[3,7,8,9],[3,7,8,9,10],[3,5,7,8,9],[3,7,8,9],[3]]
abbrev Q85:=Wq R N O T 85 20 [.tmp 2]
def AF4:=Q85 R N O T (aT b85 1) [(0,t0)]
def jx:=Q85 R N O T (aT b85 58) [(3,t3),(7,t7),(8,t8),(9,t9)]
def AF5:=Q85 R N O T (aT b85 467) [(3,t3),(7,t7),(8,t8),(9,t9),(10,t10)]
def AF6:=Q85 R N O T (aT b85 15) [(3,t3)]
def AF7:=Q85 R N O T (aT b85 935) [(3,t3),(7,t7),(8,t8),(9,t9)]
noncomputable def AEA:Code:=Tryz.f116.body.getD .skip
def nN:Nat->List Nat:=ln [[],[1],[1,20],[1],[1,22],[1,22,23],[1,22,23],[],[1,22,30],[],[1,22,52],[],[1,22,58],[],[1,22,64],[],[1,80],[]]
abbrev AEB:=Wq R N O T 116 93 [.tmp 2]
def fq:=AEB R N O T (aT AEA 1) [(0,t0)]
def fk:=AEB R N O T (aT AEA 7) [(1,t1)]
def KD:=AEB R N O T (aT AEA 117) [(1,t1),(22,t22),(23,t23)]
def yl:=AEB R N O T (aT AEA 15) []
noncomputable def AS7:Code:=Tryz.f117.body.getD .skip
def AS8:Nat->List Nat:=ln [[],[1]]
abbrev AYS:=Wq R N O T 117 6 [.tmp 2]
def ym:=AYS R N O T (aT AS7 1) [(0,t0)]
noncomputable def b86:Code:=Tryz.f86.body.getD .skip
def AYT:Nat->List Nat:=ln [[],[1]]
abbrev Q86:=Wq R N O T 86 11 [.tmp 2]
def AF8:=Q86 R N O T (aT b86 1) [(0,t0)]
noncomputable def b42:Code:=Tryz.f42.body.getD .skip
def AS9:Nat->List Nat:=ln [[],[1],[1,3],[],[12],[]]
abbrev Q42:=Wq R N O T 42 16 [.tmp 2]
def AF9:=Q42 R N O T (aT b42 1) [(0,t0)]
def vT:=Q42 R N O T (aT b42 7) []
noncomputable def b94:Code:=Tryz.f94.body.getD .skip
def AYU:Nat->List Nat:=ln [[],[0,1]]
abbrev Q94:=Wq R N O T 94 9 [.tmp 4]
def yp:=Q94 R N O T (aT b94 1) [(0,t0),(1,t1)]
noncomputable def pq:Code:=Tryz.f125.body.getD .skip
def dG:Nat->List Nat:=ln [[],[0,1],[0,1,7,8],[0,1,7,8,9],[0,1,5,7,8],[0,1,5,7,8,16],[0,1,7,8],[]]
abbrev yq:=Wq R N O T 125 19 [.tmp 4]
def ir:=yq R N O T (aT pq 1) [(0,t0),(1,t1)]
def P6:=yq R N O T (aT pq 26) [(0,t0),(1,t1),(7,t7),(8,t8)]
def yu:=yq R N O T (aT pq 211) [(0,t0),(1,t1),(7,t7),(8,t8),(9,t9)]
def yw:=yq R N O T (aT pq 7) []
def yx:=yq R N O T (aT pq 423) [(0,t0),(1,t1),(7,t7),(8,t8)]
noncomputable def AYV:Code:=Tryz.f140.body.getD .skip
def ATA:Nat->List Nat:=ln [[],[1]]
abbrev AYW:=Wq R N O T 140 7 [.tmp 2]
def yy:=AYW R N O T (aT AYV 1) [(0,t0)]
noncomputable def pz:Code:=Tryz.f141.body.getD .skip
def XD:Nat->List Nat:=ln [[],[1,2],[1,2,15],[1,2],[1,2,17,18,19],[1,2,17,18,19,20],[1,2,5,6,17,18,19],[1,2,17,18,19,31],[1,2,17,18,19],[]]
abbrev p9:=Wq R N O T 141 33 [.tmp 4]
def fL:=p9 R N O T (aT pz 1) [(0,t0),(1,t1)]
def fM:=p9 R N O T (aT pz 7) [(1,t1),(2,t2)]
def YF:=p9 R N O T (aT pz 58) [(1,t1),(2,t2),(17,t17),(18,t18),(19,t19)]
def yz:=p9 R N O T (aT pz 467) [(1,t1),(2,t2),(17,t17),(18,t18),(19,t19),(20,t20)]
def y6:=p9 R N O T (aT pz 15) []
def y7:=p9 R N O T (aT pz 935) [(1,t1),(2,t2),(17,t17),(18,t18),(19,t19)]
noncomputable def ATB:Code:=Tryz.f160.body.getD .skip
def ATC:Nat->List Nat:=ln [[],[1]]
abbrev AYX:=Wq R N O T 160 6 [.tmp 2]
def y8:=AYX R N O T (aT ATB 1) [(0,t0)]
noncomputable def AYY:Code:=Tryz.f161.body.getD .skip
def ATD:Nat->List Nat:=ln [[],[1]]
abbrev AYZ:=Wq R N O T 161 19 [.tmp 2]
def y9:=AYZ R N O T (aT AYY 1) [(0,t0)]
noncomputable def ATE:Code:=Tryz.f119.body.getD .skip
def AGA:Nat->List Nat:=ln [[],[1,2],[11],[]]
abbrev ATF:=Wq R N O T 119 12 [.tmp 4]
def zA:=ATF R N O T (aT ATE 1) [(0,t0),(1,t1)]
def zB:=ATF R N O T (aT ATE 7) []
noncomputable def AYa:Code:=Tryz.f138.body.getD .skip
def ATG:Nat->List Nat:=ln [[],[0]]
abbrev AYb:=Wq R N O T 138 19 [.tmp 2]
def zC:=AYb R N O T (aT AYa 1) [(0,t0)]
noncomputable def AYc:Code:=Tryz.f139.body.getD .skip
def ATH:Nat->List Nat:=ln [[],[0,1]]
abbrev AYd:=Wq R N O T 139 9 [.tmp 4]
def zD:=AYd R N O T (aT AYc 1) [(0,t0),(1,t1)]
noncomputable def zE:Code:=Tryz.f156.body.getD .skip
def dH:Nat->List Nat:=ln ([]::[0,1]::rp 3 [0,1,5] [[0,1,5,17],[]])
abbrev zF:=Wq R N O T 156 18 [.tmp 4]
def zH:=zF R N O T (aT zE 1) [(0,t0),(1,t1)]
def YL:=zF R N O T (aT zE 26) [(0,t0),(1,t1),(5,t5)]
def zI:=zF R N O T (aT zE 105) [(0,t0),(1,t1),(5,t5)]
def zJ:=zF R N O T (aT zE 7) []
def zK:=zF R N O T (aT zE 211) [(0,t0),(1,t1),(5,t5)]
noncomputable def ATI:Code:=Tryz.f157.body.getD .skip
def ATJ:Nat->List Nat:=ln [[],[0]]
abbrev AYe:=Wq R N O T 157 9 [.tmp 2]
def zL:=AYe R N O T (aT ATI 1) [(0,t0)]
noncomputable def AYf:Code:=Tryz.f158.body.getD .skip
def ATK:Nat->List Nat:=ln [[],[0]]
abbrev AYg:=Wq R N O T 158 17 [.tmp 2]
def zM:=AYg R N O T (aT AYf 1) [(0,t0)]
noncomputable def AYh:Code:=Tryz.f155.body.getD .skip
def ATL:Nat->List Nat:=ln [[],[0]]
abbrev AYi:=Wq R N O T 155 17 [.tmp 2]
def zN:=AYi R N O T (aT AYh 1) [(0,t0)]
noncomputable def AYj:Code:=Tryz.f173.body.getD .skip
def ATM:Nat->List Nat:=ln [[],[0]]
abbrev AYk:=Wq R N O T 173 9 [.tmp 2]
def zO:=AYk R N O T (aT AYj 1) [(0,t0)]
noncomputable def zP:Code:=Tryz.f159.body.getD .skip
def dI:Nat->List Nat:=ln [[],[0,1],[0,1,7,8],[0,1,7,8,9],[0,1,5,7,8],[0,1,5,7,8,16],[0,1,7,8],[]]
abbrev zQ:=Wq R N O T 159 19 [.tmp 4]
def zR:=zQ R N O T (aT zP 1) [(0,t0),(1,t1)]
def YP:=zQ R N O T (aT zP 26) [(0,t0),(1,t1),(7,t7),(8,t8)]
def zS:=zQ R N O T (aT zP 211) [(0,t0),(1,t1),(7,t7),(8,t8),(9,t9)]
def zT:=zQ R N O T (aT zP 7) []
def zU:=zQ R N O T (aT zP 423) [(0,t0),(1,t1),(7,t7),(8,t8)]
noncomputable def b71:Code:=Tryz.f71.body.getD .skip
def zV:Nat->List Nat:=ln ([]::[1]::[1,3]::rp 3 [1,3,4] [[3]])
abbrev Q71:=Wq R N O T 71 21 [.tmp 2]
def AGB:=Q71 R N O T (aT b71 1) [(0,t0)]
def jv:=Q71 R N O T (aT b71 58) [(1,t1),(3,t3),(4,t4)]
def AGC:=Q71 R N O T (aT b71 233) [(1,t1),(3,t3),(4,t4)]
def AGD:=Q71 R N O T (aT b71 15) [(3,t3)]
def AGE:=Q71 R N O T (aT b71 467) [(1,t1),(3,t3),(4,t4)]
noncomputable def b72:Code:=Tryz.f72.body.getD .skip
def zW:Nat->List Nat:=ln ([]::[1]::[1,3]::rp 3 [1,3,4] [[3]])
abbrev Q72:=Wq R N O T 72 22 [.tmp 2]
def AGF:=Q72 R N O T (aT b72 1) [(0,t0)]
def jy:=Q72 R N O T (aT b72 58) [(1,t1),(3,t3),(4,t4)]
def AGG:=Q72 R N O T (aT b72 233) [(1,t1),(3,t3),(4,t4)]
def AGH:=Q72 R N O T (aT b72 15) [(3,t3)]
def AGI:=Q72 R N O T (aT b72 467) [(1,t1),(3,t3),(4,t4)]
noncomputable def rM:Code:=Tryz.f73.body.getD .skip
def RZ:Nat->List Nat:=ln ([]::[1]::[1,3]::[1,3,26]::[1,3]::[]::[1,3,28]::[1,3,28,29]::[1,3,28,29]::[]::[1,3,28,34]::[]::[1,3,28,48]::[1,3,62]::[1,3]::rp 3 [1,3,4] ([1,3,4,74]::[]::[1,3,28,75]::[1,3,78]::[]::[1,3,28,79]::[1,3,82]::[]::[1,3,83]::[1,3,94]::[1,3]::rp 3 [1,3,5] [[1,3,5,106],[]]))
abbrev rN:=Wq R N O T 73 107 [.tmp 2]
def vR:=rN R N O T (aT rM 1) [(0,t0)]
def uv:=rN R N O T (aT rM 15) [(1,t1),(3,t3)]
def NK:=rN R N O T (aT rM 245) [(1,t1),(3,t3),(28,t28),(29,t29)]
def AGJ:=rN R N O T (aT rM 15741) [(1,t1),(3,t3)]
def Vu:=rN R N O T (aT rM 31) [(1,t1),(3,t3)]
def j0:=rN R N O T (aT rM 62966) [(1,t1),(3,t3),(4,t4)]
def jz:=rN R N O T (aT rM 250) [(1,t1),(3,t3),(5,t5)]
def AGK:=rN R N O T (aT rM 251865) [(1,t1),(3,t3),(4,t4)]
def AGL:=rN R N O T (aT rM 1001) [(1,t1),(3,t3),(5,t5)]
def AGM:=rN R N O T (aT rM 63) []
def zX:=rN R N O T (aT rM 503731) [(1,t1),(3,t3),(4,t4)]
def zY:=rN R N O T (aT rM 2003) [(1,t1),(3,t3),(5,t5)]
noncomputable def b30:Code:=Tryz.f30.body.getD .skip
def ATQ:Nat->List Nat:=ln [[],[1],[1,3],[],[12],[]]
abbrev Q30:=Wq R N O T 30 16 [.tmp 2]
def AGN:=Q30 R N O T (aT b30 1) [(0,t0)]
def vU:=Q30 R N O T (aT b30 7) []
noncomputable def b48:Code:=Tryz.f48.body.getD .skip
def AYl:Nat->List Nat:=ln [[],[1]]
abbrev Q48:=Wq R N O T 48 7 [.tmp 2]
def AGO:=Q48 R N O T (aT b48 1) [(0,t0)]
noncomputable def b96:Code:=Tryz.f96.body.getD .skip
def AYm:Nat->List Nat:=ln [[],[1]]
abbrev Q96:=Wq R N O T 96 5 [.tmp 2]
def AGP:=Q96 R N O T (aT b96 1) [(0,t0)]
noncomputable def qA:Code:=Tryz.f126.body.getD .skip
def XE:Nat->List Nat:=ln ([]::[1,2,3]::[1,2,3,16]::[1,2,3]::rp 3 [1,2,3,7] [[2]])
abbrev qB:=Wq R N O T 126 43 [.tmp 6]
def fP:=qB R N O T (aT qA 1) [(0,t0),(1,t1),(2,t2)]
def iu:=qB R N O T (aT qA 7) [(1,t1),(2,t2),(3,t3)]
def YI:=qB R N O T (aT qA 58) [(1,t1),(2,t2),(3,t3),(7,t7)]
def zZ:=qB R N O T (aT qA 233) [(1,t1),(2,t2),(3,t3),(7,t7)]
def za:=qB R N O T (aT qA 15) [(2,t2)]
def zb:=qB R N O T (aT qA 467) [(1,t1),(2,t2),(3,t3),(7,t7)]
noncomputable def zc:Code:=Tryz.f150.body.getD .skip
def dJ:Nat->List Nat:=ln ([]::[0,1]::rp 3 [0,1,5] [[0,1,5,31],[0,1,5]])
abbrev ze:=Wq R N O T 150 45 [.tmp 4]
def zf:=ze R N O T (aT zc 1) [(0,t0),(1,t1)]
def YH:=ze R N O T (aT zc 28) [(0,t0),(1,t1),(5,t5)]
def zg:=ze R N O T (aT zc 113) [(0,t0),(1,t1),(5,t5)]
def fO:=ze R N O T (aT zc 15) [(0,t0),(1,t1),(5,t5)]
def fN:=ze R N O T (aT zc 31) [(0,t0),(1,t1),(5,t5)]
noncomputable def ATR:Code:=Tryz.f151.body.getD .skip
def AGQ:Nat->List Nat:=ln [[],[1,2],[11],[]]
abbrev ATS:=Wq R N O T 151 12 [.tmp 4]
def zh:=ATS R N O T (aT ATR 1) [(0,t0),(1,t1)]
def zi:=ATS R N O T (aT ATR 7) []
noncomputable def qC:Code:=Tryz.f108.body.getD .skip
def XF:Nat->List Nat:=ln ([]::[0]::[0,17]::[0]::rp 3 [0,3] [[0,3,34],[]])
abbrev qD:=Wq R N O T 108 35 [.tmp 2]
def zj:=qD R N O T (aT qC 1) [(0,t0)]
def zk:=qD R N O T (aT qC 7) [(0,t0)]
def YN:=qD R N O T (aT qC 58) [(0,t0),(3,t3)]
def zl:=qD R N O T (aT qC 233) [(0,t0),(3,t3)]
def zm:=qD R N O T (aT qC 15) []
def zn:=qD R N O T (aT qC 467) [(0,t0),(3,t3)]
noncomputable def AYn:Code:=Tryz.f109.body.getD .skip
def ATT:Nat->List Nat:=ln [[],[0]]
abbrev AYo:=Wq R N O T 109 21 [.tmp 2]
def zo:=AYo R N O T (aT AYn 1) [(0,t0)]
noncomputable def qE:Code:=Tryz.f110.body.getD .skip
def XG:Nat->List Nat:=ln ([]::[1]::[1,10]::[1]::rp 3 [1,3] [[1,3,24],[1]])
abbrev qG:=Wq R N O T 110 28 [.tmp 2]
def fY:=qG R N O T (aT qE 1) [(0,t0)]
def zq:=qG R N O T (aT qE 7) [(1,t1)]
def YK:=qG R N O T (aT qE 58) [(1,t1),(3,t3)]
def zu:=qG R N O T (aT qE 233) [(1,t1),(3,t3)]
def zw:=qG R N O T (aT qE 15) [(1,t1)]
def zx:=qG R N O T (aT qE 467) [(1,t1),(3,t3)]
noncomputable def AYp:Code:=Tryz.f135.body.getD .skip
def ATU:Nat->List Nat:=ln [[],[0]]
abbrev AYq:=Wq R N O T 135 17 [.tmp 2]
def zy:=AYq R N O T (aT AYp 1) [(0,t0)]
noncomputable def AYr:Code:=Tryz.f136.body.getD .skip
def ATV:Nat->List Nat:=ln [[],[0]]
abbrev AYs:=Wq R N O T 136 17 [.tmp 2]
def z6:=AYs R N O T (aT AYr 1) [(0,t0)]
noncomputable def AYt:Code:=Tryz.f154.body.getD .skip
def ATW:Nat->List Nat:=ln [[],[0]]
abbrev AYu:=Wq R N O T 154 9 [.tmp 2]
def z7:=AYu R N O T (aT AYt 1) [(0,t0)]
end
variable {R:RT} {N O T:Nat} {s:AL} {QR:QT} {t0 t1 t2 t3 t4 t5 t7 t8 t9 t10 t17 t18 t19 t20 t22 t23 t28 t29:AV}
theorem AOg (h :
 Bs s t0 λa b=>
 xF R b a 3 λd=>
 BO b d λe=>
 ju R N O T (AB 1) d e (AB 0) b QR):AF0 R N O T t0 s QR:=
 pC yh cF h
theorem AEr (h :
 xI .lss t9 t8 λa=>
 AO a (
 AF1 R N O T t3 t7 t8 t9 a s QR) (
 AF2 R N O T t3 s QR)):ju R N O T t3 t7 t8 t9 s QR:=
 pL yh cF h
theorem AOe (h :
 Bj s 4 t7 t9 λa=>
 xM R s 4 a λb=>
 Cl s Y4 λc d=>
 Ci (lf R 84 N O T) d 4 c b λe=>
 xM R e 4 c λf=>
 xC R 84 N O T 84 [f] e λg i=>
 xI .add t3 g λj=>
 AF3 R N O T j t7 t8 t9 i QR):AF1 R N O T t3 t7 t8 t9 t10 s QR:=
 pC yh cF h
theorem AOd (h :
 QR t3 s):AF2 R N O T t3 s QR:=
 pC yh cF h
theorem AOf (h :
 xI .add t9 (AB 1) λa=>
 ju R N O T t3 t7 t8 a s QR):AF3 R N O T t3 t7 t8 t9 s QR:=
 pC yh cF h
theorem e84 {u0:AV} {Post:AV->Prop} (Bi:AX [] 0 0 [t0]=some [u0]) (h:AF0 R 0 0 0 u0 ⟨[],[]⟩ (QP Post)):AM (env R) 84 [t0] Post:=
 hR Tryz.func84 Bi h
theorem AOo (h :
 Bs s t0 λa b=>
 xF R b a 3 λd=>
 BO b d λe=>
 jx R N O T (AB 0) d e (AB 0) b QR):AF4 R N O T t0 s QR:=
 pC yj cF h
theorem AEt (h :
 xI .lss t9 t8 λa=>
 AO a (
 AF5 R N O T t3 t7 t8 t9 a s QR) (
 AF6 R N O T t3 s QR)):jx R N O T t3 t7 t8 t9 s QR:=
 pL yj cF h
theorem AOm (h :
 Bj s 4 t7 t9 λa=>
 xM R s 4 a λb=>
 Cl s Y4 λc d=>
 Ci (lf R 85 N O T) d 4 c b λe=>
 xM R e 4 c λf=>
 xC R 85 N O T 85 [f] e λg i=>
 Tj (env R) (lf R 85 N O T) i (Em [(15,g),(14,f),(13,t3),(5,c),(12,b),(11,a),(3,t3),(7,t7),(8,t8),(9,t9),(10,t10)]) (AEC (sn b85 3737) 3) λj k=>
 AF7 R N O T j t7 t8 t9 k QR):AF5 R N O T t3 t7 t8 t9 t10 s QR:=
 pC yj cF h
theorem AOl (h :
 xI .add t3 (AB 1) λa=>
 QR a s):AF6 R N O T t3 s QR:=
 pC yj cF h
theorem AOn (h :
 xI .add t9 (AB 1) λa=>
 jx R N O T t3 t7 t8 a s QR):AF7 R N O T t3 t7 t8 t9 s QR:=
 pC yj cF h
theorem e85 {u0:AV} {Post:AV->Prop} (Bi:AX [] 0 0 [t0]=some [u0]) (h:AF4 R 0 0 0 u0 ⟨[],[]⟩ (QP Post)):AM (env R) 85 [t0] Post:=
 hR Tryz.func85 Bi h
theorem AJ4 (h :
 Bs s t0 λa b=>
 xF R b a 0 λd=>
 xI .neq d (AB 2) λe=>
 g1 e true b (Ax b a 1) λg i=>
 g1 e true i (xL R i g) λk l=>
 g1 e true l (GD .neq k (SS [])) λn o=>
 A8 e n (BB false) λp=>
 g1 p false o (Ax o a 0) λu v=>
 g1 p false v (xL R v u) λx y=>
 g1 p false y (xI .neq x (AB 5)) λaa ab=>
 g0 p false ab aa λac ad=>
 g1 ac true ad (Ax ad a 2) λaf ag=>
 g1 ac true ag (xL R ag af) λai aj=>
 g1 ac true aj (xI .neq ai (AB 0)) λal am=>
 g1 p false am (A8 ac al (BB false)) λao ap=>
 A8 p (BB true) ao λaq=>
 AO aq (
 QR (BB false) ap) (
 fk R N O T a ap QR)):fq R N O T t0 s QR:=
 pC nN cF h
theorem AJ3 (h :
 xF R s t1 0 λb=>
 xI .eql b (AB 0) λc=>
 AO c (
 KD R N O T t1 b c s QR) (
 xI .eql b (AB 1) λd=>
 KD R N O T t1 b d s QR)):fk R N O T t1 s QR:=
 pC nN cF h
theorem Nj (h :
 AO t23 (
 xF R s t1 3 λb=>
 BO s b λc=>
 xI .eql c (AB 0) λd=>
 QR d s) (
 xI .eql t22 (AB 2) λe=>
 AO e (
 xF R s t1 1 λg=>
 xC R 116 N O T 138 [g] s λi j=>
 g1 i true j (xL R j (.DX 2 0)) λl m=>
 g1 i true m (Ax m t1 1) λo p=>
 g1 i true p (xL R p o) λu v=>
 I1 i true v (xC R 116 N O T 139 [l,u] v) λy z=>
 g1 i true z (Dv y) λab ac=>
 A8 i ab (BB false) λad=>
 g1 ad true ac (Ax ac t1 3) λaf ag=>
 g1 ad true ag (xL R ag af) λai aj=>
 g1 ad true aj (BO aj ai) λal am=>
 g1 ad true am (xI .leq al (AB 6)) λao ap=>
 A8 ad ao (BB false) λaq=>
 g1 aq true ap (xM R ap 4 t1) λau av=>
 I1 aq true av (xC R 116 N O T 140 [au] av) λay az=>
 A8 aq ay (BB false) λa0=>
 QR a0 az) (
 xI .eql t22 (AB 3) λa1=>
 AO a1 (
 xF R s t1 3 λa3=>
 BO s a3 λa4=>
 xI .leq a4 (AB 6) λa5=>
 QR a5 s) (
 xI .eql t22 (AB 4) λa6=>
 AO a6 (
 xF R s t1 3 λa8=>
 BO s a8 λa9=>
 xI .geq a9 (AB 2) λba=>
 QR ba s) (
 xI .eql t22 (AB 5) λbb=>
 AO bb (
 xF R s t1 3 λbd=>
 BO s bd λbe=>
 xI .eql be (AB 0) λbf=>
 g1 bf true s (Ax s t1 2) λbh bi=>
 g1 bf true bi (xL R bi bh) λbk bl=>
 g1 bf true bl (xI .geq bk (AB 0)) λbn bo=>
 A8 bf bn (BB false) λbp=>
 g1 bp true bo (Ax bo t1 2) λbr bs=>
 g1 bp true bs (xL R bs br) λbu bv=>
 g1 bp true bv (xI .leq bu (AB 200)) λbx bz=>
 A8 bp bx (BB false) λb0=>
 QR b0 bz) (
 xI .eql t22 (AB 6) λb1=>
 AO b1 (
 xF R s t1 3 λb3=>
 BO s b3 λb4=>
 xI .eql b4 (AB 2) λb5=>
 g1 b5 true s (Ax s t1 3) λb7 b8=>
 g1 b5 true b8 (xL R b8 b7) λca cb=>
 g1 b5 true cb (Bj cb 4 ca (AB 0)) λcd ce=>
 g1 b5 true ce (xM R ce 4 cd) λcg ch=>
 I1 b5 true ch (xC R 116 N O T 141 [cg,(AB 0)] ch) λck cl=>
 A8 b5 ck (BB false) λcm=>
 QR cm cl) (
 yl R N O T  s QR))))))):KD R N O T t1 t22 t23 s QR:=
 pC nN cF h
theorem AJ2 (h :
 QR (BB false) s):yl R N O T  s QR:=
 pC nN cF h
theorem AV9 {u0:AV} {Post:AV->Prop} (Bi:AX [] 0 0 [t0]=some [u0]) (h:fq R 0 0 0 u0 ⟨[],[]⟩ (QP Post)):AM (env R) 116 [t0] Post:=
 hR Tryz.func116 Bi h
theorem AJ5 (h :
 Bs s t0 λa b=>
 xM R b 4 a λc=>
 xC R 117 N O T 86 [c] b λd e=>
 Dv d λf=>
 QR f e):ym R N O T t0 s QR:=
 pC AS8 cF h
theorem AWA {Post:AV->Prop} (hn:Bo [t0]=true) (h:ym R 0 0 0 t0 ⟨[],[]⟩ (QP Post)):AM (env R) 117 [t0] Post:=
 HM (fn:=Tryz.f117) (body:=AS7) Tryz.func117 (by kernel_rfl) (by kernel_rfl) (by kernel_rfl) (Cm (by kernel_rfl)) hn (nO h (by kernel_rfl))
theorem AOw (h :
 Bs s t0 λa b=>
 xM R b 4 a λc=>
 xC R 86 N O T 116 [c] b λd e=>
 g1 d true e (Ax e a 3) λg i=>
 g1 d true i (xL R i g) λk l=>
 I1 d true l (xC R 86 N O T 94 [k,(.func (.func 117) [] [])] l) λo p=>
 g1 d true p (Dv o) λu v=>
 A8 d u (BB false) λw=>
 QR w v):AF8 R N O T t0 s QR:=
 pC AYT cF h
theorem e86 {u0:AV} {Post:AV->Prop} (Bi:AX [] 0 0 [t0]=some [u0]) (h:AF8 R 0 0 0 u0 ⟨[],[]⟩ (QP Post)):AM (env R) 86 [t0] Post:=
 hR Tryz.func86 Bi h
theorem AE3 (h :
 Bs s t0 λa b=>
 xM R b 4 a λc=>
 xC R 42 N O T 84 [c] b λd e=>
 xI .gtr d (AB 200) λf=>
 g1 f false e (xM R e 4 a) λi j=>
 I1 f false j (xC R 42 N O T 85 [i] j) λm n=>
 g1 f false n (xI .gtr m (AB 12)) λp q=>
 A8 f (BB true) p λu=>
 AO u (
 QR (AB 4) q) (
 xM R q 4 a λv=>
 xC R 42 N O T 86 [v] q λw x=>
 Dv w λy=>
 AO y (
 QR (AB 2) x) (
 vT R N O T  x QR))):AF9 R N O T t0 s QR:=
 pC AS9 cF h
theorem APE (h :
 QR (AB 0) s):vT R N O T  s QR:=
 pC AS9 cF h
theorem e42 {u0:AV} {Post:AV->Prop} (Bi:AX [] 0 0 [t0]=some [u0]) (h:AF9 R 0 0 0 u0 ⟨[],[]⟩ (QP Post)):AM (env R) 42 [t0] Post:=
 hR Tryz.func42 Bi h
theorem uk (h :
 xC R 94 N O T 125 [t0,t1] s λa b=>
 xI .geq a (AB 0) λc=>
 QR c b):yp R N O T t0 t1 s QR:=
 pC AYU cF h
theorem e94 {Post:AV->Prop} (hn:Bo [t0,t1]=true) (h:yp R 0 0 0 t0 t1 ⟨[],[]⟩ (QP Post)):AM (env R) 94 [t0,t1] Post:=
 HM (fn:=Tryz.f94) (body:=b94) Tryz.func94 (by kernel_rfl) (by kernel_rfl) (by kernel_rfl) (Cm (by kernel_rfl)) hn (nO h (by kernel_rfl))
theorem m94 {L:A3} {Post:AV->AL->Prop} (hn:Bo [t0,t1]=false) (h:yp R 0 L.ro L.rt t0 t1 s (QM (L.rr 94) s.bs.length Post)):∃v s',Post v s'/\BA (env R) L 94 [t0,t1] s v s':=
 hM Tryz.func94 hn h
theorem fX (h :
 BO s t0 λa=>
 P6 R N O T t0 t1 a (AB 0) s QR):ir R N O T t0 t1 s QR:=
 pC dG cF h
theorem P7 (h :
 xI .lss t8 t7 λa=>
 AO a (
 yu R N O T t0 t1 t7 t8 a s QR) (
 yw R N O T  s QR)):P6 R N O T t0 t1 t7 t8 s QR:=
 pL dG cF h
theorem fV (h :
 Bj s 4 t0 t8 λa=>
 xM R s 4 a λb=>
 GM (env R) (lf R 125 N O T) t1 [b] s λc d=>
 AO c (
 QR t8 d) (
 yx R N O T t0 t1 t7 t8 d QR)):yu R N O T t0 t1 t7 t8 t9 s QR:=
 pC dG cF h
theorem fU (h :
 QR (AB (-1)) s):yw R N O T  s QR:=
 pC dG cF h
theorem fW (h :
 xI .add t8 (AB 1) λa=>
 P6 R N O T t0 t1 t7 a s QR):yx R N O T t0 t1 t7 t8 s QR:=
 pC dG cF h
theorem AVr {Post:AV->Prop} (hn:Bo [t0,t1]=true) (h:ir R 0 0 0 t0 t1 ⟨[],[]⟩ (QP Post)):AM (env R) 125 [t0,t1] Post:=
 HM (fn:=Tryz.f125) (body:=pq) Tryz.func125 (by kernel_rfl) (by kernel_rfl) (by kernel_rfl) (Cm (by kernel_rfl)) hn (nO h (by kernel_rfl))
theorem APO {L:A3} {Post:AV->AL->Prop} (hn:Bo [t0,t1]=false) (h:ir R 0 L.ro L.rt t0 t1 s (QM (L.rr 125) s.bs.length Post)):∃v s',Post v s'/\BA (env R) L 125 [t0,t1] s v s':=
 hM Tryz.func125 hn h
theorem AJW (h :
 Bs s t0 λa b=>
 xF R b a 3 λd=>
 xC R 140 N O T 94 [d,(.func (.func 160) [] [])] b λe f=>
 Dv e λg=>
 QR g f):yy R N O T t0 s QR:=
 pC ATA cF h
theorem AVt {u0:AV} {Post:AV->Prop} (Bi:AX [] 0 0 [t0]=some [u0]) (h:yy R 0 0 0 u0 ⟨[],[]⟩ (QP Post)):AM (env R) 140 [t0] Post:=
 hR Tryz.func140 Bi h
theorem AJL (h :
 Bs s t0 λa b=>
 xF R b a 0 λd=>
 xI .eql d (AB 5) λe=>
 g1 e true b (Ax b a 2) λg i=>
 g1 e true i (xL R i g) λk l=>
 g0 e true l t1 λm n=>
 g1 e true n (xI .geq k m) λp q=>
 A8 e p (BB false) λu=>
 AO u (
 QR (BB false) q) (
 fM R N O T t1 a q QR)):fL R N O T t0 t1 s QR:=
 pC XD cF h
theorem AJM (h :
 xF R s t2 3 λb=>
 BO s b λc=>
 YF R N O T t1 t2 b c (AB 0) s QR):fM R N O T t1 t2 s QR:=
 pC XD cF h
theorem ue (h :
 xI .lss t19 t18 λa=>
 AO a (
 yz R N O T t1 t2 t17 t18 t19 a s QR) (
 y6 R N O T  s QR)):YF R N O T t1 t2 t17 t18 t19 s QR:=
 pL XD cF h
theorem AJJ (h :
 Bj s 4 t17 t19 λa=>
 xM R s 4 a λb=>
 Cl s Y4 λc d=>
 Ci (lf R 141 N O T) d 4 c b λe=>
 xM R e 4 c λf=>
 xM R e 4 t2 λg=>
 xC R 141 N O T 119 [g,t19] e λi j=>
 xI .add t1 i λk=>
 xC R 141 N O T 141 [f,k] j λl m=>
 Dv l λn=>
(xM R j 4 c λo=>Bl o f=true) /\
 AO n (
 QR (BB false) m) (
 y7 R N O T t1 t2 t17 t18 t19 m QR)):yz R N O T t1 t2 t17 t18 t19 t20 s QR:=
 pC XD cF h
theorem AJI (h :
 QR (BB true) s):y6 R N O T  s QR:=
 pC XD cF h
theorem AJK (h :
 xI .add t19 (AB 1) λa=>
 YF R N O T t1 t2 t17 t18 a s QR):y7 R N O T t1 t2 t17 t18 t19 s QR:=
 pC XD cF h
theorem AVn {u0 u1:AV} {Post:AV->Prop} (Bi:AX [] 0 0 [t0,t1]=some [u0,u1]) (h:fL R 0 0 0 u0 u1 ⟨[],[]⟩ (QP Post)):AM (env R) 141 [t0,t1] Post:=
 hR Tryz.func141 Bi h
theorem AJX (h :
 Bs s t0 λa b=>
 xM R b 4 a λc=>
 xC R 160 N O T 161 [c] b λd e=>
 Dv d λf=>
 QR f e):y8 R N O T t0 s QR:=
 pC ATC cF h
theorem AVu {Post:AV->Prop} (hn:Bo [t0]=true) (h:y8 R 0 0 0 t0 ⟨[],[]⟩ (QP Post)):AM (env R) 160 [t0] Post:=
 HM (fn:=Tryz.f160) (body:=ATB) Tryz.func160 (by kernel_rfl) (by kernel_rfl) (by kernel_rfl) (Cm (by kernel_rfl)) hn (nO h (by kernel_rfl))
theorem AJV (h :
 Bs s t0 λa b=>
 xF R b a 0 λd=>
 xI .eql d (AB 5) λe=>
 g1 e false b (xM R b 4 a) λg i=>
 I1 e false i (xC R 161 N O T 141 [g,(AB 0)] i) λl m=>
 A8 e (BB true) l λn=>
 g1 n false m (Ax m a 0) λp q=>
 g1 n false q (xL R q p) λv w=>
 g1 n false w (xI .eql v (AB 2)) λy z=>
 g0 n false z y λaa ab=>
 g1 aa true ab (xM R ab 4 a) λad ae=>
 I1 aa true ae (xC R 161 N O T 140 [ad] ae) λah ai=>
 g1 n false ai (A8 aa ah (BB false)) λak al=>
 A8 n (BB true) ak λam=>
 QR am al):y9 R N O T t0 s QR:=
 pC ATD cF h
theorem AVs {u0:AV} {Post:AV->Prop} (Bi:AX [] 0 0 [t0]=some [u0]) (h:y9 R 0 0 0 u0 ⟨[],[]⟩ (QP Post)):AM (env R) 161 [t0] Post:=
 hR Tryz.func161 Bi h
theorem AJG (h :
 Bs s t0 λa b=>
 xF R b a 0 λd=>
 xI .eql d (AB 6) λe=>
 g0 e true b t1 λf g=>
 g1 e true g (xI .eql f (AB 1)) λj k=>
 A8 e j (BB false) λl=>
 AO l (
 QR (AB 1) k) (
 zB R N O T  k QR)):zA R N O T t0 t1 s QR:=
 pC AGA cF h
theorem ua (h :
 QR (AB 0) s):zB R N O T  s QR:=
 pC AGA cF h
theorem AVl {u0 u1:AV} {Post:AV->Prop} (Bi:AX [] 0 0 [t0,t1]=some [u0,u1]) (h:zA R 0 0 0 u0 u1 ⟨[],[]⟩ (QP Post)):AM (env R) 119 [t0,t1] Post:=
 hR Tryz.func119 Bi h
theorem AJo (h :
 GD .neq t0 (SS []) λa=>
 g0 a true s t0 λb c=>
 g1 a true c (Gx b) λe f=>
 g1 a true f (xI .leq e (AB 24)) λi j=>
 A8 a i (BB false) λk=>
 g0 k true j t0 λl m=>
 g1 k true m (MD l (AB 0)) λo p=>
 I1 k true p (xC R 138 N O T 155 [o] p) λv w=>
 A8 k v (BB false) λx=>
 g0 x true w t0 λy z=>
 I1 x true z (xC R 138 N O T 156 [y,(.func (.func 157) [] [])] z) λac ad=>
 A8 x ac (BB false) λae=>
 QR ae ad):zC R N O T t0 s QR:=
 pC ATG cF h
theorem AV4 {u0:AV} {Post:AV->Prop} (Bi:AX [] 0 0 [t0]=some [u0]) (h:zC R 0 0 0 u0 ⟨[],[]⟩ (QP Post)):AM (env R) 138 [t0] Post:=
 hR Tryz.func138 Bi h
theorem AJ0 (h :
 xC R 139 N O T 159 [t0,t1] s λa b=>
 xI .geq a (AB 0) λc=>
 QR c b):zD R N O T t0 t1 s QR:=
 pC ATH cF h
theorem AV8 {u0 u1:AV} {Post:AV->Prop} (Bi:AX [] 0 0 [t0,t1]=some [u0,u1]) (h:zD R 0 0 0 u0 u1 ⟨[],[]⟩ (QP Post)):AM (env R) 139 [t0,t1] Post:=
 hR Tryz.func139 Bi h
theorem AJn (h :
 YL R N O T t0 t1 (AB 0) s QR):zH R N O T t0 t1 s QR:=
 pC dH cF h
theorem uo (h :
 Gx t0 λa=>
 xI .lss t5 a λb=>
 AO b (
 zI R N O T t0 t1 t5 s QR) (
 zJ R N O T  s QR)):YL R N O T t0 t1 t5 s QR:=
 pL dH cF h
theorem AJl (h :
 MD t0 t5 λa=>
 GM (env R) (lf R 156 N O T) t1 [a] s λb c=>
 Dv b λd=>
 AO d (
 QR (BB false) c) (
 zK R N O T t0 t1 t5 c QR)):zI R N O T t0 t1 t5 s QR:=
 pC dH cF h
theorem AJk (h :
 QR (BB true) s):zJ R N O T  s QR:=
 pC dH cF h
theorem AJm (h :
 xI .add t5 (AB 1) λa=>
 YL R N O T t0 t1 a s QR):zK R N O T t0 t1 t5 s QR:=
 pC dH cF h
theorem AV3 {u0 u1:AV} {Post:AV->Prop} (Bi:AX [] 0 0 [t0,t1]=some [u0,u1]) (h:zH R 0 0 0 u0 u1 ⟨[],[]⟩ (QP Post)):AM (env R) 156 [t0,t1] Post:=
 hR Tryz.func156 Bi h
theorem AJj (h :
 Cg .u8 .neq t0 (.pv (.sc (.int .u8 45))) λa=>
 g0 a true s t0 λb c=>
 I1 a true c (xC R 157 N O T 158 [b] c) λf g=>
 A8 a f (BB false) λi=>
 QR i g):zL R N O T t0 s QR:=
 pC ATJ cF h
theorem AV2 {Post:AV->Prop} (hn:Bo [t0]=true) (h:zL R 0 0 0 t0 ⟨[],[]⟩ (QP Post)):AM (env R) 157 [t0] Post:=
 HM (fn:=Tryz.f157) (body:=ATI) Tryz.func157 (by kernel_rfl) (by kernel_rfl) (by kernel_rfl) (Cm (by kernel_rfl)) hn (nO h (by kernel_rfl))
theorem AJh (h :
 xC R 158 N O T 155 [t0] s λa b=>
 g0 a false b t0 λc d=>
 I1 a false d (xC R 158 N O T 173 [c] d) λg i=>
 A8 a (BB true) g λj=>
 g0 j false i t0 λk l=>
 g1 j false l (Cg .u8 .eql k (.pv (.sc (.int .u8 95)))) λn o=>
 A8 j (BB true) n λp=>
 g0 p false o t0 λq u=>
 g1 p false u (Cg .u8 .eql q (.pv (.sc (.int .u8 45)))) λw x=>
 A8 p (BB true) w λy=>
 QR y x):zM R N O T t0 s QR:=
 pC ATK cF h
theorem AV0 {u0:AV} {Post:AV->Prop} (Bi:AX [] 0 0 [t0]=some [u0]) (h:zM R 0 0 0 u0 ⟨[],[]⟩ (QP Post)):AM (env R) 158 [t0] Post:=
 hR Tryz.func158 Bi h
theorem AJd (h :
 Cg .u8 .geq t0 (.pv (.sc (.int .u8 97))) λa=>
 g0 a true s t0 λb c=>
 g1 a true c (Cg .u8 .leq b (.pv (.sc (.int .u8 122)))) λe f=>
 A8 a e (BB false) λg=>
 g0 g false f t0 λi j=>
 g1 g false j (Cg .u8 .geq i (.pv (.sc (.int .u8 65)))) λl m=>
 g0 g false m l λn o=>
 g0 n true o t0 λp q=>
 g1 n true q (Cg .u8 .leq p (.pv (.sc (.int .u8 90)))) λv w=>
 g1 g false w (A8 n v (BB false)) λy z=>
 A8 g (BB true) y λaa=>
 QR aa z):zN R N O T t0 s QR:=
 pC ATL cF h
theorem AVw {u0:AV} {Post:AV->Prop} (Bi:AX [] 0 0 [t0]=some [u0]) (h:zN R 0 0 0 u0 ⟨[],[]⟩ (QP Post)):AM (env R) 155 [t0] Post:=
 hR Tryz.func155 Bi h
theorem AJf (h :
 Cg .u8 .geq t0 (.pv (.sc (.int .u8 48))) λa=>
 g0 a true s t0 λb c=>
 g1 a true c (Cg .u8 .leq b (.pv (.sc (.int .u8 57)))) λe f=>
 A8 a e (BB false) λg=>
 QR g f):zO R N O T t0 s QR:=
 pC ATM cF h
theorem AVy {u0:AV} {Post:AV->Prop} (Bi:AX [] 0 0 [t0]=some [u0]) (h:zO R 0 0 0 u0 ⟨[],[]⟩ (QP Post)):AM (env R) 173 [t0] Post:=
 hR Tryz.func173 Bi h
theorem AJz (h :
 BO s t0 λa=>
 YP R N O T t0 t1 a (AB 0) s QR):zR R N O T t0 t1 s QR:=
 pC dI cF h
theorem ur (h :
 xI .lss t8 t7 λa=>
 AO a (
 zS R N O T t0 t1 t7 t8 a s QR) (
 zT R N O T  s QR)):YP R N O T t0 t1 t7 t8 s QR:=
 pL dI cF h
theorem AJx (h :
 Bj s 1 t0 t8 λa=>
 xL R s a λb=>
 GD .eql t1 b λc=>
 AO c (
 QR t8 s) (
 zU R N O T t0 t1 t7 t8 s QR)):zS R N O T t0 t1 t7 t8 t9 s QR:=
 pC dI cF h
theorem AJw (h :
 QR (AB (-1)) s):zT R N O T  s QR:=
 pC dI cF h
theorem AJy (h :
 xI .add t8 (AB 1) λa=>
 YP R N O T t0 t1 t7 a s QR):zU R N O T t0 t1 t7 t8 s QR:=
 pC dI cF h
theorem AV7 {u0 u1:AV} {Post:AV->Prop} (Bi:AX [] 0 0 [t0,t1]=some [u0,u1]) (h:zR R 0 0 0 u0 u1 ⟨[],[]⟩ (QP Post)):AM (env R) 159 [t0,t1] Post:=
 hR Tryz.func159 Bi h
theorem AOk (h :
 Bs s t0 λa b=>
 jv R N O T a (AB 1) (AB 0) b QR):AGB R N O T t0 s QR:=
 pC zV cF h
theorem AEs (h :
 xF R s t1 3 λb=>
 BO s b λc=>
 xI .lss t4 c λd=>
 AO d (
 AGC R N O T t1 t3 t4 s QR) (
 AGD R N O T t3 s QR)):jv R N O T t1 t3 t4 s QR:=
 pL zV cF h
theorem AOi (h :
 xF R s t1 3 λb=>
 Bj s 4 b t4 λc=>
 xM R s 4 c λd=>
 xC R 71 N O T 71 [d] s λe f=>
 xI .add t3 e λg=>
 AGE R N O T t1 g t4 f QR):AGC R N O T t1 t3 t4 s QR:=
 pC zV cF h
theorem AOh (h :
 QR t3 s):AGD R N O T t3 s QR:=
 pC zV cF h
theorem AOj (h :
 xI .add t4 (AB 1) λa=>
 jv R N O T t1 t3 a s QR):AGE R N O T t1 t3 t4 s QR:=
 pC zV cF h
theorem e71 {u0:AV} {Post:AV->Prop} (Bi:AX [] 0 0 [t0]=some [u0]) (h:AGB R 0 0 0 u0 ⟨[],[]⟩ (QP Post)):AM (env R) 71 [t0] Post:=
 hR Tryz.func71 Bi h
theorem AOs (h :
 Bs s t0 λa b=>
 jy R N O T a (AB 0) (AB 0) b QR):AGF R N O T t0 s QR:=
 pC zW cF h
theorem AEu (h :
 xF R s t1 3 λb=>
 BO s b λc=>
 xI .lss t4 c λd=>
 AO d (
 AGG R N O T t1 t3 t4 s QR) (
 AGH R N O T t3 s QR)):jy R N O T t1 t3 t4 s QR:=
 pL zW cF h
theorem AOq (h :
 Ax s t1 3 λa=>
 xL R s a λb=>
 Bj s 4 b t4 λc=>
 xM R s 4 c λd=>
 xC R 72 N O T 72 [d] s λe f=>
 Tj (env R) (lf R 72 N O T) f (Em [(18,e),(17,d),(16,c),(15,t4),(14,b),(13,a),(12,t3),(1,t1),(3,t3),(4,t4)]) (AEC (sn b72 932) 7) λg i=>
 AGI R N O T t1 g t4 i QR):AGG R N O T t1 t3 t4 s QR:=
 pC zW cF h
theorem AOp (h :
 xI .add t3 (AB 1) λa=>
 QR a s):AGH R N O T t3 s QR:=
 pC zW cF h
theorem AOr (h :
 xI .add t4 (AB 1) λa=>
 jy R N O T t1 t3 a s QR):AGI R N O T t1 t3 t4 s QR:=
 pC zW cF h
theorem e72 {u0:AV} {Post:AV->Prop} (Bi:AX [] 0 0 [t0]=some [u0]) (h:AGF R 0 0 0 u0 ⟨[],[]⟩ (QP Post)):AM (env R) 72 [t0] Post:=
 hR Tryz.func72 Bi h
theorem APC (h :
 Bs s t0 λa b=>
 xF R b a 3 λd=>
 BO b d λe=>
 xF R b a 0 λg=>
 xI .neq g (AB 2) λi=>
 g1 i true b (Ax b a 1) λk l=>
 g1 i true l (xL R l k) λn o=>
 g1 i true o (GD .neq n (SS [])) λq u=>
 A8 i q (BB false) λv=>
 g1 v false u (Ax u a 0) λx y=>
 g1 v false y (xL R y x) λaa ab=>
 g1 v false ab (xI .neq aa (AB 5)) λad ae=>
 g0 v false ae ad λaf ag=>
 g1 af true ag (Ax ag a 2) λai aj=>
 g1 af true aj (xL R aj ai) λal am=>
 g1 af true am (xI .neq al (AB 0)) λao ap=>
 g1 v false ap (A8 af ao (BB false)) λar au=>
 A8 v (BB true) ar λav=>
 AO av (
 QR (BB false) au) (
 uv R N O T a e au QR)):vR R N O T t0 s QR:=
 pC RZ cF h
theorem AO2 (h :
 xF R s t1 0 λb=>
 xI .eql b (AB 0) λc=>
 AO c (
 NK R N O T t1 t3 b c s QR) (
 xI .eql b (AB 1) λd=>
 NK R N O T t1 t3 b d s QR)):uv R N O T t1 t3 s QR:=
 pC RZ cF h
theorem TI (h :
 AO t29 (
 xI .eql t3 (AB 0) λa=>
 QR a s) (
 xI .eql t28 (AB 5) λb=>
 AO b (
 xI .eql t3 (AB 0) λc=>
 g1 c true s (Ax s t1 2) λe f=>
 g1 c true f (xL R f e) λi j=>
 g1 c true j (xI .geq i (AB 0)) λl m=>
 A8 c l (BB false) λn=>
 g1 n true m (Ax m t1 2) λp q=>
 g1 n true q (xL R q p) λv w=>
 g1 n true w (xI .leq v (AB 200)) λy z=>
 A8 n y (BB false) λaa=>
 QR aa z) (
 xI .eql t28 (AB 2) λab=>
 AO ab (
 xF R s t1 1 λad=>
 xC R 73 N O T 108 [ad] s λae af=>
 Dv ae λag=>
 g1 ag false af (Ax af t1 1) λai aj=>
 g1 ag false aj (xL R aj ai) λal am=>
 I1 ag false am (xC R 73 N O T 109 [al] am) λap aq=>
 A8 ag (BB true) ap λar=>
 g0 ar false aq t3 λau av=>
 g1 ar false av (xI .gtr au (AB 6)) λax ay=>
 A8 ar (BB true) ax λaz=>
 AO az (
 QR (BB false) ay) (
 AGJ R N O T t1 t3 ay QR)) (
 xI .eql t28 (AB 3) λa0=>
 AO a0 (
 xI .gtr t3 (AB 6) λa1=>
 AO a1 (
 QR (BB false) s) (
 Vu R N O T t1 t3 s QR)) (
 xI .eql t28 (AB 4) λa2=>
 AO a2 (
 xI .lss t3 (AB 2) λa3=>
 AO a3 (
 QR (BB false) s) (
 Vu R N O T t1 t3 s QR)) (
 xI .eql t28 (AB 6) λa4=>
 AO a4 (
 xI .neq t3 (AB 2) λa5=>
 g1 a5 false s (Ax s t1 3) λa7 a8=>
 g1 a5 false a8 (xL R a8 a7) λba bb=>
 g1 a5 false bb (Bj bb 4 ba (AB 0)) λbd be=>
 g1 a5 false be (xM R be 4 bd) λbg bh=>
 I1 a5 false bh (xC R 73 N O T 48 [bg] bh) λbk bl=>
 g1 a5 false bl (Dv bk) λbn bo=>
 A8 a5 (BB true) bn λbp=>
 AO bp (
 QR (BB false) bo) (
 Vu R N O T t1 t3 bo QR)) (
 QR (BB false) s))))))):NK R N O T t1 t3 t28 t29 s QR:=
 pC RZ cF h
theorem AO1 (h :
 j0 R N O T t1 t3 (AB 0) s QR):AGJ R N O T t1 t3 s QR:=
 pC RZ cF h
theorem AOz (h :
 jz R N O T t1 t3 (AB 0) s QR):Vu R N O T t1 t3 s QR:=
 pC RZ cF h
theorem AEx (h :
 xI .lss t4 t3 λa=>
 AO a (
 AGK R N O T t1 t3 t4 s QR) (
 Vu R N O T t1 t3 s QR)):j0 R N O T t1 t3 t4 s QR:=
 pL RZ cF h
theorem AEw (h :
 xI .lss t5 t3 λa=>
 AO a (
 AGL R N O T t1 t3 t5 s QR) (
 AGM R N O T  s QR)):jz R N O T t1 t3 t5 s QR:=
 pL RZ cF h
theorem AO0 (h :
 xF R s t1 3 λb=>
 Bj s 4 b t4 λc=>
 xM R s 4 c λd=>
 xC R 73 N O T 110 [d] s λe f=>
 Dv e λg=>
 AO g (
 QR (BB false) f) (
 zX R N O T t1 t3 t4 f QR)):AGK R N O T t1 t3 t4 s QR:=
 pC RZ cF h
theorem AOy (h :
 xF R s t1 3 λb=>
 Bj s 4 b t5 λc=>
 xM R s 4 c λd=>
 xC R 73 N O T 73 [d] s λe f=>
 Dv e λg=>
 AO g (
 QR (BB false) f) (
 zY R N O T t1 t3 t5 f QR)):AGL R N O T t1 t3 t5 s QR:=
 pC RZ cF h
theorem AOx (h :
 QR (BB true) s):AGM R N O T  s QR:=
 pC RZ cF h
theorem AJ7 (h :
 xI .add t4 (AB 1) λa=>
 j0 R N O T t1 t3 a s QR):zX R N O T t1 t3 t4 s QR:=
 pC RZ cF h
theorem AJ6 (h :
 xI .add t5 (AB 1) λa=>
 jz R N O T t1 t3 a s QR):zY R N O T t1 t3 t5 s QR:=
 pC RZ cF h
theorem e73 {u0:AV} {Post:AV->Prop} (Bi:AX [] 0 0 [t0]=some [u0]) (h:vR R 0 0 0 u0 ⟨[],[]⟩ (QP Post)):AM (env R) 73 [t0] Post:=
 hR Tryz.func73 Bi h
theorem AE4 (h :
 Bs s t0 λa b=>
 xM R b 4 a λc=>
 xC R 30 N O T 71 [c] b λd e=>
 xI .gtr d (AB 200) λf=>
 g1 f false e (xM R e 4 a) λi j=>
 I1 f false j (xC R 30 N O T 72 [i] j) λm n=>
 g1 f false n (xI .gtr m (AB 12)) λp q=>
 A8 f (BB true) p λu=>
 AO u (
 QR (AB 4) q) (
 xM R q 4 a λv=>
 xC R 30 N O T 73 [v] q λw x=>
 Dv w λy=>
 AO y (
 QR (AB 2) x) (
 vU R N O T  x QR))):AGN R N O T t0 s QR:=
 pC ATQ cF h
theorem APF (h :
 QR (AB 0) s):vU R N O T  s QR:=
 pC ATQ cF h
theorem e30 {u0:AV} {Post:AV->Prop} (Bi:AX [] 0 0 [t0]=some [u0]) (h:AGN R 0 0 0 u0 ⟨[],[]⟩ (QP Post)):AM (env R) 30 [t0] Post:=
 hR Tryz.func30 Bi h
theorem AOt (h :
 Bs s t0 λa b=>
 xM R b 4 a λc=>
 xC R 48 N O T 96 [c] b λd e=>
 BO e d λf=>
 xI .eql f (AB 0) λg=>
 QR g e):AGO R N O T t0 s QR:=
 pC AYl cF h
theorem e48 {u0:AV} {Post:AV->Prop} (Bi:AX [] 0 0 [t0]=some [u0]) (h:AGO R 0 0 0 u0 ⟨[],[]⟩ (QP Post)):AM (env R) 48 [t0] Post:=
 hR Tryz.func48 Bi h
theorem AOu (h :
 Bs s t0 λa b=>
 xM R b 4 a λc=>
 xC R 96 N O T 126 [c,(AB 0),(.AA [])] b λd e=>
 QR d e):AGP R N O T t0 s QR:=
 pC AYm cF h
theorem e96 {u0:AV} {Post:AV->Prop} (Bi:AX [] 0 0 [t0]=some [u0]) (h:AGP R 0 0 0 u0 ⟨[],[]⟩ (QP Post)):AM (env R) 96 [t0] Post:=
 hR Tryz.func96 Bi h
theorem AJU (h :
 Bs s t0 λa b=>
 xF R b a 0 λd=>
 xI .eql d (AB 5) λe=>
 g1 e true b (Ax b a 2) λg i=>
 g1 e true i (xL R i g) λk l=>
 g0 e true l t1 λm n=>
 g1 e true n (xI .geq k m) λp q=>
 A8 e p (BB false) λu=>
 AO u (
 xF R q a 2 λw=>
 xI .sub w t1 λx=>
 xC R 126 N O T 150 [t2,x] q λy z=>
 iu R N O T t1 y a z QR) (
 iu R N O T t1 t2 a q QR)):fP R N O T t0 t1 t2 s QR:=
 pC XE cF h
theorem fQ (h :
 YI R N O T t1 t2 t3 (AB 0) s QR):iu R N O T t1 t2 t3 s QR:=
 pC XE cF h
theorem uh (h :
 xF R s t3 3 λb=>
 BO s b λc=>
 xI .lss t7 c λd=>
 AO d (
 zZ R N O T t1 t2 t3 t7 s QR) (
 za R N O T t2 s QR)):YI R N O T t1 t2 t3 t7 s QR:=
 pL XE cF h
theorem AJS (h :
 Ax s t3 3 λa=>
 xL R s a λb=>
 Bj s 4 b t7 λc=>
 xM R s 4 c λd=>
 xM R s 4 t3 λe=>
 xC R 126 N O T 151 [e,t7] s λf g=>
 xI .add t1 f λi=>
 xC R 126 N O T 126 [d,i,t2] g λj k=>
(Ax g t3 3 λl=>Bl l a=true) /\
(xL R g a λm=>Bl m b=true) /\
(Bj g 4 b t7 λn=>Bl n c=true) /\
(xM R g 4 c λo=>Bl o d=true) /\
 zb R N O T t1 j t3 t7 k QR):zZ R N O T t1 t2 t3 t7 s QR:=
 pC XE cF h
theorem AJR (h :
 QR t2 s):za R N O T t2 s QR:=
 pC XE cF h
theorem AJT (h :
 xI .add t7 (AB 1) λa=>
 YI R N O T t1 t2 t3 a s QR):zb R N O T t1 t2 t3 t7 s QR:=
 pC XE cF h
theorem AVp {u0 u1 u2:AV} {Post:AV->Prop} (Bi:AX [] 0 0 [t0,t1,t2]=some [u0,u1,u2]) (h:fP R 0 0 0 u0 u1 u2 ⟨[],[]⟩ (QP Post)):AM (env R) 126 [t0,t1,t2] Post:=
 hR Tryz.func126 Bi h
theorem AJQ (h :
 YH R N O T t0 t1 (AB 0) s QR):zf R N O T t0 t1 s QR:=
 pC dJ cF h
theorem ug (h :
 BO s t0 λa=>
 xI .lss t5 a λb=>
 g0 b true s t0 λc d=>
 g0 b true d t5 λe f=>
 g1 b true f (Bj f 1 c e) λi j=>
 g1 b true j (xL R j i) λl m=>
 g0 b true m t1 λn o=>
 g1 b true o (xI .lss l n) λq u=>
 A8 b q (BB false) λv=>
 AO v (
 zg R N O T t0 t1 t5 u QR) (
 fO R N O T t0 t1 t5 u QR)):YH R N O T t0 t1 t5 s QR:=
 pL dJ cF h
theorem AJP (h :
 xI .add t5 (AB 1) λa=>
 YH R N O T t0 t1 a s QR):zg R N O T t0 t1 t5 s QR:=
 pC dJ cF h
theorem AJO (h :
 BO s t0 λa=>
 xI .lss t5 a λb=>
 g0 b true s t0 λc d=>
 g0 b true d t5 λe f=>
 g1 b true f (Bj f 1 c e) λi j=>
 g1 b true j (xL R j i) λl m=>
 g0 b true m t1 λn o=>
 g1 b true o (xI .eql l n) λq u=>
 A8 b q (BB false) λv=>
 AO v (
 QR t0 u) (
 fN R N O T t0 t1 t5 u QR)):fO R N O T t0 t1 t5 s QR:=
 pC dJ cF h
theorem AJN (h :
 Ct false s 1 [(AB 0)] 0 [] λa b=>
 YG s 1 t0 none (some t5) none λc=>
(1=1/\1≠0)/\Cx false (lf R 150 N O T) s 3 1 8 a c λd e=>
 Ct false e 1 [(AB 0)] 1 [(0,1,t1)] λf g=>
(1=1/\1≠0)/\Cx false (lf R 150 N O T) e 3 1 8 d f λi j=>
 YG j 1 t0 (some t5) none none λk=>
(1=1/\1≠0)/\Cx false (lf R 150 N O T) j 3 1 8 i k λl m=>
(YG s 1 t0 (some t5) none none λn=>Bl n k=true) /\
(YG e 1 t0 (some t5) none none λo=>Bl o k=true) /\
 QR l m):fN R N O T t0 t1 t5 s QR:=
 pC dJ cF h
theorem AVo {u0 u1:AV} {Post:AV->Prop} (Bi:AX [] 0 0 [t0,t1]=some [u0,u1]) (h:zf R 0 0 0 u0 u1 ⟨[],[]⟩ (QP Post)):AM (env R) 150 [t0,t1] Post:=
 hR Tryz.func150 Bi h
theorem AJH (h :
 Bs s t0 λa b=>
 xF R b a 0 λd=>
 xI .eql d (AB 6) λe=>
 g0 e true b t1 λf g=>
 g1 e true g (xI .eql f (AB 1)) λj k=>
 A8 e j (BB false) λl=>
 AO l (
 QR (AB 1) k) (
 zi R N O T  k QR)):zh R N O T t0 t1 s QR:=
 pC AGQ cF h
theorem ud (h :
 QR (AB 0) s):zi R N O T  s QR:=
 pC AGQ cF h
theorem AVm {u0 u1:AV} {Post:AV->Prop} (Bi:AX [] 0 0 [t0,t1]=some [u0,u1]) (h:zh R 0 0 0 u0 u1 ⟨[],[]⟩ (QP Post)):AM (env R) 151 [t0,t1] Post:=
 hR Tryz.func151 Bi h
theorem AJt (h :
 Gx t0 λa=>
 xI .lss a (AB 1) λb=>
 g0 b false s t0 λc d=>
 g1 b false d (Gx c) λf g=>
 g1 b false g (xI .gtr f (AB 24)) λj k=>
 A8 b (BB true) j λl=>
 g0 l false k t0 λm n=>
 g1 l false n (MD m (AB 0)) λp q=>
 I1 l false q (xC R 108 N O T 135 [p] q) λw x=>
 g1 l false x (Dv w) λz aa=>
 A8 l (BB true) z λab=>
 AO ab (
 QR (BB false) aa) (
 zk R N O T t0 aa QR)):zj R N O T t0 s QR:=
 pC XF cF h
theorem AJu (h :
 YN R N O T t0 (AB 0) s QR):zk R N O T t0 s QR:=
 pC XF cF h
theorem uq (h :
 Gx t0 λa=>
 xI .lss t3 a λb=>
 AO b (
 zl R N O T t0 t3 s QR) (
 zm R N O T  s QR)):YN R N O T t0 t3 s QR:=
 pL XF cF h
theorem AJq (h :
 MD t0 t3 λa=>
 xC R 108 N O T 136 [a] s λb c=>
 Dv b λd=>
 g0 d false c t0 λe f=>
 g0 d false f t3 λg i=>
 g1 d false i (MD e g) λk l=>
 g1 d false l (Cg .u8 .eql k (.pv (.sc (.int .u8 45)))) λn o=>
 A8 d (BB true) n λp=>
 AO p (
 QR (BB false) o) (
 zn R N O T t0 t3 o QR)):zl R N O T t0 t3 s QR:=
 pC XF cF h
theorem AJp (h :
 QR (BB true) s):zm R N O T  s QR:=
 pC XF cF h
theorem AJs (h :
 xI .add t3 (AB 1) λa=>
 YN R N O T t0 a s QR):zn R N O T t0 t3 s QR:=
 pC XF cF h
theorem AV5 {u0:AV} {Post:AV->Prop} (Bi:AX [] 0 0 [t0]=some [u0]) (h:zj R 0 0 0 u0 ⟨[],[]⟩ (QP Post)):AM (env R) 108 [t0] Post:=
 hR Tryz.func108 Bi h
theorem AJv (h :
 GD .eql t0 (SS [65,110,121]) λa=>
 g0 a false s t0 λb c=>
 g1 a false c (GD .eql b (SS [78,101,118,101,114])) λe f=>
 A8 a (BB true) e λg=>
 g0 g false f t0 λi j=>
 g1 g false j (GD .eql i (SS [116,117,112,108,101])) λl m=>
 A8 g (BB true) l λn=>
 g0 n false m t0 λo p=>
 g1 n false p (GD .eql o (SS [117,110,105,111,110])) λu v=>
 A8 n (BB true) u λw=>
 g0 w false v t0 λx y=>
 g1 w false y (GD .eql x (SS [101,120,105,115,116,115])) λaa ab=>
 A8 w (BB true) aa λac=>
 QR ac ab):zo R N O T t0 s QR:=
 pC ATT cF h
theorem AV6 {u0:AV} {Post:AV->Prop} (Bi:AX [] 0 0 [t0]=some [u0]) (h:zo R 0 0 0 u0 ⟨[],[]⟩ (QP Post)):AM (env R) 109 [t0] Post:=
 hR Tryz.func109 Bi h
theorem AJb (h :
 Bs s t0 λa b=>
 xF R b a 0 λd=>
 xI .eql d (AB 5) λe=>
 g1 e false b (xM R b 4 a) λg i=>
 I1 e false i (xC R 110 N O T 48 [g] i) λl m=>
 A8 e (BB true) l λn=>
 AO n (
 QR (BB true) m) (
 zq R N O T a m QR)):fY R N O T t0 s QR:=
 pC XG cF h
theorem AJc (h :
 YK R N O T t1 (AB 0) s QR):zq R N O T t1 s QR:=
 pC XG cF h
theorem um (h :
 xF R s t1 3 λb=>
 BO s b λc=>
 xI .lss t3 c λd=>
 AO d (
 zu R N O T t1 t3 s QR) (
 zw R N O T t1 s QR)):YK R N O T t1 t3 s QR:=
 pL XG cF h
theorem AJZ (h :
 xF R s t1 3 λb=>
 Bj s 4 b t3 λc=>
 xM R s 4 c λd=>
 xC R 110 N O T 110 [d] s λe f=>
 Dv e λg=>
 AO g (
 QR (BB false) f) (
 zx R N O T t1 t3 f QR)):zu R N O T t1 t3 s QR:=
 pC XG cF h
theorem AJY (h :
 xF R s t1 0 λb=>
 xI .eql b (AB 2) λc=>
 QR c s):zw R N O T t1 s QR:=
 pC XG cF h
theorem AJa (h :
 xI .add t3 (AB 1) λa=>
 YK R N O T t1 a s QR):zx R N O T t1 t3 s QR:=
 pC XG cF h
theorem AVv {u0:AV} {Post:AV->Prop} (Bi:AX [] 0 0 [t0]=some [u0]) (h:fY R 0 0 0 u0 ⟨[],[]⟩ (QP Post)):AM (env R) 110 [t0] Post:=
 hR Tryz.func110 Bi h
theorem AJe (h :
 Cg .u8 .geq t0 (.pv (.sc (.int .u8 97))) λa=>
 g0 a true s t0 λb c=>
 g1 a true c (Cg .u8 .leq b (.pv (.sc (.int .u8 122)))) λe f=>
 A8 a e (BB false) λg=>
 g0 g false f t0 λi j=>
 g1 g false j (Cg .u8 .geq i (.pv (.sc (.int .u8 65)))) λl m=>
 g0 g false m l λn o=>
 g0 n true o t0 λp q=>
 g1 n true q (Cg .u8 .leq p (.pv (.sc (.int .u8 90)))) λv w=>
 g1 g false w (A8 n v (BB false)) λy z=>
 A8 g (BB true) y λaa=>
 QR aa z):zy R N O T t0 s QR:=
 pC ATU cF h
theorem AVx {u0:AV} {Post:AV->Prop} (Bi:AX [] 0 0 [t0]=some [u0]) (h:zy R 0 0 0 u0 ⟨[],[]⟩ (QP Post)):AM (env R) 135 [t0] Post:=
 hR Tryz.func135 Bi h
theorem AJi (h :
 xC R 136 N O T 135 [t0] s λa b=>
 g0 a false b t0 λc d=>
 I1 a false d (xC R 136 N O T 154 [c] d) λg i=>
 A8 a (BB true) g λj=>
 g0 j false i t0 λk l=>
 g1 j false l (Cg .u8 .eql k (.pv (.sc (.int .u8 95)))) λn o=>
 A8 j (BB true) n λp=>
 g0 p false o t0 λq u=>
 g1 p false u (Cg .u8 .eql q (.pv (.sc (.int .u8 45)))) λw x=>
 A8 p (BB true) w λy=>
 QR y x):z6 R N O T t0 s QR:=
 pC ATV cF h
theorem AV1 {u0:AV} {Post:AV->Prop} (Bi:AX [] 0 0 [t0]=some [u0]) (h:z6 R 0 0 0 u0 ⟨[],[]⟩ (QP Post)):AM (env R) 136 [t0] Post:=
 hR Tryz.func136 Bi h
theorem AJg (h :
 Cg .u8 .geq t0 (.pv (.sc (.int .u8 48))) λa=>
 g0 a true s t0 λb c=>
 g1 a true c (Cg .u8 .leq b (.pv (.sc (.int .u8 57)))) λe f=>
 A8 a e (BB false) λg=>
 QR g f):z7 R N O T t0 s QR:=
 pC ATW cF h
theorem AVz {u0:AV} {Post:AV->Prop} (Bi:AX [] 0 0 [t0]=some [u0]) (h:z7 R 0 0 0 u0 ⟨[],[]⟩ (QP Post)):AM (env R) 154 [t0] Post:=
 hR Tryz.func154 Bi h
end
noncomputable section
section
variable (R:RT) (N O T:Nat) (t0 t1 t2 t3 t4 t5 t6 t7 t8 t9 t10 t11 t12 t13 t15 t21:AV)
noncomputable def b15:Code:=Tryz.f15.body.getD .skip
def iw:Nat->List Nat:=ln ([]::[1]::[1,14]::[1]::[1,4]::[4,5]::[5,23]::[5]::rp 4 [5,6] [[5,6,43],[5]])
abbrev Q15:=Wq R N O T 15 45 [.tmp 2,.tmp 3]
def yP:=Q15 R N O T (aT b15 1) [(0,t0)]
def AGR:=Q15 R N O T (aT b15 7) [(1,t1)]
def AGS:=Q15 R N O T (aT b15 63) [(5,t5)]
def mo:=Q15 R N O T (aT b15 506) [(5,t5),(6,t6)]
def AGT:=Q15 R N O T (aT b15 2025) [(5,t5),(6,t6)]
def AGU:=Q15 R N O T (aT b15 127) [(5,t5)]
def AGV:=Q15 R N O T (aT b15 4051) [(5,t5),(6,t6)]
noncomputable def rO:Code:=Tryz.f49.body.getD .skip
def Ra:Nat->List Nat:=ln ([]::[0,3]::[0,3,13]::[0,3]::[0,3,15]::[0,3,15,16]::[]::[0,3,15,21]::[0,3,15,21]::[]::[0,3,15,28]::[]::[0,3,15,33]::[0,3,5]::rp 3 [0,3,5,6] ([0,5]::[]::[0,3,54]::[0,3,7]::[0,3,7,8]::rp 4 [0,3,7,8,9] [[0,3,7,8,9,88],[0,7],[]]))
abbrev rP:=Wq R N O T 49 95 [.tmp 4]
def yE:=rP R N O T (aT rO 1) [(0,t0),(1,t1)]
def AGW:=rP R N O T (aT rO 7) [(0,t0),(3,t3)]
def mU:=rP R N O T (aT rO 471) [(0,t0),(3,t3),(15,t15),(21,t21)]
def mS:=rP R N O T (aT rO 241642) [(0,t0),(3,t3),(5,t5),(6,t6)]
def mT:=rP R N O T (aT rO 1933274) [(0,t0),(3,t3),(7,t7),(8,t8),(9,t9)]
def AGX:=rP R N O T (aT rO 15) []
def AGY:=rP R N O T (aT rO 966569) [(0,t0),(3,t3),(5,t5),(6,t6)]
def AGZ:=rP R N O T (aT rO 60411) [(0,t0),(5,t5)]
def AGa:=rP R N O T (aT rO 7733097) [(0,t0),(3,t3),(7,t7),(8,t8),(9,t9)]
def AGb:=rP R N O T (aT rO 483319) [(0,t0),(7,t7)]
def z8:=rP R N O T (aT rO 1933139) [(0,t0),(3,t3),(5,t5),(6,t6)]
def ZF:=rP R N O T (aT rO 15466195) [(0,t0),(3,t3),(7,t7),(8,t8),(9,t9)]
noncomputable def b50:Code:=Tryz.f50.body.getD .skip
def ZK:Nat->List Nat:=ln ([]::[1,2]::[1,2,3]::[1,2,3,4]::rp 4 [1,2,3,4,5] ([2,3,4]::rp 3 [2,3,4,6] [[2,4]]))
abbrev Q50:=Wq R N O T 50 56 [.cell 2 45]
def AGc:=Q50 R N O T (aT b50 1) [(0,t0)]
def mb:=Q50 R N O T (aT b50 122) [(1,t1),(2,t2),(3,t3),(4,t4),(5,t5)]
def AGd:=Q50 R N O T (aT b50 489) [(1,t1),(2,t2),(3,t3),(4,t4),(5,t5)]
def AGe:=Q50 R N O T (aT b50 31) [(2,t2),(3,t3),(4,t4)]
def AGf:=Q50 R N O T (aT b50 979) [(1,t1),(2,t2),(3,t3),(4,t4),(5,t5)]
def mZ:=Q50 R N O T (aT b50 250) [(2,t2),(3,t3),(4,t4),(6,t6)]
def AGg:=Q50 R N O T (aT b50 1001) [(2,t2),(3,t3),(4,t4),(6,t6)]
def AGh:=Q50 R N O T (aT b50 63) [(2,t2),(4,t4)]
def AGi:=Q50 R N O T (aT b50 2003) [(2,t2),(3,t3),(4,t4),(6,t6)]
noncomputable def b51:Code:=Tryz.f51.body.getD .skip
def qH:Nat->List Nat:=ln ([]::[1]::[1,16]::[1]::rp 3 [1,3] [[1,3,4,5],[1,3,39],[]])
abbrev Q51:=Wq R N O T 51 40 [.tmp 2]
def yM:=Q51 R N O T (aT b51 1) [(0,t0)]
def AGj:=Q51 R N O T (aT b51 7) [(1,t1)]
def mj:=Q51 R N O T (aT b51 58) [(1,t1),(3,t3)]
def AGk:=Q51 R N O T (aT b51 233) [(1,t1),(3,t3)]
def AGl:=Q51 R N O T (aT b51 15) []
def AGm:=Q51 R N O T (aT b51 467) [(1,t1),(3,t3)]
noncomputable def b65:Code:=Tryz.f65.body.getD .skip
def VW:Nat->List Nat:=ln ([]::[1,2]::[1,2,9]::rp 3 [1,2,5] ([1,2,5,22]::[1,2]::[1,2]::rp 3 [1,2,6] [[1]]))
abbrev Q65:=Wq R N O T 65 54 [.tmp 4]
def AGn:=Q65 R N O T (aT b65 1) [(0,t0),(1,t1)]
def mV:=Q65 R N O T (aT b65 210) [(1,t1),(2,t2),(5,t5)]
def AGo:=Q65 R N O T (aT b65 7) [(1,t1),(2,t2)]
def AGp:=Q65 R N O T (aT b65 841) [(1,t1),(2,t2),(5,t5)]
def AGq:=Q65 R N O T (aT b65 53) [(1,t1),(2,t2)]
def mW:=Q65 R N O T (aT b65 58) [(1,t1),(2,t2),(6,t6)]
def AGr:=Q65 R N O T (aT b65 1683) [(1,t1),(2,t2),(5,t5)]
def yK:=Q65 R N O T (aT b65 233) [(1,t1),(2,t2),(6,t6)]
def mX:=Q65 R N O T (aT b65 15) [(1,t1)]
def AGs:=Q65 R N O T (aT b65 467) [(1,t1),(2,t2),(6,t6)]
noncomputable def b66:Code:=Tryz.f66.body.getD .skip
def qI:Nat->List Nat:=ln ([]::[1,2]::[1,2,8]::[1,2]::rp 3 [1,2,5] [[1,2,5,30],[]])
abbrev Q66:=Wq R N O T 66 31 [.tmp 4]
def xZ:=Q66 R N O T (aT b66 1) [(0,t0),(1,t1)]
def AGt:=Q66 R N O T (aT b66 7) [(1,t1),(2,t2)]
def mA:=Q66 R N O T (aT b66 58) [(1,t1),(2,t2),(5,t5)]
def AGu:=Q66 R N O T (aT b66 233) [(1,t1),(2,t2),(5,t5)]
def AGv:=Q66 R N O T (aT b66 15) []
def AGw:=Q66 R N O T (aT b66 467) [(1,t1),(2,t2),(5,t5)]
noncomputable def qJ:Code:=Tryz.f105.body.getD .skip
def XH:Nat->List Nat:=ln ([]::[1,2]::[1,2,8]::[1,2]::rp 3 [1,2,5] [[1,2,5,31],[]])
abbrev qK:=Wq R N O T 105 32 [.tmp 4]
def iH:=qK R N O T (aT qJ 1) [(0,t0),(1,t1)]
def AAB:=qK R N O T (aT qJ 7) [(1,t1),(2,t2)]
def Y8:=qK R N O T (aT qJ 58) [(1,t1),(2,t2),(5,t5)]
def AAC:=qK R N O T (aT qJ 233) [(1,t1),(2,t2),(5,t5)]
def AAD:=qK R N O T (aT qJ 15) []
def AAE:=qK R N O T (aT qJ 467) [(1,t1),(2,t2),(5,t5)]
noncomputable def b76:Code:=Tryz.f76.body.getD .skip
def qL:Nat->List Nat:=ln ([]::[1]::[1,7]::[1]::[1,3]::rp 3 [1,3,4] [[3]])
abbrev Q76:=Wq R N O T 76 32 [.tmp 2]
def xe:=Q76 R N O T (aT b76 1) [(0,t0)]
def AGx:=Q76 R N O T (aT b76 7) [(1,t1)]
def mC:=Q76 R N O T (aT b76 122) [(1,t1),(3,t3),(4,t4)]
def AGy:=Q76 R N O T (aT b76 489) [(1,t1),(3,t3),(4,t4)]
def AGz:=Q76 R N O T (aT b76 31) [(3,t3)]
def AG0:=Q76 R N O T (aT b76 979) [(1,t1),(3,t3),(4,t4)]
noncomputable def dK:Code:=Tryz.f98.body.getD .skip
def MU:Nat->List Nat:=ln ([]::[0,3]::[0,3,5]::[0,3,5,6]::rp 3 [0,3,5,6,7] ([0,3,5,6,7,8]::[0,3,5,6,7,8]::[0,5,6]::[0,5,40]::[0,5]::[0,5,9]::rp 3 [0,5,9,10] ([0,5,9,10,11]::rp 3 [0,5,9,10,11,12] (rp 3 [0,5,9,10,11,12,13] [0::5::ra 6 9 [],0::5::ra 7 9 [],[0,5,10,11],[9]]))))
abbrev dL:=Wq R N O T 98 111 [.tmp 4]
def AG1:=dL R N O T (aT dK 1) [(0,t0),(1,t1)]
def mR:=dL R N O T (aT dK 122) [(0,t0),(3,t3),(5,t5),(6,t6),(7,t7)]
def AG2:=dL R N O T (aT dK 489) [(0,t0),(3,t3),(5,t5),(6,t6),(7,t7)]
def x9:=dL R N O T (aT dK 31) [(0,t0),(5,t5),(6,t6)]
def yA:=dL R N O T (aT dK 979) [(0,t0),(3,t3),(5,t5),(6,t6),(7,t7)]
def AG3:=dL R N O T (aT dK 63) [(0,t0),(5,t5)]
def cy:=dL R N O T (aT dK 1018) [(0,t0),(5,t5),(9,t9),(10,t10)]
def AG4:=dL R N O T (aT dK 4073) [(0,t0),(5,t5),(9,t9),(10,t10)]
def AG5:=dL R N O T (aT dK 255) [(9,t9)]
def mP:=dL R N O T (aT dK 260682) [(0,t0),(5,t5),(9,t9),(10,t10),(11,t11),(12,t12)]
def AAF:=dL R N O T (aT dK 1042729) [(0,t0),(5,t5),(9,t9),(10,t10),(11,t11),(12,t12)]
def iX:=dL R N O T (aT dK 65171) [(0,t0),(5,t5),(10,t10),(11,t11)]
def ZE:=dL R N O T (aT dK 16683666) [(0,t0),(5,t5),(9,t9),(10,t10),(11,t11),(12,t12),(13,t13)]
def AAG:=dL R N O T (aT dK 8147) [(0,t0),(5,t5),(9,t9),(10,t10)]
def iT:=dL R N O T (aT dK 66734665) [(0,t0),(5,t5),(9,t9),(10,t10),(11,t11),(12,t12),(13,t13)]
def iW:=dL R N O T (aT dK 2085459) [(0,t0),(5,t5),(9,t9),(10,t10),(11,t11),(12,t12)]
def iR:=dL R N O T (aT dK 133469331) [(0,t0),(5,t5),(9,t9),(10,t10),(11,t11),(12,t12),(13,t13)]
noncomputable def b99:Code:=Tryz.f99.body.getD .skip
def AMc:Nat->List Nat:=ln [[],[0,1],[0,1,13],[0,1],[1,20],[1]]
abbrev Q99:=Wq R N O T 99 22 [.tmp 4]
def AG6:=Q99 R N O T (aT b99 1) [(0,t0),(1,t1)]
def mN:=Q99 R N O T (aT b99 7) [(0,t0),(1,t1)]
def AG7:=Q99 R N O T (aT b99 15) [(1,t1)]
noncomputable def AMd:Code:=Tryz.f100.body.getD .skip
def AAH:Nat->List Nat:=ln [[],[0,4,5],[0,4,5,7],[0,4,5,7,8],[0,4,5,7,8,18],[0,4,5,7,8],[0,4,5],[0,4,5,35],[0,4,5]]
abbrev AMe:=Wq R N O T 100 44 [.tmp 6]
def AAI:=AMe R N O T (aT AMd 1) [(0,t0),(1,t1),(2,t2)]
def AAJ:=AMe R N O T (aT AMd 31) [(0,t0),(4,t4),(5,t5),(7,t7),(8,t8)]
def AAK:=AMe R N O T (aT AMd 127) [(0,t0),(4,t4),(5,t5)]
noncomputable def AMf:Code:=Tryz.f112.body.getD .skip
def AAL:Nat->List Nat:=ln [[],[1,2,4],[1,2,4,7],[1,2,4,15],[2,4],[1,2,4]]
abbrev AMg:=Wq R N O T 112 25 [.cell 4 25]
def iD:=AMg R N O T (aT AMf 1) [(0,t0),(1,t1)]
def Y7:=AMg R N O T (aT AMf 53) [(2,t2),(4,t4)]
def AAM:=AMg R N O T (aT AMf 7) [(1,t1),(2,t2),(4,t4)]
noncomputable def b97:Code:=Tryz.f97.body.getD .skip
def ATX:Nat->List Nat:=ln [[],[1,2],[1,2,5],[1,2]]
abbrev Q97:=Wq R N O T 97 12 [.cell 2 25]
def xW:=Q97 R N O T (aT b97 1) [(0,t0)]
def AG8:=Q97 R N O T (aT b97 7) [(1,t1),(2,t2)]
noncomputable def qN:Code:=Tryz.f127.body.getD .skip
def XI:Nat->List Nat:=ln ([]::[1,2,3,6]::[1,2,3,6,16]::[1,2,3,6]::[1,2,3,6,7]::[1,2,3,6,7]::rp 3 [1,2,3,6,7,8] [[],[1,2,3,6,7,8,27],[1,2,3,6,7,8,27,40],[],[1,2,3,6,7,8,54],[6,7]])
abbrev qO:=Wq R N O T 127 68 [.cell 6 25]
def iB:=qO R N O T (aT qN 1) [(0,t0),(1,t1),(2,t2)]
def iC:=qO R N O T (aT qN 7) [(1,t1),(2,t2),(3,t3),(6,t6)]
def Y3:=qO R N O T (aT qN 250) [(1,t1),(2,t2),(3,t3),(6,t6),(7,t7),(8,t8)]
def AAN:=qO R N O T (aT qN 1001) [(1,t1),(2,t2),(3,t3),(6,t6),(7,t7),(8,t8)]
def AAO:=qO R N O T (aT qN 63) [(6,t6),(7,t7)]
def UQ:=qO R N O T (aT qN 2003) [(1,t1),(2,t2),(3,t3),(6,t6),(7,t7),(8,t8)]
noncomputable def AMh:Code:=Tryz.f128.body.getD .skip
def AAP:Nat->List Nat:=ln [[],[1,2,4],[1,2,4,7],[1,2,4,8],[],[2,4,14],[2,4],[1,2,4]]
abbrev AMi:=Wq R N O T 128 26 [.cell 4 25]
def iE:=AMi R N O T (aT AMh 1) [(0,t0),(1,t1)]
def AAQ:=AMi R N O T (aT AMh 53) [(2,t2),(4,t4)]
def AAR:=AMi R N O T (aT AMh 7) [(1,t1),(2,t2),(4,t4)]
noncomputable def b82:Code:=Tryz.f82.body.getD .skip
def dM:Nat->List Nat:=ln ([]::[1,2,3,6]::[1,2,3,6,11]::[2,3,6,15]::[3,6]::[1,2,3,6]::[1,2,3,6,26]::[1,2,3,6]::[1,2,3,6,7]::[1,2,3,6,7]::rp 3 [1,2,3,6,7,8] [[6,7]])
abbrev Q82:=Wq R N O T 82 51 [.cell 6 25]
def xS:=Q82 R N O T (aT b82 1) [(0,t0),(1,t1),(2,t2)]
def AHB:=Q82 R N O T (aT b82 53) [(3,t3),(6,t6)]
def AHC:=Q82 R N O T (aT b82 7) [(1,t1),(2,t2),(3,t3),(6,t6)]
def xT:=Q82 R N O T (aT b82 15) [(1,t1),(2,t2),(3,t3),(6,t6)]
def l8:=Q82 R N O T (aT b82 506) [(1,t1),(2,t2),(3,t3),(6,t6),(7,t7),(8,t8)]
def AHD:=Q82 R N O T (aT b82 2025) [(1,t1),(2,t2),(3,t3),(6,t6),(7,t7),(8,t8)]
def AHE:=Q82 R N O T (aT b82 127) [(6,t6),(7,t7)]
def AHF:=Q82 R N O T (aT b82 4051) [(1,t1),(2,t2),(3,t3),(6,t6),(7,t7),(8,t8)]
noncomputable def dN:Code:=Tryz.f111.body.getD .skip
def RJ:Nat->List Nat:=ln ([]::[1,3,5,6]::[1,3,5,6,11]::[1,3,5,6]::[3,5,6,20]::[3,6]::[1,3,5,6]::[1,3,5,6,25]::[1,3,5,6]::[1,3,5,6,7]::[1,3,5,6,7]::rp 3 [1,3,5,6,7,8] [[6,7]])
abbrev dP:=Wq R N O T 111 50 [.cell 6 25]
def AAS:=dP R N O T (aT dN 1) [(0,t0),(1,t1),(2,t2)]
def AAT:=dP R N O T (aT dN 107) [(3,t3),(6,t6)]
def AAU:=dP R N O T (aT dN 7) [(1,t1),(3,t3),(5,t5),(6,t6)]
def AAV:=dP R N O T (aT dN 15) [(1,t1),(3,t3),(5,t5),(6,t6)]
def UX:=dP R N O T (aT dN 506) [(1,t1),(3,t3),(5,t5),(6,t6),(7,t7),(8,t8)]
def AAW:=dP R N O T (aT dN 2025) [(1,t1),(3,t3),(5,t5),(6,t6),(7,t7),(8,t8)]
def AAX:=dP R N O T (aT dN 127) [(6,t6),(7,t7)]
def AAY:=dP R N O T (aT dN 4051) [(1,t1),(3,t3),(5,t5),(6,t6),(7,t7),(8,t8)]
noncomputable def b78:Code:=Tryz.f78.body.getD .skip
def AYx:Nat->List Nat:=ln [[],[3,4,5,6]]
abbrev Q78:=Wq R N O T 78 24 [.cell 6 45]
def mH:=Q78 R N O T (aT b78 1) [(0,t0),(1,t1),(2,t2)]
noncomputable def AAZ:Code:=Tryz.f129.body.getD .skip
def dQ:Nat->List Nat:=ln ([]::[1]::[3]::rp 3 [3,4] [[3,4,18],[]])
abbrev AAa:=Wq R N O T 129 20 [.tmp 2]
def AAb:=AAa R N O T (aT AAZ 1) [(0,t0)]
def Y9:=AAa R N O T (aT AAZ 58) [(3,t3),(4,t4)]
def AAc:=AAa R N O T (aT AAZ 233) [(3,t3),(4,t4)]
def AAd:=AAa R N O T (aT AAZ 15) []
def AAe:=AAa R N O T (aT AAZ 467) [(3,t3),(4,t4)]
noncomputable def qP:Code:=Tryz.f130.body.getD .skip
def XJ:Nat->List Nat:=ln ([]::[0,2,4]::[0,2,4,7]::[0,2,4,7,13]::[0,2,4,7]::[0,2,4,7,8]::rp 4 [0,2,4,7,8,9] [[0,2,4,7,8,9,49],[8]])
abbrev qQ:=Wq R N O T 130 54 [.tmp 6]
def AAf:=qQ R N O T (aT qP 1) [(0,t0),(1,t1),(2,t2)]
def AAg:=qQ R N O T (aT qP 15) [(0,t0),(2,t2),(4,t4),(7,t7)]
def UZ:=qQ R N O T (aT qP 250) [(0,t0),(2,t2),(4,t4),(7,t7),(8,t8),(9,t9)]
def AAh:=qQ R N O T (aT qP 1001) [(0,t0),(2,t2),(4,t4),(7,t7),(8,t8),(9,t9)]
def AAi:=qQ R N O T (aT qP 63) [(8,t8)]
def ZB:=qQ R N O T (aT qP 2003) [(0,t0),(2,t2),(4,t4),(7,t7),(8,t8),(9,t9)]
end
variable {R:RT} {N O T:Nat} {s:AL} {QR:QT} {t0 t1 t2 t3 t4 t5 t6 t7 t8 t9 t10 t11 t12 t13 t15 t21:AV}
theorem AR7 (h :
 Bs s t0 λa b=>
 xM R b 4 a λc=>
 xC R 15 N O T 30 [c] b λd e=>
 xI .neq d (AB 0) λf=>
 g1 f false e (xM R e 4 a) λi j=>
 I1 f false j (xC R 15 N O T 48 [i] j) λm n=>
 g1 f false n (Dv m) λp q=>
 A8 f (BB true) p λu=>
 AO u (
 QR (.tuple [(.AA []),(AB 2)]) q) (
 AGR R N O T a q QR)):yP R N O T t0 s QR:=
 pC iw cF h
theorem AR8 (h :
 Cw [(BB false),(BB false)] [(0,1,(BB true))] λa=>
 Bs s a λb c=>
 xM R c 4 t1 λd=>
 xC R 15 N O T 49 [b,d] c λe f=>
 Cz f b λg=>
 xF R f g 1 λj=>
 AO j (
 QR (.tuple [(.AA []),(AB 4)]) f) (
 AGS R N O T e f QR)):AGR R N O T t1 s QR:=
 pC iw cF h
theorem AR9 (h :
 mo R N O T t5 (AB 0) s QR):AGS R N O T t5 s QR:=
 pC iw cF h
theorem AFt (h :
 BO s t5 λa=>
 xI .lss t6 a λb=>
 AO b (
 AGT R N O T t5 t6 s QR) (
 AGU R N O T t5 s QR)):mo R N O T t5 t6 s QR:=
 pL iw cF h
theorem AR4 (h :
 Bj s 5 t5 t6 λa=>
 xM R s 5 a λb=>
 xC R 15 N O T 50 [b] s λc d=>
 Bj d 5 t5 t6 λe=>
 Ci (lf R 15 N O T) d 5 e c λf=>
 Bj f 5 t5 t6 λg=>
 xM R f 5 g λi=>
 xC R 15 N O T 51 [i] f λj k=>
 Dv j λl=>
 AO l (
 QR (.tuple [(.AA []),(AB 4)]) k) (
 AGV R N O T t5 t6 k QR)):AGT R N O T t5 t6 s QR:=
 pC iw cF h
theorem AR3 (h :
 QR (.tuple [t5,(AB 0)]) s):AGU R N O T t5 s QR:=
 pC iw cF h
theorem AR6 (h :
 xI .add t6 (AB 1) λa=>
 mo R N O T t5 a s QR):AGV R N O T t5 t6 s QR:=
 pC iw cF h
theorem e15 {u0:AV} {Post:AV->Prop} (Bi:AX [] 0 0 [t0]=some [u0]) (h:yP R 0 0 0 u0 ⟨[],[]⟩ (QP Post)):AM (env R) 15 [t0] Post:=
 hR Tryz.func15 Bi h
theorem ARh (h :
 Bs s t1 λa b=>
 Cz b t0 λc=>
 xF R b c 1 λe=>
 AO e (
 QR (.AA []) b) (
 AGW R N O T t0 a b QR)):yE R N O T t0 t1 s QR:=
 pC Ra cF h
theorem ARi (h :
 xF R s t3 0 λb=>
 xI .eql b (AB 0) λc=>
 AO c (
 xM R s 4 t3 λd=>
 Cw Y5 [(1,4,d)] λe=>
 Ct true s 5 Y5 1 [(0,5,e)] λf g=>
 QR f g) (
 xI .eql b (AB 5) λi=>
 AO i (
 mU R N O T t0 t3 b i s QR) (
 xI .eql b (AB 2) λj=>
 mU R N O T t0 t3 b j s QR))):AGW R N O T t0 t3 s QR:=
 pC Ra cF h
theorem c6 (h :
 AO t21 (
 xM R s 4 t3 λa=>
 xC R 49 N O T 97 [a] s λb c=>
 Cw Y5 [(1,4,b)] λd=>
 Ct true c 5 Y5 1 [(0,5,d)] λe f=>
 QR e f) (
 xI .eql t15 (AB 3) λg=>
 AO g (
 xM R s 4 t3 λi=>
 xC R 49 N O T 98 [t0,i] s λj k=>
 QR j k) (
 xI .eql t15 (AB 4) λl=>
 AO l (
 mS R N O T t0 t3 (.AA []) (AB 0) s QR) (
 xI .eql t15 (AB 6) λm=>
 AO m (
 xF R s t3 3 λo=>
 Bj s 4 o (AB 1) λp=>
 xM R s 4 p λq=>
 xC R 49 N O T 49 [t0,q] s λu v=>
 mT R N O T t0 t3 (.AA []) u (AB 0) v QR) (
 AGX R N O T  s QR))))):mU R N O T t0 t3 t15 t21 s QR:=
 pC Ra cF h
theorem AFm (h :
 xF R s t3 3 λb=>
 BO s b λc=>
 xI .lss t6 c λd=>
 AO d (
 AGY R N O T t0 t3 t5 t6 s QR) (
 AGZ R N O T t0 t5 s QR)):mS R N O T t0 t3 t5 t6 s QR:=
 pL Ra cF h
theorem AFn (h :
 BO s t8 λa=>
 xI .lss t9 a λb=>
 AO b (
 AGa R N O T t0 t3 t7 t8 t9 s QR) (
 AGb R N O T t0 t7 s QR)):mT R N O T t0 t3 t7 t8 t9 s QR:=
 pL Ra cF h
theorem ARj (h :
 QR (.AA []) s):AGX R N O T  s QR:=
 pC Ra cF h
theorem ARb (h :
 xF R s t3 3 λb=>
 Bj s 4 b t6 λc=>
 xM R s 4 c λd=>
 xC R 49 N O T 49 [t0,d] s λe f=>
(5=5/\5≠0)/\Cx true (lf R 49 N O T) f 45 5 80 t5 e λg i=>
 z8 R N O T t0 t3 g t6 i QR):AGY R N O T t0 t3 t5 t6 s QR:=
 pC Ra cF h
theorem ARa (h :
 xC R 49 N O T 99 [t0,t5] s λa b=>
 QR a b):AGZ R N O T t0 t5 s QR:=
 pC Ra cF h
theorem ARf (h :
 Bj s 5 t8 t9 λa=>
 xM R s 5 a λb=>
 xF R s t3 3 λd=>
 Bj s 4 d (AB 0) λe=>
 xM R s 4 e λf=>
 xC R 49 N O T 100 [t0,b,f] s λg i=>
(5=5/\5≠0)/\Cx true (lf R 49 N O T) i 45 5 80 t7 g λj k=>
 Cz k t0 λl=>
 xF R k l 0 λn=>
 g0 n true k j λo p=>
 g1 n true p (BO p o) λu v=>
 g1 n true v (xI .gtr u (AB 32)) λx y=>
 A8 n x (BB false) λz=>
 AO z (
 Cz y t0 λaa=>
 Ax y aa 1 λab=>
 Ci (lf R 49 N O T) y 1 ab (BB true) λac=>
 ZF R N O T t0 t3 j t8 t9 ac QR) (
 ZF R N O T t0 t3 j t8 t9 y QR)):AGa R N O T t0 t3 t7 t8 t9 s QR:=
 pC Ra cF h
theorem ARe (h :
 xC R 49 N O T 99 [t0,t7] s λa b=>
 QR a b):AGb R N O T t0 t7 s QR:=
 pC Ra cF h
theorem AMJ (h :
 xI .add t6 (AB 1) λa=>
 mS R N O T t0 t3 t5 a s QR):z8 R N O T t0 t3 t5 t6 s QR:=
 pC Ra cF h
theorem AMK (h :
 xI .add t9 (AB 1) λa=>
 mT R N O T t0 t3 t7 t8 a s QR):ZF R N O T t0 t3 t7 t8 t9 s QR:=
 pC Ra cF h
theorem m49 {L:A3} {Post:AV->AL->Prop} (hn:Bo [t0,t1]=false) (h:yE R 0 L.ro L.rt t0 t1 s (QM (L.rr 49) s.bs.length Post)):∃v s',Post v s'/\BA (env R) L 49 [t0,t1] s v s':=
 hM Tryz.func49 hn h
theorem ARx (h :
 Bs s t0 λa b=>
 Cl b Y5 λc d=>
 xG R d a 1 4 λf=>
 xC R 50 N O T 65 [f,(.AA [])] d λg i=>
 xG R i a 1 4 λk=>
 Cw Y5 [(1,4,k)] λl=>
 Cl i Y5 λm n=>
 Ci (lf R 50 N O T) n 5 m l λo=>
 mb R N O T a c g m (AB 0) o QR):AGc R N O T t0 s QR:=
 pC ZK cF h
theorem AFr (h :
 BO s t3 λa=>
 xI .lss t5 a λb=>
 AO b (
 AGd R N O T t1 t2 t3 t4 t5 s QR) (
 AGe R N O T t2 t3 t4 s QR)):mb R N O T t1 t2 t3 t4 t5 s QR:=
 pL ZK cF h
theorem ARv (h :
 xF R s t4 0 λb=>
 xF R s t1 0 λd=>
 Bj s 1 t3 t5 λe=>
 xL R s e λf=>
 Bj s 4 d f λg=>
 xM R s 4 g λi=>
 Ct false s 4 Y4 1 [(0,4,i)] λj k=>
(4=4/\4≠0)/\Cx false (lf R 50 N O T) s 25 4 56 b j λl m=>
 Ax m t4 0 λn=>
 Ci (lf R 50 N O T) m 1 n l λo=>
 xG R o t4 1 4 λq=>
 Bj o 1 t3 t5 λu=>
 xL R o u λv=>
 xI .add (AB 1073741825) t5 λw=>
 xC R 50 N O T 82 [q,v,w] o λx y=>
 Ax y t4 1 λz=>
 Ci (lf R 50 N O T) y 4 z x λaa=>
 AGf R N O T t1 t2 t3 t4 t5 aa QR):AGd R N O T t1 t2 t3 t4 t5 s QR:=
 pC ZK cF h
theorem ARu (h :
 mZ R N O T t2 t3 t4 (AB 0) s QR):AGe R N O T t2 t3 t4 s QR:=
 pC ZK cF h
theorem ARw (h :
 xI .add t5 (AB 1) λa=>
 mb R N O T t1 t2 t3 t4 a s QR):AGf R N O T t1 t2 t3 t4 t5 s QR:=
 pC ZK cF h
theorem AFq (h :
 BO s t3 λa=>
 xI .lss t6 a λb=>
 AO b (
 AGg R N O T t2 t3 t4 t6 s QR) (
 AGh R N O T t2 t4 s QR)):mZ R N O T t2 t3 t4 t6 s QR:=
 pL ZK cF h
theorem ARs (h :
 xG R s t4 1 4 λb=>
 xI .add (AB 1073741825) t6 λc=>
 xC R 50 N O T 82 [b,c,t6] s λd e=>
 Ax e t4 1 λf=>
 Ci (lf R 50 N O T) e 4 f d λg=>
 AGi R N O T t2 t3 t4 t6 g QR):AGg R N O T t2 t3 t4 t6 s QR:=
 pC ZK cF h
theorem ARr (h :
 xM R s 5 t4 λa=>
 Ci (lf R 50 N O T) s 5 t2 a λb=>
 xM R b 5 t2 λc=>
 QR c b):AGh R N O T t2 t4 s QR:=
 pC ZK cF h
theorem ARt (h :
 xI .add t6 (AB 1) λa=>
 mZ R N O T t2 t3 t4 a s QR):AGi R N O T t2 t3 t4 t6 s QR:=
 pC ZK cF h
theorem e50 {u0:AV} {Post:AV->Prop} (Bi:AX [] 0 0 [t0]=some [u0]) (h:AGc R 0 0 0 u0 ⟨[],[]⟩ (QP Post)):AM (env R) 50 [t0] Post:=
 hR Tryz.func50 Bi h
theorem AR1 (h :
 Bs s t0 λa b=>
 xF R b a 0 λd=>
 BO b d λe=>
 xI .gtr e (AB 6) λf=>
 g1 f false b (Ax b a 1) λi j=>
 g1 f false j (xM R j 4 i) λl m=>
 I1 f false m (xC R 51 N O T 76 [l] m) λp q=>
 g1 f false q (BO q p) λv w=>
 g1 f false w (xI .gtr v (AB 3)) λy z=>
 A8 f (BB true) y λaa=>
 AO aa (
 QR (BB false) z) (
 AGj R N O T a z QR)):yM R N O T t0 s QR:=
 pC qH cF h
theorem AR2 (h :
 mj R N O T t1 (AB 0) s QR):AGj R N O T t1 s QR:=
 pC qH cF h
theorem AFs (h :
 xF R s t1 0 λb=>
 BO s b λc=>
 xI .lss t3 c λd=>
 AO d (
 AGk R N O T t1 t3 s QR) (
 AGl R N O T  s QR)):mj R N O T t1 t3 s QR:=
 pL qH cF h
theorem ARz (h :
 xF R s t1 0 λb=>
 Bj s 4 b t3 λc=>
 xM R s 4 c λd=>
 xC R 51 N O T 15 [d] s λe f=>
 DF e 0 λg=>
 DF e 1 λi=>
 xI .neq i (AB 0) λj=>
 g0 j false f g λk l=>
 g1 j false l (BO l k) λn o=>
 g1 j false o (xI .gtr n (AB 4)) λq u=>
 A8 j (BB true) q λv=>
 AO v (
 QR (BB false) u) (
 AGm R N O T t1 t3 u QR)):AGk R N O T t1 t3 s QR:=
 pC qH cF h
theorem ARy (h :
 QR (BB true) s):AGl R N O T  s QR:=
 pC qH cF h
theorem AR0 (h :
 xI .add t3 (AB 1) λa=>
 mj R N O T t1 a s QR):AGm R N O T t1 t3 s QR:=
 pC qH cF h
theorem e51 {u0:AV} {Post:AV->Prop} (Bi:AX [] 0 0 [t0]=some [u0]) (h:yM R 0 0 0 u0 ⟨[],[]⟩ (QP Post)):AM (env R) 51 [t0] Post:=
 hR Tryz.func51 Bi h
theorem ARp (h :
 Bs s t0 λa b=>
 xF R b a 0 λd=>
 xI .eql d (AB 5) λe=>
 AO e (
 mV R N O T t1 a (AB 0) b QR) (
 AGo R N O T t1 a b QR)):AGn R N O T t0 t1 s QR:=
 pC VW cF h
theorem AFo (h :
 BO s t1 λa=>
 xI .lss t5 a λb=>
 AO b (
 AGp R N O T t1 t2 t5 s QR) (
 AGq R N O T t1 t2 s QR)):mV R N O T t1 t2 t5 s QR:=
 pL VW cF h
theorem ARq (h :
 mW R N O T t1 t2 (AB 0) s QR):AGo R N O T t1 t2 s QR:=
 pC VW cF h
theorem ARl (h :
 Bj s 1 t1 t5 λa=>
 xL R s a λb=>
 xF R s t2 2 λd=>
 xI .eql b d λe=>
 AO e (
 QR t1 s) (
 AGr R N O T t1 t2 t5 s QR)):AGp R N O T t1 t2 t5 s QR:=
 pC VW cF h
theorem ARk (h :
 xF R s t2 2 λb=>
 Ct false s 1 [(AB 0)] 1 [(0,1,b)] λc d=>
(1=1/\1≠0)/\Cx false (lf R 65 N O T) d 3 1 8 t1 c λe f=>
 QR e f):AGq R N O T t1 t2 s QR:=
 pC VW cF h
theorem yI (h :
 xF R s t2 0 λb=>
 xI .eql b (AB 3) λc=>
 g1 c false s (Ax s t2 0) λe f=>
 g1 c false f (xL R f e) λi j=>
 g1 c false j (xI .eql i (AB 2)) λl m=>
 A8 c (BB true) l λn=>
 g0 n true m t6 λo p=>
 g1 n true p (Ax p t2 3) λu v=>
 g1 n true v (xL R v u) λx y=>
 g1 n true y (BO y x) λaa ab=>
 g1 n true ab (xI .lss o aa) λad ae=>
 A8 n ad (BB false) λaf=>
 AO af (
 yK R N O T t1 t2 t6 ae QR) (
 mX R N O T t1 ae QR)):mW R N O T t1 t2 t6 s QR:=
 pL VW cF h
theorem ARm (h :
 xI .add t5 (AB 1) λa=>
 mV R N O T t1 t2 a s QR):AGr R N O T t1 t2 t5 s QR:=
 pC VW cF h
theorem ARn (h :
 xF R s t2 3 λb=>
 Bj s 4 b t6 λc=>
 xM R s 4 c λd=>
 xC R 65 N O T 65 [d,t1] s λe f=>
 AGs R N O T e t2 t6 f QR):yK R N O T t1 t2 t6 s QR:=
 pC VW cF h
theorem yJ (h :
 QR t1 s):mX R N O T t1 s QR:=
 pC VW cF h
theorem ARo (h :
 xI .add t6 (AB 1) λa=>
 mW R N O T t1 t2 a s QR):AGs R N O T t1 t2 t6 s QR:=
 pC VW cF h
theorem m65 {L:A3} {Post:AV->AL->Prop} (h:AGn R 0 L.ro L.rt t0 t1 s (QM (L.rr 65) s.bs.length Post)):∃v s',Post v s'/\BA (env R) L 65 [t0,t1] s v s':=
 AEF (fn:=Tryz.f65) (body:=b65) Tryz.func65 (by kernel_rfl) (by kernel_rfl) (by kernel_rfl) (Cm (by kernel_rfl)) (nO h (by kernel_rfl))
theorem AQ8 (h :
 Bs s t0 λa b=>
 xF R b a 0 λd=>
 xI .eql d (AB 2) λe=>
 AO e (
 xM R b 4 a λf=>
 xC R 66 N O T 105 [f,t1] b λg i=>
 QR g i) (
 AGt R N O T t1 a b QR)):xZ R N O T t0 t1 s QR:=
 pC qI cF h
theorem AQ9 (h :
 mA R N O T t1 t2 (AB 0) s QR):AGt R N O T t1 t2 s QR:=
 pC qI cF h
theorem xY (h :
 xF R s t2 0 λb=>
 xI .eql b (AB 3) λc=>
 g0 c true s t5 λd e=>
 g1 c true e (Ax e t2 3) λg i=>
 g1 c true i (xL R i g) λk l=>
 g1 c true l (BO l k) λn o=>
 g1 c true o (xI .lss d n) λq u=>
 A8 c q (BB false) λv=>
 AO v (
 AGu R N O T t1 t2 t5 u QR) (
 AGv R N O T  u QR)):mA R N O T t1 t2 t5 s QR:=
 pL qI cF h
theorem AQ6 (h :
 xF R s t2 3 λb=>
 Bj s 4 b t5 λc=>
 xM R s 4 c λd=>
 xC R 66 N O T 66 [d,t1] s λe f=>
 AO e (
 QR (BB true) f) (
 AGw R N O T t1 t2 t5 f QR)):AGu R N O T t1 t2 t5 s QR:=
 pC qI cF h
theorem AFc (h :
 QR (BB false) s):AGv R N O T  s QR:=
 pC qI cF h
theorem AQ7 (h :
 xI .add t5 (AB 1) λa=>
 mA R N O T t1 t2 a s QR):AGw R N O T t1 t2 t5 s QR:=
 pC qI cF h
theorem e66 {u0 u1:AV} {Post:AV->Prop} (Bi:AX [] 0 0 [t0,t1]=some [u0,u1]) (h:xZ R 0 0 0 u0 u1 ⟨[],[]⟩ (QP Post)):AM (env R) 66 [t0,t1] Post:=
 hR Tryz.func66 Bi h
theorem ALq (h :
 Bs s t0 λa b=>
 xF R b a 0 λd=>
 xI .eql d (AB 5) λe=>
 AO e (
 xF R b a 2 λg=>
 xI .eql g t1 λi=>
 QR i b) (
 AAB R N O T t1 a b QR)):iH R N O T t0 t1 s QR:=
 pC XH cF h
theorem ALr (h :
 Y8 R N O T t1 t2 (AB 0) s QR):AAB R N O T t1 t2 s QR:=
 pC XH cF h
theorem iG (h :
 xF R s t2 0 λb=>
 xI .eql b (AB 2) λc=>
 g0 c true s t5 λd e=>
 g1 c true e (Ax e t2 3) λg i=>
 g1 c true i (xL R i g) λk l=>
 g1 c true l (BO l k) λn o=>
 g1 c true o (xI .lss d n) λq u=>
 A8 c q (BB false) λv=>
 AO v (
 AAC R N O T t1 t2 t5 u QR) (
 AAD R N O T  u QR)):Y8 R N O T t1 t2 t5 s QR:=
 pL XH cF h
theorem ALo (h :
 xF R s t2 3 λb=>
 Bj s 4 b t5 λc=>
 xM R s 4 c λd=>
 xC R 105 N O T 105 [d,t1] s λe f=>
 AO e (
 QR (BB true) f) (
 AAE R N O T t1 t2 t5 f QR)):AAC R N O T t1 t2 t5 s QR:=
 pC XH cF h
theorem xX (h :
 QR (BB false) s):AAD R N O T  s QR:=
 pC XH cF h
theorem ALp (h :
 xI .add t5 (AB 1) λa=>
 Y8 R N O T t1 t2 a s QR):AAE R N O T t1 t2 t5 s QR:=
 pC XH cF h
theorem AXH {u0 u1:AV} {Post:AV->Prop} (Bi:AX [] 0 0 [t0,t1]=some [u0,u1]) (h:iH R 0 0 0 u0 u1 ⟨[],[]⟩ (QP Post)):AM (env R) 105 [t0,t1] Post:=
 hR Tryz.func105 Bi h
theorem ARC (h :
 Bs s t0 λa b=>
 xF R b a 0 λd=>
 xI .eql d (AB 5) λe=>
 AO e (
 xF R b a 2 λg=>
 Ct false b 1 [(AB 0)] 1 [(0,1,g)] λi j=>
 QR i j) (
 AGx R N O T a b QR)):xe R N O T t0 s QR:=
 pC qL cF h
theorem ARD (h :
 mC R N O T t1 (.AA []) (AB 0) s QR):AGx R N O T t1 s QR:=
 pC qL cF h
theorem xd (h :
 xF R s t1 0 λb=>
 xI .eql b (AB 3) λc=>
 g0 c true s t4 λd e=>
 g1 c true e (Ax e t1 3) λg i=>
 g1 c true i (xL R i g) λk l=>
 g1 c true l (BO l k) λn o=>
 g1 c true o (xI .lss d n) λq u=>
 A8 c q (BB false) λv=>
 AO v (
 AGy R N O T t1 t3 t4 u QR) (
 AGz R N O T t3 u QR)):mC R N O T t1 t3 t4 s QR:=
 pL qL cF h
theorem ARA (h :
 xF R s t1 3 λb=>
 Bj s 4 b t4 λc=>
 xM R s 4 c λd=>
 xC R 76 N O T 76 [d] s λe f=>
(1=1/\1≠0)/\Cx false (lf R 76 N O T) f 3 1 8 t3 e λg i=>
 AG0 R N O T t1 g t4 i QR):AGy R N O T t1 t3 t4 s QR:=
 pC qL cF h
theorem AFd (h :
 QR t3 s):AGz R N O T t3 s QR:=
 pC qL cF h
theorem ARB (h :
 xI .add t4 (AB 1) λa=>
 mC R N O T t1 t3 a s QR):AG0 R N O T t1 t3 t4 s QR:=
 pC qL cF h
theorem e76 {u0:AV} {Post:AV->Prop} (Bi:AX [] 0 0 [t0]=some [u0]) (h:xe R 0 0 0 u0 ⟨[],[]⟩ (QP Post)):AM (env R) 76 [t0] Post:=
 hR Tryz.func76 Bi h
theorem ARX (h :
 Bs s t1 λa b=>
 mR R N O T t0 a (.AA []) (BB false) (AB 0) b QR):AG1 R N O T t0 t1 s QR:=
 pC MU cF h
theorem AFj (h :
 xF R s t3 3 λb=>
 BO s b λc=>
 xI .lss t7 c λd=>
 AO d (
 AG2 R N O T t0 t3 t5 t6 t7 s QR) (
 x9 R N O T t0 t5 t6 s QR)):mR R N O T t0 t3 t5 t6 t7 s QR:=
 pL MU cF h
theorem ARV (h :
 xF R s t3 3 λb=>
 Bj s 4 b t7 λc=>
 xM R s 4 c λd=>
 xC R 98 N O T 49 [t0,d] s λe f=>
 g0 t6 false f e λg i=>
 g1 t6 false i (BO i g) λk l=>
 g1 t6 false l (xI .eql k (AB 0)) λn o=>
 A8 t6 (BB true) n λp=>
 Ct false o 1 [(.AA [])] 1 [(0,1,e)] λq u=>
(1=1/\1≠0)/\Cx false (lf R 98 N O T) u 32 1 24 t5 q λv w=>
 yA R N O T t0 t3 v p t7 w QR):AG2 R N O T t0 t3 t5 t6 t7 s QR:=
 pC MU cF h
theorem AFk (h :
 AO t6 (
 QR (.AA []) s) (
 AG3 R N O T t0 t5 s QR)):x9 R N O T t0 t5 t6 s QR:=
 pC MU cF h
theorem ARW (h :
 xI .add t7 (AB 1) λa=>
 mR R N O T t0 t3 t5 t6 a s QR):yA R N O T t0 t3 t5 t6 t7 s QR:=
 pC MU cF h
theorem ARY (h :
 Cw Y4 [(0,1,(AB 3))] λa=>
 Cw Y5 [(1,4,a)] λb=>
 Ct true s 5 Y5 1 [(0,5,b)] λc d=>
 cy R N O T t0 t5 c (AB 0) d QR):AG3 R N O T t0 t5 s QR:=
 pC MU cF h
theorem mQ (h :
 BO s t5 λa=>
 xI .lss t10 a λb=>
 AO b (
 AG4 R N O T t0 t5 t9 t10 s QR) (
 AG5 R N O T t9 s QR)):cy R N O T t0 t5 t9 t10 s QR:=
 pL MU cF h
theorem AFi (h :
 mP R N O T t0 t5 t9 t10 (.AA []) (AB 0) s QR):AG4 R N O T t0 t5 t9 t10 s QR:=
 pC MU cF h
theorem AFh (h :
 QR t9 s):AG5 R N O T t9 s QR:=
 pC MU cF h
theorem xy (h :
 BO s t9 λa=>
 xI .lss t12 a λb=>
 AO b (
 AAF R N O T t0 t5 t9 t10 t11 t12 s QR) (
 iX R N O T t0 t5 t10 t11 s QR)):mP R N O T t0 t5 t9 t10 t11 t12 s QR:=
 pL MU cF h
theorem AMF (h :
 ZE R N O T t0 t5 t9 t10 t11 t12 (AB 0) s QR):AAF R N O T t0 t5 t9 t10 t11 t12 s QR:=
 pC MU cF h
theorem xz (h :
 xC R 98 N O T 99 [t0,t11] s λa b=>
 AAG R N O T t0 t5 a t10 b QR):iX R N O T t0 t5 t10 t11 s QR:=
 pC MU cF h
theorem xx (h :
 Bj s 1 t5 t10 λa=>
 xL R s a λb=>
 BO s b λc=>
 xI .lss t13 c λd=>
 AO d (
 iT R N O T t0 t5 t9 t10 t11 t12 t13 s QR) (
 iW R N O T t0 t5 t9 t10 t11 t12 s QR)):ZE R N O T t0 t5 t9 t10 t11 t12 t13 s QR:=
 pL MU cF h
theorem x7 (h :
 xI .add t10 (AB 1) λa=>
 cy R N O T t0 t5 t9 a s QR):AAG R N O T t0 t5 t9 t10 s QR:=
 pC MU cF h
theorem AMC (h :
 Bj s 5 t9 t12 λa=>
 xM R s 5 a λb=>
 Cl s Y5 λc d=>
 Ci (lf R 98 N O T) d 5 c b λe=>
 Ct false (⟨e.bs++[Y4],e.ts⟩:AL) 4 Y4 0 [] λf g=>
 Ax (⟨e.bs++[Y4],e.ts⟩:AL) c 1 λi=>
 Ax (⟨e.bs++[Y4],e.ts⟩:AL) i 3 λj=>
 FC (env R) (⟨e.bs++[Y4],e.ts⟩:AL) none j λk=>
(4=4/\4≠0)/\Cx false (lf R 98 N O T) (⟨e.bs++[Y4],e.ts⟩:AL) 25 4 56 f k λl m=>
 Bj m 1 t5 t10 λn=>
 xL R m n λo=>
 Bj m 5 o t13 λp=>
 Ax m p 1 λq=>
 xM R m 4 q λu=>
 Ax m c 0 λw=>
 xL R m w λx=>
 BO m x λy=>
 xC R 98 N O T 112 [u,y] m λz aa=>
 Ct false aa 4 Y4 1 [(0,4,z)] λab ac=>
(4=4/\4≠0)/\Cx false (lf R 98 N O T) aa 25 4 56 l ab λad ae=>
 Cw Y4 [(0,1,(AB 3)),(3,1,ad)] λaf=>
 Ci (lf R 98 N O T) ae 4 (.ptr e.bs.length 0) af λag=>
(Bj (⟨e.bs++[Y4],e.ts⟩:AL) 1 t5 t10 λah=>Bl ah n=true) /\
(FC (env R) (⟨e.bs++[Y4],e.ts⟩:AL) none n λai=>Bl ai o=true) /\
(Bj (⟨e.bs++[Y4],e.ts⟩:AL) 5 o t13 λaj=>Bl aj p=true) /\
(Ax (⟨e.bs++[Y4],e.ts⟩:AL) p 1 λak=>Bl ak q=true) /\
(FC (env R) (⟨e.bs++[Y4],e.ts⟩:AL) (some 4) q λal=>Bl al u=true) /\
(Ax (⟨e.bs++[Y4],e.ts⟩:AL) c 0 λam=>Bl am w=true) /\
(FC (env R) (⟨e.bs++[Y4],e.ts⟩:AL) none w λan=>Bl an x=true) /\
(BO (⟨e.bs++[Y4],e.ts⟩:AL) x λao=>Bl ao y=true) /\
(wO (IL (.ptr e.bs.length 0)) λid=>wO (⟨e.bs++[Y4],e.ts⟩:AL).bs[id]? λcs'=>IM cs' Y4=true) /\
(wO (IL (.ptr e.bs.length 0)) λid=>wO m.bs[id]? λcs'=>IM cs' Y4=true) /\
(wO (IL (.ptr e.bs.length 0)) λid=>wO aa.bs[id]? λcs'=>IM cs' Y4=true) /\
(wO (IL (.ptr e.bs.length 0)) λid=>wO ae.bs[id]? λcs'=>IM cs' Y4=true) /\
 Ct false ag 4 Y4 0 [] λap aq=>
 xF R ag c 0 λau=>
(4=4/\4≠0)/\Cx false (lf R 98 N O T) ag 25 4 56 ap au λav aw=>
 Bj aw 1 t5 t10 λax=>
 xL R aw ax λay=>
 Bj aw 5 ay t13 λaz=>
 Ax aw az 0 λa0=>
 xL R aw a0 λa1=>
(4=4/\4≠0)/\Cx false (lf R 98 N O T) aw 25 4 56 av a1 λa2 a3=>
 xM R a3 4 (.ptr e.bs.length 0) λa4=>
 Cw Y5 [(0,1,a2),(1,4,a4)] λa5=>
 Ct true a3 5 Y5 1 [(0,5,a5)] λa6 a7=>
(5=5/\5≠0)/\Cx true (lf R 98 N O T) a7 45 5 80 t11 a6 λa8 a9=>
(Bj ag 1 t5 t10 λba=>Bl ba ax=true) /\
(xL R ag ax λbb=>Bl bb ay=true) /\
(Bj ag 5 ay t13 λbc=>Bl bc az=true) /\
(Ax ag az 0 λbd=>Bl bd a0=true) /\
(xL R ag a0 λbe=>Bl be a1=true) /\
(xM R ag 4 (.ptr e.bs.length 0) λbf=>Bl bf a4=true) /\
(xM R aw 4 (.ptr e.bs.length 0) λbg=>Bl bg a4=true) /\
 iR R N O T t0 t5 t9 t10 a8 t12 t13 a9 QR):iT R N O T t0 t5 t9 t10 t11 t12 t13 s QR:=
 pC MU cF h
theorem AMG (h :
 xI .add t12 (AB 1) λa=>
 mP R N O T t0 t5 t9 t10 t11 a s QR):iW R N O T t0 t5 t9 t10 t11 t12 s QR:=
 pC MU cF h
theorem AMD (h :
 xI .add t13 (AB 1) λa=>
 ZE R N O T t0 t5 t9 t10 t11 t12 a s QR):iR R N O T t0 t5 t9 t10 t11 t12 t13 s QR:=
 pC MU cF h
theorem m98 {L:A3} {Post:AV->AL->Prop} (hn:Bo [t0,t1]=false) (h:AG1 R 0 L.ro L.rt t0 t1 s (QM (L.rr 98) s.bs.length Post)):∃v s',Post v s'/\BA (env R) L 98 [t0,t1] s v s':=
 hM Tryz.func98 hn h
theorem ARM (h :
 Cz s t0 λa=>
 xF R s a 0 λc=>
 g0 c true s t1 λd e=>
 g1 c true e (BO e d) λg i=>
 g1 c true i (xI .gtr g (AB 32)) λk l=>
 A8 c k (BB false) λm=>
 AO m (
 Cz l t0 λn=>
 Ax l n 1 λo=>
 Ci (lf R 99 N O T) l 1 o (BB true) λp=>
 mN R N O T t0 t1 p QR) (
 mN R N O T t0 t1 l QR)):AG6 R N O T t0 t1 s QR:=
 pC AMc cF h
theorem AFe (h :
 Cz s t0 λa=>
 xF R s a 1 λc=>
 AO c (
 QR (.AA []) s) (
 AG7 R N O T t1 s QR)):mN R N O T t0 t1 s QR:=
 pC AMc cF h
theorem ARO (h :
 QR t1 s):AG7 R N O T t1 s QR:=
 pC AMc cF h
theorem m99 {L:A3} {Post:AV->AL->Prop} (hn:Bo [t0,t1]=false) (h:AG6 R 0 L.ro L.rt t0 t1 s (QM (L.rr 99) s.bs.length Post)):∃v s',Post v s'/\BA (env R) L 99 [t0,t1] s v s':=
 hM Tryz.func99 hn h
theorem AL9 (h :
 Bs s t1 λa b=>
 Bs b t2 λc d=>
 xF R d a 0 λf=>
 BO d f λg=>
 xG R d a 1 4 λj=>
 xC R 100 N O T 128 [j,g] d λk l=>
 Cl l Y4 λm n=>
 Ci (lf R 100 N O T) n 4 m k λo=>
 xM R o 4 m λp=>
 xC R 100 N O T 66 [p,g] o λq u=>
 AO q (
 Ct false u 4 Y4 0 [] λw x=>
 xF R u a 0 λz=>
(4=4/\4≠0)/\Cx false (lf R 100 N O T) u 25 4 56 w z λaa ab=>
 xM R ab 4 c λac=>
 Ct false ab 4 Y4 1 [(0,4,ac)] λad ae=>
(4=4/\4≠0)/\Cx false (lf R 100 N O T) ab 25 4 56 aa ad λaf ag=>
 xM R ag 4 m λah=>
 Cw Y5 [(0,1,af),(1,4,ah)] λai=>
 Ct true ag 5 Y5 1 [(0,5,ai)] λaj ak=>
(xM R u 4 c λal=>Bl al ac=true) /\
(xM R u 4 m λam=>Bl am ah=true) /\
(xM R ab 4 m λan=>Bl an ah=true) /\
 QR aj ak) (
 AAJ R N O T t0 a c g m u QR)):AAI R N O T t0 t1 t2 s QR:=
 pC AAH cF h
theorem AMA (h :
 xM R s 4 t8 λa=>
 xC R 100 N O T 82 [a,t7,(AB 1073741824)] s λb c=>
 Ax c t4 1 λd=>
 Ci (lf R 100 N O T) c 4 d b λe=>
 xM R e 5 t4 λf=>
 xC R 100 N O T 129 [f] e λg i=>
 xI .lss g (AB 0) λj=>
 AO j (
 xM R i 5 t4 λk=>
 Ct true i 5 Y5 1 [(0,5,k)] λl m=>
 QR l m) (
 AAK R N O T t0 t4 t5 i QR)):AAJ R N O T t0 t4 t5 t7 t8 s QR:=
 pC AAH cF h
theorem AMB (h :
 xM R s 5 t4 λa=>
 xM R s 4 t5 λb=>
 xC R 100 N O T 49 [t0,b] s λc d=>
 xC R 100 N O T 130 [t0,a,c] d λe f=>
(xM R d 5 t4 λg=>Bl g a=true) /\
 QR e f):AAK R N O T t0 t4 t5 s QR:=
 pC AAH cF h
theorem AXQ {L:A3} {Post:AV->AL->Prop} (hn:Bo [t0,t1,t2]=false) (h:AAI R 0 L.ro L.rt t0 t1 t2 s (QM (L.rr 100) s.bs.length Post)):∃v s',Post v s'/\BA (env R) L 100 [t0,t1,t2] s v s':=
 hM Tryz.func100 hn h
theorem ALj (h :
 Bs s t0 λa b=>
 Cl b Y4 λc d=>
 xF R d a 0 λf=>
 xI .eql f (AB 5) λg=>
 AO g (
 xF R d a 2 λj=>
 xI .geq j (AB 0) λk=>
 g1 k true d (Ax d a 2) λm n=>
 g1 k true n (xL R n m) λp q=>
 g1 k true q (xI .neq p (AB 1073741824)) λv w=>
 A8 k v (BB false) λx=>
 AO x (
 xF R w a 2 λz=>
 xI .add z t1 λaa=>
 Ax w a 2 λab=>
 Ci (lf R 112 N O T) w 1 ab aa λac=>
 Y7 R N O T a c ac QR) (
 Y7 R N O T a c w QR)) (
 AAM R N O T t1 a c d QR)):iD R N O T t0 t1 s QR:=
 pC AAL cF h
theorem xV (h :
 xM R s 4 t2 λa=>
 Ci (lf R 112 N O T) s 4 t4 a λb=>
 xM R b 4 t4 λc=>
 QR c b):Y7 R N O T t2 t4 s QR:=
 pC AAL cF h
theorem ALk (h :
 xM R s 4 t2 λa=>
 xC R 112 N O T 127 [a,(AB 0),t1] s λb c=>
 Ci (lf R 112 N O T) c 4 t4 b λd=>
 xM R d 4 t4 λe=>
 QR e d):AAM R N O T t1 t2 t4 s QR:=
 pC AAL cF h
theorem AXF {u0 u1:AV} {Post:AV->Prop} (Bi:AX [] 0 0 [t0,t1]=some [u0,u1]) (h:iD R 0 0 0 u0 u1 ⟨[],[]⟩ (QP Post)):AM (env R) 112 [t0,t1] Post:=
 hR Tryz.func112 Bi h
theorem AQ4 (h :
 Bs s t0 λa b=>
 Cl b Y4 λc d=>
 xF R d a 0 λf=>
 xI .eql f (AB 5) λg=>
 AO g (
 xF R d a 2 λj=>
 xI .sub (AB (-1)) j λk=>
 xC R 97 N O T 25 [k] d λl m=>
 Ci (lf R 97 N O T) m 4 c l λn=>
 xM R n 4 c λo=>
 QR o n) (
 AG8 R N O T a c d QR)):xW R N O T t0 s QR:=
 pC ATX cF h
theorem AQ5 (h :
 xM R s 4 t1 λa=>
 xC R 97 N O T 127 [a,(AB 1),(AB 0)] s λb c=>
 Ci (lf R 97 N O T) c 4 t2 b λd=>
 xM R d 4 t2 λe=>
 QR e d):AG8 R N O T t1 t2 s QR:=
 pC ATX cF h
theorem e97 {u0:AV} {Post:AV->Prop} (Bi:AX [] 0 0 [t0]=some [u0]) (h:xW R 0 0 0 u0 ⟨[],[]⟩ (QP Post)):AM (env R) 97 [t0] Post:=
 hR Tryz.func97 Bi h
theorem ALh (h :
 Bs s t0 λa b=>
 Cl b Y4 λc d=>
 xF R d a 0 λf=>
 xI .neq f (AB 3) λg=>
 g1 g true d (Ax d a 0) λj k=>
 g1 g true k (xL R k j) λm n=>
 g1 g true n (xI .neq m (AB 2)) λp q=>
 A8 g p (BB false) λu=>
 AO u (
 xM R q 4 a λv=>
 Ci (lf R 127 N O T) q 4 c v λw=>
 xM R w 4 c λx=>
 QR x w) (
 iC R N O T t1 t2 a c q QR)):iB R N O T t0 t1 t2 s QR:=
 pC XI cF h
theorem ALi (h :
 xM R s 4 t3 λa=>
 Cl s Y4 λb c=>
 Ci (lf R 127 N O T) c 4 b a λd=>
 Ax d b 3 λe=>
 Ci (lf R 127 N O T) d 1 e (.AA []) λf=>
 Y3 R N O T t1 t2 t3 t6 b (AB 0) f QR):iC R N O T t1 t2 t3 t6 s QR:=
 pC XI cF h
theorem xU (h :
 xF R s t3 3 λb=>
 BO s b λc=>
 xI .lss t8 c λd=>
 AO d (
 AAN R N O T t1 t2 t3 t6 t7 t8 s QR) (
 AAO R N O T t6 t7 s QR)):Y3 R N O T t1 t2 t3 t6 t7 t8 s QR:=
 pL XI cF h
theorem ALg (h :
 xI .eql t1 (AB 0) λa=>
 AO a (
 Ax s t7 3 λb=>
 xL R s b λc=>
 xF R s t3 3 λe=>
 Bj s 4 e t8 λf=>
 xM R s 4 f λg=>
 xC R 127 N O T 112 [g,t2] s λi j=>
 Ct false j 4 Y4 1 [(0,4,i)] λk l=>
(4=4/\4≠0)/\Cx false (lf R 127 N O T) j 25 4 56 c k λm n=>
 Ax n t7 3 λo=>
 Ci (lf R 127 N O T) n 1 o m λp=>
(Ax j t7 3 λq=>Bl q b=true) /\
(xL R j b λu=>Bl u c=true) /\
 UQ R N O T t1 t2 t3 t6 t7 t8 p QR) (
 xI .eql t1 (AB 1) λw=>
 AO w (
 Ax s t7 3 λx=>
 xL R s x λy=>
 xF R s t3 3 λaa=>
 Bj s 4 aa t8 λab=>
 xM R s 4 ab λac=>
 xC R 127 N O T 97 [ac] s λad ae=>
 Ct false ae 4 Y4 1 [(0,4,ad)] λaf ag=>
(4=4/\4≠0)/\Cx false (lf R 127 N O T) ae 25 4 56 y af λah ai=>
 Ax ai t7 3 λaj=>
 Ci (lf R 127 N O T) ai 1 aj ah λak=>
(Ax ae t7 3 λal=>Bl al x=true) /\
(xL R ae x λam=>Bl am y=true) /\
 UQ R N O T t1 t2 t3 t6 t7 t8 ak QR) (
 Ax s t7 3 λan=>
 xL R s an λao=>
 xF R s t3 3 λaq=>
 Bj s 4 aq t8 λar=>
 xM R s 4 ar λau=>
 xC R 127 N O T 128 [au,t2] s λav aw=>
 Ct false aw 4 Y4 1 [(0,4,av)] λax ay=>
(4=4/\4≠0)/\Cx false (lf R 127 N O T) aw 25 4 56 ao ax λaz a0=>
 Ax a0 t7 3 λa1=>
 Ci (lf R 127 N O T) a0 1 a1 az λa2=>
(Ax aw t7 3 λa3=>Bl a3 an=true) /\
(xL R aw an λa4=>Bl a4 ao=true) /\
 UQ R N O T t1 t2 t3 t6 t7 t8 a2 QR))):AAN R N O T t1 t2 t3 t6 t7 t8 s QR:=
 pC XI cF h
theorem ALe (h :
 xM R s 4 t7 λa=>
 Ci (lf R 127 N O T) s 4 t6 a λb=>
 xM R b 4 t6 λc=>
 QR c b):AAO R N O T t6 t7 s QR:=
 pC XI cF h
theorem ALf (h :
 xI .add t8 (AB 1) λa=>
 Y3 R N O T t1 t2 t3 t6 t7 a s QR):UQ R N O T t1 t2 t3 t6 t7 t8 s QR:=
 pC XI cF h
theorem AXE {u0 u1 u2:AV} {Post:AV->Prop} (Bi:AX [] 0 0 [t0,t1,t2]=some [u0,u1,u2]) (h:iB R 0 0 0 u0 u1 u2 ⟨[],[]⟩ (QP Post)):AM (env R) 127 [t0,t1,t2] Post:=
 hR Tryz.func127 Bi h
theorem ALl (h :
 Bs s t0 λa b=>
 Cl b Y4 λc d=>
 xF R d a 0 λf=>
 xI .eql f (AB 5) λg=>
 AO g (
 xF R d a 2 λj=>
 xI .eql j (AB (-1)) λk=>
 AO k (
 xC R 128 N O T 25 [t1] d λl m=>
 Ci (lf R 128 N O T) m 4 c l λn=>
 xM R n 4 c λo=>
 QR o n) (
 xF R d a 2 λq=>
 xI .lss q (AB 0) λu=>
 AO u (
 xF R d a 2 λw=>
 xI .add w (AB 1) λx=>
 xC R 128 N O T 25 [x] d λy z=>
 Ci (lf R 128 N O T) z 4 c y λaa=>
 xM R aa 4 c λab=>
 QR ab aa) (
 AAQ R N O T a c d QR))) (
 AAR R N O T t1 a c d QR)):iE R N O T t0 t1 s QR:=
 pC AAP cF h
theorem ALm (h :
 xM R s 4 t2 λa=>
 Ci (lf R 128 N O T) s 4 t4 a λb=>
 xM R b 4 t4 λc=>
 QR c b):AAQ R N O T t2 t4 s QR:=
 pC AAP cF h
theorem ALn (h :
 xM R s 4 t2 λa=>
 xC R 128 N O T 127 [a,(AB 2),t1] s λb c=>
 Ci (lf R 128 N O T) c 4 t4 b λd=>
 xM R d 4 t4 λe=>
 QR e d):AAR R N O T t1 t2 t4 s QR:=
 pC AAP cF h
theorem AXG {u0 u1:AV} {Post:AV->Prop} (Bi:AX [] 0 0 [t0,t1]=some [u0,u1]) (h:iE R 0 0 0 u0 u1 ⟨[],[]⟩ (QP Post)):AM (env R) 128 [t0,t1] Post:=
 hR Tryz.func128 Bi h
theorem AQz (h :
 Bs s t0 λa b=>
 Cl b Y4 λc d=>
 xF R d a 0 λf=>
 xI .eql f (AB 5) λg=>
 AO g (
 xF R d a 2 λj=>
 xI .eql j t1 λk=>
 AO k (
 xC R 82 N O T 25 [t2] d λl m=>
 Ci (lf R 82 N O T) m 4 c l λn=>
 xM R n 4 c λo=>
 QR o n) (
 AHB R N O T a c d QR)) (
 AHC R N O T t1 t2 a c d QR)):xS R N O T t0 t1 t2 s QR:=
 pC dM cF h
theorem AQ0 (h :
 xM R s 4 t3 λa=>
 Ci (lf R 82 N O T) s 4 t6 a λb=>
 xM R b 4 t6 λc=>
 QR c b):AHB R N O T t3 t6 s QR:=
 pC dM cF h
theorem AQ1 (h :
 xF R s t3 0 λb=>
 xI .neq b (AB 3) λc=>
 g1 c true s (Ax s t3 0) λe f=>
 g1 c true f (xL R f e) λi j=>
 g1 c true j (xI .neq i (AB 2)) λl m=>
 A8 c l (BB false) λn=>
 AO n (
 xM R m 4 t3 λo=>
 Ci (lf R 82 N O T) m 4 t6 o λp=>
 xM R p 4 t6 λq=>
 QR q p) (
 xT R N O T t1 t2 t3 t6 m QR)):AHC R N O T t1 t2 t3 t6 s QR:=
 pC dM cF h
theorem AQ2 (h :
 xM R s 4 t3 λa=>
 Cl s Y4 λb c=>
 Ci (lf R 82 N O T) c 4 b a λd=>
 Ax d b 3 λe=>
 Ci (lf R 82 N O T) d 1 e (.AA []) λf=>
 l8 R N O T t1 t2 t3 t6 b (AB 0) f QR):xT R N O T t1 t2 t3 t6 s QR:=
 pC dM cF h
theorem AFb (h :
 xF R s t3 3 λb=>
 BO s b λc=>
 xI .lss t8 c λd=>
 AO d (
 AHD R N O T t1 t2 t3 t6 t7 t8 s QR) (
 AHE R N O T t6 t7 s QR)):l8 R N O T t1 t2 t3 t6 t7 t8 s QR:=
 pL dM cF h
theorem AQx (h :
 Ax s t7 3 λa=>
 xL R s a λb=>
 xF R s t3 3 λd=>
 Bj s 4 d t8 λe=>
 xM R s 4 e λf=>
 xC R 82 N O T 82 [f,t1,t2] s λg i=>
 Ct false i 4 Y4 1 [(0,4,g)] λj k=>
(4=4/\4≠0)/\Cx false (lf R 82 N O T) i 25 4 56 b j λl m=>
 Ax m t7 3 λn=>
 Ci (lf R 82 N O T) m 1 n l λo=>
(Ax i t7 3 λp=>Bl p a=true) /\
(xL R i a λq=>Bl q b=true) /\
 AHF R N O T t1 t2 t3 t6 t7 t8 o QR):AHD R N O T t1 t2 t3 t6 t7 t8 s QR:=
 pC dM cF h
theorem AQw (h :
 xM R s 4 t7 λa=>
 Ci (lf R 82 N O T) s 4 t6 a λb=>
 xM R b 4 t6 λc=>
 QR c b):AHE R N O T t6 t7 s QR:=
 pC dM cF h
theorem AQy (h :
 xI .add t8 (AB 1) λa=>
 l8 R N O T t1 t2 t3 t6 t7 a s QR):AHF R N O T t1 t2 t3 t6 t7 t8 s QR:=
 pC dM cF h
theorem e82 {u0 u1 u2:AV} {Post:AV->Prop} (Bi:AX [] 0 0 [t0,t1,t2]=some [u0,u1,u2]) (h:xS R 0 0 0 u0 u1 u2 ⟨[],[]⟩ (QP Post)):AM (env R) 82 [t0,t1,t2] Post:=
 hR Tryz.func82 Bi h
theorem ALz (h :
 Bs s t0 λa b=>
 Bs b t2 λc d=>
 Cl d Y4 λe f=>
 xF R f a 0 λi=>
 xI .eql i (AB 5) λj=>
 AO j (
 Cz f t1 λk=>
 xL R f k λl=>
 xI .sub l (AB 1) λm=>
 Cz f t1 λn=>
 Ci (lf R 111 N O T) f 1 n m λo=>
 Cz o t1 λp=>
 xL R o p λq=>
 xI .eql q (AB (-1)) λu=>
 AO u (
 xM R o 4 c λv=>
 Ci (lf R 111 N O T) o 4 e v λw=>
 xM R w 4 e λx=>
 QR x w) (
 AAT R N O T a e o QR)) (
 AAU R N O T t1 a c e f QR)):AAS R N O T t0 t1 t2 s QR:=
 pC RJ cF h
theorem AL0 (h :
 xM R s 4 t3 λa=>
 Ci (lf R 111 N O T) s 4 t6 a λb=>
 xM R b 4 t6 λc=>
 QR c b):AAT R N O T t3 t6 s QR:=
 pC RJ cF h
theorem AL1 (h :
 xF R s t3 0 λb=>
 xI .neq b (AB 3) λc=>
 AO c (
 xM R s 4 t3 λd=>
 Ci (lf R 111 N O T) s 4 t6 d λe=>
 xM R e 4 t6 λf=>
 QR f e) (
 AAV R N O T t1 t3 t5 t6 s QR)):AAU R N O T t1 t3 t5 t6 s QR:=
 pC RJ cF h
theorem AL2 (h :
 xM R s 4 t3 λa=>
 Cl s Y4 λb c=>
 Ci (lf R 111 N O T) c 4 b a λd=>
 Ax d b 3 λe=>
 Ci (lf R 111 N O T) d 1 e (.AA []) λf=>
 UX R N O T t1 t3 t5 t6 b (AB 0) f QR):AAV R N O T t1 t3 t5 t6 s QR:=
 pC RJ cF h
theorem xl (h :
 xF R s t3 3 λb=>
 BO s b λc=>
 xI .lss t8 c λd=>
 AO d (
 AAW R N O T t1 t3 t5 t6 t7 t8 s QR) (
 AAX R N O T t6 t7 s QR)):UX R N O T t1 t3 t5 t6 t7 t8 s QR:=
 pL RJ cF h
theorem ALx (h :
 Ax s t7 3 λa=>
 xL R s a λb=>
 xF R s t3 3 λd=>
 Bj s 4 d t8 λe=>
 xM R s 4 e λf=>
 xM R s 4 t5 λg=>
 xC R 111 N O T 111 [f,t1,g] s λi j=>
 Ct false j 4 Y4 1 [(0,4,i)] λk l=>
(4=4/\4≠0)/\Cx false (lf R 111 N O T) j 25 4 56 b k λm n=>
 Ax n t7 3 λo=>
 Ci (lf R 111 N O T) n 1 o m λp=>
(Ax j t7 3 λq=>Bl q a=true) /\
(xL R j a λu=>Bl u b=true) /\
 AAY R N O T t1 t3 t5 t6 t7 t8 p QR):AAW R N O T t1 t3 t5 t6 t7 t8 s QR:=
 pC RJ cF h
theorem ALw (h :
 xM R s 4 t7 λa=>
 Ci (lf R 111 N O T) s 4 t6 a λb=>
 xM R b 4 t6 λc=>
 QR c b):AAX R N O T t6 t7 s QR:=
 pC RJ cF h
theorem ALy (h :
 xI .add t8 (AB 1) λa=>
 UX R N O T t1 t3 t5 t6 t7 a s QR):AAY R N O T t1 t3 t5 t6 t7 t8 s QR:=
 pC RJ cF h
theorem AXJ {L:A3} {Post:AV->AL->Prop} (hn:Bo [t0,t1,t2]=false) (h:AAS R 0 L.ro L.rt t0 t1 t2 s (QM (L.rr 111) s.bs.length Post)):∃v s',Post v s'/\BA (env R) L 111 [t0,t1,t2] s v s':=
 hM Tryz.func111 hn h
theorem ARF (h :
 Bs s t0 λa b=>
 Bs b t1 λc d=>
 Bs d t2 λe f=>
 Cl f Y5 λg i=>
 Ct false i 4 Y4 0 [] λj k=>
 xF R i a 0 λm=>
(4=4/\4≠0)/\Cx false (lf R 78 N O T) i 25 4 56 j m λn o=>
 Ax o e 0 λp=>
 xL R o p λq=>
(4=4/\4≠0)/\Cx false (lf R 78 N O T) o 25 4 56 n q λu w=>
 Ax w a 1 λx=>
 xM R w 4 x λy=>
 Ax w e 1 λz=>
 xM R w 4 z λaa=>
 Ax w a 0 λab=>
 xL R w ab λac=>
 BO w ac λad=>
 xC R 78 N O T 112 [aa,ad] w λae af=>
 xC R 78 N O T 111 [y,c,ae] af λag ah=>
 Cw Y5 [(0,1,u),(1,4,ag)] λai=>
 Ci (lf R 78 N O T) ah 5 g ai λaj=>
(Ax i e 0 λak=>Bl ak p=true) /\
(xL R i p λal=>Bl al q=true) /\
(Ax i a 1 λam=>Bl am x=true) /\
(Ax o a 1 λan=>Bl an x=true) /\
(Ax af a 1 λao=>Bl ao x=true) /\
(xM R i 4 x λap=>Bl ap y=true) /\
(xM R o 4 x λaq=>Bl aq y=true) /\
(xM R af 4 x λar=>Bl ar y=true) /\
(Ax i e 1 λau=>Bl au z=true) /\
(Ax o e 1 λav=>Bl av z=true) /\
(xM R i 4 z λaw=>Bl aw aa=true) /\
(xM R o 4 z λax=>Bl ax aa=true) /\
(Ax i a 0 λay=>Bl ay ab=true) /\
(Ax o a 0 λaz=>Bl az ab=true) /\
(xL R i ab λa0=>Bl a0 ac=true) /\
(xL R o ab λa1=>Bl a1 ac=true) /\
(BO i ac λa2=>Bl a2 ad=true) /\
(BO o ac λba=>Bl ba ad=true) /\
 xM R aj 5 g λbb=>
 QR bb aj):mH R N O T t0 t1 t2 s QR:=
 pC AYx cF h
theorem e78 {Post:AV->Prop} (hn:Bo [t0,t1,t2]=true) (h:mH R 0 0 0 t0 t1 t2 ⟨[],[]⟩ (QP Post)):AM (env R) 78 [t0,t1,t2] Post:=
 HM (fn:=Tryz.f78) (body:=b78) Tryz.func78 (by kernel_rfl) (by kernel_rfl) (by kernel_rfl) (Cm (by kernel_rfl)) hn (nO h (by kernel_rfl))
theorem m78 {L:A3} {Post:AV->AL->Prop} (hn:Bo [t0,t1,t2]=false) (h:mH R 0 L.ro L.rt t0 t1 t2 s (QM (L.rr 78) s.bs.length Post)):∃v s',Post v s'/\BA (env R) L 78 [t0,t1,t2] s v s':=
 hM Tryz.func78 hn h
theorem ALv (h :
 Bs s t0 λa b=>
 xG R b a 1 4 λd=>
 xC R 129 N O T 76 [d] b λe f=>
 Y9 R N O T e (AB 0) f QR):AAb R N O T t0 s QR:=
 pC dQ cF h
theorem xh (h :
 BO s t3 λa=>
 xI .lss t4 a λb=>
 AO b (
 AAc R N O T t3 t4 s QR) (
 AAd R N O T  s QR)):Y9 R N O T t3 t4 s QR:=
 pL dQ cF h
theorem ALt (h :
 Bj s 1 t3 t4 λa=>
 xL R s a λb=>
 xI .eql b (AB 1073741824) λc=>
 AO c (
 QR t4 s) (
 AAe R N O T t3 t4 s QR)):AAc R N O T t3 t4 s QR:=
 pC dQ cF h
theorem ALs (h :
 QR (AB (-1)) s):AAd R N O T  s QR:=
 pC dQ cF h
theorem ALu (h :
 xI .add t4 (AB 1) λa=>
 Y9 R N O T t3 a s QR):AAe R N O T t3 t4 s QR:=
 pC dQ cF h
theorem AXI {u0:AV} {Post:AV->Prop} (Bi:AX [] 0 0 [t0]=some [u0]) (h:AAb R 0 0 0 u0 ⟨[],[]⟩ (QP Post)):AM (env R) 129 [t0] Post:=
 hR Tryz.func129 Bi h
theorem xq (h :
 Bs s t1 λa b=>
 xM R b 5 a λc=>
 xC R 130 N O T 129 [c] b λd e=>
 xI .lss d (AB 0) λf=>
 AO f (
 xM R e 5 a λg=>
 Ct true e 5 Y5 1 [(0,5,g)] λi j=>
 QR i j) (
 AAg R N O T t0 t2 a d e QR)):AAf R N O T t0 t1 t2 s QR:=
 pC XJ cF h
theorem AL7 (h :
 UZ R N O T t0 t2 t4 t7 (.AA []) (AB 0) s QR):AAg R N O T t0 t2 t4 t7 s QR:=
 pC XJ cF h
theorem iM (h :
 BO s t2 λa=>
 xI .lss t9 a λb=>
 g0 b true s t0 λc d=>
 g1 b true d (Cz d c) λf g=>
 g1 b true g (Ax g f 1) λj k=>
 g1 b true k (xL R k j) λm n=>
 g1 b true n (Dv m) λp q=>
 A8 b p (BB false) λu=>
 AO u (
 AAh R N O T t0 t2 t4 t7 t8 t9 q QR) (
 AAi R N O T t8 q QR)):UZ R N O T t0 t2 t4 t7 t8 t9 s QR:=
 pL XJ cF h
theorem AL5 (h :
 xM R s 5 t4 λa=>
 Bj s 5 t2 t9 λb=>
 xM R s 5 b λc=>
 xC R 130 N O T 78 [a,t7,c] s λd e=>
 xC R 130 N O T 130 [t0,d,t2] e λf g=>
(5=5/\5≠0)/\Cx true (lf R 130 N O T) g 45 5 80 t8 f λi j=>
 Cz j t0 λk=>
 xF R j k 0 λm=>
 g0 m true j i λn o=>
 g1 m true o (BO o n) λq u=>
 g1 m true u (xI .gtr q (AB 32)) λw x=>
 A8 m w (BB false) λy=>
 AO y (
 Cz x t0 λz=>
 Ax x z 1 λaa=>
 Ci (lf R 130 N O T) x 1 aa (BB true) λab=>
 ZB R N O T t0 t2 t4 t7 i t9 ab QR) (
 ZB R N O T t0 t2 t4 t7 i t9 x QR)):AAh R N O T t0 t2 t4 t7 t8 t9 s QR:=
 pC XJ cF h
theorem iP (h :
 QR t8 s):AAi R N O T t8 s QR:=
 pC XJ cF h
theorem iQ (h :
 xI .add t9 (AB 1) λa=>
 UZ R N O T t0 t2 t4 t7 t8 a s QR):ZB R N O T t0 t2 t4 t7 t8 t9 s QR:=
 pC XJ cF h
theorem ARL {L:A3} {Post:AV->AL->Prop} (hn:Bo [t0,t1,t2]=false) (h:AAf R 0 L.ro L.rt t0 t1 t2 s (QM (L.rr 130) s.bs.length Post)):∃v s',Post v s'/\BA (env R) L 130 [t0,t1,t2] s v s':=
 hM Tryz.func130 hn h
end
noncomputable section
section
variable (R:RT) (N O T:Nat) (t0 t1 t2 t3 t5 t6 t7 t8 t9:AV)
noncomputable def b35:Code:=Tryz.f35.body.getD .skip
def AYy:Nat->List Nat:=ln [[],[2,3]]
abbrev Q35:=Wq R N O T 35 9 [.tmp 4]
def AHG:=Q35 R N O T (aT b35 1) [(0,t0),(1,t1)]
noncomputable def b79:Code:=Tryz.f79.body.getD .skip
def qR:Nat->List Nat:=ln ([]::[2,3]::[2,3,7]::[]::[2,3,19]::[]::[2,3,31]::[]::[2,3,43]::[2,3]::rp 3 [2,3,5] [[2,3,5,6],[2,3,5,6,78],[]])
abbrev Q79:=Wq R N O T 79 80 [.tmp 4]
def vW:=Q79 R N O T (aT b79 1) [(0,t0),(1,t1)]
def AHH:=Q79 R N O T (aT b79 7) [(2,t2),(3,t3)]
def kV:=Q79 R N O T (aT b79 58) [(2,t2),(3,t3),(5,t5)]
def AHI:=Q79 R N O T (aT b79 233) [(2,t2),(3,t3),(5,t5)]
def AHJ:=Q79 R N O T (aT b79 15) []
def AHK:=Q79 R N O T (aT b79 467) [(2,t2),(3,t3),(5,t5)]
noncomputable def ATY:Code:=Tryz.f113.body.getD .skip
def AHL:Nat->List Nat:=ln [[],[0],[3],[]]
abbrev ATZ:=Wq R N O T 113 4 [.tmp 2]
def AAj:=ATZ R N O T (aT ATY 1) [(0,t0)]
def AAk:=ATZ R N O T (aT ATY 7) []
noncomputable def b63:Code:=Tryz.f63.body.getD .skip
def AYz:Nat->List Nat:=ln [[],[2,3]]
abbrev Q63:=Wq R N O T 63 9 [.tmp 4]
def AHM:=Q63 R N O T (aT b63 1) [(0,t0),(1,t1)]
noncomputable def AAl:Code:=Tryz.f104.body.getD .skip
def dR:Nat->List Nat:=ln [[],[2,3],[2,3,5],[2,3,5,6],[2,3,5,6],[2,3,6],[5]]
abbrev AAm:=Wq R N O T 104 54 [.tmp 4]
def hU:=AAm R N O T (aT AAl 1) [(0,t0),(1,t1)]
def UI:=AAm R N O T (aT AAl 58) [(2,t2),(3,t3),(5,t5),(6,t6)]
def AAn:=AAm R N O T (aT AAl 233) [(2,t2),(3,t3),(6,t6)]
def AAo:=AAm R N O T (aT AAl 15) [(5,t5)]
def AAp:=AAm R N O T (aT AAl 467) [(2,t2),(3,t3),(5,t5),(6,t6)]
noncomputable def AAq:Code:=Tryz.f131.body.getD .skip
def dS:Nat->List Nat:=ln [[],[0],[0,3],[3,6,7,8],[3,6,7,8,9],[3,5,6,7,8],[3,5,6,7,8,14],[3,6,7,8],[3]]
abbrev AAr:=Wq R N O T 131 18 [.tmp 2]
def AAs:=AAr R N O T (aT AAq 1) [(0,t0)]
def Y1:=AAr R N O T (aT AAq 58) [(3,t3),(6,t6),(7,t7),(8,t8)]
def AAt:=AAr R N O T (aT AAq 467) [(3,t3),(6,t6),(7,t7),(8,t8),(9,t9)]
def AAu:=AAr R N O T (aT AAq 15) [(3,t3)]
def AAv:=AAr R N O T (aT AAq 935) [(3,t3),(6,t6),(7,t7),(8,t8)]
noncomputable def qT:Code:=Tryz.f132.body.getD .skip
def dU:Nat->List Nat:=ln [[],[0,1],[0,1,5],[0,1,5,6],[0,1,6,11],[12],[],[0,1,6],[0,1,13],[0,1],[0,1,16],[0,1],[19],[]]
abbrev qU:=Wq R N O T 132 20 [.tmp 4]
def AAw:=qU R N O T (aT qT 1) [(0,t0),(1,t1)]
def AMj:=qU R N O T (aT qT 245) []
def AAx:=qU R N O T (aT qT 31) [(0,t0),(1,t1),(6,t6)]
def AAy:=qU R N O T (aT qT 63) [(0,t0),(1,t1)]
def AAz:=qU R N O T (aT qT 127) [(0,t0),(1,t1)]
def AA0:=qU R N O T (aT qT 255) []
noncomputable def qV:Code:=Tryz.f133.body.getD .skip
def dV:Nat->List Nat:=ln [[],[0,1],[0,1,5],[0,1,5,6],[0,1,6,11],[12],[],[0,1,6],[0,1,13],[0,1],[0,1,16],[0,1],[19],[]]
abbrev qW:=Wq R N O T 133 20 [.tmp 4]
def AA1:=qW R N O T (aT qV 1) [(0,t0),(1,t1)]
def AMk:=qW R N O T (aT qV 245) []
def AA2:=qW R N O T (aT qV 31) [(0,t0),(1,t1),(6,t6)]
def AA3:=qW R N O T (aT qV 63) [(0,t0),(1,t1)]
def AA4:=qW R N O T (aT qV 127) [(0,t0),(1,t1)]
def AA5:=qW R N O T (aT qV 255) []
noncomputable def b17:Code:=Tryz.f17.body.getD .skip
def qX:Nat->List Nat:=ln ([]::[0,1]::[0,1,10]::[0,1]::rp 3 [0,1,5] [[0,1,5,26],[]])
abbrev Q17:=Wq R N O T 17 27 [.tmp 4]
def nC:=Q17 R N O T (aT b17 1) [(0,t0),(1,t1)]
def AHN:=Q17 R N O T (aT b17 7) [(0,t0),(1,t1)]
def nA:=Q17 R N O T (aT b17 58) [(0,t0),(1,t1),(5,t5)]
def AHO:=Q17 R N O T (aT b17 233) [(0,t0),(1,t1),(5,t5)]
def AHP:=Q17 R N O T (aT b17 15) []
def AHQ:=Q17 R N O T (aT b17 467) [(0,t0),(1,t1),(5,t5)]
noncomputable def b32:Code:=Tryz.f32.body.getD .skip
def AY0:Nat->List Nat:=ln [[],[2,3]]
abbrev Q32:=Wq R N O T 32 17 [.tmp 4]
def yR:=Q32 R N O T (aT b32 1) [(0,t0),(1,t1)]
noncomputable def b75:Code:=Tryz.f75.body.getD .skip
def qY:Nat->List Nat:=ln ([]::[0,1]::[0,1,10]::[0,1]::rp 3 [0,1,5] [[0,1,5,26],[]])
abbrev Q75:=Wq R N O T 75 27 [.tmp 4]
def yQ:=Q75 R N O T (aT b75 1) [(0,t0),(1,t1)]
def AHR:=Q75 R N O T (aT b75 7) [(0,t0),(1,t1)]
def mz:=Q75 R N O T (aT b75 58) [(0,t0),(1,t1),(5,t5)]
def AHS:=Q75 R N O T (aT b75 233) [(0,t0),(1,t1),(5,t5)]
def AHT:=Q75 R N O T (aT b75 15) []
def AHU:=Q75 R N O T (aT b75 467) [(0,t0),(1,t1),(5,t5)]
end
variable {R:RT} {N O T:Nat} {s:AL} {QR:QT} {t0 t1 t2 t3 t5 t6 t7 t8 t9:AV}
theorem APL (h :
 Bs s t0 λa b=>
 Bs b t1 λc d=>
 xM R d 4 a λe=>
 xM R d 4 c λf=>
 xC R 35 N O T 79 [e,f] d λg i=>
 xI .eql g (AB 0) λj=>
 QR j i):AHG R N O T t0 t1 s QR:=
 pC AYy cF h
theorem e35 {u0 u1:AV} {Post:AV->Prop} (Bi:AX [] 0 0 [t0,t1]=some [u0,u1]) (h:AHG R 0 0 0 u0 u1 ⟨[],[]⟩ (QP Post)):AM (env R) 35 [t0,t1] Post:=
 hR Tryz.func35 Bi h
theorem APJ (h :
 Bs s t0 λa b=>
 Bs b t1 λc d=>
 xF R d a 0 λf=>
 xF R d c 0 λi=>
 xI .neq f i λj=>
 AO j (
 xF R d a 0 λl=>
 xF R d c 0 λn=>
 xI .lss l n λo=>
 xC R 79 N O T 113 [o] d λp q=>
 QR p q) (
 xF R d a 1 λv=>
 xF R d c 1 λx=>
 GD .neq v x λy=>
 AO y (
 xF R d a 1 λaa=>
 xF R d c 1 λac=>
 GD .lss aa ac λad=>
 xC R 79 N O T 113 [ad] d λae af=>
 QR ae af) (
 xF R d a 2 λah=>
 xF R d c 2 λaj=>
 xI .neq ah aj λak=>
 AO ak (
 xF R d a 2 λam=>
 xF R d c 2 λao=>
 xI .lss am ao λap=>
 xC R 79 N O T 113 [ap] d λaq ar=>
 QR aq ar) (
 xF R d a 3 λav=>
 BO d av λaw=>
 xF R d c 3 λay=>
 BO d ay λaz=>
 xI .neq aw az λa0=>
 AO a0 (
 xF R d a 3 λa4=>
 BO d a4 λa5=>
 xF R d c 3 λa7=>
 BO d a7 λba=>
 xI .lss a5 ba λbb=>
 xC R 79 N O T 113 [bb] d λbc bd=>
 QR bc bd) (
 AHH R N O T a c d QR))))):vW R N O T t0 t1 s QR:=
 pC qR cF h
theorem APK (h :
 kV R N O T t2 t3 (AB 0) s QR):AHH R N O T t2 t3 s QR:=
 pC qR cF h
theorem AE5 (h :
 xF R s t2 3 λb=>
 BO s b λc=>
 xI .lss t5 c λd=>
 AO d (
 AHI R N O T t2 t3 t5 s QR) (
 AHJ R N O T  s QR)):kV R N O T t2 t3 t5 s QR:=
 pL qR cF h
theorem APH (h :
 xF R s t2 3 λb=>
 Bj s 4 b t5 λc=>
 xM R s 4 c λd=>
 xF R s t3 3 λf=>
 Bj s 4 f t5 λg=>
 xM R s 4 g λi=>
 xC R 79 N O T 79 [d,i] s λj k=>
 xI .neq j (AB 0) λl=>
 AO l (
 QR j k) (
 AHK R N O T t2 t3 t5 k QR)):AHI R N O T t2 t3 t5 s QR:=
 pC qR cF h
theorem APG (h :
 QR (AB 0) s):AHJ R N O T  s QR:=
 pC qR cF h
theorem API (h :
 xI .add t5 (AB 1) λa=>
 kV R N O T t2 t3 a s QR):AHK R N O T t2 t3 t5 s QR:=
 pC qR cF h
theorem e79 {u0 u1:AV} {Post:AV->Prop} (Bi:AX [] 0 0 [t0,t1]=some [u0,u1]) (h:vW R 0 0 0 u0 u1 ⟨[],[]⟩ (QP Post)):AM (env R) 79 [t0,t1] Post:=
 hR Tryz.func79 Bi h
theorem AKE (h :
 AO t0 (
 QR (AB (-1)) s) (
 AAk R N O T  s QR)):AAj R N O T t0 s QR:=
 pC AHL cF h
theorem AKF (h :
 QR (AB 1) s):AAk R N O T  s QR:=
 pC AHL cF h
theorem AWH {u0:AV} {Post:AV->Prop} (Bi:AX [] 0 0 [t0]=some [u0]) (h:AAj R 0 0 0 u0 ⟨[],[]⟩ (QP Post)):AM (env R) 113 [t0] Post:=
 hR Tryz.func113 Bi h
theorem AQc (h :
 Bs s t0 λa b=>
 Bs b t1 λc d=>
 xM R d 4 a λe=>
 xM R d 4 c λf=>
 xC R 63 N O T 104 [e,f] d λg i=>
 xI .eql g (AB 0) λj=>
 QR j i):AHM R N O T t0 t1 s QR:=
 pC AYz cF h
theorem e63 {u0 u1:AV} {Post:AV->Prop} (Bi:AX [] 0 0 [t0,t1]=some [u0,u1]) (h:AHM R 0 0 0 u0 u1 ⟨[],[]⟩ (QP Post)):AM (env R) 63 [t0,t1] Post:=
 hR Tryz.func63 Bi h
theorem ALa (h :
 Bs s t0 λa b=>
 Bs b t1 λc d=>
 xF R d a 0 λf=>
 xF R d c 0 λi=>
 xC R 104 N O T 132 [f,i] d λj k=>
 Ax k a 1 λl=>
 xL R k l λm=>
 Ax k c 1 λn=>
 xL R k n λo=>
 xC R 104 N O T 133 [m,o] k λp q=>
 Ax q a 2 λu=>
 xL R q u λw=>
 Ax q c 2 λx=>
 xL R q x λy=>
 xC R 104 N O T 132 [w,y] q λz aa=>
 Ax aa a 3 λab=>
 xL R aa ab λac=>
 BO aa ac λad=>
 Ax aa c 3 λae=>
 xL R aa ae λaf=>
 BO aa af λag=>
 xC R 104 N O T 132 [ad,ag] aa λah ai=>
 Ct false ai 1 [(AB 0)] 4 [(0,1,j),(1,1,p),(2,1,z),(3,1,ah)] λaj ak=>
 xC R 104 N O T 131 [aj] ai λal am=>
(Ax d a 1 λan=>Bl an l=true) /\
(xL R d l λao=>Bl ao m=true) /\
(Ax d c 1 λap=>Bl ap n=true) /\
(xL R d n λaq=>Bl aq o=true) /\
(Ax d a 2 λar=>Bl ar u=true) /\
(Ax k a 2 λau=>Bl au u=true) /\
(xL R d u λav=>Bl av w=true) /\
(xL R k u λaw=>Bl aw w=true) /\
(Ax d c 2 λax=>Bl ax x=true) /\
(Ax k c 2 λay=>Bl ay x=true) /\
(xL R d x λaz=>Bl az y=true) /\
(xL R k x λa0=>Bl a0 y=true) /\
(Ax d a 3 λa1=>Bl a1 ab=true) /\
(Ax k a 3 λa4=>Bl a4 ab=true) /\
(Ax q a 3 λa5=>Bl a5 ab=true) /\
(xL R d ab λa6=>Bl a6 ac=true) /\
(xL R k ab λba=>Bl ba ac=true) /\
(xL R q ab λbb=>Bl bb ac=true) /\
(BO d ac λbc=>Bl bc ad=true) /\
(BO k ac λbd=>Bl bd ad=true) /\
(BO q ac λbe=>Bl be ad=true) /\
(Ax d c 3 λbf=>Bl bf ae=true) /\
(Ax k c 3 λbg=>Bl bg ae=true) /\
(Ax q c 3 λbh=>Bl bh ae=true) /\
(xL R d ae λbi=>Bl bi af=true) /\
(xL R k ae λbj=>Bl bj af=true) /\
(xL R q ae λbk=>Bl bk af=true) /\
(BO d af λbl=>Bl bl ag=true) /\
(BO k af λbm=>Bl bm ag=true) /\
(BO q af λbn=>Bl bn ag=true) /\
 UI R N O T a c al (AB 0) am QR):hU R N O T t0 t1 s QR:=
 pC dR cF h
theorem Y2 (h :
 xI .eql t5 (AB 0) λa=>
 g0 a true s t6 λb c=>
 g1 a true c (Ax c t2 3) λe f=>
 g1 a true f (xL R f e) λi j=>
 g1 a true j (BO j i) λl m=>
 g1 a true m (xI .lss b l) λo p=>
 A8 a o (BB false) λq=>
 AO q (
 AAn R N O T t2 t3 t6 p QR) (
 AAo R N O T t5 p QR)):UI R N O T t2 t3 t5 t6 s QR:=
 pL dR cF h
theorem ALY (h :
 xF R s t2 3 λb=>
 Bj s 4 b t6 λc=>
 xM R s 4 c λd=>
 xF R s t3 3 λf=>
 Bj s 4 f t6 λg=>
 xM R s 4 g λi=>
 xC R 104 N O T 104 [d,i] s λj k=>
 AAp R N O T t2 t3 j t6 k QR):AAn R N O T t2 t3 t6 s QR:=
 pC dR cF h
theorem hO (h :
 QR t5 s):AAo R N O T t5 s QR:=
 pC dR cF h
theorem ALZ (h :
 xI .add t6 (AB 1) λa=>
 UI R N O T t2 t3 t5 a s QR):AAp R N O T t2 t3 t5 t6 s QR:=
 pC dR cF h
theorem AW7 {u0 u1:AV} {Post:AV->Prop} (Bi:AX [] 0 0 [t0,t1]=some [u0,u1]) (h:hU R 0 0 0 u0 u1 ⟨[],[]⟩ (QP Post)):AM (env R) 104 [t0,t1] Post:=
 hR Tryz.func104 Bi h
theorem ALX (h :
 BO s t0 λa=>
 Y1 R N O T (AB 0) t0 a (AB 0) s QR):AAs R N O T t0 s QR:=
 pC dS cF h
theorem xJ (h :
 xI .lss t8 t7 λa=>
 AO a (
 AAt R N O T t3 t6 t7 t8 a s QR) (
 AAu R N O T t3 s QR)):Y1 R N O T t3 t6 t7 t8 s QR:=
 pL dS cF h
theorem ALV (h :
 Bj s 1 t6 t8 λa=>
 xL R s a λb=>
 xI .neq b t3 λc=>
 AO c (
 QR b s) (
 AAv R N O T t3 t6 t7 t8 s QR)):AAt R N O T t3 t6 t7 t8 t9 s QR:=
 pC dS cF h
theorem ALU (h :
 QR t3 s):AAu R N O T t3 s QR:=
 pC dS cF h
theorem ALW (h :
 xI .add t8 (AB 1) λa=>
 Y1 R N O T t3 t6 t7 a s QR):AAv R N O T t3 t6 t7 t8 s QR:=
 pC dS cF h
theorem AW5 {u0:AV} {Post:AV->Prop} (Bi:AX [] 0 0 [t0]=some [u0]) (h:AAs R 0 0 0 u0 ⟨[],[]⟩ (QP Post)):AM (env R) 131 [t0] Post:=
 hR Tryz.func131 Bi h
theorem ALK (h :
 xC R 132 N O T 152 [t0] s λa b=>
 xC R 132 N O T 152 [t1] b λc d=>
 AO a (
 AO c (
 QR (AB 0) d) (
 AMj R N O T  d QR)) (
 AAx R N O T t0 t1 c d QR)):AAw R N O T t0 t1 s QR:=
 pC dU cF h
theorem ALL (h :
 AO t6 (
 QR (AB 1) s) (
 AAy R N O T t0 t1 s QR)):AAx R N O T t0 t1 t6 s QR:=
 pC dU cF h
theorem ALM (h :
 xI .lss t0 t1 λa=>
 AO a (
 QR (AB (-1)) s) (
 AAz R N O T t0 t1 s QR)):AAy R N O T t0 t1 s QR:=
 pC dU cF h
theorem ALN (h :
 xI .gtr t0 t1 λa=>
 AO a (
 QR (AB 1) s) (
 AA0 R N O T  s QR)):AAz R N O T t0 t1 s QR:=
 pC dU cF h
theorem ALO (h :
 QR (AB 0) s):AA0 R N O T  s QR:=
 pC dU cF h
theorem AW3 {u0 u1:AV} {Post:AV->Prop} (Bi:AX [] 0 0 [t0,t1]=some [u0,u1]) (h:AAw R 0 0 0 u0 u1 ⟨[],[]⟩ (QP Post)):AM (env R) 132 [t0,t1] Post:=
 hR Tryz.func132 Bi h
theorem ALP (h :
 xC R 133 N O T 153 [t0] s λa b=>
 xC R 133 N O T 153 [t1] b λc d=>
 AO a (
 AO c (
 QR (AB 0) d) (
 AMk R N O T  d QR)) (
 AA2 R N O T t0 t1 c d QR)):AA1 R N O T t0 t1 s QR:=
 pC dV cF h
theorem ALQ (h :
 AO t6 (
 QR (AB 1) s) (
 AA3 R N O T t0 t1 s QR)):AA2 R N O T t0 t1 t6 s QR:=
 pC dV cF h
theorem ALR (h :
 GD .lss t0 t1 λa=>
 AO a (
 QR (AB (-1)) s) (
 AA4 R N O T t0 t1 s QR)):AA3 R N O T t0 t1 s QR:=
 pC dV cF h
theorem ALS (h :
 GD .gtr t0 t1 λa=>
 AO a (
 QR (AB 1) s) (
 AA5 R N O T  s QR)):AA4 R N O T t0 t1 s QR:=
 pC dV cF h
theorem ALT (h :
 QR (AB 0) s):AA5 R N O T  s QR:=
 pC dV cF h
theorem AW4 {u0 u1:AV} {Post:AV->Prop} (Bi:AX [] 0 0 [t0,t1]=some [u0,u1]) (h:AA1 R 0 0 0 u0 u1 ⟨[],[]⟩ (QP Post)):AM (env R) 133 [t0,t1] Post:=
 hR Tryz.func133 Bi h
theorem ASK (h :
 BO s t0 λa=>
 BO s t1 λb=>
 xI .neq a b λc=>
 AO c (
 QR (BB false) s) (
 AHN R N O T t0 t1 s QR)):nC R N O T t0 t1 s QR:=
 pC qX cF h
theorem ASL (h :
 nA R N O T t0 t1 (AB 0) s QR):AHN R N O T t0 t1 s QR:=
 pC qX cF h
theorem AFv (h :
 BO s t0 λa=>
 xI .lss t5 a λb=>
 AO b (
 AHO R N O T t0 t1 t5 s QR) (
 AHP R N O T  s QR)):nA R N O T t0 t1 t5 s QR:=
 pL qX cF h
theorem ASI (h :
 Bj s 5 t0 t5 λa=>
 xM R s 5 a λb=>
 Bj s 5 t1 t5 λc=>
 xM R s 5 c λd=>
 xC R 17 N O T 32 [b,d] s λe f=>
 Dv e λg=>
 AO g (
 QR (BB false) f) (
 AHQ R N O T t0 t1 t5 f QR)):AHO R N O T t0 t1 t5 s QR:=
 pC qX cF h
theorem ASH (h :
 QR (BB true) s):AHP R N O T  s QR:=
 pC qX cF h
theorem ASJ (h :
 xI .add t5 (AB 1) λa=>
 nA R N O T t0 t1 a s QR):AHQ R N O T t0 t1 t5 s QR:=
 pC qX cF h
theorem e17 {u0 u1:AV} {Post:AV->Prop} (Bi:AX [] 0 0 [t0,t1]=some [u0,u1]) (h:nC R 0 0 0 u0 u1 ⟨[],[]⟩ (QP Post)):AM (env R) 17 [t0,t1] Post:=
 hR Tryz.func17 Bi h
theorem i17 {Post:AV->Prop} (Bi:AX [] 0 0 [t0,t1]=none) (h:nC R s.bs.length s.bs.length s.ts.length t0 t1 s (QI s.bs.length s.ts.length Post)):∃v,Post v/\∀L,BA (env R) L 17 [t0,t1] s v s:=
 hI Tryz.func17 Bi h
theorem ASG (h :
 Bs s t0 λa b=>
 Bs b t1 λc d=>
 xF R d a 0 λf=>
 xF R d c 0 λi=>
 xC R 32 N O T 75 [f,i] d λj k=>
 g1 j true k (Ax k a 1) λm n=>
 g1 j true n (xM R n 4 m) λp q=>
 g1 j true q (Ax q c 1) λv w=>
 g1 j true w (xM R w 4 v) λy z=>
 I1 j true z (xC R 32 N O T 35 [p,y] z) λac ad=>
 A8 j ac (BB false) λae=>
 QR ae ad):yR R N O T t0 t1 s QR:=
 pC AY0 cF h
theorem e32 {u0 u1:AV} {Post:AV->Prop} (Bi:AX [] 0 0 [t0,t1]=some [u0,u1]) (h:yR R 0 0 0 u0 u1 ⟨[],[]⟩ (QP Post)):AM (env R) 32 [t0,t1] Post:=
 hR Tryz.func32 Bi h
theorem ASE (h :
 BO s t0 λa=>
 BO s t1 λb=>
 xI .neq a b λc=>
 AO c (
 QR (BB false) s) (
 AHR R N O T t0 t1 s QR)):yQ R N O T t0 t1 s QR:=
 pC qY cF h
theorem ASF (h :
 mz R N O T t0 t1 (AB 0) s QR):AHR R N O T t0 t1 s QR:=
 pC qY cF h
theorem AFu (h :
 BO s t0 λa=>
 xI .lss t5 a λb=>
 AO b (
 AHS R N O T t0 t1 t5 s QR) (
 AHT R N O T  s QR)):mz R N O T t0 t1 t5 s QR:=
 pL qY cF h
theorem ASC (h :
 Bj s 4 t0 t5 λa=>
 xM R s 4 a λb=>
 Bj s 4 t1 t5 λc=>
 xM R s 4 c λd=>
 xC R 75 N O T 35 [b,d] s λe f=>
 Dv e λg=>
 AO g (
 QR (BB false) f) (
 AHU R N O T t0 t1 t5 f QR)):AHS R N O T t0 t1 t5 s QR:=
 pC qY cF h
theorem ASB (h :
 QR (BB true) s):AHT R N O T  s QR:=
 pC qY cF h
theorem ASD (h :
 xI .add t5 (AB 1) λa=>
 mz R N O T t0 t1 a s QR):AHU R N O T t0 t1 t5 s QR:=
 pC qY cF h
theorem e75 {u0 u1:AV} {Post:AV->Prop} (Bi:AX [] 0 0 [t0,t1]=some [u0,u1]) (h:yQ R 0 0 0 u0 u1 ⟨[],[]⟩ (QP Post)):AM (env R) 75 [t0,t1] Post:=
 hR Tryz.func75 Bi h
end
noncomputable section
section
variable (R:RT) (N O T:Nat) (t0 t1 t4 t5 t6 t7 t51 t52 t57:AV)
noncomputable def b4:Code:=Tryz.f4.body.getD .skip
def lv4:Nat->List Nat:=ln [[],[0],[3],[3,4,5],[4,5,6,7]]
abbrev Q4:=Wq R N O T 4 32 [.tmp 2]
def ATa:=Q4 R N O T (aT b4 1) [(0,t0)]
noncomputable def b11:Code:=Tryz.f11.body.getD .skip
def AY1:Nat->List Nat:=ln [[],[0]]
abbrev Q11:=Wq R N O T 11 6 [.tmp 2]
def AHV:=Q11 R N O T (aT b11 1) [(0,t0)]
noncomputable def b13:Code:=Tryz.f13.body.getD .skip
def ATb:Nat->List Nat:=ln [[],[0,1],[0,1],[0,1,9],[0]]
abbrev Q13:=Wq R N O T 13 14 [.tmp 4]
def AHW:=Q13 R N O T (aT b13 1) [(0,t0),(1,t1)]
def AA6:=Q13 R N O T (aT b13 15) [(0,t0)]
noncomputable def rQ:Code:=Tryz.f18.body.getD .skip
def Rb:Nat->List Nat:=ln ([]::[0,1,4]::[0,1,4,5]::[0,1,4,5,12]::[0,1,4,5,12,13]::[]::[0,1,4,5,12,18]::[]::[0,1,4,5,23]::[0,1,4,5]::[0,1,4,5,35]::[0,1,4,5]::[0,1,4,5,41]::[0,1,4,5]::[0,1,4,5,6]::[0,1,4,5,6,51]::[0,1,4,5,6,51,52]::[0,1,4,5,6,51,52]::[]::[0,1,4,5,6,51,57]::[0,1,4,5,6,57]::[0,1,4,5,6]::[0,1,4,5,6,62]::[0,1,4,5,6]::rp 3 [0,1,4,5,6,7] [[4,5]])
abbrev rR:=Wq R N O T 18 84 [.cell 4 25]
def ye:=rR R N O T (aT rQ 1) [(0,t0),(1,t1)]
def Uf:=rR R N O T (aT rQ 15) [(0,t0),(1,t1),(4,t4),(5,t5)]
def nM:=rR R N O T (aT rQ 31) [(0,t0),(1,t1),(4,t4),(5,t5)]
def nJ:=rR R N O T (aT rQ 63) [(0,t0),(1,t1),(4,t4),(5,t5)]
def nK:=rR R N O T (aT rQ 2037) [(0,t0),(1,t1),(4,t4),(5,t5),(6,t6),(51,t51),(52,t52)]
def dB:=rR R N O T (aT rQ 255) [(0,t0),(1,t1),(4,t4),(5,t5),(6,t6)]
def nL:=rR R N O T (aT rQ 8151) [(0,t0),(1,t1),(4,t4),(5,t5),(6,t6),(57,t57)]
def nI:=rR R N O T (aT rQ 511) [(0,t0),(1,t1),(4,t4),(5,t5),(6,t6)]
def nH:=rR R N O T (aT rQ 4090) [(0,t0),(1,t1),(4,t4),(5,t5),(6,t6),(7,t7)]
def AHX:=rR R N O T (aT rQ 16361) [(0,t0),(1,t1),(4,t4),(5,t5),(6,t6),(7,t7)]
def ij:=rR R N O T (aT rQ 1023) [(4,t4),(5,t5)]
def AA7:=rR R N O T (aT rQ 32723) [(0,t0),(1,t1),(4,t4),(5,t5),(6,t6),(7,t7)]
noncomputable def b25:Code:=Tryz.f25.body.getD .skip
def AY2:Nat->List Nat:=ln [[],[0,2]]
abbrev Q25:=Wq R N O T 25 5 [.cell 2 25]
def AHY:=Q25 R N O T (aT b25 1) [(0,t0)]
noncomputable def b54:Code:=Tryz.f54.body.getD .skip
def ATc:Nat->List Nat:=ln [[],[0,1],[0,1,14],[0,1],[0,1]]
abbrev Q54:=Wq R N O T 54 35 [.tmp 4]
def yV:=Q54 R N O T (aT b54 1) [(0,t0),(1,t1)]
def AHZ:=Q54 R N O T (aT b54 7) [(0,t0),(1,t1)]
noncomputable def b55:Code:=Tryz.f55.body.getD .skip
def ATd:Nat->List Nat:=ln [[],[0],[0,12],[0],[0]]
abbrev Q55:=Wq R N O T 55 31 [.tmp 2]
def yX:=Q55 R N O T (aT b55 1) [(0,t0)]
def AHa:=Q55 R N O T (aT b55 7) [(0,t0)]
end
variable {R:RT} {N O T:Nat} {s:AL} {QR:QT} {t0 t1 t4 t5 t6 t7 t51 t52 t57:AV}
theorem AXi (h :
 xC R 4 N O T 11 [t0] s λa b=>
 xC R 4 N O T 18 [a,(AB 4)] b λc d=>
 Cl d Y4 λe f=>
 Ci (lf R 4 N O T) f 4 e c λg=>
 xM R g 4 e λi=>
 xC R 4 N O T 14 [i] g λj k=>
 DF j 0 λl=>
 DF j 1 λm=>
 xM R k 4 e λn=>
 xC R 4 N O T 15 [n] k λo p=>
 DF o 0 λq=>
 DF o 1 λu=>
 xC R 4 N O T 16 [] p λv w=>
 g0 v true w m λx y=>
 g0 v true y u λz aa=>
 g1 v true aa (xI .eql x z) λac ad=>
 A8 v ac (BB false) λae=>
 g0 ae true ad l λaf ag=>
 g0 ae true ag q λah ai=>
 I1 ae true ai (xC R 4 N O T 17 [af,ah] ai) λal am=>
 A8 ae al (BB false) λan=>
 QR an am):ATa R N O T t0 s QR:=
 pC lv4 cF h
theorem e4 {u0:AV} {Post:AV->Prop} (Bi:AX [] 0 0 [t0]=some [u0]) (h:ATa R 0 0 0 u0 ⟨[],[]⟩ (QP Post)):AM (env R) 4 [t0] Post:=
 hR Tryz.func4 Bi h
theorem AST (h :
 Cw [(.AA []),(AB 0)] [(0,1,t0)] λa=>
 Bs s a λb c=>
 QR b c):AHV R N O T t0 s QR:=
 pC AY1 cF h
theorem m11 {L:A3} {Post:AV->AL->Prop} (h:AHV R L.n0 L.ro L.rt t0 s Post):∃v s',Post v s'/\BA (env R) L 11 [t0] s v s':=
 hE Tryz.func11 h
theorem ASO (h :
 xI .rem t0 t1 λa=>
 xI .lss a (AB 0) λb=>
 AO b (
 xI .add a t1 λc=>
 AA6 R N O T c s QR) (
 AA6 R N O T a s QR)):AHW R N O T t0 t1 s QR:=
 pC ATb cF h
theorem AFx (h :
 QR t0 s):AA6 R N O T t0 s QR:=
 pC ATb cF h
theorem e13 {u0 u1:AV} {Post:AV->Prop} (Bi:AX [] 0 0 [t0,t1]=some [u0,u1]) (h:AHW R 0 0 0 u0 u1 ⟨[],[]⟩ (QP Post)):AM (env R) 13 [t0,t1] Post:=
 hR Tryz.func13 Bi h
theorem ASd (h :
 Cl s Y4 λa b=>
 xC R 18 N O T 54 [t0,(AB 7)] b λc d=>
 Cw Y4 [(0,1,c)] λe=>
 Cl d Y4 λf g=>
 Ci (lf R 18 N O T) g 4 f e λi=>
 xC R 18 N O T 54 [t0,(AB 12)] i λj k=>
 xI .eql j (AB 9) λl=>
 AO l (
 xC R 18 N O T 55 [t0] k λm n=>
 Ax n f 0 λo=>
 Ci (lf R 18 N O T) n 1 o m λp=>
 Uf R N O T t0 t1 a f p QR) (
 xI .eql j (AB 10) λq=>
 AO q (
 xC R 18 N O T 55 [t0] k λu w=>
 Ax w f 2 λx=>
 Ci (lf R 18 N O T) w 1 x u λy=>
 Uf R N O T t0 t1 a f y QR) (
 xI .eql j (AB 11) λz=>
 AO z (
 xL R k (.DX 0 0) λaa=>
 xL R k (.DX 0 0) λab=>
 BO k ab λac=>
 xC R 18 N O T 54 [t0,ac] k λad ae=>
 Bj ae 1 aa ad λaf=>
 xL R ae af λag=>
 Ax ae f 1 λah=>
 Ci (lf R 18 N O T) ae 1 ah ag λai=>
(xL R ae (.DX 0 0) λaj=>Bl aj aa=true) /\
 Uf R N O T t0 t1 a f ai QR) (
 Uf R N O T t0 t1 a f k QR)))):ye R N O T t0 t1 s QR:=
 pC Rb cF h
theorem ASc (h :
 xF R s t5 0 λb=>
 xI .eql b (AB 5) λc=>
 AO c (
 xC R 18 N O T 54 [t0,(AB 4)] s λd e=>
 Ax e t5 2 λf=>
 Ci (lf R 18 N O T) e 1 f d λg=>
 nM R N O T t0 t1 t4 t5 g QR) (
 nM R N O T t0 t1 t4 t5 s QR)):Uf R N O T t0 t1 t4 t5 s QR:=
 pC Rb cF h
theorem ASb (h :
 xF R s t5 0 λb=>
 xI .eql b (AB 2) λc=>
 AO c (
 xL R s (.DX 0 0) λd=>
 xL R s (.DX 0 0) λe=>
 BO s e λf=>
 xC R 18 N O T 54 [t0,f] s λg i=>
 Bj i 1 d g λj=>
 xL R i j λk=>
 Ax i t5 1 λl=>
 Ci (lf R 18 N O T) i 1 l k λm=>
(xL R i (.DX 0 0) λn=>Bl n d=true) /\
 nJ R N O T t0 t1 t4 t5 m QR) (
 nJ R N O T t0 t1 t4 t5 s QR)):nM R N O T t0 t1 t4 t5 s QR:=
 pC Rb cF h
theorem ASa (h :
 xF R s t5 0 λb=>
 xI .eql b (AB 2) λc=>
 AO c (
 nK R N O T t0 t1 t4 t5 (AB 0) b c s QR) (
 xI .eql b (AB 3) λd=>
 nK R N O T t0 t1 t4 t5 (AB 0) b d s QR)):nJ R N O T t0 t1 t4 t5 s QR:=
 pC Rb cF h
theorem ASZ (h :
 AO t52 (
 xC R 18 N O T 54 [t0,(AB 3)] s λa b=>
 dB R N O T t0 t1 t4 t5 a b QR) (
 xI .eql t51 (AB 4) λc=>
 AO c (
 nL R N O T t0 t1 t4 t5 t6 c s QR) (
 xI .eql t51 (AB 6) λd=>
 nL R N O T t0 t1 t4 t5 t6 d s QR))):nK R N O T t0 t1 t4 t5 t6 t51 t52 s QR:=
 pC Rb cF h
theorem ASX (h :
 xC R 18 N O T 54 [t0,(AB 10)] s λa b=>
 xI .eql a (AB 9) λc=>
 AO c (
 xC R 18 N O T 54 [t0,(AB 9)] b λd e=>
 nI R N O T t0 t1 t4 t5 d e QR) (
 nI R N O T t0 t1 t4 t5 t6 b QR)):dB R N O T t0 t1 t4 t5 t6 s QR:=
 pC Rb cF h
theorem ASY (h :
 AO t57 (
 dB R N O T t0 t1 t4 t5 (AB 2) s QR) (
 dB R N O T t0 t1 t4 t5 t6 s QR)):nL R N O T t0 t1 t4 t5 t6 t57 s QR:=
 pC Rb cF h
theorem ASW (h :
 nH R N O T t0 t1 t4 t5 t6 (AB 0) s QR):nI R N O T t0 t1 t4 t5 t6 s QR:=
 pC Rb cF h
theorem AFy (h :
 xI .lss t7 t6 λa=>
 g0 a true s t1 λb c=>
 g1 a true c (xI .gtr b (AB 0)) λe f=>
 A8 a e (BB false) λg=>
 AO g (
 AHX R N O T t0 t1 t4 t5 t6 t7 f QR) (
 ij R N O T t4 t5 f QR)):nH R N O T t0 t1 t4 t5 t6 t7 s QR:=
 pL Rb cF h
theorem ASV (h :
 Ax s t5 3 λa=>
 xL R s a λb=>
 xI .sub t1 (AB 1) λc=>
 xC R 18 N O T 18 [t0,c] s λd e=>
 Ct false e 4 Y4 1 [(0,4,d)] λf g=>
(4=4/\4≠0)/\Cx false (lf R 18 N O T) e 25 4 56 b f λi j=>
 Ax j t5 3 λk=>
 Ci (lf R 18 N O T) j 1 k i λl=>
(Ax e t5 3 λm=>Bl m a=true) /\
(xL R e a λn=>Bl n b=true) /\
 AA7 R N O T t0 t1 t4 t5 t6 t7 l QR):AHX R N O T t0 t1 t4 t5 t6 t7 s QR:=
 pC Rb cF h
theorem AMR (h :
 xM R s 4 t5 λa=>
 Ci (lf R 18 N O T) s 4 t4 a λb=>
 xM R b 4 t4 λc=>
 QR c b):ij R N O T t4 t5 s QR:=
 pC Rb cF h
theorem AMS (h :
 xI .add t7 (AB 1) λa=>
 nH R N O T t0 t1 t4 t5 t6 a s QR):AA7 R N O T t0 t1 t4 t5 t6 t7 s QR:=
 pC Rb cF h
theorem m18 {L:A3} {Post:AV->AL->Prop} (hn:Bo [t0,t1]=false) (h:ye R 0 L.ro L.rt t0 t1 s (QM (L.rr 18) s.bs.length Post)):∃v s',Post v s'/\BA (env R) L 18 [t0,t1] s v s':=
 hM Tryz.func18 hn h
theorem AQv (h :
 Cl s Y4 λa b=>
 Cw Y4 [(0,1,(AB 5)),(2,1,t0)] λc=>
 Ci (lf R 25 N O T) b 4 a c λd=>
 xM R d 4 a λe=>
 QR e d):AHY R N O T t0 s QR:=
 pC AY2 cF h
theorem e25 {u0:AV} {Post:AV->Prop} (Bi:AX [] 0 0 [t0]=some [u0]) (h:AHY R 0 0 0 u0 ⟨[],[]⟩ (QP Post)):AM (env R) 25 [t0] Post:=
 hR Tryz.func25 Bi h
theorem ASP (h :
 Cz s t0 λa=>
 xF R s a 1 λc=>
 Cz s t0 λd=>
 xF R s d 0 λf=>
 BO s f λg=>
 xI .geq c g λi=>
 AO i (
 QR (AB 0) s) (
 AHZ R N O T t0 t1 s QR)):yV R N O T t0 t1 s QR:=
 pC ATc cF h
theorem ASQ (h :
 Cz s t0 λa=>
 xF R s a 1 λc=>
 xI .add c (AB 1) λd=>
 Cz s t0 λe=>
 Ax s e 1 λf=>
 Ci (lf R 54 N O T) s 1 f d λg=>
 Cz g t0 λi=>
 xF R g i 0 λk=>
 Cz g t0 λl=>
 xF R g l 1 λn=>
 xI .sub n (AB 1) λo=>
 Bj g 1 k o λp=>
 xL R g p λq=>
 xC R 54 N O T 13 [q,t1] g λu v=>
 QR u v):AHZ R N O T t0 t1 s QR:=
 pC ATc cF h
theorem m54 {L:A3} {Post:AV->AL->Prop} (hn:Bo [t0,t1]=false) (h:yV R 0 L.ro L.rt t0 t1 s (QM (L.rr 54) s.bs.length Post)):∃v s',Post v s'/\BA (env R) L 54 [t0,t1] s v s':=
 hM Tryz.func54 hn h
theorem ASR (h :
 Cz s t0 λa=>
 xF R s a 1 λc=>
 Cz s t0 λd=>
 xF R s d 0 λf=>
 BO s f λg=>
 xI .geq c g λi=>
 AO i (
 QR (AB 0) s) (
 AHa R N O T t0 s QR)):yX R N O T t0 s QR:=
 pC ATd cF h
theorem ASS (h :
 Cz s t0 λa=>
 xF R s a 1 λc=>
 xI .add c (AB 1) λd=>
 Cz s t0 λe=>
 Ax s e 1 λf=>
 Ci (lf R 55 N O T) s 1 f d λg=>
 Cz g t0 λi=>
 xF R g i 0 λk=>
 Cz g t0 λl=>
 xF R g l 1 λn=>
 xI .sub n (AB 1) λo=>
 Bj g 1 k o λp=>
 xL R g p λq=>
 QR q g):AHa R N O T t0 s QR:=
 pC ATd cF h
theorem m55 {L:A3} {Post:AV->AL->Prop} (hn:Bo [t0]=false) (h:yX R 0 L.ro L.rt t0 s (QM (L.rr 55) s.bs.length Post)):∃v s',Post v s'/\BA (env R) L 55 [t0] s v s':=
 hM Tryz.func55 hn h
end
noncomputable section
section
variable (R:RT) (N O T:Nat) (t0:AV)
noncomputable def b57:Code:=Tryz.f57.body.getD .skip
def ATe:Nat->List Nat:=ln [[],[0],[0,4],[0]]
abbrev Q57:=Wq R N O T 57 8 [.tmp 2]
def AFL:=Q57 R N O T (aT b57 1) [(0,t0)]
def AHb:=Q57 R N O T (aT b57 7) [(0,t0)]
end
variable {R:RT} {N O T:Nat} {s:AL} {QR:QT} {t0:AV}
theorem AP5 (h :
 wM s (some 1) (RQ t0) (some 1) .eql t0 (.AA []) λa=>
 AO a (
 QR (.AA []) s) (
 AHb R N O T t0 s QR)):AFL R N O T t0 s QR:=
 pC ATe cF h
theorem AP6 (h :
 Ct false s 4 Y4 0 [] λa b=>
(4=4/\4≠0)/\Cx false (lf R 57 N O T) b 25 4 56 a t0 λc d=>
 QR c d):AHb R N O T t0 s QR:=
 pC ATe cF h
end
noncomputable section
section
variable (R:RT) (N O T:Nat) (t0:AV)
noncomputable def AY3:Code:=Tryz.f152.body.getD .skip
def ATf:Nat->List Nat:=ln [[],[0]]
abbrev AY4:=Wq R N O T 152 6 [.tmp 2]
def AA8:=AY4 R N O T (aT AY3 1) [(0,t0)]
noncomputable def AY5:Code:=Tryz.f163.body.getD .skip
def ATg:Nat->List Nat:=ln [[],[0]]
abbrev AY6:=Wq R N O T 163 6 [.tmp 2]
def AA9:=AY6 R N O T (aT AY5 1) [(0,t0)]
noncomputable def AY7:Code:=Tryz.f153.body.getD .skip
def ATh:Nat->List Nat:=ln [[],[0]]
abbrev AY8:=Wq R N O T 153 6 [.tmp 2]
def ABA:=AY8 R N O T (aT AY7 1) [(0,t0)]
end
variable {R:RT} {N O T:Nat} {s:AL} {QR:QT} {t0:AV}
theorem ALA (h :
 xI .neq t0 t0 λa=>
 QR a s):AA8 R N O T t0 s QR:=
 pC ATf cF h
theorem AWu {u0:AV} {Post:AV->Prop} (Bi:AX [] 0 0 [t0]=some [u0]) (h:AA8 R 0 0 0 u0 ⟨[],[]⟩ (QP Post)):AM (env R) 152 [t0] Post:=
 hR Tryz.func152 Bi h
theorem ALB (h :
 xI .neq t0 t0 λa=>
 QR a s):AA9 R N O T t0 s QR:=
 pC ATg cF h
theorem AWv {u0:AV} {Post:AV->Prop} (Bi:AX [] 0 0 [t0]=some [u0]) (h:AA9 R 0 0 0 u0 ⟨[],[]⟩ (QP Post)):AM (env R) 163 [t0] Post:=
 hR Tryz.func163 Bi h
theorem ALJ (h :
 GD .neq t0 t0 λa=>
 QR a s):ABA R N O T t0 s QR:=
 pC ATh cF h
theorem AW2 {u0:AV} {Post:AV->Prop} (Bi:AX [] 0 0 [t0]=some [u0]) (h:ABA R 0 0 0 u0 ⟨[],[]⟩ (QP Post)):AM (env R) 153 [t0] Post:=
 hR Tryz.func153 Bi h
end
end Go.Proofs.YtpgfpakdnijngaaGreatDoor
