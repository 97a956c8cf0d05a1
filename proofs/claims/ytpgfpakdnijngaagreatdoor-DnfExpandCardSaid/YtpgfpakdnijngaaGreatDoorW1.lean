/-
  What the points of some functions' code need: written by a program (wip/tel/GenW.lean.txt).
-/
import Derived.Test.YtpgfpakdnijngaaGreatDoorWx
set_option linter.all false
namespace Go.Proofs.YtpgfpakdnijngaaGreatDoor
open Go.Tel
noncomputable section
section
variable (R:RT) (N O T:Nat) (t0 t1 t2 t3 t4 t5 t7 t8 t9 t10 t17 t18 t19 t20 t22 t23 t28 t29:AV)
noncomputable def b84:Code:=Tryz.f84.body.getD .skip
def yF:Nat->List Nat:=ln [[],[1],[1,3],[3,7,8,9],[3,7,8,9,10],[3,5,7,8,9],[3,7,8,9],[3]]
abbrev Q84:=Wq R N O T 84 19 [.tmp 2]
def AFv:=Q84 R N O T (aT b84 1) [(0,t0)]
def ji:=Q84 R N O T (aT b84 58) [(3,t3),(7,t7),(8,t8),(9,t9)]
def AFw:=Q84 R N O T (aT b84 467) [(3,t3),(7,t7),(8,t8),(9,t9),(10,t10)]
def AFx:=Q84 R N O T (aT b84 15) [(3,t3)]
def AFy:=Q84 R N O T (aT b84 935) [(3,t3),(7,t7),(8,t8),(9,t9)]
noncomputable def b85:Code:=Tryz.f85.body.getD .skip
def yG:Nat->List Nat:=ln [[],[1],[1,3],[3,7,8,9],[3,7,8,9,10],[3,5,7,8,9],[3,7,8,9],[3]]
abbrev Q85:=Wq R N O T 85 20 [.tmp 2]
def AFz:=Q85 R N O T (aT b85 1) [(0,t0)]
def jl:=Q85 R N O T (aT b85 58) [(3,t3),(7,t7),(8,t8),(9,t9)]
def AF0:=Q85 R N O T (aT b85 467) [(3,t3),(7,t7),(8,t8),(9,t9),(10,t10)]
def AF1:=Q85 R N O T (aT b85 15) [(3,t3)]
def AF2:=Q85 R N O T (aT b85 935) [(3,t3),(7,t7),(8,t8),(9,t9)]
noncomputable def ADv:Code:=Tryz.f116.body.getD .skip
def nB:Nat->List Nat:=ln [[],[1],[1,20],[1],[1,22],[1,22,23],[1,22,23],[],[1,22,30],[],[1,22,52],[],[1,22,58],[],[1,22,64],[],[1,80],[]]
abbrev ADw:=Wq R N O T 116 93 [.tmp 2]
def fK:=ADw R N O T (aT ADv 1) [(0,t0)]
def fJ:=ADw R N O T (aT ADv 7) [(1,t1)]
def J8:=ADw R N O T (aT ADv 117) [(1,t1),(22,t22),(23,t23)]
def yH:=ADw R N O T (aT ADv 15) []
noncomputable def ATY:Code:=Tryz.f117.body.getD .skip
def ATZ:Nat->List Nat:=ln [[],[1]]
abbrev AY0:=Wq R N O T 117 6 [.tmp 2]
def yI:=AY0 R N O T (aT ATY 1) [(0,t0)]
noncomputable def b86:Code:=Tryz.f86.body.getD .skip
def AY1:Nat->List Nat:=ln [[],[1]]
abbrev Q86:=Wq R N O T 86 11 [.tmp 2]
def AF3:=Q86 R N O T (aT b86 1) [(0,t0)]
noncomputable def b42:Code:=Tryz.f42.body.getD .skip
def ATa:Nat->List Nat:=ln [[],[1],[1,3],[],[12],[]]
abbrev Q42:=Wq R N O T 42 16 [.tmp 2]
def AF4:=Q42 R N O T (aT b42 1) [(0,t0)]
def uv:=Q42 R N O T (aT b42 7) []
noncomputable def b94:Code:=Tryz.f94.body.getD .skip
def AY2:Nat->List Nat:=ln [[],[0,1]]
abbrev Q94:=Wq R N O T 94 9 [.tmp 4]
def yJ:=Q94 R N O T (aT b94 1) [(0,t0),(1,t1)]
noncomputable def pI:Code:=Tryz.f125.body.getD .skip
def cr:Nat->List Nat:=ln [[],[0,1],[0,1,7,8],[0,1,7,8,9],[0,1,5,7,8],[0,1,5,7,8,16],[0,1,7,8],[]]
abbrev yK:=Wq R N O T 125 19 [.tmp 4]
def iQ:=yK R N O T (aT pI 1) [(0,t0),(1,t1)]
def Pc:=yK R N O T (aT pI 26) [(0,t0),(1,t1),(7,t7),(8,t8)]
def yL:=yK R N O T (aT pI 211) [(0,t0),(1,t1),(7,t7),(8,t8),(9,t9)]
def yM:=yK R N O T (aT pI 7) []
def yN:=yK R N O T (aT pI 423) [(0,t0),(1,t1),(7,t7),(8,t8)]
noncomputable def AY3:Code:=Tryz.f140.body.getD .skip
def ATb:Nat->List Nat:=ln [[],[1]]
abbrev AY4:=Wq R N O T 140 7 [.tmp 2]
def yO:=AY4 R N O T (aT AY3 1) [(0,t0)]
noncomputable def pJ:Code:=Tryz.f141.body.getD .skip
def Wi:Nat->List Nat:=ln [[],[1,2],[1,2,15],[1,2],[1,2,17,18,19],[1,2,17,18,19,20],[1,2,5,6,17,18,19],[1,2,17,18,19,31],[1,2,17,18,19],[]]
abbrev pK:=Wq R N O T 141 33 [.tmp 4]
def eW:=pK R N O T (aT pJ 1) [(0,t0),(1,t1)]
def eX:=pK R N O T (aT pJ 7) [(1,t1),(2,t2)]
def Xt:=pK R N O T (aT pJ 58) [(1,t1),(2,t2),(17,t17),(18,t18),(19,t19)]
def yP:=pK R N O T (aT pJ 467) [(1,t1),(2,t2),(17,t17),(18,t18),(19,t19),(20,t20)]
def yQ:=pK R N O T (aT pJ 15) []
def yR:=pK R N O T (aT pJ 935) [(1,t1),(2,t2),(17,t17),(18,t18),(19,t19)]
noncomputable def ATc:Code:=Tryz.f160.body.getD .skip
def ATd:Nat->List Nat:=ln [[],[1]]
abbrev AY5:=Wq R N O T 160 6 [.tmp 2]
def yS:=AY5 R N O T (aT ATc 1) [(0,t0)]
noncomputable def AY6:Code:=Tryz.f161.body.getD .skip
def ATe:Nat->List Nat:=ln [[],[1]]
abbrev AY7:=Wq R N O T 161 19 [.tmp 2]
def yT:=AY7 R N O T (aT AY6 1) [(0,t0)]
noncomputable def ATf:Code:=Tryz.f119.body.getD .skip
def AF5:Nat->List Nat:=ln [[],[1,2],[11],[]]
abbrev ATg:=Wq R N O T 119 12 [.tmp 4]
def yU:=ATg R N O T (aT ATf 1) [(0,t0),(1,t1)]
def yV:=ATg R N O T (aT ATf 7) []
noncomputable def AY8:Code:=Tryz.f138.body.getD .skip
def ATh:Nat->List Nat:=ln [[],[0]]
abbrev AY9:=Wq R N O T 138 19 [.tmp 2]
def yW:=AY9 R N O T (aT AY8 1) [(0,t0)]
noncomputable def AZA:Code:=Tryz.f139.body.getD .skip
def ATi:Nat->List Nat:=ln [[],[0,1]]
abbrev AZB:=Wq R N O T 139 9 [.tmp 4]
def yX:=AZB R N O T (aT AZA 1) [(0,t0),(1,t1)]
noncomputable def yY:Code:=Tryz.f156.body.getD .skip
def cu:Nat->List Nat:=ln ([]::[0,1]::rp 3 [0,1,5] [[0,1,5,17],[]])
abbrev yZ:=Wq R N O T 156 18 [.tmp 4]
def yd:=yZ R N O T (aT yY 1) [(0,t0),(1,t1)]
def Xz:=yZ R N O T (aT yY 26) [(0,t0),(1,t1),(5,t5)]
def ye:=yZ R N O T (aT yY 105) [(0,t0),(1,t1),(5,t5)]
def yg:=yZ R N O T (aT yY 7) []
def yh:=yZ R N O T (aT yY 211) [(0,t0),(1,t1),(5,t5)]
noncomputable def ATj:Code:=Tryz.f157.body.getD .skip
def ATk:Nat->List Nat:=ln [[],[0]]
abbrev AZC:=Wq R N O T 157 9 [.tmp 2]
def yj:=AZC R N O T (aT ATj 1) [(0,t0)]
noncomputable def AZD:Code:=Tryz.f158.body.getD .skip
def ATl:Nat->List Nat:=ln [[],[0]]
abbrev AZE:=Wq R N O T 158 17 [.tmp 2]
def yl:=AZE R N O T (aT AZD 1) [(0,t0)]
noncomputable def AZF:Code:=Tryz.f155.body.getD .skip
def ATm:Nat->List Nat:=ln [[],[0]]
abbrev AZG:=Wq R N O T 155 17 [.tmp 2]
def ym:=AZG R N O T (aT AZF 1) [(0,t0)]
noncomputable def AZH:Code:=Tryz.f173.body.getD .skip
def ATn:Nat->List Nat:=ln [[],[0]]
abbrev AZI:=Wq R N O T 173 9 [.tmp 2]
def yp:=AZI R N O T (aT AZH 1) [(0,t0)]
noncomputable def yq:Code:=Tryz.f159.body.getD .skip
def cw:Nat->List Nat:=ln [[],[0,1],[0,1,7,8],[0,1,7,8,9],[0,1,5,7,8],[0,1,5,7,8,16],[0,1,7,8],[]]
abbrev yu:=Wq R N O T 159 19 [.tmp 4]
def yw:=yu R N O T (aT yq 1) [(0,t0),(1,t1)]
def X3:=yu R N O T (aT yq 26) [(0,t0),(1,t1),(7,t7),(8,t8)]
def yx:=yu R N O T (aT yq 211) [(0,t0),(1,t1),(7,t7),(8,t8),(9,t9)]
def yy:=yu R N O T (aT yq 7) []
def yz:=yu R N O T (aT yq 423) [(0,t0),(1,t1),(7,t7),(8,t8)]
noncomputable def b71:Code:=Tryz.f71.body.getD .skip
def y6:Nat->List Nat:=ln ([]::[1]::[1,3]::rp 3 [1,3,4] [[3]])
abbrev Q71:=Wq R N O T 71 21 [.tmp 2]
def AF6:=Q71 R N O T (aT b71 1) [(0,t0)]
def jk:=Q71 R N O T (aT b71 58) [(1,t1),(3,t3),(4,t4)]
def AF7:=Q71 R N O T (aT b71 233) [(1,t1),(3,t3),(4,t4)]
def AF8:=Q71 R N O T (aT b71 15) [(3,t3)]
def AF9:=Q71 R N O T (aT b71 467) [(1,t1),(3,t3),(4,t4)]
noncomputable def b72:Code:=Tryz.f72.body.getD .skip
def y7:Nat->List Nat:=ln ([]::[1]::[1,3]::rp 3 [1,3,4] [[3]])
abbrev Q72:=Wq R N O T 72 22 [.tmp 2]
def AGA:=Q72 R N O T (aT b72 1) [(0,t0)]
def jm:=Q72 R N O T (aT b72 58) [(1,t1),(3,t3),(4,t4)]
def AGB:=Q72 R N O T (aT b72 233) [(1,t1),(3,t3),(4,t4)]
def AGC:=Q72 R N O T (aT b72 15) [(3,t3)]
def AGD:=Q72 R N O T (aT b72 467) [(1,t1),(3,t3),(4,t4)]
noncomputable def qp:Code:=Tryz.f73.body.getD .skip
def RD:Nat->List Nat:=ln ([]::[1]::[1,3]::[1,3,26]::[1,3]::[]::[1,3,28]::[1,3,28,29]::[1,3,28,29]::[]::[1,3,28,34]::[]::[1,3,28,48]::[1,3,62]::[1,3]::rp 3 [1,3,4] ([1,3,4,74]::[]::[1,3,28,75]::[1,3,78]::[]::[1,3,28,79]::[1,3,82]::[]::[1,3,83]::[1,3,94]::[1,3]::rp 3 [1,3,5] [[1,3,5,106],[]]))
abbrev qq:=Wq R N O T 73 107 [.tmp 2]
def uu:=qq R N O T (aT qp 1) [(0,t0)]
def uQ:=qq R N O T (aT qp 15) [(1,t1),(3,t3)]
def M3:=qq R N O T (aT qp 245) [(1,t1),(3,t3),(28,t28),(29,t29)]
def AGE:=qq R N O T (aT qp 15741) [(1,t1),(3,t3)]
def VT:=qq R N O T (aT qp 31) [(1,t1),(3,t3)]
def jo:=qq R N O T (aT qp 62966) [(1,t1),(3,t3),(4,t4)]
def jn:=qq R N O T (aT qp 250) [(1,t1),(3,t3),(5,t5)]
def AGF:=qq R N O T (aT qp 251865) [(1,t1),(3,t3),(4,t4)]
def AGG:=qq R N O T (aT qp 1001) [(1,t1),(3,t3),(5,t5)]
def AGH:=qq R N O T (aT qp 63) []
def y8:=qq R N O T (aT qp 503731) [(1,t1),(3,t3),(4,t4)]
def y9:=qq R N O T (aT qp 2003) [(1,t1),(3,t3),(5,t5)]
noncomputable def b30:Code:=Tryz.f30.body.getD .skip
def ATr:Nat->List Nat:=ln [[],[1],[1,3],[],[12],[]]
abbrev Q30:=Wq R N O T 30 16 [.tmp 2]
def AGI:=Q30 R N O T (aT b30 1) [(0,t0)]
def uw:=Q30 R N O T (aT b30 7) []
noncomputable def b48:Code:=Tryz.f48.body.getD .skip
def AZJ:Nat->List Nat:=ln [[],[1]]
abbrev Q48:=Wq R N O T 48 7 [.tmp 2]
def AGJ:=Q48 R N O T (aT b48 1) [(0,t0)]
noncomputable def b96:Code:=Tryz.f96.body.getD .skip
def AZK:Nat->List Nat:=ln [[],[1]]
abbrev Q96:=Wq R N O T 96 5 [.tmp 2]
def AGK:=Q96 R N O T (aT b96 1) [(0,t0)]
noncomputable def pM:Code:=Tryz.f126.body.getD .skip
def Wj:Nat->List Nat:=ln ([]::[1,2,3]::[1,2,3,16]::[1,2,3]::rp 3 [1,2,3,7] [[2]])
abbrev pN:=Wq R N O T 126 43 [.tmp 6]
def ee:=pN R N O T (aT pM 1) [(0,t0),(1,t1),(2,t2)]
def iR:=pN R N O T (aT pM 7) [(1,t1),(2,t2),(3,t3)]
def Xw:=pN R N O T (aT pM 58) [(1,t1),(2,t2),(3,t3),(7,t7)]
def zA:=pN R N O T (aT pM 233) [(1,t1),(2,t2),(3,t3),(7,t7)]
def zB:=pN R N O T (aT pM 15) [(2,t2)]
def zC:=pN R N O T (aT pM 467) [(1,t1),(2,t2),(3,t3),(7,t7)]
noncomputable def zD:Code:=Tryz.f150.body.getD .skip
def cx:Nat->List Nat:=ln ([]::[0,1]::rp 3 [0,1,5] [[0,1,5,31],[0,1,5]])
abbrev zE:=Wq R N O T 150 45 [.tmp 4]
def zF:=zE R N O T (aT zD 1) [(0,t0),(1,t1)]
def Xv:=zE R N O T (aT zD 28) [(0,t0),(1,t1),(5,t5)]
def zH:=zE R N O T (aT zD 113) [(0,t0),(1,t1),(5,t5)]
def eZ:=zE R N O T (aT zD 15) [(0,t0),(1,t1),(5,t5)]
def eY:=zE R N O T (aT zD 31) [(0,t0),(1,t1),(5,t5)]
noncomputable def ATs:Code:=Tryz.f151.body.getD .skip
def AGL:Nat->List Nat:=ln [[],[1,2],[11],[]]
abbrev ATt:=Wq R N O T 151 12 [.tmp 4]
def zI:=ATt R N O T (aT ATs 1) [(0,t0),(1,t1)]
def zJ:=ATt R N O T (aT ATs 7) []
noncomputable def pO:Code:=Tryz.f108.body.getD .skip
def Wk:Nat->List Nat:=ln ([]::[0]::[0,17]::[0]::rp 3 [0,3] [[0,3,34],[]])
abbrev pP:=Wq R N O T 108 35 [.tmp 2]
def zK:=pP R N O T (aT pO 1) [(0,t0)]
def zL:=pP R N O T (aT pO 7) [(0,t0)]
def X1:=pP R N O T (aT pO 58) [(0,t0),(3,t3)]
def zM:=pP R N O T (aT pO 233) [(0,t0),(3,t3)]
def zN:=pP R N O T (aT pO 15) []
def zO:=pP R N O T (aT pO 467) [(0,t0),(3,t3)]
noncomputable def AZL:Code:=Tryz.f109.body.getD .skip
def ATu:Nat->List Nat:=ln [[],[0]]
abbrev AZM:=Wq R N O T 109 21 [.tmp 2]
def zP:=AZM R N O T (aT AZL 1) [(0,t0)]
noncomputable def pQ:Code:=Tryz.f110.body.getD .skip
def Wl:Nat->List Nat:=ln ([]::[1]::[1,10]::[1]::rp 3 [1,3] [[1,3,24],[1]])
abbrev pR:=Wq R N O T 110 28 [.tmp 2]
def fE:=pR R N O T (aT pQ 1) [(0,t0)]
def zQ:=pR R N O T (aT pQ 7) [(1,t1)]
def Xy:=pR R N O T (aT pQ 58) [(1,t1),(3,t3)]
def zR:=pR R N O T (aT pQ 233) [(1,t1),(3,t3)]
def zS:=pR R N O T (aT pQ 15) [(1,t1)]
def zT:=pR R N O T (aT pQ 467) [(1,t1),(3,t3)]
noncomputable def AZN:Code:=Tryz.f135.body.getD .skip
def ATv:Nat->List Nat:=ln [[],[0]]
abbrev AZO:=Wq R N O T 135 17 [.tmp 2]
def zU:=AZO R N O T (aT AZN 1) [(0,t0)]
noncomputable def AZP:Code:=Tryz.f136.body.getD .skip
def ATw:Nat->List Nat:=ln [[],[0]]
abbrev AZQ:=Wq R N O T 136 17 [.tmp 2]
def zV:=AZQ R N O T (aT AZP 1) [(0,t0)]
noncomputable def AZR:Code:=Tryz.f154.body.getD .skip
def ATx:Nat->List Nat:=ln [[],[0]]
abbrev AZS:=Wq R N O T 154 9 [.tmp 2]
def zW:=AZS R N O T (aT AZR 1) [(0,t0)]
end
variable {R:RT} {N O T:Nat} {s:AM} {QR:QT} {t0 t1 t2 t3 t4 t5 t7 t8 t9 t10 t17 t18 t19 t20 t22 t23 t28 t29:AV}
theorem AOt (h :
 Bs s t0 λa b=>
 xF R b a 3 λd=>
 BO b d λe=>
 ji R N O T (AA 1) d e (AA 0) b QR):AFv R N O T t0 s QR:=
 pC yF cF h
theorem AEb (h :
 xI .lss t9 t8 λa=>
 AO a (
 AFw R N O T t3 t7 t8 t9 a s QR) (
 AFx R N O T t3 s QR)):ji R N O T t3 t7 t8 t9 s QR:=
 pL yF cF h
theorem AOr (h :
 Bh s 4 t7 t9 λa=>
 xM R s 4 a λb=>
 CI s Y4 λc d=>
 CJ (lf R 84 N O T) d 4 c b λe=>
 xM R e 4 c λf=>
 xC R 84 N O T 84 [f] e λg i=>
 xI .add t3 g λj=>
 AFy R N O T j t7 t8 t9 i QR):AFw R N O T t3 t7 t8 t9 t10 s QR:=
 pC yF cF h
theorem AOq (h :
 QR t3 s):AFx R N O T t3 s QR:=
 pC yF cF h
theorem AOs (h :
 xI .add t9 (AA 1) λa=>
 ji R N O T t3 t7 t8 a s QR):AFy R N O T t3 t7 t8 t9 s QR:=
 pC yF cF h
theorem e84 {u0:AV} {Post:AV->Prop} (Be:AY [] 0 0 [t0]=some [u0]) (h:AFv R 0 0 0 u0 ⟨[],[]⟩ (QP Post)):AL (env R) 84 [t0] Post:=
 hR Tryz.func84 Be h
theorem AO1 (h :
 Bs s t0 λa b=>
 xF R b a 3 λd=>
 BO b d λe=>
 jl R N O T (AA 0) d e (AA 0) b QR):AFz R N O T t0 s QR:=
 pC yG cF h
theorem AEd (h :
 xI .lss t9 t8 λa=>
 AO a (
 AF0 R N O T t3 t7 t8 t9 a s QR) (
 AF1 R N O T t3 s QR)):jl R N O T t3 t7 t8 t9 s QR:=
 pL yG cF h
theorem AOz (h :
 Bh s 4 t7 t9 λa=>
 xM R s 4 a λb=>
 CI s Y4 λc d=>
 CJ (lf R 85 N O T) d 4 c b λe=>
 xM R e 4 c λf=>
 xC R 85 N O T 85 [f] e λg i=>
 TF (env R) (lf R 85 N O T) i (Ek [(15,g),(14,f),(13,t3),(5,c),(12,b),(11,a),(3,t3),(7,t7),(8,t8),(9,t9),(10,t10)]) (ADx (sn b85 3737) 3) λj k=>
 AF2 R N O T j t7 t8 t9 k QR):AF0 R N O T t3 t7 t8 t9 t10 s QR:=
 pC yG cF h
theorem AOy (h :
 xI .add t3 (AA 1) λa=>
 QR a s):AF1 R N O T t3 s QR:=
 pC yG cF h
theorem AO0 (h :
 xI .add t9 (AA 1) λa=>
 jl R N O T t3 t7 t8 a s QR):AF2 R N O T t3 t7 t8 t9 s QR:=
 pC yG cF h
theorem e85 {u0:AV} {Post:AV->Prop} (Be:AY [] 0 0 [t0]=some [u0]) (h:AFz R 0 0 0 u0 ⟨[],[]⟩ (QP Post)):AL (env R) 85 [t0] Post:=
 hR Tryz.func85 Be h
theorem AJ8 (h :
 Bs s t0 λa b=>
 xF R b a 0 λd=>
 xI .neq d (AA 2) λe=>
 g1 e true b (A0 b a 1) λg i=>
 g1 e true i (xL R i g) λk l=>
 g1 e true l (F9 .neq k (SS [])) λn o=>
 A6 e n (BB false) λp=>
 g1 p false o (A0 o a 0) λu v=>
 g1 p false v (xL R v u) λx y=>
 g1 p false y (xI .neq x (AA 5)) λaa ab=>
 g0 p false ab aa λac ad=>
 g1 ac true ad (A0 ad a 2) λaf ag=>
 g1 ac true ag (xL R ag af) λai aj=>
 g1 ac true aj (xI .neq ai (AA 0)) λal am=>
 g1 p false am (A6 ac al (BB false)) λao ap=>
 A6 p (BB true) ao λaq=>
 AO aq (
 QR (BB false) ap) (
 fJ R N O T a ap QR)):fK R N O T t0 s QR:=
 pC nB cF h
theorem AJ7 (h :
 xF R s t1 0 λb=>
 xI .eql b (AA 0) λc=>
 AO c (
 J8 R N O T t1 b c s QR) (
 xI .eql b (AA 1) λd=>
 J8 R N O T t1 b d s QR)):fJ R N O T t1 s QR:=
 pC nB cF h
theorem NN (h :
 AO t23 (
 xF R s t1 3 λb=>
 BO s b λc=>
 xI .eql c (AA 0) λd=>
 QR d s) (
 xI .eql t22 (AA 2) λe=>
 AO e (
 xF R s t1 1 λg=>
 xC R 116 N O T 138 [g] s λi j=>
 g1 i true j (xL R j (.DS 2 0)) λl m=>
 g1 i true m (A0 m t1 1) λo p=>
 g1 i true p (xL R p o) λu v=>
 I4 i true v (xC R 116 N O T 139 [l,u] v) λy z=>
 g1 i true z (Dt y) λab ac=>
 A6 i ab (BB false) λad=>
 g1 ad true ac (A0 ac t1 3) λaf ag=>
 g1 ad true ag (xL R ag af) λai aj=>
 g1 ad true aj (BO aj ai) λal am=>
 g1 ad true am (xI .leq al (AA 6)) λao ap=>
 A6 ad ao (BB false) λaq=>
 g1 aq true ap (xM R ap 4 t1) λau av=>
 I4 aq true av (xC R 116 N O T 140 [au] av) λay az=>
 A6 aq ay (BB false) λa0=>
 QR a0 az) (
 xI .eql t22 (AA 3) λa1=>
 AO a1 (
 xF R s t1 3 λa3=>
 BO s a3 λa4=>
 xI .leq a4 (AA 6) λa5=>
 QR a5 s) (
 xI .eql t22 (AA 4) λa6=>
 AO a6 (
 xF R s t1 3 λa8=>
 BO s a8 λa9=>
 xI .geq a9 (AA 2) λba=>
 QR ba s) (
 xI .eql t22 (AA 5) λbb=>
 AO bb (
 xF R s t1 3 λbd=>
 BO s bd λbe=>
 xI .eql be (AA 0) λbf=>
 g1 bf true s (A0 s t1 2) λbh bi=>
 g1 bf true bi (xL R bi bh) λbk bl=>
 g1 bf true bl (xI .geq bk (AA 0)) λbn bo=>
 A6 bf bn (BB false) λbp=>
 g1 bp true bo (A0 bo t1 2) λbr bs=>
 g1 bp true bs (xL R bs br) λbu bv=>
 g1 bp true bv (xI .leq bu (AA 200)) λbx bz=>
 A6 bp bx (BB false) λb0=>
 QR b0 bz) (
 xI .eql t22 (AA 6) λb1=>
 AO b1 (
 xF R s t1 3 λb3=>
 BO s b3 λb4=>
 xI .eql b4 (AA 2) λb5=>
 g1 b5 true s (A0 s t1 3) λb7 b8=>
 g1 b5 true b8 (xL R b8 b7) λca cb=>
 g1 b5 true cb (Bh cb 4 ca (AA 0)) λcd ce=>
 g1 b5 true ce (xM R ce 4 cd) λcg ch=>
 I4 b5 true ch (xC R 116 N O T 141 [cg,(AA 0)] ch) λck cl=>
 A6 b5 ck (BB false) λcm=>
 QR cm cl) (
 yH R N O T  s QR))))))):J8 R N O T t1 t22 t23 s QR:=
 pC nB cF h
theorem AJ6 (h :
 QR (BB false) s):yH R N O T  s QR:=
 pC nB cF h
theorem AWa {u0:AV} {Post:AV->Prop} (Be:AY [] 0 0 [t0]=some [u0]) (h:fK R 0 0 0 u0 ⟨[],[]⟩ (QP Post)):AL (env R) 116 [t0] Post:=
 hR Tryz.func116 Be h
theorem AJ9 (h :
 Bs s t0 λa b=>
 xM R b 4 a λc=>
 xC R 117 N O T 86 [c] b λd e=>
 Dt d λf=>
 QR f e):yI R N O T t0 s QR:=
 pC ATZ cF h
theorem AWb {Post:AV->Prop} (hn:Bi [t0]=true) (h:yI R 0 0 0 t0 ⟨[],[]⟩ (QP Post)):AL (env R) 117 [t0] Post:=
 HH (fn:=Tryz.f117) (body:=ATY) Tryz.func117 (by kernel_rfl) (by kernel_rfl) (by kernel_rfl) (C1 (by kernel_rfl)) hn (nC h (by kernel_rfl))
theorem AO9 (h :
 Bs s t0 λa b=>
 xM R b 4 a λc=>
 xC R 86 N O T 116 [c] b λd e=>
 g1 d true e (A0 e a 3) λg i=>
 g1 d true i (xL R i g) λk l=>
 I4 d true l (xC R 86 N O T 94 [k,(.func (.func 117) [] [])] l) λo p=>
 g1 d true p (Dt o) λu v=>
 A6 d u (BB false) λw=>
 QR w v):AF3 R N O T t0 s QR:=
 pC AY1 cF h
theorem e86 {u0:AV} {Post:AV->Prop} (Be:AY [] 0 0 [t0]=some [u0]) (h:AF3 R 0 0 0 u0 ⟨[],[]⟩ (QP Post)):AL (env R) 86 [t0] Post:=
 hR Tryz.func86 Be h
theorem AEo (h :
 Bs s t0 λa b=>
 xM R b 4 a λc=>
 xC R 42 N O T 84 [c] b λd e=>
 xI .gtr d (AA 200) λf=>
 g1 f false e (xM R e 4 a) λi j=>
 I4 f false j (xC R 42 N O T 85 [i] j) λm n=>
 g1 f false n (xI .gtr m (AA 12)) λp q=>
 A6 f (BB true) p λu=>
 AO u (
 QR (AA 4) q) (
 xM R q 4 a λv=>
 xC R 42 N O T 86 [v] q λw x=>
 Dt w λy=>
 AO y (
 QR (AA 2) x) (
 uv R N O T  x QR))):AF4 R N O T t0 s QR:=
 pC ATa cF h
theorem APR (h :
 QR (AA 0) s):uv R N O T  s QR:=
 pC ATa cF h
theorem e42 {u0:AV} {Post:AV->Prop} (Be:AY [] 0 0 [t0]=some [u0]) (h:AF4 R 0 0 0 u0 ⟨[],[]⟩ (QP Post)):AL (env R) 42 [t0] Post:=
 hR Tryz.func42 Be h
theorem uK (h :
 xC R 94 N O T 125 [t0,t1] s λa b=>
 xI .geq a (AA 0) λc=>
 QR c b):yJ R N O T t0 t1 s QR:=
 pC AY2 cF h
theorem e94 {Post:AV->Prop} (hn:Bi [t0,t1]=true) (h:yJ R 0 0 0 t0 t1 ⟨[],[]⟩ (QP Post)):AL (env R) 94 [t0,t1] Post:=
 HH (fn:=Tryz.f94) (body:=b94) Tryz.func94 (by kernel_rfl) (by kernel_rfl) (by kernel_rfl) (C1 (by kernel_rfl)) hn (nC h (by kernel_rfl))
theorem m94 {L:A8} {Post:AV->AM->Prop} (hn:Bi [t0,t1]=false) (h:yJ R 0 L.ro L.rt t0 t1 s (QM (L.rr 94) s.bs.length Post)):∃v s',Post v s'/\BD (env R) L 94 [t0,t1] s v s':=
 hM Tryz.func94 hn h
theorem fD (h :
 BO s t0 λa=>
 Pc R N O T t0 t1 a (AA 0) s QR):iQ R N O T t0 t1 s QR:=
 pC cr cF h
theorem Pd (h :
 xI .lss t8 t7 λa=>
 AO a (
 yL R N O T t0 t1 t7 t8 a s QR) (
 yM R N O T  s QR)):Pc R N O T t0 t1 t7 t8 s QR:=
 pL cr cF h
theorem fB (h :
 Bh s 4 t0 t8 λa=>
 xM R s 4 a λb=>
 E3 (env R) (lf R 125 N O T) t1 [b] s λc d=>
 AO c (
 QR t8 d) (
 yN R N O T t0 t1 t7 t8 d QR)):yL R N O T t0 t1 t7 t8 t9 s QR:=
 pC cr cF h
theorem e9 (h :
 QR (AA (-1)) s):yM R N O T  s QR:=
 pC cr cF h
theorem fC (h :
 xI .add t8 (AA 1) λa=>
 Pc R N O T t0 t1 t7 a s QR):yN R N O T t0 t1 t7 t8 s QR:=
 pC cr cF h
theorem AWI {Post:AV->Prop} (hn:Bi [t0,t1]=true) (h:iQ R 0 0 0 t0 t1 ⟨[],[]⟩ (QP Post)):AL (env R) 125 [t0,t1] Post:=
 HH (fn:=Tryz.f125) (body:=pI) Tryz.func125 (by kernel_rfl) (by kernel_rfl) (by kernel_rfl) (C1 (by kernel_rfl)) hn (nC h (by kernel_rfl))
theorem APb {L:A8} {Post:AV->AM->Prop} (hn:Bi [t0,t1]=false) (h:iQ R 0 L.ro L.rt t0 t1 s (QM (L.rr 125) s.bs.length Post)):∃v s',Post v s'/\BD (env R) L 125 [t0,t1] s v s':=
 hM Tryz.func125 hn h
theorem AJa (h :
 Bs s t0 λa b=>
 xF R b a 3 λd=>
 xC R 140 N O T 94 [d,(.func (.func 160) [] [])] b λe f=>
 Dt e λg=>
 QR g f):yO R N O T t0 s QR:=
 pC ATb cF h
theorem AWK {u0:AV} {Post:AV->Prop} (Be:AY [] 0 0 [t0]=some [u0]) (h:yO R 0 0 0 u0 ⟨[],[]⟩ (QP Post)):AL (env R) 140 [t0] Post:=
 hR Tryz.func140 Be h
theorem AJP (h :
 Bs s t0 λa b=>
 xF R b a 0 λd=>
 xI .eql d (AA 5) λe=>
 g1 e true b (A0 b a 2) λg i=>
 g1 e true i (xL R i g) λk l=>
 g0 e true l t1 λm n=>
 g1 e true n (xI .geq k m) λp q=>
 A6 e p (BB false) λu=>
 AO u (
 QR (BB false) q) (
 eX R N O T t1 a q QR)):eW R N O T t0 t1 s QR:=
 pC Wi cF h
theorem AJQ (h :
 xF R s t2 3 λb=>
 BO s b λc=>
 Xt R N O T t1 t2 b c (AA 0) s QR):eX R N O T t1 t2 s QR:=
 pC Wi cF h
theorem uF (h :
 xI .lss t19 t18 λa=>
 AO a (
 yP R N O T t1 t2 t17 t18 t19 a s QR) (
 yQ R N O T  s QR)):Xt R N O T t1 t2 t17 t18 t19 s QR:=
 pL Wi cF h
theorem AJN (h :
 Bh s 4 t17 t19 λa=>
 xM R s 4 a λb=>
 CI s Y4 λc d=>
 CJ (lf R 141 N O T) d 4 c b λe=>
 xM R e 4 c λf=>
 xM R e 4 t2 λg=>
 xC R 141 N O T 119 [g,t19] e λi j=>
 xI .add t1 i λk=>
 xC R 141 N O T 141 [f,k] j λl m=>
 Dt l λn=>
(xM R j 4 c λo=>Bg o f=true) /\
 AO n (
 QR (BB false) m) (
 yR R N O T t1 t2 t17 t18 t19 m QR)):yP R N O T t1 t2 t17 t18 t19 t20 s QR:=
 pC Wi cF h
theorem AJM (h :
 QR (BB true) s):yQ R N O T  s QR:=
 pC Wi cF h
theorem AJO (h :
 xI .add t19 (AA 1) λa=>
 Xt R N O T t1 t2 t17 t18 a s QR):yR R N O T t1 t2 t17 t18 t19 s QR:=
 pC Wi cF h
theorem AWE {u0 u1:AV} {Post:AV->Prop} (Be:AY [] 0 0 [t0,t1]=some [u0,u1]) (h:eW R 0 0 0 u0 u1 ⟨[],[]⟩ (QP Post)):AL (env R) 141 [t0,t1] Post:=
 hR Tryz.func141 Be h
theorem AJb (h :
 Bs s t0 λa b=>
 xM R b 4 a λc=>
 xC R 160 N O T 161 [c] b λd e=>
 Dt d λf=>
 QR f e):yS R N O T t0 s QR:=
 pC ATd cF h
theorem AWL {Post:AV->Prop} (hn:Bi [t0]=true) (h:yS R 0 0 0 t0 ⟨[],[]⟩ (QP Post)):AL (env R) 160 [t0] Post:=
 HH (fn:=Tryz.f160) (body:=ATc) Tryz.func160 (by kernel_rfl) (by kernel_rfl) (by kernel_rfl) (C1 (by kernel_rfl)) hn (nC h (by kernel_rfl))
theorem AJZ (h :
 Bs s t0 λa b=>
 xF R b a 0 λd=>
 xI .eql d (AA 5) λe=>
 g1 e false b (xM R b 4 a) λg i=>
 I4 e false i (xC R 161 N O T 141 [g,(AA 0)] i) λl m=>
 A6 e (BB true) l λn=>
 g1 n false m (A0 m a 0) λp q=>
 g1 n false q (xL R q p) λv w=>
 g1 n false w (xI .eql v (AA 2)) λy z=>
 g0 n false z y λaa ab=>
 g1 aa true ab (xM R ab 4 a) λad ae=>
 I4 aa true ae (xC R 161 N O T 140 [ad] ae) λah ai=>
 g1 n false ai (A6 aa ah (BB false)) λak al=>
 A6 n (BB true) ak λam=>
 QR am al):yT R N O T t0 s QR:=
 pC ATe cF h
theorem AWJ {u0:AV} {Post:AV->Prop} (Be:AY [] 0 0 [t0]=some [u0]) (h:yT R 0 0 0 u0 ⟨[],[]⟩ (QP Post)):AL (env R) 161 [t0] Post:=
 hR Tryz.func161 Be h
theorem AJK (h :
 Bs s t0 λa b=>
 xF R b a 0 λd=>
 xI .eql d (AA 6) λe=>
 g0 e true b t1 λf g=>
 g1 e true g (xI .eql f (AA 1)) λj k=>
 A6 e j (BB false) λl=>
 AO l (
 QR (AA 1) k) (
 yV R N O T  k QR)):yU R N O T t0 t1 s QR:=
 pC AF5 cF h
theorem uD (h :
 QR (AA 0) s):yV R N O T  s QR:=
 pC AF5 cF h
theorem AWC {u0 u1:AV} {Post:AV->Prop} (Be:AY [] 0 0 [t0,t1]=some [u0,u1]) (h:yU R 0 0 0 u0 u1 ⟨[],[]⟩ (QP Post)):AL (env R) 119 [t0,t1] Post:=
 hR Tryz.func119 Be h
theorem AJs (h :
 F9 .neq t0 (SS []) λa=>
 g0 a true s t0 λb c=>
 g1 a true c (Gs b) λe f=>
 g1 a true f (xI .leq e (AA 24)) λi j=>
 A6 a i (BB false) λk=>
 g0 k true j t0 λl m=>
 g1 k true m (Lv l (AA 0)) λo p=>
 I4 k true p (xC R 138 N O T 155 [o] p) λv w=>
 A6 k v (BB false) λx=>
 g0 x true w t0 λy z=>
 I4 x true z (xC R 138 N O T 156 [y,(.func (.func 157) [] [])] z) λac ad=>
 A6 x ac (BB false) λae=>
 QR ae ad):yW R N O T t0 s QR:=
 pC ATh cF h
theorem AWV {u0:AV} {Post:AV->Prop} (Be:AY [] 0 0 [t0]=some [u0]) (h:yW R 0 0 0 u0 ⟨[],[]⟩ (QP Post)):AL (env R) 138 [t0] Post:=
 hR Tryz.func138 Be h
theorem AJ4 (h :
 xC R 139 N O T 159 [t0,t1] s λa b=>
 xI .geq a (AA 0) λc=>
 QR c b):yX R N O T t0 t1 s QR:=
 pC ATi cF h
theorem AWZ {u0 u1:AV} {Post:AV->Prop} (Be:AY [] 0 0 [t0,t1]=some [u0,u1]) (h:yX R 0 0 0 u0 u1 ⟨[],[]⟩ (QP Post)):AL (env R) 139 [t0,t1] Post:=
 hR Tryz.func139 Be h
theorem AJr (h :
 Xz R N O T t0 t1 (AA 0) s QR):yd R N O T t0 t1 s QR:=
 pC cu cF h
theorem uM (h :
 Gs t0 λa=>
 xI .lss t5 a λb=>
 AO b (
 ye R N O T t0 t1 t5 s QR) (
 yg R N O T  s QR)):Xz R N O T t0 t1 t5 s QR:=
 pL cu cF h
theorem AJp (h :
 Lv t0 t5 λa=>
 E3 (env R) (lf R 156 N O T) t1 [a] s λb c=>
 Dt b λd=>
 AO d (
 QR (BB false) c) (
 yh R N O T t0 t1 t5 c QR)):ye R N O T t0 t1 t5 s QR:=
 pC cu cF h
theorem AJo (h :
 QR (BB true) s):yg R N O T  s QR:=
 pC cu cF h
theorem AJq (h :
 xI .add t5 (AA 1) λa=>
 Xz R N O T t0 t1 a s QR):yh R N O T t0 t1 t5 s QR:=
 pC cu cF h
theorem AWU {u0 u1:AV} {Post:AV->Prop} (Be:AY [] 0 0 [t0,t1]=some [u0,u1]) (h:yd R 0 0 0 u0 u1 ⟨[],[]⟩ (QP Post)):AL (env R) 156 [t0,t1] Post:=
 hR Tryz.func156 Be h
theorem AJn (h :
 CY .u8 .neq t0 (.pv (.sc (.int .u8 45))) λa=>
 g0 a true s t0 λb c=>
 I4 a true c (xC R 157 N O T 158 [b] c) λf g=>
 A6 a f (BB false) λi=>
 QR i g):yj R N O T t0 s QR:=
 pC ATk cF h
theorem AWT {Post:AV->Prop} (hn:Bi [t0]=true) (h:yj R 0 0 0 t0 ⟨[],[]⟩ (QP Post)):AL (env R) 157 [t0] Post:=
 HH (fn:=Tryz.f157) (body:=ATj) Tryz.func157 (by kernel_rfl) (by kernel_rfl) (by kernel_rfl) (C1 (by kernel_rfl)) hn (nC h (by kernel_rfl))
theorem AJl (h :
 xC R 158 N O T 155 [t0] s λa b=>
 g0 a false b t0 λc d=>
 I4 a false d (xC R 158 N O T 173 [c] d) λg i=>
 A6 a (BB true) g λj=>
 g0 j false i t0 λk l=>
 g1 j false l (CY .u8 .eql k (.pv (.sc (.int .u8 95)))) λn o=>
 A6 j (BB true) n λp=>
 g0 p false o t0 λq u=>
 g1 p false u (CY .u8 .eql q (.pv (.sc (.int .u8 45)))) λw x=>
 A6 p (BB true) w λy=>
 QR y x):yl R N O T t0 s QR:=
 pC ATl cF h
theorem AWR {u0:AV} {Post:AV->Prop} (Be:AY [] 0 0 [t0]=some [u0]) (h:yl R 0 0 0 u0 ⟨[],[]⟩ (QP Post)):AL (env R) 158 [t0] Post:=
 hR Tryz.func158 Be h
theorem AJh (h :
 CY .u8 .geq t0 (.pv (.sc (.int .u8 97))) λa=>
 g0 a true s t0 λb c=>
 g1 a true c (CY .u8 .leq b (.pv (.sc (.int .u8 122)))) λe f=>
 A6 a e (BB false) λg=>
 g0 g false f t0 λi j=>
 g1 g false j (CY .u8 .geq i (.pv (.sc (.int .u8 65)))) λl m=>
 g0 g false m l λn o=>
 g0 n true o t0 λp q=>
 g1 n true q (CY .u8 .leq p (.pv (.sc (.int .u8 90)))) λv w=>
 g1 g false w (A6 n v (BB false)) λy z=>
 A6 g (BB true) y λaa=>
 QR aa z):ym R N O T t0 s QR:=
 pC ATm cF h
theorem AWN {u0:AV} {Post:AV->Prop} (Be:AY [] 0 0 [t0]=some [u0]) (h:ym R 0 0 0 u0 ⟨[],[]⟩ (QP Post)):AL (env R) 155 [t0] Post:=
 hR Tryz.func155 Be h
theorem AJj (h :
 CY .u8 .geq t0 (.pv (.sc (.int .u8 48))) λa=>
 g0 a true s t0 λb c=>
 g1 a true c (CY .u8 .leq b (.pv (.sc (.int .u8 57)))) λe f=>
 A6 a e (BB false) λg=>
 QR g f):yp R N O T t0 s QR:=
 pC ATn cF h
theorem AWP {u0:AV} {Post:AV->Prop} (Be:AY [] 0 0 [t0]=some [u0]) (h:yp R 0 0 0 u0 ⟨[],[]⟩ (QP Post)):AL (env R) 173 [t0] Post:=
 hR Tryz.func173 Be h
theorem AJ3 (h :
 BO s t0 λa=>
 X3 R N O T t0 t1 a (AA 0) s QR):yw R N O T t0 t1 s QR:=
 pC cw cF h
theorem uO (h :
 xI .lss t8 t7 λa=>
 AO a (
 yx R N O T t0 t1 t7 t8 a s QR) (
 yy R N O T  s QR)):X3 R N O T t0 t1 t7 t8 s QR:=
 pL cw cF h
theorem AJ1 (h :
 Bh s 1 t0 t8 λa=>
 xL R s a λb=>
 F9 .eql t1 b λc=>
 AO c (
 QR t8 s) (
 yz R N O T t0 t1 t7 t8 s QR)):yx R N O T t0 t1 t7 t8 t9 s QR:=
 pC cw cF h
theorem AJ0 (h :
 QR (AA (-1)) s):yy R N O T  s QR:=
 pC cw cF h
theorem AJ2 (h :
 xI .add t8 (AA 1) λa=>
 X3 R N O T t0 t1 t7 a s QR):yz R N O T t0 t1 t7 t8 s QR:=
 pC cw cF h
theorem AWY {u0 u1:AV} {Post:AV->Prop} (Be:AY [] 0 0 [t0,t1]=some [u0,u1]) (h:yw R 0 0 0 u0 u1 ⟨[],[]⟩ (QP Post)):AL (env R) 159 [t0,t1] Post:=
 hR Tryz.func159 Be h
theorem AOx (h :
 Bs s t0 λa b=>
 jk R N O T a (AA 1) (AA 0) b QR):AF6 R N O T t0 s QR:=
 pC y6 cF h
theorem AEc (h :
 xF R s t1 3 λb=>
 BO s b λc=>
 xI .lss t4 c λd=>
 AO d (
 AF7 R N O T t1 t3 t4 s QR) (
 AF8 R N O T t3 s QR)):jk R N O T t1 t3 t4 s QR:=
 pL y6 cF h
theorem AOv (h :
 xF R s t1 3 λb=>
 Bh s 4 b t4 λc=>
 xM R s 4 c λd=>
 xC R 71 N O T 71 [d] s λe f=>
 xI .add t3 e λg=>
 AF9 R N O T t1 g t4 f QR):AF7 R N O T t1 t3 t4 s QR:=
 pC y6 cF h
theorem AOu (h :
 QR t3 s):AF8 R N O T t3 s QR:=
 pC y6 cF h
theorem AOw (h :
 xI .add t4 (AA 1) λa=>
 jk R N O T t1 t3 a s QR):AF9 R N O T t1 t3 t4 s QR:=
 pC y6 cF h
theorem e71 {u0:AV} {Post:AV->Prop} (Be:AY [] 0 0 [t0]=some [u0]) (h:AF6 R 0 0 0 u0 ⟨[],[]⟩ (QP Post)):AL (env R) 71 [t0] Post:=
 hR Tryz.func71 Be h
theorem AO5 (h :
 Bs s t0 λa b=>
 jm R N O T a (AA 0) (AA 0) b QR):AGA R N O T t0 s QR:=
 pC y7 cF h
theorem AEe (h :
 xF R s t1 3 λb=>
 BO s b λc=>
 xI .lss t4 c λd=>
 AO d (
 AGB R N O T t1 t3 t4 s QR) (
 AGC R N O T t3 s QR)):jm R N O T t1 t3 t4 s QR:=
 pL y7 cF h
theorem AO3 (h :
 A0 s t1 3 λa=>
 xL R s a λb=>
 Bh s 4 b t4 λc=>
 xM R s 4 c λd=>
 xC R 72 N O T 72 [d] s λe f=>
 TF (env R) (lf R 72 N O T) f (Ek [(18,e),(17,d),(16,c),(15,t4),(14,b),(13,a),(12,t3),(1,t1),(3,t3),(4,t4)]) (ADx (sn b72 932) 7) λg i=>
 AGD R N O T t1 g t4 i QR):AGB R N O T t1 t3 t4 s QR:=
 pC y7 cF h
theorem AO2 (h :
 xI .add t3 (AA 1) λa=>
 QR a s):AGC R N O T t3 s QR:=
 pC y7 cF h
theorem AO4 (h :
 xI .add t4 (AA 1) λa=>
 jm R N O T t1 t3 a s QR):AGD R N O T t1 t3 t4 s QR:=
 pC y7 cF h
theorem e72 {u0:AV} {Post:AV->Prop} (Be:AY [] 0 0 [t0]=some [u0]) (h:AGA R 0 0 0 u0 ⟨[],[]⟩ (QP Post)):AL (env R) 72 [t0] Post:=
 hR Tryz.func72 Be h
theorem APP (h :
 Bs s t0 λa b=>
 xF R b a 3 λd=>
 BO b d λe=>
 xF R b a 0 λg=>
 xI .neq g (AA 2) λi=>
 g1 i true b (A0 b a 1) λk l=>
 g1 i true l (xL R l k) λn o=>
 g1 i true o (F9 .neq n (SS [])) λq u=>
 A6 i q (BB false) λv=>
 g1 v false u (A0 u a 0) λx y=>
 g1 v false y (xL R y x) λaa ab=>
 g1 v false ab (xI .neq aa (AA 5)) λad ae=>
 g0 v false ae ad λaf ag=>
 g1 af true ag (A0 ag a 2) λai aj=>
 g1 af true aj (xL R aj ai) λal am=>
 g1 af true am (xI .neq al (AA 0)) λao ap=>
 g1 v false ap (A6 af ao (BB false)) λar au=>
 A6 v (BB true) ar λav=>
 AO av (
 QR (BB false) au) (
 uQ R N O T a e au QR)):uu R N O T t0 s QR:=
 pC RD cF h
theorem APF (h :
 xF R s t1 0 λb=>
 xI .eql b (AA 0) λc=>
 AO c (
 M3 R N O T t1 t3 b c s QR) (
 xI .eql b (AA 1) λd=>
 M3 R N O T t1 t3 b d s QR)):uQ R N O T t1 t3 s QR:=
 pC RD cF h
theorem Sn (h :
 AO t29 (
 xI .eql t3 (AA 0) λa=>
 QR a s) (
 xI .eql t28 (AA 5) λb=>
 AO b (
 xI .eql t3 (AA 0) λc=>
 g1 c true s (A0 s t1 2) λe f=>
 g1 c true f (xL R f e) λi j=>
 g1 c true j (xI .geq i (AA 0)) λl m=>
 A6 c l (BB false) λn=>
 g1 n true m (A0 m t1 2) λp q=>
 g1 n true q (xL R q p) λv w=>
 g1 n true w (xI .leq v (AA 200)) λy z=>
 A6 n y (BB false) λaa=>
 QR aa z) (
 xI .eql t28 (AA 2) λab=>
 AO ab (
 xF R s t1 1 λad=>
 xC R 73 N O T 108 [ad] s λae af=>
 Dt ae λag=>
 g1 ag false af (A0 af t1 1) λai aj=>
 g1 ag false aj (xL R aj ai) λal am=>
 I4 ag false am (xC R 73 N O T 109 [al] am) λap aq=>
 A6 ag (BB true) ap λar=>
 g0 ar false aq t3 λau av=>
 g1 ar false av (xI .gtr au (AA 6)) λax ay=>
 A6 ar (BB true) ax λaz=>
 AO az (
 QR (BB false) ay) (
 AGE R N O T t1 t3 ay QR)) (
 xI .eql t28 (AA 3) λa0=>
 AO a0 (
 xI .gtr t3 (AA 6) λa1=>
 AO a1 (
 QR (BB false) s) (
 VT R N O T t1 t3 s QR)) (
 xI .eql t28 (AA 4) λa2=>
 AO a2 (
 xI .lss t3 (AA 2) λa3=>
 AO a3 (
 QR (BB false) s) (
 VT R N O T t1 t3 s QR)) (
 xI .eql t28 (AA 6) λa4=>
 AO a4 (
 xI .neq t3 (AA 2) λa5=>
 g1 a5 false s (A0 s t1 3) λa7 a8=>
 g1 a5 false a8 (xL R a8 a7) λba bb=>
 g1 a5 false bb (Bh bb 4 ba (AA 0)) λbd be=>
 g1 a5 false be (xM R be 4 bd) λbg bh=>
 I4 a5 false bh (xC R 73 N O T 48 [bg] bh) λbk bl=>
 g1 a5 false bl (Dt bk) λbn bo=>
 A6 a5 (BB true) bn λbp=>
 AO bp (
 QR (BB false) bo) (
 VT R N O T t1 t3 bo QR)) (
 QR (BB false) s))))))):M3 R N O T t1 t3 t28 t29 s QR:=
 pC RD cF h
theorem APE (h :
 jo R N O T t1 t3 (AA 0) s QR):AGE R N O T t1 t3 s QR:=
 pC RD cF h
theorem APC (h :
 jn R N O T t1 t3 (AA 0) s QR):VT R N O T t1 t3 s QR:=
 pC RD cF h
theorem AEh (h :
 xI .lss t4 t3 λa=>
 AO a (
 AGF R N O T t1 t3 t4 s QR) (
 VT R N O T t1 t3 s QR)):jo R N O T t1 t3 t4 s QR:=
 pL RD cF h
theorem AEg (h :
 xI .lss t5 t3 λa=>
 AO a (
 AGG R N O T t1 t3 t5 s QR) (
 AGH R N O T  s QR)):jn R N O T t1 t3 t5 s QR:=
 pL RD cF h
theorem APD (h :
 xF R s t1 3 λb=>
 Bh s 4 b t4 λc=>
 xM R s 4 c λd=>
 xC R 73 N O T 110 [d] s λe f=>
 Dt e λg=>
 AO g (
 QR (BB false) f) (
 y8 R N O T t1 t3 t4 f QR)):AGF R N O T t1 t3 t4 s QR:=
 pC RD cF h
theorem APB (h :
 xF R s t1 3 λb=>
 Bh s 4 b t5 λc=>
 xM R s 4 c λd=>
 xC R 73 N O T 73 [d] s λe f=>
 Dt e λg=>
 AO g (
 QR (BB false) f) (
 y9 R N O T t1 t3 t5 f QR)):AGG R N O T t1 t3 t5 s QR:=
 pC RD cF h
theorem APA (h :
 QR (BB true) s):AGH R N O T  s QR:=
 pC RD cF h
theorem AKB (h :
 xI .add t4 (AA 1) λa=>
 jo R N O T t1 t3 a s QR):y8 R N O T t1 t3 t4 s QR:=
 pC RD cF h
theorem AKA (h :
 xI .add t5 (AA 1) λa=>
 jn R N O T t1 t3 a s QR):y9 R N O T t1 t3 t5 s QR:=
 pC RD cF h
theorem e73 {u0:AV} {Post:AV->Prop} (Be:AY [] 0 0 [t0]=some [u0]) (h:uu R 0 0 0 u0 ⟨[],[]⟩ (QP Post)):AL (env R) 73 [t0] Post:=
 hR Tryz.func73 Be h
theorem AEp (h :
 Bs s t0 λa b=>
 xM R b 4 a λc=>
 xC R 30 N O T 71 [c] b λd e=>
 xI .gtr d (AA 200) λf=>
 g1 f false e (xM R e 4 a) λi j=>
 I4 f false j (xC R 30 N O T 72 [i] j) λm n=>
 g1 f false n (xI .gtr m (AA 12)) λp q=>
 A6 f (BB true) p λu=>
 AO u (
 QR (AA 4) q) (
 xM R q 4 a λv=>
 xC R 30 N O T 73 [v] q λw x=>
 Dt w λy=>
 AO y (
 QR (AA 2) x) (
 uw R N O T  x QR))):AGI R N O T t0 s QR:=
 pC ATr cF h
theorem APS (h :
 QR (AA 0) s):uw R N O T  s QR:=
 pC ATr cF h
theorem e30 {u0:AV} {Post:AV->Prop} (Be:AY [] 0 0 [t0]=some [u0]) (h:AGI R 0 0 0 u0 ⟨[],[]⟩ (QP Post)):AL (env R) 30 [t0] Post:=
 hR Tryz.func30 Be h
theorem AO6 (h :
 Bs s t0 λa b=>
 xM R b 4 a λc=>
 xC R 48 N O T 96 [c] b λd e=>
 BO e d λf=>
 xI .eql f (AA 0) λg=>
 QR g e):AGJ R N O T t0 s QR:=
 pC AZJ cF h
theorem e48 {u0:AV} {Post:AV->Prop} (Be:AY [] 0 0 [t0]=some [u0]) (h:AGJ R 0 0 0 u0 ⟨[],[]⟩ (QP Post)):AL (env R) 48 [t0] Post:=
 hR Tryz.func48 Be h
theorem AO7 (h :
 Bs s t0 λa b=>
 xM R b 4 a λc=>
 xC R 96 N O T 126 [c,(AA 0),(.AB [])] b λd e=>
 QR d e):AGK R N O T t0 s QR:=
 pC AZK cF h
theorem e96 {u0:AV} {Post:AV->Prop} (Be:AY [] 0 0 [t0]=some [u0]) (h:AGK R 0 0 0 u0 ⟨[],[]⟩ (QP Post)):AL (env R) 96 [t0] Post:=
 hR Tryz.func96 Be h
theorem AJY (h :
 Bs s t0 λa b=>
 xF R b a 0 λd=>
 xI .eql d (AA 5) λe=>
 g1 e true b (A0 b a 2) λg i=>
 g1 e true i (xL R i g) λk l=>
 g0 e true l t1 λm n=>
 g1 e true n (xI .geq k m) λp q=>
 A6 e p (BB false) λu=>
 AO u (
 xF R q a 2 λw=>
 xI .sub w t1 λx=>
 xC R 126 N O T 150 [t2,x] q λy z=>
 iR R N O T t1 y a z QR) (
 iR R N O T t1 t2 a q QR)):ee R N O T t0 t1 t2 s QR:=
 pC Wj cF h
theorem ek (h :
 Xw R N O T t1 t2 t3 (AA 0) s QR):iR R N O T t1 t2 t3 s QR:=
 pC Wj cF h
theorem uI (h :
 xF R s t3 3 λb=>
 BO s b λc=>
 xI .lss t7 c λd=>
 AO d (
 zA R N O T t1 t2 t3 t7 s QR) (
 zB R N O T t2 s QR)):Xw R N O T t1 t2 t3 t7 s QR:=
 pL Wj cF h
theorem AJW (h :
 A0 s t3 3 λa=>
 xL R s a λb=>
 Bh s 4 b t7 λc=>
 xM R s 4 c λd=>
 xM R s 4 t3 λe=>
 xC R 126 N O T 151 [e,t7] s λf g=>
 xI .add t1 f λi=>
 xC R 126 N O T 126 [d,i,t2] g λj k=>
(A0 g t3 3 λl=>Bg l a=true) /\
(xL R g a λm=>Bg m b=true) /\
(Bh g 4 b t7 λn=>Bg n c=true) /\
(xM R g 4 c λo=>Bg o d=true) /\
 zC R N O T t1 j t3 t7 k QR):zA R N O T t1 t2 t3 t7 s QR:=
 pC Wj cF h
theorem AJV (h :
 QR t2 s):zB R N O T t2 s QR:=
 pC Wj cF h
theorem AJX (h :
 xI .add t7 (AA 1) λa=>
 Xw R N O T t1 t2 t3 a s QR):zC R N O T t1 t2 t3 t7 s QR:=
 pC Wj cF h
theorem AWG {u0 u1 u2:AV} {Post:AV->Prop} (Be:AY [] 0 0 [t0,t1,t2]=some [u0,u1,u2]) (h:ee R 0 0 0 u0 u1 u2 ⟨[],[]⟩ (QP Post)):AL (env R) 126 [t0,t1,t2] Post:=
 hR Tryz.func126 Be h
theorem AJU (h :
 Xv R N O T t0 t1 (AA 0) s QR):zF R N O T t0 t1 s QR:=
 pC cx cF h
theorem uH (h :
 BO s t0 λa=>
 xI .lss t5 a λb=>
 g0 b true s t0 λc d=>
 g0 b true d t5 λe f=>
 g1 b true f (Bh f 1 c e) λi j=>
 g1 b true j (xL R j i) λl m=>
 g0 b true m t1 λn o=>
 g1 b true o (xI .lss l n) λq u=>
 A6 b q (BB false) λv=>
 AO v (
 zH R N O T t0 t1 t5 u QR) (
 eZ R N O T t0 t1 t5 u QR)):Xv R N O T t0 t1 t5 s QR:=
 pL cx cF h
theorem AJT (h :
 xI .add t5 (AA 1) λa=>
 Xv R N O T t0 t1 a s QR):zH R N O T t0 t1 t5 s QR:=
 pC cx cF h
theorem AJS (h :
 BO s t0 λa=>
 xI .lss t5 a λb=>
 g0 b true s t0 λc d=>
 g0 b true d t5 λe f=>
 g1 b true f (Bh f 1 c e) λi j=>
 g1 b true j (xL R j i) λl m=>
 g0 b true m t1 λn o=>
 g1 b true o (xI .eql l n) λq u=>
 A6 b q (BB false) λv=>
 AO v (
 QR t0 u) (
 eY R N O T t0 t1 t5 u QR)):eZ R N O T t0 t1 t5 s QR:=
 pC cx cF h
theorem AJR (h :
 CV false s 1 [(AA 0)] 0 [] λa b=>
 Xu s 1 t0 none (some t5) none λc=>
(1=1/\1≠0)/\Ct false (lf R 150 N O T) s 3 1 8 a c λd e=>
 CV false e 1 [(AA 0)] 1 [(0,1,t1)] λf g=>
(1=1/\1≠0)/\Ct false (lf R 150 N O T) e 3 1 8 d f λi j=>
 Xu j 1 t0 (some t5) none none λk=>
(1=1/\1≠0)/\Ct false (lf R 150 N O T) j 3 1 8 i k λl m=>
(Xu s 1 t0 (some t5) none none λn=>Bg n k=true) /\
(Xu e 1 t0 (some t5) none none λo=>Bg o k=true) /\
 QR l m):eY R N O T t0 t1 t5 s QR:=
 pC cx cF h
theorem AWF {u0 u1:AV} {Post:AV->Prop} (Be:AY [] 0 0 [t0,t1]=some [u0,u1]) (h:zF R 0 0 0 u0 u1 ⟨[],[]⟩ (QP Post)):AL (env R) 150 [t0,t1] Post:=
 hR Tryz.func150 Be h
theorem AJL (h :
 Bs s t0 λa b=>
 xF R b a 0 λd=>
 xI .eql d (AA 6) λe=>
 g0 e true b t1 λf g=>
 g1 e true g (xI .eql f (AA 1)) λj k=>
 A6 e j (BB false) λl=>
 AO l (
 QR (AA 1) k) (
 zJ R N O T  k QR)):zI R N O T t0 t1 s QR:=
 pC AGL cF h
theorem uE (h :
 QR (AA 0) s):zJ R N O T  s QR:=
 pC AGL cF h
theorem AWD {u0 u1:AV} {Post:AV->Prop} (Be:AY [] 0 0 [t0,t1]=some [u0,u1]) (h:zI R 0 0 0 u0 u1 ⟨[],[]⟩ (QP Post)):AL (env R) 151 [t0,t1] Post:=
 hR Tryz.func151 Be h
theorem AJx (h :
 Gs t0 λa=>
 xI .lss a (AA 1) λb=>
 g0 b false s t0 λc d=>
 g1 b false d (Gs c) λf g=>
 g1 b false g (xI .gtr f (AA 24)) λj k=>
 A6 b (BB true) j λl=>
 g0 l false k t0 λm n=>
 g1 l false n (Lv m (AA 0)) λp q=>
 I4 l false q (xC R 108 N O T 135 [p] q) λw x=>
 g1 l false x (Dt w) λz aa=>
 A6 l (BB true) z λab=>
 AO ab (
 QR (BB false) aa) (
 zL R N O T t0 aa QR)):zK R N O T t0 s QR:=
 pC Wk cF h
theorem AJy (h :
 X1 R N O T t0 (AA 0) s QR):zL R N O T t0 s QR:=
 pC Wk cF h
theorem uN (h :
 Gs t0 λa=>
 xI .lss t3 a λb=>
 AO b (
 zM R N O T t0 t3 s QR) (
 zN R N O T  s QR)):X1 R N O T t0 t3 s QR:=
 pL Wk cF h
theorem AJu (h :
 Lv t0 t3 λa=>
 xC R 108 N O T 136 [a] s λb c=>
 Dt b λd=>
 g0 d false c t0 λe f=>
 g0 d false f t3 λg i=>
 g1 d false i (Lv e g) λk l=>
 g1 d false l (CY .u8 .eql k (.pv (.sc (.int .u8 45)))) λn o=>
 A6 d (BB true) n λp=>
 AO p (
 QR (BB false) o) (
 zO R N O T t0 t3 o QR)):zM R N O T t0 t3 s QR:=
 pC Wk cF h
theorem AJt (h :
 QR (BB true) s):zN R N O T  s QR:=
 pC Wk cF h
theorem AJw (h :
 xI .add t3 (AA 1) λa=>
 X1 R N O T t0 a s QR):zO R N O T t0 t3 s QR:=
 pC Wk cF h
theorem AWW {u0:AV} {Post:AV->Prop} (Be:AY [] 0 0 [t0]=some [u0]) (h:zK R 0 0 0 u0 ⟨[],[]⟩ (QP Post)):AL (env R) 108 [t0] Post:=
 hR Tryz.func108 Be h
theorem AJz (h :
 F9 .eql t0 (SS [65,110,121]) λa=>
 g0 a false s t0 λb c=>
 g1 a false c (F9 .eql b (SS [78,101,118,101,114])) λe f=>
 A6 a (BB true) e λg=>
 g0 g false f t0 λi j=>
 g1 g false j (F9 .eql i (SS [116,117,112,108,101])) λl m=>
 A6 g (BB true) l λn=>
 g0 n false m t0 λo p=>
 g1 n false p (F9 .eql o (SS [117,110,105,111,110])) λu v=>
 A6 n (BB true) u λw=>
 g0 w false v t0 λx y=>
 g1 w false y (F9 .eql x (SS [101,120,105,115,116,115])) λaa ab=>
 A6 w (BB true) aa λac=>
 QR ac ab):zP R N O T t0 s QR:=
 pC ATu cF h
theorem AWX {u0:AV} {Post:AV->Prop} (Be:AY [] 0 0 [t0]=some [u0]) (h:zP R 0 0 0 u0 ⟨[],[]⟩ (QP Post)):AL (env R) 109 [t0] Post:=
 hR Tryz.func109 Be h
theorem AJf (h :
 Bs s t0 λa b=>
 xF R b a 0 λd=>
 xI .eql d (AA 5) λe=>
 g1 e false b (xM R b 4 a) λg i=>
 I4 e false i (xC R 110 N O T 48 [g] i) λl m=>
 A6 e (BB true) l λn=>
 AO n (
 QR (BB true) m) (
 zQ R N O T a m QR)):fE R N O T t0 s QR:=
 pC Wl cF h
theorem AJg (h :
 Xy R N O T t1 (AA 0) s QR):zQ R N O T t1 s QR:=
 pC Wl cF h
theorem uL (h :
 xF R s t1 3 λb=>
 BO s b λc=>
 xI .lss t3 c λd=>
 AO d (
 zR R N O T t1 t3 s QR) (
 zS R N O T t1 s QR)):Xy R N O T t1 t3 s QR:=
 pL Wl cF h
theorem AJd (h :
 xF R s t1 3 λb=>
 Bh s 4 b t3 λc=>
 xM R s 4 c λd=>
 xC R 110 N O T 110 [d] s λe f=>
 Dt e λg=>
 AO g (
 QR (BB false) f) (
 zT R N O T t1 t3 f QR)):zR R N O T t1 t3 s QR:=
 pC Wl cF h
theorem AJc (h :
 xF R s t1 0 λb=>
 xI .eql b (AA 2) λc=>
 QR c s):zS R N O T t1 s QR:=
 pC Wl cF h
theorem AJe (h :
 xI .add t3 (AA 1) λa=>
 Xy R N O T t1 a s QR):zT R N O T t1 t3 s QR:=
 pC Wl cF h
theorem AWM {u0:AV} {Post:AV->Prop} (Be:AY [] 0 0 [t0]=some [u0]) (h:fE R 0 0 0 u0 ⟨[],[]⟩ (QP Post)):AL (env R) 110 [t0] Post:=
 hR Tryz.func110 Be h
theorem AJi (h :
 CY .u8 .geq t0 (.pv (.sc (.int .u8 97))) λa=>
 g0 a true s t0 λb c=>
 g1 a true c (CY .u8 .leq b (.pv (.sc (.int .u8 122)))) λe f=>
 A6 a e (BB false) λg=>
 g0 g false f t0 λi j=>
 g1 g false j (CY .u8 .geq i (.pv (.sc (.int .u8 65)))) λl m=>
 g0 g false m l λn o=>
 g0 n true o t0 λp q=>
 g1 n true q (CY .u8 .leq p (.pv (.sc (.int .u8 90)))) λv w=>
 g1 g false w (A6 n v (BB false)) λy z=>
 A6 g (BB true) y λaa=>
 QR aa z):zU R N O T t0 s QR:=
 pC ATv cF h
theorem AWO {u0:AV} {Post:AV->Prop} (Be:AY [] 0 0 [t0]=some [u0]) (h:zU R 0 0 0 u0 ⟨[],[]⟩ (QP Post)):AL (env R) 135 [t0] Post:=
 hR Tryz.func135 Be h
theorem AJm (h :
 xC R 136 N O T 135 [t0] s λa b=>
 g0 a false b t0 λc d=>
 I4 a false d (xC R 136 N O T 154 [c] d) λg i=>
 A6 a (BB true) g λj=>
 g0 j false i t0 λk l=>
 g1 j false l (CY .u8 .eql k (.pv (.sc (.int .u8 95)))) λn o=>
 A6 j (BB true) n λp=>
 g0 p false o t0 λq u=>
 g1 p false u (CY .u8 .eql q (.pv (.sc (.int .u8 45)))) λw x=>
 A6 p (BB true) w λy=>
 QR y x):zV R N O T t0 s QR:=
 pC ATw cF h
theorem AWS {u0:AV} {Post:AV->Prop} (Be:AY [] 0 0 [t0]=some [u0]) (h:zV R 0 0 0 u0 ⟨[],[]⟩ (QP Post)):AL (env R) 136 [t0] Post:=
 hR Tryz.func136 Be h
theorem AJk (h :
 CY .u8 .geq t0 (.pv (.sc (.int .u8 48))) λa=>
 g0 a true s t0 λb c=>
 g1 a true c (CY .u8 .leq b (.pv (.sc (.int .u8 57)))) λe f=>
 A6 a e (BB false) λg=>
 QR g f):zW R N O T t0 s QR:=
 pC ATx cF h
theorem AWQ {u0:AV} {Post:AV->Prop} (Be:AY [] 0 0 [t0]=some [u0]) (h:zW R 0 0 0 u0 ⟨[],[]⟩ (QP Post)):AL (env R) 154 [t0] Post:=
 hR Tryz.func154 Be h
end
noncomputable section
section
variable (R:RT) (N O T:Nat) (t0 t1 t2 t3 t4 t5 t6 t7 t8 t9 t10 t11 t12 t13 t15 t21:AV)
noncomputable def b15:Code:=Tryz.f15.body.getD .skip
def iT:Nat->List Nat:=ln ([]::[1]::[1,14]::[1]::[1,4]::[4,5]::[5,23]::[5]::rp 4 [5,6] [[5,6,43],[5]])
abbrev Q15:=Wq R N O T 15 45 [.tmp 2,.tmp 3]
def xm:=Q15 R N O T (aT b15 1) [(0,t0)]
def AGM:=Q15 R N O T (aT b15 7) [(1,t1)]
def AGN:=Q15 R N O T (aT b15 63) [(5,t5)]
def mR:=Q15 R N O T (aT b15 506) [(5,t5),(6,t6)]
def AGO:=Q15 R N O T (aT b15 2025) [(5,t5),(6,t6)]
def AGP:=Q15 R N O T (aT b15 127) [(5,t5)]
def AGQ:=Q15 R N O T (aT b15 4051) [(5,t5),(6,t6)]
noncomputable def qt:Code:=Tryz.f49.body.getD .skip
def RE:Nat->List Nat:=ln ([]::[0,3]::[0,3,13]::[0,3]::[0,3,15]::[0,3,15,16]::[]::[0,3,15,21]::[0,3,15,21]::[]::[0,3,15,28]::[]::[0,3,15,33]::[0,3,5]::rp 3 [0,3,5,6] ([0,5]::[]::[0,3,54]::[0,3,7]::[0,3,7,8]::rp 4 [0,3,7,8,9] [[0,3,7,8,9,88],[0,7],[]]))
abbrev qu:=Wq R N O T 49 95 [.tmp 4]
def xV:=qu R N O T (aT qt 1) [(0,t0),(1,t1)]
def AGR:=qu R N O T (aT qt 7) [(0,t0),(3,t3)]
def mH:=qu R N O T (aT qt 471) [(0,t0),(3,t3),(15,t15),(21,t21)]
def mF:=qu R N O T (aT qt 241642) [(0,t0),(3,t3),(5,t5),(6,t6)]
def mG:=qu R N O T (aT qt 1933274) [(0,t0),(3,t3),(7,t7),(8,t8),(9,t9)]
def AGS:=qu R N O T (aT qt 15) []
def AGT:=qu R N O T (aT qt 966569) [(0,t0),(3,t3),(5,t5),(6,t6)]
def AGU:=qu R N O T (aT qt 60411) [(0,t0),(5,t5)]
def AGV:=qu R N O T (aT qt 7733097) [(0,t0),(3,t3),(7,t7),(8,t8),(9,t9)]
def AGW:=qu R N O T (aT qt 483319) [(0,t0),(7,t7)]
def zX:=qu R N O T (aT qt 1933139) [(0,t0),(3,t3),(5,t5),(6,t6)]
def Yt:=qu R N O T (aT qt 15466195) [(0,t0),(3,t3),(7,t7),(8,t8),(9,t9)]
noncomputable def b50:Code:=Tryz.f50.body.getD .skip
def Y3:Nat->List Nat:=ln ([]::[1,2]::[1,2,3]::[1,2,3,4]::rp 4 [1,2,3,4,5] ([2,3,4]::rp 3 [2,3,4,6] [[2,4]]))
abbrev Q50:=Wq R N O T 50 56 [.cell 2 45]
def AGX:=Q50 R N O T (aT b50 1) [(0,t0)]
def mN:=Q50 R N O T (aT b50 122) [(1,t1),(2,t2),(3,t3),(4,t4),(5,t5)]
def AGY:=Q50 R N O T (aT b50 489) [(1,t1),(2,t2),(3,t3),(4,t4),(5,t5)]
def AGZ:=Q50 R N O T (aT b50 31) [(2,t2),(3,t3),(4,t4)]
def AGa:=Q50 R N O T (aT b50 979) [(1,t1),(2,t2),(3,t3),(4,t4),(5,t5)]
def mM:=Q50 R N O T (aT b50 250) [(2,t2),(3,t3),(4,t4),(6,t6)]
def AGb:=Q50 R N O T (aT b50 1001) [(2,t2),(3,t3),(4,t4),(6,t6)]
def AGc:=Q50 R N O T (aT b50 63) [(2,t2),(4,t4)]
def AGd:=Q50 R N O T (aT b50 2003) [(2,t2),(3,t3),(4,t4),(6,t6)]
noncomputable def b51:Code:=Tryz.f51.body.getD .skip
def pS:Nat->List Nat:=ln ([]::[1]::[1,16]::[1]::rp 3 [1,3] [[1,3,4,5],[1,3,39],[]])
abbrev Q51:=Wq R N O T 51 40 [.tmp 2]
def xj:=Q51 R N O T (aT b51 1) [(0,t0)]
def AGe:=Q51 R N O T (aT b51 7) [(1,t1)]
def mQ:=Q51 R N O T (aT b51 58) [(1,t1),(3,t3)]
def AGf:=Q51 R N O T (aT b51 233) [(1,t1),(3,t3)]
def AGg:=Q51 R N O T (aT b51 15) []
def AGh:=Q51 R N O T (aT b51 467) [(1,t1),(3,t3)]
noncomputable def zY:Code:=Tryz.f65.body.getD .skip
def U3:Nat->List Nat:=ln ([]::[1,2]::[1,2,9]::rp 3 [1,2,5] ([1,2,5,22]::[1,2]::[1,2]::rp 3 [1,2,6] [[1]]))
abbrev Q65:=Wq R N O T 65 54 [.tmp 4]
def AGi:=Q65 R N O T (aT zY 1) [(0,t0),(1,t1)]
def mI:=Q65 R N O T (aT zY 210) [(1,t1),(2,t2),(5,t5)]
def AGj:=Q65 R N O T (aT zY 7) [(1,t1),(2,t2)]
def AGk:=Q65 R N O T (aT zY 841) [(1,t1),(2,t2),(5,t5)]
def AGl:=Q65 R N O T (aT zY 53) [(1,t1),(2,t2)]
def mJ:=Q65 R N O T (aT zY 58) [(1,t1),(2,t2),(6,t6)]
def AGm:=Q65 R N O T (aT zY 1683) [(1,t1),(2,t2),(5,t5)]
def xe:=Q65 R N O T (aT zY 233) [(1,t1),(2,t2),(6,t6)]
def mK:=Q65 R N O T (aT zY 15) [(1,t1)]
def AGn:=Q65 R N O T (aT zY 467) [(1,t1),(2,t2),(6,t6)]
noncomputable def b66:Code:=Tryz.f66.body.getD .skip
def pT:Nat->List Nat:=ln ([]::[1,2]::[1,2,8]::[1,2]::rp 3 [1,2,5] [[1,2,5,30],[]])
abbrev Q66:=Wq R N O T 66 31 [.tmp 4]
def wj:=Q66 R N O T (aT b66 1) [(0,t0),(1,t1)]
def AGo:=Q66 R N O T (aT b66 7) [(1,t1),(2,t2)]
def lW:=Q66 R N O T (aT b66 58) [(1,t1),(2,t2),(5,t5)]
def AGp:=Q66 R N O T (aT b66 233) [(1,t1),(2,t2),(5,t5)]
def AGq:=Q66 R N O T (aT b66 15) []
def AGr:=Q66 R N O T (aT b66 467) [(1,t1),(2,t2),(5,t5)]
noncomputable def pU:Code:=Tryz.f105.body.getD .skip
def Wm:Nat->List Nat:=ln ([]::[1,2]::[1,2,8]::[1,2]::rp 3 [1,2,5] [[1,2,5,31],[]])
abbrev pV:=Wq R N O T 105 32 [.tmp 4]
def gY:=pV R N O T (aT pU 1) [(0,t0),(1,t1)]
def zZ:=pV R N O T (aT pU 7) [(1,t1),(2,t2)]
def Ym:=pV R N O T (aT pU 58) [(1,t1),(2,t2),(5,t5)]
def za:=pV R N O T (aT pU 233) [(1,t1),(2,t2),(5,t5)]
def zb:=pV R N O T (aT pU 15) []
def zc:=pV R N O T (aT pU 467) [(1,t1),(2,t2),(5,t5)]
noncomputable def b76:Code:=Tryz.f76.body.getD .skip
def pW:Nat->List Nat:=ln ([]::[1]::[1,7]::[1]::[1,3]::rp 3 [1,3,4] [[3]])
abbrev Q76:=Wq R N O T 76 32 [.tmp 2]
def wm:=Q76 R N O T (aT b76 1) [(0,t0)]
def AGs:=Q76 R N O T (aT b76 7) [(1,t1)]
def lY:=Q76 R N O T (aT b76 122) [(1,t1),(3,t3),(4,t4)]
def AGt:=Q76 R N O T (aT b76 489) [(1,t1),(3,t3),(4,t4)]
def AGu:=Q76 R N O T (aT b76 31) [(3,t3)]
def AGv:=Q76 R N O T (aT b76 979) [(1,t1),(3,t3),(4,t4)]
noncomputable def cy:Code:=Tryz.f98.body.getD .skip
def MH:Nat->List Nat:=ln ([]::[0,3]::[0,3,5]::[0,3,5,6]::rp 3 [0,3,5,6,7] ([0,3,5,6,7,8]::[0,3,5,6,7,8]::[0,5,6]::[0,5,40]::[0,5]::[0,5,9]::rp 3 [0,5,9,10] ([0,5,9,10,11]::rp 3 [0,5,9,10,11,12] (rp 3 [0,5,9,10,11,12,13] [0::5::ra 6 9 [],0::5::ra 7 9 [],[0,5,10,11],[9]]))))
abbrev cz:=Wq R N O T 98 111 [.tmp 4]
def AGw:=cz R N O T (aT cy 1) [(0,t0),(1,t1)]
def mE:=cz R N O T (aT cy 122) [(0,t0),(3,t3),(5,t5),(6,t6),(7,t7)]
def AGx:=cz R N O T (aT cy 489) [(0,t0),(3,t3),(5,t5),(6,t6),(7,t7)]
def xN:=cz R N O T (aT cy 31) [(0,t0),(5,t5),(6,t6)]
def xQ:=cz R N O T (aT cy 979) [(0,t0),(3,t3),(5,t5),(6,t6),(7,t7)]
def AGy:=cz R N O T (aT cy 63) [(0,t0),(5,t5)]
def cS:=cz R N O T (aT cy 1018) [(0,t0),(5,t5),(9,t9),(10,t10)]
def AGz:=cz R N O T (aT cy 4073) [(0,t0),(5,t5),(9,t9),(10,t10)]
def AG0:=cz R N O T (aT cy 255) [(9,t9)]
def mC:=cz R N O T (aT cy 260682) [(0,t0),(5,t5),(9,t9),(10,t10),(11,t11),(12,t12)]
def ze:=cz R N O T (aT cy 1042729) [(0,t0),(5,t5),(9,t9),(10,t10),(11,t11),(12,t12)]
def iC:=cz R N O T (aT cy 65171) [(0,t0),(5,t5),(10,t10),(11,t11)]
def Ys:=cz R N O T (aT cy 16683666) [(0,t0),(5,t5),(9,t9),(10,t10),(11,t11),(12,t12),(13,t13)]
def zf:=cz R N O T (aT cy 8147) [(0,t0),(5,t5),(9,t9),(10,t10)]
def hU:=cz R N O T (aT cy 66734665) [(0,t0),(5,t5),(9,t9),(10,t10),(11,t11),(12,t12),(13,t13)]
def iB:=cz R N O T (aT cy 2085459) [(0,t0),(5,t5),(9,t9),(10,t10),(11,t11),(12,t12)]
def hO:=cz R N O T (aT cy 133469331) [(0,t0),(5,t5),(9,t9),(10,t10),(11,t11),(12,t12),(13,t13)]
noncomputable def b99:Code:=Tryz.f99.body.getD .skip
def AMr:Nat->List Nat:=ln [[],[0,1],[0,1,13],[0,1],[1,20],[1]]
abbrev Q99:=Wq R N O T 99 22 [.tmp 4]
def AG1:=Q99 R N O T (aT b99 1) [(0,t0),(1,t1)]
def mA:=Q99 R N O T (aT b99 7) [(0,t0),(1,t1)]
def AG2:=Q99 R N O T (aT b99 15) [(1,t1)]
noncomputable def AMs:Code:=Tryz.f100.body.getD .skip
def zg:Nat->List Nat:=ln [[],[0,4,5],[0,4,5,7],[0,4,5,7,8],[0,4,5,7,8,18],[0,4,5,7,8],[0,4,5],[0,4,5,35],[0,4,5]]
abbrev AMt:=Wq R N O T 100 44 [.tmp 6]
def zh:=AMt R N O T (aT AMs 1) [(0,t0),(1,t1),(2,t2)]
def zi:=AMt R N O T (aT AMs 31) [(0,t0),(4,t4),(5,t5),(7,t7),(8,t8)]
def zj:=AMt R N O T (aT AMs 127) [(0,t0),(4,t4),(5,t5)]
noncomputable def AMu:Code:=Tryz.f112.body.getD .skip
def zk:Nat->List Nat:=ln [[],[1,2,4],[1,2,4,7],[1,2,4,15],[2,4],[1,2,4]]
abbrev AMv:=Wq R N O T 112 25 [.cell 4 25]
def gT:=AMv R N O T (aT AMu 1) [(0,t0),(1,t1)]
def Yl:=AMv R N O T (aT AMu 53) [(2,t2),(4,t4)]
def zl:=AMv R N O T (aT AMu 7) [(1,t1),(2,t2),(4,t4)]
noncomputable def b97:Code:=Tryz.f97.body.getD .skip
def ATy:Nat->List Nat:=ln [[],[1,2],[1,2,5],[1,2]]
abbrev Q97:=Wq R N O T 97 12 [.cell 2 25]
def wZ:=Q97 R N O T (aT b97 1) [(0,t0)]
def AG3:=Q97 R N O T (aT b97 7) [(1,t1),(2,t2)]
noncomputable def pX:Code:=Tryz.f127.body.getD .skip
def Wn:Nat->List Nat:=ln ([]::[1,2,3,6]::[1,2,3,6,16]::[1,2,3,6]::[1,2,3,6,7]::[1,2,3,6,7]::rp 3 [1,2,3,6,7,8] [[],[1,2,3,6,7,8,27],[1,2,3,6,7,8,27,40],[],[1,2,3,6,7,8,54],[6,7]])
abbrev pY:=Wq R N O T 127 68 [.cell 6 25]
def gR:=pY R N O T (aT pX 1) [(0,t0),(1,t1),(2,t2)]
def gS:=pY R N O T (aT pX 7) [(1,t1),(2,t2),(3,t3),(6,t6)]
def Yj:=pY R N O T (aT pX 250) [(1,t1),(2,t2),(3,t3),(6,t6),(7,t7),(8,t8)]
def zm:=pY R N O T (aT pX 1001) [(1,t1),(2,t2),(3,t3),(6,t6),(7,t7),(8,t8)]
def zn:=pY R N O T (aT pX 63) [(6,t6),(7,t7)]
def Tu:=pY R N O T (aT pX 2003) [(1,t1),(2,t2),(3,t3),(6,t6),(7,t7),(8,t8)]
noncomputable def AMw:Code:=Tryz.f128.body.getD .skip
def zo:Nat->List Nat:=ln [[],[1,2,4],[1,2,4,7],[1,2,4,8],[],[2,4,14],[2,4],[1,2,4]]
abbrev AMx:=Wq R N O T 128 26 [.cell 4 25]
def gU:=AMx R N O T (aT AMw 1) [(0,t0),(1,t1)]
def zq:=AMx R N O T (aT AMw 53) [(2,t2),(4,t4)]
def zu:=AMx R N O T (aT AMw 7) [(1,t1),(2,t2),(4,t4)]
noncomputable def b82:Code:=Tryz.f82.body.getD .skip
def c8:Nat->List Nat:=ln ([]::[1,2,3,6]::[1,2,3,6,11]::[2,3,6,15]::[3,6]::[1,2,3,6]::[1,2,3,6,26]::[1,2,3,6]::[1,2,3,6,7]::[1,2,3,6,7]::rp 3 [1,2,3,6,7,8] [[6,7]])
abbrev Q82:=Wq R N O T 82 51 [.cell 6 25]
def wV:=Q82 R N O T (aT b82 1) [(0,t0),(1,t1),(2,t2)]
def AG6:=Q82 R N O T (aT b82 53) [(3,t3),(6,t6)]
def AG7:=Q82 R N O T (aT b82 7) [(1,t1),(2,t2),(3,t3),(6,t6)]
def wW:=Q82 R N O T (aT b82 15) [(1,t1),(2,t2),(3,t3),(6,t6)]
def lT:=Q82 R N O T (aT b82 506) [(1,t1),(2,t2),(3,t3),(6,t6),(7,t7),(8,t8)]
def AG8:=Q82 R N O T (aT b82 2025) [(1,t1),(2,t2),(3,t3),(6,t6),(7,t7),(8,t8)]
def AG9:=Q82 R N O T (aT b82 127) [(6,t6),(7,t7)]
def AHA:=Q82 R N O T (aT b82 4051) [(1,t1),(2,t2),(3,t3),(6,t6),(7,t7),(8,t8)]
noncomputable def c9:Code:=Tryz.f111.body.getD .skip
def Qw:Nat->List Nat:=ln ([]::[1,3,5,6]::[1,3,5,6,11]::[1,3,5,6]::[3,5,6,20]::[3,6]::[1,3,5,6]::[1,3,5,6,25]::[1,3,5,6]::[1,3,5,6,7]::[1,3,5,6,7]::rp 3 [1,3,5,6,7,8] [[6,7]])
abbrev dA:=Wq R N O T 111 50 [.cell 6 25]
def zw:=dA R N O T (aT c9 1) [(0,t0),(1,t1),(2,t2)]
def zx:=dA R N O T (aT c9 107) [(3,t3),(6,t6)]
def zy:=dA R N O T (aT c9 7) [(1,t1),(3,t3),(5,t5),(6,t6)]
def z6:=dA R N O T (aT c9 15) [(1,t1),(3,t3),(5,t5),(6,t6)]
def T3:=dA R N O T (aT c9 506) [(1,t1),(3,t3),(5,t5),(6,t6),(7,t7),(8,t8)]
def z7:=dA R N O T (aT c9 2025) [(1,t1),(3,t3),(5,t5),(6,t6),(7,t7),(8,t8)]
def z8:=dA R N O T (aT c9 127) [(6,t6),(7,t7)]
def AAA:=dA R N O T (aT c9 4051) [(1,t1),(3,t3),(5,t5),(6,t6),(7,t7),(8,t8)]
noncomputable def b78:Code:=Tryz.f78.body.getD .skip
def AZV:Nat->List Nat:=ln [[],[3,4,5,6]]
abbrev Q78:=Wq R N O T 78 24 [.cell 6 45]
def lu:=Q78 R N O T (aT b78 1) [(0,t0),(1,t1),(2,t2)]
noncomputable def AAB:Code:=Tryz.f129.body.getD .skip
def dB:Nat->List Nat:=ln ([]::[1]::[3]::rp 3 [3,4] [[3,4,18],[]])
abbrev AAC:=Wq R N O T 129 20 [.tmp 2]
def AAD:=AAC R N O T (aT AAB 1) [(0,t0)]
def Yn:=AAC R N O T (aT AAB 58) [(3,t3),(4,t4)]
def AAE:=AAC R N O T (aT AAB 233) [(3,t3),(4,t4)]
def AAF:=AAC R N O T (aT AAB 15) []
def AAG:=AAC R N O T (aT AAB 467) [(3,t3),(4,t4)]
noncomputable def pZ:Code:=Tryz.f130.body.getD .skip
def Wo:Nat->List Nat:=ln ([]::[0,2,4]::[0,2,4,7]::[0,2,4,7,13]::[0,2,4,7]::[0,2,4,7,8]::rp 4 [0,2,4,7,8,9] [[0,2,4,7,8,9,49],[8]])
abbrev pg:=Wq R N O T 130 54 [.tmp 6]
def AAH:=pg R N O T (aT pZ 1) [(0,t0),(1,t1),(2,t2)]
def AAI:=pg R N O T (aT pZ 15) [(0,t0),(2,t2),(4,t4),(7,t7)]
def T5:=pg R N O T (aT pZ 250) [(0,t0),(2,t2),(4,t4),(7,t7),(8,t8),(9,t9)]
def AAJ:=pg R N O T (aT pZ 1001) [(0,t0),(2,t2),(4,t4),(7,t7),(8,t8),(9,t9)]
def AAK:=pg R N O T (aT pZ 63) [(8,t8)]
def Yp:=pg R N O T (aT pZ 2003) [(0,t0),(2,t2),(4,t4),(7,t7),(8,t8),(9,t9)]
end
variable {R:RT} {N O T:Nat} {s:AM} {QR:QT} {t0 t1 t2 t3 t4 t5 t6 t7 t8 t9 t10 t11 t12 t13 t15 t21:AV}
theorem ASJ (h :
 Bs s t0 λa b=>
 xM R b 4 a λc=>
 xC R 15 N O T 30 [c] b λd e=>
 xI .neq d (AA 0) λf=>
 g1 f false e (xM R e 4 a) λi j=>
 I4 f false j (xC R 15 N O T 48 [i] j) λm n=>
 g1 f false n (Dt m) λp q=>
 A6 f (BB true) p λu=>
 AO u (
 QR (.tuple [(.AB []),(AA 2)]) q) (
 AGM R N O T a q QR)):xm R N O T t0 s QR:=
 pC iT cF h
theorem ASK (h :
 CU [(BB false),(BB false)] [(0,1,(BB true))] λa=>
 Bs s a λb c=>
 xM R c 4 t1 λd=>
 xC R 15 N O T 49 [b,d] c λe f=>
 DT f b λg=>
 xF R f g 1 λj=>
 AO j (
 QR (.tuple [(.AB []),(AA 4)]) f) (
 AGN R N O T e f QR)):AGM R N O T t1 s QR:=
 pC iT cF h
theorem ASL (h :
 mR R N O T t5 (AA 0) s QR):AGN R N O T t5 s QR:=
 pC iT cF h
theorem AFg (h :
 BO s t5 λa=>
 xI .lss t6 a λb=>
 AO b (
 AGO R N O T t5 t6 s QR) (
 AGP R N O T t5 s QR)):mR R N O T t5 t6 s QR:=
 pL iT cF h
theorem ASG (h :
 Bh s 5 t5 t6 λa=>
 xM R s 5 a λb=>
 xC R 15 N O T 50 [b] s λc d=>
 Bh d 5 t5 t6 λe=>
 CJ (lf R 15 N O T) d 5 e c λf=>
 Bh f 5 t5 t6 λg=>
 xM R f 5 g λi=>
 xC R 15 N O T 51 [i] f λj k=>
 Dt j λl=>
 AO l (
 QR (.tuple [(.AB []),(AA 4)]) k) (
 AGQ R N O T t5 t6 k QR)):AGO R N O T t5 t6 s QR:=
 pC iT cF h
theorem ASF (h :
 QR (.tuple [t5,(AA 0)]) s):AGP R N O T t5 s QR:=
 pC iT cF h
theorem ASI (h :
 xI .add t6 (AA 1) λa=>
 mR R N O T t5 a s QR):AGQ R N O T t5 t6 s QR:=
 pC iT cF h
theorem e15 {u0:AV} {Post:AV->Prop} (Be:AY [] 0 0 [t0]=some [u0]) (h:xm R 0 0 0 u0 ⟨[],[]⟩ (QP Post)):AL (env R) 15 [t0] Post:=
 hR Tryz.func15 Be h
theorem ARt (h :
 Bs s t1 λa b=>
 DT b t0 λc=>
 xF R b c 1 λe=>
 AO e (
 QR (.AB []) b) (
 AGR R N O T t0 a b QR)):xV R N O T t0 t1 s QR:=
 pC RE cF h
theorem ARu (h :
 xF R s t3 0 λb=>
 xI .eql b (AA 0) λc=>
 AO c (
 xM R s 4 t3 λd=>
 CU Y5 [(1,4,d)] λe=>
 CV true s 5 Y5 1 [(0,5,e)] λf g=>
 QR f g) (
 xI .eql b (AA 5) λi=>
 AO i (
 mH R N O T t0 t3 b i s QR) (
 xI .eql b (AA 2) λj=>
 mH R N O T t0 t3 b j s QR))):AGR R N O T t0 t3 s QR:=
 pC RE cF h
theorem cU (h :
 AO t21 (
 xM R s 4 t3 λa=>
 xC R 49 N O T 97 [a] s λb c=>
 CU Y5 [(1,4,b)] λd=>
 CV true c 5 Y5 1 [(0,5,d)] λe f=>
 QR e f) (
 xI .eql t15 (AA 3) λg=>
 AO g (
 xM R s 4 t3 λi=>
 xC R 49 N O T 98 [t0,i] s λj k=>
 QR j k) (
 xI .eql t15 (AA 4) λl=>
 AO l (
 mF R N O T t0 t3 (.AB []) (AA 0) s QR) (
 xI .eql t15 (AA 6) λm=>
 AO m (
 xF R s t3 3 λo=>
 Bh s 4 o (AA 1) λp=>
 xM R s 4 p λq=>
 xC R 49 N O T 49 [t0,q] s λu v=>
 mG R N O T t0 t3 (.AB []) u (AA 0) v QR) (
 AGS R N O T  s QR))))):mH R N O T t0 t3 t15 t21 s QR:=
 pC RE cF h
theorem AFZ (h :
 xF R s t3 3 λb=>
 BO s b λc=>
 xI .lss t6 c λd=>
 AO d (
 AGT R N O T t0 t3 t5 t6 s QR) (
 AGU R N O T t0 t5 s QR)):mF R N O T t0 t3 t5 t6 s QR:=
 pL RE cF h
theorem AFa (h :
 BO s t8 λa=>
 xI .lss t9 a λb=>
 AO b (
 AGV R N O T t0 t3 t7 t8 t9 s QR) (
 AGW R N O T t0 t7 s QR)):mG R N O T t0 t3 t7 t8 t9 s QR:=
 pL RE cF h
theorem ARv (h :
 QR (.AB []) s):AGS R N O T  s QR:=
 pC RE cF h
theorem ARn (h :
 xF R s t3 3 λb=>
 Bh s 4 b t6 λc=>
 xM R s 4 c λd=>
 xC R 49 N O T 49 [t0,d] s λe f=>
(5=5/\5≠0)/\Ct true (lf R 49 N O T) f 45 5 80 t5 e λg i=>
 zX R N O T t0 t3 g t6 i QR):AGT R N O T t0 t3 t5 t6 s QR:=
 pC RE cF h
theorem ARm (h :
 xC R 49 N O T 99 [t0,t5] s λa b=>
 QR a b):AGU R N O T t0 t5 s QR:=
 pC RE cF h
theorem ARr (h :
 Bh s 5 t8 t9 λa=>
 xM R s 5 a λb=>
 xF R s t3 3 λd=>
 Bh s 4 d (AA 0) λe=>
 xM R s 4 e λf=>
 xC R 49 N O T 100 [t0,b,f] s λg i=>
(5=5/\5≠0)/\Ct true (lf R 49 N O T) i 45 5 80 t7 g λj k=>
 DT k t0 λl=>
 xF R k l 0 λn=>
 g0 n true k j λo p=>
 g1 n true p (BO p o) λu v=>
 g1 n true v (xI .gtr u (AA 32)) λx y=>
 A6 n x (BB false) λz=>
 AO z (
 DT y t0 λaa=>
 A0 y aa 1 λab=>
 CJ (lf R 49 N O T) y 1 ab (BB true) λac=>
 Yt R N O T t0 t3 j t8 t9 ac QR) (
 Yt R N O T t0 t3 j t8 t9 y QR)):AGV R N O T t0 t3 t7 t8 t9 s QR:=
 pC RE cF h
theorem ARq (h :
 xC R 49 N O T 99 [t0,t7] s λa b=>
 QR a b):AGW R N O T t0 t7 s QR:=
 pC RE cF h
theorem AMR (h :
 xI .add t6 (AA 1) λa=>
 mF R N O T t0 t3 t5 a s QR):zX R N O T t0 t3 t5 t6 s QR:=
 pC RE cF h
theorem AMS (h :
 xI .add t9 (AA 1) λa=>
 mG R N O T t0 t3 t7 t8 a s QR):Yt R N O T t0 t3 t7 t8 t9 s QR:=
 pC RE cF h
theorem m49 {L:A8} {Post:AV->AM->Prop} (hn:Bi [t0,t1]=false) (h:xV R 0 L.ro L.rt t0 t1 s (QM (L.rr 49) s.bs.length Post)):∃v s',Post v s'/\BD (env R) L 49 [t0,t1] s v s':=
 hM Tryz.func49 hn h
theorem AR9 (h :
 Bs s t0 λa b=>
 CI b Y5 λc d=>
 xG R d a 1 4 λf=>
 xC R 50 N O T 65 [f,(.AB [])] d λg i=>
 xG R i a 1 4 λk=>
 CU Y5 [(1,4,k)] λl=>
 CI i Y5 λm n=>
 CJ (lf R 50 N O T) n 5 m l λo=>
 mN R N O T a c g m (AA 0) o QR):AGX R N O T t0 s QR:=
 pC Y3 cF h
theorem AFe (h :
 BO s t3 λa=>
 xI .lss t5 a λb=>
 AO b (
 AGY R N O T t1 t2 t3 t4 t5 s QR) (
 AGZ R N O T t2 t3 t4 s QR)):mN R N O T t1 t2 t3 t4 t5 s QR:=
 pL Y3 cF h
theorem AR7 (h :
 xF R s t4 0 λb=>
 xF R s t1 0 λd=>
 Bh s 1 t3 t5 λe=>
 xL R s e λf=>
 Bh s 4 d f λg=>
 xM R s 4 g λi=>
 CV false s 4 Y4 1 [(0,4,i)] λj k=>
(4=4/\4≠0)/\Ct false (lf R 50 N O T) s 25 4 56 b j λl m=>
 A0 m t4 0 λn=>
 CJ (lf R 50 N O T) m 1 n l λo=>
 xG R o t4 1 4 λq=>
 Bh o 1 t3 t5 λu=>
 xL R o u λv=>
 xI .add (AA 1073741825) t5 λw=>
 xC R 50 N O T 82 [q,v,w] o λx y=>
 A0 y t4 1 λz=>
 CJ (lf R 50 N O T) y 4 z x λaa=>
 AGa R N O T t1 t2 t3 t4 t5 aa QR):AGY R N O T t1 t2 t3 t4 t5 s QR:=
 pC Y3 cF h
theorem AR6 (h :
 mM R N O T t2 t3 t4 (AA 0) s QR):AGZ R N O T t2 t3 t4 s QR:=
 pC Y3 cF h
theorem AR8 (h :
 xI .add t5 (AA 1) λa=>
 mN R N O T t1 t2 t3 t4 a s QR):AGa R N O T t1 t2 t3 t4 t5 s QR:=
 pC Y3 cF h
theorem AFd (h :
 BO s t3 λa=>
 xI .lss t6 a λb=>
 AO b (
 AGb R N O T t2 t3 t4 t6 s QR) (
 AGc R N O T t2 t4 s QR)):mM R N O T t2 t3 t4 t6 s QR:=
 pL Y3 cF h
theorem AR4 (h :
 xG R s t4 1 4 λb=>
 xI .add (AA 1073741825) t6 λc=>
 xC R 50 N O T 82 [b,c,t6] s λd e=>
 A0 e t4 1 λf=>
 CJ (lf R 50 N O T) e 4 f d λg=>
 AGd R N O T t2 t3 t4 t6 g QR):AGb R N O T t2 t3 t4 t6 s QR:=
 pC Y3 cF h
theorem AR3 (h :
 xM R s 5 t4 λa=>
 CJ (lf R 50 N O T) s 5 t2 a λb=>
 xM R b 5 t2 λc=>
 QR c b):AGc R N O T t2 t4 s QR:=
 pC Y3 cF h
theorem AR5 (h :
 xI .add t6 (AA 1) λa=>
 mM R N O T t2 t3 t4 a s QR):AGd R N O T t2 t3 t4 t6 s QR:=
 pC Y3 cF h
theorem e50 {u0:AV} {Post:AV->Prop} (Be:AY [] 0 0 [t0]=some [u0]) (h:AGX R 0 0 0 u0 ⟨[],[]⟩ (QP Post)):AL (env R) 50 [t0] Post:=
 hR Tryz.func50 Be h
theorem ASD (h :
 Bs s t0 λa b=>
 xF R b a 0 λd=>
 BO b d λe=>
 xI .gtr e (AA 6) λf=>
 g1 f false b (A0 b a 1) λi j=>
 g1 f false j (xM R j 4 i) λl m=>
 I4 f false m (xC R 51 N O T 76 [l] m) λp q=>
 g1 f false q (BO q p) λv w=>
 g1 f false w (xI .gtr v (AA 3)) λy z=>
 A6 f (BB true) y λaa=>
 AO aa (
 QR (BB false) z) (
 AGe R N O T a z QR)):xj R N O T t0 s QR:=
 pC pS cF h
theorem ASE (h :
 mQ R N O T t1 (AA 0) s QR):AGe R N O T t1 s QR:=
 pC pS cF h
theorem AFf (h :
 xF R s t1 0 λb=>
 BO s b λc=>
 xI .lss t3 c λd=>
 AO d (
 AGf R N O T t1 t3 s QR) (
 AGg R N O T  s QR)):mQ R N O T t1 t3 s QR:=
 pL pS cF h
theorem ASB (h :
 xF R s t1 0 λb=>
 Bh s 4 b t3 λc=>
 xM R s 4 c λd=>
 xC R 51 N O T 15 [d] s λe f=>
 DC e 0 λg=>
 DC e 1 λi=>
 xI .neq i (AA 0) λj=>
 g0 j false f g λk l=>
 g1 j false l (BO l k) λn o=>
 g1 j false o (xI .gtr n (AA 4)) λq u=>
 A6 j (BB true) q λv=>
 AO v (
 QR (BB false) u) (
 AGh R N O T t1 t3 u QR)):AGf R N O T t1 t3 s QR:=
 pC pS cF h
theorem ASA (h :
 QR (BB true) s):AGg R N O T  s QR:=
 pC pS cF h
theorem ASC (h :
 xI .add t3 (AA 1) λa=>
 mQ R N O T t1 a s QR):AGh R N O T t1 t3 s QR:=
 pC pS cF h
theorem e51 {u0:AV} {Post:AV->Prop} (Be:AY [] 0 0 [t0]=some [u0]) (h:xj R 0 0 0 u0 ⟨[],[]⟩ (QP Post)):AL (env R) 51 [t0] Post:=
 hR Tryz.func51 Be h
theorem AR1 (h :
 Bs s t0 λa b=>
 xF R b a 0 λd=>
 xI .eql d (AA 5) λe=>
 AO e (
 mI R N O T t1 a (AA 0) b QR) (
 AGj R N O T t1 a b QR)):AGi R N O T t0 t1 s QR:=
 pC U3 cF h
theorem AFb (h :
 BO s t1 λa=>
 xI .lss t5 a λb=>
 AO b (
 AGk R N O T t1 t2 t5 s QR) (
 AGl R N O T t1 t2 s QR)):mI R N O T t1 t2 t5 s QR:=
 pL U3 cF h
theorem AR2 (h :
 mJ R N O T t1 t2 (AA 0) s QR):AGj R N O T t1 t2 s QR:=
 pC U3 cF h
theorem ARx (h :
 Bh s 1 t1 t5 λa=>
 xL R s a λb=>
 xF R s t2 2 λd=>
 xI .eql b d λe=>
 AO e (
 QR t1 s) (
 AGm R N O T t1 t2 t5 s QR)):AGk R N O T t1 t2 t5 s QR:=
 pC U3 cF h
theorem ARw (h :
 xF R s t2 2 λb=>
 CV false s 1 [(AA 0)] 1 [(0,1,b)] λc d=>
(1=1/\1≠0)/\Ct false (lf R 65 N O T) d 3 1 8 t1 c λe f=>
 QR e f):AGl R N O T t1 t2 s QR:=
 pC U3 cF h
theorem xZ (h :
 xF R s t2 0 λb=>
 xI .eql b (AA 3) λc=>
 g1 c false s (A0 s t2 0) λe f=>
 g1 c false f (xL R f e) λi j=>
 g1 c false j (xI .eql i (AA 2)) λl m=>
 A6 c (BB true) l λn=>
 g0 n true m t6 λo p=>
 g1 n true p (A0 p t2 3) λu v=>
 g1 n true v (xL R v u) λx y=>
 g1 n true y (BO y x) λaa ab=>
 g1 n true ab (xI .lss o aa) λad ae=>
 A6 n ad (BB false) λaf=>
 AO af (
 xe R N O T t1 t2 t6 ae QR) (
 mK R N O T t1 ae QR)):mJ R N O T t1 t2 t6 s QR:=
 pL U3 cF h
theorem ARy (h :
 xI .add t5 (AA 1) λa=>
 mI R N O T t1 t2 a s QR):AGm R N O T t1 t2 t5 s QR:=
 pC U3 cF h
theorem ARz (h :
 xF R s t2 3 λb=>
 Bh s 4 b t6 λc=>
 xM R s 4 c λd=>
 xC R 65 N O T 65 [d,t1] s λe f=>
 AGn R N O T e t2 t6 f QR):xe R N O T t1 t2 t6 s QR:=
 pC U3 cF h
theorem xd (h :
 QR t1 s):mK R N O T t1 s QR:=
 pC U3 cF h
theorem AR0 (h :
 xI .add t6 (AA 1) λa=>
 mJ R N O T t1 t2 a s QR):AGn R N O T t1 t2 t6 s QR:=
 pC U3 cF h
theorem m65 {L:A8} {Post:AV->AM->Prop} (h:AGi R 0 L.ro L.rt t0 t1 s (QM (L.rr 65) s.bs.length Post)):∃v s',Post v s'/\BD (env R) L 65 [t0,t1] s v s':=
 AD0 (fn:=Tryz.f65) (body:=zY) Tryz.func65 (by kernel_rfl) (by kernel_rfl) (by kernel_rfl) (C1 (by kernel_rfl)) (nC h (by kernel_rfl))
theorem ARL (h :
 Bs s t0 λa b=>
 xF R b a 0 λd=>
 xI .eql d (AA 2) λe=>
 AO e (
 xM R b 4 a λf=>
 xC R 66 N O T 105 [f,t1] b λg i=>
 QR g i) (
 AGo R N O T t1 a b QR)):wj R N O T t0 t1 s QR:=
 pC pT cF h
theorem ARM (h :
 lW R N O T t1 t2 (AA 0) s QR):AGo R N O T t1 t2 s QR:=
 pC pT cF h
theorem wh (h :
 xF R s t2 0 λb=>
 xI .eql b (AA 3) λc=>
 g0 c true s t5 λd e=>
 g1 c true e (A0 e t2 3) λg i=>
 g1 c true i (xL R i g) λk l=>
 g1 c true l (BO l k) λn o=>
 g1 c true o (xI .lss d n) λq u=>
 A6 c q (BB false) λv=>
 AO v (
 AGp R N O T t1 t2 t5 u QR) (
 AGq R N O T  u QR)):lW R N O T t1 t2 t5 s QR:=
 pL pT cF h
theorem ARJ (h :
 xF R s t2 3 λb=>
 Bh s 4 b t5 λc=>
 xM R s 4 c λd=>
 xC R 66 N O T 66 [d,t1] s λe f=>
 AO e (
 QR (BB true) f) (
 AGr R N O T t1 t2 t5 f QR)):AGp R N O T t1 t2 t5 s QR:=
 pC pT cF h
theorem AFP (h :
 QR (BB false) s):AGq R N O T  s QR:=
 pC pT cF h
theorem ARK (h :
 xI .add t5 (AA 1) λa=>
 lW R N O T t1 t2 a s QR):AGr R N O T t1 t2 t5 s QR:=
 pC pT cF h
theorem e66 {u0 u1:AV} {Post:AV->Prop} (Be:AY [] 0 0 [t0,t1]=some [u0,u1]) (h:wj R 0 0 0 u0 u1 ⟨[],[]⟩ (QP Post)):AL (env R) 66 [t0,t1] Post:=
 hR Tryz.func66 Be h
theorem ALy (h :
 Bs s t0 λa b=>
 xF R b a 0 λd=>
 xI .eql d (AA 5) λe=>
 AO e (
 xF R b a 2 λg=>
 xI .eql g t1 λi=>
 QR i b) (
 zZ R N O T t1 a b QR)):gY R N O T t0 t1 s QR:=
 pC Wm cF h
theorem ALz (h :
 Ym R N O T t1 t2 (AA 0) s QR):zZ R N O T t1 t2 s QR:=
 pC Wm cF h
theorem gW (h :
 xF R s t2 0 λb=>
 xI .eql b (AA 2) λc=>
 g0 c true s t5 λd e=>
 g1 c true e (A0 e t2 3) λg i=>
 g1 c true i (xL R i g) λk l=>
 g1 c true l (BO l k) λn o=>
 g1 c true o (xI .lss d n) λq u=>
 A6 c q (BB false) λv=>
 AO v (
 za R N O T t1 t2 t5 u QR) (
 zb R N O T  u QR)):Ym R N O T t1 t2 t5 s QR:=
 pL Wm cF h
theorem ALw (h :
 xF R s t2 3 λb=>
 Bh s 4 b t5 λc=>
 xM R s 4 c λd=>
 xC R 105 N O T 105 [d,t1] s λe f=>
 AO e (
 QR (BB true) f) (
 zc R N O T t1 t2 t5 f QR)):za R N O T t1 t2 t5 s QR:=
 pC Wm cF h
theorem we (h :
 QR (BB false) s):zb R N O T  s QR:=
 pC Wm cF h
theorem ALx (h :
 xI .add t5 (AA 1) λa=>
 Ym R N O T t1 t2 a s QR):zc R N O T t1 t2 t5 s QR:=
 pC Wm cF h
theorem AXi {u0 u1:AV} {Post:AV->Prop} (Be:AY [] 0 0 [t0,t1]=some [u0,u1]) (h:gY R 0 0 0 u0 u1 ⟨[],[]⟩ (QP Post)):AL (env R) 105 [t0,t1] Post:=
 hR Tryz.func105 Be h
theorem ARP (h :
 Bs s t0 λa b=>
 xF R b a 0 λd=>
 xI .eql d (AA 5) λe=>
 AO e (
 xF R b a 2 λg=>
 CV false b 1 [(AA 0)] 1 [(0,1,g)] λi j=>
 QR i j) (
 AGs R N O T a b QR)):wm R N O T t0 s QR:=
 pC pW cF h
theorem ARQ (h :
 lY R N O T t1 (.AB []) (AA 0) s QR):AGs R N O T t1 s QR:=
 pC pW cF h
theorem wk (h :
 xF R s t1 0 λb=>
 xI .eql b (AA 3) λc=>
 g0 c true s t4 λd e=>
 g1 c true e (A0 e t1 3) λg i=>
 g1 c true i (xL R i g) λk l=>
 g1 c true l (BO l k) λn o=>
 g1 c true o (xI .lss d n) λq u=>
 A6 c q (BB false) λv=>
 AO v (
 AGt R N O T t1 t3 t4 u QR) (
 AGu R N O T t3 u QR)):lY R N O T t1 t3 t4 s QR:=
 pL pW cF h
theorem ARN (h :
 xF R s t1 3 λb=>
 Bh s 4 b t4 λc=>
 xM R s 4 c λd=>
 xC R 76 N O T 76 [d] s λe f=>
(1=1/\1≠0)/\Ct false (lf R 76 N O T) f 3 1 8 t3 e λg i=>
 AGv R N O T t1 g t4 i QR):AGt R N O T t1 t3 t4 s QR:=
 pC pW cF h
theorem AFQ (h :
 QR t3 s):AGu R N O T t3 s QR:=
 pC pW cF h
theorem ARO (h :
 xI .add t4 (AA 1) λa=>
 lY R N O T t1 t3 a s QR):AGv R N O T t1 t3 t4 s QR:=
 pC pW cF h
theorem e76 {u0:AV} {Post:AV->Prop} (Be:AY [] 0 0 [t0]=some [u0]) (h:wm R 0 0 0 u0 ⟨[],[]⟩ (QP Post)):AL (env R) 76 [t0] Post:=
 hR Tryz.func76 Be h
theorem ARj (h :
 Bs s t1 λa b=>
 mE R N O T t0 a (.AB []) (BB false) (AA 0) b QR):AGw R N O T t0 t1 s QR:=
 pC MH cF h
theorem AFW (h :
 xF R s t3 3 λb=>
 BO s b λc=>
 xI .lss t7 c λd=>
 AO d (
 AGx R N O T t0 t3 t5 t6 t7 s QR) (
 xN R N O T t0 t5 t6 s QR)):mE R N O T t0 t3 t5 t6 t7 s QR:=
 pL MH cF h
theorem ARh (h :
 xF R s t3 3 λb=>
 Bh s 4 b t7 λc=>
 xM R s 4 c λd=>
 xC R 98 N O T 49 [t0,d] s λe f=>
 g0 t6 false f e λg i=>
 g1 t6 false i (BO i g) λk l=>
 g1 t6 false l (xI .eql k (AA 0)) λn o=>
 A6 t6 (BB true) n λp=>
 CV false o 1 [(.AB [])] 1 [(0,1,e)] λq u=>
(1=1/\1≠0)/\Ct false (lf R 98 N O T) u 32 1 24 t5 q λv w=>
 xQ R N O T t0 t3 v p t7 w QR):AGx R N O T t0 t3 t5 t6 t7 s QR:=
 pC MH cF h
theorem AFX (h :
 AO t6 (
 QR (.AB []) s) (
 AGy R N O T t0 t5 s QR)):xN R N O T t0 t5 t6 s QR:=
 pC MH cF h
theorem ARi (h :
 xI .add t7 (AA 1) λa=>
 mE R N O T t0 t3 t5 t6 a s QR):xQ R N O T t0 t3 t5 t6 t7 s QR:=
 pC MH cF h
theorem ARk (h :
 CU Y4 [(0,1,(AA 3))] λa=>
 CU Y5 [(1,4,a)] λb=>
 CV true s 5 Y5 1 [(0,5,b)] λc d=>
 cS R N O T t0 t5 c (AA 0) d QR):AGy R N O T t0 t5 s QR:=
 pC MH cF h
theorem mD (h :
 BO s t5 λa=>
 xI .lss t10 a λb=>
 AO b (
 AGz R N O T t0 t5 t9 t10 s QR) (
 AG0 R N O T t9 s QR)):cS R N O T t0 t5 t9 t10 s QR:=
 pL MH cF h
theorem AFV (h :
 mC R N O T t0 t5 t9 t10 (.AB []) (AA 0) s QR):AGz R N O T t0 t5 t9 t10 s QR:=
 pC MH cF h
theorem AFU (h :
 QR t9 s):AG0 R N O T t9 s QR:=
 pC MH cF h
theorem xE (h :
 BO s t9 λa=>
 xI .lss t12 a λb=>
 AO b (
 ze R N O T t0 t5 t9 t10 t11 t12 s QR) (
 iC R N O T t0 t5 t10 t11 s QR)):mC R N O T t0 t5 t9 t10 t11 t12 s QR:=
 pL MH cF h
theorem AMN (h :
 Ys R N O T t0 t5 t9 t10 t11 t12 (AA 0) s QR):ze R N O T t0 t5 t9 t10 t11 t12 s QR:=
 pC MH cF h
theorem xH (h :
 xC R 98 N O T 99 [t0,t11] s λa b=>
 zf R N O T t0 t5 a t10 b QR):iC R N O T t0 t5 t10 t11 s QR:=
 pC MH cF h
theorem xD (h :
 Bh s 1 t5 t10 λa=>
 xL R s a λb=>
 BO s b λc=>
 xI .lss t13 c λd=>
 AO d (
 hU R N O T t0 t5 t9 t10 t11 t12 t13 s QR) (
 iB R N O T t0 t5 t9 t10 t11 t12 s QR)):Ys R N O T t0 t5 t9 t10 t11 t12 t13 s QR:=
 pL MH cF h
theorem xJ (h :
 xI .add t10 (AA 1) λa=>
 cS R N O T t0 t5 t9 a s QR):zf R N O T t0 t5 t9 t10 s QR:=
 pC MH cF h
theorem AMK (h :
 Bh s 5 t9 t12 λa=>
 xM R s 5 a λb=>
 CI s Y5 λc d=>
 CJ (lf R 98 N O T) d 5 c b λe=>
 CV false (⟨e.bs++[Y4],e.ts⟩:AM) 4 Y4 0 [] λf g=>
 A0 (⟨e.bs++[Y4],e.ts⟩:AM) c 1 λi=>
 A0 (⟨e.bs++[Y4],e.ts⟩:AM) i 3 λj=>
 D6 (env R) (⟨e.bs++[Y4],e.ts⟩:AM) none j λk=>
(4=4/\4≠0)/\Ct false (lf R 98 N O T) (⟨e.bs++[Y4],e.ts⟩:AM) 25 4 56 f k λl m=>
 Bh m 1 t5 t10 λn=>
 xL R m n λo=>
 Bh m 5 o t13 λp=>
 A0 m p 1 λq=>
 xM R m 4 q λu=>
 A0 m c 0 λw=>
 xL R m w λx=>
 BO m x λy=>
 xC R 98 N O T 112 [u,y] m λz aa=>
 CV false aa 4 Y4 1 [(0,4,z)] λab ac=>
(4=4/\4≠0)/\Ct false (lf R 98 N O T) aa 25 4 56 l ab λad ae=>
 CU Y4 [(0,1,(AA 3)),(3,1,ad)] λaf=>
 CJ (lf R 98 N O T) ae 4 (.ptr e.bs.length 0) af λag=>
(Bh (⟨e.bs++[Y4],e.ts⟩:AM) 1 t5 t10 λah=>Bg ah n=true) /\
(D6 (env R) (⟨e.bs++[Y4],e.ts⟩:AM) none n λai=>Bg ai o=true) /\
(Bh (⟨e.bs++[Y4],e.ts⟩:AM) 5 o t13 λaj=>Bg aj p=true) /\
(A0 (⟨e.bs++[Y4],e.ts⟩:AM) p 1 λak=>Bg ak q=true) /\
(D6 (env R) (⟨e.bs++[Y4],e.ts⟩:AM) (some 4) q λal=>Bg al u=true) /\
(A0 (⟨e.bs++[Y4],e.ts⟩:AM) c 0 λam=>Bg am w=true) /\
(D6 (env R) (⟨e.bs++[Y4],e.ts⟩:AM) none w λan=>Bg an x=true) /\
(BO (⟨e.bs++[Y4],e.ts⟩:AM) x λao=>Bg ao y=true) /\
(wO (IK (.ptr e.bs.length 0)) λid=>wO (⟨e.bs++[Y4],e.ts⟩:AM).bs[id]? λcs'=>Hx cs' Y4=true) /\
(wO (IK (.ptr e.bs.length 0)) λid=>wO m.bs[id]? λcs'=>Hx cs' Y4=true) /\
(wO (IK (.ptr e.bs.length 0)) λid=>wO aa.bs[id]? λcs'=>Hx cs' Y4=true) /\
(wO (IK (.ptr e.bs.length 0)) λid=>wO ae.bs[id]? λcs'=>Hx cs' Y4=true) /\
 CV false ag 4 Y4 0 [] λap aq=>
 xF R ag c 0 λau=>
(4=4/\4≠0)/\Ct false (lf R 98 N O T) ag 25 4 56 ap au λav aw=>
 Bh aw 1 t5 t10 λax=>
 xL R aw ax λay=>
 Bh aw 5 ay t13 λaz=>
 A0 aw az 0 λa0=>
 xL R aw a0 λa1=>
(4=4/\4≠0)/\Ct false (lf R 98 N O T) aw 25 4 56 av a1 λa2 a3=>
 xM R a3 4 (.ptr e.bs.length 0) λa4=>
 CU Y5 [(0,1,a2),(1,4,a4)] λa5=>
 CV true a3 5 Y5 1 [(0,5,a5)] λa6 a7=>
(5=5/\5≠0)/\Ct true (lf R 98 N O T) a7 45 5 80 t11 a6 λa8 a9=>
(Bh ag 1 t5 t10 λba=>Bg ba ax=true) /\
(xL R ag ax λbb=>Bg bb ay=true) /\
(Bh ag 5 ay t13 λbc=>Bg bc az=true) /\
(A0 ag az 0 λbd=>Bg bd a0=true) /\
(xL R ag a0 λbe=>Bg be a1=true) /\
(xM R ag 4 (.ptr e.bs.length 0) λbf=>Bg bf a4=true) /\
(xM R aw 4 (.ptr e.bs.length 0) λbg=>Bg bg a4=true) /\
 hO R N O T t0 t5 t9 t10 a8 t12 t13 a9 QR):hU R N O T t0 t5 t9 t10 t11 t12 t13 s QR:=
 pC MH cF h
theorem AMO (h :
 xI .add t12 (AA 1) λa=>
 mC R N O T t0 t5 t9 t10 t11 a s QR):iB R N O T t0 t5 t9 t10 t11 t12 s QR:=
 pC MH cF h
theorem AML (h :
 xI .add t13 (AA 1) λa=>
 Ys R N O T t0 t5 t9 t10 t11 t12 a s QR):hO R N O T t0 t5 t9 t10 t11 t12 t13 s QR:=
 pC MH cF h
theorem m98 {L:A8} {Post:AV->AM->Prop} (hn:Bi [t0,t1]=false) (h:AGw R 0 L.ro L.rt t0 t1 s (QM (L.rr 98) s.bs.length Post)):∃v s',Post v s'/\BD (env R) L 98 [t0,t1] s v s':=
 hM Tryz.func98 hn h
theorem ARY (h :
 DT s t0 λa=>
 xF R s a 0 λc=>
 g0 c true s t1 λd e=>
 g1 c true e (BO e d) λg i=>
 g1 c true i (xI .gtr g (AA 32)) λk l=>
 A6 c k (BB false) λm=>
 AO m (
 DT l t0 λn=>
 A0 l n 1 λo=>
 CJ (lf R 99 N O T) l 1 o (BB true) λp=>
 mA R N O T t0 t1 p QR) (
 mA R N O T t0 t1 l QR)):AG1 R N O T t0 t1 s QR:=
 pC AMr cF h
theorem AFR (h :
 DT s t0 λa=>
 xF R s a 1 λc=>
 AO c (
 QR (.AB []) s) (
 AG2 R N O T t1 s QR)):mA R N O T t0 t1 s QR:=
 pC AMr cF h
theorem ARa (h :
 QR t1 s):AG2 R N O T t1 s QR:=
 pC AMr cF h
theorem m99 {L:A8} {Post:AV->AM->Prop} (hn:Bi [t0,t1]=false) (h:AG1 R 0 L.ro L.rt t0 t1 s (QM (L.rr 99) s.bs.length Post)):∃v s',Post v s'/\BD (env R) L 99 [t0,t1] s v s':=
 hM Tryz.func99 hn h
theorem AMH (h :
 Bs s t1 λa b=>
 Bs b t2 λc d=>
 xF R d a 0 λf=>
 BO d f λg=>
 xG R d a 1 4 λj=>
 xC R 100 N O T 128 [j,g] d λk l=>
 CI l Y4 λm n=>
 CJ (lf R 100 N O T) n 4 m k λo=>
 xM R o 4 m λp=>
 xC R 100 N O T 66 [p,g] o λq u=>
 AO q (
 CV false u 4 Y4 0 [] λw x=>
 xF R u a 0 λz=>
(4=4/\4≠0)/\Ct false (lf R 100 N O T) u 25 4 56 w z λaa ab=>
 xM R ab 4 c λac=>
 CV false ab 4 Y4 1 [(0,4,ac)] λad ae=>
(4=4/\4≠0)/\Ct false (lf R 100 N O T) ab 25 4 56 aa ad λaf ag=>
 xM R ag 4 m λah=>
 CU Y5 [(0,1,af),(1,4,ah)] λai=>
 CV true ag 5 Y5 1 [(0,5,ai)] λaj ak=>
(xM R u 4 c λal=>Bg al ac=true) /\
(xM R u 4 m λam=>Bg am ah=true) /\
(xM R ab 4 m λan=>Bg an ah=true) /\
 QR aj ak) (
 zi R N O T t0 a c g m u QR)):zh R N O T t0 t1 t2 s QR:=
 pC zg cF h
theorem AMI (h :
 xM R s 4 t8 λa=>
 xC R 100 N O T 82 [a,t7,(AA 1073741824)] s λb c=>
 A0 c t4 1 λd=>
 CJ (lf R 100 N O T) c 4 d b λe=>
 xM R e 5 t4 λf=>
 xC R 100 N O T 129 [f] e λg i=>
 xI .lss g (AA 0) λj=>
 AO j (
 xM R i 5 t4 λk=>
 CV true i 5 Y5 1 [(0,5,k)] λl m=>
 QR l m) (
 zj R N O T t0 t4 t5 i QR)):zi R N O T t0 t4 t5 t7 t8 s QR:=
 pC zg cF h
theorem AMJ (h :
 xM R s 5 t4 λa=>
 xM R s 4 t5 λb=>
 xC R 100 N O T 49 [t0,b] s λc d=>
 xC R 100 N O T 130 [t0,a,c] d λe f=>
(xM R d 5 t4 λg=>Bg g a=true) /\
 QR e f):zj R N O T t0 t4 t5 s QR:=
 pC zg cF h
theorem AXr {L:A8} {Post:AV->AM->Prop} (hn:Bi [t0,t1,t2]=false) (h:zh R 0 L.ro L.rt t0 t1 t2 s (QM (L.rr 100) s.bs.length Post)):∃v s',Post v s'/\BD (env R) L 100 [t0,t1,t2] s v s':=
 hM Tryz.func100 hn h
theorem ALr (h :
 Bs s t0 λa b=>
 CI b Y4 λc d=>
 xF R d a 0 λf=>
 xI .eql f (AA 5) λg=>
 AO g (
 xF R d a 2 λj=>
 xI .geq j (AA 0) λk=>
 g1 k true d (A0 d a 2) λm n=>
 g1 k true n (xL R n m) λp q=>
 g1 k true q (xI .neq p (AA 1073741824)) λv w=>
 A6 k v (BB false) λx=>
 AO x (
 xF R w a 2 λz=>
 xI .add z t1 λaa=>
 A0 w a 2 λab=>
 CJ (lf R 112 N O T) w 1 ab aa λac=>
 Yl R N O T a c ac QR) (
 Yl R N O T a c w QR)) (
 zl R N O T t1 a c d QR)):gT R N O T t0 t1 s QR:=
 pC zk cF h
theorem wY (h :
 xM R s 4 t2 λa=>
 CJ (lf R 112 N O T) s 4 t4 a λb=>
 xM R b 4 t4 λc=>
 QR c b):Yl R N O T t2 t4 s QR:=
 pC zk cF h
theorem ALs (h :
 xM R s 4 t2 λa=>
 xC R 112 N O T 127 [a,(AA 0),t1] s λb c=>
 CJ (lf R 112 N O T) c 4 t4 b λd=>
 xM R d 4 t4 λe=>
 QR e d):zl R N O T t1 t2 t4 s QR:=
 pC zk cF h
theorem AXg {u0 u1:AV} {Post:AV->Prop} (Be:AY [] 0 0 [t0,t1]=some [u0,u1]) (h:gT R 0 0 0 u0 u1 ⟨[],[]⟩ (QP Post)):AL (env R) 112 [t0,t1] Post:=
 hR Tryz.func112 Be h
theorem ARH (h :
 Bs s t0 λa b=>
 CI b Y4 λc d=>
 xF R d a 0 λf=>
 xI .eql f (AA 5) λg=>
 AO g (
 xF R d a 2 λj=>
 xI .sub (AA (-1)) j λk=>
 xC R 97 N O T 25 [k] d λl m=>
 CJ (lf R 97 N O T) m 4 c l λn=>
 xM R n 4 c λo=>
 QR o n) (
 AG3 R N O T a c d QR)):wZ R N O T t0 s QR:=
 pC ATy cF h
theorem ARI (h :
 xM R s 4 t1 λa=>
 xC R 97 N O T 127 [a,(AA 1),(AA 0)] s λb c=>
 CJ (lf R 97 N O T) c 4 t2 b λd=>
 xM R d 4 t2 λe=>
 QR e d):AG3 R N O T t1 t2 s QR:=
 pC ATy cF h
theorem e97 {u0:AV} {Post:AV->Prop} (Be:AY [] 0 0 [t0]=some [u0]) (h:wZ R 0 0 0 u0 ⟨[],[]⟩ (QP Post)):AL (env R) 97 [t0] Post:=
 hR Tryz.func97 Be h
theorem ALp (h :
 Bs s t0 λa b=>
 CI b Y4 λc d=>
 xF R d a 0 λf=>
 xI .neq f (AA 3) λg=>
 g1 g true d (A0 d a 0) λj k=>
 g1 g true k (xL R k j) λm n=>
 g1 g true n (xI .neq m (AA 2)) λp q=>
 A6 g p (BB false) λu=>
 AO u (
 xM R q 4 a λv=>
 CJ (lf R 127 N O T) q 4 c v λw=>
 xM R w 4 c λx=>
 QR x w) (
 gS R N O T t1 t2 a c q QR)):gR R N O T t0 t1 t2 s QR:=
 pC Wn cF h
theorem ALq (h :
 xM R s 4 t3 λa=>
 CI s Y4 λb c=>
 CJ (lf R 127 N O T) c 4 b a λd=>
 A0 d b 3 λe=>
 CJ (lf R 127 N O T) d 1 e (.AB []) λf=>
 Yj R N O T t1 t2 t3 t6 b (AA 0) f QR):gS R N O T t1 t2 t3 t6 s QR:=
 pC Wn cF h
theorem wX (h :
 xF R s t3 3 λb=>
 BO s b λc=>
 xI .lss t8 c λd=>
 AO d (
 zm R N O T t1 t2 t3 t6 t7 t8 s QR) (
 zn R N O T t6 t7 s QR)):Yj R N O T t1 t2 t3 t6 t7 t8 s QR:=
 pL Wn cF h
theorem ALo (h :
 xI .eql t1 (AA 0) λa=>
 AO a (
 A0 s t7 3 λb=>
 xL R s b λc=>
 xF R s t3 3 λe=>
 Bh s 4 e t8 λf=>
 xM R s 4 f λg=>
 xC R 127 N O T 112 [g,t2] s λi j=>
 CV false j 4 Y4 1 [(0,4,i)] λk l=>
(4=4/\4≠0)/\Ct false (lf R 127 N O T) j 25 4 56 c k λm n=>
 A0 n t7 3 λo=>
 CJ (lf R 127 N O T) n 1 o m λp=>
(A0 j t7 3 λq=>Bg q b=true) /\
(xL R j b λu=>Bg u c=true) /\
 Tu R N O T t1 t2 t3 t6 t7 t8 p QR) (
 xI .eql t1 (AA 1) λw=>
 AO w (
 A0 s t7 3 λx=>
 xL R s x λy=>
 xF R s t3 3 λaa=>
 Bh s 4 aa t8 λab=>
 xM R s 4 ab λac=>
 xC R 127 N O T 97 [ac] s λad ae=>
 CV false ae 4 Y4 1 [(0,4,ad)] λaf ag=>
(4=4/\4≠0)/\Ct false (lf R 127 N O T) ae 25 4 56 y af λah ai=>
 A0 ai t7 3 λaj=>
 CJ (lf R 127 N O T) ai 1 aj ah λak=>
(A0 ae t7 3 λal=>Bg al x=true) /\
(xL R ae x λam=>Bg am y=true) /\
 Tu R N O T t1 t2 t3 t6 t7 t8 ak QR) (
 A0 s t7 3 λan=>
 xL R s an λao=>
 xF R s t3 3 λaq=>
 Bh s 4 aq t8 λar=>
 xM R s 4 ar λau=>
 xC R 127 N O T 128 [au,t2] s λav aw=>
 CV false aw 4 Y4 1 [(0,4,av)] λax ay=>
(4=4/\4≠0)/\Ct false (lf R 127 N O T) aw 25 4 56 ao ax λaz a0=>
 A0 a0 t7 3 λa1=>
 CJ (lf R 127 N O T) a0 1 a1 az λa2=>
(A0 aw t7 3 λa3=>Bg a3 an=true) /\
(xL R aw an λa4=>Bg a4 ao=true) /\
 Tu R N O T t1 t2 t3 t6 t7 t8 a2 QR))):zm R N O T t1 t2 t3 t6 t7 t8 s QR:=
 pC Wn cF h
theorem ALl (h :
 xM R s 4 t7 λa=>
 CJ (lf R 127 N O T) s 4 t6 a λb=>
 xM R b 4 t6 λc=>
 QR c b):zn R N O T t6 t7 s QR:=
 pC Wn cF h
theorem ALn (h :
 xI .add t8 (AA 1) λa=>
 Yj R N O T t1 t2 t3 t6 t7 a s QR):Tu R N O T t1 t2 t3 t6 t7 t8 s QR:=
 pC Wn cF h
theorem AXf {u0 u1 u2:AV} {Post:AV->Prop} (Be:AY [] 0 0 [t0,t1,t2]=some [u0,u1,u2]) (h:gR R 0 0 0 u0 u1 u2 ⟨[],[]⟩ (QP Post)):AL (env R) 127 [t0,t1,t2] Post:=
 hR Tryz.func127 Be h
theorem ALt (h :
 Bs s t0 λa b=>
 CI b Y4 λc d=>
 xF R d a 0 λf=>
 xI .eql f (AA 5) λg=>
 AO g (
 xF R d a 2 λj=>
 xI .eql j (AA (-1)) λk=>
 AO k (
 xC R 128 N O T 25 [t1] d λl m=>
 CJ (lf R 128 N O T) m 4 c l λn=>
 xM R n 4 c λo=>
 QR o n) (
 xF R d a 2 λq=>
 xI .lss q (AA 0) λu=>
 AO u (
 xF R d a 2 λw=>
 xI .add w (AA 1) λx=>
 xC R 128 N O T 25 [x] d λy z=>
 CJ (lf R 128 N O T) z 4 c y λaa=>
 xM R aa 4 c λab=>
 QR ab aa) (
 zq R N O T a c d QR))) (
 zu R N O T t1 a c d QR)):gU R N O T t0 t1 s QR:=
 pC zo cF h
theorem ALu (h :
 xM R s 4 t2 λa=>
 CJ (lf R 128 N O T) s 4 t4 a λb=>
 xM R b 4 t4 λc=>
 QR c b):zq R N O T t2 t4 s QR:=
 pC zo cF h
theorem ALv (h :
 xM R s 4 t2 λa=>
 xC R 128 N O T 127 [a,(AA 2),t1] s λb c=>
 CJ (lf R 128 N O T) c 4 t4 b λd=>
 xM R d 4 t4 λe=>
 QR e d):zu R N O T t1 t2 t4 s QR:=
 pC zo cF h
theorem AXh {u0 u1:AV} {Post:AV->Prop} (Be:AY [] 0 0 [t0,t1]=some [u0,u1]) (h:gU R 0 0 0 u0 u1 ⟨[],[]⟩ (QP Post)):AL (env R) 128 [t0,t1] Post:=
 hR Tryz.func128 Be h
theorem ARB (h :
 Bs s t0 λa b=>
 CI b Y4 λc d=>
 xF R d a 0 λf=>
 xI .eql f (AA 5) λg=>
 AO g (
 xF R d a 2 λj=>
 xI .eql j t1 λk=>
 AO k (
 xC R 82 N O T 25 [t2] d λl m=>
 CJ (lf R 82 N O T) m 4 c l λn=>
 xM R n 4 c λo=>
 QR o n) (
 AG6 R N O T a c d QR)) (
 AG7 R N O T t1 t2 a c d QR)):wV R N O T t0 t1 t2 s QR:=
 pC c8 cF h
theorem ARC (h :
 xM R s 4 t3 λa=>
 CJ (lf R 82 N O T) s 4 t6 a λb=>
 xM R b 4 t6 λc=>
 QR c b):AG6 R N O T t3 t6 s QR:=
 pC c8 cF h
theorem ARD (h :
 xF R s t3 0 λb=>
 xI .neq b (AA 3) λc=>
 g1 c true s (A0 s t3 0) λe f=>
 g1 c true f (xL R f e) λi j=>
 g1 c true j (xI .neq i (AA 2)) λl m=>
 A6 c l (BB false) λn=>
 AO n (
 xM R m 4 t3 λo=>
 CJ (lf R 82 N O T) m 4 t6 o λp=>
 xM R p 4 t6 λq=>
 QR q p) (
 wW R N O T t1 t2 t3 t6 m QR)):AG7 R N O T t1 t2 t3 t6 s QR:=
 pC c8 cF h
theorem ARF (h :
 xM R s 4 t3 λa=>
 CI s Y4 λb c=>
 CJ (lf R 82 N O T) c 4 b a λd=>
 A0 d b 3 λe=>
 CJ (lf R 82 N O T) d 1 e (.AB []) λf=>
 lT R N O T t1 t2 t3 t6 b (AA 0) f QR):wW R N O T t1 t2 t3 t6 s QR:=
 pC c8 cF h
theorem AFO (h :
 xF R s t3 3 λb=>
 BO s b λc=>
 xI .lss t8 c λd=>
 AO d (
 AG8 R N O T t1 t2 t3 t6 t7 t8 s QR) (
 AG9 R N O T t6 t7 s QR)):lT R N O T t1 t2 t3 t6 t7 t8 s QR:=
 pL c8 cF h
theorem AQ9 (h :
 A0 s t7 3 λa=>
 xL R s a λb=>
 xF R s t3 3 λd=>
 Bh s 4 d t8 λe=>
 xM R s 4 e λf=>
 xC R 82 N O T 82 [f,t1,t2] s λg i=>
 CV false i 4 Y4 1 [(0,4,g)] λj k=>
(4=4/\4≠0)/\Ct false (lf R 82 N O T) i 25 4 56 b j λl m=>
 A0 m t7 3 λn=>
 CJ (lf R 82 N O T) m 1 n l λo=>
(A0 i t7 3 λp=>Bg p a=true) /\
(xL R i a λq=>Bg q b=true) /\
 AHA R N O T t1 t2 t3 t6 t7 t8 o QR):AG8 R N O T t1 t2 t3 t6 t7 t8 s QR:=
 pC c8 cF h
theorem AQ8 (h :
 xM R s 4 t7 λa=>
 CJ (lf R 82 N O T) s 4 t6 a λb=>
 xM R b 4 t6 λc=>
 QR c b):AG9 R N O T t6 t7 s QR:=
 pC c8 cF h
theorem ARA (h :
 xI .add t8 (AA 1) λa=>
 lT R N O T t1 t2 t3 t6 t7 a s QR):AHA R N O T t1 t2 t3 t6 t7 t8 s QR:=
 pC c8 cF h
theorem e82 {u0 u1 u2:AV} {Post:AV->Prop} (Be:AY [] 0 0 [t0,t1,t2]=some [u0,u1,u2]) (h:wV R 0 0 0 u0 u1 u2 ⟨[],[]⟩ (QP Post)):AL (env R) 82 [t0,t1,t2] Post:=
 hR Tryz.func82 Be h
theorem AL7 (h :
 Bs s t0 λa b=>
 Bs b t2 λc d=>
 CI d Y4 λe f=>
 xF R f a 0 λi=>
 xI .eql i (AA 5) λj=>
 AO j (
 DT f t1 λk=>
 xL R f k λl=>
 xI .sub l (AA 1) λm=>
 DT f t1 λn=>
 CJ (lf R 111 N O T) f 1 n m λo=>
 DT o t1 λp=>
 xL R o p λq=>
 xI .eql q (AA (-1)) λu=>
 AO u (
 xM R o 4 c λv=>
 CJ (lf R 111 N O T) o 4 e v λw=>
 xM R w 4 e λx=>
 QR x w) (
 zx R N O T a e o QR)) (
 zy R N O T t1 a c e f QR)):zw R N O T t0 t1 t2 s QR:=
 pC Qw cF h
theorem AL8 (h :
 xM R s 4 t3 λa=>
 CJ (lf R 111 N O T) s 4 t6 a λb=>
 xM R b 4 t6 λc=>
 QR c b):zx R N O T t3 t6 s QR:=
 pC Qw cF h
theorem AL9 (h :
 xF R s t3 0 λb=>
 xI .neq b (AA 3) λc=>
 AO c (
 xM R s 4 t3 λd=>
 CJ (lf R 111 N O T) s 4 t6 d λe=>
 xM R e 4 t6 λf=>
 QR f e) (
 z6 R N O T t1 t3 t5 t6 s QR)):zy R N O T t1 t3 t5 t6 s QR:=
 pC Qw cF h
theorem AMA (h :
 xM R s 4 t3 λa=>
 CI s Y4 λb c=>
 CJ (lf R 111 N O T) c 4 b a λd=>
 A0 d b 3 λe=>
 CJ (lf R 111 N O T) d 1 e (.AB []) λf=>
 T3 R N O T t1 t3 t5 t6 b (AA 0) f QR):z6 R N O T t1 t3 t5 t6 s QR:=
 pC Qw cF h
theorem wz (h :
 xF R s t3 3 λb=>
 BO s b λc=>
 xI .lss t8 c λd=>
 AO d (
 z7 R N O T t1 t3 t5 t6 t7 t8 s QR) (
 z8 R N O T t6 t7 s QR)):T3 R N O T t1 t3 t5 t6 t7 t8 s QR:=
 pL Qw cF h
theorem AL5 (h :
 A0 s t7 3 λa=>
 xL R s a λb=>
 xF R s t3 3 λd=>
 Bh s 4 d t8 λe=>
 xM R s 4 e λf=>
 xM R s 4 t5 λg=>
 xC R 111 N O T 111 [f,t1,g] s λi j=>
 CV false j 4 Y4 1 [(0,4,i)] λk l=>
(4=4/\4≠0)/\Ct false (lf R 111 N O T) j 25 4 56 b k λm n=>
 A0 n t7 3 λo=>
 CJ (lf R 111 N O T) n 1 o m λp=>
(A0 j t7 3 λq=>Bg q a=true) /\
(xL R j a λu=>Bg u b=true) /\
 AAA R N O T t1 t3 t5 t6 t7 t8 p QR):z7 R N O T t1 t3 t5 t6 t7 t8 s QR:=
 pC Qw cF h
theorem AL4 (h :
 xM R s 4 t7 λa=>
 CJ (lf R 111 N O T) s 4 t6 a λb=>
 xM R b 4 t6 λc=>
 QR c b):z8 R N O T t6 t7 s QR:=
 pC Qw cF h
theorem AL6 (h :
 xI .add t8 (AA 1) λa=>
 T3 R N O T t1 t3 t5 t6 t7 a s QR):AAA R N O T t1 t3 t5 t6 t7 t8 s QR:=
 pC Qw cF h
theorem AXk {L:A8} {Post:AV->AM->Prop} (hn:Bi [t0,t1,t2]=false) (h:zw R 0 L.ro L.rt t0 t1 t2 s (QM (L.rr 111) s.bs.length Post)):∃v s',Post v s'/\BD (env R) L 111 [t0,t1,t2] s v s':=
 hM Tryz.func111 hn h
theorem ARR (h :
 Bs s t0 λa b=>
 Bs b t1 λc d=>
 Bs d t2 λe f=>
 CI f Y5 λg i=>
 CV false i 4 Y4 0 [] λj k=>
 xF R i a 0 λm=>
(4=4/\4≠0)/\Ct false (lf R 78 N O T) i 25 4 56 j m λn o=>
 A0 o e 0 λp=>
 xL R o p λq=>
(4=4/\4≠0)/\Ct false (lf R 78 N O T) o 25 4 56 n q λu w=>
 A0 w a 1 λx=>
 xM R w 4 x λy=>
 A0 w e 1 λz=>
 xM R w 4 z λaa=>
 A0 w a 0 λab=>
 xL R w ab λac=>
 BO w ac λad=>
 xC R 78 N O T 112 [aa,ad] w λae af=>
 xC R 78 N O T 111 [y,c,ae] af λag ah=>
 CU Y5 [(0,1,u),(1,4,ag)] λai=>
 CJ (lf R 78 N O T) ah 5 g ai λaj=>
(A0 i e 0 λak=>Bg ak p=true) /\
(xL R i p λal=>Bg al q=true) /\
(A0 i a 1 λam=>Bg am x=true) /\
(A0 o a 1 λan=>Bg an x=true) /\
(A0 af a 1 λao=>Bg ao x=true) /\
(xM R i 4 x λap=>Bg ap y=true) /\
(xM R o 4 x λaq=>Bg aq y=true) /\
(xM R af 4 x λar=>Bg ar y=true) /\
(A0 i e 1 λau=>Bg au z=true) /\
(A0 o e 1 λav=>Bg av z=true) /\
(xM R i 4 z λaw=>Bg aw aa=true) /\
(xM R o 4 z λax=>Bg ax aa=true) /\
(A0 i a 0 λay=>Bg ay ab=true) /\
(A0 o a 0 λaz=>Bg az ab=true) /\
(xL R i ab λa0=>Bg a0 ac=true) /\
(xL R o ab λa1=>Bg a1 ac=true) /\
(BO i ac λa2=>Bg a2 ad=true) /\
(BO o ac λba=>Bg ba ad=true) /\
 xM R aj 5 g λbb=>
 QR bb aj):lu R N O T t0 t1 t2 s QR:=
 pC AZV cF h
theorem e78 {Post:AV->Prop} (hn:Bi [t0,t1,t2]=true) (h:lu R 0 0 0 t0 t1 t2 ⟨[],[]⟩ (QP Post)):AL (env R) 78 [t0,t1,t2] Post:=
 HH (fn:=Tryz.f78) (body:=b78) Tryz.func78 (by kernel_rfl) (by kernel_rfl) (by kernel_rfl) (C1 (by kernel_rfl)) hn (nC h (by kernel_rfl))
theorem m78 {L:A8} {Post:AV->AM->Prop} (hn:Bi [t0,t1,t2]=false) (h:lu R 0 L.ro L.rt t0 t1 t2 s (QM (L.rr 78) s.bs.length Post)):∃v s',Post v s'/\BD (env R) L 78 [t0,t1,t2] s v s':=
 hM Tryz.func78 hn h
theorem AL3 (h :
 Bs s t0 λa b=>
 xG R b a 1 4 λd=>
 xC R 129 N O T 76 [d] b λe f=>
 Yn R N O T e (AA 0) f QR):AAD R N O T t0 s QR:=
 pC dB cF h
theorem wo (h :
 BO s t3 λa=>
 xI .lss t4 a λb=>
 AO b (
 AAE R N O T t3 t4 s QR) (
 AAF R N O T  s QR)):Yn R N O T t3 t4 s QR:=
 pL dB cF h
theorem AL1 (h :
 Bh s 1 t3 t4 λa=>
 xL R s a λb=>
 xI .eql b (AA 1073741824) λc=>
 AO c (
 QR t4 s) (
 AAG R N O T t3 t4 s QR)):AAE R N O T t3 t4 s QR:=
 pC dB cF h
theorem AL0 (h :
 QR (AA (-1)) s):AAF R N O T  s QR:=
 pC dB cF h
theorem AL2 (h :
 xI .add t4 (AA 1) λa=>
 Yn R N O T t3 a s QR):AAG R N O T t3 t4 s QR:=
 pC dB cF h
theorem AXj {u0:AV} {Post:AV->Prop} (Be:AY [] 0 0 [t0]=some [u0]) (h:AAD R 0 0 0 u0 ⟨[],[]⟩ (QP Post)):AL (env R) 129 [t0] Post:=
 hR Tryz.func129 Be h
theorem w9 (h :
 Bs s t1 λa b=>
 xM R b 5 a λc=>
 xC R 130 N O T 129 [c] b λd e=>
 xI .lss d (AA 0) λf=>
 AO f (
 xM R e 5 a λg=>
 CV true e 5 Y5 1 [(0,5,g)] λi j=>
 QR i j) (
 AAI R N O T t0 t2 a d e QR)):AAH R N O T t0 t1 t2 s QR:=
 pC Wo cF h
theorem AMF (h :
 T5 R N O T t0 t2 t4 t7 (.AB []) (AA 0) s QR):AAI R N O T t0 t2 t4 t7 s QR:=
 pC Wo cF h
theorem gu (h :
 BO s t2 λa=>
 xI .lss t9 a λb=>
 g0 b true s t0 λc d=>
 g1 b true d (DT d c) λf g=>
 g1 b true g (A0 g f 1) λj k=>
 g1 b true k (xL R k j) λm n=>
 g1 b true n (Dt m) λp q=>
 A6 b p (BB false) λu=>
 AO u (
 AAJ R N O T t0 t2 t4 t7 t8 t9 q QR) (
 AAK R N O T t8 q QR)):T5 R N O T t0 t2 t4 t7 t8 t9 s QR:=
 pL Wo cF h
theorem AMD (h :
 xM R s 5 t4 λa=>
 Bh s 5 t2 t9 λb=>
 xM R s 5 b λc=>
 xC R 130 N O T 78 [a,t7,c] s λd e=>
 xC R 130 N O T 130 [t0,d,t2] e λf g=>
(5=5/\5≠0)/\Ct true (lf R 130 N O T) g 45 5 80 t8 f λi j=>
 DT j t0 λk=>
 xF R j k 0 λm=>
 g0 m true j i λn o=>
 g1 m true o (BO o n) λq u=>
 g1 m true u (xI .gtr q (AA 32)) λw x=>
 A6 m w (BB false) λy=>
 AO y (
 DT x t0 λz=>
 A0 x z 1 λaa=>
 CJ (lf R 130 N O T) x 1 aa (BB true) λab=>
 Yp R N O T t0 t2 t4 t7 i t9 ab QR) (
 Yp R N O T t0 t2 t4 t7 i t9 x QR)):AAJ R N O T t0 t2 t4 t7 t8 t9 s QR:=
 pC Wo cF h
theorem gv (h :
 QR t8 s):AAK R N O T t8 s QR:=
 pC Wo cF h
theorem gw (h :
 xI .add t9 (AA 1) λa=>
 T5 R N O T t0 t2 t4 t7 t8 a s QR):Yp R N O T t0 t2 t4 t7 t8 t9 s QR:=
 pC Wo cF h
theorem ARX {L:A8} {Post:AV->AM->Prop} (hn:Bi [t0,t1,t2]=false) (h:AAH R 0 L.ro L.rt t0 t1 t2 s (QM (L.rr 130) s.bs.length Post)):∃v s',Post v s'/\BD (env R) L 130 [t0,t1,t2] s v s':=
 hM Tryz.func130 hn h
end
noncomputable section
section
variable (R:RT) (N O T:Nat) (t0 t1 t2 t3 t5 t6 t7 t8 t9:AV)
noncomputable def b35:Code:=Tryz.f35.body.getD .skip
def AZW:Nat->List Nat:=ln [[],[2,3]]
abbrev Q35:=Wq R N O T 35 9 [.tmp 4]
def AHB:=Q35 R N O T (aT b35 1) [(0,t0),(1,t1)]
noncomputable def b79:Code:=Tryz.f79.body.getD .skip
def pn:Nat->List Nat:=ln ([]::[2,3]::[2,3,7]::[]::[2,3,19]::[]::[2,3,31]::[]::[2,3,43]::[2,3]::rp 3 [2,3,5] [[2,3,5,6],[2,3,5,6,78],[]])
abbrev Q79:=Wq R N O T 79 80 [.tmp 4]
def uy:=Q79 R N O T (aT b79 1) [(0,t0),(1,t1)]
def AHC:=Q79 R N O T (aT b79 7) [(2,t2),(3,t3)]
def kJ:=Q79 R N O T (aT b79 58) [(2,t2),(3,t3),(5,t5)]
def AHD:=Q79 R N O T (aT b79 233) [(2,t2),(3,t3),(5,t5)]
def AHE:=Q79 R N O T (aT b79 15) []
def AHF:=Q79 R N O T (aT b79 467) [(2,t2),(3,t3),(5,t5)]
noncomputable def ATz:Code:=Tryz.f113.body.getD .skip
def AHG:Nat->List Nat:=ln [[],[0],[3],[]]
abbrev AT0:=Wq R N O T 113 4 [.tmp 2]
def AAL:=AT0 R N O T (aT ATz 1) [(0,t0)]
def AAM:=AT0 R N O T (aT ATz 7) []
noncomputable def b63:Code:=Tryz.f63.body.getD .skip
def AZX:Nat->List Nat:=ln [[],[2,3]]
abbrev Q63:=Wq R N O T 63 9 [.tmp 4]
def AHH:=Q63 R N O T (aT b63 1) [(0,t0),(1,t1)]
noncomputable def AAN:Code:=Tryz.f104.body.getD .skip
def dD:Nat->List Nat:=ln [[],[2,3],[2,3,5],[2,3,5,6],[2,3,5,6],[2,3,6],[5]]
abbrev AAO:=Wq R N O T 104 54 [.tmp 4]
def gN:=AAO R N O T (aT AAN 1) [(0,t0),(1,t1)]
def Tl:=AAO R N O T (aT AAN 58) [(2,t2),(3,t3),(5,t5),(6,t6)]
def AAP:=AAO R N O T (aT AAN 233) [(2,t2),(3,t3),(6,t6)]
def AAQ:=AAO R N O T (aT AAN 15) [(5,t5)]
def AAR:=AAO R N O T (aT AAN 467) [(2,t2),(3,t3),(5,t5),(6,t6)]
noncomputable def AAS:Code:=Tryz.f131.body.getD .skip
def dF:Nat->List Nat:=ln [[],[0],[0,3],[3,6,7,8],[3,6,7,8,9],[3,5,6,7,8],[3,5,6,7,8,14],[3,6,7,8],[3]]
abbrev AAT:=Wq R N O T 131 18 [.tmp 2]
def AAU:=AAT R N O T (aT AAS 1) [(0,t0)]
def Yh:=AAT R N O T (aT AAS 58) [(3,t3),(6,t6),(7,t7),(8,t8)]
def AAV:=AAT R N O T (aT AAS 467) [(3,t3),(6,t6),(7,t7),(8,t8),(9,t9)]
def AAW:=AAT R N O T (aT AAS 15) [(3,t3)]
def AAX:=AAT R N O T (aT AAS 935) [(3,t3),(6,t6),(7,t7),(8,t8)]
noncomputable def pq:Code:=Tryz.f132.body.getD .skip
def dG:Nat->List Nat:=ln [[],[0,1],[0,1,5],[0,1,5,6],[0,1,6,11],[12],[],[0,1,6],[0,1,13],[0,1],[0,1,16],[0,1],[19],[]]
abbrev pz:=Wq R N O T 132 20 [.tmp 4]
def AAY:=pz R N O T (aT pq 1) [(0,t0),(1,t1)]
def AMy:=pz R N O T (aT pq 245) []
def AAZ:=pz R N O T (aT pq 31) [(0,t0),(1,t1),(6,t6)]
def AAa:=pz R N O T (aT pq 63) [(0,t0),(1,t1)]
def AAb:=pz R N O T (aT pq 127) [(0,t0),(1,t1)]
def AAc:=pz R N O T (aT pq 255) []
noncomputable def p9:Code:=Tryz.f133.body.getD .skip
def dH:Nat->List Nat:=ln [[],[0,1],[0,1,5],[0,1,5,6],[0,1,6,11],[12],[],[0,1,6],[0,1,13],[0,1],[0,1,16],[0,1],[19],[]]
abbrev qA:=Wq R N O T 133 20 [.tmp 4]
def AAd:=qA R N O T (aT p9 1) [(0,t0),(1,t1)]
def AMz:=qA R N O T (aT p9 245) []
def AAe:=qA R N O T (aT p9 31) [(0,t0),(1,t1),(6,t6)]
def AAf:=qA R N O T (aT p9 63) [(0,t0),(1,t1)]
def AAg:=qA R N O T (aT p9 127) [(0,t0),(1,t1)]
def AAh:=qA R N O T (aT p9 255) []
noncomputable def b17:Code:=Tryz.f17.body.getD .skip
def qB:Nat->List Nat:=ln ([]::[0,1]::[0,1,10]::[0,1]::rp 3 [0,1,5] [[0,1,5,26],[]])
abbrev Q17:=Wq R N O T 17 27 [.tmp 4]
def mW:=Q17 R N O T (aT b17 1) [(0,t0),(1,t1)]
def AHI:=Q17 R N O T (aT b17 7) [(0,t0),(1,t1)]
def mU:=Q17 R N O T (aT b17 58) [(0,t0),(1,t1),(5,t5)]
def AHJ:=Q17 R N O T (aT b17 233) [(0,t0),(1,t1),(5,t5)]
def AHK:=Q17 R N O T (aT b17 15) []
def AHL:=Q17 R N O T (aT b17 467) [(0,t0),(1,t1),(5,t5)]
noncomputable def b32:Code:=Tryz.f32.body.getD .skip
def AZY:Nat->List Nat:=ln [[],[2,3]]
abbrev Q32:=Wq R N O T 32 17 [.tmp 4]
def xp:=Q32 R N O T (aT b32 1) [(0,t0),(1,t1)]
noncomputable def b75:Code:=Tryz.f75.body.getD .skip
def qC:Nat->List Nat:=ln ([]::[0,1]::[0,1,10]::[0,1]::rp 3 [0,1,5] [[0,1,5,26],[]])
abbrev Q75:=Wq R N O T 75 27 [.tmp 4]
def xo:=Q75 R N O T (aT b75 1) [(0,t0),(1,t1)]
def AHM:=Q75 R N O T (aT b75 7) [(0,t0),(1,t1)]
def mT:=Q75 R N O T (aT b75 58) [(0,t0),(1,t1),(5,t5)]
def AHN:=Q75 R N O T (aT b75 233) [(0,t0),(1,t1),(5,t5)]
def AHO:=Q75 R N O T (aT b75 15) []
def AHP:=Q75 R N O T (aT b75 467) [(0,t0),(1,t1),(5,t5)]
end
variable {R:RT} {N O T:Nat} {s:AM} {QR:QT} {t0 t1 t2 t3 t5 t6 t7 t8 t9:AV}
theorem APY (h :
 Bs s t0 λa b=>
 Bs b t1 λc d=>
 xM R d 4 a λe=>
 xM R d 4 c λf=>
 xC R 35 N O T 79 [e,f] d λg i=>
 xI .eql g (AA 0) λj=>
 QR j i):AHB R N O T t0 t1 s QR:=
 pC AZW cF h
theorem e35 {u0 u1:AV} {Post:AV->Prop} (Be:AY [] 0 0 [t0,t1]=some [u0,u1]) (h:AHB R 0 0 0 u0 u1 ⟨[],[]⟩ (QP Post)):AL (env R) 35 [t0,t1] Post:=
 hR Tryz.func35 Be h
theorem APW (h :
 Bs s t0 λa b=>
 Bs b t1 λc d=>
 xF R d a 0 λf=>
 xF R d c 0 λi=>
 xI .neq f i λj=>
 AO j (
 xF R d a 0 λl=>
 xF R d c 0 λn=>
 xI .lss l n λo=>
 xC R 79 N O T 113 [o] d λp q=>
 QR p q) (
 xF R d a 1 λv=>
 xF R d c 1 λx=>
 F9 .neq v x λy=>
 AO y (
 xF R d a 1 λaa=>
 xF R d c 1 λac=>
 F9 .lss aa ac λad=>
 xC R 79 N O T 113 [ad] d λae af=>
 QR ae af) (
 xF R d a 2 λah=>
 xF R d c 2 λaj=>
 xI .neq ah aj λak=>
 AO ak (
 xF R d a 2 λam=>
 xF R d c 2 λao=>
 xI .lss am ao λap=>
 xC R 79 N O T 113 [ap] d λaq ar=>
 QR aq ar) (
 xF R d a 3 λav=>
 BO d av λaw=>
 xF R d c 3 λay=>
 BO d ay λaz=>
 xI .neq aw az λa0=>
 AO a0 (
 xF R d a 3 λa4=>
 BO d a4 λa5=>
 xF R d c 3 λa7=>
 BO d a7 λba=>
 xI .lss a5 ba λbb=>
 xC R 79 N O T 113 [bb] d λbc bd=>
 QR bc bd) (
 AHC R N O T a c d QR))))):uy R N O T t0 t1 s QR:=
 pC pn cF h
theorem APX (h :
 kJ R N O T t2 t3 (AA 0) s QR):AHC R N O T t2 t3 s QR:=
 pC pn cF h
theorem AEq (h :
 xF R s t2 3 λb=>
 BO s b λc=>
 xI .lss t5 c λd=>
 AO d (
 AHD R N O T t2 t3 t5 s QR) (
 AHE R N O T  s QR)):kJ R N O T t2 t3 t5 s QR:=
 pL pn cF h
theorem APU (h :
 xF R s t2 3 λb=>
 Bh s 4 b t5 λc=>
 xM R s 4 c λd=>
 xF R s t3 3 λf=>
 Bh s 4 f t5 λg=>
 xM R s 4 g λi=>
 xC R 79 N O T 79 [d,i] s λj k=>
 xI .neq j (AA 0) λl=>
 AO l (
 QR j k) (
 AHF R N O T t2 t3 t5 k QR)):AHD R N O T t2 t3 t5 s QR:=
 pC pn cF h
theorem APT (h :
 QR (AA 0) s):AHE R N O T  s QR:=
 pC pn cF h
theorem APV (h :
 xI .add t5 (AA 1) λa=>
 kJ R N O T t2 t3 a s QR):AHF R N O T t2 t3 t5 s QR:=
 pC pn cF h
theorem e79 {u0 u1:AV} {Post:AV->Prop} (Be:AY [] 0 0 [t0,t1]=some [u0,u1]) (h:uy R 0 0 0 u0 u1 ⟨[],[]⟩ (QP Post)):AL (env R) 79 [t0,t1] Post:=
 hR Tryz.func79 Be h
theorem AKJ (h :
 AO t0 (
 QR (AA (-1)) s) (
 AAM R N O T  s QR)):AAL R N O T t0 s QR:=
 pC AHG cF h
theorem AKK (h :
 QR (AA 1) s):AAM R N O T  s QR:=
 pC AHG cF h
theorem AWh {u0:AV} {Post:AV->Prop} (Be:AY [] 0 0 [t0]=some [u0]) (h:AAL R 0 0 0 u0 ⟨[],[]⟩ (QP Post)):AL (env R) 113 [t0] Post:=
 hR Tryz.func113 Be h
theorem AQp (h :
 Bs s t0 λa b=>
 Bs b t1 λc d=>
 xM R d 4 a λe=>
 xM R d 4 c λf=>
 xC R 63 N O T 104 [e,f] d λg i=>
 xI .eql g (AA 0) λj=>
 QR j i):AHH R N O T t0 t1 s QR:=
 pC AZX cF h
theorem e63 {u0 u1:AV} {Post:AV->Prop} (Be:AY [] 0 0 [t0,t1]=some [u0,u1]) (h:AHH R 0 0 0 u0 u1 ⟨[],[]⟩ (QP Post)):AL (env R) 63 [t0,t1] Post:=
 hR Tryz.func63 Be h
theorem ALg (h :
 Bs s t0 λa b=>
 Bs b t1 λc d=>
 xF R d a 0 λf=>
 xF R d c 0 λi=>
 xC R 104 N O T 132 [f,i] d λj k=>
 A0 k a 1 λl=>
 xL R k l λm=>
 A0 k c 1 λn=>
 xL R k n λo=>
 xC R 104 N O T 133 [m,o] k λp q=>
 A0 q a 2 λu=>
 xL R q u λw=>
 A0 q c 2 λx=>
 xL R q x λy=>
 xC R 104 N O T 132 [w,y] q λz aa=>
 A0 aa a 3 λab=>
 xL R aa ab λac=>
 BO aa ac λad=>
 A0 aa c 3 λae=>
 xL R aa ae λaf=>
 BO aa af λag=>
 xC R 104 N O T 132 [ad,ag] aa λah ai=>
 CV false ai 1 [(AA 0)] 4 [(0,1,j),(1,1,p),(2,1,z),(3,1,ah)] λaj ak=>
 xC R 104 N O T 131 [aj] ai λal am=>
(A0 d a 1 λan=>Bg an l=true) /\
(xL R d l λao=>Bg ao m=true) /\
(A0 d c 1 λap=>Bg ap n=true) /\
(xL R d n λaq=>Bg aq o=true) /\
(A0 d a 2 λar=>Bg ar u=true) /\
(A0 k a 2 λau=>Bg au u=true) /\
(xL R d u λav=>Bg av w=true) /\
(xL R k u λaw=>Bg aw w=true) /\
(A0 d c 2 λax=>Bg ax x=true) /\
(A0 k c 2 λay=>Bg ay x=true) /\
(xL R d x λaz=>Bg az y=true) /\
(xL R k x λa0=>Bg a0 y=true) /\
(A0 d a 3 λa1=>Bg a1 ab=true) /\
(A0 k a 3 λa4=>Bg a4 ab=true) /\
(A0 q a 3 λa5=>Bg a5 ab=true) /\
(xL R d ab λa6=>Bg a6 ac=true) /\
(xL R k ab λba=>Bg ba ac=true) /\
(xL R q ab λbb=>Bg bb ac=true) /\
(BO d ac λbc=>Bg bc ad=true) /\
(BO k ac λbd=>Bg bd ad=true) /\
(BO q ac λbe=>Bg be ad=true) /\
(A0 d c 3 λbf=>Bg bf ae=true) /\
(A0 k c 3 λbg=>Bg bg ae=true) /\
(A0 q c 3 λbh=>Bg bh ae=true) /\
(xL R d ae λbi=>Bg bi af=true) /\
(xL R k ae λbj=>Bg bj af=true) /\
(xL R q ae λbk=>Bg bk af=true) /\
(BO d af λbl=>Bg bl ag=true) /\
(BO k af λbm=>Bg bm ag=true) /\
(BO q af λbn=>Bg bn ag=true) /\
 Tl R N O T a c al (AA 0) am QR):gN R N O T t0 t1 s QR:=
 pC dD cF h
theorem Yi (h :
 xI .eql t5 (AA 0) λa=>
 g0 a true s t6 λb c=>
 g1 a true c (A0 c t2 3) λe f=>
 g1 a true f (xL R f e) λi j=>
 g1 a true j (BO j i) λl m=>
 g1 a true m (xI .lss b l) λo p=>
 A6 a o (BB false) λq=>
 AO q (
 AAP R N O T t2 t3 t6 p QR) (
 AAQ R N O T t5 p QR)):Tl R N O T t2 t3 t5 t6 s QR:=
 pL dD cF h
theorem ALe (h :
 xF R s t2 3 λb=>
 Bh s 4 b t6 λc=>
 xM R s 4 c λd=>
 xF R s t3 3 λf=>
 Bh s 4 f t6 λg=>
 xM R s 4 g λi=>
 xC R 104 N O T 104 [d,i] s λj k=>
 AAR R N O T t2 t3 j t6 k QR):AAP R N O T t2 t3 t6 s QR:=
 pC dD cF h
theorem gM (h :
 QR t5 s):AAQ R N O T t5 s QR:=
 pC dD cF h
theorem ALf (h :
 xI .add t6 (AA 1) λa=>
 Tl R N O T t2 t3 t5 a s QR):AAR R N O T t2 t3 t5 t6 s QR:=
 pC dD cF h
theorem AXZ {u0 u1:AV} {Post:AV->Prop} (Be:AY [] 0 0 [t0,t1]=some [u0,u1]) (h:gN R 0 0 0 u0 u1 ⟨[],[]⟩ (QP Post)):AL (env R) 104 [t0,t1] Post:=
 hR Tryz.func104 Be h
theorem ALd (h :
 BO s t0 λa=>
 Yh R N O T (AA 0) t0 a (AA 0) s QR):AAU R N O T t0 s QR:=
 pC dF cF h
theorem wP (h :
 xI .lss t8 t7 λa=>
 AO a (
 AAV R N O T t3 t6 t7 t8 a s QR) (
 AAW R N O T t3 s QR)):Yh R N O T t3 t6 t7 t8 s QR:=
 pL dF cF h
theorem ALb (h :
 Bh s 1 t6 t8 λa=>
 xL R s a λb=>
 xI .neq b t3 λc=>
 AO c (
 QR b s) (
 AAX R N O T t3 t6 t7 t8 s QR)):AAV R N O T t3 t6 t7 t8 t9 s QR:=
 pC dF cF h
theorem ALa (h :
 QR t3 s):AAW R N O T t3 s QR:=
 pC dF cF h
theorem ALc (h :
 xI .add t8 (AA 1) λa=>
 Yh R N O T t3 t6 t7 a s QR):AAX R N O T t3 t6 t7 t8 s QR:=
 pC dF cF h
theorem AXX {u0:AV} {Post:AV->Prop} (Be:AY [] 0 0 [t0]=some [u0]) (h:AAU R 0 0 0 u0 ⟨[],[]⟩ (QP Post)):AL (env R) 131 [t0] Post:=
 hR Tryz.func131 Be h
theorem ALQ (h :
 xC R 132 N O T 152 [t0] s λa b=>
 xC R 132 N O T 152 [t1] b λc d=>
 AO a (
 AO c (
 QR (AA 0) d) (
 AMy R N O T  d QR)) (
 AAZ R N O T t0 t1 c d QR)):AAY R N O T t0 t1 s QR:=
 pC dG cF h
theorem ALR (h :
 AO t6 (
 QR (AA 1) s) (
 AAa R N O T t0 t1 s QR)):AAZ R N O T t0 t1 t6 s QR:=
 pC dG cF h
theorem ALS (h :
 xI .lss t0 t1 λa=>
 AO a (
 QR (AA (-1)) s) (
 AAb R N O T t0 t1 s QR)):AAa R N O T t0 t1 s QR:=
 pC dG cF h
theorem ALT (h :
 xI .gtr t0 t1 λa=>
 AO a (
 QR (AA 1) s) (
 AAc R N O T  s QR)):AAb R N O T t0 t1 s QR:=
 pC dG cF h
theorem ALU (h :
 QR (AA 0) s):AAc R N O T  s QR:=
 pC dG cF h
theorem AXV {u0 u1:AV} {Post:AV->Prop} (Be:AY [] 0 0 [t0,t1]=some [u0,u1]) (h:AAY R 0 0 0 u0 u1 ⟨[],[]⟩ (QP Post)):AL (env R) 132 [t0,t1] Post:=
 hR Tryz.func132 Be h
theorem ALV (h :
 xC R 133 N O T 153 [t0] s λa b=>
 xC R 133 N O T 153 [t1] b λc d=>
 AO a (
 AO c (
 QR (AA 0) d) (
 AMz R N O T  d QR)) (
 AAe R N O T t0 t1 c d QR)):AAd R N O T t0 t1 s QR:=
 pC dH cF h
theorem ALW (h :
 AO t6 (
 QR (AA 1) s) (
 AAf R N O T t0 t1 s QR)):AAe R N O T t0 t1 t6 s QR:=
 pC dH cF h
theorem ALX (h :
 F9 .lss t0 t1 λa=>
 AO a (
 QR (AA (-1)) s) (
 AAg R N O T t0 t1 s QR)):AAf R N O T t0 t1 s QR:=
 pC dH cF h
theorem ALY (h :
 F9 .gtr t0 t1 λa=>
 AO a (
 QR (AA 1) s) (
 AAh R N O T  s QR)):AAg R N O T t0 t1 s QR:=
 pC dH cF h
theorem ALZ (h :
 QR (AA 0) s):AAh R N O T  s QR:=
 pC dH cF h
theorem AXW {u0 u1:AV} {Post:AV->Prop} (Be:AY [] 0 0 [t0,t1]=some [u0,u1]) (h:AAd R 0 0 0 u0 u1 ⟨[],[]⟩ (QP Post)):AL (env R) 133 [t0,t1] Post:=
 hR Tryz.func133 Be h
theorem ASX (h :
 BO s t0 λa=>
 BO s t1 λb=>
 xI .neq a b λc=>
 AO c (
 QR (BB false) s) (
 AHI R N O T t0 t1 s QR)):mW R N O T t0 t1 s QR:=
 pC qB cF h
theorem ASY (h :
 mU R N O T t0 t1 (AA 0) s QR):AHI R N O T t0 t1 s QR:=
 pC qB cF h
theorem AFi (h :
 BO s t0 λa=>
 xI .lss t5 a λb=>
 AO b (
 AHJ R N O T t0 t1 t5 s QR) (
 AHK R N O T  s QR)):mU R N O T t0 t1 t5 s QR:=
 pL qB cF h
theorem ASV (h :
 Bh s 5 t0 t5 λa=>
 xM R s 5 a λb=>
 Bh s 5 t1 t5 λc=>
 xM R s 5 c λd=>
 xC R 17 N O T 32 [b,d] s λe f=>
 Dt e λg=>
 AO g (
 QR (BB false) f) (
 AHL R N O T t0 t1 t5 f QR)):AHJ R N O T t0 t1 t5 s QR:=
 pC qB cF h
theorem ASU (h :
 QR (BB true) s):AHK R N O T  s QR:=
 pC qB cF h
theorem ASW (h :
 xI .add t5 (AA 1) λa=>
 mU R N O T t0 t1 a s QR):AHL R N O T t0 t1 t5 s QR:=
 pC qB cF h
theorem e17 {u0 u1:AV} {Post:AV->Prop} (Be:AY [] 0 0 [t0,t1]=some [u0,u1]) (h:mW R 0 0 0 u0 u1 ⟨[],[]⟩ (QP Post)):AL (env R) 17 [t0,t1] Post:=
 hR Tryz.func17 Be h
theorem i17 {Post:AV->Prop} (Be:AY [] 0 0 [t0,t1]=none) (h:mW R s.bs.length s.bs.length s.ts.length t0 t1 s (QI s.bs.length s.ts.length Post)):∃v,Post v/\∀L,BD (env R) L 17 [t0,t1] s v s:=
 hI Tryz.func17 Be h
theorem ASS (h :
 Bs s t0 λa b=>
 Bs b t1 λc d=>
 xF R d a 0 λf=>
 xF R d c 0 λi=>
 xC R 32 N O T 75 [f,i] d λj k=>
 g1 j true k (A0 k a 1) λm n=>
 g1 j true n (xM R n 4 m) λp q=>
 g1 j true q (A0 q c 1) λv w=>
 g1 j true w (xM R w 4 v) λy z=>
 I4 j true z (xC R 32 N O T 35 [p,y] z) λac ad=>
 A6 j ac (BB false) λae=>
 QR ae ad):xp R N O T t0 t1 s QR:=
 pC AZY cF h
theorem e32 {u0 u1:AV} {Post:AV->Prop} (Be:AY [] 0 0 [t0,t1]=some [u0,u1]) (h:xp R 0 0 0 u0 u1 ⟨[],[]⟩ (QP Post)):AL (env R) 32 [t0,t1] Post:=
 hR Tryz.func32 Be h
theorem ASQ (h :
 BO s t0 λa=>
 BO s t1 λb=>
 xI .neq a b λc=>
 AO c (
 QR (BB false) s) (
 AHM R N O T t0 t1 s QR)):xo R N O T t0 t1 s QR:=
 pC qC cF h
theorem ASR (h :
 mT R N O T t0 t1 (AA 0) s QR):AHM R N O T t0 t1 s QR:=
 pC qC cF h
theorem AFh (h :
 BO s t0 λa=>
 xI .lss t5 a λb=>
 AO b (
 AHN R N O T t0 t1 t5 s QR) (
 AHO R N O T  s QR)):mT R N O T t0 t1 t5 s QR:=
 pL qC cF h
theorem ASO (h :
 Bh s 4 t0 t5 λa=>
 xM R s 4 a λb=>
 Bh s 4 t1 t5 λc=>
 xM R s 4 c λd=>
 xC R 75 N O T 35 [b,d] s λe f=>
 Dt e λg=>
 AO g (
 QR (BB false) f) (
 AHP R N O T t0 t1 t5 f QR)):AHN R N O T t0 t1 t5 s QR:=
 pC qC cF h
theorem ASN (h :
 QR (BB true) s):AHO R N O T  s QR:=
 pC qC cF h
theorem ASP (h :
 xI .add t5 (AA 1) λa=>
 mT R N O T t0 t1 a s QR):AHP R N O T t0 t1 t5 s QR:=
 pC qC cF h
theorem e75 {u0 u1:AV} {Post:AV->Prop} (Be:AY [] 0 0 [t0,t1]=some [u0,u1]) (h:xo R 0 0 0 u0 u1 ⟨[],[]⟩ (QP Post)):AL (env R) 75 [t0,t1] Post:=
 hR Tryz.func75 Be h
end
noncomputable section
section
variable (R:RT) (N O T:Nat) (t0 t1 t2 t3 t8 t9 t10 t11 t12 t13 t22 t23 t35 t49 t58 t75:AV)
noncomputable def b3:Code:=Tryz.f3.body.getD .skip
def lv3:Nat->List Nat:=ln [[],[0,1],[5],[5,6,7],[6,7,8,9]]
abbrev Q3:=Wq R N O T 3 38 [.tmp 4]
def AT1:=Q3 R N O T (aT b3 1) [(0,t0),(1,t1)]
noncomputable def b10:Code:=Tryz.f10.body.getD .skip
def AZZ:Nat->List Nat:=ln [[],[0,1,2,6]]
abbrev Q10:=Wq R N O T 10 11 [.cell 6 25]
def yC:=Q10 R N O T (aT b10 1) [(0,t0),(1,t1),(2,t2)]
noncomputable def b11:Code:=Tryz.f11.body.getD .skip
def AZa:Nat->List Nat:=ln [[],[0]]
abbrev Q11:=Wq R N O T 11 6 [.tmp 2]
def AHQ:=Q11 R N O T (aT b11 1) [(0,t0)]
noncomputable def b13:Code:=Tryz.f13.body.getD .skip
def AT2:Nat->List Nat:=ln [[],[0,1],[0,1],[0,1,9],[0]]
abbrev Q13:=Wq R N O T 13 14 [.tmp 4]
def AHR:=Q13 R N O T (aT b13 1) [(0,t0),(1,t1)]
def AAi:=Q13 R N O T (aT b13 15) [(0,t0)]
noncomputable def b20:Code:=Tryz.f20.body.getD .skip
def AZb:Nat->List Nat:=ln [[],[0,2]]
abbrev Q20:=Wq R N O T 20 5 [.cell 2 25]
def AHS:=Q20 R N O T (aT b20 1) [(0,t0)]
noncomputable def b25:Code:=Tryz.f25.body.getD .skip
def AZc:Nat->List Nat:=ln [[],[0,2]]
abbrev Q25:=Wq R N O T 25 5 [.cell 2 25]
def AHT:=Q25 R N O T (aT b25 1) [(0,t0)]
noncomputable def b26:Code:=Tryz.f26.body.getD .skip
def AZd:Nat->List Nat:=ln [[],[0,1,4]]
abbrev Q26:=Wq R N O T 26 8 [.cell 4 25]
def AHU:=Q26 R N O T (aT b26 1) [(0,t0),(1,t1)]
noncomputable def b52:Code:=Tryz.f52.body.getD .skip
def AZe:Nat->List Nat:=ln [[],[2,3,4]]
abbrev Q52:=Wq R N O T 52 9 [.cell 4 25]
def AHV:=Q52 R N O T (aT b52 1) [(0,t0),(1,t1)]
noncomputable def b53:Code:=Tryz.f53.body.getD .skip
def AZf:Nat->List Nat:=ln [[],[0]]
abbrev Q53:=Wq R N O T 53 2 [.cell 0 25]
def AHW:=Q53 R N O T (aT b53 1) []
noncomputable def b80:Code:=Tryz.f80.body.getD .skip
def AZg:Nat->List Nat:=ln [[],[0]]
abbrev Q80:=Wq R N O T 80 2 [.cell 0 25]
def AHX:=Q80 R N O T (aT b80 1) []
noncomputable def iU:Code:=Tryz.f41.body.getD .skip
def Nl:Nat->List Nat:=ln ([]::[0,1,2,3,8]::[0,1,2,3,8,9]::[0,1,2,3,8,9,21]::[0,1,2,3,8,9]::[0,1,2,3,8,22]::[0,1,2,3,8,22,23]::[0,1,2,3,8,22,23]::[]::[0,1,2,3,8,22,32]::[]::[0,1,2,3,8,22,35]::[0,1,2,3,8,22,35]::[0,1,2,3,8,39]::[0,1,2,3,8]::[]::rp 3 [0,1,2,3,8,22,49] ([]::[0,1,2,3,8,22,58]::[0,1,2,3,8,22,58]::[]::[0,1,2,3,8,22,75]::[0,1,2,3,8,22,75]::[0,1,2,3,8,10]::[0,1,2,3,8,10,11]::rp 3 [0,1,2,3,8,10,11,12] [[8,10],[],[0,1,2,3,8,98],[0,1,2,3,8,13],[0,1,2,3,8,13,103],[0,1,2,3,8,13],[0,8],[8,118],[8]]))
abbrev iV:=Wq R N O T 41 125 [.cell 8 25]
def yB:=iV R N O T (aT iU 1) [(0,t0),(1,t1),(2,t2),(3,t3)]
def mh:=iV R N O T (aT iU 15) [(0,t0),(1,t1),(2,t2),(3,t3),(8,t8),(9,t9)]
def mz:=iV R N O T (aT iU 245) [(0,t0),(1,t1),(2,t2),(3,t3),(8,t8),(22,t22),(23,t23)]
def mq:=iV R N O T (aT iU 3935) [(0,t0),(1,t1),(2,t2),(3,t3),(8,t8),(22,t22),(35,t35)]
def AHY:=iV R N O T (aT iU 15741) [(0,t0),(1,t1),(2,t2),(3,t3),(8,t8)]
def cj:=iV R N O T (aT iU 15743) [(0,t0),(1,t1),(2,t2),(3,t3),(8,t8),(22,t22),(49,t49)]
def mo:=iV R N O T (aT iU 62975) [(0,t0),(1,t1),(2,t2),(3,t3),(8,t8),(22,t22),(58,t58)]
def mj:=iV R N O T (aT iU 251903) [(0,t0),(1,t1),(2,t2),(3,t3),(8,t8),(22,t22),(75,t75)]
def mg:=iV R N O T (aT iU 16121818) [(0,t0),(1,t1),(2,t2),(3,t3),(8,t8),(10,t10),(11,t11),(12,t12)]
def mb:=iV R N O T (aT iU 8060923) [(0,t0),(1,t1),(2,t2),(3,t3),(8,t8),(13,t13)]
def iM:=iV R N O T (aT iU 31) [(0,t0),(8,t8)]
def AAj:=iV R N O T (aT iU 64487273) [(0,t0),(1,t1),(2,t2),(3,t3),(8,t8),(10,t10),(11,t11),(12,t12)]
def AAk:=iV R N O T (aT iU 4030455) [(8,t8),(10,t10)]
def AAl:=iV R N O T (aT iU 63) [(8,t8)]
def AAm:=iV R N O T (aT iU 128974547) [(0,t0),(1,t1),(2,t2),(3,t3),(8,t8),(10,t10),(11,t11),(12,t12)]
noncomputable def b83:Code:=Tryz.f83.body.getD .skip
def qD:Nat->List Nat:=ln ([]::[0,1,2,3,8]::[0,1,2,3,8,9]::[0,1,2,3,8,9,19]::[0,1,2,3,8,9]::[0,1,2,3,8,10]::[0,1,2,3,8,10,11]::rp 3 [0,1,2,3,8,10,11,12] [[8,11]])
abbrev Q83:=Wq R N O T 83 51 [.cell 8 25]
def x8:=Q83 R N O T (aT b83 1) [(0,t0),(1,t1),(2,t2),(3,t3)]
def AHZ:=Q83 R N O T (aT b83 15) [(0,t0),(1,t1),(2,t2),(3,t3),(8,t8),(9,t9)]
def mZ:=Q83 R N O T (aT b83 506) [(0,t0),(1,t1),(2,t2),(3,t3),(8,t8),(10,t10),(11,t11),(12,t12)]
def AHa:=Q83 R N O T (aT b83 2025) [(0,t0),(1,t1),(2,t2),(3,t3),(8,t8),(10,t10),(11,t11),(12,t12)]
def AHb:=Q83 R N O T (aT b83 127) [(8,t8),(11,t11)]
def AHc:=Q83 R N O T (aT b83 4051) [(0,t0),(1,t1),(2,t2),(3,t3),(8,t8),(10,t10),(11,t11),(12,t12)]
noncomputable def AT3:Code:=Tryz.f115.body.getD .skip
def AHd:Nat->List Nat:=ln [[],[0,1,2,3,8],[0,1,2,3,8,9],[0,1,2,3,8,9,12],[],[0,1,2,3,8,9,23],[],[0,1,2,3,8,32],[0,1,2,8]]
abbrev AT4:=Wq R N O T 115 45 [.cell 8 25]
def iJ:=AT4 R N O T (aT AT3 1) [(0,t0),(1,t1),(2,t2),(3,t3)]
def iK:=AT4 R N O T (aT AT3 7) [(0,t0),(1,t1),(2,t2),(8,t8)]
noncomputable def b54:Code:=Tryz.f54.body.getD .skip
def AT5:Nat->List Nat:=ln [[],[0,1],[0,1,14],[0,1],[0,1]]
abbrev Q54:=Wq R N O T 54 35 [.tmp 4]
def xx:=Q54 R N O T (aT b54 1) [(0,t0),(1,t1)]
def AHe:=Q54 R N O T (aT b54 7) [(0,t0),(1,t1)]
end
variable {R:RT} {N O T:Nat} {s:AM} {QR:QT} {t0 t1 t2 t3 t8 t9 t10 t11 t12 t13 t22 t23 t35 t49 t58 t75:AV}
theorem AYF (h :
 xC R 3 N O T 11 [t0] s λa b=>
 xC R 3 N O T 12 [] b λc d=>
 xC R 3 N O T 13 [t1,(AA 8)] d λe f=>
 xI .quo e (AA 7) λg=>
 xC R 3 N O T 10 [a,c,g] f λi j=>
 CI j Y4 λk l=>
 CJ (lf R 3 N O T) l 4 k i λm=>
 xM R m 4 k λn=>
 xC R 3 N O T 14 [n] m λo p=>
 DC o 0 λq=>
 DC o 1 λu=>
 xM R p 4 k λv=>
 xC R 3 N O T 15 [v] p λw x=>
 DC w 0 λy=>
 DC w 1 λz=>
 xC R 3 N O T 16 [] x λaa ab=>
 g0 aa true ab u λac ad=>
 g0 aa true ad z λae af=>
 g1 aa true af (xI .eql ac ae) λah ai=>
 A6 aa ah (BB false) λaj=>
 g0 aj true ai q λak al=>
 g0 aj true al y λam an=>
 I4 aj true an (xC R 3 N O T 17 [ak,am] an) λaq ar=>
 A6 aj aq (BB false) λau=>
 QR au ar):AT1 R N O T t0 t1 s QR:=
 pC lv3 cF h
theorem e3 {u0 u1:AV} {Post:AV->Prop} (Be:AY [] 0 0 [t0,t1]=some [u0,u1]) (h:AT1 R 0 0 0 u0 u1 ⟨[],[]⟩ (QP Post)):AL (env R) 3 [t0,t1] Post:=
 hR Tryz.func3 Be h
theorem AS4 (h :
 CI s Y4 λa b=>
 xC R 10 N O T 41 [t0,t1,(AA 3),t2] b λc d=>
 CJ (lf R 10 N O T) d 4 a c λe=>
 xM R e 4 a λf=>
 QR f e):yC R N O T t0 t1 t2 s QR:=
 pC AZZ cF h
theorem m10 {L:A8} {Post:AV->AM->Prop} (hn:Bi [t0,t1,t2]=false) (h:yC R 0 L.ro L.rt t0 t1 t2 s (QM (L.rr 10) s.bs.length Post)):∃v s',Post v s'/\BD (env R) L 10 [t0,t1,t2] s v s':=
 hM Tryz.func10 hn h
theorem ASe (h :
 CU [(.AB []),(AA 0)] [(0,1,t0)] λa=>
 Bs s a λb c=>
 QR b c):AHQ R N O T t0 s QR:=
 pC AZa cF h
theorem m11 {L:A8} {Post:AV->AM->Prop} (h:AHQ R L.n0 L.ro L.rt t0 s Post):∃v s',Post v s'/\BD (env R) L 11 [t0] s v s':=
 hE Tryz.func11 h
theorem ASa (h :
 xI .rem t0 t1 λa=>
 xI .lss a (AA 0) λb=>
 AO b (
 xI .add a t1 λc=>
 AAi R N O T c s QR) (
 AAi R N O T a s QR)):AHR R N O T t0 t1 s QR:=
 pC AT2 cF h
theorem AFk (h :
 QR t0 s):AAi R N O T t0 s QR:=
 pC AT2 cF h
theorem e13 {u0 u1:AV} {Post:AV->Prop} (Be:AY [] 0 0 [t0,t1]=some [u0,u1]) (h:AHR R 0 0 0 u0 u1 ⟨[],[]⟩ (QP Post)):AL (env R) 13 [t0,t1] Post:=
 hR Tryz.func13 Be h
theorem ASh (h :
 CI s Y4 λa b=>
 CU Y4 [(0,1,(AA 4)),(3,1,t0)] λc=>
 CJ (lf R 20 N O T) b 4 a c λd=>
 xM R d 4 a λe=>
 QR e d):AHS R N O T t0 s QR:=
 pC AZb cF h
theorem e20 {u0:AV} {Post:AV->Prop} (Be:AY [] 0 0 [t0]=some [u0]) (h:AHS R 0 0 0 u0 ⟨[],[]⟩ (QP Post)):AL (env R) 20 [t0] Post:=
 hR Tryz.func20 Be h
theorem AQ7 (h :
 CI s Y4 λa b=>
 CU Y4 [(0,1,(AA 5)),(2,1,t0)] λc=>
 CJ (lf R 25 N O T) b 4 a c λd=>
 xM R d 4 a λe=>
 QR e d):AHT R N O T t0 s QR:=
 pC AZc cF h
theorem e25 {u0:AV} {Post:AV->Prop} (Be:AY [] 0 0 [t0]=some [u0]) (h:AHT R 0 0 0 u0 ⟨[],[]⟩ (QP Post)):AL (env R) 25 [t0] Post:=
 hR Tryz.func25 Be h
theorem ASg (h :
 CI s Y4 λa b=>
 CU Y4 [(0,1,(AA 2)),(1,1,t0),(3,1,t1)] λc=>
 CJ (lf R 26 N O T) b 4 a c λd=>
 xM R d 4 a λe=>
 QR e d):AHU R N O T t0 t1 s QR:=
 pC AZd cF h
theorem e26 {u0 u1:AV} {Post:AV->Prop} (Be:AY [] 0 0 [t0,t1]=some [u0,u1]) (h:AHU R 0 0 0 u0 u1 ⟨[],[]⟩ (QP Post)):AL (env R) 26 [t0,t1] Post:=
 hR Tryz.func26 Be h
theorem ASt (h :
 Bs s t0 λa b=>
 Bs b t1 λc d=>
 CI d Y4 λe f=>
 xM R f 4 a λg=>
 xM R f 4 c λi=>
 CV false f 4 Y4 2 [(0,4,g),(4,4,i)] λj k=>
 CU Y4 [(0,1,(AA 6)),(3,1,j)] λl=>
 CJ (lf R 52 N O T) k 4 e l λm=>
 xM R m 4 e λn=>
 QR n m):AHV R N O T t0 t1 s QR:=
 pC AZe cF h
theorem e52 {u0 u1:AV} {Post:AV->Prop} (Be:AY [] 0 0 [t0,t1]=some [u0,u1]) (h:AHV R 0 0 0 u0 u1 ⟨[],[]⟩ (QP Post)):AL (env R) 52 [t0,t1] Post:=
 hR Tryz.func52 Be h
theorem ASr (h :
 CI s Y4 λa b=>
 CU Y4 [] λc=>
 CJ (lf R 53 N O T) b 4 a c λd=>
 xM R d 4 a λe=>
 QR e d):AHW R N O T  s QR:=
 pC AZf cF h
theorem e53 {Post:AV->Prop} (Be:AY [] 0 0 []=some []) (h:AHW R 0 0 0  ⟨[],[]⟩ (QP Post)):AL (env R) 53 [] Post:=
 hR Tryz.func53 Be h
theorem ASs (h :
 CI s Y4 λa b=>
 CU Y4 [(0,1,(AA 1))] λc=>
 CJ (lf R 80 N O T) b 4 a c λd=>
 xM R d 4 a λe=>
 QR e d):AHX R N O T  s QR:=
 pC AZg cF h
theorem e80 {Post:AV->Prop} (Be:AY [] 0 0 []=some []) (h:AHX R 0 0 0  ⟨[],[]⟩ (QP Post)):AL (env R) 80 [] Post:=
 hR Tryz.func80 Be h
theorem AS3 (h :
 CI s Y4 λa b=>
 xC R 41 N O T 54 [t0,(AA 14)] b λc d=>
 xI .leq t2 (AA 0) λe=>
 g0 e true d c λf g=>
 g1 e true g (xI .gtr f (AA 5)) λj k=>
 A6 e j (BB false) λl=>
 AO l (
 mh R N O T t0 t1 t2 t3 a (AA 0) k QR) (
 mh R N O T t0 t1 t2 t3 a c k QR)):yB R N O T t0 t1 t2 t3 s QR:=
 pC Nl cF h
theorem AS2 (h :
 xI .eql t9 (AA 0) λa=>
 AO a (
 mz R N O T t0 t1 t2 t3 t8 t9 a s QR) (
 xI .eql t9 (AA 1) λb=>
 mz R N O T t0 t1 t2 t3 t8 t9 b s QR)):mh R N O T t0 t1 t2 t3 t8 t9 s QR:=
 pC Nl cF h
theorem AS1 (h :
 AO t23 (
 xL R s (.DS 1 0) λa=>
 xC R 41 N O T 54 [t0,(AA 4)] s λb c=>
 Bh c 1 a b λd=>
 xL R c d λe=>
 xC R 41 N O T 26 [e,(.AB [])] c λf g=>
 CJ (lf R 41 N O T) g 4 t8 f λi=>
(xL R c (.DS 1 0) λj=>Bg j a=true) /\
 xM R i 4 t8 λk=>
 QR k i) (
 xI .eql t22 (AA 2) λl=>
 AO l (
 xC R 41 N O T 53 [] s λm n=>
 CJ (lf R 41 N O T) n 4 t8 m λo=>
 xM R o 4 t8 λp=>
 QR p o) (
 xI .eql t22 (AA 3) λq=>
 AO q (
 mq R N O T t0 t1 t2 t3 t8 t22 q s QR) (
 xI .eql t22 (AA 4) λu=>
 mq R N O T t0 t1 t2 t3 t8 t22 u s QR)))):mz R N O T t0 t1 t2 t3 t8 t22 t23 s QR:=
 pC Nl cF h
theorem ASz (h :
 AO t35 (
 xI .gtr t3 (AA 0) λa=>
 AO a (
 xC R 41 N O T 54 [t0,t3] s λb c=>
 xC R 41 N O T 25 [b] c λd e=>
 CJ (lf R 41 N O T) e 4 t8 d λf=>
 xM R f 4 t8 λg=>
 QR g f) (
 AHY R N O T t0 t1 t2 t3 t8 s QR)) (
 xI .eql t22 (AA 5) λi=>
 AO i (
 cj R N O T t0 t1 t2 t3 t8 t22 i s QR) (
 xI .eql t22 (AA 6) λj=>
 AO j (
 cj R N O T t0 t1 t2 t3 t8 t22 j s QR) (
 xI .eql t22 (AA 7) λk=>
 cj R N O T t0 t1 t2 t3 t8 t22 k s QR)))):mq R N O T t0 t1 t2 t3 t8 t22 t35 s QR:=
 pC Nl cF h
theorem AS0 (h :
 xC R 41 N O T 83 [t0,t1,t2,t3] s λa b=>
 CJ (lf R 41 N O T) b 4 t8 a λc=>
 xM R c 4 t8 λd=>
 QR d c):AHY R N O T t0 t1 t2 t3 t8 s QR:=
 pC Nl cF h
theorem ASy (h :
 AO t49 (
 xC R 41 N O T 83 [t0,t1,t2,t3] s λa b=>
 CJ (lf R 41 N O T) b 4 t8 a λc=>
 xM R c 4 t8 λd=>
 QR d c) (
 xI .eql t22 (AA 8) λe=>
 AO e (
 mo R N O T t0 t1 t2 t3 t8 t22 e s QR) (
 xI .eql t22 (AA 9) λf=>
 mo R N O T t0 t1 t2 t3 t8 t22 f s QR))):cj R N O T t0 t1 t2 t3 t8 t22 t49 s QR:=
 pC Nl cF h
theorem ASx (h :
 AO t58 (
 xI .sub t2 (AA 1) λa=>
 xC R 41 N O T 41 [t0,t1,a,t3] s λb c=>
 xI .sub t2 (AA 1) λd=>
 xC R 41 N O T 41 [t0,t1,d,t3] c λe f=>
 CV false f 4 Y4 2 [(0,4,b),(4,4,e)] λg i=>
 xC R 41 N O T 20 [g] i λj k=>
 CJ (lf R 41 N O T) k 4 t8 j λl=>
 xM R l 4 t8 λm=>
 QR m l) (
 xI .eql t22 (AA 10) λn=>
 AO n (
 mj R N O T t0 t1 t2 t3 t8 t22 n s QR) (
 xI .eql t22 (AA 11) λo=>
 mj R N O T t0 t1 t2 t3 t8 t22 o s QR))):mo R N O T t0 t1 t2 t3 t8 t22 t58 s QR:=
 pC Nl cF h
theorem ASw (h :
 AO t75 (
 CU Y4 [(0,1,(AA 3))] λa=>
 CI s Y4 λb c=>
 CJ (lf R 41 N O T) c 4 b a λd=>
 xC R 41 N O T 54 [t0,(AA 4)] d λe f=>
 mg R N O T t0 t1 t2 t3 t8 b e (AA 0) f QR) (
 xI .eql t22 (AA 12) λg=>
 AO g (
 xC R 41 N O T 53 [] s λi j=>
 CI j Y4 λk l=>
 CJ (lf R 41 N O T) l 4 k i λm=>
 xC R 41 N O T 54 [t0,(AA 2)] m λn o=>
 xI .eql n (AA 1) λp=>
 AO p (
 xC R 41 N O T 41 [t0,t1,(AA 1),(AA 0)] o λq u=>
 CJ (lf R 41 N O T) u 4 k q λv=>
 mb R N O T t0 t1 t2 t3 t8 k v QR) (
 mb R N O T t0 t1 t2 t3 t8 k o QR)) (
 iM R N O T t0 t8 s QR))):mj R N O T t0 t1 t2 t3 t8 t22 t75 s QR:=
 pC Nl cF h
theorem AFs (h :
 xI .lss t12 t11 λa=>
 AO a (
 AAj R N O T t0 t1 t2 t3 t8 t10 t11 t12 s QR) (
 AAk R N O T t8 t10 s QR)):mg R N O T t0 t1 t2 t3 t8 t10 t11 t12 s QR:=
 pL Nl cF h
theorem ASv (h :
 xM R s 4 t13 λa=>
 xI .sub t2 (AA 1) λb=>
 xI .add t3 (AA 1) λc=>
 xC R 41 N O T 41 [t0,t1,b,c] s λd e=>
 xC R 41 N O T 52 [a,d] e λf g=>
 CJ (lf R 41 N O T) g 4 t8 f λi=>
(xM R e 4 t13 λj=>Bg j a=true) /\
 xM R i 4 t8 λk=>
 QR k i):mb R N O T t0 t1 t2 t3 t8 t13 s QR:=
 pC Nl cF h
theorem AMg (h :
 xC R 41 N O T 54 [t0,(AA 4)] s λa b=>
 xI .eql a (AA 0) λc=>
 AO c (
 xC R 41 N O T 80 [] b λd e=>
 CJ (lf R 41 N O T) e 4 t8 d λf=>
 xM R f 4 t8 λg=>
 QR g f) (
 AAl R N O T t8 b QR)):iM R N O T t0 t8 s QR:=
 pC Nl cF h
theorem AMj (h :
 A0 s t10 3 λa=>
 xL R s a λb=>
 xI .sub t2 (AA 1) λc=>
 xC R 41 N O T 41 [t0,t1,c,t3] s λd e=>
 CV false e 4 Y4 1 [(0,4,d)] λf g=>
(4=4/\4≠0)/\Ct false (lf R 41 N O T) e 25 4 56 b f λi j=>
 A0 j t10 3 λk=>
 CJ (lf R 41 N O T) j 1 k i λl=>
(A0 e t10 3 λm=>Bg m a=true) /\
(xL R e a λn=>Bg n b=true) /\
 AAm R N O T t0 t1 t2 t3 t8 t10 t11 t12 l QR):AAj R N O T t0 t1 t2 t3 t8 t10 t11 t12 s QR:=
 pC Nl cF h
theorem AMi (h :
 xM R s 4 t10 λa=>
 CJ (lf R 41 N O T) s 4 t8 a λb=>
 xM R b 4 t8 λc=>
 QR c b):AAk R N O T t8 t10 s QR:=
 pC Nl cF h
theorem AMh (h :
 xC R 41 N O T 53 [] s λa b=>
 xC R 41 N O T 25 [(AA 0)] b λc d=>
 CV false d 4 Y4 1 [(0,4,c)] λe f=>
 xC R 41 N O T 26 [(SS [66,111,120]),e] f λg i=>
 xC R 41 N O T 52 [a,g] i λj k=>
 CJ (lf R 41 N O T) k 4 t8 j λl=>
 xM R l 4 t8 λm=>
 QR m l):AAl R N O T t8 s QR:=
 pC Nl cF h
theorem AMk (h :
 xI .add t12 (AA 1) λa=>
 mg R N O T t0 t1 t2 t3 t8 t10 t11 a s QR):AAm R N O T t0 t1 t2 t3 t8 t10 t11 t12 s QR:=
 pC Nl cF h
theorem m41 {L:A8} {Post:AV->AM->Prop} (hn:Bi [t0,t1,t2,t3]=false) (h:yB R 0 L.ro L.rt t0 t1 t2 t3 s (QM (L.rr 41) s.bs.length Post)):∃v s',Post v s'/\BD (env R) L 41 [t0,t1,t2,t3] s v s':=
 hM Tryz.func41 hn h
theorem ASi (h :
 CI s Y4 λa b=>
 BO b t1 λc=>
 xI .add c (AA 4) λd=>
 xC R 83 N O T 54 [t0,d] b λe f=>
 xI .lss e (AA 4) λg=>
 AO g (
 xL R f (.DS 1 0) λi=>
 Bh f 1 i e λj=>
 xL R f j λk=>
 xC R 83 N O T 26 [k,(.AB [])] f λl m=>
 CJ (lf R 83 N O T) m 4 a l λn=>
 xM R n 4 a λo=>
 QR o n) (
 AHZ R N O T t0 t1 t2 t3 a e f QR)):x8 R N O T t0 t1 t2 t3 s QR:=
 pC qD cF h
theorem ASk (h :
 xI .sub t9 (AA 4) λa=>
 Bh s 8 t1 a λb=>
 xM R s 8 b λc=>
 CI s [(SS []),(AA 0),(AA 0),(SS []),(AA 0),(.AB []),(BB false),(.AB [])] λd e=>
 CJ (lf R 83 N O T) e 8 d c λf=>
 xF R f d 0 λi=>
 CU Y4 [(0,1,(AA 2)),(1,1,i)] λj=>
 CI f Y4 λk l=>
 CJ (lf R 83 N O T) l 4 k j λm=>
 mZ R N O T t0 t1 t2 t3 t8 d k (AA 0) m QR):AHZ R N O T t0 t1 t2 t3 t8 t9 s QR:=
 pC qD cF h
theorem AFm (h :
 xF R s t10 1 λb=>
 xI .lss t12 b λc=>
 AO c (
 AHa R N O T t0 t1 t2 t3 t8 t10 t11 t12 s QR) (
 AHb R N O T t8 t11 s QR)):mZ R N O T t0 t1 t2 t3 t8 t10 t11 t12 s QR:=
 pL qD cF h
theorem ASo (h :
 A0 s t11 3 λa=>
 xL R s a λb=>
 xI .sub t2 (AA 1) λc=>
 xC R 83 N O T 115 [t0,t1,c,t3] s λd e=>
 CV false e 4 Y4 1 [(0,4,d)] λf g=>
(4=4/\4≠0)/\Ct false (lf R 83 N O T) e 25 4 56 b f λi j=>
 A0 j t11 3 λk=>
 CJ (lf R 83 N O T) j 1 k i λl=>
(A0 e t11 3 λm=>Bg m a=true) /\
(xL R e a λn=>Bg n b=true) /\
 AHc R N O T t0 t1 t2 t3 t8 t10 t11 t12 l QR):AHa R N O T t0 t1 t2 t3 t8 t10 t11 t12 s QR:=
 pC qD cF h
theorem ASn (h :
 xM R s 4 t11 λa=>
 CJ (lf R 83 N O T) s 4 t8 a λb=>
 xM R b 4 t8 λc=>
 QR c b):AHb R N O T t8 t11 s QR:=
 pC qD cF h
theorem ASp (h :
 xI .add t12 (AA 1) λa=>
 mZ R N O T t0 t1 t2 t3 t8 t10 t11 a s QR):AHc R N O T t0 t1 t2 t3 t8 t10 t11 t12 s QR:=
 pC qD cF h
theorem m83 {L:A8} {Post:AV->AM->Prop} (hn:Bi [t0,t1,t2,t3]=false) (h:x8 R 0 L.ro L.rt t0 t1 t2 t3 s (QM (L.rr 83) s.bs.length Post)):∃v s',Post v s'/\BD (env R) L 83 [t0,t1,t2,t3] s v s':=
 hM Tryz.func83 hn h
theorem AMe (h :
 CI s Y4 λa b=>
 xC R 115 N O T 54 [t0,(AA 6)] b λc d=>
 xI .lss c (AA 2) λe=>
 g0 e true d t3 λf g=>
 g1 e true g (xI .gtr f (AA 0)) λj k=>
 A6 e j (BB false) λl=>
 AO l (
 xC R 115 N O T 54 [t0,t3] k λm n=>
 xC R 115 N O T 25 [m] n λo p=>
 CJ (lf R 115 N O T) p 4 a o λq=>
 xM R q 4 a λu=>
 QR u q) (
 xI .leq t2 (AA 0) λw=>
 AO w (
 xL R k (.DS 1 0) λx=>
 xC R 115 N O T 54 [t0,(AA 4)] k λy z=>
 Bh z 1 x y λaa=>
 xL R z aa λab=>
 xC R 115 N O T 26 [ab,(.AB [])] z λac ad=>
 CJ (lf R 115 N O T) ad 4 a ac λae=>
(xL R z (.DS 1 0) λaf=>Bg af x=true) /\
 xM R ae 4 a λag=>
 QR ag ae) (
 xI .lss c (AA 4) λah=>
 AO ah (
 xC R 115 N O T 83 [t0,t1,t2,t3] k λai aj=>
 CJ (lf R 115 N O T) aj 4 a ai λak=>
 xM R ak 4 a λal=>
 QR al ak) (
 iK R N O T t0 t1 t2 a k QR)))):iJ R N O T t0 t1 t2 t3 s QR:=
 pC AHd cF h
theorem AMf (h :
 xI .sub t2 (AA 1) λa=>
 xC R 115 N O T 41 [t0,t1,a,(AA 0)] s λb c=>
 CJ (lf R 115 N O T) c 4 t8 b λd=>
 xM R d 4 t8 λe=>
 QR e d):iK R N O T t0 t1 t2 t8 s QR:=
 pC AHd cF h
theorem AYA {L:A8} {Post:AV->AM->Prop} (hn:Bi [t0,t1,t2,t3]=false) (h:iJ R 0 L.ro L.rt t0 t1 t2 t3 s (QM (L.rr 115) s.bs.length Post)):∃v s',Post v s'/\BD (env R) L 115 [t0,t1,t2,t3] s v s':=
 hM Tryz.func115 hn h
theorem ASb (h :
 DT s t0 λa=>
 xF R s a 1 λc=>
 DT s t0 λd=>
 xF R s d 0 λf=>
 BO s f λg=>
 xI .geq c g λi=>
 AO i (
 QR (AA 0) s) (
 AHe R N O T t0 t1 s QR)):xx R N O T t0 t1 s QR:=
 pC AT5 cF h
theorem ASd (h :
 DT s t0 λa=>
 xF R s a 1 λc=>
 xI .add c (AA 1) λd=>
 DT s t0 λe=>
 A0 s e 1 λf=>
 CJ (lf R 54 N O T) s 1 f d λg=>
 DT g t0 λi=>
 xF R g i 0 λk=>
 DT g t0 λl=>
 xF R g l 1 λn=>
 xI .sub n (AA 1) λo=>
 Bh g 1 k o λp=>
 xL R g p λq=>
 xC R 54 N O T 13 [q,t1] g λu v=>
 QR u v):AHe R N O T t0 t1 s QR:=
 pC AT5 cF h
theorem m54 {L:A8} {Post:AV->AM->Prop} (hn:Bi [t0,t1]=false) (h:xx R 0 L.ro L.rt t0 t1 s (QM (L.rr 54) s.bs.length Post)):∃v s',Post v s'/\BD (env R) L 54 [t0,t1] s v s':=
 hM Tryz.func54 hn h
end
noncomputable section
section
variable (R:RT) (N O T:Nat) (t0:AV)
noncomputable def b57:Code:=Tryz.f57.body.getD .skip
def AT6:Nat->List Nat:=ln [[],[0],[0,4],[0]]
abbrev Q57:=Wq R N O T 57 8 [.tmp 2]
def AE7:=Q57 R N O T (aT b57 1) [(0,t0)]
def AHf:=Q57 R N O T (aT b57 7) [(0,t0)]
end
variable {R:RT} {N O T:Nat} {s:AM} {QR:QT} {t0:AV}
theorem AQK (h :
 vW s (some 1) (Q5 t0) (some 1) .eql t0 (.AB []) λa=>
 AO a (
 QR (.AB []) s) (
 AHf R N O T t0 s QR)):AE7 R N O T t0 s QR:=
 pC AT6 cF h
theorem AQL (h :
 CV false s 4 Y4 0 [] λa b=>
(4=4/\4≠0)/\Ct false (lf R 57 N O T) b 25 4 56 a t0 λc d=>
 QR c d):AHf R N O T t0 s QR:=
 pC AT6 cF h
end
noncomputable section
section
variable (R:RT) (N O T:Nat) (t0:AV)
noncomputable def AZh:Code:=Tryz.f152.body.getD .skip
def AT7:Nat->List Nat:=ln [[],[0]]
abbrev AZi:=Wq R N O T 152 6 [.tmp 2]
def AAn:=AZi R N O T (aT AZh 1) [(0,t0)]
noncomputable def AZj:Code:=Tryz.f163.body.getD .skip
def AT8:Nat->List Nat:=ln [[],[0]]
abbrev AZk:=Wq R N O T 163 6 [.tmp 2]
def AAo:=AZk R N O T (aT AZj 1) [(0,t0)]
noncomputable def AZl:Code:=Tryz.f153.body.getD .skip
def AT9:Nat->List Nat:=ln [[],[0]]
abbrev AZm:=Wq R N O T 153 6 [.tmp 2]
def AAp:=AZm R N O T (aT AZl 1) [(0,t0)]
end
variable {R:RT} {N O T:Nat} {s:AM} {QR:QT} {t0:AV}
theorem ALG (h :
 xI .neq t0 t0 λa=>
 QR a s):AAn R N O T t0 s QR:=
 pC AT7 cF h
theorem AXL {u0:AV} {Post:AV->Prop} (Be:AY [] 0 0 [t0]=some [u0]) (h:AAn R 0 0 0 u0 ⟨[],[]⟩ (QP Post)):AL (env R) 152 [t0] Post:=
 hR Tryz.func152 Be h
theorem ALH (h :
 xI .neq t0 t0 λa=>
 QR a s):AAo R N O T t0 s QR:=
 pC AT8 cF h
theorem AXM {u0:AV} {Post:AV->Prop} (Be:AY [] 0 0 [t0]=some [u0]) (h:AAo R 0 0 0 u0 ⟨[],[]⟩ (QP Post)):AL (env R) 163 [t0] Post:=
 hR Tryz.func163 Be h
theorem ALP (h :
 F9 .neq t0 t0 λa=>
 QR a s):AAp R N O T t0 s QR:=
 pC AT9 cF h
theorem AXU {u0:AV} {Post:AV->Prop} (Be:AY [] 0 0 [t0]=some [u0]) (h:AAp R 0 0 0 u0 ⟨[],[]⟩ (QP Post)):AL (env R) 153 [t0] Post:=
 hR Tryz.func153 Be h
end
end Go.Proofs.YtpgfpakdnijngaaGreatDoor
