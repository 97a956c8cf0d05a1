/-
  What the points of some functions' code need: written by a program (wip/tel/GenW.lean.txt).
-/
import Derived.Test.YtpgfpakdnijngaaGreatDoorWx
set_option linter.all false
namespace Go.Proofs.YtpgfpakdnijngaaGreatDoor
open Go.Tel
noncomputable section
section
variable (R:RT) (N O T:Nat) (t0 t1 t2 t3 t4 t5 t7 t8 t9 t10 t17 t18 t19 t20 t22 t23 t28 t29:AV)
noncomputable def b84:Code:=Tryz.f84.body.getD .skip
def xq:Nat->List Nat:=ln [[],[1],[1,3],[3,7,8,9],[3,7,8,9,10],[3,5,7,8,9],[3,7,8,9],[3]]
abbrev Q84:=Wq R N O T 84 19 [.tmp 2]
def AE3:=Q84 R N O T (aT b84 1) [(0,t0)]
def jq:=Q84 R N O T (aT b84 58) [(3,t3),(7,t7),(8,t8),(9,t9)]
def AE4:=Q84 R N O T (aT b84 467) [(3,t3),(7,t7),(8,t8),(9,t9),(10,t10)]
def AE5:=Q84 R N O T (aT b84 15) [(3,t3)]
def AE6:=Q84 R N O T (aT b84 935) [(3,t3),(7,t7),(8,t8),(9,t9)]
noncomputable def b85:Code:=Tryz.f85.body.getD .skip
def xu:Nat->List Nat:=ln [[],[1],[1,3],[3,7,8,9],[3,7,8,9,10],[3,5,7,8,9],[3,7,8,9],[3]]
abbrev Q85:=Wq R N O T 85 20 [.tmp 2]
def AE7:=Q85 R N O T (aT b85 1) [(0,t0)]
def js:=Q85 R N O T (aT b85 58) [(3,t3),(7,t7),(8,t8),(9,t9)]
def AE8:=Q85 R N O T (aT b85 467) [(3,t3),(7,t7),(8,t8),(9,t9),(10,t10)]
def AE9:=Q85 R N O T (aT b85 15) [(3,t3)]
def AFA:=Q85 R N O T (aT b85 935) [(3,t3),(7,t7),(8,t8),(9,t9)]
noncomputable def AC8:Code:=Tryz.f116.body.getD .skip
def nO:Nat->List Nat:=ln [[],[1],[1,20],[1],[1,22],[1,22,23],[1,22,23],[],[1,22,30],[],[1,22,52],[],[1,22,58],[],[1,22,64],[],[1,80],[]]
abbrev AC9:=Wq R N O T 116 93 [.tmp 2]
def fu:=AC9 R N O T (aT AC8 1) [(0,t0)]
def fq:=AC9 R N O T (aT AC8 7) [(1,t1)]
def J3:=AC9 R N O T (aT AC8 117) [(1,t1),(22,t22),(23,t23)]
def xw:=AC9 R N O T (aT AC8 15) []
noncomputable def ARf:Code:=Tryz.f117.body.getD .skip
def ARg:Nat->List Nat:=ln [[],[1]]
abbrev AW1:=Wq R N O T 117 6 [.tmp 2]
def xx:=AW1 R N O T (aT ARf 1) [(0,t0)]
noncomputable def b86:Code:=Tryz.f86.body.getD .skip
def AW2:Nat->List Nat:=ln [[],[1]]
abbrev Q86:=Wq R N O T 86 11 [.tmp 2]
def AFB:=Q86 R N O T (aT b86 1) [(0,t0)]
noncomputable def b42:Code:=Tryz.f42.body.getD .skip
def ARh:Nat->List Nat:=ln [[],[1],[1,3],[],[12],[]]
abbrev Q42:=Wq R N O T 42 16 [.tmp 2]
def AFC:=Q42 R N O T (aT b42 1) [(0,t0)]
def uh:=Q42 R N O T (aT b42 7) []
noncomputable def b94:Code:=Tryz.f94.body.getD .skip
def AW3:Nat->List Nat:=ln [[],[0,1]]
abbrev Q94:=Wq R N O T 94 9 [.tmp 4]
def xy:=Q94 R N O T (aT b94 1) [(0,t0),(1,t1)]
noncomputable def pN:Code:=Tryz.f125.body.getD .skip
def dN:Nat->List Nat:=ln [[],[0,1],[0,1,7,8],[0,1,7,8,9],[0,1,5,7,8],[0,1,5,7,8,16],[0,1,7,8],[]]
abbrev xz:=Wq R N O T 125 19 [.tmp 4]
def ic:=xz R N O T (aT pN 1) [(0,t0),(1,t1)]
def Pz:=xz R N O T (aT pN 26) [(0,t0),(1,t1),(7,t7),(8,t8)]
def x7:=xz R N O T (aT pN 211) [(0,t0),(1,t1),(7,t7),(8,t8),(9,t9)]
def x8:=xz R N O T (aT pN 7) []
def x9:=xz R N O T (aT pN 423) [(0,t0),(1,t1),(7,t7),(8,t8)]
noncomputable def AW4:Code:=Tryz.f140.body.getD .skip
def ARi:Nat->List Nat:=ln [[],[1]]
abbrev AW5:=Wq R N O T 140 7 [.tmp 2]
def yA:=AW5 R N O T (aT AW4 1) [(0,t0)]
noncomputable def pO:Code:=Tryz.f141.body.getD .skip
def W4:Nat->List Nat:=ln [[],[1,2],[1,2,15],[1,2],[1,2,17,18,19],[1,2,17,18,19,20],[1,2,5,6,17,18,19],[1,2,17,18,19,31],[1,2,17,18,19],[]]
abbrev pP:=Wq R N O T 141 33 [.tmp 4]
def fN:=pP R N O T (aT pO 1) [(0,t0),(1,t1)]
def fO:=pP R N O T (aT pO 7) [(1,t1),(2,t2)]
def YA:=pP R N O T (aT pO 58) [(1,t1),(2,t2),(17,t17),(18,t18),(19,t19)]
def yB:=pP R N O T (aT pO 467) [(1,t1),(2,t2),(17,t17),(18,t18),(19,t19),(20,t20)]
def yC:=pP R N O T (aT pO 15) []
def yD:=pP R N O T (aT pO 935) [(1,t1),(2,t2),(17,t17),(18,t18),(19,t19)]
noncomputable def ARj:Code:=Tryz.f160.body.getD .skip
def ARk:Nat->List Nat:=ln [[],[1]]
abbrev AW6:=Wq R N O T 160 6 [.tmp 2]
def yE:=AW6 R N O T (aT ARj 1) [(0,t0)]
noncomputable def AW7:Code:=Tryz.f161.body.getD .skip
def ARl:Nat->List Nat:=ln [[],[1]]
abbrev AW8:=Wq R N O T 161 19 [.tmp 2]
def yF:=AW8 R N O T (aT AW7 1) [(0,t0)]
noncomputable def ARm:Code:=Tryz.f119.body.getD .skip
def AFD:Nat->List Nat:=ln [[],[1,2],[11],[]]
abbrev ARn:=Wq R N O T 119 12 [.tmp 4]
def yG:=ARn R N O T (aT ARm 1) [(0,t0),(1,t1)]
def yH:=ARn R N O T (aT ARm 7) []
noncomputable def AW9:Code:=Tryz.f138.body.getD .skip
def ARo:Nat->List Nat:=ln [[],[0]]
abbrev AXA:=Wq R N O T 138 19 [.tmp 2]
def yI:=AXA R N O T (aT AW9 1) [(0,t0)]
noncomputable def AXB:Code:=Tryz.f139.body.getD .skip
def ARp:Nat->List Nat:=ln [[],[0,1]]
abbrev AXC:=Wq R N O T 139 9 [.tmp 4]
def yJ:=AXC R N O T (aT AXB 1) [(0,t0),(1,t1)]
noncomputable def yK:Code:=Tryz.f156.body.getD .skip
def dP:Nat->List Nat:=ln ([]::[0,1]::rp 3 [0,1,5] [[0,1,5,17],[]])
abbrev yL:=Wq R N O T 156 18 [.tmp 4]
def yM:=yL R N O T (aT yK 1) [(0,t0),(1,t1)]
def YH:=yL R N O T (aT yK 26) [(0,t0),(1,t1),(5,t5)]
def yN:=yL R N O T (aT yK 105) [(0,t0),(1,t1),(5,t5)]
def yO:=yL R N O T (aT yK 7) []
def yP:=yL R N O T (aT yK 211) [(0,t0),(1,t1),(5,t5)]
noncomputable def ARq:Code:=Tryz.f157.body.getD .skip
def ARr:Nat->List Nat:=ln [[],[0]]
abbrev AXD:=Wq R N O T 157 9 [.tmp 2]
def yQ:=AXD R N O T (aT ARq 1) [(0,t0)]
noncomputable def AXE:Code:=Tryz.f158.body.getD .skip
def ARs:Nat->List Nat:=ln [[],[0]]
abbrev AXF:=Wq R N O T 158 17 [.tmp 2]
def yR:=AXF R N O T (aT AXE 1) [(0,t0)]
noncomputable def AXG:Code:=Tryz.f155.body.getD .skip
def ARt:Nat->List Nat:=ln [[],[0]]
abbrev AXH:=Wq R N O T 155 17 [.tmp 2]
def yS:=AXH R N O T (aT AXG 1) [(0,t0)]
noncomputable def AXI:Code:=Tryz.f173.body.getD .skip
def ARu:Nat->List Nat:=ln [[],[0]]
abbrev AXJ:=Wq R N O T 173 9 [.tmp 2]
def yT:=AXJ R N O T (aT AXI 1) [(0,t0)]
noncomputable def yU:Code:=Tryz.f159.body.getD .skip
def dQ:Nat->List Nat:=ln [[],[0,1],[0,1,7,8],[0,1,7,8,9],[0,1,5,7,8],[0,1,5,7,8,16],[0,1,7,8],[]]
abbrev yV:=Wq R N O T 159 19 [.tmp 4]
def yW:=yV R N O T (aT yU 1) [(0,t0),(1,t1)]
def YL:=yV R N O T (aT yU 26) [(0,t0),(1,t1),(7,t7),(8,t8)]
def yX:=yV R N O T (aT yU 211) [(0,t0),(1,t1),(7,t7),(8,t8),(9,t9)]
def yY:=yV R N O T (aT yU 7) []
def yZ:=yV R N O T (aT yU 423) [(0,t0),(1,t1),(7,t7),(8,t8)]
noncomputable def b71:Code:=Tryz.f71.body.getD .skip
def yd:Nat->List Nat:=ln ([]::[1]::[1,3]::rp 3 [1,3,4] [[3]])
abbrev Q71:=Wq R N O T 71 21 [.tmp 2]
def AFE:=Q71 R N O T (aT b71 1) [(0,t0)]
def jr:=Q71 R N O T (aT b71 58) [(1,t1),(3,t3),(4,t4)]
def AFF:=Q71 R N O T (aT b71 233) [(1,t1),(3,t3),(4,t4)]
def AFG:=Q71 R N O T (aT b71 15) [(3,t3)]
def AFH:=Q71 R N O T (aT b71 467) [(1,t1),(3,t3),(4,t4)]
noncomputable def b72:Code:=Tryz.f72.body.getD .skip
def ye:Nat->List Nat:=ln ([]::[1]::[1,3]::rp 3 [1,3,4] [[3]])
abbrev Q72:=Wq R N O T 72 22 [.tmp 2]
def AFI:=Q72 R N O T (aT b72 1) [(0,t0)]
def jt:=Q72 R N O T (aT b72 58) [(1,t1),(3,t3),(4,t4)]
def AFJ:=Q72 R N O T (aT b72 233) [(1,t1),(3,t3),(4,t4)]
def AFK:=Q72 R N O T (aT b72 15) [(3,t3)]
def AFL:=Q72 R N O T (aT b72 467) [(1,t1),(3,t3),(4,t4)]
noncomputable def rq:Code:=Tryz.f73.body.getD .skip
def Ra:Nat->List Nat:=ln ([]::[1]::[1,3]::[1,3,26]::[1,3]::[]::[1,3,28]::[1,3,28,29]::[1,3,28,29]::[]::[1,3,28,34]::[]::[1,3,28,48]::[1,3,62]::[1,3]::rp 3 [1,3,4] ([1,3,4,74]::[]::[1,3,28,75]::[1,3,78]::[]::[1,3,28,79]::[1,3,82]::[]::[1,3,83]::[1,3,94]::[1,3]::rp 3 [1,3,5] [[1,3,5,106],[]]))
abbrev ru:=Wq R N O T 73 107 [.tmp 2]
def ug:=ru R N O T (aT rq 1) [(0,t0)]
def uJ:=ru R N O T (aT rq 15) [(1,t1),(3,t3)]
def NI:=ru R N O T (aT rq 245) [(1,t1),(3,t3),(28,t28),(29,t29)]
def AFM:=ru R N O T (aT rq 15741) [(1,t1),(3,t3)]
def Vl:=ru R N O T (aT rq 31) [(1,t1),(3,t3)]
def jx:=ru R N O T (aT rq 62966) [(1,t1),(3,t3),(4,t4)]
def jv:=ru R N O T (aT rq 250) [(1,t1),(3,t3),(5,t5)]
def AFN:=ru R N O T (aT rq 251865) [(1,t1),(3,t3),(4,t4)]
def AFO:=ru R N O T (aT rq 1001) [(1,t1),(3,t3),(5,t5)]
def AFP:=ru R N O T (aT rq 63) []
def yg:=ru R N O T (aT rq 503731) [(1,t1),(3,t3),(4,t4)]
def yh:=ru R N O T (aT rq 2003) [(1,t1),(3,t3),(5,t5)]
noncomputable def b30:Code:=Tryz.f30.body.getD .skip
def ARy:Nat->List Nat:=ln [[],[1],[1,3],[],[12],[]]
abbrev Q30:=Wq R N O T 30 16 [.tmp 2]
def AFQ:=Q30 R N O T (aT b30 1) [(0,t0)]
def uj:=Q30 R N O T (aT b30 7) []
noncomputable def b48:Code:=Tryz.f48.body.getD .skip
def AXK:Nat->List Nat:=ln [[],[1]]
abbrev Q48:=Wq R N O T 48 7 [.tmp 2]
def AFR:=Q48 R N O T (aT b48 1) [(0,t0)]
noncomputable def b96:Code:=Tryz.f96.body.getD .skip
def AXL:Nat->List Nat:=ln [[],[1]]
abbrev Q96:=Wq R N O T 96 5 [.tmp 2]
def AFS:=Q96 R N O T (aT b96 1) [(0,t0)]
noncomputable def pQ:Code:=Tryz.f126.body.getD .skip
def W5:Nat->List Nat:=ln ([]::[1,2,3]::[1,2,3,16]::[1,2,3]::rp 3 [1,2,3,7] [[2]])
abbrev pR:=Wq R N O T 126 43 [.tmp 6]
def fT:=pR R N O T (aT pQ 1) [(0,t0),(1,t1),(2,t2)]
def ie:=pR R N O T (aT pQ 7) [(1,t1),(2,t2),(3,t3)]
def YD:=pR R N O T (aT pQ 58) [(1,t1),(2,t2),(3,t3),(7,t7)]
def yj:=pR R N O T (aT pQ 233) [(1,t1),(2,t2),(3,t3),(7,t7)]
def yl:=pR R N O T (aT pQ 15) [(2,t2)]
def ym:=pR R N O T (aT pQ 467) [(1,t1),(2,t2),(3,t3),(7,t7)]
noncomputable def yp:Code:=Tryz.f150.body.getD .skip
def dR:Nat->List Nat:=ln ([]::[0,1]::rp 3 [0,1,5] [[0,1,5,31],[0,1,5]])
abbrev yq:=Wq R N O T 150 45 [.tmp 4]
def yu:=yq R N O T (aT yp 1) [(0,t0),(1,t1)]
def YC:=yq R N O T (aT yp 28) [(0,t0),(1,t1),(5,t5)]
def yw:=yq R N O T (aT yp 113) [(0,t0),(1,t1),(5,t5)]
def fQ:=yq R N O T (aT yp 15) [(0,t0),(1,t1),(5,t5)]
def fP:=yq R N O T (aT yp 31) [(0,t0),(1,t1),(5,t5)]
noncomputable def ARz:Code:=Tryz.f151.body.getD .skip
def AFT:Nat->List Nat:=ln [[],[1,2],[11],[]]
abbrev AR0:=Wq R N O T 151 12 [.tmp 4]
def yx:=AR0 R N O T (aT ARz 1) [(0,t0),(1,t1)]
def yy:=AR0 R N O T (aT ARz 7) []
noncomputable def pS:Code:=Tryz.f108.body.getD .skip
def W6:Nat->List Nat:=ln ([]::[0]::[0,17]::[0]::rp 3 [0,3] [[0,3,34],[]])
abbrev pT:=Wq R N O T 108 35 [.tmp 2]
def yz:=pT R N O T (aT pS 1) [(0,t0)]
def y6:=pT R N O T (aT pS 7) [(0,t0)]
def YJ:=pT R N O T (aT pS 58) [(0,t0),(3,t3)]
def y7:=pT R N O T (aT pS 233) [(0,t0),(3,t3)]
def y8:=pT R N O T (aT pS 15) []
def y9:=pT R N O T (aT pS 467) [(0,t0),(3,t3)]
noncomputable def AXM:Code:=Tryz.f109.body.getD .skip
def AR1:Nat->List Nat:=ln [[],[0]]
abbrev AXN:=Wq R N O T 109 21 [.tmp 2]
def zA:=AXN R N O T (aT AXM 1) [(0,t0)]
noncomputable def pU:Code:=Tryz.f110.body.getD .skip
def W7:Nat->List Nat:=ln ([]::[1]::[1,10]::[1]::rp 3 [1,3] [[1,3,24],[1]])
abbrev pV:=Wq R N O T 110 28 [.tmp 2]
def fZ:=pV R N O T (aT pU 1) [(0,t0)]
def zB:=pV R N O T (aT pU 7) [(1,t1)]
def YG:=pV R N O T (aT pU 58) [(1,t1),(3,t3)]
def zC:=pV R N O T (aT pU 233) [(1,t1),(3,t3)]
def zD:=pV R N O T (aT pU 15) [(1,t1)]
def zE:=pV R N O T (aT pU 467) [(1,t1),(3,t3)]
noncomputable def AXO:Code:=Tryz.f135.body.getD .skip
def AR2:Nat->List Nat:=ln [[],[0]]
abbrev AXP:=Wq R N O T 135 17 [.tmp 2]
def zF:=AXP R N O T (aT AXO 1) [(0,t0)]
noncomputable def AXQ:Code:=Tryz.f136.body.getD .skip
def AR3:Nat->List Nat:=ln [[],[0]]
abbrev AXR:=Wq R N O T 136 17 [.tmp 2]
def zH:=AXR R N O T (aT AXQ 1) [(0,t0)]
noncomputable def AXS:Code:=Tryz.f154.body.getD .skip
def AR4:Nat->List Nat:=ln [[],[0]]
abbrev AXT:=Wq R N O T 154 9 [.tmp 2]
def zI:=AXT R N O T (aT AXS 1) [(0,t0)]
end
variable {R:RT} {N O T:Nat} {s:AM} {QR:QT} {t0 t1 t2 t3 t4 t5 t7 t8 t9 t10 t17 t18 t19 t20 t22 t23 t28 t29:AV}
theorem ANH (h :
 B6 s t0 λa b=>
 xF R b a 3 λd=>
 BV b d λe=>
 jq R N O T (AA 1) d e (AA 0) b QR):AE3 R N O T t0 s QR:=
 pC xq cF h
theorem ADp (h :
 xI .lss t9 t8 λa=>
 AO a (
 AE4 R N O T t3 t7 t8 t9 a s QR) (
 AE5 R N O T t3 s QR)):jq R N O T t3 t7 t8 t9 s QR:=
 pL xq cF h
theorem ANF (h :
 Cl s 4 t7 t9 λa=>
 xM R s 4 a λb=>
 Bw s Y4 λc d=>
 CR (lf R 84 N O T) d 4 c b λe=>
 xM R e 4 c λf=>
 xC R 84 N O T 84 [f] e λg i=>
 xI .add t3 g λj=>
 AE6 R N O T j t7 t8 t9 i QR):AE4 R N O T t3 t7 t8 t9 t10 s QR:=
 pC xq cF h
theorem ANE (h :
 QR t3 s):AE5 R N O T t3 s QR:=
 pC xq cF h
theorem ANG (h :
 xI .add t9 (AA 1) λa=>
 jq R N O T t3 t7 t8 a s QR):AE6 R N O T t3 t7 t8 t9 s QR:=
 pC xq cF h
theorem e84 {u0:AV} {Post:AV->Prop} (Ba:AU [] 0 0 [t0]=some [u0]) (h:AE3 R 0 0 0 u0 ⟨[],[]⟩ (QP Post)):AL (env R) 84 [t0] Post:=
 hR Tryz.func84 Ba h
theorem ANP (h :
 B6 s t0 λa b=>
 xF R b a 3 λd=>
 BV b d λe=>
 js R N O T (AA 0) d e (AA 0) b QR):AE7 R N O T t0 s QR:=
 pC xu cF h
theorem ADr (h :
 xI .lss t9 t8 λa=>
 AO a (
 AE8 R N O T t3 t7 t8 t9 a s QR) (
 AE9 R N O T t3 s QR)):js R N O T t3 t7 t8 t9 s QR:=
 pL xu cF h
theorem ANN (h :
 Cl s 4 t7 t9 λa=>
 xM R s 4 a λb=>
 Bw s Y4 λc d=>
 CR (lf R 85 N O T) d 4 c b λe=>
 xM R e 4 c λf=>
 xC R 85 N O T 85 [f] e λg i=>
 TW (env R) (lf R 85 N O T) i (EC [(15,g),(14,f),(13,t3),(5,c),(12,b),(11,a),(3,t3),(7,t7),(8,t8),(9,t9),(10,t10)]) (ADA (sn b85 3737) 3) λj k=>
 AFA R N O T j t7 t8 t9 k QR):AE8 R N O T t3 t7 t8 t9 t10 s QR:=
 pC xu cF h
theorem ANM (h :
 xI .add t3 (AA 1) λa=>
 QR a s):AE9 R N O T t3 s QR:=
 pC xu cF h
theorem ANO (h :
 xI .add t9 (AA 1) λa=>
 js R N O T t3 t7 t8 a s QR):AFA R N O T t3 t7 t8 t9 s QR:=
 pC xu cF h
theorem e85 {u0:AV} {Post:AV->Prop} (Ba:AU [] 0 0 [t0]=some [u0]) (h:AE7 R 0 0 0 u0 ⟨[],[]⟩ (QP Post)):AL (env R) 85 [t0] Post:=
 hR Tryz.func85 Ba h
theorem AIv (h :
 B6 s t0 λa b=>
 xF R b a 0 λd=>
 xI .neq d (AA 2) λe=>
 g1 e true b (BD b a 1) λg i=>
 g1 e true i (xL R i g) λk l=>
 g1 e true l (Fi .neq k (SS [])) λn o=>
 Ay e n (BB false) λp=>
 g1 p false o (BD o a 0) λu v=>
 g1 p false v (xL R v u) λx y=>
 g1 p false y (xI .neq x (AA 5)) λaa ab=>
 g0 p false ab aa λac ad=>
 g1 ac true ad (BD ad a 2) λaf ag=>
 g1 ac true ag (xL R ag af) λai aj=>
 g1 ac true aj (xI .neq ai (AA 0)) λal am=>
 g1 p false am (Ay ac al (BB false)) λao ap=>
 Ay p (BB true) ao λaq=>
 AO aq (
 QR (BB false) ap) (
 fq R N O T a ap QR)):fu R N O T t0 s QR:=
 pC nO cF h
theorem AIu (h :
 xF R s t1 0 λb=>
 xI .eql b (AA 0) λc=>
 AO c (
 J3 R N O T t1 b c s QR) (
 xI .eql b (AA 1) λd=>
 J3 R N O T t1 b d s QR)):fq R N O T t1 s QR:=
 pC nO cF h
theorem Nl (h :
 AO t23 (
 xF R s t1 3 λb=>
 BV s b λc=>
 xI .eql c (AA 0) λd=>
 QR d s) (
 xI .eql t22 (AA 2) λe=>
 AO e (
 xF R s t1 1 λg=>
 xC R 116 N O T 138 [g] s λi j=>
 g1 i true j (xL R j (.DM 2 0)) λl m=>
 g1 i true m (BD m t1 1) λo p=>
 g1 i true p (xL R p o) λu v=>
 Hs i true v (xC R 116 N O T 139 [l,u] v) λy z=>
 g1 i true z (DY y) λab ac=>
 Ay i ab (BB false) λad=>
 g1 ad true ac (BD ac t1 3) λaf ag=>
 g1 ad true ag (xL R ag af) λai aj=>
 g1 ad true aj (BV aj ai) λal am=>
 g1 ad true am (xI .leq al (AA 6)) λao ap=>
 Ay ad ao (BB false) λaq=>
 g1 aq true ap (xM R ap 4 t1) λau av=>
 Hs aq true av (xC R 116 N O T 140 [au] av) λay az=>
 Ay aq ay (BB false) λa0=>
 QR a0 az) (
 xI .eql t22 (AA 3) λa1=>
 AO a1 (
 xF R s t1 3 λa3=>
 BV s a3 λa4=>
 xI .leq a4 (AA 6) λa5=>
 QR a5 s) (
 xI .eql t22 (AA 4) λa6=>
 AO a6 (
 xF R s t1 3 λa8=>
 BV s a8 λa9=>
 xI .geq a9 (AA 2) λba=>
 QR ba s) (
 xI .eql t22 (AA 5) λbb=>
 AO bb (
 xF R s t1 3 λbd=>
 BV s bd λbe=>
 xI .eql be (AA 0) λbf=>
 g1 bf true s (BD s t1 2) λbh bi=>
 g1 bf true bi (xL R bi bh) λbk bl=>
 g1 bf true bl (xI .geq bk (AA 0)) λbn bo=>
 Ay bf bn (BB false) λbp=>
 g1 bp true bo (BD bo t1 2) λbr bs=>
 g1 bp true bs (xL R bs br) λbu bv=>
 g1 bp true bv (xI .leq bu (AA 200)) λbx bz=>
 Ay bp bx (BB false) λb0=>
 QR b0 bz) (
 xI .eql t22 (AA 6) λb1=>
 AO b1 (
 xF R s t1 3 λb3=>
 BV s b3 λb4=>
 xI .eql b4 (AA 2) λb5=>
 g1 b5 true s (BD s t1 3) λb7 b8=>
 g1 b5 true b8 (xL R b8 b7) λca cb=>
 g1 b5 true cb (Cl cb 4 ca (AA 0)) λcd ce=>
 g1 b5 true ce (xM R ce 4 cd) λcg ch=>
 Hs b5 true ch (xC R 116 N O T 141 [cg,(AA 0)] ch) λck cl=>
 Ay b5 ck (BB false) λcm=>
 QR cm cl) (
 xw R N O T  s QR))))))):J3 R N O T t1 t22 t23 s QR:=
 pC nO cF h
theorem AIt (h :
 QR (BB false) s):xw R N O T  s QR:=
 pC nO cF h
theorem AUk {u0:AV} {Post:AV->Prop} (Ba:AU [] 0 0 [t0]=some [u0]) (h:fu R 0 0 0 u0 ⟨[],[]⟩ (QP Post)):AL (env R) 116 [t0] Post:=
 hR Tryz.func116 Ba h
theorem AIw (h :
 B6 s t0 λa b=>
 xM R b 4 a λc=>
 xC R 117 N O T 86 [c] b λd e=>
 DY d λf=>
 QR f e):xx R N O T t0 s QR:=
 pC ARg cF h
theorem AUl {Post:AV->Prop} (hn:Bb [t0]=true) (h:xx R 0 0 0 t0 ⟨[],[]⟩ (QP Post)):AL (env R) 117 [t0] Post:=
 HI (fn:=Tryz.f117) (body:=ARf) Tryz.func117 (by kernel_rfl) (by kernel_rfl) (by kernel_rfl) (Cr (by kernel_rfl)) hn (mP h (by kernel_rfl))
theorem ANY (h :
 B6 s t0 λa b=>
 xM R b 4 a λc=>
 xC R 86 N O T 116 [c] b λd e=>
 g1 d true e (BD e a 3) λg i=>
 g1 d true i (xL R i g) λk l=>
 Hs d true l (xC R 86 N O T 94 [k,(.func (.func 117) [] [])] l) λo p=>
 g1 d true p (DY o) λu v=>
 Ay d u (BB false) λw=>
 QR w v):AFB R N O T t0 s QR:=
 pC AW2 cF h
theorem e86 {u0:AV} {Post:AV->Prop} (Ba:AU [] 0 0 [t0]=some [u0]) (h:AFB R 0 0 0 u0 ⟨[],[]⟩ (QP Post)):AL (env R) 86 [t0] Post:=
 hR Tryz.func86 Ba h
theorem AD1 (h :
 B6 s t0 λa b=>
 xM R b 4 a λc=>
 xC R 42 N O T 84 [c] b λd e=>
 xI .gtr d (AA 200) λf=>
 g1 f false e (xM R e 4 a) λi j=>
 Hs f false j (xC R 42 N O T 85 [i] j) λm n=>
 g1 f false n (xI .gtr m (AA 12)) λp q=>
 Ay f (BB true) p λu=>
 AO u (
 QR (AA 4) q) (
 xM R q 4 a λv=>
 xC R 42 N O T 86 [v] q λw x=>
 DY w λy=>
 AO y (
 QR (AA 2) x) (
 uh R N O T  x QR))):AFC R N O T t0 s QR:=
 pC ARh cF h
theorem ANo (h :
 QR (AA 0) s):uh R N O T  s QR:=
 pC ARh cF h
theorem e42 {u0:AV} {Post:AV->Prop} (Ba:AU [] 0 0 [t0]=some [u0]) (h:AFC R 0 0 0 u0 ⟨[],[]⟩ (QP Post)):AL (env R) 42 [t0] Post:=
 hR Tryz.func42 Ba h
theorem ju (h :
 xC R 94 N O T 125 [t0,t1] s λa b=>
 xI .geq a (AA 0) λc=>
 QR c b):xy R N O T t0 t1 s QR:=
 pC AW3 cF h
theorem e94 {Post:AV->Prop} (hn:Bb [t0,t1]=true) (h:xy R 0 0 0 t0 t1 ⟨[],[]⟩ (QP Post)):AL (env R) 94 [t0,t1] Post:=
 HI (fn:=Tryz.f94) (body:=b94) Tryz.func94 (by kernel_rfl) (by kernel_rfl) (by kernel_rfl) (Cr (by kernel_rfl)) hn (mP h (by kernel_rfl))
theorem m94 {L:A3} {Post:AV->AM->Prop} (hn:Bb [t0,t1]=false) (h:xy R 0 L.ro L.rt t0 t1 s (QM (L.rr 94) s.bs.length Post)):∃v s',Post v s'/\A8 (env R) L 94 [t0,t1] s v s':=
 hM Tryz.func94 hn h
theorem YE (h :
 BV s t0 λa=>
 Pz R N O T t0 t1 a (AA 0) s QR):ic R N O T t0 t1 s QR:=
 pC dN cF h
theorem P0 (h :
 xI .lss t8 t7 λa=>
 AO a (
 x7 R N O T t0 t1 t7 t8 a s QR) (
 x8 R N O T  s QR)):Pz R N O T t0 t1 t7 t8 s QR:=
 pL dN cF h
theorem fX (h :
 Cl s 4 t0 t8 λa=>
 xM R s 4 a λb=>
 EK (env R) (lf R 125 N O T) t1 [b] s λc d=>
 AO c (
 QR t8 d) (
 x9 R N O T t0 t1 t7 t8 d QR)):x7 R N O T t0 t1 t7 t8 t9 s QR:=
 pC dN cF h
theorem fW (h :
 QR (AA (-1)) s):x8 R N O T  s QR:=
 pC dN cF h
theorem fY (h :
 xI .add t8 (AA 1) λa=>
 Pz R N O T t0 t1 t7 a s QR):x9 R N O T t0 t1 t7 t8 s QR:=
 pC dN cF h
theorem ANW {Post:AV->Prop} (hn:Bb [t0,t1]=true) (h:ic R 0 0 0 t0 t1 ⟨[],[]⟩ (QP Post)):AL (env R) 125 [t0,t1] Post:=
 HI (fn:=Tryz.f125) (body:=pN) Tryz.func125 (by kernel_rfl) (by kernel_rfl) (by kernel_rfl) (Cr (by kernel_rfl)) hn (mP h (by kernel_rfl))
theorem ANy {L:A3} {Post:AV->AM->Prop} (hn:Bb [t0,t1]=false) (h:ic R 0 L.ro L.rt t0 t1 s (QM (L.rr 125) s.bs.length Post)):∃v s',Post v s'/\A8 (env R) L 125 [t0,t1] s v s':=
 hM Tryz.func125 hn h
theorem AIN (h :
 B6 s t0 λa b=>
 xF R b a 3 λd=>
 xC R 140 N O T 94 [d,(.func (.func 160) [] [])] b λe f=>
 DY e λg=>
 QR g f):yA R N O T t0 s QR:=
 pC ARi cF h
theorem AUU {u0:AV} {Post:AV->Prop} (Ba:AU [] 0 0 [t0]=some [u0]) (h:yA R 0 0 0 u0 ⟨[],[]⟩ (QP Post)):AL (env R) 140 [t0] Post:=
 hR Tryz.func140 Ba h
theorem AIB (h :
 B6 s t0 λa b=>
 xF R b a 0 λd=>
 xI .eql d (AA 5) λe=>
 g1 e true b (BD b a 2) λg i=>
 g1 e true i (xL R i g) λk l=>
 g0 e true l t1 λm n=>
 g1 e true n (xI .geq k m) λp q=>
 Ay e p (BB false) λu=>
 AO u (
 QR (BB false) q) (
 fO R N O T t1 a q QR)):fN R N O T t0 t1 s QR:=
 pC W4 cF h
theorem AIC (h :
 xF R s t2 3 λb=>
 BV s b λc=>
 YA R N O T t1 t2 b c (AA 0) s QR):fO R N O T t1 t2 s QR:=
 pC W4 cF h
theorem tq (h :
 xI .lss t19 t18 λa=>
 AO a (
 yB R N O T t1 t2 t17 t18 t19 a s QR) (
 yC R N O T  s QR)):YA R N O T t1 t2 t17 t18 t19 s QR:=
 pL W4 cF h
theorem AH9 (h :
 Cl s 4 t17 t19 λa=>
 xM R s 4 a λb=>
 Bw s Y4 λc d=>
 CR (lf R 141 N O T) d 4 c b λe=>
 xM R e 4 c λf=>
 xM R e 4 t2 λg=>
 xC R 141 N O T 119 [g,t19] e λi j=>
 xI .add t1 i λk=>
 xC R 141 N O T 141 [f,k] j λl m=>
 DY l λn=>
(xM R j 4 c λo=>CQ o f=true) /\
 AO n (
 QR (BB false) m) (
 yD R N O T t1 t2 t17 t18 t19 m QR)):yB R N O T t1 t2 t17 t18 t19 t20 s QR:=
 pC W4 cF h
theorem AH8 (h :
 QR (BB true) s):yC R N O T  s QR:=
 pC W4 cF h
theorem AIA (h :
 xI .add t19 (AA 1) λa=>
 YA R N O T t1 t2 t17 t18 a s QR):yD R N O T t1 t2 t17 t18 t19 s QR:=
 pC W4 cF h
theorem AUP {u0 u1:AV} {Post:AV->Prop} (Ba:AU [] 0 0 [t0,t1]=some [u0,u1]) (h:fN R 0 0 0 u0 u1 ⟨[],[]⟩ (QP Post)):AL (env R) 141 [t0,t1] Post:=
 hR Tryz.func141 Ba h
theorem AIO (h :
 B6 s t0 λa b=>
 xM R b 4 a λc=>
 xC R 160 N O T 161 [c] b λd e=>
 DY d λf=>
 QR f e):yE R N O T t0 s QR:=
 pC ARk cF h
theorem AUV {Post:AV->Prop} (hn:Bb [t0]=true) (h:yE R 0 0 0 t0 ⟨[],[]⟩ (QP Post)):AL (env R) 160 [t0] Post:=
 HI (fn:=Tryz.f160) (body:=ARj) Tryz.func160 (by kernel_rfl) (by kernel_rfl) (by kernel_rfl) (Cr (by kernel_rfl)) hn (mP h (by kernel_rfl))
theorem AIM (h :
 B6 s t0 λa b=>
 xF R b a 0 λd=>
 xI .eql d (AA 5) λe=>
 g1 e false b (xM R b 4 a) λg i=>
 Hs e false i (xC R 161 N O T 141 [g,(AA 0)] i) λl m=>
 Ay e (BB true) l λn=>
 g1 n false m (BD m a 0) λp q=>
 g1 n false q (xL R q p) λv w=>
 g1 n false w (xI .eql v (AA 2)) λy z=>
 g0 n false z y λaa ab=>
 g1 aa true ab (xM R ab 4 a) λad ae=>
 Hs aa true ae (xC R 161 N O T 140 [ad] ae) λah ai=>
 g1 n false ai (Ay aa ah (BB false)) λak al=>
 Ay n (BB true) ak λam=>
 QR am al):yF R N O T t0 s QR:=
 pC ARl cF h
theorem AUT {u0:AV} {Post:AV->Prop} (Ba:AU [] 0 0 [t0]=some [u0]) (h:yF R 0 0 0 u0 ⟨[],[]⟩ (QP Post)):AL (env R) 161 [t0] Post:=
 hR Tryz.func161 Ba h
theorem AH6 (h :
 B6 s t0 λa b=>
 xF R b a 0 λd=>
 xI .eql d (AA 6) λe=>
 g0 e true b t1 λf g=>
 g1 e true g (xI .eql f (AA 1)) λj k=>
 Ay e j (BB false) λl=>
 AO l (
 QR (AA 1) k) (
 yH R N O T  k QR)):yG R N O T t0 t1 s QR:=
 pC AFD cF h
theorem th (h :
 QR (AA 0) s):yH R N O T  s QR:=
 pC AFD cF h
theorem AUN {u0 u1:AV} {Post:AV->Prop} (Ba:AU [] 0 0 [t0,t1]=some [u0,u1]) (h:yG R 0 0 0 u0 u1 ⟨[],[]⟩ (QP Post)):AL (env R) 119 [t0,t1] Post:=
 hR Tryz.func119 Ba h
theorem AIf (h :
 Fi .neq t0 (SS []) λa=>
 g0 a true s t0 λb c=>
 g1 a true c (GL b) λe f=>
 g1 a true f (xI .leq e (AA 24)) λi j=>
 Ay a i (BB false) λk=>
 g0 k true j t0 λl m=>
 g1 k true m (L9 l (AA 0)) λo p=>
 Hs k true p (xC R 138 N O T 155 [o] p) λv w=>
 Ay k v (BB false) λx=>
 g0 x true w t0 λy z=>
 Hs x true z (xC R 138 N O T 156 [y,(.func (.func 157) [] [])] z) λac ad=>
 Ay x ac (BB false) λae=>
 QR ae ad):yI R N O T t0 s QR:=
 pC ARo cF h
theorem AUf {u0:AV} {Post:AV->Prop} (Ba:AU [] 0 0 [t0]=some [u0]) (h:yI R 0 0 0 u0 ⟨[],[]⟩ (QP Post)):AL (env R) 138 [t0] Post:=
 hR Tryz.func138 Ba h
theorem AIr (h :
 xC R 139 N O T 159 [t0,t1] s λa b=>
 xI .geq a (AA 0) λc=>
 QR c b):yJ R N O T t0 t1 s QR:=
 pC ARp cF h
theorem AUj {u0 u1:AV} {Post:AV->Prop} (Ba:AU [] 0 0 [t0,t1]=some [u0,u1]) (h:yJ R 0 0 0 u0 u1 ⟨[],[]⟩ (QP Post)):AL (env R) 139 [t0,t1] Post:=
 hR Tryz.func139 Ba h
theorem AIe (h :
 YH R N O T t0 t1 (AA 0) s QR):yM R N O T t0 t1 s QR:=
 pC dP cF h
theorem uF (h :
 GL t0 λa=>
 xI .lss t5 a λb=>
 AO b (
 yN R N O T t0 t1 t5 s QR) (
 yO R N O T  s QR)):YH R N O T t0 t1 t5 s QR:=
 pL dP cF h
theorem AIc (h :
 L9 t0 t5 λa=>
 EK (env R) (lf R 156 N O T) t1 [a] s λb c=>
 DY b λd=>
 AO d (
 QR (BB false) c) (
 yP R N O T t0 t1 t5 c QR)):yN R N O T t0 t1 t5 s QR:=
 pC dP cF h
theorem AIb (h :
 QR (BB true) s):yO R N O T  s QR:=
 pC dP cF h
theorem AId (h :
 xI .add t5 (AA 1) λa=>
 YH R N O T t0 t1 a s QR):yP R N O T t0 t1 t5 s QR:=
 pC dP cF h
theorem AUe {u0 u1:AV} {Post:AV->Prop} (Ba:AU [] 0 0 [t0,t1]=some [u0,u1]) (h:yM R 0 0 0 u0 u1 ⟨[],[]⟩ (QP Post)):AL (env R) 156 [t0,t1] Post:=
 hR Tryz.func156 Ba h
theorem AIa (h :
 Cb .u8 .neq t0 (.pv (.sc (.int .u8 45))) λa=>
 g0 a true s t0 λb c=>
 Hs a true c (xC R 157 N O T 158 [b] c) λf g=>
 Ay a f (BB false) λi=>
 QR i g):yQ R N O T t0 s QR:=
 pC ARr cF h
theorem AUd {Post:AV->Prop} (hn:Bb [t0]=true) (h:yQ R 0 0 0 t0 ⟨[],[]⟩ (QP Post)):AL (env R) 157 [t0] Post:=
 HI (fn:=Tryz.f157) (body:=ARq) Tryz.func157 (by kernel_rfl) (by kernel_rfl) (by kernel_rfl) (Cr (by kernel_rfl)) hn (mP h (by kernel_rfl))
theorem AIY (h :
 xC R 158 N O T 155 [t0] s λa b=>
 g0 a false b t0 λc d=>
 Hs a false d (xC R 158 N O T 173 [c] d) λg i=>
 Ay a (BB true) g λj=>
 g0 j false i t0 λk l=>
 g1 j false l (Cb .u8 .eql k (.pv (.sc (.int .u8 95)))) λn o=>
 Ay j (BB true) n λp=>
 g0 p false o t0 λq u=>
 g1 p false u (Cb .u8 .eql q (.pv (.sc (.int .u8 45)))) λw x=>
 Ay p (BB true) w λy=>
 QR y x):yR R N O T t0 s QR:=
 pC ARs cF h
theorem AUb {u0:AV} {Post:AV->Prop} (Ba:AU [] 0 0 [t0]=some [u0]) (h:yR R 0 0 0 u0 ⟨[],[]⟩ (QP Post)):AL (env R) 158 [t0] Post:=
 hR Tryz.func158 Ba h
theorem AIU (h :
 Cb .u8 .geq t0 (.pv (.sc (.int .u8 97))) λa=>
 g0 a true s t0 λb c=>
 g1 a true c (Cb .u8 .leq b (.pv (.sc (.int .u8 122)))) λe f=>
 Ay a e (BB false) λg=>
 g0 g false f t0 λi j=>
 g1 g false j (Cb .u8 .geq i (.pv (.sc (.int .u8 65)))) λl m=>
 g0 g false m l λn o=>
 g0 n true o t0 λp q=>
 g1 n true q (Cb .u8 .leq p (.pv (.sc (.int .u8 90)))) λv w=>
 g1 g false w (Ay n v (BB false)) λy z=>
 Ay g (BB true) y λaa=>
 QR aa z):yS R N O T t0 s QR:=
 pC ARt cF h
theorem AUX {u0:AV} {Post:AV->Prop} (Ba:AU [] 0 0 [t0]=some [u0]) (h:yS R 0 0 0 u0 ⟨[],[]⟩ (QP Post)):AL (env R) 155 [t0] Post:=
 hR Tryz.func155 Ba h
theorem AIW (h :
 Cb .u8 .geq t0 (.pv (.sc (.int .u8 48))) λa=>
 g0 a true s t0 λb c=>
 g1 a true c (Cb .u8 .leq b (.pv (.sc (.int .u8 57)))) λe f=>
 Ay a e (BB false) λg=>
 QR g f):yT R N O T t0 s QR:=
 pC ARu cF h
theorem AUZ {u0:AV} {Post:AV->Prop} (Ba:AU [] 0 0 [t0]=some [u0]) (h:yT R 0 0 0 u0 ⟨[],[]⟩ (QP Post)):AL (env R) 173 [t0] Post:=
 hR Tryz.func173 Ba h
theorem AIq (h :
 BV s t0 λa=>
 YL R N O T t0 t1 a (AA 0) s QR):yW R N O T t0 t1 s QR:=
 pC dQ cF h
theorem uH (h :
 xI .lss t8 t7 λa=>
 AO a (
 yX R N O T t0 t1 t7 t8 a s QR) (
 yY R N O T  s QR)):YL R N O T t0 t1 t7 t8 s QR:=
 pL dQ cF h
theorem AIo (h :
 Cl s 1 t0 t8 λa=>
 xL R s a λb=>
 Fi .eql t1 b λc=>
 AO c (
 QR t8 s) (
 yZ R N O T t0 t1 t7 t8 s QR)):yX R N O T t0 t1 t7 t8 t9 s QR:=
 pC dQ cF h
theorem AIn (h :
 QR (AA (-1)) s):yY R N O T  s QR:=
 pC dQ cF h
theorem AIp (h :
 xI .add t8 (AA 1) λa=>
 YL R N O T t0 t1 t7 a s QR):yZ R N O T t0 t1 t7 t8 s QR:=
 pC dQ cF h
theorem AUi {u0 u1:AV} {Post:AV->Prop} (Ba:AU [] 0 0 [t0,t1]=some [u0,u1]) (h:yW R 0 0 0 u0 u1 ⟨[],[]⟩ (QP Post)):AL (env R) 159 [t0,t1] Post:=
 hR Tryz.func159 Ba h
theorem ANL (h :
 B6 s t0 λa b=>
 jr R N O T a (AA 1) (AA 0) b QR):AFE R N O T t0 s QR:=
 pC yd cF h
theorem ADq (h :
 xF R s t1 3 λb=>
 BV s b λc=>
 xI .lss t4 c λd=>
 AO d (
 AFF R N O T t1 t3 t4 s QR) (
 AFG R N O T t3 s QR)):jr R N O T t1 t3 t4 s QR:=
 pL yd cF h
theorem ANJ (h :
 xF R s t1 3 λb=>
 Cl s 4 b t4 λc=>
 xM R s 4 c λd=>
 xC R 71 N O T 71 [d] s λe f=>
 xI .add t3 e λg=>
 AFH R N O T t1 g t4 f QR):AFF R N O T t1 t3 t4 s QR:=
 pC yd cF h
theorem ANI (h :
 QR t3 s):AFG R N O T t3 s QR:=
 pC yd cF h
theorem ANK (h :
 xI .add t4 (AA 1) λa=>
 jr R N O T t1 t3 a s QR):AFH R N O T t1 t3 t4 s QR:=
 pC yd cF h
theorem e71 {u0:AV} {Post:AV->Prop} (Ba:AU [] 0 0 [t0]=some [u0]) (h:AFE R 0 0 0 u0 ⟨[],[]⟩ (QP Post)):AL (env R) 71 [t0] Post:=
 hR Tryz.func71 Ba h
theorem ANT (h :
 B6 s t0 λa b=>
 jt R N O T a (AA 0) (AA 0) b QR):AFI R N O T t0 s QR:=
 pC ye cF h
theorem ADs (h :
 xF R s t1 3 λb=>
 BV s b λc=>
 xI .lss t4 c λd=>
 AO d (
 AFJ R N O T t1 t3 t4 s QR) (
 AFK R N O T t3 s QR)):jt R N O T t1 t3 t4 s QR:=
 pL ye cF h
theorem ANR (h :
 BD s t1 3 λa=>
 xL R s a λb=>
 Cl s 4 b t4 λc=>
 xM R s 4 c λd=>
 xC R 72 N O T 72 [d] s λe f=>
 TW (env R) (lf R 72 N O T) f (EC [(18,e),(17,d),(16,c),(15,t4),(14,b),(13,a),(12,t3),(1,t1),(3,t3),(4,t4)]) (ADA (sn b72 932) 7) λg i=>
 AFL R N O T t1 g t4 i QR):AFJ R N O T t1 t3 t4 s QR:=
 pC ye cF h
theorem ANQ (h :
 xI .add t3 (AA 1) λa=>
 QR a s):AFK R N O T t3 s QR:=
 pC ye cF h
theorem ANS (h :
 xI .add t4 (AA 1) λa=>
 jt R N O T t1 t3 a s QR):AFL R N O T t1 t3 t4 s QR:=
 pC ye cF h
theorem e72 {u0:AV} {Post:AV->Prop} (Ba:AU [] 0 0 [t0]=some [u0]) (h:AFI R 0 0 0 u0 ⟨[],[]⟩ (QP Post)):AL (env R) 72 [t0] Post:=
 hR Tryz.func72 Ba h
theorem ANm (h :
 B6 s t0 λa b=>
 xF R b a 3 λd=>
 BV b d λe=>
 xF R b a 0 λg=>
 xI .neq g (AA 2) λi=>
 g1 i true b (BD b a 1) λk l=>
 g1 i true l (xL R l k) λn o=>
 g1 i true o (Fi .neq n (SS [])) λq u=>
 Ay i q (BB false) λv=>
 g1 v false u (BD u a 0) λx y=>
 g1 v false y (xL R y x) λaa ab=>
 g1 v false ab (xI .neq aa (AA 5)) λad ae=>
 g0 v false ae ad λaf ag=>
 g1 af true ag (BD ag a 2) λai aj=>
 g1 af true aj (xL R aj ai) λal am=>
 g1 af true am (xI .neq al (AA 0)) λao ap=>
 g1 v false ap (Ay af ao (BB false)) λar au=>
 Ay v (BB true) ar λav=>
 AO av (
 QR (BB false) au) (
 uJ R N O T a e au QR)):ug R N O T t0 s QR:=
 pC Ra cF h
theorem ANe (h :
 xF R s t1 0 λb=>
 xI .eql b (AA 0) λc=>
 AO c (
 NI R N O T t1 t3 b c s QR) (
 xI .eql b (AA 1) λd=>
 NI R N O T t1 t3 b d s QR)):uJ R N O T t1 t3 s QR:=
 pC Ra cF h
theorem TA (h :
 AO t29 (
 xI .eql t3 (AA 0) λa=>
 QR a s) (
 xI .eql t28 (AA 5) λb=>
 AO b (
 xI .eql t3 (AA 0) λc=>
 g1 c true s (BD s t1 2) λe f=>
 g1 c true f (xL R f e) λi j=>
 g1 c true j (xI .geq i (AA 0)) λl m=>
 Ay c l (BB false) λn=>
 g1 n true m (BD m t1 2) λp q=>
 g1 n true q (xL R q p) λv w=>
 g1 n true w (xI .leq v (AA 200)) λy z=>
 Ay n y (BB false) λaa=>
 QR aa z) (
 xI .eql t28 (AA 2) λab=>
 AO ab (
 xF R s t1 1 λad=>
 xC R 73 N O T 108 [ad] s λae af=>
 DY ae λag=>
 g1 ag false af (BD af t1 1) λai aj=>
 g1 ag false aj (xL R aj ai) λal am=>
 Hs ag false am (xC R 73 N O T 109 [al] am) λap aq=>
 Ay ag (BB true) ap λar=>
 g0 ar false aq t3 λau av=>
 g1 ar false av (xI .gtr au (AA 6)) λax ay=>
 Ay ar (BB true) ax λaz=>
 AO az (
 QR (BB false) ay) (
 AFM R N O T t1 t3 ay QR)) (
 xI .eql t28 (AA 3) λa0=>
 AO a0 (
 xI .gtr t3 (AA 6) λa1=>
 AO a1 (
 QR (BB false) s) (
 Vl R N O T t1 t3 s QR)) (
 xI .eql t28 (AA 4) λa2=>
 AO a2 (
 xI .lss t3 (AA 2) λa3=>
 AO a3 (
 QR (BB false) s) (
 Vl R N O T t1 t3 s QR)) (
 xI .eql t28 (AA 6) λa4=>
 AO a4 (
 xI .neq t3 (AA 2) λa5=>
 g1 a5 false s (BD s t1 3) λa7 a8=>
 g1 a5 false a8 (xL R a8 a7) λba bb=>
 g1 a5 false bb (Cl bb 4 ba (AA 0)) λbd be=>
 g1 a5 false be (xM R be 4 bd) λbg bh=>
 Hs a5 false bh (xC R 73 N O T 48 [bg] bh) λbk bl=>
 g1 a5 false bl (DY bk) λbn bo=>
 Ay a5 (BB true) bn λbp=>
 AO bp (
 QR (BB false) bo) (
 Vl R N O T t1 t3 bo QR)) (
 QR (BB false) s))))))):NI R N O T t1 t3 t28 t29 s QR:=
 pC Ra cF h
theorem ANd (h :
 jx R N O T t1 t3 (AA 0) s QR):AFM R N O T t1 t3 s QR:=
 pC Ra cF h
theorem ANb (h :
 jv R N O T t1 t3 (AA 0) s QR):Vl R N O T t1 t3 s QR:=
 pC Ra cF h
theorem ADv (h :
 xI .lss t4 t3 λa=>
 AO a (
 AFN R N O T t1 t3 t4 s QR) (
 Vl R N O T t1 t3 s QR)):jx R N O T t1 t3 t4 s QR:=
 pL Ra cF h
theorem ADu (h :
 xI .lss t5 t3 λa=>
 AO a (
 AFO R N O T t1 t3 t5 s QR) (
 AFP R N O T  s QR)):jv R N O T t1 t3 t5 s QR:=
 pL Ra cF h
theorem ANc (h :
 xF R s t1 3 λb=>
 Cl s 4 b t4 λc=>
 xM R s 4 c λd=>
 xC R 73 N O T 110 [d] s λe f=>
 DY e λg=>
 AO g (
 QR (BB false) f) (
 yg R N O T t1 t3 t4 f QR)):AFN R N O T t1 t3 t4 s QR:=
 pC Ra cF h
theorem ANa (h :
 xF R s t1 3 λb=>
 Cl s 4 b t5 λc=>
 xM R s 4 c λd=>
 xC R 73 N O T 73 [d] s λe f=>
 DY e λg=>
 AO g (
 QR (BB false) f) (
 yh R N O T t1 t3 t5 f QR)):AFO R N O T t1 t3 t5 s QR:=
 pC Ra cF h
theorem ANZ (h :
 QR (BB true) s):AFP R N O T  s QR:=
 pC Ra cF h
theorem AIy (h :
 xI .add t4 (AA 1) λa=>
 jx R N O T t1 t3 a s QR):yg R N O T t1 t3 t4 s QR:=
 pC Ra cF h
theorem AIx (h :
 xI .add t5 (AA 1) λa=>
 jv R N O T t1 t3 a s QR):yh R N O T t1 t3 t5 s QR:=
 pC Ra cF h
theorem e73 {u0:AV} {Post:AV->Prop} (Ba:AU [] 0 0 [t0]=some [u0]) (h:ug R 0 0 0 u0 ⟨[],[]⟩ (QP Post)):AL (env R) 73 [t0] Post:=
 hR Tryz.func73 Ba h
theorem AD2 (h :
 B6 s t0 λa b=>
 xM R b 4 a λc=>
 xC R 30 N O T 71 [c] b λd e=>
 xI .gtr d (AA 200) λf=>
 g1 f false e (xM R e 4 a) λi j=>
 Hs f false j (xC R 30 N O T 72 [i] j) λm n=>
 g1 f false n (xI .gtr m (AA 12)) λp q=>
 Ay f (BB true) p λu=>
 AO u (
 QR (AA 4) q) (
 xM R q 4 a λv=>
 xC R 30 N O T 73 [v] q λw x=>
 DY w λy=>
 AO y (
 QR (AA 2) x) (
 uj R N O T  x QR))):AFQ R N O T t0 s QR:=
 pC ARy cF h
theorem ANp (h :
 QR (AA 0) s):uj R N O T  s QR:=
 pC ARy cF h
theorem e30 {u0:AV} {Post:AV->Prop} (Ba:AU [] 0 0 [t0]=some [u0]) (h:AFQ R 0 0 0 u0 ⟨[],[]⟩ (QP Post)):AL (env R) 30 [t0] Post:=
 hR Tryz.func30 Ba h
theorem ANU (h :
 B6 s t0 λa b=>
 xM R b 4 a λc=>
 xC R 48 N O T 96 [c] b λd e=>
 BV e d λf=>
 xI .eql f (AA 0) λg=>
 QR g e):AFR R N O T t0 s QR:=
 pC AXK cF h
theorem e48 {u0:AV} {Post:AV->Prop} (Ba:AU [] 0 0 [t0]=some [u0]) (h:AFR R 0 0 0 u0 ⟨[],[]⟩ (QP Post)):AL (env R) 48 [t0] Post:=
 hR Tryz.func48 Ba h
theorem ANV (h :
 B6 s t0 λa b=>
 xM R b 4 a λc=>
 xC R 96 N O T 126 [c,(AA 0),(.AB [])] b λd e=>
 QR d e):AFS R N O T t0 s QR:=
 pC AXL cF h
theorem e96 {u0:AV} {Post:AV->Prop} (Ba:AU [] 0 0 [t0]=some [u0]) (h:AFS R 0 0 0 u0 ⟨[],[]⟩ (QP Post)):AL (env R) 96 [t0] Post:=
 hR Tryz.func96 Ba h
theorem AIL (h :
 B6 s t0 λa b=>
 xF R b a 0 λd=>
 xI .eql d (AA 5) λe=>
 g1 e true b (BD b a 2) λg i=>
 g1 e true i (xL R i g) λk l=>
 g0 e true l t1 λm n=>
 g1 e true n (xI .geq k m) λp q=>
 Ay e p (BB false) λu=>
 AO u (
 xF R q a 2 λw=>
 xI .sub w t1 λx=>
 xC R 126 N O T 150 [t2,x] q λy z=>
 ie R N O T t1 y a z QR) (
 ie R N O T t1 t2 a q QR)):fT R N O T t0 t1 t2 s QR:=
 pC W5 cF h
theorem fU (h :
 YD R N O T t1 t2 t3 (AA 0) s QR):ie R N O T t1 t2 t3 s QR:=
 pC W5 cF h
theorem uC (h :
 xF R s t3 3 λb=>
 BV s b λc=>
 xI .lss t7 c λd=>
 AO d (
 yj R N O T t1 t2 t3 t7 s QR) (
 yl R N O T t2 s QR)):YD R N O T t1 t2 t3 t7 s QR:=
 pL W5 cF h
theorem AIJ (h :
 BD s t3 3 λa=>
 xL R s a λb=>
 Cl s 4 b t7 λc=>
 xM R s 4 c λd=>
 xM R s 4 t3 λe=>
 xC R 126 N O T 151 [e,t7] s λf g=>
 xI .add t1 f λi=>
 xC R 126 N O T 126 [d,i,t2] g λj k=>
(BD g t3 3 λl=>CQ l a=true) /\
(xL R g a λm=>CQ m b=true) /\
(Cl g 4 b t7 λn=>CQ n c=true) /\
(xM R g 4 c λo=>CQ o d=true) /\
 ym R N O T t1 j t3 t7 k QR):yj R N O T t1 t2 t3 t7 s QR:=
 pC W5 cF h
theorem AII (h :
 QR t2 s):yl R N O T t2 s QR:=
 pC W5 cF h
theorem AIK (h :
 xI .add t7 (AA 1) λa=>
 YD R N O T t1 t2 t3 a s QR):ym R N O T t1 t2 t3 t7 s QR:=
 pC W5 cF h
theorem AUR {u0 u1 u2:AV} {Post:AV->Prop} (Ba:AU [] 0 0 [t0,t1,t2]=some [u0,u1,u2]) (h:fT R 0 0 0 u0 u1 u2 ⟨[],[]⟩ (QP Post)):AL (env R) 126 [t0,t1,t2] Post:=
 hR Tryz.func126 Ba h
theorem AIH (h :
 YC R N O T t0 t1 (AA 0) s QR):yu R N O T t0 t1 s QR:=
 pC dR cF h
theorem uB (h :
 BV s t0 λa=>
 xI .lss t5 a λb=>
 g0 b true s t0 λc d=>
 g0 b true d t5 λe f=>
 g1 b true f (Cl f 1 c e) λi j=>
 g1 b true j (xL R j i) λl m=>
 g0 b true m t1 λn o=>
 g1 b true o (xI .lss l n) λq u=>
 Ay b q (BB false) λv=>
 AO v (
 yw R N O T t0 t1 t5 u QR) (
 fQ R N O T t0 t1 t5 u QR)):YC R N O T t0 t1 t5 s QR:=
 pL dR cF h
theorem AIF (h :
 xI .add t5 (AA 1) λa=>
 YC R N O T t0 t1 a s QR):yw R N O T t0 t1 t5 s QR:=
 pC dR cF h
theorem AIE (h :
 BV s t0 λa=>
 xI .lss t5 a λb=>
 g0 b true s t0 λc d=>
 g0 b true d t5 λe f=>
 g1 b true f (Cl f 1 c e) λi j=>
 g1 b true j (xL R j i) λl m=>
 g0 b true m t1 λn o=>
 g1 b true o (xI .eql l n) λq u=>
 Ay b q (BB false) λv=>
 AO v (
 QR t0 u) (
 fP R N O T t0 t1 t5 u QR)):fQ R N O T t0 t1 t5 s QR:=
 pC dR cF h
theorem AID (h :
 Dc false s 1 [(AA 0)] 0 [] λa b=>
 YB s 1 t0 none (some t5) none λc=>
(1=1/\1≠0)/\EL false (lf R 150 N O T) s 3 1 8 a c λd e=>
 Dc false e 1 [(AA 0)] 1 [(0,1,t1)] λf g=>
(1=1/\1≠0)/\EL false (lf R 150 N O T) e 3 1 8 d f λi j=>
 YB j 1 t0 (some t5) none none λk=>
(1=1/\1≠0)/\EL false (lf R 150 N O T) j 3 1 8 i k λl m=>
(YB s 1 t0 (some t5) none none λn=>CQ n k=true) /\
(YB e 1 t0 (some t5) none none λo=>CQ o k=true) /\
 QR l m):fP R N O T t0 t1 t5 s QR:=
 pC dR cF h
theorem AUQ {u0 u1:AV} {Post:AV->Prop} (Ba:AU [] 0 0 [t0,t1]=some [u0,u1]) (h:yu R 0 0 0 u0 u1 ⟨[],[]⟩ (QP Post)):AL (env R) 150 [t0,t1] Post:=
 hR Tryz.func150 Ba h
theorem AH7 (h :
 B6 s t0 λa b=>
 xF R b a 0 λd=>
 xI .eql d (AA 6) λe=>
 g0 e true b t1 λf g=>
 g1 e true g (xI .eql f (AA 1)) λj k=>
 Ay e j (BB false) λl=>
 AO l (
 QR (AA 1) k) (
 yy R N O T  k QR)):yx R N O T t0 t1 s QR:=
 pC AFT cF h
theorem tj (h :
 QR (AA 0) s):yy R N O T  s QR:=
 pC AFT cF h
theorem AUO {u0 u1:AV} {Post:AV->Prop} (Ba:AU [] 0 0 [t0,t1]=some [u0,u1]) (h:yx R 0 0 0 u0 u1 ⟨[],[]⟩ (QP Post)):AL (env R) 151 [t0,t1] Post:=
 hR Tryz.func151 Ba h
theorem AIk (h :
 GL t0 λa=>
 xI .lss a (AA 1) λb=>
 g0 b false s t0 λc d=>
 g1 b false d (GL c) λf g=>
 g1 b false g (xI .gtr f (AA 24)) λj k=>
 Ay b (BB true) j λl=>
 g0 l false k t0 λm n=>
 g1 l false n (L9 m (AA 0)) λp q=>
 Hs l false q (xC R 108 N O T 135 [p] q) λw x=>
 g1 l false x (DY w) λz aa=>
 Ay l (BB true) z λab=>
 AO ab (
 QR (BB false) aa) (
 y6 R N O T t0 aa QR)):yz R N O T t0 s QR:=
 pC W6 cF h
theorem AIl (h :
 YJ R N O T t0 (AA 0) s QR):y6 R N O T t0 s QR:=
 pC W6 cF h
theorem uG (h :
 GL t0 λa=>
 xI .lss t3 a λb=>
 AO b (
 y7 R N O T t0 t3 s QR) (
 y8 R N O T  s QR)):YJ R N O T t0 t3 s QR:=
 pL W6 cF h
theorem AIh (h :
 L9 t0 t3 λa=>
 xC R 108 N O T 136 [a] s λb c=>
 DY b λd=>
 g0 d false c t0 λe f=>
 g0 d false f t3 λg i=>
 g1 d false i (L9 e g) λk l=>
 g1 d false l (Cb .u8 .eql k (.pv (.sc (.int .u8 45)))) λn o=>
 Ay d (BB true) n λp=>
 AO p (
 QR (BB false) o) (
 y9 R N O T t0 t3 o QR)):y7 R N O T t0 t3 s QR:=
 pC W6 cF h
theorem AIg (h :
 QR (BB true) s):y8 R N O T  s QR:=
 pC W6 cF h
theorem AIj (h :
 xI .add t3 (AA 1) λa=>
 YJ R N O T t0 a s QR):y9 R N O T t0 t3 s QR:=
 pC W6 cF h
theorem AUg {u0:AV} {Post:AV->Prop} (Ba:AU [] 0 0 [t0]=some [u0]) (h:yz R 0 0 0 u0 ⟨[],[]⟩ (QP Post)):AL (env R) 108 [t0] Post:=
 hR Tryz.func108 Ba h
theorem AIm (h :
 Fi .eql t0 (SS [65,110,121]) λa=>
 g0 a false s t0 λb c=>
 g1 a false c (Fi .eql b (SS [78,101,118,101,114])) λe f=>
 Ay a (BB true) e λg=>
 g0 g false f t0 λi j=>
 g1 g false j (Fi .eql i (SS [116,117,112,108,101])) λl m=>
 Ay g (BB true) l λn=>
 g0 n false m t0 λo p=>
 g1 n false p (Fi .eql o (SS [117,110,105,111,110])) λu v=>
 Ay n (BB true) u λw=>
 g0 w false v t0 λx y=>
 g1 w false y (Fi .eql x (SS [101,120,105,115,116,115])) λaa ab=>
 Ay w (BB true) aa λac=>
 QR ac ab):zA R N O T t0 s QR:=
 pC AR1 cF h
theorem AUh {u0:AV} {Post:AV->Prop} (Ba:AU [] 0 0 [t0]=some [u0]) (h:zA R 0 0 0 u0 ⟨[],[]⟩ (QP Post)):AL (env R) 109 [t0] Post:=
 hR Tryz.func109 Ba h
theorem AIS (h :
 B6 s t0 λa b=>
 xF R b a 0 λd=>
 xI .eql d (AA 5) λe=>
 g1 e false b (xM R b 4 a) λg i=>
 Hs e false i (xC R 110 N O T 48 [g] i) λl m=>
 Ay e (BB true) l λn=>
 AO n (
 QR (BB true) m) (
 zB R N O T a m QR)):fZ R N O T t0 s QR:=
 pC W7 cF h
theorem AIT (h :
 YG R N O T t1 (AA 0) s QR):zB R N O T t1 s QR:=
 pC W7 cF h
theorem uE (h :
 xF R s t1 3 λb=>
 BV s b λc=>
 xI .lss t3 c λd=>
 AO d (
 zC R N O T t1 t3 s QR) (
 zD R N O T t1 s QR)):YG R N O T t1 t3 s QR:=
 pL W7 cF h
theorem AIQ (h :
 xF R s t1 3 λb=>
 Cl s 4 b t3 λc=>
 xM R s 4 c λd=>
 xC R 110 N O T 110 [d] s λe f=>
 DY e λg=>
 AO g (
 QR (BB false) f) (
 zE R N O T t1 t3 f QR)):zC R N O T t1 t3 s QR:=
 pC W7 cF h
theorem AIP (h :
 xF R s t1 0 λb=>
 xI .eql b (AA 2) λc=>
 QR c s):zD R N O T t1 s QR:=
 pC W7 cF h
theorem AIR (h :
 xI .add t3 (AA 1) λa=>
 YG R N O T t1 a s QR):zE R N O T t1 t3 s QR:=
 pC W7 cF h
theorem AUW {u0:AV} {Post:AV->Prop} (Ba:AU [] 0 0 [t0]=some [u0]) (h:fZ R 0 0 0 u0 ⟨[],[]⟩ (QP Post)):AL (env R) 110 [t0] Post:=
 hR Tryz.func110 Ba h
theorem AIV (h :
 Cb .u8 .geq t0 (.pv (.sc (.int .u8 97))) λa=>
 g0 a true s t0 λb c=>
 g1 a true c (Cb .u8 .leq b (.pv (.sc (.int .u8 122)))) λe f=>
 Ay a e (BB false) λg=>
 g0 g false f t0 λi j=>
 g1 g false j (Cb .u8 .geq i (.pv (.sc (.int .u8 65)))) λl m=>
 g0 g false m l λn o=>
 g0 n true o t0 λp q=>
 g1 n true q (Cb .u8 .leq p (.pv (.sc (.int .u8 90)))) λv w=>
 g1 g false w (Ay n v (BB false)) λy z=>
 Ay g (BB true) y λaa=>
 QR aa z):zF R N O T t0 s QR:=
 pC AR2 cF h
theorem AUY {u0:AV} {Post:AV->Prop} (Ba:AU [] 0 0 [t0]=some [u0]) (h:zF R 0 0 0 u0 ⟨[],[]⟩ (QP Post)):AL (env R) 135 [t0] Post:=
 hR Tryz.func135 Ba h
theorem AIZ (h :
 xC R 136 N O T 135 [t0] s λa b=>
 g0 a false b t0 λc d=>
 Hs a false d (xC R 136 N O T 154 [c] d) λg i=>
 Ay a (BB true) g λj=>
 g0 j false i t0 λk l=>
 g1 j false l (Cb .u8 .eql k (.pv (.sc (.int .u8 95)))) λn o=>
 Ay j (BB true) n λp=>
 g0 p false o t0 λq u=>
 g1 p false u (Cb .u8 .eql q (.pv (.sc (.int .u8 45)))) λw x=>
 Ay p (BB true) w λy=>
 QR y x):zH R N O T t0 s QR:=
 pC AR3 cF h
theorem AUc {u0:AV} {Post:AV->Prop} (Ba:AU [] 0 0 [t0]=some [u0]) (h:zH R 0 0 0 u0 ⟨[],[]⟩ (QP Post)):AL (env R) 136 [t0] Post:=
 hR Tryz.func136 Ba h
theorem AIX (h :
 Cb .u8 .geq t0 (.pv (.sc (.int .u8 48))) λa=>
 g0 a true s t0 λb c=>
 g1 a true c (Cb .u8 .leq b (.pv (.sc (.int .u8 57)))) λe f=>
 Ay a e (BB false) λg=>
 QR g f):zI R N O T t0 s QR:=
 pC AR4 cF h
theorem AUa {u0:AV} {Post:AV->Prop} (Ba:AU [] 0 0 [t0]=some [u0]) (h:zI R 0 0 0 u0 ⟨[],[]⟩ (QP Post)):AL (env R) 154 [t0] Post:=
 hR Tryz.func154 Ba h
end
noncomputable section
section
variable (R:RT) (N O T:Nat) (t0 t1 t2 t3 t6 t7 t8:AV)
noncomputable def b82:Code:=Tryz.f82.body.getD .skip
def dS:Nat->List Nat:=ln ([]::[1,2,3,6]::[1,2,3,6,11]::[2,3,6,15]::[3,6]::[1,2,3,6]::[1,2,3,6,26]::[1,2,3,6]::[1,2,3,6,7]::[1,2,3,6,7]::rp 3 [1,2,3,6,7,8] [[6,7]])
abbrev Q82:=Wq R N O T 82 51 [.cell 6 25]
def wG:=Q82 R N O T (aT b82 1) [(0,t0),(1,t1),(2,t2)]
def AFW:=Q82 R N O T (aT b82 53) [(3,t3),(6,t6)]
def AFX:=Q82 R N O T (aT b82 7) [(1,t1),(2,t2),(3,t3),(6,t6)]
def wJ:=Q82 R N O T (aT b82 15) [(1,t1),(2,t2),(3,t3),(6,t6)]
def lq:=Q82 R N O T (aT b82 506) [(1,t1),(2,t2),(3,t3),(6,t6),(7,t7),(8,t8)]
def AFY:=Q82 R N O T (aT b82 2025) [(1,t1),(2,t2),(3,t3),(6,t6),(7,t7),(8,t8)]
def AFZ:=Q82 R N O T (aT b82 127) [(6,t6),(7,t7)]
def AFa:=Q82 R N O T (aT b82 4051) [(1,t1),(2,t2),(3,t3),(6,t6),(7,t7),(8,t8)]
end
variable {R:RT} {N O T:Nat} {s:AM} {QR:QT} {t0 t1 t2 t3 t6 t7 t8:AV}
theorem APb (h :
 B6 s t0 λa b=>
 Bw b Y4 λc d=>
 xF R d a 0 λf=>
 xI .eql f (AA 5) λg=>
 AO g (
 xF R d a 2 λj=>
 xI .eql j t1 λk=>
 AO k (
 xC R 82 N O T 25 [t2] d λl m=>
 CR (lf R 82 N O T) m 4 c l λn=>
 xM R n 4 c λo=>
 QR o n) (
 AFW R N O T a c d QR)) (
 AFX R N O T t1 t2 a c d QR)):wG R N O T t0 t1 t2 s QR:=
 pC dS cF h
theorem APc (h :
 xM R s 4 t3 λa=>
 CR (lf R 82 N O T) s 4 t6 a λb=>
 xM R b 4 t6 λc=>
 QR c b):AFW R N O T t3 t6 s QR:=
 pC dS cF h
theorem APd (h :
 xF R s t3 0 λb=>
 xI .neq b (AA 3) λc=>
 g1 c true s (BD s t3 0) λe f=>
 g1 c true f (xL R f e) λi j=>
 g1 c true j (xI .neq i (AA 2)) λl m=>
 Ay c l (BB false) λn=>
 AO n (
 xM R m 4 t3 λo=>
 CR (lf R 82 N O T) m 4 t6 o λp=>
 xM R p 4 t6 λq=>
 QR q p) (
 wJ R N O T t1 t2 t3 t6 m QR)):AFX R N O T t1 t2 t3 t6 s QR:=
 pC dS cF h
theorem APe (h :
 xM R s 4 t3 λa=>
 Bw s Y4 λb c=>
 CR (lf R 82 N O T) c 4 b a λd=>
 BD d b 3 λe=>
 CR (lf R 82 N O T) d 1 e (.AB []) λf=>
 lq R N O T t1 t2 t3 t6 b (AA 0) f QR):wJ R N O T t1 t2 t3 t6 s QR:=
 pC dS cF h
theorem AEY (h :
 xF R s t3 3 λb=>
 BV s b λc=>
 xI .lss t8 c λd=>
 AO d (
 AFY R N O T t1 t2 t3 t6 t7 t8 s QR) (
 AFZ R N O T t6 t7 s QR)):lq R N O T t1 t2 t3 t6 t7 t8 s QR:=
 pL dS cF h
theorem APZ (h :
 BD s t7 3 λa=>
 xL R s a λb=>
 xF R s t3 3 λd=>
 Cl s 4 d t8 λe=>
 xM R s 4 e λf=>
 xC R 82 N O T 82 [f,t1,t2] s λg i=>
 Dc false i 4 Y4 1 [(0,4,g)] λj k=>
(4=4/\4≠0)/\EL false (lf R 82 N O T) i 25 4 56 b j λl m=>
 BD m t7 3 λn=>
 CR (lf R 82 N O T) m 1 n l λo=>
(BD i t7 3 λp=>CQ p a=true) /\
(xL R i a λq=>CQ q b=true) /\
 AFa R N O T t1 t2 t3 t6 t7 t8 o QR):AFY R N O T t1 t2 t3 t6 t7 t8 s QR:=
 pC dS cF h
theorem APY (h :
 xM R s 4 t7 λa=>
 CR (lf R 82 N O T) s 4 t6 a λb=>
 xM R b 4 t6 λc=>
 QR c b):AFZ R N O T t6 t7 s QR:=
 pC dS cF h
theorem APa (h :
 xI .add t8 (AA 1) λa=>
 lq R N O T t1 t2 t3 t6 t7 a s QR):AFa R N O T t1 t2 t3 t6 t7 t8 s QR:=
 pC dS cF h
theorem e82 {u0 u1 u2:AV} {Post:AV->Prop} (Ba:AU [] 0 0 [t0,t1,t2]=some [u0,u1,u2]) (h:wG R 0 0 0 u0 u1 u2 ⟨[],[]⟩ (QP Post)):AL (env R) 82 [t0,t1,t2] Post:=
 hR Tryz.func82 Ba h
end
noncomputable section
section
variable (R:RT) (N O T:Nat) (t0 t1 t2 t3 t5 t6 t7 t8 t9:AV)
noncomputable def b35:Code:=Tryz.f35.body.getD .skip
def AXU:Nat->List Nat:=ln [[],[2,3]]
abbrev Q35:=Wq R N O T 35 9 [.tmp 4]
def AFb:=Q35 R N O T (aT b35 1) [(0,t0),(1,t1)]
noncomputable def b79:Code:=Tryz.f79.body.getD .skip
def pW:Nat->List Nat:=ln ([]::[2,3]::[2,3,7]::[]::[2,3,19]::[]::[2,3,31]::[]::[2,3,43]::[2,3]::rp 3 [2,3,5] [[2,3,5,6],[2,3,5,6,78],[]])
abbrev Q79:=Wq R N O T 79 80 [.tmp 4]
def um:=Q79 R N O T (aT b79 1) [(0,t0),(1,t1)]
def AFc:=Q79 R N O T (aT b79 7) [(2,t2),(3,t3)]
def kO:=Q79 R N O T (aT b79 58) [(2,t2),(3,t3),(5,t5)]
def AFd:=Q79 R N O T (aT b79 233) [(2,t2),(3,t3),(5,t5)]
def AFe:=Q79 R N O T (aT b79 15) []
def AFf:=Q79 R N O T (aT b79 467) [(2,t2),(3,t3),(5,t5)]
noncomputable def AR5:Code:=Tryz.f113.body.getD .skip
def AFg:Nat->List Nat:=ln [[],[0],[3],[]]
abbrev AR6:=Wq R N O T 113 4 [.tmp 2]
def zJ:=AR6 R N O T (aT AR5 1) [(0,t0)]
def zK:=AR6 R N O T (aT AR5 7) []
noncomputable def b63:Code:=Tryz.f63.body.getD .skip
def AXV:Nat->List Nat:=ln [[],[2,3]]
abbrev Q63:=Wq R N O T 63 9 [.tmp 4]
def AFh:=Q63 R N O T (aT b63 1) [(0,t0),(1,t1)]
noncomputable def zL:Code:=Tryz.f104.body.getD .skip
def dU:Nat->List Nat:=ln [[],[2,3],[2,3,5],[2,3,5,6],[2,3,5,6],[2,3,6],[5]]
abbrev zM:=Wq R N O T 104 54 [.tmp 4]
def iE:=zM R N O T (aT zL 1) [(0,t0),(1,t1)]
def Tz:=zM R N O T (aT zL 58) [(2,t2),(3,t3),(5,t5),(6,t6)]
def zN:=zM R N O T (aT zL 233) [(2,t2),(3,t3),(6,t6)]
def zO:=zM R N O T (aT zL 15) [(5,t5)]
def zP:=zM R N O T (aT zL 467) [(2,t2),(3,t3),(5,t5),(6,t6)]
noncomputable def zQ:Code:=Tryz.f131.body.getD .skip
def dV:Nat->List Nat:=ln [[],[0],[0,3],[3,6,7,8],[3,6,7,8,9],[3,5,6,7,8],[3,5,6,7,8,14],[3,6,7,8],[3]]
abbrev zR:=Wq R N O T 131 18 [.tmp 2]
def zS:=zR R N O T (aT zQ 1) [(0,t0)]
def Y0:=zR R N O T (aT zQ 58) [(3,t3),(6,t6),(7,t7),(8,t8)]
def zT:=zR R N O T (aT zQ 467) [(3,t3),(6,t6),(7,t7),(8,t8),(9,t9)]
def zU:=zR R N O T (aT zQ 15) [(3,t3)]
def zV:=zR R N O T (aT zQ 935) [(3,t3),(6,t6),(7,t7),(8,t8)]
noncomputable def pX:Code:=Tryz.f132.body.getD .skip
def dW:Nat->List Nat:=ln [[],[0,1],[0,1,5],[0,1,5,6],[0,1,6,11],[12],[],[0,1,6],[0,1,13],[0,1],[0,1,16],[0,1],[19],[]]
abbrev pY:=Wq R N O T 132 20 [.tmp 4]
def zW:=pY R N O T (aT pX 1) [(0,t0),(1,t1)]
def AK9:=pY R N O T (aT pX 245) []
def zX:=pY R N O T (aT pX 31) [(0,t0),(1,t1),(6,t6)]
def zY:=pY R N O T (aT pX 63) [(0,t0),(1,t1)]
def zZ:=pY R N O T (aT pX 127) [(0,t0),(1,t1)]
def za:=pY R N O T (aT pX 255) []
noncomputable def pZ:Code:=Tryz.f133.body.getD .skip
def dX:Nat->List Nat:=ln [[],[0,1],[0,1,5],[0,1,5,6],[0,1,6,11],[12],[],[0,1,6],[0,1,13],[0,1],[0,1,16],[0,1],[19],[]]
abbrev pg:=Wq R N O T 133 20 [.tmp 4]
def zb:=pg R N O T (aT pZ 1) [(0,t0),(1,t1)]
def ALA:=pg R N O T (aT pZ 245) []
def zc:=pg R N O T (aT pZ 31) [(0,t0),(1,t1),(6,t6)]
def ze:=pg R N O T (aT pZ 63) [(0,t0),(1,t1)]
def zf:=pg R N O T (aT pZ 127) [(0,t0),(1,t1)]
def zg:=pg R N O T (aT pZ 255) []
noncomputable def b32:Code:=Tryz.f32.body.getD .skip
def AXW:Nat->List Nat:=ln [[],[2,3]]
abbrev Q32:=Wq R N O T 32 17 [.tmp 4]
def wQ:=Q32 R N O T (aT b32 1) [(0,t0),(1,t1)]
noncomputable def b75:Code:=Tryz.f75.body.getD .skip
def pn:Nat->List Nat:=ln ([]::[0,1]::[0,1,10]::[0,1]::rp 3 [0,1,5] [[0,1,5,26],[]])
abbrev Q75:=Wq R N O T 75 27 [.tmp 4]
def wN:=Q75 R N O T (aT b75 1) [(0,t0),(1,t1)]
def AFi:=Q75 R N O T (aT b75 7) [(0,t0),(1,t1)]
def l9:=Q75 R N O T (aT b75 58) [(0,t0),(1,t1),(5,t5)]
def AFj:=Q75 R N O T (aT b75 233) [(0,t0),(1,t1),(5,t5)]
def AFk:=Q75 R N O T (aT b75 15) []
def AFl:=Q75 R N O T (aT b75 467) [(0,t0),(1,t1),(5,t5)]
end
variable {R:RT} {N O T:Nat} {s:AM} {QR:QT} {t0 t1 t2 t3 t5 t6 t7 t8 t9:AV}
theorem ANv (h :
 B6 s t0 λa b=>
 B6 b t1 λc d=>
 xM R d 4 a λe=>
 xM R d 4 c λf=>
 xC R 35 N O T 79 [e,f] d λg i=>
 xI .eql g (AA 0) λj=>
 QR j i):AFb R N O T t0 t1 s QR:=
 pC AXU cF h
theorem e35 {u0 u1:AV} {Post:AV->Prop} (Ba:AU [] 0 0 [t0,t1]=some [u0,u1]) (h:AFb R 0 0 0 u0 u1 ⟨[],[]⟩ (QP Post)):AL (env R) 35 [t0,t1] Post:=
 hR Tryz.func35 Ba h
theorem ANt (h :
 B6 s t0 λa b=>
 B6 b t1 λc d=>
 xF R d a 0 λf=>
 xF R d c 0 λi=>
 xI .neq f i λj=>
 AO j (
 xF R d a 0 λl=>
 xF R d c 0 λn=>
 xI .lss l n λo=>
 xC R 79 N O T 113 [o] d λp q=>
 QR p q) (
 xF R d a 1 λv=>
 xF R d c 1 λx=>
 Fi .neq v x λy=>
 AO y (
 xF R d a 1 λaa=>
 xF R d c 1 λac=>
 Fi .lss aa ac λad=>
 xC R 79 N O T 113 [ad] d λae af=>
 QR ae af) (
 xF R d a 2 λah=>
 xF R d c 2 λaj=>
 xI .neq ah aj λak=>
 AO ak (
 xF R d a 2 λam=>
 xF R d c 2 λao=>
 xI .lss am ao λap=>
 xC R 79 N O T 113 [ap] d λaq ar=>
 QR aq ar) (
 xF R d a 3 λav=>
 BV d av λaw=>
 xF R d c 3 λay=>
 BV d ay λaz=>
 xI .neq aw az λa0=>
 AO a0 (
 xF R d a 3 λa4=>
 BV d a4 λa5=>
 xF R d c 3 λa7=>
 BV d a7 λba=>
 xI .lss a5 ba λbb=>
 xC R 79 N O T 113 [bb] d λbc bd=>
 QR bc bd) (
 AFc R N O T a c d QR))))):um R N O T t0 t1 s QR:=
 pC pW cF h
theorem ANu (h :
 kO R N O T t2 t3 (AA 0) s QR):AFc R N O T t2 t3 s QR:=
 pC pW cF h
theorem AD3 (h :
 xF R s t2 3 λb=>
 BV s b λc=>
 xI .lss t5 c λd=>
 AO d (
 AFd R N O T t2 t3 t5 s QR) (
 AFe R N O T  s QR)):kO R N O T t2 t3 t5 s QR:=
 pL pW cF h
theorem ANr (h :
 xF R s t2 3 λb=>
 Cl s 4 b t5 λc=>
 xM R s 4 c λd=>
 xF R s t3 3 λf=>
 Cl s 4 f t5 λg=>
 xM R s 4 g λi=>
 xC R 79 N O T 79 [d,i] s λj k=>
 xI .neq j (AA 0) λl=>
 AO l (
 QR j k) (
 AFf R N O T t2 t3 t5 k QR)):AFd R N O T t2 t3 t5 s QR:=
 pC pW cF h
theorem ANq (h :
 QR (AA 0) s):AFe R N O T  s QR:=
 pC pW cF h
theorem ANs (h :
 xI .add t5 (AA 1) λa=>
 kO R N O T t2 t3 a s QR):AFf R N O T t2 t3 t5 s QR:=
 pC pW cF h
theorem e79 {u0 u1:AV} {Post:AV->Prop} (Ba:AU [] 0 0 [t0,t1]=some [u0,u1]) (h:um R 0 0 0 u0 u1 ⟨[],[]⟩ (QP Post)):AL (env R) 79 [t0,t1] Post:=
 hR Tryz.func79 Ba h
theorem AI3 (h :
 AO t0 (
 QR (AA (-1)) s) (
 zK R N O T  s QR)):zJ R N O T t0 s QR:=
 pC AFg cF h
theorem AI4 (h :
 QR (AA 1) s):zK R N O T  s QR:=
 pC AFg cF h
theorem AUr {u0:AV} {Post:AV->Prop} (Ba:AU [] 0 0 [t0]=some [u0]) (h:zJ R 0 0 0 u0 ⟨[],[]⟩ (QP Post)):AL (env R) 113 [t0] Post:=
 hR Tryz.func113 Ba h
theorem APG (h :
 B6 s t0 λa b=>
 B6 b t1 λc d=>
 xM R d 4 a λe=>
 xM R d 4 c λf=>
 xC R 63 N O T 104 [e,f] d λg i=>
 xI .eql g (AA 0) λj=>
 QR j i):AFh R N O T t0 t1 s QR:=
 pC AXV cF h
theorem e63 {u0 u1:AV} {Post:AV->Prop} (Ba:AU [] 0 0 [t0,t1]=some [u0,u1]) (h:AFh R 0 0 0 u0 u1 ⟨[],[]⟩ (QP Post)):AL (env R) 63 [t0,t1] Post:=
 hR Tryz.func63 Ba h
theorem AKS (h :
 B6 s t0 λa b=>
 B6 b t1 λc d=>
 xF R d a 0 λf=>
 xF R d c 0 λi=>
 xC R 104 N O T 132 [f,i] d λj k=>
 BD k a 1 λl=>
 xL R k l λm=>
 BD k c 1 λn=>
 xL R k n λo=>
 xC R 104 N O T 133 [m,o] k λp q=>
 BD q a 2 λu=>
 xL R q u λw=>
 BD q c 2 λx=>
 xL R q x λy=>
 xC R 104 N O T 132 [w,y] q λz aa=>
 BD aa a 3 λab=>
 xL R aa ab λac=>
 BV aa ac λad=>
 BD aa c 3 λae=>
 xL R aa ae λaf=>
 BV aa af λag=>
 xC R 104 N O T 132 [ad,ag] aa λah ai=>
 Dc false ai 1 [(AA 0)] 4 [(0,1,j),(1,1,p),(2,1,z),(3,1,ah)] λaj ak=>
 xC R 104 N O T 131 [aj] ai λal am=>
(BD d a 1 λan=>CQ an l=true) /\
(xL R d l λao=>CQ ao m=true) /\
(BD d c 1 λap=>CQ ap n=true) /\
(xL R d n λaq=>CQ aq o=true) /\
(BD d a 2 λar=>CQ ar u=true) /\
(BD k a 2 λau=>CQ au u=true) /\
(xL R d u λav=>CQ av w=true) /\
(xL R k u λaw=>CQ aw w=true) /\
(BD d c 2 λax=>CQ ax x=true) /\
(BD k c 2 λay=>CQ ay x=true) /\
(xL R d x λaz=>CQ az y=true) /\
(xL R k x λa0=>CQ a0 y=true) /\
(BD d a 3 λa1=>CQ a1 ab=true) /\
(BD k a 3 λa4=>CQ a4 ab=true) /\
(BD q a 3 λa5=>CQ a5 ab=true) /\
(xL R d ab λa6=>CQ a6 ac=true) /\
(xL R k ab λba=>CQ ba ac=true) /\
(xL R q ab λbb=>CQ bb ac=true) /\
(BV d ac λbc=>CQ bc ad=true) /\
(BV k ac λbd=>CQ bd ad=true) /\
(BV q ac λbe=>CQ be ad=true) /\
(BD d c 3 λbf=>CQ bf ae=true) /\
(BD k c 3 λbg=>CQ bg ae=true) /\
(BD q c 3 λbh=>CQ bh ae=true) /\
(xL R d ae λbi=>CQ bi af=true) /\
(xL R k ae λbj=>CQ bj af=true) /\
(xL R q ae λbk=>CQ bk af=true) /\
(BV d af λbl=>CQ bl ag=true) /\
(BV k af λbm=>CQ bm ag=true) /\
(BV q af λbn=>CQ bn ag=true) /\
 Tz R N O T a c al (AA 0) am QR):iE R N O T t0 t1 s QR:=
 pC dU cF h
theorem Y1 (h :
 xI .eql t5 (AA 0) λa=>
 g0 a true s t6 λb c=>
 g1 a true c (BD c t2 3) λe f=>
 g1 a true f (xL R f e) λi j=>
 g1 a true j (BV j i) λl m=>
 g1 a true m (xI .lss b l) λo p=>
 Ay a o (BB false) λq=>
 AO q (
 zN R N O T t2 t3 t6 p QR) (
 zO R N O T t5 p QR)):Tz R N O T t2 t3 t5 t6 s QR:=
 pL dU cF h
theorem AKQ (h :
 xF R s t2 3 λb=>
 Cl s 4 b t6 λc=>
 xM R s 4 c λd=>
 xF R s t3 3 λf=>
 Cl s 4 f t6 λg=>
 xM R s 4 g λi=>
 xC R 104 N O T 104 [d,i] s λj k=>
 zP R N O T t2 t3 j t6 k QR):zN R N O T t2 t3 t6 s QR:=
 pC dU cF h
theorem iD (h :
 QR t5 s):zO R N O T t5 s QR:=
 pC dU cF h
theorem AKR (h :
 xI .add t6 (AA 1) λa=>
 Tz R N O T t2 t3 t5 a s QR):zP R N O T t2 t3 t5 t6 s QR:=
 pC dU cF h
theorem AVh {u0 u1:AV} {Post:AV->Prop} (Ba:AU [] 0 0 [t0,t1]=some [u0,u1]) (h:iE R 0 0 0 u0 u1 ⟨[],[]⟩ (QP Post)):AL (env R) 104 [t0,t1] Post:=
 hR Tryz.func104 Ba h
theorem AKP (h :
 BV s t0 λa=>
 Y0 R N O T (AA 0) t0 a (AA 0) s QR):zS R N O T t0 s QR:=
 pC dV cF h
theorem wC (h :
 xI .lss t8 t7 λa=>
 AO a (
 zT R N O T t3 t6 t7 t8 a s QR) (
 zU R N O T t3 s QR)):Y0 R N O T t3 t6 t7 t8 s QR:=
 pL dV cF h
theorem AKN (h :
 Cl s 1 t6 t8 λa=>
 xL R s a λb=>
 xI .neq b t3 λc=>
 AO c (
 QR b s) (
 zV R N O T t3 t6 t7 t8 s QR)):zT R N O T t3 t6 t7 t8 t9 s QR:=
 pC dV cF h
theorem AKM (h :
 QR t3 s):zU R N O T t3 s QR:=
 pC dV cF h
theorem AKO (h :
 xI .add t8 (AA 1) λa=>
 Y0 R N O T t3 t6 t7 a s QR):zV R N O T t3 t6 t7 t8 s QR:=
 pC dV cF h
theorem AVf {u0:AV} {Post:AV->Prop} (Ba:AU [] 0 0 [t0]=some [u0]) (h:zS R 0 0 0 u0 ⟨[],[]⟩ (QP Post)):AL (env R) 131 [t0] Post:=
 hR Tryz.func131 Ba h
theorem AKC (h :
 xC R 132 N O T 152 [t0] s λa b=>
 xC R 132 N O T 152 [t1] b λc d=>
 AO a (
 AO c (
 QR (AA 0) d) (
 AK9 R N O T  d QR)) (
 zX R N O T t0 t1 c d QR)):zW R N O T t0 t1 s QR:=
 pC dW cF h
theorem AKD (h :
 AO t6 (
 QR (AA 1) s) (
 zY R N O T t0 t1 s QR)):zX R N O T t0 t1 t6 s QR:=
 pC dW cF h
theorem AKE (h :
 xI .lss t0 t1 λa=>
 AO a (
 QR (AA (-1)) s) (
 zZ R N O T t0 t1 s QR)):zY R N O T t0 t1 s QR:=
 pC dW cF h
theorem AKF (h :
 xI .gtr t0 t1 λa=>
 AO a (
 QR (AA 1) s) (
 za R N O T  s QR)):zZ R N O T t0 t1 s QR:=
 pC dW cF h
theorem AKG (h :
 QR (AA 0) s):za R N O T  s QR:=
 pC dW cF h
theorem AVd {u0 u1:AV} {Post:AV->Prop} (Ba:AU [] 0 0 [t0,t1]=some [u0,u1]) (h:zW R 0 0 0 u0 u1 ⟨[],[]⟩ (QP Post)):AL (env R) 132 [t0,t1] Post:=
 hR Tryz.func132 Ba h
theorem AKH (h :
 xC R 133 N O T 153 [t0] s λa b=>
 xC R 133 N O T 153 [t1] b λc d=>
 AO a (
 AO c (
 QR (AA 0) d) (
 ALA R N O T  d QR)) (
 zc R N O T t0 t1 c d QR)):zb R N O T t0 t1 s QR:=
 pC dX cF h
theorem AKI (h :
 AO t6 (
 QR (AA 1) s) (
 ze R N O T t0 t1 s QR)):zc R N O T t0 t1 t6 s QR:=
 pC dX cF h
theorem AKJ (h :
 Fi .lss t0 t1 λa=>
 AO a (
 QR (AA (-1)) s) (
 zf R N O T t0 t1 s QR)):ze R N O T t0 t1 s QR:=
 pC dX cF h
theorem AKK (h :
 Fi .gtr t0 t1 λa=>
 AO a (
 QR (AA 1) s) (
 zg R N O T  s QR)):zf R N O T t0 t1 s QR:=
 pC dX cF h
theorem AKL (h :
 QR (AA 0) s):zg R N O T  s QR:=
 pC dX cF h
theorem AVe {u0 u1:AV} {Post:AV->Prop} (Ba:AU [] 0 0 [t0,t1]=some [u0,u1]) (h:zb R 0 0 0 u0 u1 ⟨[],[]⟩ (QP Post)):AL (env R) 133 [t0,t1] Post:=
 hR Tryz.func133 Ba h
theorem APl (h :
 B6 s t0 λa b=>
 B6 b t1 λc d=>
 xF R d a 0 λf=>
 xF R d c 0 λi=>
 xC R 32 N O T 75 [f,i] d λj k=>
 g1 j true k (BD k a 1) λm n=>
 g1 j true n (xM R n 4 m) λp q=>
 g1 j true q (BD q c 1) λv w=>
 g1 j true w (xM R w 4 v) λy z=>
 Hs j true z (xC R 32 N O T 35 [p,y] z) λac ad=>
 Ay j ac (BB false) λae=>
 QR ae ad):wQ R N O T t0 t1 s QR:=
 pC AXW cF h
theorem e32 {u0 u1:AV} {Post:AV->Prop} (Ba:AU [] 0 0 [t0,t1]=some [u0,u1]) (h:wQ R 0 0 0 u0 u1 ⟨[],[]⟩ (QP Post)):AL (env R) 32 [t0,t1] Post:=
 hR Tryz.func32 Ba h
theorem APj (h :
 BV s t0 λa=>
 BV s t1 λb=>
 xI .neq a b λc=>
 AO c (
 QR (BB false) s) (
 AFi R N O T t0 t1 s QR)):wN R N O T t0 t1 s QR:=
 pC pn cF h
theorem APk (h :
 l9 R N O T t0 t1 (AA 0) s QR):AFi R N O T t0 t1 s QR:=
 pC pn cF h
theorem AEZ (h :
 BV s t0 λa=>
 xI .lss t5 a λb=>
 AO b (
 AFj R N O T t0 t1 t5 s QR) (
 AFk R N O T  s QR)):l9 R N O T t0 t1 t5 s QR:=
 pL pn cF h
theorem APh (h :
 Cl s 4 t0 t5 λa=>
 xM R s 4 a λb=>
 Cl s 4 t1 t5 λc=>
 xM R s 4 c λd=>
 xC R 75 N O T 35 [b,d] s λe f=>
 DY e λg=>
 AO g (
 QR (BB false) f) (
 AFl R N O T t0 t1 t5 f QR)):AFj R N O T t0 t1 t5 s QR:=
 pC pn cF h
theorem APg (h :
 QR (BB true) s):AFk R N O T  s QR:=
 pC pn cF h
theorem APi (h :
 xI .add t5 (AA 1) λa=>
 l9 R N O T t0 t1 a s QR):AFl R N O T t0 t1 t5 s QR:=
 pC pn cF h
theorem e75 {u0 u1:AV} {Post:AV->Prop} (Ba:AU [] 0 0 [t0,t1]=some [u0,u1]) (h:wN R 0 0 0 u0 u1 ⟨[],[]⟩ (QP Post)):AL (env R) 75 [t0,t1] Post:=
 hR Tryz.func75 Ba h
end
noncomputable section
section
variable (R:RT) (N O T:Nat) (t0 t1 t2 t3 t8 t9 t10 t11 t12 t13 t22 t23 t35 t49 t58 t75:AV)
noncomputable def b11:Code:=Tryz.f11.body.getD .skip
def AXX:Nat->List Nat:=ln [[],[0]]
abbrev Q11:=Wq R N O T 11 6 [.tmp 2]
def AFm:=Q11 R N O T (aT b11 1) [(0,t0)]
noncomputable def b13:Code:=Tryz.f13.body.getD .skip
def AR7:Nat->List Nat:=ln [[],[0,1],[0,1],[0,1,9],[0]]
abbrev Q13:=Wq R N O T 13 14 [.tmp 4]
def AFn:=Q13 R N O T (aT b13 1) [(0,t0),(1,t1)]
def zh:=Q13 R N O T (aT b13 15) [(0,t0)]
noncomputable def b19:Code:=Tryz.f19.body.getD .skip
def AXY:Nat->List Nat:=ln [[],[0,1,4]]
abbrev Q19:=Wq R N O T 19 8 [.cell 4 25]
def wm:=Q19 R N O T (aT b19 1) [(0,t0),(1,t1)]
noncomputable def b20:Code:=Tryz.f20.body.getD .skip
def AXZ:Nat->List Nat:=ln [[],[0,2]]
abbrev Q20:=Wq R N O T 20 5 [.cell 2 25]
def AFo:=Q20 R N O T (aT b20 1) [(0,t0)]
noncomputable def b25:Code:=Tryz.f25.body.getD .skip
def AXa:Nat->List Nat:=ln [[],[0,2]]
abbrev Q25:=Wq R N O T 25 5 [.cell 2 25]
def AFp:=Q25 R N O T (aT b25 1) [(0,t0)]
noncomputable def b26:Code:=Tryz.f26.body.getD .skip
def AXb:Nat->List Nat:=ln [[],[0,1,4]]
abbrev Q26:=Wq R N O T 26 8 [.cell 4 25]
def AFq:=Q26 R N O T (aT b26 1) [(0,t0),(1,t1)]
noncomputable def b52:Code:=Tryz.f52.body.getD .skip
def AXc:Nat->List Nat:=ln [[],[2,3,4]]
abbrev Q52:=Wq R N O T 52 9 [.cell 4 25]
def AFr:=Q52 R N O T (aT b52 1) [(0,t0),(1,t1)]
noncomputable def b53:Code:=Tryz.f53.body.getD .skip
def AXd:Nat->List Nat:=ln [[],[0]]
abbrev Q53:=Wq R N O T 53 2 [.cell 0 25]
def AFs:=Q53 R N O T (aT b53 1) []
noncomputable def b80:Code:=Tryz.f80.body.getD .skip
def AXe:Nat->List Nat:=ln [[],[0]]
abbrev Q80:=Wq R N O T 80 2 [.cell 0 25]
def AFt:=Q80 R N O T (aT b80 1) []
noncomputable def ig:Code:=Tryz.f41.body.getD .skip
def Nz:Nat->List Nat:=ln ([]::[0,1,2,3,8]::[0,1,2,3,8,9]::[0,1,2,3,8,9,21]::[0,1,2,3,8,9]::[0,1,2,3,8,22]::[0,1,2,3,8,22,23]::[0,1,2,3,8,22,23]::[]::[0,1,2,3,8,22,32]::[]::[0,1,2,3,8,22,35]::[0,1,2,3,8,22,35]::[0,1,2,3,8,39]::[0,1,2,3,8]::[]::rp 3 [0,1,2,3,8,22,49] ([]::[0,1,2,3,8,22,58]::[0,1,2,3,8,22,58]::[]::[0,1,2,3,8,22,75]::[0,1,2,3,8,22,75]::[0,1,2,3,8,10]::[0,1,2,3,8,10,11]::rp 3 [0,1,2,3,8,10,11,12] [[8,10],[],[0,1,2,3,8,98],[0,1,2,3,8,13],[0,1,2,3,8,13,103],[0,1,2,3,8,13],[0,8],[8,118],[8]]))
abbrev ij:=Wq R N O T 41 125 [.cell 8 25]
def wk:=ij R N O T (aT ig 1) [(0,t0),(1,t1),(2,t2),(3,t3)]
def mG:=ij R N O T (aT ig 15) [(0,t0),(1,t1),(2,t2),(3,t3),(8,t8),(9,t9)]
def mK:=ij R N O T (aT ig 245) [(0,t0),(1,t1),(2,t2),(3,t3),(8,t8),(22,t22),(23,t23)]
def mJ:=ij R N O T (aT ig 3935) [(0,t0),(1,t1),(2,t2),(3,t3),(8,t8),(22,t22),(35,t35)]
def AFu:=ij R N O T (aT ig 15741) [(0,t0),(1,t1),(2,t2),(3,t3),(8,t8)]
def cn:=ij R N O T (aT ig 15743) [(0,t0),(1,t1),(2,t2),(3,t3),(8,t8),(22,t22),(49,t49)]
def mI:=ij R N O T (aT ig 62975) [(0,t0),(1,t1),(2,t2),(3,t3),(8,t8),(22,t22),(58,t58)]
def mH:=ij R N O T (aT ig 251903) [(0,t0),(1,t1),(2,t2),(3,t3),(8,t8),(22,t22),(75,t75)]
def mF:=ij R N O T (aT ig 16121818) [(0,t0),(1,t1),(2,t2),(3,t3),(8,t8),(10,t10),(11,t11),(12,t12)]
def mE:=ij R N O T (aT ig 8060923) [(0,t0),(1,t1),(2,t2),(3,t3),(8,t8),(13,t13)]
def iR:=ij R N O T (aT ig 31) [(0,t0),(8,t8)]
def zi:=ij R N O T (aT ig 64487273) [(0,t0),(1,t1),(2,t2),(3,t3),(8,t8),(10,t10),(11,t11),(12,t12)]
def zj:=ij R N O T (aT ig 4030455) [(8,t8),(10,t10)]
def zk:=ij R N O T (aT ig 63) [(8,t8)]
def zl:=ij R N O T (aT ig 128974547) [(0,t0),(1,t1),(2,t2),(3,t3),(8,t8),(10,t10),(11,t11),(12,t12)]
noncomputable def b83:Code:=Tryz.f83.body.getD .skip
def pq:Nat->List Nat:=ln ([]::[0,1,2,3,8]::[0,1,2,3,8,9]::[0,1,2,3,8,9,19]::[0,1,2,3,8,9]::[0,1,2,3,8,10]::[0,1,2,3,8,10,11]::rp 3 [0,1,2,3,8,10,11,12] [[8,11]])
abbrev Q83:=Wq R N O T 83 51 [.cell 8 25]
def we:=Q83 R N O T (aT b83 1) [(0,t0),(1,t1),(2,t2),(3,t3)]
def AFv:=Q83 R N O T (aT b83 15) [(0,t0),(1,t1),(2,t2),(3,t3),(8,t8),(9,t9)]
def mD:=Q83 R N O T (aT b83 506) [(0,t0),(1,t1),(2,t2),(3,t3),(8,t8),(10,t10),(11,t11),(12,t12)]
def AFw:=Q83 R N O T (aT b83 2025) [(0,t0),(1,t1),(2,t2),(3,t3),(8,t8),(10,t10),(11,t11),(12,t12)]
def AFx:=Q83 R N O T (aT b83 127) [(8,t8),(11,t11)]
def AFy:=Q83 R N O T (aT b83 4051) [(0,t0),(1,t1),(2,t2),(3,t3),(8,t8),(10,t10),(11,t11),(12,t12)]
noncomputable def AR8:Code:=Tryz.f115.body.getD .skip
def AFz:Nat->List Nat:=ln [[],[0,1,2,3,8],[0,1,2,3,8,9],[0,1,2,3,8,9,12],[],[0,1,2,3,8,9,23],[],[0,1,2,3,8,32],[0,1,2,8]]
abbrev AR9:=Wq R N O T 115 45 [.cell 8 25]
def iM:=AR9 R N O T (aT AR8 1) [(0,t0),(1,t1),(2,t2),(3,t3)]
def iP:=AR9 R N O T (aT AR8 7) [(0,t0),(1,t1),(2,t2),(8,t8)]
noncomputable def b54:Code:=Tryz.f54.body.getD .skip
def ASA:Nat->List Nat:=ln [[],[0,1],[0,1,14],[0,1],[0,1]]
abbrev Q54:=Wq R N O T 54 35 [.tmp 4]
def wV:=Q54 R N O T (aT b54 1) [(0,t0),(1,t1)]
def AF0:=Q54 R N O T (aT b54 7) [(0,t0),(1,t1)]
end
variable {R:RT} {N O T:Nat} {s:AM} {QR:QT} {t0 t1 t2 t3 t8 t9 t10 t11 t12 t13 t22 t23 t35 t49 t58 t75:AV}
theorem APt (h :
 C1 [(.AB []),(AA 0)] [(0,1,t0)] λa=>
 B6 s a λb c=>
 QR b c):AFm R N O T t0 s QR:=
 pC AXX cF h
theorem m11 {L:A3} {Post:AV->AM->Prop} (h:AFm R L.n0 L.ro L.rt t0 s Post):∃v s',Post v s'/\A8 (env R) L 11 [t0] s v s':=
 hE Tryz.func11 h
theorem APp (h :
 xI .rem t0 t1 λa=>
 xI .lss a (AA 0) λb=>
 AO b (
 xI .add a t1 λc=>
 zh R N O T c s QR) (
 zh R N O T a s QR)):AFn R N O T t0 t1 s QR:=
 pC AR7 cF h
theorem AEb (h :
 QR t0 s):zh R N O T t0 s QR:=
 pC AR7 cF h
theorem e13 {u0 u1:AV} {Post:AV->Prop} (Ba:AU [] 0 0 [t0,t1]=some [u0,u1]) (h:AFn R 0 0 0 u0 u1 ⟨[],[]⟩ (QP Post)):AL (env R) 13 [t0,t1] Post:=
 hR Tryz.func13 Ba h
theorem AQK (h :
 Bw s Y4 λa b=>
 xC R 19 N O T 41 [t0,t1,(AA 3),(AA 0)] b λc d=>
 CR (lf R 19 N O T) d 4 a c λe=>
 xM R e 4 a λf=>
 QR f e):wm R N O T t0 t1 s QR:=
 pC AXY cF h
theorem m19 {L:A3} {Post:AV->AM->Prop} (hn:Bb [t0,t1]=false) (h:wm R 0 L.ro L.rt t0 t1 s (QM (L.rr 19) s.bs.length Post)):∃v s',Post v s'/\A8 (env R) L 19 [t0,t1] s v s':=
 hM Tryz.func19 hn h
theorem APw (h :
 Bw s Y4 λa b=>
 C1 Y4 [(0,1,(AA 4)),(3,1,t0)] λc=>
 CR (lf R 20 N O T) b 4 a c λd=>
 xM R d 4 a λe=>
 QR e d):AFo R N O T t0 s QR:=
 pC AXZ cF h
theorem e20 {u0:AV} {Post:AV->Prop} (Ba:AU [] 0 0 [t0]=some [u0]) (h:AFo R 0 0 0 u0 ⟨[],[]⟩ (QP Post)):AL (env R) 20 [t0] Post:=
 hR Tryz.func20 Ba h
theorem APX (h :
 Bw s Y4 λa b=>
 C1 Y4 [(0,1,(AA 5)),(2,1,t0)] λc=>
 CR (lf R 25 N O T) b 4 a c λd=>
 xM R d 4 a λe=>
 QR e d):AFp R N O T t0 s QR:=
 pC AXa cF h
theorem e25 {u0:AV} {Post:AV->Prop} (Ba:AU [] 0 0 [t0]=some [u0]) (h:AFp R 0 0 0 u0 ⟨[],[]⟩ (QP Post)):AL (env R) 25 [t0] Post:=
 hR Tryz.func25 Ba h
theorem APv (h :
 Bw s Y4 λa b=>
 C1 Y4 [(0,1,(AA 2)),(1,1,t0),(3,1,t1)] λc=>
 CR (lf R 26 N O T) b 4 a c λd=>
 xM R d 4 a λe=>
 QR e d):AFq R N O T t0 t1 s QR:=
 pC AXb cF h
theorem e26 {u0 u1:AV} {Post:AV->Prop} (Ba:AU [] 0 0 [t0,t1]=some [u0,u1]) (h:AFq R 0 0 0 u0 u1 ⟨[],[]⟩ (QP Post)):AL (env R) 26 [t0,t1] Post:=
 hR Tryz.func26 Ba h
theorem AP8 (h :
 B6 s t0 λa b=>
 B6 b t1 λc d=>
 Bw d Y4 λe f=>
 xM R f 4 a λg=>
 xM R f 4 c λi=>
 Dc false f 4 Y4 2 [(0,4,g),(4,4,i)] λj k=>
 C1 Y4 [(0,1,(AA 6)),(3,1,j)] λl=>
 CR (lf R 52 N O T) k 4 e l λm=>
 xM R m 4 e λn=>
 QR n m):AFr R N O T t0 t1 s QR:=
 pC AXc cF h
theorem e52 {u0 u1:AV} {Post:AV->Prop} (Ba:AU [] 0 0 [t0,t1]=some [u0,u1]) (h:AFr R 0 0 0 u0 u1 ⟨[],[]⟩ (QP Post)):AL (env R) 52 [t0,t1] Post:=
 hR Tryz.func52 Ba h
theorem AP6 (h :
 Bw s Y4 λa b=>
 C1 Y4 [] λc=>
 CR (lf R 53 N O T) b 4 a c λd=>
 xM R d 4 a λe=>
 QR e d):AFs R N O T  s QR:=
 pC AXd cF h
theorem e53 {Post:AV->Prop} (Ba:AU [] 0 0 []=some []) (h:AFs R 0 0 0  ⟨[],[]⟩ (QP Post)):AL (env R) 53 [] Post:=
 hR Tryz.func53 Ba h
theorem AP7 (h :
 Bw s Y4 λa b=>
 C1 Y4 [(0,1,(AA 1))] λc=>
 CR (lf R 80 N O T) b 4 a c λd=>
 xM R d 4 a λe=>
 QR e d):AFt R N O T  s QR:=
 pC AXe cF h
theorem e80 {Post:AV->Prop} (Ba:AU [] 0 0 []=some []) (h:AFt R 0 0 0  ⟨[],[]⟩ (QP Post)):AL (env R) 80 [] Post:=
 hR Tryz.func80 Ba h
theorem AQJ (h :
 Bw s Y4 λa b=>
 xC R 41 N O T 54 [t0,(AA 14)] b λc d=>
 xI .leq t2 (AA 0) λe=>
 g0 e true d c λf g=>
 g1 e true g (xI .gtr f (AA 5)) λj k=>
 Ay e j (BB false) λl=>
 AO l (
 mG R N O T t0 t1 t2 t3 a (AA 0) k QR) (
 mG R N O T t0 t1 t2 t3 a c k QR)):wk R N O T t0 t1 t2 t3 s QR:=
 pC Nz cF h
theorem AQI (h :
 xI .eql t9 (AA 0) λa=>
 AO a (
 mK R N O T t0 t1 t2 t3 t8 t9 a s QR) (
 xI .eql t9 (AA 1) λb=>
 mK R N O T t0 t1 t2 t3 t8 t9 b s QR)):mG R N O T t0 t1 t2 t3 t8 t9 s QR:=
 pC Nz cF h
theorem AQH (h :
 AO t23 (
 xL R s (.DM 1 0) λa=>
 xC R 41 N O T 54 [t0,(AA 4)] s λb c=>
 Cl c 1 a b λd=>
 xL R c d λe=>
 xC R 41 N O T 26 [e,(.AB [])] c λf g=>
 CR (lf R 41 N O T) g 4 t8 f λi=>
(xL R c (.DM 1 0) λj=>CQ j a=true) /\
 xM R i 4 t8 λk=>
 QR k i) (
 xI .eql t22 (AA 2) λl=>
 AO l (
 xC R 41 N O T 53 [] s λm n=>
 CR (lf R 41 N O T) n 4 t8 m λo=>
 xM R o 4 t8 λp=>
 QR p o) (
 xI .eql t22 (AA 3) λq=>
 AO q (
 mJ R N O T t0 t1 t2 t3 t8 t22 q s QR) (
 xI .eql t22 (AA 4) λu=>
 mJ R N O T t0 t1 t2 t3 t8 t22 u s QR)))):mK R N O T t0 t1 t2 t3 t8 t22 t23 s QR:=
 pC Nz cF h
theorem AQF (h :
 AO t35 (
 xI .gtr t3 (AA 0) λa=>
 AO a (
 xC R 41 N O T 54 [t0,t3] s λb c=>
 xC R 41 N O T 25 [b] c λd e=>
 CR (lf R 41 N O T) e 4 t8 d λf=>
 xM R f 4 t8 λg=>
 QR g f) (
 AFu R N O T t0 t1 t2 t3 t8 s QR)) (
 xI .eql t22 (AA 5) λi=>
 AO i (
 cn R N O T t0 t1 t2 t3 t8 t22 i s QR) (
 xI .eql t22 (AA 6) λj=>
 AO j (
 cn R N O T t0 t1 t2 t3 t8 t22 j s QR) (
 xI .eql t22 (AA 7) λk=>
 cn R N O T t0 t1 t2 t3 t8 t22 k s QR)))):mJ R N O T t0 t1 t2 t3 t8 t22 t35 s QR:=
 pC Nz cF h
theorem AQG (h :
 xC R 41 N O T 83 [t0,t1,t2,t3] s λa b=>
 CR (lf R 41 N O T) b 4 t8 a λc=>
 xM R c 4 t8 λd=>
 QR d c):AFu R N O T t0 t1 t2 t3 t8 s QR:=
 pC Nz cF h
theorem AQE (h :
 AO t49 (
 xC R 41 N O T 83 [t0,t1,t2,t3] s λa b=>
 CR (lf R 41 N O T) b 4 t8 a λc=>
 xM R c 4 t8 λd=>
 QR d c) (
 xI .eql t22 (AA 8) λe=>
 AO e (
 mI R N O T t0 t1 t2 t3 t8 t22 e s QR) (
 xI .eql t22 (AA 9) λf=>
 mI R N O T t0 t1 t2 t3 t8 t22 f s QR))):cn R N O T t0 t1 t2 t3 t8 t22 t49 s QR:=
 pC Nz cF h
theorem AQD (h :
 AO t58 (
 xI .sub t2 (AA 1) λa=>
 xC R 41 N O T 41 [t0,t1,a,t3] s λb c=>
 xI .sub t2 (AA 1) λd=>
 xC R 41 N O T 41 [t0,t1,d,t3] c λe f=>
 Dc false f 4 Y4 2 [(0,4,b),(4,4,e)] λg i=>
 xC R 41 N O T 20 [g] i λj k=>
 CR (lf R 41 N O T) k 4 t8 j λl=>
 xM R l 4 t8 λm=>
 QR m l) (
 xI .eql t22 (AA 10) λn=>
 AO n (
 mH R N O T t0 t1 t2 t3 t8 t22 n s QR) (
 xI .eql t22 (AA 11) λo=>
 mH R N O T t0 t1 t2 t3 t8 t22 o s QR))):mI R N O T t0 t1 t2 t3 t8 t22 t58 s QR:=
 pC Nz cF h
theorem AQC (h :
 AO t75 (
 C1 Y4 [(0,1,(AA 3))] λa=>
 Bw s Y4 λb c=>
 CR (lf R 41 N O T) c 4 b a λd=>
 xC R 41 N O T 54 [t0,(AA 4)] d λe f=>
 mF R N O T t0 t1 t2 t3 t8 b e (AA 0) f QR) (
 xI .eql t22 (AA 12) λg=>
 AO g (
 xC R 41 N O T 53 [] s λi j=>
 Bw j Y4 λk l=>
 CR (lf R 41 N O T) l 4 k i λm=>
 xC R 41 N O T 54 [t0,(AA 2)] m λn o=>
 xI .eql n (AA 1) λp=>
 AO p (
 xC R 41 N O T 41 [t0,t1,(AA 1),(AA 0)] o λq u=>
 CR (lf R 41 N O T) u 4 k q λv=>
 mE R N O T t0 t1 t2 t3 t8 k v QR) (
 mE R N O T t0 t1 t2 t3 t8 k o QR)) (
 iR R N O T t0 t8 s QR))):mH R N O T t0 t1 t2 t3 t8 t22 t75 s QR:=
 pC Nz cF h
theorem AEj (h :
 xI .lss t12 t11 λa=>
 AO a (
 zi R N O T t0 t1 t2 t3 t8 t10 t11 t12 s QR) (
 zj R N O T t8 t10 s QR)):mF R N O T t0 t1 t2 t3 t8 t10 t11 t12 s QR:=
 pL Nz cF h
theorem AQB (h :
 xM R s 4 t13 λa=>
 xI .sub t2 (AA 1) λb=>
 xI .add t3 (AA 1) λc=>
 xC R 41 N O T 41 [t0,t1,b,c] s λd e=>
 xC R 41 N O T 52 [a,d] e λf g=>
 CR (lf R 41 N O T) g 4 t8 f λi=>
(xM R e 4 t13 λj=>CQ j a=true) /\
 xM R i 4 t8 λk=>
 QR k i):mE R N O T t0 t1 t2 t3 t8 t13 s QR:=
 pC Nz cF h
theorem AKe (h :
 xC R 41 N O T 54 [t0,(AA 4)] s λa b=>
 xI .eql a (AA 0) λc=>
 AO c (
 xC R 41 N O T 80 [] b λd e=>
 CR (lf R 41 N O T) e 4 t8 d λf=>
 xM R f 4 t8 λg=>
 QR g f) (
 zk R N O T t8 b QR)):iR R N O T t0 t8 s QR:=
 pC Nz cF h
theorem AKh (h :
 BD s t10 3 λa=>
 xL R s a λb=>
 xI .sub t2 (AA 1) λc=>
 xC R 41 N O T 41 [t0,t1,c,t3] s λd e=>
 Dc false e 4 Y4 1 [(0,4,d)] λf g=>
(4=4/\4≠0)/\EL false (lf R 41 N O T) e 25 4 56 b f λi j=>
 BD j t10 3 λk=>
 CR (lf R 41 N O T) j 1 k i λl=>
(BD e t10 3 λm=>CQ m a=true) /\
(xL R e a λn=>CQ n b=true) /\
 zl R N O T t0 t1 t2 t3 t8 t10 t11 t12 l QR):zi R N O T t0 t1 t2 t3 t8 t10 t11 t12 s QR:=
 pC Nz cF h
theorem AKg (h :
 xM R s 4 t10 λa=>
 CR (lf R 41 N O T) s 4 t8 a λb=>
 xM R b 4 t8 λc=>
 QR c b):zj R N O T t8 t10 s QR:=
 pC Nz cF h
theorem AKf (h :
 xC R 41 N O T 53 [] s λa b=>
 xC R 41 N O T 25 [(AA 0)] b λc d=>
 Dc false d 4 Y4 1 [(0,4,c)] λe f=>
 xC R 41 N O T 26 [(SS [66,111,120]),e] f λg i=>
 xC R 41 N O T 52 [a,g] i λj k=>
 CR (lf R 41 N O T) k 4 t8 j λl=>
 xM R l 4 t8 λm=>
 QR m l):zk R N O T t8 s QR:=
 pC Nz cF h
theorem AKi (h :
 xI .add t12 (AA 1) λa=>
 mF R N O T t0 t1 t2 t3 t8 t10 t11 a s QR):zl R N O T t0 t1 t2 t3 t8 t10 t11 t12 s QR:=
 pC Nz cF h
theorem m41 {L:A3} {Post:AV->AM->Prop} (hn:Bb [t0,t1,t2,t3]=false) (h:wk R 0 L.ro L.rt t0 t1 t2 t3 s (QM (L.rr 41) s.bs.length Post)):∃v s',Post v s'/\A8 (env R) L 41 [t0,t1,t2,t3] s v s':=
 hM Tryz.func41 hn h
theorem APx (h :
 Bw s Y4 λa b=>
 BV b t1 λc=>
 xI .add c (AA 4) λd=>
 xC R 83 N O T 54 [t0,d] b λe f=>
 xI .lss e (AA 4) λg=>
 AO g (
 xL R f (.DM 1 0) λi=>
 Cl f 1 i e λj=>
 xL R f j λk=>
 xC R 83 N O T 26 [k,(.AB [])] f λl m=>
 CR (lf R 83 N O T) m 4 a l λn=>
 xM R n 4 a λo=>
 QR o n) (
 AFv R N O T t0 t1 t2 t3 a e f QR)):we R N O T t0 t1 t2 t3 s QR:=
 pC pq cF h
theorem APz (h :
 xI .sub t9 (AA 4) λa=>
 Cl s 8 t1 a λb=>
 xM R s 8 b λc=>
 Bw s [(SS []),(AA 0),(AA 0),(SS []),(AA 0),(.AB []),(BB false),(.AB [])] λd e=>
 CR (lf R 83 N O T) e 8 d c λf=>
 xF R f d 0 λi=>
 C1 Y4 [(0,1,(AA 2)),(1,1,i)] λj=>
 Bw f Y4 λk l=>
 CR (lf R 83 N O T) l 4 k j λm=>
 mD R N O T t0 t1 t2 t3 t8 d k (AA 0) m QR):AFv R N O T t0 t1 t2 t3 t8 t9 s QR:=
 pC pq cF h
theorem AEd (h :
 xF R s t10 1 λb=>
 xI .lss t12 b λc=>
 AO c (
 AFw R N O T t0 t1 t2 t3 t8 t10 t11 t12 s QR) (
 AFx R N O T t8 t11 s QR)):mD R N O T t0 t1 t2 t3 t8 t10 t11 t12 s QR:=
 pL pq cF h
theorem AP3 (h :
 BD s t11 3 λa=>
 xL R s a λb=>
 xI .sub t2 (AA 1) λc=>
 xC R 83 N O T 115 [t0,t1,c,t3] s λd e=>
 Dc false e 4 Y4 1 [(0,4,d)] λf g=>
(4=4/\4≠0)/\EL false (lf R 83 N O T) e 25 4 56 b f λi j=>
 BD j t11 3 λk=>
 CR (lf R 83 N O T) j 1 k i λl=>
(BD e t11 3 λm=>CQ m a=true) /\
(xL R e a λn=>CQ n b=true) /\
 AFy R N O T t0 t1 t2 t3 t8 t10 t11 t12 l QR):AFw R N O T t0 t1 t2 t3 t8 t10 t11 t12 s QR:=
 pC pq cF h
theorem AP2 (h :
 xM R s 4 t11 λa=>
 CR (lf R 83 N O T) s 4 t8 a λb=>
 xM R b 4 t8 λc=>
 QR c b):AFx R N O T t8 t11 s QR:=
 pC pq cF h
theorem AP4 (h :
 xI .add t12 (AA 1) λa=>
 mD R N O T t0 t1 t2 t3 t8 t10 t11 a s QR):AFy R N O T t0 t1 t2 t3 t8 t10 t11 t12 s QR:=
 pC pq cF h
theorem m83 {L:A3} {Post:AV->AM->Prop} (hn:Bb [t0,t1,t2,t3]=false) (h:we R 0 L.ro L.rt t0 t1 t2 t3 s (QM (L.rr 83) s.bs.length Post)):∃v s',Post v s'/\A8 (env R) L 83 [t0,t1,t2,t3] s v s':=
 hM Tryz.func83 hn h
theorem AKc (h :
 Bw s Y4 λa b=>
 xC R 115 N O T 54 [t0,(AA 6)] b λc d=>
 xI .lss c (AA 2) λe=>
 g0 e true d t3 λf g=>
 g1 e true g (xI .gtr f (AA 0)) λj k=>
 Ay e j (BB false) λl=>
 AO l (
 xC R 115 N O T 54 [t0,t3] k λm n=>
 xC R 115 N O T 25 [m] n λo p=>
 CR (lf R 115 N O T) p 4 a o λq=>
 xM R q 4 a λu=>
 QR u q) (
 xI .leq t2 (AA 0) λw=>
 AO w (
 xL R k (.DM 1 0) λx=>
 xC R 115 N O T 54 [t0,(AA 4)] k λy z=>
 Cl z 1 x y λaa=>
 xL R z aa λab=>
 xC R 115 N O T 26 [ab,(.AB [])] z λac ad=>
 CR (lf R 115 N O T) ad 4 a ac λae=>
(xL R z (.DM 1 0) λaf=>CQ af x=true) /\
 xM R ae 4 a λag=>
 QR ag ae) (
 xI .lss c (AA 4) λah=>
 AO ah (
 xC R 115 N O T 83 [t0,t1,t2,t3] k λai aj=>
 CR (lf R 115 N O T) aj 4 a ai λak=>
 xM R ak 4 a λal=>
 QR al ak) (
 iP R N O T t0 t1 t2 a k QR)))):iM R N O T t0 t1 t2 t3 s QR:=
 pC AFz cF h
theorem AKd (h :
 xI .sub t2 (AA 1) λa=>
 xC R 115 N O T 41 [t0,t1,a,(AA 0)] s λb c=>
 CR (lf R 115 N O T) c 4 t8 b λd=>
 xM R d 4 t8 λe=>
 QR e d):iP R N O T t0 t1 t2 t8 s QR:=
 pC AFz cF h
theorem AVw {L:A3} {Post:AV->AM->Prop} (hn:Bb [t0,t1,t2,t3]=false) (h:iM R 0 L.ro L.rt t0 t1 t2 t3 s (QM (L.rr 115) s.bs.length Post)):∃v s',Post v s'/\A8 (env R) L 115 [t0,t1,t2,t3] s v s':=
 hM Tryz.func115 hn h
theorem APq (h :
 D0 s t0 λa=>
 xF R s a 1 λc=>
 D0 s t0 λd=>
 xF R s d 0 λf=>
 BV s f λg=>
 xI .geq c g λi=>
 AO i (
 QR (AA 0) s) (
 AF0 R N O T t0 t1 s QR)):wV R N O T t0 t1 s QR:=
 pC ASA cF h
theorem APs (h :
 D0 s t0 λa=>
 xF R s a 1 λc=>
 xI .add c (AA 1) λd=>
 D0 s t0 λe=>
 BD s e 1 λf=>
 CR (lf R 54 N O T) s 1 f d λg=>
 D0 g t0 λi=>
 xF R g i 0 λk=>
 D0 g t0 λl=>
 xF R g l 1 λn=>
 xI .sub n (AA 1) λo=>
 Cl g 1 k o λp=>
 xL R g p λq=>
 xC R 54 N O T 13 [q,t1] g λu v=>
 QR u v):AF0 R N O T t0 t1 s QR:=
 pC ASA cF h
theorem m54 {L:A3} {Post:AV->AM->Prop} (hn:Bb [t0,t1]=false) (h:wV R 0 L.ro L.rt t0 t1 s (QM (L.rr 54) s.bs.length Post)):∃v s',Post v s'/\A8 (env R) L 54 [t0,t1] s v s':=
 hM Tryz.func54 hn h
end
noncomputable section
section
variable (R:RT) (N O T:Nat) (t0:AV)
noncomputable def b57:Code:=Tryz.f57.body.getD .skip
def ASB:Nat->List Nat:=ln [[],[0],[0,4],[0]]
abbrev Q57:=Wq R N O T 57 8 [.tmp 2]
def AEJ:=Q57 R N O T (aT b57 1) [(0,t0)]
def AF1:=Q57 R N O T (aT b57 7) [(0,t0)]
end
variable {R:RT} {N O T:Nat} {s:AM} {QR:QT} {t0:AV}
theorem AOf (h :
 vN s (some 1) (RR t0) (some 1) .eql t0 (.AB []) λa=>
 AO a (
 QR (.AB []) s) (
 AF1 R N O T t0 s QR)):AEJ R N O T t0 s QR:=
 pC ASB cF h
theorem AOg (h :
 Dc false s 4 Y4 0 [] λa b=>
(4=4/\4≠0)/\EL false (lf R 57 N O T) b 25 4 56 a t0 λc d=>
 QR c d):AF1 R N O T t0 s QR:=
 pC ASB cF h
end
noncomputable section
section
variable (R:RT) (N O T:Nat) (t0:AV)
noncomputable def AXf:Code:=Tryz.f152.body.getD .skip
def ASC:Nat->List Nat:=ln [[],[0]]
abbrev AXg:=Wq R N O T 152 6 [.tmp 2]
def zm:=AXg R N O T (aT AXf 1) [(0,t0)]
noncomputable def AXh:Code:=Tryz.f163.body.getD .skip
def ASD:Nat->List Nat:=ln [[],[0]]
abbrev AXi:=Wq R N O T 163 6 [.tmp 2]
def zn:=AXi R N O T (aT AXh 1) [(0,t0)]
noncomputable def AXj:Code:=Tryz.f153.body.getD .skip
def ASE:Nat->List Nat:=ln [[],[0]]
abbrev AXk:=Wq R N O T 153 6 [.tmp 2]
def zo:=AXk R N O T (aT AXj 1) [(0,t0)]
end
variable {R:RT} {N O T:Nat} {s:AM} {QR:QT} {t0:AV}
theorem AJ1 (h :
 xI .neq t0 t0 λa=>
 QR a s):zm R N O T t0 s QR:=
 pC ASC cF h
theorem AVT {u0:AV} {Post:AV->Prop} (Ba:AU [] 0 0 [t0]=some [u0]) (h:zm R 0 0 0 u0 ⟨[],[]⟩ (QP Post)):AL (env R) 152 [t0] Post:=
 hR Tryz.func152 Ba h
theorem AJ2 (h :
 xI .neq t0 t0 λa=>
 QR a s):zn R N O T t0 s QR:=
 pC ASD cF h
theorem AVU {u0:AV} {Post:AV->Prop} (Ba:AU [] 0 0 [t0]=some [u0]) (h:zn R 0 0 0 u0 ⟨[],[]⟩ (QP Post)):AL (env R) 163 [t0] Post:=
 hR Tryz.func163 Ba h
theorem AKB (h :
 Fi .neq t0 t0 λa=>
 QR a s):zo R N O T t0 s QR:=
 pC ASE cF h
theorem AVc {u0:AV} {Post:AV->Prop} (Ba:AU [] 0 0 [t0]=some [u0]) (h:zo R 0 0 0 u0 ⟨[],[]⟩ (QP Post)):AL (env R) 153 [t0] Post:=
 hR Tryz.func153 Ba h
end
noncomputable section
section
variable (R:RT) (N O T:Nat)
end
variable {R:RT} {N O T:Nat} {s:AM} {QR:QT}
end
noncomputable section
section
variable (R:RT) (N O T:Nat) (t0 t1 t2 t3 t4 t5 t6 t7 t8 t16 t31 t32 t33 t34 t35 t36 t37:AV)
noncomputable def b61:Code:=Tryz.f61.body.getD .skip
def ALB:Nat->List Nat:=ln [[],[1,2],[1,2,6],[1,2,6,7],[1,2,6,7],[],[1,2,6,10],[],[2,13],[]]
abbrev Q61:=Wq R N O T 61 19 [.tmp 4]
def AF2:=Q61 R N O T (aT b61 1) [(0,t0),(1,t1)]
def zq:=Q61 R N O T (aT b61 53) [(1,t1),(2,t2),(6,t6),(7,t7)]
def AF3:=Q61 R N O T (aT b61 7) []
noncomputable def ASF:Code:=Tryz.f102.body.getD .skip
def ASG:Nat->List Nat:=ln [[],[1]]
abbrev AXn:=Wq R N O T 102 6 [.tmp 2]
def zu:=AXn R N O T (aT ASF 1) [(0,t0)]
noncomputable def b58:Code:=Tryz.f58.body.getD .skip
def AXo:Nat->List Nat:=ln [[],[2,3,4]]
abbrev Q58:=Wq R N O T 58 8 [.cell 4 25]
def AF4:=Q58 R N O T (aT b58 1) [(0,t0),(1,t1)]
noncomputable def ASH:Code:=Tryz.f101.body.getD .skip
def AF5:Nat->List Nat:=ln [[],[1,2,3],[2,3,16],[2,3]]
abbrev ASI:=Wq R N O T 101 21 [.cell 3 25]
def zw:=ASI R N O T (aT ASH 1) [(0,t0),(1,t1)]
def zx:=ASI R N O T (aT ASH 7) [(2,t2),(3,t3)]
noncomputable def b67:Code:=Tryz.f67.body.getD .skip
def pz:Nat->List Nat:=ln [[],[1,2,3,6],[1,2,3,6,10],[],[1,2,3,6,17],[1,2,3,6],[1,2,3,6,7],[1,2,3,6,7],[1,2,3,6,7,34,35,36],[1,2,3,6,7,34,35,36,37],[1,2,3,6,7,9,34,35,36],[1,2,3,6,7,34,35,36],[6,7]]
abbrev Q67:=Wq R N O T 67 56 [.cell 6 25]
def AF6:=Q67 R N O T (aT b67 1) [(0,t0),(1,t1),(2,t2)]
def wu:=Q67 R N O T (aT b67 7) [(1,t1),(2,t2),(3,t3),(6,t6)]
def mN:=Q67 R N O T (aT b67 250) [(1,t1),(2,t2),(3,t3),(6,t6),(7,t7),(34,t34),(35,t35),(36,t36)]
def AF7:=Q67 R N O T (aT b67 2003) [(1,t1),(2,t2),(3,t3),(6,t6),(7,t7),(34,t34),(35,t35),(36,t36),(37,t37)]
def AF8:=Q67 R N O T (aT b67 63) [(6,t6),(7,t7)]
def wq:=Q67 R N O T (aT b67 4007) [(1,t1),(2,t2),(3,t3),(6,t6),(7,t7),(34,t34),(35,t35),(36,t36)]
noncomputable def b68:Code:=Tryz.f68.body.getD .skip
def ASJ:Nat->List Nat:=ln [[],[1,2,3],[1,2,3,12],[2,3]]
abbrev Q68:=Wq R N O T 68 20 [.cell 3 25]
def AF9:=Q68 R N O T (aT b68 1) [(0,t0),(1,t1)]
def mO:=Q68 R N O T (aT b68 7) [(2,t2),(3,t3)]
noncomputable def b69:Code:=Tryz.f69.body.getD .skip
def AXp:Nat->List Nat:=ln [[],[1]]
abbrev Q69:=Wq R N O T 69 4 [.tmp 2]
def AGA:=Q69 R N O T (aT b69 1) [(0,t0)]
noncomputable def rj:Code:=Tryz.f29.body.getD .skip
def ALC:Nat->List Nat:=ln [[],[1,2],[1,2,3],[1,2,4],[2,4,16],[4,6],[2,4]]
abbrev Q29:=Wq R N O T 29 25 [.cell 2 25]
def AGB:=Q29 R N O T (aT rj 1) [(0,t0)]
def AEn:=Wqr R N O T 29 25 [.cell 2 25] (sub rj [1,1,1,0,1,0]) [.blk 0,.seq (sub rj [1,1,1,1])] [(2,t2),(4,t4),(16,t16)]
def AGC:=Q29 R N O T (aT rj 31) [(2,t2),(4,t4)]
noncomputable def b27:Code:=Tryz.f27.body.getD .skip
def p9:Nat->List Nat:=ln [[],[1],[1,20],[1],[1,3],[1,3,4],[1,3,4,31,32],[1,3,4,31,32,33],[1,3,4,5,31,32],[1,3,4,31,32,38],[1,3,4,31,32],[1,3,4]]
abbrev Q27:=Wq R N O T 27 62 [.tmp 2]
def AGD:=Q27 R N O T (aT b27 1) [(0,t0)]
def AGE:=Q27 R N O T (aT b27 7) [(1,t1)]
def mU:=Q27 R N O T (aT b27 250) [(1,t1),(3,t3),(4,t4),(31,t31),(32,t32)]
def AGF:=Q27 R N O T (aT b27 2003) [(1,t1),(3,t3),(4,t4),(31,t31),(32,t32),(33,t33)]
def xB:=Q27 R N O T (aT b27 63) [(1,t1),(3,t3),(4,t4)]
def AGG:=Q27 R N O T (aT b27 4007) [(1,t1),(3,t3),(4,t4),(31,t31),(32,t32)]
noncomputable def b74:Code:=Tryz.f74.body.getD .skip
def ZP:Nat->List Nat:=ln ([]::[1,2,4]::rp 3 [1,2,4,5] ([1,2,4]::rp 3 [1,2,4,6] [[2,4]]))
abbrev Q74:=Wq R N O T 74 31 [.cell 4 25]
def AGH:=Q74 R N O T (aT b74 1) [(0,t0),(1,t1)]
def mR:=Q74 R N O T (aT b74 26) [(1,t1),(2,t2),(4,t4),(5,t5)]
def AGI:=Q74 R N O T (aT b74 105) [(1,t1),(2,t2),(4,t4),(5,t5)]
def AGJ:=Q74 R N O T (aT b74 7) [(1,t1),(2,t2),(4,t4)]
def AGK:=Q74 R N O T (aT b74 211) [(1,t1),(2,t2),(4,t4),(5,t5)]
def mQ:=Q74 R N O T (aT b74 58) [(1,t1),(2,t2),(4,t4),(6,t6)]
def AGL:=Q74 R N O T (aT b74 233) [(1,t1),(2,t2),(4,t4),(6,t6)]
def AGM:=Q74 R N O T (aT b74 15) [(2,t2),(4,t4)]
def AGN:=Q74 R N O T (aT b74 467) [(1,t1),(2,t2),(4,t4),(6,t6)]
noncomputable def b31:Code:=Tryz.f31.body.getD .skip
def zy:Nat->List Nat:=ln ([]::[1,2]::[1,2,3]::rp 3 [1,2,3,4] [[2,3]])
abbrev Q31:=Wq R N O T 31 27 [.cell 2 25]
def AGO:=Q31 R N O T (aT b31 1) [(0,t0)]
def mS:=Q31 R N O T (aT b31 58) [(1,t1),(2,t2),(3,t3),(4,t4)]
def AGP:=Q31 R N O T (aT b31 233) [(1,t1),(2,t2),(3,t3),(4,t4)]
def AGQ:=Q31 R N O T (aT b31 15) [(2,t2),(3,t3)]
def AGR:=Q31 R N O T (aT b31 467) [(1,t1),(2,t2),(3,t3),(4,t4)]
noncomputable def b8:Code:=Tryz.f8.body.getD .skip
def lv8:Nat->List Nat:=ln ([]::[0]::[3]::[4,5]::rp 3 [4,5,6] [[4,5,6,7,8],[4,5,6,7,8,38],[4,5,6,7,8],[4,5,6,65],[4,5]])
abbrev Q8:=Wq R N O T 8 76 [.tmp 2]
def ASL:=Q8 R N O T (aT b8 1) [(0,t0)]
def AC6:=Q8 R N O T (aT b8 122) [(4,t4),(5,t5),(6,t6)]
def ASM:=Q8 R N O T (aT b8 489) [(4,t4),(5,t5),(6,t6)]
def ASN:=Q8 R N O T (aT b8 31) [(4,t4),(5,t5)]
def ASO:=Q8 R N O T (aT b8 7827) [(4,t4),(5,t5),(6,t6),(7,t7),(8,t8)]
def AK6:=Q8 R N O T (aT b8 979) [(4,t4),(5,t5),(6,t6)]
end
variable {R:RT} {N O T:Nat} {s:AM} {QR:QT} {t0 t1 t2 t3 t4 t5 t6 t7 t8 t16 t31 t32 t33 t34 t35 t36 t37:AV}
theorem AQM (h :
 B6 s t0 λa b=>
 xF R b a 0 λd=>
 xI .eql d (AA 0) λe=>
 AO e (
 zq R N O T t1 a d e b QR) (
 xI .eql d (AA 2) λf=>
 zq R N O T t1 a d f b QR)):AF2 R N O T t0 t1 s QR:=
 pC ALB cF h
theorem wo (h :
 AO t7 (
 QR (BB true) s) (
 xI .eql t6 (AA 5) λa=>
 AO a (
 QR t1 s) (
 xI .eql t6 (AA 3) λb=>
 AO b (
 xF R s t2 3 λd=>
 xC R 61 N O T 94 [d,(.func (.func 102) [] [])] s λe f=>
 DY e λg=>
 QR g f) (
 AF3 R N O T  s QR)))):zq R N O T t1 t2 t6 t7 s QR:=
 pC ALB cF h
theorem AQN (h :
 QR (BB false) s):AF3 R N O T  s QR:=
 pC ALB cF h
theorem e61 {u0 u1:AV} {Post:AV->Prop} (Ba:AU [] 0 0 [t0,t1]=some [u0,u1]) (h:AF2 R 0 0 0 u0 u1 ⟨[],[]⟩ (QP Post)):AL (env R) 61 [t0,t1] Post:=
 hR Tryz.func61 Ba h
theorem AKl (h :
 B6 s t0 λa b=>
 xM R b 4 a λc=>
 xC R 102 N O T 61 [c,(BB true)] b λd e=>
 DY d λf=>
 QR f e):zu R N O T t0 s QR:=
 pC ASG cF h
theorem AV2 {Post:AV->Prop} (hn:Bb [t0]=true) (h:zu R 0 0 0 t0 ⟨[],[]⟩ (QP Post)):AL (env R) 102 [t0] Post:=
 HI (fn:=Tryz.f102) (body:=ASF) Tryz.func102 (by kernel_rfl) (by kernel_rfl) (by kernel_rfl) (Cr (by kernel_rfl)) hn (mP h (by kernel_rfl))
theorem AQs (h :
 B6 s t0 λa b=>
 B6 b t1 λc d=>
 Bw d Y4 λe f=>
 xM R f 4 c λg=>
 xC R 58 N O T 67 [g,(BB false),(.func (.func 101) [] [a])] f λi j=>
 CR (lf R 58 N O T) j 4 e i λk=>
 xM R k 4 e λl=>
 QR l k):AF4 R N O T t0 t1 s QR:=
 pC AXo cF h
theorem m58 {L:A3} {Post:AV->AM->Prop} (hn:Bb [t0,t1]=false) (h:AF4 R 0 L.ro L.rt t0 t1 s (QM (L.rr 58) s.bs.length Post)):∃v s',Post v s'/\A8 (env R) L 58 [t0,t1] s v s':=
 hM Tryz.func58 hn h
theorem AKu (h :
 B6 s t0 λa b=>
 Bw b Y4 λc d=>
 xF R d a 2 λf=>
 xI .geq f (AA 0) λg=>
 g1 g true d (BD d a 2) λj k=>
 g1 g true d (xL R d j) λm n=>
 g1 g true d (xL R d t1) λp q=>
 g1 g true d (D0 d p) λv w=>
 g1 g true d (BD d v 0) λy z=>
 g1 g true d (xL R d y) λab ac=>
 g1 g true d (BV d ab) λae af=>
 g1 g true d (xI .lss m ae) λah ai=>
 Ay g ah (BB false) λaj=>
 AO aj (
 xF R d a 2 λal=>
 xC R 101 N O T 90 [al] d λam an=>
 CR (lf R 101 N O T) an 4 c am λao=>
 xM R ao 4 c λap=>
 QR ap ao) (
 zx R N O T a c d QR)):zw R N O T t0 t1 s QR:=
 pC AF5 cF h
theorem AKv (h :
 xM R s 4 t2 λa=>
 CR (lf R 101 N O T) s 4 t3 a λb=>
 xM R b 4 t3 λc=>
 QR c b):zx R N O T t2 t3 s QR:=
 pC AF5 cF h
theorem AV6 {L:A3} {Post:AV->AM->Prop} (hn:Bb [t0,t1]=false) (h:zw R 0 L.ro L.rt t0 t1 s (QM (L.rr 101) s.bs.length Post)):∃v s',Post v s'/\A8 (env R) L 101 [t0,t1] s v s':=
 hM Tryz.func101 hn h
theorem AQT (h :
 B6 s t0 λa b=>
 Bw b Y4 λc d=>
 xF R d a 0 λf=>
 xI .eql f (AA 5) λg=>
 AO g (
 xM R d 4 a λi=>
 EK (env R) (lf R 67 N O T) t2 [i] d λj k=>
 CR (lf R 67 N O T) k 4 c j λl=>
 xM R l 4 c λm=>
 QR m l) (
 xF R d a 0 λo=>
 xI .neq o (AA 2) λp=>
 g0 p true d t1 λq u=>
 g0 p true u q λv w=>
 g1 v false w (BD w a 0) λy z=>
 g1 v false z (xL R z y) λab ac=>
 g1 v false ac (xI .neq ab (AA 3)) λae af=>
 g1 p true af (Ay v (BB true) ae) λah ai=>
 Ay p ah (BB false) λaj=>
 AO aj (
 xM R ai 4 a λak=>
 xC R 67 N O T 70 [ak] ai λal am=>
 CR (lf R 67 N O T) am 4 c al λan=>
 xM R an 4 c λao=>
 QR ao an) (
 wu R N O T t1 t2 a c ai QR))):AF6 R N O T t0 t1 t2 s QR:=
 pC pz cF h
theorem AQV (h :
 xM R s 4 t3 λa=>
 Bw s Y4 λb c=>
 CR (lf R 67 N O T) c 4 b a λd=>
 BD d b 3 λe=>
 CR (lf R 67 N O T) d 1 e (.AB []) λf=>
 xF R f t3 3 λi=>
 BV f i λj=>
 mN R N O T t1 t2 t3 t6 b i j (AA 0) f QR):wu R N O T t1 t2 t3 t6 s QR:=
 pC pz cF h
theorem AEl (h :
 xI .lss t36 t35 λa=>
 AO a (
 AF7 R N O T t1 t2 t3 t6 t7 t34 t35 t36 a s QR) (
 AF8 R N O T t6 t7 s QR)):mN R N O T t1 t2 t3 t6 t7 t34 t35 t36 s QR:=
 pL pz cF h
theorem AQP (h :
 Cl s 4 t34 t36 λa=>
 xM R s 4 a λb=>
 Bw s Y4 λc d=>
 CR (lf R 67 N O T) d 4 c b λe=>
 BD e t7 3 λf=>
 xL R e f λg=>
 xM R e 4 c λi=>
 g1 t1 false e (BD e t3 0) λk l=>
 g1 t1 false e (xL R e k) λn o=>
 g1 t1 false e (xI .eql n (AA 2)) λq u=>
 Ay t1 (BB true) q λw=>
 xC R 67 N O T 67 [i,w,t2] e λx y=>
 Dc false y 4 Y4 1 [(0,4,x)] λz aa=>
(4=4/\4≠0)/\EL false (lf R 67 N O T) y 25 4 56 g z λab ac=>
 BD ac t7 3 λad=>
 CR (lf R 67 N O T) ac 1 ad ab λae=>
(BD y t7 3 λaf=>CQ af f=true) /\
(xL R y f λag=>CQ ag g=true) /\
 wq R N O T t1 t2 t3 t6 t7 t34 t35 t36 ae QR):AF7 R N O T t1 t2 t3 t6 t7 t34 t35 t36 t37 s QR:=
 pC pz cF h
theorem AQO (h :
 xM R s 4 t7 λa=>
 CR (lf R 67 N O T) s 4 t6 a λb=>
 xM R b 4 t6 λc=>
 QR c b):AF8 R N O T t6 t7 s QR:=
 pC pz cF h
theorem AQS (h :
 xI .add t36 (AA 1) λa=>
 mN R N O T t1 t2 t3 t6 t7 t34 t35 a s QR):wq R N O T t1 t2 t3 t6 t7 t34 t35 t36 s QR:=
 pC pz cF h
theorem i67 {Post:AV->Prop} (Ba:AU [] 0 0 [t0,t1,t2]=none) (h:AF6 R s.bs.length s.bs.length s.ts.length t0 t1 t2 s (QI s.bs.length s.ts.length Post)):∃v,Post v/\∀L,A8 (env R) L 67 [t0,t1,t2] s v s:=
 hI Tryz.func67 Ba h
theorem AQY (h :
 B6 s t0 λa b=>
 Bw b Y4 λc d=>
 xF R d a 2 λf=>
 xI .geq f (AA 0) λg=>
 g1 g true d (BD d a 2) λj k=>
 g1 g true k (xL R k j) λm n=>
 g1 g true n (xL R n t1) λp q=>
 g1 g true q (xI .lss m p) λv w=>
 Ay g v (BB false) λx=>
 AO x (
 xL R w t1 λy=>
 xI .sub y (AA 1) λz=>
 xF R w a 2 λab=>
 xI .sub z ab λac=>
 BD w a 2 λad=>
 CR (lf R 68 N O T) w 1 ad ac λae=>
 mO R N O T a c ae QR) (
 mO R N O T a c w QR)):AF9 R N O T t0 t1 s QR:=
 pC ASJ cF h
theorem AQZ (h :
 xM R s 4 t2 λa=>
 CR (lf R 68 N O T) s 4 t3 a λb=>
 xM R b 4 t3 λc=>
 QR c b):mO R N O T t2 t3 s QR:=
 pC ASJ cF h
theorem m68 {L:A3} {Post:AV->AM->Prop} (hn:Bb [t0,t1]=false) (h:AF9 R 0 L.ro L.rt t0 t1 s (QM (L.rr 68) s.bs.length Post)):∃v s',Post v s'/\A8 (env R) L 68 [t0,t1] s v s':=
 hM Tryz.func68 hn h
theorem AQe (h :
 B6 s t0 λa b=>
 QR (.func (.func 106) [] [a]) b):AGA R N O T t0 s QR:=
 pC AXp cF h
theorem m69 {L:A3} {Post:AV->AM->Prop} (h:AGA R L.n0 L.ro L.rt t0 s Post):∃v s',Post v s'/\A8 (env R) L 69 [t0] s v s':=
 hE Tryz.func69 h
theorem AQd (h :
 B6 s t0 λa b=>
 Bw b Y4 λc d=>
 xF R d a 0 λf=>
 BV d f λg=>
 Bw d [(AA 0)] λi j=>
 CR (lf R 29 N O T) j 1 i g λk=>
 xG R k a 1 4 λm=>
 xC R 29 N O T 67 [m,(BB false),(.func (.func 68) [] [i])] k λn o=>
 Bw o Y4 λp q=>
 CR (lf R 29 N O T) q 4 p n λu=>
 xF R u a 0 λw=>
 xC R 29 N O T 69 [w] u λx y=>
 AEn R N O T c p x y QR):AGB R N O T t0 s QR:=
 pC ALC cF h
theorem AQf (h :
 AGC R N O T t2 t4 s QR):Wp (env R) (lf R 29 N O T) 25 [.cell 2 25] .skip [.blk 0,.seq (sn rj 31)] [(2,t2),(4,t4),(16,t16)] s QR:=
 pC ALC cF h
theorem AQg (h :
 xM R s 4 t4 λa=>
 CR (lf R 29 N O T) s 4 t2 a λb=>
 xM R b 4 t2 λc=>
 QR c b):AGC R N O T t2 t4 s QR:=
 pC ALC cF h
theorem e29 {u0:AV} {Post:AV->Prop} (Ba:AU [] 0 0 [t0]=some [u0]) (h:AGB R 0 0 0 u0 ⟨[],[]⟩ (QP Post)):AL (env R) 29 [t0] Post:=
 hR Tryz.func29 Ba h
theorem AQu (h :
 B6 s t0 λa b=>
 xG R b a 1 4 λd=>
 xC R 27 N O T 61 [d,(BB false)] b λe f=>
 DY e λg=>
 g1 g false f (BD f a 1) λj k=>
 g1 g false k (xM R k 4 j) λm n=>
 Hs g false n (xC R 27 N O T 42 [m] n) λq u=>
 g1 g false u (xI .neq q (AA 0)) λw x=>
 Ay g (BB true) w λy=>
 g1 y false x (xM R x 5 a) λaa ab=>
 Hs y false ab (xC R 27 N O T 46 [aa] ab) λae af=>
 g1 y false af (DY ae) λah ai=>
 Ay y (BB true) ah λaj=>
 AO aj (
 QR (BB false) ai) (
 AGE R N O T a ai QR)):AGD R N O T t0 s QR:=
 pC p9 cF h
theorem AQw (h :
 xF R s t1 0 λb=>
 C1 [(.AB []),(AA 0)] [(0,1,b)] λc=>
 B6 s c λd e=>
 xG R e t1 1 4 λg=>
 xC R 27 N O T 58 [d,g] e λi j=>
 Bw j Y4 λk l=>
 CR (lf R 27 N O T) l 4 k i λm=>
 xF R m t1 0 λo=>
 BV m o λp=>
 mU R N O T t1 d k p (AA 0) m QR):AGE R N O T t1 s QR:=
 pC p9 cF h
theorem AEs (h :
 xI .lss t32 t31 λa=>
 AO a (
 AGF R N O T t1 t3 t4 t31 t32 a s QR) (
 xB R N O T t1 t3 t4 s QR)):mU R N O T t1 t3 t4 t31 t32 s QR:=
 pL p9 cF h
theorem AQz (h :
 xM R s 4 t4 λa=>
 xC R 27 N O T 62 [a,t32,(BB true)] s λb c=>
 DY b λd=>
 AO d (
 QR (BB false) c) (
 AGG R N O T t1 t3 t4 t31 t32 c QR)):AGF R N O T t1 t3 t4 t31 t32 t33 s QR:=
 pC p9 cF h
theorem AQy (h :
 xG R s t1 1 4 λb=>
 xC R 27 N O T 43 [b] s λc d=>
 BV d c λe=>
 BD d t1 0 λf=>
 xL R d f λg=>
 BV d g λi=>
 xI .eql e i λj=>
 g0 j true d t3 λk l=>
 g1 j true d (xM R d 4 t4) λn o=>
 Hs j true d (xC R 27 N O T 45 [k,n] d) λu w=>
 g1 j true w (xA (some 4) u 1) λy z=>
 g1 j true w (BD w t1 1) λab ac=>
 g1 j true w (xM R w 4 ab) λae af=>
 Hs j true w (xC R 27 N O T 63 [y,ae] w) λai aj=>
 Ay j ai (BB false) λak=>
 g1 ak true aj (BD aj t1 0) λam an=>
 g1 ak true aj (xL R aj am) λap aq=>
 Hs ak true aj (xC R 27 N O T 47 [ap] aj) λav aw=>
 Ay ak av (BB false) λax=>
(BD s t1 0 λay=>CQ ay f=true) /\
(xL R s f λaz=>CQ az g=true) /\
(BV s g λa0=>CQ a0 i=true) /\
(Hs j true d (λK=>BD d t1 1 λa1=>K a1 d) λa2 a3=>CQ a2 ab=true) /\
(Hs j true d (λK=>xM R d 4 ab λa4=>K a4 d) λa5 a6=>CQ a5 ae=true) /\
 QR ax aw):xB R N O T t1 t3 t4 s QR:=
 pC p9 cF h
theorem AQ0 (h :
 xI .add t32 (AA 1) λa=>
 mU R N O T t1 t3 t4 t31 a s QR):AGG R N O T t1 t3 t4 t31 t32 s QR:=
 pC p9 cF h
theorem e27 {u0:AV} {Post:AV->Prop} (Ba:AU [] 0 0 [t0]=some [u0]) (h:AGD R 0 0 0 u0 ⟨[],[]⟩ (QP Post)):AL (env R) 27 [t0] Post:=
 hR Tryz.func27 Ba h
theorem AQn (h :
 B6 s t0 λa b=>
 Bw b Y4 λc d=>
 mR R N O T t1 a c (AA 0) d QR):AGH R N O T t0 t1 s QR:=
 pC ZP cF h
theorem AEp (h :
 xI .lss t5 t1 λa=>
 AO a (
 AGI R N O T t1 t2 t4 t5 s QR) (
 AGJ R N O T t1 t2 t4 s QR)):mR R N O T t1 t2 t4 t5 s QR:=
 pL ZP cF h
theorem AQl (h :
 xM R s 4 t2 λa=>
 xI .add (AA 1073741825) t1 λb=>
 xI .sub b (AA 1) λc=>
 xI .sub c t5 λd=>
 xC R 74 N O T 82 [a,t5,d] s λe f=>
 CR (lf R 74 N O T) f 4 t2 e λg=>
 AGK R N O T t1 t2 t4 t5 g QR):AGI R N O T t1 t2 t4 t5 s QR:=
 pC ZP cF h
theorem AQk (h :
 mQ R N O T t1 t2 t4 (AA 0) s QR):AGJ R N O T t1 t2 t4 s QR:=
 pC ZP cF h
theorem AQm (h :
 xI .add t5 (AA 1) λa=>
 mR R N O T t1 t2 t4 a s QR):AGK R N O T t1 t2 t4 t5 s QR:=
 pC ZP cF h
theorem AEo (h :
 xI .lss t6 t1 λa=>
 AO a (
 AGL R N O T t1 t2 t4 t6 s QR) (
 AGM R N O T t2 t4 s QR)):mQ R N O T t1 t2 t4 t6 s QR:=
 pL ZP cF h
theorem AQi (h :
 xM R s 4 t2 λa=>
 xI .add (AA 1073741825) t6 λb=>
 xC R 74 N O T 82 [a,b,t6] s λc d=>
 CR (lf R 74 N O T) d 4 t2 c λe=>
 AGN R N O T t1 t2 t4 t6 e QR):AGL R N O T t1 t2 t4 t6 s QR:=
 pC ZP cF h
theorem AQh (h :
 xM R s 4 t2 λa=>
 CR (lf R 74 N O T) s 4 t4 a λb=>
 xM R b 4 t4 λc=>
 QR c b):AGM R N O T t2 t4 s QR:=
 pC ZP cF h
theorem AQj (h :
 xI .add t6 (AA 1) λa=>
 mQ R N O T t1 t2 t4 a s QR):AGN R N O T t1 t2 t4 t6 s QR:=
 pC ZP cF h
theorem e74 {u0 u1:AV} {Post:AV->Prop} (Ba:AU [] 0 0 [t0,t1]=some [u0,u1]) (h:AGH R 0 0 0 u0 u1 ⟨[],[]⟩ (QP Post)):AL (env R) 74 [t0,t1] Post:=
 hR Tryz.func74 Ba h
theorem AQo (h :
 B6 s t0 λa b=>
 Bw b Y4 λc d=>
 xG R d a 1 4 λf=>
 xF R d a 0 λi=>
 BV d i λj=>
 xC R 31 N O T 74 [f,j] d λk l=>
 Bw l Y4 λm n=>
 CR (lf R 31 N O T) n 4 m k λo=>
 xF R o a 0 λq=>
 BV o q λu=>
 xI .sub u (AA 1) λv=>
 mS R N O T a c m v o QR):AGO R N O T t0 s QR:=
 pC zy cF h
theorem AEq (h :
 xI .geq t4 (AA 0) λa=>
 AO a (
 AGP R N O T t1 t2 t3 t4 s QR) (
 AGQ R N O T t2 t3 s QR)):mS R N O T t1 t2 t3 t4 s QR:=
 pL zy cF h
theorem AQq (h :
 xF R s t1 0 λb=>
 Cl s 4 b t4 λc=>
 xM R s 4 c λd=>
 xM R s 4 t3 λe=>
 xC R 31 N O T 52 [d,e] s λf g=>
 CR (lf R 31 N O T) g 4 t3 f λi=>
 AGR R N O T t1 t2 t3 t4 i QR):AGP R N O T t1 t2 t3 t4 s QR:=
 pC zy cF h
theorem AQp (h :
 xM R s 4 t3 λa=>
 CR (lf R 31 N O T) s 4 t2 a λb=>
 xM R b 4 t2 λc=>
 QR c b):AGQ R N O T t2 t3 s QR:=
 pC zy cF h
theorem AQr (h :
 xI .sub t4 (AA 1) λa=>
 mS R N O T t1 t2 t3 a s QR):AGR R N O T t1 t2 t3 t4 s QR:=
 pC zy cF h
theorem e31 {u0:AV} {Post:AV->Prop} (Ba:AU [] 0 0 [t0]=some [u0]) (h:AGO R 0 0 0 u0 ⟨[],[]⟩ (QP Post)):AL (env R) 31 [t0] Post:=
 hR Tryz.func31 Ba h
theorem AWH (h :
 xC R 8 N O T 11 [t0] s λa b=>
 xC R 8 N O T 12 [] b λc d=>
 xC R 8 N O T 19 [a,c] d λe f=>
 Bw f Y4 λg i=>
 CR (lf R 8 N O T) i 4 g e λj=>
 xM R j 4 g λk=>
 xC R 8 N O T 14 [k] j λl m=>
 DC l 0 λn=>
 DC l 1 λo=>
 AC6 R N O T n o (AA 0) m QR):ASL R N O T t0 s QR:=
 pC lv8 cF h
theorem AQ9 (h :
 BV s t4 λa=>
 xI .lss t6 a λb=>
 AO b (
 ASM R N O T t4 t5 t6 s QR) (
 ASN R N O T t4 t5 s QR)):AC6 R N O T t4 t5 t6 s QR:=
 pL lv8 cF h
theorem AWE (h :
 Cl s 5 t4 t6 λa=>
 xM R s 5 a λb=>
 xC R 8 N O T 29 [b] s λc d=>
 xC R 8 N O T 14 [c] d λe f=>
 DC e 0 λg=>
 DC e 1 λi=>
 Cl f 5 t4 t6 λj=>
 xM R f 5 j λk=>
 xC R 8 N O T 27 [k] f λl m=>
 DY l λn=>
 AO n (
 QR (BB false) m) (
 ASO R N O T t4 t5 t6 g i m QR)):ASM R N O T t4 t5 t6 s QR:=
 pC lv8 cF h
theorem AWD (h :
 xC R 8 N O T 16 [] s λa b=>
 g0 a true b t5 λc d=>
 g1 a true d (xI .eql c (AA 0)) λf g=>
 g0 a true g f λi j=>
 g0 i false j t4 λk l=>
 g1 i false l (BV l k) λn o=>
 g1 i false o (xI .eql n (AA 0)) λq u=>
 g1 a true u (Ay i (BB true) q) λw x=>
 Ay a w (BB false) λy=>
 QR y x):ASN R N O T t4 t5 s QR:=
 pC lv8 cF h
theorem AWF (h :
 Cl s 5 t4 t6 λa=>
 xM R s 5 a λb=>
 xC R 8 N O T 31 [b] s λc d=>
 xC R 8 N O T 30 [c] d λe f=>
 xI .eql e (AA 0) λg=>
 g0 g true f t8 λi j=>
 g1 g true f (xI .neq i (AA 0)) λl m=>
 g0 g true f l λn o=>
 g0 n false f t7 λp q=>
 g1 n false f (BV f p) λv w=>
 g1 n false f (xI .neq v (AA 1)) λy z=>
 g1 g true f (Ay n (BB true) y) λab ac=>
 g0 g true f ab λad ae=>
 g0 ad false f t7 λaf ag=>
 g1 ad false f (Cl f 5 af (AA 0)) λai aj=>
 g1 ad false f (xM R f 5 ai) λal am=>
 g0 ad false f t4 λan ao=>
 g0 ad false f t6 λap aq=>
 g1 ad false f (Cl f 5 an ap) λau av=>
 g1 ad false f (xM R f 5 au) λax ay=>
 Hs ad false f (xC R 8 N O T 32 [al,ax] f) λa1 a2=>
 g1 ad false a2 (DY a1) λa4 a5=>
 g1 g true a2 (Ay ad (BB true) a4) λa7 a8=>
 Ay g a7 (BB false) λa9=>
 AO a9 (
 QR (BB false) a2) (
 AK6 R N O T t4 t5 t6 a2 QR)):ASO R N O T t4 t5 t6 t7 t8 s QR:=
 pC lv8 cF h
theorem AWG (h :
 xI .add t6 (AA 1) λa=>
 AC6 R N O T t4 t5 a s QR):AK6 R N O T t4 t5 t6 s QR:=
 pC lv8 cF h
theorem e8 {u0:AV} {Post:AV->Prop} (Ba:AU [] 0 0 [t0]=some [u0]) (h:ASL R 0 0 0 u0 ⟨[],[]⟩ (QP Post)):AL (env R) 8 [t0] Post:=
 hR Tryz.func8 Ba h
end
end Go.Proofs.YtpgfpakdnijngaaGreatDoor
