/-
  What the points of some functions' code need: written by a program (wip/tel/GenW.lean.txt).
-/
import Derived.Test.YtpgfpakdnijngaaGreatDoorWx
set_option linter.unusedSimpArgs false
set_option linter.unusedVariables false
namespace Go.Proofs.YtpgfpakdnijngaaGreatDoor
open Go.Tel
noncomputable section
section
variable (R:RT) (n0 ro rt:Nat) (t0 t1 t2 t3 t5 t7 t8 t9 t10 t17 t18 t19 t20 t22 t23:AV)
noncomputable def xx:Code:=Tryz.f84.body.getD .skip
def tB:Nat->List Nat:=ln [[],[1],[1,3],[3,7,8,9],[3,7,8,9,10],[3,5,7,8,9],[3,7,8,9],[3]]
abbrev Q84:=Wq R n0 ro rt 84 19 [.tmp 2]
def ABc:=Q84 R n0 ro rt (sub xx []) [] [(0,t0)]
def iZ:=Q84 R n0 ro rt (.loop (sn xx 116)) [.blk 0,.seq (sn xx 15)] [(3,t3),(7,t7),(8,t8),(9,t9)]
def ABd:=Q84 R n0 ro rt (sn xx 467) [.loop (sn xx 116),.blk 0,.seq (sn xx 15)] [(3,t3),(7,t7),(8,t8),(9,t9),(10,t10)]
def ABe:=Q84 R n0 ro rt (sn xx 15) [] [(3,t3)]
def ABf:=Q84 R n0 ro rt (sn xx 935) [.loop (sn xx 116),.blk 0,.seq (sn xx 15)] [(3,t3),(7,t7),(8,t8),(9,t9)]
noncomputable def tC:Code:=Tryz.f85.body.getD .skip
def tD:Nat->List Nat:=ln [[],[1],[1,3],[3,7,8,9],[3,7,8,9,10],[3,5,7,8,9],[3,7,8,9],[3]]
abbrev Q85:=Wq R n0 ro rt 85 20 [.tmp 2]
def ABg:=Q85 R n0 ro rt (sub tC []) [] [(0,t0)]
def ia:=Q85 R n0 ro rt (.loop (sn tC 116)) [.blk 0,.seq (sn tC 15)] [(3,t3),(7,t7),(8,t8),(9,t9)]
def ABh:=Q85 R n0 ro rt (sn tC 467) [.loop (sn tC 116),.blk 0,.seq (sn tC 15)] [(3,t3),(7,t7),(8,t8),(9,t9),(10,t10)]
def ABi:=Q85 R n0 ro rt (sn tC 15) [] [(3,t3)]
def ABj:=Q85 R n0 ro rt (sn tC 935) [.loop (sn tC 116),.blk 0,.seq (sn tC 15)] [(3,t3),(7,t7),(8,t8),(9,t9)]
noncomputable def tE:Code:=Tryz.f116.body.getD .skip
def kW:Nat->List Nat:=ln [[],[1],[1,20],[1],[1,22],[1,22,23],[1,22,23],[],[1,22,30],[],[1,22,52],[],[1,22,58],[],[1,22,64],[],[1,80],[]]
abbrev AAB:=Wq R n0 ro rt 116 93 [.tmp 2]
def eV:=AAB R n0 ro rt (sub tE []) [] [(0,t0)]
def eU:=AAB R n0 ro rt (sn tE 7) [] [(1,t1)]
def KS:=AAB R n0 ro rt (sn tE 117) [.blk 0,.seq (sn tE 15)] [(1,t1),(22,t22),(23,t23)]
def tF:=AAB R n0 ro rt (sn tE 15) [] []
noncomputable def ALd:Code:=Tryz.f117.body.getD .skip
def ALe:Nat->List Nat:=ln [[],[1]]
abbrev AQU:=Wq R n0 ro rt 117 6 [.tmp 2]
def tG:=AQU R n0 ro rt (sub ALd []) [] [(0,t0)]
noncomputable def b86:Code:=Tryz.f86.body.getD .skip
def AQV:Nat->List Nat:=ln [[],[1]]
abbrev Q86:=Wq R n0 ro rt 86 11 [.tmp 2]
def ABk:=Q86 R n0 ro rt (sub b86 []) [] [(0,t0)]
noncomputable def b42:Code:=Tryz.f42.body.getD .skip
def ALf:Nat->List Nat:=ln [[],[1],[1,3],[],[12],[]]
abbrev Q42:=Wq R n0 ro rt 42 16 [.tmp 2]
def ABl:=Q42 R n0 ro rt (sub b42 []) [] [(0,t0)]
def qZ:=Q42 R n0 ro rt (sn b42 7) [] []
noncomputable def b94:Code:=Tryz.f94.body.getD .skip
def AQW:Nat->List Nat:=ln [[],[0,1]]
abbrev Q94:=Wq R n0 ro rt 94 9 [.tmp 4]
def tH:=Q94 R n0 ro rt (sub b94 []) [] [(0,t0),(1,t1)]
noncomputable def UC:Code:=Tryz.f125.body.getD .skip
def cI:Nat->List Nat:=ln [[],[0,1],[0,1,7,8],[0,1,7,8,9],[0,1,5,7,8],[0,1,5,7,8,16],[0,1,7,8],[]]
abbrev tI:=Wq R n0 ro rt 125 19 [.tmp 4]
def fy:=tI R n0 ro rt (sub UC []) [] [(0,t0),(1,t1)]
def P7:=tI R n0 ro rt (.loop (sn UC 52)) [.blk 0,.seq (sn UC 7)] [(0,t0),(1,t1),(7,t7),(8,t8)]
def tJ:=tI R n0 ro rt (sn UC 211) [.loop (sn UC 52),.blk 0,.seq (sn UC 7)] [(0,t0),(1,t1),(7,t7),(8,t8),(9,t9)]
def tK:=tI R n0 ro rt (sn UC 7) [] []
def tL:=tI R n0 ro rt (sn UC 423) [.loop (sn UC 52),.blk 0,.seq (sn UC 7)] [(0,t0),(1,t1),(7,t7),(8,t8)]
noncomputable def AQX:Code:=Tryz.f140.body.getD .skip
def ALg:Nat->List Nat:=ln [[],[1]]
abbrev AQY:=Wq R n0 ro rt 140 7 [.tmp 2]
def tM:=AQY R n0 ro rt (sub AQX []) [] [(0,t0)]
noncomputable def UD:Code:=Tryz.f141.body.getD .skip
def Wi:Nat->List Nat:=ln [[],[1,2],[1,2,15],[1,2],[1,2,17,18,19],[1,2,17,18,19,20],[1,2,5,6,17,18,19],[1,2,17,18,19,31],[1,2,17,18,19],[]]
abbrev mY:=Wq R n0 ro rt 141 33 [.tmp 4]
def eF:=mY R n0 ro rt (sub UD []) [] [(0,t0),(1,t1)]
def eG:=mY R n0 ro rt (sn UD 7) [] [(1,t1),(2,t2)]
def Xv:=mY R n0 ro rt (.loop (sn UD 116)) [.blk 0,.seq (sn UD 15)] [(1,t1),(2,t2),(17,t17),(18,t18),(19,t19)]
def tN:=mY R n0 ro rt (sn UD 467) [.loop (sn UD 116),.blk 0,.seq (sn UD 15)] [(1,t1),(2,t2),(17,t17),(18,t18),(19,t19),(20,t20)]
def tP:=mY R n0 ro rt (sn UD 15) [] []
def tQ:=mY R n0 ro rt (sn UD 935) [.loop (sn UD 116),.blk 0,.seq (sn UD 15)] [(1,t1),(2,t2),(17,t17),(18,t18),(19,t19)]
noncomputable def ALh:Code:=Tryz.f160.body.getD .skip
def ALi:Nat->List Nat:=ln [[],[1]]
abbrev AQZ:=Wq R n0 ro rt 160 6 [.tmp 2]
def tR:=AQZ R n0 ro rt (sub ALh []) [] [(0,t0)]
noncomputable def AQa:Code:=Tryz.f161.body.getD .skip
def ALj:Nat->List Nat:=ln [[],[1]]
abbrev AQb:=Wq R n0 ro rt 161 19 [.tmp 2]
def tS:=AQb R n0 ro rt (sub AQa []) [] [(0,t0)]
noncomputable def ALk:Code:=Tryz.f119.body.getD .skip
def ABm:Nat->List Nat:=ln [[],[1,2],[11],[]]
abbrev ALl:=Wq R n0 ro rt 119 12 [.tmp 4]
def tT:=ALl R n0 ro rt (sub ALk []) [] [(0,t0),(1,t1)]
def tU:=ALl R n0 ro rt (sn ALk 7) [] []
noncomputable def AQc:Code:=Tryz.f138.body.getD .skip
def ALm:Nat->List Nat:=ln [[],[0]]
abbrev AQd:=Wq R n0 ro rt 138 19 [.tmp 2]
def tV:=AQd R n0 ro rt (sub AQc []) [] [(0,t0)]
noncomputable def AQe:Code:=Tryz.f139.body.getD .skip
def ALn:Nat->List Nat:=ln [[],[0,1]]
abbrev AQf:=Wq R n0 ro rt 139 9 [.tmp 4]
def tW:=AQf R n0 ro rt (sub AQe []) [] [(0,t0),(1,t1)]
noncomputable def U6:Code:=Tryz.f156.body.getD .skip
def cJ:Nat->List Nat:=ln ([]::[0,1]::rp 3 [0,1,5] [[0,1,5,17],[]])
abbrev tX:=Wq R n0 ro rt 156 18 [.tmp 4]
def tY:=tX R n0 ro rt (sub U6 []) [] [(0,t0),(1,t1)]
def Xy:=tX R n0 ro rt (.loop (sn U6 52)) [.blk 0,.seq (sn U6 7)] [(0,t0),(1,t1),(5,t5)]
def tZ:=tX R n0 ro rt (sn U6 105) [.loop (sn U6 52),.blk 0,.seq (sn U6 7)] [(0,t0),(1,t1),(5,t5)]
def td:=tX R n0 ro rt (sn U6 7) [] []
def th:=tX R n0 ro rt (sn U6 211) [.loop (sn U6 52),.blk 0,.seq (sn U6 7)] [(0,t0),(1,t1),(5,t5)]
noncomputable def ALo:Code:=Tryz.f157.body.getD .skip
def ALp:Nat->List Nat:=ln [[],[0]]
abbrev AQg:=Wq R n0 ro rt 157 9 [.tmp 2]
def tj:=AQg R n0 ro rt (sub ALo []) [] [(0,t0)]
noncomputable def AQh:Code:=Tryz.f158.body.getD .skip
def ALq:Nat->List Nat:=ln [[],[0]]
abbrev AQi:=Wq R n0 ro rt 158 17 [.tmp 2]
def tq:=AQi R n0 ro rt (sub AQh []) [] [(0,t0)]
noncomputable def AQj:Code:=Tryz.f155.body.getD .skip
def ALr:Nat->List Nat:=ln [[],[0]]
abbrev AQk:=Wq R n0 ro rt 155 17 [.tmp 2]
def uA:=AQk R n0 ro rt (sub AQj []) [] [(0,t0)]
noncomputable def AQl:Code:=Tryz.f173.body.getD .skip
def ALs:Nat->List Nat:=ln [[],[0]]
abbrev AQm:=Wq R n0 ro rt 173 9 [.tmp 2]
def uB:=AQm R n0 ro rt (sub AQl []) [] [(0,t0)]
noncomputable def U7:Code:=Tryz.f159.body.getD .skip
def cK:Nat->List Nat:=ln [[],[0,1],[0,1,7,8],[0,1,7,8,9],[0,1,5,7,8],[0,1,5,7,8,16],[0,1,7,8],[]]
abbrev uC:=Wq R n0 ro rt 159 19 [.tmp 4]
def uD:=uC R n0 ro rt (sub U7 []) [] [(0,t0),(1,t1)]
def X0:=uC R n0 ro rt (.loop (sn U7 52)) [.blk 0,.seq (sn U7 7)] [(0,t0),(1,t1),(7,t7),(8,t8)]
def uE:=uC R n0 ro rt (sn U7 211) [.loop (sn U7 52),.blk 0,.seq (sn U7 7)] [(0,t0),(1,t1),(7,t7),(8,t8),(9,t9)]
def uF:=uC R n0 ro rt (sn U7 7) [] []
def uG:=uC R n0 ro rt (sn U7 423) [.loop (sn U7 52),.blk 0,.seq (sn U7 7)] [(0,t0),(1,t1),(7,t7),(8,t8)]
end
variable {R:RT} {n0 ro rt:Nat} {s:AK} {QR:QT} {t0 t1 t2 t3 t5 t7 t8 t9 t10 t17 t18 t19 t20 t22 t23:AV}
theorem AID (h :
 Cx s t0 fun a b=>
 xF R b a 3 fun d=>
 Bz b d fun e=>
 iZ R n0 ro rt (AD 1) d e (AD 0) b QR):ABc R n0 ro rt t0 s QR:=
 pC tB cF h (by kernel_rfl)
theorem AAm (h :
 xI .lss t9 t8 fun a=>
 AX a (
 ABd R n0 ro rt t3 t7 t8 t9 a s QR) (
 ABe R n0 ro rt t3 s QR)):iZ R n0 ro rt t3 t7 t8 t9 s QR:=
 pL tB cF h (by kernel_rfl)
theorem AIB (h :
 Dc s 4 t7 t9 fun a=>
 xM R s 4 a fun b=>
 CX s Y4 fun c d=>
 C2 (lf R 84 n0 ro rt) d 4 c b fun e=>
 xM R e 4 c fun f=>
 xC R 84 n0 ro rt 84 [f] e fun g i=>
 xI .add t3 g fun j=>
 ABf R n0 ro rt j t7 t8 t9 i QR):ABd R n0 ro rt t3 t7 t8 t9 t10 s QR:=
 pC tB cF h (by kernel_rfl)
theorem AIA (h :
 QR t3 s):ABe R n0 ro rt t3 s QR:=
 pC tB cF h (by kernel_rfl)
theorem AIC (h :
 xI .add t9 (AD 1) fun a=>
 iZ R n0 ro rt t3 t7 t8 a s QR):ABf R n0 ro rt t3 t7 t8 t9 s QR:=
 pC tB cF h (by kernel_rfl)
theorem e84 {u0:AV} {Post:AV->Prop} (Bu:AN [] 0 0 [t0]=some [u0]) (h:ABc R 0 0 0 u0 ⟨[],[]⟩ (QP Post)):AW (env R) 84 [t0] Post:=
 hR Tryz.func84 (by kernel_rfl) Bu h
theorem AII (h :
 Cx s t0 fun a b=>
 xF R b a 3 fun d=>
 Bz b d fun e=>
 ia R n0 ro rt (AD 0) d e (AD 0) b QR):ABg R n0 ro rt t0 s QR:=
 pC tD cF h (by kernel_rfl)
theorem AAn (h :
 xI .lss t9 t8 fun a=>
 AX a (
 ABh R n0 ro rt t3 t7 t8 t9 a s QR) (
 ABi R n0 ro rt t3 s QR)):ia R n0 ro rt t3 t7 t8 t9 s QR:=
 pL tD cF h (by kernel_rfl)
theorem AIF (h :
 Dc s 4 t7 t9 fun a=>
 xM R s 4 a fun b=>
 CX s Y4 fun c d=>
 C2 (lf R 85 n0 ro rt) d 4 c b fun e=>
 xM R e 4 c fun f=>
 xC R 85 n0 ro rt 85 [f] e fun g i=>
 Vn (env R) (lf R 85 n0 ro rt) i (Fo [(15,g),(14,f),(13,t3),(5,c),(12,b),(11,a),(3,t3),(7,t7),(8,t8),(9,t9),(10,t10)]) (AGV (sn tC 3737) 3) fun j k=>
 ABj R n0 ro rt j t7 t8 t9 k QR):ABh R n0 ro rt t3 t7 t8 t9 t10 s QR:=
 pC tD cF h (by kernel_rfl)
theorem AIE (h :
 xI .add t3 (AD 1) fun a=>
 QR a s):ABi R n0 ro rt t3 s QR:=
 pC tD cF h (by kernel_rfl)
theorem AIH (h :
 xI .add t9 (AD 1) fun a=>
 ia R n0 ro rt t3 t7 t8 a s QR):ABj R n0 ro rt t3 t7 t8 t9 s QR:=
 pC tD cF h (by kernel_rfl)
theorem e85 {u0:AV} {Post:AV->Prop} (Bu:AN [] 0 0 [t0]=some [u0]) (h:ABg R 0 0 0 u0 ⟨[],[]⟩ (QP Post)):AW (env R) 85 [t0] Post:=
 hR Tryz.func85 (by kernel_rfl) Bu h
theorem AER (h :
 Cx s t0 fun a b=>
 xF R b a 0 fun d=>
 xI .neq d (AD 2) fun e=>
 g1 e true b (Bo b a 1) fun g i=>
 g1 e true i (xL R i g) fun k l=>
 g1 e true l (Hv .neq k (SS [])) fun n o=>
 Bi e n (BB false) fun p=>
 g1 p false o (Bo o a 0) fun u v=>
 g1 p false v (xL R v u) fun x y=>
 g1 p false y (xI .neq x (AD 5)) fun aa ab=>
 g0 p false ab aa fun ac ad=>
 g1 ac true ad (Bo ad a 2) fun af ag=>
 g1 ac true ag (xL R ag af) fun ai aj=>
 g1 ac true aj (xI .neq ai (AD 0)) fun al am=>
 g1 p false am (Bi ac al (BB false)) fun ao ap=>
 Bi p (BB true) ao fun aq=>
 AX aq (
 QR (BB false) ap) (
 eU R n0 ro rt a ap QR)):eV R n0 ro rt t0 s QR:=
 pC kW cF h (by kernel_rfl)
theorem AEQ (h :
 xF R s t1 0 fun b=>
 xI .eql b (AD 0) fun c=>
 AX c (
 KS R n0 ro rt t1 b c s QR) (
 xI .eql b (AD 1) fun d=>
 KS R n0 ro rt t1 b d s QR)):eU R n0 ro rt t1 s QR:=
 pC kW cF h (by kernel_rfl)
theorem Nx (h :
 AX t23 (
 xF R s t1 3 fun b=>
 Bz s b fun c=>
 xI .eql c (AD 0) fun d=>
 QR d s) (
 xI .eql t22 (AD 2) fun e=>
 AX e (
 xF R s t1 1 fun g=>
 xC R 116 n0 ro rt 138 [g] s fun i j=>
 g1 i true j (xL R j (.De 2 0)) fun l m=>
 g1 i true m (Bo m t1 1) fun o p=>
 g1 i true p (xL R p o) fun u v=>
 KX i true v (xC R 116 n0 ro rt 139 [l,u] v) fun y z=>
 g1 i true z (Fj y) fun ab ac=>
 Bi i ab (BB false) fun ad=>
 g1 ad true ac (Bo ac t1 3) fun af ag=>
 g1 ad true ag (xL R ag af) fun ai aj=>
 g1 ad true aj (Bz aj ai) fun al am=>
 g1 ad true am (xI .leq al (AD 6)) fun ao ap=>
 Bi ad ao (BB false) fun aq=>
 g1 aq true ap (xM R ap 4 t1) fun au av=>
 KX aq true av (xC R 116 n0 ro rt 140 [au] av) fun ay az=>
 Bi aq ay (BB false) fun a0=>
 QR a0 az) (
 xI .eql t22 (AD 3) fun a1=>
 AX a1 (
 xF R s t1 3 fun a3=>
 Bz s a3 fun a4=>
 xI .leq a4 (AD 6) fun a5=>
 QR a5 s) (
 xI .eql t22 (AD 4) fun a6=>
 AX a6 (
 xF R s t1 3 fun a8=>
 Bz s a8 fun a9=>
 xI .geq a9 (AD 2) fun ba=>
 QR ba s) (
 xI .eql t22 (AD 5) fun bb=>
 AX bb (
 xF R s t1 3 fun bd=>
 Bz s bd fun be=>
 xI .eql be (AD 0) fun bf=>
 g1 bf true s (Bo s t1 2) fun bh bi=>
 g1 bf true bi (xL R bi bh) fun bk bl=>
 g1 bf true bl (xI .geq bk (AD 0)) fun bn bo=>
 Bi bf bn (BB false) fun bp=>
 g1 bp true bo (Bo bo t1 2) fun br bs=>
 g1 bp true bs (xL R bs br) fun bu bv=>
 g1 bp true bv (xI .leq bu (AD 200)) fun bx bz=>
 Bi bp bx (BB false) fun b0=>
 QR b0 bz) (
 xI .eql t22 (AD 6) fun b1=>
 AX b1 (
 xF R s t1 3 fun b3=>
 Bz s b3 fun b4=>
 xI .eql b4 (AD 2) fun b5=>
 g1 b5 true s (Bo s t1 3) fun b7 b8=>
 g1 b5 true b8 (xL R b8 b7) fun ca cb=>
 g1 b5 true cb (Dc cb 4 ca (AD 0)) fun cd ce=>
 g1 b5 true ce (xM R ce 4 cd) fun cg ch=>
 KX b5 true ch (xC R 116 n0 ro rt 141 [cg,(AD 0)] ch) fun ck cl=>
 Bi b5 ck (BB false) fun cm=>
 QR cm cl) (
 tF R n0 ro rt  s QR))))))):KS R n0 ro rt t1 t22 t23 s QR:=
 pC kW cF h (by kernel_rfl)
theorem AEP (h :
 QR (BB false) s):tF R n0 ro rt  s QR:=
 pC kW cF h (by kernel_rfl)
theorem AON {u0:AV} {Post:AV->Prop} (Bu:AN [] 0 0 [t0]=some [u0]) (h:eV R 0 0 0 u0 ⟨[],[]⟩ (QP Post)):AW (env R) 116 [t0] Post:=
 hR Tryz.func116 (by kernel_rfl) Bu h
theorem AES (h :
 Cx s t0 fun a b=>
 xM R b 4 a fun c=>
 xC R 117 n0 ro rt 86 [c] b fun d e=>
 Fj d fun f=>
 QR f e):tG R n0 ro rt t0 s QR:=
 pC ALe cF h (by kernel_rfl)
theorem AOO {Post:AV->Prop} (hn:BN [t0]=true) (h:tG R 0 0 0 t0 ⟨[],[]⟩ (QP Post)):AW (env R) 117 [t0] Post:=
 Ij (fn:=Tryz.f117) (body:=ALd) Tryz.func117 (by kernel_rfl) (by kernel_rfl) (by kernel_rfl) (Cm (by kernel_rfl)) hn (nZ h (by kernel_rfl))
theorem AIJ (h :
 Cx s t0 fun a b=>
 xM R b 4 a fun c=>
 xC R 86 n0 ro rt 116 [c] b fun d e=>
 g1 d true e (Bo e a 3) fun g i=>
 g1 d true i (xL R i g) fun k l=>
 KX d true l (xC R 86 n0 ro rt 94 [k,(.func (.func 117) [] [])] l) fun o p=>
 g1 d true p (Fj o) fun u v=>
 Bi d u (BB false) fun w=>
 QR w v):ABk R n0 ro rt t0 s QR:=
 pC AQV cF h (by kernel_rfl)
theorem e86 {u0:AV} {Post:AV->Prop} (Bu:AN [] 0 0 [t0]=some [u0]) (h:ABk R 0 0 0 u0 ⟨[],[]⟩ (QP Post)):AW (env R) 86 [t0] Post:=
 hR Tryz.func86 (by kernel_rfl) Bu h
theorem AAt (h :
 Cx s t0 fun a b=>
 xM R b 4 a fun c=>
 xC R 42 n0 ro rt 84 [c] b fun d e=>
 xI .gtr d (AD 200) fun f=>
 g1 f false e (xM R e 4 a) fun i j=>
 KX f false j (xC R 42 n0 ro rt 85 [i] j) fun m n=>
 g1 f false n (xI .gtr m (AD 12)) fun p q=>
 Bi f (BB true) p fun u=>
 AX u (
 QR (AD 4) q) (
 xM R q 4 a fun v=>
 xC R 42 n0 ro rt 86 [v] q fun w x=>
 Fj w fun y=>
 AX y (
 QR (AD 2) x) (
 qZ R n0 ro rt  x QR))):ABl R n0 ro rt t0 s QR:=
 pC ALf cF h (by kernel_rfl)
theorem AIU (h :
 QR (AD 0) s):qZ R n0 ro rt  s QR:=
 pC ALf cF h (by kernel_rfl)
theorem e42 {u0:AV} {Post:AV->Prop} (Bu:AN [] 0 0 [t0]=some [u0]) (h:ABl R 0 0 0 u0 ⟨[],[]⟩ (QP Post)):AW (env R) 42 [t0] Post:=
 hR Tryz.func42 (by kernel_rfl) Bu h
theorem qB (h :
 xC R 94 n0 ro rt 125 [t0,t1] s fun a b=>
 xI .geq a (AD 0) fun c=>
 QR c b):tH R n0 ro rt t0 t1 s QR:=
 pC AQW cF h (by kernel_rfl)
theorem e94 {Post:AV->Prop} (hn:BN [t0,t1]=true) (h:tH R 0 0 0 t0 t1 ⟨[],[]⟩ (QP Post)):AW (env R) 94 [t0,t1] Post:=
 Ij (fn:=Tryz.f94) (body:=b94) Tryz.func94 (by kernel_rfl) (by kernel_rfl) (by kernel_rfl) (Cm (by kernel_rfl)) hn (nZ h (by kernel_rfl))
theorem m94 {L:A0} {Post:AV->AK->Prop} (hn:BN [t0,t1]=false) (h:tH R 0 L.ro L.rt t0 t1 s (QM (L.rr 94) s.bs.length Post)):∃ v s',Post v s'/\BC (env R) L 94 [t0,t1] s v s':=
 hM Tryz.func94 (by kernel_rfl) hn h
theorem eK (h :
 Bz s t0 fun a=>
 P7 R n0 ro rt t0 t1 a (AD 0) s QR):fy R n0 ro rt t0 t1 s QR:=
 pC cI cF h (by kernel_rfl)
theorem P8 (h :
 xI .lss t8 t7 fun a=>
 AX a (
 tJ R n0 ro rt t0 t1 t7 t8 a s QR) (
 tK R n0 ro rt  s QR)):P7 R n0 ro rt t0 t1 t7 t8 s QR:=
 pL cI cF h (by kernel_rfl)
theorem eI (h :
 Dc s 4 t0 t8 fun a=>
 xM R s 4 a fun b=>
 Fe (env R) (lf R 125 n0 ro rt) t1 [b] s fun c d=>
 AX c (
 QR t8 d) (
 tL R n0 ro rt t0 t1 t7 t8 d QR)):tJ R n0 ro rt t0 t1 t7 t8 t9 s QR:=
 pC cI cF h (by kernel_rfl)
theorem eH (h :
 QR (AD (-1)) s):tK R n0 ro rt  s QR:=
 pC cI cF h (by kernel_rfl)
theorem eJ (h :
 xI .add t8 (AD 1) fun a=>
 P7 R n0 ro rt t0 t1 t7 a s QR):tL R n0 ro rt t0 t1 t7 t8 s QR:=
 pC cI cF h (by kernel_rfl)
theorem AOA {Post:AV->Prop} (hn:BN [t0,t1]=true) (h:fy R 0 0 0 t0 t1 ⟨[],[]⟩ (QP Post)):AW (env R) 125 [t0,t1] Post:=
 Ij (fn:=Tryz.f125) (body:=UC) Tryz.func125 (by kernel_rfl) (by kernel_rfl) (by kernel_rfl) (Cm (by kernel_rfl)) hn (nZ h (by kernel_rfl))
theorem AId {L:A0} {Post:AV->AK->Prop} (hn:BN [t0,t1]=false) (h:fy R 0 L.ro L.rt t0 t1 s (QM (L.rr 125) s.bs.length Post)):∃ v s',Post v s'/\BC (env R) L 125 [t0,t1] s v s':=
 hM Tryz.func125 (by kernel_rfl) hn h
theorem AD7 (h :
 Cx s t0 fun a b=>
 xF R b a 3 fun d=>
 xC R 140 n0 ro rt 94 [d,(.func (.func 160) [] [])] b fun e f=>
 Fj e fun g=>
 QR g f):tM R n0 ro rt t0 s QR:=
 pC ALg cF h (by kernel_rfl)
theorem AOC {u0:AV} {Post:AV->Prop} (Bu:AN [] 0 0 [t0]=some [u0]) (h:tM R 0 0 0 u0 ⟨[],[]⟩ (QP Post)):AW (env R) 140 [t0] Post:=
 hR Tryz.func140 (by kernel_rfl) Bu h
theorem AD4 (h :
 Cx s t0 fun a b=>
 xF R b a 0 fun d=>
 xI .eql d (AD 5) fun e=>
 g1 e true b (Bo b a 2) fun g i=>
 g1 e true i (xL R i g) fun k l=>
 g0 e true l t1 fun m n=>
 g1 e true n (xI .geq k m) fun p q=>
 Bi e p (BB false) fun u=>
 AX u (
 QR (BB false) q) (
 eG R n0 ro rt t1 a q QR)):eF R n0 ro rt t0 t1 s QR:=
 pC Wi cF h (by kernel_rfl)
theorem AD5 (h :
 xF R s t2 3 fun b=>
 Bz s b fun c=>
 Xv R n0 ro rt t1 t2 b c (AD 0) s QR):eG R n0 ro rt t1 t2 s QR:=
 pC Wi cF h (by kernel_rfl)
theorem p9 (h :
 xI .lss t19 t18 fun a=>
 AX a (
 tN R n0 ro rt t1 t2 t17 t18 t19 a s QR) (
 tP R n0 ro rt  s QR)):Xv R n0 ro rt t1 t2 t17 t18 t19 s QR:=
 pL Wi cF h (by kernel_rfl)
theorem AD2 (h :
 Dc s 4 t17 t19 fun a=>
 xM R s 4 a fun b=>
 CX s Y4 fun c d=>
 C2 (lf R 141 n0 ro rt) d 4 c b fun e=>
 xM R e 4 c fun f=>
 xM R e 4 t2 fun g=>
 xC R 141 n0 ro rt 119 [g,t19] e fun i j=>
 xI .add t1 i fun k=>
 xC R 141 n0 ro rt 141 [f,k] j fun l m=>
 Fj l fun n=>
(xM R j 4 c fun o=>Cu o f=true) /\
 AX n (
 QR (BB false) m) (
 tQ R n0 ro rt t1 t2 t17 t18 t19 m QR)):tN R n0 ro rt t1 t2 t17 t18 t19 t20 s QR:=
 pC Wi cF h (by kernel_rfl)
theorem AD1 (h :
 QR (BB true) s):tP R n0 ro rt  s QR:=
 pC Wi cF h (by kernel_rfl)
theorem AD3 (h :
 xI .add t19 (AD 1) fun a=>
 Xv R n0 ro rt t1 t2 t17 t18 a s QR):tQ R n0 ro rt t1 t2 t17 t18 t19 s QR:=
 pC Wi cF h (by kernel_rfl)
theorem AN9 {u0 u1:AV} {Post:AV->Prop} (Bu:AN [] 0 0 [t0,t1]=some [u0,u1]) (h:eF R 0 0 0 u0 u1 ⟨[],[]⟩ (QP Post)):AW (env R) 141 [t0,t1] Post:=
 hR Tryz.func141 (by kernel_rfl) Bu h
theorem AD8 (h :
 Cx s t0 fun a b=>
 xM R b 4 a fun c=>
 xC R 160 n0 ro rt 161 [c] b fun d e=>
 Fj d fun f=>
 QR f e):tR R n0 ro rt t0 s QR:=
 pC ALi cF h (by kernel_rfl)
theorem AOD {Post:AV->Prop} (hn:BN [t0]=true) (h:tR R 0 0 0 t0 ⟨[],[]⟩ (QP Post)):AW (env R) 160 [t0] Post:=
 Ij (fn:=Tryz.f160) (body:=ALh) Tryz.func160 (by kernel_rfl) (by kernel_rfl) (by kernel_rfl) (Cm (by kernel_rfl)) hn (nZ h (by kernel_rfl))
theorem AD6 (h :
 Cx s t0 fun a b=>
 xF R b a 0 fun d=>
 xI .eql d (AD 5) fun e=>
 g1 e false b (xM R b 4 a) fun g i=>
 KX e false i (xC R 161 n0 ro rt 141 [g,(AD 0)] i) fun l m=>
 Bi e (BB true) l fun n=>
 g1 n false m (Bo m a 0) fun p q=>
 g1 n false q (xL R q p) fun v w=>
 g1 n false w (xI .eql v (AD 2)) fun y z=>
 g0 n false z y fun aa ab=>
 g1 aa true ab (xM R ab 4 a) fun ad ae=>
 KX aa true ae (xC R 161 n0 ro rt 140 [ad] ae) fun ah ai=>
 g1 n false ai (Bi aa ah (BB false)) fun ak al=>
 Bi n (BB true) ak fun am=>
 QR am al):tS R n0 ro rt t0 s QR:=
 pC ALj cF h (by kernel_rfl)
theorem AOB {u0:AV} {Post:AV->Prop} (Bu:AN [] 0 0 [t0]=some [u0]) (h:tS R 0 0 0 u0 ⟨[],[]⟩ (QP Post)):AW (env R) 161 [t0] Post:=
 hR Tryz.func161 (by kernel_rfl) Bu h
theorem AD0 (h :
 Cx s t0 fun a b=>
 xF R b a 0 fun d=>
 xI .eql d (AD 6) fun e=>
 g0 e true b t1 fun f g=>
 g1 e true g (xI .eql f (AD 1)) fun j k=>
 Bi e j (BB false) fun l=>
 AX l (
 QR (AD 1) k) (
 tU R n0 ro rt  k QR)):tT R n0 ro rt t0 t1 s QR:=
 pC ABm cF h (by kernel_rfl)
theorem pz (h :
 QR (AD 0) s):tU R n0 ro rt  s QR:=
 pC ABm cF h (by kernel_rfl)
theorem AN8 {u0 u1:AV} {Post:AV->Prop} (Bu:AN [] 0 0 [t0,t1]=some [u0,u1]) (h:tT R 0 0 0 u0 u1 ⟨[],[]⟩ (QP Post)):AW (env R) 119 [t0,t1] Post:=
 hR Tryz.func119 (by kernel_rfl) Bu h
theorem AEH (h :
 Hv .neq t0 (SS []) fun a=>
 g0 a true s t0 fun b c=>
 g1 a true c (Ib b) fun e f=>
 g1 a true f (xI .leq e (AD 24)) fun i j=>
 Bi a i (BB false) fun k=>
 g0 k true j t0 fun l m=>
 g1 k true m (Sx l (AD 0)) fun o p=>
 KX k true p (xC R 138 n0 ro rt 155 [o] p) fun v w=>
 Bi k v (BB false) fun x=>
 g0 x true w t0 fun y z=>
 KX x true z (xC R 138 n0 ro rt 156 [y,(.func (.func 157) [] [])] z) fun ac ad=>
 Bi x ac (BB false) fun ae=>
 QR ae ad):tV R n0 ro rt t0 s QR:=
 pC ALm cF h (by kernel_rfl)
theorem AOJ {u0:AV} {Post:AV->Prop} (Bu:AN [] 0 0 [t0]=some [u0]) (h:tV R 0 0 0 u0 ⟨[],[]⟩ (QP Post)):AW (env R) 138 [t0] Post:=
 hR Tryz.func138 (by kernel_rfl) Bu h
theorem AEN (h :
 xC R 139 n0 ro rt 159 [t0,t1] s fun a b=>
 xI .geq a (AD 0) fun c=>
 QR c b):tW R n0 ro rt t0 t1 s QR:=
 pC ALn cF h (by kernel_rfl)
theorem AOL {u0 u1:AV} {Post:AV->Prop} (Bu:AN [] 0 0 [t0,t1]=some [u0,u1]) (h:tW R 0 0 0 u0 u1 ⟨[],[]⟩ (QP Post)):AW (env R) 139 [t0,t1] Post:=
 hR Tryz.func139 (by kernel_rfl) Bu h
theorem AEG (h :
 Xy R n0 ro rt t0 t1 (AD 0) s QR):tY R n0 ro rt t0 t1 s QR:=
 pC cJ cF h (by kernel_rfl)
theorem qC (h :
 Ib t0 fun a=>
 xI .lss t5 a fun b=>
 AX b (
 tZ R n0 ro rt t0 t1 t5 s QR) (
 td R n0 ro rt  s QR)):Xy R n0 ro rt t0 t1 t5 s QR:=
 pL cJ cF h (by kernel_rfl)
theorem AEE (h :
 Sx t0 t5 fun a=>
 Fe (env R) (lf R 156 n0 ro rt) t1 [a] s fun b c=>
 Fj b fun d=>
 AX d (
 QR (BB false) c) (
 th R n0 ro rt t0 t1 t5 c QR)):tZ R n0 ro rt t0 t1 t5 s QR:=
 pC cJ cF h (by kernel_rfl)
theorem AED (h :
 QR (BB true) s):td R n0 ro rt  s QR:=
 pC cJ cF h (by kernel_rfl)
theorem AEF (h :
 xI .add t5 (AD 1) fun a=>
 Xy R n0 ro rt t0 t1 a s QR):th R n0 ro rt t0 t1 t5 s QR:=
 pC cJ cF h (by kernel_rfl)
theorem AOI {u0 u1:AV} {Post:AV->Prop} (Bu:AN [] 0 0 [t0,t1]=some [u0,u1]) (h:tY R 0 0 0 u0 u1 ⟨[],[]⟩ (QP Post)):AW (env R) 156 [t0,t1] Post:=
 hR Tryz.func156 (by kernel_rfl) Bu h
theorem AEC (h :
 Dx .u8 .neq t0 (.pv (.sc (.int .u8 45))) fun a=>
 g0 a true s t0 fun b c=>
 KX a true c (xC R 157 n0 ro rt 158 [b] c) fun f g=>
 Bi a f (BB false) fun i=>
 QR i g):tj R n0 ro rt t0 s QR:=
 pC ALp cF h (by kernel_rfl)
theorem AOH {Post:AV->Prop} (hn:BN [t0]=true) (h:tj R 0 0 0 t0 ⟨[],[]⟩ (QP Post)):AW (env R) 157 [t0] Post:=
 Ij (fn:=Tryz.f157) (body:=ALo) Tryz.func157 (by kernel_rfl) (by kernel_rfl) (by kernel_rfl) (Cm (by kernel_rfl)) hn (nZ h (by kernel_rfl))
theorem AEB (h :
 xC R 158 n0 ro rt 155 [t0] s fun a b=>
 g0 a false b t0 fun c d=>
 KX a false d (xC R 158 n0 ro rt 173 [c] d) fun g i=>
 Bi a (BB true) g fun j=>
 g0 j false i t0 fun k l=>
 g1 j false l (Dx .u8 .eql k (.pv (.sc (.int .u8 95)))) fun n o=>
 Bi j (BB true) n fun p=>
 g0 p false o t0 fun q u=>
 g1 p false u (Dx .u8 .eql q (.pv (.sc (.int .u8 45)))) fun w x=>
 Bi p (BB true) w fun y=>
 QR y x):tq R n0 ro rt t0 s QR:=
 pC ALq cF h (by kernel_rfl)
theorem AOG {u0:AV} {Post:AV->Prop} (Bu:AN [] 0 0 [t0]=some [u0]) (h:tq R 0 0 0 u0 ⟨[],[]⟩ (QP Post)):AW (env R) 158 [t0] Post:=
 hR Tryz.func158 (by kernel_rfl) Bu h
theorem AD9 (h :
 Dx .u8 .geq t0 (.pv (.sc (.int .u8 97))) fun a=>
 g0 a true s t0 fun b c=>
 g1 a true c (Dx .u8 .leq b (.pv (.sc (.int .u8 122)))) fun e f=>
 Bi a e (BB false) fun g=>
 g0 g false f t0 fun i j=>
 g1 g false j (Dx .u8 .geq i (.pv (.sc (.int .u8 65)))) fun l m=>
 g0 g false m l fun n o=>
 g0 n true o t0 fun p q=>
 g1 n true q (Dx .u8 .leq p (.pv (.sc (.int .u8 90)))) fun v w=>
 g1 g false w (Bi n v (BB false)) fun y z=>
 Bi g (BB true) y fun aa=>
 QR aa z):uA R n0 ro rt t0 s QR:=
 pC ALr cF h (by kernel_rfl)
theorem AOE {u0:AV} {Post:AV->Prop} (Bu:AN [] 0 0 [t0]=some [u0]) (h:uA R 0 0 0 u0 ⟨[],[]⟩ (QP Post)):AW (env R) 155 [t0] Post:=
 hR Tryz.func155 (by kernel_rfl) Bu h
theorem AEA (h :
 Dx .u8 .geq t0 (.pv (.sc (.int .u8 48))) fun a=>
 g0 a true s t0 fun b c=>
 g1 a true c (Dx .u8 .leq b (.pv (.sc (.int .u8 57)))) fun e f=>
 Bi a e (BB false) fun g=>
 QR g f):uB R n0 ro rt t0 s QR:=
 pC ALs cF h (by kernel_rfl)
theorem AOF {u0:AV} {Post:AV->Prop} (Bu:AN [] 0 0 [t0]=some [u0]) (h:uB R 0 0 0 u0 ⟨[],[]⟩ (QP Post)):AW (env R) 173 [t0] Post:=
 hR Tryz.func173 (by kernel_rfl) Bu h
theorem AEM (h :
 Bz s t0 fun a=>
 X0 R n0 ro rt t0 t1 a (AD 0) s QR):uD R n0 ro rt t0 t1 s QR:=
 pC cK cF h (by kernel_rfl)
theorem qD (h :
 xI .lss t8 t7 fun a=>
 AX a (
 uE R n0 ro rt t0 t1 t7 t8 a s QR) (
 uF R n0 ro rt  s QR)):X0 R n0 ro rt t0 t1 t7 t8 s QR:=
 pL cK cF h (by kernel_rfl)
theorem AEK (h :
 Dc s 1 t0 t8 fun a=>
 xL R s a fun b=>
 Hv .eql t1 b fun c=>
 AX c (
 QR t8 s) (
 uG R n0 ro rt t0 t1 t7 t8 s QR)):uE R n0 ro rt t0 t1 t7 t8 t9 s QR:=
 pC cK cF h (by kernel_rfl)
theorem AEJ (h :
 QR (AD (-1)) s):uF R n0 ro rt  s QR:=
 pC cK cF h (by kernel_rfl)
theorem AEL (h :
 xI .add t8 (AD 1) fun a=>
 X0 R n0 ro rt t0 t1 t7 a s QR):uG R n0 ro rt t0 t1 t7 t8 s QR:=
 pC cK cF h (by kernel_rfl)
theorem AOK {u0 u1:AV} {Post:AV->Prop} (Bu:AN [] 0 0 [t0,t1]=some [u0,u1]) (h:uD R 0 0 0 u0 u1 ⟨[],[]⟩ (QP Post)):AW (env R) 159 [t0,t1] Post:=
 hR Tryz.func159 (by kernel_rfl) Bu h
end
noncomputable section
section
variable (R:RT) (n0 ro rt:Nat)
end
variable {R:RT} {n0 ro rt:Nat} {s:AK} {QR:QT}
end
noncomputable section
section
variable (R:RT) (n0 ro rt:Nat) (t0 t1 t2 t3 t5 t6 t7 t8 t9:AV)
noncomputable def b35:Code:=Tryz.f35.body.getD .skip
def AQn:Nat->List Nat:=ln [[],[2,3]]
abbrev Q35:=Wq R n0 ro rt 35 9 [.tmp 4]
def ABn:=Q35 R n0 ro rt (sub b35 []) [] [(0,t0),(1,t1)]
noncomputable def uH:Code:=Tryz.f79.body.getD .skip
def mZ:Nat->List Nat:=ln ([]::[2,3]::[2,3,7]::[]::[2,3,19]::[]::[2,3,31]::[]::[2,3,43]::[2,3]::rp 3 [2,3,5] [[2,3,5,6],[2,3,5,6,78],[]])
abbrev Q79:=Wq R n0 ro rt 79 80 [.tmp 4]
def qb:=Q79 R n0 ro rt (sub uH []) [] [(0,t0),(1,t1)]
def ABo:=Q79 R n0 ro rt (sn uH 7) [] [(2,t2),(3,t3)]
def jL:=Q79 R n0 ro rt (.loop (sn uH 116)) [.blk 1,.seq (sn uH 15)] [(2,t2),(3,t3),(5,t5)]
def ABp:=Q79 R n0 ro rt (sn uH 233) [.loop (sn uH 116),.blk 1,.seq (sn uH 15)] [(2,t2),(3,t3),(5,t5)]
def ABq:=Q79 R n0 ro rt (sn uH 15) [] []
def ABr:=Q79 R n0 ro rt (sn uH 467) [.loop (sn uH 116),.blk 1,.seq (sn uH 15)] [(2,t2),(3,t3),(5,t5)]
noncomputable def ALt:Code:=Tryz.f113.body.getD .skip
def ABs:Nat->List Nat:=ln [[],[0],[3],[]]
abbrev ALu:=Wq R n0 ro rt 113 4 [.tmp 2]
def uI:=ALu R n0 ro rt (sub ALt []) [] [(0,t0)]
def uJ:=ALu R n0 ro rt (sn ALt 7) [] []
noncomputable def b63:Code:=Tryz.f63.body.getD .skip
def AQo:Nat->List Nat:=ln [[],[2,3]]
abbrev Q63:=Wq R n0 ro rt 63 9 [.tmp 4]
def ABt:=Q63 R n0 ro rt (sub b63 []) [] [(0,t0),(1,t1)]
noncomputable def U8:Code:=Tryz.f104.body.getD .skip
def cL:Nat->List Nat:=ln [[],[2,3],[2,3,5],[2,3,5,6],[2,3,5,6],[2,3,6],[5]]
abbrev uK:=Wq R n0 ro rt 104 54 [.tmp 4]
def fT:=uK R n0 ro rt (sub U8 []) [] [(0,t0),(1,t1)]
def Ts:=uK R n0 ro rt (.loop (sn U8 116)) [.blk 0,.seq (sn U8 15)] [(2,t2),(3,t3),(5,t5),(6,t6)]
def uL:=uK R n0 ro rt (sn U8 233) [.loop (sn U8 116),.blk 0,.seq (sn U8 15)] [(2,t2),(3,t3),(6,t6)]
def uM:=uK R n0 ro rt (sn U8 15) [] [(5,t5)]
def uN:=uK R n0 ro rt (sn U8 467) [.loop (sn U8 116),.blk 0,.seq (sn U8 15)] [(2,t2),(3,t3),(5,t5),(6,t6)]
noncomputable def U9:Code:=Tryz.f131.body.getD .skip
def cM:Nat->List Nat:=ln [[],[0],[0,3],[3,6,7,8],[3,6,7,8,9],[3,5,6,7,8],[3,5,6,7,8,14],[3,6,7,8],[3]]
abbrev uO:=Wq R n0 ro rt 131 18 [.tmp 2]
def uP:=uO R n0 ro rt (sub U9 []) [] [(0,t0)]
def Yi:=uO R n0 ro rt (.loop (sn U9 116)) [.blk 0,.seq (sn U9 15)] [(3,t3),(6,t6),(7,t7),(8,t8)]
def uQ:=uO R n0 ro rt (sn U9 467) [.loop (sn U9 116),.blk 0,.seq (sn U9 15)] [(3,t3),(6,t6),(7,t7),(8,t8),(9,t9)]
def uR:=uO R n0 ro rt (sn U9 15) [] [(3,t3)]
def uS:=uO R n0 ro rt (sn U9 935) [.loop (sn U9 116),.blk 0,.seq (sn U9 15)] [(3,t3),(6,t6),(7,t7),(8,t8)]
noncomputable def gB:Code:=Tryz.f132.body.getD .skip
def cN:Nat->List Nat:=ln [[],[0,1],[0,1,5],[0,1,5,6],[0,1,6,11],[12],[],[0,1,6],[0,1,13],[0,1],[0,1,16],[0,1],[19],[]]
abbrev mb:=Wq R n0 ro rt 132 20 [.tmp 4]
def uT:=mb R n0 ro rt (sub gB []) [] [(0,t0),(1,t1)]
def AGW:=mb R n0 ro rt (sn gB 245) [.seq (sn gB 31)] []
def uU:=mb R n0 ro rt (sn gB 31) [] [(0,t0),(1,t1),(6,t6)]
def uV:=mb R n0 ro rt (sn gB 63) [] [(0,t0),(1,t1)]
def uW:=mb R n0 ro rt (sn gB 127) [] [(0,t0),(1,t1)]
def uX:=mb R n0 ro rt (sn gB 255) [] []
noncomputable def gD:Code:=Tryz.f133.body.getD .skip
def cO:Nat->List Nat:=ln [[],[0,1],[0,1,5],[0,1,5,6],[0,1,6,11],[12],[],[0,1,6],[0,1,13],[0,1],[0,1,16],[0,1],[19],[]]
abbrev mg:=Wq R n0 ro rt 133 20 [.tmp 4]
def uY:=mg R n0 ro rt (sub gD []) [] [(0,t0),(1,t1)]
def AGX:=mg R n0 ro rt (sn gD 245) [.seq (sn gD 31)] []
def uZ:=mg R n0 ro rt (sn gD 31) [] [(0,t0),(1,t1),(6,t6)]
def ua:=mg R n0 ro rt (sn gD 63) [] [(0,t0),(1,t1)]
def ud:=mg R n0 ro rt (sn gD 127) [] [(0,t0),(1,t1)]
def ue:=mg R n0 ro rt (sn gD 255) [] []
noncomputable def uf:Code:=Tryz.f17.body.getD .skip
def mh:Nat->List Nat:=ln ([]::[0,1]::[0,1,10]::[0,1]::rp 3 [0,1,5] [[0,1,5,26],[]])
abbrev Q17:=Wq R n0 ro rt 17 27 [.tmp 4]
def kH:=Q17 R n0 ro rt (sub uf []) [] [(0,t0),(1,t1)]
def ABu:=Q17 R n0 ro rt (sn uf 7) [] [(0,t0),(1,t1)]
def kF:=Q17 R n0 ro rt (.loop (sn uf 116)) [.blk 0,.seq (sn uf 15)] [(0,t0),(1,t1),(5,t5)]
def ABv:=Q17 R n0 ro rt (sn uf 233) [.loop (sn uf 116),.blk 0,.seq (sn uf 15)] [(0,t0),(1,t1),(5,t5)]
def ABw:=Q17 R n0 ro rt (sn uf 15) [] []
def ABx:=Q17 R n0 ro rt (sn uf 467) [.loop (sn uf 116),.blk 0,.seq (sn uf 15)] [(0,t0),(1,t1),(5,t5)]
noncomputable def b32:Code:=Tryz.f32.body.getD .skip
def AQp:Nat->List Nat:=ln [[],[2,3]]
abbrev Q32:=Wq R n0 ro rt 32 17 [.tmp 4]
def sX:=Q32 R n0 ro rt (sub b32 []) [] [(0,t0),(1,t1)]
noncomputable def ug:Code:=Tryz.f75.body.getD .skip
def mj:Nat->List Nat:=ln ([]::[0,1]::[0,1,10]::[0,1]::rp 3 [0,1,5] [[0,1,5,26],[]])
abbrev Q75:=Wq R n0 ro rt 75 27 [.tmp 4]
def sV:=Q75 R n0 ro rt (sub ug []) [] [(0,t0),(1,t1)]
def ABy:=Q75 R n0 ro rt (sn ug 7) [] [(0,t0),(1,t1)]
def kD:=Q75 R n0 ro rt (.loop (sn ug 116)) [.blk 0,.seq (sn ug 15)] [(0,t0),(1,t1),(5,t5)]
def ABz:=Q75 R n0 ro rt (sn ug 233) [.loop (sn ug 116),.blk 0,.seq (sn ug 15)] [(0,t0),(1,t1),(5,t5)]
def AB0:=Q75 R n0 ro rt (sn ug 15) [] []
def AB1:=Q75 R n0 ro rt (sn ug 467) [.loop (sn ug 116),.blk 0,.seq (sn ug 15)] [(0,t0),(1,t1),(5,t5)]
end
variable {R:RT} {n0 ro rt:Nat} {s:AK} {QR:QT} {t0 t1 t2 t3 t5 t6 t7 t8 t9:AV}
theorem AIa (h :
 Cx s t0 fun a b=>
 Cx b t1 fun c d=>
 xM R d 4 a fun e=>
 xM R d 4 c fun f=>
 xC R 35 n0 ro rt 79 [e,f] d fun g i=>
 xI .eql g (AD 0) fun j=>
 QR j i):ABn R n0 ro rt t0 t1 s QR:=
 pC AQn cF h (by kernel_rfl)
theorem e35 {u0 u1:AV} {Post:AV->Prop} (Bu:AN [] 0 0 [t0,t1]=some [u0,u1]) (h:ABn R 0 0 0 u0 u1 ⟨[],[]⟩ (QP Post)):AW (env R) 35 [t0,t1] Post:=
 hR Tryz.func35 (by kernel_rfl) Bu h
theorem AIY (h :
 Cx s t0 fun a b=>
 Cx b t1 fun c d=>
 xF R d a 0 fun f=>
 xF R d c 0 fun i=>
 xI .neq f i fun j=>
 AX j (
 xF R d a 0 fun l=>
 xF R d c 0 fun n=>
 xI .lss l n fun o=>
 xC R 79 n0 ro rt 113 [o] d fun p q=>
 QR p q) (
 xF R d a 1 fun v=>
 xF R d c 1 fun x=>
 Hv .neq v x fun y=>
 AX y (
 xF R d a 1 fun aa=>
 xF R d c 1 fun ac=>
 Hv .lss aa ac fun ad=>
 xC R 79 n0 ro rt 113 [ad] d fun ae af=>
 QR ae af) (
 xF R d a 2 fun ah=>
 xF R d c 2 fun aj=>
 xI .neq ah aj fun ak=>
 AX ak (
 xF R d a 2 fun am=>
 xF R d c 2 fun ao=>
 xI .lss am ao fun ap=>
 xC R 79 n0 ro rt 113 [ap] d fun aq ar=>
 QR aq ar) (
 xF R d a 3 fun av=>
 Bz d av fun aw=>
 xF R d c 3 fun ay=>
 Bz d ay fun az=>
 xI .neq aw az fun a0=>
 AX a0 (
 xF R d a 3 fun a4=>
 Bz d a4 fun a5=>
 xF R d c 3 fun a7=>
 Bz d a7 fun ba=>
 xI .lss a5 ba fun bb=>
 xC R 79 n0 ro rt 113 [bb] d fun bc bd=>
 QR bc bd) (
 ABo R n0 ro rt a c d QR))))):qb R n0 ro rt t0 t1 s QR:=
 pC mZ cF h (by kernel_rfl)
theorem AIZ (h :
 jL R n0 ro rt t2 t3 (AD 0) s QR):ABo R n0 ro rt t2 t3 s QR:=
 pC mZ cF h (by kernel_rfl)
theorem AAu (h :
 xF R s t2 3 fun b=>
 Bz s b fun c=>
 xI .lss t5 c fun d=>
 AX d (
 ABp R n0 ro rt t2 t3 t5 s QR) (
 ABq R n0 ro rt  s QR)):jL R n0 ro rt t2 t3 t5 s QR:=
 pL mZ cF h (by kernel_rfl)
theorem AIW (h :
 xF R s t2 3 fun b=>
 Dc s 4 b t5 fun c=>
 xM R s 4 c fun d=>
 xF R s t3 3 fun f=>
 Dc s 4 f t5 fun g=>
 xM R s 4 g fun i=>
 xC R 79 n0 ro rt 79 [d,i] s fun j k=>
 xI .neq j (AD 0) fun l=>
 AX l (
 QR j k) (
 ABr R n0 ro rt t2 t3 t5 k QR)):ABp R n0 ro rt t2 t3 t5 s QR:=
 pC mZ cF h (by kernel_rfl)
theorem AIV (h :
 QR (AD 0) s):ABq R n0 ro rt  s QR:=
 pC mZ cF h (by kernel_rfl)
theorem AIX (h :
 xI .add t5 (AD 1) fun a=>
 jL R n0 ro rt t2 t3 a s QR):ABr R n0 ro rt t2 t3 t5 s QR:=
 pC mZ cF h (by kernel_rfl)
theorem e79 {u0 u1:AV} {Post:AV->Prop} (Bu:AN [] 0 0 [t0,t1]=some [u0,u1]) (h:qb R 0 0 0 u0 u1 ⟨[],[]⟩ (QP Post)):AW (env R) 79 [t0,t1] Post:=
 hR Tryz.func79 (by kernel_rfl) Bu h
theorem AEc (h :
 AX t0 (
 QR (AD (-1)) s) (
 uJ R n0 ro rt  s QR)):uI R n0 ro rt t0 s QR:=
 pC ABs cF h (by kernel_rfl)
theorem AEd (h :
 QR (AD 1) s):uJ R n0 ro rt  s QR:=
 pC ABs cF h (by kernel_rfl)
theorem AOd {u0:AV} {Post:AV->Prop} (Bu:AN [] 0 0 [t0]=some [u0]) (h:uI R 0 0 0 u0 ⟨[],[]⟩ (QP Post)):AW (env R) 113 [t0] Post:=
 hR Tryz.func113 (by kernel_rfl) Bu h
theorem AJr (h :
 Cx s t0 fun a b=>
 Cx b t1 fun c d=>
 xM R d 4 a fun e=>
 xM R d 4 c fun f=>
 xC R 63 n0 ro rt 104 [e,f] d fun g i=>
 xI .eql g (AD 0) fun j=>
 QR j i):ABt R n0 ro rt t0 t1 s QR:=
 pC AQo cF h (by kernel_rfl)
theorem e63 {u0 u1:AV} {Post:AV->Prop} (Bu:AN [] 0 0 [t0,t1]=some [u0,u1]) (h:ABt R 0 0 0 u0 u1 ⟨[],[]⟩ (QP Post)):AW (env R) 63 [t0,t1] Post:=
 hR Tryz.func63 (by kernel_rfl) Bu h
theorem AF9 (h :
 Cx s t0 fun a b=>
 Cx b t1 fun c d=>
 xF R d a 0 fun f=>
 xF R d c 0 fun i=>
 xC R 104 n0 ro rt 132 [f,i] d fun j k=>
 Bo k a 1 fun l=>
 xL R k l fun m=>
 Bo k c 1 fun n=>
 xL R k n fun o=>
 xC R 104 n0 ro rt 133 [m,o] k fun p q=>
 Bo q a 2 fun u=>
 xL R q u fun w=>
 Bo q c 2 fun x=>
 xL R q x fun y=>
 xC R 104 n0 ro rt 132 [w,y] q fun z aa=>
 Bo aa a 3 fun ab=>
 xL R aa ab fun ac=>
 Bz aa ac fun ad=>
 Bo aa c 3 fun ae=>
 xL R aa ae fun af=>
 Bz aa af fun ag=>
 xC R 104 n0 ro rt 132 [ad,ag] aa fun ah ai=>
 D4 false ai 1 [(AD 0)] 4 [(0,1,j),(1,1,p),(2,1,z),(3,1,ah)] fun aj ak=>
 xC R 104 n0 ro rt 131 [aj] ai fun al am=>
(Bo d a 1 fun an=>Cu an l=true) /\
(xL R d l fun ao=>Cu ao m=true) /\
(Bo d c 1 fun ap=>Cu ap n=true) /\
(xL R d n fun aq=>Cu aq o=true) /\
(Bo d a 2 fun ar=>Cu ar u=true) /\
(Bo k a 2 fun au=>Cu au u=true) /\
(xL R d u fun av=>Cu av w=true) /\
(xL R k u fun aw=>Cu aw w=true) /\
(Bo d c 2 fun ax=>Cu ax x=true) /\
(Bo k c 2 fun ay=>Cu ay x=true) /\
(xL R d x fun az=>Cu az y=true) /\
(xL R k x fun a0=>Cu a0 y=true) /\
(Bo d a 3 fun a1=>Cu a1 ab=true) /\
(Bo k a 3 fun a4=>Cu a4 ab=true) /\
(Bo q a 3 fun a5=>Cu a5 ab=true) /\
(xL R d ab fun a6=>Cu a6 ac=true) /\
(xL R k ab fun ba=>Cu ba ac=true) /\
(xL R q ab fun bb=>Cu bb ac=true) /\
(Bz d ac fun bc=>Cu bc ad=true) /\
(Bz k ac fun bd=>Cu bd ad=true) /\
(Bz q ac fun be=>Cu be ad=true) /\
(Bo d c 3 fun bf=>Cu bf ae=true) /\
(Bo k c 3 fun bg=>Cu bg ae=true) /\
(Bo q c 3 fun bh=>Cu bh ae=true) /\
(xL R d ae fun bi=>Cu bi af=true) /\
(xL R k ae fun bj=>Cu bj af=true) /\
(xL R q ae fun bk=>Cu bk af=true) /\
(Bz d af fun bl=>Cu bl ag=true) /\
(Bz k af fun bm=>Cu bm ag=true) /\
(Bz q af fun bn=>Cu bn ag=true) /\
 Ts R n0 ro rt a c al (AD 0) am QR):fT R n0 ro rt t0 t1 s QR:=
 pC cL cF h (by kernel_rfl)
theorem Yj (h :
 xI .eql t5 (AD 0) fun a=>
 g0 a true s t6 fun b c=>
 g1 a true c (Bo c t2 3) fun e f=>
 g1 a true f (xL R f e) fun i j=>
 g1 a true j (Bz j i) fun l m=>
 g1 a true m (xI .lss b l) fun o p=>
 Bi a o (BB false) fun q=>
 AX q (
 uL R n0 ro rt t2 t3 t6 p QR) (
 uM R n0 ro rt t5 p QR)):Ts R n0 ro rt t2 t3 t5 t6 s QR:=
 pL cL cF h (by kernel_rfl)
theorem AF7 (h :
 xF R s t2 3 fun b=>
 Dc s 4 b t6 fun c=>
 xM R s 4 c fun d=>
 xF R s t3 3 fun f=>
 Dc s 4 f t6 fun g=>
 xM R s 4 g fun i=>
 xC R 104 n0 ro rt 104 [d,i] s fun j k=>
 uN R n0 ro rt t2 t3 j t6 k QR):uL R n0 ro rt t2 t3 t6 s QR:=
 pC cL cF h (by kernel_rfl)
theorem fS (h :
 QR t5 s):uM R n0 ro rt t5 s QR:=
 pC cL cF h (by kernel_rfl)
theorem AF8 (h :
 xI .add t6 (AD 1) fun a=>
 Ts R n0 ro rt t2 t3 t5 a s QR):uN R n0 ro rt t2 t3 t5 t6 s QR:=
 pC cL cF h (by kernel_rfl)
theorem APS {u0 u1:AV} {Post:AV->Prop} (Bu:AN [] 0 0 [t0,t1]=some [u0,u1]) (h:fT R 0 0 0 u0 u1 ⟨[],[]⟩ (QP Post)):AW (env R) 104 [t0,t1] Post:=
 hR Tryz.func104 (by kernel_rfl) Bu h
theorem AF6 (h :
 Bz s t0 fun a=>
 Yi R n0 ro rt (AD 0) t0 a (AD 0) s QR):uP R n0 ro rt t0 s QR:=
 pC cM cF h (by kernel_rfl)
theorem sP (h :
 xI .lss t8 t7 fun a=>
 AX a (
 uQ R n0 ro rt t3 t6 t7 t8 a s QR) (
 uR R n0 ro rt t3 s QR)):Yi R n0 ro rt t3 t6 t7 t8 s QR:=
 pL cM cF h (by kernel_rfl)
theorem AF4 (h :
 Dc s 1 t6 t8 fun a=>
 xL R s a fun b=>
 xI .neq b t3 fun c=>
 AX c (
 QR b s) (
 uS R n0 ro rt t3 t6 t7 t8 s QR)):uQ R n0 ro rt t3 t6 t7 t8 t9 s QR:=
 pC cM cF h (by kernel_rfl)
theorem AF3 (h :
 QR t3 s):uR R n0 ro rt t3 s QR:=
 pC cM cF h (by kernel_rfl)
theorem AF5 (h :
 xI .add t8 (AD 1) fun a=>
 Yi R n0 ro rt t3 t6 t7 a s QR):uS R n0 ro rt t3 t6 t7 t8 s QR:=
 pC cM cF h (by kernel_rfl)
theorem APQ {u0:AV} {Post:AV->Prop} (Bu:AN [] 0 0 [t0]=some [u0]) (h:uP R 0 0 0 u0 ⟨[],[]⟩ (QP Post)):AW (env R) 131 [t0] Post:=
 hR Tryz.func131 (by kernel_rfl) Bu h
theorem AFt (h :
 xC R 132 n0 ro rt 152 [t0] s fun a b=>
 xC R 132 n0 ro rt 152 [t1] b fun c d=>
 AX a (
 AX c (
 QR (AD 0) d) (
 AGW R n0 ro rt  d QR)) (
 uU R n0 ro rt t0 t1 c d QR)):uT R n0 ro rt t0 t1 s QR:=
 pC cN cF h (by kernel_rfl)
theorem AFu (h :
 AX t6 (
 QR (AD 1) s) (
 uV R n0 ro rt t0 t1 s QR)):uU R n0 ro rt t0 t1 t6 s QR:=
 pC cN cF h (by kernel_rfl)
theorem AFv (h :
 xI .lss t0 t1 fun a=>
 AX a (
 QR (AD (-1)) s) (
 uW R n0 ro rt t0 t1 s QR)):uV R n0 ro rt t0 t1 s QR:=
 pC cN cF h (by kernel_rfl)
theorem AFw (h :
 xI .gtr t0 t1 fun a=>
 AX a (
 QR (AD 1) s) (
 uX R n0 ro rt  s QR)):uW R n0 ro rt t0 t1 s QR:=
 pC cN cF h (by kernel_rfl)
theorem AFx (h :
 QR (AD 0) s):uX R n0 ro rt  s QR:=
 pC cN cF h (by kernel_rfl)
theorem APO {u0 u1:AV} {Post:AV->Prop} (Bu:AN [] 0 0 [t0,t1]=some [u0,u1]) (h:uT R 0 0 0 u0 u1 ⟨[],[]⟩ (QP Post)):AW (env R) 132 [t0,t1] Post:=
 hR Tryz.func132 (by kernel_rfl) Bu h
theorem AFy (h :
 xC R 133 n0 ro rt 153 [t0] s fun a b=>
 xC R 133 n0 ro rt 153 [t1] b fun c d=>
 AX a (
 AX c (
 QR (AD 0) d) (
 AGX R n0 ro rt  d QR)) (
 uZ R n0 ro rt t0 t1 c d QR)):uY R n0 ro rt t0 t1 s QR:=
 pC cO cF h (by kernel_rfl)
theorem AFz (h :
 AX t6 (
 QR (AD 1) s) (
 ua R n0 ro rt t0 t1 s QR)):uZ R n0 ro rt t0 t1 t6 s QR:=
 pC cO cF h (by kernel_rfl)
theorem AF0 (h :
 Hv .lss t0 t1 fun a=>
 AX a (
 QR (AD (-1)) s) (
 ud R n0 ro rt t0 t1 s QR)):ua R n0 ro rt t0 t1 s QR:=
 pC cO cF h (by kernel_rfl)
theorem AF1 (h :
 Hv .gtr t0 t1 fun a=>
 AX a (
 QR (AD 1) s) (
 ue R n0 ro rt  s QR)):ud R n0 ro rt t0 t1 s QR:=
 pC cO cF h (by kernel_rfl)
theorem AF2 (h :
 QR (AD 0) s):ue R n0 ro rt  s QR:=
 pC cO cF h (by kernel_rfl)
theorem APP {u0 u1:AV} {Post:AV->Prop} (Bu:AN [] 0 0 [t0,t1]=some [u0,u1]) (h:uY R 0 0 0 u0 u1 ⟨[],[]⟩ (QP Post)):AW (env R) 133 [t0,t1] Post:=
 hR Tryz.func133 (by kernel_rfl) Bu h
theorem AKQ (h :
 Bz s t0 fun a=>
 Bz s t1 fun b=>
 xI .neq a b fun c=>
 AX c (
 QR (BB false) s) (
 ABu R n0 ro rt t0 t1 s QR)):kH R n0 ro rt t0 t1 s QR:=
 pC mh cF h (by kernel_rfl)
theorem AKR (h :
 kF R n0 ro rt t0 t1 (AD 0) s QR):ABu R n0 ro rt t0 t1 s QR:=
 pC mh cF h (by kernel_rfl)
theorem ABQ (h :
 Bz s t0 fun a=>
 xI .lss t5 a fun b=>
 AX b (
 ABv R n0 ro rt t0 t1 t5 s QR) (
 ABw R n0 ro rt  s QR)):kF R n0 ro rt t0 t1 t5 s QR:=
 pL mh cF h (by kernel_rfl)
theorem AKO (h :
 Dc s 5 t0 t5 fun a=>
 xM R s 5 a fun b=>
 Dc s 5 t1 t5 fun c=>
 xM R s 5 c fun d=>
 xC R 17 n0 ro rt 32 [b,d] s fun e f=>
 Fj e fun g=>
 AX g (
 QR (BB false) f) (
 ABx R n0 ro rt t0 t1 t5 f QR)):ABv R n0 ro rt t0 t1 t5 s QR:=
 pC mh cF h (by kernel_rfl)
theorem AKN (h :
 QR (BB true) s):ABw R n0 ro rt  s QR:=
 pC mh cF h (by kernel_rfl)
theorem AKP (h :
 xI .add t5 (AD 1) fun a=>
 kF R n0 ro rt t0 t1 a s QR):ABx R n0 ro rt t0 t1 t5 s QR:=
 pC mh cF h (by kernel_rfl)
theorem e17 {u0 u1:AV} {Post:AV->Prop} (Bu:AN [] 0 0 [t0,t1]=some [u0,u1]) (h:kH R 0 0 0 u0 u1 ⟨[],[]⟩ (QP Post)):AW (env R) 17 [t0,t1] Post:=
 hR Tryz.func17 (by kernel_rfl) Bu h
theorem i17 {Post:AV->Prop} (Bu:AN [] 0 0 [t0,t1]=none) (h:kH R s.bs.length s.bs.length s.ts.length t0 t1 s (QI s.bs.length s.ts.length Post)):∃ v,Post v/\∀ L,BC (env R) L 17 [t0,t1] s v s:=
 hI Tryz.func17 (by kernel_rfl) Bu h
theorem AKL (h :
 Cx s t0 fun a b=>
 Cx b t1 fun c d=>
 xF R d a 0 fun f=>
 xF R d c 0 fun i=>
 xC R 32 n0 ro rt 75 [f,i] d fun j k=>
 g1 j true k (Bo k a 1) fun m n=>
 g1 j true n (xM R n 4 m) fun p q=>
 g1 j true q (Bo q c 1) fun v w=>
 g1 j true w (xM R w 4 v) fun y z=>
 KX j true z (xC R 32 n0 ro rt 35 [p,y] z) fun ac ad=>
 Bi j ac (BB false) fun ae=>
 QR ae ad):sX R n0 ro rt t0 t1 s QR:=
 pC AQp cF h (by kernel_rfl)
theorem e32 {u0 u1:AV} {Post:AV->Prop} (Bu:AN [] 0 0 [t0,t1]=some [u0,u1]) (h:sX R 0 0 0 u0 u1 ⟨[],[]⟩ (QP Post)):AW (env R) 32 [t0,t1] Post:=
 hR Tryz.func32 (by kernel_rfl) Bu h
theorem AKJ (h :
 Bz s t0 fun a=>
 Bz s t1 fun b=>
 xI .neq a b fun c=>
 AX c (
 QR (BB false) s) (
 ABy R n0 ro rt t0 t1 s QR)):sV R n0 ro rt t0 t1 s QR:=
 pC mj cF h (by kernel_rfl)
theorem AKK (h :
 kD R n0 ro rt t0 t1 (AD 0) s QR):ABy R n0 ro rt t0 t1 s QR:=
 pC mj cF h (by kernel_rfl)
theorem ABP (h :
 Bz s t0 fun a=>
 xI .lss t5 a fun b=>
 AX b (
 ABz R n0 ro rt t0 t1 t5 s QR) (
 AB0 R n0 ro rt  s QR)):kD R n0 ro rt t0 t1 t5 s QR:=
 pL mj cF h (by kernel_rfl)
theorem AKH (h :
 Dc s 4 t0 t5 fun a=>
 xM R s 4 a fun b=>
 Dc s 4 t1 t5 fun c=>
 xM R s 4 c fun d=>
 xC R 75 n0 ro rt 35 [b,d] s fun e f=>
 Fj e fun g=>
 AX g (
 QR (BB false) f) (
 AB1 R n0 ro rt t0 t1 t5 f QR)):ABz R n0 ro rt t0 t1 t5 s QR:=
 pC mj cF h (by kernel_rfl)
theorem AKG (h :
 QR (BB true) s):AB0 R n0 ro rt  s QR:=
 pC mj cF h (by kernel_rfl)
theorem AKI (h :
 xI .add t5 (AD 1) fun a=>
 kD R n0 ro rt t0 t1 a s QR):AB1 R n0 ro rt t0 t1 t5 s QR:=
 pC mj cF h (by kernel_rfl)
theorem e75 {u0 u1:AV} {Post:AV->Prop} (Bu:AN [] 0 0 [t0,t1]=some [u0,u1]) (h:sV R 0 0 0 u0 u1 ⟨[],[]⟩ (QP Post)):AW (env R) 75 [t0,t1] Post:=
 hR Tryz.func75 (by kernel_rfl) Bu h
end
noncomputable section
section
variable (R:RT) (n0 ro rt:Nat) (t0 t1 t2 t3 t8 t9 t10 t11 t12 t13 t22 t23 t35 t49 t58 t75:AV)
noncomputable def b11:Code:=Tryz.f11.body.getD .skip
def AQq:Nat->List Nat:=ln [[],[0]]
abbrev Q11:=Wq R n0 ro rt 11 6 [.tmp 2]
def AB2:=Q11 R n0 ro rt (sub b11 []) [] [(0,t0)]
noncomputable def b13:Code:=Tryz.f13.body.getD .skip
def ALv:Nat->List Nat:=ln [[],[0,1],[0,1],[0,1,9],[0]]
abbrev Q13:=Wq R n0 ro rt 13 14 [.tmp 4]
def AB3:=Q13 R n0 ro rt (sub b13 []) [] [(0,t0),(1,t1)]
def uh:=Q13 R n0 ro rt (sn b13 15) [] [(0,t0)]
noncomputable def b19:Code:=Tryz.f19.body.getD .skip
def AQr:Nat->List Nat:=ln [[],[0,1,4]]
abbrev Q19:=Wq R n0 ro rt 19 8 [.cell 4 25]
def s8:=Q19 R n0 ro rt (sub b19 []) [] [(0,t0),(1,t1)]
noncomputable def b20:Code:=Tryz.f20.body.getD .skip
def AQs:Nat->List Nat:=ln [[],[0,2]]
abbrev Q20:=Wq R n0 ro rt 20 5 [.cell 2 25]
def AB4:=Q20 R n0 ro rt (sub b20 []) [] [(0,t0)]
noncomputable def b21:Code:=Tryz.f21.body.getD .skip
def AQt:Nat->List Nat:=ln [[],[0,2]]
abbrev Q21:=Wq R n0 ro rt 21 5 [.cell 2 25]
def AB5:=Q21 R n0 ro rt (sub b21 []) [] [(0,t0)]
noncomputable def b25:Code:=Tryz.f25.body.getD .skip
def AQu:Nat->List Nat:=ln [[],[0,2]]
abbrev Q25:=Wq R n0 ro rt 25 5 [.cell 2 25]
def AB6:=Q25 R n0 ro rt (sub b25 []) [] [(0,t0)]
noncomputable def b26:Code:=Tryz.f26.body.getD .skip
def AQv:Nat->List Nat:=ln [[],[0,1,4]]
abbrev Q26:=Wq R n0 ro rt 26 8 [.cell 4 25]
def AB7:=Q26 R n0 ro rt (sub b26 []) [] [(0,t0),(1,t1)]
noncomputable def b52:Code:=Tryz.f52.body.getD .skip
def AQw:Nat->List Nat:=ln [[],[2,3,4]]
abbrev Q52:=Wq R n0 ro rt 52 9 [.cell 4 25]
def AB8:=Q52 R n0 ro rt (sub b52 []) [] [(0,t0),(1,t1)]
noncomputable def b53:Code:=Tryz.f53.body.getD .skip
def AQx:Nat->List Nat:=ln [[],[0]]
abbrev Q53:=Wq R n0 ro rt 53 2 [.cell 0 25]
def AB9:=Q53 R n0 ro rt (sub b53 []) [] []
noncomputable def b80:Code:=Tryz.f80.body.getD .skip
def AQy:Nat->List Nat:=ln [[],[0]]
abbrev Q80:=Wq R n0 ro rt 80 2 [.cell 0 25]
def ACA:=Q80 R n0 ro rt (sub b80 []) [] []
noncomputable def OB:Code:=Tryz.f41.body.getD .skip
def OC:Nat->List Nat:=ln ([]::[0,1,2,3,8]::[0,1,2,3,8,9]::[0,1,2,3,8,9,21]::[0,1,2,3,8,9]::[0,1,2,3,8,22]::[0,1,2,3,8,22,23]::[0,1,2,3,8,22,23]::[]::[0,1,2,3,8,22,32]::[]::[0,1,2,3,8,22,35]::[0,1,2,3,8,22,35]::[0,1,2,3,8,39]::[0,1,2,3,8]::[]::rp 3 [0,1,2,3,8,22,49] ([]::[0,1,2,3,8,22,58]::[0,1,2,3,8,22,58]::[]::[0,1,2,3,8,22,75]::[0,1,2,3,8,22,75]::[0,1,2,3,8,10]::[0,1,2,3,8,10,11]::rp 3 [0,1,2,3,8,10,11,12] [[8,10],[],[0,1,2,3,8,98],[0,1,2,3,8,13],[0,1,2,3,8,13,103],[0,1,2,3,8,13],[0,8],[8,118],[8]]))
abbrev gG:=Wq R n0 ro rt 41 125 [.cell 8 25]
def s7:=gG R n0 ro rt (sub OB []) [] [(0,t0),(1,t1),(2,t2),(3,t3)]
def kP:=gG R n0 ro rt (sn OB 15) [] [(0,t0),(1,t1),(2,t2),(3,t3),(8,t8),(9,t9)]
def kT:=gG R n0 ro rt (sn OB 245) [.blk 0,.seq (sn OB 31)] [(0,t0),(1,t1),(2,t2),(3,t3),(8,t8),(22,t22),(23,t23)]
def kS:=gG R n0 ro rt (sn OB 3935) [.blk 0,.seq (sn OB 31)] [(0,t0),(1,t1),(2,t2),(3,t3),(8,t8),(22,t22),(35,t35)]
def ACB:=gG R n0 ro rt (sn OB 15741) [.blk 0,.seq (sn OB 31)] [(0,t0),(1,t1),(2,t2),(3,t3),(8,t8)]
def cG:=gG R n0 ro rt (sn OB 15743) [.blk 0,.seq (sn OB 31)] [(0,t0),(1,t1),(2,t2),(3,t3),(8,t8),(22,t22),(49,t49)]
def kR:=gG R n0 ro rt (sn OB 62975) [.blk 0,.seq (sn OB 31)] [(0,t0),(1,t1),(2,t2),(3,t3),(8,t8),(22,t22),(58,t58)]
def kQ:=gG R n0 ro rt (sn OB 251903) [.blk 0,.seq (sn OB 31)] [(0,t0),(1,t1),(2,t2),(3,t3),(8,t8),(22,t22),(75,t75)]
def kO:=gG R n0 ro rt (.loop (sn OB 32243636)) [.blk 1,.seq (sn OB 4030455),.blk 0,.seq (sn OB 31)] [(0,t0),(1,t1),(2,t2),(3,t3),(8,t8),(10,t10),(11,t11),(12,t12)]
def kN:=gG R n0 ro rt (sn OB 8060923) [.blk 0,.seq (sn OB 31)] [(0,t0),(1,t1),(2,t2),(3,t3),(8,t8),(13,t13)]
def fk:=gG R n0 ro rt (sn OB 31) [] [(0,t0),(8,t8)]
def uj:=gG R n0 ro rt (sn OB 64487273) [.loop (sn OB 32243636),.blk 1,.seq (sn OB 4030455),.blk 0,.seq (sn OB 31)] [(0,t0),(1,t1),(2,t2),(3,t3),(8,t8),(10,t10),(11,t11),(12,t12)]
def uk:=gG R n0 ro rt (sn OB 4030455) [.blk 0,.seq (sn OB 31)] [(8,t8),(10,t10)]
def um:=gG R n0 ro rt (sn OB 63) [] [(8,t8)]
def uo:=gG R n0 ro rt (sn OB 128974547) [.loop (sn OB 32243636),.blk 1,.seq (sn OB 4030455),.blk 0,.seq (sn OB 31)] [(0,t0),(1,t1),(2,t2),(3,t3),(8,t8),(10,t10),(11,t11),(12,t12)]
noncomputable def uq:Code:=Tryz.f83.body.getD .skip
def mo:Nat->List Nat:=ln ([]::[0,1,2,3,8]::[0,1,2,3,8,9]::[0,1,2,3,8,9,19]::[0,1,2,3,8,9]::[0,1,2,3,8,10]::[0,1,2,3,8,10,11]::rp 3 [0,1,2,3,8,10,11,12] [[8,11]])
abbrev Q83:=Wq R n0 ro rt 83 51 [.cell 8 25]
def su:=Q83 R n0 ro rt (sub uq []) [] [(0,t0),(1,t1),(2,t2),(3,t3)]
def ACC:=Q83 R n0 ro rt (sn uq 15) [] [(0,t0),(1,t1),(2,t2),(3,t3),(8,t8),(9,t9)]
def kL:=Q83 R n0 ro rt (.loop (sn uq 1012)) [.blk 0,.seq (sn uq 127)] [(0,t0),(1,t1),(2,t2),(3,t3),(8,t8),(10,t10),(11,t11),(12,t12)]
def ACD:=Q83 R n0 ro rt (sn uq 2025) [.loop (sn uq 1012),.blk 0,.seq (sn uq 127)] [(0,t0),(1,t1),(2,t2),(3,t3),(8,t8),(10,t10),(11,t11),(12,t12)]
def ACE:=Q83 R n0 ro rt (sn uq 127) [] [(8,t8),(11,t11)]
def ACF:=Q83 R n0 ro rt (sn uq 4051) [.loop (sn uq 1012),.blk 0,.seq (sn uq 127)] [(0,t0),(1,t1),(2,t2),(3,t3),(8,t8),(10,t10),(11,t11),(12,t12)]
noncomputable def ALw:Code:=Tryz.f115.body.getD .skip
def ACG:Nat->List Nat:=ln [[],[0,1,2,3,8],[0,1,2,3,8,9],[0,1,2,3,8,9,12],[],[0,1,2,3,8,9,23],[],[0,1,2,3,8,32],[0,1,2,8]]
abbrev ALx:=Wq R n0 ro rt 115 45 [.cell 8 25]
def fc:=ALx R n0 ro rt (sub ALw []) [] [(0,t0),(1,t1),(2,t2),(3,t3)]
def fe:=ALx R n0 ro rt (sn ALw 7) [] [(0,t0),(1,t1),(2,t2),(8,t8)]
noncomputable def b54:Code:=Tryz.f54.body.getD .skip
def ALy:Nat->List Nat:=ln [[],[0,1],[0,1,14],[0,1],[0,1]]
abbrev Q54:=Wq R n0 ro rt 54 35 [.tmp 4]
def sk:=Q54 R n0 ro rt (sub b54 []) [] [(0,t0),(1,t1)]
def ACH:=Q54 R n0 ro rt (sn b54 7) [] [(0,t0),(1,t1)]
end
variable {R:RT} {n0 ro rt:Nat} {s:AK} {QR:QT} {t0 t1 t2 t3 t8 t9 t10 t11 t12 t13 t22 t23 t35 t49 t58 t75:AV}
theorem AKY (h :
 Df [(.AA []),(AD 0)] [(0,1,t0)] fun a=>
 Cx s a fun b c=>
 QR b c):AB2 R n0 ro rt t0 s QR:=
 pC AQq cF h (by kernel_rfl)
theorem m11 {L:A0} {Post:AV->AK->Prop} (h:AB2 R L.n0 L.ro L.rt t0 s Post):∃ v s',Post v s'/\BC (env R) L 11 [t0] s v s':=
 hE Tryz.func11 (by kernel_rfl) h
theorem AKU (h :
 xI .rem t0 t1 fun a=>
 xI .lss a (AD 0) fun b=>
 AX b (
 xI .add a t1 fun c=>
 uh R n0 ro rt c s QR) (
 uh R n0 ro rt a s QR)):AB3 R n0 ro rt t0 t1 s QR:=
 pC ALv cF h (by kernel_rfl)
theorem ABR (h :
 QR t0 s):uh R n0 ro rt t0 s QR:=
 pC ALv cF h (by kernel_rfl)
theorem e13 {u0 u1:AV} {Post:AV->Prop} (Bu:AN [] 0 0 [t0,t1]=some [u0,u1]) (h:AB3 R 0 0 0 u0 u1 ⟨[],[]⟩ (QP Post)):AW (env R) 13 [t0,t1] Post:=
 hR Tryz.func13 (by kernel_rfl) Bu h
theorem AK0 (h :
 CX s Y4 fun a b=>
 xC R 19 n0 ro rt 41 [t0,t1,(AD 3),(AD 0)] b fun c d=>
 C2 (lf R 19 n0 ro rt) d 4 a c fun e=>
 xM R e 4 a fun f=>
 QR f e):s8 R n0 ro rt t0 t1 s QR:=
 pC AQr cF h (by kernel_rfl)
theorem m19 {L:A0} {Post:AV->AK->Prop} (hn:BN [t0,t1]=false) (h:s8 R 0 L.ro L.rt t0 t1 s (QM (L.rr 19) s.bs.length Post)):∃ v s',Post v s'/\BC (env R) L 19 [t0,t1] s v s':=
 hM Tryz.func19 (by kernel_rfl) hn h
theorem AKb (h :
 CX s Y4 fun a b=>
 Df Y4 [(0,1,(AD 4)),(3,1,t0)] fun c=>
 C2 (lf R 20 n0 ro rt) b 4 a c fun d=>
 xM R d 4 a fun e=>
 QR e d):AB4 R n0 ro rt t0 s QR:=
 pC AQs cF h (by kernel_rfl)
theorem e20 {u0:AV} {Post:AV->Prop} (Bu:AN [] 0 0 [t0]=some [u0]) (h:AB4 R 0 0 0 u0 ⟨[],[]⟩ (QP Post)):AW (env R) 20 [t0] Post:=
 hR Tryz.func20 (by kernel_rfl) Bu h
theorem AK2 (h :
 CX s Y4 fun a b=>
 Df Y4 [(0,1,(AD 3)),(3,1,t0)] fun c=>
 C2 (lf R 21 n0 ro rt) b 4 a c fun d=>
 xM R d 4 a fun e=>
 QR e d):AB5 R n0 ro rt t0 s QR:=
 pC AQt cF h (by kernel_rfl)
theorem e21 {u0:AV} {Post:AV->Prop} (Bu:AN [] 0 0 [t0]=some [u0]) (h:AB5 R 0 0 0 u0 ⟨[],[]⟩ (QP Post)):AW (env R) 21 [t0] Post:=
 hR Tryz.func21 (by kernel_rfl) Bu h
theorem AKB (h :
 CX s Y4 fun a b=>
 Df Y4 [(0,1,(AD 5)),(2,1,t0)] fun c=>
 C2 (lf R 25 n0 ro rt) b 4 a c fun d=>
 xM R d 4 a fun e=>
 QR e d):AB6 R n0 ro rt t0 s QR:=
 pC AQu cF h (by kernel_rfl)
theorem e25 {u0:AV} {Post:AV->Prop} (Bu:AN [] 0 0 [t0]=some [u0]) (h:AB6 R 0 0 0 u0 ⟨[],[]⟩ (QP Post)):AW (env R) 25 [t0] Post:=
 hR Tryz.func25 (by kernel_rfl) Bu h
theorem AKa (h :
 CX s Y4 fun a b=>
 Df Y4 [(0,1,(AD 2)),(1,1,t0),(3,1,t1)] fun c=>
 C2 (lf R 26 n0 ro rt) b 4 a c fun d=>
 xM R d 4 a fun e=>
 QR e d):AB7 R n0 ro rt t0 t1 s QR:=
 pC AQv cF h (by kernel_rfl)
theorem e26 {u0 u1:AV} {Post:AV->Prop} (Bu:AN [] 0 0 [t0,t1]=some [u0,u1]) (h:AB7 R 0 0 0 u0 u1 ⟨[],[]⟩ (QP Post)):AW (env R) 26 [t0,t1] Post:=
 hR Tryz.func26 (by kernel_rfl) Bu h
theorem AKo (h :
 Cx s t0 fun a b=>
 Cx b t1 fun c d=>
 CX d Y4 fun e f=>
 xM R f 4 a fun g=>
 xM R f 4 c fun i=>
 D4 false f 4 Y4 2 [(0,4,g),(4,4,i)] fun j k=>
 Df Y4 [(0,1,(AD 6)),(3,1,j)] fun l=>
 C2 (lf R 52 n0 ro rt) k 4 e l fun m=>
 xM R m 4 e fun n=>
 QR n m):AB8 R n0 ro rt t0 t1 s QR:=
 pC AQw cF h (by kernel_rfl)
theorem e52 {u0 u1:AV} {Post:AV->Prop} (Bu:AN [] 0 0 [t0,t1]=some [u0,u1]) (h:AB8 R 0 0 0 u0 u1 ⟨[],[]⟩ (QP Post)):AW (env R) 52 [t0,t1] Post:=
 hR Tryz.func52 (by kernel_rfl) Bu h
theorem AKm (h :
 CX s Y4 fun a b=>
 Df Y4 [] fun c=>
 C2 (lf R 53 n0 ro rt) b 4 a c fun d=>
 xM R d 4 a fun e=>
 QR e d):AB9 R n0 ro rt  s QR:=
 pC AQx cF h (by kernel_rfl)
theorem e53 {Post:AV->Prop} (Bu:AN [] 0 0 []=some []) (h:AB9 R 0 0 0  ⟨[],[]⟩ (QP Post)):AW (env R) 53 [] Post:=
 hR Tryz.func53 (by kernel_rfl) Bu h
theorem AKn (h :
 CX s Y4 fun a b=>
 Df Y4 [(0,1,(AD 1))] fun c=>
 C2 (lf R 80 n0 ro rt) b 4 a c fun d=>
 xM R d 4 a fun e=>
 QR e d):ACA R n0 ro rt  s QR:=
 pC AQy cF h (by kernel_rfl)
theorem e80 {Post:AV->Prop} (Bu:AN [] 0 0 []=some []) (h:ACA R 0 0 0  ⟨[],[]⟩ (QP Post)):AW (env R) 80 [] Post:=
 hR Tryz.func80 (by kernel_rfl) Bu h
theorem AKz (h :
 CX s Y4 fun a b=>
 xC R 41 n0 ro rt 54 [t0,(AD 14)] b fun c d=>
 xI .leq t2 (AD 0) fun e=>
 g0 e true d c fun f g=>
 g1 e true g (xI .gtr f (AD 5)) fun j k=>
 Bi e j (BB false) fun l=>
 AX l (
 kP R n0 ro rt t0 t1 t2 t3 a (AD 0) k QR) (
 kP R n0 ro rt t0 t1 t2 t3 a c k QR)):s7 R n0 ro rt t0 t1 t2 t3 s QR:=
 pC OC cF h (by kernel_rfl)
theorem AKy (h :
 xI .eql t9 (AD 0) fun a=>
 AX a (
 kT R n0 ro rt t0 t1 t2 t3 t8 t9 a s QR) (
 xI .eql t9 (AD 1) fun b=>
 kT R n0 ro rt t0 t1 t2 t3 t8 t9 b s QR)):kP R n0 ro rt t0 t1 t2 t3 t8 t9 s QR:=
 pC OC cF h (by kernel_rfl)
theorem AKx (h :
 AX t23 (
 xL R s (.De 1 0) fun a=>
 xC R 41 n0 ro rt 54 [t0,(AD 4)] s fun b c=>
 Dc c 1 a b fun d=>
 xL R c d fun e=>
 xC R 41 n0 ro rt 26 [e,(.AA [])] c fun f g=>
 C2 (lf R 41 n0 ro rt) g 4 t8 f fun i=>
(xL R c (.De 1 0) fun j=>Cu j a=true) /\
 xM R i 4 t8 fun k=>
 QR k i) (
 xI .eql t22 (AD 2) fun l=>
 AX l (
 xC R 41 n0 ro rt 53 [] s fun m n=>
 C2 (lf R 41 n0 ro rt) n 4 t8 m fun o=>
 xM R o 4 t8 fun p=>
 QR p o) (
 xI .eql t22 (AD 3) fun q=>
 AX q (
 kS R n0 ro rt t0 t1 t2 t3 t8 t22 q s QR) (
 xI .eql t22 (AD 4) fun u=>
 kS R n0 ro rt t0 t1 t2 t3 t8 t22 u s QR)))):kT R n0 ro rt t0 t1 t2 t3 t8 t22 t23 s QR:=
 pC OC cF h (by kernel_rfl)
theorem AKv (h :
 AX t35 (
 xI .gtr t3 (AD 0) fun a=>
 AX a (
 xC R 41 n0 ro rt 54 [t0,t3] s fun b c=>
 xC R 41 n0 ro rt 25 [b] c fun d e=>
 C2 (lf R 41 n0 ro rt) e 4 t8 d fun f=>
 xM R f 4 t8 fun g=>
 QR g f) (
 ACB R n0 ro rt t0 t1 t2 t3 t8 s QR)) (
 xI .eql t22 (AD 5) fun i=>
 AX i (
 cG R n0 ro rt t0 t1 t2 t3 t8 t22 i s QR) (
 xI .eql t22 (AD 6) fun j=>
 AX j (
 cG R n0 ro rt t0 t1 t2 t3 t8 t22 j s QR) (
 xI .eql t22 (AD 7) fun k=>
 cG R n0 ro rt t0 t1 t2 t3 t8 t22 k s QR)))):kS R n0 ro rt t0 t1 t2 t3 t8 t22 t35 s QR:=
 pC OC cF h (by kernel_rfl)
theorem AKw (h :
 xC R 41 n0 ro rt 83 [t0,t1,t2,t3] s fun a b=>
 C2 (lf R 41 n0 ro rt) b 4 t8 a fun c=>
 xM R c 4 t8 fun d=>
 QR d c):ACB R n0 ro rt t0 t1 t2 t3 t8 s QR:=
 pC OC cF h (by kernel_rfl)
theorem AKu (h :
 AX t49 (
 xC R 41 n0 ro rt 83 [t0,t1,t2,t3] s fun a b=>
 C2 (lf R 41 n0 ro rt) b 4 t8 a fun c=>
 xM R c 4 t8 fun d=>
 QR d c) (
 xI .eql t22 (AD 8) fun e=>
 AX e (
 kR R n0 ro rt t0 t1 t2 t3 t8 t22 e s QR) (
 xI .eql t22 (AD 9) fun f=>
 kR R n0 ro rt t0 t1 t2 t3 t8 t22 f s QR))):cG R n0 ro rt t0 t1 t2 t3 t8 t22 t49 s QR:=
 pC OC cF h (by kernel_rfl)
theorem AKt (h :
 AX t58 (
 xI .sub t2 (AD 1) fun a=>
 xC R 41 n0 ro rt 41 [t0,t1,a,t3] s fun b c=>
 xI .sub t2 (AD 1) fun d=>
 xC R 41 n0 ro rt 41 [t0,t1,d,t3] c fun e f=>
 D4 false f 4 Y4 2 [(0,4,b),(4,4,e)] fun g i=>
 xC R 41 n0 ro rt 20 [g] i fun j k=>
 C2 (lf R 41 n0 ro rt) k 4 t8 j fun l=>
 xM R l 4 t8 fun m=>
 QR m l) (
 xI .eql t22 (AD 10) fun n=>
 AX n (
 kQ R n0 ro rt t0 t1 t2 t3 t8 t22 n s QR) (
 xI .eql t22 (AD 11) fun o=>
 kQ R n0 ro rt t0 t1 t2 t3 t8 t22 o s QR))):kR R n0 ro rt t0 t1 t2 t3 t8 t22 t58 s QR:=
 pC OC cF h (by kernel_rfl)
theorem AKs (h :
 AX t75 (
 Df Y4 [(0,1,(AD 3))] fun a=>
 CX s Y4 fun b c=>
 C2 (lf R 41 n0 ro rt) c 4 b a fun d=>
 xC R 41 n0 ro rt 54 [t0,(AD 4)] d fun e f=>
 kO R n0 ro rt t0 t1 t2 t3 t8 b e (AD 0) f QR) (
 xI .eql t22 (AD 12) fun g=>
 AX g (
 xC R 41 n0 ro rt 53 [] s fun i j=>
 CX j Y4 fun k l=>
 C2 (lf R 41 n0 ro rt) l 4 k i fun m=>
 xC R 41 n0 ro rt 54 [t0,(AD 2)] m fun n o=>
 xI .eql n (AD 1) fun p=>
 AX p (
 xC R 41 n0 ro rt 41 [t0,t1,(AD 1),(AD 0)] o fun q u=>
 C2 (lf R 41 n0 ro rt) u 4 k q fun v=>
 kN R n0 ro rt t0 t1 t2 t3 t8 k v QR) (
 kN R n0 ro rt t0 t1 t2 t3 t8 k o QR)) (
 fk R n0 ro rt t0 t8 s QR))):kQ R n0 ro rt t0 t1 t2 t3 t8 t22 t75 s QR:=
 pC OC cF h (by kernel_rfl)
theorem ABY (h :
 xI .lss t12 t11 fun a=>
 AX a (
 uj R n0 ro rt t0 t1 t2 t3 t8 t10 t11 t12 s QR) (
 uk R n0 ro rt t8 t10 s QR)):kO R n0 ro rt t0 t1 t2 t3 t8 t10 t11 t12 s QR:=
 pL OC cF h (by kernel_rfl)
theorem AKr (h :
 xM R s 4 t13 fun a=>
 xI .sub t2 (AD 1) fun b=>
 xI .add t3 (AD 1) fun c=>
 xC R 41 n0 ro rt 41 [t0,t1,b,c] s fun d e=>
 xC R 41 n0 ro rt 52 [a,d] e fun f g=>
 C2 (lf R 41 n0 ro rt) g 4 t8 f fun i=>
(xM R e 4 t13 fun j=>Cu j a=true) /\
 xM R i 4 t8 fun k=>
 QR k i):kN R n0 ro rt t0 t1 t2 t3 t8 t13 s QR:=
 pC OC cF h (by kernel_rfl)
theorem AGM (h :
 xC R 41 n0 ro rt 54 [t0,(AD 4)] s fun a b=>
 xI .eql a (AD 0) fun c=>
 AX c (
 xC R 41 n0 ro rt 80 [] b fun d e=>
 C2 (lf R 41 n0 ro rt) e 4 t8 d fun f=>
 xM R f 4 t8 fun g=>
 QR g f) (
 um R n0 ro rt t8 b QR)):fk R n0 ro rt t0 t8 s QR:=
 pC OC cF h (by kernel_rfl)
theorem AGP (h :
 Bo s t10 3 fun a=>
 xL R s a fun b=>
 xI .sub t2 (AD 1) fun c=>
 xC R 41 n0 ro rt 41 [t0,t1,c,t3] s fun d e=>
 D4 false e 4 Y4 1 [(0,4,d)] fun f g=>
(4=4/\4≠0)/\E1 false (lf R 41 n0 ro rt) e 25 4 56 b f fun i j=>
 Bo j t10 3 fun k=>
 C2 (lf R 41 n0 ro rt) j 1 k i fun l=>
(Bo e t10 3 fun m=>Cu m a=true) /\
(xL R e a fun n=>Cu n b=true) /\
 uo R n0 ro rt t0 t1 t2 t3 t8 t10 t11 t12 l QR):uj R n0 ro rt t0 t1 t2 t3 t8 t10 t11 t12 s QR:=
 pC OC cF h (by kernel_rfl)
theorem AGO (h :
 xM R s 4 t10 fun a=>
 C2 (lf R 41 n0 ro rt) s 4 t8 a fun b=>
 xM R b 4 t8 fun c=>
 QR c b):uk R n0 ro rt t8 t10 s QR:=
 pC OC cF h (by kernel_rfl)
theorem AGN (h :
 xC R 41 n0 ro rt 53 [] s fun a b=>
 xC R 41 n0 ro rt 25 [(AD 0)] b fun c d=>
 D4 false d 4 Y4 1 [(0,4,c)] fun e f=>
 xC R 41 n0 ro rt 26 [(SS [66,111,120]),e] f fun g i=>
 xC R 41 n0 ro rt 52 [a,g] i fun j k=>
 C2 (lf R 41 n0 ro rt) k 4 t8 j fun l=>
 xM R l 4 t8 fun m=>
 QR m l):um R n0 ro rt t8 s QR:=
 pC OC cF h (by kernel_rfl)
theorem AGQ (h :
 xI .add t12 (AD 1) fun a=>
 kO R n0 ro rt t0 t1 t2 t3 t8 t10 t11 a s QR):uo R n0 ro rt t0 t1 t2 t3 t8 t10 t11 t12 s QR:=
 pC OC cF h (by kernel_rfl)
theorem m41 {L:A0} {Post:AV->AK->Prop} (hn:BN [t0,t1,t2,t3]=false) (h:s7 R 0 L.ro L.rt t0 t1 t2 t3 s (QM (L.rr 41) s.bs.length Post)):∃ v s',Post v s'/\BC (env R) L 41 [t0,t1,t2,t3] s v s':=
 hM Tryz.func41 (by kernel_rfl) hn h
theorem AKc (h :
 CX s Y4 fun a b=>
 Bz b t1 fun c=>
 xI .add c (AD 4) fun d=>
 xC R 83 n0 ro rt 54 [t0,d] b fun e f=>
 xI .lss e (AD 4) fun g=>
 AX g (
 xL R f (.De 1 0) fun i=>
 Dc f 1 i e fun j=>
 xL R f j fun k=>
 xC R 83 n0 ro rt 26 [k,(.AA [])] f fun l m=>
 C2 (lf R 83 n0 ro rt) m 4 a l fun n=>
 xM R n 4 a fun o=>
 QR o n) (
 ACC R n0 ro rt t0 t1 t2 t3 a e f QR)):su R n0 ro rt t0 t1 t2 t3 s QR:=
 pC mo cF h (by kernel_rfl)
theorem AKe (h :
 xI .sub t9 (AD 4) fun a=>
 Dc s 8 t1 a fun b=>
 xM R s 8 b fun c=>
 CX s [(SS []),(AD 0),(AD 0),(SS []),(AD 0),(.AA []),(BB false),(.AA [])] fun d e=>
 C2 (lf R 83 n0 ro rt) e 8 d c fun f=>
 xF R f d 0 fun i=>
 Df Y4 [(0,1,(AD 2)),(1,1,i)] fun j=>
 CX f Y4 fun k l=>
 C2 (lf R 83 n0 ro rt) l 4 k j fun m=>
 kL R n0 ro rt t0 t1 t2 t3 t8 d k (AD 0) m QR):ACC R n0 ro rt t0 t1 t2 t3 t8 t9 s QR:=
 pC mo cF h (by kernel_rfl)
theorem ABT (h :
 xF R s t10 1 fun b=>
 xI .lss t12 b fun c=>
 AX c (
 ACD R n0 ro rt t0 t1 t2 t3 t8 t10 t11 t12 s QR) (
 ACE R n0 ro rt t8 t11 s QR)):kL R n0 ro rt t0 t1 t2 t3 t8 t10 t11 t12 s QR:=
 pL mo cF h (by kernel_rfl)
theorem AKj (h :
 Bo s t11 3 fun a=>
 xL R s a fun b=>
 xI .sub t2 (AD 1) fun c=>
 xC R 83 n0 ro rt 115 [t0,t1,c,t3] s fun d e=>
 D4 false e 4 Y4 1 [(0,4,d)] fun f g=>
(4=4/\4≠0)/\E1 false (lf R 83 n0 ro rt) e 25 4 56 b f fun i j=>
 Bo j t11 3 fun k=>
 C2 (lf R 83 n0 ro rt) j 1 k i fun l=>
(Bo e t11 3 fun m=>Cu m a=true) /\
(xL R e a fun n=>Cu n b=true) /\
 ACF R n0 ro rt t0 t1 t2 t3 t8 t10 t11 t12 l QR):ACD R n0 ro rt t0 t1 t2 t3 t8 t10 t11 t12 s QR:=
 pC mo cF h (by kernel_rfl)
theorem AKi (h :
 xM R s 4 t11 fun a=>
 C2 (lf R 83 n0 ro rt) s 4 t8 a fun b=>
 xM R b 4 t8 fun c=>
 QR c b):ACE R n0 ro rt t8 t11 s QR:=
 pC mo cF h (by kernel_rfl)
theorem AKk (h :
 xI .add t12 (AD 1) fun a=>
 kL R n0 ro rt t0 t1 t2 t3 t8 t10 t11 a s QR):ACF R n0 ro rt t0 t1 t2 t3 t8 t10 t11 t12 s QR:=
 pC mo cF h (by kernel_rfl)
theorem m83 {L:A0} {Post:AV->AK->Prop} (hn:BN [t0,t1,t2,t3]=false) (h:su R 0 L.ro L.rt t0 t1 t2 t3 s (QM (L.rr 83) s.bs.length Post)):∃ v s',Post v s'/\BC (env R) L 83 [t0,t1,t2,t3] s v s':=
 hM Tryz.func83 (by kernel_rfl) hn h
theorem AGK (h :
 CX s Y4 fun a b=>
 xC R 115 n0 ro rt 54 [t0,(AD 6)] b fun c d=>
 xI .lss c (AD 2) fun e=>
 g0 e true d t3 fun f g=>
 g1 e true g (xI .gtr f (AD 0)) fun j k=>
 Bi e j (BB false) fun l=>
 AX l (
 xC R 115 n0 ro rt 54 [t0,t3] k fun m n=>
 xC R 115 n0 ro rt 25 [m] n fun o p=>
 C2 (lf R 115 n0 ro rt) p 4 a o fun q=>
 xM R q 4 a fun u=>
 QR u q) (
 xI .leq t2 (AD 0) fun w=>
 AX w (
 xL R k (.De 1 0) fun x=>
 xC R 115 n0 ro rt 54 [t0,(AD 4)] k fun y z=>
 Dc z 1 x y fun aa=>
 xL R z aa fun ab=>
 xC R 115 n0 ro rt 26 [ab,(.AA [])] z fun ac ad=>
 C2 (lf R 115 n0 ro rt) ad 4 a ac fun ae=>
(xL R z (.De 1 0) fun af=>Cu af x=true) /\
 xM R ae 4 a fun ag=>
 QR ag ae) (
 xI .lss c (AD 4) fun ah=>
 AX ah (
 xC R 115 n0 ro rt 83 [t0,t1,t2,t3] k fun ai aj=>
 C2 (lf R 115 n0 ro rt) aj 4 a ai fun ak=>
 xM R ak 4 a fun al=>
 QR al ak) (
 fe R n0 ro rt t0 t1 t2 a k QR)))):fc R n0 ro rt t0 t1 t2 t3 s QR:=
 pC ACG cF h (by kernel_rfl)
theorem AGL (h :
 xI .sub t2 (AD 1) fun a=>
 xC R 115 n0 ro rt 41 [t0,t1,a,(AD 0)] s fun b c=>
 C2 (lf R 115 n0 ro rt) c 4 t8 b fun d=>
 xM R d 4 t8 fun e=>
 QR e d):fe R n0 ro rt t0 t1 t2 t8 s QR:=
 pC ACG cF h (by kernel_rfl)
theorem APg {L:A0} {Post:AV->AK->Prop} (hn:BN [t0,t1,t2,t3]=false) (h:fc R 0 L.ro L.rt t0 t1 t2 t3 s (QM (L.rr 115) s.bs.length Post)):∃ v s',Post v s'/\BC (env R) L 115 [t0,t1,t2,t3] s v s':=
 hM Tryz.func115 (by kernel_rfl) hn h
theorem AKV (h :
 Eo s t0 fun a=>
 xF R s a 1 fun c=>
 Eo s t0 fun d=>
 xF R s d 0 fun f=>
 Bz s f fun g=>
 xI .geq c g fun i=>
 AX i (
 QR (AD 0) s) (
 ACH R n0 ro rt t0 t1 s QR)):sk R n0 ro rt t0 t1 s QR:=
 pC ALy cF h (by kernel_rfl)
theorem AKX (h :
 Eo s t0 fun a=>
 xF R s a 1 fun c=>
 xI .add c (AD 1) fun d=>
 Eo s t0 fun e=>
 Bo s e 1 fun f=>
 C2 (lf R 54 n0 ro rt) s 1 f d fun g=>
 Eo g t0 fun i=>
 xF R g i 0 fun k=>
 Eo g t0 fun l=>
 xF R g l 1 fun n=>
 xI .sub n (AD 1) fun o=>
 Dc g 1 k o fun p=>
 xL R g p fun q=>
 xC R 54 n0 ro rt 13 [q,t1] g fun u v=>
 QR u v):ACH R n0 ro rt t0 t1 s QR:=
 pC ALy cF h (by kernel_rfl)
theorem m54 {L:A0} {Post:AV->AK->Prop} (hn:BN [t0,t1]=false) (h:sk R 0 L.ro L.rt t0 t1 s (QM (L.rr 54) s.bs.length Post)):∃ v s',Post v s'/\BC (env R) L 54 [t0,t1] s v s':=
 hM Tryz.func54 (by kernel_rfl) hn h
end
noncomputable section
section
variable (R:RT) (n0 ro rt:Nat) (t0:AV)
noncomputable def b57:Code:=Tryz.f57.body.getD .skip
def ALz:Nat->List Nat:=ln [[],[0],[0,4],[0]]
abbrev Q57:=Wq R n0 ro rt 57 8 [.tmp 2]
def ABA:=Q57 R n0 ro rt (sub b57 []) [] [(0,t0)]
def ACI:=Q57 R n0 ro rt (sn b57 7) [] [(0,t0)]
end
variable {R:RT} {n0 ro rt:Nat} {s:AK} {QR:QT} {t0:AV}
theorem AJJ (h :
 rN s (some 1) (RP t0) (some 1) .eql t0 (.AA []) fun a=>
 AX a (
 QR (.AA []) s) (
 ACI R n0 ro rt t0 s QR)):ABA R n0 ro rt t0 s QR:=
 pC ALz cF h (by kernel_rfl)
theorem AJK (h :
 D4 false s 4 Y4 0 [] fun a b=>
(4=4/\4≠0)/\E1 false (lf R 57 n0 ro rt) b 25 4 56 a t0 fun c d=>
 QR c d):ACI R n0 ro rt t0 s QR:=
 pC ALz cF h (by kernel_rfl)
end
noncomputable section
section
variable (R:RT) (n0 ro rt:Nat) (t0:AV)
noncomputable def AQz:Code:=Tryz.f152.body.getD .skip
def AL0:Nat->List Nat:=ln [[],[0]]
abbrev AQ0:=Wq R n0 ro rt 152 6 [.tmp 2]
def ur:=AQ0 R n0 ro rt (sub AQz []) [] [(0,t0)]
noncomputable def AQ1:Code:=Tryz.f163.body.getD .skip
def AL1:Nat->List Nat:=ln [[],[0]]
abbrev AQ2:=Wq R n0 ro rt 163 6 [.tmp 2]
def uu:=AQ2 R n0 ro rt (sub AQ1 []) [] [(0,t0)]
noncomputable def AQ3:Code:=Tryz.f153.body.getD .skip
def AL2:Nat->List Nat:=ln [[],[0]]
abbrev AQ4:=Wq R n0 ro rt 153 6 [.tmp 2]
def uv:=AQ4 R n0 ro rt (sub AQ3 []) [] [(0,t0)]
end
variable {R:RT} {n0 ro rt:Nat} {s:AK} {QR:QT} {t0:AV}
theorem AFj (h :
 xI .neq t0 t0 fun a=>
 QR a s):ur R n0 ro rt t0 s QR:=
 pC AL0 cF h (by kernel_rfl)
theorem APG {u0:AV} {Post:AV->Prop} (Bu:AN [] 0 0 [t0]=some [u0]) (h:ur R 0 0 0 u0 ⟨[],[]⟩ (QP Post)):AW (env R) 152 [t0] Post:=
 hR Tryz.func152 (by kernel_rfl) Bu h
theorem AFk (h :
 xI .neq t0 t0 fun a=>
 QR a s):uu R n0 ro rt t0 s QR:=
 pC AL1 cF h (by kernel_rfl)
theorem APH {u0:AV} {Post:AV->Prop} (Bu:AN [] 0 0 [t0]=some [u0]) (h:uu R 0 0 0 u0 ⟨[],[]⟩ (QP Post)):AW (env R) 163 [t0] Post:=
 hR Tryz.func163 (by kernel_rfl) Bu h
theorem AFs (h :
 Hv .neq t0 t0 fun a=>
 QR a s):uv R n0 ro rt t0 s QR:=
 pC AL2 cF h (by kernel_rfl)
theorem APN {u0:AV} {Post:AV->Prop} (Bu:AN [] 0 0 [t0]=some [u0]) (h:uv R 0 0 0 u0 ⟨[],[]⟩ (QP Post)):AW (env R) 153 [t0] Post:=
 hR Tryz.func153 (by kernel_rfl) Bu h
end
noncomputable section
section
variable (R:RT) (n0 ro rt:Nat) (t0 t1 t7 t9 t11 t12 t13 t14:AV)
noncomputable def b5:Code:=Tryz.f5.body.getD .skip
def lv5:Nat->List Nat:=ln [[],[0,1],[5,6],[5,6,7,8],ra 6 5 [],ra 8 5 [],ra 8 7 [],[7,9,11,12,13,14,54],[7,9,11,12,13,14]]
abbrev Q5:=Wq R n0 ro rt 5 84 [.tmp 4]
def AL3:=Q5 R n0 ro rt (sub b5 []) [] [(0,t0),(1,t1)]
def AL4:=Q5 R n0 ro rt (sn b5 255) [] [(7,t7),(9,t9),(11,t11),(12,t12),(13,t13),(14,t14)]
end
variable {R:RT} {n0 ro rt:Nat} {s:AK} {QR:QT} {t0 t1 t7 t9 t11 t12 t13 t14:AV}
theorem APl (h :
 xC R 5 n0 ro rt 11 [t0] s fun a b=>
 xC R 5 n0 ro rt 12 [] b fun c d=>
 xC R 5 n0 ro rt 19 [a,c] d fun e f=>
 xC R 5 n0 ro rt 11 [t1] f fun g i=>
 xC R 5 n0 ro rt 12 [] i fun j k=>
 xC R 5 n0 ro rt 19 [g,j] k fun l m=>
 CX m Y4 fun n o=>
 CX o Y4 fun p q=>
 C2 (lf R 5 n0 ro rt) q 4 n e fun u=>
 C2 (lf R 5 n0 ro rt) u 4 p l fun v=>
 xM R v 4 n fun w=>
 xC R 5 n0 ro rt 14 [w] v fun x y=>
 DF x 0 fun z=>
 DF x 1 fun aa=>
 xM R y 4 p fun ab=>
 xC R 5 n0 ro rt 14 [ab] y fun ac ad=>
 DF ac 0 fun ae=>
 DF ac 1 fun af=>
 xM R ad 4 n fun ag=>
 xM R ad 4 p fun ah=>
 D4 false ad 4 Y4 2 [(0,4,ag),(4,4,ah)] fun ai aj=>
 xC R 5 n0 ro rt 20 [ai] aj fun ak al=>
 xC R 5 n0 ro rt 14 [ak] al fun am an=>
 DF am 0 fun ao=>
 DF am 1 fun ap=>
 xM R an 4 n fun aq=>
 xM R an 4 p fun ar=>
 D4 false an 4 Y4 2 [(0,4,aq),(4,4,ar)] fun au av=>
 xC R 5 n0 ro rt 21 [au] av fun aw ax=>
 xC R 5 n0 ro rt 14 [aw] ax fun ay az=>
 DF ay 0 fun a0=>
 DF ay 1 fun a1=>
 xI .neq aa (AD 0) fun a2=>
 g0 a2 false az af fun a3 a4=>
 g1 a2 false a4 (xI .neq a3 (AD 0)) fun a8 a9=>
 Bi a2 (BB true) a8 fun ba=>
 AX ba (
 xC R 5 n0 ro rt 16 [] a9 fun bb bc=>
 QR bb bc) (
 AL4 R n0 ro rt z ae ao ap a0 a1 a9 QR)):AL3 R n0 ro rt t0 t1 s QR:=
 pC lv5 cF h (by kernel_rfl)
theorem APm (h :
 xC R 5 n0 ro rt 16 [] s fun a b=>
 g0 a true b t12 fun c d=>
 g1 a true d (xI .neq c (AD 0)) fun f g=>
 g0 a true g f fun i j=>
 g0 i false j t11 fun k l=>
 KX i false l (D4 false l 5 Y5 0 []) fun o p=>
 g0 i false p t7 fun q u=>
 KX i false u (fun K=>(5=5/\5≠0)/\E1 false (lf R 5 n0 ro rt) u 45 5 80 o q fun v w=>K v w) fun x y=>
 g0 i false y t9 fun z aa=>
 KX i false aa (fun K=>(5=5/\5≠0)/\E1 false (lf R 5 n0 ro rt) aa 45 5 80 x z fun ab ac=>K ab ac) fun ad ae=>
 KX i false ae (xC R 5 n0 ro rt 17 [k,ad] ae) fun ah ai=>
 g1 a true ai (Bi i (BB true) ah) fun ak al=>
 Bi a ak (BB false) fun am=>
 g0 am true al t14 fun an ao=>
 g1 am true ao (xI .neq an (AD 0)) fun aq ar=>
 g0 am true ar aq fun au av=>
 g0 au false av t13 fun aw ax=>
 g1 au false ax (Bz ax aw) fun az a0=>
 g0 au false a0 t7 fun a1 a2=>
 g1 au false a2 (Bz a2 a1) fun a4 a5=>
 g0 au false a5 t9 fun a6 a7=>
 g1 au false a7 (Bz a7 a6) fun a9 ba=>
 g1 au false ba (xI .mul a4 a9) fun bc bd=>
 g1 au false bd (xI .eql az bc) fun bf bg=>
 g1 am true bg (Bi au (BB true) bf) fun bi bj=>
 Bi am bi (BB false) fun bk=>
 QR bk bj):AL4 R n0 ro rt t7 t9 t11 t12 t13 t14 s QR:=
 pC lv5 cF h (by kernel_rfl)
theorem e5 {u0 u1:AV} {Post:AV->Prop} (Bu:AN [] 0 0 [t0,t1]=some [u0,u1]) (h:AL3 R 0 0 0 u0 u1 ⟨[],[]⟩ (QP Post)):AW (env R) 5 [t0,t1] Post:=
 hR Tryz.func5 (by kernel_rfl) Bu h
end
end Go.Proofs.YtpgfpakdnijngaaGreatDoor
