/-
  Which plans for regions with a drawn order are sound: a check by computation.
-/
import Derived.Test.YtpgfpakdnijngaaGreatDoorEvN
import Derived.OrdersIn
import Derived.RangeFuncRecord
set_option linter.all false
namespace Go.Tel
open Option renaming some->Y,none->G
open Bool renaming true->Z,false->ϴ
open Go renaming World->ϙ,Value->ϛ,TypeId->ϝ,Program->ϟ,Oper->ϡ,Operand->ϧ
def Kk:aa->Option Nat
 | .w r=>Y r
 | .fa r _ _=>Y r
 | _=>G
def FU (p:B3) (i:Nat):Option Nat:=match p.cls[i]? with
 | some c=>Kk c
 | none=>G
def EP (p:B3) (i:Nat):Ϟ:=match p.pre[i]? with
 | some l=>l
 | none=>[]
def Gg (o:ϡ):Ϟ:=o.op.operands.toList.filterMap fun
 | .tmp t=>Y t
 | _=>G
def HR (b:Array ϡ) (o:ϡ):Ϟ:=match Mt b o with
 | some d=>[d]
 | none=>[]
def EW (b:Array ϡ) (i:Nat):Ϟ:=match b[i]? with
 | some o=>HR b o++Gg o
 | none=>[]
def lA (b:Array ϡ) (i:Nat):Option Nat:=match b[i]? with
 | some o=>o.dst
 | none=>G
def GQ (b:Array ϡ) (i:Nat):Ϟ:=match lA b i with
 | some d=>[d]
 | none=>[]
def Hz (b:Array ϡ) (p:B3) (i:Nat):Ϟ:=match p.cls[i]? with
 | some .fj=>[]
 | some .fx=>[]
 | some (.fa _ j _)=>GQ b i++GQ b j
 | _=>GQ b i
def oh (b:Array ϡ) (p:B3) (i:Nat):Ϟ:=match p.cls[i]? with
 | some .fj=>[]
 | some .fx=>[]
 | some (.fa _ j x)=>(EW b i++EW b j++EW b x).filter λt=>!(has (GQ b i++GQ b j) t)
 | _=>EW b i
def Y5 (b:Array ϡ) (p:B3) (i:Nat):Bool:=match b[i]? with
 | some o=>(o.after.toList.all λe=>!(Region.binds .any e)||Nat.blt e.on i) &&
   ((EP p i).all λj=>o.after.toList.any λe=>Region.binds .any e&&(Nat.beq e.on j||has (EP p e.on) j))
 | none=>Z
def L9 (b:Array ϡ) (p:B3) (i:Nat):Bool:=match b[i]?,p.cls[i]? with
 | some o,Y (.h _)=>o.guard.isNone&&o.dst.isSome
 | some o,Y (.fa _ _ _)=>o.guard.isNone&&(H8 p.LL i).isEmpty
 | some o,Y .fj=>o.guard.isNone&&(H8 p.LL i).isEmpty
 | some o,Y .fx=>o.guard.isNone&&(H8 p.LL i).isEmpty
 | some _,Y _=>Z
 | _,_=>ϴ
def ABN (b:Array ϡ) (n i:Nat):Bool:=(List.range n).all λj=>Nat.beq j i||(GQ b j).all λd=>!(has (GQ b i) d)
def rO (b:Array ϡ) (p:B3) (n i:Nat):Bool:=(List.range n).all λj=>(GQ b j).all λd=>!(has (EW b i) d) ||
 bif has (H8 p.LL i) d then Nat.beq j i||has (EP p j) i else has (EP p i) j
def Ic (b:Array ϡ) (p:B3) (done:Ϟ):Ϟ->Bool
 | []=>Z
 | i::d=>((oh b p i).all λt=>bif has (H8 p.LL i) t then !(has done t) else !((i::d).any λj=>has (Hz b p j) t)) &&
   ((Hz b p i).all λt=>!(d.any λj=>has (Hz b p j) t))&&Ic b p (Hz b p i++done) d
def Y6 (o:ϡ):Bool:=match o.op with
 | .move _|.assign _|.pick _ _ _|.build _ _|.buildSlice _ _ _|.field _ _ _|.extract _ _|.makeFunc _ _ _|.makeInterface _ _|.unOp _ _ _|.index _ _ _=>Z
 | _=>ϴ
def Ol (b:Array ϡ) (i:Nat):Bool:=match b[i]? with
 | some o=>Y6 o
 | none=>ϴ
def Ny (l:Ϫ) (i k:Nat):Bool:=l.any λy=>Nat.beq y.1 i&&Nat.beq y.2 k
def S3 (b:Array ϡ) (p:B3):Ϟ->Bool
 | []=>Z
 | i::d=>(match p.cls[i]? with
  | some (.q ts)=>ts.all λt=>Ol b i||Ny p.fe i t
  | some (.h ts)=>ts.all λt=>Ny p.fe i t
  | _=>ϴ)&&S3 b p d
def K6 (b:Array ϡ) (p:B3):Ϟ->Nat->Option Nat
 | [],k=>Y k
 | i::d,k=>match p.cls[i]? with
  | some (.q ts)=>bif ts.all λt=>Nat.beq t k||Ol b i||Ny p.fe i t then K6 b p d k else G
  | some (.w r)=>bif Nat.beq r k then K6 b p d (k+1) else G
  | some (.fa r _ _)=>bif Nat.beq r k then K6 b p d (k+1) else G
  | some .fj=>K6 b p d k
  | some .fx=>K6 b p d k
  | _=>G
def Y7 (p:B3) (n i:Nat):Bool:=match FU p i with
 | some r=>(List.range n).all λj=>match FU p j with
  | some b=>Nat.beq i j||(!(Nat.beq r b)&&(!(Nat.blt r b)||has (EP p j) i))
  | none=>Z
 | none=>Z
def gF (p:B3) (n K i:Nat):Bool:=
 let f (ts:Ϟ):Bool:=(List.range (K+1)).all λk=>has ts k||(List.range n).any λj=>match FU p j with
  | some r=>(has (EP p i) j&&Nat.ble k r)||(has (EP p j) i&&Nat.blt r k)
  | none=>ϴ
 match p.cls[i]? with
 | some (.q ts)=>f ts&&ts.all λk=>Nat.ble k K
 | some (.h ts)=>f ts&&ts.all λk=>Nat.ble k K
 | _=>Z
def Y8 (b:Array ϡ) (p:B3) (i:Nat):Bool:=match b[i]?,p.cls[i]? with
 | some o,Y (.q _)=>match o.op with
  | .nilCheck _|.fieldAddr _ _ _|.move _=>Z
  | _=>ϴ
 | some o,Y (.w _)=>match o.op with
  | .store _ _ _=>Z
  | _=>ϴ
 | _,_=>ϴ
def Om (b:Array ϡ) (p:B3) (n i:Nat):Bool:=match p.cls[i]? with
 | some (.fa _ j x)=>(match p.cls[j]?,p.cls[x]?,b[i]?,b[j]?,b[x]? with
   | some .fj,Y .fx,Y o,Y e,Y f=>(fused o e f).isSome
   | _,_,_,_,_=>ϴ) &&
   has (EP p j) i&&has (EP p x) j&&has (EP p x) i &&
   (List.range n).all λm=>Nat.beq m i||Nat.beq m j||Nat.beq m x||(has (EP p i) m||(has (EP p m) x||Y8 b p m)) &&
    ((GQ b m).all λd=>!(has (EW b j) d||has (EW b x) d)||has (EP p i) m)
 | some .fj=>(List.range n).any λm=>match p.cls[m]? with
  | some (.fa _ j _)=>Nat.beq j i
  | _=>ϴ
 | some .fx=>(List.range n).any λm=>match p.cls[m]? with
  | some (.fa _ _ x)=>Nat.beq x i
  | _=>ϴ
 | _=>Z
def Ta (b:Array ϡ) (p:B3):Bool:=
 let n:=b.size
 match K6 b p p.rest 0 with
 | none=>ϴ
 | some K=>
  Nat.beq (p.first++p.rest).length n&&((List.range n).all λi=>has (p.first++p.rest) i) &&
  ((List.range n).all λi=>Y5 b p i&&L9 b p i&&ABN b n i&&rO b p n i&&Y7 p n i&&gF p n K i&&Om b p n i) &&
  Ic b p [] (p.first++p.rest)&&S3 b p p.first
def Ej (pl:Nat->Option B3):Code->Bool
 | .region id d Z=>(match pl id with
  | some p=>Ta d p
  | none=>Z)&&(match pl (id+1000000) with
  | some p=>Ta d p
  | none=>Z)
 | .seq a b=>Ej pl a&&Ej pl b
 | .cond _ a b=>Ej pl a&&Ej pl b
 | .block _ b=>Ej pl b
 | .loop b=>Ej pl b
 | .rangeFunc _ _ a b=>Ej pl a&&Ej pl b
 | _=>Z
def bD (E:Env):Bool:=(List.range E.P.funcs.size).all λf=>match E.P.funcs[f]? with
 | some b=>match b.body with
  | some c=>Ej (E.plan f) c
  | none=>Z
 | none=>Z
theorem Dv {o:ϡ} {t:Nat}:t∈Gg o<->Operand.tmp t∈o.op.operands:=by
 unfold Gg;rw[List.mem_filterMap];constructor
 .grind
 .intro h
  exact⟨.tmp t,AB,rfl⟩
theorem Kl {U b:Nat->AV} {x:ϧ} (h:∀t,x=.tmp t->U t=b t):A1 U x=A1 b x:=by
 cases x <;> simp[A1]
 grind
theorem J5 {U b:Nat->AV} {o:ϡ} (h:∀t∈Gg o,U t=b t):∀x∈o.op.operands,A1 U x=A1 b x:=λ_ hx=>
 Kl λ_ e=>h _ (Dv.2 (e ▸ hx))
def V8 {E:Env} {U d:Nat->AV} {o:ϡ} (hs:∀cs b,o.op≠.select cs b) (h:∀x∈o.op.operands,A1 U x=A1 d x):DN E U o=DN E d o:=by
 unfold DN;have e:FA U o.op.operands.toList=FA d o.op.operands.toList:=by grind[FA]
 have f:execOp (λx=>(Hx (A1 U x)).getD undef) o=execOp (λx=>(Hx (A1 d x)).getD undef) o:=
  execOp_congr o hs λx hx=>by rw[h x hx]
 rw[e,f]
theorem V9 {U b:Nat->AV} {x:ϧ} (h:A1 U x=A1 b x):F1 U x=F1 b x:=by
 unfold F1
 grind
def Y9 {P:ϟ} {s:AY} {U b:Nat->AV} {op:BinOp} {t:ϝ} {x y:ϧ} (hx:A1 U x=A1 b x) (d:A1 U y=A1 b y) :
  JC P s U op t x y=JC P s b op t x y:=by
 unfold JC
 grind[V9]
def Rs {U b:Nat->AV} {parts:Array (Nat×ϧ)} (h:∀x∈parts.map (·.2),A1 U x=A1 b x) :
  (parts.toList.map λp=>(p.1,A1 U p.2))=parts.toList.map λp=>(p.1,A1 b p.2):=by grind[List.map_congr_left]
def Qr {U b:Nat->AV} {x:Option ϧ} (h:∀y,x=Y y->A1 U y=A1 b y):x.map (A1 U)=x.map (A1 b):=by
 cases x with
 | none=>rfl
 | some y=>grind
def Wx {E:Env} {L:Ba} {U d:Nat->AV} {s:AY} {o:ϡ} (h:∀x∈o.op.operands,A1 U x=A1 d x):C6 E L U s o=C6 E L d s o:=by
 have j:=λz=>V8 (E:=E) (o:=o) z h
 obtain⟨dst,op,D,pos,C,guard⟩:=o;cases op with
 | build t parts=>simp only[C6]; rw[Rs (by simpa[Op.operands] using h)]
 | buildSlice t n parts=>simp only[C6]; rw[Rs (by simpa[Op.operands] using h)]
 | makeFunc H a b=>
  grind[C6,List.map_congr_left,Op.operands]
 | slice t x A B mx=>
  simp only[C6];rw[j AD,h x (by simp[Op.operands]),Qr (x:=A) (λy e=>h y (by grind[Op.operands])),Qr (x:=B) (λy e=>h y (by grind[Op.operands])),Qr (x:=mx) (λy e=>h y (by grind[Op.operands]))]
 | call c=>
  obtain⟨p,u,ts⟩:=c;cases p with
  | value f=>rfl
  | invoke r n=>rfl
  | builtin b=>
   have I:∀x∈u.toList,A1 U x=A1 d x:=λx hx=>h x (by grind[Op.operands,Call.operands])
   cases b with
   | len=>
    simp only[C6];rw[j AD]
    grind
   | append=>
    grind[C6]
   | delete=>
    grind[C6]
   | _=>simp[*,C6]
 | binOp op t x y M=>
  simp only[C6];rw[j AD,Y9 (h x (by simp[Op.operands])) (h y (by simp[Op.operands])),h x (by simp[Op.operands]),h y (by simp[Op.operands])]
 | convert a b x=>simp_all[C6,Op.operands]
 | unOp op t x=>simp_all[C6,Op.operands]
 | index t x i=>simp_all[C6,Op.operands]
 | move x=>grind[C6,Op.operands]
 | assign x=>grind[C6,Op.operands]
 | pick c a b=>grind[C6,Op.operands]
 | alloc t=>rfl
 | box t x=>grind[C6,Op.operands]
 | makeSlice t l c=>grind[C6,Op.operands]
 | load t x=>grind[C6,Op.operands]
 | store t x y=>grind[C6,Op.operands]
 | nilCheck x=>grind[C6,Op.operands]
 | fieldAddr t x f=>grind[C6,Op.operands]
 | field t x f=>grind[C6,Op.operands]
 | indexAddr t x i=>grind[C6,Op.operands]
 | extract x i=>grind[C6,Op.operands]
 | makeInterface t x=>grind[C6,Op.operands]
 | makeMap t r=>grind[C6]
 | lookup t m k ok=>grind[C6,Op.operands]
 | mapUpdate t m k x=>grind[C6,Op.operands]
 | insert t m k x=>grind[C6,Op.operands]
 | _=>rfl
theorem WA {U b:Nat->AV} {c:Call} (h:∀x∈c.operands,A1 U x=A1 b x):L5 U c=L5 b c:=by
 obtain⟨d,e,ts⟩:=c;unfold L5
 grind[List.map_congr_left,Call.operands]
theorem gG {E:Env} {L:Ba} {d:DH} {U b:Nat->AV} {s:AY} {o:ϡ} (h:∀x∈o.op.operands,A1 U x=A1 b x):Oh E L d U s o=Oh E L d b s o:=by
 rw[Pa,Pa];unfold oY;rw[Wx h];split
 .rename_i c e
  have:∀x∈c.operands,A1 U x=A1 b x:=λx hx=>h x (by rw[e]; exact hx)
  grind[WA]
 rfl
theorem ZA {E:Env} {L:Ba} {U b:Nat->AV} {s:AY} {o:ϡ} (h:∀x∈o.op.operands,A1 U x=A1 b x):Jz E L U s o=Jz E L b s o:=by
 rw[LR,LR];unfold E0;rw[Wx h]
theorem OV {b:Array ϡ} {U d:Nat->AV} {o:ϡ} (h:∀t∈HR b o,U t=d t):FZ b U o=FZ b d o:=by grind[FZ,HR]
def Jc {E:Env} {L:Ba} {b:Array ϡ} {U d:Nat->AV} {s:AY} {o:ϡ} (h:∀t∈HR b o++Gg o,U t=d t):Fa E L b U s o=Fa E L b d s o:=by grind[Fa,OV,ZA,J5]
def On {E:Env} {L:Ba} {d:DH} {b:Array ϡ} {U e:Nat->AV} {s:AY} {o:ϡ} (h:∀t∈HR b o++Gg o,U t=e t):Oi E L d b U s o=Oi E L d b e s o:=by grind[Oi,OV,gG,J5]
def Pe {E:Env} {U b:Nat->AV} {o:ϡ} (h:∀t∈Gg o,U t=b t):hcells E U o=hcells E b o:=by grind[J5,hcells,Op.operands]
theorem Tb {E:Env} {L:Ba} {U:Nat->AV} {s:AY} {o:ϡ} {v:AV} (h:Jz E L U s o=Y v):C6 E L U s o=Y (v,s):=by
 rw[LR] at h;have e:∀(r:Option (AV×AY)),(∀u d,r=Y (u,d)->d=s)->(match r with|some (v,_)=>Y v|none=>G)=Y v->r=Y (v,s):=AB;have I:∀(r:Option AV) (z:Option (AV×AY)),(match r with|some v=>Y (v,s)|none=>G)=z->∀u d,z=Y (u,d)->d=s:=AB;obtain⟨dst,op,H,pos,D,guard⟩:=o;cases op with
 | alloc t=>grind[E0]
 | box t x=>grind[E0]
 | makeSlice t l c=>
  simp only[E0] at h;split at h
  .rename_i M p
   simp at h; subst h;rw[p];simp only[C6,fh] at p
   grind
  grind
 | store t x y=>grind[E0]
 | makeMap t r=>grind[E0]
 | mapUpdate t m k x=>grind[E0]
 | insert t m k x=>grind[E0]
 | lookup t m k ok=>exact e _ (λu d j=>by grind[C6]) h
 | buildSlice t n parts=>
  simp only[E0] at h;split at h
  .rename_i B C
   cases A:y7 L B with
   | true=>grind
   | false=>
    simp only[A,AL] at h;refine e _ (λu d j=>?_) h;simp only[C6,HN,C,A,HB,AL] at j
    grind
  grind
 | call c=>
  grind[E0,C6]
 | slice t x N O mx=>
  refine e _ (λu d j=>?_) h
  grind[C6]
 | binOp op t x y S=>
  refine e _ (λu d j=>?_) h
  grind[C6]
 | convert a b x=>
  refine e _ (λu d j=>?_) h
  grind[C6]
 | pick c a b=>
  refine e _ (λu d j=>?_) h
  grind[C6]
 | makeInterface t x=>
  refine e _ (λu d j=>?_) h
  grind[C6]
 | move x=>exact e _ (λu d j=>by grind[C6]) h
 | assign x=>exact e _ (λu d j=>by grind[C6]) h
 | makeFunc T a b=>exact e _ (λu d j=>by grind[C6]) h
 | build t parts=>exact e _ (λu d j=>by grind[C6]) h
 | load t x=>exact e _ (λu d j=>by grind[C6]) h
 | nilCheck x=>exact e _ (λu d j=>by grind[C6]) h
 | fieldAddr t x f=>exact e _ (λu d j=>by grind[C6]) h
 | field t x f=>exact e _ (λu d j=>by grind[C6]) h
 | indexAddr t x i=>exact e _ (λu d j=>by grind[C6]) h
 | extract x i=>exact e _ (λu d j=>by grind[C6]) h
 | unOp op t x=>
  refine e _ (λu d j=>?_) h
  grind[C6]
 | index t x i=>
  refine e _ (λu d j=>?_) h
  grind[C6]
 | _=>exact e _ (λu d j=>by grind[C6]) h
def ZB {E:Env} {L:Ba} {U:Nat->AV} {s d:AY} {o:ϡ} {v:AV} (u:Y6 o=Z) (h:Jz E L U s o=Y v):Jz E L U d o=Y v:=by
 rw[LR] at h ⊢
 have y:∀(r:Option AV) (s d:AY),(match (match r with|some v=>Y (v,s)|none=>G:Option (AV×AY)) with|some (v,_)=>Y v|none=>G)=Y v ->
   (match (match r with|some v=>Y (v,d)|none=>G:Option (AV×AY)) with|some (v,_)=>Y v|none=>G)=Y v:=AB
 obtain⟨dst,op,p,pos,m,guard⟩:=o;cases op with
 | buildSlice t n parts=>
  simp only[E0] at h ⊢;split at h
  .rename_i j k
   cases e:y7 L j with
   | true=>grind
   | false=>
    simp only[e,AL] at h ⊢;simp only[C6,HN,k,e,HB,AL] at h ⊢;split at h
    .rename_i q l
     split at l
     all_goals grind
    grind
  omega
 | move x=>exact h
 | assign x=>exact h
 | pick c a b=>
  grind[E0,C6]
 | makeFunc z a b=>exact h
 | makeInterface t x=>
  grind[E0,C6]
 | build t parts=>grind[E0,C6]
 | field t x f=>grind[E0,C6]
 | extract x i=>grind[E0,C6]
 | unOp op t x=>
  grind[E0,C6]
 | index t x i=>
  grind[E0,C6]
 | _=>grind[Y6]
theorem gH {a b:IntKind} (h:Gs a=Gs b):a=b:=by cases a <;> cases b <;> grind[Gs]
theorem bE {a b:Int} (h:ax a b=Z):a=b:=by
 unfold ax at h;split at h
 all_goals simp_all
theorem Qs {a b:ϛ} (h:zD a b=Z):a=b:=by
 unfold zD at h;split at h
 .grind[gH,Nat.eq_of_beq_eq_true,bE]
 .grind
 .rename_i x y
  have:=OW _ _ h;congr 1;cases x; simp_all
 all_goals simp_all
mutual
def Wy:∀(a b:PV),OH a b=Z->a=b
 | .sc a,.sc b,h=>by grind[OH,Qs]
 | .list a,.list b,h=>by simp only[OH] at h; rw[Km a b h]
 | .sc _,.list _,h=>by simp[OH] at h
 | .list _,.sc _,h=>by simp[OH] at h
def Oo:∀(a b:Ϧ),Mu a b=Z->a=b
 | [],[],_=>rfl
 | x::d,y::e,h=>by
  simp only[Mu,AK] at h;rw[Wy x y h.1,Oo d e h.2]
 | [],_::_,h=>by grind[Mu]
 | _::_,[],h=>by grind[Mu]
def Km:∀(a b:Ϯ),JI a b=Z->a=b
 | [],[],_=>rfl
 | x::d,y::e,h=>by
  simp only[JI,AK] at h;rw[Oo x y h.1,Km d e h.2]
 | [],_::_,h=>by grind[JI]
 | _::_,[],h=>by grind[JI]
end
def Tc:∀(a b:List MapEntry),oZ a b=Z->a=b
 | [],[],_=>rfl
 | ⟨k,v,n⟩::d,⟨f,i,j⟩::e,h=>by
  simp only[oZ,AK] at h;rw[Qs h.1.1.1,Qs h.1.1.2,CV h.1.2,Tc d e h.2]
 | [],_::_,h=>by grind[oZ]
 | _::_,[],h=>by grind[oZ]
mutual
theorem Qt:∀(a b:AV),D9 a b=Z->a=b
 | .pv a,b,h=>by
  cases b <;> simp only[D9,Dj] at h;rw[Wy _ _ h]
 | .ptr a c,b,h=>by
  cases b <;> simp only[D9,Dj,AK] at h;rw[CV h.1,CV h.2]
 | .EF a c,b,h=>by
  cases b <;> simp only[D9,Dj,AK] at h;rw[CV h.1,CV h.2]
 | .DF a c,b,h=>by
  cases b <;> simp only[D9,Dj,AK] at h;rw[Oo _ _ h.1,CV h.2]
 | .AE a,b,h=>by
  cases b <;> simp only[D9,Dj] at h;rw[Km _ _ h]
 | .own t a,b,h=>by
  cases b <;> simp only[D9,Dj,AK] at h;rw[CV h.1,Km _ _ h.2]
 | .ref a c d e,b,h=>by
  cases b <;> simp only[D9,Dj,AK] at h;rw[CV h.1.1.1,CV h.1.1.2,CV h.1.2,CV h.2]
 | .func f a c,b,h=>by
  cases b with
  | func g d e=>cases f <;> cases g <;> simp only[D9,Dj,AK] at h
                rw[CV h.1.1,IK _ _ h.1.2,IK _ _ h.2]
  | _=>cases f <;> simp only[D9,Dj] at h
 | .iface t a,b,h=>by
  cases b <;> simp only[D9,Dj,AK] at h;rw[CV h.1,Qt _ _ h.2]
 | .agg a,b,h=>by
  cases b <;> simp only[D9,Dj] at h;rw[IK _ _ h]
 | .tuple a,b,h=>by
  cases b <;> simp only[D9,Dj] at h;rw[IK _ _ h]
 | .Gy,b,h=>by
  cases b <;> simp only[D9,Dj] at h;rfl
 | .Hl a,b,h=>by
  cases b <;> simp only[D9,Dj] at h;rw[CV h]
 | .PZ a c,b,h=>by
  cases b <;> simp only[D9,Dj,AK] at h;rw[Tc _ _ h.1,CV h.2]
 | .bz a c d,b,h=>by
  cases b <;> simp only[D9,Dj,AK] at h;rw[CV h.1.1,CV h.1.2,CV h.2]
theorem IK:∀(a b:Ϭ),JY a b=Z->a=b
 | [],[],_=>rfl
 | x::d,y::e,h=>by
  simp only[JY,AK] at h;rw[Qt x y h.1,IK d e h.2]
 | [],_::_,h=>by grind[JY]
 | _::_,[],h=>by grind[JY]
end
def FW (rd:Option Nat):Fence:={ Fence.wide with round:=rd }
def ZC {P:ϟ} {U:ϧ->ϛ} {o:ϡ} {w w':ϙ} {x:Next} (b:(execOp U o).run P w=.ok x w') (hx:∀d,x≠.defer d):∀c,o.op≠.defer c:=by
 intro c e;unfold execOp at b;rw[e] at b;simp only[Sem.run_bind] at b;cases i:(resolve U c o.type).run P w with
 | ok d f=>
  grind[Result.andThen_ok,Sem.run_pure]
 | halt h f=>simp_all
section
variable {rd:Option Nat} {P:ϟ} {o:ϡ} {a:Act} {w w':ϙ} {K:Act->ϙ->Prop} {Q:Exit->Act->ϙ->Prop}
theorem Kn {v:ϛ} (b:(execOp a.eval o).run P w=.ok (.value v) w') (h:K (a.put o.dst v) w'):o.wpIn (FW rd) 0 P a w K Q:=
 ⟨λ_ _=>trivial,by rw[Oper.semAt_eq _ _ _ (ZC b λd e=>by cases e),b]; exact h⟩
theorem Jd (b:(execOp a.eval o).run P w=.ok .skip w') (h:K (a.put o.dst undef) w'):o.wpIn (FW rd) 0 P a w K Q:=
 ⟨λ_ _=>trivial,by rw[Oper.semAt_eq _ _ _ (ZC b λd e=>by cases e),b]; exact h⟩
theorem WB {f:FuncId} {args:Array ϛ} (b:(execOp a.eval o).run P w=.ok (.enter f args) w') (h:Calls P f args w' λe i=>∃v,e=.returned v/\K (a.put o.dst v) i):o.wpIn (FW rd) 0 P a w K Q:=by
 refine⟨λ_ _=>trivial,?_⟩;rw[Oper.semAt_eq _ _ _ (ZC b λd e=>by cases e),b];refine⟨λe=>by grind[FW,Fence.wide],?_⟩;refine(callsIn_wide (n:=0-1)).2 (h.mono ?_)
 grind
end
def IL (E:Env) (L:Ba) (m:DH):Prop:=
 ∀(f:FuncId) (i:Ϭ) (s j:AY) (v:AV) (g:AZ) (w:ϙ) (k:List ϛ),m f i s=Y (v,j)->Inv E g w s->VL g w i k ->
  (∃b,E.P.funcs[f]?=Y b/\b.body.isSome=Z/\(b.name== "runtime.NumGoroutine")=ϴ) /\
  Calls E.P f k.toArray w λe w'=>∃l d,e=.returned l/\V d w' v l/\Ext L g w d w'/\Inv E d w' j
def V.Td {g:AZ} {w:ϙ} {fn:Fn} {first b:Ϭ} {v:ϛ} (h:V g w (.func fn first b) v) :
  ∃vs us,v=.func fn (List.toArray vs) (List.toArray us)/\VL g w first vs/\VL g w b us:=by
 cases h with|func d hm h k=>exact⟨_,_,rfl,⟨d,h⟩,⟨hm,k⟩⟩
def Oq {E:Env} {L:Ba} {m:DH} {g:AZ} {w:ϙ} {s d:AY} {U:Nat->AV} {a:Act} {o:ϡ} {v:AV} {K:Act->ϙ->Prop} {Q:Exit->Act->ϙ->Prop}
  (A:IL E L m) (n:Inv E g w s) (e:∀t,V g w (U t) (a.tmps.getD t undef)) (h:Oh E L m U s o=Y (v,d))
  (δ:∀i w' g',V g' w' v i->Ext L g w g' w'->Inv E g' w' d->K (a.put o.dst i) w') {rd:Option Nat}:o.wpIn (FW rd) 0 E.P a w K Q:=by
 have S:C6 E L U s o=Y (v,d)->o.wpIn (FW rd) 0 E.P a w K Q:=by
  intro h;have⟨i,w',g',j,ε,ζ,η⟩:=oo n e h;rcases j with j|⟨j,rfl⟩
  all_goals grind[Kn,Jd]
 rw[Pa] at h;unfold oY at h;split at h
 .rename_i c p
  split at h
  .grind
  .split at h
   .rename_i f α b
    unfold L5 at b;split at b
    .rename_i x hx
     split at b
     .rename_i H first O B
      simp only[BU,Bg] at b;obtain⟨rfl,rfl⟩:=b;have l:=A9 e x;rw[B] at l;have⟨k,us,z,I,M⟩:=l.Td;have u:=Qu e c.args.toList;have⟨⟨N,C,W,y⟩,T⟩:=A _ _ _ _ _ _ _ _ h n ((I.append u).append M)
      have β:(execOp a.eval o).run E.P w=.ok (.enter H (k++List.map a.eval c.args.toList++us).toArray) w:=by
       obtain⟨dst,op,γ,pos,X,guard⟩:=o;simp only at p;subst p;have r:(k.toArray++c.args.map a.eval)++us.toArray=(k++List.map a.eval c.args.toList++us).toArray:=AD;have D:N.body.isNone=false:=by simp[*]
       simp only[execOp,resolve,hx,z,Deferred.ofValue,Sem.run_bind,Sem.run_pure,Result.andThen_ok,invoke,callFunc,r,run_program,C,y,D,Dj,JP]
      grind[WB,Calls.mono]
     grind
    grind
   grind
 grind
def Di {g:AZ} {w:ϙ} {U:Nat->AV} {a:Act} (l:∀t,V g w (U t) (a.tmps.getD t undef)) {f:Array ϡ} {o:ϡ} {b:Bool} (h:FZ f U o=Y b) :
  Region.wanted o (yielded f a.tmps)=b:=by
 unfold FZ Mt at h;unfold Region.wanted;cases m:o.guard with
 | none=>grind
 | some n=>
  obtain⟨j,u⟩:=n;rw[m] at h;simp only at h ⊢;unfold yielded;cases r:f[j]? with
  | none=>grind
  | some p=>
   rw[r] at h;simp only[Ye] at h ⊢;cases s:p.dst with
   | none=>grind
   | some d=>
    rw[s] at h;simp only[Ye] at h ⊢;have e:=l d;split at h
    .rename_i c i
     rw[i] at e;have e:=e.DX;simp at h;subst h;cases hx:a.tmps[d]? with
     | none=>grind[undef]
     | some y=>simp_all
    .rename_i i
     rw[i] at e;have⟨x,z,k⟩:=e.Qp;have:=k.Fb;subst this;simp at h;subst h;cases hx:a.tmps[d]? with
     | none=>simp
     | some y=>simp_all
    grind
def AZ.CX (g:AZ) (q:Nat->Prop):AZ:={ g with Db:=q }
theorem V.CX {g:AZ} {w:ϙ} {q:Nat->Prop} {x:AV} {v:ϛ} (h:V g w x v):V (g.CX q) w x v:=by
 induction h with
 | pv h=>exact .pv h
 | ptr h=>exact .ptr h
 | LS h=>exact .LS h
 | EF l i=>grind[EF]
 | DF i f h=>exact .DF i f h
 | AE h=>exact .AE h
 | own h d k hn hf=>exact .own h d k hn hf
 | ref h d e hn=>exact .ref h d e hn
 | Jb h=>exact .Jb h
 | Gy=>exact .Gy
 | Hl h=>exact .Hl h
 | bz h e=>exact .bz h e
 | ql h=>exact .ql h
 | func j hm _ _ b m=>grind[func]
 | iface _ b=>exact .iface b
 | agg j _ b=>grind[agg]
 | tuple j _ b=>grind[tuple]
theorem VL.CX {g:AZ} {w:ϙ} {q:Nat->Prop} {cs:Ϭ} {vs:List ϛ} (h:VL g w cs vs):VL (g.CX q) w cs vs:=
 ⟨h.len,λi c v b d=>(h.at_ i c v b d).CX⟩
theorem Ext.CX {L:Ba} {g g':AZ} {w w':ϙ} {q:Nat->Prop} (h:Ext L g w g' w') (b:∀id,g.Db id->q id):Ext L g w (g'.CX q) w':=
 {os:=h.os,tape:=h.tape,output:=h.output,size:=h.size,mono:=h.mono,cell:=h.cell,blk:=h.blk,dead:=h.dead,shape:=h.shape,tok:=h.tok,GK:=h.GK,F5:=h.F5,
  out:=h.out,mp:=h.mp,F6:=h.F6,K4:=h.K4,HY:=h.HY,K5:=h.K5,Db:=b }
theorem Inv.CX {E:Env} {g:AZ} {w:ϙ} {s:AY} {q:Nat->Prop} (h:Inv E g w s) (f:∀id,q id->id<s.bs.length/\g.blk id=G/\¬ g.dead id) (d:∀id,g.Db id->q id) (hm:∀id b,g.mp id=Y b->¬ q id):Inv E (g.CX q) w s:=
 {FC:=h.FC,EB:=h.EB,GL:=h.GL,D3:=h.D3,HH:=h.HH,HI:=h.HI,tok:=h.tok,HZ:=h.HZ,FD:=h.FD,Gt:=h.Gt,Dc:=h.Dc,KZ:=h.KZ,
  EJ:=f
  Ev:=λid hid=>(h.Ev id hid).imp (λx=>x) (λx=>x.imp (λy=>y) (λy=>y.imp (d id) (λz=>z)))
  mp:=h.mp
  Mh:=λid b hb=>⟨(h.Mh id b hb).1,(h.Mh id b hb).2.1,hm id b hb⟩
  Hy:=h.Hy
  blk:=λid b hb=>by
   have⟨i,vs,e,h1,h2,h3,j⟩:=h.blk id b hb;exact⟨i,vs,e,h1,h2,h3,j.CX⟩
  GF:=h.GF
  D4:=h.D4 }
def Inv.reserve {E:Env} {g:AZ} {w:ϙ} {s:AY} (h:Inv E g w s) (cs:Ϭ) :
  Inv E (g.CX λid=>g.Db id\/id=s.bs.length) w { s with bs:=s.bs++[cs] }:=by
 have i:∀id,id<s.bs.length->(s.bs++[cs])[id]?=s.bs[id]?:=λid hid=>C3 hid
 exact {
  FC:=λid b hb=>by have:=h.FC id b hb; grind
  EB:=λid f=>by have:=h.EB id f; grind
  GL:=h.GL
  D3:=λid f=>(i id (h.EB id f)).trans (h.D3 id f)
  HH:=h.HH,HI:=h.HI,tok:=h.tok,HZ:=h.HZ,FD:=h.FD,Gt:=h.Gt,Dc:=h.Dc,KZ:=h.KZ
  Ev:=λid hid=>by
   by_cases e:id=s.bs.length
   .exact .inr (.inr (.inl (.inr e)))
   .rcases h.Ev id AB with q|q|q|q
    .exact .inl q
    .exact .inr (.inl q)
    .exact .inr (.inr (.inl (.inl q)))
    .exact .inr (.inr (.inr q))
  mp:=h.IJ (λ_ _ j=>i _ (h.zE j)) (λ_ _ _=>rfl)
  Mh:=λid b hb=>⟨(h.Mh id b hb).1,(h.Mh id b hb).2.1,λd=>d.elim (h.Mh id b hb).2.2 (λe=>by have:=h.zE hb; omega)⟩
  Hy:=h.Hy
  EJ:=λid d=>by
   rcases d with d|rfl
   .have⟨a,b,c⟩:=h.EJ id d
    exact⟨AB,b,c⟩
   .refine⟨AD,?_,h.fresh⟩
    cases hb:g.blk s.bs.length with
    | none=>exact hb
    | some b=>exact absurd (h.FC _ b hb) (PS _)
  blk:=λid b hb=>by
   have⟨k,vs,e,h1,h2,h3,l⟩:=h.blk id b hb;exact⟨k,vs,e,(i id (h.FC id b hb)).trans h1,h2,h3,l.CX⟩
  GF:=h.GF
  D4:=h.D4 }
def Inv.fill {E:Env} {L:Ba} {g:AZ} {w:ϙ} {s:AY} (h:Inv E g w s) {id:Nat} {q:Nat->Prop} (r:∀i,q i<->g.Db i/\i≠id) {cs:Ϭ} {vs:List ϛ} (e:ϝ) (hid:id<s.bs.length) (T:g.blk id=G) (f:¬ g.dead id) (B:∀b,g.mp id≠Y b)
  (hcs:s.bs[id]?=Y cs) (hle:cs.length<=vs.length) (hl:VL g w cs (vs.take cs.length)) :
  Ext L (g.CX q) w ((g.CX q).GO id w.heap.size f) (Cy w vs e)/\Inv E ((g.CX q).GO id w.heap.size f) (Cy w vs e) s:=by
 have U:(Cy w vs e).heap.size=w.heap.size+1:=by simp[Cy]
 have n:∀i b,g.blk i=Y b->i≠id:=λi b hb e=>by grind
 have A:∀i b,g.blk i=Y b->((g.CX q).GO id w.heap.size f).blk i=Y b:=λi b hb=>(if_neg (n i b hb)).trans hb
 have inv:∀i b,((g.CX q).GO id w.heap.size f).blk i=Y b->(i=id/\b=w.heap.size)\/g.blk i=Y b:=λi b hb=>by
  simp only[AZ.GO] at hb;split at hb
  .grind
  .exact .inr hb
 have ext:Ext L (g.CX q) w ((g.CX q).GO id w.heap.size f) (Cy w vs e):={
  os:=rfl,tape:=rfl,output:=rfl,size:=AA
  mono:=λ_ _ d=>d
  cell:=λk o d=>Cg (BW (h.KZ k o d)) o
  blk:=λi b hb=>.inl (A i b hb)
  dead:=λ_ H=>H
  shape:=λi b hb _=>EA (BW (h.EY hb))
  tok:=λ_ l hl=>⟨l,hl,.inl rfl⟩
  GK:=λi b hb _=>⟨A i b hb,BW (h.EY hb)⟩
  F5:=λ_ l hl _=>⟨hl,BW (h.GM hl),λ_ d=>d⟩
  out:=λb hb _ _ _=>⟨BW hb,λ_ d=>d⟩
  mp:=λ_ _ hb=>hb
  F6:=λ_ X hb'=>⟨λ_=>BW (h.L6 hb'),λ_ I=>I⟩
  K4:=λC _ hb _=>⟨C,hb⟩
  HY:=λi b hb W=>by
   rcases inv i b hb with ⟨_,rfl⟩|hb
   .omega
   .exact⟨i,hb⟩
  K5:=λ_ l hl _=>⟨l,hl,rfl⟩
  Db:=λ_ m=>m }
 refine⟨ext,?_⟩
 exact {
  FC:=λi b hb=>by
   rcases inv i b hb with ⟨rfl,_⟩|hb
   .omega
   .exact h.FC i b hb
  EB:=h.EB
  D3:=h.D3
  blk:=λi b hb=>by
   rcases inv i b hb with ⟨rfl,rfl⟩|hb
   .exact⟨cs,vs,e,hcs,by grind[Cb],hle,hl.CX.mono ext⟩
   .have⟨D,vs',e',h1,h2,h3,M⟩:=h.blk i b hb
    exact⟨D,vs',e',h1,(BW (h.EY hb)).trans h2,h3,M.CX.mono ext⟩
  GL:=λi b o hb d=>by
   rcases inv i b hb with ⟨rfl,rfl⟩|hb
   .exact absurd (h.KZ _ o d) (PS _)
   .exact h.GL i b o hb d
  HH:=h.HH
  HI:=h.HI
  tok:=λt l hl=>by
   have⟨vs',e',h1,h2⟩:=h.tok t l hl
   grind[BW]
  HZ:=h.HZ
  FD:=λi u b hb hb'=>by
   rcases inv i b hb with ⟨rfl,rfl⟩|hb
   .rcases inv u _ hb' with ⟨rfl,_⟩|hb'
    .rfl
    .exact absurd (h.EY hb') (PS _)
   .rcases inv u b hb' with ⟨_,e⟩|hb'
    .exact absurd (h.EY ‹g.blk i=Y b›) AA
    .exact h.FD i u b ‹g.blk i=Y b› hb'
  Gt:=h.Gt
  Dc:=λi b t l hb hl=>by
   rcases inv i b hb with ⟨rfl,rfl⟩|hb
   .exact λe=>absurd (h.GM hl) AA
   .exact h.Dc i b t l hb hl
  KZ:=λb o d=>by have:=h.KZ b o d; omega
  Ev:=λi d=>by
   by_cases e:i=id
   .exact .inl ⟨_,if_pos e⟩
   .rcases h.Ev i d with ⟨b,hb⟩|x|x|x
    .grind
    .exact .inr (.inl x)
    .exact .inr (.inr (.inl ((r i).2 ⟨x,e⟩)))
    .exact .inr (.inr (.inr x))
  mp:=h.IJ (λ_ _ _=>rfl) (λ_ _ hb'=>BW (h.L6 hb'))
  Mh:=λi b hb=>by
   have⟨N,a2,O⟩:=h.Mh i b hb;have n:i≠id:=λe=>B b (by rw[<-e]; exact hb)
   exact⟨(if_neg n).trans N,a2,λm=>O ((r i).1 m).1⟩
  Hy:=h.Hy
  EJ:=λi m=>by
   have⟨h1,h2⟩:=(r i).1 m;have⟨a,b,c⟩:=h.EJ i h1;exact⟨a,(if_neg h2).trans b,c⟩
  GF:=λy p z j c S=>by
   have⟨v,h1,h2,h3⟩:=h.GF y p z j c S;exact⟨v,h1,by rw[ext.cell _ _ h1]; omega,h3.mono ext.mono ext.cell⟩
  D4:=λy p z=>by
   have⟨h1,h2⟩:=h.D4 y p z;exact⟨h1,by rw[ext.cell _ _ h1]; omega⟩ }
def ZD {E:Env} {g:AZ} {w:ϙ} {U:Nat->AV} {a:Act} {o:ϡ} {cs:Ϭ} {mk:Nat->AV} (n:∀t,V g w (U t) (a.tmps.getD t undef)) (h:hcells E U o=Y (cs,mk)) :
  ∃(vs:List ϛ) (e:ϝ) (p:Nat->ϛ),(execOp a.eval o).run E.P w=.ok (.value (p w.heap.size)) (Cy w vs e)/\VL g w cs vs /\
   (∀(g':AZ) (w':ϙ) id b,g'.blk id=Y b->w'.shape? b=Y (e,vs.length)->V g' w' (mk id) (p b))/\∀id,KY (mk id)=Y id:=by
 obtain⟨dst,op,T,pos,S,guard⟩:=o;cases op with
 | alloc t=>
  simp only[hcells] at h;split at h
  .rename_i z k
   cases A:E.bz t with
   | true=>grind
   | false=>
   rw[A] at h;simp only[AL,BU,Bg] at h;obtain⟨rfl,rfl⟩:=h;have⟨i,r,s,B,m,d⟩:=ET (g:=g) (w:=w) k;refine⟨_,t,λb=>.pointer (Y ⟨b,0,G⟩),?_,d,λg' w' id b hb _=>.ptr hb,λid=>rfl⟩;simp[*,execOp,Instr.alloc,newVar,newRow,Cy]
  grind
 | makeSlice t l c=>
  simp only[hcells] at h;split at h
  .rename_i y lv cv D H I
   split at h
   .rename_i i z s k
    split at h
    .rename_i x
     obtain⟨X,rfl,L,M,α,N⟩:=x;simp only[BU,Bg] at h;obtain⟨rfl,rfl⟩:=h;have f:=A9 n l;have j:=A9 n c;rw[H] at f;rw[I] at j;have f:=f.DX;have j:=j.DX;have⟨u,r,W,B,m,d⟩:=ET (g:=g) (w:=w) k;have:u=i:=AB;subst this;have C:r.cells.size=u.size:=by rw[<-IZ,<-d.len]; omega
     have β:=WC (w:=w) D s m C N AA (Int.le_refl _) L M;refine⟨_,y,λb=>.slice (Y ⟨b,0,G⟩) lv.toNat lv.toNat,?_,d.GC lv.toNat,λg' w' id b hb O=>?_,λid=>rfl⟩
     .grind[execOp,Sem.run_bind,Result.andThen_ok,Sem.run_pure]
     .exact .ref hb (AU _) O (by grind[Rr])
    grind
   grind
  grind
 | _=>grind[hcells]
end Go.Tel
