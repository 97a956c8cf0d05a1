/-
  Which plans for regions with a drawn order are sound: a check by computation.
-/
import Derived.Test.YtpgfpakdnijngaaGreatDoorEvN
import Derived.OrdersIn
import Derived.RangeFuncRecord
set_option linter.all false
namespace Go.Tel
def Jn:dW->Option Nat
 | .w r=>some r
 | .fa r _ _=>some r
 | _=>none
def E1 (p:Bb) (i:Nat):Option Nat:=match p.cls[i]? with
 | some c=>Jn c
 | none=>none
def Dr (p:Bb) (i:Nat):List Nat:=match p.pre[i]? with
 | some l=>l
 | none=>[]
def F4 (o:Oper):List Nat:=o.op.operands.toList.filterMap fun
 | .tmp t=>some t
 | _=>none
def Gn (ops:Array Oper) (o:Oper):List Nat:=match N9 ops o with
 | some d=>[d]
 | none=>[]
def Dw (ops:Array Oper) (i:Nat):List Nat:=match ops[i]? with
 | some o=>Gn ops o++F4 o
 | none=>[]
def jU (ops:Array Oper) (i:Nat):Option Nat:=match ops[i]? with
 | some o=>o.dst
 | none=>none
def Fh (ops:Array Oper) (i:Nat):List Nat:=match jU ops i with
 | some d=>[d]
 | none=>[]
def HL (ops:Array Oper) (p:Bb) (i:Nat):List Nat:=match p.cls[i]? with
 | some .fj=>[]
 | some .fx=>[]
 | some (.fa _ j _)=>Fh ops i++Fh ops j
 | _=>Fh ops i
def nT (ops:Array Oper) (p:Bb) (i:Nat):List Nat:=match p.cls[i]? with
 | some .fj=>[]
 | some .fx=>[]
 | some (.fa _ j x)=>(Dw ops i++Dw ops j++Dw ops x).filter λt=>!(has (Fh ops i++Fh ops j) t)
 | _=>Dw ops i
def XZ (ops:Array Oper) (p:Bb) (i:Nat):Bool:=match ops[i]? with
 | some o=>(o.after.toList.all λe=>!(Region.binds .any e)||Nat.blt e.on i) &&
   ((Dr p i).all λj=>o.after.toList.any λe=>Region.binds .any e&&(Nat.beq e.on j||has (Dr p e.on) j))
 | none=>true
def K1 (ops:Array Oper) (p:Bb) (i:Nat):Bool:=match ops[i]?,p.cls[i]? with
 | some o,some (.h _)=>o.guard.isNone&&o.dst.isSome
 | some o,some (.fa _ _ _)=>o.guard.isNone&&(HO p.GQ i).isEmpty
 | some o,some .fj=>o.guard.isNone&&(HO p.GQ i).isEmpty
 | some o,some .fx=>o.guard.isNone&&(HO p.GQ i).isEmpty
 | some _,some _=>true
 | _,_=>false
def AEI (ops:Array Oper) (n i:Nat):Bool:=(List.range n).all λj=>Nat.beq j i||(Fh ops j).all λd=>!(has (Fh ops i) d)
def rN (ops:Array Oper) (p:Bb) (n i:Nat):Bool:=(List.range n).all λj=>(Fh ops j).all λd=>!(has (Dw ops i) d) ||
 bif has (HO p.GQ i) d then Nat.beq j i||has (Dr p j) i else has (Dr p i) j
def Hs (ops:Array Oper) (p:Bb) (done:List Nat):List Nat->Bool
 | []=>true
 | i::rest=>((nT ops p i).all λt=>bif has (HO p.GQ i) t then !(has done t) else !((i::rest).any λj=>has (HL ops p j) t)) &&
   ((HL ops p i).all λt=>!(rest.any λj=>has (HL ops p j) t))&&Hs ops p (HL ops p i++done) rest
def Xa (o:Oper):Bool:=match o.op with
 | .move _|.assign _|.pick _ _ _|.build _ _|.buildSlice _ _ _|.field _ _ _|.extract _ _|.makeFunc _ _ _|.makeInterface _ _|.unOp _ _ _|.index _ _ _=>true
 | _=>false
def NF (ops:Array Oper) (i:Nat):Bool:=match ops[i]? with
 | some o=>Xa o
 | none=>false
def MU (l:List (Nat×Nat)) (i k:Nat):Bool:=l.any λy=>Nat.beq y.1 i&&Nat.beq y.2 k
def RV (ops:Array Oper) (p:Bb):List Nat->Bool
 | []=>true
 | i::rest=>(match p.cls[i]? with
  | some (.q ts)=>ts.all λt=>NF ops i||MU p.XG i t
  | some (.h ts)=>ts.all λt=>MU p.XG i t
  | _=>false)&&RV ops p rest
def J4 (ops:Array Oper) (p:Bb):List Nat->Nat->Option Nat
 | [],k=>some k
 | i::rest,k=>match p.cls[i]? with
  | some (.q ts)=>bif ts.all λt=>Nat.beq t k||NF ops i||MU p.XG i t then J4 ops p rest k else none
  | some (.w r)=>bif Nat.beq r k then J4 ops p rest (k+1) else none
  | some (.fa r _ _)=>bif Nat.beq r k then J4 ops p rest (k+1) else none
  | some .fj=>J4 ops p rest k
  | some .fx=>J4 ops p rest k
  | _=>none
def Xb (p:Bb) (n i:Nat):Bool:=match E1 p i with
 | some r=>(List.range n).all λj=>match E1 p j with
  | some r'=>Nat.beq i j||(!(Nat.beq r r')&&(!(Nat.blt r r')||has (Dr p j) i))
  | none=>true
 | none=>true
def dy (p:Bb) (n K i:Nat):Bool:=
 let f (ts:List Nat):Bool:=(List.range (K+1)).all λk=>has ts k||(List.range n).any λj=>match E1 p j with
  | some r=>(has (Dr p i) j&&Nat.ble k r)||(has (Dr p j) i&&Nat.blt r k)
  | none=>false
 match p.cls[i]? with
 | some (.q ts)=>f ts&&ts.all λk=>Nat.ble k K
 | some (.h ts)=>f ts&&ts.all λk=>Nat.ble k K
 | _=>true
def Xc (ops:Array Oper) (p:Bb) (i:Nat):Bool:=match ops[i]?,p.cls[i]? with
 | some o,some (.q _)=>match o.op with
  | .nilCheck _|.fieldAddr _ _ _|.move _=>true
  | _=>false
 | some o,some (.w _)=>match o.op with
  | .store _ _ _=>true
  | _=>false
 | _,_=>false
def NG (ops:Array Oper) (p:Bb) (n i:Nat):Bool:=match p.cls[i]? with
 | some (.fa _ j x)=>(match p.cls[j]?,p.cls[x]?,ops[i]?,ops[j]?,ops[x]? with
   | some .fj,some .fx,some o,some o1,some o2=>(fused o o1 o2).isSome
   | _,_,_,_,_=>false) &&
   has (Dr p j) i&&has (Dr p x) j&&has (Dr p x) i &&
   (List.range n).all λm=>Nat.beq m i||Nat.beq m j||Nat.beq m x||(has (Dr p i) m||(has (Dr p m) x||Xc ops p m)) &&
    ((Fh ops m).all λd=>!(has (Dw ops j) d||has (Dw ops x) d)||has (Dr p i) m)
 | some .fj=>(List.range n).any λm=>match p.cls[m]? with
  | some (.fa _ j _)=>Nat.beq j i
  | _=>false
 | some .fx=>(List.range n).any λm=>match p.cls[m]? with
  | some (.fa _ _ x)=>Nat.beq x i
  | _=>false
 | _=>true
def R7 (ops:Array Oper) (p:Bb):Bool:=
 let n:=ops.size
 match J4 ops p p.rest 0 with
 | none=>false
 | some K=>
  Nat.beq (p.first++p.rest).length n&&((List.range n).all λi=>has (p.first++p.rest) i) &&
  ((List.range n).all λi=>XZ ops p i&&K1 ops p i&&AEI ops n i&&rN ops p n i&&Xb p n i&&dy p n K i&&NG ops p n i) &&
  Hs ops p [] (p.first++p.rest)&&RV ops p p.first
def EL (pl:Nat->Option Bb):Code->Bool
 | .region id ops true=>(match pl id with
  | some p=>R7 ops p
  | none=>true)&&(match pl (id+1000000) with
  | some p=>R7 ops p
  | none=>true)
 | .seq a b=>EL pl a&&EL pl b
 | .cond _ a b=>EL pl a&&EL pl b
 | .block _ b=>EL pl b
 | .loop b=>EL pl b
 | .rangeFunc _ _ a b=>EL pl a&&EL pl b
 | _=>true
def ZQ (E:Env):Bool:=(List.range E.P.funcs.size).all λf=>match E.P.funcs[f]? with
 | some fn=>match fn.body with
  | some c=>EL (E.plan f) c
  | none=>true
 | none=>true
theorem DQ {o:Oper} {t:Nat}:t∈F4 o<->Operand.tmp t∈o.op.operands:=by
 unfold F4;rw[List.mem_filterMap];constructor
 .grind
 .intro h
  exact⟨.tmp t,by grind,rfl⟩
theorem Jo {ρ ρ':Nat->AV} {x:Operand} (h:∀t,x=.tmp t->ρ t=ρ' t):Ag ρ x=Ag ρ' x:=by
 cases x <;> simp[Ag]
 grind
theorem JJ {ρ ρ':Nat->AV} {o:Oper} (h:∀t∈F4 o,ρ t=ρ' t):∀x∈o.op.operands,Ag ρ x=Ag ρ' x:=λ_ hx=>
 Jo λ_ e=>h _ (DQ.2 (e ▸ hx))
theorem UZ {E:Env} {ρ ρ':Nat->AV} {o:Oper} (hs:∀cs b,o.op≠.select cs b) (h:∀x∈o.op.operands,Ag ρ x=Ag ρ' x):Cw E ρ o=Cw E ρ' o:=by
 unfold Cw;have h1:Eh ρ o.op.operands.toList=Eh ρ' o.op.operands.toList:=by grind[Eh]
 have h2:execOp (λx=>(HJ (Ag ρ x)).getD undef) o=execOp (λx=>(HJ (Ag ρ' x)).getD undef) o:=
  execOp_congr o hs λx hx=>by rw[h x hx]
 rw[h1,h2]
theorem Ua {ρ ρ':Nat->AV} {x:Operand} (h:Ag ρ x=Ag ρ' x):FT ρ x=FT ρ' x:=by
 unfold FT
 grind
theorem Xd {P:Program} {s:AM} {ρ ρ':Nat->AV} {op:BinOp} {t:TypeId} {x y:Operand} (hx:Ag ρ x=Ag ρ' x) (hy:Ag ρ y=Ag ρ' y) :
  II P s ρ op t x y=II P s ρ' op t x y:=by
 unfold II
 grind[Ua]
theorem QV {ρ ρ':Nat->AV} {parts:Array (Nat×Operand)} (h:∀x∈parts.map (·.2),Ag ρ x=Ag ρ' x) :
  (parts.toList.map λp=>(p.1,Ag ρ p.2))=parts.toList.map λp=>(p.1,Ag ρ' p.2):=by grind[List.map_congr_left]
theorem PJ {ρ ρ':Nat->AV} {x:Option Operand} (h:∀y,x=some y->Ag ρ y=Ag ρ' y):x.map (Ag ρ)=x.map (Ag ρ'):=by
 cases x with
 | none=>rfl
 | some y=>grind
theorem VH {E:Env} {L:A8} {ρ ρ':Nat->AV} {s:AM} {o:Oper} (h:∀x∈o.op.operands,Ag ρ x=Ag ρ' x):Cc E L ρ s o=Cc E L ρ' s o:=by
 have hq:=λhs=>UZ (E:=E) (o:=o) hs h
 obtain⟨dst,op,type,pos,after,guard⟩:=o;cases op with
 | build t parts=>simp only[Cc]; rw[QV (by simpa[Op.operands] using h)]
 | buildSlice t n parts=>simp only[Cc]; rw[QV (by simpa[Op.operands] using h)]
 | makeFunc fn a b=>
  grind[Cc,List.map_congr_left,Op.operands]
 | slice t x lo hi mx=>
  simp only[Cc];rw[hq (by simp),h x (by simp[Op.operands]),PJ (x:=lo) (λy e=>h y (by grind[Op.operands])),PJ (x:=hi) (λy e=>h y (by grind[Op.operands])),PJ (x:=mx) (λy e=>h y (by grind[Op.operands]))]
 | call c=>
  obtain⟨callee,args,ts⟩:=c;cases callee with
  | value f=>rfl
  | invoke r n=>rfl
  | builtin b=>
   have ha:∀x∈args.toList,Ag ρ x=Ag ρ' x:=λx hx=>h x (by grind[Op.operands,Call.operands])
   cases b with
   | len=>
    simp only[Cc];rw[hq (by simp)]
    grind
   | append=>
    grind[Cc]
   | delete=>
    grind[Cc]
   | _=>simp[*,Cc]
 | binOp op t x y yt=>
  simp only[Cc];rw[hq (by simp),Xd (h x (by simp[Op.operands])) (h y (by simp[Op.operands])),h x (by simp[Op.operands]),h y (by simp[Op.operands])]
 | convert a b x=>simp_all[Cc,Op.operands]
 | unOp op t x=>simp_all[Cc,Op.operands]
 | index t x i=>simp_all[Cc,Op.operands]
 | move x=>grind[Cc,Op.operands]
 | assign x=>grind[Cc,Op.operands]
 | pick c a b=>grind[Cc,Op.operands]
 | alloc t=>rfl
 | box t x=>grind[Cc,Op.operands]
 | makeSlice t l c=>grind[Cc,Op.operands]
 | load t x=>grind[Cc,Op.operands]
 | store t x y=>grind[Cc,Op.operands]
 | nilCheck x=>grind[Cc,Op.operands]
 | fieldAddr t x f=>grind[Cc,Op.operands]
 | field t x f=>grind[Cc,Op.operands]
 | indexAddr t x i=>grind[Cc,Op.operands]
 | extract x i=>grind[Cc,Op.operands]
 | makeInterface t x=>grind[Cc,Op.operands]
 | makeMap t r=>grind[Cc]
 | lookup t m k ok=>grind[Cc,Op.operands]
 | mapUpdate t m k x=>grind[Cc,Op.operands]
 | insert t m k x=>grind[Cc,Op.operands]
 | _=>rfl
theorem Ub {ρ ρ':Nat->AV} {c:Call} (h:∀x∈c.operands,Ag ρ x=Ag ρ' x):Kw ρ c=Kw ρ' c:=by
 obtain⟨callee,args,ts⟩:=c;unfold Kw
 grind[List.map_congr_left,Call.operands]
theorem dz {E:Env} {L:A8} {cf:Cr} {ρ ρ':Nat->AV} {s:AM} {o:Oper} (h:∀x∈o.op.operands,Ag ρ x=Ag ρ' x):M9 E L cf ρ s o=M9 E L cf ρ' s o:=by
 rw[OA,OA];unfold nM;rw[VH h];split
 .rename_i c hc
  have:∀x∈c.operands,Ag ρ x=Ag ρ' x:=λx hx=>h x (by rw[hc]; exact hx)
  grind[Ub]
 rfl
theorem Xe {E:Env} {L:A8} {ρ ρ':Nat->AV} {s:AM} {o:Oper} (h:∀x∈o.op.operands,Ag ρ x=Ag ρ' x):JD E L ρ s o=JD E L ρ' s o:=by
 rw[KI,KI];unfold ER;rw[VH h]
theorem Mw {ops:Array Oper} {ρ ρ':Nat->AV} {o:Oper} (h:∀t∈Gn ops o,ρ t=ρ' t):E9 ops ρ o=E9 ops ρ' o:=by grind[E9,Gn]
theorem Ip {E:Env} {L:A8} {ops:Array Oper} {ρ ρ':Nat->AV} {s:AM} {o:Oper} (h:∀t∈Gn ops o++F4 o,ρ t=ρ' t):FA E L ops ρ s o=FA E L ops ρ' s o:=by grind[FA,Mw,Xe,JJ]
theorem NH {E:Env} {L:A8} {cf:Cr} {ops:Array Oper} {ρ ρ':Nat->AV} {s:AM} {o:Oper} (h:∀t∈Gn ops o++F4 o,ρ t=ρ' t):NA E L cf ops ρ s o=NA E L cf ops ρ' s o:=by grind[NA,Mw,dz,JJ]
theorem OH {E:Env} {ρ ρ':Nat->AV} {o:Oper} (h:∀t∈F4 o,ρ t=ρ' t):hcells E ρ o=hcells E ρ' o:=by grind[JJ,hcells,Op.operands]
theorem R8 {E:Env} {L:A8} {ρ:Nat->AV} {s:AM} {o:Oper} {v:AV} (h:JD E L ρ s o=some v):Cc E L ρ s o=some (v,s):=by
 rw[KI] at h;have key:∀(r:Option (AV×AM)),(∀u s',r=some (u,s')->s'=s)->(match r with|some (v,_)=>some v|none=>none)=some v->r=some (v,s):=by grind
 have qz:∀(r:Option AV) (z:Option (AV×AM)),(match r with|some v=>some (v,s)|none=>none)=z->∀u s',z=some (u,s')->s'=s:=by grind
 obtain⟨dst,op,type,pos,after,guard⟩:=o;cases op with
 | alloc t=>grind[ER]
 | box t x=>grind[ER]
 | makeSlice t l c=>
  simp only[ER] at h;split at h
  .rename_i s1 hop
   simp at h; subst h;rw[hop];simp only[Cc,dX] at hop
   grind
  grind
 | store t x y=>grind[ER]
 | makeMap t r=>grind[ER]
 | mapUpdate t m k x=>grind[ER]
 | insert t m k x=>grind[ER]
 | lookup t m k ok=>exact key _ (λu s' hr=>by grind[Cc]) h
 | buildSlice t n parts=>
  simp only[ER] at h;split at h
  .rename_i elem hu
   cases XV:L.mu elem with
   | true=>grind
   | false=>
    simp only[XV,AG] at h;refine key _ (λu s' hr=>?_) h;simp only[Cc,Gj,hu,XV,Ga,AG] at hr
    grind
  grind
 | call c=>
  grind[ER,Cc]
 | slice t x lo hi mx=>
  refine key _ (λu s' hr=>?_) h
  grind[Cc]
 | binOp op t x y yt=>
  refine key _ (λu s' hr=>?_) h
  grind[Cc]
 | convert a b x=>
  refine key _ (λu s' hr=>?_) h
  grind[Cc]
 | pick c a b=>
  refine key _ (λu s' hr=>?_) h
  grind[Cc]
 | makeInterface t x=>
  refine key _ (λu s' hr=>?_) h
  grind[Cc]
 | move x=>exact key _ (λu s' hr=>by grind[Cc]) h
 | assign x=>exact key _ (λu s' hr=>by grind[Cc]) h
 | makeFunc fn a b=>exact key _ (λu s' hr=>by grind[Cc]) h
 | build t parts=>exact key _ (λu s' hr=>by grind[Cc]) h
 | load t x=>exact key _ (λu s' hr=>by grind[Cc]) h
 | nilCheck x=>exact key _ (λu s' hr=>by grind[Cc]) h
 | fieldAddr t x f=>exact key _ (λu s' hr=>by grind[Cc]) h
 | field t x f=>exact key _ (λu s' hr=>by grind[Cc]) h
 | indexAddr t x i=>exact key _ (λu s' hr=>by grind[Cc]) h
 | extract x i=>exact key _ (λu s' hr=>by grind[Cc]) h
 | unOp op t x=>
  refine key _ (λu s' hr=>?_) h
  grind[Cc]
 | index t x i=>
  refine key _ (λu s' hr=>?_) h
  grind[Cc]
 | _=>exact key _ (λu s' hr=>by grind[Cc]) h
theorem Xf {E:Env} {L:A8} {ρ:Nat->AV} {s s':AM} {o:Oper} {v:AV} (hp:Xa o=true) (h:JD E L ρ s o=some v):JD E L ρ s' o=some v:=by
 rw[KI] at h ⊢
 have mm:∀(r:Option AV) (s s':AM),(match (match r with|some v=>some (v,s)|none=>none:Option (AV×AM)) with|some (v,_)=>some v|none=>none)=some v ->
   (match (match r with|some v=>some (v,s')|none=>none:Option (AV×AM)) with|some (v,_)=>some v|none=>none)=some v:=by grind
 obtain⟨dst,op,type,pos,after,guard⟩:=o;cases op with
 | buildSlice t n parts=>
  simp only[ER] at h ⊢;split at h
  .rename_i elem hu
   cases XV:L.mu elem with
   | true=>grind
   | false=>
    simp only[XV,AG] at h ⊢;simp only[Cc,Gj,hu,XV,Ga,AG] at h ⊢;split at h
    .rename_i q hq
     split at hq
     all_goals grind
    grind
  omega
 | move x=>exact h
 | assign x=>exact h
 | pick c a b=>
  grind[ER,Cc]
 | makeFunc fn a b=>exact h
 | makeInterface t x=>
  grind[ER,Cc]
 | build t parts=>grind[ER,Cc]
 | field t x f=>grind[ER,Cc]
 | extract x i=>grind[ER,Cc]
 | unOp op t x=>
  grind[ER,Cc]
 | index t x i=>
  grind[ER,Cc]
 | _=>grind[Xa]
theorem eB {a b:IntKind} (h:GJ a=GJ b):a=b:=by cases a <;> cases b <;> grind[GJ]
theorem ZR {a b:Int} (h:ZL a b=true):a=b:=by
 unfold ZL at h;split at h
 all_goals simp_all
theorem PK {a b:Value} (h:eqV a b=true):a=b:=by
 unfold eqV at h;split at h
 .grind[eB,Nat.eq_of_beq_eq_true,ZR]
 .grind
 .rename_i x y
  have:=Mx _ _ h;congr 1;cases x; simp_all
 all_goals simp_all
mutual
theorem VI:∀(a b:PV),Mm a b=true->a=b
 | .sc a,.sc b,h=>by grind[Mm,PK]
 | .list a,.list b,h=>by simp only[Mm] at h; rw[Jp a b h]
 | .sc _,.list _,h=>by simp[Mm] at h
 | .list _,.sc _,h=>by simp[Mm] at h
theorem NI:∀(a b:List PV),Le a b=true->a=b
 | [],[],_=>rfl
 | x::xs,y::ys,h=>by
  simp only[Le,AE] at h;rw[VI x y h.1,NI xs ys h.2]
 | [],_::_,h=>by grind[Le]
 | _::_,[],h=>by grind[Le]
theorem Jp:∀(a b:List (List PV)),IV a b=true->a=b
 | [],[],_=>rfl
 | x::xs,y::ys,h=>by
  simp only[IV,AE] at h;rw[NI x y h.1,Jp xs ys h.2]
 | [],_::_,h=>by grind[IV]
 | _::_,[],h=>by grind[IV]
end
theorem R9:∀(a b:List MapEntry),nN a b=true->a=b
 | [],[],_=>rfl
 | ⟨k,v,n⟩::xs,⟨k',v',n'⟩::ys,h=>by
  simp only[nN,AE] at h;rw[PK h.1.1.1,PK h.1.1.2,Bz h.1.2,R9 xs ys h.2]
 | [],_::_,h=>by grind[nN]
 | _::_,[],h=>by grind[nN]
mutual
theorem PL:∀(a b:AV),Bg a b=true->a=b
 | .pv a,b,h=>by
  cases b <;> simp only[Bg,DH] at h;rw[VI _ _ h]
 | .ptr a c,b,h=>by
  cases b <;> simp only[Bg,DH,AE] at h;rw[Bz h.1,Bz h.2]
 | .DS a c,b,h=>by
  cases b <;> simp only[Bg,DH,AE] at h;rw[Bz h.1,Bz h.2]
 | .Cq a c,b,h=>by
  cases b <;> simp only[Bg,DH,AE] at h;rw[NI _ _ h.1,Bz h.2]
 | .AB a,b,h=>by
  cases b <;> simp only[Bg,DH] at h;rw[Jp _ _ h]
 | .own t a,b,h=>by
  cases b <;> simp only[Bg,DH,AE] at h;rw[Bz h.1,Jp _ _ h.2]
 | .ref a c d e,b,h=>by
  cases b <;> simp only[Bg,DH,AE] at h;rw[Bz h.1.1.1,Bz h.1.1.2,Bz h.1.2,Bz h.2]
 | .func f a c,b,h=>by
  cases b with
  | func g d e=>cases f <;> cases g <;> simp only[Bg,DH,AE] at h
                rw[Bz h.1.1,HW _ _ h.1.2,HW _ _ h.2]
  | _=>cases f <;> simp only[Bg,DH] at h
 | .iface t a,b,h=>by
  cases b <;> simp only[Bg,DH,AE] at h;rw[Bz h.1,PL _ _ h.2]
 | .agg a,b,h=>by
  cases b <;> simp only[Bg,DH] at h;rw[HW _ _ h]
 | .tuple a,b,h=>by
  cases b <;> simp only[Bg,DH] at h;rw[HW _ _ h]
 | .Gw,b,h=>by
  cases b <;> simp only[Bg,DH] at h;rfl
 | .G8 a,b,h=>by
  cases b <;> simp only[Bg,DH] at h;rw[Bz h]
 | .N8 a c,b,h=>by
  cases b <;> simp only[Bg,DH,AE] at h;rw[R9 _ _ h.1,Bz h.2]
 | .bz a c d,b,h=>by
  cases b <;> simp only[Bg,DH,AE] at h;rw[Bz h.1.1,Bz h.1.2,Bz h.2]
theorem HW:∀(a b:List AV),Hx a b=true->a=b
 | [],[],_=>rfl
 | x::xs,y::ys,h=>by
  simp only[Hx,AE] at h;rw[PL x y h.1,HW xs ys h.2]
 | [],_::_,h=>by grind[Hx]
 | _::_,[],h=>by grind[Hx]
end
def FW (rd:Option Nat):Fence:={ Fence.wide with round:=rd }
theorem Xg {P:Program} {ρ:Operand->Value} {o:Oper} {w w':World} {x:Next} (hr:(execOp ρ o).run P w=.ok x w') (hx:∀d,x≠.defer d):∀c,o.op≠.defer c:=by
 intro c e;unfold execOp at hr;rw[e] at hr;simp only[Sem.run_bind] at hr;cases hq:(resolve ρ c o.type).run P w with
 | ok d w1=>
  grind[Result.andThen_ok,Sem.run_pure]
 | halt h w1=>simp_all
section
variable {rd:Option Nat} {P:Program} {o:Oper} {a:Act} {w w':World} {K:Act->World->Prop} {Q:Exit->Act->World->Prop}
theorem Jq {v:Value} (hr:(execOp a.eval o).run P w=.ok (.value v) w') (h:K (a.put o.dst v) w'):o.wpIn (FW rd) 0 P a w K Q:=
 ⟨λ_ _=>trivial,by rw[Oper.semAt_eq _ _ _ (Xg hr λd e=>by cases e),hr]; exact h⟩
theorem Iq (hr:(execOp a.eval o).run P w=.ok .skip w') (h:K (a.put o.dst undef) w'):o.wpIn (FW rd) 0 P a w K Q:=
 ⟨λ_ _=>trivial,by rw[Oper.semAt_eq _ _ _ (Xg hr λd e=>by cases e),hr]; exact h⟩
theorem Uc {f:FuncId} {args:Array Value} (hr:(execOp a.eval o).run P w=.ok (.enter f args) w') (h:Calls P f args w' λe w''=>∃v,e=.returned v/\K (a.put o.dst v) w''):o.wpIn (FW rd) 0 P a w K Q:=by
 refine⟨λ_ _=>trivial,?_⟩;rw[Oper.semAt_eq _ _ _ (Xg hr λd e=>by cases e),hr];refine⟨λe=>by grind[FW,Fence.wide],?_⟩;refine(callsIn_wide (n:=0-1)).2 (h.mono ?_)
 grind
end
def HX (E:Env) (L:A8) (cf:Cr):Prop:=
 ∀(f:FuncId) (args:List AV) (s s':AM) (v:AV) (g:AH) (w:World) (vs:List Value),cf f args s=some (v,s')->Inv E g w s->VL g w args vs ->
  (∃fn,E.P.funcs[f]?=some fn/\fn.body.isSome=true/\(fn.name== "runtime.NumGoroutine")=false) /\
  Calls E.P f vs.toArray w λe w'=>∃v' g',e=.returned v'/\V g' w' v v'/\Ext L g w g' w'/\Inv E g' w' s'
theorem V.ZS {g:AH} {w:World} {fn:Fn} {first captured:List AV} {v:Value} (h:V g w (.func fn first captured) v) :
  ∃vs us,v=.func fn (List.toArray vs) (List.toArray us)/\VL g w first vs/\VL g w captured us:=by
 cases h with|func hl hm h k=>exact⟨_,_,rfl,⟨hl,h⟩,⟨hm,k⟩⟩
theorem NJ {E:Env} {L:A8} {cf:Cr} {g:AH} {w:World} {s s':AM} {ρ:Nat->AV} {a:Act} {o:Oper} {v:AV} {K:Act->World->Prop} {Q:Exit->Act->World->Prop}
  (RX:HX E L cf) (hI:Inv E g w s) (hρ:∀t,V g w (ρ t) (a.tmps.getD t undef)) (h:M9 E L cf ρ s o=some (v,s'))
  (hk:∀v' w' g',V g' w' v v'->Ext L g w g' w'->Inv E g' w' s'->K (a.put o.dst v') w') {rd:Option Nat}:o.wpIn (FW rd) 0 E.P a w K Q:=by
 have AVb:Cc E L ρ s o=some (v,s')->o.wpIn (FW rd) 0 E.P a w K Q:=by
  intro h;obtain⟨v',w',g',hg,hv,he,hi⟩:=nU hI hρ h;rcases hg with hg|⟨hg,rfl⟩
  all_goals grind[Jq,Iq]
 rw[OA] at h;unfold nM at h;split at h
 .rename_i c hc
  split at h
  .grind
  .split at h
   .rename_i f args rO
    unfold Kw at rO;split at rO
    .rename_i x hx
     split at rO
     .rename_i gf first captured hev
      simp only[BG,BK] at rO;obtain⟨rfl,rfl⟩:=rO;have hfv:=Aj hρ x;rw[hev] at hfv;obtain⟨vs,us,hval,h1,h2⟩:=hfv.ZS;have hargs:=PM hρ c.args.toList;obtain⟨⟨fn,hfn,hbody,hname⟩,AVc⟩:=RX _ _ _ _ _ _ _ _ h hI ((h1.append hargs).append h2)
      have hrun:(execOp a.eval o).run E.P w=.ok (.enter gf (vs++List.map a.eval c.args.toList++us).toArray) w:=by
       obtain⟨dst,op,type,pos,after,guard⟩:=o;simp only at hc;subst hc;have Xh:(vs.toArray++c.args.map a.eval)++us.toArray=(vs++List.map a.eval c.args.toList++us).toArray:=by simp
       have hnb:fn.body.isNone=false:=by simp[*]
       simp only[execOp,resolve,hx,hval,Deferred.ofValue,Sem.run_bind,Sem.run_pure,Result.andThen_ok,invoke,callFunc,Xh,run_program,hfn,hname,hnb,DH,Ia]
      grind[Uc,Calls.mono]
     grind
    grind
   grind
 grind
theorem DG {g:AH} {w:World} {ρ:Nat->AV} {a:Act} (hρ:∀t,V g w (ρ t) (a.tmps.getD t undef)) {ops:Array Oper} {o:Oper} {b:Bool} (h:E9 ops ρ o=some b) :
  Region.wanted o (yielded ops a.tmps)=b:=by
 unfold E9 N9 at h;unfold Region.wanted;cases hg:o.guard with
 | none=>grind
 | some jw=>
  obtain⟨j,want⟩:=jw;rw[hg] at h;simp only at h ⊢;unfold yielded;cases hp:ops[j]? with
  | none=>grind
  | some p=>
   rw[hp] at h;simp only[W5] at h ⊢;cases hd:p.dst with
   | none=>grind
   | some d=>
    rw[hd] at h;simp only[W5] at h ⊢;have hv:=hρ d;split at h
    .rename_i c hc
     rw[hc] at hv;have hv:=hv.C2;simp at h;subst h;cases hx:a.tmps[d]? with
     | none=>grind[undef]
     | some y=>simp_all
    .rename_i hc
     rw[hc] at hv;obtain⟨vs,hu,hvl⟩:=hv.PG;have:=hvl.F2;subst this;simp at h;subst h;cases hx:a.tmps[d]? with
     | none=>simp
     | some y=>simp_all
    grind
def AH.B6 (g:AH) (q:Nat->Prop):AH:={ g with C9:=q }
theorem V.B6 {g:AH} {w:World} {q:Nat->Prop} {x:AV} {v:Value} (h:V g w x v):V (g.B6 q) w x v:=by
 induction h with
 | pv h=>exact .pv h
 | ptr h=>exact .ptr h
 | Ky h=>exact .Ky h
 | DS gl off=>grind[DS]
 | Cq off f h=>exact .Cq off f h
 | AB h=>exact .AB h
 | own h hcap ht hn hf=>exact .own h hcap ht hn hf
 | ref h hcap hs hn=>exact .ref h hcap hs hn
 | Im h=>exact .Im h
 | Gw=>exact .Gw
 | G8 h=>exact .G8 h
 | bz h hs=>exact .bz h hs
 | qW h=>exact .qW h
 | func hl hm _ _ ih ik=>grind[func]
 | iface _ ih=>exact .iface ih
 | agg hl _ ih=>grind[agg]
 | tuple hl _ ih=>grind[tuple]
theorem VL.B6 {g:AH} {w:World} {q:Nat->Prop} {cs:List AV} {vs:List Value} (h:VL g w cs vs):VL (g.B6 q) w cs vs:=
 ⟨h.len,λi c v h1 h2=>(h.at_ i c v h1 h2).B6⟩
theorem Ext.B6 {L:A8} {g g':AH} {w w':World} {q:Nat->Prop} (h:Ext L g w g' w') (hq:∀id,g.C9 id->q id):Ext L g w (g'.B6 q) w':=
 {os:=h.os,tape:=h.tape,output:=h.output,size:=h.size,mono:=h.mono,cell:=h.cell,blk:=h.blk,dead:=h.dead,shape:=h.shape,tok:=h.tok,GH:=h.GH,Fc:=h.Fc,
  out:=h.out,mp:=h.mp,Fe:=h.Fe,KL:=h.KL,G9:=h.G9,KM:=h.KM,C9:=hq }
theorem Inv.B6 {E:Env} {g:AH} {w:World} {s:AM} {q:Nat->Prop} (h:Inv E g w s) (hq:∀id,q id->id<s.bs.length/\g.blk id=none/\¬ g.dead id) (hall:∀id,g.C9 id->q id) (hm:∀id b,g.mp id=some b->¬ q id):Inv E (g.B6 q) w s:=
 {El:=h.El,Dc:=h.Dc,F3:=h.F3,Dd:=h.Dd,Ge:=h.Ge,Gf:=h.Gf,tok:=h.tok,Gx:=h.Gx,Ez:=h.Ez,GK:=h.GK,DE:=h.DE,J3:=h.J3,
  Dl:=hq
  EJ:=λid hid=>(h.EJ id hid).imp (λx=>x) (λx=>x.imp (λy=>y) (λy=>y.imp (hall id) (λz=>z)))
  mp:=h.mp
  LN:=λid b hb=>⟨(h.LN id b hb).1,(h.LN id b hb).2.1,hm id b hb⟩
  HK:=h.HK
  blk:=λid b hb=>by
   obtain⟨cs,vs,e,h1,h2,h3,h4⟩:=h.blk id b hb;exact⟨cs,vs,e,h1,h2,h3,h4.B6⟩
  FZ:=h.FZ
  DZ:=h.DZ }
theorem Inv.reserve {E:Env} {g:AH} {w:World} {s:AM} (h:Inv E g w s) (cs:List AV) :
  Inv E (g.B6 λid=>g.C9 id\/id=s.bs.length) w { s with bs:=s.bs++[cs] }:=by
 have hlt:∀id,id<s.bs.length->(s.bs++[cs])[id]?=s.bs[id]?:=λid hid=>Ci hid
 exact {
  El:=λid b hb=>by have:=h.El id b hb; grind
  Dc:=λid hd=>by have:=h.Dc id hd; grind
  F3:=h.F3
  Dd:=λid hd=>(hlt id (h.Dc id hd)).trans (h.Dd id hd)
  Ge:=h.Ge,Gf:=h.Gf,tok:=h.tok,Gx:=h.Gx,Ez:=h.Ez,GK:=h.GK,DE:=h.DE,J3:=h.J3
  EJ:=λid hid=>by
   by_cases e:id=s.bs.length
   .exact .inr (.inr (.inl (.inr e)))
   .rcases h.EJ id (by grind) with q|q|q|q
    .exact .inl q
    .exact .inr (.inl q)
    .exact .inr (.inr (.inl (.inl q)))
    .exact .inr (.inr (.inr q))
  mp:=h.IL (λ_ _ hb'=>hlt _ (h.mpN hb')) (λ_ _ _=>rfl)
  LN:=λid b hb=>⟨(h.LN id b hb).1,(h.LN id b hb).2.1,λhp=>hp.elim (h.LN id b hb).2.2 (λe=>by have:=h.mpN hb; omega)⟩
  HK:=h.HK
  Dl:=λid hp=>by
   rcases hp with hp|rfl
   .obtain⟨a,b,c⟩:=h.Dl id hp
    exact⟨by grind,b,c⟩
   .refine⟨by simp,?_,h.fresh⟩
    cases hb:g.blk s.bs.length with
    | none=>exact hb
    | some b=>exact absurd (h.El _ b hb) (Nx _)
  blk:=λid b hb=>by
   obtain⟨vcs,vs,e,h1,h2,h3,h4⟩:=h.blk id b hb;exact⟨vcs,vs,e,(hlt id (h.El id b hb)).trans h1,h2,h3,h4.B6⟩
  FZ:=h.FZ
  DZ:=h.DZ }
theorem Inv.fill {E:Env} {L:A8} {g:AH} {w:World} {s:AM} (h:Inv E g w s) {id:Nat} {q:Nat->Prop} (hq:∀i,q i<->g.C9 i/\i≠id) {cs:List AV} {vs:List Value} (e:TypeId) (hid:id<s.bs.length) (hnb:g.blk id=none) (hnd:¬ g.dead id) (hnm:∀b,g.mp id≠some b)
  (hcs:s.bs[id]?=some cs) (hle:cs.length<=vs.length) (hl:VL g w cs (vs.take cs.length)) :
  Ext L (g.B6 q) w ((g.B6 q).Fg id w.heap.size hnd) (CW w vs e)/\Inv E ((g.B6 q).Fg id w.heap.size hnd) (CW w vs e) s:=by
 have hsz:(CW w vs e).heap.size=w.heap.size+1:=by simp[CW]
 have hne:∀i b,g.blk i=some b->i≠id:=λi b hb e=>by grind
 have hbk:∀i b,g.blk i=some b->((g.B6 q).Fg id w.heap.size hnd).blk i=some b:=λi b hb=>(if_neg (hne i b hb)).trans hb
 have inv:∀i b,((g.B6 q).Fg id w.heap.size hnd).blk i=some b->(i=id/\b=w.heap.size)\/g.blk i=some b:=λi b hb=>by
  simp only[AH.Fg] at hb;split at hb
  .grind
  .exact .inr hb
 have ext:Ext L (g.B6 q) w ((g.B6 q).Fg id w.heap.size hnd) (CW w vs e):={
  os:=rfl,tape:=rfl,output:=rfl,size:=by omega
  mono:=λ_ _ hi=>hi
  cell:=λk o hi=>Cd (BC (h.J3 k o hi)) o
  blk:=λi b hb=>.inl (hbk i b hb)
  dead:=λ_ hd=>hd
  shape:=λi b hb _=>D0 (BC (h.E2 hb))
  tok:=λ_ l hl=>⟨l,hl,.inl rfl⟩
  GH:=λi b hb _=>⟨hbk i b hb,BC (h.E2 hb)⟩
  Fc:=λ_ l hl _=>⟨hl,BC (h.HC hl),λ_ hi=>hi⟩
  out:=λb hb _ _ _=>⟨BC hb,λ_ hi=>hi⟩
  mp:=λ_ _ hb=>hb
  Fe:=λ_ b' hb'=>⟨λ_=>BC (h.OD hb'),λ_ ho=>ho⟩
  KL:=λid' _ hb _=>⟨id',hb⟩
  G9:=λi b hb hlt=>by
   rcases inv i b hb with ⟨_,rfl⟩|hb
   .omega
   .exact⟨i,hb⟩
  KM:=λ_ l hl _=>⟨l,hl,rfl⟩
  C9:=λ_ hp=>hp }
 refine⟨ext,?_⟩
 exact {
  El:=λi b hb=>by
   rcases inv i b hb with ⟨rfl,_⟩|hb
   .omega
   .exact h.El i b hb
  Dc:=h.Dc
  Dd:=h.Dd
  blk:=λi b hb=>by
   rcases inv i b hb with ⟨rfl,rfl⟩|hb
   .exact⟨cs,vs,e,hcs,by grind[CD],hle,hl.B6.mono ext⟩
   .obtain⟨cs',vs',e',h1,h2,h3,h4⟩:=h.blk i b hb
    exact⟨cs',vs',e',h1,(BC (h.E2 hb)).trans h2,h3,h4.B6.mono ext⟩
  F3:=λi b o hb hi=>by
   rcases inv i b hb with ⟨rfl,rfl⟩|hb
   .exact absurd (h.J3 _ o hi) (Nx _)
   .exact h.F3 i b o hb hi
  Ge:=h.Ge
  Gf:=h.Gf
  tok:=λt l hl=>by
   obtain⟨vs',e',h1,h2⟩:=h.tok t l hl
   grind[BC]
  Gx:=h.Gx
  Ez:=λi i' b hb hb'=>by
   rcases inv i b hb with ⟨rfl,rfl⟩|hb
   .rcases inv i' _ hb' with ⟨rfl,_⟩|hb'
    .rfl
    .exact absurd (h.E2 hb') (Nx _)
   .rcases inv i' b hb' with ⟨_,e⟩|hb'
    .exact absurd (h.E2 ‹g.blk i=some b›) (by omega)
    .exact h.Ez i i' b ‹g.blk i=some b› hb'
  GK:=h.GK
  DE:=λi b t l hb hl=>by
   rcases inv i b hb with ⟨rfl,rfl⟩|hb
   .exact λe=>absurd (h.HC hl) (by omega)
   .exact h.DE i b t l hb hl
  J3:=λb o hi=>by have:=h.J3 b o hi; omega
  EJ:=λi hi=>by
   by_cases e:i=id
   .exact .inl ⟨_,if_pos e⟩
   .rcases h.EJ i hi with ⟨b,hb⟩|x|x|x
    .grind
    .exact .inr (.inl x)
    .exact .inr (.inr (.inl ((hq i).2 ⟨x,e⟩)))
    .exact .inr (.inr (.inr x))
  mp:=h.IL (λ_ _ _=>rfl) (λ_ _ hb'=>BC (h.OD hb'))
  LN:=λi b hb=>by
   obtain⟨a1,a2,a3⟩:=h.LN i b hb;have hne:i≠id:=λe=>hnm b (by rw[<-e]; exact hb)
   exact⟨(if_neg hne).trans a1,a2,λhp=>a3 ((hq i).1 hp).1⟩
  HK:=h.HK
  Dl:=λi hp=>by
   obtain⟨h1,h2⟩:=(hq i).1 hp;obtain⟨a,b,c⟩:=h.Dl i h1;exact⟨a,(if_neg h2).trans b,c⟩
  FZ:=λgl row hr j c hj=>by
   obtain⟨v,h1,h2,h3⟩:=h.FZ gl row hr j c hj;exact⟨v,h1,by rw[ext.cell _ _ h1]; omega,h3.mono ext.mono ext.cell⟩
  DZ:=λgl row hr=>by
   obtain⟨h1,h2⟩:=h.DZ gl row hr;exact⟨h1,by rw[ext.cell _ _ h1]; omega⟩ }
theorem Xi {E:Env} {g:AH} {w:World} {ρ:Nat->AV} {a:Act} {o:Oper} {cs:List AV} {mk:Nat->AV} (hρ:∀t,V g w (ρ t) (a.tmps.getD t undef)) (h:hcells E ρ o=some (cs,mk)) :
  ∃(vs:List Value) (e:TypeId) (mv:Nat->Value),(execOp a.eval o).run E.P w=.ok (.value (mv w.heap.size)) (CW w vs e)/\VL g w cs vs /\
   (∀(g':AH) (w':World) id b,g'.blk id=some b->w'.shape? b=some (e,vs.length)->V g' w' (mk id) (mv b))/\∀id,IK (mk id)=some id:=by
 obtain⟨dst,op,type,pos,after,guard⟩:=o;cases op with
 | alloc t=>
  simp only[hcells] at h;split at h
  .rename_i z hz
   cases hbz:E.bz t with
   | true=>grind
   | false=>
   rw[hbz] at h;simp only[AG,BG,BK] at h;obtain⟨rfl,rfl⟩:=h;obtain⟨i,zv,hi,nR,hrun,hvl⟩:=Dv (g:=g) (w:=w) hz;refine⟨_,t,λb=>.pointer (some ⟨b,0,none⟩),?_,hvl,λg' w' id b hb _=>.ptr hb,λid=>rfl⟩;simp[*,execOp,Instr.alloc,newVar,newRow,CW]
  grind
 | makeSlice t l c=>
  simp only[hcells] at h;split at h
  .rename_i elem lv cv hu hl hc
   split at h
   .rename_i i z hi hz
    split at h
    .rename_i OI
     obtain⟨h1,rfl,h3,h4,h5,h6⟩:=OI;simp only[BG,BK] at h;obtain⟨rfl,rfl⟩:=h;have dR:=Aj hρ l;have NC:=Aj hρ c;rw[hl] at dR;rw[hc] at NC;have dR:=dR.C2;have NC:=NC.C2;obtain⟨i',zv,hi',nR,hrun,hvl⟩:=Dv (g:=g) (w:=w) hz;have:i'=i:=by grind
     subst this;have hzs:zv.cells.size=i'.size:=by rw[<-Ho,<-hvl.len]; omega
     have hr:=Ud (w:=w) hu hi hrun hzs h6 (by omega) (Int.le_refl _) h3 h4;refine⟨_,elem,λb=>.slice (some ⟨b,0,none⟩) lv.toNat lv.toNat,?_,hvl.FY lv.toNat,λg' w' id b hb hs=>?_,λid=>rfl⟩
     .grind[execOp,Sem.run_bind,Result.andThen_ok,Sem.run_pure]
     .exact .ref hb (Aa _) hs (by grind[QU])
    grind
   grind
  grind
 | _=>grind[hcells]
end Go.Tel
