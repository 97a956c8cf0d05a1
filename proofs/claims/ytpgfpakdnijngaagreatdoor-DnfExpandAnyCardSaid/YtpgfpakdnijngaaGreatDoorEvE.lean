/-
  Which plans for regions with a drawn order are sound: a check by computation.
-/
import Derived.Test.YtpgfpakdnijngaaGreatDoorEvN
import Derived.OrdersIn
import Derived.RangeFuncRecord
set_option linter.all false
namespace Go.Tel
def Jq:eH->Option Nat
 | .w r=>some r
 | .fa r _ _=>some r
 | _=>none
def FI (p:Bd) (i:Nat):Option Nat:=match p.cls[i]? with
 | some c=>Jq c
 | none=>none
def Du (p:Bd) (i:Nat):List Nat:=match p.pre[i]? with
 | some l=>l
 | none=>[]
def F6 (o:Oper):List Nat:=o.op.operands.toList.filterMap fun
 | .tmp t=>some t
 | _=>none
def Gr (ops:Array Oper) (o:Oper):List Nat:=match OS ops o with
 | some d=>[d]
 | none=>[]
def Dz (ops:Array Oper) (i:Nat):List Nat:=match ops[i]? with
 | some o=>Gr ops o++F6 o
 | none=>[]
def jg (ops:Array Oper) (i:Nat):Option Nat:=match ops[i]? with
 | some o=>o.dst
 | none=>none
def Fp (ops:Array Oper) (i:Nat):List Nat:=match jg ops i with
 | some d=>[d]
 | none=>[]
def HO (ops:Array Oper) (p:Bd) (i:Nat):List Nat:=match p.cls[i]? with
 | some .fj=>[]
 | some .fx=>[]
 | some (.fa _ j _)=>Fp ops i++Fp ops j
 | _=>Fp ops i
def n8 (ops:Array Oper) (p:Bd) (i:Nat):List Nat:=match p.cls[i]? with
 | some .fj=>[]
 | some .fx=>[]
 | some (.fa _ j x)=>(Dz ops i++Dz ops j++Dz ops x).filter λt=>!(has (Fp ops i++Fp ops j) t)
 | _=>Dz ops i
def Xu (ops:Array Oper) (p:Bd) (i:Nat):Bool:=match ops[i]? with
 | some o=>(o.after.toList.all λe=>!(Region.binds .any e)||Nat.blt e.on i) &&
   ((Du p i).all λj=>o.after.toList.any λe=>Region.binds .any e&&(Nat.beq e.on j||has (Du p e.on) j))
 | none=>true
def LG (ops:Array Oper) (p:Bd) (i:Nat):Bool:=match ops[i]?,p.cls[i]? with
 | some o,some (.h _)=>o.guard.isNone&&o.dst.isSome
 | some o,some (.fa _ _ _)=>o.guard.isNone&&(HQ p.GU i).isEmpty
 | some o,some .fj=>o.guard.isNone&&(HQ p.GU i).isEmpty
 | some o,some .fx=>o.guard.isNone&&(HQ p.GU i).isEmpty
 | some _,some _=>true
 | _,_=>false
def AEX (ops:Array Oper) (n i:Nat):Bool:=(List.range n).all λj=>Nat.beq j i||(Fp ops j).all λd=>!(has (Fp ops i) d)
def sC (ops:Array Oper) (p:Bd) (n i:Nat):Bool:=(List.range n).all λj=>(Fp ops j).all λd=>!(has (Dz ops i) d) ||
 bif has (HQ p.GU i) d then Nat.beq j i||has (Du p j) i else has (Du p i) j
def Hy (ops:Array Oper) (p:Bd) (done:List Nat):List Nat->Bool
 | []=>true
 | i::rest=>((n8 ops p i).all λt=>bif has (HQ p.GU i) t then !(has done t) else !((i::rest).any λj=>has (HO ops p j) t)) &&
   ((HO ops p i).all λt=>!(rest.any λj=>has (HO ops p j) t))&&Hy ops p (HO ops p i++done) rest
def Xv (o:Oper):Bool:=match o.op with
 | .move _|.assign _|.pick _ _ _|.build _ _|.buildSlice _ _ _|.field _ _ _|.extract _ _|.makeFunc _ _ _|.makeInterface _ _|.unOp _ _ _|.index _ _ _=>true
 | _=>false
def NY (ops:Array Oper) (i:Nat):Bool:=match ops[i]? with
 | some o=>Xv o
 | none=>false
def Mh (l:List (Nat×Nat)) (i k:Nat):Bool:=l.any λy=>Nat.beq y.1 i&&Nat.beq y.2 k
def Rw (ops:Array Oper) (p:Bd):List Nat->Bool
 | []=>true
 | i::rest=>(match p.cls[i]? with
  | some (.q ts)=>ts.all λt=>NY ops i||Mh p.Xe i t
  | some (.h ts)=>ts.all λt=>Mh p.Xe i t
  | _=>false)&&Rw ops p rest
def J7 (ops:Array Oper) (p:Bd):List Nat->Nat->Option Nat
 | [],k=>some k
 | i::rest,k=>match p.cls[i]? with
  | some (.q ts)=>bif ts.all λt=>Nat.beq t k||NY ops i||Mh p.Xe i t then J7 ops p rest k else none
  | some (.w r)=>bif Nat.beq r k then J7 ops p rest (k+1) else none
  | some (.fa r _ _)=>bif Nat.beq r k then J7 ops p rest (k+1) else none
  | some .fj=>J7 ops p rest k
  | some .fx=>J7 ops p rest k
  | _=>none
def Xw (p:Bd) (n i:Nat):Bool:=match FI p i with
 | some r=>(List.range n).all λj=>match FI p j with
  | some r'=>Nat.beq i j||(!(Nat.beq r r')&&(!(Nat.blt r r')||has (Du p j) i))
  | none=>true
 | none=>true
def eR (p:Bd) (n K i:Nat):Bool:=
 let f (ts:List Nat):Bool:=(List.range (K+1)).all λk=>has ts k||(List.range n).any λj=>match FI p j with
  | some r=>(has (Du p i) j&&Nat.ble k r)||(has (Du p j) i&&Nat.blt r k)
  | none=>false
 match p.cls[i]? with
 | some (.q ts)=>f ts&&ts.all λk=>Nat.ble k K
 | some (.h ts)=>f ts&&ts.all λk=>Nat.ble k K
 | _=>true
def Xx (ops:Array Oper) (p:Bd) (i:Nat):Bool:=match ops[i]?,p.cls[i]? with
 | some o,some (.q _)=>match o.op with
  | .nilCheck _|.fieldAddr _ _ _|.move _=>true
  | _=>false
 | some o,some (.w _)=>match o.op with
  | .store _ _ _=>true
  | _=>false
 | _,_=>false
def NZ (ops:Array Oper) (p:Bd) (n i:Nat):Bool:=match p.cls[i]? with
 | some (.fa _ j x)=>(match p.cls[j]?,p.cls[x]?,ops[i]?,ops[j]?,ops[x]? with
   | some .fj,some .fx,some o,some o1,some o2=>(fused o o1 o2).isSome
   | _,_,_,_,_=>false) &&
   has (Du p j) i&&has (Du p x) j&&has (Du p x) i &&
   (List.range n).all λm=>Nat.beq m i||Nat.beq m j||Nat.beq m x||(has (Du p i) m||(has (Du p m) x||Xx ops p m)) &&
    ((Fp ops m).all λd=>!(has (Dz ops j) d||has (Dz ops x) d)||has (Du p i) m)
 | some .fj=>(List.range n).any λm=>match p.cls[m]? with
  | some (.fa _ j _)=>Nat.beq j i
  | _=>false
 | some .fx=>(List.range n).any λm=>match p.cls[m]? with
  | some (.fa _ _ x)=>Nat.beq x i
  | _=>false
 | _=>true
def Sc (ops:Array Oper) (p:Bd):Bool:=
 let n:=ops.size
 match J7 ops p p.rest 0 with
 | none=>false
 | some K=>
  Nat.beq (p.first++p.rest).length n&&((List.range n).all λi=>has (p.first++p.rest) i) &&
  ((List.range n).all λi=>Xu ops p i&&LG ops p i&&AEX ops n i&&sC ops p n i&&Xw p n i&&eR p n K i&&NZ ops p n i) &&
  Hy ops p [] (p.first++p.rest)&&Rw ops p p.first
def EC (pl:Nat->Option Bd):Code->Bool
 | .region id ops true=>(match pl id with
  | some p=>Sc ops p
  | none=>true)&&(match pl (id+1000000) with
  | some p=>Sc ops p
  | none=>true)
 | .seq a b=>EC pl a&&EC pl b
 | .cond _ a b=>EC pl a&&EC pl b
 | .block _ b=>EC pl b
 | .loop b=>EC pl b
 | .rangeFunc _ _ a b=>EC pl a&&EC pl b
 | _=>true
def Zi (E:Env):Bool:=(List.range E.P.funcs.size).all λf=>match E.P.funcs[f]? with
 | some fn=>match fn.body with
  | some c=>EC (E.plan f) c
  | none=>true
 | none=>true
theorem DU {o:Oper} {t:Nat}:t∈F6 o<->Operand.tmp t∈o.op.operands:=by
 unfold F6;rw[List.mem_filterMap];constructor
 .grind
 .intro h
  exact⟨.tmp t,by grind,rfl⟩
theorem Jr {ρ ρ':Nat->AV} {x:Operand} (h:∀t,x=.tmp t->ρ t=ρ' t):Ad ρ x=Ad ρ' x:=by
 cases x <;> simp[Ad]
 grind
theorem JI {ρ ρ':Nat->AV} {o:Oper} (h:∀t∈F6 o,ρ t=ρ' t):∀x∈o.op.operands,Ad ρ x=Ad ρ' x:=λ_ hx=>
 Jr λ_ e=>h _ (DU.2 (e ▸ hx))
theorem U1 {E:Env} {ρ ρ':Nat->AV} {o:Oper} (hs:∀cs b,o.op≠.select cs b) (h:∀x∈o.op.operands,Ad ρ x=Ad ρ' x):Cy E ρ o=Cy E ρ' o:=by
 unfold Cy;have h1:Ej ρ o.op.operands.toList=Ej ρ' o.op.operands.toList:=by grind[Ej]
 have h2:execOp (λx=>(GN (Ad ρ x)).getD undef) o=execOp (λx=>(GN (Ad ρ' x)).getD undef) o:=
  execOp_congr o hs λx hx=>by rw[h x hx]
 rw[h1,h2]
theorem U2 {ρ ρ':Nat->AV} {x:Operand} (h:Ad ρ x=Ad ρ' x):Fc ρ x=Fc ρ' x:=by
 unfold Fc
 grind
theorem Xy {P:Program} {s:AL} {ρ ρ':Nat->AV} {op:BinOp} {t:TypeId} {x y:Operand} (hx:Ad ρ x=Ad ρ' x) (hy:Ad ρ y=Ad ρ' y) :
  IJ P s ρ op t x y=IJ P s ρ' op t x y:=by
 unfold IJ
 grind[U2]
theorem Qq {ρ ρ':Nat->AV} {parts:Array (Nat×Operand)} (h:∀x∈parts.map (·.2),Ad ρ x=Ad ρ' x) :
  (parts.toList.map λp=>(p.1,Ad ρ p.2))=parts.toList.map λp=>(p.1,Ad ρ' p.2):=by grind[List.map_congr_left]
theorem Pe {ρ ρ':Nat->AV} {x:Option Operand} (h:∀y,x=some y->Ad ρ y=Ad ρ' y):x.map (Ad ρ)=x.map (Ad ρ'):=by
 cases x with
 | none=>rfl
 | some y=>grind
theorem Vi {E:Env} {L:A3} {ρ ρ':Nat->AV} {s:AL} {o:Oper} (h:∀x∈o.op.operands,Ad ρ x=Ad ρ' x):CS E L ρ s o=CS E L ρ' s o:=by
 have hq:=λhs=>U1 (E:=E) (o:=o) hs h
 obtain⟨dst,op,type,pos,after,guard⟩:=o;cases op with
 | build t parts=>simp only[CS]; rw[Qq (by simpa[Op.operands] using h)]
 | buildSlice t n parts=>simp only[CS]; rw[Qq (by simpa[Op.operands] using h)]
 | makeFunc fn a b=>
  grind[CS,List.map_congr_left,Op.operands]
 | slice t x lo hi mx=>
  simp only[CS];rw[hq (by simp),h x (by simp[Op.operands]),Pe (x:=lo) (λy e=>h y (by grind[Op.operands])),Pe (x:=hi) (λy e=>h y (by grind[Op.operands])),Pe (x:=mx) (λy e=>h y (by grind[Op.operands]))]
 | call c=>
  obtain⟨callee,args,ts⟩:=c;cases callee with
  | value f=>rfl
  | invoke r n=>rfl
  | builtin b=>
   have ha:∀x∈args.toList,Ad ρ x=Ad ρ' x:=λx hx=>h x (by grind[Op.operands,Call.operands])
   cases b with
   | len=>
    simp only[CS];rw[hq (by simp)]
    grind
   | append=>
    grind[CS]
   | delete=>
    grind[CS]
   | _=>simp[*,CS]
 | binOp op t x y yt=>
  simp only[CS];rw[hq (by simp),Xy (h x (by simp[Op.operands])) (h y (by simp[Op.operands])),h x (by simp[Op.operands]),h y (by simp[Op.operands])]
 | convert a b x=>simp_all[CS,Op.operands]
 | unOp op t x=>simp_all[CS,Op.operands]
 | index t x i=>simp_all[CS,Op.operands]
 | move x=>grind[CS,Op.operands]
 | assign x=>grind[CS,Op.operands]
 | pick c a b=>grind[CS,Op.operands]
 | alloc t=>rfl
 | box t x=>grind[CS,Op.operands]
 | makeSlice t l c=>grind[CS,Op.operands]
 | load t x=>grind[CS,Op.operands]
 | store t x y=>grind[CS,Op.operands]
 | nilCheck x=>grind[CS,Op.operands]
 | fieldAddr t x f=>grind[CS,Op.operands]
 | field t x f=>grind[CS,Op.operands]
 | indexAddr t x i=>grind[CS,Op.operands]
 | extract x i=>grind[CS,Op.operands]
 | makeInterface t x=>grind[CS,Op.operands]
 | makeMap t r=>grind[CS]
 | lookup t m k ok=>grind[CS,Op.operands]
 | mapUpdate t m k x=>grind[CS,Op.operands]
 | insert t m k x=>grind[CS,Op.operands]
 | _=>rfl
theorem U3 {ρ ρ':Nat->AV} {c:Call} (h:∀x∈c.operands,Ad ρ x=Ad ρ' x):LC ρ c=LC ρ' c:=by
 obtain⟨callee,args,ts⟩:=c;unfold LC
 grind[List.map_congr_left,Call.operands]
theorem eS {E:Env} {L:A3} {cf:Cp} {ρ ρ':Nat->AV} {s:AL} {o:Oper} (h:∀x∈o.op.operands,Ad ρ x=Ad ρ' x):NT E L cf ρ s o=NT E L cf ρ' s o:=by
 rw[OT,OT];unfold nj;rw[Vi h];split
 .rename_i c hc
  have:∀x∈c.operands,Ad ρ x=Ad ρ' x:=λx hx=>h x (by rw[hc]; exact hx)
  grind[U3]
 rfl
theorem Xz {E:Env} {L:A3} {ρ ρ':Nat->AV} {s:AL} {o:Oper} (h:∀x∈o.op.operands,Ad ρ x=Ad ρ' x):I9 E L ρ s o=I9 E L ρ' s o:=by
 rw[KR,KR];unfold ET;rw[Vi h]
theorem NC {ops:Array Oper} {ρ ρ':Nat->AV} {o:Oper} (h:∀t∈Gr ops o,ρ t=ρ' t):E7 ops ρ o=E7 ops ρ' o:=by grind[E7,Gr]
theorem Il {E:Env} {L:A3} {ops:Array Oper} {ρ ρ':Nat->AV} {s:AL} {o:Oper} (h:∀t∈Gr ops o++F6 o,ρ t=ρ' t):E8 E L ops ρ s o=E8 E L ops ρ' s o:=by grind[E8,NC,Xz,JI]
theorem Na {E:Env} {L:A3} {cf:Cp} {ops:Array Oper} {ρ ρ':Nat->AV} {s:AL} {o:Oper} (h:∀t∈Gr ops o++F6 o,ρ t=ρ' t):NU E L cf ops ρ s o=NU E L cf ops ρ' s o:=by grind[NU,NC,eS,JI]
theorem OX {E:Env} {ρ ρ':Nat->AV} {o:Oper} (h:∀t∈F6 o,ρ t=ρ' t):hcells E ρ o=hcells E ρ' o:=by grind[JI,hcells,Op.operands]
theorem Sd {E:Env} {L:A3} {ρ:Nat->AV} {s:AL} {o:Oper} {v:AV} (h:I9 E L ρ s o=some v):CS E L ρ s o=some (v,s):=by
 rw[KR] at h;have key:∀(r:Option (AV×AL)),(∀u s',r=some (u,s')->s'=s)->(match r with|some (v,_)=>some v|none=>none)=some v->r=some (v,s):=by grind
 have qz:∀(r:Option AV) (z:Option (AV×AL)),(match r with|some v=>some (v,s)|none=>none)=z->∀u s',z=some (u,s')->s'=s:=by grind
 obtain⟨dst,op,type,pos,after,guard⟩:=o;cases op with
 | alloc t=>grind[ET]
 | box t x=>grind[ET]
 | makeSlice t l c=>
  simp only[ET] at h;split at h
  .rename_i s1 hop
   simp at h; subst h;rw[hop];simp only[CS,I6] at hop
   grind
  grind
 | store t x y=>grind[ET]
 | makeMap t r=>grind[ET]
 | mapUpdate t m k x=>grind[ET]
 | insert t m k x=>grind[ET]
 | lookup t m k ok=>exact key _ (λu s' hr=>by grind[CS]) h
 | buildSlice t n parts=>
  simp only[ET] at h;split at h
  .rename_i elem hu
   cases Xq:L.mu elem with
   | true=>grind
   | false=>
    simp only[Xq,AH] at h;refine key _ (λu s' hr=>?_) h;simp only[CS,Gm,hu,Xq,Gd,AH] at hr
    grind
  grind
 | call c=>
  grind[ET,CS]
 | slice t x lo hi mx=>
  refine key _ (λu s' hr=>?_) h
  grind[CS]
 | binOp op t x y yt=>
  refine key _ (λu s' hr=>?_) h
  grind[CS]
 | convert a b x=>
  refine key _ (λu s' hr=>?_) h
  grind[CS]
 | pick c a b=>
  refine key _ (λu s' hr=>?_) h
  grind[CS]
 | makeInterface t x=>
  refine key _ (λu s' hr=>?_) h
  grind[CS]
 | move x=>exact key _ (λu s' hr=>by grind[CS]) h
 | assign x=>exact key _ (λu s' hr=>by grind[CS]) h
 | makeFunc fn a b=>exact key _ (λu s' hr=>by grind[CS]) h
 | build t parts=>exact key _ (λu s' hr=>by grind[CS]) h
 | load t x=>exact key _ (λu s' hr=>by grind[CS]) h
 | nilCheck x=>exact key _ (λu s' hr=>by grind[CS]) h
 | fieldAddr t x f=>exact key _ (λu s' hr=>by grind[CS]) h
 | field t x f=>exact key _ (λu s' hr=>by grind[CS]) h
 | indexAddr t x i=>exact key _ (λu s' hr=>by grind[CS]) h
 | extract x i=>exact key _ (λu s' hr=>by grind[CS]) h
 | unOp op t x=>
  refine key _ (λu s' hr=>?_) h
  grind[CS]
 | index t x i=>
  refine key _ (λu s' hr=>?_) h
  grind[CS]
 | _=>exact key _ (λu s' hr=>by grind[CS]) h
theorem X0 {E:Env} {L:A3} {ρ:Nat->AV} {s s':AL} {o:Oper} {v:AV} (hp:Xv o=true) (h:I9 E L ρ s o=some v):I9 E L ρ s' o=some v:=by
 rw[KR] at h ⊢
 have mm:∀(r:Option AV) (s s':AL),(match (match r with|some v=>some (v,s)|none=>none:Option (AV×AL)) with|some (v,_)=>some v|none=>none)=some v ->
   (match (match r with|some v=>some (v,s')|none=>none:Option (AV×AL)) with|some (v,_)=>some v|none=>none)=some v:=by grind
 obtain⟨dst,op,type,pos,after,guard⟩:=o;cases op with
 | buildSlice t n parts=>
  simp only[ET] at h ⊢;split at h
  .rename_i elem hu
   cases Xq:L.mu elem with
   | true=>grind
   | false=>
    simp only[Xq,AH] at h ⊢;simp only[CS,Gm,hu,Xq,Gd,AH] at h ⊢;split at h
    .rename_i q hq
     split at hq
     all_goals grind
    grind
  omega
 | move x=>exact h
 | assign x=>exact h
 | pick c a b=>
  grind[ET,CS]
 | makeFunc fn a b=>exact h
 | makeInterface t x=>
  grind[ET,CS]
 | build t parts=>grind[ET,CS]
 | field t x f=>grind[ET,CS]
 | extract x i=>grind[ET,CS]
 | unOp op t x=>
  grind[ET,CS]
 | index t x i=>
  grind[ET,CS]
 | _=>grind[Xv]
theorem eT {a b:IntKind} (h:GQ a=GQ b):a=b:=by cases a <;> cases b <;> grind[GQ]
theorem Zj {a b:Int} (h:Za a b=true):a=b:=by
 unfold Za at h;split at h
 all_goals simp_all
theorem Pg {a b:Value} (h:eqV a b=true):a=b:=by
 unfold eqV at h;split at h
 .grind[eT,Nat.eq_of_beq_eq_true,Zj]
 .grind
 .rename_i x y
  have:=ND _ _ h;congr 1;cases x; simp_all
 all_goals simp_all
mutual
theorem Vj:∀(a b:PV),NA a b=true->a=b
 | .sc a,.sc b,h=>by grind[NA,Pg]
 | .list a,.list b,h=>by simp only[NA] at h; rw[Js a b h]
 | .sc _,.list _,h=>by simp[NA] at h
 | .list _,.sc _,h=>by simp[NA] at h
theorem Nb:∀(a b:List PV),Lu a b=true->a=b
 | [],[],_=>rfl
 | x::xs,y::ys,h=>by
  simp only[Lu,AG] at h;rw[Vj x y h.1,Nb xs ys h.2]
 | [],_::_,h=>by grind[Lu]
 | _::_,[],h=>by grind[Lu]
theorem Js:∀(a b:List (List PV)),IV a b=true->a=b
 | [],[],_=>rfl
 | x::xs,y::ys,h=>by
  simp only[IV,AG] at h;rw[Nb x y h.1,Js xs ys h.2]
 | [],_::_,h=>by grind[IV]
 | _::_,[],h=>by grind[IV]
end
theorem Sg:∀(a b:List MapEntry),nk a b=true->a=b
 | [],[],_=>rfl
 | ⟨k,v,n⟩::xs,⟨k',v',n'⟩::ys,h=>by
  simp only[nk,AG] at h;rw[Pg h.1.1.1,Pg h.1.1.2,Bx h.1.2,Sg xs ys h.2]
 | [],_::_,h=>by grind[nk]
 | _::_,[],h=>by grind[nk]
mutual
theorem Ph:∀(a b:AV),Bl a b=true->a=b
 | .pv a,b,h=>by
  cases b <;> simp only[Bl,DD] at h;rw[Vj _ _ h]
 | .ptr a c,b,h=>by
  cases b <;> simp only[Bl,DD,AG] at h;rw[Bx h.1,Bx h.2]
 | .DX a c,b,h=>by
  cases b <;> simp only[Bl,DD,AG] at h;rw[Bx h.1,Bx h.2]
 | .Cn a c,b,h=>by
  cases b <;> simp only[Bl,DD,AG] at h;rw[Nb _ _ h.1,Bx h.2]
 | .AA a,b,h=>by
  cases b <;> simp only[Bl,DD] at h;rw[Js _ _ h]
 | .own t a,b,h=>by
  cases b <;> simp only[Bl,DD,AG] at h;rw[Bx h.1,Js _ _ h.2]
 | .ref a c d e,b,h=>by
  cases b <;> simp only[Bl,DD,AG] at h;rw[Bx h.1.1.1,Bx h.1.1.2,Bx h.1.2,Bx h.2]
 | .func f a c,b,h=>by
  cases b with
  | func g d e=>cases f <;> cases g <;> simp only[Bl,DD,AG] at h
                rw[Bx h.1.1,Hf _ _ h.1.2,Hf _ _ h.2]
  | _=>cases f <;> simp only[Bl,DD] at h
 | .iface t a,b,h=>by
  cases b <;> simp only[Bl,DD,AG] at h;rw[Bx h.1,Ph _ _ h.2]
 | .agg a,b,h=>by
  cases b <;> simp only[Bl,DD] at h;rw[Hf _ _ h]
 | .tuple a,b,h=>by
  cases b <;> simp only[Bl,DD] at h;rw[Hf _ _ h]
 | .G2,b,h=>by
  cases b <;> simp only[Bl,DD] at h;rfl
 | .FL a,b,h=>by
  cases b <;> simp only[Bl,DD] at h;rw[Bx h]
 | .K7 a c,b,h=>by
  cases b <;> simp only[Bl,DD,AG] at h;rw[Sg _ _ h.1,Bx h.2]
 | .bz a c d,b,h=>by
  cases b <;> simp only[Bl,DD,AG] at h;rw[Bx h.1.1,Bx h.1.2,Bx h.2]
theorem Hf:∀(a b:List AV),IM a b=true->a=b
 | [],[],_=>rfl
 | x::xs,y::ys,h=>by
  simp only[IM,AG] at h;rw[Ph x y h.1,Hf xs ys h.2]
 | [],_::_,h=>by grind[IM]
 | _::_,[],h=>by grind[IM]
end
def FW (rd:Option Nat):Fence:={ Fence.wide with round:=rd }
theorem X1 {P:Program} {ρ:Operand->Value} {o:Oper} {w w':World} {x:Next} (hr:(execOp ρ o).run P w=.ok x w') (hx:∀d,x≠.defer d):∀c,o.op≠.defer c:=by
 intro c e;unfold execOp at hr;rw[e] at hr;simp only[Sem.run_bind] at hr;cases hq:(resolve ρ c o.type).run P w with
 | ok d w1=>
  grind[Result.andThen_ok,Sem.run_pure]
 | halt h w1=>simp_all
section
variable {rd:Option Nat} {P:Program} {o:Oper} {a:Act} {w w':World} {K:Act->World->Prop} {Q:Exit->Act->World->Prop}
theorem Jt {v:Value} (hr:(execOp a.eval o).run P w=.ok (.value v) w') (h:K (a.put o.dst v) w'):o.wpIn (FW rd) 0 P a w K Q:=
 ⟨λ_ _=>trivial,by rw[Oper.semAt_eq _ _ _ (X1 hr λd e=>by cases e),hr]; exact h⟩
theorem Im (hr:(execOp a.eval o).run P w=.ok .skip w') (h:K (a.put o.dst undef) w'):o.wpIn (FW rd) 0 P a w K Q:=
 ⟨λ_ _=>trivial,by rw[Oper.semAt_eq _ _ _ (X1 hr λd e=>by cases e),hr]; exact h⟩
theorem U4 {f:FuncId} {args:Array Value} (hr:(execOp a.eval o).run P w=.ok (.enter f args) w') (h:Calls P f args w' λe w''=>∃v,e=.returned v/\K (a.put o.dst v) w''):o.wpIn (FW rd) 0 P a w K Q:=by
 refine⟨λ_ _=>trivial,?_⟩;rw[Oper.semAt_eq _ _ _ (X1 hr λd e=>by cases e),hr];refine⟨λe=>by grind[FW,Fence.wide],?_⟩;refine(callsIn_wide (n:=0-1)).2 (h.mono ?_)
 grind
end
def Hg (E:Env) (L:A3) (cf:Cp):Prop:=
 ∀(f:FuncId) (args:List AV) (s s':AL) (v:AV) (g:AE) (w:World) (vs:List Value),cf f args s=some (v,s')->Inv E g w s->VL g w args vs ->
  (∃fn,E.P.funcs[f]?=some fn/\fn.body.isSome=true/\(fn.name== "runtime.NumGoroutine")=false) /\
  Calls E.P f vs.toArray w λe w'=>∃v' g',e=.returned v'/\V g' w' v v'/\Ext L g w g' w'/\Inv E g' w' s'
theorem V.Sh {g:AE} {w:World} {fn:Fn} {first captured:List AV} {v:Value} (h:V g w (.func fn first captured) v) :
  ∃vs us,v=.func fn (List.toArray vs) (List.toArray us)/\VL g w first vs/\VL g w captured us:=by
 cases h with|func hl hm h k=>exact⟨_,_,rfl,⟨hl,h⟩,⟨hm,k⟩⟩
theorem Nc {E:Env} {L:A3} {cf:Cp} {g:AE} {w:World} {s s':AL} {ρ:Nat->AV} {a:Act} {o:Oper} {v:AV} {K:Act->World->Prop} {Q:Exit->Act->World->Prop}
  (Rx:Hg E L cf) (hI:Inv E g w s) (hρ:∀t,V g w (ρ t) (a.tmps.getD t undef)) (h:NT E L cf ρ s o=some (v,s'))
  (hk:∀v' w' g',V g' w' v v'->Ext L g w g' w'->Inv E g' w' s'->K (a.put o.dst v') w') {rd:Option Nat}:o.wpIn (FW rd) 0 E.P a w K Q:=by
 have AVA:CS E L ρ s o=some (v,s')->o.wpIn (FW rd) 0 E.P a w K Q:=by
  intro h;obtain⟨v',w',g',hg,hv,he,hi⟩:=n9 hI hρ h;rcases hg with hg|⟨hg,rfl⟩
  all_goals grind[Jt,Im]
 rw[OT] at h;unfold nj at h;split at h
 .rename_i c hc
  split at h
  .grind
  .split at h
   .rename_i f args sD
    unfold LC at sD;split at sD
    .rename_i x hx
     split at sD
     .rename_i gf first captured hev
      simp only[Au,A0] at sD;obtain⟨rfl,rfl⟩:=sD;have hfv:=Aa hρ x;rw[hev] at hfv;obtain⟨vs,us,hval,h1,h2⟩:=hfv.Sh;have hargs:=Pj hρ c.args.toList;obtain⟨⟨fn,hfn,hbody,hname⟩,AVB⟩:=Rx _ _ _ _ _ _ _ _ h hI ((h1.append hargs).append h2)
      have hrun:(execOp a.eval o).run E.P w=.ok (.enter gf (vs++List.map a.eval c.args.toList++us).toArray) w:=by
       obtain⟨dst,op,type,pos,after,guard⟩:=o;simp only at hc;subst hc;have X2:(vs.toArray++c.args.map a.eval)++us.toArray=(vs++List.map a.eval c.args.toList++us).toArray:=by simp
       have hnb:fn.body.isNone=false:=by simp[*]
       simp only[execOp,resolve,hx,hval,Deferred.ofValue,Sem.run_bind,Sem.run_pure,Result.andThen_ok,invoke,callFunc,X2,run_program,hfn,hname,hnb,DD,Ht]
      grind[U4,Calls.mono]
     grind
    grind
   grind
 grind
theorem DK {g:AE} {w:World} {ρ:Nat->AV} {a:Act} (hρ:∀t,V g w (ρ t) (a.tmps.getD t undef)) {ops:Array Oper} {o:Oper} {b:Bool} (h:E7 ops ρ o=some b) :
  Region.wanted o (yielded ops a.tmps)=b:=by
 unfold E7 OS at h;unfold Region.wanted;cases hg:o.guard with
 | none=>grind
 | some jw=>
  obtain⟨j,want⟩:=jw;rw[hg] at h;simp only at h ⊢;unfold yielded;cases hp:ops[j]? with
  | none=>grind
  | some p=>
   rw[hp] at h;simp only[XW] at h ⊢;cases hd:p.dst with
   | none=>grind
   | some d=>
    rw[hd] at h;simp only[XW] at h ⊢;have hv:=hρ d;split at h
    .rename_i c hc
     rw[hc] at hv;have hv:=hv.CQ;simp at h;subst h;cases hx:a.tmps[d]? with
     | none=>grind[undef]
     | some y=>simp_all
    .rename_i hc
     rw[hc] at hv;obtain⟨vs,hu,hvl⟩:=hv.Pc;have:=hvl.EL;subst this;simp at h;subst h;cases hx:a.tmps[d]? with
     | none=>simp
     | some y=>simp_all
    grind
def AE.B7 (g:AE) (q:Nat->Prop):AE:={ g with C4:=q }
theorem V.B7 {g:AE} {w:World} {q:Nat->Prop} {x:AV} {v:Value} (h:V g w x v):V (g.B7 q) w x v:=by
 induction h with
 | pv h=>exact .pv h
 | ptr h=>exact .ptr h
 | KU h=>exact .KU h
 | DX gl off=>grind[DX]
 | Cn off f h=>exact .Cn off f h
 | AA h=>exact .AA h
 | own h hcap ht hn hf=>exact .own h hcap ht hn hf
 | ref h hcap hs hn=>exact .ref h hcap hs hn
 | Ik h=>exact .Ik h
 | G2=>exact .G2
 | FL h=>exact .FL h
 | bz h hs=>exact .bz h hs
 | qu h=>exact .qu h
 | func hl hm _ _ ih ik=>grind[func]
 | iface _ ih=>exact .iface ih
 | agg hl _ ih=>grind[agg]
 | tuple hl _ ih=>grind[tuple]
theorem VL.B7 {g:AE} {w:World} {q:Nat->Prop} {cs:List AV} {vs:List Value} (h:VL g w cs vs):VL (g.B7 q) w cs vs:=
 ⟨h.len,λi c v h1 h2=>(h.at_ i c v h1 h2).B7⟩
theorem Ext.B7 {L:A3} {g g':AE} {w w':World} {q:Nat->Prop} (h:Ext L g w g' w') (hq:∀id,g.C4 id->q id):Ext L g w (g'.B7 q) w':=
 {os:=h.os,tape:=h.tape,output:=h.output,size:=h.size,mono:=h.mono,cell:=h.cell,blk:=h.blk,dead:=h.dead,shape:=h.shape,tok:=h.tok,FE:=h.FE,Ez:=h.Ez,
  out:=h.out,mp:=h.mp,E1:=h.E1,JE:=h.JE,GV:=h.GV,JF:=h.JF,C4:=hq }
theorem Inv.B7 {E:Env} {g:AE} {w:World} {s:AL} {q:Nat->Prop} (h:Inv E g w s) (hq:∀id,q id->id<s.bs.length/\g.blk id=none/\¬ g.dead id) (hall:∀id,g.C4 id->q id) (hm:∀id b,g.mp id=some b->¬ q id):Inv E (g.B7 q) w s:=
 {ED:=h.ED,DH:=h.DH,FA:=h.FA,DI:=h.DI,Fl:=h.Fl,Fm:=h.Fm,tok:=h.tok,F4:=h.F4,EF:=h.EF,FM:=h.FM,Cu:=h.Cu,IG:=h.IG,
  DM:=hq
  D3:=λid hid=>(h.D3 id hid).imp (λx=>x) (λx=>x.imp (λy=>y) (λy=>y.imp (hall id) (λz=>z)))
  mp:=h.mp
  J6:=λid b hb=>⟨(h.J6 id b hb).1,(h.J6 id b hb).2.1,hm id b hb⟩
  F3:=h.F3
  blk:=λid b hb=>by
   obtain⟨cs,vs,e,h1,h2,h3,h4⟩:=h.blk id b hb;exact⟨cs,vs,e,h1,h2,h3,h4.B7⟩
  Ee:=h.Ee
  C6:=h.C6 }
theorem Inv.reserve {E:Env} {g:AE} {w:World} {s:AL} (h:Inv E g w s) (cs:List AV) :
  Inv E (g.B7 λid=>g.C4 id\/id=s.bs.length) w { s with bs:=s.bs++[cs] }:=by
 have hlt:∀id,id<s.bs.length->(s.bs++[cs])[id]?=s.bs[id]?:=λid hid=>CZ hid
 exact {
  ED:=λid b hb=>by have:=h.ED id b hb; grind
  DH:=λid hd=>by have:=h.DH id hd; grind
  FA:=h.FA
  DI:=λid hd=>(hlt id (h.DH id hd)).trans (h.DI id hd)
  Fl:=h.Fl,Fm:=h.Fm,tok:=h.tok,F4:=h.F4,EF:=h.EF,FM:=h.FM,Cu:=h.Cu,IG:=h.IG
  D3:=λid hid=>by
   by_cases e:id=s.bs.length
   .exact .inr (.inr (.inl (.inr e)))
   .rcases h.D3 id (by grind) with q|q|q|q
    .exact .inl q
    .exact .inr (.inl q)
    .exact .inr (.inr (.inl (.inl q)))
    .exact .inr (.inr (.inr q))
  mp:=h.HZ (λ_ _ hb'=>hlt _ (h.mpN hb')) (λ_ _ _=>rfl)
  J6:=λid b hb=>⟨(h.J6 id b hb).1,(h.J6 id b hb).2.1,λhp=>hp.elim (h.J6 id b hb).2.2 (λe=>by have:=h.mpN hb; omega)⟩
  F3:=h.F3
  DM:=λid hp=>by
   rcases hp with hp|rfl
   .obtain⟨a,b,c⟩:=h.DM id hp
    exact⟨by grind,b,c⟩
   .refine⟨by simp,?_,h.fresh⟩
    cases hb:g.blk s.bs.length with
    | none=>exact hb
    | some b=>exact absurd (h.ED _ b hb) (OG _)
  blk:=λid b hb=>by
   obtain⟨vcs,vs,e,h1,h2,h3,h4⟩:=h.blk id b hb;exact⟨vcs,vs,e,(hlt id (h.ED id b hb)).trans h1,h2,h3,h4.B7⟩
  Ee:=h.Ee
  C6:=h.C6 }
theorem Inv.fill {E:Env} {L:A3} {g:AE} {w:World} {s:AL} (h:Inv E g w s) {id:Nat} {q:Nat->Prop} (hq:∀i,q i<->g.C4 i/\i≠id) {cs:List AV} {vs:List Value} (e:TypeId) (hid:id<s.bs.length) (hnb:g.blk id=none) (hnd:¬ g.dead id) (hnm:∀b,g.mp id≠some b)
  (hcs:s.bs[id]?=some cs) (hle:cs.length<=vs.length) (hl:VL g w cs (vs.take cs.length)) :
  Ext L (g.B7 q) w ((g.B7 q).Fi id w.heap.size hnd) (CW w vs e)/\Inv E ((g.B7 q).Fi id w.heap.size hnd) (CW w vs e) s:=by
 have hsz:(CW w vs e).heap.size=w.heap.size+1:=by simp[CW]
 have hne:∀i b,g.blk i=some b->i≠id:=λi b hb e=>by grind
 have ru:∀i b,g.blk i=some b->((g.B7 q).Fi id w.heap.size hnd).blk i=some b:=λi b hb=>(if_neg (hne i b hb)).trans hb
 have inv:∀i b,((g.B7 q).Fi id w.heap.size hnd).blk i=some b->(i=id/\b=w.heap.size)\/g.blk i=some b:=λi b hb=>by
  simp only[AE.Fi] at hb;split at hb
  .grind
  .exact .inr hb
 have ext:Ext L (g.B7 q) w ((g.B7 q).Fi id w.heap.size hnd) (CW w vs e):={
  os:=rfl,tape:=rfl,output:=rfl,size:=by omega
  mono:=λ_ _ hi=>hi
  cell:=λk o hi=>B4 (BC (h.IG k o hi)) o
  blk:=λi b hb=>.inl (ru i b hb)
  dead:=λ_ hd=>hd
  shape:=λi b hb _=>C8 (BC (h.Dm hb))
  tok:=λ_ l hl=>⟨l,hl,.inl rfl⟩
  FE:=λi b hb _=>⟨ru i b hb,BC (h.Dm hb)⟩
  Ez:=λ_ l hl _=>⟨hl,BC (h.Ff hl),λ_ hi=>hi⟩
  out:=λb hb _ _ _=>⟨BC hb,λ_ hi=>hi⟩
  mp:=λ_ _ hb=>hb
  E1:=λ_ b' hb'=>⟨λ_=>BC (h.JG hb'),λ_ ho=>ho⟩
  JE:=λid' _ hb _=>⟨id',hb⟩
  GV:=λi b hb hlt=>by
   rcases inv i b hb with ⟨_,rfl⟩|hb
   .omega
   .exact⟨i,hb⟩
  JF:=λ_ l hl _=>⟨l,hl,rfl⟩
  C4:=λ_ hp=>hp }
 refine⟨ext,?_⟩
 exact {
  ED:=λi b hb=>by
   rcases inv i b hb with ⟨rfl,_⟩|hb
   .omega
   .exact h.ED i b hb
  DH:=h.DH
  DI:=h.DI
  blk:=λi b hb=>by
   rcases inv i b hb with ⟨rfl,rfl⟩|hb
   .exact⟨cs,vs,e,hcs,by grind[Bv],hle,hl.B7.mono ext⟩
   .obtain⟨cs',vs',e',h1,h2,h3,h4⟩:=h.blk i b hb
    exact⟨cs',vs',e',h1,(BC (h.Dm hb)).trans h2,h3,h4.B7.mono ext⟩
  FA:=λi b o hb hi=>by
   rcases inv i b hb with ⟨rfl,rfl⟩|hb
   .exact absurd (h.IG _ o hi) (OG _)
   .exact h.FA i b o hb hi
  Fl:=h.Fl
  Fm:=h.Fm
  tok:=λt l hl=>by
   obtain⟨vs',e',h1,h2⟩:=h.tok t l hl
   grind[BC]
  F4:=h.F4
  EF:=λi i' b hb hb'=>by
   rcases inv i b hb with ⟨rfl,rfl⟩|hb
   .rcases inv i' _ hb' with ⟨rfl,_⟩|hb'
    .rfl
    .exact absurd (h.Dm hb') (OG _)
   .rcases inv i' b hb' with ⟨_,e⟩|hb'
    .exact absurd (h.Dm ‹g.blk i=some b›) (by omega)
    .exact h.EF i i' b ‹g.blk i=some b› hb'
  FM:=h.FM
  Cu:=λi b t l hb hl=>by
   rcases inv i b hb with ⟨rfl,rfl⟩|hb
   .exact λe=>absurd (h.Ff hl) (by omega)
   .exact h.Cu i b t l hb hl
  IG:=λb o hi=>by have:=h.IG b o hi; omega
  D3:=λi hi=>by
   by_cases e:i=id
   .exact .inl ⟨_,if_pos e⟩
   .rcases h.D3 i hi with ⟨b,hb⟩|x|x|x
    .grind
    .exact .inr (.inl x)
    .exact .inr (.inr (.inl ((hq i).2 ⟨x,e⟩)))
    .exact .inr (.inr (.inr x))
  mp:=h.HZ (λ_ _ _=>rfl) (λ_ _ hb'=>BC (h.JG hb'))
  J6:=λi b hb=>by
   obtain⟨a1,a2,a3⟩:=h.J6 i b hb;have hne:i≠id:=λe=>hnm b (by rw[<-e]; exact hb)
   exact⟨(if_neg hne).trans a1,a2,λhp=>a3 ((hq i).1 hp).1⟩
  F3:=h.F3
  DM:=λi hp=>by
   obtain⟨h1,h2⟩:=(hq i).1 hp;obtain⟨a,b,c⟩:=h.DM i h1;exact⟨a,(if_neg h2).trans b,c⟩
  Ee:=λgl row hr j c hj=>by
   obtain⟨v,h1,h2,h3⟩:=h.Ee gl row hr j c hj;exact⟨v,h1,by rw[ext.cell _ _ h1]; omega,h3.mono ext.mono ext.cell⟩
  C6:=λgl row hr=>by
   obtain⟨h1,h2⟩:=h.C6 gl row hr;exact⟨h1,by rw[ext.cell _ _ h1]; omega⟩ }
theorem X3 {E:Env} {g:AE} {w:World} {ρ:Nat->AV} {a:Act} {o:Oper} {cs:List AV} {mk:Nat->AV} (hρ:∀t,V g w (ρ t) (a.tmps.getD t undef)) (h:hcells E ρ o=some (cs,mk)) :
  ∃(vs:List Value) (e:TypeId) (mv:Nat->Value),(execOp a.eval o).run E.P w=.ok (.value (mv w.heap.size)) (CW w vs e)/\VL g w cs vs /\
   (∀(g':AE) (w':World) id b,g'.blk id=some b->w'.shape? b=some (e,vs.length)->V g' w' (mk id) (mv b))/\∀id,IL (mk id)=some id:=by
 obtain⟨dst,op,type,pos,after,guard⟩:=o;cases op with
 | alloc t=>
  simp only[hcells] at h;split at h
  .rename_i z hz
   cases hbz:E.bz t with
   | true=>grind
   | false=>
   rw[hbz] at h;simp only[AH,Au,A0] at h;obtain⟨rfl,rfl⟩:=h;obtain⟨i,zv,hi,je,hrun,hvl⟩:=Dd (g:=g) (w:=w) hz;refine⟨_,t,λb=>.pointer (some ⟨b,0,none⟩),?_,hvl,λg' w' id b hb _=>.ptr hb,λid=>rfl⟩;simp[*,execOp,Instr.alloc,newVar,newRow,CW]
  grind
 | makeSlice t l c=>
  simp only[hcells] at h;split at h
  .rename_i elem lv cv hu hl hc
   split at h
   .rename_i i z hi hz
    split at h
    .rename_i OY
     obtain⟨h1,rfl,h3,h4,h5,h6⟩:=OY;simp only[Au,A0] at h;obtain⟨rfl,rfl⟩:=h;have dz:=Aa hρ l;have NW:=Aa hρ c;rw[hl] at dz;rw[hc] at NW;have dz:=dz.CQ;have NW:=NW.CQ;obtain⟨i',zv,hi',je,hrun,hvl⟩:=Dd (g:=g) (w:=w) hz;have:i'=i:=by grind
     subst this;have hzs:zv.cells.size=i'.size:=by rw[<-G8,<-hvl.len]; omega
     have hr:=NF (w:=w) hu hi hrun hzs h6 (by omega) (Int.le_refl _) h3 h4;refine⟨_,elem,λb=>.slice (some ⟨b,0,none⟩) lv.toNat lv.toNat,?_,hvl.Fg lv.toNat,λg' w' id b hb hs=>?_,λid=>rfl⟩
     .grind[execOp,Sem.run_bind,Result.andThen_ok,Sem.run_pure]
     .exact .ref hb (Ac _) hs (by grind[Jp])
    grind
   grind
  grind
 | _=>grind[hcells]
end Go.Tel
