/-
  Which plans for regions with a drawn order are sound: a check by computation.
-/
import Derived.Test.YtpgfpakdnijngaaGreatDoorEvN
import Derived.OrdersIn
import Derived.RangeFuncRecord
set_option linter.all false
namespace Go.Tel
def KY:bU->Option Nat
 | .w r=>some r
 | .fa r _ _=>some r
 | _=>none
def FM (p:Bl) (i:Nat):Option Nat:=match p.cls[i]? with
 | some c=>KY c
 | none=>none
def D3 (p:Bl) (i:Nat):List Nat:=match p.pre[i]? with
 | some l=>l
 | none=>[]
def GQ (o:Oper):List Nat:=o.op.operands.toList.filterMap fun
 | .tmp t=>some t
 | _=>none
def HI (ops:Array Oper) (o:Oper):List Nat:=match Mi ops o with
 | some d=>[d]
 | none=>[]
def D8 (ops:Array Oper) (i:Nat):List Nat:=match ops[i]? with
 | some o=>HI ops o++GQ o
 | none=>[]
def lg (ops:Array Oper) (i:Nat):Option Nat:=match ops[i]? with
 | some o=>o.dst
 | none=>none
def F6 (ops:Array Oper) (i:Nat):List Nat:=match lg ops i with
 | some d=>[d]
 | none=>[]
def Hv (ops:Array Oper) (p:Bl) (i:Nat):List Nat:=match p.cls[i]? with
 | some .fj=>[]
 | some .fx=>[]
 | some (.fa _ j _)=>F6 ops i++F6 ops j
 | _=>F6 ops i
def pV (ops:Array Oper) (p:Bl) (i:Nat):List Nat:=match p.cls[i]? with
 | some .fj=>[]
 | some .fx=>[]
 | some (.fa _ j x)=>(D8 ops i++D8 ops j++D8 ops x).filter λt=>!(has (F6 ops i++F6 ops j) t)
 | _=>D8 ops i
def Zc (ops:Array Oper) (p:Bl) (i:Nat):Bool:=match ops[i]? with
 | some o=>(o.after.toList.all λe=>!(Region.binds .any e)||Nat.blt e.on i) &&
   ((D3 p i).all λj=>o.after.toList.any λe=>Region.binds .any e&&(Nat.beq e.on j||has (D3 p e.on) j))
 | none=>true
def Lv (ops:Array Oper) (p:Bl) (i:Nat):Bool:=match ops[i]?,p.cls[i]? with
 | some o,some (.h _)=>o.guard.isNone&&o.dst.isSome
 | some o,some (.fa _ _ _)=>o.guard.isNone&&(Hx p.GI i).isEmpty
 | some o,some .fj=>o.guard.isNone&&(Hx p.GI i).isEmpty
 | some o,some .fx=>o.guard.isNone&&(Hx p.GI i).isEmpty
 | some _,some _=>true
 | _,_=>false
def ADR (ops:Array Oper) (n i:Nat):Bool:=(List.range n).all λj=>Nat.beq j i||(F6 ops j).all λd=>!(has (F6 ops i) d)
def uP (ops:Array Oper) (p:Bl) (n i:Nat):Bool:=(List.range n).all λj=>(F6 ops j).all λd=>!(has (D8 ops i) d) ||
 bif has (Hx p.GI i) d then Nat.beq j i||has (D3 p j) i else has (D3 p i) j
def Ia (ops:Array Oper) (p:Bl) (done:List Nat):List Nat->Bool
 | []=>true
 | i::rest=>((pV ops p i).all λt=>bif has (Hx p.GI i) t then !(has done t) else !((i::rest).any λj=>has (Hv ops p j) t)) &&
   ((Hv ops p i).all λt=>!(rest.any λj=>has (Hv ops p j) t))&&Ia ops p (Hv ops p i++done) rest
def Zd (o:Oper):Bool:=match o.op with
 | .move _|.assign _|.pick _ _ _|.build _ _|.buildSlice _ _ _|.field _ _ _|.extract _ _|.makeFunc _ _ _|.makeInterface _ _|.unOp _ _ _|.index _ _ _=>true
 | _=>false
def OV (ops:Array Oper) (i:Nat):Bool:=match ops[i]? with
 | some o=>Zd o
 | none=>false
def Nl (l:List (Nat×Nat)) (i k:Nat):Bool:=l.any λy=>Nat.beq y.1 i&&Nat.beq y.2 k
def TK (ops:Array Oper) (p:Bl):List Nat->Bool
 | []=>true
 | i::rest=>(match p.cls[i]? with
  | some (.q ts)=>ts.all λt=>OV ops i||Nl p.WV i t
  | some (.h ts)=>ts.all λt=>Nl p.WV i t
  | _=>false)&&TK ops p rest
def Kt (ops:Array Oper) (p:Bl):List Nat->Nat->Option Nat
 | [],k=>some k
 | i::rest,k=>match p.cls[i]? with
  | some (.q ts)=>bif ts.all λt=>Nat.beq t k||OV ops i||Nl p.WV i t then Kt ops p rest k else none
  | some (.w r)=>bif Nat.beq r k then Kt ops p rest (k+1) else none
  | some (.fa r _ _)=>bif Nat.beq r k then Kt ops p rest (k+1) else none
  | some .fj=>Kt ops p rest k
  | some .fx=>Kt ops p rest k
  | _=>none
def Ze (p:Bl) (n i:Nat):Bool:=match FM p i with
 | some r=>(List.range n).all λj=>match FM p j with
  | some r'=>Nat.beq i j||(!(Nat.beq r r')&&(!(Nat.blt r r')||has (D3 p j) i))
  | none=>true
 | none=>true
def iW (p:Bl) (n K i:Nat):Bool:=
 let f (ts:List Nat):Bool:=(List.range (K+1)).all λk=>has ts k||(List.range n).any λj=>match FM p j with
  | some r=>(has (D3 p i) j&&Nat.ble k r)||(has (D3 p j) i&&Nat.blt r k)
  | none=>false
 match p.cls[i]? with
 | some (.q ts)=>f ts&&ts.all λk=>Nat.ble k K
 | some (.h ts)=>f ts&&ts.all λk=>Nat.ble k K
 | _=>true
def Zf (ops:Array Oper) (p:Bl) (i:Nat):Bool:=match ops[i]?,p.cls[i]? with
 | some o,some (.q _)=>match o.op with
  | .nilCheck _|.fieldAddr _ _ _|.move _=>true
  | _=>false
 | some o,some (.w _)=>match o.op with
  | .store _ _ _=>true
  | _=>false
 | _,_=>false
def OW (ops:Array Oper) (p:Bl) (n i:Nat):Bool:=match p.cls[i]? with
 | some (.fa _ j x)=>(match p.cls[j]?,p.cls[x]?,ops[i]?,ops[j]?,ops[x]? with
   | some .fj,some .fx,some o,some o1,some o2=>(fused o o1 o2).isSome
   | _,_,_,_,_=>false) &&
   has (D3 p j) i&&has (D3 p x) j&&has (D3 p x) i &&
   (List.range n).all λm=>Nat.beq m i||Nat.beq m j||Nat.beq m x||(has (D3 p i) m||(has (D3 p m) x||Zf ops p m)) &&
    ((F6 ops m).all λd=>!(has (D8 ops j) d||has (D8 ops x) d)||has (D3 p i) m)
 | some .fj=>(List.range n).any λm=>match p.cls[m]? with
  | some (.fa _ j _)=>Nat.beq j i
  | _=>false
 | some .fx=>(List.range n).any λm=>match p.cls[m]? with
  | some (.fa _ _ x)=>Nat.beq x i
  | _=>false
 | _=>true
def Tt (ops:Array Oper) (p:Bl):Bool:=
 let n:=ops.size
 match Kt ops p p.rest 0 with
 | none=>false
 | some K=>
  Nat.beq (p.first++p.rest).length n&&((List.range n).all λi=>has (p.first++p.rest) i) &&
  ((List.range n).all λi=>Zc ops p i&&Lv ops p i&&ADR ops n i&&uP ops p n i&&Ze p n i&&iW p n K i&&OW ops p n i) &&
  Ia ops p [] (p.first++p.rest)&&TK ops p p.first
def Eg (pl:Nat->Option Bl):Code->Bool
 | .region id ops true=>(match pl id with
  | some p=>Tt ops p
  | none=>true)&&(match pl (id+1000000) with
  | some p=>Tt ops p
  | none=>true)
 | .seq a b=>Eg pl a&&Eg pl b
 | .cond _ a b=>Eg pl a&&Eg pl b
 | .block _ b=>Eg pl b
 | .loop b=>Eg pl b
 | .rangeFunc _ _ a b=>Eg pl a&&Eg pl b
 | _=>true
def cC (E:Env):Bool:=(List.range E.P.funcs.size).all λf=>match E.P.funcs[f]? with
 | some fn=>match fn.body with
  | some c=>Eg (E.plan f) c
  | none=>true
 | none=>true
theorem DZ {o:Oper} {t:Nat}:t∈GQ o<->Operand.tmp t∈o.op.operands:=by
 unfold GQ;rw[List.mem_filterMap];constructor
 .grind
 .intro h
  exact⟨.tmp t,AB,rfl⟩
theorem KZ {U U':Nat->AV} {x:Operand} (h:∀t,x=.tmp t->U t=U' t):Am U x=Am U' x:=by
 cases x <;> simp[Am]
 grind
theorem Jt {U U':Nat->AV} {o:Oper} (h:∀t∈GQ o,U t=U' t):∀x∈o.op.operands,Am U x=Am U' x:=λ_ hx=>
 KZ λ_ e=>h _ (DZ.2 (e ▸ hx))
theorem WY {E:Env} {U U':Nat->AV} {o:Oper} (hs:∀cs b,o.op≠.select cs b) (h:∀x∈o.op.operands,Am U x=Am U' x):C5 E U o=C5 E U' o:=by
 unfold C5;have h1:E2 U o.op.operands.toList=E2 U' o.op.operands.toList:=by grind[E2]
 have h2:execOp (λx=>(Ht (Am U x)).getD undef) o=execOp (λx=>(Ht (Am U' x)).getD undef) o:=
  execOp_congr o hs λx hx=>by rw[h x hx]
 rw[h1,h2]
theorem WZ {U U':Nat->AV} {x:Operand} (h:Am U x=Am U' x):Fu U x=Fu U' x:=by
 unfold Fu
 grind
theorem Zg {P:Program} {s:AQ} {U U':Nat->AV} {op:BinOp} {t:TypeId} {x y:Operand} (hx:Am U x=Am U' x) (hy:Am U y=Am U' y) :
  I3 P s U op t x y=I3 P s U' op t x y:=by
 unfold I3
 grind[WZ]
theorem Ru {U U':Nat->AV} {parts:Array (Nat×Operand)} (h:∀x∈parts.map (·.2),Am U x=Am U' x) :
  (parts.toList.map λp=>(p.1,Am U p.2))=parts.toList.map λp=>(p.1,Am U' p.2):=by grind[List.map_congr_left]
theorem Qr {U U':Nat->AV} {x:Option Operand} (h:∀y,x=some y->Am U y=Am U' y):x.map (Am U)=x.map (Am U'):=by
 cases x with
 | none=>rfl
 | some y=>grind
theorem XS {E:Env} {L:BI} {U U':Nat->AV} {s:AQ} {o:Oper} (h:∀x∈o.op.operands,Am U x=Am U' x):Cl E L U s o=Cl E L U' s o:=by
 have hq:=λhs=>WY (E:=E) (o:=o) hs h
 obtain⟨dst,op,type,pos,after,guard⟩:=o;cases op with
 | build t parts=>simp only[Cl]; rw[Ru (by simpa[Op.operands] using h)]
 | buildSlice t n parts=>simp only[Cl]; rw[Ru (by simpa[Op.operands] using h)]
 | makeFunc fn a b=>
  grind[Cl,List.map_congr_left,Op.operands]
 | slice t x lo hi mx=>
  simp only[Cl];rw[hq AD,h x (by simp[Op.operands]),Qr (x:=lo) (λy e=>h y (by grind[Op.operands])),Qr (x:=hi) (λy e=>h y (by grind[Op.operands])),Qr (x:=mx) (λy e=>h y (by grind[Op.operands]))]
 | call c=>
  obtain⟨callee,args,ts⟩:=c;cases callee with
  | value f=>rfl
  | invoke r n=>rfl
  | builtin b=>
   have ha:∀x∈args.toList,Am U x=Am U' x:=λx hx=>h x (by grind[Op.operands,Call.operands])
   cases b with
   | len=>
    simp only[Cl];rw[hq AD]
    grind
   | append=>
    grind[Cl]
   | delete=>
    grind[Cl]
   | _=>simp[*,Cl]
 | binOp op t x y yt=>
  simp only[Cl];rw[hq AD,Zg (h x (by simp[Op.operands])) (h y (by simp[Op.operands])),h x (by simp[Op.operands]),h y (by simp[Op.operands])]
 | convert a b x=>simp_all[Cl,Op.operands]
 | unOp op t x=>simp_all[Cl,Op.operands]
 | index t x i=>simp_all[Cl,Op.operands]
 | move x=>grind[Cl,Op.operands]
 | assign x=>grind[Cl,Op.operands]
 | pick c a b=>grind[Cl,Op.operands]
 | alloc t=>rfl
 | box t x=>grind[Cl,Op.operands]
 | makeSlice t l c=>grind[Cl,Op.operands]
 | load t x=>grind[Cl,Op.operands]
 | store t x y=>grind[Cl,Op.operands]
 | nilCheck x=>grind[Cl,Op.operands]
 | fieldAddr t x f=>grind[Cl,Op.operands]
 | field t x f=>grind[Cl,Op.operands]
 | indexAddr t x i=>grind[Cl,Op.operands]
 | extract x i=>grind[Cl,Op.operands]
 | makeInterface t x=>grind[Cl,Op.operands]
 | makeMap t r=>grind[Cl]
 | lookup t m k ok=>grind[Cl,Op.operands]
 | mapUpdate t m k x=>grind[Cl,Op.operands]
 | insert t m k x=>grind[Cl,Op.operands]
 | _=>rfl
theorem Wa {U U':Nat->AV} {c:Call} (h:∀x∈c.operands,Am U x=Am U' x):Lr U c=Lr U' c:=by
 obtain⟨callee,args,ts⟩:=c;unfold Lr
 grind[List.map_congr_left,Call.operands]
theorem iX {E:Env} {L:BI} {cf:Cu} {U U':Nat->AV} {s:AQ} {o:Oper} (h:∀x∈o.op.operands,Am U x=Am U' x):OQ E L cf U s o=OQ E L cf U' s o:=by
 rw[PO,PO];unfold pO;rw[XS h];split
 .rename_i c hc
  have:∀x∈c.operands,Am U x=Am U' x:=λx hx=>h x (by rw[hc]; exact hx)
  grind[Wa]
 rfl
theorem Zh {E:Env} {L:BI} {U U':Nat->AV} {s:AQ} {o:Oper} (h:∀x∈o.op.operands,Am U x=Am U' x):Jm E L U s o=Jm E L U' s o:=by
 rw[LA,LA];unfold Em;rw[XS h]
theorem OB {ops:Array Oper} {U U':Nat->AV} {o:Oper} (h:∀t∈HI ops o,U t=U' t):FT ops U o=FT ops U' o:=by grind[FT,HI]
theorem JR {E:Env} {L:BI} {ops:Array Oper} {U U':Nat->AV} {s:AQ} {o:Oper} (h:∀t∈HI ops o++GQ o,U t=U' t):FU E L ops U s o=FU E L ops U' s o:=by grind[FU,OB,Zh,Jt]
theorem OX {E:Env} {L:BI} {cf:Cu} {ops:Array Oper} {U U':Nat->AV} {s:AQ} {o:Oper} (h:∀t∈HI ops o++GQ o,U t=U' t):OS E L cf ops U s o=OS E L cf ops U' s o:=by grind[OS,OB,iX,Jt]
theorem PW {E:Env} {U U':Nat->AV} {o:Oper} (h:∀t∈GQ o,U t=U' t):hcells E U o=hcells E U' o:=by grind[Jt,hcells,Op.operands]
theorem Tu {E:Env} {L:BI} {U:Nat->AV} {s:AQ} {o:Oper} {v:AV} (h:Jm E L U s o=some v):Cl E L U s o=some (v,s):=by
 rw[LA] at h;have key:∀(r:Option (AV×AQ)),(∀u s',r=some (u,s')->s'=s)->(match r with|some (v,_)=>some v|none=>none)=some v->r=some (v,s):=AB;have qz:∀(r:Option AV) (z:Option (AV×AQ)),(match r with|some v=>some (v,s)|none=>none)=z->∀u s',z=some (u,s')->s'=s:=AB;obtain⟨dst,op,type,pos,after,guard⟩:=o;cases op with
 | alloc t=>grind[Em]
 | box t x=>grind[Em]
 | makeSlice t l c=>
  simp only[Em] at h;split at h
  .rename_i s1 hop
   simp at h; subst h;rw[hop];simp only[Cl,iK] at hop
   grind
  grind
 | store t x y=>grind[Em]
 | makeMap t r=>grind[Em]
 | mapUpdate t m k x=>grind[Em]
 | insert t m k x=>grind[Em]
 | lookup t m k ok=>exact key _ (λu s' hr=>by grind[Cl]) h
 | buildSlice t n parts=>
  simp only[Em] at h;split at h
  .rename_i elem hu
   cases ZX:muL L elem with
   | true=>grind
   | false=>
    simp only[ZX,AL] at h;refine key _ (λu s' hr=>?_) h;simp only[Cl,HE,hu,ZX,Gv,AL] at hr
    grind
  grind
 | call c=>
  grind[Em,Cl]
 | slice t x lo hi mx=>
  refine key _ (λu s' hr=>?_) h
  grind[Cl]
 | binOp op t x y yt=>
  refine key _ (λu s' hr=>?_) h
  grind[Cl]
 | convert a b x=>
  refine key _ (λu s' hr=>?_) h
  grind[Cl]
 | pick c a b=>
  refine key _ (λu s' hr=>?_) h
  grind[Cl]
 | makeInterface t x=>
  refine key _ (λu s' hr=>?_) h
  grind[Cl]
 | move x=>exact key _ (λu s' hr=>by grind[Cl]) h
 | assign x=>exact key _ (λu s' hr=>by grind[Cl]) h
 | makeFunc fn a b=>exact key _ (λu s' hr=>by grind[Cl]) h
 | build t parts=>exact key _ (λu s' hr=>by grind[Cl]) h
 | load t x=>exact key _ (λu s' hr=>by grind[Cl]) h
 | nilCheck x=>exact key _ (λu s' hr=>by grind[Cl]) h
 | fieldAddr t x f=>exact key _ (λu s' hr=>by grind[Cl]) h
 | field t x f=>exact key _ (λu s' hr=>by grind[Cl]) h
 | indexAddr t x i=>exact key _ (λu s' hr=>by grind[Cl]) h
 | extract x i=>exact key _ (λu s' hr=>by grind[Cl]) h
 | unOp op t x=>
  refine key _ (λu s' hr=>?_) h
  grind[Cl]
 | index t x i=>
  refine key _ (λu s' hr=>?_) h
  grind[Cl]
 | _=>exact key _ (λu s' hr=>by grind[Cl]) h
theorem Zi {E:Env} {L:BI} {U:Nat->AV} {s s':AQ} {o:Oper} {v:AV} (hp:Zd o=true) (h:Jm E L U s o=some v):Jm E L U s' o=some v:=by
 rw[LA] at h ⊢
 have mm:∀(r:Option AV) (s s':AQ),(match (match r with|some v=>some (v,s)|none=>none:Option (AV×AQ)) with|some (v,_)=>some v|none=>none)=some v ->
   (match (match r with|some v=>some (v,s')|none=>none:Option (AV×AQ)) with|some (v,_)=>some v|none=>none)=some v:=AB
 obtain⟨dst,op,type,pos,after,guard⟩:=o;cases op with
 | buildSlice t n parts=>
  simp only[Em] at h ⊢;split at h
  .rename_i elem hu
   cases ZX:muL L elem with
   | true=>grind
   | false=>
    simp only[ZX,AL] at h ⊢;simp only[Cl,HE,hu,ZX,Gv,AL] at h ⊢;split at h
    .rename_i q hq
     split at hq
     all_goals grind
    grind
  omega
 | move x=>exact h
 | assign x=>exact h
 | pick c a b=>
  grind[Em,Cl]
 | makeFunc fn a b=>exact h
 | makeInterface t x=>
  grind[Em,Cl]
 | build t parts=>grind[Em,Cl]
 | field t x f=>grind[Em,Cl]
 | extract x i=>grind[Em,Cl]
 | unOp op t x=>
  grind[Em,Cl]
 | index t x i=>
  grind[Em,Cl]
 | _=>grind[Zd]
theorem iY {a b:IntKind} (h:Gh a=Gh b):a=b:=by cases a <;> cases b <;> grind[Gh]
theorem cD {a b:Int} (h:bl a b=true):a=b:=by
 unfold bl at h;split at h
 all_goals simp_all
theorem Qs {a b:Value} (h:eqV a b=true):a=b:=by
 unfold eqV at h;split at h
 .grind[iY,Nat.eq_of_beq_eq_true,cD]
 .grind
 .rename_i x y
  have:=OC _ _ h;congr 1;cases x; simp_all
 all_goals simp_all
mutual
theorem XT:∀(a b:PV),Ni a b=true->a=b
 | .sc a,.sc b,h=>by grind[Ni,Qs]
 | .list a,.list b,h=>by simp only[Ni] at h; rw[Ka a b h]
 | .sc _,.list _,h=>by simp[Ni] at h
 | .list _,.sc _,h=>by simp[Ni] at h
theorem OY:∀(a b:List PV),Mj a b=true->a=b
 | [],[],_=>rfl
 | x::xs,y::ys,h=>by
  simp only[Mj,AI] at h;rw[XT x y h.1,OY xs ys h.2]
 | [],_::_,h=>by grind[Mj]
 | _::_,[],h=>by grind[Mj]
theorem Ka:∀(a b:List (List PV)),JA a b=true->a=b
 | [],[],_=>rfl
 | x::xs,y::ys,h=>by
  simp only[JA,AI] at h;rw[OY x y h.1,Ka xs ys h.2]
 | [],_::_,h=>by grind[JA]
 | _::_,[],h=>by grind[JA]
end
theorem Tv:∀(a b:List MapEntry),pP a b=true->a=b
 | [],[],_=>rfl
 | ⟨k,v,n⟩::xs,⟨k',v',n'⟩::ys,h=>by
  simp only[pP,AI] at h;rw[Qs h.1.1.1,Qs h.1.1.2,B9 h.1.2,Tv xs ys h.2]
 | [],_::_,h=>by grind[pP]
 | _::_,[],h=>by grind[pP]
mutual
theorem Qt:∀(a b:AV),C1 a b=true->a=b
 | .pv a,b,h=>by
  cases b <;> simp only[C1,DS] at h;rw[XT _ _ h]
 | .ptr a c,b,h=>by
  cases b <;> simp only[C1,DS,AI] at h;rw[B9 h.1,B9 h.2]
 | .Dt a c,b,h=>by
  cases b <;> simp only[C1,DS,AI] at h;rw[B9 h.1,B9 h.2]
 | .Ct a c,b,h=>by
  cases b <;> simp only[C1,DS,AI] at h;rw[OY _ _ h.1,B9 h.2]
 | .AE a,b,h=>by
  cases b <;> simp only[C1,DS] at h;rw[Ka _ _ h]
 | .own t a,b,h=>by
  cases b <;> simp only[C1,DS,AI] at h;rw[B9 h.1,Ka _ _ h.2]
 | .ref a c d e,b,h=>by
  cases b <;> simp only[C1,DS,AI] at h;rw[B9 h.1.1.1,B9 h.1.1.2,B9 h.1.2,B9 h.2]
 | .func f a c,b,h=>by
  cases b with
  | func g d e=>cases f <;> cases g <;> simp only[C1,DS,AI] at h
                rw[B9 h.1.1,ID _ _ h.1.2,ID _ _ h.2]
  | _=>cases f <;> simp only[C1,DS] at h
 | .iface t a,b,h=>by
  cases b <;> simp only[C1,DS,AI] at h;rw[B9 h.1,Qt _ _ h.2]
 | .agg a,b,h=>by
  cases b <;> simp only[C1,DS] at h;rw[ID _ _ h]
 | .tuple a,b,h=>by
  cases b <;> simp only[C1,DS] at h;rw[ID _ _ h]
 | .Gm,b,h=>by
  cases b <;> simp only[C1,DS] at h;rfl
 | .HY a,b,h=>by
  cases b <;> simp only[C1,DS] at h;rw[B9 h]
 | .PN a c,b,h=>by
  cases b <;> simp only[C1,DS,AI] at h;rw[Tv _ _ h.1,B9 h.2]
 | .bz a c d,b,h=>by
  cases b <;> simp only[C1,DS,AI] at h;rw[B9 h.1.1,B9 h.1.2,B9 h.2]
theorem ID:∀(a b:List AV),Ij a b=true->a=b
 | [],[],_=>rfl
 | x::xs,y::ys,h=>by
  simp only[Ij,AI] at h;rw[Qt x y h.1,ID xs ys h.2]
 | [],_::_,h=>by grind[Ij]
 | _::_,[],h=>by grind[Ij]
end
def FW (rd:Option Nat):Fence:={ Fence.wide with round:=rd }
theorem Zj {P:Program} {U:Operand->Value} {o:Oper} {w w':World} {x:Next} (hr:(execOp U o).run P w=.ok x w') (hx:∀d,x≠.defer d):∀c,o.op≠.defer c:=by
 intro c e;unfold execOp at hr;rw[e] at hr;simp only[Sem.run_bind] at hr;cases hq:(resolve U c o.type).run P w with
 | ok d w1=>
  grind[Result.andThen_ok,Sem.run_pure]
 | halt h w1=>simp_all
section
variable {rd:Option Nat} {P:Program} {o:Oper} {a:Act} {w w':World} {K:Act->World->Prop} {Q:Exit->Act->World->Prop}
theorem Kb {v:Value} (hr:(execOp a.eval o).run P w=.ok (.value v) w') (h:K (a.put o.dst v) w'):o.wpIn (FW rd) 0 P a w K Q:=
 ⟨λ_ _=>trivial,by rw[Oper.semAt_eq _ _ _ (Zj hr λd e=>by cases e),hr]; exact h⟩
theorem JS (hr:(execOp a.eval o).run P w=.ok .skip w') (h:K (a.put o.dst undef) w'):o.wpIn (FW rd) 0 P a w K Q:=
 ⟨λ_ _=>trivial,by rw[Oper.semAt_eq _ _ _ (Zj hr λd e=>by cases e),hr]; exact h⟩
theorem Wc {f:FuncId} {args:Array Value} (hr:(execOp a.eval o).run P w=.ok (.enter f args) w') (h:Calls P f args w' λe w''=>∃v,e=.returned v/\K (a.put o.dst v) w''):o.wpIn (FW rd) 0 P a w K Q:=by
 refine⟨λ_ _=>trivial,?_⟩;rw[Oper.semAt_eq _ _ _ (Zj hr λd e=>by cases e),hr];refine⟨λe=>by grind[FW,Fence.wide],?_⟩;refine(callsIn_wide (n:=0-1)).2 (h.mono ?_)
 grind
end
def IE (E:Env) (L:BI) (cf:Cu):Prop:=
 ∀(f:FuncId) (args:List AV) (s s':AQ) (v:AV) (g:AP) (w:World) (vs:List Value),cf f args s=some (v,s')->Inv E g w s->VL g w args vs ->
  (∃fn,E.P.funcs[f]?=some fn/\fn.body.isSome=true/\(fn.name== "runtime.NumGoroutine")=false) /\
  Calls E.P f vs.toArray w λe w'=>∃v' g',e=.returned v'/\V g' w' v v'/\Ext L g w g' w'/\Inv E g' w' s'
theorem V.cE {g:AP} {w:World} {fn:Fn} {first captured:List AV} {v:Value} (h:V g w (.func fn first captured) v) :
  ∃vs us,v=.func fn (List.toArray vs) (List.toArray us)/\VL g w first vs/\VL g w captured us:=by
 cases h with|func hl hm h k=>exact⟨_,_,rfl,⟨hl,h⟩,⟨hm,k⟩⟩
theorem OZ {E:Env} {L:BI} {cf:Cu} {g:AP} {w:World} {s s':AQ} {U:Nat->AV} {a:Act} {o:Oper} {v:AV} {K:Act->World->Prop} {Q:Exit->Act->World->Prop}
  (TL:IE E L cf) (hI:Inv E g w s) (hU:∀t,V g w (U t) (a.tmps.getD t undef)) (h:OQ E L cf U s o=some (v,s'))
  (hk:∀v' w' g',V g' w' v v'->Ext L g w g' w'->Inv E g' w' s'->K (a.put o.dst v') w') {rd:Option Nat}:o.wpIn (FW rd) 0 E.P a w K Q:=by
 have AYd:Cl E L U s o=some (v,s')->o.wpIn (FW rd) 0 E.P a w K Q:=by
  intro h;obtain⟨v',w',g',hg,hv,he,hi⟩:=pW hI hU h;rcases hg with hg|⟨hg,rfl⟩
  all_goals grind[Kb,JS]
 rw[PO] at h;unfold pO at h;split at h
 .rename_i c hc
  split at h
  .grind
  .split at h
   .rename_i f args uQ
    unfold Lr at uQ;split at uQ
    .rename_i x hx
     split at uQ
     .rename_i gf first captured hev
      simp only[BN,BT] at uQ;obtain⟨rfl,rfl⟩:=uQ;have hfv:=Aw hU x;rw[hev] at hfv;obtain⟨vs,us,hval,h1,h2⟩:=hfv.cE;have hargs:=Qu hU c.args.toList;obtain⟨⟨fn,hfn,hbody,hname⟩,AYe⟩:=TL _ _ _ _ _ _ _ _ h hI ((h1.append hargs).append h2)
      have hrun:(execOp a.eval o).run E.P w=.ok (.enter gf (vs++List.map a.eval c.args.toList++us).toArray) w:=by
       obtain⟨dst,op,type,pos,after,guard⟩:=o;simp only at hc;subst hc;have Zk:(vs.toArray++c.args.map a.eval)++us.toArray=(vs++List.map a.eval c.args.toList++us).toArray:=AD;have hnb:fn.body.isNone=false:=by simp[*]
       simp only[execOp,resolve,hx,hval,Deferred.ofValue,Sem.run_bind,Sem.run_pure,Result.andThen_ok,invoke,callFunc,Zk,run_program,hfn,hname,hnb,DS,JG]
      grind[Wc,Calls.mono]
     grind
    grind
   grind
 grind
theorem DR {g:AP} {w:World} {U:Nat->AV} {a:Act} (hU:∀t,V g w (U t) (a.tmps.getD t undef)) {ops:Array Oper} {o:Oper} {b:Bool} (h:FT ops U o=some b) :
  Region.wanted o (yielded ops a.tmps)=b:=by
 unfold FT Mi at h;unfold Region.wanted;cases hg:o.guard with
 | none=>grind
 | some jw=>
  obtain⟨j,want⟩:=jw;rw[hg] at h;simp only at h ⊢;unfold yielded;cases hp:ops[j]? with
  | none=>grind
  | some p=>
   rw[hp] at h;simp only[Y9] at h ⊢;cases hd:p.dst with
   | none=>grind
   | some d=>
    rw[hd] at h;simp only[Y9] at h ⊢;have hv:=hU d;split at h
    .rename_i c hc
     rw[hc] at hv;have hv:=hv.C6;simp at h;subst h;cases hx:a.tmps[d]? with
     | none=>grind[undef]
     | some y=>simp_all
    .rename_i hc
     rw[hc] at hv;obtain⟨vs,hu,hvl⟩:=hv.Qo;have:=hvl.GO;subst this;simp at h;subst h;cases hx:a.tmps[d]? with
     | none=>simp
     | some y=>simp_all
    grind
def AP.CG (g:AP) (q:Nat->Prop):AP:={ g with DM:=q }
theorem V.CG {g:AP} {w:World} {q:Nat->Prop} {x:AV} {v:Value} (h:V g w x v):V (g.CG q) w x v:=by
 induction h with
 | pv h=>exact .pv h
 | ptr h=>exact .ptr h
 | Ls h=>exact .Ls h
 | Dt gl off=>grind[Dt]
 | Ct off f h=>exact .Ct off f h
 | AE h=>exact .AE h
 | own h hcap ht hn hf=>exact .own h hcap ht hn hf
 | ref h hcap hs hn=>exact .ref h hcap hs hn
 | JQ h=>exact .JQ h
 | Gm=>exact .Gm
 | HY h=>exact .HY h
 | bz h hs=>exact .bz h hs
 | tK h=>exact .tK h
 | func hl hm _ _ ih ik=>grind[func]
 | iface _ ih=>exact .iface ih
 | agg hl _ ih=>grind[agg]
 | tuple hl _ ih=>grind[tuple]
theorem VL.CG {g:AP} {w:World} {q:Nat->Prop} {cs:List AV} {vs:List Value} (h:VL g w cs vs):VL (g.CG q) w cs vs:=
 ⟨h.len,λi c v h1 h2=>(h.at_ i c v h1 h2).CG⟩
theorem Ext.CG {L:BI} {g g':AP} {w w':World} {q:Nat->Prop} (h:Ext L g w g' w') (hq:∀id,g.DM id->q id):Ext L g w (g'.CG q) w':=
 {os:=h.os,tape:=h.tape,output:=h.output,size:=h.size,mono:=h.mono,cell:=h.cell,blk:=h.blk,dead:=h.dead,shape:=h.shape,tok:=h.tok,Ge:=h.Ge,F1:=h.F1,
  out:=h.out,mp:=h.mp,F2:=h.F2,LB:=h.LB,HZ:=h.HZ,LC:=h.LC,DM:=hq }
theorem Inv.CG {E:Env} {g:AP} {w:World} {s:AQ} {q:Nat->Prop} (h:Inv E g w s) (hq:∀id,q id->id<s.bs.length/\g.blk id=none/\¬ g.dead id) (hall:∀id,g.DM id->q id) (hm:∀id b,g.mp id=some b->¬ q id):Inv E (g.CG q) w s:=
 {E4:=h.E4,Dp:=h.Dp,F3:=h.F3,Dq:=h.Dq,G4:=h.G4,G5:=h.G5,tok:=h.tok,G6:=h.G6,FK:=h.FK,Gi:=h.Gi,DN:=h.DN,Jq:=h.Jq,
  Dx:=hq
  Ee:=λid hid=>(h.Ee id hid).imp (λx=>x) (λx=>x.imp (λy=>y) (λy=>y.imp (hall id) (λz=>z)))
  mp:=h.mp
  MQ:=λid b hb=>⟨(h.MQ id b hb).1,(h.MQ id b hb).2.1,hm id b hb⟩
  Hu:=h.Hu
  blk:=λid b hb=>by
   obtain⟨cs,vs,e,h1,h2,h3,h4⟩:=h.blk id b hb;exact⟨cs,vs,e,h1,h2,h3,h4.CG⟩
  FL:=h.FL
  DG:=h.DG }
theorem Inv.reserve {E:Env} {g:AP} {w:World} {s:AQ} (h:Inv E g w s) (cs:List AV) :
  Inv E (g.CG λid=>g.DM id\/id=s.bs.length) w { s with bs:=s.bs++[cs] }:=by
 have hlt:∀id,id<s.bs.length->(s.bs++[cs])[id]?=s.bs[id]?:=λid hid=>CX hid
 exact {
  E4:=λid b hb=>by have:=h.E4 id b hb; grind
  Dp:=λid hd=>by have:=h.Dp id hd; grind
  F3:=h.F3
  Dq:=λid hd=>(hlt id (h.Dp id hd)).trans (h.Dq id hd)
  G4:=h.G4,G5:=h.G5,tok:=h.tok,G6:=h.G6,FK:=h.FK,Gi:=h.Gi,DN:=h.DN,Jq:=h.Jq
  Ee:=λid hid=>by
   by_cases e:id=s.bs.length
   .exact .inr (.inr (.inl (.inr e)))
   .rcases h.Ee id AB with q|q|q|q
    .exact .inl q
    .exact .inr (.inl q)
    .exact .inr (.inr (.inl (.inl q)))
    .exact .inr (.inr (.inr q))
  mp:=h.I5 (λ_ _ hb'=>hlt _ (h.mpN hb')) (λ_ _ _=>rfl)
  MQ:=λid b hb=>⟨(h.MQ id b hb).1,(h.MQ id b hb).2.1,λhp=>hp.elim (h.MQ id b hb).2.2 (λe=>by have:=h.mpN hb; omega)⟩
  Hu:=h.Hu
  Dx:=λid hp=>by
   rcases hp with hp|rfl
   .obtain⟨a,b,c⟩:=h.Dx id hp
    exact⟨AB,b,c⟩
   .refine⟨AD,?_,h.fresh⟩
    cases hb:g.blk s.bs.length with
    | none=>exact hb
    | some b=>exact absurd (h.E4 _ b hb) (PC _)
  blk:=λid b hb=>by
   obtain⟨vcs,vs,e,h1,h2,h3,h4⟩:=h.blk id b hb;exact⟨vcs,vs,e,(hlt id (h.E4 id b hb)).trans h1,h2,h3,h4.CG⟩
  FL:=h.FL
  DG:=h.DG }
theorem Inv.fill {E:Env} {L:BI} {g:AP} {w:World} {s:AQ} (h:Inv E g w s) {id:Nat} {q:Nat->Prop} (hq:∀i,q i<->g.DM i/\i≠id) {cs:List AV} {vs:List Value} (e:TypeId) (hid:id<s.bs.length) (hnb:g.blk id=none) (hnd:¬ g.dead id) (hnm:∀b,g.mp id≠some b)
  (hcs:s.bs[id]?=some cs) (hle:cs.length<=vs.length) (hl:VL g w cs (vs.take cs.length)) :
  Ext L (g.CG q) w ((g.CG q).F5 id w.heap.size hnd) (Cf w vs e)/\Inv E ((g.CG q).F5 id w.heap.size hnd) (Cf w vs e) s:=by
 have hsz:(Cf w vs e).heap.size=w.heap.size+1:=by simp[Cf]
 have hne:∀i b,g.blk i=some b->i≠id:=λi b hb e=>by grind
 have hbk:∀i b,g.blk i=some b->((g.CG q).F5 id w.heap.size hnd).blk i=some b:=λi b hb=>(if_neg (hne i b hb)).trans hb
 have inv:∀i b,((g.CG q).F5 id w.heap.size hnd).blk i=some b->(i=id/\b=w.heap.size)\/g.blk i=some b:=λi b hb=>by
  simp only[AP.F5] at hb;split at hb
  .grind
  .exact .inr hb
 have ext:Ext L (g.CG q) w ((g.CG q).F5 id w.heap.size hnd) (Cf w vs e):={
  os:=rfl,tape:=rfl,output:=rfl,size:=AA
  mono:=λ_ _ hi=>hi
  cell:=λk o hi=>Cb (BJ (h.Jq k o hi)) o
  blk:=λi b hb=>.inl (hbk i b hb)
  dead:=λ_ hd=>hd
  shape:=λi b hb _=>EE (BJ (h.E5 hb))
  tok:=λ_ l hl=>⟨l,hl,.inl rfl⟩
  Ge:=λi b hb _=>⟨hbk i b hb,BJ (h.E5 hb)⟩
  F1:=λ_ l hl _=>⟨hl,BJ (h.Hg hl),λ_ hi=>hi⟩
  out:=λb hb _ _ _=>⟨BJ hb,λ_ hi=>hi⟩
  mp:=λ_ _ hb=>hb
  F2:=λ_ b' hb'=>⟨λ_=>BJ (h.PS hb'),λ_ ho=>ho⟩
  LB:=λid' _ hb _=>⟨id',hb⟩
  HZ:=λi b hb hlt=>by
   rcases inv i b hb with ⟨_,rfl⟩|hb
   .omega
   .exact⟨i,hb⟩
  LC:=λ_ l hl _=>⟨l,hl,rfl⟩
  DM:=λ_ hp=>hp }
 refine⟨ext,?_⟩
 exact {
  E4:=λi b hb=>by
   rcases inv i b hb with ⟨rfl,_⟩|hb
   .omega
   .exact h.E4 i b hb
  Dp:=h.Dp
  Dq:=h.Dq
  blk:=λi b hb=>by
   rcases inv i b hb with ⟨rfl,rfl⟩|hb
   .exact⟨cs,vs,e,hcs,by grind[CM],hle,hl.CG.mono ext⟩
   .obtain⟨cs',vs',e',h1,h2,h3,h4⟩:=h.blk i b hb
    exact⟨cs',vs',e',h1,(BJ (h.E5 hb)).trans h2,h3,h4.CG.mono ext⟩
  F3:=λi b o hb hi=>by
   rcases inv i b hb with ⟨rfl,rfl⟩|hb
   .exact absurd (h.Jq _ o hi) (PC _)
   .exact h.F3 i b o hb hi
  G4:=h.G4
  G5:=h.G5
  tok:=λt l hl=>by
   obtain⟨vs',e',h1,h2⟩:=h.tok t l hl
   grind[BJ]
  G6:=h.G6
  FK:=λi i' b hb hb'=>by
   rcases inv i b hb with ⟨rfl,rfl⟩|hb
   .rcases inv i' _ hb' with ⟨rfl,_⟩|hb'
    .rfl
    .exact absurd (h.E5 hb') (PC _)
   .rcases inv i' b hb' with ⟨_,e⟩|hb'
    .exact absurd (h.E5 ‹g.blk i=some b›) AA
    .exact h.FK i i' b ‹g.blk i=some b› hb'
  Gi:=h.Gi
  DN:=λi b t l hb hl=>by
   rcases inv i b hb with ⟨rfl,rfl⟩|hb
   .exact λe=>absurd (h.Hg hl) AA
   .exact h.DN i b t l hb hl
  Jq:=λb o hi=>by have:=h.Jq b o hi; omega
  Ee:=λi hi=>by
   by_cases e:i=id
   .exact .inl ⟨_,if_pos e⟩
   .rcases h.Ee i hi with ⟨b,hb⟩|x|x|x
    .grind
    .exact .inr (.inl x)
    .exact .inr (.inr (.inl ((hq i).2 ⟨x,e⟩)))
    .exact .inr (.inr (.inr x))
  mp:=h.I5 (λ_ _ _=>rfl) (λ_ _ hb'=>BJ (h.PS hb'))
  MQ:=λi b hb=>by
   obtain⟨a1,a2,a3⟩:=h.MQ i b hb;have hne:i≠id:=λe=>hnm b (by rw[<-e]; exact hb)
   exact⟨(if_neg hne).trans a1,a2,λhp=>a3 ((hq i).1 hp).1⟩
  Hu:=h.Hu
  Dx:=λi hp=>by
   obtain⟨h1,h2⟩:=(hq i).1 hp;obtain⟨a,b,c⟩:=h.Dx i h1;exact⟨a,(if_neg h2).trans b,c⟩
  FL:=λgl row hr j c hj=>by
   obtain⟨v,h1,h2,h3⟩:=h.FL gl row hr j c hj;exact⟨v,h1,by rw[ext.cell _ _ h1]; omega,h3.mono ext.mono ext.cell⟩
  DG:=λgl row hr=>by
   obtain⟨h1,h2⟩:=h.DG gl row hr;exact⟨h1,by rw[ext.cell _ _ h1]; omega⟩ }
theorem Zl {E:Env} {g:AP} {w:World} {U:Nat->AV} {a:Act} {o:Oper} {cs:List AV} {mk:Nat->AV} (hU:∀t,V g w (U t) (a.tmps.getD t undef)) (h:hcells E U o=some (cs,mk)) :
  ∃(vs:List Value) (e:TypeId) (mv:Nat->Value),(execOp a.eval o).run E.P w=.ok (.value (mv w.heap.size)) (Cf w vs e)/\VL g w cs vs /\
   (∀(g':AP) (w':World) id b,g'.blk id=some b->w'.shape? b=some (e,vs.length)->V g' w' (mk id) (mv b))/\∀id,KN (mk id)=some id:=by
 obtain⟨dst,op,type,pos,after,guard⟩:=o;cases op with
 | alloc t=>
  simp only[hcells] at h;split at h
  .rename_i z hz
   cases hbz:E.bz t with
   | true=>grind
   | false=>
   rw[hbz] at h;simp only[AL,BN,BT] at h;obtain⟨rfl,rfl⟩:=h;obtain⟨i,zv,hi,pT,hrun,hvl⟩:=D7 (g:=g) (w:=w) hz;refine⟨_,t,λb=>.pointer (some ⟨b,0,none⟩),?_,hvl,λg' w' id b hb _=>.ptr hb,λid=>rfl⟩;simp[*,execOp,Instr.alloc,newVar,newRow,Cf]
  grind
 | makeSlice t l c=>
  simp only[hcells] at h;split at h
  .rename_i elem lv cv hu hl hc
   split at h
   .rename_i i z hi hz
    split at h
    .rename_i PX
     obtain⟨h1,rfl,h3,h4,h5,h6⟩:=PX;simp only[BN,BT] at h;obtain⟨rfl,rfl⟩:=h;have ZR:=Aw hU l;have OU:=Aw hU c;rw[hl] at ZR;rw[hc] at OU;have ZR:=ZR.C6;have OU:=OU.C6;obtain⟨i',zv,hi',pT,hrun,hvl⟩:=D7 (g:=g) (w:=w) hz;have:i'=i:=AB;subst this;have hzs:zv.cells.size=i'.size:=by rw[<-IW,<-hvl.len]; omega
     have hr:=Wd (w:=w) hu hi hrun hzs h6 AA (Int.le_refl _) h3 h4;refine⟨_,elem,λb=>.slice (some ⟨b,0,none⟩) lv.toNat lv.toNat,?_,hvl.Fx lv.toNat,λg' w' id b hb hs=>?_,λid=>rfl⟩
     .grind[execOp,Sem.run_bind,Result.andThen_ok,Sem.run_pure]
     .exact .ref hb (AY _) hs (by grind[Rt])
    grind
   grind
  grind
 | _=>grind[hcells]
end Go.Tel
