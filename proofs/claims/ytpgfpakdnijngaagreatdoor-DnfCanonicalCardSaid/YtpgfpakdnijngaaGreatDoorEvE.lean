/-
  Which plans for regions with a drawn order are sound: a check by computation.
-/
import Derived.Test.YtpgfpakdnijngaaGreatDoorEvN
import Derived.OrdersIn
import Derived.RangeFuncRecord
set_option linter.all false
namespace Go.Tel
def Jj:eJ->Option Nat
 | .w r=>some r
 | .fa r _ _=>some r
 | _=>none
def Er (p:BS) (i:Nat):Option Nat:=match p.cls[i]? with
 | some c=>Jj c
 | none=>none
def Dl (p:BS) (i:Nat):List Nat:=match p.pre[i]? with
 | some l=>l
 | none=>[]
def F0 (o:Oper):List Nat:=o.op.operands.toList.filterMap fun
 | .tmp t=>some t
 | _=>none
def Gq (ops:Array Oper) (o:Oper):List Nat:=match OJ ops o with
 | some d=>[d]
 | none=>[]
def Dq (ops:Array Oper) (i:Nat):List Nat:=match ops[i]? with
 | some o=>Gq ops o++F0 o
 | none=>[]
def jc (ops:Array Oper) (i:Nat):Option Nat:=match ops[i]? with
 | some o=>o.dst
 | none=>none
def Fg (ops:Array Oper) (i:Nat):List Nat:=match jc ops i with
 | some d=>[d]
 | none=>[]
def HL (ops:Array Oper) (p:BS) (i:Nat):List Nat:=match p.cls[i]? with
 | some .fj=>[]
 | some .fx=>[]
 | some (.fa _ j _)=>Fg ops i++Fg ops j
 | _=>Fg ops i
def nw (ops:Array Oper) (p:BS) (i:Nat):List Nat:=match p.cls[i]? with
 | some .fj=>[]
 | some .fx=>[]
 | some (.fa _ j x)=>(Dq ops i++Dq ops j++Dq ops x).filter λt=>!(has (Fg ops i++Fg ops j) t)
 | _=>Dq ops i
def Xs (ops:Array Oper) (p:BS) (i:Nat):Bool:=match ops[i]? with
 | some o=>(o.after.toList.all λe=>!(Region.binds .any e)||Nat.blt e.on i) &&
   ((Dl p i).all λj=>o.after.toList.any λe=>Region.binds .any e&&(Nat.beq e.on j||has (Dl p e.on) j))
 | none=>true
def K3 (ops:Array Oper) (p:BS) (i:Nat):Bool:=match ops[i]?,p.cls[i]? with
 | some o,some (.h _)=>o.guard.isNone&&o.dst.isSome
 | some o,some (.fa _ _ _)=>o.guard.isNone&&(HO p.GI i).isEmpty
 | some o,some .fj=>o.guard.isNone&&(HO p.GI i).isEmpty
 | some o,some .fx=>o.guard.isNone&&(HO p.GI i).isEmpty
 | some _,some _=>true
 | _,_=>false
def ADX (ops:Array Oper) (n i:Nat):Bool:=(List.range n).all λj=>Nat.beq j i||(Fg ops j).all λd=>!(has (Fg ops i) d)
def sS (ops:Array Oper) (p:BS) (n i:Nat):Bool:=(List.range n).all λj=>(Fg ops j).all λd=>!(has (Dq ops i) d) ||
 bif has (HO p.GI i) d then Nat.beq j i||has (Dl p j) i else has (Dl p i) j
def Hq (ops:Array Oper) (p:BS) (done:List Nat):List Nat->Bool
 | []=>true
 | i::rest=>((nw ops p i).all λt=>bif has (HO p.GI i) t then !(has done t) else !((i::rest).any λj=>has (HL ops p j) t)) &&
   ((HL ops p i).all λt=>!(rest.any λj=>has (HL ops p j) t))&&Hq ops p (HL ops p i++done) rest
def Xt (o:Oper):Bool:=match o.op with
 | .move _|.assign _|.pick _ _ _|.build _ _|.buildSlice _ _ _|.field _ _ _|.extract _ _|.makeFunc _ _ _|.makeInterface _ _|.unOp _ _ _|.index _ _ _=>true
 | _=>false
def Nb (ops:Array Oper) (i:Nat):Bool:=match ops[i]? with
 | some o=>Xt o
 | none=>false
def Mi (l:List (Nat×Nat)) (i k:Nat):Bool:=l.any λy=>Nat.beq y.1 i&&Nat.beq y.2 k
def Rr (ops:Array Oper) (p:BS):List Nat->Bool
 | []=>true
 | i::rest=>(match p.cls[i]? with
  | some (.q ts)=>ts.all λt=>Nb ops i||Mi p.XZ i t
  | some (.h ts)=>ts.all λt=>Mi p.XZ i t
  | _=>false)&&Rr ops p rest
def Jz (ops:Array Oper) (p:BS):List Nat->Nat->Option Nat
 | [],k=>some k
 | i::rest,k=>match p.cls[i]? with
  | some (.q ts)=>bif ts.all λt=>Nat.beq t k||Nb ops i||Mi p.XZ i t then Jz ops p rest k else none
  | some (.w r)=>bif Nat.beq r k then Jz ops p rest (k+1) else none
  | some (.fa r _ _)=>bif Nat.beq r k then Jz ops p rest (k+1) else none
  | some .fj=>Jz ops p rest k
  | some .fx=>Jz ops p rest k
  | _=>none
def Xu (p:BS) (n i:Nat):Bool:=match Er p i with
 | some r=>(List.range n).all λj=>match Er p j with
  | some r'=>Nat.beq i j||(!(Nat.beq r r')&&(!(Nat.blt r r')||has (Dl p j) i))
  | none=>true
 | none=>true
def eU (p:BS) (n K i:Nat):Bool:=
 let f (ts:List Nat):Bool:=(List.range (K+1)).all λk=>has ts k||(List.range n).any λj=>match Er p j with
  | some r=>(has (Dl p i) j&&Nat.ble k r)||(has (Dl p j) i&&Nat.blt r k)
  | none=>false
 match p.cls[i]? with
 | some (.q ts)=>f ts&&ts.all λk=>Nat.ble k K
 | some (.h ts)=>f ts&&ts.all λk=>Nat.ble k K
 | _=>true
def Xv (ops:Array Oper) (p:BS) (i:Nat):Bool:=match ops[i]?,p.cls[i]? with
 | some o,some (.q _)=>match o.op with
  | .nilCheck _|.fieldAddr _ _ _|.move _=>true
  | _=>false
 | some o,some (.w _)=>match o.op with
  | .store _ _ _=>true
  | _=>false
 | _,_=>false
def Nc (ops:Array Oper) (p:BS) (n i:Nat):Bool:=match p.cls[i]? with
 | some (.fa _ j x)=>(match p.cls[j]?,p.cls[x]?,ops[i]?,ops[j]?,ops[x]? with
   | some .fj,some .fx,some o,some o1,some o2=>(fused o o1 o2).isSome
   | _,_,_,_,_=>false) &&
   has (Dl p j) i&&has (Dl p x) j&&has (Dl p x) i &&
   (List.range n).all λm=>Nat.beq m i||Nat.beq m j||Nat.beq m x||(has (Dl p i) m||(has (Dl p m) x||Xv ops p m)) &&
    ((Fg ops m).all λd=>!(has (Dq ops j) d||has (Dq ops x) d)||has (Dl p i) m)
 | some .fj=>(List.range n).any λm=>match p.cls[m]? with
  | some (.fa _ j _)=>Nat.beq j i
  | _=>false
 | some .fx=>(List.range n).any λm=>match p.cls[m]? with
  | some (.fa _ _ x)=>Nat.beq x i
  | _=>false
 | _=>true
def SW (ops:Array Oper) (p:BS):Bool:=
 let n:=ops.size
 match Jz ops p p.rest 0 with
 | none=>false
 | some K=>
  Nat.beq (p.first++p.rest).length n&&((List.range n).all λi=>has (p.first++p.rest) i) &&
  ((List.range n).all λi=>Xs ops p i&&K3 ops p i&&ADX ops n i&&sS ops p n i&&Xu p n i&&eU p n K i&&Nc ops p n i) &&
  Hq ops p [] (p.first++p.rest)&&Rr ops p p.first
def Dy (pl:Nat->Option BS):Code->Bool
 | .region id ops true=>(match pl id with
  | some p=>SW ops p
  | none=>true)&&(match pl (id+1000000) with
  | some p=>SW ops p
  | none=>true)
 | .seq a b=>Dy pl a&&Dy pl b
 | .cond _ a b=>Dy pl a&&Dy pl b
 | .block _ b=>Dy pl b
 | .loop b=>Dy pl b
 | .rangeFunc _ _ a b=>Dy pl a&&Dy pl b
 | _=>true
def Zi (E:Env):Bool:=(List.range E.P.funcs.size).all λf=>match E.P.funcs[f]? with
 | some fn=>match fn.body with
  | some c=>Dy (E.plan f) c
  | none=>true
 | none=>true
theorem DL {o:Oper} {t:Nat}:t∈F0 o<->Operand.tmp t∈o.op.operands:=by
 unfold F0;rw[List.mem_filterMap];constructor
 .grind
 .intro h
  exact⟨.tmp t,by grind,rfl⟩
theorem Jk {ρ ρ':Nat->AV} {x:Operand} (h:∀t,x=.tmp t->ρ t=ρ' t):AX ρ x=AX ρ' x:=by
 cases x <;> simp[AX]
 grind
theorem JI {ρ ρ':Nat->AV} {o:Oper} (h:∀t∈F0 o,ρ t=ρ' t):∀x∈o.op.operands,AX ρ x=AX ρ' x:=λ_ hx=>
 Jk λ_ e=>h _ (DL.2 (e ▸ hx))
theorem Up {E:Env} {ρ ρ':Nat->AV} {o:Oper} (hs:∀cs b,o.op≠.select cs b) (h:∀x∈o.op.operands,AX ρ x=AX ρ' x):Cs E ρ o=Cs E ρ' o:=by
 unfold Cs;have h1:EZ ρ o.op.operands.toList=EZ ρ' o.op.operands.toList:=by grind[EZ]
 have h2:execOp (λx=>(HJ (AX ρ x)).getD undef) o=execOp (λx=>(HJ (AX ρ' x)).getD undef) o:=
  execOp_congr o hs λx hx=>by rw[h x hx]
 rw[h1,h2]
theorem Uq {ρ ρ':Nat->AV} {x:Operand} (h:AX ρ x=AX ρ' x):FM ρ x=FM ρ' x:=by
 unfold FM
 grind
theorem Xw {P:Program} {s:AM} {ρ ρ':Nat->AV} {op:BinOp} {t:TypeId} {x y:Operand} (hx:AX ρ x=AX ρ' x) (hy:AX ρ y=AX ρ' y) :
  IP P s ρ op t x y=IP P s ρ' op t x y:=by
 unfold IP
 grind[Uq]
theorem Qj {ρ ρ':Nat->AV} {parts:Array (Nat×Operand)} (h:∀x∈parts.map (·.2),AX ρ x=AX ρ' x) :
  (parts.toList.map λp=>(p.1,AX ρ p.2))=parts.toList.map λp=>(p.1,AX ρ' p.2):=by grind[List.map_congr_left]
theorem Pc {ρ ρ':Nat->AV} {x:Option Operand} (h:∀y,x=some y->AX ρ y=AX ρ' y):x.map (AX ρ)=x.map (AX ρ'):=by
 cases x with
 | none=>rfl
 | some y=>grind
theorem Va {E:Env} {L:A3} {ρ ρ':Nat->AV} {s:AM} {o:Oper} (h:∀x∈o.op.operands,AX ρ x=AX ρ' x):Ca E L ρ s o=Ca E L ρ' s o:=by
 have hq:=λhs=>Up (E:=E) (o:=o) hs h
 obtain⟨dst,op,type,pos,after,guard⟩:=o;cases op with
 | build t parts=>simp only[Ca]; rw[Qj (by simpa[Op.operands] using h)]
 | buildSlice t n parts=>simp only[Ca]; rw[Qj (by simpa[Op.operands] using h)]
 | makeFunc fn a b=>
  grind[Ca,List.map_congr_left,Op.operands]
 | slice t x lo hi mx=>
  simp only[Ca];rw[hq (by simp),h x (by simp[Op.operands]),Pc (x:=lo) (λy e=>h y (by grind[Op.operands])),Pc (x:=hi) (λy e=>h y (by grind[Op.operands])),Pc (x:=mx) (λy e=>h y (by grind[Op.operands]))]
 | call c=>
  obtain⟨callee,args,ts⟩:=c;cases callee with
  | value f=>rfl
  | invoke r n=>rfl
  | builtin b=>
   have ha:∀x∈args.toList,AX ρ x=AX ρ' x:=λx hx=>h x (by grind[Op.operands,Call.operands])
   cases b with
   | len=>
    simp only[Ca];rw[hq (by simp)]
    grind
   | append=>
    grind[Ca]
   | delete=>
    grind[Ca]
   | _=>simp[*,Ca]
 | binOp op t x y yt=>
  simp only[Ca];rw[hq (by simp),Xw (h x (by simp[Op.operands])) (h y (by simp[Op.operands])),h x (by simp[Op.operands]),h y (by simp[Op.operands])]
 | convert a b x=>simp_all[Ca,Op.operands]
 | unOp op t x=>simp_all[Ca,Op.operands]
 | index t x i=>simp_all[Ca,Op.operands]
 | move x=>grind[Ca,Op.operands]
 | assign x=>grind[Ca,Op.operands]
 | pick c a b=>grind[Ca,Op.operands]
 | alloc t=>rfl
 | box t x=>grind[Ca,Op.operands]
 | makeSlice t l c=>grind[Ca,Op.operands]
 | load t x=>grind[Ca,Op.operands]
 | store t x y=>grind[Ca,Op.operands]
 | nilCheck x=>grind[Ca,Op.operands]
 | fieldAddr t x f=>grind[Ca,Op.operands]
 | field t x f=>grind[Ca,Op.operands]
 | indexAddr t x i=>grind[Ca,Op.operands]
 | extract x i=>grind[Ca,Op.operands]
 | makeInterface t x=>grind[Ca,Op.operands]
 | makeMap t r=>grind[Ca]
 | lookup t m k ok=>grind[Ca,Op.operands]
 | mapUpdate t m k x=>grind[Ca,Op.operands]
 | insert t m k x=>grind[Ca,Op.operands]
 | _=>rfl
theorem Ur {ρ ρ':Nat->AV} {c:Call} (h:∀x∈c.operands,AX ρ x=AX ρ' x):Ky ρ c=Ky ρ' c:=by
 obtain⟨callee,args,ts⟩:=c;unfold Ky
 grind[List.map_congr_left,Call.operands]
theorem eV {E:Env} {L:A3} {cf:Cn} {ρ ρ':Nat->AV} {s:AM} {o:Oper} (h:∀x∈o.op.operands,AX ρ x=AX ρ' x):NW E L cf ρ s o=NW E L cf ρ' s o:=by
 rw[OK,OK];unfold ni;rw[Va h];split
 .rename_i c hc
  have:∀x∈c.operands,AX ρ x=AX ρ' x:=λx hx=>h x (by rw[hc]; exact hx)
  grind[Ur]
 rfl
theorem Xx {E:Env} {L:A3} {ρ ρ':Nat->AV} {s:AM} {o:Oper} (h:∀x∈o.op.operands,AX ρ x=AX ρ' x):JA E L ρ s o=JA E L ρ' s o:=by
 rw[KL,KL];unfold EN;rw[Va h]
theorem NB {ops:Array Oper} {ρ ρ':Nat->AV} {o:Oper} (h:∀t∈Gq ops o,ρ t=ρ' t):E1 ops ρ o=E1 ops ρ' o:=by grind[E1,Gq]
theorem Im {E:Env} {L:A3} {ops:Array Oper} {ρ ρ':Nat->AV} {s:AM} {o:Oper} (h:∀t∈Gq ops o++F0 o,ρ t=ρ' t):E2 E L ops ρ s o=E2 E L ops ρ' s o:=by grind[E2,NB,Xx,JI]
theorem Nd {E:Env} {L:A3} {cf:Cn} {ops:Array Oper} {ρ ρ':Nat->AV} {s:AM} {o:Oper} (h:∀t∈Gq ops o++F0 o,ρ t=ρ' t):NY E L cf ops ρ s o=NY E L cf ops ρ' s o:=by grind[NY,NB,eV,JI]
theorem OP {E:Env} {ρ ρ':Nat->AV} {o:Oper} (h:∀t∈F0 o,ρ t=ρ' t):hcells E ρ o=hcells E ρ' o:=by grind[JI,hcells,Op.operands]
theorem SX {E:Env} {L:A3} {ρ:Nat->AV} {s:AM} {o:Oper} {v:AV} (h:JA E L ρ s o=some v):Ca E L ρ s o=some (v,s):=by
 rw[KL] at h;have key:∀(r:Option (AV×AM)),(∀u s',r=some (u,s')->s'=s)->(match r with|some (v,_)=>some v|none=>none)=some v->r=some (v,s):=by grind
 have qz:∀(r:Option AV) (z:Option (AV×AM)),(match r with|some v=>some (v,s)|none=>none)=z->∀u s',z=some (u,s')->s'=s:=by grind
 obtain⟨dst,op,type,pos,after,guard⟩:=o;cases op with
 | alloc t=>grind[EN]
 | box t x=>grind[EN]
 | makeSlice t l c=>
  simp only[EN] at h;split at h
  .rename_i s1 hop
   simp at h; subst h;rw[hop];simp only[Ca,eK] at hop
   grind
  grind
 | store t x y=>grind[EN]
 | makeMap t r=>grind[EN]
 | mapUpdate t m k x=>grind[EN]
 | insert t m k x=>grind[EN]
 | lookup t m k ok=>exact key _ (λu s' hr=>by grind[Ca]) h
 | buildSlice t n parts=>
  simp only[EN] at h;split at h
  .rename_i elem hu
   cases Xo:L.mu elem with
   | true=>grind
   | false=>
    simp only[Xo,AE] at h;refine key _ (λu s' hr=>?_) h;simp only[Ca,Gl,hu,Xo,Ib,AE] at hr
    grind
  grind
 | call c=>
  grind[EN,Ca]
 | slice t x lo hi mx=>
  refine key _ (λu s' hr=>?_) h
  grind[Ca]
 | binOp op t x y yt=>
  refine key _ (λu s' hr=>?_) h
  grind[Ca]
 | convert a b x=>
  refine key _ (λu s' hr=>?_) h
  grind[Ca]
 | pick c a b=>
  refine key _ (λu s' hr=>?_) h
  grind[Ca]
 | makeInterface t x=>
  refine key _ (λu s' hr=>?_) h
  grind[Ca]
 | move x=>exact key _ (λu s' hr=>by grind[Ca]) h
 | assign x=>exact key _ (λu s' hr=>by grind[Ca]) h
 | makeFunc fn a b=>exact key _ (λu s' hr=>by grind[Ca]) h
 | build t parts=>exact key _ (λu s' hr=>by grind[Ca]) h
 | load t x=>exact key _ (λu s' hr=>by grind[Ca]) h
 | nilCheck x=>exact key _ (λu s' hr=>by grind[Ca]) h
 | fieldAddr t x f=>exact key _ (λu s' hr=>by grind[Ca]) h
 | field t x f=>exact key _ (λu s' hr=>by grind[Ca]) h
 | indexAddr t x i=>exact key _ (λu s' hr=>by grind[Ca]) h
 | extract x i=>exact key _ (λu s' hr=>by grind[Ca]) h
 | unOp op t x=>
  refine key _ (λu s' hr=>?_) h
  grind[Ca]
 | index t x i=>
  refine key _ (λu s' hr=>?_) h
  grind[Ca]
 | _=>exact key _ (λu s' hr=>by grind[Ca]) h
theorem Xy {E:Env} {L:A3} {ρ:Nat->AV} {s s':AM} {o:Oper} {v:AV} (hp:Xt o=true) (h:JA E L ρ s o=some v):JA E L ρ s' o=some v:=by
 rw[KL] at h ⊢
 have mm:∀(r:Option AV) (s s':AM),(match (match r with|some v=>some (v,s)|none=>none:Option (AV×AM)) with|some (v,_)=>some v|none=>none)=some v ->
   (match (match r with|some v=>some (v,s')|none=>none:Option (AV×AM)) with|some (v,_)=>some v|none=>none)=some v:=by grind
 obtain⟨dst,op,type,pos,after,guard⟩:=o;cases op with
 | buildSlice t n parts=>
  simp only[EN] at h ⊢;split at h
  .rename_i elem hu
   cases Xo:L.mu elem with
   | true=>grind
   | false=>
    simp only[Xo,AE] at h ⊢;simp only[Ca,Gl,hu,Xo,Ib,AE] at h ⊢;split at h
    .rename_i q hq
     split at hq
     all_goals grind
    grind
  omega
 | move x=>exact h
 | assign x=>exact h
 | pick c a b=>
  grind[EN,Ca]
 | makeFunc fn a b=>exact h
 | makeInterface t x=>
  grind[EN,Ca]
 | build t parts=>grind[EN,Ca]
 | field t x f=>grind[EN,Ca]
 | extract x i=>grind[EN,Ca]
 | unOp op t x=>
  grind[EN,Ca]
 | index t x i=>
  grind[EN,Ca]
 | _=>grind[Xt]
theorem eW {a b:IntKind} (h:GF a=GF b):a=b:=by cases a <;> cases b <;> grind[GF]
theorem Zj {a b:Int} (h:Zc a b=true):a=b:=by
 unfold Zc at h;split at h
 all_goals simp_all
theorem Pd {a b:Value} (h:eqV a b=true):a=b:=by
 unfold eqV at h;split at h
 .grind[eW,Nat.eq_of_beq_eq_true,Zj]
 .grind
 .rename_i x y
  have:=NC _ _ h;congr 1;cases x; simp_all
 all_goals simp_all
mutual
theorem Vb:∀(a b:PV),PX a b=true->a=b
 | .sc a,.sc b,h=>by grind[PX,Pd]
 | .list a,.list b,h=>by simp only[PX] at h; rw[Jl a b h]
 | .sc _,.list _,h=>by simp[PX] at h
 | .list _,.sc _,h=>by simp[PX] at h
theorem Nf:∀(a b:List PV),PY a b=true->a=b
 | [],[],_=>rfl
 | x::xs,y::ys,h=>by
  simp only[PY,AD] at h;rw[Vb x y h.1,Nf xs ys h.2]
 | [],_::_,h=>by grind[PY]
 | _::_,[],h=>by grind[PY]
theorem Jl:∀(a b:List (List PV)),Jg a b=true->a=b
 | [],[],_=>rfl
 | x::xs,y::ys,h=>by
  simp only[Jg,AD] at h;rw[Nf x y h.1,Jl xs ys h.2]
 | [],_::_,h=>by grind[Jg]
 | _::_,[],h=>by grind[Jg]
end
theorem SY:∀(a b:List MapEntry),nj a b=true->a=b
 | [],[],_=>rfl
 | ⟨k,v,n⟩::xs,⟨k',v',n'⟩::ys,h=>by
  simp only[nj,AD] at h;rw[Pd h.1.1.1,Pd h.1.1.2,Bo h.1.2,SY xs ys h.2]
 | [],_::_,h=>by grind[nj]
 | _::_,[],h=>by grind[nj]
mutual
theorem Pe:∀(a b:AV),CQ a b=true->a=b
 | .pv a,b,h=>by
  cases b <;> simp only[CQ,DE] at h;rw[Vb _ _ h]
 | .ptr a c,b,h=>by
  cases b <;> simp only[CQ,DE,AD] at h;rw[Bo h.1,Bo h.2]
 | .DM a c,b,h=>by
  cases b <;> simp only[CQ,DE,AD] at h;rw[Bo h.1,Bo h.2]
 | .C8 a c,b,h=>by
  cases b <;> simp only[CQ,DE,AD] at h;rw[Nf _ _ h.1,Bo h.2]
 | .AB a,b,h=>by
  cases b <;> simp only[CQ,DE] at h;rw[Jl _ _ h]
 | .own t a,b,h=>by
  cases b <;> simp only[CQ,DE,AD] at h;rw[Bo h.1,Jl _ _ h.2]
 | .ref a c d e,b,h=>by
  cases b <;> simp only[CQ,DE,AD] at h;rw[Bo h.1.1.1,Bo h.1.1.2,Bo h.1.2,Bo h.2]
 | .func f a c,b,h=>by
  cases b with
  | func g d e=>cases f <;> cases g <;> simp only[CQ,DE,AD] at h
                rw[Bo h.1.1,HW _ _ h.1.2,HW _ _ h.2]
  | _=>cases f <;> simp only[CQ,DE] at h
 | .iface t a,b,h=>by
  cases b <;> simp only[CQ,DE,AD] at h;rw[Bo h.1,Pe _ _ h.2]
 | .agg a,b,h=>by
  cases b <;> simp only[CQ,DE] at h;rw[HW _ _ h]
 | .tuple a,b,h=>by
  cases b <;> simp only[CQ,DE] at h;rw[HW _ _ h]
 | .Gz,b,h=>by
  cases b <;> simp only[CQ,DE] at h;rfl
 | .G9 a,b,h=>by
  cases b <;> simp only[CQ,DE] at h;rw[Bo h]
 | .OI a c,b,h=>by
  cases b <;> simp only[CQ,DE,AD] at h;rw[SY _ _ h.1,Bo h.2]
 | .bz a c d,b,h=>by
  cases b <;> simp only[CQ,DE,AD] at h;rw[Bo h.1.1,Bo h.1.2,Bo h.2]
theorem HW:∀(a b:List AV),Kz a b=true->a=b
 | [],[],_=>rfl
 | x::xs,y::ys,h=>by
  simp only[Kz,AD] at h;rw[Pe x y h.1,HW xs ys h.2]
 | [],_::_,h=>by grind[Kz]
 | _::_,[],h=>by grind[Kz]
end
def FW (rd:Option Nat):Fence:={ Fence.wide with round:=rd }
theorem Xz {P:Program} {ρ:Operand->Value} {o:Oper} {w w':World} {x:Next} (hr:(execOp ρ o).run P w=.ok x w') (hx:∀d,x≠.defer d):∀c,o.op≠.defer c:=by
 intro c e;unfold execOp at hr;rw[e] at hr;simp only[Sem.run_bind] at hr;cases hq:(resolve ρ c o.type).run P w with
 | ok d w1=>
  grind[Result.andThen_ok,Sem.run_pure]
 | halt h w1=>simp_all
section
variable {rd:Option Nat} {P:Program} {o:Oper} {a:Act} {w w':World} {K:Act->World->Prop} {Q:Exit->Act->World->Prop}
theorem Jm {v:Value} (hr:(execOp a.eval o).run P w=.ok (.value v) w') (h:K (a.put o.dst v) w'):o.wpIn (FW rd) 0 P a w K Q:=
 ⟨λ_ _=>trivial,by rw[Oper.semAt_eq _ _ _ (Xz hr λd e=>by cases e),hr]; exact h⟩
theorem Ip (hr:(execOp a.eval o).run P w=.ok .skip w') (h:K (a.put o.dst undef) w'):o.wpIn (FW rd) 0 P a w K Q:=
 ⟨λ_ _=>trivial,by rw[Oper.semAt_eq _ _ _ (Xz hr λd e=>by cases e),hr]; exact h⟩
theorem Us {f:FuncId} {args:Array Value} (hr:(execOp a.eval o).run P w=.ok (.enter f args) w') (h:Calls P f args w' λe w''=>∃v,e=.returned v/\K (a.put o.dst v) w''):o.wpIn (FW rd) 0 P a w K Q:=by
 refine⟨λ_ _=>trivial,?_⟩;rw[Oper.semAt_eq _ _ _ (Xz hr λd e=>by cases e),hr];refine⟨λe=>by grind[FW,Fence.wide],?_⟩;refine(callsIn_wide (n:=0-1)).2 (h.mono ?_)
 grind
end
def HX (E:Env) (L:A3) (cf:Cn):Prop:=
 ∀(f:FuncId) (args:List AV) (s s':AM) (v:AV) (g:AI) (w:World) (vs:List Value),cf f args s=some (v,s')->Inv E g w s->VL g w args vs ->
  (∃fn,E.P.funcs[f]?=some fn/\fn.body.isSome=true/\(fn.name== "runtime.NumGoroutine")=false) /\
  Calls E.P f vs.toArray w λe w'=>∃v' g',e=.returned v'/\V g' w' v v'/\Ext L g w g' w'/\Inv E g' w' s'
theorem V.SZ {g:AI} {w:World} {fn:Fn} {first captured:List AV} {v:Value} (h:V g w (.func fn first captured) v) :
  ∃vs us,v=.func fn (List.toArray vs) (List.toArray us)/\VL g w first vs/\VL g w captured us:=by
 cases h with|func hl hm h k=>exact⟨_,_,rfl,⟨hl,h⟩,⟨hm,k⟩⟩
theorem Ng {E:Env} {L:A3} {cf:Cn} {g:AI} {w:World} {s s':AM} {ρ:Nat->AV} {a:Act} {o:Oper} {v:AV} {K:Act->World->Prop} {Q:Exit->Act->World->Prop}
  (Rs:HX E L cf) (hI:Inv E g w s) (hρ:∀t,V g w (ρ t) (a.tmps.getD t undef)) (h:NW E L cf ρ s o=some (v,s'))
  (hk:∀v' w' g',V g' w' v v'->Ext L g w g' w'->Inv E g' w' s'->K (a.put o.dst v') w') {rd:Option Nat}:o.wpIn (FW rd) 0 E.P a w K Q:=by
 have ATk:Ca E L ρ s o=some (v,s')->o.wpIn (FW rd) 0 E.P a w K Q:=by
  intro h;obtain⟨v',w',g',hg,hv,he,hi⟩:=nx hI hρ h;rcases hg with hg|⟨hg,rfl⟩
  all_goals grind[Jm,Ip]
 rw[OK] at h;unfold ni at h;split at h
 .rename_i c hc
  split at h
  .grind
  .split at h
   .rename_i f args sU
    unfold Ky at sU;split at sU
    .rename_i x hx
     split at sU
     .rename_i gf first captured hev
      simp only[Aw,A4] at sU;obtain⟨rfl,rfl⟩:=sU;have hfv:=Ae hρ x;rw[hev] at hfv;obtain⟨vs,us,hval,h1,h2⟩:=hfv.SZ;have hargs:=Pg hρ c.args.toList;obtain⟨⟨fn,hfn,hbody,hname⟩,ATl⟩:=Rs _ _ _ _ _ _ _ _ h hI ((h1.append hargs).append h2)
      have hrun:(execOp a.eval o).run E.P w=.ok (.enter gf (vs++List.map a.eval c.args.toList++us).toArray) w:=by
       obtain⟨dst,op,type,pos,after,guard⟩:=o;simp only at hc;subst hc;have X0:(vs.toArray++c.args.map a.eval)++us.toArray=(vs++List.map a.eval c.args.toList++us).toArray:=by simp
       have hnb:fn.body.isNone=false:=by simp[*]
       simp only[execOp,resolve,hx,hval,Deferred.ofValue,Sem.run_bind,Sem.run_pure,Result.andThen_ok,invoke,callFunc,X0,run_program,hfn,hname,hnb,DE,IZ]
      grind[Us,Calls.mono]
     grind
    grind
   grind
 grind
theorem DD {g:AI} {w:World} {ρ:Nat->AV} {a:Act} (hρ:∀t,V g w (ρ t) (a.tmps.getD t undef)) {ops:Array Oper} {o:Oper} {b:Bool} (h:E1 ops ρ o=some b) :
  Region.wanted o (yielded ops a.tmps)=b:=by
 unfold E1 OJ at h;unfold Region.wanted;cases hg:o.guard with
 | none=>grind
 | some jw=>
  obtain⟨j,want⟩:=jw;rw[hg] at h;simp only at h ⊢;unfold yielded;cases hp:ops[j]? with
  | none=>grind
  | some p=>
   rw[hp] at h;simp only[XN] at h ⊢;cases hd:p.dst with
   | none=>grind
   | some d=>
    rw[hd] at h;simp only[XN] at h ⊢;have hv:=hρ d;split at h
    .rename_i c hc
     rw[hc] at hv;have hv:=hv.Cx;simp at h;subst h;cases hx:a.tmps[d]? with
     | none=>grind[undef]
     | some y=>simp_all
    .rename_i hc
     rw[hc] at hv;obtain⟨vs,hu,hvl⟩:=hv.Pa;have:=hvl.E4;subst this;simp at h;subst h;cases hx:a.tmps[d]? with
     | none=>simp
     | some y=>simp_all
    grind
def AI.Bv (g:AI) (q:Nat->Prop):AI:={ g with C5:=q }
theorem V.Bv {g:AI} {w:World} {q:Nat->Prop} {x:AV} {v:Value} (h:V g w x v):V (g.Bv q) w x v:=by
 induction h with
 | pv h=>exact .pv h
 | ptr h=>exact .ptr h
 | KM h=>exact .KM h
 | DM gl off=>grind[DM]
 | C8 off f h=>exact .C8 off f h
 | AB h=>exact .AB h
 | own h hcap ht hn hf=>exact .own h hcap ht hn hf
 | ref h hcap hs hn=>exact .ref h hcap hs hn
 | Il h=>exact .Il h
 | Gz=>exact .Gz
 | G9 h=>exact .G9 h
 | bz h hs=>exact .bz h hs
 | qR h=>exact .qR h
 | func hl hm _ _ ih ik=>grind[func]
 | iface _ ih=>exact .iface ih
 | agg hl _ ih=>grind[agg]
 | tuple hl _ ih=>grind[tuple]
theorem VL.Bv {g:AI} {w:World} {q:Nat->Prop} {cs:List AV} {vs:List Value} (h:VL g w cs vs):VL (g.Bv q) w cs vs:=
 ⟨h.len,λi c v h1 h2=>(h.at_ i c v h1 h2).Bv⟩
theorem Ext.Bv {L:A3} {g g':AI} {w w':World} {q:Nat->Prop} (h:Ext L g w g' w') (hq:∀id,g.C5 id->q id):Ext L g w (g'.Bv q) w':=
 {os:=h.os,tape:=h.tape,output:=h.output,size:=h.size,mono:=h.mono,cell:=h.cell,blk:=h.blk,dead:=h.dead,shape:=h.shape,tok:=h.tok,Fa:=h.Fa,FQ:=h.FQ,
  out:=h.out,mp:=h.mp,FR:=h.FR,Jw:=h.Jw,G0:=h.G0,Jy:=h.Jy,C5:=hq }
theorem Inv.Bv {E:Env} {g:AI} {w:World} {s:AM} {q:Nat->Prop} (h:Inv E g w s) (hq:∀id,q id->id<s.bs.length/\g.blk id=none/\¬ g.dead id) (hall:∀id,g.C5 id->q id) (hm:∀id b,g.mp id=some b->¬ q id):Inv E (g.Bv q) w s:=
 {Ed:=h.Ed,Db:=h.Db,Fb:=h.Fb,DW:=h.DW,Gc:=h.Gc,Gd:=h.Gd,tok:=h.tok,G1:=h.G1,Ee:=h.Ee,GG:=h.GG,C6:=h.C6,JF:=h.JF,
  Dh:=hq
  EE:=λid hid=>(h.EE id hid).imp (λx=>x) (λx=>x.imp (λy=>y) (λy=>y.imp (hall id) (λz=>z)))
  mp:=h.mp
  Lc:=λid b hb=>⟨(h.Lc id b hb).1,(h.Lc id b hb).2.1,hm id b hb⟩
  HK:=h.HK
  blk:=λid b hb=>by
   obtain⟨cs,vs,e,h1,h2,h3,h4⟩:=h.blk id b hb;exact⟨cs,vs,e,h1,h2,h3,h4.Bv⟩
  E9:=h.E9
  DK:=h.DK }
theorem Inv.reserve {E:Env} {g:AI} {w:World} {s:AM} (h:Inv E g w s) (cs:List AV) :
  Inv E (g.Bv λid=>g.C5 id\/id=s.bs.length) w { s with bs:=s.bs++[cs] }:=by
 have hlt:∀id,id<s.bs.length->(s.bs++[cs])[id]?=s.bs[id]?:=λid hid=>Cf hid
 exact {
  Ed:=λid b hb=>by have:=h.Ed id b hb; grind
  Db:=λid hd=>by have:=h.Db id hd; grind
  Fb:=h.Fb
  DW:=λid hd=>(hlt id (h.Db id hd)).trans (h.DW id hd)
  Gc:=h.Gc,Gd:=h.Gd,tok:=h.tok,G1:=h.G1,Ee:=h.Ee,GG:=h.GG,C6:=h.C6,JF:=h.JF
  EE:=λid hid=>by
   by_cases e:id=s.bs.length
   .exact .inr (.inr (.inl (.inr e)))
   .rcases h.EE id (by grind) with q|q|q|q
    .exact .inl q
    .exact .inr (.inl q)
    .exact .inr (.inr (.inl (.inl q)))
    .exact .inr (.inr (.inr q))
  mp:=h.HV (λ_ _ hb'=>hlt _ (h.mpN hb')) (λ_ _ _=>rfl)
  Lc:=λid b hb=>⟨(h.Lc id b hb).1,(h.Lc id b hb).2.1,λhp=>hp.elim (h.Lc id b hb).2.2 (λe=>by have:=h.mpN hb; omega)⟩
  HK:=h.HK
  Dh:=λid hp=>by
   rcases hp with hp|rfl
   .obtain⟨a,b,c⟩:=h.Dh id hp
    exact⟨by grind,b,c⟩
   .refine⟨by simp,?_,h.fresh⟩
    cases hb:g.blk s.bs.length with
    | none=>exact hb
    | some b=>exact absurd (h.Ed _ b hb) (N7 _)
  blk:=λid b hb=>by
   obtain⟨vcs,vs,e,h1,h2,h3,h4⟩:=h.blk id b hb;exact⟨vcs,vs,e,(hlt id (h.Ed id b hb)).trans h1,h2,h3,h4.Bv⟩
  E9:=h.E9
  DK:=h.DK }
theorem Inv.fill {E:Env} {L:A3} {g:AI} {w:World} {s:AM} (h:Inv E g w s) {id:Nat} {q:Nat->Prop} (hq:∀i,q i<->g.C5 i/\i≠id) {cs:List AV} {vs:List Value} (e:TypeId) (hid:id<s.bs.length) (hnb:g.blk id=none) (hnd:¬ g.dead id) (hnm:∀b,g.mp id≠some b)
  (hcs:s.bs[id]?=some cs) (hle:cs.length<=vs.length) (hl:VL g w cs (vs.take cs.length)) :
  Ext L (g.Bv q) w ((g.Bv q).Ff id w.heap.size hnd) (CV w vs e)/\Inv E ((g.Bv q).Ff id w.heap.size hnd) (CV w vs e) s:=by
 have hsz:(CV w vs e).heap.size=w.heap.size+1:=by simp[CV]
 have hne:∀i b,g.blk i=some b->i≠id:=λi b hb e=>by grind
 have sN:∀i b,g.blk i=some b->((g.Bv q).Ff id w.heap.size hnd).blk i=some b:=λi b hb=>(if_neg (hne i b hb)).trans hb
 have inv:∀i b,((g.Bv q).Ff id w.heap.size hnd).blk i=some b->(i=id/\b=w.heap.size)\/g.blk i=some b:=λi b hb=>by
  simp only[AI.Ff] at hb;split at hb
  .grind
  .exact .inr hb
 have ext:Ext L (g.Bv q) w ((g.Bv q).Ff id w.heap.size hnd) (CV w vs e):={
  os:=rfl,tape:=rfl,output:=rfl,size:=by omega
  mono:=λ_ _ hi=>hi
  cell:=λk o hi=>B8 (A0 (h.JF k o hi)) o
  blk:=λi b hb=>.inl (sN i b hb)
  dead:=λ_ hd=>hd
  shape:=λi b hb _=>Da (A0 (h.Dt hb))
  tok:=λ_ l hl=>⟨l,hl,.inl rfl⟩
  Fa:=λi b hb _=>⟨sN i b hb,A0 (h.Dt hb)⟩
  FQ:=λ_ l hl _=>⟨hl,A0 (h.Fc hl),λ_ hi=>hi⟩
  out:=λb hb _ _ _=>⟨A0 hb,λ_ hi=>hi⟩
  mp:=λ_ _ hb=>hb
  FR:=λ_ b' hb'=>⟨λ_=>A0 (h.K0 hb'),λ_ ho=>ho⟩
  Jw:=λid' _ hb _=>⟨id',hb⟩
  G0:=λi b hb hlt=>by
   rcases inv i b hb with ⟨_,rfl⟩|hb
   .omega
   .exact⟨i,hb⟩
  Jy:=λ_ l hl _=>⟨l,hl,rfl⟩
  C5:=λ_ hp=>hp }
 refine⟨ext,?_⟩
 exact {
  Ed:=λi b hb=>by
   rcases inv i b hb with ⟨rfl,_⟩|hb
   .omega
   .exact h.Ed i b hb
  Db:=h.Db
  DW:=h.DW
  blk:=λi b hb=>by
   rcases inv i b hb with ⟨rfl,rfl⟩|hb
   .exact⟨cs,vs,e,hcs,by grind[B5],hle,hl.Bv.mono ext⟩
   .obtain⟨cs',vs',e',h1,h2,h3,h4⟩:=h.blk i b hb
    exact⟨cs',vs',e',h1,(A0 (h.Dt hb)).trans h2,h3,h4.Bv.mono ext⟩
  Fb:=λi b o hb hi=>by
   rcases inv i b hb with ⟨rfl,rfl⟩|hb
   .exact absurd (h.JF _ o hi) (N7 _)
   .exact h.Fb i b o hb hi
  Gc:=h.Gc
  Gd:=h.Gd
  tok:=λt l hl=>by
   obtain⟨vs',e',h1,h2⟩:=h.tok t l hl
   grind[A0]
  G1:=h.G1
  Ee:=λi i' b hb hb'=>by
   rcases inv i b hb with ⟨rfl,rfl⟩|hb
   .rcases inv i' _ hb' with ⟨rfl,_⟩|hb'
    .rfl
    .exact absurd (h.Dt hb') (N7 _)
   .rcases inv i' b hb' with ⟨_,e⟩|hb'
    .exact absurd (h.Dt ‹g.blk i=some b›) (by omega)
    .exact h.Ee i i' b ‹g.blk i=some b› hb'
  GG:=h.GG
  C6:=λi b t l hb hl=>by
   rcases inv i b hb with ⟨rfl,rfl⟩|hb
   .exact λe=>absurd (h.Fc hl) (by omega)
   .exact h.C6 i b t l hb hl
  JF:=λb o hi=>by have:=h.JF b o hi; omega
  EE:=λi hi=>by
   by_cases e:i=id
   .exact .inl ⟨_,if_pos e⟩
   .rcases h.EE i hi with ⟨b,hb⟩|x|x|x
    .grind
    .exact .inr (.inl x)
    .exact .inr (.inr (.inl ((hq i).2 ⟨x,e⟩)))
    .exact .inr (.inr (.inr x))
  mp:=h.HV (λ_ _ _=>rfl) (λ_ _ hb'=>A0 (h.K0 hb'))
  Lc:=λi b hb=>by
   obtain⟨a1,a2,a3⟩:=h.Lc i b hb;have hne:i≠id:=λe=>hnm b (by rw[<-e]; exact hb)
   exact⟨(if_neg hne).trans a1,a2,λhp=>a3 ((hq i).1 hp).1⟩
  HK:=h.HK
  Dh:=λi hp=>by
   obtain⟨h1,h2⟩:=(hq i).1 hp;obtain⟨a,b,c⟩:=h.Dh i h1;exact⟨a,(if_neg h2).trans b,c⟩
  E9:=λgl row hr j c hj=>by
   obtain⟨v,h1,h2,h3⟩:=h.E9 gl row hr j c hj;exact⟨v,h1,by rw[ext.cell _ _ h1]; omega,h3.mono ext.mono ext.cell⟩
  DK:=λgl row hr=>by
   obtain⟨h1,h2⟩:=h.DK gl row hr;exact⟨h1,by rw[ext.cell _ _ h1]; omega⟩ }
theorem X1 {E:Env} {g:AI} {w:World} {ρ:Nat->AV} {a:Act} {o:Oper} {cs:List AV} {mk:Nat->AV} (hρ:∀t,V g w (ρ t) (a.tmps.getD t undef)) (h:hcells E ρ o=some (cs,mk)) :
  ∃(vs:List Value) (e:TypeId) (mv:Nat->Value),(execOp a.eval o).run E.P w=.ok (.value (mv w.heap.size)) (CV w vs e)/\VL g w cs vs /\
   (∀(g':AI) (w':World) id b,g'.blk id=some b->w'.shape? b=some (e,vs.length)->V g' w' (mk id) (mv b))/\∀id,KJ (mk id)=some id:=by
 obtain⟨dst,op,type,pos,after,guard⟩:=o;cases op with
 | alloc t=>
  simp only[hcells] at h;split at h
  .rename_i z hz
   cases hbz:E.bz t with
   | true=>grind
   | false=>
   rw[hbz] at h;simp only[AE,Aw,A4] at h;obtain⟨rfl,rfl⟩:=h;obtain⟨i,zv,hi,nu,hrun,hvl⟩:=Dn (g:=g) (w:=w) hz;refine⟨_,t,λb=>.pointer (some ⟨b,0,none⟩),?_,hvl,λg' w' id b hb _=>.ptr hb,λid=>rfl⟩;simp[*,execOp,Instr.alloc,newVar,newRow,CV]
  grind
 | makeSlice t l c=>
  simp only[hcells] at h;split at h
  .rename_i elem lv cv hu hl hc
   split at h
   .rename_i i z hi hz
    split at h
    .rename_i OQ
     obtain⟨h1,rfl,h3,h4,h5,h6⟩:=OQ;simp only[Aw,A4] at h;obtain⟨rfl,rfl⟩:=h;have Ug:=Ae hρ l;have Na:=Ae hρ c;rw[hl] at Ug;rw[hc] at Na;have Ug:=Ug.Cx;have Na:=Na.Cx;obtain⟨i',zv,hi',nu,hrun,hvl⟩:=Dn (g:=g) (w:=w) hz;have:i'=i:=by grind
     subst this;have hzs:zv.cells.size=i'.size:=by rw[<-Hl,<-hvl.len]; omega
     have hr:=Ut (w:=w) hu hi hrun hzs h6 (by omega) (Int.le_refl _) h3 h4;refine⟨_,elem,λb=>.slice (some ⟨b,0,none⟩) lv.toNat lv.toNat,?_,hvl.Fz lv.toNat,λg' w' id b hb hs=>?_,λid=>rfl⟩
     .grind[execOp,Sem.run_bind,Result.andThen_ok,Sem.run_pure]
     .exact .ref hb (AN _) hs (by grind[Qi])
    grind
   grind
  grind
 | _=>grind[hcells]
end Go.Tel
