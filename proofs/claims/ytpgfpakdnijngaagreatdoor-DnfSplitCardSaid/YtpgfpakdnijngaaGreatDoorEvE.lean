/-
  Which plans for regions with a drawn order are sound: a check by computation.
-/
import Derived.Test.YtpgfpakdnijngaaGreatDoorEvN
import Derived.OrdersIn
import Derived.RangeFuncRecord
set_option linter.all false
namespace Go.Tel
def KN:aK->Option Nat
 | .w r=>some r
 | .fa r _ _=>some r
 | _=>none
def FG (p:Bl) (i:Nat):Option Nat:=match p.cls[i]? with
 | some c=>KN c
 | none=>none
def D3 (p:Bl) (i:Nat):List Nat:=match p.pre[i]? with
 | some l=>l
 | none=>[]
def GQ (o:Oper):List Nat:=o.op.operands.toList.filterMap fun
 | .tmp t=>some t
 | _=>none
def G8 (ops:Array Oper) (o:Oper):List Nat:=match Mf ops o with
 | some d=>[d]
 | none=>[]
def D9 (ops:Array Oper) (i:Nat):List Nat:=match ops[i]? with
 | some o=>G8 ops o++GQ o
 | none=>[]
def kO (ops:Array Oper) (i:Nat):Option Nat:=match ops[i]? with
 | some o=>o.dst
 | none=>none
def F4 (ops:Array Oper) (i:Nat):List Nat:=match kO ops i with
 | some d=>[d]
 | none=>[]
def Hp (ops:Array Oper) (p:Bl) (i:Nat):List Nat:=match p.cls[i]? with
 | some .fj=>[]
 | some .fx=>[]
 | some (.fa _ j _)=>F4 ops i++F4 ops j
 | _=>F4 ops i
def oE (ops:Array Oper) (p:Bl) (i:Nat):List Nat:=match p.cls[i]? with
 | some .fj=>[]
 | some .fx=>[]
 | some (.fa _ j x)=>(D9 ops i++D9 ops j++D9 ops x).filter λt=>!(has (F4 ops i++F4 ops j) t)
 | _=>D9 ops i
def Yq (ops:Array Oper) (p:Bl) (i:Nat):Bool:=match ops[i]? with
 | some o=>(o.after.toList.all λe=>!(Region.binds .any e)||Nat.blt e.on i) &&
   ((D3 p i).all λj=>o.after.toList.any λe=>Region.binds .any e&&(Nat.beq e.on j||has (D3 p e.on) j))
 | none=>true
def Ln (ops:Array Oper) (p:Bl) (i:Nat):Bool:=match ops[i]?,p.cls[i]? with
 | some o,some (.h _)=>o.guard.isNone&&o.dst.isSome
 | some o,some (.fa _ _ _)=>o.guard.isNone&&(Hr p.GG i).isEmpty
 | some o,some .fj=>o.guard.isNone&&(Hr p.GG i).isEmpty
 | some o,some .fx=>o.guard.isNone&&(Hr p.GG i).isEmpty
 | some _,some _=>true
 | _,_=>false
def ACX (ops:Array Oper) (n i:Nat):Bool:=(List.range n).all λj=>Nat.beq j i||(F4 ops j).all λd=>!(has (F4 ops i) d)
def s9 (ops:Array Oper) (p:Bl) (n i:Nat):Bool:=(List.range n).all λj=>(F4 ops j).all λd=>!(has (D9 ops i) d) ||
 bif has (Hr p.GG i) d then Nat.beq j i||has (D3 p j) i else has (D3 p i) j
def IL (ops:Array Oper) (p:Bl) (done:List Nat):List Nat->Bool
 | []=>true
 | i::rest=>((oE ops p i).all λt=>bif has (Hr p.GG i) t then !(has done t) else !((i::rest).any λj=>has (Hp ops p j) t)) &&
   ((Hp ops p i).all λt=>!(rest.any λj=>has (Hp ops p j) t))&&IL ops p (Hp ops p i++done) rest
def Yr (o:Oper):Bool:=match o.op with
 | .move _|.assign _|.pick _ _ _|.build _ _|.buildSlice _ _ _|.field _ _ _|.extract _ _|.makeFunc _ _ _|.makeInterface _ _|.unOp _ _ _|.index _ _ _=>true
 | _=>false
def OI (ops:Array Oper) (i:Nat):Bool:=match ops[i]? with
 | some o=>Yr o
 | none=>false
def Nb (l:List (Nat×Nat)) (i k:Nat):Bool:=l.any λy=>Nat.beq y.1 i&&Nat.beq y.2 k
def Su (ops:Array Oper) (p:Bl):List Nat->Bool
 | []=>true
 | i::rest=>(match p.cls[i]? with
  | some (.q ts)=>ts.all λt=>OI ops i||Nb p.Vo i t
  | some (.h ts)=>ts.all λt=>Nb p.Vo i t
  | _=>false)&&Su ops p rest
def Kg (ops:Array Oper) (p:Bl):List Nat->Nat->Option Nat
 | [],k=>some k
 | i::rest,k=>match p.cls[i]? with
  | some (.q ts)=>bif ts.all λt=>Nat.beq t k||OI ops i||Nb p.Vo i t then Kg ops p rest k else none
  | some (.w r)=>bif Nat.beq r k then Kg ops p rest (k+1) else none
  | some (.fa r _ _)=>bif Nat.beq r k then Kg ops p rest (k+1) else none
  | some .fj=>Kg ops p rest k
  | some .fx=>Kg ops p rest k
  | _=>none
def Ys (p:Bl) (n i:Nat):Bool:=match FG p i with
 | some r=>(List.range n).all λj=>match FG p j with
  | some r'=>Nat.beq i j||(!(Nat.beq r r')&&(!(Nat.blt r r')||has (D3 p j) i))
  | none=>true
 | none=>true
def fk (p:Bl) (n K i:Nat):Bool:=
 let f (ts:List Nat):Bool:=(List.range (K+1)).all λk=>has ts k||(List.range n).any λj=>match FG p j with
  | some r=>(has (D3 p i) j&&Nat.ble k r)||(has (D3 p j) i&&Nat.blt r k)
  | none=>false
 match p.cls[i]? with
 | some (.q ts)=>f ts&&ts.all λk=>Nat.ble k K
 | some (.h ts)=>f ts&&ts.all λk=>Nat.ble k K
 | _=>true
def Yt (ops:Array Oper) (p:Bl) (i:Nat):Bool:=match ops[i]?,p.cls[i]? with
 | some o,some (.q _)=>match o.op with
  | .nilCheck _|.fieldAddr _ _ _|.move _=>true
  | _=>false
 | some o,some (.w _)=>match o.op with
  | .store _ _ _=>true
  | _=>false
 | _,_=>false
def OJ (ops:Array Oper) (p:Bl) (n i:Nat):Bool:=match p.cls[i]? with
 | some (.fa _ j x)=>(match p.cls[j]?,p.cls[x]?,ops[i]?,ops[j]?,ops[x]? with
   | some .fj,some .fx,some o,some o1,some o2=>(fused o o1 o2).isSome
   | _,_,_,_,_=>false) &&
   has (D3 p j) i&&has (D3 p x) j&&has (D3 p x) i &&
   (List.range n).all λm=>Nat.beq m i||Nat.beq m j||Nat.beq m x||(has (D3 p i) m||(has (D3 p m) x||Yt ops p m)) &&
    ((F4 ops m).all λd=>!(has (D9 ops j) d||has (D9 ops x) d)||has (D3 p i) m)
 | some .fj=>(List.range n).any λm=>match p.cls[m]? with
  | some (.fa _ j _)=>Nat.beq j i
  | _=>false
 | some .fx=>(List.range n).any λm=>match p.cls[m]? with
  | some (.fa _ _ x)=>Nat.beq x i
  | _=>false
 | _=>true
def TS (ops:Array Oper) (p:Bl):Bool:=
 let n:=ops.size
 match Kg ops p p.rest 0 with
 | none=>false
 | some K=>
  Nat.beq (p.first++p.rest).length n&&((List.range n).all λi=>has (p.first++p.rest) i) &&
  ((List.range n).all λi=>Yq ops p i&&Ln ops p i&&ACX ops n i&&s9 ops p n i&&Ys p n i&&fk p n K i&&OJ ops p n i) &&
  IL ops p [] (p.first++p.rest)&&Su ops p p.first
def Ef (pl:Nat->Option Bl):Code->Bool
 | .region id ops true=>(match pl id with
  | some p=>TS ops p
  | none=>true)&&(match pl (id+1000000) with
  | some p=>TS ops p
  | none=>true)
 | .seq a b=>Ef pl a&&Ef pl b
 | .cond _ a b=>Ef pl a&&Ef pl b
 | .block _ b=>Ef pl b
 | .loop b=>Ef pl b
 | .rangeFunc _ _ a b=>Ef pl a&&Ef pl b
 | _=>true
def aa (E:Env):Bool:=(List.range E.P.funcs.size).all λf=>match E.P.funcs[f]? with
 | some fn=>match fn.body with
  | some c=>Ef (E.plan f) c
  | none=>true
 | none=>true
theorem DV {o:Oper} {t:Nat}:t∈GQ o<->Operand.tmp t∈o.op.operands:=by
 unfold GQ;rw[List.mem_filterMap];constructor
 .grind
 .intro h
  exact⟨.tmp t,AB,rfl⟩
theorem KO {U U':Nat->AV} {x:Operand} (h:∀t,x=.tmp t->U t=U' t):Am U x=Am U' x:=by
 cases x <;> simp[Am]
 grind
theorem Jn {U U':Nat->AV} {o:Oper} (h:∀t∈GQ o,U t=U' t):∀x∈o.op.operands,Am U x=Am U' x:=λ_ hx=>
 KO λ_ e=>h _ (DV.2 (e ▸ hx))
theorem Vr {E:Env} {U U':Nat->AV} {o:Oper} (hs:∀cs b,o.op≠.select cs b) (h:∀x∈o.op.operands,Am U x=Am U' x):C4 E U o=C4 E U' o:=by
 unfold C4;have h1:Ev U o.op.operands.toList=Ev U' o.op.operands.toList:=by grind[Ev]
 have h2:execOp (λx=>(Hl (Am U x)).getD undef) o=execOp (λx=>(Hl (Am U' x)).getD undef) o:=
  execOp_congr o hs λx hx=>by rw[h x hx]
 rw[h1,h2]
theorem Vs {U U':Nat->AV} {x:Operand} (h:Am U x=Am U' x):Fp U x=Fp U' x:=by
 unfold Fp
 grind
theorem Yu {P:Program} {s:AQ} {U U':Nat->AV} {op:BinOp} {t:TypeId} {x y:Operand} (hx:Am U x=Am U' x) (hy:Am U y=Am U' y) :
  Ir P s U op t x y=Ir P s U' op t x y:=by
 unfold Ir
 grind[Vs]
theorem Rc {U U':Nat->AV} {parts:Array (Nat×Operand)} (h:∀x∈parts.map (·.2),Am U x=Am U' x) :
  (parts.toList.map λp=>(p.1,Am U p.2))=parts.toList.map λp=>(p.1,Am U' p.2):=by grind[List.map_congr_left]
theorem Qb {U U':Nat->AV} {x:Option Operand} (h:∀y,x=some y->Am U y=Am U' y):x.map (Am U)=x.map (Am U'):=by
 cases x with
 | none=>rfl
 | some y=>grind
theorem Wm {E:Env} {L:BL} {U U':Nat->AV} {s:AQ} {o:Oper} (h:∀x∈o.op.operands,Am U x=Am U' x):Ci E L U s o=Ci E L U' s o:=by
 have hq:=λhs=>Vr (E:=E) (o:=o) hs h
 obtain⟨dst,op,type,pos,after,guard⟩:=o;cases op with
 | build t parts=>simp only[Ci]; rw[Rc (by simpa[Op.operands] using h)]
 | buildSlice t n parts=>simp only[Ci]; rw[Rc (by simpa[Op.operands] using h)]
 | makeFunc fn a b=>
  grind[Ci,List.map_congr_left,Op.operands]
 | slice t x lo hi mx=>
  simp only[Ci];rw[hq AD,h x (by simp[Op.operands]),Qb (x:=lo) (λy e=>h y (by grind[Op.operands])),Qb (x:=hi) (λy e=>h y (by grind[Op.operands])),Qb (x:=mx) (λy e=>h y (by grind[Op.operands]))]
 | call c=>
  obtain⟨callee,args,ts⟩:=c;cases callee with
  | value f=>rfl
  | invoke r n=>rfl
  | builtin b=>
   have ha:∀x∈args.toList,Am U x=Am U' x:=λx hx=>h x (by grind[Op.operands,Call.operands])
   cases b with
   | len=>
    simp only[Ci];rw[hq AD]
    grind
   | append=>
    grind[Ci]
   | delete=>
    grind[Ci]
   | _=>simp[*,Ci]
 | binOp op t x y yt=>
  simp only[Ci];rw[hq AD,Yu (h x (by simp[Op.operands])) (h y (by simp[Op.operands])),h x (by simp[Op.operands]),h y (by simp[Op.operands])]
 | convert a b x=>simp_all[Ci,Op.operands]
 | unOp op t x=>simp_all[Ci,Op.operands]
 | index t x i=>simp_all[Ci,Op.operands]
 | move x=>grind[Ci,Op.operands]
 | assign x=>grind[Ci,Op.operands]
 | pick c a b=>grind[Ci,Op.operands]
 | alloc t=>rfl
 | box t x=>grind[Ci,Op.operands]
 | makeSlice t l c=>grind[Ci,Op.operands]
 | load t x=>grind[Ci,Op.operands]
 | store t x y=>grind[Ci,Op.operands]
 | nilCheck x=>grind[Ci,Op.operands]
 | fieldAddr t x f=>grind[Ci,Op.operands]
 | field t x f=>grind[Ci,Op.operands]
 | indexAddr t x i=>grind[Ci,Op.operands]
 | extract x i=>grind[Ci,Op.operands]
 | makeInterface t x=>grind[Ci,Op.operands]
 | makeMap t r=>grind[Ci]
 | lookup t m k ok=>grind[Ci,Op.operands]
 | mapUpdate t m k x=>grind[Ci,Op.operands]
 | insert t m k x=>grind[Ci,Op.operands]
 | _=>rfl
theorem Vt {U U':Nat->AV} {c:Call} (h:∀x∈c.operands,Am U x=Am U' x):Lh U c=Lh U' c:=by
 obtain⟨callee,args,ts⟩:=c;unfold Lh
 grind[List.map_congr_left,Call.operands]
theorem fq {E:Env} {L:BL} {cf:Cx} {U U':Nat->AV} {s:AQ} {o:Oper} (h:∀x∈o.op.operands,Am U x=Am U' x):OE E L cf U s o=OE E L cf U' s o:=by
 rw[PA,PA];unfold nu;rw[Wm h];split
 .rename_i c hc
  have:∀x∈c.operands,Am U x=Am U' x:=λx hx=>h x (by rw[hc]; exact hx)
  grind[Vt]
 rfl
theorem Yv {E:Env} {L:BL} {U U':Nat->AV} {s:AQ} {o:Oper} (h:∀x∈o.op.operands,Am U x=Am U' x):Jh E L U s o=Jh E L U' s o:=by
 rw[K1,K1];unfold Ei;rw[Wm h]
theorem N3 {ops:Array Oper} {U U':Nat->AV} {o:Oper} (h:∀t∈G8 ops o,U t=U' t):FM ops U o=FM ops U' o:=by grind[FM,G8]
theorem JJ {E:Env} {L:BL} {ops:Array Oper} {U U':Nat->AV} {s:AQ} {o:Oper} (h:∀t∈G8 ops o++GQ o,U t=U' t):FN E L ops U s o=FN E L ops U' s o:=by grind[FN,N3,Yv,Jn]
theorem OK {E:Env} {L:BL} {cf:Cx} {ops:Array Oper} {U U':Nat->AV} {s:AQ} {o:Oper} (h:∀t∈G8 ops o++GQ o,U t=U' t):OG E L cf ops U s o=OG E L cf ops U' s o:=by grind[OG,N3,fq,Jn]
theorem PI {E:Env} {U U':Nat->AV} {o:Oper} (h:∀t∈GQ o,U t=U' t):hcells E U o=hcells E U' o:=by grind[Jn,hcells,Op.operands]
theorem TT {E:Env} {L:BL} {U:Nat->AV} {s:AQ} {o:Oper} {v:AV} (h:Jh E L U s o=some v):Ci E L U s o=some (v,s):=by
 rw[K1] at h;have key:∀(r:Option (AV×AQ)),(∀u s',r=some (u,s')->s'=s)->(match r with|some (v,_)=>some v|none=>none)=some v->r=some (v,s):=AB;have qz:∀(r:Option AV) (z:Option (AV×AQ)),(match r with|some v=>some (v,s)|none=>none)=z->∀u s',z=some (u,s')->s'=s:=AB;obtain⟨dst,op,type,pos,after,guard⟩:=o;cases op with
 | alloc t=>grind[Ei]
 | box t x=>grind[Ei]
 | makeSlice t l c=>
  simp only[Ei] at h;split at h
  .rename_i s1 hop
   simp at h; subst h;rw[hop];simp only[Ci,fV] at hop
   grind
  grind
 | store t x y=>grind[Ei]
 | makeMap t r=>grind[Ei]
 | mapUpdate t m k x=>grind[Ei]
 | insert t m k x=>grind[Ei]
 | lookup t m k ok=>exact key _ (λu s' hr=>by grind[Ci]) h
 | buildSlice t n parts=>
  simp only[Ei] at h;split at h
  .rename_i elem hu
   cases Yl:muL L elem with
   | true=>grind
   | false=>
    simp only[Yl,AK] at h;refine key _ (λu s' hr=>?_) h;simp only[Ci,G4,hu,Yl,Gt,AK] at hr
    grind
  grind
 | call c=>
  grind[Ei,Ci]
 | slice t x lo hi mx=>
  refine key _ (λu s' hr=>?_) h
  grind[Ci]
 | binOp op t x y yt=>
  refine key _ (λu s' hr=>?_) h
  grind[Ci]
 | convert a b x=>
  refine key _ (λu s' hr=>?_) h
  grind[Ci]
 | pick c a b=>
  refine key _ (λu s' hr=>?_) h
  grind[Ci]
 | makeInterface t x=>
  refine key _ (λu s' hr=>?_) h
  grind[Ci]
 | move x=>exact key _ (λu s' hr=>by grind[Ci]) h
 | assign x=>exact key _ (λu s' hr=>by grind[Ci]) h
 | makeFunc fn a b=>exact key _ (λu s' hr=>by grind[Ci]) h
 | build t parts=>exact key _ (λu s' hr=>by grind[Ci]) h
 | load t x=>exact key _ (λu s' hr=>by grind[Ci]) h
 | nilCheck x=>exact key _ (λu s' hr=>by grind[Ci]) h
 | fieldAddr t x f=>exact key _ (λu s' hr=>by grind[Ci]) h
 | field t x f=>exact key _ (λu s' hr=>by grind[Ci]) h
 | indexAddr t x i=>exact key _ (λu s' hr=>by grind[Ci]) h
 | extract x i=>exact key _ (λu s' hr=>by grind[Ci]) h
 | unOp op t x=>
  refine key _ (λu s' hr=>?_) h
  grind[Ci]
 | index t x i=>
  refine key _ (λu s' hr=>?_) h
  grind[Ci]
 | _=>exact key _ (λu s' hr=>by grind[Ci]) h
theorem Yw {E:Env} {L:BL} {U:Nat->AV} {s s':AQ} {o:Oper} {v:AV} (hp:Yr o=true) (h:Jh E L U s o=some v):Jh E L U s' o=some v:=by
 rw[K1] at h ⊢
 have mm:∀(r:Option AV) (s s':AQ),(match (match r with|some v=>some (v,s)|none=>none:Option (AV×AQ)) with|some (v,_)=>some v|none=>none)=some v ->
   (match (match r with|some v=>some (v,s')|none=>none:Option (AV×AQ)) with|some (v,_)=>some v|none=>none)=some v:=AB
 obtain⟨dst,op,type,pos,after,guard⟩:=o;cases op with
 | buildSlice t n parts=>
  simp only[Ei] at h ⊢;split at h
  .rename_i elem hu
   cases Yl:muL L elem with
   | true=>grind
   | false=>
    simp only[Yl,AK] at h ⊢;simp only[Ci,G4,hu,Yl,Gt,AK] at h ⊢;split at h
    .rename_i q hq
     split at hq
     all_goals grind
    grind
  omega
 | move x=>exact h
 | assign x=>exact h
 | pick c a b=>
  grind[Ei,Ci]
 | makeFunc fn a b=>exact h
 | makeInterface t x=>
  grind[Ei,Ci]
 | build t parts=>grind[Ei,Ci]
 | field t x f=>grind[Ei,Ci]
 | extract x i=>grind[Ei,Ci]
 | unOp op t x=>
  grind[Ei,Ci]
 | index t x i=>
  grind[Ei,Ci]
 | _=>grind[Yr]
theorem fy {a b:IntKind} (h:Gd a=Gd b):a=b:=by cases a <;> cases b <;> grind[Gd]
theorem af {a b:Int} (h:aV a b=true):a=b:=by
 unfold aV at h;split at h
 all_goals simp_all
theorem Qc {a b:Value} (h:eqV a b=true):a=b:=by
 unfold eqV at h;split at h
 .grind[fy,Nat.eq_of_beq_eq_true,af]
 .grind
 .rename_i x y
  have:=N4 _ _ h;congr 1;cases x; simp_all
 all_goals simp_all
mutual
theorem Wn:∀(a b:PV),NZ a b=true->a=b
 | .sc a,.sc b,h=>by grind[NZ,Qc]
 | .list a,.list b,h=>by simp only[NZ] at h; rw[KP a b h]
 | .sc _,.list _,h=>by simp[NZ] at h
 | .list _,.sc _,h=>by simp[NZ] at h
theorem OL:∀(a b:List PV),Mg a b=true->a=b
 | [],[],_=>rfl
 | x::xs,y::ys,h=>by
  simp only[Mg,AH] at h;rw[Wn x y h.1,OL xs ys h.2]
 | [],_::_,h=>by grind[Mg]
 | _::_,[],h=>by grind[Mg]
theorem KP:∀(a b:List (List PV)),I1 a b=true->a=b
 | [],[],_=>rfl
 | x::xs,y::ys,h=>by
  simp only[I1,AH] at h;rw[OL x y h.1,KP xs ys h.2]
 | [],_::_,h=>by grind[I1]
 | _::_,[],h=>by grind[I1]
end
theorem TU:∀(a b:List MapEntry),nx a b=true->a=b
 | [],[],_=>rfl
 | ⟨k,v,n⟩::xs,⟨k',v',n'⟩::ys,h=>by
  simp only[nx,AH] at h;rw[Qc h.1.1.1,Qc h.1.1.2,CC h.1.2,TU xs ys h.2]
 | [],_::_,h=>by grind[nx]
 | _::_,[],h=>by grind[nx]
mutual
theorem Qd:∀(a b:AV),Dg a b=true->a=b
 | .pv a,b,h=>by
  cases b <;> simp only[Dg,DN] at h;rw[Wn _ _ h]
 | .ptr a c,b,h=>by
  cases b <;> simp only[Dg,DN,AH] at h;rw[CC h.1,CC h.2]
 | .Dt a c,b,h=>by
  cases b <;> simp only[Dg,DN,AH] at h;rw[CC h.1,CC h.2]
 | .Cw a c,b,h=>by
  cases b <;> simp only[Dg,DN,AH] at h;rw[OL _ _ h.1,CC h.2]
 | .AE a,b,h=>by
  cases b <;> simp only[Dg,DN] at h;rw[KP _ _ h]
 | .own t a,b,h=>by
  cases b <;> simp only[Dg,DN,AH] at h;rw[CC h.1,KP _ _ h.2]
 | .ref a c d e,b,h=>by
  cases b <;> simp only[Dg,DN,AH] at h;rw[CC h.1.1.1,CC h.1.1.2,CC h.1.2,CC h.2]
 | .func f a c,b,h=>by
  cases b with
  | func g d e=>cases f <;> cases g <;> simp only[Dg,DN,AH] at h
                rw[CC h.1.1,H6 _ _ h.1.2,H6 _ _ h.2]
  | _=>cases f <;> simp only[Dg,DN] at h
 | .iface t a,b,h=>by
  cases b <;> simp only[Dg,DN,AH] at h;rw[CC h.1,Qd _ _ h.2]
 | .agg a,b,h=>by
  cases b <;> simp only[Dg,DN] at h;rw[H6 _ _ h]
 | .tuple a,b,h=>by
  cases b <;> simp only[Dg,DN] at h;rw[H6 _ _ h]
 | .Gh,b,h=>by
  cases b <;> simp only[Dg,DN] at h;rfl
 | .HQ a,b,h=>by
  cases b <;> simp only[Dg,DN] at h;rw[CC h]
 | .O9 a c,b,h=>by
  cases b <;> simp only[Dg,DN,AH] at h;rw[TU _ _ h.1,CC h.2]
 | .bz a c d,b,h=>by
  cases b <;> simp only[Dg,DN,AH] at h;rw[CC h.1.1,CC h.1.2,CC h.2]
theorem H6:∀(a b:List AV),JG a b=true->a=b
 | [],[],_=>rfl
 | x::xs,y::ys,h=>by
  simp only[JG,AH] at h;rw[Qd x y h.1,H6 xs ys h.2]
 | [],_::_,h=>by grind[JG]
 | _::_,[],h=>by grind[JG]
end
def FW (rd:Option Nat):Fence:={ Fence.wide with round:=rd }
theorem Yx {P:Program} {U:Operand->Value} {o:Oper} {w w':World} {x:Next} (hr:(execOp U o).run P w=.ok x w') (hx:∀d,x≠.defer d):∀c,o.op≠.defer c:=by
 intro c e;unfold execOp at hr;rw[e] at hr;simp only[Sem.run_bind] at hr;cases hq:(resolve U c o.type).run P w with
 | ok d w1=>
  grind[Result.andThen_ok,Sem.run_pure]
 | halt h w1=>simp_all
section
variable {rd:Option Nat} {P:Program} {o:Oper} {a:Act} {w w':World} {K:Act->World->Prop} {Q:Exit->Act->World->Prop}
theorem KQ {v:Value} (hr:(execOp a.eval o).run P w=.ok (.value v) w') (h:K (a.put o.dst v) w'):o.wpIn (FW rd) 0 P a w K Q:=
 ⟨λ_ _=>trivial,by rw[Oper.semAt_eq _ _ _ (Yx hr λd e=>by cases e),hr]; exact h⟩
theorem JK (hr:(execOp a.eval o).run P w=.ok .skip w') (h:K (a.put o.dst undef) w'):o.wpIn (FW rd) 0 P a w K Q:=
 ⟨λ_ _=>trivial,by rw[Oper.semAt_eq _ _ _ (Yx hr λd e=>by cases e),hr]; exact h⟩
theorem Vu {f:FuncId} {args:Array Value} (hr:(execOp a.eval o).run P w=.ok (.enter f args) w') (h:Calls P f args w' λe w''=>∃v,e=.returned v/\K (a.put o.dst v) w''):o.wpIn (FW rd) 0 P a w K Q:=by
 refine⟨λ_ _=>trivial,?_⟩;rw[Oper.semAt_eq _ _ _ (Yx hr λd e=>by cases e),hr];refine⟨λe=>by grind[FW,Fence.wide],?_⟩;refine(callsIn_wide (n:=0-1)).2 (h.mono ?_)
 grind
end
def H7 (E:Env) (L:BL) (cf:Cx):Prop:=
 ∀(f:FuncId) (args:List AV) (s s':AQ) (v:AV) (g:AP) (w:World) (vs:List Value),cf f args s=some (v,s')->Inv E g w s->VL g w args vs ->
  (∃fn,E.P.funcs[f]?=some fn/\fn.body.isSome=true/\(fn.name== "runtime.NumGoroutine")=false) /\
  Calls E.P f vs.toArray w λe w'=>∃v' g',e=.returned v'/\V g' w' v v'/\Ext L g w g' w'/\Inv E g' w' s'
theorem V.ag {g:AP} {w:World} {fn:Fn} {first captured:List AV} {v:Value} (h:V g w (.func fn first captured) v) :
  ∃vs us,v=.func fn (List.toArray vs) (List.toArray us)/\VL g w first vs/\VL g w captured us:=by
 cases h with|func hl hm h k=>exact⟨_,_,rfl,⟨hl,h⟩,⟨hm,k⟩⟩
theorem OM {E:Env} {L:BL} {cf:Cx} {g:AP} {w:World} {s s':AQ} {U:Nat->AV} {a:Act} {o:Oper} {v:AV} {K:Act->World->Prop} {Q:Exit->Act->World->Prop}
  (Sv:H7 E L cf) (hI:Inv E g w s) (hU:∀t,V g w (U t) (a.tmps.getD t undef)) (h:OE E L cf U s o=some (v,s'))
  (hk:∀v' w' g',V g' w' v v'->Ext L g w g' w'->Inv E g' w' s'->K (a.put o.dst v') w') {rd:Option Nat}:o.wpIn (FW rd) 0 E.P a w K Q:=by
 have AW8:Ci E L U s o=some (v,s')->o.wpIn (FW rd) 0 E.P a w K Q:=by
  intro h;obtain⟨v',w',g',hg,hv,he,hi⟩:=oH hI hU h;rcases hg with hg|⟨hg,rfl⟩
  all_goals grind[KQ,JK]
 rw[PA] at h;unfold nu at h;split at h
 .rename_i c hc
  split at h
  .grind
  .split at h
   .rename_i f args tA
    unfold Lh at tA;split at tA
    .rename_i x hx
     split at tA
     .rename_i gf first captured hev
      simp only[BN,BU] at tA;obtain⟨rfl,rfl⟩:=tA;have hfv:=Av hU x;rw[hev] at hfv;obtain⟨vs,us,hval,h1,h2⟩:=hfv.ag;have hargs:=Qe hU c.args.toList;obtain⟨⟨fn,hfn,hbody,hname⟩,AW9⟩:=Sv _ _ _ _ _ _ _ _ h hI ((h1.append hargs).append h2)
      have hrun:(execOp a.eval o).run E.P w=.ok (.enter gf (vs++List.map a.eval c.args.toList++us).toArray) w:=by
       obtain⟨dst,op,type,pos,after,guard⟩:=o;simp only at hc;subst hc;have Yy:(vs.toArray++c.args.map a.eval)++us.toArray=(vs++List.map a.eval c.args.toList++us).toArray:=AD;have hnb:fn.body.isNone=false:=by simp[*]
       simp only[execOp,resolve,hx,hval,Deferred.ofValue,Sem.run_bind,Sem.run_pure,Result.andThen_ok,invoke,callFunc,Yy,run_program,hfn,hname,hnb,DN,I8]
      grind[Vu,Calls.mono]
     grind
    grind
   grind
 grind
theorem DM {g:AP} {w:World} {U:Nat->AV} {a:Act} (hU:∀t,V g w (U t) (a.tmps.getD t undef)) {ops:Array Oper} {o:Oper} {b:Bool} (h:FM ops U o=some b) :
  Region.wanted o (yielded ops a.tmps)=b:=by
 unfold FM Mf at h;unfold Region.wanted;cases hg:o.guard with
 | none=>grind
 | some jw=>
  obtain⟨j,want⟩:=jw;rw[hg] at h;simp only at h ⊢;unfold yielded;cases hp:ops[j]? with
  | none=>grind
  | some p=>
   rw[hp] at h;simp only[YQ] at h ⊢;cases hd:p.dst with
   | none=>grind
   | some d=>
    rw[hd] at h;simp only[YQ] at h ⊢;have hv:=hU d;split at h
    .rename_i c hc
     rw[hc] at hv;have hv:=hv.DC;simp at h;subst h;cases hx:a.tmps[d]? with
     | none=>grind[undef]
     | some y=>simp_all
    .rename_i hc
     rw[hc] at hv;obtain⟨vs,hu,hvl⟩:=hv.QZ;have:=hvl.GN;subst this;simp at h;subst h;cases hx:a.tmps[d]? with
     | none=>simp
     | some y=>simp_all
    grind
def AP.CE (g:AP) (q:Nat->Prop):AP:={ g with DJ:=q }
theorem V.CE {g:AP} {w:World} {q:Nat->Prop} {x:AV} {v:Value} (h:V g w x v):V (g.CE q) w x v:=by
 induction h with
 | pv h=>exact .pv h
 | ptr h=>exact .ptr h
 | Li h=>exact .Li h
 | Dt gl off=>grind[Dt]
 | Cw off f h=>exact .Cw off f h
 | AE h=>exact .AE h
 | own h hcap ht hn hf=>exact .own h hcap ht hn hf
 | ref h hcap hs hn=>exact .ref h hcap hs hn
 | JI h=>exact .JI h
 | Gh=>exact .Gh
 | HQ h=>exact .HQ h
 | bz h hs=>exact .bz h hs
 | ru h=>exact .ru h
 | func hl hm _ _ ih ik=>grind[func]
 | iface _ ih=>exact .iface ih
 | agg hl _ ih=>grind[agg]
 | tuple hl _ ih=>grind[tuple]
theorem VL.CE {g:AP} {w:World} {q:Nat->Prop} {cs:List AV} {vs:List Value} (h:VL g w cs vs):VL (g.CE q) w cs vs:=
 ⟨h.len,λi c v h1 h2=>(h.at_ i c v h1 h2).CE⟩
theorem Ext.CE {L:BL} {g g':AP} {w w':World} {q:Nat->Prop} (h:Ext L g w g' w') (hq:∀id,g.DJ id->q id):Ext L g w (g'.CE q) w':=
 {os:=h.os,tape:=h.tape,output:=h.output,size:=h.size,mono:=h.mono,cell:=h.cell,blk:=h.blk,dead:=h.dead,shape:=h.shape,tok:=h.tok,Ga:=h.Ga,F0:=h.F0,
  out:=h.out,mp:=h.mp,F1:=h.F1,K2:=h.K2,HR:=h.HR,K3:=h.K3,DJ:=hq }
theorem Inv.CE {E:Env} {g:AP} {w:World} {s:AQ} {q:Nat->Prop} (h:Inv E g w s) (hq:∀id,q id->id<s.bs.length/\g.blk id=none/\¬ g.dead id) (hall:∀id,g.DJ id->q id) (hm:∀id b,g.mp id=some b->¬ q id):Inv E (g.CE q) w s:=
 {Ex:=h.Ex,Dm:=h.Dm,GO:=h.GO,Dn:=h.Dn,Gx:=h.Gx,Gy:=h.Gy,tok:=h.tok,HG:=h.HG,FF:=h.FF,Ge:=h.Ge,DL:=h.DL,Kf:=h.Kf,
  Dw:=hq
  Ec:=λid hid=>(h.Ec id hid).imp (λx=>x) (λx=>x.imp (λy=>y) (λy=>y.imp (hall id) (λz=>z)))
  mp:=h.mp
  MM:=λid b hb=>⟨(h.MM id b hb).1,(h.MM id b hb).2.1,hm id b hb⟩
  Ho:=h.Ho
  blk:=λid b hb=>by
   obtain⟨cs,vs,e,h1,h2,h3,h4⟩:=h.blk id b hb;exact⟨cs,vs,e,h1,h2,h3,h4.CE⟩
  Fv:=h.Fv
  Dc:=h.Dc }
theorem Inv.reserve {E:Env} {g:AP} {w:World} {s:AQ} (h:Inv E g w s) (cs:List AV) :
  Inv E (g.CE λid=>g.DJ id\/id=s.bs.length) w { s with bs:=s.bs++[cs] }:=by
 have hlt:∀id,id<s.bs.length->(s.bs++[cs])[id]?=s.bs[id]?:=λid hid=>CT hid
 exact {
  Ex:=λid b hb=>by have:=h.Ex id b hb; grind
  Dm:=λid hd=>by have:=h.Dm id hd; grind
  GO:=h.GO
  Dn:=λid hd=>(hlt id (h.Dm id hd)).trans (h.Dn id hd)
  Gx:=h.Gx,Gy:=h.Gy,tok:=h.tok,HG:=h.HG,FF:=h.FF,Ge:=h.Ge,DL:=h.DL,Kf:=h.Kf
  Ec:=λid hid=>by
   by_cases e:id=s.bs.length
   .exact .inr (.inr (.inl (.inr e)))
   .rcases h.Ec id AB with q|q|q|q
    .exact .inl q
    .exact .inr (.inl q)
    .exact .inr (.inr (.inl (.inl q)))
    .exact .inr (.inr (.inr q))
  mp:=h.Iv (λ_ _ hb'=>hlt _ (h.mpN hb')) (λ_ _ _=>rfl)
  MM:=λid b hb=>⟨(h.MM id b hb).1,(h.MM id b hb).2.1,λhp=>hp.elim (h.MM id b hb).2.2 (λe=>by have:=h.mpN hb; omega)⟩
  Ho:=h.Ho
  Dw:=λid hp=>by
   rcases hp with hp|rfl
   .obtain⟨a,b,c⟩:=h.Dw id hp
    exact⟨AB,b,c⟩
   .refine⟨AD,?_,h.fresh⟩
    cases hb:g.blk s.bs.length with
    | none=>exact hb
    | some b=>exact absurd (h.Ex _ b hb) (Oy _)
  blk:=λid b hb=>by
   obtain⟨vcs,vs,e,h1,h2,h3,h4⟩:=h.blk id b hb;exact⟨vcs,vs,e,(hlt id (h.Ex id b hb)).trans h1,h2,h3,h4.CE⟩
  Fv:=h.Fv
  Dc:=h.Dc }
theorem Inv.fill {E:Env} {L:BL} {g:AP} {w:World} {s:AQ} (h:Inv E g w s) {id:Nat} {q:Nat->Prop} (hq:∀i,q i<->g.DJ i/\i≠id) {cs:List AV} {vs:List Value} (e:TypeId) (hid:id<s.bs.length) (hnb:g.blk id=none) (hnd:¬ g.dead id) (hnm:∀b,g.mp id≠some b)
  (hcs:s.bs[id]?=some cs) (hle:cs.length<=vs.length) (hl:VL g w cs (vs.take cs.length)) :
  Ext L (g.CE q) w ((g.CE q).F3 id w.heap.size hnd) (Cb w vs e)/\Inv E ((g.CE q).F3 id w.heap.size hnd) (Cb w vs e) s:=by
 have hsz:(Cb w vs e).heap.size=w.heap.size+1:=by simp[Cb]
 have hne:∀i b,g.blk i=some b->i≠id:=λi b hb e=>by grind
 have hbk:∀i b,g.blk i=some b->((g.CE q).F3 id w.heap.size hnd).blk i=some b:=λi b hb=>(if_neg (hne i b hb)).trans hb
 have inv:∀i b,((g.CE q).F3 id w.heap.size hnd).blk i=some b->(i=id/\b=w.heap.size)\/g.blk i=some b:=λi b hb=>by
  simp only[AP.F3] at hb;split at hb
  .grind
  .exact .inr hb
 have ext:Ext L (g.CE q) w ((g.CE q).F3 id w.heap.size hnd) (Cb w vs e):={
  os:=rfl,tape:=rfl,output:=rfl,size:=AA
  mono:=λ_ _ hi=>hi
  cell:=λk o hi=>Ck (BG (h.Kf k o hi)) o
  blk:=λi b hb=>.inl (hbk i b hb)
  dead:=λ_ hd=>hd
  shape:=λi b hb _=>ED (BG (h.FI hb))
  tok:=λ_ l hl=>⟨l,hl,.inl rfl⟩
  Ga:=λi b hb _=>⟨hbk i b hb,BG (h.FI hb)⟩
  F0:=λ_ l hl _=>⟨hl,BG (h.HU hl),λ_ hi=>hi⟩
  out:=λb hb _ _ _=>⟨BG hb,λ_ hi=>hi⟩
  mp:=λ_ _ hb=>hb
  F1:=λ_ b' hb'=>⟨λ_=>BG (h.PD hb'),λ_ ho=>ho⟩
  K2:=λid' _ hb _=>⟨id',hb⟩
  HR:=λi b hb hlt=>by
   rcases inv i b hb with ⟨_,rfl⟩|hb
   .omega
   .exact⟨i,hb⟩
  K3:=λ_ l hl _=>⟨l,hl,rfl⟩
  DJ:=λ_ hp=>hp }
 refine⟨ext,?_⟩
 exact {
  Ex:=λi b hb=>by
   rcases inv i b hb with ⟨rfl,_⟩|hb
   .omega
   .exact h.Ex i b hb
  Dm:=h.Dm
  Dn:=h.Dn
  blk:=λi b hb=>by
   rcases inv i b hb with ⟨rfl,rfl⟩|hb
   .exact⟨cs,vs,e,hcs,by grind[CL],hle,hl.CE.mono ext⟩
   .obtain⟨cs',vs',e',h1,h2,h3,h4⟩:=h.blk i b hb
    exact⟨cs',vs',e',h1,(BG (h.FI hb)).trans h2,h3,h4.CE.mono ext⟩
  GO:=λi b o hb hi=>by
   rcases inv i b hb with ⟨rfl,rfl⟩|hb
   .exact absurd (h.Kf _ o hi) (Oy _)
   .exact h.GO i b o hb hi
  Gx:=h.Gx
  Gy:=h.Gy
  tok:=λt l hl=>by
   obtain⟨vs',e',h1,h2⟩:=h.tok t l hl
   grind[BG]
  HG:=h.HG
  FF:=λi i' b hb hb'=>by
   rcases inv i b hb with ⟨rfl,rfl⟩|hb
   .rcases inv i' _ hb' with ⟨rfl,_⟩|hb'
    .rfl
    .exact absurd (h.FI hb') (Oy _)
   .rcases inv i' b hb' with ⟨_,e⟩|hb'
    .exact absurd (h.FI ‹g.blk i=some b›) AA
    .exact h.FF i i' b ‹g.blk i=some b› hb'
  Ge:=h.Ge
  DL:=λi b t l hb hl=>by
   rcases inv i b hb with ⟨rfl,rfl⟩|hb
   .exact λe=>absurd (h.HU hl) AA
   .exact h.DL i b t l hb hl
  Kf:=λb o hi=>by have:=h.Kf b o hi; omega
  Ec:=λi hi=>by
   by_cases e:i=id
   .exact .inl ⟨_,if_pos e⟩
   .rcases h.Ec i hi with ⟨b,hb⟩|x|x|x
    .grind
    .exact .inr (.inl x)
    .exact .inr (.inr (.inl ((hq i).2 ⟨x,e⟩)))
    .exact .inr (.inr (.inr x))
  mp:=h.Iv (λ_ _ _=>rfl) (λ_ _ hb'=>BG (h.PD hb'))
  MM:=λi b hb=>by
   obtain⟨a1,a2,a3⟩:=h.MM i b hb;have hne:i≠id:=λe=>hnm b (by rw[<-e]; exact hb)
   exact⟨(if_neg hne).trans a1,a2,λhp=>a3 ((hq i).1 hp).1⟩
  Ho:=h.Ho
  Dw:=λi hp=>by
   obtain⟨h1,h2⟩:=(hq i).1 hp;obtain⟨a,b,c⟩:=h.Dw i h1;exact⟨a,(if_neg h2).trans b,c⟩
  Fv:=λgl row hr j c hj=>by
   obtain⟨v,h1,h2,h3⟩:=h.Fv gl row hr j c hj;exact⟨v,h1,by rw[ext.cell _ _ h1]; omega,h3.mono ext.mono ext.cell⟩
  Dc:=λgl row hr=>by
   obtain⟨h1,h2⟩:=h.Dc gl row hr;exact⟨h1,by rw[ext.cell _ _ h1]; omega⟩ }
theorem Yz {E:Env} {g:AP} {w:World} {U:Nat->AV} {a:Act} {o:Oper} {cs:List AV} {mk:Nat->AV} (hU:∀t,V g w (U t) (a.tmps.getD t undef)) (h:hcells E U o=some (cs,mk)) :
  ∃(vs:List Value) (e:TypeId) (mv:Nat->Value),(execOp a.eval o).run E.P w=.ok (.value (mv w.heap.size)) (Cb w vs e)/\VL g w cs vs /\
   (∀(g':AP) (w':World) id b,g'.blk id=some b->w'.shape? b=some (e,vs.length)->V g' w' (mk id) (mv b))/\∀id,KC (mk id)=some id:=by
 obtain⟨dst,op,type,pos,after,guard⟩:=o;cases op with
 | alloc t=>
  simp only[hcells] at h;split at h
  .rename_i z hz
   cases hbz:E.bz t with
   | true=>grind
   | false=>
   rw[hbz] at h;simp only[AK,BN,BU] at h;obtain⟨rfl,rfl⟩:=h;obtain⟨i,zv,hi,oC,hrun,hvl⟩:=D8 (g:=g) (w:=w) hz;refine⟨_,t,λb=>.pointer (some ⟨b,0,none⟩),?_,hvl,λg' w' id b hb _=>.ptr hb,λid=>rfl⟩;simp[*,execOp,Instr.alloc,newVar,newRow,Cb]
  grind
 | makeSlice t l c=>
  simp only[hcells] at h;split at h
  .rename_i elem lv cv hu hl hc
   split at h
   .rename_i i z hi hz
    split at h
    .rename_i MO
     obtain⟨h1,rfl,h3,h4,h5,h6⟩:=MO;simp only[BN,BU] at h;obtain⟨rfl,rfl⟩:=h;have fN:=Av hU l;have Ma:=Av hU c;rw[hl] at fN;rw[hc] at Ma;have fN:=fN.DC;have Ma:=Ma.DC;obtain⟨i',zv,hi',oC,hrun,hvl⟩:=D8 (g:=g) (w:=w) hz;have:i'=i:=AB;subst this;have hzs:zv.cells.size=i'.size:=by rw[<-IG,<-hvl.len]; omega
     have hr:=Vv (w:=w) hu hi hrun hzs h6 AA (Int.le_refl _) h3 h4;refine⟨_,elem,λb=>.slice (some ⟨b,0,none⟩) lv.toNat lv.toNat,?_,hvl.Fu lv.toNat,λg' w' id b hb hs=>?_,λid=>rfl⟩
     .grind[execOp,Sem.run_bind,Result.andThen_ok,Sem.run_pure]
     .exact .ref hb (AY _) hs (by grind[Rb])
    grind
   grind
  grind
 | _=>grind[hcells]
end Go.Tel
