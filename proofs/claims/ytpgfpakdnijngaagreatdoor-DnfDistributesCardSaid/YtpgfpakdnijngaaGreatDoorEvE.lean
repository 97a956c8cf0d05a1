/-
  Which plans for regions with a drawn order are sound: a check by computation.
-/
import Derived.Test.YtpgfpakdnijngaaGreatDoorEvN
import Derived.OrdersIn
import Derived.RangeFuncRecord
set_option linter.unusedSimpArgs false
set_option linter.unusedVariables false
namespace Go.Tel
def J7:c9->Option Nat
 | .w r=>some r
 | .fa r _ _=>some r
 | _=>none
def FG (p:Bg) (i:Nat):Option Nat:=match p.cls[i]? with
 | some c=>J7 c
 | none=>none
def D7 (p:Bg) (i:Nat):List Nat:=match p.pre[i]? with
 | some l=>l
 | none=>[]
def GY (o:Oper):List Nat:=o.op.operands.toList.filterMap fun
 | .tmp t=>some t
 | _=>none
def G5 (ops:Array Oper) (o:Oper):List Nat:=match Ob ops o with
 | some d=>[d]
 | none=>[]
def D2 (ops:Array Oper) (i:Nat):List Nat:=match ops[i]? with
 | some o=>G5 ops o++GY o
 | none=>[]
def iL (ops:Array Oper) (i:Nat):Option Nat:=match ops[i]? with
 | some o=>o.dst
 | none=>none
def F9 (ops:Array Oper) (i:Nat):List Nat:=match iL ops i with
 | some d=>[d]
 | none=>[]
def HW (ops:Array Oper) (p:Bg) (i:Nat):List Nat:=match p.cls[i]? with
 | some .fj=>[]
 | some .fx=>[]
 | some (.fa _ j _)=>F9 ops i++F9 ops j
 | _=>F9 ops i
def lO (ops:Array Oper) (p:Bg) (i:Nat):List Nat:=match p.cls[i]? with
 | some .fj=>[]
 | some .fx=>[]
 | some (.fa _ j x)=>(D2 ops i++D2 ops j++D2 ops x).filter fun t=>!(has (F9 ops i++F9 ops j) t)
 | _=>D2 ops i
def XZ (ops:Array Oper) (p:Bg) (i:Nat):Bool:=match ops[i]? with
 | some o=>(o.after.toList.all fun e=>!(Region.binds .any e)||Nat.blt e.on i) &&
   ((D7 p i).all fun j=>o.after.toList.any fun e=>Region.binds .any e&&(Nat.beq e.on j||has (D7 p e.on) j))
 | none=>true
def LN (ops:Array Oper) (p:Bg) (i:Nat):Bool:=match ops[i]?,p.cls[i]? with
 | some o,some (.h _)=>o.guard.isNone&&o.dst.isSome
 | some o,some (.fa _ _ _)=>o.guard.isNone&&(HM p.G0 i).isEmpty
 | some o,some .fj=>o.guard.isNone&&(HM p.G0 i).isEmpty
 | some o,some .fx=>o.guard.isNone&&(HM p.G0 i).isEmpty
 | some _,some _=>true
 | _,_=>false
def AAS (ops:Array Oper) (n i:Nat):Bool:=(List.range n).all fun j=>Nat.beq j i||(F9 ops j).all fun d=>!(has (F9 ops i) d)
def oP (ops:Array Oper) (p:Bg) (n i:Nat):Bool:=(List.range n).all fun j=>(F9 ops j).all fun d=>!(has (D2 ops i) d) ||
 bif has (HM p.G0 i) d then Nat.beq j i||has (D7 p j) i else has (D7 p i) j
def IQ (ops:Array Oper) (p:Bg) (done:List Nat):List Nat->Bool
 | []=>true
 | i::rest=>((lO ops p i).all fun t=>bif has (HM p.G0 i) t then !(has done t) else !((i::rest).any fun j=>has (HW ops p j) t)) &&
   ((HW ops p i).all fun t=>!(rest.any fun j=>has (HW ops p j) t))&&IQ ops p (HW ops p i++done) rest
def Xa (o:Oper):Bool:=match o.op with
 | .move _|.assign _|.pick _ _ _|.build _ _|.buildSlice _ _ _|.field _ _ _|.extract _ _|.makeFunc _ _ _|.makeInterface _ _|.unOp _ _ _|.index _ _ _=>true
 | _=>false
def Np (ops:Array Oper) (i:Nat):Bool:=match ops[i]? with
 | some o=>Xa o
 | none=>false
def Mw (l:List (Nat×Nat)) (i k:Nat):Bool:=l.any fun y=>Nat.beq y.1 i&&Nat.beq y.2 k
def Rr (ops:Array Oper) (p:Bg):List Nat->Bool
 | []=>true
 | i::rest=>(match p.cls[i]? with
  | some (.q ts)=>ts.all fun t=>Np ops i||Mw p.Yz i t
  | some (.h ts)=>ts.all fun t=>Mw p.Yz i t
  | _=>false)&&Rr ops p rest
def KN (ops:Array Oper) (p:Bg):List Nat->Nat->Option Nat
 | [],k=>some k
 | i::rest,k=>match p.cls[i]? with
  | some (.q ts)=>bif ts.all fun t=>Nat.beq t k||Np ops i||Mw p.Yz i t then KN ops p rest k else none
  | some (.w r)=>bif Nat.beq r k then KN ops p rest (k+1) else none
  | some (.fa r _ _)=>bif Nat.beq r k then KN ops p rest (k+1) else none
  | some .fj=>KN ops p rest k
  | some .fx=>KN ops p rest k
  | _=>none
def Xb (p:Bg) (n i:Nat):Bool:=match FG p i with
 | some r=>(List.range n).all fun j=>match FG p j with
  | some r'=>Nat.beq i j||(!(Nat.beq r r')&&(!(Nat.blt r r')||has (D7 p j) i))
  | none=>true
 | none=>true
def dK (p:Bg) (n K i:Nat):Bool:=
 let f (ts:List Nat):Bool:=(List.range (K+1)).all fun k=>has ts k||(List.range n).any fun j=>match FG p j with
  | some r=>(has (D7 p i) j&&Nat.ble k r)||(has (D7 p j) i&&Nat.blt r k)
  | none=>false
 match p.cls[i]? with
 | some (.q ts)=>f ts&&ts.all fun k=>Nat.ble k K
 | some (.h ts)=>f ts&&ts.all fun k=>Nat.ble k K
 | _=>true
def Xc (ops:Array Oper) (p:Bg) (i:Nat):Bool:=match ops[i]?,p.cls[i]? with
 | some o,some (.q _)=>match o.op with
  | .nilCheck _|.fieldAddr _ _ _|.move _=>true
  | _=>false
 | some o,some (.w _)=>match o.op with
  | .store _ _ _=>true
  | _=>false
 | _,_=>false
def Nq (ops:Array Oper) (p:Bg) (n i:Nat):Bool:=match p.cls[i]? with
 | some (.fa _ j x)=>(match p.cls[j]?,p.cls[x]?,ops[i]?,ops[j]?,ops[x]? with
   | some .fj,some .fx,some o,some o1,some o2=>(fused o o1 o2).isSome
   | _,_,_,_,_=>false) &&
   has (D7 p j) i&&has (D7 p x) j&&has (D7 p x) i &&
   (List.range n).all fun m=>Nat.beq m i||Nat.beq m j||Nat.beq m x||(has (D7 p i) m||(has (D7 p m) x||Xc ops p m)) &&
    ((F9 ops m).all fun d=>!(has (D2 ops j) d||has (D2 ops x) d)||has (D7 p i) m)
 | some .fj=>(List.range n).any fun m=>match p.cls[m]? with
  | some (.fa _ j _)=>Nat.beq j i
  | _=>false
 | some .fx=>(List.range n).any fun m=>match p.cls[m]? with
  | some (.fa _ _ x)=>Nat.beq x i
  | _=>false
 | _=>true
def SR (ops:Array Oper) (p:Bg):Bool:=
 let n:=ops.size
 match KN ops p p.rest 0 with
 | none=>false
 | some K=>
  Nat.beq (p.first++p.rest).length n&&((List.range n).all fun i=>has (p.first++p.rest) i) &&
  ((List.range n).all fun i=>XZ ops p i&&LN ops p i&&AAS ops n i&&oP ops p n i&&Xb p n i&&dK p n K i&&Nq ops p n i) &&
  IQ ops p [] (p.first++p.rest)&&Rr ops p p.first
def ED (pl:Nat->Option Bg):Code->Bool
 | .region id ops true=>(match pl id with
  | some p=>SR ops p
  | none=>true)&&(match pl (id+1000000) with
  | some p=>SR ops p
  | none=>true)
 | .seq a b=>ED pl a&&ED pl b
 | .cond _ a b=>ED pl a&&ED pl b
 | .block _ b=>ED pl b
 | .loop b=>ED pl b
 | .rangeFunc _ _ a b=>ED pl a&&ED pl b
 | _=>true
def ZL (E:Env):Bool:=(List.range E.P.funcs.size).all fun f=>match E.P.funcs[f]? with
 | some fn=>match fn.body with
  | some c=>ED (E.plan f) c
  | none=>true
 | none=>true
theorem DD {o:Oper} {t:Nat}:t∈GY o<->Operand.tmp t∈o.op.operands:=by
 unfold GY;rw[List.mem_filterMap];constructor
 ·rintro⟨x,hx,h⟩
  cases x <;> simp at h;subst h;simpa using hx
 ·intro h
  exact⟨.tmp t,by simpa using h,rfl⟩
theorem J8 {ρ ρ':Nat->AV} {x:Operand} (h:∀ t,x=.tmp t->ρ t=ρ' t):AP ρ x=AP ρ' x:=by
 cases x <;> simp[AP];exact h _ rfl
theorem JW {ρ ρ':Nat->AV} {o:Oper} (h:∀ t∈GY o,ρ t=ρ' t):∀ x∈o.op.operands,AP ρ x=AP ρ' x:=fun _ hx=>
 J8 fun _ e=>h _ (DD.2 (e ▸ hx))
theorem Ud {E:Env} {ρ ρ':Nat->AV} {o:Oper} (hs:∀ cs b,o.op≠.select cs b) (h:∀ x∈o.op.operands,AP ρ x=AP ρ' x):Ct E ρ o=Ct E ρ' o:=by
 unfold Ct
 have h1:E4 ρ o.op.operands.toList=E4 ρ' o.op.operands.toList:=by
  unfold E4;rw[C0,Bs,Bs];constructor <;> intro k x hx
  ·rw[<-h x (by simpa using hx)]; exact k x hx
  ·rw[h x (by simpa using hx)]; exact k x hx
 have h2:execOp (fun x=>(Gg (AP ρ x)).getD undef) o=execOp (fun x=>(Gg (AP ρ' x)).getD undef) o:=
  execOp_congr o hs fun x hx=>by rw[h x hx]
 rw[h1,h2]
theorem NV {ρ ρ':Nat->AV} {x:Operand} (h:AP ρ x=AP ρ' x):Fw ρ x=Fw ρ' x:=by
 unfold Fw;split
 ·rfl
 ·rw[h]
theorem Xd {P:Program} {s:AK} {ρ ρ':Nat->AV} {op:BinOp} {t:TypeId} {x y:Operand} (hx:AP ρ x=AP ρ' x) (hy:AP ρ y=AP ρ' y) :
  Hh P s ρ op t x y=Hh P s ρ' op t x y:=by
 unfold Hh;rw[hx,hy,NV hx,NV hy]
theorem Qj {ρ ρ':Nat->AV} {parts:Array (Nat×Operand)} (h:∀ x∈parts.map (·.2),AP ρ x=AP ρ' x) :
  (parts.toList.map fun p=>(p.1,AP ρ p.2))=parts.toList.map fun p=>(p.1,AP ρ' p.2):=by
 apply IG;intro p hp;rw[h p.2 (Array.mem_map.2 ⟨p,by simpa using hp,rfl⟩)]
theorem Pj {ρ ρ':Nat->AV} {x:Option Operand} (h:∀ y,x=some y->AP ρ y=AP ρ' y):x.map (AP ρ)=x.map (AP ρ'):=by
 cases x with
 | none=>rfl
 | some y=>simp[h y rfl]
theorem VO {E:Env} {L:A0} {ρ ρ':Nat->AV} {s:AK} {o:Oper} (h:∀ x∈o.op.operands,AP ρ x=AP ρ' x):CE E L ρ s o=CE E L ρ' s o:=by
 have hq:=fun hs=>Ud (E:=E) (o:=o) hs h
 obtain⟨dst,op,type,pos,after,guard⟩:=o;cases op with
 | build t parts=>simp only[CE]; rw[Qj (by simpa[Op.operands] using h)]
 | buildSlice t n parts=>simp only[CE]; rw[Qj (by simpa[Op.operands] using h)]
 | makeFunc fn a b=>
  simp only[CE];rw[IG (l:=a.toList) (fun x hx=>h x (by simp[Op.operands]; exact .inl (by simpa using hx))),IG (l:=b.toList) (fun x hx=>h x (by simp[Op.operands]; exact .inr (by simpa using hx)))]
 | slice t x lo hi mx=>
  simp only[CE];rw[hq (by simp),h x (by simp[Op.operands]),Pj (x:=lo) (fun y e=>h y (by subst e; simp[Op.operands])),Pj (x:=hi) (fun y e=>h y (by subst e; simp[Op.operands])),Pj (x:=mx) (fun y e=>h y (by subst e; simp[Op.operands]))]
 | call c=>
  obtain⟨callee,args,ts⟩:=c;cases callee with
  | value f=>simp[CE]
  | invoke r n=>simp[CE]
  | builtin b=>
   have ha:∀ x∈args.toList,AP ρ x=AP ρ' x:=fun x hx=>h x (by simp[Op.operands,Call.operands]; simpa using hx)
   cases b with
   | len=>
    simp only[CE];rw[hq (by simp)];split
    ·rename_i x t hx ht
     rw[ha x (by rw[hx]; simp)]
    ·rfl
   | append=>
    simp only[CE];split
    ·rename_i x y t u ts hx ht
     rw[ha x (by rw[hx]; simp),ha y (by rw[hx]; simp)]
    ·rfl
   | delete=>
    simp only[CE];split
    ·rename_i m k t ts hx ht
     rw[ha m (by rw[hx]; simp),ha k (by rw[hx]; simp)]
    ·rfl
   | _=>simp only[CE]; rw[hq (by simp)]
 | binOp op t x y yt=>
  simp only[CE];rw[hq (by simp),Xd (h x (by simp[Op.operands])) (h y (by simp[Op.operands])),h x (by simp[Op.operands]),h y (by simp[Op.operands])]
 | convert a b x=>simp only[CE]; rw[hq (by simp),h x (by simp[Op.operands])]
 | unOp op t x=>simp only[CE]; rw[hq (by simp),h x (by simp[Op.operands])]
 | index t x i=>simp only[CE]; rw[hq (by simp),h x (by simp[Op.operands]),h i (by simp[Op.operands])]
 | move x=>simp only[CE]; rw[h x (by simp[Op.operands])]
 | assign x=>simp only[CE]; rw[h x (by simp[Op.operands])]
 | pick c a b=>simp only[CE]; rw[h c (by simp[Op.operands]),h a (by simp[Op.operands]),h b (by simp[Op.operands])]
 | alloc t=>rfl
 | box t x=>simp only[CE]; rw[h x (by simp[Op.operands])]
 | makeSlice t l c=>simp only[CE]; rw[h l (by simp[Op.operands]),h c (by simp[Op.operands])]
 | load t x=>simp only[CE]; rw[h x (by simp[Op.operands])]
 | store t x y=>simp only[CE]; rw[h x (by simp[Op.operands]),h y (by simp[Op.operands])]
 | nilCheck x=>simp only[CE]; rw[h x (by simp[Op.operands])]
 | fieldAddr t x f=>simp only[CE]; rw[h x (by simp[Op.operands])]
 | field t x f=>simp only[CE]; rw[h x (by simp[Op.operands])]
 | indexAddr t x i=>simp only[CE]; rw[h x (by simp[Op.operands]),h i (by simp[Op.operands])]
 | extract x i=>simp only[CE]; rw[h x (by simp[Op.operands])]
 | makeInterface t x=>simp only[CE]; rw[h x (by simp[Op.operands])]
 | makeMap t r=>cases r <;> simp[CE]
 | lookup t m k ok=>simp only[CE]; rw[h m (by simp[Op.operands]),h k (by simp[Op.operands])]
 | mapUpdate t m k x=>simp only[CE]; rw[h m (by simp[Op.operands]),h k (by simp[Op.operands]),h x (by simp[Op.operands])]
 | insert t m k x=>simp only[CE]; rw[h m (by simp[Op.operands]),h k (by simp[Op.operands]),h x (by simp[Op.operands])]
 | _=>simp[CE]
theorem Ue {ρ ρ':Nat->AV} {c:Call} (h:∀ x∈c.operands,AP ρ x=AP ρ' x):J5 ρ c=J5 ρ' c:=by
 obtain⟨callee,args,ts⟩:=c;unfold J5;have ha:List.map (AP ρ) args.toList=List.map (AP ρ') args.toList:=IG fun x hx=>h x (by cases callee <;> simp[Call.operands] <;> first|exact .inr (by simpa using hx)|simpa using hx|exact .inl (by simpa using hx))
 cases callee with
 | value f=>simp only; rw[h f (by simp[Call.operands]),ha]
 | _=>rfl
theorem dL {E:Env} {L:A0} {cf:Co} {ρ ρ':Nat->AV} {s:AK} {o:Oper} (h:∀ x∈o.op.operands,AP ρ x=AP ρ' x):ND E L cf ρ s o=ND E L cf ρ' s o:=by
 rw[Mu,Mu];unfold lF;rw[VO h];split
 ·rename_i c hc
  have:∀ x∈c.operands,AP ρ x=AP ρ' x:=fun x hx=>h x (by rw[hc]; exact hx)
  rw[Ue this]
 ·rfl
theorem Xe {E:Env} {L:A0} {ρ ρ':Nat->AV} {s:AK} {o:Oper} (h:∀ x∈o.op.operands,AP ρ x=AP ρ' x):JR E L ρ s o=JR E L ρ' s o:=by
 rw[Kh,Kh];unfold Dm;rw[VO h]
theorem NW {ops:Array Oper} {ρ ρ':Nat->AV} {o:Oper} (h:∀ t∈G5 ops o,ρ t=ρ' t):E6 ops ρ o=E6 ops ρ' o:=by
 unfold E6;split
 ·rfl
 ·split
  ·rename_i d hd
   rw[h d (by simp[G5,hd])]
  ·rfl
theorem JA {E:Env} {L:A0} {ops:Array Oper} {ρ ρ':Nat->AV} {s:AK} {o:Oper} (h:∀ t∈G5 ops o++GY o,ρ t=ρ' t):FQ E L ops ρ s o=FQ E L ops ρ' s o:=by
 unfold FQ;rw[NW (fun t ht=>h t (K9 _ ht)),Xe (JW fun t ht=>h t (Dt _ ht))]
theorem Nr {E:Env} {L:A0} {cf:Co} {ops:Array Oper} {ρ ρ':Nat->AV} {s:AK} {o:Oper} (h:∀ t∈G5 ops o++GY o,ρ t=ρ' t):Nl E L cf ops ρ s o=Nl E L cf ops ρ' s o:=by
 unfold Nl;rw[NW (fun t ht=>h t (K9 _ ht)),dL (JW fun t ht=>h t (Dt _ ht))]
theorem Oi {E:Env} {ρ ρ':Nat->AV} {o:Oper} (h:∀ t∈GY o,ρ t=ρ' t):hcells E ρ o=hcells E ρ' o:=by
 have h:=JW h;obtain⟨dst,op,type,pos,after,guard⟩:=o;cases op with
 | makeSlice t l c=>simp only[hcells]; rw[h l (by simp[Op.operands]),h c (by simp[Op.operands])]
 | _=>rfl
theorem SU {E:Env} {L:A0} {ρ:Nat->AV} {s:AK} {o:Oper} {v:AV} (h:JR E L ρ s o=some v):CE E L ρ s o=some (v,s):=by
 rw[Kh] at h
 have key:∀ (r:Option (AV×AK)),(∀ u s',r=some (u,s')->s'=s)->(match r with|some (v,_)=>some v|none=>none)=some v->r=some (v,s):=by
  intro r hr hm;cases r with
  | none=>simp at hm
  | some q=>
   obtain⟨u,s'⟩:=q;simp at hm;rw[hm,hr u s' rfl]
 have qz:∀ (r:Option AV) (z:Option (AV×AK)),(match r with|some v=>some (v,s)|none=>none)=z->∀ u s',z=some (u,s')->s'=s:=by
  intro r z hz u s' hr;cases r with
  | none=>simp at hz; rw[<-hz] at hr; simp at hr
  | some x=>simp at hz; rw[<-hz] at hr; simp at hr; exact hr.2.symm
 obtain⟨dst,op,type,pos,after,guard⟩:=o;cases op with
 | alloc t=>simp[Dm] at h
 | box t x=>simp[Dm] at h
 | makeSlice t l c=>
  simp only[Dm] at h;split at h
  ·rename_i s1 hop
   simp at h; subst h;rw[hop];simp only[CE,LF] at hop;split at hop
   ·split at hop
    ·split at hop
     ·split at hop
      ·simp at hop; rw[hop]
      ·split at hop
       ·simp at hop
       ·split at hop
        ·simp at hop
        ·simp at hop
     ·simp at hop
    ·simp at hop
   ·simp at hop
  ·simp at h
 | store t x y=>simp[Dm] at h
 | makeMap t r=>simp[Dm] at h
 | mapUpdate t m k x=>simp[Dm] at h
 | insert t m k x=>simp[Dm] at h
 | lookup t m k ok=>exact key _ (fun u s' hr=>by simp only[CE] at hr; exact qz _ _ hr u s' rfl) h
 | buildSlice t n parts=>
  simp only[Dm] at h;split at h
  ·rename_i elem hu
   cases UT:L.mu elem with
   | true=>simp[UT] at h
   | false=>
    simp only[UT,AB] at h;refine key _ (fun u s' hr=>?_) h;simp only[CE,G1,hu,UT,E2,AB] at hr;split at hr
    ·split at hr
     ·split at hr
      ·split at hr
       ·simp at hr; exact hr.2.symm
       ·simp at hr
      ·simp at hr
     ·simp at hr
    ·simp at hr
  ·simp at h
 | call c=>
  obtain⟨callee,args,ts⟩:=c;cases callee with
  | value f=>simp[Dm,CE] at h
  | invoke r n=>simp[Dm,CE] at h
  | builtin b=>
   cases b with
   | append=>simp[Dm] at h
   | delete=>simp[Dm] at h
   | len=>
    refine key _ (fun u s' hr=>?_) h;simp only[CE] at hr;split at hr
    ·split at hr
     ·simp at hr; exact hr.2.symm
     split at hr
     ·simp at hr; exact hr.2.symm
     ·exact qz _ _ hr u s' rfl
    ·simp at hr
   | _=>exact key _ (fun u s' hr=>by simp only[CE] at hr; exact qz _ _ hr u s' rfl) h
 | slice t x lo hi mx=>
  refine key _ (fun u s' hr=>?_) h;simp only[CE] at hr;split at hr
  ·simp at hr; exact hr.2.symm
  ·exact qz _ _ hr u s' rfl
 | binOp op t x y yt=>
  refine key _ (fun u s' hr=>?_) h;simp only[CE] at hr;split at hr
  ·simp at hr; exact hr.2.symm
  ·split at hr
   ·simp at hr; exact hr.2.symm
   ·exact qz _ _ hr u s' rfl
 | convert a b x=>
  refine key _ (fun u s' hr=>?_) h;simp only[CE] at hr;split at hr
  ·split at hr
   ·simp at hr; exact hr.2.symm
   ·simp at hr
  ·split at hr
   ·simp at hr; exact hr.2.symm
   ·simp at hr
  ·exact qz _ _ hr u s' rfl
 | pick c a b=>
  refine key _ (fun u s' hr=>?_) h;simp only[CE] at hr;split at hr
  ·simp at hr; exact hr.2.symm
  ·simp at hr
 | makeInterface t x=>
  refine key _ (fun u s' hr=>?_) h;simp only[CE] at hr;split at hr
  ·simp at hr
  ·simp at hr; exact hr.2.symm
  ·simp at hr
 | move x=>exact key _ (fun u s' hr=>by simp only[CE,AY,Af] at hr; exact hr.2.symm) h
 | assign x=>exact key _ (fun u s' hr=>by simp only[CE,AY,Af] at hr; exact hr.2.symm) h
 | makeFunc fn a b=>exact key _ (fun u s' hr=>by simp only[CE,AY,Af] at hr; exact hr.2.symm) h
 | build t parts=>exact key _ (fun u s' hr=>by simp only[CE] at hr; exact qz _ _ hr u s' rfl) h
 | load t x=>exact key _ (fun u s' hr=>by simp only[CE] at hr; exact qz _ _ hr u s' rfl) h
 | nilCheck x=>exact key _ (fun u s' hr=>by simp only[CE] at hr; exact qz _ _ hr u s' rfl) h
 | fieldAddr t x f=>exact key _ (fun u s' hr=>by simp only[CE] at hr; exact qz _ _ hr u s' rfl) h
 | field t x f=>exact key _ (fun u s' hr=>by simp only[CE] at hr; exact qz _ _ hr u s' rfl) h
 | indexAddr t x i=>exact key _ (fun u s' hr=>by simp only[CE] at hr; exact qz _ _ hr u s' rfl) h
 | extract x i=>exact key _ (fun u s' hr=>by simp only[CE] at hr; exact qz _ _ hr u s' rfl) h
 | unOp op t x=>
  refine key _ (fun u s' hr=>?_) h;simp only[CE] at hr;split at hr
  ·simp at hr; exact hr.2.symm
  ·exact qz _ _ hr u s' rfl
 | index t x i=>
  refine key _ (fun u s' hr=>?_) h;simp only[CE] at hr;split at hr
  ·simp at hr; exact hr.2.symm
  ·exact qz _ _ hr u s' rfl
 | _=>exact key _ (fun u s' hr=>by simp[CE] at hr) h
theorem Xf {E:Env} {L:A0} {ρ:Nat->AV} {s s':AK} {o:Oper} {v:AV} (hp:Xa o=true) (h:JR E L ρ s o=some v):JR E L ρ s' o=some v:=by
 rw[Kh] at h ⊢
 have mm:∀ (r:Option AV) (s s':AK),(match (match r with|some v=>some (v,s)|none=>none:Option (AV×AK)) with|some (v,_)=>some v|none=>none)=some v ->
   (match (match r with|some v=>some (v,s')|none=>none:Option (AV×AK)) with|some (v,_)=>some v|none=>none)=some v:=by
  intro r s s' h;cases r with
  | none=>simp at h
  | some x=>simpa using h
 obtain⟨dst,op,type,pos,after,guard⟩:=o;cases op with
 | buildSlice t n parts=>
  simp only[Dm] at h ⊢;split at h
  ·rename_i elem hu
   cases UT:L.mu elem with
   | true=>simp[UT] at h
   | false=>
    simp only[UT,AB] at h ⊢;simp only[CE,G1,hu,UT,E2,AB] at h ⊢;split at h
    ·rename_i q hq
     split at hq
     ·rename_i k z hk hz
      split at hq
      ·rename_i hc
       split at hq
       ·rename_i cs hcs
        split at hq
        ·rename_i ps hps
         simp at hq h;rw[if_pos hc];simp[hq.1,h]
        ·simp at hq
       ·simp at hq
      ·simp at hq
     ·simp at hq
    ·simp at h
  ·simp at h
 | move x=>exact h
 | assign x=>exact h
 | pick c a b=>
  simp only[Dm,CE] at h ⊢;split at h
  ·rename_i q hq
   split at hq
   ·rename_i t ht
    simp at hq h;obtain⟨rfl,rfl⟩:=hq;simp[h]
   ·simp at hq
  ·simp at h
 | makeFunc fn a b=>exact h
 | makeInterface t x=>
  simp only[Dm,CE] at h ⊢;split at h
  ·rename_i q hq
   split at hq
   ·simp at hq
   ·rename_i d hd hu
    simp at hq h;obtain⟨rfl,rfl⟩:=hq;simp[h]
   ·simp at hq
  ·simp at h
 | build t parts=>simp only[Dm,CE] at h ⊢; exact mm _ _ _ h
 | field t x f=>simp only[Dm,CE] at h ⊢; exact mm _ _ _ h
 | extract x i=>simp only[Dm,CE] at h ⊢; exact mm _ _ _ h
 | unOp op t x=>
  simp only[Dm,CE] at h ⊢;cases hf:SH op (AP ρ x) with
  | some u=>rw[hf] at h; simpa using h
  | none=>rw[hf] at h; exact mm _ _ _ h
 | index t x i=>
  simp only[Dm,CE] at h ⊢;cases hf:Ka E.P t (AP ρ x) (AP ρ i) with
  | some u=>rw[hf] at h; simpa using h
  | none=>rw[hf] at h; exact mm _ _ _ h
 | _=>simp[Xa] at hp
theorem dM {a b:IntKind} (h:Gh a=Gh b):a=b:=by cases a <;> cases b <;> simp_all [Gh]
theorem ZM {a b:Int} (h:ZC a b=true):a=b:=by
 unfold ZC at h;split at h
 ·rw[BM h]
 ·rw[BM h]
 ·simp at h
theorem Pk {a b:Value} (h:oC a b=true):a=b:=by
 unfold oC at h;split at h
 ·simp only[AG] at h
  rw[dM (BM h.1),ZM h.2]
 ·simp at h; rw[h]
 ·rename_i x y
  have:=NY _ _ h;congr 1;cases x; cases y;simp at this;rw[this]
 ·rfl
 ·rfl
 ·rfl
 ·rfl
 ·simp only[AG] at h
  rw[BM h.1,BM h.2]
 ·simp at h
mutual
theorem VQ:∀ (a b:PV),VF a b=true->a=b
 | .sc a,.sc b,h=>by simp only[VF] at h; rw[Pk h]
 | .list a,.list b,h=>by simp only[VF] at h; rw[J9 a b h]
 | .sc _,.list _,h=>by simp[VF] at h
 | .list _,.sc _,h=>by simp[VF] at h
theorem Ns:∀ (a b:List PV),SI a b=true->a=b
 | [],[],_=>rfl
 | x::xs,y::ys,h=>by
  simp only[SI,AG] at h;rw[VQ x y h.1,Ns xs ys h.2]
 | [],_::_,h=>by simp[SI] at h
 | _::_,[],h=>by simp[SI] at h
theorem J9:∀ (a b:List (List PV)),IX a b=true->a=b
 | [],[],_=>rfl
 | x::xs,y::ys,h=>by
  simp only[IX,AG] at h;rw[Ns x y h.1,J9 xs ys h.2]
 | [],_::_,h=>by simp[IX] at h
 | _::_,[],h=>by simp[IX] at h
end
theorem SV:∀ (a b:List MapEntry),lG a b=true->a=b
 | [],[],_=>rfl
 | ⟨k,v,n⟩::xs,⟨k',v',n'⟩::ys,h=>by
  simp only[lG,AG] at h;rw[Pk h.1.1.1,Pk h.1.1.2,BM h.1.2,SV xs ys h.2]
 | [],_::_,h=>by simp[lG] at h
 | _::_,[],h=>by simp[lG] at h
mutual
theorem Pm:∀ (a b:AV),Cu a b=true->a=b
 | .pv a,b,h=>by
  cases b <;> simp only[Cu,Cc] at h;rw[VQ _ _ h]
 | .ptr a c,b,h=>by
  cases b <;> simp only[Cu,Cc,AG] at h;rw[BM h.1,BM h.2]
 | .De a c,b,h=>by
  cases b <;> simp only[Cu,Cc,AG] at h;rw[BM h.1,BM h.2]
 | .DK a c,b,h=>by
  cases b <;> simp only[Cu,Cc,AG] at h;rw[Ns _ _ h.1,BM h.2]
 | .AA a,b,h=>by
  cases b <;> simp only[Cu,Cc] at h;rw[J9 _ _ h]
 | .own t a,b,h=>by
  cases b <;> simp only[Cu,Cc,AG] at h;rw[BM h.1,J9 _ _ h.2]
 | .ref a c d e,b,h=>by
  cases b <;> simp only[Cu,Cc,AG] at h;rw[BM h.1.1.1,BM h.1.1.2,BM h.1.2,BM h.2]
 | .func f a c,b,h=>by
  cases b with
  | func g d e=>cases f <;> cases g <;> simp only[Cu,Cc,AG] at h
                rw[BM h.1.1,Hq _ _ h.1.2,Hq _ _ h.2]
  | _=>cases f <;> simp only[Cu,Cc] at h
 | .iface t a,b,h=>by
  cases b <;> simp only[Cu,Cc,AG] at h;rw[BM h.1,Pm _ _ h.2]
 | .agg a,b,h=>by
  cases b <;> simp only[Cu,Cc] at h;rw[Hq _ _ h]
 | .tuple a,b,h=>by
  cases b <;> simp only[Cu,Cc] at h;rw[Hq _ _ h]
 | .HU,b,h=>by
  cases b <;> simp only[Cu,Cc] at h;rfl
 | .Fg a,b,h=>by
  cases b <;> simp only[Cu,Cc] at h;rw[BM h]
 | .LD a c,b,h=>by
  cases b <;> simp only[Cu,Cc,AG] at h;rw[SV _ _ h.1,BM h.2]
 | .bz a c d,b,h=>by
  cases b <;> simp only[Cu,Cc,AG] at h;rw[BM h.1.1,BM h.1.2,BM h.2]
theorem Hq:∀ (a b:List AV),L7 a b=true->a=b
 | [],[],_=>rfl
 | x::xs,y::ys,h=>by
  simp only[L7,AG] at h;rw[Pm x y h.1,Hq xs ys h.2]
 | [],_::_,h=>by simp[L7] at h
 | _::_,[],h=>by simp[L7] at h
end
def FW (rd:Option Nat):Fence:={ Fence.wide with round:=rd }
theorem Xg {P:Program} {ρ:Operand->Value} {o:Oper} {w w':World} {x:Next} (hr:(execOp ρ o).run P w=.ok x w') (hx:∀ d,x≠.defer d):∀ c,o.op≠.defer c:=by
 intro c e;unfold execOp at hr;rw[e] at hr;simp only[Sem.run_bind] at hr;cases hq:(resolve ρ c o.type).run P w with
 | ok d w1=>
  rw[hq] at hr;simp only[Result.andThen_ok,Sem.run_pure,Result.ok.injEq] at hr;exact hx d hr.1.symm
 | halt h w1=>rw[hq] at hr; simp[Result.andThen] at hr
section
variable {rd:Option Nat} {P:Program} {o:Oper} {a:Act} {w w':World} {K:Act->World->Prop} {Q:Exit->Act->World->Prop}
theorem KA {v:Value} (hr:(execOp a.eval o).run P w=.ok (.value v) w') (h:K (a.put o.dst v) w'):o.wpIn (FW rd) 0 P a w K Q:=
 ⟨fun _ _=>trivial,by rw[Oper.semAt_eq _ _ _ (Xg hr fun d e=>by cases e),hr]; exact h⟩
theorem JB (hr:(execOp a.eval o).run P w=.ok .skip w') (h:K (a.put o.dst undef) w'):o.wpIn (FW rd) 0 P a w K Q:=
 ⟨fun _ _=>trivial,by rw[Oper.semAt_eq _ _ _ (Xg hr fun d e=>by cases e),hr]; exact h⟩
theorem Uf {f:FuncId} {args:Array Value} (hr:(execOp a.eval o).run P w=.ok (.enter f args) w') (h:Calls P f args w' fun e w''=>∃ v,e=.returned v/\K (a.put o.dst v) w''):o.wpIn (FW rd) 0 P a w K Q:=by
 refine⟨fun _ _=>trivial,?_⟩;rw[Oper.semAt_eq _ _ _ (Xg hr fun d e=>by cases e),hr];refine⟨fun e=>by simp[FW,Fence.wide] at e,?_⟩;refine(callsIn_wide (n:=0-1)).2 (h.mono ?_);rintro e w'' ⟨v,rfl,hk⟩;exact hk
end
def Hr (E:Env) (L:A0) (cf:Co):Prop:=
 ∀ (f:FuncId) (args:List AV) (s s':AK) (v:AV) (g:AH) (w:World) (vs:List Value),cf f args s=some (v,s')->Inv E g w s->VL g w args vs ->
  (∃ fn,E.P.funcs[f]?=some fn/\fn.body.isSome=true/\(fn.name== "runtime.NumGoroutine")=false) /\
  Calls E.P f vs.toArray w fun e w'=>∃ v' g',e=.returned v'/\V g' w' v v'/\Ext L g w g' w'/\Inv E g' w' s'
theorem V.SW {g:AH} {w:World} {fn:Fn} {first captured:List AV} {v:Value} (h:V g w (.func fn first captured) v) :
  ∃ vs us,v=.func fn (List.toArray vs) (List.toArray us)/\VL g w first vs/\VL g w captured us:=by
 cases h with|func hl hm h k=>exact⟨_,_,rfl,⟨hl,h⟩,⟨hm,k⟩⟩
theorem Nt {E:Env} {L:A0} {cf:Co} {g:AH} {w:World} {s s':AK} {ρ:Nat->AV} {a:Act} {o:Oper} {v:AV} {K:Act->World->Prop} {Q:Exit->Act->World->Prop}
  (Qk:Hr E L cf) (hI:Inv E g w s) (hρ:∀ t,V g w (ρ t) (a.tmps.getD t undef)) (h:ND E L cf ρ s o=some (v,s'))
  (hk:∀ v' w' g',V g' w' v v'->Ext L g w g' w'->Inv E g' w' s'->K (a.put o.dst v') w') {rd:Option Nat}:o.wpIn (FW rd) 0 E.P a w K Q:=by
 have oQ:CE E L ρ s o=some (v,s')->o.wpIn (FW rd) 0 E.P a w K Q:=by
  intro h;obtain⟨v',w',g',hg,hv,he,hi⟩:=lQ hI hρ h;rcases hg with hg|⟨hg,rfl⟩
  ·exact KA hg (hk v' w' g' hv he hi)
  ·exact JB hg (hk undef w' g' hv he hi)
 rw[Mu] at h;unfold lF at h;split at h
 ·rename_i c hc
  split at h
  ·exact oQ h
  ·split at h
   ·rename_i f args dN
    unfold J5 at dN;split at dN
    ·rename_i x hx
     split at dN
     ·rename_i gf first captured yG
      simp only[AY,Af] at dN;obtain⟨rfl,rfl⟩:=dN;have wQ:=AO hρ x;rw[yG] at wQ;obtain⟨vs,us,hval,h1,h2⟩:=wQ.SW;have hargs:=Pn hρ c.args.toList;obtain⟨⟨fn,hfn,hbody,hname⟩,ADT⟩:=Qk _ _ _ _ _ _ _ _ h hI ((h1.append hargs).append h2)
      have hrun:(execOp a.eval o).run E.P w=.ok (.enter gf (vs++List.map a.eval c.args.toList++us).toArray) w:=by
       obtain⟨dst,op,type,pos,after,guard⟩:=o;simp only at hc;subst hc;have Xh:(vs.toArray++c.args.map a.eval)++us.toArray=(vs++List.map a.eval c.args.toList++us).toArray:=by apply D9; simp
       have hnb:fn.body.isNone=false:=by cases hb:fn.body <;> simp_all
       simp only[execOp,resolve,hx,hval,Deferred.ofValue,Sem.run_bind,Sem.run_pure,Result.andThen_ok,invoke,callFunc,Xh,run_program,hfn,hname,hnb,Cc,Dk]
      refine Uf hrun (Calls.mono ADT ?_);rintro e w' ⟨v',g',rfl,hv,he,hi⟩;exact⟨v',rfl,hk v' w' g' hv he hi⟩
     ·simp at dN
    ·simp at dN
   ·simp at h
 ·exact oQ h
theorem DQ {g:AH} {w:World} {ρ:Nat->AV} {a:Act} (hρ:∀ t,V g w (ρ t) (a.tmps.getD t undef)) {ops:Array Oper} {o:Oper} {b:Bool} (h:E6 ops ρ o=some b) :
  Region.wanted o (yielded ops a.tmps)=b:=by
 unfold E6 Ob at h;unfold Region.wanted;cases hg:o.guard with
 | none=>rw[hg] at h; simp at h; simp[h]
 | some jw=>
  obtain⟨j,want⟩:=jw;rw[hg] at h;simp only at h ⊢;unfold yielded;cases hp:ops[j]? with
  | none=>rw[hp] at h; simp at h; subst h; simp
  | some p=>
   rw[hp] at h;simp only[W5] at h ⊢;cases hd:p.dst with
   | none=>rw[hd] at h; simp at h; subst h; simp
   | some d=>
    rw[hd] at h;simp only[W5] at h ⊢;have hv:=hρ d;split at h
    ·rename_i c hc
     rw[hc] at hv;have hv:=hv.CM;simp at h;subst h;cases hx:a.tmps[d]? with
     | none=>simp[hx,undef] at hv
     | some y=>simp[hx] at hv; subst hv; simp
    ·rename_i hc
     rw[hc] at hv;obtain⟨vs,hu,hvl⟩:=hv.Pg;have:=hvl.Ee;subst this;simp at h;subst h;cases hx:a.tmps[d]? with
     | none=>simp
     | some y=>simp[hx] at hu; subst hu; simp
    ·simp at h
def AH.B5 (g:AH) (q:Nat->Prop):AH:={ g with C1:=q }
theorem V.B5 {g:AH} {w:World} {q:Nat->Prop} {x:AV} {v:Value} (h:V g w x v):V (g.B5 q) w x v:=by
 induction h with
 | pv h=>exact .pv h
 | ptr h=>exact .ptr h
 | Ki h=>exact .Ki h
 | De gl off=>exact .De gl off
 | DK off f h=>exact .DK off f h
 | AA h=>exact .AA h
 | own h hcap ht hn hf=>exact .own h hcap ht hn hf
 | ref h hcap hs hn=>exact .ref h hcap hs hn
 | I8 h=>exact .I8 h
 | HU=>exact .HU
 | Fg h=>exact .Fg h
 | bz h hs=>exact .bz h hs
 | nQ h=>exact .nQ h
 | func hl hm _ _ ih ik=>exact .func hl hm ih ik
 | iface _ ih=>exact .iface ih
 | agg hl _ ih=>exact .agg hl ih
 | tuple hl _ ih=>exact .tuple hl ih
theorem VL.B5 {g:AH} {w:World} {q:Nat->Prop} {cs:List AV} {vs:List Value} (h:VL g w cs vs):VL (g.B5 q) w cs vs:=
 ⟨h.len,fun i c v h1 h2=>(h.at_ i c v h1 h2).B5⟩
theorem Ext.B5 {L:A0} {g g':AH} {w w':World} {q:Nat->Prop} (h:Ext L g w g' w') (hq:∀ id,g.C1 id->q id):Ext L g w (g'.B5 q) w':=
 {os:=h.os,tape:=h.tape,output:=h.output,size:=h.size,mono:=h.mono,cell:=h.cell,blk:=h.blk,dead:=h.dead,shape:=h.shape,tok:=h.tok,Fa:=h.Fa,FI:=h.FI,
  out:=h.out,mp:=h.mp,FJ:=h.FJ,JT:=h.JT,Gk:=h.Gk,JU:=h.JU,C1:=hq }
theorem Inv.B5 {E:Env} {g:AH} {w:World} {s:AK} {q:Nat->Prop} (h:Inv E g w s) (hq:∀ id,q id->id<s.bs.length/\g.blk id=none/\¬ g.dead id) (hall:∀ id,g.C1 id->q id) (hm:∀ id b,g.mp id=some b->¬ q id):Inv E (g.B5 q) w s:=
 {EB:=h.EB,DL:=h.DL,FT:=h.FT,DM:=h.DM,F6:=h.F6,F7:=h.F7,tok:=h.tok,GV:=h.GV,ET:=h.ET,Fi:=h.Fi,Cp:=h.Cp,Il:=h.Il,
  DV:=hq
  EG:=fun id hid=>(h.EG id hid).imp (fun x=>x) (fun x=>x.imp (fun y=>y) (fun y=>y.imp (hall id) (fun z=>z)))
  mp:=h.mp
  KM:=fun id b hb=>⟨(h.KM id b hb).1,(h.KM id b hb).2.1,hm id b hb⟩
  GU:=h.GU
  blk:=fun id b hb=>by
   obtain⟨cs,vs,e,h1,h2,h3,h4⟩:=h.blk id b hb;exact⟨cs,vs,e,h1,h2,h3,h4.B5⟩
  Ey:=h.Ey
  C3:=h.C3 }
theorem Inv.reserve {E:Env} {g:AH} {w:World} {s:AK} (h:Inv E g w s) (cs:List AV) :
  Inv E (g.B5 fun id=>g.C1 id\/id=s.bs.length) w { s with bs:=s.bs++[cs] }:=by
 have hlt:∀ id,id<s.bs.length->(s.bs++[cs])[id]?=s.bs[id]?:=fun id hid=>BA hid
 exact {
  EB:=fun id b hb=>by have:=h.EB id b hb; simp; omega
  DL:=fun id hd=>by have:=h.DL id hd; simp; omega
  FT:=h.FT
  DM:=fun id hd=>(hlt id (h.DL id hd)).trans (h.DM id hd)
  F6:=h.F6,F7:=h.F7,tok:=h.tok,GV:=h.GV,ET:=h.ET,Fi:=h.Fi,Cp:=h.Cp,Il:=h.Il
  EG:=fun id hid=>by
   by_cases e:id=s.bs.length
   ·exact .inr (.inr (.inl (.inr e)))
   ·rcases h.EG id (by simp at hid; omega) with q|q|q|q
    ·exact .inl q
    ·exact .inr (.inl q)
    ·exact .inr (.inr (.inl (.inl q)))
    ·exact .inr (.inr (.inr q))
  mp:=h.Hj (fun _ _ hb'=>hlt _ (h.lH hb')) (fun _ _ _=>rfl)
  KM:=fun id b hb=>⟨(h.KM id b hb).1,(h.KM id b hb).2.1,fun hp=>hp.elim (h.KM id b hb).2.2 (fun e=>by have:=h.lH hb; omega)⟩
  GU:=h.GU
  DV:=fun id hp=>by
   rcases hp with hp|rfl
   ·obtain⟨a,b,c⟩:=h.DV id hp
    exact⟨by simp; omega,b,c⟩
   ·refine⟨by simp,?_,h.fresh⟩
    cases hb:g.blk s.bs.length with
    | none=>exact hb
    | some b=>exact absurd (h.EB _ b hb) (II _)
  blk:=fun id b hb=>by
   obtain⟨vcs,vs,e,h1,h2,h3,h4⟩:=h.blk id b hb;exact⟨vcs,vs,e,(hlt id (h.EB id b hb)).trans h1,h2,h3,h4.B5⟩
  Ey:=h.Ey
  C3:=h.C3 }
theorem Inv.fill {E:Env} {L:A0} {g:AH} {w:World} {s:AK} (h:Inv E g w s) {id:Nat} {q:Nat->Prop} (hq:∀ i,q i<->g.C1 i/\i≠id) {cs:List AV} {vs:List Value} (e:TypeId) (hid:id<s.bs.length) (hnb:g.blk id=none) (hnd:¬ g.dead id) (hnm:∀ b,g.mp id≠some b)
  (hcs:s.bs[id]?=some cs) (hle:cs.length<=vs.length) (hl:VL g w cs (vs.take cs.length)) :
  Ext L (g.B5 q) w ((g.B5 q).F1 id w.heap.size hnd) (CO w vs e)/\Inv E ((g.B5 q).F1 id w.heap.size hnd) (CO w vs e) s:=by
 have hsz:(CO w vs e).heap.size=w.heap.size+1:=by simp[CO]
 have hne:∀ i b,g.blk i=some b->i≠id:=fun i b hb e=>by rw[e,hnb] at hb; simp at hb
 have nR:∀ i b,g.blk i=some b->((g.B5 q).F1 id w.heap.size hnd).blk i=some b:=fun i b hb=>(if_neg (hne i b hb)).trans hb
 have inv:∀ i b,((g.B5 q).F1 id w.heap.size hnd).blk i=some b->(i=id/\b=w.heap.size)\/g.blk i=some b:=fun i b hb=>by
  simp only[AH.F1] at hb;split at hb
  ·rename_i hi; simp at hb; exact .inl ⟨hi,hb.symm⟩
  ·exact .inr hb
 have ext:Ext L (g.B5 q) w ((g.B5 q).F1 id w.heap.size hnd) (CO w vs e):={
  os:=rfl,tape:=rfl,output:=rfl,size:=by rw[hsz]; exact Mj _
  mono:=fun _ _ hi=>hi
  cell:=fun k o hi=>Bn (Aw (h.Il k o hi)) o
  blk:=fun i b hb=>.inl (nR i b hb)
  dead:=fun _ hd=>hd
  shape:=fun i b hb _=>DC (Aw (h.C4 hb))
  tok:=fun _ l hl=>⟨l,hl,.inl rfl⟩
  Fa:=fun i b hb _=>⟨nR i b hb,Aw (h.C4 hb)⟩
  FI:=fun _ l hl _=>⟨hl,Aw (h.EE hl),fun _ hi=>hi⟩
  out:=fun b hb _ _ _=>⟨Aw hb,fun _ hi=>hi⟩
  mp:=fun _ _ hb=>hb
  FJ:=fun _ b' hb'=>⟨fun _=>Aw (h.I9 hb'),fun _ ho=>ho⟩
  JT:=fun id' _ hb _=>⟨id',hb⟩
  Gk:=fun i b hb hlt=>by
   rcases inv i b hb with ⟨_,rfl⟩|hb
   ·omega
   ·exact⟨i,hb⟩
  JU:=fun _ l hl _=>⟨l,hl,rfl⟩
  C1:=fun _ hp=>hp }
 refine⟨ext,?_⟩
 exact {
  EB:=fun i b hb=>by
   rcases inv i b hb with ⟨rfl,_⟩|hb
   ·exact hid
   ·exact h.EB i b hb
  DL:=h.DL
  DM:=h.DM
  blk:=fun i b hb=>by
   rcases inv i b hb with ⟨rfl,rfl⟩|hb
   ·exact⟨cs,vs,e,hcs,by rw[Bm]; exact if_pos rfl,hle,hl.B5.mono ext⟩
   ·obtain⟨cs',vs',e',h1,h2,h3,h4⟩:=h.blk i b hb
    exact⟨cs',vs',e',h1,(Aw (h.C4 hb)).trans h2,h3,h4.B5.mono ext⟩
  FT:=fun i b o hb hi=>by
   rcases inv i b hb with ⟨rfl,rfl⟩|hb
   ·exact absurd (h.Il _ o hi) (II _)
   ·exact h.FT i b o hb hi
  F6:=h.F6
  F7:=h.F7
  tok:=fun t l hl=>by
   obtain⟨vs',e',h1,h2⟩:=h.tok t l hl;exact⟨vs',e',(Aw (h.EE hl)).trans h1,h2⟩
  GV:=h.GV
  ET:=fun i i' b hb hb'=>by
   rcases inv i b hb with ⟨rfl,rfl⟩|hb
   ·rcases inv i' _ hb' with ⟨rfl,_⟩|hb'
    ·rfl
    ·exact absurd (h.C4 hb') (II _)
   ·rcases inv i' b hb' with ⟨_,e⟩|hb'
    ·exact absurd (h.C4 ‹g.blk i=some b›) (by omega)
    ·exact h.ET i i' b ‹g.blk i=some b› hb'
  Fi:=h.Fi
  Cp:=fun i b t l hb hl=>by
   rcases inv i b hb with ⟨rfl,rfl⟩|hb
   ·exact fun e=>absurd (h.EE hl) (by omega)
   ·exact h.Cp i b t l hb hl
  Il:=fun b o hi=>by have:=h.Il b o hi; rw[hsz]; omega
  EG:=fun i hi=>by
   by_cases e:i=id
   ·exact .inl ⟨_,if_pos e⟩
   ·rcases h.EG i hi with ⟨b,hb⟩|x|x|x
    ·exact .inl ⟨b,(if_neg e).trans hb⟩
    ·exact .inr (.inl x)
    ·exact .inr (.inr (.inl ((hq i).2 ⟨x,e⟩)))
    ·exact .inr (.inr (.inr x))
  mp:=h.Hj (fun _ _ _=>rfl) (fun _ _ hb'=>Aw (h.I9 hb'))
  KM:=fun i b hb=>by
   obtain⟨a1,a2,a3⟩:=h.KM i b hb;have hne:i≠id:=fun e=>hnm b (by rw[<-e]; exact hb)
   exact⟨(if_neg hne).trans a1,a2,fun hp=>a3 ((hq i).1 hp).1⟩
  GU:=h.GU
  DV:=fun i hp=>by
   obtain⟨h1,h2⟩:=(hq i).1 hp;obtain⟨a,b,c⟩:=h.DV i h1;exact⟨a,(if_neg h2).trans b,c⟩
  Ey:=fun gl row hr j c hj=>by
   obtain⟨v,h1,h2,h3⟩:=h.Ey gl row hr j c hj;exact⟨v,h1,by rw[ext.cell _ _ h1]; exact h2,h3.mono ext.mono ext.cell⟩
  C3:=fun gl row hr=>by
   obtain⟨h1,h2⟩:=h.C3 gl row hr;exact⟨h1,by rw[ext.cell _ _ h1]; exact h2⟩ }
theorem Xi {E:Env} {g:AH} {w:World} {ρ:Nat->AV} {a:Act} {o:Oper} {cs:List AV} {mk:Nat->AV} (hρ:∀ t,V g w (ρ t) (a.tmps.getD t undef)) (h:hcells E ρ o=some (cs,mk)) :
  ∃ (vs:List Value) (e:TypeId) (mv:Nat->Value),(execOp a.eval o).run E.P w=.ok (.value (mv w.heap.size)) (CO w vs e)/\VL g w cs vs /\
   (∀ (g':AH) (w':World) id b,g'.blk id=some b->w'.shape? b=some (e,vs.length)->V g' w' (mk id) (mv b))/\∀ id,Kg (mk id)=some id:=by
 obtain⟨dst,op,type,pos,after,guard⟩:=o;cases op with
 | alloc t=>
  simp only[hcells] at h;split at h
  ·rename_i z hz
   cases hbz:E.bz t with
   | true=>rw[hbz] at h; simp at h
   | false=>
   rw[hbz] at h;simp only[AB,AY,Af] at h;obtain⟨rfl,rfl⟩:=h;obtain⟨i,zv,hi,iI,hrun,hvl⟩:=Dw (g:=g) (w:=w) hz;refine⟨_,t,fun b=>.pointer (some ⟨b,0,none⟩),?_,hvl,fun g' w' id b hb _=>.ptr hb,fun id=>rfl⟩;simp[execOp,Instr.alloc,hrun,newVar,newRow,CO]
  ·simp at h
 | makeSlice t l c=>
  simp only[hcells] at h;split at h
  ·rename_i elem lv cv hu hl hc
   split at h
   ·rename_i i z hi hz
    split at h
    ·rename_i MC
     obtain⟨h1,rfl,h3,h4,h5,h6⟩:=MC;simp only[AY,Af] at h;obtain⟨rfl,rfl⟩:=h;have XS:=AO hρ l;have NT:=AO hρ c;rw[hl] at XS;rw[hc] at NT;have XS:=XS.CM;have NT:=NT.CM;obtain⟨i',zv,hi',iI,hrun,hvl⟩:=Dw (g:=g) (w:=w) hz;have:i'=i:=by rw[hi] at hi'; simpa using hi'.symm
     subst this;have hzs:zv.cells.size=i'.size:=by rw[<-DS,<-hvl.len]; exact h5
     have hr:=NZ (w:=w) hu hi hrun hzs h6 (by omega) (Int.le_refl _) h3 h4;refine⟨_,elem,fun b=>.slice (some ⟨b,0,none⟩) lv.toNat lv.toNat,?_,hvl.Fh lv.toNat,fun g' w' id b hb hs=>?_,fun id=>rfl⟩
     ·simp only[execOp,XS,NT,Sem.run_bind,hr,Result.andThen_ok,Sem.run_pure]
     ·exact .ref hb (AL _) hs (by rw[J6,DS,hzs]; omega)
    ·simp at h
   ·simp at h
  ·simp at h
 | _=>simp[hcells] at h
end Go.Tel
