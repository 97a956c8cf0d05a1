/-
  From an evaluation to the contract that a row asks for; what the listed variables hold.
-/
import Derived.Test.YtpgfpakdnijngaaGreatDoorEvP
import Derived.ChangeSame
import Derived.SliceStrings
import Derived.MakeChecks
set_option linter.all false
namespace Go.Tel
open Go.ChangeShapes Go.WideShapes
open Option renaming some->Y,none->G
open Bool renaming true->Z,false->ϴ
open Go renaming World->ϙ,Value->ϛ,TypeId->ϝ,Program->ϟ,FuncId->ϣ
structure Still (W w':ϙ):Prop where
 os:w'.os=W.os
 output:w'.output=W.output
 heap:∀b,b<W.heap.size->w'.heap[b]?=W.heap[b]?
def lD (E:Env) (W:ϙ):Prop:=
 ∀d e,E.G d=Y e->(∀j c,e[j]?=Y c->∃v,d<W.heap.size/\W.cell? ⟨d,j,G⟩=Y v/\VP (λb _=>b<W.heap.size) W c v)/\d<W.heap.size/\W.cell? ⟨d,e.length,G⟩=G
def lD.inv {E:Env} {W:ϙ} (h:lD E W):Inv E (AZ.bare λb _=>b<W.heap.size) W ⟨[],[]⟩ where
 FC:=λ_ _ h=>by grind[AZ.bare]
 EB:=λ_ h=>by grind[AZ.bare]
 blk:=λ_ _ h=>by grind[AZ.bare]
 GL:=λ_ _ _ h=>by grind[AZ.bare]
 D3:=λ_ h=>by grind[AZ.bare]
 EJ:=λ_ h=>by grind[AZ.bare]
 Ev:=λ_ h=>by grind
 mp:=λ_ _ h=>by grind[AZ.bare]
 Mh:=λ_ _ h=>by grind[AZ.bare]
 Hy:=λ_ _ _ h=>by grind[AZ.bare]
 HH:=λ_ _ _ h=>by grind
 HI:=λ_ _ h=>by grind[AZ.bare]
 tok:=λ_ _ h=>by grind[AZ.bare]
 HZ:=λ_ _ _ h=>by grind[AZ.bare]
 FD:=λ_ _ _ h=>by grind[AZ.bare]
 Gt:=λ_ _ _ _ h=>by grind[AZ.bare]
 Dc:=λ_ _ _ _ h=>by grind[AZ.bare]
 KZ:=λ_ _ h=>h
 GF:=λgl row hr=>(h gl row hr).1
 D4:=λgl row hr=>(h gl row hr).2
def J8 {a b:Nat} (h:a≠b):Nat.beq a b=false:=by grind[Nat.eq_of_beq_eq_true]
def L0:Ba:=⟨0,0,0,λ_=>ϴ,λ_=>ϴ,λ_=>G⟩
def Still.kept {W w':ϙ} (h:Still W w') (b:MemPlace->Prop):W.keptBut w' b:=by
 refine⟨h.os,h.output,λi d=>?_⟩;rw[h.heap i d]
 grind
def V6 {H:Type} {enc:ϝ×ϛ->H} {P:ϟ} {f:Func} {s:ChangeSpec} {o fresh C D:Bool} {W e:ϙ} {args:Array ϛ} {v:ϛ} {ds k:List (DataW H)} {d l pv:List MemPlace}
  (n:DataW.Whole enc P f.params.toList s.vars o W args.toList ds k d)
  (y:∀(b:Nat) (i:Nat->Bool) (K:Bool),DataW.TrodAll enc P e b i K f.resultTypes.toList (v.resultList f.resultTypes.size) (s.fn H (ds++k)).results [])
  (u:∀i:Nat->Bool,(∀p∈d,i p.block=Z)->DataW.TrodAll enc P e 0 i Z f.params.toList args.toList (s.fn H (ds++k)).args l)
  (x:∀i:Nat->Bool,(∀p∈d,i p.block=Z)->DataW.TrodVars enc P e i s.vars (s.fn H (ds++k)).vars pv)
  (N:d=l++pv) (A:Still W e)
  (E:∀(j:Nat) (t:ϝ) (r:ϛ),f.resultTypes[j]?=Y t->(v.resultList f.resultTypes.size)[j]?=Y r->Value.okWide P e .any 0 t r) :
  s.post enc P f o fresh C D W args v e:=by
 have I:∀p∈d,p.block<W.heap.size:=λp m=>n.lt p m
 have z:∀p∈d,(λb=>decide (b<W.heap.size)) p.block=true:=λp m=>by grind
 refine⟨ds,k,d,[],l,pv,n,y _ _ _,u _ z,x _ z,World.keptBut_mono (λp m=>⟨m,?_⟩) (A.kept _),λ_=>?_⟩
 .grind
 .obtain⟨_,_,_,_,_,L,hn⟩:=n
  refine⟨E,_,_,([]++l)++pv,⟨[]++l,pv,trodAll_append (u _ (λ_ _=>rfl)) (y _ _ _),x _ (λ_ _=>rfl),rfl,?_,?_⟩,?_⟩
  .intro b B m
   have hb:MemPlace.cell b B∈d:=AB
   have hf:∀a:Addr,a.block=b->e.frozen? a=W.frozen? a:=λa M=>by
    simp only[World.frozen?,M,A.heap b (I _ hb)]
   rw[hf _ rfl];exact L b B hb
  all_goals grind
def Good.ou {E:Env} (hp:bD E=Z) (hn:(E.P.funcs.toList.all λfn=>fn.body.isNone||!(fn.name== "runtime.NumGoroutine"))=Z) (hm:E.P.follows .mixedOrders=Z)
  (ht:∀f T,E.told f=Y T->Q1 E f T) (hk:∀k t,E.back k=Y t->TN E.P k t)
  (hc:∀f,E.clone f=Z->E.told f=G->(∃fn,E.P.funcs[f]?=Y fn/\fn.body.isSome=Z) /\
   ∀(w:ϙ) (base:Option Addr) (cap:Nat),Calls E.P f #[.slice base 0 cap] w λe w'=>∃b',e=.returned (.slice b' 0 0)/\(w'=w\/∃o,w'=Mk w o)):Good E where
 lF:=ht
 Tp:=hk
 mix:=hm
 plans:=λf fn body hf hb=>by
  have hlt:f<E.P.funcs.size:=(Array.getElem?_eq_some_iff.1 hf).1;have:=Cl.1 hp f (List.mem_range.2 hlt)
  grind
 names:=λf fn hf hb=>by
  have hm:fn∈E.P.funcs.toList:=AB;have:=Cl.1 hn fn hm;cases hx:fn.body with
  | none=>grind
  | some c=>grind
 ZF:=hc
def PY {P:ϟ} {t e:ϝ} (h:P.underlying t=Y (.slice e)) (w:ϙ) (base:Option Addr) (n cap:Nat) :
  (binOp .eql t (.slice base n cap) (.slice G 0 0)).run P w=.ok (.bool base.isNone) w:=by
 have:(Op.equal t (.slice base n cap) (.slice G 0 0)).run P w=.ok base.isNone w:=by
  have⟨m,hm⟩:∃m,Op.maxDepth=m+1:=⟨9999,rfl⟩;unfold Op.equal;rw[hm];cases base <;> simp only[Op.equalIn,Sem.run_bind,run_underlying h,Result.andThen_ok,Sem.run_pure] <;> rfl
 simp[*,binOp]
def Ot {P:ϟ} {w:ϙ}:∀{l:List (String×DataW Unit)} {ps:List MemPlace},DataW.LaidVars P w l ps->∀n d,(n,d)∈l ->
  ∃g t cs b p,P.globalNamed n=Y g/\(P.globals[g]?).map (·.type)=Y t/\w.var? P n=Y cs/\DataW.trod (λ_=>()) P w 0 (λ_=>Z) ϴ b t cs.toList=Y (d,p)
 | [],_,_,_,_,hm=>by grind
 | (i,j)::r,ps,h,n,d,hm=>by
  obtain⟨g,t,cs,b,p,q,k,m,o,s,f,_⟩:=h;rcases BF.1 hm with e|e
  .grind
  .exact Ot f n d e
def IM {w:ϙ} {a:Addr} {v:ϛ} (h:w.cell? a=Y v):a.block<w.heap.size:=by grind[World.cell?]
def Pn (l:List Ϝ):DataW Unit:=.slice (l.map λs=>.lit (.string s)) []
def FE (l:List Ϝ):Ϧ:=[.list (l.map λs=>[.sc (.string ⟨s.toArray⟩)])]
def Po {P:ϟ} {W:ϙ} {M:List (String×DataW Unit)} {n:String} {l:List Ϝ} {g:Nat} {t e:ϝ} (h:laidMet P M W) (hm:(n,Pn l)∈M)
  (B:P.globalNamed n=Y g) (X:(P.globals[g]?).map (·.type)=Y t) (ζ:P.underlying t=Y (.slice e)) (η:P.underlying e=Y .string) (θ:P.cellsOf e=1) :
  (∀j c,(FE l)[j]?=Y c->∃v,g<W.heap.size/\W.cell? ⟨g,j,G⟩=Y v/\VP (λb _=>b<W.heap.size) W c v)/\g<W.heap.size/\W.cell? ⟨g,(FE l).length,G⟩=none:=by
 obtain⟨ps,ι,_⟩:=h;have⟨ψ,ω,κ,π,p,μ,H,Q,ν⟩:=Ot ι n _ hm;obtain rfl:=Ft (B.symm.trans μ);obtain rfl:=Ft (X.symm.trans H);rcases open_strings ζ η θ ν with ⟨_,hx⟩|⟨a,len,N,K,α,_,Γ,_,ρ,hx,T,_⟩
 .grind[Pn]
 .simp only[Bg,Pn,DataW.slice.injEq] at hx
  obtain⟨⟨ς,σ⟩,_⟩:=hx
  have β:K.take len=l.map λs=>(⟨s.toArray⟩:ByteArray):=by
   have:∀(z:List ByteArray) (m:List Ϝ),m.map (λs=>(DataW.lit (.string s):DataW Unit))=strs z->z=m.map λs=>(⟨s.toArray⟩:ByteArray):=by
    intro z
    induction z with
    | nil=>simp_all[strs]
    | cons x z S=>
     intro m h;cases m with
     | nil=>grind[strs]
     | cons y m=>
      simp only[strs,CH,PT,DataW.lit.injEq,Lit.string.injEq] at h S;obtain⟨rfl,H⟩:=h;rw[S m H];simp
   grind
  have τ:l.length=len:=by grind[List.length_map]
  have u:=World.var?_cell B Q 0;have D:=World.var?_cell B Q 1;have U:κ=#[.slice (Y a) len N]:=Ng α;rw[U] at u D;simp at u D;refine⟨?_,IM u,D⟩;intro j c r;obtain rfl:j=0:=by grind[FE]
  simp[FE] at r;subst r;refine⟨_,IM u,u,?_⟩;obtain⟨b,A,C⟩:=a
  have γ:∀i s,l[i]?=Y s->W.cell? ((⟨b,A,C⟩:Addr).add i)=Y (.string ⟨s.toArray⟩):=λi s d=>by
   have υ:i<l.length:=(BJ.1 d).1;have ξ:i<K.length:=AB;rw[T i ξ];have B:(K.take len)[i]?=Y ⟨s.toArray⟩:=by rw[β]; simp[d]
   grind
  have L:l≠[]->C=none:=λδ=>by
   cases φ:l with
   | nil=>grind
   | cons ο Δ=>simpa[Addr.add] using World.cell?_spot (γ 0 ο AB)
  have get:∀i s,l[i]?=Y s->W.cell? ⟨b,A+i,G⟩=Y (.string ⟨s.toArray⟩):=λi s d=>by
   have χ:=L (λe=>by grind)
   grind[Addr.add]
  have:=VP.Ja (I:=λb _=>b<W.heap.size) (w:=W) (rows:=l.map λs=>[PV.sc (.string ⟨s.toArray⟩)]) (base:=Y ⟨b,A,C⟩) (b:=b) (o:=A) (sz:=1) (f:=λi _=>.string ⟨(l.getD i []).toArray⟩) (cap:=N)
   ⟨λO k=>by grind,
    λδ _=>by
     rw[L (λe=>by grind)],
    λi O j c k r=>by
     rw[E8] at k;cases d:l[i]? with
     | none=>grind
     | some s=>
      simp[d] at k; subst k;have E:j=0:=AB;subst E;have ε:=get i s d;refine⟨IM ε,?_⟩
      grind,
    λi O j c k r=>by
     rw[E8] at k;cases d:l[i]? with
     | none=>grind
     | some s=>
      simp[d] at k; subst k;have E:j=0:=AB;subst E;simp at r; subst r;simp only[List.getD,d,JR];exact .sc _⟩ AB
  grind
def Hq (o:Oper):List Oper->Bool
 | o1::b::_=>(fused o o1 b).isNone
 | _=>Z
def AVW (E:Env) (fn:Func):Option (Out×St)->Option (AV×AY)
 | some (.exit _,_)=>G
 | some (_,st)=>match GI E st fn.results.toList with
  | some b=>Y (H9 b,st.s)
  | none=>G
 | none=>G
def AVX:Option (AV×AY)->Bool
 | some (.pv (.sc (.bool b)),_)=>b
 | _=>ϴ
def aq (E:Env) (n:Nat) (f:ϣ) (args:Ϭ):Option AV:=
 match E.P.funcs[f]? with
 | some b=>if args.length<=b.ntmps then match JJ E (Dk E n) n f b args ⟨[],[]⟩ with
   | some (v,_)=>Y v
   | none=>G
  else G
 | none=>G
theorem bO {E:Env} {b:Ba->DH} {n:Nat} {f:ϣ} {fn:Func} {args:Ϭ} (s:AY) {v:AV} {s0 d:AY} (h:JJ E b n f fn args s0=Y (v,d)):JJ E b n f fn args s=Y (v,s):=by
 unfold JJ at h ⊢;split at h
 .rename_i x e hb
  split at h
  all_goals grind
 grind
def TP {E:Env} {n:Nat} {f:ϣ} {args args':Ϭ} {v:AV} (e:E.kind f=.rd) (i:E.clone f=ϴ) (d:BZ [] 0 0 args=Y args') (b:args'.length=args.length) (h:aq E n f args'=Y v) (L:Ba) (s:AY) :
  Dk E (n+1) L f args s=Y (v,s):=by grind[aq,Dk,Ed,bO]
end Go.Tel
namespace Go.Tel
open Option renaming some->Y,none->G
open Bool renaming true->Z,false->ϴ
open Go renaming World->ϙ,Value->ϛ,TypeId->ϝ,Program->ϟ,FuncId->ϣ
structure lG where
 n0:Nat
 ro:Nat
 rt:Nat
 f:ϣ
 args:Ϭ
 s:AY
 v:AV
 s':AY
def AE6:Ϩ->Ϩ->Bool
 | [],[]=>Z
 | a::d,b::e=>JY a b&&AE6 d e
 | _,_=>ϴ
def AE7:Ϫ->Ϫ->Bool
 | [],[]=>Z
 | a::d,b::e=>Nat.beq a.1 b.1&&Nat.beq a.2 b.2&&AE7 d e
 | _,_=>ϴ
def ABQ (L:Ba) (f:ϣ) (args:Ϭ) (s:AY):List lG->Option (AV×AY)
 | []=>G
 | k::b=>bif Nat.beq f k.f&&(Nat.beq L.n0 k.n0&&Nat.beq L.ro k.ro&&Nat.beq L.rt k.rt&&JY args k.args&&AE6 s.bs k.s.bs&&AE7 s.ts k.s.ts) then Y (k.v,k.s') else ABQ L f args s b
def lG.Ok (E:Env) (k:lG):Prop:=
 ∀(L:Ba) (g:AZ) (w:ϙ) (j:List ϛ),L.n0=k.n0->L.ro=k.ro->L.rt=k.rt->Inv E g w k.s->VL g w k.args j ->
  (∃b,E.P.funcs[k.f]?=Y b/\b.body.isSome=Z/\(b.name== "runtime.NumGoroutine")=ϴ) /\
  Calls E.P k.f j.toArray w λe d=>∃l i,e=.returned l/\V i d k.v l/\Ext L g w i d/\Inv E i d k.s'
def ABR (E:Env) (d:List lG):Nat->Ba->DH
 | 0,_,_,_,_=>G
 | n+1,L,f,b,s=>match ABQ L f b s d with
  | some r=>Y r
  | none=>match E.P.funcs[f]? with
   | some e=>bif E.clone f then Pb E L f b s (Ed E (ABR E d n) n L f e b s) else Ed E (ABR E d n) n L f e b s
   | none=>G
def AY0 (v:AV) (s:AY):Option (AV×AY)->Bool
 | some (a,b)=>D9 a v&&AE6 b.bs s.bs&&AE7 b.ts s.ts
 | none=>ϴ
def AY1 (ok:ϝ->Nat->Bool) (L:Ba) (args:Ϭ) (s:AY):Option (AV×AY):=match args with
 | [.ptr id 0]=>match s.bs[id]? with
  | some (.ptr b 0::_)=>bif Nat.beq b id then Y (.tuple [],s) else G
  | some (.bz b d e::r)=>
   bif Nat.beq b id&&(ok d e&&(Nat.ble L.ro id&&Nat.ble L.n0 id)) then Y (.tuple [],{ s with bs:=s.bs.set id (.ptr id 0::r) }) else G
  | _=>G
 | _=>G
def bP:Ϯ->Option Ϝ
 | []=>Y []
 | [.sc (.int .u8 (.ofNat k))]::b=>bif Nat.blt k 256 then match bP b with
   | some l=>Y (UInt8.ofNat k::l)
   | none=>G
  else G
 | _=>G
def strT (b:ϝ) (L:Ba) (args:Ϭ) (s:AY):Option (AV×AY):=match args with
 | [.ptr id 0]=>match s.bs[id]? with
  | some (_::.own k rows::_)=>match bP rows,s.ts[k]? with
   | some (c::d),Y (n,e)=>
    bif Nat.beq n rows.length&&(Nat.beq e b&&(Nat.ble L.rt k&&Nat.ble rows.length 1000000000000000000)) then Y (Jo (.string ⟨(c::d).toArray⟩),s) else G
   | _,_=>G
  | _=>G
 | _=>G
def delT (sz:Nat) (L:Ba) (args:Ϭ) (s:AY):Option (AV×AY):=match args with
 | [.ref id 0 len k,.pv (.sc (.int .i64 (.ofNat i))),.pv (.sc (.int .i64 (.ofNat j)))]=>match s.bs[id]? with
  | some b=>bif Nat.beq k sz&&(Nat.beq (len*sz) b.length&&(Nat.blt i j&&(Nat.ble j len&&(Nat.ble L.ro id&&b.all BS)))) then match b.take (i*sz)++b.drop (j*sz) with
    | []=>Y (.pv (.list []),{ s with bs:=s.bs.set id [] })
    | c::r=>Y (.ref s.bs.length 0 (len-(j-i)) sz,{ s with bs:=s.bs.set id []++[c::r] })
   else G
  | none=>G
 | _=>G
def MC (P:ϟ) (f:ϣ):Prop:=∃b,P.funcs[f]?=Y b/\b.body.isSome=Z/\(b.name== "runtime.NumGoroutine")=ϴ
structure AY2 (P:ϟ) (f:ϣ) (ok:ϝ->Nat->Bool):Prop where
 body:MC P f
 fresh:∀(t:ϝ) (n:Nat),ok t n=Z->∀(w:ϙ) (b:Nat),w.cell? ⟨b,0,G⟩=Y (.pointer G)->w.shape? b=Y (t,n)->w.frozen? ⟨b,0,G⟩=ϴ ->
  Calls P f #[.pointer (Y ⟨b,0,G⟩)] w λe w'=>e=.returned (.tuple #[])/\w'=w.setCell ⟨b,0,G⟩ (.pointer (Y ⟨b,0,G⟩))
 used:∀(w:ϙ) (b:Nat),w.cell? ⟨b,0,G⟩=Y (.pointer (Y ⟨b,0,G⟩)) ->
  Calls P f #[.pointer (Y ⟨b,0,G⟩)] w λe w'=>e=.returned (.tuple #[])/\w'=w
structure StrC (P:ϟ) (f:ϣ) (u8:ϝ):Prop where
 body:MC P f
 str:∀(w:ϙ) (b g cap:Nat) (cur:Array ϛ) (fz:Nat×Nat) (l:Ϝ),l≠[]->l.length<=cap->l.length<=9223372036854775807 ->
  w.cell? ⟨b,1,G⟩=Y (.slice (Y ⟨g,0,G⟩) l.length cap)->w.heap[g]?=Y (.cells cur u8 fz)->l.length<=cur.size ->
  (∀j x,l[j]?=Y x->w.cell? ⟨g,j,G⟩=Y (.int .u8 x.toNat)) ->
  Calls P f #[.pointer (Y ⟨b,0,G⟩)] w λe w'=>e=.returned (.string ⟨l.toArray⟩)/\w'=(Bt w).freeze ⟨g,0,G⟩ l.length
end Go.Tel
