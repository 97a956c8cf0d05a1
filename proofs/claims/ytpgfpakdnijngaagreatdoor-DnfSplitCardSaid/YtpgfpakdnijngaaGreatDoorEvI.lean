/-
  From an evaluation to the contract that a row asks for; what the listed variables hold.
-/
import Derived.Test.YtpgfpakdnijngaaGreatDoorEvP
import Derived.ChangeSame
import Derived.SliceStrings
import Derived.MakeChecks
set_option linter.all false
namespace Go.Tel
open Go.ChangeShapes Go.WideShapes
structure Still (W w':World):Prop where
 os:w'.os=W.os
 output:w'.output=W.output
 heap:∀b,b<W.heap.size->w'.heap[b]?=W.heap[b]?
def kU (E:Env) (W:World):Prop:=
 ∀gl row,E.G gl=some row->(∀j c,row[j]?=some c->∃v,gl<W.heap.size/\W.cell? ⟨gl,j,none⟩=some v/\VP (λb _=>b<W.heap.size) W c v)/\gl<W.heap.size/\W.cell? ⟨gl,row.length,none⟩=none
theorem kU.inv {E:Env} {W:World} (h:kU E W):Inv E (AP.bare λb _=>b<W.heap.size) W ⟨[],[]⟩ where
 Ex:=λ_ _ h=>by grind[AP.bare]
 Dm:=λ_ h=>by grind[AP.bare]
 blk:=λ_ _ h=>by grind[AP.bare]
 GO:=λ_ _ _ h=>by grind[AP.bare]
 Dn:=λ_ h=>by grind[AP.bare]
 Dw:=λ_ h=>by grind[AP.bare]
 Ec:=λ_ h=>by grind
 mp:=λ_ _ h=>by grind[AP.bare]
 MM:=λ_ _ h=>by grind[AP.bare]
 Ho:=λ_ _ _ h=>by grind[AP.bare]
 Gx:=λ_ _ _ h=>by grind
 Gy:=λ_ _ h=>by grind[AP.bare]
 tok:=λ_ _ h=>by grind[AP.bare]
 HG:=λ_ _ _ h=>by grind[AP.bare]
 FF:=λ_ _ _ h=>by grind[AP.bare]
 Ge:=λ_ _ _ _ h=>by grind[AP.bare]
 DL:=λ_ _ _ _ h=>by grind[AP.bare]
 Kf:=λ_ _ h=>h
 Fv:=λgl row hr=>(h gl row hr).1
 Dc:=λgl row hr=>(h gl row hr).2
theorem Jq {a b:Nat} (h:a≠b):Nat.beq a b=false:=by grind[Nat.eq_of_beq_eq_true]
def L0:BL:=⟨0,0,0,λ_=>false,λ_=>false,λ_=>none⟩
theorem Still.kept {W w':World} (h:Still W w') (may:MemPlace->Prop):W.keptBut w' may:=by
 refine⟨h.os,h.output,λi hi=>?_⟩;rw[h.heap i hi]
 grind
theorem Vy {H:Type} {enc:TypeId×Value->H} {P:Program} {f:Func} {s:ChangeSpec} {apart fresh handsOn again:Bool} {W W':World} {args:Array Value} {v:Value} {ds gs:List (DataW H)} {before pa pv:List MemPlace}
  (hW:DataW.Whole enc P f.params.toList s.vars apart W args.toList ds gs before)
  (hres:∀(b:Nat) (sp:Nat->Bool) (hd:Bool),DataW.TrodAll enc P W' b sp hd f.resultTypes.toList (v.resultList f.resultTypes.size) (s.fn H (ds++gs)).results [])
  (hargs:∀sp:Nat->Bool,(∀p∈before,sp p.block=true)->DataW.TrodAll enc P W' 0 sp true f.params.toList args.toList (s.fn H (ds++gs)).args pa)
  (hvars:∀sp:Nat->Bool,(∀p∈before,sp p.block=true)->DataW.TrodVars enc P W' sp s.vars (s.fn H (ds++gs)).vars pv)
  (hps:before=pa++pv) (hst:Still W W')
  (hok:∀(j:Nat) (t:TypeId) (r:Value),f.resultTypes[j]?=some t->(v.resultList f.resultTypes.size)[j]?=some r->Value.okWide P W' .any 0 t r) :
  s.post enc P f apart fresh handsOn again W args v W':=by
 have hlt:∀p∈before,p.block<W.heap.size:=λp hp=>hW.lt p hp
 have hold:∀p∈before,(λb=>decide (b<W.heap.size)) p.block=true:=λp hp=>by grind
 refine⟨ds,gs,before,[],pa,pv,hW,hres _ _ _,hargs _ hold,hvars _ hold,World.keptBut_mono (λp hp=>⟨hp,?_⟩) (hst.kept _),λ_=>?_⟩
 .grind
 .obtain⟨_,_,_,_,_,hz,hn⟩:=hW
  refine⟨hok,_,_,([]++pa)++pv,⟨[]++pa,pv,trodAll_append (hargs _ (λ_ _=>rfl)) (hres _ _ _),hvars _ (λ_ _=>rfl),rfl,?_,?_⟩,?_⟩
  .intro b off hp
   have hb:MemPlace.cell b off∈before:=AB
   have hf:∀a:Addr,a.block=b->W'.frozen? a=W.frozen? a:=λa ha=>by
    simp only[World.frozen?,ha,hst.heap b (hlt _ hb)]
   rw[hf _ rfl];exact hz b off hb
  all_goals grind
theorem Good.oO {E:Env} (hp:aa E=true) (hn:(E.P.funcs.toList.all λfn=>fn.body.isNone||!(fn.name== "runtime.NumGoroutine"))=true) (hm:E.P.follows .mixedOrders=true)
  (ht:∀f T,E.told f=some T->Ql E f T) (hk:∀k t,E.back k=some t->Wc E.P k t)
  (hc:∀f,E.clone f=true->E.told f=none->(∃fn,E.P.funcs[f]?=some fn/\fn.body.isSome=true) /\
   ∀(w:World) (base:Option Addr) (cap:Nat),Calls E.P f #[.slice base 0 cap] w λe w'=>∃b',e=.returned (.slice b' 0 0)/\(w'=w\/∃o,w'=O7 w o)):Good E where
 kV:=ht
 Tg:=hk
 mix:=hm
 plans:=λf fn body hf hb=>by
  have hlt:f<E.P.funcs.size:=(Array.getElem?_eq_some_iff.1 hf).1;have:=C3.1 hp f (Lc.2 hlt)
  grind
 names:=λf fn hf hb=>by
  have hm:fn∈E.P.funcs.toList:=AB;have:=C3.1 hn fn hm;cases hx:fn.body with
  | none=>grind
  | some c=>grind
 Y1:=hc
theorem O8 {P:Program} {t e:TypeId} (h:P.underlying t=some (.slice e)) (w:World) (base:Option Addr) (n cap:Nat) :
  (binOp .eql t (.slice base n cap) (.slice none 0 0)).run P w=.ok (.bool base.isNone) w:=by
 have:(Op.equal t (.slice base n cap) (.slice none 0 0)).run P w=.ok base.isNone w:=by
  obtain⟨m,hm⟩:∃m,Op.maxDepth=m+1:=⟨9999,rfl⟩;unfold Op.equal;rw[hm];cases base <;> simp only[Op.equalIn,Sem.run_bind,run_underlying h,Result.andThen_ok,Sem.run_pure] <;> rfl
 simp[*,binOp]
theorem OO {P:Program} {w:World}:∀{l:List (String×DataW Unit)} {ps:List MemPlace},DataW.LaidVars P w l ps->∀n d,(n,d)∈l ->
  ∃g t cs fuel p,P.globalNamed n=some g/\(P.globals[g]?).map (·.type)=some t/\w.var? P n=some cs/\DataW.trod (λ_=>()) P w 0 (λ_=>true) false fuel t cs.toList=some (d,p)
 | [],_,_,_,_,hm=>by grind
 | (n',d')::r,ps,h,n,d,hm=>by
  obtain⟨g,t,cs,fuel,p,q,h1,h2,h3,h4,h5,_⟩:=h;rcases A5.1 hm with e|e
  .grind
  .exact OO h5 n d e
theorem H8 {w:World} {a:Addr} {v:Value} (h:w.cell? a=some v):a.block<w.heap.size:=by grind[World.cell?]
def PO (l:List (List UInt8)):DataW Unit:=.slice (l.map λs=>.lit (.string s)) []
def Ez (l:List (List UInt8)):List PV:=[.list (l.map λs=>[.sc (.string ⟨s.toArray⟩)])]
theorem PR {P:Program} {W:World} {laid:List (String×DataW Unit)} {n:String} {l:List (List UInt8)} {g:Nat} {t e:TypeId} (h:laidMet P laid W) (hm:(n,PO l)∈laid)
  (hg:P.globalNamed n=some g) (hty:(P.globals[g]?).map (·.type)=some t) (ht:P.underlying t=some (.slice e)) (he:P.underlying e=some .string) (hc:P.cellsOf e=1) :
  (∀j c,(Ez l)[j]?=some c->∃v,g<W.heap.size/\W.cell? ⟨g,j,none⟩=some v/\VP (λb _=>b<W.heap.size) W c v)/\g<W.heap.size/\W.cell? ⟨g,(Ez l).length,none⟩=none:=by
 obtain⟨ps,hv,_⟩:=h;obtain⟨g',t',cs,fuel,p,h1,h2,h3,h4⟩:=OO hv n _ hm;obtain rfl:=Fk (hg.symm.trans h1);obtain rfl:=Fk (hty.symm.trans h2);rcases open_strings ht he hc h4 with ⟨_,hx⟩|⟨a,len,cap,ss,hcs,_,hl,_,hlen,hx,hcell,_⟩
 .grind[PO]
 .simp only[BU,PO,DataW.slice.injEq] at hx
  obtain⟨⟨hx1,hx2⟩,_⟩:=hx
  have hss:ss.take len=l.map λs=>(⟨s.toArray⟩:ByteArray):=by
   have:∀(xs:List ByteArray) (ys:List (List UInt8)),ys.map (λs=>(DataW.lit (.string s):DataW Unit))=strs xs->xs=ys.map λs=>(⟨s.toArray⟩:ByteArray):=by
    intro xs
    induction xs with
    | nil=>simp_all[strs]
    | cons x xs ih=>
     intro ys h;cases ys with
     | nil=>grind[strs]
     | cons y ys=>
      simp only[strs,CO,O0,DataW.lit.injEq,Lit.string.injEq] at h ih;obtain⟨rfl,h2⟩:=h;rw[ih ys h2];simp
   grind
  have hl':l.length=len:=by grind[List.length_map]
  have hcg:=World.var?_cell hg h3 0;have z6:=World.var?_cell hg h3 1;have AXT:cs=#[.slice (some a) len cap]:=NL hcs;rw[AXT] at hcg z6;simp at hcg z6;refine⟨?_,H8 hcg,z6⟩;intro j c hj;obtain rfl:j=0:=by grind[Ez]
  simp[Ez] at hj;subst hj;refine⟨_,H8 hcg,hcg,?_⟩;obtain⟨b,off,spot⟩:=a
  have raw:∀i s,l[i]?=some s->W.cell? ((⟨b,off,spot⟩:Addr).add i)=some (.string ⟨s.toArray⟩):=λi s hs=>by
   have hil:i<l.length:=(BH.1 hs).1;have hi:i<ss.length:=AB;rw[hcell i hi];have hg:(ss.take len)[i]?=some ⟨s.toArray⟩:=by rw[hss]; simp[hs]
   grind
  have kW:l≠[]->spot=none:=λhne=>by
   cases hl0:l with
   | nil=>grind
   | cons s0 l0=>simpa[Addr.add] using World.cell?_spot (raw 0 s0 AB)
  have get:∀i s,l[i]?=some s->W.cell? ⟨b,off+i,none⟩=some (.string ⟨s.toArray⟩):=λi s hs=>by
   have hsp:=kW (λe=>by grind)
   grind[Addr.add]
  have:=VP.JH (I:=λb _=>b<W.heap.size) (w:=W) (rows:=l.map λs=>[PV.sc (.string ⟨s.toArray⟩)]) (base:=some ⟨b,off,spot⟩) (b:=b) (o:=off) (sz:=1) (f:=λi _=>.string ⟨(l.getD i []).toArray⟩) (cap:=cap)
   ⟨λrow hr=>by grind,
    λhne _=>by
     rw[kW (λe=>by grind)],
    λi row j c hr hj=>by
     rw[FJ] at hr;cases hs:l[i]? with
     | none=>grind
     | some s=>
      simp[hs] at hr; subst hr;have hj0:j=0:=AB;subst hj0;have K7:=get i s hs;refine⟨H8 K7,?_⟩
      grind,
    λi row j c hr hj=>by
     rw[FJ] at hr;cases hs:l[i]? with
     | none=>grind
     | some s=>
      simp[hs] at hr; subst hr;have hj0:j=0:=AB;subst hj0;simp at hj; subst hj;simp only[List.getD,hs,II];exact .sc _⟩ AB
  grind
def HV (o:Oper):List Oper->Bool
 | o1::o2::_=>(fused o o1 o2).isNone
 | _=>true
def AWC (E:Env) (fn:Func):Option (Out×St)->Option (AV×AQ)
 | some (.exit _,_)=>none
 | some (_,st)=>match Fz E st fn.results.toList with
  | some vs=>some (I2 vs,st.s)
  | none=>none
 | none=>none
def AWD:Option (AV×AQ)->Bool
 | some (.pv (.sc (.bool b)),_)=>b
 | _=>false
def aR (E:Env) (n:Nat) (f:FuncId) (args:List AV):Option AV:=
 match E.P.funcs[f]? with
 | some fn=>if args.length<=fn.ntmps then match I3 E (EC E n) n f fn args ⟨[],[]⟩ with
   | some (v,_)=>some v
   | none=>none
  else none
 | none=>none
theorem bE {E:Env} {cf:BL->Cx} {n:Nat} {f:FuncId} {fn:Func} {args:List AV} (s:AQ) {v:AV} {s0 s1:AQ} (h:I3 E cf n f fn args s0=some (v,s1)):I3 E cf n f fn args s=some (v,s):=by
 unfold I3 at h ⊢;split at h
 .rename_i x s' hb
  split at h
  all_goals grind
 grind
theorem Th {E:Env} {n:Nat} {f:FuncId} {args args':List AV} {v:AV} (hk:E.kind f=.rd) (hc:E.clone f=false) (Ff:BR [] 0 0 args=some args') (hlen:args'.length=args.length) (h:aR E n f args'=some v) (L:BL) (s:AQ) :
  EC E (n+1) L f args s=some (v,s):=by grind[aR,EC,EJ,bE]
end Go.Tel
namespace Go.Tel
structure kX where
 n0:Nat
 ro:Nat
 rt:Nat
 f:FuncId
 args:List AV
 s:AQ
 v:AV
 s':AQ
def AFx:List (List AV)->List (List AV)->Bool
 | [],[]=>true
 | a::xs,b::ys=>JG a b&&AFx xs ys
 | _,_=>false
def AFy:List (Nat×Nat)->List (Nat×Nat)->Bool
 | [],[]=>true
 | a::xs,b::ys=>Nat.beq a.1 b.1&&Nat.beq a.2 b.2&&AFy xs ys
 | _,_=>false
def ACh (L:BL) (f:FuncId) (args:List AV) (s:AQ):List kX->Option (AV×AQ)
 | []=>none
 | k::ks=>bif Nat.beq f k.f&&(Nat.beq L.n0 k.n0&&Nat.beq L.ro k.ro&&Nat.beq L.rt k.rt&&JG args k.args&&AFx s.bs k.s.bs&&AFy s.ts k.s.ts) then some (k.v,k.s') else ACh L f args s ks
def kX.Ok (E:Env) (k:kX):Prop:=
 ∀(L:BL) (g:AP) (w:World) (vs:List Value),L.n0=k.n0->L.ro=k.ro->L.rt=k.rt->Inv E g w k.s->VL g w k.args vs ->
  (∃fn,E.P.funcs[k.f]?=some fn/\fn.body.isSome=true/\(fn.name== "runtime.NumGoroutine")=false) /\
  Calls E.P k.f vs.toArray w λe w'=>∃v' g',e=.returned v'/\V g' w' k.v v'/\Ext L g w g' w'/\Inv E g' w' k.s'
def ACi (E:Env) (ks:List kX):Nat->BL->Cx
 | 0,_,_,_,_=>none
 | n+1,L,f,args,s=>match ACh L f args s ks with
  | some r=>some r
  | none=>match E.P.funcs[f]? with
   | some fn=>bif E.clone f then PC E L f args s (EJ E (ACi E ks n) n L f fn args s) else EJ E (ACi E ks n) n L f fn args s
   | none=>none
def AbU (v:AV) (s:AQ):Option (AV×AQ)->Bool
 | some (a,b)=>Dg a v&&AFx b.bs s.bs&&AFy b.ts s.ts
 | none=>false
def AbV (ok:TypeId->Nat->Bool) (L:BL) (args:List AV) (s:AQ):Option (AV×AQ):=match args with
 | [.ptr id 0]=>match s.bs[id]? with
  | some (.ptr id' 0::_)=>bif Nat.beq id' id then some (.tuple [],s) else none
  | some (.bz id' t' n'::r)=>
   bif Nat.beq id' id&&(ok t' n'&&(Nat.ble L.ro id&&Nat.ble L.n0 id)) then some (.tuple [],{ s with bs:=s.bs.set id (.ptr id 0::r) }) else none
  | _=>none
 | _=>none
def bF:List (List PV)->Option (List UInt8)
 | []=>some []
 | [.sc (.int .u8 (.ofNat k))]::rest=>bif Nat.blt k 256 then match bF rest with
   | some l=>some (UInt8.ofNat k::l)
   | none=>none
  else none
 | _=>none
def strT (u8:TypeId) (L:BL) (args:List AV) (s:AQ):Option (AV×AQ):=match args with
 | [.ptr id 0]=>match s.bs[id]? with
  | some (_::.own k rows::_)=>match bF rows,s.ts[k]? with
   | some (c::cs),some (n,e)=>
    bif Nat.beq n rows.length&&(Nat.beq e u8&&(Nat.ble L.rt k&&Nat.ble rows.length 1000000000000000000)) then some (Kc (.string ⟨(c::cs).toArray⟩),s) else none
   | _,_=>none
  | _=>none
 | _=>none
def delT (sz:Nat) (L:BL) (args:List AV) (s:AQ):Option (AV×AQ):=match args with
 | [.ref id 0 len k,.pv (.sc (.int .i64 (.ofNat i))),.pv (.sc (.int .i64 (.ofNat j)))]=>match s.bs[id]? with
  | some cs=>bif Nat.beq k sz&&(Nat.beq (len*sz) cs.length&&(Nat.blt i j&&(Nat.ble j len&&(Nat.ble L.ro id&&cs.all BD)))) then match cs.take (i*sz)++cs.drop (j*sz) with
    | []=>some (.pv (.list []),{ s with bs:=s.bs.set id [] })
    | c::r=>some (.ref s.bs.length 0 (len-(j-i)) sz,{ s with bs:=s.bs.set id []++[c::r] })
   else none
  | none=>none
 | _=>none
def Lq (P:Program) (f:FuncId):Prop:=∃fn,P.funcs[f]?=some fn/\fn.body.isSome=true/\(fn.name== "runtime.NumGoroutine")=false
structure AbW (P:Program) (f:FuncId) (ok:TypeId->Nat->Bool):Prop where
 body:Lq P f
 fresh:∀(t:TypeId) (n:Nat),ok t n=true->∀(w:World) (b:Nat),w.cell? ⟨b,0,none⟩=some (.pointer none)->w.shape? b=some (t,n)->w.frozen? ⟨b,0,none⟩=false ->
  Calls P f #[.pointer (some ⟨b,0,none⟩)] w λe w'=>e=.returned (.tuple #[])/\w'=w.setCell ⟨b,0,none⟩ (.pointer (some ⟨b,0,none⟩))
 used:∀(w:World) (b:Nat),w.cell? ⟨b,0,none⟩=some (.pointer (some ⟨b,0,none⟩)) ->
  Calls P f #[.pointer (some ⟨b,0,none⟩)] w λe w'=>e=.returned (.tuple #[])/\w'=w
structure StrC (P:Program) (f:FuncId) (u8:TypeId):Prop where
 body:Lq P f
 str:∀(w:World) (b g cap:Nat) (cur:Array Value) (fz:Nat×Nat) (l:List UInt8),l≠[]->l.length<=cap->l.length<=9223372036854775807 ->
  w.cell? ⟨b,1,none⟩=some (.slice (some ⟨g,0,none⟩) l.length cap)->w.heap[g]?=some (.cells cur u8 fz)->l.length<=cur.size ->
  (∀j x,l[j]?=some x->w.cell? ⟨g,j,none⟩=some (.int .u8 x.toNat)) ->
  Calls P f #[.pointer (some ⟨b,0,none⟩)] w λe w'=>e=.returned (.string ⟨l.toArray⟩)/\w'=(Bb w).freeze ⟨g,0,none⟩ l.length
end Go.Tel
