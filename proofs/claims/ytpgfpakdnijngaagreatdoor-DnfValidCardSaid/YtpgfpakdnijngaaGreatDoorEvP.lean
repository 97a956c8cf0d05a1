/-
  Code: each piece that the evaluator answers is walked as it says.
-/
import Derived.Test.YtpgfpakdnijngaaGreatDoorEvO
set_option linter.all false
namespace Go.Tel
def Mv (rd:Option Nat) (P:Program) (c:Code) (Q:Exit->Act->World->Prop) (a:Act) (w:World):Prop:=
 ∀(b:Frame) (k:List Item) (cs:List Frame),b.roundOf=(FW rd).round->(FW rd).fn b.fn->(FW rd).room (cs.length+1+0) ->
  ∃e a' w',Q e a' w'/\ArrivesIn (Machine.fenced P (FW rd)) P (lone (b.atR a (.code c::.inLoop c::k)) cs w) b k cs e a' w'
theorem Mv.wp {rd:Option Nat} {P:Program} {c:Code} {Q:Exit->Act->World->Prop} {a:Act} {w:World} (h:Mv rd P c Q a w):(Code.loop c).wpIn (FW rd) 0 P Q a w:=by
 intro b k cs hro hb hr;obtain⟨e,a',w',hq,cW⟩:=h b k cs hro hb hr;exact⟨e,a',w',hq,.of_steps (.one (fenced_calm hb hr rfl) stepR_loop) cW⟩
theorem Mv.round {rd:Option Nat} {P:Program} {c:Code} {Q:Exit->Act->World->Prop} {a:Act} {w:World} (h:c.wpIn (FW rd) 0 P (Exit.then (Mv rd P c Q) Q) a w):Mv rd P c Q a w:=by
 intro b k cs hro hb hr;obtain⟨e,a₁,w₁,hq,cW⟩:=h b (.inLoop c::k) cs hro hb hr;cases e with
 | normal=>
  obtain⟨e₂,a₂,w₂,hq₂,AOp⟩:=hq b k cs hro hb hr;exact⟨e₂,a₂,w₂,hq₂,.of_steps (StepsIn.trans cW (.one (fenced_calm hb hr rfl) stepR_inLoop)) AOp⟩
 | exit id=>exact⟨_,a₁,w₁,hq,.pass (x:=.inLoop c) rfl (λ_ _=>.inl AD) cW⟩
 | goto l=>exact⟨_,a₁,w₁,hq,.pass (x:=.inLoop c) rfl (λ_ _=>.inl AD) cW⟩
 | ret=>exact⟨_,a₁,w₁,hq,.pass (x:=.inLoop c) rfl (λ_ _=>.inl AD) cW⟩
 | panic ch=>exact⟨_,a₁,w₁,hq,.pass (x:=.inLoop c) rfl (λ_ _=>.inl AD) cW⟩
 | outgrown=>exact⟨_,a₁,w₁,hq,.pass (x:=.inLoop c) rfl (λ_ _=>.inl AD) cW⟩
def Out.u6:Out->Exit
 | .norm=>.normal
 | .exit id=>.exit id
 | .ret=>.ret
def cX (E:Env) (L:BI) (st:St) (o:Out) (st':St) (W:(Exit->Act->World->Prop)->Act->World->Prop):Prop:=
 ∀(g:AP) (w:World) (a:Act) (Q:Exit->Act->World->Prop),l7 E g w st a ->
  (∀a' w' g',l7 E g' w' st' a'->Marks w.heap.size a.defers g' w' a'.defers->Ext L g w g' w'->st'.N=st.N->Q o.u6 a' w')->W Q a w
def recL (fn:FuncId) (tmps:Array Value) (ps:Array Tmp) (ca cb:Code) (D:Nat):Loop:={ state:=.ready,pending:=none,fn,tmps,params:=ps,assign:=ca,body:=cb,defers:=D }
set_option maxHeartbeats 1000000 in
theorem p9 {E:Env} {cf:BI->Cu} {L:BI} (TL:IE E L (cf L)) (ie:E.P.follows .mixedOrders=true) (hbk:∀k t,E.back k=some t->XI E.P k t) :
  ∀(n:Nat) (rd:Option Nat) (c:Code) (st st':St) (o:Out),(rd=none\/PR c=true)->Eg L.pl c=true->Mc E cf n L c st=some (o,st') ->
   cX E L st o st' (λQ=>c.wpIn (FW rd) 0 E.P Q)/\∀b,c=.loop b->cX E L st o st' (λQ=>Mv rd E.P b Q):=by
 intro n
 induction n with
 | zero=>grind[Mc]
 | succ n ih=>
  intro rd c st st' o hrf LK h
  have done:∀(o':Out) {W:(Exit->Act->World->Prop)->Act->World->Prop},(∀Q a w,Q o'.u6 a w->W Q a w)->some (o',st)=some (o,st')->cX E L st o st' W:=by
   intro o' W hW e g w a Q hs hQ
   grind[Marks.refl,Ext.refl]
  cases c with
  | skip=>exact⟨done .norm (λ_ _ _ h=>wpIn_skip h) h,λ_ e=>by grind⟩
  | ret=>exact⟨done .ret (λ_ _ _ h=>wpIn_ret h) h,λ_ e=>by grind⟩
  | exit id=>exact⟨done (.exit id) (λ_ _ _ h=>wpIn_exit h) h,λ_ e=>by grind⟩
  | region id ops draw=>
   refine⟨?_,λ_ e=>by grind⟩;cases draw with
   | false=>
    simp only[Mc] at h;split at h
    .rename_i Gf h1
     simp only[BN,BT] at h;obtain⟨rfl,rfl⟩:=h;intro g w a Q hs hQ;refine wpIn_region ?_;have:=ir (rd:=rd) (Q:=Q) TL ops.toList.length 0 ops.toList st Gf a w g rfl rfl hs h1 (λa' w' g' q1 q2 q3 q4=>hQ a' w' g' q1 (by grind[Marks.refl]) q3 q4)
     grind[List.range_eq_range']
    grind
   | true=>
    simp only[Mc] at h;simp only[Eg,AI] at LK
    have run:∀(k:Nat) (Gf:St),(match L.pl k with|some p=>Tt ops p|none=>true)=true->KW E L (cf L) ops st (L.pl k)=some Gf->some (Out.norm,Gf)=some (o,st')->cX E L st o st' (λQ=>(Code.region id ops true).wpIn (FW rd) 0 E.P Q):=by
     intro k Gf hk h1 e;simp only[BN,BT] at e;obtain⟨rfl,rfl⟩:=e;cases hp:L.pl k with
     | none=>grind[KW]
     | some p=>
      rw[hp] at h1 hk;simp only[KW] at h1;simp only at hk;intro g w a Q hs hQ;exact ij TL ie hk hs.inv hs.size hs.tmps h1 λa' w' g' q1 q2 q3 q4 q5 q6=>hQ a' w' g' ⟨q4,q1,q5⟩ (by grind[Marks.refl]) q3 q6
    grind[uH]
  | seq x y=>
   refine⟨?_,λ_ e=>by grind⟩;simp only[Eg,AI] at LK;have WR:rd=none\/PR x=true:=hrf.imp (λx=>x) λe=>by grind[PR]
   have N4:rd=none\/PR y=true:=hrf.imp (λx=>x) λe=>by grind[PR]
   simp only[Mc] at h;intro g w a Q hs hQ;refine wpIn_seq ?_;split at h
   .rename_i Gf h1
    refine(ih rd x st Gf .norm WR LK.1 h1).1 g w a _ hs λa' w' g' q1 q2 q3 q4=>?_
    exact(ih rd y Gf st' o N4 LK.2 h).1 g' w' a' _ q1 λa'' w'' g'' r1 r2 r3 r4=>hQ a'' w'' g'' r1 (q2.trans r3 rfl q3.size r2) (q3.trans r3) (r4.trans q4)
   .rename_i hne
    refine(ih rd x st st' o WR LK.1 h).1 g w a _ hs λa' w' g' q1 q2 q3 q4=>?_
    have:=hQ a' w' g' q1 q2 q3 q4;cases o with
    | norm=>grind
    | exit id=>exact this
    | ret=>exact this
  | cond c x y=>
   refine⟨?_,λ_ e=>by grind⟩;simp only[Eg,AI] at LK;simp only[Mc] at h;intro g w a Q hs hQ;split at h
   .rename_i t ht
    have hv:=Aw hs.tmps c;rw[ht] at hv;refine wpIn_cond hv.C6 ?_;cases t with
    | true=>exact(ih rd x st st' o (hrf.imp (λx=>x) λe=>by grind[PR]) LK.1 h).1 g w a _ hs hQ
    | false=>exact(ih rd y st st' o (hrf.imp (λx=>x) λe=>by grind[PR]) LK.2 h).1 g w a _ hs hQ
   grind
  | block id b=>
   refine⟨?_,λ_ e=>by grind⟩;simp only[Eg] at LK;simp only[Mc] at h;intro g w a Q hs hQ;refine wpIn_block ?_;split at h
   .rename_i j Gf h1
    refine(ih rd b st Gf (.exit j) (hrf.imp (λx=>x) λe=>by assumption) LK h1).1 g w a _ hs λa' w' g' q1 q2 q3 q4=>?_
    show if j=id then Q .normal a' w' else Q (.exit j) a' w'
    cases hj:Nat.beq j id with
    | true=>
     rw[hj] at h;simp only[AN,BN,BT] at h;obtain⟨rfl,rfl⟩:=h;rw[if_pos (B9 hj)];exact hQ a' w' g' q1 q2 q3 q4
    | false=>
     rw[hj] at h;simp only[AL,BN,BT] at h;obtain⟨rfl,rfl⟩:=h;rw[if_neg (Nat.ne_of_beq_eq_false hj)];exact hQ a' w' g' q1 q2 q3 q4
   .rename_i hne
    refine(ih rd b st st' o (hrf.imp (λx=>x) λe=>by assumption) LK h).1 g w a _ hs λa' w' g' q1 q2 q3 q4=>?_
    have:=hQ a' w' g' q1 q2 q3 q4;cases o with
    | norm=>exact this
    | exit id=>grind
    | ret=>exact this
  | loop b=>
   have hpb:Eg L.pl b=true:=Ba;have hrb:rd=none\/PR b=true:=hrf.imp (λx=>x) λe=>by assumption
   have hlw:cX E L st o st' (λQ=>Mv rd E.P b Q):=by
    simp only[Mc] at h;intro g w a Q hs hQ;refine Mv.round ?_;split at h
    .rename_i Gf h1
     refine(ih rd b st Gf .norm hrb hpb h1).1 g w a _ hs λa' w' g' q1 q2 q3 q4=>?_
     exact(ih rd (.loop b) Gf st' o hrf LK h).2 b rfl g' w' a' _ q1 λa'' w'' g'' r1 r2 r3 r4=>hQ a'' w'' g'' r1 (q2.trans r3 rfl q3.size r2) (q3.trans r3) (r4.trans q4)
    .rename_i hne
     refine(ih rd b st st' o hrb hpb h).1 g w a _ hs λa' w' g' q1 q2 q3 q4=>?_
     have:=hQ a' w' g' q1 q2 q3 q4;cases o with
     | norm=>grind
     | exit id=>exact this
     | ret=>exact this
   exact⟨λg w a Q hs hQ=>(hlw g w a Q hs hQ).wp,λb' e=>by grind⟩
  | _=>simp[Mc] at h
def ABV (tmps:Array Value):ResultVar->Sem Value
 | .tmp t=>pure (tmps.getD t undef)
 | .cell x t=>do loadVar t (<-asAddr (tmps.getD x undef))
theorem jB (fn:Func) (tmps:Array Value):results fn tmps=(do let vs <-fn.results.mapM (ABV tmps); pure (if h:vs.size=1 then vs[0] else .tuple vs)):=by
 rfl
theorem jC {E:Env} {g:AP} {w:World} {st:St} {a:Act} (hs:l7 E g w st a) {r:ResultVar} {v:AV} (h:Nj E st r=some v) :
  ∃u,(ABV a.tmps r).run E.P w=.ok u w/\V g w v u:=by
 cases r with
 | tmp t=>
  simp[Nj] at h; subst h;exact⟨_,rfl,hs.tmps t⟩
 | cell x t=>
  simp only[Nj] at h;obtain⟨u,h1,h2⟩:=Rs hs.inv (hs.tmps x) h;refine⟨u,?_,h2⟩;simp only[ABV];generalize a.tmps.getD x undef=q at h1 ⊢;simp only[Instr.loadAt] at h1;cases q with
  | pointer p=>
   cases p with
   | none=>simp_all[Instr.sureAddr]
   | some p=>assumption
  | _=>simp_all[Instr.sureAddr]
theorem R3 {E:Env} {g:AP} {w:World} {st:St} {a:Act} (hs:l7 E g w st a):∀(rs:List ResultVar) (vs:List AV),F0 E st rs=some vs ->
  ∃us,(rs.mapM (ABV a.tmps)).run E.P w=.ok us w/\VL g w vs us
 | [],vs,h=>by
  simp[F0] at h; subst h;exact⟨[],AD,.nil⟩
 | r::rs,vs,h=>by
  simp only[F0] at h;split at h
  .rename_i v vs' h1 h2
   simp at h; subst h;obtain⟨u,k1,k2⟩:=jC hs h1;obtain⟨us,k3,k4⟩:=R3 hs rs vs' h2;refine⟨u::us,?_,.cons k2 k4⟩;simp[*]
  grind
theorem Wn {E:Env} {g:AP} {w:World} {st:St} {a:Act} {fn:Func} {vs:List AV} (hs:l7 E g w st a) (h:F0 E st fn.results.toList=some vs) :
  ∃u,(results fn a.tmps).run E.P w=.ok u w/\V g w (JB vs) u:=by
 obtain⟨us,h1,h2⟩:=R3 hs _ _ h
 have hr:(results fn a.tmps).run E.P w=.ok (if h:us.toArray.size=1 then us.toArray[0] else .tuple us.toArray) w:=by
  rw[jB,lO];simp[h1]
 refine⟨_,hr,?_⟩
 match vs,h2 with
 | [],h2=>
  have:=h2.GO
  grind[JB,V.tuple']
 | [v],h2=>
  obtain⟨u,us',rfl,k1,k2⟩:=h2.cases;have:=k2.GO
  grind[JB]
 | v1::v2::vs',h2=>
  have hl:=h2.len;simp only[B4] at hl;rw[dif_neg AB];exact V.tuple' h2
theorem R4 {g:AP} {w:World}:∀(args:List AV) (vs:List Value) (n t:Nat),VL g w args vs->V g w (Rr args t) ((vs++List.replicate n undef)[t]?.getD undef)
 | [],vs,n,t,h=>by
  rw[h.GO];have:((([]:List Value)++List.replicate n undef)[t]?.getD undef)=undef:=AB;rw[this];exact V.tuple' .nil
 | x::xs,vs,n,t,h=>by
  obtain⟨u,us,rfl,h1,h2⟩:=h.cases;cases t with
  | zero=>assumption
  | succ t=>simpa[Rr] using R4 xs us n t h2
theorem Pj {P:Program} {fn:Func} {tmps:Array Value} {R:Ending->World->Prop} {g:AP}:∀(Ds:List Nat) (w:World),Ds.Nodup->(∀D∈Ds,w.heap[D]?=some (.deferred (some []))) ->
  (∀w',(∀k,k∉Ds->w'.heap[k]?=w.heap[k]?)->w'=Ds.foldl (λw D=>w.putObj D (.deferred none)) w->LeavesIn (FW none) 0 P fn tmps R [] .returning w')->LeavesInM (FW none) 0 P fn tmps R (Ds.map ADe) .returning w
 | [],w,_,_,h=>h w (λ_ _=>rfl) rfl
 | D::Ds,w,hn,hd,h=>by
  simp only[S7] at hn;refine⟨AD,.inl ⟨D,_,rfl,run_takeDeferred (hd D (Li ..)),?_⟩⟩;refine Pj (g:=g) Ds _ hn.2 (λD' hD'=>?_) λw' hw hw'=>?_
  all_goals grind[World.putObj_heap_other]
theorem u7 {E:Env} {L:BI} {g g':AP} {w:World} {s:AQ} (Qh:∀id k,g.blk id=some k->k<w.heap.size) (htl:∀t l,g.tok t=some l->l.b<w.heap.size) (hml:∀id k,g.mp id=some k->k<w.heap.size) :
  ∀(Ds:List Nat) (w':World),(∀D∈Ds,w.heap.size<=D/\Zp g' D)->Inv E g' w' s->Ext L g w g' w' ->
   Inv E g' (Ds.foldl (λw D=>w.putObj D (.deferred none)) w') s/\Ext L g w g' (Ds.foldl (λw D=>w.putObj D (.deferred none)) w') /\
   ∀x v,V g' w' x v->V g' (Ds.foldl (λw D=>w.putObj D (.deferred none)) w') x v
 | [],_,_,hi,he=>⟨hi,he,λ_ _ h=>h⟩
 | D::Ds,w',hd,hi,he=>by
  obtain⟨a,b⟩:=hd D (Li ..);obtain⟨r1,r2,r3⟩:=u7 Qh htl hml Ds (w'.putObj D (.deferred none)) (λD' h=>hd D' (FP _ h)) (hi.AG5 b _) (he.AG5 a b Qh htl hml _);exact⟨r1,r2,λx v h=>r3 x v (h.put b _)⟩
theorem Kf {E:Env} {cf:BI->Cu} {n:Nat} {L:BI} {f:FuncId} {fn:Func} {args:List AV} {s s':AQ} {v:AV} {g:AP} {w:World} {vs:List Value} {body:Code} (TL:IE E L (cf L)) (ie:E.P.follows .mixedOrders=true) (hbk:∀k t,E.back k=some t->XI E.P k t)
  (hfn:E.P.funcs[f]?=some fn) (hbody:fn.body=some body) (LK:Eg L.pl body=true) (hN:args.length<=fn.ntmps)
  (hI:Inv E g w s) (hargs:VL g w args vs) (h:Jo E cf n fn L args s=some (v,s')) :
  Calls E.P f vs.toArray w λe w'=>∃v' g',e=.returned v'/\V g' w' v v'/\Ext L g w g' w'/\Inv E g' w' s':=by
 unfold Jo at h;rw[hbody] at h;simp only at h;refine(callsIn_wide (n:=0)).1 (callsIn_of_wp_marks (F:=FW none) hfn hbody Ai ?_ rfl)
 have hs:l7 E g w ⟨fn.ntmps,Rr args,s⟩ { tmps:=vs.toArray++Array.replicate (fn.ntmps-vs.toArray.size) undef,defers:=[] }:=by
  refine⟨hI,?_,λt=>?_⟩
  .have:=hargs.len
   grind
  .have:=R4 args vs (fn.ntmps-vs.length) t hargs
   simp_all[Array.getElem?_append,List.getElem?_append,Array.getElem?_replicate,List.getElem?_replicate]
 split at h
 .grind
 .rename_i o st hne hev
  split at h
  .rename_i rs hrs
   simp only[BN,BT] at h;obtain⟨rfl,rfl⟩:=h;refine(p9 TL ie hbk n none body _ _ _ (.inl rfl) LK hev).1 g w _ _ hs λa' w' g' q1 q2 q3 q4=>?_
   have fin:LeavesInM (FW none) 0 E.P fn a'.tmps (λe w'=>∃v' g',e=.returned v'/\V g' w' (JB rs) v'/\Ext L g w g' w'/\Inv E g' w' st.s) a'.defers .returning w':=by
    obtain⟨Ds,d1,d2,d3⟩:=q2;simp only[Gy] at d1;rw[d1];refine Pj (g:=g') Ds w' d2 (λD hD=>(d3 D hD).2.1) λw'' _ hw''=>?_
    obtain⟨r1,r2,r3⟩:=u7 (E:=E) (L:=L) (g:=g) (g':=g') (w:=w) (s:=st.s) (λid k hk=>hI.E5 hk) (λt l hl=>hI.Hg hl) (λid k hk=>hI.PS hk) Ds w' (λD hD=>⟨(d3 D hD).1,(d3 D hD).2.2⟩) q1.inv q3;rw[<-hw''] at r1 r2 r3;have q1':l7 E g' w'' st a':=⟨r1,q1.size,λt=>r3 _ _ (q1.tmps t)⟩;obtain⟨u,x1,x2⟩:=Wn q1' hrs;exact⟨u,x1,u,g',rfl,x2,r2,r1⟩
   cases o with
   | norm=>exact fin
   | exit id=>grind
   | ret=>exact fin
  grind
 grind
theorem Ext.A6 {L L':BI} {g g':AP} {w w':World} (h:Ext L g w g' w') (h1:L'.ro=L.ro) (h2:L'.rt=L.rt):Ext L' g w g' w':=
 {os:=h.os,tape:=h.tape,output:=h.output,size:=h.size,mono:=h.mono,cell:=h.cell,blk:=h.blk,dead:=h.dead,shape:=h.shape,tok:=h.tok,out:=h.out,HZ:=h.HZ,LC:=h.LC,DM:=h.DM,mp:=h.mp,LB:=h.LB
  F2:=λid b hb=>⟨λhlt=>(h.F2 id b hb).1 AA,(h.F2 id b hb).2⟩
  Ge:=λid b hb hlt=>h.Ge id b hb AA
  F1:=λt l hl hlt=>h.F1 t l hl AA }
def Mr (E:Env) (f:FuncId) (T:BI->List AV->AQ->Option (AV×AQ)):Prop:=
 ∀(L:BI) (args:List AV) (s s':AQ) (v:AV) (g:AP) (w:World) (vs:List Value),T L args s=some (v,s')->Inv E g w s->VL g w args vs ->
  (∃fn,E.P.funcs[f]?=some fn/\fn.body.isSome=true/\(fn.name== "runtime.NumGoroutine")=false) /\
  Calls E.P f vs.toArray w λe w'=>∃v' g',e=.returned v'/\V g' w' v v'/\Ext L g w g' w'/\Inv E g' w' s'
structure Good (E:Env):Prop where
 mix:E.P.follows .mixedOrders=true
 plans:∀(f:FuncId) (fn:Func) (body:Code),E.P.funcs[f]?=some fn->fn.body=some body->Eg (E.plan f) body=true
 names:∀(f:FuncId) (fn:Func),E.P.funcs[f]?=some fn->fn.body.isSome=true->(fn.name== "runtime.NumGoroutine")=false
 cT:∀f T,E.told f=some T->Mr E f T
 R1:∀k t,E.back k=some t->XI E.P k t
 UE:∀f,E.clone f=true->E.told f=none->(∃fn,E.P.funcs[f]?=some fn/\fn.body.isSome=true) /\
  ∀(w:World) (base:Option Addr) (cap:Nat),Calls E.P f #[.slice base 0 cap] w λe w'=>∃b',e=.returned (.slice b' 0 0)/\(w'=w\/∃o,w'=PL w o)
theorem Zq {E:Env} {cf:BI->Cu} {n:Nat} {L:BI} {f:FuncId} {fn:Func} {args:List AV} {s s':AQ} {v:AV} {g:AP} {w:World} {vs:List Value} {body:Code} (hG:Good E) (TL:∀L,IE E L (cf L))
  (hfn:E.P.funcs[f]?=some fn) (hbody:fn.body=some body) (hI:Inv E g w s) (hargs:VL g w args vs) (h:EJ E cf n L f fn args s=some (v,s')) :
  Calls E.P f vs.toArray w λe w'=>∃v' g',e=.returned v'/\V g' w' v v'/\Ext L g w g' w'/\Inv E g' w' s':=by
 have LK:=hG.plans f fn body hfn hbody;unfold EJ at h;split at h
 .rename_i hN
  have pure:∀args',BK [] 0 0 args=some args'->JC E cf n f fn args' s=some (v,s')->Calls E.P f vs.toArray w λe w'=>∃v' g',e=.returned v'/\V g' w' v v'/\Ext L g w g' w'/\Inv E g' w' s':=by
   intro args' E6 h;have Zk:VL (AP.bare g.I) w args' vs:=FZ Pa.nil HK.bare _ _ _ E6 hargs;have hN':args'.length<=fn.ntmps:=by rw[Zk.len,<-hargs.len]; omega
   unfold JC at h;split at h
   .rename_i x s1 hb
    split at h
    .rename_i y hy
     simp only[BN,BT] at h;obtain⟨rfl,rfl⟩:=h;refine(Kf (TL _) hG.mix hG.R1 hfn hbody LK hN' hI.bare Zk hb).mono ?_;rintro e w' ⟨v',g',rfl,hv,hx,hi⟩;obtain⟨r1,r2,r3,r4⟩:=uv (L:=L) hI hx hi
     grind[Im]
    grind
   grind
  have write:∀L',L'.ro=L.ro->L'.rt=L.rt->L'.pl=E.plan f->(match Jo E cf n fn L' args s with|some (v,s')=>Hy (L.rr f) s.bs.length v s' | none=>none)=some (v,s') ->
    Calls E.P f vs.toArray w λe w'=>∃v' g',e=.returned v'/\V g' w' v v'/\Ext L g w g' w'/\Inv E g' w' s':=by
   intro L' e1 e2 e3 h;split at h
   .rename_i x s1 hb
    refine(Kf (TL _) hG.mix hG.R1 hfn hbody AB hN hI hargs hb).mono ?_
    grind[cQ]
   grind
  generalize E.kind f=k at h;cases k with
  | esc=>
   refine(Kf (TL _) hG.mix hG.R1 hfn hbody LK hN hI hargs h).mono ?_;rintro e w' ⟨v',g',rfl,hv,hx,hi⟩;exact⟨v',g',rfl,hv,hx.A6 rfl rfl,hi⟩
  | rd=>
   simp only at h;split at h
   .grind
   .split at h
    .rename_i x s1 hb
     split at h
     .rename_i y hy
      simp only[BN,BT] at h;obtain⟨rfl,rfl⟩:=h;refine(Kf (TL _) hG.mix hG.R1 hfn hbody LK hN hI hargs hb).mono ?_;rintro e w' ⟨v',g',rfl,hv,hx,hi⟩;obtain⟨r1,r2,r3,r4⟩:=AGz (L:=L) hI rfl rfl hx hi
      grind[Im]
     grind
    grind
  | im=>
   grind[HL]
  | st=>grind
 grind
theorem u9 {E:Env} (hG:Good E) {n:Nat} {cf:BI->Cu} (TL:∀L,IE E L (cf L)) (L:BI) :
  IE E L (λf args s=>match E.P.funcs[f]? with
   | some fn=>bif E.clone f then N9 E L f args s (EJ E cf n L f fn args s) else EJ E cf n L f fn args s
   | none=>none):=by
  intro f args s s' v g w vs h hI hargs;simp only at h;split at h
  .rename_i fn hfn
   have enter:EJ E cf n L f fn args s=some (v,s')->(∃fn,E.P.funcs[f]?=some fn/\fn.body.isSome=true/\(fn.name== "runtime.NumGoroutine")=false) /\
     Calls E.P f vs.toArray w λe w'=>∃v' g',e=.returned v'/\V g' w' v v'/\Ext L g w g' w'/\Inv E g' w' s':=by
    intro h;cases hb:fn.body with
    | none=>
     grind[EJ,Jo,JC]
    | some body=>
     refine⟨⟨fn,hfn,AB,hG.names f fn hfn AB⟩,?_⟩
     grind[Zq]
   cases E6:E.clone f with
   | true=>
    rw[E6] at h;simp only[AN,N9] at h;cases ht:E.told f with
    | some T=>
     rw[ht] at h;exact hG.cT f T ht L args s s' v g w vs h hI hargs
    | none=>
     rw[ht] at h;simp only at h;cases he:Jp args with
     | false=>grind
     | true=>
      rw[he] at h;simp only[AN,BN,BT] at h;obtain⟨rfl,rfl⟩:=h;obtain⟨⟨fn',k1,k2⟩,k3⟩:=hG.UE f E6 ht;refine⟨⟨fn',k1,k2,hG.names f fn' k1 k2⟩,?_⟩;unfold Jp at he;split at he
      .rename_i x
       obtain⟨u,us,rfl,h1,h2⟩:=hargs.cases;have:=h2.GO;subst this;split at he
       .rename_i hr
        obtain⟨base,cap,b,o,sz,q,rfl,_,_⟩:=Ef h1 hr;refine(k3 w base cap).mono ?_;rintro e w' ⟨b',rfl,hw⟩;have hv:∀g w',V g w' (.AE []) (.slice b' 0 0):=λg w'=>V.AE (rows:=[]) (b:=0) (o:=0) (sz:=0) (f:=λ_ _=>undef) EU.nil
        rcases hw with rfl|⟨ob,rfl⟩
        .grind[Ext.refl]
        .obtain⟨r1,r2⟩:=Inv.lZ (L:=L) hI ob
         grind
       grind
      grind
   | false=>
    grind
  grind
theorem Kg {E:Env} (hG:Good E):∀(n:Nat) (L:BI),IE E L (Dw E n L)
 | 0,L=>by intro f args s s' v g w vs h; grind[Dw]
 | n+1,L=>λf args s s' v g w vs h hI hargs=>u9 hG (n:=n) (Kg hG n) L f args s s' v g w vs Ba hI hargs
end Go.Tel
