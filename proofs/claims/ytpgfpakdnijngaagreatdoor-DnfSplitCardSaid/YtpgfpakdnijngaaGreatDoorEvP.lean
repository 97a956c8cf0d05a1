/-
  Code: each piece that the evaluator answers is walked as it says.
-/
import Derived.Test.YtpgfpakdnijngaaGreatDoorEvO
set_option linter.all false
namespace Go.Tel
def Mq (rd:Option Nat) (P:Program) (c:Code) (Q:Exit->Act->World->Prop) (a:Act) (w:World):Prop:=
 ∀(b:Frame) (k:List Item) (cs:List Frame),b.roundOf=(FW rd).round->(FW rd).fn b.fn->(FW rd).room (cs.length+1+0) ->
  ∃e a' w',Q e a' w'/\ArrivesIn (Machine.fenced P (FW rd)) P (lone (b.atR a (.code c::.inLoop c::k)) cs w) b k cs e a' w'
theorem Mq.wp {rd:Option Nat} {P:Program} {c:Code} {Q:Exit->Act->World->Prop} {a:Act} {w:World} (h:Mq rd P c Q a w):(Code.loop c).wpIn (FW rd) 0 P Q a w:=by
 intro b k cs hro hb hr;obtain⟨e,a',w',hq,bG⟩:=h b k cs hro hb hr;exact⟨e,a',w',hq,.of_steps (.one (fenced_calm hb hr rfl) stepR_loop) bG⟩
theorem Mq.round {rd:Option Nat} {P:Program} {c:Code} {Q:Exit->Act->World->Prop} {a:Act} {w:World} (h:c.wpIn (FW rd) 0 P (Exit.then (Mq rd P c Q) Q) a w):Mq rd P c Q a w:=by
 intro b k cs hro hb hr;obtain⟨e,a₁,w₁,hq,bG⟩:=h b (.inLoop c::k) cs hro hb hr;cases e with
 | normal=>
  obtain⟨e₂,a₂,w₂,hq₂,ANo⟩:=hq b k cs hro hb hr;exact⟨e₂,a₂,w₂,hq₂,.of_steps (StepsIn.trans bG (.one (fenced_calm hb hr rfl) stepR_inLoop)) ANo⟩
 | exit id=>exact⟨_,a₁,w₁,hq,.pass (x:=.inLoop c) rfl (λ_ _=>.inl AD) bG⟩
 | goto l=>exact⟨_,a₁,w₁,hq,.pass (x:=.inLoop c) rfl (λ_ _=>.inl AD) bG⟩
 | ret=>exact⟨_,a₁,w₁,hq,.pass (x:=.inLoop c) rfl (λ_ _=>.inl AD) bG⟩
 | panic ch=>exact⟨_,a₁,w₁,hq,.pass (x:=.inLoop c) rfl (λ_ _=>.inl AD) bG⟩
 | outgrown=>exact⟨_,a₁,w₁,hq,.pass (x:=.inLoop c) rfl (λ_ _=>.inl AD) bG⟩
def Out.tj:Out->Exit
 | .norm=>.normal
 | .exit id=>.exit id
 | .ret=>.ret
def bH (E:Env) (L:BL) (st:St) (o:Out) (st':St) (W:(Exit->Act->World->Prop)->Act->World->Prop):Prop:=
 ∀(g:AP) (w:World) (a:Act) (Q:Exit->Act->World->Prop),kT E g w st a ->
  (∀a' w' g',kT E g' w' st' a'->Marks w.heap.size a.defers g' w' a'.defers->Ext L g w g' w'->st'.N=st.N->Q o.tj a' w')->W Q a w
def recL (fn:FuncId) (tmps:Array Value) (ps:Array Tmp) (ca cb:Code) (D:Nat):Loop:={ state:=.ready,pending:=none,fn,tmps,params:=ps,assign:=ca,body:=cb,defers:=D }
set_option maxHeartbeats 1000000 in
theorem oP {E:Env} {cf:BL->Cx} {L:BL} (Sv:H7 E L (cf L)) (gH:E.P.follows .mixedOrders=true) (hbk:∀k t,E.back k=some t->Wc E.P k t) :
  ∀(n:Nat) (rd:Option Nat) (c:Code) (st st':St) (o:Out),(rd=none\/PB c=true)->Ef L.pl c=true->MZ E cf n L c st=some (o,st') ->
   bH E L st o st' (λQ=>c.wpIn (FW rd) 0 E.P Q)/\∀b,c=.loop b->bH E L st o st' (λQ=>Mq rd E.P b Q):=by
 intro n
 induction n with
 | zero=>grind[MZ]
 | succ n ih=>
  intro rd c st st' o hrf Kt h
  have done:∀(o':Out) {W:(Exit->Act->World->Prop)->Act->World->Prop},(∀Q a w,Q o'.tj a w->W Q a w)->some (o',st)=some (o,st')->bH E L st o st' W:=by
   intro o' W hW e g w a Q hs hQ
   grind[Marks.refl,Ext.refl]
  cases c with
  | skip=>exact⟨done .norm (λ_ _ _ h=>wpIn_skip h) h,λ_ e=>by grind⟩
  | ret=>exact⟨done .ret (λ_ _ _ h=>wpIn_ret h) h,λ_ e=>by grind⟩
  | exit id=>exact⟨done (.exit id) (λ_ _ _ h=>wpIn_exit h) h,λ_ e=>by grind⟩
  | region id ops draw=>
   refine⟨?_,λ_ e=>by grind⟩;cases draw with
   | false=>
    simp only[MZ] at h;split at h
    .rename_i Gb h1
     simp only[BN,BU] at h;obtain⟨rfl,rfl⟩:=h;intro g w a Q hs hQ;refine wpIn_region ?_;have:=gL (rd:=rd) (Q:=Q) Sv ops.toList.length 0 ops.toList st Gb a w g rfl rfl hs h1 (λa' w' g' q1 q2 q3 q4=>hQ a' w' g' q1 (by grind[Marks.refl]) q3 q4)
     grind[List.range_eq_range']
    grind
   | true=>
    simp only[MZ] at h;simp only[Ef,AH] at Kt
    have run:∀(k:Nat) (Gb:St),(match L.pl k with|some p=>TS ops p|none=>true)=true->KM E L (cf L) ops st (L.pl k)=some Gb->some (Out.norm,Gb)=some (o,st')->bH E L st o st' (λQ=>(Code.region id ops true).wpIn (FW rd) 0 E.P Q):=by
     intro k Gb hk h1 e;simp only[BN,BU] at e;obtain⟨rfl,rfl⟩:=e;cases hp:L.pl k with
     | none=>grind[KM]
     | some p=>
      rw[hp] at h1 hk;simp only[KM] at h1;simp only at hk;intro g w a Q hs hQ;exact gJ Sv gH hk hs.inv hs.size hs.tmps h1 λa' w' g' q1 q2 q3 q4 q5 q6=>hQ a' w' g' ⟨q4,q1,q5⟩ (by grind[Marks.refl]) q3 q6
    grind[sk]
  | seq x y=>
   refine⟨?_,λ_ e=>by grind⟩;simp only[Ef,AH] at Kt;have Tk:rd=none\/PB x=true:=hrf.imp (λx=>x) λe=>by grind[PB]
   have Ng:rd=none\/PB y=true:=hrf.imp (λx=>x) λe=>by grind[PB]
   simp only[MZ] at h;intro g w a Q hs hQ;refine wpIn_seq ?_;split at h
   .rename_i Gb h1
    refine(ih rd x st Gb .norm Tk Kt.1 h1).1 g w a _ hs λa' w' g' q1 q2 q3 q4=>?_
    exact(ih rd y Gb st' o Ng Kt.2 h).1 g' w' a' _ q1 λa'' w'' g'' r1 r2 r3 r4=>hQ a'' w'' g'' r1 (q2.trans r3 rfl q3.size r2) (q3.trans r3) (r4.trans q4)
   .rename_i hne
    refine(ih rd x st st' o Tk Kt.1 h).1 g w a _ hs λa' w' g' q1 q2 q3 q4=>?_
    have:=hQ a' w' g' q1 q2 q3 q4;cases o with
    | norm=>grind
    | exit id=>exact this
    | ret=>exact this
  | cond c x y=>
   refine⟨?_,λ_ e=>by grind⟩;simp only[Ef,AH] at Kt;simp only[MZ] at h;intro g w a Q hs hQ;split at h
   .rename_i t ht
    have hv:=Av hs.tmps c;rw[ht] at hv;refine wpIn_cond hv.DC ?_;cases t with
    | true=>exact(ih rd x st st' o (hrf.imp (λx=>x) λe=>by grind[PB]) Kt.1 h).1 g w a _ hs hQ
    | false=>exact(ih rd y st st' o (hrf.imp (λx=>x) λe=>by grind[PB]) Kt.2 h).1 g w a _ hs hQ
   grind
  | block id b=>
   refine⟨?_,λ_ e=>by grind⟩;simp only[Ef] at Kt;simp only[MZ] at h;intro g w a Q hs hQ;refine wpIn_block ?_;split at h
   .rename_i j Gb h1
    refine(ih rd b st Gb (.exit j) (hrf.imp (λx=>x) λe=>by assumption) Kt h1).1 g w a _ hs λa' w' g' q1 q2 q3 q4=>?_
    show if j=id then Q .normal a' w' else Q (.exit j) a' w'
    cases hj:Nat.beq j id with
    | true=>
     rw[hj] at h;simp only[AM,BN,BU] at h;obtain⟨rfl,rfl⟩:=h;rw[if_pos (CC hj)];exact hQ a' w' g' q1 q2 q3 q4
    | false=>
     rw[hj] at h;simp only[AK,BN,BU] at h;obtain⟨rfl,rfl⟩:=h;rw[if_neg (Nat.ne_of_beq_eq_false hj)];exact hQ a' w' g' q1 q2 q3 q4
   .rename_i hne
    refine(ih rd b st st' o (hrf.imp (λx=>x) λe=>by assumption) Kt h).1 g w a _ hs λa' w' g' q1 q2 q3 q4=>?_
    have:=hQ a' w' g' q1 q2 q3 q4;cases o with
    | norm=>exact this
    | exit id=>grind
    | ret=>exact this
  | loop b=>
   have hpb:Ef L.pl b=true:=Be;have hrb:rd=none\/PB b=true:=hrf.imp (λx=>x) λe=>by assumption
   have hlw:bH E L st o st' (λQ=>Mq rd E.P b Q):=by
    simp only[MZ] at h;intro g w a Q hs hQ;refine Mq.round ?_;split at h
    .rename_i Gb h1
     refine(ih rd b st Gb .norm hrb hpb h1).1 g w a _ hs λa' w' g' q1 q2 q3 q4=>?_
     exact(ih rd (.loop b) Gb st' o hrf Kt h).2 b rfl g' w' a' _ q1 λa'' w'' g'' r1 r2 r3 r4=>hQ a'' w'' g'' r1 (q2.trans r3 rfl q3.size r2) (q3.trans r3) (r4.trans q4)
    .rename_i hne
     refine(ih rd b st st' o hrb hpb h).1 g w a _ hs λa' w' g' q1 q2 q3 q4=>?_
     have:=hQ a' w' g' q1 q2 q3 q4;cases o with
     | norm=>grind
     | exit id=>exact this
     | ret=>exact this
   exact⟨λg w a Q hs hQ=>(hlw g w a Q hs hQ).wp,λb' e=>by grind⟩
  | _=>simp[MZ] at h
def AAe (tmps:Array Value):ResultVar->Sem Value
 | .tmp t=>pure (tmps.getD t undef)
 | .cell x t=>do loadVar t (<-asAddr (tmps.getD x undef))
theorem gS (fn:Func) (tmps:Array Value):results fn tmps=(do let vs <-fn.results.mapM (AAe tmps); pure (if h:vs.size=1 then vs[0] else .tuple vs)):=by
 rfl
theorem gT {E:Env} {g:AP} {w:World} {st:St} {a:Act} (hs:kT E g w st a) {r:ResultVar} {v:AV} (h:Na E st r=some v) :
  ∃u,(AAe a.tmps r).run E.P w=.ok u w/\V g w v u:=by
 cases r with
 | tmp t=>
  simp[Na] at h; subst h;exact⟨_,rfl,hs.tmps t⟩
 | cell x t=>
  simp only[Na] at h;obtain⟨u,h1,h2⟩:=Ra hs.inv (hs.tmps x) h;refine⟨u,?_,h2⟩;simp only[AAe];generalize a.tmps.getD x undef=q at h1 ⊢;simp only[Instr.loadAt] at h1;cases q with
  | pointer p=>
   cases p with
   | none=>simp_all[Instr.sureAddr]
   | some p=>assumption
  | _=>simp_all[Instr.sureAddr]
theorem Rk {E:Env} {g:AP} {w:World} {st:St} {a:Act} (hs:kT E g w st a):∀(rs:List ResultVar) (vs:List AV),Fz E st rs=some vs ->
  ∃us,(rs.mapM (AAe a.tmps)).run E.P w=.ok us w/\VL g w vs us
 | [],vs,h=>by
  simp[Fz] at h; subst h;exact⟨[],AD,.nil⟩
 | r::rs,vs,h=>by
  simp only[Fz] at h;split at h
  .rename_i v vs' h1 h2
   simp at h; subst h;obtain⟨u,k1,k2⟩:=gT hs h1;obtain⟨us,k3,k4⟩:=Rk hs rs vs' h2;refine⟨u::us,?_,.cons k2 k4⟩;simp[*]
  grind
theorem V6 {E:Env} {g:AP} {w:World} {st:St} {a:Act} {fn:Func} {vs:List AV} (hs:kT E g w st a) (h:Fz E st fn.results.toList=some vs) :
  ∃u,(results fn a.tmps).run E.P w=.ok u w/\V g w (I2 vs) u:=by
 obtain⟨us,h1,h2⟩:=Rk hs _ _ h
 have hr:(results fn a.tmps).run E.P w=.ok (if h:us.toArray.size=1 then us.toArray[0] else .tuple us.toArray) w:=by
  rw[gS,j8];simp[h1]
 refine⟨_,hr,?_⟩
 match vs,h2 with
 | [],h2=>
  have:=h2.GN
  grind[I2,V.tuple']
 | [v],h2=>
  obtain⟨u,us',rfl,k1,k2⟩:=h2.cases;have:=k2.GN
  grind[I2]
 | v1::v2::vs',h2=>
  have hl:=h2.len;simp only[Bt] at hl;rw[dif_neg AB];exact V.tuple' h2
theorem Rm {g:AP} {w:World}:∀(args:List AV) (vs:List Value) (n t:Nat),VL g w args vs->V g w (RZ args t) ((vs++List.replicate n undef)[t]?.getD undef)
 | [],vs,n,t,h=>by
  rw[h.GN];have:((([]:List Value)++List.replicate n undef)[t]?.getD undef)=undef:=AB;rw[this];exact V.tuple' .nil
 | x::xs,vs,n,t,h=>by
  obtain⟨u,us,rfl,h1,h2⟩:=h.cases;cases t with
  | zero=>assumption
  | succ t=>simpa[RZ] using Rm xs us n t h2
theorem PT {P:Program} {fn:Func} {tmps:Array Value} {R:Ending->World->Prop} {g:AP}:∀(Ds:List Nat) (w:World),Ds.Nodup->(∀D∈Ds,w.heap[D]?=some (.deferred (some []))) ->
  (∀w',(∀k,k∉Ds->w'.heap[k]?=w.heap[k]?)->w'=Ds.foldl (λw D=>w.putObj D (.deferred none)) w->LeavesIn (FW none) 0 P fn tmps R [] .returning w')->LeavesInM (FW none) 0 P fn tmps R (Ds.map ACj) .returning w
 | [],w,_,_,h=>h w (λ_ _=>rfl) rfl
 | D::Ds,w,hn,hd,h=>by
  simp only[Sh] at hn;refine⟨AD,.inl ⟨D,_,rfl,run_takeDeferred (hd D (LZ ..)),?_⟩⟩;refine PT (g:=g) Ds _ hn.2 (λD' hD'=>?_) λw' hw hw'=>?_
  all_goals grind[World.putObj_heap_other]
theorem tq {E:Env} {L:BL} {g g':AP} {w:World} {s:AQ} (QU:∀id k,g.blk id=some k->k<w.heap.size) (htl:∀t l,g.tok t=some l->l.b<w.heap.size) (hml:∀id k,g.mp id=some k->k<w.heap.size) :
  ∀(Ds:List Nat) (w':World),(∀D∈Ds,w.heap.size<=D/\Y4 g' D)->Inv E g' w' s->Ext L g w g' w' ->
   Inv E g' (Ds.foldl (λw D=>w.putObj D (.deferred none)) w') s/\Ext L g w g' (Ds.foldl (λw D=>w.putObj D (.deferred none)) w') /\
   ∀x v,V g' w' x v->V g' (Ds.foldl (λw D=>w.putObj D (.deferred none)) w') x v
 | [],_,_,hi,he=>⟨hi,he,λ_ _ h=>h⟩
 | D::Ds,w',hd,hi,he=>by
  obtain⟨a,b⟩:=hd D (LZ ..);obtain⟨r1,r2,r3⟩:=tq QU htl hml Ds (w'.putObj D (.deferred none)) (λD' h=>hd D' (FK _ h)) (hi.AF2 b _) (he.AF2 a b QU htl hml _);exact⟨r1,r2,λx v h=>r3 x v (h.put b _)⟩
theorem KV {E:Env} {cf:BL->Cx} {n:Nat} {L:BL} {f:FuncId} {fn:Func} {args:List AV} {s s':AQ} {v:AV} {g:AP} {w:World} {vs:List Value} {body:Code} (Sv:H7 E L (cf L)) (gH:E.P.follows .mixedOrders=true) (hbk:∀k t,E.back k=some t->Wc E.P k t)
  (hfn:E.P.funcs[f]?=some fn) (hbody:fn.body=some body) (Kt:Ef L.pl body=true) (hN:args.length<=fn.ntmps)
  (hI:Inv E g w s) (hargs:VL g w args vs) (h:Jj E cf n fn L args s=some (v,s')) :
  Calls E.P f vs.toArray w λe w'=>∃v' g',e=.returned v'/\V g' w' v v'/\Ext L g w g' w'/\Inv E g' w' s':=by
 unfold Jj at h;rw[hbody] at h;simp only at h;refine(callsIn_wide (n:=0)).1 (callsIn_of_wp_marks (F:=FW none) hfn hbody Ap ?_ rfl)
 have hs:kT E g w ⟨fn.ntmps,RZ args,s⟩ { tmps:=vs.toArray++Array.replicate (fn.ntmps-vs.toArray.size) undef,defers:=[] }:=by
  refine⟨hI,?_,λt=>?_⟩
  .have:=hargs.len
   grind
  .have:=Rm args vs (fn.ntmps-vs.length) t hargs
   simp_all[Array.getElem?_append,List.getElem?_append,Array.getElem?_replicate,List.getElem?_replicate]
 split at h
 .grind
 .rename_i o st hne hev
  split at h
  .rename_i rs hrs
   simp only[BN,BU] at h;obtain⟨rfl,rfl⟩:=h;refine(oP Sv gH hbk n none body _ _ _ (.inl rfl) Kt hev).1 g w _ _ hs λa' w' g' q1 q2 q3 q4=>?_
   have fin:LeavesInM (FW none) 0 E.P fn a'.tmps (λe w'=>∃v' g',e=.returned v'/\V g' w' (I2 rs) v'/\Ext L g w g' w'/\Inv E g' w' st.s) a'.defers .returning w':=by
    obtain⟨Ds,d1,d2,d3⟩:=q2;simp only[HO] at d1;rw[d1];refine PT (g:=g') Ds w' d2 (λD hD=>(d3 D hD).2.1) λw'' _ hw''=>?_
    obtain⟨r1,r2,r3⟩:=tq (E:=E) (L:=L) (g:=g) (g':=g') (w:=w) (s:=st.s) (λid k hk=>hI.FI hk) (λt l hl=>hI.HU hl) (λid k hk=>hI.PD hk) Ds w' (λD hD=>⟨(d3 D hD).1,(d3 D hD).2.2⟩) q1.inv q3;rw[<-hw''] at r1 r2 r3;have q1':kT E g' w'' st a':=⟨r1,q1.size,λt=>r3 _ _ (q1.tmps t)⟩;obtain⟨u,x1,x2⟩:=V6 q1' hrs;exact⟨u,x1,u,g',rfl,x2,r2,r1⟩
   cases o with
   | norm=>exact fin
   | exit id=>grind
   | ret=>exact fin
  grind
 grind
theorem Ext.A6 {L L':BL} {g g':AP} {w w':World} (h:Ext L g w g' w') (h1:L'.ro=L.ro) (h2:L'.rt=L.rt):Ext L' g w g' w':=
 {os:=h.os,tape:=h.tape,output:=h.output,size:=h.size,mono:=h.mono,cell:=h.cell,blk:=h.blk,dead:=h.dead,shape:=h.shape,tok:=h.tok,out:=h.out,HR:=h.HR,K3:=h.K3,DJ:=h.DJ,mp:=h.mp,K2:=h.K2
  F1:=λid b hb=>⟨λhlt=>(h.F1 id b hb).1 AA,(h.F1 id b hb).2⟩
  Ga:=λid b hb hlt=>h.Ga id b hb AA
  F0:=λt l hl hlt=>h.F0 t l hl AA }
def Ql (E:Env) (f:FuncId) (T:BL->List AV->AQ->Option (AV×AQ)):Prop:=
 ∀(L:BL) (args:List AV) (s s':AQ) (v:AV) (g:AP) (w:World) (vs:List Value),T L args s=some (v,s')->Inv E g w s->VL g w args vs ->
  (∃fn,E.P.funcs[f]?=some fn/\fn.body.isSome=true/\(fn.name== "runtime.NumGoroutine")=false) /\
  Calls E.P f vs.toArray w λe w'=>∃v' g',e=.returned v'/\V g' w' v v'/\Ext L g w g' w'/\Inv E g' w' s'
structure Good (E:Env):Prop where
 mix:E.P.follows .mixedOrders=true
 plans:∀(f:FuncId) (fn:Func) (body:Code),E.P.funcs[f]?=some fn->fn.body=some body->Ef (E.plan f) body=true
 names:∀(f:FuncId) (fn:Func),E.P.funcs[f]?=some fn->fn.body.isSome=true->(fn.name== "runtime.NumGoroutine")=false
 kV:∀f T,E.told f=some T->Ql E f T
 Tg:∀k t,E.back k=some t->Wc E.P k t
 Y1:∀f,E.clone f=true->E.told f=none->(∃fn,E.P.funcs[f]?=some fn/\fn.body.isSome=true) /\
  ∀(w:World) (base:Option Addr) (cap:Nat),Calls E.P f #[.slice base 0 cap] w λe w'=>∃b',e=.returned (.slice b' 0 0)/\(w'=w\/∃o,w'=O7 w o)
theorem Y5 {E:Env} {cf:BL->Cx} {n:Nat} {L:BL} {f:FuncId} {fn:Func} {args:List AV} {s s':AQ} {v:AV} {g:AP} {w:World} {vs:List Value} {body:Code} (hG:Good E) (Sv:∀L,H7 E L (cf L))
  (hfn:E.P.funcs[f]?=some fn) (hbody:fn.body=some body) (hI:Inv E g w s) (hargs:VL g w args vs) (h:EJ E cf n L f fn args s=some (v,s')) :
  Calls E.P f vs.toArray w λe w'=>∃v' g',e=.returned v'/\V g' w' v v'/\Ext L g w g' w'/\Inv E g' w' s':=by
 have Kt:=hG.plans f fn body hfn hbody;unfold EJ at h;split at h
 .rename_i hN
  have pure:∀args',BR [] 0 0 args=some args'->I3 E cf n f fn args' s=some (v,s')->Calls E.P f vs.toArray w λe w'=>∃v' g',e=.returned v'/\V g' w' v v'/\Ext L g w g' w'/\Inv E g' w' s':=by
   intro args' Ff h;have Yy:VL (AP.bare g.I) w args' vs:=GX PL.nil HA.bare _ _ _ Ff hargs;have hN':args'.length<=fn.ntmps:=by rw[Yy.len,<-hargs.len]; omega
   unfold I3 at h;split at h
   .rename_i x s1 hb
    split at h
    .rename_i y hy
     simp only[BN,BU] at h;obtain⟨rfl,rfl⟩:=h;refine(KV (Sv _) hG.mix hG.Tg hfn hbody Kt hN' hI.bare Yy hb).mono ?_;rintro e w' ⟨v',g',rfl,hv,hx,hi⟩;obtain⟨r1,r2,r3,r4⟩:=tY (L:=L) hI hx hi
     grind[IZ]
    grind
   grind
  have write:∀L',L'.ro=L.ro->L'.rt=L.rt->L'.pl=E.plan f->(match Jj E cf n fn L' args s with|some (v,s')=>Hs (L.rr f) s.bs.length v s' | none=>none)=some (v,s') ->
    Calls E.P f vs.toArray w λe w'=>∃v' g',e=.returned v'/\V g' w' v v'/\Ext L g w g' w'/\Inv E g' w' s':=by
   intro L' e1 e2 e3 h;split at h
   .rename_i x s1 hb
    refine(KV (Sv _) hG.mix hG.Tg hfn hbody AB hN hI hargs hb).mono ?_
    grind[bD]
   grind
  generalize E.kind f=k at h;cases k with
  | esc=>
   refine(KV (Sv _) hG.mix hG.Tg hfn hbody Kt hN hI hargs h).mono ?_;rintro e w' ⟨v',g',rfl,hv,hx,hi⟩;exact⟨v',g',rfl,hv,hx.A6 rfl rfl,hi⟩
  | rd=>
   simp only at h;split at h
   .grind
   .split at h
    .rename_i x s1 hb
     split at h
     .rename_i y hy
      simp only[BN,BU] at h;obtain⟨rfl,rfl⟩:=h;refine(KV (Sv _) hG.mix hG.Tg hfn hbody Kt hN hI hargs hb).mono ?_;rintro e w' ⟨v',g',rfl,hv,hx,hi⟩;obtain⟨r1,r2,r3,r4⟩:=AFv (L:=L) hI rfl rfl hx hi
      grind[IZ]
     grind
    grind
  | im=>
   grind[HB]
  | st=>grind
 grind
theorem uA {E:Env} (hG:Good E) {n:Nat} {cf:BL->Cx} (Sv:∀L,H7 E L (cf L)) (L:BL) :
  H7 E L (λf args s=>match E.P.funcs[f]? with
   | some fn=>bif E.clone f then PC E L f args s (EJ E cf n L f fn args s) else EJ E cf n L f fn args s
   | none=>none):=by
  intro f args s s' v g w vs h hI hargs;simp only at h;split at h
  .rename_i fn hfn
   have enter:EJ E cf n L f fn args s=some (v,s')->(∃fn,E.P.funcs[f]?=some fn/\fn.body.isSome=true/\(fn.name== "runtime.NumGoroutine")=false) /\
     Calls E.P f vs.toArray w λe w'=>∃v' g',e=.returned v'/\V g' w' v v'/\Ext L g w g' w'/\Inv E g' w' s':=by
    intro h;cases hb:fn.body with
    | none=>
     grind[EJ,Jj,I3]
    | some body=>
     refine⟨⟨fn,hfn,AB,hG.names f fn hfn AB⟩,?_⟩
     grind[Y5]
   cases Ff:E.clone f with
   | true=>
    rw[Ff] at h;simp only[AM,PC] at h;cases ht:E.told f with
    | some T=>
     rw[ht] at h;exact hG.kV f T ht L args s s' v g w vs h hI hargs
    | none=>
     rw[ht] at h;simp only at h;cases he:Jk args with
     | false=>grind
     | true=>
      rw[he] at h;simp only[AM,BN,BU] at h;obtain⟨rfl,rfl⟩:=h;obtain⟨⟨fn',k1,k2⟩,k3⟩:=hG.Y1 f Ff ht;refine⟨⟨fn',k1,k2,hG.names f fn' k1 k2⟩,?_⟩;unfold Jk at he;split at he
      .rename_i x
       obtain⟨u,us,rfl,h1,h2⟩:=hargs.cases;have:=h2.GN;subst this;split at he
       .rename_i hr
        obtain⟨base,cap,b,o,sz,q,rfl,_,_⟩:=Ed h1 hr;refine(k3 w base cap).mono ?_;rintro e w' ⟨b',rfl,hw⟩;have hv:∀g w',V g w' (.AE []) (.slice b' 0 0):=λg w'=>V.AE (rows:=[]) (b:=0) (o:=0) (sz:=0) (f:=λ_ _=>undef) ES.nil
        rcases hw with rfl|⟨ob,rfl⟩
        .grind[Ext.refl]
        .obtain⟨r1,r2⟩:=Inv.kL (L:=L) hI ob
         grind
       grind
      grind
   | false=>
    grind
  grind
theorem Rn {E:Env} (hG:Good E):∀(n:Nat) (L:BL),H7 E L (EC E n L)
 | 0,L=>by intro f args s s' v g w vs h; grind[EC]
 | n+1,L=>λf args s s' v g w vs h hI hargs=>uA hG (n:=n) (Rn hG n) L f args s s' v g w vs Be hI hargs
end Go.Tel
