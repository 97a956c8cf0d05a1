/-
  A region with a drawn order: one operation more while a row is open; all of them.
-/
import Derived.Test.YtpgfpakdnijngaaGreatDoorEvF
set_option linter.all false
namespace Go.Tel
section
variable {rd:Option Nat} {E:Env} {L:BL} {cf:Cx} {ops:Array Oper} {p:Bl} {K N:Nat} {U0 Uf:Nat->AV} {σ:Nat->AQ} {ds:List Deferred} {g0:AP} {w0:World} {Q:Exit->Act->World->Prop}
theorem Open.more {P:Program} {q:AV} {X:Prop} {kf:JF} {Dj:Prop} {a:Act} {g:AP} {w wv:World} {d:Option Tmp} {v:Value} (h:Open P q X kf Dj a g w wv)
  (hd:d≠some kf.d) (hp:d≠some kf.p) (hi:∀t,kf.ix=.tmp t->d≠some t) (hv:∀t,kf.v=.tmp t->d≠some t):Open P q X kf Dj (a.put d v) g w wv:=by
 obtain⟨b,cap,len,vz,e,fz,xv,kk,elem,ti,h1,h2,h3,h4,h5,h6,h7,h8,h9,h10,h11,h12,h13⟩:=h;refine⟨b,cap,len,vz,e,fz,xv,kk,elem,ti,h1,h2,h3,?_,?_,?_,h7,h8,h9,h10,h11,h12,λq=>?_⟩
 all_goals grind[Eg]
theorem oL (R:Vw E L cf ops p K N U0 Uf σ) {D:Nat->Prop} (hD:Down ops D) {a:Act} {k:Nat} {g:AP} {w wv:World} (h:Core E L ops p K N U0 Uf σ ds g0 w0 D a k g wv)
  {i r j x:Nat} {o o1 o2:Oper} {kf:JF} (hi:ops[i]?=some o) (Ht:p.cls[i]?=some (.fa r j x)) (h1:ops[j]?=some o1) (h2:ops[x]?=some o2) (hf:fused o o1 o2=some kf) (oK:D i) (hnx:¬ D x) (hsh:Nw ops p D i)
  (hop:Open E.P (Uf kf.d) (QX E L ops i j x=true) kf (D j) a g w wv)
  {m:Nat} {om:Oper} (hm:ops[m]?=some om) (hn:¬ D m) (hr:∀e∈om.after,Region.binds .any e=true->D e.on) :
  wpOpIn (FW rd) 0 E.P ops Q m (J E L ops p K N U0 Uf σ ds g0 w0 (λi=>D i\/i=m)) a w:=by
 obtain⟨o1',o2',kf',aM,h2',c1,c2,hf',u1,u2,u3,p1,p2,p3,v0,PJ,hvd,hvp⟩:=R.tF i o r j x hi Ht;rw[h1] at aM; simp at aM; subst aM;rw[h2] at h2'; simp at h2'; subst h2';rw[hf] at hf'; simp at hf'; subst hf';obtain⟨f1,f2,f3,f4,f5,f6,f7,f8,f9,f10,f11⟩:=GR hf;have hmi:m≠i:=λe=>hn (e ▸ oK)
 have Ey:∀(i:Nat) o ts d id,ops[i]?=some o->p.cls[i]?=some (.h ts)->o.dst=some d->KC (Uf d)=some id->¬ D i->i≠m->g.DJ id:=
  λi o ts d id ho Ht hd hid hnD _=>h.DJ i o ts d id ho Ht hd hid hnD
 have hxm:x≠m->¬ (D x\/x=m):=λe q=>q.elim hnx e
 by_cases hmj:m=j
 .subst hmj
  rw[h1] at hm; simp at hm; subst hm;obtain⟨b,cap,len,vz,e,fz,xv,kk,elem,ti,k1,k2,k3,k4,k5,k6,k7,k8,k9,zw,sF,zx,k13⟩:=hop;have hrun:(execOp a.eval o1).run E.P w=.ok (.value (.pointer (some ⟨b,len*ti.size,none⟩))) w:=by simp[*,execOp,Instr.indexAt,asIntOf,run_underlying,run_sizeOf,DQ]
  have hxj:x≠m:=λe=>by grind
  have hs:Nw ops p (λi=>D i\/i=m) i:=Nw.more h1 (λ_ _ _ e=>by grind) hsh;refine Nc h1 f8.2.1 hrun ⟨k,g,wv,h.push R h1 (.inl ⟨kQ c1,rfl⟩) h.ext (λ_ _ q=>q) h.inv (λd hd=>?_) Ey,.inr ?_⟩
  .rw[f4] at hd; simp at hd; subst hd; rw[hvp]; exact .Gh
  .refine⟨i,o,r,m,x,o1,o2,kf,hi,Ht,h1,h2,hf,.inl oK,hxm hxj,hs,b,cap,len,vz,e,fz,xv,kk,elem,ti,k1,k2,k3,?_,?_,?_,k7,k8,k9,zw,sF,zx,λ_=>?_⟩
   .grind[Eg]
   .rw[f4,Eg (λt ht hdt=>?_)]
    .omega
    .simp at hdt
     subst hdt;have:kf.p∈GQ o1:=DV.2 (by grind[Op.operands]);rcases R.read m m o1 o1 kf.p h1 h1 f4 (I9 _ this) with ⟨q1,_⟩|⟨_,q2⟩
     .grind[has]
     .exact absurd (R.tH m o1 m h1 q2) (Oy _)
   .grind[Eg]
   .rw[f4]; exact Jo (by rw[h.size]; exact R.tG m o1 kf.p h1 f4)
 by_cases hmx:m=x
 .subst hmx
  rw[h2] at hm; simp at hm; subst hm;have hDj:D j:=R.Lo hD m o2 j h2 hr p2;obtain⟨b,cap,len,vz,e,fz,xv,kk,elem,ti,k1,k2,k3,k4,k5,k6,k7,k8,k9,zw,sF,zx,k13⟩:=hop;have hpt:=k13 hDj;have zy:w.heap[b]?=some (.cells ⟨vz⟩ e fz):=by grind[Bh]
  have hrun:(execOp a.eval o2).run E.P w=.ok .skip wv:=by
   obtain⟨dst,op,type,pos,after,guard⟩:=o2;simp only at f5;subst f5;have hst:=FZ (P:=E.P) (b:=b) (o:=len*ti.size) (e:=e) sF.2 xv.cells.toList 0 w vz k8 zy AB
   grind[EX,Lj,execOp,Instr.storeAt,Instr.sureAddr,storeVar,Sem.run_bind,Sem.run_pure,Result.andThen_ok,run_sizeOf]
  have hs:∀i',Nw ops p (λi=>D i\/i=m) i':=by
   intro i' q o' r' j' x' ho' K7 hi' hne;rcases hi' with hi' | hi'
   .by_cases e:q=i
    .grind
    .exact .inl (hsh q o' r' j' x' ho' K7 hi' e)
   grind
  refine K6 h2 (by grind[Region.wanted]) ?_;exact JK hrun ⟨k,g,wv,h.push R h2 (.inl ⟨kR c2,rfl⟩) h.ext (λ_ _ q=>q) h.inv (λd hd=>by grind) Ey,.inl ⟨rfl,hs⟩⟩
 obtain⟨hw1,zu⟩:=R.win i o r j x hi Ht m om hm hmi hmj hmx;have ACd:m∉D3 p i:=λq=>hn (R.Ml hD hi oK q)
 have tN:Yt ops p m=true:=by
  rcases hw1 with q|q|q
  .grind
  .exact absurd (R.Lo hD m om x hm hr q) hnx
  omega
 have dd:om.dst≠some kf.d:=λe=>hmi (R.dst m i om o kf.d hm hi e f2)
 have dp:om.dst≠some kf.p:=λe=>hmj (R.dst m j om o1 kf.p hm h1 e f4)
 have di:∀t,kf.ix=.tmp t->om.dst≠some t:=λt ht e=>ACd (zu t e (.inl (by grind[D9,DV,Op.operands])))
 have dv:∀t,kf.v=.tmp t->om.dst≠some t:=λt ht e=>ACd (zu t e (.inr (by grind[D9,DV,Op.operands])))
 have hag:=R.agree hD hm hn hr;have AAZ:Open E.P (Uf kf.d) (QX E L ops i j x=true) kf (D j\/j=m) a g w wv:=AB;unfold Yt at tN;split at tN
 .rename_i o' ts ho' hc
  rw[hm] at ho'; simp at ho'; subst ho';have hs:Nw ops p (λi=>D i\/i=m) i:=Nw.more hm (λ_ _ _ e=>by grind) hsh;obtain⟨v,hq,hv⟩:=R.qF m om ts k hm hc (h.tK R hD hm hn hr (.inl hc));rw[<-JJ hag] at hq;have ANZ:(∃x,om.op=.nilCheck x)\/(∃t x f,om.op=.fieldAddr t x f)\/(∃x,om.op=.move x):=AB;unfold FN at hq;split at hq
  .rename_i hg
   obtain⟨v',hrun,hV⟩:=tE ANZ h.inv h.tmps hq;refine K6 hm (DM h.tmps hg) ?_
   exact KQ (hrun w) ⟨k,g,wv,h.push R hm (.inl ⟨Qg hc,rfl⟩) h.ext (λ_ _ q=>q) h.inv (λd hd=>by grind) Ey,
    .inr ⟨i,o,r,j,x,o1,o2,kf,hi,Ht,h1,h2,hf,.inl oK,hxm (GK hmx),hs,AAZ.more dd dp di dv⟩⟩
  .rename_i hg
   simp only[BN] at hq;subst hq;refine Sx hm (DM h.tmps hg) ?_
   exact⟨k,g,wv,h.push R hm (.inl ⟨Qg hc,rfl⟩) h.ext (λ_ _ q=>q) h.inv (λd hd=>by grind[V.undef]) Ey,
    .inr ⟨i,o,r,j,x,o1,o2,kf,hi,Ht,h1,h2,hf,.inl oK,hxm (GK hmx),hs,AAZ.more dd dp di dv⟩⟩
  grind
 .rename_i o' r' ho' hc
  rw[hm] at ho'; simp at ho'; subst ho';have hs:Nw ops p (λi=>D i\/i=m) i:=Nw.more hm (λ_ _ _ e=>by grind) hsh;have hk:=h.now R hD hm hn hr (Kh hc);subst hk;obtain⟨v,hact,hv⟩:=R.wF m om r' hm hc;rw[<-OK hag] at hact;unfold OG at hact;split at hact
  .rename_i hg
   split at tN
   .rename_i t y z e
    rw[PA] at hact;unfold nu at hact;rw[e] at hact;simp only at hact;obtain⟨dst,op,type,pos,after,guard⟩:=om;simp only at e;subst e;simp only[Ci] at hact;split at hact
    .rename_i s1 hst
     simp only[BN,BU] at hact;obtain⟨rfl,rfl⟩:=hact;obtain⟨id,b',vs',e',⟨off',hptr⟩,hb',he1,hi1,AXI⟩:=gD h.inv (Av h.tmps y) (Av h.tmps z) hst;obtain⟨b,cap,len,vz,e,fz,xv,kk,elem,ti,k1,k2,k3,k4,k5,k6,k7,k8,k9,zw,sF,zx,k13⟩:=AAZ
     have Yp:b'≠b:=by
      intro q;rcases zx with ⟨tk,tl,zx,AXJ⟩|⟨FO,AXK,n0,sz0,hq0,hb0,hX⟩
      .exact h.inv.DL id b' tk tl hb' zx (by rw[AXJ,q])
      .subst q
       have hid:=h.inv.FF id FO b' hb' hb0;refine R.mu i o r j x kf.d FO AXK n0 sz0 hX hi Ht f2 hq0 m _ r' t y z hm hc rfl id off' ?_ hid
       grind[KO,DV,Op.operands]
     have hrun:=AXI w (by grind[Bh]);refine K6 hm (DM h.tmps hg) ?_;refine JK (w':=BO w b' vs' e') (by grind[execOp,Sem.run_bind,Result.andThen_ok,Sem.run_pure]) ?_
     refine⟨r'+1,g,BO wv b' vs' e',h.push R hm (.inr ⟨Kh hc,rfl⟩) (h.ext.trans he1) (λ_ _ q=>q.mono he1) hi1 (λd hd=>by grind[V.undef]) Ey,
      .inr ⟨i,o,r,j,x,o1,o2,kf,hi,Ht,h1,h2,hf,.inl oK,hxm (GK hmx),hs,?_⟩⟩
     refine Open.more ⟨b,cap,len,vz,e,fz,xv,kk,elem,ti,k1,k2,k3,k4,k5,k6,k7,k8,?_,?_,sF,zx,k13⟩ dd dp di dv
     all_goals grind[Bh,Y0]
    grind
   grind
  .rename_i hg
   simp only[BN,BU] at hact;obtain⟨rfl,hst⟩:=hact;refine Sx hm (DM h.tmps hg) ?_
   exact⟨r'+1,g,wv,h.push R hm (.inr ⟨Kh hc,rfl⟩) h.ext (λ_ _ q=>q) (hst ▸ h.inv) (λd hd=>by grind[V.undef]) Ey,
    .inr ⟨i,o,r,j,x,o1,o2,kf,hi,Ht,h1,h2,hf,.inl oK,hxm (GK hmx),hs,AAZ.more dd dp di dv⟩⟩
  grind
 grind
theorem tP (R:Vw E L cf ops p K N U0 Uf σ) (Sv:H7 E L cf) {D:Nat->Prop} (hD:Down ops D) {a:Act} {w:World}
  (hnp:∀(i:Nat) o ts d id,ops[i]?=some o->p.cls[i]?=some (.h ts)->o.dst=some d->KC (Uf d)=some id->¬ g0.DJ id) (h:J E L ops p K N U0 Uf σ ds g0 w0 D a w)
  {m:Nat} {om:Oper} (hm:ops[m]?=some om) (hn:¬ D m) (hr:∀e∈om.after,Region.binds .any e=true->D e.on) :
  wpOpIn (FW rd) 0 E.P ops Q m (J E L ops p K N U0 Uf σ ds g0 w0 (λi=>D i\/i=m)) a w:=by
 obtain⟨k,g,wv,ANa,⟨rfl,hs⟩|⟨i,o,r,j,x,o1,o2,kf,hi,Ht,h1,h2,hf,oK,hnx,hsh,hop⟩⟩:=h
 .grind[aj]
 .exact oL R hD ANa hi Ht h1 h2 hf oK hnx hsh hop hm hn hr
def F5 (listed:Array Bool) (i:Nat):Prop:=listed.getD i false=true
theorem F5.set {listed:Array Bool} {m:Nat} (hm:m<listed.size):F5 (listed.setIfInBounds m true)=λi=>F5 listed i\/i=m:=by
 funext i
 apply propext;unfold F5
 by_cases h:i=m
 all_goals simp[*,GK]
theorem tQ {n m:Nat} {q q':Nat->Bool} (hm:m<n) (h1:∀i,q' i=true->q i=true) (h2:q m=true) (h3:q' m=false):(List.range n).countP q'<(List.range n).countP q:=by
 induction n with
 | zero=>omega
 | succ n ih=>
  rw[List.range_succ,Sd,Sd];have hle:(List.range n).countP q'<=(List.range n).countP q:=List.countP_mono_left λi _=>h1 i
  grind
theorem tR (R:Vw E L cf ops p K N U0 Uf σ) (Sv:H7 E L cf)
  (hnp:∀(i:Nat) o ts d id,ops[i]?=some o->p.cls[i]?=some (.h ts)->o.dst=some d->KC (Uf d)=some id->¬ g0.DJ id)
  (hQ:∀D a w,(∀i,i<ops.size->D i)->J E L ops p K N U0 Uf σ ds g0 w0 D a w->Q .normal a w) :
  ∀(fuel:Nat) (listed:Array Bool) (a:Act) (w:World),listed.size=ops.size->Down ops (F5 listed)->J E L ops p K N U0 Uf σ ds g0 w0 (F5 listed) a w ->
   (List.range ops.size).countP (λi=>!(listed.getD i false))<=fuel->wpAnyIn (FW rd) 0 E.P .any ops Q fuel listed a w:=by
 have done:∀(listed:Array Bool) (a:Act) (w:World),listed.size=ops.size->J E L ops p K N U0 Uf σ ds g0 w0 (F5 listed) a w->Region.ready .any ops listed=[]->Q .normal a w:=by
  intro listed a w hsz hJ hrd;refine hQ (F5 listed) a w ?_ hJ;intro i
  induction i using Nat.strongRecOn with
  | ind i ih=>
   intro hi;rcases Classical.em (F5 listed i) with x|x
   .exact x
   .exfalso
    have:i∈Region.ready .any ops listed:=mem_ready.2 ⟨by grind[F5],ops[i],AD,λe he hb=>by
      have:=R.AAS i ops[i] e AD he hb;exact ih e.on this AA⟩
    grind
 intro fuel
 induction fuel with
 | zero=>
  intro listed a w hsz hD hJ hc
  have hrd:Region.ready .any ops listed=[]:=by
   apply List.eq_nil_iff_forall_not_mem.2
   grind[mem_ready,List.countP_eq_zero]
  exact⟨hrd,done listed a w hsz hJ hrd⟩
 | succ fuel ih=>
  intro listed a w hsz hD hJ hc;refine⟨done listed a w hsz hJ,λm hmr=>?_⟩;obtain⟨h0,om,hm,hall⟩:=mem_ready.1 hmr;have hlt:=Cv hm;have ANb:m<listed.size:=AA;have h0':listed.getD m false=false:=AB;have hn:¬ F5 listed m:=by grind[F5]
  refine wpOpIn_mono (λa' w' hJ'=>?_) (tP R Sv hD hnp hJ hm hn hall);rw[<-F5.set ANb] at hJ';refine ih _ a' w' AB ?_ hJ' ?_
  .rw[F5.set ANb]
   intro i o e ho hi he hb;rcases hi with hi|rfl
   .exact .inl (hD i o e ho hi he hb)
   .rw[hm] at ho; simp at ho; subst ho
    exact .inl (hall e he hb)
  .have:=tQ (n:=ops.size) (m:=m) (q:=λi=>!(listed.getD i false)) (q':=λi=>!((listed.setIfInBounds m true).getD i false)) hlt (λi hi=>by
    have hne:i≠m:=λe=>by simp_all
    simp_all[GK]) AB (by simp[*])
   omega
theorem gG (R:Vw E L cf ops p K N U0 Uf σ) (Sv:H7 E L cf) (gH:E.P.follows .mixedOrders=true) {a:Act} {w:World} {g g1:AP} {id:Nat}
  (hnp:∀(i:Nat) o ts d id,ops[i]?=some o->p.cls[i]?=some (.h ts)->o.dst=some d->KC (Uf d)=some id->¬ g.DJ id)
  (h1:Ext L g w g1 w) (hI:Inv E g1 w (σ 0)) (hsz:a.tmps.size=N) (hU:∀t,V g1 w (U0 t) (a.tmps.getD t undef))
  (hpd:∀(i:Nat) o ts d id,ops[i]?=some o->p.cls[i]?=some (.h ts)->o.dst=some d->KC (Uf d)=some id->g1.DJ id)
  (hQ:∀a' w' g',a'.tmps.size=N->a'.defers=a.defers->Ext L g w g' w'->Inv E g' w' (σ K)->(∀t,V g' w' (Uf t) (a'.tmps.getD t undef))->Q .normal a' w') :
  (Code.region id ops true).wpIn (FW rd) 0 E.P Q a w:=by
 obtain⟨e1,i1⟩:=hI.drew (L:=L);refine wpIn_region_any gH (tR (ds:=a.defers) (g0:=g) (w0:=w) R Sv hnp ?_ ops.size _ a (Bb w) AD ?_ ?_ ?_)
 .rintro D a' w' hall ⟨k,g',wv,hc,AXL⟩
  have hK:k=K:=by
   have:=hc.kK;rcases Fl k K with x|x
   .obtain⟨i,o,ho,hr⟩:=R.AFm k x
    have:=(hc.time i o k ho hr).1 (hall i (Cv ho));omega
   omega
  subst hK;rcases AXL with ⟨rfl,_⟩|⟨i,o,r,j,x,o1,o2,kf,_,_,_,h2,_,_,hnx,_⟩
  .refine hQ a' w' g' hc.size hc.defers hc.ext hc.inv λt=>?_
   have:=hc.tmps t
   by_cases hw:∃(i:Nat) (o:Oper),ops[i]?=some o/\o.dst=some t
   .grind[TW]
   .rw[R.TX λi o ho hd=>hw ⟨i,o,ho,hd⟩] at this
    omega
  grind
 .intro i o e ho hi
  simp_all[Cv,F5]
 .have hnone:∀i,¬ F5 (Array.replicate ops.size false) i:=λi hi=>by
   unfold F5 at hi
   by_cases hlt:i<ops.size
   all_goals simp_all
  refine⟨0,g1,Bb w,⟨AN _,λi o r ho hr=>⟨λq=>absurd q (hnone i),λq=>by omega⟩,hsz,rfl,h1.trans e1,i1,λt=>?_,λi o ts d id ho hc hd hid _=>hpd i o ts d id ho hc hd hid⟩,
   .inl ⟨rfl,λi i' o' r' j' x' ho' K7 hi' _=>absurd hi' (hnone i')⟩⟩
  rw[Sw λi o _ _=>hnone i];exact(hU t).mono e1
 grind[List.countP_le_length]
end
theorem PK {l:List Nat} {x:Nat}:has l x=true<->x∈l:=by grind[has,Nat.eq_of_beq_eq_true,Nat.beq_refl]
theorem K8 {l:List Nat} {x:Nat}:has l x=false<->x∉l:=by grind[PK]
theorem Mm {l:List (Nat×Nat)} {i k:Nat} (h:Nb l i k=true):(i,k)∈l:=by grind[Nb,Nat.eq_of_beq_eq_true]
theorem G9 {n:Nat} {f:Nat->Bool} (h:(List.range n).all f=true) {i:Nat} (hi:i<n):f i=true:=C3.1 h i AB
theorem Da {ops:Array Oper} {i d:Nat}:d∈F4 ops i<->∃o,ops[i]?=some o/\o.dst=some d:=by grind[F4,kO]
theorem GU {st st':St} {d:Option Nat} {v:AV} (h:Ky st d v=some st') :
  st'.N=st.N/\st'.s=st.s/\(∀e,d=some e->e<st.N/\st'.U e=v)/\∀t,d≠some t->st'.U t=st.U t:=by
 unfold Ky at h;split at h
 .grind
 .rename_i e
  cases hb:Nat.blt e st.N with
  | false=>grind
  | true=>
   simp[hb] at h; subst h;refine⟨rfl,rfl,λe' he=>?_,λt ht=>?_⟩
   .simp_all[upd]
   grind[Nat.eq_of_beq_eq_true,upd]
theorem K9 {E:Env} {U:Nat->AV} {o:Oper} {cs:List AV} {mk:Nat->AV} (h:hcells E U o=some (cs,mk)):∀id,KC (mk id)=some id:=by
 obtain⟨dst,op,type,pos,after,guard⟩:=o;cases op with
 | alloc t=>
  simp only[hcells] at h;split at h
  .cases hbz:E.bz t with
   | true=>grind
   | false=>
   rw[hbz] at h;simp only[AK,BN,BU] at h;obtain⟨_,rfl⟩:=h;intro id; rfl
  grind
 | makeSlice t l c=>
  simp only[hcells] at h;split at h
  .split at h
   .split at h
    .simp only[BN,BU] at h
     obtain⟨_,rfl⟩:=h;intro id; rfl
    grind
   grind
  grind
 | _=>grind[hcells]
def Ta (ops:Array Oper) (p:Bl) (U0 Uf U:Nat->AV) (i:Nat):Prop:=∀t∈oE ops p i,U t=Ft p.GG U0 Uf i t
theorem Qh {ops:Array Oper} {p:Bl} {U0 Uf:Nat->AV} {done:List Nat} {i:Nat} {rest:List Nat} {st:St} (ho:IL ops p done (i::rest)=true) (h0:∀t,t∉done->st.U t=U0 t)
  (hf:∀t,(∀j∈i::rest,t∉Hp ops p j)->Uf t=st.U t):Ta ops p U0 Uf st.U i:=by
 intro t ht
 grind[IL,Ft,PK]
theorem Tb {ops:Array Oper} {p:Bl} {done:List Nat} {i:Nat} {rest:List Nat} (ho:IL ops p done (i::rest)=true) :
  IL ops p (Hp ops p i++done) rest=true/\∀t∈Hp ops p i,∀j∈rest,t∉Hp ops p j:=by grind[IL,PK]
theorem Lp {ops:Array Oper} {p:Bl} {i:Nat} {o:Oper} (hi:ops[i]?=some o) (hc:(∃ts,p.cls[i]?=some (.q ts))\/(∃ts,p.cls[i]?=some (.h ts))\/(∃r,p.cls[i]?=some (.w r))) :
  oE ops p i=G8 ops o++GQ o/\Hp ops p i=F4 ops i:=by grind[oE,Hp,D9]
section
variable {rd:Option Nat} {E:Env} {L:BL} {cf:Cx} {ops:Array Oper} {p:Bl} {U0:Nat->AV}
structure tS (E:Env) (L:BL) (cf:Cx) (ops:Array Oper) (p:Bl) (U0 Uf:Nat->AV) (N:Nat) (σ:Nat->AQ) (i:Nat):Prop where
 q:∀ts,p.cls[i]?=some (.q ts)->∃o k v,ops[i]?=some o/\FN E L ops (Ft p.GG U0 Uf i) (σ k) o=some v/\(∀d,o.dst=some d->d<N/\Uf d=v)/\∀t∈ts,t=k\/OI ops i=true\/(i,t)∈p.Vo
 w:∀r,p.cls[i]?=some (.w r)->∃o v,ops[i]?=some o/\OG E L cf ops (Ft p.GG U0 Uf i) (σ r) o=some (v,σ (r+1))/\∀d,o.dst=some d->d<N/\Uf d=v
 fa:∀r j x,p.cls[i]?=some (.fa r j x)->∃o o1 o2 k v U,ops[i]?=some o/\ops[j]?=some o1/\ops[x]?=some o2/\fused o o1 o2=some k/\K0 E L U (σ r) k=some (v,σ (r+1))/\Ta ops p U0 Uf U i /\
  k.d<N/\k.p<N/\Uf k.d=v/\Uf k.p=.Gh
 h:∀ts,p.cls[i]?≠some (.h ts)
def I4 (acc:List AQ) (k:Nat):AQ:=(acc.reverse[k]?).getD ⟨[],[]⟩
theorem Nf {new acc:List AQ} {k:Nat} (h:acc.length=k+1):I4 (new++acc) k=(acc.head?).getD ⟨[],[]⟩:=by
 unfold I4;rw[List.reverse_append,CT AB];cases acc with
 | nil=>rfl
 | cons s acc=>
  grind
theorem gI {K:Nat} {Rf:St} {KD:List AQ}:∀(rest:List Nat) (done:List Nat) (st:St) (acc:List AQ) (k:Nat),IL ops p done rest=true->(∀t,t∉done->st.U t=U0 t) ->
  Kg ops p rest k=some K->acc.length=k+1->acc.head?=some st.s->HT E L cf ops p.cls rest st acc=some (Rf,KD) ->
  Rf.N=st.N/\(∀t,(∀j∈rest,t∉Hp ops p j)->Rf.U t=st.U t)/\(∃new,KD=new++acc)/\KD.length=K+1/\KD.head?=some Rf.s/\k<=K /\
  (∀i∈rest,tS E L cf ops p U0 Rf.U st.N (I4 KD) i)/\(∀i∈rest,∀r,FG p i=some r->r<K)/\(∀r,k<=r->r<K->∃i∈rest,FG p i=some r):=by
 intro rest
 induction rest with
 | nil=>
  intro done st acc k ho h0 hr hl hh h
  simp_all[HT,Kg]
 | cons i rest ih=>
  intro done st acc k ho h0 hr hl hh h;obtain⟨ho',KE⟩:=Tb ho
  have tail:∀(st':St) (acc':List AQ) (k':Nat),st'.N=st.N->(∀t,t∉Hp ops p i->st'.U t=st.U t)->Kg ops p rest k'=some K->acc'.length=k'+1->acc'.head?=some st'.s->(∃n,acc'=n++acc) ->
    HT E L cf ops p.cls rest st' acc'=some (Rf,KD)->((FG p i=none/\k'=k)\/(FG p i=some k/\k'=k+1)) ->
    ((∀t,(∀j∈rest,t∉Hp ops p j)->Rf.U t=st'.U t)->Ta ops p U0 Rf.U st.U i->I4 KD k=st.s->I4 KD k'=st'.s->tS E L cf ops p U0 Rf.U st.N (I4 KD) i) ->
    Rf.N=st.N/\(∀t,(∀j∈i::rest,t∉Hp ops p j)->Rf.U t=st.U t)/\(∃new,KD=new++acc)/\KD.length=K+1/\KD.head?=some Rf.s/\k<=K /\
    (∀j∈i::rest,tS E L cf ops p U0 Rf.U st.N (I4 KD) j)/\(∀j∈i::rest,∀r,FG p j=some r->r<K)/\(∀r,k<=r->r<K->∃j∈i::rest,FG p j=some r):=by
   intro st' acc' k' hN hfr hr' hl' hh' hacc hrun ah ANc;have h0':∀t,t∉Hp ops p i++done->st'.U t=U0 t:=λt ht=>by grind
   obtain⟨t1,t2,⟨new,t3⟩,t4,t5,t6,t7,t8,t9⟩:=ih _ st' acc' k' ho' h0' hr' hl' hh' hrun
   have hframe:∀t,(∀j∈i::rest,t∉Hp ops p j)->Rf.U t=st.U t:=λt ht=>by
    rw[t2 t (λj hj=>ht j (FK _ hj)),hfr t (ht i (LZ ..))]
   obtain⟨n,rfl⟩:=hacc;have TD:I4 KD k=st.s:=by grind[Nf]
   have hk2:I4 KD k'=st'.s:=by grind[Nf]
   have hi:=ANc t2 (Qh ho h0 hframe) TD hk2;refine⟨t1.trans hN,hframe,⟨new++n,by rw[t3,Du]⟩,t4,t5,AA,λj hj=>?_,λj hj r sG=>?_,λr h1 h2=>?_⟩
   all_goals grind
  simp only[HT] at h;simp only[Kg] at hr;split at h
  .rename_i o ts Sy Ht
   rw[Ht] at hr;simp only at hr;obtain⟨r1,r2⟩:=Lp Sy (.inl ⟨ts,Ht⟩);cases hall:(ts.all λt=>Nat.beq t k||OI ops i||Nb p.Vo i t) with
   | false=>grind
   | true=>
    rw[hall] at hr;simp only[AM] at hr;split at h
    .rename_i v hq
     split at h
     .rename_i st' hp
      obtain⟨a1,a2,a3,a4⟩:=GU hp;refine tail st' acc k a1 (λt ht=>a4 t λe=>ht (by grind[Da])) hr hl AB ⟨[],rfl⟩ h (.inl ⟨Qg Ht,rfl⟩) λhfr hag hs1 hs2=>?_
      refine⟨λts' h'=>?_,λr h'=>by grind,λr j x h'=>by grind,λts' h'=>by grind⟩;rw[Ht] at h'; simp at h'; subst h';refine⟨o,k,v,Sy,?_,λd hd=>⟨(a3 d hd).1,?_⟩,λt ht=>?_⟩
      .rw[hs1,<-JJ (λt ht=>hag t AB)]; omega
      .grind[Da]
      grind[Nat.eq_of_beq_eq_true,Mm]
     grind
    grind
  .rename_i o r Sy Ht
   rw[Ht] at hr;simp only at hr;obtain⟨r1,r2⟩:=Lp Sy (.inr (.inr ⟨r,Ht⟩));cases ah:Nat.beq r k with
   | false=>grind
   | true=>
    rw[ah] at hr;simp only[AM] at hr;have ah:=CC ah;subst ah;split at h
    .rename_i v s' hact
     split at h
     .rename_i st' hp
      obtain⟨a1,a2,a3,a4⟩:=GU hp;refine tail st' (s'::acc) (r+1) a1 (λt ht=>a4 t λe=>ht (by grind[Da])) hr AB AB ⟨[s'],rfl⟩ h (.inr ⟨Kh Ht,rfl⟩) λhfr hag hs1 hs2=>?_
      refine⟨λts' h'=>by grind,λr' h'=>?_,λr j x h'=>by grind,λts' h'=>by grind⟩;rw[Ht] at h'; simp at h'; subst h';refine⟨o,v,Sy,?_,λd hd=>⟨(a3 d hd).1,?_⟩⟩
      .rw[hs1,hs2,a2,<-OK (λt ht=>hag t AB)]; omega
      grind[Da]
     grind
    grind
  .rename_i o r j x Sy Ht
   rw[Ht] at hr;simp only at hr;cases ah:Nat.beq r k with
   | false=>grind
   | true=>
    rw[ah] at hr;simp only[AM] at hr;have ah:=CC ah;subst ah;split at h
    .rename_i o1 o2 tI hox
     split at h
     .rename_i kf hf
      obtain⟨f1,f2,f3,f4,f5,f6,f7,f8,f9,f10,f11⟩:=GR hf;have hew:Hp ops p i=[kf.d,kf.p]:=by grind[Hp,F4,kO]
      split at h
      .rename_i v s' PJ
       split at h
       .rename_i st' hp
        unfold Ke at hp;split at hp
        .rename_i Gb hp1
         obtain⟨a1,a2,a3,a4⟩:=GU hp1;obtain⟨b1,b2,b3,b4⟩:=GU hp;obtain⟨a31,a32⟩:=a3 kf.d rfl;obtain⟨b31,b32⟩:=b3 kf.p rfl;refine tail st' (s'::acc) (r+1) (b1.trans a1) (λt ht=>?_) hr AB AB ⟨[s'],rfl⟩ h (.inr ⟨KR Ht,rfl⟩) λhfr hag hs1 hs2=>?_
         .rw[hew] at ht
          simp at ht;rw[b4 t (λe=>ht.2 AB),a4 t (λe=>ht.1 AB)]
         .refine⟨λts' h'=>by grind,λr' h'=>by grind,λr' j' x' h'=>?_,λts' h'=>by grind⟩
          rw[Ht] at h'; simp at h'; obtain⟨rfl,rfl,rfl⟩:=h';refine⟨o,o1,o2,kf,v,st.U,Sy,tI,hox,hf,?_,hag,a31,AB,?_,?_⟩
          .grind
          .grind
          grind
        grind
       grind
      grind
     grind
    grind
  .rename_i o Sy Ht
   rw[Ht] at hr
   exact tail st acc k rfl (λ_ _=>rfl) hr hl hh ⟨[],rfl⟩ h (.inl ⟨kQ Ht,rfl⟩) λ_ _ _ _=>
    ⟨λts' h'=>by grind,λr' h'=>by grind,λr' j' x' h'=>by grind,λts' h'=>by grind⟩
  .rename_i o Sy Ht
   rw[Ht] at hr
   exact tail st acc k rfl (λ_ _=>rfl) hr hl hh ⟨[],rfl⟩ h (.inl ⟨kR Ht,rfl⟩) λ_ _ _ _=>
    ⟨λts' h'=>by grind,λr' h'=>by grind,λr' j' x' h'=>by grind,λts' h'=>by grind⟩
  grind
structure AFr (E:Env) (L:BL) (ops:Array Oper) (p:Bl) (U0 Uf:Nat->AV) (N lo hi:Nat) (i:Nat):Prop where
 q:∀ts,p.cls[i]?=some (.q ts)->∃o s v,ops[i]?=some o/\FN E L ops (Ft p.GG U0 Uf i) s o=some v/\(∀d,o.dst=some d->d<N/\Uf d=v)/\∀t∈ts,OI ops i=true\/(i,t)∈p.Vo
 h:∀ts,p.cls[i]?=some (.h ts)->∃o cs mk id,ops[i]?=some o/\hcells E (Ft p.GG U0 Uf i) o=some (cs,mk)/\(∀d,o.dst=some d->d<N/\Uf d=mk id)/\lo<=id/\id<hi/\∀t∈ts,(i,t)∈p.Vo
 n:FG p i=none/\p.cls[i]?≠some .fj/\p.cls[i]?≠some .fx
theorem Rg {Gb:St} {rest:List Nat} {Uf:Nat->AV} (oM:∀t,(∀j∈rest,t∉Hp ops p j)->Uf t=Gb.U t):∀(first:List Nat) (done:List Nat) (st:St),IL ops p done (first++rest)=true ->
  (∀t,t∉done->st.U t=U0 t)->Su ops p first=true->Ji E L ops p.cls first st=some Gb ->
  ∃hs done',Gb.N=st.N/\(∀t,(∀j∈first,t∉Hp ops p j)->Gb.U t=st.U t)/\Gb.s={ st.s with bs:=st.s.bs++hs }/\IL ops p done' rest=true/\(∀t,t∉done'->Gb.U t=U0 t) /\
  (∀i∈first,AFr E L ops p U0 Uf st.N st.s.bs.length (st.s.bs++hs).length i) /\
  (∀i j oi oj ts us d e id,i∈first->j∈first->ops[i]?=some oi->ops[j]?=some oj->p.cls[i]?=some (.h ts)->p.cls[j]?=some (.h us)->oi.dst=some d->oj.dst=some e->KC (Uf d)=some id->KC (Uf e)=some id->i=j):=by
 intro first
 induction first with
 | nil=>
  intro done st ho h0 hf h;simp[Ji] at h;subst h;exact⟨[],done,rfl,λ_ _=>rfl,AD,ho,h0,AD,AD⟩
 | cons i first ih=>
  intro done st ho h0 hf h;rw[DH] at ho;obtain⟨ho',KE⟩:=Tb ho;simp only[Su,AH] at hf;simp only[Ji] at h;split at h
  .rename_i o ts Sy Ht
   have hf1:=hf.1;rw[Ht] at hf1;simp only at hf1;obtain⟨r1,r2⟩:=Lp Sy (.inl ⟨ts,Ht⟩);split at h
   .rename_i v hq
    split at h
    .rename_i st' hp
     obtain⟨a1,a2,a3,a4⟩:=GU hp;have hfr:∀t,t∉Hp ops p i->st'.U t=st.U t:=λt ht=>a4 t λe=>ht (by grind[Da])
     obtain⟨hs,done',b1,b2,b3,b4,b5,b6,b7⟩:=ih _ st' ho' (λt ht=>by grind) hf.2 h
     have hframe:∀t,(∀j∈i::first,t∉Hp ops p j)->Gb.U t=st.U t:=λt ht=>by
      rw[b2 t (λj hj=>ht j (FK _ hj)),hfr t (ht i (LZ ..))]
     have tT:∀t,(∀j∈first++rest,t∉Hp ops p j)->Uf t=st'.U t:=λt ht=>by
      rw[oM t (λj hj=>ht j (I9 _ hj)),b2 t (λj hj=>ht j (List.mem_append_left _ hj))]
     have hag:Ta ops p U0 Uf st.U i:=Qh ho h0 λt ht=>by
      rw[tT t (λj hj=>ht j (FK _ hj)),hfr t (ht i (LZ ..))]
     rw[a2] at b3;refine⟨hs,done',b1.trans a1,hframe,b3,b4,b5,λj hj=>?_,?_⟩
     .rcases A5.1 hj with rfl|hj
      .refine⟨λts' h'=>?_,λts' h'=>by grind,Qg Ht,AB,AB⟩
       rw[Ht] at h'; simp at h'; subst h';refine⟨o,st.s,v,Sy,?_,λd hd=>⟨(a3 d hd).1,?_⟩,λt ht=>?_⟩
       .rw[<-JJ (λt ht=>hag t AB)]; omega
       .grind[Da]
       grind[Mm]
      grind
     .intro i1 j1 oi oj KS us d e id hi1 hj1 e1 e2 e3 e4 e5 e6 e7 e8
      rcases A5.1 hi1 with rfl|hi1
      .grind
      .rcases A5.1 hj1 with rfl|hj1
       .grind
       .exact b7 i1 j1 oi oj KS us d e id hi1 hj1 e1 e2 e3 e4 e5 e6 e7 e8
    grind
   grind
  .rename_i o ts Sy Ht
   have hf1:=hf.1;rw[Ht] at hf1;simp only at hf1;obtain⟨r1,r2⟩:=Lp Sy (.inr (.inl ⟨ts,Ht⟩));split at h
   .rename_i cs mk hq
    split at h
    .rename_i st' hp
     obtain⟨a1,a2,a3,a4⟩:=GU hp;have hfr:∀t,t∉Hp ops p i->st'.U t=st.U t:=λt ht=>a4 t λe=>ht (by grind[Da])
     obtain⟨hs,done',b1,b2,b3,b4,b5,b6,b7⟩:=ih _ st' ho' (λt ht=>by grind) hf.2 h
     have hframe:∀t,(∀j∈i::first,t∉Hp ops p j)->Gb.U t=st.U t:=λt ht=>by
      rw[b2 t (λj hj=>ht j (FK _ hj)),hfr t (ht i (LZ ..))]
     have tT:∀t,(∀j∈first++rest,t∉Hp ops p j)->Uf t=st'.U t:=λt ht=>by
      rw[oM t (λj hj=>ht j (I9 _ hj)),b2 t (λj hj=>ht j (List.mem_append_left _ hj))]
     have hag:Ta ops p U0 Uf st.U i:=Qh ho h0 λt ht=>by
      rw[tT t (λj hj=>ht j (FK _ hj)),hfr t (ht i (LZ ..))]
     rw[a2] at b3;have hval:∀d,o.dst=some d->d<st.N/\Uf d=mk st.s.bs.length:=λd hd=>⟨(a3 d hd).1,by grind[Da]⟩
     have hlen:st'.s.bs.length=st.s.bs.length+1:=AB
     have Yo:∀j∈first,∀oj us e id,ops[j]?=some oj->p.cls[j]?=some (.h us)->oj.dst=some e->KC (Uf e)=some id->st.s.bs.length+1<=id:=by
      intro j hj oj us e id e2 e4 e6 e8;obtain⟨o',cs',mk',id',q1,q2,q3,q4,q5,q6⟩:=(b6 j hj).h us e4;rw[e2] at q1; simp at q1; subst q1;rw[(q3 e e6).2,K9 q2] at e8
      grind
     refine⟨cs::hs,done',b1.trans a1,hframe,AB,b4,b5,λj hj=>?_,?_⟩
     .rcases A5.1 hj with rfl|hj
      .refine⟨λts' h'=>by grind,λts' h'=>?_,tL Ht,AB,AB⟩
       rw[Ht] at h'; simp at h'; subst h';refine⟨o,cs,mk,st.s.bs.length,Sy,?_,hval,AY _,AD,λt ht=>?_⟩
       .rw[<-PI (λt ht=>hag t AB)]; omega
       grind[Mm]
      .have:=b6 j hj
       rw[a1,hlen] at this;refine⟨this.q,λts' h'=>?_,this.n⟩;obtain⟨o',cs',mk',id',q1,q2,q3,q4,q5,q6⟩:=this.h ts' h';exact⟨o',cs',mk',id',q1,q2,q3,AA,AB,q6⟩
     .intro i1 j1 oi oj KS us d e id hi1 hj1 e1 e2 e3 e4 e5 e6 e7 e8
      rcases A5.1 hi1 with rfl|hi1
      .rcases A5.1 hj1 with rfl|hj1
       .rfl
       .rw[Sy] at e1; simp at e1; subst e1
        rw[(hval d e5).2,K9 hq] at e7
        grind
      .rcases A5.1 hj1 with rfl|hj1
       .rw[Sy] at e2; simp at e2; subst e2
        rw[(hval e e6).2,K9 hq] at e8
        grind
       .exact b7 i1 j1 oi oj KS us d e id hi1 hj1 e1 e2 e3 e4 e5 e6 e7 e8
    grind
   grind
  grind
end
theorem GV {l:List Nat} {x:Nat} (h:has l x=true):x∈l:=PK.1 h
theorem oN {E:Env} {L:BL} {ops:Array Oper} {cls:List aK} {GG:List (List Nat)} {U0 Uf:Nat->AV} {σ:List AQ}:∀(Vo:List (Nat×Nat)),fW E L ops cls GG U0 Uf σ Vo=true->∀i k,(i,k)∈Vo ->
  (∀o ts,ops[i]?=some o->cls[i]?=some (.q ts)->∃s v,σ[k]?=some s/\FN E L ops (Ft GG U0 Uf i) s o=some v/\∀d,o.dst=some d->Uf d=v) /\
  (∀o ts,ops[i]?=some o->cls[i]?=some (.h ts)->∃s cs mk d id,σ[k]?=some s/\hcells E (Ft GG U0 Uf i) o=some (cs,mk)/\o.dst=some d/\KC (Uf d)=some id/\s.bs[id]?=some cs):=by
 intro Vo
 induction Vo with
 | nil=>simp
 | cons q Vo ih=>
  obtain⟨i',k'⟩:=q;intro h i k hm;simp only[fW,AH] at h;rcases A5.1 hm with e|hm
  .simp at e
   obtain⟨rfl,rfl⟩:=e;have h:=h.1;split at h
   .grind[Qd]
   .grind[H6]
   grind
  grind
theorem Inv.tU {E:Env} {w:World}:∀(hs:List (List AV)) (g:AP) (s:AQ),Inv E g w s->∃q:Nat->Prop,(∀id,g.DJ id->q id)/\(∀id,s.bs.length<=id->id<s.bs.length+hs.length->q id)/\Inv E (g.CE q) w { s with bs:=s.bs++hs }:=by
 intro hs
 induction hs with
 | nil=>intro g s h; exact⟨g.DJ,λ_ q=>q,λid a b=>by grind,by simpa using h.CE h.Dw (λ_ q=>q) (λid b hb=>(h.MM id b hb).2.2)⟩
 | cons cs hs ih=>
  intro g s h;obtain⟨q,h1,h2,h3⟩:=ih _ _ (h.reserve cs);refine⟨q,λid hq=>h1 id (.inl hq),λid a b=>?_,by grind[AP.CE]⟩
  by_cases e:id=s.bs.length
  .exact h1 id (.inr e)
  grind
theorem ak {acc:List AQ} {k:Nat} {s:AQ} (h:acc.reverse[k]?=some s):I4 acc k=s:=by simp[I4,h]
theorem aq {E:Env} {L:BL} {U U':Nat->AV} {s:AQ} {k:JF} (h:∀z,z=k.x\/z=k.y\/z=k.ix\/z=k.v->Am U z=Am U' z):Jg E L U' s k=Jg E L U s k:=by simp[*,Jg]
theorem au {E:Env} {L:BL} {U U':Nat->AV} {s:AQ} {k:JF} (h:∀z,z=k.x\/z=k.y\/z=k.ix\/z=k.v->Am U z=Am U' z):We E L U' s k=We E L U s k:=by simp[*,We]
theorem az {E:Env} {L:BL} {U U':Nat->AV} {s:AQ} {k:JF} (h:∀z,z=k.x\/z=k.y\/z=k.ix\/z=k.v->Am U z=Am U' z):K0 E L U' s k=K0 E L U s k:=by grind[K0,aq,au]
theorem Rh {ops:Array Oper} {p:Bl} {U0 Uf:Nat->AV} {FO:Nat}:∀{l:List Nat},RY ops p U0 Uf FO l=true->∀m∈l,∀om r' t y z,ops[m]?=some om->p.cls[m]?=some (.w r')->om.op=.store t y z ->
  ∀id off',Am (Ft p.GG U0 Uf m) y=.ptr id off'->id≠FO
 | [],_,m,hm=>by grind
 | n::l,h,m,hm=>by
  intro om r' t y z hom hc hop id off' hy;simp only[RY,AH] at h;rcases A5.1 hm with rfl|hm
  .have h1:=h.1
   rw[hom,hc] at h1;simp only[hop,hy,La] at h1;intro e
   simp_all
  .exact Rh h.2 m hm om r' t y z hom hc hop id off' hy
theorem Ri {E:Env} {L:BL} {ops:Array Oper} {p:Bl} {U0 Uf:Nat->AV}:∀{l:List Nat},TI E L ops p U0 Uf l=true->∀i∈l,∀o r j x d FO off len sz,QX E L ops i j x=true->ops[i]?=some o->p.cls[i]?=some (.fa r j x)->o.dst=some d->Uf d=.ref FO off len sz ->
  RY ops p U0 Uf FO p.rest=true
 | [],_,i,hi=>by grind
 | n::l,h,i,hi=>by
  intro o r j x d FO off len sz hX ho hc hd hr;simp only[TI,AH] at h;rcases A5.1 hi with rfl|hi
  .grind
  .exact Ri h.2 i hi o r j x d FO off len sz hX ho hc hd hr
theorem Tc {E:Env} {L:BL} {ops:Array Oper} {cls:List aK}:∀{l:List Nat},n7 E L ops cls l=true->∀i∈l,∀r j x,cls[i]?=some (.fa r j x)->QX E L ops i j x=false
 | [],_,i,hi=>by grind
 | n::l,h,i,hi=>by
  intro r j x hc;simp only[n7,AH] at h;rcases A5.1 hi with rfl|hi
  .grind
  .exact Tc h.2 i hi r j x hc
theorem bA {E:Env} {L:BL} {ops:Array Oper} {p:Bl} {U0 Uf:Nat->AV} (h:Wh E L ops p U0 Uf=true):∀i∈p.rest,∀o r j x d FO off len sz,QX E L ops i j x=true->ops[i]?=some o->p.cls[i]?=some (.fa r j x)->o.dst=some d->Uf d=.ref FO off len sz ->
  RY ops p U0 Uf FO p.rest=true:=by grind[Wh,Tc,Ri]
section
variable {rd:Option Nat} {E:Env} {L:BL} {cf:Cx} {ops:Array Oper} {p:Bl}
theorem gJ (Sv:H7 E L cf) (gH:E.P.follows .mixedOrders=true) (Kt:TS ops p=true) {g:AP} {w:World} {a:Act} {st st':St} {Q:Exit->Act->World->Prop} {id:Nat} (hI:Inv E g w st.s) (hsz:a.tmps.size=st.N)
  (hU:∀t,V g w (st.U t) (a.tmps.getD t undef)) (h:Yf E L cf p ops st=some st')
  (hQ:∀a' w' g',a'.tmps.size=st'.N->a'.defers=a.defers->Ext L g w g' w'->Inv E g' w' st'.s->(∀t,V g' w' (st'.U t) (a'.tmps.getD t undef))->st'.N=st.N->Q .normal a' w') :
  (Code.region id ops true).wpIn (FW rd) 0 E.P Q a w:=by
 unfold TS at Kt;simp only at Kt;split at Kt
 .simp at Kt
 rename_i K hK;simp only[AH] at Kt;obtain⟨⟨⟨⟨hlen,hmem⟩,hall⟩,ANe⟩,tV⟩:=Kt;unfold Yf at h;split at h
 .rename_i Gb h1
  split at h
  .rename_i Rf KD h2
   cases hch:fW E L ops p.cls p.GG st.U Rf.U KD.reverse p.Vo with
   | false=>rw[hch] at h; simp at h
   | true=>
    cases hmc:Wh E L ops p st.U Rf.U with
    | false=>rw[hch,hmc] at h; simp at h
    | true=>
    rw[hch,hmc] at h;simp at h;subst h;obtain⟨_,done',_,_,_,ho',h0',_,_⟩:=Rg (E:=E) (L:=L) (U0:=st.U) (Uf:=Gb.U) (λ_ _=>rfl) p.first [] st ANe (λ_ _=>rfl) tV h1;obtain⟨r1,r2,⟨new,r3⟩,r4,r5,_,r7,r8,r9⟩:=gI (U0:=st.U) p.rest done' Gb [Gb.s] 0 ho' h0' hK rfl rfl h2;obtain⟨hs,_,f1,f2,f3,_,_,f6,f7⟩:=Rg (E:=E) (L:=L) (U0:=st.U) (Uf:=Rf.U) r2 p.first [] st ANe (λ_ _=>rfl) tV h1;have ANf:=oN p.Vo hch;have hin:∀(i:Nat) o,ops[i]?=some o->i∈p.first\/i∈p.rest:=λi o ho=>B4.1 (GV (G9 hmem (Cv ho)))
    have hst:∀(i:Nat) o,ops[i]?=some o->Yq ops p i=true/\Ln ops p i=true/\ACX ops ops.size i=true/\s9 ops p ops.size i=true/\Ys p ops.size i=true/\fk p ops.size K i=true/\OJ ops p ops.size i=true:=λi o ho=>by
     have:=G9 hall (Cv ho);simp only[AH] at this;obtain⟨⟨⟨⟨⟨⟨a1,a2⟩,a3⟩,a4⟩,a5⟩,a6⟩,a7⟩:=this;exact⟨a1,a2,a3,a4,a5,a6,a7⟩
    have hN1:Gb.N=st.N:=f1;have hNf:Rf.N=st.N:=r1.trans f1;have hσ0:I4 KD 0=Gb.s:=by rw[r3,Nf rfl]; rfl
    have hσK:I4 KD K=Rf.s:=by
     have:=Nf (new:=[]) r4;rw[Cm] at this;rw[this,r5]; rfl
    have R:Vw E L cf ops p K st.N st.U Rf.U (I4 KD):={
     AAS:=λi o e ho he hb=>by
      have:=(hst i o ho).1;simp only[Yq,ho,AH] at this;have:=C3.1 this.1 e (by simpa using he);simpa[hb,Nat.blt_eq] using this
     pre:=λi o j ho hj=>by
      have:=(hst i o ho).1;simp only[Yq,ho,AH] at this;obtain⟨e,he,h'⟩:=Lb.1 (C3.1 this.2 j hj);simp only[AH,De] at h';exact⟨e,by simpa using he,h'.1,h'.2.imp CC GV⟩
     cls:=λi o ho=>by
      have:=(hst i o ho).2.1;unfold Ln at this;rw[ho] at this;cases hc:p.cls[i]? with
      | none=>rw[hc] at this; simp at this
      | some c=>exact⟨c,rfl⟩
     dst:=λi j oi oj d hi hj oJ tJ=>by
      have:=G9 (hst i oi hi).2.2.1 (Cv hj);simp only[De] at this;rcases this with q|q
      .exact(CC q).symm
      .have:=C3.1 q d (Da.2 ⟨oj,hj,tJ⟩)
       simp only[La] at this;exact absurd (Da.2 ⟨oi,hi,oJ⟩) (K8.1 this)
     read:=λi j oi oj d hi hj tJ hd=>by
      have:=C3.1 (G9 (hst i oi hi).2.2.2.1 (Cv hj)) d (Da.2 ⟨oj,hj,tJ⟩);have hr:has (D9 ops i) d=true:=PK.2 (by simp only[D9,hi]; exact hd);rw[hr] at this;simp only[NP,GL] at this;cases hw:has (Hr p.GG i) d with
      | true=>
       rw[hw] at this;simp only[AM,De] at this;exact .inl ⟨rfl,this.imp CC GV⟩
      | false=>
       rw[hw] at this;exact .inr ⟨rfl,GV (by simpa using this)⟩
     rk:=λi j oi oj r r' hi hj Ku hrj hlt=>by
      have:=(hst i oi hi).2.2.2.2.1;unfold Ys at this;rw[Ku] at this;have:=G9 this (Cv hj);rw[hrj] at this;simp only[De,AH,La] at this;rcases this with q|⟨_,q⟩
      .have:=CC q
       subst this;rw[Ku] at hrj; simp at hrj; omega
      .rcases q with q|q
       .have:Nat.blt r r'=true:=by grind[Nat.blt_eq]
        rw[this] at q; simp at q
       .exact GV q
     ACa:=λi j oi oj r hi hj Ku hrj=>by
      have:=(hst i oi hi).2.2.2.2.1;unfold Ys at this;rw[Ku] at this;have:=G9 this (Cv hj);rw[hrj] at this;simp only[De,AH,La] at this;rcases this with q|⟨q,_⟩
      .exact CC q
      .simp at q
     AFm:=λk hk=>by
      obtain⟨i,hi,hr⟩:=r9 k (AN _) hk;have hR:=r7 i hi;unfold FG at hr;cases hc:p.cls[i]? with
      | none=>rw[hc] at hr; simp at hr
      | some c=>
       rw[hc] at hr;cases c with
       | w r=>obtain⟨o,_,ho,_⟩:=hR.w r hc; exact⟨i,o,ho,by grind[FG]⟩
       | fa r j x=>obtain⟨o,_,_,_,_,_,ho,_⟩:=hR.fa r j x hc; exact⟨i,o,ho,by grind[FG]⟩
       | _=>simp[KN] at hr
     AFn:=λi o r ho hr=>by
      rcases hin i o ho with hi|hi
      .have:=(f6 i hi).n.1; rw[this] at hr; simp at hr
      .grind
     time:=λi o ts ho hc k hk hn=>by
      have ht:=(hst i o ho).2.2.2.2.2.1
      have key:((List.range (K+1)).all λk=>has ts k||(List.range ops.size).any λj=>match FG p j with
        | some r=>(has (D3 p i) j&&Nat.ble k r)||(has (D3 p j) i&&Nat.blt r k)
        | none=>false)=true:=by
       unfold fk at ht;rcases hc with hc|hc <;> rw[hc] at ht <;> simp only[AH] at ht <;> exact ht.1
      have:=G9 key (show k<K+1 by omega);rw[K8.2 hn,GL] at this;obtain⟨j,hj,h'⟩:=Lb.1 this;cases hr:FG p j with
      | none=>rw[hr] at h'; simp at h'
      | some r=>
       rw[hr] at h';simp only[De,AH] at h';have AXN:j<ops.size:=by simpa using hj
       refine⟨j,ops[j],r,by simp[AXN],hr,h'.imp (λq=>⟨GV q.1,by simpa[Nat.ble_eq] using q.2⟩) (λq=>⟨GV q.1,by simpa[Nat.blt_eq] using q.2⟩)⟩
     tF:=λi o r j x ho hc=>by
      have hfo:=(hst i o ho).2.2.2.2.2.2;unfold OJ at hfo;rw[hc] at hfo;simp only[AH] at hfo;obtain⟨⟨⟨⟨u1,u2⟩,u3⟩,u4⟩,u5⟩:=hfo;rcases hin i o ho with hi|hi
      .have:=(f6 i hi).n.1; rw[KR hc] at this; simp at this
      obtain⟨o',o1,o2,kf,v,U,g1,g2,g3,g4,g5,g6,g7,g8,g9,g10⟩:=(r7 i hi).fa r j x hc;rw[ho] at g1; simp at g1; subst g1;obtain⟨q1,q2,q3,q4,q5,q6,q7,q8,q9,q10,q11⟩:=GR g4
      have hcj:p.cls[j]?=some .fj/\p.cls[x]?=some .fx:=by
       split at u1
       .rename_i e1 e2 _ _ _; exact⟨e1,e2⟩
       .simp at u1
      have GG:∀(i':Nat) o',ops[i']?=some o'->(p.cls[i']?=some (.fa r j x)\/p.cls[i']?=some .fj\/p.cls[i']?=some .fx)->Hr p.GG i'=[]:=λi' o' ho' K7=>by
       have:=(hst i' o' ho').2.1;unfold Ln at this;rw[ho'] at this;rcases K7 with K7|K7|K7 <;> rw[K7] at this <;> simp only[AH] at this <;> simpa using this.2
      have w1:=GG i o ho (.inl hc);have w2:=GG j o1 g2 (.inr (.inl hcj.1));have w3:=GG x o2 g3 (.inr (.inr hcj.2));refine⟨o1,o2,kf,g2,g3,hcj.1,hcj.2,g4,w1,w2,w3,GV u2,GV u3,GV u4,v,?_,g9,g10⟩;rw[<-g5];refine az λz hz=>KO λt ht=>?_
      have hmem:t∈oE ops p i:=by
       unfold oE;rw[hc];simp only[List.mem_filter];have hd1:F4 ops i++F4 ops j=[kf.d,kf.p]:=by simp[F4,kO,ho,g2,q2,q4]
       constructor
       .simp only[B4]
        rcases hz with e|e|e|e
        .exact .inl (.inl (by simp only[D9,ho]; exact I9 _ (DV.2 (by grind[Op.operands,Call.operands]))))
        .exact .inl (.inl (by simp only[D9,ho]; exact I9 _ (DV.2 (by grind[Op.operands,Call.operands]))))
        .exact .inl (.inr (by simp only[D9,g2]; exact I9 _ (DV.2 (by grind[Op.operands]))))
        .grind[D9,DV,Op.operands]
       .rw[hd1]
        obtain⟨z1,z2⟩:=Re g4 z hz;simp only[La,K8,A5,Ep,Er,not_or];exact⟨λe=>z1 (by rw[ht,e]),λe=>z2 (by rw[ht,e])⟩
      have:=g6 t hmem;rw[this];unfold Ft;rw[w1];rfl
     mu:=λi o r j x d FO off len sz hX ho hc hd hq m om r' t y z hom Kv hop id off' hy=>by
      have hir:i∈p.rest:=by
       rcases hin i o ho with hi|hi
       .have:=(f6 i hi).n.1; rw[KR hc] at this; simp at this
       .omega
      have hmr:m∈p.rest:=by
       rcases hin m om hom with hi|hi
       .have:=(f6 m hi).n.1; rw[Kh Kv] at this; simp at this
       .omega
      exact Rh (bA hmc i hir o r j x d FO off len sz hX ho hc hd hq) m hmr om r' t y z hom Kv hop id off' hy
     win:=λi o r j x ho hc m om hm h1 h2 h3=>by
      have hfo:=(hst i o ho).2.2.2.2.2.2;unfold OJ at hfo;rw[hc] at hfo;simp only[AH] at hfo;have:=G9 hfo.2 (Cv hm);have n1:Nat.beq m i=false:=by rw[Oz]; exact λq=>h1 (CC q)
      have n2:Nat.beq m j=false:=by rw[Oz]; exact λq=>h2 (CC q)
      have n3:Nat.beq m x=false:=by rw[Oz]; exact λq=>h3 (CC q)
      rw[n1,n2,n3] at this;simp only[GL,AH,De] at this;refine⟨this.1.imp GV (λq=>q.imp GV (λz=>z)),λd hd hr=>?_⟩;have:=C3.1 this.2 d (Da.2 ⟨om,hm,hd⟩);simp only[De,La,Gu] at this;rcases this with q|q
      .rcases hr with hr|hr
       .exact absurd hr (K8.1 q.1)
       .exact absurd hr (K8.1 q.2)
      .exact GV q
     ANO:=λj oj hj hc=>by
      have hfo:=(hst j oj hj).2.2.2.2.2.2;unfold OJ at hfo;rw[hc] at hfo;obtain⟨m,hm,h'⟩:=Lb.1 hfo;have hlt:m<ops.size:=by simpa using hm
      split at h'
      .rename_i r j' x' Kv
       have:=CC h';subst this;exact⟨m,ops[m],r,x',AD,Kv⟩
      .simp at h'
     ANP:=λx ox hx hc=>by
      have hfo:=(hst x ox hx).2.2.2.2.2.2;unfold OJ at hfo;rw[hc] at hfo;obtain⟨m,hm,h'⟩:=Lb.1 hfo;have hlt:m<ops.size:=by simpa using hm
      split at h'
      .rename_i r j' x' Kv
       have:=CC h';subst this;exact⟨m,ops[m],r,j',by simp[hlt],Kv⟩
      .simp at h'
     out:=λt ht=>by
      have hw:∀j,t∉Hp ops p j:=λj hj=>by
       unfold Hp at hj;have nd:∀q,t∉F4 ops q:=λq hq=>by obtain⟨o,h1,h2⟩:=Da.1 hq; exact ht q o h1 h2
       split at hj
       .simp at hj
       .simp at hj
       .rcases B4.1 hj with q|q <;> grind
       .exact nd _ hj
      rw[r2 t (λj _=>hw j),f2 t (λj _=>hw j)]
     tG:=λi o d ho hd=>by
      rcases hin i o ho with hi|hi
      .have hF:=f6 i hi
       cases hc:p.cls[i]? with
       | none=>
        have:=(hst i o ho).2.1;unfold Ln at this;rw[ho,hc] at this;simp at this
       | some c=>
        cases c with
        | q ts=>
         obtain⟨o',_,_,g1,_,g3,_⟩:=hF.q ts hc;rw[ho] at g1; simp at g1; subst g1;exact(g3 d hd).1
        | h ts=>
         obtain⟨o',_,_,_,g1,_,g3,_⟩:=hF.h ts hc;rw[ho] at g1; simp at g1; subst g1;exact(g3 d hd).1
        | w r=>have:=hF.n.1; rw[Kh hc] at this; simp at this
        | fa r j x=>have:=hF.n.1; rw[KR hc] at this; simp at this
        | fj=>exact absurd hc hF.n.2.1
        | fx=>exact absurd hc hF.n.2.2
      .have hF:=r7 i hi
       have faD:∀(m:Nat) r j x,m<ops.size->p.cls[m]?=some (.fa r j x)->∃o o1 o2 k,ops[m]?=some o/\ops[j]?=some o1/\ops[x]?=some o2/\fused o o1 o2=some k/\k.d<st.N/\k.p<st.N:=λm r j x hm hc=>by
        rcases hin m ops[m] (by simp[hm]) with mi|mi
        .have:=(f6 m mi).n.1; rw[KR hc] at this; simp at this
        .obtain⟨o',o1,o2,kf,v,U,g1,g2,g3,g4,g5,g6,g7,g8,g9,g10⟩:=(r7 m mi).fa r j x hc
         exact⟨o',o1,o2,kf,g1,g2,g3,g4,by rw[<-hN1]; exact g7,by rw[<-hN1]; exact g8⟩
       have hfo:=(hst i o ho).2.2.2.2.2.2;unfold OJ at hfo;cases hc:p.cls[i]? with
       | none=>
        have:=(hst i o ho).2.1;unfold Ln at this;rw[ho,hc] at this;simp at this
       | some c=>
        rw[hc] at hfo;cases c with
        | q ts=>
         obtain⟨o',_,_,g1,_,g3,_⟩:=hF.q ts hc;rw[ho] at g1; simp at g1; subst g1;rw[<-hN1]; exact(g3 d hd).1
        | h ts=>exact absurd hc (hF.h ts)
        | w r=>
         obtain⟨o',_,g1,_,g3⟩:=hF.w r hc;rw[ho] at g1; simp at g1; subst g1;rw[<-hN1]; exact(g3 d hd).1
        | fa r j x=>
         obtain⟨o',o1,o2,k,g1,g2,g3,g4,g5,g6⟩:=faD i r j x (Cv ho) hc;rw[ho] at g1; simp at g1; subst g1;have:=(GR g4).2.1;rw[hd] at this; simp at this; rw[this]; exact g5
        | fj=>
         obtain⟨m,hm,h'⟩:=Lb.1 hfo;split at h'
         .rename_i r j' x' Kv
          have:=CC h';subst this;obtain⟨o',o1,o2,k,g1,g2,g3,g4,g5,g6⟩:=faD m r j' x' (by simpa using hm) Kv;rw[ho] at g2; simp at g2; subst g2;have:=(GR g4).2.2.2.1;rw[hd] at this; simp at this; rw[this]; exact g6
         .simp at h'
        | fx=>
         obtain⟨m,hm,h'⟩:=Lb.1 hfo;split at h'
         .rename_i r j' x' Kv
          have:=CC h';subst this;obtain⟨o',o1,o2,k,g1,g2,g3,g4,g5,g6⟩:=faD m r j' x' (by simpa using hm) Kv;rw[ho] at g3; simp at g3; subst g3;have:=(GR g4).2.2.2.2.2.1;rw[hd] at this; simp at this
         .simp at h'
     wF:=λi o r ho hc=>by
      rcases hin i o ho with hi|hi
      .have:=(f6 i hi).n.1; rw[Kh hc] at this; simp at this
      .obtain⟨o',v,g1,g2,g3⟩:=(r7 i hi).w r hc
       rw[ho] at g1; simp at g1; subst g1;exact⟨v,g2,λd hd=>(g3 d hd).2⟩
     qF:=λi o ts k ho hc hk=>by
      have bB:∀s v,OI ops i=true->FN E L ops (Ft p.GG st.U Rf.U i) s o=some v->FN E L ops (Ft p.GG st.U Rf.U i) (I4 KD k) o=some v:=λs v hp hq=>by
       have hp':Yr o=true:=by simpa[OI,ho] using hp
       unfold FN at hq ⊢;split at hq
       .exact Yw hp' hq
       .exact hq
       .simp at hq
      have kS:(i,k)∈p.Vo->∃v,FN E L ops (Ft p.GG st.U Rf.U i) (I4 KD k) o=some v/\∀d,o.dst=some d->Rf.U d=v:=λhm=>by
       obtain⟨s,v,g1,g2,g3⟩:=(ANf i k hm).1 o ts ho hc;exact⟨v,by rw[ak g1]; exact g2,g3⟩
      rcases hin i o ho with hi|hi
      .obtain⟨o',s,v,g1,g2,g3,g4⟩:=(f6 i hi).q ts hc
       rw[ho] at g1; simp at g1; subst g1;rcases g4 k hk with q|q
       .exact⟨v,bB s v q g2,λd hd=>(g3 d hd).2⟩
       .exact kS q
      .obtain⟨o',kk,v,g1,g2,g3,g4⟩:=(r7 i hi).q ts hc
       rw[ho] at g1; simp at g1; subst g1;rcases g4 k hk with q|q|q
       .subst q; exact⟨v,g2,λd hd=>(g3 d hd).2⟩
       .exact⟨v,bB _ v q g2,λd hd=>(g3 d hd).2⟩
       .exact kS q
     hF:=λi o ts ho hc=>by
      have hpo:=(hst i o ho).2.1;unfold Ln at hpo;rw[ho,hc] at hpo;simp only[AH] at hpo;rcases hin i o ho with hi|hi
      .obtain⟨o',cs,mk,id',g1,g2,g3,g4,g5,g6⟩:=(f6 i hi).h ts hc
       rw[ho] at g1; simp at g1; subst g1;obtain⟨d,hd⟩:=j9.1 hpo.2;refine⟨by simpa using hpo.1,d,cs,mk,id',hd,g2,(g3 d hd).2,λk hk=>?_⟩;obtain⟨s,cs',mk',d',AXP,e1,e2,e3,e4,e5⟩:=(ANf i k (g6 k hk)).2 o ts ho hc;rw[hd] at e3; simp at e3; subst e3;rw[(g3 d hd).2,K9 g2] at e4;simp at e4; subst e4;rw[g2] at e2; simp at e2;rw[ak e1,e5,e2.1]
      .exact absurd hc ((r7 i hi).h ts)
     ANQ:=λi j oi oj ts us d e id' hi hj Ht hcj oJ tJ aM h2'=>by
      rcases hin i oi hi with m1|m1
      .rcases hin j oj hj with m2|m2
       .exact f7 i j oi oj ts us d e id' m1 m2 hi hj Ht hcj oJ tJ aM h2'
       .exact absurd hcj ((r7 j m2).h us)
      .exact absurd Ht ((r7 i m1).h ts) }
    have hid:∀(i:Nat) o ts d id,ops[i]?=some o->p.cls[i]?=some (.h ts)->o.dst=some d->KC (Rf.U d)=some id->st.s.bs.length<=id/\id<st.s.bs.length+hs.length:=λi o ts d id' ho hc hd gK=>by
     rcases hin i o ho with hi|hi
     .obtain⟨o',cs,mk,AXP,g1,g2,g3,g4,g5,g6⟩:=(f6 i hi).h ts hc
      rw[ho] at g1; simp at g1; subst g1;rw[(g3 d hd).2,K9 g2] at gK;simp at gK; subst gK;exact⟨g4,AB⟩
     .exact absurd hc ((r7 i hi).h ts)
    obtain⟨q,hq1,hq2,hq3⟩:=Inv.tU hs g st.s hI;refine gG R Sv gH (g:=g) (g1:=g.CE q) (λi o ts d id' ho hc hd gK hp=>?_) ((Ext.refl L g w).CE hq1) ?_ hsz (λt=>(hU t).CE) (λi o ts d id' ho hc hd gK=>?_) (λa' w' g' b1 b2 b3 b4 b5=>?_)
    .have:=(hI.Dw id' hp).1
     have:=(hid i o ts d id' ho hc hd gK).1;omega
    .rw[hσ0,f3]; exact hq3
    .obtain⟨x1,x2⟩:=hid i o ts d id' ho hc hd gK
     exact hq2 id' x1 x2
    .grind
  .grind
 .grind
end
structure kT (E:Env) (g:AP) (w:World) (st:St) (a:Act):Prop where
 inv:Inv E g w st.s
 size:a.tmps.size=st.N
 tmps:∀t,V g w (st.U t) (a.tmps.getD t undef)
theorem kT.put {E:Env} {L:BL} {g g':AP} {w w':World} {st st':St} {a:Act} {s:AQ} {d:Option Nat} {v:AV} {u:Value} (h:kT E g w st a) (hp:Ky { st with s:=s } d v=some st') (he:Ext L g w g' w') (hi:Inv E g' w' s) (hv:V g' w' v u) :
  kT E g' w' st' (a.put d u)/\st'.N=st.N:=by
 obtain⟨a1,a2,a3,a4⟩:=GU hp;refine⟨⟨AB,by rw[TY,a1]; exact h.size,λt=>?_⟩,a1⟩
 by_cases ht:d=some t
 .subst ht
  obtain⟨b1,b2⟩:=a3 t rfl;rw[Jo (by rw[h.size]; omega),b2];omega
 .rw[Qf ht,a4 t ht]
  exact(h.tmps t).mono he
theorem KT (i n:Nat):List.range' i (n+1)=i::List.range' (i+1) n:=AR
section
variable {rd:Option Nat} {E:Env} {L:BL} {cf:Cx} {ops:Array Oper} {Q:Exit->Act->World->Prop}
theorem Wq {i:Nat} {rest:List Nat} {o:Oper} {a:Act} {w:World} (ho:ops[i]?=some o) (hw:Region.wanted o (yielded ops a.tmps)=true) (h:o.wpIn (FW rd) 0 E.P a w (wpOpsIn (FW rd) 0 E.P ops Q rest) Q):wpOpsIn (FW rd) 0 E.P ops Q (i::rest) a w:=by grind[wpOpsIn]
theorem tW {i:Nat} {rest:List Nat} {o:Oper} {a:Act} {w:World} (ho:ops[i]?=some o) (hw:Region.wanted o (yielded ops a.tmps)=false) (h:wpOpsIn (FW rd) 0 E.P ops Q rest (a.put o.dst undef) w):wpOpsIn (FW rd) 0 E.P ops Q (i::rest) a w:=by
 simp only[wpOpsIn,ho,hw,DN,I8];exact⟨λ_ _=>trivial,h⟩
theorem Qi {i:Nat} {rest:List Nat} {o:Oper} {a:Act} {w w':World} {v:Value} (ho:ops[i]?=some o) (hg:o.guard=none) (hr:(execOp a.eval o).run E.P w=.ok (.value v) w'\/((execOp a.eval o).run E.P w=.ok .skip w'/\v=undef))
  (h:wpOpsIn (FW rd) 0 E.P ops Q rest (a.put o.dst v) w'):wpOpsIn (FW rd) 0 E.P ops Q (i::rest) a w:=by grind[Wq,Region.wanted,KQ,JK]
theorem tX {g:AP} {w:World} {st st':St} {a:Act} {o o1 o2:Oper} {k:JF} {v:AV} {s:AQ} {i:Nat} {rest:List Nat} (h:kT E g w st a) (ho:ops[i]?=some o) (ho1:ops[i+1]?=some o1) (sC:ops[i+2]?=some o2)
  (hf:fused o o1 o2=some k) (PJ:Jg E L st.U st.s k=some (v,s)) (hst:Ke st k v s=some st')
  (hk:∀a' w' g',kT E g' w' st' a'->a'.defers=a.defers->Ext L g w g' w'->st'.N=st.N->wpOpsIn (FW rd) 0 E.P ops Q rest a' w'):wpOpsIn (FW rd) 0 E.P ops Q (i::(i+1)::(i+2)::rest) a w:=by
 obtain⟨f1,f2,f3,f4,f5,f6,f7,f8,f9,f10,f11⟩:=GR hf;have hap:=Re hf;have hVx:=Av h.tmps k.x;have hVy:=Av h.tmps k.y;have hVi:=Av h.tmps k.ix;have hVv:=Av h.tmps k.v;unfold Ke at hst;split at hst
 .rename_i Gb hp1
  unfold Jg at PJ;split at PJ
  .rename_i elem hu
   split at PJ
   .rename_i Yl
    split at PJ
    .rename_i ti rows z n row fO hrows hz sD hrow
     split at PJ
     .rename_i hcnd
      obtain⟨q1,q2,q3,q4,q5,q6,q7⟩:=hcnd;have hvl:=Ej hVv q4;obtain⟨t1,t2⟩:=G5 hvl hrow;obtain⟨b,cap,vz,e,fz,w1,wv,g',a1,a2,a3,a4,a5,a6,⟨a7,a7z⟩,a8⟩:=Mj (T:=o.type) h.inv hu fO q6 q7 hVx hrows hVy hz q2 q5 (us:=(a.eval k.v).cells.toList) AA q3 t2 PJ;obtain⟨kk,TN⟩:=FP hVi sD;obtain⟨s1,n1⟩:=h.put hp1 a3 a4 a2;have hp2:Ky { Gb with s:=Gb.s } (some k.p) .Gh=some st':=hst;obtain⟨s2,n2⟩:=s1.put (u:=.pointer (some ⟨b,rows.length*ti.size,none⟩)) hp2 (Ext.refl L g' wv) s1.inv .Gh;have hszv:(a.eval k.v).cells.size=ti.size:=AB
      have hd:k.d<a.tmps.size:=by
       obtain⟨_,_,x3,_⟩:=GU hp1;rw[h.size]; grind
      have hpN:k.p<a.tmps.size:=by
       obtain⟨_,_,x3,_⟩:=GU hst;have:=(x3 k.p rfl).1;rw[h.size]; omega
      have ACe:∀z,z=k.ix\/z=k.v->∀u u',((a.put (some k.d) u).put (some k.p) u').eval z=a.eval z/\(a.put (some k.d) u).eval z=a.eval z:=λz hz u u'=>by grind[Eg]
      have hw1:w1.heap[b]?=some (.cells ⟨vz⟩ e fz):=by grind[Bh]
      refine Qi ho f8.1 (v:=.slice (some ⟨b,0,none⟩) (rows.length+1) cap) (w':=w1) (.inl ?_) ?_
      .simp[*,execOp,resolve,invoke,builtin]
      rw[f2];refine Qi ho1 f8.2.1 (v:=.pointer (some ⟨b,rows.length*ti.size,none⟩)) (w':=w1) (.inl ?_) ?_
      .have e1:(a.put (some k.d) (.slice (some ⟨b,0,none⟩) (rows.length+1) cap)).eval (.tmp k.d)=.slice (some ⟨b,0,none⟩) (rows.length+1) cap:=Jo hd
       have e2:=(ACe k.ix (.inl rfl) (.slice (some ⟨b,0,none⟩) (rows.length+1) cap) undef).2;simp[*,execOp,Instr.indexAt,asIntOf,run_underlying,run_sizeOf,DQ]
      rw[f4];refine Qi sC f8.2.2 (v:=undef) (w':=wv) (.inr ⟨?_,rfl⟩) ?_
      .have e1:((a.put (some k.d) (.slice (some ⟨b,0,none⟩) (rows.length+1) cap)).put (some k.p) (.pointer (some ⟨b,rows.length*ti.size,none⟩))).eval (.tmp k.p)=.pointer (some ⟨b,rows.length*ti.size,none⟩):=Jo (by grind[TY])
       have e2:=(ACe k.v (.inr rfl) (.slice (some ⟨b,0,none⟩) (rows.length+1) cap) (.pointer (some ⟨b,rows.length*ti.size,none⟩))).1;obtain⟨dst,op,type,pos,after,guard⟩:=o2;simp only at f5;subst f5;have hst:=FZ (P:=E.P) (b:=b) (o:=rows.length*ti.size) (e:=e) a7z (a.eval k.v).cells.toList 0 w1 vz (VL.one hvl q4) hw1 AA
       grind[EX,Lj,execOp,Instr.storeAt,Instr.sureAddr,storeVar,Sem.run_bind,Sem.run_pure,Result.andThen_ok,run_sizeOf]
      grind[Act.put]
     grind
    grind
   grind
  grind
 grind
theorem gL (Sv:H7 E L cf):∀(n i:Nat) (l:List Oper) (st st':St) (a:Act) (w:World) (g:AP),l.length=n->l=ops.toList.drop i->kT E g w st a->Iu E L cf ops l st=some st' ->
  (∀a' w' g',kT E g' w' st' a'->a'.defers=a.defers->Ext L g w g' w'->st'.N=st.N->Q .normal a' w')->wpOpsIn (FW rd) 0 E.P ops Q (List.range' i l.length) a w:=by
 intro n
 induction n using Nat.strongRecOn with
 | ind n ih=>
  intro i l st st' a w g hn hl hs h hQ;cases l with
  | nil=>
   simp[Iu] at h;subst h;exact hQ a w g hs rfl (Ext.refl _ _ _) rfl
  | cons o rest=>
   have gM:∀(j:Nat) q,(o::rest)[j]?=some q->ops[i+j]?=some q:=λj q hq=>by grind
   have ACf:∀j,(o::rest).drop j=ops.toList.drop (i+j):=λj=>by rw[hl,List.drop_drop]
   have one:(match FM ops st.U o with
     | some true=>match N1 E L cf st o with
      | some st=>Iu E L cf ops rest st
      | none=>none
     | some false=>match Ky st o.dst (.tuple []) with
      | some st=>Iu E L cf ops rest st
      | none=>none
     | none=>none)=some st'->wpOpsIn (FW rd) 0 E.P ops Q (List.range' i (o::rest).length) a w:=by
    intro h;rw[Bt,KT];have hlt:rest.length<n:=AB;have ANi:rest=ops.toList.drop (i+1):=AB;split at h
    .rename_i hg
     split at h
     .rename_i Gb hst
      unfold N1 at hst;split at hst
      .rename_i v s hact
       refine Wq (gM 0 o rfl) (DM hs.tmps hg) (OM Sv hs.inv hs.tmps hact λv' w' g' hV hE hI=>?_);obtain⟨s1,n1⟩:=hs.put hst hE hI hV;exact ih rest.length hlt (i+1) rest Gb st' _ w' g' rfl ANi s1 h λa' w'' g'' q1 q2 q3 q4=>hQ a' w'' g'' q1 (q2.trans (put_defers _ _ _)) (hE.trans q3) (q4.trans n1)
      grind
     grind
    .rename_i hg
     split at h
     .rename_i Gb hst
      refine tW (gM 0 o rfl) (DM hs.tmps hg) ?_;obtain⟨s1,n1⟩:=hs.put (L:=L) (s:=st.s) hst (Ext.refl L g w) hs.inv V.undef
      grind[put_defers]
     grind
    grind
   unfold Iu at h;simp only at h;split at h
   .rename_i o1 o2 rest'
    split at h
    .rename_i k hf
     split at h
     .rename_i v s PJ
      split at h
      .rename_i Gb hst
       have hlt:rest'.length<n:=AB;simp only[Bt];rw[KT,KT,KT];refine tX hs (gM 0 o rfl) (gM 1 o1 rfl) (gM 2 o2 rfl) hf PJ hst λa' w' g' q1 q2 q3 q4=>?_
       exact ih rest'.length hlt (i+3) rest' Gb st' a' w' g' rfl AB q1 h λa'' w'' g'' p1 p2 p3 p4=>hQ a'' w'' g'' p1 (p2.trans q2) (q3.trans p3) (p4.trans q4)
      grind
     grind
    grind
   grind
end
end Go.Tel
