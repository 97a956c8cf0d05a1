/-
  A region with a drawn order: one operation more while a row is open; all of them.
-/
import Derived.Test.YtpgfpakdnijngaaGreatDoorEvF
set_option linter.all false
namespace Go.Tel
section
variable {rd:Option Nat} {E:Env} {L:BI} {cf:Cu} {ops:Array Oper} {p:Bl} {K N:Nat} {U0 Uf:Nat->AV} {σ:Nat->AQ} {ds:List Deferred} {g0:AP} {w0:World} {Q:Exit->Act->World->Prop}
theorem Open.more {P:Program} {q:AV} {X:Prop} {kf:JO} {Dj:Prop} {a:Act} {g:AP} {w wv:World} {d:Option Tmp} {v:Value} (h:Open P q X kf Dj a g w wv)
  (hd:d≠some kf.d) (hp:d≠some kf.p) (hi:∀t,kf.ix=.tmp t->d≠some t) (hv:∀t,kf.v=.tmp t->d≠some t):Open P q X kf Dj (a.put d v) g w wv:=by
 obtain⟨b,cap,len,vz,e,fz,xv,kk,elem,ti,h1,h2,h3,h4,h5,h6,h7,h8,h9,h10,h11,h12,h13⟩:=h;refine⟨b,cap,len,vz,e,fz,xv,kk,elem,ti,h1,h2,h3,?_,?_,?_,h7,h8,h9,h10,h11,h12,λq=>?_⟩
 all_goals grind[Eh]
theorem pZ (R:We E L cf ops p K N U0 Uf σ) {D:Nat->Prop} (hD:Down ops D) {a:Act} {k:Nat} {g:AP} {w wv:World} (h:Core E L ops p K N U0 Uf σ ds g0 w0 D a k g wv)
  {i r j x:Nat} {o o1 o2:Oper} {kf:JO} (hi:ops[i]?=some o) (Hz:p.cls[i]?=some (.fa r j x)) (h1:ops[j]?=some o1) (h2:ops[x]?=some o2) (hf:fused o o1 o2=some kf) (pY:D i) (hnx:¬ D x) (hsh:N3 ops p D i)
  (hop:Open E.P (Uf kf.d) (Qm E L ops i j x=true) kf (D j) a g w wv)
  {m:Nat} {om:Oper} (hm:ops[m]?=some om) (hn:¬ D m) (hr:∀e∈om.after,Region.binds .any e=true->D e.on) :
  wpOpIn (FW rd) 0 E.P ops Q m (J E L ops p K N U0 Uf σ ds g0 w0 (λi=>D i\/i=m)) a w:=by
 obtain⟨o1',o2',kf',bV,h2',c1,c2,hf',u1,u2,u3,p1,p2,p3,v0,PY,tR,hvp⟩:=R.uV i o r j x hi Hz;rw[h1] at bV; simp at bV; subst bV;rw[h2] at h2'; simp at h2'; subst h2';rw[hf] at hf'; simp at hf'; subst hf';obtain⟨f1,f2,f3,f4,f5,f6,f7,f8,f9,f10,f11⟩:=GR hf;have hmi:m≠i:=λe=>hn (e ▸ pY)
 have E7:∀(i:Nat) o ts d id,ops[i]?=some o->p.cls[i]?=some (.h ts)->o.dst=some d->KN (Uf d)=some id->¬ D i->i≠m->g.DM id:=
  λi o ts d id ho Hz hd hid hnD _=>h.DM i o ts d id ho Hz hd hid hnD
 have hxm:x≠m->¬ (D x\/x=m):=λe q=>q.elim hnx e
 by_cases hmj:m=j
 .subst hmj
  rw[h1] at hm; simp at hm; subst hm;obtain⟨b,cap,len,vz,e,fz,xv,kk,elem,ti,k1,k2,k3,k4,k5,k6,k7,k8,k9,k10,tT,k12,k13⟩:=hop;have hrun:(execOp a.eval o1).run E.P w=.ok (.value (.pointer (some ⟨b,len*ti.size,none⟩))) w:=by simp[*,execOp,Instr.indexAt,asIntOf,run_underlying,run_sizeOf,DT]
  have hxj:x≠m:=λe=>by grind
  have hs:N3 ops p (λi=>D i\/i=m) i:=N3.more h1 (λ_ _ _ e=>by grind) hsh;refine Nn h1 f8.2.1 hrun ⟨k,g,wv,h.push R h1 (.inl ⟨lu c1,rfl⟩) h.ext (λ_ _ q=>q) h.inv (λd hd=>?_) E7,.inr ?_⟩
  .rw[f4] at hd; simp at hd; subst hd; rw[hvp]; exact .Gm
  .refine⟨i,o,r,m,x,o1,o2,kf,hi,Hz,h1,h2,hf,.inl pY,hxm hxj,hs,b,cap,len,vz,e,fz,xv,kk,elem,ti,k1,k2,k3,?_,?_,?_,k7,k8,k9,k10,tT,k12,λ_=>?_⟩
   .grind[Eh]
   .rw[f4,Eh (λt ht hdt=>?_)]
    .omega
    .simp at hdt
     subst hdt;have:kf.p∈GQ o1:=DZ.2 (by grind[Op.operands]);rcases R.read m m o1 o1 kf.p h1 h1 f4 (JH _ this) with ⟨q1,_⟩|⟨_,q2⟩
     .grind[has]
     .exact absurd (R.uX m o1 m h1 q2) (PC _)
   .grind[Eh]
   .rw[f4]; exact Ju (by rw[h.size]; exact R.uW m o1 kf.p h1 f4)
 by_cases hmx:m=x
 .subst hmx
  rw[h2] at hm; simp at hm; subst hm;have hDj:D j:=R.Lx hD m o2 j h2 hr p2;obtain⟨b,cap,len,vz,e,fz,xv,kk,elem,ti,k1,k2,k3,k4,k5,k6,k7,k8,k9,k10,tT,k12,k13⟩:=hop;have hpt:=k13 hDj;have pg:w.heap[b]?=some (.cells ⟨vz⟩ e fz):=by grind[Bj]
  have hrun:(execOp a.eval o2).run E.P w=.ok .skip wv:=by
   obtain⟨dst,op,type,pos,after,guard⟩:=o2;simp only at f5;subst f5;have hst:=Ff (P:=E.P) (b:=b) (o:=len*ti.size) (e:=e) tT.2 xv.cells.toList 0 w vz k8 pg AB
   grind[Ea,Lt,execOp,Instr.storeAt,Instr.sureAddr,storeVar,Sem.run_bind,Sem.run_pure,Result.andThen_ok,run_sizeOf]
  have hs:∀i',N3 ops p (λi=>D i\/i=m) i':=by
   intro i' q o' r' j' x' ho' LH hi' hne;rcases hi' with hi' | hi'
   .by_cases e:q=i
    .grind
    .exact .inl (hsh q o' r' j' x' ho' LH hi' e)
   grind
  refine LG h2 (by grind[Region.wanted]) ?_;exact JS hrun ⟨k,g,wv,h.push R h2 (.inl ⟨lz c2,rfl⟩) h.ext (λ_ _ q=>q) h.inv (λd hd=>by grind) E7,.inl ⟨rfl,hs⟩⟩
 obtain⟨hw1,tP⟩:=R.win i o r j x hi Hz m om hm hmi hmj hmx;have ADX:m∉D3 p i:=λq=>hn (R.Mo hD hi pY q)
 have uf:Zf ops p m=true:=by
  rcases hw1 with q|q|q
  .grind
  .exact absurd (R.Lx hD m om x hm hr q) hnx
  omega
 have dd:om.dst≠some kf.d:=λe=>hmi (R.dst m i om o kf.d hm hi e f2)
 have dp:om.dst≠some kf.p:=λe=>hmj (R.dst m j om o1 kf.p hm h1 e f4)
 have di:∀t,kf.ix=.tmp t->om.dst≠some t:=λt ht e=>ADX (tP t e (.inl (by grind[D8,DZ,Op.operands])))
 have dv:∀t,kf.v=.tmp t->om.dst≠some t:=λt ht e=>ADX (tP t e (.inr (by grind[D8,DZ,Op.operands])))
 have hag:=R.agree hD hm hn hr;have ABR:Open E.P (Uf kf.d) (Qm E L ops i j x=true) kf (D j\/j=m) a g w wv:=AB;unfold Zf at uf;split at uf
 .rename_i o' ts ho' hc
  rw[hm] at ho'; simp at ho'; subst ho';have hs:N3 ops p (λi=>D i\/i=m) i:=N3.more hm (λ_ _ _ e=>by grind) hsh;obtain⟨v,hq,hv⟩:=R.qF m om ts k hm hc (h.ua R hD hm hn hr (.inl hc));rw[<-JR hag] at hq;have AOZ:(∃x,om.op=.nilCheck x)\/(∃t x f,om.op=.fieldAddr t x f)\/(∃x,om.op=.move x):=AB;unfold FU at hq;split at hq
  .rename_i hg
   obtain⟨v',hrun,hV⟩:=uU AOZ h.inv h.tmps hq;refine LG hm (DR h.tmps hg) ?_
   exact Kb (hrun w) ⟨k,g,wv,h.push R hm (.inl ⟨Qw hc,rfl⟩) h.ext (λ_ _ q=>q) h.inv (λd hd=>by grind) E7,
    .inr ⟨i,o,r,j,x,o1,o2,kf,hi,Hz,h1,h2,hf,.inl pY,hxm (GK hmx),hs,ABR.more dd dp di dv⟩⟩
  .rename_i hg
   simp only[BN] at hq;subst hq;refine TN hm (DR h.tmps hg) ?_
   exact⟨k,g,wv,h.push R hm (.inl ⟨Qw hc,rfl⟩) h.ext (λ_ _ q=>q) h.inv (λd hd=>by grind[V.undef]) E7,
    .inr ⟨i,o,r,j,x,o1,o2,kf,hi,Hz,h1,h2,hf,.inl pY,hxm (GK hmx),hs,ABR.more dd dp di dv⟩⟩
  grind
 .rename_i o' r' ho' hc
  rw[hm] at ho'; simp at ho'; subst ho';have hs:N3 ops p (λi=>D i\/i=m) i:=N3.more hm (λ_ _ _ e=>by grind) hsh;have hk:=h.now R hD hm hn hr (Ku hc);subst hk;obtain⟨v,hact,hv⟩:=R.wF m om r' hm hc;rw[<-OX hag] at hact;unfold OS at hact;split at hact
  .rename_i hg
   split at uf
   .rename_i t y z e
    rw[PO] at hact;unfold pO at hact;rw[e] at hact;simp only at hact;obtain⟨dst,op,type,pos,after,guard⟩:=om;simp only at e;subst e;simp only[Cl] at hact;split at hact
    .rename_i s1 hst
     simp only[BN,BT] at hact;obtain⟨rfl,rfl⟩:=hact;obtain⟨id,b',vs',e',⟨off',hptr⟩,hb',he1,hi1,AYm⟩:=ia h.inv (Aw h.tmps y) (Aw h.tmps z) hst;obtain⟨b,cap,len,vz,e,fz,xv,kk,elem,ti,k1,k2,k3,k4,k5,k6,k7,k8,k9,k10,tT,k12,k13⟩:=ABR
     have Zb:b'≠b:=by
      intro q;rcases k12 with ⟨tk,tl,k12,AYn⟩|⟨FV,AYo,n0,sz0,hq0,hb0,hX⟩
      .exact h.inv.DN id b' tk tl hb' k12 (by rw[AYn,q])
      .subst q
       have hid:=h.inv.FK id FV b' hb' hb0;refine R.mu i o r j x kf.d FV AYo n0 sz0 hX hi Hz f2 hq0 m _ r' t y z hm hc rfl id off' ?_ hid
       grind[KZ,DZ,Op.operands]
     have hrun:=AYm w (by grind[Bj]);refine LG hm (DR h.tmps hg) ?_;refine JS (w':=BO w b' vs' e') (by grind[execOp,Sem.run_bind,Result.andThen_ok,Sem.run_pure]) ?_
     refine⟨r'+1,g,BO wv b' vs' e',h.push R hm (.inr ⟨Ku hc,rfl⟩) (h.ext.trans he1) (λ_ _ q=>q.mono he1) hi1 (λd hd=>by grind[V.undef]) E7,
      .inr ⟨i,o,r,j,x,o1,o2,kf,hi,Hz,h1,h2,hf,.inl pY,hxm (GK hmx),hs,?_⟩⟩
     refine Open.more ⟨b,cap,len,vz,e,fz,xv,kk,elem,ti,k1,k2,k3,k4,k5,k6,k7,k8,?_,?_,tT,k12,k13⟩ dd dp di dv
     all_goals grind[Bj,Zm]
    grind
   grind
  .rename_i hg
   simp only[BN,BT] at hact;obtain⟨rfl,hst⟩:=hact;refine TN hm (DR h.tmps hg) ?_
   exact⟨r'+1,g,wv,h.push R hm (.inr ⟨Ku hc,rfl⟩) h.ext (λ_ _ q=>q) (hst ▸ h.inv) (λd hd=>by grind[V.undef]) E7,
    .inr ⟨i,o,r,j,x,o1,o2,kf,hi,Hz,h1,h2,hf,.inl pY,hxm (GK hmx),hs,ABR.more dd dp di dv⟩⟩
  grind
 grind
theorem ug (R:We E L cf ops p K N U0 Uf σ) (TL:IE E L cf) {D:Nat->Prop} (hD:Down ops D) {a:Act} {w:World}
  (hnp:∀(i:Nat) o ts d id,ops[i]?=some o->p.cls[i]?=some (.h ts)->o.dst=some d->KN (Uf d)=some id->¬ g0.DM id) (h:J E L ops p K N U0 Uf σ ds g0 w0 D a w)
  {m:Nat} {om:Oper} (hm:ops[m]?=some om) (hn:¬ D m) (hr:∀e∈om.after,Region.binds .any e=true->D e.on) :
  wpOpIn (FW rd) 0 E.P ops Q m (J E L ops p K N U0 Uf σ ds g0 w0 (λi=>D i\/i=m)) a w:=by
 obtain⟨k,g,wv,AOa,⟨rfl,hs⟩|⟨i,o,r,j,x,o1,o2,kf,hi,Hz,h1,h2,hf,pY,hnx,hsh,hop⟩⟩:=h
 .grind[cJ]
 .exact pZ R hD AOa hi Hz h1 h2 hf pY hnx hsh hop hm hn hr
def F7 (listed:Array Bool) (i:Nat):Prop:=listed.getD i false=true
theorem F7.set {listed:Array Bool} {m:Nat} (hm:m<listed.size):F7 (listed.setIfInBounds m true)=λi=>F7 listed i\/i=m:=by
 funext i
 apply propext;unfold F7
 by_cases h:i=m
 all_goals simp[*,GK]
theorem uh {n m:Nat} {q q':Nat->Bool} (hm:m<n) (h1:∀i,q' i=true->q i=true) (h2:q m=true) (h3:q' m=false):(List.range n).countP q'<(List.range n).countP q:=by
 induction n with
 | zero=>omega
 | succ n ih=>
  rw[List.range_succ,S6,S6];have hle:(List.range n).countP q'<=(List.range n).countP q:=List.countP_mono_left λi _=>h1 i
  grind
theorem uj (R:We E L cf ops p K N U0 Uf σ) (TL:IE E L cf)
  (hnp:∀(i:Nat) o ts d id,ops[i]?=some o->p.cls[i]?=some (.h ts)->o.dst=some d->KN (Uf d)=some id->¬ g0.DM id)
  (hQ:∀D a w,(∀i,i<ops.size->D i)->J E L ops p K N U0 Uf σ ds g0 w0 D a w->Q .normal a w) :
  ∀(fuel:Nat) (listed:Array Bool) (a:Act) (w:World),listed.size=ops.size->Down ops (F7 listed)->J E L ops p K N U0 Uf σ ds g0 w0 (F7 listed) a w ->
   (List.range ops.size).countP (λi=>!(listed.getD i false))<=fuel->wpAnyIn (FW rd) 0 E.P .any ops Q fuel listed a w:=by
 have done:∀(listed:Array Bool) (a:Act) (w:World),listed.size=ops.size->J E L ops p K N U0 Uf σ ds g0 w0 (F7 listed) a w->Region.ready .any ops listed=[]->Q .normal a w:=by
  intro listed a w hsz hJ hrd;refine hQ (F7 listed) a w ?_ hJ;intro i
  induction i using Nat.strongRecOn with
  | ind i ih=>
   intro hi;rcases Classical.em (F7 listed i) with x|x
   .exact x
   .exfalso
    have:i∈Region.ready .any ops listed:=mem_ready.2 ⟨by grind[F7],ops[i],AD,λe he hb=>by
      have:=R.ABK i ops[i] e AD he hb;exact ih e.on this AA⟩
    grind
 intro fuel
 induction fuel with
 | zero=>
  intro listed a w hsz hD hJ hc
  have hrd:Region.ready .any ops listed=[]:=by
   apply List.eq_nil_iff_forall_not_mem.2
   grind[mem_ready,List.countP_eq_zero]
  exact⟨hrd,done listed a w hsz hJ hrd⟩
 | succ fuel ih=>
  intro listed a w hsz hD hJ hc;refine⟨done listed a w hsz hJ,λm hmr=>?_⟩;obtain⟨h0,om,hm,hall⟩:=mem_ready.1 hmr;have hlt:=Cr hm;have AOb:m<listed.size:=AA;have h0':listed.getD m false=false:=AB;have hn:¬ F7 listed m:=by grind[F7]
  refine wpOpIn_mono (λa' w' hJ'=>?_) (ug R TL hD hnp hJ hm hn hall);rw[<-F7.set AOb] at hJ';refine ih _ a' w' AB ?_ hJ' ?_
  .rw[F7.set AOb]
   intro i o e ho hi he hb;rcases hi with hi|rfl
   .exact .inl (hD i o e ho hi he hb)
   .rw[hm] at ho; simp at ho; subst ho
    exact .inl (hall e he hb)
  .have:=uh (n:=ops.size) (m:=m) (q:=λi=>!(listed.getD i false)) (q':=λi=>!((listed.setIfInBounds m true).getD i false)) hlt (λi hi=>by
    have hne:i≠m:=λe=>by simp_all
    simp_all[GK]) AB (by simp[*])
   omega
theorem ic (R:We E L cf ops p K N U0 Uf σ) (TL:IE E L cf) (ie:E.P.follows .mixedOrders=true) {a:Act} {w:World} {g g1:AP} {id:Nat}
  (hnp:∀(i:Nat) o ts d id,ops[i]?=some o->p.cls[i]?=some (.h ts)->o.dst=some d->KN (Uf d)=some id->¬ g.DM id)
  (h1:Ext L g w g1 w) (hI:Inv E g1 w (σ 0)) (hsz:a.tmps.size=N) (hU:∀t,V g1 w (U0 t) (a.tmps.getD t undef))
  (hpd:∀(i:Nat) o ts d id,ops[i]?=some o->p.cls[i]?=some (.h ts)->o.dst=some d->KN (Uf d)=some id->g1.DM id)
  (hQ:∀a' w' g',a'.tmps.size=N->a'.defers=a.defers->Ext L g w g' w'->Inv E g' w' (σ K)->(∀t,V g' w' (Uf t) (a'.tmps.getD t undef))->Q .normal a' w') :
  (Code.region id ops true).wpIn (FW rd) 0 E.P Q a w:=by
 obtain⟨e1,i1⟩:=hI.drew (L:=L);refine wpIn_region_any ie (uj (ds:=a.defers) (g0:=g) (w0:=w) R TL hnp ?_ ops.size _ a (Bd w) AD ?_ ?_ ?_)
 .rintro D a' w' hall ⟨k,g',wv,hc,AYp⟩
  have hK:k=K:=by
   have:=hc.kK;rcases Fq k K with x|x
   .obtain⟨i,o,ho,hr⟩:=R.AGp k x
    have:=(hc.time i o k ho hr).1 (hall i (Cr ho));omega
   omega
  subst hK;rcases AYp with ⟨rfl,_⟩|⟨i,o,r,j,x,o1,o2,kf,_,_,_,h2,_,_,hnx,_⟩
  .refine hQ a' w' g' hc.size hc.defers hc.ext hc.inv λt=>?_
   have:=hc.tmps t
   by_cases hw:∃(i:Nat) (o:Oper),ops[i]?=some o/\o.dst=some t
   .grind[Tx]
   .rw[R.Tz λi o ho hd=>hw ⟨i,o,ho,hd⟩] at this
    omega
  grind
 .intro i o e ho hi
  simp_all[Cr,F7]
 .have hnone:∀i,¬ F7 (Array.replicate ops.size false) i:=λi hi=>by
   unfold F7 at hi
   by_cases hlt:i<ops.size
   all_goals simp_all
  refine⟨0,g1,Bd w,⟨AO _,λi o r ho hr=>⟨λq=>absurd q (hnone i),λq=>by omega⟩,hsz,rfl,h1.trans e1,i1,λt=>?_,λi o ts d id ho hc hd hid _=>hpd i o ts d id ho hc hd hid⟩,
   .inl ⟨rfl,λi i' o' r' j' x' ho' LH hi' _=>absurd hi' (hnone i')⟩⟩
  rw[TM λi o _ _=>hnone i];exact(hU t).mono e1
 grind[List.countP_le_length]
end
theorem PZ {l:List Nat} {x:Nat}:has l x=true<->x∈l:=by grind[has,Nat.eq_of_beq_eq_true,Nat.beq_refl]
theorem LI {l:List Nat} {x:Nat}:has l x=false<->x∉l:=by grind[PZ]
theorem Mp {l:List (Nat×Nat)} {i k:Nat} (h:Nl l i k=true):(i,k)∈l:=by grind[Nl,Nat.eq_of_beq_eq_true]
theorem HJ {n:Nat} {f:Nat->Bool} (h:(List.range n).all f=true) {i:Nat} (hi:i<n):f i=true:=DE.1 h i AB
theorem De {ops:Array Oper} {i d:Nat}:d∈F6 ops i<->∃o,ops[i]?=some o/\o.dst=some d:=by grind[F6,lg]
theorem GU {st st':St} {d:Option Nat} {v:AV} (h:K7 st d v=some st') :
  st'.N=st.N/\st'.s=st.s/\(∀e,d=some e->e<st.N/\st'.U e=v)/\∀t,d≠some t->st'.U t=st.U t:=by
 unfold K7 at h;split at h
 .grind
 .rename_i e
  cases hb:Nat.blt e st.N with
  | false=>grind
  | true=>
   simp[hb] at h; subst h;refine⟨rfl,rfl,λe' he=>?_,λt ht=>?_⟩
   .simp_all[upd]
   grind[Nat.eq_of_beq_eq_true,upd]
theorem LJ {E:Env} {U:Nat->AV} {o:Oper} {cs:List AV} {mk:Nat->AV} (h:hcells E U o=some (cs,mk)):∀id,KN (mk id)=some id:=by
 obtain⟨dst,op,type,pos,after,guard⟩:=o;cases op with
 | alloc t=>
  simp only[hcells] at h;split at h
  .cases hbz:E.bz t with
   | true=>grind
   | false=>
   rw[hbz] at h;simp only[AL,BN,BT] at h;obtain⟨_,rfl⟩:=h;intro id; rfl
  grind
 | makeSlice t l c=>
  simp only[hcells] at h;split at h
  .split at h
   .split at h
    .simp only[BN,BT] at h
     obtain⟨_,rfl⟩:=h;intro id; rfl
    grind
   grind
  grind
 | _=>grind[hcells]
def T7 (ops:Array Oper) (p:Bl) (U0 Uf U:Nat->AV) (i:Nat):Prop:=∀t∈pV ops p i,U t=Fw p.GI U0 Uf i t
theorem Qx {ops:Array Oper} {p:Bl} {U0 Uf:Nat->AV} {done:List Nat} {i:Nat} {rest:List Nat} {st:St} (ho:Ia ops p done (i::rest)=true) (h0:∀t,t∉done->st.U t=U0 t)
  (hf:∀t,(∀j∈i::rest,t∉Hv ops p j)->Uf t=st.U t):T7 ops p U0 Uf st.U i:=by
 intro t ht
 grind[Ia,Fw,PZ]
theorem T8 {ops:Array Oper} {p:Bl} {done:List Nat} {i:Nat} {rest:List Nat} (ho:Ia ops p done (i::rest)=true) :
  Ia ops p (Hv ops p i++done) rest=true/\∀t∈Hv ops p i,∀j∈rest,t∉Hv ops p j:=by grind[Ia,PZ]
theorem Ly {ops:Array Oper} {p:Bl} {i:Nat} {o:Oper} (hi:ops[i]?=some o) (hc:(∃ts,p.cls[i]?=some (.q ts))\/(∃ts,p.cls[i]?=some (.h ts))\/(∃r,p.cls[i]?=some (.w r))) :
  pV ops p i=HI ops o++GQ o/\Hv ops p i=F6 ops i:=by grind[pV,Hv,D8]
section
variable {rd:Option Nat} {E:Env} {L:BI} {cf:Cu} {ops:Array Oper} {p:Bl} {U0:Nat->AV}
structure uk (E:Env) (L:BI) (cf:Cu) (ops:Array Oper) (p:Bl) (U0 Uf:Nat->AV) (N:Nat) (σ:Nat->AQ) (i:Nat):Prop where
 q:∀ts,p.cls[i]?=some (.q ts)->∃o k v,ops[i]?=some o/\FU E L ops (Fw p.GI U0 Uf i) (σ k) o=some v/\(∀d,o.dst=some d->d<N/\Uf d=v)/\∀t∈ts,t=k\/OV ops i=true\/(i,t)∈p.WV
 w:∀r,p.cls[i]?=some (.w r)->∃o v,ops[i]?=some o/\OS E L cf ops (Fw p.GI U0 Uf i) (σ r) o=some (v,σ (r+1))/\∀d,o.dst=some d->d<N/\Uf d=v
 fa:∀r j x,p.cls[i]?=some (.fa r j x)->∃o o1 o2 k v U,ops[i]?=some o/\ops[j]?=some o1/\ops[x]?=some o2/\fused o o1 o2=some k/\K9 E L U (σ r) k=some (v,σ (r+1))/\T7 ops p U0 Uf U i /\
  k.d<N/\k.p<N/\Uf k.d=v/\Uf k.p=.Gm
 h:∀ts,p.cls[i]?≠some (.h ts)
def JD (acc:List AQ) (k:Nat):AQ:=(acc.reverse[k]?).getD ⟨[],[]⟩
theorem Nq {new acc:List AQ} {k:Nat} (h:acc.length=k+1):JD (new++acc) k=(acc.head?).getD ⟨[],[]⟩:=by
 unfold JD;rw[List.reverse_append,CX AB];cases acc with
 | nil=>rfl
 | cons s acc=>
  grind
theorem ig {K:Nat} {Rw:St} {KO:List AQ}:∀(rest:List Nat) (done:List Nat) (st:St) (acc:List AQ) (k:Nat),Ia ops p done rest=true->(∀t,t∉done->st.U t=U0 t) ->
  Kt ops p rest k=some K->acc.length=k+1->acc.head?=some st.s->Hf E L cf ops p.cls rest st acc=some (Rw,KO) ->
  Rw.N=st.N/\(∀t,(∀j∈rest,t∉Hv ops p j)->Rw.U t=st.U t)/\(∃new,KO=new++acc)/\KO.length=K+1/\KO.head?=some Rw.s/\k<=K /\
  (∀i∈rest,uk E L cf ops p U0 Rw.U st.N (JD KO) i)/\(∀i∈rest,∀r,FM p i=some r->r<K)/\(∀r,k<=r->r<K->∃i∈rest,FM p i=some r):=by
 intro rest
 induction rest with
 | nil=>
  intro done st acc k ho h0 hr hl hh h
  simp_all[Hf,Kt]
 | cons i rest ih=>
  intro done st acc k ho h0 hr hl hh h;obtain⟨ho',KP⟩:=T8 ho
  have tail:∀(st':St) (acc':List AQ) (k':Nat),st'.N=st.N->(∀t,t∉Hv ops p i->st'.U t=st.U t)->Kt ops p rest k'=some K->acc'.length=k'+1->acc'.head?=some st'.s->(∃n,acc'=n++acc) ->
    Hf E L cf ops p.cls rest st' acc'=some (Rw,KO)->((FM p i=none/\k'=k)\/(FM p i=some k/\k'=k+1)) ->
    ((∀t,(∀j∈rest,t∉Hv ops p j)->Rw.U t=st'.U t)->T7 ops p U0 Rw.U st.U i->JD KO k=st.s->JD KO k'=st'.s->uk E L cf ops p U0 Rw.U st.N (JD KO) i) ->
    Rw.N=st.N/\(∀t,(∀j∈i::rest,t∉Hv ops p j)->Rw.U t=st.U t)/\(∃new,KO=new++acc)/\KO.length=K+1/\KO.head?=some Rw.s/\k<=K /\
    (∀j∈i::rest,uk E L cf ops p U0 Rw.U st.N (JD KO) j)/\(∀j∈i::rest,∀r,FM p j=some r->r<K)/\(∀r,k<=r->r<K->∃j∈i::rest,FM p j=some r):=by
   intro st' acc' k' hN hfr hr' hl' hh' hacc hrun cG AOc;have h0':∀t,t∉Hv ops p i++done->st'.U t=U0 t:=λt ht=>by grind
   obtain⟨t1,t2,⟨new,t3⟩,t4,t5,t6,t7,t8,t9⟩:=ih _ st' acc' k' ho' h0' hr' hl' hh' hrun
   have hframe:∀t,(∀j∈i::rest,t∉Hv ops p j)->Rw.U t=st.U t:=λt ht=>by
    rw[t2 t (λj hj=>ht j (FP _ hj)),hfr t (ht i (Li ..))]
   obtain⟨n,rfl⟩:=hacc;have Te:JD KO k=st.s:=by grind[Nq]
   have hk2:JD KO k'=st'.s:=by grind[Nq]
   have hi:=AOc t2 (Qx ho h0 hframe) Te hk2;refine⟨t1.trans hN,hframe,⟨new++n,by rw[t3,Db]⟩,t4,t5,AA,λj hj=>?_,λj hj r tU=>?_,λr h1 h2=>?_⟩
   all_goals grind
  simp only[Hf] at h;simp only[Kt] at hr;split at h
  .rename_i o ts Sh Hz
   rw[Hz] at hr;simp only at hr;obtain⟨r1,r2⟩:=Ly Sh (.inl ⟨ts,Hz⟩);cases hall:(ts.all λt=>Nat.beq t k||OV ops i||Nl p.WV i t) with
   | false=>grind
   | true=>
    rw[hall] at hr;simp only[AN] at hr;split at h
    .rename_i v hq
     split at h
     .rename_i st' hp
      obtain⟨a1,a2,a3,a4⟩:=GU hp;refine tail st' acc k a1 (λt ht=>a4 t λe=>ht (by grind[De])) hr hl AB ⟨[],rfl⟩ h (.inl ⟨Qw Hz,rfl⟩) λhfr hag hs1 hs2=>?_
      refine⟨λts' h'=>?_,λr h'=>by grind,λr j x h'=>by grind,λts' h'=>by grind⟩;rw[Hz] at h'; simp at h'; subst h';refine⟨o,k,v,Sh,?_,λd hd=>⟨(a3 d hd).1,?_⟩,λt ht=>?_⟩
      .rw[hs1,<-JR (λt ht=>hag t AB)]; omega
      .grind[De]
      grind[Nat.eq_of_beq_eq_true,Mp]
     grind
    grind
  .rename_i o r Sh Hz
   rw[Hz] at hr;simp only at hr;obtain⟨r1,r2⟩:=Ly Sh (.inr (.inr ⟨r,Hz⟩));cases cG:Nat.beq r k with
   | false=>grind
   | true=>
    rw[cG] at hr;simp only[AN] at hr;have cG:=B9 cG;subst cG;split at h
    .rename_i v s' hact
     split at h
     .rename_i st' hp
      obtain⟨a1,a2,a3,a4⟩:=GU hp;refine tail st' (s'::acc) (r+1) a1 (λt ht=>a4 t λe=>ht (by grind[De])) hr AB AB ⟨[s'],rfl⟩ h (.inr ⟨Ku Hz,rfl⟩) λhfr hag hs1 hs2=>?_
      refine⟨λts' h'=>by grind,λr' h'=>?_,λr j x h'=>by grind,λts' h'=>by grind⟩;rw[Hz] at h'; simp at h'; subst h';refine⟨o,v,Sh,?_,λd hd=>⟨(a3 d hd).1,?_⟩⟩
      .rw[hs1,hs2,a2,<-OX (λt ht=>hag t AB)]; omega
      grind[De]
     grind
    grind
  .rename_i o r j x Sh Hz
   rw[Hz] at hr;simp only at hr;cases cG:Nat.beq r k with
   | false=>grind
   | true=>
    rw[cG] at hr;simp only[AN] at hr;have cG:=B9 cG;subst cG;split at h
    .rename_i o1 o2 uY hox
     split at h
     .rename_i kf hf
      obtain⟨f1,f2,f3,f4,f5,f6,f7,f8,f9,f10,f11⟩:=GR hf;have hew:Hv ops p i=[kf.d,kf.p]:=by grind[Hv,F6,lg]
      split at h
      .rename_i v s' PY
       split at h
       .rename_i st' hp
        unfold Ks at hp;split at hp
        .rename_i Gf hp1
         obtain⟨a1,a2,a3,a4⟩:=GU hp1;obtain⟨b1,b2,b3,b4⟩:=GU hp;obtain⟨a31,a32⟩:=a3 kf.d rfl;obtain⟨b31,b32⟩:=b3 kf.p rfl;refine tail st' (s'::acc) (r+1) (b1.trans a1) (λt ht=>?_) hr AB AB ⟨[s'],rfl⟩ h (.inr ⟨Kc Hz,rfl⟩) λhfr hag hs1 hs2=>?_
         .rw[hew] at ht
          simp at ht;rw[b4 t (λe=>ht.2 AB),a4 t (λe=>ht.1 AB)]
         .refine⟨λts' h'=>by grind,λr' h'=>by grind,λr' j' x' h'=>?_,λts' h'=>by grind⟩
          rw[Hz] at h'; simp at h'; obtain⟨rfl,rfl,rfl⟩:=h';refine⟨o,o1,o2,kf,v,st.U,Sh,uY,hox,hf,?_,hag,a31,AB,?_,?_⟩
          .grind
          .grind
          grind
        grind
       grind
      grind
     grind
    grind
  .rename_i o Sh Hz
   rw[Hz] at hr
   exact tail st acc k rfl (λ_ _=>rfl) hr hl hh ⟨[],rfl⟩ h (.inl ⟨lu Hz,rfl⟩) λ_ _ _ _=>
    ⟨λts' h'=>by grind,λr' h'=>by grind,λr' j' x' h'=>by grind,λts' h'=>by grind⟩
  .rename_i o Sh Hz
   rw[Hz] at hr
   exact tail st acc k rfl (λ_ _=>rfl) hr hl hh ⟨[],rfl⟩ h (.inl ⟨lz Hz,rfl⟩) λ_ _ _ _=>
    ⟨λts' h'=>by grind,λr' h'=>by grind,λr' j' x' h'=>by grind,λts' h'=>by grind⟩
  grind
structure AGv (E:Env) (L:BI) (ops:Array Oper) (p:Bl) (U0 Uf:Nat->AV) (N lo hi:Nat) (i:Nat):Prop where
 q:∀ts,p.cls[i]?=some (.q ts)->∃o s v,ops[i]?=some o/\FU E L ops (Fw p.GI U0 Uf i) s o=some v/\(∀d,o.dst=some d->d<N/\Uf d=v)/\∀t∈ts,OV ops i=true\/(i,t)∈p.WV
 h:∀ts,p.cls[i]?=some (.h ts)->∃o cs mk id,ops[i]?=some o/\hcells E (Fw p.GI U0 Uf i) o=some (cs,mk)/\(∀d,o.dst=some d->d<N/\Uf d=mk id)/\lo<=id/\id<hi/\∀t∈ts,(i,t)∈p.WV
 n:FM p i=none/\p.cls[i]?≠some .fj/\p.cls[i]?≠some .fx
theorem Rx {Gf:St} {rest:List Nat} {Uf:Nat->AV} (pn:∀t,(∀j∈rest,t∉Hv ops p j)->Uf t=Gf.U t):∀(first:List Nat) (done:List Nat) (st:St),Ia ops p done (first++rest)=true ->
  (∀t,t∉done->st.U t=U0 t)->TK ops p first=true->Jn E L ops p.cls first st=some Gf ->
  ∃hs done',Gf.N=st.N/\(∀t,(∀j∈first,t∉Hv ops p j)->Gf.U t=st.U t)/\Gf.s={ st.s with bs:=st.s.bs++hs }/\Ia ops p done' rest=true/\(∀t,t∉done'->Gf.U t=U0 t) /\
  (∀i∈first,AGv E L ops p U0 Uf st.N st.s.bs.length (st.s.bs++hs).length i) /\
  (∀i j oi oj ts us d e id,i∈first->j∈first->ops[i]?=some oi->ops[j]?=some oj->p.cls[i]?=some (.h ts)->p.cls[j]?=some (.h us)->oi.dst=some d->oj.dst=some e->KN (Uf d)=some id->KN (Uf e)=some id->i=j):=by
 intro first
 induction first with
 | nil=>
  intro done st ho h0 hf h;simp[Jn] at h;subst h;exact⟨[],done,rfl,λ_ _=>rfl,AD,ho,h0,AD,AD⟩
 | cons i first ih=>
  intro done st ho h0 hf h;rw[DD] at ho;obtain⟨ho',KP⟩:=T8 ho;simp only[TK,AI] at hf;simp only[Jn] at h;split at h
  .rename_i o ts Sh Hz
   have hf1:=hf.1;rw[Hz] at hf1;simp only at hf1;obtain⟨r1,r2⟩:=Ly Sh (.inl ⟨ts,Hz⟩);split at h
   .rename_i v hq
    split at h
    .rename_i st' hp
     obtain⟨a1,a2,a3,a4⟩:=GU hp;have hfr:∀t,t∉Hv ops p i->st'.U t=st.U t:=λt ht=>a4 t λe=>ht (by grind[De])
     obtain⟨hs,done',b1,b2,b3,b4,b5,b6,b7⟩:=ih _ st' ho' (λt ht=>by grind) hf.2 h
     have hframe:∀t,(∀j∈i::first,t∉Hv ops p j)->Gf.U t=st.U t:=λt ht=>by
      rw[b2 t (λj hj=>ht j (FP _ hj)),hfr t (ht i (Li ..))]
     have um:∀t,(∀j∈first++rest,t∉Hv ops p j)->Uf t=st'.U t:=λt ht=>by
      rw[pn t (λj hj=>ht j (JH _ hj)),b2 t (λj hj=>ht j (List.mem_append_left _ hj))]
     have hag:T7 ops p U0 Uf st.U i:=Qx ho h0 λt ht=>by
      rw[um t (λj hj=>ht j (FP _ hj)),hfr t (ht i (Li ..))]
     rw[a2] at b3;refine⟨hs,done',b1.trans a1,hframe,b3,b4,b5,λj hj=>?_,?_⟩
     .rcases A3.1 hj with rfl|hj
      .refine⟨λts' h'=>?_,λts' h'=>by grind,Qw Hz,AB,AB⟩
       rw[Hz] at h'; simp at h'; subst h';refine⟨o,st.s,v,Sh,?_,λd hd=>⟨(a3 d hd).1,?_⟩,λt ht=>?_⟩
       .rw[<-JR (λt ht=>hag t AB)]; omega
       .grind[De]
       grind[Mp]
      grind
     .intro i1 j1 oi oj OD us d e id hi1 hj1 e1 e2 e3 e4 e5 e6 e7 e8
      rcases A3.1 hi1 with rfl|hi1
      .grind
      .rcases A3.1 hj1 with rfl|hj1
       .grind
       .exact b7 i1 j1 oi oj OD us d e id hi1 hj1 e1 e2 e3 e4 e5 e6 e7 e8
    grind
   grind
  .rename_i o ts Sh Hz
   have hf1:=hf.1;rw[Hz] at hf1;simp only at hf1;obtain⟨r1,r2⟩:=Ly Sh (.inr (.inl ⟨ts,Hz⟩));split at h
   .rename_i cs mk hq
    split at h
    .rename_i st' hp
     obtain⟨a1,a2,a3,a4⟩:=GU hp;have hfr:∀t,t∉Hv ops p i->st'.U t=st.U t:=λt ht=>a4 t λe=>ht (by grind[De])
     obtain⟨hs,done',b1,b2,b3,b4,b5,b6,b7⟩:=ih _ st' ho' (λt ht=>by grind) hf.2 h
     have hframe:∀t,(∀j∈i::first,t∉Hv ops p j)->Gf.U t=st.U t:=λt ht=>by
      rw[b2 t (λj hj=>ht j (FP _ hj)),hfr t (ht i (Li ..))]
     have um:∀t,(∀j∈first++rest,t∉Hv ops p j)->Uf t=st'.U t:=λt ht=>by
      rw[pn t (λj hj=>ht j (JH _ hj)),b2 t (λj hj=>ht j (List.mem_append_left _ hj))]
     have hag:T7 ops p U0 Uf st.U i:=Qx ho h0 λt ht=>by
      rw[um t (λj hj=>ht j (FP _ hj)),hfr t (ht i (Li ..))]
     rw[a2] at b3;have hval:∀d,o.dst=some d->d<st.N/\Uf d=mk st.s.bs.length:=λd hd=>⟨(a3 d hd).1,by grind[De]⟩
     have hlen:st'.s.bs.length=st.s.bs.length+1:=AB
     have Za:∀j∈first,∀oj us e id,ops[j]?=some oj->p.cls[j]?=some (.h us)->oj.dst=some e->KN (Uf e)=some id->st.s.bs.length+1<=id:=by
      intro j hj oj us e id e2 e4 e6 e8;obtain⟨o',cs',mk',id',q1,q2,q3,q4,q5,q6⟩:=(b6 j hj).h us e4;rw[e2] at q1; simp at q1; subst q1;rw[(q3 e e6).2,LJ q2] at e8
      grind
     refine⟨cs::hs,done',b1.trans a1,hframe,AB,b4,b5,λj hj=>?_,?_⟩
     .rcases A3.1 hj with rfl|hj
      .refine⟨λts' h'=>by grind,λts' h'=>?_,ud Hz,AB,AB⟩
       rw[Hz] at h'; simp at h'; subst h';refine⟨o,cs,mk,st.s.bs.length,Sh,?_,hval,AY _,AD,λt ht=>?_⟩
       .rw[<-PW (λt ht=>hag t AB)]; omega
       grind[Mp]
      .have:=b6 j hj
       rw[a1,hlen] at this;refine⟨this.q,λts' h'=>?_,this.n⟩;obtain⟨o',cs',mk',id',q1,q2,q3,q4,q5,q6⟩:=this.h ts' h';exact⟨o',cs',mk',id',q1,q2,q3,AA,AB,q6⟩
     .intro i1 j1 oi oj OD us d e id hi1 hj1 e1 e2 e3 e4 e5 e6 e7 e8
      rcases A3.1 hi1 with rfl|hi1
      .rcases A3.1 hj1 with rfl|hj1
       .rfl
       .rw[Sh] at e1; simp at e1; subst e1
        rw[(hval d e5).2,LJ hq] at e7
        grind
      .rcases A3.1 hj1 with rfl|hj1
       .rw[Sh] at e2; simp at e2; subst e2
        rw[(hval e e6).2,LJ hq] at e8
        grind
       .exact b7 i1 j1 oi oj OD us d e id hi1 hj1 e1 e2 e3 e4 e5 e6 e7 e8
    grind
   grind
  grind
end
theorem GV {l:List Nat} {x:Nat} (h:has l x=true):x∈l:=PZ.1 h
theorem pq {E:Env} {L:BI} {ops:Array Oper} {cls:List bU} {GI:List (List Nat)} {U0 Uf:Nat->AV} {σ:List AQ}:∀(WV:List (Nat×Nat)),iL E L ops cls GI U0 Uf σ WV=true->∀i k,(i,k)∈WV ->
  (∀o ts,ops[i]?=some o->cls[i]?=some (.q ts)->∃s v,σ[k]?=some s/\FU E L ops (Fw GI U0 Uf i) s o=some v/\∀d,o.dst=some d->Uf d=v) /\
  (∀o ts,ops[i]?=some o->cls[i]?=some (.h ts)->∃s cs mk d id,σ[k]?=some s/\hcells E (Fw GI U0 Uf i) o=some (cs,mk)/\o.dst=some d/\KN (Uf d)=some id/\s.bs[id]?=some cs):=by
 intro WV
 induction WV with
 | nil=>simp
 | cons q WV ih=>
  obtain⟨i',k'⟩:=q;intro h i k hm;simp only[iL,AI] at h;rcases A3.1 hm with e|hm
  .simp at e
   obtain⟨rfl,rfl⟩:=e;have h:=h.1;split at h
   .grind[Qt]
   .grind[ID]
   grind
  grind
theorem Inv.uo {E:Env} {w:World}:∀(hs:List (List AV)) (g:AP) (s:AQ),Inv E g w s->∃q:Nat->Prop,(∀id,g.DM id->q id)/\(∀id,s.bs.length<=id->id<s.bs.length+hs.length->q id)/\Inv E (g.CG q) w { s with bs:=s.bs++hs }:=by
 intro hs
 induction hs with
 | nil=>intro g s h; exact⟨g.DM,λ_ q=>q,λid a b=>by grind,by simpa using h.CG h.Dx (λ_ q=>q) (λid b hb=>(h.MQ id b hb).2.2)⟩
 | cons cs hs ih=>
  intro g s h;obtain⟨q,h1,h2,h3⟩:=ih _ _ (h.reserve cs);refine⟨q,λid hq=>h1 id (.inl hq),λid a b=>?_,by grind[AP.CG]⟩
  by_cases e:id=s.bs.length
  .exact h1 id (.inr e)
  grind
theorem cK {acc:List AQ} {k:Nat} {s:AQ} (h:acc.reverse[k]?=some s):JD acc k=s:=by simp[JD,h]
theorem cL {E:Env} {L:BI} {U U':Nat->AV} {s:AQ} {k:JO} (h:∀z,z=k.x\/z=k.y\/z=k.ix\/z=k.v->Am U z=Am U' z):Jl E L U' s k=Jl E L U s k:=by simp[*,Jl]
theorem cM {E:Env} {L:BI} {U U':Nat->AV} {s:AQ} {k:JO} (h:∀z,z=k.x\/z=k.y\/z=k.ix\/z=k.v->Am U z=Am U' z):XK E L U' s k=XK E L U s k:=by simp[*,XK]
theorem cN {E:Env} {L:BI} {U U':Nat->AV} {s:AQ} {k:JO} (h:∀z,z=k.x\/z=k.y\/z=k.ix\/z=k.v->Am U z=Am U' z):K9 E L U' s k=K9 E L U s k:=by grind[K9,cL,cM]
theorem Ry {ops:Array Oper} {p:Bl} {U0 Uf:Nat->AV} {FV:Nat}:∀{l:List Nat},Rq ops p U0 Uf FV l=true->∀m∈l,∀om r' t y z,ops[m]?=some om->p.cls[m]?=some (.w r')->om.op=.store t y z ->
  ∀id off',Am (Fw p.GI U0 Uf m) y=.ptr id off'->id≠FV
 | [],_,m,hm=>by grind
 | n::l,h,m,hm=>by
  intro om r' t y z hom hc hop id off' hy;simp only[Rq,AI] at h;rcases A3.1 hm with rfl|hm
  .have h1:=h.1
   rw[hom,hc] at h1;simp only[hop,hy,Lj] at h1;intro e
   simp_all
  .exact Ry h.2 m hm om r' t y z hom hc hop id off' hy
theorem Rz {E:Env} {L:BI} {ops:Array Oper} {p:Bl} {U0 Uf:Nat->AV}:∀{l:List Nat},Tj E L ops p U0 Uf l=true->∀i∈l,∀o r j x d FV off len sz,Qm E L ops i j x=true->ops[i]?=some o->p.cls[i]?=some (.fa r j x)->o.dst=some d->Uf d=.ref FV off len sz ->
  Rq ops p U0 Uf FV p.rest=true
 | [],_,i,hi=>by grind
 | n::l,h,i,hi=>by
  intro o r j x d FV off len sz hX ho hc hd hr;simp only[Tj,AI] at h;rcases A3.1 hi with rfl|hi
  .grind
  .exact Rz h.2 i hi o r j x d FV off len sz hX ho hc hd hr
theorem T9 {E:Env} {L:BI} {ops:Array Oper} {cls:List bU}:∀{l:List Nat},pQ E L ops cls l=true->∀i∈l,∀r j x,cls[i]?=some (.fa r j x)->Qm E L ops i j x=false
 | [],_,i,hi=>by grind
 | n::l,h,i,hi=>by
  intro r j x hc;simp only[pQ,AI] at h;rcases A3.1 hi with rfl|hi
  .grind
  .exact T9 h.2 i hi r j x hc
theorem cO {E:Env} {L:BI} {ops:Array Oper} {p:Bl} {U0 Uf:Nat->AV} (h:XL E L ops p U0 Uf=true):∀i∈p.rest,∀o r j x d FV off len sz,Qm E L ops i j x=true->ops[i]?=some o->p.cls[i]?=some (.fa r j x)->o.dst=some d->Uf d=.ref FV off len sz ->
  Rq ops p U0 Uf FV p.rest=true:=by grind[XL,T9,Rz]
section
variable {rd:Option Nat} {E:Env} {L:BI} {cf:Cu} {ops:Array Oper} {p:Bl}
theorem ij (TL:IE E L cf) (ie:E.P.follows .mixedOrders=true) (LK:Tt ops p=true) {g:AP} {w:World} {a:Act} {st st':St} {Q:Exit->Act->World->Prop} {id:Nat} (hI:Inv E g w st.s) (hsz:a.tmps.size=st.N)
  (hU:∀t,V g w (st.U t) (a.tmps.getD t undef)) (h:ZQ E L cf p ops st=some st')
  (hQ:∀a' w' g',a'.tmps.size=st'.N->a'.defers=a.defers->Ext L g w g' w'->Inv E g' w' st'.s->(∀t,V g' w' (st'.U t) (a'.tmps.getD t undef))->st'.N=st.N->Q .normal a' w') :
  (Code.region id ops true).wpIn (FW rd) 0 E.P Q a w:=by
 unfold Tt at LK;simp only at LK;split at LK
 .simp at LK
 rename_i K hK;simp only[AI] at LK;obtain⟨⟨⟨⟨hlen,hmem⟩,hall⟩,AOe⟩,uq⟩:=LK;unfold ZQ at h;split at h
 .rename_i Gf h1
  split at h
  .rename_i Rw KO h2
   cases hch:iL E L ops p.cls p.GI st.U Rw.U KO.reverse p.WV with
   | false=>rw[hch] at h; simp at h
   | true=>
    cases hmc:XL E L ops p st.U Rw.U with
    | false=>rw[hch,hmc] at h; simp at h
    | true=>
    rw[hch,hmc] at h;simp at h;subst h;obtain⟨_,done',_,_,_,ho',h0',_,_⟩:=Rx (E:=E) (L:=L) (U0:=st.U) (Uf:=Gf.U) (λ_ _=>rfl) p.first [] st AOe (λ_ _=>rfl) uq h1;obtain⟨r1,r2,⟨new,r3⟩,r4,r5,_,r7,r8,r9⟩:=ig (U0:=st.U) p.rest done' Gf [Gf.s] 0 ho' h0' hK rfl rfl h2;obtain⟨hs,_,f1,f2,f3,_,_,f6,f7⟩:=Rx (E:=E) (L:=L) (U0:=st.U) (Uf:=Rw.U) r2 p.first [] st AOe (λ_ _=>rfl) uq h1;have AOf:=pq p.WV hch;have hin:∀(i:Nat) o,ops[i]?=some o->i∈p.first\/i∈p.rest:=λi o ho=>B7.1 (GV (HJ hmem (Cr ho)))
    have hst:∀(i:Nat) o,ops[i]?=some o->Zc ops p i=true/\Lv ops p i=true/\ADR ops ops.size i=true/\uP ops p ops.size i=true/\Ze p ops.size i=true/\iW p ops.size K i=true/\OW ops p ops.size i=true:=λi o ho=>by
     have:=HJ hall (Cr ho);simp only[AI] at this;obtain⟨⟨⟨⟨⟨⟨a1,a2⟩,a3⟩,a4⟩,a5⟩,a6⟩,a7⟩:=this;exact⟨a1,a2,a3,a4,a5,a6,a7⟩
    have hN1:Gf.N=st.N:=f1;have hNf:Rw.N=st.N:=r1.trans f1;have hσ0:JD KO 0=Gf.s:=by rw[r3,Nq rfl]; rfl
    have hσK:JD KO K=Rw.s:=by
     have:=Nq (new:=[]) r4;rw[Cc] at this;rw[this,r5]; rfl
    have R:We E L cf ops p K st.N st.U Rw.U (JD KO):={
     ABK:=λi o e ho he hb=>by
      have:=(hst i o ho).1;simp only[Zc,ho,AI] at this;have:=DE.1 this.1 e (by simpa using he);simpa[hb,Nat.blt_eq] using this
     pre:=λi o j ho hj=>by
      have:=(hst i o ho).1;simp only[Zc,ho,AI] at this;obtain⟨e,he,h'⟩:=Ll.1 (DE.1 this.2 j hj);simp only[AI,Dk] at h';exact⟨e,by simpa using he,h'.1,h'.2.imp B9 GV⟩
     cls:=λi o ho=>by
      have:=(hst i o ho).2.1;unfold Lv at this;rw[ho] at this;cases hc:p.cls[i]? with
      | none=>rw[hc] at this; simp at this
      | some c=>exact⟨c,rfl⟩
     dst:=λi j oi oj d hi hj pX uZ=>by
      have:=HJ (hst i oi hi).2.2.1 (Cr hj);simp only[Dk] at this;rcases this with q|q
      .exact(B9 q).symm
      .have:=DE.1 q d (De.2 ⟨oj,hj,uZ⟩)
       simp only[Lj] at this;exact absurd (De.2 ⟨oi,hi,pX⟩) (LI.1 this)
     read:=λi j oi oj d hi hj uZ hd=>by
      have:=DE.1 (HJ (hst i oi hi).2.2.2.1 (Cr hj)) d (De.2 ⟨oj,hj,uZ⟩);have hr:has (D8 ops i) d=true:=PZ.2 (by simp only[D8,hi]; exact hd);rw[hr] at this;simp only[NY,GL] at this;cases hw:has (Hx p.GI i) d with
      | true=>
       rw[hw] at this;simp only[AN,Dk] at this;exact .inl ⟨rfl,this.imp B9 GV⟩
      | false=>
       rw[hw] at this;exact .inr ⟨rfl,GV (by simpa using this)⟩
     rk:=λi j oi oj r r' hi hj Lz hrj hlt=>by
      have:=(hst i oi hi).2.2.2.2.1;unfold Ze at this;rw[Lz] at this;have:=HJ this (Cr hj);rw[hrj] at this;simp only[Dk,AI,Lj] at this;rcases this with q|⟨_,q⟩
      .have:=B9 q
       subst this;rw[Lz] at hrj; simp at hrj; omega
      .rcases q with q|q
       .have:Nat.blt r r'=true:=by grind[Nat.blt_eq]
        rw[this] at q; simp at q
       .exact GV q
     ADU:=λi j oi oj r hi hj Lz hrj=>by
      have:=(hst i oi hi).2.2.2.2.1;unfold Ze at this;rw[Lz] at this;have:=HJ this (Cr hj);rw[hrj] at this;simp only[Dk,AI,Lj] at this;rcases this with q|⟨q,_⟩
      .exact B9 q
      .simp at q
     AGp:=λk hk=>by
      obtain⟨i,hi,hr⟩:=r9 k (AO _) hk;have hR:=r7 i hi;unfold FM at hr;cases hc:p.cls[i]? with
      | none=>rw[hc] at hr; simp at hr
      | some c=>
       rw[hc] at hr;cases c with
       | w r=>obtain⟨o,_,ho,_⟩:=hR.w r hc; exact⟨i,o,ho,by grind[FM]⟩
       | fa r j x=>obtain⟨o,_,_,_,_,_,ho,_⟩:=hR.fa r j x hc; exact⟨i,o,ho,by grind[FM]⟩
       | _=>simp[KY] at hr
     AGq:=λi o r ho hr=>by
      rcases hin i o ho with hi|hi
      .have:=(f6 i hi).n.1; rw[this] at hr; simp at hr
      .grind
     time:=λi o ts ho hc k hk hn=>by
      have ht:=(hst i o ho).2.2.2.2.2.1
      have key:((List.range (K+1)).all λk=>has ts k||(List.range ops.size).any λj=>match FM p j with
        | some r=>(has (D3 p i) j&&Nat.ble k r)||(has (D3 p j) i&&Nat.blt r k)
        | none=>false)=true:=by
       unfold iW at ht;rcases hc with hc|hc <;> rw[hc] at ht <;> simp only[AI] at ht <;> exact ht.1
      have:=HJ key (show k<K+1 by omega);rw[LI.2 hn,GL] at this;obtain⟨j,hj,h'⟩:=Ll.1 this;cases hr:FM p j with
      | none=>rw[hr] at h'; simp at h'
      | some r=>
       rw[hr] at h';simp only[Dk,AI] at h';have AYr:j<ops.size:=by simpa using hj
       refine⟨j,ops[j],r,by simp[AYr],hr,h'.imp (λq=>⟨GV q.1,by simpa[Nat.ble_eq] using q.2⟩) (λq=>⟨GV q.1,by simpa[Nat.blt_eq] using q.2⟩)⟩
     uV:=λi o r j x ho hc=>by
      have hfo:=(hst i o ho).2.2.2.2.2.2;unfold OW at hfo;rw[hc] at hfo;simp only[AI] at hfo;obtain⟨⟨⟨⟨u1,u2⟩,u3⟩,u4⟩,u5⟩:=hfo;rcases hin i o ho with hi|hi
      .have:=(f6 i hi).n.1; rw[Kc hc] at this; simp at this
      obtain⟨o',o1,o2,kf,v,U,g1,g2,g3,g4,g5,g6,g7,g8,g9,g10⟩:=(r7 i hi).fa r j x hc;rw[ho] at g1; simp at g1; subst g1;obtain⟨q1,q2,q3,q4,q5,q6,q7,q8,q9,q10,q11⟩:=GR g4
      have hcj:p.cls[j]?=some .fj/\p.cls[x]?=some .fx:=by
       split at u1
       .rename_i e1 e2 _ _ _; exact⟨e1,e2⟩
       .simp at u1
      have GI:∀(i':Nat) o',ops[i']?=some o'->(p.cls[i']?=some (.fa r j x)\/p.cls[i']?=some .fj\/p.cls[i']?=some .fx)->Hx p.GI i'=[]:=λi' o' ho' LH=>by
       have:=(hst i' o' ho').2.1;unfold Lv at this;rw[ho'] at this;rcases LH with LH|LH|LH <;> rw[LH] at this <;> simp only[AI] at this <;> simpa using this.2
      have w1:=GI i o ho (.inl hc);have w2:=GI j o1 g2 (.inr (.inl hcj.1));have w3:=GI x o2 g3 (.inr (.inr hcj.2));refine⟨o1,o2,kf,g2,g3,hcj.1,hcj.2,g4,w1,w2,w3,GV u2,GV u3,GV u4,v,?_,g9,g10⟩;rw[<-g5];refine cN λz hz=>KZ λt ht=>?_
      have hmem:t∈pV ops p i:=by
       unfold pV;rw[hc];simp only[List.mem_filter];have hd1:F6 ops i++F6 ops j=[kf.d,kf.p]:=by simp[F6,lg,ho,g2,q2,q4]
       constructor
       .simp only[B7]
        rcases hz with e|e|e|e
        .exact .inl (.inl (by simp only[D8,ho]; exact JH _ (DZ.2 (by grind[Op.operands,Call.operands]))))
        .exact .inl (.inl (by simp only[D8,ho]; exact JH _ (DZ.2 (by grind[Op.operands,Call.operands]))))
        .exact .inl (.inr (by simp only[D8,g2]; exact JH _ (DZ.2 (by grind[Op.operands]))))
        .grind[D8,DZ,Op.operands]
       .rw[hd1]
        obtain⟨z1,z2⟩:=Rv g4 z hz;simp only[Lj,LI,A3,D4,D5,not_or];exact⟨λe=>z1 (by rw[ht,e]),λe=>z2 (by rw[ht,e])⟩
      have:=g6 t hmem;rw[this];unfold Fw;rw[w1];rfl
     mu:=λi o r j x d FV off len sz hX ho hc hd hq m om r' t y z hom MW hop id off' hy=>by
      have hir:i∈p.rest:=by
       rcases hin i o ho with hi|hi
       .have:=(f6 i hi).n.1; rw[Kc hc] at this; simp at this
       .omega
      have hmr:m∈p.rest:=by
       rcases hin m om hom with hi|hi
       .have:=(f6 m hi).n.1; rw[Ku MW] at this; simp at this
       .omega
      exact Ry (cO hmc i hir o r j x d FV off len sz hX ho hc hd hq) m hmr om r' t y z hom MW hop id off' hy
     win:=λi o r j x ho hc m om hm h1 h2 h3=>by
      have hfo:=(hst i o ho).2.2.2.2.2.2;unfold OW at hfo;rw[hc] at hfo;simp only[AI] at hfo;have:=HJ hfo.2 (Cr hm);have n1:Nat.beq m i=false:=by rw[PD]; exact λq=>h1 (B9 q)
      have n2:Nat.beq m j=false:=by rw[PD]; exact λq=>h2 (B9 q)
      have n3:Nat.beq m x=false:=by rw[PD]; exact λq=>h3 (B9 q)
      rw[n1,n2,n3] at this;simp only[GL,AI,Dk] at this;refine⟨this.1.imp GV (λq=>q.imp GV (λz=>z)),λd hd hr=>?_⟩;have:=DE.1 this.2 d (De.2 ⟨om,hm,hd⟩);simp only[Dk,Lj,Gw] at this;rcases this with q|q
      .rcases hr with hr|hr
       .exact absurd hr (LI.1 q.1)
       .exact absurd hr (LI.1 q.2)
      .exact GV q
     AON:=λj oj hj hc=>by
      have hfo:=(hst j oj hj).2.2.2.2.2.2;unfold OW at hfo;rw[hc] at hfo;obtain⟨m,hm,h'⟩:=Ll.1 hfo;have hlt:m<ops.size:=by simpa using hm
      split at h'
      .rename_i r j' x' MW
       have:=B9 h';subst this;exact⟨m,ops[m],r,x',AD,MW⟩
      .simp at h'
     AOO:=λx ox hx hc=>by
      have hfo:=(hst x ox hx).2.2.2.2.2.2;unfold OW at hfo;rw[hc] at hfo;obtain⟨m,hm,h'⟩:=Ll.1 hfo;have hlt:m<ops.size:=by simpa using hm
      split at h'
      .rename_i r j' x' MW
       have:=B9 h';subst this;exact⟨m,ops[m],r,j',by simp[hlt],MW⟩
      .simp at h'
     out:=λt ht=>by
      have hw:∀j,t∉Hv ops p j:=λj hj=>by
       unfold Hv at hj;have nd:∀q,t∉F6 ops q:=λq hq=>by obtain⟨o,h1,h2⟩:=De.1 hq; exact ht q o h1 h2
       split at hj
       .simp at hj
       .simp at hj
       .rcases B7.1 hj with q|q <;> grind
       .exact nd _ hj
      rw[r2 t (λj _=>hw j),f2 t (λj _=>hw j)]
     uW:=λi o d ho hd=>by
      rcases hin i o ho with hi|hi
      .have hF:=f6 i hi
       cases hc:p.cls[i]? with
       | none=>
        have:=(hst i o ho).2.1;unfold Lv at this;rw[ho,hc] at this;simp at this
       | some c=>
        cases c with
        | q ts=>
         obtain⟨o',_,_,g1,_,g3,_⟩:=hF.q ts hc;rw[ho] at g1; simp at g1; subst g1;exact(g3 d hd).1
        | h ts=>
         obtain⟨o',_,_,_,g1,_,g3,_⟩:=hF.h ts hc;rw[ho] at g1; simp at g1; subst g1;exact(g3 d hd).1
        | w r=>have:=hF.n.1; rw[Ku hc] at this; simp at this
        | fa r j x=>have:=hF.n.1; rw[Kc hc] at this; simp at this
        | fj=>exact absurd hc hF.n.2.1
        | fx=>exact absurd hc hF.n.2.2
      .have hF:=r7 i hi
       have faD:∀(m:Nat) r j x,m<ops.size->p.cls[m]?=some (.fa r j x)->∃o o1 o2 k,ops[m]?=some o/\ops[j]?=some o1/\ops[x]?=some o2/\fused o o1 o2=some k/\k.d<st.N/\k.p<st.N:=λm r j x hm hc=>by
        rcases hin m ops[m] (by simp[hm]) with mi|mi
        .have:=(f6 m mi).n.1; rw[Kc hc] at this; simp at this
        .obtain⟨o',o1,o2,kf,v,U,g1,g2,g3,g4,g5,g6,g7,g8,g9,g10⟩:=(r7 m mi).fa r j x hc
         exact⟨o',o1,o2,kf,g1,g2,g3,g4,by rw[<-hN1]; exact g7,by rw[<-hN1]; exact g8⟩
       have hfo:=(hst i o ho).2.2.2.2.2.2;unfold OW at hfo;cases hc:p.cls[i]? with
       | none=>
        have:=(hst i o ho).2.1;unfold Lv at this;rw[ho,hc] at this;simp at this
       | some c=>
        rw[hc] at hfo;cases c with
        | q ts=>
         obtain⟨o',_,_,g1,_,g3,_⟩:=hF.q ts hc;rw[ho] at g1; simp at g1; subst g1;rw[<-hN1]; exact(g3 d hd).1
        | h ts=>exact absurd hc (hF.h ts)
        | w r=>
         obtain⟨o',_,g1,_,g3⟩:=hF.w r hc;rw[ho] at g1; simp at g1; subst g1;rw[<-hN1]; exact(g3 d hd).1
        | fa r j x=>
         obtain⟨o',o1,o2,k,g1,g2,g3,g4,g5,g6⟩:=faD i r j x (Cr ho) hc;rw[ho] at g1; simp at g1; subst g1;have:=(GR g4).2.1;rw[hd] at this; simp at this; rw[this]; exact g5
        | fj=>
         obtain⟨m,hm,h'⟩:=Ll.1 hfo;split at h'
         .rename_i r j' x' MW
          have:=B9 h';subst this;obtain⟨o',o1,o2,k,g1,g2,g3,g4,g5,g6⟩:=faD m r j' x' (by simpa using hm) MW;rw[ho] at g2; simp at g2; subst g2;have:=(GR g4).2.2.2.1;rw[hd] at this; simp at this; rw[this]; exact g6
         .simp at h'
        | fx=>
         obtain⟨m,hm,h'⟩:=Ll.1 hfo;split at h'
         .rename_i r j' x' MW
          have:=B9 h';subst this;obtain⟨o',o1,o2,k,g1,g2,g3,g4,g5,g6⟩:=faD m r j' x' (by simpa using hm) MW;rw[ho] at g3; simp at g3; subst g3;have:=(GR g4).2.2.2.2.2.1;rw[hd] at this; simp at this
         .simp at h'
     wF:=λi o r ho hc=>by
      rcases hin i o ho with hi|hi
      .have:=(f6 i hi).n.1; rw[Ku hc] at this; simp at this
      .obtain⟨o',v,g1,g2,g3⟩:=(r7 i hi).w r hc
       rw[ho] at g1; simp at g1; subst g1;exact⟨v,g2,λd hd=>(g3 d hd).2⟩
     qF:=λi o ts k ho hc hk=>by
      have cP:∀s v,OV ops i=true->FU E L ops (Fw p.GI st.U Rw.U i) s o=some v->FU E L ops (Fw p.GI st.U Rw.U i) (JD KO k) o=some v:=λs v hp hq=>by
       have hp':Zd o=true:=by simpa[OV,ho] using hp
       unfold FU at hq ⊢;split at hq
       .exact Zi hp' hq
       .exact hq
       .simp at hq
      have l5:(i,k)∈p.WV->∃v,FU E L ops (Fw p.GI st.U Rw.U i) (JD KO k) o=some v/\∀d,o.dst=some d->Rw.U d=v:=λhm=>by
       obtain⟨s,v,g1,g2,g3⟩:=(AOf i k hm).1 o ts ho hc;exact⟨v,by rw[cK g1]; exact g2,g3⟩
      rcases hin i o ho with hi|hi
      .obtain⟨o',s,v,g1,g2,g3,g4⟩:=(f6 i hi).q ts hc
       rw[ho] at g1; simp at g1; subst g1;rcases g4 k hk with q|q
       .exact⟨v,cP s v q g2,λd hd=>(g3 d hd).2⟩
       .exact l5 q
      .obtain⟨o',kk,v,g1,g2,g3,g4⟩:=(r7 i hi).q ts hc
       rw[ho] at g1; simp at g1; subst g1;rcases g4 k hk with q|q|q
       .subst q; exact⟨v,g2,λd hd=>(g3 d hd).2⟩
       .exact⟨v,cP _ v q g2,λd hd=>(g3 d hd).2⟩
       .exact l5 q
     hF:=λi o ts ho hc=>by
      have hpo:=(hst i o ho).2.1;unfold Lv at hpo;rw[ho,hc] at hpo;simp only[AI] at hpo;rcases hin i o ho with hi|hi
      .obtain⟨o',cs,mk,id',g1,g2,g3,g4,g5,g6⟩:=(f6 i hi).h ts hc
       rw[ho] at g1; simp at g1; subst g1;obtain⟨d,hd⟩:=lQ.1 hpo.2;refine⟨by simpa using hpo.1,d,cs,mk,id',hd,g2,(g3 d hd).2,λk hk=>?_⟩;obtain⟨s,cs',mk',d',AYt,e1,e2,e3,e4,e5⟩:=(AOf i k (g6 k hk)).2 o ts ho hc;rw[hd] at e3; simp at e3; subst e3;rw[(g3 d hd).2,LJ g2] at e4;simp at e4; subst e4;rw[g2] at e2; simp at e2;rw[cK e1,e5,e2.1]
      .exact absurd hc ((r7 i hi).h ts)
     AOP:=λi j oi oj ts us d e id' hi hj Hz hcj pX uZ bV h2'=>by
      rcases hin i oi hi with m1|m1
      .rcases hin j oj hj with m2|m2
       .exact f7 i j oi oj ts us d e id' m1 m2 hi hj Hz hcj pX uZ bV h2'
       .exact absurd hcj ((r7 j m2).h us)
      .exact absurd Hz ((r7 i m1).h ts) }
    have hid:∀(i:Nat) o ts d id,ops[i]?=some o->p.cls[i]?=some (.h ts)->o.dst=some d->KN (Rw.U d)=some id->st.s.bs.length<=id/\id<st.s.bs.length+hs.length:=λi o ts d id' ho hc hd iq=>by
     rcases hin i o ho with hi|hi
     .obtain⟨o',cs,mk,AYt,g1,g2,g3,g4,g5,g6⟩:=(f6 i hi).h ts hc
      rw[ho] at g1; simp at g1; subst g1;rw[(g3 d hd).2,LJ g2] at iq;simp at iq; subst iq;exact⟨g4,AB⟩
     .exact absurd hc ((r7 i hi).h ts)
    obtain⟨q,hq1,hq2,hq3⟩:=Inv.uo hs g st.s hI;refine ic R TL ie (g:=g) (g1:=g.CG q) (λi o ts d id' ho hc hd iq hp=>?_) ((Ext.refl L g w).CG hq1) ?_ hsz (λt=>(hU t).CG) (λi o ts d id' ho hc hd iq=>?_) (λa' w' g' b1 b2 b3 b4 b5=>?_)
    .have:=(hI.Dx id' hp).1
     have:=(hid i o ts d id' ho hc hd iq).1;omega
    .rw[hσ0,f3]; exact hq3
    .obtain⟨x1,x2⟩:=hid i o ts d id' ho hc hd iq
     exact hq2 id' x1 x2
    .grind
  .grind
 .grind
end
structure l7 (E:Env) (g:AP) (w:World) (st:St) (a:Act):Prop where
 inv:Inv E g w st.s
 size:a.tmps.size=st.N
 tmps:∀t,V g w (st.U t) (a.tmps.getD t undef)
theorem l7.put {E:Env} {L:BI} {g g':AP} {w w':World} {st st':St} {a:Act} {s:AQ} {d:Option Nat} {v:AV} {u:Value} (h:l7 E g w st a) (hp:K7 { st with s:=s } d v=some st') (he:Ext L g w g' w') (hi:Inv E g' w' s) (hv:V g' w' v u) :
  l7 E g' w' st' (a.put d u)/\st'.N=st.N:=by
 obtain⟨a1,a2,a3,a4⟩:=GU hp;refine⟨⟨AB,by rw[T5,a1]; exact h.size,λt=>?_⟩,a1⟩
 by_cases ht:d=some t
 .subst ht
  obtain⟨b1,b2⟩:=a3 t rfl;rw[Ju (by rw[h.size]; omega),b2];omega
 .rw[Qv ht,a4 t ht]
  exact(h.tmps t).mono he
theorem Ke (i n:Nat):List.range' i (n+1)=i::List.range' (i+1) n:=AR
section
variable {rd:Option Nat} {E:Env} {L:BI} {cf:Cu} {ops:Array Oper} {Q:Exit->Act->World->Prop}
theorem XV {i:Nat} {rest:List Nat} {o:Oper} {a:Act} {w:World} (ho:ops[i]?=some o) (hw:Region.wanted o (yielded ops a.tmps)=true) (h:o.wpIn (FW rd) 0 E.P a w (wpOpsIn (FW rd) 0 E.P ops Q rest) Q):wpOpsIn (FW rd) 0 E.P ops Q (i::rest) a w:=by grind[wpOpsIn]
theorem ur {i:Nat} {rest:List Nat} {o:Oper} {a:Act} {w:World} (ho:ops[i]?=some o) (hw:Region.wanted o (yielded ops a.tmps)=false) (h:wpOpsIn (FW rd) 0 E.P ops Q rest (a.put o.dst undef) w):wpOpsIn (FW rd) 0 E.P ops Q (i::rest) a w:=by
 simp only[wpOpsIn,ho,hw,DS,JG];exact⟨λ_ _=>trivial,h⟩
theorem Qy {i:Nat} {rest:List Nat} {o:Oper} {a:Act} {w w':World} {v:Value} (ho:ops[i]?=some o) (hg:o.guard=none) (hr:(execOp a.eval o).run E.P w=.ok (.value v) w'\/((execOp a.eval o).run E.P w=.ok .skip w'/\v=undef))
  (h:wpOpsIn (FW rd) 0 E.P ops Q rest (a.put o.dst v) w'):wpOpsIn (FW rd) 0 E.P ops Q (i::rest) a w:=by grind[XV,Region.wanted,Kb,JS]
theorem uu {g:AP} {w:World} {st st':St} {a:Act} {o o1 o2:Oper} {k:JO} {v:AV} {s:AQ} {i:Nat} {rest:List Nat} (h:l7 E g w st a) (ho:ops[i]?=some o) (ho1:ops[i+1]?=some o1) (tQ:ops[i+2]?=some o2)
  (hf:fused o o1 o2=some k) (PY:Jl E L st.U st.s k=some (v,s)) (hst:Ks st k v s=some st')
  (hk:∀a' w' g',l7 E g' w' st' a'->a'.defers=a.defers->Ext L g w g' w'->st'.N=st.N->wpOpsIn (FW rd) 0 E.P ops Q rest a' w'):wpOpsIn (FW rd) 0 E.P ops Q (i::(i+1)::(i+2)::rest) a w:=by
 obtain⟨f1,f2,f3,f4,f5,f6,f7,f8,f9,f10,f11⟩:=GR hf;have hap:=Rv hf;have hVx:=Aw h.tmps k.x;have hVy:=Aw h.tmps k.y;have hVi:=Aw h.tmps k.ix;have hVv:=Aw h.tmps k.v;unfold Ks at hst;split at hst
 .rename_i Gf hp1
  unfold Jl at PY;split at PY
  .rename_i elem hu
   split at PY
   .rename_i ZX
    split at PY
    .rename_i ti rows z n row iE hrows hz tS hrow
     split at PY
     .rename_i hcnd
      obtain⟨q1,q2,q3,q4,q5,q6,q7⟩:=hcnd;have hvl:=Eo hVv q4;obtain⟨t1,t2⟩:=HF hvl hrow;obtain⟨b,cap,vz,e,fz,w1,wv,g',a1,a2,a3,a4,a5,a6,⟨a7,a7z⟩,a8⟩:=Mm (T:=o.type) h.inv hu iE q6 q7 hVx hrows hVy hz q2 q5 (us:=(a.eval k.v).cells.toList) AA q3 t2 PY;obtain⟨kk,Tp⟩:=FY hVi tS;obtain⟨s1,n1⟩:=h.put hp1 a3 a4 a2;have hp2:K7 { Gf with s:=Gf.s } (some k.p) .Gm=some st':=hst;obtain⟨s2,n2⟩:=s1.put (u:=.pointer (some ⟨b,rows.length*ti.size,none⟩)) hp2 (Ext.refl L g' wv) s1.inv .Gm;have hszv:(a.eval k.v).cells.size=ti.size:=AB
      have hd:k.d<a.tmps.size:=by
       obtain⟨_,_,x3,_⟩:=GU hp1;rw[h.size]; grind
      have hpN:k.p<a.tmps.size:=by
       obtain⟨_,_,x3,_⟩:=GU hst;have:=(x3 k.p rfl).1;rw[h.size]; omega
      have ADY:∀z,z=k.ix\/z=k.v->∀u u',((a.put (some k.d) u).put (some k.p) u').eval z=a.eval z/\(a.put (some k.d) u).eval z=a.eval z:=λz hz u u'=>by grind[Eh]
      have hw1:w1.heap[b]?=some (.cells ⟨vz⟩ e fz):=by grind[Bj]
      refine Qy ho f8.1 (v:=.slice (some ⟨b,0,none⟩) (rows.length+1) cap) (w':=w1) (.inl ?_) ?_
      .simp[*,execOp,resolve,invoke,builtin]
      rw[f2];refine Qy ho1 f8.2.1 (v:=.pointer (some ⟨b,rows.length*ti.size,none⟩)) (w':=w1) (.inl ?_) ?_
      .have e1:(a.put (some k.d) (.slice (some ⟨b,0,none⟩) (rows.length+1) cap)).eval (.tmp k.d)=.slice (some ⟨b,0,none⟩) (rows.length+1) cap:=Ju hd
       have e2:=(ADY k.ix (.inl rfl) (.slice (some ⟨b,0,none⟩) (rows.length+1) cap) undef).2;simp[*,execOp,Instr.indexAt,asIntOf,run_underlying,run_sizeOf,DT]
      rw[f4];refine Qy tQ f8.2.2 (v:=undef) (w':=wv) (.inr ⟨?_,rfl⟩) ?_
      .have e1:((a.put (some k.d) (.slice (some ⟨b,0,none⟩) (rows.length+1) cap)).put (some k.p) (.pointer (some ⟨b,rows.length*ti.size,none⟩))).eval (.tmp k.p)=.pointer (some ⟨b,rows.length*ti.size,none⟩):=Ju (by grind[T5])
       have e2:=(ADY k.v (.inr rfl) (.slice (some ⟨b,0,none⟩) (rows.length+1) cap) (.pointer (some ⟨b,rows.length*ti.size,none⟩))).1;obtain⟨dst,op,type,pos,after,guard⟩:=o2;simp only at f5;subst f5;have hst:=Ff (P:=E.P) (b:=b) (o:=rows.length*ti.size) (e:=e) a7z (a.eval k.v).cells.toList 0 w1 vz (VL.one hvl q4) hw1 AA
       grind[Ea,Lt,execOp,Instr.storeAt,Instr.sureAddr,storeVar,Sem.run_bind,Sem.run_pure,Result.andThen_ok,run_sizeOf]
      grind[Act.put]
     grind
    grind
   grind
  grind
 grind
theorem ir (TL:IE E L cf):∀(n i:Nat) (l:List Oper) (st st':St) (a:Act) (w:World) (g:AP),l.length=n->l=ops.toList.drop i->l7 E g w st a->I4 E L cf ops l st=some st' ->
  (∀a' w' g',l7 E g' w' st' a'->a'.defers=a.defers->Ext L g w g' w'->st'.N=st.N->Q .normal a' w')->wpOpsIn (FW rd) 0 E.P ops Q (List.range' i l.length) a w:=by
 intro n
 induction n using Nat.strongRecOn with
 | ind n ih=>
  intro i l st st' a w g hn hl hs h hQ;cases l with
  | nil=>
   simp[I4] at h;subst h;exact hQ a w g hs rfl (Ext.refl _ _ _) rfl
  | cons o rest=>
   have iu:∀(j:Nat) q,(o::rest)[j]?=some q->ops[i+j]?=some q:=λj q hq=>by grind
   have ADZ:∀j,(o::rest).drop j=ops.toList.drop (i+j):=λj=>by rw[hl,List.drop_drop]
   have one:(match FT ops st.U o with
     | some true=>match N8 E L cf st o with
      | some st=>I4 E L cf ops rest st
      | none=>none
     | some false=>match K7 st o.dst (.tuple []) with
      | some st=>I4 E L cf ops rest st
      | none=>none
     | none=>none)=some st'->wpOpsIn (FW rd) 0 E.P ops Q (List.range' i (o::rest).length) a w:=by
    intro h;rw[B4,Ke];have hlt:rest.length<n:=AB;have AOi:rest=ops.toList.drop (i+1):=AB;split at h
    .rename_i hg
     split at h
     .rename_i Gf hst
      unfold N8 at hst;split at hst
      .rename_i v s hact
       refine XV (iu 0 o rfl) (DR hs.tmps hg) (OZ TL hs.inv hs.tmps hact λv' w' g' hV hE hI=>?_);obtain⟨s1,n1⟩:=hs.put hst hE hI hV;exact ih rest.length hlt (i+1) rest Gf st' _ w' g' rfl AOi s1 h λa' w'' g'' q1 q2 q3 q4=>hQ a' w'' g'' q1 (q2.trans (put_defers _ _ _)) (hE.trans q3) (q4.trans n1)
      grind
     grind
    .rename_i hg
     split at h
     .rename_i Gf hst
      refine ur (iu 0 o rfl) (DR hs.tmps hg) ?_;obtain⟨s1,n1⟩:=hs.put (L:=L) (s:=st.s) hst (Ext.refl L g w) hs.inv V.undef
      grind[put_defers]
     grind
    grind
   unfold I4 at h;simp only at h;split at h
   .rename_i o1 o2 rest'
    split at h
    .rename_i k hf
     split at h
     .rename_i v s PY
      split at h
      .rename_i Gf hst
       have hlt:rest'.length<n:=AB;simp only[B4];rw[Ke,Ke,Ke];refine uu hs (iu 0 o rfl) (iu 1 o1 rfl) (iu 2 o2 rfl) hf PY hst λa' w' g' q1 q2 q3 q4=>?_
       exact ih rest'.length hlt (i+3) rest' Gf st' a' w' g' rfl AB q1 h λa'' w'' g'' p1 p2 p3 p4=>hQ a'' w'' g'' p1 (p2.trans q2) (q3.trans p3) (p4.trans q4)
      grind
     grind
    grind
   grind
end
end Go.Tel
