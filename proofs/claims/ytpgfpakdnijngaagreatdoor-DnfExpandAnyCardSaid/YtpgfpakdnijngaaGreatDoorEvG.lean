/-
  A region with a drawn order: one operation more while a row is open; all of them.
-/
import Derived.Test.YtpgfpakdnijngaaGreatDoorEvF
set_option linter.all false
namespace Go.Tel
section
variable {rd:Option Nat} {E:Env} {L:A3} {cf:Cp} {ops:Array Oper} {p:Bd} {K N:Nat} {ρ0 ρf:Nat->AV} {σ:Nat->AL} {ds:List Deferred} {g0:AE} {w0:World} {Q:Exit->Act->World->Prop}
theorem Open.more {P:Program} {q:AV} {X:Prop} {kf:I7} {Dj:Prop} {a:Act} {g:AE} {w wv:World} {d:Option Tmp} {v:Value} (h:Open P q X kf Dj a g w wv)
  (hd:d≠some kf.d) (hp:d≠some kf.p) (hi:∀t,kf.ix=.tmp t->d≠some t) (hv:∀t,kf.v=.tmp t->d≠some t):Open P q X kf Dj (a.put d v) g w wv:=by
 obtain⟨b,cap,len,vz,e,fz,xv,kk,elem,ti,h1,h2,h3,h4,h5,h6,h7,h8,h9,h10,h11,h12,h13⟩:=h;refine⟨b,cap,len,vz,e,fz,xv,kk,elem,ti,h1,h2,h3,?_,?_,?_,h7,h8,h9,h10,h11,h12,λq=>?_⟩
 all_goals grind[EM]
theorem oG (R:U5 E L cf ops p K N ρ0 ρf σ) {D:Nat->Prop} (hD:Down ops D) {a:Act} {k:Nat} {g:AE} {w wv:World} (h:Core E L ops p K N ρ0 ρf σ ds g0 w0 D a k g wv)
  {i r j x:Nat} {o o1 o2:Oper} {kf:I7} (hi:ops[i]?=some o) (HS:p.cls[i]?=some (.fa r j x)) (h1:ops[j]?=some o1) (h2:ops[x]?=some o2) (hf:fused o o1 o2=some kf) (oE:D i) (hnx:¬ D x) (hsh:M1 ops p D i)
  (hop:Open E.P (ρf kf.d) (RK E L ops i j x=true) kf (D j) a g w wv)
  {m:Nat} {om:Oper} (hm:ops[m]?=some om) (hn:¬ D m) (hr:∀e∈om.after,Region.binds .any e=true->D e.on) :
  wpOpIn (FW rd) 0 E.P ops Q m (J E L ops p K N ρ0 ρf σ ds g0 w0 (λi=>D i\/i=m)) a w:=by
 obtain⟨o1',o2',kf',Zn,h2',c1,c2,hf',u1,u2,u3,p1,p2,p3,v0,OZ,hvd,hvp⟩:=R.sJ i o r j x hi HS;rw[h1] at Zn; simp at Zn; subst Zn;rw[h2] at h2'; simp at h2'; subst h2';rw[hf] at hf'; simp at hf'; subst hf';obtain⟨f1,f2,f3,f4,f5,f6,f7,f8,f9,f10,f11⟩:=F7 hf;have hmi:m≠i:=λe=>hn (e ▸ oE)
 have Eo:∀(i:Nat) o ts d id,ops[i]?=some o->p.cls[i]?=some (.h ts)->o.dst=some d->IL (ρf d)=some id->¬ D i->i≠m->g.C4 id:=
  λi o ts d id ho HS hd hid hnD _=>h.C4 i o ts d id ho HS hd hid hnD
 have hxm:x≠m->¬ (D x\/x=m):=λe q=>q.elim hnx e
 by_cases hmj:m=j
 .subst hmj
  rw[h1] at hm; simp at hm; subst hm;obtain⟨b,cap,len,vz,e,fz,xv,kk,elem,ti,k1,k2,k3,k4,k5,k6,k7,k8,k9,k10,sR,k12,k13⟩:=hop;have hrun:(execOp a.eval o1).run E.P w=.ok (.value (.pointer (some ⟨b,len*ti.size,none⟩))) w:=by simp[*,execOp,Instr.indexAt,asIntOf,run_underlying,run_sizeOf,DN]
  have hxj:x≠m:=λe=>by grind
  have hs:M1 ops p (λi=>D i\/i=m) i:=M1.more h1 (λ_ _ _ e=>by grind) hsh;refine Mi h1 f8.2.1 hrun ⟨k,g,wv,h.push R h1 (.inl ⟨ji c1,rfl⟩) h.ext (λ_ _ q=>q) h.inv (λd hd=>?_) Eo,.inr ?_⟩
  .rw[f4] at hd; simp at hd; subst hd; rw[hvp]; exact .G2
  .refine⟨i,o,r,m,x,o1,o2,kf,hi,HS,h1,h2,hf,.inl oE,hxm hxj,hs,b,cap,len,vz,e,fz,xv,kk,elem,ti,k1,k2,k3,?_,?_,?_,k7,k8,k9,k10,sR,k12,λ_=>?_⟩
   .grind[EM]
   .rw[f4,EM (λt ht hdt=>?_)]
    .omega
    .simp at hdt
     subst hdt;have:kf.p∈F6 o1:=DU.2 (by grind[Op.operands]);rcases R.read m m o1 o1 kf.p h1 h1 f4 (Ib _ this) with ⟨q1,_⟩|⟨_,q2⟩
     .grind[has]
     .exact absurd (R.sL m o1 m h1 q2) (OG _)
   .grind[EM]
   .rw[f4]; exact JJ (by rw[h.size]; exact R.sK m o1 kf.p h1 f4)
 by_cases hmx:m=x
 .subst hmx
  rw[h2] at hm; simp at hm; subst hm;have hDj:D j:=R.LH hD m o2 j h2 hr p2;obtain⟨b,cap,len,vz,e,fz,xv,kk,elem,ti,k1,k2,k3,k4,k5,k6,k7,k8,k9,k10,sR,k12,k13⟩:=hop;have hpt:=k13 hDj;have hwb:w.heap[b]?=some (.cells ⟨vz⟩ e fz):=by grind[BX]
  have hrun:(execOp a.eval o2).run E.P w=.ok .skip wv:=by
   obtain⟨dst,op,type,pos,after,guard⟩:=o2;simp only at f5;subst f5;have hst:=FG (P:=E.P) (b:=b) (o:=len*ti.size) (e:=e) sR.2 xv.cells.toList 0 w vz k8 hwb (by grind)
   grind[EI,LD,execOp,Instr.storeAt,Instr.sureAddr,storeVar,Sem.run_bind,Sem.run_pure,Result.andThen_ok,run_sizeOf]
  have hs:∀i',M1 ops p (λi=>D i\/i=m) i':=by
   intro i' q o' r' j' x' ho' KZ hi' hne;rcases hi' with hi' | hi'
   .by_cases e:q=i
    .grind
    .exact .inl (hsh q o' r' j' x' ho' KZ hi' e)
   grind
  refine KY h2 (by grind[Region.wanted]) ?_;exact Im hrun ⟨k,g,wv,h.push R h2 (.inl ⟨jk c2,rfl⟩) h.ext (λ_ _ q=>q) h.inv (λd hd=>by grind) Eo,.inl ⟨rfl,hs⟩⟩
 obtain⟨hw1,hw2⟩:=R.win i o r j x hi HS m om hm hmi hmj hmx;have AEf:m∉Du p i:=λq=>hn (R.L1 hD hi oE q)
 have sU:Xx ops p m=true:=by
  rcases hw1 with q|q|q
  .grind
  .exact absurd (R.LH hD m om x hm hr q) hnx
  omega
 have dd:om.dst≠some kf.d:=λe=>hmi (R.dst m i om o kf.d hm hi e f2)
 have dp:om.dst≠some kf.p:=λe=>hmj (R.dst m j om o1 kf.p hm h1 e f4)
 have di:∀t,kf.ix=.tmp t->om.dst≠some t:=λt ht e=>AEf (hw2 t e (.inl (by grind[Dz,DU,Op.operands])))
 have dv:∀t,kf.v=.tmp t->om.dst≠some t:=λt ht e=>AEf (hw2 t e (.inr (by grind[Dz,DU,Op.operands])))
 have hag:=R.agree hD hm hn hr;have ACe:Open E.P (ρf kf.d) (RK E L ops i j x=true) kf (D j\/j=m) a g w wv:=by grind
 unfold Xx at sU;split at sU
 .rename_i o' ts ho' hc
  rw[hm] at ho'; simp at ho'; subst ho';have hs:M1 ops p (λi=>D i\/i=m) i:=M1.more hm (λ_ _ _ e=>by grind) hsh;obtain⟨v,hq,hv⟩:=R.qF m om ts k hm hc (h.sO R hD hm hn hr (.inl hc));rw[<-Il hag] at hq;have AN5:(∃x,om.op=.nilCheck x)\/(∃t x f,om.op=.fieldAddr t x f)\/(∃x,om.op=.move x):=by grind
  unfold E8 at hq;split at hq
  .rename_i hg
   obtain⟨v',hrun,hV⟩:=sI AN5 h.inv h.tmps hq;refine KY hm (DK h.tmps hg) ?_
   exact Jt (hrun w) ⟨k,g,wv,h.push R hm (.inl ⟨Pm hc,rfl⟩) h.ext (λ_ _ q=>q) h.inv (λd hd=>by grind) Eo,
    .inr ⟨i,o,r,j,x,o1,o2,kf,hi,HS,h1,h2,hf,.inl oE,hxm (E4 hmx),hs,ACe.more dd dp di dv⟩⟩
  .rename_i hg
   simp only[Au] at hq;subst hq;refine Rz hm (DK h.tmps hg) ?_
   exact⟨k,g,wv,h.push R hm (.inl ⟨Pm hc,rfl⟩) h.ext (λ_ _ q=>q) h.inv (λd hd=>by grind[V.undef]) Eo,
    .inr ⟨i,o,r,j,x,o1,o2,kf,hi,HS,h1,h2,hf,.inl oE,hxm (E4 hmx),hs,ACe.more dd dp di dv⟩⟩
  grind
 .rename_i o' r' ho' hc
  rw[hm] at ho'; simp at ho'; subst ho';have hs:M1 ops p (λi=>D i\/i=m) i:=M1.more hm (λ_ _ _ e=>by grind) hsh;have hk:=h.now R hD hm hn hr (J9 hc);subst hk;obtain⟨v,hact,hv⟩:=R.wF m om r' hm hc;rw[<-Na hag] at hact;unfold NU at hact;split at hact
  .rename_i hg
   split at sU
   .rename_i t y z e
    rw[OT] at hact;unfold nj at hact;rw[e] at hact;simp only at hact;obtain⟨dst,op,type,pos,after,guard⟩:=om;simp only at e;subst e;simp only[CS] at hact;split at hact
    .rename_i s1 hst
     simp only[Au,A0] at hact;obtain⟨rfl,rfl⟩:=hact;obtain⟨id,b',vs',e',⟨off',hptr⟩,hb',he1,hi1,AVL⟩:=eV h.inv (Aa h.tmps y) (Aa h.tmps z) hst;obtain⟨b,cap,len,vz,e,fz,xv,kk,elem,ti,k1,k2,k3,k4,k5,k6,k7,k8,k9,k10,sR,k12,k13⟩:=ACe
     have ZR:b'≠b:=by
      intro q;rcases k12 with ⟨tk,tl,k12,AVM⟩|⟨E9,AVN,n0,sz0,hq0,hb0,hX⟩
      .exact h.inv.Cu id b' tk tl hb' k12 (by rw[AVM,q])
      .subst q
       have hid:=h.inv.EF id E9 b' hb' hb0;refine R.mu i o r j x kf.d E9 AVN n0 sz0 hX hi HS f2 hq0 m _ r' t y z hm hc rfl id off' ?_ hid
       grind[Jr,DU,Op.operands]
     have hrun:=AVL w (by grind[BX]);refine KY hm (DK h.tmps hg) ?_;refine Im (w':=BI w b' vs' e') (by grind[execOp,Sem.run_bind,Result.andThen_ok,Sem.run_pure]) ?_
     refine⟨r'+1,g,BI wv b' vs' e',h.push R hm (.inr ⟨J9 hc,rfl⟩) (h.ext.trans he1) (λ_ _ q=>q.mono he1) hi1 (λd hd=>by grind[V.undef]) Eo,
      .inr ⟨i,o,r,j,x,o1,o2,kf,hi,HS,h1,h2,hf,.inl oE,hxm (E4 hmx),hs,?_⟩⟩
     refine Open.more ⟨b,cap,len,vz,e,fz,xv,kk,elem,ti,k1,k2,k3,k4,k5,k6,k7,k8,?_,?_,sR,k12,k13⟩ dd dp di dv
     all_goals grind[BX,X4]
    grind
   grind
  .rename_i hg
   simp only[Au,A0] at hact;obtain⟨rfl,hst⟩:=hact;refine Rz hm (DK h.tmps hg) ?_
   exact⟨r'+1,g,wv,h.push R hm (.inr ⟨J9 hc,rfl⟩) h.ext (λ_ _ q=>q) (hst ▸ h.inv) (λd hd=>by grind[V.undef]) Eo,
    .inr ⟨i,o,r,j,x,o1,o2,kf,hi,HS,h1,h2,hf,.inl oE,hxm (E4 hmx),hs,ACe.more dd dp di dv⟩⟩
  grind
 grind
theorem sV (R:U5 E L cf ops p K N ρ0 ρf σ) (Rx:Hg E L cf) {D:Nat->Prop} (hD:Down ops D) {a:Act} {w:World}
  (hnp:∀(i:Nat) o ts d id,ops[i]?=some o->p.cls[i]?=some (.h ts)->o.dst=some d->IL (ρf d)=some id->¬ g0.C4 id) (h:J E L ops p K N ρ0 ρf σ ds g0 w0 D a w)
  {m:Nat} {om:Oper} (hm:ops[m]?=some om) (hn:¬ D m) (hr:∀e∈om.after,Region.binds .any e=true->D e.on) :
  wpOpIn (FW rd) 0 E.P ops Q m (J E L ops p K N ρ0 ρf σ ds g0 w0 (λi=>D i\/i=m)) a w:=by
 obtain⟨k,g,wv,AN6,⟨rfl,hs⟩|⟨i,o,r,j,x,o1,o2,kf,hi,HS,h1,h2,hf,oE,hnx,hsh,hop⟩⟩:=h
 .grind[Zm]
 .exact oG R hD AN6 hi HS h1 h2 hf oE hnx hsh hop hm hn hr
def Fq (listed:Array Bool) (i:Nat):Prop:=listed.getD i false=true
theorem Fq.set {listed:Array Bool} {m:Nat} (hm:m<listed.size):Fq (listed.setIfInBounds m true)=λi=>Fq listed i\/i=m:=by
 funext i
 apply propext;unfold Fq
 by_cases h:i=m
 all_goals simp[*,E4]
theorem sX {n m:Nat} {q q':Nat->Bool} (hm:m<n) (h1:∀i,q' i=true->q i=true) (h2:q m=true) (h3:q' m=false):(List.range n).countP q'<(List.range n).countP q:=by
 induction n with
 | zero=>omega
 | succ n ih=>
  rw[List.range_succ,Rj,Rj];have hle:(List.range n).countP q'<=(List.range n).countP q:=List.countP_mono_left λi _=>h1 i
  grind
theorem sY (R:U5 E L cf ops p K N ρ0 ρf σ) (Rx:Hg E L cf)
  (hnp:∀(i:Nat) o ts d id,ops[i]?=some o->p.cls[i]?=some (.h ts)->o.dst=some d->IL (ρf d)=some id->¬ g0.C4 id)
  (hQ:∀D a w,(∀i,i<ops.size->D i)->J E L ops p K N ρ0 ρf σ ds g0 w0 D a w->Q .normal a w) :
  ∀(fuel:Nat) (listed:Array Bool) (a:Act) (w:World),listed.size=ops.size->Down ops (Fq listed)->J E L ops p K N ρ0 ρf σ ds g0 w0 (Fq listed) a w ->
   (List.range ops.size).countP (λi=>!(listed.getD i false))<=fuel->wpAnyIn (FW rd) 0 E.P .any ops Q fuel listed a w:=by
 have done:∀(listed:Array Bool) (a:Act) (w:World),listed.size=ops.size->J E L ops p K N ρ0 ρf σ ds g0 w0 (Fq listed) a w->Region.ready .any ops listed=[]->Q .normal a w:=by
  intro listed a w hsz hJ hrd;refine hQ (Fq listed) a w ?_ hJ;intro i
  induction i using Nat.strongRecOn with
  | ind i ih=>
   intro hi;rcases Classical.em (Fq listed i) with x|x
   .exact x
   .exfalso
    have:i∈Region.ready .any ops listed:=mem_ready.2 ⟨by grind[Fq],ops[i],by simp,λe he hb=>by
      have:=R.ACY i ops[i] e (by simp) he hb;exact ih e.on this (by omega)⟩
    grind
 intro fuel
 induction fuel with
 | zero=>
  intro listed a w hsz hD hJ hc
  have hrd:Region.ready .any ops listed=[]:=by
   apply List.eq_nil_iff_forall_not_mem.2
   grind[mem_ready,List.countP_eq_zero]
  exact⟨hrd,done listed a w hsz hJ hrd⟩
 | succ fuel ih=>
  intro listed a w hsz hD hJ hc;refine⟨done listed a w hsz hJ,λm hmr=>?_⟩;obtain⟨h0,om,hm,hall⟩:=mem_ready.1 hmr;have hlt:=Cq hm;have AN7:m<listed.size:=by omega
  have h0':listed.getD m false=false:=by grind
  have hn:¬ Fq listed m:=by grind[Fq]
  refine wpOpIn_mono (λa' w' hJ'=>?_) (sV R Rx hD hnp hJ hm hn hall);rw[<-Fq.set AN7] at hJ';refine ih _ a' w' (by grind) ?_ hJ' ?_
  .rw[Fq.set AN7]
   intro i o e ho hi he hb;rcases hi with hi|rfl
   .exact .inl (hD i o e ho hi he hb)
   .rw[hm] at ho; simp at ho; subst ho
    exact .inl (hall e he hb)
  .have:=sX (n:=ops.size) (m:=m) (q:=λi=>!(listed.getD i false)) (q':=λi=>!((listed.setIfInBounds m true).getD i false)) hlt (λi hi=>by
    have hne:i≠m:=λe=>by simp_all
    simp_all[E4]) (by grind) (by simp[*])
   omega
theorem eW (R:U5 E L cf ops p K N ρ0 ρf σ) (Rx:Hg E L cf) (eX:E.P.follows .mixedOrders=true) {a:Act} {w:World} {g g1:AE} {id:Nat}
  (hnp:∀(i:Nat) o ts d id,ops[i]?=some o->p.cls[i]?=some (.h ts)->o.dst=some d->IL (ρf d)=some id->¬ g.C4 id)
  (h1:Ext L g w g1 w) (hI:Inv E g1 w (σ 0)) (hsz:a.tmps.size=N) (hρ:∀t,V g1 w (ρ0 t) (a.tmps.getD t undef))
  (hpd:∀(i:Nat) o ts d id,ops[i]?=some o->p.cls[i]?=some (.h ts)->o.dst=some d->IL (ρf d)=some id->g1.C4 id)
  (hQ:∀a' w' g',a'.tmps.size=N->a'.defers=a.defers->Ext L g w g' w'->Inv E g' w' (σ K)->(∀t,V g' w' (ρf t) (a'.tmps.getD t undef))->Q .normal a' w') :
  (Code.region id ops true).wpIn (FW rd) 0 E.P Q a w:=by
 obtain⟨e1,i1⟩:=hI.drew (L:=L);refine wpIn_region_any eX (sY (ds:=a.defers) (g0:=g) (w0:=w) R Rx hnp ?_ ops.size _ a (BN w) (by simp) ?_ ?_ ?_)
 .rintro D a' w' hall ⟨k,g',wv,hc,AVO⟩
  have hK:k=K:=by
   have:=hc.kK;rcases FX k K with x|x
   .obtain⟨i,o,ho,hr⟩:=R.AIo k x
    have:=(hc.time i o k ho hr).1 (hall i (Cq ho));omega
   omega
  subst hK;rcases AVO with ⟨rfl,_⟩|⟨i,o,r,j,x,o1,o2,kf,_,_,_,h2,_,_,hnx,_⟩
  .refine hQ a' w' g' hc.size hc.defers hc.ext hc.inv λt=>?_
   have:=hc.tmps t
   by_cases hw:∃(i:Nat) (o:Oper),ops[i]?=some o/\o.dst=some t
   .grind[Sj]
   .rw[R.Sk λi o ho hd=>hw ⟨i,o,ho,hd⟩] at this
    omega
  grind
 .intro i o e ho hi
  simp_all[Cq,Fq]
 .have hnone:∀i,¬ Fq (Array.replicate ops.size false) i:=λi hi=>by
   unfold Fq at hi
   by_cases hlt:i<ops.size
   all_goals simp_all
  refine⟨0,g1,BN w,⟨AI _,λi o r ho hr=>⟨λq=>absurd q (hnone i),λq=>by omega⟩,hsz,rfl,h1.trans e1,i1,λt=>?_,λi o ts d id ho hc hd hid _=>hpd i o ts d id ho hc hd hid⟩,
   .inl ⟨rfl,λi i' o' r' j' x' ho' KZ hi' _=>absurd hi' (hnone i')⟩⟩
  rw[Ry λi o _ _=>hnone i];exact(hρ t).mono e1
 grind[List.countP_le_length]
end
theorem Oa {l:List Nat} {x:Nat}:has l x=true<->x∈l:=by grind[has,Nat.eq_of_beq_eq_true,Nat.beq_refl]
theorem Ka {l:List Nat} {x:Nat}:has l x=false<->x∉l:=by grind[Oa]
theorem L2 {l:List (Nat×Nat)} {i k:Nat} (h:Mh l i k=true):(i,k)∈l:=by grind[Mh,Nat.eq_of_beq_eq_true]
theorem Gs {n:Nat} {f:Nat->Bool} (h:(List.range n).all f=true) {i:Nat} (hi:i<n):f i=true:=C2.1 h i (by grind)
theorem DZ {ops:Array Oper} {i d:Nat}:d∈Fp ops i<->∃o,ops[i]?=some o/\o.dst=some d:=by grind[Fp,jg]
theorem F8 {st st':St} {d:Option Nat} {v:AV} (h:KO st d v=some st') :
  st'.N=st.N/\st'.s=st.s/\(∀e,d=some e->e<st.N/\st'.ρ e=v)/\∀t,d≠some t->st'.ρ t=st.ρ t:=by
 unfold KO at h;split at h
 .grind
 .rename_i e
  cases hb:Nat.blt e st.N with
  | false=>grind
  | true=>
   simp[hb] at h; subst h;refine⟨rfl,rfl,λe' he=>?_,λt ht=>?_⟩
   .simp_all[ZX]
   grind[Nat.eq_of_beq_eq_true,ZX]
theorem Kb {E:Env} {ρ:Nat->AV} {o:Oper} {cs:List AV} {mk:Nat->AV} (h:hcells E ρ o=some (cs,mk)):∀id,IL (mk id)=some id:=by
 obtain⟨dst,op,type,pos,after,guard⟩:=o;cases op with
 | alloc t=>
  simp only[hcells] at h;split at h
  .cases hbz:E.bz t with
   | true=>grind
   | false=>
   rw[hbz] at h;simp only[AH,Au,A0] at h;obtain⟨_,rfl⟩:=h;intro id; rfl
  grind
 | makeSlice t l c=>
  simp only[hcells] at h;split at h
  .split at h
   .split at h
    .simp only[Au,A0] at h
     obtain⟨_,rfl⟩:=h;intro id; rfl
    grind
   grind
  grind
 | _=>grind[hcells]
def Sn (ops:Array Oper) (p:Bd) (ρ0 ρf ρ:Nat->AV) (i:Nat):Prop:=∀t∈n8 ops p i,ρ t=Fe p.GU ρ0 ρf i t
theorem Pn {ops:Array Oper} {p:Bd} {ρ0 ρf:Nat->AV} {done:List Nat} {i:Nat} {rest:List Nat} {st:St} (ho:Hy ops p done (i::rest)=true) (h0:∀t,t∉done->st.ρ t=ρ0 t)
  (hf:∀t,(∀j∈i::rest,t∉HO ops p j)->ρf t=st.ρ t):Sn ops p ρ0 ρf st.ρ i:=by
 intro t ht
 grind[Hy,Fe,Oa]
theorem So {ops:Array Oper} {p:Bd} {done:List Nat} {i:Nat} {rest:List Nat} (ho:Hy ops p done (i::rest)=true) :
  Hy ops p (HO ops p i++done) rest=true/\∀t∈HO ops p i,∀j∈rest,t∉HO ops p j:=by grind[Hy,Oa]
theorem LI {ops:Array Oper} {p:Bd} {i:Nat} {o:Oper} (hi:ops[i]?=some o) (hc:(∃ts,p.cls[i]?=some (.q ts))\/(∃ts,p.cls[i]?=some (.h ts))\/(∃r,p.cls[i]?=some (.w r))) :
  n8 ops p i=Gr ops o++F6 o/\HO ops p i=Fp ops i:=by grind[n8,HO,Dz]
section
variable {rd:Option Nat} {E:Env} {L:A3} {cf:Cp} {ops:Array Oper} {p:Bd} {ρ0:Nat->AV}
structure sZ (E:Env) (L:A3) (cf:Cp) (ops:Array Oper) (p:Bd) (ρ0 ρf:Nat->AV) (N:Nat) (σ:Nat->AL) (i:Nat):Prop where
 q:∀ts,p.cls[i]?=some (.q ts)->∃o k v,ops[i]?=some o/\E8 E L ops (Fe p.GU ρ0 ρf i) (σ k) o=some v/\(∀d,o.dst=some d->d<N/\ρf d=v)/\∀t∈ts,t=k\/NY ops i=true\/(i,t)∈p.Xe
 w:∀r,p.cls[i]?=some (.w r)->∃o v,ops[i]?=some o/\NU E L cf ops (Fe p.GU ρ0 ρf i) (σ r) o=some (v,σ (r+1))/\∀d,o.dst=some d->d<N/\ρf d=v
 fa:∀r j x,p.cls[i]?=some (.fa r j x)->∃o o1 o2 k v ρ,ops[i]?=some o/\ops[j]?=some o1/\ops[x]?=some o2/\fused o o1 o2=some k/\KQ E L ρ (σ r) k=some (v,σ (r+1))/\Sn ops p ρ0 ρf ρ i /\
  k.d<N/\k.p<N/\ρf k.d=v/\ρf k.p=.G2
 h:∀ts,p.cls[i]?≠some (.h ts)
def IX (acc:List AL) (k:Nat):AL:=(acc.reverse[k]?).getD ⟨[],[]⟩
theorem Mj {new acc:List AL} {k:Nat} (h:acc.length=k+1):IX (new++acc) k=(acc.head?).getD ⟨[],[]⟩:=by
 unfold IX;rw[List.reverse_append,CZ (by grind)];cases acc with
 | nil=>rfl
 | cons s acc=>
  grind
theorem eY {K:Nat} {Qs:St} {Je:List AL}:∀(rest:List Nat) (done:List Nat) (st:St) (acc:List AL) (k:Nat),Hy ops p done rest=true->(∀t,t∉done->st.ρ t=ρ0 t) ->
  J7 ops p rest k=some K->acc.length=k+1->acc.head?=some st.s->HE E L cf ops p.cls rest st acc=some (Qs,Je) ->
  Qs.N=st.N/\(∀t,(∀j∈rest,t∉HO ops p j)->Qs.ρ t=st.ρ t)/\(∃new,Je=new++acc)/\Je.length=K+1/\Je.head?=some Qs.s/\k<=K /\
  (∀i∈rest,sZ E L cf ops p ρ0 Qs.ρ st.N (IX Je) i)/\(∀i∈rest,∀r,FI p i=some r->r<K)/\(∀r,k<=r->r<K->∃i∈rest,FI p i=some r):=by
 intro rest
 induction rest with
 | nil=>
  intro done st acc k ho h0 hr hl hh h
  simp_all[HE,J7]
 | cons i rest ih=>
  intro done st acc k ho h0 hr hl hh h;obtain⟨ho',Jf⟩:=So ho
  have tail:∀(st':St) (acc':List AL) (k':Nat),st'.N=st.N->(∀t,t∉HO ops p i->st'.ρ t=st.ρ t)->J7 ops p rest k'=some K->acc'.length=k'+1->acc'.head?=some st'.s->(∃n,acc'=n++acc) ->
    HE E L cf ops p.cls rest st' acc'=some (Qs,Je)->((FI p i=none/\k'=k)\/(FI p i=some k/\k'=k+1)) ->
    ((∀t,(∀j∈rest,t∉HO ops p j)->Qs.ρ t=st'.ρ t)->Sn ops p ρ0 Qs.ρ st.ρ i->IX Je k=st.s->IX Je k'=st'.s->sZ E L cf ops p ρ0 Qs.ρ st.N (IX Je) i) ->
    Qs.N=st.N/\(∀t,(∀j∈i::rest,t∉HO ops p j)->Qs.ρ t=st.ρ t)/\(∃new,Je=new++acc)/\Je.length=K+1/\Je.head?=some Qs.s/\k<=K /\
    (∀j∈i::rest,sZ E L cf ops p ρ0 Qs.ρ st.N (IX Je) j)/\(∀j∈i::rest,∀r,FI p j=some r->r<K)/\(∀r,k<=r->r<K->∃j∈i::rest,FI p j=some r):=by
   intro st' acc' k' hN hfr hr' hl' hh' hacc hrun Zk AN8;have h0':∀t,t∉HO ops p i++done->st'.ρ t=ρ0 t:=λt ht=>by grind
   obtain⟨t1,t2,⟨new,t3⟩,t4,t5,t6,t7,t8,t9⟩:=ih _ st' acc' k' ho' h0' hr' hl' hh' hrun
   have hframe:∀t,(∀j∈i::rest,t∉HO ops p j)->Qs.ρ t=st.ρ t:=λt ht=>by
    rw[t2 t (λj hj=>ht j (Eg _ hj)),hfr t (ht i (Jh ..))]
   obtain⟨n,rfl⟩:=hacc;have ZQ:IX Je k=st.s:=by grind[Mj]
   have hk2:IX Je k'=st'.s:=by grind[Mj]
   have hi:=AN8 t2 (Pn ho h0 hframe) ZQ hk2;refine⟨t1.trans hN,hframe,⟨new++n,by rw[t3,FY]⟩,t4,t5,by omega,λj hj=>?_,λj hj r rC=>?_,λr h1 h2=>?_⟩
   all_goals grind
  simp only[HE] at h;simp only[J7] at hr;split at h
  .rename_i o ts R1 HS
   rw[HS] at hr;simp only at hr;obtain⟨r1,r2⟩:=LI R1 (.inl ⟨ts,HS⟩);cases hall:(ts.all λt=>Nat.beq t k||NY ops i||Mh p.Xe i t) with
   | false=>grind
   | true=>
    rw[hall] at hr;simp only[AN] at hr;split at h
    .rename_i v hq
     split at h
     .rename_i st' hp
      obtain⟨a1,a2,a3,a4⟩:=F8 hp;refine tail st' acc k a1 (λt ht=>a4 t λe=>ht (by grind[DZ])) hr hl (by grind) ⟨[],rfl⟩ h (.inl ⟨Pm HS,rfl⟩) λhfr hag hs1 hs2=>?_
      refine⟨λts' h'=>?_,λr h'=>by grind,λr j x h'=>by grind,λts' h'=>by grind⟩;rw[HS] at h'; simp at h'; subst h';refine⟨o,k,v,R1,?_,λd hd=>⟨(a3 d hd).1,?_⟩,λt ht=>?_⟩
      .rw[hs1,<-Il (λt ht=>hag t (by grind))]; omega
      .grind[DZ]
      grind[Nat.eq_of_beq_eq_true,L2]
     grind
    grind
  .rename_i o r R1 HS
   rw[HS] at hr;simp only at hr;obtain⟨r1,r2⟩:=LI R1 (.inr (.inr ⟨r,HS⟩));cases Zk:Nat.beq r k with
   | false=>grind
   | true=>
    rw[Zk] at hr;simp only[AN] at hr;have Zk:=Bx Zk;subst Zk;split at h
    .rename_i v s' hact
     split at h
     .rename_i st' hp
      obtain⟨a1,a2,a3,a4⟩:=F8 hp;refine tail st' (s'::acc) (r+1) a1 (λt ht=>a4 t λe=>ht (by grind[DZ])) hr (by grind) (by grind) ⟨[s'],rfl⟩ h (.inr ⟨J9 HS,rfl⟩) λhfr hag hs1 hs2=>?_
      refine⟨λts' h'=>by grind,λr' h'=>?_,λr j x h'=>by grind,λts' h'=>by grind⟩;rw[HS] at h'; simp at h'; subst h';refine⟨o,v,R1,?_,λd hd=>⟨(a3 d hd).1,?_⟩⟩
      .rw[hs1,hs2,a2,<-Na (λt ht=>hag t (by grind))]; omega
      grind[DZ]
     grind
    grind
  .rename_i o r j x R1 HS
   rw[HS] at hr;simp only at hr;cases Zk:Nat.beq r k with
   | false=>grind
   | true=>
    rw[Zk] at hr;simp only[AN] at hr;have Zk:=Bx Zk;subst Zk;split at h
    .rename_i o1 o2 sM hox
     split at h
     .rename_i kf hf
      obtain⟨f1,f2,f3,f4,f5,f6,f7,f8,f9,f10,f11⟩:=F7 hf;have hew:HO ops p i=[kf.d,kf.p]:=by grind[HO,Fp,jg]
      split at h
      .rename_i v s' OZ
       split at h
       .rename_i st' hp
        unfold J5 at hp;split at hp
        .rename_i Fh hp1
         obtain⟨a1,a2,a3,a4⟩:=F8 hp1;obtain⟨b1,b2,b3,b4⟩:=F8 hp;obtain⟨a31,a32⟩:=a3 kf.d rfl;obtain⟨b31,b32⟩:=b3 kf.p rfl;refine tail st' (s'::acc) (r+1) (b1.trans a1) (λt ht=>?_) hr (by grind) (by grind) ⟨[s'],rfl⟩ h (.inr ⟨Ju HS,rfl⟩) λhfr hag hs1 hs2=>?_
         .rw[hew] at ht
          simp at ht;rw[b4 t (λe=>ht.2 (by grind)),a4 t (λe=>ht.1 (by grind))]
         .refine⟨λts' h'=>by grind,λr' h'=>by grind,λr' j' x' h'=>?_,λts' h'=>by grind⟩
          rw[HS] at h'; simp at h'; obtain⟨rfl,rfl,rfl⟩:=h';refine⟨o,o1,o2,kf,v,st.ρ,R1,sM,hox,hf,?_,hag,a31,by grind,?_,?_⟩
          .grind
          .grind
          grind
        grind
       grind
      grind
     grind
    grind
  .rename_i o R1 HS
   rw[HS] at hr
   exact tail st acc k rfl (λ_ _=>rfl) hr hl hh ⟨[],rfl⟩ h (.inl ⟨ji HS,rfl⟩) λ_ _ _ _=>
    ⟨λts' h'=>by grind,λr' h'=>by grind,λr' j' x' h'=>by grind,λts' h'=>by grind⟩
  .rename_i o R1 HS
   rw[HS] at hr
   exact tail st acc k rfl (λ_ _=>rfl) hr hl hh ⟨[],rfl⟩ h (.inl ⟨jk HS,rfl⟩) λ_ _ _ _=>
    ⟨λts' h'=>by grind,λr' h'=>by grind,λr' j' x' h'=>by grind,λts' h'=>by grind⟩
  grind
structure AIt (E:Env) (L:A3) (ops:Array Oper) (p:Bd) (ρ0 ρf:Nat->AV) (N lo hi:Nat) (i:Nat):Prop where
 q:∀ts,p.cls[i]?=some (.q ts)->∃o s v,ops[i]?=some o/\E8 E L ops (Fe p.GU ρ0 ρf i) s o=some v/\(∀d,o.dst=some d->d<N/\ρf d=v)/\∀t∈ts,NY ops i=true\/(i,t)∈p.Xe
 h:∀ts,p.cls[i]?=some (.h ts)->∃o cs mk id,ops[i]?=some o/\hcells E (Fe p.GU ρ0 ρf i) o=some (cs,mk)/\(∀d,o.dst=some d->d<N/\ρf d=mk id)/\lo<=id/\id<hi/\∀t∈ts,(i,t)∈p.Xe
 n:FI p i=none/\p.cls[i]?≠some .fj/\p.cls[i]?≠some .fx
theorem Qt {Fh:St} {rest:List Nat} {ρf:Nat->AV} (oH:∀t,(∀j∈rest,t∉HO ops p j)->ρf t=Fh.ρ t):∀(first:List Nat) (done:List Nat) (st:St),Hy ops p done (first++rest)=true ->
  (∀t,t∉done->st.ρ t=ρ0 t)->Rw ops p first=true->JA E L ops p.cls first st=some Fh ->
  ∃hs done',Fh.N=st.N/\(∀t,(∀j∈first,t∉HO ops p j)->Fh.ρ t=st.ρ t)/\Fh.s={ st.s with bs:=st.s.bs++hs }/\Hy ops p done' rest=true/\(∀t,t∉done'->Fh.ρ t=ρ0 t) /\
  (∀i∈first,AIt E L ops p ρ0 ρf st.N st.s.bs.length (st.s.bs++hs).length i) /\
  (∀i j oi oj ts us d e id,i∈first->j∈first->ops[i]?=some oi->ops[j]?=some oj->p.cls[i]?=some (.h ts)->p.cls[j]?=some (.h us)->oi.dst=some d->oj.dst=some e->IL (ρf d)=some id->IL (ρf e)=some id->i=j):=by
 intro first
 induction first with
 | nil=>
  intro done st ho h0 hf h;simp[JA] at h;subst h;exact⟨[],done,rfl,λ_ _=>rfl,by simp,ho,h0,by simp,by simp⟩
 | cons i first ih=>
  intro done st ho h0 hf h;rw[Dx] at ho;obtain⟨ho',Jf⟩:=So ho;simp only[Rw,AG] at hf;simp only[JA] at h;split at h
  .rename_i o ts R1 HS
   have hf1:=hf.1;rw[HS] at hf1;simp only at hf1;obtain⟨r1,r2⟩:=LI R1 (.inl ⟨ts,HS⟩);split at h
   .rename_i v hq
    split at h
    .rename_i st' hp
     obtain⟨a1,a2,a3,a4⟩:=F8 hp;have hfr:∀t,t∉HO ops p i->st'.ρ t=st.ρ t:=λt ht=>a4 t λe=>ht (by grind[DZ])
     obtain⟨hs,done',b1,b2,b3,b4,b5,b6,b7⟩:=ih _ st' ho' (λt ht=>by grind) hf.2 h
     have hframe:∀t,(∀j∈i::first,t∉HO ops p j)->Fh.ρ t=st.ρ t:=λt ht=>by
      rw[b2 t (λj hj=>ht j (Eg _ hj)),hfr t (ht i (Jh ..))]
     have sg:∀t,(∀j∈first++rest,t∉HO ops p j)->ρf t=st'.ρ t:=λt ht=>by
      rw[oH t (λj hj=>ht j (Ib _ hj)),b2 t (λj hj=>ht j (List.mem_append_left _ hj))]
     have hag:Sn ops p ρ0 ρf st.ρ i:=Pn ho h0 λt ht=>by
      rw[sg t (λj hj=>ht j (Eg _ hj)),hfr t (ht i (Jh ..))]
     rw[a2] at b3;refine⟨hs,done',b1.trans a1,hframe,b3,b4,b5,λj hj=>?_,?_⟩
     .rcases A6.1 hj with rfl|hj
      .refine⟨λts' h'=>?_,λts' h'=>by grind,Pm HS,by grind,by grind⟩
       rw[HS] at h'; simp at h'; subst h';refine⟨o,st.s,v,R1,?_,λd hd=>⟨(a3 d hd).1,?_⟩,λt ht=>?_⟩
       .rw[<-Il (λt ht=>hag t (by grind))]; omega
       .grind[DZ]
       grind[L2]
      grind
     .intro i1 j1 oi oj NG us d e id hi1 hj1 e1 e2 e3 e4 e5 e6 e7 e8
      rcases A6.1 hi1 with rfl|hi1
      .grind
      .rcases A6.1 hj1 with rfl|hj1
       .grind
       .exact b7 i1 j1 oi oj NG us d e id hi1 hj1 e1 e2 e3 e4 e5 e6 e7 e8
    grind
   grind
  .rename_i o ts R1 HS
   have hf1:=hf.1;rw[HS] at hf1;simp only at hf1;obtain⟨r1,r2⟩:=LI R1 (.inr (.inl ⟨ts,HS⟩));split at h
   .rename_i cs mk hq
    split at h
    .rename_i st' hp
     obtain⟨a1,a2,a3,a4⟩:=F8 hp;have hfr:∀t,t∉HO ops p i->st'.ρ t=st.ρ t:=λt ht=>a4 t λe=>ht (by grind[DZ])
     obtain⟨hs,done',b1,b2,b3,b4,b5,b6,b7⟩:=ih _ st' ho' (λt ht=>by grind) hf.2 h
     have hframe:∀t,(∀j∈i::first,t∉HO ops p j)->Fh.ρ t=st.ρ t:=λt ht=>by
      rw[b2 t (λj hj=>ht j (Eg _ hj)),hfr t (ht i (Jh ..))]
     have sg:∀t,(∀j∈first++rest,t∉HO ops p j)->ρf t=st'.ρ t:=λt ht=>by
      rw[oH t (λj hj=>ht j (Ib _ hj)),b2 t (λj hj=>ht j (List.mem_append_left _ hj))]
     have hag:Sn ops p ρ0 ρf st.ρ i:=Pn ho h0 λt ht=>by
      rw[sg t (λj hj=>ht j (Eg _ hj)),hfr t (ht i (Jh ..))]
     rw[a2] at b3;have hval:∀d,o.dst=some d->d<st.N/\ρf d=mk st.s.bs.length:=λd hd=>⟨(a3 d hd).1,by grind[DZ]⟩
     have hlen:st'.s.bs.length=st.s.bs.length+1:=by grind
     have Xt:∀j∈first,∀oj us e id,ops[j]?=some oj->p.cls[j]?=some (.h us)->oj.dst=some e->IL (ρf e)=some id->st.s.bs.length+1<=id:=by
      intro j hj oj us e id e2 e4 e6 e8;obtain⟨o',cs',mk',id',q1,q2,q3,q4,q5,q6⟩:=(b6 j hj).h us e4;rw[e2] at q1; simp at q1; subst q1;rw[(q3 e e6).2,Kb q2] at e8
      grind
     refine⟨cs::hs,done',b1.trans a1,hframe,by grind,b4,b5,λj hj=>?_,?_⟩
     .rcases A6.1 hj with rfl|hj
      .refine⟨λts' h'=>by grind,λts' h'=>?_,sP HS,by grind,by grind⟩
       rw[HS] at h'; simp at h'; subst h';refine⟨o,cs,mk,st.s.bs.length,R1,?_,hval,Ac _,by simp,λt ht=>?_⟩
       .rw[<-OX (λt ht=>hag t (by grind))]; omega
       grind[L2]
      .have:=b6 j hj
       rw[a1,hlen] at this;refine⟨this.q,λts' h'=>?_,this.n⟩;obtain⟨o',cs',mk',id',q1,q2,q3,q4,q5,q6⟩:=this.h ts' h';exact⟨o',cs',mk',id',q1,q2,q3,by omega,by grind,q6⟩
     .intro i1 j1 oi oj NG us d e id hi1 hj1 e1 e2 e3 e4 e5 e6 e7 e8
      rcases A6.1 hi1 with rfl|hi1
      .rcases A6.1 hj1 with rfl|hj1
       .rfl
       .rw[R1] at e1; simp at e1; subst e1
        rw[(hval d e5).2,Kb hq] at e7
        grind
      .rcases A6.1 hj1 with rfl|hj1
       .rw[R1] at e2; simp at e2; subst e2
        rw[(hval e e6).2,Kb hq] at e8
        grind
       .exact b7 i1 j1 oi oj NG us d e id hi1 hj1 e1 e2 e3 e4 e5 e6 e7 e8
    grind
   grind
  grind
end
theorem F9 {l:List Nat} {x:Nat} (h:has l x=true):x∈l:=Oa.1 h
theorem oJ {E:Env} {L:A3} {ops:Array Oper} {cls:List eH} {GU:List (List Nat)} {ρ0 ρf:Nat->AV} {σ:List AL}:∀(Xe:List (Nat×Nat)),eI E L ops cls GU ρ0 ρf σ Xe=true->∀i k,(i,k)∈Xe ->
  (∀o ts,ops[i]?=some o->cls[i]?=some (.q ts)->∃s v,σ[k]?=some s/\E8 E L ops (Fe GU ρ0 ρf i) s o=some v/\∀d,o.dst=some d->ρf d=v) /\
  (∀o ts,ops[i]?=some o->cls[i]?=some (.h ts)->∃s cs mk d id,σ[k]?=some s/\hcells E (Fe GU ρ0 ρf i) o=some (cs,mk)/\o.dst=some d/\IL (ρf d)=some id/\s.bs[id]?=some cs):=by
 intro Xe
 induction Xe with
 | nil=>simp
 | cons q Xe ih=>
  obtain⟨i',k'⟩:=q;intro h i k hm;simp only[eI,AG] at h;rcases A6.1 hm with e|hm
  .simp at e
   obtain⟨rfl,rfl⟩:=e;have h:=h.1;split at h
   .grind[Ph]
   .grind[Hf]
   grind
  grind
theorem Inv.si {E:Env} {w:World}:∀(hs:List (List AV)) (g:AE) (s:AL),Inv E g w s->∃q:Nat->Prop,(∀id,g.C4 id->q id)/\(∀id,s.bs.length<=id->id<s.bs.length+hs.length->q id)/\Inv E (g.B7 q) w { s with bs:=s.bs++hs }:=by
 intro hs
 induction hs with
 | nil=>intro g s h; exact⟨g.C4,λ_ q=>q,λid a b=>by grind,by simpa using h.B7 h.DM (λ_ q=>q) (λid b hb=>(h.J6 id b hb).2.2)⟩
 | cons cs hs ih=>
  intro g s h;obtain⟨q,h1,h2,h3⟩:=ih _ _ (h.reserve cs);refine⟨q,λid hq=>h1 id (.inl hq),λid a b=>?_,by grind[AE.B7]⟩
  by_cases e:id=s.bs.length
  .exact h1 id (.inr e)
  grind
theorem Zo {acc:List AL} {k:Nat} {s:AL} (h:acc.reverse[k]?=some s):IX acc k=s:=by simp[IX,h]
theorem Zp {E:Env} {L:A3} {ρ ρ':Nat->AV} {s:AL} {k:I7} (h:∀z,z=k.x\/z=k.y\/z=k.ix\/z=k.v->Ad ρ z=Ad ρ' z):I8 E L ρ' s k=I8 E L ρ s k:=by simp[*,I8]
theorem Zq {E:Env} {L:A3} {ρ ρ':Nat->AV} {s:AL} {k:I7} (h:∀z,z=k.x\/z=k.y\/z=k.ix\/z=k.v->Ad ρ z=Ad ρ' z):Vb E L ρ' s k=Vb E L ρ s k:=by simp[*,Vb]
theorem Zr {E:Env} {L:A3} {ρ ρ':Nat->AV} {s:AL} {k:I7} (h:∀z,z=k.x\/z=k.y\/z=k.ix\/z=k.v->Ad ρ z=Ad ρ' z):KQ E L ρ' s k=KQ E L ρ s k:=by grind[KQ,Zp,Zq]
theorem Qu {ops:Array Oper} {p:Bd} {ρ0 ρf:Nat->AV} {E9:Nat}:∀{l:List Nat},Qo ops p ρ0 ρf E9 l=true->∀m∈l,∀om r' t y z,ops[m]?=some om->p.cls[m]?=some (.w r')->om.op=.store t y z ->
  ∀id off',Ad (Fe p.GU ρ0 ρf m) y=.ptr id off'->id≠E9
 | [],_,m,hm=>by grind
 | n::l,h,m,hm=>by
  intro om r' t y z hom hc hop id off' hy;simp only[Qo,AG] at h;rcases A6.1 hm with rfl|hm
  .have h1:=h.1
   rw[hom,hc] at h1;simp only[hop,hy,K0] at h1;intro e
   simp_all
  .exact Qu h.2 m hm om r' t y z hom hc hop id off' hy
theorem Qv {E:Env} {L:A3} {ops:Array Oper} {p:Bd} {ρ0 ρf:Nat->AV}:∀{l:List Nat},SR E L ops p ρ0 ρf l=true->∀i∈l,∀o r j x d E9 off len sz,RK E L ops i j x=true->ops[i]?=some o->p.cls[i]?=some (.fa r j x)->o.dst=some d->ρf d=.ref E9 off len sz ->
  Qo ops p ρ0 ρf E9 p.rest=true
 | [],_,i,hi=>by grind
 | n::l,h,i,hi=>by
  intro o r j x d E9 off len sz hX ho hc hd hr;simp only[SR,AG] at h;rcases A6.1 hi with rfl|hi
  .grind
  .exact Qv h.2 i hi o r j x d E9 off len sz hX ho hc hd hr
theorem Sq {E:Env} {L:A3} {ops:Array Oper} {cls:List eH}:∀{l:List Nat},ri E L ops cls l=true->∀i∈l,∀r j x,cls[i]?=some (.fa r j x)->RK E L ops i j x=false
 | [],_,i,hi=>by grind
 | n::l,h,i,hi=>by
  intro r j x hc;simp only[ri,AG] at h;rcases A6.1 hi with rfl|hi
  .grind
  .exact Sq h.2 i hi r j x hc
theorem Zs {E:Env} {L:A3} {ops:Array Oper} {p:Bd} {ρ0 ρf:Nat->AV} (h:Vc E L ops p ρ0 ρf=true):∀i∈p.rest,∀o r j x d E9 off len sz,RK E L ops i j x=true->ops[i]?=some o->p.cls[i]?=some (.fa r j x)->o.dst=some d->ρf d=.ref E9 off len sz ->
  Qo ops p ρ0 ρf E9 p.rest=true:=by grind[Vc,Sq,Qv]
section
variable {rd:Option Nat} {E:Env} {L:A3} {cf:Cp} {ops:Array Oper} {p:Bd}
theorem eZ (Rx:Hg E L cf) (eX:E.P.follows .mixedOrders=true) (Kc:Sc ops p=true) {g:AE} {w:World} {a:Act} {st st':St} {Q:Exit->Act->World->Prop} {id:Nat} (hI:Inv E g w st.s) (hsz:a.tmps.size=st.N)
  (hρ:∀t,V g w (st.ρ t) (a.tmps.getD t undef)) (h:Xl E L cf p ops st=some st')
  (hQ:∀a' w' g',a'.tmps.size=st'.N->a'.defers=a.defers->Ext L g w g' w'->Inv E g' w' st'.s->(∀t,V g' w' (st'.ρ t) (a'.tmps.getD t undef))->st'.N=st.N->Q .normal a' w') :
  (Code.region id ops true).wpIn (FW rd) 0 E.P Q a w:=by
 unfold Sc at Kc;simp only at Kc;split at Kc
 .simp at Kc
 rename_i K hK;simp only[AG] at Kc;obtain⟨⟨⟨⟨hlen,hmem⟩,hall⟩,AOB⟩,sj⟩:=Kc;unfold Xl at h;split at h
 .rename_i Fh h1
  split at h
  .rename_i Qs Je h2
   cases hch:eI E L ops p.cls p.GU st.ρ Qs.ρ Je.reverse p.Xe with
   | false=>rw[hch] at h; simp at h
   | true=>
    cases hmc:Vc E L ops p st.ρ Qs.ρ with
    | false=>rw[hch,hmc] at h; simp at h
    | true=>
    rw[hch,hmc] at h;simp at h;subst h;obtain⟨_,done',_,_,_,ho',h0',_,_⟩:=Qt (E:=E) (L:=L) (ρ0:=st.ρ) (ρf:=Fh.ρ) (λ_ _=>rfl) p.first [] st AOB (λ_ _=>rfl) sj h1;obtain⟨r1,r2,⟨new,r3⟩,r4,r5,_,r7,r8,r9⟩:=eY (ρ0:=st.ρ) p.rest done' Fh [Fh.s] 0 ho' h0' hK rfl rfl h2;obtain⟨hs,_,f1,f2,f3,_,_,f6,f7⟩:=Qt (E:=E) (L:=L) (ρ0:=st.ρ) (ρf:=Qs.ρ) r2 p.first [] st AOB (λ_ _=>rfl) sj h1;have AOC:=oJ p.Xe hch;have hin:∀(i:Nat) o,ops[i]?=some o->i∈p.first\/i∈p.rest:=λi o ho=>B9.1 (F9 (Gs hmem (Cq ho)))
    have hst:∀(i:Nat) o,ops[i]?=some o->Xu ops p i=true/\LG ops p i=true/\AEX ops ops.size i=true/\sC ops p ops.size i=true/\Xw p ops.size i=true/\eR p ops.size K i=true/\NZ ops p ops.size i=true:=λi o ho=>by
     have:=Gs hall (Cq ho);simp only[AG] at this;obtain⟨⟨⟨⟨⟨⟨a1,a2⟩,a3⟩,a4⟩,a5⟩,a6⟩,a7⟩:=this;exact⟨a1,a2,a3,a4,a5,a6,a7⟩
    have hN1:Fh.N=st.N:=f1;have hNf:Qs.N=st.N:=r1.trans f1;have hσ0:IX Je 0=Fh.s:=by rw[r3,Mj rfl]; rfl
    have hσK:IX Je K=Qs.s:=by
     have:=Mj (new:=[]) r4;rw[Ce] at this;rw[this,r5]; rfl
    have R:U5 E L cf ops p K st.N st.ρ Qs.ρ (IX Je):={
     ACY:=λi o e ho he hb=>by
      have:=(hst i o ho).1;simp only[Xu,ho,AG] at this;have:=C2.1 this.1 e (by simpa using he);simpa[hb,Nat.blt_eq] using this
     pre:=λi o j ho hj=>by
      have:=(hst i o ho).1;simp only[Xu,ho,AG] at this;obtain⟨e,he,h'⟩:=K1.1 (C2.1 this.2 j hj);simp only[AG,Di] at h';exact⟨e,by simpa using he,h'.1,h'.2.imp Bx F9⟩
     cls:=λi o ho=>by
      have:=(hst i o ho).2.1;unfold LG at this;rw[ho] at this;cases hc:p.cls[i]? with
      | none=>rw[hc] at this; simp at this
      | some c=>exact⟨c,rfl⟩
     dst:=λi j oi oj d hi hj oC sN=>by
      have:=Gs (hst i oi hi).2.2.1 (Cq hj);simp only[Di] at this;rcases this with q|q
      .exact(Bx q).symm
      .have:=C2.1 q d (DZ.2 ⟨oj,hj,sN⟩)
       simp only[K0] at this;exact absurd (DZ.2 ⟨oi,hi,oC⟩) (Ka.1 this)
     read:=λi j oi oj d hi hj sN hd=>by
      have:=C2.1 (Gs (hst i oi hi).2.2.2.1 (Cq hj)) d (DZ.2 ⟨oj,hj,sN⟩);have hr:has (Dz ops i) d=true:=Oa.2 (by simp only[Dz,hi]; exact hd);rw[hr] at this;simp only[MY,Ge] at this;cases hw:has (HQ p.GU i) d with
      | true=>
       rw[hw] at this;simp only[AN,Di] at this;exact .inl ⟨rfl,this.imp Bx F9⟩
      | false=>
       rw[hw] at this;exact .inr ⟨rfl,F9 (by simpa using this)⟩
     rk:=λi j oi oj r r' hi hj Lp sk hlt=>by
      have:=(hst i oi hi).2.2.2.2.1;unfold Xw at this;rw[Lp] at this;have:=Gs this (Cq hj);rw[sk] at this;simp only[Di,AG,K0] at this;rcases this with q|⟨_,q⟩
      .have:=Bx q
       subst this;rw[Lp] at sk; simp at sk; omega
      .rcases q with q|q
       .have:Nat.blt r r'=true:=by grind[Nat.blt_eq]
        rw[this] at q; simp at q
       .exact F9 q
     AEb:=λi j oi oj r hi hj Lp sk=>by
      have:=(hst i oi hi).2.2.2.2.1;unfold Xw at this;rw[Lp] at this;have:=Gs this (Cq hj);rw[sk] at this;simp only[Di,AG,K0] at this;rcases this with q|⟨q,_⟩
      .exact Bx q
      .simp at q
     AIo:=λk hk=>by
      obtain⟨i,hi,hr⟩:=r9 k (AI _) hk;have hR:=r7 i hi;unfold FI at hr;cases hc:p.cls[i]? with
      | none=>rw[hc] at hr; simp at hr
      | some c=>
       rw[hc] at hr;cases c with
       | w r=>obtain⟨o,_,ho,_⟩:=hR.w r hc; exact⟨i,o,ho,by grind[FI]⟩
       | fa r j x=>obtain⟨o,_,_,_,_,_,ho,_⟩:=hR.fa r j x hc; exact⟨i,o,ho,by grind[FI]⟩
       | _=>simp[Jq] at hr
     AIp:=λi o r ho hr=>by
      rcases hin i o ho with hi|hi
      .have:=(f6 i hi).n.1; rw[this] at hr; simp at hr
      .grind
     time:=λi o ts ho hc k hk hn=>by
      have ht:=(hst i o ho).2.2.2.2.2.1
      have key:((List.range (K+1)).all λk=>has ts k||(List.range ops.size).any λj=>match FI p j with
        | some r=>(has (Du p i) j&&Nat.ble k r)||(has (Du p j) i&&Nat.blt r k)
        | none=>false)=true:=by
       unfold eR at ht;rcases hc with hc|hc <;> rw[hc] at ht <;> simp only[AG] at ht <;> exact ht.1
      have:=Gs key (show k<K+1 by omega);rw[Ka.2 hn,Ge] at this;obtain⟨j,hj,h'⟩:=K1.1 this;cases hr:FI p j with
      | none=>rw[hr] at h'; simp at h'
      | some r=>
       rw[hr] at h';simp only[Di,AG] at h';have AVQ:j<ops.size:=by simpa using hj
       refine⟨j,ops[j],r,by simp[AVQ],hr,h'.imp (λq=>⟨F9 q.1,by simpa[Nat.ble_eq] using q.2⟩) (λq=>⟨F9 q.1,by simpa[Nat.blt_eq] using q.2⟩)⟩
     sJ:=λi o r j x ho hc=>by
      have hfo:=(hst i o ho).2.2.2.2.2.2;unfold NZ at hfo;rw[hc] at hfo;simp only[AG] at hfo;obtain⟨⟨⟨⟨u1,u2⟩,u3⟩,u4⟩,u5⟩:=hfo;rcases hin i o ho with hi|hi
      .have:=(f6 i hi).n.1; rw[Ju hc] at this; simp at this
      obtain⟨o',o1,o2,kf,v,ρ,g1,g2,g3,g4,g5,g6,g7,g8,g9,g10⟩:=(r7 i hi).fa r j x hc;rw[ho] at g1; simp at g1; subst g1;obtain⟨q1,q2,q3,q4,q5,q6,q7,q8,q9,q10,q11⟩:=F7 g4
      have hcj:p.cls[j]?=some .fj/\p.cls[x]?=some .fx:=by
       split at u1
       .rename_i e1 e2 _ _ _; exact⟨e1,e2⟩
       .simp at u1
      have GU:∀(i':Nat) o',ops[i']?=some o'->(p.cls[i']?=some (.fa r j x)\/p.cls[i']?=some .fj\/p.cls[i']?=some .fx)->HQ p.GU i'=[]:=λi' o' ho' KZ=>by
       have:=(hst i' o' ho').2.1;unfold LG at this;rw[ho'] at this;rcases KZ with KZ|KZ|KZ <;> rw[KZ] at this <;> simp only[AG] at this <;> simpa using this.2
      have w1:=GU i o ho (.inl hc);have w2:=GU j o1 g2 (.inr (.inl hcj.1));have w3:=GU x o2 g3 (.inr (.inr hcj.2));refine⟨o1,o2,kf,g2,g3,hcj.1,hcj.2,g4,w1,w2,w3,F9 u2,F9 u3,F9 u4,v,?_,g9,g10⟩;rw[<-g5];refine Zr λz hz=>Jr λt ht=>?_
      have hmem:t∈n8 ops p i:=by
       unfold n8;rw[hc];simp only[List.mem_filter];have hd1:Fp ops i++Fp ops j=[kf.d,kf.p]:=by simp[Fp,jg,ho,g2,q2,q4]
       constructor
       .simp only[B9]
        rcases hz with e|e|e|e
        .exact .inl (.inl (by simp only[Dz,ho]; exact Ib _ (DU.2 (by grind[Op.operands,Call.operands]))))
        .exact .inl (.inl (by simp only[Dz,ho]; exact Ib _ (DU.2 (by grind[Op.operands,Call.operands]))))
        .exact .inl (.inr (by simp only[Dz,g2]; exact Ib _ (DU.2 (by grind[Op.operands]))))
        .grind[Dz,DU,Op.operands]
       .rw[hd1]
        obtain⟨z1,z2⟩:=Qr g4 z hz;simp only[K0,Ka,A6,FZ,Fa,not_or];exact⟨λe=>z1 (by rw[ht,e]),λe=>z2 (by rw[ht,e])⟩
      have:=g6 t hmem;rw[this];unfold Fe;rw[w1];rfl
     mu:=λi o r j x d E9 off len sz hX ho hc hd hq m om r' t y z hom N8 hop id off' hy=>by
      have hir:i∈p.rest:=by
       rcases hin i o ho with hi|hi
       .have:=(f6 i hi).n.1; rw[Ju hc] at this; simp at this
       .omega
      have hmr:m∈p.rest:=by
       rcases hin m om hom with hi|hi
       .have:=(f6 m hi).n.1; rw[J9 N8] at this; simp at this
       .omega
      exact Qu (Zs hmc i hir o r j x d E9 off len sz hX ho hc hd hq) m hmr om r' t y z hom N8 hop id off' hy
     win:=λi o r j x ho hc m om hm h1 h2 h3=>by
      have hfo:=(hst i o ho).2.2.2.2.2.2;unfold NZ at hfo;rw[hc] at hfo;simp only[AG] at hfo;have:=Gs hfo.2 (Cq hm);have n1:Nat.beq m i=false:=by rw[OH]; exact λq=>h1 (Bx q)
      have n2:Nat.beq m j=false:=by rw[OH]; exact λq=>h2 (Bx q)
      have n3:Nat.beq m x=false:=by rw[OH]; exact λq=>h3 (Bx q)
      rw[n1,n2,n3] at this;simp only[Ge,AG,Di] at this;refine⟨this.1.imp F9 (λq=>q.imp F9 (λz=>z)),λd hd hr=>?_⟩;have:=C2.1 this.2 d (DZ.2 ⟨om,hm,hd⟩);simp only[Di,K0,Hu] at this;rcases this with q|q
      .rcases hr with hr|hr
       .exact absurd hr (Ka.1 q.1)
       .exact absurd hr (Ka.1 q.2)
      .exact F9 q
     ANt:=λj oj hj hc=>by
      have hfo:=(hst j oj hj).2.2.2.2.2.2;unfold NZ at hfo;rw[hc] at hfo;obtain⟨m,hm,h'⟩:=K1.1 hfo;have hlt:m<ops.size:=by simpa using hm
      split at h'
      .rename_i r j' x' N8
       have:=Bx h';subst this;exact⟨m,ops[m],r,x',by simp,N8⟩
      .simp at h'
     ANu:=λx ox hx hc=>by
      have hfo:=(hst x ox hx).2.2.2.2.2.2;unfold NZ at hfo;rw[hc] at hfo;obtain⟨m,hm,h'⟩:=K1.1 hfo;have hlt:m<ops.size:=by simpa using hm
      split at h'
      .rename_i r j' x' N8
       have:=Bx h';subst this;exact⟨m,ops[m],r,j',by simp[hlt],N8⟩
      .simp at h'
     out:=λt ht=>by
      have hw:∀j,t∉HO ops p j:=λj hj=>by
       unfold HO at hj;have nd:∀q,t∉Fp ops q:=λq hq=>by obtain⟨o,h1,h2⟩:=DZ.1 hq; exact ht q o h1 h2
       split at hj
       .simp at hj
       .simp at hj
       .rcases B9.1 hj with q|q <;> grind
       .exact nd _ hj
      rw[r2 t (λj _=>hw j),f2 t (λj _=>hw j)]
     sK:=λi o d ho hd=>by
      rcases hin i o ho with hi|hi
      .have hF:=f6 i hi
       cases hc:p.cls[i]? with
       | none=>
        have:=(hst i o ho).2.1;unfold LG at this;rw[ho,hc] at this;simp at this
       | some c=>
        cases c with
        | q ts=>
         obtain⟨o',_,_,g1,_,g3,_⟩:=hF.q ts hc;rw[ho] at g1; simp at g1; subst g1;exact(g3 d hd).1
        | h ts=>
         obtain⟨o',_,_,_,g1,_,g3,_⟩:=hF.h ts hc;rw[ho] at g1; simp at g1; subst g1;exact(g3 d hd).1
        | w r=>have:=hF.n.1; rw[J9 hc] at this; simp at this
        | fa r j x=>have:=hF.n.1; rw[Ju hc] at this; simp at this
        | fj=>exact absurd hc hF.n.2.1
        | fx=>exact absurd hc hF.n.2.2
      .have hF:=r7 i hi
       have faD:∀(m:Nat) r j x,m<ops.size->p.cls[m]?=some (.fa r j x)->∃o o1 o2 k,ops[m]?=some o/\ops[j]?=some o1/\ops[x]?=some o2/\fused o o1 o2=some k/\k.d<st.N/\k.p<st.N:=λm r j x hm hc=>by
        rcases hin m ops[m] (by simp[hm]) with mi|mi
        .have:=(f6 m mi).n.1; rw[Ju hc] at this; simp at this
        .obtain⟨o',o1,o2,kf,v,ρ,g1,g2,g3,g4,g5,g6,g7,g8,g9,g10⟩:=(r7 m mi).fa r j x hc
         exact⟨o',o1,o2,kf,g1,g2,g3,g4,by rw[<-hN1]; exact g7,by rw[<-hN1]; exact g8⟩
       have hfo:=(hst i o ho).2.2.2.2.2.2;unfold NZ at hfo;cases hc:p.cls[i]? with
       | none=>
        have:=(hst i o ho).2.1;unfold LG at this;rw[ho,hc] at this;simp at this
       | some c=>
        rw[hc] at hfo;cases c with
        | q ts=>
         obtain⟨o',_,_,g1,_,g3,_⟩:=hF.q ts hc;rw[ho] at g1; simp at g1; subst g1;rw[<-hN1]; exact(g3 d hd).1
        | h ts=>exact absurd hc (hF.h ts)
        | w r=>
         obtain⟨o',_,g1,_,g3⟩:=hF.w r hc;rw[ho] at g1; simp at g1; subst g1;rw[<-hN1]; exact(g3 d hd).1
        | fa r j x=>
         obtain⟨o',o1,o2,k,g1,g2,g3,g4,g5,g6⟩:=faD i r j x (Cq ho) hc;rw[ho] at g1; simp at g1; subst g1;have:=(F7 g4).2.1;rw[hd] at this; simp at this; rw[this]; exact g5
        | fj=>
         obtain⟨m,hm,h'⟩:=K1.1 hfo;split at h'
         .rename_i r j' x' N8
          have:=Bx h';subst this;obtain⟨o',o1,o2,k,g1,g2,g3,g4,g5,g6⟩:=faD m r j' x' (by simpa using hm) N8;rw[ho] at g2; simp at g2; subst g2;have:=(F7 g4).2.2.2.1;rw[hd] at this; simp at this; rw[this]; exact g6
         .simp at h'
        | fx=>
         obtain⟨m,hm,h'⟩:=K1.1 hfo;split at h'
         .rename_i r j' x' N8
          have:=Bx h';subst this;obtain⟨o',o1,o2,k,g1,g2,g3,g4,g5,g6⟩:=faD m r j' x' (by simpa using hm) N8;rw[ho] at g3; simp at g3; subst g3;have:=(F7 g4).2.2.2.2.2.1;rw[hd] at this; simp at this
         .simp at h'
     wF:=λi o r ho hc=>by
      rcases hin i o ho with hi|hi
      .have:=(f6 i hi).n.1; rw[J9 hc] at this; simp at this
      .obtain⟨o',v,g1,g2,g3⟩:=(r7 i hi).w r hc
       rw[ho] at g1; simp at g1; subst g1;exact⟨v,g2,λd hd=>(g3 d hd).2⟩
     qF:=λi o ts k ho hc hk=>by
      have Zt:∀s v,NY ops i=true->E8 E L ops (Fe p.GU st.ρ Qs.ρ i) s o=some v->E8 E L ops (Fe p.GU st.ρ Qs.ρ i) (IX Je k) o=some v:=λs v hp hq=>by
       have hp':Xv o=true:=by simpa[NY,ho] using hp
       unfold E8 at hq ⊢;split at hq
       .exact X0 hp' hq
       .exact hq
       .simp at hq
      have jl:(i,k)∈p.Xe->∃v,E8 E L ops (Fe p.GU st.ρ Qs.ρ i) (IX Je k) o=some v/\∀d,o.dst=some d->Qs.ρ d=v:=λhm=>by
       obtain⟨s,v,g1,g2,g3⟩:=(AOC i k hm).1 o ts ho hc;exact⟨v,by rw[Zo g1]; exact g2,g3⟩
      rcases hin i o ho with hi|hi
      .obtain⟨o',s,v,g1,g2,g3,g4⟩:=(f6 i hi).q ts hc
       rw[ho] at g1; simp at g1; subst g1;rcases g4 k hk with q|q
       .exact⟨v,Zt s v q g2,λd hd=>(g3 d hd).2⟩
       .exact jl q
      .obtain⟨o',kk,v,g1,g2,g3,g4⟩:=(r7 i hi).q ts hc
       rw[ho] at g1; simp at g1; subst g1;rcases g4 k hk with q|q|q
       .subst q; exact⟨v,g2,λd hd=>(g3 d hd).2⟩
       .exact⟨v,Zt _ v q g2,λd hd=>(g3 d hd).2⟩
       .exact jl q
     hF:=λi o ts ho hc=>by
      have hpo:=(hst i o ho).2.1;unfold LG at hpo;rw[ho,hc] at hpo;simp only[AG] at hpo;rcases hin i o ho with hi|hi
      .obtain⟨o',cs,mk,id',g1,g2,g3,g4,g5,g6⟩:=(f6 i hi).h ts hc
       rw[ho] at g1; simp at g1; subst g1;obtain⟨d,hd⟩:=MZ.1 hpo.2;refine⟨by simpa using hpo.1,d,cs,mk,id',hd,g2,(g3 d hd).2,λk hk=>?_⟩;obtain⟨s,cs',mk',d',AVS,e1,e2,e3,e4,e5⟩:=(AOC i k (g6 k hk)).2 o ts ho hc;rw[hd] at e3; simp at e3; subst e3;rw[(g3 d hd).2,Kb g2] at e4;simp at e4; subst e4;rw[g2] at e2; simp at e2;rw[Zo e1,e5,e2.1]
      .exact absurd hc ((r7 i hi).h ts)
     ANv:=λi j oi oj ts us d e id' hi hj HS hcj oC sN Zn h2'=>by
      rcases hin i oi hi with m1|m1
      .rcases hin j oj hj with m2|m2
       .exact f7 i j oi oj ts us d e id' m1 m2 hi hj HS hcj oC sN Zn h2'
       .exact absurd hcj ((r7 j m2).h us)
      .exact absurd HS ((r7 i m1).h ts) }
    have hid:∀(i:Nat) o ts d id,ops[i]?=some o->p.cls[i]?=some (.h ts)->o.dst=some d->IL (Qs.ρ d)=some id->st.s.bs.length<=id/\id<st.s.bs.length+hs.length:=λi o ts d id' ho hc hd ee=>by
     rcases hin i o ho with hi|hi
     .obtain⟨o',cs,mk,AVS,g1,g2,g3,g4,g5,g6⟩:=(f6 i hi).h ts hc
      rw[ho] at g1; simp at g1; subst g1;rw[(g3 d hd).2,Kb g2] at ee;simp at ee; subst ee;exact⟨g4,by grind⟩
     .exact absurd hc ((r7 i hi).h ts)
    obtain⟨q,hq1,hq2,hq3⟩:=Inv.si hs g st.s hI;refine eW R Rx eX (g:=g) (g1:=g.B7 q) (λi o ts d id' ho hc hd ee hp=>?_) ((Ext.refl L g w).B7 hq1) ?_ hsz (λt=>(hρ t).B7) (λi o ts d id' ho hc hd ee=>?_) (λa' w' g' b1 b2 b3 b4 b5=>?_)
    .have:=(hI.DM id' hp).1
     have:=(hid i o ts d id' ho hc hd ee).1;omega
    .rw[hσ0,f3]; exact hq3
    .obtain⟨x1,x2⟩:=hid i o ts d id' ho hc hd ee
     exact hq2 id' x1 x2
    .grind
  .grind
 .grind
end
structure ej (E:Env) (g:AE) (w:World) (st:St) (a:Act):Prop where
 inv:Inv E g w st.s
 size:a.tmps.size=st.N
 tmps:∀t,V g w (st.ρ t) (a.tmps.getD t undef)
theorem ej.put {E:Env} {L:A3} {g g':AE} {w w':World} {st st':St} {a:Act} {s:AL} {d:Option Nat} {v:AV} {u:Value} (h:ej E g w st a) (hp:KO { st with s:=s } d v=some st') (he:Ext L g w g' w') (hi:Inv E g' w' s) (hv:V g' w' v u) :
  ej E g' w' st' (a.put d u)/\st'.N=st.N:=by
 obtain⟨a1,a2,a3,a4⟩:=F8 hp;refine⟨⟨by grind,by rw[Sl,a1]; exact h.size,λt=>?_⟩,a1⟩
 by_cases ht:d=some t
 .subst ht
  obtain⟨b1,b2⟩:=a3 t rfl;rw[JJ (by rw[h.size]; omega),b2];omega
 .rw[Pk ht,a4 t ht]
  exact(h.tmps t).mono he
theorem Jv (i n:Nat):List.range' i (n+1)=i::List.range' (i+1) n:=by rfl
section
variable {rd:Option Nat} {E:Env} {L:A3} {cf:Cp} {ops:Array Oper} {Q:Exit->Act->World->Prop}
theorem Vl {i:Nat} {rest:List Nat} {o:Oper} {a:Act} {w:World} (ho:ops[i]?=some o) (hw:Region.wanted o (yielded ops a.tmps)=true) (h:o.wpIn (FW rd) 0 E.P a w (wpOpsIn (FW rd) 0 E.P ops Q rest) Q):wpOpsIn (FW rd) 0 E.P ops Q (i::rest) a w:=by grind[wpOpsIn]
theorem sq {i:Nat} {rest:List Nat} {o:Oper} {a:Act} {w:World} (ho:ops[i]?=some o) (hw:Region.wanted o (yielded ops a.tmps)=false) (h:wpOpsIn (FW rd) 0 E.P ops Q rest (a.put o.dst undef) w):wpOpsIn (FW rd) 0 E.P ops Q (i::rest) a w:=by
 simp only[wpOpsIn,ho,hw,DD,Ht];exact⟨λ_ _=>trivial,h⟩
theorem Po {i:Nat} {rest:List Nat} {o:Oper} {a:Act} {w w':World} {v:Value} (ho:ops[i]?=some o) (hg:o.guard=none) (hr:(execOp a.eval o).run E.P w=.ok (.value v) w'\/((execOp a.eval o).run E.P w=.ok .skip w'/\v=undef))
  (h:wpOpsIn (FW rd) 0 E.P ops Q rest (a.put o.dst v) w'):wpOpsIn (FW rd) 0 E.P ops Q (i::rest) a w:=by grind[Vl,Region.wanted,Jt,Im]
theorem sr {g:AE} {w:World} {st st':St} {a:Act} {o o1 o2:Oper} {k:I7} {v:AV} {s:AL} {i:Nat} {rest:List Nat} (h:ej E g w st a) (ho:ops[i]?=some o) (ho1:ops[i+1]?=some o1) (qx:ops[i+2]?=some o2)
  (hf:fused o o1 o2=some k) (OZ:I8 E L st.ρ st.s k=some (v,s)) (hst:J5 st k v s=some st')
  (hk:∀a' w' g',ej E g' w' st' a'->a'.defers=a.defers->Ext L g w g' w'->st'.N=st.N->wpOpsIn (FW rd) 0 E.P ops Q rest a' w'):wpOpsIn (FW rd) 0 E.P ops Q (i::(i+1)::(i+2)::rest) a w:=by
 obtain⟨f1,f2,f3,f4,f5,f6,f7,f8,f9,f10,f11⟩:=F7 hf;have hap:=Qr hf;have hVx:=Aa h.tmps k.x;have hVy:=Aa h.tmps k.y;have hVi:=Aa h.tmps k.ix;have hVv:=Aa h.tmps k.v;unfold J5 at hst;split at hst
 .rename_i Fh hp1
  unfold I8 at OZ;split at OZ
  .rename_i elem hu
   split at OZ
   .rename_i Xq
    split at OZ
    .rename_i ti rows z n row eB hrows hz qy hrow
     split at OZ
     .rename_i hcnd
      obtain⟨q1,q2,q3,q4,q5,q6,q7⟩:=hcnd;have hvl:=EU hVv q4;obtain⟨t1,t2⟩:=Gn hvl hrow;obtain⟨b,cap,vz,e,fz,w1,wv,g',a1,a2,a3,a4,a5,a6,⟨a7,a7z⟩,a8⟩:=Ly (T:=o.type) h.inv hu eB q6 q7 hVx hrows hVy hz q2 q5 (us:=(a.eval k.v).cells.toList) (by omega) q3 t2 OZ;obtain⟨kk,SW⟩:=FB hVi qy;obtain⟨s1,n1⟩:=h.put hp1 a3 a4 a2;have hp2:KO { Fh with s:=Fh.s } (some k.p) .G2=some st':=hst;obtain⟨s2,n2⟩:=s1.put (u:=.pointer (some ⟨b,rows.length*ti.size,none⟩)) hp2 (Ext.refl L g' wv) s1.inv .G2;have hszv:(a.eval k.v).cells.size=ti.size:=by grind
      have hd:k.d<a.tmps.size:=by
       obtain⟨_,_,x3,_⟩:=F8 hp1;rw[h.size]; grind
      have hpN:k.p<a.tmps.size:=by
       obtain⟨_,_,x3,_⟩:=F8 hst;have:=(x3 k.p rfl).1;rw[h.size]; omega
      have AEg:∀z,z=k.ix\/z=k.v->∀u u',((a.put (some k.d) u).put (some k.p) u').eval z=a.eval z/\(a.put (some k.d) u).eval z=a.eval z:=λz hz u u'=>by grind[EM]
      have hw1:w1.heap[b]?=some (.cells ⟨vz⟩ e fz):=by grind[BX]
      refine Po ho f8.1 (v:=.slice (some ⟨b,0,none⟩) (rows.length+1) cap) (w':=w1) (.inl ?_) ?_
      .simp[*,execOp,resolve,invoke,builtin]
      rw[f2];refine Po ho1 f8.2.1 (v:=.pointer (some ⟨b,rows.length*ti.size,none⟩)) (w':=w1) (.inl ?_) ?_
      .have e1:(a.put (some k.d) (.slice (some ⟨b,0,none⟩) (rows.length+1) cap)).eval (.tmp k.d)=.slice (some ⟨b,0,none⟩) (rows.length+1) cap:=JJ hd
       have e2:=(AEg k.ix (.inl rfl) (.slice (some ⟨b,0,none⟩) (rows.length+1) cap) undef).2;simp[*,execOp,Instr.indexAt,asIntOf,run_underlying,run_sizeOf,DN]
      rw[f4];refine Po qx f8.2.2 (v:=undef) (w':=wv) (.inr ⟨?_,rfl⟩) ?_
      .have e1:((a.put (some k.d) (.slice (some ⟨b,0,none⟩) (rows.length+1) cap)).put (some k.p) (.pointer (some ⟨b,rows.length*ti.size,none⟩))).eval (.tmp k.p)=.pointer (some ⟨b,rows.length*ti.size,none⟩):=JJ (by grind[Sl])
       have e2:=(AEg k.v (.inr rfl) (.slice (some ⟨b,0,none⟩) (rows.length+1) cap) (.pointer (some ⟨b,rows.length*ti.size,none⟩))).1;obtain⟨dst,op,type,pos,after,guard⟩:=o2;simp only at f5;subst f5;have hst:=FG (P:=E.P) (b:=b) (o:=rows.length*ti.size) (e:=e) a7z (a.eval k.v).cells.toList 0 w1 vz (VL.one hvl q4) hw1 (by omega)
       grind[EI,LD,execOp,Instr.storeAt,Instr.sureAddr,storeVar,Sem.run_bind,Sem.run_pure,Result.andThen_ok,run_sizeOf]
      grind[Act.put]
     grind
    grind
   grind
  grind
 grind
theorem eu (Rx:Hg E L cf):∀(n i:Nat) (l:List Oper) (st st':St) (a:Act) (w:World) (g:AE),l.length=n->l=ops.toList.drop i->ej E g w st a->IK E L cf ops l st=some st' ->
  (∀a' w' g',ej E g' w' st' a'->a'.defers=a.defers->Ext L g w g' w'->st'.N=st.N->Q .normal a' w')->wpOpsIn (FW rd) 0 E.P ops Q (List.range' i l.length) a w:=by
 intro n
 induction n using Nat.strongRecOn with
 | ind n ih=>
  intro i l st st' a w g hn hl hs h hQ;cases l with
  | nil=>
   simp[IK] at h;subst h;exact hQ a w g hs rfl (Ext.refl _ _ _) rfl
  | cons o rest=>
   have e9:∀(j:Nat) q,(o::rest)[j]?=some q->ops[i+j]?=some q:=λj q hq=>by grind
   have AEh:∀j,(o::rest).drop j=ops.toList.drop (i+j):=λj=>by rw[hl,List.drop_drop]
   have one:(match E7 ops st.ρ o with
     | some true=>match M9 E L cf st o with
      | some st=>IK E L cf ops rest st
      | none=>none
     | some false=>match KO st o.dst (.tuple []) with
      | some st=>IK E L cf ops rest st
      | none=>none
     | none=>none)=some st'->wpOpsIn (FW rd) 0 E.P ops Q (List.range' i (o::rest).length) a w:=by
    intro h;rw[CT,Jv];have hlt:rest.length<n:=by grind
    have AOE:rest=ops.toList.drop (i+1):=by grind
    split at h
    .rename_i hg
     split at h
     .rename_i Fh hst
      unfold M9 at hst;split at hst
      .rename_i v s hact
       refine Vl (e9 0 o rfl) (DK hs.tmps hg) (Nc Rx hs.inv hs.tmps hact λv' w' g' hV hE hI=>?_);obtain⟨s1,n1⟩:=hs.put hst hE hI hV;exact ih rest.length hlt (i+1) rest Fh st' _ w' g' rfl AOE s1 h λa' w'' g'' q1 q2 q3 q4=>hQ a' w'' g'' q1 (q2.trans (put_defers _ _ _)) (hE.trans q3) (q4.trans n1)
      grind
     grind
    .rename_i hg
     split at h
     .rename_i Fh hst
      refine sq (e9 0 o rfl) (DK hs.tmps hg) ?_;obtain⟨s1,n1⟩:=hs.put (L:=L) (s:=st.s) hst (Ext.refl L g w) hs.inv V.undef
      grind[put_defers]
     grind
    grind
   unfold IK at h;simp only at h;split at h
   .rename_i o1 o2 rest'
    split at h
    .rename_i k hf
     split at h
     .rename_i v s OZ
      split at h
      .rename_i Fh hst
       have hlt:rest'.length<n:=by grind
       simp only[CT];rw[Jv,Jv,Jv];refine sr hs (e9 0 o rfl) (e9 1 o1 rfl) (e9 2 o2 rfl) hf OZ hst λa' w' g' q1 q2 q3 q4=>?_
       exact ih rest'.length hlt (i+3) rest' Fh st' a' w' g' rfl (by grind) q1 h λa'' w'' g'' p1 p2 p3 p4=>hQ a'' w'' g'' p1 (p2.trans q2) (q3.trans p3) (p4.trans q4)
      grind
     grind
    grind
   grind
end
end Go.Tel
