/-
  A region with a drawn order: one operation more while a row is open; all of them.
-/
import Derived.Test.YtpgfpakdnijngaaGreatDoorEvF
set_option linter.all false
namespace Go.Tel
section
variable {rd:Option Nat} {E:Env} {L:A3} {cf:Cn} {ops:Array Oper} {p:BS} {K N:Nat} {ρ0 ρf:Nat->AV} {σ:Nat->AM} {ds:List Deferred} {g0:AI} {w0:World} {Q:Exit->Act->World->Prop}
theorem Open.more {P:Program} {q:AV} {X:Prop} {kf:I8} {Dj:Prop} {a:Act} {g:AI} {w wv:World} {d:Option Tmp} {v:Value} (h:Open P q X kf Dj a g w wv)
  (hd:d≠some kf.d) (hp:d≠some kf.p) (hi:∀t,kf.ix=.tmp t->d≠some t) (hv:∀t,kf.v=.tmp t->d≠some t):Open P q X kf Dj (a.put d v) g w wv:=by
 obtain⟨b,cap,len,vz,e,fz,xv,kk,elem,ti,h1,h2,h3,h4,h5,h6,h7,h8,h9,h10,h11,h12,h13⟩:=h;refine⟨b,cap,len,vz,e,fz,xv,kk,elem,ti,h1,h2,h3,?_,?_,?_,h7,h8,h9,h10,h11,h12,λq=>?_⟩
 all_goals grind[EF]
theorem n9 (R:Uu E L cf ops p K N ρ0 ρf σ) {D:Nat->Prop} (hD:Down ops D) {a:Act} {k:Nat} {g:AI} {w wv:World} (h:Core E L ops p K N ρ0 ρf σ ds g0 w0 D a k g wv)
  {i r j x:Nat} {o o1 o2:Oper} {kf:I8} (hi:ops[i]?=some o) (HP:p.cls[i]?=some (.fa r j x)) (h1:ops[j]?=some o1) (h2:ops[x]?=some o2) (hf:fused o o1 o2=some kf) (n7:D i) (hnx:¬ D x) (hsh:Mz ops p D i)
  (hop:Open E.P (ρf kf.d) (RH E L ops i j x=true) kf (D j) a g w wv)
  {m:Nat} {om:Oper} (hm:ops[m]?=some om) (hn:¬ D m) (hr:∀e∈om.after,Region.binds .any e=true->D e.on) :
  wpOpIn (FW rd) 0 E.P ops Q m (J E L ops p K N ρ0 ρf σ ds g0 w0 (λi=>D i\/i=m)) a w:=by
 obtain⟨o1',o2',kf',eC,h2',c1,c2,hf',u1,u2,u3,p1,p2,p3,v0,OS,hvd,hvp⟩:=R.sg i o r j x hi HP;rw[h1] at eC; simp at eC; subst eC;rw[h2] at h2'; simp at h2'; subst h2';rw[hf] at hf'; simp at hf'; subst hf';obtain⟨f1,f2,f3,f4,f5,f6,f7,f8,f9,f10,f11⟩:=F1 hf;have hmi:m≠i:=λe=>hn (e ▸ n7)
 have Ef:∀(i:Nat) o ts d id,ops[i]?=some o->p.cls[i]?=some (.h ts)->o.dst=some d->KJ (ρf d)=some id->¬ D i->i≠m->g.C5 id:=
  λi o ts d id ho HP hd hid hnD _=>h.C5 i o ts d id ho HP hd hid hnD
 have hxm:x≠m->¬ (D x\/x=m):=λe q=>q.elim hnx e
 by_cases hmj:m=j
 .subst hmj
  rw[h1] at hm; simp at hm; subst hm;obtain⟨b,cap,len,vz,e,fz,xv,kk,elem,ti,k1,k2,k3,k4,k5,k6,k7,k8,k9,k10,sx,k12,k13⟩:=hop;have hrun:(execOp a.eval o1).run E.P w=.ok (.value (.pointer (some ⟨b,len*ti.size,none⟩))) w:=by simp[*,execOp,Instr.indexAt,asIntOf,run_underlying,run_sizeOf,DH]
  have hxj:x≠m:=λe=>by grind
  have hs:Mz ops p (λi=>D i\/i=m) i:=Mz.more h1 (λ_ _ _ e=>by grind) hsh;refine Mj h1 f8.2.1 hrun ⟨k,g,wv,h.push R h1 (.inl ⟨jd c1,rfl⟩) h.ext (λ_ _ q=>q) h.inv (λd hd=>?_) Ef,.inr ?_⟩
  .rw[f4] at hd; simp at hd; subst hd; rw[hvp]; exact .Gz
  .refine⟨i,o,r,m,x,o1,o2,kf,hi,HP,h1,h2,hf,.inl n7,hxm hxj,hs,b,cap,len,vz,e,fz,xv,kk,elem,ti,k1,k2,k3,?_,?_,?_,k7,k8,k9,k10,sx,k12,λ_=>?_⟩
   .grind[EF]
   .rw[f4,EF (λt ht hdt=>?_)]
    .omega
    .simp at hdt
     subst hdt;have:kf.p∈F0 o1:=DL.2 (by grind[Op.operands]);rcases R.read m m o1 o1 kf.p h1 h1 f4 (Ic _ this) with ⟨q1,_⟩|⟨_,q2⟩
     .grind[has]
     .exact absurd (R.sj m o1 m h1 q2) (N7 _)
   .grind[EF]
   .rw[f4]; exact JJ (by rw[h.size]; exact R.si m o1 kf.p h1 f4)
 by_cases hmx:m=x
 .subst hmx
  rw[h2] at hm; simp at hm; subst hm;have hDj:D j:=R.K4 hD m o2 j h2 hr p2;obtain⟨b,cap,len,vz,e,fz,xv,kk,elem,ti,k1,k2,k3,k4,k5,k6,k7,k8,k9,k10,sx,k12,k13⟩:=hop;have hpt:=k13 hDj;have qX:w.heap[b]?=some (.cells ⟨vz⟩ e fz):=by grind[BQ]
  have hrun:(execOp a.eval o2).run E.P w=.ok .skip wv:=by
   obtain⟨dst,op,type,pos,after,guard⟩:=o2;simp only at f5;subst f5;have hst:=FB (P:=E.P) (b:=b) (o:=len*ti.size) (e:=e) sx.2 xv.cells.toList 0 w vz k8 qX (by grind)
   grind[D9,K1,execOp,Instr.storeAt,Instr.sureAddr,storeVar,Sem.run_bind,Sem.run_pure,Result.andThen_ok,run_sizeOf]
  have hs:∀i',Mz ops p (λi=>D i\/i=m) i':=by
   intro i' q o' r' j' x' ho' HM hi' hne;rcases hi' with hi' | hi'
   .by_cases e:q=i
    .grind
    .exact .inl (hsh q o' r' j' x' ho' HM hi' e)
   grind
  refine KP h2 (by grind[Region.wanted]) ?_;exact Ip hrun ⟨k,g,wv,h.push R h2 (.inl ⟨je c2,rfl⟩) h.ext (λ_ _ q=>q) h.inv (λd hd=>by grind) Ef,.inl ⟨rfl,hs⟩⟩
 obtain⟨hw1,hw2⟩:=R.win i o r j x hi HP m om hm hmi hmj hmx;have ADe:m∉Dl p i:=λq=>hn (R.Lx hD hi n7 q)
 have sy:Xv ops p m=true:=by
  rcases hw1 with q|q|q
  .grind
  .exact absurd (R.K4 hD m om x hm hr q) hnx
  omega
 have dd:om.dst≠some kf.d:=λe=>hmi (R.dst m i om o kf.d hm hi e f2)
 have dp:om.dst≠some kf.p:=λe=>hmj (R.dst m j om o1 kf.p hm h1 e f4)
 have di:∀t,kf.ix=.tmp t->om.dst≠some t:=λt ht e=>ADe (hw2 t e (.inl (by grind[Dq,DL,Op.operands])))
 have dv:∀t,kf.v=.tmp t->om.dst≠some t:=λt ht e=>ADe (hw2 t e (.inr (by grind[Dq,DL,Op.operands])))
 have hag:=R.agree hD hm hn hr;have ABY:Open E.P (ρf kf.d) (RH E L ops i j x=true) kf (D j\/j=m) a g w wv:=by grind
 unfold Xv at sy;split at sy
 .rename_i o' ts ho' hc
  rw[hm] at ho'; simp at ho'; subst ho';have hs:Mz ops p (λi=>D i\/i=m) i:=Mz.more hm (λ_ _ _ e=>by grind) hsh;obtain⟨v,hq,hv⟩:=R.qF m om ts k hm hc (h.sr R hD hm hn hr (.inl hc));rw[<-Im hag] at hq;have AMj:(∃x,om.op=.nilCheck x)\/(∃t x f,om.op=.fieldAddr t x f)\/(∃x,om.op=.move x):=by grind
  unfold E2 at hq;split at hq
  .rename_i hg
   obtain⟨v',hrun,hV⟩:=sZ AMj h.inv h.tmps hq;refine KP hm (DD h.tmps hg) ?_
   exact Jm (hrun w) ⟨k,g,wv,h.push R hm (.inl ⟨Pj hc,rfl⟩) h.ext (λ_ _ q=>q) h.inv (λd hd=>by grind) Ef,
    .inr ⟨i,o,r,j,x,o1,o2,kf,hi,HP,h1,h2,hf,.inl n7,hxm (FL hmx),hs,ABY.more dd dp di dv⟩⟩
  .rename_i hg
   simp only[Aw] at hq;subst hq;refine Ru hm (DD h.tmps hg) ?_
   exact⟨k,g,wv,h.push R hm (.inl ⟨Pj hc,rfl⟩) h.ext (λ_ _ q=>q) h.inv (λd hd=>by grind[V.undef]) Ef,
    .inr ⟨i,o,r,j,x,o1,o2,kf,hi,HP,h1,h2,hf,.inl n7,hxm (FL hmx),hs,ABY.more dd dp di dv⟩⟩
  grind
 .rename_i o' r' ho' hc
  rw[hm] at ho'; simp at ho'; subst ho';have hs:Mz ops p (λi=>D i\/i=m) i:=Mz.more hm (λ_ _ _ e=>by grind) hsh;have hk:=h.now R hD hm hn hr (J0 hc);subst hk;obtain⟨v,hact,hv⟩:=R.wF m om r' hm hc;rw[<-Nd hag] at hact;unfold NY at hact;split at hact
  .rename_i hg
   split at sy
   .rename_i t y z e
    rw[OK] at hact;unfold ni at hact;rw[e] at hact;simp only at hact;obtain⟨dst,op,type,pos,after,guard⟩:=om;simp only at e;subst e;simp only[Ca] at hact;split at hact
    .rename_i s1 hst
     simp only[Aw,A4] at hact;obtain⟨rfl,rfl⟩:=hact;obtain⟨id,b',vs',e',⟨off',hptr⟩,hb',he1,hi1,ATw⟩:=eY h.inv (Ae h.tmps y) (Ae h.tmps z) hst;obtain⟨b,cap,len,vz,e,fz,xv,kk,elem,ti,k1,k2,k3,k4,k5,k6,k7,k8,k9,k10,sx,k12,k13⟩:=ABY
     have jb:b'≠b:=by
      intro q;rcases k12 with ⟨tk,tl,k12,ATx⟩|⟨E3,ATy,n0,sz0,hq0,hb0,hX⟩
      .exact h.inv.C6 id b' tk tl hb' k12 (by rw[ATx,q])
      .subst q
       have hid:=h.inv.Ee id E3 b' hb' hb0;refine R.mu i o r j x kf.d E3 ATy n0 sz0 hX hi HP f2 hq0 m _ r' t y z hm hc rfl id off' ?_ hid
       grind[Jk,DL,Op.operands]
     have hrun:=ATw w (by grind[BQ]);refine KP hm (DD h.tmps hg) ?_;refine Ip (w':=A7 w b' vs' e') (by grind[execOp,Sem.run_bind,Result.andThen_ok,Sem.run_pure]) ?_
     refine⟨r'+1,g,A7 wv b' vs' e',h.push R hm (.inr ⟨J0 hc,rfl⟩) (h.ext.trans he1) (λ_ _ q=>q.mono he1) hi1 (λd hd=>by grind[V.undef]) Ef,
      .inr ⟨i,o,r,j,x,o1,o2,kf,hi,HP,h1,h2,hf,.inl n7,hxm (FL hmx),hs,?_⟩⟩
     refine Open.more ⟨b,cap,len,vz,e,fz,xv,kk,elem,ti,k1,k2,k3,k4,k5,k6,k7,k8,?_,?_,sx,k12,k13⟩ dd dp di dv
     all_goals grind[BQ,X2]
    grind
   grind
  .rename_i hg
   simp only[Aw,A4] at hact;obtain⟨rfl,hst⟩:=hact;refine Ru hm (DD h.tmps hg) ?_
   exact⟨r'+1,g,wv,h.push R hm (.inr ⟨J0 hc,rfl⟩) h.ext (λ_ _ q=>q) (hst ▸ h.inv) (λd hd=>by grind[V.undef]) Ef,
    .inr ⟨i,o,r,j,x,o1,o2,kf,hi,HP,h1,h2,hf,.inl n7,hxm (FL hmx),hs,ABY.more dd dp di dv⟩⟩
  grind
 grind
theorem s7 (R:Uu E L cf ops p K N ρ0 ρf σ) (Rs:HX E L cf) {D:Nat->Prop} (hD:Down ops D) {a:Act} {w:World}
  (hnp:∀(i:Nat) o ts d id,ops[i]?=some o->p.cls[i]?=some (.h ts)->o.dst=some d->KJ (ρf d)=some id->¬ g0.C5 id) (h:J E L ops p K N ρ0 ρf σ ds g0 w0 D a w)
  {m:Nat} {om:Oper} (hm:ops[m]?=some om) (hn:¬ D m) (hr:∀e∈om.after,Region.binds .any e=true->D e.on) :
  wpOpIn (FW rd) 0 E.P ops Q m (J E L ops p K N ρ0 ρf σ ds g0 w0 (λi=>D i\/i=m)) a w:=by
 obtain⟨k,g,wv,AMk,⟨rfl,hs⟩|⟨i,o,r,j,x,o1,o2,kf,hi,HP,h1,h2,hf,n7,hnx,hsh,hop⟩⟩:=h
 .grind[Zm]
 .exact n9 R hD AMk hi HP h1 h2 hf n7 hnx hsh hop hm hn hr
def Fh (listed:Array Bool) (i:Nat):Prop:=listed.getD i false=true
theorem Fh.set {listed:Array Bool} {m:Nat} (hm:m<listed.size):Fh (listed.setIfInBounds m true)=λi=>Fh listed i\/i=m:=by
 funext i
 apply propext;unfold Fh
 by_cases h:i=m
 all_goals simp[*,FL]
theorem s8 {n m:Nat} {q q':Nat->Bool} (hm:m<n) (h1:∀i,q' i=true->q i=true) (h2:q m=true) (h3:q' m=false):(List.range n).countP q'<(List.range n).countP q:=by
 induction n with
 | zero=>omega
 | succ n ih=>
  rw[List.range_succ,Rg,Rg];have hle:(List.range n).countP q'<=(List.range n).countP q:=List.countP_mono_left λi _=>h1 i
  grind
theorem s9 (R:Uu E L cf ops p K N ρ0 ρf σ) (Rs:HX E L cf)
  (hnp:∀(i:Nat) o ts d id,ops[i]?=some o->p.cls[i]?=some (.h ts)->o.dst=some d->KJ (ρf d)=some id->¬ g0.C5 id)
  (hQ:∀D a w,(∀i,i<ops.size->D i)->J E L ops p K N ρ0 ρf σ ds g0 w0 D a w->Q .normal a w) :
  ∀(fuel:Nat) (listed:Array Bool) (a:Act) (w:World),listed.size=ops.size->Down ops (Fh listed)->J E L ops p K N ρ0 ρf σ ds g0 w0 (Fh listed) a w ->
   (List.range ops.size).countP (λi=>!(listed.getD i false))<=fuel->wpAnyIn (FW rd) 0 E.P .any ops Q fuel listed a w:=by
 have done:∀(listed:Array Bool) (a:Act) (w:World),listed.size=ops.size->J E L ops p K N ρ0 ρf σ ds g0 w0 (Fh listed) a w->Region.ready .any ops listed=[]->Q .normal a w:=by
  intro listed a w hsz hJ hrd;refine hQ (Fh listed) a w ?_ hJ;intro i
  induction i using Nat.strongRecOn with
  | ind i ih=>
   intro hi;rcases Classical.em (Fh listed i) with x|x
   .exact x
   .exfalso
    have:i∈Region.ready .any ops listed:=mem_ready.2 ⟨by grind[Fh],ops[i],by simp,λe he hb=>by
      have:=R.ABS i ops[i] e (by simp) he hb;exact ih e.on this (by omega)⟩
    grind
 intro fuel
 induction fuel with
 | zero=>
  intro listed a w hsz hD hJ hc
  have hrd:Region.ready .any ops listed=[]:=by
   apply List.eq_nil_iff_forall_not_mem.2
   grind[mem_ready,List.countP_eq_zero]
  exact⟨hrd,done listed a w hsz hJ hrd⟩
 | succ fuel ih=>
  intro listed a w hsz hD hJ hc;refine⟨done listed a w hsz hJ,λm hmr=>?_⟩;obtain⟨h0,om,hm,hall⟩:=mem_ready.1 hmr;have hlt:=Co hm;have AMl:m<listed.size:=by omega
  have h0':listed.getD m false=false:=by grind
  have hn:¬ Fh listed m:=by grind[Fh]
  refine wpOpIn_mono (λa' w' hJ'=>?_) (s7 R Rs hD hnp hJ hm hn hall);rw[<-Fh.set AMl] at hJ';refine ih _ a' w' (by grind) ?_ hJ' ?_
  .rw[Fh.set AMl]
   intro i o e ho hi he hb;rcases hi with hi|rfl
   .exact .inl (hD i o e ho hi he hb)
   .rw[hm] at ho; simp at ho; subst ho
    exact .inl (hall e he hb)
  .have:=s8 (n:=ops.size) (m:=m) (q:=λi=>!(listed.getD i false)) (q':=λi=>!((listed.setIfInBounds m true).getD i false)) hlt (λi hi=>by
    have hne:i≠m:=λe=>by simp_all
    simp_all[FL]) (by grind) (by simp[*])
   omega
theorem eZ (R:Uu E L cf ops p K N ρ0 ρf σ) (Rs:HX E L cf) (ee:E.P.follows .mixedOrders=true) {a:Act} {w:World} {g g1:AI} {id:Nat}
  (hnp:∀(i:Nat) o ts d id,ops[i]?=some o->p.cls[i]?=some (.h ts)->o.dst=some d->KJ (ρf d)=some id->¬ g.C5 id)
  (h1:Ext L g w g1 w) (hI:Inv E g1 w (σ 0)) (hsz:a.tmps.size=N) (hρ:∀t,V g1 w (ρ0 t) (a.tmps.getD t undef))
  (hpd:∀(i:Nat) o ts d id,ops[i]?=some o->p.cls[i]?=some (.h ts)->o.dst=some d->KJ (ρf d)=some id->g1.C5 id)
  (hQ:∀a' w' g',a'.tmps.size=N->a'.defers=a.defers->Ext L g w g' w'->Inv E g' w' (σ K)->(∀t,V g' w' (ρf t) (a'.tmps.getD t undef))->Q .normal a' w') :
  (Code.region id ops true).wpIn (FW rd) 0 E.P Q a w:=by
 obtain⟨e1,i1⟩:=hI.drew (L:=L);refine wpIn_region_any ee (s9 (ds:=a.defers) (g0:=g) (w0:=w) R Rs hnp ?_ ops.size _ a (BK w) (by simp) ?_ ?_ ?_)
 .rintro D a' w' hall ⟨k,g',wv,hc,ATz⟩
  have hK:k=K:=by
   have:=hc.kK;rcases FK k K with x|x
   .obtain⟨i,o,ho,hr⟩:=R.AHg k x
    have:=(hc.time i o k ho hr).1 (hall i (Co ho));omega
   omega
  subst hK;rcases ATz with ⟨rfl,_⟩|⟨i,o,r,j,x,o1,o2,kf,_,_,_,h2,_,_,hnx,_⟩
  .refine hQ a' w' g' hc.size hc.defers hc.ext hc.inv λt=>?_
   have:=hc.tmps t
   by_cases hw:∃(i:Nat) (o:Oper),ops[i]?=some o/\o.dst=some t
   .grind[Sb]
   .rw[R.Sc λi o ho hd=>hw ⟨i,o,ho,hd⟩] at this
    omega
  grind
 .intro i o e ho hi
  simp_all[Co,Fh]
 .have hnone:∀i,¬ Fh (Array.replicate ops.size false) i:=λi hi=>by
   unfold Fh at hi
   by_cases hlt:i<ops.size
   all_goals simp_all
  refine⟨0,g1,BK w,⟨AK _,λi o r ho hr=>⟨λq=>absurd q (hnone i),λq=>by omega⟩,hsz,rfl,h1.trans e1,i1,λt=>?_,λi o ts d id ho hc hd hid _=>hpd i o ts d id ho hc hd hid⟩,
   .inl ⟨rfl,λi i' o' r' j' x' ho' HM hi' _=>absurd hi' (hnone i')⟩⟩
  rw[Rt λi o _ _=>hnone i];exact(hρ t).mono e1
 grind[List.countP_le_length]
end
theorem OT {l:List Nat} {x:Nat}:has l x=true<->x∈l:=by grind[has,Nat.eq_of_beq_eq_true,Nat.beq_refl]
theorem KQ {l:List Nat} {x:Nat}:has l x=false<->x∉l:=by grind[OT]
theorem Ly {l:List (Nat×Nat)} {i k:Nat} (h:Mi l i k=true):(i,k)∈l:=by grind[Mi,Nat.eq_of_beq_eq_true]
theorem Gr {n:Nat} {f:Nat->Bool} (h:(List.range n).all f=true) {i:Nat} (hi:i<n):f i=true:=De.1 h i (by grind)
theorem DU {ops:Array Oper} {i d:Nat}:d∈Fg ops i<->∃o,ops[i]?=some o/\o.dst=some d:=by grind[Fg,jc]
theorem F2 {st st':St} {d:Option Nat} {v:AV} (h:KG st d v=some st') :
  st'.N=st.N/\st'.s=st.s/\(∀e,d=some e->e<st.N/\st'.ρ e=v)/\∀t,d≠some t->st'.ρ t=st.ρ t:=by
 unfold KG at h;split at h
 .grind
 .rename_i e
  cases hb:Nat.blt e st.N with
  | false=>grind
  | true=>
   simp[hb] at h; subst h;refine⟨rfl,rfl,λe' he=>?_,λt ht=>?_⟩
   .simp_all[Xa]
   grind[Nat.eq_of_beq_eq_true,Xa]
theorem KR {E:Env} {ρ:Nat->AV} {o:Oper} {cs:List AV} {mk:Nat->AV} (h:hcells E ρ o=some (cs,mk)):∀id,KJ (mk id)=some id:=by
 obtain⟨dst,op,type,pos,after,guard⟩:=o;cases op with
 | alloc t=>
  simp only[hcells] at h;split at h
  .cases hbz:E.bz t with
   | true=>grind
   | false=>
   rw[hbz] at h;simp only[AE,Aw,A4] at h;obtain⟨_,rfl⟩:=h;intro id; rfl
  grind
 | makeSlice t l c=>
  simp only[hcells] at h;split at h
  .split at h
   .split at h
    .simp only[Aw,A4] at h
     obtain⟨_,rfl⟩:=h;intro id; rfl
    grind
   grind
  grind
 | _=>grind[hcells]
def Sh (ops:Array Oper) (p:BS) (ρ0 ρf ρ:Nat->AV) (i:Nat):Prop:=∀t∈nw ops p i,ρ t=FO p.GI ρ0 ρf i t
theorem Pk {ops:Array Oper} {p:BS} {ρ0 ρf:Nat->AV} {done:List Nat} {i:Nat} {rest:List Nat} {st:St} (ho:Hq ops p done (i::rest)=true) (h0:∀t,t∉done->st.ρ t=ρ0 t)
  (hf:∀t,(∀j∈i::rest,t∉HL ops p j)->ρf t=st.ρ t):Sh ops p ρ0 ρf st.ρ i:=by
 intro t ht
 grind[Hq,FO,OT]
theorem Si {ops:Array Oper} {p:BS} {done:List Nat} {i:Nat} {rest:List Nat} (ho:Hq ops p done (i::rest)=true) :
  Hq ops p (HL ops p i++done) rest=true/\∀t∈HL ops p i,∀j∈rest,t∉HL ops p j:=by grind[Hq,OT]
theorem K5 {ops:Array Oper} {p:BS} {i:Nat} {o:Oper} (hi:ops[i]?=some o) (hc:(∃ts,p.cls[i]?=some (.q ts))\/(∃ts,p.cls[i]?=some (.h ts))\/(∃r,p.cls[i]?=some (.w r))) :
  nw ops p i=Gq ops o++F0 o/\HL ops p i=Fg ops i:=by grind[nw,HL,Dq]
section
variable {rd:Option Nat} {E:Env} {L:A3} {cf:Cn} {ops:Array Oper} {p:BS} {ρ0:Nat->AV}
structure tA (E:Env) (L:A3) (cf:Cn) (ops:Array Oper) (p:BS) (ρ0 ρf:Nat->AV) (N:Nat) (σ:Nat->AM) (i:Nat):Prop where
 q:∀ts,p.cls[i]?=some (.q ts)->∃o k v,ops[i]?=some o/\E2 E L ops (FO p.GI ρ0 ρf i) (σ k) o=some v/\(∀d,o.dst=some d->d<N/\ρf d=v)/\∀t∈ts,t=k\/Nb ops i=true\/(i,t)∈p.XZ
 w:∀r,p.cls[i]?=some (.w r)->∃o v,ops[i]?=some o/\NY E L cf ops (FO p.GI ρ0 ρf i) (σ r) o=some (v,σ (r+1))/\∀d,o.dst=some d->d<N/\ρf d=v
 fa:∀r j x,p.cls[i]?=some (.fa r j x)->∃o o1 o2 k v ρ,ops[i]?=some o/\ops[j]?=some o1/\ops[x]?=some o2/\fused o o1 o2=some k/\KI E L ρ (σ r) k=some (v,σ (r+1))/\Sh ops p ρ0 ρf ρ i /\
  k.d<N/\k.p<N/\ρf k.d=v/\ρf k.p=.Gz
 h:∀ts,p.cls[i]?≠some (.h ts)
def IX (acc:List AM) (k:Nat):AM:=(acc.reverse[k]?).getD ⟨[],[]⟩
theorem Mk {new acc:List AM} {k:Nat} (h:acc.length=k+1):IX (new++acc) k=(acc.head?).getD ⟨[],[]⟩:=by
 unfold IX;rw[List.reverse_append,Cf (by grind)];cases acc with
 | nil=>rfl
 | cons s acc=>
  grind
theorem ej {K:Nat} {Ql:St} {Jc:List AM}:∀(rest:List Nat) (done:List Nat) (st:St) (acc:List AM) (k:Nat),Hq ops p done rest=true->(∀t,t∉done->st.ρ t=ρ0 t) ->
  Jz ops p rest k=some K->acc.length=k+1->acc.head?=some st.s->HB E L cf ops p.cls rest st acc=some (Ql,Jc) ->
  Ql.N=st.N/\(∀t,(∀j∈rest,t∉HL ops p j)->Ql.ρ t=st.ρ t)/\(∃new,Jc=new++acc)/\Jc.length=K+1/\Jc.head?=some Ql.s/\k<=K /\
  (∀i∈rest,tA E L cf ops p ρ0 Ql.ρ st.N (IX Jc) i)/\(∀i∈rest,∀r,Er p i=some r->r<K)/\(∀r,k<=r->r<K->∃i∈rest,Er p i=some r):=by
 intro rest
 induction rest with
 | nil=>
  intro done st acc k ho h0 hr hl hh h
  simp_all[HB,Jz]
 | cons i rest ih=>
  intro done st acc k ho h0 hr hl hh h;obtain⟨ho',Jd⟩:=Si ho
  have tail:∀(st':St) (acc':List AM) (k':Nat),st'.N=st.N->(∀t,t∉HL ops p i->st'.ρ t=st.ρ t)->Jz ops p rest k'=some K->acc'.length=k'+1->acc'.head?=some st'.s->(∃n,acc'=n++acc) ->
    HB E L cf ops p.cls rest st' acc'=some (Ql,Jc)->((Er p i=none/\k'=k)\/(Er p i=some k/\k'=k+1)) ->
    ((∀t,(∀j∈rest,t∉HL ops p j)->Ql.ρ t=st'.ρ t)->Sh ops p ρ0 Ql.ρ st.ρ i->IX Jc k=st.s->IX Jc k'=st'.s->tA E L cf ops p ρ0 Ql.ρ st.N (IX Jc) i) ->
    Ql.N=st.N/\(∀t,(∀j∈i::rest,t∉HL ops p j)->Ql.ρ t=st.ρ t)/\(∃new,Jc=new++acc)/\Jc.length=K+1/\Jc.head?=some Ql.s/\k<=K /\
    (∀j∈i::rest,tA E L cf ops p ρ0 Ql.ρ st.N (IX Jc) j)/\(∀j∈i::rest,∀r,Er p j=some r->r<K)/\(∀r,k<=r->r<K->∃j∈i::rest,Er p j=some r):=by
   intro st' acc' k' hN hfr hr' hl' hh' hacc hrun Zk AMm;have h0':∀t,t∉HL ops p i++done->st'.ρ t=ρ0 t:=λt ht=>by grind
   obtain⟨t1,t2,⟨new,t3⟩,t4,t5,t6,t7,t8,t9⟩:=ih _ st' acc' k' ho' h0' hr' hl' hh' hrun
   have hframe:∀t,(∀j∈i::rest,t∉HL ops p j)->Ql.ρ t=st.ρ t:=λt ht=>by
    rw[t2 t (λj hj=>ht j (Ew _ hj)),hfr t (ht i (Ko ..))]
   obtain⟨n,rfl⟩:=hacc;have VR:IX Jc k=st.s:=by grind[Mk]
   have hk2:IX Jc k'=st'.s:=by grind[Mk]
   have hi:=AMm t2 (Pk ho h0 hframe) VR hk2;refine⟨t1.trans hN,hframe,⟨new++n,by rw[t3,EX]⟩,t4,t5,by omega,λj hj=>?_,λj hj r hrr=>?_,λr h1 h2=>?_⟩
   all_goals grind
  simp only[HB] at h;simp only[Jz] at hr;split at h
  .rename_i o ts Rv HP
   rw[HP] at hr;simp only at hr;obtain⟨r1,r2⟩:=K5 Rv (.inl ⟨ts,HP⟩);cases hall:(ts.all λt=>Nat.beq t k||Nb ops i||Mi p.XZ i t) with
   | false=>grind
   | true=>
    rw[hall] at hr;simp only[AH] at hr;split at h
    .rename_i v hq
     split at h
     .rename_i st' hp
      obtain⟨a1,a2,a3,a4⟩:=F2 hp;refine tail st' acc k a1 (λt ht=>a4 t λe=>ht (by grind[DU])) hr hl (by grind) ⟨[],rfl⟩ h (.inl ⟨Pj HP,rfl⟩) λhfr hag hs1 hs2=>?_
      refine⟨λts' h'=>?_,λr h'=>by grind,λr j x h'=>by grind,λts' h'=>by grind⟩;rw[HP] at h'; simp at h'; subst h';refine⟨o,k,v,Rv,?_,λd hd=>⟨(a3 d hd).1,?_⟩,λt ht=>?_⟩
      .rw[hs1,<-Im (λt ht=>hag t (by grind))]; omega
      .grind[DU]
      grind[Nat.eq_of_beq_eq_true,Ly]
     grind
    grind
  .rename_i o r Rv HP
   rw[HP] at hr;simp only at hr;obtain⟨r1,r2⟩:=K5 Rv (.inr (.inr ⟨r,HP⟩));cases Zk:Nat.beq r k with
   | false=>grind
   | true=>
    rw[Zk] at hr;simp only[AH] at hr;have Zk:=Bo Zk;subst Zk;split at h
    .rename_i v s' hact
     split at h
     .rename_i st' hp
      obtain⟨a1,a2,a3,a4⟩:=F2 hp;refine tail st' (s'::acc) (r+1) a1 (λt ht=>a4 t λe=>ht (by grind[DU])) hr (by grind) (by grind) ⟨[s'],rfl⟩ h (.inr ⟨J0 HP,rfl⟩) λhfr hag hs1 hs2=>?_
      refine⟨λts' h'=>by grind,λr' h'=>?_,λr j x h'=>by grind,λts' h'=>by grind⟩;rw[HP] at h'; simp at h'; subst h';refine⟨o,v,Rv,?_,λd hd=>⟨(a3 d hd).1,?_⟩⟩
      .rw[hs1,hs2,a2,<-Nd (λt ht=>hag t (by grind))]; omega
      grind[DU]
     grind
    grind
  .rename_i o r j x Rv HP
   rw[HP] at hr;simp only at hr;cases Zk:Nat.beq r k with
   | false=>grind
   | true=>
    rw[Zk] at hr;simp only[AH] at hr;have Zk:=Bo Zk;subst Zk;split at h
    .rename_i o1 o2 sk hox
     split at h
     .rename_i kf hf
      obtain⟨f1,f2,f3,f4,f5,f6,f7,f8,f9,f10,f11⟩:=F1 hf;have hew:HL ops p i=[kf.d,kf.p]:=by grind[HL,Fg,jc]
      split at h
      .rename_i v s' OS
       split at h
       .rename_i st' hp
        unfold Jv at hp;split at hp
        .rename_i FU hp1
         obtain⟨a1,a2,a3,a4⟩:=F2 hp1;obtain⟨b1,b2,b3,b4⟩:=F2 hp;obtain⟨a31,a32⟩:=a3 kf.d rfl;obtain⟨b31,b32⟩:=b3 kf.p rfl;refine tail st' (s'::acc) (r+1) (b1.trans a1) (λt ht=>?_) hr (by grind) (by grind) ⟨[s'],rfl⟩ h (.inr ⟨Jn HP,rfl⟩) λhfr hag hs1 hs2=>?_
         .rw[hew] at ht
          simp at ht;rw[b4 t (λe=>ht.2 (by grind)),a4 t (λe=>ht.1 (by grind))]
         .refine⟨λts' h'=>by grind,λr' h'=>by grind,λr' j' x' h'=>?_,λts' h'=>by grind⟩
          rw[HP] at h'; simp at h'; obtain⟨rfl,rfl,rfl⟩:=h';refine⟨o,o1,o2,kf,v,st.ρ,Rv,sk,hox,hf,?_,hag,a31,by grind,?_,?_⟩
          .grind
          .grind
          grind
        grind
       grind
      grind
     grind
    grind
  .rename_i o Rv HP
   rw[HP] at hr
   exact tail st acc k rfl (λ_ _=>rfl) hr hl hh ⟨[],rfl⟩ h (.inl ⟨jd HP,rfl⟩) λ_ _ _ _=>
    ⟨λts' h'=>by grind,λr' h'=>by grind,λr' j' x' h'=>by grind,λts' h'=>by grind⟩
  .rename_i o Rv HP
   rw[HP] at hr
   exact tail st acc k rfl (λ_ _=>rfl) hr hl hh ⟨[],rfl⟩ h (.inl ⟨je HP,rfl⟩) λ_ _ _ _=>
    ⟨λts' h'=>by grind,λr' h'=>by grind,λr' j' x' h'=>by grind,λts' h'=>by grind⟩
  grind
structure AHm (E:Env) (L:A3) (ops:Array Oper) (p:BS) (ρ0 ρf:Nat->AV) (N lo hi:Nat) (i:Nat):Prop where
 q:∀ts,p.cls[i]?=some (.q ts)->∃o s v,ops[i]?=some o/\E2 E L ops (FO p.GI ρ0 ρf i) s o=some v/\(∀d,o.dst=some d->d<N/\ρf d=v)/\∀t∈ts,Nb ops i=true\/(i,t)∈p.XZ
 h:∀ts,p.cls[i]?=some (.h ts)->∃o cs mk id,ops[i]?=some o/\hcells E (FO p.GI ρ0 ρf i) o=some (cs,mk)/\(∀d,o.dst=some d->d<N/\ρf d=mk id)/\lo<=id/\id<hi/\∀t∈ts,(i,t)∈p.XZ
 n:Er p i=none/\p.cls[i]?≠some .fj/\p.cls[i]?≠some .fx
theorem Qm {FU:St} {rest:List Nat} {ρf:Nat->AV} (oC:∀t,(∀j∈rest,t∉HL ops p j)->ρf t=FU.ρ t):∀(first:List Nat) (done:List Nat) (st:St),Hq ops p done (first++rest)=true ->
  (∀t,t∉done->st.ρ t=ρ0 t)->Rr ops p first=true->JB E L ops p.cls first st=some FU ->
  ∃hs done',FU.N=st.N/\(∀t,(∀j∈first,t∉HL ops p j)->FU.ρ t=st.ρ t)/\FU.s={ st.s with bs:=st.s.bs++hs }/\Hq ops p done' rest=true/\(∀t,t∉done'->FU.ρ t=ρ0 t) /\
  (∀i∈first,AHm E L ops p ρ0 ρf st.N st.s.bs.length (st.s.bs++hs).length i) /\
  (∀i j oi oj ts us d e id,i∈first->j∈first->ops[i]?=some oi->ops[j]?=some oj->p.cls[i]?=some (.h ts)->p.cls[j]?=some (.h us)->oi.dst=some d->oj.dst=some e->KJ (ρf d)=some id->KJ (ρf e)=some id->i=j):=by
 intro first
 induction first with
 | nil=>
  intro done st ho h0 hf h;simp[JB] at h;subst h;exact⟨[],done,rfl,λ_ _=>rfl,by simp,ho,h0,by simp,by simp⟩
 | cons i first ih=>
  intro done st ho h0 hf h;rw[Eu] at ho;obtain⟨ho',Jd⟩:=Si ho;simp only[Rr,AD] at hf;simp only[JB] at h;split at h
  .rename_i o ts Rv HP
   have hf1:=hf.1;rw[HP] at hf1;simp only at hf1;obtain⟨r1,r2⟩:=K5 Rv (.inl ⟨ts,HP⟩);split at h
   .rename_i v hq
    split at h
    .rename_i st' hp
     obtain⟨a1,a2,a3,a4⟩:=F2 hp;have hfr:∀t,t∉HL ops p i->st'.ρ t=st.ρ t:=λt ht=>a4 t λe=>ht (by grind[DU])
     obtain⟨hs,done',b1,b2,b3,b4,b5,b6,b7⟩:=ih _ st' ho' (λt ht=>by grind) hf.2 h
     have hframe:∀t,(∀j∈i::first,t∉HL ops p j)->FU.ρ t=st.ρ t:=λt ht=>by
      rw[b2 t (λj hj=>ht j (Ew _ hj)),hfr t (ht i (Ko ..))]
     have tB:∀t,(∀j∈first++rest,t∉HL ops p j)->ρf t=st'.ρ t:=λt ht=>by
      rw[oC t (λj hj=>ht j (Ic _ hj)),b2 t (λj hj=>ht j (List.mem_append_left _ hj))]
     have hag:Sh ops p ρ0 ρf st.ρ i:=Pk ho h0 λt ht=>by
      rw[tB t (λj hj=>ht j (Ew _ hj)),hfr t (ht i (Ko ..))]
     rw[a2] at b3;refine⟨hs,done',b1.trans a1,hframe,b3,b4,b5,λj hj=>?_,?_⟩
     .rcases Az.1 hj with rfl|hj
      .refine⟨λts' h'=>?_,λts' h'=>by grind,Pj HP,by grind,by grind⟩
       rw[HP] at h'; simp at h'; subst h';refine⟨o,st.s,v,Rv,?_,λd hd=>⟨(a3 d hd).1,?_⟩,λt ht=>?_⟩
       .rw[<-Im (λt ht=>hag t (by grind))]; omega
       .grind[DU]
       grind[Ly]
      grind
     .intro i1 j1 oi oj Sj us d e id hi1 hj1 e1 e2 e3 e4 e5 e6 e7 e8
      rcases Az.1 hi1 with rfl|hi1
      .grind
      .rcases Az.1 hj1 with rfl|hj1
       .grind
       .exact b7 i1 j1 oi oj Sj us d e id hi1 hj1 e1 e2 e3 e4 e5 e6 e7 e8
    grind
   grind
  .rename_i o ts Rv HP
   have hf1:=hf.1;rw[HP] at hf1;simp only at hf1;obtain⟨r1,r2⟩:=K5 Rv (.inr (.inl ⟨ts,HP⟩));split at h
   .rename_i cs mk hq
    split at h
    .rename_i st' hp
     obtain⟨a1,a2,a3,a4⟩:=F2 hp;have hfr:∀t,t∉HL ops p i->st'.ρ t=st.ρ t:=λt ht=>a4 t λe=>ht (by grind[DU])
     obtain⟨hs,done',b1,b2,b3,b4,b5,b6,b7⟩:=ih _ st' ho' (λt ht=>by grind) hf.2 h
     have hframe:∀t,(∀j∈i::first,t∉HL ops p j)->FU.ρ t=st.ρ t:=λt ht=>by
      rw[b2 t (λj hj=>ht j (Ew _ hj)),hfr t (ht i (Ko ..))]
     have tB:∀t,(∀j∈first++rest,t∉HL ops p j)->ρf t=st'.ρ t:=λt ht=>by
      rw[oC t (λj hj=>ht j (Ic _ hj)),b2 t (λj hj=>ht j (List.mem_append_left _ hj))]
     have hag:Sh ops p ρ0 ρf st.ρ i:=Pk ho h0 λt ht=>by
      rw[tB t (λj hj=>ht j (Ew _ hj)),hfr t (ht i (Ko ..))]
     rw[a2] at b3;have hval:∀d,o.dst=some d->d<st.N/\ρf d=mk st.s.bs.length:=λd hd=>⟨(a3 d hd).1,by grind[DU]⟩
     have hlen:st'.s.bs.length=st.s.bs.length+1:=by grind
     have Xr:∀j∈first,∀oj us e id,ops[j]?=some oj->p.cls[j]?=some (.h us)->oj.dst=some e->KJ (ρf e)=some id->st.s.bs.length+1<=id:=by
      intro j hj oj us e id e2 e4 e6 e8;obtain⟨o',cs',mk',id',q1,q2,q3,q4,q5,q6⟩:=(b6 j hj).h us e4;rw[e2] at q1; simp at q1; subst q1;rw[(q3 e e6).2,KR q2] at e8
      grind
     refine⟨cs::hs,done',b1.trans a1,hframe,by grind,b4,b5,λj hj=>?_,?_⟩
     .rcases Az.1 hj with rfl|hj
      .refine⟨λts' h'=>by grind,λts' h'=>?_,su HP,by grind,by grind⟩
       rw[HP] at h'; simp at h'; subst h';refine⟨o,cs,mk,st.s.bs.length,Rv,?_,hval,AN _,by simp,λt ht=>?_⟩
       .rw[<-OP (λt ht=>hag t (by grind))]; omega
       grind[Ly]
      .have:=b6 j hj
       rw[a1,hlen] at this;refine⟨this.q,λts' h'=>?_,this.n⟩;obtain⟨o',cs',mk',id',q1,q2,q3,q4,q5,q6⟩:=this.h ts' h';exact⟨o',cs',mk',id',q1,q2,q3,by omega,by grind,q6⟩
     .intro i1 j1 oi oj Sj us d e id hi1 hj1 e1 e2 e3 e4 e5 e6 e7 e8
      rcases Az.1 hi1 with rfl|hi1
      .rcases Az.1 hj1 with rfl|hj1
       .rfl
       .rw[Rv] at e1; simp at e1; subst e1
        rw[(hval d e5).2,KR hq] at e7
        grind
      .rcases Az.1 hj1 with rfl|hj1
       .rw[Rv] at e2; simp at e2; subst e2
        rw[(hval e e6).2,KR hq] at e8
        grind
       .exact b7 i1 j1 oi oj Sj us d e id hi1 hj1 e1 e2 e3 e4 e5 e6 e7 e8
    grind
   grind
  grind
end
theorem F3 {l:List Nat} {x:Nat} (h:has l x=true):x∈l:=OT.1 h
theorem oE {E:Env} {L:A3} {ops:Array Oper} {cls:List eJ} {GI:List (List Nat)} {ρ0 ρf:Nat->AV} {σ:List AM}:∀(XZ:List (Nat×Nat)),eM E L ops cls GI ρ0 ρf σ XZ=true->∀i k,(i,k)∈XZ ->
  (∀o ts,ops[i]?=some o->cls[i]?=some (.q ts)->∃s v,σ[k]?=some s/\E2 E L ops (FO GI ρ0 ρf i) s o=some v/\∀d,o.dst=some d->ρf d=v) /\
  (∀o ts,ops[i]?=some o->cls[i]?=some (.h ts)->∃s cs mk d id,σ[k]?=some s/\hcells E (FO GI ρ0 ρf i) o=some (cs,mk)/\o.dst=some d/\KJ (ρf d)=some id/\s.bs[id]?=some cs):=by
 intro XZ
 induction XZ with
 | nil=>simp
 | cons q XZ ih=>
  obtain⟨i',k'⟩:=q;intro h i k hm;simp only[eM,AD] at h;rcases Az.1 hm with e|hm
  .simp at e
   obtain⟨rfl,rfl⟩:=e;have h:=h.1;split at h
   .grind[Pe]
   .grind[HW]
   grind
  grind
theorem Inv.tC {E:Env} {w:World}:∀(hs:List (List AV)) (g:AI) (s:AM),Inv E g w s->∃q:Nat->Prop,(∀id,g.C5 id->q id)/\(∀id,s.bs.length<=id->id<s.bs.length+hs.length->q id)/\Inv E (g.Bv q) w { s with bs:=s.bs++hs }:=by
 intro hs
 induction hs with
 | nil=>intro g s h; exact⟨g.C5,λ_ q=>q,λid a b=>by grind,by simpa using h.Bv h.Dh (λ_ q=>q) (λid b hb=>(h.Lc id b hb).2.2)⟩
 | cons cs hs ih=>
  intro g s h;obtain⟨q,h1,h2,h3⟩:=ih _ _ (h.reserve cs);refine⟨q,λid hq=>h1 id (.inl hq),λid a b=>?_,by grind[AI.Bv]⟩
  by_cases e:id=s.bs.length
  .exact h1 id (.inr e)
  grind
theorem Zn {acc:List AM} {k:Nat} {s:AM} (h:acc.reverse[k]?=some s):IX acc k=s:=by simp[IX,h]
theorem Zo {E:Env} {L:A3} {ρ ρ':Nat->AV} {s:AM} {k:I8} (h:∀z,z=k.x\/z=k.y\/z=k.ix\/z=k.v->AX ρ z=AX ρ' z):I9 E L ρ' s k=I9 E L ρ s k:=by simp[*,I9]
theorem Zp {E:Env} {L:A3} {ρ ρ':Nat->AV} {s:AM} {k:I8} (h:∀z,z=k.x\/z=k.y\/z=k.ix\/z=k.v->AX ρ z=AX ρ' z):VT E L ρ' s k=VT E L ρ s k:=by simp[*,VT]
theorem Zq {E:Env} {L:A3} {ρ ρ':Nat->AV} {s:AM} {k:I8} (h:∀z,z=k.x\/z=k.y\/z=k.ix\/z=k.v->AX ρ z=AX ρ' z):KI E L ρ' s k=KI E L ρ s k:=by grind[KI,Zo,Zp]
theorem Qn {ops:Array Oper} {p:BS} {ρ0 ρf:Nat->AV} {E3:Nat}:∀{l:List Nat},Qh ops p ρ0 ρf E3 l=true->∀m∈l,∀om r' t y z,ops[m]?=some om->p.cls[m]?=some (.w r')->om.op=.store t y z ->
  ∀id off',AX (FO p.GI ρ0 ρf m) y=.ptr id off'->id≠E3
 | [],_,m,hm=>by grind
 | n::l,h,m,hm=>by
  intro om r' t y z hom hc hop id off' hy;simp only[Qh,AD] at h;rcases Az.1 hm with rfl|hm
  .have h1:=h.1
   rw[hom,hc] at h1;simp only[hop,hy,Kq] at h1;intro e
   simp_all
  .exact Qn h.2 m hm om r' t y z hom hc hop id off' hy
theorem Qo {E:Env} {L:A3} {ops:Array Oper} {p:BS} {ρ0 ρf:Nat->AV}:∀{l:List Nat},SJ E L ops p ρ0 ρf l=true->∀i∈l,∀o r j x d E3 off len sz,RH E L ops i j x=true->ops[i]?=some o->p.cls[i]?=some (.fa r j x)->o.dst=some d->ρf d=.ref E3 off len sz ->
  Qh ops p ρ0 ρf E3 p.rest=true
 | [],_,i,hi=>by grind
 | n::l,h,i,hi=>by
  intro o r j x d E3 off len sz hX ho hc hd hr;simp only[SJ,AD] at h;rcases Az.1 hi with rfl|hi
  .grind
  .exact Qo h.2 i hi o r j x d E3 off len sz hX ho hc hd hr
theorem Sk {E:Env} {L:A3} {ops:Array Oper} {cls:List eJ}:∀{l:List Nat},sI E L ops cls l=true->∀i∈l,∀r j x,cls[i]?=some (.fa r j x)->RH E L ops i j x=false
 | [],_,i,hi=>by grind
 | n::l,h,i,hi=>by
  intro r j x hc;simp only[sI,AD] at h;rcases Az.1 hi with rfl|hi
  .grind
  .exact Sk h.2 i hi r j x hc
theorem Zr {E:Env} {L:A3} {ops:Array Oper} {p:BS} {ρ0 ρf:Nat->AV} (h:VU E L ops p ρ0 ρf=true):∀i∈p.rest,∀o r j x d E3 off len sz,RH E L ops i j x=true->ops[i]?=some o->p.cls[i]?=some (.fa r j x)->o.dst=some d->ρf d=.ref E3 off len sz ->
  Qh ops p ρ0 ρf E3 p.rest=true:=by grind[VU,Sk,Qo]
section
variable {rd:Option Nat} {E:Env} {L:A3} {cf:Cn} {ops:Array Oper} {p:BS}
theorem eu (Rs:HX E L cf) (ee:E.P.follows .mixedOrders=true) (Li:SW ops p=true) {g:AI} {w:World} {a:Act} {st st':St} {Q:Exit->Act->World->Prop} {id:Nat} (hI:Inv E g w st.s) (hsz:a.tmps.size=st.N)
  (hρ:∀t,V g w (st.ρ t) (a.tmps.getD t undef)) (h:Xi E L cf p ops st=some st')
  (hQ:∀a' w' g',a'.tmps.size=st'.N->a'.defers=a.defers->Ext L g w g' w'->Inv E g' w' st'.s->(∀t,V g' w' (st'.ρ t) (a'.tmps.getD t undef))->st'.N=st.N->Q .normal a' w') :
  (Code.region id ops true).wpIn (FW rd) 0 E.P Q a w:=by
 unfold SW at Li;simp only at Li;split at Li
 .simp at Li
 rename_i K hK;simp only[AD] at Li;obtain⟨⟨⟨⟨hlen,hmem⟩,hall⟩,AMo⟩,tD⟩:=Li;unfold Xi at h;split at h
 .rename_i FU h1
  split at h
  .rename_i Ql Jc h2
   cases hch:eM E L ops p.cls p.GI st.ρ Ql.ρ Jc.reverse p.XZ with
   | false=>rw[hch] at h; simp at h
   | true=>
    cases hmc:VU E L ops p st.ρ Ql.ρ with
    | false=>rw[hch,hmc] at h; simp at h
    | true=>
    rw[hch,hmc] at h;simp at h;subst h;obtain⟨_,done',_,_,_,ho',h0',_,_⟩:=Qm (E:=E) (L:=L) (ρ0:=st.ρ) (ρf:=FU.ρ) (λ_ _=>rfl) p.first [] st AMo (λ_ _=>rfl) tD h1;obtain⟨r1,r2,⟨new,r3⟩,r4,r5,_,r7,r8,r9⟩:=ej (ρ0:=st.ρ) p.rest done' FU [FU.s] 0 ho' h0' hK rfl rfl h2;obtain⟨hs,_,f1,f2,f3,_,_,f6,f7⟩:=Qm (E:=E) (L:=L) (ρ0:=st.ρ) (ρf:=Ql.ρ) r2 p.first [] st AMo (λ_ _=>rfl) tD h1;have AMp:=oE p.XZ hch;have hin:∀(i:Nat) o,ops[i]?=some o->i∈p.first\/i∈p.rest:=λi o ho=>CM.1 (F3 (Gr hmem (Co ho)))
    have hst:∀(i:Nat) o,ops[i]?=some o->Xs ops p i=true/\K3 ops p i=true/\ADX ops ops.size i=true/\sS ops p ops.size i=true/\Xu p ops.size i=true/\eU p ops.size K i=true/\Nc ops p ops.size i=true:=λi o ho=>by
     have:=Gr hall (Co ho);simp only[AD] at this;obtain⟨⟨⟨⟨⟨⟨a1,a2⟩,a3⟩,a4⟩,a5⟩,a6⟩,a7⟩:=this;exact⟨a1,a2,a3,a4,a5,a6,a7⟩
    have hN1:FU.N=st.N:=f1;have hNf:Ql.N=st.N:=r1.trans f1;have hσ0:IX Jc 0=FU.s:=by rw[r3,Mk rfl]; rfl
    have hσK:IX Jc K=Ql.s:=by
     have:=Mk (new:=[]) r4;rw[ED] at this;rw[this,r5]; rfl
    have R:Uu E L cf ops p K st.N st.ρ Ql.ρ (IX Jc):={
     ABS:=λi o e ho he hb=>by
      have:=(hst i o ho).1;simp only[Xs,ho,AD] at this;have:=De.1 this.1 e (by simpa using he);simpa[hb,Nat.blt_eq] using this
     pre:=λi o j ho hj=>by
      have:=(hst i o ho).1;simp only[Xs,ho,AD] at this;obtain⟨e,he,h'⟩:=Kr.1 (De.1 this.2 j hj);simp only[AD,DX] at h';exact⟨e,by simpa using he,h'.1,h'.2.imp Bo F3⟩
     cls:=λi o ho=>by
      have:=(hst i o ho).2.1;unfold K3 at this;rw[ho] at this;cases hc:p.cls[i]? with
      | none=>rw[hc] at this; simp at this
      | some c=>exact⟨c,rfl⟩
     dst:=λi j oi oj d hi hj n4 sq=>by
      have:=Gr (hst i oi hi).2.2.1 (Co hj);simp only[DX] at this;rcases this with q|q
      .exact(Bo q).symm
      .have:=De.1 q d (DU.2 ⟨oj,hj,sq⟩)
       simp only[Kq] at this;exact absurd (DU.2 ⟨oi,hi,n4⟩) (KQ.1 this)
     read:=λi j oi oj d hi hj sq hd=>by
      have:=De.1 (Gr (hst i oi hi).2.2.2.1 (Co hj)) d (DU.2 ⟨oj,hj,sq⟩);have hr:has (Dq ops i) d=true:=OT.2 (by simp only[Dq,hi]; exact hd);rw[hr] at this;simp only[N8,GU] at this;cases hw:has (HO p.GI i) d with
      | true=>
       rw[hw] at this;simp only[AH,DX] at this;exact .inl ⟨rfl,this.imp Bo F3⟩
      | false=>
       rw[hw] at this;exact .inr ⟨rfl,F3 (by simpa using this)⟩
     rk:=λi j oi oj r r' hi hj K6 tE hlt=>by
      have:=(hst i oi hi).2.2.2.2.1;unfold Xu at this;rw[K6] at this;have:=Gr this (Co hj);rw[tE] at this;simp only[DX,AD,Kq] at this;rcases this with q|⟨_,q⟩
      .have:=Bo q
       subst this;rw[K6] at tE; simp at tE; omega
      .rcases q with q|q
       .have:Nat.blt r r'=true:=by grind[Nat.blt_eq]
        rw[this] at q; simp at q
       .exact F3 q
     ADa:=λi j oi oj r hi hj K6 tE=>by
      have:=(hst i oi hi).2.2.2.2.1;unfold Xu at this;rw[K6] at this;have:=Gr this (Co hj);rw[tE] at this;simp only[DX,AD,Kq] at this;rcases this with q|⟨q,_⟩
      .exact Bo q
      .simp at q
     AHg:=λk hk=>by
      obtain⟨i,hi,hr⟩:=r9 k (AK _) hk;have hR:=r7 i hi;unfold Er at hr;cases hc:p.cls[i]? with
      | none=>rw[hc] at hr; simp at hr
      | some c=>
       rw[hc] at hr;cases c with
       | w r=>obtain⟨o,_,ho,_⟩:=hR.w r hc; exact⟨i,o,ho,by grind[Er]⟩
       | fa r j x=>obtain⟨o,_,_,_,_,_,ho,_⟩:=hR.fa r j x hc; exact⟨i,o,ho,by grind[Er]⟩
       | _=>simp[Jj] at hr
     AHh:=λi o r ho hr=>by
      rcases hin i o ho with hi|hi
      .have:=(f6 i hi).n.1; rw[this] at hr; simp at hr
      .grind
     time:=λi o ts ho hc k hk hn=>by
      have ht:=(hst i o ho).2.2.2.2.2.1
      have key:((List.range (K+1)).all λk=>has ts k||(List.range ops.size).any λj=>match Er p j with
        | some r=>(has (Dl p i) j&&Nat.ble k r)||(has (Dl p j) i&&Nat.blt r k)
        | none=>false)=true:=by
       unfold eU at ht;rcases hc with hc|hc <;> rw[hc] at ht <;> simp only[AD] at ht <;> exact ht.1
      have:=Gr key (show k<K+1 by omega);rw[KQ.2 hn,GU] at this;obtain⟨j,hj,h'⟩:=Kr.1 this;cases hr:Er p j with
      | none=>rw[hr] at h'; simp at h'
      | some r=>
       rw[hr] at h';simp only[DX,AD] at h';have AT1:j<ops.size:=by simpa using hj
       refine⟨j,ops[j],r,by simp[AT1],hr,h'.imp (λq=>⟨F3 q.1,by simpa[Nat.ble_eq] using q.2⟩) (λq=>⟨F3 q.1,by simpa[Nat.blt_eq] using q.2⟩)⟩
     sg:=λi o r j x ho hc=>by
      have hfo:=(hst i o ho).2.2.2.2.2.2;unfold Nc at hfo;rw[hc] at hfo;simp only[AD] at hfo;obtain⟨⟨⟨⟨u1,u2⟩,u3⟩,u4⟩,u5⟩:=hfo;rcases hin i o ho with hi|hi
      .have:=(f6 i hi).n.1; rw[Jn hc] at this; simp at this
      obtain⟨o',o1,o2,kf,v,ρ,g1,g2,g3,g4,g5,g6,g7,g8,g9,g10⟩:=(r7 i hi).fa r j x hc;rw[ho] at g1; simp at g1; subst g1;obtain⟨q1,q2,q3,q4,q5,q6,q7,q8,q9,q10,q11⟩:=F1 g4
      have hcj:p.cls[j]?=some .fj/\p.cls[x]?=some .fx:=by
       split at u1
       .rename_i e1 e2 _ _ _; exact⟨e1,e2⟩
       .simp at u1
      have GI:∀(i':Nat) o',ops[i']?=some o'->(p.cls[i']?=some (.fa r j x)\/p.cls[i']?=some .fj\/p.cls[i']?=some .fx)->HO p.GI i'=[]:=λi' o' ho' HM=>by
       have:=(hst i' o' ho').2.1;unfold K3 at this;rw[ho'] at this;rcases HM with HM|HM|HM <;> rw[HM] at this <;> simp only[AD] at this <;> simpa using this.2
      have w1:=GI i o ho (.inl hc);have w2:=GI j o1 g2 (.inr (.inl hcj.1));have w3:=GI x o2 g3 (.inr (.inr hcj.2));refine⟨o1,o2,kf,g2,g3,hcj.1,hcj.2,g4,w1,w2,w3,F3 u2,F3 u3,F3 u4,v,?_,g9,g10⟩;rw[<-g5];refine Zq λz hz=>Jk λt ht=>?_
      have hmem:t∈nw ops p i:=by
       unfold nw;rw[hc];simp only[List.mem_filter];have hd1:Fg ops i++Fg ops j=[kf.d,kf.p]:=by simp[Fg,jc,ho,g2,q2,q4]
       constructor
       .simp only[CM]
        rcases hz with e|e|e|e
        .exact .inl (.inl (by simp only[Dq,ho]; exact Ic _ (DL.2 (by grind[Op.operands,Call.operands]))))
        .exact .inl (.inl (by simp only[Dq,ho]; exact Ic _ (DL.2 (by grind[Op.operands,Call.operands]))))
        .exact .inl (.inr (by simp only[Dq,g2]; exact Ic _ (DL.2 (by grind[Op.operands]))))
        .grind[Dq,DL,Op.operands]
       .rw[hd1]
        obtain⟨z1,z2⟩:=Qk g4 z hz;simp only[Kq,KQ,Az,Ex,Ey,not_or];exact⟨λe=>z1 (by rw[ht,e]),λe=>z2 (by rw[ht,e])⟩
      have:=g6 t hmem;rw[this];unfold FO;rw[w1];rfl
     mu:=λi o r j x d E3 off len sz hX ho hc hd hq m om r' t y z hom KD hop id off' hy=>by
      have hir:i∈p.rest:=by
       rcases hin i o ho with hi|hi
       .have:=(f6 i hi).n.1; rw[Jn hc] at this; simp at this
       .omega
      have hmr:m∈p.rest:=by
       rcases hin m om hom with hi|hi
       .have:=(f6 m hi).n.1; rw[J0 KD] at this; simp at this
       .omega
      exact Qn (Zr hmc i hir o r j x d E3 off len sz hX ho hc hd hq) m hmr om r' t y z hom KD hop id off' hy
     win:=λi o r j x ho hc m om hm h1 h2 h3=>by
      have hfo:=(hst i o ho).2.2.2.2.2.2;unfold Nc at hfo;rw[hc] at hfo;simp only[AD] at hfo;have:=Gr hfo.2 (Co hm);have n1:Nat.beq m i=false:=by rw[N9]; exact λq=>h1 (Bo q)
      have n2:Nat.beq m j=false:=by rw[N9]; exact λq=>h2 (Bo q)
      have n3:Nat.beq m x=false:=by rw[N9]; exact λq=>h3 (Bo q)
      rw[n1,n2,n3] at this;simp only[GU,AD,DX] at this;refine⟨this.1.imp F3 (λq=>q.imp F3 (λz=>z)),λd hd hr=>?_⟩;have:=De.1 this.2 d (DU.2 ⟨om,hm,hd⟩);simp only[DX,Kq,G7] at this;rcases this with q|q
      .rcases hr with hr|hr
       .exact absurd hr (KQ.1 q.1)
       .exact absurd hr (KQ.1 q.2)
      .exact F3 q
     AMY:=λj oj hj hc=>by
      have hfo:=(hst j oj hj).2.2.2.2.2.2;unfold Nc at hfo;rw[hc] at hfo;obtain⟨m,hm,h'⟩:=Kr.1 hfo;have hlt:m<ops.size:=by simpa using hm
      split at h'
      .rename_i r j' x' KD
       have:=Bo h';subst this;exact⟨m,ops[m],r,x',by simp,KD⟩
      .simp at h'
     AMZ:=λx ox hx hc=>by
      have hfo:=(hst x ox hx).2.2.2.2.2.2;unfold Nc at hfo;rw[hc] at hfo;obtain⟨m,hm,h'⟩:=Kr.1 hfo;have hlt:m<ops.size:=by simpa using hm
      split at h'
      .rename_i r j' x' KD
       have:=Bo h';subst this;exact⟨m,ops[m],r,j',by simp[hlt],KD⟩
      .simp at h'
     out:=λt ht=>by
      have hw:∀j,t∉HL ops p j:=λj hj=>by
       unfold HL at hj;have nd:∀q,t∉Fg ops q:=λq hq=>by obtain⟨o,h1,h2⟩:=DU.1 hq; exact ht q o h1 h2
       split at hj
       .simp at hj
       .simp at hj
       .rcases CM.1 hj with q|q <;> grind
       .exact nd _ hj
      rw[r2 t (λj _=>hw j),f2 t (λj _=>hw j)]
     si:=λi o d ho hd=>by
      rcases hin i o ho with hi|hi
      .have hF:=f6 i hi
       cases hc:p.cls[i]? with
       | none=>
        have:=(hst i o ho).2.1;unfold K3 at this;rw[ho,hc] at this;simp at this
       | some c=>
        cases c with
        | q ts=>
         obtain⟨o',_,_,g1,_,g3,_⟩:=hF.q ts hc;rw[ho] at g1; simp at g1; subst g1;exact(g3 d hd).1
        | h ts=>
         obtain⟨o',_,_,_,g1,_,g3,_⟩:=hF.h ts hc;rw[ho] at g1; simp at g1; subst g1;exact(g3 d hd).1
        | w r=>have:=hF.n.1; rw[J0 hc] at this; simp at this
        | fa r j x=>have:=hF.n.1; rw[Jn hc] at this; simp at this
        | fj=>exact absurd hc hF.n.2.1
        | fx=>exact absurd hc hF.n.2.2
      .have hF:=r7 i hi
       have faD:∀(m:Nat) r j x,m<ops.size->p.cls[m]?=some (.fa r j x)->∃o o1 o2 k,ops[m]?=some o/\ops[j]?=some o1/\ops[x]?=some o2/\fused o o1 o2=some k/\k.d<st.N/\k.p<st.N:=λm r j x hm hc=>by
        rcases hin m ops[m] (by simp[hm]) with mi|mi
        .have:=(f6 m mi).n.1; rw[Jn hc] at this; simp at this
        .obtain⟨o',o1,o2,kf,v,ρ,g1,g2,g3,g4,g5,g6,g7,g8,g9,g10⟩:=(r7 m mi).fa r j x hc
         exact⟨o',o1,o2,kf,g1,g2,g3,g4,by rw[<-hN1]; exact g7,by rw[<-hN1]; exact g8⟩
       have hfo:=(hst i o ho).2.2.2.2.2.2;unfold Nc at hfo;cases hc:p.cls[i]? with
       | none=>
        have:=(hst i o ho).2.1;unfold K3 at this;rw[ho,hc] at this;simp at this
       | some c=>
        rw[hc] at hfo;cases c with
        | q ts=>
         obtain⟨o',_,_,g1,_,g3,_⟩:=hF.q ts hc;rw[ho] at g1; simp at g1; subst g1;rw[<-hN1]; exact(g3 d hd).1
        | h ts=>exact absurd hc (hF.h ts)
        | w r=>
         obtain⟨o',_,g1,_,g3⟩:=hF.w r hc;rw[ho] at g1; simp at g1; subst g1;rw[<-hN1]; exact(g3 d hd).1
        | fa r j x=>
         obtain⟨o',o1,o2,k,g1,g2,g3,g4,g5,g6⟩:=faD i r j x (Co ho) hc;rw[ho] at g1; simp at g1; subst g1;have:=(F1 g4).2.1;rw[hd] at this; simp at this; rw[this]; exact g5
        | fj=>
         obtain⟨m,hm,h'⟩:=Kr.1 hfo;split at h'
         .rename_i r j' x' KD
          have:=Bo h';subst this;obtain⟨o',o1,o2,k,g1,g2,g3,g4,g5,g6⟩:=faD m r j' x' (by simpa using hm) KD;rw[ho] at g2; simp at g2; subst g2;have:=(F1 g4).2.2.2.1;rw[hd] at this; simp at this; rw[this]; exact g6
         .simp at h'
        | fx=>
         obtain⟨m,hm,h'⟩:=Kr.1 hfo;split at h'
         .rename_i r j' x' KD
          have:=Bo h';subst this;obtain⟨o',o1,o2,k,g1,g2,g3,g4,g5,g6⟩:=faD m r j' x' (by simpa using hm) KD;rw[ho] at g3; simp at g3; subst g3;have:=(F1 g4).2.2.2.2.2.1;rw[hd] at this; simp at this
         .simp at h'
     wF:=λi o r ho hc=>by
      rcases hin i o ho with hi|hi
      .have:=(f6 i hi).n.1; rw[J0 hc] at this; simp at this
      .obtain⟨o',v,g1,g2,g3⟩:=(r7 i hi).w r hc
       rw[ho] at g1; simp at g1; subst g1;exact⟨v,g2,λd hd=>(g3 d hd).2⟩
     qF:=λi o ts k ho hc hk=>by
      have Zs:∀s v,Nb ops i=true->E2 E L ops (FO p.GI st.ρ Ql.ρ i) s o=some v->E2 E L ops (FO p.GI st.ρ Ql.ρ i) (IX Jc k) o=some v:=λs v hp hq=>by
       have hp':Xt o=true:=by simpa[Nb,ho] using hp
       unfold E2 at hq ⊢;split at hq
       .exact Xy hp' hq
       .exact hq
       .simp at hq
      have jf:(i,k)∈p.XZ->∃v,E2 E L ops (FO p.GI st.ρ Ql.ρ i) (IX Jc k) o=some v/\∀d,o.dst=some d->Ql.ρ d=v:=λhm=>by
       obtain⟨s,v,g1,g2,g3⟩:=(AMp i k hm).1 o ts ho hc;exact⟨v,by rw[Zn g1]; exact g2,g3⟩
      rcases hin i o ho with hi|hi
      .obtain⟨o',s,v,g1,g2,g3,g4⟩:=(f6 i hi).q ts hc
       rw[ho] at g1; simp at g1; subst g1;rcases g4 k hk with q|q
       .exact⟨v,Zs s v q g2,λd hd=>(g3 d hd).2⟩
       .exact jf q
      .obtain⟨o',kk,v,g1,g2,g3,g4⟩:=(r7 i hi).q ts hc
       rw[ho] at g1; simp at g1; subst g1;rcases g4 k hk with q|q|q
       .subst q; exact⟨v,g2,λd hd=>(g3 d hd).2⟩
       .exact⟨v,Zs _ v q g2,λd hd=>(g3 d hd).2⟩
       .exact jf q
     hF:=λi o ts ho hc=>by
      have hpo:=(hst i o ho).2.1;unfold K3 at hpo;rw[ho,hc] at hpo;simp only[AD] at hpo;rcases hin i o ho with hi|hi
      .obtain⟨o',cs,mk,id',g1,g2,g3,g4,g5,g6⟩:=(f6 i hi).h ts hc
       rw[ho] at g1; simp at g1; subst g1;obtain⟨d,hd⟩:=MX.1 hpo.2;refine⟨by simpa using hpo.1,d,cs,mk,id',hd,g2,(g3 d hd).2,λk hk=>?_⟩;obtain⟨s,cs',mk',d',AT3,e1,e2,e3,e4,e5⟩:=(AMp i k (g6 k hk)).2 o ts ho hc;rw[hd] at e3; simp at e3; subst e3;rw[(g3 d hd).2,KR g2] at e4;simp at e4; subst e4;rw[g2] at e2; simp at e2;rw[Zn e1,e5,e2.1]
      .exact absurd hc ((r7 i hi).h ts)
     AMa:=λi j oi oj ts us d e id' hi hj HP hcj n4 sq eC h2'=>by
      rcases hin i oi hi with m1|m1
      .rcases hin j oj hj with m2|m2
       .exact f7 i j oi oj ts us d e id' m1 m2 hi hj HP hcj n4 sq eC h2'
       .exact absurd hcj ((r7 j m2).h us)
      .exact absurd HP ((r7 i m1).h ts) }
    have hid:∀(i:Nat) o ts d id,ops[i]?=some o->p.cls[i]?=some (.h ts)->o.dst=some d->KJ (Ql.ρ d)=some id->st.s.bs.length<=id/\id<st.s.bs.length+hs.length:=λi o ts d id' ho hc hd e9=>by
     rcases hin i o ho with hi|hi
     .obtain⟨o',cs,mk,AT3,g1,g2,g3,g4,g5,g6⟩:=(f6 i hi).h ts hc
      rw[ho] at g1; simp at g1; subst g1;rw[(g3 d hd).2,KR g2] at e9;simp at e9; subst e9;exact⟨g4,by grind⟩
     .exact absurd hc ((r7 i hi).h ts)
    obtain⟨q,hq1,hq2,hq3⟩:=Inv.tC hs g st.s hI;refine eZ R Rs ee (g:=g) (g1:=g.Bv q) (λi o ts d id' ho hc hd e9 hp=>?_) ((Ext.refl L g w).Bv hq1) ?_ hsz (λt=>(hρ t).Bv) (λi o ts d id' ho hc hd e9=>?_) (λa' w' g' b1 b2 b3 b4 b5=>?_)
    .have:=(hI.Dh id' hp).1
     have:=(hid i o ts d id' ho hc hd e9).1;omega
    .rw[hσ0,f3]; exact hq3
    .obtain⟨x1,x2⟩:=hid i o ts d id' ho hc hd e9
     exact hq2 id' x1 x2
    .grind
  .grind
 .grind
end
structure fA (E:Env) (g:AI) (w:World) (st:St) (a:Act):Prop where
 inv:Inv E g w st.s
 size:a.tmps.size=st.N
 tmps:∀t,V g w (st.ρ t) (a.tmps.getD t undef)
theorem fA.put {E:Env} {L:A3} {g g':AI} {w w':World} {st st':St} {a:Act} {s:AM} {d:Option Nat} {v:AV} {u:Value} (h:fA E g w st a) (hp:KG { st with s:=s } d v=some st') (he:Ext L g w g' w') (hi:Inv E g' w' s) (hv:V g' w' v u) :
  fA E g' w' st' (a.put d u)/\st'.N=st.N:=by
 obtain⟨a1,a2,a3,a4⟩:=F2 hp;refine⟨⟨by grind,by rw[Sd,a1]; exact h.size,λt=>?_⟩,a1⟩
 by_cases ht:d=some t
 .subst ht
  obtain⟨b1,b2⟩:=a3 t rfl;rw[JJ (by rw[h.size]; omega),b2];omega
 .rw[Ph ht,a4 t ht]
  exact(h.tmps t).mono he
theorem Jo (i n:Nat):List.range' i (n+1)=i::List.range' (i+1) n:=by rfl
section
variable {rd:Option Nat} {E:Env} {L:A3} {cf:Cn} {ops:Array Oper} {Q:Exit->Act->World->Prop}
theorem Vd {i:Nat} {rest:List Nat} {o:Oper} {a:Act} {w:World} (ho:ops[i]?=some o) (hw:Region.wanted o (yielded ops a.tmps)=true) (h:o.wpIn (FW rd) 0 E.P a w (wpOpsIn (FW rd) 0 E.P ops Q rest) Q):wpOpsIn (FW rd) 0 E.P ops Q (i::rest) a w:=by grind[wpOpsIn]
theorem tF {i:Nat} {rest:List Nat} {o:Oper} {a:Act} {w:World} (ho:ops[i]?=some o) (hw:Region.wanted o (yielded ops a.tmps)=false) (h:wpOpsIn (FW rd) 0 E.P ops Q rest (a.put o.dst undef) w):wpOpsIn (FW rd) 0 E.P ops Q (i::rest) a w:=by
 simp only[wpOpsIn,ho,hw,DE,IZ];exact⟨λ_ _=>trivial,h⟩
theorem Pm {i:Nat} {rest:List Nat} {o:Oper} {a:Act} {w w':World} {v:Value} (ho:ops[i]?=some o) (hg:o.guard=none) (hr:(execOp a.eval o).run E.P w=.ok (.value v) w'\/((execOp a.eval o).run E.P w=.ok .skip w'/\v=undef))
  (h:wpOpsIn (FW rd) 0 E.P ops Q rest (a.put o.dst v) w'):wpOpsIn (FW rd) 0 E.P ops Q (i::rest) a w:=by grind[Vd,Region.wanted,Jm,Ip]
theorem tG {g:AI} {w:World} {st st':St} {a:Act} {o o1 o2:Oper} {k:I8} {v:AV} {s:AM} {i:Nat} {rest:List Nat} (h:fA E g w st a) (ho:ops[i]?=some o) (ho1:ops[i+1]?=some o1) (ho2:ops[i+2]?=some o2)
  (hf:fused o o1 o2=some k) (OS:I9 E L st.ρ st.s k=some (v,s)) (hst:Jv st k v s=some st')
  (hk:∀a' w' g',fA E g' w' st' a'->a'.defers=a.defers->Ext L g w g' w'->st'.N=st.N->wpOpsIn (FW rd) 0 E.P ops Q rest a' w'):wpOpsIn (FW rd) 0 E.P ops Q (i::(i+1)::(i+2)::rest) a w:=by
 obtain⟨f1,f2,f3,f4,f5,f6,f7,f8,f9,f10,f11⟩:=F1 hf;have hap:=Qk hf;have hVx:=Ae h.tmps k.x;have hVy:=Ae h.tmps k.y;have hVi:=Ae h.tmps k.ix;have hVv:=Ae h.tmps k.v;unfold Jv at hst;split at hst
 .rename_i FU hp1
  unfold I9 at OS;split at OS
  .rename_i elem hu
   split at OS
   .rename_i Xo
    split at OS
    .rename_i ti rows z n row eB hrows hz qW hrow
     split at OS
     .rename_i hcnd
      obtain⟨q1,q2,q3,q4,q5,q6,q7⟩:=hcnd;have hvl:=EO hVv q4;obtain⟨t1,t2⟩:=Gm hvl hrow;obtain⟨b,cap,vz,e,fz,w1,wv,g',a1,a2,a3,a4,a5,a6,⟨a7,a7z⟩,a8⟩:=Lu (T:=o.type) h.inv hu eB q6 q7 hVx hrows hVy hz q2 q5 (us:=(a.eval k.v).cells.toList) (by omega) q3 t2 OS;obtain⟨kk,SQ⟩:=E5 hVi qW;obtain⟨s1,n1⟩:=h.put hp1 a3 a4 a2;have hp2:KG { FU with s:=FU.s } (some k.p) .Gz=some st':=hst;obtain⟨s2,n2⟩:=s1.put (u:=.pointer (some ⟨b,rows.length*ti.size,none⟩)) hp2 (Ext.refl L g' wv) s1.inv .Gz;have hszv:(a.eval k.v).cells.size=ti.size:=by grind
      have hd:k.d<a.tmps.size:=by
       obtain⟨_,_,x3,_⟩:=F2 hp1;rw[h.size]; grind
      have hpN:k.p<a.tmps.size:=by
       obtain⟨_,_,x3,_⟩:=F2 hst;have:=(x3 k.p rfl).1;rw[h.size]; omega
      have ADf:∀z,z=k.ix\/z=k.v->∀u u',((a.put (some k.d) u).put (some k.p) u').eval z=a.eval z/\(a.put (some k.d) u).eval z=a.eval z:=λz hz u u'=>by grind[EF]
      have hw1:w1.heap[b]?=some (.cells ⟨vz⟩ e fz):=by grind[BQ]
      refine Pm ho f8.1 (v:=.slice (some ⟨b,0,none⟩) (rows.length+1) cap) (w':=w1) (.inl ?_) ?_
      .simp[*,execOp,resolve,invoke,builtin]
      rw[f2];refine Pm ho1 f8.2.1 (v:=.pointer (some ⟨b,rows.length*ti.size,none⟩)) (w':=w1) (.inl ?_) ?_
      .have e1:(a.put (some k.d) (.slice (some ⟨b,0,none⟩) (rows.length+1) cap)).eval (.tmp k.d)=.slice (some ⟨b,0,none⟩) (rows.length+1) cap:=JJ hd
       have e2:=(ADf k.ix (.inl rfl) (.slice (some ⟨b,0,none⟩) (rows.length+1) cap) undef).2;simp[*,execOp,Instr.indexAt,asIntOf,run_underlying,run_sizeOf,DH]
      rw[f4];refine Pm ho2 f8.2.2 (v:=undef) (w':=wv) (.inr ⟨?_,rfl⟩) ?_
      .have e1:((a.put (some k.d) (.slice (some ⟨b,0,none⟩) (rows.length+1) cap)).put (some k.p) (.pointer (some ⟨b,rows.length*ti.size,none⟩))).eval (.tmp k.p)=.pointer (some ⟨b,rows.length*ti.size,none⟩):=JJ (by grind[Sd])
       have e2:=(ADf k.v (.inr rfl) (.slice (some ⟨b,0,none⟩) (rows.length+1) cap) (.pointer (some ⟨b,rows.length*ti.size,none⟩))).1;obtain⟨dst,op,type,pos,after,guard⟩:=o2;simp only at f5;subst f5;have hst:=FB (P:=E.P) (b:=b) (o:=rows.length*ti.size) (e:=e) a7z (a.eval k.v).cells.toList 0 w1 vz (VL.one hvl q4) hw1 (by omega)
       grind[D9,K1,execOp,Instr.storeAt,Instr.sureAddr,storeVar,Sem.run_bind,Sem.run_pure,Result.andThen_ok,run_sizeOf]
      grind[Act.put]
     grind
    grind
   grind
  grind
 grind
theorem fB (Rs:HX E L cf):∀(n i:Nat) (l:List Oper) (st st':St) (a:Act) (w:World) (g:AI),l.length=n->l=ops.toList.drop i->fA E g w st a->IQ E L cf ops l st=some st' ->
  (∀a' w' g',fA E g' w' st' a'->a'.defers=a.defers->Ext L g w g' w'->st'.N=st.N->Q .normal a' w')->wpOpsIn (FW rd) 0 E.P ops Q (List.range' i l.length) a w:=by
 intro n
 induction n using Nat.strongRecOn with
 | ind n ih=>
  intro i l st st' a w g hn hl hs h hQ;cases l with
  | nil=>
   simp[IQ] at h;subst h;exact hQ a w g hs rfl (Ext.refl _ _ _) rfl
  | cons o rest=>
   have fC:∀(j:Nat) q,(o::rest)[j]?=some q->ops[i+j]?=some q:=λj q hq=>by grind
   have ADg:∀j,(o::rest).drop j=ops.toList.drop (i+j):=λj=>by rw[hl,List.drop_drop]
   have one:(match E1 ops st.ρ o with
     | some true=>match M7 E L cf st o with
      | some st=>IQ E L cf ops rest st
      | none=>none
     | some false=>match KG st o.dst (.tuple []) with
      | some st=>IQ E L cf ops rest st
      | none=>none
     | none=>none)=some st'->wpOpsIn (FW rd) 0 E.P ops Q (List.range' i (o::rest).length) a w:=by
    intro h;rw[CI,Jo];have hlt:rest.length<n:=by grind
    have AMr:rest=ops.toList.drop (i+1):=by grind
    split at h
    .rename_i hg
     split at h
     .rename_i FU hst
      unfold M7 at hst;split at hst
      .rename_i v s hact
       refine Vd (fC 0 o rfl) (DD hs.tmps hg) (Ng Rs hs.inv hs.tmps hact λv' w' g' hV hE hI=>?_);obtain⟨s1,n1⟩:=hs.put hst hE hI hV;exact ih rest.length hlt (i+1) rest FU st' _ w' g' rfl AMr s1 h λa' w'' g'' q1 q2 q3 q4=>hQ a' w'' g'' q1 (q2.trans (put_defers _ _ _)) (hE.trans q3) (q4.trans n1)
      grind
     grind
    .rename_i hg
     split at h
     .rename_i FU hst
      refine tF (fC 0 o rfl) (DD hs.tmps hg) ?_;obtain⟨s1,n1⟩:=hs.put (L:=L) (s:=st.s) hst (Ext.refl L g w) hs.inv V.undef
      grind[put_defers]
     grind
    grind
   unfold IQ at h;simp only at h;split at h
   .rename_i o1 o2 rest'
    split at h
    .rename_i k hf
     split at h
     .rename_i v s OS
      split at h
      .rename_i FU hst
       have hlt:rest'.length<n:=by grind
       simp only[CI];rw[Jo,Jo,Jo];refine tG hs (fC 0 o rfl) (fC 1 o1 rfl) (fC 2 o2 rfl) hf OS hst λa' w' g' q1 q2 q3 q4=>?_
       exact ih rest'.length hlt (i+3) rest' FU st' a' w' g' rfl (by grind) q1 h λa'' w'' g'' p1 p2 p3 p4=>hQ a'' w'' g'' p1 (p2.trans q2) (q3.trans p3) (p4.trans q4)
      grind
     grind
    grind
   grind
end
end Go.Tel
