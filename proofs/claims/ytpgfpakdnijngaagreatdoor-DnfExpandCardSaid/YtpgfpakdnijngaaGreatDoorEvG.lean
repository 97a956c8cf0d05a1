/-
  A region with a drawn order: one operation more while a row is open; all of them.
-/
import Derived.Test.YtpgfpakdnijngaaGreatDoorEvF
set_option linter.all false
namespace Go.Tel
section
variable {rd:Option Nat} {E:Env} {L:A8} {cf:Cr} {ops:Array Oper} {p:Bb} {K N:Nat} {ρ0 ρf:Nat->AV} {σ:Nat->AM} {ds:List Deferred} {g0:AH} {w0:World} {Q:Exit->Act->World->Prop}
theorem Open.more {P:Program} {q:AV} {X:Prop} {kf:JB} {Dj:Prop} {a:Act} {g:AH} {w wv:World} {d:Option Tmp} {v:Value} (h:Open P q X kf Dj a g w wv)
  (hd:d≠some kf.d) (hp:d≠some kf.p) (hi:∀t,kf.ix=.tmp t->d≠some t) (hv:∀t,kf.v=.tmp t->d≠some t):Open P q X kf Dj (a.put d v) g w wv:=by
 obtain⟨b,cap,len,vz,e,fz,xv,kk,elem,ti,h1,h2,h3,h4,h5,h6,h7,h8,h9,h10,h11,h12,h13⟩:=h;refine⟨b,cap,len,vz,e,fz,xv,kk,elem,ti,h1,h2,h3,?_,?_,?_,h7,h8,h9,h10,h11,h12,λq=>?_⟩
 all_goals grind[EM]
theorem nX (R:Ue E L cf ops p K N ρ0 ρf σ) {D:Nat->Prop} (hD:Down ops D) {a:Act} {k:Nat} {g:AH} {w wv:World} (h:Core E L ops p K N ρ0 ρf σ ds g0 w0 D a k g wv)
  {i r j x:Nat} {o o1 o2:Oper} {kf:JB} (hi:ops[i]?=some o) (HQ:p.cls[i]?=some (.fa r j x)) (h1:ops[j]?=some o1) (h2:ops[x]?=some o2) (hf:fused o o1 o2=some kf) (nW:D i) (hnx:¬ D x) (hsh:Mn ops p D i)
  (hop:Open E.P (ρf kf.d) (Qx E L ops i j x=true) kf (D j) a g w wv)
  {m:Nat} {om:Oper} (hm:ops[m]?=some om) (hn:¬ D m) (hr:∀e∈om.after,Region.binds .any e=true->D e.on) :
  wpOpIn (FW rd) 0 E.P ops Q m (J E L ops p K N ρ0 ρf σ ds g0 w0 (λi=>D i\/i=m)) a w:=by
 obtain⟨o1',o2',kf',ZD,h2',c1,c2,hf',u1,u2,u3,p1,p2,p3,v0,OJ,hvd,hvp⟩:=R.rT i o r j x hi HQ;rw[h1] at ZD; simp at ZD; subst ZD;rw[h2] at h2'; simp at h2'; subst h2';rw[hf] at hf'; simp at hf'; subst hf';obtain⟨f1,f2,f3,f4,f5,f6,f7,f8,f9,f10,f11⟩:=F5 hf;have hmi:m≠i:=λe=>hn (e ▸ nW)
 have Em:∀(i:Nat) o ts d id,ops[i]?=some o->p.cls[i]?=some (.h ts)->o.dst=some d->IK (ρf d)=some id->¬ D i->i≠m->g.C9 id:=
  λi o ts d id ho HQ hd hid hnD _=>h.C9 i o ts d id ho HQ hd hid hnD
 have hxm:x≠m->¬ (D x\/x=m):=λe q=>q.elim hnx e
 by_cases hmj:m=j
 .subst hmj
  rw[h1] at hm; simp at hm; subst hm;obtain⟨b,cap,len,vz,e,fz,xv,kk,elem,ti,k1,k2,k3,k4,k5,k6,k7,k8,k9,k10,rj,k12,k13⟩:=hop;have hrun:(execOp a.eval o1).run E.P w=.ok (.value (.pointer (some ⟨b,len*ti.size,none⟩))) w:=by simp[*,execOp,Instr.indexAt,asIntOf,run_underlying,run_sizeOf,DI]
  have hxj:x≠m:=λe=>by grind
  have hs:Mn ops p (λi=>D i\/i=m) i:=Mn.more h1 (λ_ _ _ e=>by grind) hsh;refine MV h1 f8.2.1 hrun ⟨k,g,wv,h.push R h1 (.inl ⟨jW c1,rfl⟩) h.ext (λ_ _ q=>q) h.inv (λd hd=>?_) Em,.inr ?_⟩
  .rw[f4] at hd; simp at hd; subst hd; rw[hvp]; exact .Gw
  .refine⟨i,o,r,m,x,o1,o2,kf,hi,HQ,h1,h2,hf,.inl nW,hxm hxj,hs,b,cap,len,vz,e,fz,xv,kk,elem,ti,k1,k2,k3,?_,?_,?_,k7,k8,k9,k10,rj,k12,λ_=>?_⟩
   .grind[EM]
   .rw[f4,EM (λt ht hdt=>?_)]
    .omega
    .simp at hdt
     subst hdt;have:kf.p∈F4 o1:=DQ.2 (by grind[Op.operands]);rcases R.read m m o1 o1 kf.p h1 h1 f4 (Ib _ this) with ⟨q1,_⟩|⟨_,q2⟩
     .grind[has]
     .exact absurd (R.rV m o1 m h1 q2) (Nx _)
   .grind[EM]
   .rw[f4]; exact JK (by rw[h.size]; exact R.rU m o1 kf.p h1 f4)
 by_cases hmx:m=x
 .subst hmx
  rw[h2] at hm; simp at hm; subst hm;have hDj:D j:=R.K2 hD m o2 j h2 hr p2;obtain⟨b,cap,len,vz,e,fz,xv,kk,elem,ti,k1,k2,k3,k4,k5,k6,k7,k8,k9,k10,rj,k12,k13⟩:=hop;have hpt:=k13 hDj;have hwb:w.heap[b]?=some (.cells ⟨vz⟩ e fz):=by grind[BX]
  have hrun:(execOp a.eval o2).run E.P w=.ok .skip wv:=by
   obtain⟨dst,op,type,pos,after,guard⟩:=o2;simp only at f5;subst f5;have hst:=FH (P:=E.P) (b:=b) (o:=len*ti.size) (e:=e) rj.2 xv.cells.toList 0 w vz k8 hwb (by grind)
   grind[EG,Kz,execOp,Instr.storeAt,Instr.sureAddr,storeVar,Sem.run_bind,Sem.run_pure,Result.andThen_ok,run_sizeOf]
  have hs:∀i',Mn ops p (λi=>D i\/i=m) i':=by
   intro i' q o' r' j' x' ho' KQ hi' hne;rcases hi' with hi' | hi'
   .by_cases e:q=i
    .grind
    .exact .inl (hsh q o' r' j' x' ho' KQ hi' e)
   grind
  refine KP h2 (by grind[Region.wanted]) ?_;exact Iq hrun ⟨k,g,wv,h.push R h2 (.inl ⟨jX c2,rfl⟩) h.ext (λ_ _ q=>q) h.inv (λd hd=>by grind) Em,.inl ⟨rfl,hs⟩⟩
 obtain⟨hw1,hw2⟩:=R.win i o r j x hi HQ m om hm hmi hmj hmx;have AEQ:m∉Dr p i:=λq=>hn (R.Lj hD hi nW q)
 have rm:Xc ops p m=true:=by
  rcases hw1 with q|q|q
  .grind
  .exact absurd (R.K2 hD m om x hm hr q) hnx
  omega
 have dd:om.dst≠some kf.d:=λe=>hmi (R.dst m i om o kf.d hm hi e f2)
 have dp:om.dst≠some kf.p:=λe=>hmj (R.dst m j om o1 kf.p hm h1 e f4)
 have di:∀t,kf.ix=.tmp t->om.dst≠some t:=λt ht e=>AEQ (hw2 t e (.inl (by grind[Dw,DQ,Op.operands])))
 have dv:∀t,kf.v=.tmp t->om.dst≠some t:=λt ht e=>AEQ (hw2 t e (.inr (by grind[Dw,DQ,Op.operands])))
 have hag:=R.agree hD hm hn hr;have ACJ:Open E.P (ρf kf.d) (Qx E L ops i j x=true) kf (D j\/j=m) a g w wv:=by grind
 unfold Xc at rm;split at rm
 .rename_i o' ts ho' hc
  rw[hm] at ho'; simp at ho'; subst ho';have hs:Mn ops p (λi=>D i\/i=m) i:=Mn.more hm (λ_ _ _ e=>by grind) hsh;obtain⟨v,hq,hv⟩:=R.qF m om ts k hm hc (h.rY R hD hm hn hr (.inl hc));rw[<-Ip hag] at hq;have AOO:(∃x,om.op=.nilCheck x)\/(∃t x f,om.op=.fieldAddr t x f)\/(∃x,om.op=.move x):=by grind
  unfold FA at hq;split at hq
  .rename_i hg
   obtain⟨v',hrun,hV⟩:=rS AOO h.inv h.tmps hq;refine KP hm (DG h.tmps hg) ?_
   exact Jq (hrun w) ⟨k,g,wv,h.push R hm (.inl ⟨PO hc,rfl⟩) h.ext (λ_ _ q=>q) h.inv (λd hd=>by grind) Em,
    .inr ⟨i,o,r,j,x,o1,o2,kf,hi,HQ,h1,h2,hf,.inl nW,hxm (F0 hmx),hs,ACJ.more dd dp di dv⟩⟩
  .rename_i hg
   simp only[BG] at hq;subst hq;refine RZ hm (DG h.tmps hg) ?_
   exact⟨k,g,wv,h.push R hm (.inl ⟨PO hc,rfl⟩) h.ext (λ_ _ q=>q) h.inv (λd hd=>by grind[V.undef]) Em,
    .inr ⟨i,o,r,j,x,o1,o2,kf,hi,HQ,h1,h2,hf,.inl nW,hxm (F0 hmx),hs,ACJ.more dd dp di dv⟩⟩
  grind
 .rename_i o' r' ho' hc
  rw[hm] at ho'; simp at ho'; subst ho';have hs:Mn ops p (λi=>D i\/i=m) i:=Mn.more hm (λ_ _ _ e=>by grind) hsh;have hk:=h.now R hD hm hn hr (J5 hc);subst hk;obtain⟨v,hact,hv⟩:=R.wF m om r' hm hc;rw[<-NH hag] at hact;unfold NA at hact;split at hact
  .rename_i hg
   split at rm
   .rename_i t y z e
    rw[OA] at hact;unfold nM at hact;rw[e] at hact;simp only at hact;obtain⟨dst,op,type,pos,after,guard⟩:=om;simp only at e;subst e;simp only[Cc] at hact;split at hact
    .rename_i s1 hst
     simp only[BG,BK] at hact;obtain⟨rfl,rfl⟩:=hact;obtain⟨id,b',vs',e',⟨off',hptr⟩,hb',he1,hi1,AVm⟩:=eD h.inv (Aj h.tmps y) (Aj h.tmps z) hst;obtain⟨b,cap,len,vz,e,fz,xv,kk,elem,ti,k1,k2,k3,k4,k5,k6,k7,k8,k9,k10,rj,k12,k13⟩:=ACJ
     have ZB:b'≠b:=by
      intro q;rcases k12 with ⟨tk,tl,k12,AVn⟩|⟨FB,AVo,n0,sz0,hq0,hb0,hX⟩
      .exact h.inv.DE id b' tk tl hb' k12 (by rw[AVn,q])
      .subst q
       have hid:=h.inv.Ez id FB b' hb' hb0;refine R.mu i o r j x kf.d FB AVo n0 sz0 hX hi HQ f2 hq0 m _ r' t y z hm hc rfl id off' ?_ hid
       grind[Jo,DQ,Op.operands]
     have hrun:=AVm w (by grind[BX]);refine KP hm (DG h.tmps hg) ?_;refine Iq (w':=BH w b' vs' e') (by grind[execOp,Sem.run_bind,Result.andThen_ok,Sem.run_pure]) ?_
     refine⟨r'+1,g,BH wv b' vs' e',h.push R hm (.inr ⟨J5 hc,rfl⟩) (h.ext.trans he1) (λ_ _ q=>q.mono he1) hi1 (λd hd=>by grind[V.undef]) Em,
      .inr ⟨i,o,r,j,x,o1,o2,kf,hi,HQ,h1,h2,hf,.inl nW,hxm (F0 hmx),hs,?_⟩⟩
     refine Open.more ⟨b,cap,len,vz,e,fz,xv,kk,elem,ti,k1,k2,k3,k4,k5,k6,k7,k8,?_,?_,rj,k12,k13⟩ dd dp di dv
     all_goals grind[BX,Xj]
    grind
   grind
  .rename_i hg
   simp only[BG,BK] at hact;obtain⟨rfl,hst⟩:=hact;refine RZ hm (DG h.tmps hg) ?_
   exact⟨r'+1,g,wv,h.push R hm (.inr ⟨J5 hc,rfl⟩) h.ext (λ_ _ q=>q) (hst ▸ h.inv) (λd hd=>by grind[V.undef]) Em,
    .inr ⟨i,o,r,j,x,o1,o2,kf,hi,HQ,h1,h2,hf,.inl nW,hxm (F0 hmx),hs,ACJ.more dd dp di dv⟩⟩
  grind
 grind
theorem rq (R:Ue E L cf ops p K N ρ0 ρf σ) (RX:HX E L cf) {D:Nat->Prop} (hD:Down ops D) {a:Act} {w:World}
  (hnp:∀(i:Nat) o ts d id,ops[i]?=some o->p.cls[i]?=some (.h ts)->o.dst=some d->IK (ρf d)=some id->¬ g0.C9 id) (h:J E L ops p K N ρ0 ρf σ ds g0 w0 D a w)
  {m:Nat} {om:Oper} (hm:ops[m]?=some om) (hn:¬ D m) (hr:∀e∈om.after,Region.binds .any e=true->D e.on) :
  wpOpIn (FW rd) 0 E.P ops Q m (J E L ops p K N ρ0 ρf σ ds g0 w0 (λi=>D i\/i=m)) a w:=by
 obtain⟨k,g,wv,AOP,⟨rfl,hs⟩|⟨i,o,r,j,x,o1,o2,kf,hi,HQ,h1,h2,hf,nW,hnx,hsh,hop⟩⟩:=h
 .grind[ZV]
 .exact nX R hD AOP hi HQ h1 h2 hf nW hnx hsh hop hm hn hr
def Fi (listed:Array Bool) (i:Nat):Prop:=listed.getD i false=true
theorem Fi.set {listed:Array Bool} {m:Nat} (hm:m<listed.size):Fi (listed.setIfInBounds m true)=λi=>Fi listed i\/i=m:=by
 funext i
 apply propext;unfold Fi
 by_cases h:i=m
 all_goals simp[*,F0]
theorem ru {n m:Nat} {q q':Nat->Bool} (hm:m<n) (h1:∀i,q' i=true->q i=true) (h2:q m=true) (h3:q' m=false):(List.range n).countP q'<(List.range n).countP q:=by
 induction n with
 | zero=>omega
 | succ n ih=>
  rw[List.range_succ,RL,RL];have hle:(List.range n).countP q'<=(List.range n).countP q:=List.countP_mono_left λi _=>h1 i
  grind
theorem rz (R:Ue E L cf ops p K N ρ0 ρf σ) (RX:HX E L cf)
  (hnp:∀(i:Nat) o ts d id,ops[i]?=some o->p.cls[i]?=some (.h ts)->o.dst=some d->IK (ρf d)=some id->¬ g0.C9 id)
  (hQ:∀D a w,(∀i,i<ops.size->D i)->J E L ops p K N ρ0 ρf σ ds g0 w0 D a w->Q .normal a w) :
  ∀(fuel:Nat) (listed:Array Bool) (a:Act) (w:World),listed.size=ops.size->Down ops (Fi listed)->J E L ops p K N ρ0 ρf σ ds g0 w0 (Fi listed) a w ->
   (List.range ops.size).countP (λi=>!(listed.getD i false))<=fuel->wpAnyIn (FW rd) 0 E.P .any ops Q fuel listed a w:=by
 have done:∀(listed:Array Bool) (a:Act) (w:World),listed.size=ops.size->J E L ops p K N ρ0 ρf σ ds g0 w0 (Fi listed) a w->Region.ready .any ops listed=[]->Q .normal a w:=by
  intro listed a w hsz hJ hrd;refine hQ (Fi listed) a w ?_ hJ;intro i
  induction i using Nat.strongRecOn with
  | ind i ih=>
   intro hi;rcases Classical.em (Fi listed i) with x|x
   .exact x
   .exfalso
    have:i∈Region.ready .any ops listed:=mem_ready.2 ⟨by grind[Fi],ops[i],by simp,λe he hb=>by
      have:=R.ACC i ops[i] e (by simp) he hb;exact ih e.on this (by omega)⟩
    grind
 intro fuel
 induction fuel with
 | zero=>
  intro listed a w hsz hD hJ hc
  have hrd:Region.ready .any ops listed=[]:=by
   apply List.eq_nil_iff_forall_not_mem.2
   grind[mem_ready,List.countP_eq_zero]
  exact⟨hrd,done listed a w hsz hJ hrd⟩
 | succ fuel ih=>
  intro listed a w hsz hD hJ hc;refine⟨done listed a w hsz hJ,λm hmr=>?_⟩;obtain⟨h0,om,hm,hall⟩:=mem_ready.1 hmr;have hlt:=Cn hm;have AOQ:m<listed.size:=by omega
  have h0':listed.getD m false=false:=by grind
  have hn:¬ Fi listed m:=by grind[Fi]
  refine wpOpIn_mono (λa' w' hJ'=>?_) (rq R RX hD hnp hJ hm hn hall);rw[<-Fi.set AOQ] at hJ';refine ih _ a' w' (by grind) ?_ hJ' ?_
  .rw[Fi.set AOQ]
   intro i o e ho hi he hb;rcases hi with hi|rfl
   .exact .inl (hD i o e ho hi he hb)
   .rw[hm] at ho; simp at ho; subst ho
    exact .inl (hall e he hb)
  .have:=ru (n:=ops.size) (m:=m) (q:=λi=>!(listed.getD i false)) (q':=λi=>!((listed.setIfInBounds m true).getD i false)) hlt (λi hi=>by
    have hne:i≠m:=λe=>by simp_all
    simp_all[F0]) (by grind) (by simp[*])
   omega
theorem eE (R:Ue E L cf ops p K N ρ0 ρf σ) (RX:HX E L cf) (eF:E.P.follows .mixedOrders=true) {a:Act} {w:World} {g g1:AH} {id:Nat}
  (hnp:∀(i:Nat) o ts d id,ops[i]?=some o->p.cls[i]?=some (.h ts)->o.dst=some d->IK (ρf d)=some id->¬ g.C9 id)
  (h1:Ext L g w g1 w) (hI:Inv E g1 w (σ 0)) (hsz:a.tmps.size=N) (hρ:∀t,V g1 w (ρ0 t) (a.tmps.getD t undef))
  (hpd:∀(i:Nat) o ts d id,ops[i]?=some o->p.cls[i]?=some (.h ts)->o.dst=some d->IK (ρf d)=some id->g1.C9 id)
  (hQ:∀a' w' g',a'.tmps.size=N->a'.defers=a.defers->Ext L g w g' w'->Inv E g' w' (σ K)->(∀t,V g' w' (ρf t) (a'.tmps.getD t undef))->Q .normal a' w') :
  (Code.region id ops true).wpIn (FW rd) 0 E.P Q a w:=by
 obtain⟨e1,i1⟩:=hI.drew (L:=L);refine wpIn_region_any eF (rz (ds:=a.defers) (g0:=g) (w0:=w) R RX hnp ?_ ops.size _ a (BU w) (by simp) ?_ ?_ ?_)
 .rintro D a' w' hall ⟨k,g',wv,hc,AVp⟩
  have hK:k=K:=by
   have:=hc.kK;rcases FR k K with x|x
   .obtain⟨i,o,ho,hr⟩:=R.AIs k x
    have:=(hc.time i o k ho hr).1 (hall i (Cn ho));omega
   omega
  subst hK;rcases AVp with ⟨rfl,_⟩|⟨i,o,r,j,x,o1,o2,kf,_,_,_,h2,_,_,hnx,_⟩
  .refine hQ a' w' g' hc.size hc.defers hc.ext hc.inv λt=>?_
   have:=hc.tmps t
   by_cases hw:∃(i:Nat) (o:Oper),ops[i]?=some o/\o.dst=some t
   .grind[SB]
   .rw[R.SC λi o ho hd=>hw ⟨i,o,ho,hd⟩] at this
    omega
  grind
 .intro i o e ho hi
  simp_all[Cn,Fi]
 .have hnone:∀i,¬ Fi (Array.replicate ops.size false) i:=λi hi=>by
   unfold Fi at hi
   by_cases hlt:i<ops.size
   all_goals simp_all
  refine⟨0,g1,BU w,⟨AI _,λi o r ho hr=>⟨λq=>absurd q (hnone i),λq=>by omega⟩,hsz,rfl,h1.trans e1,i1,λt=>?_,λi o ts d id ho hc hd hid _=>hpd i o ts d id ho hc hd hid⟩,
   .inl ⟨rfl,λi i' o' r' j' x' ho' KQ hi' _=>absurd hi' (hnone i')⟩⟩
  rw[RY λi o _ _=>hnone i];exact(hρ t).mono e1
 grind[List.countP_le_length]
end
theorem OK {l:List Nat} {x:Nat}:has l x=true<->x∈l:=by grind[has,Nat.eq_of_beq_eq_true,Nat.beq_refl]
theorem KR {l:List Nat} {x:Nat}:has l x=false<->x∉l:=by grind[OK]
theorem Ll {l:List (Nat×Nat)} {i k:Nat} (h:MU l i k=true):(i,k)∈l:=by grind[MU,Nat.eq_of_beq_eq_true]
theorem Gp {n:Nat} {f:Nat->Bool} (h:(List.range n).all f=true) {i:Nat} (hi:i<n):f i=true:=Cz.1 h i (by grind)
theorem DX {ops:Array Oper} {i d:Nat}:d∈Fh ops i<->∃o,ops[i]?=some o/\o.dst=some d:=by grind[Fh,jU]
theorem F6 {st st':St} {d:Option Nat} {v:AV} (h:KF st d v=some st') :
  st'.N=st.N/\st'.s=st.s/\(∀e,d=some e->e<st.N/\st'.ρ e=v)/\∀t,d≠some t->st'.ρ t=st.ρ t:=by
 unfold KF at h;split at h
 .grind
 .rename_i e
  cases hb:Nat.blt e st.N with
  | false=>grind
  | true=>
   simp[hb] at h; subst h;refine⟨rfl,rfl,λe' he=>?_,λt ht=>?_⟩
   .simp_all[upd]
   grind[Nat.eq_of_beq_eq_true,upd]
theorem KS {E:Env} {ρ:Nat->AV} {o:Oper} {cs:List AV} {mk:Nat->AV} (h:hcells E ρ o=some (cs,mk)):∀id,IK (mk id)=some id:=by
 obtain⟨dst,op,type,pos,after,guard⟩:=o;cases op with
 | alloc t=>
  simp only[hcells] at h;split at h
  .cases hbz:E.bz t with
   | true=>grind
   | false=>
   rw[hbz] at h;simp only[AG,BG,BK] at h;obtain⟨_,rfl⟩:=h;intro id; rfl
  grind
 | makeSlice t l c=>
  simp only[hcells] at h;split at h
  .split at h
   .split at h
    .simp only[BG,BK] at h
     obtain⟨_,rfl⟩:=h;intro id; rfl
    grind
   grind
  grind
 | _=>grind[hcells]
def SG (ops:Array Oper) (p:Bb) (ρ0 ρf ρ:Nat->AV) (i:Nat):Prop:=∀t∈nT ops p i,ρ t=FV p.GQ ρ0 ρf i t
theorem PR {ops:Array Oper} {p:Bb} {ρ0 ρf:Nat->AV} {done:List Nat} {i:Nat} {rest:List Nat} {st:St} (ho:Hs ops p done (i::rest)=true) (h0:∀t,t∉done->st.ρ t=ρ0 t)
  (hf:∀t,(∀j∈i::rest,t∉HL ops p j)->ρf t=st.ρ t):SG ops p ρ0 ρf st.ρ i:=by
 intro t ht
 grind[Hs,FV,OK]
theorem SH {ops:Array Oper} {p:Bb} {done:List Nat} {i:Nat} {rest:List Nat} (ho:Hs ops p done (i::rest)=true) :
  Hs ops p (HL ops p i++done) rest=true/\∀t∈HL ops p i,∀j∈rest,t∉HL ops p j:=by grind[Hs,OK]
theorem K3 {ops:Array Oper} {p:Bb} {i:Nat} {o:Oper} (hi:ops[i]?=some o) (hc:(∃ts,p.cls[i]?=some (.q ts))\/(∃ts,p.cls[i]?=some (.h ts))\/(∃r,p.cls[i]?=some (.w r))) :
  nT ops p i=Gn ops o++F4 o/\HL ops p i=Fh ops i:=by grind[nT,HL,Dw]
section
variable {rd:Option Nat} {E:Env} {L:A8} {cf:Cr} {ops:Array Oper} {p:Bb} {ρ0:Nat->AV}
structure sA (E:Env) (L:A8) (cf:Cr) (ops:Array Oper) (p:Bb) (ρ0 ρf:Nat->AV) (N:Nat) (σ:Nat->AM) (i:Nat):Prop where
 q:∀ts,p.cls[i]?=some (.q ts)->∃o k v,ops[i]?=some o/\FA E L ops (FV p.GQ ρ0 ρf i) (σ k) o=some v/\(∀d,o.dst=some d->d<N/\ρf d=v)/\∀t∈ts,t=k\/NF ops i=true\/(i,t)∈p.XG
 w:∀r,p.cls[i]?=some (.w r)->∃o v,ops[i]?=some o/\NA E L cf ops (FV p.GQ ρ0 ρf i) (σ r) o=some (v,σ (r+1))/\∀d,o.dst=some d->d<N/\ρf d=v
 fa:∀r j x,p.cls[i]?=some (.fa r j x)->∃o o1 o2 k v ρ,ops[i]?=some o/\ops[j]?=some o1/\ops[x]?=some o2/\fused o o1 o2=some k/\KH E L ρ (σ r) k=some (v,σ (r+1))/\SG ops p ρ0 ρf ρ i /\
  k.d<N/\k.p<N/\ρf k.d=v/\ρf k.p=.Gw
 h:∀ts,p.cls[i]?≠some (.h ts)
def IX (acc:List AM) (k:Nat):AM:=(acc.reverse[k]?).getD ⟨[],[]⟩
theorem MW {new acc:List AM} {k:Nat} (h:acc.length=k+1):IX (new++acc) k=(acc.head?).getD ⟨[],[]⟩:=by
 unfold IX;rw[List.reverse_append,Ci (by grind)];cases acc with
 | nil=>rfl
 | cons s acc=>
  grind
theorem eG {K:Nat} {QX:St} {Jh:List AM}:∀(rest:List Nat) (done:List Nat) (st:St) (acc:List AM) (k:Nat),Hs ops p done rest=true->(∀t,t∉done->st.ρ t=ρ0 t) ->
  J4 ops p rest k=some K->acc.length=k+1->acc.head?=some st.s->HB E L cf ops p.cls rest st acc=some (QX,Jh) ->
  QX.N=st.N/\(∀t,(∀j∈rest,t∉HL ops p j)->QX.ρ t=st.ρ t)/\(∃new,Jh=new++acc)/\Jh.length=K+1/\Jh.head?=some QX.s/\k<=K /\
  (∀i∈rest,sA E L cf ops p ρ0 QX.ρ st.N (IX Jh) i)/\(∀i∈rest,∀r,E1 p i=some r->r<K)/\(∀r,k<=r->r<K->∃i∈rest,E1 p i=some r):=by
 intro rest
 induction rest with
 | nil=>
  intro done st acc k ho h0 hr hl hh h
  simp_all[HB,J4]
 | cons i rest ih=>
  intro done st acc k ho h0 hr hl hh h;obtain⟨ho',Ji⟩:=SH ho
  have tail:∀(st':St) (acc':List AM) (k':Nat),st'.N=st.N->(∀t,t∉HL ops p i->st'.ρ t=st.ρ t)->J4 ops p rest k'=some K->acc'.length=k'+1->acc'.head?=some st'.s->(∃n,acc'=n++acc) ->
    HB E L cf ops p.cls rest st' acc'=some (QX,Jh)->((E1 p i=none/\k'=k)\/(E1 p i=some k/\k'=k+1)) ->
    ((∀t,(∀j∈rest,t∉HL ops p j)->QX.ρ t=st'.ρ t)->SG ops p ρ0 QX.ρ st.ρ i->IX Jh k=st.s->IX Jh k'=st'.s->sA E L cf ops p ρ0 QX.ρ st.N (IX Jh) i) ->
    QX.N=st.N/\(∀t,(∀j∈i::rest,t∉HL ops p j)->QX.ρ t=st.ρ t)/\(∃new,Jh=new++acc)/\Jh.length=K+1/\Jh.head?=some QX.s/\k<=K /\
    (∀j∈i::rest,sA E L cf ops p ρ0 QX.ρ st.N (IX Jh) j)/\(∀j∈i::rest,∀r,E1 p j=some r->r<K)/\(∀r,k<=r->r<K->∃j∈i::rest,E1 p j=some r):=by
   intro st' acc' k' hN hfr hr' hl' hh' hacc hrun ZT AOR;have h0':∀t,t∉HL ops p i++done->st'.ρ t=ρ0 t:=λt ht=>by grind
   obtain⟨t1,t2,⟨new,t3⟩,t4,t5,t6,t7,t8,t9⟩:=ih _ st' acc' k' ho' h0' hr' hl' hh' hrun
   have hframe:∀t,(∀j∈i::rest,t∉HL ops p j)->QX.ρ t=st.ρ t:=λt ht=>by
    rw[t2 t (λj hj=>ht j (E5 _ hj)),hfr t (ht i (Kn ..))]
   obtain⟨n,rfl⟩:=hacc;have US:IX Jh k=st.s:=by grind[MW]
   have hk2:IX Jh k'=st'.s:=by grind[MW]
   have hi:=AOR t2 (PR ho h0 hframe) US hk2;refine⟨t1.trans hN,hframe,⟨new++n,by rw[t3,Di]⟩,t4,t5,by omega,λj hj=>?_,λj hj r qc=>?_,λr h1 h2=>?_⟩
   all_goals grind
  simp only[HB] at h;simp only[J4] at hr;split at h
  .rename_i o ts Ra HQ
   rw[HQ] at hr;simp only at hr;obtain⟨r1,r2⟩:=K3 Ra (.inl ⟨ts,HQ⟩);cases hall:(ts.all λt=>Nat.beq t k||NF ops i||MU p.XG i t) with
   | false=>grind
   | true=>
    rw[hall] at hr;simp only[AN] at hr;split at h
    .rename_i v hq
     split at h
     .rename_i st' hp
      obtain⟨a1,a2,a3,a4⟩:=F6 hp;refine tail st' acc k a1 (λt ht=>a4 t λe=>ht (by grind[DX])) hr hl (by grind) ⟨[],rfl⟩ h (.inl ⟨PO HQ,rfl⟩) λhfr hag hs1 hs2=>?_
      refine⟨λts' h'=>?_,λr h'=>by grind,λr j x h'=>by grind,λts' h'=>by grind⟩;rw[HQ] at h'; simp at h'; subst h';refine⟨o,k,v,Ra,?_,λd hd=>⟨(a3 d hd).1,?_⟩,λt ht=>?_⟩
      .rw[hs1,<-Ip (λt ht=>hag t (by grind))]; omega
      .grind[DX]
      grind[Nat.eq_of_beq_eq_true,Ll]
     grind
    grind
  .rename_i o r Ra HQ
   rw[HQ] at hr;simp only at hr;obtain⟨r1,r2⟩:=K3 Ra (.inr (.inr ⟨r,HQ⟩));cases ZT:Nat.beq r k with
   | false=>grind
   | true=>
    rw[ZT] at hr;simp only[AN] at hr;have ZT:=Bz ZT;subst ZT;split at h
    .rename_i v s' hact
     split at h
     .rename_i st' hp
      obtain⟨a1,a2,a3,a4⟩:=F6 hp;refine tail st' (s'::acc) (r+1) a1 (λt ht=>a4 t λe=>ht (by grind[DX])) hr (by grind) (by grind) ⟨[s'],rfl⟩ h (.inr ⟨J5 HQ,rfl⟩) λhfr hag hs1 hs2=>?_
      refine⟨λts' h'=>by grind,λr' h'=>?_,λr j x h'=>by grind,λts' h'=>by grind⟩;rw[HQ] at h'; simp at h'; subst h';refine⟨o,v,Ra,?_,λd hd=>⟨(a3 d hd).1,?_⟩⟩
      .rw[hs1,hs2,a2,<-NH (λt ht=>hag t (by grind))]; omega
      grind[DX]
     grind
    grind
  .rename_i o r j x Ra HQ
   rw[HQ] at hr;simp only at hr;cases ZT:Nat.beq r k with
   | false=>grind
   | true=>
    rw[ZT] at hr;simp only[AN] at hr;have ZT:=Bz ZT;subst ZT;split at h
    .rename_i o1 o2 rW hox
     split at h
     .rename_i kf hf
      obtain⟨f1,f2,f3,f4,f5,f6,f7,f8,f9,f10,f11⟩:=F5 hf;have hew:HL ops p i=[kf.d,kf.p]:=by grind[HL,Fh,jU]
      split at h
      .rename_i v s' OJ
       split at h
       .rename_i st' hp
        unfold J2 at hp;split at hp
        .rename_i GM hp1
         obtain⟨a1,a2,a3,a4⟩:=F6 hp1;obtain⟨b1,b2,b3,b4⟩:=F6 hp;obtain⟨a31,a32⟩:=a3 kf.d rfl;obtain⟨b31,b32⟩:=b3 kf.p rfl;refine tail st' (s'::acc) (r+1) (b1.trans a1) (λt ht=>?_) hr (by grind) (by grind) ⟨[s'],rfl⟩ h (.inr ⟨Jr HQ,rfl⟩) λhfr hag hs1 hs2=>?_
         .rw[hew] at ht
          simp at ht;rw[b4 t (λe=>ht.2 (by grind)),a4 t (λe=>ht.1 (by grind))]
         .refine⟨λts' h'=>by grind,λr' h'=>by grind,λr' j' x' h'=>?_,λts' h'=>by grind⟩
          rw[HQ] at h'; simp at h'; obtain⟨rfl,rfl,rfl⟩:=h';refine⟨o,o1,o2,kf,v,st.ρ,Ra,rW,hox,hf,?_,hag,a31,by grind,?_,?_⟩
          .grind
          .grind
          grind
        grind
       grind
      grind
     grind
    grind
  .rename_i o Ra HQ
   rw[HQ] at hr
   exact tail st acc k rfl (λ_ _=>rfl) hr hl hh ⟨[],rfl⟩ h (.inl ⟨jW HQ,rfl⟩) λ_ _ _ _=>
    ⟨λts' h'=>by grind,λr' h'=>by grind,λr' j' x' h'=>by grind,λts' h'=>by grind⟩
  .rename_i o Ra HQ
   rw[HQ] at hr
   exact tail st acc k rfl (λ_ _=>rfl) hr hl hh ⟨[],rfl⟩ h (.inl ⟨jX HQ,rfl⟩) λ_ _ _ _=>
    ⟨λts' h'=>by grind,λr' h'=>by grind,λr' j' x' h'=>by grind,λts' h'=>by grind⟩
  grind
structure AIx (E:Env) (L:A8) (ops:Array Oper) (p:Bb) (ρ0 ρf:Nat->AV) (N lo hi:Nat) (i:Nat):Prop where
 q:∀ts,p.cls[i]?=some (.q ts)->∃o s v,ops[i]?=some o/\FA E L ops (FV p.GQ ρ0 ρf i) s o=some v/\(∀d,o.dst=some d->d<N/\ρf d=v)/\∀t∈ts,NF ops i=true\/(i,t)∈p.XG
 h:∀ts,p.cls[i]?=some (.h ts)->∃o cs mk id,ops[i]?=some o/\hcells E (FV p.GQ ρ0 ρf i) o=some (cs,mk)/\(∀d,o.dst=some d->d<N/\ρf d=mk id)/\lo<=id/\id<hi/\∀t∈ts,(i,t)∈p.XG
 n:E1 p i=none/\p.cls[i]?≠some .fj/\p.cls[i]?≠some .fx
theorem QY {GM:St} {rest:List Nat} {ρf:Nat->AV} (nY:∀t,(∀j∈rest,t∉HL ops p j)->ρf t=GM.ρ t):∀(first:List Nat) (done:List Nat) (st:St),Hs ops p done (first++rest)=true ->
  (∀t,t∉done->st.ρ t=ρ0 t)->RV ops p first=true->JE E L ops p.cls first st=some GM ->
  ∃hs done',GM.N=st.N/\(∀t,(∀j∈first,t∉HL ops p j)->GM.ρ t=st.ρ t)/\GM.s={ st.s with bs:=st.s.bs++hs }/\Hs ops p done' rest=true/\(∀t,t∉done'->GM.ρ t=ρ0 t) /\
  (∀i∈first,AIx E L ops p ρ0 ρf st.N st.s.bs.length (st.s.bs++hs).length i) /\
  (∀i j oi oj ts us d e id,i∈first->j∈first->ops[i]?=some oi->ops[j]?=some oj->p.cls[i]?=some (.h ts)->p.cls[j]?=some (.h us)->oi.dst=some d->oj.dst=some e->IK (ρf d)=some id->IK (ρf e)=some id->i=j):=by
 intro first
 induction first with
 | nil=>
  intro done st ho h0 hf h;simp[JE] at h;subst h;exact⟨[],done,rfl,λ_ _=>rfl,by simp,ho,h0,by simp,by simp⟩
 | cons i first ih=>
  intro done st ho h0 hf h;rw[Dh] at ho;obtain⟨ho',Ji⟩:=SH ho;simp only[RV,AE] at hf;simp only[JE] at h;split at h
  .rename_i o ts Ra HQ
   have hf1:=hf.1;rw[HQ] at hf1;simp only at hf1;obtain⟨r1,r2⟩:=K3 Ra (.inl ⟨ts,HQ⟩);split at h
   .rename_i v hq
    split at h
    .rename_i st' hp
     obtain⟨a1,a2,a3,a4⟩:=F6 hp;have hfr:∀t,t∉HL ops p i->st'.ρ t=st.ρ t:=λt ht=>a4 t λe=>ht (by grind[DX])
     obtain⟨hs,done',b1,b2,b3,b4,b5,b6,b7⟩:=ih _ st' ho' (λt ht=>by grind) hf.2 h
     have hframe:∀t,(∀j∈i::first,t∉HL ops p j)->GM.ρ t=st.ρ t:=λt ht=>by
      rw[b2 t (λj hj=>ht j (E5 _ hj)),hfr t (ht i (Kn ..))]
     have sB:∀t,(∀j∈first++rest,t∉HL ops p j)->ρf t=st'.ρ t:=λt ht=>by
      rw[nY t (λj hj=>ht j (Ib _ hj)),b2 t (λj hj=>ht j (List.mem_append_left _ hj))]
     have hag:SG ops p ρ0 ρf st.ρ i:=PR ho h0 λt ht=>by
      rw[sB t (λj hj=>ht j (E5 _ hj)),hfr t (ht i (Kn ..))]
     rw[a2] at b3;refine⟨hs,done',b1.trans a1,hframe,b3,b4,b5,λj hj=>?_,?_⟩
     .rcases A1.1 hj with rfl|hj
      .refine⟨λts' h'=>?_,λts' h'=>by grind,PO HQ,by grind,by grind⟩
       rw[HQ] at h'; simp at h'; subst h';refine⟨o,st.s,v,Ra,?_,λd hd=>⟨(a3 d hd).1,?_⟩,λt ht=>?_⟩
       .rw[<-Ip (λt ht=>hag t (by grind))]; omega
       .grind[DX]
       grind[Ll]
      grind
     .intro i1 j1 oi oj My us d e id hi1 hj1 e1 e2 e3 e4 e5 e6 e7 e8
      rcases A1.1 hi1 with rfl|hi1
      .grind
      .rcases A1.1 hj1 with rfl|hj1
       .grind
       .exact b7 i1 j1 oi oj My us d e id hi1 hj1 e1 e2 e3 e4 e5 e6 e7 e8
    grind
   grind
  .rename_i o ts Ra HQ
   have hf1:=hf.1;rw[HQ] at hf1;simp only at hf1;obtain⟨r1,r2⟩:=K3 Ra (.inr (.inl ⟨ts,HQ⟩));split at h
   .rename_i cs mk hq
    split at h
    .rename_i st' hp
     obtain⟨a1,a2,a3,a4⟩:=F6 hp;have hfr:∀t,t∉HL ops p i->st'.ρ t=st.ρ t:=λt ht=>a4 t λe=>ht (by grind[DX])
     obtain⟨hs,done',b1,b2,b3,b4,b5,b6,b7⟩:=ih _ st' ho' (λt ht=>by grind) hf.2 h
     have hframe:∀t,(∀j∈i::first,t∉HL ops p j)->GM.ρ t=st.ρ t:=λt ht=>by
      rw[b2 t (λj hj=>ht j (E5 _ hj)),hfr t (ht i (Kn ..))]
     have sB:∀t,(∀j∈first++rest,t∉HL ops p j)->ρf t=st'.ρ t:=λt ht=>by
      rw[nY t (λj hj=>ht j (Ib _ hj)),b2 t (λj hj=>ht j (List.mem_append_left _ hj))]
     have hag:SG ops p ρ0 ρf st.ρ i:=PR ho h0 λt ht=>by
      rw[sB t (λj hj=>ht j (E5 _ hj)),hfr t (ht i (Kn ..))]
     rw[a2] at b3;have hval:∀d,o.dst=some d->d<st.N/\ρf d=mk st.s.bs.length:=λd hd=>⟨(a3 d hd).1,by grind[DX]⟩
     have hlen:st'.s.bs.length=st.s.bs.length+1:=by grind
     have XY:∀j∈first,∀oj us e id,ops[j]?=some oj->p.cls[j]?=some (.h us)->oj.dst=some e->IK (ρf e)=some id->st.s.bs.length+1<=id:=by
      intro j hj oj us e id e2 e4 e6 e8;obtain⟨o',cs',mk',id',q1,q2,q3,q4,q5,q6⟩:=(b6 j hj).h us e4;rw[e2] at q1; simp at q1; subst q1;rw[(q3 e e6).2,KS q2] at e8
      grind
     refine⟨cs::hs,done',b1.trans a1,hframe,by grind,b4,b5,λj hj=>?_,?_⟩
     .rcases A1.1 hj with rfl|hj
      .refine⟨λts' h'=>by grind,λts' h'=>?_,rZ HQ,by grind,by grind⟩
       rw[HQ] at h'; simp at h'; subst h';refine⟨o,cs,mk,st.s.bs.length,Ra,?_,hval,Aa _,by simp,λt ht=>?_⟩
       .rw[<-OH (λt ht=>hag t (by grind))]; omega
       grind[Ll]
      .have:=b6 j hj
       rw[a1,hlen] at this;refine⟨this.q,λts' h'=>?_,this.n⟩;obtain⟨o',cs',mk',id',q1,q2,q3,q4,q5,q6⟩:=this.h ts' h';exact⟨o',cs',mk',id',q1,q2,q3,by omega,by grind,q6⟩
     .intro i1 j1 oi oj My us d e id hi1 hj1 e1 e2 e3 e4 e5 e6 e7 e8
      rcases A1.1 hi1 with rfl|hi1
      .rcases A1.1 hj1 with rfl|hj1
       .rfl
       .rw[Ra] at e1; simp at e1; subst e1
        rw[(hval d e5).2,KS hq] at e7
        grind
      .rcases A1.1 hj1 with rfl|hj1
       .rw[Ra] at e2; simp at e2; subst e2
        rw[(hval e e6).2,KS hq] at e8
        grind
       .exact b7 i1 j1 oi oj My us d e id hi1 hj1 e1 e2 e3 e4 e5 e6 e7 e8
    grind
   grind
  grind
end
theorem F7 {l:List Nat} {x:Nat} (h:has l x=true):x∈l:=OK.1 h
theorem nZ {E:Env} {L:A8} {ops:Array Oper} {cls:List dW} {GQ:List (List Nat)} {ρ0 ρf:Nat->AV} {σ:List AM}:∀(XG:List (Nat×Nat)),dY E L ops cls GQ ρ0 ρf σ XG=true->∀i k,(i,k)∈XG ->
  (∀o ts,ops[i]?=some o->cls[i]?=some (.q ts)->∃s v,σ[k]?=some s/\FA E L ops (FV GQ ρ0 ρf i) s o=some v/\∀d,o.dst=some d->ρf d=v) /\
  (∀o ts,ops[i]?=some o->cls[i]?=some (.h ts)->∃s cs mk d id,σ[k]?=some s/\hcells E (FV GQ ρ0 ρf i) o=some (cs,mk)/\o.dst=some d/\IK (ρf d)=some id/\s.bs[id]?=some cs):=by
 intro XG
 induction XG with
 | nil=>simp
 | cons q XG ih=>
  obtain⟨i',k'⟩:=q;intro h i k hm;simp only[dY,AE] at h;rcases A1.1 hm with e|hm
  .simp at e
   obtain⟨rfl,rfl⟩:=e;have h:=h.1;split at h
   .grind[PL]
   .grind[HW]
   grind
  grind
theorem Inv.sC {E:Env} {w:World}:∀(hs:List (List AV)) (g:AH) (s:AM),Inv E g w s->∃q:Nat->Prop,(∀id,g.C9 id->q id)/\(∀id,s.bs.length<=id->id<s.bs.length+hs.length->q id)/\Inv E (g.B6 q) w { s with bs:=s.bs++hs }:=by
 intro hs
 induction hs with
 | nil=>intro g s h; exact⟨g.C9,λ_ q=>q,λid a b=>by grind,by simpa using h.B6 h.Dl (λ_ q=>q) (λid b hb=>(h.LN id b hb).2.2)⟩
 | cons cs hs ih=>
  intro g s h;obtain⟨q,h1,h2,h3⟩:=ih _ _ (h.reserve cs);refine⟨q,λid hq=>h1 id (.inl hq),λid a b=>?_,by grind[AH.B6]⟩
  by_cases e:id=s.bs.length
  .exact h1 id (.inr e)
  grind
theorem ZW {acc:List AM} {k:Nat} {s:AM} (h:acc.reverse[k]?=some s):IX acc k=s:=by simp[IX,h]
theorem ZX {E:Env} {L:A8} {ρ ρ':Nat->AV} {s:AM} {k:JB} (h:∀z,z=k.x\/z=k.y\/z=k.ix\/z=k.v->Ag ρ z=Ag ρ' z):JC E L ρ' s k=JC E L ρ s k:=by simp[*,JC]
theorem ZY {E:Env} {L:A8} {ρ ρ':Nat->AV} {s:AM} {k:JB} (h:∀z,z=k.x\/z=k.y\/z=k.ix\/z=k.v->Ag ρ z=Ag ρ' z):VA E L ρ' s k=VA E L ρ s k:=by simp[*,VA]
theorem ZZ {E:Env} {L:A8} {ρ ρ':Nat->AV} {s:AM} {k:JB} (h:∀z,z=k.x\/z=k.y\/z=k.ix\/z=k.v->Ag ρ z=Ag ρ' z):KH E L ρ' s k=KH E L ρ s k:=by grind[KH,ZX,ZY]
theorem QZ {ops:Array Oper} {p:Bb} {ρ0 ρf:Nat->AV} {FB:Nat}:∀{l:List Nat},QO ops p ρ0 ρf FB l=true->∀m∈l,∀om r' t y z,ops[m]?=some om->p.cls[m]?=some (.w r')->om.op=.store t y z ->
  ∀id off',Ag (FV p.GQ ρ0 ρf m) y=.ptr id off'->id≠FB
 | [],_,m,hm=>by grind
 | n::l,h,m,hm=>by
  intro om r' t y z hom hc hop id off' hy;simp only[QO,AE] at h;rcases A1.1 hm with rfl|hm
  .have h1:=h.1
   rw[hom,hc] at h1;simp only[hop,hy,Ko] at h1;intro e
   simp_all
  .exact QZ h.2 m hm om r' t y z hom hc hop id off' hy
theorem Qa {E:Env} {L:A8} {ops:Array Oper} {p:Bb} {ρ0 ρf:Nat->AV}:∀{l:List Nat},Rx E L ops p ρ0 ρf l=true->∀i∈l,∀o r j x d FB off len sz,Qx E L ops i j x=true->ops[i]?=some o->p.cls[i]?=some (.fa r j x)->o.dst=some d->ρf d=.ref FB off len sz ->
  QO ops p ρ0 ρf FB p.rest=true
 | [],_,i,hi=>by grind
 | n::l,h,i,hi=>by
  intro o r j x d FB off len sz hX ho hc hd hr;simp only[Rx,AE] at h;rcases A1.1 hi with rfl|hi
  .grind
  .exact Qa h.2 i hi o r j x d FB off len sz hX ho hc hd hr
theorem SI {E:Env} {L:A8} {ops:Array Oper} {cls:List dW}:∀{l:List Nat},rF E L ops cls l=true->∀i∈l,∀r j x,cls[i]?=some (.fa r j x)->Qx E L ops i j x=false
 | [],_,i,hi=>by grind
 | n::l,h,i,hi=>by
  intro r j x hc;simp only[rF,AE] at h;rcases A1.1 hi with rfl|hi
  .grind
  .exact SI h.2 i hi r j x hc
theorem Za {E:Env} {L:A8} {ops:Array Oper} {p:Bb} {ρ0 ρf:Nat->AV} (h:VB E L ops p ρ0 ρf=true):∀i∈p.rest,∀o r j x d FB off len sz,Qx E L ops i j x=true->ops[i]?=some o->p.cls[i]?=some (.fa r j x)->o.dst=some d->ρf d=.ref FB off len sz ->
  QO ops p ρ0 ρf FB p.rest=true:=by grind[VB,SI,Qa]
section
variable {rd:Option Nat} {E:Env} {L:A8} {cf:Cr} {ops:Array Oper} {p:Bb}
theorem eH (RX:HX E L cf) (eF:E.P.follows .mixedOrders=true) (KT:R7 ops p=true) {g:AH} {w:World} {a:Act} {st st':St} {Q:Exit->Act->World->Prop} {id:Nat} (hI:Inv E g w st.s) (hsz:a.tmps.size=st.N)
  (hρ:∀t,V g w (st.ρ t) (a.tmps.getD t undef)) (h:XP E L cf p ops st=some st')
  (hQ:∀a' w' g',a'.tmps.size=st'.N->a'.defers=a.defers->Ext L g w g' w'->Inv E g' w' st'.s->(∀t,V g' w' (st'.ρ t) (a'.tmps.getD t undef))->st'.N=st.N->Q .normal a' w') :
  (Code.region id ops true).wpIn (FW rd) 0 E.P Q a w:=by
 unfold R7 at KT;simp only at KT;split at KT
 .simp at KT
 rename_i K hK;simp only[AE] at KT;obtain⟨⟨⟨⟨hlen,hmem⟩,hall⟩,AOU⟩,sD⟩:=KT;unfold XP at h;split at h
 .rename_i GM h1
  split at h
  .rename_i QX Jh h2
   cases hch:dY E L ops p.cls p.GQ st.ρ QX.ρ Jh.reverse p.XG with
   | false=>rw[hch] at h; simp at h
   | true=>
    cases hmc:VB E L ops p st.ρ QX.ρ with
    | false=>rw[hch,hmc] at h; simp at h
    | true=>
    rw[hch,hmc] at h;simp at h;subst h;obtain⟨_,done',_,_,_,ho',h0',_,_⟩:=QY (E:=E) (L:=L) (ρ0:=st.ρ) (ρf:=GM.ρ) (λ_ _=>rfl) p.first [] st AOU (λ_ _=>rfl) sD h1;obtain⟨r1,r2,⟨new,r3⟩,r4,r5,_,r7,r8,r9⟩:=eG (ρ0:=st.ρ) p.rest done' GM [GM.s] 0 ho' h0' hK rfl rfl h2;obtain⟨hs,_,f1,f2,f3,_,_,f6,f7⟩:=QY (E:=E) (L:=L) (ρ0:=st.ρ) (ρf:=QX.ρ) r2 p.first [] st AOU (λ_ _=>rfl) sD h1;have AOV:=nZ p.XG hch;have hin:∀(i:Nat) o,ops[i]?=some o->i∈p.first\/i∈p.rest:=λi o ho=>CG.1 (F7 (Gp hmem (Cn ho)))
    have hst:∀(i:Nat) o,ops[i]?=some o->XZ ops p i=true/\K1 ops p i=true/\AEI ops ops.size i=true/\rN ops p ops.size i=true/\Xb p ops.size i=true/\dy p ops.size K i=true/\NG ops p ops.size i=true:=λi o ho=>by
     have:=Gp hall (Cn ho);simp only[AE] at this;obtain⟨⟨⟨⟨⟨⟨a1,a2⟩,a3⟩,a4⟩,a5⟩,a6⟩,a7⟩:=this;exact⟨a1,a2,a3,a4,a5,a6,a7⟩
    have hN1:GM.N=st.N:=f1;have hNf:QX.N=st.N:=r1.trans f1;have hσ0:IX Jh 0=GM.s:=by rw[r3,MW rfl]; rfl
    have hσK:IX Jh K=QX.s:=by
     have:=MW (new:=[]) r4;rw[Cb] at this;rw[this,r5]; rfl
    have R:Ue E L cf ops p K st.N st.ρ QX.ρ (IX Jh):={
     ACC:=λi o e ho he hb=>by
      have:=(hst i o ho).1;simp only[XZ,ho,AE] at this;have:=Cz.1 this.1 e (by simpa using he);simpa[hb,Nat.blt_eq] using this
     pre:=λi o j ho hj=>by
      have:=(hst i o ho).1;simp only[XZ,ho,AE] at this;obtain⟨e,he,h'⟩:=Kq.1 (Cz.1 this.2 j hj);simp only[AE,Dk] at h';exact⟨e,by simpa using he,h'.1,h'.2.imp Bz F7⟩
     cls:=λi o ho=>by
      have:=(hst i o ho).2.1;unfold K1 at this;rw[ho] at this;cases hc:p.cls[i]? with
      | none=>rw[hc] at this; simp at this
      | some c=>exact⟨c,rfl⟩
     dst:=λi j oi oj d hi hj nV rX=>by
      have:=Gp (hst i oi hi).2.2.1 (Cn hj);simp only[Dk] at this;rcases this with q|q
      .exact(Bz q).symm
      .have:=Cz.1 q d (DX.2 ⟨oj,hj,rX⟩)
       simp only[Ko] at this;exact absurd (DX.2 ⟨oi,hi,nV⟩) (KR.1 this)
     read:=λi j oi oj d hi hj rX hd=>by
      have:=Cz.1 (Gp (hst i oi hi).2.2.2.1 (Cn hj)) d (DX.2 ⟨oj,hj,rX⟩);have hr:has (Dw ops i) d=true:=OK.2 (by simp only[Dw,hi]; exact hd);rw[hr] at this;simp only[MM,Gb] at this;cases hw:has (HO p.GQ i) d with
      | true=>
       rw[hw] at this;simp only[AN,Dk] at this;exact .inl ⟨rfl,this.imp Bz F7⟩
      | false=>
       rw[hw] at this;exact .inr ⟨rfl,F7 (by simpa using this)⟩
     rk:=λi j oi oj r r' hi hj La hrj hlt=>by
      have:=(hst i oi hi).2.2.2.2.1;unfold Xb at this;rw[La] at this;have:=Gp this (Cn hj);rw[hrj] at this;simp only[Dk,AE,Ko] at this;rcases this with q|⟨_,q⟩
      .have:=Bz q
       subst this;rw[La] at hrj; simp at hrj; omega
      .rcases q with q|q
       .have:Nat.blt r r'=true:=by grind[Nat.blt_eq]
        rw[this] at q; simp at q
       .exact F7 q
     AEM:=λi j oi oj r hi hj La hrj=>by
      have:=(hst i oi hi).2.2.2.2.1;unfold Xb at this;rw[La] at this;have:=Gp this (Cn hj);rw[hrj] at this;simp only[Dk,AE,Ko] at this;rcases this with q|⟨q,_⟩
      .exact Bz q
      .simp at q
     AIs:=λk hk=>by
      obtain⟨i,hi,hr⟩:=r9 k (AI _) hk;have hR:=r7 i hi;unfold E1 at hr;cases hc:p.cls[i]? with
      | none=>rw[hc] at hr; simp at hr
      | some c=>
       rw[hc] at hr;cases c with
       | w r=>obtain⟨o,_,ho,_⟩:=hR.w r hc; exact⟨i,o,ho,by grind[E1]⟩
       | fa r j x=>obtain⟨o,_,_,_,_,_,ho,_⟩:=hR.fa r j x hc; exact⟨i,o,ho,by grind[E1]⟩
       | _=>simp[Jn] at hr
     AIt:=λi o r ho hr=>by
      rcases hin i o ho with hi|hi
      .have:=(f6 i hi).n.1; rw[this] at hr; simp at hr
      .grind
     time:=λi o ts ho hc k hk hn=>by
      have ht:=(hst i o ho).2.2.2.2.2.1
      have key:((List.range (K+1)).all λk=>has ts k||(List.range ops.size).any λj=>match E1 p j with
        | some r=>(has (Dr p i) j&&Nat.ble k r)||(has (Dr p j) i&&Nat.blt r k)
        | none=>false)=true:=by
       unfold dy at ht;rcases hc with hc|hc <;> rw[hc] at ht <;> simp only[AE] at ht <;> exact ht.1
      have:=Gp key (show k<K+1 by omega);rw[KR.2 hn,Gb] at this;obtain⟨j,hj,h'⟩:=Kq.1 this;cases hr:E1 p j with
      | none=>rw[hr] at h'; simp at h'
      | some r=>
       rw[hr] at h';simp only[Dk,AE] at h';have AVr:j<ops.size:=by simpa using hj
       refine⟨j,ops[j],r,by simp[AVr],hr,h'.imp (λq=>⟨F7 q.1,by simpa[Nat.ble_eq] using q.2⟩) (λq=>⟨F7 q.1,by simpa[Nat.blt_eq] using q.2⟩)⟩
     rT:=λi o r j x ho hc=>by
      have hfo:=(hst i o ho).2.2.2.2.2.2;unfold NG at hfo;rw[hc] at hfo;simp only[AE] at hfo;obtain⟨⟨⟨⟨u1,u2⟩,u3⟩,u4⟩,u5⟩:=hfo;rcases hin i o ho with hi|hi
      .have:=(f6 i hi).n.1; rw[Jr hc] at this; simp at this
      obtain⟨o',o1,o2,kf,v,ρ,g1,g2,g3,g4,g5,g6,g7,g8,g9,g10⟩:=(r7 i hi).fa r j x hc;rw[ho] at g1; simp at g1; subst g1;obtain⟨q1,q2,q3,q4,q5,q6,q7,q8,q9,q10,q11⟩:=F5 g4
      have hcj:p.cls[j]?=some .fj/\p.cls[x]?=some .fx:=by
       split at u1
       .rename_i e1 e2 _ _ _; exact⟨e1,e2⟩
       .simp at u1
      have GQ:∀(i':Nat) o',ops[i']?=some o'->(p.cls[i']?=some (.fa r j x)\/p.cls[i']?=some .fj\/p.cls[i']?=some .fx)->HO p.GQ i'=[]:=λi' o' ho' KQ=>by
       have:=(hst i' o' ho').2.1;unfold K1 at this;rw[ho'] at this;rcases KQ with KQ|KQ|KQ <;> rw[KQ] at this <;> simp only[AE] at this <;> simpa using this.2
      have w1:=GQ i o ho (.inl hc);have w2:=GQ j o1 g2 (.inr (.inl hcj.1));have w3:=GQ x o2 g3 (.inr (.inr hcj.2));refine⟨o1,o2,kf,g2,g3,hcj.1,hcj.2,g4,w1,w2,w3,F7 u2,F7 u3,F7 u4,v,?_,g9,g10⟩;rw[<-g5];refine ZZ λz hz=>Jo λt ht=>?_
      have hmem:t∈nT ops p i:=by
       unfold nT;rw[hc];simp only[List.mem_filter];have hd1:Fh ops i++Fh ops j=[kf.d,kf.p]:=by simp[Fh,jU,ho,g2,q2,q4]
       constructor
       .simp only[CG]
        rcases hz with e|e|e|e
        .exact .inl (.inl (by simp only[Dw,ho]; exact Ib _ (DQ.2 (by grind[Op.operands,Call.operands]))))
        .exact .inl (.inl (by simp only[Dw,ho]; exact Ib _ (DQ.2 (by grind[Op.operands,Call.operands]))))
        .exact .inl (.inr (by simp only[Dw,g2]; exact Ib _ (DQ.2 (by grind[Op.operands]))))
        .grind[Dw,DQ,Op.operands]
       .rw[hd1]
        obtain⟨z1,z2⟩:=QW g4 z hz;simp only[Ko,KR,A1,Ed,Ee,not_or];exact⟨λe=>z1 (by rw[ht,e]),λe=>z2 (by rw[ht,e])⟩
      have:=g6 t hmem;rw[this];unfold FV;rw[w1];rfl
     mu:=λi o r j x d FB off len sz hX ho hc hd hq m om r' t y z hom Nr hop id off' hy=>by
      have hir:i∈p.rest:=by
       rcases hin i o ho with hi|hi
       .have:=(f6 i hi).n.1; rw[Jr hc] at this; simp at this
       .omega
      have hmr:m∈p.rest:=by
       rcases hin m om hom with hi|hi
       .have:=(f6 m hi).n.1; rw[J5 Nr] at this; simp at this
       .omega
      exact QZ (Za hmc i hir o r j x d FB off len sz hX ho hc hd hq) m hmr om r' t y z hom Nr hop id off' hy
     win:=λi o r j x ho hc m om hm h1 h2 h3=>by
      have hfo:=(hst i o ho).2.2.2.2.2.2;unfold NG at hfo;rw[hc] at hfo;simp only[AE] at hfo;have:=Gp hfo.2 (Cn hm);have n1:Nat.beq m i=false:=by rw[Ny]; exact λq=>h1 (Bz q)
      have n2:Nat.beq m j=false:=by rw[Ny]; exact λq=>h2 (Bz q)
      have n3:Nat.beq m x=false:=by rw[Ny]; exact λq=>h3 (Bz q)
      rw[n1,n2,n3] at this;simp only[Gb,AE,Dk] at this;refine⟨this.1.imp F7 (λq=>q.imp F7 (λz=>z)),λd hd hr=>?_⟩;have:=Cz.1 this.2 d (DX.2 ⟨om,hm,hd⟩);simp only[Dk,Ko,Gc] at this;rcases this with q|q
      .rcases hr with hr|hr
       .exact absurd hr (KR.1 q.1)
       .exact absurd hr (KR.1 q.2)
      .exact F7 q
     AOC:=λj oj hj hc=>by
      have hfo:=(hst j oj hj).2.2.2.2.2.2;unfold NG at hfo;rw[hc] at hfo;obtain⟨m,hm,h'⟩:=Kq.1 hfo;have hlt:m<ops.size:=by simpa using hm
      split at h'
      .rename_i r j' x' Nr
       have:=Bz h';subst this;exact⟨m,ops[m],r,x',by simp,Nr⟩
      .simp at h'
     AOD:=λx ox hx hc=>by
      have hfo:=(hst x ox hx).2.2.2.2.2.2;unfold NG at hfo;rw[hc] at hfo;obtain⟨m,hm,h'⟩:=Kq.1 hfo;have hlt:m<ops.size:=by simpa using hm
      split at h'
      .rename_i r j' x' Nr
       have:=Bz h';subst this;exact⟨m,ops[m],r,j',by simp[hlt],Nr⟩
      .simp at h'
     out:=λt ht=>by
      have hw:∀j,t∉HL ops p j:=λj hj=>by
       unfold HL at hj;have nd:∀q,t∉Fh ops q:=λq hq=>by obtain⟨o,h1,h2⟩:=DX.1 hq; exact ht q o h1 h2
       split at hj
       .simp at hj
       .simp at hj
       .rcases CG.1 hj with q|q <;> grind
       .exact nd _ hj
      rw[r2 t (λj _=>hw j),f2 t (λj _=>hw j)]
     rU:=λi o d ho hd=>by
      rcases hin i o ho with hi|hi
      .have hF:=f6 i hi
       cases hc:p.cls[i]? with
       | none=>
        have:=(hst i o ho).2.1;unfold K1 at this;rw[ho,hc] at this;simp at this
       | some c=>
        cases c with
        | q ts=>
         obtain⟨o',_,_,g1,_,g3,_⟩:=hF.q ts hc;rw[ho] at g1; simp at g1; subst g1;exact(g3 d hd).1
        | h ts=>
         obtain⟨o',_,_,_,g1,_,g3,_⟩:=hF.h ts hc;rw[ho] at g1; simp at g1; subst g1;exact(g3 d hd).1
        | w r=>have:=hF.n.1; rw[J5 hc] at this; simp at this
        | fa r j x=>have:=hF.n.1; rw[Jr hc] at this; simp at this
        | fj=>exact absurd hc hF.n.2.1
        | fx=>exact absurd hc hF.n.2.2
      .have hF:=r7 i hi
       have faD:∀(m:Nat) r j x,m<ops.size->p.cls[m]?=some (.fa r j x)->∃o o1 o2 k,ops[m]?=some o/\ops[j]?=some o1/\ops[x]?=some o2/\fused o o1 o2=some k/\k.d<st.N/\k.p<st.N:=λm r j x hm hc=>by
        rcases hin m ops[m] (by simp[hm]) with mi|mi
        .have:=(f6 m mi).n.1; rw[Jr hc] at this; simp at this
        .obtain⟨o',o1,o2,kf,v,ρ,g1,g2,g3,g4,g5,g6,g7,g8,g9,g10⟩:=(r7 m mi).fa r j x hc
         exact⟨o',o1,o2,kf,g1,g2,g3,g4,by rw[<-hN1]; exact g7,by rw[<-hN1]; exact g8⟩
       have hfo:=(hst i o ho).2.2.2.2.2.2;unfold NG at hfo;cases hc:p.cls[i]? with
       | none=>
        have:=(hst i o ho).2.1;unfold K1 at this;rw[ho,hc] at this;simp at this
       | some c=>
        rw[hc] at hfo;cases c with
        | q ts=>
         obtain⟨o',_,_,g1,_,g3,_⟩:=hF.q ts hc;rw[ho] at g1; simp at g1; subst g1;rw[<-hN1]; exact(g3 d hd).1
        | h ts=>exact absurd hc (hF.h ts)
        | w r=>
         obtain⟨o',_,g1,_,g3⟩:=hF.w r hc;rw[ho] at g1; simp at g1; subst g1;rw[<-hN1]; exact(g3 d hd).1
        | fa r j x=>
         obtain⟨o',o1,o2,k,g1,g2,g3,g4,g5,g6⟩:=faD i r j x (Cn ho) hc;rw[ho] at g1; simp at g1; subst g1;have:=(F5 g4).2.1;rw[hd] at this; simp at this; rw[this]; exact g5
        | fj=>
         obtain⟨m,hm,h'⟩:=Kq.1 hfo;split at h'
         .rename_i r j' x' Nr
          have:=Bz h';subst this;obtain⟨o',o1,o2,k,g1,g2,g3,g4,g5,g6⟩:=faD m r j' x' (by simpa using hm) Nr;rw[ho] at g2; simp at g2; subst g2;have:=(F5 g4).2.2.2.1;rw[hd] at this; simp at this; rw[this]; exact g6
         .simp at h'
        | fx=>
         obtain⟨m,hm,h'⟩:=Kq.1 hfo;split at h'
         .rename_i r j' x' Nr
          have:=Bz h';subst this;obtain⟨o',o1,o2,k,g1,g2,g3,g4,g5,g6⟩:=faD m r j' x' (by simpa using hm) Nr;rw[ho] at g3; simp at g3; subst g3;have:=(F5 g4).2.2.2.2.2.1;rw[hd] at this; simp at this
         .simp at h'
     wF:=λi o r ho hc=>by
      rcases hin i o ho with hi|hi
      .have:=(f6 i hi).n.1; rw[J5 hc] at this; simp at this
      .obtain⟨o',v,g1,g2,g3⟩:=(r7 i hi).w r hc
       rw[ho] at g1; simp at g1; subst g1;exact⟨v,g2,λd hd=>(g3 d hd).2⟩
     qF:=λi o ts k ho hc hk=>by
      have Zb:∀s v,NF ops i=true->FA E L ops (FV p.GQ st.ρ QX.ρ i) s o=some v->FA E L ops (FV p.GQ st.ρ QX.ρ i) (IX Jh k) o=some v:=λs v hp hq=>by
       have hp':Xa o=true:=by simpa[NF,ho] using hp
       unfold FA at hq ⊢;split at hq
       .exact Xf hp' hq
       .exact hq
       .simp at hq
      have jY:(i,k)∈p.XG->∃v,FA E L ops (FV p.GQ st.ρ QX.ρ i) (IX Jh k) o=some v/\∀d,o.dst=some d->QX.ρ d=v:=λhm=>by
       obtain⟨s,v,g1,g2,g3⟩:=(AOV i k hm).1 o ts ho hc;exact⟨v,by rw[ZW g1]; exact g2,g3⟩
      rcases hin i o ho with hi|hi
      .obtain⟨o',s,v,g1,g2,g3,g4⟩:=(f6 i hi).q ts hc
       rw[ho] at g1; simp at g1; subst g1;rcases g4 k hk with q|q
       .exact⟨v,Zb s v q g2,λd hd=>(g3 d hd).2⟩
       .exact jY q
      .obtain⟨o',kk,v,g1,g2,g3,g4⟩:=(r7 i hi).q ts hc
       rw[ho] at g1; simp at g1; subst g1;rcases g4 k hk with q|q|q
       .subst q; exact⟨v,g2,λd hd=>(g3 d hd).2⟩
       .exact⟨v,Zb _ v q g2,λd hd=>(g3 d hd).2⟩
       .exact jY q
     hF:=λi o ts ho hc=>by
      have hpo:=(hst i o ho).2.1;unfold K1 at hpo;rw[ho,hc] at hpo;simp only[AE] at hpo;rcases hin i o ho with hi|hi
      .obtain⟨o',cs,mk,id',g1,g2,g3,g4,g5,g6⟩:=(f6 i hi).h ts hc
       rw[ho] at g1; simp at g1; subst g1;obtain⟨d,hd⟩:=Nz.1 hpo.2;refine⟨by simpa using hpo.1,d,cs,mk,id',hd,g2,(g3 d hd).2,λk hk=>?_⟩;obtain⟨s,cs',mk',d',AVt,e1,e2,e3,e4,e5⟩:=(AOV i k (g6 k hk)).2 o ts ho hc;rw[hd] at e3; simp at e3; subst e3;rw[(g3 d hd).2,KS g2] at e4;simp at e4; subst e4;rw[g2] at e2; simp at e2;rw[ZW e1,e5,e2.1]
      .exact absurd hc ((r7 i hi).h ts)
     AOE:=λi j oi oj ts us d e id' hi hj HQ hcj nV rX ZD h2'=>by
      rcases hin i oi hi with m1|m1
      .rcases hin j oj hj with m2|m2
       .exact f7 i j oi oj ts us d e id' m1 m2 hi hj HQ hcj nV rX ZD h2'
       .exact absurd hcj ((r7 j m2).h us)
      .exact absurd HQ ((r7 i m1).h ts) }
    have hid:∀(i:Nat) o ts d id,ops[i]?=some o->p.cls[i]?=some (.h ts)->o.dst=some d->IK (QX.ρ d)=some id->st.s.bs.length<=id/\id<st.s.bs.length+hs.length:=λi o ts d id' ho hc hd eI=>by
     rcases hin i o ho with hi|hi
     .obtain⟨o',cs,mk,AVt,g1,g2,g3,g4,g5,g6⟩:=(f6 i hi).h ts hc
      rw[ho] at g1; simp at g1; subst g1;rw[(g3 d hd).2,KS g2] at eI;simp at eI; subst eI;exact⟨g4,by grind⟩
     .exact absurd hc ((r7 i hi).h ts)
    obtain⟨q,hq1,hq2,hq3⟩:=Inv.sC hs g st.s hI;refine eE R RX eF (g:=g) (g1:=g.B6 q) (λi o ts d id' ho hc hd eI hp=>?_) ((Ext.refl L g w).B6 hq1) ?_ hsz (λt=>(hρ t).B6) (λi o ts d id' ho hc hd eI=>?_) (λa' w' g' b1 b2 b3 b4 b5=>?_)
    .have:=(hI.Dl id' hp).1
     have:=(hid i o ts d id' ho hc hd eI).1;omega
    .rw[hσ0,f3]; exact hq3
    .obtain⟨x1,x2⟩:=hid i o ts d id' ho hc hd eI
     exact hq2 id' x1 x2
    .grind
  .grind
 .grind
end
structure jZ (E:Env) (g:AH) (w:World) (st:St) (a:Act):Prop where
 inv:Inv E g w st.s
 size:a.tmps.size=st.N
 tmps:∀t,V g w (st.ρ t) (a.tmps.getD t undef)
theorem jZ.put {E:Env} {L:A8} {g g':AH} {w w':World} {st st':St} {a:Act} {s:AM} {d:Option Nat} {v:AV} {u:Value} (h:jZ E g w st a) (hp:KF { st with s:=s } d v=some st') (he:Ext L g w g' w') (hi:Inv E g' w' s) (hv:V g' w' v u) :
  jZ E g' w' st' (a.put d u)/\st'.N=st.N:=by
 obtain⟨a1,a2,a3,a4⟩:=F6 hp;refine⟨⟨by grind,by rw[SD,a1]; exact h.size,λt=>?_⟩,a1⟩
 by_cases ht:d=some t
 .subst ht
  obtain⟨b1,b2⟩:=a3 t rfl;rw[JK (by rw[h.size]; omega),b2];omega
 .rw[PN ht,a4 t ht]
  exact(h.tmps t).mono he
theorem Js (i n:Nat):List.range' i (n+1)=i::List.range' (i+1) n:=by rfl
section
variable {rd:Option Nat} {E:Env} {L:A8} {cf:Cr} {ops:Array Oper} {Q:Exit->Act->World->Prop}
theorem VK {i:Nat} {rest:List Nat} {o:Oper} {a:Act} {w:World} (ho:ops[i]?=some o) (hw:Region.wanted o (yielded ops a.tmps)=true) (h:o.wpIn (FW rd) 0 E.P a w (wpOpsIn (FW rd) 0 E.P ops Q rest) Q):wpOpsIn (FW rd) 0 E.P ops Q (i::rest) a w:=by grind[wpOpsIn]
theorem sF {i:Nat} {rest:List Nat} {o:Oper} {a:Act} {w:World} (ho:ops[i]?=some o) (hw:Region.wanted o (yielded ops a.tmps)=false) (h:wpOpsIn (FW rd) 0 E.P ops Q rest (a.put o.dst undef) w):wpOpsIn (FW rd) 0 E.P ops Q (i::rest) a w:=by
 simp only[wpOpsIn,ho,hw,DH,Ia];exact⟨λ_ _=>trivial,h⟩
theorem PS {i:Nat} {rest:List Nat} {o:Oper} {a:Act} {w w':World} {v:Value} (ho:ops[i]?=some o) (hg:o.guard=none) (hr:(execOp a.eval o).run E.P w=.ok (.value v) w'\/((execOp a.eval o).run E.P w=.ok .skip w'/\v=undef))
  (h:wpOpsIn (FW rd) 0 E.P ops Q rest (a.put o.dst v) w'):wpOpsIn (FW rd) 0 E.P ops Q (i::rest) a w:=by grind[VK,Region.wanted,Jq,Iq]
theorem sG {g:AH} {w:World} {st st':St} {a:Act} {o o1 o2:Oper} {k:JB} {v:AV} {s:AM} {i:Nat} {rest:List Nat} (h:jZ E g w st a) (ho:ops[i]?=some o) (ho1:ops[i+1]?=some o1) (qa:ops[i+2]?=some o2)
  (hf:fused o o1 o2=some k) (OJ:JC E L st.ρ st.s k=some (v,s)) (hst:J2 st k v s=some st')
  (hk:∀a' w' g',jZ E g' w' st' a'->a'.defers=a.defers->Ext L g w g' w'->st'.N=st.N->wpOpsIn (FW rd) 0 E.P ops Q rest a' w'):wpOpsIn (FW rd) 0 E.P ops Q (i::(i+1)::(i+2)::rest) a w:=by
 obtain⟨f1,f2,f3,f4,f5,f6,f7,f8,f9,f10,f11⟩:=F5 hf;have hap:=QW hf;have hVx:=Aj h.tmps k.x;have hVy:=Aj h.tmps k.y;have hVi:=Aj h.tmps k.ix;have hVv:=Aj h.tmps k.v;unfold J2 at hst;split at hst
 .rename_i GM hp1
  unfold JC at OJ;split at OJ
  .rename_i elem hu
   split at OJ
   .rename_i XV
    split at OJ
    .rename_i ti rows z n row dS hrows hz qb hrow
     split at OJ
     .rename_i hcnd
      obtain⟨q1,q2,q3,q4,q5,q6,q7⟩:=hcnd;have hvl:=ES hVv q4;obtain⟨t1,t2⟩:=Gk hvl hrow;obtain⟨b,cap,vz,e,fz,w1,wv,g',a1,a2,a3,a4,a5,a6,⟨a7,a7z⟩,a8⟩:=Lh (T:=o.type) h.inv hu dS q6 q7 hVx hrows hVy hz q2 q5 (us:=(a.eval k.v).cells.toList) (by omega) q3 t2 OJ;obtain⟨kk,R3⟩:=FC hVi qb;obtain⟨s1,n1⟩:=h.put hp1 a3 a4 a2;have hp2:KF { GM with s:=GM.s } (some k.p) .Gw=some st':=hst;obtain⟨s2,n2⟩:=s1.put (u:=.pointer (some ⟨b,rows.length*ti.size,none⟩)) hp2 (Ext.refl L g' wv) s1.inv .Gw;have hszv:(a.eval k.v).cells.size=ti.size:=by grind
      have hd:k.d<a.tmps.size:=by
       obtain⟨_,_,x3,_⟩:=F6 hp1;rw[h.size]; grind
      have hpN:k.p<a.tmps.size:=by
       obtain⟨_,_,x3,_⟩:=F6 hst;have:=(x3 k.p rfl).1;rw[h.size]; omega
      have AER:∀z,z=k.ix\/z=k.v->∀u u',((a.put (some k.d) u).put (some k.p) u').eval z=a.eval z/\(a.put (some k.d) u).eval z=a.eval z:=λz hz u u'=>by grind[EM]
      have hw1:w1.heap[b]?=some (.cells ⟨vz⟩ e fz):=by grind[BX]
      refine PS ho f8.1 (v:=.slice (some ⟨b,0,none⟩) (rows.length+1) cap) (w':=w1) (.inl ?_) ?_
      .simp[*,execOp,resolve,invoke,builtin]
      rw[f2];refine PS ho1 f8.2.1 (v:=.pointer (some ⟨b,rows.length*ti.size,none⟩)) (w':=w1) (.inl ?_) ?_
      .have e1:(a.put (some k.d) (.slice (some ⟨b,0,none⟩) (rows.length+1) cap)).eval (.tmp k.d)=.slice (some ⟨b,0,none⟩) (rows.length+1) cap:=JK hd
       have e2:=(AER k.ix (.inl rfl) (.slice (some ⟨b,0,none⟩) (rows.length+1) cap) undef).2;simp[*,execOp,Instr.indexAt,asIntOf,run_underlying,run_sizeOf,DI]
      rw[f4];refine PS qa f8.2.2 (v:=undef) (w':=wv) (.inr ⟨?_,rfl⟩) ?_
      .have e1:((a.put (some k.d) (.slice (some ⟨b,0,none⟩) (rows.length+1) cap)).put (some k.p) (.pointer (some ⟨b,rows.length*ti.size,none⟩))).eval (.tmp k.p)=.pointer (some ⟨b,rows.length*ti.size,none⟩):=JK (by grind[SD])
       have e2:=(AER k.v (.inr rfl) (.slice (some ⟨b,0,none⟩) (rows.length+1) cap) (.pointer (some ⟨b,rows.length*ti.size,none⟩))).1;obtain⟨dst,op,type,pos,after,guard⟩:=o2;simp only at f5;subst f5;have hst:=FH (P:=E.P) (b:=b) (o:=rows.length*ti.size) (e:=e) a7z (a.eval k.v).cells.toList 0 w1 vz (VL.one hvl q4) hw1 (by omega)
       grind[EG,Kz,execOp,Instr.storeAt,Instr.sureAddr,storeVar,Sem.run_bind,Sem.run_pure,Result.andThen_ok,run_sizeOf]
      grind[Act.put]
     grind
    grind
   grind
  grind
 grind
theorem eJ (RX:HX E L cf):∀(n i:Nat) (l:List Oper) (st st':St) (a:Act) (w:World) (g:AH),l.length=n->l=ops.toList.drop i->jZ E g w st a->IJ E L cf ops l st=some st' ->
  (∀a' w' g',jZ E g' w' st' a'->a'.defers=a.defers->Ext L g w g' w'->st'.N=st.N->Q .normal a' w')->wpOpsIn (FW rd) 0 E.P ops Q (List.range' i l.length) a w:=by
 intro n
 induction n using Nat.strongRecOn with
 | ind n ih=>
  intro i l st st' a w g hn hl hs h hQ;cases l with
  | nil=>
   simp[IJ] at h;subst h;exact hQ a w g hs rfl (Ext.refl _ _ _) rfl
  | cons o rest=>
   have eK:∀(j:Nat) q,(o::rest)[j]?=some q->ops[i+j]?=some q:=λj q hq=>by grind
   have AES:∀j,(o::rest).drop j=ops.toList.drop (i+j):=λj=>by rw[hl,List.drop_drop]
   have one:(match E9 ops st.ρ o with
     | some true=>match Mu E L cf st o with
      | some st=>IJ E L cf ops rest st
      | none=>none
     | some false=>match KF st o.dst (.tuple []) with
      | some st=>IJ E L cf ops rest st
      | none=>none
     | none=>none)=some st'->wpOpsIn (FW rd) 0 E.P ops Q (List.range' i (o::rest).length) a w:=by
    intro h;rw[CO,Js];have hlt:rest.length<n:=by grind
    have AOY:rest=ops.toList.drop (i+1):=by grind
    split at h
    .rename_i hg
     split at h
     .rename_i GM hst
      unfold Mu at hst;split at hst
      .rename_i v s hact
       refine VK (eK 0 o rfl) (DG hs.tmps hg) (NJ RX hs.inv hs.tmps hact λv' w' g' hV hE hI=>?_);obtain⟨s1,n1⟩:=hs.put hst hE hI hV;exact ih rest.length hlt (i+1) rest GM st' _ w' g' rfl AOY s1 h λa' w'' g'' q1 q2 q3 q4=>hQ a' w'' g'' q1 (q2.trans (put_defers _ _ _)) (hE.trans q3) (q4.trans n1)
      grind
     grind
    .rename_i hg
     split at h
     .rename_i GM hst
      refine sF (eK 0 o rfl) (DG hs.tmps hg) ?_;obtain⟨s1,n1⟩:=hs.put (L:=L) (s:=st.s) hst (Ext.refl L g w) hs.inv V.undef
      grind[put_defers]
     grind
    grind
   unfold IJ at h;simp only at h;split at h
   .rename_i o1 o2 rest'
    split at h
    .rename_i k hf
     split at h
     .rename_i v s OJ
      split at h
      .rename_i GM hst
       have hlt:rest'.length<n:=by grind
       simp only[CO];rw[Js,Js,Js];refine sG hs (eK 0 o rfl) (eK 1 o1 rfl) (eK 2 o2 rfl) hf OJ hst λa' w' g' q1 q2 q3 q4=>?_
       exact ih rest'.length hlt (i+3) rest' GM st' a' w' g' rfl (by grind) q1 h λa'' w'' g'' p1 p2 p3 p4=>hQ a'' w'' g'' p1 (p2.trans q2) (q3.trans p3) (p4.trans q4)
      grind
     grind
    grind
   grind
end
end Go.Tel
