/-
  A region with a drawn order: one operation more while a row is open; all of them.
-/
import Derived.Test.YtpgfpakdnijngaaGreatDoorEvF
set_option linter.unusedSimpArgs false
set_option linter.unusedVariables false
namespace Go.Tel
section
variable {rd:Option Nat} {E:Env} {L:A0} {cf:Co} {ops:Array Oper} {p:Bg} {K N:Nat} {ρ0 ρf:Nat->AV} {σ:Nat->AK} {ds:List Deferred} {g0:AH} {w0:World} {Q:Exit->Act->World->Prop}
theorem Open.more {P:Program} {q:AV} {X:Prop} {kf:Kc} {Dj:Prop} {a:Act} {g:AH} {w wv:World} {d:Option Tmp} {v:Value} (h:Open P q X kf Dj a g w wv)
  (hd:d≠some kf.d) (hp:d≠some kf.p) (hi:∀ t,kf.ix=.tmp t->d≠some t) (hv:∀ t,kf.v=.tmp t->d≠some t):Open P q X kf Dj (a.put d v) g w wv:=by
 obtain⟨b,cap,len,vz,e,fz,xv,kk,elem,ti,h1,h2,h3,h4,h5,h6,h7,h8,h9,h10,h11,h12,h13⟩:=h;refine⟨b,cap,len,vz,e,fz,xv,kk,elem,ti,h1,h2,h3,?_,?_,?_,h7,h8,h9,h10,h11,h12,fun q=>?_⟩
 ·rw[DE (fun t ht=>by simp at ht; subst ht; exact hd)]; exact h4
 ·rw[DE hi]; exact h5
 ·rw[DE hv]; exact h6
 ·rw[DE (fun t ht=>by simp at ht; subst ht; exact hp)]; exact h13 q
theorem lS (R:Ug E L cf ops p K N ρ0 ρf σ) {D:Nat->Prop} (hD:Down ops D) {a:Act} {k:Nat} {g:AH} {w wv:World} (h:Core E L ops p K N ρ0 ρf σ ds g0 w0 D a k g wv)
  {i r j x:Nat} {o o1 o2:Oper} {kf:Kc} (hi:ops[i]?=some o) (Ez:p.cls[i]?=some (.fa r j x)) (h1:ops[j]?=some o1) (h2:ops[x]?=some o2) (hf:fused o o1 o2=some kf) (lR:D i) (wT:¬ D x) (hsh:NG ops p D i)
  (hop:Open E.P (ρf kf.d) (Ub E L ops i j x=true) kf (D j) a g w wv)
  {m:Nat} {om:Oper} (hm:ops[m]?=some om) (hn:¬ D m) (hr:∀ e∈om.after,Region.binds .any e=true->D e.on) :
  wpOpIn (FW rd) 0 E.P ops Q m (J E L ops p K N ρ0 ρf σ ds g0 w0 (fun i=>D i\/i=m)) a w:=by
 obtain⟨o1',o2',kf',ZP,h2',c1,c2,hf',u1,u2,u3,p1,p2,p3,v0,Js,hvd,hvp⟩:=R.oX i o r j x hi Ez;rw[h1] at ZP; simp at ZP; subst ZP;rw[h2] at h2'; simp at h2'; subst h2';rw[hf] at hf'; simp at hf'; subst hf';obtain⟨f1,f2,f3,f4,f5,f6,f7,f8,f9,f10,f11⟩:=GZ hf;have hmi:m≠i:=fun e=>hn (e ▸ lR)
 have E8:∀ (i:Nat) o ts d id,ops[i]?=some o->p.cls[i]?=some (.h ts)->o.dst=some d->Kg (ρf d)=some id->¬ D i->i≠m->g.C1 id:=
  fun i o ts d id ho Ez hd hid hnD _=>h.C1 i o ts d id ho Ez hd hid hnD
 have hxm:x≠m->¬ (D x\/x=m):=fun e q=>q.elim wT e
 by_cases hmj:m=j
 ·subst hmj
  rw[h1] at hm; simp at hm; subst hm;obtain⟨b,cap,len,vz,e,fz,xv,kk,elem,ti,k1,k2,k3,k4,k5,k6,k7,k8,k9,yL,k11,k12,k13⟩:=hop
  have hrun:(execOp a.eval o1).run E.P w=.ok (.value (.pointer (some ⟨b,len*ti.size,none⟩))) w:=by
   obtain⟨dst,op,type,pos,after,guard⟩:=o1;simp only at f3;subst f3;simp[execOp,Instr.indexAt,k4,k5,asIntOf,run_underlying k1,run_sizeOf k2,DW]
  have hxj:x≠m:=fun e=>by subst e; exact absurd (R.Nu x o1 x h1 p2) (II _)
  have hs:NG ops p (fun i=>D i\/i=m) i:=NG.more h1 (fun _ _ _ e=>by rw[c1] at e; simp at e) hsh;refine Mx h1 f8.2.1 hrun ⟨k,g,wv,h.push R h1 (.inl ⟨iM c1,rfl⟩) h.ext (fun _ _ q=>q) h.inv (fun d hd=>?_) E8,.inr ?_⟩
  ·rw[f4] at hd; simp at hd; subst hd; rw[hvp]; exact .HU
  ·refine⟨i,o,r,m,x,o1,o2,kf,hi,Ez,h1,h2,hf,.inl lR,hxm hxj,hs,b,cap,len,vz,e,fz,xv,kk,elem,ti,k1,k2,k3,?_,?_,?_,k7,k8,k9,yL,k11,k12,fun _=>?_⟩
   ·rw[f4,DE (fun t ht hdt=>f7 (by simp at ht hdt; rw[ht,hdt]))]; exact k4
   ·rw[f4,DE (fun t ht hdt=>?_)]
    ·exact k5
    ·simp at hdt
     subst hdt;have:kf.p∈GY o1:=DD.2 (by rw[f3]; simp[Op.operands,ht]);rcases R.read m m o1 o1 kf.p h1 h1 f4 (Dt _ this) with ⟨q1,_⟩|⟨_,q2⟩
     ·rw[u2] at q1; simp[has] at q1
     ·exact absurd (R.Nu m o1 m h1 q2) (II _)
   ·rw[f4,DE (fun t ht hdt=>f11 (by simp at hdt; rw[ht,hdt]))]; exact k6
   ·rw[f4]; exact JX (by rw[h.size]; exact R.oY m o1 kf.p h1 f4)
 by_cases hmx:m=x
 ·subst hmx
  rw[h2] at hm; simp at hm; subst hm;have hDj:D j:=R.LO hD m o2 j h2 hr p2;obtain⟨b,cap,len,vz,e,fz,xv,kk,elem,ti,k1,k2,k3,k4,k5,k6,k7,k8,k9,yL,k11,k12,k13⟩:=hop;have hpt:=k13 hDj;have hwb:w.heap[b]?=some (.cells ⟨vz⟩ e fz):=by rw[yL,BR,if_pos rfl,if_pos (BI k9)]
  have hrun:(execOp a.eval o2).run E.P w=.ok .skip wv:=by
   obtain⟨dst,op,type,pos,after,guard⟩:=o2;simp only at f5;subst f5;have hst:=Fc (P:=E.P) (b:=b) (o:=len*ti.size) (e:=e) k11.2 xv.cells.toList 0 w vz k8 hwb (by rw[DS,k7]; have:=k11.1; omega);have heq:A2 w b (Bt vz (len*ti.size) xv.cells.toList) e fz=wv:=by rw[yL,EW,LL k9]
   simp only[execOp,hpt,k6,Instr.storeAt,Instr.sureAddr,storeVar,Sem.run_bind,Sem.run_pure,Result.andThen_ok,k3,run_sizeOf k2,k7,ne_eq,K7,Dk];simp only[Dq] at hst;rw[hst,heq];rfl
  have hs:∀ i',NG ops p (fun i=>D i\/i=m) i':=by
   intro i' q o' r' j' x' ho' Hl hi' hne;rcases hi' with hi' | hi'
   ·by_cases e:q=i
    ·subst e
     rw[Ez] at Hl; simp at Hl;exact .inr Hl.2.2.symm
    ·exact .inl (hsh q o' r' j' x' ho' Hl hi' e)
   ·subst hi'; rw[c2] at Hl; simp at Hl
  refine Kl h2 (by simp[Region.wanted,f8.2.2]) ?_;exact JB hrun ⟨k,g,wv,h.push R h2 (.inl ⟨iP c2,rfl⟩) h.ext (fun _ _ q=>q) h.inv (fun d hd=>by rw[f6] at hd; simp at hd) E8,.inl ⟨rfl,hs⟩⟩
 obtain⟨hw1,hw2⟩:=R.win i o r j x hi Ez m om hm hmi hmj hmx;have og:m∉D7 p i:=fun q=>hn (R.MF hD hi lR q)
 have Sa:Xc ops p m=true:=by
  rcases hw1 with q|q|q
  ·exact absurd q og
  ·exact absurd (R.LO hD m om x hm hr q) wT
  ·exact q
 have dd:om.dst≠some kf.d:=fun e=>hmi (R.dst m i om o kf.d hm hi e f2)
 have dp:om.dst≠some kf.p:=fun e=>hmj (R.dst m j om o1 kf.p hm h1 e f4)
 have di:∀ t,kf.ix=.tmp t->om.dst≠some t:=fun t ht e=>og (hw2 t e (.inl (by simp only[D2,h1]; exact Dt _ (DD.2 (by rw[f3]; simp[Op.operands,ht])))))
 have dv:∀ t,kf.v=.tmp t->om.dst≠some t:=fun t ht e=>og (hw2 t e (.inr (by simp only[D2,h2]; exact Dt _ (DD.2 (by rw[f5]; simp[Op.operands,ht])))))
 have hag:=R.agree hD hm hn hr
 have yM:Open E.P (ρf kf.d) (Ub E L ops i j x=true) kf (D j\/j=m) a g w wv:=by
  have:(D j\/j=m)=D j:=propext ⟨fun q=>q.elim id (fun e=>absurd e.symm hmj),.inl⟩;rw[this]; exact hop
 unfold Xc at Sa;split at Sa
 ·rename_i o' ts ho' hc
  rw[hm] at ho'; simp at ho'; subst ho';have hs:NG ops p (fun i=>D i\/i=m) i:=NG.more hm (fun _ _ _ e=>by rw[hc] at e; simp at e) hsh;obtain⟨v,hq,hv⟩:=R.qF m om ts k hm hc (h.oa R hD hm hn hr (.inl hc));rw[<-JA hag] at hq
  have AHg:(∃ x,om.op=.nilCheck x)\/(∃ t x f,om.op=.fieldAddr t x f)\/(∃ x,om.op=.move x):=by
   split at Sa
   ·rename_i y e; exact .inl ⟨y,e⟩
   ·rename_i y z f e; exact .inr (.inl ⟨y,z,f,e⟩)
   ·rename_i y e; exact .inr (.inr ⟨y,e⟩)
   ·simp at Sa
  unfold FQ at hq;split at hq
  ·rename_i hg
   obtain⟨v',hrun,hV⟩:=oW AHg h.inv h.tmps hq;refine Kl hm (DQ h.tmps hg) ?_
   exact KA (hrun w) ⟨k,g,wv,h.push R hm (.inl ⟨Pt hc,rfl⟩) h.ext (fun _ _ q=>q) h.inv (fun d hd=>by rw[hv d hd]; exact hV) E8,
    .inr ⟨i,o,r,j,x,o1,o2,kf,hi,Ez,h1,h2,hf,.inl lR,hxm (Ce hmx),hs,yM.more dd dp di dv⟩⟩
  ·rename_i hg
   simp only[AY] at hq;subst hq;refine Rt hm (DQ h.tmps hg) ?_
   exact⟨k,g,wv,h.push R hm (.inl ⟨Pt hc,rfl⟩) h.ext (fun _ _ q=>q) h.inv (fun d hd=>by rw[hv d hd]; exact V.undef) E8,
    .inr ⟨i,o,r,j,x,o1,o2,kf,hi,Ez,h1,h2,hf,.inl lR,hxm (Ce hmx),hs,yM.more dd dp di dv⟩⟩
  ·simp at hq
 ·rename_i o' r' ho' hc
  rw[hm] at ho'; simp at ho'; subst ho';have hs:NG ops p (fun i=>D i\/i=m) i:=NG.more hm (fun _ _ _ e=>by rw[hc] at e; simp at e) hsh;have hk:=h.now R hD hm hn hr (KO hc);subst hk;obtain⟨v,hact,hv⟩:=R.wF m om r' hm hc;rw[<-Nr hag] at hact;unfold Nl at hact;split at hact
  ·rename_i hg
   split at Sa
   ·rename_i t y z e
    rw[Mu] at hact;unfold lF at hact;rw[e] at hact;simp only at hact;obtain⟨dst,op,type,pos,after,guard⟩:=om;simp only at e;subst e;simp only[CE] at hact;split at hact
    ·rename_i s1 hst
     simp only[AY,Af] at hact;obtain⟨rfl,rfl⟩:=hact;obtain⟨id,b',vs',e',⟨off',ANd⟩,hb',he1,hi1,ANe⟩:=dQ h.inv (AO h.tmps y) (AO h.tmps z) hst;obtain⟨b,cap,len,vz,e,fz,xv,kk,elem,ti,k1,k2,k3,k4,k5,k6,k7,k8,k9,yL,k11,k12,k13⟩:=yM
     have VM:b'≠b:=by
      intro q;rcases k12 with ⟨tk,tl,k12,ANf⟩|⟨FR,ANg,n0,sz0,hq0,hb0,hX⟩
      ·exact h.inv.Cp id b' tk tl hb' k12 (by rw[ANf,q])
      ·subst q
       have hid:=h.inv.ET id FR b' hb' hb0;refine R.mu i o r j x kf.d FR ANg n0 sz0 hX hi Ez f2 hq0 m _ r' t y z hm hc rfl id off' ?_ hid;rw[<-ANd];refine J8 fun t' ht'=>?_
       subst ht';exact(hag t' (Dt _ (DD.2 (by simp[Op.operands])))).symm
     have hrun:=ANe w (by rw[yL,BR,if_neg (Ce VM)]);refine Kl hm (DQ h.tmps hg) ?_;refine JB (w':=A2 w b' vs' e') (by simp only[execOp,Sem.run_bind,hrun,Result.andThen_ok,Sem.run_pure]) ?_
     refine⟨r'+1,g,A2 wv b' vs' e',h.push R hm (.inr ⟨KO hc,rfl⟩) (h.ext.trans he1) (fun _ _ q=>q.mono he1) hi1 (fun d hd=>by rw[hv d hd]; exact V.undef) E8,
      .inr ⟨i,o,r,j,x,o1,o2,kf,hi,Ez,h1,h2,hf,.inl lR,hxm (Ce hmx),hs,?_⟩⟩
     refine Open.more ⟨b,cap,len,vz,e,fz,xv,kk,elem,ti,k1,k2,k3,k4,k5,k6,k7,k8,?_,?_,k11,k12,k13⟩ dd dp di dv
     ·rw[BR,if_neg VM]; exact k9
     ·rw[yL]; exact Xj (Ce VM)
    ·simp at hact
   ·simp at Sa
  ·rename_i hg
   simp only[AY,Af] at hact;obtain⟨rfl,hst⟩:=hact;refine Rt hm (DQ h.tmps hg) ?_
   exact⟨r'+1,g,wv,h.push R hm (.inr ⟨KO hc,rfl⟩) h.ext (fun _ _ q=>q) (hst ▸ h.inv) (fun d hd=>by rw[hv d hd]; exact V.undef) E8,
    .inr ⟨i,o,r,j,x,o1,o2,kf,hi,Ez,h1,h2,hf,.inl lR,hxm (Ce hmx),hs,yM.more dd dp di dv⟩⟩
  ·simp at hact
 ·simp at Sa
theorem oh (R:Ug E L cf ops p K N ρ0 ρf σ) (Qk:Hr E L cf) {D:Nat->Prop} (hD:Down ops D) {a:Act} {w:World}
  (hnp:∀ (i:Nat) o ts d id,ops[i]?=some o->p.cls[i]?=some (.h ts)->o.dst=some d->Kg (ρf d)=some id->¬ g0.C1 id) (h:J E L ops p K N ρ0 ρf σ ds g0 w0 D a w)
  {m:Nat} {om:Oper} (hm:ops[m]?=some om) (hn:¬ D m) (hr:∀ e∈om.after,Region.binds .any e=true->D e.on) :
  wpOpIn (FW rd) 0 E.P ops Q m (J E L ops p K N ρ0 ρf σ ds g0 w0 (fun i=>D i\/i=m)) a w:=by
 obtain⟨k,g,wv,AAb,⟨rfl,hs⟩|⟨i,o,r,j,x,o1,o2,kf,hi,Ez,h1,h2,hf,lR,wT,hsh,hop⟩⟩:=h
 ·exact ZO R Qk hD AAb hs hnp hm hn hr
 ·exact lS R hD AAb hi Ez h1 h2 hf lR wT hsh hop hm hn hr
def GC (listed:Array Bool) (i:Nat):Prop:=listed.getD i false=true
theorem GC.set {listed:Array Bool} {m:Nat} (hm:m<listed.size):GC (listed.setIfInBounds m true)=fun i=>GC listed i\/i=m:=by
 funext i
 apply propext;unfold GC
 by_cases h:i=m
 ·subst h; simp[hm]
 ·simp[h,W6 (Ce h)]
theorem oo {n m:Nat} {q q':Nat->Bool} (hm:m<n) (h1:∀ i,q' i=true->q i=true) (h2:q m=true) (h3:q' m=false):(List.range n).countP q'<(List.range n).countP q:=by
 induction n with
 | zero=>omega
 | succ n ih=>
  rw[List.range_succ,OM,OM];have hle:(List.range n).countP q'<=(List.range n).countP q:=hO fun i _=>h1 i
  by_cases e:m=n
  ·subst e
   simp[h2,h3];omega
  ·have:=ih (by omega)
   have hx:[n].countP q'<=[n].countP q:=hO fun i _=>h1 i
   omega
theorem oq (R:Ug E L cf ops p K N ρ0 ρf σ) (Qk:Hr E L cf)
  (hnp:∀ (i:Nat) o ts d id,ops[i]?=some o->p.cls[i]?=some (.h ts)->o.dst=some d->Kg (ρf d)=some id->¬ g0.C1 id)
  (hQ:∀ D a w,(∀ i,i<ops.size->D i)->J E L ops p K N ρ0 ρf σ ds g0 w0 D a w->Q .normal a w) :
  ∀ (fuel:Nat) (listed:Array Bool) (a:Act) (w:World),listed.size=ops.size->Down ops (GC listed)->J E L ops p K N ρ0 ρf σ ds g0 w0 (GC listed) a w ->
   (List.range ops.size).countP (fun i=>!(listed.getD i false))<=fuel->wpAnyIn (FW rd) 0 E.P .any ops Q fuel listed a w:=by
 have done:∀ (listed:Array Bool) (a:Act) (w:World),listed.size=ops.size->J E L ops p K N ρ0 ρf σ ds g0 w0 (GC listed) a w->Region.ready .any ops listed=[]->Q .normal a w:=by
  intro listed a w hsz hJ hrd;refine hQ (GC listed) a w ?_ hJ;intro i
  induction i using Nat.strongRecOn with
  | ind i ih=>
   intro hi;rcases Classical.em (GC listed i) with x|x
   ·exact x
   ·exfalso
    have:i∈Region.ready .any ops listed:=mem_ready.2 ⟨by
     have h0:listed.getD i false=false:=by simpa[GC] using x
     have hlt:i<listed.size:=by omega
     simp only[Array.getD,hlt,dite_true] at h0 ⊢
     exact h0,ops[i],by simp[hi],fun e he hb=>by
      have:=R.yI i ops[i] e (by simp[hi]) he hb;exact ih e.on this (by omega)⟩
    rw[hrd] at this;simp at this
 intro fuel
 induction fuel with
 | zero=>
  intro listed a w hsz hD hJ hc
  have hrd:Region.ready .any ops listed=[]:=by
   apply List.eq_nil_iff_forall_not_mem.2;intro i hi;obtain⟨h0,o,ho,_⟩:=mem_ready.1 hi;have hlt:=BI ho;have hz:=List.countP_eq_zero.1 (Nat.le_zero.1 hc) i (by simp[hlt]);have dR:i<listed.size:=by omega
   simp only[Array.getD,dR,dite_true] at h0 hz;rw[h0] at hz;simp at hz
  exact⟨hrd,done listed a w hsz hJ hrd⟩
 | succ fuel ih=>
  intro listed a w hsz hD hJ hc;refine⟨done listed a w hsz hJ,fun m hmr=>?_⟩;obtain⟨h0,om,hm,hall⟩:=mem_ready.1 hmr;have hlt:=BI hm;have dR:m<listed.size:=by omega
  have h0':listed.getD m false=false:=by
   simp only[Array.getD,dR,dite_true] at h0 ⊢;exact h0
  have hn:¬ GC listed m:=by simp[GC,h0']
  refine wpOpIn_mono (fun a' w' hJ'=>?_) (oh R Qk hD hnp hJ hm hn hall);rw[<-GC.set dR] at hJ';refine ih _ a' w' (by simpa using hsz) ?_ hJ' ?_
  ·rw[GC.set dR]
   intro i o e ho hi he hb;rcases hi with hi|rfl
   ·exact .inl (hD i o e ho hi he hb)
   ·rw[hm] at ho; simp at ho; subst ho
    exact .inl (hall e he hb)
  ·have:=oo (n:=ops.size) (m:=m) (q:=fun i=>!(listed.getD i false)) (q':=fun i=>!((listed.setIfInBounds m true).getD i false)) hlt (fun i hi=>by
    have hne:i≠m:=fun e=>by subst e; simp[dR] at hi
    simpa[W6 (Ce hne)] using hi) (by simp[h0']) (by simp[dR])
   omega
theorem dS (R:Ug E L cf ops p K N ρ0 ρf σ) (Qk:Hr E L cf) (dU:E.P.follows .mixedOrders=true) {a:Act} {w:World} {g g1:AH} {id:Nat}
  (hnp:∀ (i:Nat) o ts d id,ops[i]?=some o->p.cls[i]?=some (.h ts)->o.dst=some d->Kg (ρf d)=some id->¬ g.C1 id)
  (h1:Ext L g w g1 w) (hI:Inv E g1 w (σ 0)) (hsz:a.tmps.size=N) (hρ:∀ t,V g1 w (ρ0 t) (a.tmps.getD t undef))
  (hpd:∀ (i:Nat) o ts d id,ops[i]?=some o->p.cls[i]?=some (.h ts)->o.dst=some d->Kg (ρf d)=some id->g1.C1 id)
  (hQ:∀ a' w' g',a'.tmps.size=N->a'.defers=a.defers->Ext L g w g' w'->Inv E g' w' (σ K)->(∀ t,V g' w' (ρf t) (a'.tmps.getD t undef))->Q .normal a' w') :
  (Code.region id ops true).wpIn (FW rd) 0 E.P Q a w:=by
 obtain⟨e1,i1⟩:=hI.drew (L:=L);refine wpIn_region_any dU (oq (ds:=a.defers) (g0:=g) (w0:=w) R Qk hnp ?_ ops.size _ a (A5 w) (by simp) ?_ ?_ ?_)
 ·rintro D a' w' hall ⟨k,g',wv,hc,ANh⟩
  have hK:k=K:=by
   have:=hc.kK;rcases CU k K with x|x
   ·obtain⟨i,o,ho,hr⟩:=R.ADV k x
    have:=(hc.time i o k ho hr).1 (hall i (BI ho));omega
   ·omega
  subst hK;rcases ANh with ⟨rfl,_⟩|⟨i,o,r,j,x,o1,o2,kf,_,_,_,h2,_,_,wT,_⟩
  ·refine hQ a' w' g' hc.size hc.defers hc.ext hc.inv fun t=>?_
   have:=hc.tmps t
   by_cases hw:∃ (i:Nat) (o:Oper),ops[i]?=some o/\o.dst=some t
   ·obtain⟨i,o,ho,hd⟩:=hw
    rw[Po ho hd (hall i (BI ho))] at this;exact this
   ·rw[R.SY fun i o ho hd=>hw ⟨i,o,ho,hd⟩] at this
    exact this
  ·exact absurd (hall x (BI h2)) wT
 ·intro i o e ho hi
  exfalso;have hlt:=BI ho;simp[GC,hlt] at hi
 ·have hnone:∀ i,¬ GC (Array.replicate ops.size false) i:=fun i hi=>by
   unfold GC at hi
   by_cases hlt:i<ops.size
   ·simp[hlt] at hi
   ·simp[hlt] at hi
  refine⟨0,g1,A5 w,⟨AM _,fun i o r ho hr=>⟨fun q=>absurd q (hnone i),fun q=>by omega⟩,hsz,rfl,h1.trans e1,i1,fun t=>?_,fun i o ts d id ho hc hd hid _=>hpd i o ts d id ho hc hd hid⟩,
   .inl ⟨rfl,fun i i' o' r' j' x' ho' Hl hi' _=>absurd hi' (hnone i')⟩⟩
  rw[Oj fun i o _ _=>hnone i];exact(hρ t).mono e1
 ·exact Bh List.countP_le_length (by simp)
end
theorem Ol {l:List Nat} {x:Nat}:has l x=true<->x∈l:=by
 unfold has;rw[HG];constructor
 ·rintro⟨y,hy,h⟩; rw[<-BM h]; exact hy
 ·intro h; exact⟨x,h,Nat.beq_refl x⟩
theorem JL {l:List Nat} {x:Nat}:has l x=false<->x∉l:=by
 rw[<-Ol]; simp
theorem MG {l:List (Nat×Nat)} {i k:Nat} (h:Mw l i k=true):(i,k)∈l:=by
 unfold Mw at h;obtain⟨y,hy,h⟩:=HG.1 h;simp only[AG] at h;rw[<-BM h.1,<-BM h.2];exact hy
theorem G6 {n:Nat} {f:Nat->Bool} (h:(List.range n).all f=true) {i:Nat} (hi:i<n):f i=true:=Bs.1 h i (by simpa using hi)
theorem Dn {ops:Array Oper} {i d:Nat}:d∈F9 ops i<->∃ o,ops[i]?=some o/\o.dst=some d:=by
 unfold F9 iL;cases ho:ops[i]? with
 | none=>simp
 | some o=>
  simp only;cases hd:o.dst with
  | none=>simp[hd]
  | some e=>simp[hd]; exact eq_comm
theorem Ga {st st':St} {d:Option Nat} {v:AV} (h:Kb st d v=some st') :
  st'.N=st.N/\st'.s=st.s/\(∀ e,d=some e->e<st.N/\st'.ρ e=v)/\∀ t,d≠some t->st'.ρ t=st.ρ t:=by
 unfold Kb at h;split at h
 ·simp at h; subst h; exact⟨rfl,rfl,by simp,fun _ _=>rfl⟩
 ·rename_i e
  cases hb:Nat.blt e st.N with
  | false=>simp[hb] at h
  | true=>
   simp[hb] at h; subst h;refine⟨rfl,rfl,fun e' he=>?_,fun t ht=>?_⟩
   ·simp at he; subst he
    exact⟨by simpa[IJ] using hb,by simp[XM]⟩
   ·have:Nat.beq t e=false:=by
     rw[Mo]; intro q; exact ht (by rw[BM q])
    simp[XM,this]
theorem Km {E:Env} {ρ:Nat->AV} {o:Oper} {cs:List AV} {mk:Nat->AV} (h:hcells E ρ o=some (cs,mk)):∀ id,Kg (mk id)=some id:=by
 obtain⟨dst,op,type,pos,after,guard⟩:=o;cases op with
 | alloc t=>
  simp only[hcells] at h;split at h
  ·cases hbz:E.bz t with
   | true=>rw[hbz] at h; simp at h
   | false=>
   rw[hbz] at h;simp only[AB,AY,Af] at h;obtain⟨_,rfl⟩:=h;intro id; rfl
  ·simp at h
 | makeSlice t l c=>
  simp only[hcells] at h;split at h
  ·split at h
   ·split at h
    ·simp only[AY,Af] at h
     obtain⟨_,rfl⟩:=h;intro id; rfl
    ·simp at h
   ·simp at h
  ·simp at h
 | _=>simp[hcells] at h
def Sb (ops:Array Oper) (p:Bg) (ρ0 ρf ρ:Nat->AV) (i:Nat):Prop:=∀ t∈lO ops p i,ρ t=Fx p.G0 ρ0 ρf i t
theorem Pu {ops:Array Oper} {p:Bg} {ρ0 ρf:Nat->AV} {done:List Nat} {i:Nat} {rest:List Nat} {st:St} (ho:IQ ops p done (i::rest)=true) (h0:∀ t,t∉done->st.ρ t=ρ0 t)
  (hf:∀ t,(∀ j∈i::rest,t∉HW ops p j)->ρf t=st.ρ t):Sb ops p ρ0 ρf st.ρ i:=by
 intro t ht;simp only[IQ,AG] at ho;have h1:=Bs.1 ho.1.1 t ht;unfold Fx;cases hw:has (HM p.G0 i) t with
 | true=>
  rw[hw] at h1;simp only[AE,Fq] at h1 ⊢;exact h0 t (JL.1 h1)
 | false=>
  rw[hw] at h1;simp only[AB,Fq,List.any_eq_false] at h1 ⊢;refine(hf t fun j hj=>?_).symm;have:=h1 j hj;simpa[Ol] using this
theorem Sc {ops:Array Oper} {p:Bg} {done:List Nat} {i:Nat} {rest:List Nat} (ho:IQ ops p done (i::rest)=true) :
  IQ ops p (HW ops p i++done) rest=true/\∀ t∈HW ops p i,∀ j∈rest,t∉HW ops p j:=by
 simp only[IQ,AG] at ho;refine⟨ho.2,fun t ht j hj=>?_⟩;have:=Bs.1 ho.1.2 t ht;simp only[Fq,List.any_eq_false] at this;simpa[Ol] using this j hj
theorem LQ {ops:Array Oper} {p:Bg} {i:Nat} {o:Oper} (hi:ops[i]?=some o) (hc:(∃ ts,p.cls[i]?=some (.q ts))\/(∃ ts,p.cls[i]?=some (.h ts))\/(∃ r,p.cls[i]?=some (.w r))) :
  lO ops p i=G5 ops o++GY o/\HW ops p i=F9 ops i:=by
 rcases hc with ⟨ts,hc⟩|⟨ts,hc⟩|⟨r,hc⟩ <;> simp[lO,HW,hc,D2,hi]
section
variable {rd:Option Nat} {E:Env} {L:A0} {cf:Co} {ops:Array Oper} {p:Bg} {ρ0:Nat->AV}
structure ot (E:Env) (L:A0) (cf:Co) (ops:Array Oper) (p:Bg) (ρ0 ρf:Nat->AV) (N:Nat) (σ:Nat->AK) (i:Nat):Prop where
 q:∀ ts,p.cls[i]?=some (.q ts)->∃ o k v,ops[i]?=some o/\FQ E L ops (Fx p.G0 ρ0 ρf i) (σ k) o=some v/\(∀ d,o.dst=some d->d<N/\ρf d=v)/\∀ t∈ts,t=k\/Np ops i=true\/(i,t)∈p.Yz
 w:∀ r,p.cls[i]?=some (.w r)->∃ o v,ops[i]?=some o/\Nl E L cf ops (Fx p.G0 ρ0 ρf i) (σ r) o=some (v,σ (r+1))/\∀ d,o.dst=some d->d<N/\ρf d=v
 fa:∀ r j x,p.cls[i]?=some (.fa r j x)->∃ o o1 o2 k v ρ,ops[i]?=some o/\ops[j]?=some o1/\ops[x]?=some o2/\fused o o1 o2=some k/\NQ E L ρ (σ r) k=some (v,σ (r+1))/\Sb ops p ρ0 ρf ρ i /\
  k.d<N/\k.p<N/\ρf k.d=v/\ρf k.p=.HU
 h:∀ ts,p.cls[i]?≠some (.h ts)
def Iy (acc:List AK) (k:Nat):AK:=(acc.reverse[k]?).getD ⟨[],[]⟩
theorem My {new acc:List AK} {k:Nat} (h:acc.length=k+1):Iy (new++acc) k=(acc.head?).getD ⟨[],[]⟩:=by
 unfold Iy;rw[List.reverse_append,BA (by simp; omega)];cases acc with
 | nil=>simp at h
 | cons s acc=>
  simp only[A3,Nat.add_right_cancel_iff] at h;rw[List.reverse_cons,CV (by simp; omega)];simp[h]
theorem dV {K:Nat} {Qm:St} {Ju:List AK}:∀ (rest:List Nat) (done:List Nat) (st:St) (acc:List AK) (k:Nat),IQ ops p done rest=true->(∀ t,t∉done->st.ρ t=ρ0 t) ->
  KN ops p rest k=some K->acc.length=k+1->acc.head?=some st.s->G2 E L cf ops p.cls rest st acc=some (Qm,Ju) ->
  Qm.N=st.N/\(∀ t,(∀ j∈rest,t∉HW ops p j)->Qm.ρ t=st.ρ t)/\(∃ new,Ju=new++acc)/\Ju.length=K+1/\Ju.head?=some Qm.s/\k<=K /\
  (∀ i∈rest,ot E L cf ops p ρ0 Qm.ρ st.N (Iy Ju) i)/\(∀ i∈rest,∀ r,FG p i=some r->r<K)/\(∀ r,k<=r->r<K->∃ i∈rest,FG p i=some r):=by
 intro rest
 induction rest with
 | nil=>
  intro done st acc k ho h0 hr hl hh h;simp[G2] at h;obtain⟨rfl,rfl⟩:=h;simp[KN] at hr;subst hr;exact⟨rfl,fun _ _=>rfl,⟨[],rfl⟩,hl,hh,AL _,by simp,by simp,fun r a b=>by omega⟩
 | cons i rest ih=>
  intro done st acc k ho h0 hr hl hh h;obtain⟨ho',HX⟩:=Sc ho
  have tail:∀ (st':St) (acc':List AK) (k':Nat),st'.N=st.N->(∀ t,t∉HW ops p i->st'.ρ t=st.ρ t)->KN ops p rest k'=some K->acc'.length=k'+1->acc'.head?=some st'.s->(∃ n,acc'=n++acc) ->
    G2 E L cf ops p.cls rest st' acc'=some (Qm,Ju)->((FG p i=none/\k'=k)\/(FG p i=some k/\k'=k+1)) ->
    ((∀ t,(∀ j∈rest,t∉HW ops p j)->Qm.ρ t=st'.ρ t)->Sb ops p ρ0 Qm.ρ st.ρ i->Iy Ju k=st.s->Iy Ju k'=st'.s->ot E L cf ops p ρ0 Qm.ρ st.N (Iy Ju) i) ->
    Qm.N=st.N/\(∀ t,(∀ j∈i::rest,t∉HW ops p j)->Qm.ρ t=st.ρ t)/\(∃ new,Ju=new++acc)/\Ju.length=K+1/\Ju.head?=some Qm.s/\k<=K /\
    (∀ j∈i::rest,ot E L cf ops p ρ0 Qm.ρ st.N (Iy Ju) j)/\(∀ j∈i::rest,∀ r,FG p j=some r->r<K)/\(∀ r,k<=r->r<K->∃ j∈i::rest,FG p j=some r):=by
   intro st' acc' k' hN hfr hr' hl' hh' hacc hrun Rs AHi
   have h0':∀ t,t∉HW ops p i++done->st'.ρ t=ρ0 t:=fun t ht=>by
    rw[hfr t (fun q=>ht (K9 _ q))];exact h0 t (fun q=>ht (Dt _ q))
   obtain⟨t1,t2,⟨new,t3⟩,t4,t5,t6,t7,t8,t9⟩:=ih _ st' acc' k' ho' h0' hr' hl' hh' hrun
   have hframe:∀ t,(∀ j∈i::rest,t∉HW ops p j)->Qm.ρ t=st.ρ t:=fun t ht=>by
    rw[t2 t (fun j hj=>ht j (Du _ hj)),hfr t (ht i (I1 ..))]
   obtain⟨n,rfl⟩:=hacc;have SA:Iy Ju k=st.s:=by rw[t3,<-DI,My hl,hh]; rfl
   have hk2:Iy Ju k'=st'.s:=by rw[t3,My hl',hh']; rfl
   have hi:=AHi t2 (Pu ho h0 hframe) SA hk2;refine⟨t1.trans hN,hframe,⟨new++n,by rw[t3,DI]⟩,t4,t5,by rcases Rs with ⟨_,e⟩|⟨_,e⟩ <;> omega,fun j hj=>?_,fun j hj r hrr=>?_,fun r h1 h2=>?_⟩
   ·rcases Av.1 hj with rfl|hj
    ·exact hi
    ·have:=t7 j hj; rw[hN] at this; exact this
   ·rcases Av.1 hj with rfl|hj
    ·rcases Rs with ⟨e,_⟩|⟨e,e'⟩
     ·rw[e] at hrr; simp at hrr
     ·rw[e] at hrr; simp at hrr; omega
    ·exact t8 j hj r hrr
   ·rcases Rs with ⟨_,e⟩|⟨e,e'⟩
    ·obtain⟨j,hj,h3⟩:=t9 r (by omega) h2
     exact⟨j,Du _ hj,h3⟩
    ·by_cases Rs:r=k
     ·exact⟨i,I1 ..,by rw[Rs]; exact e⟩
     ·obtain⟨j,hj,h3⟩:=t9 r (by omega) h2
      exact⟨j,Du _ hj,h3⟩
  simp only[G2] at h;simp only[KN] at hr;split at h
  ·rename_i o ts LP Ez
   rw[Ez] at hr;simp only at hr;obtain⟨r1,r2⟩:=LQ LP (.inl ⟨ts,Ez⟩);cases hall:(ts.all fun t=>Nat.beq t k||Np ops i||Mw p.Yz i t) with
   | false=>rw[hall] at hr; simp at hr
   | true=>
    rw[hall] at hr;simp only[AE] at hr;split at h
    ·rename_i v hq
     split at h
     ·rename_i st' hp
      obtain⟨a1,a2,a3,a4⟩:=Ga hp;refine tail st' acc k a1 (fun t ht=>a4 t fun e=>ht (by rw[r2]; exact Dn.2 ⟨o,LP,e⟩)) hr hl (by rw[a2]; exact hh) ⟨[],rfl⟩ h (.inl ⟨Pt Ez,rfl⟩) fun hfr hag hs1 hs2=>?_
      refine⟨fun ts' h'=>?_,fun r h'=>by rw[Ez] at h'; simp at h',fun r j x h'=>by rw[Ez] at h'; simp at h',fun ts' h'=>by rw[Ez] at h'; simp at h'⟩;rw[Ez] at h'; simp at h'; subst h';refine⟨o,k,v,LP,?_,fun d hd=>⟨(a3 d hd).1,?_⟩,fun t ht=>?_⟩
      ·rw[hs1,<-JA (fun t ht=>hag t (by rw[r1]; exact ht))]; exact hq
      ·rw[hfr d (fun j hj=>HX d (by rw[r2]; exact Dn.2 ⟨o,LP,hd⟩) j hj)]; exact(a3 d hd).2
      ·have:=Bs.1 hall t ht
       simp only[DJ] at this;rcases this with (q|q)|q
       ·exact .inl (BM q)
       ·exact .inr (.inl q)
       ·exact .inr (.inr (MG q))
     ·simp at h
    ·simp at h
  ·rename_i o r LP Ez
   rw[Ez] at hr;simp only at hr;obtain⟨r1,r2⟩:=LQ LP (.inr (.inr ⟨r,Ez⟩));cases Rs:Nat.beq r k with
   | false=>rw[Rs] at hr; simp at hr
   | true=>
    rw[Rs] at hr;simp only[AE] at hr;have Rs:=BM Rs;subst Rs;split at h
    ·rename_i v s' hact
     split at h
     ·rename_i st' hp
      obtain⟨a1,a2,a3,a4⟩:=Ga hp;refine tail st' (s'::acc) (r+1) a1 (fun t ht=>a4 t fun e=>ht (by rw[r2]; exact Dn.2 ⟨o,LP,e⟩)) hr (by simp[hl]) (by rw[a2]; rfl) ⟨[s'],rfl⟩ h (.inr ⟨KO Ez,rfl⟩) fun hfr hag hs1 hs2=>?_
      refine⟨fun ts' h'=>by rw[Ez] at h'; simp at h',fun r' h'=>?_,fun r j x h'=>by rw[Ez] at h'; simp at h',fun ts' h'=>by rw[Ez] at h'; simp at h'⟩;rw[Ez] at h'; simp at h'; subst h';refine⟨o,v,LP,?_,fun d hd=>⟨(a3 d hd).1,?_⟩⟩
      ·rw[hs1,hs2,a2,<-Nr (fun t ht=>hag t (by rw[r1]; exact ht))]; exact hact
      ·rw[hfr d (fun j hj=>HX d (by rw[r2]; exact Dn.2 ⟨o,LP,hd⟩) j hj)]; exact(a3 d hd).2
     ·simp at h
    ·simp at h
  ·rename_i o r j x LP Ez
   rw[Ez] at hr;simp only at hr;cases Rs:Nat.beq r k with
   | false=>rw[Rs] at hr; simp at hr
   | true=>
    rw[Rs] at hr;simp only[AE] at hr;have Rs:=BM Rs;subst Rs;split at h
    ·rename_i o1 o2 nS hox
     split at h
     ·rename_i kf hf
      obtain⟨f1,f2,f3,f4,f5,f6,f7,f8,f9,f10,f11⟩:=GZ hf;have hew:HW ops p i=[kf.d,kf.p]:=by simp[HW,Ez,F9,iL,LP,nS,f2,f4]
      split at h
      ·rename_i v s' Js
       split at h
       ·rename_i st' hp
        unfold LK at hp;split at hp
        ·rename_i E7 hp1
         obtain⟨a1,a2,a3,a4⟩:=Ga hp1;obtain⟨b1,b2,b3,b4⟩:=Ga hp;obtain⟨a31,a32⟩:=a3 kf.d rfl;obtain⟨b31,b32⟩:=b3 kf.p rfl;refine tail st' (s'::acc) (r+1) (b1.trans a1) (fun t ht=>?_) hr (by simp[hl]) (by rw[b2,a2]; rfl) ⟨[s'],rfl⟩ h (.inr ⟨KB Ez,rfl⟩) fun hfr hag hs1 hs2=>?_
         ·rw[hew] at ht
          simp at ht;rw[b4 t (fun e=>ht.2 (by simpa using e.symm)),a4 t (fun e=>ht.1 (by simpa using e.symm))]
         ·refine⟨fun ts' h'=>by rw[Ez] at h'; simp at h',fun r' h'=>by rw[Ez] at h'; simp at h',fun r' j' x' h'=>?_,fun ts' h'=>by rw[Ez] at h'; simp at h'⟩
          rw[Ez] at h'; simp at h'; obtain⟨rfl,rfl,rfl⟩:=h';refine⟨o,o1,o2,kf,v,st.ρ,LP,nS,hox,hf,?_,hag,a31,by rw[a1] at b31; exact b31,?_,?_⟩
          ·rw[hs1,hs2,b2,a2]; exact Js
          ·rw[hfr kf.d (fun q hq=>HX kf.d (by rw[hew]; simp) q hq),b4 kf.d (fun e=>f7 (by simpa using e.symm))]; exact a32
          ·rw[hfr kf.p (fun q hq=>HX kf.p (by rw[hew]; simp) q hq)]; exact b32
        ·simp at hp
       ·simp at h
      ·simp at h
     ·simp at h
    ·simp at h
  ·rename_i o LP Ez
   rw[Ez] at hr
   exact tail st acc k rfl (fun _ _=>rfl) hr hl hh ⟨[],rfl⟩ h (.inl ⟨iM Ez,rfl⟩) fun _ _ _ _=>
    ⟨fun ts' h'=>by rw[Ez] at h'; simp at h',fun r' h'=>by rw[Ez] at h'; simp at h',fun r' j' x' h'=>by rw[Ez] at h'; simp at h',fun ts' h'=>by rw[Ez] at h'; simp at h'⟩
  ·rename_i o LP Ez
   rw[Ez] at hr
   exact tail st acc k rfl (fun _ _=>rfl) hr hl hh ⟨[],rfl⟩ h (.inl ⟨iP Ez,rfl⟩) fun _ _ _ _=>
    ⟨fun ts' h'=>by rw[Ez] at h'; simp at h',fun r' h'=>by rw[Ez] at h'; simp at h',fun r' j' x' h'=>by rw[Ez] at h'; simp at h',fun ts' h'=>by rw[Ez] at h'; simp at h'⟩
  ·simp at h
structure ADc (E:Env) (L:A0) (ops:Array Oper) (p:Bg) (ρ0 ρf:Nat->AV) (N lo hi:Nat) (i:Nat):Prop where
 q:∀ ts,p.cls[i]?=some (.q ts)->∃ o s v,ops[i]?=some o/\FQ E L ops (Fx p.G0 ρ0 ρf i) s o=some v/\(∀ d,o.dst=some d->d<N/\ρf d=v)/\∀ t∈ts,Np ops i=true\/(i,t)∈p.Yz
 h:∀ ts,p.cls[i]?=some (.h ts)->∃ o cs mk id,ops[i]?=some o/\hcells E (Fx p.G0 ρ0 ρf i) o=some (cs,mk)/\(∀ d,o.dst=some d->d<N/\ρf d=mk id)/\lo<=id/\id<hi/\∀ t∈ts,(i,t)∈p.Yz
 n:FG p i=none/\p.cls[i]?≠some .fj/\p.cls[i]?≠some .fx
theorem Qn {E7:St} {rest:List Nat} {ρf:Nat->AV} (ZQ:∀ t,(∀ j∈rest,t∉HW ops p j)->ρf t=E7.ρ t):∀ (first:List Nat) (done:List Nat) (st:St),IQ ops p done (first++rest)=true ->
  (∀ t,t∉done->st.ρ t=ρ0 t)->Rr ops p first=true->Iq E L ops p.cls first st=some E7 ->
  ∃ hs done',E7.N=st.N/\(∀ t,(∀ j∈first,t∉HW ops p j)->E7.ρ t=st.ρ t)/\E7.s={ st.s with bs:=st.s.bs++hs }/\IQ ops p done' rest=true/\(∀ t,t∉done'->E7.ρ t=ρ0 t) /\
  (∀ i∈first,ADc E L ops p ρ0 ρf st.N st.s.bs.length (st.s.bs++hs).length i) /\
  (∀ i j oi oj ts us d e id,i∈first->j∈first->ops[i]?=some oi->ops[j]?=some oj->p.cls[i]?=some (.h ts)->p.cls[j]?=some (.h us)->oi.dst=some d->oj.dst=some e->Kg (ρf d)=some id->Kg (ρf e)=some id->i=j):=by
 intro first
 induction first with
 | nil=>
  intro done st ho h0 hf h;simp[Iq] at h;subst h;exact⟨[],done,rfl,fun _ _=>rfl,by simp,ho,h0,by simp,by simp⟩
 | cons i first ih=>
  intro done st ho h0 hf h;rw[EZ] at ho;obtain⟨ho',HX⟩:=Sc ho;simp only[Rr,AG] at hf;simp only[Iq] at h;split at h
  ·rename_i o ts LP Ez
   have wU:=hf.1;rw[Ez] at wU;simp only at wU;obtain⟨r1,r2⟩:=LQ LP (.inl ⟨ts,Ez⟩);split at h
   ·rename_i v hq
    split at h
    ·rename_i st' hp
     obtain⟨a1,a2,a3,a4⟩:=Ga hp;have hfr:∀ t,t∉HW ops p i->st'.ρ t=st.ρ t:=fun t ht=>a4 t fun e=>ht (by rw[r2]; exact Dn.2 ⟨o,LP,e⟩)
     obtain⟨hs,done',b1,b2,b3,b4,b5,b6,b7⟩:=ih _ st' ho' (fun t ht=>by
      rw[hfr t (fun q=>ht (K9 _ q))];exact h0 t (fun q=>ht (Dt _ q))) hf.2 h
     have hframe:∀ t,(∀ j∈i::first,t∉HW ops p j)->E7.ρ t=st.ρ t:=fun t ht=>by
      rw[b2 t (fun j hj=>ht j (Du _ hj)),hfr t (ht i (I1 ..))]
     have ZR:∀ t,(∀ j∈first++rest,t∉HW ops p j)->ρf t=st'.ρ t:=fun t ht=>by
      rw[ZQ t (fun j hj=>ht j (Dt _ hj)),b2 t (fun j hj=>ht j (K9 _ hj))]
     have hag:Sb ops p ρ0 ρf st.ρ i:=Pu ho h0 fun t ht=>by
      rw[ZR t (fun j hj=>ht j (Du _ hj)),hfr t (ht i (I1 ..))]
     rw[a2] at b3;refine⟨hs,done',b1.trans a1,hframe,b3,b4,b5,fun j hj=>?_,?_⟩
     ·rcases Av.1 hj with rfl|hj
      ·refine⟨fun ts' h'=>?_,fun ts' h'=>by rw[Ez] at h'; simp at h',Pt Ez,by rw[Ez]; simp,by rw[Ez]; simp⟩
       rw[Ez] at h'; simp at h'; subst h';refine⟨o,st.s,v,LP,?_,fun d hd=>⟨(a3 d hd).1,?_⟩,fun t ht=>?_⟩
       ·rw[<-JA (fun t ht=>hag t (by rw[r1]; exact ht))]; exact hq
       ·rw[ZR d (HX d (by rw[r2]; exact Dn.2 ⟨o,LP,hd⟩))]; exact(a3 d hd).2
       ·have:=Bs.1 wU t ht
        simp only[DJ] at this;rcases this with q|q
        ·exact .inl q
        ·exact .inr (MG q)
      ·have:=b6 j hj; rw[a1,a2] at this; exact this
     ·intro i1 j1 oi oj Qo us d e id hi1 wV e1 e2 e3 e4 e5 e6 e7 e8
      rcases Av.1 hi1 with rfl|hi1
      ·rw[Ez] at e3; simp at e3
      ·rcases Av.1 wV with rfl|wV
       ·rw[Ez] at e4; simp at e4
       ·exact b7 i1 j1 oi oj Qo us d e id hi1 wV e1 e2 e3 e4 e5 e6 e7 e8
    ·simp at h
   ·simp at h
  ·rename_i o ts LP Ez
   have wU:=hf.1;rw[Ez] at wU;simp only at wU;obtain⟨r1,r2⟩:=LQ LP (.inr (.inl ⟨ts,Ez⟩));split at h
   ·rename_i cs mk hq
    split at h
    ·rename_i st' hp
     obtain⟨a1,a2,a3,a4⟩:=Ga hp;have hfr:∀ t,t∉HW ops p i->st'.ρ t=st.ρ t:=fun t ht=>a4 t fun e=>ht (by rw[r2]; exact Dn.2 ⟨o,LP,e⟩)
     obtain⟨hs,done',b1,b2,b3,b4,b5,b6,b7⟩:=ih _ st' ho' (fun t ht=>by
      rw[hfr t (fun q=>ht (K9 _ q))];exact h0 t (fun q=>ht (Dt _ q))) hf.2 h
     have hframe:∀ t,(∀ j∈i::first,t∉HW ops p j)->E7.ρ t=st.ρ t:=fun t ht=>by
      rw[b2 t (fun j hj=>ht j (Du _ hj)),hfr t (ht i (I1 ..))]
     have ZR:∀ t,(∀ j∈first++rest,t∉HW ops p j)->ρf t=st'.ρ t:=fun t ht=>by
      rw[ZQ t (fun j hj=>ht j (Dt _ hj)),b2 t (fun j hj=>ht j (K9 _ hj))]
     have hag:Sb ops p ρ0 ρf st.ρ i:=Pu ho h0 fun t ht=>by
      rw[ZR t (fun j hj=>ht j (Du _ hj)),hfr t (ht i (I1 ..))]
     rw[a2] at b3
     have hval:∀ d,o.dst=some d->d<st.N/\ρf d=mk st.s.bs.length:=fun d hd=>⟨(a3 d hd).1,by
      rw[ZR d (HX d (by rw[r2]; exact Dn.2 ⟨o,LP,hd⟩))]; exact(a3 d hd).2⟩
     have hlen:st'.s.bs.length=st.s.bs.length+1:=by rw[a2]; simp
     have Ir:∀ j∈first,∀ oj us e id,ops[j]?=some oj->p.cls[j]?=some (.h us)->oj.dst=some e->Kg (ρf e)=some id->st.s.bs.length+1<=id:=by
      intro j hj oj us e id e2 e4 e6 e8;obtain⟨o',cs',mk',id',q1,q2,q3,q4,q5,q6⟩:=(b6 j hj).h us e4;rw[e2] at q1; simp at q1; subst q1;rw[(q3 e e6).2,Km q2] at e8;simp at e8;omega
     refine⟨cs::hs,done',b1.trans a1,hframe,by rw[b3]; simp,b4,b5,fun j hj=>?_,?_⟩
     ·rcases Av.1 hj with rfl|hj
      ·refine⟨fun ts' h'=>by rw[Ez] at h'; simp at h',fun ts' h'=>?_,oc Ez,by rw[Ez]; simp,by rw[Ez]; simp⟩
       rw[Ez] at h'; simp at h'; subst h';refine⟨o,cs,mk,st.s.bs.length,LP,?_,hval,AL _,by simp,fun t ht=>?_⟩
       ·rw[<-Oi (fun t ht=>hag t (by rw[r1]; exact Dt _ ht))]; exact hq
       ·exact MG (Bs.1 wU t ht)
      ·have:=b6 j hj
       rw[a1,hlen] at this;refine⟨this.q,fun ts' h'=>?_,this.n⟩;obtain⟨o',cs',mk',id',q1,q2,q3,q4,q5,q6⟩:=this.h ts' h';exact⟨o',cs',mk',id',q1,q2,q3,by omega,by rw[Ab,hlen] at q5; simp; omega,q6⟩
     ·intro i1 j1 oi oj Qo us d e id hi1 wV e1 e2 e3 e4 e5 e6 e7 e8
      rcases Av.1 hi1 with rfl|hi1
      ·rcases Av.1 wV with rfl|wV
       ·rfl
       ·rw[LP] at e1; simp at e1; subst e1
        rw[(hval d e5).2,Km hq] at e7;simp at e7;have:=Ir j1 wV oj us e id e2 e4 e6 e8;omega
      ·rcases Av.1 wV with rfl|wV
       ·rw[LP] at e2; simp at e2; subst e2
        rw[(hval e e6).2,Km hq] at e8;simp at e8;have:=Ir i1 ‹i1∈first› oi Qo d id e1 e3 e5 e7
        omega
       ·exact b7 i1 j1 oi oj Qo us d e id hi1 wV e1 e2 e3 e4 e5 e6 e7 e8
    ·simp at h
   ·simp at h
  ·simp at h
end
theorem Gb {l:List Nat} {x:Nat} (h:has l x=true):x∈l:=Ol.1 h
theorem lT {E:Env} {L:A0} {ops:Array Oper} {cls:List c9} {G0:List (List Nat)} {ρ0 ρf:Nat->AV} {σ:List AK}:∀ (Yz:List (Nat×Nat)),dA E L ops cls G0 ρ0 ρf σ Yz=true->∀ i k,(i,k)∈Yz ->
  (∀ o ts,ops[i]?=some o->cls[i]?=some (.q ts)->∃ s v,σ[k]?=some s/\FQ E L ops (Fx G0 ρ0 ρf i) s o=some v/\∀ d,o.dst=some d->ρf d=v) /\
  (∀ o ts,ops[i]?=some o->cls[i]?=some (.h ts)->∃ s cs mk d id,σ[k]?=some s/\hcells E (Fx G0 ρ0 ρf i) o=some (cs,mk)/\o.dst=some d/\Kg (ρf d)=some id/\s.bs[id]?=some cs):=by
 intro Yz
 induction Yz with
 | nil=>intro _ i k h; simp at h
 | cons q Yz ih=>
  obtain⟨i',k'⟩:=q;intro h i k hm;simp only[dA,AG] at h;rcases Av.1 hm with e|hm
  ·simp at e
   obtain⟨rfl,rfl⟩:=e;have h:=h.1;split at h
   ·rename_i o ts s ho hc hs
    refine⟨fun o' ts' ho' _=>?_,fun o' ts' _ Hl=>by rw[hc] at Hl; simp at Hl⟩;rw[ho] at ho'; simp at ho'; subst ho';split at h
    ·rename_i v hq
     refine⟨s,v,hs,hq,fun d hd=>?_⟩;rw[hd] at h;exact(Pm _ _ h).symm
    ·simp at h
   ·rename_i o ts s ho hc hs
    refine⟨fun o' ts' _ Hl=>by rw[hc] at Hl; simp at Hl,fun o' ts' ho' _=>?_⟩;rw[ho] at ho'; simp at ho'; subst ho';split at h
    ·rename_i cs mk d hh hd
     split at h
     ·rename_i id hid
      split at h
      ·rename_i cs' hcs
       exact⟨s,cs,mk,d,id,hs,hh,hd,hid,by rw[hcs,Hq _ _ h]⟩
      ·simp at h
     ·simp at h
    ·simp at h
   ·simp at h
  ·exact ih h.2 i k hm
theorem Inv.ou {E:Env} {w:World}:∀ (hs:List (List AV)) (g:AH) (s:AK),Inv E g w s->∃ q:Nat->Prop,(∀ id,g.C1 id->q id)/\(∀ id,s.bs.length<=id->id<s.bs.length+hs.length->q id)/\Inv E (g.B5 q) w { s with bs:=s.bs++hs }:=by
 intro hs
 induction hs with
 | nil=>intro g s h; exact⟨g.C1,fun _ q=>q,fun id a b=>by simp at b; omega,by simpa using h.B5 h.DV (fun _ q=>q) (fun id b hb=>(h.KM id b hb).2.2)⟩
 | cons cs hs ih=>
  intro g s h;obtain⟨q,h1,h2,h3⟩:=ih _ _ (h.reserve cs);refine⟨q,fun id hq=>h1 id (.inl hq),fun id a b=>?_,by simpa[AH.B5] using h3⟩
  by_cases e:id=s.bs.length
  ·exact h1 id (.inr e)
  ·exact h2 id (by simp; omega) (by simp at b ⊢; omega)
theorem ZS {acc:List AK} {k:Nat} {s:AK} (h:acc.reverse[k]?=some s):Iy acc k=s:=by simp[Iy,h]
theorem ZT {E:Env} {L:A0} {ρ ρ':Nat->AV} {s:AK} {k:Kc} (h:∀ z,z=k.x\/z=k.y\/z=k.ix\/z=k.v->AP ρ z=AP ρ' z):Kf E L ρ' s k=Kf E L ρ s k:=by
 unfold Kf;rw[h k.x (.inl rfl),h k.y (.inr (.inl rfl)),h k.ix (.inr (.inr (.inl rfl))),h k.v (.inr (.inr (.inr rfl)))]
theorem ZU {E:Env} {L:A0} {ρ ρ':Nat->AV} {s:AK} {k:Kc} (h:∀ z,z=k.x\/z=k.y\/z=k.ix\/z=k.v->AP ρ z=AP ρ' z):ZB E L ρ' s k=ZB E L ρ s k:=by
 unfold ZB;rw[h k.x (.inl rfl),h k.y (.inr (.inl rfl)),h k.ix (.inr (.inr (.inl rfl))),h k.v (.inr (.inr (.inr rfl)))]
theorem ZV {E:Env} {L:A0} {ρ ρ':Nat->AV} {s:AK} {k:Kc} (h:∀ z,z=k.x\/z=k.y\/z=k.ix\/z=k.v->AP ρ z=AP ρ' z):NQ E L ρ' s k=NQ E L ρ s k:=by
 unfold NQ;rw[ZT h,ZU h]
theorem Qp {ops:Array Oper} {p:Bg} {ρ0 ρf:Nat->AV} {FR:Nat}:∀ {l:List Nat},VG ops p ρ0 ρf FR l=true->∀ m∈l,∀ om r' t y z,ops[m]?=some om->p.cls[m]?=some (.w r')->om.op=.store t y z ->
  ∀ id off',AP (Fx p.G0 ρ0 ρf m) y=.ptr id off'->id≠FR
 | [],_,m,hm=>by simp at hm
 | n::l,h,m,hm=>by
  intro om r' t y z hom hc hop id off' hy;simp only[VG,AG] at h;rcases Av.1 hm with rfl|hm
  ·have h1:=h.1
   rw[hom,hc] at h1;simp only[hop,hy,Fq] at h1;intro e;rw[e] at h1;simp at h1
  ·exact Qp h.2 m hm om r' t y z hom hc hop id off' hy
theorem Qq {E:Env} {L:A0} {ops:Array Oper} {p:Bg} {ρ0 ρf:Nat->AV}:∀ {l:List Nat},iE E L ops p ρ0 ρf l=true->∀ i∈l,∀ o r j x d FR off len sz,Ub E L ops i j x=true->ops[i]?=some o->p.cls[i]?=some (.fa r j x)->o.dst=some d->ρf d=.ref FR off len sz ->
  VG ops p ρ0 ρf FR p.rest=true
 | [],_,i,hi=>by simp at hi
 | n::l,h,i,hi=>by
  intro o r j x d FR off len sz hX ho hc hd hr;simp only[iE,AG] at h;rcases Av.1 hi with rfl|hi
  ·have h1:=h.1
   rw[hc] at h1;simp only[hX,AE,ho,hd,hr] at h1;exact h1
  ·exact Qq h.2 i hi o r j x d FR off len sz hX ho hc hd hr
theorem Sd {E:Env} {L:A0} {ops:Array Oper} {cls:List c9}:∀ {l:List Nat},oE E L ops cls l=true->∀ i∈l,∀ r j x,cls[i]?=some (.fa r j x)->Ub E L ops i j x=false
 | [],_,i,hi=>by simp at hi
 | n::l,h,i,hi=>by
  intro r j x hc;simp only[oE,AG] at h;rcases Av.1 hi with rfl|hi
  ·have h1:=h.1
   rw[hc] at h1;simpa using h1
  ·exact Sd h.2 i hi r j x hc
theorem ZW {E:Env} {L:A0} {ops:Array Oper} {p:Bg} {ρ0 ρf:Nat->AV} (h:ZD E L ops p ρ0 ρf=true):∀ i∈p.rest,∀ o r j x d FR off len sz,Ub E L ops i j x=true->ops[i]?=some o->p.cls[i]?=some (.fa r j x)->o.dst=some d->ρf d=.ref FR off len sz ->
  VG ops p ρ0 ρf FR p.rest=true:=by
 intro i hi o r j x d FR off len sz hX ho hc hd hr;unfold ZD at h;rcases Bool.or_eq_true_iff.1 h with h|h
 ·have:=Sd h i hi r j x hc
  rw[hX] at this;simp at this
 ·exact Qq h i hi o r j x d FR off len sz hX ho hc hd hr
section
variable {rd:Option Nat} {E:Env} {L:A0} {cf:Co} {ops:Array Oper} {p:Bg}
theorem dW (Qk:Hr E L cf) (dU:E.P.follows .mixedOrders=true) (JM:SR ops p=true) {g:AH} {w:World} {a:Act} {st st':St} {Q:Exit->Act->World->Prop} {id:Nat} (hI:Inv E g w st.s) (hsz:a.tmps.size=st.N)
  (hρ:∀ t,V g w (st.ρ t) (a.tmps.getD t undef)) (h:ZE E L cf p ops st=some st')
  (hQ:∀ a' w' g',a'.tmps.size=st'.N->a'.defers=a.defers->Ext L g w g' w'->Inv E g' w' st'.s->(∀ t,V g' w' (st'.ρ t) (a'.tmps.getD t undef))->st'.N=st.N->Q .normal a' w') :
  (Code.region id ops true).wpIn (FW rd) 0 E.P Q a w:=by
 unfold SR at JM;simp only at JM;split at JM
 ·simp at JM
 rename_i K hK;simp only[AG] at JM;obtain⟨⟨⟨⟨hlen,hmem⟩,hall⟩,AHl⟩,ow⟩:=JM;unfold ZE at h;split at h
 ·rename_i E7 h1
  split at h
  ·rename_i Qm Ju h2
   cases hch:dA E L ops p.cls p.G0 st.ρ Qm.ρ Ju.reverse p.Yz with
   | false=>rw[hch] at h; simp at h
   | true=>
    cases hmc:ZD E L ops p st.ρ Qm.ρ with
    | false=>rw[hch,hmc] at h; simp at h
    | true=>
    rw[hch,hmc] at h;simp at h;subst h;obtain⟨_,done',_,_,_,ho',h0',_,_⟩:=Qn (E:=E) (L:=L) (ρ0:=st.ρ) (ρf:=E7.ρ) (fun _ _=>rfl) p.first [] st AHl (fun _ _=>rfl) ow h1;obtain⟨r1,r2,⟨new,r3⟩,r4,r5,_,r7,r8,r9⟩:=dV (ρ0:=st.ρ) p.rest done' E7 [E7.s] 0 ho' h0' hK rfl rfl h2;obtain⟨hs,_,f1,f2,f3,_,_,f6,f7⟩:=Qn (E:=E) (L:=L) (ρ0:=st.ρ) (ρf:=Qm.ρ) r2 p.first [] st AHl (fun _ _=>rfl) ow h1;have AHm:=lT p.Yz hch;have hin:∀ (i:Nat) o,ops[i]?=some o->i∈p.first\/i∈p.rest:=fun i o ho=>BL.1 (Gb (G6 hmem (BI ho)))
    have hst:∀ (i:Nat) o,ops[i]?=some o->XZ ops p i=true/\LN ops p i=true/\AAS ops ops.size i=true/\oP ops p ops.size i=true/\Xb p ops.size i=true/\dK p ops.size K i=true/\Nq ops p ops.size i=true:=fun i o ho=>by
     have:=G6 hall (BI ho);simp only[AG] at this;obtain⟨⟨⟨⟨⟨⟨a1,a2⟩,a3⟩,a4⟩,a5⟩,a6⟩,a7⟩:=this;exact⟨a1,a2,a3,a4,a5,a6,a7⟩
    have hN1:E7.N=st.N:=f1;have hNf:Qm.N=st.N:=r1.trans f1;have hσ0:Iy Ju 0=E7.s:=by rw[r3,My rfl]; rfl
    have hσK:Iy Ju K=Qm.s:=by
     have:=My (new:=[]) r4;rw[Di] at this;rw[this,r5]; rfl
    have R:Ug E L cf ops p K st.N st.ρ Qm.ρ (Iy Ju):={
     yI:=fun i o e ho he hb=>by
      have:=(hst i o ho).1;simp only[XZ,ho,AG] at this;have:=Bs.1 this.1 e (by simpa using he);simpa[hb,IJ] using this
     pre:=fun i o j ho hj=>by
      have:=(hst i o ho).1;simp only[XZ,ho,AG] at this;obtain⟨e,he,h'⟩:=HG.1 (Bs.1 this.2 j hj);simp only[AG,DJ] at h';exact⟨e,by simpa using he,h'.1,h'.2.imp BM Gb⟩
     cls:=fun i o ho=>by
      have:=(hst i o ho).2.1;unfold LN at this;rw[ho] at this;cases hc:p.cls[i]? with
      | none=>rw[hc] at this; simp at this
      | some c=>exact⟨c,rfl⟩
     dst:=fun i j oi oj d hi hj Y0 oZ=>by
      have:=G6 (hst i oi hi).2.2.1 (BI hj);simp only[DJ] at this;rcases this with q|q
      ·exact(BM q).symm
      ·have:=Bs.1 q d (Dn.2 ⟨oj,hj,oZ⟩)
       simp only[Fq] at this;exact absurd (Dn.2 ⟨oi,hi,Y0⟩) (JL.1 this)
     read:=fun i j oi oj d hi hj oZ hd=>by
      have:=Bs.1 (G6 (hst i oi hi).2.2.2.1 (BI hj)) d (Dn.2 ⟨oj,hj,oZ⟩);have hr:has (D2 ops i) d=true:=Ol.2 (by simp only[D2,hi]; exact hd);rw[hr] at this;simp only[Rf,HH] at this;cases hw:has (HM p.G0 i) d with
      | true=>
       rw[hw] at this;simp only[AE,DJ] at this;exact .inl ⟨rfl,this.imp BM Gb⟩
      | false=>
       rw[hw] at this;exact .inr ⟨rfl,Gb (by simpa using this)⟩
     rk:=fun i j oi oj r r' hi hj L3 oy hlt=>by
      have:=(hst i oi hi).2.2.2.2.1;unfold Xb at this;rw[L3] at this;have:=G6 this (BI hj);rw[oy] at this;simp only[DJ,AG,Fq] at this;rcases this with q|⟨_,q⟩
      ·have:=BM q
       subst this;rw[L3] at oy; simp at oy; omega
      ·rcases q with q|q
       ·have:Nat.blt r r'=true:=by rw[IJ]; exact hlt
        rw[this] at q; simp at q
       ·exact Gb q
     AAX:=fun i j oi oj r hi hj L3 oy=>by
      have:=(hst i oi hi).2.2.2.2.1;unfold Xb at this;rw[L3] at this;have:=G6 this (BI hj);rw[oy] at this;simp only[DJ,AG,Fq] at this;rcases this with q|⟨q,_⟩
      ·exact BM q
      ·simp at q
     ADV:=fun k hk=>by
      obtain⟨i,hi,hr⟩:=r9 k (AM _) hk;have hR:=r7 i hi;unfold FG at hr;cases hc:p.cls[i]? with
      | none=>rw[hc] at hr; simp at hr
      | some c=>
       rw[hc] at hr;cases c with
       | w r=>obtain⟨o,_,ho,_⟩:=hR.w r hc; exact⟨i,o,ho,by unfold FG; rw[hc]; exact hr⟩
       | fa r j x=>obtain⟨o,_,_,_,_,_,ho,_⟩:=hR.fa r j x hc; exact⟨i,o,ho,by unfold FG; rw[hc]; exact hr⟩
       | _=>simp[J7] at hr
     ADW:=fun i o r ho hr=>by
      rcases hin i o ho with hi|hi
      ·have:=(f6 i hi).n.1; rw[this] at hr; simp at hr
      ·exact r8 i hi r hr
     time:=fun i o ts ho hc k hk hn=>by
      have ht:=(hst i o ho).2.2.2.2.2.1
      have key:((List.range (K+1)).all fun k=>has ts k||(List.range ops.size).any fun j=>match FG p j with
        | some r=>(has (D7 p i) j&&Nat.ble k r)||(has (D7 p j) i&&Nat.blt r k)
        | none=>false)=true:=by
       unfold dK at ht;rcases hc with hc|hc <;> rw[hc] at ht <;> simp only[AG] at ht <;> exact ht.1
      have:=G6 key (show k<K+1 by omega);rw[JL.2 hn,HH] at this;obtain⟨j,hj,h'⟩:=HG.1 this;cases hr:FG p j with
      | none=>rw[hr] at h'; simp at h'
      | some r=>
       rw[hr] at h';simp only[DJ,AG] at h';have ANl:j<ops.size:=by simpa using hj
       refine⟨j,ops[j],r,by simp[ANl],hr,h'.imp (fun q=>⟨Gb q.1,by simpa[Nat.ble_eq] using q.2⟩) (fun q=>⟨Gb q.1,by simpa[IJ] using q.2⟩)⟩
     oX:=fun i o r j x ho hc=>by
      have hfo:=(hst i o ho).2.2.2.2.2.2;unfold Nq at hfo;rw[hc] at hfo;simp only[AG] at hfo;obtain⟨⟨⟨⟨u1,u2⟩,u3⟩,u4⟩,u5⟩:=hfo;rcases hin i o ho with hi|hi
      ·have:=(f6 i hi).n.1; rw[KB hc] at this; simp at this
      obtain⟨o',o1,o2,kf,v,ρ,g1,g2,g3,g4,g5,g6,g7,g8,g9,g10⟩:=(r7 i hi).fa r j x hc;rw[ho] at g1; simp at g1; subst g1;obtain⟨q1,q2,q3,q4,q5,q6,q7,q8,q9,q10,q11⟩:=GZ g4
      have hcj:p.cls[j]?=some .fj/\p.cls[x]?=some .fx:=by
       split at u1
       ·rename_i e1 e2 _ _ _; exact⟨e1,e2⟩
       ·simp at u1
      have G0:∀ (i':Nat) o',ops[i']?=some o'->(p.cls[i']?=some (.fa r j x)\/p.cls[i']?=some .fj\/p.cls[i']?=some .fx)->HM p.G0 i'=[]:=fun i' o' ho' Hl=>by
       have:=(hst i' o' ho').2.1;unfold LN at this;rw[ho'] at this;rcases Hl with Hl|Hl|Hl <;> rw[Hl] at this <;> simp only[AG] at this <;> simpa using this.2
      have w1:=G0 i o ho (.inl hc);have w2:=G0 j o1 g2 (.inr (.inl hcj.1));have w3:=G0 x o2 g3 (.inr (.inr hcj.2));refine⟨o1,o2,kf,g2,g3,hcj.1,hcj.2,g4,w1,w2,w3,Gb u2,Gb u3,Gb u4,v,?_,g9,g10⟩;rw[<-g5];refine ZV fun z hz=>J8 fun t ht=>?_
      have hmem:t∈lO ops p i:=by
       unfold lO;rw[hc];simp only[List.mem_filter];have wS:F9 ops i++F9 ops j=[kf.d,kf.p]:=by simp[F9,iL,ho,g2,q2,q4]
       constructor
       ·simp only[BL]
        rcases hz with e|e|e|e
        ·exact .inl (.inl (by simp only[D2,ho]; exact Dt _ (DD.2 (by rw[q1]; simp[Op.operands,Call.operands,<-e,ht]))))
        ·exact .inl (.inl (by simp only[D2,ho]; exact Dt _ (DD.2 (by rw[q1]; simp[Op.operands,Call.operands,<-e,ht]))))
        ·exact .inl (.inr (by simp only[D2,g2]; exact Dt _ (DD.2 (by rw[q3]; simp[Op.operands,<-e,ht]))))
        ·exact .inr (by simp only[D2,g3]; exact Dt _ (DD.2 (by rw[q5]; simp[Op.operands,<-e,ht])))
       ·rw[wS]
        obtain⟨z1,z2⟩:=Ql g4 z hz;simp only[Fq,JL,Av,Fs,FL,not_or];exact⟨fun e=>z1 (by rw[ht,e]),fun e=>z2 (by rw[ht,e])⟩
      have:=g6 t hmem;rw[this];unfold Fx;rw[w1];rfl
     mu:=fun i o r j x d FR off len sz hX ho hc hd hq m om r' t y z hom Pv hop id off' hy=>by
      have hir:i∈p.rest:=by
       rcases hin i o ho with hi|hi
       ·have:=(f6 i hi).n.1; rw[KB hc] at this; simp at this
       ·exact hi
      have hmr:m∈p.rest:=by
       rcases hin m om hom with hi|hi
       ·have:=(f6 m hi).n.1; rw[KO Pv] at this; simp at this
       ·exact hi
      exact Qp (ZW hmc i hir o r j x d FR off len sz hX ho hc hd hq) m hmr om r' t y z hom Pv hop id off' hy
     win:=fun i o r j x ho hc m om hm h1 h2 h3=>by
      have hfo:=(hst i o ho).2.2.2.2.2.2;unfold Nq at hfo;rw[hc] at hfo;simp only[AG] at hfo;have:=G6 hfo.2 (BI hm);have n1:Nat.beq m i=false:=by rw[Mo]; exact fun q=>h1 (BM q)
      have n2:Nat.beq m j=false:=by rw[Mo]; exact fun q=>h2 (BM q)
      have n3:Nat.beq m x=false:=by rw[Mo]; exact fun q=>h3 (BM q)
      rw[n1,n2,n3] at this;simp only[HH,AG,DJ] at this;refine⟨this.1.imp Gb (fun q=>q.imp Gb (fun z=>z)),fun d hd hr=>?_⟩;have:=Bs.1 this.2 d (Dn.2 ⟨om,hm,hd⟩);simp only[DJ,Fq,FM] at this;rcases this with q|q
      ·rcases hr with hr|hr
       ·exact absurd hr (JL.1 q.1)
       ·exact absurd hr (JL.1 q.2)
      ·exact Gb q
     AHW:=fun j oj hj hc=>by
      have hfo:=(hst j oj hj).2.2.2.2.2.2;unfold Nq at hfo;rw[hc] at hfo;obtain⟨m,hm,h'⟩:=HG.1 hfo;have hlt:m<ops.size:=by simpa using hm
      split at h'
      ·rename_i r j' x' Pv
       have:=BM h';subst this;exact⟨m,ops[m],r,x',by simp[hlt],Pv⟩
      ·simp at h'
     AHX:=fun x ox hx hc=>by
      have hfo:=(hst x ox hx).2.2.2.2.2.2;unfold Nq at hfo;rw[hc] at hfo;obtain⟨m,hm,h'⟩:=HG.1 hfo;have hlt:m<ops.size:=by simpa using hm
      split at h'
      ·rename_i r j' x' Pv
       have:=BM h';subst this;exact⟨m,ops[m],r,j',by simp[hlt],Pv⟩
      ·simp at h'
     out:=fun t ht=>by
      have hw:∀ j,t∉HW ops p j:=fun j hj=>by
       unfold HW at hj;have nd:∀ q,t∉F9 ops q:=fun q hq=>by obtain⟨o,h1,h2⟩:=Dn.1 hq; exact ht q o h1 h2
       split at hj
       ·simp at hj
       ·simp at hj
       ·rcases BL.1 hj with q|q <;> exact nd _ q
       ·exact nd _ hj
      rw[r2 t (fun j _=>hw j),f2 t (fun j _=>hw j)]
     oY:=fun i o d ho hd=>by
      rcases hin i o ho with hi|hi
      ·have hF:=f6 i hi
       cases hc:p.cls[i]? with
       | none=>
        have:=(hst i o ho).2.1;unfold LN at this;rw[ho,hc] at this;simp at this
       | some c=>
        cases c with
        | q ts=>
         obtain⟨o',_,_,g1,_,g3,_⟩:=hF.q ts hc;rw[ho] at g1; simp at g1; subst g1;exact(g3 d hd).1
        | h ts=>
         obtain⟨o',_,_,_,g1,_,g3,_⟩:=hF.h ts hc;rw[ho] at g1; simp at g1; subst g1;exact(g3 d hd).1
        | w r=>have:=hF.n.1; rw[KO hc] at this; simp at this
        | fa r j x=>have:=hF.n.1; rw[KB hc] at this; simp at this
        | fj=>exact absurd hc hF.n.2.1
        | fx=>exact absurd hc hF.n.2.2
      ·have hF:=r7 i hi
       have faD:∀ (m:Nat) r j x,m<ops.size->p.cls[m]?=some (.fa r j x)->∃ o o1 o2 k,ops[m]?=some o/\ops[j]?=some o1/\ops[x]?=some o2/\fused o o1 o2=some k/\k.d<st.N/\k.p<st.N:=fun m r j x hm hc=>by
        rcases hin m ops[m] (by simp[hm]) with mi|mi
        ·have:=(f6 m mi).n.1; rw[KB hc] at this; simp at this
        ·obtain⟨o',o1,o2,kf,v,ρ,g1,g2,g3,g4,g5,g6,g7,g8,g9,g10⟩:=(r7 m mi).fa r j x hc
         exact⟨o',o1,o2,kf,g1,g2,g3,g4,by rw[<-hN1]; exact g7,by rw[<-hN1]; exact g8⟩
       have hfo:=(hst i o ho).2.2.2.2.2.2;unfold Nq at hfo;cases hc:p.cls[i]? with
       | none=>
        have:=(hst i o ho).2.1;unfold LN at this;rw[ho,hc] at this;simp at this
       | some c=>
        rw[hc] at hfo;cases c with
        | q ts=>
         obtain⟨o',_,_,g1,_,g3,_⟩:=hF.q ts hc;rw[ho] at g1; simp at g1; subst g1;rw[<-hN1]; exact(g3 d hd).1
        | h ts=>exact absurd hc (hF.h ts)
        | w r=>
         obtain⟨o',_,g1,_,g3⟩:=hF.w r hc;rw[ho] at g1; simp at g1; subst g1;rw[<-hN1]; exact(g3 d hd).1
        | fa r j x=>
         obtain⟨o',o1,o2,k,g1,g2,g3,g4,g5,g6⟩:=faD i r j x (BI ho) hc;rw[ho] at g1; simp at g1; subst g1;have:=(GZ g4).2.1;rw[hd] at this; simp at this; rw[this]; exact g5
        | fj=>
         obtain⟨m,hm,h'⟩:=HG.1 hfo;split at h'
         ·rename_i r j' x' Pv
          have:=BM h';subst this;obtain⟨o',o1,o2,k,g1,g2,g3,g4,g5,g6⟩:=faD m r j' x' (by simpa using hm) Pv;rw[ho] at g2; simp at g2; subst g2;have:=(GZ g4).2.2.2.1;rw[hd] at this; simp at this; rw[this]; exact g6
         ·simp at h'
        | fx=>
         obtain⟨m,hm,h'⟩:=HG.1 hfo;split at h'
         ·rename_i r j' x' Pv
          have:=BM h';subst this;obtain⟨o',o1,o2,k,g1,g2,g3,g4,g5,g6⟩:=faD m r j' x' (by simpa using hm) Pv;rw[ho] at g3; simp at g3; subst g3;have:=(GZ g4).2.2.2.2.2.1;rw[hd] at this; simp at this
         ·simp at h'
     wF:=fun i o r ho hc=>by
      rcases hin i o ho with hi|hi
      ·have:=(f6 i hi).n.1; rw[KO hc] at this; simp at this
      ·obtain⟨o',v,g1,g2,g3⟩:=(r7 i hi).w r hc
       rw[ho] at g1; simp at g1; subst g1;exact⟨v,g2,fun d hd=>(g3 d hd).2⟩
     qF:=fun i o ts k ho hc hk=>by
      have ZX:∀ s v,Np ops i=true->FQ E L ops (Fx p.G0 st.ρ Qm.ρ i) s o=some v->FQ E L ops (Fx p.G0 st.ρ Qm.ρ i) (Iy Ju k) o=some v:=fun s v hp hq=>by
       have hp':Xa o=true:=by simpa[Np,ho] using hp
       unfold FQ at hq ⊢;split at hq
       ·exact Xf hp' hq
       ·exact hq
       ·simp at hq
      have iQ:(i,k)∈p.Yz->∃ v,FQ E L ops (Fx p.G0 st.ρ Qm.ρ i) (Iy Ju k) o=some v/\∀ d,o.dst=some d->Qm.ρ d=v:=fun hm=>by
       obtain⟨s,v,g1,g2,g3⟩:=(AHm i k hm).1 o ts ho hc;exact⟨v,by rw[ZS g1]; exact g2,g3⟩
      rcases hin i o ho with hi|hi
      ·obtain⟨o',s,v,g1,g2,g3,g4⟩:=(f6 i hi).q ts hc
       rw[ho] at g1; simp at g1; subst g1;rcases g4 k hk with q|q
       ·exact⟨v,ZX s v q g2,fun d hd=>(g3 d hd).2⟩
       ·exact iQ q
      ·obtain⟨o',kk,v,g1,g2,g3,g4⟩:=(r7 i hi).q ts hc
       rw[ho] at g1; simp at g1; subst g1;rcases g4 k hk with q|q|q
       ·subst q; exact⟨v,g2,fun d hd=>(g3 d hd).2⟩
       ·exact⟨v,ZX _ v q g2,fun d hd=>(g3 d hd).2⟩
       ·exact iQ q
     hF:=fun i o ts ho hc=>by
      have hpo:=(hst i o ho).2.1;unfold LN at hpo;rw[ho,hc] at hpo;simp only[AG] at hpo;rcases hin i o ho with hi|hi
      ·obtain⟨o',cs,mk,id',g1,g2,g3,g4,g5,g6⟩:=(f6 i hi).h ts hc
       rw[ho] at g1; simp at g1; subst g1;obtain⟨d,hd⟩:=Mp.1 hpo.2;refine⟨by simpa using hpo.1,d,cs,mk,id',hd,g2,(g3 d hd).2,fun k hk=>?_⟩;obtain⟨s,cs',mk',d',ANn,e1,e2,e3,e4,e5⟩:=(AHm i k (g6 k hk)).2 o ts ho hc;rw[hd] at e3; simp at e3; subst e3;rw[(g3 d hd).2,Km g2] at e4;simp at e4; subst e4;rw[g2] at e2; simp at e2;rw[ZS e1,e5,e2.1]
      ·exact absurd hc ((r7 i hi).h ts)
     AHY:=fun i j oi oj ts us d e id' hi hj Ez hcj Y0 oZ ZP h2'=>by
      rcases hin i oi hi with m1|m1
      ·rcases hin j oj hj with m2|m2
       ·exact f7 i j oi oj ts us d e id' m1 m2 hi hj Ez hcj Y0 oZ ZP h2'
       ·exact absurd hcj ((r7 j m2).h us)
      ·exact absurd Ez ((r7 i m1).h ts) }
    have hid:∀ (i:Nat) o ts d id,ops[i]?=some o->p.cls[i]?=some (.h ts)->o.dst=some d->Kg (Qm.ρ d)=some id->st.s.bs.length<=id/\id<st.s.bs.length+hs.length:=fun i o ts d id' ho hc hd dX=>by
     rcases hin i o ho with hi|hi
     ·obtain⟨o',cs,mk,ANn,g1,g2,g3,g4,g5,g6⟩:=(f6 i hi).h ts hc
      rw[ho] at g1; simp at g1; subst g1;rw[(g3 d hd).2,Km g2] at dX;simp at dX; subst dX;exact⟨g4,by simpa using g5⟩
     ·exact absurd hc ((r7 i hi).h ts)
    obtain⟨q,hq1,hq2,hq3⟩:=Inv.ou hs g st.s hI;refine dS R Qk dU (g:=g) (g1:=g.B5 q) (fun i o ts d id' ho hc hd dX hp=>?_) ((Ext.refl L g w).B5 hq1) ?_ hsz (fun t=>(hρ t).B5) (fun i o ts d id' ho hc hd dX=>?_) (fun a' w' g' b1 b2 b3 b4 b5=>?_)
    ·have:=(hI.DV id' hp).1
     have:=(hid i o ts d id' ho hc hd dX).1;omega
    ·rw[hσ0,f3]; exact hq3
    ·obtain⟨x1,x2⟩:=hid i o ts d id' ho hc hd dX
     exact hq2 id' x1 x2
    ·exact hQ a' w' g' (by rw[hNf]; exact b1) b2 b3 (hσK ▸ b4) b5 hNf
  ·simp at h
 ·simp at h
end
structure dY (E:Env) (g:AH) (w:World) (st:St) (a:Act):Prop where
 inv:Inv E g w st.s
 size:a.tmps.size=st.N
 tmps:∀ t,V g w (st.ρ t) (a.tmps.getD t undef)
theorem dY.put {E:Env} {L:A0} {g g':AH} {w w':World} {st st':St} {a:Act} {s:AK} {d:Option Nat} {v:AV} {u:Value} (h:dY E g w st a) (hp:Kb { st with s:=s } d v=some st') (he:Ext L g w g' w') (hi:Inv E g' w' s) (hv:V g' w' v u) :
  dY E g' w' st' (a.put d u)/\st'.N=st.N:=by
 obtain⟨a1,a2,a3,a4⟩:=Ga hp;refine⟨⟨by rw[a2]; exact hi,by rw[SZ,a1]; exact h.size,fun t=>?_⟩,a1⟩
 by_cases ht:d=some t
 ·subst ht
  obtain⟨b1,b2⟩:=a3 t rfl;rw[JX (by rw[h.size]; exact b1),b2];exact hv
 ·rw[Pr ht,a4 t ht]
  exact(h.tmps t).mono he
theorem KC (i n:Nat):List.range' i (n+1)=i::List.range' (i+1) n:=by simp[List.range']
section
variable {rd:Option Nat} {E:Env} {L:A0} {cf:Co} {ops:Array Oper} {Q:Exit->Act->World->Prop}
theorem VS {i:Nat} {rest:List Nat} {o:Oper} {a:Act} {w:World} (ho:ops[i]?=some o) (hw:Region.wanted o (yielded ops a.tmps)=true) (h:o.wpIn (FW rd) 0 E.P a w (wpOpsIn (FW rd) 0 E.P ops Q rest) Q):wpOpsIn (FW rd) 0 E.P ops Q (i::rest) a w:=by
 simp only[wpOpsIn,ho,hw,Dr];exact h
theorem oz {i:Nat} {rest:List Nat} {o:Oper} {a:Act} {w:World} (ho:ops[i]?=some o) (hw:Region.wanted o (yielded ops a.tmps)=false) (h:wpOpsIn (FW rd) 0 E.P ops Q rest (a.put o.dst undef) w):wpOpsIn (FW rd) 0 E.P ops Q (i::rest) a w:=by
 simp only[wpOpsIn,ho,hw,Cc,Dk];exact⟨fun _ _=>trivial,h⟩
theorem Px {i:Nat} {rest:List Nat} {o:Oper} {a:Act} {w w':World} {v:Value} (ho:ops[i]?=some o) (hg:o.guard=none) (hr:(execOp a.eval o).run E.P w=.ok (.value v) w'\/((execOp a.eval o).run E.P w=.ok .skip w'/\v=undef))
  (h:wpOpsIn (FW rd) 0 E.P ops Q rest (a.put o.dst v) w'):wpOpsIn (FW rd) 0 E.P ops Q (i::rest) a w:=by
 refine VS ho (by simp[Region.wanted,hg]) ?_;rcases hr with hr|⟨hr,rfl⟩
 ·exact KA hr h
 ·exact JB hr h
theorem o5 {g:AH} {w:World} {st st':St} {a:Act} {o o1 o2:Oper} {k:Kc} {v:AV} {s:AK} {i:Nat} {rest:List Nat} (h:dY E g w st a) (ho:ops[i]?=some o) (ho1:ops[i+1]?=some o1) (ho2:ops[i+2]?=some o2)
  (hf:fused o o1 o2=some k) (Js:Kf E L st.ρ st.s k=some (v,s)) (hst:LK st k v s=some st')
  (hk:∀ a' w' g',dY E g' w' st' a'->a'.defers=a.defers->Ext L g w g' w'->st'.N=st.N->wpOpsIn (FW rd) 0 E.P ops Q rest a' w'):wpOpsIn (FW rd) 0 E.P ops Q (i::(i+1)::(i+2)::rest) a w:=by
 obtain⟨f1,f2,f3,f4,f5,f6,f7,f8,f9,f10,f11⟩:=GZ hf;have hap:=Ql hf;have hVx:=AO h.tmps k.x;have hVy:=AO h.tmps k.y;have hVi:=AO h.tmps k.ix;have hVv:=AO h.tmps k.v;unfold LK at hst;split at hst
 ·rename_i E7 hp1
  unfold Kf at Js;split at Js
  ·rename_i elem hu
   split at Js
   ·rename_i UT
    split at Js
    ·rename_i ti rows z n row Oh hrows hz cq hrow
     split at Js
     ·rename_i hcnd
      obtain⟨q1,q2,q3,q4,q5,q6,q7⟩:=hcnd;have hvl:=El hVv q4;obtain⟨t1,t2⟩:=G3 hvl hrow;obtain⟨b,cap,vz,e,fz,w1,wv,g',a1,a2,a3,a4,a5,a6,⟨a7,a7z⟩,a8⟩:=MD (T:=o.type) h.inv hu Oh q6 q7 hVx hrows hVy hz q2 q5 (us:=(a.eval k.v).cells.toList) (by omega) q3 t2 Js;obtain⟨kk,SM⟩:=FU hVi cq;obtain⟨s1,n1⟩:=h.put hp1 a3 a4 a2;have hp2:Kb { E7 with s:=E7.s } (some k.p) .HU=some st':=hst;obtain⟨s2,n2⟩:=s1.put (u:=.pointer (some ⟨b,rows.length*ti.size,none⟩)) hp2 (Ext.refl L g' wv) s1.inv .HU;have ANo:(a.eval k.v).cells.size=ti.size:=by rw[<-DS]; omega
      have hd:k.d<a.tmps.size:=by
       obtain⟨_,_,x3,_⟩:=Ga hp1;rw[h.size]; exact(x3 k.d rfl).1
      have hpN:k.p<a.tmps.size:=by
       obtain⟨_,_,x3,_⟩:=Ga hst;have:=(x3 k.p rfl).1;rw[h.size]; rw[n1] at this; exact this
      have AAc:∀ z,z=k.ix\/z=k.v->∀ u u',((a.put (some k.d) u).put (some k.p) u').eval z=a.eval z/\(a.put (some k.d) u).eval z=a.eval z:=fun z hz u u'=>by
       have hz':=hap z (by rcases hz with e|e <;> simp[e]);have e1:(a.put (some k.d) u).eval z=a.eval z:=DE fun t ht hdt=>hz'.1 (by simp at hdt; rw[ht,hdt])
       exact⟨(DE fun t ht hdt=>hz'.2 (by simp at hdt; rw[ht,hdt])).trans e1,e1⟩
      have hw1:w1.heap[b]?=some (.cells ⟨vz⟩ e fz):=by rw[a6,BR,if_pos rfl,if_pos (BI a5)]
      refine Px ho f8.1 (v:=.slice (some ⟨b,0,none⟩) (rows.length+1) cap) (w':=w1) (.inl ?_) ?_
      ·obtain⟨dst,op,type,pos,after,guard⟩:=o
       simp only at f1;subst f1;simp only[execOp,resolve,invoke,builtin,Sem.run_bind,Sem.run_pure,Result.andThen_ok];have:(#[k.x,k.y].map a.eval)=#[a.eval k.x,a.eval k.y]:=by simp
       rw[this,a1];simp
      rw[f2];refine Px ho1 f8.2.1 (v:=.pointer (some ⟨b,rows.length*ti.size,none⟩)) (w':=w1) (.inl ?_) ?_
      ·have e1:(a.put (some k.d) (.slice (some ⟨b,0,none⟩) (rows.length+1) cap)).eval (.tmp k.d)=.slice (some ⟨b,0,none⟩) (rows.length+1) cap:=JX hd
       have e2:=(AAc k.ix (.inl rfl) (.slice (some ⟨b,0,none⟩) (rows.length+1) cap) undef).2;rw[SM,q1] at e2;obtain⟨dst,op,type,pos,after,guard⟩:=o1;simp only at f3;subst f3;simp[execOp,Instr.indexAt,e1,e2,asIntOf,run_underlying hu,run_sizeOf Oh,DW]
      rw[f4];refine Px ho2 f8.2.2 (v:=undef) (w':=wv) (.inr ⟨?_,rfl⟩) ?_
      ·have e1:((a.put (some k.d) (.slice (some ⟨b,0,none⟩) (rows.length+1) cap)).put (some k.p) (.pointer (some ⟨b,rows.length*ti.size,none⟩))).eval (.tmp k.p)=.pointer (some ⟨b,rows.length*ti.size,none⟩):=JX (by rw[SZ]; exact hpN)
       have e2:=(AAc k.v (.inr rfl) (.slice (some ⟨b,0,none⟩) (rows.length+1) cap) (.pointer (some ⟨b,rows.length*ti.size,none⟩))).1;obtain⟨dst,op,type,pos,after,guard⟩:=o2;simp only at f5;subst f5;have hst:=Fc (P:=E.P) (b:=b) (o:=rows.length*ti.size) (e:=e) a7z (a.eval k.v).cells.toList 0 w1 vz (VL.one hvl q4) hw1 (by omega);have heq:A2 w1 b (Bt vz (rows.length*ti.size) (a.eval k.v).cells.toList) e fz=wv:=by rw[a6,EW,LL a5]
       simp only[execOp,e1,e2,Instr.storeAt,Instr.sureAddr,storeVar,Sem.run_bind,Sem.run_pure,Result.andThen_ok,UT.2,run_sizeOf Oh,ANo,ne_eq,K7,Dk];simp only[Dq] at hst;rw[hst,heq];rfl
      rw[f6];exact hk _ wv g' s2 (by simp[Act.put]) a3 (n2.trans n1)
     ·simp at Js
    ·simp at Js
   ·simp at Js
  ·simp at Js
 ·simp at hst
theorem dZ (Qk:Hr E L cf):∀ (n i:Nat) (l:List Oper) (st st':St) (a:Act) (w:World) (g:AH),l.length=n->l=ops.toList.drop i->dY E g w st a->Ip E L cf ops l st=some st' ->
  (∀ a' w' g',dY E g' w' st' a'->a'.defers=a.defers->Ext L g w g' w'->st'.N=st.N->Q .normal a' w')->wpOpsIn (FW rd) 0 E.P ops Q (List.range' i l.length) a w:=by
 intro n
 induction n using Nat.strongRecOn with
 | ind n ih=>
  intro i l st st' a w g hn hl hs h hQ;cases l with
  | nil=>
   simp[Ip] at h;subst h;exact hQ a w g hs rfl (Ext.refl _ _ _) rfl
  | cons o rest=>
   have dh:∀ (j:Nat) q,(o::rest)[j]?=some q->ops[i+j]?=some q:=fun j q hq=>by
    rw[hl,GM] at hq; simpa using hq
   have iR:∀ j,(o::rest).drop j=ops.toList.drop (i+j):=fun j=>by rw[hl,List.drop_drop]
   have one:(match E6 ops st.ρ o with
     | some true=>match NP E L cf st o with
      | some st=>Ip E L cf ops rest st
      | none=>none
     | some false=>match Kb st o.dst (.tuple []) with
      | some st=>Ip E L cf ops rest st
      | none=>none
     | none=>none)=some st'->wpOpsIn (FW rd) 0 E.P ops Q (List.range' i (o::rest).length) a w:=by
    intro h;rw[A3,KC];have hlt:rest.length<n:=by simp at hn; omega
    have AAd:rest=ops.toList.drop (i+1):=by simpa using iR 1
    split at h
    ·rename_i hg
     split at h
     ·rename_i E7 hst
      unfold NP at hst;split at hst
      ·rename_i v s hact
       refine VS (dh 0 o rfl) (DQ hs.tmps hg) (Nt Qk hs.inv hs.tmps hact fun v' w' g' hV hE hI=>?_);obtain⟨s1,n1⟩:=hs.put hst hE hI hV;exact ih rest.length hlt (i+1) rest E7 st' _ w' g' rfl AAd s1 h fun a' w'' g'' q1 q2 q3 q4=>hQ a' w'' g'' q1 (q2.trans (put_defers _ _ _)) (hE.trans q3) (q4.trans n1)
      ·simp at hst
     ·simp at h
    ·rename_i hg
     split at h
     ·rename_i E7 hst
      refine oz (dh 0 o rfl) (DQ hs.tmps hg) ?_;obtain⟨s1,n1⟩:=hs.put (L:=L) (s:=st.s) hst (Ext.refl L g w) hs.inv V.undef;exact ih rest.length hlt (i+1) rest E7 st' _ w g rfl AAd s1 h fun a' w'' g'' q1 q2 q3 q4=>hQ a' w'' g'' q1 (q2.trans (put_defers _ _ _)) q3 (q4.trans n1)
     ·simp at h
    ·simp at h
   unfold Ip at h;simp only at h;split at h
   ·rename_i o1 o2 rest'
    split at h
    ·rename_i k hf
     split at h
     ·rename_i v s Js
      split at h
      ·rename_i E7 hst
       have hlt:rest'.length<n:=by simp at hn; omega
       simp only[A3];rw[KC,KC,KC];refine o5 hs (dh 0 o rfl) (dh 1 o1 rfl) (dh 2 o2 rfl) hf Js hst fun a' w' g' q1 q2 q3 q4=>?_
       exact ih rest'.length hlt (i+3) rest' E7 st' a' w' g' rfl (by simpa using iR 3) q1 h fun a'' w'' g'' p1 p2 p3 p4=>hQ a'' w'' g'' p1 (p2.trans q2) (q3.trans p3) (p4.trans q4)
      ·simp at h
     ·exact one h
    ·exact one h
   ·exact one h
end
end Go.Tel
