/-
  A region with a drawn order: one operation more while a row is open; all of them.
-/
import Derived.Test.YtpgfpakdnijngaaGreatDoorEvF
set_option linter.all false
namespace Go.Tel
open Option renaming some->Y,none->G
open Bool renaming true->Z,false->ϴ
open Go renaming World->ϙ,Oper->ϡ
section
variable {rd:Option Nat} {E:Env} {L:Ba} {cf:DH} {ops:Array ϡ} {p:B3} {K N:Nat} {U0 Uf:Nat->AV} {σ:Nat->AY} {ds:List Deferred} {g0:AZ} {w0:ϙ} {Q:Exit->Act->ϙ->Prop}
def Open.more {P:Program} {q:AV} {X:Prop} {f:JX} {i:Prop} {a:Act} {g:AZ} {w wv:ϙ} {d:Option Tmp} {v:Value} (h:Open P q X f i a g w wv)
  (I:d≠Y f.d) (M:d≠Y f.p) (O:∀t,f.ix=.tmp t->d≠Y t) (S:∀t,f.v=.tmp t->d≠Y t):Open P q X f i (a.put d v) g w wv:=by
 obtain⟨b,k,len,o,e,r,s,u,j,x,y,z,A,T,U,W,B,C,D,l,m,n,H⟩:=h;refine⟨b,k,len,o,e,r,s,u,j,x,y,z,A,?_,?_,?_,B,C,D,l,m,n,λq=>?_⟩
 all_goals grind[Ew]
def oq (R:WD E L cf ops p K N U0 Uf σ) {D:Nat->Prop} (β:Down ops D) {a:Act} {k:Nat} {g:AZ} {w wv:ϙ} (h:Core E L ops p K N U0 Uf σ ds g0 w0 D a k g wv)
  {i r j x:Nat} {o s B:ϡ} {l:JX} (C:ops[i]?=Y o) (A:p.cls[i]?=Y (.fa r j x)) (n:ops[j]?=Y s) (H:ops[x]?=Y B) (hf:fused o s B=Y l) (T:D i) (Ψ:¬ D x) (π:OI ops p D i)
  (Ω:Open E.P (Uf l.d) (Qn E L ops i j x=Z) l (D j) a g w wv)
  {m:Nat} {om:ϡ} (hm:ops[m]?=Y om) (hn:¬ D m) (ι:∀e∈om.after,Region.binds .any e=Z->D e.on) :
  wpOpIn (FW rd) 0 E.P ops Q m (J E L ops p K N U0 Uf σ ds g0 w0 (λi=>D i\/i=m)) a w:=by
 have⟨o1',o2',kf',Γ,Δ,c1,c2,Θ,u1,u2,u3,p1,p2,p3,v0,hfu,hvd,hvp⟩:=R.rS i o r j x C A;rw[n] at Γ; simp at Γ; subst Γ;rw[H] at Δ; simp at Δ; subst Δ;rw[hf] at Θ; simp at Θ; subst Θ;have⟨f1,a8,f3,γ,a9,f6,f7,f8,f9,f10,f11⟩:=Gh hf;have a0:m≠i:=λe=>hn (e ▸ T)
 have W:∀(i:Nat) o ts d id,ops[i]?=Y o->p.cls[i]?=Y (.h ts)->o.dst=Y d->KY (Uf d)=Y id->¬ D i->i≠m->g.Db id:=
  λi o ts d id ho A I hid hnD _=>h.Db i o ts d id ho A I hid hnD
 have θ:x≠m->¬ (D x\/x=m):=λe q=>q.elim Ψ e
 by_cases Λ:m=j
 .subst Λ
  rw[n] at hm; simp at hm; subst hm;obtain⟨b,ρ,len,δ,e,κ,μ,τ,ξ,ε,k1,k2,k3,k4,k5,k6,k7,k8,k9,yq,qo,yt,zI⟩:=Ω;have X:(execOp a.eval s).run E.P w=.ok (.value (.pointer (Y ⟨b,len*ε.size,G⟩))) w:=by simp[*,execOp,Instr.indexAt,asIntOf,run_underlying,run_sizeOf,Dl]
  have hxj:x≠m:=λe=>by grind
  have S:OI ops p (λi=>D i\/i=m) i:=OI.more n (λ_ _ _ e=>by grind) π;refine Nz n f8.2.1 X ⟨k,g,wv,h.push R n (.inl ⟨lB c1,rfl⟩) h.ext (λ_ _ q=>q) h.inv (λd I=>?_) W,.inr ?_⟩
  .rw[γ] at I; simp at I; subst I; rw[hvp]; exact .Gy
  .refine⟨i,o,r,m,x,s,B,l,C,A,n,H,hf,.inl T,θ hxj,S,b,ρ,len,δ,e,κ,μ,τ,ξ,ε,k1,k2,k3,?_,?_,?_,k7,k8,k9,yq,qo,yt,λ_=>?_⟩
   .grind[Ew]
   .rw[γ,Ew (λt b0 a1=>?_)]
    .omega
    .simp at a1
     subst a1;have:l.p∈Gg s:=Dv.2 (by grind[Op.operands]);rcases R.read m m s s l.p n n γ (JQ _ this) with ⟨q1,_⟩|⟨_,q2⟩
     .grind[has]
     .exact absurd (R.rU m s m n q2) (PS _)
   .grind[Ew]
   .rw[γ]; exact J6 (by rw[h.size]; exact R.rT m s l.p n γ)
 by_cases α:m=x
 .subst α
  rw[H] at hm; simp at hm; subst hm;have hDj:D j:=R.MA β m B j H ι p2;obtain⟨b,ρ,len,δ,e,κ,μ,τ,ξ,ε,k1,k2,k3,k4,k5,k6,k7,k8,k9,yq,qo,yt,zI⟩:=Ω;have hpt:=zI hDj;have hwb:w.heap[b]?=Y (.cells ⟨δ⟩ e κ):=by grind[Bv]
  have X:(execOp a.eval B).run E.P w=.ok .skip wv:=by
   obtain⟨dst,op,b5,pos,b3,guard⟩:=B;simp only at a9;subst a9;have ς:=Fj (P:=E.P) (b:=b) (o:=len*ε.size) (e:=e) qo.2 μ.cells.toList 0 w δ k8 hwb AB
   grind[Er,L7,execOp,Instr.storeAt,Instr.sureAddr,storeVar,Sem.run_bind,Sem.run_pure,Result.andThen_ok,run_sizeOf]
  have S:∀b1,OI ops p (λi=>D i\/i=m) b1:=by
   intro b1 q Ξ ζ j' x' O hc' hi' hne;rcases hi' with hi' | hi'
   .by_cases e:q=i
    .grind
    .exact .inl (π q Ξ ζ j' x' O hc' hi' e)
   grind
  refine LW H (by grind[Region.wanted]) ?_;exact Jd X ⟨k,g,wv,h.push R H (.inl ⟨lC c2,rfl⟩) h.ext (λ_ _ q=>q) h.inv (λd I=>by grind) W,.inl ⟨rfl,S⟩⟩
 have⟨hw1,a2⟩:=R.win i o r j x C A m om hm a0 Λ α;have Φ:m∉EP p i:=λq=>hn (R.M0 β C T q)
 have ω:Y8 ops p m=true:=by
  rcases hw1 with q|q|q
  .grind
  .exact absurd (R.MA β m om x hm ι q) Ψ
  omega
 have υ:om.dst≠Y l.d:=λe=>a0 (R.dst m i om o l.d hm C e a8)
 have φ:om.dst≠Y l.p:=λe=>Λ (R.dst m j om s l.p hm n e γ)
 have χ:∀t,l.ix=.tmp t->om.dst≠Y t:=λt b0 e=>Φ (a2 t e (.inl (by grind[EW,Dv,Op.operands])))
 have ψ:∀t,l.v=.tmp t->om.dst≠Y t:=λt b0 e=>Φ (a2 t e (.inr (by grind[EW,Dv,Op.operands])))
 have a3:=R.agree β hm hn ι;have ο:Open E.P (Uf l.d) (Qn E L ops i j x=Z) l (D j\/j=m) a g w wv:=AB;unfold Y8 at ω;split at ω
 .rename_i Ξ ts O M
  rw[hm] at O; simp at O; subst O;have S:OI ops p (λi=>D i\/i=m) i:=OI.more hm (λ_ _ _ e=>by grind) π;have⟨v,η,hv⟩:=R.qF m om ts k hm M (h.rV R β hm hn ι (.inl M));rw[<-Jc a3] at η;have b4:(∃x,om.op=.nilCheck x)\/(∃t x f,om.op=.fieldAddr t x f)\/(∃x,om.op=.move x):=AB;unfold Fa at η;split at η
  .rename_i U
   have⟨v',X,hV⟩:=rR b4 h.inv h.tmps η;refine LW hm (Di h.tmps U) ?_
   exact Kn (X w) ⟨k,g,wv,h.push R hm (.inl ⟨Qw M,rfl⟩) h.ext (λ_ _ q=>q) h.inv (λd I=>by grind) W,
    .inr ⟨i,o,r,j,x,s,B,l,C,A,n,H,hf,.inl T,θ (Fx α),S,ο.more υ φ χ ψ⟩⟩
  .rename_i U
   simp only[BU] at η;subst η;refine S5 hm (Di h.tmps U) ?_
   exact⟨k,g,wv,h.push R hm (.inl ⟨Qw M,rfl⟩) h.ext (λ_ _ q=>q) h.inv (λd I=>by grind[V.undef]) W,
    .inr ⟨i,o,r,j,x,s,B,l,C,A,n,H,hf,.inl T,θ (Fx α),S,ο.more υ φ χ ψ⟩⟩
  grind
 .rename_i Ξ ζ O M
  rw[hm] at O; simp at O; subst O;have S:OI ops p (λi=>D i\/i=m) i:=OI.more hm (λ_ _ _ e=>by grind) π;have hk:=h.now R β hm hn ι (K7 M);subst hk;have⟨v,u,hv⟩:=R.wF m om ζ hm M;rw[<-On a3] at u;unfold Oi at u;split at u
  .rename_i U
   split at ω
   .rename_i t y z e
    rw[Pa] at u;unfold oY at u;rw[e] at u;simp only at u;obtain⟨dst,op,b5,pos,b3,guard⟩:=om;simp only at e;subst e;simp only[C6] at u;split at u
    .rename_i s1 ς
     simp only[BU,Bg] at u;obtain⟨rfl,rfl⟩:=u;have⟨id,ν,a4,b2,⟨b6,hptr⟩,a5,a6,hi1,b7⟩:=gJ h.inv (A9 h.tmps y) (A9 h.tmps z) ς;obtain⟨b,ρ,len,δ,e,κ,μ,τ,ξ,ε,k1,k2,k3,k4,k5,k6,k7,k8,k9,yq,qo,yt,zI⟩:=ο
     have hbb:ν≠b:=by
      intro q;rcases yt with ⟨tk,tl,yt,b8⟩|⟨a7,b9,n0,sz0,hq0,hb0,hX⟩
      .exact h.inv.Dc id ν tk tl a5 yt (by rw[b8,q])
      .subst q
       have hid:=h.inv.FD id a7 ν a5 hb0;refine R.mu i o r j x l.d a7 b9 n0 sz0 hX C A a8 hq0 m _ ζ t y z hm M rfl id b6 ?_ hid
       grind[Kl,Dv,Op.operands]
     have X:=b7 w (by grind[Bv]);refine LW hm (Di h.tmps U) ?_;refine Jd (w':=Bd w ν a4 b2) (by grind[execOp,Sem.run_bind,Result.andThen_ok,Sem.run_pure]) ?_
     refine⟨ζ+1,g,Bd wv ν a4 b2,h.push R hm (.inr ⟨K7 M,rfl⟩) (h.ext.trans a6) (λ_ _ q=>q.mono a6) hi1 (λd I=>by grind[V.undef]) W,
      .inr ⟨i,o,r,j,x,s,B,l,C,A,n,H,hf,.inl T,θ (Fx α),S,?_⟩⟩
     refine Open.more ⟨b,ρ,len,δ,e,κ,μ,τ,ξ,ε,k1,k2,k3,k4,k5,k6,k7,k8,?_,?_,qo,yt,zI⟩ υ φ χ ψ
     all_goals grind[Bv,ZE]
    grind
   grind
  .rename_i U
   simp only[BU,Bg] at u;obtain⟨rfl,ς⟩:=u;refine S5 hm (Di h.tmps U) ?_
   exact⟨ζ+1,g,wv,h.push R hm (.inr ⟨K7 M,rfl⟩) h.ext (λ_ _ q=>q) (ς ▸ h.inv) (λd I=>by grind[V.undef]) W,
    .inr ⟨i,o,r,j,x,s,B,l,C,A,n,H,hf,.inl T,θ (Fx α),S,ο.more υ φ χ ψ⟩⟩
  grind
 grind
def rX (R:WD E L cf ops p K N U0 Uf σ) (C:IL E L cf) {D:Nat->Prop} (u:Down ops D) {a:Act} {w:ϙ}
  (H:∀(i:Nat) o ts d id,ops[i]?=Y o->p.cls[i]?=Y (.h ts)->o.dst=Y d->KY (Uf d)=Y id->¬ g0.Db id) (h:J E L ops p K N U0 Uf σ ds g0 w0 D a w)
  {m:Nat} {om:ϡ} (hm:ops[m]?=Y om) (hn:¬ D m) (y:∀e∈om.after,Region.binds .any e=Z->D e.on) :
  wpOpIn (FW rd) 0 E.P ops Q m (J E L ops p K N U0 Uf σ ds g0 w0 (λi=>D i\/i=m)) a w:=by
 obtain⟨k,g,I,b,⟨rfl,M⟩|⟨i,o,r,j,x,O,S,T,z,f,A,B,hf,l,n,s,t⟩⟩:=h
 .grind[bG]
 .exact oq R u b z f A B hf l n s t hm hn y
def GR (b:Array Bool) (i:Nat):Prop:=b.getD i ϴ=Z
theorem GR.set {b:Array Bool} {m:Nat} (hm:m<b.size):GR (b.setIfInBounds m Z)=λi=>GR b i\/i=m:=by
 funext i
 apply propext;unfold GR
 by_cases h:i=m
 all_goals simp[*,Fx]
def rY {n m:Nat} {q q':Nat->Bool} (hm:m<n) (b:∀i,q' i=Z->q i=Z) (e:q m=Z) (f:q' m=ϴ):(List.range n).countP q'<(List.range n).countP q:=by
 induction n with
 | zero=>omega
 | succ n j=>
  rw[List.range_succ,Sq,Sq];have d:(List.range n).countP q'<=(List.range n).countP q:=kV λi _=>b i
  grind
def rZ (R:WD E L cf ops p K N U0 Uf σ) (C:IL E L cf)
  (H:∀(i:Nat) o ts d id,ops[i]?=Y o->p.cls[i]?=Y (.h ts)->o.dst=Y d->KY (Uf d)=Y id->¬ g0.Db id)
  (O:∀D a w,(∀i,i<ops.size->D i)->J E L ops p K N U0 Uf σ ds g0 w0 D a w->Q .normal a w) :
  ∀(j:Nat) (b:Array Bool) (a:Act) (w:ϙ),b.size=ops.size->Down ops (GR b)->J E L ops p K N U0 Uf σ ds g0 w0 (GR b) a w ->
   (List.range ops.size).countP (λi=>!(b.getD i ϴ))<=j->wpAnyIn (FW rd) 0 E.P .any ops Q j b a w:=by
 have done:∀(b:Array Bool) (a:Act) (w:ϙ),b.size=ops.size->J E L ops p K N U0 Uf σ ds g0 w0 (GR b) a w->Region.ready .any ops b=[]->Q .normal a w:=by
  intro b a w l f t;refine O (GR b) a w ?_ f;intro i
  induction i using Nat.strongRecOn with
  | ind i u=>
   intro k;rcases Classical.em (GR b i) with x|x
   .exact x
   .exfalso
    have:i∈Region.ready .any ops b:=mem_ready.2 ⟨by grind[GR],ops[i],AD,λe r hb=>by
      have:=R.zH i ops[i] e AD r hb;exact u e.on this AA⟩
    grind
 intro j
 induction j with
 | zero=>
  intro b a w l y f S
  have t:Region.ready .any ops b=[]:=by
   apply kW.2
   grind[mem_ready,List.countP_eq_zero]
  exact⟨t,done b a w l f t⟩
 | succ j u=>
  intro b a w l y f S;refine⟨done b a w l f,λm I=>?_⟩;have⟨α,om,hm,z⟩:=mem_ready.1 I;have M:=DI hm;have A:m<b.size:=AA;have W:b.getD m ϴ=false:=AB;have hn:¬ GR b m:=by grind[GR]
  refine wpOpIn_mono (λT U B=>?_) (rX R C y H f hm hn z);rw[<-GR.set A] at B;refine u _ T U AB ?_ B ?_
  .rw[GR.set A]
   intro i o e s k r hb;rcases k with k|rfl
   .exact .inl (y i o e s k r hb)
   .rw[hm] at s; simp at s; subst s
    exact .inl (z e r hb)
  .have:=rY (n:=ops.size) (m:=m) (q:=λi=>!(b.getD i ϴ)) (q':=λi=>!((b.setIfInBounds m Z).getD i ϴ)) M (λi k=>by
    have X:i≠m:=λe=>by simp_all
    simp_all[Fx]) AB (by simp[*])
   omega
def gK (R:WD E L cf ops p K N U0 Uf σ) (C:IL E L cf) (z:E.P.follows .mixedOrders=Z) {a:Act} {w:ϙ} {g g1:AZ} {id:Nat}
  (H:∀(i:Nat) o ts d id,ops[i]?=Y o->p.cls[i]?=Y (.h ts)->o.dst=Y d->KY (Uf d)=Y id->¬ g.Db id)
  (S:Ext L g w g1 w) (T:Inv E g1 w (σ 0)) (I:a.tmps.size=N) (U:∀t,V g1 w (U0 t) (a.tmps.getD t undef))
  (M:∀(i:Nat) o ts d id,ops[i]?=Y o->p.cls[i]?=Y (.h ts)->o.dst=Y d->KY (Uf d)=Y id->g1.Db id)
  (W:∀l w' g',l.tmps.size=N->l.defers=a.defers->Ext L g w g' w'->Inv E g' w' (σ K)->(∀t,V g' w' (Uf t) (l.tmps.getD t undef))->Q .normal l w') :
  (Code.region id ops Z).wpIn (FW rd) 0 E.P Q a w:=by
 have⟨s,X⟩:=T.drew (L:=L);refine wpIn_region_any z (rZ (ds:=a.defers) (g0:=g) (w0:=w) R C H ?_ ops.size _ a (Bt w) AD ?_ ?_ ?_)
 .rintro D l w' A ⟨k,g',θ,b,B⟩
  have α:k=K:=by
   have:=b.kK;rcases Fv k K with x|x
   .have⟨i,o,f,u⟩:=R.AEy k x
    have:=(b.time i o k f u).1 (A i (DI f));omega
   omega
  subst α;rcases B with ⟨rfl,_⟩|⟨i,o,r,j,x,ι,κ,μ,_,_,_,ν,_,_,δ,_⟩
  .refine W l w' g' b.size b.defers b.ext b.inv λt=>?_
   have:=b.tmps t
   by_cases β:∃(i:Nat) (o:ϡ),ops[i]?=Y o/\o.dst=Y t
   .grind[Tf]
   .rw[R.Tg λi o f n=>β ⟨i,o,f,n⟩] at this
    omega
  grind
 .intro i o e f y
  simp_all[DI,GR]
 .have m:∀i,¬ GR (Array.replicate ops.size ϴ) i:=λi y=>by
   unfold GR at y
   by_cases ε:i<ops.size
   all_goals simp_all
  refine⟨0,g1,Bt w,⟨AO _,λi o r f u=>⟨λq=>absurd q (m i),λq=>by omega⟩,I,rfl,S.trans s,X,λt=>?_,λi o ts d id f b n hid _=>M i o ts d id f b n hid⟩,
   .inl ⟨rfl,λi γ ξ ο π ρ ζ η O _=>absurd O (m γ)⟩⟩
  rw[S4 λi o _ _=>m i];exact(U t).mono s
 grind[List.countP_le_length]
end
theorem Pg {l:Ϟ} {x:Nat}:has l x=Z<->x∈l:=by grind[has,Nat.eq_of_beq_eq_true,Nat.beq_refl]
def LX {l:Ϟ} {x:Nat}:has l x=ϴ<->x∉l:=by grind[Pg]
theorem M1 {l:Ϫ} {i k:Nat} (h:Ny l i k=Z):(i,k)∈l:=by grind[Ny,Nat.eq_of_beq_eq_true]
def HS {n:Nat} {f:Nat->Bool} (h:(List.range n).all f=Z) {i:Nat} (b:i<n):f i=true:=Cl.1 h i AB
theorem D2 {ops:Array ϡ} {i d:Nat}:d∈GQ ops i<->∃o,ops[i]?=Y o/\o.dst=Y d:=by grind[GQ,lA]
def Gi {st b:St} {d:Option Nat} {v:AV} (h:LO st d v=Y b) :
  b.N=st.N/\b.s=st.s/\(∀e,d=Y e->e<st.N/\b.U e=v)/\∀t,d≠Y t->b.U t=st.U t:=by
 unfold LO at h;split at h
 .grind
 .rename_i e
  cases hb:Nat.blt e st.N with
  | false=>grind
  | true=>
   simp[hb] at h; subst h;refine⟨rfl,rfl,λf i=>?_,λt j=>?_⟩
   .simp_all[Yq]
   grind[Nat.eq_of_beq_eq_true,Yq]
def LY {E:Env} {U:Nat->AV} {o:ϡ} {cs:Ϭ} {mk:Nat->AV} (h:hcells E U o=Y (cs,mk)):∀id,KY (mk id)=Y id:=by
 obtain⟨dst,op,e,pos,d,guard⟩:=o;cases op with
 | alloc t=>
  simp only[hcells] at h;split at h
  .cases b:E.bz t with
   | true=>grind
   | false=>
   rw[b] at h;simp only[AL,BU,Bg] at h;obtain⟨_,rfl⟩:=h;intro id; rfl
  grind
 | makeSlice t l c=>
  simp only[hcells] at h;split at h
  .split at h
   .split at h
    .simp only[BU,Bg] at h
     obtain⟨_,rfl⟩:=h;intro id; rfl
    grind
   grind
  grind
 | _=>grind[hcells]
def Ti (ops:Array ϡ) (p:B3) (U0 Uf U:Nat->AV) (i:Nat):Prop:=∀t∈oh ops p i,U t=F3 p.LL U0 Uf i t
def Qx {ops:Array ϡ} {p:B3} {U0 Uf:Nat->AV} {done:Ϟ} {i:Nat} {rest:Ϟ} {st:St} (b:Ic ops p done (i::rest)=Z) (d:∀t,t∉done->st.U t=U0 t)
  (hf:∀t,(∀j∈i::rest,t∉Hz ops p j)->Uf t=st.U t):Ti ops p U0 Uf st.U i:=by
 intro t e
 grind[Ic,F3,Pg]
def Tj {ops:Array ϡ} {p:B3} {done:Ϟ} {i:Nat} {rest:Ϟ} (b:Ic ops p done (i::rest)=Z) :
  Ic ops p (Hz ops p i++done) rest=Z/\∀t∈Hz ops p i,∀j∈rest,t∉Hz ops p j:=by grind[Ic,Pg]
def MB {ops:Array ϡ} {p:B3} {i:Nat} {o:ϡ} (b:ops[i]?=Y o) (d:(∃ts,p.cls[i]?=Y (.q ts))\/(∃ts,p.cls[i]?=Y (.h ts))\/(∃r,p.cls[i]?=Y (.w r))) :
  oh ops p i=HR ops o++Gg o/\Hz ops p i=GQ ops i:=by grind[oh,Hz,EW]
section
variable {rd:Option Nat} {E:Env} {L:Ba} {cf:DH} {ops:Array ϡ} {p:B3} {U0:Nat->AV}
structure ri (E:Env) (L:Ba) (cf:DH) (ops:Array ϡ) (p:B3) (U0 Uf:Nat->AV) (N:Nat) (σ:Nat->AY) (i:Nat):Prop where
 q:∀ts,p.cls[i]?=Y (.q ts)->∃o k v,ops[i]?=Y o/\Fa E L ops (F3 p.LL U0 Uf i) (σ k) o=Y v/\(∀d,o.dst=Y d->d<N/\Uf d=v)/\∀t∈ts,t=k\/Ol ops i=Z\/(i,t)∈p.fe
 w:∀r,p.cls[i]?=Y (.w r)->∃o v,ops[i]?=Y o/\Oi E L cf ops (F3 p.LL U0 Uf i) (σ r) o=Y (v,σ (r+1))/\∀d,o.dst=Y d->d<N/\Uf d=v
 fa:∀r j x,p.cls[i]?=Y (.fa r j x)->∃o o1 o2 k v U,ops[i]?=Y o/\ops[j]?=Y o1/\ops[x]?=Y o2/\fused o o1 o2=Y k/\LQ E L U (σ r) k=Y (v,σ (r+1))/\Ti ops p U0 Uf U i /\
  k.d<N/\k.p<N/\Uf k.d=v/\Uf k.p=.Gy
 h:∀ts,p.cls[i]?≠Y (.h ts)
def JK (acc:List AY) (k:Nat):AY:=(acc.reverse[k]?).getD ⟨[],[]⟩
theorem N0 {new acc:List AY} {k:Nat} (h:acc.length=k+1):JK (new++acc) k=(acc.head?).getD ⟨[],[]⟩:=by
 unfold JK;rw[List.reverse_append,C3 AB];cases acc with
 | nil=>rfl
 | cons s acc=>
  grind
set_option maxHeartbeats 400000 in
def gL {K:Nat} {z:St} {u:List AY}:∀(rest:Ϟ) (done:Ϟ) (st:St) (acc:List AY) (k:Nat),Ic ops p done rest=Z->(∀t,t∉done->st.U t=U0 t) ->
  K6 ops p rest k=Y K->acc.length=k+1->acc.head?=Y st.s->Hp E L cf ops p.cls rest st acc=Y (z,u) ->
  z.N=st.N/\(∀t,(∀j∈rest,t∉Hz ops p j)->z.U t=st.U t)/\(∃new,u=new++acc)/\u.length=K+1/\u.head?=Y z.s/\k<=K /\
  (∀i∈rest,ri E L cf ops p U0 z.U st.N (JK u) i)/\(∀i∈rest,∀r,FU p i=Y r->r<K)/\(∀r,k<=r->r<K->∃i∈rest,FU p i=Y r):=by
 intro rest
 induction rest with
 | nil=>
  intro done st acc k ζ ν f δ η h
  simp_all[Hp,K6]
 | cons i rest a0=>
  intro done st acc k ζ ν f δ η h;have⟨φ,hdis⟩:=Tj ζ
  have tail:∀(m:St) (I:List AY) (D:Nat),m.N=st.N->(∀t,t∉Hz ops p i->m.U t=st.U t)->K6 ops p rest D=Y K->I.length=D+1->I.head?=Y m.s->(∃n,I=n++acc) ->
    Hp E L cf ops p.cls rest m I=Y (z,u)->((FU p i=G/\D=k)\/(FU p i=Y k/\D=k+1)) ->
    ((∀t,(∀j∈rest,t∉Hz ops p j)->z.U t=m.U t)->Ti ops p U0 z.U st.U i->JK u k=st.s->JK u D=m.s->ri E L cf ops p U0 z.U st.N (JK u) i) ->
    z.N=st.N/\(∀t,(∀j∈i::rest,t∉Hz ops p j)->z.U t=st.U t)/\(∃new,u=new++acc)/\u.length=K+1/\u.head?=Y z.s/\k<=K /\
    (∀j∈i::rest,ri E L cf ops p U0 z.U st.N (JK u) j)/\(∀j∈i::rest,∀r,FU p j=Y r->r<K)/\(∀r,k<=r->r<K->∃j∈i::rest,FU p j=Y r):=by
   intro m I D a5 β χ ψ ω ς τ A ρ;have Γ:∀t,t∉Hz ops p i++done->m.U t=U0 t:=λt y=>by grind
   have⟨a6,ξ,⟨new,a7⟩,a8,a9,t6,t7,t8,t9⟩:=a0 _ m I D φ Γ χ ψ ω τ
   have μ:∀t,(∀j∈i::rest,t∉Hz ops p j)->z.U t=st.U t:=λt y=>by
    rw[ξ t (λj θ=>y j (C4 _ θ)),β t (y i (Lv ..))]
   obtain⟨n,rfl⟩:=ς;have Δ:JK u k=st.s:=by grind[N0]
   have Θ:JK u D=m.s:=by grind[N0]
   have hi:=ρ ξ (Qx ζ ν μ) Δ Θ;refine⟨a6.trans a5,μ,⟨new++n,by rw[a7,EG]⟩,a8,a9,AA,λj θ=>?_,λj θ r hrr=>?_,λr h1 h2=>?_⟩
   all_goals grind
  simp only[Hp] at h;simp only[K6] at f;split at h
  .rename_i o ts B l
   rw[l] at f;simp only at f;have⟨b0,b5⟩:=MB B (.inl ⟨ts,l⟩);cases υ:(ts.all λt=>Nat.beq t k||Ol ops i||Ny p.fe i t) with
   | false=>grind
   | true=>
    rw[υ] at f;simp only[AQ] at f;split at h
    .rename_i v hq
     split at h
     .rename_i m H
      have⟨S,ι,T,W⟩:=Gi H;refine tail m acc k S (λt y=>W t λe=>y (by grind[D2])) f δ AB ⟨[],rfl⟩ h (.inl ⟨Qw l,rfl⟩) λβ O γ ε=>?_
      refine⟨λC b=>?_,λr b=>by grind,λr j x b=>by grind,λC b=>by grind⟩;rw[l] at b; simp at b; subst b;refine⟨o,k,v,B,?_,λd κ=>⟨(T d κ).1,?_⟩,λt y=>?_⟩
      .rw[γ,<-Jc (λt y=>O t AB)]; omega
      .grind[D2]
      grind[Nat.eq_of_beq_eq_true,M1]
     grind
    grind
  .rename_i o r B l
   rw[l] at f;simp only at f;have⟨b0,b5⟩:=MB B (.inr (.inr ⟨r,l⟩));cases A:Nat.beq r k with
   | false=>grind
   | true=>
    rw[A] at f;simp only[AQ] at f;have A:=CV A;subst A;split at h
    .rename_i v X hact
     split at h
     .rename_i m H
      have⟨S,ι,T,W⟩:=Gi H;refine tail m (X::acc) (r+1) S (λt y=>W t λe=>y (by grind[D2])) f AB AB ⟨[X],rfl⟩ h (.inr ⟨K7 l,rfl⟩) λβ O γ ε=>?_
      refine⟨λC b=>by grind,λM b=>?_,λr j x b=>by grind,λC b=>by grind⟩;rw[l] at b; simp at b; subst b;refine⟨o,v,B,?_,λd κ=>⟨(T d κ).1,?_⟩⟩
      .rw[γ,ε,ι,<-On (λt y=>O t AB)]; omega
      grind[D2]
     grind
    grind
  .rename_i o r j x B l
   rw[l] at f;simp only at f;cases A:Nat.beq r k with
   | false=>grind
   | true=>
    rw[A] at f;simp only[AQ] at f;have A:=CV A;subst A;split at h
    .rename_i b6 b7 Λ Ξ
     split at h
     .rename_i α hf
      have⟨f1,f2,f3,f4,f5,f6,f7,f8,f9,f10,f11⟩:=Gh hf;have Φ:Hz ops p i=[α.d,α.p]:=by grind[Hz,GQ,lA]
      split at h
      .rename_i v X hfu
       split at h
       .rename_i m H
        unfold K3 at H;split at H
        .rename_i GD Ψ
         have⟨S,ι,T,W⟩:=Gi Ψ;have⟨b8,b2,b9,b4⟩:=Gi H;have⟨Ω,a32⟩:=T α.d rfl;have⟨b31,b32⟩:=b9 α.p rfl;refine tail m (X::acc) (r+1) (b8.trans S) (λt y=>?_) f AB AB ⟨[X],rfl⟩ h (.inr ⟨Ko l,rfl⟩) λβ O γ ε=>?_
         .rw[Φ] at y
          simp at y;rw[b4 t (λe=>y.2 AB),W t (λe=>y.1 AB)]
         .refine⟨λC b=>by grind,λM b=>by grind,λM ο π b=>?_,λC b=>by grind⟩
          rw[l] at b; simp at b; obtain⟨rfl,rfl,rfl⟩:=b;refine⟨o,b6,b7,α,v,st.U,B,Λ,Ξ,hf,?_,O,Ω,AB,?_,?_⟩
          .grind
          .grind
          grind
        grind
       grind
      grind
     grind
    grind
  .rename_i o B l
   rw[l] at f
   exact tail st acc k rfl (λ_ _=>rfl) f δ η ⟨[],rfl⟩ h (.inl ⟨lB l,rfl⟩) λ_ _ _ _=>
    ⟨λC b=>by grind,λM b=>by grind,λM ο π b=>by grind,λC b=>by grind⟩
  .rename_i o B l
   rw[l] at f
   exact tail st acc k rfl (λ_ _=>rfl) f δ η ⟨[],rfl⟩ h (.inl ⟨lC l,rfl⟩) λ_ _ _ _=>
    ⟨λC b=>by grind,λM b=>by grind,λM ο π b=>by grind,λC b=>by grind⟩
  grind
structure AE2 (E:Env) (L:Ba) (ops:Array ϡ) (p:B3) (U0 Uf:Nat->AV) (N lo hi:Nat) (i:Nat):Prop where
 q:∀ts,p.cls[i]?=Y (.q ts)->∃o s v,ops[i]?=Y o/\Fa E L ops (F3 p.LL U0 Uf i) s o=Y v/\(∀d,o.dst=Y d->d<N/\Uf d=v)/\∀t∈ts,Ol ops i=Z\/(i,t)∈p.fe
 h:∀ts,p.cls[i]?=Y (.h ts)->∃o cs mk id,ops[i]?=Y o/\hcells E (F3 p.LL U0 Uf i) o=Y (cs,mk)/\(∀d,o.dst=Y d->d<N/\Uf d=mk id)/\lo<=id/\id<hi/\∀t∈ts,(i,t)∈p.fe
 n:FU p i=G/\p.cls[i]?≠Y .fj/\p.cls[i]?≠Y .fx
def Ru {GD:St} {rest:Ϟ} {Uf:Nat->AV} (τ:∀t,(∀j∈rest,t∉Hz ops p j)->Uf t=GD.U t):∀(first:Ϟ) (done:Ϟ) (st:St),Ic ops p done (first++rest)=Z ->
  (∀t,t∉done->st.U t=U0 t)->S3 ops p first=Z->J0 E L ops p.cls first st=Y GD ->
  ∃hs x,GD.N=st.N/\(∀t,(∀j∈first,t∉Hz ops p j)->GD.U t=st.U t)/\GD.s={ st.s with bs:=st.s.bs++hs }/\Ic ops p x rest=Z/\(∀t,t∉x->GD.U t=U0 t) /\
  (∀i∈first,AE2 E L ops p U0 Uf st.N st.s.bs.length (st.s.bs++hs).length i) /\
  (∀i j y k ts us d e id,i∈first->j∈first->ops[i]?=Y y->ops[j]?=Y k->p.cls[i]?=Y (.h ts)->p.cls[j]?=Y (.h us)->y.dst=Y d->k.dst=Y e->KY (Uf d)=Y id->KY (Uf e)=Y id->i=j):=by
 intro first
 induction first with
 | nil=>
  intro done st z I hf h;simp[J0] at h;subst h;exact⟨[],done,rfl,λ_ _=>rfl,AD,z,I,AD,AD⟩
 | cons i first ω=>
  intro done st z I hf h;rw[DV] at z;have⟨υ,a5⟩:=Tj z;simp only[S3,AK] at hf;simp only[J0] at h;split at h
  .rename_i o ts u l
   have B:=hf.1;rw[l] at B;simp only at B;have⟨Ξ,Φ⟩:=MB u (.inl ⟨ts,l⟩);split at h
   .rename_i v γ
    split at h
    .rename_i m δ
     have⟨M,ε,ζ,η⟩:=Gi δ;have C:∀t,t∉Hz ops p i->m.U t=st.U t:=λt b=>η t λe=>b (by grind[D2])
     have⟨hs,x,θ,H,O,ι,κ,μ,ν⟩:=ω _ m υ (λt b=>by grind) hf.2 h
     have T:∀t,(∀j∈i::first,t∉Hz ops p j)->GD.U t=st.U t:=λt b=>by
      rw[H t (λj hj=>b j (C4 _ hj)),C t (b i (Lv ..))]
     have W:∀t,(∀j∈first++rest,t∉Hz ops p j)->Uf t=m.U t:=λt b=>by
      rw[τ t (λj hj=>b j (JQ _ hj)),H t (λj hj=>b j (List.mem_append_left _ hj))]
     have α:Ti ops p U0 Uf st.U i:=Qx z I λt b=>by
      rw[W t (λj hj=>b j (C4 _ hj)),C t (b i (Lv ..))]
     rw[ε] at O;refine⟨hs,x,θ.trans M,T,O,ι,κ,λj hj=>?_,?_⟩
     .rcases BF.1 hj with rfl|hj
      .refine⟨λD f=>?_,λD f=>by grind,Qw l,AB,AB⟩
       rw[l] at f; simp at f; subst f;refine⟨o,st.s,v,u,?_,λd ξ=>⟨(ζ d ξ).1,?_⟩,λt b=>?_⟩
       .rw[<-Jc (λt b=>α t AB)]; omega
       .grind[D2]
       grind[M1]
      grind
     .intro ο π y k β us d e id hi1 zJ A r e3 e4 e5 e6 S e8
      rcases BF.1 hi1 with rfl|hi1
      .grind
      .rcases BF.1 zJ with rfl|zJ
       .grind
       .exact ν ο π y k β us d e id hi1 zJ A r e3 e4 e5 e6 S e8
    grind
   grind
  .rename_i o ts u l
   have B:=hf.1;rw[l] at B;simp only at B;have⟨Ξ,Φ⟩:=MB u (.inr (.inl ⟨ts,l⟩));split at h
   .rename_i Γ mk γ
    split at h
    .rename_i m δ
     have⟨M,ε,ζ,η⟩:=Gi δ;have C:∀t,t∉Hz ops p i->m.U t=st.U t:=λt b=>η t λe=>b (by grind[D2])
     have⟨hs,x,θ,H,O,ι,κ,μ,ν⟩:=ω _ m υ (λt b=>by grind) hf.2 h
     have T:∀t,(∀j∈i::first,t∉Hz ops p j)->GD.U t=st.U t:=λt b=>by
      rw[H t (λj hj=>b j (C4 _ hj)),C t (b i (Lv ..))]
     have W:∀t,(∀j∈first++rest,t∉Hz ops p j)->Uf t=m.U t:=λt b=>by
      rw[τ t (λj hj=>b j (JQ _ hj)),H t (λj hj=>b j (List.mem_append_left _ hj))]
     have α:Ti ops p U0 Uf st.U i:=Qx z I λt b=>by
      rw[W t (λj hj=>b j (C4 _ hj)),C t (b i (Lv ..))]
     rw[ε] at O;have X:∀d,o.dst=Y d->d<st.N/\Uf d=mk st.s.bs.length:=λd ξ=>⟨(ζ d ξ).1,by grind[D2]⟩
     have Λ:m.s.bs.length=st.s.bs.length+1:=AB
     have a0:∀j∈first,∀k us e id,ops[j]?=Y k->p.cls[j]?=Y (.h us)->k.dst=Y e->KY (Uf e)=Y id->st.s.bs.length+1<=id:=by
      intro j hj k us e id r e4 e6 e8;have⟨Δ,φ,χ,ψ,q1,ρ,ς,Ψ,Ω,Θ⟩:=(μ j hj).h us e4;rw[r] at q1; simp at q1; subst q1;rw[(ς e e6).2,LY ρ] at e8
      grind
     refine⟨Γ::hs,x,θ.trans M,T,AB,ι,κ,λj hj=>?_,?_⟩
     .rcases BF.1 hj with rfl|hj
      .refine⟨λD f=>by grind,λD f=>?_,rW l,AB,AB⟩
       rw[l] at f; simp at f; subst f;refine⟨o,Γ,mk,st.s.bs.length,u,?_,X,AU _,AD,λt b=>?_⟩
       .rw[<-Pe (λt b=>α t AB)]; omega
       grind[M1]
      .have:=μ j hj
       rw[M,Λ] at this;refine⟨this.q,λD f=>?_,this.n⟩;have⟨Δ,φ,χ,ψ,q1,ρ,ς,Ψ,Ω,Θ⟩:=this.h D f;exact⟨Δ,φ,χ,ψ,q1,ρ,ς,AA,AB,Θ⟩
     .intro ο π y k β us d e id hi1 zJ A r e3 e4 e5 e6 S e8
      rcases BF.1 hi1 with rfl|hi1
      .rcases BF.1 zJ with rfl|zJ
       .rfl
       .rw[u] at A; simp at A; subst A
        rw[(X d e5).2,LY γ] at S
        grind
      .rcases BF.1 zJ with rfl|zJ
       .rw[u] at r; simp at r; subst r
        rw[(X e e6).2,LY γ] at e8
        grind
       .exact ν ο π y k β us d e id hi1 zJ A r e3 e4 e5 e6 S e8
    grind
   grind
  grind
end
def Gj {l:Ϟ} {x:Nat} (h:has l x=Z):x∈l:=Pg.1 h
def ot {E:Env} {L:Ba} {ops:Array ϡ} {f:List aa} {j:List Ϟ} {U0 Uf:Nat->AV} {σ:List AY}:∀(b:Ϫ),fk E L ops f j U0 Uf σ b=Z->∀i k,(i,k)∈b ->
  (∀o ts,ops[i]?=Y o->f[i]?=Y (.q ts)->∃s v,σ[k]?=Y s/\Fa E L ops (F3 j U0 Uf i) s o=Y v/\∀d,o.dst=Y d->Uf d=v) /\
  (∀o ts,ops[i]?=Y o->f[i]?=Y (.h ts)->∃s cs mk d id,σ[k]?=Y s/\hcells E (F3 j U0 Uf i) o=Y (cs,mk)/\o.dst=Y d/\KY (Uf d)=Y id/\s.bs[id]?=Y cs):=by
 intro b
 induction b with
 | nil=>simp
 | cons q b l=>
  obtain⟨m,n⟩:=q;intro h i k hm;simp only[fk,AK] at h;rcases BF.1 hm with e|hm
  .simp at e
   obtain⟨rfl,rfl⟩:=e;have h:=h.1;split at h
   .grind[Qt]
   .grind[IK]
   grind
  grind
def Inv.rj {E:Env} {w:ϙ}:∀(hs:Ϩ) (g:AZ) (s:AY),Inv E g w s->∃q:Nat->Prop,(∀id,g.Db id->q id)/\(∀id,s.bs.length<=id->id<s.bs.length+hs.length->q id)/\Inv E (g.CX q) w { s with bs:=s.bs++hs }:=by
 intro hs
 induction hs with
 | nil=>intro g s h; exact⟨g.Db,λ_ q=>q,λid a b=>by grind,by simpa using h.CX h.EJ (λ_ q=>q) (λid b hb=>(h.Mh id b hb).2.2)⟩
 | cons f hs i=>
  intro g s h;have⟨q,d,k,l⟩:=i _ _ (h.reserve f);refine⟨q,λid j=>d id (.inl j),λid a b=>?_,by grind[AZ.CX]⟩
  by_cases e:id=s.bs.length
  .exact d id (.inr e)
  grind
def bH {acc:List AY} {k:Nat} {s:AY} (h:acc.reverse[k]?=Y s):JK acc k=s:=by simp[JK,h]
theorem bI {E:Env} {L:Ba} {U b:Nat->AV} {s:AY} {k:JX} (h:∀z,z=k.x\/z=k.y\/z=k.ix\/z=k.v->A1 U z=A1 b z):Jy E L b s k=Jy E L U s k:=by simp[*,Jy]
theorem bJ {E:Env} {L:Ba} {U b:Nat->AV} {s:AY} {k:JX} (h:∀z,z=k.x\/z=k.y\/z=k.ix\/z=k.v->A1 U z=A1 b z):Wr E L b s k=Wr E L U s k:=by simp[*,Wr]
def bK {E:Env} {L:Ba} {U b:Nat->AV} {s:AY} {k:JX} (h:∀z,z=k.x\/z=k.y\/z=k.ix\/z=k.v->A1 U z=A1 b z):LQ E L b s k=LQ E L U s k:=by grind[LQ,bI,bJ]
def Rv {ops:Array ϡ} {p:B3} {U0 Uf:Nat->AV} {f:Nat}:∀{l:Ϟ},Rp ops p U0 Uf f l=Z->∀m∈l,∀om d t y z,ops[m]?=Y om->p.cls[m]?=Y (.w d)->om.op=.store t y z ->
  ∀id b,A1 (F3 p.LL U0 Uf m) y=.ptr id b->id≠f
 | [],_,m,hm=>by grind
 | n::l,h,m,hm=>by
  intro om d t y z i k j id b o;simp only[Rp,AK] at h;rcases BF.1 hm with rfl|hm
  .have r:=h.1
   rw[i,k] at r;simp only[j,o,Lx] at r;intro e
   simp_all
  .exact Rv h.2 m hm om d t y z i k j id b o
theorem Rw {E:Env} {L:Ba} {ops:Array ϡ} {p:B3} {U0 Uf:Nat->AV}:∀{l:Ϟ},TU E L ops p U0 Uf l=Z->∀i∈l,∀o r j x d b off len sz,Qn E L ops i j x=Z->ops[i]?=Y o->p.cls[i]?=Y (.fa r j x)->o.dst=Y d->Uf d=.ref b off len sz ->
  Rp ops p U0 Uf b p.rest=Z
 | [],_,i,hi=>by grind
 | n::l,h,i,hi=>by
  intro o r j x d b off len sz e f k m s;simp only[TU,AK] at h;rcases BF.1 hi with rfl|hi
  .grind
  .exact Rw h.2 i hi o r j x d b off len sz e f k m s
theorem Tk {E:Env} {L:Ba} {ops:Array ϡ} {b:List aa}:∀{l:Ϟ},oa E L ops b l=Z->∀i∈l,∀r j x,b[i]?=Y (.fa r j x)->Qn E L ops i j x=ϴ
 | [],_,i,hi=>by grind
 | n::l,h,i,hi=>by
  intro r j x d;simp only[oa,AK] at h;rcases BF.1 hi with rfl|hi
  .grind
  .exact Tk h.2 i hi r j x d
def bL {E:Env} {L:Ba} {ops:Array ϡ} {p:B3} {U0 Uf:Nat->AV} (h:Ws E L ops p U0 Uf=Z):∀i∈p.rest,∀o r j x d b off len sz,Qn E L ops i j x=Z->ops[i]?=Y o->p.cls[i]?=Y (.fa r j x)->o.dst=Y d->Uf d=.ref b off len sz ->
  Rp ops p U0 Uf b p.rest=true:=by grind[Ws,Tk,Rw]
section
variable {rd:Option Nat} {E:Env} {L:Ba} {cf:DH} {ops:Array ϡ} {p:B3}
def gM (hcf:IL E L cf) (b9:E.P.follows .mixedOrders=Z) (γ:Ta ops p=Z) {g:AZ} {w:ϙ} {a:Act} {st δ:St} {Q:Exit->Act->ϙ->Prop} {id:Nat} (Ω:Inv E g w st.s) (hsz:a.tmps.size=st.N)
  (hU:∀t,V g w (st.U t) (a.tmps.getD t undef)) (h:Yx E L cf p ops st=Y δ)
  (hQ:∀θ w' g',θ.tmps.size=δ.N->θ.defers=a.defers->Ext L g w g' w'->Inv E g' w' δ.s->(∀t,V g' w' (δ.U t) (θ.tmps.getD t undef))->δ.N=st.N->Q .normal θ w') :
  (Code.region id ops Z).wpIn (FW rd) 0 E.P Q a w:=by
 unfold Ta at γ;simp only at γ;split at γ
 .simp at γ
 rename_i K hK;simp only[AK] at γ;obtain⟨⟨⟨⟨hlen,π⟩,hall⟩,Θ⟩,Δ⟩:=γ;unfold Yx at h;split at h
 .rename_i GD h1
  split at h
  .rename_i B β ι
   cases μ:fk E L ops p.cls p.LL st.U B.U β.reverse p.fe with
   | false=>rw[μ] at h; simp at h
   | true=>
    cases ρ:Ws E L ops p st.U B.U with
    | false=>rw[μ,ρ] at h; simp at h
    | true=>
    rw[μ,ρ] at h;simp at h;subst h;have⟨_,b8,_,_,_,ν,h0',_,_⟩:=Ru (E:=E) (L:=L) (U0:=st.U) (Uf:=GD.U) (λ_ _=>rfl) p.first [] st Θ (λ_ _=>rfl) Δ h1;have⟨r1,a0,⟨new,r3⟩,r4,r5,_,H,r8,r9⟩:=gL (U0:=st.U) p.rest b8 GD [GD.s] 0 ν h0' hK rfl rfl ι;have⟨a8,_,a9,f2,f3,_,_,I,f7⟩:=Ru (E:=E) (L:=L) (U0:=st.U) (Uf:=B.U) a0 p.first [] st Θ (λ_ _=>rfl) Δ h1;have Λ:=ot p.fe μ;have A:∀(i:Nat) o,ops[i]?=Y o->i∈p.first\/i∈p.rest:=λi o ho=>CU.1 (Gj (HS π (DI ho)))
    have u:∀(i:Nat) o,ops[i]?=Y o->Y5 ops p i=Z/\L9 ops p i=Z/\ABN ops ops.size i=Z/\rO ops p ops.size i=Z/\Y7 p ops.size i=Z/\gF p ops.size K i=Z/\Om ops p ops.size i=true:=λi o ho=>by
     have:=HS hall (DI ho);simp only[AK] at this;obtain⟨⟨⟨⟨⟨⟨a1,a2⟩,a3⟩,a4⟩,a5⟩,a6⟩,a7⟩:=this;exact⟨a1,a2,a3,a4,a5,a6,a7⟩
    have ξ:GD.N=st.N:=a9;have hNf:B.N=st.N:=r1.trans a9;have hσ0:JK β 0=GD.s:=by rw[r3,N0 rfl]; rfl
    have hσK:JK β K=B.s:=by
     have:=N0 (new:=[]) r4;rw[Ct] at this;rw[this,r5]; rfl
    have R:WD E L cf ops p K st.N st.U B.U (JK β):={
     zH:=λi o e ho he hb=>by
      have:=(u i o ho).1;simp only[Y5,ho,AK] at this;have:=Cl.1 this.1 e (by simpa using he);simpa[hb,Nat.blt_eq] using this
     pre:=λi o j ho hj=>by
      have:=(u i o ho).1;simp only[Y5,ho,AK] at this;have⟨e,he,b⟩:=Ly.1 (Cl.1 this.2 j hj);simp only[AK,D5] at b;exact⟨e,by simpa using he,b.1,b.2.imp CV Gj⟩
     cls:=λi o ho=>by
      have:=(u i o ho).2.1;unfold L9 at this;rw[ho] at this;cases hc:p.cls[i]? with
      | none=>rw[hc] at this; simp at this
      | some c=>exact⟨c,rfl⟩
     dst:=λi j C M d hi hj ς ε=>by
      have:=HS (u i C hi).2.2.1 (DI hj);simp only[D5] at this;rcases this with q|q
      .exact(CV q).symm
      .have:=Cl.1 q d (D2.2 ⟨M,hj,ε⟩)
       simp only[Lx] at this;exact absurd (D2.2 ⟨C,hi,ς⟩) (LX.1 this)
     read:=λi j C M d hi hj ε hd=>by
      have:=Cl.1 (HS (u i C hi).2.2.2.1 (DI hj)) d (D2.2 ⟨M,hj,ε⟩);have hr:has (EW ops i) d=true:=Pg.2 (by simp only[EW,hi]; exact hd);rw[hr] at this;simp only[Nj,Fy] at this;cases κ:has (H8 p.LL i) d with
      | true=>
       rw[κ] at this;simp only[AQ,D5] at this;exact .inl ⟨rfl,this.imp CV Gj⟩
      | false=>
       rw[κ] at this;exact .inr ⟨rfl,Gj (by simpa using this)⟩
     rk:=λi j C M r χ hi hj ο ζ τ=>by
      have:=(u i C hi).2.2.2.2.1;unfold Y7 at this;rw[ο] at this;have:=HS this (DI hj);rw[ζ] at this;simp only[D5,AK,Lx] at this;rcases this with q|⟨_,q⟩
      .have:=CV q
       subst this;rw[ο] at ζ; simp at ζ; omega
      .rcases q with q|q
       .have:Nat.blt r χ=true:=by grind[Nat.blt_eq]
        rw[this] at q; simp at q
       .exact Gj q
     ABO:=λi j C M r hi hj ο ζ=>by
      have:=(u i C hi).2.2.2.2.1;unfold Y7 at this;rw[ο] at this;have:=HS this (DI hj);rw[ζ] at this;simp only[D5,AK,Lx] at this;rcases this with q|⟨q,_⟩
      .exact CV q
      .simp at q
     AEy:=λk X=>by
      have⟨i,hi,hr⟩:=r9 k (AO _) X;have b0:=H i hi;unfold FU at hr;cases hc:p.cls[i]? with
      | none=>rw[hc] at hr; simp at hr
      | some c=>
       rw[hc] at hr;cases c with
       | w r=>have⟨o,_,ho,_⟩:=b0.w r hc; exact⟨i,o,ho,by grind[FU]⟩
       | fa r j x=>have⟨o,_,_,_,_,_,ho,_⟩:=b0.fa r j x hc; exact⟨i,o,ho,by grind[FU]⟩
       | _=>simp[Kk] at hr
     AEz:=λi o r ho hr=>by
      rcases A i o ho with hi|hi
      .have:=(I i hi).n.1; rw[this] at hr; simp at hr
      .grind
     time:=λi o ts ho hc k X hn=>by
      have O:=(u i o ho).2.2.2.2.2.1
      have key:((List.range (K+1)).all λk=>has ts k||(List.range ops.size).any λj=>match FU p j with
        | some r=>(has (EP p i) j&&Nat.ble k r)||(has (EP p j) i&&Nat.blt r k)
        | none=>ϴ)=true:=by
       unfold gF at O;rcases hc with hc|hc <;> rw[hc] at O <;> simp only[AK] at O <;> exact O.1
      have:=HS key (show k<K+1 by omega);rw[LX.2 hn,Fy] at this;have⟨j,hj,b⟩:=Ly.1 this;cases hr:FU p j with
      | none=>rw[hr] at b; simp at b
      | some r=>
       rw[hr] at b;simp only[D5,AK] at b;have AVx:j<ops.size:=by simpa using hj
       refine⟨j,ops[j],r,by simp[AVx],hr,b.imp (λq=>⟨Gj q.1,by simpa[Nat.ble_eq] using q.2⟩) (λq=>⟨Gj q.1,by simpa[Nat.blt_eq] using q.2⟩)⟩
     rS:=λi o r j x ho hc=>by
      have f:=(u i o ho).2.2.2.2.2.2;unfold Om at f;rw[hc] at f;simp only[AK] at f;obtain⟨⟨⟨⟨b6,u2⟩,u3⟩,u4⟩,u5⟩:=f;rcases A i o ho with hi|hi
      .have:=(I i hi).n.1; rw[Ko hc] at this; simp at this
      have⟨l,o1,o2,kf,v,U,g1,g2,g3,g4,g5,g6,g7,g8,g9,Ξ⟩:=(H i hi).fa r j x hc;rw[ho] at g1; simp at g1; subst g1;have⟨q1,q2,q3,q4,q5,q6,q7,q8,q9,q10,q11⟩:=Gh g4
      have W:p.cls[j]?=Y .fj/\p.cls[x]?=Y .fx:=by
       split at b6
       .rename_i e1 e2 _ _ _; exact⟨e1,e2⟩
       .simp at b6
      have υ:∀(α:Nat) l,ops[α]?=Y l->(p.cls[α]?=Y (.fa r j x)\/p.cls[α]?=Y .fj\/p.cls[α]?=Y .fx)->H8 p.LL α=[]:=λα l ν hc'=>by
       have:=(u α l ν).2.1;unfold L9 at this;rw[ν] at this;rcases hc' with hc' | hc' | hc' <;> rw[hc'] at this <;> simp only[AK] at this <;> simpa using this.2
      have w1:=υ i o ho (.inl hc);have w2:=υ j o1 g2 (.inr (.inl W.1));have w3:=υ x o2 g3 (.inr (.inr W.2));refine⟨o1,o2,kf,g2,g3,W.1,W.2,g4,w1,w2,w3,Gj u2,Gj u3,Gj u4,v,?_,g9,Ξ⟩;rw[<-g5];refine bK λz b7=>Kl λt O=>?_
      have π:t∈oh ops p i:=by
       unfold oh;rw[hc];simp only[List.mem_filter];have hd1:GQ ops i++GQ ops j=[kf.d,kf.p]:=by simp[GQ,lA,ho,g2,q2,q4]
       constructor
       .simp only[CU]
        rcases b7 with e|e|e|e
        .exact .inl (.inl (by simp only[EW,ho]; exact JQ _ (Dv.2 (by grind[Op.operands,Call.operands]))))
        .exact .inl (.inl (by simp only[EW,ho]; exact JQ _ (Dv.2 (by grind[Op.operands,Call.operands]))))
        .exact .inl (.inr (by simp only[EW,g2]; exact JQ _ (Dv.2 (by grind[Op.operands]))))
        .grind[EW,Dv,Op.operands]
       .rw[hd1]
        have⟨z1,z2⟩:=Rt g4 z b7;simp only[Lx,LX,BF,ER,ES,not_or];exact⟨λe=>z1 (by rw[O,e]),λe=>z2 (by rw[O,e])⟩
      have:=g6 t π;rw[this];unfold F3;rw[w1];rfl
     mu:=λi o r j x d Mv off len sz hX ho hc hd S m om χ t y z Φ D hop id off' hy=>by
      have hir:i∈p.rest:=by
       rcases A i o ho with hi|hi
       .have:=(I i hi).n.1; rw[Ko hc] at this; simp at this
       .omega
      have hmr:m∈p.rest:=by
       rcases A m om Φ with hi|hi
       .have:=(I m hi).n.1; rw[K7 D] at this; simp at this
       .omega
      exact Rv (bL ρ i hir o r j x d Mv off len sz hX ho hc hd S) m hmr om χ t y z Φ D hop id off' hy
     win:=λi o r j x ho hc m om hm h1 ι h3=>by
      have f:=(u i o ho).2.2.2.2.2.2;unfold Om at f;rw[hc] at f;simp only[AK] at f;have:=HS f.2 (DI hm);have n1:Nat.beq m i=false:=by rw[Nk]; exact λq=>h1 (CV q)
      have n2:Nat.beq m j=false:=by rw[Nk]; exact λq=>ι (CV q)
      have n3:Nat.beq m x=false:=by rw[Nk]; exact λq=>h3 (CV q)
      rw[n1,n2,n3] at this;simp only[Fy,AK,D5] at this;refine⟨this.1.imp Gj (λq=>q.imp Gj (λz=>z)),λd hd hr=>?_⟩;have:=Cl.1 this.2 d (D2.2 ⟨om,hm,hd⟩);simp only[D5,Lx,HC] at this;rcases this with q|q
      .rcases hr with hr|hr
       .exact absurd hr (LX.1 q.1)
       .exact absurd hr (LX.1 q.2)
      .exact Gj q
     ALj:=λj M hj hc=>by
      have f:=(u j M hj).2.2.2.2.2.2;unfold Om at f;rw[hc] at f;have⟨m,hm,b⟩:=Ly.1 f;have τ:m<ops.size:=by simpa using hm
      split at b
      .rename_i r j' x' D
       have:=CV b;subst this;exact⟨m,ops[m],r,x',AD,D⟩
      .simp at b
     ALk:=λx ox hx hc=>by
      have f:=(u x ox hx).2.2.2.2.2.2;unfold Om at f;rw[hc] at f;have⟨m,hm,b⟩:=Ly.1 f;have τ:m<ops.size:=by simpa using hm
      split at b
      .rename_i r j' x' D
       have:=CV b;subst this;exact⟨m,ops[m],r,j',by simp[τ],D⟩
      .simp at b
     out:=λt O=>by
      have κ:∀j,t∉Hz ops p j:=λj hj=>by
       unfold Hz at hj;have nd:∀q,t∉GQ ops q:=λq S=>by have⟨o,h1,ι⟩:=D2.1 S; exact O q o h1 ι
       split at hj
       .simp at hj
       .simp at hj
       .rcases CU.1 hj with q|q <;> grind
       .exact nd _ hj
      rw[a0 t (λj _=>κ j),f2 t (λj _=>κ j)]
     rT:=λi o d ho hd=>by
      rcases A i o ho with hi|hi
      .have hF:=I i hi
       cases hc:p.cls[i]? with
       | none=>
        have:=(u i o ho).2.1;unfold L9 at this;rw[ho,hc] at this;simp at this
       | some c=>
        cases c with
        | q ts=>
         have⟨l,_,_,g1,_,g3,_⟩:=hF.q ts hc;rw[ho] at g1; simp at g1; subst g1;exact(g3 d hd).1
        | h ts=>
         have⟨l,_,_,_,g1,_,g3,_⟩:=hF.h ts hc;rw[ho] at g1; simp at g1; subst g1;exact(g3 d hd).1
        | w r=>have:=hF.n.1; rw[K7 hc] at this; simp at this
        | fa r j x=>have:=hF.n.1; rw[Ko hc] at this; simp at this
        | fj=>exact absurd hc hF.n.2.1
        | fx=>exact absurd hc hF.n.2.2
      .have hF:=H i hi
       have φ:∀(m:Nat) r j x,m<ops.size->p.cls[m]?=Y (.fa r j x)->∃o o1 o2 k,ops[m]?=Y o/\ops[j]?=Y o1/\ops[x]?=Y o2/\fused o o1 o2=Y k/\k.d<st.N/\k.p<st.N:=λm r j x hm hc=>by
        rcases A m ops[m] (by simp[hm]) with mi|mi
        .have:=(I m mi).n.1; rw[Ko hc] at this; simp at this
        .have⟨l,o1,o2,kf,v,U,g1,g2,g3,g4,g5,g6,g7,g8,g9,Ξ⟩:=(H m mi).fa r j x hc
         exact⟨l,o1,o2,kf,g1,g2,g3,g4,by rw[<-ξ]; exact g7,by rw[<-ξ]; exact g8⟩
       have f:=(u i o ho).2.2.2.2.2.2;unfold Om at f;cases hc:p.cls[i]? with
       | none=>
        have:=(u i o ho).2.1;unfold L9 at this;rw[ho,hc] at this;simp at this
       | some c=>
        rw[hc] at f;cases c with
        | q ts=>
         have⟨l,_,_,g1,_,g3,_⟩:=hF.q ts hc;rw[ho] at g1; simp at g1; subst g1;rw[<-ξ]; exact(g3 d hd).1
        | h ts=>exact absurd hc (hF.h ts)
        | w r=>
         have⟨l,_,g1,_,g3⟩:=hF.w r hc;rw[ho] at g1; simp at g1; subst g1;rw[<-ξ]; exact(g3 d hd).1
        | fa r j x=>
         have⟨l,o1,o2,k,g1,g2,g3,g4,g5,g6⟩:=φ i r j x (DI ho) hc;rw[ho] at g1; simp at g1; subst g1;have:=(Gh g4).2.1;rw[hd] at this; simp at this; rw[this]; exact g5
        | fj=>
         have⟨m,hm,b⟩:=Ly.1 f;split at b
         .rename_i r j' x' D
          have:=CV b;subst this;have⟨l,o1,o2,k,g1,g2,g3,g4,g5,g6⟩:=φ m r j' x' (by simpa using hm) D;rw[ho] at g2; simp at g2; subst g2;have:=(Gh g4).2.2.2.1;rw[hd] at this; simp at this; rw[this]; exact g6
         .simp at b
        | fx=>
         have⟨m,hm,b⟩:=Ly.1 f;split at b
         .rename_i r j' x' D
          have:=CV b;subst this;have⟨l,o1,o2,k,g1,g2,g3,g4,g5,g6⟩:=φ m r j' x' (by simpa using hm) D;rw[ho] at g3; simp at g3; subst g3;have:=(Gh g4).2.2.2.2.2.1;rw[hd] at this; simp at this
         .simp at b
     wF:=λi o r ho hc=>by
      rcases A i o ho with hi|hi
      .have:=(I i hi).n.1; rw[K7 hc] at this; simp at this
      .have⟨l,v,g1,g2,g3⟩:=(H i hi).w r hc
       rw[ho] at g1; simp at g1; subst g1;exact⟨v,g2,λd hd=>(g3 d hd).2⟩
     qF:=λi o ts k ho hc X=>by
      have ω:∀s v,Ol ops i=Z->Fa E L ops (F3 p.LL st.U B.U i) s o=Y v->Fa E L ops (F3 p.LL st.U B.U i) (JK β k) o=Y v:=λs v ψ S=>by
       have hp':Y6 o=true:=by simpa[Ol,ho] using ψ
       unfold Fa at S ⊢;split at S
       .exact ZB hp' S
       .exact S
       .simp at S
      have Γ:(i,k)∈p.fe->∃v,Fa E L ops (F3 p.LL st.U B.U i) (JK β k) o=Y v/\∀d,o.dst=Y d->B.U d=v:=λhm=>by
       have⟨s,v,g1,g2,g3⟩:=(Λ i k hm).1 o ts ho hc;exact⟨v,by rw[bH g1]; exact g2,g3⟩
      rcases A i o ho with hi|hi
      .have⟨l,s,v,g1,g2,g3,g4⟩:=(I i hi).q ts hc
       rw[ho] at g1; simp at g1; subst g1;rcases g4 k X with q|q
       .exact⟨v,ω s v q g2,λd hd=>(g3 d hd).2⟩
       .exact Γ q
      .have⟨l,kk,v,g1,g2,g3,g4⟩:=(H i hi).q ts hc
       rw[ho] at g1; simp at g1; subst g1;rcases g4 k X with q|q|q
       .subst q; exact⟨v,g2,λd hd=>(g3 d hd).2⟩
       .exact⟨v,ω _ v q g2,λd hd=>(g3 d hd).2⟩
       .exact Γ q
     hF:=λi o ts ho hc=>by
      have η:=(u i o ho).2.1;unfold L9 at η;rw[ho,hc] at η;simp only[AK] at η;rcases A i o ho with hi|hi
      .have⟨l,cs,mk,id',g1,g2,g3,g4,g5,g6⟩:=(I i hi).h ts hc
       rw[ho] at g1; simp at g1; subst g1;have⟨d,hd⟩:=Yf.1 η.2;refine⟨by simpa using η.1,d,cs,mk,id',hd,g2,(g3 d hd).2,λk X=>?_⟩;have⟨s,cs',mk',d',AVy,e1,e2,e3,e4,e5⟩:=(Λ i k (g6 k X)).2 o ts ho hc;rw[hd] at e3; simp at e3; subst e3;rw[(g3 d hd).2,LY g2] at e4;simp at e4; subst e4;rw[g2] at e2; simp at e2;rw[bH e1,e5,e2.1]
      .exact absurd hc ((H i hi).h ts)
     ALl:=λi j C M ts us d e id' hi hj Ψ W ς ε h1' h2'=>by
      rcases A i C hi with m1|m1
      .rcases A j M hj with m2|m2
       .exact f7 i j C M ts us d e id' m1 m2 hi hj Ψ W ς ε h1' h2'
       .exact absurd W ((H j m2).h us)
      .exact absurd Ψ ((H i m1).h ts) }
    have hid:∀(i:Nat) o ts d id,ops[i]?=Y o->p.cls[i]?=Y (.h ts)->o.dst=Y d->KY (B.U d)=Y id->st.s.bs.length<=id/\id<st.s.bs.length+a8.length:=λi o ts d id' ho hc hd T=>by
     rcases A i o ho with hi|hi
     .have⟨l,cs,mk,AVy,g1,g2,g3,g4,g5,g6⟩:=(I i hi).h ts hc
      rw[ho] at g1; simp at g1; subst g1;rw[(g3 d hd).2,LY g2] at T;simp at T; subst T;exact⟨g4,AB⟩
     .exact absurd hc ((H i hi).h ts)
    have⟨q,hq1,hq2,hq3⟩:=Inv.rj a8 g st.s Ω;refine gK R hcf b9 (g:=g) (g1:=g.CX q) (λi o ts d id' ho hc hd T ψ=>?_) ((Ext.refl L g w).CX hq1) ?_ hsz (λt=>(hU t).CX) (λi o ts d id' ho hc hd T=>?_) (λθ w' g' b1 b2 b3 b4 b5=>?_)
    .have:=(Ω.EJ id' ψ).1
     have:=(hid i o ts d id' ho hc hd T).1;omega
    .rw[hσ0,f3]; exact hq3
    .have⟨x1,x2⟩:=hid i o ts d id' ho hc hd T
     exact hq2 id' x1 x2
    .grind
  .grind
 .grind
end
structure gN (E:Env) (g:AZ) (w:ϙ) (st:St) (a:Act):Prop where
 inv:Inv E g w st.s
 size:a.tmps.size=st.N
 tmps:∀t,V g w (st.U t) (a.tmps.getD t undef)
theorem gN.put {E:Env} {L:Ba} {g g':AZ} {w w':ϙ} {st b:St} {a:Act} {s:AY} {d:Option Nat} {v:AV} {u:Value} (h:gN E g w st a) (i:LO { st with s:=s } d v=Y b) (j:Ext L g w g' w') (n:Inv E g' w' s) (o:V g' w' v u) :
  gN E g' w' b (a.put d u)/\b.N=st.N:=by
 have⟨f,r,k,l⟩:=Gi i;refine⟨⟨AB,by rw[Th,f]; exact h.size,λt=>?_⟩,f⟩
 by_cases e:d=Y t
 .subst e
  have⟨x,m⟩:=k t rfl;rw[J6 (by rw[h.size]; omega),m];omega
 .rw[Qv e,l t e]
  exact(h.tmps t).mono j
def Kq (i n:Nat):List.range' i (n+1)=i::List.range' (i+1) n:=AX
section
variable {rd:Option Nat} {E:Env} {L:Ba} {cf:DH} {ops:Array ϡ} {Q:Exit->Act->ϙ->Prop}
theorem W0 {i:Nat} {rest:Ϟ} {o:ϡ} {a:Act} {w:ϙ} (b:ops[i]?=Y o) (d:Region.wanted o (yielded ops a.tmps)=Z) (h:o.wpIn (FW rd) 0 E.P a w (wpOpsIn (FW rd) 0 E.P ops Q rest) Q):wpOpsIn (FW rd) 0 E.P ops Q (i::rest) a w:=by grind[wpOpsIn]
def rm {i:Nat} {rest:Ϟ} {o:ϡ} {a:Act} {w:ϙ} (b:ops[i]?=Y o) (d:Region.wanted o (yielded ops a.tmps)=ϴ) (h:wpOpsIn (FW rd) 0 E.P ops Q rest (a.put o.dst undef) w):wpOpsIn (FW rd) 0 E.P ops Q (i::rest) a w:=by
 simp only[wpOpsIn,b,d,Dj,JP];exact⟨λ_ _=>trivial,h⟩
def Qy {i:Nat} {rest:Ϟ} {o:ϡ} {a:Act} {w w':ϙ} {v:Value} (b:ops[i]?=Y o) (d:o.guard=G) (e:(execOp a.eval o).run E.P w=.ok (.value v) w'\/((execOp a.eval o).run E.P w=.ok .skip w'/\v=undef))
  (h:wpOpsIn (FW rd) 0 E.P ops Q rest (a.put o.dst v) w'):wpOpsIn (FW rd) 0 E.P ops Q (i::rest) a w:=by grind[W0,Region.wanted,Kn,Jd]
def rq {g:AZ} {w:ϙ} {st r:St} {a:Act} {o M A:ϡ} {k:JX} {v:AV} {s:AY} {i:Nat} {rest:Ϟ} (h:gN E g w st a) (υ:ops[i]?=Y o) (θ:ops[i+1]?=Y M) (ι:ops[i+2]?=Y A)
  (hf:fused o M A=Y k) (j:Jy E L st.U st.s k=Y (v,s)) (m:K3 st k v s=Y r)
  (hk:∀B w' g',gN E g' w' r B->B.defers=a.defers->Ext L g w g' w'->r.N=st.N->wpOpsIn (FW rd) 0 E.P ops Q rest B w'):wpOpsIn (FW rd) 0 E.P ops Q (i::(i+1)::(i+2)::rest) a w:=by
 have⟨f1,φ,f3,χ,O,f6,f7,C,f9,b6,b7⟩:=Gh hf;have b8:=Rt hf;have κ:=A9 h.tmps k.x;have μ:=A9 h.tmps k.y;have ν:=A9 h.tmps k.ix;have ξ:=A9 h.tmps k.v;unfold K3 at m;split at m
 .rename_i GD H
  unfold Jy at j;split at j
  .rename_i b3 ψ
   split at j
   .rename_i b9
    split at j
    .rename_i f rows z n row ο ε S π ζ
     split at j
     .rename_i η
      obtain⟨q1,ω,Γ,W,Δ,Θ,Λ⟩:=η;have I:=E1 ξ W;have⟨t1,Ξ⟩:=HO I ζ;have⟨b,l,X,e,Φ,t,α,g',a1,Ψ,Ω,a0,a5,a6,⟨a7,ρ⟩,a8⟩:=My (T:=o.type) h.inv ψ ο Θ Λ κ ε μ S ω Δ (us:=(a.eval k.v).cells.toList) AA Γ Ξ j;have⟨kk,hix⟩:=Fc ν π;have⟨β,n1⟩:=h.put H Ω a0 Ψ;have ς:LO { GD with s:=GD.s } (Y k.p) .Gy=Y r:=m;have⟨s2,n2⟩:=β.put (u:=.pointer (Y ⟨b,rows.length*f.size,G⟩)) ς (Ext.refl L g' α) β.inv .Gy;have b4:(a.eval k.v).cells.size=f.size:=AB
      have a9:k.d<a.tmps.size:=by
       have⟨_,_,γ,_⟩:=Gi H;rw[h.size]; grind
      have hpN:k.p<a.tmps.size:=by
       have⟨_,_,γ,_⟩:=Gi m;have:=(γ k.p rfl).1;rw[h.size]; omega
      have D:∀z,z=k.ix\/z=k.v->∀u δ,((a.put (Y k.d) u).put (Y k.p) δ).eval z=a.eval z/\(a.put (Y k.d) u).eval z=a.eval z:=λz S u δ=>by grind[Ew]
      have τ:t.heap[b]?=Y (.cells ⟨X⟩ e Φ):=by grind[Bv]
      refine Qy υ C.1 (v:=.slice (Y ⟨b,0,G⟩) (rows.length+1) l) (w':=t) (.inl ?_) ?_
      .simp[*,execOp,resolve,invoke,builtin]
      rw[φ];refine Qy θ C.2.1 (v:=.pointer (Y ⟨b,rows.length*f.size,G⟩)) (w':=t) (.inl ?_) ?_
      .have b0:(a.put (Y k.d) (.slice (Y ⟨b,0,G⟩) (rows.length+1) l)).eval (.tmp k.d)=.slice (Y ⟨b,0,G⟩) (rows.length+1) l:=J6 a9
       have b1:=(D k.ix (.inl rfl) (.slice (Y ⟨b,0,G⟩) (rows.length+1) l) undef).2;simp[*,execOp,Instr.indexAt,asIntOf,run_underlying,run_sizeOf,Dl]
      rw[χ];refine Qy ι C.2.2 (v:=undef) (w':=α) (.inr ⟨?_,rfl⟩) ?_
      .have b0:((a.put (Y k.d) (.slice (Y ⟨b,0,G⟩) (rows.length+1) l)).put (Y k.p) (.pointer (Y ⟨b,rows.length*f.size,G⟩))).eval (.tmp k.p)=.pointer (Y ⟨b,rows.length*f.size,G⟩):=J6 (by grind[Th])
       have b1:=(D k.v (.inr rfl) (.slice (Y ⟨b,0,G⟩) (rows.length+1) l) (.pointer (Y ⟨b,rows.length*f.size,G⟩))).1;obtain⟨dst,op,b5,pos,b2,guard⟩:=A;simp only at O;subst O;have m:=Fj (P:=E.P) (b:=b) (o:=rows.length*f.size) (e:=e) ρ (a.eval k.v).cells.toList 0 t X (VL.one I W) τ AA
       grind[Er,L7,execOp,Instr.storeAt,Instr.sureAddr,storeVar,Sem.run_bind,Sem.run_pure,Result.andThen_ok,run_sizeOf]
      grind[Act.put]
     grind
    grind
   grind
  grind
 grind
def gO (W:IL E L cf):∀(n i:Nat) (l:List ϡ) (st e:St) (a:Act) (w:ϙ) (g:AZ),l.length=n->l=ops.toList.drop i->gN E g w st a->JD E L cf ops l st=Y e ->
  (∀m w' g',gN E g' w' e m->m.defers=a.defers->Ext L g w g' w'->e.N=st.N->Q .normal m w')->wpOpsIn (FW rd) 0 E.P ops Q (List.range' i l.length) a w:=by
 intro n
 induction n using Nat.strongRecOn with
 | ind n H=>
  intro i l st e a w g hn β d h z;cases l with
  | nil=>
   simp[JD] at h;subst h;exact z a w g d rfl (Ext.refl _ _ _) rfl
  | cons o b=>
   have r:∀(j:Nat) q,(o::b)[j]?=Y q->ops[i+j]?=Y q:=λj q ν=>by grind
   have μ:∀j,(o::b).drop j=ops.toList.drop (i+j):=λj=>by rw[β,List.drop_drop]
   have one:(match FZ ops st.U o with
     | some Z=>match OT E L cf st o with
      | some st=>JD E L cf ops b st
      | none=>G
     | some ϴ=>match LO st o.dst (.tuple []) with
      | some st=>JD E L cf ops b st
      | none=>G
     | none=>G)=Y e->wpOpsIn (FW rd) 0 E.P ops Q (List.range' i (o::b).length) a w:=by
    intro h;rw[CP,Kq];have u:b.length<n:=AB;have S:b=ops.toList.drop (i+1):=AB;split at h
    .rename_i A
     split at h
     .rename_i GD f
      unfold OT at f;split at f
      .rename_i v s T
       refine W0 (r 0 o rfl) (Di d.tmps A) (Oq W d.inv d.tmps T λξ w' g' γ I δ=>?_);have⟨M,O⟩:=d.put f I δ γ;exact H b.length u (i+1) b GD e _ w' g' rfl S M h λm x y q1 B C D=>z m x y q1 (B.trans (put_defers _ _ _)) (I.trans C) (D.trans O)
      grind
     grind
    .rename_i A
     split at h
     .rename_i GD f
      refine rm (r 0 o rfl) (Di d.tmps A) ?_;have⟨M,O⟩:=d.put (L:=L) (s:=st.s) f (Ext.refl L g w) d.inv V.undef
      grind[put_defers]
     grind
    grind
   unfold JD at h;simp only at h;split at h
   .rename_i ε ζ t
    split at h
    .rename_i k hf
     split at h
     .rename_i v s X
      split at h
      .rename_i GD f
       have u:t.length<n:=AB;simp only[CP];rw[Kq,Kq,Kq];refine rq d (r 0 o rfl) (r 1 ε rfl) (r 2 ζ rfl) hf X f λm w' g' q1 B C D=>?_
       exact H t.length u (i+3) t GD e m w' g' rfl AB q1 h λα x y η θ ι κ=>z α x y η (θ.trans B) (C.trans ι) (κ.trans D)
      grind
     grind
    grind
   grind
end
end Go.Tel
