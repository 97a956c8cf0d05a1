/-
  The reference's branches: shape, measure, invariant variables.
-/
import Derived.Test.YtpgfpakdnijngaaGreatDoorTI
import Derived.Test.YtpgfpakdnijngaaGreatDoorTH
import Derived.Test.YtpgfpakdnijngaaGreatDoorW1
import Derived.Test.YtpgfpakdnijngaaGreatDoorTF
set_option linter.all false
namespace Go.Proofs.YtpgfpakdnijngaaGreatDoor
open Go.Tel
open List renaming length->F
open Option renaming some->Y
open Bool renaming true->Z,false->ϴ
def om (U:Ϟ) (i:Int):Nat:=bif decide (0<=i) then 1 else U.getD (-1-i).toNat 1
def qt (U:Ϟ) (w:Nat) (i:Int):Nat:=bif i==AW then w else om U i
def mx:Ϟ->Nat
 | []=>0
 | a::l=>max a (mx l)
def ADx {a:Nat}:∀{l:Ϟ},a∈l->a<=mx l
 | b::l,h=>by
  rw[mx];rcases BF.1 h with rfl|h
  .omega
  .have:=ADx h
   omega
mutual
def sz (M:Ms):Ty->Ϟ->Nat
 | .mk k n i ts,U=>bif k==5 then U.getD i.toNat 1 else bif k==3 then M.c (szl M ts U) else bif k==4 then mx (szl M ts U) else bif k==6 then szx M ts U else M.nm (.mk k n i ts)
def szl (M:Ms):Ϣ->Ϟ->Ϟ
 | [],_=>[]
 | t::l,U=>sz M t U::szl M l U
def szx (M:Ms):Ϣ->Ϟ->Nat
 | [],_=>0
 | b::l,U=>szh M l (max 1 (sz M b [])::U)
def szh (M:Ms):Ϣ->Ϟ->Nat
 | [],_=>0
 | t::_,U=>sz M t U
end
theorem Qc (M:Ms) (U:Ϟ):∀l:Ϣ,szl M l U=l.map λt=>sz M t U
 | []=>rfl
 | t::l=>by rw[szl,Qc M U l]; rfl
mutual
def Z8 (M:Ms):∀(t:Ty) (U σ τ:Ϟ),A2 t=Z->CJ (F U) t=Z->sz M t (U++σ)=sz M t (U++τ)
 | .mk k n i ts,U,σ,τ,d,r=>by
  have m:=d;simp only[A2,AK] at d;rw[sz,sz];cases x:k==5 with
  | true=>
   have:k=5:=AB;subst this;obtain⟨rfl,rfl,y⟩:=EL m
   grind[CJ]
  | false=>
   have e:=Dq r AB;simp only[AL];cases h6:k==6 with
   | true=>
    have:k=6:=AB;subst this;rcases JN d.1 with h|h|h|h|h|h|⟨_,_,_,b,l,rfl,u⟩
    iterate 6 exact absurd h AD
    simp only[BO,AK] at d;simp only[De,AK] at e;have o:CJ (F (max 1 (sz M b [])::U)) l=true:=e.2.1;have:=Z8 M l (max 1 (sz M b [])::U) σ τ d.2.2.1 o;exact this
   | false=>
    have p:k≠6:=AB;have:=eN M ts U σ τ d.2 (λt s=>FJ p e s)
    grind
def eN (M:Ms):∀(l:Ϣ) (U σ τ:Ϟ),BO l=Z->(∀t∈l,CJ (F U) t=Z)->szl M l (U++σ)=szl M l (U++τ)
 | [],_,_,_,_,_=>rfl
 | t::l,U,σ,τ,d,e=>by
  simp only[BO,AK] at d;rw[szl,szl,Z8 M t U σ τ d.1 (e t AD),eN M l U σ τ d.2 λu m=>e u AB]
end
mutual
def Vb (M:Ms) {ω d:Int->Nat}:∀t:Ty,(∀i∈Af t,ω i<=d i)->wz M ω t<=wz M d t
 | .mk k n i ts,h=>by
  rw[Af] at h;rw[wz,wz];cases e:k==5 with
  | true=>grind
  | false=>
   rw[e] at h;cases l:k==3 with
   | true=>rw[l] at h; exact M.mono _ _ (YD M ts h)
   | false=>simp
def YD (M:Ms) {ω d:Int->Nat}:∀l:Ϣ,(∀i∈B5 l,ω i<=d i)->CD (·<=·) (WZ M ω l) (WZ M d l)
 | [],_=>trivial
 | t::l,h=>by
  rw[B5] at h;exact⟨Vb M t λi e=>h i AB,YD M l λi e=>h i AB⟩
end
mutual
theorem nU {p q:Int->Bool} (h:∀i,p i=Z->q i=Z):∀t:Ty,oA p t=Z->oA q t=Z
 | .mk k n i ts,d=>by
  rw[oA] at d ⊢;cases e:k==5 with
  | true=>grind
  | false=>
   rw[e] at d;simp only[AL,AK] at d ⊢;exact⟨d.1,eO h ts d.2⟩
theorem eO {p q:Int->Bool} (h:∀i,p i=Z->q i=Z):∀l:Ϣ,UB p l=Z->UB q l=Z
 | [],hl=>by cases hl
 | t::l,hl=>by
  rw[UB] at hl ⊢;rcases Yo.1 hl with hl|hl
  .rw[nU h t hl,D6]
  .rw[eO h l hl,Dx]
end
mutual
theorem Z9 {p q:Int->Bool} (h:∀i,p i=Z->q i=Z):∀t:Ty,oI p t=Z->oI q t=Z
 | .mk k n i ts,d=>by
  rw[oI] at d ⊢;cases e:k==2 with
  | true=>grind[nU]
  | false=>
   rw[e] at d;simp only[AL,AK] at d ⊢;exact⟨d.1,eP h ts d.2⟩
theorem eP {p q:Int->Bool} (h:∀i,p i=Z->q i=Z):∀l:Ϣ,KV p l=Z->KV q l=Z
 | [],hl=>by cases hl
 | t::l,hl=>by
  rw[KV] at hl ⊢;rcases Yo.1 hl with hl|hl
  .rw[Z9 h t hl,D6]
  .rw[eP h l hl,Dx]
end
def Vc {g:Int->Int} {i j:Int} (d:g i=j) {t:Ty} (hb:bd t=Z) (h:oI (·==i) t=Z):oI (·==j) (Bq (λi=>var (g i)) t)=true:=by
 rw[jE _ _ _ hb]
 grind[Z9]
structure aA (M:Ms) (ω:Int->Nat) (S:Nat) (b:Br):Prop where
 wb:wB b.AM=Z
 inv:∀i:Nat,i<F b.AN->oI (·==(i:Int)) b.AM=Z
 Gw:wz M ω b.AM<=S
section
variable {A7:Nat->Bool} {M:Ms}
def ADy (U:Ϟ) {w:Nat} (d:1<=w) (n:Nat) (i:Int):om U (bif i==-1 then(n:Int) else bif decide (i<0) then i+1 else i)<=om (w::U) i:=by
 by_cases e:i=-1
 .simp[*,om]
 .by_cases l:i<0
  .have m:(i==-1)=false:=by grind
   have o:((-1-i).toNat)=(-1-(i+1)).toNat+1:=AA;have e3:decide (0<=i)=false:=AB;have e4:decide (0<=i+1)=false:=AB
   grind[om,List.getD_cons_succ]
  grind[om]
def AAo {U:Ϟ} {w S:Nat} {b c:Br} {k:Nat} (hb:aA M (qt U w) S b) (hk:El b.AM=Y k) (d:aA M (om U) w c) {W:Nat} (m:LF W c) (hs:((F b.AN+F c.AN:Nat):Int)<AW):aA M (qt U w) S (CA b k c):=by
 have⟨n,t⟩:=Dr hk;have o:k<F (Af b.AM):=(BJ.1 n).1;have p:wB (HE (F b.AN) c.AM)=true:=by rw[MT]; exact JH _ _ d.wb
 refine⟨ADw p _ _ hb.wb,λi l=>?_,?_⟩
 .have l:i<F b.AN+F c.AN:=by grind[CA]
  by_cases h:i<F b.AN
  .exact nR _ _ _ _ (hb.inv i h)
  .refine xJ _ ?_ _ _ o
   rw[MT];refine Vc (i:=((i-F b.AN:Nat):Int)) ?_ (KR _ d.wb) (d.inv _ AA)
   grind
 .refine BC (ADu M (w:=AW) ?_ b.AM k n) hb.Gw
  have e:qt U w AW=w:=AX;rw[e,MT,LJ _ _ _ _ d.wb];refine BC (Vb M _ λi l=>?_) d.Gw
  have r:i≠AW:=λu=>by
   have:=Kc.1 m.nh
   grind
  have s:=QL _ m.ok i l
  grind[qt,om]
def nV {U:Ϟ} {w S T wv W:Nat} {l:Ϥ} (m:∀c∈l,aA M (om U) w c/\LF W c/\F c.AN<=wv) (p:(T:Int)<AW):∀(f:Nat) (b:Br) (r:Ϥ),aA M (qt U w) S b->vP (Sa (F b.AN)) b.AM=Z->F b.AN+(Af b.AM).count AW*wv<=T ->
  DQ A7 l f b=Y r->∀d∈r,aA M (qt U w) S d
 | 0,b,r,hb,_,_,h,d,n=>by grind[DQ]
 | f+1,b,r,hb,t,D,h,d,n=>by
  rw[DQ] at h;cases hk:El b.AM with
  | none=>
   grind
  | some k=>
   rw[hk] at h;rcases Iz h d n with K|⟨c,u,s,x,y⟩
   .grind
   .have⟨z,e,E⟩:=m c u
    have o:0<(Af b.AM).count AW:=by
     have I:=Dr hk
     grind
    have N:1*wv<=(Af b.AM).count AW*wv:=Be _ o;have hs:((F b.AN+F c.AN:Nat):Int)<AW:=AA;have⟨A,O,C,_⟩:=Zn t hk e hs;have Q:F (CA b k c).AN=F b.AN+F c.AN:=by simp[CA]
    have X:(Af b.AM).count AW*wv=(Af (CA b k c).AM).count AW*wv+wv:=by rw[<-C,Kh]
    exact nV m p f _ s (AAo hb hk z e hs) A AA x d y
def xK {U:Ϟ} {w S T wv W V:Nat} (p:1<=w) {LA:Option Ϥ} {u:Ty} {b:Br} (hb:aA M (om (w::U)) S b) (n:LF V b) (C:∀l,LA=Y l->∀c∈l,aA M (om U) w c/\LF W c/\F c.AN<=wv) (D:(T:Int)<AW) (O:F b.AN+F (Af b.AM)*wv<=T) {r:Ϥ} (h:Dn A7 LA u b=Y r):∀d∈r,aA M (om U) S d:=by
 have hs:((F b.AN:Nat):Int)<AW:=AA;have z:=KR _ hb.wb;have m:wB (Gm (F b.AN) b.AM)=true:=by rw[KB]; exact JH _ _ hb.wb
 have x:∀i:Nat,i<F b.AN->oI (·==(i:Int)) (Gm (F b.AN) b.AM)=true:=λi e=>by
  rw[KB];refine Vc ?_ z (hb.inv i e);rfl
 have⟨E,δ,ε⟩:=AAI n hs;have⟨I,ζ⟩:=AAJ E hs;intro d s;unfold Dn at h;cases t:oI (·==(F b.AN:Int)) (Gm (F b.AN) b.AM) with
 | true=>
  rw[t] at h;cases h;rw[DW.1 s];refine⟨m,λi e=>?_,?_⟩
  .simp only[B6,CP,CQ] at e
   by_cases h:i<F b.AN
   all_goals grind
  .show wz M (om U) (Gm (F b.AN) b.AM)<=S
   rw[KB,LJ _ _ _ _ hb.wb];exact BC (MZ M (λi=>ADy U p _ i) _) hb.Gw
 | false=>
  rw[t] at h;simp only[AL] at h
  have K:aA M (qt U w) S ⟨b.AN,Ht (F b.AN) AW (Gm (F b.AN) b.AM)⟩:=by
   refine⟨?_,λi e=>?_,?_⟩
   .show wB (Ht _ _ _)=Z
    simp[*,JF,JH]
   .show oI _ (Ht _ _ _)=Z
    rw[JF];refine Vc ?_ (KR _ m) (x i e)
    grind
   .show wz M (qt U w) (Ht _ _ _)<=S
    rw[JF,LJ _ _ _ _ m,KB,LJ _ _ _ _ hb.wb];refine BC (Vb M _ λi e=>?_) hb.Gw
    have Q:i≠AW:=λη=>by
     have:=Kc.1 n.nh
     grind
    have X:=Zm.1 (QL _ n.ok i e);have α:i<F b.AN:=AA;have β:=ADy U p (F b.AN) i
    by_cases θ:i=-1
    .simp[*,qt,om]
    grind[qt]
  have A:∀d,aA M (qt U w) S d->aA M (om U) S d:=λd h=>⟨h.wb,h.inv,BC (MZ M (λi=>by grind[qt,om]) _) h.Gw⟩
  cases hk:El (Ht (F b.AN) AW (Gm (F b.AN) b.AM)) with
  | none=>
   grind
  | some k=>
   rw[hk] at h;cases o:LA with
   | none=>grind
   | some l=>
    rw[o] at h;simp only at h;have γ:F (Af (Ht (F b.AN) AW (Gm (F b.AN) b.AM)))=F (Af b.AM):=by simp[*,JF,Dp,KB]
    have y:(Af (Ht (F b.AN) AW (Gm (F b.AN) b.AM))).count AW<=F (Af b.AM):=AB;refine A _ (nV (T:=T) (λc N=>C l o c N) D _ ⟨b.AN,Ht (F b.AN) AW (Gm (F b.AN) b.AM)⟩ r K I ?_ h d s);have ι:(Af (Ht (F b.AN) AW (Gm (F b.AN) b.AM))).count AW*wv<=F (Af b.AM)*wv:=Be _ y
    grind
end
def aA.le {M:Ms} {ω:Int->Nat} {S V:Nat} {b:Br} (h:aA M ω S b) (d:S<=V):aA M ω V b:=⟨h.wb,h.inv,BC h.Gw d⟩
def AAp (M:Ms) (U:Ϟ) (b:Br) (m:Nat) (Ss:Ϟ):Prop:=∃d,b.AM=.mk 3 [] 0 d/\F d=m/\Kz d=Z/\CD (·<=·) (WZ M (om U) d) Ss/\∀i:Nat,i<F b.AN->oI (·==(i:Int)) b.AM=Z
section
variable {A7:Nat->Bool} {M:Ms}
def AIF {U:Ϟ} {b c:Br} {m w:Nat} {Ss:Ϟ} (hb:AAp M U b m Ss) (d:aA M (om U) w c) (hs:((F b.AN+F c.AN:Nat):Int)<AW):AAp M U ⟨b.AN++c.AN,match b.AM with
  | .mk _ _ _ args=>.mk 3 [] 0 (args++[HE (F b.AN) c.AM])⟩ (m+1) (Ss++[w]):=by
 obtain⟨args,e,p,r,l,s⟩:=hb;rw[e];have n:wB (HE (F b.AN) c.AM)=true:=by rw[MT]; exact JH _ _ d.wb
 refine⟨args++[HE (F b.AN) c.AM],rfl,AB,?_,?_,λi h=>?_⟩
 .grind[nQ,Kz]
 .rw[nM]
  refine CD.append l ⟨?_,Ay⟩;rw[MT,LJ _ _ _ _ d.wb];refine BC (MZ M (λi=>?_) _) d.Gw
  grind[om]
 .have h:i<F b.AN+F c.AN:=by grind
  show oI _ (.mk 3 [] 0 (args++[HE (F b.AN) c.AM]))=Z
  rw[oI];simp only[show((3:Int)==2)=ϴ from rfl,AL,CS,Cm,nT,KV,Bool.or_false,D5]
  by_cases o:i<F b.AN
  .grind[oI]
  .refine .inr ?_
   rw[MT];refine Vc (i:=((i-F b.AN:Nat):Int)) ?_ (KR _ d.wb) (d.inv _ AA)
   grind
def xL {T:Nat} (u:(T:Int)<AW) {U:Ϟ}:∀{ls:List Ϥ} {e vs Ss:Ϟ} {out r:Ϥ} {N m:Nat},(CD (λl w=>∀c∈l,aA M (om U) w c) ls e)->(CD (λl w=>∀c∈l,F c.AN<=w) ls vs) ->
  (∀b∈out,AAp M U b m Ss/\F b.AN<=N)->N+vs.sum<=T->H7 A7 ls out=Y r->∀d∈r,AAp M U d (m+F ls) (Ss++e)
 | [],[],[],Ss,out,r,N,m,_,_,n,_,h,d,o=>by grind[H7]
 | [],_::_,_,_,_,_,_,_,h,_,_,_,_,_,_=>h.elim
 | [],[],_::_,_,_,_,_,_,_,h,_,_,_,_,_=>h.elim
 | _::_,[],_,_,_,_,_,_,h,_,_,_,_,_,_=>h.elim
 | _::_,_::_,[],_,_,_,_,_,_,h,_,_,_,_,_=>h.elim
 | l::ls,w::e,v::vs,Ss,out,r,N,m,⟨x,s⟩,⟨y,t⟩,n,z,h,d,o=>by
  rw[H7] at h;rw[Ke] at z;cases hb:A7 (F (GU out l)) with
  | true=>grind
  | false=>
   rw[hb] at h;have:=xL u (N:=N+v) (m:=m+1) (Ss:=Ss++[w]) s t (λb hb=>?_) AA h d o
   .grind
   .have⟨a,A,hb⟩:=Nn.1 hb
    obtain⟨c,p,rfl⟩:=Cw.1 hb;have⟨C,D⟩:=n a A;have E:=y c p;refine⟨AIF C (x c p) AA,?_⟩
    grind
def xM:∀(f:Nat) (t:Ty) (l:Ϥ) (U:Ϟ),(∀x∈U,1<=x)->A2 t=Z->CG (bw t)->DR A7 f t=Y l->∀b∈l,aA M (om U) (sz M t U) b:=by
 intro f
 induction f with
 | zero=>
  grind[DR]
 | succ f D=>
  intro t l U K p hs h d u;obtain⟨k,n,i,ts⟩:=t;have φ:=p;simp only[A2,AK] at p;rw[DR] at h;have α:∀(hk:(k==6)=ϴ) (χ:(k==3||k==4)=Z),∀κ∈ts,CG (bw κ):=by grind[DE,bw,Fp,EM]
  rcases JN p.1 with ⟨rfl,rfl,rfl,rfl⟩|⟨rfl,rfl,rfl,rfl⟩|rfl|⟨rfl,rfl,rfl⟩|⟨rfl,rfl,rfl,ω⟩|⟨rfl,rfl,rfl,Θ⟩|⟨rfl,rfl,rfl,b,o,rfl,ζ⟩
  .cases h
   rw[DW.1 u];exact⟨rfl,λi O=>by grind,AU _⟩
  .grind
  .cases h
   rw[DW.1 u];have⟨Λ,Ξ⟩:=ADv p.1;have η:wB (.mk 2 n i ts)=true:=by grind[wB,Rc]
   refine⟨?_,λi O=>by grind,?_⟩
   .simp_all[ML,JH]
   .show wz M (om U) (o8 _)<=_
    rw[ML,LJ _ _ _ _ η];exact AU _
  .simp only[show((3:Int)==0)=ϴ from rfl,show((3:Int)==2||(3:Int)==5)=ϴ from rfl,AL,CS,AQ] at h
   cases z:FH (ts.map (DR A7 f)) with
   | none=>grind
   | some y=>
    rw[z] at h;simp only at h;have A:=I0 z;cases μ:y.any List.isEmpty with
    | true=>
     grind
    | false=>
     rw[μ] at h;have θ:=α rfl rfl;have q1:CD (λl w=>∀c∈l,aA M (om U) w c) y (ts.map λt=>sz M t U):=A.Hv λt l hm Q c r=>D t l U K (CB p.2 hm) (θ t hm) Q c r
     have ν:CD (λl w=>∀c∈l,F c.AN<=w) y (ts.map bw):=A.Hv λt l _ Q c r=>(Cq f t l Q c r).1
     have⟨τ,ξ,a2,Φ,ο,π⟩:=xL (T:=bw (.mk 3 [] 0 ts)) hs (N:=0) (m:=0) (Ss:=[]) q1 ν (λb hb=>by
      rw[DW.1 hb];exact⟨⟨[],rfl,rfl,rfl,Ay,λi O=>by grind⟩,AD⟩) (by grind[bw,Fp]) h d u
     have υ:F y=F ts:=A.tP.symm;have σ:=p.1;have h6:F ts<=6:=by grind[root,shape]
     refine⟨?_,π,?_⟩
     .grind[wB]
     .rw[ξ,wz,sz,Qc]
      exact M.mono _ _ ο
  .simp only[show((4:Int)==0)=ϴ from rfl,show((4:Int)==2||(4:Int)==5)=ϴ from rfl,show((4:Int)==3)=ϴ from rfl,AL,CS,AQ] at h
   cases z:FH (ts.map (DR A7 f)) with
   | none=>grind
   | some y=>
    rw[z] at h;simp only at h;have A:=I0 z;cases hb:A7 (F y.flatten) with
    | true=>grind
    | false=>
     rw[hb] at h;cases h;have⟨ε,C,S⟩:=Sx.1 u;have⟨t,E,ρ⟩:=A.Lb ε C;refine(D t ε U K (CB p.2 E) (α rfl rfl t E) ρ d S).le ?_;simp[*,sz,Qc,ADx,EH]
  .cases h
   rw[DW.1 u];refine⟨rfl,λi O=>by grind,?_⟩
   show om U (-1-i)<=U.getD i.toNat 1
   grind[om]
  .simp only[show((6:Int)==0)=ϴ from rfl,show((6:Int)==2||(6:Int)==5)=ϴ from rfl,show((6:Int)==3)=ϴ from rfl,show((6:Int)==4)=ϴ from rfl,AL,CS,AQ,ah] at h
   simp only[BO,AK] at p;obtain⟨_,I,β,_⟩:=p;have Γ:bw (.mk 6 [] 0 [b,o])=bw o+1+(cv o+1)*bw b:=rfl;have γ:CG (bw b):=DE hs AB;have δ:CG (bw o):=DE hs AA;cases hb:DR A7 f o with
   | none=>grind
   | some W=>
    rw[hb] at h;simp only at h;rcases Iz h d u with Ψ|⟨a,C,s,S,E⟩
    .grind
    .have⟨Ω,ς⟩:=Cq f o W hb a C
     have e:sz M (.mk 6 [] 0 [b,o]) U=sz M o (max 1 (sz M b [])::U):=rfl;rw[e];have ι:1<=max 1 (sz M b []):=Nat.le_max_left _ _
     have Δ:sz M b U=sz M b []:=by
      have:=Z8 M b [] U [] I ζ
      grind
     refine xK (T:=bw (.mk 6 [] 0 [b,o])) (wv:=bw b) ι (D o W _ (λx hx=>by grind) β δ hb a C) (Ln f o W β δ hb a C) (λl X c r=>⟨(D b l U K I γ X c r).le AA,Ln f b l I γ X c r,(Cq f b l X c r).1⟩) hs ?_ S d E;have a0:F (Af a.AM)*bw b<=cv o*bw b:=Be _ ς
     grind
end
mutual
def APb (g:Int->Int):∀t:Ty,wP t=Z->AP (Bq (λi=>var (g i)) t)=AP t/\Al (Bq (λi=>var (g i)) t)=Al t
 | .mk k n i ts,h=>by
  rw[wP] at h;rw[Bq];cases d:k==5 with
  | true=>
   rw[d] at h;simp only[AQ,AK,Eu] at h;obtain⟨_,rfl⟩:=h;exact⟨rfl,rfl⟩
  | false=>
   rw[d] at h;cases e:k==2 with
   | true=>
    rw[e] at h;simp only[AL,AQ,AK] at h;have:=Vd g ts h.2
    grind[AP,Al]
   | false=>
    rw[e] at h;simp only[AL] at h;have:=Hu _ (λi=>var (g i)) h
    grind[Bq]
def Vd (g:Int->Int):∀l:Ϣ,Qb l=Z->Ak (B4 (λi=>var (g i)) l)=Ak l/\Cp (B4 (λi=>var (g i)) l)=Cp l
 | [],_=>⟨rfl,rfl⟩
 | t::l,h=>by
  simp only[Qb,AK] at h;have d:=APb g t h.1;have e:=Vd g l h.2
  grind[B4,Ak,Cp]
end
def aB:∀{l m:Ϟ},CD (·<=·) l m->mx l<=mx m
 | [],[],_=>AU _
 | a::l,b::m,h=>by
  have d:=h.1;have e:=aB h.2
  grind[mx]
def xN:Ms where
 c l:=1+l.sum
 nm:=AP
 mono l m h:=by simp[*,UW]
 map g n i ts h:=by simp[*,AP,Vd]
def xQ:Ms where
 c l:=mx l+1
 nm:=Al
 mono l m h:=by simp[*,aB]
 map g n i ts h:=by simp[*,Al,Vd]
def xS (g:Int->Int):∀l:Ϣ,Qb l=Z->(B4 (λi=>var (g i)) l).all q1=l.all q1
 | [],_=>rfl
 | .mk k n i ts::l,h=>by
  simp only[Qb,AK] at h;rw[B4,FX,FX,xS g l h.2];congr 1;have d:=h.1;rw[wP] at d;cases e:k==5 with
  | true=>
   grind[Zw,Bq]
  | false=>
   cases m:k==2 with
   | true=>
    have:k=2:=AB;subst this;rfl
   | false=>
    grind[Hu]
def Mqa:Ms where
 c:=mx
 nm t:=bif qA t then 1 else 2
 mono l m h:=aB h
 map g n i ts h:=by simp[*,qA,xS]
theorem aC (i:Int):om [] i=1:=by simp[*,om]
mutual
def aD:∀t:Ty,wB t=Z->AP t<=wz xN (om []) t/\Al t<=wz xQ (om []) t
 | .mk k n i ts,h=>by
  rw[wB] at h;rw[wz,wz];cases d:k==5 with
  | true=>
   rw[d] at h;simp only[AQ,AK,Eu] at h;obtain⟨_,rfl⟩:=h;simp only[AQ,aC];exact⟨AU _,AU _⟩
  | false=>
   rw[d] at h;cases e:k==3 with
   | true=>
    have l:(k==0)=false:=AB;have m:(k==2)=false:=AB;rw[l,m,e] at h;simp only[AL,Cm,AK] at h;have:=eR ts h.2.2.2
    grind[AP,xN,Al,xQ]
   | false=>exact⟨AU _,AU _⟩
def eR:∀l:Ϣ,Kz l=Z->Ak l<=(WZ xN (om []) l).sum/\Cp l<=mx (WZ xQ (om []) l)
 | [],_=>⟨AU _,AU _⟩
 | t::l,h=>by
  simp only[Kz,AK] at h;have d:=aD t h.1;have e:=eR l h.2
  grind[WZ,Ak,Cp,mx]
end
section
variable {L:Ϛ} {g:Int->Int} (hinj:∀i∈L,∀j∈L,g i=g j->i=j)
include hinj
mutual
theorem eS:∀(b:Ty) (l:Ϛ),BQ b l<+:L->BQ (Bq (λi=>var (g i)) b) (l.map g)=(BQ b l).map g
 | .mk k n i ts,l,d=>by
  rw[Bq];cases m:k==5 with
  | true=>
   have o:i∈L:=d.subset (I2 _ l i (by simp[vis,m]));have p:l<+:L:=(UM _ l).trans d;rw[BQ,m];have e:(l.map g).contains (g i)=l.contains i:=AB
   grind[BQ]
  | false=>
   cases h:(k==2||k==3) with
   | true=>
    rw[BQ,m,h] at d;rw[BQ,m,h];simp only[AL,AQ] at d ⊢;rw[BQ,m,h];exact YE ts l d
   | false=>
    grind[BQ]
theorem YE:∀(ts:Ϣ) (l:Ϛ),FK ts l<+:L->FK (B4 (λi=>var (g i)) ts) (l.map g)=(FK ts l).map g
 | [],l,_=>rfl
 | t::ts,l,d=>by
  have _h:=hinj;rw[B4,FK,FK];rw[FK] at d;rw[eS t l ((Jq ts _).trans d),YE ts (BQ t l) d]
end
end
structure Cn (b:Br):Prop where
 wb:wB b.AM=Z
 top:ib ϴ b.AM=Z
 vis:∀i∈vis b.AM,0<=i/\i<(F b.AN:Int)
 occ:BQ b.AM []=(List.range (F b.AN)).map λ(i:Nat)=>(i:Int)
 inv:∀v:Nat,v<F b.AN->oI (·==(v:Int)) b.AM=Z
structure Can (t:Ty) (b:Br):Prop extends Cn b where
 Dz:∀c∈b.AN,WT t c
 Gw:AP b.AM<=sz xN t []
 dep:Al b.AM<=sz xQ t []
 arg:wz Mqa (om []) b.AM<=sz Mqa t []
mutual
def ADz:∀t:Ty,wB t=Z->ib Z t=Z
 | .mk k n i ts,h=>by
  rw[wB] at h;rw[ib];cases d:k==5 with
  | true=>simp
  | false=>
   rw[d] at h;cases e:k==0 with
   | true=>rfl
   | false=>
    rw[e] at h;cases l:k==2 with
    | true=>rfl
    | false=>
     rw[l] at h;simp only[AL,AK] at h;simp only[Fy,AL,h.1,xT ts h.2.2.2.2,F0]
def xT:∀l:Ϣ,Kz l=Z->ibL l=Z
 | [],_=>rfl
 | t::l,h=>by
  simp only[Kz,AK] at h;rw[ibL,ADz t h.1,xT l h.2];rfl
end
theorem AIH {t:Ty} (p:A2 t=Z) (T:CJ 0 t=Z) (hs:CG (bw t)) {l:Ϥ} (m:DR (Aa 32) (Al t) t=Y l):∀b∈l,Can t (CE b):=by
 intro b hb;have⟨ps,B,κ,hm,U,hB,γ⟩:=mm p T hs m;have d:=xM (A7:=Aa 32) (M:=xN) (Al t) t l [] (λx hx=>by grind) p hs m b hb;have W:=xM (A7:=Aa 32) (M:=xQ) (Al t) t l [] (λx hx=>by grind) p hs m b hb;have X:=xM (A7:=Aa 32) (M:=Mqa) (Al t) t l [] (λx hx=>by grind) p hs m b hb;have μ:=Ln (A7:=Aa 32) (Al t) t l p hs m b hb;have δ:=(Cq (A7:=Aa 32) (Al t) t l m b hb).1;have O:(BQ b.AM []).Nodup:=GX b.AM [] EI;have r:=U b hb;have z:∀i∈vis b.AM,i∈BQ b.AM []:=λi o=>I2 b.AM [] i o
 have A:=KR _ d.wb;have α:F (BQ b.AM [])<=F b.AN:=dZ _ _ O r;have K:=UN A (λi o=>⟨(r i (z i o)).1,Int.lt_of_lt_of_le (r i (z i o)).2 (by grind[CG])⟩) (DE hs AA);have e:(CE b).AM=Bq (λi=>var (pos (BQ b.AM []) i)) b.AM:=K;have u:F (CE b).AN=F (BQ b.AM []):=by simp[CE]
 have hinj:∀i∈BQ b.AM [],∀j∈BQ b.AM [],((pos (BQ b.AM []) i:Nat):Int)=((pos (BQ b.AM []) j:Nat):Int)->i=j:=by grind[List.getElem?_of_mem,Ku]
 have ε:=aD _ d.wb;have s:wB (CE b).AM=true:=by rw[e]; exact JH _ _ d.wb
 have C:AP (CE b).AM<=wz xN (om []) b.AM/\Al (CE b).AM<=wz xQ (om []) b.AM:=by
  have y:=aD _ s;rw[e,LJ _ _ _ _ d.wb,LJ _ _ _ _ d.wb] at y;rw[e];exact⟨BC y.1 (MZ _ (λi=>by grind[aC]) _),BC y.2 (MZ _ (λi=>by grind[aC]) _)⟩
 have N:∀v:Nat,v<F (CE b).AN->oI (·==(v:Int)) (CE b).AM=true:=by
  intro v D;rw[u] at D;have⟨i,o⟩:∃i,(BQ b.AM [])[v]?=Y i:=⟨_,Az D⟩;have⟨I,ν⟩:=r i (A8 o);rw[e];refine Vc (g:=λi=>((pos (BQ b.AM []) i:Nat):Int)) (i:=i) (by grind[Ku]) A ?_;have:=d.inv i.toNat AA
  grind
 refine⟨⟨s,?_,?_,?_,N⟩,?_,BC C.1 d.Gw,BC C.2 W.Gw,?_⟩
 .rcases hk:(CE b).AM with ⟨k,n,i,ts⟩
  rw[hk] at s;have Q:=ADz _ s;rw[ib] at Q ⊢;cases ξ:k==5 with
  | false=>grind
  | true=>
   exfalso;have ζ:k=5:=AB;have η:vis (CE b).AM=[i]:=by grind[vis]
   have β:0<F (CE b).AN:=by
    rw[u];rcases S:b.AM with ⟨k0,n0,I,θ⟩
    rw[e,S,Bq] at hk;cases ι:k0==5 with
    | true=>
     have:I∈vis b.AM:=by grind[vis]
     grind
    | false=>
     grind
   grind[oI]
 .simp_all[Jg,Yj,pos]
 .rw[e,u]
  have:=eS (L:=BQ b.AM []) (g:=λi=>((pos (BQ b.AM []) i:Nat):Int)) hinj b.AM [] (C5 _);rw[DC] at this;rw[this];refine Fw λj=>?_
  grind[Ku]
 .intro c E
  have E:c∈(BQ b.AM []).map λi=>b.AN.getD i.toNat XL:=E
  grind
 .rw[e,LJ _ _ _ _ d.wb]
  exact BC (MZ _ (λi=>by grind[aC]) _) X.Gw
structure MsB (M:Ms) (f:Nat->Nat) (a a2:Nat):Prop where
 tup:∀l m,F l<=3->(∀x∈l,x<=m)->M.c l<=f m
 up:∀m,m<=f m
 n1:∀t,AP t<=3->Al t<=2->M.nm t<=a
 n2:∀t,AP t<=7->Al t<=3->M.nm t<=a2
 h2:a2<=f (f a)
 pos:1<=a
def aE {m:Nat}:∀{l:Ϟ},(∀x∈l,x<=m)->mx l<=m
 | [],_=>AO _
 | a::l,h=>by
  have d:=h a AD;have e:=aE (l:=l) λx hx=>h x AB
  grind[mx]
section
variable {M:Ms} {f:Nat->Nat} {a a2:Nat} (H:MsB M f a a2)
include H
theorem eT {ts:Ϣ} {U:Ϟ} {m:Nat} (d:F ts<=3) (h:∀t∈ts,sz M t U<=m):M.c (szl M ts U)<=f m/\mx (szl M ts U)<=m:=by
 have hm:∀x∈szl M ts U,x<=m:=by grind[Qc]
 exact⟨H.tup _ _ (by grind[Qc]) hm,aE hm⟩
theorem Ma {d m v:Nat} {U:Ϟ} {t:Ty} (h:gq d t=Z) (e:A2 t=Z)
  (s:∀i:Int,t=.mk 5 [] i []->U.getD i.toNat 1<=v) (u:∀n i ts,t=.mk 2 n i ts->nz d t=Z->M.nm t<=v) (o:a<=v)
  (l:∀ts,(t=.mk 3 [] 0 ts\/t=.mk 4 [] 0 ts)->0<d->RX (d-1) ts=Z->(∀t∈ts,sz M t U<=m)) (hm:0<d->f m<=v)
  (x:∀b body,t=.mk 6 [] 0 [b,body]->0<d->gq 1 b=Z->gq (d-1) body=Z->A2 b=Z->A2 body=Z->CJ 0 b=Z->sz M body (max 1 (sz M b [])::U)<=v):sz M t U<=v:=by
 obtain⟨k,n,i,ts⟩:=t;have z:=e;simp only[A2,AK] at e;rw[gq] at h;rcases JN e.1 with ⟨rfl,rfl,rfl,rfl⟩|⟨rfl,rfl,rfl,rfl⟩|rfl|⟨rfl,rfl,rfl⟩|⟨rfl,rfl,rfl,A⟩|⟨rfl,rfl,rfl,C⟩|⟨rfl,rfl,rfl,b,body,rfl,y⟩
 .exact BC (H.n1 _ (by simp[AP,Ak]) (by simp[Al,Cp])) o
 .exact BC (H.n1 _ (by simp[AP,Ak]) (by simp[Al,Cp])) o
 .exact u n i ts rfl h
 .simp only[CS,D6,AQ,AK,Cu] at h
  have⟨p,r⟩:=eT H h.2.1 (l ts (.inl rfl) h.1 h.2.2);exact BC p (hm h.1)
 .simp only[CS,Dx,AQ,AK,Cu] at h
  have⟨p,r⟩:=eT H h.2.1 (l ts (.inr rfl) h.1 h.2.2);exact BC r (BC (H.up m) (hm h.1))
 .exact s i rfl
 .simp only[show((6:Int)==3||(6:Int)==4)=ϴ from rfl,AL,CS,AQ,AK,Cu,gqX,RX] at h
  simp only[BO,AK] at e;exact x b body rfl h.1 h.2.1 h.2.2.1 e.2.1 e.2.2.1 y
theorem aF {U:Ϟ} {v:Nat} (d:∀x∈U,x<=v) (l:1<=v) (i:Nat):U.getD i 1<=v:=by
 rw[Sy];cases e:U[i]? with
 | none=>grind
 | some x=>exact d x (A8 e)
theorem aH {d v:Nat} {t:Ty} (e:d<=1) (l:a<=v) (h:nz d t=Z):M.nm t<=v:=by
 unfold nz nzS at h;rw[Ax e] at h;simp only[AQ,AK,Cu] at h
 replace h:=h.1
 exact BC (H.n1 t h.1 h.2) l
omit H in
theorem eU {t:Ty} {ts:Ϣ} (e:t=.mk 3 [] 0 ts\/t=.mk 4 [] 0 ts) (l:A2 t=Z):(∀u∈ts,A2 u=Z)/\(CJ 0 t=Z->∀u∈ts,CJ 0 u=Z):=by
 rcases e with rfl|rfl
 .simp only[A2,AK] at l
  exact⟨λu d=>CB l.2 d,λm u d=>FJ AH (Dq m AH) d⟩
 .simp only[A2,AK] at l
  exact⟨λu d=>CB l.2 d,λm u d=>FJ AH (Dq m AH) d⟩
omit H in
theorem aI {v:Nat} {t:Ty} (d:A2 t=Z) (l:CJ 0 t=Z) (i:Int) (e:t=.mk 5 [] i []):([]:Ϟ).getD i.toNat 1<=v:=by
 subst e;have:=Iy l;have:=(EL d).2.2;omega
theorem AII {t:Ty} (h:gq 0 t=Z) (l:A2 t=Z) (o:CJ 0 t=Z):sz M t []<=a:=
 Ma H (m:=0) h l (aI l o) (λn i ts e hn=>aH H AA (AU _) hn) (AU _) (λts e d=>absurd d AA) (λd=>absurd d AA) λb p e d=>absurd d AA
theorem jz {W:Nat} (l:a<=W) {t:Ty} {U:Ϟ} (o:∀x∈U,x<=W) (h:gq 0 t=Z) (p:A2 t=Z):sz M t U<=W:=by
 have:=H.pos;exact Ma H (m:=0) h p (λi _=>aF H o AA _) (λn i ts e hn=>aH H AA l hn) l (λts e d=>absurd d AA) (λd=>absurd d AA) λb r e d=>absurd d AA
theorem Ve:∀(m:Nat) (t:Ty),Al t<=m->gq 1 t=Z->A2 t=Z->CJ 0 t=Z->sz M t []<=f a:=by
 intro m
 induction m with
 | zero=>
  intro t p;obtain⟨k,n,i,ts⟩:=t
  grind[Al]
 | succ m D=>
  intro t p h d r;have l:=H.up a;have N:=H.pos;refine Ma H (m:=a) h d (aI d r) (λn i ts e hn=>aH H AA l hn) l (λts e _ E u o=>?_) (λ_=>AU _) λb K e _ s y z A C=>?_
  .have⟨q1,I⟩:=eU e d
   exact AII H (Kw E o) (q1 u o) (I r u o)
  .subst e
   simp only[Al,Cp] at p;have O:=D b AA s z C;exact jz H l (λx hx=>by grind) y A
theorem j0 {t:Ty} {U:Ϟ} (d:∀x∈U,x<=f a) (h:gq 1 t=Z) (l:A2 t=Z):sz M t U<=f (f a):=by
 have o:=H.up a;have p:=H.up (f a);have I:=H.pos;refine Ma H (m:=f a) h l (λi _=>BC (aF H d AA _) p) (λn i ts e hn=>aH H AA AA hn) AA (λts e _ D u r=>?_) (λ_=>AU _) λb E e _ s y z A C=>?_
 .exact jz H o d (Kw D r) ((eU e l).1 u r)
 .have K:=Ve H (Al b) b (AU _) s z C
  exact BC (jz H o (λx hx=>by grind) y A) p
omit H in
theorem nz2 {t:Ty} (h:nz 2 t=Z):AP t<=7/\Al t<=3:=by grind[nz,nzS]
theorem AIJ {t:Ty} {U:Ϟ} (d:∀x∈U,x<=f a) (h:gq 2 t=Z) (l:A2 t=Z):sz M t U<=f (f (f a)):=by
 have D:=H.up a;have E:=H.up (f a);have I:=H.pos;have K:=H.up (f (f a));have N:=H.h2;refine Ma H (m:=f (f a)) h l (λi _=>BC (aF H d AA _) AA) (λn i ts e hn=>BC (H.n2 t (nz2 hn).1 (nz2 hn).2) AA) AA (λts e _ y u o=>?_) (λ_=>AU _) λb z e _ p A r C s=>?_
 .exact j0 H d (Kw y o) ((eU e l).1 u o)
 .have h6:=Ve H (Al b) b (AU _) p r s
  grind[j0]
theorem AIK {t:Ty} (h:gq 2 t=Z) (d:A2 t=Z) (o:CJ 0 t=Z):sz M t []<=f (f a):=by
 have D:=H.up a;have E:=H.up (f a);have I:=H.pos;refine Ma H (m:=f a) h d (aI d o) (λn i ts e hn=>BC (H.n2 t (nz2 hn).1 (nz2 hn).2) H.h2) AA (λts e _ x u l=>?_) (λ_=>AU _) λb z e _ p A r C s=>?_
 .have⟨q1,y⟩:=eU e d
  exact Ve H (Al u) u (AU _) (Kw x l) (q1 u l) (y o u l)
 .have h6:=Ve H (Al b) b (AU _) p r s
  grind[j0]
theorem xU {t:Ty} (h:gq 3 t=Z) (d:A2 t=Z) (r:CJ 0 t=Z):sz M t []<=max (f (f (f a))) (M.nm t):=by
 have z:=H.up a;have A:=H.up (f a);have C:=H.pos;have D:=H.up (f (f a));refine Ma H (m:=f (f a)) h d (aI d r) (λn i ts e hn=>Nat.le_max_right _ _) AA (λts e _ E u I=>?_) (λ_=>Nat.le_max_left _ _) λb s e _ l x o y p=>?_
 .grind[eU,AIK,Kw]
 .have h6:=Ve H (Al b) b (AU _) l o p
  grind[AIJ]
end
def nW {m:Nat}:∀{l:Ϟ},(∀x∈l,x<=m)->l.sum<=F l*m
 | [],_=>by simp
 | a::l,h=>by
  have d:=h a AD;have e:=nW (l:=l) λx hx=>h x AB
  grind[Nat.add_mul]
def APc:MsB xN (λm=>1+3*m) 3 7 where
 tup l m hl h:=by
  have h1:=nW h;have h2:F l*m<=3*m:=Be _ hl
  show 1+l.sum<=_
  omega
 up m:=AA
 n1 t h _:=h
 n2 t h _:=h
 h2:=AH
 pos:=AH
def AD0:MsB xQ (λm=>m+1) 2 3 where
 tup l m _ h:=by
  have:=aE h
  show mx l+1<=_
  omega
 up m:=AA
 n1 t _ h:=h
 n2 t _ h:=h
 h2:=AH
 pos:=AH
mutual
def nX:∀(t:Ty) (d:Nat) (U:Ϟ),d<=3->(∀x∈U,x<=1)->gq d t=Z->sz Mqa t U<=1
 | .mk k n i ts,d,U,o,e,h=>by
  rw[gq] at h;rw[sz];cases r:k==5 with
  | true=>exact aF AD0 e (AU _) _
  | false=>
   cases l:k==3||k==4 with
   | true=>
    rw[l] at h;simp only[AQ,AK] at h;have:=aE (xV ts (d-1) U AA e h.2.2);cases m:k==3 with
    | true=>exact this
    | false=>
     grind
   | false=>
    have m:(k==3)=false:=AB;have p:(k==4)=false:=AB;rw[l] at h;rw[m,p];cases h6:k==6 with
    | true=>
     rw[h6] at h;simp only[AQ,AL,AK] at h;exact AIL ts d U o e h.2
    | false=>
     grind[qA,nz,Mqa]
def xV:∀(l:Ϣ) (d:Nat) (U:Ϟ),d<=3->(∀x∈U,x<=1)->RX d l=Z->∀x∈szl Mqa l U,x<=1
 | [],_,_,_,_,_,x,hx=>by cases hx
 | t::l,d,U,e,m,h,x,hx=>by
  simp only[RX,AK] at h;rw[szl] at hx;rcases BF.1 hx with rfl|hx
  .exact nX t d U e m h.1
  .exact xV l d U e m h.2 x hx
def AIL:∀(l:Ϣ) (d:Nat) (U:Ϟ),d<=3->(∀x∈U,x<=1)->gqX d l=Z->szx Mqa l U<=1
 | [],_,_,_,_,_=>AO _
 | b::l,d,U,e,m,h=>by
  simp only[gqX,AK] at h;have n:=nX b 1 [] AH (λx hx=>by grind) h.1;rw[szx];exact AIM l (d-1) _ AA (λx hx=>by grind) h.2
def AIM:∀(l:Ϣ) (d:Nat) (U:Ϟ),d<=3->(∀x∈U,x<=1)->RX d l=Z->szh Mqa l U<=1
 | [],_,_,_,_,_=>AO _
 | t::_,d,U,e,m,h=>by
  simp only[RX,AK] at h;exact nX t d U e m h.1
end
def pg {t:Ty} (h:gq 3 t=Z) (l:DJ t=0) (d:CJ 0 t=Z):sz xN t []<=200/\sz xQ t []<=12:=by
 have⟨e,m,n⟩:=E6 l;have o:=xU APc h e d;have p:=xU AD0 h e d;have r:xN.nm t=AP t:=rfl;have s:xQ.nm t=Al t:=rfl;omega
mutual
theorem xW:∀t:Ty,wP t=Z->(∀i∈vis t,0<=i/\i<=200)->A2 t=Z/\plain t=Z
 | .mk k n i ts,h,d=>by
  rw[wP] at h;rw[vis] at d;cases e:k==5 with
  | true=>
   grind[plain,A2,BO,root,shape]
  | false=>
   rw[e] at h d;cases l:k==2 with
   | true=>
    have:k=2:=AB;subst this;rw[l] at h d;simp only[AL,AQ,AK,D6] at h d;have⟨q1,m⟩:=Rf ts h.2 d
    grind[yy,plain,A2,root,shape]
   | false=>
    grind[P1,plain]
theorem Rf:∀l:Ϣ,Qb l=Z->(∀i∈DU l,0<=i/\i<=200)->BO l=Z/\Eo l=Z
 | [],_,_=>⟨rfl,rfl⟩
 | t::l,h,d=>by
  simp only[Qb,AK] at h;rw[DU] at d;have e:=xW t h.1 λi hm=>d i AB
  have m:=Rf l h.2 λi hm=>d i AB
  grind[BO,Eo]
end
mutual
def Nb:∀t:Ty,wB t=Z->(∀i∈vis t,0<=i/\i<=200)->A2 t=Z
 | .mk k n i ts,h,d=>by
  rw[wB] at h;rw[vis] at d;cases l:k==5 with
  | true=>
   grind[A2,BO,root,shape]
  | false=>
   rw[l] at h d;cases e:k==0 with
   | true=>
    have:k=0:=AB;subst this;simp only[e,AL,AQ,AK,Gf,Eu] at h;obtain⟨rfl,rfl,rfl⟩:=h;rfl
   | false=>
    rw[e] at h;cases m:k==2 with
    | true=>
     grind[Rf,yy,A2,root,shape]
    | false=>
     rw[m] at h d;simp only[AL,AK,Gf,Cu] at h;obtain⟨rfl,rfl,rfl,h6,o⟩:=h;have d:∀i∈DU ts,0<=i/\i<=200:=d;have q:=YF ts o d
     grind[A2,root,shape]
def YF:∀l:Ϣ,Kz l=Z->(∀i∈DU l,0<=i/\i<=200)->BO l=Z
 | [],_,_=>rfl
 | t::l,h,d=>by
  simp only[Kz,AK] at h;rw[DU] at d;rw[BO,Nb t h.1 λi hm=>d i AB,YF l h.2 λi hm=>d i AB];rfl
end
mutual
theorem APd (g:Int->Ty):∀t:Ty,wP t=Z->OB g Z t=Bq g t
 | .mk k n i ts,h=>by
  rw[wP] at h;rw[OB,Bq];cases e:k==5 with
  | true=>rfl
  | false=>
   rw[e] at h;cases d:k==2 with
   | true=>
    rw[d] at h;simp only[AL,AQ,AK] at h;simp only[AL,AQ,D6,j3 g ts h.2]
   | false=>
    rw[d] at h;simp only[AL] at h;have:=Hu _ g h
    grind[Bq]
theorem j3 (g:Int->Ty):∀l:Ϣ,Qb l=Z->Rb g Z l=B4 g l
 | [],_=>rfl
 | t::l,h=>by
  simp only[Qb,AK] at h;rw[Rb,B4,APd g t h.1,j3 g l h.2]
end
mutual
theorem nY (g:Int->Ty):∀t:Ty,wB t=Z->OB g ϴ t=Bq g t
 | .mk k n i ts,h=>by
  rw[wB] at h;rw[OB,Bq];cases d:k==5 with
  | true=>rfl
  | false=>
   rw[d] at h;cases e:k==2 with
   | true=>
    grind[j3]
   | false=>
    cases l:k==3 with
    | true=>
     have m:(k==0)=false:=AB;rw[m,e,l] at h;simp only[AL,Cm,AK] at h;simp only[AL,AQ,PW,F0,Dx,Kf,xX g ts h.2.2.2]
    | false=>rfl
theorem xX (g:Int->Ty):∀l:Ϣ,Kz l=Z->Rb g ϴ l=B4 g l
 | [],_=>rfl
 | t::l,h=>by
  simp only[Kz,AK] at h;rw[Rb,B4,nY g t h.1,xX g l h.2]
end
def it1 (n:Nat):Nat->Nat->Int->Int
 | 0,_,x=>x
 | f+1,j,x=>it1 n f (j+1) (bif x==(j:Int) then AW+n-j else x)
def it2:Nat->Nat->Int->Int
 | 0,_,x=>x
 | f+1,j,x=>it2 f (j+1) (bif x==AW+1+j then(j:Int) else x)
def aJ (n:Nat):∀(f j:Nat) (g:Int->Int) (t:Ty),yx n f j (Bq (λi=>var (g i)) t)=Bq (λi=>var (it1 n f j (g i))) t
 | 0,_,_,_=>rfl
 | f+1,j,g,t=>by rw[yx,P5,aJ n f (j+1) (λi=>bif g i==(j:Int) then AW+n-j else g i) t]; rfl
def TL:∀(f j:Nat) (g:Int->Int) (t:Ty),I1 f j (Bq (λi=>var (g i)) t)=Bq (λi=>var (it2 f j (g i))) t
 | 0,_,_,_=>rfl
 | f+1,j,g,t=>by rw[I1,P5,TL f (j+1) (λi=>bif g i==AW+1+j then(j:Int) else g i) t]; rfl
theorem nZ {n:Nat}:∀(f j:Nat) (x:Int),(∀q:Nat,j<=q->q<j+f->x≠q)->it1 n f j x=x
 | 0,_,_,_=>rfl
 | f+1,j,x,h=>by
  have:(x==(j:Int))=false:=AB;rw[it1,this];exact nZ f (j+1) x λq d e=>h q AA AA
def xY {n:Nat} (d:(n:Int)<AW):∀(f j i:Nat),j+f<=n->j<=i->i<j+f->it1 n f j i=AW+n-i
 | 0,j,i,_,e,l=>by omega
 | f+1,j,i,hn,e,l=>by
  rw[it1]
  by_cases h:i=j
  .grind[nZ]
  .have:((i:Int)==(j:Int))=false:=by grind
   rw[this];exact xY d f (j+1) i AA AA AA
theorem nj:∀(f j:Nat) (x:Int),x<=AW->it2 f j x=x
 | 0,_,_,_=>rfl
 | f+1,j,x,h=>by
  have:(x==AW+1+(j:Int))=false:=AB;rw[it2,this];exact nj f (j+1) x h
theorem j4:∀(f j i:Nat),(i:Int)<=AW->j<=i->i<j+f->it2 f j (AW+1+i)=i
 | 0,j,i,_,d,e=>by omega
 | f+1,j,i,hn,d,e=>by
  rw[it2]
  by_cases h:i=j
  .grind[nj]
  .have:(AW+1+(i:Int)==AW+1+(j:Int))=false:=by grind
   rw[this];exact j4 f (j+1) i hn AA AA
theorem nk {n:Nat} (hn:n<=6) {i:Int} (l:0<=i) (m:i<n):it2 n 0 (it1 n n 0 i)=(n:Int)-1-i:=by
 have o:(AW:Int)=1073741824:=rfl;have d:i=((i.toNat:Nat):Int):=AA;have e:=xY (n:=n) AA n 0 i.toNat AA (AO _) AA;rw[<-d] at e;have e3:=j4 n 0 (n-1-i.toNat) AA (AO _) AA
 grind
def btB (b:Br):Ty:=Bq (λi=>var ((F b.AN:Int)-1-i)) b.AM
section
variable {b:Br} (hb:Cn b) (h6:F b.AN<=6)
include hb h6
theorem Cn.P:VX b=Tt b.AN (btB b):=by
 rw[VX,nY _ _ hb.wb,btB];congr 1;refine Cc _ λi d=>?_
 have e:=hb.vis i d
 grind[gB]
theorem Cn.R:btR b=VX b:=by
 rw[hb.P h6,btR,btB];congr 1;have e:=NH b.AM (KR _ hb.wb)
 conv=>lhs; rw[<-e]
 rw[aJ _ _ _ (λi=>i),TL _ _ (λi=>it1 (F b.AN) (F b.AN) 0 i)];refine Cc _ λi d=>?_
 have⟨l,m⟩:=hb.vis i d
 grind[nk]
theorem Cn.val:A2 b.AM=true:=Nb _ hb.wb λi d=>by
 have:=hb.vis i d;omega
theorem Cn.pat:Gx (F b.AN) b.AM=tr (λi=>i.toNat) b.AM:=by
 rw[Gx,nY _ _ hb.wb];refine Cc _ λi d=>?_
 have e:=hb.vis i d
 grind[gQ]
theorem Cn.ocp (v:Nat) (d:v<F b.AN):DZ v Z (Gx (F b.AN) b.AM)=true:=by
 rw[hb.pat h6,ZS _ _ _ (KR _ hb.wb)];refine Z9 (λi e=>?_) _ (hb.inv v d)
 grind
theorem Cn.num:Lc (F b.AN) (Gx (F b.AN) b.AM) []=(b.AM,List.range (F b.AN)):=by
 have l:=hb.occ;have m:((List.range (F b.AN)).map λ(i:Nat)=>(i:Int)).Nodup:=by grind[GX]
 have hm:∀i∈(List.range (F b.AN)).map λ(i:Nat)=>(i:Int),∃j:Nat,j<F b.AN/\i=(j:Int):=AB
 have:=jH (N:=F b.AN) (U:=λi=>i.toNat) (L:=(List.range (F b.AN)).map λ(i:Nat)=>(i:Int)) m (λi d j n o=>by grind) (λi d=>by grind) b.AM [] (KR _ hb.wb) AB;rw[hb.pat h6];rw[DC] at this;rw[this,l];congr 1
 .have e:=NH b.AM (KR _ hb.wb)
  conv=>rhs; rw[<-e]
  refine Cc _ λi d=>?_
  have⟨p,r⟩:=hb.vis i d;have:((List.range (F b.AN)).map λ(i:Nat)=>(i:Int))[i.toNat]?=Y i:=AB
  grind[Ku]
 .rw[PR]
  have:((λi:Int=>i.toNat)∘λ(i:Nat)=>(i:Int))=id:=AX;rw[this,List.map_id]
theorem Cn.Gc:Gc b.AN (Gx (F b.AN) b.AM)=b:=by
 rw[Go.Proofs.YtpgfpakdnijngaaGreatDoor.Gc,hb.num h6];rcases b with ⟨e,d⟩
 congr 1;refine Fw λj=>?_
 grind
end
mutual
theorem AIO:∀t:Ty,wP t=Z->(∀i∈vis t,0<=i)->∀w,w∈RN 0 t<->w∈vis t
 | .mk k n i ts,h,d,w=>by
  have o:P1 (.mk k n i ts)=Z->(w∈RN 0 (.mk k n i ts)<->w∈vis (.mk k n i ts)):=λp=>by grind[UD,P1,QO]
  rw[wP] at h;cases e:k==5 with
  | true=>
   grind[vis,RN,LG]
  | false=>
   rw[e] at h;cases l:k==2 with
   | true=>
    rw[l] at h;simp only[AL,AQ,AK] at h;have m:(k==6)=false:=AB;rw[vis,e,l] at d;have:=aK ts k m 0 h.2 d w
    grind[RN,vis]
   | false=>
    grind
theorem aK:∀(l:Ϣ) (k:Int) (_:(k==6)=ϴ) (j:Nat),Qb l=Z->(∀i∈DU l,0<=i)->∀w,w∈LG 0 k j l<->w∈DU l
 | [],_,_,_,_,_,w=>by rfl
 | t::l,k,hk,j,h,d,w=>by
  simp only[Qb,AK] at h;rw[DU] at d;have e:0+Dz k j=0:=by simp[Dz,hk]
  have m:=AIO t h.1 (λi hm=>d i AB) w;have n:=aK l k hk (j+1) h.2 (λi hm=>d i AB) w
  grind[LG,DU]
end
mutual
def xZ:∀t:Ty,wB t=Z->(∀i∈vis t,0<=i)->∀w,w∈RN 0 t<->w∈vis t
 | .mk k n i ts,h,d,w=>by
  have r:=h;rw[wB] at h;cases e:k==5 with
  | true=>
   grind[vis,RN,LG]
  | false=>
   rw[e] at h;have o:(k==6)=false:=AB;cases l:k==2 with
   | true=>
    grind[vis,aK,RN]
   | false=>
    cases m:k==3 with
    | true=>
     have p:(k==0)=false:=AB;rw[p,l,m] at h;simp only[AL,Cm,AK] at h;rw[vis,e,l,m] at d;have:=nr ts k o 0 h.2.2.2 d w
     grind[RN,vis]
    | false=>
     grind[RN,vis,LG]
def nr:∀(l:Ϣ) (k:Int) (_:(k==6)=ϴ) (j:Nat),Kz l=Z->(∀i∈DU l,0<=i)->∀w,w∈LG 0 k j l<->w∈DU l
 | [],_,_,_,_,_,w=>by rfl
 | t::l,k,hk,j,h,d,w=>by
  simp only[Kz,AK] at h;rw[DU] at d;have e:0+Dz k j=0:=by simp[Dz,hk]
  have m:=xZ t h.1 (λi hm=>d i AB) w;have n:=nr l k hk (j+1) h.2 (λi hm=>d i AB) w
  grind[LG,DU]
end
def Can.AXK {t:Ty} {b:Br} (hb:Can t b) (h6:F b.AN<=6) (hs:sz xN t []<=200/\sz xQ t []<=12):DJ b.AM=0:=by
 have l:=hb.Gw;have m:=hb.dep;have d:decide (200<AP b.AM)=false:=AB;have e:decide (12<Al b.AM)=false:=AB;rw[DJ,d,e,hb.val h6];rfl
def Cn.VB {b:Br} (hb:Cn b) (h6:F b.AN<=6) (d:DJ b.AM=0) (m:Mp b=Z) {X:Ty->Ϥ×Int} (n:(b.AN.all λt=>C2 (X t))=Z):VB X b:=by
 refine⟨hb.top,d,m,λv o=>hb.ocp h6 v o,λl p hm=>?_,by rw[hb.num h6],n⟩
 have r:((List.range (F b.AN)).map λ(i:Nat)=>(i:Int)).Pairwise (·<·):=by
  rw[List.pairwise_map];exact List.pairwise_lt_range.imp λh=>by omega
 have e:=SN p r λw=>by
  rw[hm,xZ _ hb.wb (λi s=>(hb.vis i s).1),<-hb.occ];refine⟨λh=>I2 _ _ w h,λh=>?_⟩;rcases G3 _ _ w h with h|h
  all_goals grind
 grind
def Can.VB {t:Ty} {b:Br} (hb:Can t b) (h6:F b.AN<=6) (hs:sz xN t []<=200/\sz xQ t []<=12) (d:Mp b=Z) {X:Ty->Ϥ×Int} (e:(b.AN.all λt=>C2 (X t))=Z):VB X b:=hb.toCn.VB h6 (hb.AXK h6 hs) d e
attribute [local simp] Hr MD Ir JL EK E3 Ee wO setCells Hw EX Dd Co Ex alive Dh Jf Qk bU Gq Iu Gl Hs K9 Iv gX fY okB gY gZ gh gi gj ag gm gp gu gv gw gx gy gz hG hJ hO okF hY iA iB iC iD Tu iE Ow Ox Oy Oz iG iH iI iJ iK iL iM iP iQ iR GG iT fZ iU iV iW iX iY iZ ia ic ie ig C0
set_option linter.unusedSectionVars false
section
variable {b c:Br} (hb:Cn b) (h6:F b.AN<=6) {B:Ϣ} (hB:b.AN<+:B) {q:Ty} {ψ:Ϟ} (H:Rl ϴ 0 B (F b.AN) (F B) [] c q ψ) {k:Nat} (hk:k<F (Af b.AM)) (hs:F ψ<2 ^ 22)
include hb h6 hB H hk hs
theorem AAr:Rl ϴ 0 B 0 (F B) [] (CA b k c) (JM (λ_=>Z) q (Gx (F b.AN) b.AM) k) (List.range (F b.AN)++ψ):=by
 have s:(AW:Int)=1073741824:=rfl;have l:F (List.range (F b.AN))=F b.AN:=List.length_range;have⟨m,n,e3,_⟩:=ABk (φ:=List.range (F b.AN)) (σ:=[]) (v:=0) H AA;rw[l] at m n e3;have e:=KR _ hb.wb;have r:=hB.length_le;refine⟨?_,?_,?_,?_,?_,?_,?_,?_⟩
 .rw[Sw]
  refine⟨List.nodup_range,H.nd,λx hx y o=>?_⟩;have:=H.LM y o
  grind
 .intro x hx
  rcases CU.1 hx with hx|hx
  .grind
  .have:=H.LM x hx
   omega
 .simp[CA,H.len]
 .intro i x hx
  show B[x]?=(b.AN++c.AN)[i]?
  by_cases d:i<F b.AN
  .grind[Ih]
  .rw[Ei AA] at hx
   rw[Ei AA,H.KA _ _ hx,l]
 .grind
 .exact tJ _ e3 b.AM k e
 .intro i d
  rcases jF _ b.AM k i d with h|h
  .have:=hb.vis i h
   grind
  grind
 .have p:=tG (φ:=Mo (List.range (F b.AN)++ψ) [] 0) (λ_=>Z) (HE (F b.AN) c.AM) b.AM k k e ⟨_,Az hk,rfl⟩ (by simp; omega)
  show _=tr _ (Mn (HE (F b.AN) c.AM) b.AM k)
  rw[p,<-m,hb.pat h6];congr 1;refine Cc _ λi d=>?_
  have⟨t,u⟩:=hb.vis i d
  grind[Mo]
end
def pn {b:Br} (d:bd b.AM=Z) (e:∀i∈vis b.AM,0<=i/\i<AW) (l:CG (F (BQ b.AM []))):F (Af (CE b).AM)=F (Af b.AM)/\F (CE b).AN=F (BQ b.AM []):=by simp_all[CE,UN,Dp]
abbrev Nc:Int->Bool:=λ_=>Z
abbrev pq (B:Ϣ) (body:Ty) (k:Nat) (c:Ty):Br:=Gc B (JM Nc c body k)
section
variable {R:RT}
def AAs {C:Nat}:RcF R C 60 [] Nc (λ_=>True) where
 call:=λbs tk hs _ i L=>by
  obtain⟨v,rfl,h⟩:=e60 (R:=R) (t0:=AG i) (Post:=λr=>r=BB Z) AX (APf ⟨_,rfl,rfl⟩)
  grind
 set:=λ_ _ h=>h
 ext:=λ_ _ _ h _=>h
def eV {n:Nat} {bs d X:Ϩ} {l:Ϥ} {t:AV} (hn:n<=F bs) (r:EE n bs l t) (p:∀j c,(∀m,t≠.ref j 0 m 5)->bs[j]?=Y c->d[j]?=Y c) (s:bs.take n=X):d.take n=X:=by
 rw[<-s];refine Fw λj=>?_
 by_cases e:j<n
 .rw[Nu e,Nu e]
  have o:bs[j]?=Y bs[j]:=Az AA
  rw[p j _ (λm h=>by
   rcases r with ⟨u,_⟩|⟨id,rows,u,x,_⟩
   all_goals grind) o,o]
 grind
def AAt (hn:Mm R) {B:Ϣ} (b8:F B<=2 ^ 37) (hB:∀t∈B,AP t<2 ^ 38/\N4 t=Z) {k:Nat} {body:Ty} (b9:AP body<2 ^ 20) (hbt:Ez (F B) body=Z) (hk:k<Bi Nc body) {ps:Ϣ} (hpl:F ps<2 ^ 20) (π:∀p∈ps,AP p<2 ^ 36/\Ez (F B) p=Z) {a:AV} (Ξ:BN a (Aj (CO ps))) {n e y8:Nat} {X:Ϩ} {d ml:AV} (Φ:X[e]?=Y [d,ml]) (Ψ:BN d (Aj B)) {y:Ϭ} (ρ:X[y8]?=Y y) (W:BX (ren body) (.agg y)) {N7:Ϫ} {QR:QT}
  (hS:∀bs tk v,BM ⟨bs,tk⟩->bs.take n=X->n<=F bs->Cx (.AE []) (.AE []) N7 tk->EE n bs (ps.map (pq B body k)) v->QR (.tuple [v,BB Z]) ⟨bs,tk⟩) :
  ∀(j p:Nat) (bs:Ϩ) (tk:Ϫ) (r:AV),p+j=F ps->BM ⟨bs,tk⟩->bs.take n=X->n<=F bs->EE n bs ((ps.take p).map (pq B body k)) r->Cx (.AE []) (.AE []) N7 tk ->
   AD2 R 0 0 0 (AG k) (.ptr e 0) (.ptr y8 0) r a (AG (F ps)) (AG p) ⟨bs,tk⟩ QR:=by
 have⟨A,hbo,hbi⟩:=W.cells;have hcb:=MO Nc body;intro j
 induction j with
 | zero=>
  intro p bs tk r Ω hs ι α S β;refine AD3 (Ao ?_)
  simp_all[A4,APg]
 | succ j ihj=>
  intro p bs tk r Ω hs ι α S β;refine AD3 (Ao ?_);rw[Ax AA];have⟨c,a0⟩:∃c,ps[p]?=Y c:=⟨_,Az AA⟩;have ς:=A8 a0;have⟨c1,c2⟩:=π c ς;have hrc:(CO ps)[p]?=Y (ren c):=by grind[Bx]
  have D:F ((Av (ren c)).map AV.pv)=4:=by grind[Aq]
  have γ:=DG (ren c)
  have δ:Ap (F bs+1) ((Av (ren c)).map AV.pv)=true:=by
   have⟨k1,n1,i1,t1⟩:=ren c;rfl
  have U:=BD.Bo (ren c);have htk:ps.take (p+1)=ps.take p++[c]:=by grind[List.take_add_one]
  refine BH (APh (Bc Ξ (row:=Av (ren c)) AA (by grind[BK]) (Aq _) AA (Cd (Bh ?_))));generalize (Av (ren c)).map AV.pv=l at D γ δ U;refine Bn (A0 bs Z4) D rfl AH (AO _) γ (.inl (AO _)) ?_;have a1:(bs++[Z4]).set (F bs) l=bs++[l]:=AD;rw[a1];refine Bh ?_;have σ:F (bs++[l])=F bs+1:=AD;have τ:(bs++[l]++[[AG 0]])[F bs+1]?=Y [AG 0]:=AD;simp only[σ];refine C1 τ AH rfl (AO _) rfl (.inl (AO _)) ?_;have a3:(bs++[l]++[[AG 0]]).set (F bs+1) ([AG 0].set 0 (AG k))=bs++[l]++[[AG k]]:=AD
  show EX _ ⟨(bs++[l]++[[AG 0]]).set (F bs+1) ([AG 0].set 0 (AG k)),tk⟩ _ _ _
  rw[a3];have υ:BM ⟨bs++[l],tk⟩:=BM.app (s:=⟨bs,tk⟩) hs δ;have E:BM ⟨bs++[l]++[[AG k]],tk⟩:=BM.app (s:=⟨bs++[l],tk⟩) υ rfl;have κ:(bs++[l]++[[AG k]])[F bs+1]?=Y [AG k]:=AD;have μ:=Am (A0 bs l) [AG k];have I:=(DL (n:=n) AA [AG k]).trans ((DL α l).trans ι);have ε:EE n (bs++[l]++[[AG k]]) ((ps.take p).map (pq B body k)) r:=S.mono (AU _) λj c _ T=>Am (Am T _) _
  have ν:F (bs++[l]++[[AG k]])=F bs+2:=AD;generalize bs++[l]++[[AG k]]=o at κ E μ I ε ν;have a4:o[y8]?=Y y:=CN I ρ;refine Ag a4 A (Ag μ D ?_);obtain⟨w1,s1',⟨ζ,ds,rfl,ξ,a5,rfl⟩,a6⟩:=Zh hn (N:=2 ^ 40) (AU _) (C:=F bs+1) (AAs (R:=R)) (b:=c) U body AA (by grind[F8,Ea]) (.agg y) W k ⟨o,tk⟩ E AA AA (Co (env R) 24 0 0 0) rfl rfl κ Ay;rw[jR Nc c body k hk] at ξ;have K:BM ⟨o.set (F bs+1) [AG (k-Bi Nc body)],ζ⟩:=BM.set (s:=⟨o,tk⟩) E rfl _;have O:(o.set (F bs+1) [AG (k-Bi Nc body)]).take n=X:=(Cf AA).trans I
  have η:EE n (o.set (F bs+1) [AG (k-Bi Nc body)]) ((ps.take p).map (pq B body k)) r:=by
   rcases ε with h|⟨id,rows,q1,a7,a8,a9⟩
   .exact .inl h
   .refine .inr ⟨id,rows,q1,a7,BR a8 ?_,a9⟩
    rcases S with ⟨h,_⟩|⟨id',b5,_,h,h',_⟩
    all_goals grind
  have φ:F (o.set (F bs+1) [AG (k-Bi Nc body)])=F bs+2:=by rw[Ns,ν]
  refine⟨_,_,a6,?_⟩;generalize o.set (F bs+1) [AG (k-Bi Nc body)]=u at K O η φ;have χ:u[e]?=Y [d,ml]:=CN O Φ;have hq:=N3 (m:=Nc) (b:=c) body k hk;have ω:Ez (F B) (JM Nc c body k)=true:=by grind[F8,NI]
  obtain⟨w,s',⟨Q,z,b0,rfl⟩,b3⟩:=NR (R:=R) hn (L:=Co (env R) 24 0 0 0) (p:=JM Nc c body k) (s:=⟨u,ζ⟩) AA (λt ο=>⟨.of (hB t ο).1,(hB t ο).2⟩) AA ω ξ K χ Ψ rfl rfl;refine⟨_,_,b3,?_⟩;obtain⟨x,rfl⟩:=z.agg;have⟨x1,x2,b4⟩:=z.cells;have b7:=(β.trans a5).trans b0;refine KH z ⟨AH,?_⟩;have Γ:BM ⟨u++[x],Q⟩:=BM.app (s:=⟨u,Q⟩) K (b4 _);have θ:EE n (u++[x]) ((ps.take p).map (pq B body k)) r:=η.mono (AU _) λj c _ T=>Am T _
  have Δ:=(DL (n:=n) AA x).trans O;refine U3 (s:=⟨u++[x],Q⟩) z (A0 u _) θ rfl AB ?_ AB;intro a' Θ hb1 Λ hb3 A _;have hs5:=A Γ;have hT4:=eV AA θ Λ Δ;have b6:n<=F Θ:=AA;have em:(ps.take (p+1)).map (pq B body k)=(ps.take p).map (pq B body k)++[pq B body k c]:=AB;refine APi (Bb AA AA ?_)
  grind
end
mutual
def YG:∀(t:Ty) (u v:Nat),u<=v->CJ u t=Z->CJ v t=Z
 | .mk k n i ts,u,v,h,d=>by
  rw[CJ] at d ⊢;cases hk:k==5&&decide ((u:Int)<=i) with
  | true=>grind
  | false=>
   rw[hk] at d;have e:(k==5&&decide ((v:Int)<=i))=false:=AB;rw[e];exact Vf ts u v k 0 h d
def Vf:∀(l:Ϣ) (u v:Nat) (k:Int) (j:Nat),u<=v->De u k j l=Z->De v k j l=Z
 | [],_,_,_,_,_,_=>rfl
 | t::l,u,v,k,j,h,d=>by
  simp only[De,AK] at d ⊢;exact⟨YG t _ _ AA d.1,Vf l u v k _ h d.2⟩
end
mutual
def AAu {u:Nat}:∀t:Ty,wP t=Z->(∀i∈vis t,i<(u:Int))->CJ u t=Z
 | .mk k n i ts,h,d=>by
  have o:=h;rw[wP] at h;rw[vis] at d;cases l:k==5 with
  | true=>
   rw[l] at h d;simp only[AQ,AK,Eu] at h;obtain⟨_,rfl⟩:=h;have:=d i AD;have e:decide ((u:Int)<=i)=false:=AB;rw[CJ,e,Sr];rfl
  | false=>
   rw[l] at h d;cases m:k==2 with
   | true=>
    rw[m] at h d;simp only[AL,AQ,AK] at h;rw[CJ,l];exact Vg ts k AB 0 h.2 d
   | false=>
    rw[m] at h;simp only[AL,P1,AK] at h;exact YG _ 0 u (AO _) h.2
def Vg {u:Nat}:∀(l:Ϣ) (k:Int) (_:(k==6)=ϴ) (j:Nat),Qb l=Z->(∀i∈DU l,i<(u:Int))->De u k j l=Z
 | [],_,_,_,_,_=>rfl
 | t::l,k,hk,j,h,d=>by
  simp only[Qb,AK] at h;rw[DU] at d;have e:u+Dz k j=u:=by simp[Dz,hk]
  rw[De,e,AAu t h.1 λi hm=>d i AB,Vg l k hk (j+1) h.2 λi hm=>d i AB];rfl
end
mutual
def aL {u:Nat}:∀t:Ty,wB t=Z->(∀i∈vis t,i<(u:Int))->CJ u t=Z
 | .mk k n i ts,h,d=>by
  rw[wB] at h;rw[vis] at d;cases l:k==5 with
  | true=>
   rw[l] at h d;simp only[AQ,AK,Eu] at h;obtain⟨_,rfl⟩:=h;have:=d i AD;have e:decide ((u:Int)<=i)=false:=AB;rw[CJ,e,Sr];rfl
  | false=>
   rw[l] at h d;rw[CJ,l]
   show De u k 0 ts=Z
   cases m:k==2 with
   | true=>
    simp_all[Vg]
   | false=>
    cases o:k==3 with
    | true=>
     have p:(k==0)=false:=AB;rw[p,m,o] at h;rw[m,o] at d;simp only[AL,Cm,AK] at h;exact eW ts k AB 0 h.2.2.2 d
    | false=>
     rw[m,o] at h;cases p:k==0 with
     | false=>grind
     | true=>
      rw[p] at h;simp only[AL,AQ,AK,Eu] at h;obtain⟨_,_,rfl⟩:=h;rfl
def eW {u:Nat}:∀(l:Ϣ) (k:Int) (_:(k==6)=ϴ) (j:Nat),Kz l=Z->(∀i∈DU l,i<(u:Int))->De u k j l=Z
 | [],_,_,_,_,_=>rfl
 | t::l,k,hk,j,h,d=>by
  simp only[Kz,AK] at h;rw[DU] at d;have e:u+Dz k j=u:=by simp[Dz,hk]
  rw[De,e,aL t h.1 λi hm=>d i AB,eW l k hk (j+1) h.2 λi hm=>d i AB];rfl
end
mutual
def nu (g:Int->Int):∀t:Ty,wB t=Z->AP (Bq (λi=>var (g i)) t)=AP t/\Al (Bq (λi=>var (g i)) t)=Al t
 | .mk k n i ts,h=>by
  rw[wB] at h;rw[Bq];cases d:k==5 with
  | true=>
   rw[d] at h;simp only[AQ,AK,Eu] at h;obtain⟨_,rfl⟩:=h;exact⟨rfl,rfl⟩
  | false=>
   rw[d] at h;cases e:k==2 with
   | true=>
    simp_all[Vd,AP,Al]
   | false=>
    cases l:k==3 with
    | true=>
     have m:(k==0)=false:=AB;rw[m,e,l] at h;simp only[AL,Cm,AK] at h;have:=xd g ts h.2.2.2
     grind[AP,Al]
    | false=>simp
def xd (g:Int->Int):∀l:Ϣ,Kz l=Z->Ak (B4 (λi=>var (g i)) l)=Ak l/\Cp (B4 (λi=>var (g i)) l)=Cp l
 | [],_=>⟨rfl,rfl⟩
 | t::l,h=>by
  simp only[Kz,AK] at h;have d:=nu g t h.1;have e:=xd g l h.2
  grind[B4,Ak,Cp]
end
def inF (σ:Ϟ) (i:Int):Ty:=match σ[i.toNat]? with
 | some v=>ph v
 | none=>var i
mutual
def AAv (σ:Ϟ):∀t:Ty,wP t=Z->(∀i∈vis t,0<=i)->inst σ 0 t=Bq (inF σ) t
 | .mk k n i ts,h,d=>by
  have m:=h;rw[wP] at h;rw[vis] at d;cases e:k==5 with
  | true=>
   grind[inst,Bq,inF]
  | false=>
   rw[e] at h d;cases l:k==2 with
   | true=>
    rw[l] at h d;simp only[AL,AQ,AK] at h;rw[inst,Bq,e,l];simp only[AL,AQ,D6,Vh σ ts k AB 0 h.2 d]
   | false=>
    grind[Hu,P1,Ig]
def Vh (σ:Ϟ):∀(l:Ϣ) (k:Int) (_:(k==6)=ϴ) (j:Nat),Qb l=Z->(∀i∈DU l,0<=i)->Dg σ 0 k j l=B4 (inF σ) l
 | [],_,_,_,_,_=>rfl
 | t::l,k,hk,j,h,d=>by
  simp only[Qb,AK] at h;rw[DU] at d;have e:0+Dz k j=0:=by simp[Dz,hk]
  rw[Dg,B4,e,AAv σ t h.1 λi hm=>d i AB,Vh σ l k hk (j+1) h.2 λi hm=>d i AB]
end
mutual
def nx (σ:Ϟ):∀t:Ty,wB t=Z->(∀i∈vis t,0<=i)->inst σ 0 t=Bq (inF σ) t
 | .mk k n i ts,h,d=>by
  rw[wB] at h;rw[vis] at d;cases o:k==5 with
  | true=>
   grind[inst,Bq,inF]
  | false=>
   rw[o] at h d;rw[inst,Bq,o];cases e:k==2 with
   | true=>
    simp_all[Vh]
   | false=>
    cases l:k==3 with
    | true=>
     have m:(k==0)=false:=AB;rw[m,e,l] at h;rw[e,l] at d;simp only[AL,Cm,AK] at h;simp only[AL,AQ,Dx,eX σ ts k AB 0 h.2.2.2 d]
    | false=>
     rw[e,l] at h;cases m:k==0 with
     | false=>grind
     | true=>
      rw[m] at h;simp only[AL,AQ,AK,Eu] at h;obtain⟨_,_,rfl⟩:=h;rfl
def eX (σ:Ϟ):∀(l:Ϣ) (k:Int) (_:(k==6)=ϴ) (j:Nat),Kz l=Z->(∀i∈DU l,0<=i)->Dg σ 0 k j l=B4 (inF σ) l
 | [],_,_,_,_,_=>rfl
 | t::l,k,hk,j,h,d=>by
  simp only[Kz,AK] at h;rw[DU] at d;have e:0+Dz k j=0:=by simp[Dz,hk]
  rw[Dg,B4,e,nx σ t h.1 λi hm=>d i AB,eX σ l k hk (j+1) h.2 λi hm=>d i AB]
end
mutual
def eY (g:Int->Nat):∀t:Ty,wB t=Z->fl (tr g t)=Z
 | .mk k n i ts,h=>by
  rw[wB] at h;rw[tr,Bq];cases e:k==5 with
  | true=>rfl
  | false=>
   rw[e] at h;cases d:k==2 with
   | true=>simp[fl,d]
   | false=>
    cases l:k==3 with
    | true=>
     have m:(k==0)=false:=AB;rw[m,d,l] at h;simp only[AL,Cm,AK] at h;have:=xe g ts h.2.2.2
     grind[fl]
    | false=>
     grind[fl]
def xe (g:Int->Nat):∀l:Ϣ,Kz l=Z->flL (SW g l)=Z
 | [],_=>rfl
 | t::l,h=>by
  simp only[Kz,AK] at h;rw[SW,B4,flL];rw[show Bq (λi=>ph (g i)) t=tr g t from rfl,eY g t h.1];exact xe g l h.2
end
def ny {f:Nat} {t:Ty} (h:¬ (xR f t).2=0):(xR f t).1=[]:=by
 cases f with
 | zero=>rfl
 | succ f=>
  grind[xR]
def xg {t:Ty} (hs:DJ t=0->CG (bw t)) (d:(xR (Al t) t).2=0):DJ t=0/\Go.Proofs.YtpgfpakdnijngaaGreatDoor.CJ 0 t=Z/\∀b∈(xR (Al t) t).1,Can t b/\Mp b=Z/\(b.AN.all λc=>C2 (xR (Al t-1) c))=true:=by
 obtain⟨f,hf⟩:∃f,Al t=f+1:=by
  obtain⟨k,n,i,ts⟩:=t;exact⟨Cp ts,rfl⟩
 grind[AIH,xR,E6]
structure Pk (R:RT) (b:Br):Prop where
 cn:Cn b
 cl:∀c∈b.AN,CJ 0 c=Z
 bw:∀c∈b.AN,bw c<=1859359
 wn:∀c∈b.AN,wt c<=630225/\nb c<=23403
 ok:∃f,∀c∈b.AN,Al c<=f/\C2 (xP f c)=Z
 vb:∃X,VB X b/\∀c∈b.AN,XOk R c (X c)
 bs:∀c∈b.AN,AP c<=200/\A2 c=Z/\Fit c
 len:F b.AN<=6
 Gw:AP b.AM<=200
 val:A2 b.AM=Z
 arg:∀n i ts,b.AM=.mk 2 n i ts->ts.all q1=Z
section
variable {R:RT}
def AD4 (hn:Mm R) {t:Ty} (p:gq 3 t=Z) (r:DJ t=0) (e:CJ 0 t=Z) {b:Br} (hb:Can t b) (z:Mp b=Z) (s:(b.AN.all λc=>C2 (xR (Al t-1) c))=Z):Pk R b:=by
 have⟨D,u,y⟩:=E6 r;have m:=AIA p r;have hs:=pg p r e;have h6:F b.AN<=6:=by grind[Mp]
 have o:=wh 3 t p u y;have e3:gqQ 3=⟨3150,1859359,630225,23403,27⟩:=AX;rw[e3] at o;refine⟨hb.toCn,λc e=>(hb.Dz c e).cl,λc e=>BC (hb.Dz c e).bws o.b,λc e=>⟨BC (hb.Dz c e).jW o.w,BC (hb.Dz c e).nbs o.n⟩,⟨Al t-1,λc l=>?_⟩,⟨xR (Al t-1),hb.VB h6 hs z s,λc l=>?_⟩,λc l=>?_,h6,BC hb.Gw hs.1,hb.val h6,λn i ts A=>?_⟩
 .have d:=hb.Dz c l
  have C:=Cl.1 s c l;refine⟨by have:=d.dep; omega,?_⟩;rw[ANU (Al t-1) c λ_=>(m.sub d).bws];omega
 .have d:=hb.Dz c l
  have:=je (R:=R) hn (Al t-1) c (by have:=d.dep; omega) (by have:=d.Gw; omega) (N9 c d.val) (λ_=>m.sub d);rw[ANU (Al t-1) c λ_=>(m.sub d).bws] at this;omega
 .have d:=hb.Dz c l
  exact⟨by have:=d.Gw; omega,d.val,m.sub d⟩
 .have d:=BC hb.arg (nX t 3 [] AH (λx hx=>by grind) p)
  rw[A] at d;have C:wz Mqa (om []) (.mk 2 n i ts)=bif ts.all q1 then 1 else 2:=rfl
  grind
def rxO {t:Ty} (m:AP t<2 ^ 60) (n:ZQ t) (l:DJ t=0->Fit t) (x:AV) (hx:BX t x):Ah (env R) 15 [x] λr=>∃a,r=.tuple [a,AG (xR (Al t) t).2]/\A3 a ((xR (Al t) t).1.map C7):=by
 have⟨d,o,e⟩:=hx.closed [] 0;exact Ah.open (args':=[d]) AX AX rfl (by simp[*]) (by simp[BZ,e.Ik]) (eC (Al t) t (AU _) m n l d e)
def HM.Du {b:Br} {x:AV} (h:HM b x):CL b x:=by
 obtain⟨a,y,rfl,d,e⟩:=h;exact⟨a,y,rfl,.inl d,e.Du⟩
def CL.AAw {b:Br} {row:Ϭ} (h:CL b (.agg row)) (bs:Ϩ):∃e,BZ bs 0 0 row=Y e/\HM b (.agg e):=by
 obtain⟨a,y,p,r,l⟩:=h;cases p;rcases hb:b.AM with ⟨k,n,i,ts⟩
 rw[hb] at l;obtain⟨a2,s,o⟩:=l;cases s;have⟨m,x,t⟩:=r.closed bs 0;have⟨d,z,u⟩:=o.closed bs 0;exact⟨[m,AG k,SS n,AG i,d],by simp[*],m,[AG k,SS n,AG i,d],rfl,t,by rw[hb]; exact⟨d,rfl,u⟩⟩
def PkA (R:RT) (v:AV):Prop:=∃x b ok,v=.tuple [x,BB ok]/\HM b x/\AP b.AM<=200/\(ok=Z->Pk R b)
def Wa (hn:Mm R) {W:List Ϝ} (Q:(env R).G 1=Y (FE W)) (S:Short W) (T:F W=4) (l:Ϛ) (ρ:F l<2 ^ 50) (k:Int) :
  Ah (env R) 22 [.pv (.list (Ai l)),AG k] (PkA R):=by
 refine e22 (u0:=.pv (.list (Ai l))) (u1:=AG k) AD (APj (Bh ?_));refine Cr (eE l _ _) ?_;rintro v U ⟨rfl,rfl⟩;have ν:=Src.YH l;have hB:OM [Z5,PE (.of l) 0] 1 (.of l):=⟨AD,by simp[TM,Ap,A6],AA⟩;have X:LI [Z5,PE (.of l) 0] []:=λb hb=>by grind
 have α:(⟨[]++[Z5]++[PE (.of l) 0],[]⟩:AY)=⟨Tel.ST [Z5,PE (.of l) 0] 1 (.of l) 0++[],[]⟩:=AX
 show G4 (env R) _ _ _ ⟨[]++[Z5]++[PE (.of l) 0],[]⟩ _
 rw[α];refine AI X8 ?_;rintro ς ⟨rows,β⟩;refine Cr (Qa hB Q T S β X (k:=0) AA (Co (env R) 22 0 0 0) AD [] AD) ?_;rintro x U ⟨t,k1,σ,hx,e,_,ξ,rfl⟩;have d:(Tel.ST [Z5,PE (.of l) 0] 1 (.of l) k1++[])[0]?=Y Z5:=AX;generalize Tel.ST [Z5,PE (.of l) 0] 1 (.of l) k1++[]=γ at d;have sz:=e.1.2;have m:=AIA e.2.1;have y:=rxO (R:=R) (t:=t) AA e.1.1 m;have⟨δ,_⟩:=xB (f:=Al t) m;have s:=xg (t:=t) λh=>(m h).bws
 have D:=λh=>ny (f:=Al t) (t:=t) h
 generalize xR (Al t) t=o at y δ s D;refine AI (y _ hx) ?_;rintro _ ⟨a,rfl,p⟩;refine B9 rfl (B9 rfl (Au (n:=F o.1) (by rw[p.BG,Bj]) (BE ?_)));cases h:((F o.1:Int)==0) with
 | true=>
  refine BH (FV (cs:=Z5) rfl (Bn d rfl rfl AH (AO _) rfl (.inl (AO _)) (Ag (BT d) rfl ?_)));exact⟨_,rfl,.agg Z5,⟨[],.mk 0 [] 0 []⟩,ϴ,rfl,⟨_,_,rfl,.AE _,_,rfl,.AE _⟩,AH,λh=>by cases h⟩
 | false=>
  have μ:0<F o.1:=AB;refine A4 (APk (Au (n:=F o.1) (by rw[p.BG,Bj]) (AI (QY k _ AA AA) ?_)));rintro _ ⟨r,rfl,ο,π⟩;obtain⟨j,rfl⟩:∃j:Nat,r=(j:Int):=⟨r.toNat,AA⟩;have⟨b,hb⟩:∃b,o.1[j]?=Y b:=⟨_,Az AA⟩;have E:=A8 hb;refine Kv (.inr (.inl p)) hb λI u=>?_
  have⟨z,ε,τ⟩:=u.cells;refine Bn d z rfl AH (AO _) ε (.inl (AO _)) (Ag (BT d) z ?_);have A:o.2=0:=kg λA=>by grind
  have⟨K,ζ,N⟩:=s A;have⟨η,θ,ι⟩:=N b E;have O:=AD4 hn e.2.1 K ζ η θ ι;have⟨C,υ,κ⟩:=u.AAw (γ.set 0 I);refine⟨.tuple [.agg C,BB Z],by simp[*],.agg C,b,Z,rfl,κ,?_,λ_=>?_⟩
  .exact O.Gw
  omega
end
section
variable {R:RT}
structure SpF (b:Br) (t:Ty) (cs Bf:Ϣ):Prop where
 pre:b.AN<+:Bf
 len:F Bf<=6+nb t
 Dz:∀c∈Bf,AP c<2 ^ 38/\N4 c=Z
 pat:∀p∈cs,AP p<2 ^ 36/\Ez (F Bf) p=Z
 num:F cs<=32
def eZ {b:Br} (e:Pk R b) {t:Ty} (s:t∈b.AN) {cs Bf:Ϣ} (h:BI (Aa 32) (Al t) t b.AN=(Y cs,Bf)):SpF b t cs Bf:=by
 have⟨z,d,r⟩:=e.bs t s;have l:=e.cl t s;have h6:=e.len;have o:=EC (A7:=Aa 32) (Al t) t b.AN;have n:=TH (Al t) t [] b.AN d l r.bws (λx hx=>by grind);rw[Ck d l] at n;have y:=KD (A7:=Aa 32) AX (Al t) t b.AN cs (by rw[h])
 have m:=Ll (A7:=Aa 32) (P:=λc=>AP c<2 ^ 38/\N4 c=Z) (Al t) t [] d l (Lj (λc hs=>⟨by have:=hs.Gw; omega,HW hs.val hs.cl⟩) t (QJ _ t (AU _) d)) b.AN (λc hm=>by
  have⟨q1,u,_⟩:=e.bs c hm;exact⟨AA,HW u (e.cl c hm)⟩)
 rw[Ck d l] at m;rw[h] at o n m;simp only at n;refine⟨o,AA,m,λp hm=>?_,AB⟩
 have⟨q1,u⟩:=G5 (A7:=Aa 32) (Al t) t b.AN (F Bf) (qM (F Bf)) cs (λi A C=>by grind) (by
  have:=G7 (q:=λi=>qM (F Bf) i&&decide (i<(F b.AN:Nat))) (σ:=[]) (λx hx=>by grind) t 0 d
  grind[Ck]) (by rw[h]) AB p hm
 refine⟨by have:=r.jW; omega,?_⟩
 grind[F8]
def j5 (hn:Mm R) {b:Br} (p:Pk R b) {x:AV} (hx:HM b x) {k v:Nat} (Θ:(Af b.AM)[k]?=Y (v:Int)) {t:Ty} (ς:b.AN[v]?=Y t) {cs Bf:Ϣ} (η:BI (Aa 32) (Al t) t b.AN=(Y cs,Bf)) {s:AY} (hs:BM s) {L:Ba} (Λ:L.n0=0) (Ξ:L.ro=0) (Φ:L.rt=0) :
  ∃r K,(∃a,r=.tuple [a,BB Z]/\EE (F s.bs) K.bs (cs.map (pq Bf (Gx (F b.AN) b.AM) k)) a/\K.bs.take (F s.bs)=s.bs/\F s.bs<=F K.bs/\BM K)/\Bk (env R) L 24 [x,AG k] s r K:=by
 have Q:=A8 ς;have hF:=eZ p Q η;have⟨hsz,α,θ⟩:=p.bs t Q;have σ:=p.cl t Q;have h6:=p.len;have hbz:=p.Gw;have hnb:=θ.nbs;have hpz:AP (Gx (F b.AN) b.AM)<=AP b.AM:=Va _ b.AM ϴ (AU _);have hk:=(BJ.1 Θ).1;have hvn:=(BJ.1 ς).1;have hcz:=Eb b.AM;have Ψ:=hx;obtain⟨a,y,rfl,E,τ⟩:=hx;have⟨a8,a9,b4,y4⟩:=τ.cells;have⟨X,Ω,b5⟩:=p.vb;have Δ:(b.AN.all λt=>C2 (X t))=true:=Ω.2.2.2.2.2.2;refine m24 ?_;rw[Λ,Ξ,Φ];have z:=A0 s.bs (a::y);have ι:BM ⟨s.bs++[a::y],s.ts⟩:=BM.app (s:=s) hs (by simp[Ap,E.A6,BV (AO _) _ b4]);have κ:(s.bs++[a::y]).take (F s.bs)=s.bs:=AD;refine AD5 (Bs (cs:=a::y) rfl (by simp[E.ok,a9]) (Ag z AB (AI (Fg AA AA Ψ) ?_)));intro vs N;have a0:F (s.bs++[a::y])=F s.bs+1:=AD;generalize s.bs++[a::y]=m at z ι κ a0;refine Ao ?_;rw[A5 AA];refine Aw (b:=ϴ) (Aw (b:=ϴ) (Aw (b:=ϴ) (Au (n:=F (Af b.AM)) (by rw[N.BG,BP]) (Aw (b:=ϴ) (Fq (pk ?_))))));rw[A5 AA];refine Aw (b:=ϴ) (Aw (b:=ϴ) (Aw (b:=ϴ) (BL N (row:=[.sc (.int .i64 v)]) AA (by grind[Ai]) rfl AA (Aw (b:=ϴ) (Ds (Aw (b:=ϴ) (Ao (pk ?_))))))));rw[A5 AA];refine Aw (b:=ϴ) (Aw (b:=ϴ) (Aw (b:=ϴ) (BL N (row:=[.sc (.int .i64 v)]) AA (by grind[Ai]) rfl AA (Aw (b:=ϴ) (Ds (Aw (b:=ϴ) (AR (Ab z) (Aw (b:=ϴ) (Ad (off:=0) z rfl (Aw (b:=ϴ) (Au (n:=F b.AN) (by rw[E.BG,Ae]) (Aw (b:=ϴ) (Fq (pk ?_))))))))))))));rw[A5 AA];refine Aw (b:=ϴ) (AR (Ab z) (Aw (b:=ϴ) (Ad (off:=0) z rfl (Aw (b:=ϴ) (AI (IX E AA (λc hm _=>by have:=(p.bs c hm).1; omega) b5) ?_)))));rintro _ rfl;rw[Δ];refine Aw (b:=ϴ) (nt (pk (A4 (APl (AR (Ab z) (Ad (off:=0) z rfl ?_))))));obtain⟨d,s1,⟨C,rfl,I,h2⟩,a1⟩:=MR (R:=R) (l:=b.AN) AA (.inl E) (L:=Co (env R) 24 0 0 0) rfl ⟨m,s.ts⟩;have υ:BS (AG 9223372036854775807)=true:=rfl;have b6:cellsOf (AG 9223372036854775807)=[AG 9223372036854775807]:=rfl;refine⟨_,_,a1,FV (cs:=[d,AG 9223372036854775807]) (by simp[Ee,I.BA.cells,I.BA.ok,υ,b6,setCells]) (Bs (cs:=[d,AG 9223372036854775807]) rfl (by simp[I.BA.ok,υ]) ?_)⟩;have O:=Am z [d,AG 9223372036854775807];have β:=A0 m [d,AG 9223372036854775807];have μ:=(DL (n:=F s.bs) AA [d,AG 9223372036854775807]).trans κ;have S:BM ⟨m++[[d,AG 9223372036854775807]],C⟩:=BM.app (s:=⟨m,C⟩) ι (by simp[Ap,A6,I.BA.A6]);have a3:F (m++[[d,AG 9223372036854775807]])=F m+1:=AD;generalize m++[[d,AG 9223372036854775807]]=o at O β μ S a3;refine AR (Ab O) (KM O a8 ?_);have⟨r,γ,Γ⟩:=eH (R:=R) hn (e:=F m) (Ar:=9223372036854775807) I.BA AA (t:=b.AM) AA p.val τ (s:=⟨o,C⟩) S β;obtain⟨u,rfl⟩:=γ.Du.agg;have⟨b7,b8,b9⟩:=γ.Du.cells;refine⟨_,_,Γ _ (AO _),Bh (Bn (A0 o Z4) b7 rfl AH (AO _) b8 (.inl (AO _)) ?_)⟩;have e1:(o++[Z4]).set (F o) u=o++[u]:=AD
 show Ex ⟨(o++[Z4]).set (F o) u,C⟩ _ _ _
 rw[e1];have δ:=Am O u;have T:=Am β u;have φ:=A0 o u;have ν:=(DL (n:=F s.bs) AA u).trans μ;have U:BM ⟨o++[u],C⟩:=BM.app (s:=⟨o,C⟩) S (b9 _);have a4:F (o++[u])=F o+1:=AD;generalize o++[u]=A at δ T φ ν U a4;refine AR (Ab δ) (Ad (off:=0) δ rfl (BL N (row:=[.sc (.int .i64 v)]) AA (by grind[Ai]) rfl AA (Ds (BL E (row:=Av t) AA (by grind[BK]) (Aq _) AA (Cd ?_)))));have ζ:=I8 (R:=R) hn (e:=F m) (ml:=9223372036854775807) (Ar:=32) (M:=6+nb t) AH AH AA (Al t) t [] (AU _) α σ (L2 θ.jW AH) AA b.AN (λx hx=>by grind);rw[Ck α σ,η,IU t α] at ζ;obtain⟨w,s4,⟨D,W,q1,χ,q3,rfl⟩,q4⟩:=ζ hF.len ⟨AH,AH,AH,.inr rfl⟩ _ (BD.Bo t).Du ⟨A,C⟩ U (Co (env R) 24 0 0 0) d rfl rfl T I;obtain⟨a5,rfl,ξ⟩:=q1;refine⟨_,_,q4,B9 rfl (B9 rfl (Au (n:=F cs) (by rw[ξ.BG,Ae,Bx,Bj]) ?_))⟩;have ο:BM ⟨A.set (F m) [D,AG 9223372036854775807],W⟩:=BM.set (s:=⟨A,C⟩) U (by simp[Ap,A6,χ.BA.A6]) _;have π:(A.set (F m) [D,AG 9223372036854775807])[F o]?=Y u:=BR φ AA;have ρ:(A.set (F m) [D,AG 9223372036854775807])[F m]?=Y [D,AG 9223372036854775807]:=BT T;have a6:(A.set (F m) [D,AG 9223372036854775807]).take (F s.bs)=s.bs:=(Cf AA).trans ν;have a7:F (A.set (F m) [D,AG 9223372036854775807])=F A:=AD;generalize A.set (F m) [D,AG 9223372036854775807]=ε at ο π ρ a6 a7
 have hcn:Bi Nc (Gx (F b.AN) b.AM)=F (Af b.AM):=by
  rw[p.cn.pat h6,NF _ _ _ (KR _ p.cn.wb)];simp
 refine AAt hn (B:=Bf) (by have:=hF.len; omega) hF.Dz (body:=Gx (F b.AN) b.AM) AA ?_ AA (ps:=cs) (by have:=hF.num; omega) hF.pat ξ (n:=F ε) (e:=F m) (y8:=F o) (X:=ε) (d:=D) ρ χ.BA π γ.Du (N7:=W) ?_ (F cs) 0 ε W (.AE []) AA ο (Lu ..) (AU _) (.inl ⟨rfl,rfl⟩) (Cx.refl _ _)
 .have ω:Ez (F b.AN) (Gx (F b.AN) b.AM)=true:=by
   exact Z6 b.AM ϴ p.val
  rw[F8] at ω ⊢;exact Ea (λi hi=>by have:=hF.pre.length_le; grind) _ ω
 .intro bs tk v' w1 w2 w3 w4 w5
  refine⟨v',rfl,w5.mono AA λj c _ hj=>hj,AB,AB,w1⟩
end
def OC {α β:Type} {R:α->β->Prop}:∀{l:List α} {m:List β},CD R l m->∀{i:Nat} {a:α},l[i]?=Y a->∃c,m[i]?=Y c/\R a c
 | [],[],_,i,c,h=>by grind
 | a::l,b::m,h,0,c,d=>by
  cases d;exact⟨b,rfl,h.1⟩
 | a::l,b::m,h,i+1,c,d=>OC (l:=l) (m:=m) h.2 d
def AIQ {B:Ϣ} {lo:Nat} {b:Br} {p:Ty} {φ:Ϟ} (H:Rl ϴ 0 B lo (F B) [] b p φ) (hs:CG (F (BQ b.AM []))):Gc B p=CE b/\F (Af (Gc B p).AM)=F (Af b.AM)/\F (Gc B p).AN=F (BQ b.AM []):=by
 have e:=UO H (AU _) hs
 have d:∀i∈vis b.AM,0<=i/\i<AW:=λi l=>by
  have:=H.small;rcases H.vis i l with h|h|h
  all_goals grind
 have⟨m,n⟩:=pn H.bd d hs
 grind
end Go.Proofs.YtpgfpakdnijngaaGreatDoor
