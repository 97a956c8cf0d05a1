/-
  The law DnfSplit, but for its sanity check.
-/
import Derived.Test.YtpgfpakdnijngaaGreatDoorTJ
import Derived.Test.YtpgfpakdnijngaaGreatDoorTH
import Derived.Test.YtpgfpakdnijngaaGreatDoorTE
import Derived.Test.YtpgfpakdnijngaaGreatDoorTI
import Derived.Test.YtpgfpakdnijngaaGreatDoorW1
set_option linter.all false
namespace Go.Proofs.YtpgfpakdnijngaaGreatDoor
open Go.Tel
open List renaming length->F
open Option renaming some->Y
open Bool renaming true->Z,false->ϴ
attribute [local simp] Hr MD Ir JL EK E3 Ee wO setCells Hw EX Dd Co Ex alive Dh Jf Qk bU Gq Iu Gl Hs K9 Iv gX fY okB gY gZ gh gi gj ag gm gp gu gv gw gx gy gz hG hJ hO okF hY iA iB iC iD Tu iE Ow Ox Oy Oz iG iH iI iJ iK iL iM iP iQ iR GG iT fZ iU iV iW iX iY iZ ia ic ie ig C0
def xh {c:Br} {row:Ϭ} (h:CL c (.agg row)):Tel.D9 (.agg row) (.agg row)=true:=by
 obtain⟨a,y,d,e,f⟩:=h
 grind[BN.D9,KL,Tel.D9,JY]
def AIR {B:Ϣ} {lo d:Nat} {c:Br} {q:Ty} {ψ:Ϟ} (H:Rl ϴ 0 B lo d [] c q ψ) (hs:CG (F (BQ c.AM []))):∃u,Rl ϴ 0 B lo d [] (CE c) q u:=by
 have Q:(AW:Int)=1073741824:=rfl
 have p:∀i∈vis c.AM,0<=i/\i<F ψ:=λi d=>by
  rcases H.vis i d with h|h|h
  all_goals grind
 have f:∀i∈BQ c.AM [],0<=i/\i<F ψ:=λi d=>by
  rcases G3 _ _ i d with h|h
  all_goals grind
 have hn:=GX c.AM [] EI;have K:=H.small;have m:(CE c).AM=Bq (λi=>var (pos (BQ c.AM []) i)) c.AM:=UN H.bd (λi d=>⟨(p i d).1,AB⟩) hs;have o:=I2 c.AM [];have⟨L,r⟩:∃L,L=BQ c.AM []:=⟨_,rfl⟩;have s:(CE c).AN=L.map λi=>c.AN.getD i.toNat XL:=by rw[r]; rfl
 rw[<-r] at f hn m hs o
 have l:∀(j:Nat) (i:Int),L[j]?=Y i->∃x,ψ[i.toNat]?=Y x/\(L.map λi=>ψ.getD i.toNat 0)[j]?=Y x:=λj i e=>by
  have⟨z,T⟩:=f i (A8 e)
  simp_all
 refine⟨L.map λi=>ψ.getD i.toNat 0,{ nd:=?_,LM:=?_,len:=?_,KA:=?_,small:=?_,bd:=?_,vis:=?_,eq:=?_ }⟩
 .refine List.pairwise_map.2 (hn.imp_of_mem fun {a b} A hb M=>?_)
  have⟨C,D⟩:=f a A;have⟨E,I⟩:=f b hb;have⟨x,hx,_⟩:=UI C D;have⟨y,k,_⟩:=UI E I;have N:=H.nd
  grind[List.getElem?_inj]
 .intro x hx
  have⟨j,e⟩:=ki.1 hx;rw[E8] at e;cases d:L[j]? with
  | none=>
   grind
  | some i=>
   have⟨y,k,_⟩:=l j i d;rw[d] at e;have:y=x:=AB;exact this ▸ H.LM y (A8 k)
 .rw[s,Bj,Bj]
 .intro j x hx
  cases d:L[j]? with
  | none=>
   grind
  | some i=>
   have⟨y,k,t⟩:=l j i d;have:y=x:=AB;subst this;rw[H.KA _ _ k,s,E8,d]
   have:i.toNat<F c.AN:=by
    have:=f i (A8 d);have:=H.len;omega
   grind
 .rw[Bj]
  assumption
 .rw[m]
  exact O3 _ _ H.bd
 .simp_all[Jg,pos,Yj]
 .rw[m,H.eq,tr,tr,Gn]
  refine Cc _ λi d=>?_
  have⟨j,e⟩:=ki.1 (o i d);have⟨x,hx,t⟩:=l j i e;have z:=p i d;have O:i=(i.toNat:Int):=AA;have U:Mo ψ [] 0 i=x:=by grind[S9]
  have X:Mo (L.map λi=>ψ.getD i.toNat 0) [] 0 (pos L i)=x:=by
   rw[Ku hn e];exact S9 t (by rw[Bj]; assumption)
  grind
section
variable {A7:Nat->Bool}
def ec {α β:Type} {g:α->Option (List β)} {K:Nat}:∀{l:List α} {out r:List β},(∀a∈l,∀s,g a=Y s->F s<=K)->Fl A7 g l out=Y r->F r<=F out+F l*K
 | [],out,r,_,h=>by grind[Fl]
 | a::l,out,r,d,h=>by
  rw[Fl] at h;cases e:g a with
  | none=>
   grind
  | some s=>
   rw[e] at h;simp only at h;cases hb:A7 (F (out++s)) with
   | true=>
    grind
   | false=>
    rw[hb] at h;have k:=ec (λf j=>d f (C4 _ j)) h
    grind[Nat.add_mul]
def ng (b:Ty):Nat:=(Af b).countP λi=>decide (i<0)
def AD6 {l:Ϥ} {w:Nat} (f:∀c∈l,F c.AN<=w/\F (Af c.AM)<=3/\∀i∈Af c.AM,0<=i/\i<F c.AN) {b:Br} {k:Nat} (j:El b.AM=Y k) (hs:((F b.AN+w:Nat):Int)<AW):∀c∈l,(Af (CA b k c).AM).count AW+1=(Af b.AM).count AW/\ng (CA b k c).AM=ng b.AM/\F (Af (CA b k c).AM)<=F (Af b.AM)+2/\F (CA b k c).AN<=F b.AN+w:=by
 have⟨d,m⟩:=Dr j;have⟨r,s⟩:=MJ d m;have e:=(BJ.1 d).1;have t:(AW:Int)=1073741824:=rfl;have u:Af b.AM=(Af b.AM).take k++AW::(Af b.AM).drop (k+1):=by grind[List.take_append_drop,List.drop_eq_getElem_cons]
 intro c o;have⟨k1,k2,k3⟩:=f c o;have p:Af (CA b k c).AM=_:=N2 (HE (F b.AN) c.AM) b.AM k e;rw[MT,Dp] at p;have x:((Af c.AM).map λi=>bif decide (0<=i)&&!(i==AW) then i+(F b.AN:Int) else i).count AW=0:=AB;have z:((Af c.AM).map λi=>bif decide (0<=i)&&!(i==AW) then i+(F b.AN:Int) else i).countP (λi=>decide (i<0))=0:=AB
 grind[ng,CA]
def YI {l:Ϥ} {w:Nat} (t:F l<=4) (u:∀c∈l,F c.AN<=w/\F (Af c.AM)<=3/\∀i∈Af c.AM,0<=i/\i<F c.AN):∀(f:Nat) (b:Br) (r:Ϥ),DQ A7 l f b=Y r->(Af b.AM).count AW<=f->(F b.AN+f*w:Nat)<AW ->
  F r<=4 ^ (Af b.AM).count AW/\∀d∈r,ng d.AM=ng b.AM/\F (Af d.AM)<=F (Af b.AM)+2*(Af b.AM).count AW/\F d.AN<=F b.AN+(Af b.AM).count AW*w:=by
 intro f
 induction f with
 | zero=>
  grind[DQ]
 | succ f x=>
  intro b r h hf I;rw[DQ] at h;cases e:El b.AM with
  | none=>
   grind
  | some k=>
   rw[e] at h;have⟨o,z⟩:=Dr e;have⟨L,M⟩:=MJ o z;have N:(AW:Int)=1073741824:=rfl;have O:(f+1)*w=f*w+w:=by rw[DM,JT]
   have one:=AD6 u e AA;have H:=Yi.2 (A8 o);have p:∀c∈l,∀s,DQ A7 l f (CA b k c)=Y s->_:=λc A s m=>x (CA b k c) s m AB AB
   have⟨n,hn⟩:∃n,(Af b.AM).count AW=n+1:=⟨(Af b.AM).count AW-1,AA⟩;constructor
   .have j:=ec (K:=4 ^ n) (λc A s m=>by grind) h
    rw[hn,Nr];have:F l*4 ^ n<=4*4 ^ n:=Be _ t
    grind
   .intro d B
    rcases Iz h d B with Q|⟨c,j,s,C,D⟩
    .grind
    .have⟨T,U,X⟩:=(p c j s C).2 d D
     have⟨E,α,β,γ⟩:=one c j;have δ:(Af b.AM).count AW*w=(Af (CA b k c).AM).count AW*w+w:=by rw[<-E,DM,JT]
     omega
def n7 {α β:Type} {g:α->Option (List β)} {N:Nat} (hb:∀n,n<=N->A7 n=ϴ) {K:Nat}:∀{l:List α} {out:List β},(∀a∈l,∃s,g a=Y s/\F s<=K)->F out+F l*K<=N->∃r,Fl A7 g l out=Y r
 | [],out,_,_=>⟨out,rfl⟩
 | a::l,out,h,j=>by
  have⟨s,d,k⟩:=h a AD;have e:F (a::l)*K=F l*K+K:=AB;rw[Fl,d];simp only;rw[hb _ AB];exact n7 hb (λa f=>h a (C4 _ f)) AB
def xj {N:Nat} (hb:∀n,n<=N->A7 n=ϴ) {l:Ϥ} {w:Nat} (j:F l<=4) (m:∀c∈l,F c.AN<=w/\F (Af c.AM)<=3/\∀i∈Af c.AM,0<=i/\i<F c.AN):∀(f:Nat) (b:Br),(Af b.AM).count AW<=f->(F b.AN+f*w:Nat)<AW->4 ^ (Af b.AM).count AW<=N->∃r,DQ A7 l f b=Y r:=by
 intro f
 induction f with
 | zero=>exact λb _ _ _=>⟨_,rfl⟩
 | succ f t=>
  intro b hf z p;rw[DQ];cases o:El b.AM with
  | none=>simp
  | some k=>
   have A:(f+1)*w=f*w+w:=by rw[DM,JT]
   obtain⟨n,hn⟩:∃n,(Af b.AM).count AW=n+1:=by
    have⟨u,_⟩:=Dr o;have:=Yi.2 (A8 u);simp[*]
   rw[hn,Nr] at p
   refine n7 (K:=4 ^ n) hb (λc x=>?_) (by
    have:F l*4 ^ n<=4*4 ^ n:=Be _ j
    grind)
   have⟨B,_,_,C⟩:=AD6 m o AA c x;have e:(Af (CA b k c).AM).count AW=n:=AA;have⟨s,d⟩:=t (CA b k c) AA AA AB;refine⟨s,d,?_⟩;have:=(YI j m f _ s d AA AA).1;rwa [e] at this
def Wn (l:Ϥ):Nat:=(l.map λb=>4 ^ ng b.AM).sum
def Vi:∀l:Ϥ,F l<=Wn l
 | []=>AU _
 | b::l=>by
  have:=Vi l
  grind[Wn]
def AIS (l m:Ϥ):Wn (l++m)=Wn l+Wn m:=by simp[Wn]
def xk {k:Nat}:∀{l:Ϥ},(∀d∈l,ng d.AM=k)->Wn l=F l*4 ^ k
 | [],_=>by simp[Wn]
 | b::l,h=>by
  have f:=xk (l:=l) λd e=>h d (C4 _ e)
  grind[Wn]
structure Gd (w W S C v:Nat) (b:Br):Prop where
 g:LF S b
 s:AP b.AM+ng b.AM*W<=S
 c:F (Af b.AM)+2*ng b.AM<=C
 k:F b.AN+ng b.AM*w+v<=3*w+6
def xl (b:Ty):ng b<=F (Af b):=List.countP_le_length
def Gd.n3 {w W S C v:Nat} {b:Br} (e:C<=9) (h:Gd w W S C v b):ng b.AM<=3/\4 ^ ng b.AM<=64:=by
 have f:=h.c;have j:=xl b.AM;have d:ng b.AM<=3:=AA;refine⟨d,BC (Ki AH d) AH⟩
def Gd.down {w W S C v:Nat} {b:Br} (h:Gd w W S C (v+1) b):Gd w W S C v b:=⟨h.g,h.s,h.c,by have:=h.k; omega⟩
def Few (w W:Nat) (l:Ϥ):Prop:=F l<=4/\∀c∈l,LF W c/\F c.AN<=w/\F (Af c.AM)<=3/\∀i∈Af c.AM,0<=i/\i<F c.AN
def Vj {n:Nat} (hn:(n:Int)<AW) {ga gb:Int->Int} (d:ga (-1)=n) (e:∀i,i < -1->ga i=i+1) (f:∀i,0<=i->ga i=i) (k:gb n=AW) (l:∀i,i≠(n:Int)->gb i=i):∀L:Ϛ,(∀i∈L,i<n) ->
  ((L.map ga).map gb).countP (λi=>decide (i<0))+((L.map ga).map gb).count AW=L.countP (λi=>decide (i<0))/\(L.map ga).countP (λi=>decide (i<0))<=L.countP (λi=>decide (i<0))
 | [],_=>⟨rfl,AU _⟩
 | i::L,h=>by
  have⟨o,p⟩:=Vj hn d e f k l L λj m=>h j (C4 _ m)
  have r:=h i AD
  grind
def Vk {N:Nat} (hb:∀n,n<=N->A7 n=ϴ) {l:Ϥ} {w W S C v:Nat} (γ:C<=9) (j:Few w W l) (hw:((12*w+20:Nat):Int)<AW) {b:Br} (h:Gd w W S C (v+1) b) (U:4 ^ ng b.AM<=N) (I:Ty):∃r,Dn A7 (Y l) I b=Y r/\Wn r<=4 ^ ng b.AM/\∀d∈r,Gd w W S C v d:=by
 obtain⟨L,j⟩:=j;have K:∀c∈l,F c.AN<=w/\F (Af c.AM)<=3/\∀i∈Af c.AM,0<=i/\i<F c.AN:=λc m=>(j c m).2
 have⟨n3,_⟩:=h.n3 γ;have m:=h.c;have π:=h.k;have ρ:=h.s;have ξ:ng b.AM*w<=3*w:=Be _ n3;have hn:((F b.AN:Nat):Int)<AW:=AA
 have X:∀i∈Af b.AM,i<(F b.AN:Int):=λi p=>by
  have ς:=Zm.1 (QL _ h.g.ok i p);have δ:=Kc.1 h.g.nh
  grind
 have σ:(AW:Int)=1073741824:=rfl;have⟨z,A⟩:=Vj (ga:=λi=>bif i==-1 then(F b.AN:Int) else bif decide (i<0) then i+1 else i) (gb:=λi=>bif i==(F b.AN:Int) then AW else i) hn AD (λi p=>by grind) (λi p=>by grind) AD (λi p=>by grind) (Af b.AM) X;have⟨ε,τ,ζ⟩:=AAI h.g hn;have⟨B,η⟩:=AAJ ε hn;have t:Af (Gm (F b.AN) b.AM)=(Af b.AM).map λi=>bif i==-1 then(F b.AN:Int) else bif decide (i<0) then i+1 else i:=by rw[KB,Dp]
 have D:Af (Ht (F b.AN) AW (Gm (F b.AN) b.AM))=((Af b.AM).map λi=>bif i==-1 then(F b.AN:Int) else bif decide (i<0) then i+1 else i).map λi=>bif i==(F b.AN:Int) then AW else i:=by rw[JF,Dp,t]
 have υ:F (Af (Gm (F b.AN) b.AM))=F (Af b.AM):=by rw[t,Bj]
 have θ:F (Af (Ht (F b.AN) AW (Gm (F b.AN) b.AM)))=F (Af b.AM):=by rw[D,Bj,Bj]
 rw[<-t] at A;rw[<-D] at z;have M:ng (Gm (F b.AN) b.AM)<=ng b.AM:=A;have u:ng (Ht (F b.AN) AW (Gm (F b.AN) b.AM))+(Af (Ht (F b.AN) AW (Gm (F b.AN) b.AM))).count AW=ng b.AM:=z;clear z A t D;unfold Dn;cases φ:oI (·==(F b.AN:Int)) (Gm (F b.AN) b.AM) with
 | true=>
  have χ:ng (Gm (F b.AN) b.AM)*w<=ng b.AM*w:=Be _ M;have ψ:ng (Gm (F b.AN) b.AM)*W<=ng b.AM*W:=Be _ M;refine⟨_,rfl,?_,λd f=>?_⟩
  .simp_all[Ki,Wn]
  .rw[DW.1 f]
   have ω:F (b.AN++[I])=F b.AN+1:=AD;exact⟨⟨AB,AB,ζ⟩,AB,AB,AB⟩
 | false=>
  simp only[AL];generalize Ht (F b.AN) AW (Gm (F b.AN) b.AM)=e at B η θ u;cases α:El e with
  | none=>
   have ι:(Af e).count AW=0:=by
    rw[Kc];intro hm;have δ:(Af e).findIdx? (·==AW)=none:=α
    grind
   have κ:ng e=ng b.AM:=AA;refine⟨_,rfl,by simp[Wn,κ],λd f=>?_⟩;rw[DW.1 f];exact⟨⟨B,AB,ι⟩,AB,AB,AB⟩
  | some k=>
   simp only;have o:(Af e).count AW<=F (Af b.AM):=AB;have ο:F (Af b.AM)*w<=9*w:=Be _ AA;have x:((F b.AN+F (Af b.AM)*w:Nat):Int)<AW:=AA;have β:4 ^ (Af e).count AW<=N:=BC (Ki AH AA) U;have⟨r,E⟩:=xj hb L K (F (Af b.AM)) ⟨b.AN,e⟩ o x β;have⟨O,H⟩:=YI L K _ _ r E o x;simp only at O H;have μ:(Af e).count AW*w<=F (Af b.AM)*w:=Be _ o;have ν:=Zo (A7:=A7) (W:=W) (w:=w) (S:=AP e+(Af e).count AW*W) (T:=F b.AN+F (Af b.AM)*w) (λc m=>⟨(j c m).1,(j c m).2.1⟩) x _ ⟨b.AN,e⟩ r B o (AU _) (S1 μ _) E;have Γ:ng b.AM*w=ng e*w+(Af e).count AW*w:=by rw[<-u,DM]
   have Δ:ng b.AM*W=ng e*W+(Af e).count AW*W:=by rw[<-u,DM]
   refine⟨r,E,?_,λd f=>?_⟩
   .rw[xk λd f=>(H d f).1,<-u,Nat.pow_add,Yl (4 ^ ng e)]
    exact Be _ O
   .have⟨q1,Θ,Λ⟩:=H d f
    have Q:=ν d f;have Ξ:=Q.Gw;exact⟨Q.le AA,AB,AA,AB⟩
def Vl (hb:∀n,n<=64->A7 n=ϴ) {j:Ϥ} {w W S v:Nat} (k:Few w W j) (hw:((12*w+20:Nat):Int)<AW) (f:Ty):∀{l out:Ϥ},(∀b∈l,Gd w W S 9 (v+1) b)->(∀b∈out,Gd w W S 9 v b)->Wn out+Wn l<=64->∃r,Fl A7 (Dn A7 (Y j) f) l out=Y r/\Wn r<=Wn out+Wn l/\∀d∈r,Gd w W S 9 v d
 | [],out,_,m,_=>⟨out,rfl,AA,m⟩
 | b::l,out,h,m,hn=>by
  have⟨r,p,t,u⟩:=Vk hb (AU 9) k hw (h b AD) ((h b AD).n3 (AU 9)).2 f;have e:Wn (b::l)=4 ^ ng b.AM+Wn l:=AX;have x:=AIS out r;have s:=Vi (out++r);rw[Fl,p];simp only;rw[hb _ AA];have⟨z,k1,k2,k3⟩:=Vl hb k hw f (l:=l) (out:=out++r) (λd o=>h d (C4 _ o)) (λd o=>by grind) AA
  grind
end
section
variable {A7:Nat->Bool}
def CD.and {α β:Type} {P:α->Prop} {R:α->β->Prop}:∀{l:List α} {m:List β},(∀a∈l,P a)->CD R l m->CD (λa b=>P a/\R a b) l m
 | [],[],_,_=>trivial
 | a::_,_::_,h,d=>⟨⟨h a AD,d.1⟩,d.2.and λa e=>h a (C4 _ e)⟩
 | [],_::_,_,h=>h.elim
 | _::_,[],_,h=>h.elim
def CD.right {α β:Type} {R:α->β->Prop}:∀{l:List α} {m:List β},CD R l m->∀b∈m,∃a∈l,R a b
 | a::_,_::_,h,b,hb=>by
  rcases BF.1 hb with rfl|hb
  .exact⟨a,AD,h.1⟩
  .have⟨d,e,f⟩:=CD.right h.2 b hb
   grind
 | _,[],_,_,hb=>by grind
 | [],_::_,h,_,_=>h.elim
def n9 {g:Ty->Ϣ->FT} {B:Ϣ}:∀{l out:Ϣ},(∀p∈l,g p B=(Y [p],B))->(∀n,n<=F out+F l->A7 n=ϴ)->Ce A7 g l out B=(Y (out++l),B)
 | [],out,_,_=>by simp[Ce]
 | p::l,out,h,hb=>by
  rw[Ce,h p AD];simp only;rw[hb _ AD];have:=n9 (g:=g) (B:=B) (l:=l) (out:=out++[p]) (λq d=>h q (C4 _ d)) (λn hn=>hb n AB)
  grind
def Rg {g:Ty->Ϣ->FT} {a:Nat}:∀{l out B:Ϣ},(∀p∈l,∀B,F (g p B).2<=F B+a)->F (Ce A7 g l out B).2<=F B+F l*a
 | [],out,B,_=>by simp[Ce]
 | p::l,out,B,h=>by
  have d:=h p AD B;have e:F (p::l)*a=F l*a+a:=AB;rw[Ce];rcases f:g p B with ⟨_|r,j⟩
  .grind
  .rw[f] at d
   simp only at d ⊢;cases A7 (F (out++r)) with
   | true=>grind
   | false=>
    have:=Rg (g:=g) (a:=a) (l:=l) (out:=out++r) (B:=j) λp k=>h p (C4 _ k)
    grind
def Vm {ex:Ϣ->FT} {v a:Nat} (d:∀B,F (ex B).2<=F B+a) (j:∀B r,(ex B).1=Y r->F r<=4):∀(f:Nat) (t:Ty) (B:Ϣ),F (CT A7 ex v f t B).2<=F B+(4 ^ f-1)*a
 | 0,t,B=>by simp[CT]
 | f+1,t,B=>by
  have k:=d B;have m:=j B;have s:1<=4 ^ f:=Nat.one_le_pow _ _ AH;have e:(4 ^ (f+1)-1)*a=(3+4*(4 ^ f-1))*a:=AB;have u:(3+4*(4 ^ f-1))*a=3*a+4*((4 ^ f-1)*a):=by rw[DM,Nat.mul_assoc]
  rw[CT];cases DZ v ϴ t with
  | false=>simp
  | true=>
   simp only[AQ];rcases o:ex B with ⟨_|cs,p⟩
   .grind
   .rw[o] at k m
    simp only at k ⊢;have x:=Rg (A7:=A7) (g:=λc B=>CT A7 ex v f (JM (·==(v:Int)) c t 0) B) (a:=(4 ^ f-1)*a) (l:=cs) (out:=[]) (B:=p) λc _ B=>Vm d j f _ B
    have z:F cs*((4 ^ f-1)*a)<=4*((4 ^ f-1)*a):=Be _ (m cs rfl);omega
def Hg (V:Nat->Bool):Nat->Ϟ
 | 0=>[]
 | v+1=>bif V v then v::Hg V v else Hg V v
def PI {V:Nat->Bool}:∀{v:Nat},∀x∈Hg V v,x<v/\V x=Z
 | 0,x,h=>by cases h
 | v+1,x,h=>by
  rw[Hg] at h;cases hv:V v with
  | true=>
   rw[hv] at h;rcases BF.1 h with rfl|h
   .grind
   .have:=PI x h
    grind
  | false=>
   rw[hv] at h;have:=PI x h
   grind
def Rh {V:Nat->Bool}:∀v:Nat,(Hg V v).Nodup
 | 0=>EI
 | v+1=>by
  rw[Hg];cases V v with
  | true=>exact Yg.2 ⟨λh=>absurd (PI v h).1 AA,Rh v⟩
  | false=>exact Rh v
inductive oC (A7:Nat->Bool) (LA:Nat->Ϥ) (ex:Nat->Ϣ->FT) (Bf:Nat->Ty) (V:Nat->Bool) (w W S:Nat):Nat->Ϥ->Ϣ->Ϣ->Ϥ->Ϣ->Ϣ->Prop
 | nil {l ps B}:oC A7 LA ex Bf V w W S 0 l ps B l ps B
 | step {v l ps B l1 ps1 B1 l' ps' B'}:(∀b∈l,Gd w W S 9 (v+1) b)->F l<=64->F ps<=64->(∀p∈ps,Bi (·==(v:Int)) p<=3)->(V v=Z->Fl A7 (Dn A7 (Y (LA v)) (Bf v)) l []=Y l1)->(V v=ϴ->l1=l)->Ce A7 (Bw A7 (ex v) v) ps [] B=(Y ps1,B1)->oC A7 LA ex Bf V w W S v l1 ps1 B1 l' ps' B'->oC A7 LA ex Bf V w W S (v+1) l ps B l' ps' B'
def j6 (hb:∀n,n<=64->A7 n=ϴ) {LA:Nat->Ϥ} {ex:Nat->Ϣ->FT} {Bf:Nat->Ty} {V:Nat->Bool} {w W S a n:Nat} (hw:((12*w+20:Nat):Int)<AW)
  (z:∀v,v<n->∀B,La (λd c q=>∃ψ,Rl ϴ 0 d (F B) (F d) [] c q ψ) B (Y (LA v)) (ex v B)) (E:∀v,v<n->Few w W (LA v)) (L:∀v,v<n->∀B,F (ex v B).2<=F B+a) :
  ∀(v:Nat) (l:Ϥ) (ps B:Ϣ),v<=n->(∀x,x<v->B[x]?=Y (Bf x))->Wn l<=64->(∀b∈l,Gd w W S 9 v b)->CD (λb p=>∃φ,Rl ϴ 0 B v (F B) (Hg V v) b p φ) l ps ->
  ∃j s d,oC A7 LA ex Bf V w W S v l ps B j s d/\B<+:d/\F d<=F B+v*(64*(64*a))/\F j<=64/\(∀b∈j,Gd w W S 9 0 b)/\CD (λb p=>∃φ,Rl ϴ 0 d 0 (F d) [] b p φ) j s
 | 0,l,ps,B,_,_,hn,m,o=>⟨l,ps,B,.nil,C5 _,AA,BC (Vi l) hn,m,o⟩
 | v+1,l,ps,B,hv,M,hn,m,o=>by
  have α:B[v]?=Y (Bf v):=M v AA;have υ:=(BJ.1 α).1;have β:=BC (Vi l) hn;have χ:=o.tP;have I:=E v AA
  have δ:∀B r,(ex v B).1=Y r->F r<=4:=λB r h=>by
   have C:=z v AA B;rcases ξ:ex v B with ⟨_|r',d⟩
   .grind
   .rw[ξ] at h C
    cases h;have:=C.2.tP;have:=I.1;omega
  have u:∀p∈ps,Bi (·==(v:Int)) p<=3/\(V v=ϴ->Bi (·==(v:Int)) p=0):=by
   intro p f;have⟨b,κ,φ,H⟩:=o.right p f;have Θ:(AW:Int)=1073741824:=rfl;have ω:=H.small;have e:Bi (·==(v:Int)) p=(Af b.AM).countP λi=>(Mo φ (Hg V (v+1)) 0 i:Int)==(v:Int):=by rw[H.eq,NF _ _ _ H.bd]
   have Γ:∀i∈Af b.AM,0<=i->Mo φ (Hg V (v+1)) 0 i≠v:=λi t Λ=>by
    rcases H.vis i (G2 _ i t) with h|h|h
    .have⟨x,hx,hm,e3⟩:=Ij (σ:=Hg V (v+1)) (v:=0) h.1 h.2 AA
     have:=H.LM x hm;omega
    all_goals grind
   refine⟨?_,λε=>?_⟩
   .rw[e]
    refine BC (kV λi t h=>?_) ((m b κ).n3 (AU 9)).1
    grind
   .rw[e,List.countP_eq_zero]
    intro i t h
    have N:v∉Hg V (v+1):=λh=>by
     have:=(PI v h).2
     grind
    rcases H.vis i (G2 _ i t) with h' | h' | h'
    .grind
    .exact H.jG (.inl (Su v)) N (G2 _ i t) AA AB
    grind
  have ι:∀p∈ps,∀B,F (Bw A7 (ex v) v p B).2<=F B+64*a:=λp f B=>by
   unfold Bw;cases DZ v Z p with
   | true=>simp
   | false=>
    simp only[AL];have C:=Vm (A7:=A7) (v:=v) (L v AA) δ (Bi (·==(v:Int)) p) p B
    have ο:(4 ^ Bi (·==(v:Int)) p-1)*a<=64*a:=Be _ (by
     have:4 ^ Bi (·==(v:Int)) p<=4 ^ 3:=Ki AH (u p f).1;omega)
    omega
  have γ:=Rg (A7:=A7) (g:=Bw A7 (ex v) v) (a:=64*a) (l:=ps) (out:=[]) (B:=B) ι;have Δ:F ps*(64*a)<=64*(64*a):=Be _ AA;have em:(v+1)*(64*(64*a))=v*(64*(64*a))+64*(64*a):=by rw[DM,JT]
  cases ε:V v with
  | true=>
   have O:Hg V (v+1)=v::Hg V v:=by grind[Hg]
   rw[O] at o;have⟨ζ,k1,k2,k3⟩:=Vl hb I hw (Bf v) (l:=l) (out:=[]) m AD (by grind[Wn]);have N:v∉Hg V v:=λh=>absurd (PI v h).1 AA
   have step:=ZT (A7:=A7) (Q:=λd b p=>∃φ,Rl ϴ 0 d v (F d) (Hg V v) b p φ) (λA Ξ c q hA ⟨φ,h⟩=>⟨φ,h.mono hA (AU _) (AU _) (Fe hA)⟩)
    (S:=λc q=>Gd w W S 9 (v+1) c/\∃ψ,Rl ϴ 0 B (v+1) (F B) (v::Hg V v) c q ψ) (g:=Dn A7 (Y (LA v)) (Bf v)) (g':=Bw A7 (ex v) v) (B0:=B) (by
     rintro c q A hA ⟨D,φ,η⟩;have μ:=η.mono hA (AU _) (AU _) (Fe hA);refine lX N (z v AA) (w:=w) (λr π c D=>by cases π; exact(I.2 c D).2.1) μ (Ih hA α) ?_;have C:=D.k;have ο:=D.c;have Φ:F (Af c.AM)*w<=9*w:=Be _ AA;have δ:=η.len;omega) l ps [] [] B (C5 _) (o.and m) Ay
   rw[k1] at step;rcases K:Ce A7 (Bw A7 (ex v) v) ps [] B with ⟨_|ps1,ρ⟩
   .rw[K] at step
    exact step.elim
   .rw[K] at step γ
    obtain⟨θ,ς⟩:=step;simp only at γ;have ν:Wn ζ<=64:=by grind[Wn]
    have⟨j,s,d,T,U,τ,X⟩:=j6 hb hw z E L v ζ ps1 ρ AA (λx hx=>Ih θ (M x AA)) ν k3 ς;refine⟨j,s,d,.step m β AA (λp f=>(u p f).1) (λ_=>k1) (λh=>by grind) K T,θ.trans U,AA,X⟩
  | false=>
   have O:Hg V (v+1)=Hg V v:=by grind[Hg]
   rw[O] at o
   have hid:Ce A7 (Bw A7 (ex v) v) ps [] B=(Y ([]++ps),B):=n9 (λp f=>by
    unfold Bw;rw[(u p f).2 ε];cases DZ v Z p <;> rfl) (λn hn=>hb n AB)
   rw[Ct] at hid;have⟨j,s,d,T,U,τ,X⟩:=j6 hb hw z E L v l ps B AA (λx hx=>M x AA) hn (λb hb=>(m b hb).down) (o.mono λb p ⟨φ,H⟩=>⟨φ,H.mono (C5 _) (AU _) AA (AU _)⟩);exact⟨j,s,d,.step m β AA (λp f=>(u p f).1) (λh=>by grind) (λ_=>rfl) hid T,U,AA,X⟩
end
def xm {A7:Nat->Bool} {f:Nat} {t:Ty} (hv:A2 t=Z) (h:q0 t=Z):∃l,DR A7 (f+1) t=Y l/\F l<=1:=by
 obtain⟨k,n,i,ts⟩:=t;simp only[A2,AK] at hv;rw[q0] at h;rw[DR];rcases JN hv.1 with ⟨rfl,rfl,rfl,rfl⟩|⟨rfl,rfl,rfl,rfl⟩|rfl|⟨rfl,rfl,rfl⟩|⟨rfl,rfl,rfl,e⟩|⟨rfl,rfl,rfl,m⟩|⟨rfl,rfl,rfl,b,d,rfl,j⟩
 all_goals grind
def Vn {α β:Type} {g:α->Option (List β)}:∀{ts:List α},(∀t∈ts,∃l,g t=Y l/\F l<=1)->∃ls,FH (ts.map g)=Y ls/\F ls=F ts/\∀l∈ls,F l<=1
 | [],_=>⟨[],rfl,rfl,λ_ h=>by cases h⟩
 | t::ts,h=>by
  have⟨l,e,f⟩:=h t AD;have⟨ls,k1,k2,k3⟩:=Vn (ts:=ts) λt d=>h t (C4 _ d)
  grind[FH]
def oE {A7:Nat->Bool} (hb:∀n,n<=1->A7 n=ϴ):∀{ls:List Ϥ} {out:Ϥ},(∀l∈ls,F l<=1)->F out<=1->∃r,H7 A7 ls out=Y r/\F r<=1
 | [],out,_,d=>⟨out,rfl,d⟩
 | l::ls,out,h,d=>by
  have e:F (GU out l)<=1:=by
   rw[pL];exact L3 d (h l AD)
  rw[H7,hb _ e];exact oE hb (λl f=>h l (C4 _ f)) e
def ee {α:Type}:∀{ls:List (List α)},(∀l∈ls,F l<=1)->F ls.flatten<=F ls
 | [],_=>AU _
 | l::ls,h=>by
  have e:=h l AD;have f:=ee (ls:=ls) λl d=>h l (C4 _ d)
  grind
def ei {t:Ty} (d:q0 t=Z) (hs:AP t<=200):cv t<=1/\bw t=0/\wt t<=200:=by
 obtain⟨k,n,i,ts⟩:=t
 grind[AP,q0,cv,bw,wt]
def ej {t:Ty} (d:q1 t=Z) (hs:AP t<=200) (f:Al t<=12):(VN 12).Of t/\bw t<=8191/\wt t<=2801/\nb t<=13:=by
 have e:VN 12=⟨14,8191,2801,13,3⟩:=AX;have h:=ju 12 t f d hs;rw[e] at h;exact⟨AB,h.b,h.w,h.n⟩
def eo {A7:Nat->Bool} (e:A7 0=ϴ) (j:A7 1=ϴ) {f:Nat} {t:Ty} (hv:A2 t=Z) (hc:CJ 0 t=Z) (hs:CG (bw t)) {l:Ϥ} (k:DR A7 f t=Y l):∀c∈l,∀i∈Af c.AM,0<=i/\i<F c.AN:=by
 have h:=MM (A7:=A7) e j f t [] hv hc EI hs [] (λx hx=>by grind);rw[k] at h;rcases d:BI A7 f (inst [] 0 t) [] with ⟨_|ps,B⟩
 .rw[d] at h
  exact h.elim
 .rw[d] at h
  have all:∀{l:Ϥ} {ps:Ϣ},CD (λb p=>∃φ,Rl ϴ 0 B 0 (F B) [] b p φ) l ps->∀c∈l,∀i∈Af c.AM,0<=i/\i<F c.AN:=by
   intro l
   induction l with
   | nil=>simp
   | cons a l m=>intro ps h c hc; cases ps with
    | nil=>exact h.elim
    | cons p ps=>
     rcases BF.1 hc with rfl|hc
     .have⟨φ,H⟩:=h.1
      intro i o;have r:=H.len;rcases H.vis i (G2 _ i o) with h|h|h
      all_goals grind
     .exact m h.2 c hc
  exact all h.2
def AIT:∀(m f:Nat) (t:Ty),Al t<=m->m<=f->Al t<=12->A2 t=Z->CJ 0 t=Z->q1 t=Z->AP t<=200->∃l,DR (Aa 32) f t=Y l/\F l<=4/\∀c∈l,F (Af c.AM)<=3:=by
 have z:∀n,n<=32->Aa 32 n=false:=λn h=>by grind
 intro m
 induction m with
 | zero=>
  intro f t s;obtain⟨k,n,i,ts⟩:=t
  grind[Al]
 | succ m ι=>
  intro f t L hf s hv o e D;have υ:=hv;have φ:=D;obtain⟨k,n,i,ts⟩:=t;obtain⟨f,rfl⟩:∃j,f=j+1:=⟨f-1,AA⟩;rw[Al] at L s;rw[AP] at D;simp only[A2,AK] at hv;have M:∀l,DR (Aa 32) (f+1) (.mk k n i ts)=Y l->∀c∈l,F (Af c.AM)<=cv (.mk k n i ts):=λl E c o=>(Cq (f+1) _ l E c o).2
  have O:(∀t∈ts,q0 t=Z)->∀t∈ts,∃l,DR (Aa 32) f t=Y l/\F l<=1:=λh t p=>by
   have:=Et p
   obtain⟨f,rfl⟩:∃j,f=j+1:=⟨f-1,by
    obtain⟨k,n,i,ts⟩:=t
    grind[Al]⟩
   exact xm (CB hv.2 p) (h t p)
  have K:(∀t∈ts,q0 t=Z)->F ts<=3->(MK ts).sum<=3:=λh E=>by
   have:=LH (f:=cv) (m:=1) E λt p=>(ei (h t p) (by have:=FG p; omega)).1
   grind[O5]
  rw[q1] at e;rw[DR] at M ⊢;rcases JN hv.1 with ⟨rfl,rfl,rfl,rfl⟩|⟨rfl,rfl,rfl,rfl⟩|rfl|⟨rfl,rfl,rfl⟩|⟨rfl,rfl,rfl,χ⟩|⟨rfl,rfl,rfl,Δ⟩|⟨rfl,rfl,rfl,b,A,rfl,Q⟩
  .grind[cv]
  .simp
  .grind[cv]
  .simp only[CS,D6,AQ,AK,Cu,Cl] at e
   have⟨X,α,κ,H⟩:=Vn (O e.2);simp only[show((3:Int)==0)=ϴ from rfl,show((3:Int)==2||(3:Int)==5)=ϴ from rfl,CS,AQ,AL,α] at M ⊢;have ζ:cv (.mk 3 [] 0 ts)<=3:=K e.2 e.1;cases Θ:X.any List.isEmpty with
   | true=>simp
   | false=>
    have⟨r,β,γ⟩:=oE (A7:=Aa 32) (λn h=>z n AA) (out:=[⟨[],.mk 3 [] 0 []⟩]) H AD
    grind
  .simp only[CS,Dx,AQ,AK,Cu,Cl] at e
   have⟨X,α,κ,H⟩:=Vn (O e.2);have ζ:cv (.mk 4 [] 0 ts)<=3:=K e.2 e.1;have ψ:=ee H
   grind
  .have:=Iy o
   omega
  .simp only[show((6:Int)==3||(6:Int)==4)=ϴ from rfl,AL,CS,AQ,q1X,FX,AK] at e
   simp only[BO,AK] at hv;simp only[Cp] at L s;simp only[Ak] at D;obtain⟨_,B,T,_⟩:=hv;have⟨I,x,μ,ν⟩:=ι f b AA AA AA B Q e.1 AA;have⟨_,ξ,ο,_⟩:=ej e.1 AA AA;have⟨Λ,π,Ξ⟩:=ei e.2.1 AA;have U:CG (bw b):=by show(bw b:Int)<1073741824; omega
   have θ:CG (bw A):=by rw[π]; show((0:Nat):Int)<1073741824; decide
   obtain⟨ρ,rfl⟩:∃j,f=j+1:=⟨f-1,by
    have:0<Al b:=by
     obtain⟨k,n,i,ts⟩:=b
     grind[Al]
    omega⟩
   have η:Few 8191 2801 I:=⟨μ,λc o=>⟨(Ln _ b I B U x c o).le ο,BC (Cq _ b I x c o).1 ξ,ν c o,eo rfl rfl B Q U x c o⟩⟩;have⟨ς,u,δ⟩:=xm (A7:=Aa 32) (f:=ρ) T e.2.1;simp only[show((6:Int)==0)=ϴ from rfl,show((6:Int)==2||(6:Int)==5)=ϴ from rfl,show((6:Int)==3)=ϴ from rfl,show((6:Int)==4)=ϴ from rfl,CS,AQ,AL,ah,u,x]
   match ς,u,δ with
   | [],_,_=>exact⟨[],rfl,AD,λc o=>by grind⟩
   | [c],u,_=>
    have ε:=Ln _ A [c] T θ u c AD;have Φ:=Cq _ A [c] u c AD;have ω:=xl c.AM;have Γ:=ε.Gw;have Ψ:ng c.AM*2801<=1*2801:=Be _ AA;have Ω:ng c.AM*8191<=1*8191:=Be _ AA;have⟨r,β,γ,σ⟩:=Vk (N:=32) z (C:=3) (S:=3001) (v:=0) AH η AH (b:=c) ⟨ε.le AA,AA,AA,AA⟩ (BC (Ki AH (show ng c.AM<=1 by omega)) AH) b;have τ:F r<=4:=BC (Vi r) (BC γ (BC (Ki AH (show ng c.AM<=1 by omega)) AH));rw[Fl,β];simp only[Ct,z (F r) AA,AL];exact⟨r,rfl,τ,λd s=>by have:=(σ d s).c; omega⟩
   | _::_::_,_,δ=>grind
section
variable {R:RT}
def APn {p:Nat} {n:Nat} (hn:n<2 ^ 40):RnF R 68 p [(p,[AG n])] (gB n):=by
 intro i y s E H z A B;have r:s.bs[p]?=Y [AG n]:=B (p,[AG n]) AD;have I:=(BJ.1 r).1;obtain⟨a,rfl,j⟩:=z;have⟨e,t⟩:∃e,e=bif decide (i<n) then(n:Int)-1-i else i:=⟨_,rfl⟩
 refine⟨.agg [AG 5,SS [],AG e,a],⟨a,by rw[t],j⟩,λL D=>?_⟩
 obtain⟨v,k,⟨rfl,rfl⟩,K⟩:=m68 (R:=R) (L:=L) (s:=s) (t0:=.agg [AG 5,SS [],AG i,a]) (t1:=.ptr p 0) (Post:=λv k=>v=.agg [AG 5,SS [],AG e,a]/\k=s) (by simp[Da,F9]) (APo (by
  refine Bs (cs:=[AG 5,SS [],AG i,a]) rfl (by simp[j.ok]) (Bh ?_);have C:F (s.bs++[[AG 5,SS [],AG i,a]])=F s.bs+1:=AD;simp only[C];have d:(s.bs++[[AG 5,SS [],AG i,a]]++[Z4])[F s.bs]?=Y [AG 5,SS [],AG i,a]:=Am (A0 _ _) _;have l:(s.bs++[[AG 5,SS [],AG i,a]]++[Z4])[F s.bs+1]?=Y Z4:=AB;have gq:=Am (Am r [AG 5,SS [],AG i,a]) Z4;have m:(s.bs++[[AG 5,SS [],AG i,a]]++[Z4]).take (F s.bs)=s.bs:=AD;have u:F (s.bs++[[AG 5,SS [],AG i,a]]++[Z4])=F s.bs+2:=AD;generalize s.bs++[[AG 5,SS [],AG i,a]]++[Z4]=f at d l gq m u
  have tail:∀(o:Int) (f:Ϩ),f[F s.bs]?=Y [AG 5,SS [],AG o,a]->f[F s.bs+1]?=Y Z4->f.take (F s.bs)=s.bs->o=e ->
    AD7 R 0 L.ro L.rt (.ptr (F s.bs) 0) (.ptr (F s.bs+1) 0) ⟨f,s.ts⟩ (QM (L.rr 68) (F s.bs) λv k=>v=.agg [AG 5,SS [],AG e,a]/\k=s):=by
   rintro o f d l m rfl;refine APp (Ag d rfl (Bn l rfl rfl AH (by show L.ro<=_; omega) (by simp[j.ok]) (.inl (AO _)) (Ag (BT l) rfl ?_)));exact Un A ((Cf AA).trans m) (by simp[j.close]) ⟨rfl,rfl⟩
  refine AR (Ab d) (Ad d rfl (Fq ?_));rw[Ax AA];refine Aw (AR (Ab d) (Aw (Ad d rfl (Aw (Ad gq rfl (Aw (Ao (pk ?_))))))))
  by_cases x:i<n
  .rw[Ax x]
   refine BH (Ad gq rfl (FL AA AA (AR (Ab d) (Ad d rfl (FL AA AA (AR (Ab d) (C1 d AD rfl (by simp[*]) rfl (.inl (AO _)) ?_)))))))
   simp_all[Cf]
  grind[A4]))
 omega
def rfa:Code->Code
 | .rangeFunc _ _ a _=>a
 | c=>c
def rfb:Code->Code
 | .rangeFunc _ _ _ b=>b
 | c=>c
set_option maxRecDepth 50000 in
def xo {n0 ro rt:Nat} {t2 t4 m v j:AV} {s:AY} {M:Out->AY->Prop} (h :
 Hr s [(AG 0),(SS []),(AG 0),(.AE [])] λk x=>
 Hw (Co (env R) 29 n0 ro rt) x 4 k v λd=>Out.norm=Out.norm /\
 EX (env R) d (Y 4) k λp=>
 G4 (env R) (Co (env R) 29 n0 ro rt) (.func (.func 70) [] []) [p] d λr e=>
 EX (env R) e (Y 4) t4 λf=>
 HJ ϴ e 4 [(AG 0),(SS []),(AG 0),(.AE [])] 2 [(0,4,r),(4,4,f)] λt C=>
 E3 [(AG 0),(SS []),(AG 0),(.AE [])] [(0,1,(AG 6)),(3,1,t)] λu=>
 Hw (Co (env R) 29 n0 ro rt) e 4 t4 u λz=>
(EX (env R) d (Y 4) t4 λA=>Tel.D9 A f=Z) /\
 M .norm z):wpo (env R) (Co (env R) 29 n0 ro rt) 25 (rfa (Tel.sub yz [1,1,1,0,1,0])) ((18,v)::(17,j)::[(2,t2),(4,t4),(16,m)]) s λo l s=>
  o=.norm/\wpo (env R) (Co (env R) 29 n0 ro rt) 25 (rfb (Tel.sub yz [1,1,1,0,1,0])) l s λo _ B=>M o B:=mpK h Ac
end
section
variable {R:RT}
def AIU (t:Ty):az (env R).P 25 (Av t)=Y (.agg ((Av t).map .pv)):=by
 obtain⟨k,n,i,ts⟩:=t
 kernel_rfl
def AIV:(Dy (env R).P 25).isSome=true:=Ac
def APr:JZ (rfa (Tel.sub yz [1,1,1,0,1,0]))=true:=AX
def APs:JZ (rfb (Tel.sub yz [1,1,1,0,1,0]))=true:=AX
def AIW:Tel.sub yz [1,1,1,0,1,0]=.rangeFunc (.tmp 16) #[17,18] (rfa (Tel.sub yz [1,1,1,0,1,0])) (rfb (Tel.sub yz [1,1,1,0,1,0])):=AX
def AXN {n0 ro rt:Nat} {t2 t4 d:AV} {s:AY} {QR:QT} (h:AD8 R n0 ro rt t2 t4 d s QR):Wf (env R) 29 Tryz.f29 n0 ro rt 122 [(2,t2),(4,t4),(16,d)] s QR:=mpK h AX
theorem ep {l:Ϣ} {j:Nat} {b t:Ty} (h:l[j]?=Y b):Tt (l.drop j) t=.mk 6 [] 0 [b,Tt (l.drop (j+1)) t]:=by
 rw[drop_cons h,Tt]
set_option maxRecDepth 20000 in
def Sc {b:Br} (α:AP b.AM<2 ^ 38) (hv:A2 b.AM=Z) (σ:F b.AN<2 ^ 38) (hb:∀t∈b.AN,AP t<2 ^ 38/\N4 t=Z) {x:AV} (hx:HM b x):Ah (env R) 29 [x] λr=>BD (VX b) r:=by
 obtain⟨a,y,rfl,l,K⟩:=hx;have β:=K;have⟨ζ,η,θ,ι⟩:=K.cells;refine e29 (u0:=.agg (a::y)) (by simp[l.close,ι]) (APt ?_);have γ:(a::y).all BS=true:=by simp[l.ok,η]
 have U:BG ⟨[a::y,Z4],[]⟩ a=Y (F b.AN):=by rw[l.BG,Ae]
 refine Bs (cs:=a::y) rfl γ (Bh (AR rfl (Ad rfl rfl (Au U (Bh (C1 (cs:=[AG 0]) rfl AD rfl (AO _) rfl (.inl (AO _)) ?_))))))
 have δ:BM ⟨[a::y,Z4,[AG (F b.AN)]],[]⟩:=by
  intro c L;simp only[BF,ER,ES] at L;rcases L with rfl|rfl|rfl
  .exact BV (AO _) _ (by simp[Ap,l.A6,θ])
  all_goals rfl
 have⟨r,M,T⟩:=VY (APn (R:=R) (p:=2) (n:=F b.AN) AA) b.AM α hv ϴ (.agg y) β ⟨[a::y,Z4,[AG (F b.AN)]],[]⟩ δ (λq τ=>by grind);refine AR rfl (TD (a:=a) (cs:=y) rfl ζ ⟨_,_,T _,?_⟩);obtain⟨E,rfl⟩:∃E,r=.agg E:=BX.agg M.Du;have⟨κ,μ,υ,φ⟩:=M.cells;refine Bh (Bn (old:=Z4) rfl κ rfl AH (AO _) μ (.inl (AO _)) (AR rfl (Ad rfl rfl ?_)));refine Cr (m69 (Post:=λr N=>r=.func (.func 106) [] [.ptr 4 0]/\N=⟨[a::y,Z4,[AG (F b.AN)],E,[a]],[]⟩) (APu (Bs (cs:=[a]) l.cells AB ⟨rfl,rfl⟩))) ?_;rintro _ _ ⟨rfl,rfl⟩;refine AXN ?_;unfold AD8;rw[AIW];have ς:F (Aj b.AN)=F b.AN:=Ae _
 refine xp (k:=106) (id:=4) (p:=17) (q:=18) (el:=25) (c:=a) (rest:=[]) (rows:=Aj b.AN) rfl rfl rfl rfl l.rowsOf ?_
  (λj s=>j<=F b.AN/\s.bs[1]?=Y Z4/\∃o,s.bs[3]?=Y o/\BD (Tt (b.AN.drop j) (OB (gB (F b.AN)) ϴ b.AM)) (.agg o)) ?_ ?_ ?_
 .have ε:Nat.ble (F (Aj b.AN)) 1000000000000000000=true:=Yp AA
  simp only[APr,APs,AIV,ε,Hj];rfl
 .grind[Tt]
 .rintro j s f X ⟨χ,u,o,z,m⟩
  have⟨t,D⟩:∃t,b.AN[j]?=Y t:=⟨_,Az AA⟩;have e:=BK D;rw[X] at e;simp only[BU] at e;subst e;have⟨ν,ξ⟩:=hb t (A8 D);refine⟨_,AIU t,xo ?_⟩;have H:=NN (R:=R) (.of ν) ξ (BD.Bo t);have C:F ((Av t).map AV.pv)=4:=by grind[Aq]
  have I:=DG t;generalize (Av t).map AV.pv=f at H C I;obtain⟨A,tk⟩:=s;have ο:=(BJ.1 z).1;simp only at u z ο;have⟨d,O,π,Q⟩:=m.cells;refine Bh (Bn (A0 A Z4) C rfl AH (AO _) I (.inl (AO _)) ⟨rfl,?_⟩);have ρ:(A++[Z4]).set (F A) f=A++[f]:=AD;rw[ρ];have B:=Am z f;refine Ag (A0 A f) C (AI H ?_);intro w hw;refine Ag B d (eG hw.Du m.Du _ _ (FV (cs:=[AG 6,SS [],AG 0,.AE (Aj [t,Tt (b.AN.drop (j+1)) (OB (gB (F b.AN)) ϴ b.AM)])]) rfl (Bn B rfl d AH (AO _) AD (.inl (AO _)) ⟨Ag B d ?_,?_⟩)))
  .exact KL m.Du
  .refine⟨AA,BR (Am u f) (show 3≠1 by decide),_,BT B,?_⟩
   rw[ep D];exact⟨_,rfl,.AE _⟩
 .rintro N ⟨_,u,o,z,m⟩
  have⟨d,O,π,Q⟩:=m.cells;refine APv (APw (Ag z d (Bn u d rfl AH (AO _) O (.inl (AO _)) (Ag (BT u) d ?_))));exact⟨.agg o,by simp[Q],m⟩
end
section
variable {R:RT}
def AIX {n:Nat} (hn:n<2 ^ 37) {Bz:Ty} {Post:AV->Prop} (s:∀r,BD Bz r->Post r) :
  ∀(j q:Nat) (d:Ty) (bs:Ϩ) (y:Ϭ),q+j=n->I1 j q d=Bz->AP d<2 ^ 37->vP wI d=Z->bs[0]?=Y y->bs[1]?=Y Z4->BX d (.agg y) ->
   AD9 R 0 0 0 (AG n) (.ptr 0 0) (.ptr 1 0) (AG q) ⟨bs,[]⟩ (QP Post):=by
 have H:(AW:Int)=1073741824:=rfl;intro j
 induction j with
 | zero=>
  intro q d bs y t e p hv f m k;rw[I1] at e;subst e;have⟨l,u,x⟩:=k.cells;refine AEA (Ao ?_);rw[A5 AA];exact A4 (APx (Ag f l (Eh m rfl k s)))
 | succ j z=>
  intro q d bs y t e p hv f m k;rw[I1] at e;have⟨l,u,x⟩:=k.cells;refine AEA (Ao ?_);rw[Ax AA];refine BH (APy (Ag f l (Bb AA AA ?_)));have A:(1073741825:Int)+(q:Int)=AW+1+q:=AA;rw[A];refine AI (Fh (R:=R) (AW+1+q) q p (RS hv) k) ?_;intro r o;obtain⟨B,rfl⟩:=o.Du.agg;have⟨C,D,I⟩:=o.Du.cells;have hw:wI (q:Int)=true:=by grind[wI]
  have⟨E,K⟩:=SK (n:=AW+1+q) hw hv;refine Bn f C l AH (AO _) D (.inl (AO _)) (APz (Bb AA AA ?_));exact z (q+1) _ _ B AA e AA E (BT f) (BR m AH) o.Du
def AIY {n:Nat} (hn:n<2 ^ 37) {Bz:Ty} {Post:AV->Prop} (s:∀r,BD Bz r->Post r) :
  ∀(j q:Nat) (d:Ty) (bs:Ϩ) (y:Ϭ),q+j=n->I1 n 0 (yx n j q d)=Bz->AP d<2 ^ 37->vP wI d=Z->bs[0]?=Y y->bs[1]?=Y Z4->BX d (.agg y) ->
   AEB R 0 0 0 (AG n) (.ptr 0 0) (.ptr 1 0) (AG q) ⟨bs,[]⟩ (QP Post):=by
 have D:(AW:Int)=1073741824:=rfl;intro j
 induction j with
 | zero=>
  intro q d bs y t e l hv f m k;rw[yx] at e;refine AEC (Ao ?_);rw[A5 AA];exact A4 (AP0 (AIX hn s n 0 d bs y AA e l hv f m k))
 | succ j u=>
  intro q d bs y t e l hv f m k;rw[yx] at e;have⟨p,E,H⟩:=k.cells;refine AEC (Ao ?_);rw[Ax AA];refine BH (AP1 (Ag f p (Bb AA AA (FL AA AA (FL AA AA ?_)))));have x:(1073741825:Int)+(n:Int)-1-(q:Int)=AW+n-q:=AA;rw[x];refine AI (Fh (R:=R) q (AW+n-q) l (RS hv) k) ?_;intro r o;obtain⟨z,rfl⟩:=o.Du.agg;have⟨A,B,I⟩:=o.Du.cells;have hw:wI (AW+(n:Int)-q)=true:=by grind[wI]
  have⟨C,K⟩:=SK (n:=q) hw hv;refine Bn f A p AH (AO _) B (.inl (AO _)) (AP2 (Bb AA AA ?_));exact u (q+1) _ _ z AA e AA C (BT f) (BR m AH) o.Du
def Wc {n:Nat} (hn:n<2 ^ 37) {t:Ty} (hs:AP t<2 ^ 37) (hv:vP wI t=Z) {x:AV} (hx:BD t x):Ah (env R) 74 [x,AG n] λr=>BD (I1 n 0 (yx n n 0 t)) r:=by
 obtain⟨y,rfl⟩:=hx.Du.agg;have⟨f,d,j,e⟩:=hx.cells;exact e74 (u0:=.agg y) (u1:=AG n) (by simp[e]) (AP3 (Bs (cs:=y) rfl d (Bh (AIY hn (λr h=>h) n 0 t [y,Z4] y AA rfl hs hv rfl rfl hx.Du))))
def Ri {b:Br} (hs:AP b.AM<2 ^ 37) (hv:vP wI b.AM=Z) (C:F b.AN<2 ^ 37) {x:AV} (hx:HM b x):Ah (env R) 31 [x] λr=>BD (btR b) r:=by
 obtain⟨a,y,rfl,k,u⟩:=hx;have⟨D,E,X,H⟩:=u.cells;refine e31 (u0:=.agg (a::y)) (by simp[k.close,H]) (AP4 ?_);have B:(a::y).all BS=true:=by simp[k.ok,E]
 have p:∀s,BG s a=Y (F b.AN):=λs=>by rw[k.BG,Ae]
 refine Bs (cs:=a::y) rfl B (Bh (AR rfl (KM (a:=a) (cs:=y) rfl D (AR rfl (Ad rfl rfl (Au (p _) (AI (Wc C hs hv u) ?_)))))));intro r d;obtain⟨I,rfl⟩:=d.Du.agg;have⟨K,L,α⟩:=d.Du.cells;refine Bh (Bn (old:=Z4) rfl K rfl AH (AO _) L (.inl (AO _)) (AR rfl (Ad rfl rfl (Au (p _) (FL AA AA ?_)))))
 have loop:∀(j:Nat) (e:Ϩ) (z:Ϭ),j<=F b.AN->e[0]?=Y (a::y)->e[1]?=Y Z4->e[2]?=Y z->BX (Tt (b.AN.drop j) (I1 (F b.AN) 0 (yx (F b.AN) (F b.AN) 0 b.AM))) (.agg z) ->
   AED R 0 0 0 (.ptr 0 0) (.ptr 1 0) (.ptr 2 0) (AG ((j:Int)-1)) ⟨e,[]⟩ (QP λr=>BD (btR b) r):=by
  intro j
  induction j with
  | zero=>
   intro e z M o A l f;have⟨m,N,O⟩:=f.cells;refine AEE (Fq ?_);rw[A5 AA];exact A4 (AP5 (Ag l m (Eh A rfl f λr h=>h)))
  | succ j β=>
   intro e z M o A l f;have⟨m,N,O⟩:=f.cells;have⟨t,γ⟩:∃t,b.AN[j]?=Y t:=⟨_,Az AA⟩;refine AEE (Fq ?_);rw[Ax AA];have Q:((j+1:Nat):Int)-1=(j:Int):=AA;rw[Q];refine BH (AP6 (AR (Ab o) (Ad (off:=0) o rfl (BL k (row:=Av t) AA (by simp[*,BK]) (Aq _) AA (Cd (Ag l m (AI (MY (BD.Bo t).Du f) ?_)))))));intro r d;obtain⟨δ,rfl⟩:=d.agg;have⟨T,U,ε⟩:=d.cells;refine Bn l T m AH (AO _) U (.inl (AO _)) (AP7 (FL AA AA ?_))
   grind[ep]
 refine loop (F b.AN) _ I (AU _) rfl rfl rfl ?_;rw[List.drop_length,Tt];exact d.Du
def K0 {b:Br} (hs:AP b.AM<2 ^ 37) (hv:vP wI b.AM=Z) (d:F b.AN<2 ^ 37) {x:AV} (hx:CL b x):Ah (env R) 31 [x] λr=>BD (btR b) r:=by
 have⟨e,f,j,k⟩:=hx.closed;exact Ah.open (args':=[e]) AX AX rfl f j (Ri hs hv d k)
def Rj {b:Br} (d:AP b.AM<2 ^ 38) (hv:A2 b.AM=Z) (e:F b.AN<2 ^ 38) (hb:∀t∈b.AN,AP t<2 ^ 38/\N4 t=Z) {x:AV} (hx:CL b x):Ah (env R) 29 [x] λr=>BD (VX b) r:=by
 have⟨f,j,k,l⟩:=hx.closed;exact Ah.open (args':=[f]) AX AX rfl j k (Sc d hv e hb l)
end
mutual
def xq:∀t:Ty,wB t=Z->bw t=0
 | .mk k n i ts,h=>by
  rw[wB] at h;rw[bw];cases h6:k==6 with
  | true=>
   grind
  | false=>
   cases j:k==3||k==4 with
   | false=>rfl
   | true=>
    have d:(k==5)=false:=AB;have e:(k==0)=false:=AB;have f:(k==2)=false:=AB;rw[d,e,f] at h;simp only[AL,AK] at h;exact xu ts h.2.2.2.2
def xu:∀l:Ϣ,Kz l=Z->(qp l).sum=0
 | [],_=>rfl
 | t::l,h=>by
  simp only[Kz,AK] at h;rw[qp,Ke,xq t h.1,xu l h.2]
end
def oc (P:Ty) (v:Nat):Bool:=(BQ P []).contains (v:Int)
def Vo {P:Ty} {i:Int} (h:i∈vis P) (d:0<=i):oc P i.toNat=true:=by grind[oc,I2]
def Vp {V:Nat->Bool}:∀{n v:Nat},v<n->V v=Z->(Hg V n)[F (Hg V n)-1-F (Hg V v)]?=Y v/\F (Hg V v)<F (Hg V n)
 | 0,v,h,_=>absurd h (HD _)
 | n+1,v,h,hv=>by
  rw[Hg]
  by_cases e:v=n
  .grind
  .have⟨d,f⟩:=Vp (V:=V) (n:=n) (v:=v) AA hv
   grind
theorem K1 {V:Nat->Bool}:∀n:Nat,F (Hg V n)<=n
 | 0=>AU _
 | n+1=>by
  have:=K1 (V:=V) n
  grind[Hg]
def nuT (P:Ty):Ty:=Bq (λi=>var (F (Hg (oc P) i.toNat):Int)) P
def PJ (n:Nat) (P:Ty):Ty:=Bq (λi=>var ((F (Hg (oc P) n):Int)-1-(F (Hg (oc P) i.toNat):Int))) P
section
set_option linter.unusedSectionVars false
variable {A7:Nat->Bool} {n:Nat} {P:Ty} (hn:n<=6) (hw:wB P=Z) (hv:∀i∈vis P,0<=i/\i<(n:Int))
include hn hw hv
theorem aM:∀i∈vis (PJ n P),0<=i/\i<(F (Hg (oc P) n):Int):=by
 intro i d;rw[PJ,Jg] at d;obtain⟨j,e,rfl⟩:=Cw.1 d;have⟨f,k⟩:=hv j e;have:=(Vp (V:=oc P) (n:=n) (v:=j.toNat) AA (Vo e f)).2;omega
theorem aN:inst (Hg (oc P) n) 0 (PJ n P)=tr (λi=>i.toNat) P:=by
 have e:wB (PJ n P)=true:=JH _ _ hw;rw[nx _ _ e λi d=>(aM hn hw hv i d).1,PJ,Gn];refine Cc _ λi d=>?_
 have⟨f,j⟩:=hv i d;have⟨k,l⟩:=Vp (V:=oc P) (n:=n) (v:=i.toNat) AA (Vo d f);simp[*,inF]
theorem Qd:A2 (PJ n P)=true:=Nb _ (JH _ _ hw) λi d=>by
 have:=aM hn hw hv i d
 grind[K1]
theorem xw:Gx n P=tr (λi=>i.toNat) P:=by grind[Gx,nY,Cc,gQ]
theorem j7 (hb:∀n,n<=64->A7 n=ϴ) {B:Ϣ} (u:F B=n) {f:Nat} (hf:Al (PJ n P)<=f) (K:AP P<=200) (N:F (Af P)<=3) {w W S:Nat} (hS:200+3*W<=S) :
  ∃d,DR A7 f (PJ n P)=Y [d]/\Wn [d]<=64/\Gd w W S 9 n d/\∃φ,Rl ϴ 0 B n (F B) (Hg (oc P) n) d (tr (λi=>i.toNat) P) φ:=by
 have j:=Qd hn hw hv;have s:=aM hn hw hv;have o:wB (PJ n P)=true:=JH _ _ hw
 have p:CG (bw (PJ n P)):=by
  rw[xq _ o]
  show((0:Nat):Int)<1073741824
  decide
 have e:=MM (A7:=A7) (hb 0 AH) (hb 1 AH) f (PJ n P) (Hg (oc P) n) j (aL _ o λi z=>(s i z).2) (Rh n) p B (λx hx=>by have:=PI x hx; omega);have⟨A,C,D,O⟩:=FM (Hg (oc P) n) (PJ n P) 0 j;rw[aN hn hw hv] at e A C D;rw[YB (hb 1 AH) f _ B AA (eY _ P hw)] at e;have L:=xD _ (eY (λi=>i.toNat) P hw);have t:=(nu (λi=>(F (Hg (oc P) n):Int)-1-(F (Hg (oc P) i.toNat):Int)) P hw).1;cases k:DR A7 f (PJ n P) with
 | none=>
  rw[k] at e;exact e.elim
 | some l=>
  rw[k] at e;obtain⟨_,m⟩:=e;rcases l with _|⟨d,_|⟨x,l⟩⟩
  .exact m.elim
  .obtain⟨⟨φ,H⟩,_⟩:=m
   have r:=Ln f (PJ n P) [d] j p k d AD
   have Q:F φ=0:=by
    cases φ with
    | nil=>rfl
    | cons x φ=>
     have:=H.LM x AD;omega
   have M:F (Af d.AM)=F (Af P):=by
    have E:=NF (φ:=Mo φ (Hg (oc P) n) 0) (λ_=>Z) d.AM H.bd;have I:=NF (φ:=λi=>i.toNat) (λ_=>Z) P (KR _ hw);rw[<-H.eq,I] at E
    simp_all
   have T:=xl d.AM;have U:ng d.AM*W<=3*W:=Be _ AA;have X:ng d.AM*w<=3*w:=Be _ AA;have α:4 ^ ng d.AM<=4 ^ 3:=Ki AH AA;have β:=r.Gw;have h6:=H.len;have γ:AP (PJ n P)=AP P:=t;rw[u] at H;refine⟨d,rfl,Bp,⟨r.le AA,AA,AA,AA⟩,φ,AB⟩
  .exact m.2.elim
end
def ai (V:Nat->Bool) (P:Ty):Nat->Ty
 | 0=>P
 | i+1=>bif V i then Ht i (AW+1+F (Hg V i)) (ai V P i) else ai V P i
def Kb (f:Nat->Ty) (V:Nat->Bool):Nat->Ϣ
 | 0=>[]
 | i+1=>bif V i then Kb f V i++[f i] else Kb f V i
def Qe {f:Nat->Ty} {V:Nat->Bool}:∀i:Nat,F (Kb f V i)=F (Hg V i)
 | 0=>rfl
 | i+1=>by
  have:=Qe (f:=f) (V:=V) i
  grind[Kb,Hg]
def eu (c t:Ty):∀l:Ϣ,Tt (l++[c]) t=Tt l (.mk 6 [] 0 [c,t])
 | []=>rfl
 | b::l=>by rw[DV,Tt,eu c t l,Tt]
section
set_option linter.unusedSectionVars false
variable {n:Nat} {P:Ty} (hn:n<=6) (hw:wB P=Z) (hv:∀i∈vis P,0<=i/\i<(n:Int))
include hn hw hv
theorem xx:∀i:Nat,i<=n->ai (oc P) P i=Bq (λx=>var (bif decide (x<(i:Int)) then AW+1+(F (Hg (oc P) x.toNat):Int) else x)) P
 | 0,_=>by
  have e:=NH P (KR _ hw)
  grind[ai,Cc]
 | i+1,k=>by
  have d:=xx i AA;have l:(AW:Int)=1073741824:=rfl;rw[ai];cases m:oc P i with
  | false=>
   rw[AL,d];refine Cc _ λx hx=>?_
   have⟨f,o⟩:=hv x hx
   have j:x≠(i:Int):=λh=>by
    have:=Vo hx f
    grind
   grind
  | true=>
   rw[AQ,d,P5]
   grind
theorem AAx:I1 (F (Hg (oc P) n)) 0 (ai (oc P) P n)=nuT P:=by
 have e:(AW:Int)=1073741824:=rfl;rw[xx hn hw hv n (AU _),TL];refine Cc _ λx hx=>?_
 have⟨d,f⟩:=hv x hx;have j:decide (x<(n:Int))=true:=AB;have:=(Vp (V:=oc P) (n:=n) (v:=x.toNat) AA (Vo hx d)).2
 grind[K1,j4]
theorem AAy (f:Nat->Ty):btR ⟨Kb f (oc P) n,nuT P⟩=Tt (Kb f (oc P) n) (PJ n P):=by
 rw[btR];congr 1
 show I1 (F (Kb f (oc P) n)) 0 (yx (F (Kb f (oc P) n)) (F (Kb f (oc P) n)) 0 (nuT P))=_
 have e:=K1 (V:=oc P) n;rw[Qe,nuT,aJ,TL,PJ];refine Cc _ λx hx=>?_
 have⟨d,j⟩:=hv x hx;have:=(Vp (V:=oc P) (n:=n) (v:=x.toNat) AA (Vo hx d)).2
 grind[nk]
theorem ey:CG (bw (PJ n P))/\wt (PJ n P)<=AP P/\AP (PJ n P)=AP P:=by
 have d:=Qd hn hw hv;have e:wB (PJ n P)=true:=JH _ _ hw;have f:AP (PJ n P)=AP P:=(nu (λi=>(F (Hg (oc P) n):Int)-1-(F (Hg (oc P) i.toNat):Int)) P hw).1;have⟨j,m,k,o⟩:=FM (Hg (oc P) n) (PJ n P) 0 d;rw[aN hn hw hv] at j k;have l:=xD _ (eY (λi=>i.toNat) P hw);refine⟨?_,AA,f⟩;rw[xq _ e]
 show((0:Nat):Int)<1073741824
 decide
end
section
variable {R:RT}
def Qf {b:Br} (k:Pk R b) {t:Ty} (m:t∈b.AN):∃l,DR (Aa 32) (Al t) t=Y l/\Few 1859359 630225 l:=by
 have⟨I,hv,s⟩:=k.bs t m;have e:=k.cl t m;have K:=k.bw t m;have z:=(k.wn t m).1;have⟨f,hf⟩:=k.ok;have d:=(hf t m).2;have L:(AW:Int)=1073741824:=rfl
 obtain⟨f,rfl⟩:∃D,f=D+1:=by
  cases f with
  | zero=>grind[xP,C2]
  | succ f=>simp
 have j:=MM (A7:=Aa 32) rfl rfl (Al t) t [] hv e EI s.bws [] (λx hx=>by grind);rw[Ck hv e] at j;rw[xP] at d;cases A:(!(DJ t==0)||!(CJ 0 t)) with
 | true=>
  grind[C2]
 | false=>
  rw[A] at d;simp only[AL] at d;rcases E:BI (Aa 32) (Al t) t [] with ⟨_|ps,o⟩
  .grind[C2]
  .rw[E] at d j
   simp only at d;cases hw:((ps.map (Gc o)).all Mp&&(((ps.map (Gc o)).flatMap Br.AN).all λb=>C2 (xP f b))) with
   | false=>
    grind[C2]
   | true=>
    rw[hw] at d;simp only[AQ,C2,Bj] at d;rw[AK] at hw;cases hb:DR (Aa 32) (Al t) t with
    | none=>
     rw[hb] at j;exact j.elim
    | some l=>
     rw[hb] at j;obtain⟨_,u⟩:=j;have M:=u.tP;refine⟨l,rfl,AB,λc e=>?_⟩;have⟨i,r⟩:=Np e;have⟨p,B,φ,H⟩:=OC u r;have N:=(Cq (A7:=Aa 32) (Al t) t l hb c e).1;have O:=Rl.N8 H;have Q:=H.len;have⟨_,n3,_⟩:=AIQ (lo:=0) { H with LM:=λx hx=>⟨AO _,(H.LM x hx).2⟩ } (by show _<AW; omega);have C:=Cl.1 hw.1 (Gc o p) (EH (A8 B));simp only[Mp,AK,Cu] at C;refine⟨(Ln (Al t) t l hv s.bws hb c e).le z,AA,AA,λi r=>?_⟩;rcases H.vis i (G2 _ i r) with h|h|h
     all_goals grind
def KW (b:Br) (v:Nat):Ty:=b.AN.getD v XL
def qu (b:Br) (v:Nat):Ϥ:=(DR (Aa 32) (Al (KW b v)) (KW b v)).getD []
def j8 (b:Br) (v:Nat):Ϣ->FT:=BI (Aa 32) (Al (KW b v)) (KW b v)
def Jm {b:Br} {v:Nat} (h:v<F b.AN):b.AN[v]?=Y (KW b v)/\KW b v∈b.AN:=by grind[KW]
abbrev aO:Nat:=1859359
abbrev Qg:Nat:=630225
abbrev j9:Nat:=1890875
structure Pt (b:Br) (P:Ty):Prop where
 wb:wB P=Z
 vis:∀i∈vis P,0<=i/\i<(F b.AN:Int)
 Gw:AP P<=200
 cov:F (Af P)<=3
def e7 {b:Br} (m:Pk R b) {V:Nat->Bool} {l:Ϥ} {ps B:Ϣ} (D:b.AN<+:B) (hn:Wn l<=64) (E:∀c∈l,Gd aO Qg j9 9 (F b.AN) c) (I:CD (λK p=>∃φ,Rl ϴ 0 B (F b.AN) (F B) (Hg V (F b.AN)) K p φ) l ps):∃r t f,oC (Aa 64) (qu b) (j8 b) (KW b) V aO Qg j9 (F b.AN) l ps B r t f /\
  B<+:f/\F f<=F B+6*(64*(64*23403))/\F r<=64/\(∀c∈r,Gd aO Qg j9 9 0 c/\∀i∈BQ c.AM [],0<=i/\i<(F c.AN:Int))/\t.map (Gc f)=r.map CE:=by
 have hb:∀n,n<=64->Aa 64 n=false:=λn h=>by grind
 have h6:=m.len;have β:(AW:Int)=1073741824:=rfl
 have⟨r,t,f,L,M,e3,e4,e5,e6⟩:=j6 hb (w:=aO) (W:=Qg) (S:=j9) (a:=23403) (n:=F b.AN) (LA:=qu b) (ex:=j8 b) (Bf:=KW b) (V:=V) AH (λv hv B=>by
   have⟨_,hm⟩:=Jm hv;have⟨_,s,z⟩:=m.bs _ hm;have o:=m.cl _ hm;have⟨l,u,_⟩:=Qf m hm;have:=MM (A7:=Aa 32) rfl rfl (Al (KW b v)) (KW b v) [] s o EI z.bws B (λx hx=>by grind);rw[Ck s o] at this;rw[show qu b v=l by grind[qu]];rwa [u] at this) (λv hv=>by
   have⟨l,u,hf⟩:=Qf m (Jm hv).2
   grind[qu]) (λv hv B=>by
   have⟨_,hm⟩:=Jm hv;have⟨_,s,z⟩:=m.bs _ hm;have o:=m.cl _ hm;have A:=TH (Al (KW b v)) (KW b v) [] B s o z.bws (λx hx=>by grind);rw[Ck s o] at A;exact BC A (S1 (m.wn _ hm).2 _)) (F b.AN) l ps B (AU _) (λx hx=>Ih D (Jm hx).1) hn E I
 refine⟨r,t,f,L,M,BC e3 (S1 (Be _ h6) _),e4,λc o=>⟨e5 c o,?_⟩,?_⟩
 .have⟨j,N⟩:=Np o
  have⟨p,_,φ,H⟩:=OC e6 N;intro i O;have u:=H.len;rcases G3 _ _ i O with h|h
  .cases h
  .rcases H.vis i h with h|h|h
   all_goals grind
 .have X:∀{l:Ϥ} {ps:Ϣ},(∀c∈l,Gd aO Qg j9 9 0 c)->CD (λb p=>∃φ,Rl ϴ 0 f 0 (F f) [] b p φ) l ps->ps.map (Gc f)=l.map CE:=by
   intro l
   induction l with
   | nil=>intro ps _ h; cases ps with
    | nil=>rfl
    | cons _ _=>exact h.elim
   | cons c l Q=>intro ps C h; cases ps with
    | nil=>exact h.elim
    | cons p ps=>
     obtain⟨⟨φ,H⟩,T⟩:=h;have γ:=Rl.N8 H;have u:=H.len;have δ:=(C c AD).k;have α:aO=1859359:=rfl;have e:Gc f p=CE c:=UO H (AU _) (by show _<AW; omega);rw[CH,CH,e,Q (λd U=>C d (C4 _ U)) T]
  grind
end
/- QP, QI -/
section
variable {R:RT}
def AAz {l:Ϥ} (C:F l<=64) (s:∀b∈l,VK b) {t4:AV} {Post:AV->Prop} (hS:∀a,A3 a ((l.map CE).map C7)->Post a) :
  ∀(j p:Nat) (bs:Ϩ) (tk:Ϫ),p+j=F l->EE 2 bs ((l.take p).map CE++l.drop p) t4->AEF R 0 0 0 t4 (AG p) ⟨bs,tk⟩ (QP Post):=by
 have e:∀p,p<=F l->F ((l.take p).map CE++l.drop p)=F l:=AB;intro j
 induction j with
 | zero=>
  intro p bs tk t hb;refine AEG (Au (n:=F l) (by rw[hb.BG,e p AA]) (Ao ?_));rw[A5 AA];rw[CC AA,CR AA,G9] at hb;have⟨a,m,u⟩:=hb.close;exact A4 (AP8 ⟨a,m,hS a u⟩)
 | succ j D=>
  intro p bs tk t hb;refine AEG (Au (n:=F l) (by rw[hb.BG,e p AA]) (Ao ?_));rw[Ax AA];have⟨b,r⟩:∃b,l[p]?=Y b:=⟨_,Az AA⟩;have d:=s b (A8 r);have z:F ((l.take p).map CE)=p:=AB;have f:((l.take p).map CE++l.drop p)[p]?=Y b:=AB;have x:((l.take p).map CE++l.drop p).set p (CE b)=(l.take (p+1)).map CE++l.drop (p+1):=by simp_all[drop_cons,Yn]
  refine BH (AP9 (PD hb f λA o=>AI (KN d.Gw d.ok d.Dz d.LM o) ?_));intro v hv;have k:=hv.Du;obtain⟨E,rfl⟩:=k.agg;refine wV hb f k (AO _) (AO _) λB m _ _ _=>AQA (Bb AA AA ?_)
  grind
theorem KS {t:Ty} {l:Ϥ} (h:jt R ϴ 64 1 t (Y l)) (s:F l<=64) (u:∀b∈l,VK b) {x:AV} (hx:BD t x):Ah (env R) 77 [x] λr=>A3 r ((l.map CE).map C7):=by
 obtain⟨e,rfl⟩:=hx.Du.agg;have⟨z,A,B,K⟩:=hx.cells
 suffices H:∀f:AV->Prop,(∀r,A3 r ((l.map CE).map C7)->f r)->AEH R 0 0 0 (.agg e) ⟨[],[]⟩ (QP f) from e77 (u0:=.agg e) (by simp[*]) (H _ λr h=>h)
 intro f C;have D:(AY.mk ([]++[e]) []).bs[0]?=Y e:=rfl;refine AQB (Bs (cs:=e) rfl A (FV (cs:=[BB ϴ,BB ϴ]) rfl (Bs (cs:=[BB ϴ,BB ϴ]) rfl rfl (Ag (Am D _) z ?_))))
 have o:BM ⟨[e,[BB ϴ,BB ϴ]],[]⟩:=by
  intro d j;simp only[BF,ER,ES] at j;rcases j with rfl|rfl
  .exact BV (AO _) _ B
  rfl
 have⟨v,E,I,m⟩:=h.c ⟨AH,(λh=>by cases h),λ_=>by simp⟩ (.agg e) hx.Du ϴ ⟨[e,[BB ϴ,BB ϴ]],[]⟩ o (Co (env R) 77 0 0 0) rfl rfl AX rfl;obtain⟨k,p⟩:=E;have hb:EE 2 k l v:=I.LA;exact⟨_,_,m,AAz s u C (F l) 0 k p AA AB⟩
def OO {b:Br} (h:AP b.AM<2 ^ 37) {x:AV} (hx:CL b x):Ah (env R) 33 [x] λr=>A3 r (Ai (Af b.AM)):=by
 have⟨j,k,l,m⟩:=hx.closed;refine Ah.open (args':=[j]) AX AX rfl k l ?_;obtain⟨a,y,rfl,o,d⟩:=m;have⟨p,s,t,u⟩:=d.cells;refine e33 (u0:=.agg (a::y)) AA (AQC (Bs (cs:=a::y) rfl (by simp[o.ok,s]) ?_));have e:(AY.mk ([]++[a::y]) []).bs[0]?=Y (a::y):=rfl;refine AR (Ab e) (KM e p (AI (Jt b.AM h _ d) λr f=>⟨r,?_,f⟩));exact f.close _ _ _
def AA0 {b:Br} (γ:AP b.AM<2 ^ 20) {k:Nat} (N:k<F (Af b.AM)) (δ:F b.AN<2 ^ 20) {a:AV} {y:Ϭ} (hx:CL b (.agg (a::y))) {cs:Ϥ} (κ:F cs<=64) (E:∀c∈cs,AP c.AM<2 ^ 36/\TI c.AM=Z/\F c.AN<2 ^ 36/\VK (CA b k c)) {t8:AV} (u:A3 t8 (cs.map C7)) {Post:AV->Prop} (O:∀r a,r=.tuple [a,BB Z]->A3 a ((cs.map λc=>CE (CA b k c)).map C7)->Post r) :
  ∀(j p:Nat) (bs:Ϩ) (tk:Ϫ) (t7:AV),p+j=F cs->BM ⟨bs,tk⟩->bs[0]?=Y (a::y)->EE 1 bs ((cs.take p).map λc=>CE (CA b k c)) t7->AEI R 0 0 0 (AG k) (.ptr 0 0) t7 t8 (AG p) ⟨bs,tk⟩ (QP Post):=by
 have⟨Q,μ,ν⟩:=hx.cells;intro j
 induction j with
 | zero=>
  intro p bs tk t7 T x l d;refine AEJ (Au (n:=F cs) (by rw[u.BG,Bj]) (Ao ?_));rw[A5 AA];rw[CC AA] at d;have⟨o,ξ,z⟩:=d.close;exact A4 (AQD ⟨.tuple [o,BB Z],by simp[*],O _ o rfl z⟩)
 | succ j U=>
  intro p bs tk t7 T x l d;refine AEJ (Au (n:=F cs) (by rw[u.BG,Bj]) (Ao ?_));rw[Ax AA];have⟨c,B⟩:∃c,cs[p]?=Y c:=⟨_,Az AA⟩;have⟨q1,X,ο,t⟩:=E c (A8 B);refine BH (AQE (Ag l Q (Kv (.inr (.inl u)) B λε D=>?_)));obtain⟨v,π,⟨e,hv,ζ,rfl⟩,C⟩:=VF (R:=R) N AA AA X AA hx D (s:=⟨bs,tk⟩) x (L:=Co (env R) 34 0 0 0) rfl rfl;refine⟨_,_,C,AI (KN t.Gw t.ok t.Dz t.LM hv) ?_⟩;intro w hw;have f:=hw.Du;obtain⟨A,rfl⟩:=f.agg;have⟨ρ,ς,α⟩:=f.cells;have η:0<F bs:=(BJ.1 l).1;have H:BM ⟨bs++[A],e⟩:=BM.app (s:=⟨bs,e⟩) x (α _);refine KH f ⟨AH,U3 (s:=⟨bs++[A],e⟩) f (A0 bs _) (d.mono (AU _) λj c _ β=>Am β _) rfl AB (λo I θ K ι M _=>?_) AD⟩;have em:(cs.take (p+1)).map (λc=>CE (CA b k c))=(cs.take p).map (λc=>CE (CA b k c))++[CE (CA b k c)]:=by grind[List.take_add_one]
  refine AQF (Bb AA AA ?_)
  have:=U (p+1) I e o AA (M H) (K 0 _ (λm h=>by
   rcases d with ⟨z,_⟩|⟨id,rows,z,σ,_⟩
   all_goals grind) (Am l _)) AB
  grind
def kA {b:Br} (s:AP b.AM<2 ^ 20) {k:Int} (t:k<0\/F (Af b.AM)<=k) {x:AV} (hx:HM b x):Ah (env R) 34 [x,AG k] λr=>r=.tuple [.AE [],BB ϴ]:=by
 obtain⟨a,y,rfl,d,e⟩:=hx;have⟨l,m,u,o⟩:=e.cells;refine e34 (u0:=.agg (a::y)) (u1:=AG k) (by simp[d.close,o]) (AEK (Bs (cs:=a::y) rfl (by simp[d.ok,m]) ?_));have f:(AY.mk ([]++[a::y]) []).bs[0]?=Y (a::y):=rfl;refine AR (Ab f) (KM f l (AI (Jt b.AM AA _ e) λz j=>Ao ?_));cases p:decide (k<0) with
 | true=>exact C8 (C8 (C8 (C8 (pk (BH ⟨_,rfl,rfl⟩)))))
 | false=>
  have p:¬ k<0:=AB;refine Aw (b:=ϴ) (Aw (b:=ϴ) (Aw (b:=ϴ) (Au (n:=F (Af b.AM)) (by rw[j.BG,BP]) (Aw (b:=ϴ) (Fq (pk ?_))))));rw[Ax AA];exact BH ⟨_,rfl,rfl⟩
def pz {b:Br} (s:AP b.AM<2 ^ 20) (u:F b.AN<2 ^ 20) {k v:Nat} (z:(Af b.AM)[k]?=Y (v:Int)) {t:Ty} (B:b.AN[v]?=Y t) {cs:Ϥ} (C:F cs<=64) (D:∀x,BD t x->Ah (env R) 77 [x] λr=>A3 r (cs.map C7)) (A:∀c∈cs,AP c.AM<2 ^ 36/\TI c.AM=Z/\F c.AN<2 ^ 36/\VK (CA b k c)) {x:AV} (hx:HM b x) :
  Ah (env R) 34 [x,AG k] λr=>∃a,r=.tuple [a,BB Z]/\A3 a ((cs.map λc=>CE (CA b k c)).map C7):=by
 have E:=(BJ.1 z).1;have T:=(BJ.1 B).1;have j:=hx.Du;have U:=Eb b.AM;obtain⟨a,y,rfl,m,o⟩:=hx;have⟨I,α,β,K⟩:=o.cells;have⟨γ,δ,ε⟩:=j.cells
 suffices H:∀f:AV->Prop,(∀r a,r=.tuple [a,BB Z]->A3 a ((cs.map λc=>CE (CA b k c)).map C7)->f r)->AEL R 0 0 0 (.agg (a::y)) (AG k) ⟨[],[]⟩ (QP f) from
  e34 (u0:=.agg (a::y)) (u1:=AG k) (by simp[m.close,K]) (H _ λr a L M=>⟨a,L,M⟩)
 intro f N;refine AEK (Bs (cs:=a::y) rfl AA ?_);have e:(AY.mk ([]++[a::y]) []).bs[0]?=Y (a::y):=rfl;have p:BM (AY.mk ([]++[a::y]) []):=λd ζ=>by grind
 generalize X:([]++[a::y]:Ϩ)=O at e p;refine AR (Ab e) (KM e I (AI (Jt b.AM AA _ o) λη l=>Ao ?_));rw[A5 AA];refine Aw (b:=ϴ) (Aw (b:=ϴ) (Aw (b:=ϴ) (Au (n:=F (Af b.AM)) (by rw[l.BG,BP]) (Aw (b:=ϴ) (Fq (pk ?_))))));rw[A5 AA];refine A4 (AQG (AR (Ab e) (Ad (off:=0) e rfl (BL l (row:=[.sc (.int .i64 v)]) AA (by grind[Ai]) rfl AA (Ds (BL m (row:=Av t) AA (by grind[BK]) (Aq _) AA (Cd ?_)))))));refine AI (D _ (BD.Bo t)) λr Q=>?_
 exact AA0 s E u j C A Q N (F cs) 0 O [] (.AE []) AA p e (.inl ⟨rfl,rfl⟩)
end
/- QP, QI -/
section
variable {R:RT}
def Ah.imp {E:Env} {f:FuncId} {args:Ϭ} {Post Q:AV->Prop} (h:Ah E f args Post) (d:∀v,Post v->Q v):Ah E f args Q:=by
 obtain⟨v,e,j⟩:=h;exact⟨v,d v e,j⟩
def AIZ {bd:Ϣ} (N:F bd<2 ^ 20) {Bz:Ty} {Post:AV->Prop} (A:∀x,CL ⟨bd,Bz⟩ x->Ah (env R) 31 [x] λr=>Ah (env R) 77 [r] λv=>(∀bs n m,close bs n m v=Y v)/\Post v) :
  ∀(j q:Nat) (e:Ty) (bs:Ϩ) (tk:Ϫ) (o:AV) (y:Ϭ),q+j=F bd->I1 j q e=Bz->AP e<2 ^ 37->vP wI e=Z->bs[2]?=Y (o::y)->BN o (Aj bd)->BX e (.agg y) ->
   AEM R 0 0 0 (.ptr 2 0) (AG q) ⟨bs,tk⟩ (QP Post):=by
 have O:(AW:Int)=1073741824:=rfl;intro j
 induction j with
 | zero=>
  intro q e bs tk o y B f t hv d k p;rw[I1] at f;subst f;refine AEN (AR (Ab d) (Ad (off:=0) d rfl (Au (n:=F bd) (by rw[k.BG,Ae]) (Ao ?_))));rw[A5 AA];have s:CL ⟨bd,e⟩ (.agg (o::y)):=⟨o,y,rfl,k,p⟩;have⟨C,Q,T⟩:=s.cells;refine A4 (AQH (Ag d C (AI (A _ s) λr l=>AI l ?_)));rintro v ⟨D,E⟩;exact⟨v,D _ _ _,E⟩
 | succ j H=>
  intro q e bs tk o y B f t hv d k p;rw[I1] at f;refine AEN (AR (Ab d) (Ad (off:=0) d rfl (Au (n:=F bd) (by rw[k.BG,Ae]) (Ao ?_))));rw[Ax AA];have⟨u,U,X⟩:=p.cells;refine BH (AQI (AR (Ab d) (KM d u (Bb AA AA ?_))));have I:(1073741825:Int)+(q:Int)=AW+1+q:=AA;rw[I];refine AI (Fh (R:=R) (AW+1+q) q t (RS hv) p) ?_;intro r l;obtain⟨z,rfl⟩:=l.Du.agg;have⟨K,L,α⟩:=l.Du.cells;have hw:wI (q:Int)=true:=by grind[wI]
  have⟨M,β⟩:=SK (n:=AW+1+q) hw hv;refine AR (Ab d) (QV d u K (AO _) L (AO _) (AIa (Bb AA AA ?_)));have:=H (q+1) (Ht (AW+1+q) q e) (bs.set 2 (o::z)) tk o z AA f AA M (BT d) k l.Du
  grind
structure RpS (b:Br) (P:Ty) (a:AV) (y py:Ϭ) (i:Nat) (bs:Ϩ) (tk:Ϫ):Prop where
 ok:BM ⟨bs,tk⟩
 g0:bs[0]?=Y (a::y)
 g1:bs[1]?=Y py
 st:∃o z,bs[2]?=Y (o::z)/\D1 0 tk 25 o (Aj (Kb (KW b) (oc P) i))/\BX (ai (oc P) P i) (.agg z)
variable {b:Br} {P:Ty} {a:AV} {y py:Ϭ} (hb:BN a (Aj b.AN)) (h6:F b.AN<=6) (hbd:∀i,i<=F b.AN->AP (ai (oc P) P i)<2 ^ 37/\vP wI (ai (oc P) P i)=Z)
include hb h6 hbd
theorem AQJ {i:Nat} (γ:i<F b.AN) {c:AV} (x:BN c (Ai (BQ P []))) (τ:F (BQ P [])<2 ^ 20) {QR:QT} (δ:∀bs tk,RpS b P a y py (i+1) bs tk->AEO R 0 0 0 (.ptr 0 0) (.ptr 1 0) (.ptr 2 0) (AG i) ⟨bs,tk⟩ QR) :
  ∀(j k:Nat) (bs:Ϩ) (tk:Ϫ),k+j=F (BQ P [])->RpS b P a y py (bif ((BQ P []).take k).contains (i:Int) then i+1 else i) bs tk->AEP R 0 0 0 (.ptr 0 0) (.ptr 1 0) (.ptr 2 0) (AG i) c (AG k) ⟨bs,tk⟩ QR:=by
 have υ:(AW:Int)=1073741824:=rfl;have ρ:=GX P [] EI;intro j
 induction j with
 | zero=>
  intro k bs tk ε hS;refine AEQ (Au (n:=F (BQ P [])) (by rw[x.BG,BP]) (Ao ?_));rw[A5 AA];refine A4 (δ _ _ ?_);rw[CC AA,show(BQ P []).contains (i:Int)=oc P i from rfl] at hS;cases A:oc P i with
  | true=>
   grind
  | false=>
   rw[A] at hS;obtain⟨q1,K,ζ,η⟩:=hS;rw[AL] at η;exact⟨q1,K,ζ,by grind[Kb,ai]⟩
 | succ j L=>
  intro k bs tk ε hS;refine AEQ (Au (n:=F (BQ P [])) (by rw[x.BG,BP]) (Ao ?_));rw[Ax AA];have⟨w,hw⟩:∃w,(BQ P [])[k]?=Y w:=⟨_,Az AA⟩;have C:(BQ P []).take (k+1)=(BQ P []).take k++[w]:=by grind[List.take_add_one]
  refine BH (AQK (Bc x (row:=[.sc (.int .i64 w)]) AA (by simp[*,Ai]) rfl AA (Ds (BE ?_))));cases ς:w==(i:Int) with
  | false=>
   refine A4 (xy (Bb AA AA ?_))
   have:=L (k+1) bs tk AA (by
    rw[C];have:(i:Int)≠w:=AB
    simp_all)
   grind
  | true=>
   have T:w=(i:Int):=AB;subst T
   have U:((BQ P []).take k).contains (i:Int)=false:=by
    rw[Nk];intro h;rw[List.contains_iff_mem] at h;have⟨m,hm⟩:=Np h;rw[PO] at hm;split at hm
    all_goals grind[List.getElem?_inj]
   have A:oc P i=true:=by grind[oc]
   rw[U,AL] at hS;obtain⟨X,θ,ι,o,z,e,B,M⟩:=hS;have⟨N,φ,χ⟩:=M.cells;have⟨κ,μ⟩:=hbd i AA;have α:F (Kb (KW b) (oc P) i)=F (Hg (oc P) i):=Qe i;have π:=K1 (V:=oc P) i;refine BH (AR (Ab e) (KM e N (AR (Ab e) (Ad (off:=0) e rfl (Au (n:=F (Hg (oc P) i)) (by rw[B.BA.BG,Ae,α]) (Bb AA AA ?_))))));rw[show(1073741825:Int)+(F (Hg (oc P) i):Int)=AW+1+(F (Hg (oc P) i):Int) by omega];refine AI (Fh (R:=R) i (AW+1+F (Hg (oc P) i)) κ (RS μ) M) ?_;intro r p;obtain⟨d,rfl⟩:=p.Du.agg;have⟨ν,ξ,ψ⟩:=p.Du.cells;have σ:=(BJ.1 e).1;have O:=p.cells.2.2.1;have D:BM ⟨bs.set 2 (o::d),tk⟩:=BM.set (s:=⟨bs,tk⟩) X (by simp[Ap,B.BA.A6,BV (AO _) _ O]) _;have l:=BR (b:=o::d) θ (k:=2) AH;have E:=BR (b:=o::d) ι (k:=2) AH;have f:=BT (b:=o::d) e;have⟨q1,K⟩:=Jm γ;refine AR (Ab e) (QV e N ν (AO _) ξ (AO _) ?_);generalize bs.set 2 (o::d)=H at l E f D;refine AR (Ab f) (Ad (off:=0) f rfl (AR (Ab l) (Ad (off:=0) l rfl (Bc hb (row:=Av (KW b i)) AA (by simp_all[BK]) (Aq _) AA (Cd (Eg (BD.Bo (KW b i)).Du ⟨AH,O6 B rfl AA λt I β=>?_⟩))))));have u:=β.BA;refine AR (Ab f) (C1 (off:=0) f AD u.cells (AO _) u.ok (.inl (AO _)) (xy (Bb AA AA ?_)));have ο:(o::d).set 0 t=t::d:=rfl;rw[ο];have Q:RpS b P a y py (i+1) (H.set 2 (t::d)) I:=⟨BM.set (s:=⟨H,tk⟩) D (by simp[Ap,u.A6,BV (AO _) _ O]) _,BR l AH,BR E AH,t,d,BT f,by grind[Kb],by rw[ai,A]; exact p.Du⟩
   have:=L (k+1) _ I AA (by
    rw[C];simpa using Q)
   grind
theorem AIb (C:F b.AN<2 ^ 20) (d:BD P (.agg py)) (D:AP P<2 ^ 20) {QR:QT} (E:∀bs tk,RpS b P a y py (F b.AN) bs tk->AER R 0 0 0 (.ptr 2 0) ⟨bs,tk⟩ QR) :
  ∀(j i:Nat) (bs:Ϩ) (tk:Ϫ),i+j=F b.AN->RpS b P a y py i bs tk->AES R 0 0 0 (.ptr 0 0) (.ptr 1 0) (.ptr 2 0) (AG i) ⟨bs,tk⟩ QR:=by
 have⟨l,H,I,K⟩:=d.cells;have e:=NZ P [];simp only[CQ,CY] at e;intro j
 induction j with
 | zero=>
  intro i bs tk m hS;refine AET (AR (Ab hS.g0) (Ad (off:=0) hS.g0 rfl (Au (n:=F b.AN) (by rw[hb.BG,Ae]) (Ao ?_))))
  simp_all
 | succ j L=>
  intro i bs tk m hS;refine AET (AR (Ab hS.g0) (Ad (off:=0) hS.g0 rfl (Au (n:=F b.AN) (by rw[hb.BG,Ae]) (Ao ?_))));rw[Ax AA];refine BH (AQL (Ag hS.g1 l ?_));obtain⟨v,M,⟨f,p,r,rfl⟩,s⟩:=VJ (R:=R) P AA (.agg py) d.Du [] ⟨bs,tk⟩ AB hS.ok (Co (env R) 40 0 0 0) (.AE []) rfl rfl (.inl rfl);refine⟨_,_,s,?_⟩;obtain⟨k,t,u,o,z,x,A,B⟩:=hS;refine AQJ (y:=y) (py:=py) hb h6 hbd (i:=i) AA p.BA AA (λbs tk hS=>AQM (Bb AA AA ?_)) (F (BQ P [])) 0 bs f AA ?_
  .grind
  .exact⟨k,t,u,o,z,x,r.keep A (λ_ h=>by cases h),B⟩
end
section
variable {R:RT}
def Vq {b:Br} (h6:F b.AN<=6) {P Bz T:Ty} (u:vP wI P=Z) (ζ:AP P<=200) (hF:I1 (F (Hg (oc P) (F b.AN))) 0 (ai (oc P) P (F b.AN))=Bz) (A:vP wI Bz=Z) (η:AP Bz<=200) (B:btR ⟨Kb (KW b) (oc P) (F b.AN),Bz⟩=T) {cs:Ϥ} (C:∀x,BD T x->Ah (env R) 77 [x] λr=>A3 r (cs.map C7)) {x p:AV} (hx:HM b x) (e:BD P p) :
  Ah (env R) 40 [x,p] λr=>A3 r (cs.map C7):=by
 have ι:(AW:Int)=1073741824:=rfl;obtain⟨a,y,rfl,j,D⟩:=hx;have⟨κ,E,I,K⟩:=D.cells;obtain⟨py,rfl⟩:=e.Du.agg;have⟨L,k,l,M⟩:=e.cells
 have hbd:∀i,i<=F b.AN->AP (ai (oc P) P i)=AP P/\vP wI (ai (oc P) P i)=true:=by
  intro i
  induction i with
  | zero=>exact λ_=>⟨rfl,u⟩
  | succ i μ=>
   grind[K1,ai,SK,wI]
 suffices H:∀f:AV->Prop,(∀r,A3 r (cs.map C7)->f r)->AEU R 0 0 0 (.agg (a::y)) (.agg py) ⟨[],[]⟩ (QP f) from
  e40 (u0:=.agg (a::y)) (u1:=.agg py) (by simp[j.close,K,M]) (H _ λr h=>h)
 intro f N;refine AQN (Bs (cs:=a::y) rfl (by simp[j.ok,E]) (Bs (cs:=py) rfl k ?_));have O:(AY.mk [a::y,py] []).bs[1]?=Y py:=rfl;refine Ag (s:=⟨[a::y,py],[]⟩) O L (FV (wC e.Du) (Bh (MV (s:=⟨[a::y,py]++[Z5],[]⟩) rfl AB (AO _) (by simp[k]) (AO _) ?_)))
 have Q:RpS b P a y py 0 [a::y,py,.AE []::py] []:=⟨λd m=>by
  simp only[BF,ER,ES] at m;rcases m with rfl|rfl|rfl
  .simp[Ap,j.A6,BV (AO _) _ I]
  .exact BV (AO _) _ l
  .simp[Ap,A6,BV (AO _) _ l],rfl,rfl,.AE [],py,rfl,.inl rfl,e.Du⟩
 have ε:F (Kb (KW b) (oc P) (F b.AN))=F (Hg (oc P) (F b.AN)):=Qe _;have θ:=K1 (V:=oc P) (F b.AN)
 have:=AIb (R:=R) (b:=b) (P:=P) (a:=a) (y:=y) (py:=py) (.inl j) h6 (λi U=>⟨AB,(hbd i U).2⟩) AA e AA (QR:=QP f) (λX tk hS=>by
  obtain⟨_,_,_,o,z,α,β,γ⟩:=hS;have⟨q1,δ⟩:=hbd (F b.AN) (AU _);refine AQO (AIZ (bd:=Kb (KW b) (oc P) (F b.AN)) (Bz:=Bz) AA (λx hx=>?_) _ 0 (ai (oc P) P (F b.AN)) X tk o z (by rw[CY]) AB AA δ α β.BA γ);refine Ah.imp (K0 (R:=R) (b:=⟨Kb (KW b) (oc P) (F b.AN),Bz⟩) AB A AB hx) λr t=>?_
  rw[B] at t;exact Ah.imp (C r t) λv hv=>⟨hv.close,N v hv⟩) (F b.AN) 0 [a::y,py,.AE []::py] [] AA Q
 grind
end
section
variable {R:RT}
theorem jt.up {e:Nat} {t:Ty} {l:Ϥ} (h:jt R ϴ 32 e t (Y l)):jt R ϴ 64 e t (Y l):=λ_=>h ⟨AH,(λh=>by rfl),λ_=>by simp⟩
def fA {b:Br} (f:Pk R b) (e:Nat) {t:Ty} (j:t∈b.AN):∃l,DR (Aa 32) (Al t) t=Y l/\jt R ϴ 64 e t (Y l):=by
 have⟨m,hv,d⟩:=f.bs t j;have⟨l,k,_⟩:=Qf f j;have:=Il (R:=R) (lm:=ϴ) (Ar:=32) (e:=e) (Al t) t (AU _) hv d.bws d.jW AA;rw[k] at this;exact⟨l,k,this.up⟩
def p0 {b:Br} (p:Pk R b) {e:Nat} {V:Nat->Bool} {v:Nat} {l f:Ϥ} {ps B o r:Ϣ} (h:oC (Aa 64) (qu b) (j8 b) (KW b) V aO Qg j9 v l ps B f o r):v<=F b.AN->∀t,jt R ϴ 64 e t (Y l)->jt R ϴ 64 e (Tt (Kb (KW b) V v) t) (Y f):=by
 induction h with
 | nil=>exact λ_ t h=>h
 | @step v l ps B Q K U f o r x z _ _ X α _ _ A=>
  intro hv t D;cases E:V v with
  | false=>
   grind[Kb]
  | true=>
   rw[Kb,E,AQ,eu];refine A AA _ ?_;have⟨_,hm⟩:=Jm (b:=b) (v:=v) AA;have⟨s,u,hw⟩:=fA p e hm;have⟨L,j,M,N⟩:=Qf p hm;rw[u] at j;cases j;have O:qu b v=s:=by grind[qu]
   have I:=wJ (R:=R) (lm:=ϴ) (Ar:=64) (e:=e) (b:=KW b v) (body:=t) (ob:=Y s) (ol:=Y l) (C:=9) (W:=Qg) (Wb:=j9) (w:=aO) (T:=12*aO+6) hw.c D (λm hm=>by
    cases hm;refine⟨z,λd H=>?_⟩;have h:=x d H;have β:=h.c;have γ:=h.k;have δ:F (Af d.AM)*aO<=9*aO:=Be _ AA;exact⟨h.g,AA,AA⟩) (λm hm=>by grind) AH AH AH
   grind
def Wd {b:Br} (d:Pk R b) {t:Ty} (e:t∈b.AN):∃l,DR (Aa 32) (Al t) t=Y l/\F l<=32/\(∀c∈l,VK c/\F (CE c).AN<2 ^ 30/\AP (CE c).AM<2 ^ 30)/\∀x,BD t x->Ah (env R) 77 [x] λr=>A3 r ((l.map CE).map C7):=by
 have⟨k,hv,j⟩:=d.bs t e;have⟨l,f,hw⟩:=fA d 1 e;have m:F l<=32:=BC (QX (Al t) t l f) AH;have o:=Lr hv (d.cl t e) j f
 grind[KS]
def AQP {c:Br} (g:Gd aO Qg j9 9 0 c) (d:∀i∈BQ c.AM [],0<=i/\i<(F c.AN:Int)):VK c:=by
 have e:=g.g.Gw;have f:=g.k;exact⟨L2 e AH,wS g.g AB,AB,d⟩
def kB {b:Br} (m:Pk R b) {P:Ty} (d:Pt b P) {o:Br} {f:Ϥ} {u C:Ϣ} (D:DR (Aa 64) (Al (PJ (F b.AN) P)) (PJ (F b.AN) P)=Y [o]) (E:oC (Aa 64) (qu b) (j8 b) (KW b) (oc P) aO Qg j9 (F b.AN) [o] [Gx (F b.AN) P] b.AN f u C) (H:F f<=64) (s:∀c∈f,Gd aO Qg j9 9 0 c/\∀i∈BQ c.AM [],0<=i/\i<(F c.AN:Int)) {x p:AV} (hx:HM b x) (z:BD P p) :
  Ah (env R) 40 [x,p] λr=>A3 r ((f.map CE).map C7):=by
 have h6:=m.len;have⟨I,K,L⟩:=ey h6 d.wb d.vis;have A:=d.Gw;have l:=Il (R:=R) (lm:=ϴ) (Ar:=64) (e:=1) (Al (PJ (F b.AN) P)) (PJ (F b.AN) P) (AU _) (Qd h6 d.wb d.vis) I AA AA;rw[D] at l;have hw:=p0 m E (AU _) _ l
 have k:vP wI P=true:=by
  refine MS (λi j=>?_) P (I9 P (Nb P d.wb λi j=>by have:=d.vis i j; omega))
  grind[wI]
 have B:vP wI (nuT P)=Z/\AP (nuT P)=AP P:=LD (q:=wI) (g:=λi=>(F (Hg (oc P) i.toNat):Int)) (λi j=>by grind[K1,wI]) P k;refine Vq h6 k A (AAx h6 d.wb d.vis) B.1 AA (AAy h6 d.wb d.vis (KW b)) (λx hx=>KS hw H (λc t=>AQP (s c t).1 (s c t).2) hx) hx z
end
/- QP, QI -/
theorem oH {B:Ϣ} (d:∀c∈B,AP c<2 ^ 38/\N4 c=Z) {p:Ty} (hs:AP p<2 ^ 38) (e:Ez (F B) p=Z):wW (Gc B p):=by
 have⟨f,j⟩:=dJ B p;exact⟨AA,AA,λt hm=>(d t (mT e t hm)).1⟩
structure PtP (M S:Nat) (p:Ty):Prop where
 tam:E4 (qM M) p=Z
 pat:pat p=Z
 Gw:AP p<=S
section
variable {A7:Nat->Bool} {LA:Nat->Ϥ} {ex:Nat->Ϣ->FT} {Bf:Nat->Ty} {V:Nat->Bool} {w W S:Nat}
def oC.pre (hx:∀v B,B<+:(ex v B).2) {v:Nat} {l f:Ϥ} {ps B e d:Ϣ} (h:oC A7 LA ex Bf V w W S v l ps B f e d):B<+:d:=by
 induction h with
 | nil=>simp
 | @step v l ps B k j m f e d _ _ _ _ _ _ o _ p=>
  grind[G6,HU]
end
section
variable {R:RT}
def AIc {b:Br} (e:Pk R b) {v M S:Nat} (hv:v<F b.AN) {ps k B s:Ϣ} (Q:F b.AN<=F B) (z:∀p∈ps,PtP M S p/\Bi (·==(v:Int)) p<=3) (h:Ce (Aa 64) (Bw (Aa 64) (j8 b v) v) ps [] B=(Y k,s)) (j:F s<=M):∀p∈k,PtP M (S+3*Qg) p:=by
 have⟨_,hm⟩:=Jm hv;have⟨_,l,_⟩:=e.bs _ hm;have N:=(e.wn _ hm).1;have O:Qg=630225:=rfl;have hx:∀B,F B<=F (j8 b v B).2:=λB=>(EC (A7:=Aa 32) _ (KW b v) B).length_le
 have A:=ua (Ar:=32) (M:=M) (f:=Al (KW b v)) (v:=v) l (e.cl _ hm);have C:∀a B,F B<=F (Bw (Aa 64) (j8 b v) v a B).2:=λa B=>(HU (A7:=Aa 64) (λB=>EC (A7:=Aa 32) _ (KW b v) B) v a B).length_le
 refine I5 (A7:=Aa 64) (P:=PtP M (S+3*Qg)) (lo:=v+1) (M:=M) C ps [] B k (λa D B r E d j p m=>?_) AA (by rw[h]) AB (λp e=>by grind);have⟨⟨t,u,T⟩,H⟩:=z a D;unfold Bw at d j;cases x:DZ v Z a with
 | true=>
  rw[x] at d;cases d;rw[DW.1 m];exact⟨t,u,AA⟩
 | false=>
  rw[x] at d j;simp only[AL] at d j;have L:Bi (·==(v:Int)) a*Qg<=3*Qg:=Be _ H
  have⟨k1,k2⟩:=RB (A7:=Aa 64) hx (v:=v) (lo:=v+1) (M:=M) (W:=Qg) (S:=S+3*Qg) (q:=qM M) (λB r U I K c o=>by
   have⟨q1,_,X,α,_⟩:=(A B r AA I K).2 c o
   grind) _ a B r t AA E d j p m
  have k3:=RF (A7:=Aa 64) (ex:=j8 b v) (λB r h c o=>KE (A7:=Aa 32) _ (KW b v) B r (by
   have:=(FM [] (KW b v) 0 l).2.2.2;rwa [Ck l (e.cl _ hm)] at this) h c o) _ a B r u d p m
  exact⟨k1,k3,k2⟩
def xz {b:Br} (r:Pk R b) {V:Nat->Bool} {Q:Ty->Prop} (j:∀v,v<F b.AN->G0 Q (j8 b v)) {v:Nat} {l f:Ϥ} {ps B e d:Ϣ} (h:oC (Aa 64) (qu b) (j8 b) (KW b) V aO Qg j9 v l ps B f e d):v<=F b.AN->(∀c∈B,Q c)->∀c∈d,Q c:=by
 induction h with
 | nil=>simp
 | @step v l ps B s p t f e d _ _ _ _ _ _ k _ m=>
  intro hv o;refine m AA ?_;have:=N5 (A7:=Aa 64) (λa=>Us (A7:=Aa 64) (j v AA) v a) ps [] B o;rwa [k] at this
abbrev Od:Nat:=9223372036854775807
def yA {r:Option Ϣ} (h:D0 Od 64 r):D0 Od 32 r:=⟨AH,AH,AH,.inr (by
 rcases h.2.2.2 with h|h
 all_goals grind)⟩
def AA1 (hn:Mm R) {b:Br} (k:Pk R b) {V:Nat->Bool} {e n0 N:Nat} {X0:Ϩ} (χ:n0<=e) {QR:QT} {v:Nat} {l ε:Ϥ} {ps B z j:Ϣ} (h:oC (Aa 64) (qu b) (j8 b) (KW b) V aO Qg j9 v l ps B ε z j) :
  v<=F b.AN->F j<2 ^ 30->b.AN<+:B->∀S:Nat,(∀p∈ps,PtP (F j) S p)->S+v*(3*Qg)<=2 ^ 30 ->
  (∀bs tk a d,BM ⟨bs,tk⟩->F bs=N->bs.take n0=X0->bs[e]?=Y [d,AG Od]->BN d (Aj j)->BN a (Aj (CO z))->(∀p∈z,PtP (F j) (2 ^ 30) p)->AEV R 0 0 0 (.ptr e 0) a ⟨bs,tk⟩ QR) ->
  ∀bs tk a d,BM ⟨bs,tk⟩->F bs=N->bs.take n0=X0->bs[e]?=Y [d,AG Od]->D1 0 tk 25 d (Aj B)->BN a (Aj (CO ps))->AEW R 0 0 0 (.ptr e 0) a (BB Z) (AG ((v:Int)-1)) ⟨bs,tk⟩ QR:=by
 induction h with
 | nil=>
  intro _ _ _ S A hS L bs tk a d E O Q m T U;refine AEX (Fq ?_);rw[A5 AA]
  exact B7 (pk (A4 (L bs tk a d E O Q m T.BA U λp k=>by
   have⟨o,H,X⟩:=A p k;exact⟨o,H,AA⟩)))
 | @step v l ps B Ψ Λ ψ ε z j Ω a0 ι γ _ _ u ω Γ=>
  intro hv κ I S A hS L bs tk a d E O Q m T U;have em:(v+1)*(3*Qg)=v*(3*Qg)+3*Qg:=by rw[DM,JT]
  have⟨η,hm⟩:=Jm (b:=b) (v:=v) AA;have⟨Ξ,C,μ⟩:=k.bs _ hm;have K:=k.cl _ hm;have ν:=(k.wn _ hm).1;have ξ:=I.length_le;have ο:ψ<+:j:=oC.pre (λv B=>EC (A7:=Aa 32) _ (KW b v) B) ω;have θ:=ο.length_le;have β:=G6 (A7:=Aa 64) (g:=Bw (Aa 64) (j8 b v) v) (λc B=>HU (λB=>EC (A7:=Aa 32) _ (KW b v) B) v c B) ps [] B;rw[u] at β;have Φ:=(BJ.1 m).1;have h6:=k.len;refine AEX (Fq ?_);rw[Ax AA];refine Aw (b:=Z) (pk (BH (AQQ ?_)));rw[show(((v+1:Nat):Int)-1)=(v:Int) by omega]
  have π:ExB 64 v (F j) (wt (KW b v)) b.AN (qM (F j)) (j8 b v):=by
   have:=jV (Ar:=32) (M:=F j) (f:=Al (KW b v)) (v:=v) (B0:=b.AN) C K AA;exact⟨this.pre,λB r o H X=>⟨BC (this.res B r o H X).1 AH,(this.res B r o H X).2⟩⟩
  have ρ:=Zi (R:=R) hn (e:=e) (ml:=Od) (Ar:=64) (S:=S+3*Qg) (λi Δ=>by grind) AH AA π η (λB s ς _ σ τ=>by
   have:=I8 (R:=R) hn (e:=e) (ml:=Od) (Ar:=32) (M:=F j) AH AH AA (Al (KW b v)) (KW b v) [] (AU _) C K (L2 μ.jW AH) AA B (λx hx=>by grind);rw[Ck C K,IU _ C] at this;exact this σ (yA τ) _ (BD.Bo _).Du s ς)
  obtain⟨a1,a2,⟨α,δ,k1,k2,k3,rfl⟩,k4⟩:=mI (R:=R) hn (e:=e) (ml:=Od) (Ar:=64) (M:=F j) (W:=wt (KW b v)) (S:=S+3*Qg) (B0:=b.AN) (q:=qM (F j)) (λi Δ=>by grind) AH AA (ex:=j8 b v) (v:=v) (λB=>EC (A7:=Aa 32) _ (KW b v) B) ι U (λt ζ=>by
   have⟨a3,a4,a6⟩:=A t ζ;have o:Bi (·==(v:Int)) t*wt (KW b v)<=3*Qg:=L3 (γ t ζ) ν
   grind) ρ I AB (by rw[u]; exact⟨AH,AH,AH,.inr rfl⟩) E (Co (env R) 39 0 0 0) d rfl rfl m T
  rw[u] at k1 k2;obtain⟨Θ,rfl,υ⟩:=k1;refine⟨_,_,k4,B9 rfl (B9 rfl (AQR (FL AA AA ?_)))⟩;have φ:BM ⟨bs.set e [α,AG Od],δ⟩:=BM.set (s:=⟨bs,tk⟩) E (by simp[Ap,A6,k2.BA.A6]) _;exact Γ AA κ (I.trans β) (S+3*Qg) (λp D=>AIc k AA ξ (λp D=>⟨A p D,γ p D⟩) u θ p D) AA L (bs.set e [α,AG Od]) δ Θ α φ (by rw[Ns,O]) ((Cf χ).trans Q) (BT m) k2 υ
def AA2 (hn:Mm R) {B:Ϣ} (π:F B<=2 ^ 37) (M:∀t∈B,AP t<2 ^ 38/\N4 t=Z) {ps:Ϣ} (ρ:F ps<2 ^ 20) (α:∀p∈ps,AP p<2 ^ 36/\Ez (F B) p=Z) {a:AV} (ε:BN a (Aj (CO ps))) {n e:Nat} {X:Ϩ} {d ml:AV} (ζ:X[e]?=Y [d,ml]) (η:BN d (Aj B)) {QR:QT}
  (hS:∀bs tk v,BM ⟨bs,tk⟩->bs.take n=X->n<=F bs->EE n bs (ps.map (Gc B)) v->QR v ⟨bs,tk⟩) :
  ∀(j p:Nat) (bs:Ϩ) (tk:Ϫ) (l:AV),p+j=F ps->BM ⟨bs,tk⟩->bs.take n=X->n<=F bs->EE n bs ((ps.take p).map (Gc B)) l ->
   AEY R 0 0 0 (.ptr e 0) l a (AG (F ps)) (AG p) ⟨bs,tk⟩ QR:=by
 intro j
 induction j with
 | zero=>
  intro p bs tk l θ N O D Q;refine AEZ (Ao ?_)
  simp_all[AQS]
 | succ j ς=>
  intro p bs tk l θ N O D Q;refine AEZ (Ao ?_);rw[Ax AA];have⟨c,ι⟩:∃c,ps[p]?=Y c:=⟨_,Az AA⟩;have⟨Δ,κ⟩:=α c (A8 ι);have σ:(CO ps)[p]?=Y (ren c):=by grind[Bx]
  have r:F ((Av (ren c)).map AV.pv)=4:=by grind[Aq]
  have E:=DG (ren c)
  have H:Ap (F bs+1) ((Av (ren c)).map AV.pv)=true:=by
   have⟨k1,Θ,Λ,Ξ⟩:=ren c;rfl
  have C:=BD.Bo (ren c);have τ:ps.take (p+1)=ps.take p++[c]:=by grind[List.take_add_one]
  refine BH (AQT (Bc ε (row:=Av (ren c)) AA (by grind[BK]) (Aq _) AA (Cd (Bh ?_))));generalize (Av (ren c)).map AV.pv=f at r E H C;refine Bn (A0 bs Z4) r rfl AH (AO _) E (.inl (AO _)) ?_;have μ:(bs++[Z4]).set (F bs) f=bs++[f]:=AD;rw[μ];have u:BM ⟨bs++[f],tk⟩:=BM.app (s:=⟨bs,tk⟩) N H;have T:=A0 bs f;have x:=(DL D f).trans O;have I:EE n (bs++[f]) ((ps.take p).map (Gc B)) l:=Q.mono (AU _) λj c _ A=>Am A _
  have ν:F (bs++[f])=F bs+1:=AD;refine Ag T r ?_;generalize bs++[f]=k at u T x I ν;have β:k[e]?=Y [d,ml]:=CN x ζ;obtain⟨w,Φ,⟨z,o,Ψ,rfl⟩,ξ⟩:=NR (R:=R) hn (L:=Co (env R) 39 0 0 0) (p:=c) (s:=⟨k,tk⟩) AA (λt U=>⟨.of (M t U).1,(M t U).2⟩) AA κ C.Du u β η rfl rfl;refine⟨_,_,ξ,?_⟩;obtain⟨m,rfl⟩:=o.agg;have⟨Ω,a0,ο⟩:=o.cells;have υ:BM ⟨k++[m],z⟩:=BM.app (s:=⟨k,z⟩) u (ο _);have K:EE n (k++[m]) ((ps.take p).map (Gc B)) l:=I.mono (AU _) λj c _ A=>Am A _
  have γ:=(DL (n:=n) AA m).trans x;refine KH o ⟨AH,U3 (s:=⟨k++[m],z⟩) o (A0 k _) K rfl AB (λa1 φ χ δ ψ ω _=>?_) AB⟩;have Γ:=eV AA K δ γ;have em:(ps.take (p+1)).map (Gc B)=(ps.take p).map (Gc B)++[Gc B c]:=AB;refine AQU (Bb AA AA ?_)
  grind
def YJ (hn:Mm R) {b:Br} (m:Pk R b) {P:Ty} (σ:A2 P=Z) (hsz:AP P<=200) {V:Nat->Bool} {l a0:Ϥ} {ps B A u:Ϣ} (ι:oC (Aa 64) (qu b) (j8 b) (KW b) V aO Qg j9 (F b.AN) l ps B a0 A u) (τ:F u<2 ^ 30) (hl':F A<=64) (ξ:b.AN<+:B) (υ:∀c∈B,AP c<2 ^ 38/\N4 c=Z) (M:∀q∈ps,PtP (F u) 2801 q)
  (ρ:∀e x,BX (ren (Gx (F b.AN) P)) x->∀s,BM s->V4 R e Od 44 [x] (Y ps,B) b.AN s) {x p:AV} (hx:HM b x) (T:BD P p) {s:AY} (hs:BM s) {L:Ba} (φ:L.n0=0) (χ:L.ro=0) (ψ:L.rt=0) :
  ∃r K,(EE (F s.bs) K.bs (A.map (Gc u)) r/\K.bs.take (F s.bs)=s.bs/\F s.bs<=F K.bs/\BM K/\∀c∈A.map (Gc u),wW c)/\Bk (env R) L 39 [x,p] s r K:=by
 have h6:=m.len;obtain⟨a,y,rfl,o,a1⟩:=hx;have⟨y1,a2,a3,y4⟩:=a1.cells;obtain⟨py,rfl⟩:=T.Du.agg;have⟨a4,a6,a7,p4⟩:=T.cells;have⟨X,ω,a8⟩:=m.vb;have ς:(b.AN.all λt=>C2 (X t))=true:=ω.2.2.2.2.2.2;refine m39 ?_;rw[φ,χ,ψ];have D:=Am (A0 s.bs (a::y)) py;have U:=A0 (s.bs++[a::y]) py;have β:BM ⟨s.bs++[a::y]++[py],s.ts⟩:=BM.app (s:=⟨s.bs++[a::y],s.ts⟩) (BM.app (s:=s) hs (by simp[Ap,o.A6,BV (AO _) _ a3])) (BV (AO _) _ a7);have γ:(s.bs++[a::y]++[py]).take (F s.bs)=s.bs:=AD;have Γ:F (s.bs++[a::y]++[py])=F s.bs+2:=AD;refine AQV (Bs (cs:=a::y) rfl (by simp[o.ok,a2]) (Bs (cs:=py) rfl a6 ?_));have δ:F (s.bs++[a::y])=F s.bs+1:=AD;rw[δ] at U;simp only[δ];generalize s.bs++[a::y]++[py]=f at D U β γ Γ;refine AR (Ab D) (Ad (off:=0) D rfl (AI (IX o AA (λc hm _=>by grind) a8) ?_));rintro _ rfl;rw[ς];refine nt (A4 (AQW (AR (Ab D) (Ad (off:=0) D rfl ?_))));obtain⟨d,s1,⟨C,rfl,E,h2⟩,Δ⟩:=MR (R:=R) (l:=b.AN) AA (.inl o) (L:=Co (env R) 39 0 0 0) rfl ⟨f,s.ts⟩;have κ:BS (AG Od)=true:=rfl;have a9:cellsOf (AG Od)=[AG Od]:=rfl;refine⟨_,_,Δ,FV (cs:=[d,AG Od]) (by simp[Ee,E.BA.cells,E.BA.ok,κ,a9,setCells]) (Bs (cs:=[d,AG Od]) rfl (by simp[E.BA.ok,κ]) ?_)⟩;have μ:=Am D [d,AG Od];have ε:=Am U [d,AG Od];have H:=A0 f [d,AG Od];have ζ:=(DL (n:=F s.bs) AA [d,AG Od]).trans γ;have O:BM ⟨f++[[d,AG Od]],C⟩:=BM.app (s:=⟨f,C⟩) β (by simp[Ap,A6,E.BA.A6]);have Θ:F (f++[[d,AG Od]])=F f+1:=AD
 show EX _ ⟨f++[[d,AG Od]],C⟩ _ _ _
 generalize f++[[d,AG Od]]=k at μ ε H ζ O Θ;refine Ag ε a4 ?_;have⟨r,b0,ο⟩:=eH (R:=R) hn (e:=F f) (Ar:=Od) E.BA AA (t:=P) AA σ T (s:=⟨k,C⟩) O H;refine⟨_,_,ο _ (AO _),?_⟩;obtain⟨w,s4,⟨z,η,q1,I,ν,rfl⟩,b2⟩:=ρ (F f) _ b0.Du ⟨k,C⟩ O (Co (env R) 39 0 0 0) d rfl rfl H E;obtain⟨b3,rfl,Λ⟩:=q1;have Ξ:BM ⟨k.set (F f) [z,AG Od],η⟩:=BM.set (s:=⟨k,C⟩) O (by simp[Ap,A6,I.BA.A6]) _;have θ:(k.set (F f) [z,AG Od])[F s.bs]?=Y (a::y):=BR μ AA;have Φ:(k.set (F f) [z,AG Od])[F f]?=Y [z,AG Od]:=BT H;have Ψ:(k.set (F f) [z,AG Od]).take (F s.bs)=s.bs:=(Cf AA).trans ζ;have Ω:F (k.set (F f) [z,AG Od])=F k:=AD;refine⟨_,_,b2,B9 rfl (B9 rfl (AR (Ab θ) (Ad (off:=0) θ rfl (Au (n:=F b.AN) (by rw[o.BG,Ae]) (FL AA AA ?_)))))⟩
 have π:∀c∈u,AP c<2 ^ 38/\N4 c=true:=xz m (Q:=λc=>AP c<2 ^ 38/\N4 c=Z) (λv hv=>by
   have⟨_,hm⟩:=Jm hv;have⟨q1,I,_⟩:=m.bs _ hm;have:=Ll (A7:=Aa 32) (P:=λc=>AP c<2 ^ 38/\N4 c=Z) (Al (KW b v)) (KW b v) [] I (m.cl _ hm) (Lj (λc hs=>⟨by have:=hs.Gw; omega,HW hs.val hs.cl⟩) _ (QJ _ _ (AU _) I));rwa [Ck I (m.cl _ hm)] at this) ι (AU _) υ
 refine AA1 hn m (n0:=F s.bs) (N:=F k) (X0:=s.bs) (e:=F f) AA ι (AU _) τ ξ 2801 M AB (λα tk a d hs hN hT H b4 o M=>?_) _ η b3 z Ξ Ω Ψ Φ I Λ
 .refine AQX (Au (n:=F A) (by rw[o.BG,Ae,Bx,Bj]) (AA2 hn (B:=u) AA π AA (λp m=>?_) o (n:=F α) (X:=α) H b4 (λbs2 tk2 v b5 w2 w3 b6=>⟨b6.mono AA λj c _ b7=>b7,?_,?_,b5,λc b8=>?_⟩) (F A) 0 α tk (.AE []) AA hs (Lu ..) (AU _) (.inl ⟨rfl,rfl⟩)))
  .have⟨q1,_,ν⟩:=M p m
   grind[F8]
  .grind
  .grind
  .obtain⟨q,b9,rfl⟩:=Cw.1 b8
   have⟨q1,_,ν⟩:=M q b9
   grind[oH,F8]
end
end Go.Proofs.YtpgfpakdnijngaaGreatDoor
