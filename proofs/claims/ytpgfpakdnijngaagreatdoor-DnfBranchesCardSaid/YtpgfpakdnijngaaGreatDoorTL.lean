/-
  UnionOf, both; the same integers.
-/
import Derived.Test.YtpgfpakdnijngaaGreatDoorTK
import Derived.Test.YtpgfpakdnijngaaGreatDoorTI
set_option linter.all false
namespace Go.Proofs.YtpgfpakdnijngaaGreatDoor
open Go.Tel
open List renaming length->F
open Option renaming some->Y
open Bool renaming true->Z,false->ϴ
attribute [local simp] Hr MD Ir JL EK E3 Ee wO setCells Hw EX Dd Co Ex alive Dh Jf Qk bU Gq Iu Gl Hs K9 Iv gX fY okB gY gZ gh gi gj ag gm gp gu gv gw gx gy gz hG hJ hO okF hY iA iB iC iD Tu iE Ow Ox Oy Oz iG iH iI iJ iK iL iM iP iQ iR GG iT fZ iU iV iW iX iY iZ ia ic ie ig C0
/- QP, QI -/
def unT:Ϥ->Ty
 | []=>.mk 1 [] 0 []
 | [b]=>VX b
 | b::c::l=>.mk 4 [] 0 ((b::c::l).map VX)
section
variable {R:RT}
def YK {b:Br} (d:Pk R b):(∀x,CL b x->Ah (env R) 29 [x] λr=>BD (VX b) r)/\∀x,CL b x->Ah (env R) 31 [x] λr=>BD (VX b) r:=by
 have f:=d.len;have l:=d.Gw;refine⟨λx hx=>Rj AA d.val AA (λt e=>?_) hx,λx hx=>?_⟩
 .have⟨q1,j,_⟩:=d.bs t e
  exact⟨AA,HW j (d.cl t e)⟩
 .have k:vP wI b.AM=true:=by
   refine MS (λi m=>?_) _ (I9 _ d.val)
   grind[wI]
  have:=K0 (R:=R) AA k AA hx;rwa [d.cn.R f] at this
def AA3 {l:Ϥ} (M:F l<=32) (y:∀b∈l,Pk R b) {a:AV} (z:A3 a (l.map C7)) {Post:AV->Prop} (A:∀r,BD (.mk 4 [] 0 (l.map VX)) r->Post r) :
  ∀(j p:Nat) (bs:Ϩ) (tk:Ϫ) (o:AV),p+j=F l->bs[0]?=Y Z4->bs[1]?=Y [AG 4,SS [],AG 0,o]->D1 0 tk 25 o (Aj ((l.take p).map VX)) ->
   AEa R 0 0 0 (.ptr 0 0) (.ptr 1 0) a (AG (F l)) (AG p) ⟨bs,tk⟩ (QP Post):=by
 intro j
 induction j with
 | zero=>
  intro p bs tk o B k m f;refine AEb (Ao ?_);rw[A5 AA];rw[CC AA] at f;exact A4 (AQY (Ag m rfl (Eh k rfl (t:=.mk 4 [] 0 (l.map VX)) ⟨o,rfl,f.BA⟩ A)))
 | succ j N=>
  intro p bs tk o B k m f;refine AEb (Ao ?_);rw[Ax AA];have⟨c,s⟩:∃c,l[p]?=Y c:=⟨_,Az AA⟩;refine BH (AQZ (Kv (.inr (.inl z)) s λd n=>Bh ?_));have⟨u,C,O⟩:=n.cells;refine MV (A0 bs Z5) u (AO _) C (AO _) ?_;have D:(bs++[Z5]).set (F bs) d=bs++[d]:=AD;rw[D];have x:=Am k d;have e:=Am m d;have E:=A0 bs d;have hm:F (bs++[d])=F bs+1:=AD;refine AR (Ab e) (Ad (off:=3) e rfl (Ag E u (AI ((YK (y c (A8 s))).1 _ n) λv H=>Eg H.Du ⟨AH,O6 f rfl AB λQ K i=>?_⟩)));have I:(l.take p).map VX++[VX c]=(l.take (p+1)).map VX:=by grind[List.take_add_one]
  rw[I] at i;generalize bs++[d]=L at x e hm;refine AR (Ab e) (C1 e AD i.BA.cells (AO _) i.BA.ok (.inl (AO _)) ⟨AR (Ab e) (D8 _ _),Ad (off:=3) e rfl (Fm f),AQa (Bb AA AA ?_)⟩)
  grind
def aP {l:Ϥ} (f:F l<=32) (e:∀b∈l,Pk R b) {a:AV} (d:A3 a (l.map C7)):Ah (env R) 36 [a] λr=>BD (unT l) r:=by
 refine e36 (u0:=a) (by simp[d.close]) (AQb (Bh (Au (n:=F l) (by rw[d.BG,Bj]) (BE ?_))));have i:(AY.mk ([]++[Z4]) []).bs[0]?=Y Z4:=rfl
 match l,f,e,d with
 | [],_,_,_=>exact BH (FV (cs:=[AG 1,SS [],AG 0,.AE []]) rfl (Eh i rfl (t:=.mk 1 [] 0 []) ⟨.AE [],rfl,.inl (.AE _)⟩ λr h=>h))
 | [b],_,e,d=>
  refine A4 (BE (BH (Kv (p:=0) (.inr (.inl d)) rfl λs k=>AI ((YK (e b AD)).1 _ k) λv j=>?_)));obtain⟨u,rfl⟩:=j.Du.agg;exact Eh i rfl j.Du λr h=>h
 | b::c::l,f,e,d=>
  have m:((F (b::c::l):Int)==0)=false:=AX;have o:((F (b::c::l):Int)==1)=false:=AX;rw[m];refine A4 (BE ?_);rw[o];refine A4 (AQc (FV (cs:=[AG 4,SS [],AG 0,.AE []]) rfl (Bh (Bn (old:=Z4) rfl rfl rfl AH (AO _) rfl (.inl (AO _)) (Au (n:=F (b::c::l)) (by rw[d.BG,Bj]) ?_)))));exact AA3 f e d (λr h=>h) (F (b::c::l)) 0 [Z4,[AG 4,SS [],AG 0,.AE []]] [] (.AE []) AA rfl rfl (.inl rfl)
def yB {l:Ϥ} (D:F l<=32) (u:∀b∈l,Pk R b) {a:AV} (i:A3 a (l.map C7)) {Post:AV->Prop} (x:∀r,BD (.mk 4 [] 0 (l.map VX)) r->Post r) :
  ∀(j p:Nat) (bs:Ϩ) (tk:Ϫ) (o:AV),p+j=F l->bs[0]?=Y Z4->bs[1]?=Y [AG 4,SS [],AG 0,o]->D1 0 tk 25 o (Aj ((l.take p).map VX)) ->
   AEc R 0 0 0 a (.ptr 0 0) (.ptr 1 0) (AG p) ⟨bs,tk⟩ (QP Post):=by
 intro j
 induction j with
 | zero=>
  intro p bs tk o y k d e;refine AEd (Au (n:=F l) (by rw[i.BG,Bj]) (Ao ?_));rw[A5 AA];rw[CC AA] at e;exact A4 (AQd (Ag d rfl (Eh k rfl (t:=.mk 4 [] 0 (l.map VX)) ⟨o,rfl,e.BA⟩ x)))
 | succ j E=>
  intro p bs tk o y k d e;refine AEd (Au (n:=F l) (by rw[i.BG,Bj]) (Ao ?_));rw[Ax AA];have⟨c,m⟩:∃c,l[p]?=Y c:=⟨_,Az AA⟩;refine BH (AQe (AR (Ab d) (Ad (off:=3) d rfl (Kv (.inr (.inl i)) m λB s=>AI ((YK (u c (A8 m))).2 _ s) λv z=>Eg z.Du ⟨AH,O6 e rfl AB λH C f=>?_⟩))));have A:(l.take p).map VX++[VX c]=(l.take (p+1)).map VX:=by grind[List.take_add_one]
  rw[A] at f;refine AR (Ab d) (C1 d AD f.BA.cells (AO _) f.BA.ok (.inl (AO _)) ⟨AR (Ab d) (D8 _ _),Ad (off:=3) d rfl (Fm e),AQf (Bb AA AA ?_)⟩)
  grind
def We {l:Ϥ} (f:F l<=32) (e:∀b∈l,Pk R b) {a:AV} (d:A3 a (l.map C7)):Ah (env R) 37 [a] λr=>BD (unT l) r:=by
 refine e37 (u0:=a) (by simp[d.close]) (AQg (Bh (Au (n:=F l) (by rw[d.BG,Bj]) (BE ?_))));have i:(AY.mk ([]++[Z4]) []).bs[0]?=Y Z4:=rfl
 match l,f,e,d with
 | [],_,_,_=>
  refine BH (AI VV ?_);rintro _ rfl;exact Eh i rfl (t:=.mk 1 [] 0 []) ⟨_,rfl,.inl (.AE _)⟩ λr h=>h
 | [b],_,e,d=>
  refine A4 (BE (BH (Kv (p:=0) (.inr (.inl d)) rfl λs k=>AI ((YK (e b AD)).2 _ k) λv j=>?_)));obtain⟨u,rfl⟩:=j.Du.agg;exact Eh i rfl j.Du λr h=>h
 | b::c::l,f,e,d=>
  have m:((F (b::c::l):Int)==0)=false:=AX;have o:((F (b::c::l):Int)==1)=false:=AX;rw[m];refine A4 (BE ?_);rw[o];refine A4 (AQh (FV (cs:=[AG 4,SS [],AG 0,.AE []]) rfl (Bh (Bn (old:=Z4) rfl rfl rfl AH (AO _) rfl (.inl (AO _)) ?_))));exact yB f e d (λr h=>h) (F (b::c::l)) 0 [Z4,[AG 4,SS [],AG 0,.AE []]] [] (.AE []) AA rfl rfl (.inl rfl)
def Wh {L:Ϛ} (i:F L<2 ^ 40) {x y:AV} (hx:A3 x (Ai L)) (b:A3 y (Ai L)):Ah (env R) 38 [x,y] λr=>r=BB true:=by
 refine e38 (u0:=x) (u1:=y) (by simp[hx.close,b.close]) (AQi (Au (n:=F L) (by rw[hx.BG,BP]) (Au (n:=F L) (by rw[b.BG,BP]) (Ef ?_))));rw[show((F L:Int) != (F L:Int))=ϴ by simp];refine A4 (AQj ?_)
 have d:∀j p:Nat,p+j=F L->AEe R 0 0 0 x y (AG p) ⟨[],[]⟩ (QP λr=>r=BB Z):=by
  intro j
  induction j with
  | zero=>
   intro p e;refine AEf (Au (n:=F L) (by rw[hx.BG,BP]) (Ao ?_));rw[A5 AA];exact A4 (AQk ⟨_,rfl,rfl⟩)
  | succ j f=>
   intro p e;refine AEf (Au (n:=F L) (by rw[hx.BG,BP]) (Ao ?_));rw[Ax AA];have⟨w,k⟩:∃w,L[p]?=Y w:=⟨_,Az AA⟩;refine BH (AQl (BL hx (row:=[.sc (.int .i64 w)]) AA (by simp[*,Ai]) rfl AA (Ds (BL b (row:=[.sc (.int .i64 w)]) AA (by simp[*,Ai]) rfl AA (Ds (Ef ?_))))));rw[show(w != w)=ϴ by simp];refine A4 (AQm (Bb AA AA ?_));have:=f (p+1) AA
   grind
 exact d (F L) 0 AA
def p9 {b:Br} (C:AP b.AM<2 ^ 20) {k:Int} (E:k<0\/F (Af b.AM)<=k) {x:AV} (hx:HM b x) {s:AY} (hs:BM s) {L:Ba} (f:L.n0=0) (i:L.ro=0) (j:L.rt=0) :
  ∃r d,(r=.tuple [.AE [],BB ϴ]/\d.bs.take (F s.bs)=s.bs/\F s.bs<=F d.bs/\BM d)/\Bk (env R) L 24 [x,AG k] s r d:=by
 have l:=hx;obtain⟨a,y,rfl,e,t⟩:=hx;have⟨H,u,z,I⟩:=t.cells;refine m24 ?_;rw[f,i,j];have A:=A0 s.bs (a::y);have m:BM ⟨s.bs++[a::y],s.ts⟩:=BM.app (s:=s) hs (by simp[Ap,e.A6,BV (AO _) _ z]);have o:(s.bs++[a::y]).take (F s.bs)=s.bs:=AD;refine AD5 (Bs (cs:=a::y) rfl (by simp[e.ok,u]) (Ag A AB (AI (Fg AA (by grind[Eb]) l) λK p=>Ao ?_)));have D:(AV.tuple [.AE [],BB ϴ]=AV.tuple [.AE [],BB ϴ])/\(s.bs++[a::y]).take (F s.bs)=s.bs/\F s.bs<=F (s.bs++[a::y])/\BM ⟨s.bs++[a::y],s.ts⟩:=⟨rfl,o,AD,m⟩;cases B:decide (k<0) with
 | true=>
  simp[*]
 | false=>
  have B:¬ k<0:=AB;refine Aw (b:=ϴ) (Aw (b:=ϴ) (Aw (b:=ϴ) (Au (n:=F (Af b.AM)) (by rw[p.BG,BP]) (Aw (b:=ϴ) (Fq (pk ?_))))));rw[Ax AA];simp[*]
end
abbrev sI:Int->Bool:=λi=>decide (0<=i)&&decide (i<=2 ^ 21)
section
variable {R:RT}
def qB {b:Br} (e:Pk R b) {k:Nat} (r:k<F (Af b.AM)) {Bf:Ϣ} (s:b.AN<+:Bf) {c:Br} {q:Ty} {φ:Ϟ} (H:Rl ϴ 0 Bf (F b.AN) (F Bf) [] c q φ) (I:F φ<=1859359) (l:vP wI c.AM=Z) (hs:AP c.AM<=2 ^ 27) :
  Gc Bf (JM Nc q (Gx (F b.AN) b.AM) k)=CE (CA b k (CE c))/\AP (CE c).AM<2 ^ 36/\TI (CE c).AM=Z/\F (CE c).AN<2 ^ 36/\VK (CA b k (CE c)):=by
 have K:(AW:Int)=1073741824:=rfl;have t:=e.len;have B:=e.Gw;have L:=Rl.N8 (lo:=0) { H with LM:=λx hx=>⟨AO _,(H.LM x hx).2⟩ };have j:CG (F (BQ c.AM [])):=by show _<AW; omega
 have⟨ψ,m⟩:=AIR H j;have M:F (CE c).AN=F (BQ c.AM []):=by simp[CE]
 have C:=m.len;have f:=AAr e.cn t s m r AA;have o:=Rl.N8 f;simp only[B6,List.length_range] at o;have D:=(RU l AA).1
 have u:(CE c).AM=Bq (λi=>var (pos (BQ c.AM []) i)) c.AM:=UN H.bd (λi d=>by
  rcases H.vis i d with h|h|h
  all_goals grind) j
 have n:vP sI (CE c).AM=true:=by
  rw[u];refine(LD (p:=wI) (q:=sI) (g:=λi=>(pos (BQ c.AM []) i:Int)) (λi _=>?_) c.AM l).1
  grind[pos]
 have y:vP wI (HE (F b.AN) (CE c).AM)=Z/\AP (HE (F b.AN) (CE c).AM)=AP (CE c).AM:=by
  rw[MT];refine LD (p:=sI) (q:=wI) (g:=λi=>bif decide (0<=i)&&!(i==AW) then i+(F b.AN:Int) else i) (λi d=>?_) (CE c).AM n
  grind[wI]
 have z:vP wI b.AM=true:=by
  refine MS (λi d=>?_) _ (I9 _ e.val)
  grind[wI]
 have A:vP wI (CA b k (CE c)).AM=Z/\AP (CA b k (CE c)).AM<=AP b.AM+AP (HE (F b.AN) (CE c).AM):=uj y.1 b.AM k z;have N:F (CA b k (CE c)).AN=F b.AN+F (CE c).AN:=by simp[CA]
 refine⟨UO f (AU _) (by show _<AW; omega),AA,NV (λi d=>?_) _ n,AA,AA,A.1,AA,λi d=>?_⟩
 .grind
 .have E:=f.len
  rcases G3 _ _ i d with h|h
  .cases h
  .rcases f.vis i h with h|h|h
   all_goals grind
def yC {b:Br} (f:Pk R b) {k v:Nat} (D:(Af b.AM)[k]?=Y (v:Int)) {t:Ty} (I:b.AN[v]?=Y t) :
  ∃cs Bf l,BI (Aa 32) (Al t) t b.AN=(Y cs,Bf)/\DR (Aa 32) (Al t) t=Y l/\cs.map (pq Bf (Gx (F b.AN) b.AM) k)=(l.map CE).map (λc=>CE (CA b k c))/\(∀c∈l.map CE,AP c.AM<2 ^ 36/\TI c.AM=Z/\F c.AN<2 ^ 36/\VK (CA b k c))/\F cs<=32/\∀c∈cs.map (pq Bf (Gx (F b.AN) b.AM) k),wW c:=by
 have n:=A8 I;have⟨S,u,s⟩:=f.bs t n;have y:=f.cl t n;have T:=f.bw t n;have K:=f.len;have L:=(BJ.1 D).1;have U:=f.Gw;have⟨l,o,_⟩:=Qf f n;have r:=MM (A7:=Aa 32) rfl rfl (Al t) t [] u y EI s.bws b.AN (λx hx=>by grind);rw[Ck u y,o] at r;rcases z:BI (Aa 32) (Al t) t b.AN with ⟨_|cs,Bf⟩
 .rw[z] at r
  exact r.elim
 .rw[z] at r
  obtain⟨C,M⟩:=r;have hF:=eZ f n z;have E:=Lr u y s o
  have one:∀c∈l,∀q,(∃φ,Rl ϴ 0 Bf (F b.AN) (F Bf) [] c q φ)->_:=λc j q ⟨φ,H⟩=>qB f L C H (by
   have β:=(Cq (A7:=Aa 32) (Al t) t l o c j).1;have:=H.len;omega) (E c j).1.ok (by
   have:=(Ln (Al t) t l u s.bws o c j).Gw;have:=s.jW;omega)
  refine⟨cs,Bf,l,rfl,o,?_,λc j=>?_,hF.num,λc j=>?_⟩
  .have W:∀{m:Ϥ} {ps:Ϣ},(∀c∈m,c∈l)->CD (λN p=>∃φ,Rl ϴ 0 Bf (F b.AN) (F Bf) [] N p φ) m ps->ps.map (pq Bf (Gx (F b.AN) b.AM) k)=(m.map CE).map (λc=>CE (CA b k c)):=by
    intro m
    induction m with
    | nil=>intro ps _ h; cases ps with
     | nil=>rfl
     | cons _ _=>exact h.elim
    | cons c m O=>intro ps hm h; cases ps with
     | nil=>exact h.elim
     | cons p ps=>
      have e:=(one c (hm c AD) p h.1).1;rw[CH,CH,CH,O (λd A=>hm d (C4 _ A)) h.2];congr 1
   grind
  .obtain⟨d,A,rfl⟩:=Cw.1 j
   have⟨i,Q⟩:=Np A;have⟨q,_,B⟩:=OC M Q
   grind
  .obtain⟨q,B,rfl⟩:=Cw.1 j
   have⟨q1,γ⟩:=hF.pat q B;have X:AP (Gx (F b.AN) b.AM)<=AP b.AM:=Va _ b.AM ϴ (AU _)
   have α:Bi Nc (Gx (F b.AN) b.AM)=F (Af b.AM):=by
    rw[f.cn.pat K,NF _ _ _ (KR _ f.cn.wb)];simp
   have δ:=N3 (m:=Nc) (b:=q) (Gx (F b.AN) b.AM) k AA;have ε:Ez (F b.AN) (Gx (F b.AN) b.AM)=true:=Z6 b.AM ϴ f.val;refine oH hF.Dz AA ?_
   grind[F8,NI,Ea]
end
mutual
def AEg (g:Int->Ty):∀(t:Ty) (e:Bool),A2 t=Z->CJ 0 t=Z->OB g e t=t
 | .mk k n i ts,e,b,f=>by
  have d:=b;simp only[A2,AK] at b;rw[OB];cases o:k==5 with
  | true=>
   have:k=5:=AB;subst this;have p:=(EL d).2.2;obtain⟨rfl,rfl,_⟩:=EL d;have:=Iy f;omega
  | false=>
   cases h:(k==2||(k==3&&!e)) with
   | false=>rfl
   | true=>
    have l:k≠6:=AB;have j:k≠5:=AB;simp only[AL,AQ];rw[yD g ts _ b.2 λt m=>FJ l (Dq f j) m]
def yD (g:Int->Ty):∀(l:Ϣ) (e:Bool),BO l=Z->(∀t∈l,CJ 0 t=Z)->Rb g e l=l
 | [],_,_,_=>rfl
 | t::l,e,b,d=>by
  simp only[BO,AK] at b;rw[Rb,AEg g t e b.1 (d t AD),yD g l e b.2 λu f=>d u (C4 _ f)]
end
theorem aQ {V:Nat->Bool} (h:∀v,V v=ϴ):∀n:Nat,Hg V n=[]
 | 0=>rfl
 | n+1=>by rw[Hg,h n,aQ h n]; rfl
def AA4 {A7:Nat->Bool} {LA:Nat->Ϥ} {ex:Nat->Ϣ->FT} {Bf:Nat->Ty} {V:Nat->Bool} {w W S v:Nat} (e:∀v,V v=ϴ) {l b:Ϥ} {ps B d f:Ϣ} (h:oC A7 LA ex Bf V w W S v l ps B b d f):b=l:=by
 induction h with
 | nil=>rfl
 | step _ _ _ _ _ i _ _ j=>rw[j,i (e _)]
section
variable {R:RT}
structure PtA (R:RT) (b:Br) (P:Ty) (ls:Ϥ):Prop where
 prog:∀x p,HM b x->BD P p->∀s,BM s->∀L:Ba,L.n0=0->L.ro=0->L.rt=0->∃r s',(EE (F s.bs) s'.bs ls r/\s'.bs.take (F s.bs)=s.bs/\F s.bs<=F s'.bs/\BM s'/\∀c∈ls,wW c)/\Bk (env R) L 39 [x,p] s r s'
 ref:∀x p,HM b x->BD P p->Ah (env R) 40 [x,p] λr=>A3 r (ls.map C7)
 len:F ls<=64
def OD (hn:Mm R) {b:Br} (f:Pk R b) {P:Ty} (d:Pt b P):∃ls,PtA R b P ls:=by
 have hb:∀n,n<=64->Aa 64 n=false:=λn h=>by grind
 have j:=f.len;have D:=d.Gw;have⟨N,k1,k2,k3,φ,k4⟩:=j7 (A7:=Aa 64) j d.wb d.vis hb (B:=b.AN) rfl (AU _) d.Gw d.cov (w:=aO) (W:=Qg) (S:=j9) AH;have k:=xw j d.wb d.vis;rw[<-k] at k4;have⟨O,γ,Q,C,T,e3,e4,e5,e6⟩:=e7 f (V:=oc P) (l:=[N]) (ps:=[Gx (F b.AN) P]) (C5 _) k2 (λc δ=>by grind) ⟨⟨φ,k4⟩,Ay⟩;have⟨ε,ζ,η⟩:=ey j d.wb d.vis;have y:=Qd j d.wb d.vis;have z:A2 P=true:=Nb P d.wb λi o=>by have:=d.vis i o; omega
 have t:=aN j d.wb d.vis;have⟨_,U,_,i4⟩:=FM (Hg (oc P) (F b.AN)) (PJ (F b.AN) P) 0 y;rw[t,<-k] at U i4;have A:BI (Aa 64) (Al (PJ (F b.AN) P)) (Gx (F b.AN) P) b.AN=(Y [Gx (F b.AN) P],b.AN):=YB rfl _ _ _ AA (by rw[k]; exact eY _ P d.wb);have X:=Bu List.length e6;simp only[Bj] at X;have E:=T.length_le;refine⟨O.map CE,λx p hx m s r L H I K=>?_,λx p hx m=>kB f d k1 C e4 e5 hx m,AB⟩;rw[<-e6];refine YJ hn f z D C AA AA (C5 _) (λc hm=>?_) (λq α=>?_) (λe x hx s r=>?_) hx m r H I K
 .have⟨q1,β,_⟩:=f.bs c hm
  exact⟨AA,HW β (f.cl c hm)⟩
 .rw[DW.1 α]
  have θ:Ez (F b.AN) (Gx (F b.AN) P)=true:=Z6 P ϴ z;refine⟨?_,KE (A7:=Aa 64) _ _ b.AN _ i4 (by rw[A]) _ AD,BC (Va _ P ϴ (AU _)) AA⟩
  grind[F8,Ea]
 .have u:=I8 (R:=R) hn (e:=e) (ml:=Od) (Ar:=64) (M:=F Q) AH AH AA (Al (PJ (F b.AN) P)) (PJ (F b.AN) P) (Hg (oc P) (F b.AN)) (AU _) y (aL _ (JH _ _ d.wb) λi o=>(aM j d.wb d.vis i o).2) AA AA b.AN (λx hx=>(PI x hx).1)
  rw[t,<-k,A] at u;exact u E ⟨AH,AH,AH,.inr rfl⟩ x hx s r
def AA5 (hn:Mm R) {b:Br} (r:Pk R b) {P:Ty} (d:A2 P=Z) (f:CJ 0 P=Z) (K:q1 P=Z) (o:AP P<=200) (N:Al P<=12):∃ls,PtA R b P ls:=by
 have κ:=r.len;have⟨l,n,φ,μ⟩:=AIT _ (Al P) P (AU _) (AU _) N d f K o;have⟨_,χ,ψ,ω⟩:=ej K o N;have j:Fit P:=⟨by show(bw P:Int)<1073741824; omega,AA,AA⟩;have k:=MM (A7:=Aa 32) rfl rfl (Al P) P [] d f EI j.bws b.AN (λx hx=>by grind);have z:=TH (Al P) P [] b.AN d f j.bws (λx hx=>by grind)
 have y:=Ll (A7:=Aa 32) (P:=λc=>AP c<2 ^ 38/\N4 c=Z) (Al P) P [] d f (Lj (λc m=>⟨by have:=m.Gw; omega,HW m.val m.cl⟩) P (QJ _ P (AU _) d)) b.AN (λc hm=>by
  have⟨q1,O,_⟩:=r.bs c hm;exact⟨AA,HW O (r.cl c hm)⟩)
 rw[Ck d f] at k z y;rw[n] at k;rcases t:BI (Aa 32) (Al P) P b.AN with ⟨_|cs,Γ⟩
 .rw[t] at k
  exact k.elim
 .rw[t] at k z y
  obtain⟨C,Δ⟩:=k;simp only at z;have ο:=eo rfl rfl d f j.bws n;have E:∀c∈l,ng c.AM=0:=λc hm=>by grind[ng]
  have X:∀v,(λ_:Nat=>ϴ) v=false:=λ_=>rfl
  have⟨ν,ρ,u,Q,ξ,e3,e4,e5,e6⟩:=e7 r (V:=λ_=>ϴ) (l:=l) (ps:=cs) C (by rw[xk E]; omega) (λc hm=>by
   have S:=Ln (Al P) P l d j.bws n c hm;have Θ:=(Cq (A7:=Aa 32) (Al P) P l n c hm).1;have Λ:=E c hm;have Ξ:=μ c hm;have ς:=S.Gw;have τ:aO=1859359:=rfl;have υ:j9=1890875:=rfl;exact⟨S.le AA,AB,AA,AB⟩) (by grind[aQ])
  have γ:=AA4 X Q;subst γ;have α:=Bu List.length e6;simp only[Bj] at α;have δ:=ξ.length_le;have ε:=Lr d f j n
  have π:BQ P []=[]:=by
   refine kW.2 λi U=>?_
   rcases G3 P [] i U with h|h
   all_goals grind[P1,UD]
  have ζ:∀v,oc P v=false:=λv=>by grind[oc]
  have H:∀i,ai (oc P) P i=P/\Kb (KW b) (oc P) i=[]:=by
   intro i
   induction i with
   | zero=>exact⟨rfl,rfl⟩
   | succ i Φ=>
    grind[ai,Kb]
  have B:vP wI P=true:=by
   refine MS (λi U=>?_) P (I9 P d)
   grind[wI]
  have β:Gx (F b.AN) P=P:=AEg _ P ϴ d f;have W:=Il (R:=R) (lm:=ϴ) (Ar:=32) (e:=1) (Al P) P (AU _) d j.bws j.jW AA;rw[n] at W;refine⟨ν.map CE,λx p hx A s m L η θ ι=>?_,λx p hx A=>?_,AB⟩
  .rw[<-e6]
   refine YJ hn r d o Q AA AA C y (λq I=>?_) (λe x hx s m=>?_) hx A m η θ ι
   .have⟨q1,O⟩:=G5 (A7:=Aa 32) (Al P) P b.AN (F u) (qM (F u)) cs (λi Ψ k=>by grind) (by
     have:=G7 (q:=λi=>qM (F u) i&&decide (i<(F b.AN:Nat))) (σ:=[]) (λx hx=>by grind) P 0 d
     grind[Ck]) (by rw[t]) AB q I
    refine⟨q1,KE (A7:=Aa 32) (Al P) P b.AN cs ?_ (by rw[t]) q I,AA⟩;have:=(FM [] P 0 d).2.2.2
    grind[Ck]
   .have D:=I8 (R:=R) hn (e:=e) (ml:=Od) (Ar:=32) (M:=F u) AH AH AA (Al P) P [] (AU _) d f AA AA b.AN (λx hx=>by grind)
    rw[Ck d f,t] at D;rw[β] at hx;exact D δ ⟨AH,AH,AH,.inr rfl⟩ x hx s m
  .refine Vq κ B o (Bz:=P) (T:=P) (by rw[(H _).1,aQ ζ]; rfl) B o (by rw[(H _).2]; rfl) (λx hx=>KS W.up AA (λc f=>(ε c f).1) hx) hx A
end
def oJ:∀{l:Ϣ} {t:Ty},Kz l=Z->t∈l->wB t=Z
 | a::l,t,h,ht=>by
  simp only[Kz,AK] at h;rcases BF.1 ht with rfl|ht
  .grind
  .exact oJ h.2 ht
def oK:∀{l:Ϣ} {t:Ty},Qb l=Z->t∈l->wP t=Z
 | a::l,t,h,ht=>by
  simp only[Qb,AK] at h;rcases BF.1 ht with rfl|ht
  .grind
  .exact oK h.2 ht
def fB:∀{l:Ϣ} {t:Ty},t∈l->(∀i∈vis t,i∈DU l)/\F (Af t)<=F (B5 l)
 | a::l,t,ht=>by
  rw[DU,B5,B6];rcases BF.1 ht with rfl|ht
  .grind
  .have⟨b,d⟩:=fB ht
   grind
def fC {m:Nat} {t:Ty}:∀{l:Ϣ},(∀c∈l,AP c<=m)->AP (Tt l t)<=AP t+F l*(m+1)
 | [],_=>by simp[Tt]
 | c::l,h=>by
  have e:=fC (t:=t) (l:=l) λd b=>h d (C4 _ b)
  grind[Tt,AP,Ak,Nat.add_mul]
def AId {a b:Bool} {K:AV->Prop} (h:K (BB (a==b))):fD .eql (BB a) (BB b) K:=h
section
variable {R:RT}
def qC (hn:Mm R) {b:Br} (d:Pk R b):∃ls,PtA R b b.AM ls:=by
 have⟨X,f,_⟩:=d.vb;have e:=f.2.2.1;simp only[Mp,AK,Cu] at e;exact OD hn d ⟨d.cn.wb,d.cn.vis,d.Gw,e.2⟩
def yE (hn:Mm R) {b:Br} (e:Pk R b) {k i:Int} {n:Ϝ} {ts:Ϣ} (hb:b.AM=.mk k n i ts) {P:Ty} (l:P∈ts):∃ls,PtA R b P ls:=by
 have⟨X,s,_⟩:=e.vb;have y:=s.2.2.1;have z:=(E6 s.2.1).2.2;have t:=e.Gw;have d:=e.cn.wb;have m:=e.cn.vis;simp only[Mp,AK,Cu] at y;have u:=y.2;have r:=e.val;rw[hb] at t d m u z r;simp only[A2,AK] at r;rw[AP] at t;rw[Al] at z;rw[wB] at d;have M:=FG l;have N:=Et l;have⟨A,D⟩:=fB l;cases E:k==5 with
 | true=>
  grind
 | false=>
  rw[E] at d;cases H:k==0 with
  | true=>
   grind
  | false=>
   rw[H] at d;cases I:k==2 with
   | true=>
    have:k=2:=AB;subst this
    replace d:(yy n i ts&&Qb ts)=true:=d
    rw[AK] at d;have f:=oK d.2 l;have x:∀i∈vis P,0<=i/\i<(F b.AN:Int):=λj o=>m j (A j o)
    obtain⟨p,O,Q,us⟩:=P;have L:=f;rw[wP] at f;cases B:p==5 with
    | true=>
     refine OD hn e ⟨?_,x,AA,?_⟩
     all_goals grind[wB,Af]
    | false=>
     rw[B] at f;cases C:p==2 with
     | true=>
      have:p=2:=AB;subst this;exact OD hn e ⟨f,x,AA,AO _⟩
     | false=>
      rw[C] at f;simp only[AL,P1,AK] at f;exact AA5 hn e f.1 f.2 (Cl.1 (e.arg n i ts hb) _ l) AA AA
   | false=>
    rw[I] at d;simp only[AL,AK,Gf] at d;obtain⟨rfl,_,_,_,K⟩:=d;exact OD hn e ⟨oJ K l,λj o=>m j (A j o),AA,BC D u⟩
structure SpA (R:RT) (b:Br) (k:Int) (ok:Bool) (xs:Ϥ):Prop where
 prog:∀x,HM b x->∀s,BM s->∀L:Ba,L.n0=0->L.ro=0->L.rt=0->∃r s',(∃a,r=.tuple [a,BB ok]/\EE (F s.bs) s'.bs xs a/\s'.bs.take (F s.bs)=s.bs/\F s.bs<=F s'.bs/\BM s')/\Bk (env R) L 24 [x,AG k] s r s'
 ref:∀x,HM b x->Ah (env R) 34 [x,AG k] λr=>∃a,r=.tuple [a,BB ok]/\A3 a (xs.map C7)
 len:F xs<=64
 Gw:∀c∈xs,wW c
def kC (hn:Mm R) {b:Br} (d:Pk R b) (k:Int):∃ok xs,SpA R b k ok xs:=by
 have K:=d.Gw;have O:=d.len
 by_cases p:k<0\/(F (Af b.AM):Int)<=k
 .refine⟨ϴ,[],λx hx s i L j m o=>?_,λx hx=>Ah.imp (kA AA p hx) λv e=>⟨_,e,.AE _⟩,AD,λc Q=>by grind⟩
  have⟨r,z,⟨q1,A⟩,B⟩:=p9 (R:=R) AA p hx i j m o;exact⟨r,z,⟨_,q1,.inl ⟨rfl,rfl⟩,A⟩,B⟩
 .obtain⟨k,rfl⟩:∃n:Nat,k=(n:Int):=⟨k.toNat,AA⟩
  have y:k<F (Af b.AM):=AA;have⟨v,e⟩:∃v,(Af b.AM)[k]?=Y v:=⟨_,Az y⟩;have⟨M,N⟩:=d.cn.vis v (G2 b.AM v (A8 e));obtain⟨v,rfl⟩:∃n:Nat,v=(n:Int):=⟨v.toNat,AA⟩;have⟨t,f⟩:∃t,b.AN[v]?=Y t:=⟨_,Az AA⟩;have⟨C,D,l,E,H,e3,e4,e5,e6⟩:=yC d e f;have⟨S,u,T,U,I⟩:=Wd d (A8 f);rw[H] at u;cases u;refine⟨Z,C.map (pq D (Gx (F b.AN) b.AM) k),λx hx s i L j m o=>j5 hn d hx e f E i j m o,λx hx=>?_,AB,e6⟩;rw[e3];exact pz AA AA e f AB I e4 hx
def yF {b:Br} (y:Pk R b) {P:Ty} {ls:Ϥ} (B:PtA R b P ls) {all xs:Ϥ} (n:∀c∈all,Pk R c) (u:F all<=32) {ok:Bool} (ρ:F xs<=64) (T:∀c∈xs,wW c) (O:Ah (env R) 16 [] λv=>v=BB Z) {C D:Ϭ} (hb:HM b (.agg C)) (x:BD P (.agg D)) {al vs I K:AV} (H:A3 al (all.map C7)) (U:A3 vs (Ai (Af b.AM))) {lo m:Nat} {bs:Ϩ} {tk:Ϫ} (κ:EE lo bs xs I) (L:A3 K (xs.map C7)) (hs:BM ⟨bs,tk⟩) (g0:bs[0]?=Y C) (z:bs[m]?=Y D) :
  AQo R 0 0 0 (.ptr 0 0) al vs I (BB ok) K (BB ok) (.ptr m 0) ⟨bs,tk⟩ (QP λv=>v=BB Z):=by
 have o:=hb.Du;have⟨j,φ,χ⟩:=o.cells;have⟨E,ψ,ω,Γ⟩:=x.cells;have ς:=y.Gw;have M:=y.len;have σ:=Eb b.AM
 have W:∀c,Pk R c->AP (VX c)<=1406:=λc p=>by
  have M:=p.len;have hs:=p.Gw;have h:=fC (t:=btB c) (l:=c.AN) (m:=200) λd μ=>(p.bs d μ).1
  rw[<-p.cn.P M] at h;have L:AP (btB c)=AP c.AM:=(nu (λi=>(F c.AN:Int)-1-i) c.AM p.cn.wb).1;omega
 have X:AP (unT all)<2 ^ 38:=by
  match all,n,u with
  | [],_,_=>decide
  | [c],n,_=>exact L2 (W c (n c AD)) AH
  | c::d::l,n,u=>
   rw[unT,AP,eD];have:=LH (f:=AP) (m:=1406) (l:=(c::d::l).map VX) (a:=32) AB λt Δ=>by grind
   omega
 refine AXO (AI O ?_);rintro _ rfl;refine Aw (Ag g0 j (Aw (AI ((YK y).1 _ o) λΘ α=>Aw (Ag g0 j (Aw (AI ((YK y).2 _ o) λΛ β=>Aw (AI (Jh AB α β) ?_)))))));rintro _ ⟨e,rfl,k⟩;have:e=true:=k.2 rfl;subst this;refine pk (Aw (Aw (AI (aP u n H) λΞ γ=>Aw (Aw (AI (We u n H) λΦ δ=>Aw (AI (Jh X γ δ) ?_))))));rintro _ ⟨e,rfl,k⟩;have:e=true:=k.2 rfl;subst this;refine pk (Aw (Ag g0 j (Aw (AI (OL AA AA o) λΨ ε=>Aw (Aw (AI (Wh AA ε U) ?_))))));rintro _ rfl;refine pk (Aw (Aw (Aw (AId (pk ?_)))));rw[show(ok==ok)=Z by simp];obtain⟨w,⟨e,rfl,k⟩,S⟩:=KO (R:=R) (s:=⟨bs,tk⟩) (.inl ⟨_,κ⟩) (.inr (.inl L)) AA T (Co (env R) 9 0 0 0);have:e=true:=k.2 rfl;subst this;refine Aw (Aw (Aw ⟨_,_,S,pk ?_⟩));have⟨r,ν,⟨q1,N,Ω,a0,ξ⟩,ο⟩:=B.prog _ _ hb x ⟨bs,tk⟩ hs (Co (env R) 9 0 0 0) rfl rfl rfl;obtain⟨A,ζ⟩:=ν;have τ:=(BJ.1 g0).1;have υ:=(BJ.1 z).1;have η:A[0]?=Y C:=CN N g0;have θ:A[m]?=Y D:=CN N z;refine Aw (Ag g0 j (Aw (Ag z E (Aw ⟨_,_,ο,Aw (Ag η j (Aw (Ag θ E (Aw (AI (B.ref _ _ hb x) λa1 ι=>?_)))))⟩))));have π:=B.len;obtain⟨w,⟨e,rfl,k⟩,Q⟩:=KO (R:=R) (s:=⟨A,ζ⟩) (.inl ⟨_,q1⟩) (.inr (.inl ι)) AA ξ (Co (env R) 9 0 0 0);have:e=true:=k.2 rfl;subst this;exact Aw ⟨_,_,Q,pk ⟨Aw (Ag g0 j (xh o)),Aw (Ag g0 j (xh o)),Aw (Ag z E (KL x.Du)),_,rfl,rfl⟩⟩
def oU (hn:Mm R) (K:Ah (env R) 16 [] λv=>v=BB Z) {W:List Ϝ} (ρ:(env R).G 1=Y (FE W)) (ς:Short W) (σ:F W=4) (l:Ϛ) (a8:F l<2 ^ 50) (k L:Int) :
  Ah (env R) 9 [.pv (.list (Ai l)),AG k,AG L] λv=>v=BB true:=by
 refine e9 (u0:=.pv (.list (Ai l))) (u1:=AG k) (u2:=AG L) AD (AXP ?_);refine AI (Wa hn ρ ς σ l a8 k) ?_;rintro _ ⟨x,b,ok,rfl,hb,T,u⟩;have M:=hb.Du;obtain⟨p,rfl⟩:=M.agg;have⟨E,a9,c3⟩:=M.cells;have hcz:=Eb b.AM;refine B9 rfl (B9 rfl (Bh (Bn (A0 [] Z5) E rfl AH (AO _) a9 (.inl (AO _)) (nt ?_))));cases ok with
 | false=>
  refine BH (AI K ?_);rintro _ rfl;exact⟨_,rfl,rfl⟩
 | true=>
  have u:=u rfl;have hSl:=Src.YH l;have b0:OM [p,PE (.of l) 0] 1 (.of l):=⟨AD,λd b3=>by grind[TM],AA⟩;have b4:LI [p,PE (.of l) 0] []:=λb hb=>by grind
  refine A4 (AXQ (Cr (eE l _ _) ?_));rintro v U ⟨rfl,rfl⟩;have b5:(⟨[p]++[PE (.of l) 0],[]⟩:AY)=⟨Tel.ST [p,PE (.of l) 0] 1 (.of l) 0++[],[]⟩:=AX
  show G4 (env R) _ _ _ ⟨[p]++[PE (.of l) 0],[]⟩ _
  rw[b5];refine AI X8 ?_;rintro dv ⟨rows,b6⟩;refine Cr (Qa b0 ρ σ ς b6 b4 (k:=0) AA (Co (env R) 9 0 0 0) AD [] AD) ?_;rintro x U ⟨t,k1,τ,hx,B,_,hk1,rfl⟩;have H:(Tel.ST [p,PE (.of l) 0] 1 (.of l) k1++[])[0]?=Y p:=AX
  have N:BM ⟨Tel.ST [p,PE (.of l) 0] 1 (.of l) k1++[],[]++τ⟩:=by
   intro d b3
   grind[Tel.ST,TM]
  generalize Tel.ST [p,PE (.of l) 0] 1 (.of l) k1++[]=υ at H N;generalize []++τ=tk at N;have sz:=B.1.2;have O:=AIA B.2.1;have ι:=rxO (R:=R) (t:=t) AA B.1.1 O;have⟨X,_⟩:=xB (f:=Al t) O;have ε:=xg (t:=t) λh=>(O h).bws
  have Γ:=λh=>ny (f:=Al t) (t:=t) h
  generalize xR (Al t) t=o at ι X ε Γ
  have ζ:∀c∈o.1,Pk R c:=λc b7=>by
   have T:o.2=0:=kg λT=>by grind
   have⟨Θ,Λ,Ξ⟩:=ε T;have⟨φ,χ,α⟩:=Ξ c b7;exact AD4 hn B.2.1 Θ Λ φ χ α
  refine AI (ι _ hx) ?_;rintro _ ⟨al,rfl,κ⟩;refine B9 rfl (B9 rfl (Ag H E (AI (OO AA M) λvs Q=>Au (n:=F (Af b.AM)) (by rw[Q.BG,BP]) (Bb AA AA (AI (QY L _ AA AA) ?_)))));rintro _ ⟨r,rfl,hr1,hr2⟩;refine FL AA AA ?_;have⟨okk,b8,hS⟩:=kC hn u (r-1);obtain⟨rs,U,⟨b9,rfl,μ,Φ,hL1,Ψ⟩,Ω⟩:=hS.prog _ hb ⟨υ,tk⟩ N (Co (env R) 9 0 0 0) rfl rfl rfl;obtain⟨e,C⟩:=U;have I:e[0]?=Y p:=CN Φ H;refine Ag H E ⟨_,_,Ω,B9 rfl (B9 rfl (Ag I E (AI (hS.ref _ hb) ?_)))⟩;rintro _ ⟨a2,rfl,ν⟩;have a0:=hb;obtain⟨a,y,a3,ha,β⟩:=a0;cases a3;have⟨ψ,y2,y3,y4⟩:=β.cells;refine B9 rfl (B9 rfl (AR (Ab I) (KM I ψ (Bh (Bn (A0 e Z4) ψ rfl AH (AO _) y2 (.inl (AO _)) ?_)))));have e1:(e++[Z4]).set (F e) y=e++[y]:=AD
  show Ex ⟨(e++[Z4]).set (F e) y,C⟩ _ _ _
  rw[e1];have γ:=Am I y;have m:=A0 e y;have S:BM ⟨e++[y],C⟩:=BM.app (s:=⟨e,C⟩) Ψ (BV (AO _) _ y3);have ξ:EE (F υ) (e++[y]) b8 b9:=μ.mono (AU _) λj c _ z=>Am z _
  have ο:∀j c,e[j]?=Y c->(e++[y])[j]?=Y c:=λj c z=>Am z _
  generalize e++[y]=b2 at γ m S ξ ο;have π:=β;have hsb:=u.Gw;rcases η:b.AM with ⟨kd,nm,i,ts⟩
  rw[η] at π;obtain⟨ga,a4,D⟩:=π;cases a4;refine AR (Ab m) (Ad (off:=3) m rfl (Au (n:=F ts) (by rw[D.BG,Ae]) (Gv ?_)));have htl:F ts<=200:=by grind[Bl,AP]
  cases Δ:decide ((F ts:Int)>0) with
  | false=>
   have⟨ls,δ⟩:=qC hn u;exact A4 (yF u δ ζ X hS.len hS.Gw K hb β κ Q ξ ν S γ m)
  | true=>
   have Δ:0<F ts:=AB;refine BH (AR (Ab m) (Ad (off:=3) m rfl (AR (Ab m) (Ad (off:=3) m rfl (Au (n:=F ts) (by rw[D.BG,Ae]) (AI (QY (r-1) _ AA AA) ?_))))));rintro _ ⟨ω,rfl,hr3,hr4⟩;obtain⟨j,rfl⟩:∃j:Nat,ω=(j:Int):=⟨ω.toNat,AA⟩;have⟨A,a5⟩:∃A,ts[j]?=Y A:=⟨_,Az AA⟩;have⟨ls,δ⟩:=yE hn u η (A8 a5);have a6:F ((Av A).map AV.pv)=4:=by simp[Aq]
   have θ:=BD.Bo A;have⟨φ,χ,α,z4⟩:=θ.cells;refine BL D (row:=Av A) AA (by simp[*,BK]) (Aq _) AA (Cd (Bn m a6 rfl AH (AO _) (DG A) (.inl (AO _)) ⟨AR (Ab m) (D8 _ _),Ad (off:=3) m rfl (bX D),?_⟩));have a7:F e≠0:=AB;exact yF u δ ζ X hS.len hS.Gw K hb θ κ Q (μ.mono (AU _) λj c _ z=>BR (ο j c z) (Nat.ne_of_gt (BJ.1 z).1)) ν (BM.set (s:=⟨b2,C⟩) S (BV (AO _) _ α) _) (BR γ a7) (BT m)
end
end Go.Proofs.YtpgfpakdnijngaaGreatDoor
