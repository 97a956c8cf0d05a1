/-
  Generated terms: term.
-/
import Derived.Test.YtpgfpakdnijngaaGreatDoorTI
import Derived.Test.YtpgfpakdnijngaaGreatDoorTF
import Derived.Test.YtpgfpakdnijngaaGreatDoorW1
set_option linter.unusedSimpArgs false
set_option linter.unusedVariables false
namespace Go.Proofs.YtpgfpakdnijngaaGreatDoor
open Go.Tel
attribute [local simp] CX Cx MP MQ AX Df Ia wO setCells C2 FA DN Ca Bo alive Dx Hv KX nT Bi DF Bz Ib Fj Eo nU pY okB wX pZ wY pg wZ lu we wh wj wk wm wo wq wu wz w6 w7 okF w8 w9 xA xB xD Zh xE Ur Us Ut Uu xH xJ xK xN xO xQ xS xT xU xV Ic xW pn xX xY xZ xd pq xe xg xh xj xk Cn g0 g1 xI xL xM xF xG xC lf Y4 Y5
section
variable {bs:List (List AV)} {id:Nat} {l:Src} {R:Nat->Option (List PV)}
theorem T9:AW (env R) 53 [] fun r=>r=T0 0 [] 0:=by
 refine e53 (by simp) (AKm ?_);simp[QP,QI]
theorem fh:AW (env R) 80 [] fun r=>r=T0 1 [] 0:=by
 refine e80 (by simp) (AKn ?_);simp[QP,QI]
theorem Yq {k1 i1 k2 i2:Int} {n1 n2:List UInt8} {a1 a2:AV} {ABX sy:List (List PV)} (h1:BO a1 ABX) (h2:BO a2 sy) :
  AW (env R) 52 [.agg [AD k1,SS n1,AD i1,a1],.agg [AD k2,SS n2,AD i2,a2]] fun r=>r=.agg [AD 6,SS [],AD 0,.AA [[.sc (.int .i64 k1),.sc (.string ⟨n1.toArray⟩),.sc (.int .i64 i1),.list ABX],[.sc (.int .i64 k2),.sc (.string ⟨n2.toArray⟩),.sc (.int .i64 i2),.list sy]]]:=by
 obtain⟨b1,c1,r1⟩:=h1.closed ([]:List (List AV)) 0;obtain⟨b2,c2,r2⟩:=h2.closed ([]:List (List AV)) 0;refine e52 (u0:=.agg [AD k1,SS n1,AD i1,b1]) (u1:=.agg [AD k2,SS n2,AD i2,b2]) (by simp[c1,c2]) (AKo ?_);simp[QP,QI,r1.ok,r2.ok,r1.I3,r2.I3,D4,Fh,B6]
theorem Ba.self {t:Ty} {v:AV} (h:Ba t v):Cu v v=true:=by
 obtain⟨k,n,i,ts⟩:=t;obtain⟨a,rfl,ha⟩:=h;simp[Cu,L7,VF,JE,LV,BO.Cu ha]
theorem PX {t u:Ty} {x y:AV} (h:Ba t x) (h':Ba u y):AW (env R) 52 [x,y] fun r=>Ba (.mk 6 [] 0 [t,u]) r:=by
 obtain⟨k,n,i,ts⟩:=t;obtain⟨k',n',i',ts'⟩:=u;obtain⟨a,rfl,ha⟩:=h;obtain⟨a',rfl,Hs⟩:=h';obtain⟨v,hv,hc⟩:=Yq (R:=R) (k1:=k) (i1:=i) (k2:=k') (i2:=i') (n1:=n) (n2:=n') ha Hs;exact⟨v,⟨_,hv,by simp[AQ,Ah]; exact .inl (.AA _)⟩,hc⟩
theorem UA {t u:Ty} {x y:AV} (h:Ba t x) (h':Ba u y) (s:AK) (K:AV->AK->Prop) (hK:K (.AA (AQ [t,u])) s):D4 false s 4 [(AD 0),(SS []),(AD 0),(.AA [])] 2 [(0,4,x),(4,4,y)] K:=by
 obtain⟨k,n,i,ts⟩:=t;obtain⟨k',n',i',ts'⟩:=u;obtain⟨a,rfl,ha⟩:=h;obtain⟨a',rfl,Hs⟩:=h';simp[D4,Fh,B6,ha.ok,ha.I3,Hs.ok,Hs.I3];simpa[AQ,Ah] using hK
theorem mV (hB:NK bs id l) {W:List (List UInt8)} (hW:(env R).G 1=some (FV W)) (h4:W.length=4) (sW:Short W) {dv:AV} (μ:Nat)
  (ihn:∀ d:Nat,d<=20->T8 R bs id l dv 83 d (3*d+1) μ nY) (iht:∀ d:Nat,d<=20->T8 R bs id l dv 41 d (3*d+2) μ (L2 d)) (d:Nat) (hd:d<=20):T8 R bs id l dv 41 d (3*d+2) (μ+1) (L2 d):=by
 intro m hm k hk vars hvars hμ L hro ts Fz;have hlen:=hB.len;have hlt:=hB.lt
 suffices H:∀ (rr:Bool) (N:Nat) (Post:AV->AK->Prop),N=bs.length+m.length->(∀ t v k' x,Ba t v->L2 d (8*(k'-k)+1) t->k<=k'->k'<=l.length->Post v ⟨ST bs id l k'++m,ts++x⟩)->s7 R 0 L.ro L.rt (.ptr id 0) dv (AD d) (AD vars) ⟨ST bs id l k++m,ts⟩ (QM rr N Post) from
  m41 (by simp[BN,Dl]) (H _ _ _ (by simp[Fm]) fun t v k' x h1 h2 h3 h4=>⟨t,k',x,h1,h2,h3,h4,rfl⟩)
 intro rr N Post hN hP;have hm':=Yp hm;have g1:∀ n,L.ro<=bs.length+m.length+n:=fun n=>by omega
 have fin:∀ (k1:Nat) (x:List (Nat×Nat)) (r:List (List AV)) (t:Ty) (v:AV),Ba t v->L2 d (8*(k1-k)+1) t->k<=k1->k1<=l.length->C2 (Ca (env R) 41 0 L.ro L.rt) ⟨ST bs id l k1++(m++Z4::r),ts++x⟩ 4 (.ptr (bs.length+m.length) 0) v fun s1=>FA (env R) s1 (some 4) (.ptr (bs.length+m.length) 0) fun r=>QM rr N Post r s1:=
  fun k1 x r t v hv hb h1 h2=>T7 (R:=R) (Post:=Post) (rr:=rr) (N:=N) (k:=k1) (ts:=ts++x) (Z:=Z4) (r:=r) (L':=Ca (env R) 41 0 L.ro L.rt) hB hm rfl hN hro rfl hv (fun y hy=>hP t y k1 x hy hb h1 h2)
 have cE:∀ (k1:Nat) (r:List (List AV)) (t:Ty) (v:AV),Ba t v->L2 d (8*(k1-k)+1) t->k<=k1->k1<=l.length->C2 (Ca (env R) 41 0 L.ro L.rt) ⟨ST bs id l k1++(m++Z4::r),ts⟩ 4 (.ptr (bs.length+m.length) 0) v fun s1=>FA (env R) s1 (some 4) (.ptr (bs.length+m.length) 0) fun r=>QM rr N Post r s1:=by
  intro k1 r t v hv hb h1 h2;have:=fin k1 [] r t v hv hb h1 h2;simpa using this
 have rt':∀ x:List (Nat×Nat),(Ca (env R) 41 0 L.ro L.rt).rt<=(ts++x).length:=fun x=>by simp[Ca]; omega
 have mu:∀ k1,k<=k1->(l.length-k1)*100<=(l.length-k)*100:=fun k1 h=>CB _ (by omega)
 have mus:∀ k1,k<k1->k1<=l.length->(l.length-k1)*100+100<=(l.length-k)*100:=fun k1 h h'=>by
  have:(l.length-k1+1)*100<=(l.length-k)*100:=CB _ (by omega);omega
 have kM:∀ k1,k<=k1->k1<=l.length->Fe (env R) (Ca (env R) 41 0 L.ro L.rt) (.func (.func 83) [] []) [(.ptr id 0),dv,(AD d),(AD vars)] ⟨ST bs id l k1++(m++[Z4]),ts⟩ fun a48 APj=>
   C2 (Ca (env R) 41 0 L.ro L.rt) APj 4 (.ptr (bs.length+m.length) 0) a48 fun AKp=>FA (env R) AKp (some 4) (.ptr (bs.length+m.length) 0) fun r=>QM rr N Post r AKp:=by
  intro k1 h1 h2;refine CR (ihn d hd hm' h2 vars hvars (by have:=mu k1 h1; omega) (Ca (env R) 41 0 L.ro L.rt) hro ts (by simpa[Ca] using Fz)) ?_;rintro v s1 ⟨t,k3,x,hv,hb,LS,Ly,rfl⟩;exact fin k3 x [] t v hv ((hb.g d).mono (by omega)) (by omega) Ly
 have last:∀ k1,0<d->k<k1->k1<=l.length->fk R 0 L.ro L.rt (.ptr id 0) (.ptr (bs.length+m.length) 0) ⟨ST bs id l k1++(m++[Z4]),ts⟩ (QM rr N Post):=by
  intro k1 jv h1 h2;refine AGM ?_;refine CR (HC (n:=4) hB hm' h2 (by omega) (by omega) _ (by simpa[Ca] using hro) ts) ?_;rintro v s1 ⟨r2,k2,rfl,sx,hr4,LS,Ly,rfl⟩;refine CC ?_;cases (r2==0) with
  | true=>
   refine BZ ?_;refine AI fh ?_;rintro v rfl;exact cE k2 [] (.mk 1 [] 0 []) _ ⟨_,rfl,by simp[AQ]; exact .inl (.AA _)⟩ (L2.leaf rfl rfl (by simp) (by omega)) (by omega) Ly
  | false=>
   refine BQ (AGN ?_);refine AI T9 ?_;rintro v rfl;refine AI (Tz 0) ?_;rintro v rfl
   have NF:∀ (s:AK) (K:AV->AK->Prop),K (.AA (AQ [.mk 5 [] 0 []])) s->D4 false s 4 [(AD 0),(SS []),(AD 0),(.AA [])] 1 [(0,4,T0 5 [] 0)] K:=by
    intro s K hK;simp[D4,Fh,B6];simpa[AQ,Ah] using hK
   refine NF _ _ ?_;refine AI (KJ (.AA _)) ?_;rintro v rfl;refine AI (PX (t:=.mk 0 [] 0 []) (u:=.mk 2 [66,111,120] 0 [.mk 5 [] 0 []]) ⟨_,rfl,by simp[AQ]; exact .inl (.AA _)⟩ ⟨_,rfl,.inl (.AA _)⟩) ?_;intro v hv;refine cE k2 [] _ _ hv ?_ (by omega) Ly;exact L2.ex (B:=1) (C:=2) jv (L2.leaf rfl rfl (by simp) (by omega)) ((nY.of (NL.node (B:=1) (by simp) (JK.cons (B:=1) (C:=0) (NL.leaf (by simp) (by omega)) JK.nil (by omega)))).g _) (by omega)
 have AKq:∀ (k1:Nat) (x:List (Nat×Nat)) (tb:Ty) (vb:List AV),Ba tb (.agg vb)->vb.length=4->(vb.all Ar)=true->(∀ n,AU n vb=true)->0<d->k<k1->k1<=l.length->L2 1 (8*(k1-k)-7) tb ->
   kN R 0 L.ro L.rt (.ptr id 0) dv (AD d) (AD vars) (.ptr (bs.length+m.length) 0) (.ptr (bs.length+m.length+1) 0) ⟨ST bs id l k1++(m++[Z4,vb]),ts++x⟩ (QM rr N Post):=by
  intro k1 x tb vb JJ hv4 hok Xk jv h1 h2 hsz
  have hld:∀ (k:Nat) (t:List (Nat×Nat)) (K:AV->Prop),K (.agg vb)->FA (env R) ⟨ST bs id l k++(m++[Z4,vb]),t⟩ (some 4) (.ptr (bs.length+m.length+1) 0) K:=by
   intro k t K hK;simp only[FA,EP,FN,GQ,wO,DN,Fv,xL,xM,xF,xG];refine⟨by omega,?_⟩;rw[CL (by omega)];exact hK
  refine AKr (hld _ _ _ (Le (by omega) (by omega) (Cr (by omega) (by omega) ?_)));have e3:((d:Nat):Int)-1=((d-1:Nat):Int):=by omega
  have e4:((vars:Nat):Int)+1=((vars+1:Nat):Int):=by omega
  rw[e3,e4]
  have hm2:KW bs (m++[Z4,vb]):=JQ hm (by
   intro b hb;simp only[Av,Fs,FL] at hb;rcases hb with rfl|rfl
   ·simp[AU,Aa]
   ·exact Xk _)
  refine CR (iht (d-1) (by omega) hm2 h2 (vars+1) (by omega) (by have:=mus k1 h1 h2; omega) (Ca (env R) 41 0 L.ro L.rt) hro (ts++x) (rt' x)) ?_;rintro v s1 ⟨t,k3,x3,hv,hb,LS,Ly,rfl⟩;refine AI (PX JJ hv) ?_;intro w hw;refine Yk (hld _ _ _ JJ.self) ?_;rw[DI];refine fin k3 (x++x3) [vb] _ w hw ?_ (by omega) Ly;exact L2.ex jv hsz hb (by omega)
 have loop:∀ (k1 cnt:Nat),0<d->k<k1->k1<=l.length->cnt<=3->∀ (j q k2:Nat) (x:List (Nat×Nat)) (a:AV) (es:List Ty),q+j=cnt->k1<=k2->k2<=l.length->es.length=q->Yo (d-1) (8*(k2-k1)+q) es->Ex ts.length (ts++x) 25 a (AQ es) ->
   kO R 0 L.ro L.rt (.ptr id 0) dv (AD d) (AD vars) (.ptr (bs.length+m.length) 0) (.ptr (bs.length+m.length+1) 0) (AD cnt) (AD q) ⟨ST bs id l k2++(m++[Z4,[AD 3,SS [],AD 0,a]]),ts++x⟩ (QM rr N Post):=by
  intro k1 cnt jv SA hk2 X5 j
  induction j with
  | zero=>
   intro q k2 x a es hq AGH fZ hes hqs ha;have ho:=ha.BG;refine ABY (BE ?_);have h1:¬ ((q:Int)<cnt):=by omega
   simp only[h1,XJ];refine BQ (AGO ?_);have:=fin k2 x [[AD 3,SS [],AD 0,a]] (.mk 3 [] 0 es) (.agg [AD 3,SS [],AD 0,a]) ⟨a,rfl,ho⟩ ((L2.tup jv (by omega) hqs).mono (by omega)) (by omega) fZ;simpa[FA,wO,DN,EP] using this
  | succ j Gs=>
   intro q k2 x a es hq AGH fZ hes hqs ha;have ho:=ha.BG;refine ABY (BE ?_);have h1:((q:Int)<cnt):=by omega
   simp only[h1,Rn];refine BZ (AGP ?_);have hm2:KW bs (m++[Z4,[AD 3,SS [],AD 0,a]]):=JQ hm (by simp[AU,Aa,ho.Aa]);simp[EP,Jn,IV,Jo];refine DX (by omega) (by omega) ?_;have e3:((d:Nat):Int)-1=((d-1:Nat):Int):=by omega
   rw[e3];refine CR (iht (d-1) (by omega) hm2 fZ vars (by omega) (by have:=mu k2 (by omega); omega) (Ca (env R) 41 0 L.ro L.rt) hro (ts++x) (rt' x)) ?_;rintro v s1 ⟨t,k3,x2,hv,hqn,Ly,bF,rfl⟩;obtain⟨c1,n1,i1,xw⟩:=t;obtain⟨b,rfl,hb⟩:=hv;simp[D4,Fh,hb.ok,hb.I3,EP,Jn,IV,Jo];have hrow:B6 4 1 [PV.sc (.int .i64 c1),.sc (.string ⟨n1.toArray⟩),.sc (.int .i64 i1),.list (AQ xw)]=[Ah (.mk c1 n1 i1 xw)]:=by simp[B6,Ah]
   rw[hrow]
   have U1:Ex ts.length (ts++(x++x2)) 25 a (AQ es):=by
    rw[<-DI];exact ha.grow
   refine Ma U1 Fz (fun r hr=>T6 r hr) (Am _) (by omega) (DZ _) (by simp[Ad]; omega) (by simp[Ad]; omega) ?_;intro a' x' Hs;have ho':=Hs.BG;have:=g1 1;simp[EP,Jn,IV,Jo,ho'.ok,ho'.cells,ho'.HK,this];refine⟨by simp[Cu],?_,?_⟩
   ·simpa[zy.Cu] using zy.Cu ha
   refine AGQ (Cr (by omega) (by omega) ?_)
   have ha3:Ex ts.length (ts++x') 25 a' (AQ (es++[.mk c1 n1 i1 xw])):=by
    rw[FY];simpa[AQ] using Hs
   have:=Gs (q+1) k3 x' a' (es++[.mk c1 n1 i1 xw]) (by omega) (by omega) bF (by simp; omega) (Yo.snoc hqs hqn (by omega)) ha3;simpa using this
 have AGR:∀ (k1:Nat) (r:Int),0<=r->k<=k1->k1<=l.length->(r≠0->k<k1)->(5<r->0<d)->kP R 0 L.ro L.rt (.ptr id 0) dv (AD d) (AD vars) (.ptr (bs.length+m.length) 0) (AD r) ⟨ST bs id l k1++(m++[Z4]),ts⟩ (QM rr N Post):=by
  intro k1 r h0r h1 h2 hkk hd5
  have c7:∀ B:Bool,(r=10\/r=11->B=true)->(B=true->r=10\/r=11)->9<r->kQ R 0 L.ro L.rt (.ptr id 0) dv (AD d) (AD vars) (.ptr (bs.length+m.length) 0) (AD r) (BB B) ⟨ST bs id l k1++(m++[Z4]),ts⟩ (QM rr N Post):=by
   intro B hB1 hB2 h9;have jv:=hd5 (by omega);have cj:=hkk (by omega);have eL:∀ k,(ST bs id l k++(m++[Z4])).length=bs.length+m.length+1:=fun k=>by simp[Fm]; omega
   have eA:∀ (k:Nat) (b:List AV) (t:List (Nat×Nat)),(⟨(ST bs id l k++(m++[Z4]))++[b],t⟩:AK)=⟨ST bs id l k++(m++[Z4,b]),t⟩:=fun k b t=>by simp
   have st4:∀ (k:Nat) (t:List (Nat×Nat)) (z b:List AV),z.length=4->b.length=4->(b.all Ar)=true->∀ K:AK->Prop,K ⟨ST bs id l k++(m++[Z4,b]),t⟩->C2 (Ca (env R) 41 0 L.ro L.rt) ⟨ST bs id l k++(m++[Z4,z]),t⟩ 4 (.ptr (bs.length+m.length+1) 0) (.agg b) K:=by
    intro k t z b hz hb hok K hK;have hce:cellsOf (.agg b)=b:=rfl;simp only[C2,EP,FN,GQ,wO,hce];refine⟨⟨hb,by omega,by have:=g1 1; simp[Ca]; omega,hok,.inl (by simp[Ca]),by omega⟩,?_⟩;rw[IV]
    have:setCells z 0 b=b:=by
     obtain⟨z0,z1,z2,z3,rfl⟩:∃ z0 z1 z2 z3,z=[z0,z1,z2,z3]:=by
      rcases z with _|⟨a,_|⟨b,_|⟨c,_|⟨d,_|⟨e,l⟩⟩⟩⟩⟩ <;> simp at hz
      exact⟨_,_,_,_,rfl⟩
     obtain⟨b0,b1,b2,b3,rfl⟩:∃ z0 z1 z2 z3,b=[z0,z1,z2,z3]:=by
      rcases b with _|⟨a,_|⟨b,_|⟨c,_|⟨d,_|⟨e,l⟩⟩⟩⟩⟩ <;> simp at hb
      exact⟨_,_,_,_,rfl⟩
     simp[setCells]
    rw[this];exact hK
   refine AKs ?_;cases B with
   | true=>
    refine BZ ?_;refine Q7 (cs:=[AD 3,SS [],AD 0,.AA []]) (by simp) ?_;simp only[CX,eL,eA];refine st4 _ _ _ _ rfl rfl (by simp[Ar]) _ ?_;have hm2:KW bs (m++[Z4,[AD 3,SS [],AD 0,.AA []]]):=JQ hm (by simp[AU,Aa]);refine CR (HC (n:=4) hB hm2 h2 (by omega) (by omega) _ (by simpa[Ca] using hro) ts) ?_;rintro v s1 ⟨r2,k2,rfl,sx,hr4,LS,Ly,rfl⟩;obtain⟨j,rfl⟩:=XL sx;have:=loop k2 j jv (by omega) Ly (by omega) j 0 k2 [] (.AA []) [] (by omega) (AL _) Ly rfl Yo.nil (.inl (by simp[AQ]));simpa using this
   | false=>
    refine BQ (CC ?_);cases b12:(r==12) with
    | true=>
     refine BZ ?_;refine AI T9 ?_;rintro v rfl;simp only[CX,eL,eA];refine st4 _ _ _ _ rfl rfl (by simp[Ar]) _ ?_;have hm2:KW bs (m++[Z4,[AD 0,SS [],AD 0,.AA []]]):=JQ hm (by simp[AU,Aa]);refine CR (HC (n:=2) hB hm2 h2 (by omega) (by omega) _ (by simpa[Ca] using hro) ts) ?_;rintro v s1 ⟨r2,k2,rfl,sx,hr4,LS,Ly,rfl⟩;refine CC ?_;cases (r2==1) with
     | true=>
      refine BZ ?_;have e1:(AD (1:Int))=AD ((1:Nat):Int):=rfl;have e0:(AD (0:Int))=AD ((0:Nat):Int):=rfl;refine CR (iht 1 (by omega) hm2 Ly 0 (by omega) (by have:=mus k2 (by omega) Ly; omega) (Ca (env R) 41 0 L.ro L.rt) hro ts (by simpa[Ca] using Fz)) ?_;rintro v s1 ⟨t,k3,x,hv,hb,bF,Ux,rfl⟩;have P5:=hv;obtain⟨c1,n1,i1,xw⟩:=t;obtain⟨a1,rfl,ha1⟩:=P5;refine st4 _ _ _ _ rfl rfl (by simp[ha1.ok]) _ ?_;exact AKq k3 x _ _ hv rfl (by simp[ha1.ok]) (by simp[AU,Aa,ha1.Aa]) jv (by omega) Ux (hb.mono (by omega))
     | false=>
      have:=AKq k2 [] (.mk 0 [] 0 []) [AD 0,SS [],AD 0,.AA []] ⟨_,rfl,by simp[AQ]; exact .inl (.AA _)⟩ rfl (by simp[Ar]) (by simp[AU,Aa]) jv (by omega) Ly (L2.leaf rfl rfl (by simp) (by omega));exact BQ (by simpa using this)
    | false=>exact BQ (last k1 jv cj h2)
  have c6:∀ B:Bool,(B=true->7<r)->(B=false->9<r)->kR R 0 L.ro L.rt (.ptr id 0) dv (AD d) (AD vars) (.ptr (bs.length+m.length) 0) (AD r) (BB B) ⟨ST bs id l k1++(m++[Z4]),ts⟩ (QM rr N Post):=by
   intro B hB1 hB2;refine AKt ?_;cases B with
   | true=>
    have h8:=hB1 rfl;have jv:=hd5 (by omega);have cj:=hkk (by omega);refine BZ (Le (by omega) (by omega) ?_);have e3:((d:Nat):Int)-1=((d-1:Nat):Int):=by omega
    rw[e3];refine CR (iht (d-1) (by omega) hm' h2 vars (by omega) (by have:=mu k1 h1; omega) (Ca (env R) 41 0 L.ro L.rt) hro ts (by simpa[Ca] using Fz)) ?_;rintro v s1 ⟨t,k2,x,hv,hb,LS,Ly,rfl⟩;refine Le (by omega) (by omega) ?_;rw[e3];refine CR (iht (d-1) (by omega) hm' Ly vars (by omega) (by have:=mu k2 (by omega); omega) (Ca (env R) 41 0 L.ro L.rt) hro (ts++x) (rt' x)) ?_;rintro w s1 ⟨u,k3,x3,hw,hc,bF,Ux,rfl⟩;refine UA hv hw _ _ ?_;refine AI (RH (.AA _)) ?_;rintro y rfl;rw[DI];exact fin k3 (x++x3) [] (.mk 4 [] 0 [t,u]) _ ⟨_,rfl,.inl (.AA _)⟩ (L2.un jv hb hc (by omega)) (by omega) Ux
   | false=>
    have h9:=hB2 rfl;refine BQ (CC ?_);cases b10:(r==10) with
    | true=>exact BZ (c7 true (fun _=>rfl) (fun _=>.inl (by simpa using b10)) h9)
    | false=>
     have n10:¬ r=10:=by simpa using b10
     refine BQ (CC (c7 _ ?_ ?_ h9))
     ·rintro(h|h)
      ·exact absurd h n10
      ·simpa using h
     ·intro h
      exact .inr (by simpa using h)
  have c5:∀ B:Bool,(B=false->7<r)->cG R 0 L.ro L.rt (.ptr id 0) dv (AD d) (AD vars) (.ptr (bs.length+m.length) 0) (AD r) (BB B) ⟨ST bs id l k1++(m++[Z4]),ts⟩ (QM rr N Post):=by
   intro B hx;refine AKu ?_;cases B with
   | true=>exact BZ (kM k1 h1 h2)
   | false=>
    have h7:=hx rfl;refine BQ (CC ?_);cases b8:(r==8) with
    | true=>exact BZ (c6 true (fun _=>h7) (fun h=>by cases h))
    | false=>
     have n8:¬ r=8:=by simpa using b8
     refine BQ (CC (c6 _ (fun _=>h7) (fun h=>?_)));have n9:¬ r=9:=by simpa using h
     omega
  have c3:∀ B:Bool,(B=false->4<r)->kS R 0 L.ro L.rt (.ptr id 0) dv (AD d) (AD vars) (.ptr (bs.length+m.length) 0) (AD r) (BB B) ⟨ST bs id l k1++(m++[Z4]),ts⟩ (QM rr N Post):=by
   intro B hx;refine AKv ?_;cases B with
   | true=>
    refine BZ (Je ?_)
    by_cases Y1:vars=0
    ·have b0:decide ((vars:Int)>0)=false:=by simp; omega
     rw[b0];exact BQ (AKw (kM k1 h1 h2))
    ·have b0:decide ((vars:Int)>0)=true:=by simp; omega
     rw[b0];refine BZ ?_;refine CR (HC (n:=vars) hB hm' h2 (by omega) (by omega) _ (by simpa[Ca] using hro) ts) ?_;rintro v s1 ⟨r2,k2,rfl,sx,hr4,LS,Ly,rfl⟩;refine AI (Tz r2) ?_;rintro v rfl;exact cE k2 [] (.mk 5 [] r2 []) _ ⟨_,rfl,by simp[AQ]; exact .inl (.AA _)⟩ (L2.leaf rfl rfl (by simp) (by omega)) (by omega) Ly
   | false=>
    have xl:=hx rfl;refine BQ (CC ?_);cases b5:(r==5) with
    | true=>exact BZ (c5 true (fun h=>by cases h))
    | false=>
     have n5:¬ r=5:=by simpa using b5
     refine BQ (CC ?_);cases b6:(r==6) with
     | true=>exact BZ (c5 true (fun h=>by cases h))
     | false=>
      have n6:¬ r=6:=by simpa using b6
      refine BQ (CC (c5 _ (fun h=>?_)));have n7:¬ r=7:=by simpa using h
      omega
  have c2:∀ B:Bool,(B=false->1<r)->kT R 0 L.ro L.rt (.ptr id 0) dv (AD d) (AD vars) (.ptr (bs.length+m.length) 0) (AD r) (BB B) ⟨ST bs id l k1++(m++[Z4]),ts⟩ (QM rr N Post):=by
   intro B hx;refine AKx ?_;cases B with
   | true=>
    refine BZ (PW hW ?_);refine CR (HC (n:=4) hB hm' h2 (by omega) (by omega) _ (by simpa[Ca] using hro) ts) ?_;rintro v s1 ⟨r2,k2,rfl,sx,hr4,LS,Ly,rfl⟩;obtain⟨w,hw,hwl⟩:=Qd hW h4 sW sx hr4;refine Yl sx hw (fX ?_);refine AI (KJ (.AA [])) ?_;rintro v rfl;exact Yk (PW hW (RG W)) (cE k2 [] (.mk 2 w 0 []) _ ⟨_,rfl,by simp[AQ]; exact .inl (.AA _)⟩ (L2.leaf rfl rfl hwl (by omega)) (by omega) Ly)
   | false=>
    have ZP:=hx rfl;refine BQ (CC ?_);cases b2:(r==2) with
    | true=>
     refine BZ ?_;refine AI T9 ?_;rintro v rfl;exact cE k1 [] (.mk 0 [] 0 []) _ ⟨_,rfl,by simp[AQ]; exact .inl (.AA _)⟩ (L2.leaf rfl rfl (by simp) (by omega)) h1 h2
    | false=>
     have n2:¬ r=2:=by simpa using b2
     refine BQ (CC ?_);cases b3:(r==3) with
     | true=>exact BZ (c3 true (fun h=>by cases h))
     | false=>
      have n3:¬ r=3:=by simpa using b3
      refine BQ (CC (c3 _ (fun h=>?_)));have n4:¬ r=4:=by simpa using h
      omega
  refine AKy (CC ?_);cases b0:(r==0) with
  | true=>exact BZ (c2 true (fun h=>by cases h))
  | false=>
   have n0:¬ r=0:=by simpa using b0
   refine BQ (CC (c2 _ (fun h=>?_)));have n1:¬ r=1:=by simpa using h
   omega
 refine AKz ?_;simp only[CX,DI,Ab,Fm];refine CR (OA (n:=14) hB hm' hk (by omega) (by omega) _ (by simpa[Ca] using hro) ts) ?_;rintro v s1 ⟨r,k1,rfl,LU,Qs,SA,hk2,LS,rfl⟩;refine YA ?_
 by_cases jv:d=0
 ·have b0:decide ((d:Int)<=0)=true:=by simp; omega
  rw[b0];refine A8 (A8 (Je (pk ?_)));cases b5:decide (r>5) with
  | true=>exact BZ (AGR k1 0 (by omega) SA hk2 (fun h=>absurd rfl h) (by omega))
  | false=>
   have n5:¬ r>5:=by simpa using b5
   exact BQ (AGR k1 r LU SA hk2 LS (by omega))
 ·have b0:decide ((d:Int)<=0)=false:=by simp; omega
  rw[b0];exact Jd (by simp) (Jd (by simp) (pk (BQ (AGR k1 r LU SA hk2 LS (by omega)))))
end
section
variable {bs:List (List AV)} {id:Nat} {l:Src} {R:Nat->Option (List PV)}
theorem z8 (hB:NK bs id l) {W:List (List UInt8)} (hW:(env R).G 1=some (FV W)) (h4:W.length=4) (sW:Short W) {dv:AV} {rows:List (List PV)} (hD:Decls dv rows):∀ μ:Nat,
  (∀ d:Nat,d<=20->T8 R bs id l dv 41 d (3*d+2) μ (L2 d))/\(∀ d:Nat,d<=20->T8 R bs id l dv 83 d (3*d+1) μ nY)/\(∀ e:Int,-1<=e->e<=20->T8 R bs id l dv 115 e (3*(e+1).toNat) μ NL):=by
 intro μ
 induction μ with
 | zero=>exact⟨fun d _ m _ k _ vars _ h=>absurd h (Gp _),fun d _ m _ k _ vars _ h=>absurd h (Gp _),fun e _ _ m _ k _ vars _ h=>absurd h (Gp _)⟩
 | succ μ ih=>
  obtain⟨i1,i2,i3⟩:=ih;exact⟨fun d hd=>mV hB hW h4 sW μ i2 i1 d hd,fun d hd=>fY hB hW h4 sW hD μ i3 d hd,fun e he he2=>sw hB hW h4 sW μ i2 i1 e he he2⟩
theorem PY (hB:NK bs id l) {W:List (List UInt8)} (hW:(env R).G 1=some (FV W)) (h4:W.length=4) (sW:Short W) {dv:AV} {rows:List (List PV)} (hD:Decls dv rows) {m:List (List AV)} (hm:KW bs m) {k:Nat} (hk:k<=l.length) (L:A0) (hro:L.ro<=id) (ts:List (Nat×Nat)) (Fz:L.rt<=ts.length) :
  ∃ v s',(∃ t k' x,Ba t v/\L2 3 (8*(k'-k)+1) t/\k<=k'/\k'<=l.length/\s'=⟨ST bs id l k'++m,ts++x⟩)/\BC (env R) L 19 [.ptr id 0,dv] ⟨ST bs id l k++m,ts⟩ v s':=by
 have hlen:=hB.len;have hlt:=hB.lt
 suffices H:∀ (rr:Bool) (N:Nat) (Post:AV->AK->Prop),N=bs.length+m.length->(∀ t v k' x,Ba t v->L2 3 (8*(k'-k)+1) t->k<=k'->k'<=l.length->Post v ⟨ST bs id l k'++m,ts++x⟩)->s8 R 0 L.ro L.rt (.ptr id 0) dv ⟨ST bs id l k++m,ts⟩ (QM rr N Post) from
  m19 (by simp[BN,Dl]) (H _ _ _ (by simp[Fm]) fun t v k' x h1 h2 h3 h4=>⟨t,k',x,h1,h2,h3,h4,rfl⟩)
 intro rr N Post hN hP;refine AK0 ?_;simp only[CX,DI,Ab,Fm];refine CR ((z8 hB hW h4 sW hD _).1 3 (by omega) (Yp hm) hk 0 (by omega) (XC _) (Ca (env R) 19 0 L.ro L.rt) hro ts (by simpa[Ca] using Fz)) ?_;rintro v s1 ⟨t,k3,x,hv,hb,LS,Ly,rfl⟩;exact T7 (R:=R) (Post:=Post) (rr:=rr) (N:=N) (k:=k3) (ts:=ts++x) (Z:=Z4) (r:=[]) (L':=Ca (env R) 19 0 L.ro L.rt) hB hm rfl hN hro rfl hv (fun y hy=>hP t y k3 x hy hb LS Ly)
end
def kU:List (List PV)->Bool
 | []=>true
 | r::l=>(match r with
  | .sc (.string a)::.sc (.int .i64 n)::rest=>rest.length==6&&(decide (0<=n)&&(decide (n<=2)&&(decide (a.data.size<2 ^ 50)&&(r.map AV.pv).all Ar)))
  | _=>false)&&kU l
theorem Wd:∀ {l:List (List PV)},kU l=true->∀ r∈l,Yn r
 | [],_,r,h=>by cases h
 | r::l,hl,r',h=>by
  simp only[kU,AG] at hl;rcases Av.1 h with rfl|h
  ·have h1:=hl.1
   split at h1
   ·rename_i a n rest
    simp only[AG,BT,Dv] at h1;obtain⟨h1,h2,h3,h4,h5⟩:=h1;refine⟨a.data.toList,n.toNat,rest,?_,h1,by omega,by simpa using h4,h5⟩;have:((n.toNat:Nat):Int)=n:=by omega
    rw[this]
   ·cases h1
  ·exact Wd hl.2 r' h
def ABZ:Option AV->Bool
 | some (.AA rows)=>decide (rows.length<100)&&kU rows
 | _=>false
theorem AAA {R:Nat->Option (List PV)}:ABZ (Y7 (env R) 60 12 [])=true:=by kernel_rfl
theorem We {R:Nat->Option (List PV)}:AW (env R) 12 [] fun v=>∃ rows,Decls v rows:=by
 have h:=AAA (R:=R);cases hv:Y7 (env R) 60 12 [] with
 | none=>rw[hv] at h; cases h
 | some v=>
  rw[hv] at h;unfold ABZ at h;split at h
  ·rename_i rows he
   cases he;simp only[AG,BT] at h;exact⟨_,⟨rows,.inl (.AA _),Wd h.2,h.1⟩,fun L s=>BC.iB (SC (args':=[]) (by kernel_rfl) (by kernel_rfl) (by simp[AN]) rfl hv L s)⟩
  ·cases h
theorem AK1 {s:AK} {K:AV->AK->Prop} (hK:K (.AA []) s):D4 false s 5 [(.AA []),(AD 0),(SS []),(AD 0),(.AA [])] 0 [] K:=by
 simpa[D4,Fh,B6] using hK
theorem s9 {a b:Int} {K:AV->Prop} (h1:-(2 ^ 63)<=a*b) (h2:a*b<2 ^ 63) (h:K (AD (a*b))):Dx .i64 .mul (AD a) (AD b) K:=⟨⟨rfl,rfl⟩,DX h1 h2 h⟩
theorem kV {L:A0} {s:AK} {lo:Nat} {a y:AV} {l r:List Br} (ha:Ex 0 s.ts 45 a (l.map K0)) (hy:NJ lo s.bs r y) (Fz:L.rt=0) (hl:l.length+r.length<2 ^ 38) {K:AV->AK->Prop}
  (h:∀ a' ts',Ex 0 ts' 45 a' ((l++r).map K0)->K a' ⟨s.bs,ts'⟩):E1 false L s 45 5 80 a y K:=by
 obtain⟨bs,ts⟩:=s
 have hall:((l.map K0).all fun x=>x.length==5)=true:=by
  rw[Bs];intro x hx;obtain⟨b,_,rfl⟩:=Bb.1 hx;simp[K4]
 unfold E1;rcases hy with ⟨rfl,rfl⟩|⟨iy,ry,y1,rfl,y2,y3,y4⟩
 ·have hsrc:C8 ⟨bs,ts⟩ 5 (.AA [])=some []:=rfl
  rw[hsrc];rw[IC] at h;have hk:=h a ts ha;rcases ha with rfl|⟨t,rfl,_⟩ <;> simpa[wO,rowsOf] using hk
 ·obtain⟨c,cs,hc,k1,k2,k3,hal⟩:=NJ.block (lo:=lo) (s:=⟨bs,ts⟩) y2 y3 y4
  have xm:=T2 y3;simp only at y2;rw[hc] at y2 xm
  have hsrc:C8 ⟨bs,ts⟩ 5 (.ref iy 0 r.length 5)=some (c::cs):=by
   simp only[C8,y2];rw[if_pos (by simp[-alive,k1,hal]),Fv,CL (by omega)]
  rw[hsrc];simp only[wO];have hdiv:(c::cs).length / 5=r.length:=by rw[k1]; exact Rb _ (by decide)
  have hby:B6 5 r.length ((r.map K0).flatten)=r.map K0:=by
   have:=GI (k:=5) (r.map K0) (fun x hx=>by
    obtain⟨b,_,rfl⟩:=Bb.1 hx;exact K4 b)
   rwa [AZ] at this
  rw[hdiv,xm];simp only[wO,hby];refine⟨k2,?_⟩;have hml:(l.map K0).length=l.length:=by rw[AZ]
  rcases ha with rfl|⟨t,rfl,h1,h2⟩
  ·refine⟨⟨by omega,by omega,hall⟩,?_⟩
   refine h _ _ (.inr ⟨ts.length,by rw[Mk],?_,AM _⟩);rw[OX];simp
  ·have hlt:=(Ae.1 h1).1
   refine⟨⟨by omega,by omega,h1,by omega,hall⟩,?_⟩;refine h _ _ (.inr ⟨t,by rw[Mk],?_,h2⟩);rw[EA hlt];simp
section
variable {R:RT}
theorem cH {a:AV} {rows:List (List PV)} (ha:BP a rows):AW (env R) 21 [a] fun r=>r=.agg [AD 3,SS [],AD 0,a]:=by
 refine e21 (u0:=a) (by simp[ha.close]) (AK2 ?_);simp[QP,QI,ha.ok,ha.cells,ha.close]
theorem Yr {t:Ty} (hn:TC R) (hsz:size t<2 ^ 60) (hok:eT t) (hfit:verdict t=0->Fit t):XOk R t (xR (depth t) t):=by
 rw[<-APD (depth t) t fun h=>(hfit h).bws];exact fV hn (depth t) t (AL _) hsz hok hfit
theorem AK3 {t:Ty} (h:gq 4 t=true) (hv:verdict t=0):Fit t:=by
 obtain⟨_,h1,h2⟩:=Jm hv;have e:gqQ 4=⟨47250,27669201,9453375,70209,81⟩:=by kernel_rfl
 have:=sg 4 t h h1 h2;rw[e] at this;exact⟨by have:=this.b; show(bw t:Int)<1073741824; simp only at this; omega,by have:=this.w; simp only at this; omega,by have:=this.n; simp only at this; omega⟩
theorem AK4 {t:Ty} (h:gq 3 t=true) (hv:verdict t=0):Fit t:=by
 obtain⟨_,h1,h2⟩:=Jm hv;have e:gqQ 3=⟨3150,1859359,630225,23403,27⟩:=by kernel_rfl
 have:=sg 3 t h h1 h2;rw[e] at this;exact⟨by have:=this.b; show(bw t:Int)<1073741824; simp only at this; omega,by have:=this.w; simp only at this; omega,by have:=this.n; simp only at this; omega⟩
end
theorem Ys {f:Nat} {t:Ty} (hfit:verdict t=0->Fit t):(xR f t).1.length<=32/\∀ b∈(xR f t).1,BrS b:=by
 cases f with
 | zero=>exact⟨by simp[xR],fun b h=>by cases h⟩
 | succ f=>
  rw[xR];cases hg:!(verdict t==0)||!(Dg 0 t) with
  | true=>exact⟨by simp,fun b h=>by cases h⟩
  | false=>
   simp only[FM,Bool.not_eq_false',Dv] at hg;obtain⟨Y1,hc⟩:=hg;obtain⟨hv,h200,_⟩:=Jm Y1;have hft:=hfit Y1;simp only[AB];cases sR:Gi (AR 32) (depth t) t with
   | none=>exact⟨by simp,fun b h=>by cases h⟩
   | some l=>
    simp only;cases (l.map N1).all fun b=>jg b&&b.bounds.all fun b=>HS (xR f b) with
    | false=>exact⟨by simp,fun b h=>by cases h⟩
    | true=>
     refine⟨by have:=zo (depth t) t l sR; simp only[AE,AZ]; omega,fun b hb=>?_⟩;obtain⟨b0,hb0,rfl⟩:=Bb.1 hb;obtain⟨_,q2,q3,q4⟩:=mU hv hc hft sR b0 hb0;exact⟨by omega,by omega,fun c hc=>by have:=(q4 c hc).nX; omega⟩
section
variable {R:RT}
theorem ku (hn:TC R) (fq:AW (env R) 16 [] fun v=>v=BB true) {W:List (List UInt8)} (hW:(env R).G 1=some (FV W)) (sW:Short W) (h4:W.length=4) (l m:List Int) (hl:l.length<2 ^ 50) (hm:m.length<2 ^ 50) :
  AW (env R) 5 [.pv (.list (A4 l)),.pv (.list (A4 m))] fun v=>v=BB true:=by
 refine e5 (u0:=.pv (.list (A4 l))) (u1:=.pv (.list (A4 m))) (by simp) (APl ?_);have hSl:=Src.NC l;have hSm:=Src.NC m;have hB:NK [Lu (.of l) 0] 0 (.of l):=⟨by simp,by simp[R7],by rw[Src.NC]; omega⟩;have hST:∀ k,Tel.ST [Lu (.of l) 0] 0 (.of l) k=[Lu (.of l) k]:=fun k=>by simp[Tel.ST]
 have h0:KW [Lu (.of l) 0] []:=fun b hb=>by cases hb
 refine CR (cD l _ _) ?_;rintro v s1 ⟨rfl,rfl⟩;have e0:(⟨[]++[Lu (.of l) 0],[]⟩:AK)=⟨Tel.ST [Lu (.of l) 0] 0 (.of l) 0++[],[]⟩:=by simp[hST]
 show Fe (env R) _ _ _ ⟨[]++[Lu (.of l) 0],[]⟩ _
 rw[e0];refine AI We ?_;rintro dv ⟨rows,hD⟩;refine CR (PY hB hW h4 sW hD h0 (k:=0) (by omega) (Ca (env R) 5 0 0 0) (by simp[Ca]) [] (by simp[Ca])) ?_;rintro x s1 ⟨t,k1,x1,hx,ht1,_,SA,rfl⟩;simp only[hST,IC,Di];refine CR (cD m _ _) ?_;rintro v s1 ⟨rfl,rfl⟩;have hB2:NK [Lu (.of l) k1,Lu (.of m) 0] 1 (.of m):=⟨by simp,by simp[R7],by rw[Src.NC]; omega⟩;have h02:KW [Lu (.of l) k1,Lu (.of m) 0] []:=fun b hb=>by cases hb
 have e1:(⟨[Lu (.of l) k1]++[Lu (.of m) 0],x1⟩:AK)=⟨Tel.ST [Lu (.of l) k1,Lu (.of m) 0] 1 (.of m) 0++[],x1⟩:=by simp[Tel.ST]
 show Fe (env R) _ _ _ ⟨[Lu (.of l) k1]++[Lu (.of m) 0],x1⟩ _
 rw[e1];refine AI We ?_;rintro dv2 ⟨sy,hD2⟩;refine CR (PY hB2 hW h4 sW hD2 h02 (k:=0) (by omega) (Ca (env R) 5 0 0 0) (by simp[Ca]) x1 (by simp[Ca])) ?_;rintro y s1 ⟨u,k2,x2,hy,hu1,_,hk2,rfl⟩
 have hs0:B9 ⟨Tel.ST [Lu (.of l) k1,Lu (.of m) 0] 1 (.of m) k2++[],x1++x2⟩:=by
  intro d hd;simp only[Tel.ST,List.set_cons_succ,List.set_cons_zero,IC,Av,Fs,FL] at hd;rcases hd with rfl|rfl <;> exact R7 _ _ _
 generalize Tel.ST [Lu (.of l) k1,Lu (.of m) 0] 1 (.of m) k2++[]=bs at hs0;generalize x1++x2=tk at hs0
 have AK6:∀ k:Int,eT (.mk k [] 0 [t,u]):=fun k=>by
  simp only[eT,Sz];exact⟨by unfold Zh; simp,ht1.1.1,hu1.1.1,Al⟩
 have s1:=ht1.1.2;have s2:=hu1.1.2;have hs4:∀ k:Int,size (.mk k [] 0 [t,u])<2 ^ 60:=fun k=>by simp only[size,Ac]; omega
 have hg4:∀ k:Int,(k==3||k==4)=true->gq 4 (.mk k [] 0 [t,u])=true:=fun k hk=>by
  rw[gq,hk];simp only[AE,T3,ht1.2,hu1.2];rfl
 have wU:=AK4 ht1.2;have hf2:=AK4 hu1.2;have hf3:=AK3 (hg4 4 rfl);have hf4:=AK3 (hg4 3 rfl);have hX1:=Yr (R:=R) (t:=t) hn (by omega) ht1.1.1 wU;have hX2:=Yr (R:=R) (t:=u) hn (by omega) hu1.1.1 hf2;have hX3:=Yr (R:=R) hn (hs4 4) (AK6 4) hf3;have hX4:=Yr (R:=R) hn (hs4 3) (AK6 3) hf4;obtain⟨l1,_⟩:=Ys (f:=depth t) wU;obtain⟨l2,_⟩:=Ys (f:=depth u) hf2;obtain⟨l3,b3⟩:=Ys (f:=depth (.mk 4 [] 0 [t,u])) hf3;obtain⟨l4,_⟩:=Ys (f:=depth (.mk 3 [] 0 [t,u])) hf4;have hun:=fun h1 h2 h3=>sA (s:=t) (t:=u) (a:=depth t) (b:=depth u) (c:=depth (.mk 4 [] 0 [t,u])) h1 h2 h3
 have htu:=fun h1 h2 h3=>sB (s:=t) (t:=u) (a:=depth t) (b:=depth u) (c:=depth (.mk 3 [] 0 [t,u])) h1 h2 h3
 generalize xR (depth t) t=o1 at hX1 l1 hun htu;generalize xR (depth u) u=o2 at hX2 l2 hun htu;generalize xR (depth (.mk 4 [] 0 [t,u])) (.mk 4 [] 0 [t,u])=o3 at hX3 l3 b3 hun;generalize xR (depth (.mk 3 [] 0 [t,u])) (.mk 3 [] 0 [t,u])=o4 at hX4 l4 htu;obtain⟨xc,rfl⟩:=hx.agg;obtain⟨c1,c2,c3⟩:=hx.cells;obtain⟨yc,rfl⟩:=hy.agg;obtain⟨d1,d2,d3⟩:=hy.cells;refine Cj (Cj (Ck (A6 (Ay bs Z4) Z4) c1 rfl (by decide) (AM _) c2 (.inl (AM _)) ?_))
 have e2:(bs++[Z4]++[Z4]).set bs.length xc=bs++[xc]++[Z4]:=by
  rw[List.set_append_left _ _ (by simp)];congr 1;simp
 show C2 _ ⟨(bs++[Z4]++[Z4]).set bs.length xc,tk⟩ 4 (.ptr (bs++[Z4]).length 0) _ _
 have e3:(bs++[Z4]).length=(bs++[xc]).length:=by simp
 rw[e2,e3];refine Ck (Ay (bs++[xc]) Z4) d1 rfl (by decide) (AM _) d2 (.inl (AM _)) ?_;have e4:(bs++[xc]++[Z4]).set (bs++[xc]).length yc=bs++[xc]++[yc]:=by simp
 show FA _ ⟨(bs++[xc]++[Z4]).set (bs++[xc]).length yc,tk⟩ _ _ _
 rw[e4];have hs2:B9 ⟨bs++[xc]++[yc],tk⟩:=B9.app (s:=⟨bs++[xc],tk⟩) (B9.app (s:=⟨bs,tk⟩) hs0 (c3 _)) (d3 _);have gx:=A6 (Ay bs xc) yc;have gy:=Ay (bs++[xc]) yc;generalize (bs++[xc]).length=q at gy;generalize bs++[xc]++[yc]=B at hs2 gx gy;generalize bs.length=p at gx;obtain⟨v,s',⟨a1,rfl,q1,q2,q3,_,q5⟩,NT⟩:=hX1 (.agg xc) hx ⟨B,tk⟩ hs2 (Ca (env R) 5 0 0 0) rfl rfl rfl;obtain⟨B1,tk1⟩:=s';refine Az gx c1 ⟨_,_,NT,Bq rfl (Bq rfl ?_)⟩;have gx1:=Dh q2 gx;have gy1:=Dh q2 gy;obtain⟨v,s',⟨a2,rfl,r1,r2,r3,_,r5⟩,Pc⟩:=hX2 (.agg yc) hy ⟨B1,tk1⟩ q5 (Ca (env R) 5 0 0 0) rfl rfl rfl;obtain⟨B2,tk2⟩:=s';refine Az gy1 d1 ⟨_,_,Pc,Bq rfl (Bq rfl ?_)⟩;have gx2:=Dh r2 gx1;have gy2:=Dh r2 gy1;have q1:=q1.NA r2;refine Az gx2 c1 (Az gy2 d1 (UA hx hy _ _ (AI (RH (.AA _)) ?_)));rintro _ rfl;obtain⟨v,s',⟨a3,rfl,u1,u2,u3,_,u5⟩,Rq⟩:=hX3 _ ⟨_,rfl,.inl (.AA _)⟩ ⟨B2,tk2⟩ r5 (Ca (env R) 5 0 0 0) rfl rfl rfl;obtain⟨B3,tk3⟩:=s';refine⟨_,_,Rq,Bq rfl (Bq rfl ?_)⟩;have gx3:=Dh u2 gx2;have gy3:=Dh u2 gy2;have q1:=q1.NA u2;have r1:=r1.NA u2;refine Az gx3 c1 (Az gy3 d1 (UA hx hy _ _ (AI (cH (.AA _)) ?_)));rintro _ rfl;obtain⟨v,s',⟨a4,rfl,w1,w2,w3,_,w5⟩,hc4⟩:=hX4 _ ⟨_,rfl,.inl (.AA _)⟩ ⟨B3,tk3⟩ u5 (Ca (env R) 5 0 0 0) rfl rfl rfl;obtain⟨B4,tk4⟩:=s';refine⟨_,_,hc4,Bq rfl (Bq rfl (Fk ?_))⟩;have q1:=q1.NA w2;have r1:=r1.NA w2;have u1:=u1.NA w2;have done:∀ s:AK,(QP fun v=>v=BB true) (BB true) s:=fun s=>⟨_,Ic,rfl⟩
 cases h1:o1.2 != 0 with
 | true=>
  refine Bv (Bv (pk (BZ (AI fq ?_))));rintro _ rfl;exact done _
 | false=>
  refine A8 (A8 (Fk (pk ?_)));cases h2:o2.2 != 0 with
  | true=>
   refine BZ (AI fq ?_);rintro _ rfl;exact done _
  | false=>
   have z1:o1.2=0:=by simpa[bne] using h1
   have z2:o2.2=0:=by simpa[bne] using h2
   have hmul:o1.1.length*o2.1.length<=32*32:=OY l1 l2;refine BQ (APm (AI fq ?_));rintro _ rfl;refine A8 (A8 (Fk (A8 ?_)));have AK7:∀ tk,Bk ⟨B4,tk⟩ a4=some o4.1.length:=fun tk=>NJ.Bk (s:=⟨B4,tk⟩) w1
   have AK8:∀ tk,Bk ⟨B4,tk⟩ a1=some o1.1.length:=fun tk=>NJ.Bk (s:=⟨B4,tk⟩) q1
   have AK9:∀ tk,Bk ⟨B4,tk⟩ a2=some o2.1.length:=fun tk=>NJ.Bk (s:=⟨B4,tk⟩) r1
   have z4:∀ h:(o4.2 != 0)=false,(BB (((o4.1.length:Nat):Int)==(o1.1.length:Int)*(o2.1.length:Int)))=BB true:=fun h=>by
    rw[htu z1 z2 (by simpa[bne] using h)];simp
   cases h3:o3.2 != 0 with
   | true=>
    refine Bv (Bv (Bv (Bv (Bv (Bv (Bv (A8 (pk (pk (A8 (A8 (Fk (A8 ?_)))))))))))));cases xl:o4.2 != 0 with
    | true=>exact Bv (Bv (Bv (Bv (Bv (Bv (Bv (Bv (A8 (pk (pk (done _)))))))))))
    | false=>
     refine A8 (A8 (BS (AK7 _) (A8 (A8 (BS (AK8 _) (A8 (A8 (BS (AK9 _) (A8 (s9 (by omega) (by omega) (A8 (CC ?_))))))))))));rw[z4 xl];exact A8 (pk (pk (done _)))
   | false=>
    have z3:=hun z1 z2 (by simpa[bne] using h3);refine A8 (A8 (AK1 (A8 (A8 ⟨by decide,kV (l:=[]) (.inl rfl) q1 rfl (by simp only[BV]; omega) fun y1 Qo k1=>?_⟩))));rw[Di] at k1;refine A8 (A8 ⟨by decide,kV (s:=⟨B4,Qo⟩) (l:=o1.1) k1 r1 rfl (by omega) fun y2 N2 k2=>?_⟩);obtain⟨w,⟨e,rfl,he⟩,cB⟩:=N9 (R:=R) (s:=⟨B4,N2⟩) (.inl ⟨_,u1⟩) (.inr k2.BG) (by omega) b3 (Ca (env R) 5 0 0 0);have:e=true:=he.2 z3;subst this;refine A8 ⟨_,_,cB,A8 (pk (pk (A8 (A8 (Fk (A8 ?_))))))⟩;cases xl:o4.2 != 0 with
    | true=>exact Bv (Bv (Bv (Bv (Bv (Bv (Bv (Bv (A8 (pk (pk (done _)))))))))))
    | false=>
     refine A8 (A8 (BS (AK7 _) (A8 (A8 (BS (AK8 _) (A8 (A8 (BS (AK9 _) (A8 (s9 (by omega) (by omega) (A8 (CC ?_))))))))))));rw[z4 xl];exact A8 (pk (pk (done _)))
end
end Go.Proofs.YtpgfpakdnijngaaGreatDoor
