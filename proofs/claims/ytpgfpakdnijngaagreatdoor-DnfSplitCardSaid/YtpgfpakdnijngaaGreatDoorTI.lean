/-
  Generated terms: term.
-/
import Derived.Test.YtpgfpakdnijngaaGreatDoorTH
import Derived.Test.YtpgfpakdnijngaaGreatDoorTE
import Derived.Test.YtpgfpakdnijngaaGreatDoorW1
set_option linter.all false
namespace Go.Proofs.YtpgfpakdnijngaaGreatDoor
open Go.Tel
attribute [local simp] Ia Mt Js KW ER Fh Eo wO setCells IM D5 DF Ce E2 alive DX KF Tl gY HW JM HI Ib Lr JN oY kj okB oZ oa oc od og fP oh oo oq ot ou ow oz o5 o6 o7 o8 okF o9 pE pF pG pH V7 pI Qm Qn Qo Qp pJ pK pL pM pN pO pP pQ pR pS Hu pT kn pU pV pW pX pY pZ pg pn pq pz Cp
section
variable {bs:List (List AV)} {id:Nat} {l:Src} {R:Nat->Option (List PV)}
theorem VS:Af (env R) 53 [] λr=>r=T0 0 [] 0:=by
 refine e53 AD (ARh ?_);simp[QP,QI]
theorem jb:Af (env R) 80 [] λr=>r=T0 1 [] 0:=by
 refine e80 AD (ARi ?_);simp[QP,QI]
theorem Zz {k1 i1 k2 i2:Int} {n1 n2:List UInt8} {a1 a2:AV} {AEy AEz:List (List PV)} (h1:BE a1 AEy) (h2:BE a2 AEz) :
  Af (env R) 52 [.agg [AG k1,SS n1,AG i1,a1],.agg [AG k2,SS n2,AG i2,a2]] λr=>r=.agg [AG 6,SS [],AG 0,.AE [[.sc (.int .i64 k1),.sc (.string ⟨n1.toArray⟩),.sc (.int .i64 i1),.list AEy],[.sc (.int .i64 k2),.sc (.string ⟨n2.toArray⟩),.sc (.int .i64 i2),.list AEz]]]:=by
 obtain⟨b1,c1,r1⟩:=h1.closed ([]:List (List AV)) 0;obtain⟨b2,c2,r2⟩:=h2.closed ([]:List (List AV)) 0;refine e52 (u0:=.agg [AG k1,SS n1,AG i1,b1]) (u1:=.agg [AG k2,SS n2,AG i2,b2]) (by simp[*]) (ARj ?_);simp[QP,QI,r1.ok,r2.ok,r1.KB,r2.KB,HJ,Fu,CI]
theorem BP.self {t:Ty} {v:AV} (h:BP t v):Dg v v=true:=by
 obtain⟨k,n,i,ts⟩:=t;obtain⟨a,rfl,ha⟩:=h
 grind[Dg,JG,NZ,FQ,IP,BE.Dg]
theorem QH {t u:Ty} {x y:AV} (h:BP t x) (h':BP u y):Af (env R) 52 [x,y] λr=>BP (.mk 6 [] 0 [t,u]) r:=by
 obtain⟨k,n,i,ts⟩:=t;obtain⟨k',n',i',ts'⟩:=u;obtain⟨a,rfl,ha⟩:=h;obtain⟨a',rfl,Nd⟩:=h';obtain⟨v,hv,hc⟩:=Zz (R:=R) (k1:=k) (i1:=i) (k2:=k') (i2:=i') (n1:=n) (n2:=n') ha Nd;exact⟨v,⟨_,hv,by simp[Ad,Aj]; exact .inl (.AE _)⟩,hc⟩
theorem yu {t u:Ty} {x y:AV} (h:BP t x) (h':BP u y) (s:AQ) (K:AV->AQ->Prop) (hK:K (.AE (Ad [t,u])) s):HJ false s 4 [(AG 0),(SS []),(AG 0),(.AE [])] 2 [(0,4,x),(4,4,y)] K:=by
 obtain⟨k,n,i,ts⟩:=t;obtain⟨k',n',i',ts'⟩:=u;obtain⟨a,rfl,ha⟩:=h;obtain⟨a',rfl,Nd⟩:=h';simp[HJ,Fu,CI,ha.ok,ha.KB,Nd.ok,Nd.KB]
 assumption
theorem qv (hB:Oj bs id l) {W:List (List UInt8)} (hW:(env R).G 1=some (Ez W)) (h4:W.length=4) (sW:Short W) {dv:AV} (μ:Nat)
  (ihn:∀d:Nat,d<=20->VR R bs id l dv 83 d (3*d+1) μ (nB d)) (iht:∀d:Nat,d<=20->VR R bs id l dv 41 d (3*d+2) μ (MD d)) (d:Nat) (hd:d<=20):VR R bs id l dv 41 d (3*d+2) (μ+1) (MD d):=by
 intro m hm k hk vars hvars hμ L hro ts Ee;have hlen:=hB.len;have hlt:=hB.lt
 suffices H:∀(rr:Bool) (N:Nat) (Post:AV->AQ->Prop),N=bs.length+m.length->(∀t v k' x,BP t v->MD d (8*(k'-k)+1) t->k<=k'->k'<=l.length->Post v ⟨ST bs id l k'++m,ts++x⟩)->AE0 R 0 L.ro L.rt (.ptr id 0) dv (AG d) (AG vars) ⟨ST bs id l k++m,ts⟩ (QM rr N Post) from
  m41 (by simp[DK,Fx]) (H _ _ _ (by simp[GC]) λt v k' x h1 h2 h3 h4=>⟨t,k',x,h1,h2,h3,h4,rfl⟩)
 intro rr N Post hN hP;have hm':=Zy hm;have g1:∀n,L.ro<=bs.length+m.length+n:=λn=>by omega
 have fin:∀(k1:Nat) (x:List (Nat×Nat)) (r:List (List AV)) (t:Ty) (v:AV),BP t v->MD d (8*(k1-k)+1) t->k<=k1->k1<=l.length->IM (Ce (env R) 41 0 L.ro L.rt) ⟨ST bs id l k1++(m++Z4::r),ts++x⟩ 4 (.ptr (bs.length+m.length) 0) v λs1=>D5 (env R) s1 (some 4) (.ptr (bs.length+m.length) 0) λr=>QM rr N Post r s1:=
  λk1 x r t v hv hb h1 h2=>VQ (R:=R) (Post:=Post) (rr:=rr) (N:=N) (k:=k1) (ts:=ts++x) (Z:=Z4) (r:=r) (L':=Ce (env R) 41 0 L.ro L.rt) hB hm rfl hN hro rfl hv (λy hy=>hP t y k1 x hy hb h1 h2)
 have eF:∀(k1:Nat) (r:List (List AV)) (t:Ty) (v:AV),BP t v->MD d (8*(k1-k)+1) t->k<=k1->k1<=l.length->IM (Ce (env R) 41 0 L.ro L.rt) ⟨ST bs id l k1++(m++Z4::r),ts⟩ 4 (.ptr (bs.length+m.length) 0) v λs1=>D5 (env R) s1 (some 4) (.ptr (bs.length+m.length) 0) λr=>QM rr N Post r s1:=by
  intro k1 r t v hv hb h1 h2;have:=fin k1 [] r t v hv hb h1 h2;simpa using this
 have rt':∀x:List (Nat×Nat),(Ce (env R) 41 0 L.ro L.rt).rt<=(ts++x).length:=λx=>by simp[Ce]; omega
 have mu:∀k1,k<=k1->(l.length-k1)*100<=(l.length-k)*100:=λk1 h=>B5 _ AA
 have mus:∀k1,k<k1->k1<=l.length->(l.length-k1)*100+100<=(l.length-k)*100:=λk1 h h'=>by
  have:(l.length-k1+1)*100<=(l.length-k)*100:=B5 _ AA;omega
 have AB0:∀k1,k<=k1->k1<=l.length->He (env R) (Ce (env R) 41 0 L.ro L.rt) (.func (.func 83) [] []) [(.ptr id 0),dv,(AG d),(AG vars)] ⟨ST bs id l k1++(m++[Z4]),ts⟩ λa48 dw=>
   IM (Ce (env R) 41 0 L.ro L.rt) dw 4 (.ptr (bs.length+m.length) 0) a48 λAIn=>D5 (env R) AIn (some 4) (.ptr (bs.length+m.length) 0) λr=>QM rr N Post r AIn:=by
  intro k1 h1 h2;refine Cs (ihn d hd hm' h2 vars hvars (by have:=mu k1 h1; omega) (Ce (env R) 41 0 L.ro L.rt) hro ts (by simpa[Ce] using Ee)) ?_;rintro v s1 ⟨t,k3,x,hv,hb,MW,Mb,rfl⟩;exact fin k3 x [] t v hv (hb.g.mono AA) AA Mb
 have last:∀k1,0<d->k<k1->k1<=l.length->yw R 0 L.ro L.rt (.ptr id 0) (.ptr (bs.length+m.length) 0) ⟨ST bs id l k1++(m++[Z4]),ts⟩ (QM rr N Post):=by
  intro k1 qa h1 h2;refine AJh ?_;refine Cs (HF (n:=4) hB hm' h2 AA AA _ (by simp[*]) ts) ?_;rintro v s1 ⟨r2,k2,rfl,sQ,hr4,MW,Mb,rfl⟩;refine A0 ?_;cases (r2==0) with
  | true=>
   refine A9 ?_;refine AL jb ?_;rintro v rfl;exact eF k2 [] (.mk 1 [] 0 []) _ ⟨_,rfl,by simp[Ad]; exact .inl (.AE _)⟩ (MD.leaf rfl rfl AD AA AA) AA Mb
  | false=>
   refine Ay (AJi ?_);refine AL VS ?_;rintro v rfl;refine AL (J2 0) ?_;rintro v rfl
   have QS:∀(s:AQ) (K:AV->AQ->Prop),K (.AE (Ad [.mk 5 [] 0 []])) s->HJ false s 4 [(AG 0),(SS []),(AG 0),(.AE [])] 1 [(0,4,T0 5 [] 0)] K:=by
    intro s K hK;simp[HJ,Fu,CI];simpa[Ad,Aj] using hK
   refine QS _ _ ?_;refine AL (Ka (.AE _)) ?_;rintro v rfl;refine AL (QH (t:=.mk 0 [] 0 []) (u:=.mk 2 [66,111,120] 0 [.mk 5 [] 0 []]) ⟨_,rfl,by simp[Ad]; exact .inl (.AE _)⟩ ⟨_,rfl,.inl (.AE _)⟩) ?_;intro v hv;refine eF k2 [] _ _ hv ?_ AA Mb;exact MD.ex (B:=1) (C:=2) qa (MD.leaf rfl rfl AD AA AA) ((nB.of (RN.node (B:=1) AD (JV.cons (B:=1) (C:=0) (RN.leaf AD AA) JV.nil AA)) (QF (by simp[size,Ac]) (by simp[depth,Cf])) AD AR).g) AA
 have ARk:∀(k1:Nat) (x:List (Nat×Nat)) (tb:Ty) (vb:List AV),BP tb (.agg vb)->vb.length=4->(vb.all BD)=true->(∀n,Ah n vb=true)->0<d->k<k1->k1<=l.length->MD 1 (8*(k1-k)-7) tb ->
   AE1 R 0 L.ro L.rt (.ptr id 0) dv (AG d) (AG vars) (.ptr (bs.length+m.length) 0) (.ptr (bs.length+m.length+1) 0) ⟨ST bs id l k1++(m++[Z4,vb]),ts++x⟩ (QM rr N Post):=by
  intro k1 x tb vb D4 hv4 hok gN qa h1 h2 hsz;have hld:∀(k:Nat) (t:List (Nat×Nat)) (K:AV->Prop),K (.agg vb)->D5 (env R) ⟨ST bs id l k++(m++[Z4,vb]),t⟩ (some 4) (.ptr (bs.length+m.length+1) 0) K:=by simp[*,EP,CU]
  refine ARm (hld _ _ _ (Hf AA AA (Ba AA AA ?_)));have e3:((d:Nat):Int)-1=((d-1:Nat):Int):=AA;have e4:((vars:Nat):Int)+1=((vars+1:Nat):Int):=AA;rw[e3,e4]
  have hm2:LV bs (m++[Z4,vb]):=Jd hm (by
   intro b hb;simp only[A5,Ep,Er] at hb;rcases hb with rfl|rfl
   all_goals simp[*,Ah,Aw])
  refine Cs (iht (d-1) AA hm2 h2 (vars+1) AA AA (Ce (env R) 41 0 L.ro L.rt) hro (ts++x) (rt' x)) ?_;rintro v s1 ⟨t,k3,x3,hv,hb,MW,Mb,rfl⟩;refine AL (QH D4 hv) ?_;intro w hw;refine Zt (hld _ _ _ D4.self) ?_;rw[Du];refine fin k3 (x++x3) [vb] _ w hw ?_ AA Mb;exact MD.ex qa hsz hb AA
 have loop:∀(k1 cnt:Nat),0<d->k<k1->k1<=l.length->cnt<=3->∀(j q k2:Nat) (x:List (Nat×Nat)) (a:AV) (es:List Ty),q+j=cnt->k1<=k2->k2<=l.length->es.length=q->Zx (d-1) (8*(k2-k1)+q) es->Dl ts.length (ts++x) 25 a (Ad es) ->
   AE2 R 0 L.ro L.rt (.ptr id 0) dv (AG d) (AG vars) (.ptr (bs.length+m.length) 0) (.ptr (bs.length+m.length+1) 0) (AG cnt) (AG q) ⟨ST bs id l k2++(m++[Z4,[AG 3,SS [],AG 0,a]]),ts++x⟩ (QM rr N Post):=by
  intro k1 cnt qa TD hk2 M1 j
  induction j with
  | zero=>
   intro q k2 x a es hq AJc ja hes hqs ha;have ho:=ha.A1;refine AE3 (Ao ?_);have h1:¬ ((q:Int)<cnt):=AA;simp only[h1,YW];refine Ay (AJj ?_);have:=fin k2 x [[AG 3,SS [],AG 0,a]] (.mk 3 [] 0 es) (.agg [AG 3,SS [],AG 0,a]) ⟨a,rfl,ho⟩ ((MD.tup qa AA hqs).mono AA) AA ja;simpa[D5,wO,DF,EP] using this
  | succ j D1=>
   intro q k2 x a es hq AJc ja hes hqs ha;have ho:=ha.A1;refine AE3 (Ao ?_);have h1:((q:Int)<cnt):=AA;simp only[h1,decide_true];refine A9 (AJk ?_);have hm2:LV bs (m++[Z4,[AG 3,SS [],AG 0,a]]):=Jd hm (by simp[Ah,Aw,ho.Aw]);simp[EP,J4,IW,J5];refine CS AA AA ?_;have e3:((d:Nat):Int)-1=((d-1:Nat):Int):=AA;rw[e3];refine Cs (iht (d-1) AA hm2 ja vars AA AA (Ce (env R) 41 0 L.ro L.rt) hro (ts++x) (rt' x)) ?_;rintro v s1 ⟨t,k3,x2,hv,hqn,Mb,aP,rfl⟩;obtain⟨c1,n1,i1,qu⟩:=t;obtain⟨b,rfl,hb⟩:=hv;simp[HJ,Fu,hb.ok,hb.KB,EP,J4,IW,J5];have hrow:CI 4 1 [PV.sc (.int .i64 c1),.sc (.string ⟨n1.toArray⟩),.sc (.int .i64 i1),.list (Ad qu)]=[Aj (.mk c1 n1 i1 qu)]:=AR;rw[hrow]
   have SH:Dl ts.length (ts++(x++x2)) 25 a (Ad es):=by
    rw[<-Du];exact ha.grow
   refine M6 SH Ee (λr hr=>VO r hr) (Al _) AA (DE _) (by simp[Aa]; omega) (by simp[Aa]; omega) ?_;intro a' x' Nd;have ho':=Nd.A1;have:=g1 1;simp[EP,J4,IW,J5,ho'.ok,ho'.cells,ho'.Jf,this];refine⟨by simp[Dg],?_,?_⟩
   .simpa[ABx.Dg] using ABx.Dg ha
   refine AJl (Ba AA AA ?_)
   have z7:Dl ts.length (ts++x') 25 a' (Ad (es++[.mk c1 n1 i1 qu])):=by
    rw[FU];simpa[Ad] using Nd
   have:=D1 (q+1) k3 x' a' (es++[.mk c1 n1 i1 qu]) AA AA aP (by simp; omega) (Zx.snoc hqs hqn AA) z7;simpa using this
 have AZa:∀(k1:Nat) (r:Int),0<=r->k<=k1->k1<=l.length->(r≠0->k<k1)->(5<r->0<d)->AE4 R 0 L.ro L.rt (.ptr id 0) dv (AG d) (AG vars) (.ptr (bs.length+m.length) 0) (AG r) ⟨ST bs id l k1++(m++[Z4]),ts⟩ (QM rr N Post):=by
  intro k1 r h0r h1 h2 hkk hd5
  have c7:∀B:Bool,(r=10\/r=11->B=true)->(B=true->r=10\/r=11)->9<r->AE5 R 0 L.ro L.rt (.ptr id 0) dv (AG d) (AG vars) (.ptr (bs.length+m.length) 0) (AG r) (BB B) ⟨ST bs id l k1++(m++[Z4]),ts⟩ (QM rr N Post):=by
   intro B vv hB2 h9;have qa:=hd5 AA;have sA:=hkk AA;have eL:∀k,(ST bs id l k++(m++[Z4])).length=bs.length+m.length+1:=λk=>by simp[GC]; omega
   have eA:∀(k:Nat) (b:List AV) (t:List (Nat×Nat)),(⟨(ST bs id l k++(m++[Z4]))++[b],t⟩:AQ)=⟨ST bs id l k++(m++[Z4,b]),t⟩:=λk b t=>by simp
   have st4:∀(k:Nat) (t:List (Nat×Nat)) (z b:List AV),z.length=4->b.length=4->(b.all BD)=true->∀K:AQ->Prop,K ⟨ST bs id l k++(m++[Z4,b]),t⟩->IM (Ce (env R) 41 0 L.ro L.rt) ⟨ST bs id l k++(m++[Z4,z]),t⟩ 4 (.ptr (bs.length+m.length+1) 0) (.agg b) K:=by
    intro k t z b hz hb hok K hK;have hce:cellsOf (.agg b)=b:=rfl;simp only[IM,EP,IJ,JB,wO,hce];refine⟨⟨hb,AA,by have:=g1 1; simp[Ce]; omega,hok,.inl (by simp[Ce]),AA⟩,?_⟩;rw[IW]
    have:setCells z 0 b=b:=by
     obtain⟨z0,z1,z2,z3,rfl⟩:∃z0 z1 z2 z3,z=[z0,z1,z2,z3]:=by
      rcases z with _|⟨a,_|⟨b,_|⟨c,_|⟨d,_|⟨e,l⟩⟩⟩⟩⟩ <;> simp at hz
      exact⟨_,_,_,_,rfl⟩
     obtain⟨b0,b1,b2,b3,rfl⟩:∃z0 z1 z2 z3,b=[z0,z1,z2,z3]:=by
      rcases b with _|⟨a,_|⟨b,_|⟨c,_|⟨d,_|⟨e,l⟩⟩⟩⟩⟩ <;> simp at hb
      exact⟨_,_,_,_,rfl⟩
     simp[setCells]
    rw[this];exact hK
   refine ARn ?_;cases B with
   | true=>
    refine A9 ?_;refine Hg (cs:=[AG 3,SS [],AG 0,.AE []]) AD ?_;simp only[Ia,eL,eA];refine st4 _ _ _ _ rfl rfl AR _ ?_;have hm2:LV bs (m++[Z4,[AG 3,SS [],AG 0,.AE []]]):=Jd hm (by simp[Ah,Aw]);refine Cs (HF (n:=4) hB hm2 h2 AA AA _ (by simp[*]) ts) ?_;rintro v s1 ⟨r2,k2,rfl,sQ,hr4,MW,Mb,rfl⟩;obtain⟨j,rfl⟩:=kF sQ;have:=loop k2 j qa AA Mb AA j 0 k2 [] (.AE []) [] AA (AY _) Mb rfl Zx.nil (.inl AR)
    grind
   | false=>
    refine Ay (A0 ?_);cases b12:(r==12) with
    | true=>
     refine A9 ?_;refine AL VS ?_;rintro v rfl;simp only[Ia,eL,eA];refine st4 _ _ _ _ rfl rfl AR _ ?_;have hm2:LV bs (m++[Z4,[AG 0,SS [],AG 0,.AE []]]):=Jd hm (by simp[Ah,Aw]);refine Cs (HF (n:=2) hB hm2 h2 AA AA _ (by simp[*]) ts) ?_;rintro v s1 ⟨r2,k2,rfl,sQ,hr4,MW,Mb,rfl⟩;refine A0 ?_;cases (r2==1) with
     | true=>
      refine A9 ?_;have e1:(AG (1:Int))=AG ((1:Nat):Int):=rfl;have e0:(AG (0:Int))=AG ((0:Nat):Int):=rfl;refine Cs (iht 1 AA hm2 Mb 0 AA AA (Ce (env R) 41 0 L.ro L.rt) hro ts (by simp[*])) ?_;rintro v s1 ⟨t,k3,x,hv,hb,aP,ZD,rfl⟩;have LY:=hv;obtain⟨c1,n1,i1,qu⟩:=t;obtain⟨a1,rfl,ha1⟩:=LY;refine st4 _ _ _ _ rfl rfl (by simp[ha1.ok]) _ ?_;exact ARk k3 x _ _ hv rfl (by simp[ha1.ok]) (by simp[Ah,Aw,ha1.Aw]) qa AA ZD (hb.mono AA)
     | false=>
      have:=ARk k2 [] (.mk 0 [] 0 []) [AG 0,SS [],AG 0,.AE []] ⟨_,rfl,by simp[Ad]; exact .inl (.AE _)⟩ rfl AR (by simp[Ah,Aw]) qa AA Mb (MD.leaf rfl rfl AD AA AA)
      grind[Ay]
    | false=>grind[Ay]
  have c6:∀B:Bool,(B=true->7<r)->(B=false->9<r)->AE6 R 0 L.ro L.rt (.ptr id 0) dv (AG d) (AG vars) (.ptr (bs.length+m.length) 0) (AG r) (BB B) ⟨ST bs id l k1++(m++[Z4]),ts⟩ (QM rr N Post):=by
   intro B vv hB2;refine ARo ?_;cases B with
   | true=>
    have h8:=vv rfl;have qa:=hd5 AA;have sA:=hkk AA;refine A9 (Hf AA AA ?_);have e3:((d:Nat):Int)-1=((d-1:Nat):Int):=AA;rw[e3];refine Cs (iht (d-1) AA hm' h2 vars AA AA (Ce (env R) 41 0 L.ro L.rt) hro ts (by simp[*])) ?_;rintro v s1 ⟨t,k2,x,hv,hb,MW,Mb,rfl⟩;refine Hf AA AA ?_;rw[e3];refine Cs (iht (d-1) AA hm' Mb vars AA AA (Ce (env R) 41 0 L.ro L.rt) hro (ts++x) (rt' x)) ?_;rintro w s1 ⟨u,k3,x3,hw,hc,aP,ZD,rfl⟩;refine yu hv hw _ _ ?_;refine AL (eE (.AE _)) ?_;rintro y rfl;rw[Du];exact fin k3 (x++x3) [] (.mk 4 [] 0 [t,u]) _ ⟨_,rfl,.inl (.AE _)⟩ (MD.un qa hb hc AA) AA ZD
   | false=>
    have h9:=hB2 rfl;refine Ay (A0 ?_);cases b10:(r==10) with
    | true=>grind[A9]
    | false=>
     have n10:¬ r=10:=AB;refine Ay (A0 (c7 _ ?_ ?_ h9))
     all_goals grind
  have c5:∀B:Bool,(B=false->7<r)->AE7 R 0 L.ro L.rt (.ptr id 0) dv (AG d) (AG vars) (.ptr (bs.length+m.length) 0) (AG r) (BB B) ⟨ST bs id l k1++(m++[Z4]),ts⟩ (QM rr N Post):=by
   intro B hx;refine ARp ?_;cases B with
   | true=>grind[A9]
   | false=>
    have h7:=hx rfl;refine Ay (A0 ?_);cases b8:(r==8) with
    | true=>grind[A9]
    | false=>
     have n8:¬ r=8:=AB;refine Ay (A0 (c6 _ (λ_=>h7) (λh=>?_)))
     grind
  have c3:∀B:Bool,(B=false->4<r)->AE8 R 0 L.ro L.rt (.ptr id 0) dv (AG d) (AG vars) (.ptr (bs.length+m.length) 0) (AG r) (BB B) ⟨ST bs id l k1++(m++[Z4]),ts⟩ (QM rr N Post):=by
   intro B hx;refine ARq ?_;cases B with
   | true=>
    refine A9 (F8 ?_)
    by_cases Sz:vars=0
    .have b0:decide ((vars:Int)>0)=false:=by grind
     rw[b0];exact Ay (ARr (AB0 k1 h1 h2))
    .have b0:decide ((vars:Int)>0)=true:=by grind
     rw[b0];refine A9 ?_;refine Cs (HF (n:=vars) hB hm' h2 AA AA _ (by simp[*]) ts) ?_;rintro v s1 ⟨r2,k2,rfl,sQ,hr4,MW,Mb,rfl⟩;refine AL (J2 r2) ?_;rintro v rfl;exact eF k2 [] (.mk 5 [] r2 []) _ ⟨_,rfl,by simp[Ad]; exact .inl (.AE _)⟩ (MD.leaf rfl rfl AD AA AA) AA Mb
   | false=>
    have h4':=hx rfl;refine Ay (A0 ?_);cases b5:(r==5) with
    | true=>grind[A9]
    | false=>
     have n5:¬ r=5:=AB;refine Ay (A0 ?_);cases b6:(r==6) with
     | true=>grind[A9]
     | false=>
      have n6:¬ r=6:=AB;refine Ay (A0 (c5 _ (λh=>?_)))
      grind
  have c2:∀B:Bool,(B=false->1<r)->AE9 R 0 L.ro L.rt (.ptr id 0) dv (AG d) (AG vars) (.ptr (bs.length+m.length) 0) (AG r) (BB B) ⟨ST bs id l k1++(m++[Z4]),ts⟩ (QM rr N Post):=by
   intro B hx;refine ARs ?_;cases B with
   | true=>
    refine A9 (QG hW ?_);refine Cs (HF (n:=4) hB hm' h2 AA AA _ (by simp[*]) ts) ?_;rintro v s1 ⟨r2,k2,rfl,sQ,hr4,MW,Mb,rfl⟩;obtain⟨w,hw,hwl⟩:=RO hW h4 sW sQ hr4;refine Zu sQ hw (jY ?_);refine AL (Ka (.AE [])) ?_;rintro v rfl;exact Zt (QG hW (SA W)) (eF k2 [] (.mk 2 w 0 []) _ ⟨_,rfl,by simp[Ad]; exact .inl (.AE _)⟩ (MD.leaf rfl rfl hwl AA AA) AA Mb)
   | false=>
    have aM:=hx rfl;refine Ay (A0 ?_);cases b2:(r==2) with
    | true=>
     refine A9 ?_;refine AL VS ?_;rintro v rfl;exact eF k1 [] (.mk 0 [] 0 []) _ ⟨_,rfl,by simp[Ad]; exact .inl (.AE _)⟩ (MD.leaf rfl rfl AD AA AA) h1 h2
    | false=>
     have n2:¬ r=2:=AB;refine Ay (A0 ?_);cases b3:(r==3) with
     | true=>grind[A9]
     | false=>
      have n3:¬ r=3:=AB;refine Ay (A0 (c3 _ (λh=>?_)))
      grind
  refine ARt (A0 ?_);cases b0:(r==0) with
  | true=>grind[A9]
  | false=>
   have n0:¬ r=0:=AB;refine Ay (A0 (c2 _ (λh=>?_)))
   grind
 refine ARu ?_;simp only[Ia,Du,Bd,GC];refine Cs (Ol (n:=14) hB hm' hk AA AA _ (by simp[*]) ts) ?_;rintro v s1 ⟨r,k1,rfl,Tk,Ng,TD,hk2,MW,rfl⟩;refine ZM ?_
 by_cases qa:d=0
 .have b0:decide ((d:Int)<=0)=true:=by grind
  rw[b0];refine Ak (Ak (F8 (pk ?_)));cases b5:decide (r>5) with
  | true=>grind[A9]
  | false=>
   grind[Ay]
 .have b0:decide ((d:Int)<=0)=false:=by grind
  rw[b0];exact Kn AD (Kn AD (pk (Ay (AZa k1 r Tk TD hk2 MW AA))))
end
section
variable {bs:List (List AV)} {id:Nat} {l:Src} {R:Nat->Option (List PV)}
theorem AB1 (hB:Oj bs id l) {W:List (List UInt8)} (hW:(env R).G 1=some (Ez W)) (h4:W.length=4) (sW:Short W) {dv:AV} {rows:List (List PV)} (hD:Decls dv rows):∀μ:Nat,
  (∀d:Nat,d<=20->VR R bs id l dv 41 d (3*d+2) μ (MD d))/\(∀d:Nat,d<=20->VR R bs id l dv 83 d (3*d+1) μ (nB d))/\(∀e:Int,-1<=e->e<=20->VR R bs id l dv 115 e (3*(e+1).toNat) μ (sR e)):=by
 intro μ
 induction μ with
 | zero=>exact⟨λd _ m _ k _ vars _ h=>absurd h (HM _),λd _ m _ k _ vars _ h=>absurd h (HM _),λe _ _ m _ k _ vars _ h=>absurd h (HM _)⟩
 | succ μ ih=>
  obtain⟨i1,i2,i3⟩:=ih;exact⟨λd hd=>qv hB hW h4 sW μ i2 i1 d hd,λd hd=>jZ hB hW h4 sW hD μ i3 d hd,λe he he2=>ym hB hW h4 sW μ i2 i1 e he he2⟩
theorem Z0 (hB:Oj bs id l) {W:List (List UInt8)} (hW:(env R).G 1=some (Ez W)) (h4:W.length=4) (sW:Short W) {dv:AV} {rows:List (List PV)} (hD:Decls dv rows) {m:List (List AV)} (hm:LV bs m) {k:Nat} (hk:k<=l.length) (L:BL) (hro:L.ro<=id) (ts:List (Nat×Nat)) (Ee:L.rt<=ts.length) :
  ∃v s',(∃t k' x,BP t v/\MD 3 (8*(k'-k)+1) t/\k<=k'/\k'<=l.length/\s'=⟨ST bs id l k'++m,ts++x⟩)/\BW (env R) L 19 [.ptr id 0,dv] ⟨ST bs id l k++m,ts⟩ v s':=by
 have hlen:=hB.len;have hlt:=hB.lt
 suffices H:∀(rr:Bool) (N:Nat) (Post:AV->AQ->Prop),N=bs.length+m.length->(∀t v k' x,BP t v->MD 3 (8*(k'-k)+1) t->k<=k'->k'<=l.length->Post v ⟨ST bs id l k'++m,ts++x⟩)->AFA R 0 L.ro L.rt (.ptr id 0) dv ⟨ST bs id l k++m,ts⟩ (QM rr N Post) from
  m19 AR (H _ _ _ (by simp[GC]) λt v k' x h1 h2 h3 h4=>⟨t,k',x,h1,h2,h3,h4,rfl⟩)
 intro rr N Post hN hP;refine ARv ?_;simp only[Ia,Du,Bd,GC];refine Cs ((AB1 hB hW h4 sW hD _).1 3 AA (Zy hm) hk 0 AA (YU _) (Ce (env R) 19 0 L.ro L.rt) hro ts Be) ?_;rintro v s1 ⟨t,k3,x,hv,hb,MW,Mb,rfl⟩;exact VQ (R:=R) (Post:=Post) (rr:=rr) (N:=N) (k:=k3) (ts:=ts++x) (Z:=Z4) (r:=[]) (L':=Ce (env R) 19 0 L.ro L.rt) hB hm rfl hN hro rfl hv (λy hy=>hP t y k3 x hy hb MW Mb)
end
def nE:List (List PV)->Bool
 | []=>true
 | r::l=>(match r with
  | .sc (.string a)::.sc (.int .i64 n)::rest=>rest.length==6&&(decide (0<=n)&&(decide (n<=2)&&(decide (a.data.size<2 ^ 50)&&(r.map AV.pv).all BD)))
  | _=>false)&&nE l
theorem Xz:∀{l:List (List PV)},nE l=true->∀r∈l,Zw r
 | [],_,r,h=>by cases h
 | r::l,hl,r',h=>by
  simp only[nE,AH] at hl;rcases A5.1 h with rfl|h
  .have h1:=hl.1
   split at h1
   .rename_i a n rest
    simp only[AH,Cy,HN] at h1;obtain⟨h1,h2,h3,h4,h5⟩:=h1;refine⟨a.data.toList,n.toNat,rest,?_,h1,AA,AA,h5⟩;have:((n.toNat:Nat):Int)=n:=AA;rw[this]
   grind
  .exact Xz hl.2 r' h
def AFB:Option AV->Bool
 | some (.AE rows)=>decide (rows.length<100)&&nE rows
 | _=>false
theorem AB2 {R:Nat->Option (List PV)}:AFB (aR (env R) 60 12 [])=true:=AW
theorem qw {R:Nat->Option (List PV)}:Af (env R) 12 [] λv=>∃rows,Decls v rows:=by
 have h:=AB2 (R:=R);cases hv:aR (env R) 60 12 [] with
 | none=>rw[hv] at h; cases h
 | some v=>
  rw[hv] at h;unfold AFB at h;split at h
  .rename_i rows he
   cases he;simp only[AH,Cy] at h;exact⟨_,⟨rows,.inl (.AE _),Xz h.2,h.1⟩,λL s=>BW.kg (Th (args':=[]) AR AR AR rfl hv L s)⟩
  grind
section
variable {R:RT}
theorem ARw {t:Ty} (h:gq 3 t=true) (hv:verdict t=0):Fit t:=by
 obtain⟨_,h1,h2⟩:=FX hv;have e:gqQ 3=⟨3150,1859359,630225,23403,27⟩:=AW;have:=yX 3 t h h1 h2;rw[e] at this;exact⟨by have:=this.b; show(bw t:Int)<1073741824; simp only at this; omega,by have:=this.w; simp only at this; omega,by have:=this.n; simp only at this; omega⟩
end
theorem AJm {f:Nat} {t:Ty} (hfit:verdict t=0->Fit t):(xR f t).1.length<=32/\∀b∈(xR f t).1,BrS b:=by
 cases f with
 | zero=>exact⟨by simp[xR],λb h=>by cases h⟩
 | succ f=>
  rw[xR];cases hg:!(verdict t==0)||!(CP 0 t) with
  | true=>exact⟨AD,λb h=>by cases h⟩
  | false=>
   simp only[Gu,Bool.not_eq_false',HN] at hg;obtain⟨Sz,hc⟩:=hg;obtain⟨hv,ARx,_⟩:=FX Sz;have hft:=hfit Sz;simp only[AK];cases dZ:DG (AU 32) (depth t) t with
   | none=>exact⟨AD,λb h=>by cases h⟩
   | some l=>
    simp only;cases (l.map Dq).all λb=>Nx b&&b.bounds.all λb=>Cg (xR f b) with
    | false=>exact⟨AD,λb h=>by cases h⟩
    | true=>
     refine⟨by have:=Ns (depth t) t l dZ; simp only[AM,Bm]; omega,λb hb=>?_⟩;obtain⟨b0,hb0,rfl⟩:=CR.1 hb;obtain⟨_,q2,q3,q4⟩:=Xy hv hc hft dZ b0 hb0;exact⟨AA,AA,λc hc=>by have:=(q4 c hc).L5; omega⟩
mutual
def ib:Bool->Ty->Bool
 | e,.mk k _ _ ts=>k==0||k==2||(bif k==5 then e else k==3&&ibL ts)
def ibL:List Ty->Bool
 | []=>true
 | t::l=>ib true t&&ibL l
end
mutual
def QJ (g:Int->Ty):Bool->Ty->Ty
 | e,.mk k n i ts=>bif k==5 then g i else bif k==2||(k==3&&!e) then .mk k n i (VT g (e||k==2) ts) else .mk k n i ts
def VT (g:Int->Ty):Bool->List Ty->List Ty
 | _,[]=>[]
 | e,t::l=>QJ g e t::VT g e l
end
theorem NH (g:Int->Ty) (e:Bool):∀l:List Ty,VT g e l=l.map (QJ g e)
 | []=>rfl
 | t::l=>by rw[VT,NH g e l]; rfl
mutual
theorem VU:∀t:Ty,valid t=true->R3 t=true
 | .mk k n i ts,h=>by
  have hv:=h;simp only[valid,AH] at h;rw[R3,SB ts h.2];cases h5:k==5 with
  | true=>
   have:k=5:=AB;subst this;have h1:=EY hv;have h2:=LL hv
   grind
  | false=>rfl
theorem SB:∀l:List Ty,BC l=true->Pt l=true
 | [],_=>rfl
 | t::l,h=>by
  simp only[BC,AH] at h;rw[Pt,VU t h.1,SB l h.2];rfl
end
section
variable {R:RT}
def Has (bs:List (List AV)) (cp:List (Nat×List AV)):Prop:=∀q∈cp,bs[q.1]?=some q.2
theorem Has.push {bs:List (List AV)} {cp:List (Nat×List AV)} (h:Has bs cp) (c:List AV):Has (bs++[c]) cp:=λq hq=>Ai (h q hq) c
theorem Has.set {bs bs0:List (List AV)} {cp:List (Nat×List AV)} (h:Has bs cp) (h0:Has bs0 cp) {j:Nat} (hj:bs0.length<=j) (c:List AV):Has (bs.set j c) cp:=λq hq=>by
 have:=(BH.1 (h0 q hq)).1;exact BQ (h q hq) AA
def RnF (R:RT) (f p:Nat) (cp:List (Nat×List AV)) (g:Int->Ty):Prop:=∀(i:Int) (y:AV) (s:AQ),0<=i->i<=200->A7 (.mk 5 [] i []) y->BI s->Has s.bs cp ->
 ∃r,A7 (g i) r/\∀L:BL,L.ro<=s.bs.length->BW (env R) L f [y,.ptr p 0] s r s
abbrev rnC (f p:Nat):AV:=.func (.func f) [] [.ptr p 0]
theorem AB3 {f p:Nat} {cp:List (Nat×List AV)} {ts ls:List Ty} {a:AV} (ha:A2 a (Ad ts)) (hl:ts.length<2 ^ 38) (SN:ls.length=ts.length) {k i:Int} {n:List UInt8} {e:Bool}
  {s0:AQ} (hs0:BI s0) (hp:Has s0.bs cp)
  (ih:∀(q:Nat) (t l:Ty),ts[q]?=some t->ls[q]?=some l->∀s,BI s->Has s.bs cp->∃r,A7 l r/\∀L,BW (env R) L 67 [.agg ((Aj t).map .pv),BB (e||k==2),rnC f p] s r s)
  {Post:AV->Prop} (hP:∀r,A7 (.mk k n i ls) r->Post r) :
  ∀(j q:Nat) (s:AQ) (b:AV),q+j=ts.length->BI s->Has s.bs cp->s.bs[s0.bs.length]?=some [AG k,SS n,AG i,a]->s.bs[s0.bs.length+1]?=some Z4->s.bs[s0.bs.length+2]?=some [AG k,SS n,AG i,b] ->
   Dl s0.ts.length s.ts 25 b (Ad (ls.take q))->s0.ts.length<=s.ts.length ->
   AFC R s0.bs.length s0.bs.length s0.ts.length (BB e) (rnC f p) (.ptr s0.bs.length 0) (.ptr (s0.bs.length+1) 0) (.ptr (s0.bs.length+2) 0) a (AG ts.length) (AG q) s (QI s0.bs.length s0.ts.length Post):=by
 intro j
 induction j with
 | zero=>
  intro q s b hi hs h0 h1 h2 h3 hb hle;refine AFD (Ao ?_);rw[Az AA];refine Ay (ARy (Ag h3 rfl (Bq h2 rfl rfl AI AD (by simp[hb.A1.ok]) (.inl AD) (Ag (BZ h2) rfl ?_))));rw[CU AA] at hb;obtain⟨b',c1,c2⟩:=L3 hb (s.bs.set (s0.bs.length+1) [AG k,SS n,AG i,b]) s0.bs.length;exact⟨.agg [AG k,SS n,AG i,b'],by simp[c1],hP _ ⟨b',rfl,c2⟩⟩
 | succ j D1=>
  intro q s b hi hs h0 h1 h2 h3 hb hle;refine AFD (Ao ?_);rw[Ar AA];obtain⟨t,ht⟩:∃t,ts[q]?=some t:=⟨_,Au AA⟩;obtain⟨l,vU⟩:∃l,ls[q]?=some l:=⟨_,Au AA⟩;have hrl:((Aj t).map AV.pv).length=4:=by grind[Al]
  have hro:=DE t
  have Ku:Ah (s.bs.length+1) ((Aj t).map AV.pv)=true:=by
   obtain⟨k1,n1,i1,t1⟩:=t;rfl
  refine A9 (ARz (BM ha (row:=Aj t) AA (by simp[*,BJ]) (Al _) AA (Ca (Bj ?_))));have fT:=ih q t l ht vU;generalize (Aj t).map AV.pv=row at hrl hro Ku fT;obtain⟨bs,tk⟩:=s;have l3:=(BH.1 h3).1;simp only at *;refine Bq (Ax bs Z4) hrl rfl AI (by simp[Ce]; omega) hro (.inl (by simp[Ce]; omega)) ?_;have e1:(bs++[Z4]).set bs.length row=bs++[row]:=AD;rw[e1];have g0:=h0.push row;have g1:=Ai h1 row;have g2:=Ai h2 row;have g3:=Ai h3 row;have hs':BI ⟨bs++[row],tk⟩:=BI.app (s:=⟨bs,tk⟩) hs Ku;obtain⟨r,Tk,Ng⟩:=fT ⟨bs++[row],tk⟩ hs' g0;refine AO (AX g3) (AZ g3 rfl (Ag (Ax bs row) hrl ?_))
  have AR0:∀b' GH,Dl s0.ts.length GH 25 b' (Ad (ls.take (q+1)))->s0.ts.length<=GH.length ->
    (E2 ⟨bs++[row],GH⟩ (.ptr (s0.bs.length+2) 0) 3 λa53=>IM (Ce (env R) 67 s0.bs.length s0.bs.length s0.ts.length) ⟨bs++[row],GH⟩ 1 a53 b' λAR1=>
    (E2 ⟨bs++[row],tk⟩ (.ptr (s0.bs.length+2) 0) 3 λv=>Tel.Dg v (.ptr (s0.bs.length+2) (0+3))=true) /\
    (D5 (env R) ⟨bs++[row],tk⟩ none (.ptr (s0.bs.length+2) (0+3)) λAZc=>Tel.Dg AZc b=true) /\
    AFE R s0.bs.length s0.bs.length s0.ts.length (BB e) (rnC f p) (.ptr s0.bs.length 0) (.ptr (s0.bs.length+1) 0) (.ptr (s0.bs.length+2) 0) a (AG ts.length) (AG q) AR1 (QI s0.bs.length s0.ts.length Post)):=by
   intro b' GH hb' hle';refine AO (AX g3) (C2 g3 AD hb'.A1.cells AD hb'.A1.ok (.inl AD) ⟨AO (AX g3) (EA _ _),AZ g3 rfl (Gp hb),AR2 (Ba AA AA ?_)⟩);have:=D1 (q+1) ⟨(bs++[row]).set (s0.bs.length+2) [AG k,SS n,AG i,b'],GH⟩ b' AA ?_ (g0.set hp AA _) (BQ g1 AA) (BQ g2 AA) (BZ g3) hb' hle'
   .grind
   .exact BI.set (s:=⟨bs++[row],tk⟩) hs' (by simp[Ah,Aw,hb'.A1.Aw]) _
  have er:ls.take q++[l]=ls.take (q+1):=by grind[List.take_add_one]
  have app:∀K:AV->AQ->Prop,(∀b' GH,Dl s0.ts.length GH 25 b' (Ad (ls.take (q+1)))->s0.ts.length<=GH.length->K b' ⟨bs++[row],GH⟩)->Ik false (Ce (env R) 67 s0.bs.length s0.bs.length s0.ts.length) ⟨bs++[row],tk⟩ 25 4 56 b (.AE [Aj l]) K:=λK hK=>
   lX hb hle AB λb' GH hb' hle'=>hK b' GH (by rw[er] at hb'; exact hb') hle'
  cases e with
  | true=>exact Cr (Cr (Cr (pk ⟨r,_,Ng _,E9 Tk.Fj ⟨AI,app _ AR0⟩⟩)))
  | false=>exact Ak (AO (AX g1) (Ak (AZ g1 rfl (Ak (A0 (pk ⟨r,_,Ng _,E9 Tk.Fj ⟨AI,app _ AR0⟩⟩))))))
mutual
theorem eG {f p:Nat} {cp:List (Nat×List AV)} {g:Int->Ty} (hf:RnF R f p cp g):∀(t:Ty),size t<2 ^ 38->valid t=true->∀(e:Bool) (x:AV),A7 t x->∀(s:AQ),BI s->Has s.bs cp ->
  ∃r,A7 (QJ g e t) r/\∀L,BW (env R) L 67 [x,BB e,rnC f p] s r s
 | .mk k n i ts,h,hv,e,x,hx,s,hs,hp=>by
  have Uh:=VU _ hv;have LY:=hv;simp only[size] at h;simp only[valid,AH] at hv;have hx':=hx;obtain⟨a,rfl,ha⟩:=hx;have hs1:BI ⟨s.bs++[[AG k,SS n,AG i,a]]++[Z4],s.ts⟩:=BI.app (s:=⟨s.bs++[[AG k,SS n,AG i,a]],s.ts⟩) (BI.app (s:=s) hs (by simp[Ah,Aw,ha.Aw])) rfl;have g0:(s.bs++[[AG k,SS n,AG i,a]]++[Z4])[s.bs.length]?=some [AG k,SS n,AG i,a]:=Ai (Ax _ _) _;have g1:(s.bs++[[AG k,SS n,AG i,a]]++[Z4])[s.bs.length+1]?=some Z4:=AB;have gp:Has (s.bs++[[AG k,SS n,AG i,a]]++[Z4]) cp:=(hp.push _).push _;have l1:(s.bs++[[AG k,SS n,AG i,a]]).length=s.bs.length+1:=AD;have l2:(s.bs++[[AG k,SS n,AG i,a]]++[Z4]).length=s.bs.length+2:=AD;refine i67 (by simp[DK,BR,close]) (AR3 (Bx (cs:=[AG k,SS n,AG i,a]) rfl (by simp[ha.ok]) (Bj ?_)));simp only[l1];generalize s.bs++[[AG k,SS n,AG i,a]]++[Z4]=bs at hs1 g0 g1 gp l2
  have fin:∀(t':Ty) (r:AV),A7 t' r->t'=QJ g e (.mk k n i ts)->IM (Ce (env R) 67 s.bs.length s.bs.length s.ts.length) ⟨bs,s.ts⟩ 4 (.ptr (s.bs.length+1) 0) r λiz=>D5 (env R) iz (some 4) (.ptr (s.bs.length+1) 0) λr=>QI s.bs.length s.ts.length (λr=>A7 (QJ g e (.mk k n i ts)) r) r iz:=by
   rintro t' r hr rfl;generalize QJ g e (.mk k n i ts)=t' at hr ⊢;obtain⟨k2,n2,i2,I6⟩:=t';have hr':=hr;obtain⟨b,rfl,hb⟩:=hr;refine Bq g1 rfl rfl AI AD (by simp[hb.ok]) (.inl AD) (Ag (BZ g1) rfl ?_);exact⟨_,by simp[hb.close],hr'⟩
  refine AO (AX g0) (AZ g0 rfl (A0 ?_));cases h5:k==5 with
  | true=>
   have:k=5:=AB;subst this;have hi1:=LL LY;obtain⟨rfl,rfl,sw⟩:=EY LY;obtain⟨r,Tk,Ng⟩:=hf i _ ⟨bs,s.ts⟩ sw hi1 hx' hs1 gp;exact A9 (Ag g0 rfl ⟨_,_,Ng _ (by simp[Ce]; omega),fin _ _ Tk (by simp[QJ])⟩)
  | false=>
   refine Ay (AO (AX g0) (AZ g0 rfl (EM ?_)));have Tn:=BV ts;have AJn:Af (env R) 70 [.agg [AG k,SS n,AG i,a]] λr=>A7 (.mk k n i ts) r:=R4 (t:=.mk k n i ts) (.of (by simp only[size]; omega)) (Uh) ⟨a,rfl,ha⟩
   have stay:(k==2||(k==3&&!e))=false->D5 (env R) ⟨bs,s.ts⟩ (some 4) (.ptr s.bs.length 0) λa29=>He (env R) (Ce (env R) 67 s.bs.length s.bs.length s.ts.length) (.func (.func 70) [] []) [a29] ⟨bs,s.ts⟩ λa30 AR4=>IM (Ce (env R) 67 s.bs.length s.bs.length s.ts.length) AR4 4 (.ptr (s.bs.length+1) 0) a30 λAFF=>D5 (env R) AFF (some 4) (.ptr (s.bs.length+1) 0) λr=>QI s.bs.length s.ts.length (λr=>A7 (QJ g e (.mk k n i ts)) r) r AFF:=by
    intro hk;refine Ag g0 rfl (AL AJn ?_);rintro r hr;exact fin _ r hr (by simp[QJ,h5,hk])
   have go:(k==2||(k==3&&!e))=true->AFG R s.bs.length s.bs.length s.ts.length (BB e) (rnC f p) (.ptr s.bs.length 0) (.ptr (s.bs.length+1) 0) ⟨bs,s.ts⟩ (QI s.bs.length s.ts.length (λr=>A7 (QJ g e (.mk k n i ts)) r)):=by
    intro hk;refine AR5 (Ag g0 rfl (Bj (Bq (Ax bs Z4) rfl rfl AI (by simp[Ce]; omega) (by simp[ha.ok]) (.inl (by simp[Ce]; omega)) ?_)));have e1:(bs++[Z4]).set bs.length [AG k,SS n,AG i,a]=bs++[[AG k,SS n,AG i,a]]:=AD;simp only[e1,l2];have g2:(bs++[[AG k,SS n,AG i,a]])[s.bs.length+2]?=some [AG k,SS n,AG i,a]:=AB
    show E2 ⟨(bs++[Z4]).set (s.bs.length+2) [AG k,SS n,AG i,a],s.ts⟩ _ _ _
    have e1':(bs++[Z4]).set (s.bs.length+2) [AG k,SS n,AG i,a]=bs++[[AG k,SS n,AG i,a]]:=by rw[<-l2]; exact e1
    rw[e1'];refine AO (AX g2) (C2 (off:=3) g2 (AY 4) rfl (by simp[Ce]) rfl (.inl (by simp[Ce])) ?_);have e2:(bs++[[AG k,SS n,AG i,a]]).set (s.bs.length+2) ([AG k,SS n,AG i,a].set 3 (.AE []))=bs++[[AG k,SS n,AG i,.AE []]]:=AB
    show E2 ⟨(bs++[[AG k,SS n,AG i,a]]).set (s.bs.length+2) ([AG k,SS n,AG i,a].set 3 (.AE [])),s.ts⟩ _ _ _
    rw[e2];have g3:(bs++[[AG k,SS n,AG i,.AE []]])[s.bs.length+2]?=some [AG k,SS n,AG i,.AE []]:=AB;refine AO (AX (Ai g0 _)) (AZ (Ai g0 _) rfl (Aq (n:=ts.length) (by rw[ha.BA,Aa]) ?_));refine AB3 (ls:=ts.map (QJ g (e||k==2))) ha AA AD hs hp ?_ ?_ ts.length 0 _ (.AE []) AA (BI.app (s:=⟨bs,s.ts⟩) hs1 rfl) (gp.push _) (Ai g0 _) (Ai g1 _) g3 (.inl rfl) (AY _)
    .intro q t l hq vU s' hs' hp'
     rw[FJ,hq] at vU;cases vU;exact X0 hf ts AA hv.2 (e||k==2) t (A3 hq) s' hs' hp'
    .intro r hr
     rw[QJ,h5,hk,NH];exact hr
   cases h2:k==2 with
   | true=>
    have:(k != 2)=false:=by simp[bne,h2]
    rw[this];exact B8 (B8 (P6 (P6 (P6 (B8 (pk (Ay (go (by simp[h2])))))))))
   | false=>
    have:(k != 2)=true:=by simp[bne,h2]
    rw[this];refine Ak (Ak ?_);cases e with
    | true=>exact Cr (Cr (Cr (Ak (pk (pk (A9 (stay (by simp[h2]))))))))
    | false=>
     refine Ak (AO (AX g0) (Ak (AZ g0 rfl (Ak (EM (Ak (pk (pk ?_))))))));cases h3:k==3 with
     | true=>
      have:(k != 3)=false:=by simp[bne,h3]
      rw[this];exact Ay (go (by simp[h3]))
     | false=>
      have:(k != 3)=true:=by simp[bne,h3]
      rw[this];exact A9 (stay (by simp[h2,h3]))
theorem X0 {f p:Nat} {cp:List (Nat×List AV)} {g:Int->Ty} (hf:RnF R f p cp g):∀(l:List Ty),Ac l<2 ^ 38->BC l=true->∀(e:Bool),∀t∈l,∀(s:AQ),BI s->Has s.bs cp ->
  ∃r,A7 (QJ g e t) r/\∀L,BW (env R) L 67 [.agg ((Aj t).map .pv),BB e,rnC f p] s r s
 | [],_,_,_,_,h=>by cases h
 | u::l,h,hv,e,t,hm=>by
  simp only[Ac] at h;simp only[BC,AH] at hv;rcases A5.1 hm with h' | h'
  .rw[h']
   exact eG hf u AA hv.1 e _ (A7.Bi _)
  .exact X0 hf l AA hv.2 e t h'
end
end
def gP (N:Nat) (i:Int):Ty:=bif decide (i<N) then ren (ph i.toNat) else var i
def gQ (N:Nat) (i:Int):Ty:=bif decide (i<N) then ph i.toNat else var i
def Im (N:Nat) (t:Ty):Ty:=QJ (gQ N) false t
theorem yx (N:Nat) (t:Ty) (h:valid t=true):ren (Im N t)=QJ (gP N) false t:=by
 have gen:∀(m:Nat) (t:Ty) (e:Bool),depth t<=m->valid t=true->ren (QJ (gQ N) e t)=QJ (gP N) e t:=by
  intro m
  induction m with
  | zero=>
   intro t e hd;obtain⟨k,n,i,ts⟩:=t
   grind[depth]
  | succ m ih=>
   intro t e hd hv;obtain⟨k,n,i,ts⟩:=t;have LY:=hv;simp only[valid,AH] at hv;rw[depth] at hd;rw[QJ,QJ];cases h5:k==5 with
   | true=>
    simp only[AM];unfold gQ gP;cases decide (i<N) with
    | true=>rfl
    | false=>rfl
   | false=>
    simp only[AK];cases h:(k==2||(k==3&&!e)) with
    | true=>
     have h7:k≠7:=AB;simp only[AM];rw[Gw _ _ _ _ h7,Bo,NH,NH,Ox];congr 1;refine YN λt ht=>?_
     exact ih t _ (by have:=HE ht; omega) (Bw hv.2 ht)
    | false=>grind[Jc]
 exact gen _ t false (AY _) h
section
variable {R:RT}
theorem AJo (hn:Pc R) {p e A6:Nat} {d:AV} {B:List Ty} (hd:BE d (Ad B)) (hB:B.length<2 ^ 37):RnF R 101 p [(p,[.ptr e 0]),(e,[d,AG A6])] (gP B.length):=by
 intro i y s h0 h1 hy hs hp;have gp:s.bs[p]?=some [.ptr e 0]:=hp (p,[.ptr e 0]) AD;have ge:s.bs[e]?=some [d,AG A6]:=hp (e,[d,AG A6]) AD;have lp:=(BH.1 gp).1;obtain⟨a,rfl,ha⟩:=hy
 have key:∀(gi:Ty) (cs:List AV),A7 gi (.agg cs)->(i<B.length->gi=ren (ph i.toNat)/\AV.agg cs=phA i.toNat)->(¬ i<B.length->gi=var i/\cs=[AG 5,SS [],AG i,a]) ->
   ∀L:BL,L.ro<=s.bs.length->BW (env R) L 101 [.agg [AG 5,SS [],AG i,a],.ptr p 0] s (.agg cs) s:=by
  intro gi cs hgi hlt hge L hro;obtain⟨c1,c2,c3,c4⟩:=hgi.cells
  obtain⟨v,s',⟨rfl,rfl⟩,hc⟩:=AZd (R:=R) (L:=L) (s:=s) (t0:=.agg [AG 5,SS [],AG i,a]) (t1:=.ptr p 0) (Post:=λv s'=>v=.agg cs/\s'=s) (by simp[DK,Fx]) (AJp (by
   refine Bx (cs:=[AG 5,SS [],AG i,a]) rfl (by simp[ha.ok]) (Bj ?_);have l1:(s.bs++[[AG 5,SS [],AG i,a]]).length=s.bs.length+1:=AD;simp only[l1];have g0:(s.bs++[[AG 5,SS [],AG i,a]]++[Z4])[s.bs.length]?=some [AG 5,SS [],AG i,a]:=Ai (Ax _ _) _;have g1:(s.bs++[[AG 5,SS [],AG i,a]]++[Z4])[s.bs.length+1]?=some Z4:=AB;have gq:=Ai (Ai gp [AG 5,SS [],AG i,a]) Z4;have gr:=Ai (Ai ge [AG 5,SS [],AG i,a]) Z4;have hT:(s.bs++[[AG 5,SS [],AG i,a]]++[Z4]).take s.bs.length=s.bs:=AD;generalize s.bs++[[AG 5,SS [],AG i,a]]++[Z4]=bs at g0 g1 gq gr hT;refine AO (AX g0) (AZ g0 rfl (Ko ?_));rw[Ar AA];refine Ak (AO (AX g0) (Ak (AZ g0 rfl (Ak (AZ gq rfl (Ak (C1 (AX gr) (Ak (AO (AX gr) (Ak (AZ (off:=0) gr rfl (Ak (Aq (n:=B.length) (by rw[hd.BA,Aa]) (Ak (Ao (pk ?_))))))))))))))))
   by_cases hl:i<B.length
   .obtain⟨_,h2⟩:=hlt hl
    rw[Ar hl];have e1:i=((i.toNat:Nat):Int):=AA;refine A9 (AO (AX g0) (AZ g0 rfl ?_))
    show He _ _ _ [AG i] _ _
    rw[e1];refine AL (LI hn i.toNat AA) ?_;rintro _ rfl;rw[<-h2];refine Bq g1 c1 rfl AI (by show L.ro<=_; omega) c2 (.inl (AN _)) (Ag (BZ g1) c1 ?_)
    grind[Za,Cj]
   .obtain⟨_,h2⟩:=hge hl
    subst h2;rw[Az hl];refine Ay (AJq (Ag g0 rfl (Bq g1 rfl rfl AI (by show L.ro<=_; omega) AA (.inl (AN _)) (Ag (BZ g1) rfl ?_))))
    grind[Za,Cj]))
  omega
 by_cases hl:i<B.length
 .have e:gP B.length i=ren (ph i.toNat):=by simp[gP,hl]
  rw[e];have hr:A7 (ren (ph i.toNat)) (phA i.toNat):=⟨.AE [],rfl,.AE _⟩
  grind
 .have e:gP B.length i=var i:=by simp[gP,hl]
  rw[e];have hr:A7 (var i) (.agg [AG 5,SS [],AG i,a]):=⟨a,rfl,ha⟩
  grind
theorem yy (hn:Pc R) {e A6:Nat} {d:AV} {B:List Ty} (hd:BE d (Ad B)) (hB:B.length<2 ^ 37) {t:Ty} (hsz:size t<2 ^ 38) (hv:valid t=true) {x:AV} (hx:A7 t x) {s:AQ} (hs:BI s) (ge:s.bs[e]?=some [d,AG A6]) :
  ∃r,A7 (ren (Im B.length t)) r/\∀L:BL,L.ro<=s.bs.length->BW (env R) L 58 [.ptr e 0,x] s r s:=by
 have le:=(BH.1 ge).1;obtain⟨y,rfl⟩:=hx.Fj.agg;obtain⟨c1,c2,c3,c4⟩:=hx.cells
 have hs1:BI ⟨s.bs++[[AV.ptr e 0]]++[y]++[Z4],s.ts⟩:=by
  refine BI.app (s:=⟨s.bs++[[AV.ptr e 0]]++[y],s.ts⟩) (BI.app (s:=⟨s.bs++[[AV.ptr e 0]],s.ts⟩) (BI.app (s:=s) hs ?_) ?_) (b:=Z4) rfl
  .simp[Ah,Aw]
   omega
  .exact Bp (AN _) _ c3
 have gp:(s.bs++[[AV.ptr e 0]]++[y]++[Z4])[s.bs.length]?=some [.ptr e 0]:=Ai (Ai (Ax _ _) _) _;have gy:(s.bs++[[AV.ptr e 0]]++[y]++[Z4])[s.bs.length+1]?=some y:=AB;have gz:(s.bs++[[AV.ptr e 0]]++[y]++[Z4])[s.bs.length+2]?=some Z4:=AB;have gE:(s.bs++[[AV.ptr e 0]]++[y]++[Z4])[e]?=some [d,AG A6]:=Ai (Ai (Ai ge [AV.ptr e 0]) y) Z4;have hT:(s.bs++[[AV.ptr e 0]]++[y]++[Z4]).take s.bs.length=s.bs:=AD;obtain⟨r,hr,P8⟩:=eG (AJo (R:=R) hn (p:=s.bs.length) (e:=e) (A6:=A6) hd hB) t hsz hv false (.agg y) hx ⟨s.bs++[[AV.ptr e 0]]++[y]++[Z4],s.ts⟩ hs1 (λq hq=>by grind);rw[<-yx _ _ hv] at hr;refine⟨r,hr,λL hro=>?_⟩;obtain⟨rc,rfl⟩:=hr.Fj.agg;obtain⟨d1,d2,d3,d4⟩:=hr.cells
 obtain⟨v,s',⟨rfl,rfl⟩,hc⟩:=m58 (R:=R) (L:=L) (s:=s) (t0:=.ptr e 0) (t1:=.agg y) (Post:=λv s'=>v=.agg rc/\s'=s) AR (AR6 (by
  refine Bx (cs:=[.ptr e 0]) rfl rfl (Bx (cs:=y) rfl c2 (Bj ?_));have l1:(s.bs++[[AV.ptr e 0]]).length=s.bs.length+1:=AD;have l2:(s.bs++[[AV.ptr e 0]]++[y]).length=s.bs.length+2:=AD;simp only[l1,l2];refine Ag gy c1 ⟨_,_,P8 _,Bq gz d1 rfl AI (by show L.ro<=_; omega) d2 (.inl (AN _)) (Ag (BZ gz) d1 ?_)⟩
  grind[Za]))
 omega
end
theorem SC:∀{l m:List Int},l.Pairwise (·<·)->m.Pairwise (·<·)->(∀w,w∈l<->w∈m)->l=m
 | [],[],_,_,_=>rfl
 | [],b::m,_,_,h=>by
  have:=(h b).2 AD
  grind
 | a::l,[],_,_,h=>by
  have:=(h a).1 AD
  grind
 | a::l,b::m,hl,hm,h=>by
  rw[List.pairwise_cons] at hl hm
  have e:a=b:=by
   have h1:=(h a).1 AD;have h2:=(h b).2 AD
   grind
  subst e;congr 1;refine SC hl.2 hm.2 λw=>?_
  grind
def VB (X:Ty->List Br×Int) (b:Br):Prop:=ib false b.body=true/\verdict b.body=0/\Nx b=true/\(∀v,v<b.bounds.length->DT v true (Im b.bounds.length b.body)=true) /\
 (∀l:List Int,l.Pairwise (·<·)->(∀w,w∈l<->w∈RE 0 b.body)->l.length=b.bounds.length)/\(LG b.bounds.length (Im b.bounds.length b.body) []).1=b.body/\(b.bounds.all λt=>Cg (X t))=true
mutual
theorem VV (N:Nat):∀t:Ty,valid t=true->FH N t=true
 | .mk k n i ts,h=>by
  have h7:(k==7)=false:=by grind[G1]
  have hnm:=L4 h;simp only[valid,AH] at h;rw[FH,h7,SD N ts h.2,hnm.1,Ar hnm.2];rfl
theorem SD (N:Nat):∀l:List Ty,BC l=true->Gc N l=true
 | [],_=>rfl
 | t::l,h=>by
  simp only[BC,AH] at h;rw[Gc,VV N t h.1,SD N l h.2];rfl
end
theorem AB4 {N:Nat}:∀(t:Ty) (e:Bool),valid t=true->FH N (QJ (gQ N) e t)=true:=by
 have gen:∀(m:Nat) (t:Ty) (e:Bool),depth t<=m->valid t=true->FH N (QJ (gQ N) e t)=true:=by
  intro m
  induction m with
  | zero=>
   intro t e hd;obtain⟨k,n,i,ts⟩:=t
   grind[depth]
  | succ m ih=>
   intro t e hd hv;obtain⟨k,n,i,ts⟩:=t;have LY:=hv;have hnm:=L4 hv;simp only[valid,AH] at hv;rw[depth] at hd;rw[QJ];cases h5:k==5 with
   | true=>
    have:k=5:=AB;subst this;obtain⟨_,_,h0⟩:=EY LY
    grind[gQ,FH,Gc]
   | false=>
    simp only[AK];have h7:(k==7)=false:=by grind[G1]
    cases h:(k==2||(k==3&&!e)) with
    | true=>
     have gl:∀l:List Ty,(∀t∈l,FH N t=true)->Gc N l=true:=by
      intro l
      induction l with
      | nil=>simp[Gc]
      | cons a l ihl=>grind[Gc]
     simp only[AM];rw[FH,h7,NH];simp only[AK,hnm.1,Ar hnm.2,O1,CZ];refine gl _ λt ht=>?_
     obtain⟨u,hu,rfl⟩:=CR.1 ht;exact ih u _ (by have:=HE hu; omega) (Bw hv.2 hu)
    | false=>
     grind[VV]
 exact λt e=>gen _ t e (AY _)
theorem eH {N:Nat}:∀(m:Nat) (t:Ty) (e:Bool),depth t<=m->size (QJ (gQ N) e t)<=size t:=by
 intro m
 induction m with
 | zero=>
  intro t e hd;obtain⟨k,n,i,ts⟩:=t
  grind[depth]
 | succ m ih=>
  intro t e hd;obtain⟨k,n,i,ts⟩:=t;rw[depth] at hd;rw[QJ];cases k==5 with
  | true=>
   grind[size,gQ,Ac]
  | false=>
   cases (k==2||(k==3&&!e)) with
   | false=>simp
   | true=>
    simp only[AK,AM,size]
    have:∀l:List Ty,(∀t∈l,size (QJ (gQ N) (e||k==2) t)<=size t)->Ac (VT (gQ N) (e||k==2) l)<=Ac l:=by
     intro l
     induction l with
     | nil=>simp[VT]
     | cons a l ihl=>grind[VT,Ac]
    have:=this ts λt ht=>ih t _ (by have:=HE ht; omega)
    omega
mutual
def fl:Ty->Bool
 | .mk k n i ts=>k==0||k==2||k==7||(k==3&&n==[]&&i==0&&flL ts)
def flL:List Ty->Bool
 | []=>true
 | t::l=>fl t&&flL l
end
def nOk (n:List UInt8) (i:Int) (ts:List Ty):Bool:=i==0&&(Mw n&&(!MV.contains n&&decide (ts.length<=6)))
mutual
def wP:Ty->Bool
 | .mk k n i ts=>bif k==5 then n==[]&&ts.isEmpty else bif k==2 then nOk n i ts&&X1 ts else SJ (.mk k n i ts)
def X1:List Ty->Bool
 | []=>true
 | t::l=>wP t&&X1 l
end
mutual
def wB:Ty->Bool
 | .mk k n i ts=>bif k==5 then n==[]&&ts.isEmpty else bif k==0 then n==[]&&(i==0&&ts.isEmpty) else bif k==2 then nOk n i ts&&X1 ts else k==3&&(n==[]&&(i==0&&(decide (ts.length<=6)&&OB ts)))
def OB:List Ty->Bool
 | []=>true
 | t::l=>wB t&&OB l
end
structure Ms where
 c:List Nat->Nat
 nm:Ty->Nat
 mono:∀l m,CB (·<=·) l m->c l<=c m
 map:∀(g:Int->Int) (n:List UInt8) (i:Int) (ts:List Ty),X1 ts=true->nm (.mk 2 n i (B7 (λi=>var (g i)) ts))=nm (.mk 2 n i ts)
mutual
def wz (M:Ms) (ω:Int->Nat):Ty->Nat
 | .mk k n i ts=>bif k==5 then ω i else bif k==3 then M.c (WT M ω ts) else M.nm (.mk k n i ts)
def WT (M:Ms) (ω:Int->Nat):List Ty->List Nat
 | []=>[]
 | t::l=>wz M ω t::WT M ω l
end
mutual
theorem Nt (M:Ms) {ω ω':Int->Nat} (h:∀i,ω i<=ω' i):∀t:Ty,wz M ω t<=wz M ω' t
 | .mk k n i ts=>by
  have:=eI M h ts;rw[wz,wz];cases k==5 with
  | true=>grind
  | false=>
   cases k==3 with
   | true=>exact M.mono _ _ this
   | false=>simp
theorem eI (M:Ms) {ω ω':Int->Nat} (h:∀i,ω i<=ω' i):∀l:List Ty,CB (·<=·) (WT M ω l) (WT M ω' l)
 | []=>trivial
 | t::l=>⟨Nt M h t,eI M h l⟩
end
mutual
theorem ME (M:Ms) (ω:Int->Nat) (g:Int->Int):∀t:Ty,wB t=true->wz M ω (Bs (λi=>var (g i)) t)=wz M (λi=>ω (g i)) t
 | .mk k n i ts,hw=>by
  rw[wB] at hw;rw[Bs,wz];cases h5:k==5 with
  | true=>rfl
  | false=>
   rw[h5] at hw;cases h3:k==3 with
   | true=>
    have h0:(k==0)=false:=AB;have h2:(k==2)=false:=AB;rw[h0,h2,h3] at hw;simp only[AK,CZ,AH] at hw;simp only[AK,AM,Dv,wz,h5,h3,nG M ω g ts hw.2.2.2]
   | false=>
    cases h2:k==2 with
    | true=>
     have:k=2:=AB;subst this;simp only[show((2:Int)==0)=false from rfl,CW,AK,AM,AH] at hw;simp only[AK,AM,D6,wz,h5,h3];exact M.map g n i ts hw.2
    | false=>grind[wz]
theorem nG (M:Ms) (ω:Int->Nat) (g:Int->Int):∀l:List Ty,OB l=true->WT M ω (B7 (λi=>var (g i)) l)=WT M (λi=>ω (g i)) l
 | [],_=>rfl
 | t::l,h=>by
  simp only[OB,AH] at h;rw[B7,WT,WT,ME M ω g t h.1,nG M ω g l h.2]
end
theorem X2:∀l:List Nat,CB (·<=·) l l
 | []=>trivial
 | _::l=>⟨AY _,X2 l⟩
mutual
theorem AFH (M:Ms) {ω:Int->Nat} {c:Ty} {w:Int} (hc:wz M ω c<=ω w):∀(b:Ty) (k:Nat),(Ae b)[k]?=some w->wz M ω (MQ c b k)<=wz M ω b
 | .mk k n i ts,j,h=>by
  rw[Ae] at h;rw[MQ];cases h5:k==5 with
  | true=>
   grind[wz]
  | false=>
   rw[h5] at h;cases h3:k==3 with
   | true=>
    rw[h3] at h;simp only[AK,AM] at h ⊢;rw[wz,wz,h5,h3];exact M.mono _ _ (yz M hc ts j h)
   | false=>simp
theorem yz (M:Ms) {ω:Int->Nat} {c:Ty} {w:Int} (hc:wz M ω c<=ω w):∀(l:List Ty) (k:Nat),(Bk l)[k]?=some w->CB (·<=·) (WT M ω (Gl c l k)) (WT M ω l)
 | [],_,h=>by grind[Bk]
 | t::l,k,h=>by
  rw[Bk] at h;rw[Gl]
  by_cases hk:k<(Ae t).length
  .rw[CT hk] at h
   rw[Ar hk];exact⟨AFH M hc t k h,X2 _⟩
  .rw[EO AA] at h
   rw[Az hk];exact⟨AY _,yz M hc l _ h⟩
end
theorem nH (M:Ms) (ω:Int->Nat):∀l m:List Ty,WT M ω (l++m)=WT M ω l++WT M ω m
 | [],_=>rfl
 | t::l,m=>by rw[DH,WT,WT,nH M ω l m]; rfl
theorem AFI {i:Int} {n:List UInt8} {ts:List Ty} (h:root 2 n i ts=true):nOk n i ts=true/\ET ts=true:=by grind[root,shape,nOk]
mutual
theorem y6:∀t:Ty,valid t=true->plain t=true->wP t=true
 | .mk k n i ts,h,hp=>by
  have h':=h;simp only[valid,AH] at h;rw[wP];cases h5:k==5 with
  | true=>
   have:k=5:=AB;subst this;obtain⟨rfl,rfl,_⟩:=EY h';rfl
  | false=>
   cases h2:k==2 with
   | true=>
    have:k=2:=AB;subst this;obtain⟨r1,r2⟩:=AFI h.1;simp only[AK,AM,r1,CZ];exact RP ts h.2 r2
   | false=>
    grind[plain,SJ]
theorem RP:∀l:List Ty,BC l=true->ET l=true->X1 l=true
 | [],_,_=>rfl
 | t::l,h,hp=>by
  simp only[BC,AH] at h;simp only[ET,AH] at hp;rw[X1,y6 t h.1 hp.1,RP l h.2 hp.2];rfl
end
theorem RQ (f:Int->Ty):∀l:List Ty,(B7 f l).length=l.length
 | []=>rfl
 | t::l=>by rw[B7,Bt,Bt,RQ f l]
theorem nI {n:List UInt8} {i:Int} {ts:List Ty} (f:Int->Ty):nOk n i (B7 f ts)=nOk n i ts:=by grind[nOk,RQ]
mutual
theorem AJr (g:Int->Int):∀t:Ty,wP t=true->wP (Bs (λi=>var (g i)) t)=true
 | .mk k n i ts,h=>by
  rw[wP] at h;rw[Bs];cases h5:k==5 with
  | true=>rfl
  | false=>
   rw[h5] at h;cases h2:k==2 with
   | true=>
    rw[h2] at h;simp only[AK,AM,AH] at h;simp only[AK,AM,D6,wP,h5,h2,nI,h.1,Z1 g ts h.2,Fo]
   | false=>
    rw[h2] at h;simp only[AK] at h;have:=JO _ (λi=>var (g i)) h
    grind[Bs,wP]
theorem Z1 (g:Int->Int):∀l:List Ty,X1 l=true->X1 (B7 (λi=>var (g i)) l)=true
 | [],_=>rfl
 | t::l,h=>by
  simp only[X1,AH] at h;rw[B7,X1,AJr g t h.1,Z1 g l h.2];rfl
end
mutual
theorem Om (g:Int->Int):∀t:Ty,wB t=true->wB (Bs (λi=>var (g i)) t)=true
 | .mk k n i ts,h=>by
  rw[wB] at h;rw[Bs];cases h5:k==5 with
  | true=>rfl
  | false=>
   rw[h5] at h;cases h2:k==2 with
   | true=>
    simp_all[wB,nI,Z1]
   | false=>
    cases h3:k==3 with
    | true=>
     have h0:(k==0)=false:=AB;rw[h2,h0,h3] at h;simp only[AK,CZ,AH] at h;simp only[AK,AM,Dv,wB,h5,h2,h0,h3,CZ,RQ,h.1,h.2.1,h.2.2.1,nJ g ts h.2.2.2,Fo]
    | false=>
     grind[wB]
theorem nJ (g:Int->Int):∀l:List Ty,OB l=true->OB (B7 (λi=>var (g i)) l)=true
 | [],_=>rfl
 | t::l,h=>by
  simp only[OB,AH] at h;rw[B7,OB,Om g t h.1,nJ g l h.2];rfl
end
theorem eJ (c:Ty):∀(l:List Ty) (k:Nat),(Gl c l k).length=l.length
 | [],_=>rfl
 | t::l,k=>by
  rw[Gl];cases decide (k<(Ae t).length) with
  | true=>rfl
  | false=>simp only[AK,Bt,eJ c l _]
mutual
theorem AFJ {c:Ty} (hc:wB c=true):∀(b:Ty) (k:Nat),wB b=true->wB (MQ c b k)=true
 | .mk k n i ts,j,h=>by
  have h':=h;rw[wB] at h;rw[MQ];cases h5:k==5 with
  | true=>grind
  | false=>
   cases h3:k==3 with
   | true=>
    have h0:(k==0)=false:=AB;have h2:(k==2)=false:=AB;rw[h5,h2,h0,h3] at h;simp only[AK,CZ,AH] at h;simp only[AK,AM,wB,h5,h2,h0,h3,CZ,eJ,h.1,h.2.1,h.2.2.1,y7 hc ts j h.2.2.2,Fo]
   | false=>grind
theorem y7 {c:Ty} (hc:wB c=true):∀(l:List Ty) (k:Nat),OB l=true->OB (Gl c l k)=true
 | [],_,_=>rfl
 | t::l,k,h=>by
  simp only[OB,AH] at h;rw[Gl];cases decide (k<(Ae t).length) with
  | true=>simp only[AM,OB,AFJ hc t k h.1,h.2,Fo]
  | false=>simp only[AK,OB,y7 hc l _ h.2,h.1,Fo]
end
theorem nK:∀l m:List Ty,OB (l++m)=(OB l&&OB m)
 | [],_=>by rfl
 | t::l,m=>by rw[DH,OB,OB,nK l m,Le]
mutual
theorem AR7:∀t:Ty,wP t=true->pl t=true
 | .mk k n i ts,h=>by
  rw[wP] at h;rw[pl];cases h5:k==5 with
  | true=>grind
  | false=>
   rw[h5] at h;cases h2:k==2 with
   | true=>
    rw[h2] at h;simp only[AK,AM,AH] at h;exact jc ts h.2
   | false=>grind
theorem jc:∀l:List Ty,X1 l=true->WA l=true
 | [],_=>rfl
 | t::l,h=>by
  simp only[X1,AH] at h;rw[WA,AR7 t h.1,jc l h.2];rfl
end
mutual
theorem MT:∀t:Ty,wB t=true->bd t=true
 | .mk k n i ts,h=>by
  rw[wB] at h;rw[bd];cases h5:k==5 with
  | true=>grind
  | false=>
   rw[h5] at h;cases h2:k==2 with
   | true=>
    grind[jc]
   | false=>
    cases h3:k==3 with
    | true=>
     have h0:(k==0)=false:=AB;rw[h2,h0,h3] at h;simp only[AK,CZ,AH] at h;exact y9 ts h.2.2.2
    | false=>
     rw[h2,h3] at h;cases h0:k==0 with
     | true=>
      have:k=0:=AB;subst this;simp only[h0,AK,AM,AH,HN,GM] at h;obtain⟨rfl,rfl,rfl⟩:=h;rfl
     | false=>grind
theorem y9:∀l:List Ty,OB l=true->My l=true
 | [],_=>rfl
 | t::l,h=>by
  simp only[OB,AH] at h;rw[My,MT t h.1,y9 l h.2];rfl
end
mutual
theorem Z2 (p:Int->Bool) (c:Ty):∀(b:Ty) (k:Nat),oI p b=true->oI p (MQ c b k)=true
 | .mk k n i ts,j,h=>by
  have h':=h;rw[oI] at h;rw[MQ];cases h5:k==5 with
  | true=>
   grind
  | false=>
   cases h3:k==3 with
   | true=>
    have h2:(k==2)=false:=AB;rw[h2,h3] at h;simp only[AK,CZ] at h;simp only[AK,AM,oI,h2,h3,CZ,eK p c ts j h]
   | false=>grind
theorem eK (p:Int->Bool) (c:Ty):∀(l:List Ty) (k:Nat),J9 p l=true->J9 p (Gl c l k)=true
 | [],_,h=>by cases h
 | t::l,k,h=>by
  rw[J9] at h;rw[Gl];rcases YX.1 h with h|h
  .cases decide (k<(Ae t).length) with
   | true=>simp only[AM,J9,Z2 p c t k h,D6]
   | false=>grind[J9]
  .cases decide (k<(Ae t).length) with
   | true=>grind[J9]
   | false=>simp only[AK,J9,eK p c l _ h,Dv]
end
mutual
theorem zA (p:Int->Bool) {c:Ty} (hc:oI p c=true):∀(b:Ty) (k:Nat),k<(Ae b).length->oI p (MQ c b k)=true
 | .mk k n i ts,j,h=>by
  rw[Ae] at h;rw[MQ];cases h5:k==5 with
  | true=>
   grind
  | false=>
   rw[h5] at h;cases h3:k==3 with
   | true=>
    have h2:(k==2)=false:=AB;rw[h3] at h;simp only[AK,AM] at h;simp only[AK,AM,oI,h2,h3,CZ,nL p hc ts j h]
   | false=>grind
theorem nL (p:Int->Bool) {c:Ty} (hc:oI p c=true):∀(l:List Ty) (k:Nat),k<(Bk l).length->J9 p (Gl c l k)=true
 | [],k,h=>by grind[Bk]
 | t::l,k,h=>by
  rw[Bk,Bd] at h;rw[Gl]
  by_cases hk:k<(Ae t).length
  .rw[Ar hk]
   simp only[AM,J9,zA p hc t k hk,D6]
  .rw[Az hk]
   simp only[AK,J9,nL p hc l (k-(Ae t).length) AA,Dv]
end
theorem nM (p:Int->Bool):∀l m:List Ty,J9 p (l++m)=(J9 p l||J9 p m)
 | [],_=>by rfl
 | t::l,m=>by rw[DH,J9,J9,nM p l m,Bool.or_assoc]
def om (U:List Nat) (i:Int):Nat:=bif decide (0<=i) then 1 else U.getD (-1-i).toNat 1
def sS (U:List Nat) (w:Nat) (i:Int):Nat:=bif i==hole then w else om U i
def mx:List Nat->Nat
 | []=>0
 | a::l=>max a (mx l)
theorem AFK {a:Nat}:∀{l:List Nat},a∈l->a<=mx l
 | b::l,h=>by
  rw[mx];rcases A5.1 h with rfl|h
  .omega
  .have:=AFK h
   omega
mutual
def sz (M:Ms):Ty->List Nat->Nat
 | .mk k n i ts,U=>bif k==5 then U.getD i.toNat 1 else bif k==3 then M.c (szl M ts U) else bif k==4 then mx (szl M ts U) else bif k==6 then szx M ts U else M.nm (.mk k n i ts)
def szl (M:Ms):List Ty->List Nat->List Nat
 | [],_=>[]
 | t::l,U=>sz M t U::szl M l U
def szx (M:Ms):List Ty->List Nat->Nat
 | [],_=>0
 | b::l,U=>szh M l (max 1 (sz M b [])::U)
def szh (M:Ms):List Ty->List Nat->Nat
 | [],_=>0
 | t::_,U=>sz M t U
end
theorem QK (M:Ms) (U:List Nat):∀l:List Ty,szl M l U=l.map λt=>sz M t U
 | []=>rfl
 | t::l=>by rw[szl,QK M U l]; rfl
mutual
theorem Z3 (M:Ms):∀(t:Ty) (U σ τ:List Nat),valid t=true->CP U.length t=true->sz M t (U++σ)=sz M t (U++τ)
 | .mk k n i ts,U,σ,τ,hv,hc=>by
  have LY:=hv;simp only[valid,AH] at hv;rw[sz,sz];cases h5:k==5 with
  | true=>
   have:k=5:=AB;subst this;obtain⟨rfl,rfl,h0⟩:=EY LY
   grind[CP]
  | false=>
   have Ff:=DZ hc AB;simp only[AK];cases h6:k==6 with
   | true=>
    have:k=6:=AB;subst this;rcases LF hv.1 with h|h|h|h|h|h|⟨_,_,_,b,body,rfl,hcb⟩
    iterate 6 exact absurd h AD
    simp only[BC,AH] at hv;simp only[EF,AH] at Ff;have hcy:CP (max 1 (sz M b [])::U).length body=true:=Ff.2.1;have:=Z3 M body (max 1 (sz M b [])::U) σ τ hv.2.2.1 hcy;exact this
   | false=>
    have h6':k≠6:=AB;have:=eM M ts U σ τ hv.2 (λt ht=>Fg h6' Ff ht)
    grind
theorem eM (M:Ms):∀(l:List Ty) (U σ τ:List Nat),BC l=true->(∀t∈l,CP U.length t=true)->szl M l (U++σ)=szl M l (U++τ)
 | [],_,_,_,_,_=>rfl
 | t::l,U,σ,τ,hv,hc=>by
  simp only[BC,AH] at hv;rw[szl,szl,Z3 M t U σ τ hv.1 (hc t AD),eM M l U σ τ hv.2 λu hu=>hc u AB]
end
mutual
theorem VW (M:Ms) {ω ω':Int->Nat}:∀t:Ty,(∀i∈Ae t,ω i<=ω' i)->wz M ω t<=wz M ω' t
 | .mk k n i ts,h=>by
  rw[Ae] at h;rw[wz,wz];cases h5:k==5 with
  | true=>grind
  | false=>
   rw[h5] at h;cases h3:k==3 with
   | true=>rw[h3] at h; exact M.mono _ _ (X3 M ts h)
   | false=>simp
theorem X3 (M:Ms) {ω ω':Int->Nat}:∀l:List Ty,(∀i∈Bk l,ω i<=ω' i)->CB (·<=·) (WT M ω l) (WT M ω' l)
 | [],_=>trivial
 | t::l,h=>by
  rw[Bk] at h;exact⟨VW M t λi hi=>h i AB,X3 M l λi hi=>h i AB⟩
end
mutual
theorem nN {p q:Int->Bool} (h:∀i,p i=true->q i=true):∀t:Ty,oA p t=true->oA q t=true
 | .mk k n i ts,ht=>by
  rw[oA] at ht ⊢;cases h5:k==5 with
  | true=>grind
  | false=>
   rw[h5] at ht;simp only[AK,AH] at ht ⊢;exact⟨ht.1,eN h ts ht.2⟩
theorem eN {p q:Int->Bool} (h:∀i,p i=true->q i=true):∀l:List Ty,T6 p l=true->T6 q l=true
 | [],hl=>by cases hl
 | t::l,hl=>by
  rw[T6] at hl ⊢;rcases YX.1 hl with hl|hl
  .rw[nN h t hl,D6]
  .rw[eN h l hl,Dv]
end
mutual
theorem Z6 {p q:Int->Bool} (h:∀i,p i=true->q i=true):∀t:Ty,oI p t=true->oI q t=true
 | .mk k n i ts,ht=>by
  rw[oI] at ht ⊢;cases h2:k==2 with
  | true=>grind[nN]
  | false=>
   rw[h2] at ht;simp only[AK,AH] at ht ⊢;exact⟨ht.1,eO h ts ht.2⟩
theorem eO {p q:Int->Bool} (h:∀i,p i=true->q i=true):∀l:List Ty,J9 p l=true->J9 q l=true
 | [],hl=>by cases hl
 | t::l,hl=>by
  rw[J9] at hl ⊢;rcases YX.1 hl with hl|hl
  .rw[Z6 h t hl,D6]
  .rw[eO h l hl,Dv]
end
theorem VX {g:Int->Int} {i j:Int} (hg:g i=j) {t:Ty} (hb:bd t=true) (h:oI (·==i) t=true):oI (·==j) (Bs (λi=>var (g i)) t)=true:=by
 rw[iE _ _ _ hb]
 grind[Z6]
structure Z7 (M:Ms) (ω:Int->Nat) (S:Nat) (b:Br):Prop where
 wb:wB b.body=true
 inv:∀i:Nat,i<b.bounds.length->oI (·==(i:Int)) b.body=true
 L5:wz M ω b.body<=S
section
variable {A8:Nat->Bool} {M:Ms}
theorem AFL (U:List Nat) {w:Nat} (hw:1<=w) (n:Nat) (i:Int):om U (bif i==-1 then(n:Int) else bif decide (i<0) then i+1 else i)<=om (w::U) i:=by
 by_cases h1:i=-1
 .simp[*,om]
 .by_cases h2:i<0
  .have e1:(i==-1)=false:=by grind
   have e2:((-1-i).toNat)=(-1-(i+1)).toNat+1:=AA;have e3:decide (0<=i)=false:=AB;have e4:decide (0<=i+1)=false:=AB
   grind[om,List.getD_cons_succ]
  grind[om]
theorem AB6 {U:List Nat} {w S:Nat} {b c:Br} {k:Nat} (hb:Z7 M (sS U w) S b) (hk:Fb b.body=some k) (hc:Z7 M (om U) w c) {W:Nat} (xm:L7 W c) (hs:((b.bounds.length+c.bounds.length:Nat):Int)<hole):Z7 M (sS U w) S (Ct b k c):=by
 obtain⟨f1,f2⟩:=Eh hk;have hkl:k<(Ae b.body).length:=(BH.1 f1).1;have hsw:wB (G0 b.bounds.length c.body)=true:=by rw[L6]; exact Om _ _ hc.wb
 refine⟨AFJ hsw _ _ hb.wb,λi hi=>?_,?_⟩
 .have hi:i<b.bounds.length+c.bounds.length:=by grind[Ct]
  by_cases h:i<b.bounds.length
  .exact Z2 _ _ _ _ (hb.inv i h)
  .refine zA _ ?_ _ _ hkl
   rw[L6];refine VX (i:=((i-b.bounds.length:Nat):Int)) ?_ (MT _ hc.wb) (hc.inv _ AA)
   grind
 .refine BK (AFH M (w:=hole) ?_ b.body k f1) hb.L5
  have e:sS U w hole=w:=AR;rw[e,L6,ME _ _ _ _ hc.wb];refine BK (VW M _ λi hi=>?_) hc.L5
  have hnh:i≠hole:=λhe=>by
   have:=NR.1 xm.nh
   grind
  have hin:=S9 _ xm.ok i hi
  grind[sS,om]
theorem nO {U:List Nat} {w S T wv W:Nat} {l:List Br} (hl:∀c∈l,Z7 M (om U) w c/\L7 W c/\c.bounds.length<=wv) (hT:(T:Int)<hole):∀(f:Nat) (b:Br) (r:List Br),Z7 M (sS U w) S b->vP (SV b.bounds.length) b.body=true->b.bounds.length+(Ae b.body).count hole*wv<=T ->
  EL A8 l f b=some r->∀d∈r,Z7 M (sS U w) S d
 | 0,b,r,hb,_,_,h,d,hd=>by grind[EL]
 | f+1,b,r,hb,hG,hTb,h,d,hd=>by
  rw[EL] at h;cases hk:Fb b.body with
  | none=>
   grind
  | some k=>
   rw[hk] at h;rcases Ju h d hd with h' | ⟨c,h1,s,h2,h3⟩
   .grind
   .obtain⟨hc,xm,hcw⟩:=hl c h1
    have hpos:0<(Ae b.body).count hole:=by
     have hfs:=Eh hk
     grind
    have m0:1*wv<=(Ae b.body).count hole*wv:=B5 _ hpos;have hs:((b.bounds.length+c.bounds.length:Nat):Int)<hole:=AA;obtain⟨g1,g2,g3,_⟩:=Zk hG hk xm hs;have el:(Ct b k c).bounds.length=b.bounds.length+c.bounds.length:=by simp[Ct]
    have m2:(Ae b.body).count hole*wv=(Ae (Ct b k c).body).count hole*wv+wv:=by rw[<-g3,KI]
    exact nO hl hT f _ s (AB6 hb hk hc xm hs) g1 AA h2 d h3
theorem zB {U:List Nat} {w S T wv W V:Nat} (hw:1<=w) {Qx:Option (List Br)} {bound:Ty} {b:Br} (hb:Z7 M (om (w::U)) S b) (hG:L7 V b) (hl:∀l,Qx=some l->∀c∈l,Z7 M (om U) w c/\L7 W c/\c.bounds.length<=wv) (hT:(T:Int)<hole) (hbT:b.bounds.length+(Ae b.body).length*wv<=T) {r:List Br} (h:E3 A8 Qx bound b=some r):∀d∈r,Z7 M (om U) S d:=by
 have hs:((b.bounds.length:Nat):Int)<hole:=AA;have hbd:=MT _ hb.wb;have hwi:wB (Hq b.bounds.length b.body)=true:=by rw[Km]; exact Om _ _ hb.wb
 have inv1:∀i:Nat,i<b.bounds.length->oI (·==(i:Int)) (Hq b.bounds.length b.body)=true:=λi hi=>by
  rw[Km];refine VX ?_ hbd (hb.inv i hi);rfl
 obtain⟨b1,b2,b3⟩:=AIC hG hs;obtain⟨r1,r2⟩:=AID b1 hs;intro d hd;unfold E3 at h;cases ho:oI (·==(b.bounds.length:Int)) (Hq b.bounds.length b.body) with
 | true=>
  rw[ho] at h;cases h;rw[Df.1 hd];refine⟨hwi,λi hi=>?_,?_⟩
  .simp only[Bd,Bt,Bz] at hi
   by_cases h:i<b.bounds.length
   all_goals grind
  .show wz M (om U) (Hq b.bounds.length b.body)<=S
   rw[Km,ME _ _ _ _ hb.wb];exact BK (Nt M (λi=>AFL U hw _ i) _) hb.L5
 | false=>
  rw[ho] at h;simp only[AK] at h
  have h0:Z7 M (sS U w) S ⟨b.bounds,I5 b.bounds.length hole (Hq b.bounds.length b.body)⟩:=by
   refine⟨?_,λi hi=>?_,?_⟩
   .show wB (I5 _ _ _)=true
    simp[*,Jv,Om]
   .show oI _ (I5 _ _ _)=true
    rw[Jv];refine VX ?_ (MT _ hwi) (inv1 i hi)
    grind
   .show wz M (sS U w) (I5 _ _ _)<=S
    rw[Jv,ME _ _ _ _ hwi,Km,ME _ _ _ _ hb.wb];refine BK (VW M _ λi hi=>?_) hb.L5
    have hnh:i≠hole:=λhe=>by
     have:=NR.1 hG.nh
     grind
    have hin:=mI.1 (S9 _ hG.ok i hi);have hlt:i<b.bounds.length:=AA;have key:=AFL U hw b.bounds.length i
    by_cases h1:i=-1
    .simp[*,sS,om]
    grind[sS]
  have fin:∀d,Z7 M (sS U w) S d->Z7 M (om U) S d:=λd h=>⟨h.wb,h.inv,BK (Nt M (λi=>by grind[sS,om]) _) h.L5⟩
  cases hk:Fb (I5 b.bounds.length hole (Hq b.bounds.length b.body)) with
  | none=>
   grind
  | some k=>
   rw[hk] at h;cases hb':Qx with
   | none=>grind
   | some l=>
    rw[hb'] at h;simp only at h;have Ff:(Ae (I5 b.bounds.length hole (Hq b.bounds.length b.body))).length=(Ae b.body).length:=by simp[*,Jv,Dp,Km]
    have M1:(Ae (I5 b.bounds.length hole (Hq b.bounds.length b.body))).count hole<=(Ae b.body).length:=AB;refine fin _ (nO (T:=T) (λc hc=>hl l hb' c hc) hT _ ⟨b.bounds,I5 b.bounds.length hole (Hq b.bounds.length b.body)⟩ r h0 r1 ?_ h d hd);have m1:(Ae (I5 b.bounds.length hole (Hq b.bounds.length b.body))).count hole*wv<=(Ae b.body).length*wv:=B5 _ M1
    grind
end
end Go.Proofs.YtpgfpakdnijngaaGreatDoor
