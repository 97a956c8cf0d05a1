/-
  The reference: withBranch.
-/
import Derived.Test.YtpgfpakdnijngaaGreatDoorTF
import Derived.Test.YtpgfpakdnijngaaGreatDoorTE
set_option linter.all false
namespace Go.Proofs.YtpgfpakdnijngaaGreatDoor
open Go.Tel
attribute [local simp] Ia Mt Js KW ER Fh Eo wO setCells IM D5 DF Ce E2 alive DX KF Tl gY HW JM HI Ib Lr JN oY kj okB oZ oa oc od og fP oh oo oq ot ou ow oz o5 o6 o7 o8 okF o9 pE pF pG pH V7 pI Qm Qn Qo Qp pJ pK pL pM pN pO pP pQ pR pS Hu pT kn pU pV pW pX pY pZ pg pn pq pz Cp
theorem MA {t:Ty} {cs:List AV} (h:BP t (.agg cs)):Tel.Dg (.agg cs) (.agg cs)=true:=by
 obtain⟨k,n,i,ts⟩:=t;obtain⟨a,he,ha⟩:=h
 grind[BE.Dg,Tel.Dg,JG,NZ,FQ,IP]
theorem xk {a:AV} {ds:List AV} {t:Ty} (ha:BD a=true) (hc:cellsOf a=[a]) (h:BP t (.agg ds)):Eo Z5 [(0,1,a),(1,4,.agg ds)]=some (a::ds):=by
 obtain⟨c1,c2,_⟩:=h.cells
 match ds,c1,c2 with
 | [d1,d2,d3,d4],_,c2=>
  simp[*]
theorem QC {E:Env} {s:AQ} {id:Nat} {a:AV} {cs:List AV} {K:AV->Prop} (hb:s.bs[id]?=some (a::cs)) (hk:cs.length=4) (h:K (.agg cs)):D5 E s (some 4) (.ptr id (0+1)) K:=ZX hb hk h
section
variable {R:RT}
theorem dy {n:Nat} (hn:n<2 ^ 60) {t:Ty} (h:size t<2 ^ 37) (hv:Xp t=true) {x:AV} (hx:BP t x):Af (env R) 112 [x,AG n] λr=>A7 (G0 n t) r:=by
 obtain⟨x',h1,h2⟩:=hx.closed [] 0;exact Af.open (args':=[x',AG n]) AR AR rfl (by simp[*]) (by simp[BR,h2.IU,Tel.close]) (Og hn t h hv x' h2)
theorem jM {t:Ty} (h:size t<2 ^ 37) (hv:Xp t=true) {x:AV} (hx:BP t x):Af (env R) 97 [x] λr=>A7 (qD t) r:=by
 obtain⟨x',h1,h2⟩:=hx.closed [] 0;exact Af.open (args':=[x']) AR AR rfl (by simp[*]) (by simp[BR,h2.IU]) (Xq t h hv x' h2)
theorem jN (n:Nat) {t:Ty} (h:size t<2 ^ 37) (hv:Xp t=true) {x:AV} (hx:BP t x):Af (env R) 128 [x,AG n] λr=>A7 (Hq n t) r:=by
 obtain⟨x',h1,h2⟩:=hx.closed [] 0;exact Af.open (args':=[x',AG n]) AR AR rfl (by simp[*]) (by simp[BR,h2.IU,Tel.close]) (Xr n t h hv x' h2)
theorem MB (n m:Int) {t:Ty} (h:size t<2 ^ 37) (hv:Xp t=true) {x:AV} (hx:BP t x):Af (env R) 82 [x,AG n,AG m] λr=>A7 (I5 n m t) r:=by
 obtain⟨x',h1,h2⟩:=hx.closed [] 0;exact Af.open (args':=[x',AG n,AG m]) AR AR rfl (by simp[*]) (by simp[BR,h2.IU,Tel.close]) (R8 n m t h hv x' h2)
theorem xl (n:Int) {t:Ty} (h:size t<2 ^ 37) {x:AV} (hx:BP t x):Af (env R) 66 [x,AG n] λr=>r=BB (oI (·==n) t):=by
 obtain⟨x',h1,h2⟩:=hx.closed [] 0;exact Af.open (args':=[x',AG n]) AR AR rfl (by simp[*]) (by simp[BR,h2.IU,Tel.close]) (mO n t h x' h2)
theorem ABi {s:AQ} {K:AV->AQ->Prop} (hK:K (.AE []) s):HJ false s 4 [(AG 0),(SS []),(AG 0),(.AE [])] 0 [] K:=by
 simpa[HJ,Fu,CI] using hK
theorem mS {b c:Br} {k:Nat} (hk:k<(Ae b.body).length) (fQ:size b.body<2 ^ 37) (hsc:size c.body<2 ^ 37) (hvc:Xp c.body=true) (QU:b.bounds.length+c.bounds.length<2 ^ 38) {x y:AV} (hx:CG b x) (hy:CG c y) {s:AQ} (hs:BI s) {QR:QT}
  (hQ:∀row bs ts',CG (Ct b k c) (.agg row)->BI ⟨bs,ts'⟩->bs.take s.bs.length=s.bs->s.bs.length<=bs.length->Cd (.AE []) (.AE []) s.ts ts'->QR (.agg row) ⟨bs,ts'⟩):AEH R 0 0 0 x (AG k) y s QR:=by
 obtain⟨xr,rfl⟩:=hx.agg;obtain⟨yr,rfl⟩:=hy.agg;obtain⟨xk1,xk2,xk3⟩:=hx.cells;obtain⟨yk1,yk2,yk3⟩:=hy.cells;obtain⟨xa,xb,hxe,Up,hxb⟩:=id hx;cases hxe;obtain⟨ya,yb,hye,Vm,hyb⟩:=id hy;cases hye;obtain⟨xb1,xb2,_⟩:=hxb.cells;obtain⟨yb1,yb2,_⟩:=hyb.cells;refine AQS (Bx (cs:=xa::xb) rfl xk2 (Bx (cs:=[AG k]) rfl rfl (Bx (cs:=ya::yb) rfl yk2 (Bj ?_))));simp only[Du,DH,Cm,Bd,Bt,Bz,CQ,Nat.reduceAdd];have g0:(s.bs++[xa::xb,[AG k],ya::yb,Z5])[s.bs.length]?=some (xa::xb):=El (j:=0) rfl rfl;have g1:(s.bs++[xa::xb,[AG k],ya::yb,Z5])[s.bs.length+1]?=some [AG k]:=El rfl rfl;have g2:(s.bs++[xa::xb,[AG k],ya::yb,Z5])[s.bs.length+2]?=some (ya::yb):=El rfl rfl;have g3:(s.bs++[xa::xb,[AG k],ya::yb,Z5])[s.bs.length+3]?=some Z5:=El rfl rfl;have hT:(s.bs++[xa::xb,[AG k],ya::yb,Z5]).take s.bs.length=s.bs:=AD;have hl:(s.bs++[xa::xb,[AG k],ya::yb,Z5]).length=s.bs.length+4:=AD
 have hok:BI ⟨s.bs++[xa::xb,[AG k],ya::yb,Z5],s.ts⟩:=by
  intro d hd;simp only[B4,A5,Ep,Er] at hd
  show Ah (s.bs++_).length d=true
  rcases hd with hd|rfl|rfl|rfl|rfl
  .exact Bp AD d (hs d hd)
  .grind
  .rfl
  .grind
  rfl
 generalize s.bs++[xa::xb,[AG k],ya::yb,Z5]=bs at g0 g1 g2 g3 hT hl hok;refine ABi (AO (AX g0) (AZ (off:=0) g0 rfl ⟨AI,FB (es:=[]) (l:=b.bounds) (.inl rfl) rfl AB Up λa10 KS w1 w2=>?_⟩));rw[Cm] at w1;refine AO (AX g2) (AZ (off:=0) g2 rfl ⟨AI,FB w1 rfl AA Vm λsH I6 v1 v2=>?_⟩);have AJC:=dy (R:=R) (n:=b.bounds.length) AA hsc hvc hyb;refine AO (AX g0) (QC g0 xb1 (AO (AX g2) (QC g2 yb1 (AO (AX g0) (AZ (off:=0) g0 rfl (Aq (n:=b.bounds.length) (by rw[Up.BA,Aa]) (AL AJC ?_)))))));intro sv hsv;have Zd:BI ⟨bs,I6⟩:=hok;have hcs:=Ea b.body;obtain⟨w,s',⟨Nl,ds,rfl,r4,r2,rfl⟩,r6⟩:=mR (R:=R) (C:=s.bs.length+1) hsv b.body AA (.agg xb) hxb k ⟨bs,I6⟩ Zd AA AA (Ce (env R) 78 0 0 0) rfl rfl g1;rw[xe _ _ _ hk] at r4;obtain⟨d1,d2,d3⟩:=r4.cells;have hF:DS (.AE []) s.ts:=DS.AE _ _;have qR:Cd (.AE []) a10 s.ts KS:=w2;have v1':=r2.keep v1 (λ_ h=>by cases h);have AZA:Cd (.AE []) (.AE []) s.ts Nl:=((Cd.refl (.AE []) s.ts).side w2 hF |>.side v2 (w2.Uo)).trans r2;have sP:=BQ (b:=[AG ((k:Int)-(Ae b.body).length)]) g0 (k:=s.bs.length+1) AA;have g3':=BQ (b:=[AG ((k:Int)-(Ae b.body).length)]) g3 (k:=s.bs.length+1) AA;have AH4:BI ⟨bs.set (s.bs.length+1) [AG ((k:Int)-(Ae b.body).length)],Nl⟩:=BI.set (s:=⟨bs,I6⟩) Zd rfl _;have D4:CG (Ct b k c) (.agg (sH::ds)):=⟨sH,ds,rfl,v1.A1,r4⟩;obtain⟨q1,q2,q3⟩:=D4.cells;refine⟨_,_,r6,Hg (xk v1.A1.ok v1.A1.cells r4) (QA g3' q1 (AN _) q2 (AN _) ?_)⟩;have sxa:Tel.Dg xa xa=true:=BE.Dg Up;have sya:Tel.Dg ya ya=true:=BE.Dg Vm;have sxb:=MA hxb;have syb:=MA hyb;have f0:∀(ts:List (Nat×Nat)) d,E2 ⟨bs,ts⟩ (.ptr s.bs.length 0) d λv=>Tel.Dg v (.ptr s.bs.length (0+d))=true:=λts d=>AO (AX g0) (EA _ _)
 have f2:∀(ts:List (Nat×Nat)) d,E2 ⟨bs,ts⟩ (.ptr (s.bs.length+2) 0) d λv=>Tel.Dg v (.ptr (s.bs.length+2) (0+d))=true:=λts d=>AO (AX g2) (EA _ _)
 have eqn:∀n:Int,Tel.Dg (AG n) (AG n)=true:=λn=>by simp[Tel.Dg,NZ,FQ]
 have lx:∀(ts:List (Nat×Nat)),HI ⟨bs,ts⟩ xa λv=>Tel.Dg v (AG b.bounds.length)=true:=λts=>Aq (n:=b.bounds.length) (by rw[Up.BA,Aa]) (eqn _)
 refine⟨f2 _ 0,AZ (off:=0) g2 rfl sya,f0 _ 1,f0 _ 1,f0 _ 1,QC g0 xb1 sxb,QC g0 xb1 sxb,QC g0 xb1 sxb,f2 _ 1,f2 _ 1,QC g2 yb1 syb,QC g2 yb1 syb,f0 _ 0,f0 _ 0,AZ (off:=0) g0 rfl sxa,AZ (off:=0) g0 rfl sxa,lx _,lx _,?_⟩;refine Ag (BZ g3') q1 ?_;refine hQ (sH::ds) _ Nl D4 (BI.set (s:=⟨_,Nl⟩) AH4 (q3 _) _) ?_ AB AZA
 grind[Cj]
theorem CG.JT {b:Br} {row:List AV} (h:CG b (.agg row)) (bs:List (List AV)) (n m:Nat):∃r',BR bs n m row=some r'/\CG b (.agg r'):=by
 obtain⟨a,y,he,ha,ht⟩:=h;cases he;obtain⟨a',h1,h2⟩:=ha.close bs n m;obtain⟨y',h3,h4⟩:=ht.JT bs n m;exact⟨a'::y',by simp[*],a',y',rfl,h2,h4⟩
theorem AQT {rr:Bool} {b:Br} {row:List AV} {s0:AQ} {bs:List (List AV)} {ts:List (Nat×Nat)} {Post:AV->AQ->Prop} (h0:BI s0) (hT:bs.take s0.bs.length=s0.bs) (hb:CG b (.agg row)) (hP:∀r,CG b (.agg r)->Post (.agg r) ⟨s0.bs,ts⟩):QM rr s0.bs.length Post (.agg row) ⟨bs,ts⟩:=by
 obtain⟨r',h1,h2⟩:=hb.JT bs s0.bs.length ts.length;refine ZY (ds:=r') ?_ h1 ?_
 .rw[C3]
  intro c hc;exact h0 c AB
 grind
theorem jO {b c:Br} {k:Nat} (hk:k<(Ae b.body).length) (fQ:size b.body<2 ^ 37) (hsc:size c.body<2 ^ 37) (hvc:Xp c.body=true) (QU:b.bounds.length+c.bounds.length<2 ^ 38) {x y:AV} (hx:CG b x) (hy:CG c y) {s:AQ} (hs:BI s) {L:BL} (hro:L.ro=0) (Ee:L.rt=0) :
  ∃v s',(∃ts',CG (Ct b k c) v/\Cd (.AE []) (.AE []) s.ts ts'/\s'=⟨s.bs,ts'⟩)/\BW (env R) L 78 [x,AG k,y] s v s':=by
 cases hn:DK [x,AG k,y] with
 | true=>
  have h0:BI ⟨[],[]⟩:=λb hb=>by grind
  obtain⟨v,hv,hc⟩:=e78 (R:=R) (Post:=λv=>CG (Ct b k c) v) hn (mS hk fQ hsc hvc QU hx hy h0 λrow bs ts' h1 h2 h3 h4 h5=>by
   obtain⟨r',q1,q2⟩:=h1.JT bs 0 0;exact⟨.agg r',by simp[*],q2⟩)
  exact⟨v,s,⟨s.ts,hv,Cd.refl _ _,rfl⟩,hc L s⟩
 | false=>
  refine m78 hn ?_
  grind[mS,AQT]
end
theorem VE {n:Nat}:∀(a b:List AV),Ah n a=true->Ah n b=true->Ah n (a++b)=true
 | [],b,_,h=>h
 | x::a,b,h1,h2=>by
  simp only[Ah,AH] at h1;simp only[DH,Ah,h1.1,VE a b h1.2 h2,Fo]
theorem EB.block {lo:Nat} {s:AQ} {l:List Br} {id:Nat} {rows:List (List AV)} (h2:s.bs[id]?=some rows.flatten) (h3:CB (λb row=>CG b (.agg row)) l rows) (h4:l≠[]):∃c cs,rows.flatten=c::cs/\(c::cs).length=l.length*5/\(c::cs).all BD=true/\(∀n,Ah n (c::cs)=true)/\alive s id=true:=by
 obtain⟨c1,c2,c3⟩:=ID h3
 have:rows.flatten≠[]:=by
  intro h;rw[h] at c1;cases l with
  | nil=>grind
  | cons _ _=>grind
 obtain⟨c,r,hc⟩:=NU this
 grind[AX]
theorem Zp {L:BL} {s:AQ} {lo:Nat} {a y:AV} {l r:List Br} (ha:EB lo s.bs l a) (hy:EB lo s.bs r y) (hro:L.ro=0) (hl:l.length+r.length<2 ^ 38) (hlo:lo<=s.bs.length) {K:AV->AQ->Prop}
  (h:∀a' bs',EB lo bs' (l++r) a'->(∀j c,(∀n,a≠.ref j 0 n 5)->s.bs[j]?=some c->bs'[j]?=some c)->s.bs.length<=bs'.length->(BI s->BI ⟨bs',s.ts⟩)->K a' ⟨bs',s.ts⟩) :
  Ik true L s 45 5 80 a y K:=by
 unfold Ik;rcases hy with ⟨rfl,rfl⟩|⟨iy,ry,y1,rfl,y2,y3,y4⟩
 .have hsrc:C6 s 5 (.AE [])=some []:=rfl
  rw[hsrc];rw[HO] at h;have hk:=h a s.bs ha (λj c _ hj=>hj) (AY _) (λh=>h);rcases ha with ⟨rfl,rfl⟩|⟨id,rows,h1,rfl,h2,h3,h4⟩
  .exact hk
  .obtain⟨c,cs,_,_,_,_,hal⟩:=EB.block (lo:=lo) h2 h3 h4
   exact⟨hal,hk⟩
 .obtain⟨c,cs,hc,k1,k2,k3,hal⟩:=EB.block (lo:=lo) y2 y3 y4
  rw[hc] at y2;have hsrc:C6 s 5 (.ref iy 0 r.length 5)=some (c::cs):=by grind[C6]
  rw[hsrc];simp only[wO];have hdiv:(c::cs).length / 5=r.length:=AA;rw[hdiv];refine⟨k2,?_⟩;rcases ha with ⟨rfl,rfl⟩|⟨id,rows,h1,rfl,h2,h3,h4⟩
  .refine⟨⟨AA,AA,AD⟩,?_⟩
   simp only[AM,List.flatten_nil,Co,Cm];have e0:0+r.length=r.length:=AA;simp only[Bz,e0];refine h (.ref s.bs.length 0 r.length 5) (s.bs++[c::cs]) (.inr ⟨s.bs.length,ry,hlo,rfl,AB,y3,y4⟩) (λj d _ hj=>Ai hj _) AD (λhs=>BI.app (s:=s) hs (k3 _))
  .obtain⟨r1,r2,r3⟩:=ID h3
   have Sr:=(BH.1 h2).1;obtain⟨_,_,_,_,_,_,AIh⟩:=EB.block (lo:=lo) h2 h3 h4;simp only[h2];refine⟨⟨Ap,Ap,AA,AIh,AA,AA,AA⟩,?_⟩;have et:rows.flatten.take (l.length*5)=rows.flatten:=CU AA;rw[et];have qh:CB (λb row=>CG b (.agg row)) (l++r) (rows++ry):=CB.append h3 y3;refine h (.ref s.bs.length 0 (l.length+r.length) 5) (s.bs.set id []++[rows.flatten++(c::cs)]) (.inr ⟨s.bs.length,rows++ry,hlo,AD,?_,qh,by simp[h4]⟩) (λj d hn hj=>?_) AD (λhs=>?_)
   .grind
   .grind
   .have h5:BI ⟨s.bs.set id [],s.ts⟩:=BI.set (s:=s) hs AR _
    exact BI.app (s:=⟨s.bs.set id [],s.ts⟩) h5 (VE _ _ (r3 _) (k3 _))
theorem AJD {n:Nat} {X bs:List (List AV)} {ts:List (Nat×Nat)} {l:List Br} {v:AV} {Post:AV->AQ->Prop} (hn:X.length=n) (hX:∀b∈X,Ah n b=true) (hT:bs.take n=X) (hb:EB n bs l v)
  (hP:∀v' bs',EB n bs' l v'->bs'.take n=X->n<=bs'.length->BI ⟨bs',ts⟩->Post v' ⟨bs',ts⟩):QM true n Post v ⟨bs,ts⟩:=by
 have hok:((bs.take n).all (Ah n))=true:=AB
 have AQU:BI ⟨X,ts⟩:=by
  intro b hb
  grind
 rcases hb with ⟨rfl,rfl⟩|⟨id,rows,h1,rfl,h2,h3,h4⟩
 .refine⟨.AE [],⟨X,ts⟩,?_,hP _ X (.inl ⟨rfl,rfl⟩) AB AA AQU⟩
  grind[Hs,Hz,Tel.close]
 .obtain⟨c,cs,hc,k1,k2,k3,hal⟩:=EB.block (lo:=n) (s:=⟨bs,ts⟩) h2 h3 h4
  rw[hc] at h2;refine⟨.ref n 0 l.length 5,⟨X++[c::cs],ts⟩,?_,hP _ (X++[c::cs]) (.inr ⟨n,rows,AY _,rfl,AB,h3,h4⟩) AB AB (BI.app (s:=⟨X,ts⟩) AQU (k3 _))⟩
  grind[Hs,Hz,Nat.ble_eq_true_of_le]
theorem Oh {R:RT} {s:AQ} {lo p:Nat} {l:List Br} {y:AV} {c:Br} (hy:EB lo s.bs l y) (hc:l[p]?=some c) {K:AV->Prop} (hK:∀row,CG c (.agg row)->K (.agg row)):NC s 5 y (AG p) λa=>D5 (env R) s (some 5) a K:=by
 rcases hy with ⟨rfl,rfl⟩|⟨id,rows,h1,rfl,h2,h3,h4⟩
 .grind
 .obtain⟨_,_,_,_,_,_,hal⟩:=EB.block (lo:=lo) h2 h3 h4
  have hp:p<l.length:=(BH.1 hc).1;refine⟨⟨AA,AA,rfl,hal⟩,?_⟩;simp only[D5,h2,wO,DF]
  have gen:∀(l:List Br) (rows:List (List AV)) (p:Nat) (c:Br),CB (λb row=>CG b (.agg row)) l rows->l[p]?=some c->∃row,CG c (.agg row)/\p*5+5<=rows.flatten.length/\(rows.flatten.drop (p*5)).take 5=row:=by
   intro l
   induction l with
   | nil=>simp
   | cons b l ih=>
    intro rows p c h hc;cases rows with
    | nil=>exact h.elim
    | cons row rows=>
     obtain⟨h1,h2⟩:=h;obtain⟨c1,_,_⟩:=h1.cells;cases p with
     | zero=>
      grind
     | succ p=>
      obtain⟨row',i1,i2,i3⟩:=ih rows p c h2 AB;refine⟨row',i1,AB,?_⟩;have e5:(p+1)*5=row.length+p*5:=AA;simp[*,List.drop_append,CH]
  grind
mutual
theorem Oi {p:Int->Bool} (h:∀i,p i=true->-(2 ^ 60)<=i/\i<2 ^ 60):∀t:Ty,vP p t=true->Xp t=true
 | .mk k n i ts,ht=>by
  rw[vP] at ht;rw[Xp];cases h5:k==5 with
  | true=>
   grind
  | false=>
   rw[h5] at ht;cases h2:k==2||k==3 with
   | true=>
    rw[h2] at ht;exact mT h ts ht
   | false=>rfl
theorem mT {p:Int->Bool} (h:∀i,p i=true->-(2 ^ 60)<=i/\i<2 ^ 60):∀l:List Ty,R7 p l=true->RH l=true
 | [],_=>rfl
 | t::l,hl=>by
  simp only[R7,AH] at hl;rw[RH,Oi h t hl.1,mT h l hl.2];rfl
end
theorem Nq {N:Nat} (hN:(N:Int)<2 ^ 50):∀i,SV N i=true->-(2 ^ 60)<=i/\i<2 ^ 60:=by grind[hole]
theorem MC {bs bs' X:List (List AV)} {n e:Nat} {c:List AV} (hn:n<=bs.length) (h1:bs.take n=X) (h2:bs'.take bs.length=bs.set e c):bs'.take n=X.set e c:=by
 have:=Bg (List.take n) h2
 grind[List.take_set]
theorem EB.keep {lo:Nat} {bs bs':List (List AV)} {l:List Br} {a:AV} {e:Nat} {c d:List AV} (h:EB lo bs l a) (he:bs[e]?=some c) (hc:c.length=2) (hT:bs'.take bs.length=bs.set e d):EB lo bs' l a:=by
 rcases h with h|⟨id,rows,h1,h2,h3,h4,h5⟩
 .exact .inl h
 .refine .inr ⟨id,rows,h1,h2,?_,h4,h5⟩
  have hne:e≠id:=by grind[ID]
  exact CD hT AB
structure ND (e:Nat) (x:Bool) (l:List Br) (s s':AQ) (v:AV):Prop where
 Qx:EB s.bs.length s'.bs l v
 tk:s'.bs.take s.bs.length=s.bs.set e [BB true,BB x]
 len:s.bs.length<=s'.bs.length
 ok:BI s'
 Py:Cd (.AE []) (.AE []) s.ts s'.ts
def jP (o:Option (List Br)) (x x':Bool) (r:List Br):Prop:=(x=true->x'=true)/\(x=false->match o with
 | some m=>r=m/\x'=false
 | none=>x'=true)
section
variable {R:RT}
theorem mU {e:Nat} {y t4 t7 acc:AV} {lo p:Nat} {l:List Br} {s:AQ} (hy:EB lo s.bs l y) (gE:s.bs[e]?=some [BB true,BB true]) {QR:QT} (h:QR acc s):jQ R 0 0 0 (.ptr e 0) y t4 t7 acc (AG p) s QR:=by
 refine jR (Aq (n:=l.length) hy.BA (Ao ?_));cases hd:decide ((p:Int)<(l.length:Nat)) with
 | true=>exact Ak (Ak (C1 (AX gE) (Ak (AO (AX gE) (Ak (AZ (off:=1) gE rfl (Ak (nt (pk (Ay (jS h)))))))))))
 | false=>exact B8 (B8 (B8 (B8 (B8 (pk (Ay (jS h)))))))
theorem ABk {e:Nat} {l:List Br} {W w S T:Nat} (hl:∀c∈l,L7 W c/\c.bounds.length<=w) (hT:(T:Int)<hole) (hS:S<2 ^ 37) {f:Nat} {b:Br} {k:Nat} (hb:vP (SV b.bounds.length) b.body=true) (hk:Fb b.body=some k) (hf:(Ae b.body).count hole<=f+1) (hbS:size b.body+(Ae b.body).count hole*W<=S) (hbT:b.bounds.length+(Ae b.body).count hole*w<=T) (hf2:f<2 ^ 27) (SN:l.length<2 ^ 30)
  {lo:Nat} {y:AV} {rb:List AV} (hrb:CG b (.agg rb))
  (ih:∀b':Br,vP (SV b'.bounds.length) b'.body=true->(Ae b'.body).count hole<=f->size b'.body+(Ae b'.body).count hole*W<=S->b'.bounds.length+(Ae b'.body).count hole*w<=T->∀x,CG b' x->∀s,BI s->∀L:BL,L.ro=0->L.rt=0->L.rr 130=true->s.bs[e]?=some [BB true,BB false]->EB lo s.bs l y ->
   ∃v s',(∃r x',jP (EL (AU 32) l f b') false x' r/\r.length<=33*(f+1)/\ND e x' r s s' v)/\BW (env R) L 130 [.ptr e 0,x,y] s v s')
  {s0:AQ} (he:e<s0.bs.length) (hE0:s0.bs[e]?=some [BB true,BB false]) (hy0:EB lo s0.bs l y) {o:Option (List Br)} {QR:QT}
  (hQ:∀bs tk acc r x',jP o false x' r->r.length<=33*(f+2)->BI ⟨bs,tk⟩->bs.take s0.bs.length=s0.bs.set e [BB true,BB x']->s0.bs.length<=bs.length->EB s0.bs.length bs r acc->Cd (.AE []) (.AE []) s0.ts tk->QR acc ⟨bs,tk⟩) :
  ∀(j p:Nat) (out:List Br) (bs:List (List AV)) (tk:List (Nat×Nat)) (acc:AV),p+j=l.length->Iy (AU 32) (λc=>EL (AU 32) l f (Ct b k c)) (l.drop p) out=o->out.length<=32->BI ⟨bs,tk⟩->bs.take s0.bs.length=s0.bs.set e [BB true,BB false]->bs[s0.bs.length]?=some rb->s0.bs.length+1<=bs.length->EB (s0.bs.length+1) bs out acc->Cd (.AE []) (.AE []) s0.ts tk ->
   jQ R 0 0 0 (.ptr e 0) y (.ptr s0.bs.length 0) (AG k) acc (AG p) ⟨bs,tk⟩ QR:=by
 obtain⟨rb1,rb2,rb3⟩:=hrb.cells;intro j
 induction j with
 | zero=>
  intro p out bs tk acc hi D0 hout hs Nr gb hlen hacc hch;have gE:bs[e]?=some [BB true,BB false]:=CD Nr (by rw[CX he]);have hy:EB lo bs l y:=hy0.keep hE0 rfl Nr;refine jR (Aq (n:=l.length) hy.BA (Ao ?_));rw[Az AA];rw[CH AA,Iy] at D0;subst D0;exact B8 (B8 (B8 (B8 (B8 (pk (Ay (jS (hQ bs tk acc out false ⟨λh=>(by cases h),λ_=>⟨rfl,rfl⟩⟩ AA hs Nr AA (hacc.mono AA λj c _ h=>h) hch))))))))
 | succ j D1=>
  intro p out bs tk acc hi D0 hout hs Nr gb hlen hacc hch;have gE:bs[e]?=some [BB true,BB false]:=CD Nr (by rw[CX he]);have hy:EB lo bs l y:=hy0.keep hE0 rfl Nr;refine jR (Aq (n:=l.length) hy.BA (Ao ?_));rw[Ar AA];obtain⟨c,hc⟩:∃c,l[p]?=some c:=⟨_,Au AA⟩;have Kv:=A3 hc;obtain⟨xm,hcw⟩:=hl c Kv;rw[drop_cons hc,Iy] at D0;refine Ak (Ak (C1 (AX gE) (Ak (AO (AX gE) (Ak (AZ (off:=1) gE rfl (Ak (nt (pk (A9 (AJE (Ag gb rb1 (Oh hy hc λrc hrc=>?_)))))))))))))
  have hpos:0<(Ae b.body).count hole:=by
   have hfs:=Eh hk
   grind
  have m0:1*w<=(Ae b.body).count hole*w:=B5 _ hpos;have m3:1*W<=(Ae b.body).count hole*W:=B5 _ hpos;have hbc:((b.bounds.length+c.bounds.length:Nat):Int)<hole:=AA;have hh:(hole:Int)=1073741824:=rfl;obtain⟨g1,g2,g3,g4⟩:=Zk hb hk xm hbc;have el:(Ct b k c).bounds.length=b.bounds.length+c.bounds.length:=by simp[Ct]
  have m1:(Ae b.body).count hole*W=(Ae (Ct b k c).body).count hole*W+W:=by rw[<-g3,KI]
  have m2:(Ae b.body).count hole*w=(Ae (Ct b k c).body).count hole*w+w:=by rw[<-g3,KI]
  obtain⟨v1,s1,⟨KS,w1,w2,rfl⟩,w3⟩:=jO (R:=R) (k:=k) g4 AA (by have:=xm.L5; omega) (Oi (Nq AA) _ xm.ok) AA hrb hrc (s:=⟨bs,tk⟩) hs (L:=Ce (env R) 130 0 0 0) rfl rfl;refine⟨_,_,w3,?_⟩;have hs1:BI ⟨bs,KS⟩:=hs;obtain⟨v2,s2,⟨r,x',hE,hrl,hR⟩,w5⟩:=ih (Ct b k c) g1 AA AA AA v1 w1 ⟨bs,KS⟩ hs1 (Ce (env R) 130 0 0 0) rfl rfl AR gE hy;refine⟨_,_,w5,AI,?_⟩;obtain⟨b2,OZ⟩:=s2
  have Hh:b2.take s0.bs.length=s0.bs.set e [BB true,BB x']:=by
   have:=MC (n:=s0.bs.length) AA Nr hR.tk;rwa [IK] at this
  have mV:bs.length<=b2.length:=hR.len;have gb2:b2[s0.bs.length]?=some rb:=CD hR.tk AB;have KZ:EB (s0.bs.length+1) b2 out acc:=hacc.keep gE rfl hR.tk;have Ng:EB (s0.bs.length+1) b2 r v2:=hR.Qx.mono hlen λj c _ h=>h
  refine Zp KZ Ng rfl AA AB ?_;intro a' b3 q1 q2 q3 q4;have hs3:=q4 hR.ok
  have mW:∀j c,j<s0.bs.length+1->b2[j]?=some c->b3[j]?=some c:=by
   intro j c hj hjc;refine q2 j c (λn ha=>?_) hjc;rcases KZ with ⟨h1,_⟩|⟨id,rows,h1,h2,_⟩
   all_goals grind
  have QV:b3.take s0.bs.length=s0.bs.set e [BB true,BB x']:=by
   rw[<-Hh];refine Fm λj=>?_
   grind
  have SU:b3[e]?=some [BB true,BB x']:=CD QV (by rw[CX he]);have gb3:b3[s0.bs.length]?=some rb:=mW _ _ AA gb2;have OX:Cd (.AE []) (.AE []) s0.ts OZ:=(hch.trans w2).trans hR.Py;have mX:s0.bs.length+1<=b3.length:=AB;have hy3:EB lo b3 l y:=hy0.keep hE0 rfl QV;have MS:EB s0.bs.length b3 (out++r) a':=q1.mono AA λj c _ h=>h
  refine C1 (AX SU) (AO (AX SU) (AZ (off:=0) SU rfl (Ak (Ak (Aq (n:=(out++r).length) q1.BA (Ak (F8 (pk ?_))))))));have eb:decide (((out++r).length:Int)>32)=AU 32 (out++r).length:=AB;rw[eb]
  have xo:∀(b4:List (List AV)),BI ⟨b4,OZ⟩->b4.take s0.bs.length=s0.bs.set e [BB true,BB true]->s0.bs.length+1<=b4.length->EB s0.bs.length b4 (out++r) a'->o=none->xp R 0 0 0 (.ptr e 0) y (.ptr s0.bs.length 0) (AG k) a' (AG p) ⟨b4,OZ⟩ QR:=by
   intro b4 h1 h2 h3 h4 h5;refine jT (Ba AA AA ?_);have gE4:b4[e]?=some [BB true,BB true]:=CD h2 (by rw[CX he]);have:=mU (R:=R) (t4:=.ptr s0.bs.length 0) (t7:=AG k) (acc:=a') (p:=p+1) (s:=⟨b4,OZ⟩) (hy0.keep hE0 rfl h2) gE4 (hQ b4 OZ a' (out++r) true ⟨λ_=>rfl,λ_=>by rw[h5]⟩ AB h1 h2 AA h4 OX)
   grind
  have AQW:o=none\/(x'=false/\AU 32 (out++r).length=false/\Iy (AU 32) (λc=>EL (AU 32) l f (Ct b k c)) (l.drop (p+1)) (out++r)=o)\/(x'=false/\AU 32 (out++r).length=true/\o=none):=by
   have hE2:=hE.2 rfl
   grind
  cases MU:AU 32 (out++r).length with
  | true=>
   have ho:o=none:=AB;refine A9 (C1 (AX SU) (AO (AX SU) (C2 SU AD rfl (AN _) rfl (.inl (AN _)) ?_)));have e1:[BB true,BB x'].set (0+1) (BB true)=[BB true,BB true]:=rfl;rw[e1];refine xo _ (BI.set (s:=⟨b3,OZ⟩) hs3 rfl _) (by simp[*,EU]) AB (MS.keep SU rfl (d:=[BB true,BB true]) (by grind[List.take_of_length_le])) ho
  | false=>
   refine Ay ?_;rcases AQW with h|⟨rfl,h2,h3⟩|⟨_,h2,_⟩
   .cases x' with
    | true=>grind
    | false=>
     have hE2:=hE.2 rfl;cases hg:EL (AU 32) l f (Ct b k c) with
     | none=>rw[hg] at hE2; cases hE2
     | some m=>
      rw[hg] at D0 hE2;simp only at D0 hE2;obtain⟨rfl,_⟩:=hE2;rw[MU] at D0;simp only[AK] at D0;refine jT (Ba AA AA ?_);have:=D1 (p+1) (out++r) b3 OZ a' AA D0 (by simpa[AU] using MU) hs3 QV gb3 mX q1 OX;simpa using this
   .refine jT (Ba AA AA ?_)
    have:=D1 (p+1) (out++r) b3 OZ a' AA h3 (by simpa[AU] using h2) hs3 QV gb3 mX q1 OX;simpa using this
   .rw[MU] at h2; cases h2
end
section
variable {R:RT}
theorem OA {e:Nat} {s0:AQ} (hs0:BI s0) {bs:List (List AV)} {ts:List (Nat×Nat)} {l:List Br} {x:Bool} {v:AV} {Post:AV->AQ->Prop} (hT:bs.take s0.bs.length=s0.bs.set e [BB true,BB x]) (hb:EB s0.bs.length bs l v) (hch:Cd (.AE []) (.AE []) s0.ts ts) (hP:∀v' s',ND e x l s0 s' v'->Post v' s'):QM true s0.bs.length Post v ⟨bs,ts⟩:=by
 refine AJD (X:=s0.bs.set e [BB true,BB x]) AD ?_ hT hb λv' bs' h1 h2 h3 h4=>hP v' ⟨bs',ts⟩ ⟨h1,h2,h3,h4,hch⟩
 have:=BI.set hs0 (c:=[BB true,BB x]) rfl ts (j:=e);intro b hb';have h1:=this b hb'
 grind
theorem qo {e:Nat} {l:List Br} {W w S T:Nat} (hl:∀c∈l,L7 W c/\c.bounds.length<=w) (hT:(T:Int)<hole) (hS:S<2 ^ 37) (SN:l.length<2 ^ 30) {lo:Nat} {y:AV}:∀(f:Nat),f<=2 ^ 27->∀(b:Br),vP (SV b.bounds.length) b.body=true->(Ae b.body).count hole<=f->size b.body+(Ae b.body).count hole*W<=S->b.bounds.length+(Ae b.body).count hole*w<=T->∀x,CG b x->∀(exc:Bool) (s:AQ),BI s->∀L:BL,L.ro=0->L.rt=0->L.rr 130=true->s.bs[e]?=some [BB true,BB exc]->EB lo s.bs l y ->
  ∃v s',(∃r x',jP (EL (AU 32) l f b) exc x' r/\r.length<=33*(f+1)/\ND e x' r s s' v)/\BW (env R) L 130 [.ptr e 0,x,y] s v s':=by
 intro f
 induction f with
 | zero=>
  intro _ b hb hf hbS hbT x hx exc s hs L hro Ee sG hE hy;have le:=(BH.1 hE).1;have same:s.bs.set e [BB true,BB exc]=s.bs:=by grind[List.set_getElem_self]
  obtain⟨row,rfl⟩:=hx.agg;obtain⟨c1,c2,c3⟩:=hx.cells;refine AQX AR ?_;rw[hro,Ee,sG];have g0:=Ax s.bs row;refine xq (Bx (cs:=row) rfl c2 (Ag g0 c1 (AL (J3 AA hx) ?_)));rintro _ rfl;have hn:Fb b.body=none:=by grind[Fb]
  rw[Xs,hn];refine Ao (A9 (Ag g0 c1 (L9 hx ?_)));refine OA (x:=exc) (l:=[b]) hs AB (.inr ⟨_,[row],AD,rfl,AD,⟨hx,Ap⟩,AD⟩) (Cd.refl _ _) λv' s' h=>⟨[b],exc,⟨λh=>h,λh=>?_⟩,AD,h⟩
  grind[EL]
 | succ f ih=>
  intro hf20 b hb hf hbS hbT x hx exc s hs L hro Ee sG hE hy;have le:=(BH.1 hE).1;have same:s.bs.set e [BB true,BB exc]=s.bs:=by grind[List.set_getElem_self]
  obtain⟨row,rfl⟩:=hx.agg;obtain⟨c1,c2,c3⟩:=hx.cells;refine AQX AR ?_;rw[hro,Ee,sG];have g0:=Ax s.bs row;refine xq (Bx (cs:=row) rfl c2 (Ag g0 c1 (AL (J3 AA hx) ?_)));rintro _ rfl;rw[Xs];have WM:(s.bs++[row]).take s.bs.length=s.bs.set e [BB true,BB exc]:=AB;cases hk:Fb b.body with
  | none=>
   refine Ao (A9 (Ag g0 c1 (L9 hx ?_)));refine OA (x:=exc) (l:=[b]) hs AB (.inr ⟨_,[row],AD,rfl,AD,⟨hx,Ap⟩,AD⟩) (Cd.refl _ _) λv' s' h=>⟨[b],exc,⟨λh=>h,λh=>?_⟩,AB,h⟩
   grind[EL]
  | some k=>
   simp only;refine Ao ?_;rw[Az AA];refine Ay (AJG ?_);have hs1:BI ⟨s.bs++[row],s.ts⟩:=BI.app (s:=s) hs (c3 _);cases exc with
   | true=>
    have gE:=Ai hE row
    have:=mU (R:=R) (t4:=.ptr s.bs.length 0) (t7:=AG k) (acc:=.AE []) (p:=0) (s:=⟨s.bs++[row],s.ts⟩) (QR:=QM true s.bs.length (λv s'=>∃r x',jP (EL (AU 32) l (f+1) b) true x' r/\r.length<=33*(f+1+1)/\ND e x' r s s' v)) (hy.mono (AY _) λj c _ h=>Ai h _) gE
     (OA (x:=true) (l:=[]) hs WM (.inl ⟨rfl,rfl⟩) (Cd.refl _ _) λv' s' h=>⟨[],true,⟨λ_=>rfl,λh=>(by cases h)⟩,AD,h⟩)
    omega
   | false=>
    have:=ABk (R:=R) (f:=f) (k:=k) (o:=EL (AU 32) l (f+1) b) (QR:=QM true s.bs.length (λv s'=>∃r x',jP (EL (AU 32) l (f+1) b) false x' r/\r.length<=33*(f+1+1)/\ND e x' r s s' v)) hl hT hS hb hk hf hbS hbT AA SN hx (λb' h1 h2 h3 h4 x hx s hs L q1 q2 q3 q4 q5=>ih AA b' h1 h2 h3 h4 x hx false s hs L q1 q2 q3 q4 q5) le hE hy
     (λbs tk acc r x' h1 h2 h3 h4 h5 h6 h7=>OA hs h4 h6 h7 λv' s' h=>⟨r,x',h1,h2,h⟩) l.length 0 [] (s.bs++[row]) s.ts (.AE []) AA (by grind[EL]) AD hs1 WM g0 AD (.inl ⟨rfl,rfl⟩) (Cd.refl _ _)
    omega
theorem Jr {e:Nat} {l:List Br} {y:AV} {exc:Bool} {s:AQ} (hs:BI s) (hE:s.bs[e]?=some [BB true,BB exc]) (hy:EB 0 s.bs l y) {L:BL} (hro:L.ro=0) (Ee:L.rt=0) :
  ∃v s',(v=(bif exc||AU 32 l.length then .AE [] else y)/\s'=⟨s.bs.set e [BB true,BB (exc||AU 32 l.length)],s.ts⟩)/\BW (env R) L 99 [.ptr e 0,y] s v s':=by
 have le:=(BH.1 hE).1;refine m99 AR ?_;rw[hro,Ee];refine AQY (C1 (AX hE) (AO (AX hE) (AZ (off:=0) hE rfl (Ak (Ak (Aq (n:=l.length) hy.BA (Ak (F8 (pk ?_)))))))));have eb:decide ((l.length:Int)>32)=AU 32 l.length:=AB;rw[eb]
 have nil:∀(x:Bool) (bs:List (List AV)),x=(exc||AU 32 l.length)->x=true->bs=s.bs.set e [BB true,BB x]->AEI R 0 0 0 (.ptr e 0) y ⟨bs,s.ts⟩ (QM (L.rr 99) s.bs.length λv s'=>v=(bif exc||AU 32 l.length then .AE [] else y)/\s'=⟨s.bs.set e [BB true,BB (exc||AU 32 l.length)],s.ts⟩):=by
  rintro x bs h1 rfl rfl;have gE:(s.bs.set e [BB true,BB true])[e]?=some [BB true,BB true]:=by rw[CX le]
  refine AEJ (C1 (AX gE) (AO (AX gE) (AZ (off:=1) gE rfl (A9 ?_))));have hok:=BI.set hs (c:=[BB true,BB true]) rfl s.ts (j:=e);have etk:(s.bs.set e [BB true,BB true]).take s.bs.length=s.bs.set e [BB true,BB true]:=CU AD;refine⟨.AE [],⟨s.bs.set e [BB true,BB true],s.ts⟩,?_,AB,by rw[<-h1]⟩;unfold Hs
  have hall:(((s.bs.set e [BB true,BB true]).take s.bs.length).all (Ah s.bs.length))=true:=by
   rw[etk,C3];intro b hb;have:=hok b hb
   grind
  grind[Hz,Tel.close]
 cases M3:AU 32 l.length with
 | true=>
  refine A9 (C1 (AX hE) (AO (AX hE) (C2 hE AD rfl (AN _) rfl (.inl (AN _)) ?_)))
  grind
 | false=>
  rw[M3] at nil;refine Ay ?_;cases exc with
  | true=>exact nil true _ rfl rfl (by grind[List.set_getElem_self])
  | false=>
   have same:s.bs.set e [BB true,BB false]=s.bs:=by grind[List.set_getElem_self]
   refine AEJ (C1 (AX hE) (AO (AX hE) (AZ (off:=1) hE rfl (Ay (AQa ?_)))));have etk:s.bs.take s.bs.length=s.bs:=NK
   have hall:((s.bs.take s.bs.length).all (Ah s.bs.length))=true:=by
    rw[etk,C3];exact hs
   refine⟨y,⟨s.bs,s.ts⟩,?_,rfl,AB⟩;unfold Hs;rw[etk] at hall;simp only[etk,hall,AM];rcases hy with ⟨rfl,_⟩|⟨id,rows,h1,rfl,h2,h3,h4⟩
   all_goals grind[Hz,Nat.le_of_ble_eq_true,Tel.close]
end
theorem Zq {L:BL} {s:AQ} {id:Nat} {a:AV} {old cs:List AV} {K:AQ->Prop} (hb:s.bs[id]?=some (a::old)) (ho:old.length=4) (hk:cs.length=4) (hro:L.ro<=id) (hok:cs.all BD=true) (hn:L.n0<=id) (h:K ⟨s.bs.set id (a::cs),s.ts⟩):IM L s 4 (.ptr id (0+1)) (.agg cs) K:=by
 have hce:cellsOf (.agg cs)=cs:=rfl;simp only[IM,hb,wO,hce];refine⟨⟨hk,AB,hro,hok,.inl hn,AA⟩,?_⟩
 match old,ho,cs,hk with
 | [o1,o2,o3,o4],_,[c1,c2,c3,c4],_=>exact h
def oX (exc:Bool) (o:Option (List Br)):Option (List Br):=bif exc then none else o
def ABl (R:RT) (e:Nat) (t:Ty) (o:Option (List Br)):Prop:=∀x,BP t x->∀(exc:Bool) (s:AQ),BI s->∀L:BL,L.ro=0->L.rt=0->L.rr 49=true->s.bs[e]?=some [BB true,BB exc] ->
 ∃v s',ND e (oX exc o).isNone ((oX exc o).getD []) s s' v/\BW (env R) L 49 [.ptr e 0,x] s v s'
section
variable {R:RT}
theorem WN {e:Nat} {o:Option (List Br)} {b:Br} {EE:Ty} {Wb W w T C:Nat} (hb:L7 Wb b) (hC:(Ae b.body).length<=C) (hl:∀l,o=some l->(∀c∈l,L7 W c/\c.bounds.length<=w)/\l.length<=32) (hT:(T:Int)<hole) (hbT:b.bounds.length+(Ae b.body).length*w<=T) (hS:Wb+C*W<2 ^ 37) (hWb:Wb<=2 ^ 27) (AJH:ABl R e EE o) {x y:AV} (hx:CG b x) (hy:BP EE y) {exc:Bool} {s:AQ} (hs:BI s) {L:BL} (hro:L.ro=0) (Ee:L.rt=0) (sG:L.rr 100=true) (hE:s.bs[e]?=some [BB true,BB exc]) :
  ∃v s',(∃r x',jP (E3 (AU 32) o EE b) exc x' r/\r.length<=33*(2 ^ 27+1)/\ND e x' r s s' v)/\BW (env R) L 100 [.ptr e 0,x,y] s v s':=by
 have hh:(hole:Int)=1073741824:=rfl;have hsiz:=hb.L5;have hcs:=Ea b.body;have aO:((b.bounds.length:Nat):Int)<hole:=AA;obtain⟨b1,b2,b3⟩:=AIC hb aO;obtain⟨r1,r2⟩:=AID b1 aO;have le:=(BH.1 hE).1;have same:s.bs.set e [BB true,BB exc]=s.bs:=by grind[List.set_getElem_self]
 obtain⟨row,rfl⟩:=hx.agg;obtain⟨c1,c2,c3⟩:=hx.cells;obtain⟨yr,rfl⟩:=hy.agg;obtain⟨y1,y2,y3⟩:=hy.cells;obtain⟨xa,xb,hxe,Up,hxb⟩:=id hx;cases hxe;obtain⟨d1,d2,d3⟩:=hxb.cells;refine AZD AR ?_;rw[hro,Ee,sG];refine AJI (Bx (cs:=xa::xb) rfl c2 (Bx (cs:=yr) rfl y2 ?_));simp only[Du,DH,Cm,Bd,Bt,Bz,CQ,Nat.reduceAdd];have g0:(s.bs++[xa::xb,yr])[s.bs.length]?=some (xa::xb):=El (j:=0) rfl rfl;have g1:(s.bs++[xa::xb,yr])[s.bs.length+1]?=some yr:=El rfl rfl;have WM:(s.bs++[xa::xb,yr]).take s.bs.length=s.bs.set e [BB true,BB exc]:=AB;have hl0:(s.bs++[xa::xb,yr]).length=s.bs.length+2:=AD
 have hok:BI ⟨s.bs++[xa::xb,yr],s.ts⟩:=by
  intro d hd;simp only[B4,A5,Ep,Er] at hd
  show Ah (s.bs++_).length d=true
  rcases hd with hd|rfl|rfl
  .exact Bp AD d (hs d hd)
  all_goals grind
 generalize s.bs++[xa::xb,yr]=bs at g0 g1 WM hl0 hok;refine AO (AX g0) (AZ (off:=0) g0 rfl (Aq (n:=b.bounds.length) (by rw[Up.BA,Aa]) (AO (AX g0) (QC g0 d1 (AL (jN (R:=R) b.bounds.length (t:=b.body) AA (Oi (Nq AA) _ hb.ok) hxb) ?_)))));intro vb KA;obtain⟨rb,rfl⟩:=KA.Fj.agg;obtain⟨e1,e2,e3⟩:=KA.Fj.cells;refine Bj (Bq (Ax bs Z4) e1 rfl AI (AN _) e2 (.inl (AN _)) ?_);have es:(bs++[Z4]).set bs.length rb=bs++[rb]:=AD
 show D5 _ ⟨(bs++[Z4]).set bs.length rb,s.ts⟩ _ _ _
 rw[es];have g2:=Ax bs rb;have sP:=Ai g0 rb;have g1':=Ai g1 rb;have AQb:BI ⟨bs++[rb],s.ts⟩:=BI.app (s:=⟨bs,s.ts⟩) hok (e3 _);have Ny:(bs++[rb]).take s.bs.length=s.bs.set e [BB true,BB exc]:=(DI AA rb).trans WM;have fN:(bs++[rb]).length=s.bs.length+3:=AB;rw[hl0] at g2 ⊢;generalize bs++[rb]=qV at g2 sP g1' AQb Ny fN;have gE:qV[e]?=some [BB true,BB exc]:=CD Ny (by rw[CX le]);refine Ag g2 e1 (AL (xl (R:=R) b.bounds.length (t:=Hq b.bounds.length b.body) AA KA.Fj) ?_);rintro _ rfl
 have q0:E3 (AU 32) o EE b=bif oI (·==(b.bounds.length:Int)) (Hq b.bounds.length b.body) then some [⟨b.bounds++[EE],Hq b.bounds.length b.body⟩]
   else match Fb (I5 b.bounds.length hole (Hq b.bounds.length b.body)) with
    | none=>some [⟨b.bounds,I5 b.bounds.length hole (Hq b.bounds.length b.body)⟩]
    | some _=>match o with
     | none=>none
     | some l=>EL (AU 32) l (Ae b.body).length ⟨b.bounds,I5 b.bounds.length hole (Hq b.bounds.length b.body)⟩:=AR
 have one:∀(c:Br) (rc:List AV) (bs2:List (List AV)) (I6:List (Nat×Nat)),CG c (.agg rc)->E3 (AU 32) o EE b=some [c]->bs2.take s.bs.length=s.bs.set e [BB true,BB exc]->s.bs.length<=bs2.length->Cd (.AE []) (.AE []) s.ts I6 ->
   QM true s.bs.length (λv s'=>∃r x',jP (E3 (AU 32) o EE b) exc x' r/\r.length<=33*(2 ^ 27+1)/\ND e x' r s s' v) (.ref bs2.length 0 1 5) ⟨bs2++[rc],I6⟩:=by
  intro c rc bs2 I6 h1 h2 h3 h4 h5;refine OA (x:=exc) (l:=[c]) hs ((DI h4 rc).trans h3) (.inr ⟨_,[rc],h4,rfl,AD,⟨h1,Ap⟩,AD⟩) h5 λv' s' h=>⟨[c],exc,⟨λh=>h,λh=>?_⟩,AD,h⟩
  grind
 cases ho:oI (·==(b.bounds.length:Int)) (Hq b.bounds.length b.body) with
 | true=>
  rw[ho] at q0;simp only[AM] at q0;refine A9 (ABi (AO (AX sP) (AZ (off:=0) sP rfl ⟨AI,FB (es:=[]) (l:=b.bounds) (.inl rfl) rfl AB Up λa10 KS w1 w2=>?_⟩)));rw[Cm] at w1;refine Ag g1' y1 (E9 hy ⟨AI,JS w1 rfl AA λsH I6 v1 v2=>?_⟩);have D4:CG ⟨b.bounds++[EE],Hq b.bounds.length b.body⟩ (.agg (sH::rb)):=⟨sH,rb,rfl,v1.A1,KA.Fj⟩;refine Ag g2 e1 (Hg (xk v1.A1.ok v1.A1.cells KA.Fj) (L9 D4 ⟨Ag g1' y1 (MA hy),Ag g2 e1 (MA KA.Fj),Ag g2 e1 (MA KA.Fj),?_⟩));exact one _ _ qV I6 D4 q0 Ny AA ((Cd.refl (.AE []) s.ts).side w2 (DS.AE _ _) |>.side v2 w2.Uo)
 | false=>
  rw[ho] at q0;simp only[AK] at q0;refine Ay (AJJ (Ag g2 e1 (AL (MB (R:=R) b.bounds.length hole (t:=Hq b.bounds.length b.body) AA (Oi (Nq AA) _ b1) KA.Fj) ?_)));intro vr hvr;obtain⟨rr,rfl⟩:=hvr.Fj.agg;obtain⟨f1,f2,f3⟩:=hvr.Fj.cells;refine AO (AX sP) (Zq sP d1 f1 (AN _) f2 (AN _) ?_);have D4:CG ⟨b.bounds,I5 b.bounds.length hole (Hq b.bounds.length b.body)⟩ (.agg (xa::rr)):=⟨xa,rr,rfl,Up,hvr.Fj⟩;obtain⟨k1,k2,k3⟩:=D4.cells;have gb:(qV.set s.bs.length (xa::rr))[s.bs.length]?=some (xa::rr):=BZ sP;have gy:(qV.set s.bs.length (xa::rr))[s.bs.length+1]?=some yr:=BQ g1' AA;have Hh:(qV.set s.bs.length (xa::rr)).take s.bs.length=s.bs.set e [BB true,BB exc]:=(Cj (AY _)).trans Ny;have Zd:BI ⟨qV.set s.bs.length (xa::rr),s.ts⟩:=BI.set (s:=⟨qV,s.ts⟩) AQb (k3 _) _;have Sr:(qV.set s.bs.length (xa::rr)).length=s.bs.length+3:=AB;generalize qV.set s.bs.length (xa::rr)=bs2 at gb gy Hh Zd Sr;have sL:bs2[e]?=some [BB true,BB exc]:=CD Hh (by rw[CX le]);refine Ag gb k1 (AL (J3 AB D4) ?_);rintro _ rfl;rw[Xs];simp only;cases hk:Fb (I5 b.bounds.length hole (Hq b.bounds.length b.body)) with
  | none=>
   grind[Ao,A9,Ag,L9,Cd.refl]
  | some k=>
   rw[hk] at q0;simp only at q0 ⊢;refine Ao ?_;rw[Az AA];refine Ay (AJK (Ag gb k1 (Ag gy y1 ?_)));obtain⟨v1,s1,hR1,Ma⟩:=AJH (.agg yr) hy exc ⟨bs2,s.ts⟩ Zd (Ce (env R) 100 0 0 0) rfl rfl AR sL;refine⟨_,_,Ma,?_⟩;obtain⟨bs3,Nl⟩:=s1;have kN:bs2.length<=bs3.length:=hR1.len;have gb3:bs3[s.bs.length]?=some (xa::rr):=CD hR1.tk AB;have SU:bs3[e]?=some [BB true,BB (oX exc o).isNone]:=CD hR1.tk (by rw[CX AB]);have Ff:(Ae (I5 b.bounds.length hole (Hq b.bounds.length b.body))).length=(Ae b.body).length:=by simp[*,Jv,Dp,Km]
   have M1:(Ae (I5 b.bounds.length hole (Hq b.bounds.length b.body))).count hole<=(Ae b.body).length:=AB
   have hl':∀c∈(oX exc o).getD [],L7 W c/\c.bounds.length<=w:=by
    intro c hc;cases exc with
    | true=>cases hc
    | false=>
     cases ho':o with
     | none=>rw[ho'] at hc; cases hc
     | some l=>rw[ho'] at hc; exact(hl l ho').1 c hc
   have SN:((oX exc o).getD []).length<2 ^ 30:=by grind[oX]
   obtain⟨v2,s2,⟨r,x',hEO,hrl,hR2⟩,QO⟩:=qo (R:=R) (T:=T) (S:=Wb+C*W) hl' hT hS SN (Ae b.body).length AA ⟨b.bounds,I5 b.bounds.length hole (Hq b.bounds.length b.body)⟩ r1 M1 (by
    have m1:(Ae (I5 b.bounds.length hole (Hq b.bounds.length b.body))).count hole*W<=C*W:=B5 _ AA
    grind) (by
    have m1:(Ae (I5 b.bounds.length hole (Hq b.bounds.length b.body))).count hole*w<=(Ae b.body).length*w:=B5 _ M1
    grind) (.agg (xa::rr)) D4 (oX exc o).isNone ⟨bs3,Nl⟩ hR1.ok (Ce (env R) 100 0 0 0) rfl rfl AR SU hR1.Qx
   refine⟨_,_,QO,Ag gb3 k1 ?_,?_⟩
   .simp[Tel.Dg,JG]
    exact⟨BE.Dg Up,by have:=MA hvr.Fj; assumption⟩
   .obtain⟨bs4,sO⟩:=s2
    have sK:bs4.take s.bs.length=s.bs.set e [BB true,BB x']:=by
     have h1:=MC (n:=s.bs.length) AA Hh hR1.tk;rw[IK] at h1;have h2:=MC (n:=s.bs.length) AB h1 hR2.tk;rwa [IK] at h2
    refine OA (x:=x') (l:=r) hs sK (hR2.Qx.mono AB λj c _ h=>h) (hR1.Py.trans hR2.Py) λv' s' h=>⟨r,x',⟨λhe=>?_,λhe=>?_⟩,AA,h⟩
    .subst he
     exact hEO.1 rfl
    .subst he
     rw[q0];cases ho':o with
     | none=>
      subst ho';exact hEO.1 rfl
     | some l=>
      subst ho';exact hEO.2 rfl
end
def Hv (ls:List (List Br)):List (List PV):=ls.map λl=>[.list (l.map Di)]
theorem LS (ls:List (List Br)):(Hv ls).length=ls.length:=by simp[Hv]
theorem LU (b:Br):(Di b).length=5:=by simp[Di,Al]
theorem qp {a b:List AV} {p q:List PV} (ha:Cp a=some p) (hb:Cp b=some q):Cp (a++b)=some (p++q):=by
 induction a generalizing p with
 | nil=>
  grind[Cp]
 | cons x a ih=>
  grind[Cp]
theorem CG.Cp {b:Br} {row:List AV} (h:CG b (.agg row)):Cp row=some (Di b):=by
 obtain⟨a,y,he,ha,ht⟩:=h;cases he;rcases hb:b.body with ⟨k,n,i,ts⟩
 rw[hb] at ht;obtain⟨a2,hy,SH⟩:=ht;cases hy
 have h1:Tel.Cp [a,AG k,SS n,AG i,a2]=some [.list (Ad b.bounds),.sc (.int .i64 k),.sc (.string ⟨n.toArray⟩),.sc (.int .i64 i),.list (Ad ts)]:=by
  simp only[Tel.Cp,ha.KB,SH.KB];rfl
 grind[Di,Aj]
theorem VF {l:List Br} {rows:List (List AV)} (h:CB (λb row=>CG b (.agg row)) l rows):Cp rows.flatten=some ((l.map Di).flatten):=by
 induction l generalizing rows with
 | nil=>
  cases rows with
  | nil=>rfl
  | cons _ _=>exact h.elim
 | cons b l ih=>
  cases rows with
  | nil=>exact h.elim
  | cons row rows=>
   rw[NM,CO,NM];exact qp h.1.Cp (ih h.2)
theorem AQc {a:AV} (ha:BD a=true) (hc:cellsOf a=[a]):Eo Z4 [(0,1,AG 3),(3,1,a)]=some [AG 3,SS [],AG 0,a]:=by simp_all[cellsOf,BD,Eo,setCells]
theorem AEK {E:Env} {s:AQ} {c:Br} {K:AV->Prop} (h:K (.agg ((Aj c.body).map .pv))):D5 E s (some 4) (.Cw (Di c) (0+1)) K:=by
 simp only[D5,DF];refine⟨by simp[Di,Al],?_⟩
 have e:(((Di c).map AV.pv).drop (0+1)).take 4=(Aj c.body).map .pv:=by
  simp only[Di,CO,CQ,List.drop_succ_cons,JC];exact CU (by simp[Al])
 rw[e];exact h
theorem AEL {E:Env} {s:AQ} {c:Br} {K:AV->Prop} (h:K (.pv (.list (Ad c.bounds)))):D5 E s none (.Cw (Di c) (0+0)) K:=h
theorem mY {s:AQ} {r:List PV} {off d:Nat} {K:AV->Prop} (h:K (.Cw r (off+d))):E2 s (.Cw r off) d K:=h
theorem QD (r:Br) (n:Nat):Tel.Dg (.Cw (Di r) n) (.Cw (Di r) n)=true:=by simp[*,Mg,Di,NZ,DR,PX,Tel.Dg]
theorem NF:∀l:List Br,I1 (l.map Di) (l.map Di)=true
 | []=>rfl
 | b::l=>by
  have:Mg (Di b) (Di b)=true:=by grind[Di,Mg,NZ,DR,PX]
  simp[I1,this,NF l]
theorem Xt (l:List Br):Tel.Dg (.pv (.list (l.map Di))) (.pv (.list (l.map Di)))=true:=by
 simp[Tel.Dg,NZ,NF]
theorem Xu (l:List Br):Tel.Dg (.Cw [.list (l.map Di)] 0) (.Cw [.list (l.map Di)] 0)=true:=by
 simp[Tel.Dg,Mg,NZ,NF]
section
variable {R:RT}
theorem ABn {T:Nat} {e:Nat} {ls:List (List Br)} {i k j:Nat} {l outs next:List Br} {b c:Br} {args:List Ty} {W S:Nat} {t5 t9 t11:AV} (h5:BE t5 (Hv ls)) (hi:ls[i]?=some l) (hj:l[j]?=some c) (hk:outs[k]?=some b) (hb:L7 S b) (hbe:b.body=.mk 3 [] 0 args) (hc:L7 W c) (qP:b.bounds.length+c.bounds.length<=T) (hT:(T:Int)<hole) (hS:S<2 ^ 36) (hW:W<2 ^ 36) (Mi:next.length<2 ^ 20)
  {N:Nat} {bs:List (List AV)} {tk:List (Nat×Nat)} (hN:N<=bs.length) (hs:BI ⟨bs,tk⟩) (h9:EB 0 bs outs t9) (h11:EB N bs next t11) {QR:QT}
  (hQ:∀a' bs' GH,EB N bs' (next++[⟨b.bounds++c.bounds,.mk 3 [] 0 (args++[G0 b.bounds.length c.body])⟩]) a'->BI ⟨bs',GH⟩->bs'.take N=bs.take N->N<=bs'.length->Cd (.AE []) (.AE []) tk GH->xu R 0 0 0 (.ptr e 0) t5 t9 (AG i) a' (AG k) (AG j) ⟨bs',GH⟩ QR) :
  xw R 0 0 0 (.ptr e 0) t5 t9 (AG i) t11 (AG k) (AG j) ⟨bs,tk⟩ QR:=by
 have hh:(hole:Int)=1073741824:=rfl;have aO:=hb.L5;rw[hbe] at aO;simp only[size] at aO;have hargs:=BV args;have rE:(Hv ls)[i]?=some [.list (l.map Di)]:=by grind[Hv]
 have rB:(l.map Di)[j]?=some (Di c):=AB;have eix:∀n:Nat,(AG ((n:Nat):Int))=AG n:=λ_=>rfl
 have jU:∀(s:AQ) (K:AV->Prop),K (.Cw [.list (l.map Di)] 0)->NC s 1 t5 (AG i) K:=λs K h=>BS h5 (row:=[.list (l.map Di)]) AA AB rfl AA h
 have ABo:∀(s:AQ) (K:AV->Prop),K (.Cw (Di c) 0)->NC s 5 (.pv (.list (l.map Di))) (AG j) K:=λs K h=>BM (.list _) (row:=Di c) AA AB (LU c) AA h
 refine AJL (Oh h9 hk λrb hrb=>?_);obtain⟨c1,c2,c3⟩:=hrb.cells;obtain⟨xa,xb,hxe,Up,hxb⟩:=id hrb;cases hxe;rw[hbe] at hxb;obtain⟨xg,hxg,AZG⟩:=hxb;cases hxg;refine Bj (QA (Ax bs Z5) c1 (AN _) c2 (AN _) ?_);have es:(bs++[Z5]).set bs.length (xa::[AG 3,SS [],AG 0,xg])=bs++[xa::[AG 3,SS [],AG 0,xg]]:=AD;simp only;rw[es];have hlA:(bs++[xa::[AG 3,SS [],AG 0,xg]]).length=bs.length+1:=AD;have hs1:BI ⟨bs++[xa::[AG 3,SS [],AG 0,xg]]++[Z4],tk⟩:=BI.app (s:=⟨bs++[xa::[AG 3,SS [],AG 0,xg]],tk⟩) (BI.app (s:=⟨bs,tk⟩) hs (c3 _)) rfl;have gA:(bs++[xa::[AG 3,SS [],AG 0,xg]]++[Z4])[bs.length]?=some (xa::[AG 3,SS [],AG 0,xg]):=Ai (Ax bs _) _;have gX:(bs++[xa::[AG 3,SS [],AG 0,xg]]++[Z4])[bs.length+1]?=some Z4:=AD;have Sr:(bs++[xa::[AG 3,SS [],AG 0,xg]]++[Z4]).length=bs.length+2:=AD
 have Hh:(bs++[xa::[AG 3,SS [],AG 0,xg]]++[Z4]).take N=bs.take N:=by
  rw[DI AA,DI hN]
 have AQd:EB N (bs++[xa::[AG 3,SS [],AG 0,xg]]++[Z4]) next t11:=h11.mono (AY _) λj c _ h=>Ai (Ai h _) _
 rw[hlA];generalize bs++[xa::[AG 3,SS [],AG 0,xg]]++[Z4]=b2 at hs1 gA gX Sr Hh AQd;have fA:∀(ts:List (Nat×Nat)) d,E2 ⟨b2,ts⟩ (.ptr bs.length 0) d λv=>Tel.Dg v (.ptr bs.length (0+d))=true:=λts d=>AO (AX gA) (EA _ _)
 refine ABi (AO (AX gA) (AO (AX gA) (AZ (off:=4) gA rfl ⟨AI,FB (es:=[]) (l:=args) (.inl rfl) rfl AB AZG λa73 KS w1 w2=>?_⟩)));rw[Cm] at w1;have hlen:∀(s:AQ) (K:AV->Prop),K (AG b.bounds.length)->HI s xa K:=λs K h=>Aq (n:=b.bounds.length) (by rw[Up.BA,Aa]) h
 refine jU _ _ (Dy (ABo _ _ (mY (AEK (AO (AX gA) (AZ (off:=0) gA rfl (hlen _ _ (AL (Og (R:=R) (n:=b.bounds.length) AA c.body (by have:=hc.L5; omega) (Oi (Nq AA) _ hc.ok) _ (A7.Bi c.body)) ?_))))))));intro sv hsv;refine E9 hsv.Fj ⟨AI,JS w1 rfl AA λa87 I6 v1 v2=>?_⟩;have hx4:BP (.mk 3 [] 0 (args++[G0 b.bounds.length c.body])) (.agg [AG 3,SS [],AG 0,a87]):=⟨a87,rfl,v1.A1⟩;obtain⟨k1,k2,k3⟩:=hx4.cells;refine Hg (cs:=[AG 3,SS [],AG 0,a87]) (AQc v1.A1.ok v1.A1.cells) (Bq (s:=⟨b2,I6⟩) gX k1 rfl AI (AN _) k2 (.inl (AN _)) ?_);have eqn:∀n:Int,Tel.Dg (AG n) (AG n)=true:=λn=>by simp[Tel.Dg,NZ,FQ]
 have eqz:∀ts:List (Nat×Nat),(wO (KC (.ptr (bs.length+1) 0)) λid=>wO (AQ.mk b2 ts).bs[id]? λcs'=>JG cs' [(AG 0),(SS []),(AG 0),(.AE [])]=true):=by
  intro ts
  show(wO (AQ.mk b2 ts).bs[bs.length+1]? λcs'=>JG cs' [(AG 0),(SS []),(AG 0),(.AE [])]=true)
  simp only[gX,wO];rfl
 refine⟨jU _ _ (Xu l),Dy (Xt l),ABo _ _ (QD c 0),mY (QD c _),AEK (M7 _),fA _ 0,AZ (off:=0) gA rfl (BE.Dg Up),hlen _ _ (eqn _),eqz tk,eqz KS,eqz KS,eqz I6,?_⟩;have gA3:(b2.set (bs.length+1) [AG 3,SS [],AG 0,a87])[bs.length]?=some (xa::[AG 3,SS [],AG 0,xg]):=BQ gA AA;have gX3:(b2.set (bs.length+1) [AG 3,SS [],AG 0,a87])[bs.length+1]?=some [AG 3,SS [],AG 0,a87]:=BZ gX;have hs3:BI ⟨b2.set (bs.length+1) [AG 3,SS [],AG 0,a87],I6⟩:=BI.set (s:=⟨b2,I6⟩) hs1 (k3 _) _;have QV:(b2.set (bs.length+1) [AG 3,SS [],AG 0,a87]).take N=bs.take N:=by grind[Cj]
 have AQe:EB N (b2.set (bs.length+1) [AG 3,SS [],AG 0,a87]) next t11:=by
  rcases AQd with h|⟨id,rows,q1,q2,q3,q4,q5⟩
  .exact .inl h
  .refine .inr ⟨id,rows,q1,q2,?_,q4,q5⟩
   grind[ID,List.getElem?_set_ne]
 have kN:(b2.set (bs.length+1) [AG 3,SS [],AG 0,a87]).length=bs.length+2:=AB;generalize b2.set (bs.length+1) [AG 3,SS [],AG 0,a87]=b3 at gA3 gX3 hs3 QV AQe kN;refine ABi (AO (AX gA3) (AZ (off:=0) gA3 rfl ⟨AI,FB (es:=[]) (l:=b.bounds) (.inl rfl) rfl AB Up λa93 Nl x1 x2=>?_⟩));rw[Cm] at x1;refine jU _ _ (Dy (ABo _ _ (mY (AEL ⟨AI,FB x1 rfl AA (.inl (.list _)) λqq sO y1 y2=>?_⟩))));have D4:CG ⟨b.bounds++c.bounds,.mk 3 [] 0 (args++[G0 b.bounds.length c.body])⟩ (.agg (qq::[AG 3,SS [],AG 0,a87])):=⟨qq,_,rfl,y1.A1,hx4⟩;obtain⟨z1,z2,z3⟩:=D4.cells;refine Ag gX3 k1 (Hg (xk y1.A1.ok y1.A1.cells hx4) (L9 D4 ⟨AI,?_⟩));have hs4:BI ⟨b3++[qq::[AG 3,SS [],AG 0,a87]],sO⟩:=BI.app (s:=⟨b3,sO⟩) hs3 (z3 _);have AQf:EB N (b3++[qq::[AG 3,SS [],AG 0,a87]]) next t11:=AQe.mono (AY _) λj c _ h=>Ai h _
 refine jJ (s:=⟨b3++[qq::[AG 3,SS [],AG 0,a87]],sO⟩) D4 (Ax b3 _) AQf rfl AA ?_ AB;intro a' bs' n1 n2 n3 n4 _;refine⟨jU _ _ (Xu l),Dy (Xt l),ABo _ _ (QD c 0),mY (QD c _),AEL (by simp[Tel.Dg,NZ,DR]),Ag gX3 k1 (MA hx4),Ag gX3 k1 (MA hx4),?_⟩;refine hQ a' bs' sO n1 (n4 hs4) ?_ AA ?_
 .rw[<-QV]
  refine Fm λj=>?_
  by_cases hj:j<N
  .rw[KJ hj,KJ hj]
   have hj3:j<b3.length:=AA;have h1:(b3++[qq::[AG 3,SS [],AG 0,a87]])[j]?=some b3[j]:=by rw[CT hj3,Au hj3]
   rw[n2 j _ (λm h=>by
    rcases AQf with ⟨h2,_⟩|⟨id,rows,h2,h3,_⟩
    all_goals grind) h1,Au hj3]
  grind
 .exact((((Cd.refl (.AE []) tk).side w2 (DS.AE _ _)).side v2 w2.Uo).trans ((Cd.refl (.AE []) I6).side x2 (DS.AE _ _) |>.side y2 x2.Uo))
end
def prB (b c:Br):Br:=⟨b.bounds++c.bounds,match b.body with
 | .mk _ _ _ args=>.mk 3 [] 0 (args++[G0 b.bounds.length c.body])⟩
theorem VG (out l:List Br):HC out l=out.flatMap λb=>l.map (prB b):=rfl
theorem xx {b c:Br} {args:List Ty} (h:b.body=.mk 3 [] 0 args):prB b c=⟨b.bounds++c.bounds,.mk 3 [] 0 (args++[G0 b.bounds.length c.body])⟩:=by
 rw[prB,h]
theorem EB.Zr {lo N:Nat} {bs X:List (List AV)} {l:List Br} {a:AV} (h:EB lo X l a) (hT:bs.take N=X):EB lo bs l a:=
 h.mono (AY _) λ_ _ _ hj=>CD hT hj
section
variable {R:RT}
structure TpG (S N:Nat) (b:Br):Prop where
 g:L7 S b
 n:b.bounds.length<=N
 t:∃args,b.body=.mk 3 [] 0 args
theorem xy {T e:Nat} {ls:List (List Br)} {i k:Nat} {l outs:List Br} {b:Br} {W S N w:Nat} {t5 t9:AV} (h5:BE t5 (Hv ls)) (hi:ls[i]?=some l) (hk:outs[k]?=some b) (hb:TpG S N b) (hl:∀c∈l,L7 W c/\c.bounds.length<=w) (qP:N+w<=T) (hT:(T:Int)<hole) (hS:S<2 ^ 36) (hW:W<2 ^ 36) (SN:l.length<2 ^ 30) {X:List (List AV)} (h9:EB 0 X outs t9) {Np:List (Nat×Nat)} {QR:QT} {M:Nat} (hM:M<2 ^ 20)
  {jV:List Br}
  (hQ:∀bs tk a,BI ⟨bs,tk⟩->bs.take X.length=X->X.length<=bs.length->EB X.length bs (jV++l.map (prB b)) a->Cd (.AE []) (.AE []) Np tk->xz R 0 0 0 (.ptr e 0) t5 t9 (AG i) a (AG k) ⟨bs,tk⟩ QR) (h0:jV.length+l.length<=M) :
  ∀(n j:Nat) (bs:List (List AV)) (tk:List (Nat×Nat)) (t11:AV),j+n=l.length->BI ⟨bs,tk⟩->bs.take X.length=X->X.length<=bs.length->EB X.length bs (jV++(l.take j).map (prB b)) t11->Cd (.AE []) (.AE []) Np tk ->
   yA R 0 0 0 (.ptr e 0) t5 t9 (AG i) t11 (AG k) (AG j) ⟨bs,tk⟩ QR:=by
 have rE:(Hv ls)[i]?=some [.list (l.map Di)]:=by grind[Hv]
 have jU:∀(s:AQ) (K:AV->Prop),K (.Cw [.list (l.map Di)] 0)->NC s 1 t5 (AG i) K:=λs K h=>BS h5 (row:=[.list (l.map Di)]) AA AB rfl AA h
 have hlen:∀(s:AQ) (K:AV->Prop),K (AG l.length)->HI s (.pv (.list (l.map Di))) K:=λs K h=>Aq (n:=l.length) (by simp[BA,rowsOf]) h
 intro n
 induction n with
 | zero=>
  intro j bs tk t11 hj hs Nr hN h11 hch;refine yB (jU _ _ (Dy (hlen _ _ (Ao ?_))));rw[Az AA];rw[CU AA] at h11;exact Ay (hQ bs tk t11 hs Nr hN h11 hch)
 | succ n ih=>
  intro j bs tk t11 hj hs Nr hN h11 hch;refine yB (jU _ _ (Dy (hlen _ _ (Ao ?_))));rw[Ar AA];obtain⟨c,hc⟩:∃c,l[j]?=some c:=⟨_,Au AA⟩;obtain⟨xm,hcw⟩:=hl c (A3 hc);obtain⟨args,hargs⟩:=hb.t;have hbn:=hb.n;refine A9 (ABn (T:=T) h5 hi hc hk hb.g hargs xm AA hT hS hW (next:=jV++(l.take j).map (prB b)) AB hN hs (h9.Zr Nr) h11 ?_);intro a' bs' GH q1 q2 q3 q4 q5;refine AJM (Ba AA AA ?_);have e1:jV++(l.take j).map (prB b)++[⟨b.bounds++c.bounds,.mk 3 [] 0 (args++[G0 b.bounds.length c.body])⟩]=jV++(l.take (j+1)).map (prB b):=by grind[List.take_add_one,xx]
  rw[e1] at q1;have:=ih (j+1) bs' GH a' AA q2 (q3.trans Nr) q4 q1 (hch.trans q5)
  grind
theorem AJN {T e:Nat} {ls:List (List Br)} {i:Nat} {l outs:List Br} {W S N w:Nat} {t5 t9:AV} (h5:BE t5 (Hv ls)) (hi:ls[i]?=some l) (ho:∀b∈outs,TpG S N b) (aL:outs.length<=32) (hl:∀c∈l,L7 W c/\c.bounds.length<=w) (qP:N+w<=T) (hT:(T:Int)<hole) (hS:S<2 ^ 36) (hW:W<2 ^ 36) (SN:l.length<=32) {X:List (List AV)} (h9:EB 0 X outs t9) {Np:List (Nat×Nat)} {QR:QT}
  (hQ:∀bs tk a,BI ⟨bs,tk⟩->bs.take X.length=X->X.length<=bs.length->EB X.length bs (HC outs l) a->Cd (.AE []) (.AE []) Np tk->yC R 0 0 0 (.ptr e 0) t5 (AG i) a ⟨bs,tk⟩ QR) :
  ∀(n k:Nat) (bs:List (List AV)) (tk:List (Nat×Nat)) (t11:AV),k+n=outs.length->BI ⟨bs,tk⟩->bs.take X.length=X->X.length<=bs.length->EB X.length bs (HC (outs.take k) l) t11->Cd (.AE []) (.AE []) Np tk ->
   AEM R 0 0 0 (.ptr e 0) t5 t9 (AG i) t11 (AG k) ⟨bs,tk⟩ QR:=by
 have AZK:∀o:List Br,(HC o l).length=o.length*l.length:=by
  intro o;rw[VG]
  induction o with
  | nil=>simp
  | cons b o ih=>grind
 intro n
 induction n with
 | zero=>
  intro k bs tk t11 hk hs Nr hN h11 hch;refine yD (Aq (n:=outs.length) (h9.Zr Nr).BA (Ao ?_))
  grind[Ay]
 | succ n ih=>
  intro k bs tk t11 hk hs Nr hN h11 hch;refine yD (Aq (n:=outs.length) (h9.Zr Nr).BA (Ao ?_));rw[Ar AA];obtain⟨b,hb⟩:∃c,outs[k]?=some c:=⟨_,Au AA⟩;refine A9 (AJO ?_);have Kt:=AZK (outs.take k);rw[List.length_take] at Kt;have hmul:min k outs.length*l.length<=32*32:=O5 AA SN;refine xy (T:=T) (M:=2 ^ 12) h5 hi hb (ho b (A3 hb)) hl qP hT hS hW AA h9 (Np:=Np) AI (jV:=HC (outs.take k) l) ?_ AA l.length 0 bs tk t11 AA hs Nr hN AB hch;intro bs' GH a q1 q2 q3 q4 q5;refine AJP (Ba AA AA ?_);have e1:HC (outs.take k) l++l.map (prB b)=HC (outs.take (k+1)) l:=by grind[VG,List.take_add_one]
  grind
theorem ABq {e:Nat} {ls:List (List Br)} {t5:AV} (h5:BE t5 (Hv ls)) (SN:ls.length<2 ^ 40) {n0:Nat} {Y:List (List AV)} {Np:List (Nat×Nat)} (he:e<n0) {QR:QT}
  (hQ:∀bs tk,BI ⟨bs,tk⟩->bs.take n0=Y->n0<=bs.length->Cd (.AE []) (.AE []) Np tk->QR (.AE []) ⟨bs,tk⟩) :
  ∀(n i:Nat) (bs:List (List AV)) (tk:List (Nat×Nat)),i+n=ls.length->BI ⟨bs,tk⟩->bs.take n0=Y->n0<=bs.length->bs[e]?=some [BB true,BB true]->Cd (.AE []) (.AE []) Np tk->yE R 0 0 0 (.ptr e 0) t5 (.AE []) (AG i) ⟨bs,tk⟩ QR:=by
 intro n
 induction n with
 | zero=>
  intro i bs tk hi hs Nr hN hE hch;refine mZ (Aq (n:=ls.length) (by rw[h5.BA,LS]) (Ao ?_));rw[Az AA];exact Ay (AEN (hQ bs tk hs Nr hN hch))
 | succ n ih=>
  intro i bs tk hi hs Nr hN hE hch;refine mZ (Aq (n:=ls.length) (by rw[h5.BA,LS]) (Ao ?_));rw[Ar AA];refine A9 (AEO (yD (Aq (n:=0) rfl (Ao ?_))));rw[Az AA];refine Ay (yF ?_);obtain⟨v,s',⟨rfl,rfl⟩,hc⟩:=Jr (R:=R) (e:=e) (l:=[]) (y:=.AE []) (exc:=true) (s:=⟨bs,tk⟩) hs hE (.inl ⟨rfl,rfl⟩) (L:=Ce (env R) 98 0 0 0) rfl rfl;refine⟨_,_,hc,yG (Ba AA AA ?_)⟩;have e1:bs.set e [BB true,BB (true||AU 32 ([]:List Br).length)]=bs:=by grind[List.set_getElem_self]
  simp only[e1];have:=ih (i+1) bs tk AA hs Nr hN hE hch
  grind
theorem dz {T e:Nat} (hT:(T:Int)<hole) {ls:List (List Br)} {t5:AV} (h5:BE t5 (Hv ls)) (SN:ls.length<2 ^ 40) {s0:AQ} (he:e<s0.bs.length) {S:Nat} (hS:S<2 ^ 36) {o:Option (List Br)} {QR:QT}
  (hQ:∀bs tk a x' r,(x'=o.isNone/\r=o.getD [])->BI ⟨bs,tk⟩->bs.take s0.bs.length=s0.bs.set e [BB true,BB x']->s0.bs.length<=bs.length->EB s0.bs.length bs r a->Cd (.AE []) (.AE []) s0.ts tk->QR a ⟨bs,tk⟩) :
  ∀(rest:List (List Br)) (ws vs:List Nat) (i:Nat) (outs:List Br) (Sb N:Nat) (bs:List (List AV)) (tk:List (Nat×Nat)) (t9:AV),ls.drop i=rest->i<=ls.length->CB (λl w=>∀c∈l,L7 w c) rest ws->CB (λl w=>∀c∈l,c.bounds.length<=w) rest vs->(∀l∈rest,l.length<=32)->Ie (AU 32) rest outs=o->(∀b∈outs,TpG Sb N b)->outs.length<=32->Sb+ws.sum<=S->N+vs.sum<=T->BI ⟨bs,tk⟩->bs.take s0.bs.length=s0.bs.set e [BB true,BB false]->s0.bs.length<=bs.length->EB s0.bs.length bs outs t9->Cd (.AE []) (.AE []) s0.ts tk ->
   yE R 0 0 0 (.ptr e 0) t5 t9 (AG i) ⟨bs,tk⟩ QR
 | [],ws,vs,i,outs,Sb,N,bs,tk,t9,hd,AZL,_,_,_,ho,hG,aL,hSb,hN,hs,Nr,hlen,h9,hch=>by
  have hi:ls.length<=i:=Je;refine mZ (Aq (n:=ls.length) (by rw[h5.BA,LS]) (Ao ?_));rw[Az AA];rw[Ie] at ho;subst ho;exact Ay (AEN (hQ bs tk t9 false outs ⟨rfl,rfl⟩ hs Nr hlen h9 hch))
 | _::_,[],_,_,_,_,_,_,_,_,_,_,h,_,_,_,_,_,_,_,_,_,_,_,_=>h.elim
 | _::_,_::_,[],_,_,_,_,_,_,_,_,_,_,h,_,_,_,_,_,_,_,_,_,_,_=>h.elim
 | l::rest,w::ws,v::vs,i,outs,Sb,N,bs,tk,t9,hd,AZL,⟨hw,hws⟩,⟨hv,hvs⟩,qY,ho,hG,aL,hSb,hN,hs,Nr,hlen,h9,hch=>by
  have hi:i<ls.length:=AB
  have hli:ls[i]?=some l:=by
   have:=Bg (λl=>l[0]?) hd
   grind
  have hdr:ls.drop (i+1)=rest:=by
   rw[drop_cons hli] at hd
   grind
  rw[Ld] at hSb hN;have gE:bs[e]?=some [BB true,BB false]:=CD Nr (by rw[CX he]);refine mZ (Aq (n:=ls.length) (by rw[h5.BA,LS]) (Ao ?_));rw[Ar AA];rw[Ie] at ho;refine A9 (AEO ?_);refine AJN (T:=T) (X:=bs) (Np:=tk) h5 hli hG aL (λc hc=>⟨hw c hc,hv c hc⟩) AA hT AA AA (qY l AD) (h9.mono (AN _) λ_ _ _ h=>h) ?_ outs.length 0 bs tk (.AE []) AA hs NK (AY _) (.inl ⟨rfl,rfl⟩) (Cd.refl _ _);intro b2 OZ a q1 q2 q3 q4 q5;have sL:b2[e]?=some [BB true,BB false]:=CD q2 gE;have Hh:b2.take s0.bs.length=s0.bs.set e [BB true,BB false]:=AB;obtain⟨v',s',⟨rfl,rfl⟩,hc⟩:=Jr (R:=R) (e:=e) (l:=HC outs l) (y:=a) (exc:=false) (s:=⟨b2,OZ⟩) q1 sL (q4.mono (AN _) λ_ _ _ h=>h) (L:=Ce (env R) 98 0 0 0) rfl rfl;refine yF ⟨_,_,hc,yG (Ba AA AA ?_)⟩;have ei:((i:Int)+1)=((i+1:Nat):Int):=AA;rw[ei];simp only[GL];have LP:=hch.trans q5;cases hb:AU 32 (HC outs l).length with
  | true=>
   rw[hb] at ho;simp only[AM] at ho ⊢;subst ho;refine ABq h5 SN (n0:=s0.bs.length) (Y:=s0.bs.set e [BB true,BB true]) (Np:=s0.ts) he ?_ (ls.length-(i+1)) (i+1) _ OZ AA (BI.set (s:=⟨b2,OZ⟩) q1 rfl _) (by simp[*,EU]) AB (BZ sL) LP;intro bs' GH n1 n2 n3 n4;exact hQ bs' GH (.AE []) true [] ⟨rfl,rfl⟩ n1 n2 n3 (.inl ⟨rfl,rfl⟩) n4
  | false=>
   rw[hb] at ho;simp only[AK] at ho ⊢;have same:b2.set e [BB true,BB false]=b2:=by grind[List.set_getElem_self]
   rw[same];refine dz hT h5 SN he hS hQ rest ws vs (i+1) (HC outs l) (Sb+w) (N+v) b2 OZ a hdr AA hws hvs (λl' h'=>qY l' AB) ho ?_ AB AA AA q1 Hh AA (q4.mono hlen λ_ _ _ h=>h) LP;intro b td;rw[VG] at td;obtain⟨b0,h0,h1⟩:=NT.1 td;obtain⟨c,h2,rfl⟩:=CR.1 h1;obtain⟨g1,g2,args,g3⟩:=hG b0 h0;have hcw:=hv c h2;have:=wk g1 g3 (hw c h2) AA;rw[xx g3];exact⟨this,AB,_,rfl⟩
end
def AJQ (R:RT) (e:Nat) (t:Ty) (o:Option (List Br)):Prop:=∀x,BP t x->∀(exc:Bool) (s:AQ),BI s->∀L:BL,L.ro=0->L.rt=0->L.rr 49=false->s.bs[e]?=some [BB true,BB exc] ->
 ∃v s',(∃ts',A2 v (((oX exc o).getD []).map Di)/\Cd (.AE []) (.AE []) s.ts ts'/\s'=⟨s.bs.set e [BB true,BB (oX exc o).isNone],ts'⟩)/\BW (env R) L 49 [.ptr e 0,x] s v s'
theorem AQg {l:List Br} {a:AV} (ha:A2 a (l.map Di)) {s:AQ} {K:AV->AQ->Prop} (hK:K (.AE [[.list (l.map Di)]]) s):HJ false s 1 [(.AE [])] 1 [(0,1,a)] K:=by
 have Nd:BE a (l.map Di):=.inl ha;simp[HJ,Fu,CI,Nd.ok,ADf Nd,Nd.cells];omega
theorem AJR {L:BL} {s:AQ} {a:AV} {os:List (List Br)} {p:List Br} {K:AV->AQ->Prop} (ha:Dl 0 s.ts 32 a (Hv os)) (Ee:L.rt=0) (hl:os.length<2 ^ 38) (h:∀a' ts',Dl 0 ts' 32 a' (Hv (os++[p]))->Cd a a' s.ts ts'->K a' ⟨s.bs,ts'⟩) :
  Ik false L s 32 1 24 a (.AE [[.list (p.map Di)]]) K:=by
 have h1:=LS os;have hr:∀r∈Hv os,r.length=1:=by grind[Hv]
 have hm:∀r∈[[PV.list (p.map Di)]],r.length=1:=AD;refine Q4 (m:=[[.list (p.map Di)]]) ha Ee hr hm AA (Dh (.inl (.AE _)) hm) AD AB AB λa' ts' h3 h4=>h a' ts' ?_ h4
 grind[Hv]
theorem RL {α:Type}:∀{l:List (Option α)},none∈l->FR l=none
 | none::_,_=>rfl
 | some a::l,h=>by
  have:none∈l:=AB;rw[FR,RL this]
section
variable {R:RT}
theorem yH {e f:Nat} {k i0:Int} {nm:List UInt8} {ts:List Ty} {a:AV} (ha:BE a (Ad ts)) (hl:ts.length<2 ^ 37) (ih:∀t∈ts,AJQ R e t (DG (AU 32) f t)) {s0:AQ} (he:e<s0.bs.length) {QR:QT}
  (hN:FR (ts.map (DG (AU 32) f))=none->∀bs tk,BI ⟨bs,tk⟩->bs.take s0.bs.length=s0.bs.set e [BB true,BB true]->s0.bs.length<=bs.length->Cd (.AE []) (.AE []) s0.ts tk->QR (.AE []) ⟨bs,tk⟩)
  (hS:∀ls,FR (ts.map (DG (AU 32) f))=some ls->∀bs tk t5,BI ⟨bs,tk⟩->bs.take s0.bs.length=s0.bs.set e [BB true,BB false]->s0.bs.length<=bs.length->Cd (.AE []) (.AE []) s0.ts tk->BE t5 (Hv ls)->AEP R 0 0 0 (.ptr e 0) t5 (BB (ls.any List.isEmpty)) ⟨bs,tk⟩ QR) :
  ∀(n p:Nat) (exc:Bool) (out:List (List Br)) (bs:List (List AV)) (tk:List (Nat×Nat)) (t5:AV),p+n=ts.length->out.length=p->(exc=false->(ts.take p).map (DG (AU 32) f)=out.map some)->(exc=true->none∈ts.map (DG (AU 32) f)/\out.any List.isEmpty=true)->BI ⟨bs,tk⟩->bs.take s0.bs.length=s0.bs.set e [BB true,BB exc]->s0.bs.length+1<=bs.length->bs[s0.bs.length]?=some [AG k,SS nm,AG i0,a]->Dl 0 tk 32 t5 (Hv out)->Cd (.AE []) (.AE []) s0.ts tk->DS t5 s0.ts ->
   AEQ R 0 0 0 (.ptr e 0) (.ptr s0.bs.length 0) t5 (BB (out.any List.isEmpty)) (AG p) ⟨bs,tk⟩ QR:=by
 intro n
 induction n with
 | zero=>
  intro p exc out bs tk t5 hp hop h0 h1 hs hT hlen g0 h5 hch hfr;refine AER (AO (AX g0) (AZ (off:=3) g0 rfl (Aq (n:=ts.length) (by rw[ha.BA,Aa]) (Ao ?_))));rw[Az AA];refine Ay ?_;cases exc with
  | true=>
   obtain⟨h2,h3⟩:=h1 rfl;rw[h3];exact AES (A9 (hN (RL h2) bs tk hs hT AA hch))
  | false=>
   have h2:=h0 rfl;rw[CU AA] at h2;refine hS out ?_ bs tk t5 hs hT AA hch h5.A1;rw[h2]
   have gen:∀l:List (List Br),FR (l.map some)=some l:=by
    intro l
    induction l with
    | nil=>rfl
    | cons a l ih=>grind[FR]
   grind
 | succ n ihn=>
  intro p exc out bs tk t5 hp hop h0 h1 hs hT hlen g0 h5 hch hfr;refine AER (AO (AX g0) (AZ (off:=3) g0 rfl (Aq (n:=ts.length) (by rw[ha.BA,Aa]) (Ao ?_))));rw[Ar AA];obtain⟨t,ht⟩:∃c,ts[p]?=some c:=⟨_,Au AA⟩;have Pz:=A3 ht;have gE:bs[e]?=some [BB true,BB exc]:=CD hT (by rw[CX he]);refine A9 (AQh (AO (AX g0) (AZ (off:=3) g0 rfl (BS ha (row:=Aj t) AA (by grind[BJ]) (Al _) AA (Ca ?_)))));obtain⟨v,s',⟨ts',r1,r2,rfl⟩,r3⟩:=ih t Pz _ (A7.Bi t).Fj exc ⟨bs,tk⟩ hs (Ce (env R) 98 0 0 0) rfl rfl AR gE;refine⟨_,_,r3,?_⟩;have hs1:BI ⟨bs.set e [BB true,BB (oX exc (DG (AU 32) f t)).isNone],ts'⟩:=BI.set (s:=⟨bs,tk⟩) hs rfl _;have Ny:(bs.set e [BB true,BB (oX exc (DG (AU 32) f t)).isNone]).take s0.bs.length=s0.bs.set e [BB true,BB (oX exc (DG (AU 32) f t)).isNone]:=by simp[*,EU]
  have g01:(bs.set e [BB true,BB (oX exc (DG (AU 32) f t)).isNone])[s0.bs.length]?=some [AG k,SS nm,AG i0,a]:=BQ g0 AA;have fN:(bs.set e [BB true,BB (oX exc (DG (AU 32) f t)).isNone]).length=bs.length:=AD;generalize bs.set e [BB true,BB (oX exc (DG (AU 32) f t)).isNone]=b1 at hs1 Ny g01 fN;have h51:=r2.keep h5 (λ_ h=>by cases h)
  have fin:HJ false ⟨b1,ts'⟩ 1 [(.AE [])] 1 [(0,1,v)] λa38 qO=>(1=1/\1≠0)/\Ik false (Ce (env R) 98 0 0 0) qO 32 1 24 t5 a38 λa39 qN=>
    AET R 0 0 0 (.ptr e 0) (.ptr s0.bs.length 0) a39 (BB (out.any List.isEmpty||((oX exc (DG (AU 32) f t)).getD []).isEmpty)) (AG p) qN QR:=by
   refine AQg r1 ⟨AI,AJR h51 rfl AA λt5' OZ x1 x2=>AQi (Ba AA AA ?_)⟩;have em:(ts.take (p+1)).map (DG (AU 32) f)=(ts.take p).map (DG (AU 32) f)++[DG (AU 32) f t]:=by grind[List.take_add_one]
   have ea:(out++[(oX exc (DG (AU 32) f t)).getD []]).any List.isEmpty=(out.any List.isEmpty||((oX exc (DG (AU 32) f t)).getD []).isEmpty):=AD
   have:=ihn (p+1) (oX exc (DG (AU 32) f t)).isNone (out++[(oX exc (DG (AU 32) f t)).getD []]) b1 OZ t5' AA AB (λh=>by
    cases exc with
    | true=>cases h
    | false=>
     cases hb:DG (AU 32) f t with
     | none=>rw[hb] at h; cases h
     | some m=>
      grind[oX]) (λh=>by
    rw[ea];cases exc with
    | true=>
     grind
    | false=>
     cases hb:DG (AU 32) f t with
     | some m=>rw[hb] at h; cases h
     | none=>grind[oX]) hs1 Ny AA g01 x1 ((hch.trans r2).side x2 hfr) (hfr.Py x2 (BK hch.1 r2.1))
   grind
  have hvl:∀(s:AQ) (K:AV->Prop),K (AG ((oX exc (DG (AU 32) f t)).getD []).length)->HI s v K:=λs K h=>Aq (n:=((oX exc (DG (AU 32) f t)).getD []).length) (by rw[r1.BA,Bm]) h
  cases xB:out.any List.isEmpty with
  | true=>
   grind[Cr,pk]
  | false=>
   rw[xB] at fin;refine Ak (Ak (hvl _ _ (Ak (A0 (pk ?_)))))
   have e0:((((oX exc (DG (AU 32) f t)).getD []).length:Int)==0)=((oX exc (DG (AU 32) f t)).getD []).isEmpty:=by
    cases (oX exc (DG (AU 32) f t)).getD [] <;> simp;omega
   grind
def tpR (f:Nat) (ts:List Ty):Option (List Br):=match FR (ts.map (DG (AU 32) f)) with
 | none=>none
 | some ls=>bif ls.any List.isEmpty then some [] else Ie (AU 32) ls [⟨[],.mk 3 [] 0 []⟩]
theorem jW {e f T S:Nat} (hT:(T:Int)<hole) (hS:S<2 ^ 36) {nm:List UInt8} {i0:Int} {ts:List Ty} (hl:ts.length<2 ^ 37) (ih:∀t∈ts,AJQ R e t (DG (AU 32) f t)) (hG:∀t∈ts,∀l,DG (AU 32) f t=some l->l.length<=32/\∀c∈l,L7 (wt t) c/\c.bounds.length<=bw t) (hSs:1+(ts.map wt).sum<=S) (qP:(ts.map bw).sum<=T)
  {x:AV} (hx:BP (.mk 3 nm i0 ts) x) {s:AQ} (hs:BI s) {L:BL} (hro:L.ro=0) (Ee:L.rt=0) (sG:L.rr 98=true) (hE:s.bs[e]?=some [BB true,BB false]) :
  ∃v s',ND e (tpR f ts).isNone ((tpR f ts).getD []) s s' v/\BW (env R) L 98 [.ptr e 0,x] s v s':=by
 have le:=(BH.1 hE).1;have same:s.bs.set e [BB true,BB false]=s.bs:=by grind[List.set_getElem_self]
 have hxc:=hx;obtain⟨a,rfl,ha⟩:=hx;obtain⟨_,c2,c3⟩:=hxc.cells;refine m98 AR ?_;rw[hro,Ee,sG];have g0:=Ax s.bs [AG 3,SS nm,AG i0,a];have hs1:BI ⟨s.bs++[[AG 3,SS nm,AG i0,a]],s.ts⟩:=BI.app (s:=s) hs (c3 _);have WM:(s.bs++[[AG 3,SS nm,AG i0,a]]).take s.bs.length=s.bs.set e [BB true,BB false]:=AB;refine AQj (Bx (cs:=[AG 3,SS nm,AG i0,a]) rfl c2 ?_);have:=yH (R:=R) (k:=3) (i0:=i0) (nm:=nm) ha hl ih le (QR:=QM true s.bs.length λv s'=>ND e (tpR f ts).isNone ((tpR f ts).getD []) s s' v) ?_ ?_ ts.length 0 false [] (s.bs++[[AG 3,SS nm,AG i0,a]]) s.ts (.AE []) AA rfl (λ_=>rfl) (λh=>by cases h) hs1 WM AD g0 (.inl rfl) (Cd.refl _ _) (DS.AE _ _)
 .grind
 .intro hn bs tk h1 h2 h3 h4
  have et:tpR f ts=none:=by rw[tpR,hn]
  rw[et];exact OA (x:=true) (l:=[]) hs h2 (.inl ⟨rfl,rfl⟩) h4 λv' s' h=>h
 .intro ls hls bs tk t5 h1 h2 h3 h4 h5
  have et:tpR f ts=bif ls.any List.isEmpty then some [] else Ie (AU 32) ls [⟨[],.mk 3 [] 0 []⟩]:=by rw[tpR,hls]
  rw[et];refine AES ?_;cases xB:ls.any List.isEmpty with
  | true=>exact A9 (OA (x:=false) (l:=[]) hs h2 (.inl ⟨rfl,rfl⟩) h4 λv' s' h=>h)
  | false=>
   simp only[AK];have hal:=Ig hls;have D4:CG ⟨[],.mk 3 [] 0 []⟩ (.agg [.AE [],AG 3,SS [],AG 0,.AE []]):=⟨.AE [],_,rfl,.inl (.AE _),⟨.AE [],rfl,.inl (.AE _)⟩⟩;refine Ay (AQk (Hg (cs:=[AG 3,SS [],AG 0,.AE []]) rfl (Hg (cs:=[.AE [],AG 3,SS [],AG 0,.AE []]) rfl (L9 D4 ?_))));have hlsl:ls.length=ts.length:=by have:=hal.length; omega
   have:=dz (R:=R) (T:=T) hT (t5:=t5) h5 AA (s0:=s) le (S:=S) hS (o:=Ie (AU 32) ls [⟨[],.mk 3 [] 0 []⟩]) (QR:=QM true s.bs.length λv s'=>ND e (Ie (AU 32) ls [⟨[],.mk 3 [] 0 []⟩]).isNone ((Ie (AU 32) ls [⟨[],.mk 3 [] 0 []⟩]).getD []) s s' v) ?_ ls (ts.map wt) (ts.map bw) 0 [⟨[],.mk 3 [] 0 []⟩] 1 0 (bs++[[.AE [],AG 3,SS [],AG 0,.AE []]]) tk (.ref bs.length 0 1 5) rfl AA
    (hal.HX λt l hm hg c hc=>((hG t hm l hg).2 c hc).1) (hal.HX λt l hm hg c hc=>((hG t hm l hg).2 c hc).2) (λl hm=>by
     obtain⟨t,ht,hg⟩:=hal.LD l hm
     grind) rfl (λb hb=>by
     rw[Df.1 hb];exact⟨⟨rfl,by simp[size,Ac],rfl⟩,AD,_,rfl⟩) AD hSs AA (BI.app (s:=⟨bs,tk⟩) h1 rfl) ((DI h3 _).trans h2) AB (.inr ⟨bs.length,[[.AE [],AG 3,SS [],AG 0,.AE []]],h3,rfl,AD,⟨D4,Ap⟩,AD⟩) h4
   all_goals grind[OA]
end
theorem AEU {ds:List AV} {t:Ty} (h:BP t (.agg ds)):Eo Z5 [(1,4,.agg ds)]=some (.AE []::ds):=by
 obtain⟨c1,c2,_⟩:=h.cells
 match ds,c1,c2 with
 | [d1,d2,d3,d4],_,c2=>
  simp[*,cellsOf,Eo,setCells]
theorem yI {α:Type} {l:List (Option α)} {a:α} {r:List α} (h:FR l=some r):FR (l++[some a])=some (r++[a]):=by
 induction l generalizing r with
 | nil=>
  grind[FR]
 | cons x l ih=>
  cases x with
  | none=>grind[FR]
  | some y=>
   grind[FR]
section
variable {R:RT}
theorem yJ {e:Nat} {l:List Br} {y:AV} {exc:Bool} {s0:AQ} (he:e<s0.bs.length) {bs:List (List AV)} {tk:List (Nat×Nat)} (hs:BI ⟨bs,tk⟩) (hT:bs.take s0.bs.length=s0.bs.set e [BB true,BB exc]) (hlen:s0.bs.length<=bs.length) (hy:EB s0.bs.length bs l y) (hch:Cd (.AE []) (.AE []) s0.ts tk) {o:Option (List Br)} (ho:o=bif exc||AU 32 l.length then none else some l) {QR:QT}
  (hQ:∀bs tk a x' r,(x'=o.isNone/\r=o.getD [])->BI ⟨bs,tk⟩->bs.take s0.bs.length=s0.bs.set e [BB true,BB x']->s0.bs.length<=bs.length->EB s0.bs.length bs r a->Cd (.AE []) (.AE []) s0.ts tk->QR a ⟨bs,tk⟩) :
  He (env R) (Ce (env R) 49 0 0 0) (.func (.func 99) [] []) [.ptr e 0,y] ⟨bs,tk⟩ λa94 dw=>QR a94 dw:=by
 have gE:bs[e]?=some [BB true,BB exc]:=CD hT (by rw[CX he]);obtain⟨v,s',⟨rfl,rfl⟩,hc⟩:=Jr (R:=R) (e:=e) (l:=l) (y:=y) (exc:=exc) (s:=⟨bs,tk⟩) hs gE (hy.mono (AN _) λ_ _ _ h=>h) (L:=Ce (env R) 49 0 0 0) rfl rfl;refine⟨_,_,hc,?_⟩;have Hh:(bs.set e [BB true,BB (exc||AU 32 l.length)]).take s0.bs.length=s0.bs.set e [BB true,BB (exc||AU 32 l.length)]:=by simp[*,EU]
 have hs2:BI ⟨bs.set e [BB true,BB (exc||AU 32 l.length)],tk⟩:=BI.set (s:=⟨bs,tk⟩) hs rfl _;cases hb:exc||AU 32 l.length with
 | true=>
  rw[hb] at ho Hh hs2;subst ho;exact hQ _ tk _ true [] ⟨rfl,rfl⟩ hs2 Hh AB (.inl ⟨rfl,rfl⟩) hch
 | false=>
  rw[hb] at ho Hh hs2;subst ho;exact hQ _ tk _ false l ⟨rfl,rfl⟩ hs2 Hh AB (hy.keep gE rfl (d:=[BB true,BB false]) (by grind[List.take_of_length_le])) hch
theorem AQl {e f:Nat} {i0:Int} {nm:List UInt8} {ts:List Ty} {a:AV} (ha:BE a (Ad ts)) (hl:ts.length<2 ^ 30) (ih:∀t∈ts,ABl R e t (DG (AU 32) f t)) (hG:∀t∈ts,∀l,DG (AU 32) f t=some l->l.length<=32) {s0:AQ} (he:e<s0.bs.length) {o:Option (List Br)} (ho:o=match FR (ts.map (DG (AU 32) f)) with
   | none=>none
   | some ls=>bif AU 32 ls.flatten.length then none else some ls.flatten) {QR:QT}
  (hQ:∀bs tk a x' r,(x'=o.isNone/\r=o.getD [])->BI ⟨bs,tk⟩->bs.take s0.bs.length=s0.bs.set e [BB true,BB x']->s0.bs.length<=bs.length->EB s0.bs.length bs r a->Cd (.AE []) (.AE []) s0.ts tk->QR a ⟨bs,tk⟩) :
  ∀(n p:Nat) (exc:Bool) (out:List Br) (bs:List (List AV)) (tk:List (Nat×Nat)) (t5:AV),p+n=ts.length->(exc=false->∃lss,FR ((ts.take p).map (DG (AU 32) f))=some lss/\lss.flatten=out)->(exc=true->none∈ts.map (DG (AU 32) f))->out.length<=32*p->BI ⟨bs,tk⟩->bs.take s0.bs.length=s0.bs.set e [BB true,BB exc]->s0.bs.length+1<=bs.length->bs[s0.bs.length]?=some [AG 4,SS nm,AG i0,a]->EB (s0.bs.length+1) bs out t5->Cd (.AE []) (.AE []) s0.ts tk ->
   AEV R 0 0 0 (.ptr e 0) (.ptr s0.bs.length 0) t5 (AG p) ⟨bs,tk⟩ QR:=by
 intro n
 induction n with
 | zero=>
  intro p exc out bs tk t5 hp h0 h1 aL hs hT hlen g0 h5 hch;refine AEW (AO (AX g0) (AZ (off:=3) g0 rfl (Aq (n:=ts.length) (by rw[ha.BA,Aa]) (Ao ?_))));rw[Az AA];refine Ay (AQm (yJ he hs hT AA (h5.mono AA λ_ _ _ h=>h) hch (o:=o) ?_ hQ))
  grind[RL]
 | succ n ihn=>
  intro p exc out bs tk t5 hp h0 h1 aL hs hT hlen g0 h5 hch;refine AEW (AO (AX g0) (AZ (off:=3) g0 rfl (Aq (n:=ts.length) (by rw[ha.BA,Aa]) (Ao ?_))));rw[Ar AA];obtain⟨t,ht⟩:∃c,ts[p]?=some c:=⟨_,Au AA⟩;have Pz:=A3 ht;have gE:bs[e]?=some [BB true,BB exc]:=CD hT (by rw[CX he]);refine A9 (AQn (AO (AX g0) (AZ (off:=3) g0 rfl (BS ha (row:=Aj t) AA (by grind[BJ]) (Al _) AA (Ca ?_)))));obtain⟨v,s',hR,r3⟩:=ih t Pz _ (A7.Bi t).Fj exc ⟨bs,tk⟩ hs (Ce (env R) 49 0 0 0) rfl rfl AR gE;obtain⟨b2,OZ⟩:=s';have mV:bs.length<=b2.length:=hR.len
  have Hh:b2.take s0.bs.length=s0.bs.set e [BB true,BB (oX exc (DG (AU 32) f t)).isNone]:=by
   have:=MC (n:=s0.bs.length) AA hT hR.tk;rwa [IK] at this
  have sM:b2[s0.bs.length]?=some [AG 4,SS nm,AG i0,a]:=CD hR.tk AB;have h52:EB (s0.bs.length+1) b2 out t5:=h5.keep gE rfl hR.tk;have Ng:EB (s0.bs.length+1) b2 ((oX exc (DG (AU 32) f t)).getD []) v:=hR.Qx.mono hlen λj c _ h=>h
  have hrl:((oX exc (DG (AU 32) f t)).getD []).length<=32:=by
   cases exc with
   | true=>simp[oX]
   | false=>
    cases hb:DG (AU 32) f t with
    | none=>simp[oX]
    | some l=>grind[oX]
  refine⟨_,_,r3,AI,Zp h52 Ng rfl AA AB ?_⟩;intro a' b3 q1 q2 q3 q4;have hs3:=q4 hR.ok
  have mW:∀j c,j<s0.bs.length+1->b2[j]?=some c->b3[j]?=some c:=by
   intro j c hj hjc;refine q2 j c (λn ha=>?_) hjc;rcases h52 with ⟨h1,_⟩|⟨id,rows,h1,h2,_⟩
   all_goals grind
  have QV:b3.take s0.bs.length=s0.bs.set e [BB true,BB (oX exc (DG (AU 32) f t)).isNone]:=by
   rw[<-Hh];refine Fm λj=>?_
   grind
  refine AJS (Ba AA AA ?_);have em:(ts.take (p+1)).map (DG (AU 32) f)=(ts.take p).map (DG (AU 32) f)++[DG (AU 32) f t]:=by grind[List.take_add_one]
  have:=ihn (p+1) (oX exc (DG (AU 32) f t)).isNone (out++(oX exc (DG (AU 32) f t)).getD []) b3 OZ a' AA (λh=>by
   cases exc with
   | true=>cases h
   | false=>
    cases hb:DG (AU 32) f t with
    | none=>rw[hb] at h; cases h
    | some m=>
     obtain⟨lss,h2,h3⟩:=h0 rfl;refine⟨lss++[m],by grind[yI],?_⟩
     grind[oX]) (λh=>by
   cases exc with
   | true=>grind
   | false=>
    cases hb:DG (AU 32) f t with
    | some m=>rw[hb] at h; cases h
    | none=>grind) AB hs3 QV AB (mW _ _ AA sM) q1 (hch.trans hR.Py)
  grind
theorem AQo {e:Nat} {i0:Int} {nm:List UInt8} {EE body:Ty} {a:AV} (ha:BE a (Ad [EE,body])) {ob:Option (List Br)} {l:List Br} {t8:AV} {lo:Nat} {Wb W w T C:Nat} (hlG:∀b∈l,L7 Wb b/\(Ae b.body).length<=C/\b.bounds.length+(Ae b.body).length*w<=T) (hob:∀l,ob=some l->(∀c∈l,L7 W c/\c.bounds.length<=w)/\l.length<=32) (hT:(T:Int)<hole) (hS:Wb+C*W<2 ^ 37) (hWb:Wb<=2 ^ 27) (AJH:ABl R e EE ob) (SN:l.length<=32)
  {s0:AQ} (he:e<s0.bs.length) {o:Option (List Br)} {x0:Bool} (ho:o=bif x0 then none else Iy (AU 32) (E3 (AU 32) ob EE) l []) {QR:QT} {X:List (List AV)} (hX1:X.take s0.bs.length=s0.bs.set e [BB true,BB x0]) (hXl:s0.bs.length+1<=X.length) (hX8:EB lo X l t8) (hXg:X[s0.bs.length]?=some [AG 6,SS nm,AG i0,a])
  (hQ:∀bs tk a x' r,(x'=o.isNone/\r=o.getD [])->BI ⟨bs,tk⟩->bs.take s0.bs.length=s0.bs.set e [BB true,BB x']->s0.bs.length<=bs.length->EB s0.bs.length bs r a->Cd (.AE []) (.AE []) s0.ts tk->QR a ⟨bs,tk⟩) :
  ∀(n p:Nat) (exc:Bool) (out:List Br) (bs:List (List AV)) (tk:List (Nat×Nat)) (t7:AV),p+n=l.length->(exc=false->x0=false/\Iy (AU 32) (E3 (AU 32) ob EE) (l.drop p) out=o/\out.length<=32)->(exc=true->o=none)->out.length<=32+p*(33*(2 ^ 27+1))->BI ⟨bs,tk⟩->bs.take X.length=X.set e [BB true,BB exc]->X.length<=bs.length->EB X.length bs out t7->Cd (.AE []) (.AE []) s0.ts tk ->
   AEX R 0 0 0 (.ptr e 0) (.ptr s0.bs.length 0) t7 t8 (AG p) ⟨bs,tk⟩ QR:=by
 have heX:e<X.length:=AA;have hXe:X[e]?=some [BB true,BB x0]:=CD hX1 (by rw[CX he])
 have down:∀(bs:List (List AV)) (x:Bool),bs.take X.length=X.set e [BB true,BB x]->bs.take s0.bs.length=s0.bs.set e [BB true,BB x]:=by
  intro bs x h;have:=Bg (List.take s0.bs.length) h
  grind[List.take_set,List.set_set]
 have yK:∀(bs:List (List AV)) (x:Bool),bs.take X.length=X.set e [BB true,BB x]->EB lo bs l t8:=λbs x h=>hX8.keep hXe rfl h
 have AQp:∀(bs:List (List AV)) (x:Bool),bs.take X.length=X.set e [BB true,BB x]->bs[s0.bs.length]?=some [AG 6,SS nm,AG i0,a]:=λbs x h=>CD h AB
 intro n
 induction n with
 | zero=>
  intro p exc out bs tk t7 hp h0 h1 aL hs Nr hlen h7 hch;refine AEY (Aq (n:=l.length) (yK bs exc Nr).BA (Ao ?_));rw[Az AA];refine Ay (AQq (yJ he hs (down bs exc Nr) AA (h7.mono AA λ_ _ _ h=>h) hch (o:=o) ?_ hQ))
  grind[Iy]
 | succ n ihn=>
  intro p exc out bs tk t7 hp h0 h1 aL hs Nr hlen h7 hch;refine AEY (Aq (n:=l.length) (yK bs exc Nr).BA (Ao ?_));rw[Ar AA];obtain⟨b,hb⟩:∃c,l[p]?=some c:=⟨_,Au AA⟩;obtain⟨hbG,hbC,hbT⟩:=hlG b (A3 hb);have gE:bs[e]?=some [BB true,BB exc]:=CD Nr (by rw[CX heX]);have g0:=AQp bs exc Nr;refine A9 (AQr (Oh (yK bs exc Nr) hb λrb hrb=>AO (AX g0) (AZ (off:=3) g0 rfl (BS ha (row:=Aj EE) AA rfl (Al _) AA (Ca ?_)))));obtain⟨v,s',⟨r,x',hE,hrl,hR⟩,r3⟩:=WN (R:=R) hbG hbC hob hT hbT hS hWb AJH hrb (A7.Bi EE).Fj (exc:=exc) (s:=⟨bs,tk⟩) hs (L:=Ce (env R) 49 0 0 0) rfl rfl AR gE;obtain⟨b2,OZ⟩:=s';have mV:bs.length<=b2.length:=hR.len
  have Hh:b2.take X.length=X.set e [BB true,BB x']:=by
   have:=MC (n:=X.length) AA Nr hR.tk;rwa [IK] at this
  have h72:EB X.length b2 out t7:=h7.keep gE rfl hR.tk;have Ng:EB X.length b2 r v:=hR.Qx.mono hlen λj c _ h=>h
  have Kt:p*(33*(2 ^ 27+1))<=32*(33*(2 ^ 27+1)):=B5 _ AA;refine⟨_,_,r3,AI,Zp h72 Ng rfl AA AB ?_⟩;intro a' b3 q1 q2 q3 q4;have hs3:=q4 hR.ok
  have mW:∀j c,j<X.length->b2[j]?=some c->b3[j]?=some c:=by
   intro j c hj hjc;refine q2 j c (λn ha=>?_) hjc;rcases h72 with ⟨h1,_⟩|⟨id,rows,h1,h2,_⟩
   all_goals grind
  have QV:b3.take X.length=X.set e [BB true,BB x']:=by
   rw[<-Hh];refine Fm λj=>?_
   grind
  have SU:b3[e]?=some [BB true,BB x']:=CD QV (by rw[CX heX]);have mX:X.length<=b3.length:=AB;have OX:Cd (.AE []) (.AE []) s0.ts OZ:=hch.trans hR.Py;refine C1 (AX SU) (AO (AX SU) (AZ (off:=0) SU rfl (Ak (Ak (Aq (n:=(out++r).length) q1.BA (Ak (F8 (pk ?_))))))));have eb:decide (((out++r).length:Int)>32)=AU 32 (out++r).length:=AB;rw[eb];have AZN:(out++r).length<=32+(p+1)*(33*(2 ^ 27+1)):=AB
  have next:∀(x:Bool) (b4:List (List AV)),BI ⟨b4,OZ⟩->b4.take X.length=X.set e [BB true,BB x]->X.length<=b4.length->EB X.length b4 (out++r) a'->(x=false->x0=false/\Iy (AU 32) (E3 (AU 32) ob EE) (l.drop (p+1)) (out++r)=o/\(out++r).length<=32)->(x=true->o=none)->yL R 0 0 0 (.ptr e 0) (.ptr s0.bs.length 0) a' t8 (AG p) ⟨b4,OZ⟩ QR:=by
   intro x b4 n1 n2 n3 n4 n5 n6;refine AJT (Ba AA AA ?_);have:=ihn (p+1) x (out++r) b4 OZ a' AA n5 n6 AZN n1 n2 n3 n4 OX;simpa using this
  have hmod:exc=false->(x'=true->o=none)/\(x'=false->AU 32 (out++r).length=true->o=none)/\(x'=false->AU 32 (out++r).length=false->Iy (AU 32) (E3 (AU 32) ob EE) (l.drop (p+1)) (out++r)=o):=by
   rintro rfl;obtain⟨_,h2,_⟩:=h0 rfl;rw[drop_cons hb,Iy] at h2;have hE2:=hE.2 rfl
   grind
  have AcF:exc=true->o=none:=h1;cases MU:AU 32 (out++r).length with
  | true=>
   refine A9 (C1 (AX SU) (AO (AX SU) (C2 SU AD rfl (AN _) rfl (.inl (AN _)) ?_)));have e1:[BB true,BB x'].set (0+1) (BB true)=[BB true,BB true]:=rfl;rw[e1];refine next true _ (BI.set (s:=⟨b3,OZ⟩) hs3 rfl _) (by simp[*,EU]) AB (q1.keep SU rfl (d:=[BB true,BB true]) (by grind[List.take_of_length_le])) (λh=>by cases h) (λ_=>?_)
   grind
  | false=>
   refine Ay (next x' b3 hs3 QV mX q1 (λhx=>?_) (λhx=>?_))
   .cases exc with
    | true=>rw[hE.1 rfl] at hx; grind
    | false=>
     grind
   grind
end
theorem AQs {n:Nat} {X bs:List (List AV)} {ts:List (Nat×Nat)} {l:List Br} {v:AV} {Post:AV->AQ->Prop} (hX:∀b∈X,Ah n b=true) (hT:bs.take n=X) (hb:EB n bs l v) (hP:∀v',A2 v' (l.map Di)->Post v' ⟨X,ts⟩):QM false n Post v ⟨bs,ts⟩:=by
 have hok:((bs.take n).all (Ah n))=true:=AB;rcases hb with ⟨rfl,rfl⟩|⟨id,rows,h1,rfl,h2,h3,h4⟩
 .refine⟨.AE [],⟨X,ts⟩,?_,hP _ (.AE _)⟩
  grind[Hs,Hz,Tel.close]
 .obtain⟨c,cs,hc,k1,k2,k3,hal⟩:=EB.block (lo:=n) (s:=⟨bs,ts⟩) h2 h3 h4
  have htp:=VF h3;have hlt:¬ id<n:=AA;refine⟨.pv (.list (l.map Di)),⟨X,ts⟩,?_,hP _ (.list _)⟩;unfold Hs;rw[hok];have e1:Hz false n (.ref id 0 l.length 5)=none:=rfl;have e2:KL bs id 0 l.length 5=some (l.map Di):=by grind[KL,List.take_of_length_le,F9,LU,List.length_map]
  grind[Tel.close]
section
variable {R:RT}
def BrW (R:RT) (e:Nat) (t:Ty) (o:Option (List Br)):Prop:=∀x,BP t x->∀(exc:Bool) (s:AQ),BI s->s.bs[e]?=some [BB true,BB exc]->∀QR:QT,
 (∀bs tk a x' r,(x'=(oX exc o).isNone/\r=(oX exc o).getD [])->BI ⟨bs,tk⟩->bs.take s.bs.length=s.bs.set e [BB true,BB x']->s.bs.length<=bs.length->EB s.bs.length bs r a->Cd (.AE []) (.AE []) s.ts tk->QR a ⟨bs,tk⟩)->AEZ R 0 0 0 (.ptr e 0) x s QR
theorem BrW.c {e:Nat} {t:Ty} {o:Option (List Br)} (h:BrW R e t o):ABl R e t o:=by
 intro x hx exc s hs L hro Ee sG hE;refine m49 AR ?_;rw[hro,Ee,sG];refine h x hx exc s hs hE _ ?_
 grind[OA]
theorem BrW.v {e:Nat} {t:Ty} {o:Option (List Br)} (h:BrW R e t o):AJQ R e t o:=by
 intro x hx exc s hs L hro Ee sG hE;refine m49 AR ?_;rw[hro,Ee,sG];refine h x hx exc s hs hE _ ?_;rintro bs tk a x' r ⟨rfl,rfl⟩ n1 n2 n3 n4 n5;refine AQs (X:=s.bs.set e [BB true,BB (oX exc o).isNone]) ?_ n2 n4 λv' hv=>⟨tk,hv,n5,rfl⟩
 have:=BI.set hs (c:=[BB true,BB (oX exc o).isNone]) rfl tk (j:=e);intro b hb;have h1:=this b hb
 grind
theorem Ns:∀(f:Nat) (t:Ty) (l:List Br),DG (AU 32) f t=some l->l.length<=32:=by
 intro f t l h
 have cat:∀{α:Type} (g:α->Option (List Br)) (l:List α) (out r:List Br),out.length<=32->Iy (AU 32) g l out=some r->r.length<=32:=by
  intro α g l
  induction l with
  | nil=>
   grind[Iy]
  | cons a l ih=>
   grind[Iy]
 have tup:∀(ls:List (List Br)) (out r:List Br),out.length<=32->Ie (AU 32) ls out=some r->r.length<=32:=by
  intro ls
  induction ls with
  | nil=>
   grind[Ie]
  | cons a l ih=>
   grind[Ie]
 cases f with
 | zero=>grind[DG]
 | succ f=>
  obtain⟨k,n,i,ts⟩:=t;rw[DG] at h;cases h0:k==0 with
  | true=>grind
  | false=>
   rw[h0] at h;simp only[AK] at h;cases h2:k==2||k==5 with
   | true=>grind
   | false=>
    rw[h2] at h;simp only[AK] at h;cases h3:k==3 with
    | true=>
     grind
    | false=>
     rw[h3] at h;simp only[AK] at h;cases h4:k==4 with
     | true=>
      grind
     | false=>
      rw[h4] at h;simp only[AK] at h;cases h6:k==6 with
      | false=>grind
      | true=>
       rw[h6] at h;simp only[AM] at h;rcases ts with _|⟨b,_|⟨body,_|⟨z,r⟩⟩⟩
       all_goals grind[bX]
theorem WO {e:Nat}:∀(f:Nat) (t:Ty),depth t<=f->valid t=true->CM (bw t)->wt t<=2 ^ 27->size t<2 ^ 30->BrW R e t (DG (AU 32) f t):=by
 intro f
 induction f with
 | zero=>
  intro t hd;obtain⟨k,n,i,ts⟩:=t
  grind[depth]
 | succ f ih=>
  intro t hd hv W7 hw hsz x hx exc s hs hE QR hQ;have le:=(BH.1 hE).1;have same:s.bs.set e [BB true,BB exc]=s.bs:=by grind[List.set_getElem_self]
  obtain⟨k,n,i,ts⟩:=t;have LY:=hv;have hx':=hx;simp only[valid,AH] at hv;simp only[depth] at hd;simp only[size] at hsz;have hts:=BV ts;obtain⟨a,rfl,ha⟩:=hx;obtain⟨c1,c2,c3⟩:=hx'.cells;have g0:=Ax s.bs [AG k,SS n,AG i,a];have gE:=Ai hE [AG k,SS n,AG i,a];have hs1:BI ⟨s.bs++[[AG k,SS n,AG i,a]],s.ts⟩:=BI.app (s:=s) hs (c3 _);have WM:(s.bs++[[AG k,SS n,AG i,a]]).take s.bs.length=s.bs.set e [BB true,BB exc]:=AB;have hl0:(s.bs++[[AG k,SS n,AG i,a]]).length=s.bs.length+1:=AD;refine AQt (Bx (cs:=[AG k,SS n,AG i,a]) rfl c2 (C1 (AX gE) (AO (AX gE) (AZ (off:=1) gE rfl ?_))));cases exc with
  | true=>exact A9 (hQ _ s.ts (.AE []) true [] ⟨rfl,rfl⟩ hs1 WM AD (.inl ⟨rfl,rfl⟩) (Cd.refl _ _))
  | false=>
   refine Ay (AQu (AO (AX g0) (AZ (off:=0) g0 rfl (A0 ?_))));simp only[oX,AK] at hQ;generalize s.bs++[[AG k,SS n,AG i,a]]=bs at g0 gE hs1 WM hl0
   have mem:∀t∈ts,(CM (bw t)/\wt t<=2 ^ 27)->BrW R e t (DG (AU 32) f t):=by
    intro t ht h;have:=HE ht;have:=F6 ht
    grind[Bw]
   have leaf:∀(u:Ty) (du:List AV) (ts':List (Nat×Nat)),BP u (.agg du)->DG (AU 32) (f+1) (.mk k n i ts)=some [⟨[],u⟩]->Cd (.AE []) (.AE []) s.ts ts'->Fh [(.AE []),(AG 0),(SS []),(AG 0),(.AE [])] [(1,4,.agg du)] λa19=>HJ true ⟨bs,ts'⟩ 5 [(.AE []),(AG 0),(SS []),(AG 0),(.AE [])] 1 [(0,5,a19)] λa20 dw=>QR a20 dw:=by
    intro u du ts' hu hb hch;have D4:CG ⟨[],u⟩ (.agg (.AE []::du)):=⟨.AE [],du,rfl,.inl (.AE _),hu⟩;obtain⟨z1,z2,z3⟩:=D4.cells;refine Hg (AEU hu) (L9 D4 ?_);have hle:s.bs.length<=bs.length:=AA;exact hQ (bs++[.AE []::du]) ts' (.ref bs.length 0 1 5) false [⟨[],u⟩] AB (BI.app (s:=⟨bs,ts'⟩) hs1 (z3 _)) ((DI hle _).trans WM) AB (.inr ⟨bs.length,[.AE []::du],hle,rfl,AD,⟨D4,Ap⟩,AD⟩) hch
   have var:(k==2||k==5)=true->(k==0)=false->AEa R 0 0 0 (.ptr e 0) (.ptr s.bs.length 0) (AG k) (BB true) ⟨bs,s.ts⟩ QR:=by
    intro hk sA;have AZO:Xp (.mk k n i ts)=true:=Oi (λi hi=>by grind) _ (P5 _ LY);refine eB (A9 (Ag g0 rfl (AL (jM (R:=R) (by grind[size]) AZO hx') ?_)));intro r hr;obtain⟨du,rfl⟩:=hr.Fj.agg;refine leaf _ du s.ts hr.Fj ?_ (Cd.refl _ _)
    grind[DG]
   rcases LF hv.1 with ⟨rfl,rfl,rfl,rfl⟩|⟨rfl,rfl,rfl,rfl⟩|rfl|⟨rfl,rfl,rfl⟩|⟨rfl,rfl,rfl,hne⟩|⟨rfl,rfl,rfl,h0⟩|⟨rfl,rfl,rfl,b,body,rfl,hcb⟩
   .exact A9 (Ag g0 rfl (leaf _ _ s.ts hx' AR (Cd.refl _ _)))
   .refine Ay (A0 (Ay (A0 (eB (Ay (A0 (Ay (A0 (Ay (A0 (Ay (AQv ?_))))))))))))
    exact hQ bs s.ts (.AE []) false [] (by grind[DG]) hs1 WM AA (.inl ⟨rfl,rfl⟩) (Cd.refl _ _)
   .grind[Ay,A0]
   ·-- a tuple
    have ABs:∀t∈ts,CM (bw t)/\wt t<=2 ^ 27:=by
     intro t ht;refine⟨Cu W7 (by simp[*,bw,Fi,Dx,Eb]),?_⟩;have e:wt (.mk 3 [] 0 ts)=1+(ts.map wt).sum:=by grind[wt,I0]
     have:=Dx (Eb (f:=wt) ht);omega
    have ew:wt (.mk 3 [] 0 ts)=1+(ts.map wt).sum:=by grind[wt,I0]
    have e2:bw (.mk 3 [] 0 ts)=(ts.map bw).sum:=by grind[bw,Fi]
    have eo:DG (AU 32) (f+1) (.mk 3 [] 0 ts)=tpR f ts:=AR;rw[eo] at hQ;refine Ay (A0 (Ay (A0 (eB (Ay (A0 (A9 (Ag g0 rfl ?_))))))));obtain⟨v,s',hR,hc⟩:=jW (R:=R) (e:=e) (f:=f) (T:=bw (.mk 3 [] 0 ts)) (S:=wt (.mk 3 [] 0 ts)) W7 AA AA (λt ht=>(mem t ht (ABs t ht)).v) (λt ht l hl=>⟨Ns f t l hl,λc hc=>⟨Uv f t l (Bw hv.2 ht) (ABs t ht).1 hl c hc,(Cz f t l hl c hc).1⟩⟩) AA AA hx' (s:=⟨bs,s.ts⟩) hs1 (L:=Ce (env R) 49 0 0 0) rfl rfl AR gE;obtain⟨b2,OZ⟩:=s';have mV:bs.length<=b2.length:=hR.len;have Hh:=MC (n:=s.bs.length) AA WM hR.tk;rw[IK] at Hh;exact⟨_,_,hc,hQ b2 OZ v _ _ ⟨rfl,rfl⟩ hR.ok Hh AA (hR.Qx.mono AB λ_ _ _ h=>h) hR.Py⟩
   ·-- a union
    have ABs:∀t∈ts,CM (bw t)/\wt t<=2 ^ 27:=by
     intro t ht;refine⟨Cu W7 (by simp[*,bw,Fi,Dx,Eb]),?_⟩;have e:wt (.mk 4 [] 0 ts)=1+(ts.map wt).sum:=by grind[wt,I0]
     have:=Dx (Eb (f:=wt) ht);omega
    refine Ay (A0 (Ay (A0 (eB (Ay (A0 (Ay (A0 (A9 ?_)))))))));have:=AQl (R:=R) (e:=e) (f:=f) (i0:=0) (nm:=[]) ha AA (λt ht=>(mem t ht (ABs t ht)).c) (λt ht l hl=>Ns f t l hl) (s0:=s) le (o:=DG (AU 32) (f+1) (.mk 4 [] 0 ts)) AR (QR:=QR) hQ ts.length 0 false [] bs s.ts (.AE []) AA (λ_=>⟨[],rfl,rfl⟩) (λh=>by cases h) AD hs1 WM AA g0 (.inl ⟨rfl,rfl⟩) (Cd.refl _ _);omega
   .grind[Ay,A0,A9]
   ·-- an existential term
    simp only[BC,AH] at hv;obtain⟨_,KA,OW,_⟩:=hv;have hbw:bw (.mk 6 [] 0 [b,body])=bw body+1+(cv body+1)*bw b:=rfl;have hwt:wt (.mk 6 [] 0 [b,body])=wt body+max 1 (cv body)*wt b:=rfl;have fQ:CM (bw b):=Cu W7 AB;have hsy:CM (bw body):=Cu W7 AA;have w1:1*wt b<=max 1 (cv body)*wt b:=B5 _ AA;have hmb:=mem b AD ⟨fQ,AA⟩;have hmy:=mem body AD ⟨hsy,AA⟩;refine Ay (A0 (Ay (A0 (eB (Ay (A0 (Ay (A0 (Ay (A0 (A9 (AO (AX g0) (AZ (off:=3) g0 rfl (BS ha (row:=Aj body) AA rfl (Al _) AA (Ca ?_)))))))))))))));obtain⟨v,s',hR,hc⟩:=hmy.c _ (A7.Bi body).Fj false ⟨bs,s.ts⟩ hs1 (Ce (env R) 49 0 0 0) rfl rfl AR gE;obtain⟨b2,OZ⟩:=s';have mV:bs.length<=b2.length:=hR.len;have Hh:=MC (n:=s.bs.length) AA WM hR.tk;rw[IK] at Hh;have sM:b2[s.bs.length]?=some [AG 6,SS [],AG 0,a]:=CD hR.tk AB;refine⟨_,_,hc,?_⟩;have hR1:=hR.Qx;have AZP:=hR.ok;have AZQ:=hR.Py;simp only[oX,AK] at Hh hR1;have eo:DG (AU 32) (f+1) (.mk 6 [] 0 [b,body])=bif (DG (AU 32) f body).isNone then none else Iy (AU 32) (E3 (AU 32) (DG (AU 32) f b) b) ((DG (AU 32) f body).getD []) []:=by grind[DG,bX]
    have eb2:b2.set e [BB true,BB (DG (AU 32) f body).isNone]=b2:=by grind[List.getElem?_set_self,List.set_getElem_self]
    have:=AQo (R:=R) (e:=e) (i0:=0) (nm:=[]) (EE:=b) (body:=body) ha (ob:=DG (AU 32) f b) (l:=(DG (AU 32) f body).getD []) (t8:=v) (lo:=bs.length) (Wb:=wt body) (C:=max 1 (cv body)) (W:=wt b) (w:=bw b) (T:=bw (.mk 6 [] 0 [b,body])) (λd hd=>by
     cases Yp:DG (AU 32) f body with
     | none=>grind
     | some l=>
      rw[Yp] at hd;obtain⟨z1,z2⟩:=Cz f body l Yp d hd;refine⟨Uv f body l OW hsy Yp d hd,AA,?_⟩;have m1:(Ae d.body).length*bw b<=cv body*bw b:=B5 _ z2
      grind) (λl hl=>⟨λc hc=>⟨Uv f b l KA fQ hl c hc,(Cz f b l hl c hc).1⟩,Ns f b l hl⟩) W7 AA AA hmb.c (by
     cases Yp:DG (AU 32) f body with
     | none=>simp
     | some l=>grind[Ns]) (s0:=s) le (o:=DG (AU 32) (f+1) (.mk 6 [] 0 [b,body])) (x0:=(DG (AU 32) f body).isNone) eo (QR:=QR) (X:=b2) Hh AA hR1 sM hQ ((DG (AU 32) f body).getD []).length 0 (DG (AU 32) f body).isNone [] b2 OZ (.AE []) AA (λh=>⟨h,AB,AD⟩) (λh=>by grind) AD AZP AB (AY _) (.inl ⟨rfl,rfl⟩) AZQ
    omega
end
theorem AJU {rr:Bool} {k:Nat} {rows:List (List PV)} {v:AV} {s0:AQ} {bs:List (List AV)} {ts:List (Nat×Nat)} {Post:AV->AQ->Prop} (h0:BI s0) (hT:bs.take s0.bs.length=s0.bs) (hv:Dl 0 ts k v rows) (hP:Post v ⟨s0.bs,ts⟩):QM rr s0.bs.length Post v ⟨bs,ts⟩:=by
 have hok:((bs.take s0.bs.length).all (Ah s0.bs.length))=true:=by
  rw[hT,C3];exact h0
 rcases hv with rfl|⟨t,rfl,h1,_⟩
 .refine⟨_,_,?_,hP⟩
  grind[Hs,Hz,Tel.close]
 .have:=(BH.1 h1).1
  refine⟨_,_,?_,hP⟩
  grind[Hs,Hz,Tel.close]
mutual
theorem QE:∀(t:Ty) (l:List Int),(occs t l).length<=l.length+size t
 | .mk k _ i ts,l=>by
  have:=Xv ts l
  grind[occs,size]
theorem Xv:∀(ts:List Ty) (l:List Int),(E6 ts l).length<=l.length+Ac ts
 | [],l=>by grind[E6]
 | t::ts,l=>by
  have h1:=QE t l;have h2:=Xv ts (occs t l)
  grind[E6,Ac]
end
section
variable {R:RT}
def yM (R:RT) (x:AV) (t:Ty) (l:List Int) (s:AQ):Prop:=∀(L:BL) (a:AV),L.ro=0->L.rt=0->Dl 0 s.ts 3 a (Ab l) ->
 ∃v s',(∃ts',Dl 0 ts' 3 v (Ab (occs t l))/\Cd a v s.ts ts'/\s'=⟨s.bs,ts'⟩)/\BW (env R) L 65 [x,a] s v s'
theorem yN {l:List Int} {i:Int} {n:List UInt8} {k:Int} {g:AV} {a:AV} {s:AQ} {p:Nat} (ha:Dl 0 s.ts 3 a (Ab l)) (hl:l.length<2 ^ 40) (g0:s.bs[p]?=some [AG k,SS n,AG i,g]) {QR:QT}
  (hQ:∀v ts',Dl 0 ts' 3 v (Ab (bif l.contains i then l else l++[i]))->Cd a v s.ts ts'->QR v ⟨s.bs,ts'⟩) :
  ∀(j q:Nat),q+j=l.length->(l.contains i=(l.drop q).contains i)->AEb R 0 0 0 a (.ptr p 0) (AG q) s QR:=by
 intro j
 induction j with
 | zero=>
  intro q hi hc;refine AEc (Aq (n:=l.length) (by rw[ha.A1.BA,BF]) (Ao ?_));rw[Az AA];rw[CH AA] at hc;rw[hc] at hQ;refine Ay (AQw (AO (AX g0) (AZ (off:=2) g0 rfl (Pv ⟨AI,cq ha rfl hl λa' ts' h1 h2=>?_⟩))))
  grind
 | succ j ih=>
  intro q hi hc;refine AEc (Aq (n:=l.length) (by rw[ha.A1.BA,BF]) (Ao ?_));rw[Ar AA];obtain⟨w,hw⟩:∃w,l[q]?=some w:=⟨_,Au AA⟩;refine A9 (AQx (BS ha.A1 (row:=[.sc (.int .i64 w)]) AA (by simp[*,KX]) rfl AA (Dy (AO (AX g0) (AZ (off:=2) g0 rfl (A0 ?_))))));have hd:l.drop q=w::l.drop (q+1):=by grind[List.drop_eq_getElem_cons]
  rw[hd,List.contains_cons] at hc;cases hwi:w==i with
  | true=>
   simp_all[Cd.refl]
  | false=>
   have:(i==w)=false:=by
    have h1:w≠i:=by simpa using hwi
    simpa using λh:i=w=>h1 h.symm
   rw[this,GL] at hc;refine Ay (AQy (Ba AA AA ?_));have:=ih (q+1) AA hc;simpa using this
theorem yO {ts:List Ty} {a0:AV} (ha0:BE a0 (Ad ts)) (hl:Ac ts<2 ^ 37) {k i:Int} {n:List UInt8} (hk:(k==2||k==3)=true) {l0:List Int} (hl0:l0.length+Ac ts<2 ^ 38) {p:Nat} {bs:List (List AV)} {Np:List (Nat×Nat)} {c0:AV} (g0:bs[p]?=some [AG k,SS n,AG i,a0]) (hs:BI ⟨bs,Np⟩)
  (ih:∀t∈ts,∀(l:List Int) (s:AQ),l.length+size t<2 ^ 38->BI s->yM R (.agg ((Aj t).map .pv)) t l s) {QR:QT}
  (hQ:∀v ts',Dl 0 ts' 3 v (Ab (E6 ts l0))->Cd c0 v Np ts'->QR v ⟨bs,ts'⟩) :
  ∀(j q:Nat) (l:List Int) (c:AV) (tk:List (Nat×Nat)),q+j=ts.length->E6 (ts.drop q) l=E6 ts l0->l.length+Ac (ts.drop q)<=l0.length+Ac ts->Dl 0 tk 3 c (Ab l)->Cd c0 c Np tk ->
   AEd R 0 0 0 c (.ptr p 0) (AG q) ⟨bs,tk⟩ QR:=by
 have Tn:=BV ts;have hrow:∀(s:AQ) (K:AV->Prop),K (AG ts.length)->HI s a0 K:=λs K h=>Aq (n:=ts.length) (by rw[ha0.BA,Aa]) h
 intro j
 induction j with
 | zero=>
  intro q l c tk hi he hle hc hch;rw[CH AA,E6] at he;subst he;refine yP (AO (AX g0) (AZ (off:=0) g0 rfl (A0 ?_)));have fin:∀t,yQ R 0 0 0 c t QR->yQ R 0 0 0 c t QR:=λ_ h=>h
  have last:HI ⟨bs,tk⟩ a0 λa41=>DX .i64 .lss (AG q) a41 λa43=>a43=BB false:=by grind[Ao]
  cases b3:(k==3) with
  | true=>
   refine Cr (Cr (Cr (pk (Ak (Ak (AO (AX g0) (Ak (AZ (off:=3) g0 rfl (Ak (hrow _ _ (Ak (Ao (pk ?_)))))))))))));rw[Az AA];exact Ay (yR (hQ c tk hc hch))
  | false=>
   have b2:(k==2)=true:=AB;refine Ak (AO (AX g0) (Ak (AZ (off:=0) g0 rfl (Ak (A0 (pk ?_))))));rw[b2];refine Ak (Ak (AO (AX g0) (Ak (AZ (off:=3) g0 rfl (Ak (hrow _ _ (Ak (Ao (pk ?_)))))))));rw[Az AA];exact Ay (yR (hQ c tk hc hch))
 | succ j D1=>
  intro q l c tk hi he hle hc hch;obtain⟨t,ht⟩:∃t,ts[q]?=some t:=⟨_,Au AA⟩;have hd:ts.drop q=t::ts.drop (q+1):=by grind[List.drop_eq_getElem_cons]
  rw[hd,E6] at he;rw[hd,Ac] at hle;have hlen:=QE t l
  have step:AEe R 0 0 0 c (.ptr p 0) (AG q) ⟨bs,tk⟩ QR:=by
   refine AQz (AO (AX g0) (AZ (off:=3) g0 rfl (BS ha0 (row:=Aj t) AA (by grind[BJ]) (Al t) AA (Ca ?_))));obtain⟨v,s',⟨ts',h1,h2,rfl⟩,h3⟩:=ih t (A3 ht) l ⟨bs,tk⟩ AA hs (Ce (env R) 65 0 0 0) c rfl rfl hc;refine⟨_,_,h3,AQ0 (Ba AA AA ?_)⟩;have:=D1 (q+1) (occs t l) v ts' AA he AA h1 (hch.trans h2)
   grind
  refine yP (AO (AX g0) (AZ (off:=0) g0 rfl (A0 ?_)));cases b3:(k==3) with
  | true=>
   refine Cr (Cr (Cr (pk (Ak (Ak (AO (AX g0) (Ak (AZ (off:=3) g0 rfl (Ak (hrow _ _ (Ak (Ao (pk ?_)))))))))))))
   grind[A9]
  | false=>
   have b2:(k==2)=true:=AB;refine Ak (AO (AX g0) (Ak (AZ (off:=0) g0 rfl (Ak (A0 (pk ?_))))));rw[b2];refine Ak (Ak (AO (AX g0) (Ak (AZ (off:=3) g0 rfl (Ak (hrow _ _ (Ak (Ao (pk ?_)))))))))
   grind[A9]
mutual
theorem eC:∀(t:Ty),size t<2 ^ 37->∀(x:AV),BP t x->∀(l:List Int) (s:AQ),l.length+size t<2 ^ 38->BI s->yM R x t l s
 | .mk k n i ts,h,x,hx,l,s,SN,hs=>by
  intro L a hro Ee ha;obtain⟨a0,rfl,ha0⟩:=hx;simp only[size] at h SN;have ih:=Xw ts AA;refine m65 ?_;rw[hro,Ee];refine AQ1 (Bx (cs:=[AG k,SS n,AG i,a0]) rfl (by simp[ha0.ok]) ?_);have g0:=Ax s.bs [AG k,SS n,AG i,a0];have hT:(s.bs++[[AG k,SS n,AG i,a0]]).take s.bs.length=s.bs:=AD;have hs1:BI ⟨s.bs++[[AG k,SS n,AG i,a0]],s.ts⟩:=BI.app (s:=s) hs (by simp[Ah,Aw,ha0.Aw]);generalize s.bs++[[AG k,SS n,AG i,a0]]=bs at g0 hT hs1
  have fin:∀v ts',Dl 0 ts' 3 v (Ab (occs (.mk k n i ts) l))->Cd a v s.ts ts'->QM (L.rr 65) s.bs.length (λv s'=>∃ts',Dl 0 ts' 3 v (Ab (occs (.mk k n i ts) l))/\Cd a v s.ts ts'/\s'=⟨s.bs,ts'⟩) v ⟨bs,ts'⟩:=
   λv ts' h1 h2=>AJU hs hT h1 ⟨ts',h1,h2,rfl⟩
  rw[occs] at fin;rw[occs];refine AO (AX g0) (AZ (off:=0) g0 rfl (A0 ?_));cases b5:(k==5) with
  | true=>
   rw[b5] at fin;refine A9 ?_;have:=yN (R:=R) (s:=⟨bs,s.ts⟩) (p:=s.bs.length) (i:=i) (n:=n) (k:=k) (g:=a0) ha AA g0 (QR:=QM (L.rr 65) s.bs.length (λv s'=>∃ts',Dl 0 ts' 3 v (Ab (bif l.contains i then l else l++[i]))/\Cd a v s.ts ts'/\s'=⟨s.bs,ts'⟩)) (λv ts' h1 h2=>fin v ts' h1 h2) l.length 0 AA rfl
   grind
  | false=>
   rw[b5] at fin;simp only[AK] at fin ⊢;refine Ay (AQ2 ?_);cases b23:(k==2||k==3) with
   | true=>
    rw[b23] at fin;simp only[AM] at fin ⊢;have:=yO (R:=R) ha0 AA b23 (l0:=l) AA g0 (hs:=hs1) (c0:=a) ih (QR:=QM (L.rr 65) s.bs.length (λv s'=>∃ts',Dl 0 ts' 3 v (Ab (E6 ts l))/\Cd a v s.ts ts'/\s'=⟨s.bs,ts'⟩)) fin ts.length 0 l a s.ts AA rfl (AY _) ha (Cd.refl _ _);omega
   | false=>
    rw[b23] at fin;simp only[AK] at fin ⊢;simp only[Gu] at b23;refine yP (AO (AX g0) (AZ (off:=0) g0 rfl (A0 ?_)));rw[b23.2];refine Ak (AO (AX g0) (Ak (AZ (off:=0) g0 rfl (Ak (A0 (pk ?_))))));rw[b23.1];exact B8 (B8 (B8 (B8 (B8 (pk (Ay (yR (fin a s.ts ha (Cd.refl _ _)))))))))
theorem Xw:∀(l:List Ty),Ac l<2 ^ 37->∀t∈l,∀(o:List Int) (s:AQ),o.length+size t<2 ^ 38->BI s->yM R (.agg ((Aj t).map .pv)) t o s
 | [],_,_,h=>by cases h
 | e::l,h,t,hm=>by
  simp only[Ac] at h;rcases A5.1 hm with h' | h'
  .rw[h']
   exact eC e AA _ (A7.Bi e).Fj
  .exact Xw l AA t h'
end
end
end Go.Proofs.YtpgfpakdnijngaaGreatDoor
