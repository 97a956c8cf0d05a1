/-
  The reference: withBranch.
-/
import Derived.Test.YtpgfpakdnijngaaGreatDoorTF
import Derived.Test.YtpgfpakdnijngaaGreatDoorTE
set_option linter.all false
namespace Go.Proofs.YtpgfpakdnijngaaGreatDoor
open Go.Tel
open List renaming length->F
open Option renaming some->Y,none->G
open Bool renaming true->Z,false->ϴ
attribute [local simp] Hr MD Ir JL EK E3 Ee wO setCells Hw EX Dd Co Ex alive Dh Jf Qk bU Gq Iu Gl Hs K9 Iv gX fY okB gY gZ gh gi gj ag gm gp gu gv gw gx gy gz hG hJ hO okF hY iA iB iC iD Tu iE Ow Ox Oy Oz iG iH iI iJ iK iL iM iP iQ iR GG iT fZ iU iV iW iX iY iZ ia ic ie ig C0
theorem KL {t:Ty} {cs:Ϭ} (h:BX t (.agg cs)):Tel.D9 (.agg cs) (.agg cs)=true:=by
 obtain⟨k,n,i,ts⟩:=t;obtain⟨a,b,d⟩:=h
 grind[BN.D9,Tel.D9,JY,OH,F7,Ie]
def vV {a:AV} {ds:Ϭ} {t:Ty} (e:BS a=Z) (f:cellsOf a=[a]) (h:BX t (.agg ds)):Ee Z5 [(0,1,a),(1,4,.agg ds)]=Y (a::ds):=by
 have⟨d,b,_⟩:=h.cells
 match ds,d,b with
 | [i,j,k,l],_,b=>
  simp[*]
def KM {E:Env} {s:AY} {id:Nat} {a:AV} {cs:Ϭ} {K:AV->Prop} (hb:s.bs[id]?=Y (a::cs)) (b:F cs=4) (h:K (.agg cs)):EX E s (Y 4) (.ptr id (0+1)) K:=TD hb b h
section
variable {R:RT}
def dy {n:Nat} (hn:n<2 ^ 60) {t:Ty} (h:AP t<2 ^ 37) (e:TI t=Z) {x:AV} (hx:BX t x):Ah (env R) 112 [x,AG n] λr=>BD (HE n t) r:=by
 have⟨b,f,d⟩:=hx.closed [] 0;exact Ah.open (args':=[b,AG n]) AX AX rfl (by simp[*]) (by simp[BZ,d.Ik,Tel.close]) (PC hn t h e b d)
def jh {t:Ty} (h:AP t<2 ^ 37) (e:TI t=Z) {x:AV} (hx:BX t x):Ah (env R) 97 [x] λr=>BD (o8 t) r:=by
 have⟨b,f,d⟩:=hx.closed [] 0;exact Ah.open (args':=[b]) AX AX rfl (by simp[*]) (by simp[BZ,d.Ik]) (Xy t h e b d)
def ji (n:Nat) {t:Ty} (h:AP t<2 ^ 37) (e:TI t=Z) {x:AV} (hx:BX t x):Ah (env R) 128 [x,AG n] λr=>BD (Gm n t) r:=by
 have⟨b,f,d⟩:=hx.closed [] 0;exact Ah.open (args':=[b,AG n]) AX AX rfl (by simp[*]) (by simp[BZ,d.Ik,Tel.close]) (Xz n t h e b d)
def Fh (n m:Int) {t:Ty} (h:AP t<2 ^ 37) (e:TI t=Z) {x:AV} (hx:BX t x):Ah (env R) 82 [x,AG n,AG m] λr=>BD (Ht n m t) r:=by
 have⟨b,f,d⟩:=hx.closed [] 0;exact Ah.open (args':=[b,AG n,AG m]) AX AX rfl (by simp[*]) (by simp[BZ,d.Ik,Tel.close]) (SI n m t h e b d)
def vW (n:Int) {t:Ty} (h:AP t<2 ^ 37) {x:AV} (hx:BX t x):Ah (env R) 66 [x,AG n] λr=>r=BB (oI (·==n) t):=by
 have⟨b,e,d⟩:=hx.closed [] 0;exact Ah.open (args':=[b,AG n]) AX AX rfl (by simp[*]) (by simp[BZ,d.Ik,Tel.close]) (mV n t h b d)
def AAW {s:AY} {K:Ϡ} (b:K (.AE []) s):HJ ϴ s 4 [(AG 0),(SS []),(AG 0),(.AE [])] 0 [] K:=by
 simpa[HJ,GC,CZ] using b
theorem mZ {b c:Br} {k:Nat} (ω:k<F (Af b.AM)) (a0:AP b.AM<2 ^ 37) (ξ:AP c.AM<2 ^ 37) (ο:TI c.AM=Z) (a1:F b.AN+F c.AN<2 ^ 38) {x y:AV} (hx:CL b x) (O:CL c y) {s:AY} (hs:BM s) {QR:QT}
  (Γ:∀row bs E,CL (CA b k c) (.agg row)->BM ⟨bs,E⟩->bs.take (F s.bs)=s.bs->F s.bs<=F bs->Cx (.AE []) (.AE []) s.ts E->QR (.agg row) ⟨bs,E⟩):ACo R 0 0 0 x (AG k) y s QR:=by
 obtain⟨b1,rfl⟩:=hx.agg;obtain⟨b2,rfl⟩:=O.agg;have⟨a2,π,a3⟩:=hx.cells;have⟨a4,ρ,a5⟩:=O.cells;have⟨f,m,ς,t,H⟩:=id hx;cases ς;have⟨i,o,σ,X,I⟩:=id O;cases σ;have⟨u,a6,_⟩:=H.cells;have⟨K,a7,_⟩:=I.cells;refine AN7 (Bs (cs:=f::m) rfl π (Bs (cs:=[AG k]) rfl rfl (Bs (cs:=i::o) rfl ρ (Bh ?_))));simp only[EG,DV,Ct,B6,CP,CQ,CY,Nat.reduceAdd];have e:(s.bs++[f::m,[AG k],i::o,Z5])[F s.bs]?=Y (f::m):=E5 (j:=0) rfl rfl;have ε:(s.bs++[f::m,[AG k],i::o,Z5])[F s.bs+1]?=Y [AG k]:=E5 rfl rfl;have p:(s.bs++[f::m,[AG k],i::o,Z5])[F s.bs+2]?=Y (i::o):=E5 rfl rfl;have ζ:(s.bs++[f::m,[AG k],i::o,Z5])[F s.bs+3]?=Y Z5:=E5 rfl rfl;have Δ:(s.bs++[f::m,[AG k],i::o,Z5]).take (F s.bs)=s.bs:=AD;have Θ:F (s.bs++[f::m,[AG k],i::o,Z5])=F s.bs+4:=AD
 have α:BM ⟨s.bs++[f::m,[AG k],i::o,Z5],s.ts⟩:=by
  intro d A;simp only[CU,BF,ER,ES] at A
  show Ap (F (s.bs++_)) d=Z
  rcases A with A|rfl|rfl|rfl|rfl
  .exact BV AD d (hs d A)
  .grind
  .rfl
  .grind
  rfl
 generalize s.bs++[f::m,[AG k],i::o,Z5]=bs at e ε p ζ Δ Θ α;refine AAW (AR (Ab e) (Ad (off:=0) e rfl ⟨AH,FO (es:=[]) (l:=b.AN) (.inl rfl) rfl AB t λτ υ η Q=>?_⟩));rw[Ct] at η;refine AR (Ab p) (Ad (off:=0) p rfl ⟨AH,FO η rfl AA X λL M B Λ=>?_⟩);have κ:=dy (R:=R) (n:=F b.AN) AA ξ ο I;refine AR (Ab e) (KM e u (AR (Ab p) (KM p K (AR (Ab e) (Ad (off:=0) e rfl (Au (n:=F b.AN) (by rw[t.BG,Ae]) (AI κ ?_)))))));intro b3 φ;have U:BM ⟨bs,M⟩:=α;have a8:=Eb b.AM;obtain⟨w,b4,⟨z,S,rfl,D,θ,rfl⟩,Ξ⟩:=mY (R:=R) (C:=F s.bs+1) φ b.AM AA (.agg m) H k ⟨bs,M⟩ U AA AA (Co (env R) 78 0 0 0) rfl rfl ε;rw[vS _ _ _ ω] at D;have⟨b5,b6,b7⟩:=D.cells;have hF:Dt (.AE []) s.ts:=Dt.AE _ _;have Ω:Cx (.AE []) τ s.ts υ:=Q;have a9:=θ.keep B (λ_ h=>by cases h);have μ:Cx (.AE []) (.AE []) s.ts z:=((Cx.refl (.AE []) s.ts).side Q hF |>.side Λ (Q.Ut)).trans θ;have b0:=BR (b:=[AG ((k:Int)-F (Af b.AM))]) e (k:=F s.bs+1) AA;have β:=BR (b:=[AG ((k:Int)-F (Af b.AM))]) ζ (k:=F s.bs+1) AA;have ν:BM ⟨bs.set (F s.bs+1) [AG ((k:Int)-F (Af b.AM))],z⟩:=BM.set (s:=⟨bs,M⟩) U rfl _;have W:CL (CA b k c) (.agg (L::S)):=⟨L,S,rfl,B.BA,D⟩;have⟨q1,Φ,Ψ⟩:=W.cells;refine⟨_,_,Ξ,FV (vV B.BA.ok B.BA.cells D) (MV β q1 (AO _) Φ (AO _) ?_)⟩;have γ:Tel.D9 f f=true:=BN.D9 t;have χ:Tel.D9 i i=true:=BN.D9 X;have N:=KL H;have δ:=KL I;have r:∀(ts:Ϫ) d,Ex ⟨bs,ts⟩ (.ptr (F s.bs) 0) d λv=>Tel.D9 v (.ptr (F s.bs) (0+d))=true:=λts d=>AR (Ab e) (D8 _ _)
 have T:∀(ts:Ϫ) d,Ex ⟨bs,ts⟩ (.ptr (F s.bs+2) 0) d λv=>Tel.D9 v (.ptr (F s.bs+2) (0+d))=true:=λts d=>AR (Ab p) (D8 _ _)
 have ψ:∀n:Int,Tel.D9 (AG n) (AG n)=true:=λn=>by simp[Tel.D9,OH,F7]
 have ι:∀(ts:Ϫ),Gl ⟨bs,ts⟩ f λv=>Tel.D9 v (AG (F b.AN))=true:=λts=>Au (n:=F b.AN) (by rw[t.BG,Ae]) (ψ _)
 refine⟨T _ 0,Ad (off:=0) p rfl χ,r _ 1,r _ 1,r _ 1,KM e u N,KM e u N,KM e u N,T _ 1,T _ 1,KM p K δ,KM p K δ,r _ 0,r _ 0,Ad (off:=0) e rfl γ,Ad (off:=0) e rfl γ,ι _,ι _,?_⟩;refine Ag (BT β) q1 ?_;refine Γ (L::S) _ z W (BM.set (s:=⟨_,z⟩) ν (Ψ _) _) ?_ AB μ
 grind[Cf]
def CL.Jk {b:Br} {row:Ϭ} (h:CL b (.agg row)) (bs:Ϩ) (n m:Nat):∃d,BZ bs n m row=Y d/\CL b (.agg d):=by
 obtain⟨a,y,i,j,k⟩:=h;cases i;have⟨e,p,l⟩:=j.close bs n m;have⟨f,r,o⟩:=k.Jk bs n m;exact⟨e::f,by simp[*],e,f,rfl,l,o⟩
theorem AN8 {rr:Bool} {b:Br} {row:Ϭ} {s0:AY} {bs:Ϩ} {ts:Ϫ} {Post:Ϡ} (d:BM s0) (i:bs.take (F s0.bs)=s0.bs) (hb:CL b (.agg row)) (j:∀r,CL b (.agg r)->Post (.agg r) ⟨s0.bs,ts⟩):QM rr (F s0.bs) Post (.agg row) ⟨bs,ts⟩:=by
 have⟨e,f,k⟩:=hb.Jk bs (F s0.bs) (F ts);refine Zf (ds:=e) ?_ f ?_
 .rw[Cl]
  intro c l;exact d c AB
 grind
def VF {b c:Br} {k:Nat} (m:k<F (Af b.AM)) (f:AP b.AM<2 ^ 37) (i:AP c.AM<2 ^ 37) (j:TI c.AM=Z) (l:F b.AN+F c.AN<2 ^ 38) {x y:AV} (hx:CL b x) (n:CL c y) {s:AY} (hs:BM s) {L:Ba} (B:L.ro=0) (C:L.rt=0) :
  ∃v e,(∃d,CL (CA b k c) v/\Cx (.AE []) (.AE []) s.ts d/\e=⟨s.bs,d⟩)/\Bk (env R) L 78 [x,AG k,y] s v e:=by
 cases hn:Da [x,AG k,y] with
 | true=>
  have o:BM ⟨[],[]⟩:=λb hb=>by grind
  have⟨v,p,r⟩:=e78 (R:=R) (Post:=λv=>CL (CA b k c) v) hn (mZ m f i j l hx n o λD t d u E H I K=>by
   have⟨z,q1,A⟩:=u.Jk t 0 0;exact⟨.agg z,by simp[*],A⟩)
  exact⟨v,s,⟨s.ts,p,Cx.refl _ _,rfl⟩,r L s⟩
 | false=>
  refine m78 hn ?_
  grind[mZ,AN8]
end
def VG {n:Nat}:∀(a b:Ϭ),Ap n a=Z->Ap n b=Z->Ap n (a++b)=Z
 | [],b,_,h=>h
 | x::a,b,d,e=>by
  simp only[Ap,AK] at d;simp only[DV,Ap,d.1,VG a b d.2 e,F0]
def EE.block {lo:Nat} {s:AY} {l:Ϥ} {id:Nat} {rows:Ϩ} (f:s.bs[id]?=Y rows.flatten) (d:CD (λb row=>CL b (.agg row)) l rows) (i:l≠[]):∃c cs,rows.flatten=c::cs/\F (c::cs)=F l*5/\(c::cs).all BS=Z/\(∀n,Ap n (c::cs)=Z)/\alive s id=true:=by
 have⟨e,j,k⟩:=IW d
 have:rows.flatten≠[]:=by
  intro h;rw[h] at e;cases l with
  | nil=>grind
  | cons _ _=>grind
 have⟨c,r,m⟩:=Nq this
 grind[Ab]
def Zt {L:Ba} {s:AY} {lo:Nat} {a y:AV} {l r:Ϥ} (t:EE lo s.bs l a) (Q:EE lo s.bs r y) (γ:L.ro=0) (ε:F l+F r<2 ^ 38) (A:lo<=F s.bs) {K:Ϡ}
  (h:∀C e,EE lo e (l++r) C->(∀j c,(∀n,a≠.ref j 0 n 5)->s.bs[j]?=Y c->e[j]?=Y c)->F s.bs<=F e->(BM s->BM ⟨e,s.ts⟩)->K C ⟨e,s.ts⟩) :
  I6 Z L s 45 5 80 a y K:=by
 unfold I6;rcases Q with ⟨rfl,rfl⟩|⟨S,u,ζ,rfl,D,x,E⟩
 .have p:DS s 5 (.AE [])=Y []:=rfl
  rw[p];rw[G9] at h;have H:=h a s.bs t (λj c _ m=>m) (AU _) (λh=>h);rcases t with ⟨rfl,rfl⟩|⟨id,rows,T,rfl,f,i,o⟩
  .exact H
  .have⟨c,k,_,_,_,_,B⟩:=EE.block (lo:=lo) f i o
   exact⟨B,H⟩
 .have⟨c,k,U,k1,k2,k3,B⟩:=EE.block (lo:=lo) D x E
  rw[U] at D;have p:DS s 5 (.ref S 0 (F r) 5)=Y (c::k):=by grind[DS]
  rw[p];simp only[wO];have I:F (c::k) / 5=F r:=AA;rw[I];refine⟨k2,?_⟩;rcases t with ⟨rfl,rfl⟩|⟨id,rows,T,rfl,f,i,o⟩
  .refine⟨⟨AA,AA,AD⟩,?_⟩
   simp only[AQ,List.flatten_nil,DC,Ct];have W:0+F r=F r:=AA;simp only[CQ,W];refine h (.ref (F s.bs) 0 (F r) 5) (s.bs++[c::k]) (.inr ⟨F s.bs,u,A,rfl,AB,x,E⟩) (λj d _ m=>Am m _) AD (λz=>BM.app (s:=s) z (k3 _))
  .have⟨η,θ,X⟩:=IW i
   have δ:=(BJ.1 f).1;have⟨_,_,_,_,_,_,M⟩:=EE.block (lo:=lo) f i o;simp only[f];refine⟨⟨Ay,Ay,AA,M,AA,AA,AA⟩,?_⟩;have α:rows.flatten.take (F l*5)=rows.flatten:=CC AA;rw[α];have N:CD (λb O=>CL b (.agg O)) (l++r) (rows++u):=CD.append i x;refine h (.ref (F s.bs) 0 (F l+F r) 5) (s.bs.set id []++[rows.flatten++(c::k)]) (.inr ⟨F s.bs,rows++u,A,AD,?_,N,by simp[o]⟩) (λj d hn m=>?_) AD (λz=>?_)
   .grind
   .grind
   .have β:BM ⟨s.bs.set id [],s.ts⟩:=BM.set (s:=s) z AX _
    exact BM.app (s:=⟨s.bs.set id [],s.ts⟩) β (VG _ _ (X _) (k3 _))
def AHj {n:Nat} {X bs:Ϩ} {ts:Ϫ} {l:Ϥ} {v:AV} {Post:Ϡ} (hn:F X=n) (u:∀b∈X,Ap n b=Z) (x:bs.take n=X) (hb:EE n bs l v)
  (f:∀i d,EE n d l i->d.take n=X->n<=F d->BM ⟨d,ts⟩->Post i ⟨d,ts⟩):QM Z n Post v ⟨bs,ts⟩:=by
 have r:((bs.take n).all (Ap n))=true:=AB
 have e:BM ⟨X,ts⟩:=by
  intro b hb
  grind
 rcases hb with ⟨rfl,rfl⟩|⟨id,rows,y,rfl,j,k,m⟩
 .refine⟨.AE [],⟨X,ts⟩,?_,f _ X (.inl ⟨rfl,rfl⟩) AB AA e⟩
  grind[IA,IG,Tel.close]
 .have⟨c,o,p,k1,k2,k3,t⟩:=EE.block (lo:=n) (s:=⟨bs,ts⟩) j k m
  rw[p] at j;refine⟨.ref n 0 (F l) 5,⟨X++[c::o],ts⟩,?_,f _ (X++[c::o]) (.inr ⟨n,rows,AU _,rfl,AB,k,m⟩) AB AB (BM.app (s:=⟨X,ts⟩) e (k3 _))⟩
  grind[IA,IG,Nat.ble_eq_true_of_le]
def PD {R:RT} {s:AY} {lo p:Nat} {l:Ϥ} {y:AV} {c:Br} (k:EE lo s.bs l y) (e:l[p]?=Y c) {K:AV->Prop} (u:∀row,CL c (.agg row)->K (.agg row)):OK s 5 y (AG p) λa=>EX (env R) s (Y 5) a K:=by
 rcases k with ⟨rfl,rfl⟩|⟨id,rows,f,rfl,d,m,n⟩
 .grind
 .have⟨_,_,_,_,_,_,j⟩:=EE.block (lo:=lo) d m n
  have x:p<F l:=(BJ.1 e).1;refine⟨⟨AA,AA,rfl,j⟩,?_⟩;simp only[EX,d,wO,Dd]
  have t:∀(l:Ϥ) (rows:Ϩ) (p:Nat) (c:Br),CD (λb row=>CL b (.agg row)) l rows->l[p]?=Y c->∃row,CL c (.agg row)/\p*5+5<=F rows.flatten/\(rows.flatten.drop (p*5)).take 5=row:=by
   intro l
   induction l with
   | nil=>simp
   | cons b l o=>
    intro rows p c h e;cases rows with
    | nil=>exact h.elim
    | cons row rows=>
     obtain⟨f,d⟩:=h;have⟨z,_,_⟩:=f.cells;cases p with
     | zero=>
      grind
     | succ p=>
      have⟨i,r,A,i3⟩:=o rows p c d AB;refine⟨i,r,AB,?_⟩;have e5:(p+1)*5=F row+p*5:=AA;simp[*,List.drop_append,CR]
  grind
mutual
def NV {p:Int->Bool} (h:∀i,p i=Z->-(2 ^ 60)<=i/\i<2 ^ 60):∀t:Ty,vP p t=Z->TI t=Z
 | .mk k n i ts,b=>by
  rw[vP] at b;rw[TI];cases d:k==5 with
  | true=>
   grind
  | false=>
   rw[d] at b;cases e:k==2||k==3 with
   | true=>
    rw[e] at b;exact mb h ts b
   | false=>rfl
def mb {p:Int->Bool} (h:∀i,p i=Z->-(2 ^ 60)<=i/\i<2 ^ 60):∀l:Ϣ,SH p l=Z->RP l=Z
 | [],_=>rfl
 | t::l,b=>by
  simp only[SH,AK] at b;rw[RP,NV h t b.1,mb h l b.2];rfl
end
def OA {N:Nat} (b:(N:Int)<2 ^ 50):∀i,Sa N i=Z->-(2 ^ 60)<=i/\i<2 ^ 60:=by grind[AW]
def MW {bs b X:Ϩ} {n e:Nat} {c:Ϭ} (hn:n<=F bs) (f:bs.take n=X) (d:b.take (F bs)=bs.set e c):b.take n=X.set e c:=by
 have:=Bu (List.take n) d
 grind[List.take_set]
def EE.keep {lo:Nat} {bs b:Ϩ} {l:Ϥ} {a:AV} {e:Nat} {c d:Ϭ} (h:EE lo bs l a) (o:bs[e]?=Y c) (p:F c=2) (f:b.take (F bs)=bs.set e d):EE lo b l a:=by
 rcases h with h|⟨id,rows,i,j,r,k,m⟩
 .exact .inl h
 .refine .inr ⟨id,rows,i,j,?_,k,m⟩
  have n:e≠id:=by grind[IW]
  exact CN f AB
def FQ (lm:Bool) (Ar:Nat) (o:Option Ϥ):Prop:=(1<=Ar/\Ar<=64)/\(lm=Z->Ar=32)/\(lm=ϴ->o≠G)
def FQ.le {lm:Bool} {Ar:Nat} {o:Option Ϥ} (h:FQ lm Ar o):Ar<=64:=h.1.2
def FQ.of {lm:Bool} {Ar:Nat} {o b:Option Ϥ} (h:FQ lm Ar o) (hn:b=G->o=G):FQ lm Ar b:=⟨h.1,h.2.1,λe d=>h.2.2 e (hn d)⟩
def FQ.l32 {lm:Bool} {Ar:Nat} {o:Option Ϥ} (h:FQ lm Ar o) (hn:o=G):Ar=32:=by
 cases lm with
 | true=>exact h.2.1 rfl
 | false=>exact absurd hn (h.2.2 rfl)
def FQ.any {lm:Bool} {Ar:Nat} {o:Option Ϥ} (h:FQ lm Ar o) (hn:o=G) (b:Option Ϥ):FQ lm Ar b:=h.of λ_=>hn
def FQ.A7 {lm:Bool} {Ar:Nat} {o:Option Ϥ} (h:FQ lm Ar o) {n:Nat} (hb:Aa Ar n=Z->o=G):(lm&&decide ((n:Int)>32))=Aa Ar n:=by
 cases lm with
 | true=>
  have:=h.2.1 rfl;subst this;rw[PU];simp[Aa];omega
 | false=>
  cases hn:Aa Ar n with
  | true=>exact absurd (hb hn) (h.2.2 rfl)
  | false=>rfl
def jk {lm:Bool} {v:AV} {n:Nat} {s:AY} {K:Ϡ} (i:∀K:AV->Prop,K (AG n)->Gl s v K) (h:K (BB (lm&&decide ((n:Int)>32))) s) :
  Qk (BB lm) Z s (λK=>K v s) λa e=>Qk (BB lm) Z e (λK=>Gl e a λb=>K b e) λb f=>Qk (BB lm) Z f (λK=>Dh .i64 .gtr b (AG 32) λc=>K c f) λc j=>Gq (BB lm) c (BB ϴ) λd=>K d j:=by
 cases lm with
 | true=>exact Aw (Aw (i _ (Aw (Gv (pk h)))))
 | false=>exact B7 (B7 (B7 (pk h)))
structure NW (lm:Bool) (e:Nat) (x:Bool) (l:Ϥ) (s s':AY) (v:AV):Prop where
 LA:EE (F s.bs) s'.bs l v
 tk:s'.bs.take (F s.bs)=s.bs.set e [BB lm,BB x]
 len:F s.bs<=F s'.bs
 ok:BM s'
 QG:Cx (.AE []) (.AE []) s.ts s'.ts
def jl (o:Option Ϥ) (x b:Bool) (r:Ϥ):Prop:=(x=Z->b=Z)/\(x=ϴ->match o with
 | some m=>r=m/\b=ϴ
 | none=>b=Z)
section
variable {R:RT} {lm:Bool} {Ar:Nat}
def mg {e:Nat} {y t4 t7 acc:AV} {lo p:Nat} {l:Ϥ} {s:AY} (d:EE lo s.bs l y) (b:s.bs[e]?=Y [BB lm,BB Z]) {QR:QT} (h:QR acc s):jm R 0 0 0 (.ptr e 0) y t4 t7 acc (AG p) s QR:=by
 refine jn (Au (n:=F l) d.BG (Ao ?_));cases f:decide ((p:Int)<(F l:Nat)) with
 | true=>exact Aw (Aw (DK (Ab b) (Aw (AR (Ab b) (Aw (Ad (off:=1) b rfl (Aw (nt (pk (A4 (jo h)))))))))))
 | false=>exact B7 (B7 (B7 (B7 (B7 (pk (A4 (jo h)))))))
def AAX {e:Nat} {l:Ϥ} {W w S T:Nat} (b1:∀c∈l,LF W c/\F c.AN<=w) (hT:(T:Int)<AW) (hS:S<2 ^ 37) {f:Nat} {b:Br} {k:Nat} (hb:vP (Sa (F b.AN)) b.AM=Z) (χ:El b.AM=Y k) (hf:(Af b.AM).count AW<=f+1) (hbS:AP b.AM+(Af b.AM).count AW*W<=S) (hbT:F b.AN+(Af b.AM).count AW*w<=T) (hf2:f<2 ^ 27) (hll:F l<2 ^ 30)
  {lo:Nat} {y:AV} {β:Ϭ} (σ:CL b (.agg β))
  (b5:∀z:Br,vP (Sa (F z.AN)) z.AM=Z->(Af z.AM).count AW<=f->AP z.AM+(Af z.AM).count AW*W<=S->F z.AN+(Af z.AM).count AW*w<=T->∀x,CL z x->FQ lm Ar (DQ (Aa Ar) l f z)->∀s,BM s->∀L:Ba,L.ro=0->L.rt=0->L.rr 130=Z->s.bs[e]?=Y [BB lm,BB ϴ]->EE lo s.bs l y ->
   ∃v ψ,(∃r t,jl (DQ (Aa Ar) l f z) ϴ t r/\F r<=33*(f+1)+32/\NW lm e t r s ψ v)/\Bk (env R) L 130 [.ptr e 0,x,y] s v ψ)
  {s0:AY} (γ:e<F s0.bs) (U:s0.bs[e]?=Y [BB lm,BB ϴ]) (X:EE lo s0.bs l y) {o:Option Ϥ} (hF:FQ lm Ar o) {QR:QT}
  (ω:∀bs tk acc r t,jl o ϴ t r->F r<=33*(f+2)+32->BM ⟨bs,tk⟩->bs.take (F s0.bs)=s0.bs.set e [BB lm,BB t]->F s0.bs<=F bs->EE (F s0.bs) bs r acc->Cx (.AE []) (.AE []) s0.ts tk->QR acc ⟨bs,tk⟩) :
  ∀(j p:Nat) (out:Ϥ) (bs:Ϩ) (tk:Ϫ) (acc:AV),p+j=F l->Fl (Aa Ar) (λc=>DQ (Aa Ar) l f (CA b k c)) (l.drop p) out=o->F out<=Ar->BM ⟨bs,tk⟩->bs.take (F s0.bs)=s0.bs.set e [BB lm,BB ϴ]->bs[F s0.bs]?=Y β->F s0.bs+1<=F bs->EE (F s0.bs+1) bs out acc->Cx (.AE []) (.AE []) s0.ts tk ->
   jm R 0 0 0 (.ptr e 0) y (.ptr (F s0.bs) 0) (AG k) acc (AG p) ⟨bs,tk⟩ QR:=by
 have⟨a1,rb2,rb3⟩:=σ.cells;have AM5:=hF.le;intro j
 induction j with
 | zero=>
  intro p out bs tk acc b6 i a0 δ E Γ ρ ε η;have M:bs[e]?=Y [BB lm,BB ϴ]:=CN E (by rw[Cv γ]);have O:EE lo bs l y:=X.keep U rfl E;refine jn (Au (n:=F l) O.BG (Ao ?_));rw[A5 AA];rw[CR AA,Fl] at i;subst i;exact B7 (B7 (B7 (B7 (B7 (pk (A4 (jo (ω bs tk acc out ϴ ⟨λh=>(by cases h),λ_=>⟨rfl,rfl⟩⟩ AA δ E AA (ε.mono AA λj c _ h=>h) η))))))))
 | succ j τ=>
  intro p out bs tk acc b6 i a0 δ E Γ ρ ε η;have M:bs[e]?=Y [BB lm,BB ϴ]:=CN E (by rw[Cv γ]);have O:EE lo bs l y:=X.keep U rfl E;refine jn (Au (n:=F l) O.BG (Ao ?_));rw[Ax AA];have⟨c,μ⟩:∃c,l[p]?=Y c:=⟨_,Az AA⟩;have a2:=A8 μ;have⟨θ,hcw⟩:=b1 c a2;rw[drop_cons μ,Fl] at i;refine Aw (Aw (DK (Ab M) (Aw (AR (Ab M) (Aw (Ad (off:=1) M rfl (Aw (nt (pk (BH (AHk (Ag Γ a1 (PD O μ λrc a3=>?_)))))))))))))
  have ς:0<(Af b.AM).count AW:=by
   have hfs:=Dr χ
   grind
  have m0:1*w<=(Af b.AM).count AW*w:=Be _ ς;have m3:1*W<=(Af b.AM).count AW*W:=Be _ ς;have a4:((F b.AN+F c.AN:Nat):Int)<AW:=AA;have hh:(AW:Int)=1073741824:=rfl;have⟨b7,g2,Δ,b8⟩:=Zn hb χ θ a4;have el:F (CA b k c).AN=F b.AN+F c.AN:=by simp[CA]
  have m1:(Af b.AM).count AW*W=(Af (CA b k c).AM).count AW*W+W:=by rw[<-Δ,Kh]
  have m2:(Af b.AM).count AW*w=(Af (CA b k c).AM).count AW*w+w:=by rw[<-Δ,Kh]
  obtain⟨b9,s1,⟨υ,w1,w2,rfl⟩,w3⟩:=VF (R:=R) (k:=k) b8 AA (by have:=θ.Gw; omega) (NV (OA AA) _ θ.ok) AA σ a3 (s:=⟨bs,tk⟩) δ (L:=Co (env R) 130 0 0 0) rfl rfl;refine⟨_,_,w3,?_⟩;have a5:BM ⟨bs,υ⟩:=δ;have⟨v2,s2,⟨r,t,ν,hrl,I⟩,w5⟩:=b5 (CA b k c) b7 AA AA AA b9 w1 (hF.of λh=>by rw[<-i,h]) ⟨bs,υ⟩ a5 (Co (env R) 130 0 0 0) rfl rfl AX M O;refine⟨_,_,w5,AH,?_⟩;obtain⟨N,D⟩:=s2
  have a6:N.take (F s0.bs)=s0.bs.set e [BB lm,BB t]:=by
   have:=MW (n:=F s0.bs) AA E I.tk;rwa [Ib] at this
  have AZL:F bs<=F N:=I.len;have a7:N[F s0.bs]?=Y β:=CN I.tk AB;have ο:EE (F s0.bs+1) N out acc:=ε.keep M rfl I.tk;have a8:EE (F s0.bs+1) N r v2:=I.LA.mono ρ λj c _ h=>h
  refine Zt ο a8 rfl AA AB ?_;intro K A q1 q2 q3 q4;have ι:=q4 I.ok
  have Φ:∀j c,j<F s0.bs+1->N[j]?=Y c->A[j]?=Y c:=by
   intro j c hj a9;refine q2 j c (λn ha=>?_) a9;rcases ο with ⟨ξ,_⟩|⟨id,rows,ξ,B,_⟩
   all_goals grind
  have α:A.take (F s0.bs)=s0.bs.set e [BB lm,BB t]:=by
   rw[<-a6];refine Fw λj=>?_
   grind
  have H:A[e]?=Y [BB lm,BB t]:=CN α (by rw[Cv γ]);have φ:A[F s0.bs]?=Y β:=Φ _ _ AA a7;have ζ:Cx (.AE []) (.AE []) s0.ts D:=(η.trans w2).trans I.QG;have π:F s0.bs+1<=F A:=AB;have hy3:EE lo A l y:=X.keep U rfl α;have Ψ:EE (F s0.bs) A (out++r) K:=q1.mono AA λj c _ h=>h
  have u:=ν.2 rfl
  have eb:(lm&&decide ((F (out++r):Int)>32))=Aa Ar (F (out++r)):=hF.A7 λh=>by
   cases Q:DQ (Aa Ar) l f (CA b k c) with
   | none=>
    rw[Q] at i;exact i.symm
   | some m=>
    rw[Q] at u i;simp only at u i;rw[<-u.1,h] at i;exact i.symm
  refine DK (Ab H) (AR (Ab H) (Ad (off:=0) H rfl (jk (n:=F (out++r)) (λ_ h=>Au q1.BG h) ?_)));rw[eb]
  have Ξ:∀(C:Ϩ),BM ⟨C,D⟩->C.take (F s0.bs)=s0.bs.set e [BB lm,BB Z]->F s0.bs+1<=F C->EE (F s0.bs) C (out++r) K->o=G->vX R 0 0 0 (.ptr e 0) y (.ptr (F s0.bs) 0) (AG k) K (AG p) ⟨C,D⟩ QR:=by
   intro C ξ B Θ h4 Λ;have h32:=hF.l32 Λ;refine jq (Bb AA AA ?_);have b0:C[e]?=Y [BB lm,BB Z]:=CN B (by rw[Cv γ]);have:=mg (R:=R) (t4:=.ptr (F s0.bs) 0) (t7:=AG k) (acc:=K) (p:=p+1) (s:=⟨C,D⟩) (X.keep U rfl B) b0 (ω C D K (out++r) Z ⟨λ_=>rfl,λ_=>by rw[Λ]⟩ AB ξ B AA h4 ζ)
   grind
  have Ω:o=G\/(t=ϴ/\Aa Ar (F (out++r))=ϴ/\Fl (Aa Ar) (λc=>DQ (Aa Ar) l f (CA b k c)) (l.drop (p+1)) (out++r)=o)\/(t=ϴ/\Aa Ar (F (out++r))=Z/\o=G):=by
   have u:=ν.2 rfl
   grind
  cases κ:Aa Ar (F (out++r)) with
  | true=>
   have ho:o=none:=AB;refine BH (DK (Ab H) (AR (Ab H) (C1 H AD rfl (AO _) rfl (.inl (AO _)) ?_)));have e1:[BB lm,BB t].set (0+1) (BB Z)=[BB lm,BB Z]:=rfl;rw[e1];refine Ξ _ (BM.set (s:=⟨A,D⟩) ι rfl _) (by simp[*,Ep]) AB (Ψ.keep H rfl (d:=[BB lm,BB Z]) (by grind[List.take_of_length_le])) ho
  | false=>
   refine A4 ?_;rcases Ω with h|⟨rfl,B,Θ⟩|⟨_,B,_⟩
   .cases t with
    | true=>grind
    | false=>
     have u:=ν.2 rfl;cases Q:DQ (Aa Ar) l f (CA b k c) with
     | none=>rw[Q] at u; cases u
     | some m=>
      rw[Q] at i u;simp only at i u;obtain⟨rfl,_⟩:=u;rw[κ] at i;simp only[AL] at i;refine jq (Bb AA AA ?_);have:=τ (p+1) (out++r) A D K AA i (by simpa[Aa] using κ) ι α φ π q1 ζ;simpa using this
   .refine jq (Bb AA AA ?_)
    have:=τ (p+1) (out++r) A D K AA Θ (by simpa[Aa] using B) ι α φ π q1 ζ;simpa using this
   .rw[κ] at B; cases B
end
section
variable {R:RT} {lm:Bool} {Ar:Nat}
theorem Oc {e:Nat} {s0:AY} (k:BM s0) {bs:Ϩ} {ts:Ϫ} {l:Ϥ} {x:Bool} {v:AV} {Post:Ϡ} (p:bs.take (F s0.bs)=s0.bs.set e [BB lm,BB x]) (hb:EE (F s0.bs) bs l v) (m:Cx (.AE []) (.AE []) s0.ts ts) (r:∀d f,NW lm e x l s0 f d->Post d f):QM Z (F s0.bs) Post v ⟨bs,ts⟩:=by
 refine AHj (X:=s0.bs.set e [BB lm,BB x]) AD ?_ p hb λd n i s t u=>r d ⟨n,ts⟩ ⟨i,s,t,u,m⟩
 have:=BM.set k (c:=[BB lm,BB x]) rfl ts (j:=e);intro b o;have i:=this b o
 grind
def pV {e:Nat} {l:Ϥ} {W w S T:Nat} (δ:∀c∈l,LF W c/\F c.AN<=w) (ε:(T:Int)<AW) (hS:S<2 ^ 37) (β:F l<2 ^ 30) {lo:Nat} {y:AV}:∀(f:Nat),f<=2 ^ 27->∀(b:Br),vP (Sa (F b.AN)) b.AM=Z->(Af b.AM).count AW<=f->AP b.AM+(Af b.AM).count AW*W<=S->F b.AN+(Af b.AM).count AW*w<=T->∀x,CL b x->FQ lm Ar (DQ (Aa Ar) l f b)->∀(exc:Bool) (s:AY),BM s->∀L:Ba,L.ro=0->L.rt=0->L.rr 130=Z->s.bs[e]?=Y [BB lm,BB exc]->EE lo s.bs l y ->
  ∃v i,(∃r m,jl (DQ (Aa Ar) l f b) exc m r/\F r<=33*(f+1)+32/\NW lm e m r s i v)/\Bk (env R) L 130 [.ptr e 0,x,y] s v i:=by
 intro f
 induction f with
 | zero=>
  intro _ b hb hf N O x hx hF exc s n L A B C u D;have le:=(BJ.1 u).1;have α:s.bs.set e [BB lm,BB exc]=s.bs:=by grind[List.set_getElem_self]
  obtain⟨d,rfl⟩:=hx.agg;have⟨z,E,U⟩:=hx.cells;refine AN9 AX ?_;rw[A,B,C];have t:=A0 s.bs d;refine vY (Bs (cs:=d) rfl E (Ag t z (AI (KJ AA hx) ?_)));rintro _ rfl;have hn:El b.AM=none:=by grind[El]
  rw[X1,hn];refine Ao (BH (Ag t z (KH hx ?_)));refine Oc (x:=exc) (l:=[b]) n AB (.inr ⟨_,[d],AD,rfl,AD,⟨hx,Ay⟩,AD⟩) (Cx.refl _ _) λH i h=>⟨[b],exc,⟨λh=>h,λh=>?_⟩,AD,h⟩
  grind[DQ]
 | succ f ζ=>
  intro ρ b hb hf N O x hx hF exc s n L A B C u D;have le:=(BJ.1 u).1;have α:s.bs.set e [BB lm,BB exc]=s.bs:=by grind[List.set_getElem_self]
  obtain⟨d,rfl⟩:=hx.agg;have⟨z,E,U⟩:=hx.cells;refine AN9 AX ?_;rw[A,B,C];have t:=A0 s.bs d;refine vY (Bs (cs:=d) rfl E (Ag t z (AI (KJ AA hx) ?_)));rintro _ rfl;rw[X1];have Q:(s.bs++[d]).take (F s.bs)=s.bs.set e [BB lm,BB exc]:=AB;cases η:El b.AM with
  | none=>
   refine Ao (BH (Ag t z (KH hx ?_)));refine Oc (x:=exc) (l:=[b]) n AB (.inr ⟨_,[d],AD,rfl,AD,⟨hx,Ay⟩,AD⟩) (Cx.refl _ _) λH i h=>⟨[b],exc,⟨λh=>h,λh=>?_⟩,AB,h⟩
   grind[DQ]
  | some k=>
   simp only;refine Ao ?_;rw[A5 AA];refine A4 (AHl ?_);have γ:BM ⟨s.bs++[d],s.ts⟩:=BM.app (s:=s) n (U _);cases exc with
   | true=>
    have θ:=Am u d
    have:=mg (R:=R) (t4:=.ptr (F s.bs) 0) (t7:=AG k) (acc:=.AE []) (p:=0) (s:=⟨s.bs++[d],s.ts⟩) (QR:=QM Z (F s.bs) (λv i=>∃r m,jl (DQ (Aa Ar) l (f+1) b) Z m r/\F r<=33*(f+1+1)+32/\NW lm e m r s i v)) (D.mono (AU _) λj c _ h=>Am h _) θ
     (Oc (x:=Z) (l:=[]) n Q (.inl ⟨rfl,rfl⟩) (Cx.refl _ _) λH i h=>⟨[],Z,⟨λ_=>rfl,λh=>(by cases h)⟩,AD,h⟩)
    omega
   | false=>
    have:=AAX (R:=R) (f:=f) (k:=k) (o:=DQ (Aa Ar) l (f+1) b) (QR:=QM Z (F s.bs) (λv i=>∃r m,jl (DQ (Aa Ar) l (f+1) b) ϴ m r/\F r<=33*(f+1+1)+32/\NW lm e m r s i v)) δ ε hS hb η hf N O AA β hx (λι I K X M x hx hF s n L q1 κ μ ν ξ=>ζ AA ι I K X M x hx hF ϴ s n L q1 κ μ ν ξ) le u D hF
     (λς tk acc r m I K X M σ ο π=>Oc n M ο π λH i h=>⟨r,m,I,K,h⟩) (F l) 0 [] (s.bs++[d]) s.ts (.AE []) AA (by grind[DQ]) AD γ Q t AD (.inl ⟨rfl,rfl⟩) (Cx.refl _ _)
    omega
def Jv {e:Nat} {l:Ϥ} {y:AV} {exc:Bool} {s:AY} (hs:BM s) (d:s.bs[e]?=Y [BB lm,BB exc]) (p:EE 0 s.bs l y) (B:(lm&&decide ((F l:Int)>32))=Aa Ar (F l)) {L:Ba} (u:L.ro=0) (z:L.rt=0) :
  ∃v i,(v=(bif exc||Aa Ar (F l) then .AE [] else y)/\i=⟨s.bs.set e [BB lm,BB (exc||Aa Ar (F l))],s.ts⟩)/\Bk (env R) L 99 [.ptr e 0,y] s v i:=by
 have le:=(BJ.1 d).1;refine m99 AX ?_;rw[u,z];refine AOA (DK (Ab d) (AR (Ab d) (Ad (off:=0) d rfl (jk (n:=F l) (λ_ h=>Au p.BG h) ?_))));rw[B]
 have nil:∀(x:Bool) (m:Ϩ),x=(exc||Aa Ar (F l))->x=Z->m=s.bs.set e [BB lm,BB x]->ACp R 0 0 0 (.ptr e 0) y ⟨m,s.ts⟩ (QM (L.rr 99) (F s.bs) λv i=>v=(bif exc||Aa Ar (F l) then .AE [] else y)/\i=⟨s.bs.set e [BB lm,BB (exc||Aa Ar (F l))],s.ts⟩):=by
  rintro x m r rfl rfl;have o:(s.bs.set e [BB lm,BB Z])[e]?=Y [BB lm,BB Z]:=by rw[Cv le]
  refine ACq (DK (Ab o) (AR (Ab o) (Ad (off:=1) o rfl (BH ?_))));have A:=BM.set hs (c:=[BB lm,BB Z]) rfl s.ts (j:=e);have f:(s.bs.set e [BB lm,BB Z]).take (F s.bs)=s.bs.set e [BB lm,BB Z]:=CC AD;refine⟨.AE [],⟨s.bs.set e [BB lm,BB Z],s.ts⟩,?_,AB,by rw[<-r]⟩;unfold IA
  have k:(((s.bs.set e [BB lm,BB Z]).take (F s.bs)).all (Ap (F s.bs)))=true:=by
   rw[f,Cl];intro b hb;have:=A b hb
   grind
  grind[IG,Tel.close]
 cases t:Aa Ar (F l) with
 | true=>
  refine BH (DK (Ab d) (AR (Ab d) (C1 d AD rfl (AO _) rfl (.inl (AO _)) ?_)))
  grind
 | false=>
  rw[t] at nil;refine A4 ?_;cases exc with
  | true=>exact nil Z _ rfl rfl (by grind[List.set_getElem_self])
  | false=>
   have C:s.bs.set e [BB lm,BB ϴ]=s.bs:=by grind[List.set_getElem_self]
   refine ACq (DK (Ab d) (AR (Ab d) (Ad (off:=1) d rfl (A4 (AOB ?_)))));have f:s.bs.take (F s.bs)=s.bs:=Lu
   have k:((s.bs.take (F s.bs)).all (Ap (F s.bs)))=true:=by
    rw[f,Cl];exact hs
   refine⟨y,⟨s.bs,s.ts⟩,?_,rfl,AB⟩;unfold IA;rw[f] at k;simp only[f,k,AQ];rcases p with ⟨rfl,_⟩|⟨id,rows,r,rfl,D,E,H⟩
   all_goals grind[IG,Nat.le_of_ble_eq_true,Tel.close]
end
def QV {L:Ba} {s:AY} {id:Nat} {a:AV} {old cs:Ϭ} {K:AY->Prop} (hb:s.bs[id]?=Y (a::old)) (i:F old=4) (b:F cs=4) (d:L.ro<=id) (e:cs.all BS=Z) (hn:L.n0<=id) (h:K ⟨s.bs.set id (a::cs),s.ts⟩):Hw L s 4 (.ptr id (0+1)) (.agg cs) K:=by
 have f:cellsOf (.agg cs)=cs:=rfl;simp only[Hw,hb,wO,f];refine⟨⟨b,AB,d,e,.inl hn,AA⟩,?_⟩
 match old,i,cs,b with
 | [j,k,l,m],_,[n,o,p,r],_=>exact h
def oX (exc:Bool) (o:Option Ϥ):Option Ϥ:=bif exc then G else o
def vZ (R:RT) (lm:Bool) (Ar e:Nat) (t:Ty) (o:Option Ϥ):Prop:=FQ lm Ar o->∀x,BX t x->∀(b:Bool) (s:AY),BM s->∀L:Ba,L.ro=0->L.rt=0->L.rr 49=Z->s.bs[e]?=Y [BB lm,BB b] ->
 ∃v d,NW lm e (oX b o).isNone ((oX b o).getD []) s d v/\Bk (env R) L 49 [.ptr e 0,x] s v d
def pW (A7:Nat->Bool) (f:Nat) (b:Br):DQ A7 [] f b≠none:=by
 cases f with
 | zero=>simp[DQ]
 | succ f=>
  rw[DQ];cases El b.AM <;> simp[Fl]
section
variable {R:RT} {lm:Bool} {Ar:Nat}
def WW {e:Nat} {o:Option Ϥ} {b:Br} {Dz:Ty} {Wb W w T C:Nat} (hb:LF Wb b) (hC:F (Af b.AM)<=C) (hl:∀l,o=Y l->(∀c∈l,LF W c/\F c.AN<=w)/\F l<=64) (hT:(T:Int)<AW) (hbT:F b.AN+F (Af b.AM)*w<=T) (hS:Wb+C*W<2 ^ 37) (hWb:Wb<=2 ^ 27) (hF:FQ lm Ar (Dn (Aa Ar) o Dz b)) (a4:vZ R lm Ar e Dz o) {x y:AV} (hx:CL b x) (α:BX Dz y) {exc:Bool} {s:AY} (hs:BM s) {L:Ba} (a5:L.ro=0) (a6:L.rt=0) (a7:L.rr 100=Z) (hE:s.bs[e]?=Y [BB lm,BB exc]) :
  ∃v O,(∃r B,jl (Dn (Aa Ar) o Dz b) exc B r/\F r<=(33*(2 ^ 27+1)+32)/\NW lm e B r s O v)/\Bk (env R) L 100 [.ptr e 0,x,y] s v O:=by
 have hh:(AW:Int)=1073741824:=rfl;have hsiz:=hb.Gw;have hcs:=Eb b.AM;have φ:((F b.AN:Nat):Int)<AW:=AA;have⟨Θ,b2,b3⟩:=AAI hb φ;have⟨r1,r2⟩:=AAJ Θ φ;have le:=(BJ.1 hE).1;have same:s.bs.set e [BB lm,BB exc]=s.bs:=by grind[List.set_getElem_self]
 obtain⟨row,rfl⟩:=hx.agg;have⟨c1,c2,c3⟩:=hx.cells;obtain⟨u,rfl⟩:=α.agg;have⟨π,y2,y3⟩:=α.cells;have⟨f,E,a8,δ,χ⟩:=id hx;cases a8;have⟨Λ,d2,d3⟩:=χ.cells;refine AXB AX ?_;rw[a5,a6,a7];refine AHm (Bs (cs:=f::E) rfl c2 (Bs (cs:=u) rfl y2 ?_));simp only[EG,DV,Ct,B6,CP,CQ,CY,Nat.reduceAdd];have Q:(s.bs++[f::E,u])[F s.bs]?=Y (f::E):=E5 (j:=0) rfl rfl;have Ξ:(s.bs++[f::E,u])[F s.bs+1]?=Y u:=E5 rfl rfl;have ψ:(s.bs++[f::E,u]).take (F s.bs)=s.bs.set e [BB lm,BB exc]:=AB;have ω:F (s.bs++[f::E,u])=F s.bs+2:=AD
 have Γ:BM ⟨s.bs++[f::E,u],s.ts⟩:=by
  intro d ι;simp only[CU,BF,ER,ES] at ι
  show Ap (F (s.bs++_)) d=Z
  rcases ι with ι|rfl|rfl
  .exact BV AD d (hs d ι)
  all_goals grind
 generalize s.bs++[f::E,u]=m at Q Ξ ψ ω Γ;refine AR (Ab Q) (Ad (off:=0) Q rfl (Au (n:=F b.AN) (by rw[δ.BG,Ae]) (AR (Ab Q) (KM Q Λ (AI (ji (R:=R) (F b.AN) (t:=b.AM) AA (NV (OA AA) _ hb.ok) χ) ?_)))));intro vb D;obtain⟨i,rfl⟩:=D.Du.agg;have⟨U,e2,e3⟩:=D.Du.cells;refine Bh (Bn (A0 m Z4) U rfl AH (AO _) e2 (.inl (AO _)) ?_);have es:(m++[Z4]).set (F m) i=m++[i]:=AD
 show EX _ ⟨(m++[Z4]).set (F m) i,s.ts⟩ _ _ _
 rw[es];have I:=A0 m i;have M:=Am Q i;have ε:=Am Ξ i;have σ:BM ⟨m++[i],s.ts⟩:=BM.app (s:=⟨m,s.ts⟩) Γ (e3 _);have ζ:(m++[i]).take (F s.bs)=s.bs.set e [BB lm,BB exc]:=(DL AA i).trans ψ;have a9:F (m++[i])=F s.bs+3:=AB;rw[ω] at I ⊢;generalize m++[i]=z at I M ε σ ζ a9;have gE:z[e]?=Y [BB lm,BB exc]:=CN ζ (by rw[Cv le]);refine Ag I U (AI (vW (R:=R) (F b.AN) (t:=Gm (F b.AN) b.AM) AA D.Du) ?_);rintro _ rfl
 have q0:Dn (Aa Ar) o Dz b=bif oI (·==(F b.AN:Int)) (Gm (F b.AN) b.AM) then Y [⟨b.AN++[Dz],Gm (F b.AN) b.AM⟩]
   else match El (Ht (F b.AN) AW (Gm (F b.AN) b.AM)) with
    | none=>Y [⟨b.AN,Ht (F b.AN) AW (Gm (F b.AN) b.AM)⟩]
    | some _=>match o with
     | none=>G
     | some l=>DQ (Aa Ar) l (F (Af b.AM)) ⟨b.AN,Ht (F b.AN) AW (Gm (F b.AN) b.AM)⟩:=AX
 have one:∀(c:Br) (β:Ϭ) (A:Ϩ) (X:Ϫ),CL c (.agg β)->Dn (Aa Ar) o Dz b=Y [c]->A.take (F s.bs)=s.bs.set e [BB lm,BB exc]->F s.bs<=F A->Cx (.AE []) (.AE []) s.ts X ->
   QM Z (F s.bs) (λv O=>∃r B,jl (Dn (Aa Ar) o Dz b) exc B r/\F r<=(33*(2 ^ 27+1)+32)/\NW lm e B r s O v) (.ref (F A) 0 1 5) ⟨A++[β],X⟩:=by
  intro c β A X κ Φ h3 Ψ h5;refine Oc (x:=exc) (l:=[c]) hs ((DL Ψ β).trans h3) (.inr ⟨_,[β],Ψ,rfl,AD,⟨κ,Ay⟩,AD⟩) h5 λv' O h=>⟨[c],exc,⟨λh=>h,λh=>?_⟩,AD,h⟩
  grind
 cases Ω:oI (·==(F b.AN:Int)) (Gm (F b.AN) b.AM) with
 | true=>
  rw[Ω] at q0;simp only[AQ] at q0;refine BH (AAW (AR (Ab M) (Ad (off:=0) M rfl ⟨AH,FO (es:=[]) (l:=b.AN) (.inl rfl) rfl AB δ λa10 ts1 a0 a1=>?_⟩)));rw[Ct] at a0;refine Ag ε π (Eg α ⟨AH,Jj a0 rfl AA λΔ X μ a2=>?_⟩);have K:CL ⟨b.AN++[Dz],Gm (F b.AN) b.AM⟩ (.agg (Δ::i)):=⟨Δ,i,rfl,μ.BA,D.Du⟩;refine Ag I U (FV (vV μ.BA.ok μ.BA.cells D.Du) (KH K ⟨Ag ε π (KL α),Ag I U (KL D.Du),Ag I U (KL D.Du),?_⟩));exact one _ _ z X K q0 ζ AA ((Cx.refl (.AE []) s.ts).side a1 (Dt.AE _ _) |>.side a2 a1.Ut)
 | false=>
  rw[Ω] at q0;simp only[AL] at q0;refine A4 (AHn (Ag I U (AI (Fh (R:=R) (F b.AN) AW (t:=Gm (F b.AN) b.AM) AA (NV (OA AA) _ Θ) D.Du) ?_)));intro vr η;obtain⟨p,rfl⟩:=η.Du.agg;have⟨f1,f2,f3⟩:=η.Du.cells;refine AR (Ab M) (QV M Λ f1 (AO _) f2 (AO _) ?_);have K:CL ⟨b.AN,Ht (F b.AN) AW (Gm (F b.AN) b.AM)⟩ (.agg (f::p)):=⟨f,p,rfl,δ,η.Du⟩;have⟨k1,k2,k3⟩:=K.cells;have ρ:(z.set (F s.bs) (f::p))[F s.bs]?=Y (f::p):=BT M;have a3:(z.set (F s.bs) (f::p))[F s.bs+1]?=Y u:=BR ε AA;have ν:(z.set (F s.bs) (f::p)).take (F s.bs)=s.bs.set e [BB lm,BB exc]:=(Cf (AU _)).trans ζ;have τ:BM ⟨z.set (F s.bs) (f::p),s.ts⟩:=BM.set (s:=⟨z,s.ts⟩) σ (k3 _) _;have b0:F (z.set (F s.bs) (f::p))=F s.bs+3:=AB;generalize z.set (F s.bs) (f::p)=A at ρ a3 ν τ b0;have b4:A[e]?=Y [BB lm,BB exc]:=CN ν (by rw[Cv le]);refine Ag ρ k1 (AI (KJ AB K) ?_);rintro _ rfl;rw[X1];simp only;cases hk:El (Ht (F b.AN) AW (Gm (F b.AN) b.AM)) with
  | none=>
   grind[Ao,BH,Ag,KH,Cx.refl]
  | some k=>
   rw[hk] at q0;simp only at q0 ⊢;refine Ao ?_;rw[A5 AA];refine A4 (AHo (Ag ρ k1 (Ag a3 π ?_)));have⟨μ,s1,H,b5⟩:=a4 (hF.of λh=>by rw[q0,h]) (.agg u) α exc ⟨A,s.ts⟩ τ (Co (env R) 100 0 0 0) rfl rfl AX b4;refine⟨_,_,b5,?_⟩;obtain⟨θ,b6⟩:=s1;have hl3:F A<=F θ:=H.len;have b7:θ[F s.bs]?=Y (f::p):=CN H.tk AB;have b8:θ[e]?=Y [BB lm,BB (oX exc o).isNone]:=CN H.tk (by rw[Cv AB]);have af:F (Af (Ht (F b.AN) AW (Gm (F b.AN) b.AM)))=F (Af b.AM):=by simp[*,JF,Dp,KB]
   have υ:(Af (Ht (F b.AN) AW (Gm (F b.AN) b.AM))).count AW<=F (Af b.AM):=AB
   have b9:∀c∈(oX exc o).getD [],LF W c/\F c.AN<=w:=by
    intro c γ;cases exc with
    | true=>cases γ
    | false=>
     cases N:o with
     | none=>rw[N] at γ; cases γ
     | some l=>rw[N] at γ; exact(hl l N).1 c γ
   have hll:F ((oX exc o).getD [])<2 ^ 30:=by grind[oX]
   have hF2:FQ lm Ar (DQ (Aa Ar) ((oX exc o).getD []) (F (Af b.AM)) ⟨b.AN,Ht (F b.AN) AW (Gm (F b.AN) b.AM)⟩):=by
    cases exc with
    | true=>exact hF.of λh=>absurd h (pW _ _ _)
    | false=>
     refine hF.of λh=>?_
     rw[q0];cases o with
     | none=>rfl
     | some l=>exact h
   have⟨a2,s2,⟨r,B,ξ,hrl,ο⟩,hc2⟩:=pV (R:=R) (T:=T) (S:=Wb+C*W) b9 hT hS hll (F (Af b.AM)) AA ⟨b.AN,Ht (F b.AN) AW (Gm (F b.AN) b.AM)⟩ r1 υ (by
    have m1:(Af (Ht (F b.AN) AW (Gm (F b.AN) b.AM))).count AW*W<=C*W:=Be _ AA
    grind) (by
    have m1:(Af (Ht (F b.AN) AW (Gm (F b.AN) b.AM))).count AW*w<=F (Af b.AM)*w:=Be _ υ
    grind) (.agg (f::p)) K hF2 (oX exc o).isNone ⟨θ,b6⟩ H.ok (Co (env R) 100 0 0 0) rfl rfl AX b8 H.LA
   refine⟨_,_,hc2,Ag b7 k1 ?_,?_⟩
   .simp[Tel.D9,JY]
    exact⟨BN.D9 δ,by have:=KL η.Du; assumption⟩
   .obtain⟨bs4,ts4⟩:=s2
    have hT4:bs4.take (F s.bs)=s.bs.set e [BB lm,BB B]:=by
     have κ:=MW (n:=F s.bs) AA ν H.tk;rw[Ib] at κ;have Φ:=MW (n:=F s.bs) AB κ ο.tk;rwa [Ib] at Φ
    refine Oc (x:=B) (l:=r) hs hT4 (ο.LA.mono AB λj c _ h=>h) (H.QG.trans ο.QG) λv' O h=>⟨r,B,⟨λς=>?_,λς=>?_⟩,AA,h⟩
    .subst ς
     exact ξ.1 rfl
    .subst ς
     rw[q0];cases N:o with
     | none=>
      subst N;exact ξ.1 rfl
     | some l=>
      subst N;exact ξ.2 rfl
end
def IB (ls:List Ϥ):Ϯ:=ls.map λl=>[.list (l.map C7)]
def Lo (ls:List Ϥ):F (IB ls)=F ls:=by simp[IB]
theorem Lp (b:Br):F (C7 b)=5:=by simp[C7,Aq]
def pX {a b:Ϭ} {p q:Ϧ} (d:C0 a=Y p) (hb:C0 b=Y q):C0 (a++b)=Y (p++q):=by
 induction a generalizing p with
 | nil=>
  grind[C0]
 | cons x a e=>
  grind[C0]
theorem CL.C0 {b:Br} {row:Ϭ} (h:CL b (.agg row)):C0 row=Y (C7 b):=by
 obtain⟨a,y,f,j,d⟩:=h;cases f;rcases hb:b.AM with ⟨k,n,i,ts⟩
 rw[hb] at d;obtain⟨l,m,e⟩:=d;cases m
 have o:Tel.C0 [a,AG k,SS n,AG i,l]=Y [.list (Aj b.AN),.sc (.int .i64 k),.sc (.string ⟨n.toArray⟩),.sc (.int .i64 i),.list (Aj ts)]:=by
  simp only[Tel.C0,j.KX,e.KX];rfl
 grind[C7,Av]
def VH {l:Ϥ} {rows:Ϩ} (h:CD (λb row=>CL b (.agg row)) l rows):C0 rows.flatten=Y ((l.map C7).flatten):=by
 induction l generalizing rows with
 | nil=>
  cases rows with
  | nil=>rfl
  | cons _ _=>exact h.elim
 | cons b l d=>
  cases rows with
  | nil=>exact h.elim
  | cons row rows=>
   rw[Nh,CH,Nh];exact pX h.1.C0 (d h.2)
def AOC {a:AV} (b:BS a=Z) (d:cellsOf a=[a]):Ee Z4 [(0,1,AG 3),(3,1,a)]=Y [AG 3,SS [],AG 0,a]:=by simp_all[cellsOf,BS,Ee,setCells]
def ACs {E:Env} {s:AY} {c:Br} {K:AV->Prop} (h:K (.agg ((Av c.AM).map .pv))):EX E s (Y 4) (.DF (C7 c) (0+1)) K:=by
 simp only[EX,Dd];refine⟨by simp[C7,Aq],?_⟩
 have e:(((C7 c).map AV.pv).drop (0+1)).take 4=(Av c.AM).map .pv:=by
  simp only[C7,CH,CY,List.drop_succ_cons,Kg];exact CC (by simp[Aq])
 rw[e];exact h
def ACt {E:Env} {s:AY} {c:Br} {K:AV->Prop} (h:K (.pv (.list (Aj c.AN)))):EX E s G (.DF (C7 c) (0+0)) K:=h
def mh {s:AY} {r:Ϧ} {off d:Nat} {K:AV->Prop} (h:K (.DF r (off+d))):Ex s (.DF r off) d K:=h
def QW (r:Br) (n:Nat):Tel.D9 (.DF (C7 r) n) (.DF (C7 r) n)=true:=by simp[*,Mu,C7,OH,Dm,Py,Tel.D9]
def NY:∀l:Ϥ,JI (l.map C7) (l.map C7)=Z
 | []=>rfl
 | b::l=>by
  have:Mu (C7 b) (C7 b)=true:=by grind[C7,Mu,OH,Dm,Py]
  simp[JI,this,NY l]
def X2 (l:Ϥ):Tel.D9 (.pv (.list (l.map C7))) (.pv (.list (l.map C7)))=true:=by
 simp[Tel.D9,OH,NY]
def X3 (l:Ϥ):Tel.D9 (.DF [.list (l.map C7)] 0) (.DF [.list (l.map C7)] 0)=true:=by
 simp[Tel.D9,Mu,OH,NY]
section
variable {R:RT}
def AAY {T:Nat} {e:Nat} {ls:List Ϥ} {i k j:Nat} {l η next:Ϥ} {b c:Br} {args:Ϣ} {W S:Nat} {t5 γ z:AV} (a3:BN t5 (IB ls)) (hi:ls[i]?=Y l) (δ:l[j]?=Y c) (a4:η[k]?=Y b) (hb:LF S b) (ν:b.AM=.mk 3 [] 0 args) (υ:LF W c) (hTs:F b.AN+F c.AN<=T) (hT:(T:Int)<AW) (hS:S<2 ^ 36) (hW:W<2 ^ 36) (hnl:F next<2 ^ 20)
  {N:Nat} {bs:Ϩ} {tk:Ϫ} (a5:N<=F bs) (hs:BM ⟨bs,tk⟩) (a6:EE 0 bs η γ) (Δ:EE N bs next z) {QR:QT}
  (a7:∀L x Q,EE N x (next++[⟨b.AN++c.AN,.mk 3 [] 0 (args++[HE (F b.AN) c.AM])⟩]) L->BM ⟨x,Q⟩->x.take N=bs.take N->N<=F x->Cx (.AE []) (.AE []) tk Q->ve R 0 0 0 (.ptr e 0) t5 γ (AG i) L (AG k) (AG j) ⟨x,Q⟩ QR) :
  vg R 0 0 0 (.ptr e 0) t5 γ (AG i) z (AG k) (AG j) ⟨bs,tk⟩ QR:=by
 have hh:(AW:Int)=1073741824:=rfl;have ξ:=hb.Gw;rw[ν] at ξ;simp only[AP] at ξ;have hargs:=Bl args;have rE:(IB ls)[i]?=Y [.list (l.map C7)]:=by grind[IB]
 have rB:(l.map C7)[j]?=Y (C7 c):=AB;have eix:∀n:Nat,(AG ((n:Nat):Int))=AG n:=λ_=>rfl
 have C:∀(s:AY) (K:AV->Prop),K (.DF [.list (l.map C7)] 0)->OK s 1 t5 (AG i) K:=λs K h=>Bc a3 (row:=[.list (l.map C7)]) AA AB rfl AA h
 have D:∀(s:AY) (K:AV->Prop),K (.DF (C7 c) 0)->OK s 5 (.pv (.list (l.map C7))) (AG j) K:=λs K h=>BL (.list _) (row:=C7 c) AA AB (Lp c) AA h
 refine AHp (PD a6 a4 λrb ο=>?_);have⟨a8,a9,b0⟩:=ο.cells;have⟨o,xb,Θ,U,π⟩:=id ο;cases Θ;rw[ν] at π;obtain⟨p,Λ,Γ⟩:=π;cases Λ;refine Bh (MV (A0 bs Z5) a8 (AO _) a9 (AO _) ?_);have b1:(bs++[Z5]).set (F bs) (o::[AG 3,SS [],AG 0,p])=bs++[o::[AG 3,SS [],AG 0,p]]:=AD;simp only;rw[b1];have Ξ:F (bs++[o::[AG 3,SS [],AG 0,p]])=F bs+1:=AD;have ρ:BM ⟨bs++[o::[AG 3,SS [],AG 0,p]]++[Z4],tk⟩:=BM.app (s:=⟨bs++[o::[AG 3,SS [],AG 0,p]],tk⟩) (BM.app (s:=⟨bs,tk⟩) hs (b0 _)) rfl;have t:(bs++[o::[AG 3,SS [],AG 0,p]]++[Z4])[F bs]?=Y (o::[AG 3,SS [],AG 0,p]):=Am (A0 bs _) _;have M:(bs++[o::[AG 3,SS [],AG 0,p]]++[Z4])[F bs+1]?=Y Z4:=AD;have Φ:F (bs++[o::[AG 3,SS [],AG 0,p]]++[Z4])=F bs+2:=AD
 have Ψ:(bs++[o::[AG 3,SS [],AG 0,p]]++[Z4]).take N=bs.take N:=by
  rw[DL AA,DL a5]
 have θ:EE N (bs++[o::[AG 3,SS [],AG 0,p]]++[Z4]) next z:=Δ.mono (AU _) λj c _ h=>Am (Am h _) _
 rw[Ξ];generalize bs++[o::[AG 3,SS [],AG 0,p]]++[Z4]=r at ρ t M Φ Ψ θ;have b4:∀(ts:Ϫ) d,Ex ⟨r,ts⟩ (.ptr (F bs) 0) d λv=>Tel.D9 v (.ptr (F bs) (0+d))=true:=λts d=>AR (Ab t) (D8 _ _)
 refine AAW (AR (Ab t) (AR (Ab t) (Ad (off:=4) t rfl ⟨AH,FO (es:=[]) (l:=args) (.inl rfl) rfl AB Γ λa73 ς φ χ=>?_⟩)));rw[Ct] at φ;have ι:∀(s:AY) (K:AV->Prop),K (AG (F b.AN))->Gl s o K:=λs K h=>Au (n:=F b.AN) (by rw[U.BG,Ae]) h
 refine C _ _ (Ds (D _ _ (mh (ACs (AR (Ab t) (Ad (off:=0) t rfl (ι _ _ (AI (PC (R:=R) (n:=F b.AN) AA c.AM (by have:=υ.Gw; omega) (NV (OA AA) _ υ.ok) _ (BD.Bo c.AM)) ?_))))))));intro sv Ω;refine Eg Ω.Du ⟨AH,Jj φ rfl AA λf A ε b5=>?_⟩;have B:BX (.mk 3 [] 0 (args++[HE (F b.AN) c.AM])) (.agg [AG 3,SS [],AG 0,f]):=⟨f,rfl,ε.BA⟩;have⟨k1,k2,k3⟩:=B.cells;refine FV (cs:=[AG 3,SS [],AG 0,f]) (AOC ε.BA.ok ε.BA.cells) (Bn (s:=⟨r,A⟩) M k1 rfl AH (AO _) k2 (.inl (AO _)) ?_);have a0:∀n:Int,Tel.D9 (AG n) (AG n)=true:=λn=>by simp[Tel.D9,OH,F7]
 have E:∀ts:Ϫ,(wO (KY (.ptr (F bs+1) 0)) λid=>wO (AY.mk r ts).bs[id]? λX=>JY X [(AG 0),(SS []),(AG 0),(.AE [])]=Z):=by
  intro ts
  show(wO (AY.mk r ts).bs[F bs+1]? λX=>JY X [(AG 0),(SS []),(AG 0),(.AE [])]=Z)
  simp only[M,wO];rfl
 refine⟨C _ _ (X3 l),Ds (X2 l),D _ _ (QW c 0),mh (QW c _),ACs (NM _),b4 _ 0,Ad (off:=0) t rfl (BN.D9 U),ι _ _ (a0 _),E tk,E ς,E ς,E A,?_⟩;have α:(r.set (F bs+1) [AG 3,SS [],AG 0,f])[F bs]?=Y (o::[AG 3,SS [],AG 0,p]):=BR t AA;have H:(r.set (F bs+1) [AG 3,SS [],AG 0,f])[F bs+1]?=Y [AG 3,SS [],AG 0,f]:=BT M;have σ:BM ⟨r.set (F bs+1) [AG 3,SS [],AG 0,f],A⟩:=BM.set (s:=⟨r,A⟩) ρ (k3 _) _;have τ:(r.set (F bs+1) [AG 3,SS [],AG 0,f]).take N=bs.take N:=by grind[Cf]
 have κ:EE N (r.set (F bs+1) [AG 3,SS [],AG 0,f]) next z:=by
  rcases θ with h|⟨id,rows,q1,b6,q3,b7,b8⟩
  .exact .inl h
  .refine .inr ⟨id,rows,q1,b6,?_,b7,b8⟩
   grind[IW,List.getElem?_set_ne]
 have a1:F (r.set (F bs+1) [AG 3,SS [],AG 0,f])=F bs+2:=AB;generalize r.set (F bs+1) [AG 3,SS [],AG 0,f]=u at α H σ τ κ a1;refine AAW (AR (Ab α) (Ad (off:=0) α rfl ⟨AH,FO (es:=[]) (l:=b.AN) (.inl rfl) rfl AB U λa93 ts3 ψ ω=>?_⟩));rw[Ct] at ψ;refine C _ _ (Ds (D _ _ (mh (ACt ⟨AH,FO ψ rfl AA (.inl (.list _)) λy I ζ b9=>?_⟩))));have O:CL ⟨b.AN++c.AN,.mk 3 [] 0 (args++[HE (F b.AN) c.AM])⟩ (.agg (y::[AG 3,SS [],AG 0,f])):=⟨y,_,rfl,ζ.BA,B⟩;have⟨z1,z2,z3⟩:=O.cells;refine Ag H k1 (FV (vV ζ.BA.ok ζ.BA.cells B) (KH O ⟨AH,?_⟩));have a2:BM ⟨u++[y::[AG 3,SS [],AG 0,f]],I⟩:=BM.app (s:=⟨u,I⟩) σ (z3 _);have μ:EE N (u++[y::[AG 3,SS [],AG 0,f]]) next z:=κ.mono (AU _) λj c _ h=>Am h _
 refine U3 (s:=⟨u++[y::[AG 3,SS [],AG 0,f]],I⟩) O (A0 u _) μ rfl AA ?_ AB;intro L x n1 n2 n3 n4 _;refine⟨C _ _ (X3 l),Ds (X2 l),D _ _ (QW c 0),mh (QW c _),ACt (by simp[Tel.D9,OH,Dm]),Ag H k1 (KL B),Ag H k1 (KL B),?_⟩;refine a7 L x I n1 (n4 a2) ?_ AA ?_
 .rw[<-τ]
  refine Fw λj=>?_
  by_cases δ:j<N
  .rw[Nu δ,Nu δ]
   have β:j<F u:=AA;have h1:(u++[y::[AG 3,SS [],AG 0,f]])[j]?=Y u[j]:=by rw[C3 β,Az β]
   rw[n2 j _ (λm h=>by
    rcases μ with ⟨h2,_⟩|⟨id,rows,h2,h3,_⟩
    all_goals grind) h1,Az β]
  grind
 .exact((((Cx.refl (.AE []) tk).side χ (Dt.AE _ _)).side b5 χ.Ut).trans ((Cx.refl (.AE []) A).side ω (Dt.AE _ _) |>.side b9 ω.Ut))
end
def prB (b c:Br):Br:=⟨b.AN++c.AN,match b.AM with
 | .mk _ _ _ d=>.mk 3 [] 0 (d++[HE (F b.AN) c.AM])⟩
theorem VI (out l:Ϥ):GU out l=out.flatMap λb=>l.map (prB b):=rfl
theorem vh {b c:Br} {args:Ϣ} (h:b.AM=.mk 3 [] 0 args):prB b c=⟨b.AN++c.AN,.mk 3 [] 0 (args++[HE (F b.AN) c.AM])⟩:=by
 rw[prB,h]
def EE.Zu {lo N:Nat} {bs X:Ϩ} {l:Ϥ} {a:AV} (h:EE lo X l a) (b:bs.take N=X):EE lo bs l a:=
 h.mono (AU _) λ_ _ _ d=>CN b d
section
variable {R:RT} {lm:Bool} {Ar:Nat}
structure TpG (S N:Nat) (b:Br):Prop where
 g:LF S b
 n:F b.AN<=N
 t:∃args,b.AM=.mk 3 [] 0 args
def vk {T e:Nat} {ls:List Ϥ} {i k:Nat} {l x:Ϥ} {b:Br} {W S N w:Nat} {t5 p:AV} (A:BN t5 (IB ls)) (L:ls[i]?=Y l) (O:x[k]?=Y b) (hb:TpG S N b) (Q:∀c∈l,LF W c/\F c.AN<=w) (ν:N+w<=T) (U:(T:Int)<AW) (hS:S<2 ^ 36) (α:W<2 ^ 36) (ξ:F l<2 ^ 30) {X:Ϩ} (β:EE 0 X x p) {N7:Ϫ} {QR:QT} {M:Nat} (ρ:M<2 ^ 20)
  {jr:Ϥ}
  (γ:∀bs tk a,BM ⟨bs,tk⟩->bs.take (F X)=X->F X<=F bs->EE (F X) bs (jr++l.map (prB b)) a->Cx (.AE []) (.AE []) N7 tk->vn R 0 0 0 (.ptr e 0) t5 p (AG i) a (AG k) ⟨bs,tk⟩ QR) (ς:F jr+F l<=M) :
  ∀(n j:Nat) (bs:Ϩ) (tk:Ϫ) (d:AV),j+n=F l->BM ⟨bs,tk⟩->bs.take (F X)=X->F X<=F bs->EE (F X) bs (jr++(l.take j).map (prB b)) d->Cx (.AE []) (.AE []) N7 tk ->
   vo R 0 0 0 (.ptr e 0) t5 p (AG i) d (AG k) (AG j) ⟨bs,tk⟩ QR:=by
 have σ:(IB ls)[i]?=Y [.list (l.map C7)]:=by grind[IB]
 have y:∀(s:AY) (K:AV->Prop),K (.DF [.list (l.map C7)] 0)->OK s 1 t5 (AG i) K:=λs K h=>Bc A (row:=[.list (l.map C7)]) AA AB rfl AA h
 have z:∀(s:AY) (K:AV->Prop),K (AG (F l))->Gl s (.pv (.list (l.map C7))) K:=λs K h=>Au (n:=F l) (by simp[BG,rowsOf]) h
 intro n
 induction n with
 | zero=>
  intro j bs tk d δ r f u m o;refine vp (y _ _ (Ds (z _ _ (Ao ?_))));rw[A5 AA];rw[CC AA] at m;exact A4 (γ bs tk d r f u m o)
 | succ n ε=>
  intro j bs tk d δ r f u m o;refine vp (y _ _ (Ds (z _ _ (Ao ?_))));rw[Ax AA];have⟨c,B⟩:∃c,l[j]?=Y c:=⟨_,Az AA⟩;have⟨E,ο⟩:=Q c (A8 B);have⟨D,C⟩:=hb.t;have π:=hb.n;refine BH (AAY (T:=T) A L B O hb.g C E AA U hS α (next:=jr++(l.take j).map (prB b)) AB u r (β.Zu f) m ?_);intro ζ H I q1 η θ ι κ;refine AHq (Bb AA AA ?_);have μ:jr++(l.take j).map (prB b)++[⟨b.AN++c.AN,.mk 3 [] 0 (D++[HE (F b.AN) c.AM])⟩]=jr++(l.take (j+1)).map (prB b):=by grind[List.take_add_one,vh]
  rw[μ] at q1;have:=ε (j+1) H I ζ AA η (θ.trans f) ι q1 (o.trans κ)
  grind
def AHr {T e:Nat} {ls:List Ϥ} {i:Nat} {l d:Ϥ} {W S N w:Nat} {t5 r:AV} (B:BN t5 (IB ls)) (C:ls[i]?=Y l) (D:∀b∈d,TpG S N b) (Q:F d<=64) (E:∀c∈l,LF W c/\F c.AN<=w) (x:N+w<=T) (H:(T:Int)<AW) (hS:S<2 ^ 36) (I:W<2 ^ 36) (y:F l<=64) {X:Ϩ} (m:EE 0 X d r) {N7:Ϫ} {QR:QT}
  (β:∀bs tk a,BM ⟨bs,tk⟩->bs.take (F X)=X->F X<=F bs->EE (F X) bs (GU d l) a->Cx (.AE []) (.AE []) N7 tk->vq R 0 0 0 (.ptr e 0) t5 (AG i) a ⟨bs,tk⟩ QR) :
  ∀(n k:Nat) (bs:Ϩ) (tk:Ϫ) (f:AV),k+n=F d->BM ⟨bs,tk⟩->bs.take (F X)=X->F X<=F bs->EE (F X) bs (GU (d.take k) l) f->Cx (.AE []) (.AE []) N7 tk ->
   ACu R 0 0 0 (.ptr e 0) t5 r (AG i) f (AG k) ⟨bs,tk⟩ QR:=by
 have u:∀o:Ϥ,F (GU o l)=F o*F l:=by
  intro o;rw[VI]
  induction o with
  | nil=>simp
  | cons b o K=>grind
 intro n
 induction n with
 | zero=>
  intro k bs tk f L s j t z p;refine vt (Au (n:=F d) (m.Zu j).BG (Ao ?_))
  grind[A4]
 | succ n K=>
  intro k bs tk f L s j t z p;refine vt (Au (n:=F d) (m.Zu j).BG (Ao ?_));rw[Ax AA];have⟨b,hb⟩:∃c,d[k]?=Y c:=⟨_,Az AA⟩;refine BH (AHs ?_);have A:=u (d.take k);rw[List.length_take] at A;have O:min k (F d)*F l<=64*64:=L3 AA y;refine vk (T:=T) (M:=2 ^ 13) B C hb (D b (A8 hb)) E x H hS I AA m (N7:=N7) AH (jr:=GU (d.take k) l) ?_ AA (F l) 0 bs tk f AA s j t AB p;intro U α a q1 γ δ ε ζ;refine AHt (Bb AA AA ?_);have η:GU (d.take k) l++l.map (prB b)=GU (d.take (k+1)) l:=by grind[VI,List.take_add_one]
  grind
def AAa {e:Nat} {ls:List Ϥ} {t5:AV} (m:BN t5 (IB ls)) (x:F ls<2 ^ 40) {n0:Nat} {vu:Ϩ} {N7:Ϫ} (z:e<n0) {QR:QT}
  (o:∀bs tk,BM ⟨bs,tk⟩->bs.take n0=vu->n0<=F bs->Cx (.AE []) (.AE []) N7 tk->QR (.AE []) ⟨bs,tk⟩) :
  ∀(n i:Nat) (bs:Ϩ) (tk:Ϫ),i+n=F ls->BM ⟨bs,tk⟩->bs.take n0=vu->n0<=F bs->bs[e]?=Y [BB lm,BB Z]->Cx (.AE []) (.AE []) N7 tk->vv R 0 0 0 (.ptr e 0) t5 (.AE []) (AG i) ⟨bs,tk⟩ QR:=by
 intro n
 induction n with
 | zero=>
  intro i bs tk p b d j k f;refine mj (Au (n:=F ls) (by rw[m.BG,Lo]) (Ao ?_));rw[A5 AA];exact A4 (ACv (o bs tk b d j f))
 | succ n r=>
  intro i bs tk p b d j k f;refine mj (Au (n:=F ls) (by rw[m.BG,Lo]) (Ao ?_));rw[Ax AA];refine BH (ACw (vt (Au (n:=0) rfl (Ao ?_))));rw[A5 AA];refine A4 (vw ?_);obtain⟨v,A,⟨rfl,rfl⟩,t⟩:=Jv (R:=R) (e:=e) (l:=[]) (y:=.AE []) (exc:=Z) (s:=⟨bs,tk⟩) b k (.inl ⟨rfl,rfl⟩) (Ar:=32) (by simp[Aa]) (L:=Co (env R) 98 0 0 0) rfl rfl;refine⟨_,_,t,v7 (Bb AA AA ?_)⟩;have u:bs.set e [BB lm,BB (Z||Aa 32 (F ([]:Ϥ)))]=bs:=by grind[List.set_getElem_self]
  simp only[u];have:=r (i+1) bs tk AA b d j k f
  grind
def dz {T e:Nat} (δ:(T:Int)<AW) {ls:List Ϥ} {t5:AV} (k:BN t5 (IB ls)) (Q:F ls<2 ^ 40) {s0:AY} (C:e<F s0.bs) {S:Nat} (hS:S<2 ^ 36) {o:Option Ϥ} (hF:FQ lm Ar o) {QR:QT}
  (D:∀bs tk a ε r,(ε=o.isNone/\r=o.getD [])->BM ⟨bs,tk⟩->bs.take (F s0.bs)=s0.bs.set e [BB lm,BB ε]->F s0.bs<=F bs->EE (F s0.bs) bs r a->Cx (.AE []) (.AE []) s0.ts tk->QR a ⟨bs,tk⟩) :
  ∀(rest:List Ϥ) (m vs:Ϟ) (i:Nat) (f:Ϥ) (p N:Nat) (bs:Ϩ) (tk:Ϫ) (t:AV),ls.drop i=rest->i<=F ls->CD (λl w=>∀c∈l,LF w c) rest m->CD (λl w=>∀c∈l,F c.AN<=w) rest vs->(∀l∈rest,F l<=64)->H7 (Aa Ar) rest f=o->(∀b∈f,TpG p N b)->F f<=64->p+m.sum<=S->N+vs.sum<=T->BM ⟨bs,tk⟩->bs.take (F s0.bs)=s0.bs.set e [BB lm,BB ϴ]->F s0.bs<=F bs->EE (F s0.bs) bs f t->Cx (.AE []) (.AE []) s0.ts tk ->
   vv R 0 0 0 (.ptr e 0) t5 t (AG i) ⟨bs,tk⟩ QR
 | [],m,vs,i,f,p,N,bs,tk,t,E,ν,_,_,_,d,H,U,W,ζ,I,A,z,K,B=>by
  have υ:F ls<=i:=HG;refine mj (Au (n:=F ls) (by rw[k.BG,Lo]) (Ao ?_));rw[A5 AA];rw[H7] at d;subst d;exact A4 (ACv (D bs tk t ϴ f ⟨rfl,rfl⟩ I A z K B))
 | _::_,[],_,_,_,_,_,_,_,_,_,_,h,_,_,_,_,_,_,_,_,_,_,_,_=>h.elim
 | _::_,_::_,[],_,_,_,_,_,_,_,_,_,_,h,_,_,_,_,_,_,_,_,_,_,_=>h.elim
 | l::rest,w::m,v::vs,i,f,p,N,bs,tk,t,E,ν,⟨η,ο⟩,⟨θ,π⟩,M,d,H,U,W,ζ,I,A,z,K,B=>by
  have a0:=hF.le;have υ:i<F ls:=AB
  have α:ls[i]?=Y l:=by
   have:=Bu (λl=>l[0]?) E
   grind
  have ρ:ls.drop (i+1)=rest:=by
   rw[drop_cons α] at E
   grind
  rw[Ke] at W ζ;have φ:bs[e]?=Y [BB lm,BB ϴ]:=CN A (by rw[Cv C]);refine mj (Au (n:=F ls) (by rw[k.BG,Lo]) (Ao ?_));rw[Ax AA];rw[H7] at d;refine BH (ACw ?_);refine AHr (T:=T) (X:=bs) (N7:=tk) k α H U (λc x=>⟨η c x,θ c x⟩) AA δ AA AA (M l AD) (K.mono (AO _) λ_ _ _ h=>h) ?_ (F f) 0 bs tk (.AE []) AA I Lu (AU _) (.inl ⟨rfl,rfl⟩) (Cx.refl _ _);intro j u a q1 χ a3 ι ψ;have β:j[e]?=Y [BB lm,BB ϴ]:=CN χ φ;have ς:j.take (F s0.bs)=s0.bs.set e [BB lm,BB ϴ]:=AB;obtain⟨a4,a5,⟨rfl,rfl⟩,x⟩:=Jv (R:=R) (e:=e) (l:=GU f l) (y:=a) (exc:=ϴ) (s:=⟨j,u⟩) q1 β (ι.mono (AO _) λ_ _ _ h=>h) (hF.A7 λh=>by rw[h] at d; exact d.symm) (L:=Co (env R) 98 0 0 0) rfl rfl;refine vw ⟨_,_,x,v7 (Bb AA AA ?_)⟩;have ω:((i:Int)+1)=((i+1:Nat):Int):=AA;rw[ω];simp only[Fy];have O:=B.trans ψ;cases hb:Aa Ar (F (GU f l)) with
  | true=>
   rw[hb] at d;simp only[AQ] at d ⊢;subst d;refine AAa k Q (n0:=F s0.bs) (vu:=s0.bs.set e [BB lm,BB Z]) (N7:=s0.ts) C ?_ (F ls-(i+1)) (i+1) _ u AA (BM.set (s:=⟨j,u⟩) q1 rfl _) (by simp[*,Ep]) AB (BT β) O;intro σ τ Γ Δ n3 Θ;exact D σ τ (.AE []) Z [] ⟨rfl,rfl⟩ Γ Δ n3 (.inl ⟨rfl,rfl⟩) Θ
  | false=>
   rw[hb] at d;simp only[AL] at d ⊢;have ξ:j.set e [BB lm,BB ϴ]=j:=by grind[List.set_getElem_self]
   rw[ξ];refine dz δ k Q C hS hF D rest m vs (i+1) (GU f l) (p+w) (N+v) j u a ρ AA ο π (λΛ a6=>M Λ AB) d ?_ AB AA AA q1 ς AA (ι.mono z λ_ _ _ h=>h) O;intro b γ;rw[VI] at γ;have⟨Ξ,Φ,Ψ⟩:=Nn.1 γ;obtain⟨c,κ,rfl⟩:=Cw.1 Ψ;have⟨Ω,a7,a1,μ⟩:=H Ξ Φ;have a2:=θ c κ;have:=uo Ω μ (η c κ) AA;rw[vh μ];exact⟨this,AB,_,rfl⟩
end
def AHu (R:RT) (lm:Bool) (Ar e:Nat) (t:Ty) (o:Option Ϥ):Prop:=FQ lm Ar o->∀x,BX t x->∀(b:Bool) (s:AY),BM s->∀L:Ba,L.ro=0->L.rt=0->L.rr 49=ϴ->s.bs[e]?=Y [BB lm,BB b] ->
 ∃v f,(∃d,A3 v (((oX b o).getD []).map C7)/\Cx (.AE []) (.AE []) s.ts d/\f=⟨s.bs.set e [BB lm,BB (oX b o).isNone],d⟩)/\Bk (env R) L 49 [.ptr e 0,x] s v f
def AOD {l:Ϥ} {a:AV} (d:A3 a (l.map C7)) {s:AY} {K:Ϡ} (e:K (.AE [[.list (l.map C7)]]) s):HJ ϴ s 1 [(.AE [])] 1 [(0,1,a)] K:=by
 have b:BN a (l.map C7):=.inl d;simp[HJ,GC,CZ,b.ok,ACG b,b.cells];omega
def AHv {L:Ba} {s:AY} {a:AV} {os:List Ϥ} {p:Ϥ} {K:Ϡ} (f:D1 0 s.ts 32 a (IB os)) (e:L.rt=0) (k:F os<2 ^ 38) (h:∀d b,D1 0 b 32 d (IB (os++[p]))->Cx a d s.ts b->K d ⟨s.bs,b⟩) :
  I6 ϴ L s 32 1 24 a (.AE [[.list (p.map C7)]]) K:=by
 have l:=Lo os;have i:∀r∈IB os,F r=1:=by grind[IB]
 have hm:∀r∈[[PV.list (p.map C7)]],F r=1:=AD;refine RH (m:=[[.list (p.map C7)]]) f e i hm AA (D7 (.inl (.AE _)) hm) AD AB AB λd b n j=>h d b ?_ j
 grind[IB]
theorem Lq {α:Type}:∀{l:List (Option α)},G∈l->FH l=G
 | none::_,_=>rfl
 | some a::l,h=>by
  have:G∈l:=AB;rw[FH,Lq this]
section
variable {R:RT} {lm:Bool} {Ar:Nat}
def v8 {e f:Nat} {k i0:Int} {nm:Ϝ} {ts:Ϣ} {a:AV} (u:BN a (Aj ts)) (σ:F ts<2 ^ 37) (E:∀t∈ts,AHu R lm Ar e t (DR (Aa Ar) f t)) (hF:∀t∈ts,FQ lm Ar (DR (Aa Ar) f t)) {s0:AY} (θ:e<F s0.bs) {QR:QT}
  (ι:FH (ts.map (DR (Aa Ar) f))=G->∀bs tk,BM ⟨bs,tk⟩->bs.take (F s0.bs)=s0.bs.set e [BB lm,BB Z]->F s0.bs<=F bs->Cx (.AE []) (.AE []) s0.ts tk->QR (.AE []) ⟨bs,tk⟩)
  (hS:∀ls,FH (ts.map (DR (Aa Ar) f))=Y ls->∀bs tk t5,BM ⟨bs,tk⟩->bs.take (F s0.bs)=s0.bs.set e [BB lm,BB ϴ]->F s0.bs<=F bs->Cx (.AE []) (.AE []) s0.ts tk->BN t5 (IB ls)->ACx R 0 0 0 (.ptr e 0) t5 (BB (ls.any List.isEmpty)) ⟨bs,tk⟩ QR) :
  ∀(n p:Nat) (exc:Bool) (out:List Ϥ) (bs:Ϩ) (tk:Ϫ) (t5:AV),p+n=F ts->F out=p->(exc=ϴ->(ts.take p).map (DR (Aa Ar) f)=out.map Y)->(exc=Z->G∈ts.map (DR (Aa Ar) f)/\out.any List.isEmpty=Z)->BM ⟨bs,tk⟩->bs.take (F s0.bs)=s0.bs.set e [BB lm,BB exc]->F s0.bs+1<=F bs->bs[F s0.bs]?=Y [AG k,SS nm,AG i0,a]->D1 0 tk 32 t5 (IB out)->Cx (.AE []) (.AE []) s0.ts tk->Dt t5 s0.ts ->
   ACy R 0 0 0 (.ptr e 0) (.ptr (F s0.bs) 0) t5 (BB (out.any List.isEmpty)) (AG p) ⟨bs,tk⟩ QR:=by
 intro n
 induction n with
 | zero=>
  intro p exc out bs tk t5 κ U H I i j O b x d r;refine ACz (AR (Ab b) (Ad (off:=3) b rfl (Au (n:=F ts) (by rw[u.BG,Ae]) (Ao ?_))));rw[A5 AA];refine A4 ?_;cases exc with
  | true=>
   have⟨o,μ⟩:=I rfl;rw[μ];exact AC0 (BH (ι (Lq o) bs tk i j AA d))
  | false=>
   have o:=H rfl;rw[CC AA] at o;refine hS out ?_ bs tk t5 i j AA d x.BA;rw[o]
   have ς:∀l:List Ϥ,FH (l.map Y)=Y l:=by
    intro l
    induction l with
    | nil=>rfl
    | cons a l E=>grind[FH]
   grind
 | succ n W=>
  intro p exc out bs tk t5 κ U H I i j O b x d r;refine ACz (AR (Ab b) (Ad (off:=3) b rfl (Au (n:=F ts) (by rw[u.BG,Ae]) (Ao ?_))));rw[Ax AA];have⟨t,ν⟩:∃c,ts[p]?=Y c:=⟨_,Az AA⟩;have z:=A8 ν;have ξ:bs[e]?=Y [BB lm,BB exc]:=CN j (by rw[Cv θ]);refine BH (AOE (AR (Ab b) (Ad (off:=3) b rfl (Bc u (row:=Av t) AA (by grind[BK]) (Aq _) AA (Cd ?_)))));obtain⟨v,τ,⟨A,L,y,rfl⟩,ο⟩:=E t z (hF t z) _ (BD.Bo t).Du exc ⟨bs,tk⟩ i (Co (env R) 98 0 0 0) rfl rfl AX ξ;refine⟨_,_,ο,?_⟩;have B:BM ⟨bs.set e [BB lm,BB (oX exc (DR (Aa Ar) f t)).isNone],A⟩:=BM.set (s:=⟨bs,tk⟩) i rfl _;have C:(bs.set e [BB lm,BB (oX exc (DR (Aa Ar) f t)).isNone]).take (F s0.bs)=s0.bs.set e [BB lm,BB (oX exc (DR (Aa Ar) f t)).isNone]:=by simp[*,Ep]
  have D:(bs.set e [BB lm,BB (oX exc (DR (Aa Ar) f t)).isNone])[F s0.bs]?=Y [AG k,SS nm,AG i0,a]:=BR b AA;have X:F (bs.set e [BB lm,BB (oX exc (DR (Aa Ar) f t)).isNone])=F bs:=AD;generalize bs.set e [BB lm,BB (oX exc (DR (Aa Ar) f t)).isNone]=M at B C D X;have α:=y.keep x (λ_ h=>by cases h)
  have β:HJ ϴ ⟨M,A⟩ 1 [(.AE [])] 1 [(0,1,v)] λγ Q=>(1=1/\1≠0)/\I6 ϴ (Co (env R) 98 0 0 0) Q 32 1 24 t5 γ λδ S=>
    AC1 R 0 0 0 (.ptr e 0) (.ptr (F s0.bs) 0) δ (BB (out.any List.isEmpty||((oX exc (DR (Aa Ar) f t)).getD []).isEmpty)) (AG p) S QR:=by
   refine AOD L ⟨AH,AHv α rfl AA λε ζ π N=>AOF (Bb AA AA ?_)⟩;have em:(ts.take (p+1)).map (DR (Aa Ar) f)=(ts.take p).map (DR (Aa Ar) f)++[DR (Aa Ar) f t]:=by grind[List.take_add_one]
   have ρ:(out++[(oX exc (DR (Aa Ar) f t)).getD []]).any List.isEmpty=(out.any List.isEmpty||((oX exc (DR (Aa Ar) f t)).getD []).isEmpty):=AD
   have:=W (p+1) (oX exc (DR (Aa Ar) f t)).isNone (out++[(oX exc (DR (Aa Ar) f t)).getD []]) M ζ ε AA AB (λh=>by
    cases exc with
    | true=>cases h
    | false=>
     cases hb:DR (Aa Ar) f t with
     | none=>rw[hb] at h; cases h
     | some m=>
      grind[oX]) (λh=>by
    rw[ρ];cases exc with
    | true=>
     grind
    | false=>
     cases hb:DR (Aa Ar) f t with
     | some m=>rw[hb] at h; cases h
     | none=>grind[oX]) B C AA D π ((d.trans y).side N r) (r.QG N (BC d.1 y.1))
   grind
  have η:∀(s:AY) (K:AV->Prop),K (AG (F ((oX exc (DR (Aa Ar) f t)).getD [])))->Gl s v K:=λs K h=>Au (n:=F ((oX exc (DR (Aa Ar) f t)).getD [])) (by rw[L.BG,Bj]) h
  cases T:out.any List.isEmpty with
  | true=>
   grind[C8,pk]
  | false=>
   rw[T] at β;refine Aw (Aw (η _ _ (Aw (BE (pk ?_)))))
   have υ:((F ((oX exc (DR (Aa Ar) f t)).getD []):Int)==0)=((oX exc (DR (Aa Ar) f t)).getD []).isEmpty:=by
    cases (oX exc (DR (Aa Ar) f t)).getD [] <;> simp;omega
   grind
def wA (Ar f:Nat) (ts:Ϣ):Option Ϥ:=match FH (ts.map (DR (Aa Ar) f)) with
 | none=>G
 | some b=>bif b.any List.isEmpty then Y [] else H7 (Aa Ar) b [⟨[],.mk 3 [] 0 []⟩]
def js {e f T S:Nat} (W:(T:Int)<AW) (hS:S<2 ^ 36) {nm:Ϝ} {i0:Int} {ts:Ϣ} (X:F ts<2 ^ 37) (α:∀t∈ts,AHu R lm Ar e t (DR (Aa Ar) f t)) (C:∀t∈ts,∀l,DR (Aa Ar) f t=Y l->F l<=64/\∀c∈l,LF (wt t) c/\F c.AN<=bw t) (I:1+(ts.map wt).sum<=S) (ν:(ts.map bw).sum<=T)
  (hF:FQ lm Ar (wA Ar f ts)) {x:AV} (hx:BX (.mk 3 nm i0 ts) x) {s:AY} (hs:BM s) {L:Ba} (K:L.ro=0) (M:L.rt=0) (N:L.rr 98=Z) (β:s.bs[e]?=Y [BB lm,BB ϴ]) :
  ∃v d,NW lm e (wA Ar f ts).isNone ((wA Ar f ts).getD []) s d v/\Bk (env R) L 98 [.ptr e 0,x] s v d:=by
 have le:=(BJ.1 β).1;have κ:s.bs.set e [BB lm,BB ϴ]=s.bs:=by grind[List.set_getElem_self]
 have O:=hx;obtain⟨a,rfl,γ⟩:=hx;have⟨_,δ,ε⟩:=O.cells;refine m98 AX ?_;rw[K,M,N];have ζ:=A0 s.bs [AG 3,SS nm,AG i0,a];have Q:BM ⟨s.bs++[[AG 3,SS nm,AG i0,a]],s.ts⟩:=BM.app (s:=s) hs (ε _);have U:(s.bs++[[AG 3,SS nm,AG i0,a]]).take (F s.bs)=s.bs.set e [BB lm,BB ϴ]:=AB;refine AOG (Bs (cs:=[AG 3,SS nm,AG i0,a]) rfl δ ?_);have:=v8 (R:=R) (k:=3) (i0:=i0) (nm:=nm) γ X α (λt D=>hF.of λh=>by rw[wA,Lq (h ▸ EH D)]) le (QR:=QM Z (F s.bs) λv d=>NW lm e (wA Ar f ts).isNone ((wA Ar f ts).getD []) s d v) ?_ ?_ (F ts) 0 ϴ [] (s.bs++[[AG 3,SS nm,AG i0,a]]) s.ts (.AE []) AA rfl (λ_=>rfl) (λh=>by cases h) Q U AD ζ (.inl rfl) (Cx.refl _ _) (Dt.AE _ _)
 .grind
 .intro hn j tk E n y p
  have r:wA Ar f ts=none:=by rw[wA,hn]
  rw[r];exact Oc (x:=Z) (l:=[]) hs n (.inl ⟨rfl,rfl⟩) p λη d h=>h
 .intro i B j tk θ E n y p ι
  have r:wA Ar f ts=bif i.any List.isEmpty then Y [] else H7 (Aa Ar) i [⟨[],.mk 3 [] 0 []⟩]:=by rw[wA,B]
  rw[r];refine AC0 ?_;cases H:i.any List.isEmpty with
  | true=>exact BH (Oc (x:=ϴ) (l:=[]) hs n (.inl ⟨rfl,rfl⟩) p λη d h=>h)
  | false=>
   simp only[AL];have m:=I0 B;have A:CL ⟨[],.mk 3 [] 0 []⟩ (.agg [.AE [],AG 3,SS [],AG 0,.AE []]):=⟨.AE [],_,rfl,.inl (.AE _),⟨.AE [],rfl,.inl (.AE _)⟩⟩;refine A4 (AOH (FV (cs:=[AG 3,SS [],AG 0,.AE []]) rfl (FV (cs:=[.AE [],AG 3,SS [],AG 0,.AE []]) rfl (KH A ?_))));have μ:F i=F ts:=by have:=m.tP; omega
   have:=dz (R:=R) (T:=T) W (t5:=θ) ι AA (s0:=s) le (S:=S) hS (o:=H7 (Aa Ar) i [⟨[],.mk 3 [] 0 []⟩]) (hF.of λh=>by rw[r,H]; exact h) (QR:=QM Z (F s.bs) λv d=>NW lm e (H7 (Aa Ar) i [⟨[],.mk 3 [] 0 []⟩]).isNone ((H7 (Aa Ar) i [⟨[],.mk 3 [] 0 []⟩]).getD []) s d v) ?_ i (ts.map wt) (ts.map bw) 0 [⟨[],.mk 3 [] 0 []⟩] 1 0 (j++[[.AE [],AG 3,SS [],AG 0,.AE []]]) tk (.ref (F j) 0 1 5) rfl AA
    (m.Hv λt l hm u c z=>((C t hm l u).2 c z).1) (m.Hv λt l hm u c z=>((C t hm l u).2 c z).2) (λl hm=>by
     have⟨t,D,u⟩:=m.Lb l hm
     grind) rfl (λb hb=>by
     rw[DW.1 hb];exact⟨⟨rfl,by simp[AP,Ak],rfl⟩,AD,_,rfl⟩) AD I AA (BM.app (s:=⟨j,tk⟩) E rfl) ((DL y _).trans n) AB (.inr ⟨F j,[[.AE [],AG 3,SS [],AG 0,.AE []]],y,rfl,AD,⟨A,Ay⟩,AD⟩) p
   all_goals grind[Oc]
end
def wC {ds:Ϭ} {t:Ty} (h:BX t (.agg ds)):Ee Z5 [(1,4,.agg ds)]=Y (.AE []::ds):=by
 have⟨d,b,_⟩:=h.cells
 match ds,d,b with
 | [e,f,i,j],_,b=>
  simp[*,cellsOf,Ee,setCells]
theorem wD {α:Type} {l:List (Option α)} {a:α} {r:List α} (h:FH l=Y r):FH (l++[Y a])=Y (r++[a]):=by
 induction l generalizing r with
 | nil=>
  grind[FH]
 | cons x l b=>
  cases x with
  | none=>grind[FH]
  | some y=>
   grind[FH]
section
variable {R:RT} {lm:Bool} {Ar:Nat}
def wE {e:Nat} {l:Ϥ} {y:AV} {exc:Bool} {s0:AY} (x:e<F s0.bs) {bs:Ϩ} {tk:Ϫ} (hs:BM ⟨bs,tk⟩) (z:bs.take (F s0.bs)=s0.bs.set e [BB lm,BB exc]) (B:F s0.bs<=F bs) (k:EE (F s0.bs) bs l y) (j:Cx (.AE []) (.AE []) s0.ts tk) {o:Option Ϥ} (b:o=bif exc||Aa Ar (F l) then G else Y l) (hF:FQ lm Ar o) {QR:QT}
  (m:∀bs tk a n r,(n=o.isNone/\r=o.getD [])->BM ⟨bs,tk⟩->bs.take (F s0.bs)=s0.bs.set e [BB lm,BB n]->F s0.bs<=F bs->EE (F s0.bs) bs r a->Cx (.AE []) (.AE []) s0.ts tk->QR a ⟨bs,tk⟩) :
  G4 (env R) (Co (env R) 49 0 0 0) (.func (.func 99) [] []) [.ptr e 0,y] ⟨bs,tk⟩ λu t=>QR u t:=by
 have p:bs[e]?=Y [BB lm,BB exc]:=CN z (by rw[Cv x]);obtain⟨v,C,⟨rfl,rfl⟩,A⟩:=Jv (R:=R) (e:=e) (l:=l) (y:=y) (exc:=exc) (s:=⟨bs,tk⟩) hs p (k.mono (AO _) λ_ _ _ h=>h) (hF.A7 λh=>by rw[b,h,Dx]; rfl) (L:=Co (env R) 49 0 0 0) rfl rfl;refine⟨_,_,A,?_⟩;have f:(bs.set e [BB lm,BB (exc||Aa Ar (F l))]).take (F s0.bs)=s0.bs.set e [BB lm,BB (exc||Aa Ar (F l))]:=by simp[*,Ep]
 have i:BM ⟨bs.set e [BB lm,BB (exc||Aa Ar (F l))],tk⟩:=BM.set (s:=⟨bs,tk⟩) hs rfl _;cases hb:exc||Aa Ar (F l) with
 | true=>
  rw[hb] at b f i;subst b;exact m _ tk _ Z [] ⟨rfl,rfl⟩ i f AB (.inl ⟨rfl,rfl⟩) j
 | false=>
  rw[hb] at b f i;subst b;exact m _ tk _ ϴ l ⟨rfl,rfl⟩ i f AB (k.keep p rfl (d:=[BB lm,BB ϴ]) (by grind[List.take_of_length_le])) j
def AOI {e f:Nat} {i0:Int} {nm:Ϝ} {ts:Ϣ} {a:AV} (s:BN a (Aj ts)) (π:F ts<2 ^ 30) (β:∀t∈ts,vZ R lm Ar e t (DR (Aa Ar) f t)) (ρ:∀t∈ts,∀l,DR (Aa Ar) f t=Y l->F l<=64) {s0:AY} (H:e<F s0.bs) {o:Option Ϥ} (γ:o=match FH (ts.map (DR (Aa Ar) f)) with
   | none=>G
   | some ls=>bif Aa Ar (F ls.flatten) then G else Y ls.flatten) (hF:FQ lm Ar o) {QR:QT}
  (δ:∀bs tk a I r,(I=o.isNone/\r=o.getD [])->BM ⟨bs,tk⟩->bs.take (F s0.bs)=s0.bs.set e [BB lm,BB I]->F s0.bs<=F bs->EE (F s0.bs) bs r a->Cx (.AE []) (.AE []) s0.ts tk->QR a ⟨bs,tk⟩) :
  ∀(n p:Nat) (exc:Bool) (out:Ϥ) (bs:Ϩ) (tk:Ϫ) (t5:AV),p+n=F ts->(exc=ϴ->∃k,FH ((ts.take p).map (DR (Aa Ar) f))=Y k/\k.flatten=out)->(exc=Z->G∈ts.map (DR (Aa Ar) f))->F out<=64*p->BM ⟨bs,tk⟩->bs.take (F s0.bs)=s0.bs.set e [BB lm,BB exc]->F s0.bs+1<=F bs->bs[F s0.bs]?=Y [AG 4,SS nm,AG i0,a]->EE (F s0.bs+1) bs out t5->Cx (.AE []) (.AE []) s0.ts tk ->
   AC2 R 0 0 0 (.ptr e 0) (.ptr (F s0.bs) 0) t5 (AG p) ⟨bs,tk⟩ QR:=by
 intro n
 induction n with
 | zero=>
  intro p exc out bs tk t5 ε K y N z u C b A x;refine AC3 (AR (Ab b) (Ad (off:=3) b rfl (Au (n:=F ts) (by rw[s.BG,Ae]) (Ao ?_))));rw[A5 AA];refine A4 (AOJ (wE H z u AA (A.mono AA λ_ _ _ h=>h) x (o:=o) ?_ hF δ))
  grind[Lq]
 | succ n O=>
  intro p exc out bs tk t5 ε K y N z u C b A x;refine AC3 (AR (Ab b) (Ad (off:=3) b rfl (Au (n:=F ts) (by rw[s.BG,Ae]) (Ao ?_))));rw[Ax AA];have⟨t,ζ⟩:∃c,ts[p]?=Y c:=⟨_,Az AA⟩;have D:=A8 ζ;have L:bs[e]?=Y [BB lm,BB exc]:=CN u (by rw[Cv H]);refine BH (AOK (AR (Ab b) (Ad (off:=3) b rfl (Bc s (row:=Av t) AA (by grind[BK]) (Aq _) AA (Cd ?_)))));have⟨v,η,d,θ⟩:=β t D (hF.of λh=>by rw[γ,Lq (h ▸ EH D)]) _ (BD.Bo t).Du exc ⟨bs,tk⟩ z (Co (env R) 49 0 0 0) rfl rfl AX L;obtain⟨i,Q⟩:=η;have ξ:F bs<=F i:=d.len
  have S:i.take (F s0.bs)=s0.bs.set e [BB lm,BB (oX exc (DR (Aa Ar) f t)).isNone]:=by
   have:=MW (n:=F s0.bs) AA u d.tk;rwa [Ib] at this
  have T:i[F s0.bs]?=Y [AG 4,SS nm,AG i0,a]:=CN d.tk AB;have E:EE (F s0.bs+1) i out t5:=A.keep L rfl d.tk;have U:EE (F s0.bs+1) i ((oX exc (DR (Aa Ar) f t)).getD []) v:=d.LA.mono C λj c _ h=>h
  have ο:F ((oX exc (DR (Aa Ar) f t)).getD [])<=64:=by
   cases exc with
   | true=>simp[oX]
   | false=>
    cases hb:DR (Aa Ar) f t with
    | none=>simp[oX]
    | some l=>grind[oX]
  refine⟨_,_,θ,AH,Zt E U rfl AA AB ?_⟩;intro ι B q1 κ ς μ;have W:=μ d.ok
  have M:∀j c,j<F s0.bs+1->i[j]?=Y c->B[j]?=Y c:=by
   intro j c σ X;refine κ j c (λn s=>?_) X;rcases E with ⟨y,_⟩|⟨id,rows,y,ν,_⟩
   all_goals grind
  have α:B.take (F s0.bs)=s0.bs.set e [BB lm,BB (oX exc (DR (Aa Ar) f t)).isNone]:=by
   rw[<-S];refine Fw λj=>?_
   grind
  refine AHw (Bb AA AA ?_);have em:(ts.take (p+1)).map (DR (Aa Ar) f)=(ts.take p).map (DR (Aa Ar) f)++[DR (Aa Ar) f t]:=by grind[List.take_add_one]
  have:=O (p+1) (oX exc (DR (Aa Ar) f t)).isNone (out++(oX exc (DR (Aa Ar) f t)).getD []) B Q ι AA (λh=>by
   cases exc with
   | true=>cases h
   | false=>
    cases hb:DR (Aa Ar) f t with
    | none=>rw[hb] at h; cases h
    | some m=>
     have⟨k,ν,τ⟩:=K rfl;refine⟨k++[m],by grind[wD],?_⟩
     grind[oX]) (λh=>by
   cases exc with
   | true=>grind
   | false=>
    cases hb:DR (Aa Ar) f t with
    | some m=>rw[hb] at h; cases h
    | none=>grind) AB W α AB (M _ _ AA T) q1 (x.trans d.QG)
  grind
def AOL {e:Nat} {i0:Int} {nm:Ϝ} {Dz body:Ty} {a:AV} (ε:BN a (Aj [Dz,body])) {ob:Option Ϥ} {l:Ϥ} {t8:AV} {lo:Nat} {Wb W w T C:Nat} (ρ:∀b∈l,LF Wb b/\F (Af b.AM)<=C/\F b.AN+F (Af b.AM)*w<=T) (ς:∀l,ob=Y l->(∀c∈l,LF W c/\F c.AN<=w)/\F l<=64) (Ω:(T:Int)<AW) (hS:Wb+C*W<2 ^ 37) (σ:Wb<=2 ^ 27) (ν:vZ R lm Ar e Dz ob) (hll:F l<=Ar)
  {s0:AY} (B:e<F s0.bs) {o:Option Ϥ} {x0:Bool} (ho:o=bif x0 then G else Fl (Aa Ar) (Dn (Aa Ar) ob Dz) l []) (hF:FQ lm Ar o) {QR:QT} {X:Ϩ} (τ:X.take (F s0.bs)=s0.bs.set e [BB lm,BB x0]) (hXl:F s0.bs+1<=F X) (υ:EE lo X l t8) (hXg:X[F s0.bs]?=Y [AG 6,SS nm,AG i0,a])
  (a0:∀bs tk a f r,(f=o.isNone/\r=o.getD [])->BM ⟨bs,tk⟩->bs.take (F s0.bs)=s0.bs.set e [BB lm,BB f]->F s0.bs<=F bs->EE (F s0.bs) bs r a->Cx (.AE []) (.AE []) s0.ts tk->QR a ⟨bs,tk⟩) :
  ∀(n p:Nat) (exc:Bool) (out:Ϥ) (bs:Ϩ) (tk:Ϫ) (t7:AV),p+n=F l->(exc=ϴ->x0=ϴ/\Fl (Aa Ar) (Dn (Aa Ar) ob Dz) (l.drop p) out=o/\F out<=Ar)->(exc=Z->o=G)->F out<=64+(bif lm then p else 0)*(33*(2 ^ 27+1)+32)->BM ⟨bs,tk⟩->bs.take (F X)=X.set e [BB lm,BB exc]->F X<=F bs->EE (F X) bs out t7->Cx (.AE []) (.AE []) s0.ts tk ->
   AC4 R 0 0 0 (.ptr e 0) (.ptr (F s0.bs) 0) t7 t8 (AG p) ⟨bs,tk⟩ QR:=by
 have U:e<F X:=AA;have φ:X[e]?=Y [BB lm,BB x0]:=CN τ (by rw[Cv B])
 have down:∀(bs:Ϩ) (x:Bool),bs.take (F X)=X.set e [BB lm,BB x]->bs.take (F s0.bs)=s0.bs.set e [BB lm,BB x]:=by
  intro bs x h;have:=Bu (List.take (F s0.bs)) h
  grind[List.take_set,List.set_set]
 have H:∀(bs:Ϩ) (x:Bool),bs.take (F X)=X.set e [BB lm,BB x]->EE lo bs l t8:=λbs x h=>υ.keep φ rfl h
 have ι:∀(bs:Ϩ) (x:Bool),bs.take (F X)=X.set e [BB lm,BB x]->bs[F s0.bs]?=Y [AG 6,SS nm,AG i0,a]:=λbs x h=>CN h AB
 intro n
 induction n with
 | zero=>
  intro p exc out bs tk t7 a1 M D k N i S O I;refine AC5 (Au (n:=F l) (H bs exc i).BG (Ao ?_));rw[A5 AA];refine A4 (AOM (wE B N (down bs exc i) AA (O.mono AA λ_ _ _ h=>h) I (o:=o) ?_ hF a0))
  grind[Fl]
 | succ n χ=>
  intro p exc out bs tk t7 a1 M D k N i S O I;refine AC5 (Au (n:=F l) (H bs exc i).BG (Ao ?_));rw[Ax AA];have⟨b,hb⟩:∃c,l[p]?=Y c:=⟨_,Az AA⟩;have⟨ψ,ω,Γ⟩:=ρ b (A8 hb);have ζ:bs[e]?=Y [BB lm,BB exc]:=CN i (by rw[Cv U]);have η:=ι bs exc i;refine BH (AON (PD (H bs exc i) hb λrb Δ=>AR (Ab η) (Ad (off:=3) η rfl (Bc ε (row:=Av Dz) AA rfl (Aq _) AA (Cd ?_)))));have b9:=hF.le
  have Θ:FQ lm Ar (Dn (Aa Ar) ob Dz b):=by
   cases exc with
   | true=>exact hF.any (D rfl) _
   | false=>
    refine hF.of λh=>?_
    have⟨_,t,_⟩:=M rfl;rw[drop_cons hb,Fl,h] at t;exact t.symm
  have⟨v,a2,⟨r,f,θ,Λ,y⟩,a3⟩:=WW (R:=R) ψ ω ς Ω Γ hS σ Θ ν Δ (BD.Bo Dz).Du (exc:=exc) (s:=⟨bs,tk⟩) N (L:=Co (env R) 49 0 0 0) rfl rfl AX ζ;obtain⟨E,A⟩:=a2;have b7:F bs<=F E:=y.len
  have Ξ:E.take (F X)=X.set e [BB lm,BB f]:=by
   have:=MW (n:=F X) AA i y.tk;rwa [Ib] at this
  have α:EE (F X) E out t7:=O.keep ζ rfl y.tk;have Φ:EE (F X) E r v:=y.LA.mono S λj c _ h=>h
  have hpl:F out<=64+32*(33*(2 ^ 27+1)+32):=by
   cases lm with
   | true=>
    have:=hF.2.1 rfl;have:p*(33*(2 ^ 27+1)+32)<=32*(33*(2 ^ 27+1)+32):=Be _ AA;rw[AQ] at k;exact BC k (S1 this _)
   | false=>
    rw[AL,Sm] at k;exact BC k AH
  refine⟨_,_,a3,AH,Zt α Φ rfl AA AB ?_⟩;intro Q z q1 a4 q3 a5;have β:=a5 y.ok
  have b8:∀j c,j<F X->E[j]?=Y c->z[j]?=Y c:=by
   intro j c hj Ψ;refine a4 j c (λn ε=>?_) Ψ;rcases α with ⟨D,_⟩|⟨id,rows,D,t,_⟩
   all_goals grind
  have γ:z.take (F X)=X.set e [BB lm,BB f]:=by
   rw[<-Ξ];refine Fw λj=>?_
   grind
  have m:z[e]?=Y [BB lm,BB f]:=CN γ (by rw[Cv U]);have κ:F X<=F z:=AB;have ξ:Cx (.AE []) (.AE []) s0.ts A:=I.trans y.QG
  have ο:exc=ϴ->(f=Z->o=G)/\(f=ϴ->Aa Ar (F (out++r))=Z->o=G)/\(f=ϴ->Aa Ar (F (out++r))=ϴ->Fl (Aa Ar) (Dn (Aa Ar) ob Dz) (l.drop (p+1)) (out++r)=o):=by
   rintro rfl;have⟨_,t,_⟩:=M rfl;rw[drop_cons hb,Fl] at t;have hE2:=θ.2 rfl
   grind
  have μ:exc=Z->o=none:=D
  have δ:Aa Ar (F (out++r))=Z->o=none:=by
   intro h;cases B:exc with
   | true=>exact μ B
   | false=>
    have⟨t,a6,h4⟩:=ο B;cases hx:f with
    | true=>exact t hx
    | false=>exact a6 hx h
  have a7:(lm&&decide ((F (out++r):Int)>32))=Aa Ar (F (out++r)):=hF.A7 δ;refine DK (Ab m) (AR (Ab m) (Ad (off:=0) m rfl (jk (n:=F (out++r)) (λ_ h=>Au q1.BG h) ?_)));rw[a7]
  have π:F (out++r)<=64+(bif lm then p+1 else 0)*(33*(2 ^ 27+1)+32):=by
   cases lm with
   | true=>
    rw[AQ] at k ⊢;rw[DM,JT,B6];exact BC (Nat.add_le_add k Λ) (Nat.le_of_eq (Sn _ _ _))
   | false=>
    cases K:Aa Ar (F (out++r)) with
    | true=>exact absurd (δ K) (hF.2.2 rfl)
    | false=>
     have:F (out++r)<=Ar:=by simpa[Aa] using K
     omega
  have next:∀(x:Bool) (u:Ϩ),BM ⟨u,A⟩->u.take (F X)=X.set e [BB lm,BB x]->F X<=F u->EE (F X) u (out++r) Q->(x=ϴ->x0=ϴ/\Fl (Aa Ar) (Dn (Aa Ar) ob Dz) (l.drop (p+1)) (out++r)=o/\F (out++r)<=Ar)->(x=Z->o=G)->wG R 0 0 0 (.ptr e 0) (.ptr (F s0.bs) 0) Q t8 (AG p) ⟨u,A⟩ QR:=by
   intro x u a8 a9 n3 b0 b1 b5;refine AHx (Bb AA AA ?_);have:=χ (p+1) x (out++r) u A Q AA b1 b5 π a8 a9 n3 b0 ξ;simpa using this
  cases K:Aa Ar (F (out++r)) with
  | true=>
   refine BH (DK (Ab m) (AR (Ab m) (C1 m AD rfl (AO _) rfl (.inl (AO _)) ?_)));have b6:[BB lm,BB f].set (0+1) (BB Z)=[BB lm,BB Z]:=rfl;rw[b6];refine next Z _ (BM.set (s:=⟨z,A⟩) β rfl _) (by simp[*,Ep]) AB (q1.keep m rfl (d:=[BB lm,BB Z]) (by grind[List.take_of_length_le])) (λh=>by cases h) (λ_=>?_)
   grind
  | false=>
   refine A4 (next f z β γ κ q1 (λhx=>?_) (λhx=>?_))
   .cases exc with
    | true=>rw[θ.1 rfl] at hx; grind
    | false=>
     grind
   grind
end
def AOO {n:Nat} {X bs:Ϩ} {ts:Ϫ} {l:Ϥ} {v:AV} {Post:Ϡ} (r:∀b∈X,Ap n b=Z) (t:bs.take n=X) (hb:EE n bs l v) (d:∀e,A3 e (l.map C7)->Post e ⟨X,ts⟩):QM ϴ n Post v ⟨bs,ts⟩:=by
 have i:((bs.take n).all (Ap n))=true:=AB;rcases hb with ⟨rfl,rfl⟩|⟨id,rows,u,rfl,j,f,k⟩
 .refine⟨.AE [],⟨X,ts⟩,?_,d _ (.AE _)⟩
  grind[IA,IG,Tel.close]
 .have⟨c,x,y,k1,k2,k3,m⟩:=EE.block (lo:=n) (s:=⟨bs,ts⟩) j f k
  have o:=VH f;have p:¬ id<n:=AA;refine⟨.pv (.list (l.map C7)),⟨X,ts⟩,?_,d _ (.list _)⟩;unfold IA;rw[i];have z:IG ϴ n (.ref id 0 (F l) 5)=none:=rfl;have A:JU bs id 0 (F l) 5=Y (l.map C7):=by grind[JU,List.take_of_length_le,GY,Lp,List.length_map]
  grind[Tel.close]
section
variable {R:RT} {lm:Bool} {Ar:Nat}
def jt (R:RT) (lm:Bool) (Ar e:Nat) (t:Ty) (o:Option Ϥ):Prop:=FQ lm Ar o->∀x,BX t x->∀(d:Bool) (s:AY),BM s->s.bs[e]?=Y [BB lm,BB d]->∀f:QT,
 (∀b tk a i r,(i=(oX d o).isNone/\r=(oX d o).getD [])->BM ⟨b,tk⟩->b.take (F s.bs)=s.bs.set e [BB lm,BB i]->F s.bs<=F b->EE (F s.bs) b r a->Cx (.AE []) (.AE []) s.ts tk->f a ⟨b,tk⟩)->AC6 R 0 0 0 (.ptr e 0) x s f
def jt.c {e:Nat} {t:Ty} {o:Option Ϥ} (h:jt R lm Ar e t o):vZ R lm Ar e t o:=by
 intro hF x hx b s j L d f i k;refine m49 AX ?_;rw[d,f,i];refine h hF x hx b s j k _ ?_
 grind[Oc]
def jt.v {e:Nat} {t:Ty} {o:Option Ϥ} (h:jt R lm Ar e t o):AHu R lm Ar e t o:=by
 intro hF x hx d s f L i k l m;refine m49 AX ?_;rw[i,k,l];refine h hF x hx d s f m _ ?_;rintro z tk a A r ⟨rfl,rfl⟩ B n n3 p u;refine AOO (X:=s.bs.set e [BB lm,BB (oX d o).isNone]) ?_ n p λC y=>⟨tk,y,u,rfl⟩
 have:=BM.set f (c:=[BB lm,BB (oX d o).isNone]) rfl tk (j:=e);intro b hb;have D:=this b hb
 grind
def QX:∀(f:Nat) (t:Ty) (l:Ϥ),DR (Aa Ar) f t=Y l->F l<=max 1 Ar:=by
 intro f t l h
 have y:∀{α:Type} (g:α->Option Ϥ) (l:List α) (d r:Ϥ),F d<=max 1 Ar->Fl (Aa Ar) g l d=Y r->F r<=max 1 Ar:=by
  intro α g l
  induction l with
  | nil=>
   grind[Fl]
  | cons a l j=>
   grind[Fl]
 have tup:∀(e:List Ϥ) (d r:Ϥ),F d<=max 1 Ar->H7 (Aa Ar) e d=Y r->F r<=max 1 Ar:=by
  intro e
  induction e with
  | nil=>
   grind[H7]
  | cons a l j=>
   grind[H7]
 cases f with
 | zero=>grind[DR]
 | succ f=>
  obtain⟨k,n,i,ts⟩:=t;rw[DR] at h;cases m:k==0 with
  | true=>grind
  | false=>
   rw[m] at h;simp only[AL] at h;cases o:k==2||k==5 with
   | true=>grind
   | false=>
    rw[o] at h;simp only[AL] at h;cases p:k==3 with
    | true=>
     grind
    | false=>
     rw[p] at h;simp only[AL] at h;cases s:k==4 with
     | true=>
      grind
     | false=>
      rw[s] at h;simp only[AL] at h;cases u:k==6 with
      | false=>grind
      | true=>
       rw[u] at h;simp only[AQ] at h;rcases ts with _|⟨b,_|⟨x,_|⟨z,r⟩⟩⟩
       all_goals grind[ah]
def wJ {e:Nat} {b body:Ty} {ob ol:Option Ϥ} {C W Wb w T:Nat} (H:vZ R lm Ar e b ob) (I:jt R lm Ar e body ol) (κ:∀l,ol=Y l->F l<=Ar/\∀d∈l,LF Wb d/\F (Af d.AM)<=C/\F d.AN+F (Af d.AM)*w<=T) (K:∀l,ob=Y l->(∀c∈l,LF W c/\F c.AN<=w)/\F l<=64) (U:(T:Int)<AW) (hS:Wb+C*W<2 ^ 37) (L:Wb<=2 ^ 27) :
  jt R lm Ar e (.mk 6 [] 0 [b,body]) (bif ol.isNone then G else Fl (Aa Ar) (Dn (Aa Ar) ob b) (ol.getD []) []):=by
 intro hF x hx m s α A β u;have le:=(BJ.1 A).1;have θ:s.bs.set e [BB lm,BB m]=s.bs:=by grind[List.set_getElem_self]
 have M:=hx;obtain⟨a,rfl,B⟩:=hx;have⟨ν,γ,δ⟩:=M.cells;have j:=A0 s.bs [AG 6,SS [],AG 0,a];have k:=Am A [AG 6,SS [],AG 0,a];have p:BM ⟨s.bs++[[AG 6,SS [],AG 0,a]],s.ts⟩:=BM.app (s:=s) α (δ _);have r:(s.bs++[[AG 6,SS [],AG 0,a]]).take (F s.bs)=s.bs.set e [BB lm,BB m]:=AB;have N:F (s.bs++[[AG 6,SS [],AG 0,a]])=F s.bs+1:=AD;refine AC7 (Bs (cs:=[AG 6,SS [],AG 0,a]) rfl γ (DK (Ab k) (AR (Ab k) (Ad (off:=1) k rfl ?_))));cases m with
 | true=>exact BH (u _ s.ts (.AE []) Z [] ⟨rfl,rfl⟩ p r AD (.inl ⟨rfl,rfl⟩) (Cx.refl _ _))
 | false=>
  refine A4 (AC8 (AR (Ab j) (Ad (off:=0) j rfl (BE ?_))));simp only[oX,AL] at u;generalize s.bs++[[AG 6,SS [],AG 0,a]]=y at j k p r N;refine A4 (BE (A4 (BE (eB (A4 (BE (A4 (BE (A4 (BE (BH (AR (Ab j) (Ad (off:=3) j rfl (Bc B (row:=Av body) AA rfl (Aq _) AA (Cd ?_)))))))))))))));have⟨v,ε,f,ζ⟩:=I.c (hF.of λh=>by grind) _ (BD.Bo body).Du ϴ ⟨y,s.ts⟩ p (Co (env R) 49 0 0 0) rfl rfl AX k;obtain⟨i,O⟩:=ε;have η:F y<=F i:=f.len;have t:=MW (n:=F s.bs) AA r f.tk;rw[Ib] at t;have Q:i[F s.bs]?=Y [AG 6,SS [],AG 0,a]:=CN f.tk AB;refine⟨_,_,ζ,?_⟩;have z:=f.LA;have D:=f.ok;have E:=f.QG;simp only[oX,AL] at t z;have μ:i.set e [BB lm,BB ol.isNone]=i:=by grind[List.getElem?_set_self,List.set_getElem_self]
  have ι:=hF.le
  have:=AOL (R:=R) (e:=e) (i0:=0) (nm:=[]) (Dz:=b) (body:=body) B (ob:=ob) (l:=ol.getD []) (t8:=v) (lo:=F y) (Wb:=Wb) (C:=C) (W:=W) (w:=w) (T:=T) (λd ξ=>by
   cases S:ol with
   | none=>grind
   | some l=>
    grind) K U hS L H (by
   cases S:ol with
   | none=>simp
   | some l=>grind) (s0:=s) le (o:=bif ol.isNone then G else Fl (Aa Ar) (Dn (Aa Ar) ob b) (ol.getD []) []) (x0:=ol.isNone) rfl hF (QR:=β) (X:=i) t AA z Q u (F (ol.getD [])) 0 ol.isNone [] i O (.AE []) AA (λh=>⟨h,AB,AD⟩) (λh=>by grind) AD D AB (AU _) (.inl ⟨rfl,rfl⟩) E
  omega
def Il {e:Nat}:∀(f:Nat) (t:Ty),Al t<=f->A2 t=Z->CG (bw t)->wt t<=2 ^ 27->AP t<2 ^ 30->jt R lm Ar e t (DR (Aa Ar) f t):=by
 intro f
 induction f with
 | zero=>
  intro t O;obtain⟨k,n,i,ts⟩:=t
  grind[Al]
 | succ f b4=>
  intro t O B H b5 υ hF x hx α s ξ η γ y;have a6:=hF.le;have a4:=hF.1.1;have δ:=λ(t:Ty) (l:Ϥ) (h:DR (Aa Ar) f t=Y l)=>(show F l<=64 from BC (QX f t l h) AA)
  have le:=(BJ.1 η).1;have a7:s.bs.set e [BB lm,BB α]=s.bs:=by grind[List.set_getElem_self]
  obtain⟨k,n,i,ts⟩:=t;have φ:=B;have M:=hx;simp only[A2,AK] at B;simp only[Al] at O;simp only[AP] at υ;have a8:=Bl ts
  have β:∀t∈ts,(CG (bw t)/\wt t<=2 ^ 27)->jt R lm Ar e t (DR (Aa Ar) f t):=by
   intro t m h;have:=Et m;have:=FG m
   grind[CB]
  by_cases χ:k=6
  .subst χ
   rcases JN B.1 with h|h|h|h|h|h|⟨_,rfl,rfl,b,j,rfl,ψ⟩
   iterate 6 exact absurd h AD
   simp only[BO,AK] at B;obtain⟨_,ω,Γ,_⟩:=B;have a9:bw (.mk 6 [] 0 [b,j])=bw j+1+(cv j+1)*bw b:=rfl;have b0:wt (.mk 6 [] 0 [b,j])=wt j+max 1 (cv j)*wt b:=rfl;have ι:CG (bw b):=DE H AB;have κ:CG (bw j):=DE H AA;have b6:1*wt b<=max 1 (cv j)*wt b:=Be _ AA;have θ:DR (Aa Ar) (f+1) (.mk 6 [] 0 [b,j])=bif (DR (Aa Ar) f j).isNone then G else Fl (Aa Ar) (Dn (Aa Ar) (DR (Aa Ar) f b) b) ((DR (Aa Ar) f j).getD []) []:=by grind[DR,ah]
   rw[θ] at hF y;refine wJ (C:=max 1 (cv j)) (W:=wt b) (Wb:=wt j) (w:=bw b) (T:=bw (.mk 6 [] 0 [b,j])) (β b AD ⟨ι,AA⟩).c (β j AD ⟨κ,AA⟩) (λl ζ=>⟨BC (QX f j l ζ) AA,λd O=>?_⟩) (λl z=>⟨λc D=>⟨Ln f b l ω ι z c D,(Cq f b l z c D).1⟩,δ b l z⟩) H AA AA hF _ M α s ξ η γ y;have⟨Ψ,ο⟩:=Cq f j l ζ d O;refine⟨Ln f j l Γ κ ζ d O,AA,?_⟩;have b7:F (Af d.AM)*bw b<=cv j*bw b:=Be _ ο
   grind
  obtain⟨a,rfl,Ω⟩:=hx;have⟨b8,a0,a1⟩:=M.cells;have E:=A0 s.bs [AG k,SS n,AG i,a];have Q:=Am η [AG k,SS n,AG i,a];have I:BM ⟨s.bs++[[AG k,SS n,AG i,a]],s.ts⟩:=BM.app (s:=s) ξ (a1 _);have K:(s.bs++[[AG k,SS n,AG i,a]]).take (F s.bs)=s.bs.set e [BB lm,BB α]:=AB;have Δ:F (s.bs++[[AG k,SS n,AG i,a]])=F s.bs+1:=AD;refine AC7 (Bs (cs:=[AG k,SS n,AG i,a]) rfl a0 (DK (Ab Q) (AR (Ab Q) (Ad (off:=1) Q rfl ?_))));cases α with
  | true=>exact BH (y _ s.ts (.AE []) Z [] ⟨rfl,rfl⟩ I K AD (.inl ⟨rfl,rfl⟩) (Cx.refl _ _))
  | false=>
   refine A4 (AC8 (AR (Ab E) (Ad (off:=0) E rfl (BE ?_))));simp only[oX,AL] at y;generalize s.bs++[[AG k,SS n,AG i,a]]=p at E Q I K Δ
   have leaf:∀(u:Ty) (A:Ϭ) (N:Ϫ),BX u (.agg A)->DR (Aa Ar) (f+1) (.mk k n i ts)=Y [⟨[],u⟩]->Cx (.AE []) (.AE []) s.ts N->E3 [(.AE []),(AG 0),(SS []),(AG 0),(.AE [])] [(1,4,.agg A)] λΘ=>HJ Z ⟨p,N⟩ 5 [(.AE []),(AG 0),(SS []),(AG 0),(.AE [])] 1 [(0,5,Θ)] λΛ σ=>γ Λ σ:=by
    intro u A N π hb Ξ;have ε:CL ⟨[],u⟩ (.agg (.AE []::A)):=⟨.AE [],A,rfl,.inl (.AE _),π⟩;have⟨Ψ,ο,a2⟩:=ε.cells;refine FV (wC π) (KH ε ?_);have μ:F s.bs<=F p:=AA;exact y (p++[.AE []::A]) N (.ref (F p) 0 1 5) ϴ [⟨[],u⟩] AB (BM.app (s:=⟨p,N⟩) I (a2 _)) ((DL μ _).trans K) AB (.inr ⟨F p,[.AE []::A],μ,rfl,AD,⟨ε,Ay⟩,AD⟩) Ξ
   have var:(k==2||k==5)=Z->(k==0)=ϴ->AC9 R 0 0 0 (.ptr e 0) (.ptr (F s.bs) 0) (AG k) (BB Z) ⟨p,s.ts⟩ γ:=by
    intro b9 b1;have τ:TI (.mk k n i ts)=true:=NV (λi hi=>by grind) _ (I9 _ φ);refine eB (BH (Ag E rfl (AI (jh (R:=R) (by grind[AP]) τ M) ?_)));intro r ρ;obtain⟨A,rfl⟩:=ρ.Du.agg;refine leaf _ A s.ts ρ.Du ?_ (Cx.refl _ _)
    grind[DR]
   rcases JN B.1 with ⟨rfl,rfl,rfl,rfl⟩|⟨rfl,rfl,rfl,rfl⟩|rfl|⟨rfl,rfl,rfl⟩|⟨rfl,rfl,rfl,b3⟩|⟨rfl,rfl,rfl,h0⟩|⟨rfl,rfl,rfl,b,j,rfl,ψ⟩
   .exact BH (Ag E rfl (leaf _ _ s.ts M AX (Cx.refl _ _)))
   .refine A4 (BE (A4 (BE (eB (A4 (BE (A4 (BE (A4 (BE (A4 (AOP ?_))))))))))))
    exact y p s.ts (.AE []) ϴ [] (by grind[DR]) I K AA (.inl ⟨rfl,rfl⟩) (Cx.refl _ _)
   .grind[A4,BE]
   ·-- a tuple
    have X:∀t∈ts,CG (bw t)/\wt t<=2 ^ 27:=by
     intro t m;refine⟨DE H (by simp[*,bw,Fp,EM,EH]),?_⟩;have e:wt (.mk 3 [] 0 ts)=1+(ts.map wt).sum:=by grind[wt,JG]
     have:=EM (EH (f:=wt) m);omega
    have ew:wt (.mk 3 [] 0 ts)=1+(ts.map wt).sum:=by grind[wt,JG]
    have e2:bw (.mk 3 [] 0 ts)=(ts.map bw).sum:=by grind[bw,Fp]
    have θ:DR (Aa Ar) (f+1) (.mk 3 [] 0 ts)=wA Ar f ts:=AX;rw[θ] at y;refine A4 (BE (A4 (BE (eB (A4 (BE (BH (Ag E rfl ?_))))))));have⟨v,a3,U,D⟩:=js (R:=R) (e:=e) (f:=f) (T:=bw (.mk 3 [] 0 ts)) (S:=wt (.mk 3 [] 0 ts)) H AA AA (λt m=>(β t m (X t m)).v) (λt m l z=>⟨δ t l z,λc D=>⟨Ln f t l (CB B.2 m) (X t m).1 z c D,(Cq f t l z c D).1⟩⟩) AA AA AB M (s:=⟨p,s.ts⟩) I (L:=Co (env R) 49 0 0 0) rfl rfl AX Q;obtain⟨ς,Φ⟩:=a3;have a5:F p<=F ς:=U.len;have ν:=MW (n:=F s.bs) AA K U.tk;rw[Ib] at ν;exact⟨_,_,D,y ς Φ v _ _ ⟨rfl,rfl⟩ U.ok ν AA (U.LA.mono AB λ_ _ _ h=>h) U.QG⟩
   ·-- a union
    have X:∀t∈ts,CG (bw t)/\wt t<=2 ^ 27:=by
     intro t m;refine⟨DE H (by simp[*,bw,Fp,EM,EH]),?_⟩;have e:wt (.mk 4 [] 0 ts)=1+(ts.map wt).sum:=by grind[wt,JG]
     have:=EM (EH (f:=wt) m);omega
    refine A4 (BE (A4 (BE (eB (A4 (BE (A4 (BE (BH ?_)))))))));have:=AOI (R:=R) (e:=e) (f:=f) (i0:=0) (nm:=[]) Ω AA (λt m=>(β t m (X t m)).c) (λt m l z=>δ t l z) (s0:=s) le (o:=DR (Aa Ar) (f+1) (.mk 4 [] 0 ts)) AX hF (QR:=γ) y (F ts) 0 ϴ [] p s.ts (.AE []) AA (λ_=>⟨[],rfl,rfl⟩) (λh=>by cases h) AD I K AA E (.inl ⟨rfl,rfl⟩) (Cx.refl _ _);omega
   all_goals grind[A4,BE,BH]
end
end Go.Proofs.YtpgfpakdnijngaaGreatDoor
