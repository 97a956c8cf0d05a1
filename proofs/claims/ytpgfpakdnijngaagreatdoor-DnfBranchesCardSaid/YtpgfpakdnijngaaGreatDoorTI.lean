/-
  Generated terms: arg, term.
-/
import Derived.Test.YtpgfpakdnijngaaGreatDoorTH
import Derived.Test.YtpgfpakdnijngaaGreatDoorTE
import Derived.Test.YtpgfpakdnijngaaGreatDoorW1
set_option linter.all false
namespace Go.Proofs.YtpgfpakdnijngaaGreatDoor
open Go.Tel
open List renaming length->F
open Option renaming some->Y,none->G
open Bool renaming true->Z,false->ϴ
section
variable {bs:Ϩ} {id:Nat} {l:Src} {R:Nat->Option Ϧ}
def w7 (s:OM bs id l) {W:List Ϝ} (S:(env R).G 1=Y (FE W)) (T:F W=4) (χ:Short W) {u:AV} (μ:Nat)
  (ν:∀d:Nat,d<=20->VT R bs id l u 83 d (3*d+1) μ (nE d)) (ξ:∀d:Nat,d<=20->VT R bs id l u 41 d (3*d+2) μ (MX d)) (e:Int) (a6:-1<=e) (Ψ:e<=20):VT R bs id l u 115 e (3*(e+1).toNat) (μ+1) (qs e):=by
 intro m hm k ψ j Ξ a7 L K ts Ω;have Φ:=s.len;have a0:=s.lt
 suffices H:∀(i:Bool) (N:Nat) (f:Ϡ),N=F bs+F m->(∀t v z x,BX t v->qs e (8*(z-k)+1) t->k<=z->z<=l.length->f v ⟨ST bs id l z++m,ts++x⟩)->w8 R 0 L.ro L.rt (.ptr id 0) u (AG e) (AG j) ⟨ST bs id l k++m,ts⟩ (QM i N f) from
  AXD AX (H _ _ _ (by simp[GZ]) λt v z x C D ω T=>⟨t,z,x,C,D,ω,T,rfl⟩)
 intro i N f Γ Δ;have B:=Z2 hm
 have M:∀(k1:Nat) (x:Ϫ) (t:Ty) (v:AV),BX t v->qs e (8*(k1-k)+1) t->k<=k1->k1<=l.length->Hw (Co (env R) 115 0 L.ro L.rt) ⟨ST bs id l k1++(m++[Z4]),ts++x⟩ 4 (.ptr (F bs+F m) 0) v λb=>EX (env R) b (Y 4) (.ptr (F bs+F m) 0) λr=>QM i N f r b:=
  λk1 x t v p hb C D=>VS (R:=R) (Post:=f) (rr:=i) (N:=N) (k:=k1) (ts:=ts++x) (Mj:=Z4) (r:=[]) (L':=Co (env R) 115 0 L.ro L.rt) s hm rfl Γ K rfl p (λy Θ=>Δ t y k1 x Θ hb C D)
 have β:∀(k1:Nat) (t:Ty) (v:AV),BX t v->qs e (8*(k1-k)+1) t->k<=k1->k1<=l.length->Hw (Co (env R) 115 0 L.ro L.rt) ⟨ST bs id l k1++(m++[Z4]),ts⟩ 4 (.ptr (F bs+F m) 0) v λb=>EX (env R) b (Y 4) (.ptr (F bs+F m) 0) λr=>QM i N f r b:=by
  intro k1 t v p hb C D;have:=M k1 [] t v p hb C D
  grind
 refine AH3 ?_;simp only[Hr,EG,B6,GZ];refine Cr (HX (n:=6) s B ψ AA AA _ Bp ts) ?_;rintro v b ⟨r,k1,rfl,a1,a2,a3,I,rfl⟩;have a4:(l.length-k1)*100<=(l.length-k)*100:=Be _ AA;have η:Dh .i64 .leq (AG e) (AG 0) λο=>
 EK ο (
 EX (env R) ⟨ST bs id l k1++(m++[Z4]),ts⟩ G (.EF 1 0) λγ=>
 G4 (env R) (Co (env R) 115 0 L.ro L.rt) (.func (.func 54) [] []) [(.ptr id 0),(AG 4)] ⟨ST bs id l k1++(m++[Z4]),ts⟩ λπ E=>
 OK E 1 γ π λρ=>
 EX (env R) E G ρ λς=>
 G4 (env R) (Co (env R) 115 0 L.ro L.rt) (.func (.func 26) [] []) [ς,(.AE [])] E λσ θ=>
 Hw (Co (env R) 115 0 L.ro L.rt) θ 4 (.ptr (F bs+F m) 0) σ λX=>
(EX (env R) E G (.EF 1 0) λv=>D9 v γ=Z) /\
 EX (env R) X (Y 4) (.ptr (F bs+F m) 0) λι=>
 QM i N f ι X) (
 Dh .i64 .lss (AG r) (AG 4) λτ=>
 EK τ (
 G4 (env R) (Co (env R) 115 0 L.ro L.rt) (.func (.func 83) [] []) [(.ptr id 0),u,(AG e),(AG j)] ⟨ST bs id l k1++(m++[Z4]),ts⟩ λυ ζ=>
 Hw (Co (env R) 115 0 L.ro L.rt) ζ 4 (.ptr (F bs+F m) 0) υ λα=>
 EX (env R) α (Y 4) (.ptr (F bs+F m) 0) λκ=>
 QM i N f κ α) (
 w9 R 0 L.ro L.rt (.ptr id 0) u (AG e) (.ptr (F bs+F m) 0) ⟨ST bs id l k1++(m++[Z4]),ts⟩ (QM i N f))):=by
  refine ZW ?_
  by_cases ε:e<=0
  .have A:decide (e<=0)=true:=by grind
   rw[A];refine BH (QZ S ?_);refine Cr (HX (n:=4) s B I AA AA _ Bp ts) ?_;rintro v b ⟨U,k2,rfl,O,δ,Q,o,rfl⟩;have⟨w,Λ,φ⟩:=Ra S T χ O δ;refine Zy O Λ (jw ?_);refine AI (Ky (.AE [])) ?_;rintro v rfl;exact Zx (QZ S (SL W)) (β k2 (.mk 2 w 0 []) _ ⟨_,rfl,by simp[Aj]; exact .inl (.AE _)⟩ (qs.leaf φ AA AA) AA o)
  .have A:decide (e<=0)=false:=by grind
   rw[A];obtain⟨d,rfl⟩:=ke (show 0<=e by omega);refine A4 (Ao ?_);cases a8:decide (r<4) with
   | true=>
    refine BH ?_;refine Cr (ν d AA B I j AA AA (Co (env R) 115 0 L.ro L.rt) K ts Bp) ?_;rintro v b ⟨t,k3,x,p,hb,Q,o,rfl⟩;exact M k3 x t v p (hb.a ε AA) AA o
   | false=>
    refine A4 (AH4 (FL AA AA ?_));have e3:((d:Nat):Int)-1=((d-1:Nat):Int):=AA;rw[e3];refine Cr (ξ (d-1) AA B I 0 AA AA (Co (env R) 115 0 L.ro L.rt) K ts Bp) ?_;rintro v b ⟨t,k3,x,p,hb,Q,o,rfl⟩;exact M k3 x t v p (hb.a ε AA) AA o
 refine Ao ?_;cases a9:decide (r<2) with
 | false=>exact LC AD (LC AD (pk (A4 η)))
 | true=>
  refine Aw (Aw (Gv (pk ?_)))
  by_cases a5:j=0
  .have A:decide ((j:Int)>0)=false:=by grind
   grind[A4]
  .have A:decide ((j:Int)>0)=true:=by grind
   rw[A];refine BH ?_;refine Cr (HX (n:=j) s B I AA AA _ Bp ts) ?_;rintro v b ⟨U,k2,rfl,O,δ,Q,o,rfl⟩;refine AI (KI U) ?_;rintro v rfl;exact β k2 (.mk 5 [] U []) _ ⟨_,rfl,by simp[Aj]; exact .inl (.AE _)⟩ (qs.leaf AD AA AA) AA o
end
attribute [local simp] Hr MD Ir JL EK E3 Ee wO setCells Hw EX Dd Co Ex alive Dh Jf Qk bU Gq Iu Gl Hs K9 Iv gX fY okB gY gZ gh gi gj ag gm gp gu gv gw gx gy gz hG hJ hO okF hY iA iB iC iD Tu iE Ow Ox Oy Oz iG iH iI iJ iK iL iM iP iQ iR GG iT fZ iU iV iW iX iY iZ ia ic ie ig C0
section
variable {bs:Ϩ} {id:Nat} {l:Src} {R:Nat->Option Ϧ}
def VU:Ah (env R) 53 [] λr=>r=T0 0 [] 0:=by
 refine e53 AD (APH ?_);simp[QP,QI]
def VV:Ah (env R) 80 [] λr=>r=T0 1 [] 0:=by
 refine e80 AD (API ?_);simp[QP,QI]
def Z3 {k1 i1 k2 i2:Int} {n1 n2:Ϝ} {e f:AV} {b d:Ϯ} (k:BN e b) (m:BN f d) :
  Ah (env R) 52 [.agg [AG k1,SS n1,AG i1,e],.agg [AG k2,SS n2,AG i2,f]] λr=>r=.agg [AG 6,SS [],AG 0,.AE [[.sc (.int .i64 k1),.sc (.string ⟨n1.toArray⟩),.sc (.int .i64 i1),.list b],[.sc (.int .i64 k2),.sc (.string ⟨n2.toArray⟩),.sc (.int .i64 i2),.list d]]]:=by
 have⟨n,p,i⟩:=k.closed ([]:Ϩ) 0;have⟨o,s,j⟩:=m.closed ([]:Ϩ) 0;refine e52 (u0:=.agg [AG k1,SS n1,AG i1,n]) (u1:=.agg [AG k2,SS n2,AG i2,o]) (by simp[*]) (APJ ?_);simp[QP,QI,i.ok,j.ok,i.KX,j.KX,HJ,GC,CZ]
def BX.self {t:Ty} {v:AV} (h:BX t v):D9 v v=true:=by
 obtain⟨k,n,i,ts⟩:=t;obtain⟨a,rfl,b⟩:=h
 grind[D9,JY,OH,F7,Ie,BN.D9]
def MY {t u:Ty} {x y:AV} (h:BX t x) (d:BX u y):Ah (env R) 52 [x,y] λr=>BX (.mk 6 [] 0 [t,u]) r:=by
 obtain⟨k,n,i,ts⟩:=t;obtain⟨e,f,j,s⟩:=u;obtain⟨a,rfl,m⟩:=h;obtain⟨z,rfl,b⟩:=d;have⟨v,o,p⟩:=Z3 (R:=R) (k1:=k) (i1:=i) (k2:=e) (i2:=j) (n1:=n) (n2:=f) m b;exact⟨v,⟨_,o,by simp[Aj,Av]; exact .inl (.AE _)⟩,p⟩
def eG {t u:Ty} {x y:AV} (h:BX t x) (e:BX u y) (s:AY) (K:Ϡ) (j:K (.AE (Aj [t,u])) s):HJ ϴ s 4 [(AG 0),(SS []),(AG 0),(.AE [])] 2 [(0,4,x),(4,4,y)] K:=by
 obtain⟨k,n,i,ts⟩:=t;obtain⟨m,o,p,f⟩:=u;obtain⟨a,rfl,d⟩:=h;obtain⟨r,rfl,b⟩:=e;simp[HJ,GC,CZ,d.ok,d.KX,b.ok,b.KX]
 assumption
def pZ (T:OM bs id l) {W:List Ϝ} (Ξ:(env R).G 1=Y (FE W)) (Φ:F W=4) (sW:Short W) {M:AV} (μ:Nat)
  (ihn:∀d:Nat,d<=20->VT R bs id l M 83 d (3*d+1) μ (nE d)) (ι:∀d:Nat,d<=20->VT R bs id l M 41 d (3*d+2) μ (MX d)) (d:Nat) (hd:d<=20):VT R bs id l M 41 d (3*d+2) (μ+1) (MX d):=by
 intro m hm k hk f hvars hμ L γ ts a6;have hlen:=T.len;have hlt:=T.lt
 suffices H:∀(I:Bool) (N:Nat) (A:Ϡ),N=F bs+F m->(∀t v η x,BX t v->MX d (8*(η-k)+1) t->k<=η->η<=l.length->A v ⟨ST bs id l η++m,ts++x⟩)->ADd R 0 L.ro L.rt (.ptr id 0) M (AG d) (AG f) ⟨ST bs id l k++m,ts⟩ (QM I N A) from
  m41 (by simp[Da,F9]) (H _ _ _ (by simp[GZ]) λt v η x D o h3 Φ=>⟨t,η,x,D,o,h3,Φ,rfl⟩)
 intro I N A hN hP;have δ:=Z2 hm;have g1:∀n,L.ro<=F bs+F m+n:=λn=>by omega
 have κ:∀(k1:Nat) (x:Ϫ) (r:Ϩ) (t:Ty) (v:AV),BX t v->MX d (8*(k1-k)+1) t->k<=k1->k1<=l.length->Hw (Co (env R) 41 0 L.ro L.rt) ⟨ST bs id l k1++(m++Z4::r),ts++x⟩ 4 (.ptr (F bs+F m) 0) v λp=>EX (env R) p (Y 4) (.ptr (F bs+F m) 0) λr=>QM I N A r p:=
  λk1 x r t v E hb D o=>VS (R:=R) (Post:=A) (rr:=I) (N:=N) (k:=k1) (ts:=ts++x) (Mj:=Z4) (r:=r) (L':=Co (env R) 41 0 L.ro L.rt) T hm rfl hN γ rfl E (λy hy=>hP t y k1 x hy hb D o)
 have θ:∀(k1:Nat) (r:Ϩ) (t:Ty) (v:AV),BX t v->MX d (8*(k1-k)+1) t->k<=k1->k1<=l.length->Hw (Co (env R) 41 0 L.ro L.rt) ⟨ST bs id l k1++(m++Z4::r),ts⟩ 4 (.ptr (F bs+F m) 0) v λp=>EX (env R) p (Y 4) (.ptr (F bs+F m) 0) λr=>QM I N A r p:=by
  intro k1 r t v E hb D o;have:=κ k1 [] r t v E hb D o;simpa using this
 have ψ:∀x:Ϫ,(Co (env R) 41 0 L.ro L.rt).rt<=F (ts++x):=λx=>by simp[Co]; omega
 have mu:∀k1,k<=k1->(l.length-k1)*100<=(l.length-k)*100:=λk1 h=>Be _ AA
 have mus:∀k1,k<k1->k1<=l.length->(l.length-k1)*100+100<=(l.length-k)*100:=λk1 h h'=>by
  have:(l.length-k1+1)*100<=(l.length-k)*100:=Be _ AA;omega
 have AAj:∀k1,k<=k1->k1<=l.length->G4 (env R) (Co (env R) 41 0 L.ro L.rt) (.func (.func 83) [] []) [(.ptr id 0),M,(AG d),(AG f)] ⟨ST bs id l k1++(m++[Z4]),ts⟩ λa48 AXE=>
   Hw (Co (env R) 41 0 L.ro L.rt) AXE 4 (.ptr (F bs+F m) 0) a48 λa3=>EX (env R) a3 (Y 4) (.ptr (F bs+F m) 0) λr=>QM I N A r a3:=by
  intro k1 D o;refine Cr (ihn d hd δ o f hvars (by have:=mu k1 D; omega) (Co (env R) 41 0 L.ro L.rt) γ ts (by simpa[Co] using a6)) ?_;rintro v p ⟨t,k3,x,E,hb,S,i,rfl⟩;exact κ k3 x [] t v E (hb.g.mono AA) AA i
 have last:∀k1,0<d->k<k1->k1<=l.length->xA R 0 L.ro L.rt (.ptr id 0) (.ptr (F bs+F m) 0) ⟨ST bs id l k1++(m++[Z4]),ts⟩ (QM I N A):=by
  intro k1 O D o;refine AH5 ?_;refine Cr (HX (n:=4) T δ o AA AA _ (by simp[*]) ts) ?_;rintro v p ⟨β,k2,rfl,ε,ν,S,i,rfl⟩;refine BE ?_;cases (β==0) with
  | true=>
   refine BH ?_;refine AI VV ?_;rintro v rfl;exact θ k2 [] (.mk 1 [] 0 []) _ ⟨_,rfl,by simp[Aj]; exact .inl (.AE _)⟩ (MX.leaf rfl rfl AD AA AA) AA i
  | false=>
   refine A4 (AH6 ?_);refine AI VU ?_;rintro v rfl;refine AI (KI 0) ?_;rintro v rfl
   have hb1:∀(s:AY) (K:Ϡ),K (.AE (Aj [.mk 5 [] 0 []])) s->HJ ϴ s 4 [(AG 0),(SS []),(AG 0),(.AE [])] 1 [(0,4,T0 5 [] 0)] K:=by
    intro s K Ψ;simp[HJ,GC,CZ];simpa[Aj,Av] using Ψ
   refine hb1 _ _ ?_;refine AI (Ky (.AE _)) ?_;rintro v rfl;refine AI (MY (t:=.mk 0 [] 0 []) (u:=.mk 2 [66,111,120] 0 [.mk 5 [] 0 []]) ⟨_,rfl,by simp[Aj]; exact .inl (.AE _)⟩ ⟨_,rfl,.inl (.AE _)⟩) ?_;intro v E;refine θ k2 [] _ _ E ?_ AA i;exact MX.ex (B:=1) (C:=2) O (MX.leaf rfl rfl AD AA AA) ((nE.of (RZ.node (B:=1) AD (Jl.cons (B:=1) (C:=0) (RZ.leaf AD AA) Jl.nil AA)) (VM (by simp[AP,Ak]) (by simp[Al,Cp])) AD AX).g) AA
 have a4:∀(k1:Nat) (x:Ϫ) (Ω:Ty) (Q:Ϭ),BX Ω (.agg Q)->F Q=4->(Q.all BS)=Z->(∀n,Ap n Q=Z)->0<d->k<k1->k1<=l.length->MX 1 (8*(k1-k)-7) Ω ->
   ADe R 0 L.ro L.rt (.ptr id 0) M (AG d) (AG f) (.ptr (F bs+F m) 0) (.ptr (F bs+F m+1) 0) ⟨ST bs id l k1++(m++[Z4,Q]),ts++x⟩ (QM I N A):=by
  intro k1 x Ω Q a5 hv4 a7 hids O D o hsz;have a8:∀(k:Nat) (t:Ϫ) (K:AV->Prop),K (.agg Q)->EX (env R) ⟨ST bs id l k++(m++[Z4,Q]),t⟩ (Y 4) (.ptr (F bs+F m+1) 0) K:=by simp[*,Ek,CC]
  refine APK (a8 _ _ _ (FL AA AA (Bb AA AA ?_)));have e3:((d:Nat):Int)-1=((d-1:Nat):Int):=AA;have e4:((f:Nat):Int)+1=((f+1:Nat):Int):=AA;rw[e3,e4]
  have α:LI bs (m++[Z4,Q]):=Ju hm (by
   intro b hb;simp only[BF,ER,ES] at hb;rcases hb with rfl|rfl
   all_goals simp[*,Ap,A6])
  refine Cr (ι (d-1) AA α o (f+1) AA AA (Co (env R) 41 0 L.ro L.rt) γ (ts++x) (ψ x)) ?_;rintro v p ⟨t,k3,a0,E,hb,S,i,rfl⟩;refine AI (MY a5 E) ?_;intro w ξ;refine Zx (a8 _ _ _ a5.self) ?_;rw[EG];refine κ k3 (x++a0) [Q] _ w ξ ?_ AA i;exact MX.ex O hsz hb AA
 have loop:∀(k1 ζ:Nat),0<d->k<k1->k1<=l.length->ζ<=3->∀(j q k2:Nat) (x:Ϫ) (a:AV) (U:Ϣ),q+j=ζ->k1<=k2->k2<=l.length->F U=q->Z1 (d-1) (8*(k2-k1)+q) U->D1 (F ts) (ts++x) 25 a (Aj U) ->
   ADf R 0 L.ro L.rt (.ptr id 0) M (AG d) (AG f) (.ptr (F bs+F m) 0) (.ptr (F bs+F m+1) 0) (AG ζ) (AG q) ⟨ST bs id l k2++(m++[Z4,[AG 3,SS [],AG 0,a]]),ts++x⟩ (QM I N A):=by
  intro k1 ζ O a9 b4 hcnt j
  induction j with
  | zero=>
   intro q k2 x a U hq AXF χ hes ω ο;have a2:=ο.BA;refine ADg (Ao ?_);have D:¬ ((q:Int)<ζ):=AA;simp only[D,Ym];refine A4 (AH7 ?_);have:=κ k2 x [[AG 3,SS [],AG 0,a]] (.mk 3 [] 0 U) (.agg [AG 3,SS [],AG 0,a]) ⟨a,rfl,a2⟩ ((MX.tup O AA ω).mono AA) AA χ;simpa[EX,wO,Dd,Ek] using this
  | succ j ihj=>
   intro q k2 x a U hq AXF χ hes ω ο;have a2:=ο.BA;refine ADg (Ao ?_);have D:((q:Int)<ζ):=AA;simp only[D,decide_true];refine BH (AH8 ?_);have α:LI bs (m++[Z4,[AG 3,SS [],AG 0,a]]):=Ju hm (by simp[Ap,A6,a2.A6]);simp[Ek,KP,Im,KQ];refine Ci AA AA ?_;have e3:((d:Nat):Int)-1=((d-1:Nat):Int):=AA;rw[e3];refine Cr (ι (d-1) AA α χ f AA AA (Co (env R) 41 0 L.ro L.rt) γ (ts++x) (ψ x)) ?_;rintro v p ⟨t,k3,x2,E,hqn,i,Γ,rfl⟩;obtain⟨π,ρ,ς,nI⟩:=t;obtain⟨b,rfl,hb⟩:=E;simp[HJ,GC,hb.ok,hb.KX,Ek,KP,Im,KQ];have hrow:CZ 4 1 [PV.sc (.int .i64 π),.sc (.string ⟨ρ.toArray⟩),.sc (.int .i64 ς),.list (Aj nI)]=[Av (.mk π ρ ς nI)]:=AX;rw[hrow]
   have ha2:D1 (F ts) (ts++(x++x2)) 25 a (Aj U):=by
    rw[<-EG];exact ο.grow
   refine NL ha2 a6 (λr hr=>VR r hr) (Aq _) AA (DG _) (by simp[Ae]; omega) (by simp[Ae]; omega) ?_;intro a' x' b7;have Δ:=b7.BA;have:=g1 1;simp[Ek,KP,Im,KQ,Δ.ok,Δ.cells,Δ.Jw,this];refine⟨by simp[D9],?_,?_⟩
   .simpa[AAh.D9] using AAh.D9 ο
   refine AH9 (Bb AA AA ?_)
   have ha3:D1 (F ts) (ts++x') 25 a' (Aj (U++[.mk π ρ ς nI])):=by
    rw[Ff];simpa[Aj] using b7
   have:=ihj (q+1) k3 x' a' (U++[.mk π ρ ς nI]) AA AA Γ (by simp; omega) (Z1.snoc ω hqn AA) ha3;simpa using this
 have AXG:∀(k1:Nat) (r:Int),0<=r->k<=k1->k1<=l.length->(r≠0->k<k1)->(5<r->0<d)->ADh R 0 L.ro L.rt (.ptr id 0) M (AG d) (AG f) (.ptr (F bs+F m) 0) (AG r) ⟨ST bs id l k1++(m++[Z4]),ts⟩ (QM I N A):=by
  intro k1 r h0r D o b9 hd5
  have c7:∀B:Bool,(r=10\/r=11->B=Z)->(B=Z->r=10\/r=11)->9<r->ADi R 0 L.ro L.rt (.ptr id 0) M (AG d) (AG f) (.ptr (F bs+F m) 0) (AG r) (BB B) ⟨ST bs id l k1++(m++[Z4]),ts⟩ (QM I N A):=by
   intro B hB1 hB2 h9;have O:=hd5 AA;have hk0:=b9 AA;have eL:∀k,F (ST bs id l k++(m++[Z4]))=F bs+F m+1:=λk=>by simp[GZ]; omega
   have eA:∀(k:Nat) (b:Ϭ) (t:Ϫ),(⟨(ST bs id l k++(m++[Z4]))++[b],t⟩:AY)=⟨ST bs id l k++(m++[Z4,b]),t⟩:=λk b t=>by simp
   have st4:∀(k:Nat) (t:Ϫ) (z b:Ϭ),F z=4->F b=4->(b.all BS)=Z->∀K:AY->Prop,K ⟨ST bs id l k++(m++[Z4,b]),t⟩->Hw (Co (env R) 41 0 L.ro L.rt) ⟨ST bs id l k++(m++[Z4,z]),t⟩ 4 (.ptr (F bs+F m+1) 0) (.agg b) K:=by
    intro k t z b hz hb a7 K Ψ;have hce:cellsOf (.agg b)=b:=rfl;simp only[Hw,Ek,Ia,JS,wO,hce];refine⟨⟨hb,AA,by have:=g1 1; simp[Co]; omega,a7,.inl (by simp[Co]),AA⟩,?_⟩;rw[Im]
    have:setCells z 0 b=b:=by
     obtain⟨σ,τ,υ,φ,rfl⟩:∃σ τ υ φ,z=[σ,τ,υ,φ]:=by
      rcases z with _|⟨a,_|⟨b,_|⟨c,_|⟨d,_|⟨e,l⟩⟩⟩⟩⟩ <;> simp at hz
      exact⟨_,_,_,_,rfl⟩
     obtain⟨X,b1,b2,b3,rfl⟩:∃σ τ υ φ,b=[σ,τ,υ,φ]:=by
      rcases b with _|⟨a,_|⟨b,_|⟨c,_|⟨d,_|⟨e,l⟩⟩⟩⟩⟩ <;> simp at hb
      exact⟨_,_,_,_,rfl⟩
     simp[setCells]
    rw[this];exact Ψ
   refine APL ?_;cases B with
   | true=>
    refine BH ?_;refine FV (cs:=[AG 3,SS [],AG 0,.AE []]) AD ?_;simp only[Hr,eL,eA];refine st4 _ _ _ _ rfl rfl AX _ ?_;have α:LI bs (m++[Z4,[AG 3,SS [],AG 0,.AE []]]):=Ju hm (by simp[Ap,A6]);refine Cr (HX (n:=4) T α o AA AA _ (by simp[*]) ts) ?_;rintro v p ⟨β,k2,rfl,ε,ν,S,i,rfl⟩;obtain⟨j,rfl⟩:=ke ε;have:=loop k2 j O AA i AA j 0 k2 [] (.AE []) [] AA (AU _) i rfl Z1.nil (.inl AX)
    grind
   | false=>
    refine A4 (BE ?_);cases b12:(r==12) with
    | true=>
     refine BH ?_;refine AI VU ?_;rintro v rfl;simp only[Hr,eL,eA];refine st4 _ _ _ _ rfl rfl AX _ ?_;have α:LI bs (m++[Z4,[AG 0,SS [],AG 0,.AE []]]):=Ju hm (by simp[Ap,A6]);refine Cr (HX (n:=2) T α o AA AA _ (by simp[*]) ts) ?_;rintro v p ⟨β,k2,rfl,ε,ν,S,i,rfl⟩;refine BE ?_;cases (β==1) with
     | true=>
      refine BH ?_;have e1:(AG (1:Int))=AG ((1:Nat):Int):=rfl;have e0:(AG (0:Int))=AG ((0:Nat):Int):=rfl;refine Cr (ι 1 AA α i 0 AA AA (Co (env R) 41 0 L.ro L.rt) γ ts (by simp[*])) ?_;rintro v p ⟨t,k3,x,E,hb,Γ,Θ,rfl⟩;have hv':=E;obtain⟨π,ρ,ς,nI⟩:=t;obtain⟨a1,rfl,Λ⟩:=hv';refine st4 _ _ _ _ rfl rfl (by simp[Λ.ok]) _ ?_;exact a4 k3 x _ _ E rfl (by simp[Λ.ok]) (by simp[Ap,A6,Λ.A6]) O AA Θ (hb.mono AA)
     | false=>
      have:=a4 k2 [] (.mk 0 [] 0 []) [AG 0,SS [],AG 0,.AE []] ⟨_,rfl,by simp[Aj]; exact .inl (.AE _)⟩ rfl AX (by simp[Ap,A6]) O AA i (MX.leaf rfl rfl AD AA AA)
      grind[A4]
    | false=>grind[A4]
  have c6:∀B:Bool,(B=Z->7<r)->(B=ϴ->9<r)->ADj R 0 L.ro L.rt (.ptr id 0) M (AG d) (AG f) (.ptr (F bs+F m) 0) (AG r) (BB B) ⟨ST bs id l k1++(m++[Z4]),ts⟩ (QM I N A):=by
   intro B hB1 hB2;refine APM ?_;cases B with
   | true=>
    have h8:=hB1 rfl;have O:=hd5 AA;have hk0:=b9 AA;refine BH (FL AA AA ?_);have e3:((d:Nat):Int)-1=((d-1:Nat):Int):=AA;rw[e3];refine Cr (ι (d-1) AA δ o f AA AA (Co (env R) 41 0 L.ro L.rt) γ ts (by simp[*])) ?_;rintro v p ⟨t,k2,x,E,hb,S,i,rfl⟩;refine FL AA AA ?_;rw[e3];refine Cr (ι (d-1) AA δ i f AA AA (Co (env R) 41 0 L.ro L.rt) γ (ts++x) (ψ x)) ?_;rintro w p ⟨u,k3,a0,ξ,hc,Γ,Θ,rfl⟩;refine eG E ξ _ _ ?_;refine AI (eF (.AE _)) ?_;rintro y rfl;rw[EG];exact κ k3 (x++a0) [] (.mk 4 [] 0 [t,u]) _ ⟨_,rfl,.inl (.AE _)⟩ (MX.un O hb hc AA) AA Θ
   | false=>
    have h9:=hB2 rfl;refine A4 (BE ?_);cases b10:(r==10) with
    | true=>grind[BH]
    | false=>
     have n10:¬ r=10:=AB;refine A4 (BE (c7 _ ?_ ?_ h9))
     all_goals grind
  have c5:∀B:Bool,(B=ϴ->7<r)->ADk R 0 L.ro L.rt (.ptr id 0) M (AG d) (AG f) (.ptr (F bs+F m) 0) (AG r) (BB B) ⟨ST bs id l k1++(m++[Z4]),ts⟩ (QM I N A):=by
   intro B hx;refine APN ?_;cases B with
   | true=>grind[BH]
   | false=>
    have h7:=hx rfl;refine A4 (BE ?_);cases b8:(r==8) with
    | true=>grind[BH]
    | false=>
     have n8:¬ r=8:=AB;refine A4 (BE (c6 _ (λ_=>h7) (λh=>?_)))
     grind
  have c3:∀B:Bool,(B=ϴ->4<r)->ADl R 0 L.ro L.rt (.ptr id 0) M (AG d) (AG f) (.ptr (F bs+F m) 0) (AG r) (BB B) ⟨ST bs id l k1++(m++[Z4]),ts⟩ (QM I N A):=by
   intro B hx;refine APO ?_;cases B with
   | true=>
    refine BH (Gv ?_)
    by_cases hv0:f=0
    .have X:decide ((f:Int)>0)=false:=by grind
     rw[X];exact A4 (APP (AAj k1 D o))
    .have X:decide ((f:Int)>0)=true:=by grind
     rw[X];refine BH ?_;refine Cr (HX (n:=f) T δ o AA AA _ (by simp[*]) ts) ?_;rintro v p ⟨β,k2,rfl,ε,ν,S,i,rfl⟩;refine AI (KI β) ?_;rintro v rfl;exact θ k2 [] (.mk 5 [] β []) _ ⟨_,rfl,by simp[Aj]; exact .inl (.AE _)⟩ (MX.leaf rfl rfl AD AA AA) AA i
   | false=>
    have h4':=hx rfl;refine A4 (BE ?_);cases b5:(r==5) with
    | true=>grind[BH]
    | false=>
     have n5:¬ r=5:=AB;refine A4 (BE ?_);cases b6:(r==6) with
     | true=>grind[BH]
     | false=>
      have n6:¬ r=6:=AB;refine A4 (BE (c5 _ (λh=>?_)))
      grind
  have c2:∀B:Bool,(B=ϴ->1<r)->ADm R 0 L.ro L.rt (.ptr id 0) M (AG d) (AG f) (.ptr (F bs+F m) 0) (AG r) (BB B) ⟨ST bs id l k1++(m++[Z4]),ts⟩ (QM I N A):=by
   intro B hx;refine APQ ?_;cases B with
   | true=>
    refine BH (QZ Ξ ?_);refine Cr (HX (n:=4) T δ o AA AA _ (by simp[*]) ts) ?_;rintro v p ⟨β,k2,rfl,ε,ν,S,i,rfl⟩;have⟨w,ξ,hwl⟩:=Ra Ξ Φ sW ε ν;refine Zy ε ξ (jw ?_);refine AI (Ky (.AE [])) ?_;rintro v rfl;exact Zx (QZ Ξ (SL W)) (θ k2 [] (.mk 2 w 0 []) _ ⟨_,rfl,by simp[Aj]; exact .inl (.AE _)⟩ (MX.leaf rfl rfl hwl AA AA) AA i)
   | false=>
    have h1':=hx rfl;refine A4 (BE ?_);cases b2:(r==2) with
    | true=>
     refine BH ?_;refine AI VU ?_;rintro v rfl;exact θ k1 [] (.mk 0 [] 0 []) _ ⟨_,rfl,by simp[Aj]; exact .inl (.AE _)⟩ (MX.leaf rfl rfl AD AA AA) D o
    | false=>
     have n2:¬ r=2:=AB;refine A4 (BE ?_);cases b3:(r==3) with
     | true=>grind[BH]
     | false=>
      have n3:¬ r=3:=AB;refine A4 (BE (c3 _ (λh=>?_)))
      grind
  refine APR (BE ?_);cases X:(r==0) with
  | true=>grind[BH]
  | false=>
   have n0:¬ r=0:=AB;refine A4 (BE (c2 _ (λh=>?_)))
   grind
 refine APS ?_;simp only[Hr,EG,B6,GZ];refine Cr (PG (n:=14) T δ hk AA AA _ (by simp[*]) ts) ?_;rintro v p ⟨r,k1,rfl,hr1,hr2,a9,b4,S,rfl⟩;refine ZW ?_
 by_cases O:d=0
 .have X:decide ((d:Int)<=0)=true:=by grind
  rw[X];refine Aw (Aw (Gv (pk ?_)));cases b5:decide (r>5) with
  | true=>grind[BH]
  | false=>
   grind[A4]
 .have X:decide ((d:Int)<=0)=false:=by grind
  rw[X];exact LC AD (LC AD (pk (A4 (AXG k1 r hr1 a9 b4 S AA))))
end
section
variable {bs:Ϩ} {id:Nat} {l:Src} {R:Nat->Option Ϧ}
def AAk (f:OM bs id l) {W:List Ϝ} (i:(env R).G 1=Y (FE W)) (j:F W=4) (n:Short W) {b:AV} {rows:Ϯ} (u:Decls b rows):∀μ:Nat,
  (∀d:Nat,d<=20->VT R bs id l b 41 d (3*d+2) μ (MX d))/\(∀d:Nat,d<=20->VT R bs id l b 83 d (3*d+1) μ (nE d))/\(∀e:Int,-1<=e->e<=20->VT R bs id l b 115 e (3*(e+1).toNat) μ (qs e)):=by
 intro μ
 induction μ with
 | zero=>exact⟨λd _ m _ k _ p _ h=>absurd h (HD _),λd _ m _ k _ p _ h=>absurd h (HD _),λe _ _ m _ k _ p _ h=>absurd h (HD _)⟩
 | succ μ x=>
  obtain⟨r,s,i3⟩:=x;exact⟨λd o=>pZ f i j n μ s r d o,λd o=>jx f i j n u μ i3 d o,λe y t=>w7 f i j n μ s r e y t⟩
def Qa (d:OM bs id l) {W:List Ϝ} (s:(env R).G 1=Y (FE W)) (e:F W=4) (u:Short W) {f:AV} {rows:Ϯ} (z:Decls f rows) {m:Ϩ} (hm:LI bs m) {k:Nat} (A:k<=l.length) (L:Ba) (j:L.ro<=id) (ts:Ϫ) (Q:L.rt<=F ts) :
  ∃v n,(∃t k' x,BX t v/\MX 3 (8*(k'-k)+1) t/\k<=k'/\k'<=l.length/\n=⟨ST bs id l k'++m,ts++x⟩)/\Bk (env R) L 19 [.ptr id 0,f] ⟨ST bs id l k++m,ts⟩ v n:=by
 have O:=d.len;have S:=d.lt
 suffices H:∀(i:Bool) (N:Nat) (b:Ϡ),N=F bs+F m->(∀t v k' x,BX t v->MX 3 (8*(k'-k)+1) t->k<=k'->k'<=l.length->b v ⟨ST bs id l k'++m,ts++x⟩)->ADn R 0 L.ro L.rt (.ptr id 0) f ⟨ST bs id l k++m,ts⟩ (QM i N b) from
  m19 AX (H _ _ _ (by simp[GZ]) λt v k' x B C D e=>⟨t,k',x,B,C,D,e,rfl⟩)
 intro i N b E I;refine APT ?_;simp only[Hr,EG,B6,GZ];refine Cr ((AAk d s e u z _).1 3 AA (Z2 hm) A 0 AA (Su _) (Co (env R) 19 0 L.ro L.rt) j ts Bp) ?_;rintro v T ⟨t,k3,x,K,hb,o,p,rfl⟩;exact VS (R:=R) (Post:=b) (rr:=i) (N:=N) (k:=k3) (ts:=ts++x) (Mj:=Z4) (r:=[]) (L':=Co (env R) 19 0 L.ro L.rt) d hm rfl E j rfl K (λy M=>I t y k3 x M hb o p)
end
def nJ:Ϯ->Bool
 | []=>Z
 | r::l=>(match r with
  | .sc (.string a)::.sc (.int .i64 n)::b=>F b==6&&(decide (0<=n)&&(decide (n<=2)&&(decide (a.data.size<2 ^ 50)&&(r.map AV.pv).all BS)))
  | _=>ϴ)&&nJ l
def X7:∀{l:Ϯ},nJ l=Z->∀r∈l,Z0 r
 | [],_,r,h=>by cases h
 | r::l,d,f,h=>by
  simp only[nJ,AK] at d;rcases BF.1 h with rfl|h
  .have b:=d.1
   split at b
   .rename_i a n e
    simp only[AK,Cu,Gf] at b;obtain⟨b,j,k,m,i⟩:=b;refine⟨a.data.toList,n.toNat,e,?_,b,AA,AA,i⟩;have:((n.toNat:Nat):Int)=n:=AA;rw[this]
   grind
  .exact X7 d.2 f h
def ADo:Option AV->Bool
 | some (.AE rows)=>decide (F rows<100)&&nJ rows
 | _=>ϴ
def AAl {R:Nat->Option Ϧ}:ADo (aq (env R) 60 12 [])=true:=Ac
def X8 {R:Nat->Option Ϧ}:Ah (env R) 12 [] λv=>∃rows,Decls v rows:=by
 have h:=AAl (R:=R);cases b:aq (env R) 60 12 [] with
 | none=>rw[b] at h; cases h
 | some v=>
  rw[b] at h;unfold ADo at h;split at h
  .rename_i rows d
   cases d;simp only[AK,Cu] at h;exact⟨_,⟨rows,.inl (.AE _),X7 h.2,h.1⟩,λL s=>Bk.kn (TP (args':=[]) AX AX AX rfl b L s)⟩
  grind
section
variable {R:RT}
def AIA {t:Ty} (h:gq 3 t=Z) (d:DJ t=0):Fit t:=by
 have⟨_,f,i⟩:=E6 d;have e:gqQ 3=⟨3150,1859359,630225,23403,27⟩:=Ac;have:=wh 3 t h f i;rw[e] at this;exact⟨by have:=this.b; show(bw t:Int)<1073741824; simp only at this; omega,by have:=this.w; simp only at this; omega,by have:=this.n; simp only at this; omega⟩
end
def xB {f:Nat} {t:Ty} (k:DJ t=0->Fit t):F (xR f t).1<=32/\∀b∈(xR f t).1,wW b:=by
 cases f with
 | zero=>exact⟨by simp[xR],λb h=>by cases h⟩
 | succ f=>
  rw[xR];cases j:!(DJ t==0)||!(CJ 0 t) with
  | true=>exact⟨AD,λb h=>by cases h⟩
  | false=>
   simp only[HC,Bool.not_eq_false',Gf] at j;obtain⟨e,d⟩:=j;have⟨o,s,_⟩:=E6 e;have m:=k e;simp only[AL];cases i:DR (Aa 32) (Al t) t with
   | none=>exact⟨AD,λb h=>by cases h⟩
   | some l=>
    simp only;cases (l.map CE).all λb=>Mp b&&b.AN.all λb=>C2 (xR f b) with
    | false=>exact⟨AD,λb h=>by cases h⟩
    | true=>
     refine⟨by have:=QX (Al t) t l i; simp only[AQ,Bj]; omega,λb hb=>?_⟩;obtain⟨p,n,rfl⟩:=Cw.1 hb;have⟨_,u,x,r⟩:=Lr o d m i p n;exact⟨AA,AA,λc d=>by have:=(r c d).Gw; omega⟩
mutual
def ib:Bool->Ty->Bool
 | e,.mk k _ _ ts=>k==0||k==2||(bif k==5 then e else k==3&&ibL ts)
def ibL:Ϣ->Bool
 | []=>Z
 | t::l=>ib Z t&&ibL l
end
mutual
def OB (g:Int->Ty):Bool->Ty->Ty
 | e,.mk k n i ts=>bif k==5 then g i else bif k==2||(k==3&&!e) then .mk k n i (Rb g (e||k==2) ts) else .mk k n i ts
def Rb (g:Int->Ty):Bool->Ϣ->Ϣ
 | _,[]=>[]
 | e,t::l=>OB g e t::Rb g e l
end
def Na (g:Int->Ty) (e:Bool):∀l:Ϣ,Rb g e l=l.map (OB g e)
 | []=>rfl
 | t::l=>by rw[Rb,Na g e l]; rfl
mutual
def VW:∀t:Ty,A2 t=Z->N4 t=Z
 | .mk k n i ts,h=>by
  have b:=h;simp only[A2,AK] at h;rw[N4,SM ts h.2];cases d:k==5 with
  | true=>
   have:k=5:=AB;subst this;have e:=EL b;have f:=Lg b
   grind
  | false=>rfl
def SM:∀l:Ϣ,BO l=Z->RG l=Z
 | [],_=>rfl
 | t::l,h=>by
  simp only[BO,AK] at h;rw[RG,VW t h.1,SM l h.2];rfl
end
def gB (n:Nat) (i:Int):Ty:=var (bif decide (i<n) then(n:Int)-1-i else i)
def Tt:Ϣ->Ty->Ty
 | [],t=>t
 | b::l,t=>.mk 6 [] 0 [b,Tt l t]
def VX (b:Br):Ty:=Tt b.AN (OB (gB (F b.AN)) ϴ b.AM)
def yx (n:Nat):Nat->Nat->Ty->Ty
 | 0,_,t=>t
 | f+1,j,t=>yx n f (j+1) (Ht j (AW+n-j) t)
def btR (b:Br):Ty:=Tt b.AN (I1 (F b.AN) 0 (yx (F b.AN) (F b.AN) 0 b.AM))
section
variable {R:RT}
def Has (bs:Ϩ) (b:List (Nat×Ϭ)):Prop:=∀q∈b,bs[q.1]?=Y q.2
def Has.push {bs:Ϩ} {b:List (Nat×Ϭ)} (h:Has bs b) (c:Ϭ):Has (bs++[c]) b:=λq d=>Am (h q d) c
theorem Has.set {bs d:Ϩ} {b:List (Nat×Ϭ)} (h:Has bs b) (f:Has d b) {j:Nat} (i:F d<=j) (c:Ϭ):Has (bs.set j c) b:=λq e=>by
 have:=(BJ.1 (f q e)).1;exact BR (h q e) AA
def RnF (R:RT) (f p:Nat) (b:List (Nat×Ϭ)) (g:Int->Ty):Prop:=∀(i:Int) (y:AV) (s:AY),0<=i->i<=200->BD (.mk 5 [] i []) y->BM s->Has s.bs b ->
 ∃r,BD (g i) r/\∀L:Ba,L.ro<=F s.bs->Bk (env R) L f [y,.ptr p 0] s r s
abbrev rnC (f p:Nat):AV:=.func (.func f) [] [.ptr p 0]
def AAm {f p:Nat} {C:List (Nat×Ϭ)} {ts ls:Ϣ} {a:AV} (ζ:A3 a (Aj ts)) (υ:F ts<2 ^ 38) (σ:F ls=F ts) {k i:Int} {n:Ϝ} {e:Bool}
  {s0:AY} (τ:BM s0) (η:Has s0.bs C)
  (θ:∀(q:Nat) (t l:Ty),ts[q]?=Y t->ls[q]?=Y l->∀s,BM s->Has s.bs C->∃r,BD l r/\∀L,Bk (env R) L 67 [.agg ((Av t).map .pv),BB (e||k==2),rnC f p] s r s)
  {Post:AV->Prop} (ι:∀r,BD (.mk k n i ls) r->Post r) :
  ∀(j q:Nat) (s:AY) (b:AV),q+j=F ts->BM s->Has s.bs C->s.bs[F s0.bs]?=Y [AG k,SS n,AG i,a]->s.bs[F s0.bs+1]?=Y Z4->s.bs[F s0.bs+2]?=Y [AG k,SS n,AG i,b] ->
   D1 (F s0.ts) s.ts 25 b (Aj (ls.take q))->F s0.ts<=F s.ts ->
   ADq R (F s0.bs) (F s0.bs) (F s0.ts) (BB e) (rnC f p) (.ptr (F s0.bs) 0) (.ptr (F s0.bs+1) 0) (.ptr (F s0.bs+2) 0) a (AG (F ts)) (AG q) s (QI (F s0.bs) (F s0.ts) Post):=by
 intro j
 induction j with
 | zero=>
  intro q s b κ T U W y z hb H;refine ADr (Ao ?_);rw[A5 AA];refine A4 (APU (Ag z rfl (Bn y rfl rfl AH AD (by simp[hb.BA.ok]) (.inl AD) (Ag (BT y) rfl ?_))));rw[CC AA] at hb;have⟨m,μ,ν⟩:=MP hb (s.bs.set (F s0.bs+1) [AG k,SS n,AG i,b]) (F s0.bs);exact⟨.agg [AG k,SS n,AG i,m],by simp[μ],ι _ ⟨m,rfl,ν⟩⟩
 | succ j γ=>
  intro q s b κ T U W y z hb H;refine ADr (Ao ?_);rw[Ax AA];have⟨t,ξ⟩:∃t,ts[q]?=Y t:=⟨_,Az AA⟩;have⟨l,δ⟩:∃l,ls[q]?=Y l:=⟨_,Az AA⟩;have B:F ((Av t).map AV.pv)=4:=by grind[Aq]
  have I:=DG t
  have M:Ap (F s.bs+1) ((Av t).map AV.pv)=true:=by
   obtain⟨k1,φ,χ,ψ⟩:=t;rfl
  refine BH (APV (BL ζ (row:=Av t) AA (by simp[*,BK]) (Aq _) AA (Cd (Bh ?_))));have N:=θ q t l ξ δ;generalize (Av t).map AV.pv=d at B I M N;obtain⟨bs,tk⟩:=s;have ω:=(BJ.1 z).1;simp only at *;refine Bn (A0 bs Z4) B rfl AH (by simp[Co]; omega) I (.inl (by simp[Co]; omega)) ?_;have ο:(bs++[Z4]).set (F bs) d=bs++[d]:=AD;rw[ο];have X:=U.push d;have D:=Am W d;have π:=Am y d;have x:=Am z d;have O:BM ⟨bs++[d],tk⟩:=BM.app (s:=⟨bs,tk⟩) T M;have⟨r,Q,S⟩:=N ⟨bs++[d],tk⟩ O X;refine AR (Ab x) (Ad x rfl (Ag (A0 bs d) B ?_))
  have E:∀m o,D1 (F s0.ts) o 25 m (Aj (ls.take (q+1)))->F s0.ts<=F o ->
    (Ex ⟨bs++[d],o⟩ (.ptr (F s0.bs+2) 0) 3 λε=>Hw (Co (env R) 67 (F s0.bs) (F s0.bs) (F s0.ts)) ⟨bs++[d],o⟩ 1 ε m λα=>
    (Ex ⟨bs++[d],tk⟩ (.ptr (F s0.bs+2) 0) 3 λv=>Tel.D9 v (.ptr (F s0.bs+2) (0+3))=Z) /\
    (EX (env R) ⟨bs++[d],tk⟩ G (.ptr (F s0.bs+2) (0+3)) λβ=>Tel.D9 β b=Z) /\
    ADs R (F s0.bs) (F s0.bs) (F s0.ts) (BB e) (rnC f p) (.ptr (F s0.bs) 0) (.ptr (F s0.bs+1) 0) (.ptr (F s0.bs+2) 0) a (AG (F ts)) (AG q) α (QI (F s0.bs) (F s0.ts) Post)):=by
   intro m o u A;refine AR (Ab x) (C1 x AD u.BA.cells AD u.BA.ok (.inl AD) ⟨AR (Ab x) (D8 _ _),Ad x rfl (Fm hb),APW (Bb AA AA ?_)⟩);have:=γ (q+1) ⟨(bs++[d]).set (F s0.bs+2) [AG k,SS n,AG i,m],o⟩ m AA ?_ (X.set η AA _) (BR D AA) (BR π AA) (BT x) u A
   .grind
   .exact BM.set (s:=⟨bs++[d],tk⟩) O (by simp[Ap,A6,u.BA.A6]) _
  have ρ:ls.take q++[l]=ls.take (q+1):=by grind[List.take_add_one]
  have app:∀K:Ϡ,(∀m o,D1 (F s0.ts) o 25 m (Aj (ls.take (q+1)))->F s0.ts<=F o->K m ⟨bs++[d],o⟩)->I6 ϴ (Co (env R) 67 (F s0.bs) (F s0.bs) (F s0.ts)) ⟨bs++[d],tk⟩ 25 4 56 b (.AE [Av l]) K:=λK ς=>
   l7 hb H AB λm o u A=>ς m o (by rw[ρ] at u; exact u) A
  cases e with
  | true=>exact C8 (C8 (C8 (pk ⟨r,_,S _,Eg Q.Du ⟨AH,app _ E⟩⟩)))
  | false=>exact Aw (AR (Ab D) (Aw (Ad D rfl (Aw (BE (pk ⟨r,_,S _,Eg Q.Du ⟨AH,app _ E⟩⟩))))))
mutual
def VY {f p:Nat} {C:List (Nat×Ϭ)} {g:Int->Ty} (hf:RnF R f p C g):∀(t:Ty),AP t<2 ^ 38->A2 t=Z->∀(e:Bool) (x:AV),BD t x->∀(s:AY),BM s->Has s.bs C ->
  ∃r,BD (OB g e t) r/\∀L,Bk (env R) L 67 [x,BB e,rnC f p] s r s
 | .mk k n i ts,h,y,e,x,hx,s,S,T=>by
  have ε:=VW _ y;have N:=y;simp only[AP] at h;simp only[A2,AK] at y;have ζ:=hx;obtain⟨a,rfl,m⟩:=hx;have B:BM ⟨s.bs++[[AG k,SS n,AG i,a]]++[Z4],s.ts⟩:=BM.app (s:=⟨s.bs++[[AG k,SS n,AG i,a]],s.ts⟩) (BM.app (s:=s) S (by simp[Ap,A6,m.A6])) rfl;have d:(s.bs++[[AG k,SS n,AG i,a]]++[Z4])[F s.bs]?=Y [AG k,SS n,AG i,a]:=Am (A0 _ _) _;have z:(s.bs++[[AG k,SS n,AG i,a]]++[Z4])[F s.bs+1]?=Y Z4:=AB;have D:Has (s.bs++[[AG k,SS n,AG i,a]]++[Z4]) C:=(T.push _).push _;have ς:F (s.bs++[[AG k,SS n,AG i,a]])=F s.bs+1:=AD;have E:F (s.bs++[[AG k,SS n,AG i,a]]++[Z4])=F s.bs+2:=AD;refine i67 (by simp[Da,BZ,close]) (APX (Bs (cs:=[AG k,SS n,AG i,a]) rfl (by simp[m.ok]) (Bh ?_)));simp only[ς];generalize s.bs++[[AG k,SS n,AG i,a]]++[Z4]=bs at B d z D E
  have O:∀(o:Ty) (r:AV),BD o r->o=OB g e (.mk k n i ts)->Hw (Co (env R) 67 (F s.bs) (F s.bs) (F s.ts)) ⟨bs,s.ts⟩ 4 (.ptr (F s.bs+1) 0) r λK=>EX (env R) K (Y 4) (.ptr (F s.bs+1) 0) λr=>QI (F s.bs) (F s.ts) (λr=>BD (OB g e (.mk k n i ts)) r) r K:=by
   rintro o r j rfl;generalize OB g e (.mk k n i ts)=o at j ⊢;obtain⟨k2,ψ,ω,φ⟩:=o;have η:=j;obtain⟨b,rfl,hb⟩:=j;refine Bn z rfl rfl AH AD (by simp[hb.ok]) (.inl AD) (Ag (BT z) rfl ?_);exact⟨_,by simp[hb.close],η⟩
  refine AR (Ab d) (Ad d rfl (BE ?_));cases U:k==5 with
  | true=>
   have:k=5:=AB;subst this;have θ:=Lg N;obtain⟨rfl,rfl,ι⟩:=EL N;have⟨r,κ,μ⟩:=hf i _ ⟨bs,s.ts⟩ ι θ ζ B D;exact BH (Ag d rfl ⟨_,_,μ _ (by simp[Co]; omega),O _ _ κ (by simp[OB])⟩)
  | false=>
   refine A4 (AR (Ab d) (Ad d rfl (Ef ?_)));have χ:=Bl ts;have γ:Ah (env R) 70 [.agg [AG k,SS n,AG i,a]] λr=>BD (.mk k n i ts) r:=NN (t:=.mk k n i ts) (.of (by simp only[AP]; omega)) (ε) ⟨a,rfl,m⟩
   have M:(k==2||(k==3&&!e))=ϴ->EX (env R) ⟨bs,s.ts⟩ (Y 4) (.ptr (F s.bs) 0) λν=>G4 (env R) (Co (env R) 67 (F s.bs) (F s.bs) (F s.ts)) (.func (.func 70) [] []) [ν] ⟨bs,s.ts⟩ λξ δ=>Hw (Co (env R) 67 (F s.bs) (F s.bs) (F s.ts)) δ 4 (.ptr (F s.bs+1) 0) ξ λI=>EX (env R) I (Y 4) (.ptr (F s.bs+1) 0) λr=>QI (F s.bs) (F s.ts) (λr=>BD (OB g e (.mk k n i ts)) r) r I:=by
    intro H;refine Ag d rfl (AI γ ?_);rintro r j;exact O _ r j (by simp[OB,U,H])
   have W:(k==2||(k==3&&!e))=Z->ADt R (F s.bs) (F s.bs) (F s.ts) (BB e) (rnC f p) (.ptr (F s.bs) 0) (.ptr (F s.bs+1) 0) ⟨bs,s.ts⟩ (QI (F s.bs) (F s.ts) (λr=>BD (OB g e (.mk k n i ts)) r)):=by
    intro H;refine APY (Ag d rfl (Bh (Bn (A0 bs Z4) rfl rfl AH (by simp[Co]; omega) (by simp[m.ok]) (.inl (by simp[Co]; omega)) ?_)));have X:(bs++[Z4]).set (F bs) [AG k,SS n,AG i,a]=bs++[[AG k,SS n,AG i,a]]:=AD;simp only[X,E];have α:(bs++[[AG k,SS n,AG i,a]])[F s.bs+2]?=Y [AG k,SS n,AG i,a]:=AB
    show Ex ⟨(bs++[Z4]).set (F s.bs+2) [AG k,SS n,AG i,a],s.ts⟩ _ _ _
    have ο:(bs++[Z4]).set (F s.bs+2) [AG k,SS n,AG i,a]=bs++[[AG k,SS n,AG i,a]]:=by rw[<-E]; exact X
    rw[ο];refine AR (Ab α) (C1 (off:=3) α (AU 4) rfl (by simp[Co]) rfl (.inl (by simp[Co])) ?_);have σ:(bs++[[AG k,SS n,AG i,a]]).set (F s.bs+2) ([AG k,SS n,AG i,a].set 3 (.AE []))=bs++[[AG k,SS n,AG i,.AE []]]:=AB
    show Ex ⟨(bs++[[AG k,SS n,AG i,a]]).set (F s.bs+2) ([AG k,SS n,AG i,a].set 3 (.AE [])),s.ts⟩ _ _ _
    rw[σ];have τ:(bs++[[AG k,SS n,AG i,.AE []]])[F s.bs+2]?=Y [AG k,SS n,AG i,.AE []]:=AB;refine AR (Ab (Am d _)) (Ad (Am d _) rfl (Au (n:=F ts) (by rw[m.BG,Ae]) ?_));refine AAm (ls:=ts.map (OB g (e||k==2))) m AA AD S T ?_ ?_ (F ts) 0 _ (.AE []) AA (BM.app (s:=⟨bs,s.ts⟩) B rfl) (D.push _) (Am d _) (Am z _) τ (.inl rfl) (AU _)
    .intro q t l β Q υ π ρ
     rw[E8,β] at Q;cases Q;exact X9 hf ts AA y.2 (e||k==2) t (A8 β) υ π ρ
    .intro r j
     rw[OB,U,H,Na];exact j
   cases u:k==2 with
   | true=>
    have:(k != 2)=false:=by simp[bne,u]
    rw[this];exact B7 (B7 (QN (QN (QN (B7 (pk (A4 (W (by simp[u])))))))))
   | false=>
    have:(k != 2)=true:=by simp[bne,u]
    rw[this];refine Aw (Aw ?_);cases e with
    | true=>exact C8 (C8 (C8 (Aw (pk (pk (BH (M (by simp[u]))))))))
    | false=>
     refine Aw (AR (Ab d) (Aw (Ad d rfl (Aw (Ef (Aw (pk (pk ?_))))))));cases A:k==3 with
     | true=>
      have:(k != 3)=false:=by simp[bne,A]
      rw[this];exact A4 (W (by simp[A]))
     | false=>
      have:(k != 3)=true:=by simp[bne,A]
      rw[this];exact BH (M (by simp[u,A]))
def X9 {f p:Nat} {d:List (Nat×Ϭ)} {g:Int->Ty} (hf:RnF R f p d g):∀(l:Ϣ),Ak l<2 ^ 38->BO l=Z->∀(e:Bool),∀t∈l,∀(s:AY),BM s->Has s.bs d ->
  ∃r,BD (OB g e t) r/\∀L,Bk (env R) L 67 [.agg ((Av t).map .pv),BB e,rnC f p] s r s
 | [],_,_,_,_,h=>by cases h
 | u::l,h,b,e,t,hm=>by
  simp only[Ak] at h;simp only[BO,AK] at b;rcases BF.1 hm with h' | h'
  .rw[h']
   exact VY hf u AA b.1 e _ (BD.Bo _)
  .exact X9 hf l AA b.2 e t h'
end
end
def gP (N:Nat) (i:Int):Ty:=bif decide (i<N) then ren (ph i.toNat) else var i
def gQ (N:Nat) (i:Int):Ty:=bif decide (i<N) then ph i.toNat else var i
def Gx (N:Nat) (t:Ty):Ty:=OB (gQ N) ϴ t
def xC (N:Nat) (t:Ty) (h:A2 t=Z):ren (Gx N t)=OB (gP N) ϴ t:=by
 have j:∀(m:Nat) (t:Ty) (e:Bool),Al t<=m->A2 t=Z->ren (OB (gQ N) e t)=OB (gP N) e t:=by
  intro m
  induction m with
  | zero=>
   intro t e d;obtain⟨k,n,i,ts⟩:=t
   grind[Al]
  | succ m o=>
   intro t e d b;obtain⟨k,n,i,ts⟩:=t;have r:=b;simp only[A2,AK] at b;rw[Al] at d;rw[OB,OB];cases s:k==5 with
   | true=>
    simp only[AQ];unfold gQ gP;cases decide (i<N) with
    | true=>rfl
    | false=>rfl
   | false=>
    simp only[AL];cases h:(k==2||(k==3&&!e)) with
    | true=>
     have p:k≠7:=AB;simp only[AQ];rw[HF _ _ _ _ p,Bx,Na,Na,PR];congr 1;refine Yd λt f=>?_
     exact o t _ (by have:=Et f; omega) (CB b.2 f)
    | false=>grind[IU]
 exact j _ t ϴ (AU _) h
section
variable {R:RT}
def AIB (hn:Mm R) {p e Ar:Nat} {d:AV} {B:Ϣ} (H:BN d (Aj B)) (W:F B<2 ^ 37):RnF R 101 p [(p,[.ptr e 0]),(e,[d,AG Ar])] (gP (F B)):=by
 intro i y s X α I β t;have u:s.bs[p]?=Y [.ptr e 0]:=t (p,[.ptr e 0]) AD;have K:s.bs[e]?=Y [d,AG Ar]:=t (e,[d,AG Ar]) AD;have γ:=(BJ.1 u).1;obtain⟨a,rfl,x⟩:=I
 have T:∀(m:Ty) (j:Ϭ),BD m (.agg j)->(i<F B->m=ren (ph i.toNat)/\AV.agg j=phA i.toNat)->(¬ i<F B->m=var i/\j=[AG 5,SS [],AG i,a]) ->
   ∀L:Ba,L.ro<=F s.bs->Bk (env R) L 101 [.agg [AG 5,SS [],AG i,a],.ptr p 0] s (.agg j) s:=by
  intro m j C D E L U;have⟨z,M,δ,ε⟩:=C.cells
  obtain⟨v,A,⟨rfl,rfl⟩,ζ⟩:=AXH (R:=R) (L:=L) (s:=s) (t0:=.agg [AG 5,SS [],AG i,a]) (t1:=.ptr p 0) (Post:=λv A=>v=.agg j/\A=s) (by simp[Da,F9]) (AIC (by
   refine Bs (cs:=[AG 5,SS [],AG i,a]) rfl (by simp[x.ok]) (Bh ?_);have N:F (s.bs++[[AG 5,SS [],AG i,a]])=F s.bs+1:=AD;simp only[N];have b:(s.bs++[[AG 5,SS [],AG i,a]]++[Z4])[F s.bs]?=Y [AG 5,SS [],AG i,a]:=Am (A0 _ _) _;have k:(s.bs++[[AG 5,SS [],AG i,a]]++[Z4])[F s.bs+1]?=Y Z4:=AB;have gq:=Am (Am u [AG 5,SS [],AG i,a]) Z4;have o:=Am (Am K [AG 5,SS [],AG i,a]) Z4;have O:(s.bs++[[AG 5,SS [],AG i,a]]++[Z4]).take (F s.bs)=s.bs:=AD;generalize s.bs++[[AG 5,SS [],AG i,a]]++[Z4]=bs at b k gq o O;refine AR (Ab b) (Ad b rfl (Fq ?_));rw[Ax AA];refine Aw (AR (Ab b) (Aw (Ad b rfl (Aw (Ad gq rfl (Aw (DK (Ab o) (Aw (AR (Ab o) (Aw (Ad (off:=0) o rfl (Aw (Au (n:=F B) (by rw[H.BG,Ae]) (Aw (Ao (pk ?_))))))))))))))))
   by_cases f:i<F B
   .have⟨_,r⟩:=D f
    rw[Ax f];have Q:i=((i.toNat:Nat):Int):=AA;refine BH (AR (Ab b) (Ad b rfl ?_))
    show G4 _ _ _ [AG i] _ _
    rw[Q];refine AI (Le hn i.toNat AA) ?_;rintro _ rfl;rw[<-r];refine Bn k z rfl AH (by show L.ro<=_; omega) M (.inl (AO _)) (Ag (BT k) z ?_)
    grind[Un,Cf]
   .have⟨_,r⟩:=E f
    subst r;rw[A5 f];refine A4 (AID (Ag b rfl (Bn k rfl rfl AH (by show L.ro<=_; omega) AA (.inl (AO _)) (Ag (BT k) rfl ?_))))
    grind[Un,Cf]))
  omega
 by_cases f:i<F B
 .have e:gP (F B) i=ren (ph i.toNat):=by simp[gP,f]
  rw[e];have S:BD (ren (ph i.toNat)) (phA i.toNat):=⟨.AE [],rfl,.AE _⟩
  grind
 .have e:gP (F B) i=var i:=by simp[gP,f]
  rw[e];have S:BD (var i) (.agg [AG 5,SS [],AG i,a]):=⟨a,rfl,x⟩
  grind
def eH (hn:Mm R) {e Ar:Nat} {d:AV} {B:Ϣ} (A:BN d (Aj B)) (C:F B<2 ^ 37) {t:Ty} (u:AP t<2 ^ 38) (i:A2 t=Z) {x:AV} (hx:BD t x) {s:AY} (hs:BM s) (j:s.bs[e]?=Y [d,AG Ar]) :
  ∃r,BD (ren (Gx (F B) t)) r/\∀L:Ba,L.ro<=F s.bs->Bk (env R) L 58 [.ptr e 0,x] s r s:=by
 have le:=(BJ.1 j).1;obtain⟨y,rfl⟩:=hx.Du.agg;have⟨D,E,H,S⟩:=hx.cells
 have z:BM ⟨s.bs++[[AV.ptr e 0]]++[y]++[Z4],s.ts⟩:=by
  refine BM.app (s:=⟨s.bs++[[AV.ptr e 0]]++[y],s.ts⟩) (BM.app (s:=⟨s.bs++[[AV.ptr e 0]],s.ts⟩) (BM.app (s:=s) hs ?_) ?_) (b:=Z4) rfl
  .simp[Ap,A6]
   omega
  .exact BV (AO _) _ H
 have T:(s.bs++[[AV.ptr e 0]]++[y]++[Z4])[F s.bs]?=Y [.ptr e 0]:=Am (Am (A0 _ _) _) _;have I:(s.bs++[[AV.ptr e 0]]++[y]++[Z4])[F s.bs+1]?=Y y:=AB;have k:(s.bs++[[AV.ptr e 0]]++[y]++[Z4])[F s.bs+2]?=Y Z4:=AB;have U:(s.bs++[[AV.ptr e 0]]++[y]++[Z4])[e]?=Y [d,AG Ar]:=Am (Am (Am j [AV.ptr e 0]) y) Z4;have W:(s.bs++[[AV.ptr e 0]]++[y]++[Z4]).take (F s.bs)=s.bs:=AD;have⟨r,f,o⟩:=VY (AIB (R:=R) hn (p:=F s.bs) (e:=e) (Ar:=Ar) A C) t u i ϴ (.agg y) hx ⟨s.bs++[[AV.ptr e 0]]++[y]++[Z4],s.ts⟩ z (λq X=>by grind);rw[<-xC _ _ i] at f;refine⟨r,f,λL Q=>?_⟩;obtain⟨K,rfl⟩:=f.Du.agg;have⟨m,M,α,β⟩:=f.cells
 obtain⟨v,n,⟨rfl,rfl⟩,γ⟩:=m58 (R:=R) (L:=L) (s:=s) (t0:=.ptr e 0) (t1:=.agg y) (Post:=λv n=>v=.agg K/\n=s) AX (APZ (by
  refine Bs (cs:=[.ptr e 0]) rfl rfl (Bs (cs:=y) rfl E (Bh ?_));have N:F (s.bs++[[AV.ptr e 0]])=F s.bs+1:=AD;have O:F (s.bs++[[AV.ptr e 0]]++[y])=F s.bs+2:=AD;simp only[N,O];refine Ag I D ⟨_,_,o _,Bn k m rfl AH (by show L.ro<=_; omega) M (.inl (AO _)) (Ag (BT k) m ?_)⟩
  grind[Un]))
 omega
end
def SN:∀{l m:Ϛ},l.Pairwise (·<·)->m.Pairwise (·<·)->(∀w,w∈l<->w∈m)->l=m
 | [],[],_,_,_=>rfl
 | [],b::m,_,_,h=>by
  have:=(h b).2 AD
  grind
 | a::l,[],_,_,h=>by
  have:=(h a).1 AD
  grind
 | a::l,b::m,d,hm,h=>by
  rw[List.pairwise_cons] at d hm
  have e:a=b:=by
   have f:=(h a).1 AD;have i:=(h b).2 AD
   grind
  subst e;congr 1;refine SN d.2 hm.2 λw=>?_
  grind
def VB (X:Ty->Ϥ×Int) (b:Br):Prop:=ib ϴ b.AM=Z/\DJ b.AM=0/\Mp b=Z/\(∀v,v<F b.AN->DZ v Z (Gx (F b.AN) b.AM)=Z) /\
 (∀l:Ϛ,l.Pairwise (·<·)->(∀w,w∈l<->w∈RN 0 b.AM)->l.length=F b.AN)/\(Lc (F b.AN) (Gx (F b.AN) b.AM) []).1=b.AM/\(b.AN.all λt=>C2 (X t))=Z
mutual
theorem VZ (N:Nat):∀t:Ty,A2 t=Z->Ez N t=Z
 | .mk k n i ts,h=>by
  have d:(k==7)=false:=by grind[HK]
  have b:=MQ h;simp only[A2,AK] at h;rw[Ez,d,SP N ts h.2,b.1,Ax b.2];rfl
theorem SP (N:Nat):∀l:Ϣ,BO l=Z->Gr N l=Z
 | [],_=>rfl
 | t::l,h=>by
  simp only[BO,AK] at h;rw[Gr,VZ N t h.1,SP N l h.2];rfl
end
def Z6 {N:Nat}:∀(t:Ty) (e:Bool),A2 t=Z->Ez N (OB (gQ N) e t)=true:=by
 have o:∀(m:Nat) (t:Ty) (e:Bool),Al t<=m->A2 t=Z->Ez N (OB (gQ N) e t)=true:=by
  intro m
  induction m with
  | zero=>
   intro t e f;obtain⟨k,n,i,ts⟩:=t
   grind[Al]
  | succ m r=>
   intro t e f b;obtain⟨k,n,i,ts⟩:=t;have p:=b;have d:=MQ b;simp only[A2,AK] at b;rw[Al] at f;rw[OB];cases A:k==5 with
   | true=>
    have:k=5:=AB;subst this;have⟨_,_,B⟩:=EL p
    grind[gQ,Ez,Gr]
   | false=>
    simp only[AL];have s:(k==7)=false:=by grind[HK]
    cases h:(k==2||(k==3&&!e)) with
    | true=>
     have x:∀l:Ϣ,(∀t∈l,Ez N t=Z)->Gr N l=true:=by
      intro l
      induction l with
      | nil=>simp[Gr]
      | cons a l z=>grind[Gr]
     simp only[AQ];rw[Ez,s,Na];simp only[AL,d.1,Ax d.2,PW,Cm];refine x _ λt y=>?_
     obtain⟨u,j,rfl⟩:=Cw.1 y;exact r u _ (by have:=Et j; omega) (CB b.2 j)
    | false=>
     grind[VZ]
 exact λt e=>o _ t e (AU _)
def Va {N:Nat}:∀(m:Nat) (t:Ty) (e:Bool),Al t<=m->AP (OB (gQ N) e t)<=AP t:=by
 intro m
 induction m with
 | zero=>
  intro t e b;obtain⟨k,n,i,ts⟩:=t
  grind[Al]
 | succ m d=>
  intro t e b;obtain⟨k,n,i,ts⟩:=t;rw[Al] at b;rw[OB];cases k==5 with
  | true=>
   grind[AP,gQ,Ak]
  | false=>
   cases (k==2||(k==3&&!e)) with
   | false=>simp
   | true=>
    simp only[AL,AQ,AP]
    have:∀l:Ϣ,(∀t∈l,AP (OB (gQ N) (e||k==2) t)<=AP t)->Ak (Rb (gQ N) (e||k==2) l)<=Ak l:=by
     intro l
     induction l with
     | nil=>simp[Rb]
     | cons a l j=>grind[Rb,Ak]
    have:=this ts λt f=>d t _ (by have:=Et f; omega)
    omega
mutual
def fl:Ty->Bool
 | .mk k n i ts=>k==0||k==2||k==7||(k==3&&n==[]&&i==0&&flL ts)
def flL:Ϣ->Bool
 | []=>Z
 | t::l=>fl t&&flL l
end
def nK:∀{l:Ϣ} {t:Ty},flL l=Z->t∈l->fl t=Z
 | a::l,t,h,ht=>by
  simp only[flL,AK] at h;rcases BF.1 ht with rfl|ht
  .grind
  .exact nK h.2 ht
def eI {ex:Ty->Ϣ->FT} {B:Ϣ}:∀(l:Ϣ) (out:List Ϣ),(∀t∈l,ex t B=(Y [t],B))->Ey ex l out B=(Y (out++l.map λt=>[t]),B)
 | [],out,_=>by simp[Ey]
 | t::l,out,h=>by
  rw[Ey,h t AD];simp only;rw[eI l _ λu b=>h u AB];simp
def YA {A7:Nat->Bool} (b:A7 1=ϴ):∀(l:Ϣ) (out:Ϣ),Df A7 (l.map λt=>[t]) [out]=Y [out++l]
 | [],out=>by simp[Df]
 | t::l,out=>by
  have e:(([out]:List Ϣ).flatMap λp=>[t].map λx=>p++[x])=[out++[t]]:=rfl;rw[CH,Df,e];simp only[CP,CQ,CY,b,AL];rw[YA b l];simp
def YB {A7:Nat->Bool} (m:A7 1=ϴ):∀(f:Nat) (t:Ty) (B:Ϣ),Al t<=f->fl t=Z->BI A7 f t B=(Y [t],B):=by
 intro f
 induction f with
 | zero=>
  intro t B b;obtain⟨k,n,i,ts⟩:=t
  grind[Al]
 | succ f j=>
  intro t B b hf;obtain⟨k,n,i,ts⟩:=t;rw[Al] at b;rw[fl] at hf;rw[BI];cases e:k==0||k==2||k==7 with
  | true=>grind
  | false=>
   rw[e] at hf;simp only[Fy,AK,Gf] at hf;obtain⟨⟨⟨rfl,rfl⟩,rfl⟩,hf⟩:=hf;simp only[AL,show((3:Int)==4)=ϴ from rfl,CS,AQ];rw[eI ts [] λt d=>j t B (by have:=Et d; omega) (nK hf d)];simp only[Ct];have:(ts.map λt=>[t]).any List.isEmpty=false:=AD;simp[*,YA]
mutual
def xD:∀t:Ty,fl t=Z->wt t<=AP t
 | .mk k n i ts,h=>by
  rw[fl] at h;rw[wt,AP];have d:(k==6)=false:=AB;cases e:k==3 with
  | true=>
   have b:flL ts=true:=AB;have:=xE ts b
   grind
  | false=>
   grind
def xE:∀l:Ϣ,flL l=Z->(jI l).sum<=Ak l
 | [],_=>by simp[jI]
 | t::l,h=>by
  simp only[flL,AK] at h;have b:=xD t h.1;have d:=xE l h.2
  grind[jI,Ak]
end
def yy (n:Ϝ) (i:Int) (ts:Ϣ):Bool:=i==0&&(NB n&&(!Ml.contains n&&decide (F ts<=6)))
mutual
def wP:Ty->Bool
 | .mk k n i ts=>bif k==5 then n==[]&&ts.isEmpty else bif k==2 then yy n i ts&&Qb ts else P1 (.mk k n i ts)
def Qb:Ϣ->Bool
 | []=>Z
 | t::l=>wP t&&Qb l
end
mutual
def wB:Ty->Bool
 | .mk k n i ts=>bif k==5 then n==[]&&ts.isEmpty else bif k==0 then n==[]&&(i==0&&ts.isEmpty) else bif k==2 then yy n i ts&&Qb ts else k==3&&(n==[]&&(i==0&&(decide (F ts<=6)&&Kz ts)))
def Kz:Ϣ->Bool
 | []=>Z
 | t::l=>wB t&&Kz l
end
structure Ms where
 c:Ϟ->Nat
 nm:Ty->Nat
 mono:∀l m,CD (·<=·) l m->c l<=c m
 map:∀(g:Int->Int) (n:Ϝ) (i:Int) (ts:Ϣ),Qb ts=Z->nm (.mk 2 n i (B4 (λi=>var (g i)) ts))=nm (.mk 2 n i ts)
mutual
def wz (M:Ms) (ω:Int->Nat):Ty->Nat
 | .mk k n i ts=>bif k==5 then ω i else bif k==3 then M.c (WZ M ω ts) else M.nm (.mk k n i ts)
def WZ (M:Ms) (ω:Int->Nat):Ϣ->Ϟ
 | []=>[]
 | t::l=>wz M ω t::WZ M ω l
end
mutual
def MZ (M:Ms) {ω b:Int->Nat} (h:∀i,ω i<=b i):∀t:Ty,wz M ω t<=wz M b t
 | .mk k n i ts=>by
  have:=eJ M h ts;rw[wz,wz];cases k==5 with
  | true=>grind
  | false=>
   cases k==3 with
   | true=>exact M.mono _ _ this
   | false=>simp
def eJ (M:Ms) {ω b:Int->Nat} (h:∀i,ω i<=b i):∀l:Ϣ,CD (·<=·) (WZ M ω l) (WZ M b l)
 | []=>trivial
 | t::l=>⟨MZ M h t,eJ M h l⟩
end
mutual
def LJ (M:Ms) (ω:Int->Nat) (g:Int->Int):∀t:Ty,wB t=Z->wz M ω (Bq (λi=>var (g i)) t)=wz M (λi=>ω (g i)) t
 | .mk k n i ts,b=>by
  rw[wB] at b;rw[Bq,wz];cases d:k==5 with
  | true=>rfl
  | false=>
   rw[d] at b;cases e:k==3 with
   | true=>
    have j:(k==0)=false:=AB;have f:(k==2)=false:=AB;rw[j,f,e] at b;simp only[AL,Cm,AK] at b;simp only[AL,AQ,Dx,wz,d,e,nL M ω g ts b.2.2.2]
   | false=>
    cases f:k==2 with
    | true=>
     have:k=2:=AB;subst this;simp only[show((2:Int)==0)=ϴ from rfl,CS,AL,AQ,AK] at b;simp only[AL,AQ,D6,wz,d,e];exact M.map g n i ts b.2
    | false=>grind[wz]
def nL (M:Ms) (ω:Int->Nat) (g:Int->Int):∀l:Ϣ,Kz l=Z->WZ M ω (B4 (λi=>var (g i)) l)=WZ M (λi=>ω (g i)) l
 | [],_=>rfl
 | t::l,h=>by
  simp only[Kz,AK] at h;rw[B4,WZ,WZ,LJ M ω g t h.1,nL M ω g l h.2]
end
def YC:∀l:Ϟ,CD (·<=·) l l
 | []=>trivial
 | _::l=>⟨AU _,YC l⟩
mutual
def ADu (M:Ms) {ω:Int->Nat} {c:Ty} {w:Int} (f:wz M ω c<=ω w):∀(b:Ty) (k:Nat),(Af b)[k]?=Y w->wz M ω (Mn c b k)<=wz M ω b
 | .mk k n i ts,j,h=>by
  rw[Af] at h;rw[Mn];cases d:k==5 with
  | true=>
   grind[wz]
  | false=>
   rw[d] at h;cases e:k==3 with
   | true=>
    rw[e] at h;simp only[AL,AQ] at h ⊢;rw[wz,wz,d,e];exact M.mono _ _ (xF M f ts j h)
   | false=>simp
def xF (M:Ms) {ω:Int->Nat} {c:Ty} {w:Int} (d:wz M ω c<=ω w):∀(l:Ϣ) (k:Nat),(B5 l)[k]?=Y w->CD (·<=·) (WZ M ω (He c l k)) (WZ M ω l)
 | [],_,h=>by grind[B5]
 | t::l,k,h=>by
  rw[B5] at h;rw[He]
  by_cases b:k<F (Af t)
  .rw[C3 b] at h
   rw[Ax b];exact⟨ADu M d t k h,YC _⟩
  .rw[Ei AA] at h
   rw[A5 b];exact⟨AU _,xF M d l _ h⟩
end
def nM (M:Ms) (ω:Int->Nat):∀l m:Ϣ,WZ M ω (l++m)=WZ M ω l++WZ M ω m
 | [],_=>rfl
 | t::l,m=>by rw[DV,WZ,WZ,nM M ω l m]; rfl
def ADv {i:Int} {n:Ϝ} {ts:Ϣ} (h:root 2 n i ts=Z):yy n i ts=Z/\Eo ts=true:=by grind[root,shape,yy]
mutual
theorem xG:∀t:Ty,A2 t=Z->plain t=Z->wP t=Z
 | .mk k n i ts,h,f=>by
  have b:=h;simp only[A2,AK] at h;rw[wP];cases j:k==5 with
  | true=>
   have:k=5:=AB;subst this;obtain⟨rfl,rfl,_⟩:=EL b;rfl
  | false=>
   cases m:k==2 with
   | true=>
    have:k=2:=AB;subst this;have⟨d,e⟩:=ADv h.1;simp only[AL,AQ,d,Cm];exact Rc ts h.2 e
   | false=>
    grind[plain,P1]
theorem Rc:∀l:Ϣ,BO l=Z->Eo l=Z->Qb l=Z
 | [],_,_=>rfl
 | t::l,h,b=>by
  simp only[BO,AK] at h;simp only[Eo,AK] at b;rw[Qb,xG t h.1 b.1,Rc l h.2 b.2];rfl
end
theorem Re (f:Int->Ty):∀l:Ϣ,F (B4 f l)=l.length
 | []=>rfl
 | t::l=>by rw[B4,CP,CP,Re f l]
def nN {n:Ϝ} {i:Int} {ts:Ϣ} (f:Int->Ty):yy n i (B4 f ts)=yy n i ts:=by grind[yy,Re]
mutual
def AIE (g:Int->Int):∀t:Ty,wP t=Z->wP (Bq (λi=>var (g i)) t)=Z
 | .mk k n i ts,h=>by
  rw[wP] at h;rw[Bq];cases d:k==5 with
  | true=>rfl
  | false=>
   rw[d] at h;cases b:k==2 with
   | true=>
    rw[b] at h;simp only[AL,AQ,AK] at h;simp only[AL,AQ,D6,wP,d,b,nN,h.1,Z7 g ts h.2,F0]
   | false=>
    rw[b] at h;simp only[AL] at h;have:=Hu _ (λi=>var (g i)) h
    grind[Bq,wP]
def Z7 (g:Int->Int):∀l:Ϣ,Qb l=Z->Qb (B4 (λi=>var (g i)) l)=Z
 | [],_=>rfl
 | t::l,h=>by
  simp only[Qb,AK] at h;rw[B4,Qb,AIE g t h.1,Z7 g l h.2];rfl
end
mutual
def JH (g:Int->Int):∀t:Ty,wB t=Z->wB (Bq (λi=>var (g i)) t)=Z
 | .mk k n i ts,h=>by
  rw[wB] at h;rw[Bq];cases b:k==5 with
  | true=>rfl
  | false=>
   rw[b] at h;cases d:k==2 with
   | true=>
    simp_all[wB,nN,Z7]
   | false=>
    cases e:k==3 with
    | true=>
     have f:(k==0)=false:=AB;rw[d,f,e] at h;simp only[AL,Cm,AK] at h;simp only[AL,AQ,Dx,wB,b,d,f,e,Cm,Re,h.1,h.2.1,h.2.2.1,nO g ts h.2.2.2,F0]
    | false=>
     grind[wB]
def nO (g:Int->Int):∀l:Ϣ,Kz l=Z->Kz (B4 (λi=>var (g i)) l)=Z
 | [],_=>rfl
 | t::l,h=>by
  simp only[Kz,AK] at h;rw[B4,Kz,JH g t h.1,nO g l h.2];rfl
end
def eK (c:Ty):∀(l:Ϣ) (k:Nat),F (He c l k)=l.length
 | [],_=>rfl
 | t::l,k=>by
  rw[He];cases decide (k<F (Af t)) with
  | true=>rfl
  | false=>simp only[AL,CP,eK c l _]
mutual
def ADw {c:Ty} (o:wB c=Z):∀(b:Ty) (k:Nat),wB b=Z->wB (Mn c b k)=Z
 | .mk k n i ts,j,h=>by
  have p:=h;rw[wB] at h;rw[Mn];cases d:k==5 with
  | true=>grind
  | false=>
   cases e:k==3 with
   | true=>
    have f:(k==0)=false:=AB;have m:(k==2)=false:=AB;rw[d,m,f,e] at h;simp only[AL,Cm,AK] at h;simp only[AL,AQ,wB,d,m,f,e,Cm,eK,h.1,h.2.1,h.2.2.1,xH o ts j h.2.2.2,F0]
   | false=>grind
def xH {c:Ty} (b:wB c=Z):∀(l:Ϣ) (k:Nat),Kz l=Z->Kz (He c l k)=Z
 | [],_,_=>rfl
 | t::l,k,h=>by
  simp only[Kz,AK] at h;rw[He];cases decide (k<F (Af t)) with
  | true=>simp only[AQ,Kz,ADw b t k h.1,h.2,F0]
  | false=>simp only[AL,Kz,xH b l _ h.2,h.1,F0]
end
theorem nQ:∀l m:Ϣ,Kz (l++m)=(Kz l&&Kz m)
 | [],_=>by rfl
 | t::l,m=>by rw[DV,Kz,Kz,nQ l m,Lz]
mutual
theorem APa:∀t:Ty,wP t=Z->pl t=Z
 | .mk k n i ts,h=>by
  rw[wP] at h;rw[pl];cases b:k==5 with
  | true=>grind
  | false=>
   rw[b] at h;cases d:k==2 with
   | true=>
    rw[d] at h;simp only[AL,AQ,AK] at h;exact jy ts h.2
   | false=>grind
theorem jy:∀l:Ϣ,Qb l=Z->WO l=Z
 | [],_=>rfl
 | t::l,h=>by
  simp only[Qb,AK] at h;rw[WO,APa t h.1,jy l h.2];rfl
end
mutual
def KR:∀t:Ty,wB t=Z->bd t=Z
 | .mk k n i ts,h=>by
  rw[wB] at h;rw[bd];cases f:k==5 with
  | true=>grind
  | false=>
   rw[f] at h;cases d:k==2 with
   | true=>
    grind[jy]
   | false=>
    cases e:k==3 with
    | true=>
     have b:(k==0)=false:=AB;rw[d,b,e] at h;simp only[AL,Cm,AK] at h;exact xI ts h.2.2.2
    | false=>
     rw[d,e] at h;cases b:k==0 with
     | true=>
      have:k=0:=AB;subst this;simp only[b,AL,AQ,AK,Gf,Eu] at h;obtain⟨rfl,rfl,rfl⟩:=h;rfl
     | false=>grind
def xI:∀l:Ϣ,Kz l=Z->ND l=Z
 | [],_=>rfl
 | t::l,h=>by
  simp only[Kz,AK] at h;rw[ND,KR t h.1,xI l h.2];rfl
end
mutual
def nR (p:Int->Bool) (c:Ty):∀(b:Ty) (k:Nat),oI p b=Z->oI p (Mn c b k)=Z
 | .mk k n i ts,j,h=>by
  have f:=h;rw[oI] at h;rw[Mn];cases m:k==5 with
  | true=>
   grind
  | false=>
   cases d:k==3 with
   | true=>
    have e:(k==2)=false:=AB;rw[e,d] at h;simp only[AL,Cm] at h;simp only[AL,AQ,oI,e,d,Cm,eM p c ts j h]
   | false=>grind
def eM (p:Int->Bool) (c:Ty):∀(l:Ϣ) (k:Nat),KV p l=Z->KV p (He c l k)=Z
 | [],_,h=>by cases h
 | t::l,k,h=>by
  rw[KV] at h;rw[He];rcases Yo.1 h with h|h
  .cases decide (k<F (Af t)) with
   | true=>simp only[AQ,KV,nR p c t k h,D6]
   | false=>grind[KV]
  .cases decide (k<F (Af t)) with
   | true=>grind[KV]
   | false=>simp only[AL,KV,eM p c l _ h,Dx]
end
mutual
def xJ (p:Int->Bool) {c:Ty} (e:oI p c=Z):∀(b:Ty) (k:Nat),k<F (Af b)->oI p (Mn c b k)=Z
 | .mk k n i ts,j,h=>by
  rw[Af] at h;rw[Mn];cases f:k==5 with
  | true=>
   grind
  | false=>
   rw[f] at h;cases d:k==3 with
   | true=>
    have m:(k==2)=false:=AB;rw[d] at h;simp only[AL,AQ] at h;simp only[AL,AQ,oI,m,d,Cm,nS p e ts j h]
   | false=>grind
def nS (p:Int->Bool) {c:Ty} (d:oI p c=Z):∀(l:Ϣ) (k:Nat),k<F (B5 l)->KV p (He c l k)=Z
 | [],k,h=>by grind[B5]
 | t::l,k,h=>by
  rw[B5,B6] at h;rw[He]
  by_cases b:k<F (Af t)
  .rw[Ax b]
   simp only[AQ,KV,xJ p d t k b,D6]
  .rw[A5 b]
   simp only[AL,KV,nS p d l (k-F (Af t)) AA,Dx]
end
def nT (p:Int->Bool):∀l m:Ϣ,KV p (l++m)=(KV p l||KV p m)
 | [],_=>by rfl
 | t::l,m=>by rw[DV,KV,KV,nT p l m,Bool.or_assoc]
end Go.Proofs.YtpgfpakdnijngaaGreatDoor
