/-
  The reference: Expand.
-/
import Derived.Test.YtpgfpakdnijngaaGreatDoorTG
import Derived.Test.YtpgfpakdnijngaaGreatDoorTE
import Derived.Test.YtpgfpakdnijngaaGreatDoorWpW
set_option linter.all false
namespace Go.Proofs.YtpgfpakdnijngaaGreatDoor
open Go.Tel
theorem CG.set {α β:Type} {P:α->β->Prop}:∀{l:List α} {m:List β} (p:Nat) {a:α} {b:β},CG P l m->P a b->CG P (l.set p a) (m.set p b)
 | [],[],_,_,_,_,_=>trivial
 | x::l,y::m,0,_,_,⟨_,h⟩,hab=>⟨hab,h⟩
 | x::l,y::m,p+1,_,_,⟨h1,h2⟩,hab=>⟨h1,CG.set p h2 hab⟩
 | [],_::_,_,_,_,h,_=>h.elim
 | _::_,[],_,_,_,h,_=>h.elim
theorem CG.len {α β:Type} {P:α->β->Prop}:∀{l:List α} {m:List β},CG P l m->l.length=m.length
 | [],[],_=>rfl
 | _::l,_::m,⟨_,h⟩=>by simp[CG.len h]
 | [],_::_,h=>h.elim
 | _::_,[],h=>h.elim
theorem CG.take {α β:Type} {P:α->β->Prop}:∀{l:List α} {m:List β} (p:Nat),CG P l m->CG P (l.take p) (m.take p)
 | [],[],p,_=>by grind
 | _::_,_::_,0,_=>trivial
 | x::l,y::m,p+1,⟨h1,h2⟩=>⟨h1,CG.take p h2⟩
 | [],_::_,_,h=>h.elim
 | _::_,[],_,h=>h.elim
theorem MO.close {lo:Nat} {bs:List (List AV)} {l:List Br} {v:AV} (hb:MO lo bs l v):∃v',Tel.close bs 0 0 v=some v'/\Av v' (l.map Yg):=by
 rcases hb with ⟨rfl,rfl⟩|⟨id,rows,h1,rfl,h2,h3,h4⟩
 .exact⟨.AB [],by rfl,.AB _⟩
 .obtain⟨c,cs,hc,k1,k2,k3,hal⟩:=MO.block (lo:=lo) (s:=⟨bs,[]⟩) h2 h3 h4
  have htp:=iH h3;refine⟨.pv (.list (l.map Yg)),?_,.list _⟩
  grind[Me,HG,wL,List.length_map,Tel.close]
section
variable {R:RT}
structure AVp (b:Br):Prop where
 NR:size b.body<2 ^ 36
 ok:vP wI b.body=true
 EW:b.bounds.length<2 ^ 37
 On:∀i∈occs b.body [],0<=i/\i<(b.bounds.length:Int)
theorem pE {t:Ty} (hv:valid t=true) (hc:BW 0 t=true) (hft:Fit t) {l:List Br} (Wj:HQ (Ac 32) (depth t) t=some l):∀b∈l,AVp b/\(IA b).bounds.length<2 ^ 30/\size (IA b).body<2 ^ 30/\∀c∈(IA b).bounds,VE t c:=by
 intro b Oa;obtain⟨ps,B,_,_,AVq,_,hB⟩:=l5 hv hc hft.bws Wj;have z:=DS (Au:=Ac 32) (depth t) t l Wj b Oa;have zG:=lS (depth t) t l hv hft.bws Wj b Oa;have hbw:(bw t:Int)<1073741824:=hft.bws;have hsz:=zG.NR;have hwt:=hft.wts;have hok:=AKW zG (by omega);obtain⟨r1,r2⟩:=o9 hok (by omega);refine⟨⟨by omega,hok,by omega,AVq b Oa⟩,by omega,by omega,λc KD=>?_⟩;have hcm':c∈(occs b.body []).map λi=>b.bounds.getD i.toNat oV:=KD
 grind
end
def BSl (bs:List (List AV)) (l:List Br) (a:AV):Prop:=(∃lo,MO lo bs l a)\/BG a (l.map Yg)
theorem BSl.BN {s:AM} {l:List Br} {a:AV} (h:BSl s.bs l a):BN s a=some l.length:=by
 rcases h with ⟨lo,h⟩|h
 .exact h.BN
 .rw[h.BN,Bn]
def BrS (b:Br):Prop:=size b.body<2 ^ 38/\b.bounds.length<2 ^ 60/\∀t∈b.bounds,size t<2 ^ 38
section
variable {R:RT}
theorem ACo {l m:List Ty} {x y:AV} (hx:Av x (AP l)) (hy:Av y (AP m)) (hlm:l.length=m.length) (hl:l.length<2 ^ 60) (hs:∀t∈l,size t<2 ^ 38) {s:AM} {Post:AV->Prop} (hP:∀b:Bool,(b=true<->l=m)->Post (BB b)) :
  ∀(j q:Nat),q+j=l.length->(l.take q=m.take q)->l9 R 0 0 0 x y (AA q) s (QP Post):=by
 intro j
 induction j with
 | zero=>
  intro q hi he;refine AEZ (BI (n:=l.length) (by rw[hx.BN,AR]) (A2 ?_));rw[BF (by omega)];rw[Cv (by omega),Cv (by omega)] at he;exact BE (APg ⟨_,Gu,hP true (by grind)⟩)
 | succ j ih=>
  intro q hi he;refine AEZ (BI (n:=l.length) (by rw[hx.BN,AR]) (A2 ?_));rw[Aq (by omega)];obtain⟨t,ht⟩:∃t,l[q]?=some t:=⟨_,Ap (by omega)⟩;obtain⟨u,hu⟩:∃t,m[q]?=some t:=⟨_,Ap (by omega)⟩;refine BP (APh (BO hx (row:=Aa t) (by omega) (by simp[*,BJ]) (Ad t) (by omega) (Di (BO hy (row:=Aa u) (by omega) (by simp[*,BJ]) (Ad u) (by omega) (Di (AG (O0 (R:=R) (hs t (BA ht)) (A5.Bu t) (A5.Bu u)) ?_))))));rintro _ ⟨b,rfl,hb⟩;refine nt ?_;cases b with
  | true=>
   have htu:t=u:=hb.1 rfl;refine BE (APi (CO (by omega) (by omega) ?_));have:=ih (q+1) (by omega) (by grind[List.take_add_one])
   grind
  | false=>
   refine BP ⟨_,Gu,hP false ?_⟩
   grind
theorem RV {l m:List Ty} {x y:AV} (hx:Av x (AP l)) (hy:Av y (AP m)) (hl:l.length<2 ^ 60) (hs:∀t∈l,size t<2 ^ 38):AL (env R) 75 [x,y] λr=>∃b:Bool,r=BB b/\(b=true<->l=m):=by
 suffices H:∀Post:AV->Prop,(∀b:Bool,(b=true<->l=m)->Post (BB b))->wN R 0 0 0 x y ⟨[],[]⟩ (QP Post) from e75 (u0:=x) (u1:=y) (by simp[AU,hx.close,hy.close]) (H _ λb h=>⟨b,rfl,h⟩)
 intro Post hP;refine APj (BI (n:=l.length) (by rw[hx.BN,AR]) (BI (n:=m.length) (by rw[hy.BN,AR]) (Fl ?_)))
 by_cases h:l.length=m.length
 .have:((l.length:Int) != (m.length:Int))=false:=by grind
  rw[this];have:=ACo (R:=R) hx hy h hl hs (s:=⟨[],[]⟩) hP l.length 0 (by omega) rfl;exact BE (APk (by simpa using this))
 .have:((l.length:Int) != (m.length:Int))=true:=by grind
  rw[this];exact BP ⟨_,Gu,hP false ⟨λh=>(by cases h),λe=>absurd (by rw[e]) h⟩⟩
theorem QS {b c:Br} (hb:BrS b) {x y:AV} (hx:D3 b x) (hy:D3 c y):AL (env R) 32 [x,y] λr=>∃e:Bool,r=BB e/\(e=true<->b=c):=by
 obtain⟨x',h1,h2,a,v,rfl,ha,hv⟩:=hx.closed;obtain⟨y',k1,k2,d,w,rfl,hd,hw⟩:=hy.closed;have z1:close [] 0 0 x=some (.agg (a::v)):=by grind[AU]
 have z2:close [] 0 0 y=some (.agg (d::w)):=by grind[AU]
 obtain⟨c1,c2,c3,c4⟩:=hv.cells;obtain⟨d1,d2,d3,d4⟩:=hw.cells;refine AL.open (args':=[.agg (a::v),.agg (d::w)]) (by rfl) (by rfl) rfl (by grind[AU]) (by grind[AU]) ?_;obtain⟨s1,s2,s3⟩:=hb
 suffices H:∀Post:AV->Prop,(∀e:Bool,(e=true<->b=c)->Post (BB e))->wQ R 0 0 0 (.agg (a::v)) (.agg (d::w)) ⟨[],[]⟩ (QP Post) from e32 (u0:=.agg (a::v)) (u1:=.agg (d::w)) (by grind[AU]) (H _ λb h=>⟨b,rfl,h⟩)
 intro Post hP;refine APl (CT (cs:=a::v) rfl (by simp[ha.ok]; grind) (CT (cs:=d::w) rfl (by simp[hd.ok]; grind) ?_));have g0:(AM.mk ([]++[a::v]++[d::w]) []).bs[0]?=some (a::v):=rfl;have g1:(AM.mk ([]++[a::v]++[d::w]) []).bs[1]?=some (d::w):=rfl;refine AW (Ak g0) (Ag (off:=0) g0 rfl (AW (Ak g1) (Ag (off:=0) g1 rfl (AG (RV (R:=R) ha hd s2 s3) ?_))));rintro _ ⟨e1,rfl,he1⟩;cases e1 with
 | false=>
  refine Bx (Bx (Bx (Bx (Bx (pk ⟨_,Gu,hP false ⟨λh=>(by cases h),λe=>?_⟩⟩)))))
  grind
 | true=>
  refine Ax (AW (Ak g0) (Ax (VH g0 c1 (Ax (AW (Ak g1) (Ax (VH g1 d1 (Ax (AG (O0 (R:=R) s1 hv hw) ?_)))))))));rintro _ ⟨e2,rfl,he2⟩;have e1:=he1.1 rfl;refine pk ⟨_,Gu,hP e2 ⟨λh=>?_,λh=>he2.2 (by rw[h])⟩⟩;have h2:=he2.1 h;cases b
  simp_all
end
structure Lm where
 c:Nat
 b:Nat
 w:Nat
 n:Nat
 l:Nat
structure Lm.Of (q:Lm) (t:Ty):Prop where
 c:cv t<=q.c
 b:bw t<=q.b
 w:wt t<=q.w
 n:nb t<=q.n
 l:lv t<=q.l
def Lm.up (a s:Nat) (y x:Lm):Lm:=
 ⟨max 1 (max (a*x.c) (x.c*(y.c+1))),max (a*x.b) (x.b+1+(x.c+1)*y.b),max s (max (1+a*x.w) (x.w+max 1 x.c*y.w)),max (a*x.n) (1+x.n+(33*x.l+500)*y.n),max 1 (max x.l (a*x.l))⟩
theorem MQ {α:Type} {f:α->Nat} {m:Nat}:∀{l:List α} {a:Nat},l.length<=a->(∀t∈l,f t<=m)->(l.map f).sum<=a*m
 | [],a,_,_=>AK _
 | t::l,a,h,hl=>by
  obtain⟨a,rfl⟩:∃b,a=b+1:=⟨a-1,by grind⟩;have h1:=MQ (l:=l) (a:=a) (by grind) (λt ht=>hl t (by grind))
  grind
theorem max_le {α:Type} {f:α->Nat} {m:Nat}:∀{l:List α},(∀t∈l,f t<=m)->(l.map f).foldr max 0<=m
 | [],_=>AK _
 | t::l,hl=>by
  have h1:=max_le (l:=l) (λt ht=>hl t (by grind))
  grind
theorem Lm.mA {a s:Nat} {x y:Lm} {k i:Int} {n:List UInt8} {ts:List Ty} (hs:k≠3->k≠4->k≠6->AQ ts+1<=s) (h34:k=3\/k=4->ts.length<=a/\∀t∈ts,x.Of t) (h6:k=6->∀b body,ts=[b,body]->y.Of b/\x.Of body):(Lm.up a s y x).Of (.mk k n i ts):=by
 cases b6:k==6 with
 | true=>
  have:k=6:=by grind
  subst this
  match ts,h6 with
  | [],_=>exact⟨by simp[cv,Lg,ex6],by grind[bw,Lg,ex7],by grind[wt,Lg,wx],by grind[nb,ex9],by simp[lv,lvl,ex2]⟩
  | [_],_=>exact⟨by simp[cv,Lg,ex6],by grind[bw,Lg,ex7],by grind[wt,Lg,wx],by simp[*,nb,ex9],by simp[lv,lvl,ex2]⟩
  | _::_::_::_,_=>exact⟨by simp[cv,Lg,ex6],by simp[*,bw,Lg,ex7],by simp[*,wt,Lg,wx],by simp[*,nb,ex9],by simp[lv,lvl,ex2]⟩
  | [b,body],h6=>
   obtain⟨hb,hy⟩:=h6 rfl b body rfl;have e1:cv (.mk 6 n i [b,body])=cv body*(cv b+1):=rfl;have e2:bw (.mk 6 n i [b,body])=bw body+1+(cv body+1)*bw b:=rfl;have e3:wt (.mk 6 n i [b,body])=wt body+max 1 (cv body)*wt b:=rfl;have e4:nb (.mk 6 n i [b,body])=1+nb body+nF body*nb b:=rfl;have e5:lv (.mk 6 n i [b,body])=lv body:=rfl;have f1:cv body*(cv b+1)<=x.c*(y.c+1):=OG hy.c (by have:=hb.c; omega);have f2:(cv body+1)*bw b<=(x.c+1)*y.b:=OG (by have:=hy.c; omega) hb.b;have f3:max 1 (cv body)*wt b<=max 1 x.c*y.w:=OG (by have:=hy.c; omega) hb.w
   have f4:nF body*nb b<=(33*x.l+500)*y.n:=by
    refine OG ?_ hb.n;have:=hy.l
    grind[nF]
   have g2:=hy.b;have g3:=hy.w;have g4:=hy.n;have g5:=hy.l;refine⟨?_,?_,?_,?_,?_⟩
   all_goals grind[Lm.up]
 | false=>
  cases b34:k==3||k==4 with
  | true=>
   have hk:k=3\/k=4:=by grind
   obtain⟨hl,ht⟩:=h34 hk;have s1:=MQ (f:=cv) hl λt h=>(ht t h).c
   have s2:=MQ (f:=bw) hl λt h=>(ht t h).b
   have s3:=MQ (f:=wt) hl λt h=>(ht t h).w
   have s4:=MQ (f:=nb) hl λt h=>(ht t h).n
   have s5:=MQ (f:=lv) hl λt h=>(ht t h).l
   have s6:=max_le (f:=lv) λt h=>(ht t h).l
   refine⟨?_,?_,?_,?_,?_⟩
   .grind[cv,P8,Lm.up]
   all_goals grind[bw,Gg,Lm.up,wt,LJ,nb,QJ,lv,Yv]
  | false=>
   have hsz:=hs (by grind) (by grind) (by grind);simp only[G7] at b34;refine⟨?_,?_,?_,?_,?_⟩
   all_goals grind[cv,Lm.up,bw,wt,nb,lv]
mutual
def lev:Nat->Ty->Bool
 | d,.mk _ _ _ ts=>decide (ts.length<=8)&&APn d ts
def APn:Nat->List Ty->Bool
 | _,[]=>true
 | d,t::l=>decide (0<d)&&(lev (d-1) t&&APn d l)
end
def nz (d:Nat) (t:Ty):Bool:=bif decide (d<=1) then decide (size t<=3)&&decide (depth t<=2) else bif d==2 then decide (size t<=7)&&decide (depth t<=3) else true
theorem PG {d:Nat} {t:Ty} (h:size t<=3) (h':depth t<=2):nz d t=true:=by
 unfold nz;cases decide (d<=1) with
 | true=>simp[h,h']
 | false=>
  cases d==2 with
  | true=>
   have h1:size t<=7:=by omega
   have h2:depth t<=3:=by omega
   simp[h1,h2]
  | false=>rfl
mutual
def gq:Nat->Ty->Bool
 | d,.mk k n i ts=>bif k==3||k==4 then decide (0<d)&&(decide (ts.length<=3)&&T8 (d-1) ts) else bif k==6 then decide (0<d)&&gqX d ts else bif k==2 then nz d (.mk k n i ts) else ts.isEmpty
def T8:Nat->List Ty->Bool
 | _,[]=>true
 | d,t::l=>gq d t&&T8 d l
def gqX:Nat->List Ty->Bool
 | d,b::l=>gq 1 b&&T8 (d-1) l
 | _,[]=>true
end
theorem HH {d:Nat}:∀{l:List Ty} {t:Ty},T8 d l=true->t∈l->gq d t=true
 | a::l,t,h,ht=>by
  simp only[T8,AD] at h;rcases Az.1 ht with rfl|ht
  .grind
  .exact HH h.2 ht
def gq0:Lm:=Lm.up 0 200 ⟨0,0,0,0,0⟩ ⟨0,0,0,0,0⟩
theorem wR {t:Ty} (h:gq 0 t=true) (hs:size t<=200):gq0.Of t:=by
 obtain⟨k,n,i,ts⟩:=t;rw[size] at hs;rw[gq] at h;refine Lm.mA (λ_ _ _=>hs) (λhk=>?_) (λhk=>?_)
 all_goals grind
def VI:Nat->Lm
 | 0=>gq0
 | m+1=>⟨max (VI m).c (max 3 ((VI m).c+1)),max (VI m).b (1+2*(VI m).b),max (VI m).w (max 601 (200+(VI m).w)),max (VI m).n (1+(VI m).n),3⟩
theorem wS:∀(m:Nat) (t:Ty),depth t<=m->gq 1 t=true->size t<=200->(VI m).Of t:=by
 intro m
 induction m with
 | zero=>
  intro t hd;obtain⟨k,n,i,ts⟩:=t
  grind[depth]
 | succ m ih=>
  intro t hd h hs;obtain⟨k,n,i,ts⟩:=t;have hs':=hs;rw[size] at hs;rw[gq] at h;have small:∀t∈ts,gq 0 t=true->gq0.Of t:=λt ht hg=>wR hg (by have:=GM ht; omega)
  have le:∀q:Lm,q.c<=(VI (m+1)).c->q.b<=(VI (m+1)).b->q.w<=(VI (m+1)).w->q.n<=(VI (m+1)).n->q.l<=3->q.Of (.mk k n i ts)->(VI (m+1)).Of (.mk k n i ts):=
   λq h1 h2 h3 h4 h5 h=>⟨A6 h.c h1,A6 h.b h2,A6 h.w h3,A6 h.n h4,A6 h.l h5⟩
  cases b34:k==3||k==4 with
  | true=>
   rw[b34] at h;simp only[AH,AD,CZ] at h;have hx:=Lm.mA (a:=3) (s:=200) (x:=gq0) (y:=⟨0,0,0,0,0⟩) (k:=k) (n:=n) (i:=i) (ts:=ts) (λ_ _ _=>hs) (λ_=>⟨h.2.1,λt ht=>small t ht (HH h.2.2 ht)⟩) (λhk=>by grind);have e:Lm.up 3 200 ⟨0,0,0,0,0⟩ gq0=⟨3,3,601,3,3⟩:=by rfl
   rw[e] at hx
   have hb0:bw (.mk k n i ts)=0/\nb (.mk k n i ts)=0:=by
    have b6:(k==6)=false:=by grind
    have z1:=MQ (f:=bw) (m:=0) h.2.1 λt ht=>by
     have:=(small t ht (HH h.2.2 ht));obtain⟨k,n,i,ts⟩:=t
     grind[HH,gq,bw]
    have z2:=MQ (f:=nb) (m:=0) h.2.1 λt ht=>by
     obtain⟨k,n,i,ts⟩:=t
     grind[HH,gq,nb]
    grind[bw,Gg,nb,QJ]
   refine⟨?_,by omega,?_,by omega,hx.l⟩
   .have:=hx.c
    grind[VI]
   .have:=hx.w
    grind[VI]
  | false=>
   rw[b34] at h;simp only[AE] at h;cases b6:k==6 with
   | false=>
    have hx:=Lm.mA (a:=0) (s:=200) (x:=⟨0,0,0,0,0⟩) (y:=⟨0,0,0,0,0⟩) (k:=k) (n:=n) (i:=i) (ts:=ts) (λ_ _ _=>hs) (λhk=>by grind) (λhk=>by grind);simp only[G7] at b34;have z1:bw (.mk k n i ts)=0:=by grind[bw]
    have z2:nb (.mk k n i ts)=0:=by grind[nb]
    have e:Lm.up 0 200 ⟨0,0,0,0,0⟩ ⟨0,0,0,0,0⟩=⟨1,1,200,1,1⟩:=by rfl
    rw[e] at hx;refine⟨?_,by omega,?_,by omega,A6 hx.l (show(1:Nat)<=3 by decide)⟩
    .have:=hx.c
     grind[VI]
    .have:=hx.w
     grind[VI]
   | true=>
    have:k=6:=by grind
    subst this;simp only[CN,AH,AD] at h
    match ts,h,hd,hs,small with
    | [],_,_,_,_=>exact⟨by simp[cv,Lg,ex6],by grind[bw,Lg,ex7],by grind[wt,Lg,wx],by grind[nb,ex9],by simp[lv,lvl,ex2]⟩
    | [_],_,_,_,_=>exact⟨by simp[cv,Lg,ex6],by grind[bw,Lg,ex7],by grind[wt,Lg,wx],by simp[*,nb,ex9],by simp[lv,lvl,ex2]⟩
    | _::_::_::_,_,_,_,_=>exact⟨by simp[cv,Lg,ex6],by simp[*,bw,Lg,ex7],by simp[*,wt,Lg,wx],by simp[*,nb,ex9],by simp[lv,lvl,ex2]⟩
    | [b,body],h,hd,hs,small=>
     simp only[gqX,T8,AD] at h;simp only[depth,CE] at hd;simp only[AQ] at hs;have hb:=ih b (by omega) h.2.1 (by omega);have hg:gq 0 body=true:=h.2.2.1;have e1:cv (.mk 6 n i [b,body])=cv body*(cv b+1):=rfl;have e2:bw (.mk 6 n i [b,body])=bw body+1+(cv body+1)*bw b:=rfl;have e3:wt (.mk 6 n i [b,body])=wt body+max 1 (cv body)*wt b:=rfl;have e4:nb (.mk 6 n i [b,body])=1+nb body+nF body*nb b:=rfl;have e5:lv (.mk 6 n i [b,body])=lv body:=rfl;obtain⟨k,n',i',l'⟩:=body;rw[gq] at hg;cases c34:k==3||k==4 with
     | true=>grind
     | false=>
      cases c6:k==6 with
      | true=>grind
      | false=>
       rw[size] at hs;have c34':=c34;simp only[G7] at c34;have d1:cv (.mk k n' i' l')=1:=by grind[cv]
       have d2:bw (.mk k n' i' l')=0:=by grind[bw]
       have d3:wt (.mk k n' i' l')<=200:=by grind[wt]
       have d4:nb (.mk k n' i' l')=0:=by grind[nb]
       have d5:lv (.mk k n' i' l')<=1:=by grind[lv]
       have d6:nF (.mk k n' i' l')=1:=by grind[nF,Tr]
       have g1:=hb.c;have g2:=hb.b;have g3:=hb.w;have g4:=hb.n;refine⟨?_,?_,?_,?_,?_⟩
       all_goals grind[VI]
def gqQ:Nat->Lm
 | 0=>gq0
 | 1=>VI 12
 | d+2=>Lm.up 3 200 (VI 12) (gqQ (d+1))
theorem AEa:∀(d:Nat) (t:Ty),gq d t=true->size t<=200->depth t<=12->(gqQ d).Of t
 | 0,t,h,hs,_=>wR h hs
 | 1,t,h,hs,hd=>wS 12 t hd h hs
 | d+2,.mk k n i ts,h,hs,hd=>by
  rw[size] at hs;rw[depth] at hd;rw[gq] at h;have ih:∀t∈ts,gq (d+1) t=true->(gqQ (d+1)).Of t:=λt ht hg=>AEa (d+1) t hg (by have:=GM ht; omega) (by have:=Gx ht; omega)
  refine Lm.mA (λ_ _ _=>hs) (λhk=>?_) (λhk b body he=>?_)
  all_goals grind[HH,gqX,AQ,CE,wS]
attribute [local simp] Bw B6 KS KT AO C1 GC wO setCells CR EG DQ Cu BD alive Cb Fi Hs jo Ay DC BV GL DY D0 qY oO okB qZ qa qb qc qd fK qe qf qg qh qi qj qm qo qp qt qu okF qv qw qx qy rC U2 rD RJ RK RL RM rE rF rG rH rI rJ rK rL rM rN Gu rO oP rP rQ rR rS rT rU rV rW rX rY Cm g0 g1 xI xL xM xF xG xC lf Y4 Y5
section
variable {R:Nat->Option (List PV)}
theorem ACp (a:Int) {b:Int} (hb:0<b):-b<a.tmod b:=by
 by_cases ha:0<=a
 .have:=Int.tmod_nonneg b ha
  omega
 .have h1:(-a).tmod b<b:=Int.tmod_lt_of_pos _ hb
  have h2:=Int.neg_tmod a b;omega
theorem wT (a b:Int) (hb:0<b) (M9:b<2 ^ 62):AL (env R) 13 [AA a,AA b] λv=>∃r,v=AA r/\0<=r/\r<b:=by
 refine e13 rfl (APp ?_);have h1:=Int.tmod_lt_of_pos a hb;have h2:=ACp a hb;simp only[Cb,AO,xI];refine⟨⟨AZ,AZ⟩,by omega,⟨AZ,AZ⟩,λh=>?_,λh=>?_⟩
 .simp at h
  refine⟨⟨AZ,AZ⟩,B9 (by omega) (by omega) (AEb ?_)⟩;exact⟨_,Gu,_,rfl,by omega,by omega⟩
 .simp at h
  refine AEb ?_;exact⟨_,Gu,_,rfl,by omega,by omega⟩
theorem T9 {bs:List (List AV)} {id:Nat} {l:Src} {k:Nat} {ts:List (Nat×Nat)} (h:id<bs.length) (m:List (List AV)):alive ⟨ST bs id l k++m,ts⟩ id=true:=by grind[alive,QU,RX]
theorem wU {bs:List (List AV)} {id:Nat} {l:Src} (hB:Nx bs id l) {m:List (List AV)} (hm:Kk bs m) (k:Nat) {n:Nat} (hn:n=bs.length+m.length):(((ST bs id l k++m).take n).all (Ab n))=true:=by
 rw[Cv (by grind[Fp]),hn];exact hB.all hm k
theorem AEc {rr:Bool} {N:Nat} {bs:List (List AV)} {id:Nat} {l:Src} (hB:Nx bs id l) {m:List (List AV)} (hm:Kk bs m) {k:Nat} {ts:List (Nat×Nat)} {Post:AV->AM->Prop} {p:PV} (hN:N=bs.length+m.length)
  (h:Post (.pv p) ⟨ST bs id l k++m,ts⟩):QM rr N Post (.pv p) ⟨ST bs id l k++m,ts⟩:=by grind[AD5,wU,Fp]
theorem Ny {bs:List (List AV)} {id:Nat} {l:Src} (hB:Nx bs id l) {m:List (List AV)} (hm:Kk bs m) {k:Nat} (hk:k<=l.length) {n:Int} (hn:0<n) (hn2:n<2 ^ 62) (L:A3) (hro:L.ro<=id) (ts:List (Nat×Nat)) :
  ∃v s',(∃r k',v=AA r/\0<=r/\r<n/\k<=k'/\k'<=l.length/\(r≠0->k<k')/\s'=⟨ST bs id l k'++m,ts⟩)/\A8 (env R) L 54 [.ptr id 0,AA n] ⟨ST bs id l k++m,ts⟩ v s':=by
 have hlen:=hB.len;have hlt:=hB.lt
 suffices H:∀(rr:Bool) (N:Nat) (Post:AV->AM->Prop),N=bs.length+m.length->(∀r k',0<=r->r<n->k<=k'->k'<=l.length->(r≠0->k<k')->Post (AA r) ⟨ST bs id l k'++m,ts⟩)->wV R 0 L.ro L.rt (.ptr id 0) (AA n) ⟨ST bs id l k++m,ts⟩ (QM rr N Post) from
  m54 (by rfl) (H _ _ _ (by simp[Fp]) λr k' h1 h2 h3 h4 h5=>⟨r,k',rfl,h1,h2,h3,h4,h5,rfl⟩)
 intro rr N Post hN hP;refine APq ?_
 by_cases h:k=l.length
 .have h1:((k:Int)>=l.length):=by omega
  simp[QU hlt,RX,l.APr,l.fK,h]
  grind[AEc]
 .have h1:¬ ((l.length:Int)<=k):=by omega
  simp[QU hlt,RX,l.APr,l.fK];refine⟨λh2=>absurd h2 (by omega),λ_=>?_⟩;refine APs ?_;obtain⟨a,ha⟩:∃a,l.ints[k]?=some a:=⟨_,Ap (by assumption)⟩;simp only[D0,T9 hlt,BD,EG,wO,QU hlt,Cb,xI,xL,xM,xF,xG];refine⟨AZ,AZ,?_⟩;simp only[RX,DQ,wO,G8,Ig,Cg];refine⟨⟨AZ,AZ⟩,B9 (by omega) (by omega) ?_⟩;simp only[D0,T9 hlt,BD,CR,wO,QU hlt,Cu,oO,xF,xG,lf];refine⟨AZ,AZ,⟨by simp,by simp[RX],hro,by rfl,.inl (by omega),by omega⟩,?_⟩
  have e:(ST bs id l k++m).set id (setCells (RX l k) (0+1) [AA (k+1)])=ST bs id l (k+1)++m:=by
   have:setCells (RX l k) (0+1) [AA (k+1)]=RX l (k+1):=by rfl
   grind[AKX]
  simp only[e,D0,T9 hlt,BD,EG,wO,QU hlt,xL,xM,xF,xG];refine⟨AZ,AZ,?_⟩;simp only[RX,DQ,wO,G8,Ig,Cg];refine⟨AZ,AZ,⟨AZ,AZ⟩,B9 (by omega) (by omega) ?_⟩;refine CH l.rows (row:=[.sc (.int .i64 a)]) (by omega) ?_ rfl (by omega) ?_
  .simp[*,AY]
  simp only[EG,DQ,wO,Bz,Ci,Ig,xL,xM,xF,xG];refine AG (wT a n hn hn2) ?_
  grind[AEc]
theorem Gy {bs:List (List AV)} {id:Nat} {l:Src} (hB:Nx bs id l) {m:List (List AV)} (hm:Kk bs m) {k:Nat} (hk:k<=l.length) {n:Int} (hn:0<n) (hn2:n<2 ^ 62) (L:A3) (hro:L.ro<=id) (ts:List (Nat×Nat)) :
  ∃v s',(∃r k',v=AA r/\0<=r/\r<n/\k<=k'/\k'<=l.length/\s'=⟨ST bs id l k'++m,ts⟩)/\A8 (env R) L 54 [.ptr id 0,AA n] ⟨ST bs id l k++m,ts⟩ v s':=by
 obtain⟨v,s',⟨r,k',h1,h2,h3,h4,h5,_,h6⟩,h7⟩:=Ny (R:=R) hB hm hk hn hn2 L hro ts;exact⟨v,s',⟨r,k',h1,h2,h3,h4,h5,h6⟩,h7⟩
theorem wW (l:List Int) (L:A3) (s:AM):∃v s',(v=.ptr s.bs.length 0/\s'=⟨s.bs++[RX (.of l) 0],s.ts⟩)/\A8 (env R) L 11 [.pv (.list (AY l))] s v s':=by
 refine m11 (APt ?_);simp[RX,Src.of]
end
section
variable {bs:List (List AV)} {id:Nat} {l:Src}
theorem Dz (k:Nat) (m r:List (List AV)) (j:Nat):(ST bs id l k++(m++r))[bs.length+m.length+j]?=r[j]?:=by grind[Fp]
theorem JW (k:Nat) (m r:List (List AV)):(ST bs id l k++(m++r))[bs.length+m.length]?=r[0]?:=Dz k m r 0
theorem Hy (k:Nat) (m r:List (List AV)) (j:Nat) (v:List AV):(ST bs id l k++(m++r)).set (bs.length+m.length+j) v=ST bs id l k++(m++r.set j v):=by grind[Fp]
theorem JX (k:Nat) (m r:List (List AV)) (v:List AV):(ST bs id l k++(m++r)).set (bs.length+m.length) v=ST bs id l k++(m++r.set 0 v):=Hy k m r 0 v
theorem I6 {m:List (List AV)} (hm:Kk bs m) {r:List (List AV)} (hr:∀b∈r,Ab (bs.length+m.length+r.length) b=true):Kk bs (m++r):=by
 intro b hb;rcases CM.1 hb with h|h
 .exact Bt (by simp) b (hm b h)
 grind
variable {R:Nat->Option (List PV)}
theorem iI {l:List (List UInt8)}:E6 l=[.list (Ea l)]:=rfl
theorem PI {g:Nat} {T:List (List UInt8)} (hG:(env R).G g=some (E6 T)) {s:AM} {K:AV->Prop} (h:K (.pv (.list (Ea T)))):EG (env R) s none (.DM g 0) K:=by
 simp[EG,hG,wO,DQ,iI];exact h
theorem UA:∀l:List (List UInt8),Jg (Ea l) (Ea l)=true
 | []=>by rfl
 | s::l=>by
  have:=UA l
  grind[Ea,Jg,PY,PX,Ht]
theorem wX {L:A3} {s:AM} {k:Nat} {a x:AV} {K K':AM->Prop} (hC:∀s,K s->K' s) (h:CR L s k a x K):CR L s k a x K':=by
 unfold CR at h ⊢
 grind
theorem Y6 {L:A3} {s:AM} {k:Nat} {a x:AV} {K:AM->Prop} {C:Prop} (hC:C) (h:CR L s k a x K):CR L s k a x λs=>C/\K s:=wX (λ_ h=>⟨hC,h⟩) h
theorem iJ {s:AM} {w:List UInt8} {K:AV->Prop} (h:K (SS w)):EG (env R) s none (.C8 [.sc (.string ⟨w.toArray⟩)] 0) K:=by simp[*]
theorem Y7 {T:List (List UInt8)} {r:Int} {w:List UInt8} (h0:0<=r) (hw:T[r.toNat]?=some w) {s:AM} {K:AV->Prop} (h:K (.C8 [.sc (.string ⟨w.toArray⟩)] 0)):Cl s 1 (.pv (.list (Ea T))) (AA r) K:=
 BO (.list _) (row:=[.sc (.string ⟨w.toArray⟩)]) h0 (by grind[Ea]) rfl (by omega) h
theorem RB (T:List (List UInt8)):CQ (.pv (.list (Ea T))) (.pv (.list (Ea T)))=true:=by simp[CQ,PX,UA]
end
def Short (T:List (List UInt8)):Prop:=(∀s∈T,s.length<2 ^ 60)/\0<T.length/\T.length<2 ^ 60
def QV (B:Nat) (t:Ty):Prop:=P3 t/\size t<=B
theorem QV.mono {B C:Nat} {t:Ty} (h:QV B t) (hl:B<=C):QV C t:=⟨h.1,A6 h.2 hl⟩
theorem QV.leaf {B:Nat} {k i:Int} {n:List UInt8} (hn:n.length<2 ^ 60) (hB:0<B):QV B (.mk k n i []):=by
 refine⟨?_,?_⟩
 .simp[*,P3,RN]
 assumption
def Iw (B:Nat) (l:List Ty):Prop:=RN l/\AQ l<=B
theorem Iw.nil {B:Nat}:Iw B []:=by simp[Iw,RN,AQ]
theorem Iw.cons {B C D:Nat} {t:Ty} {l:List Ty} (h:QV B t) (h':Iw C l) (hl:B+C<=D):Iw D (t::l):=by
 obtain⟨a1,a3⟩:=h;obtain⟨b1,b3⟩:=h';refine⟨⟨a1,b1⟩,?_⟩
 grind[AQ]
theorem Iw.snoc:∀{l:List Ty} {B C D:Nat} {t:Ty},Iw C l->QV B t->B+C<=D->Iw D (l++[t])
 | [],B,C,D,t,_,h,hl=>Iw.cons h Iw.nil (C:=0) (by omega)
 | u::l,B,C,D,t,h',h,hl=>by
  obtain⟨b1,b3⟩:=h';simp only[RN] at b1;simp only[AQ] at b3;have:=Iw.snoc (C:=AQ l) (D:=B+AQ l) ⟨b1.2,AN _⟩ h (AN _);exact Iw.cons (B:=size u) ⟨b1.1,AN _⟩ this (by omega)
theorem QV.node {B:Nat} {k i:Int} {n:List UInt8} {l:List Ty} (hn:n.length<2 ^ 60) (h:Iw B l):QV (B+1) (.mk k n i l):=by
 obtain⟨b1,b3⟩:=h;refine⟨?_,?_⟩
 all_goals simp[*,P3,size]
theorem ACq.CQ {lo:Nat} {ts:List (Nat×Nat)} {k:Nat} {a:AV} {es:List Ty} (h:EM lo ts k a (AP es)):Tel.CQ a a=true:=by
 rcases h with rfl|⟨t,rfl,_⟩
 all_goals simp[*,Tel.CQ,Dw]
theorem UB {l:List Ty}:∀r∈AP l,r.length=4:=λ_ h=>Gw h
abbrev T0 (k:Int) (n:List UInt8) (i:Int):AV:=.agg [AA k,SS n,AA i,.AB []]
section
variable {bs:List (List AV)} {id:Nat} {l:Src}
theorem APu {rr:Bool} {N:Nat} (hB:Nx bs id l) {m r:List (List AV)} (hm:Kk bs m) {k:Nat} {ts:List (Nat×Nat)} {Post:AV->AM->Prop} (hN:N=bs.length+m.length) {c i:Int} {n:List UInt8} {es:List Ty} {a:AV} (ha:BG a (AP es))
  (h:∀x,BM (.mk c n i es) x->Post x ⟨ST bs id l k++m,ts⟩):QM rr N Post (.agg [AA c,SS n,AA i,a]) ⟨ST bs id l k++(m++r),ts⟩:=by
 subst hN;have e:(ST bs id l k++(m++r)).take (bs.length+m.length)=ST bs id l k++m:=by grind[Fp]
 obtain⟨a',h1,h2⟩:=ha.close (ST bs id l k++(m++r)) (bs.length+m.length) ts.length;refine gT (ds:=[AA c,SS n,AA i,a']) ?_ (by simp[h1]) ?_
 .simp only[e]
  exact hB.all hm k
 .simp only[e]
  exact h _ ⟨a',rfl,h2⟩
variable {R:Nat->Option (List PV)}
theorem Y8 (hB:Nx bs id l) {m r:List (List AV)} (hm:Kk bs m) {k:Nat} {ts:List (Nat×Nat)} {Post:AV->AM->Prop} {rr:Bool} {N:Nat} {L':A3} {Z:List AV} (hZ:Z.length=4) (hN:N=bs.length+m.length) (hro:L'.ro<=id) (hn0:L'.n0=0) {c i:Int} {n:List UInt8} {es:List Ty} {a:AV} (ha:BG a (AP es))
  (h:∀x,BM (.mk c n i es) x->Post x ⟨ST bs id l k++m,ts⟩) :
  CR L' ⟨ST bs id l k++(m++Z::r),ts⟩ 4 (.ptr (bs.length+m.length) 0) (.agg [AA c,SS n,AA i,a]) λs1=>EG (env R) s1 (some 4) (.ptr (bs.length+m.length) 0) λr=>QM rr N Post r s1:=by
 have hlt:=hB.lt
 obtain⟨z0,z1,z2,z3,rfl⟩:∃z0 z1 z2 z3,Z=[z0,z1,z2,z3]:=by
  rcases Z with _|⟨a,_|⟨b,_|⟨c,_|⟨d,_|⟨e,l⟩⟩⟩⟩⟩ <;> simp at hZ
  exact⟨_,_,_,_,rfl⟩
 simp[JW,JX,show L'.ro<=bs.length+m.length by omega,hn0,ha.ok,ha.I7]
 grind[APu]
theorem UC (hB:Nx bs id l) {m r:List (List AV)} (hm:Kk bs m) {k:Nat} {ts:List (Nat×Nat)} {Post:AV->AM->Prop} {rr:Bool} {N:Nat} {L':A3} {Z:List AV} (hZ:Z.length=4) (hN:N=bs.length+m.length) (hro:L'.ro<=id) (hn0:L'.n0=0) {t:Ty} {v:AV} (hv:BM t v)
  (h:∀x,BM t x->Post x ⟨ST bs id l k++m,ts⟩) :
  CR L' ⟨ST bs id l k++(m++Z::r),ts⟩ 4 (.ptr (bs.length+m.length) 0) v λs1=>EG (env R) s1 (some 4) (.ptr (bs.length+m.length) 0) λr=>QM rr N Post r s1:=by
 obtain⟨c,n,i,es⟩:=t;obtain⟨a,rfl,ha⟩:=hv;exact Y8 hB hm hZ hN hro hn0 ha h
theorem Jt {n:List UInt8} {a:AV} {rows:List (List PV)} (ha:Av a rows):AL (env R) 26 [SS n,a] λr=>r=.agg [AA 2,SS n,AA 0,a]:=by
 refine e26 (u0:=SS n) (u1:=a) (by simp[ha.close]) (APv ?_);simp[QP,QI,ha.ok,ha.cells,ha.close]
theorem cY {a:AV} {rows:List (List PV)} (ha:Av a rows):AL (env R) 20 [a] λr=>r=.agg [AA 4,SS [],AA 0,a]:=by
 refine e20 (u0:=a) (by simp[ha.close]) (APw ?_);simp[QP,QI,ha.ok,ha.cells,ha.close]
end
def Y9 (r:List PV):Prop:=∃(name:List UInt8) (n:Nat) (rest:List PV),r=.sc (.string ⟨name.toArray⟩)::.sc (.int .i64 n)::rest/\rest.length=6/\n<=2/\name.length<2 ^ 50/\(r.map AV.pv).all A1=true
structure Decls (v:AV) (rows:List (List PV)):Prop where
 rep:BG v rows
 row:∀r∈rows,Y9 r
 len:rows.length<100
section
variable {bs:List (List AV)} {id:Nat} {l:Src} {R:Nat->Option (List PV)}
def UD (R:Nat->Option (List PV)) (bs:List (List AV)) (id:Nat) (l:Src) (dv:AV) (f:FuncId) (d:Int) (Er:Nat) (μ:Nat) (P:Nat->Ty->Prop):Prop:=∀{m:List (List AV)},Kk bs m->∀{k:Nat},k<=l.length->∀(vars:Nat),(vars:Int)+d<=90->(l.length-k)*100+Er<μ->∀(L:A3),L.ro<=id->∀(ts:List (Nat×Nat)),L.rt<=ts.length ->
  ∃v s',(∃t k' x,BM t v/\P (8*(k'-k)+1) t/\k<=k'/\k'<=l.length/\s'=⟨ST bs id l k'++m,ts++x⟩)/\A8 (env R) L f [.ptr id 0,dv,AA d,AA vars] ⟨ST bs id l k++m,ts⟩ v s'
def LP (d B:Nat) (t:Ty):Prop:=QV B t/\gq d t=true
def ZA (d B:Nat) (l:List Ty):Prop:=Iw B l/\T8 d l=true
def mB (d B:Nat) (t:Ty):Prop:=QV B t/\nz d t=true/\∃n i es,t=.mk 2 n i es
theorem mB.of {d B:Nat} {n:List UInt8} {i:Int} {es:List Ty} (h:QV B (.mk 2 n i es)) (h':nz d (.mk 2 n i es)=true):mB d B (.mk 2 n i es):=⟨h,h',_,_,_,rfl⟩
theorem mB.g {d B:Nat} {t:Ty} (h:mB d B t):LP d B t:=by
 obtain⟨h1,h2,n,i,es,rfl⟩:=h;exact⟨h1,h2⟩
def AOk (e:Int) (t:Ty):Prop:=(e<=0->size t<=1/\depth t<=1)/\(e<=1->size t<=3/\depth t<=2)
def ri (e:Int) (B:Nat) (t:Ty):Prop:=QV B t/\AOk e t
theorem ri.leaf {e:Int} {B:Nat} {k i:Int} {n:List UInt8} (hn:n.length<2 ^ 60) (hB:0<B):ri e B (.mk k n i []):=⟨QV.leaf hn hB,by simp[AOk,size,AQ,depth,CE]⟩
theorem wY {t:Ty} (h:gq 0 t=true):size t<=3/\depth t<=2:=by
 obtain⟨k,n,i,ts⟩:=t;rw[gq] at h;cases h34:k==3||k==4 with
 | true=>rw[h34] at h; cases h
 | false=>
  rw[h34] at h;cases h6:k==6 with
  | true=>rw[h6] at h; cases h
  | false=>
   rw[h6] at h;cases h2:k==2 with
   | true=>
    rw[h2] at h;simp[nz] at h;exact h
   | false=>
    rw[h2] at h;simp only[AE,Dx] at h;subst h;simp[size,AQ,depth,CE]
theorem mB.a {d B C:Nat} {t:Ty} (h:mB d B t) (h0:¬ (d:Int)<=0) (hl:B<=C):ri d C t:=by
 refine⟨h.1.mono hl,λh=>absurd h h0,λh1=>?_⟩;have:d=1:=by omega
 subst this;have:=h.2.1;simpa[nz] using this
theorem LP.a {d B C:Nat} {t:Ty} (h:LP (d-1) B t) (h0:¬ (d:Int)<=0) (hl:B<=C):ri d C t:=by
 refine⟨h.1.mono hl,λh=>absurd h h0,λh1=>?_⟩;have:d=1:=by omega
 subst this;exact wY h.2
theorem ACr {d:Nat} {n:List UInt8} {i:Int} {es:List Ty} (hl:es.length<=2) (h:∀t∈es,AOk ((d:Int)-1) t):nz d (.mk 2 n i es)=true:=by
 have gen:∀(m q:Nat) (l:List Ty),(∀t∈l,size t<=m/\depth t<=q)->AQ l<=l.length*m/\CE l<=q:=by
  intro m q l
  induction l with
  | nil=>simp[AQ,CE]
  | cons a l ih=>
   intro h;have h1:=h a (by simp);have h2:=ih λt ht=>h t (by simp[ht])
   simp only[AQ,CE,CI,Dm,Rh];omega
 by_cases h1:d<=1
 .obtain⟨q1,q2⟩:=gen 1 1 es λt ht=>(h t ht).1 (by omega)
  exact PG (by simp only[size]; omega) (by simp only[depth]; omega)
 .by_cases h2:d=2
  .obtain⟨q1,q2⟩:=gen 3 2 es λt ht=>(h t ht).2 (by omega)
   have q3:es.length*3<=6:=by omega
   subst h2;simp only[nz,size,depth];have e1:1+AQ es<=7:=by omega
   have e2:CE es+1<=3:=by omega
   simp;omega
  .have e1:(d==2)=false:=by simpa using h2
   simp[nz,h1,e1]
theorem LP.mono {d B C:Nat} {t:Ty} (h:LP d B t) (hl:B<=C):LP d C t:=⟨h.1.mono hl,h.2⟩
theorem LP.leaf {d B:Nat} {k i:Int} {n:List UInt8} (h3:(k==3||k==4)=false) (h6:(k==6)=false) (hn:n.length<2 ^ 60) (hB:0<B):LP d B (.mk k n i []):=⟨QV.leaf hn hB,by
 rw[gq,h3,h6];cases k==2 with
 | true=>exact PG (by simp[size,AQ]) (by simp[depth,CE])
 | false=>rfl⟩
theorem ZA.nil {d B:Nat}:ZA d B []:=⟨Iw.nil,by rw[T8]⟩
theorem mC (d:Nat):∀l m:List Ty,T8 d (l++m)=(T8 d l&&T8 d m)
 | [],m=>by rw[ED,T8,CU]
 | t::l,m=>by rw[Eu,T8,T8,mC d l m,Mb]
theorem ZA.snoc {l:List Ty} {d B C D:Nat} {t:Ty} (h:ZA d C l) (h':LP d B t) (hl:B+C<=D):ZA d D (l++[t]):=⟨h.1.snoc h'.1 hl,by rw[mC,h.2,T8,h'.2,T8]; rfl⟩
theorem QV.pair {B C D:Nat} {k:Int} {t u:Ty} (h:QV B t) (h':QV C u) (hl:B+C+1<=D):QV D (.mk k [] 0 [t,u]):=
 (QV.node (B:=B+C) (by simp) (Iw.cons h (Iw.cons h' Iw.nil (C:=0) (AN _)) (AN _))).mono hl
theorem LP.ex {d B C D:Nat} {t u:Ty} (hd:0<d) (h:LP 1 B t) (h':LP (d-1) C u) (hl:B+C+1<=D):LP d D (.mk 6 [] 0 [t,u]):=by
 refine⟨QV.pair h.1 h'.1 hl,?_⟩;rw[gq,gqX,T8,T8,h.2,h'.2,Aq hd];rfl
theorem LP.un {d B C D:Nat} {t u:Ty} (hd:0<d) (h:LP (d-1) B t) (h':LP (d-1) C u) (hl:B+C+1<=D):LP d D (.mk 4 [] 0 [t,u]):=by
 refine⟨QV.pair h.1 h'.1 hl,?_⟩;rw[gq,T8,T8,T8,h.2,h'.2,Aq hd];rfl
theorem LP.tup {d B:Nat} {es:List Ty} (hd:0<d) (hl:es.length<=3) (h:ZA (d-1) B es):LP d (B+1) (.mk 3 [] 0 es):=by
 refine⟨QV.node (by simp) h.1,?_⟩;rw[gq,h.2,Aq hd,Aq hl];rfl
theorem ZB {m:List (List AV)} (hm:Kk bs m):Kk bs (m++[Z4]):=I6 hm (by simp[Ab,Ai])
theorem wZ {dv:AV} {rows:List (List PV)} (hd:Decls dv rows) {r:Int} (h0:0<=r) (h1:r<rows.length):∃row,rows[r.toNat]?=some row/\Y9 row/\row.length=8:=by
 obtain⟨row,hr⟩:∃row,rows[r.toNat]?=some row:=⟨_,Ap (by omega)⟩;have h:=hd.row row (BA hr);refine⟨row,hr,h,?_⟩;obtain⟨name,n,rest,rfl,h6,_⟩:=h
 grind
theorem QW {W:List (List UInt8)} (hW:(env R).G 1=some (E6 W)) (h4:W.length=4) (sW:Short W) {r:Int} (h0:0<=r) (h1:r<4):∃w,W[r.toNat]?=some w/\w.length<2 ^ 60:=by
 obtain⟨w,hw⟩:∃w,W[r.toNat]?=some w:=⟨_,Ap (by omega)⟩;exact⟨w,hw,sW.1 w (BA hw)⟩
theorem iK (hB:Nx bs id l) {W:List (List UInt8)} (hW:(env R).G 1=some (E6 W)) (h4:W.length=4) (sW:Short W) {dv:AV} {rows:List (List PV)} (hD:Decls dv rows) (μ:Nat)
  (Y2:∀e:Int,-1<=e->e<=20->UD R bs id l dv 115 e (3*(e+1).toNat) μ (ri e)) (d:Nat) (hd:d<=20):UD R bs id l dv 83 d (3*d+1) (μ+1) (mB d):=by
 intro m hm k hk vars hvars hμ L hro ts GZ;have hlen:=hB.len;have hlt:=hB.lt
 suffices H:∀(rr:Bool) (N:Nat) (Post:AV->AM->Prop),N=bs.length+m.length->(∀t v k' x,BM t v->mB d (8*(k'-k)+1) t->k<=k'->k'<=l.length->Post v ⟨ST bs id l k'++m,ts++x⟩)->we R 0 L.ro L.rt (.ptr id 0) dv (AA d) (AA vars) ⟨ST bs id l k++m,ts⟩ (QM rr N Post) from
  m83 (by rfl) (H _ _ _ (by simp[Fp]) λt v k' x h1 h2 h3 h4=>⟨t,k',x,h1,h2,h3,h4,rfl⟩)
 intro rr N Post hN hP;have hrl:=hD.len;have g1:∀n,L.ro<=bs.length+m.length+n:=λn=>by omega
 refine APx ?_;simp only[Bw,EX,B7,Fp]
 have APy:∀(s:AM) (K:AV->Prop),K (AA rows.length)->BV s dv K:=by
  intro s K h;simp only[BV,hD.rep.BN,wO];exact h
 refine APy _ _ (CO (by omega) (by omega) ?_);refine CY (Ny (n:=(rows.length:Int)+4) hB (ZB hm) hk (by omega) (by omega) _ (by simp[*]) ts) ?_;rintro v s1 ⟨r,k1,rfl,NG,Pt,VR,hk2,Ml,rfl⟩;refine A2 ?_
 by_cases hr:r<4
 .have b4:decide (r<4)=true:=by grind
  rw[b4];obtain⟨w,hw,eD⟩:=QW hW h4 sW NG hr;refine BP (PI hW (Y7 NG hw (iJ ?_)));refine AG (Jt (.AB [])) ?_;rintro v rfl
  exact Y8 (R:=R) (Post:=Post) (rr:=rr) (N:=N) (k:=k1) (ts:=ts) (Z:=Z4) (r:=[]) (es:=[]) (a:=.AB []) (c:=2) (i:=0) (n:=w) (L':=Cu (env R) 83 0 L.ro L.rt) hB hm rfl hN hro rfl (by simp[AP]; exact .inl (.AB _)) (λx hx=>by
   have:=hP _ x k1 [] hx (mB.of (QV.leaf eD (by omega)) (PG (by simp[size,AQ]) (by simp[depth,CE]))) VR hk2
   grind)
 .have b4:decide (r<4)=false:=by grind
  rw[b4];have hkk:k<k1:=Ml (by omega);obtain⟨row,hrow,⟨name,ar,rest,rfl,h6,har,N4,hok⟩,h8⟩:=wZ hD (r:=r-4) (by omega) (by omega);refine BE (APz (Gi (by omega) (by omega) ?_));refine CH hD.rep (row:=.sc (.string ⟨name.toArray⟩)::.sc (.int .i64 ar)::rest) (by omega) hrow h8 (by omega) ?_
  have AP0:∀(s:AM) (K:AV->Prop),K (.agg ((.sc (.string ⟨name.toArray⟩)::.sc (.int .i64 ar)::rest).map AV.pv))->EG (env R) s (some 8) (.C8 (.sc (.string ⟨name.toArray⟩)::.sc (.int .i64 ar)::rest) 0) K:=by
   intro s K h;simp only[EG,DQ,Bn,h8,Ku,xL,xM,xF,xG];refine⟨by omega,?_⟩;rw[Cv (by simp[h6])];exact h
  refine AP0 _ _ ?_;simp only[Bw];have eA:∀(k:Nat) (b:List AV) (t:List (Nat×Nat)),(⟨(ST bs id l k++(m++[Z4]))++[b],t⟩:AM)=⟨ST bs id l k++(m++[Z4,b]),t⟩:=λk b t=>by simp
  have eL:(ST bs id l k1++(m++[Z4])).length=bs.length+m.length+1:=by simp[Fp]; omega
  simp only[eL,eA]
  have AP1:∀K:AM->Prop,K ⟨ST bs id l k1++(m++[Z4,(PV.sc (.string ⟨name.toArray⟩)::.sc (.int .i64 ar)::rest).map AV.pv]),ts⟩->CR (Cu (env R) 83 0 L.ro L.rt) ⟨ST bs id l k1++(m++[Z4,[(SS []),(AA 0),(AA 0),(SS []),(AA 0),(.AB []),(BB false),(.AB [])]]),ts⟩ 8 (.ptr (bs.length+m.length+1) 0) (.agg ((PV.sc (.string ⟨name.toArray⟩)::.sc (.int .i64 ar)::rest).map AV.pv)) K:=by
   intro K h;have hce:cellsOf (.agg ((PV.sc (.string ⟨name.toArray⟩)::.sc (.int .i64 ar)::rest).map AV.pv))=(PV.sc (.string ⟨name.toArray⟩)::.sc (.int .i64 ar)::rest).map AV.pv:=rfl;simp only[CR,Dz,G8,Ig,wO,hce,Bn];refine⟨⟨h8,by rw[h8]; simp,by have:=g1 1; simp[Cu]; omega,hok,.inl (by simp[Cu]),by omega⟩,?_⟩;rw[Hy]
   obtain⟨x0,x1,x2,x3,x4,x5,rfl⟩:∃x0 x1 x2 x3 x4 x5,rest=[x0,x1,x2,x3,x4,x5]:=by
    rcases rest with _|⟨a,_|⟨b,_|⟨c,_|⟨d,_|⟨e,_|⟨f,_|⟨g,r⟩⟩⟩⟩⟩⟩⟩ <;> simp at h6
    simp
   simp_all
  refine AP1 _ ?_;generalize hDB:(PV.sc (.string ⟨name.toArray⟩)::.sc (.int .i64 ar)::rest).map AV.pv=DB;have AVr:DB[0]?=some (SS name):=by rw[<-hDB]; rfl
  have AKY:DB[1]?=some (AA ar):=by rw[<-hDB]; rfl
  have hDBi:∀n,Ab n DB=true:=by
   intro n;rw[<-hDB];clear hDB AP0 AP1 hok h8 hrow AVr AKY;generalize (PV.sc (.string ⟨name.toArray⟩)::.sc (.int .i64 ar)::rest)=R0
   induction R0 with
   | nil=>rfl
   | cons p R0 ih=>assumption
  have hDBn:DB≠[]:=by intro e; simp_all
  have alD:∀(k:Nat) (b:List AV) (t:List (Nat×Nat)),alive ⟨ST bs id l k++(m++Z4::DB::[b]),t⟩ (bs.length+m.length+1)=true:=by
   intro k b t
   obtain⟨c,r,hc⟩:∃c r,DB=c::r:=by
    cases DB with
    | nil=>grind
    | cons c r=>simp
   simp[*,Dz]
  have AVs:∀(K:AV->Prop),K (.ptr (bs.length+m.length+1) 0)->BD ⟨ST bs id l k1++(m++[Z4,DB]),ts⟩ (.ptr (bs.length+m.length+1) 0) 0 K:=by simp_all[Dz]
  have ld0:∀(K:AV->Prop),K (SS name)->EG (env R) ⟨ST bs id l k1++(m++[Z4,DB]),ts⟩ none (.ptr (bs.length+m.length+1) 0) K:=by simp[*,Dz]
  refine AVs _ (ld0 _ ?_);refine NM (cs:=[AA 2,SS name,AA 0,.AB []]) (by simp) ?_;have eA2:∀(k:Nat) (b:List AV) (t:List (Nat×Nat)),(⟨(ST bs id l k++(m++[Z4,DB]))++[b],t⟩:AM)=⟨ST bs id l k++(m++[Z4,DB,b]),t⟩:=λk b t=>by simp
  have eL2:(ST bs id l k1++(m++[Z4,DB])).length=bs.length+m.length+2:=by simp[Fp]; omega
  simp only[eL2,eA2];have AVt:∀K:AM->Prop,K ⟨ST bs id l k1++(m++[Z4,DB,[AA 2,SS name,AA 0,.AB []]]),ts⟩->CR (Cu (env R) 83 0 L.ro L.rt) ⟨ST bs id l k1++(m++[Z4,DB,Z4]),ts⟩ 4 (.ptr (bs.length+m.length+2) 0) (.agg [AA 2,SS name,AA 0,.AB []]) K:=by simp[*,Dz,Hy]
  refine AVt _ ?_
  have loop:∀(j q k2:Nat) (x:List (Nat×Nat)) (a:AV) (es:List Ty),q+j=ar->k1<=k2->k2<=l.length->es.length=q->(∀t∈es,AOk ((d:Int)-1) t)->Iw (8*(k2-k1)+q) es->EM ts.length (ts++x) 25 a (AP es) ->
    mD R 0 L.ro L.rt (.ptr id 0) dv (AA d) (AA vars) (.ptr (bs.length+m.length) 0) (.ptr (bs.length+m.length+1) 0) (.ptr (bs.length+m.length+2) 0) (AA q) ⟨ST bs id l k2++(m++[Z4,DB,[AA 2,SS name,AA 0,a]]),ts++x⟩ (QM rr N Post):=by
   intro j
   induction j with
   | zero=>
    intro q k2 x a es hq AKZ iL hes hez hqs ha;have ho:=ha.A9;refine AEd ⟨alD _ _ _,?_⟩;simp only[EG,Dz,G8,Ig,wO,DQ,Cg,AKY,xL,xM,xF,xG];refine A2 ?_;have h1:¬ ((q:Int)<ar):=by omega
    simp only[h1,XV];refine BE (AP2 ?_);have:=Y8 (R:=R) (Post:=Post) (rr:=rr) (N:=N) (k:=k2) (ts:=ts++x) (Z:=Z4) (r:=[DB,[AA 2,SS name,AA 0,a]]) (L':=Cu (env R) 83 0 L.ro L.rt) hB hm rfl hN hro rfl ho (c:=2) (i:=0) (n:=name) (λy hy=>hP _ y k2 x hy (mB.of ((QV.node (by omega) hqs).mono (by omega)) (ACr (by omega) hez)) (by omega) iL);simpa[EG,wO,DQ,Dz] using this
   | succ j Et=>
    intro q k2 x a es hq AKZ iL hes hez hqs ha;have ho:=ha.A9;refine AEd ⟨alD _ _ _,?_⟩;simp only[EG,Dz,G8,Ig,wO,DQ,Cg,AKY,xL,xM,xF,xG];refine A2 ?_;have h1:((q:Int)<ar):=by omega
    simp only[h1,decide_true];refine BP (AP3 ?_)
    have hm2:Kk bs (m++[Z4,DB,[AA 2,SS name,AA 0,a]]):=I6 hm (by
     intro b hb;simp only[Az,Ex,Ey] at hb;rcases hb with rfl|rfl|rfl
     .rfl
     .simp[*]
     .simp[Ab,Ai,ho.Ai])
    simp[Dz,JW,Hy,JX];refine B9 (by omega) (by omega) ?_;refine CY (Y2 ((d:Int)-1) (by omega) (by omega) hm2 iL vars (by omega) (by omega) (Cu (env R) 83 0 L.ro L.rt) hro (ts++x) (by simp[Cu]; omega)) ?_;rintro v s1 ⟨t,k3,x2,hv,hqn,MD,ZX,rfl⟩;obtain⟨c1,n1,i1,es1⟩:=t;obtain⟨b,rfl,hb⟩:=hv;simp[Dc,Fz,hb.ok,hb.Ja,Dz,JW,Hy,JX];have hrow:CD 4 1 [PV.sc (.int .i64 c1),.sc (.string ⟨n1.toArray⟩),.sc (.int .i64 i1),.list (AP es1)]=[Aa (.mk c1 n1 i1 es1)]:=by rfl
    rw[hrow]
    have S1:EM ts.length (ts++(x++x2)) 25 a (AP es):=by
     rw[<-EX];exact ha.grow
    refine MG S1 GZ (λr hr=>UB r hr) (Ad _) (by omega) (Ct _) (by simp[AR]; omega) (by simp[AR]; omega) ?_;intro a' x' Jb;have ho':=Jb.A9;have:=g1 2;simp[Dz,JW,Hy,JX,ho'.ok,ho'.cells,ho'.I7,this];refine⟨by simp[CQ],?_,?_⟩
    .simpa[ACq.CQ] using ACq.CQ ha
    refine AP4 (CO (by omega) (by omega) ?_);have ha3:EM ts.length (ts++x') 25 a' (AP (es++[.mk c1 n1 i1 es1])):=by simp[*,E8,AP]
    have:=Et (q+1) k3 x' a' (es++[.mk c1 n1 i1 es1]) (by omega) (by omega) ZX (by simp[*]) (λt ht=>by
     rcases CM.1 ht with ht|ht
     .exact hez t ht
     .rw[DF.1 ht]
      exact hqn.2) (Iw.snoc hqs hqn.1 (by omega)) ha3
    grind
  have:=loop ar 0 k1 [] (.AB []) [] (by omega) (AN _) hk2 rfl (λt ht=>by cases ht) Iw.nil (.inl (by rfl))
  grind
end
section
variable {bs:List (List AV)} {id:Nat} {l:Src} {R:Nat->Option (List PV)}
theorem wh (hB:Nx bs id l) {W:List (List UInt8)} (hW:(env R).G 1=some (E6 W)) (h4:W.length=4) (sW:Short W) {dv:AV} (μ:Nat)
  (ihn:∀d:Nat,d<=20->UD R bs id l dv 83 d (3*d+1) μ (mB d)) (iht:∀d:Nat,d<=20->UD R bs id l dv 41 d (3*d+2) μ (LP d)) (e:Int) (he:-1<=e) (he2:e<=20):UD R bs id l dv 115 e (3*(e+1).toNat) (μ+1) (ri e):=by
 intro m hm k hk vars hvars hμ L hro ts GZ;have hlen:=hB.len;have hlt:=hB.lt
 suffices H:∀(rr:Bool) (N:Nat) (Post:AV->AM->Prop),N=bs.length+m.length->(∀t v k' x,BM t v->ri e (8*(k'-k)+1) t->k<=k'->k'<=l.length->Post v ⟨ST bs id l k'++m,ts++x⟩)->iM R 0 L.ro L.rt (.ptr id 0) dv (AA e) (AA vars) ⟨ST bs id l k++m,ts⟩ (QM rr N Post) from
  AVw (by rfl) (H _ _ _ (by simp[Fp]) λt v k' x h1 h2 h3 h4=>⟨t,k',x,h1,h2,h3,h4,rfl⟩)
 intro rr N Post hN hP;have hm':=ZB hm
 have fin:∀(k1:Nat) (x:List (Nat×Nat)) (t:Ty) (v:AV),BM t v->ri e (8*(k1-k)+1) t->k<=k1->k1<=l.length->CR (Cu (env R) 115 0 L.ro L.rt) ⟨ST bs id l k1++(m++[Z4]),ts++x⟩ 4 (.ptr (bs.length+m.length) 0) v λs1=>EG (env R) s1 (some 4) (.ptr (bs.length+m.length) 0) λr=>QM rr N Post r s1:=
  λk1 x t v hv hb h1 h2=>UC (R:=R) (Post:=Post) (rr:=rr) (N:=N) (k:=k1) (ts:=ts++x) (Z:=Z4) (r:=[]) (L':=Cu (env R) 115 0 L.ro L.rt) hB hm rfl hN hro rfl hv (λy hy=>hP t y k1 x hy hb h1 h2)
 have cZ:∀(k1:Nat) (t:Ty) (v:AV),BM t v->ri e (8*(k1-k)+1) t->k<=k1->k1<=l.length->CR (Cu (env R) 115 0 L.ro L.rt) ⟨ST bs id l k1++(m++[Z4]),ts⟩ 4 (.ptr (bs.length+m.length) 0) v λs1=>EG (env R) s1 (some 4) (.ptr (bs.length+m.length) 0) λr=>QM rr N Post r s1:=by
  intro k1 t v hv hb h1 h2;have:=fin k1 [] t v hv hb h1 h2
  grind
 refine AKc ?_;simp only[Bw,EX,B7,Fp];refine CY (Gy (n:=6) hB hm' hk (by omega) (by omega) _ (by assumption) ts) ?_;rintro v s1 ⟨r,k1,rfl,NG,Pt,VR,hk2,rfl⟩;have mu1:(l.length-k1)*100<=(l.length-k)*100:=CJ _ (by omega);have rest:Cb .i64 .leq (AA e) (AA 0) λa25=>
 AO a25 (
 EG (env R) ⟨ST bs id l k1++(m++[Z4]),ts⟩ none (.DM 1 0) λa26=>
 EK (env R) (Cu (env R) 115 0 L.ro L.rt) (.func (.func 54) [] []) [(.ptr id 0),(AA 4)] ⟨ST bs id l k1++(m++[Z4]),ts⟩ λa28 ACs=>
 Cl ACs 1 a26 a28 λa29=>
 EG (env R) ACs none a29 λa30=>
 EK (env R) (Cu (env R) 115 0 L.ro L.rt) (.func (.func 26) [] []) [a30,(.AB [])] ACs λa31 gN=>
 CR (Cu (env R) 115 0 L.ro L.rt) gN 4 (.ptr (bs.length+m.length) 0) a31 λAEe=>
(EG (env R) ACs none (.DM 1 0) λv=>CQ v a26=true) /\
 EG (env R) AEe (some 4) (.ptr (bs.length+m.length) 0) λAVx=>
 QM rr N Post AVx AEe) (
 Cb .i64 .lss (AA r) (AA 4) λa34=>
 AO a34 (
 EK (env R) (Cu (env R) 115 0 L.ro L.rt) (.func (.func 83) [] []) [(.ptr id 0),dv,(AA e),(AA vars)] ⟨ST bs id l k1++(m++[Z4]),ts⟩ λa39 AP5=>
 CR (Cu (env R) 115 0 L.ro L.rt) AP5 4 (.ptr (bs.length+m.length) 0) a39 λAEf=>
 EG (env R) AEf (some 4) (.ptr (bs.length+m.length) 0) λAVy=>
 QM rr N Post AVy AEf) (
 iP R 0 L.ro L.rt (.ptr id 0) dv (AA e) (.ptr (bs.length+m.length) 0) ⟨ST bs id l k1++(m++[Z4]),ts⟩ (QM rr N Post))):=by
  refine YY ?_
  by_cases h0:e<=0
  .have b0:decide (e<=0)=true:=by grind
   rw[b0];refine BP (PI hW ?_);refine CY (Gy (n:=4) hB hm' hk2 (by omega) (by omega) _ (by assumption) ts) ?_;rintro v s1 ⟨r2,k2,rfl,wj,hr4,Ml,MD,rfl⟩;obtain⟨w,hw,eD⟩:=QW hW h4 sW wj hr4;refine Y7 wj hw (iJ ?_);refine AG (Jt (.AB [])) ?_;rintro v rfl;exact Y6 (PI hW (RB W)) (cZ k2 (.mk 2 w 0 []) _ ⟨_,rfl,by simp[AP]; exact .inl (.AB _)⟩ (ri.leaf eD (by omega)) (by omega) MD)
  .have b0:decide (e<=0)=false:=by grind
   rw[b0];obtain⟨d,rfl⟩:=jU (show 0<=e by omega);refine BE (A2 ?_);cases b4:decide (r<4) with
   | true=>
    refine BP ?_;refine CY (ihn d (by omega) hm' hk2 vars (by omega) (by omega) (Cu (env R) 115 0 L.ro L.rt) hro ts (by assumption)) ?_;rintro v s1 ⟨t,k3,x,hv,hb,Ml,MD,rfl⟩;exact fin k3 x t v hv (hb.a h0 (by omega)) (by omega) MD
   | false=>
    refine BE (AKd (Gi (by omega) (by omega) ?_));have e3:((d:Nat):Int)-1=((d-1:Nat):Int):=by omega
    rw[e3];refine CY (iht (d-1) (by omega) hm' hk2 0 (by omega) (by omega) (Cu (env R) 115 0 L.ro L.rt) hro ts (by assumption)) ?_;rintro v s1 ⟨t,k3,x,hv,hb,Ml,MD,rfl⟩;exact fin k3 x t v hv (hb.a h0 (by omega)) (by omega) MD
 refine A2 ?_;cases b2:decide (r<2) with
 | false=>exact J7 (by simp) (J7 (by simp) (pk (BE rest)))
 | true=>
  refine Ax (Ax (JS (pk ?_)))
  by_cases Su:vars=0
  .have b0:decide ((vars:Int)>0)=false:=by grind
   grind[BE]
  .have b0:decide ((vars:Int)>0)=true:=by grind
   rw[b0];refine BP ?_;refine CY (Gy (n:=vars) hB hm' hk2 (by omega) (by omega) _ (by assumption) ts) ?_;rintro v s1 ⟨r2,k2,rfl,wj,hr4,Ml,MD,rfl⟩;refine AG (PC r2) ?_;rintro v rfl;exact cZ k2 (.mk 5 [] r2 []) _ ⟨_,rfl,by simp[AP]; exact .inl (.AB _)⟩ (ri.leaf (by simp) (by omega)) (by omega) MD
end
section
variable {bs:List (List AV)} {id:Nat} {l:Src} {R:Nat->Option (List PV)}
theorem UE:AL (env R) 53 [] λr=>r=T0 0 [] 0:=by
 refine e53 (by simp) (AP6 ?_);simp[QP,QI]
theorem iQ:AL (env R) 80 [] λr=>r=T0 1 [] 0:=by
 refine e80 (by simp) (AP7 ?_);simp[QP,QI]
theorem ZC {k1 i1 k2 i2:Int} {n1 n2:List UInt8} {a1 a2:AV} {AEh AEi:List (List PV)} (h1:BG a1 AEh) (h2:BG a2 AEi) :
  AL (env R) 52 [.agg [AA k1,SS n1,AA i1,a1],.agg [AA k2,SS n2,AA i2,a2]] λr=>r=.agg [AA 6,SS [],AA 0,.AB [[.sc (.int .i64 k1),.sc (.string ⟨n1.toArray⟩),.sc (.int .i64 i1),.list AEh],[.sc (.int .i64 k2),.sc (.string ⟨n2.toArray⟩),.sc (.int .i64 i2),.list AEi]]]:=by
 obtain⟨b1,c1,r1⟩:=h1.closed ([]:List (List AV)) 0;obtain⟨b2,c2,r2⟩:=h2.closed ([]:List (List AV)) 0;refine e52 (u0:=.agg [AA k1,SS n1,AA i1,b1]) (u1:=.agg [AA k2,SS n2,AA i2,b2]) (by simp[*]) (AP8 ?_);simp[QP,QI,r1.ok,r2.ok,r1.Ja,r2.Ja,Dc,Fz,CD]
theorem BM.self {t:Ty} {v:AV} (h:BM t v):CQ v v=true:=by
 obtain⟨k,n,i,ts⟩:=t;obtain⟨a,rfl,ha⟩:=h
 grind[CQ,Kz,PX,F5,Ht,BG.CQ]
theorem LQ {t u:Ty} {x y:AV} (h:BM t x) (h':BM u y):AL (env R) 52 [x,y] λr=>BM (.mk 6 [] 0 [t,u]) r:=by
 obtain⟨k,n,i,ts⟩:=t;obtain⟨k',n',i',ts'⟩:=u;obtain⟨a,rfl,ha⟩:=h;obtain⟨a',rfl,Jb⟩:=h';obtain⟨v,hv,hc⟩:=ZC (R:=R) (k1:=k) (i1:=i) (k2:=k') (i2:=i') (n1:=n) (n2:=n') ha Jb;exact⟨v,⟨_,hv,by simp[AP,Aa]; exact .inl (.AB _)⟩,hc⟩
theorem cj {t u:Ty} {x y:AV} (h:BM t x) (h':BM u y) (s:AM) (K:AV->AM->Prop) (hK:K (.AB (AP [t,u])) s):Dc false s 4 [(AA 0),(SS []),(AA 0),(.AB [])] 2 [(0,4,x),(4,4,y)] K:=by
 obtain⟨k,n,i,ts⟩:=t;obtain⟨k',n',i',ts'⟩:=u;obtain⟨a,rfl,ha⟩:=h;obtain⟨a',rfl,Jb⟩:=h';simp[Dc,Fz,CD,ha.ok,ha.Ja,Jb.ok,Jb.Ja]
 assumption
theorem pF (hB:Nx bs id l) {W:List (List UInt8)} (hW:(env R).G 1=some (E6 W)) (h4:W.length=4) (sW:Short W) {dv:AV} (μ:Nat)
  (ihn:∀d:Nat,d<=20->UD R bs id l dv 83 d (3*d+1) μ (mB d)) (iht:∀d:Nat,d<=20->UD R bs id l dv 41 d (3*d+2) μ (LP d)) (d:Nat) (hd:d<=20):UD R bs id l dv 41 d (3*d+2) (μ+1) (LP d):=by
 intro m hm k hk vars hvars hμ L hro ts GZ;have hlen:=hB.len;have hlt:=hB.lt
 suffices H:∀(rr:Bool) (N:Nat) (Post:AV->AM->Prop),N=bs.length+m.length->(∀t v k' x,BM t v->LP d (8*(k'-k)+1) t->k<=k'->k'<=l.length->Post v ⟨ST bs id l k'++m,ts++x⟩)->wk R 0 L.ro L.rt (.ptr id 0) dv (AA d) (AA vars) ⟨ST bs id l k++m,ts⟩ (QM rr N Post) from
  m41 (by simp[Bb,Ep]) (H _ _ _ (by simp[Fp]) λt v k' x h1 h2 h3 h4=>⟨t,k',x,h1,h2,h3,h4,rfl⟩)
 intro rr N Post hN hP;have hm':=ZB hm;have g1:∀n,L.ro<=bs.length+m.length+n:=λn=>by omega
 have fin:∀(k1:Nat) (x:List (Nat×Nat)) (r:List (List AV)) (t:Ty) (v:AV),BM t v->LP d (8*(k1-k)+1) t->k<=k1->k1<=l.length->CR (Cu (env R) 41 0 L.ro L.rt) ⟨ST bs id l k1++(m++Z4::r),ts++x⟩ 4 (.ptr (bs.length+m.length) 0) v λs1=>EG (env R) s1 (some 4) (.ptr (bs.length+m.length) 0) λr=>QM rr N Post r s1:=
  λk1 x r t v hv hb h1 h2=>UC (R:=R) (Post:=Post) (rr:=rr) (N:=N) (k:=k1) (ts:=ts++x) (Z:=Z4) (r:=r) (L':=Cu (env R) 41 0 L.ro L.rt) hB hm rfl hN hro rfl hv (λy hy=>hP t y k1 x hy hb h1 h2)
 have cZ:∀(k1:Nat) (r:List (List AV)) (t:Ty) (v:AV),BM t v->LP d (8*(k1-k)+1) t->k<=k1->k1<=l.length->CR (Cu (env R) 41 0 L.ro L.rt) ⟨ST bs id l k1++(m++Z4::r),ts⟩ 4 (.ptr (bs.length+m.length) 0) v λs1=>EG (env R) s1 (some 4) (.ptr (bs.length+m.length) 0) λr=>QM rr N Post r s1:=by
  intro k1 r t v hv hb h1 h2;have:=fin k1 [] r t v hv hb h1 h2;simpa using this
 have rt':∀x:List (Nat×Nat),(Cu (env R) 41 0 L.ro L.rt).rt<=(ts++x).length:=λx=>by simp[Cu]; omega
 have mu:∀k1,k<=k1->(l.length-k1)*100<=(l.length-k)*100:=λk1 h=>CJ _ (by omega)
 have mus:∀k1,k<k1->k1<=l.length->(l.length-k1)*100+100<=(l.length-k)*100:=λk1 h h'=>by
  have:(l.length-k1+1)*100<=(l.length-k)*100:=CJ _ (by omega);omega
 have ACt:∀k1,k<=k1->k1<=l.length->EK (env R) (Cu (env R) 41 0 L.ro L.rt) (.func (.func 83) [] []) [(.ptr id 0),dv,(AA d),(AA vars)] ⟨ST bs id l k1++(m++[Z4]),ts⟩ λa48 AVz=>
   CR (Cu (env R) 41 0 L.ro L.rt) AVz 4 (.ptr (bs.length+m.length) 0) a48 λAP9=>EG (env R) AP9 (some 4) (.ptr (bs.length+m.length) 0) λr=>QM rr N Post r AP9:=by
  intro k1 h1 h2;refine CY (ihn d hd hm' h2 vars hvars (by have:=mu k1 h1; omega) (Cu (env R) 41 0 L.ro L.rt) hro ts (by simpa[Cu] using GZ)) ?_;rintro v s1 ⟨t,k3,x,hv,hb,Ml,MD,rfl⟩;exact fin k3 x [] t v hv (hb.g.mono (by omega)) (by omega) MD
 have last:∀k1,0<d->k<k1->k1<=l.length->iR R 0 L.ro L.rt (.ptr id 0) (.ptr (bs.length+m.length) 0) ⟨ST bs id l k1++(m++[Z4]),ts⟩ (QM rr N Post):=by
  intro k1 ou h1 h2;refine AKe ?_;refine CY (Gy (n:=4) hB hm' h2 (by omega) (by omega) _ (by simp[*]) ts) ?_;rintro v s1 ⟨r2,k2,rfl,wj,hr4,Ml,MD,rfl⟩;refine Bd ?_;cases (r2==0) with
  | true=>
   refine BP ?_;refine AG iQ ?_;rintro v rfl;exact cZ k2 [] (.mk 1 [] 0 []) _ ⟨_,rfl,by simp[AP]; exact .inl (.AB _)⟩ (LP.leaf rfl rfl (by simp) (by omega)) (by omega) MD
  | false=>
   refine BE (AKf ?_);refine AG UE ?_;rintro v rfl;refine AG (PC 0) ?_;rintro v rfl
   have N3:∀(s:AM) (K:AV->AM->Prop),K (.AB (AP [.mk 5 [] 0 []])) s->Dc false s 4 [(AA 0),(SS []),(AA 0),(.AB [])] 1 [(0,4,T0 5 [] 0)] K:=by
    intro s K hK;simp[Dc,Fz,CD];simpa[AP,Aa] using hK
   refine N3 _ _ ?_;refine AG (Jt (.AB _)) ?_;rintro v rfl;refine AG (LQ (t:=.mk 0 [] 0 []) (u:=.mk 2 [66,111,120] 0 [.mk 5 [] 0 []]) ⟨_,rfl,by simp[AP]; exact .inl (.AB _)⟩ ⟨_,rfl,.inl (.AB _)⟩) ?_;intro v hv;refine cZ k2 [] _ _ hv ?_ (by omega) MD;exact LP.ex (B:=1) (C:=2) ou (LP.leaf rfl rfl (by simp) (by omega)) ((mB.of (QV.node (B:=1) (by simp) (Iw.cons (B:=1) (C:=0) (QV.leaf (by simp) (by omega)) Iw.nil (by omega))) (PG (by simp[size,AQ]) (by simp[depth,CE]))).g) (by omega)
 have AQA:∀(k1:Nat) (x:List (Nat×Nat)) (tb:Ty) (vb:List AV),BM tb (.agg vb)->vb.length=4->(vb.all A1)=true->(∀n,Ab n vb=true)->0<d->k<k1->k1<=l.length->LP 1 (8*(k1-k)-7) tb ->
   mE R 0 L.ro L.rt (.ptr id 0) dv (AA d) (AA vars) (.ptr (bs.length+m.length) 0) (.ptr (bs.length+m.length+1) 0) ⟨ST bs id l k1++(m++[Z4,vb]),ts++x⟩ (QM rr N Post):=by
  intro k1 x tb vb Iv hv4 hok fD ou h1 h2 hsz;have hld:∀(k:Nat) (t:List (Nat×Nat)) (K:AV->Prop),K (.agg vb)->EG (env R) ⟨ST bs id l k++(m++[Z4,vb]),t⟩ (some 4) (.ptr (bs.length+m.length+1) 0) K:=by simp[*,Dz,Cv]
  refine AQB (hld _ _ _ (Gi (by omega) (by omega) (CO (by omega) (by omega) ?_)));have e3:((d:Nat):Int)-1=((d-1:Nat):Int):=by omega
  have e4:((vars:Nat):Int)+1=((vars+1:Nat):Int):=by omega
  rw[e3,e4]
  have hm2:Kk bs (m++[Z4,vb]):=I6 hm (by
   intro b hb;simp only[Az,Ex,Ey] at hb;rcases hb with rfl|rfl
   all_goals simp[*,Ab,Ai])
  refine CY (iht (d-1) (by omega) hm2 h2 (vars+1) (by omega) (by omega) (Cu (env R) 41 0 L.ro L.rt) hro (ts++x) (rt' x)) ?_;rintro v s1 ⟨t,k3,x3,hv,hb,Ml,MD,rfl⟩;refine AG (LQ Iv hv) ?_;intro w hw;refine Y6 (hld _ _ _ Iv.self) ?_;rw[EX];refine fin k3 (x++x3) [vb] _ w hw ?_ (by omega) MD;exact LP.ex ou hsz hb (by omega)
 have loop:∀(k1 cnt:Nat),0<d->k<k1->k1<=l.length->cnt<=3->∀(j q k2:Nat) (x:List (Nat×Nat)) (a:AV) (es:List Ty),q+j=cnt->k1<=k2->k2<=l.length->es.length=q->ZA (d-1) (8*(k2-k1)+q) es->EM ts.length (ts++x) 25 a (AP es) ->
   mF R 0 L.ro L.rt (.ptr id 0) dv (AA d) (AA vars) (.ptr (bs.length+m.length) 0) (.ptr (bs.length+m.length+1) 0) (AA cnt) (AA q) ⟨ST bs id l k2++(m++[Z4,[AA 3,SS [],AA 0,a]]),ts++x⟩ (QM rr N Post):=by
  intro k1 cnt ou VR hk2 U7 j
  induction j with
  | zero=>
   intro q k2 x a es hq AKZ iL hes hqs ha;have ho:=ha.A9;refine AEj (A2 ?_);have h1:¬ ((q:Int)<cnt):=by omega
   simp only[h1,XV];refine BE (AKg ?_);have:=fin k2 x [[AA 3,SS [],AA 0,a]] (.mk 3 [] 0 es) (.agg [AA 3,SS [],AA 0,a]) ⟨a,rfl,ho⟩ ((LP.tup ou (by omega) hqs).mono (by omega)) (by omega) iL;simpa[EG,wO,DQ,Dz] using this
  | succ j Et=>
   intro q k2 x a es hq AKZ iL hes hqs ha;have ho:=ha.A9;refine AEj (A2 ?_);have h1:((q:Int)<cnt):=by omega
   simp only[h1,decide_true];refine BP (AKh ?_);have hm2:Kk bs (m++[Z4,[AA 3,SS [],AA 0,a]]):=I6 hm (by simp[Ab,Ai,ho.Ai]);simp[Dz,JW,Hy,JX];refine B9 (by omega) (by omega) ?_;have e3:((d:Nat):Int)-1=((d-1:Nat):Int):=by omega
   rw[e3];refine CY (iht (d-1) (by omega) hm2 iL vars (by omega) (by omega) (Cu (env R) 41 0 L.ro L.rt) hro (ts++x) (rt' x)) ?_;rintro v s1 ⟨t,k3,x2,hv,hqn,MD,ZX,rfl⟩;obtain⟨c1,n1,i1,es1⟩:=t;obtain⟨b,rfl,hb⟩:=hv;simp[Dc,Fz,hb.ok,hb.Ja,Dz,JW,Hy,JX];have hrow:CD 4 1 [PV.sc (.int .i64 c1),.sc (.string ⟨n1.toArray⟩),.sc (.int .i64 i1),.list (AP es1)]=[Aa (.mk c1 n1 i1 es1)]:=by rfl
   rw[hrow]
   have S1:EM ts.length (ts++(x++x2)) 25 a (AP es):=by
    rw[<-EX];exact ha.grow
   refine MG S1 GZ (λr hr=>UB r hr) (Ad _) (by omega) (Ct _) (by simp[AR]; omega) (by simp[AR]; omega) ?_;intro a' x' Jb;have ho':=Jb.A9;have:=g1 1;simp[Dz,JW,Hy,JX,ho'.ok,ho'.cells,ho'.I7,this];refine⟨by simp[CQ],?_,?_⟩
   .simpa[ACq.CQ] using ACq.CQ ha
   refine AKi (CO (by omega) (by omega) ?_)
   have ha3:EM ts.length (ts++x') 25 a' (AP (es++[.mk c1 n1 i1 es1])):=by
    rw[E8];simpa[AP] using Jb
   have:=Et (q+1) k3 x' a' (es++[.mk c1 n1 i1 es1]) (by omega) (by omega) ZX (by simp; omega) (ZA.snoc hqs hqn (by omega)) ha3;simpa using this
 have AV0:∀(k1:Nat) (r:Int),0<=r->k<=k1->k1<=l.length->(r≠0->k<k1)->(5<r->0<d)->mG R 0 L.ro L.rt (.ptr id 0) dv (AA d) (AA vars) (.ptr (bs.length+m.length) 0) (AA r) ⟨ST bs id l k1++(m++[Z4]),ts⟩ (QM rr N Post):=by
  intro k1 r h0r h1 h2 hkk hd5
  have c7:∀B:Bool,(r=10\/r=11->B=true)->(B=true->r=10\/r=11)->9<r->mH R 0 L.ro L.rt (.ptr id 0) dv (AA d) (AA vars) (.ptr (bs.length+m.length) 0) (AA r) (BB B) ⟨ST bs id l k1++(m++[Z4]),ts⟩ (QM rr N Post):=by
   intro B hB1 hB2 h9;have ou:=hd5 (by omega);have hk0:=hkk (by omega);have eL:∀k,(ST bs id l k++(m++[Z4])).length=bs.length+m.length+1:=λk=>by simp[Fp]; omega
   have eA:∀(k:Nat) (b:List AV) (t:List (Nat×Nat)),(⟨(ST bs id l k++(m++[Z4]))++[b],t⟩:AM)=⟨ST bs id l k++(m++[Z4,b]),t⟩:=λk b t=>by simp
   have st4:∀(k:Nat) (t:List (Nat×Nat)) (z b:List AV),z.length=4->b.length=4->(b.all A1)=true->∀K:AM->Prop,K ⟨ST bs id l k++(m++[Z4,b]),t⟩->CR (Cu (env R) 41 0 L.ro L.rt) ⟨ST bs id l k++(m++[Z4,z]),t⟩ 4 (.ptr (bs.length+m.length+1) 0) (.agg b) K:=by
    intro k t z b hz hb hok K hK;have hce:cellsOf (.agg b)=b:=rfl;simp only[CR,Dz,G8,Ig,wO,hce];refine⟨⟨hb,by omega,by have:=g1 1; simp[Cu]; omega,hok,.inl (by simp[Cu]),by omega⟩,?_⟩;rw[Hy]
    have:setCells z 0 b=b:=by
     obtain⟨z0,z1,z2,z3,rfl⟩:∃z0 z1 z2 z3,z=[z0,z1,z2,z3]:=by
      rcases z with _|⟨a,_|⟨b,_|⟨c,_|⟨d,_|⟨e,l⟩⟩⟩⟩⟩ <;> simp at hz
      exact⟨_,_,_,_,rfl⟩
     obtain⟨b0,b1,b2,b3,rfl⟩:∃z0 z1 z2 z3,b=[z0,z1,z2,z3]:=by
      rcases b with _|⟨a,_|⟨b,_|⟨c,_|⟨d,_|⟨e,l⟩⟩⟩⟩⟩ <;> simp at hb
      exact⟨_,_,_,_,rfl⟩
     simp[setCells]
    rw[this];exact hK
   refine AQC ?_;cases B with
   | true=>
    refine BP ?_;refine NM (cs:=[AA 3,SS [],AA 0,.AB []]) (by simp) ?_;simp only[Bw,eL,eA];refine st4 _ _ _ _ rfl rfl (by rfl) _ ?_;have hm2:Kk bs (m++[Z4,[AA 3,SS [],AA 0,.AB []]]):=I6 hm (by simp[Ab,Ai]);refine CY (Gy (n:=4) hB hm2 h2 (by omega) (by omega) _ (by simp[*]) ts) ?_;rintro v s1 ⟨r2,k2,rfl,wj,hr4,Ml,MD,rfl⟩;obtain⟨j,rfl⟩:=jU wj;have:=loop k2 j ou (by omega) MD (by omega) j 0 k2 [] (.AB []) [] (by omega) (AN _) MD rfl ZA.nil (.inl (by rfl))
    grind
   | false=>
    refine BE (Bd ?_);cases b12:(r==12) with
    | true=>
     refine BP ?_;refine AG UE ?_;rintro v rfl;simp only[Bw,eL,eA];refine st4 _ _ _ _ rfl rfl (by rfl) _ ?_;have hm2:Kk bs (m++[Z4,[AA 0,SS [],AA 0,.AB []]]):=I6 hm (by simp[Ab,Ai]);refine CY (Gy (n:=2) hB hm2 h2 (by omega) (by omega) _ (by simp[*]) ts) ?_;rintro v s1 ⟨r2,k2,rfl,wj,hr4,Ml,MD,rfl⟩;refine Bd ?_;cases (r2==1) with
     | true=>
      refine BP ?_;have e1:(AA (1:Int))=AA ((1:Nat):Int):=rfl;have e0:(AA (0:Int))=AA ((0:Nat):Int):=rfl;refine CY (iht 1 (by omega) hm2 MD 0 (by omega) (by omega) (Cu (env R) 41 0 L.ro L.rt) hro ts (by simp[*])) ?_;rintro v s1 ⟨t,k3,x,hv,hb,ZX,YN,rfl⟩;have Lj:=hv;obtain⟨c1,n1,i1,es1⟩:=t;obtain⟨a1,rfl,ha1⟩:=Lj;refine st4 _ _ _ _ rfl rfl (by simp[ha1.ok]) _ ?_;exact AQA k3 x _ _ hv rfl (by simp[ha1.ok]) (by simp[Ab,Ai,ha1.Ai]) ou (by omega) YN (hb.mono (by omega))
     | false=>
      have:=AQA k2 [] (.mk 0 [] 0 []) [AA 0,SS [],AA 0,.AB []] ⟨_,rfl,by simp[AP]; exact .inl (.AB _)⟩ rfl (by rfl) (by simp[Ab,Ai]) ou (by omega) MD (LP.leaf rfl rfl (by simp) (by omega))
      grind[BE]
    | false=>grind[BE]
  have c6:∀B:Bool,(B=true->7<r)->(B=false->9<r)->mI R 0 L.ro L.rt (.ptr id 0) dv (AA d) (AA vars) (.ptr (bs.length+m.length) 0) (AA r) (BB B) ⟨ST bs id l k1++(m++[Z4]),ts⟩ (QM rr N Post):=by
   intro B hB1 hB2;refine AQD ?_;cases B with
   | true=>
    have h8:=hB1 rfl;have ou:=hd5 (by omega);have hk0:=hkk (by omega);refine BP (Gi (by omega) (by omega) ?_);have e3:((d:Nat):Int)-1=((d-1:Nat):Int):=by omega
    rw[e3];refine CY (iht (d-1) (by omega) hm' h2 vars (by omega) (by omega) (Cu (env R) 41 0 L.ro L.rt) hro ts (by simp[*])) ?_;rintro v s1 ⟨t,k2,x,hv,hb,Ml,MD,rfl⟩;refine Gi (by omega) (by omega) ?_;rw[e3];refine CY (iht (d-1) (by omega) hm' MD vars (by omega) (by omega) (Cu (env R) 41 0 L.ro L.rt) hro (ts++x) (rt' x)) ?_;rintro w s1 ⟨u,k3,x3,hw,hc,ZX,YN,rfl⟩;refine cj hv hw _ _ ?_;refine AG (cY (.AB _)) ?_;rintro y rfl;rw[EX];exact fin k3 (x++x3) [] (.mk 4 [] 0 [t,u]) _ ⟨_,rfl,.inl (.AB _)⟩ (LP.un ou hb hc (by omega)) (by omega) YN
   | false=>
    have h9:=hB2 rfl;refine BE (Bd ?_);cases b10:(r==10) with
    | true=>grind[BP]
    | false=>
     have n10:¬ r=10:=by grind
     refine BE (Bd (c7 _ ?_ ?_ h9))
     all_goals grind
  have c5:∀B:Bool,(B=false->7<r)->cn R 0 L.ro L.rt (.ptr id 0) dv (AA d) (AA vars) (.ptr (bs.length+m.length) 0) (AA r) (BB B) ⟨ST bs id l k1++(m++[Z4]),ts⟩ (QM rr N Post):=by
   intro B hx;refine AQE ?_;cases B with
   | true=>grind[BP]
   | false=>
    have h7:=hx rfl;refine BE (Bd ?_);cases b8:(r==8) with
    | true=>grind[BP]
    | false=>
     have n8:¬ r=8:=by grind
     refine BE (Bd (c6 _ (λ_=>h7) (λh=>?_)))
     grind
  have c3:∀B:Bool,(B=false->4<r)->mJ R 0 L.ro L.rt (.ptr id 0) dv (AA d) (AA vars) (.ptr (bs.length+m.length) 0) (AA r) (BB B) ⟨ST bs id l k1++(m++[Z4]),ts⟩ (QM rr N Post):=by
   intro B hx;refine AQF ?_;cases B with
   | true=>
    refine BP (JS ?_)
    by_cases Su:vars=0
    .have b0:decide ((vars:Int)>0)=false:=by grind
     rw[b0];exact BE (AQG (ACt k1 h1 h2))
    .have b0:decide ((vars:Int)>0)=true:=by grind
     rw[b0];refine BP ?_;refine CY (Gy (n:=vars) hB hm' h2 (by omega) (by omega) _ (by simp[*]) ts) ?_;rintro v s1 ⟨r2,k2,rfl,wj,hr4,Ml,MD,rfl⟩;refine AG (PC r2) ?_;rintro v rfl;exact cZ k2 [] (.mk 5 [] r2 []) _ ⟨_,rfl,by simp[AP]; exact .inl (.AB _)⟩ (LP.leaf rfl rfl (by simp) (by omega)) (by omega) MD
   | false=>
    have h4':=hx rfl;refine BE (Bd ?_);cases b5:(r==5) with
    | true=>grind[BP]
    | false=>
     have n5:¬ r=5:=by grind
     refine BE (Bd ?_);cases b6:(r==6) with
     | true=>grind[BP]
     | false=>
      have n6:¬ r=6:=by grind
      refine BE (Bd (c5 _ (λh=>?_)))
      grind
  have c2:∀B:Bool,(B=false->1<r)->mK R 0 L.ro L.rt (.ptr id 0) dv (AA d) (AA vars) (.ptr (bs.length+m.length) 0) (AA r) (BB B) ⟨ST bs id l k1++(m++[Z4]),ts⟩ (QM rr N Post):=by
   intro B hx;refine AQH ?_;cases B with
   | true=>
    refine BP (PI hW ?_);refine CY (Gy (n:=4) hB hm' h2 (by omega) (by omega) _ (by simp[*]) ts) ?_;rintro v s1 ⟨r2,k2,rfl,wj,hr4,Ml,MD,rfl⟩;obtain⟨w,hw,eD⟩:=QW hW h4 sW wj hr4;refine Y7 wj hw (iJ ?_);refine AG (Jt (.AB [])) ?_;rintro v rfl;exact Y6 (PI hW (RB W)) (cZ k2 [] (.mk 2 w 0 []) _ ⟨_,rfl,by simp[AP]; exact .inl (.AB _)⟩ (LP.leaf rfl rfl eD (by omega)) (by omega) MD)
   | false=>
    have eC:=hx rfl;refine BE (Bd ?_);cases b2:(r==2) with
    | true=>
     refine BP ?_;refine AG UE ?_;rintro v rfl;exact cZ k1 [] (.mk 0 [] 0 []) _ ⟨_,rfl,by simp[AP]; exact .inl (.AB _)⟩ (LP.leaf rfl rfl (by simp) (by omega)) h1 h2
    | false=>
     have n2:¬ r=2:=by grind
     refine BE (Bd ?_);cases b3:(r==3) with
     | true=>grind[BP]
     | false=>
      have n3:¬ r=3:=by grind
      refine BE (Bd (c3 _ (λh=>?_)))
      grind
  refine AQI (Bd ?_);cases b0:(r==0) with
  | true=>grind[BP]
  | false=>
   have n0:¬ r=0:=by grind
   refine BE (Bd (c2 _ (λh=>?_)))
   grind
 refine AQJ ?_;simp only[Bw,EX,B7,Fp];refine CY (Ny (n:=14) hB hm' hk (by omega) (by omega) _ (by simp[*]) ts) ?_;rintro v s1 ⟨r,k1,rfl,NG,Pt,VR,hk2,Ml,rfl⟩;refine YY ?_
 by_cases ou:d=0
 .have b0:decide ((d:Int)<=0)=true:=by grind
  rw[b0];refine Ax (Ax (JS (pk ?_)));cases b5:decide (r>5) with
  | true=>grind[BP]
  | false=>
   grind[BE]
 .have b0:decide ((d:Int)<=0)=false:=by grind
  rw[b0];exact J7 (by simp) (J7 (by simp) (pk (BE (AV0 k1 r NG VR hk2 Ml (by omega)))))
end
section
variable {bs:List (List AV)} {id:Nat} {l:Src} {R:Nat->Option (List PV)}
theorem ACu (hB:Nx bs id l) {W:List (List UInt8)} (hW:(env R).G 1=some (E6 W)) (h4:W.length=4) (sW:Short W) {dv:AV} {rows:List (List PV)} (hD:Decls dv rows):∀μ:Nat,
  (∀d:Nat,d<=20->UD R bs id l dv 41 d (3*d+2) μ (LP d))/\(∀d:Nat,d<=20->UD R bs id l dv 83 d (3*d+1) μ (mB d))/\(∀e:Int,-1<=e->e<=20->UD R bs id l dv 115 e (3*(e+1).toNat) μ (ri e)):=by
 intro μ
 induction μ with
 | zero=>exact⟨λd _ m _ k _ vars _ h=>absurd h (GV _),λd _ m _ k _ vars _ h=>absurd h (GV _),λe _ _ m _ k _ vars _ h=>absurd h (GV _)⟩
 | succ μ ih=>
  obtain⟨i1,i2,i3⟩:=ih;exact⟨λd hd=>pF hB hW h4 sW μ i2 i1 d hd,λd hd=>iK hB hW h4 sW hD μ i3 d hd,λe he he2=>wh hB hW h4 sW μ i2 i1 e he he2⟩
theorem ZD (hB:Nx bs id l) {W:List (List UInt8)} (hW:(env R).G 1=some (E6 W)) (h4:W.length=4) (sW:Short W) {dv:AV} {rows:List (List PV)} (hD:Decls dv rows) {m:List (List AV)} (hm:Kk bs m) {k:Nat} (hk:k<=l.length) (L:A3) (hro:L.ro<=id) (ts:List (Nat×Nat)) (GZ:L.rt<=ts.length) :
  ∃v s',(∃t k' x,BM t v/\LP 3 (8*(k'-k)+1) t/\k<=k'/\k'<=l.length/\s'=⟨ST bs id l k'++m,ts++x⟩)/\A8 (env R) L 19 [.ptr id 0,dv] ⟨ST bs id l k++m,ts⟩ v s':=by
 have hlen:=hB.len;have hlt:=hB.lt
 suffices H:∀(rr:Bool) (N:Nat) (Post:AV->AM->Prop),N=bs.length+m.length->(∀t v k' x,BM t v->LP 3 (8*(k'-k)+1) t->k<=k'->k'<=l.length->Post v ⟨ST bs id l k'++m,ts++x⟩)->wm R 0 L.ro L.rt (.ptr id 0) dv ⟨ST bs id l k++m,ts⟩ (QM rr N Post) from
  m19 (by rfl) (H _ _ _ (by simp[Fp]) λt v k' x h1 h2 h3 h4=>⟨t,k',x,h1,h2,h3,h4,rfl⟩)
 intro rr N Post hN hP;refine AQK ?_;simp only[Bw,EX,B7,Fp];refine CY ((ACu hB hW h4 sW hD _).1 3 (by omega) (ZB hm) hk 0 (by omega) (XQ _) (Cu (env R) 19 0 L.ro L.rt) hro ts (by assumption)) ?_;rintro v s1 ⟨t,k3,x,hv,hb,Ml,MD,rfl⟩;exact UC (R:=R) (Post:=Post) (rr:=rr) (N:=N) (k:=k3) (ts:=ts++x) (Z:=Z4) (r:=[]) (L':=Cu (env R) 19 0 L.ro L.rt) hB hm rfl hN hro rfl hv (λy hy=>hP t y k3 x hy hb Ml MD)
end
def mL:List (List PV)->Bool
 | []=>true
 | r::l=>(match r with
  | .sc (.string a)::.sc (.int .i64 n)::rest=>rest.length==6&&(decide (0<=n)&&(decide (n<=2)&&(decide (a.data.size<2 ^ 50)&&(r.map AV.pv).all A1)))
  | _=>false)&&mL l
theorem Wm:∀{l:List (List PV)},mL l=true->∀r∈l,Y9 r
 | [],_,r,h=>by cases h
 | r::l,hl,r',h=>by
  simp only[mL,AD] at hl;rcases Az.1 h with rfl|h
  .have h1:=hl.1
   split at h1
   .rename_i a n rest
    simp only[AD,CZ,GX] at h1;obtain⟨h1,h2,h3,h4,h5⟩:=h1;refine⟨a.data.toList,n.toNat,rest,?_,h1,by omega,by omega,h5⟩;have:((n.toNat:Nat):Int)=n:=by omega
    rw[this]
   grind
  .exact Wm hl.2 r' h
def AEk:Option AV->Bool
 | some (.AB rows)=>decide (rows.length<100)&&mL rows
 | _=>false
theorem ACv {R:Nat->Option (List PV)}:AEk (ZZ (env R) 60 12 [])=true:=by kernel_rfl
theorem pG {R:Nat->Option (List PV)}:AL (env R) 12 [] λv=>∃rows,Decls v rows:=by
 have h:=ACv (R:=R);cases hv:ZZ (env R) 60 12 [] with
 | none=>rw[hv] at h; cases h
 | some v=>
  rw[hv] at h;unfold AEk at h;split at h
  .rename_i rows he
   cases he;simp only[AD,CZ] at h;exact⟨_,⟨rows,.inl (.AB _),Wm h.2,h.1⟩,λL s=>A8.jW (SE (args':=[]) (by rfl) (by rfl) (by rfl) rfl hv L s)⟩
  grind
end Go.Proofs.YtpgfpakdnijngaaGreatDoor
