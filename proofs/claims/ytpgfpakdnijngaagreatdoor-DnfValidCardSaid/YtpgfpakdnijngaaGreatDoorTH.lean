/-
  The reference: Expand.
-/
import Derived.Test.YtpgfpakdnijngaaGreatDoorTG
import Derived.Test.YtpgfpakdnijngaaGreatDoorTE
import Derived.Test.YtpgfpakdnijngaaGreatDoorWpW
import Derived.Test.YtpgfpakdnijngaaGreatDoorTC
set_option linter.all false
namespace Go.Proofs.YtpgfpakdnijngaaGreatDoor
open Go.Tel
theorem zU:∀(new pre old post:List AV),old.length=new.length->setCells (pre++(old++post)) pre.length new=pre++(new++post)
 | [],pre,old,post,h=>by
  have:old=[]:=AB;subst this;rfl
 | x::new,pre,old,post,h=>by
  cases old with
  | nil=>grind
  | cons y old=>
   have:=zU new (pre++[x]) old post AB
   grind[setCells]
theorem CE.set {α β:Type} {P:α->β->Prop}:∀{l:List α} {m:List β} (p:Nat) {a:α} {b:β},CE P l m->P a b->CE P (l.set p a) (m.set p b)
 | [],[],_,_,_,_,_=>trivial
 | x::l,y::m,0,_,_,⟨_,h⟩,hab=>⟨hab,h⟩
 | x::l,y::m,p+1,_,_,⟨h1,h2⟩,hab=>⟨h1,CE.set p h2 hab⟩
 | [],_::_,_,_,_,h,_=>h.elim
 | _::_,[],_,_,_,h,_=>h.elim
theorem CE.len {α β:Type} {P:α->β->Prop}:∀{l:List α} {m:List β},CE P l m->l.length=m.length
 | [],[],_=>rfl
 | _::l,_::m,⟨_,h⟩=>by simp[CE.len h]
 | [],_::_,h=>h.elim
 | _::_,[],h=>h.elim
theorem zV:∀{l:List Br} {rows:List (List AV)},CE (λb row=>CU b (.agg row)) l rows->rows.flatten.length=rows.length*5
 | [],[],_=>rfl
 | b::l,row::rows,⟨h1,h2⟩=>by
  have:=zV h2;obtain⟨c1,_,_⟩:=h1.cells
  grind
 | [],_::_,h=>h.elim
 | _::_,[],h=>h.elim
theorem CE.take {α β:Type} {P:α->β->Prop}:∀{l:List α} {m:List β} (p:Nat),CE P l m->CE P (l.take p) (m.take p)
 | [],[],p,_=>by grind
 | _::_,_::_,0,_=>trivial
 | x::l,y::m,p+1,⟨h1,h2⟩=>⟨h1,CE.take p h2⟩
 | [],_::_,_,h=>h.elim
 | _::_,[],_,h=>h.elim
theorem AKR {L:BI} {s:AQ} {lo p:Nat} {l:List Br} {y:AV} {c c':Br} {row:List AV} (hy:Eu lo s.bs l y) (hc:l[p]?=some c) (hr:CU c' (.agg row)) (hro:L.ro<=lo) (hn0:L.n0<=lo) {K:AQ->Prop}
  (h:∀bs',Eu lo bs' (l.set p c') y->bs'.length=s.bs.length->(∀j d,(∀n,y≠.ref j 0 n 5)->s.bs[j]?=some d->bs'[j]?=some d)->(BP s->BP ⟨bs',s.ts⟩)->K ⟨bs',s.ts⟩):ND s 5 y (AG p) λa=>HM L s 5 a (.agg row) K:=by
 have hp:p<l.length:=(BA.1 hc).1;rcases hy with ⟨rfl,rfl⟩|⟨id,rows,h1,rfl,h2,h3,h4⟩
 .grind
 .obtain⟨_,_,_,_,_,_,hal⟩:=Eu.block (lo:=lo) h2 h3 h4
  obtain⟨q1,q2,q3⟩:=hr.cells;have hl:=h3.len;have hfl:=zV h3;have hft:=zV (h3.take p);have hce:cellsOf (.agg row)=row:=rfl;obtain⟨old,ho⟩:∃old,rows[p]?=some old:=⟨_,Ay AA⟩;obtain⟨LK,hog⟩:=BA.1 ho
  have h5:∀(l:List Br) (rows:List (List AV)) (p:Nat) (old:List AV),CE (λb row=>CU b (.agg row)) l rows->rows[p]?=some old->old.length=5:=by
   intro l
   induction l with
   | nil=>intro rows p old h ho; cases rows with
    | nil=>grind
    | cons _ _=>exact h.elim
   | cons b l ih=>
    intro rows p old h ho;cases rows with
    | nil=>grind
    | cons r rows=>
     cases p with
     | zero=>
      have:r=old:=AB;subst this;exact h.1.cells.1
     | succ p=>exact ih rows p old h.2 AB
  have h5:=h5 l rows p old h3 ho;refine⟨⟨AA,AA,rfl,hal⟩,?_⟩;simp only[HM,h2,wO,hce];have e0:0+((p:Nat):Int).toNat*5=p*5:=AA;rw[e0];refine⟨⟨q1,AA,AA,q2,.inl AA,AA⟩,?_⟩;have es:rows.flatten=(rows.take p).flatten++(old++(rows.drop (p+1)).flatten):=by grind[List.drop_eq_getElem_cons,List.take_append_drop]
  have es2:setCells rows.flatten (p*5) row=(rows.set p row).flatten:=by grind[List.set_eq_take_append_cons_drop,zU]
  rw[es2];refine h _ (.inr ⟨id,rows.set p row,h1,by rw[TF],?_,h3.set p hr,?_⟩) (by rw[TF]) (λj d hj hjd=>?_) (λhs=>?_)
  .rw[Ca (BA.1 h2).1]
  .simp[*]
  .grind
  .have th:=(IU (h3.set p hr)).2.2
   grind[BP.set]
theorem Eu.close {lo:Nat} {bs:List (List AV)} {l:List Br} {v:AV} (hb:Eu lo bs l v):∃v',Tel.close bs 0 0 v=some v'/\A0 v' (l.map Dm):=by
 rcases hb with ⟨rfl,rfl⟩|⟨id,rows,h1,rfl,h2,h3,h4⟩
 .exact⟨.AE [],AR,.AE _⟩
 .obtain⟨c,cs,hc,k1,k2,k3,hal⟩:=Eu.block (lo:=lo) (s:=⟨bs,[]⟩) h2 h3 h4
  have htp:=Vm h3;refine⟨.pv (.list (l.map Dm)),?_,.list _⟩
  grind[IZ,FE,Lc,List.length_map,Tel.close]
section
variable {R:RT}
structure AKS (b:Br):Prop where
 Ko:size b.body<2 ^ 36
 ok:vP wI b.body=true
 ER:b.bounds.length<2 ^ 37
 O6:∀i∈occs b.body [],0<=i/\i<(b.bounds.length:Int)
theorem ACo {X:Ty->List Br×Int} {l:List Br} (hl:l.length<=32) (hG:∀b∈l,AKS b/\(EA b).bounds.length<2 ^ 30/\∀c∈(EA b).bounds,kJ R c (X c)) {t5:AV} {Post:AV->Prop}
  (hF:((l.map EA).all λb=>Md b&&b.bounds.all λb=>Cs (X b))=false->Post (.tuple [.AE [],AG 4])) (hS:((l.map EA).all λb=>Md b&&b.bounds.all λb=>Cs (X b))=true->∀a,A0 a ((l.map EA).map Dm)->Post (.tuple [a,AG 0])) :
  ∀(j p:Nat) (bs:List (List AV)) (tk:List (Nat×Nat)),p+j=l.length->Eu 2 bs ((l.take p).map EA++l.drop p) t5->(((l.take p).map EA).all λb=>Md b&&b.bounds.all λb=>Cs (X b))=true->AFj R 0 0 0 t5 (AG p) ⟨bs,tk⟩ (QP Post):=by
 have hlen:∀p,p<=l.length->((l.take p).map EA++l.drop p).length=l.length:=AB;intro j
 induction j with
 | zero=>
  intro p bs tk hi hb hall;refine AFk (Au (n:=l.length) (by rw[hb.BD,hlen p AA]) (Ao ?_));rw[A2 AA];rw[CV AA] at hb hall;rw[CA AA,Gy] at hb;obtain⟨a,h1,h2⟩:=hb.close;exact Ar (ASF ⟨.tuple [a,AG 0],by grind[Tel.close,BK],hS hall a h2⟩)
 | succ j ih=>
  intro p bs tk hi hb hall;refine AFk (Au (n:=l.length) (by rw[hb.BD,hlen p AA]) (Ao ?_));rw[Aq AA];obtain⟨b,hbp⟩:∃b,l[p]?=some b:=⟨_,Ay AA⟩;obtain⟨hr,N4,hX⟩:=hG b (A5 hbp);have htl:((l.take p).map EA).length=p:=AB;have hgp:((l.take p).map EA++l.drop p)[p]?=some b:=by simp_all[Ey]
  have rP:((l.take p).map EA++l.drop p).set p (EA b)=(l.take (p+1)).map EA++l.drop (p+1):=by simp_all[drop_cons,List.take_add_one]
  refine A1 (ASG (Rb hb hgp λrow hrow=>AH (Vp hr.Ko hr.ok hr.ER hr.O6 hrow) ?_));intro v hv
  have Lh:CU (EA b) v:=by
   obtain⟨a,y,rfl,ha,hy⟩:=hv;exact⟨a,y,rfl,.inl ha,hy.Fy⟩
  obtain⟨r2,rfl⟩:=Lh.agg;refine AKR hb hgp Lh (AO _) (AO _) λbs' h1 _ _ _=>?_
  rw[rP] at h1;have hsz:=(YZ hr.ok hr.Ko).1
  have hg2:((l.take (p+1)).map EA++l.drop (p+1))[p]?=some (EA b):=by
   rw[<-rP,Ca AB]
  refine Rb h1 hg2 λrow2 ASH=>AH (W5 (X:=X) (by have:=hr.Ko; omega) N4 hX ASH) ?_
  rintro _ rfl;refine nt ?_;cases hg:Md (EA b)&&(EA b).bounds.all λb=>Cs (X b) with
  | false=>
   refine A1 ⟨_,AR,hF ?_⟩
   grind[List.mem_map_of_mem]
  | true=>
   refine Ar (ASI (Be AA AA ?_))
   have:=ih (p+1) bs' tk AA h1 (by
    rw[List.take_add_one,hbp];simp only[Option.toList_some,PA,CP,Cd,TI,hall,Gz,hg,List.all_nil,Ft])
   simpa using this
theorem Ya {t:Ty} (hv:valid t=true) (hc:CB 0 t=true) (hft:Fit t) {l:List Br} (af:DK (Aa 32) (depth t) t=some l):∀b∈l,AKS b/\(EA b).bounds.length<2 ^ 30/\size (EA b).body<2 ^ 30/\∀c∈(EA b).bounds,Wx t c:=by
 intro b Qh;obtain⟨ps,B,_,_,Aa1,_,hB⟩:=oH hv hc hft.bws af;have z:=DC (BC:=Aa 32) (depth t) t l af b Qh;have zG:=VW (depth t) t l hv hft.bws af b Qh;have hbw:(bw t:Int)<1073741824:=hft.bws;have hsz:=zG.Ko;have hwt:=hft.wts;have hok:=AKQ zG AA;obtain⟨r1,r2⟩:=YZ hok AA;refine⟨⟨AA,hok,AA,Aa1 b Qh⟩,AA,AA,λc MW=>?_⟩;have hcm':c∈(occs b.body []).map λi=>b.bounds.getD i.toNat bW:=MW
 grind
theorem SP:∀(f:Nat) (t:Ty),depth t<=f->size t<2 ^ 60->RB t->(verdict t=0->Fit t)->kJ R t (xR f t):=by
 intro f
 induction f with
 | zero=>
  intro t hd;obtain⟨k,n,i,ts⟩:=t
  grind[depth]
 | succ f ih=>
  intro t hd hsz hok hfit x hx;obtain⟨xc,rfl⟩:=hx.agg;obtain⟨c1,c2,c3,c4⟩:=hx.cells
  suffices H:∀Post:AV->Prop,(∀r,(∃a,r=.tuple [a,AG (xR (f+1) t).2]/\A0 a ((xR (f+1) t).1.map Dm))->Post r)->AFl R 0 0 0 (.agg xc) ⟨[],[]⟩ (QP Post) from e15 (u0:=.agg xc) (by grind[BK,Tel.close]) (H _ λr h=>h)
  intro Post hP;have g0:(AQ.mk ([]++[xc]) []).bs[0]?=some xc:=rfl;have fail:∀(n:Int) (s:AQ),xR (f+1) t=([],n)->(QP Post) (.tuple [.AE [],AG n]) s:=λn s h=>⟨.tuple [.AE [],AG n],AR,hP _ ⟨.AE [],by rw[h],by rw[h]; exact .AE _⟩⟩
  refine ASJ (Bu (cs:=xc) rfl c2 (Af g0 c1 (AH (J4 (R:=R) AA hok hx) ?_)));rintro _ rfl;refine EB ?_;rw[xR] at fail hP;cases TP:verdict t==0 with
  | false=>
   have:(verdict t != 0)=true:=AB;simp[*,BQ,pk,A1]
  | true=>
   have:(verdict t != 0)=false:=AB;rw[this];have hft:=hfit AB;obtain⟨hv,AE2,AQ3⟩:=DX (by simpa using TP);refine Ak (Af g0 c1 (Ak (AH (G1 (R:=R) AA hx) ?_)));rintro _ rfl;refine Ak (nt (pk ?_));cases hc:CB 0 t with
   | false=>grind[A1]
   | true=>
    rw[TP,hc] at fail hP;simp only[NY,KU,AL] at fail hP;refine Ar (ASK (HO (cs:=[BB true,BB false]) rfl (Bu (cs:=[BB true,BB false]) rfl rfl (Af (Ap g0 _) c1 ?_))))
    have hs2:BP ⟨[xc,[BB true,BB false]],[]⟩:=by
     intro d hdm;simp only[A3,D4,D5] at hdm;rcases hdm with rfl|rfl
     .exact Bg (AO _) _ c3
     rfl
    obtain⟨v,s',hR,QL⟩:=(W0 (R:=R) (e:=1) (depth t) t (AY _) hv hft.bws hft.wts AA).c (.agg xc) hx.Fy false ⟨[xc,[BB true,BB false]],[]⟩ hs2 (CT (env R) 15 0 0 0) rfl rfl AR rfl;simp only[oX,AL] at hR;obtain⟨b2,On⟩:=s';have hT:b2.take 2=[xc,[BB true,BB (DK (Aa 32) (depth t) t).isNone]]:=hR.tk;have g1:b2[1]?=some [BB true,BB (DK (Aa 32) (depth t) t).isNone]:=CN hT rfl;refine⟨_,_,QL,C2 (AU g1) (AM (AU g1) (AX (off:=1) g1 rfl ?_))⟩;cases af:DK (Aa 32) (depth t) t with
    | none=>
     grind[A1]
    | some l=>
     rw[af] at hR hP;simp only at hP;have hb:Eu 2 b2 l v:=hR.RE;have ru:=Ny (depth t) t l af
     have hG:∀b∈l,AKS b/\(EA b).bounds.length<2 ^ 30/\∀c∈(EA b).bounds,kJ R c (xR f c):=by
      intro b Qh;obtain⟨q1,q2,_,q3⟩:=Ya hv hc hft af b Qh;refine⟨q1,q2,λc MW=>?_⟩;have hSub:=q3 c MW;exact ih c (by have:=hSub.dep; omega) (by have:=hSub.Ko; omega) (Ji c hSub.val) (λ_=>hft.sub hSub)
     refine Ar (ASL ?_);have:=ACo (R:=R) (X:=xR f) ru hG (t5:=v) (Post:=Post) (λh=>hP _ ⟨.AE [],AB,by rw[h]; exact .AE _⟩) (λh a ha=>hP _ ⟨a,AB,AB⟩) l.length 0 b2 On AA AB rfl;omega
end
def BSl (bs:List (List AV)) (l:List Br) (a:AV):Prop:=(∃lo,Eu lo bs l a)\/BF a (l.map Dm)
theorem BSl.BD {s:AQ} {l:List Br} {a:AV} (h:BSl s.bs l a):BD s a=some l.length:=by
 rcases h with ⟨lo,h⟩|h
 .exact h.BD
 .rw[h.BD,Bt]
def BrS (b:Br):Prop:=size b.body<2 ^ 38/\b.bounds.length<2 ^ 60/\∀t∈b.bounds,size t<2 ^ 38
section
variable {R:RT}
theorem ACp {s:AQ} {l:List Br} {a:AV} {p:Nat} {c:Br} (h:BSl s.bs l a) (hc:l[p]?=some c) {K:AV->Prop} (hK:∀row,CU c (.agg row)->K (.agg row)):ND s 5 a (AG p) λx=>Df (env R) s (some 5) x K:=by
 rcases h with ⟨lo,h⟩|h
 .exact Rb h hc hK
 .refine BX h (row:=Dm c) AA AB (Lc c) AA ?_
  simp only[Df,DQ,JL];refine⟨by grind[Lc],?_⟩;rw[CV (by grind[Lc])];obtain⟨x,y,he,hx,hy⟩:=N5.Bk c;refine hK _ ⟨x,y,he,.inl hx,hy.Fy⟩
end
structure Lm where
 c:Nat
 b:Nat
 w:Nat
 n:Nat
 l:Nat
structure Lm.Of (q:Lm) (t:Ty):Prop where
 c:cv t<=q.c
 b:bw t<=q.b
 w:wt t<=q.w
 n:nb t<=q.n
 l:lv t<=q.l
def Lm.up (a s:Nat) (y x:Lm):Lm:=
 ⟨max 1 (max (a*x.c) (x.c*(y.c+1))),max (a*x.b) (x.b+1+(x.c+1)*y.b),max s (max (1+a*x.w) (x.w+max 1 x.c*y.w)),max (a*x.n) (1+x.n+(33*x.l+500)*y.n),max 1 (max x.l (a*x.l))⟩
theorem NK {α:Type} {f:α->Nat} {m:Nat}:∀{l:List α} {a:Nat},l.length<=a->(∀t∈l,f t<=m)->(l.map f).sum<=a*m
 | [],a,_,_=>AO _
 | t::l,a,h,hl=>by
  obtain⟨a,rfl⟩:∃b,a=b+1:=⟨a-1,AB⟩;have h1:=NK (l:=l) (a:=a) AB (λt ht=>hl t AB)
  grind
theorem max_le {α:Type} {f:α->Nat} {m:Nat}:∀{l:List α},(∀t∈l,f t<=m)->(l.map f).foldr max 0<=m
 | [],_=>AO _
 | t::l,hl=>by
  have h1:=max_le (l:=l) (λt ht=>hl t AB)
  grind
theorem Lm.oL {a s:Nat} {x y:Lm} {k i:Int} {n:List UInt8} {ts:List Ty} (hs:k≠3->k≠4->k≠6->Ac ts+1<=s) (h34:k=3\/k=4->ts.length<=a/\∀t∈ts,x.Of t) (h6:k=6->∀b body,ts=[b,body]->y.Of b/\x.Of body):(Lm.up a s y x).Of (.mk k n i ts):=by
 cases b6:k==6 with
 | true=>
  have:k=6:=AB;subst this
  match ts,h6 with
  | [],_=>exact⟨by simp[cv,MT,ex6],by grind[bw,MT,ex7],by grind[wt,MT,wx],by grind[nb,ex9],by simp[lv,lvl,ex2]⟩
  | [_],_=>exact⟨by simp[cv,MT,ex6],by grind[bw,MT,ex7],by grind[wt,MT,wx],by simp[*,nb,ex9],by simp[lv,lvl,ex2]⟩
  | _::_::_::_,_=>exact⟨by simp[cv,MT,ex6],by simp[*,bw,MT,ex7],by simp[*,wt,MT,wx],by simp[*,nb,ex9],by simp[lv,lvl,ex2]⟩
  | [b,body],h6=>
   obtain⟨hb,hy⟩:=h6 rfl b body rfl;have e1:cv (.mk 6 n i [b,body])=cv body*(cv b+1):=rfl;have e2:bw (.mk 6 n i [b,body])=bw body+1+(cv body+1)*bw b:=rfl;have e3:wt (.mk 6 n i [b,body])=wt body+max 1 (cv body)*wt b:=rfl;have e4:nb (.mk 6 n i [b,body])=1+nb body+nF body*nb b:=rfl;have e5:lv (.mk 6 n i [b,body])=lv body:=rfl;have f1:cv body*(cv b+1)<=x.c*(y.c+1):=PJ hy.c (by have:=hb.c; omega);have f2:(cv body+1)*bw b<=(x.c+1)*y.b:=PJ (by have:=hy.c; omega) hb.b;have f3:max 1 (cv body)*wt b<=max 1 x.c*y.w:=PJ (by have:=hy.c; omega) hb.w
   have f4:nF body*nb b<=(33*x.l+500)*y.n:=by
    refine PJ ?_ hb.n;have:=hy.l
    grind[nF]
   have g2:=hy.b;have g3:=hy.w;have g4:=hy.n;have g5:=hy.l;refine⟨?_,?_,?_,?_,?_⟩
   all_goals grind[Lm.up]
 | false=>
  cases b34:k==3||k==4 with
  | true=>
   have hk:k=3\/k=4:=AB;obtain⟨hl,ht⟩:=h34 hk;have s1:=NK (f:=cv) hl λt h=>(ht t h).c
   have s2:=NK (f:=bw) hl λt h=>(ht t h).b
   have s3:=NK (f:=wt) hl λt h=>(ht t h).w
   have s4:=NK (f:=nb) hl λt h=>(ht t h).n
   have s5:=NK (f:=lv) hl λt h=>(ht t h).l
   have s6:=max_le (f:=lv) λt h=>(ht t h).l
   refine⟨?_,?_,?_,?_,?_⟩
   .grind[cv,RH,Lm.up]
   all_goals grind[bw,Fl,Lm.up,wt,I9,nb,RR,lv,aS]
  | false=>
   have hsz:=hs AB AB AB;simp only[Gw] at b34;refine⟨?_,?_,?_,?_,?_⟩
   all_goals grind[cv,Lm.up,bw,wt,nb,lv]
mutual
def lev:Nat->Ty->Bool
 | d,.mk _ _ _ ts=>decide (ts.length<=8)&&ASM d ts
def ASM:Nat->List Ty->Bool
 | _,[]=>true
 | d,t::l=>decide (0<d)&&(lev (d-1) t&&ASM d l)
end
def nz (d:Nat) (t:Ty):Bool:=bif decide (d<=1) then decide (size t<=3)&&decide (depth t<=2) else bif d==2 then decide (size t<=7)&&decide (depth t<=3) else true
theorem QW {d:Nat} {t:Ty} (h:size t<=3) (h':depth t<=2):nz d t=true:=by
 unfold nz;cases decide (d<=1) with
 | true=>simp[h,h']
 | false=>
  cases d==2 with
  | true=>
   have h1:size t<=7:=AA;have h2:depth t<=3:=AA;simp[h1,h2]
  | false=>rfl
mutual
def gq:Nat->Ty->Bool
 | d,.mk k n i ts=>bif k==3||k==4 then decide (0<d)&&(decide (ts.length<=3)&&Vq (d-1) ts) else bif k==6 then decide (0<d)&&gqX d ts else bif k==2 then nz d (.mk k n i ts) else ts.isEmpty
def Vq:Nat->List Ty->Bool
 | _,[]=>true
 | d,t::l=>gq d t&&Vq d l
def gqX:Nat->List Ty->Bool
 | d,b::l=>gq 1 b&&Vq (d-1) l
 | _,[]=>true
end
theorem Hq {d:Nat}:∀{l:List Ty} {t:Ty},Vq d l=true->t∈l->gq d t=true
 | a::l,t,h,ht=>by
  simp only[Vq,AI] at h;rcases A3.1 ht with rfl|ht
  .grind
  .exact Hq h.2 ht
def gq0:Lm:=Lm.up 0 200 ⟨0,0,0,0,0⟩ ⟨0,0,0,0,0⟩
theorem zW {t:Ty} (h:gq 0 t=true) (hs:size t<=200):gq0.Of t:=by
 obtain⟨k,n,i,ts⟩:=t;rw[size] at hs;rw[gq] at h;refine Lm.oL (λ_ _ _=>hs) (λhk=>?_) (λhk=>?_)
 all_goals grind
def W6:Nat->Lm
 | 0=>gq0
 | m+1=>⟨max (W6 m).c (max 3 ((W6 m).c+1)),max (W6 m).b (1+2*(W6 m).b),max (W6 m).w (max 601 (200+(W6 m).w)),max (W6 m).n (1+(W6 m).n),3⟩
theorem zX:∀(m:Nat) (t:Ty),depth t<=m->gq 1 t=true->size t<=200->(W6 m).Of t:=by
 intro m
 induction m with
 | zero=>
  intro t hd;obtain⟨k,n,i,ts⟩:=t
  grind[depth]
 | succ m ih=>
  intro t hd h hs;obtain⟨k,n,i,ts⟩:=t;have hs':=hs;rw[size] at hs;rw[gq] at h;have small:∀t∈ts,gq 0 t=true->gq0.Of t:=λt ht hg=>zW hg (by have:=F8 ht; omega)
  have le:∀q:Lm,q.c<=(W6 (m+1)).c->q.b<=(W6 (m+1)).b->q.w<=(W6 (m+1)).w->q.n<=(W6 (m+1)).n->q.l<=3->q.Of (.mk k n i ts)->(W6 (m+1)).Of (.mk k n i ts):=
   λq h1 h2 h3 h4 h5 h=>⟨BM h.c h1,BM h.b h2,BM h.w h3,BM h.n h4,BM h.l h5⟩
  cases b34:k==3||k==4 with
  | true=>
   rw[b34] at h;simp only[AN,AI,Cq] at h;have hx:=Lm.oL (a:=3) (s:=200) (x:=gq0) (y:=⟨0,0,0,0,0⟩) (k:=k) (n:=n) (i:=i) (ts:=ts) (λ_ _ _=>hs) (λ_=>⟨h.2.1,λt ht=>small t ht (Hq h.2.2 ht)⟩) (λhk=>by grind);have e:Lm.up 3 200 ⟨0,0,0,0,0⟩ gq0=⟨3,3,601,3,3⟩:=AR;rw[e] at hx
   have hb0:bw (.mk k n i ts)=0/\nb (.mk k n i ts)=0:=by
    have b6:(k==6)=false:=AB
    have z1:=NK (f:=bw) (m:=0) h.2.1 λt ht=>by
     have:=(small t ht (Hq h.2.2 ht));obtain⟨k,n,i,ts⟩:=t
     grind[Hq,gq,bw]
    have z2:=NK (f:=nb) (m:=0) h.2.1 λt ht=>by
     obtain⟨k,n,i,ts⟩:=t
     grind[Hq,gq,nb]
    grind[bw,Fl,nb,RR]
   refine⟨?_,AA,?_,AA,hx.l⟩
   .have:=hx.c
    grind[W6]
   .have:=hx.w
    grind[W6]
  | false=>
   rw[b34] at h;simp only[AL] at h;cases b6:k==6 with
   | false=>
    have hx:=Lm.oL (a:=0) (s:=200) (x:=⟨0,0,0,0,0⟩) (y:=⟨0,0,0,0,0⟩) (k:=k) (n:=n) (i:=i) (ts:=ts) (λ_ _ _=>hs) (λhk=>by grind) (λhk=>by grind);simp only[Gw] at b34;have z1:bw (.mk k n i ts)=0:=by grind[bw]
    have z2:nb (.mk k n i ts)=0:=by grind[nb]
    have e:Lm.up 0 200 ⟨0,0,0,0,0⟩ ⟨0,0,0,0,0⟩=⟨1,1,200,1,1⟩:=AR;rw[e] at hx;refine⟨?_,AA,?_,AA,BM hx.l (show(1:Nat)<=3 by decide)⟩
    .have:=hx.c
     grind[W6]
    .have:=hx.w
     grind[W6]
   | true=>
    have:k=6:=AB;subst this;simp only[CZ,AN,AI] at h
    match ts,h,hd,hs,small with
    | [],_,_,_,_=>exact⟨by simp[cv,MT,ex6],by grind[bw,MT,ex7],by grind[wt,MT,wx],by grind[nb,ex9],by simp[lv,lvl,ex2]⟩
    | [_],_,_,_,_=>exact⟨by simp[cv,MT,ex6],by grind[bw,MT,ex7],by grind[wt,MT,wx],by simp[*,nb,ex9],by simp[lv,lvl,ex2]⟩
    | _::_::_::_,_,_,_,_=>exact⟨by simp[cv,MT,ex6],by simp[*,bw,MT,ex7],by simp[*,wt,MT,wx],by simp[*,nb,ex9],by simp[lv,lvl,ex2]⟩
    | [b,body],h,hd,hs,small=>
     simp only[gqX,Vq,AI] at h;simp only[depth,Ci] at hd;simp only[Ac] at hs;have hb:=ih b AA h.2.1 AA;have hg:gq 0 body=true:=h.2.2.1;have e1:cv (.mk 6 n i [b,body])=cv body*(cv b+1):=rfl;have e2:bw (.mk 6 n i [b,body])=bw body+1+(cv body+1)*bw b:=rfl;have e3:wt (.mk 6 n i [b,body])=wt body+max 1 (cv body)*wt b:=rfl;have e4:nb (.mk 6 n i [b,body])=1+nb body+nF body*nb b:=rfl;have e5:lv (.mk 6 n i [b,body])=lv body:=rfl;obtain⟨k,n',i',l'⟩:=body;rw[gq] at hg;cases c34:k==3||k==4 with
     | true=>grind
     | false=>
      cases c6:k==6 with
      | true=>grind
      | false=>
       rw[size] at hs;have c34':=c34;simp only[Gw] at c34;have d1:cv (.mk k n' i' l')=1:=by grind[cv]
       have d2:bw (.mk k n' i' l')=0:=by grind[bw]
       have d3:wt (.mk k n' i' l')<=200:=by grind[wt]
       have d4:nb (.mk k n' i' l')=0:=by grind[nb]
       have d5:lv (.mk k n' i' l')<=1:=by grind[lv]
       have d6:nF (.mk k n' i' l')=1:=by grind[nF,VS]
       have g1:=hb.c;have g2:=hb.b;have g3:=hb.w;have g4:=hb.n;refine⟨?_,?_,?_,?_,?_⟩
       all_goals grind[W6]
def gqQ:Nat->Lm
 | 0=>gq0
 | 1=>W6 12
 | d+2=>Lm.up 3 200 (W6 12) (gqQ (d+1))
theorem AFm:∀(d:Nat) (t:Ty),gq d t=true->size t<=200->depth t<=12->(gqQ d).Of t
 | 0,t,h,hs,_=>zW h hs
 | 1,t,h,hs,hd=>zX 12 t hd h hs
 | d+2,.mk k n i ts,h,hs,hd=>by
  rw[size] at hs;rw[depth] at hd;rw[gq] at h;have ih:∀t∈ts,gq (d+1) t=true->(gqQ (d+1)).Of t:=λt ht hg=>AFm (d+1) t hg (by have:=F8 ht; omega) (by have:=HQ ht; omega)
  refine Lm.oL (λ_ _ _=>hs) (λhk=>?_) (λhk b body he=>?_)
  all_goals grind[Hq,gqX,Ac,Ci,zX]
attribute [local simp] IJ Mx Jw Kh Dc Fk Ew wO setCells HM Df DQ CT DY alive DI KQ UI jG Hi JU Gk Ip L2 JV qD mC okB qE qH qI qJ qK iG qL qN qO qP qQ qR qT qU qV qW qX okF qY qZ qa qb qc Q0 qd Q1 Q2 Q3 Q4 qe qf qg qh qi qj qm qo qp qq GX qt mD qu qv qw qx qy rA rC rD rF rH CD
section
variable {R:Nat->Option (List PV)}
theorem ACq (a:Int) {b:Int} (hb:0<b):-b<a.tmod b:=by
 by_cases ha:0<=a
 .have:=Int.tmod_nonneg b ha
  omega
 .have h1:(-a).tmod b<b:=Int.tmod_lt_of_pos _ hb
  have h2:=Int.neg_tmod a b;omega
theorem NL (a b:Int) (hb:0<b) (Mk:b<2 ^ 62):Ae (env R) 13 [AG a,AG b] λv=>∃r,v=AG r/\0<=r/\r<b:=by
 refine e13 rfl (ASO ?_);have h1:=Int.tmod_lt_of_pos a hb;have h2:=ACq a hb;simp only[DI,Dc];refine⟨⟨Ai,Ai⟩,AA,⟨Ai,Ai⟩,λh=>?_,λh=>?_⟩
 .simp at h
  refine⟨⟨Ai,Ai⟩,CS AA AA (AFn ?_)⟩;exact⟨_,GX,_,rfl,AA,AA⟩
 .simp at h
  refine AFn ?_;exact⟨_,GX,_,rfl,AA,AA⟩
theorem Vr {bs:List (List AV)} {id:Nat} {l:Src} {k:Nat} {ts:List (Nat×Nat)} (h:id<bs.length) (m:List (List AV)):alive ⟨ST bs id l k++m,ts⟩ id=true:=by grind[alive,Rf,K5]
theorem zY {bs:List (List AV)} {id:Nat} {l:Src} (hB:NM bs id l) {m:List (List AV)} (hm:KT bs m) (k:Nat) {n:Nat} (hn:n=bs.length+m.length):(((ST bs id l k++m).take n).all (Ag n))=true:=by
 rw[CV (by grind[Fc]),hn];exact hB.all hm k
theorem AFo {rr:Bool} {N:Nat} {bs:List (List AV)} {id:Nat} {l:Src} (hB:NM bs id l) {m:List (List AV)} (hm:KT bs m) {k:Nat} {ts:List (Nat×Nat)} {Post:AV->AQ->Prop} {p:PV} (hN:N=bs.length+m.length)
  (h:Post (.pv p) ⟨ST bs id l k++m,ts⟩):QM rr N Post (.pv p) ⟨ST bs id l k++m,ts⟩:=by grind[AEA,zY,Fc]
theorem Oy {bs:List (List AV)} {id:Nat} {l:Src} (hB:NM bs id l) {m:List (List AV)} (hm:KT bs m) {k:Nat} (hk:k<=l.length) {n:Int} (hn:0<n) (hn2:n<2 ^ 62) (L:BI) (hro:L.ro<=id) (ts:List (Nat×Nat)) :
  ∃v s',(∃r k',v=AG r/\0<=r/\r<n/\k<=k'/\k'<=l.length/\(r≠0->k<k')/\s'=⟨ST bs id l k'++m,ts⟩)/\BG (env R) L 54 [.ptr id 0,AG n] ⟨ST bs id l k++m,ts⟩ v s':=by
 have hlen:=hB.len;have hlt:=hB.lt
 suffices H:∀(rr:Bool) (N:Nat) (Post:AV->AQ->Prop),N=bs.length+m.length->(∀r k',0<=r->r<n->k<=k'->k'<=l.length->(r≠0->k<k')->Post (AG r) ⟨ST bs id l k'++m,ts⟩)->AFp R 0 L.ro L.rt (.ptr id 0) (AG n) ⟨ST bs id l k++m,ts⟩ (QM rr N Post) from
  m54 AR (H _ _ _ (by simp[Fc]) λr k' h1 h2 h3 h4 h5=>⟨r,k',rfl,h1,h2,h3,h4,h5,rfl⟩)
 intro rr N Post hN hP;refine ASP ?_
 by_cases h:k=l.length
 .have h1:((k:Int)>=l.length):=by omega
  simp[Rf hlt,K5,l.ASQ,l.iG,h]
  grind[AFo]
 .have h1:¬ ((l.length:Int)<=k):=by omega
  simp[Rf hlt,K5,l.ASQ,l.iG];refine⟨λh2=>absurd h2 AA,λ_=>?_⟩;refine ASR ?_;obtain⟨a,ha⟩:∃a,l.ints[k]?=some a:=⟨_,Ay Ba⟩;simp only[JV,Vr hlt,DY,Df,wO,Rf hlt,DI];refine⟨Ai,Ai,?_⟩;simp only[K5,DQ,wO,IX,JK,CI];refine⟨⟨Ai,Ai⟩,CS AA AA ?_⟩;simp only[JV,Vr hlt,DY,HM,wO,Rf hlt,CT,mC];refine⟨Ai,Ai,⟨AD,by simp[K5],hro,AR,.inl AA,AA⟩,?_⟩
  have e:(ST bs id l k++m).set id (setCells (K5 l k) (0+1) [AG (k+1)])=ST bs id l (k+1)++m:=by
   have:setCells (K5 l k) (0+1) [AG (k+1)]=K5 l (k+1):=AR
   grind[AKT]
  simp only[e,JV,Vr hlt,DY,Df,wO,Rf hlt];refine⟨Ai,Ai,?_⟩;simp only[K5,DQ,wO,IX,JK,CI];refine⟨Ai,Ai,⟨Ai,Ai⟩,CS AA AA ?_⟩;refine BX l.rows (row:=[.sc (.int .i64 a)]) AA ?_ rfl AA ?_
  .simp[*,Ad]
  simp only[Df,DQ,wO,CP,Cd,JK];refine AH (NL a n hn hn2) ?_
  grind[AFo]
theorem HR {bs:List (List AV)} {id:Nat} {l:Src} (hB:NM bs id l) {m:List (List AV)} (hm:KT bs m) {k:Nat} (hk:k<=l.length) {n:Int} (hn:0<n) (hn2:n<2 ^ 62) (L:BI) (hro:L.ro<=id) (ts:List (Nat×Nat)) :
  ∃v s',(∃r k',v=AG r/\0<=r/\r<n/\k<=k'/\k'<=l.length/\s'=⟨ST bs id l k'++m,ts⟩)/\BG (env R) L 54 [.ptr id 0,AG n] ⟨ST bs id l k++m,ts⟩ v s':=by
 obtain⟨v,s',⟨r,k',h1,h2,h3,h4,h5,_,h6⟩,h7⟩:=Oy (R:=R) hB hm hk hn hn2 L hro ts;exact⟨v,s',⟨r,k',h1,h2,h3,h4,h5,h6⟩,h7⟩
theorem fQ (l:List Int) (L:BI) (s:AQ):∃v s',(v=.ptr s.bs.length 0/\s'=⟨s.bs++[K5 (.of l) 0],s.ts⟩)/\BG (env R) L 11 [.pv (.list (Ad l))] s v s':=by
 refine m11 (ASS ?_);simp[K5,Src.of]
end
section
variable {bs:List (List AV)} {id:Nat} {l:Src}
theorem EP (k:Nat) (m r:List (List AV)) (j:Nat):(ST bs id l k++(m++r))[bs.length+m.length+j]?=r[j]?:=by grind[Fc]
theorem KC (k:Nat) (m r:List (List AV)):(ST bs id l k++(m++r))[bs.length+m.length]?=r[0]?:=EP k m r 0
theorem Ii (k:Nat) (m r:List (List AV)) (j:Nat) (v:List AV):(ST bs id l k++(m++r)).set (bs.length+m.length+j) v=ST bs id l k++(m++r.set j v):=by grind[Fc]
theorem KD (k:Nat) (m r:List (List AV)) (v:List AV):(ST bs id l k++(m++r)).set (bs.length+m.length) v=ST bs id l k++(m++r.set 0 v):=Ii k m r 0 v
theorem Jj {m:List (List AV)} (hm:KT bs m) {r:List (List AV)} (hr:∀b∈r,Ag (bs.length+m.length+r.length) b=true):KT bs (m++r):=by
 intro b hb;rcases B7.1 hb with h|h
 .exact Bg AD b (hm b h)
 grind
variable {R:Nat->Option (List PV)}
theorem kL {l:List (List UInt8)}:EW l=[.list (E3 l)]:=rfl
theorem QX {g:Nat} {T:List (List UInt8)} (hG:(env R).G g=some (EW T)) {s:AQ} {K:AV->Prop} (h:K (.pv (.list (E3 T)))):Df (env R) s none (.Dt g 0) K:=by
 simp[Df,hG,wO,DQ,kL];exact h
theorem Vs:∀l:List (List UInt8),JA (E3 l) (E3 l)=true
 | []=>by rfl
 | s::l=>by
  have:=Vs l
  grind[E3,JA,Mj,Ni,Ic]
theorem zZ {L:BI} {s:AQ} {k:Nat} {a x:AV} {K K':AQ->Prop} (hC:∀s,K s->K' s) (h:HM L s k a x K):HM L s k a x K':=by
 unfold HM at h ⊢
 grind
theorem Gd {L:BI} {s:AQ} {k:Nat} {a x:AV} {K:AQ->Prop} {C:Prop} (hC:C) (h:HM L s k a x K):HM L s k a x λs=>C/\K s:=zZ (λ_ h=>⟨hC,h⟩) h
theorem kM {s:AQ} {w:List UInt8} {K:AV->Prop} (h:K (SS w)):Df (env R) s none (.Ct [.sc (.string ⟨w.toArray⟩)] 0) K:=by simp[*]
theorem aq {T:List (List UInt8)} {r:Int} {w:List UInt8} (h0:0<=r) (hw:T[r.toNat]?=some w) {s:AQ} {K:AV->Prop} (h:K (.Ct [.sc (.string ⟨w.toArray⟩)] 0)):ND s 1 (.pv (.list (E3 T))) (AG r) K:=
 BR (.list _) (row:=[.sc (.string ⟨w.toArray⟩)]) h0 (by grind[E3]) rfl AA h
theorem SQ (T:List (List UInt8)):C1 (.pv (.list (E3 T))) (.pv (.list (E3 T)))=true:=by simp[C1,Ni,Vs]
end
def Short (T:List (List UInt8)):Prop:=(∀s∈T,s.length<2 ^ 60)/\0<T.length/\T.length<2 ^ 60
def Rg (B:Nat) (t:Ty):Prop:=RB t/\size t<=B
theorem Rg.mono {B C:Nat} {t:Ty} (h:Rg B t) (hl:B<=C):Rg C t:=⟨h.1,BM h.2 hl⟩
theorem Rg.leaf {B:Nat} {k i:Int} {n:List UInt8} (hn:n.length<2 ^ 60) (hB:0<B):Rg B (.mk k n i []):=by
 refine⟨?_,?_⟩
 .simp[*,RB,Sk]
 assumption
def Jb (B:Nat) (l:List Ty):Prop:=Sk l/\Ac l<=B
theorem Jb.nil {B:Nat}:Jb B []:=by simp[Jb,Sk,Ac]
theorem Jb.cons {B C D:Nat} {t:Ty} {l:List Ty} (h:Rg B t) (h':Jb C l) (hl:B+C<=D):Jb D (t::l):=by
 obtain⟨a1,a3⟩:=h;obtain⟨b1,b3⟩:=h';refine⟨⟨a1,b1⟩,?_⟩
 grind[Ac]
theorem Jb.snoc:∀{l:List Ty} {B C D:Nat} {t:Ty},Jb C l->Rg B t->B+C<=D->Jb D (l++[t])
 | [],B,C,D,t,_,h,hl=>Jb.cons h Jb.nil (C:=0) AA
 | u::l,B,C,D,t,h',h,hl=>by
  obtain⟨b1,b3⟩:=h';simp only[Sk] at b1;simp only[Ac] at b3;have:=Jb.snoc (C:=Ac l) (D:=B+Ac l) ⟨b1.2,AY _⟩ h (AY _);exact Jb.cons (B:=size u) ⟨b1.1,AY _⟩ this AA
theorem Rg.node {B:Nat} {k i:Int} {n:List UInt8} {l:List Ty} (hn:n.length<2 ^ 60) (h:Jb B l):Rg (B+1) (.mk k n i l):=by
 obtain⟨b1,b3⟩:=h;refine⟨?_,?_⟩
 all_goals simp[*,RB,size]
theorem ACr.C1 {lo:Nat} {ts:List (Nat×Nat)} {k:Nat} {a:AV} {es:List Ty} (h:Dn lo ts k a (AZ es)):Tel.C1 a a=true:=by
 rcases h with rfl|⟨t,rfl,_⟩
 all_goals simp[*,Tel.C1,DU]
theorem KE {l:List Ty}:∀r∈AZ l,r.length=4:=λ_ h=>HP h
abbrev T0 (k:Int) (n:List UInt8) (i:Int):AV:=.agg [AG k,SS n,AG i,.AE []]
section
variable {bs:List (List AV)} {id:Nat} {l:Src}
theorem AST {rr:Bool} {N:Nat} (hB:NM bs id l) {m r:List (List AV)} (hm:KT bs m) {k:Nat} {ts:List (Nat×Nat)} {Post:AV->AQ->Prop} (hN:N=bs.length+m.length) {c i:Int} {n:List UInt8} {es:List Ty} {a:AV} (ha:BF a (AZ es))
  (h:∀x,BH (.mk c n i es) x->Post x ⟨ST bs id l k++m,ts⟩):QM rr N Post (.agg [AG c,SS n,AG i,a]) ⟨ST bs id l k++(m++r),ts⟩:=by
 subst hN;have e:(ST bs id l k++(m++r)).take (bs.length+m.length)=ST bs id l k++m:=by grind[Fc]
 obtain⟨a',h1,h2⟩:=ha.close (ST bs id l k++(m++r)) (bs.length+m.length) ts.length;refine aM (ds:=[AG c,SS n,AG i,a']) ?_ (by simp[h1]) ?_
 .simp only[e]
  exact hB.all hm k
 .simp only[e]
  exact h _ ⟨a',rfl,h2⟩
variable {R:Nat->Option (List PV)}
theorem au (hB:NM bs id l) {m r:List (List AV)} (hm:KT bs m) {k:Nat} {ts:List (Nat×Nat)} {Post:AV->AQ->Prop} {rr:Bool} {N:Nat} {L':BI} {Z:List AV} (hZ:Z.length=4) (hN:N=bs.length+m.length) (hro:L'.ro<=id) (hn0:L'.n0=0) {c i:Int} {n:List UInt8} {es:List Ty} {a:AV} (ha:BF a (AZ es))
  (h:∀x,BH (.mk c n i es) x->Post x ⟨ST bs id l k++m,ts⟩) :
  HM L' ⟨ST bs id l k++(m++Z::r),ts⟩ 4 (.ptr (bs.length+m.length) 0) (.agg [AG c,SS n,AG i,a]) λs1=>Df (env R) s1 (some 4) (.ptr (bs.length+m.length) 0) λr=>QM rr N Post r s1:=by
 have hlt:=hB.lt
 obtain⟨z0,z1,z2,z3,rfl⟩:∃z0 z1 z2 z3,Z=[z0,z1,z2,z3]:=by
  rcases Z with _|⟨a,_|⟨b,_|⟨c,_|⟨d,_|⟨e,l⟩⟩⟩⟩⟩ <;> simp at hZ
  exact⟨_,_,_,_,rfl⟩
 simp[KC,KD,show L'.ro<=bs.length+m.length by omega,hn0,ha.ok,ha.Jk]
 grind[AST]
theorem QY (hB:NM bs id l) {m r:List (List AV)} (hm:KT bs m) {k:Nat} {ts:List (Nat×Nat)} {Post:AV->AQ->Prop} {rr:Bool} {N:Nat} {L':BI} {Z:List AV} (hZ:Z.length=4) (hN:N=bs.length+m.length) (hro:L'.ro<=id) (hn0:L'.n0=0) {t:Ty} {v:AV} (hv:BH t v)
  (h:∀x,BH t x->Post x ⟨ST bs id l k++m,ts⟩) :
  HM L' ⟨ST bs id l k++(m++Z::r),ts⟩ 4 (.ptr (bs.length+m.length) 0) v λs1=>Df (env R) s1 (some 4) (.ptr (bs.length+m.length) 0) λr=>QM rr N Post r s1:=by
 obtain⟨c,n,i,es⟩:=t;obtain⟨a,rfl,ha⟩:=hv;exact au hB hm hZ hN hro hn0 ha h
theorem I1 {n:List UInt8} {a:AV} {rows:List (List PV)} (ha:A0 a rows):Ae (env R) 26 [SS n,a] λr=>r=.agg [AG 2,SS n,AG 0,a]:=by
 refine e26 (u0:=SS n) (u1:=a) (by simp[ha.close]) (ASU ?_);simp[QP,QI,ha.ok,ha.cells,ha.close]
theorem fT {a:AV} {rows:List (List PV)} (ha:A0 a rows):Ae (env R) 20 [a] λr=>r=.agg [AG 4,SS [],AG 0,a]:=by
 refine e20 (u0:=a) (by simp[ha.close]) (ASV ?_);simp[QP,QI,ha.ok,ha.cells,ha.close]
end
def ax (r:List PV):Prop:=∃(name:List UInt8) (n:Nat) (rest:List PV),r=.sc (.string ⟨name.toArray⟩)::.sc (.int .i64 n)::rest/\rest.length=6/\n<=2/\name.length<2 ^ 50/\(r.map AV.pv).all A7=true
structure Decls (v:AV) (rows:List (List PV)):Prop where
 rep:BF v rows
 row:∀r∈rows,ax r
 len:rows.length<100
section
variable {bs:List (List AV)} {id:Nat} {l:Src} {R:Nat->Option (List PV)}
def Vt (R:Nat->Option (List PV)) (bs:List (List AV)) (id:Nat) (l:Src) (dv:AV) (f:FuncId) (d:Int) (FM:Nat) (μ:Nat) (P:Nat->Ty->Prop):Prop:=∀{m:List (List AV)},KT bs m->∀{k:Nat},k<=l.length->∀(vars:Nat),(vars:Int)+d<=90->(l.length-k)*100+FM<μ->∀(L:BI),L.ro<=id->∀(ts:List (Nat×Nat)),L.rt<=ts.length ->
  ∃v s',(∃t k' x,BH t v/\P (8*(k'-k)+1) t/\k<=k'/\k'<=l.length/\s'=⟨ST bs id l k'++m,ts++x⟩)/\BG (env R) L f [.ptr id 0,dv,AG d,AG vars] ⟨ST bs id l k++m,ts⟩ v s'
def vl (t:Ty):Bool:=SJ t&&tX t
def oM (l:List Ty):Bool:=QC l&&Ws l
theorem za {k i:Int} {n:List UInt8} {ts:List Ty} (h5:(k==5)=false) (hl:ts.length<2 ^ 38) (h:oM ts=true):vl (.mk k n i ts)=true:=by
 simp only[oM,AI] at h;rw[vl,SJ,tX,h.1,h.2,h5,Aq hl];rfl
theorem oN {k i:Int} {n:List UInt8} (hv:-(2 ^ 60)<=i/\i<2 ^ 60):vl (.mk k n i [])=true:=by
 rw[vl,SJ,QC,tX,Ws,Aq hv.1,Aq hv.2];simp
theorem Ld {t:Ty} {l:List Ty}:oM (t::l)=(vl t&&oM l):=by
 rw[oM,vl,oM,QC,Ws];cases SJ t <;> cases tX t <;> cases QC l <;> rfl
theorem zb:∀{l:List Ty},(∀t∈l,vl t=true)->oM l=true
 | [],_=>rfl
 | t::l,h=>by rw[Ld,h t AD,zb λu hu=>h u (by simp[hu])]; rfl
theorem oO:∀l m:List Ty,oM (l++m)=(oM l&&oM m)
 | [],m=>by show oM m=(true&&oM m); rw[CY]
 | t::l,m=>by rw[DD,Ld,Ld,oO l m,Lo]
def Le (d B:Nat) (t:Ty):Prop:=Rg B t/\gq d t=true/\vl t=true
def az (d B:Nat) (l:List Ty):Prop:=Jb B l/\Vq d l=true/\oM l=true
def oP (d B:Nat) (t:Ty):Prop:=Rg B t/\(nz d t=true/\vl t=true)/\∃n i es,t=.mk 2 n i es
theorem oP.of {d B:Nat} {n:List UInt8} {i:Int} {es:List Ty} (h:Rg B (.mk 2 n i es)) (h':nz d (.mk 2 n i es)=true) (hl:es.length<2 ^ 38) (hv:oM es=true):oP d B (.mk 2 n i es):=⟨h,⟨h',za rfl hl hv⟩,_,_,_,rfl⟩
theorem oP.g {d B:Nat} {t:Ty} (h:oP d B t):Le d B t:=by
 obtain⟨h1,h2,n,i,es,rfl⟩:=h;exact⟨h1,h2⟩
def AOk (e:Int) (t:Ty):Prop:=(e<=0->size t<=1/\depth t<=1)/\(e<=1->size t<=3/\depth t<=2)
def tj (e:Int) (B:Nat) (t:Ty):Prop:=Rg B t/\AOk e t/\vl t=true
theorem tj.leaf {e:Int} {B:Nat} {k i:Int} {n:List UInt8} (hn:n.length<2 ^ 60) (hB:0<B) (hv:-(2 ^ 60)<=i/\i<2 ^ 60):tj e B (.mk k n i []):=⟨Rg.leaf hn hB,by simp[AOk,size,Ac,depth,Ci],oN hv⟩
theorem zc {t:Ty} (h:gq 0 t=true):size t<=3/\depth t<=2:=by
 obtain⟨k,n,i,ts⟩:=t;rw[gq] at h;cases h34:k==3||k==4 with
 | true=>rw[h34] at h; cases h
 | false=>
  rw[h34] at h;cases h6:k==6 with
  | true=>rw[h6] at h; cases h
  | false=>
   rw[h6] at h;cases h2:k==2 with
   | true=>
    rw[h2] at h;simp[nz] at h;exact h
   | false=>
    rw[h2] at h;simp only[AL,GN] at h;subst h;simp[size,Ac,depth,Ci]
theorem oP.a {d B C:Nat} {t:Ty} (h:oP d B t) (h0:¬ (d:Int)<=0) (hl:B<=C):tj d C t:=by
 refine⟨h.1.mono hl,⟨λh=>absurd h h0,λh1=>?_⟩,h.2.1.2⟩;have:d=1:=AA;subst this;have:=h.2.1.1;simpa[nz] using this
theorem Le.a {d B C:Nat} {t:Ty} (h:Le (d-1) B t) (h0:¬ (d:Int)<=0) (hl:B<=C):tj d C t:=by
 refine⟨h.1.mono hl,⟨λh=>absurd h h0,λh1=>?_⟩,h.2.2⟩;have:d=1:=AA;subst this;exact zc h.2.1
theorem ACs {d:Nat} {n:List UInt8} {i:Int} {es:List Ty} (hl:es.length<=2) (h:∀t∈es,AOk ((d:Int)-1) t):nz d (.mk 2 n i es)=true:=by
 have gen:∀(m q:Nat) (l:List Ty),(∀t∈l,size t<=m/\depth t<=q)->Ac l<=l.length*m/\Ci l<=q:=by
  intro m q l
  induction l with
  | nil=>simp[Ac,Ci]
  | cons a l ih=>
   intro h;have h1:=h a AD;have h2:=ih λt ht=>h t (by simp[ht])
   simp only[Ac,Ci,B4,EO,S8];omega
 by_cases h1:d<=1
 .obtain⟨q1,q2⟩:=gen 1 1 es λt ht=>(h t ht).1 AA
  exact QW (by simp only[size]; omega) (by simp only[depth]; omega)
 .by_cases h2:d=2
  .obtain⟨q1,q2⟩:=gen 3 2 es λt ht=>(h t ht).2 AA
   have q3:es.length*3<=6:=AA;subst h2;simp only[nz,size,depth];have e1:1+Ac es<=7:=AA;have e2:Ci es+1<=3:=AA;simp;omega
  .have e1:(d==2)=false:=by simpa using h2
   simp[nz,h1,e1]
theorem Le.mono {d B C:Nat} {t:Ty} (h:Le d B t) (hl:B<=C):Le d C t:=⟨h.1.mono hl,h.2⟩
theorem Le.leaf {d B:Nat} {k i:Int} {n:List UInt8} (h3:(k==3||k==4)=false) (h6:(k==6)=false) (hn:n.length<2 ^ 60) (hB:0<B) (hv:-(2 ^ 60)<=i/\i<2 ^ 60):Le d B (.mk k n i []):=⟨Rg.leaf hn hB,by
 rw[gq,h3,h6];cases k==2 with
 | true=>exact QW (by simp[size,Ac]) (by simp[depth,Ci])
 | false=>rfl,oN hv⟩
theorem az.nil {d B:Nat}:az d B []:=⟨Jb.nil,by rw[Vq],rfl⟩
theorem oQ (d:Nat):∀l m:List Ty,Vq d (l++m)=(Vq d l&&Vq d m)
 | [],m=>by rw[Cc,Vq,CY]
 | t::l,m=>by rw[DD,Vq,Vq,oQ d l m,Lo]
theorem az.snoc {l:List Ty} {d B C D:Nat} {t:Ty} (h:az d C l) (h':Le d B t) (hl:B+C<=D):az d D (l++[t]):=⟨h.1.snoc h'.1 hl,by rw[oQ,h.2.1,Vq,h'.2.1,Vq]; rfl,by rw[oO,h.2.2,Ld,h'.2.2]; rfl⟩
theorem Rg.pair {B C D:Nat} {k:Int} {t u:Ty} (h:Rg B t) (h':Rg C u) (hl:B+C+1<=D):Rg D (.mk k [] 0 [t,u]):=
 (Rg.node (B:=B+C) AD (Jb.cons h (Jb.cons h' Jb.nil (C:=0) (AY _)) (AY _))).mono hl
theorem oS {k:Int} {t u:Ty} (hk:(k==5)=false) (h:vl t=true) (h':vl u=true):vl (.mk k [] 0 [t,u])=true:=
 za hk AD (by rw[Ld,Ld,h,h']; rfl)
theorem Le.ex {d B C D:Nat} {t u:Ty} (hd:0<d) (h:Le 1 B t) (h':Le (d-1) C u) (hl:B+C+1<=D):Le d D (.mk 6 [] 0 [t,u]):=by
 refine⟨Rg.pair h.1 h'.1 hl,?_,oS rfl h.2.2 h'.2.2⟩;rw[gq,gqX,Vq,Vq,h.2.1,h'.2.1,Aq hd];rfl
theorem Le.un {d B C D:Nat} {t u:Ty} (hd:0<d) (h:Le (d-1) B t) (h':Le (d-1) C u) (hl:B+C+1<=D):Le d D (.mk 4 [] 0 [t,u]):=by
 refine⟨Rg.pair h.1 h'.1 hl,?_,oS rfl h.2.2 h'.2.2⟩;rw[gq,Vq,Vq,Vq,h.2.1,h'.2.1,Aq hd];rfl
theorem Le.tup {d B:Nat} {es:List Ty} (hd:0<d) (hl:es.length<=3) (h:az (d-1) B es):Le d (B+1) (.mk 3 [] 0 es):=by
 refine⟨Rg.node AD h.1,?_,?_⟩
 .rw[gq,h.2.1,Aq hd,Aq hl]
  rfl
 .exact za rfl AA h.2.2
theorem Vu {m:List (List AV)} (hm:KT bs m):KT bs (m++[Z4]):=Jj hm (by simp[Ag,Ax])
theorem ze {dv:AV} {rows:List (List PV)} (hd:Decls dv rows) {r:Int} (h0:0<=r) (h1:r<rows.length):∃row,rows[r.toNat]?=some row/\ax row/\row.length=8:=by
 obtain⟨row,hr⟩:∃row,rows[r.toNat]?=some row:=⟨_,Ay AA⟩;have h:=hd.row row (A5 hr);refine⟨row,hr,h,?_⟩;obtain⟨name,n,rest,rfl,h6,_⟩:=h
 grind
theorem Rh {W:List (List UInt8)} (hW:(env R).G 1=some (EW W)) (h4:W.length=4) (sW:Short W) {r:Int} (h0:0<=r) (h1:r<4):∃w,W[r.toNat]?=some w/\w.length<2 ^ 60:=by
 obtain⟨w,hw⟩:∃w,W[r.toNat]?=some w:=⟨_,Ay AA⟩;exact⟨w,hw,sW.1 w (A5 hw)⟩
theorem kN (hB:NM bs id l) {W:List (List UInt8)} (hW:(env R).G 1=some (EW W)) (h4:W.length=4) (sW:Short W) {dv:AV} {rows:List (List PV)} (hD:Decls dv rows) (μ:Nat)
  (j4:∀e:Int,-1<=e->e<=20->Vt R bs id l dv 115 e (3*(e+1).toNat) μ (tj e)) (d:Nat) (hd:d<=20):Vt R bs id l dv 83 d (3*d+1) (μ+1) (oP d):=by
 intro m hm k hk vars hvars hμ L hro ts El;have hlen:=hB.len;have hlt:=hB.lt
 suffices H:∀(rr:Bool) (N:Nat) (Post:AV->AQ->Prop),N=bs.length+m.length->(∀t v k' x,BH t v->oP d (8*(k'-k)+1) t->k<=k'->k'<=l.length->Post v ⟨ST bs id l k'++m,ts++x⟩)->AFq R 0 L.ro L.rt (.ptr id 0) dv (AG d) (AG vars) ⟨ST bs id l k++m,ts⟩ (QM rr N Post) from
  m83 AR (H _ _ _ (by simp[Fc]) λt v k' x h1 h2 h3 h4=>⟨t,k',x,h1,h2,h3,h4,rfl⟩)
 intro rr N Post hN hP;have hrl:=hD.len;have g1:∀n,L.ro<=bs.length+m.length+n:=λn=>by omega
 refine ASW ?_;simp only[IJ,Db,Bo,Fc]
 have ASX:∀(s:AQ) (K:AV->Prop),K (AG rows.length)->Gk s dv K:=by
  intro s K h;simp only[Gk,hD.rep.BD,wO];exact h
 refine ASX _ _ (Be AA AA ?_);refine CH (Oy (n:=(rows.length:Int)+4) hB (Vu hm) hk AA AA _ (by simp[*]) ts) ?_;rintro v s1 ⟨r,k1,rfl,WR,N4,Te,hk2,MU,rfl⟩;refine Ao ?_
 by_cases hr:r<4
 .have b4:decide (r<4)=true:=by grind
  rw[b4];obtain⟨w,hw,iw⟩:=Rh hW h4 sW WR hr;refine A1 (QX hW (aq WR hw (kM ?_)));refine AH (I1 (.AE [])) ?_;rintro v rfl
  exact au (R:=R) (Post:=Post) (rr:=rr) (N:=N) (k:=k1) (ts:=ts) (Z:=Z4) (r:=[]) (es:=[]) (a:=.AE []) (c:=2) (i:=0) (n:=w) (L':=CT (env R) 83 0 L.ro L.rt) hB hm rfl hN hro rfl (by simp[AZ]; exact .inl (.AE _)) (λx hx=>by
   have:=hP _ x k1 [] hx (oP.of (Rg.leaf iw AA) (QW (by simp[size,Ac]) (by simp[depth,Ci])) AD rfl) Te hk2
   grind)
 .have b4:decide (r<4)=false:=by grind
  rw[b4];have hkk:k<k1:=MU AA;obtain⟨row,hrow,⟨name,ar,rest,rfl,h6,har,Nk,hok⟩,h8⟩:=ze hD (r:=r-4) AA AA;refine Ar (ASY (I7 AA AA ?_));refine BX hD.rep (row:=.sc (.string ⟨name.toArray⟩)::.sc (.int .i64 ar)::rest) AA hrow h8 AA ?_
  have ASZ:∀(s:AQ) (K:AV->Prop),K (.agg ((.sc (.string ⟨name.toArray⟩)::.sc (.int .i64 ar)::rest).map AV.pv))->Df (env R) s (some 8) (.Ct (.sc (.string ⟨name.toArray⟩)::.sc (.int .i64 ar)::rest) 0) K:=by
   intro s K h;simp only[Df,DQ,Bt,h8,JL];refine⟨AA,?_⟩;rw[CV (by simp[h6])];exact h
  refine ASZ _ _ ?_;simp only[IJ];have eA:∀(k:Nat) (b:List AV) (t:List (Nat×Nat)),(⟨(ST bs id l k++(m++[Z4]))++[b],t⟩:AQ)=⟨ST bs id l k++(m++[Z4,b]),t⟩:=λk b t=>by simp
  have eL:(ST bs id l k1++(m++[Z4])).length=bs.length+m.length+1:=by simp[Fc]; omega
  simp only[eL,eA]
  have ASa:∀K:AQ->Prop,K ⟨ST bs id l k1++(m++[Z4,(PV.sc (.string ⟨name.toArray⟩)::.sc (.int .i64 ar)::rest).map AV.pv]),ts⟩->HM (CT (env R) 83 0 L.ro L.rt) ⟨ST bs id l k1++(m++[Z4,[(SS []),(AG 0),(AG 0),(SS []),(AG 0),(.AE []),(BB false),(.AE [])]]),ts⟩ 8 (.ptr (bs.length+m.length+1) 0) (.agg ((PV.sc (.string ⟨name.toArray⟩)::.sc (.int .i64 ar)::rest).map AV.pv)) K:=by
   intro K h;have hce:cellsOf (.agg ((PV.sc (.string ⟨name.toArray⟩)::.sc (.int .i64 ar)::rest).map AV.pv))=(PV.sc (.string ⟨name.toArray⟩)::.sc (.int .i64 ar)::rest).map AV.pv:=rfl;simp only[HM,EP,IX,JK,wO,hce,Bt];refine⟨⟨h8,by rw[h8]; simp,by have:=g1 1; simp[CT]; omega,hok,.inl (by simp[CT]),AA⟩,?_⟩;rw[Ii]
   obtain⟨x0,x1,x2,x3,x4,x5,rfl⟩:∃x0 x1 x2 x3 x4 x5,rest=[x0,x1,x2,x3,x4,x5]:=by
    rcases rest with _|⟨a,_|⟨b,_|⟨c,_|⟨d,_|⟨e,_|⟨f,_|⟨g,r⟩⟩⟩⟩⟩⟩⟩ <;> simp at h6
    simp
   simp_all
  refine ASa _ ?_;generalize hDB:(PV.sc (.string ⟨name.toArray⟩)::.sc (.int .i64 ar)::rest).map AV.pv=DB;have Aa3:DB[0]?=some (SS name):=by rw[<-hDB]; rfl
  have AKU:DB[1]?=some (AG ar):=by rw[<-hDB]; rfl
  have hDBi:∀n,Ag n DB=true:=by
   intro n;rw[<-hDB];clear hDB ASZ ASa hok h8 hrow Aa3 AKU;generalize (PV.sc (.string ⟨name.toArray⟩)::.sc (.int .i64 ar)::rest)=R0
   induction R0 with
   | nil=>rfl
   | cons p R0 ih=>assumption
  have hDBn:DB≠[]:=by intro e; simp_all
  have alD:∀(k:Nat) (b:List AV) (t:List (Nat×Nat)),alive ⟨ST bs id l k++(m++Z4::DB::[b]),t⟩ (bs.length+m.length+1)=true:=by
   intro k b t
   obtain⟨c,r,hc⟩:∃c r,DB=c::r:=by
    cases DB with
    | nil=>grind
    | cons c r=>simp
   simp[*,EP]
  have Aa4:∀(K:AV->Prop),K (.ptr (bs.length+m.length+1) 0)->DY ⟨ST bs id l k1++(m++[Z4,DB]),ts⟩ (.ptr (bs.length+m.length+1) 0) 0 K:=by simp_all[EP]
  have ld0:∀(K:AV->Prop),K (SS name)->Df (env R) ⟨ST bs id l k1++(m++[Z4,DB]),ts⟩ none (.ptr (bs.length+m.length+1) 0) K:=by simp[*,EP]
  refine Aa4 _ (ld0 _ ?_);refine HO (cs:=[AG 2,SS name,AG 0,.AE []]) AD ?_;have eA2:∀(k:Nat) (b:List AV) (t:List (Nat×Nat)),(⟨(ST bs id l k++(m++[Z4,DB]))++[b],t⟩:AQ)=⟨ST bs id l k++(m++[Z4,DB,b]),t⟩:=λk b t=>by simp
  have eL2:(ST bs id l k1++(m++[Z4,DB])).length=bs.length+m.length+2:=by simp[Fc]; omega
  simp only[eL2,eA2];have Aa5:∀K:AQ->Prop,K ⟨ST bs id l k1++(m++[Z4,DB,[AG 2,SS name,AG 0,.AE []]]),ts⟩->HM (CT (env R) 83 0 L.ro L.rt) ⟨ST bs id l k1++(m++[Z4,DB,Z4]),ts⟩ 4 (.ptr (bs.length+m.length+2) 0) (.agg [AG 2,SS name,AG 0,.AE []]) K:=by simp[*,EP,Ii]
  refine Aa5 _ ?_
  have loop:∀(j q k2:Nat) (x:List (Nat×Nat)) (a:AV) (es:List Ty),q+j=ar->k1<=k2->k2<=l.length->es.length=q->(∀t∈es,AOk ((d:Int)-1) t/\vl t=true)->Jb (8*(k2-k1)+q) es->Dn ts.length (ts++x) 25 a (AZ es) ->
    AFr R 0 L.ro L.rt (.ptr id 0) dv (AG d) (AG vars) (.ptr (bs.length+m.length) 0) (.ptr (bs.length+m.length+1) 0) (.ptr (bs.length+m.length+2) 0) (AG q) ⟨ST bs id l k2++(m++[Z4,DB,[AG 2,SS name,AG 0,a]]),ts++x⟩ (QM rr N Post):=by
   intro j
   induction j with
   | zero=>
    intro q k2 x a es hq AKV kO hes hez hqs ha;have ho:=ha.A4;refine AFs ⟨alD _ _ _,?_⟩;simp only[Df,EP,IX,JK,wO,DQ,CI,AKU];refine Ao ?_;have h1:¬ ((q:Int)<ar):=AA;simp only[h1,ZG];refine Ar (ASb ?_);have:=au (R:=R) (Post:=Post) (rr:=rr) (N:=N) (k:=k2) (ts:=ts++x) (Z:=Z4) (r:=[DB,[AG 2,SS name,AG 0,a]]) (L':=CT (env R) 83 0 L.ro L.rt) hB hm rfl hN hro rfl ho (c:=2) (i:=0) (n:=name) (λy hy=>hP _ y k2 x hy (oP.of ((Rg.node AA hqs).mono AA) (ACs AA λt ht=>(hez t ht).1) AA (zb λt ht=>(hez t ht).2)) AA kO);simpa[Df,wO,DQ,EP] using this
   | succ j D9=>
    intro q k2 x a es hq AKV kO hes hez hqs ha;have ho:=ha.A4;refine AFs ⟨alD _ _ _,?_⟩;simp only[Df,EP,IX,JK,wO,DQ,CI,AKU];refine Ao ?_;have h1:((q:Int)<ar):=AA;simp only[h1,decide_true];refine A1 (ASc ?_)
    have hm2:KT bs (m++[Z4,DB,[AG 2,SS name,AG 0,a]]):=Jj hm (by
     intro b hb;simp only[A3,D4,D5] at hb;rcases hb with rfl|rfl|rfl
     .rfl
     .simp[*]
     .simp[Ag,Ax,ho.Ax])
    simp[EP,KC,Ii,KD];refine CS AA AA ?_;refine CH (j4 ((d:Int)-1) AA AA hm2 kO vars AA AA (CT (env R) 83 0 L.ro L.rt) hro (ts++x) (by simp[CT]; omega)) ?_;rintro v s1 ⟨t,k3,x2,hv,hqn,MZ,bX,rfl⟩;obtain⟨c1,n1,i1,sQ⟩:=t;obtain⟨b,rfl,hb⟩:=hv;simp[GY,Fx,hb.ok,hb.KM,EP,KC,Ii,KD];have hrow:CJ 4 1 [PV.sc (.int .i64 c1),.sc (.string ⟨n1.toArray⟩),.sc (.int .i64 i1),.list (AZ sQ)]=[Ah (.mk c1 n1 i1 sQ)]:=AR;rw[hrow]
    have UO:Dn ts.length (ts++(x++x2)) 25 a (AZ es):=by
     rw[<-Db];exact ha.grow
    refine M9 UO El (λr hr=>KE r hr) (Aj _) AA (Cx _) (by simp[Ab]; omega) (by simp[Ab]; omega) ?_;intro a' x' Np;have ho':=Np.A4;have:=g1 2;simp[EP,KC,Ii,KD,ho'.ok,ho'.cells,ho'.Jk,this];refine⟨by simp[C1],?_,?_⟩
    .simpa[ACr.C1] using ACr.C1 ha
    refine ASd (Be AA AA ?_);have ha3:Dn ts.length (ts++x') 25 a' (AZ (es++[.mk c1 n1 i1 sQ])):=by simp[*,EC,AZ]
    have:=D9 (q+1) k3 x' a' (es++[.mk c1 n1 i1 sQ]) AA AA bX (by simp[*]) (λt ht=>by
     rcases B7.1 ht with ht|ht
     .exact hez t ht
     .rw[Dl.1 ht]
      exact hqn.2) (Jb.snoc hqs hqn.1 AA) ha3
    grind
  have:=loop ar 0 k1 [] (.AE []) [] AA (AY _) hk2 rfl (λt ht=>by cases ht) Jb.nil (.inl AR)
  grind
end
section
variable {bs:List (List AV)} {id:Nat} {l:Src} {R:Nat->Option (List PV)}
theorem zf (hB:NM bs id l) {W:List (List UInt8)} (hW:(env R).G 1=some (EW W)) (h4:W.length=4) (sW:Short W) {dv:AV} (μ:Nat)
  (ihn:∀d:Nat,d<=20->Vt R bs id l dv 83 d (3*d+1) μ (oP d)) (iht:∀d:Nat,d<=20->Vt R bs id l dv 41 d (3*d+2) μ (Le d)) (e:Int) (he:-1<=e) (he2:e<=20):Vt R bs id l dv 115 e (3*(e+1).toNat) (μ+1) (tj e):=by
 intro m hm k hk vars hvars hμ L hro ts El;have hlen:=hB.len;have hlt:=hB.lt
 suffices H:∀(rr:Bool) (N:Nat) (Post:AV->AQ->Prop),N=bs.length+m.length->(∀t v k' x,BH t v->tj e (8*(k'-k)+1) t->k<=k'->k'<=l.length->Post v ⟨ST bs id l k'++m,ts++x⟩)->zg R 0 L.ro L.rt (.ptr id 0) dv (AG e) (AG vars) ⟨ST bs id l k++m,ts⟩ (QM rr N Post) from
  Aa7 AR (H _ _ _ (by simp[Fc]) λt v k' x h1 h2 h3 h4=>⟨t,k',x,h1,h2,h3,h4,rfl⟩)
 intro rr N Post hN hP;have hm':=Vu hm
 have fin:∀(k1:Nat) (x:List (Nat×Nat)) (t:Ty) (v:AV),BH t v->tj e (8*(k1-k)+1) t->k<=k1->k1<=l.length->HM (CT (env R) 115 0 L.ro L.rt) ⟨ST bs id l k1++(m++[Z4]),ts++x⟩ 4 (.ptr (bs.length+m.length) 0) v λs1=>Df (env R) s1 (some 4) (.ptr (bs.length+m.length) 0) λr=>QM rr N Post r s1:=
  λk1 x t v hv hb h1 h2=>QY (R:=R) (Post:=Post) (rr:=rr) (N:=N) (k:=k1) (ts:=ts++x) (Z:=Z4) (r:=[]) (L':=CT (env R) 115 0 L.ro L.rt) hB hm rfl hN hro rfl hv (λy hy=>hP t y k1 x hy hb h1 h2)
 have fU:∀(k1:Nat) (t:Ty) (v:AV),BH t v->tj e (8*(k1-k)+1) t->k<=k1->k1<=l.length->HM (CT (env R) 115 0 L.ro L.rt) ⟨ST bs id l k1++(m++[Z4]),ts⟩ 4 (.ptr (bs.length+m.length) 0) v λs1=>Df (env R) s1 (some 4) (.ptr (bs.length+m.length) 0) λr=>QM rr N Post r s1:=by
  intro k1 t v hv hb h1 h2;have:=fin k1 [] t v hv hb h1 h2
  grind
 refine AKY ?_;simp only[IJ,Db,Bo,Fc];refine CH (HR (n:=6) hB hm' hk AA AA _ Ba ts) ?_;rintro v s1 ⟨r,k1,rfl,WR,N4,Te,hk2,rfl⟩;have mu1:(l.length-k1)*100<=(l.length-k)*100:=B5 _ AA;have rest:DI .i64 .leq (AG e) (AG 0) λa25=>
 Dc a25 (
 Df (env R) ⟨ST bs id l k1++(m++[Z4]),ts⟩ none (.Dt 1 0) λa26=>
 D0 (env R) (CT (env R) 115 0 L.ro L.rt) (.func (.func 54) [] []) [(.ptr id 0),(AG 4)] ⟨ST bs id l k1++(m++[Z4]),ts⟩ λa28 ACt=>
 ND ACt 1 a26 a28 λa29=>
 Df (env R) ACt none a29 λa30=>
 D0 (env R) (CT (env R) 115 0 L.ro L.rt) (.func (.func 26) [] []) [a30,(.AE [])] ACt λa31 jX=>
 HM (CT (env R) 115 0 L.ro L.rt) jX 4 (.ptr (bs.length+m.length) 0) a31 λoT=>
(Df (env R) ACt none (.Dt 1 0) λv=>C1 v a26=true) /\
 Df (env R) oT (some 4) (.ptr (bs.length+m.length) 0) λAa8=>
 QM rr N Post Aa8 oT) (
 DI .i64 .lss (AG r) (AG 4) λa34=>
 Dc a34 (
 D0 (env R) (CT (env R) 115 0 L.ro L.rt) (.func (.func 83) [] []) [(.ptr id 0),dv,(AG e),(AG vars)] ⟨ST bs id l k1++(m++[Z4]),ts⟩ λa39 zh=>
 HM (CT (env R) 115 0 L.ro L.rt) zh 4 (.ptr (bs.length+m.length) 0) a39 λSR=>
 Df (env R) SR (some 4) (.ptr (bs.length+m.length) 0) λAa9=>
 QM rr N Post Aa9 SR) (
 zi R 0 L.ro L.rt (.ptr id 0) dv (AG e) (.ptr (bs.length+m.length) 0) ⟨ST bs id l k1++(m++[Z4]),ts⟩ (QM rr N Post))):=by
  refine Z8 ?_
  by_cases h0:e<=0
  .have b0:decide (e<=0)=true:=by grind
   rw[b0];refine A1 (QX hW ?_);refine CH (HR (n:=4) hB hm' hk2 AA AA _ Ba ts) ?_;rintro v s1 ⟨r2,k2,rfl,th,hr4,MU,MZ,rfl⟩;obtain⟨w,hw,iw⟩:=Rh hW h4 sW th hr4;refine aq th hw (kM ?_);refine AH (I1 (.AE [])) ?_;rintro v rfl;exact Gd (QX hW (SQ W)) (fU k2 (.mk 2 w 0 []) _ ⟨_,rfl,by simp[AZ]; exact .inl (.AE _)⟩ (tj.leaf iw AA AA) AA MZ)
  .have b0:decide (e<=0)=false:=by grind
   rw[b0];obtain⟨d,rfl⟩:=lU (show 0<=e by omega);refine Ar (Ao ?_);cases b4:decide (r<4) with
   | true=>
    refine A1 ?_;refine CH (ihn d AA hm' hk2 vars AA AA (CT (env R) 115 0 L.ro L.rt) hro ts Ba) ?_;rintro v s1 ⟨t,k3,x,hv,hb,MU,MZ,rfl⟩;exact fin k3 x t v hv (hb.a h0 AA) AA MZ
   | false=>
    refine Ar (AKZ (I7 AA AA ?_));have e3:((d:Nat):Int)-1=((d-1:Nat):Int):=AA;rw[e3];refine CH (iht (d-1) AA hm' hk2 0 AA AA (CT (env R) 115 0 L.ro L.rt) hro ts Ba) ?_;rintro v s1 ⟨t,k3,x,hv,hb,MU,MZ,rfl⟩;exact fin k3 x t v hv (hb.a h0 AA) AA MZ
 refine Ao ?_;cases b2:decide (r<2) with
 | false=>exact K0 AD (K0 AD (pk (Ar rest)))
 | true=>
  refine Ak (Ak (Fm (pk ?_)))
  by_cases TP:vars=0
  .have b0:decide ((vars:Int)>0)=false:=by grind
   grind[Ar]
  .have b0:decide ((vars:Int)>0)=true:=by grind
   rw[b0];refine A1 ?_;refine CH (HR (n:=vars) hB hm' hk2 AA AA _ Ba ts) ?_;rintro v s1 ⟨r2,k2,rfl,th,hr4,MU,MZ,rfl⟩;refine AH (Gs r2) ?_;rintro v rfl;exact fU k2 (.mk 5 [] r2 []) _ ⟨_,rfl,by simp[AZ]; exact .inl (.AE _)⟩ (tj.leaf AD AA AA) AA MZ
end
section
variable {bs:List (List AV)} {id:Nat} {l:Src} {R:Nat->Option (List PV)}
theorem Vv:Ae (env R) 53 [] λr=>r=T0 0 [] 0:=by
 refine e53 AD (ASe ?_);simp[QP,QI]
theorem kP:Ae (env R) 80 [] λr=>r=T0 1 [] 0:=by
 refine e80 AD (ASf ?_);simp[QP,QI]
theorem bA {k1 i1 k2 i2:Int} {n1 n2:List UInt8} {a1 a2:AV} {AFu AFv:List (List PV)} (h1:BF a1 AFu) (h2:BF a2 AFv) :
  Ae (env R) 52 [.agg [AG k1,SS n1,AG i1,a1],.agg [AG k2,SS n2,AG i2,a2]] λr=>r=.agg [AG 6,SS [],AG 0,.AE [[.sc (.int .i64 k1),.sc (.string ⟨n1.toArray⟩),.sc (.int .i64 i1),.list AFu],[.sc (.int .i64 k2),.sc (.string ⟨n2.toArray⟩),.sc (.int .i64 i2),.list AFv]]]:=by
 obtain⟨b1,c1,r1⟩:=h1.closed ([]:List (List AV)) 0;obtain⟨b2,c2,r2⟩:=h2.closed ([]:List (List AV)) 0;refine e52 (u0:=.agg [AG k1,SS n1,AG i1,b1]) (u1:=.agg [AG k2,SS n2,AG i2,b2]) (by simp[*]) (ASg ?_);simp[QP,QI,r1.ok,r2.ok,r1.KM,r2.KM,GY,Fx,CJ]
theorem BH.self {t:Ty} {v:AV} (h:BH t v):C1 v v=true:=by
 obtain⟨k,n,i,ts⟩:=t;obtain⟨a,rfl,ha⟩:=h
 grind[C1,Ij,Ni,Fa,Ic,BF.C1]
theorem QZ {t u:Ty} {x y:AV} (h:BH t x) (h':BH u y):Ae (env R) 52 [x,y] λr=>BH (.mk 6 [] 0 [t,u]) r:=by
 obtain⟨k,n,i,ts⟩:=t;obtain⟨k',n',i',ts'⟩:=u;obtain⟨a,rfl,ha⟩:=h;obtain⟨a',rfl,Np⟩:=h';obtain⟨v,hv,hc⟩:=bA (R:=R) (k1:=k) (i1:=i) (k2:=k') (i2:=i') (n1:=n) (n2:=n') ha Np;exact⟨v,⟨_,hv,by simp[AZ,Ah]; exact .inl (.AE _)⟩,hc⟩
theorem Qa {t u:Ty} {x y:AV} (h:BH t x) (h':BH u y) (s:AQ) (K:AV->AQ->Prop) (hK:K (.AE (AZ [t,u])) s):GY false s 4 [(AG 0),(SS []),(AG 0),(.AE [])] 2 [(0,4,x),(4,4,y)] K:=by
 obtain⟨k,n,i,ts⟩:=t;obtain⟨k',n',i',ts'⟩:=u;obtain⟨a,rfl,ha⟩:=h;obtain⟨a',rfl,Np⟩:=h';simp[GY,Fx,CJ,ha.ok,ha.KM,Np.ok,Np.KM]
 assumption
theorem sR (hB:NM bs id l) {W:List (List UInt8)} (hW:(env R).G 1=some (EW W)) (h4:W.length=4) (sW:Short W) {dv:AV} (μ:Nat)
  (ihn:∀d:Nat,d<=20->Vt R bs id l dv 83 d (3*d+1) μ (oP d)) (iht:∀d:Nat,d<=20->Vt R bs id l dv 41 d (3*d+2) μ (Le d)) (d:Nat) (hd:d<=20):Vt R bs id l dv 41 d (3*d+2) (μ+1) (Le d):=by
 intro m hm k hk vars hvars hμ L hro ts El;have hlen:=hB.len;have hlt:=hB.lt
 suffices H:∀(rr:Bool) (N:Nat) (Post:AV->AQ->Prop),N=bs.length+m.length->(∀t v k' x,BH t v->Le d (8*(k'-k)+1) t->k<=k'->k'<=l.length->Post v ⟨ST bs id l k'++m,ts++x⟩)->AFw R 0 L.ro L.rt (.ptr id 0) dv (AG d) (AG vars) ⟨ST bs id l k++m,ts⟩ (QM rr N Post) from
  m41 (by simp[C7,FR]) (H _ _ _ (by simp[Fc]) λt v k' x h1 h2 h3 h4=>⟨t,k',x,h1,h2,h3,h4,rfl⟩)
 intro rr N Post hN hP;have hm':=Vu hm;have g1:∀n,L.ro<=bs.length+m.length+n:=λn=>by omega
 have fin:∀(k1:Nat) (x:List (Nat×Nat)) (r:List (List AV)) (t:Ty) (v:AV),BH t v->Le d (8*(k1-k)+1) t->k<=k1->k1<=l.length->HM (CT (env R) 41 0 L.ro L.rt) ⟨ST bs id l k1++(m++Z4::r),ts++x⟩ 4 (.ptr (bs.length+m.length) 0) v λs1=>Df (env R) s1 (some 4) (.ptr (bs.length+m.length) 0) λr=>QM rr N Post r s1:=
  λk1 x r t v hv hb h1 h2=>QY (R:=R) (Post:=Post) (rr:=rr) (N:=N) (k:=k1) (ts:=ts++x) (Z:=Z4) (r:=r) (L':=CT (env R) 41 0 L.ro L.rt) hB hm rfl hN hro rfl hv (λy hy=>hP t y k1 x hy hb h1 h2)
 have fU:∀(k1:Nat) (r:List (List AV)) (t:Ty) (v:AV),BH t v->Le d (8*(k1-k)+1) t->k<=k1->k1<=l.length->HM (CT (env R) 41 0 L.ro L.rt) ⟨ST bs id l k1++(m++Z4::r),ts⟩ 4 (.ptr (bs.length+m.length) 0) v λs1=>Df (env R) s1 (some 4) (.ptr (bs.length+m.length) 0) λr=>QM rr N Post r s1:=by
  intro k1 r t v hv hb h1 h2;have:=fin k1 [] r t v hv hb h1 h2;simpa using this
 have rt':∀x:List (Nat×Nat),(CT (env R) 41 0 L.ro L.rt).rt<=(ts++x).length:=λx=>by simp[CT]; omega
 have mu:∀k1,k<=k1->(l.length-k1)*100<=(l.length-k)*100:=λk1 h=>B5 _ AA
 have mus:∀k1,k<k1->k1<=l.length->(l.length-k1)*100+100<=(l.length-k)*100:=λk1 h h'=>by
  have:(l.length-k1+1)*100<=(l.length-k)*100:=B5 _ AA;omega
 have ACu:∀k1,k<=k1->k1<=l.length->D0 (env R) (CT (env R) 41 0 L.ro L.rt) (.func (.func 83) [] []) [(.ptr id 0),dv,(AG d),(AG vars)] ⟨ST bs id l k1++(m++[Z4]),ts⟩ λa48 fL=>
   HM (CT (env R) 41 0 L.ro L.rt) fL 4 (.ptr (bs.length+m.length) 0) a48 λAJg=>Df (env R) AJg (some 4) (.ptr (bs.length+m.length) 0) λr=>QM rr N Post r AJg:=by
  intro k1 h1 h2;refine CH (ihn d hd hm' h2 vars hvars (by have:=mu k1 h1; omega) (CT (env R) 41 0 L.ro L.rt) hro ts (by simpa[CT] using El)) ?_;rintro v s1 ⟨t,k3,x,hv,hb,MU,MZ,rfl⟩;exact fin k3 x [] t v hv (hb.g.mono AA) AA MZ
 have last:∀k1,0<d->k<k1->k1<=l.length->zj R 0 L.ro L.rt (.ptr id 0) (.ptr (bs.length+m.length) 0) ⟨ST bs id l k1++(m++[Z4]),ts⟩ (QM rr N Post):=by
  intro k1 sA h1 h2;refine AKa ?_;refine CH (HR (n:=4) hB hm' h2 AA AA _ (by simp[*]) ts) ?_;rintro v s1 ⟨r2,k2,rfl,th,hr4,MU,MZ,rfl⟩;refine Av ?_;cases (r2==0) with
  | true=>
   refine A1 ?_;refine AH kP ?_;rintro v rfl;exact fU k2 [] (.mk 1 [] 0 []) _ ⟨_,rfl,by simp[AZ]; exact .inl (.AE _)⟩ (Le.leaf rfl rfl AD AA AA) AA MZ
  | false=>
   refine Ar (AKb ?_);refine AH Vv ?_;rintro v rfl;refine AH (Gs 0) ?_;rintro v rfl
   have Qq:∀(s:AQ) (K:AV->AQ->Prop),K (.AE (AZ [.mk 5 [] 0 []])) s->GY false s 4 [(AG 0),(SS []),(AG 0),(.AE [])] 1 [(0,4,T0 5 [] 0)] K:=by
    intro s K hK;simp[GY,Fx,CJ];simpa[AZ,Ah] using hK
   refine Qq _ _ ?_;refine AH (I1 (.AE _)) ?_;rintro v rfl;refine AH (QZ (t:=.mk 0 [] 0 []) (u:=.mk 2 [66,111,120] 0 [.mk 5 [] 0 []]) ⟨_,rfl,by simp[AZ]; exact .inl (.AE _)⟩ ⟨_,rfl,.inl (.AE _)⟩) ?_;intro v hv;refine fU k2 [] _ _ hv ?_ AA MZ;exact Le.ex (B:=1) (C:=2) sA (Le.leaf rfl rfl AD AA AA) ((oP.of (Rg.node (B:=1) AD (Jb.cons (B:=1) (C:=0) (Rg.leaf AD AA) Jb.nil AA)) (QW (by simp[size,Ac]) (by simp[depth,Ci])) AD AR).g) AA
 have ASh:∀(k1:Nat) (x:List (Nat×Nat)) (tb:Ty) (vb:List AV),BH tb (.agg vb)->vb.length=4->(vb.all A7)=true->(∀n,Ag n vb=true)->0<d->k<k1->k1<=l.length->Le 1 (8*(k1-k)-7) tb ->
   AFx R 0 L.ro L.rt (.ptr id 0) dv (AG d) (AG vars) (.ptr (bs.length+m.length) 0) (.ptr (bs.length+m.length+1) 0) ⟨ST bs id l k1++(m++[Z4,vb]),ts++x⟩ (QM rr N Post):=by
  intro k1 x tb vb EN hv4 hok UD sA h1 h2 hsz;have hld:∀(k:Nat) (t:List (Nat×Nat)) (K:AV->Prop),K (.agg vb)->Df (env R) ⟨ST bs id l k++(m++[Z4,vb]),t⟩ (some 4) (.ptr (bs.length+m.length+1) 0) K:=by simp[*,EP,CV]
  refine ASi (hld _ _ _ (I7 AA AA (Be AA AA ?_)));have e3:((d:Nat):Int)-1=((d-1:Nat):Int):=AA;have e4:((vars:Nat):Int)+1=((vars+1:Nat):Int):=AA;rw[e3,e4]
  have hm2:KT bs (m++[Z4,vb]):=Jj hm (by
   intro b hb;simp only[A3,D4,D5] at hb;rcases hb with rfl|rfl
   all_goals simp[*,Ag,Ax])
  refine CH (iht (d-1) AA hm2 h2 (vars+1) AA AA (CT (env R) 41 0 L.ro L.rt) hro (ts++x) (rt' x)) ?_;rintro v s1 ⟨t,k3,x3,hv,hb,MU,MZ,rfl⟩;refine AH (QZ EN hv) ?_;intro w hw;refine Gd (hld _ _ _ EN.self) ?_;rw[Db];refine fin k3 (x++x3) [vb] _ w hw ?_ AA MZ;exact Le.ex sA hsz hb AA
 have loop:∀(k1 cnt:Nat),0<d->k<k1->k1<=l.length->cnt<=3->∀(j q k2:Nat) (x:List (Nat×Nat)) (a:AV) (es:List Ty),q+j=cnt->k1<=k2->k2<=l.length->es.length=q->az (d-1) (8*(k2-k1)+q) es->Dn ts.length (ts++x) 25 a (AZ es) ->
   AFy R 0 L.ro L.rt (.ptr id 0) dv (AG d) (AG vars) (.ptr (bs.length+m.length) 0) (.ptr (bs.length+m.length+1) 0) (AG cnt) (AG q) ⟨ST bs id l k2++(m++[Z4,[AG 3,SS [],AG 0,a]]),ts++x⟩ (QM rr N Post):=by
  intro k1 cnt sA Te hk2 RI j
  induction j with
  | zero=>
   intro q k2 x a es hq AKV kO hes hqs ha;have ho:=ha.A4;refine AFz (Ao ?_);have h1:¬ ((q:Int)<cnt):=AA;simp only[h1,ZG];refine Ar (AKc ?_);have:=fin k2 x [[AG 3,SS [],AG 0,a]] (.mk 3 [] 0 es) (.agg [AG 3,SS [],AG 0,a]) ⟨a,rfl,ho⟩ ((Le.tup sA AA hqs).mono AA) AA kO;simpa[Df,wO,DQ,EP] using this
  | succ j D9=>
   intro q k2 x a es hq AKV kO hes hqs ha;have ho:=ha.A4;refine AFz (Ao ?_);have h1:((q:Int)<cnt):=AA;simp only[h1,decide_true];refine A1 (AKd ?_);have hm2:KT bs (m++[Z4,[AG 3,SS [],AG 0,a]]):=Jj hm (by simp[Ag,Ax,ho.Ax]);simp[EP,KC,Ii,KD];refine CS AA AA ?_;have e3:((d:Nat):Int)-1=((d-1:Nat):Int):=AA;rw[e3];refine CH (iht (d-1) AA hm2 kO vars AA AA (CT (env R) 41 0 L.ro L.rt) hro (ts++x) (rt' x)) ?_;rintro v s1 ⟨t,k3,x2,hv,hqn,MZ,bX,rfl⟩;obtain⟨c1,n1,i1,sQ⟩:=t;obtain⟨b,rfl,hb⟩:=hv;simp[GY,Fx,hb.ok,hb.KM,EP,KC,Ii,KD];have hrow:CJ 4 1 [PV.sc (.int .i64 c1),.sc (.string ⟨n1.toArray⟩),.sc (.int .i64 i1),.list (AZ sQ)]=[Ah (.mk c1 n1 i1 sQ)]:=AR;rw[hrow]
   have UO:Dn ts.length (ts++(x++x2)) 25 a (AZ es):=by
    rw[<-Db];exact ha.grow
   refine M9 UO El (λr hr=>KE r hr) (Aj _) AA (Cx _) (by simp[Ab]; omega) (by simp[Ab]; omega) ?_;intro a' x' Np;have ho':=Np.A4;have:=g1 1;simp[EP,KC,Ii,KD,ho'.ok,ho'.cells,ho'.Jk,this];refine⟨by simp[C1],?_,?_⟩
   .simpa[ACr.C1] using ACr.C1 ha
   refine AKe (Be AA AA ?_)
   have ha3:Dn ts.length (ts++x') 25 a' (AZ (es++[.mk c1 n1 i1 sQ])):=by
    rw[EC];simpa[AZ] using Np
   have:=D9 (q+1) k3 x' a' (es++[.mk c1 n1 i1 sQ]) AA AA bX (by simp; omega) (az.snoc hqs hqn AA) ha3;simpa using this
 have AbB:∀(k1:Nat) (r:Int),0<=r->k<=k1->k1<=l.length->(r≠0->k<k1)->(5<r->0<d)->AF0 R 0 L.ro L.rt (.ptr id 0) dv (AG d) (AG vars) (.ptr (bs.length+m.length) 0) (AG r) ⟨ST bs id l k1++(m++[Z4]),ts⟩ (QM rr N Post):=by
  intro k1 r h0r h1 h2 hkk hd5
  have c7:∀B:Bool,(r=10\/r=11->B=true)->(B=true->r=10\/r=11)->9<r->AF1 R 0 L.ro L.rt (.ptr id 0) dv (AG d) (AG vars) (.ptr (bs.length+m.length) 0) (AG r) (BB B) ⟨ST bs id l k1++(m++[Z4]),ts⟩ (QM rr N Post):=by
   intro B hB1 hB2 h9;have sA:=hd5 AA;have tM:=hkk AA;have eL:∀k,(ST bs id l k++(m++[Z4])).length=bs.length+m.length+1:=λk=>by simp[Fc]; omega
   have eA:∀(k:Nat) (b:List AV) (t:List (Nat×Nat)),(⟨(ST bs id l k++(m++[Z4]))++[b],t⟩:AQ)=⟨ST bs id l k++(m++[Z4,b]),t⟩:=λk b t=>by simp
   have st4:∀(k:Nat) (t:List (Nat×Nat)) (z b:List AV),z.length=4->b.length=4->(b.all A7)=true->∀K:AQ->Prop,K ⟨ST bs id l k++(m++[Z4,b]),t⟩->HM (CT (env R) 41 0 L.ro L.rt) ⟨ST bs id l k++(m++[Z4,z]),t⟩ 4 (.ptr (bs.length+m.length+1) 0) (.agg b) K:=by
    intro k t z b hz hb hok K hK;have hce:cellsOf (.agg b)=b:=rfl;simp only[HM,EP,IX,JK,wO,hce];refine⟨⟨hb,AA,by have:=g1 1; simp[CT]; omega,hok,.inl (by simp[CT]),AA⟩,?_⟩;rw[Ii]
    have:setCells z 0 b=b:=by
     obtain⟨z0,z1,z2,z3,rfl⟩:∃z0 z1 z2 z3,z=[z0,z1,z2,z3]:=by
      rcases z with _|⟨a,_|⟨b,_|⟨c,_|⟨d,_|⟨e,l⟩⟩⟩⟩⟩ <;> simp at hz
      exact⟨_,_,_,_,rfl⟩
     obtain⟨b0,b1,b2,b3,rfl⟩:∃z0 z1 z2 z3,b=[z0,z1,z2,z3]:=by
      rcases b with _|⟨a,_|⟨b,_|⟨c,_|⟨d,_|⟨e,l⟩⟩⟩⟩⟩ <;> simp at hb
      exact⟨_,_,_,_,rfl⟩
     simp[setCells]
    rw[this];exact hK
   refine ASj ?_;cases B with
   | true=>
    refine A1 ?_;refine HO (cs:=[AG 3,SS [],AG 0,.AE []]) AD ?_;simp only[IJ,eL,eA];refine st4 _ _ _ _ rfl rfl AR _ ?_;have hm2:KT bs (m++[Z4,[AG 3,SS [],AG 0,.AE []]]):=Jj hm (by simp[Ag,Ax]);refine CH (HR (n:=4) hB hm2 h2 AA AA _ (by simp[*]) ts) ?_;rintro v s1 ⟨r2,k2,rfl,th,hr4,MU,MZ,rfl⟩;obtain⟨j,rfl⟩:=lU th;have:=loop k2 j sA AA MZ AA j 0 k2 [] (.AE []) [] AA (AY _) MZ rfl az.nil (.inl AR)
    grind
   | false=>
    refine Ar (Av ?_);cases b12:(r==12) with
    | true=>
     refine A1 ?_;refine AH Vv ?_;rintro v rfl;simp only[IJ,eL,eA];refine st4 _ _ _ _ rfl rfl AR _ ?_;have hm2:KT bs (m++[Z4,[AG 0,SS [],AG 0,.AE []]]):=Jj hm (by simp[Ag,Ax]);refine CH (HR (n:=2) hB hm2 h2 AA AA _ (by simp[*]) ts) ?_;rintro v s1 ⟨r2,k2,rfl,th,hr4,MU,MZ,rfl⟩;refine Av ?_;cases (r2==1) with
     | true=>
      refine A1 ?_;have e1:(AG (1:Int))=AG ((1:Nat):Int):=rfl;have e0:(AG (0:Int))=AG ((0:Nat):Int):=rfl;refine CH (iht 1 AA hm2 MZ 0 AA AA (CT (env R) 41 0 L.ro L.rt) hro ts (by simp[*])) ?_;rintro v s1 ⟨t,k3,x,hv,hb,bX,Zy,rfl⟩;have Lh:=hv;obtain⟨c1,n1,i1,sQ⟩:=t;obtain⟨a1,rfl,ha1⟩:=Lh;refine st4 _ _ _ _ rfl rfl (by simp[ha1.ok]) _ ?_;exact ASh k3 x _ _ hv rfl (by simp[ha1.ok]) (by simp[Ag,Ax,ha1.Ax]) sA AA Zy (hb.mono AA)
     | false=>
      have:=ASh k2 [] (.mk 0 [] 0 []) [AG 0,SS [],AG 0,.AE []] ⟨_,rfl,by simp[AZ]; exact .inl (.AE _)⟩ rfl AR (by simp[Ag,Ax]) sA AA MZ (Le.leaf rfl rfl AD AA AA)
      grind[Ar]
    | false=>grind[Ar]
  have c6:∀B:Bool,(B=true->7<r)->(B=false->9<r)->AF2 R 0 L.ro L.rt (.ptr id 0) dv (AG d) (AG vars) (.ptr (bs.length+m.length) 0) (AG r) (BB B) ⟨ST bs id l k1++(m++[Z4]),ts⟩ (QM rr N Post):=by
   intro B hB1 hB2;refine ASk ?_;cases B with
   | true=>
    have h8:=hB1 rfl;have sA:=hd5 AA;have tM:=hkk AA;refine A1 (I7 AA AA ?_);have e3:((d:Nat):Int)-1=((d-1:Nat):Int):=AA;rw[e3];refine CH (iht (d-1) AA hm' h2 vars AA AA (CT (env R) 41 0 L.ro L.rt) hro ts (by simp[*])) ?_;rintro v s1 ⟨t,k2,x,hv,hb,MU,MZ,rfl⟩;refine I7 AA AA ?_;rw[e3];refine CH (iht (d-1) AA hm' MZ vars AA AA (CT (env R) 41 0 L.ro L.rt) hro (ts++x) (rt' x)) ?_;rintro w s1 ⟨u,k3,x3,hw,hc,bX,Zy,rfl⟩;refine Qa hv hw _ _ ?_;refine AH (fT (.AE _)) ?_;rintro y rfl;rw[Db];exact fin k3 (x++x3) [] (.mk 4 [] 0 [t,u]) _ ⟨_,rfl,.inl (.AE _)⟩ (Le.un sA hb hc AA) AA Zy
   | false=>
    have h9:=hB2 rfl;refine Ar (Av ?_);cases b10:(r==10) with
    | true=>grind[A1]
    | false=>
     have n10:¬ r=10:=AB;refine Ar (Av (c7 _ ?_ ?_ h9))
     all_goals grind
  have c5:∀B:Bool,(B=false->7<r)->AF3 R 0 L.ro L.rt (.ptr id 0) dv (AG d) (AG vars) (.ptr (bs.length+m.length) 0) (AG r) (BB B) ⟨ST bs id l k1++(m++[Z4]),ts⟩ (QM rr N Post):=by
   intro B hx;refine ASl ?_;cases B with
   | true=>grind[A1]
   | false=>
    have h7:=hx rfl;refine Ar (Av ?_);cases b8:(r==8) with
    | true=>grind[A1]
    | false=>
     have n8:¬ r=8:=AB;refine Ar (Av (c6 _ (λ_=>h7) (λh=>?_)))
     grind
  have c3:∀B:Bool,(B=false->4<r)->AF4 R 0 L.ro L.rt (.ptr id 0) dv (AG d) (AG vars) (.ptr (bs.length+m.length) 0) (AG r) (BB B) ⟨ST bs id l k1++(m++[Z4]),ts⟩ (QM rr N Post):=by
   intro B hx;refine ASm ?_;cases B with
   | true=>
    refine A1 (Fm ?_)
    by_cases TP:vars=0
    .have b0:decide ((vars:Int)>0)=false:=by grind
     rw[b0];exact Ar (ASn (ACu k1 h1 h2))
    .have b0:decide ((vars:Int)>0)=true:=by grind
     rw[b0];refine A1 ?_;refine CH (HR (n:=vars) hB hm' h2 AA AA _ (by simp[*]) ts) ?_;rintro v s1 ⟨r2,k2,rfl,th,hr4,MU,MZ,rfl⟩;refine AH (Gs r2) ?_;rintro v rfl;exact fU k2 [] (.mk 5 [] r2 []) _ ⟨_,rfl,by simp[AZ]; exact .inl (.AE _)⟩ (Le.leaf rfl rfl AD AA AA) AA MZ
   | false=>
    have h4':=hx rfl;refine Ar (Av ?_);cases b5:(r==5) with
    | true=>grind[A1]
    | false=>
     have n5:¬ r=5:=AB;refine Ar (Av ?_);cases b6:(r==6) with
     | true=>grind[A1]
     | false=>
      have n6:¬ r=6:=AB;refine Ar (Av (c5 _ (λh=>?_)))
      grind
  have c2:∀B:Bool,(B=false->1<r)->AF5 R 0 L.ro L.rt (.ptr id 0) dv (AG d) (AG vars) (.ptr (bs.length+m.length) 0) (AG r) (BB B) ⟨ST bs id l k1++(m++[Z4]),ts⟩ (QM rr N Post):=by
   intro B hx;refine ASo ?_;cases B with
   | true=>
    refine A1 (QX hW ?_);refine CH (HR (n:=4) hB hm' h2 AA AA _ (by simp[*]) ts) ?_;rintro v s1 ⟨r2,k2,rfl,th,hr4,MU,MZ,rfl⟩;obtain⟨w,hw,iw⟩:=Rh hW h4 sW th hr4;refine aq th hw (kM ?_);refine AH (I1 (.AE [])) ?_;rintro v rfl;exact Gd (QX hW (SQ W)) (fU k2 [] (.mk 2 w 0 []) _ ⟨_,rfl,by simp[AZ]; exact .inl (.AE _)⟩ (Le.leaf rfl rfl iw AA AA) AA MZ)
   | false=>
    have bV:=hx rfl;refine Ar (Av ?_);cases b2:(r==2) with
    | true=>
     refine A1 ?_;refine AH Vv ?_;rintro v rfl;exact fU k1 [] (.mk 0 [] 0 []) _ ⟨_,rfl,by simp[AZ]; exact .inl (.AE _)⟩ (Le.leaf rfl rfl AD AA AA) h1 h2
    | false=>
     have n2:¬ r=2:=AB;refine Ar (Av ?_);cases b3:(r==3) with
     | true=>grind[A1]
     | false=>
      have n3:¬ r=3:=AB;refine Ar (Av (c3 _ (λh=>?_)))
      grind
  refine ASp (Av ?_);cases b0:(r==0) with
  | true=>grind[A1]
  | false=>
   have n0:¬ r=0:=AB;refine Ar (Av (c2 _ (λh=>?_)))
   grind
 refine ASq ?_;simp only[IJ,Db,Bo,Fc];refine CH (Oy (n:=14) hB hm' hk AA AA _ (by simp[*]) ts) ?_;rintro v s1 ⟨r,k1,rfl,WR,N4,Te,hk2,MU,rfl⟩;refine Z8 ?_
 by_cases sA:d=0
 .have b0:decide ((d:Int)<=0)=true:=by grind
  rw[b0];refine Ak (Ak (Fm (pk ?_)));cases b5:decide (r>5) with
  | true=>grind[A1]
  | false=>
   grind[Ar]
 .have b0:decide ((d:Int)<=0)=false:=by grind
  rw[b0];exact K0 AD (K0 AD (pk (Ar (AbB k1 r WR Te hk2 MU AA))))
end
section
variable {bs:List (List AV)} {id:Nat} {l:Src} {R:Nat->Option (List PV)}
theorem oU (hB:NM bs id l) {W:List (List UInt8)} (hW:(env R).G 1=some (EW W)) (h4:W.length=4) (sW:Short W) {dv:AV} {rows:List (List PV)} (hD:Decls dv rows):∀μ:Nat,
  (∀d:Nat,d<=20->Vt R bs id l dv 41 d (3*d+2) μ (Le d))/\(∀d:Nat,d<=20->Vt R bs id l dv 83 d (3*d+1) μ (oP d))/\(∀e:Int,-1<=e->e<=20->Vt R bs id l dv 115 e (3*(e+1).toNat) μ (tj e)):=by
 intro μ
 induction μ with
 | zero=>exact⟨λd _ m _ k _ vars _ h=>absurd h (Ez _),λd _ m _ k _ vars _ h=>absurd h (Ez _),λe _ _ m _ k _ vars _ h=>absurd h (Ez _)⟩
 | succ μ ih=>
  obtain⟨i1,i2,i3⟩:=ih;exact⟨λd hd=>sR hB hW h4 sW μ i2 i1 d hd,λd hd=>kN hB hW h4 sW hD μ i3 d hd,λe he he2=>zf hB hW h4 sW μ i2 i1 e he he2⟩
theorem W7 (hB:NM bs id l) {W:List (List UInt8)} (hW:(env R).G 1=some (EW W)) (h4:W.length=4) (sW:Short W) {dv:AV} {rows:List (List PV)} (hD:Decls dv rows) (vars:Nat) (hv:vars<=80) {m:List (List AV)} (hm:KT bs m) {k:Nat} (hk:k<=l.length) (L:BI) (hro:L.ro<=id) (ts:List (Nat×Nat)) (El:L.rt<=ts.length) :
  ∃v s',(∃t k' x,BH t v/\Le 3 (8*(k'-k)+1) t/\k<=k'/\k'<=l.length/\s'=⟨ST bs id l k'++m,ts++x⟩)/\BG (env R) L 10 [.ptr id 0,dv,AG vars] ⟨ST bs id l k++m,ts⟩ v s':=by
 have hlen:=hB.len;have hlt:=hB.lt
 suffices H:∀(rr:Bool) (N:Nat) (Post:AV->AQ->Prop),N=bs.length+m.length->(∀t v k' x,BH t v->Le 3 (8*(k'-k)+1) t->k<=k'->k'<=l.length->Post v ⟨ST bs id l k'++m,ts++x⟩)->AF6 R 0 L.ro L.rt (.ptr id 0) dv (AG vars) ⟨ST bs id l k++m,ts⟩ (QM rr N Post) from
  m10 AR (H _ _ _ (by simp[Fc]) λt v k' x h1 h2 h3 h4=>⟨t,k',x,h1,h2,h3,h4,rfl⟩)
 intro rr N Post hN hP;refine ASr ?_;simp only[IJ,Db,Bo,Fc];refine CH ((oU hB hW h4 sW hD _).1 3 AA (Vu hm) hk vars AA (S9 _) (CT (env R) 10 0 L.ro L.rt) hro ts Ba) ?_;rintro v s1 ⟨t,k3,x,hv,hb,MU,MZ,rfl⟩;exact QY (R:=R) (Post:=Post) (rr:=rr) (N:=N) (k:=k3) (ts:=ts++x) (Z:=Z4) (r:=[]) (L':=CT (env R) 10 0 L.ro L.rt) hB hm rfl hN hro rfl hv (λy hy=>hP t y k3 x hy hb MU MZ)
theorem bB (hB:NM bs id l) {W:List (List UInt8)} (hW:(env R).G 1=some (EW W)) (h4:W.length=4) (sW:Short W) {dv:AV} {rows:List (List PV)} (hD:Decls dv rows) {m:List (List AV)} (hm:KT bs m) {k:Nat} (hk:k<=l.length) (L:BI) (hro:L.ro<=id) (ts:List (Nat×Nat)) (El:L.rt<=ts.length) :
  ∃v s',(∃t k' x,BH t v/\Le 3 (8*(k'-k)+1) t/\k<=k'/\k'<=l.length/\s'=⟨ST bs id l k'++m,ts++x⟩)/\BG (env R) L 19 [.ptr id 0,dv] ⟨ST bs id l k++m,ts⟩ v s':=by
 have hlen:=hB.len;have hlt:=hB.lt
 suffices H:∀(rr:Bool) (N:Nat) (Post:AV->AQ->Prop),N=bs.length+m.length->(∀t v k' x,BH t v->Le 3 (8*(k'-k)+1) t->k<=k'->k'<=l.length->Post v ⟨ST bs id l k'++m,ts++x⟩)->AF7 R 0 L.ro L.rt (.ptr id 0) dv ⟨ST bs id l k++m,ts⟩ (QM rr N Post) from
  m19 AR (H _ _ _ (by simp[Fc]) λt v k' x h1 h2 h3 h4=>⟨t,k',x,h1,h2,h3,h4,rfl⟩)
 intro rr N Post hN hP;refine ASs ?_;simp only[IJ,Db,Bo,Fc];refine CH ((oU hB hW h4 sW hD _).1 3 AA (Vu hm) hk 0 AA (S9 _) (CT (env R) 19 0 L.ro L.rt) hro ts Ba) ?_;rintro v s1 ⟨t,k3,x,hv,hb,MU,MZ,rfl⟩;exact QY (R:=R) (Post:=Post) (rr:=rr) (N:=N) (k:=k3) (ts:=ts++x) (Z:=Z4) (r:=[]) (L':=CT (env R) 19 0 L.ro L.rt) hB hm rfl hN hro rfl hv (λy hy=>hP t y k3 x hy hb MU MZ)
end
def oV:List (List PV)->Bool
 | []=>true
 | r::l=>(match r with
  | .sc (.string a)::.sc (.int .i64 n)::rest=>rest.length==6&&(decide (0<=n)&&(decide (n<=2)&&(decide (a.data.size<2 ^ 50)&&(r.map AV.pv).all A7)))
  | _=>false)&&oV l
theorem Yb:∀{l:List (List PV)},oV l=true->∀r∈l,ax r
 | [],_,r,h=>by cases h
 | r::l,hl,r',h=>by
  simp only[oV,AI] at hl;rcases A3.1 h with rfl|h
  .have h1:=hl.1
   split at h1
   .rename_i a n rest
    simp only[AI,Cq,Gx] at h1;obtain⟨h1,h2,h3,h4,h5⟩:=h1;refine⟨a.data.toList,n.toNat,rest,?_,h1,AA,AA,h5⟩;have:((n.toNat:Nat):Int)=n:=AA;rw[this]
   grind
  .exact Yb hl.2 r' h
def AF8:Option AV->Bool
 | some (.AE rows)=>decide (rows.length<100)&&oV rows
 | _=>false
theorem ACv {R:Nat->Option (List PV)}:AF8 (bg (env R) 60 12 [])=true:=AW
theorem Yc {R:Nat->Option (List PV)}:Ae (env R) 12 [] λv=>∃rows,Decls v rows:=by
 have h:=ACv (R:=R);cases hv:bg (env R) 60 12 [] with
 | none=>rw[hv] at h; cases h
 | some v=>
  rw[hv] at h;unfold AF8 at h;split at h
  .rename_i rows he
   cases he;simp only[AI,Cq] at h;exact⟨_,⟨rows,.inl (.AE _),Yb h.2,h.1⟩,λL s=>BG.oW (UF (args':=[]) AR AR AR rfl hv L s)⟩
  grind
end Go.Proofs.YtpgfpakdnijngaaGreatDoor
