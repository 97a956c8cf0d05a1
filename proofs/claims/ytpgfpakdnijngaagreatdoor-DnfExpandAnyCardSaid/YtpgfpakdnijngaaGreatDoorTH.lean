/-
  The reference: Expand.
-/
import Derived.Test.YtpgfpakdnijngaaGreatDoorTG
import Derived.Test.YtpgfpakdnijngaaGreatDoorTE
import Derived.Test.YtpgfpakdnijngaaGreatDoorWpW
set_option linter.all false
namespace Go.Proofs.YtpgfpakdnijngaaGreatDoor
open Go.Tel
theorem yN:∀(new pre old post:List AV),old.length=new.length->setCells (pre++(old++post)) pre.length new=pre++(new++post)
 | [],pre,old,post,h=>by
  have:old=[]:=by grind
  subst this;rfl
 | x::new,pre,old,post,h=>by
  cases old with
  | nil=>grind
  | cons y old=>
   have:=yN new (pre++[x]) old post (by grind)
   grind[setCells]
theorem CV.set {α β:Type} {P:α->β->Prop}:∀{l:List α} {m:List β} (p:Nat) {a:α} {b:β},CV P l m->P a b->CV P (l.set p a) (m.set p b)
 | [],[],_,_,_,_,_=>trivial
 | x::l,y::m,0,_,_,⟨_,h⟩,hab=>⟨hab,h⟩
 | x::l,y::m,p+1,_,_,⟨h1,h2⟩,hab=>⟨h1,CV.set p h2 hab⟩
 | [],_::_,_,_,_,h,_=>h.elim
 | _::_,[],_,_,_,h,_=>h.elim
theorem CV.len {α β:Type} {P:α->β->Prop}:∀{l:List α} {m:List β},CV P l m->l.length=m.length
 | [],[],_=>rfl
 | _::l,_::m,⟨_,h⟩=>by simp[CV.len h]
 | [],_::_,h=>h.elim
 | _::_,[],h=>h.elim
theorem yO:∀{l:List Br} {rows:List (List AV)},CV (λb row=>CM b (.agg row)) l rows->rows.flatten.length=rows.length*5
 | [],[],_=>rfl
 | b::l,row::rows,⟨h1,h2⟩=>by
  have:=yO h2;obtain⟨c1,_,_⟩:=h1.cells
  grind
 | [],_::_,h=>h.elim
 | _::_,[],h=>h.elim
theorem CV.take {α β:Type} {P:α->β->Prop}:∀{l:List α} {m:List β} (p:Nat),CV P l m->CV P (l.take p) (m.take p)
 | [],[],p,_=>by grind
 | _::_,_::_,0,_=>trivial
 | x::l,y::m,p+1,⟨h1,h2⟩=>⟨h1,CV.take p h2⟩
 | [],_::_,_,h=>h.elim
 | _::_,[],_,h=>h.elim
theorem AMP {L:A3} {s:AL} {lo p:Nat} {l:List Br} {y:AV} {c c':Br} {row:List AV} (hy:EZ lo s.bs l y) (hc:l[p]?=some c) (hr:CM c' (.agg row)) (hro:L.ro<=lo) (hn0:L.n0<=lo) {K:AL->Prop}
  (h:∀bs',EZ lo bs' (l.set p c') y->bs'.length=s.bs.length->(∀j d,(∀n,y≠.ref j 0 n 5)->s.bs[j]?=some d->bs'[j]?=some d)->(BM s->BM ⟨bs',s.ts⟩)->K ⟨bs',s.ts⟩):Bj s 5 y (AB p) λa=>Ci L s 5 a (.agg row) K:=by
 have hp:p<l.length:=(BL.1 hc).1;rcases hy with ⟨rfl,rfl⟩|⟨id,rows,h1,rfl,h2,h3,h4⟩
 .grind
 .obtain⟨_,_,_,_,_,_,hal⟩:=EZ.block (lo:=lo) h2 h3 h4
  obtain⟨q1,q2,q3⟩:=hr.cells;have hl:=h3.len;have hfl:=yO h3;have hft:=yO (h3.take p);have hce:cellsOf (.agg row)=row:=rfl;obtain⟨old,ho⟩:∃old,rows[p]?=some old:=⟨_,Ak (by omega)⟩;obtain⟨Kc,hog⟩:=BL.1 ho
  have h5:∀(l:List Br) (rows:List (List AV)) (p:Nat) (old:List AV),CV (λb row=>CM b (.agg row)) l rows->rows[p]?=some old->old.length=5:=by
   intro l
   induction l with
   | nil=>intro rows p old h ho; cases rows with
    | nil=>grind
    | cons _ _=>exact h.elim
   | cons b l ih=>
    intro rows p old h ho;cases rows with
    | nil=>grind
    | cons r rows=>
     cases p with
     | zero=>
      have:r=old:=by grind
      subst this;exact h.1.cells.1
     | succ p=>exact ih rows p old h.2 (by grind)
  have h5:=h5 l rows p old h3 ho;refine⟨⟨by omega,by omega,rfl,hal⟩,?_⟩;simp only[Ci,h2,wO,hce];have e0:0+((p:Nat):Int).toNat*5=p*5:=by omega
  rw[e0];refine⟨⟨q1,by omega,by omega,q2,.inl (by omega),by omega⟩,?_⟩;have es:rows.flatten=(rows.take p).flatten++(old++(rows.drop (p+1)).flatten):=by grind[List.drop_eq_getElem_cons,List.take_append_drop]
  have es2:setCells rows.flatten (p*5) row=(rows.set p row).flatten:=by grind[List.set_eq_take_append_cons_drop,yN]
  rw[es2];refine h _ (.inr ⟨id,rows.set p row,h1,by rw[Rp],?_,h3.set p hr,?_⟩) (by rw[Rp]) (λj d hj hjd=>?_) (λhs=>?_)
  .rw[CU (BL.1 h2).1]
  .simp[*]
  .grind
  .have hr3:=(Hr (h3.set p hr)).2.2
   grind[BM.set]
theorem EZ.close {lo:Nat} {bs:List (List AV)} {l:List Br} {v:AV} (hb:EZ lo bs l v):∃v',Tel.close bs 0 0 v=some v'/\Ao v' (l.map Da):=by
 rcases hb with ⟨rfl,rfl⟩|⟨id,rows,h1,rfl,h2,h3,h4⟩
 .exact⟨.AA [],by rfl,.AA _⟩
 .obtain⟨c,cs,hc,k1,k2,k3,hal⟩:=EZ.block (lo:=lo) (s:=⟨bs,[]⟩) h2 h3 h4
  have htp:=Ua h3;refine⟨.pv (.list (l.map Da)),?_,.list _⟩
  grind[Ih,Fw,Ku,List.length_map,Tel.close]
section
variable {R:RT}
structure AMQ (b:Br):Prop where
 Wr:size b.body<2 ^ 36
 ok:vP wI b.body=true
 Ec:b.bounds.length<2 ^ 37
 N9:∀i∈occs b.body [],0<=i/\i<(b.bounds.length:Int)
theorem AD1 {X:Ty->List Br×Int} {l:List Br} (hl:l.length<=32) (hG:∀b∈l,AMQ b/\(FQ b).bounds.length<2 ^ 30/\∀c∈(FQ b).bounds,pV R c (X c)) {t5:AV} {Post:AV->Prop}
  (hF:((l.map FQ).all λb=>RU b&&b.bounds.all λb=>Dw (X b))=false->Post (.tuple [.AA [],AB 4])) (hS:((l.map FQ).all λb=>RU b&&b.bounds.all λb=>Dw (X b))=true->∀a,Ao a ((l.map FQ).map Da)->Post (.tuple [a,AB 0])) :
  ∀(j p:Nat) (bs:List (List AV)) (tk:List (Nat×Nat)),p+j=l.length->EZ 2 bs ((l.take p).map FQ++l.drop p) t5->(((l.take p).map FQ).all λb=>RU b&&b.bounds.all λb=>Dw (X b))=true->mo R 0 0 0 t5 (AB p) ⟨bs,tk⟩ (QP Post):=by
 have hlen:∀p,p<=l.length->((l.take p).map FQ++l.drop p).length=l.length:=by grind
 intro j
 induction j with
 | zero=>
  intro p bs tk hi hb hall;refine AFt (Al (n:=l.length) (by rw[hb.A9,hlen p (by omega)]) (Ai ?_));rw[Aw (by omega)];rw[CL (by omega)] at hb hall;rw[Bt (by omega),Gb] at hb;obtain⟨a,h1,h2⟩:=hb.close;exact Aq (AR3 ⟨.tuple [a,AB 0],by grind[Tel.close,AX],hS hall a h2⟩)
 | succ j ih=>
  intro p bs tk hi hb hall;refine AFt (Al (n:=l.length) (by rw[hb.A9,hlen p (by omega)]) (Ai ?_));rw[Ap (by omega)];obtain⟨b,hbp⟩:∃b,l[p]?=some b:=⟨_,Ak (by omega)⟩;obtain⟨hr,P0,hX⟩:=hG b (A5 hbp);have rD:((l.take p).map FQ).length=p:=by grind
  have hgp:((l.take p).map FQ++l.drop p)[p]?=some b:=by simp_all[E3]
  have og:((l.take p).map FQ++l.drop p).set p (FQ b)=(l.take (p+1)).map FQ++l.drop (p+1):=by simp_all[drop_cons,List.take_add_one]
  refine BH (AR4 (Qg hb hgp λrow hrow=>AD (Uc hr.Wr hr.ok hr.Ec hr.N9 hrow) ?_));intro v hv
  have Pz:CM (FQ b) v:=by
   obtain⟨a,y,rfl,ha,hy⟩:=hv;exact⟨a,y,rfl,.inl ha,hy.G6⟩
  obtain⟨r2,rfl⟩:=Pz.agg;refine AMP hb hgp Pz (AI _) (AI _) λbs' h1 _ _ _=>?_
  rw[og] at h1;have hsz:=(W9 hr.ok hr.Wr).1
  have hg2:((l.take (p+1)).map FQ++l.drop (p+1))[p]?=some (FQ b):=by
   rw[<-og,CU (by grind)]
  refine Qg h1 hg2 λrow2 AR5=>AD (VU (X:=X) (by have:=hr.Wr; omega) P0 hX AR5) ?_
  rintro _ rfl;refine nt ?_;cases hg:RU (FQ b)&&(FQ b).bounds.all λb=>Dw (X b) with
  | false=>
   refine BH ⟨_,by rfl,hF ?_⟩
   grind[List.mem_map_of_mem]
  | true=>
   refine Aq (AR6 (Ba (by omega) (by omega) ?_))
   have:=ih (p+1) bs' tk (by omega) h1 (by
    rw[List.take_add_one,hbp];simp only[Option.toList_some,Rh,CE,Cs,XR,hall,HA,hg,List.all_nil,K3])
   simpa using this
theorem XA {t:Ty} (hv:valid t=true) (hc:Cv 0 t=true) (hft:Fit t) {l:List Br} (l5:DS (AR 32) (depth t) t=some l):∀b∈l,AMQ b/\(FQ b).bounds.length<2 ^ 30/\size (FQ b).body<2 ^ 30/\∀c∈(FQ b).bounds,Yx t c:=by
 intro b Ng;obtain⟨ps,B,_,_,AXe,_,hB⟩:=ADz hv hc hft.bws l5;have z:=Df (BD:=AR 32) (depth t) t l l5 b Ng;have zG:=lX (depth t) t l hv hft.bws l5 b Ng;have hbw:(bw t:Int)<1073741824:=hft.bws;have hsz:=zG.Wr;have hwt:=hft.wts;have hok:=AMO zG (by omega);obtain⟨r1,r2⟩:=W9 hok (by omega);refine⟨⟨by omega,hok,by omega,AXe b Ng⟩,by omega,by omega,λc N8=>?_⟩;have hcm':c∈(occs b.body []).map λi=>b.bounds.getD i.toNat aR:=N8
 grind
theorem c8:∀(f:Nat) (t:Ty),depth t<=f->size t<2 ^ 60->Vt t->(verdict t=0->Fit t)->pV R t (xR f t):=by
 intro f
 induction f with
 | zero=>
  intro t hd;obtain⟨k,n,i,ts⟩:=t
  grind[depth]
 | succ f ih=>
  intro t hd hsz hok hfit x hx;obtain⟨xc,rfl⟩:=hx.agg;obtain⟨c1,c2,c3,c4⟩:=hx.cells
  suffices H:∀Post:AV->Prop,(∀r,(∃a,r=.tuple [a,AB (xR (f+1) t).2]/\Ao a ((xR (f+1) t).1.map Da))->Post r)->yP R 0 0 0 (.agg xc) ⟨[],[]⟩ (QP Post) from e15 (u0:=.agg xc) (by grind[AX,Tel.close]) (H _ λr h=>h)
  intro Post hP;have g0:(AL.mk ([]++[xc]) []).bs[0]?=some xc:=rfl;have fail:∀(n:Int) (s:AL),xR (f+1) t=([],n)->(QP Post) (.tuple [.AA [],AB n]) s:=λn s h=>⟨.tuple [.AA [],AB n],by rfl,hP _ ⟨.AA [],by rw[h],by rw[h]; exact .AA _⟩⟩
  refine AR7 (Bu (cs:=xc) rfl c2 (Ae g0 c1 (AD (Ti (R:=R) (by omega) hok hx) ?_)));rintro _ rfl;refine FD ?_;rw[xR] at fail hP;cases rF:verdict t==0 with
  | false=>
   have:(verdict t != 0)=true:=by grind
   simp[*,DJ,pk,BH]
  | true=>
   have:(verdict t != 0)=false:=by grind
   rw[this];have hft:=hfit (by grind);obtain⟨hv,AQq,AXD⟩:=LU (by simpa using rF);refine Am (Ae g0 c1 (Am (AD (IP (R:=R) (by omega) hx) ?_)));rintro _ rfl;refine Am (nt (pk ?_));cases hc:Cv 0 t with
   | false=>grind[BH]
   | true=>
    rw[rF,hc] at fail hP;simp only[MY,K4,AH] at fail hP;refine Aq (AR8 (IY (cs:=[BB true,BB false]) rfl (Bu (cs:=[BB true,BB false]) rfl rfl (Ae (Av g0 _) c1 ?_))))
    have hs2:BM ⟨[xc,[BB true,BB false]],[]⟩:=by
     intro d hdm;simp only[A6,FZ,Fa] at hdm;rcases hdm with rfl|rfl
     .exact Bn (AI _) _ c3
     rfl
    obtain⟨v,s',hR,UK⟩:=(VS (R:=R) (e:=1) (depth t) t (Ac _) hv hft.bws hft.wts (by omega)).c (.agg xc) hx.G6 false ⟨[xc,[BB true,BB false]],[]⟩ hs2 (Dh (env R) 15 0 0 0) rfl rfl (by rfl) rfl;simp only[oX,AH] at hR;obtain⟨b2,M7⟩:=s';have hT:b2.take 2=[xc,[BB true,BB (DS (AR 32) (depth t) t).isNone]]:=hR.tk;have g1:b2[1]?=some [BB true,BB (DS (AR 32) (depth t) t).isNone]:=B6 hT rfl;refine⟨_,_,UK,C1 (AP g1) (AK (AP g1) (AU (off:=1) g1 rfl ?_))⟩;cases l5:DS (AR 32) (depth t) t with
    | none=>
     grind[BH]
    | some l=>
     rw[l5] at hR hP;simp only at hP;have hb:EZ 2 b2 l v:=hR.TJ;have pF:=Mx (depth t) t l l5
     have hG:∀b∈l,AMQ b/\(FQ b).bounds.length<2 ^ 30/\∀c∈(FQ b).bounds,pV R c (xR f c):=by
      intro b Ng;obtain⟨q1,q2,_,q3⟩:=XA hv hc hft l5 b Ng;refine⟨q1,q2,λc N8=>?_⟩;have hSub:=q3 c N8;exact ih c (by have:=hSub.dep; omega) (by have:=hSub.Wr; omega) (Qb c hSub.val) (λ_=>hft.sub hSub)
     refine Aq (AR9 ?_);have:=AD1 (R:=R) (X:=xR f) pF hG (t5:=v) (Post:=Post) (λh=>hP _ ⟨.AA [],by grind,by rw[h]; exact .AA _⟩) (λh a ha=>hP _ ⟨a,by grind,by grind⟩) l.length 0 b2 M7 (by omega) (by grind) rfl;omega
end
def BSl (bs:List (List AV)) (l:List Br) (a:AV):Prop:=(∃lo,EZ lo bs l a)\/BJ a (l.map Da)
theorem BSl.A9 {s:AL} {l:List Br} {a:AV} (h:BSl s.bs l a):A9 s a=some l.length:=by
 rcases h with ⟨lo,h⟩|h
 .exact h.A9
 .rw[h.A9,CC]
def BrS (b:Br):Prop:=size b.body<2 ^ 38/\b.bounds.length<2 ^ 60/\∀t∈b.bounds,size t<2 ^ 38
section
variable {R:RT}
theorem mq {s:AL} {l:List Br} {a:AV} {p:Nat} {c:Br} (h:BSl s.bs l a) (hc:l[p]?=some c) {K:AV->Prop} (hK:∀row,CM c (.agg row)->K (.agg row)):Bj s 5 a (AB p) λx=>FC (env R) s (some 5) x K:=by
 rcases h with ⟨lo,h⟩|h
 .exact Qg h hc hK
 .refine BR h (row:=Da c) (by omega) (by grind) (Ku c) (by omega) ?_
  simp only[FC,Dn,Jl,xL,xM,xF,xG];refine⟨by grind[Ku],?_⟩;rw[CL (by grind[Ku])];obtain⟨x,y,he,hx,hy⟩:=QO.BZ c;refine hK _ ⟨x,y,he,.inl hx,hy.G6⟩
theorem AD2 {l m:List Ty} {x y:AV} (hx:Ao x (AZ l)) (hy:Ao y (AZ m)) (hlm:l.length=m.length) (hl:l.length<2 ^ 60) (hs:∀t∈l,size t<2 ^ 38) {s:AL} {Post:AV->Prop} (hP:∀b:Bool,(b=true<->l=m)->Post (BB b)) :
  ∀(j q:Nat),q+j=l.length->(l.take q=m.take q)->mz R 0 0 0 x y (AB q) s (QP Post):=by
 intro j
 induction j with
 | zero=>
  intro q hi he;refine AFu (Al (n:=l.length) (by rw[hx.A9,AQ]) (Ai ?_));rw[Aw (by omega)];rw[CL (by omega),CL (by omega)] at he;exact Aq (ASB ⟨_,Fz,hP true (by grind)⟩)
 | succ j ih=>
  intro q hi he;refine AFu (Al (n:=l.length) (by rw[hx.A9,AQ]) (Ai ?_));rw[Ap (by omega)];obtain⟨t,ht⟩:∃t,l[q]?=some t:=⟨_,Ak (by omega)⟩;obtain⟨u,hu⟩:∃t,m[q]?=some t:=⟨_,Ak (by omega)⟩;refine BH (ASC (BK hx (row:=Ag t) (by omega) (by simp[*,BG]) (Af t) (by omega) (Cd (BK hy (row:=Ag u) (by omega) (by simp[*,BG]) (Af u) (by omega) (Cd (AD (O6 (R:=R) (hs t (A5 ht)) (A7.BZ t) (A7.BZ u)) ?_))))));rintro _ ⟨b,rfl,hb⟩;refine nt ?_;cases b with
  | true=>
   have htu:t=u:=hb.1 rfl;refine Aq (ASD (Ba (by omega) (by omega) ?_));have:=ih (q+1) (by omega) (by grind[List.take_add_one])
   grind
  | false=>
   refine BH ⟨_,Fz,hP false ?_⟩
   grind
theorem RX {l m:List Ty} {x y:AV} (hx:Ao x (AZ l)) (hy:Ao y (AZ m)) (hl:l.length<2 ^ 60) (hs:∀t∈l,size t<2 ^ 38):AM (env R) 75 [x,y] λr=>∃b:Bool,r=BB b/\(b=true<->l=m):=by
 suffices H:∀Post:AV->Prop,(∀b:Bool,(b=true<->l=m)->Post (BB b))->yQ R 0 0 0 x y ⟨[],[]⟩ (QP Post) from e75 (u0:=x) (u1:=y) (by simp[AX,hx.close,hy.close]) (H _ λb h=>⟨b,rfl,h⟩)
 intro Post hP;refine ASE (Al (n:=l.length) (by rw[hx.A9,AQ]) (Al (n:=m.length) (by rw[hy.A9,AQ]) (FD ?_)))
 by_cases h:l.length=m.length
 .have:((l.length:Int) != (m.length:Int))=false:=by grind
  rw[this];have:=AD2 (R:=R) hx hy h hl hs (s:=⟨[],[]⟩) hP l.length 0 (by omega) rfl;exact Aq (ASF (by simpa using this))
 .have:((l.length:Int) != (m.length:Int))=true:=by grind
  rw[this];exact BH ⟨_,Fz,hP false ⟨λh=>(by cases h),λe=>absurd (by rw[e]) h⟩⟩
theorem Qi {b c:Br} (hb:BrS b) {x y:AV} (hx:CM b x) (hy:CM c y):AM (env R) 32 [x,y] λr=>∃e:Bool,r=BB e/\(e=true<->b=c):=by
 obtain⟨x',h1,h2,a,v,rfl,ha,hv⟩:=hx.closed;obtain⟨y',k1,k2,d,w,rfl,hd,hw⟩:=hy.closed;have z1:close [] 0 0 x=some (.agg (a::v)):=by grind[AX]
 have z2:close [] 0 0 y=some (.agg (d::w)):=by grind[AX]
 obtain⟨c1,c2,c3,c4⟩:=hv.cells;obtain⟨d1,d2,d3,d4⟩:=hw.cells;refine AM.open (args':=[.agg (a::v),.agg (d::w)]) (by rfl) (by rfl) rfl (by grind[AX]) (by grind[AX]) ?_;obtain⟨s1,s2,s3⟩:=hb
 suffices H:∀Post:AV->Prop,(∀e:Bool,(e=true<->b=c)->Post (BB e))->yR R 0 0 0 (.agg (a::v)) (.agg (d::w)) ⟨[],[]⟩ (QP Post) from e32 (u0:=.agg (a::v)) (u1:=.agg (d::w)) (by grind[AX]) (H _ λb h=>⟨b,rfl,h⟩)
 intro Post hP;refine ASG (Bu (cs:=a::v) rfl (by simp[ha.ok]; grind) (Bu (cs:=d::w) rfl (by simp[hd.ok]; grind) ?_));have g0:(AL.mk ([]++[a::v]++[d::w]) []).bs[0]?=some (a::v):=rfl;have g1:(AL.mk ([]++[a::v]++[d::w]) []).bs[1]?=some (d::w):=rfl;refine AK (AP g0) (AU (off:=0) g0 rfl (AK (AP g1) (AU (off:=0) g1 rfl (AD (RX (R:=R) ha hd s2 s3) ?_))));rintro _ ⟨e1,rfl,he1⟩;cases e1 with
 | false=>
  refine Bm (Bm (Bm (Bm (Bm (pk ⟨_,Fz,hP false ⟨λh=>(by cases h),λe=>?_⟩⟩)))))
  grind
 | true=>
  refine Am (AK (AP g0) (Am (N0 g0 c1 (Am (AK (AP g1) (Am (N0 g1 d1 (Am (AD (O6 (R:=R) s1 hv hw) ?_)))))))));rintro _ ⟨e2,rfl,he2⟩;have e1:=he1.1 rfl;refine pk ⟨_,Fz,hP e2 ⟨λh=>?_,λh=>he2.2 (by rw[h])⟩⟩;have h2:=he2.1 h;cases b
  simp_all
theorem AD3 {l m:List Br} {x y:AV} {s:AL} {n0 ro rt:Nat} (hx:BSl s.bs l x) (hy:BSl s.bs m y) (hlm:l.length=m.length) (hl:l.length<2 ^ 60) (hs:∀t∈l,BrS t) {QR:QT} (hP:∀b:Bool,(b=true<->l=m)->QR (BB b) s) :
  ∀(j q:Nat),q+j=l.length->(l.take q=m.take q)->nA R n0 ro rt x y (AB q) s QR:=by
 intro j
 induction j with
 | zero=>
  intro q hi he;refine AFv (Al hx.A9 (Ai ?_));rw[Aw (by omega)];rw[CL (by omega),CL (by omega)] at he;exact Aq (ASH (hP true (by simp[he])))
 | succ j ih=>
  intro q hi he;refine AFv (Al hx.A9 (Ai ?_));rw[Ap (by omega)];obtain⟨t,ht⟩:∃t,l[q]?=some t:=⟨_,Ak (by omega)⟩;obtain⟨u,hu⟩:∃t,m[q]?=some t:=⟨_,Ak (by omega)⟩;refine BH (ASI (mq hx ht λr1 R3=>mq hy hu λr2 P0=>AD (Qi (R:=R) (hs t (A5 ht)) R3 P0) ?_));rintro _ ⟨b,rfl,hb⟩;refine nt ?_;cases b with
  | true=>
   have htu:t=u:=hb.1 rfl;refine Aq (ASJ (Ba (by omega) (by omega) ?_));have:=ih (q+1) (by omega) (by grind[List.take_add_one])
   grind
  | false=>
   refine BH (hP false ?_)
   grind
theorem nB {l m:List Br} {x y:AV} {s:AL} {n0 ro rt:Nat} (hx:BSl s.bs l x) (hy:BSl s.bs m y) (hl:l.length<2 ^ 60) (hs:∀t∈l,BrS t) {QR:QT} (hP:∀b:Bool,(b=true<->l=m)->QR (BB b) s):nC R n0 ro rt x y s QR:=by
 refine ASK (Al hx.A9 (Al hy.A9 (FD ?_)))
 by_cases h:l.length=m.length
 .have:((l.length:Int) != (m.length:Int))=false:=by grind
  rw[this];have:=AD3 (R:=R) (n0:=n0) (ro:=ro) (rt:=rt) hx hy h hl hs hP l.length 0 (by omega) rfl;exact Aq (ASL (by simpa using this))
 .have:((l.length:Int) != (m.length:Int))=true:=by grind
  grind[BH]
theorem N2 {l m:List Br} {x y:AV} {s:AL} (hx:BSl s.bs l x) (hy:BSl s.bs m y) (hl:l.length<2 ^ 60) (hs:∀t∈l,BrS t) (L:A3):∃v,(∃b:Bool,v=BB b/\(b=true<->l=m))/\BA (env R) L 17 [x,y] s v s:=by
 cases hc:AX [] 0 0 [x,y] with
 | none=>
  obtain⟨v,h1,h2⟩:=i17 (R:=R) (s:=s) (Post:=λv=>∃b:Bool,v=BB b/\(b=true<->l=m)) hc (nB (R:=R) hx hy hl hs λb hb=>⟨_,Fz,b,rfl,hb⟩)
  grind
 | some u=>
  have hA:∀{l:List Br} {x x':AV},BSl s.bs l x->close [] 0 0 x=some x'->Ao x' (l.map Da):=by
   intro l x x' h hx';rcases h with ⟨lo,⟨rfl,rfl⟩|⟨id,rows,h1,rfl,h2,h3,h4⟩⟩|h
   .have:x'=.AA []:=by grind[close]
    rw[this];exact .AA _
   .grind[close,Ih]
   .obtain⟨z,hz,hr⟩:=h.closed [] 0
    grind
  have hcs:∃x' y',close [] 0 0 x=some x'/\close [] 0 0 y=some y':=by grind[AX]
  obtain⟨x',y',h1,h2⟩:=hcs;have rx:=hA hx h1;have ry:=hA hy h2;obtain⟨v,hv,hc⟩:=e17 (R:=R) (t0:=x) (t1:=y) (u0:=x') (u1:=y') (Post:=λv=>∃b:Bool,v=BB b/\(b=true<->l=m)) (by grind[AX]) (nB (R:=R) (.inr (.inl rx)) (.inr (.inl ry)) hl hs λb hb=>⟨_,Fz,b,rfl,hb⟩)
  grind
end
structure Lm where
 c:Nat
 b:Nat
 w:Nat
 n:Nat
 l:Nat
structure Lm.Of (q:Lm) (t:Ty):Prop where
 c:cv t<=q.c
 b:bw t<=q.b
 w:wt t<=q.w
 n:nb t<=q.n
 l:lv t<=q.l
def Lm.up (a s:Nat) (y x:Lm):Lm:=
 ⟨max 1 (max (a*x.c) (x.c*(y.c+1))),max (a*x.b) (x.b+1+(x.c+1)*y.b),max s (max (1+a*x.w) (x.w+max 1 x.c*y.w)),max (a*x.n) (1+x.n+(33*x.l+500)*y.n),max 1 (max x.l (a*x.l))⟩
theorem N3 {α:Type} {f:α->Nat} {m:Nat}:∀{l:List α} {a:Nat},l.length<=a->(∀t∈l,f t<=m)->(l.map f).sum<=a*m
 | [],a,_,_=>AI _
 | t::l,a,h,hl=>by
  obtain⟨a,rfl⟩:∃b,a=b+1:=⟨a-1,by grind⟩;have h1:=N3 (l:=l) (a:=a) (by grind) (λt ht=>hl t (by grind))
  grind
theorem max_le {α:Type} {f:α->Nat} {m:Nat}:∀{l:List α},(∀t∈l,f t<=m)->(l.map f).foldr max 0<=m
 | [],_=>AI _
 | t::l,hl=>by
  have h1:=max_le (l:=l) (λt ht=>hl t (by grind))
  grind
theorem Lm.ASM {a s:Nat} {x y:Lm} {k i:Int} {n:List UInt8} {ts:List Ty} (hs:k≠3->k≠4->k≠6->AY ts+1<=s) (h34:k=3\/k=4->ts.length<=a/\∀t∈ts,x.Of t) (h6:k=6->∀b body,ts=[b,body]->y.Of b/\x.Of body):(Lm.up a s y x).Of (.mk k n i ts):=by
 cases b6:k==6 with
 | true=>
  have:k=6:=by grind
  subst this
  match ts,h6 with
  | [],_=>exact⟨by simp[cv,OA,ex6],by grind[bw,OA,ex7],by grind[wt,OA,wx],by grind[nb,ex9],by simp[lv,lvl,ex2]⟩
  | [_],_=>exact⟨by simp[cv,OA,ex6],by grind[bw,OA,ex7],by grind[wt,OA,wx],by simp[*,nb,ex9],by simp[lv,lvl,ex2]⟩
  | _::_::_::_,_=>exact⟨by simp[cv,OA,ex6],by simp[*,bw,OA,ex7],by simp[*,wt,OA,wx],by simp[*,nb,ex9],by simp[lv,lvl,ex2]⟩
  | [b,body],h6=>
   obtain⟨hb,hy⟩:=h6 rfl b body rfl;have e1:cv (.mk 6 n i [b,body])=cv body*(cv b+1):=rfl;have e2:bw (.mk 6 n i [b,body])=bw body+1+(cv body+1)*bw b:=rfl;have e3:wt (.mk 6 n i [b,body])=wt body+max 1 (cv body)*wt b:=rfl;have e4:nb (.mk 6 n i [b,body])=1+nb body+nF body*nb b:=rfl;have e5:lv (.mk 6 n i [b,body])=lv body:=rfl;have f1:cv body*(cv b+1)<=x.c*(y.c+1):=OM hy.c (by have:=hb.c; omega);have f2:(cv body+1)*bw b<=(x.c+1)*y.b:=OM (by have:=hy.c; omega) hb.b;have f3:max 1 (cv body)*wt b<=max 1 x.c*y.w:=OM (by have:=hy.c; omega) hb.w
   have f4:nF body*nb b<=(33*x.l+500)*y.n:=by
    refine OM ?_ hb.n;have:=hy.l
    grind[nF]
   have g2:=hy.b;have g3:=hy.w;have g4:=hy.n;have g5:=hy.l;refine⟨?_,?_,?_,?_,?_⟩
   all_goals grind[Lm.up]
 | false=>
  cases b34:k==3||k==4 with
  | true=>
   have hk:k=3\/k=4:=by grind
   obtain⟨hl,ht⟩:=h34 hk;have s1:=N3 (f:=cv) hl λt h=>(ht t h).c
   have s2:=N3 (f:=bw) hl λt h=>(ht t h).b
   have s3:=N3 (f:=wt) hl λt h=>(ht t h).w
   have s4:=N3 (f:=nb) hl λt h=>(ht t h).n
   have s5:=N3 (f:=lv) hl λt h=>(ht t h).l
   have s6:=max_le (f:=lv) λt h=>(ht t h).l
   refine⟨?_,?_,?_,?_,?_⟩
   .grind[cv,QE,Lm.up]
   all_goals grind[bw,Gi,Lm.up,wt,IU,nb,T9,lv,Yu]
  | false=>
   have hsz:=hs (by grind) (by grind) (by grind);simp only[Hu] at b34;refine⟨?_,?_,?_,?_,?_⟩
   all_goals grind[cv,Lm.up,bw,wt,nb,lv]
mutual
def lev:Nat->Ty->Bool
 | d,.mk _ _ _ ts=>decide (ts.length<=8)&&pW d ts
def pW:Nat->List Ty->Bool
 | _,[]=>true
 | d,t::l=>decide (0<d)&&(lev (d-1) t&&pW d l)
end
theorem Ud {d:Nat}:∀{l:List Ty} {t:Ty},pW d l=true->t∈l->0<d/\lev (d-1) t=true
 | a::l,t,h,ht=>by
  simp only[pW,AG,Dc] at h;rcases A6.1 ht with rfl|ht
  .grind
  .exact Ud h.2.2 ht
def iZ:Nat->Nat
 | 0=>1
 | d+1=>1+8*iZ d
def yS:Nat->Lm
 | 0=>⟨1,0,1,0,1⟩
 | d+1=>Lm.up 8 (iZ (d+1)) (yS d) (yS d)
theorem c9:∀l:List Ty,AY l=(l.map size).sum
 | []=>rfl
 | t::l=>by rw[AY,c9 l]; rfl
theorem ia:∀(d:Nat) (t:Ty),lev d t=true->(yS d).Of t/\size t<=iZ d
 | 0,.mk k n i ts,h=>by
  simp only[lev,AG,Dc] at h
  have:ts=[]:=by
   cases ts with
   | nil=>rfl
   | cons t l=>have:=(Ud h.2 (Jh ..)).1; omega
  subst this;refine⟨⟨?_,?_,?_,?_,?_⟩,Ac _⟩
  all_goals grind[cv,OA,ex6,yS,bw,vG,ex7,wt,oa,wx,AY,nb,nbl,ex9,lv,lvl,ex2]
 | d+1,.mk k n i ts,h=>by
  simp only[lev,AG,Dc] at h;have ih:∀t∈ts,(yS d).Of t/\size t<=iZ d:=λt ht=>ia d t (Ud h.2 ht).2
  have hs:AY ts+1<=iZ (d+1):=by
   rw[c9,iZ];have:=N3 (f:=size) h.1 λt ht=>(ih t ht).2
   omega
  refine⟨Lm.ASM (λ_ _ _=>hs) (λ_=>⟨h.1,λt ht=>(ih t ht).1⟩) (λ_ b body he=>?_),by assumption⟩
  grind
mutual
def gq:Nat->Ty->Bool
 | d,.mk k _ _ ts=>bif k==3||k==4 then decide (0<d)&&(decide (ts.length<=3)&&gqL (d-1) ts) else bif k==6 then decide (0<d)&&gqX d ts else true
def gqL:Nat->List Ty->Bool
 | _,[]=>true
 | d,t::l=>gq d t&&gqL d l
def gqX:Nat->List Ty->Bool
 | d,b::l=>gq 1 b&&gqL (d-1) l
 | _,[]=>true
end
attribute [local simp] Cl Bs Lf Lg AO Cw FJ wO setCells Ci FC Dn Dh Ax alive Cg GD I1 oU A8 DF BO Gx Dv Cz tM oV okB tN tP tQ tR tS eC tT tU tV tW tX tY tZ td th tj tq okF uA uB uC uD uE YE uF S0 S1 S2 S3 uG uH uI uJ rG uK uL uM uN uO Fz uP rH uQ uR uS uT uU uV uW uX uY uZ Co g0 g1 xI xL xM xF xG xC lf Y4 Y5
section
variable {R:Nat->Option (List PV)}
theorem AD4 (a:Int) {b:Int} (hb:0<b):-b<a.tmod b:=by
 by_cases ha:0<=a
 .have:=Int.tmod_nonneg b ha
  omega
 .have h1:(-a).tmod b<b:=Int.tmod_lt_of_pos _ hb
  have h2:=Int.neg_tmod a b;omega
theorem yT (a b:Int) (hb:0<b) (Ll:b<2 ^ 62):AM (env R) 13 [AB a,AB b] λv=>∃r,v=AB r/\0<=r/\r<b:=by
 refine e13 rfl (ASO ?_);have h1:=Int.tmod_lt_of_pos a hb;have h2:=AD4 a hb;simp only[Cg,AO,xI];refine⟨⟨Ab,Ab⟩,by omega,⟨Ab,Ab⟩,λh=>?_,λh=>?_⟩
 .simp at h
  refine⟨⟨Ab,Ab⟩,B8 (by omega) (by omega) (AFx ?_)⟩;exact⟨_,Fz,_,rfl,by omega,by omega⟩
 .simp at h
  refine AFx ?_;exact⟨_,Fz,_,rfl,by omega,by omega⟩
theorem Kv {bs:List (List AV)} {id:Nat} {l:Src} {k:Nat} {ts:List (Nat×Nat)} (h:id<bs.length) (m:List (List AV)):alive ⟨ST bs id l k++m,ts⟩ id=true:=by grind[alive,JY,KL]
theorem yU {bs:List (List AV)} {id:Nat} {l:Src} (hB:Qj bs id l) {m:List (List AV)} (hm:KI bs m) (k:Nat) {n:Nat} (hn:n=bs.length+m.length):(((ST bs id l k++m).take n).all (Ah n))=true:=by
 rw[CL (by grind[KJ]),hn];exact hB.all hm k
theorem nD {rr:Bool} {N:Nat} {bs:List (List AV)} {id:Nat} {l:Src} (hB:Qj bs id l) {m:List (List AV)} (hm:KI bs m) {k:Nat} {ts:List (Nat×Nat)} {Post:AV->AL->Prop} {p:PV} (hN:N=bs.length+m.length)
  (h:Post (.pv p) ⟨ST bs id l k++m,ts⟩):QM rr N Post (.pv p) ⟨ST bs id l k++m,ts⟩:=by grind[AE7,yU,KJ]
theorem ic {bs:List (List AV)} {id:Nat} {l:Src} (hB:Qj bs id l) {m:List (List AV)} (hm:KI bs m) {k:Nat} (hk:k<=l.length) {n:Int} (hn:0<n) (hn2:n<2 ^ 62) (L:A3) (hro:L.ro<=id) (ts:List (Nat×Nat)) :
  ∃v s',(∃r k',v=AB r/\0<=r/\r<n/\k<=k'/\k'<=l.length/\(r≠0->k<k')/\s'=⟨ST bs id l k'++m,ts⟩)/\BA (env R) L 54 [.ptr id 0,AB n] ⟨ST bs id l k++m,ts⟩ v s':=by
 have hlen:=hB.len;have hlt:=hB.lt
 suffices H:∀(rr:Bool) (N:Nat) (Post:AV->AL->Prop),N=bs.length+m.length->(∀r k',0<=r->r<n->k<=k'->k'<=l.length->(r≠0->k<k')->Post (AB r) ⟨ST bs id l k'++m,ts⟩)->yV R 0 L.ro L.rt (.ptr id 0) (AB n) ⟨ST bs id l k++m,ts⟩ (QM rr N Post) from
  m54 (by rfl) (H _ _ _ (by simp[KJ]) λr k' h1 h2 h3 h4 h5=>⟨r,k',rfl,h1,h2,h3,h4,h5,rfl⟩)
 intro rr N Post hN hP;refine ASP ?_
 by_cases h:k=l.length
 .have h1:((k:Int)>=l.length):=by omega
  simp[JY hlt,KL,l.AD5,l.eC,h]
  grind[nD]
 .have h1:¬ ((l.length:Int)<=k):=by omega
  simp[JY hlt,KL,l.AD5,l.eC];refine⟨λh2=>absurd h2 (by omega),λ_=>?_⟩;refine ASQ ?_;obtain⟨a,ha⟩:∃a,l.ints[k]?=some a:=⟨_,Ak (by assumption)⟩;simp only[Cz,Kv hlt,Ax,FC,wO,JY hlt,Cg,xI,xL,xM,xF,xG];refine⟨Ab,Ab,?_⟩;simp only[KL,Dn,wO,Ig,Jj,CP];refine⟨⟨Ab,Ab⟩,B8 (by omega) (by omega) ?_⟩;simp only[Cz,Kv hlt,Ax,Ci,wO,JY hlt,Dh,oV,xF,xG,lf];refine⟨Ab,Ab,⟨by simp,by simp[KL],hro,by rfl,.inl (by omega),by omega⟩,?_⟩
  have e:(ST bs id l k++m).set id (setCells (KL l k) (0+1) [AB (k+1)])=ST bs id l (k+1)++m:=by
   have:setCells (KL l k) (0+1) [AB (k+1)]=KL l (k+1):=by rfl
   grind[yW]
  simp only[e,Cz,Kv hlt,Ax,FC,wO,JY hlt,xL,xM,xF,xG];refine⟨Ab,Ab,?_⟩;simp only[KL,Dn,wO,Ig,Jj,CP];refine⟨Ab,Ab,⟨Ab,Ab⟩,B8 (by omega) (by omega) ?_⟩;refine BR l.rows (row:=[.sc (.int .i64 a)]) (by omega) ?_ rfl (by omega) ?_
  .simp[*,AW]
  simp only[FC,Dn,wO,CE,Cs,Jj,xL,xM,xF,xG];refine AD (yT a n hn hn2) ?_
  grind[nD]
theorem G0 {bs:List (List AV)} {id:Nat} {l:Src} (hB:Qj bs id l) {m:List (List AV)} (hm:KI bs m) {k:Nat} (hk:k<=l.length) {n:Int} (hn:0<n) (hn2:n<2 ^ 62) (L:A3) (hro:L.ro<=id) (ts:List (Nat×Nat)) :
  ∃v s',(∃r k',v=AB r/\0<=r/\r<n/\k<=k'/\k'<=l.length/\s'=⟨ST bs id l k'++m,ts⟩)/\BA (env R) L 54 [.ptr id 0,AB n] ⟨ST bs id l k++m,ts⟩ v s':=by
 obtain⟨v,s',⟨r,k',h1,h2,h3,h4,h5,_,h6⟩,h7⟩:=ic (R:=R) hB hm hk hn hn2 L hro ts;exact⟨v,s',⟨r,k',h1,h2,h3,h4,h5,h6⟩,h7⟩
theorem dA {bs:List (List AV)} {id:Nat} {l:Src} (hB:Qj bs id l) {m:List (List AV)} (hm:KI bs m) {k:Nat} (hk:k<=l.length) (L:A3) (hro:L.ro<=id) (ts:List (Nat×Nat)) :
  ∃v s',(∃r k',v=AB r/\k<=k'/\k'<=l.length/\s'=⟨ST bs id l k'++m,ts⟩)/\BA (env R) L 55 [.ptr id 0] ⟨ST bs id l k++m,ts⟩ v s':=by
 have hlen:=hB.len;have hlt:=hB.lt
 suffices H:∀(rr:Bool) (N:Nat) (Post:AV->AL->Prop),N=bs.length+m.length->(∀r k',k<=k'->k'<=l.length->Post (AB r) ⟨ST bs id l k'++m,ts⟩)->yX R 0 L.ro L.rt (.ptr id 0) ⟨ST bs id l k++m,ts⟩ (QM rr N Post) from
  m55 (by rfl) (H _ _ _ (by simp[KJ]) λr k' h3 h4=>⟨r,k',rfl,h3,h4,rfl⟩)
 intro rr N Post hN hP;refine ASR ?_
 by_cases h:k=l.length
 .simp[JY hlt,KL,l.AD5,l.eC,h]
  grind[nD]
 .simp[JY hlt,KL,l.AD5,l.eC]
  refine⟨λh2=>absurd h2 (by omega),λ_=>?_⟩;refine ASS ?_;obtain⟨a,ha⟩:∃a,l.ints[k]?=some a:=⟨_,Ak (by assumption)⟩;simp only[Cz,Kv hlt,Ax,FC,wO,JY hlt,Cg,xI,xL,xM,xF,xG];refine⟨Ab,Ab,?_⟩;simp only[KL,Dn,wO,Ig,Jj,CP];refine⟨⟨Ab,Ab⟩,B8 (by omega) (by omega) ?_⟩;simp only[Cz,Kv hlt,Ax,Ci,wO,JY hlt,Dh,oV,xF,xG,lf];refine⟨Ab,Ab,⟨by simp,by simp[KL],hro,by rfl,.inl (by omega),by omega⟩,?_⟩
  have e:(ST bs id l k++m).set id (setCells (KL l k) (0+1) [AB (k+1)])=ST bs id l (k+1)++m:=by
   have:setCells (KL l k) (0+1) [AB (k+1)]=KL l (k+1):=by rfl
   grind[yW]
  simp only[e,Cz,Kv hlt,Ax,FC,wO,JY hlt,xL,xM,xF,xG];refine⟨Ab,Ab,?_⟩;simp only[KL,Dn,wO,Ig,Jj,CP];refine⟨Ab,Ab,⟨Ab,Ab⟩,B8 (by omega) (by omega) ?_⟩;refine BR l.rows (row:=[.sc (.int .i64 a)]) (by omega) ?_ rfl (by omega) ?_
  all_goals grind[AW,nD]
theorem yY (l:List Int) (L:A3) (s:AL):∃v s',(v=.ptr s.bs.length 0/\s'=⟨s.bs++[KL (.of l) 0],s.ts⟩)/\BA (env R) L 11 [.pv (.list (AW l))] s v s':=by
 refine m11 (AST ?_);simp[KL,Src.of]
end
section
variable {bs:List (List AV)} {id:Nat} {l:Src}
theorem Gf (k:Nat) (m r:List (List AV)) (j:Nat):(ST bs id l k++(m++r))[bs.length+m.length+j]?=r[j]?:=by grind[KJ]
theorem PR (k:Nat) (m r:List (List AV)):(ST bs id l k++(m++r))[bs.length+m.length]?=r[0]?:=Gf k m r 0
theorem J3 (k:Nat) (m r:List (List AV)) (j:Nat) (v:List AV):(ST bs id l k++(m++r)).set (bs.length+m.length+j) v=ST bs id l k++(m++r.set j v):=by grind[KJ]
theorem PS (k:Nat) (m r:List (List AV)) (v:List AV):(ST bs id l k++(m++r)).set (bs.length+m.length) v=ST bs id l k++(m++r.set 0 v):=J3 k m r 0 v
theorem My {m:List (List AV)} (hm:KI bs m) {r:List (List AV)} (hr:∀b∈r,Ah (bs.length+m.length+r.length) b=true):KI bs (m++r):=by
 intro b hb;rcases B9.1 hb with h|h
 .exact Bn (by simp) b (hm b h)
 grind
variable {R:Nat->Option (List PV)}
theorem ie {l:List (List UInt8)}:Gh l=[.list (EN l)]:=rfl
theorem Mz {g:Nat} {T:List (List UInt8)} (hG:(env R).G g=some (Gh T)) {s:AL} {K:AV->Prop} (h:K (.pv (.list (EN T)))):FC (env R) s none (.DX g 0) K:=by
 simp[FC,hG,wO,Dn,ie];exact h
theorem Ue:∀l:List (List UInt8),IV (EN l) (EN l)=true
 | []=>by rfl
 | s::l=>by
  have:=Ue l
  grind[EN,IV,Lu,NA,Ir]
theorem yZ {s:AL} {w:List UInt8} {K:AV->Prop} (h:K (SS w)):FC (env R) s none (.Cn [.sc (.string ⟨w.toArray⟩)] 0) K:=by simp[*]
theorem nE {T:List (List UInt8)} {r:Int} {w:List UInt8} (h0:0<=r) (hw:T[r.toNat]?=some w) {s:AL} {K:AV->Prop} (h:K (.Cn [.sc (.string ⟨w.toArray⟩)] 0)):Bj s 1 (.pv (.list (EN T))) (AB r) K:=
 BK (.list _) (row:=[.sc (.string ⟨w.toArray⟩)]) h0 (by grind[EN]) rfl (by omega) h
theorem RI (T:List (List UInt8)):Bl (.pv (.list (EN T))) (.pv (.list (EN T)))=true:=by simp[Bl,NA,Ue]
theorem nG {T:List (List UInt8)} {s:AL} {K:AV->Prop} (h:K (AB T.length)):BO s (.pv (.list (EN T))) K:=by
 simpa only[BO,rG,wO,Q5] using h
end
def Short (T:List (List UInt8)):Prop:=(∀s∈T,s.length<2 ^ 60)/\0<T.length/\T.length<2 ^ 60
def yd (B:Nat) (t:Ty):Prop:=Vt t/\size t<=B
theorem yd.mono {B C:Nat} {t:Ty} (h:yd B t) (hl:B<=C):yd C t:=⟨h.1,CN h.2 hl⟩
theorem yd.leaf {B:Nat} {k i:Int} {n:List UInt8} (hn:n.length<2 ^ 60) (hB:0<B):yd B (.mk k n i []):=by
 refine⟨?_,?_⟩
 .simp[*,Vt,RO]
 assumption
def ZH (B:Nat) (l:List Ty):Prop:=RO l/\AY l<=B
theorem ZH.nil {B:Nat}:ZH B []:=by simp[ZH,RO,AY]
theorem ZH.cons {B C D:Nat} {t:Ty} {l:List Ty} (h:yd B t) (h':ZH C l) (hl:B+C<=D):ZH D (t::l):=by
 obtain⟨a1,a3⟩:=h;obtain⟨b1,b3⟩:=h';refine⟨⟨a1,b1⟩,?_⟩
 grind[AY]
theorem yd.node {B:Nat} {k i:Int} {n:List UInt8} {l:List Ty} (hn:n.length<2 ^ 60) (h:ZH B l):yd (B+1) (.mk k n i l):=by
 obtain⟨b1,b3⟩:=h;refine⟨?_,?_⟩
 all_goals simp[*,Vt,size]
theorem AXf.Bl {lo:Nat} {ts:List (Nat×Nat)} {k:Nat} {a:AV} {es:List Ty} (h:Dr lo ts k a (AZ es)):Tel.Bl a a=true:=by
 rcases h with rfl|⟨t,rfl,_⟩
 all_goals simp[*,Tel.Bl,DQ]
theorem ig {l:List Ty}:∀r∈AZ l,r.length=4:=λ_ h=>Gy h
section
variable {bs:List (List AV)} {id:Nat} {l:Src}
theorem ASU {rr:Bool} {N:Nat} (hB:Qj bs id l) {m r:List (List AV)} (hm:KI bs m) {k:Nat} {ts:List (Nat×Nat)} {Post:AV->AL->Prop} (hN:N=bs.length+m.length) {c i:Int} {n:List UInt8} {es:List Ty} {a:AV} (ha:BJ a (AZ es))
  (h:∀x,BV (.mk c n i es) x->Post x ⟨ST bs id l k++m,ts⟩):QM rr N Post (.agg [AB c,SS n,AB i,a]) ⟨ST bs id l k++(m++r),ts⟩:=by
 subst hN;have e:(ST bs id l k++(m++r)).take (bs.length+m.length)=ST bs id l k++m:=by grind[KJ]
 obtain⟨a',h1,h2⟩:=ha.close (ST bs id l k++(m++r)) (bs.length+m.length) ts.length;refine Yi (ds:=[AB c,SS n,AB i,a']) ?_ (by simp[h1]) ?_
 .simp only[e]
  exact hB.all hm k
 .simp only[e]
  exact h _ ⟨a',rfl,h2⟩
variable {R:Nat->Option (List PV)}
theorem AD6 (hB:Qj bs id l) {m r:List (List AV)} (hm:KI bs m) {k:Nat} {ts:List (Nat×Nat)} {Post:AV->AL->Prop} {rr:Bool} {N:Nat} {L':A3} {Z:List AV} (hZ:Z.length=4) (hN:N=bs.length+m.length) (hro:L'.ro<=id) (hn0:L'.n0=0) {c i:Int} {n:List UInt8} {es:List Ty} {a:AV} (ha:BJ a (AZ es))
  (h:∀x,BV (.mk c n i es) x->Post x ⟨ST bs id l k++m,ts⟩) :
  Ci L' ⟨ST bs id l k++(m++Z::r),ts⟩ 4 (.ptr (bs.length+m.length) 0) (.agg [AB c,SS n,AB i,a]) λs1=>FC (env R) s1 (some 4) (.ptr (bs.length+m.length) 0) λr=>QM rr N Post r s1:=by
 have hlt:=hB.lt
 obtain⟨z0,z1,z2,z3,rfl⟩:∃z0 z1 z2 z3,Z=[z0,z1,z2,z3]:=by
  rcases Z with _|⟨a,_|⟨b,_|⟨c,_|⟨d,_|⟨e,l⟩⟩⟩⟩⟩ <;> simp at hZ
  exact⟨_,_,_,_,rfl⟩
 simp[PR,PS,show L'.ro<=bs.length+m.length by omega,hn0,ha.ok,ha.Jm]
 grind[ASU]
end
def AD7 (r:List PV):Prop:=∃(name:List UInt8) (n:Nat) (rest:List PV),r=.sc (.string ⟨name.toArray⟩)::.sc (.int .i64 n)::rest/\rest.length=6/\n<=2/\name.length<2 ^ 50/\(r.map AV.pv).all BE=true
structure Decls (v:AV) (rows:List (List PV)):Prop where
 rep:BJ v rows
 row:∀r∈rows,AD7 r
 len:rows.length<100
def Qk:Nat->Ty->Prop
 | 0,_=>False
 | d+1,t=>Vt t/\lev d t=true
theorem Qk.pow {d cnt:Nat} {k i:Int} {n:List UInt8} {es:List Ty} (hn:n.length<2 ^ 60) (hl:es.length=cnt) (hc:cnt<=8) (h:∀e∈es,Qk d e):Qk (d+1) (.mk k n i es):=by
 have h1:RO es/\pW d es=true:=by
  clear hl
  induction es with
  | nil=>exact⟨Ab,rfl⟩
  | cons e es ih=>
   obtain⟨b1,b2⟩:=ih λx hx=>h x (Eg _ hx)
   have he:=h e (by simp);cases d with
   | zero=>exact he.elim
   | succ d=>exact⟨⟨he.1,b1⟩,by rw[pW,b2,Nat.add_sub_cancel,he.2]; simp⟩
 refine⟨?_,?_⟩
 all_goals simp[*,Vt,lev]
section
variable {bs:List (List AV)} {id:Nat} {l:Src} {m:List (List AV)} {d:Nat} {ro rt:Nat} {ts:List (Nat×Nat)} {rr:Bool} {N k0:Nat} {Post:AV->AL->Prop} {R:Nat->Option (List PV)}
theorem pX (hB:Qj bs id l) (hm:KI bs m) (hro:ro<=id) (Eb:rt<=ts.length) (hd:d<100) (hN:N=bs.length+m.length) {cnt:Nat} (TU:cnt<=8) {c i:Int} {n:List UInt8} (hn:n.length<2 ^ 60) (hi:c=5->i<100)
  (ih:0<d->∀{m':List (List AV)},KI bs m'->∀{k:Nat},k<=l.length->∀(L:A3),L.ro<=id->∀(ts':List (Nat×Nat)),L.rt<=ts'.length ->
   ∃v s',(∃t k' x,BV t v/\Qk d t/\k<=k'/\k'<=l.length/\s'=⟨ST bs id l k'++m',ts'++x⟩)/\BA (env R) L 18 [.ptr id 0,AB ((d:Int)-1)] ⟨ST bs id l k++m',ts'⟩ v s')
  (hP:∀t v k' ts',BV t v->Qk (d+1) t->k0<=k'->k'<=l.length->Post v ⟨ST bs id l k'++m,ts++ts'⟩) :
  ∀(j q k:Nat) (x:List (Nat×Nat)) (a:AV) (es:List Ty),q+j=cnt->k0<=k->k<=l.length->es.length=q->(∀e∈es,Qk d e)->Dr ts.length (ts++x) 25 a (AZ es) ->
   nH R 0 ro rt (.ptr id 0) (AB d) (.ptr (bs.length+m.length) 0) (.ptr (bs.length+m.length+1) 0) (AB cnt) (AB q) ⟨ST bs id l k++(m++[[AB 0,SS [],AB 0,.AA []],[AB c,SS n,AB i,a]]),ts++x⟩ (QM rr N Post):=by
 have hlt:=hB.lt
 have fin:∀(k:Nat) (x:List (Nat×Nat)) (a:AV) (es:List Ty),k0<=k->k<=l.length->es.length<=8->(∀e∈es,Qk d e)->Dr ts.length (ts++x) 25 a (AZ es) ->
   ij R 0 ro rt (.ptr (bs.length+m.length) 0) (.ptr (bs.length+m.length+1) 0) ⟨ST bs id l k++(m++[[AB 0,SS [],AB 0,.AA []],[AB c,SS n,AB i,a]]),ts++x⟩ (QM rr N Post):=by
  intro k x a es Ze hk hes hq ha;refine AMR ?_;have ho:=ha.A1;have:=AD6 (R:=R) (Post:=Post) (rr:=rr) (N:=N) (k:=k) (ts:=ts++x) (Z:=[AB 0,SS [],AB 0,.AA []]) (r:=[[AB c,SS n,AB i,a]]) (L':=Dh (env R) 18 0 ro rt) hB hm rfl hN hro rfl ho (c:=c) (i:=i) (n:=n) (λy hy=>hP _ y k x hy (Qk.pow hn rfl hes hq) Ze hk)
  simp_all[Gf]
 intro j
 induction j with
 | zero=>
  intro q k x a es hq Ze hk hes hqs ha;refine AFy (Ai ?_);have h1:¬ ((q:Int)<cnt):=by omega
  simp only[h1,decide_false];exact LS (by simp) (LS (by simp) (pk (Aq (fin k x a es Ze hk (by omega) hqs ha))))
 | succ j D7=>
  intro q k x a es hq Ze hk hes hqs ha;refine AFy (Ai ?_);have h1:((q:Int)<cnt):=by omega
  simp only[h1,decide_true];refine Am (Am (Gk (pk ?_)))
  by_cases hd0:d=0
  .have b0:decide ((d:Int)>0)=false:=by grind
   rw[b0];exact Aq (fin k x a es Ze hk (by omega) hqs ha)
  have b0:decide ((d:Int)>0)=true:=by grind
  rw[b0];have ho:=ha.A1;refine BH (ASV ?_);have hm2:KI bs (m++[[AB 0,SS [],AB 0,.AA []],[AB c,SS n,AB i,a]]):=My hm (by simp[Ah,Ar,ho.Ar]);simp[Gf,PR,J3,PS];refine B8 (by omega) (by omega) ?_;refine EB (ih (by omega) hm2 hk _ hro (ts++x) (by grind)) ?_;rintro v s1 ⟨t,k2,x2,hv,hqn,hk2,R2,rfl⟩;obtain⟨c1,n1,i1,es1⟩:=t;obtain⟨b,rfl,hb⟩:=hv;simp[Ct,Fg,hb.ok,hb.Ls,Gf,PR,J3,PS];have hrow:CR 4 1 [PV.sc (.int .i64 c1),.sc (.string ⟨n1.toArray⟩),.sc (.int .i64 i1),.list (AZ es1)]=[Ag (.mk c1 n1 i1 es1)]:=by rfl
  rw[hrow]
  have S9:Dr ts.length (ts++(x++x2)) 25 a (AZ es):=by
   rw[<-FY];exact ha.grow
  refine O8 S9 Eb (λr hr=>ig r hr) (Af _) (by omega) (DW _) (by grind[AQ]) (by grind[AQ]) ?_;intro a' x' J8;have ho':=J8.A1;simp[Gf,PR,J3,PS,ho'.ok,ho'.cells,ho'.Jm,show ro<=bs.length+m.length+1 by omega];refine⟨by simp[Bl],?_,?_⟩
  .grind[AXf.Bl]
  refine AMS (Ba (by omega) (by omega) ?_);have ha3:Dr ts.length (ts++x') 25 a' (AZ (es++[.mk c1 n1 i1 es1])):=by simp[*,GJ,AZ]
  have:=D7 (q+1) k2 x' a' (es++[.mk c1 n1 i1 es1]) (by omega) (by omega) R2 (by simp[*]) (by
   intro e he;rcases B9.1 he with h|h
   .grind
   grind) ha3
  grind
theorem pY (hB:Qj bs id l) (hm:KI bs m) (hro:ro<=id) (Eb:rt<=ts.length) (hd:d<100) (hN:N=bs.length+m.length) {W:List (List UInt8)} (hW:(env R).G 0=some (Gh W)) (sW:Short W)
  (ih:0<d->∀{m':List (List AV)},KI bs m'->∀{k:Nat},k<=l.length->∀(L:A3),L.ro<=id->∀(ts':List (Nat×Nat)),L.rt<=ts'.length ->
   ∃v s',(∃t k' x,BV t v/\Qk d t/\k<=k'/\k'<=l.length/\s'=⟨ST bs id l k'++m',ts'++x⟩)/\BA (env R) L 18 [.ptr id 0,AB ((d:Int)-1)] ⟨ST bs id l k++m',ts'⟩ v s')
  (hP:∀t v k' ts',BV t v->Qk (d+1) t->k0<=k'->k'<=l.length->Post v ⟨ST bs id l k'++m,ts++ts'⟩) {c i:Int} {n:List UInt8} (hn:n.length<2 ^ 60) {k:Nat} (Ze:k0<=k) (hk:k<=l.length) :
  Uf R 0 ro rt (.ptr id 0) (AB d) (.ptr (bs.length+m.length) 0) (.ptr (bs.length+m.length+1) 0) ⟨ST bs id l k++(m++[[AB 0,SS [],AB 0,.AA []],[AB c,SS n,AB i,.AA []]]),ts⟩ (QM rr N Post):=by
 have hlt:=hB.lt;have hlen:=hB.len;obtain⟨t1,t2,t3⟩:=sW;have VV:∀(c i:Int) (n:List UInt8),KI bs (m++[[AB 0,SS [],AB 0,.AA []],[AB c,SS n,AB i,.AA []]]):=λc i n=>My hm (by simp[Ah,Ar])
 have g1:ro<=bs.length+m.length+1:=by omega
 have fad:∀(k:Nat) (c i:Int) (n:List UInt8) (o:Nat) (K:AV->Prop),K (.ptr (bs.length+m.length+1) o)->Ax ⟨ST bs id l k++(m++[[AB 0,SS [],AB 0,.AA []],[AB c,SS n,AB i,.AA []]]),ts⟩ (.ptr (bs.length+m.length+1) 0) o K:=by simp[*,Gf]
 have ld:∀(k:Nat) (c i:Int) (n:List UInt8) (o:Nat) (y:AV),[AB c,SS n,AB i,.AA []][o]?=some y->∀K:AV->Prop,K y->FC (env R) ⟨ST bs id l k++(m++[[AB 0,SS [],AB 0,.AA []],[AB c,SS n,AB i,.AA []]]),ts⟩ none (.ptr (bs.length+m.length+1) o) K:=by simp_all[Gf]
 have rq:∀(k:Nat) (c i y:Int) (n:List UInt8) (K:AL->Prop),K ⟨ST bs id l k++(m++[[AB 0,SS [],AB 0,.AA []],[AB c,SS n,AB y,.AA []]]),ts⟩->Ci (Dh (env R) 18 0 ro rt) ⟨ST bs id l k++(m++[[AB 0,SS [],AB 0,.AA []],[AB c,SS n,AB i,.AA []]]),ts⟩ 1 (.ptr (bs.length+m.length+1) 2) (AB y) K:=by simp[*,Gf,J3]
 have Fh:∀(k:Nat) (c i:Int) (n w:List UInt8) (K:AL->Prop),K ⟨ST bs id l k++(m++[[AB 0,SS [],AB 0,.AA []],[AB c,SS w,AB i,.AA []]]),ts⟩->Ci (Dh (env R) 18 0 ro rt) ⟨ST bs id l k++(m++[[AB 0,SS [],AB 0,.AA []],[AB c,SS n,AB i,.AA []]]),ts⟩ 1 (.ptr (bs.length+m.length+1) 1) (SS w) K:=by simp[*,Gf,J3]
 have count:∀(k:Nat) (i:Int) (n:List UInt8) (cnt:Nat),k0<=k->k<=l.length->n.length<2 ^ 60->(c=5->i<100)->cnt<=2 ->
   dB R 0 ro rt (.ptr id 0) (AB d) (.ptr (bs.length+m.length) 0) (.ptr (bs.length+m.length+1) 0) (AB cnt) ⟨ST bs id l k++(m++[[AB 0,SS [],AB 0,.AA []],[AB c,SS n,AB i,.AA []]]),ts⟩ (QM rr N Post):=by
  intro k i n cnt h0 hk hn hi hc
  have loop:∀(k2 cnt:Nat),k0<=k2->k2<=l.length->cnt<=8->nI R 0 ro rt (.ptr id 0) (AB d) (.ptr (bs.length+m.length) 0) (.ptr (bs.length+m.length+1) 0) (AB cnt) ⟨ST bs id l k2++(m++[[AB 0,SS [],AB 0,.AA []],[AB c,SS n,AB i,.AA []]]),ts⟩ (QM rr N Post):=by
   intro k2 cnt h1 h2 h3;refine ASW ?_;have:=pX (R:=R) (rr:=rr) (N:=N) (Post:=Post) (k0:=k0) (ts:=ts) (d:=d) (ro:=ro) (rt:=rt) (cnt:=cnt) (c:=c) (i:=i) (n:=n) hB hm hro Eb hd hN h3 hn hi ih hP cnt 0 k2 [] (.AA []) [] (by omega) h1 h2 rfl (by simp) (.inl (by rfl))
   grind
  refine ASX ?_;refine EB (G0 (n:=10) hB (VV c i n) hk (by omega) (by omega) _ (by exact hro) ts) ?_;rintro v s1 ⟨r2,k2,rfl,hr3,hr4,R2,vQ,rfl⟩;refine Ay ?_;cases b9:(r2==9) with
  | true=>
   refine BH ?_;refine EB (G0 (n:=9) hB (VV c i n) vQ (by omega) (by omega) _ (by exact hro) ts) ?_
   grind[Int.eq_ofNat_of_zero_le]
  | false=>grind[Aq]
 have Aak:∀(k:Nat) (i:Int) (n:List UInt8),k0<=k->k<=l.length->n.length<2 ^ 60->(c=5->i<100) ->
   nJ R 0 ro rt (.ptr id 0) (AB d) (.ptr (bs.length+m.length) 0) (.ptr (bs.length+m.length+1) 0) ⟨ST bs id l k++(m++[[AB 0,SS [],AB 0,.AA []],[AB c,SS n,AB i,.AA []]]),ts⟩ (QM rr N Post):=by
  intro k i n h0 hk hn hi
  have four:∀B:Bool,nK R 0 ro rt (.ptr id 0) (AB d) (.ptr (bs.length+m.length) 0) (.ptr (bs.length+m.length+1) 0) (AB 0) (AB c) (BB B) ⟨ST bs id l k++(m++[[AB 0,SS [],AB 0,.AA []],[AB c,SS n,AB i,.AA []]]),ts⟩ (QM rr N Post):=by
   intro B
   have six:∀B:Bool,nL R 0 ro rt (.ptr id 0) (AB d) (.ptr (bs.length+m.length) 0) (.ptr (bs.length+m.length+1) 0) (AB 0) (BB B) ⟨ST bs id l k++(m++[[AB 0,SS [],AB 0,.AA []],[AB c,SS n,AB i,.AA []]]),ts⟩ (QM rr N Post):=by
    intro B;refine ASY ?_;cases B with
    | true=>exact BH (count k i n 2 h0 hk hn hi (by omega))
    | false=>exact Aq (count k i n 0 h0 hk hn hi (by omega))
   refine ASZ ?_;cases B with
   | true=>
    refine BH ?_;refine EB (G0 (n:=3) hB (VV c i n) hk (by omega) (by omega) _ (by exact hro) ts) ?_
    grind[Int.eq_ofNat_of_zero_le]
   | false=>
    refine Aq (Ay ?_);cases b4:(c==4) with
    | true=>grind[BH]
    | false=>grind[Aq,Ay]
  refine ASa (fad _ _ _ _ _ _ (ld _ _ _ _ 0 _ rfl _ (Ay ?_)));cases b2:(c==2) with
  | true=>grind[BH]
  | false=>grind[Aq,Ay]
 have Aal:∀(k:Nat) (i:Int),k0<=k->k<=l.length->(c=5->i<100) ->
   nM R 0 ro rt (.ptr id 0) (AB d) (.ptr (bs.length+m.length) 0) (.ptr (bs.length+m.length+1) 0) ⟨ST bs id l k++(m++[[AB 0,SS [],AB 0,.AA []],[AB c,SS n,AB i,.AA []]]),ts⟩ (QM rr N Post):=by
  intro k i h0 hk hi;refine ASb (fad _ _ _ _ _ _ (ld _ _ _ _ 0 _ rfl _ (Ay ?_)));cases b2:(c==2) with
  | true=>
   refine BH ?_;refine Mz hW (Mz hW (nG ?_));refine EB (G0 (n:=W.length) hB (VV c i n) hk (by omega) (by omega) _ (by simp[*]) ts) ?_;rintro v s1 ⟨r2,k2,rfl,hr3,hr4,R2,vQ,rfl⟩;obtain⟨w,hw⟩:∃w,W[r2.toNat]?=some w:=⟨_,Ak (by omega)⟩
   grind[nE,yZ,Mz,RI]
  | false=>grind[Aq]
 refine ASc (fad _ _ _ _ _ _ (ld _ _ _ _ 0 _ rfl _ (Ay ?_)));cases b5:(c==5) with
 | true=>
  refine BH ?_;refine EB (G0 (n:=4) hB (VV c i n) hk (by omega) (by omega) _ (by exact hro) ts) ?_
  grind
 | false=>grind[Aq]
theorem ZI (hB:Qj bs id l) {W:List (List UInt8)} (hW:(env R).G 0=some (Gh W)) (sW:Short W):∀(d:Nat),d<100->∀{m:List (List AV)},KI bs m->∀{k:Nat},k<=l.length->∀(L:A3),L.ro<=id->∀(ts:List (Nat×Nat)),L.rt<=ts.length ->
  ∃v s',(∃t k' x,BV t v/\Qk (d+1) t/\k<=k'/\k'<=l.length/\s'=⟨ST bs id l k'++m,ts++x⟩)/\BA (env R) L 18 [.ptr id 0,AB d] ⟨ST bs id l k++m,ts⟩ v s':=by
 intro d
 induction d using Nat.strongRecOn with
 | ind d ih=>
  intro hd m hm k hk L hro ts Eb;have hlen:=hB.len;have hlt:=hB.lt;obtain⟨t1,t2,t3⟩:=sW
  suffices H:∀(rr:Bool) (N:Nat) (Post:AV->AL->Prop),N=bs.length+m.length->(∀t v k' x,BV t v->Qk (d+1) t->k<=k'->k'<=l.length->Post v ⟨ST bs id l k'++m,ts++x⟩)->ye R 0 L.ro L.rt (.ptr id 0) (AB d) ⟨ST bs id l k++m,ts⟩ (QM rr N Post) from
   m18 (by rfl) (H _ _ _ (by simp[KJ]) λt v k' x h1 h2 h3 h4=>⟨t,k',x,h1,h2,h3,h4,rfl⟩)
  intro rr N Post hN hP;have hm':KI bs (m++[[AB 0,SS [],AB 0,.AA []]]):=My hm (by simp[Ah,Ar])
  have gK:0<d->∀{m':List (List AV)},KI bs m'->∀{k:Nat},k<=l.length->∀(L:A3),L.ro<=id->∀(ts':List (Nat×Nat)),L.rt<=ts'.length ->
   ∃v s',(∃t k' x,BV t v/\Qk d t/\k<=k'/\k'<=l.length/\s'=⟨ST bs id l k'++m',ts'++x⟩)/\BA (env R) L 18 [.ptr id 0,AB ((d:Int)-1)] ⟨ST bs id l k++m',ts'⟩ v s':=by
   intro h0 m' h1 k' h2 L' h3 ts' h4;have:=ih (d-1) (by omega) (by omega) h1 h2 L' h3 ts' h4
   grind
  have rest:∀(k1:Nat) (c i:Int) (n:List UInt8),k<=k1->k1<=l.length->n.length<2 ^ 60->Uf R 0 L.ro L.rt (.ptr id 0) (AB d) (.ptr (bs.length+m.length) 0) (.ptr (bs.length+m.length+1) 0) ⟨ST bs id l k1++(m++[[AB 0,SS [],AB 0,.AA []],[AB c,SS n,AB i,.AA []]]),ts⟩ (QM rr N Post):=
   λk1 c i n h1 h2 h3=>pY (R:=R) hB hm hro Eb hd hN hW ⟨t1,t2,t3⟩ gK hP h3 h1 h2
  refine ASd ?_;simp only[Cl,FY,CD,KJ];refine EB (G0 (n:=7) hB hm' hk (by omega) (by omega) _ (by simp[*]) ts) ?_;rintro v s1 ⟨r,k1,rfl,R3,P0,ZQ,hk2,rfl⟩;refine IY (cs:=[AB r,SS [],AB 0,.AA []]) (by simp) ?_;have eL:(ST bs id l k1++(m++[[AB 0,SS [],AB 0,.AA []]])).length=bs.length+m.length+1:=by grind[KJ]
  have eA:(ST bs id l k1++(m++[[AB 0,SS [],AB 0,.AA []]]))++[[AB 0,SS [],AB 0,.AA []]]=ST bs id l k1++(m++[[AB 0,SS [],AB 0,.AA []],[AB 0,SS [],AB 0,.AA []]]):=by simp
  have g1:L.ro<=bs.length+m.length+1:=by omega
  have VV:∀(c i:Int) (n:List UInt8),KI bs (m++[[AB 0,SS [],AB 0,.AA []],[AB c,SS n,AB i,.AA []]]):=λc i n=>My hm (by simp[Ah,Ar])
  have hst:∀K:AL->Prop,K ⟨ST bs id l k1++(m++[[AB 0,SS [],AB 0,.AA []],[AB r,SS [],AB 0,.AA []]]),ts⟩->Ci (Dh (env R) 18 0 L.ro L.rt) ⟨ST bs id l k1++(m++[[AB 0,SS [],AB 0,.AA []],[AB 0,SS [],AB 0,.AA []]]),ts⟩ 4 (.ptr (bs.length+m.length+1) 0) (.agg [AB r,SS [],AB 0,.AA []]) K:=by simp[*,Gf,J3]
  have fad:∀(k:Nat) (o:Nat) (K:AV->Prop),K (.ptr (bs.length+m.length+1) o)->Ax ⟨ST bs id l k++(m++[[AB 0,SS [],AB 0,.AA []],[AB r,SS [],AB 0,.AA []]]),ts⟩ (.ptr (bs.length+m.length+1) 0) o K:=by simp[*,Gf]
  have st:∀(k:Nat) (o:Nat) (y:AV) (b:List AV),[AB r,SS [],AB 0,.AA []].set o y=b->o<4->BE y=true->cellsOf y=[y]->∀(K:AL->Prop),K ⟨ST bs id l k++(m++[[AB 0,SS [],AB 0,.AA []],b]),ts⟩->Ci (Dh (env R) 18 0 L.ro L.rt) ⟨ST bs id l k++(m++[[AB 0,SS [],AB 0,.AA []],[AB r,SS [],AB 0,.AA []]]),ts⟩ 1 (.ptr (bs.length+m.length+1) o) y K:=by
   intro k o y b hb ho hy hc K h;simp only[Ci,Gf,Ig,Jj,wO,hc,setCells];refine⟨⟨rfl,by grind,by simp[*],by grind,.inl (by simp),by omega⟩,?_⟩;simp[*,J3]
  simp only[eL,eA];refine hst _ ?_;refine EB (G0 (n:=12) hB (VV r 0 []) hk2 (by omega) (by omega) _ (by simp[*]) ts) ?_;rintro v s1 ⟨r2,k2,rfl,hr3,hr4,R2,vQ,rfl⟩;refine Ay ?_;cases b9:(r2==9) with
  | true=>
   refine BH ?_;refine EB (dA hB (VV r 0 []) vQ _ (by simp[*]) ts) ?_;rintro v s1 ⟨r5,k5,rfl,lD,j5,rfl⟩;refine fad _ _ _ (st _ 0 _ _ rfl (by omega) rfl rfl _ ?_)
   grind
  | false=>
   refine Aq (Ay ?_);cases b10:(r2==10) with
   | true=>
    refine BH ?_;refine EB (dA hB (VV r 0 []) vQ _ (by simp[*]) ts) ?_;rintro v s1 ⟨r5,k5,rfl,lD,j5,rfl⟩;refine fad _ _ _ (st _ 2 _ _ rfl (by omega) rfl rfl _ ?_)
    grind
   | false=>
    refine Aq (Ay ?_);cases b11:(r2==11) with
    | true=>
     refine BH ?_;refine Mz hW (Mz hW (nG ?_));refine EB (G0 (n:=W.length) hB (VV r 0 []) vQ (by omega) (by omega) _ (by simp[*]) ts) ?_;rintro v s1 ⟨r5,k5,rfl,hr5,hr6,lD,j5,rfl⟩;obtain⟨w,hw⟩:∃w,W[r5.toNat]?=some w:=⟨_,Ak (by omega)⟩;refine nE hr5 hw (yZ (fad _ _ _ (st _ 1 _ _ rfl (by omega) rfl rfl _ ⟨Mz hW (RI W),?_⟩)))
     grind
    | false=>grind[Aq]
end
section
variable {bs:List (List AV)} {id:Nat} {l:Src} {R:Nat->Option (List PV)}
def TyG (d B:Nat) (t:Ty):Prop:=yd B t/\gq d t=true
def AMV (d B:Nat) (l:List Ty):Prop:=ZH B l/\gqL d l=true
theorem TyG.mono {d B C:Nat} {t:Ty} (h:TyG d B t) (hl:B<=C):TyG d C t:=⟨h.1.mono hl,h.2⟩
theorem TyG.leaf {d B:Nat} {k i:Int} {n:List UInt8} (h3:(k==3||k==4)=false) (h6:(k==6)=false) (hn:n.length<2 ^ 60) (hB:0<B):TyG d B (.mk k n i []):=⟨yd.leaf hn hB,by grind[gq]⟩
theorem AMV.nil {d B:Nat}:AMV d B []:=⟨ZH.nil,by rw[gqL]⟩
theorem TyG.tup {d B:Nat} {es:List Ty} (hd:0<d) (hl:es.length<=3) (h:AMV (d-1) B es):TyG d (B+1) (.mk 3 [] 0 es):=by
 refine⟨yd.node (by simp) h.1,?_⟩;rw[gq,h.2,Ap hd,Ap hl];rfl
end
end Go.Proofs.YtpgfpakdnijngaaGreatDoor
