/-
  The reference: Expand.
-/
import Derived.Test.YtpgfpakdnijngaaGreatDoorTG
import Derived.Test.YtpgfpakdnijngaaGreatDoorTE
import Derived.Test.YtpgfpakdnijngaaGreatDoorWpW
set_option linter.all false
namespace Go.Proofs.YtpgfpakdnijngaaGreatDoor
open Go.Tel
theorem xk:∀(new pre old post:List AV),old.length=new.length->setCells (pre++(old++post)) pre.length new=pre++(new++post)
 | [],pre,old,post,h=>by
  have:old=[]:=by grind
  subst this;rfl
 | x::new,pre,old,post,h=>by
  cases old with
  | nil=>grind
  | cons y old=>
   have:=xk new (pre++[x]) old post (by grind)
   grind[setCells]
theorem CT.set {α β:Type} {P:α->β->Prop}:∀{l:List α} {m:List β} (p:Nat) {a:α} {b:β},CT P l m->P a b->CT P (l.set p a) (m.set p b)
 | [],[],_,_,_,_,_=>trivial
 | x::l,y::m,0,_,_,⟨_,h⟩,hab=>⟨hab,h⟩
 | x::l,y::m,p+1,_,_,⟨h1,h2⟩,hab=>⟨h1,CT.set p h2 hab⟩
 | [],_::_,_,_,_,h,_=>h.elim
 | _::_,[],_,_,_,h,_=>h.elim
theorem CT.len {α β:Type} {P:α->β->Prop}:∀{l:List α} {m:List β},CT P l m->l.length=m.length
 | [],[],_=>rfl
 | _::l,_::m,⟨_,h⟩=>by simp[CT.len h]
 | [],_::_,h=>h.elim
 | _::_,[],h=>h.elim
theorem xl:∀{l:List Br} {rows:List (List AV)},CT (λb row=>CP b (.agg row)) l rows->rows.flatten.length=rows.length*5
 | [],[],_=>rfl
 | b::l,row::rows,⟨h1,h2⟩=>by
  have:=xl h2;obtain⟨c1,_,_⟩:=h1.cells
  grind
 | [],_::_,h=>h.elim
 | _::_,[],h=>h.elim
theorem CT.take {α β:Type} {P:α->β->Prop}:∀{l:List α} {m:List β} (p:Nat),CT P l m->CT P (l.take p) (m.take p)
 | [],[],p,_=>by grind
 | _::_,_::_,0,_=>trivial
 | x::l,y::m,p+1,⟨h1,h2⟩=>⟨h1,CT.take p h2⟩
 | [],_::_,_,h=>h.elim
 | _::_,[],_,h=>h.elim
theorem AMX {L:A8} {s:AM} {lo p:Nat} {l:List Br} {y:AV} {c c':Br} {row:List AV} (hy:EY lo s.bs l y) (hc:l[p]?=some c) (hr:CP c' (.agg row)) (hro:L.ro<=lo) (hn0:L.n0<=lo) {K:AM->Prop}
  (h:∀bs',EY lo bs' (l.set p c') y->bs'.length=s.bs.length->(∀j d,(∀n,y≠.ref j 0 n 5)->s.bs[j]?=some d->bs'[j]?=some d)->(BM s->BM ⟨bs',s.ts⟩)->K ⟨bs',s.ts⟩):Bh s 5 y (AA p) λa=>CJ L s 5 a (.agg row) K:=by
 have hp:p<l.length:=(BL.1 hc).1;rcases hy with ⟨rfl,rfl⟩|⟨id,rows,h1,rfl,h2,h3,h4⟩
 .grind
 .obtain⟨_,_,_,_,_,_,hal⟩:=EY.block (lo:=lo) h2 h3 h4
  obtain⟨q1,q2,q3⟩:=hr.cells;have hl:=h3.len;have hfl:=xl h3;have hft:=xl (h3.take p);have hce:cellsOf (.agg row)=row:=rfl;obtain⟨old,ho⟩:∃old,rows[p]?=some old:=⟨_,Ak (by omega)⟩;obtain⟨KT,hog⟩:=BL.1 ho
  have h5:∀(l:List Br) (rows:List (List AV)) (p:Nat) (old:List AV),CT (λb row=>CP b (.agg row)) l rows->rows[p]?=some old->old.length=5:=by
   intro l
   induction l with
   | nil=>intro rows p old h ho; cases rows with
    | nil=>grind
    | cons _ _=>exact h.elim
   | cons b l ih=>
    intro rows p old h ho;cases rows with
    | nil=>grind
    | cons r rows=>
     cases p with
     | zero=>
      have:r=old:=by grind
      subst this;exact h.1.cells.1
     | succ p=>exact ih rows p old h.2 (by grind)
  have h5:=h5 l rows p old h3 ho;refine⟨⟨by omega,by omega,rfl,hal⟩,?_⟩;simp only[CJ,h2,wO,hce];have e0:0+((p:Nat):Int).toNat*5=p*5:=by omega
  rw[e0];refine⟨⟨q1,by omega,by omega,q2,.inl (by omega),by omega⟩,?_⟩;have es:rows.flatten=(rows.take p).flatten++(old++(rows.drop (p+1)).flatten):=by grind[List.drop_eq_getElem_cons,List.take_append_drop]
  have es2:setCells rows.flatten (p*5) row=(rows.set p row).flatten:=by grind[List.set_eq_take_append_cons_drop,xk]
  rw[es2];refine h _ (.inr ⟨id,rows.set p row,h1,by rw[RP],?_,h3.set p hr,?_⟩) (by rw[RP]) (λj d hj hjd=>?_) (λhs=>?_)
  .rw[CS (BL.1 h2).1]
  .simp[*]
  .grind
  .have qm:=(Hj (h3.set p hr)).2.2
   grind[BM.set]
theorem EY.close {lo:Nat} {bs:List (List AV)} {l:List Br} {v:AV} (hb:EY lo bs l v):∃v',Tel.close bs 0 0 v=some v'/\Aq v' (l.map DY):=by
 rcases hb with ⟨rfl,rfl⟩|⟨id,rows,h1,rfl,h2,h3,h4⟩
 .exact⟨.AB [],by rfl,.AB _⟩
 .obtain⟨c,cs,hc,k1,k2,k3,hal⟩:=EY.block (lo:=lo) (s:=⟨bs,[]⟩) h2 h3 h4
  have htp:=T6 h3;refine⟨.pv (.list (l.map DY)),?_,.list _⟩
  grind[Ii,Fq,Kj,List.length_map,Tel.close]
section
variable {R:RT}
structure AMY (b:Br):Prop where
 WL:size b.body<2 ^ 36
 ok:vP wI b.body=true
 Ea:b.bounds.length<2 ^ 37
 Nt:∀i∈occs b.body [],0<=i/\i<(b.bounds.length:Int)
theorem ADl {X:Ty->List Br×Int} {l:List Br} (hl:l.length<=32) (hG:∀b∈l,AMY b/\(FN b).bounds.length<2 ^ 30/\∀c∈(FN b).bounds,o8 R c (X c)) {t5:AV} {Post:AV->Prop}
  (hF:((l.map FN).all λb=>Qr b&&b.bounds.all λb=>Dp (X b))=false->Post (.tuple [.AB [],AA 4])) (hS:((l.map FN).all λb=>Qr b&&b.bounds.all λb=>Dp (X b))=true->∀a,Aq a ((l.map FN).map DY)->Post (.tuple [a,AA 0])) :
  ∀(j p:Nat) (bs:List (List AV)) (tk:List (Nat×Nat)),p+j=l.length->EY 2 bs ((l.take p).map FN++l.drop p) t5->(((l.take p).map FN).all λb=>Qr b&&b.bounds.all λb=>Dp (X b))=true->mR R 0 0 0 t5 (AA p) ⟨bs,tk⟩ (QP Post):=by
 have hlen:∀p,p<=l.length->((l.take p).map FN++l.drop p).length=l.length:=by grind
 intro j
 induction j with
 | zero=>
  intro p bs tk hi hb hall;refine AFg (Al (n:=l.length) (by rw[hb.A7,hlen p (by omega)]) (Ah ?_));rw[Aw (by omega)];rw[CA (by omega)] at hb hall;rw[Bu (by omega),Gd] at hb;obtain⟨a,h1,h2⟩:=hb.close;exact Am (ASF ⟨.tuple [a,AA 0],by grind[Tel.close,AY],hS hall a h2⟩)
 | succ j ih=>
  intro p bs tk hi hb hall;refine AFg (Al (n:=l.length) (by rw[hb.A7,hlen p (by omega)]) (Ah ?_));rw[Ap (by omega)];obtain⟨b,hbp⟩:∃b,l[p]?=some b:=⟨_,Ak (by omega)⟩;obtain⟨hr,Ns,hX⟩:=hG b (A2 hbp);have htl:((l.take p).map FN).length=p:=by grind
  have hgp:((l.take p).map FN++l.drop p)[p]?=some b:=by simp_all[E4]
  have oG:((l.take p).map FN++l.drop p).set p (FN b)=(l.take (p+1)).map FN++l.drop (p+1):=by simp_all[drop_cons,List.take_add_one]
  refine A4 (ASG (QE hb hgp λrow hrow=>AD (T8 hr.WL hr.ok hr.Ea hr.Nt hrow) ?_));intro v hv
  have PX:CP (FN b) v:=by
   obtain⟨a,y,rfl,ha,hy⟩:=hv;exact⟨a,y,rfl,.inl ha,hy.G1⟩
  obtain⟨r2,rfl⟩:=PX.agg;refine AMX hb hgp PX (AI _) (AI _) λbs' h1 _ _ _=>?_
  rw[oG] at h1;have hsz:=(Wc hr.ok hr.WL).1
  have hg2:((l.take (p+1)).map FN++l.drop (p+1))[p]?=some (FN b):=by
   rw[<-oG,CS (by grind)]
  refine QE h1 hg2 λrow2 ASH=>AD (Uz (X:=X) (by have:=hr.WL; omega) Ns hX ASH) ?_
  rintro _ rfl;refine nt ?_;cases hg:Qr (FN b)&&(FN b).bounds.all λb=>Dp (X b) with
  | false=>
   refine A4 ⟨_,by rfl,hF ?_⟩
   grind[List.mem_map_of_mem]
  | true=>
   refine Am (ASI (BW (by omega) (by omega) ?_))
   have:=ih (p+1) bs' tk (by omega) h1 (by
    rw[List.take_add_one,hbp];simp only[Option.toList_some,RJ,CH,Cs,W7,hall,G5,hg,List.all_nil,Kr])
   simpa using this
theorem Wd {t:Ty} (hv:valid t=true) (hc:Co 0 t=true) (hft:Fit t) {l:List Br} (lR:DM (AQ 32) (depth t) t=some l):∀b∈l,AMY b/\(FN b).bounds.length<2 ^ 30/\size (FN b).body<2 ^ 30/\∀c∈(FN b).bounds,Yd t c:=by
 intro b Rb;obtain⟨ps,B,_,_,AX4,_,hB⟩:=ADj hv hc hft.bws lR;have z:=De (BA:=AQ 32) (depth t) t l lR b Rb;have zG:=lI (depth t) t l hv hft.bws lR b Rb;have hbw:(bw t:Int)<1073741824:=hft.bws;have hsz:=zG.WL;have hwt:=hft.wts;have hok:=AMW zG (by omega);obtain⟨r1,r2⟩:=Wc hok (by omega);refine⟨⟨by omega,hok,by omega,AX4 b Rb⟩,by omega,by omega,λc Nr=>?_⟩;have hcm':c∈(occs b.body []).map λi=>b.bounds.getD i.toNat Z9:=Nr
 grind
theorem cW:∀(f:Nat) (t:Ty),depth t<=f->size t<2 ^ 60->X4 t->(verdict t=0->Fit t)->o8 R t (xR f t):=by
 intro f
 induction f with
 | zero=>
  intro t hd;obtain⟨k,n,i,ts⟩:=t
  grind[depth]
 | succ f ih=>
  intro t hd hsz hok hfit x hx;obtain⟨xc,rfl⟩:=hx.agg;obtain⟨c1,c2,c3,c4⟩:=hx.cells
  suffices H:∀Post:AV->Prop,(∀r,(∃a,r=.tuple [a,AA (xR (f+1) t).2]/\Aq a ((xR (f+1) t).1.map DY))->Post r)->xm R 0 0 0 (.agg xc) ⟨[],[]⟩ (QP Post) from e15 (u0:=.agg xc) (by grind[AY,Tel.close]) (H _ λr h=>h)
  intro Post hP;have g0:(AM.mk ([]++[xc]) []).bs[0]?=some xc:=rfl;have fail:∀(n:Int) (s:AM),xR (f+1) t=([],n)->(QP Post) (.tuple [.AB [],AA n]) s:=λn s h=>⟨.tuple [.AB [],AA n],by rfl,hP _ ⟨.AB [],by rw[h],by rw[h]; exact .AB _⟩⟩
  refine ASJ (Bw (cs:=xc) rfl c2 (Ad g0 c1 (AD (TE (R:=R) (by omega) hok hx) ?_)));rintro _ rfl;refine FE ?_;rw[xR] at fail hP;cases ZE:verdict t==0 with
  | false=>
   have:(verdict t != 0)=true:=by grind
   simp[*,DF,pk,A4]
  | true=>
   have:(verdict t != 0)=false:=by grind
   rw[this];have hft:=hfit (by grind);obtain⟨hv,AFN,AQ2⟩:=Hh (by simpa using ZE);refine Ao (Ad g0 c1 (Ao (AD (IM (R:=R) (by omega) hx) ?_)));rintro _ rfl;refine Ao (nt (pk ?_));cases hc:Co 0 t with
   | false=>grind[A4]
   | true=>
    rw[ZE,hc] at fail hP;simp only[MM,Ks,AG] at fail hP;refine Am (ASK (IC (cs:=[BB true,BB false]) rfl (Bw (cs:=[BB true,BB false]) rfl rfl (Ad (Av g0 _) c1 ?_))))
    have hs2:BM ⟨[xc,[BB true,BB false]],[]⟩:=by
     intro d hdm;simp only[A1,Ed,Ee] at hdm;rcases hdm with rfl|rfl
     .exact Bn (AI _) _ c3
     rfl
    obtain⟨v,s',hR,Tn⟩:=(Ux (R:=R) (e:=1) (depth t) t (Aa _) hv hft.bws hft.wts (by omega)).c (.agg xc) hx.G1 false ⟨[xc,[BB true,BB false]],[]⟩ hs2 (Cv (env R) 15 0 0 0) rfl rfl (by rfl) rfl;simp only[oX,AG] at hR;obtain⟨b2,Mq⟩:=s';have hT:b2.take 2=[xc,[BB true,BB (DM (AQ 32) (depth t) t).isNone]]:=hR.tk;have g1:b2[1]?=some [BB true,BB (DM (AQ 32) (depth t) t).isNone]:=B5 hT rfl;refine⟨_,_,Tn,Cy (AP g1) (AK (AP g1) (AU (off:=1) g1 rfl ?_))⟩;cases lR:DM (AQ 32) (depth t) t with
    | none=>
     grind[A4]
    | some l=>
     rw[lR] at hR hP;simp only at hP;have hb:EY 2 b2 l v:=hR.So;have oZ:=Mi (depth t) t l lR
     have hG:∀b∈l,AMY b/\(FN b).bounds.length<2 ^ 30/\∀c∈(FN b).bounds,o8 R c (xR f c):=by
      intro b Rb;obtain⟨q1,q2,_,q3⟩:=Wd hv hc hft lR b Rb;refine⟨q1,q2,λc Nr=>?_⟩;have hSub:=q3 c Nr;exact ih c (by have:=hSub.dep; omega) (by have:=hSub.WL; omega) (P9 c hSub.val) (λ_=>hft.sub hSub)
     refine Am (ASL ?_);have:=ADl (R:=R) (X:=xR f) oZ hG (t5:=v) (Post:=Post) (λh=>hP _ ⟨.AB [],by grind,by rw[h]; exact .AB _⟩) (λh a ha=>hP _ ⟨a,by grind,by grind⟩) l.length 0 b2 Mq (by omega) (by grind) rfl;omega
end
def BSl (bs:List (List AV)) (l:List Br) (a:AV):Prop:=(∃lo,EY lo bs l a)\/BF a (l.map DY)
theorem BSl.A7 {s:AM} {l:List Br} {a:AV} (h:BSl s.bs l a):A7 s a=some l.length:=by
 rcases h with ⟨lo,h⟩|h
 .exact h.A7
 .rw[h.A7,Bx]
def BrS (b:Br):Prop:=size b.body<2 ^ 38/\b.bounds.length<2 ^ 60/\∀t∈b.bounds,size t<2 ^ 38
section
variable {R:RT}
theorem mS {s:AM} {l:List Br} {a:AV} {p:Nat} {c:Br} (h:BSl s.bs l a) (hc:l[p]?=some c) {K:AV->Prop} (hK:∀row,CP c (.agg row)->K (.agg row)):Bh s 5 a (AA p) λx=>D6 (env R) s (some 5) x K:=by
 rcases h with ⟨lo,h⟩|h
 .exact QE h hc hK
 .refine BQ h (row:=DY c) (by omega) (by grind) (Kj c) (by omega) ?_
  simp only[D6,DV,Ih,xL,xM,xF,xG];refine⟨by grind[Kj],?_⟩;rw[CA (by grind[Kj])];obtain⟨x,y,he,hx,hy⟩:=Py.BZ c;refine hK _ ⟨x,y,he,.inl hx,hy.G1⟩
theorem ADm {l m:List Ty} {x y:AV} (hx:Aq x (AW l)) (hy:Aq y (AW m)) (hlm:l.length=m.length) (hl:l.length<2 ^ 60) (hs:∀t∈l,size t<2 ^ 38) {s:AM} {Post:AV->Prop} (hP:∀b:Bool,(b=true<->l=m)->Post (BB b)) :
  ∀(j q:Nat),q+j=l.length->(l.take q=m.take q)->mT R 0 0 0 x y (AA q) s (QP Post):=by
 intro j
 induction j with
 | zero=>
  intro q hi he;refine AFh (Al (n:=l.length) (by rw[hx.A7,AR]) (Ah ?_));rw[Aw (by omega)];rw[CA (by omega),CA (by omega)] at he;exact Am (ASN ⟨_,Fw,hP true (by grind)⟩)
 | succ j ih=>
  intro q hi he;refine AFh (Al (n:=l.length) (by rw[hx.A7,AR]) (Ah ?_));rw[Ap (by omega)];obtain⟨t,ht⟩:∃t,l[q]?=some t:=⟨_,Ak (by omega)⟩;obtain⟨u,hu⟩:∃t,m[q]?=some t:=⟨_,Ak (by omega)⟩;refine A4 (ASO (BI hx (row:=Af t) (by omega) (by simp[*,BE]) (Ac t) (by omega) (Cg (BI hy (row:=Af u) (by omega) (by simp[*,BE]) (Ac u) (by omega) (Cg (AD (Oo (R:=R) (hs t (A2 ht)) (A5.BZ t) (A5.BZ u)) ?_))))));rintro _ ⟨b,rfl,hb⟩;refine nt ?_;cases b with
  | true=>
   have htu:t=u:=hb.1 rfl;refine Am (ASP (BW (by omega) (by omega) ?_));have:=ih (q+1) (by omega) (by grind[List.take_add_one])
   grind
  | false=>
   refine A4 ⟨_,Fw,hP false ?_⟩
   grind
theorem RA {l m:List Ty} {x y:AV} (hx:Aq x (AW l)) (hy:Aq y (AW m)) (hl:l.length<2 ^ 60) (hs:∀t∈l,size t<2 ^ 38):AL (env R) 75 [x,y] λr=>∃b:Bool,r=BB b/\(b=true<->l=m):=by
 suffices H:∀Post:AV->Prop,(∀b:Bool,(b=true<->l=m)->Post (BB b))->xo R 0 0 0 x y ⟨[],[]⟩ (QP Post) from e75 (u0:=x) (u1:=y) (by simp[AY,hx.close,hy.close]) (H _ λb h=>⟨b,rfl,h⟩)
 intro Post hP;refine ASQ (Al (n:=l.length) (by rw[hx.A7,AR]) (Al (n:=m.length) (by rw[hy.A7,AR]) (FE ?_)))
 by_cases h:l.length=m.length
 .have:((l.length:Int) != (m.length:Int))=false:=by grind
  rw[this];have:=ADm (R:=R) hx hy h hl hs (s:=⟨[],[]⟩) hP l.length 0 (by omega) rfl;exact Am (ASR (by simpa using this))
 .have:((l.length:Int) != (m.length:Int))=true:=by grind
  rw[this];exact A4 ⟨_,Fw,hP false ⟨λh=>(by cases h),λe=>absurd (by rw[e]) h⟩⟩
theorem QG {b c:Br} (hb:BrS b) {x y:AV} (hx:CP b x) (hy:CP c y):AL (env R) 32 [x,y] λr=>∃e:Bool,r=BB e/\(e=true<->b=c):=by
 obtain⟨x',h1,h2,a,v,rfl,ha,hv⟩:=hx.closed;obtain⟨y',k1,k2,d,w,rfl,hd,hw⟩:=hy.closed;have z1:close [] 0 0 x=some (.agg (a::v)):=by grind[AY]
 have z2:close [] 0 0 y=some (.agg (d::w)):=by grind[AY]
 obtain⟨c1,c2,c3,c4⟩:=hv.cells;obtain⟨d1,d2,d3,d4⟩:=hw.cells;refine AL.open (args':=[.agg (a::v),.agg (d::w)]) (by rfl) (by rfl) rfl (by grind[AY]) (by grind[AY]) ?_;obtain⟨s1,s2,s3⟩:=hb
 suffices H:∀Post:AV->Prop,(∀e:Bool,(e=true<->b=c)->Post (BB e))->xp R 0 0 0 (.agg (a::v)) (.agg (d::w)) ⟨[],[]⟩ (QP Post) from e32 (u0:=.agg (a::v)) (u1:=.agg (d::w)) (by grind[AY]) (H _ λb h=>⟨b,rfl,h⟩)
 intro Post hP;refine ASS (Bw (cs:=a::v) rfl (by simp[ha.ok]; grind) (Bw (cs:=d::w) rfl (by simp[hd.ok]; grind) ?_));have g0:(AM.mk ([]++[a::v]++[d::w]) []).bs[0]?=some (a::v):=rfl;have g1:(AM.mk ([]++[a::v]++[d::w]) []).bs[1]?=some (d::w):=rfl;refine AK (AP g0) (AU (off:=0) g0 rfl (AK (AP g1) (AU (off:=0) g1 rfl (AD (RA (R:=R) ha hd s2 s3) ?_))));rintro _ ⟨e1,rfl,he1⟩;cases e1 with
 | false=>
  refine Bm (Bm (Bm (Bm (Bm (pk ⟨_,Fw,hP false ⟨λh=>(by cases h),λe=>?_⟩⟩)))))
  grind
 | true=>
  refine Ao (AK (AP g0) (Ao (Ng g0 c1 (Ao (AK (AP g1) (Ao (Ng g1 d1 (Ao (AD (Oo (R:=R) s1 hv hw) ?_)))))))));rintro _ ⟨e2,rfl,he2⟩;have e1:=he1.1 rfl;refine pk ⟨_,Fw,hP e2 ⟨λh=>?_,λh=>he2.2 (by rw[h])⟩⟩;have h2:=he2.1 h;cases b
  simp_all
theorem ADn {l m:List Br} {x y:AV} {s:AM} {n0 ro rt:Nat} (hx:BSl s.bs l x) (hy:BSl s.bs m y) (hlm:l.length=m.length) (hl:l.length<2 ^ 60) (hs:∀t∈l,BrS t) {QR:QT} (hP:∀b:Bool,(b=true<->l=m)->QR (BB b) s) :
  ∀(j q:Nat),q+j=l.length->(l.take q=m.take q)->mU R n0 ro rt x y (AA q) s QR:=by
 intro j
 induction j with
 | zero=>
  intro q hi he;refine AFi (Al hx.A7 (Ah ?_));rw[Aw (by omega)];rw[CA (by omega),CA (by omega)] at he;exact Am (ASU (hP true (by simp[he])))
 | succ j ih=>
  intro q hi he;refine AFi (Al hx.A7 (Ah ?_));rw[Ap (by omega)];obtain⟨t,ht⟩:∃t,l[q]?=some t:=⟨_,Ak (by omega)⟩;obtain⟨u,hu⟩:∃t,m[q]?=some t:=⟨_,Ak (by omega)⟩;refine A4 (ASV (mS hx ht λr1 Xo=>mS hy hu λr2 Ns=>AD (QG (R:=R) (hs t (A2 ht)) Xo Ns) ?_));rintro _ ⟨b,rfl,hb⟩;refine nt ?_;cases b with
  | true=>
   have htu:t=u:=hb.1 rfl;refine Am (ASW (BW (by omega) (by omega) ?_));have:=ih (q+1) (by omega) (by grind[List.take_add_one])
   grind
  | false=>
   refine A4 (hP false ?_)
   grind
theorem mV {l m:List Br} {x y:AV} {s:AM} {n0 ro rt:Nat} (hx:BSl s.bs l x) (hy:BSl s.bs m y) (hl:l.length<2 ^ 60) (hs:∀t∈l,BrS t) {QR:QT} (hP:∀b:Bool,(b=true<->l=m)->QR (BB b) s):mW R n0 ro rt x y s QR:=by
 refine ASX (Al hx.A7 (Al hy.A7 (FE ?_)))
 by_cases h:l.length=m.length
 .have:((l.length:Int) != (m.length:Int))=false:=by grind
  rw[this];have:=ADn (R:=R) (n0:=n0) (ro:=ro) (rt:=rt) hx hy h hl hs hP l.length 0 (by omega) rfl;exact Am (ASY (by simpa using this))
 .have:((l.length:Int) != (m.length:Int))=true:=by grind
  grind[A4]
theorem Ni {l m:List Br} {x y:AV} {s:AM} (hx:BSl s.bs l x) (hy:BSl s.bs m y) (hl:l.length<2 ^ 60) (hs:∀t∈l,BrS t) (L:A8):∃v,(∃b:Bool,v=BB b/\(b=true<->l=m))/\BD (env R) L 17 [x,y] s v s:=by
 cases hc:AY [] 0 0 [x,y] with
 | none=>
  obtain⟨v,h1,h2⟩:=i17 (R:=R) (s:=s) (Post:=λv=>∃b:Bool,v=BB b/\(b=true<->l=m)) hc (mV (R:=R) hx hy hl hs λb hb=>⟨_,Fw,b,rfl,hb⟩)
  grind
 | some u=>
  have hA:∀{l:List Br} {x x':AV},BSl s.bs l x->close [] 0 0 x=some x'->Aq x' (l.map DY):=by
   intro l x x' h hx';rcases h with ⟨lo,⟨rfl,rfl⟩|⟨id,rows,h1,rfl,h2,h3,h4⟩⟩|h
   .have:x'=.AB []:=by grind[close]
    rw[this];exact .AB _
   .grind[close,Ii]
   .obtain⟨z,hz,hr⟩:=h.closed [] 0
    grind
  have hcs:∃x' y',close [] 0 0 x=some x'/\close [] 0 0 y=some y':=by grind[AY]
  obtain⟨x',y',h1,h2⟩:=hcs;have rx:=hA hx h1;have ry:=hA hy h2;obtain⟨v,hv,hc⟩:=e17 (R:=R) (t0:=x) (t1:=y) (u0:=x') (u1:=y') (Post:=λv=>∃b:Bool,v=BB b/\(b=true<->l=m)) (by grind[AY]) (mV (R:=R) (.inr (.inl rx)) (.inr (.inl ry)) hl hs λb hb=>⟨_,Fw,b,rfl,hb⟩)
  grind
end
structure Lm where
 c:Nat
 b:Nat
 w:Nat
 n:Nat
 l:Nat
structure Lm.Of (q:Lm) (t:Ty):Prop where
 c:cv t<=q.c
 b:bw t<=q.b
 w:wt t<=q.w
 n:nb t<=q.n
 l:lv t<=q.l
def Lm.up (a s:Nat) (y x:Lm):Lm:=
 ⟨max 1 (max (a*x.c) (x.c*(y.c+1))),max (a*x.b) (x.b+1+(x.c+1)*y.b),max s (max (1+a*x.w) (x.w+max 1 x.c*y.w)),max (a*x.n) (1+x.n+(33*x.l+500)*y.n),max 1 (max x.l (a*x.l))⟩
theorem MG {α:Type} {f:α->Nat} {m:Nat}:∀{l:List α} {a:Nat},l.length<=a->(∀t∈l,f t<=m)->(l.map f).sum<=a*m
 | [],a,_,_=>AI _
 | t::l,a,h,hl=>by
  obtain⟨a,rfl⟩:∃b,a=b+1:=⟨a-1,by grind⟩;have h1:=MG (l:=l) (a:=a) (by grind) (λt ht=>hl t (by grind))
  grind
theorem max_le {α:Type} {f:α->Nat} {m:Nat}:∀{l:List α},(∀t∈l,f t<=m)->(l.map f).foldr max 0<=m
 | [],_=>AI _
 | t::l,hl=>by
  have h1:=max_le (l:=l) (λt ht=>hl t (by grind))
  grind
theorem Lm.mX {a s:Nat} {x y:Lm} {k i:Int} {n:List UInt8} {ts:List Ty} (hs:k≠3->k≠4->k≠6->AZ ts+1<=s) (h34:k=3\/k=4->ts.length<=a/\∀t∈ts,x.Of t) (h6:k=6->∀b body,ts=[b,body]->y.Of b/\x.Of body):(Lm.up a s y x).Of (.mk k n i ts):=by
 cases b6:k==6 with
 | true=>
  have:k=6:=by grind
  subst this
  match ts,h6 with
  | [],_=>exact⟨by simp[cv,LU,ex6],by grind[bw,LU,ex7],by grind[wt,LU,wx],by grind[nb,ex9],by simp[lv,lvl,ex2]⟩
  | [_],_=>exact⟨by simp[cv,LU,ex6],by grind[bw,LU,ex7],by grind[wt,LU,wx],by simp[*,nb,ex9],by simp[lv,lvl,ex2]⟩
  | _::_::_::_,_=>exact⟨by simp[cv,LU,ex6],by simp[*,bw,LU,ex7],by simp[*,wt,LU,wx],by simp[*,nb,ex9],by simp[lv,lvl,ex2]⟩
  | [b,body],h6=>
   obtain⟨hb,hy⟩:=h6 rfl b body rfl;have e1:cv (.mk 6 n i [b,body])=cv body*(cv b+1):=rfl;have e2:bw (.mk 6 n i [b,body])=bw body+1+(cv body+1)*bw b:=rfl;have e3:wt (.mk 6 n i [b,body])=wt body+max 1 (cv body)*wt b:=rfl;have e4:nb (.mk 6 n i [b,body])=1+nb body+nF body*nb b:=rfl;have e5:lv (.mk 6 n i [b,body])=lv body:=rfl;have f1:cv body*(cv b+1)<=x.c*(y.c+1):=N5 hy.c (by have:=hb.c; omega);have f2:(cv body+1)*bw b<=(x.c+1)*y.b:=N5 (by have:=hy.c; omega) hb.b;have f3:max 1 (cv body)*wt b<=max 1 x.c*y.w:=N5 (by have:=hy.c; omega) hb.w
   have f4:nF body*nb b<=(33*x.l+500)*y.n:=by
    refine N5 ?_ hb.n;have:=hy.l
    grind[nF]
   have g2:=hy.b;have g3:=hy.w;have g4:=hy.n;have g5:=hy.l;refine⟨?_,?_,?_,?_,?_⟩
   all_goals grind[Lm.up]
 | false=>
  cases b34:k==3||k==4 with
  | true=>
   have hk:k=3\/k=4:=by grind
   obtain⟨hl,ht⟩:=h34 hk;have s1:=MG (f:=cv) hl λt h=>(ht t h).c
   have s2:=MG (f:=bw) hl λt h=>(ht t h).b
   have s3:=MG (f:=wt) hl λt h=>(ht t h).w
   have s4:=MG (f:=nb) hl λt h=>(ht t h).n
   have s5:=MG (f:=lv) hl λt h=>(ht t h).l
   have s6:=max_le (f:=lv) λt h=>(ht t h).l
   refine⟨?_,?_,?_,?_,?_⟩
   .grind[cv,Pn,Lm.up]
   all_goals grind[bw,GN,Lm.up,wt,IQ,nb,P5,lv,Ya]
  | false=>
   have hsz:=hs (by grind) (by grind) (by grind);simp only[Gc] at b34;refine⟨?_,?_,?_,?_,?_⟩
   all_goals grind[cv,Lm.up,bw,wt,nb,lv]
mutual
def lev:Nat->Ty->Bool
 | d,.mk _ _ _ ts=>decide (ts.length<=8)&&ASZ d ts
def ASZ:Nat->List Ty->Bool
 | _,[]=>true
 | d,t::l=>decide (0<d)&&(lev (d-1) t&&ASZ d l)
end
mutual
def gq:Nat->Ty->Bool
 | d,.mk k _ _ ts=>bif k==3||k==4 then decide (0<d)&&(decide (ts.length<=3)&&U0 (d-1) ts) else bif k==6 then decide (0<d)&&gqX d ts else true
def U0:Nat->List Ty->Bool
 | _,[]=>true
 | d,t::l=>gq d t&&U0 d l
def gqX:Nat->List Ty->Bool
 | d,b::l=>gq 1 b&&U0 (d-1) l
 | _,[]=>true
end
theorem Mj {d:Nat}:∀{l:List Ty} {t:Ty},U0 d l=true->t∈l->gq d t=true
 | a::l,t,h,ht=>by
  simp only[U0,AE] at h;rcases A1.1 ht with rfl|ht
  .grind
  .exact Mj h.2 ht
def gq0:Lm:=Lm.up 0 200 ⟨0,0,0,0,0⟩ ⟨0,0,0,0,0⟩
theorem xq {t:Ty} (h:gq 0 t=true) (hs:size t<=200):gq0.Of t:=by
 obtain⟨k,n,i,ts⟩:=t;rw[size] at hs;rw[gq] at h;refine Lm.mX (λ_ _ _=>hs) (λhk=>?_) (λhk=>?_)
 all_goals grind
def U1:Nat->Lm
 | 0=>gq0
 | m+1=>⟨max (U1 m).c (max 3 ((U1 m).c+1)),max (U1 m).b (1+2*(U1 m).b),max (U1 m).w (max 601 (200+(U1 m).w)),max (U1 m).n (1+(U1 m).n),3⟩
theorem xu:∀(m:Nat) (t:Ty),depth t<=m->gq 1 t=true->size t<=200->(U1 m).Of t:=by
 intro m
 induction m with
 | zero=>
  intro t hd;obtain⟨k,n,i,ts⟩:=t
  grind[depth]
 | succ m ih=>
  intro t hd h hs;obtain⟨k,n,i,ts⟩:=t;have hs':=hs;rw[size] at hs;rw[gq] at h;have small:∀t∈ts,gq 0 t=true->gq0.Of t:=λt ht hg=>xq hg (by have:=Fj ht; omega)
  have le:∀q:Lm,q.c<=(U1 (m+1)).c->q.b<=(U1 (m+1)).b->q.w<=(U1 (m+1)).w->q.n<=(U1 (m+1)).n->q.l<=3->q.Of (.mk k n i ts)->(U1 (m+1)).Of (.mk k n i ts):=
   λq h1 h2 h3 h4 h5 h=>⟨Bq h.c h1,Bq h.b h2,Bq h.w h3,Bq h.n h4,Bq h.l h5⟩
  cases b34:k==3||k==4 with
  | true=>
   rw[b34] at h;simp only[AN,AE,DU] at h;have hx:=Lm.mX (a:=3) (s:=200) (x:=gq0) (y:=⟨0,0,0,0,0⟩) (k:=k) (n:=n) (i:=i) (ts:=ts) (λ_ _ _=>hs) (λ_=>⟨h.2.1,λt ht=>small t ht (Mj h.2.2 ht)⟩) (λhk=>by grind);have e:Lm.up 3 200 ⟨0,0,0,0,0⟩ gq0=⟨3,3,601,3,3⟩:=by rfl
   rw[e] at hx
   have hb0:bw (.mk k n i ts)=0/\nb (.mk k n i ts)=0:=by
    have b6:(k==6)=false:=by grind
    have z1:=MG (f:=bw) (m:=0) h.2.1 λt ht=>by
     have:=(small t ht (Mj h.2.2 ht));obtain⟨k,n,i,ts⟩:=t
     grind[Mj,gq,bw]
    have z2:=MG (f:=nb) (m:=0) h.2.1 λt ht=>by
     obtain⟨k,n,i,ts⟩:=t
     grind[Mj,gq,nb]
    grind[bw,GN,nb,P5]
   refine⟨?_,by omega,?_,by omega,hx.l⟩
   .have:=hx.c
    grind[U1]
   .have:=hx.w
    grind[U1]
  | false=>
   rw[b34] at h;simp only[AG] at h;cases b6:k==6 with
   | false=>
    have hx:=Lm.mX (a:=0) (s:=200) (x:=⟨0,0,0,0,0⟩) (y:=⟨0,0,0,0,0⟩) (k:=k) (n:=n) (i:=i) (ts:=ts) (λ_ _ _=>hs) (λhk=>by grind) (λhk=>by grind);simp only[Gc] at b34;have z1:bw (.mk k n i ts)=0:=by grind[bw]
    have z2:nb (.mk k n i ts)=0:=by grind[nb]
    have e:Lm.up 0 200 ⟨0,0,0,0,0⟩ ⟨0,0,0,0,0⟩=⟨1,1,200,1,1⟩:=by rfl
    rw[e] at hx;refine⟨?_,by omega,?_,by omega,Bq hx.l (show(1:Nat)<=3 by decide)⟩
    .have:=hx.c
     grind[U1]
    .have:=hx.w
     grind[U1]
   | true=>
    have:k=6:=by grind
    subst this;simp only[C7,AN,AE] at h
    match ts,h,hd,hs,small with
    | [],_,_,_,_=>exact⟨by simp[cv,LU,ex6],by grind[bw,LU,ex7],by grind[wt,LU,wx],by grind[nb,ex9],by simp[lv,lvl,ex2]⟩
    | [_],_,_,_,_=>exact⟨by simp[cv,LU,ex6],by grind[bw,LU,ex7],by grind[wt,LU,wx],by simp[*,nb,ex9],by simp[lv,lvl,ex2]⟩
    | _::_::_::_,_,_,_,_=>exact⟨by simp[cv,LU,ex6],by simp[*,bw,LU,ex7],by simp[*,wt,LU,wx],by simp[*,nb,ex9],by simp[lv,lvl,ex2]⟩
    | [b,body],h,hd,hs,small=>
     simp only[gqX,U0,AE] at h;simp only[depth,Ep] at hd;simp only[AZ] at hs;have hb:=ih b (by omega) h.2.1 (by omega);have hg:gq 0 body=true:=h.2.2.1;have e1:cv (.mk 6 n i [b,body])=cv body*(cv b+1):=rfl;have e2:bw (.mk 6 n i [b,body])=bw body+1+(cv body+1)*bw b:=rfl;have e3:wt (.mk 6 n i [b,body])=wt body+max 1 (cv body)*wt b:=rfl;have e4:nb (.mk 6 n i [b,body])=1+nb body+nF body*nb b:=rfl;have e5:lv (.mk 6 n i [b,body])=lv body:=rfl;obtain⟨k,n',i',l'⟩:=body;rw[gq] at hg;cases c34:k==3||k==4 with
     | true=>grind
     | false=>
      cases c6:k==6 with
      | true=>grind
      | false=>
       rw[size] at hs;have c34':=c34;simp only[Gc] at c34;have d1:cv (.mk k n' i' l')=1:=by grind[cv]
       have d2:bw (.mk k n' i' l')=0:=by grind[bw]
       have d3:wt (.mk k n' i' l')<=200:=by grind[wt]
       have d4:nb (.mk k n' i' l')=0:=by grind[nb]
       have d5:lv (.mk k n' i' l')<=1:=by grind[lv]
       have d6:nF (.mk k n' i' l')=1:=by grind[nF,Tc]
       have g1:=hb.c;have g2:=hb.b;have g3:=hb.w;have g4:=hb.n;refine⟨?_,?_,?_,?_,?_⟩
       all_goals grind[U1]
def gqQ:Nat->Lm
 | 0=>gq0
 | 1=>U1 12
 | d+2=>Lm.up 3 200 (U1 12) (gqQ (d+1))
theorem AFj:∀(d:Nat) (t:Ty),gq d t=true->size t<=200->depth t<=12->(gqQ d).Of t
 | 0,t,h,hs,_=>xq h hs
 | 1,t,h,hs,hd=>xu 12 t hd h hs
 | d+2,.mk k n i ts,h,hs,hd=>by
  rw[size] at hs;rw[depth] at hd;rw[gq] at h;have ih:∀t∈ts,gq (d+1) t=true->(gqQ (d+1)).Of t:=λt ht hg=>AFj (d+1) t hg (by have:=Fj ht; omega) (by have:=Kh ht; omega)
  refine Lm.mX (λ_ _ _=>hs) (λhk=>?_) (λhk b body he=>?_)
  all_goals grind[Mj,gqX,AZ,Ep,xu]
attribute [local simp] CI Bs LP LQ AO CU FJ wO setCells CJ D6 DV Cv A0 alive CY F9 I4 nx A6 DC BO Gs Dt DT si qd okB sj sk sq sr su jh sw sx sy s7 s8 s9 tA tB tC tD tE okF tF tG tH tI tJ Xs tK SR SU SV SW tL tM tN tP tQ tR tS tT tU tV Fw tW qe tX tY tZ td th tj tq uA uB uC Cm g0 g1 xI xL xM xF xG xC lf Y4 Y5
section
variable {R:Nat->Option (List PV)}
theorem ADo (a:Int) {b:Int} (hb:0<b):-b<a.tmod b:=by
 by_cases ha:0<=a
 .have:=Int.tmod_nonneg b ha
  omega
 .have h1:(-a).tmod b<b:=Int.tmod_lt_of_pos _ hb
  have h2:=Int.neg_tmod a b;omega
theorem cX (a b:Int) (hb:0<b) (Lf:b<2 ^ 62):AL (env R) 13 [AA a,AA b] λv=>∃r,v=AA r/\0<=r/\r<b:=by
 refine e13 rfl (ASa ?_);have h1:=Int.tmod_lt_of_pos a hb;have h2:=ADo a hb;simp only[CY,AO,xI];refine⟨⟨Ae,Ae⟩,by omega,⟨Ae,Ae⟩,λh=>?_,λh=>?_⟩
 .simp at h
  refine⟨⟨Ae,Ae⟩,B7 (by omega) (by omega) (AFk ?_)⟩;exact⟨_,Fw,_,rfl,by omega,by omega⟩
 .simp at h
  refine AFk ?_;exact⟨_,Fw,_,rfl,by omega,by omega⟩
theorem T9 {bs:List (List AV)} {id:Nat} {l:Src} {k:Nat} {ts:List (Nat×Nat)} (h:id<bs.length) (m:List (List AV)):alive ⟨ST bs id l k++m,ts⟩ id=true:=by grind[alive,QH,Mk]
theorem xw {bs:List (List AV)} {id:Nat} {l:Src} (hB:Nj bs id l) {m:List (List AV)} (hm:Kk bs m) (k:Nat) {n:Nat} (hn:n=bs.length+m.length):(((ST bs id l k++m).take n).all (Ab n))=true:=by
 rw[CA (by grind[Ft]),hn];exact hB.all hm k
theorem AFl {rr:Bool} {N:Nat} {bs:List (List AV)} {id:Nat} {l:Src} (hB:Nj bs id l) {m:List (List AV)} (hm:Kk bs m) {k:Nat} {ts:List (Nat×Nat)} {Post:AV->AM->Prop} {p:PV} (hN:N=bs.length+m.length)
  (h:Post (.pv p) ⟨ST bs id l k++m,ts⟩):QM rr N Post (.pv p) ⟨ST bs id l k++m,ts⟩:=by grind[AEs,xw,Ft]
theorem Nk {bs:List (List AV)} {id:Nat} {l:Src} (hB:Nj bs id l) {m:List (List AV)} (hm:Kk bs m) {k:Nat} (hk:k<=l.length) {n:Int} (hn:0<n) (hn2:n<2 ^ 62) (L:A8) (hro:L.ro<=id) (ts:List (Nat×Nat)) :
  ∃v s',(∃r k',v=AA r/\0<=r/\r<n/\k<=k'/\k'<=l.length/\(r≠0->k<k')/\s'=⟨ST bs id l k'++m,ts⟩)/\BD (env R) L 54 [.ptr id 0,AA n] ⟨ST bs id l k++m,ts⟩ v s':=by
 have hlen:=hB.len;have hlt:=hB.lt
 suffices H:∀(rr:Bool) (N:Nat) (Post:AV->AM->Prop),N=bs.length+m.length->(∀r k',0<=r->r<n->k<=k'->k'<=l.length->(r≠0->k<k')->Post (AA r) ⟨ST bs id l k'++m,ts⟩)->xx R 0 L.ro L.rt (.ptr id 0) (AA n) ⟨ST bs id l k++m,ts⟩ (QM rr N Post) from
  m54 (by rfl) (H _ _ _ (by simp[Ft]) λr k' h1 h2 h3 h4 h5=>⟨r,k',rfl,h1,h2,h3,h4,h5,rfl⟩)
 intro rr N Post hN hP;refine ASb ?_
 by_cases h:k=l.length
 .have h1:((k:Int)>=l.length):=by omega
  simp[QH hlt,Mk,l.ASc,l.jh,h]
  grind[AFl]
 .have h1:¬ ((l.length:Int)<=k):=by omega
  simp[QH hlt,Mk,l.ASc,l.jh];refine⟨λh2=>absurd h2 (by omega),λ_=>?_⟩;refine ASd ?_;obtain⟨a,ha⟩:∃a,l.ints[k]?=some a:=⟨_,Ak (by assumption)⟩;simp only[DT,T9 hlt,A0,D6,wO,QH hlt,CY,xI,xL,xM,xF,xG];refine⟨Ae,Ae,?_⟩;simp only[Mk,DV,wO,Hp,Ig,CQ];refine⟨⟨Ae,Ae⟩,B7 (by omega) (by omega) ?_⟩;simp only[DT,T9 hlt,A0,CJ,wO,QH hlt,Cv,qd,xF,xG,lf];refine⟨Ae,Ae,⟨by simp,by simp[Mk],hro,by rfl,.inl (by omega),by omega⟩,?_⟩
  have e:(ST bs id l k++m).set id (setCells (Mk l k) (0+1) [AA (k+1)])=ST bs id l (k+1)++m:=by
   have:setCells (Mk l k) (0+1) [AA (k+1)]=Mk l (k+1):=by rfl
   grind[AMZ]
  simp only[e,DT,T9 hlt,A0,D6,wO,QH hlt,xL,xM,xF,xG];refine⟨Ae,Ae,?_⟩;simp only[Mk,DV,wO,Hp,Ig,CQ];refine⟨Ae,Ae,⟨Ae,Ae⟩,B7 (by omega) (by omega) ?_⟩;refine BQ l.rows (row:=[.sc (.int .i64 a)]) (by omega) ?_ rfl (by omega) ?_
  .simp[*,AX]
  simp only[D6,DV,wO,CH,Cs,Ig,xL,xM,xF,xG];refine AD (cX a n hn hn2) ?_
  grind[AFl]
theorem Gv {bs:List (List AV)} {id:Nat} {l:Src} (hB:Nj bs id l) {m:List (List AV)} (hm:Kk bs m) {k:Nat} (hk:k<=l.length) {n:Int} (hn:0<n) (hn2:n<2 ^ 62) (L:A8) (hro:L.ro<=id) (ts:List (Nat×Nat)) :
  ∃v s',(∃r k',v=AA r/\0<=r/\r<n/\k<=k'/\k'<=l.length/\s'=⟨ST bs id l k'++m,ts⟩)/\BD (env R) L 54 [.ptr id 0,AA n] ⟨ST bs id l k++m,ts⟩ v s':=by
 obtain⟨v,s',⟨r,k',h1,h2,h3,h4,h5,_,h6⟩,h7⟩:=Nk (R:=R) hB hm hk hn hn2 L hro ts;exact⟨v,s',⟨r,k',h1,h2,h3,h4,h5,h6⟩,h7⟩
theorem xy (l:List Int) (L:A8) (s:AM):∃v s',(v=.ptr s.bs.length 0/\s'=⟨s.bs++[Mk (.of l) 0],s.ts⟩)/\BD (env R) L 11 [.pv (.list (AX l))] s v s':=by
 refine m11 (ASe ?_);simp[Mk,Src.of]
end
section
variable {bs:List (List AV)} {id:Nat} {l:Src}
theorem EB (k:Nat) (m r:List (List AV)) (j:Nat):(ST bs id l k++(m++r))[bs.length+m.length+j]?=r[j]?:=by grind[Ft]
theorem Ja (k:Nat) (m r:List (List AV)):(ST bs id l k++(m++r))[bs.length+m.length]?=r[0]?:=EB k m r 0
theorem Hw (k:Nat) (m r:List (List AV)) (j:Nat) (v:List AV):(ST bs id l k++(m++r)).set (bs.length+m.length+j) v=ST bs id l k++(m++r.set j v):=by grind[Ft]
theorem Jb (k:Nat) (m r:List (List AV)) (v:List AV):(ST bs id l k++(m++r)).set (bs.length+m.length) v=ST bs id l k++(m++r.set 0 v):=Hw k m r 0 v
theorem I9 {m:List (List AV)} (hm:Kk bs m) {r:List (List AV)} (hr:∀b∈r,Ab (bs.length+m.length+r.length) b=true):Kk bs (m++r):=by
 intro b hb;rcases CG.1 hb with h|h
 .exact Bn (by simp) b (hm b h)
 grind
variable {R:Nat->Option (List PV)}
theorem iE {l:List (List UInt8)}:FD l=[.list (Ei l)]:=rfl
theorem O6 {g:Nat} {T:List (List UInt8)} (hG:(env R).G g=some (FD T)) {s:AM} {K:AV->Prop} (h:K (.pv (.list (Ei T)))):D6 (env R) s none (.DS g 0) K:=by
 simp[D6,hG,wO,DV,iE];exact h
theorem UA:∀l:List (List UInt8),IV (Ei l) (Ei l)=true
 | []=>by rfl
 | s::l=>by
  have:=UA l
  grind[Ei,IV,Le,Mm,Ht]
theorem xz {L:A8} {s:AM} {k:Nat} {a x:AV} {K K':AM->Prop} (hC:∀s,K s->K' s) (h:CJ L s k a x K):CJ L s k a x K':=by
 unfold CJ at h ⊢
 grind
theorem Yv {L:A8} {s:AM} {k:Nat} {a x:AV} {K:AM->Prop} {C:Prop} (hC:C) (h:CJ L s k a x K):CJ L s k a x λs=>C/\K s:=xz (λ_ h=>⟨hC,h⟩) h
theorem iG {s:AM} {w:List UInt8} {K:AV->Prop} (h:K (SS w)):D6 (env R) s none (.Cq [.sc (.string ⟨w.toArray⟩)] 0) K:=by simp[*]
theorem Yw {T:List (List UInt8)} {r:Int} {w:List UInt8} (h0:0<=r) (hw:T[r.toNat]?=some w) {s:AM} {K:AV->Prop} (h:K (.Cq [.sc (.string ⟨w.toArray⟩)] 0)):Bh s 1 (.pv (.list (Ei T))) (AA r) K:=
 BI (.list _) (row:=[.sc (.string ⟨w.toArray⟩)]) h0 (by grind[Ei]) rfl (by omega) h
theorem Qv (T:List (List UInt8)):Bg (.pv (.list (Ei T))) (.pv (.list (Ei T)))=true:=by simp[Bg,Mm,UA]
end
def Short (T:List (List UInt8)):Prop:=(∀s∈T,s.length<2 ^ 60)/\0<T.length/\T.length<2 ^ 60
def Mr (B:Nat) (t:Ty):Prop:=X4 t/\size t<=B
theorem Mr.mono {B C:Nat} {t:Ty} (h:Mr B t) (hl:B<=C):Mr C t:=⟨h.1,Bq h.2 hl⟩
theorem Mr.leaf {B:Nat} {k i:Int} {n:List UInt8} (hn:n.length<2 ^ 60) (hB:0<B):Mr B (.mk k n i []):=by
 refine⟨?_,?_⟩
 .simp[*,X4,Q2]
 assumption
def I1 (B:Nat) (l:List Ty):Prop:=Q2 l/\AZ l<=B
theorem I1.nil {B:Nat}:I1 B []:=by simp[I1,Q2,AZ]
theorem I1.cons {B C D:Nat} {t:Ty} {l:List Ty} (h:Mr B t) (h':I1 C l) (hl:B+C<=D):I1 D (t::l):=by
 obtain⟨a1,a3⟩:=h;obtain⟨b1,b3⟩:=h';refine⟨⟨a1,b1⟩,?_⟩
 grind[AZ]
theorem I1.snoc:∀{l:List Ty} {B C D:Nat} {t:Ty},I1 C l->Mr B t->B+C<=D->I1 D (l++[t])
 | [],B,C,D,t,_,h,hl=>I1.cons h I1.nil (C:=0) (by omega)
 | u::l,B,C,D,t,h',h,hl=>by
  obtain⟨b1,b3⟩:=h';simp only[Q2] at b1;simp only[AZ] at b3;have:=I1.snoc (C:=AZ l) (D:=B+AZ l) ⟨b1.2,Aa _⟩ h (Aa _);exact I1.cons (B:=size u) ⟨b1.1,Aa _⟩ this (by omega)
theorem Mr.node {B:Nat} {k i:Int} {n:List UInt8} {l:List Ty} (hn:n.length<2 ^ 60) (h:I1 B l):Mr (B+1) (.mk k n i l):=by
 obtain⟨b1,b3⟩:=h;refine⟨?_,?_⟩
 all_goals simp[*,X4,size]
theorem ADp.Bg {lo:Nat} {ts:List (Nat×Nat)} {k:Nat} {a:AV} {es:List Ty} (h:Dg lo ts k a (AW es)):Tel.Bg a a=true:=by
 rcases h with rfl|⟨t,rfl,_⟩
 all_goals simp[*,Tel.Bg,DJ]
theorem UB {l:List Ty}:∀r∈AW l,r.length=4:=λ_ h=>Gt h
abbrev T0 (k:Int) (n:List UInt8) (i:Int):AV:=.agg [AA k,SS n,AA i,.AB []]
section
variable {bs:List (List AV)} {id:Nat} {l:Src}
theorem ASf {rr:Bool} {N:Nat} (hB:Nj bs id l) {m r:List (List AV)} (hm:Kk bs m) {k:Nat} {ts:List (Nat×Nat)} {Post:AV->AM->Prop} (hN:N=bs.length+m.length) {c i:Int} {n:List UInt8} {es:List Ty} {a:AV} (ha:BF a (AW es))
  (h:∀x,BJ (.mk c n i es) x->Post x ⟨ST bs id l k++m,ts⟩):QM rr N Post (.agg [AA c,SS n,AA i,a]) ⟨ST bs id l k++(m++r),ts⟩:=by
 subst hN;have e:(ST bs id l k++(m++r)).take (bs.length+m.length)=ST bs id l k++m:=by grind[Ft]
 obtain⟨a',h1,h2⟩:=ha.close (ST bs id l k++(m++r)) (bs.length+m.length) ts.length;refine YO (ds:=[AA c,SS n,AA i,a']) ?_ (by simp[h1]) ?_
 .simp only[e]
  exact hB.all hm k
 .simp only[e]
  exact h _ ⟨a',rfl,h2⟩
variable {R:Nat->Option (List PV)}
theorem Yx (hB:Nj bs id l) {m r:List (List AV)} (hm:Kk bs m) {k:Nat} {ts:List (Nat×Nat)} {Post:AV->AM->Prop} {rr:Bool} {N:Nat} {L':A8} {Z:List AV} (hZ:Z.length=4) (hN:N=bs.length+m.length) (hro:L'.ro<=id) (hn0:L'.n0=0) {c i:Int} {n:List UInt8} {es:List Ty} {a:AV} (ha:BF a (AW es))
  (h:∀x,BJ (.mk c n i es) x->Post x ⟨ST bs id l k++m,ts⟩) :
  CJ L' ⟨ST bs id l k++(m++Z::r),ts⟩ 4 (.ptr (bs.length+m.length) 0) (.agg [AA c,SS n,AA i,a]) λs1=>D6 (env R) s1 (some 4) (.ptr (bs.length+m.length) 0) λr=>QM rr N Post r s1:=by
 have hlt:=hB.lt
 obtain⟨z0,z1,z2,z3,rfl⟩:∃z0 z1 z2 z3,Z=[z0,z1,z2,z3]:=by
  rcases Z with _|⟨a,_|⟨b,_|⟨c,_|⟨d,_|⟨e,l⟩⟩⟩⟩⟩ <;> simp at hZ
  exact⟨_,_,_,_,rfl⟩
 simp[Ja,Jb,show L'.ro<=bs.length+m.length by omega,hn0,ha.ok,ha.JA]
 grind[ASf]
theorem UC (hB:Nj bs id l) {m r:List (List AV)} (hm:Kk bs m) {k:Nat} {ts:List (Nat×Nat)} {Post:AV->AM->Prop} {rr:Bool} {N:Nat} {L':A8} {Z:List AV} (hZ:Z.length=4) (hN:N=bs.length+m.length) (hro:L'.ro<=id) (hn0:L'.n0=0) {t:Ty} {v:AV} (hv:BJ t v)
  (h:∀x,BJ t x->Post x ⟨ST bs id l k++m,ts⟩) :
  CJ L' ⟨ST bs id l k++(m++Z::r),ts⟩ 4 (.ptr (bs.length+m.length) 0) v λs1=>D6 (env R) s1 (some 4) (.ptr (bs.length+m.length) 0) λr=>QM rr N Post r s1:=by
 obtain⟨c,n,i,es⟩:=t;obtain⟨a,rfl,ha⟩:=hv;exact Yx hB hm hZ hN hro hn0 ha h
theorem Jz {n:List UInt8} {a:AV} {rows:List (List PV)} (ha:Aq a rows):AL (env R) 26 [SS n,a] λr=>r=.agg [AA 2,SS n,AA 0,a]:=by
 refine e26 (u0:=SS n) (u1:=a) (by simp[ha.close]) (ASg ?_);simp[QP,QI,ha.ok,ha.cells,ha.close]
theorem cY {a:AV} {rows:List (List PV)} (ha:Aq a rows):AL (env R) 20 [a] λr=>r=.agg [AA 4,SS [],AA 0,a]:=by
 refine e20 (u0:=a) (by simp[ha.close]) (ASh ?_);simp[QP,QI,ha.ok,ha.cells,ha.close]
end
def Yy (r:List PV):Prop:=∃(name:List UInt8) (n:Nat) (rest:List PV),r=.sc (.string ⟨name.toArray⟩)::.sc (.int .i64 n)::rest/\rest.length=6/\n<=2/\name.length<2 ^ 50/\(r.map AV.pv).all A9=true
structure Decls (v:AV) (rows:List (List PV)):Prop where
 rep:BF v rows
 row:∀r∈rows,Yy r
 len:rows.length<100
section
variable {bs:List (List AV)} {id:Nat} {l:Src} {R:Nat->Option (List PV)}
def UD (R:Nat->Option (List PV)) (bs:List (List AV)) (id:Nat) (l:Src) (dv:AV) (f:FuncId) (d:Int) (E1:Nat) (μ:Nat) (P:Nat->Ty->Prop):Prop:=∀{m:List (List AV)},Kk bs m->∀{k:Nat},k<=l.length->∀(vars:Nat),(vars:Int)+d<=90->(l.length-k)*100+E1<μ->∀(L:A8),L.ro<=id->∀(ts:List (Nat×Nat)),L.rt<=ts.length ->
  ∃v s',(∃t k' x,BJ t v/\P (8*(k'-k)+1) t/\k<=k'/\k'<=l.length/\s'=⟨ST bs id l k'++m,ts++x⟩)/\BD (env R) L f [.ptr id 0,dv,AA d,AA vars] ⟨ST bs id l k++m,ts⟩ v s'
def qo (B:Nat) (t:Ty):Prop:=Mr B t/\∀d,gq d t=true
def LY (d B:Nat) (t:Ty):Prop:=Mr B t/\gq d t=true
def Yz (d B:Nat) (l:List Ty):Prop:=I1 B l/\U0 d l=true
theorem qo.of {B:Nat} {n:List UInt8} {i:Int} {es:List Ty} (h:Mr B (.mk 2 n i es)):qo B (.mk 2 n i es):=⟨h,λd=>by rfl⟩
theorem qo.g {B:Nat} {t:Ty} (h:qo B t) (d:Nat):LY d B t:=⟨h.1,h.2 d⟩
theorem LY.mono {d B C:Nat} {t:Ty} (h:LY d B t) (hl:B<=C):LY d C t:=⟨h.1.mono hl,h.2⟩
theorem LY.leaf {d B:Nat} {k i:Int} {n:List UInt8} (h3:(k==3||k==4)=false) (h6:(k==6)=false) (hn:n.length<2 ^ 60) (hB:0<B):LY d B (.mk k n i []):=⟨Mr.leaf hn hB,by grind[gq]⟩
theorem Yz.nil {d B:Nat}:Yz d B []:=⟨I1.nil,by rw[U0]⟩
theorem mY (d:Nat):∀l m:List Ty,U0 d (l++m)=(U0 d l&&U0 d m)
 | [],m=>by rw[Cb,U0,E6]
 | t::l,m=>by rw[Dh,U0,U0,mY d l m,N4]
theorem Yz.snoc {l:List Ty} {d B C D:Nat} {t:Ty} (h:Yz d C l) (h':LY d B t) (hl:B+C<=D):Yz d D (l++[t]):=⟨h.1.snoc h'.1 hl,by rw[mY,h.2,U0,h'.2,U0]; rfl⟩
theorem Mr.pair {B C D:Nat} {k:Int} {t u:Ty} (h:Mr B t) (h':Mr C u) (hl:B+C+1<=D):Mr D (.mk k [] 0 [t,u]):=
 (Mr.node (B:=B+C) (by simp) (I1.cons h (I1.cons h' I1.nil (C:=0) (Aa _)) (Aa _))).mono hl
theorem LY.ex {d B C D:Nat} {t u:Ty} (hd:0<d) (h:LY 1 B t) (h':LY (d-1) C u) (hl:B+C+1<=D):LY d D (.mk 6 [] 0 [t,u]):=by
 refine⟨Mr.pair h.1 h'.1 hl,?_⟩;rw[gq,gqX,U0,U0,h.2,h'.2,Ap hd];rfl
theorem LY.un {d B C D:Nat} {t u:Ty} (hd:0<d) (h:LY (d-1) B t) (h':LY (d-1) C u) (hl:B+C+1<=D):LY d D (.mk 4 [] 0 [t,u]):=by
 refine⟨Mr.pair h.1 h'.1 hl,?_⟩;rw[gq,U0,U0,U0,h.2,h'.2,Ap hd];rfl
theorem LY.tup {d B:Nat} {es:List Ty} (hd:0<d) (hl:es.length<=3) (h:Yz (d-1) B es):LY d (B+1) (.mk 3 [] 0 es):=by
 refine⟨Mr.node (by simp) h.1,?_⟩;rw[gq,h.2,Ap hd,Ap hl];rfl
theorem Y0 {m:List (List AV)} (hm:Kk bs m):Kk bs (m++[Z4]):=I9 hm (by simp[Ab,Ar])
theorem x7 {dv:AV} {rows:List (List PV)} (hd:Decls dv rows) {r:Int} (h0:0<=r) (h1:r<rows.length):∃row,rows[r.toNat]?=some row/\Yy row/\row.length=8:=by
 obtain⟨row,hr⟩:∃row,rows[r.toNat]?=some row:=⟨_,Ak (by omega)⟩;have h:=hd.row row (A2 hr);refine⟨row,hr,h,?_⟩;obtain⟨name,n,rest,rfl,h6,_⟩:=h
 grind
theorem QJ {W:List (List UInt8)} (hW:(env R).G 1=some (FD W)) (h4:W.length=4) (sW:Short W) {r:Int} (h0:0<=r) (h1:r<4):∃w,W[r.toNat]?=some w/\w.length<2 ^ 60:=by
 obtain⟨w,hw⟩:∃w,W[r.toNat]?=some w:=⟨_,Ak (by omega)⟩;exact⟨w,hw,sW.1 w (A2 hw)⟩
theorem iH (hB:Nj bs id l) {W:List (List UInt8)} (hW:(env R).G 1=some (FD W)) (h4:W.length=4) (sW:Short W) {dv:AV} {rows:List (List PV)} (hD:Decls dv rows) (μ:Nat)
  (wQ:∀e:Int,-1<=e->e<=20->UD R bs id l dv 115 e (3*(e+1).toNat) μ Mr) (d:Nat) (hd:d<=20):UD R bs id l dv 83 d (3*d+1) (μ+1) qo:=by
 intro m hm k hk vars hvars hμ L hro ts EU;have hlen:=hB.len;have hlt:=hB.lt
 suffices H:∀(rr:Bool) (N:Nat) (Post:AV->AM->Prop),N=bs.length+m.length->(∀t v k' x,BJ t v->qo (8*(k'-k)+1) t->k<=k'->k'<=l.length->Post v ⟨ST bs id l k'++m,ts++x⟩)->x8 R 0 L.ro L.rt (.ptr id 0) dv (AA d) (AA vars) ⟨ST bs id l k++m,ts⟩ (QM rr N Post) from
  m83 (by rfl) (H _ _ _ (by simp[Ft]) λt v k' x h1 h2 h3 h4=>⟨t,k',x,h1,h2,h3,h4,rfl⟩)
 intro rr N Post hN hP;have hrl:=hD.len;have g1:∀n,L.ro<=bs.length+m.length+n:=λn=>by omega
 refine ASi ?_;simp only[CI,Di,Bo,Ft]
 have ASj:∀(s:AM) (K:AV->Prop),K (AA rows.length)->BO s dv K:=by
  intro s K h;simp only[BO,hD.rep.A7,wO];exact h
 refine ASj _ _ (BW (by omega) (by omega) ?_);refine Ck (Nk (n:=(rows.length:Int)+4) hB (Y0 hm) hk (by omega) (by omega) _ (by simp[*]) ts) ?_;rintro v s1 ⟨r,k1,rfl,Xo,Ns,US,hk2,Lb,rfl⟩;refine Ah ?_
 by_cases hr:r<4
 .have b4:decide (r<4)=true:=by grind
  rw[b4];obtain⟨w,hw,hwl⟩:=QJ hW h4 sW Xo hr;refine A4 (O6 hW (Yw Xo hw (iG ?_)));refine AD (Jz (.AB [])) ?_;rintro v rfl
  exact Yx (R:=R) (Post:=Post) (rr:=rr) (N:=N) (k:=k1) (ts:=ts) (Z:=Z4) (r:=[]) (es:=[]) (a:=.AB []) (c:=2) (i:=0) (n:=w) (L':=Cv (env R) 83 0 L.ro L.rt) hB hm rfl hN hro rfl (by simp[AW]; exact .inl (.AB _)) (λx hx=>by
   have:=hP _ x k1 [] hx (qo.of (Mr.leaf hwl (by omega))) US hk2
   grind)
 .have b4:decide (r<4)=false:=by grind
  rw[b4];have hkk:k<k1:=Lb (by omega);obtain⟨row,hrow,⟨name,ar,rest,rfl,h6,har,ND,hok⟩,h8⟩:=x7 hD (r:=r-4) (by omega) (by omega);refine Am (ASk (JV (by omega) (by omega) ?_));refine BQ hD.rep (row:=.sc (.string ⟨name.toArray⟩)::.sc (.int .i64 ar)::rest) (by omega) hrow h8 (by omega) ?_
  have ASl:∀(s:AM) (K:AV->Prop),K (.agg ((.sc (.string ⟨name.toArray⟩)::.sc (.int .i64 ar)::rest).map AV.pv))->D6 (env R) s (some 8) (.Cq (.sc (.string ⟨name.toArray⟩)::.sc (.int .i64 ar)::rest) 0) K:=by
   intro s K h;simp only[D6,DV,Bx,h8,Ih,xL,xM,xF,xG];refine⟨by omega,?_⟩;rw[CA (by simp[h6])];exact h
  refine ASl _ _ ?_;simp only[CI];have eA:∀(k:Nat) (b:List AV) (t:List (Nat×Nat)),(⟨(ST bs id l k++(m++[Z4]))++[b],t⟩:AM)=⟨ST bs id l k++(m++[Z4,b]),t⟩:=λk b t=>by simp
  have eL:(ST bs id l k1++(m++[Z4])).length=bs.length+m.length+1:=by simp[Ft]; omega
  simp only[eL,eA]
  have ASm:∀K:AM->Prop,K ⟨ST bs id l k1++(m++[Z4,(PV.sc (.string ⟨name.toArray⟩)::.sc (.int .i64 ar)::rest).map AV.pv]),ts⟩->CJ (Cv (env R) 83 0 L.ro L.rt) ⟨ST bs id l k1++(m++[Z4,[(SS []),(AA 0),(AA 0),(SS []),(AA 0),(.AB []),(BB false),(.AB [])]]),ts⟩ 8 (.ptr (bs.length+m.length+1) 0) (.agg ((PV.sc (.string ⟨name.toArray⟩)::.sc (.int .i64 ar)::rest).map AV.pv)) K:=by
   intro K h;have hce:cellsOf (.agg ((PV.sc (.string ⟨name.toArray⟩)::.sc (.int .i64 ar)::rest).map AV.pv))=(PV.sc (.string ⟨name.toArray⟩)::.sc (.int .i64 ar)::rest).map AV.pv:=rfl;simp only[CJ,EB,Hp,Ig,wO,hce,Bx];refine⟨⟨h8,by rw[h8]; simp,by have:=g1 1; simp[Cv]; omega,hok,.inl (by simp[Cv]),by omega⟩,?_⟩;rw[Hw]
   obtain⟨x0,x1,x2,x3,x4,x5,rfl⟩:∃x0 x1 x2 x3 x4 x5,rest=[x0,x1,x2,x3,x4,x5]:=by
    rcases rest with _|⟨a,_|⟨b,_|⟨c,_|⟨d,_|⟨e,_|⟨f,_|⟨g,r⟩⟩⟩⟩⟩⟩⟩ <;> simp at h6
    simp
   simp_all
  refine ASm _ ?_;generalize hDB:(PV.sc (.string ⟨name.toArray⟩)::.sc (.int .i64 ar)::rest).map AV.pv=DB;have AX5:DB[0]?=some (SS name):=by rw[<-hDB]; rfl
  have AMa:DB[1]?=some (AA ar):=by rw[<-hDB]; rfl
  have hDBi:∀n,Ab n DB=true:=by
   intro n;rw[<-hDB];clear hDB ASl ASm hok h8 hrow AX5 AMa;generalize (PV.sc (.string ⟨name.toArray⟩)::.sc (.int .i64 ar)::rest)=R0
   induction R0 with
   | nil=>rfl
   | cons p R0 ih=>assumption
  have hDBn:DB≠[]:=by intro e; simp_all
  have alD:∀(k:Nat) (b:List AV) (t:List (Nat×Nat)),alive ⟨ST bs id l k++(m++Z4::DB::[b]),t⟩ (bs.length+m.length+1)=true:=by
   intro k b t
   obtain⟨c,r,hc⟩:∃c r,DB=c::r:=by
    cases DB with
    | nil=>grind
    | cons c r=>simp
   simp[*,EB]
  have AX6:∀(K:AV->Prop),K (.ptr (bs.length+m.length+1) 0)->A0 ⟨ST bs id l k1++(m++[Z4,DB]),ts⟩ (.ptr (bs.length+m.length+1) 0) 0 K:=by simp_all[EB]
  have ld0:∀(K:AV->Prop),K (SS name)->D6 (env R) ⟨ST bs id l k1++(m++[Z4,DB]),ts⟩ none (.ptr (bs.length+m.length+1) 0) K:=by simp[*,EB]
  refine AX6 _ (ld0 _ ?_);refine IC (cs:=[AA 2,SS name,AA 0,.AB []]) (by simp) ?_;have eA2:∀(k:Nat) (b:List AV) (t:List (Nat×Nat)),(⟨(ST bs id l k++(m++[Z4,DB]))++[b],t⟩:AM)=⟨ST bs id l k++(m++[Z4,DB,b]),t⟩:=λk b t=>by simp
  have eL2:(ST bs id l k1++(m++[Z4,DB])).length=bs.length+m.length+2:=by simp[Ft]; omega
  simp only[eL2,eA2];have AX7:∀K:AM->Prop,K ⟨ST bs id l k1++(m++[Z4,DB,[AA 2,SS name,AA 0,.AB []]]),ts⟩->CJ (Cv (env R) 83 0 L.ro L.rt) ⟨ST bs id l k1++(m++[Z4,DB,Z4]),ts⟩ 4 (.ptr (bs.length+m.length+2) 0) (.agg [AA 2,SS name,AA 0,.AB []]) K:=by simp[*,EB,Hw]
  refine AX7 _ ?_
  have loop:∀(j q k2:Nat) (x:List (Nat×Nat)) (a:AV) (es:List Ty),q+j=ar->k1<=k2->k2<=l.length->es.length=q->I1 (8*(k2-k1)+q) es->Dg ts.length (ts++x) 25 a (AW es) ->
    mZ R 0 L.ro L.rt (.ptr id 0) dv (AA d) (AA vars) (.ptr (bs.length+m.length) 0) (.ptr (bs.length+m.length+1) 0) (.ptr (bs.length+m.length+2) 0) (AA q) ⟨ST bs id l k2++(m++[Z4,DB,[AA 2,SS name,AA 0,a]]),ts++x⟩ (QM rr N Post):=by
   intro j
   induction j with
   | zero=>
    intro q k2 x a es hq AMb iI hes hqs ha;have ho:=ha.Ax;refine AFm ⟨alD _ _ _,?_⟩;simp only[D6,EB,Hp,Ig,wO,DV,CQ,AMa,xL,xM,xF,xG];refine Ah ?_;have h1:¬ ((q:Int)<ar):=by omega
    simp only[h1,XE];refine Am (ASn ?_);have:=Yx (R:=R) (Post:=Post) (rr:=rr) (N:=N) (k:=k2) (ts:=ts++x) (Z:=Z4) (r:=[DB,[AA 2,SS name,AA 0,a]]) (L':=Cv (env R) 83 0 L.ro L.rt) hB hm rfl hN hro rfl ho (c:=2) (i:=0) (n:=name) (λy hy=>hP _ y k2 x hy (qo.of ((Mr.node (by omega) hqs).mono (by omega))) (by omega) iI);simpa[D6,wO,DV,EB] using this
   | succ j D2=>
    intro q k2 x a es hq AMb iI hes hqs ha;have ho:=ha.Ax;refine AFm ⟨alD _ _ _,?_⟩;simp only[D6,EB,Hp,Ig,wO,DV,CQ,AMa,xL,xM,xF,xG];refine Ah ?_;have h1:((q:Int)<ar):=by omega
    simp only[h1,decide_true];refine A4 (ASo ?_)
    have hm2:Kk bs (m++[Z4,DB,[AA 2,SS name,AA 0,a]]):=I9 hm (by
     intro b hb;simp only[A1,Ed,Ee] at hb;rcases hb with rfl|rfl|rfl
     .rfl
     .simp[*]
     .simp[Ab,Ar,ho.Ar])
    simp[EB,Ja,Hw,Jb];refine B7 (by omega) (by omega) ?_;refine Ck (wQ ((d:Int)-1) (by omega) (by omega) hm2 iI vars (by omega) (by omega) (Cv (env R) 83 0 L.ro L.rt) hro (ts++x) (by simp[Cv]; omega)) ?_;rintro v s1 ⟨t,k3,x2,hv,hqn,L3,bS,rfl⟩;obtain⟨c1,n1,i1,es1⟩:=t;obtain⟨b,rfl,hb⟩:=hv;simp[CV,FY,hb.ok,hb.Jg,EB,Ja,Hw,Jb];have hrow:CB 4 1 [PV.sc (.int .i64 c1),.sc (.string ⟨n1.toArray⟩),.sc (.int .i64 i1),.list (AW es1)]=[Af (.mk c1 n1 i1 es1)]:=by rfl
    rw[hrow]
    have Q1:Dg ts.length (ts++(x++x2)) 25 a (AW es):=by
     rw[<-Di];exact ha.grow
    refine L5 Q1 EU (λr hr=>UB r hr) (Ac _) (by omega) (DK _) (by simp[AR]; omega) (by simp[AR]; omega) ?_;intro a' x' Ir;have ho':=Ir.Ax;have:=g1 2;simp[EB,Ja,Hw,Jb,ho'.ok,ho'.cells,ho'.JA,this];refine⟨by simp[Bg],?_,?_⟩
    .simpa[ADp.Bg] using ADp.Bg ha
    refine ASp (BW (by omega) (by omega) ?_);have ha3:Dg ts.length (ts++x') 25 a' (AW (es++[.mk c1 n1 i1 es1])):=by simp[*,FF,AW]
    have:=D2 (q+1) k3 x' a' (es++[.mk c1 n1 i1 es1]) (by omega) (by omega) bS (by simp[*]) (I1.snoc hqs hqn (by omega)) ha3
    grind
  have:=loop ar 0 k1 [] (.AB []) [] (by omega) (Aa _) hk2 rfl I1.nil (.inl (by rfl))
  grind
end
section
variable {bs:List (List AV)} {id:Nat} {l:Src} {R:Nat->Option (List PV)}
theorem x9 (hB:Nj bs id l) {W:List (List UInt8)} (hW:(env R).G 1=some (FD W)) (h4:W.length=4) (sW:Short W) {dv:AV} (μ:Nat)
  (ihn:∀d:Nat,d<=20->UD R bs id l dv 83 d (3*d+1) μ qo) (iht:∀d:Nat,d<=20->UD R bs id l dv 41 d (3*d+2) μ (LY d)) (e:Int) (he:-1<=e) (he2:e<=20):UD R bs id l dv 115 e (3*(e+1).toNat) (μ+1) Mr:=by
 intro m hm k hk vars hvars hμ L hro ts EU;have hlen:=hB.len;have hlt:=hB.lt
 suffices H:∀(rr:Bool) (N:Nat) (Post:AV->AM->Prop),N=bs.length+m.length->(∀t v k' x,BJ t v->Mr (8*(k'-k)+1) t->k<=k'->k'<=l.length->Post v ⟨ST bs id l k'++m,ts++x⟩)->iJ R 0 L.ro L.rt (.ptr id 0) dv (AA e) (AA vars) ⟨ST bs id l k++m,ts⟩ (QM rr N Post) from
  AYA (by rfl) (H _ _ _ (by simp[Ft]) λt v k' x h1 h2 h3 h4=>⟨t,k',x,h1,h2,h3,h4,rfl⟩)
 intro rr N Post hN hP;have hm':=Y0 hm
 have fin:∀(k1:Nat) (x:List (Nat×Nat)) (t:Ty) (v:AV),BJ t v->Mr (8*(k1-k)+1) t->k<=k1->k1<=l.length->CJ (Cv (env R) 115 0 L.ro L.rt) ⟨ST bs id l k1++(m++[Z4]),ts++x⟩ 4 (.ptr (bs.length+m.length) 0) v λs1=>D6 (env R) s1 (some 4) (.ptr (bs.length+m.length) 0) λr=>QM rr N Post r s1:=
  λk1 x t v hv hb h1 h2=>UC (R:=R) (Post:=Post) (rr:=rr) (N:=N) (k:=k1) (ts:=ts++x) (Z:=Z4) (r:=[]) (L':=Cv (env R) 115 0 L.ro L.rt) hB hm rfl hN hro rfl hv (λy hy=>hP t y k1 x hy hb h1 h2)
 have cZ:∀(k1:Nat) (t:Ty) (v:AV),BJ t v->Mr (8*(k1-k)+1) t->k<=k1->k1<=l.length->CJ (Cv (env R) 115 0 L.ro L.rt) ⟨ST bs id l k1++(m++[Z4]),ts⟩ 4 (.ptr (bs.length+m.length) 0) v λs1=>D6 (env R) s1 (some 4) (.ptr (bs.length+m.length) 0) λr=>QM rr N Post r s1:=by
  intro k1 t v hv hb h1 h2;have:=fin k1 [] t v hv hb h1 h2
  grind
 refine AMe ?_;simp only[CI,Di,Bo,Ft];refine Ck (Gv (n:=6) hB hm' hk (by omega) (by omega) _ (by assumption) ts) ?_;rintro v s1 ⟨r,k1,rfl,Xo,Ns,US,hk2,rfl⟩;have mu1:(l.length-k1)*100<=(l.length-k)*100:=B9 _ (by omega);have rest:CY .i64 .leq (AA e) (AA 0) λa25=>
 AO a25 (
 D6 (env R) ⟨ST bs id l k1++(m++[Z4]),ts⟩ none (.DS 1 0) λa26=>
 E3 (env R) (Cv (env R) 115 0 L.ro L.rt) (.func (.func 54) [] []) [(.ptr id 0),(AA 4)] ⟨ST bs id l k1++(m++[Z4]),ts⟩ λa28 ADq=>
 Bh ADq 1 a26 a28 λa29=>
 D6 (env R) ADq none a29 λa30=>
 E3 (env R) (Cv (env R) 115 0 L.ro L.rt) (.func (.func 26) [] []) [a30,(.AB [])] ADq λa31 fV=>
 CJ (Cv (env R) 115 0 L.ro L.rt) fV 4 (.ptr (bs.length+m.length) 0) a31 λAFn=>
(D6 (env R) ADq none (.DS 1 0) λv=>Bg v a26=true) /\
 D6 (env R) AFn (some 4) (.ptr (bs.length+m.length) 0) λAYB=>
 QM rr N Post AYB AFn) (
 CY .i64 .lss (AA r) (AA 4) λa34=>
 AO a34 (
 E3 (env R) (Cv (env R) 115 0 L.ro L.rt) (.func (.func 83) [] []) [(.ptr id 0),dv,(AA e),(AA vars)] ⟨ST bs id l k1++(m++[Z4]),ts⟩ λa39 ASq=>
 CJ (Cv (env R) 115 0 L.ro L.rt) ASq 4 (.ptr (bs.length+m.length) 0) a39 λAFo=>
 D6 (env R) AFo (some 4) (.ptr (bs.length+m.length) 0) λAYC=>
 QM rr N Post AYC AFo) (
 iK R 0 L.ro L.rt (.ptr id 0) dv (AA e) (.ptr (bs.length+m.length) 0) ⟨ST bs id l k1++(m++[Z4]),ts⟩ (QM rr N Post))):=by
  refine YF ?_
  by_cases h0:e<=0
  .have b0:decide (e<=0)=true:=by grind
   rw[b0];refine A4 (O6 hW ?_);refine Ck (Gv (n:=4) hB hm' hk2 (by omega) (by omega) _ (by assumption) ts) ?_;rintro v s1 ⟨r2,k2,rfl,qm,hr4,Lb,L3,rfl⟩;obtain⟨w,hw,hwl⟩:=QJ hW h4 sW qm hr4;refine Yw qm hw (iG ?_);refine AD (Jz (.AB [])) ?_;rintro v rfl;exact Yv (O6 hW (Qv W)) (cZ k2 (.mk 2 w 0 []) _ ⟨_,rfl,by simp[AW]; exact .inl (.AB _)⟩ (Mr.leaf hwl (by omega)) (by omega) L3)
  .have b0:decide (e<=0)=false:=by grind
   rw[b0];obtain⟨d,rfl⟩:=jM (show 0<=e by omega);refine Am (Ah ?_);cases b4:decide (r<4) with
   | true=>
    refine A4 ?_;refine Ck (ihn d (by omega) hm' hk2 vars (by omega) (by omega) (Cv (env R) 115 0 L.ro L.rt) hro ts (by assumption)) ?_;rintro v s1 ⟨t,k3,x,hv,hb,Lb,L3,rfl⟩;exact fin k3 x t v hv (hb.1.mono (by omega)) (by omega) L3
   | false=>
    refine Am (AMf (JV (by omega) (by omega) ?_));have e3:((d:Nat):Int)-1=((d-1:Nat):Int):=by omega
    rw[e3];refine Ck (iht (d-1) (by omega) hm' hk2 0 (by omega) (by omega) (Cv (env R) 115 0 L.ro L.rt) hro ts (by assumption)) ?_;rintro v s1 ⟨t,k3,x,hv,hb,Lb,L3,rfl⟩;exact fin k3 x t v hv (hb.1.mono (by omega)) (by omega) L3
 refine Ah ?_;cases b2:decide (r<2) with
 | false=>exact KB (by simp) (KB (by simp) (pk (Am rest)))
 | true=>
  refine Ao (Ao (Fp (pk ?_)))
  by_cases ZE:vars=0
  .have b0:decide ((vars:Int)>0)=false:=by grind
   grind[Am]
  .have b0:decide ((vars:Int)>0)=true:=by grind
   rw[b0];refine A4 ?_;refine Ck (Gv (n:=vars) hB hm' hk2 (by omega) (by omega) _ (by assumption) ts) ?_;rintro v s1 ⟨r2,k2,rfl,qm,hr4,Lb,L3,rfl⟩;refine AD (JY r2) ?_;rintro v rfl;exact cZ k2 (.mk 5 [] r2 []) _ ⟨_,rfl,by simp[AW]; exact .inl (.AB _)⟩ (Mr.leaf (by simp) (by omega)) (by omega) L3
end
section
variable {bs:List (List AV)} {id:Nat} {l:Src} {R:Nat->Option (List PV)}
theorem UE:AL (env R) 53 [] λr=>r=T0 0 [] 0:=by
 refine e53 (by simp) (ASr ?_);simp[QP,QI]
theorem iL:AL (env R) 80 [] λr=>r=T0 1 [] 0:=by
 refine e80 (by simp) (ASs ?_);simp[QP,QI]
theorem Y1 {k1 i1 k2 i2:Int} {n1 n2:List UInt8} {a1 a2:AV} {AFq AFr:List (List PV)} (h1:BF a1 AFq) (h2:BF a2 AFr) :
  AL (env R) 52 [.agg [AA k1,SS n1,AA i1,a1],.agg [AA k2,SS n2,AA i2,a2]] λr=>r=.agg [AA 6,SS [],AA 0,.AB [[.sc (.int .i64 k1),.sc (.string ⟨n1.toArray⟩),.sc (.int .i64 i1),.list AFq],[.sc (.int .i64 k2),.sc (.string ⟨n2.toArray⟩),.sc (.int .i64 i2),.list AFr]]]:=by
 obtain⟨b1,c1,r1⟩:=h1.closed ([]:List (List AV)) 0;obtain⟨b2,c2,r2⟩:=h2.closed ([]:List (List AV)) 0;refine e52 (u0:=.agg [AA k1,SS n1,AA i1,b1]) (u1:=.agg [AA k2,SS n2,AA i2,b2]) (by simp[*]) (ASt ?_);simp[QP,QI,r1.ok,r2.ok,r1.Jg,r2.Jg,CV,FY,CB]
theorem BJ.self {t:Ty} {v:AV} (h:BJ t v):Bg v v=true:=by
 obtain⟨k,n,i,ts⟩:=t;obtain⟨a,rfl,ha⟩:=h
 grind[Bg,Hx,Mm,FX,Ht,BF.Bg]
theorem O7 {t u:Ty} {x y:AV} (h:BJ t x) (h':BJ u y):AL (env R) 52 [x,y] λr=>BJ (.mk 6 [] 0 [t,u]) r:=by
 obtain⟨k,n,i,ts⟩:=t;obtain⟨k',n',i',ts'⟩:=u;obtain⟨a,rfl,ha⟩:=h;obtain⟨a',rfl,Ir⟩:=h';obtain⟨v,hv,hc⟩:=Y1 (R:=R) (k1:=k) (i1:=i) (k2:=k') (i2:=i') (n1:=n) (n2:=n') ha Ir;exact⟨v,⟨_,hv,by simp[AW,Af]; exact .inl (.AB _)⟩,hc⟩
theorem yA {t u:Ty} {x y:AV} (h:BJ t x) (h':BJ u y) (s:AM) (K:AV->AM->Prop) (hK:K (.AB (AW [t,u])) s):CV false s 4 [(AA 0),(SS []),(AA 0),(.AB [])] 2 [(0,4,x),(4,4,y)] K:=by
 obtain⟨k,n,i,ts⟩:=t;obtain⟨k',n',i',ts'⟩:=u;obtain⟨a,rfl,ha⟩:=h;obtain⟨a',rfl,Ir⟩:=h';simp[CV,FY,CB,ha.ok,ha.Jg,Ir.ok,Ir.Jg]
 assumption
theorem o9 (hB:Nj bs id l) {W:List (List UInt8)} (hW:(env R).G 1=some (FD W)) (h4:W.length=4) (sW:Short W) {dv:AV} (μ:Nat)
  (ihn:∀d:Nat,d<=20->UD R bs id l dv 83 d (3*d+1) μ qo) (iht:∀d:Nat,d<=20->UD R bs id l dv 41 d (3*d+2) μ (LY d)) (d:Nat) (hd:d<=20):UD R bs id l dv 41 d (3*d+2) (μ+1) (LY d):=by
 intro m hm k hk vars hvars hμ L hro ts EU;have hlen:=hB.len;have hlt:=hB.lt
 suffices H:∀(rr:Bool) (N:Nat) (Post:AV->AM->Prop),N=bs.length+m.length->(∀t v k' x,BJ t v->LY d (8*(k'-k)+1) t->k<=k'->k'<=l.length->Post v ⟨ST bs id l k'++m,ts++x⟩)->yB R 0 L.ro L.rt (.ptr id 0) dv (AA d) (AA vars) ⟨ST bs id l k++m,ts⟩ (QM rr N Post) from
  m41 (by simp[Bi,F1]) (H _ _ _ (by simp[Ft]) λt v k' x h1 h2 h3 h4=>⟨t,k',x,h1,h2,h3,h4,rfl⟩)
 intro rr N Post hN hP;have hm':=Y0 hm;have g1:∀n,L.ro<=bs.length+m.length+n:=λn=>by omega
 have fin:∀(k1:Nat) (x:List (Nat×Nat)) (r:List (List AV)) (t:Ty) (v:AV),BJ t v->LY d (8*(k1-k)+1) t->k<=k1->k1<=l.length->CJ (Cv (env R) 41 0 L.ro L.rt) ⟨ST bs id l k1++(m++Z4::r),ts++x⟩ 4 (.ptr (bs.length+m.length) 0) v λs1=>D6 (env R) s1 (some 4) (.ptr (bs.length+m.length) 0) λr=>QM rr N Post r s1:=
  λk1 x r t v hv hb h1 h2=>UC (R:=R) (Post:=Post) (rr:=rr) (N:=N) (k:=k1) (ts:=ts++x) (Z:=Z4) (r:=r) (L':=Cv (env R) 41 0 L.ro L.rt) hB hm rfl hN hro rfl hv (λy hy=>hP t y k1 x hy hb h1 h2)
 have cZ:∀(k1:Nat) (r:List (List AV)) (t:Ty) (v:AV),BJ t v->LY d (8*(k1-k)+1) t->k<=k1->k1<=l.length->CJ (Cv (env R) 41 0 L.ro L.rt) ⟨ST bs id l k1++(m++Z4::r),ts⟩ 4 (.ptr (bs.length+m.length) 0) v λs1=>D6 (env R) s1 (some 4) (.ptr (bs.length+m.length) 0) λr=>QM rr N Post r s1:=by
  intro k1 r t v hv hb h1 h2;have:=fin k1 [] r t v hv hb h1 h2;simpa using this
 have rt':∀x:List (Nat×Nat),(Cv (env R) 41 0 L.ro L.rt).rt<=(ts++x).length:=λx=>by simp[Cv]; omega
 have mu:∀k1,k<=k1->(l.length-k1)*100<=(l.length-k)*100:=λk1 h=>B9 _ (by omega)
 have mus:∀k1,k<k1->k1<=l.length->(l.length-k1)*100+100<=(l.length-k)*100:=λk1 h h'=>by
  have:(l.length-k1+1)*100<=(l.length-k)*100:=B9 _ (by omega);omega
 have ADr:∀k1,k<=k1->k1<=l.length->E3 (env R) (Cv (env R) 41 0 L.ro L.rt) (.func (.func 83) [] []) [(.ptr id 0),dv,(AA d),(AA vars)] ⟨ST bs id l k1++(m++[Z4]),ts⟩ λa48 cP=>
   CJ (Cv (env R) 41 0 L.ro L.rt) cP 4 (.ptr (bs.length+m.length) 0) a48 λALm=>D6 (env R) ALm (some 4) (.ptr (bs.length+m.length) 0) λr=>QM rr N Post r ALm:=by
  intro k1 h1 h2;refine Ck (ihn d hd hm' h2 vars hvars (by have:=mu k1 h1; omega) (Cv (env R) 41 0 L.ro L.rt) hro ts (by simpa[Cv] using EU)) ?_;rintro v s1 ⟨t,k3,x,hv,hb,Lb,L3,rfl⟩;exact fin k3 x [] t v hv ((hb.g d).mono (by omega)) (by omega) L3
 have last:∀k1,0<d->k<k1->k1<=l.length->iM R 0 L.ro L.rt (.ptr id 0) (.ptr (bs.length+m.length) 0) ⟨ST bs id l k1++(m++[Z4]),ts⟩ (QM rr N Post):=by
  intro k1 oa h1 h2;refine AMg ?_;refine Ck (Gv (n:=4) hB hm' h2 (by omega) (by omega) _ (by simp[*]) ts) ?_;rintro v s1 ⟨r2,k2,rfl,qm,hr4,Lb,L3,rfl⟩;refine Au ?_;cases (r2==0) with
  | true=>
   refine A4 ?_;refine AD iL ?_;rintro v rfl;exact cZ k2 [] (.mk 1 [] 0 []) _ ⟨_,rfl,by simp[AW]; exact .inl (.AB _)⟩ (LY.leaf rfl rfl (by simp) (by omega)) (by omega) L3
  | false=>
   refine Am (AMh ?_);refine AD UE ?_;rintro v rfl;refine AD (JY 0) ?_;rintro v rfl
   have Qz:∀(s:AM) (K:AV->AM->Prop),K (.AB (AW [.mk 5 [] 0 []])) s->CV false s 4 [(AA 0),(SS []),(AA 0),(.AB [])] 1 [(0,4,T0 5 [] 0)] K:=by
    intro s K hK;simp[CV,FY,CB];simpa[AW,Af] using hK
   refine Qz _ _ ?_;refine AD (Jz (.AB _)) ?_;rintro v rfl;refine AD (O7 (t:=.mk 0 [] 0 []) (u:=.mk 2 [66,111,120] 0 [.mk 5 [] 0 []]) ⟨_,rfl,by simp[AW]; exact .inl (.AB _)⟩ ⟨_,rfl,.inl (.AB _)⟩) ?_;intro v hv;refine cZ k2 [] _ _ hv ?_ (by omega) L3;exact LY.ex (B:=1) (C:=2) oa (LY.leaf rfl rfl (by simp) (by omega)) ((qo.of (Mr.node (B:=1) (by simp) (I1.cons (B:=1) (C:=0) (Mr.leaf (by simp) (by omega)) I1.nil (by omega)))).g _) (by omega)
 have ASu:∀(k1:Nat) (x:List (Nat×Nat)) (tb:Ty) (vb:List AV),BJ tb (.agg vb)->vb.length=4->(vb.all A9)=true->(∀n,Ab n vb=true)->0<d->k<k1->k1<=l.length->LY 1 (8*(k1-k)-7) tb ->
   mb R 0 L.ro L.rt (.ptr id 0) dv (AA d) (AA vars) (.ptr (bs.length+m.length) 0) (.ptr (bs.length+m.length+1) 0) ⟨ST bs id l k1++(m++[Z4,vb]),ts++x⟩ (QM rr N Post):=by
  intro k1 x tb vb EA hv4 hok eM oa h1 h2 hsz;have hld:∀(k:Nat) (t:List (Nat×Nat)) (K:AV->Prop),K (.agg vb)->D6 (env R) ⟨ST bs id l k++(m++[Z4,vb]),t⟩ (some 4) (.ptr (bs.length+m.length+1) 0) K:=by simp[*,EB,CA]
  refine ASv (hld _ _ _ (JV (by omega) (by omega) (BW (by omega) (by omega) ?_)));have e3:((d:Nat):Int)-1=((d-1:Nat):Int):=by omega
  have e4:((vars:Nat):Int)+1=((vars+1:Nat):Int):=by omega
  rw[e3,e4]
  have hm2:Kk bs (m++[Z4,vb]):=I9 hm (by
   intro b hb;simp only[A1,Ed,Ee] at hb;rcases hb with rfl|rfl
   all_goals simp[*,Ab,Ar])
  refine Ck (iht (d-1) (by omega) hm2 h2 (vars+1) (by omega) (by omega) (Cv (env R) 41 0 L.ro L.rt) hro (ts++x) (rt' x)) ?_;rintro v s1 ⟨t,k3,x3,hv,hb,Lb,L3,rfl⟩;refine AD (O7 EA hv) ?_;intro w hw;refine Yv (hld _ _ _ EA.self) ?_;rw[Di];refine fin k3 (x++x3) [vb] _ w hw ?_ (by omega) L3;exact LY.ex oa hsz hb (by omega)
 have loop:∀(k1 cnt:Nat),0<d->k<k1->k1<=l.length->cnt<=3->∀(j q k2:Nat) (x:List (Nat×Nat)) (a:AV) (es:List Ty),q+j=cnt->k1<=k2->k2<=l.length->es.length=q->Yz (d-1) (8*(k2-k1)+q) es->Dg ts.length (ts++x) 25 a (AW es) ->
   mg R 0 L.ro L.rt (.ptr id 0) dv (AA d) (AA vars) (.ptr (bs.length+m.length) 0) (.ptr (bs.length+m.length+1) 0) (AA cnt) (AA q) ⟨ST bs id l k2++(m++[Z4,[AA 3,SS [],AA 0,a]]),ts++x⟩ (QM rr N Post):=by
  intro k1 cnt oa US hk2 S0 j
  induction j with
  | zero=>
   intro q k2 x a es hq AMb iI hes hqs ha;have ho:=ha.Ax;refine AFs (Ah ?_);have h1:¬ ((q:Int)<cnt):=by omega
   simp only[h1,XE];refine Am (AMi ?_);have:=fin k2 x [[AA 3,SS [],AA 0,a]] (.mk 3 [] 0 es) (.agg [AA 3,SS [],AA 0,a]) ⟨a,rfl,ho⟩ ((LY.tup oa (by omega) hqs).mono (by omega)) (by omega) iI;simpa[D6,wO,DV,EB] using this
  | succ j D2=>
   intro q k2 x a es hq AMb iI hes hqs ha;have ho:=ha.Ax;refine AFs (Ah ?_);have h1:((q:Int)<cnt):=by omega
   simp only[h1,decide_true];refine A4 (AMj ?_);have hm2:Kk bs (m++[Z4,[AA 3,SS [],AA 0,a]]):=I9 hm (by simp[Ab,Ar,ho.Ar]);simp[EB,Ja,Hw,Jb];refine B7 (by omega) (by omega) ?_;have e3:((d:Nat):Int)-1=((d-1:Nat):Int):=by omega
   rw[e3];refine Ck (iht (d-1) (by omega) hm2 iI vars (by omega) (by omega) (Cv (env R) 41 0 L.ro L.rt) hro (ts++x) (rt' x)) ?_;rintro v s1 ⟨t,k3,x2,hv,hqn,L3,bS,rfl⟩;obtain⟨c1,n1,i1,es1⟩:=t;obtain⟨b,rfl,hb⟩:=hv;simp[CV,FY,hb.ok,hb.Jg,EB,Ja,Hw,Jb];have hrow:CB 4 1 [PV.sc (.int .i64 c1),.sc (.string ⟨n1.toArray⟩),.sc (.int .i64 i1),.list (AW es1)]=[Af (.mk c1 n1 i1 es1)]:=by rfl
   rw[hrow]
   have Q1:Dg ts.length (ts++(x++x2)) 25 a (AW es):=by
    rw[<-Di];exact ha.grow
   refine L5 Q1 EU (λr hr=>UB r hr) (Ac _) (by omega) (DK _) (by simp[AR]; omega) (by simp[AR]; omega) ?_;intro a' x' Ir;have ho':=Ir.Ax;have:=g1 1;simp[EB,Ja,Hw,Jb,ho'.ok,ho'.cells,ho'.JA,this];refine⟨by simp[Bg],?_,?_⟩
   .simpa[ADp.Bg] using ADp.Bg ha
   refine AMk (BW (by omega) (by omega) ?_)
   have ha3:Dg ts.length (ts++x') 25 a' (AW (es++[.mk c1 n1 i1 es1])):=by
    rw[FF];simpa[AW] using Ir
   have:=D2 (q+1) k3 x' a' (es++[.mk c1 n1 i1 es1]) (by omega) (by omega) bS (by simp; omega) (Yz.snoc hqs hqn (by omega)) ha3;simpa using this
 have AYD:∀(k1:Nat) (r:Int),0<=r->k<=k1->k1<=l.length->(r≠0->k<k1)->(5<r->0<d)->mh R 0 L.ro L.rt (.ptr id 0) dv (AA d) (AA vars) (.ptr (bs.length+m.length) 0) (AA r) ⟨ST bs id l k1++(m++[Z4]),ts⟩ (QM rr N Post):=by
  intro k1 r h0r h1 h2 hkk hd5
  have c7:∀B:Bool,(r=10\/r=11->B=true)->(B=true->r=10\/r=11)->9<r->mj R 0 L.ro L.rt (.ptr id 0) dv (AA d) (AA vars) (.ptr (bs.length+m.length) 0) (AA r) (BB B) ⟨ST bs id l k1++(m++[Z4]),ts⟩ (QM rr N Post):=by
   intro B hB1 hB2 h9;have oa:=hd5 (by omega);have qY:=hkk (by omega);have eL:∀k,(ST bs id l k++(m++[Z4])).length=bs.length+m.length+1:=λk=>by simp[Ft]; omega
   have eA:∀(k:Nat) (b:List AV) (t:List (Nat×Nat)),(⟨(ST bs id l k++(m++[Z4]))++[b],t⟩:AM)=⟨ST bs id l k++(m++[Z4,b]),t⟩:=λk b t=>by simp
   have st4:∀(k:Nat) (t:List (Nat×Nat)) (z b:List AV),z.length=4->b.length=4->(b.all A9)=true->∀K:AM->Prop,K ⟨ST bs id l k++(m++[Z4,b]),t⟩->CJ (Cv (env R) 41 0 L.ro L.rt) ⟨ST bs id l k++(m++[Z4,z]),t⟩ 4 (.ptr (bs.length+m.length+1) 0) (.agg b) K:=by
    intro k t z b hz hb hok K hK;have hce:cellsOf (.agg b)=b:=rfl;simp only[CJ,EB,Hp,Ig,wO,hce];refine⟨⟨hb,by omega,by have:=g1 1; simp[Cv]; omega,hok,.inl (by simp[Cv]),by omega⟩,?_⟩;rw[Hw]
    have:setCells z 0 b=b:=by
     obtain⟨z0,z1,z2,z3,rfl⟩:∃z0 z1 z2 z3,z=[z0,z1,z2,z3]:=by
      rcases z with _|⟨a,_|⟨b,_|⟨c,_|⟨d,_|⟨e,l⟩⟩⟩⟩⟩ <;> simp at hz
      exact⟨_,_,_,_,rfl⟩
     obtain⟨b0,b1,b2,b3,rfl⟩:∃z0 z1 z2 z3,b=[z0,z1,z2,z3]:=by
      rcases b with _|⟨a,_|⟨b,_|⟨c,_|⟨d,_|⟨e,l⟩⟩⟩⟩⟩ <;> simp at hb
      exact⟨_,_,_,_,rfl⟩
     simp[setCells]
    rw[this];exact hK
   refine ASw ?_;cases B with
   | true=>
    refine A4 ?_;refine IC (cs:=[AA 3,SS [],AA 0,.AB []]) (by simp) ?_;simp only[CI,eL,eA];refine st4 _ _ _ _ rfl rfl (by rfl) _ ?_;have hm2:Kk bs (m++[Z4,[AA 3,SS [],AA 0,.AB []]]):=I9 hm (by simp[Ab,Ar]);refine Ck (Gv (n:=4) hB hm2 h2 (by omega) (by omega) _ (by simp[*]) ts) ?_;rintro v s1 ⟨r2,k2,rfl,qm,hr4,Lb,L3,rfl⟩;obtain⟨j,rfl⟩:=jM qm;have:=loop k2 j oa (by omega) L3 (by omega) j 0 k2 [] (.AB []) [] (by omega) (Aa _) L3 rfl Yz.nil (.inl (by rfl))
    grind
   | false=>
    refine Am (Au ?_);cases b12:(r==12) with
    | true=>
     refine A4 ?_;refine AD UE ?_;rintro v rfl;simp only[CI,eL,eA];refine st4 _ _ _ _ rfl rfl (by rfl) _ ?_;have hm2:Kk bs (m++[Z4,[AA 0,SS [],AA 0,.AB []]]):=I9 hm (by simp[Ab,Ar]);refine Ck (Gv (n:=2) hB hm2 h2 (by omega) (by omega) _ (by simp[*]) ts) ?_;rintro v s1 ⟨r2,k2,rfl,qm,hr4,Lb,L3,rfl⟩;refine Au ?_;cases (r2==1) with
     | true=>
      refine A4 ?_;have e1:(AA (1:Int))=AA ((1:Nat):Int):=rfl;have e0:(AA (0:Int))=AA ((0:Nat):Int):=rfl;refine Ck (iht 1 (by omega) hm2 L3 0 (by omega) (by omega) (Cv (env R) 41 0 L.ro L.rt) hro ts (by simp[*])) ?_;rintro v s1 ⟨t,k3,x,hv,hb,bS,fL,rfl⟩;have PX:=hv;obtain⟨c1,n1,i1,es1⟩:=t;obtain⟨a1,rfl,ha1⟩:=PX;refine st4 _ _ _ _ rfl rfl (by simp[ha1.ok]) _ ?_;exact ASu k3 x _ _ hv rfl (by simp[ha1.ok]) (by simp[Ab,Ar,ha1.Ar]) oa (by omega) fL (hb.mono (by omega))
     | false=>
      have:=ASu k2 [] (.mk 0 [] 0 []) [AA 0,SS [],AA 0,.AB []] ⟨_,rfl,by simp[AW]; exact .inl (.AB _)⟩ rfl (by rfl) (by simp[Ab,Ar]) oa (by omega) L3 (LY.leaf rfl rfl (by simp) (by omega))
      grind[Am]
    | false=>grind[Am]
  have c6:∀B:Bool,(B=true->7<r)->(B=false->9<r)->mo R 0 L.ro L.rt (.ptr id 0) dv (AA d) (AA vars) (.ptr (bs.length+m.length) 0) (AA r) (BB B) ⟨ST bs id l k1++(m++[Z4]),ts⟩ (QM rr N Post):=by
   intro B hB1 hB2;refine ASx ?_;cases B with
   | true=>
    have h8:=hB1 rfl;have oa:=hd5 (by omega);have qY:=hkk (by omega);refine A4 (JV (by omega) (by omega) ?_);have e3:((d:Nat):Int)-1=((d-1:Nat):Int):=by omega
    rw[e3];refine Ck (iht (d-1) (by omega) hm' h2 vars (by omega) (by omega) (Cv (env R) 41 0 L.ro L.rt) hro ts (by simp[*])) ?_;rintro v s1 ⟨t,k2,x,hv,hb,Lb,L3,rfl⟩;refine JV (by omega) (by omega) ?_;rw[e3];refine Ck (iht (d-1) (by omega) hm' L3 vars (by omega) (by omega) (Cv (env R) 41 0 L.ro L.rt) hro (ts++x) (rt' x)) ?_;rintro w s1 ⟨u,k3,x3,hw,hc,bS,fL,rfl⟩;refine yA hv hw _ _ ?_;refine AD (cY (.AB _)) ?_;rintro y rfl;rw[Di];exact fin k3 (x++x3) [] (.mk 4 [] 0 [t,u]) _ ⟨_,rfl,.inl (.AB _)⟩ (LY.un oa hb hc (by omega)) (by omega) fL
   | false=>
    have h9:=hB2 rfl;refine Am (Au ?_);cases b10:(r==10) with
    | true=>grind[A4]
    | false=>
     have n10:¬ r=10:=by grind
     refine Am (Au (c7 _ ?_ ?_ h9))
     all_goals grind
  have c5:∀B:Bool,(B=false->7<r)->cj R 0 L.ro L.rt (.ptr id 0) dv (AA d) (AA vars) (.ptr (bs.length+m.length) 0) (AA r) (BB B) ⟨ST bs id l k1++(m++[Z4]),ts⟩ (QM rr N Post):=by
   intro B hx;refine ASy ?_;cases B with
   | true=>grind[A4]
   | false=>
    have h7:=hx rfl;refine Am (Au ?_);cases b8:(r==8) with
    | true=>grind[A4]
    | false=>
     have n8:¬ r=8:=by grind
     refine Am (Au (c6 _ (λ_=>h7) (λh=>?_)))
     grind
  have c3:∀B:Bool,(B=false->4<r)->mq R 0 L.ro L.rt (.ptr id 0) dv (AA d) (AA vars) (.ptr (bs.length+m.length) 0) (AA r) (BB B) ⟨ST bs id l k1++(m++[Z4]),ts⟩ (QM rr N Post):=by
   intro B hx;refine ASz ?_;cases B with
   | true=>
    refine A4 (Fp ?_)
    by_cases ZE:vars=0
    .have b0:decide ((vars:Int)>0)=false:=by grind
     rw[b0];exact Am (AS0 (ADr k1 h1 h2))
    .have b0:decide ((vars:Int)>0)=true:=by grind
     rw[b0];refine A4 ?_;refine Ck (Gv (n:=vars) hB hm' h2 (by omega) (by omega) _ (by simp[*]) ts) ?_;rintro v s1 ⟨r2,k2,rfl,qm,hr4,Lb,L3,rfl⟩;refine AD (JY r2) ?_;rintro v rfl;exact cZ k2 [] (.mk 5 [] r2 []) _ ⟨_,rfl,by simp[AW]; exact .inl (.AB _)⟩ (LY.leaf rfl rfl (by simp) (by omega)) (by omega) L3
   | false=>
    have h4':=hx rfl;refine Am (Au ?_);cases b5:(r==5) with
    | true=>grind[A4]
    | false=>
     have n5:¬ r=5:=by grind
     refine Am (Au ?_);cases b6:(r==6) with
     | true=>grind[A4]
     | false=>
      have n6:¬ r=6:=by grind
      refine Am (Au (c5 _ (λh=>?_)))
      grind
  have c2:∀B:Bool,(B=false->1<r)->mz R 0 L.ro L.rt (.ptr id 0) dv (AA d) (AA vars) (.ptr (bs.length+m.length) 0) (AA r) (BB B) ⟨ST bs id l k1++(m++[Z4]),ts⟩ (QM rr N Post):=by
   intro B hx;refine AS1 ?_;cases B with
   | true=>
    refine A4 (O6 hW ?_);refine Ck (Gv (n:=4) hB hm' h2 (by omega) (by omega) _ (by simp[*]) ts) ?_;rintro v s1 ⟨r2,k2,rfl,qm,hr4,Lb,L3,rfl⟩;obtain⟨w,hw,hwl⟩:=QJ hW h4 sW qm hr4;refine Yw qm hw (iG ?_);refine AD (Jz (.AB [])) ?_;rintro v rfl;exact Yv (O6 hW (Qv W)) (cZ k2 [] (.mk 2 w 0 []) _ ⟨_,rfl,by simp[AW]; exact .inl (.AB _)⟩ (LY.leaf rfl rfl hwl (by omega)) (by omega) L3)
   | false=>
    have ZD:=hx rfl;refine Am (Au ?_);cases b2:(r==2) with
    | true=>
     refine A4 ?_;refine AD UE ?_;rintro v rfl;exact cZ k1 [] (.mk 0 [] 0 []) _ ⟨_,rfl,by simp[AW]; exact .inl (.AB _)⟩ (LY.leaf rfl rfl (by simp) (by omega)) h1 h2
    | false=>
     have n2:¬ r=2:=by grind
     refine Am (Au ?_);cases b3:(r==3) with
     | true=>grind[A4]
     | false=>
      have n3:¬ r=3:=by grind
      refine Am (Au (c3 _ (λh=>?_)))
      grind
  refine AS2 (Au ?_);cases b0:(r==0) with
  | true=>grind[A4]
  | false=>
   have n0:¬ r=0:=by grind
   refine Am (Au (c2 _ (λh=>?_)))
   grind
 refine AS3 ?_;simp only[CI,Di,Bo,Ft];refine Ck (Nk (n:=14) hB hm' hk (by omega) (by omega) _ (by simp[*]) ts) ?_;rintro v s1 ⟨r,k1,rfl,Xo,Ns,US,hk2,Lb,rfl⟩;refine YF ?_
 by_cases oa:d=0
 .have b0:decide ((d:Int)<=0)=true:=by grind
  rw[b0];refine Ao (Ao (Fp (pk ?_)));cases b5:decide (r>5) with
  | true=>grind[A4]
  | false=>
   grind[Am]
 .have b0:decide ((d:Int)<=0)=false:=by grind
  rw[b0];exact KB (by simp) (KB (by simp) (pk (Am (AYD k1 r Xo US hk2 Lb (by omega)))))
end
section
variable {bs:List (List AV)} {id:Nat} {l:Src} {R:Nat->Option (List PV)}
theorem ADs (hB:Nj bs id l) {W:List (List UInt8)} (hW:(env R).G 1=some (FD W)) (h4:W.length=4) (sW:Short W) {dv:AV} {rows:List (List PV)} (hD:Decls dv rows):∀μ:Nat,
  (∀d:Nat,d<=20->UD R bs id l dv 41 d (3*d+2) μ (LY d))/\(∀d:Nat,d<=20->UD R bs id l dv 83 d (3*d+1) μ qo)/\(∀e:Int,-1<=e->e<=20->UD R bs id l dv 115 e (3*(e+1).toNat) μ Mr):=by
 intro μ
 induction μ with
 | zero=>exact⟨λd _ m _ k _ vars _ h=>absurd h (G4 _),λd _ m _ k _ vars _ h=>absurd h (G4 _),λe _ _ m _ k _ vars _ h=>absurd h (G4 _)⟩
 | succ μ ih=>
  obtain⟨i1,i2,i3⟩:=ih;exact⟨λd hd=>o9 hB hW h4 sW μ i2 i1 d hd,λd hd=>iH hB hW h4 sW hD μ i3 d hd,λe he he2=>x9 hB hW h4 sW μ i2 i1 e he he2⟩
theorem U2 (hB:Nj bs id l) {W:List (List UInt8)} (hW:(env R).G 1=some (FD W)) (h4:W.length=4) (sW:Short W) {dv:AV} {rows:List (List PV)} (hD:Decls dv rows) (vars:Nat) (hv:vars<=80) {m:List (List AV)} (hm:Kk bs m) {k:Nat} (hk:k<=l.length) (L:A8) (hro:L.ro<=id) (ts:List (Nat×Nat)) (EU:L.rt<=ts.length) :
  ∃v s',(∃t k' x,BJ t v/\LY 3 (8*(k'-k)+1) t/\k<=k'/\k'<=l.length/\s'=⟨ST bs id l k'++m,ts++x⟩)/\BD (env R) L 10 [.ptr id 0,dv,AA vars] ⟨ST bs id l k++m,ts⟩ v s':=by
 have hlen:=hB.len;have hlt:=hB.lt
 suffices H:∀(rr:Bool) (N:Nat) (Post:AV->AM->Prop),N=bs.length+m.length->(∀t v k' x,BJ t v->LY 3 (8*(k'-k)+1) t->k<=k'->k'<=l.length->Post v ⟨ST bs id l k'++m,ts++x⟩)->yC R 0 L.ro L.rt (.ptr id 0) dv (AA vars) ⟨ST bs id l k++m,ts⟩ (QM rr N Post) from
  m10 (by rfl) (H _ _ _ (by simp[Ft]) λt v k' x h1 h2 h3 h4=>⟨t,k',x,h1,h2,h3,h4,rfl⟩)
 intro rr N Post hN hP;refine AS4 ?_;simp only[CI,Di,Bo,Ft];refine Ck ((ADs hB hW h4 sW hD _).1 3 (by omega) (Y0 hm) hk vars (by omega) (W9 _) (Cv (env R) 10 0 L.ro L.rt) hro ts (by assumption)) ?_;rintro v s1 ⟨t,k3,x,hv,hb,Lb,L3,rfl⟩;exact UC (R:=R) (Post:=Post) (rr:=rr) (N:=N) (k:=k3) (ts:=ts++x) (Z:=Z4) (r:=[]) (L':=Cv (env R) 10 0 L.ro L.rt) hB hm rfl hN hro rfl hv (λy hy=>hP t y k3 x hy hb Lb L3)
end
def nA:List (List PV)->Bool
 | []=>true
 | r::l=>(match r with
  | .sc (.string a)::.sc (.int .i64 n)::rest=>rest.length==6&&(decide (0<=n)&&(decide (n<=2)&&(decide (a.data.size<2 ^ 50)&&(r.map AV.pv).all A9)))
  | _=>false)&&nA l
theorem We:∀{l:List (List PV)},nA l=true->∀r∈l,Yy r
 | [],_,r,h=>by cases h
 | r::l,hl,r',h=>by
  simp only[nA,AE] at hl;rcases A1.1 h with rfl|h
  .have h1:=hl.1
   split at h1
   .rename_i a n rest
    simp only[AE,DU,Jk] at h1;obtain⟨h1,h2,h3,h4,h5⟩:=h1;refine⟨a.data.toList,n.toNat,rest,?_,h1,by omega,by omega,h5⟩;have:((n.toNat:Nat):Int)=n:=by omega
    rw[this]
   grind
  .exact We hl.2 r' h
def AFt:Option AV->Bool
 | some (.AB rows)=>decide (rows.length<100)&&nA rows
 | _=>false
theorem ADt {R:Nat->Option (List PV)}:AFt (ZI (env R) 60 12 [])=true:=by kernel_rfl
theorem pE {R:Nat->Option (List PV)}:AL (env R) 12 [] λv=>∃rows,Decls v rows:=by
 have h:=ADt (R:=R);cases hv:ZI (env R) 60 12 [] with
 | none=>rw[hv] at h; cases h
 | some v=>
  rw[hv] at h;unfold AFt at h;split at h
  .rename_i rows he
   cases he;simp only[AE,DU] at h;exact⟨_,⟨rows,.inl (.AB _),We h.2,h.1⟩,λL s=>BD.je (SN (args':=[]) (by rfl) (by rfl) (by rfl) rfl hv L s)⟩
  grind
end Go.Proofs.YtpgfpakdnijngaaGreatDoor
