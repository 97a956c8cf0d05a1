/-
  Slices of branches.
-/
import Derived.Test.YtpgfpakdnijngaaGreatDoorTF
import Derived.Test.YtpgfpakdnijngaaGreatDoorTE
import Derived.Test.YtpgfpakdnijngaaGreatDoorW1
set_option linter.unusedSimpArgs false
set_option linter.unusedVariables false
namespace Go.Proofs.YtpgfpakdnijngaaGreatDoor
open Go.Tel
attribute [local simp] CX Cx MP MQ AX Df Ia wO setCells C2 FA DN Ca Bo alive Dx Hv KX nT Bi DF Bz Ib Fj Eo nU pY okB wX pZ wY pg wZ lu we wh wj wk wm wo wq wu wz w6 w7 okF w8 w9 xA xB xD Zh xE Ur Us Ut Uu xH xJ xK xN xO xQ xS xT xU xV Ic xW pn xX xY xZ xd pq xe xg xh xj xk Cn g0 g1 xI xL xM xF xG xC lf Y4 Y5
def NJ (lo:Nat) (bs:List (List AV)) (l:List Br) (a:AV):Prop:=(a=.AA []/\l=[])\/∃ id rows,lo<=id/\a=.ref id 0 l.length 5/\bs[id]?=some (List.flatten rows)/\CY (fun b row=>FD b (.agg row)) l rows/\l≠[]
theorem FD.cells {b:Br} {row:List AV} (h:FD b (.agg row)):row.length=5/\row.all Ar=true/\∀ n,AU n row=true:=by
 obtain⟨a,y,hy,ha,ht⟩:=h;cases hy;obtain⟨h1,h2,h3⟩:=ht.cells;exact⟨by simp[h1],by simp only[Ft,ha.ok,h2]; rfl,fun n=>by simp[AU,ha.Aa,h3]⟩
theorem FD.agg {b:Br} {x:AV} (h:FD b x):∃ row,x=.agg row:=by
 obtain⟨a,y,rfl,_⟩:=h;exact⟨_,rfl⟩
theorem M9 {l:List Br} {rows:List (List AV)} (h:CY (fun b row=>FD b (.agg row)) l rows):rows.flatten.length=l.length*5/\rows.flatten.all Ar=true/\∀ n,AU n rows.flatten=true:=by
 induction l generalizing rows with
 | nil=>
  cases rows with
  | nil=>exact⟨rfl,rfl,fun _=>rfl⟩
  | cons _ _=>exact h.elim
 | cons b l ih=>
  cases rows with
  | nil=>exact h.elim
  | cons row rows=>
   obtain⟨h1,h2⟩:=h;obtain⟨c1,c2,c3⟩:=h1.cells;obtain⟨i1,i2,i3⟩:=ih h2;refine⟨by rw[GO,Ab,c1,i1,A3]; omega,by rw[GO,OI,c2,i2]; rfl,fun n=>?_⟩;rw[GO]
   have gen:∀ (a b:List AV),AU n a=true->AU n b=true->AU n (a++b)=true:=by
    intro a
    induction a with
    | nil=>intro b _ h; exact h
    | cons x a U4=>
     intro b h1 h2;simp only[AU,AG] at h1;simp only[EZ,AU,h1.1,U4 b h1.2 h2,GR]
   exact gen _ _ (c3 n) (i3 n)
theorem NJ.Bk {lo:Nat} {s:AK} {l:List Br} {a:AV} (h:NJ lo s.bs l a):Bk s a=some l.length:=by
 rcases h with ⟨rfl,rfl⟩|⟨id,rows,h1,rfl,h2,h3,h4⟩
 ·rfl
 ·obtain⟨c1,_,_⟩:=M9 h3
  have hal:alive s id=true:=by
   have:rows.flatten≠[]:=by
    intro h;rw[h] at c1;cases l with
    | nil=>exact h4 rfl
    | cons _ _=>simp at c1
   obtain⟨c,r,hc⟩:=Mq this;exact A7 (by rw[h2,hc])
  simp only[Tel.Bk,hal,AE]
theorem NJ.mono {lo lo':Nat} {bs bs':List (List AV)} {l:List Br} {a:AV} (h:NJ lo bs l a) (hl:lo'<=lo) (hb:∀ j c,lo<=j->bs[j]?=some c->bs'[j]?=some c):NJ lo' bs' l a:=by
 rcases h with h|⟨id,rows,h1,h2,h3,h4,h5⟩
 ·exact .inl h
 ·exact .inr ⟨id,rows,Bh hl h1,h2,hb id _ h1 h3,h4,h5⟩
theorem AGA {b:Br} {row:List AV} (h:FD b (.agg row)) {s:AK} {K:AV->AK->Prop} (hK:K (.ref s.bs.length 0 1 5) ⟨s.bs++[row],s.ts⟩):D4 true s 5 [(.AA []),(AD 0),(SS []),(AD 0),(.AA [])] 1 [(0,5,.agg row)] K:=by
 obtain⟨a,y,hy,ha,ht⟩:=h;cases hy;rcases VM:b.body with ⟨k,n,i,ts⟩
 rw[VM] at ht;obtain⟨a2,hy,U1⟩:=ht;cases hy;simp[D4,Fh,B6,ha.ok,U1.ok];exact hK
theorem AGB {L:A0} {s:AK} {lo id':Nat} {a:AV} {l:List Br} {b:Br} {row:List AV} (hr:FD b (.agg row)) (hid:s.bs[id']?=some row) (ha:NJ lo s.bs l a) (hro:L.ro=0) (hl:l.length<2 ^ 30) {K:AV->AK->Prop}
  (h:∀ a' bs',NJ lo bs' (l++[b]) a'->(∀ j c,(∀ n,a≠.ref j 0 n 5)->s.bs[j]?=some c->bs'[j]?=some c)->s.bs.length<=bs'.length->(B9 s->B9 ⟨bs',s.ts⟩)->(lo<=s.bs.length->K a' ⟨bs',s.ts⟩)) (hlo:lo<=s.bs.length) :
  E1 true L s 45 5 80 a (.ref id' 0 1 5) K:=by
 obtain⟨c1,c2,c3⟩:=hr.cells
 have hal:alive s id'=true:=by
  obtain⟨c,r,hc⟩:=Mq (l:=row) (by rintro rfl; cases c1);exact A7 (by rw[hid,hc])
 have hsrc:C8 s 5 (.ref id' 0 1 5)=some row:=by
  simp only[C8,hid];rw[if_pos (by simp[-alive,c1,hal]),Fv,CL (by omega)]
 unfold E1;rw[hsrc];obtain⟨c,cs,hc⟩:=Mq (l:=row) (by rintro rfl; cases c1);subst hc;simp only[wO];have hdiv:(c::cs).length / 5=1:=by rw[c1]
 rw[hdiv];refine⟨c2,?_⟩;rcases ha with ⟨rfl,rfl⟩|⟨id,rows,h1,rfl,h2,h3,h4⟩
 ·refine⟨⟨by simp,by simp,by simp⟩,?_⟩
  simp only[AE,List.flatten_nil,EM,Di];refine h (.ref s.bs.length 0 1 5) (s.bs++[c::cs]) (.inr ⟨s.bs.length,[c::cs],hlo,rfl,by simp,⟨hr,Al⟩,by simp⟩) (fun j c _ hj=>A6 hj _) (by simp) (fun hs=>B9.app (s:=s) hs (c3 _)) hlo
 ·obtain⟨r1,r2,r3⟩:=M9 h3
  have Oc:=(Ae.1 h2).1
  have APT:alive s id=true:=by
   have:rows.flatten≠[]:=by
    intro h;rw[h] at r1;cases l with
    | nil=>exact h4 rfl
    | cons _ _=>simp at r1
   obtain⟨c,r,hc⟩:=Mq this;exact A7 (by rw[h2,hc])
  simp only[h2];refine⟨⟨Al,Al,by omega,APT,by omega,by omega,by omega⟩,?_⟩;have et:rows.flatten.take (l.length*5)=rows.flatten:=CL (by omega);rw[et];have zi:CY (fun b row=>FD b (.agg row)) (l++[b]) (rows++[c::cs]):=CY.append h3 ⟨hr,Al⟩;refine h (.ref s.bs.length 0 (l.length+1) 5) (s.bs.set id []++[rows.flatten++(c::cs)]) (.inr ⟨s.bs.length,rows++[c::cs],hlo,by simp,?_,zi,by simp⟩) (fun j c hn hj=>?_) (by simp) (fun hs=>?_) hlo
  ·rw[CV (by simp)]
   simp
  ·have:id≠j:=fun e=>hn l.length (by rw[e])
   rw[BA (by simpa using(Ae.1 hj).1),Cd this];exact hj
  ·have h5:B9 ⟨s.bs.set id [],s.ts⟩:=B9.set (s:=s) hs (by rfl) _
   refine B9.app (s:=⟨s.bs.set id [],s.ts⟩) h5 ?_
   have gen:∀ n (a b:List AV),AU n a=true->AU n b=true->AU n (a++b)=true:=by
    intro n a
    induction a with
    | nil=>intro b _ h; exact h
    | cons x a U4=>
     intro b h1 h2;simp only[AU,AG] at h1;simp only[EZ,AU,h1.1,U4 b h1.2 h2,GR]
   exact gen _ _ _ (r3 _) (c3 _)
section
variable {R:RT}
theorem FD.closed {b:Br} {x:AV} (h:FD b x):∃ x',AN [] 0 0 [x]=some [x']/\AN [] 0 0 [x']=some [x']/\mC b x':=by
 obtain⟨a,y,rfl,ha,ht⟩:=h;rcases hb:b.body with ⟨k,n,i,ts⟩
 rw[hb] at ht;obtain⟨a2,hy,U1⟩:=ht;cases hy;obtain⟨a',h1,h2⟩:=ha.closed [] 0;obtain⟨a2',h3,h4⟩:=U1.closed [] 0;refine⟨.agg [a',AD k,SS n,AD i,a2'],by simp[h1,h3],by simp[h2.close,h4.close],?_⟩;exact⟨a',[AD k,SS n,AD i,a2'],rfl,h2,by rw[hb]; exact⟨a2',rfl,h4⟩⟩
theorem N8 {b:Br} (h:size b.body<2 ^ 38) (hl:b.bounds.length<2 ^ 38) (hc:(Ap b.body).length<2 ^ 40) {x:AV} (hx:FD b x):AW (env R) 46 [x] fun r=>r=BB (decide (b.bounds.length<=6)&&decide ((Ap b.body).length<=3)):=by
 obtain⟨x',h1,h2,h3⟩:=hx.closed;exact AW.open (args':=[x']) (by kernel_rfl) (by kernel_rfl) rfl h1 h2 (PN h hl hc h3)
end
section
variable {R:RT}
theorem sQ {α:Type} {row:α->List PV} (hrow:∀ a,(row a).length=4) {f:FuncId} {cs:List AV} {g:α->Bool} {ts:List α} {y:AV} (hy:BO y (ts.map row)) (hl:ts.length<2 ^ 60) {s:AK} (hf:∀ t∈ts,∀ L,BC (env R) L f (.agg ((row t).map .pv)::cs) s (BB (g t)) s) {n0 ro rt:Nat} {QR:QT} :
  ∀ (j q:Nat),q+j=ts.length->(∀ i:Int,decide (0<=i)=(ts.drop q).any g->QR (AD i) s)->P7 R n0 ro rt y (.func (.func f) [] cs) (AD ts.length) (AD q) s QR:=by
 intro j
 induction j with
 | zero=>
  intro q hi hP;refine P8 (BE ?_);rw[A9 (by omega)];refine BQ (eH ?_);have h2:ts.drop q=[]:=Cf (by omega);rw[h2] at hP;exact hP (-1) (by simp)
 | succ j Gs=>
  intro q hi hP;refine P8 (BE ?_);rw[Au (by omega)];refine BZ (eI ?_);obtain⟨t,ht⟩:∃ t,ts[q]?=some t:=⟨_,Ak (by omega)⟩;rw[drop_cons ht] at hP;refine B7 hy (row:=row t) (by omega) (by simp[ht]) (hrow t) (by omega) ?_;have hc:=hf t (BK ht)
  have e4:∀ K:AV->Prop,K (.agg ((row t).map .pv))->FA (env R) s (some 4) (.DK (row t) 0) K:=by
   intro K hK;simp only[FA,DN,Fv,xL,xM,xF,xG];refine⟨by rw[AZ,hrow]; omega,?_⟩;rw[CL (by rw[AZ,hrow]; omega)];exact hK
  refine e4 _ ?_;refine⟨BB (g t),s,hc _,?_⟩;cases hg:g t with
  | true=>exact BZ (hP q (by simp[hg]))
  | false=>
   refine BQ (eJ (Cr (by omega) (by omega) ?_));simp only[J0,hg,HH] at hP;have:=Gs (q+1) (by omega) hP;simpa using this
theorem U5 {α:Type} {row:α->List PV} (hrow:∀ a,(row a).length=4) {f:FuncId} {cs:List AV} {g:α->Bool} {ts:List α} {y:AV} (hy:BO y (ts.map row)) (hl:ts.length<2 ^ 60) {s:AK} (hs:B9 s) (hcs:BN cs=false) (hf:∀ t∈ts,∀ L,BC (env R) L f (.agg ((row t).map .pv)::cs) s (BB (g t)) s) (L:A0) :
  BC (env R) L 94 [y,.func (.func f) [] cs] s (BB (ts.any g)) s:=by
 have hi:∀ L,∃ i:Int,decide (0<=i)=ts.any g/\BC (env R) L 125 [y,.func (.func f) [] cs] s (AD i) s:=by
  intro L
  obtain⟨v,s',⟨i,rfl,rfl,h⟩,hc⟩:=AId (R:=R) (L:=L) (s:=s) (t0:=y) (t1:=.func (.func f) [] cs) (Post:=fun v s'=>∃ i:Int,v=AD i/\s'=s/\decide (0<=i)=ts.any g) (by simp[BN,Dl,hcs]) (eK (BS (n:=ts.length) (by rw[hy.Bk,AZ]) (sQ hrow hy hl hf ts.length 0 (by omega) fun i h=>by
   have:=JH (rr:=L.rr 125) hs (m:=[]) (p:=.sc (.int .i64 i)) (Post:=fun v s'=>∃ i:Int,v=AD i/\s'=s/\decide (0<=i)=ts.any g) ⟨i,rfl,rfl,by simpa using h⟩;simpa using this)))
  exact⟨i,h,hc⟩
 obtain⟨v,s',⟨rfl,rfl⟩,hc⟩:=m94 (R:=R) (L:=L) (s:=s) (t0:=y) (t1:=.func (.func f) [] cs) (Post:=fun v s'=>v=BB (ts.any g)/\s'=s) (by simp[BN,Dl,hcs]) (qB (by
  obtain⟨i,h,hc⟩:=hi (Ca (env R) 94 0 L.ro L.rt);refine⟨AD i,s,hc,QF ?_⟩;have:=JH (rr:=L.rr 94) hs (m:=[]) (p:=.sc (.bool (ts.any g))) (Post:=fun v s'=>v=BB (ts.any g)/\s'=s) ⟨rfl,rfl⟩;have e:decide (i>=0)=ts.any g:=h;rw[e];simpa using this))
 exact hc
theorem AGC {t u:Ty} (hsz:size t<2 ^ 38) {p:Nat} {s:AK} (hs:B9 s) (hp:s.bs[p]?=some ((Ah u).map .pv)) (L:A0):∃ b:Bool,(b=true<->t=u)/\BC (env R) L 95 [.agg ((Ah t).map .pv),.ptr p 0] s (BB b) s:=by
 have heq:=fU (R:=R) hsz (Bp.Ci t) (Bp.Ci u);have hrl:((Ah t).map AV.pv).length=4:=by rw[AZ,Am]
 have cn:((Ah u).map AV.pv).length=4:=by rw[AZ,Am]
 have hro:=DZ t;obtain⟨v0,⟨b,rfl,hb⟩,cB⟩:=heq;refine⟨b,hb,?_⟩;generalize (Ah t).map AV.pv=r at cB hrl hro;generalize (Ah u).map AV.pv=r2 at cB cn hp;obtain⟨v,s',⟨rfl,rfl⟩,hc⟩:=m95 (R:=R) (L:=L) (s:=s) (t0:=.agg r) (t1:=.ptr p 0) (Post:=fun v s'=>v=BB b/\s'=s) (by simp[BN,Dl]) (AJs (DY (cs:=r) rfl hro (Az (Ay s.bs r) hrl (Az (A6 hp r) cn ⟨_,_,cB _ _,JH hs (m:=[r]) (p:=.sc (.bool b)) ⟨rfl,rfl⟩⟩))));exact hc
def XOk (R:RT) (t:Ty) (o:List Br×Int):Prop:=∀ x,Ba t x->∀ s,B9 s->∀ L:A0,L.n0=0->L.ro=0->L.rt=0 ->
 ∃ v s',(∃ a,v=.tuple [a,AD o.2]/\NJ s.bs.length s'.bs o.1 a/\s'.bs.take s.bs.length=s.bs/\s.bs.length<=s'.bs.length/\Ew (.AA []) (.AA []) s.ts s'.ts/\B9 s')/\BC (env R) L 14 [x] s v s'
theorem zj {X:Ty->List Br×Int} {ts:List Ty} {y:AV} (hy:BP y (AQ ts)) (hl:ts.length<2 ^ 30) (hsz:∀ t∈ts,size t<2 ^ 38) (hx:∀ t∈ts,XOk R t (X t)) {Post:AV->Prop} (hP:Post (BB (ts.all fun t=>HS (X t)))) :
  ∀ (j p:Nat) (ck:List Ty) (s:AK) (b:AV),p+j=ts.length->ck.length<=p->(∀ t∈ck,t∈ts/\HS (X t)=true)->(ts.all fun t=>HS (X t))=((ts.drop p).all fun t=>HS (X t))->B9 s->Ex 0 s.ts 25 b (AQ ck) ->
   j8 R 0 0 0 b y (AD ts.length) (AD p) s (QP Post):=by
 classical
 intro j
 induction j with
 | zero=>
  intro p ck s b hi Bu hck hall hs hb;refine ABL (BE ?_);rw[A9 (by omega)];rw[Cf (by omega)] at hall;rw[hall] at hP;exact BQ (AJv ⟨_,Ic,hP⟩)
 | succ j Gs=>
  intro p ck s b hi Bu hck hall hs hb;refine ABL (BE ?_);rw[Au (by omega)];obtain⟨t,ht⟩:∃ t,ts[p]?=some t:=⟨_,Ak (by omega)⟩;have dy:=BK ht;rw[drop_cons ht,Ft] at hall;have hrl:((Ah t).map AV.pv).length=4:=by rw[AZ,Am]
  have hro:=DZ t
  have L3:AU (s.bs.length+1) ((Ah t).map AV.pv)=true:=by
   obtain⟨k1,n1,i1,t1⟩:=t;simp[Ah,AU,Aa]
  refine BZ (AJw (CS hy (row:=Ah t) (by omega) (by simpa using CA ht) (Am _) (by omega) (EU (Cj ?_))));obtain⟨bs,tk⟩:=s;refine Ck (Ay bs Z4) hrl rfl (by decide) (AM _) hro (.inl (AM _)) ?_;have e1:(bs++[Z4]).set bs.length ((Ah t).map AV.pv)=bs++[(Ah t).map AV.pv]:=by simp
  rw[e1];have hs1:B9 ⟨bs++[(Ah t).map AV.pv],tk⟩:=B9.app (s:=⟨bs,tk⟩) hs L3;have gr:=Ay bs ((Ah t).map AV.pv)
  have AJx:∀ u∈ck,∀ L,BC (env R) L 95 [.agg ((Ah u).map .pv),.ptr bs.length 0] ⟨bs++[(Ah t).map AV.pv],tk⟩ (BB (decide (u=t))) ⟨bs++[(Ah t).map AV.pv],tk⟩:=by
   intro u hu L;obtain⟨b',h1,h2⟩:=AGC (R:=R) (t:=u) (u:=t) (hsz u (hck u hu).1) hs1 gr L
   have:b'=decide (u=t):=by
    rw[C0,h1,BT]
   rwa [<-this]
  have sR:=hb.BG;rw[Ie] at sR;refine⟨_,_,U5 (fun t=>Am t) sR (by omega) hs1 rfl AJx _,?_⟩;cases hm:ck.any (fun u=>decide (u=t)) with
  | true=>
   obtain⟨u,hu,hut⟩:=HG.1 hm;have:u=t:=by simpa using hut
   subst this;have hok:=(hck u hu).2;refine BZ (ABM (Cr (by omega) (by omega) ?_));have:=Gs (p+1) ck ⟨bs++[(Ah u).map AV.pv],tk⟩ b (by omega) (by omega) hck (by rw[hall,hok,Ec]) hs1 hb;simpa using this
  | false=>
   refine BQ (AJy (Az gr hrl (Iu (Bp.Ci t).jO ⟨by decide,M6 hb rfl (by omega) fun b' Lg hb' Hl=>Az gr hrl ?_⟩)));have hs2:B9 ⟨bs++[(Ah t).map AV.pv],Lg⟩:=hs1;obtain⟨v,s',⟨a,rfl,x1,x2,x3,x4,x5⟩,x6⟩:=hx t dy _ (Bp.Ci t).jO ⟨bs++[(Ah t).map AV.pv],Lg⟩ hs2 (Ca (env R) 47 0 0 0) rfl rfl rfl;refine⟨_,_,x6,Bq rfl (Bq rfl (Fk ?_))⟩
   have fail:HS (X t)=false->(QP Post) (BB false) s':=fun h=>by
    rw[hall,h,E2] at hP;exact⟨_,Ic,hP⟩
   cases h0:(X t).2==0 with
   | false=>
    have:((X t).2 != 0)=true:=by simp[bne,h0]
    rw[this];exact Bv (Bv (Bv (pk (BZ (fail (by simp[HS,h0]))))))
   | true=>
    have:((X t).2 != 0)=false:=by simp[bne,h0]
    rw[this];refine A8 (A8 (BS x1.Bk (A8 (Je (pk ?_)))))
    by_cases h4:(X t).1.length<=4
    ·rw[A9 (by omega)]
     refine BQ (ABM (Cr (by omega) (by omega) ?_));have AJz:HS (X t)=true:=by simp[HS,h0,h4]
     have:=Gs (p+1) (ck++[t]) s' b' (by omega) (by simp; omega) (fun u hu=>by
      rcases BL.1 hu with hu|hu
      ·exact hck u hu
      ·rw[Bj.1 hu]
       exact⟨dy,AJz⟩) (by rw[hall,AJz,Ec]) x5 (x4.keep hb' fun _ h=>by cases h)
     simpa using this
    ·rw[Au (by omega)]
     exact BZ (fail (by simp[HS,h4]))
theorem Qa {X:Ty->List Br×Int} {ts:List Ty} {y:AV} (hy:BP y (AQ ts)) (hl:ts.length<2 ^ 30) (hsz:∀ t∈ts,size t<2 ^ 38) (hx:∀ t∈ts,XOk R t (X t)):AW (env R) 47 [y] fun r=>r=BB (ts.all fun t=>HS (X t)):=by
 refine e47 (u0:=y) (by simp[AN,hy.close]) (AJ0 (BS (n:=ts.length) (by rw[hy.Bk,Ad]) ?_));exact zj (Post:=fun r=>r=BB (ts.all fun t=>HS (X t))) hy hl hsz hx rfl ts.length 0 [] ⟨[],[]⟩ (.AA []) (by omega) (AM _) (fun t h=>by cases h) rfl (fun b hb=>by cases hb) (.inl rfl)
theorem PU {X:Ty->List Br×Int} {ts:List Ty} {y:AV} (hy:BO y (AQ ts)) (hl:ts.length<2 ^ 30) (hsz:∀ t∈ts,size t<2 ^ 38) (hx:∀ t∈ts,XOk R t (X t)):AW (env R) 47 [y] fun r=>r=BB (ts.all fun t=>HS (X t)):=by
 obtain⟨y',h1,h2⟩:=hy.closed [] 0;exact AW.open (args':=[y']) (by kernel_rfl) (by kernel_rfl) rfl (by simp[AN,h1]) (by simp[AN,h2.close]) (Qa h2 hl hsz hx)
end
theorem zk {L:A0} {s:AK} {id:Nat} {cs:List AV} {K:AK->Prop} (hb:s.bs[id]?=some Z5) (hk:cs.length=5) (hro:L.ro<=id) (hok:cs.all Ar=true) (hn:L.n0<=id) (h:K ⟨s.bs.set id cs,s.ts⟩):C2 L s 5 (.ptr id 0) (.agg cs) K:=
 Ck hb hk rfl (by decide) hro hok (.inl hn) h
theorem zl {B:List Ty} {p:Ty} (ht:H6 B.length p=true):∀ b∈(KH B p).bounds,b∈B:=by
 intro b hb;have hb:b∈(Lb B.length p []).2.map fun x=>B.getD x nW:=hb
 obtain⟨x,hx,rfl⟩:=Bb.1 hb;have h1:=fE p [] ht (fun x hx=>by cases hx) x hx;rw[J4,Ak h1];exact XH h1
section
variable {R:RT}
theorem zm (hn:TC R) {B:List Ty} (jY:B.length<=2 ^ 37) (hB:∀ t∈B,size t<2 ^ 38/\cw t=true) {ps:List Ty} (JM:ps.length<=32) (hps:∀ p∈ps,size p<2 ^ 37/\H6 B.length p=true) {a:AV} (ha:BO a (AQ (Bx ps))) {n e:Nat} {X:List (List AV)} {d:AV} (hX:X[e]?=some [d,AD 32]) (hd:BO d (AQ B)) {mH:List (Nat×Nat)} {QR:QT}
  (hF:(ps.map (KH B)).all jg=false->∀ bs tk,B9 ⟨bs,tk⟩->bs.take n=X->n<=bs.length->Ew (.AA []) (.AA []) mH tk->QR (.tuple [.AA [],AD 4]) ⟨bs,tk⟩)
  (hS:(ps.map (KH B)).all jg=true->∀ bs tk t7 t8,B9 ⟨bs,tk⟩->bs.take n=X->n<=bs.length->Ew (.AA []) (.AA []) mH tk->NJ n bs (ps.map (KH B)) t7->BO t8 (AQ ((ps.map (KH B)).flatMap Br.bounds))->sS R 0 0 0 t7 t8 ⟨bs,tk⟩ QR) :
  ∀ (j p:Nat) (bs:List (List AV)) (tk:List (Nat×Nat)) (t7 t8:AV),p+j=ps.length->B9 ⟨bs,tk⟩->bs.take n=X->n<=bs.length->NJ n bs ((ps.take p).map (KH B)) t7->Ex 0 tk 25 t8 (AQ (((ps.take p).map (KH B)).flatMap Br.bounds))->((ps.take p).map (KH B)).all jg=true->(((ps.take p).map (KH B)).flatMap Br.bounds).length<=6*p->Ew (.AA []) (.AA []) mH tk->ES t8 mH ->
   j9 R 0 0 0 (.ptr e 0) t7 t8 a (AD ps.length) (AD p) ⟨bs,tk⟩ QR:=by
 intro j
 induction j with
 | zero=>
  intro p bs tk t7 t8 hi hs hT OH h7 h8 hw hl6 hch hfr;refine ABN (BE ?_);rw[A9 (by omega)];rw[CL (by omega)] at h7 h8 hw;exact BQ (hS hw bs tk t7 t8 hs hT OH hch h7 h8.BG)
 | succ j Gs=>
  intro p bs tk t7 t8 hi hs hT OH h7 h8 hw hl6 hch hfr;refine ABN (BE ?_);rw[Au (by omega)];obtain⟨c,hc⟩:∃ c,ps[p]?=some c:=⟨_,Ak (by omega)⟩;have Pv:=BK hc;obtain⟨c1,c2⟩:=hps c Pv;have hrc:(Bx ps)[p]?=some (ren c):=by rw[Bf]; simp[hc]
  have hrl:((Ah (ren c)).map AV.pv).length=4:=by rw[AZ,Am]
  have hro:=DZ (ren c)
  have L3:AU (bs.length+1) ((Ah (ren c)).map AV.pv)=true:=by
   obtain⟨k1,n1,i1,t1⟩:=ren c;simp[Ah,AU,Aa]
  have JJ:=Bp.Ci (ren c);have RL:ps.take (p+1)=ps.take p++[c]:=by rw[Gr,hc]; rfl
  refine BZ (AJ1 (B7 ha (row:=Ah (ren c)) (by omega) (by simpa using CA hrc) (Am _) (by omega) (EU (Cj ?_))));generalize (Ah (ren c)).map AV.pv=row at hrl hro L3 JJ;refine Ck (Ay bs Z4) hrl rfl (by decide) (AM _) hro (.inl (AM _)) ?_;have e1:(bs++[Z4]).set bs.length row=bs++[row]:=by simp
  rw[e1];have hs1:B9 ⟨bs++[row],tk⟩:=B9.app (s:=⟨bs,tk⟩) hs L3;have gr:=Ay bs row;have YR:=(Gu OH row).trans hT;have lb:(bs++[row]).length=bs.length+1:=by simp
  have h71:NJ n (bs++[row]) ((ps.take p).map (KH B)) t7:=h7.mono (AL _) fun j c _ hj=>A6 hj _
  generalize bs++[row]=b1 at hs1 gr YR lb h71;have gE1:b1[e]?=some [d,AD 32]:=Dh YR hX;obtain⟨w,s',⟨Qo,r1,r2,rfl⟩,r3⟩:=bA (R:=R) hn (L:=Ca (env R) 14 0 0 0) (p:=c) (s:=⟨b1,tk⟩) (by omega) hB (by omega) c2 JJ hs1 gE1 hd rfl rfl;refine Az gr hrl ⟨_,_,r3,?_⟩;obtain⟨zn,rfl⟩:=r1.agg;obtain⟨q1,q2,q3⟩:=r1.cells;have h81:=r2.keep h8 (fun _ h=>by cases h);have mE:=hch.trans r2;refine Cj (zk (Ay b1 Z5) q1 (AM _) q2 (AM _) ?_);have e2:(b1++[Z5]).set b1.length zn=b1++[zn]:=by simp
  show FA _ ⟨(b1++[Z5]).set b1.length zn,Qo⟩ _ _ _
  rw[e2];have hs2:B9 ⟨b1++[zn],Qo⟩:=B9.app (s:=⟨b1,tk⟩) hs1 (q3 _);have g5:=Ay b1 zn;have RD:=(Gu (n:=n) (by omega) zn).trans YR;have h72:NJ n (b1++[zn]) ((ps.take p).map (KH B)) t7:=h71.mono (AL _) fun j c _ hj=>A6 hj _
  have lb2:(b1++[zn]).length=b1.length+1:=by simp
  have h7n:∀ m,t7≠.ref b1.length 0 m 5:=by
   intro m h;rcases h71 with ⟨h1,_⟩|⟨id,rows,_,h1,h2,_⟩
   ·rw[h] at h1; cases h1
   ·rw[h] at h1
    cases h1;have:=(Ae.1 h2).1;omega
  generalize b1++[zn]=b2 at hs2 g5 RD h72 lb2;have hsz:=rG B c;have hcv:=QU (KH B c).body;refine Az g5 q1 (AI (N8 (by omega) (by omega) (by omega) r1) ?_);rintro _ rfl;have ew:(decide ((KH B c).bounds.length<=6)&&decide ((Ap (KH B c).body).length<=3))=jg (KH B c):=rfl;rw[ew];refine nt ?_;cases hwc:jg (KH B c) with
  | false=>
   refine BZ (hF ?_ _ _ hs2 RD (by omega) mE);rw[List.all_eq_false];exact⟨KH B c,Ed Pv,by rw[hwc]; decide⟩
  | true=>
   have hb6:(KH B c).bounds.length<=6:=by
    simp only[jg,AG,BT] at hwc;exact hwc.1
   obtain⟨a5,y5,hy5,ha5,_⟩:=id r1;cases hy5;refine BQ (AJ2 (Az g5 q1 (AGA r1 ⟨by decide,?_⟩)));have g5b:=A6 g5 (a5::y5);have hs3:B9 ⟨b2++[a5::y5],Qo⟩:=B9.app (s:=⟨b2,Qo⟩) hs2 (q3 _);have h73:NJ n (b2++[a5::y5]) ((ps.take p).map (KH B)) t7:=h72.mono (AL _) fun j c _ hj=>A6 hj _
   refine AGB (s:=⟨b2++[a5::y5],Qo⟩) r1 (Ay b2 _) h73 rfl (by rw[AZ,DU]; omega) ?_ (by simp; omega);intro a' bs' NF MA hb3 hb4 _;have hs4:=hb4 hs3;have g5c:=MA b1.length _ h7n g5b
   have hT4:bs'.take n=X:=by
    rw[<-RD];refine K8 fun j=>?_
    by_cases hj:j<n
    ·rw[OO hj,OO hj]
     have hj2:j<b2.length:=by omega
     have h1:(b2++[a5::y5])[j]?=some b2[j]:=by rw[BA hj2,Ak hj2]
     rw[MA j _ (fun m h=>by
      rcases h73 with ⟨h2,_⟩|⟨id,rows,h2,h3,_⟩
      ·rw[h] at h2; cases h2
      ·rw[h] at h3
       cases h3;omega) h1,Ak hj2]
    ·rw[Ea (by rw[DU]; omega),Ea (by rw[DU]; omega)]
   have AJ3:n<=bs'.length:=by
    simp only[Ab,A3,BV] at hb3;omega
   refine Aq (A7 g5c) (Ax (off:=0) g5c rfl ⟨by decide,Jl (l:=(KH B c).bounds) h81 rfl (by omega) ha5 fun t8' N2 x1 x2=>?_⟩);have sa:=BO.Cu (es:=(KH B c).bounds) ha5;refine⟨Aq (A7 g5) (HR _ _),Aq (A7 g5b) (HR _ _),Ax (off:=0) g5 rfl sa,Ax (off:=0) g5b rfl sa,AJ4 (Cr (by omega) (by omega) ?_)⟩;have em:(ps.take (p+1)).map (KH B)=(ps.take p).map (KH B)++[KH B c]:=by rw[RL]; simp
   have ef:((ps.take (p+1)).map (KH B)).flatMap Br.bounds=((ps.take p).map (KH B)).flatMap Br.bounds++(KH B c).bounds:=by rw[em]; simp
   have:=Gs (p+1) bs' N2 a' t8' (by omega) hs4 hT4 AJ3 (by rw[em]; exact NF) (by rw[ef]; exact x1) (by rw[em,OI,hw]; simp[hwc]) (by rw[ef,Ab]; omega) (mE.side x2 hfr) (hfr.V7 x2 mE.1);simpa using this
end
structure Fit (t:Ty):Prop where
 bws:C7 (bw t)
 wts:wt t<=2 ^ 27
 nbs:nb t<2 ^ 37
theorem Fit.sub {t b:Ty} (h:Fit t) (hb:Yd t b):Fit b:=⟨EX h.bws hb.bws,Bh hb.wts h.wts,XK hb.nbs h.nbs⟩
mutual
theorem WZ:∀ t:Ty,valid t=true->eT t
 | .mk k n i ts,h=>by
  have hn:=TR h;simp only[valid,AG] at h;rw[eT];exact⟨by unfold Zh; omega,Tu ts h.2⟩
theorem Tu:∀ l:List Ty,Bw l=true->Sz l
 | [],_=>trivial
 | t::l,h=>by
  simp only[Bw,AG] at h;rw[Sz];exact⟨WZ t h.1,Tu l h.2⟩
end
mutual
theorem Wa:∀ t:Ty,valid t=true->ixs t=true
 | .mk k n i ts,h=>by
  have hv:=h;simp only[valid,AG] at h;rw[ixs,Tv ts h.2];cases h5:k==5 with
  | false=>rfl
  | true=>
   have:k=5:=by simpa using h5
   subst this;have h1:=JN hv;have h2:=QK hv;have e1:decide (-(2 ^ 60)<=i)=true:=Au (by omega);have e2:decide (i<2 ^ 60)=true:=Au (by omega);rw[e1,e2];rfl
theorem Tv:∀ l:List Ty,Bw l=true->mN l=true
 | [],_=>rfl
 | t::l,h=>by
  simp only[Bw,AG] at h;rw[mN,Wa t h.1,Tv l h.2];rfl
end
theorem mR {t:Ty} (h:valid t=true) (hc:Dg 0 t=true):cw t=true:=by
 have:=TS [] t 0 h;rwa [Ek h hc] at this
section
variable {R:RT}
theorem Tw {t:Ty} (h:size t<2 ^ 60) (ho:eT t) {x:AV} (hx:Ba t x):AW (env R) 42 [x] fun r=>r=AD (verdict t):=by
 obtain⟨x',h1,h2⟩:=hx.closed [] 0;exact AW.open (args':=[x']) (by kernel_rfl) (by kernel_rfl) rfl (by simp[AN,h1]) (by simp[AN,h2.R3]) (Uy h ho h2)
theorem Tx {t:Ty} (h:size t<2 ^ 18) (SM:ixs t=true) {x:AV} (hx:Ba t x):AW (env R) 43 [x] fun r=>∃ l:List Int,BP r (A4 l)/\l.Pairwise (·<·)/\(∀ w,w∈l<->w∈bZ 0 t):=by
 obtain⟨x',h1,h2⟩:=hx.closed [] 0;exact AW.open (args':=[x']) (by kernel_rfl) (by kernel_rfl) rfl (by simp[AN,h1]) (by simp[AN,h2.R3]) (U3 h SM h2)
theorem fV (hn:TC R):∀ (f:Nat) (t:Ty),depth t<=f->size t<2 ^ 60->eT t->(verdict t=0->Fit t)->XOk R t (xP f t):=by
 intro f
 induction f with
 | zero=>
  intro t hd;obtain⟨k,n,i,ts⟩:=t;simp[depth] at hd
 | succ f ih=>
  intro t hd hsz hok hfit x hx s hs L hn0 hro Fz;have hv1:=Tw (R:=R) hsz hok hx;have wQ:=fun h1 h2=>Tx (R:=R) (t:=t) h1 h2 hx
  have hxO:=hx;obtain⟨xc,rfl⟩:=hxO.agg;obtain⟨c1,c2,c3⟩:=hxO.cells;have hT0:(s.bs++[xc]).take s.bs.length=s.bs:=by simp
  have hs1:B9 ⟨s.bs++[xc],s.ts⟩:=B9.app (s:=s) hs (c3 _);have g0:=Ay s.bs xc
  have fail:∀ (n:Int) (o:List Br×Int),o=([],n)->∀ bs ts,B9 ⟨bs,ts⟩->bs.take s.bs.length=s.bs->s.bs.length<=bs.length->Ew (.AA []) (.AA []) s.ts ts ->
    ∃ a,(AV.tuple [.AA [],AD n])=.tuple [a,AD o.2]/\NJ s.bs.length bs o.1 a/\bs.take s.bs.length=s.bs/\s.bs.length<=bs.length/\Ew (.AA []) (.AA []) s.ts ts/\B9 ⟨bs,ts⟩:=by
   rintro n o rfl bs ts h1 h2 h3 h4;exact⟨_,rfl,.inl ⟨rfl,rfl⟩,h2,h3,h4,h1⟩
  refine m14 ?_;rw[hn0,hro,Fz];refine AJ5 (DY (cs:=xc) rfl c2 (Az g0 c1 (AI hv1 ?_)));rintro _ rfl;refine Fk ?_;rw[xP];cases Y1:verdict t==0 with
  | false=>
   have:(verdict t != 0)=true:=by simp[bne,Y1]
   rw[this];refine Bv (Bv (Bv (Bv (pk (BZ ?_)))));exact fail 2 _ rfl _ _ hs1 hT0 (by simp) (Ew.refl _ _)
  | true=>
   have:(verdict t != 0)=false:=by simp[bne,Y1]
   rw[this];obtain⟨hv,ASY,hd12⟩:=Jm (by simpa using Y1);have hft:=hfit (by simpa using Y1);refine A8 (Az g0 c1 (A8 (AI (wQ (by omega) (Wa t hv)) ?_)));rintro v ⟨fl,hfl,hsrt,hmem⟩;refine A8 (BS (n:=fl.length) (by rw[hfl.Bk,Dy]) (A8 (Je (pk ?_))));cases hc:Dg 0 t with
   | false=>
    have hne:0<fl.length:=by
     rcases fl with _|⟨w,fl⟩
     ·exfalso
      have:bZ 0 t=[]:=by
       rcases hf:bZ 0 t with _|⟨w,l⟩
       ·rfl
       ·have:=(hmem w).2 (by rw[hf]; simp)
        cases this
      rw[(Tn t 0).1 this] at hc;cases hc
     ·simp
    rw[Au (by omega)];refine BZ ?_;exact fail 2 _ rfl _ _ hs1 hT0 (by simp) (Ew.refl _ _)
   | true=>
    have sO:fl=[]:=by
     rcases fl with _|⟨w,fl⟩
     ·rfl
     ·exfalso
      have:=(hmem w).1 (by simp);rw[(Tn t 0).2 hc] at this;cases this
    subst sO;rw[A9 (by simp)];simp only[Rf,Fu,AB];have sU:=bU (R:=R) hn (e:=s.bs.length+1) (Ao:=32) (M:=nb t) (by decide) (by decide) hft.nbs (depth t) t [] (AL _) hv hc (XK hft.wts (by decide)) (by omega) [] (fun x hx=>by cases hx);have hnb:=zZ (depth t) t [] [] hv hc hft.bws (fun x hx=>by cases hx);have hall:=Jh (Ai:=AR 32) (depth t) t [] (nb t) (qM (nb t));have hbd:=N6 (f:=depth t) hv hc;have N0:=Kv (Ai:=AR 32) (by simp[AR]) (depth t) t [];rw[Ek hv hc] at sU hnb;rw[M5 t hv] at sU
    have fM:Ev (fun i=>qM (nb t) i&&decide (i<(([]:List Ty).length:Nat))) t=true:=by
     have:=Jk (q:=fun i=>qM (nb t) i&&decide (i<(([]:List Ty).length:Nat))) (σ:=[]) (fun x hx=>by cases hx) t 0 hv;rwa [Ek hv hc] at this
    rcases he:Aj (AR 32) (depth t) t [] with ⟨r,B⟩
    rw[he] at sU hnb hall hbd N0;simp only[BV,CJ] at hnb;simp only at sU hall hbd N0;refine BQ (AJ6 (Q7 (cs:=[.AA [],AD 32]) rfl (DY (cs:=[.AA [],AD 32]) rfl rfl ?_)))
    have gE:(s.bs++[xc]++[[.AA [],AD 32]])[s.bs.length+1]?=some [.AA [],AD 32]:=by
     have:=Ay (s.bs++[xc]) [.AA [],AD 32];rwa [Ab,A3,BV] at this
    have g02:=A6 g0 [.AA [],AD 32];have hs2:B9 ⟨s.bs++[xc]++[[.AA [],AD 32]],s.ts⟩:=B9.app (s:=⟨s.bs++[xc],s.ts⟩) hs1 rfl;have hlen:(s.bs++[xc]++[[.AA [],AD 32]]).length=s.bs.length+2:=by simp
    have hX:(s.bs++[xc]++[[.AA [],AD 32]]).take (s.bs.length+2)=s.bs++[xc]++[[.AA [],AD 32]]:=CL (by omega);have RD:(s.bs++[xc]++[[.AA [],AD 32]]).take s.bs.length=s.bs:=by simp
    have XS:(s.bs++[xc]).length=s.bs.length+1:=by simp
    rw[XS];generalize s.bs++[xc]++[[.AA [],AD 32]]=b2 at gE g02 hs2 hlen hX RD;obtain⟨w,s',⟨d',Qo,q1,q2,q3,rfl⟩,q4⟩:=sU hnb (.agg xc) hxO ⟨b2,s.ts⟩ hs2 (Ca (env R) 14 0 0 0) (.AA []) rfl rfl gE (.inl rfl);refine Az g02 c1 ⟨_,_,q4,?_⟩;have hs3:B9 ⟨b2.set (s.bs.length+1) [d',AD ((32:Nat):Int)],Qo⟩:=B9.set (s:=⟨b2,s.ts⟩) hs2 (by simp[AU,Aa,q2.BG.Aa]) _;have jh:(b2.set (s.bs.length+1) [d',AD ((32:Nat):Int)]).take s.bs.length=s.bs:=(Ff (by omega)).trans RD;have gE3:(b2.set (s.bs.length+1) [d',AD ((32:Nat):Int)])[s.bs.length+1]?=some [d',AD ((32:Nat):Int)]:=DH gE;have VN:(b2.set (s.bs.length+1) [d',AD ((32:Nat):Int)]).length=s.bs.length+2:=by simp[hlen]
    have hch:Ew (.AA []) (.AA []) s.ts Qo:=by
     obtain⟨h1,h2,h3⟩:=q3;exact⟨h1,fun t ht _=>h2 t ht (fun h=>by cases h),.inl rfl⟩
    generalize b2.set (s.bs.length+1) [d',AD ((32:Nat):Int)]=b3 at hs3 jh gE3 VN;cases r with
    | none=>
     cases q1;exact Bq rfl (Bq rfl (nt (BZ (fail 4 _ rfl b3 Qo hs3 jh (by omega) hch))))
    | some ps=>
     obtain⟨ya,rfl,YW⟩:=q1;simp only at q2;have JM:ps.length<=32:=by simpa[AR] using N0 ps rfl
     have hps:∀ p∈ps,size p<2 ^ 37/\H6 B.length p=true:=by
      intro p hp;obtain⟨h1,h2⟩:=hall ps (fun i h1 h2=>by simp only[BV] at h1; simp only[AG,BT]; omega) fM rfl hnb p hp;refine⟨by have:=hft.wts; omega,?_⟩
      obtain⟨h3,_⟩:=Jh (Ai:=AR 32) (depth t) t [] B.length (qM B.length) ps (fun i h1 h2=>by simp only[BV] at h1; simp only[AG,BT]; omega) (by
       have:=Jk (q:=fun i=>qM B.length i&&decide (i<(([]:List Ty).length:Nat))) (σ:=[]) (fun x hx=>by cases hx) t 0 hv;rwa [Ek hv hc] at this) (by rw[he]) (by rw[he]; exact AL _) p hp
      rw[M8];exact h3
     have hB:∀ b∈B,size b<2 ^ 38/\cw b=true:=by
      intro b hb;have h1:=hbd b hb;exact⟨by have:=h1.nX; omega,mR h1.val h1.cl⟩
     refine Bq rfl (Bq rfl (nt (BQ (AJ7 (BS (n:=ps.length) (by rw[YW.Bk,Ad,Bf,AZ]) ?_)))));have hBb:B.length<2 ^ 37:=XK hnb hft.nbs;refine zm hn (n:=s.bs.length+2) (X:=b3) (by omega) hB JM hps YW gE3 q2.BG (mH:=Qo) ?_ ?_ ps.length 0 b3 Qo (.AA []) (.AA []) (by omega) hs3 (CL (by omega)) (by omega) (.inl ⟨rfl,rfl⟩) (.inl rfl) rfl (by simp) (Ew.refl _ _) (ES.AA _ _)
     ·intro hall bs tk h1 h2 h3 h4
      have h5:bs.take s.bs.length=s.bs:=by
       have h9:(bs.take (s.bs.length+2)).take s.bs.length=b3.take s.bs.length:=by rw[h2]
       rwa [Rc,Jy (by omega),jh] at h9
      refine fail 4 _ ?_ bs tk h1 h5 (by omega) (hch.trans h4);simp only[hall,E2,AB]
     ·intro hall bs tk t7 t8 h1 h2 h3 h4 h6 h7
      have h5:bs.take s.bs.length=s.bs:=by
       have h9:(bs.take (s.bs.length+2)).take s.bs.length=b3.take s.bs.length:=by rw[h2]
       rwa [Rc,Jy (by omega),jh] at h9
      have hbm:∀ b∈(ps.map (KH B)).flatMap Br.bounds,Yd t b:=by
       intro b hb;obtain⟨br,sR,hb⟩:=LB.1 hb;obtain⟨p,hp,rfl⟩:=Bb.1 sR;exact hbd b (zl (hps p hp).2 b hb)
      have hfl:((ps.map (KH B)).flatMap Br.bounds).length<=6*32:=by
       have:∀ l:List Br,l.all jg=true->(l.flatMap Br.bounds).length<=6*l.length:=by
        intro l
        induction l with
        | nil=>intro _; simp
        | cons b l ihl=>
         intro h;simp only[Ft,AG] at h;have h1:=ihl h.2;have h2:=h.1;simp only[jg,AG,BT] at h2;rw[OV,Ab,A3];omega
       have h8:=this _ hall;rw[AZ] at h8;omega
      refine AJ8 (AI (PU (X:=xP f) h7 (by omega) (fun b hb=>by have:=(hbm b hb).nX; omega) (fun b hb=>?_)) ?_)
      ·have h8:=hbm b hb
       exact ih b (by have:=h8.dep; omega) (by have:=h8.nX; omega) (WZ b h8.val) (fun _=>hft.sub h8)
      ·rintro _ rfl
       refine nt ?_;cases RB:(((ps.map (KH B)).flatMap Br.bounds).all fun b=>HS (xP f b)) with
       | false=>
        refine BZ (fail 4 _ ?_ bs tk h1 h5 (by omega) (hch.trans h4));simp only[hall,RB,Bool.and_false,AB]
       | true=>
        refine BQ (AJ9 ?_);simp only[hall,RB,GR,AE];exact⟨t7,rfl,h6.mono (by omega) fun j c _ h=>h,h5,by omega,hch.trans h4,h1⟩
end
mutual
def vOk:Ty->Bool
 | .mk k n i ts=>bif k==5 then n==[]&&(ts.isEmpty&&(decide (-(2 ^ 60)<=i)&&decide (i<2 ^ 60))) else bif k==2||k==3 then AKA ts else true
def AKA:List Ty->Bool
 | []=>true
 | t::l=>vOk t&&AKA l
end
section
variable {R:RT}
theorem Tz (i:Int):AW (env R) 25 [AD i] fun r=>r=.agg [AD 5,SS [],AD i,.AA []]:=by
 refine e25 (u0:=AD i) (by simp) (AKB (Cj (Q7 (cs:=[AD 5,SS [],AD i,.AA []]) rfl ?_)));refine Ck (old:=Z4) rfl rfl rfl (by decide) (AM _) rfl (.inl (AM _)) (Az (cs:=[AD 5,SS [],AD i,.AA []]) rfl rfl ?_);exact⟨_,by simp,rfl⟩
end
mutual
def rcI (b:Ty):Ty->Int->Ty
 | .mk c n i ts,k=>bif c==5 then(bif k==0 then b else .mk c n i ts) else bif c==3 then .mk c n i (AKC b ts k) else .mk c n i ts
def AKC (b:Ty):List Ty->Int->List Ty
 | [],_=>[]
 | t::l,k=>rcI b t k::AKC b l (k-(Ap t).length)
end
theorem AKD {E:Env} {s:AK} {id:Nat} {a:AV} {cs:List AV} {K:AV->Prop} (hb:s.bs[id]?=some (a::cs)) (hk:cs.length=4) (h:K (.agg cs)):FA E s (some 4) (.ptr id (0+1)) K:=jU hb hk h
section
variable {R:RT}
theorem FD.M7 {b:Br} {row:List AV} (h:FD b (.agg row)) (bs:List (List AV)) (n m:Nat):∃ r',AN bs n m row=some r'/\FD b (.agg r'):=by
 obtain⟨a,y,he,ha,ht⟩:=h;cases he;obtain⟨a',h1,h2⟩:=ha.close bs n m;obtain⟨y',h3,h4⟩:=ht.M7 bs n m;exact⟨a'::y',by simp[AN,h1,h3],a',y',rfl,h2,h4⟩
end
theorem NJ.block {lo:Nat} {s:AK} {l:List Br} {id:Nat} {rows:List (List AV)} (h2:s.bs[id]?=some rows.flatten) (h3:CY (fun b row=>FD b (.agg row)) l rows) (h4:l≠[]):∃ c cs,rows.flatten=c::cs/\(c::cs).length=l.length*5/\(c::cs).all Ar=true/\(∀ n,AU n (c::cs)=true)/\alive s id=true:=by
 obtain⟨c1,c2,c3⟩:=M9 h3
 have:rows.flatten≠[]:=by
  intro h;rw[h] at c1;cases l with
  | nil=>exact h4 rfl
  | cons _ _=>simp at c1
 obtain⟨c,r,hc⟩:=Mq this;rw[hc] at c1 c2 c3 h2;exact⟨c,r,hc,c1,c2,c3,A7 h2⟩
theorem AGD {R:RT} {s:AK} {lo p:Nat} {l:List Br} {y:AV} {c:Br} (hy:NJ lo s.bs l y) (hc:l[p]?=some c) {K:AV->Prop} (hK:∀ row,FD c (.agg row)->K (.agg row)):Dc s 5 y (AD p) fun a=>FA (env R) s (some 5) a K:=by
 rcases hy with ⟨rfl,rfl⟩|⟨id,rows,h1,rfl,h2,h3,h4⟩
 ·simp at hc
 ·obtain⟨_,_,_,_,_,_,hal⟩:=NJ.block (lo:=lo) h2 h3 h4
  have hp:p<l.length:=(Ae.1 hc).1;refine⟨⟨by omega,by omega,rfl,hal⟩,?_⟩;simp only[FA,h2,wO,DN,xL,xM,xF,xG]
  have gen:∀ (l:List Br) (rows:List (List AV)) (p:Nat) (c:Br),CY (fun b row=>FD b (.agg row)) l rows->l[p]?=some c->∃ row,FD c (.agg row)/\p*5+5<=rows.flatten.length/\(rows.flatten.drop (p*5)).take 5=row:=by
   intro l
   induction l with
   | nil=>intro rows p c _ h; simp at h
   | cons b l ih=>
    intro rows p c h hc;cases rows with
    | nil=>exact h.elim
    | cons row rows=>
     obtain⟨h1,h2⟩:=h;obtain⟨c1,_,_⟩:=h1.cells;cases p with
     | zero=>
      have e:b=c:=by simpa using hc
      subst e;refine⟨row,h1,by rw[GO,Ab]; omega,?_⟩;rw[GO,Ml,Fv,<-c1,OS (AL _),RZ]
     | succ p=>
      obtain⟨row',i1,i2,i3⟩:=ih rows p c h2 (by simpa using hc);refine⟨row',i1,by rw[GO,Ab]; omega,?_⟩;have e5:(p+1)*5=row.length+p*5:=by omega
      rw[GO,e5,List.drop_append];have ed:row.drop (row.length+p*5)=[]:=Cf (by omega);have es:row.length+p*5-row.length=p*5:=by omega
      rw[ed,es,Di];exact i3
  obtain⟨row,i1,i2,i3⟩:=gen l rows p c h3 hc;have e:0+(p:Int).toNat*5=p*5:=by omega
  rw[e,i3];exact⟨i2,hK row i1⟩
end Go.Proofs.YtpgfpakdnijngaaGreatDoor
