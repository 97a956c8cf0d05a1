/-
  Branches and their types.
-/
import Derived.Test.YtpgfpakdnijngaaGreatDoorTI
import Derived.Test.YtpgfpakdnijngaaGreatDoorTH
import Derived.Test.YtpgfpakdnijngaaGreatDoorW1
set_option linter.all false
namespace Go.Proofs.YtpgfpakdnijngaaGreatDoor
open Go.Tel
mutual
theorem AAG:∀t:Ty,wP t=true->(∀i∈vis t,0<=i/\i<=200)->valid t=true/\plain t=true
 | .mk k n i ts,h,hi=>by
  rw[wP] at h;rw[vis] at hi;cases h5:k==5 with
  | true=>
   grind[plain,valid,A9,root,shape]
  | false=>
   rw[h5] at h hi;cases h2:k==2 with
   | true=>
    have:k=2:=AB;subst this;rw[h2] at h hi;simp only[AL,AN,AI,Dv] at h hi;obtain⟨q1,q2⟩:=Rj ts h.2 hi
    grind[nOk,plain,valid,root,shape]
   | false=>
    grind[Sl,plain]
theorem Rj:∀l:List Ty,WT l=true->(∀i∈DJ l,0<=i/\i<=200)->A9 l=true/\EX l=true
 | [],_,_=>⟨rfl,rfl⟩
 | t::l,h,hi=>by
  simp only[WT,AI] at h;rw[DJ] at hi;have h1:=AAG t h.1 λi hm=>hi i AB
  have h2:=Rj l h.2 λi hm=>hi i AB
  grind[A9,EX]
end
mutual
theorem gD:∀t:Ty,wB t=true->(∀i∈vis t,0<=i/\i<=200)->valid t=true
 | .mk k n i ts,h,hi=>by
  rw[wB] at h;rw[vis] at hi;cases h5:k==5 with
  | true=>
   grind[valid,A9,root,shape]
  | false=>
   rw[h5] at h hi;cases h0:k==0 with
   | true=>
    have:k=0:=AB;subst this;simp only[h0,AL,AN,AI,Gx,GN] at h;obtain⟨rfl,rfl,rfl⟩:=h;rfl
   | false=>
    rw[h0] at h;cases h2:k==2 with
    | true=>
     grind[Rj,nOk,valid,root,shape]
    | false=>
     rw[h2] at h hi;simp only[AL,AI,Gx,Cq] at h;obtain⟨rfl,rfl,rfl,h6,hl⟩:=h;have hi:∀i∈DJ ts,0<=i/\i<=200:=hi;have q:=Yh ts hl hi
     grind[valid,root,shape]
theorem Yh:∀l:List Ty,Me l=true->(∀i∈DJ l,0<=i/\i<=200)->A9 l=true
 | [],_,_=>rfl
 | t::l,h,hi=>by
  simp only[Me,AI] at h;rw[DJ] at hi;rw[A9,gD t h.1 λi hm=>hi i AB,Yh l h.2 λi hm=>hi i AB];rfl
end
mutual
theorem ATF (g:Int->Ty):∀t:Ty,wP t=true->Qc g true t=Bh g t
 | .mk k n i ts,h=>by
  rw[wP] at h;rw[Qc,Bh];cases h5:k==5 with
  | true=>rfl
  | false=>
   rw[h5] at h;cases h2:k==2 with
   | true=>
    rw[h2] at h;simp only[AL,AN,AI] at h;simp only[AL,AN,Dv,kW g ts h.2]
   | false=>
    rw[h2] at h;simp only[AL] at h;have:=Ie _ g h
    grind[Bh]
theorem kW (g:Int->Ty):∀l:List Ty,WT l=true->Vw g true l=Bq g l
 | [],_=>rfl
 | t::l,h=>by
  simp only[WT,AI] at h;rw[Vw,Bq,ATF g t h.1,kW g l h.2]
end
mutual
theorem AAH (g:Int->Ty):∀t:Ty,wB t=true->Qc g false t=Bh g t
 | .mk k n i ts,h=>by
  rw[wB] at h;rw[Qc,Bh];cases h5:k==5 with
  | true=>rfl
  | false=>
   rw[h5] at h;cases h2:k==2 with
   | true=>
    grind[kW]
   | false=>
    cases h3:k==3 with
    | true=>
     have h0:(k==0)=false:=AB;rw[h0,h2,h3] at h;simp only[AL,CY,AI] at h;simp only[AL,AN,PG,Ft,Du,KU,AAI g ts h.2.2.2]
    | false=>rfl
theorem AAI (g:Int->Ty):∀l:List Ty,Me l=true->Vw g false l=Bq g l
 | [],_=>rfl
 | t::l,h=>by
  simp only[Me,AI] at h;rw[Vw,Bq,AAH g t h.1,AAI g l h.2]
end
section
variable {b:Br} (hb:Cn b) (h6:b.bounds.length<=6)
include hb h6
theorem Cn.val:valid b.body=true:=gD _ hb.wb λi hi=>by
 have:=hb.vis i hi;omega
theorem Cn.pat:MH b.bounds.length b.body=tr (λi=>i.toNat) b.body:=by
 rw[MH,AAH _ _ hb.wb];refine Dg _ λi hi=>?_
 have h1:=hb.vis i hi
 grind[gQ]
theorem Cn.ocp (v:Nat) (hv:v<b.bounds.length):Cw v true (MH b.bounds.length b.body)=true:=by
 rw[hb.pat h6,TT _ _ _ (OM _ hb.wb)];refine bF (λi hi=>?_) _ (hb.inv v hv)
 grind
theorem Cn.num:K4 b.bounds.length (MH b.bounds.length b.body) []=(b.body,List.range b.bounds.length):=by
 have ho:=hb.occ;have hL:((List.range b.bounds.length).map λ(i:Nat)=>(i:Int)).Nodup:=by grind[HA]
 have hm:∀i∈(List.range b.bounds.length).map λ(i:Nat)=>(i:Int),∃j:Nat,j<b.bounds.length/\i=(j:Int):=AB
 have:=Z7 (N:=b.bounds.length) (U:=λi=>i.toNat) (L:=(List.range b.bounds.length).map λ(i:Nat)=>(i:Int)) hL (λi hi j hj he=>by grind) (λi hi=>by grind) b.body [] (OM _ hb.wb) AB;rw[hb.pat h6];rw[Cd] at this;rw[this,ho];congr 1
 .have e:=P1 b.body (OM _ hb.wb)
  conv=>rhs; rw[<-e]
  refine Dg _ λi hi=>?_
  obtain⟨h1,h2⟩:=hb.vis i hi;have:((List.range b.bounds.length).map λ(i:Nat)=>(i:Int))[i.toNat]?=some i:=AB
  grind[Kj]
 .rw[PB]
  have:((λi:Int=>i.toNat)∘λ(i:Nat)=>(i:Int))=id:=AR;rw[this,List.map_id]
theorem Cn.JY:JY b.bounds (MH b.bounds.length b.body)=b:=by
 rw[Go.Proofs.YtpgfpakdnijngaaGreatDoor.JY,hb.num h6];rcases b with ⟨bs,body⟩
 congr 1;refine FO λj=>?_
 grind
end
mutual
theorem AKv:∀t:Ty,wP t=true->(∀i∈vis t,0<=i)->∀w,w∈Qj 0 t<->w∈vis t
 | .mk k n i ts,h,hi,w=>by
  have E6:Sl (.mk k n i ts)=true->(w∈Qj 0 (.mk k n i ts)<->w∈vis (.mk k n i ts)):=λhc=>by grind[Zz,Sl,QK]
  rw[wP] at h;cases h5:k==5 with
  | true=>
   grind[vis,Qj,K2]
  | false=>
   rw[h5] at h;cases h2:k==2 with
   | true=>
    rw[h2] at h;simp only[AL,AN,AI] at h;have Zy:(k==6)=false:=AB;rw[vis,h5,h2] at hi;have:=bL ts k Zy 0 h.2 hi w
    grind[Qj,vis]
   | false=>
    grind
theorem bL:∀(l:List Ty) (k:Int) (_:(k==6)=false) (j:Nat),WT l=true->(∀i∈DJ l,0<=i)->∀w,w∈K2 0 k j l<->w∈DJ l
 | [],_,_,_,_,_,w=>by rfl
 | t::l,k,hk,j,h,hi,w=>by
  simp only[WT,AI] at h;rw[DJ] at hi;have e:0+ER k j=0:=by simp[ER,hk]
  have h1:=AKv t h.1 (λi hm=>hi i AB) w;have h2:=bL l k hk (j+1) h.2 (λi hm=>hi i AB) w
  grind[K2,DJ]
end
mutual
theorem kX:∀t:Ty,wB t=true->(∀i∈vis t,0<=i)->∀w,w∈Qj 0 t<->w∈vis t
 | .mk k n i ts,h,hi,w=>by
  have h':=h;rw[wB] at h;cases h5:k==5 with
  | true=>
   grind[vis,Qj,K2]
  | false=>
   rw[h5] at h;have Zy:(k==6)=false:=AB;cases h2:k==2 with
   | true=>
    grind[vis,bL,Qj]
   | false=>
    cases h3:k==3 with
    | true=>
     have h0:(k==0)=false:=AB;rw[h0,h2,h3] at h;simp only[AL,CY,AI] at h;rw[vis,h5,h2,h3] at hi;have:=o6 ts k Zy 0 h.2.2.2 hi w
     grind[Qj,vis]
    | false=>
     grind[Qj,vis,K2]
theorem o6:∀(l:List Ty) (k:Int) (_:(k==6)=false) (j:Nat),Me l=true->(∀i∈DJ l,0<=i)->∀w,w∈K2 0 k j l<->w∈DJ l
 | [],_,_,_,_,_,w=>by rfl
 | t::l,k,hk,j,h,hi,w=>by
  simp only[Me,AI] at h;rw[DJ] at hi;have e:0+ER k j=0:=by simp[ER,hk]
  have h1:=kX t h.1 (λi hm=>hi i AB) w;have h2:=o6 l k hk (j+1) h.2 (λi hm=>hi i AB) w
  grind[K2,DJ]
end
theorem Can.AbJ {t:Ty} {b:Br} (hb:Can t b) (h6:b.bounds.length<=6) (hs:sz Msz t []<=200/\sz Mdp t []<=12):verdict b.body=0:=by
 have h1:=hb.Ko;have h2:=hb.dep;have e1:decide (200<size b.body)=false:=AB;have e2:decide (12<depth b.body)=false:=AB;rw[verdict,e1,e2,hb.val h6];rfl
theorem Cn.VB {b:Br} (hb:Cn b) (h6:b.bounds.length<=6) (tR:verdict b.body=0) (hw:Md b=true) {X:Ty->List Br×Int} (hX:(b.bounds.all λt=>Cs (X t))=true):VB X b:=by
 refine⟨hb.top,tR,hw,λv hv=>hb.ocp h6 v hv,λl hl hm=>?_,by rw[hb.num h6],hX⟩
 have hr:((List.range b.bounds.length).map λ(i:Nat)=>(i:Int)).Pairwise (·<·):=by
  rw[List.pairwise_map];exact List.pairwise_lt_range.imp λh=>by omega
 have e:=NP hl hr λw=>by
  rw[hm,kX _ hb.wb (λi hi=>(hb.vis i hi).1),<-hb.occ];refine⟨λh=>J3 _ _ w h,λh=>?_⟩;rcases J2 _ _ w h with h|h
  all_goals grind
 grind
theorem Can.VB {t:Ty} {b:Br} (hb:Can t b) (h6:b.bounds.length<=6) (hs:sz Msz t []<=200/\sz Mdp t []<=12) (hw:Md b=true) {X:Ty->List Br×Int} (hX:(b.bounds.all λt=>Cs (X t))=true):VB X b:=hb.toCn.VB h6 (hb.AbJ h6 hs) hw hX
attribute [local simp] IJ Mx Jw Kh Dc Fk Ew wO setCells HM Df DQ CT DY alive DI KQ UI jG Hi JU Gk Ip L2 JV qD mC okB qE qH qI qJ qK iG qL qN qO qP qQ qR qT qU qV qW qX okF qY qZ qa qb qc Q0 qd Q1 Q2 Q3 Q4 qe qf qg qh qi qj qm qo qp qq GX qt mD qu qv qw qx qy rA rC rD rF rH CD
def VR (X:Ty->List Br×Int) (b:Br):Prop:=ib false b.body=true/\verdict b.body=0/\occs b.body []=((List.range b.bounds.length).map λ(i:Nat)=>(i:Int)) /\
 (∀v:Nat,v<b.bounds.length->oI (·==(v:Int)) b.body=true)/\(∀c∈b.bounds,verdict c=0/\CB 0 c=true)/\Md b=true/\(b.bounds.all λt=>Cs (X t))=true
section
variable {R:RT}
theorem kY {ts:List Ty} {a:AV} (ha:A0 a (AZ ts)) (hl:ts.length<2 ^ 60) (ih:∀t∈ts,Ae (env R) 64 [.agg ((Ah t).map .pv),BB true] λr=>r=BB (ib true t)) {k i:Int} {n:List UInt8} {Post:AV->Prop} (hP:Post (BB (ts.all (ib true)))) :
  ∀(j p:Nat),p+j=ts.length->ts.all (ib true)=(ts.drop p).all (ib true)->AGO R 0 0 0 (.ptr 0 0) (AG p) ⟨[[AG k,SS n,AG i,a]],[]⟩ (QP Post):=by
 intro j
 induction j with
 | zero=>
  intro p hi hall;refine AGP (AM rfl (AX rfl rfl (Au (n:=ts.length) (by rw[ha.BD,Ab]) (Ao ?_))));rw[A2 AA];rw[CA AA] at hall;rw[hall] at hP;exact Ar (ATG ⟨_,GX,hP⟩)
 | succ j D9=>
  intro p hi hall;refine AGP (AM rfl (AX rfl rfl (Au (n:=ts.length) (by rw[ha.BD,Ab]) (Ao ?_))));rw[Aq AA];obtain⟨t,ht⟩:∃t,ts[p]?=some t:=⟨_,Ay AA⟩;rw[drop_cons ht,Gz] at hall;refine A1 (ATH (AM rfl (AX rfl rfl (BR ha (row:=Ah t) AA (by simp[*,BL]) (Aj _) AA (Ce (AH (ih t (A5 ht)) ?_))))));rintro _ rfl;refine nt ?_;cases hb:ib true t with
  | false=>
   rw[hall,hb] at hP;exact A1 ⟨_,GX,hP⟩
  | true=>
   have q0:=@ATI
   grind[Ar,Be]
mutual
theorem V6:∀(t:Ty),size t<2 ^ 60->∀(e:Bool) (x:AV),A8 t x->Ae (env R) 64 [x,BB e] λr=>r=BB (ib e t)
 | .mk k n i ts,h,e,x,hx=>by
  obtain⟨a,rfl,ha⟩:=hx;simp only[size] at h;have Sj:=BS ts;refine e64 (u0:=.agg [AG k,SS n,AG i,a]) (u1:=BB e) (by simp[ha.close]) (ATJ ?_);refine Bu rfl (by simp[ha.ok]) (AM rfl (AX rfl rfl (Av ?_)));have fin:∀(b:Bool) s,b=ib e (.mk k n i ts)->QP (λr=>r=BB (ib e (.mk k n i ts))) (BB b) s:=λb s h=>⟨_,GX,by rw[h]⟩
  cases h0:k==0 with
  | true=>
   have q0:=@AAJ
   grind[A1,ib]
  | false=>
   refine Ar (Av ?_);cases h2:k==2 with
   | true=>
    have q0:=@AAJ
    grind[A1,ib]
   | false=>
    refine AAJ (Ar (Av ?_));cases h5:k==5 with
    | true=>grind[A1,ib]
    | false=>
     refine Ar (Av ?_);cases h3:k==3 with
     | false=>
      have q0:=@ATK
      grind[Ar,ib]
     | true=>
      refine A1 (kY ha AA (SY ts AA) ?_ ts.length 0 AA rfl)
      grind[ib,bC]
theorem SY:∀(l:List Ty),Ac l<2 ^ 60->∀t∈l,Ae (env R) 64 [.agg ((Ah t).map .pv),BB true] λr=>r=BB (ib true t)
 | [],_,_,h=>by cases h
 | e::l,h,t,hm=>by
  simp only[Ac] at h;rcases A3.1 hm with h' | h'
  .rw[h']
   exact V6 e AA true _ (A8.Bk e)
  .exact SY l AA t h'
end
theorem Yi (n p:Nat):((List.range n).map λ(i:Nat)=>(i:Int))[p]?=if p<n then some (p:Int) else none:=AB
theorem Qe {X:Ty->List Br×Int} {b:Br} (hsz:size b.body<2 ^ 59) (hok:RB b.body) (hl:b.bounds.length<2 ^ 30) (hb:∀t∈b.bounds,size t<2 ^ 59/\RB t) (hX:∀t∈b.bounds,kJ R t (X t)) {x:AV} (hx:N5 b x) :
  Ae (env R) 28 [x] λr=>∃v:Bool,r=BB v/\(v=true<->VR X b):=by
 have hx':=hx;obtain⟨a,y,rfl,ha,hy⟩:=hx;obtain⟨y1,y2,y3,y4⟩:=hy.cells;refine e28 (u0:=.agg (a::y)) (by simp[ha.close,y4]) (ATL ?_);have AKo:(a::y).all A7=true:=by simp[ha.ok,y2]
 have hlen:∀s,BD s a=some b.bounds.length:=λs=>by rw[ha.BD,Ab]
 have no:¬ VR X b->∀s,QP (λr=>∃v:Bool,r=BB v/\(v=true<->VR X b)) (BB false) s:=λh s=>⟨_,GX,false,rfl,AB⟩
 refine Bu (cs:=a::y) rfl AKo (AM rfl (Hp (a:=a) (cs:=y) rfl y1 (AH (V6 b.body AA false _ hy) ?_)));rintro _ rfl;refine nt ?_;cases hib:ib false b.body with
 | false=>exact BQ (BQ (BQ (BQ (pk (A1 (no (λh=>by rw[h.1] at hib; grind) _))))))
 | true=>
  refine Ak (b:=false) (AM rfl (Ak (b:=false) (Hp (a:=a) (cs:=y) rfl y1 (Ak (b:=false) (AH (J4 AA hok hy) ?_)))));rintro _ rfl;refine Ak (b:=false) (EB (pk ?_));cases tR:verdict b.body==0 with
  | false=>
   have:(verdict b.body != 0)=true:=AB;rw[this];exact A1 (no (λh=>by have:=h.2.1; grind) _)
  | true=>
   have:(verdict b.body != 0)=false:=AB;rw[this];have zu:verdict b.body=0:=AB;obtain⟨hv,AKi,_⟩:=DX zu;have hsz:size b.body<2 ^ 37:=AA
   have hs1:BP ⟨[a::y],[]⟩:=by
    intro c hc;simp only[A3,D4,D5] at hc;subst hc;exact Bg (AO _) _ (by simp[Ag,ha.Ax,y3])
   obtain⟨v,s',⟨ts',h1,_,rfl⟩,h3⟩:=Vo (R:=R) b.body AA (.agg y) hy.Fy [] ⟨[a::y],[]⟩ AB hs1 (CT (env R) 28 0 0 0) (.AE []) rfl rfl (.inl rfl);have hv1:=h1.A4;have WQ:=NJ b.body [];simp only[B6,CI] at WQ;refine Ar (ATM (AM rfl (Hp (a:=a) (cs:=y) rfl y1 ⟨_,_,h3,Au (n:=(occs b.body []).length) (by rw[hv1.BD,BU]) (AM rfl (AX rfl rfl (Au (hlen _) (EB ?_))))⟩)));cases hlo:((occs b.body []).length:Int) != (b.bounds.length:Int) with
   | true=>
    refine A1 (no (λh=>?_) _);rw[h.2.2.1] at hlo
    grind
   | false=>
    have ux:(occs b.body []).length=b.bounds.length:=AB;refine Ar (ATN ?_);have g0:(AQ.mk [a::y] ts').bs[0]?=some (a::y):=rfl
    have loop:∀(j p:Nat),p+j=b.bounds.length->(∀q<p,(occs b.body [])[q]?=some (q:Int)/\oI (·==(q:Int)) b.body=true/\∀c,b.bounds[q]?=some c->verdict c=0/\CB 0 c=true)->AGQ R 0 0 0 (.ptr 0 0) v (AG p) ⟨[a::y],ts'⟩ (QP λr=>∃v:Bool,r=BB v/\(v=true<->VR X b)):=by
     intro j
     induction j with
     | zero=>
      intro p hi hp;refine AGR (Au (n:=(occs b.body []).length) (by rw[hv1.BD,BU]) (Ao ?_));rw[A2 AA];refine Ar (ATO (Af (cs:=a::y) g0 AB (AH (QV hsz hl hX hx') ?_)));rintro _ rfl;refine⟨_,GX,_,rfl,?_⟩;rw[AI];refine⟨λh=>⟨hib,zu,?_,λw hw=>(hp w AA).2.1,λc hc=>?_,h.1,h.2⟩,λh=>⟨h.2.2.2.2.2.1,h.2.2.2.2.2.2⟩⟩
      .refine FO λq=>?_
       grind
      grind[List.getElem?_of_mem]
     | succ j ih=>
      intro p hi hp;refine AGR (Au (n:=(occs b.body []).length) (by rw[hv1.BD,BU]) (Ao ?_));rw[Aq AA];obtain⟨w,hw⟩:∃w,(occs b.body [])[p]?=some w:=⟨_,Ay AA⟩;obtain⟨c,hc⟩:∃c,b.bounds[p]?=some c:=⟨_,Ay AA⟩;obtain⟨b1,b2⟩:=hb c (A5 hc)
      have bad:∀s,¬ (w=(p:Int)/\oI (·==(p:Int)) b.body=true/\verdict c=0/\CB 0 c=true)->QP (λr=>∃v:Bool,r=BB v/\(v=true<->VR X b)) (BB false) s:=λs h=>no (λhV=>h ⟨by
       have:=hV.2.2.1
       grind[Yi],hV.2.2.2.1 p AA,hV.2.2.2.2.1 c (A5 hc)⟩) s
      refine A1 (ATP (BX hv1 (row:=[.sc (.int .i64 w)]) AA (by grind[Int.toNat_natCast,Iq]) rfl AA (Ek (EB ?_))));cases hwp:w != (p:Int) with
      | true=>exact BQ (BQ (BQ (BQ (BQ (pk (BQ (BQ (BQ (BQ (BQ (BQ (BQ (pk (BQ (BQ (BQ (BQ (BQ (BQ (BQ (pk (A1 (bad _ λh=>by grind)))))))))))))))))))))))
      | false=>
       refine Ak (b:=false) (AM (AU g0) (Ak (b:=false) (Hp g0 y1 (Ak (b:=false) (Ak (b:=false) (AH (ah p b.body hsz _ hy) ?_))))));rintro _ rfl;refine Ak (b:=false) (nt (pk ?_));cases Sh:oI (·==(p:Int)) b.body with
       | false=>exact BQ (BQ (BQ (BQ (BQ (BQ (BQ (pk (BQ (BQ (BQ (BQ (BQ (BQ (BQ (pk (A1 (bad _ λh=>by grind)))))))))))))))))
       | true=>
        refine Ak (b:=false) (AM (AU g0) (Ak (b:=false) (AX (off:=0) g0 rfl (Ak (b:=false) (Ak (b:=false) (BR ha (row:=Ah c) AA (by simp[*,BL]) (Aj _) AA (Ak (b:=false) (Ce (Ak (b:=false) (AH (J4 AA b2 (A8.Bk c)) ?_))))))))));rintro _ rfl;refine Ak (b:=false) (EB (pk ?_));cases hvc:verdict c != 0 with
        | true=>exact BQ (BQ (BQ (BQ (BQ (BQ (BQ (pk (A1 (bad _ λh=>by grind)))))))))
        | false=>
         refine Ak (b:=false) (AM (AU g0) (Ak (b:=false) (AX (off:=0) g0 rfl (Ak (b:=false) (Ak (b:=false) (BR ha (row:=Ah c) AA (by simp[*,BL]) (Aj _) AA (Ak (b:=false) (Ce (Ak (b:=false) (AH (G1 (by have:=(DX (t:=c) AB).2.1; omega) (A8.Bk c)) ?_))))))))));rintro _ rfl;refine Ak (b:=false) (nt (pk ?_));cases hcc:CB 0 c with
         | false=>simp_all
         | true=>
          refine Ar (ATQ (Be AA AA (ih (p+1) AA λq hq=>?_)))
          by_cases hqp:q=p
          .simp_all
          .exact hp q AA
    exact loop b.bounds.length 0 AA λq hq=>absurd hq (Ez _)
end
mutual
theorem AAK {p:Int->Bool}:∀t:Ty,vP p t=true->∀i∈vis t,p i=true
 | .mk k n i ts,h,j,hj=>by
  rw[vP] at h;rw[vis] at hj;cases h5:k==5 with
  | true=>
   grind
  | false=>
   rw[h5] at h hj;cases h23:k==2||k==3 with
   | true=>
    rw[h23] at h hj;exact o7 ts h j hj
   | false=>grind
theorem o7 {p:Int->Bool}:∀l:List Ty,Qi p l=true->∀i∈DJ l,p i=true
 | [],_,_,hj=>by cases hj
 | t::l,h,j,hj=>by
  simp only[Qi,AI] at h;rw[DJ] at hj;rcases B7.1 hj with hj|hj
  .exact AAK t h.1 j hj
  .exact o7 l h.2 j hj
end
mutual
theorem gG:∀t:Ty,valid t=true->ib true t=true->wB t=true
 | .mk k n i ts,h,hi=>by
  have h':=h;simp only[valid,AI] at h;rw[ib] at hi;rw[wB];rcases Ki h.1 with ⟨rfl,rfl,rfl,rfl⟩|⟨rfl,_,_,_⟩|rfl|⟨rfl,rfl,rfl⟩|⟨rfl,_⟩|⟨rfl,rfl,rfl,_⟩|⟨rfl,_⟩
  .rfl
  .grind
  .grind[zx,N0]
  .have hl:ibL ts=true:=by grind
   have h6:ts.length<=6:=by grind[root,shape]
   simp[Yj ts h.2 hl,h6]
  all_goals grind
theorem Yj:∀l:List Ty,A9 l=true->ibL l=true->Me l=true
 | [],_,_=>rfl
 | t::l,h,hi=>by
  simp only[A9,AI] at h;simp only[ibL,AI] at hi;rw[Me,gG t h.1 hi.1,Yj l h.2 hi.2];rfl
end
theorem AC2:∀t:Ty,ib false t=true->ib true t=true
 | .mk k n i ts,h=>by grind[ib]
mutual
theorem AAL {N v:Nat} {e:Bool}:∀t:Ty,wP t=true->Cw v e (Bh (gQ N) t)=true->∃i∈vis t,i<N/\i.toNat=v
 | .mk k n i ts,h,ho=>by
  rw[wP] at h;rw[Bh] at ho;rw[vis];cases h5:k==5 with
  | true=>
   grind[gQ,Cw,ET]
  | false=>
   rw[h5] at h ho;cases h2:k==2 with
   | true=>
    have h7:(k==7)=false:=AB;rw[h2] at h ho;simp only[AL,AN,AI,Dv] at h ho;rw[Cw,h7] at ho;obtain⟨j,h3,h4⟩:=Rk ts h.2 ho
    grind
   | false=>
    rw[h2] at h;simp only[AL] at h;have:=Ie _ (gQ N) h
    grind[Bh,Jy,LM]
theorem Rk {N v:Nat} {e:Bool}:∀l:List Ty,WT l=true->ET v e (Bq (gQ N) l)=true->∃i∈DJ l,i<N/\i.toNat=v
 | [],_,ho=>by cases ho
 | t::l,h,ho=>by
  simp only[WT,AI] at h;rw[Bq,ET] at ho;rw[DJ];rcases PK.1 ho with ho|ho
  .obtain⟨j,h1,h2⟩:=AAL t h.1 ho
   grind
  .obtain⟨j,h1,h2⟩:=Rk l h.2 ho
   grind
end
mutual
theorem gH {N v:Nat} {e:Bool}:∀t:Ty,wB t=true->Cw v e (Bh (gQ N) t)=true->∃i∈vis t,i<N/\i.toNat=v
 | .mk k n i ts,h,ho=>by
  rw[wB] at h;rw[Bh] at ho;rw[vis];cases h5:k==5 with
  | true=>
   grind[gQ,Cw,ET]
  | false=>
   rw[h5] at h ho;cases h2:k==2 with
   | true=>
    grind[Cw,Rk]
   | false=>
    cases h3:k==3 with
    | true=>
     have h7:(k==7)=false:=AB;have h0:(k==0)=false:=AB;rw[h0,h2,h3] at h;rw[h2,h3] at ho;simp only[AL,AN,CY,AI,Du] at h ho;rw[Cw,h7] at ho;obtain⟨j,h3,h4⟩:=Yk ts h.2.2.2 ho
     grind
    | false=>
     grind[Cw,ET]
theorem Yk {N v:Nat} {e:Bool}:∀l:List Ty,Me l=true->ET v e (Bq (gQ N) l)=true->∃i∈DJ l,i<N/\i.toNat=v
 | [],_,ho=>by cases ho
 | t::l,h,ho=>by
  simp only[Me,AI] at h;rw[Bq,ET] at ho;rw[DJ];rcases PK.1 ho with ho|ho
  .obtain⟨j,h1,h2⟩:=gH t h.1 ho
   grind
  .obtain⟨j,h1,h2⟩:=Yk l h.2 ho
   grind
end
mutual
theorem map_inj {f g:Int->Int}:∀t:Ty,Bh (λi=>var (f i)) t=Bh (λi=>var (g i)) t->∀i∈vis t,f i=g i
 | .mk k n i ts,h,j,hj=>by
  rw[Bh,Bh] at h;rw[vis] at hj;cases h5:k==5 with
  | true=>
   grind
  | false=>
   rw[h5] at h hj;cases h23:k==2||k==3 with
   | true=>
    rw[h23] at h hj;simp only[AL,AN,Ty.mk.injEq,true_and] at h;exact gI ts h j hj
   | false=>grind
theorem gI {f g:Int->Int}:∀l:List Ty,Bq (λi=>var (f i)) l=Bq (λi=>var (g i)) l->∀i∈DJ l,f i=g i
 | [],_,_,hj=>by cases hj
 | t::l,h,j,hj=>by
  rw[Bq,Bq,NZ] at h;rw[DJ] at hj;rcases B7.1 hj with hj|hj
  .exact map_inj t h.1 j hj
  .exact gI l h.2 j hj
end
theorem Yl:∀(l m:List Int),l.Nodup->(∀x∈l,x∈m)->l.length<=m.length
 | [],_,_,_=>AO _
 | a::l,m,h,hs=>by
  rw[S7] at h;have ha:=hs a AD;have:=Yl l (m.erase a) h.2 λx hx=>by grind
  grind
theorem ATR {X:Ty->List Br×Int} {b:Br} (hX:∀c∈b.bounds,(X c).2=0->verdict c=0/\CB 0 c=true):VB X b<->VR X b:=by
 by_cases hpre:ib false b.body=true/\verdict b.body=0/\Md b=true/\(b.bounds.all λt=>Cs (X t))=true
 case neg=>exact⟨λh=>absurd ⟨h.1,h.2.1,h.2.2.1,h.2.2.2.2.2.2⟩ hpre,λh=>absurd ⟨h.1,h.2.1,h.2.2.2.2.2.1,h.2.2.2.2.2.2⟩ hpre⟩
 obtain⟨hib,tR,iw,hall⟩:=hpre;obtain⟨hv,_,_⟩:=DX tR;have pg:=gG _ hv (AC2 _ hib);have hbd:=OM _ pg
 have h0:∀i∈vis b.body,0<=i:=λi hi=>by
  have:=AAK _ (NF _ hv) i hi
  grind
 have h6:b.bounds.length<=6:=by grind[Md]
 have hnd:(occs b.body []).Nodup:=HA b.body [] GM;have hmem:∀i,i∈occs b.body []<->i∈vis b.body:=λi=>⟨λh=>(J2 _ _ i h).resolve_left AD,λh=>J3 _ _ i h⟩
 have aH:∀c∈b.bounds,verdict c=0/\CB 0 c=true:=λc hc=>by grind[Cs]
 have cn:occs b.body []=((List.range b.bounds.length).map λ(i:Nat)=>(i:Int))->(∀v:Nat,v<b.bounds.length->oI (·==(v:Int)) b.body=true)->Cn b:=λho hi=>by
  refine⟨pg,hib,λi hm=>?_,ho,hi⟩
  grind
 refine⟨λh=>?_,λh=>(cn h.2.2.1 h.2.2.2.1).VB h6 tR iw hall⟩;obtain⟨_,_,_,Z1,hlen,hcv,_⟩:=h
 have hL:(occs b.body []).length=b.bounds.length:=by
  have hp:=List.mergeSort_perm (occs b.body []) (λa b=>decide (a<=b));have hs:=List.pairwise_mergeSort (le:=λa b:Int=>decide (a<=b)) (λa b c h1 h2=>by grind) (λa b=>by grind) (occs b.body []);have hn2:=hp.nodup_iff.2 hnd
  have hlt:((occs b.body []).mergeSort λa b=>decide (a<=b)).Pairwise (·<·):=by
   have:=hs.and hn2;refine this.imp λh=>?_
   grind
  rw[<-hp.length_eq]
  grind[kX]
 have hpat:MH b.bounds.length b.body=Bh (gQ b.bounds.length) b.body:=by grind[MH,AAH]
 have hin:∀v:Nat,v<b.bounds.length->(v:Int)∈vis b.body:=λv hv=>by grind[gH]
 have hlt:∀i∈vis b.body,i<(b.bounds.length:Int):=λi hi=>by
  refine Int.not_le.1 λhge=>?_
  have:=Yl (i::(List.range b.bounds.length).map λ(i:Nat)=>(i:Int)) (occs b.body []) (by
   rw[S7];refine⟨λhm=>?_,?_⟩
   .grind
   .exact(List.pairwise_map.2 (List.nodup_range.imp λh=>by omega))) (λx hx=>by grind)
  grind
 have htr:MH b.bounds.length b.body=tr (λi=>i.toNat) b.body:=by grind[Dg,gQ]
 have ATS:=Z7 (N:=b.bounds.length) (U:=λi=>i.toNat) (L:=occs b.body []) hnd (λi hi j hj he=>by grind) (λi hi=>by grind) b.body [] hbd (C4 _);rw[Cd] at ATS;rw[htr,ATS] at hcv;have hcv:Bh (λi=>var (pos (occs b.body []) i)) b.body=b.body:=hcv
 have hpos:∀i∈vis b.body,((pos (occs b.body []) i:Nat):Int)=i:=by
  have e:=P1 b.body hbd;exact map_inj (f:=λi=>((pos (occs b.body []) i:Nat):Int)) (g:=λi=>i) b.body (by rw[hcv,e])
 have AbK:occs b.body []=((List.range b.bounds.length).map λ(i:Nat)=>(i:Int)):=by
  refine FO λq=>?_
  rw[Yi]
  by_cases hq:q<b.bounds.length
  .obtain⟨i,hi⟩:∃i,(occs b.body [])[q]?=some i:=⟨_,Ay AA⟩
   have h1:=hpos i ((hmem i).1 (A5 hi))
   grind[Kj]
  grind
 refine⟨hib,tR,AbK,λv hv=>?_,aH,iw,hall⟩;have:=Z1 v hv;rw[htr,TT _ _ _ hbd] at this;rw[<-this];refine Pv _ λi hi=>?_
 grind
theorem AC3 {f:Nat} {t:Ty} (h:¬ (xR f t).2=0):(xR f t).1=[]:=by
 cases f with
 | zero=>rfl
 | succ f=>
  grind[xR]
theorem AAM {t:Ty} (hs:verdict t=0->CR (bw t)) (h0:(xR (depth t) t).2=0):verdict t=0/\Go.Proofs.YtpgfpakdnijngaaGreatDoor.CB 0 t=true/\∀b∈(xR (depth t) t).1,Can t b/\Md b=true/\(b.bounds.all λc=>Cs (xR (depth t-1) c))=true:=by
 obtain⟨f,hf⟩:∃f,depth t=f+1:=by
  obtain⟨k,n,i,ts⟩:=t;exact⟨Ci ts,rfl⟩
 grind[AKr,xR,DX]
structure Pk (R:RT) (b:Br):Prop where
 vb:∃X,VB X b/\∀c∈b.bounds,XOk R c (X c)
 bs:∀c∈b.bounds,size c<=200/\valid c=true/\Fit c
 len:b.bounds.length<=6
 Ko:size b.body<=200
 val:valid b.body=true
section
variable {R:RT}
theorem ATT (hn:MY R) {t:Ty} (hg:gq 3 t=true) (TP:verdict t=0) (hc:CB 0 t=true) {b:Br} (hb:Can t b) (hw:Md b=true) (hX:(b.bounds.all λc=>Cs (xR (depth t-1) c))=true):Pk R b:=by
 obtain⟨hv,AKi,h12⟩:=DX TP;have hft:=AKg hg TP;have hs:=sS hg TP hc;have h6:b.bounds.length<=6:=by grind[Md]
 refine⟨⟨xR (depth t-1),hb.VB h6 hs hw hX,λc MW=>?_⟩,λc MW=>?_,h6,BM hb.Ko hs.1,hb.val h6⟩
 .have h1:=hb.ER c MW
  have:=Vf (R:=R) hn (depth t-1) c (by have:=h1.dep; omega) (by have:=h1.Ko; omega) (Ji c h1.val) (λ_=>hft.sub h1);rw[AQe (depth t-1) c λ_=>(hft.sub h1).bws] at this;omega
 .have h1:=hb.ER c MW
  exact⟨by have:=h1.Ko; omega,h1.val,hft.sub h1⟩
theorem rxO {t:Ty} (hsz:size t<2 ^ 60) (hok:RB t) (hfit:verdict t=0->Fit t) (x:AV) (hx:BH t x):Ae (env R) 15 [x] λr=>∃a,r=.tuple [a,AG (xR (depth t) t).2]/\A0 a ((xR (depth t) t).1.map Dm):=by
 obtain⟨x',h1,h2⟩:=hx.closed [] 0;exact Ae.open (args':=[x']) AR AR rfl (by simp[*]) (by simp[BK,h2.G3]) (SP (depth t) t (AY _) hsz hok hfit x' h2)
def PkA (R:RT) (v:AV):Prop:=∃x b ok,v=.tuple [x,BB ok]/\CU b x/\(ok=true->Pk R b)
theorem XA (hn:MY R) {W:List (List UInt8)} (hW:(env R).G 1=some (EW W)) (sW:Short W) (h4:W.length=4) (l:List Int) (hl:l.length<2 ^ 50) (k:Int) :
  Ae (env R) 22 [.pv (.list (Ad l)),AG k] (PkA R):=by
 refine e22 (u0:=.pv (.list (Ad l))) (u1:=AG k) AD (ATU (Bm ?_));refine CH (fQ l _ _) ?_;rintro v s1 ⟨rfl,rfl⟩;have hSl:=Src.Ym l;have hB:NM [Z5,K5 (.of l) 0] 1 (.of l):=⟨AD,by simp[bM,Ag,Ax],AA⟩;have h0:KT [Z5,K5 (.of l) 0] []:=λb hb=>by grind
 have e0:(⟨[]++[Z5]++[K5 (.of l) 0],[]⟩:AQ)=⟨Tel.ST [Z5,K5 (.of l) 0] 1 (.of l) 0++[],[]⟩:=AR
 show D0 (env R) _ _ _ ⟨[]++[Z5]++[K5 (.of l) 0],[]⟩ _
 rw[e0];refine AH Yc ?_;rintro dv ⟨rows,hD⟩;refine CH (bB hB hW h4 sW hD h0 (k:=0) AA (CT (env R) 22 0 0 0) AD [] AD) ?_;rintro x s1 ⟨t,k1,x1,hx,ht1,_,Te,rfl⟩;have g0:(Tel.ST [Z5,K5 (.of l) 0] 1 (.of l) k1++[])[0]?=some Z5:=AR;generalize Tel.ST [Z5,K5 (.of l) 0] 1 (.of l) k1++[]=bs at g0;have sz:=ht1.1.2;have hf1:=AKg ht1.2.1;have hX2:=rxO (R:=R) (t:=t) AA ht1.1.1 hf1;obtain⟨l1,_⟩:=AKh (f:=depth t) hf1;have hcan:=AAM (t:=t) λh=>(hf1 h).bws
 have hnone:=λh=>AC3 (f:=depth t) (t:=t) h
 generalize xR (depth t) t=o at hX2 l1 hcan hnone;refine AH (hX2 _ hx) ?_;rintro _ ⟨a,rfl,ha⟩;refine CO rfl (CO rfl (Au (n:=o.1.length) (by rw[ha.BD,Bt]) (Av ?_)));cases h:((o.1.length:Int)==0) with
 | true=>
  refine A1 (HO (cs:=Z5) rfl (Bn g0 rfl rfl AK (AO _) rfl (.inl (AO _)) (Af (BZ g0) rfl ?_)));exact⟨_,rfl,.agg Z5,⟨[],.mk 0 [] 0 []⟩,false,rfl,⟨_,_,rfl,.inl (.AE _),_,rfl,.inl (.AE _)⟩,λh=>by cases h⟩
 | false=>
  have hpos:0<o.1.length:=AB;refine Ar (ATV (Au (n:=o.1.length) (by rw[ha.BD,Bt]) (AH (NL k _ AA AA) ?_)));rintro _ ⟨r,rfl,WR,N4⟩;obtain⟨j,rfl⟩:∃j:Nat,r=(j:Int):=⟨r.toNat,AA⟩;obtain⟨b,hb⟩:∃b,o.1[j]?=some b:=⟨_,Ay AA⟩;have uy:=A5 hb;refine ACp (.inr (.inl ha)) hb λrow hrow=>?_
  obtain⟨c1,c2,c3⟩:=hrow.cells;refine Bn g0 c1 rfl AK (AO _) c2 (.inl (AO _)) (Af (BZ g0) c1 ?_);obtain⟨r',h1,h2⟩:=hrow.Ih (bs.set 0 row) 0 0;refine⟨.tuple [.agg r',BB true],by simp[*],.agg r',b,true,rfl,h2,λ_=>?_⟩;have hz:o.2=0:=Decidable.byContradiction λhz=>by grind
  obtain⟨TP,hc,af⟩:=hcan hz;obtain⟨h1,h2,h3⟩:=af b uy;exact ATT hn ht1.2.1 TP hc h1 h2 h3
end
def HD (bs:List (List AV)) (l:List Ty) (a:AV):Prop:=(l=[]/\a=.AE [])\/∃id cs,a=.ref id 0 l.length 4/\bs[id]?=some cs/\CD cs=some (AZ l).flatten/\cs.all A7=true/\(∀n,Ag n cs=true)/\2<=id/\l≠[]
theorem HS:∀{cs:List AV} {ps:List PV},CD cs=some ps->cs.length=ps.length
 | [],ps,h=>by grind[CD]
 | c::cs,ps,h=>by
  have ih:=@HS cs
  grind[CD]
theorem ATW {t:Ty} {row:List AV} (h:BH t (.agg row)):CD row=some (Ah t):=by
 obtain⟨k,n,i,ts⟩:=t;obtain⟨a,he,ha⟩:=h;cases he;rcases ha with (rfl|rfl)|⟨t,rfl⟩ <;> rfl
theorem Yn:∀l:List Ty,((AZ l).flatten.map AV.pv).all A7=true
 | []=>rfl
 | t::l=>by
  show((Ah t++(AZ l).flatten).map AV.pv).all A7=true
  rw[PA,TI,Cx,Yn l];rfl
theorem V7 (l:List Ty):(AZ l).flatten.length=l.length*4:=by
 rw[Kl (AZ l) KE,Ab]
theorem HD.close {bs:List (List AV)} {l:List Ty} {a:AV} (h:HD bs l a):∃a',Tel.close bs 0 0 a=some a'/\A0 a' (AZ l):=by
 rcases h with ⟨rfl,rfl⟩|⟨id,cs,rfl,h1,h2,_,_,_,h5⟩
 .exact⟨_,rfl,.AE _⟩
 .have hl:=HS h2
  rw[V7] at hl;have hp:0<l.length:=S4.2 h5;have e:IZ bs id 0 l.length 4=some (AZ l):=by grind[IZ,FE,KE,Ab]
  refine⟨.pv (.list (AZ l)),?_,.list _⟩
  grind[Tel.close]
theorem HD.mono {bs bs':List (List AV)} {l:List Ty} {a:AV} (h:HD bs l a) (hm:∀j c,2<=j->bs[j]?=some c->bs'[j]?=some c):HD bs' l a:=by
 rcases h with h|⟨id,cs,h0,h1,h2,h3,h4,h5,h6⟩
 .exact .inl h
 .exact .inr ⟨id,cs,h0,hm _ _ h5 h1,h2,h3,h4,h5,h6⟩
theorem HD.alive {s:AQ} {l:List Ty} {id:Nat} {cs:List AV} (h1:s.bs[id]?=some cs) (h2:CD cs=some (AZ l).flatten) (h5:l≠[]):Tel.alive s id=true:=by
 have hl:=HS h2;rw[V7] at hl;have hp:0<l.length:=S4.2 h5;cases cs with
 | nil=>grind
 | cons c cs=>exact AU h1
theorem HD.BD {s:AQ} {l:List Ty} {a:AV} (h:HD s.bs l a):Tel.BD s a=some l.length:=by
 rcases h with ⟨rfl,rfl⟩|⟨id,cs,rfl,h1,h2,_,_,_,h5⟩
 .rfl
 grind[Tel.BD,HD.alive]
theorem HD.C1 {bs:List (List AV)} {l:List Ty} {a:AV} (h:HD bs l a):Tel.C1 a a=true:=by
 rcases h with ⟨rfl,rfl⟩|⟨id,cs,rfl,_⟩
 .rfl
 .simp[Tel.C1]
theorem HD.ok {bs:List (List AV)} {l:List Ty} {a:AV} (h:HD bs l a):A7 a=true/\cellsOf a=[a]:=by
 rcases h with ⟨rfl,rfl⟩|⟨id,cs,rfl,_⟩ <;> exact⟨rfl,rfl⟩
theorem HD.ids {bs:List (List AV)} {l:List Ty} {a:AV} (h:HD bs l a) {n:Nat} (hn:bs.length<=n):Ax n a=true:=by
 rcases h with ⟨rfl,rfl⟩|⟨id,cs,rfl,h1,_⟩
 all_goals grind[Ax,Nat.blt,Nat.ble_eq]
theorem AC4 {L:BI} {s:AQ} {l:List Ty} {y:AV} {K:AV->AQ->Prop} (hy:BF y (AZ l)) (hs2:2<=s.bs.length) (hl:l.length<2 ^ 30) (hK:∀a x,HD (s.bs++x) l a->(∀b∈x,∀n,Ag n b=true)->K a ⟨s.bs++x,s.ts⟩):HB true L s 25 4 56 (.AE []) y K:=by
 unfold HB;rw[C9 hy KE];cases l with
 | nil=>
  have:=hK (.AE []) [] (.inl ⟨rfl,rfl⟩) AD
  simp_all[AZ,rowsOf]
 | cons t l=>
  have hf:=V7 (t::l);cases hc:((AZ (t::l)).flatten.map AV.pv) with
  | nil=>
   grind[List.length_map]
  | cons c cs=>
   have hlen:(c::cs).length=(t::l).length*4:=by rw[<-hc,Bt,hf]
   have hok:(c::cs).all A7=true:=by grind[Yn]
   simp only[wO];refine⟨hok,⟨?_,?_,rfl⟩,?_⟩
   .grind
   .grind
   .simp only[AN]
    rw[hlen,ZE _ AK]
    have UD:∀n,Ag n (c::cs)=true:=λn=>by
     rw[<-hc]
     induction (AZ (t::l)).flatten with
     | nil=>rfl
     | cons p q ih=>assumption
    have:=hK (.ref s.bs.length 0 (t::l).length 4) [c::cs] (.inr ⟨_,_,rfl,Az _ _,by grind[IP],hok,UD,hs2,AD⟩) AB
    simp_all
theorem AAN {L:BI} {s:AQ} {l:List Ty} {t:Ty} {a:AV} {K:AV->AQ->Prop} (h:HD s.bs l a) (h2:2<=s.bs.length) (hl:l.length<2 ^ 30) (hro:L.ro=0) (hK:∀a' bs',HD bs' (l++[t]) a'->(∀j,j<2->bs'[j]?=s.bs[j]?)->K a' ⟨bs',s.ts⟩):HB true L s 25 4 56 a (.AE [Ah t]) K:=by
 have hsrc:Cz s 4 (.AE [Ah t])=some ((Ah t).map .pv):=by
  have:=C9 (s:=s) (k:=4) (y:=.AE [Ah t]) (m:=[Ah t]) (.inl (.AE _)) (by simp[Aj])
  grind
 have hrl:=Aj t;have AKw:=Cx t
 have Nk:∀n,Ag n ((Ah t).map .pv)=true:=λn=>by
  induction (Ah t) with
  | nil=>rfl
  | cons p q ih=>assumption
 have hpv:CD ((Ah t).map .pv)=some (Ah t):=IP _;have hfl:(AZ (l++[t])).flatten=(AZ l).flatten++Ah t:=by simp[EC,AZ]
 unfold HB;rw[hsrc]
 obtain⟨c,cs,hc⟩:∃c cs,(Ah t).map AV.pv=c::cs:=by
  cases hh:(Ah t).map AV.pv with
  | nil=>simp_all
  | cons c cs=>simp
 have hlen:(c::cs).length=4:=by rw[<-hc,Bt,hrl]
 rw[hc] at AKw Nk hpv;simp only[wO,hc];refine⟨AKw,?_⟩;rcases h with ⟨rfl,rfl⟩|⟨id,old,rfl,h1,h3,h4,h5,h6,h7⟩
 .simp only[hlen,AN,B6,ZH,Cd,Cc]
  refine⟨⟨AK,AK,rfl⟩,?_⟩;refine hK (.ref s.bs.length 0 (0+4 / 4) 4) _ (.inr ⟨_,_,rfl,Az _ _,?_,AKw,Nk,h2,AD⟩) λj hj=>by rw[CX AA]
  rw[hpv,hfl];rfl
 .have WQ:=HS h3
  rw[V7] at WQ;have hal:=HD.alive (s:=s) h1 h3 h7;have hb:=(BA.1 h1).1;simp only[hlen,h1,wO];refine⟨⟨Ai,Ai,AA,hal,AA,AA,AA⟩,?_⟩;rw[CV AA];refine hK (.ref s.bs.length 0 (l.length+4 / 4) 4) _ (.inr ⟨_,old++(c::cs),AD,?_,?_,?_,?_,h2,AD⟩) λj hj=>?_
  all_goals grind[Rc,KA]
structure FX (x:Br):Prop where
 Ko:size x.body<2 ^ 59
 ok:RB x.body
 len:x.bounds.length<2 ^ 29
 bs:∀c∈x.bounds,size c<2 ^ 58/\tX c=true/\SJ c=true/\RB c/\(verdict c=0->Fit c)
structure XR (bs:List (List AV)) (x:Br) (xc:List AV):Prop where
 len:xc.length=5
 slf:C1 (.agg xc) (.agg xc)=true
 cl:∃x',close bs 0 0 (.agg xc)=some x'/\N5 x x'
section
variable {R:RT}
theorem SZ {c:Ty} (hf:verdict c=0->Fit c) (h:(xR (depth c) c).2=0):verdict c=0/\CB 0 c=true:=by
 obtain⟨h1,h2,_⟩:=AAM (t:=c) (λh=>(hf h).bws) h
 grind
theorem v27 (hn:MY R) {x:Br} (hx:FX x) {s:AQ} {xc:List AV} (h:XR s.bs x xc) {L:BI} {K:AV->AQ->Prop} (hK:∀v:Bool,(v=true<->VB (λc=>xR (depth c) c) x)->K (BB v) s):D0 (Dh R) L (.func (.func 27) [] []) [.agg xc] s K:=by
 obtain⟨x',h1,h2⟩:=h.cl
 have hp:=Lf hn (X:=λc=>xR (depth c) c) hx.Ko hx.ok (by have:=hx.len; omega) (λc hc=>⟨λhb=>by
  simp only[Cs,AI,Gx] at hb;have:=(DX (SZ (hx.bs c hc).2.2.2.2 hb.1).1).2.1;omega,⟨(hx.bs c hc).2.1,by have:=(hx.bs c hc).1; omega⟩,(hx.bs c hc).2.2.1⟩) (λc hc=>AKf hn (by have:=(hx.bs c hc).1; omega) (hx.bs c hc).2.2.2.1 (hx.bs c hc).2.2.2.2) h2
 refine CH (O1 (own:=λf=>Nat.beq f 7) (rd:=λf=>Nat.beq f 27||Nat.beq f 28) (mu:=λf t=>Nat.beq f 7&&(Nat.beq t 25||Nat.beq t 1000025)) rfl rfl (ys:=[x']) (by grind[BK]) (λv hv=>by grind) hp) ?_
 grind
theorem v28 {x:Br} (hx:FX x) {s:AQ} {xc:List AV} (h:XR s.bs x xc) {L:BI} {K:AV->AQ->Prop} (hK:∀v:Bool,(v=true<->VR (λc=>xR (depth c) c) x)->K (BB v) s):D0 (Dh R) L (.func (.func 28) [] []) [.agg xc] s K:=by
 obtain⟨x',h1,h2⟩:=h.cl;have hp:=Qe (R:=R) (X:=λc=>xR (depth c) c) hx.Ko hx.ok (by have:=hx.len; omega) (λc hc=>⟨by have:=(hx.bs c hc).1; omega,(hx.bs c hc).2.2.2.1⟩) (λc hc=>SP (depth c) c (AY _) (by have:=(hx.bs c hc).1; omega) (hx.bs c hc).2.2.2.1 (hx.bs c hc).2.2.2.2) h2;refine CH (O1 (own:=λf=>Nat.beq f 7) (rd:=λf=>Nat.beq f 27||Nat.beq f 28) (mu:=λf t=>Nat.beq f 7&&(Nat.beq t 25||Nat.beq t 1000025)) rfl rfl (ys:=[x']) (by grind[BK]) (λv hv=>by grind) hp) ?_
 grind
theorem Pk.FX {b:Br} (h:Pk R b):FX b:=
 ⟨by have:=h.Ko; omega,Ji _ h.val,by have:=h.len; omega,λc hc=>by
  obtain⟨h1,h2,h3⟩:=h.bs c hc
  grind[jc,Oz,Ji]⟩
theorem Pk.vb0 (hn:MY R) {b:Br} (h:Pk R b) {s:AQ} {bc:List AV} (hb:XR s.bs b bc) {L:BI} {K:AV->AQ->Prop} (hK:K (BB true) s):D0 (Dh R) L (.func (.func 27) [] []) [.agg bc] s K:=by
 obtain⟨X,hX,hO⟩:=h.vb;obtain⟨x',h1,h2⟩:=hb.cl;have hf:=h.FX;have hp:=Lf hn (X:=X) hf.Ko hf.ok (by have:=hf.len; omega) (λc hc=>⟨λ_=>by have:=(h.bs c hc).1; omega,⟨(hf.bs c hc).2.1,by have:=(hf.bs c hc).1; omega⟩,(hf.bs c hc).2.2.1⟩) hO h2;refine CH (O1 (own:=λf=>Nat.beq f 7) (rd:=λf=>Nat.beq f 27||Nat.beq f 28) (mu:=λf t=>Nat.beq f 7&&(Nat.beq t 25||Nat.beq t 1000025)) rfl rfl (ys:=[x']) (by grind[BK]) (λv hv=>by grind) hp) ?_
 grind
theorem V8 (hn:MY R) (GF:Ae (env R) 16 [] λv=>v=BB true) {b x:Br} (hb:Pk R b) (hx:FX x) {s:AQ} {bc xc:List AV} (g0:s.bs[0]?=some bc) (g1:s.bs[1]?=some xc) (rb:XR s.bs b bc) (rx:XR s.bs x xc):Sw R 0 0 0 (.ptr 0 0) (.ptr 1 0) s (QP λv=>v=BB true):=by
 refine AbL (AH (GF.over rfl rfl) ?_);rintro _ rfl;refine Ak (Af g0 rb.len (Ak (hb.vb0 hn rb (pk (Ak (Af g1 rx.len (Ak (v27 hn hx rx λv hv=>?_))))))));refine Ak (Af g1 rx.len (Ak (v28 hx rx λw hw=>?_)))
 have hvw:v=w:=by
  have:=ATR (X:=λc=>xR (depth c) c) (b:=x) λc hc h=>SZ (hx.bs c hc).2.2.2.2 h
  grind
 subst hvw;refine Ak ?_;simp only[gJ];refine pk ⟨Ak (Af g1 rx.len rx.slf),?_⟩;exact⟨_,GX,AD⟩
end
theorem o8 {bs:List (List AV)} {x:Br} {xa:AV} {xy:List AV} (he:C1 xa xa=true) (hc:∃a',close bs 0 0 xa=some a'/\A0 a' (AZ x.bounds)) (hy:BH x.body (.agg xy)):XR bs x (xa::xy):=by
 obtain⟨h1,_,_⟩:=hy.cells;refine⟨AB,?_,?_⟩
 .grind[Ho,Tel.C1,Ij]
 .obtain⟨a',c1,c2⟩:=hc
  obtain⟨y',d1,d2⟩:=hy.closed bs 0;have d1':=d1;simp only[Tel.close] at d1;split at d1
  .rename_i cs hcs
   cases d1;exact⟨.agg (a'::cs),by grind[Tel.close,BK],a',cs,rfl,c2,d2⟩
  grind
theorem HD.xr {bs:List (List AV)} {x:Br} {xa:AV} {xy:List AV} (hB:HD bs x.bounds xa) (hy:BH x.body (.agg xy)):XR bs x (xa::xy):=o8 hB.C1 hB.close hy
theorem AKx:∀(b pre old post:List AV),old.length=b.length->setCells (pre++(old++post)) pre.length b=pre++(b++post)
 | [],pre,old,post,h=>by
  have:old=[]:=ZJ.1 h;subst this;rfl
 | v::b,pre,[],post,h=>by cases h
 | v::b,pre,o::old,post,h=>by
  have ih:=AKx b (pre++[v]) old post AB
  grind[setCells]
theorem NQ:∀(a b:List AV) (p:List PV),CD (a++b)=some p->∃p1 p2,CD a=some p1/\CD b=some p2/\p=p1++p2
 | [],b,p,h=>⟨[],p,rfl,h,rfl⟩
 | c::a,b,p,h=>by
  simp only[DD,CD] at h;split at h
  .rename_i x q h1 h2
   obtain⟨p1,p2,k1,k2,rfl⟩:=NQ a b q h2
   grind[CD]
  grind
theorem V9 {n:Nat}:∀{a b:List AV},(∀c∈a,c∈b)->Ag n b=true->Ag n a=true:=by
 intro a b h hb
 induction a with
 | nil=>rfl
 | cons c a ih=>
  rw[Ag,ih λd hd=>h d AB];obtain⟨i,hi⟩:=ZC (h c AD)
  grind[IG]
theorem HD.put {bs:List (List AV)} {l:List Ty} {id r:Nat} {cs oc:List AV} {t:Ty} (hr:r<l.length) (ht:BH t (.agg oc)) (h1:bs[id]?=some cs) (h2:CD cs=some (AZ l).flatten) (h3:cs.all A7=true) (h4:∀n,Ag n cs=true) (h5:2<=id):HD (bs.set id (setCells cs (r*4) oc)) (l.set r t) (.ref id 0 l.length 4):=by
 have E6:=HS h2;rw[V7] at E6;obtain⟨c1,c2,c3⟩:=ht.cells;obtain⟨l1,u,l2,rfl,ZR⟩:∃l1 u l2,l=l1++u::l2/\l1.length=r:=⟨l.take r,l[r],l.drop (r+1),AD,AB⟩;simp only[Bo,B4] at E6 hr;obtain⟨A,M,B,rfl,hA,hM⟩:∃A M B,cs=A++(M++B)/\A.length=r*4/\M.length=4:=⟨cs.take (r*4),(cs.drop (r*4)).take 4,(cs.drop (r*4)).drop 4,by grind[List.take_append_drop],AB,AB⟩;have e:setCells (A++(M++B)) (r*4) oc=A++(oc++B):=by grind[AKx]
 have e2:(l1++u::l2).set r t=l1++t::l2:=by simp[*]
 have fl:∀v,(AZ (l1++v::l2)).flatten=(AZ l1).flatten++(Ah v++(AZ l2).flatten):=λv=>by simp[EC,AZ]
 obtain⟨p1,p2,k1,k2,k3⟩:=NQ _ _ _ h2;obtain⟨p3,p4,k4,k5,rfl⟩:=NQ _ _ _ k2;rw[fl] at k3;have q1:p1.length=(AZ l1).flatten.length:=by grind[HS,V7]
 obtain⟨rfl,k6⟩:=List.append_inj k3 q1.symm;have q2:p3.length=(Ah u).length:=by grind[HS,Aj]
 obtain⟨rfl,rfl⟩:=List.append_inj k6 q2.symm;have hb:=(BA.1 h1).1;rw[e,e2];refine .inr ⟨id,A++(oc++B),AD,AB,?_,?_,λn=>?_,h5,AD⟩
 .grind[Rc,ATW]
 .grind
 .exact KA _ _ (V9 AB (h4 n)) (KA _ _ (c3 n) (V9 AB (h4 n)))
section
variable {R:RT}
theorem o9 {L:BI} {f:FuncId} {args:List AV} {s:AQ} {Post:AV->AQ->Prop} (hf:Nat.beq f 7=false) (hf':(Nat.beq f 27||Nat.beq f 28)=false) (h:∃v s',Post v s'/\BG (env R) L f args s v s'):∃v s',Post v s'/\BG (Dh R) L f args s v s':=by
 obtain⟨v,s',h1,h2⟩:=h;exact⟨v,s',h1,WA hf hf' h2⟩
structure At (R:RT) (b:Br) (o:Ty) (a xa:AV) (y oc:List AV) (q:Nat) (s:AQ):Prop where
 g0:s.bs[0]?=some (a::y)
 g1:s.bs[1]?=some (xa::y)
 gq:s.bs[q]?=some oc
 ha:BF a (AZ b.bounds)
 hB:HD s.bs b.bounds xa
 hy:BH b.body (.agg y)
 ho:BH o (.agg oc)
 q2:2<=q
 nq:∀id,xa=.ref id 0 b.bounds.length 4->id≠q
 ot:size o<2 ^ 57/\tX o=true/\SJ o=true/\RB o/\(verdict o=0->Fit o)
theorem Yo (hn:MY R) (GF:Ae (env R) 16 [] λv=>v=BB true) {b:Br} {o:Ty} {a xa:AV} {y oc:List AV} {q:Nat} {s:AQ} (hP:Pk R b) (h:At R b o a xa y oc q s):Sw R 0 0 0 (.ptr 0 0) (.ptr 1 0) s (QP λv=>v=BB true):=
 V8 hn GF hP hP.FX h.g0 h.g1 (o8 (BF.C1 h.ha) (h.ha.closed s.bs 0) h.hy) (h.hB.xr h.hy)
theorem Rm (hn:MY R) (GF:Ae (env R) 16 [] λv=>v=BB true) {b:Br} {o u:Ty} {a xa:AV} {y oc uc:List AV} {q:Nat} {s:AQ} (hP:Pk R b) (h:At R b o a xa y oc q s) (hu:BH u (.agg uc)) (h1:size u<2 ^ 59) (h2:RB u) :
  HM (CT (Dh R) 7 0 0 0) s 4 (.ptr 1 (0+1)) (.agg uc) λs'=>Sw R 0 0 0 (.ptr 0 0) (.ptr 1 0) s' (QP λv=>v=BB true):=by
 obtain⟨u1,u2,u3⟩:=hu.cells;obtain⟨y1,_,_⟩:=h.hy.cells;have hce:cellsOf (.agg uc)=uc:=rfl
 have e:setCells (xa::y) 1 uc=xa::uc:=by
  have:=AKx uc [xa] y [] AA
  grind
 simp only[HM,h.g1,wO,hce,CI];refine⟨⟨u1,AB,AO _,u2,.inl (AO _),AK⟩,?_⟩;rw[e];have hb:=(BA.1 h.g1).1;have hF:=hP.FX;have hB':HD (s.bs.set 1 (xa::uc)) b.bounds xa:=h.hB.mono λj c hj hc=>by grind
 refine V8 hn GF hP (x:=⟨b.bounds,u⟩) ⟨h1,h2,hF.len,hF.bs⟩ (bc:=a::y) (xc:=xa::uc) ?_ ?_ (o8 (BF.C1 h.ha) (h.ha.closed _ 0) h.hy) (HD.xr (x:=⟨b.bounds,u⟩) hB' hu)
 .show(s.bs.set 1 (xa::uc))[0]?=_
  rw[FN AA];exact h.g0
 grind
end
section
variable {R:RT}
theorem gK (hn:MY R) (GF:Ae (env R) 16 [] λv=>v=BB true) {b:Br} {o:Ty} {a xa xb:AV} {y oc:List AV} {q:Nat} {s s':AQ} (hP:Pk R b) (h:At R b o a xa y oc q s) {l:List Ty} (hl:l.length<2 ^ 29) (hls:∀c∈l,c=o\/c∈b.bounds) (g0:s'.bs[0]?=some (a::y)) (g1:s'.bs[1]?=some (xb::y)) (hB:HD s'.bs l xb):Sw R 0 0 0 (.ptr 0 0) (.ptr 1 0) s' (QP λv=>v=BB true):=by
 have hF:=hP.FX;refine V8 hn GF hP (x:=⟨l,b.body⟩) ⟨hF.Ko,hF.ok,hl,λc hc=>?_⟩ g0 g1 (o8 (BF.C1 h.ha) (h.ha.closed _ 0) h.hy) (HD.xr (x:=⟨l,b.body⟩) hB h.hy);rcases hls c hc with rfl|hc
 .exact⟨by have:=h.ot.1; omega,h.ot.2⟩
 .exact hF.bs c hc
theorem AC5 (hn:MY R) (GF:Ae (env R) 16 [] λv=>v=BB true) {b:Br} {o:Ty} {a xa:AV} {y oc:List AV} {q:Nat} {s:AQ} (hP:Pk R b) (h:At R b o a xa y oc q s) (n r:Int) :
  (DI .i64 .eql (AG r) (AG 0) λa38=>
 Dc a38 (
 DY s (.ptr 1 0) 0 λa39=>
 Df (Dh R) s none a39 λa40=>
 Df (Dh R) s (some 4) (.ptr q 0) λa41=>
 GY false s 4 [(AG 0),(SS []),(AG 0),(.AE [])] 1 [(0,4,a41)] λa42 oT=>
(True/\4≠0)/\HB true (CT (Dh R) 7 0 0 0) oT 25 4 56 a40 a42 λa43 oY=>
 DY oY (.ptr 1 0) 0 λa44=>
 HM (CT (Dh R) 7 0 0 0) oY 1 a44 a43 λzh=>
 Sw R 0 0 0 (.ptr 0 0) (.ptr 1 0) zh (QP λv=>v=BB true)) (
 DI .i64 .eql (AG r) (AG 1) λa46=>
 Dc a46 (
 DY s (.ptr 1 0) 0 λa47=>
 Df (Dh R) s none a47 λa48=>
 Gk s a48 λa49=>
 DI .i64 .gtr a49 (AG 0) λa50=>
 Dc a50 (
 DY s (.ptr 1 0) 0 λa51=>
 Df (Dh R) s none a51 λa52=>
 DY s (.ptr 1 0) 0 λa54=>
 Df (Dh R) s none a54 λa55=>
 Gk s a55 λa56=>
 D0 (Dh R) (CT (Dh R) 7 0 0 0) (.func (.func 13) [] []) [AG n,a56] s λa57 SR=>
 Df (Dh R) SR (some 4) (.ptr q 0) λa58=>
 ND SR 4 a52 a57 λa59=>
 HM (CT (Dh R) 7 0 0 0) SR 4 a59 a58 λzl=>
(DY SR (.ptr 1 0) 0 λAbM=>C1 AbM a51=true) /\
(Df (Dh R) SR none a51 λAbN=>C1 AbN a52=true) /\
(Df (Dh R) s (some 4) (.ptr q 0) λAbO=>C1 AbO a58=true) /\
 Sw R 0 0 0 (.ptr 0 0) (.ptr 1 0) zl (QP λv=>v=BB true)) (
 Sw R 0 0 0 (.ptr 0 0) (.ptr 1 0) s (QP λv=>v=BB true))) (
 DI .i64 .eql (AG r) (AG 2) λa61=>
 Dc a61 (
 DY s (.ptr 0 0) 1 λa62=>
 Df (Dh R) s (some 4) a62 λa63=>
 D0 (Dh R) (CT (Dh R) 7 0 0 0) (.func (.func 13) [] []) [AG n,(AG 4)] s λa65 AAO=>
 DI .i64 .sub a65 (AG 1) λa66=>
 D0 (Dh R) (CT (Dh R) 7 0 0 0) (.func (.func 25) [] []) [a66] AAO λa67 pE=>
 GY false pE 4 [(AG 0),(SS []),(AG 0),(.AE [])] 2 [(0,4,a63),(4,4,a67)] λa68 _=>
 D0 (Dh R) (CT (Dh R) 7 0 0 0) (.func (.func 21) [] []) [a68] pE λa69 AGS=>
 DY AGS (.ptr 1 0) 1 λa70=>
 HM (CT (Dh R) 7 0 0 0) AGS 4 a70 a69 λATY=>
(DY AAO (.ptr 0 0) 1 λAbQ=>C1 AbQ a62=true) /\
(DY pE (.ptr 0 0) 1 λAbR=>C1 AbR a62=true) /\
(Df (Dh R) AAO (some 4) a62 λAbS=>C1 AbS a63=true) /\
(Df (Dh R) pE (some 4) a62 λAbT=>C1 AbT a63=true) /\
 Sw R 0 0 0 (.ptr 0 0) (.ptr 1 0) ATY (QP λv=>v=BB true)) (
 DI .i64 .eql (AG r) (AG 3) λa72=>
 Dc a72 (
 Df (Dh R) s (some 4) (.ptr q 0) λa73=>
 DY s (.ptr 1 0) 1 λa74=>
 HM (CT (Dh R) 7 0 0 0) s 4 a74 a73 λATZ=>
 Sw R 0 0 0 (.ptr 0 0) (.ptr 1 0) ATZ (QP λv=>v=BB true)) (
 DI .i64 .eql (AG r) (AG 4) λa76=>
 Dc a76 (
 D0 (Dh R) (CT (Dh R) 7 0 0 0) (.func (.func 25) [] []) [(AG 1)] s λa77 AAP=>
 D0 (Dh R) (CT (Dh R) 7 0 0 0) (.func (.func 25) [] []) [(AG 0)] AAP λa78 pF=>
 GY false pF 4 [(AG 0),(SS []),(AG 0),(.AE [])] 2 [(0,4,a77),(4,4,a78)] λa79 _=>
 D0 (Dh R) (CT (Dh R) 7 0 0 0) (.func (.func 26) [] []) [(SS [80,97,105,114]),a79] pF λa80 pG=>
 DY pG (.ptr 0 0) 1 λa81=>
 Df (Dh R) pG (some 4) a81 λa82=>
 GY false pG 4 [(AG 0),(SS []),(AG 0),(.AE [])] 2 [(0,4,a80),(4,4,a82)] λa83 _=>
 D0 (Dh R) (CT (Dh R) 7 0 0 0) (.func (.func 21) [] []) [a83] pG λa84 AGT=>
 DY AGT (.ptr 1 0) 1 λa85=>
 HM (CT (Dh R) 7 0 0 0) AGT 4 a85 a84 λATa=>
(DY s (.ptr 0 0) 1 λAbU=>C1 AbU a81=true) /\
(DY AAP (.ptr 0 0) 1 λAbV=>C1 AbV a81=true) /\
(DY pF (.ptr 0 0) 1 λAbW=>C1 AbW a81=true) /\
(Df (Dh R) s (some 4) a81 λAbX=>C1 AbX a82=true) /\
(Df (Dh R) AAP (some 4) a81 λAbY=>C1 AbY a82=true) /\
(Df (Dh R) pF (some 4) a81 λAbZ=>C1 AbZ a82=true) /\
 Sw R 0 0 0 (.ptr 0 0) (.ptr 1 0) ATa (QP λv=>v=BB true)) (
 Sw R 0 0 0 (.ptr 0 0) (.ptr 1 0) s (QP λv=>v=BB true))))))):=by
 obtain⟨y1,y2,_⟩:=h.hy.cells;obtain⟨o1,o2,_⟩:=h.ho.cells;obtain⟨bs,tk⟩:=s;have hlen:=hP.len;have hF:=hP.FX;refine Av ?_;cases e0:r==0 with
 | true=>
  refine A1 (AM (AU h.g1) (AX (off:=0) h.g1 rfl (Af h.gq o1 (Er h.ho ⟨⟨Ai,AK⟩,AAN h.hB ?_ AA rfl λa' bs' hB hj=>?_⟩))))
  .have:=(BA.1 h.g1).1
   omega
  have k0:bs'[0]?=some (a::y):=(hj 0 AA).trans h.g0;have k1:bs'[1]?=some (xa::y):=(hj 1 AA).trans h.g1;refine AM (AU k1) (C3 k1 AD hB.ok.2 (AO _) hB.ok.1 (.inl (AO _)) ?_);have Qq:=(BA.1 k1).1;refine gK hn GF hP h (l:=b.bounds++[o]) AB (λc hc=>by grind) (xb:=a') ?_ (BZ k1) (hB.mono λj c h2 hc=>?_)
  all_goals grind
 | false=>
  refine Ar (Av ?_);cases e1:r==1 with
  | true=>
   have ll:=h.hB.BD;refine A1 (AM (AU h.g1) (AX (off:=0) h.g1 rfl (Au ll (Fm ?_))));rcases Nat.eq_zero_or_pos b.bounds.length with hz|hz
   .grind[decide_eq_false,Ar,Yo]
   rw[Aq AA];refine A1 (AM (AU h.g1) (AX (off:=0) h.g1 rfl (AM (AU h.g1) (AX (off:=0) h.g1 rfl (Au ll (AH ((NL n _ AA AA).over rfl rfl) ?_))))));rintro _ ⟨w,rfl,hw1,tP⟩;obtain⟨j,rfl⟩:∃j:Nat,w=(j:Int):=⟨w.toNat,AA⟩;have he:=h.hB.C1;rcases h.hB with ⟨hn',_⟩|⟨id,cs,hx,h1,h2,h3,h4,h5,h6⟩
   .grind
   have E6:=HS h2;rw[V7] at E6;have hal:=HD.alive (s:=⟨bs,tk⟩) h1 h2 h6;have hput:=HD.put (r:=j) AA h.ho h1 h2 h3 h4 h5;have hce:cellsOf (.agg oc)=oc:=rfl;have g1':=h.g1;subst hx;refine Af h.gq o1 ⟨⟨AA,AA,rfl,hal⟩,?_⟩;simp only[HM,h1,wO,hce,Int.toNat_natCast,CI];refine⟨⟨o1,AA,AO _,o2,.inl (AO _),AK⟩,AM (AU h.g1) (DL _ _),AX (off:=0) h.g1 rfl he,Af h.gq o1 (Ho h.ho),?_⟩;refine gK hn GF hP h (l:=b.bounds.set j o) AB (λc hc=>?_) (xb:=.ref id 0 b.bounds.length 4) ?_ ?_ hput
   .grind
   .show(bs.set id _)[0]?=_
    rw[FN AA];exact h.g0
   grind
  | false=>
   refine Ar (Av ?_);have f1:DY ⟨bs,tk⟩ (.ptr 0 0) 1 λv=>C1 v (.ptr 0 (0+1))=true:=AM (AU h.g0) (DL _ _)
   have f2:Df (Dh R) ⟨bs,tk⟩ (some 4) (.ptr 0 (0+1)) λv=>C1 v (.agg y)=true:=Hp h.g0 y1 (Ho h.hy)
   cases e2:r==2 with
   | true=>
    refine A1 (AM (AU h.g0) (Hp h.g0 y1 (AH ((NL n 4 AA AA).over rfl rfl) ?_)));rintro _ ⟨w,rfl,hw1,tP⟩;refine I7 AA AA (AH ((Gs _).over rfl rfl) ?_);rintro _ rfl;refine Qa h.hy (ME _).Fy _ _ (AH ((SU (.AE _)).over rfl rfl) ?_);rintro _ rfl;refine AM (AU h.g1) (Gd f1 (Gd f1 (Gd f2 (Gd f2 (Rm hn GF hP h (u:=.mk 3 [] 0 [b.body,var (w-1)]) ⟨_,rfl,.inl (.AE _)⟩ ?_ ?_)))))
    .have:=hP.Ko
     grind[size,Ac]
    .exact⟨by grind[Q0],hF.ok,⟨by grind[Q0],Ai⟩,Ai⟩
   | false=>
    refine Ar (Av ?_);cases e3:r==3 with
    | true=>exact A1 (Af h.gq o1 (AM (AU h.g1) (Rm hn GF hP h h.ho (by have:=h.ot.1; omega) h.ot.2.2.2.1)))
    | false=>
     refine Ar (Av ?_);cases e4:r==4 with
     | true=>
      refine A1 (AH ((Gs _).over rfl rfl) ?_);rintro _ rfl;refine AH ((Gs _).over rfl rfl) ?_;rintro _ rfl;refine Qa (ME _).Fy (ME _).Fy _ _ (AH ((I1 (.AE _)).over rfl rfl) ?_);rintro _ rfl;refine AM (AU h.g0) (Hp h.g0 y1 (Qa (t:=.mk 2 [80,97,105,114] 0 [var 1,var 0]) ⟨_,rfl,.inl (.AE _)⟩ h.hy _ _ (AH ((SU (.AE _)).over rfl rfl) ?_)));rintro _ rfl;refine AM (AU h.g1) (Gd f1 (Gd f1 (Gd f1 (Gd f2 (Gd f2 (Gd f2 (Rm hn GF hP h (u:=.mk 3 [] 0 [.mk 2 [80,97,105,114] 0 [var 1,var 0],b.body]) ⟨_,rfl,.inl (.AE _)⟩ ?_ ?_)))))))
      .have:=hP.Ko
       simp only[size,Ac,var];omega
      .exact⟨by grind[Q0],⟨by simp[*,Q0],⟨by grind[Q0],Ai⟩,⟨by grind[Q0],Ai⟩,Ai⟩,hF.ok,Ai⟩
     | false=>grind[Ar,Yo]
end
section
variable {R:RT}
theorem AC6 (hn:MY R) (GF:Ae (env R) 16 [] λv=>v=BB true) {W:List (List UInt8)} (hW:(env R).G 1=some (EW W)) (sW:Short W) (h4:W.length=4) {b:Br} (hP:Pk R b) {bc:List AV} (hb:CU b (.agg bc)) (m:List Int) (hm:m.length<2 ^ 50) (how n:Int) :
  AKz R 0 0 0 (.pv (.list (Ad m))) (AG how) (AG n) (.ptr 0 0) ⟨[bc],[]⟩ (QP λv=>v=BB true):=by
 obtain⟨a,y,he,ha,hy⟩:=hb;cases he;obtain⟨y1,y2,y3⟩:=hy.cells;have hlen:=hP.len;have g0:([a::y]++[Z5])[0]?=some (a::y):=rfl;refine Aba (yq ?_);refine AM (AU g0) (AX (off:=0) g0 rfl ⟨⟨rfl,AK⟩,AC4 (s:=⟨[a::y]++[Z5],[]⟩) ha AD AA λxa ext hB AOQ=>?_⟩);have q0:([a::y]++[Z5]++ext)[0]?=some (a::y):=rfl;have q1:([a::y]++[Z5]++ext)[1]?=some Z5:=rfl;refine AM (AU q0) (Hp q0 y1 (HO (nk hB.ok.1 hB.ok.2 hy) (Bn q1 AB rfl AK (AO _) (by simp[hB.ok.1,y2]) (.inl (AO _)) ?_)));refine⟨AM (AU g0) (DL _ _),Hp g0 y1 (Ho hy),(show Ij Z5 Z5=true from rfl),(show Ij Z5 Z5=true from rfl),?_⟩;have hB0:HD (([a::y]++[Z5]++ext).set 1 (xa::y)) b.bounds xa:=hB.mono λj c h2 hc=>by grind
 have r0:(([a::y]++[Z5]++ext).set 1 (xa::y))[0]?=some (a::y):=rfl;have r1:(([a::y]++[Z5]++ext).set 1 (xa::y))[1]?=some (xa::y):=rfl
 have UD:∀c∈([a::y]++[Z5]++ext).set 1 (xa::y),∀N,(([a::y]++[Z5]++ext).set 1 (xa::y)).length<=N->Ag N c=true:=by
  intro c hc N hN;rcases ZD hc with hc|rfl
  .simp only[B7,A3,D4,D5] at hc
   rcases hc with (rfl|rfl)|hc
   .simp[Ag,ha.Ax,y3]
   .rfl
   grind
  .simp[Ag,hB0.ids hN,y3]
 show D0 (Dh R) _ _ _ ⟨([a::y]++[Z5]++ext).set 1 (xa::y),[]⟩ _
 generalize ([a::y]++[Z5]++ext).set 1 (xa::y)=B0 at hB0 r0 r1 UD;have Qq:=(BA.1 r1).1;refine CH (o9 rfl rfl (fQ m _ _)) ?_;rintro v s1 ⟨rfl,rfl⟩;have hSm:=Src.Ym m;have hBs:NM (B0++[K5 (.of m) 0]) B0.length (.of m):=⟨AD,λc hc=>by grind[bM],AA⟩;have h0:KT (B0++[K5 (.of m) 0]) []:=λb hb=>by grind
 have hST:∀k,Tel.ST (B0++[K5 (.of m) 0]) B0.length (.of m) k=B0++[K5 (.of m) k]:=λk=>by simp[Tel.ST]
 have e0:(⟨B0++[K5 (.of m) 0],[]⟩:AQ)=⟨Tel.ST (B0++[K5 (.of m) 0]) B0.length (.of m) 0++[],[]⟩:=AB
 show D0 (Dh R) _ _ _ ⟨B0++[K5 (.of m) 0],[]⟩ _
 rw[e0];refine AH (Yc.over rfl rfl) ?_;rintro dv ⟨rows,hD⟩;refine CH (o9 rfl rfl (W7 hBs hW h4 sW hD 2 AA h0 (k:=0) AA (CT (Dh R) 7 0 0 0) AD [] AD)) ?_;rintro x s1 ⟨o,k1,x1,hx,ho1,_,Te,rfl⟩;simp only[hST,Gy,Cc];obtain⟨oc,rfl⟩:=hx.agg;obtain⟨c1,c2,c3⟩:=hx.cells;refine Bm (Bn (Az (B0++[K5 (.of m) k1]) Z4) c1 rfl AK (AO _) c2 (.inl (AO _)) ?_);have e1:(B0++[K5 (.of m) k1]++[Z4]).set (B0++[K5 (.of m) k1]).length oc=B0++[K5 (.of m) k1]++[oc]:=AD
 show D0 (Dh R) _ _ _ ⟨(B0++[K5 (.of m) k1]++[Z4]).set (B0++[K5 (.of m) k1]).length oc,x1⟩ _
 rw[e1];have gq:=Az (B0++[K5 (.of m) k1]) oc
 have hAt:At R b o a xa y oc (B0++[K5 (.of m) k1]).length ⟨B0++[K5 (.of m) k1]++[oc],x1⟩:=by
  have up:∀j c,B0[j]?=some c->(B0++[K5 (.of m) k1]++[oc])[j]?=some c:=λj c hc=>by
   have:=(BA.1 hc).1;rw[Db,CX this];omega
  have hs:=ho1.1.2;have hvl:=ho1.2.2;simp only[vl,AI] at hvl;refine⟨up _ _ r0,up _ _ r1,gq,ha,hB0.mono λj c _ hc=>up j c hc,hy,hx,AB,λid hid=>?_,AA,hvl.2,hvl.1,ho1.1.1,AKg ho1.2.1⟩
  .rcases hB0 with ⟨_,h⟩|⟨id',cs,h,h1,_⟩
   all_goals grind
 generalize (B0++[K5 (.of m) k1]).length=q at hAt;generalize B0++[K5 (.of m) k1]++[oc]=B at hAt;refine AH ((NL how 6 AA AA).over rfl rfl) ?_;rintro _ ⟨r,rfl,_,_⟩;exact AC5 hn GF hP hAt n r
theorem sU (hn:MY R) (GF:Ae (env R) 16 [] λv=>v=BB true) {W:List (List UInt8)} (hW:(env R).G 1=some (EW W)) (sW:Short W) (h4:W.length=4) (l m:List Int) (hl:l.length<2 ^ 50) (hm:m.length<2 ^ 50) (k how n:Int) :
  Ae (Dh R) 7 [.pv (.list (Ad l)),.pv (.list (Ad m)),AG k,AG how,AG n] λv=>v=BB true:=by
 refine e7 (u0:=.pv (.list (Ad l))) (u1:=.pv (.list (Ad m))) (u2:=AG k) (u3:=AG how) (u4:=AG n) AD (Abb ?_);refine AH ((XA hn hW sW h4 l hl k).over rfl rfl) ?_;rintro _ ⟨x,b,ok,rfl,hb,hp⟩;obtain⟨bc,rfl⟩:=hb.agg;obtain⟨c1,c2,c3⟩:=hb.cells;refine CO rfl (CO rfl (Bm (Bn (Az [] Z5) c1 rfl AK (AO _) c2 (.inl (AO _)) (nt ?_))))
 show Dc _ (D0 _ _ _ _ ⟨[bc],[]⟩ _) (AKz R 0 0 0 _ _ _ (.ptr 0 0) ⟨[bc],[]⟩ _)
 cases ok with
 | false=>
  refine A1 (AH (GF.over rfl rfl) ?_);rintro _ rfl;exact⟨_,GX,rfl⟩
 | true=>grind[Ar,AC6]
end
end Go.Proofs.YtpgfpakdnijngaaGreatDoor
