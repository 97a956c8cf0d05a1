/-
  The reference's branches: every term.
-/
import Derived.Test.YtpgfpakdnijngaaGreatDoorTI
import Derived.Test.YtpgfpakdnijngaaGreatDoorTH
import Derived.Test.YtpgfpakdnijngaaGreatDoorW1
import Derived.Test.YtpgfpakdnijngaaGreatDoorTF
set_option linter.all false
namespace Go.Proofs.YtpgfpakdnijngaaGreatDoor
open Go.Tel
theorem Z7.le {M:Ms} {ω:Int->Nat} {S V:Nat} {b:Br} (h:Z7 M ω S b) (hl:S<=V):Z7 M ω V b:=⟨h.wb,h.inv,BK h.L5 hl⟩
def AB7 (M:Ms) (U:List Nat) (b:Br) (m:Nat) (Ss:List Nat):Prop:=∃args,b.body=.mk 3 [] 0 args/\args.length=m/\OB args=true/\CB (·<=·) (WT M (om U) args) Ss/\∀i:Nat,i<b.bounds.length->oI (·==(i:Int)) b.body=true
section
variable {A8:Nat->Bool} {M:Ms}
theorem AJs {U:List Nat} {b c:Br} {m w:Nat} {Ss:List Nat} (hb:AB7 M U b m Ss) (hc:Z7 M (om U) w c) (hs:((b.bounds.length+c.bounds.length:Nat):Int)<hole):AB7 M U ⟨b.bounds++c.bounds,match b.body with
  | .mk _ _ _ args=>.mk 3 [] 0 (args++[G0 b.bounds.length c.body])⟩ (m+1) (Ss++[w]):=by
 obtain⟨args,he,hl,hw,ha,hi⟩:=hb;rw[he];have hsw:wB (G0 b.bounds.length c.body)=true:=by rw[L6]; exact Om _ _ hc.wb
 refine⟨args++[G0 b.bounds.length c.body],rfl,AB,?_,?_,λi h=>?_⟩
 .grind[nK,OB]
 .rw[nH]
  refine CB.append ha ⟨?_,Ap⟩;rw[L6,ME _ _ _ _ hc.wb];refine BK (Nt M (λi=>?_) _) hc.L5
  grind[om]
 .have h:i<b.bounds.length+c.bounds.length:=by grind
  show oI _ (.mk 3 [] 0 (args++[G0 b.bounds.length c.body]))=true
  rw[oI];simp only[show((3:Int)==2)=false from rfl,AK,CW,CZ,nM,J9,Bool.or_false,De]
  by_cases hlt:i<b.bounds.length
  .grind[oI]
  .refine .inr ?_
   rw[L6];refine VX (i:=((i-b.bounds.length:Nat):Int)) ?_ (MT _ hc.wb) (hc.inv _ AA)
   grind
theorem zC {T:Nat} (hT:(T:Int)<hole) {U:List Nat}:∀{ls:List (List Br)} {ws vs Ss:List Nat} {out r:List Br} {N m:Nat},(CB (λl w=>∀c∈l,Z7 M (om U) w c) ls ws)->(CB (λl w=>∀c∈l,c.bounds.length<=w) ls vs) ->
  (∀b∈out,AB7 M U b m Ss/\b.bounds.length<=N)->N+vs.sum<=T->Ie A8 ls out=some r->∀d∈r,AB7 M U d (m+ls.length) (Ss++ws)
 | [],[],[],Ss,out,r,N,m,_,_,ho,_,h,d,hd=>by grind[Ie]
 | [],_::_,_,_,_,_,_,_,h,_,_,_,_,_,_=>h.elim
 | [],[],_::_,_,_,_,_,_,_,h,_,_,_,_,_=>h.elim
 | _::_,[],_,_,_,_,_,_,h,_,_,_,_,_,_=>h.elim
 | _::_,_::_,[],_,_,_,_,_,_,h,_,_,_,_,_=>h.elim
 | l::ls,w::ws,v::vs,Ss,out,r,N,m,⟨hw,hws⟩,⟨hv,hvs⟩,ho,hN,h,d,hd=>by
  rw[Ie] at h;rw[Ld] at hN;cases hb:A8 (HC out l).length with
  | true=>grind
  | false=>
   rw[hb] at h;have:=zC hT (N:=N+v) (m:=m+1) (Ss:=Ss++[w]) hws hvs (λb hb=>?_) AA h d hd
   .grind
   .obtain⟨a,ha,hb⟩:=NT.1 hb
    obtain⟨c,hc,rfl⟩:=CR.1 hb;obtain⟨h1,h2⟩:=ho a ha;have h3:=hv c hc;refine⟨AJs h1 (hw c hc) AA,?_⟩
    grind
theorem AFM:∀(f:Nat) (t:Ty) (l:List Br) (U:List Nat),(∀x∈U,1<=x)->valid t=true->CM (bw t)->DG A8 f t=some l->∀b∈l,Z7 M (om U) (sz M t U) b:=by
 intro f
 induction f with
 | zero=>
  grind[DG]
 | succ f ih=>
  intro t l U hU hv hs h d hd;obtain⟨k,n,i,ts⟩:=t;have LY:=hv;simp only[valid,AH] at hv;rw[DG] at h;have qZ:∀(hk:(k==6)=false) (hk2:(k==3||k==4)=true),∀t0∈ts,CM (bw t0):=by grind[Cu,bw,Fi,Dx]
  rcases LF hv.1 with ⟨rfl,rfl,rfl,rfl⟩|⟨rfl,rfl,rfl,rfl⟩|rfl|⟨rfl,rfl,rfl⟩|⟨rfl,rfl,rfl,hne⟩|⟨rfl,rfl,rfl,h0⟩|⟨rfl,rfl,rfl,b,body,rfl,hcb⟩
  .cases h
   rw[Df.1 hd];exact⟨rfl,λi hi=>by grind,AY _⟩
  .grind
  .cases h
   rw[Df.1 hd];obtain⟨r1,r2⟩:=AFI hv.1;have zu:wB (.mk 2 n i ts)=true:=by grind[wB,RP]
   refine⟨?_,λi hi=>by grind,?_⟩
   .simp_all[Lz,Om]
   .show wz M (om U) (qD _)<=_
    rw[Lz,ME _ _ _ _ zu];exact AY _
  .simp only[show((3:Int)==0)=false from rfl,show((3:Int)==2||(3:Int)==5)=false from rfl,AK,CW,AM] at h
   cases wo:FR (ts.map (DG A8 f)) with
   | none=>grind
   | some ls=>
    rw[wo] at h;simp only at h;have ha:=Ig wo;cases he:ls.any List.isEmpty with
    | true=>
     grind
    | false=>
     rw[he] at h;have W7:=qZ rfl rfl;have q1:CB (λl w=>∀c∈l,Z7 M (om U) w c) ls (ts.map λt=>sz M t U):=ha.HX λt l hm hg c hc=>ih t l U hU (Bw hv.2 hm) (W7 t hm) hg c hc
     have q2:CB (λl w=>∀c∈l,c.bounds.length<=w) ls (ts.map bw):=ha.HX λt l _ hg c hc=>(Cz f t l hg c hc).1
     obtain⟨args,a1,a2,a3,a4,a5⟩:=zC (T:=bw (.mk 3 [] 0 ts)) hs (N:=0) (m:=0) (Ss:=[]) q1 q2 (λb hb=>by
      rw[Df.1 hb];exact⟨⟨[],rfl,rfl,rfl,Ap,λi hi=>by grind⟩,AD⟩) (by grind[bw,Fi]) h d hd
     have hlen:ls.length=ts.length:=ha.length.symm;have hroot:=hv.1;have h6:ts.length<=6:=by grind[root,shape]
     refine⟨?_,a5,?_⟩
     .grind[wB]
     .rw[a1,wz,sz,QK]
      exact M.mono _ _ a4
  .simp only[show((4:Int)==0)=false from rfl,show((4:Int)==2||(4:Int)==5)=false from rfl,show((4:Int)==3)=false from rfl,AK,CW,AM] at h
   cases wo:FR (ts.map (DG A8 f)) with
   | none=>grind
   | some ls=>
    rw[wo] at h;simp only at h;have ha:=Ig wo;cases hb:A8 ls.flatten.length with
    | true=>grind
    | false=>
     rw[hb] at h;cases h;obtain⟨l',h1,h2⟩:=Sk.1 hd;obtain⟨t,h3,h4⟩:=ha.LD l' h1;refine(ih t l' U hU (Bw hv.2 h3) (qZ rfl rfl t h3) h4 d h2).le ?_;simp[*,sz,QK,AFK,Eb]
  .cases h
   rw[Df.1 hd];refine⟨rfl,λi hi=>by grind,?_⟩
   show om U (-1-i)<=U.getD i.toNat 1
   grind[om]
  .simp only[show((6:Int)==0)=false from rfl,show((6:Int)==2||(6:Int)==5)=false from rfl,show((6:Int)==3)=false from rfl,show((6:Int)==4)=false from rfl,AK,CW,AM,bX] at h
   simp only[BC,AH] at hv;obtain⟨_,KA,OW,_⟩:=hv;have hbw:bw (.mk 6 [] 0 [b,body])=bw body+1+(cv body+1)*bw b:=rfl;have fQ:CM (bw b):=Cu hs AB;have hsy:CM (bw body):=Cu hs AA;cases hb:DG A8 f body with
   | none=>grind
   | some l0=>
    rw[hb] at h;simp only at h;rcases Ju h d hd with h' | ⟨a,h1,s,h2,h3⟩
    .grind
    .obtain⟨z1,z2⟩:=Cz f body l0 hb a h1
     have e:sz M (.mk 6 [] 0 [b,body]) U=sz M body (max 1 (sz M b [])::U):=rfl;rw[e];have hw1:1<=max 1 (sz M b []):=Nat.le_max_left _ _
     have hbU:sz M b U=sz M b []:=by
      have:=Z3 M b [] U [] KA hcb
      grind
     refine zB (T:=bw (.mk 6 [] 0 [b,body])) (wv:=bw b) hw1 (ih body l0 _ (λx hx=>by grind) OW hsy hb a h1) (Uv f body l0 OW hsy hb a h1) (λl hl c hc=>⟨(ih b l U hU KA fQ hl c hc).le AA,Uv f b l KA fQ hl c hc,(Cz f b l hl c hc).1⟩) hs ?_ h2 d h3;have m1:(Ae a.body).length*bw b<=cv body*bw b:=B5 _ z2
     grind
end
mutual
theorem AR8 (g:Int->Int):∀t:Ty,wP t=true->size (Bs (λi=>var (g i)) t)=size t/\depth (Bs (λi=>var (g i)) t)=depth t
 | .mk k n i ts,h=>by
  rw[wP] at h;rw[Bs];cases h5:k==5 with
  | true=>
   rw[h5] at h;simp only[AM,AH,GM] at h;obtain⟨_,rfl⟩:=h;exact⟨rfl,rfl⟩
  | false=>
   rw[h5] at h;cases h2:k==2 with
   | true=>
    rw[h2] at h;simp only[AK,AM,AH] at h;have:=Z8 g ts h.2
    grind[size,depth]
   | false=>
    rw[h2] at h;simp only[AK] at h;have:=JO _ (λi=>var (g i)) h
    grind[Bs]
theorem Z8 (g:Int->Int):∀l:List Ty,X1 l=true->Ac (B7 (λi=>var (g i)) l)=Ac l/\Cf (B7 (λi=>var (g i)) l)=Cf l
 | [],_=>⟨rfl,rfl⟩
 | t::l,h=>by
  simp only[X1,AH] at h;have h1:=AR8 g t h.1;have h2:=Z8 g l h.2
  grind[B7,Ac,Cf]
end
theorem nQ:∀{l m:List Nat},CB (·<=·) l m->mx l<=mx m
 | [],[],_=>AY _
 | a::l,b::m,h=>by
  have h1:=h.1;have h2:=nQ h.2
  grind[mx]
def zD:Ms where
 c l:=1+l.sum
 nm:=size
 mono l m h:=by simp[*,UP]
 map g n i ts h:=by simp[*,size,Z8]
def zE:Ms where
 c l:=mx l+1
 nm:=depth
 mono l m h:=by simp[*,nQ]
 map g n i ts h:=by simp[*,depth,Z8]
theorem jd (i:Int):om [] i=1:=by simp[*,om]
mutual
theorem Z9:∀t:Ty,wB t=true->size t<=wz zD (om []) t/\depth t<=wz zE (om []) t
 | .mk k n i ts,h=>by
  rw[wB] at h;rw[wz,wz];cases h5:k==5 with
  | true=>
   rw[h5] at h;simp only[AM,AH,GM] at h;obtain⟨_,rfl⟩:=h;simp only[AM,jd];exact⟨AY _,AY _⟩
  | false=>
   rw[h5] at h;cases h3:k==3 with
   | true=>
    have h0:(k==0)=false:=AB;have h2:(k==2)=false:=AB;rw[h0,h2,h3] at h;simp only[AK,CZ,AH] at h;have:=eP ts h.2.2.2
    grind[size,zD,depth,zE]
   | false=>exact⟨AY _,AY _⟩
theorem eP:∀l:List Ty,OB l=true->Ac l<=(WT zD (om []) l).sum/\Cf l<=mx (WT zE (om []) l)
 | [],_=>⟨AY _,AY _⟩
 | t::l,h=>by
  simp only[OB,AH] at h;have h1:=Z9 t h.1;have h2:=eP l h.2
  grind[WT,Ac,Cf,mx]
end
section
variable {L:List Int} {g:Int->Int} (hinj:∀i∈L,∀j∈L,g i=g j->i=j)
include hinj
mutual
theorem eR:∀(b:Ty) (l:List Int),occs b l<+:L->occs (Bs (λi=>var (g i)) b) (l.map g)=(occs b l).map g
 | .mk k n i ts,l,hp=>by
  rw[Bs];cases h5:k==5 with
  | true=>
   have hi:i∈L:=hp.subset (Ih _ l i (by simp[vis,h5]));have hl:l<+:L:=(UH _ l).trans hp;rw[occs,h5];have e:(l.map g).contains (g i)=l.contains i:=AB
   grind[occs]
  | false=>
   cases h:(k==2||k==3) with
   | true=>
    rw[occs,h5,h] at hp;rw[occs,h5,h];simp only[AK,AM] at hp ⊢;rw[occs,h5,h];exact X4 ts l hp
   | false=>
    grind[occs]
theorem X4:∀(ts:List Ty) (l:List Int),E6 ts l<+:L->E6 (B7 (λi=>var (g i)) ts) (l.map g)=(E6 ts l).map g
 | [],l,_=>rfl
 | t::ts,l,hp=>by
  have _h:=hinj;rw[B7,E6,E6];rw[E6] at hp;rw[eR t l ((JY ts _).trans hp),X4 ts (occs t l) hp]
end
end
structure Cn (b:Br):Prop where
 wb:wB b.body=true
 top:ib false b.body=true
 vis:∀i∈vis b.body,0<=i/\i<(b.bounds.length:Int)
 occ:occs b.body []=(List.range b.bounds.length).map λ(i:Nat)=>(i:Int)
 inv:∀v:Nat,v<b.bounds.length->oI (·==(v:Int)) b.body=true
structure Can (t:Ty) (b:Br):Prop extends Cn b where
 EE:∀c∈b.bounds,WI t c
 L5:size b.body<=sz zD t []
 dep:depth b.body<=sz zE t []
mutual
theorem AFN:∀t:Ty,wB t=true->ib true t=true
 | .mk k n i ts,h=>by
  rw[wB] at h;rw[ib];cases h5:k==5 with
  | true=>simp
  | false=>
   rw[h5] at h;cases h0:k==0 with
   | true=>rfl
   | false=>
    rw[h0] at h;cases h2:k==2 with
    | true=>rfl
    | false=>
     rw[h2] at h;simp only[AK,AH] at h;simp only[GL,AK,h.1,zF ts h.2.2.2.2,Fo]
theorem zF:∀l:List Ty,OB l=true->ibL l=true
 | [],_=>rfl
 | t::l,h=>by
  simp only[OB,AH] at h;rw[ibL,AFN t h.1,zF l h.2];rfl
end
theorem AJt {t:Ty} (hv:valid t=true) (hc:CP 0 t=true) (hs:CM (bw t)) {l:List Br} (hl:DG (AU 32) (depth t) t=some l):∀b∈l,Can t (Dq b):=by
 intro b hb;obtain⟨ps,B,he,hm,hr,hB,Yp⟩:=mg hv hc hs hl;have h1:=AFM (A8:=AU 32) (M:=zD) (depth t) t l [] (λx hx=>by grind) hv hs hl b hb;have h2:=AFM (A8:=AU 32) (M:=zE) (depth t) t l [] (λx hx=>by grind) hv hs hl b hb;have hG:=Uv (A8:=AU 32) (depth t) t l hv hs hl b hb;have hbn:=(Cz (A8:=AU 32) (depth t) t l hl b hb).1;have hnd:(occs b.body []).Nodup:=FT b.body [] Et;have hrb:=hr b hb;have vH:∀i∈vis b.body,i∈occs b.body []:=λi hi=>Ih b.body [] i hi
 have hbd:=MT _ h1.wb;have hlen:(occs b.body []).length<=b.bounds.length:=dS _ _ hnd hrb;have AZf:=iK hbd (λi hi=>⟨(hrb i (vH i hi)).1,Int.lt_of_lt_of_le (hrb i (vH i hi)).2 (by grind[CM])⟩) (Cu hs AA);have hbody:(Dq b).body=Bs (λi=>var (pos (occs b.body []) i)) b.body:=AZf;have QU:(Dq b).bounds.length=(occs b.body []).length:=by simp[Dq]
 have hinj:∀i∈occs b.body [],∀j∈occs b.body [],((pos (occs b.body []) i:Nat):Int)=((pos (occs b.body []) j:Nat):Int)->i=j:=by grind[List.getElem?_of_mem,L1]
 have hsz:=Z9 _ h1.wb;have zy:wB (Dq b).body=true:=by rw[hbody]; exact Om _ _ h1.wb
 have hsd:size (Dq b).body<=wz zD (om []) b.body/\depth (Dq b).body<=wz zE (om []) b.body:=by
  have h3:=Z9 _ zy;rw[hbody,ME _ _ _ _ h1.wb,ME _ _ _ _ h1.wb] at h3;rw[hbody];exact⟨BK h3.1 (Nt _ (λi=>by grind[jd]) _),BK h3.2 (Nt _ (λi=>by grind[jd]) _)⟩
 have hinv:∀v:Nat,v<(Dq b).bounds.length->oI (·==(v:Int)) (Dq b).body=true:=by
  intro v LY;rw[QU] at LY;obtain⟨i,hi⟩:∃i,(occs b.body [])[v]?=some i:=⟨_,Au LY⟩;obtain⟨i0,i1⟩:=hrb i (A3 hi);rw[hbody];refine VX (g:=λi=>((pos (occs b.body []) i:Nat):Int)) (i:=i) (by grind[L1]) hbd ?_;have:=h1.inv i.toNat AA
  grind
 refine⟨⟨zy,?_,?_,?_,hinv⟩,?_,BK hsd.1 h1.L5,BK hsd.2 h2.L5⟩
 .rcases hk:(Dq b).body with ⟨k,n,i,ts⟩
  rw[hk] at zy;have hib:=AFN _ zy;rw[ib] at hib ⊢;cases h5:k==5 with
  | false=>grind
  | true=>
   exfalso;have aP:k=5:=AB;have hcv:vis (Dq b).body=[i]:=by grind[vis]
   have hpos:0<(Dq b).bounds.length:=by
    rw[QU];rcases hb0:b.body with ⟨k0,n0,i0,ts0⟩
    rw[hbody,hb0,Bs] at hk;cases h50:k0==5 with
    | true=>
     have:i0∈vis b.body:=by grind[vis]
     grind
    | false=>
     grind
   grind[oI]
 .simp_all[KY,kB,pos]
 .rw[hbody,QU]
  have:=eR (L:=occs b.body []) (g:=λi=>((pos (occs b.body []) i:Nat):Int)) hinj b.body [] (C9 _);rw[Co] at this;rw[this];refine Fm λj=>?_
  grind[L1]
 .intro c Kv
  have Kv:c∈(occs b.body []).map λi=>b.bounds.getD i.toNat aN:=Kv
  grind
structure MsB (M:Ms) (f:Nat->Nat) (a a2:Nat):Prop where
 tup:∀l m,l.length<=3->(∀x∈l,x<=m)->M.c l<=f m
 up:∀m,m<=f m
 n1:∀t,size t<=3->depth t<=2->M.nm t<=a
 n2:∀t,size t<=7->depth t<=3->M.nm t<=a2
 h2:a2<=f (f a)
 pos:1<=a
theorem je {m:Nat}:∀{l:List Nat},(∀x∈l,x<=m)->mx l<=m
 | [],_=>AN _
 | a::l,h=>by
  have h1:=h a AD;have h2:=je (l:=l) λx hx=>h x AB
  grind[mx]
section
variable {M:Ms} {f:Nat->Nat} {a a2:Nat} (H:MsB M f a a2)
include H
theorem eS {ts:List Ty} {U:List Nat} {m:Nat} (hl:ts.length<=3) (h:∀t∈ts,sz M t U<=m):M.c (szl M ts U)<=f m/\mx (szl M ts U)<=m:=by
 have hm:∀x∈szl M ts U,x<=m:=by grind[QK]
 exact⟨H.tup _ _ (by grind[QK]) hm,je hm⟩
theorem MF {d m v:Nat} {U:List Nat} {t:Ty} (h:gq d t=true) (hv:valid t=true)
  (WE:∀i:Int,t=.mk 5 [] i []->U.getD i.toNat 1<=v) (hnm:∀n i ts,t=.mk 2 n i ts->nz d t=true->M.nm t<=v) (ha:a<=v)
  (AR9:∀ts,(t=.mk 3 [] 0 ts\/t=.mk 4 [] 0 ts)->0<d->VI (d-1) ts=true->(∀t∈ts,sz M t U<=m)) (hm:0<d->f m<=v)
  (hex:∀b body,t=.mk 6 [] 0 [b,body]->0<d->gq 1 b=true->gq (d-1) body=true->valid b=true->valid body=true->CP 0 b=true->sz M body (max 1 (sz M b [])::U)<=v):sz M t U<=v:=by
 obtain⟨k,n,i,ts⟩:=t;have LY:=hv;simp only[valid,AH] at hv;rw[gq] at h;rcases LF hv.1 with ⟨rfl,rfl,rfl,rfl⟩|⟨rfl,rfl,rfl,rfl⟩|rfl|⟨rfl,rfl,rfl⟩|⟨rfl,rfl,rfl,hne⟩|⟨rfl,rfl,rfl,h0⟩|⟨rfl,rfl,rfl,b,body,rfl,hcb⟩
 .exact BK (H.n1 _ (by simp[size,Ac]) (by simp[depth,Cf])) ha
 .exact BK (H.n1 _ (by simp[size,Ac]) (by simp[depth,Cf])) ha
 .exact hnm n i ts rfl h
 .simp only[CW,D6,AM,AH,Cy] at h
  obtain⟨h1,h2⟩:=eS H h.2.1 (AR9 ts (.inl rfl) h.1 h.2.2);exact BK h1 (hm h.1)
 .simp only[CW,Dv,AM,AH,Cy] at h
  obtain⟨h1,h2⟩:=eS H h.2.1 (AR9 ts (.inr rfl) h.1 h.2.2);exact BK h2 (BK (H.up m) (hm h.1))
 .exact WE i rfl
 .simp only[show((6:Int)==3||(6:Int)==4)=false from rfl,AK,CW,AM,AH,Cy,gqX,VI] at h
  simp only[BC,AH] at hv;exact hex b body rfl h.1 h.2.1 h.2.2.1 hv.2.1 hv.2.2.1 hcb
theorem jf {U:List Nat} {v:Nat} (hU:∀x∈U,x<=v) (h1:1<=v) (i:Nat):U.getD i 1<=v:=by
 rw[Sl];cases hg:U[i]? with
 | none=>grind
 | some x=>exact hU x (A3 hg)
theorem aA {d v:Nat} {t:Ty} (hd:d<=1) (ha:a<=v) (h:nz d t=true):M.nm t<=v:=by
 unfold nz at h;rw[Ar hd] at h;simp only[AM,AH,Cy] at h;exact BK (H.n1 t h.1 h.2) ha
omit H in
theorem eT {t:Ty} {ts:List Ty} (e:t=.mk 3 [] 0 ts\/t=.mk 4 [] 0 ts) (hv:valid t=true):(∀u∈ts,valid u=true)/\(CP 0 t=true->∀u∈ts,CP 0 u=true):=by
 rcases e with rfl|rfl
 .simp only[valid,AH] at hv
  exact⟨λu hu=>Bw hv.2 hu,λhc u hu=>Fg AI (DZ hc AI) hu⟩
 .simp only[valid,AH] at hv
  exact⟨λu hu=>Bw hv.2 hu,λhc u hu=>Fg AI (DZ hc AI) hu⟩
omit H in
theorem aB {v:Nat} {t:Ty} (hv:valid t=true) (hc:CP 0 t=true) (i:Int) (e:t=.mk 5 [] i []):([]:List Nat).getD i.toNat 1<=v:=by
 subst e;have:=LB hc;have:=(EY hv).2.2;omega
theorem AJu {t:Ty} (h:gq 0 t=true) (hv:valid t=true) (hc:CP 0 t=true):sz M t []<=a:=
 MF H (m:=0) h hv (aB hv hc) (λn i ts e hn=>aA H AA (AY _) hn) (AY _) (λts e hd=>absurd hd AA) (λhd=>absurd hd AA) λb body e hd=>absurd hd AA
theorem jg {W:Nat} (hW:a<=W) {t:Ty} {U:List Nat} (hU:∀x∈U,x<=W) (h:gq 0 t=true) (hv:valid t=true):sz M t U<=W:=by
 have:=H.pos;exact MF H (m:=0) h hv (λi _=>jf H hU AA _) (λn i ts e hn=>aA H AA hW hn) hW (λts e hd=>absurd hd AA) (λhd=>absurd hd AA) λb body e hd=>absurd hd AA
theorem VY:∀(m:Nat) (t:Ty),depth t<=m->gq 1 t=true->valid t=true->CP 0 t=true->sz M t []<=f a:=by
 intro m
 induction m with
 | zero=>
  intro t hd;obtain⟨k,n,i,ts⟩:=t
  grind[depth]
 | succ m ih=>
  intro t hd h hv hc;have h1:=H.up a;have h2:=H.pos;refine MF H (m:=a) h hv (aB hv hc) (λn i ts e hn=>aA H AA h1 hn) h1 (λts e _ hg u hu=>?_) (λ_=>AY _) λb body e _ bp hgy KA OW hcb=>?_
  .obtain⟨q1,q2⟩:=eT e hv
   exact AJu H (Hi hg hu) (q1 u hu) (q2 hc u hu)
  .subst e
   simp only[depth,Cf] at hd;have h3:=ih b AA bp KA hcb;exact jg H h1 (λx hx=>by grind) hgy OW
theorem jh {t:Ty} {U:List Nat} (hU:∀x∈U,x<=f a) (h:gq 1 t=true) (hv:valid t=true):sz M t U<=f (f a):=by
 have h1:=H.up a;have h2:=H.up (f a);have h3:=H.pos;refine MF H (m:=f a) h hv (λi _=>BK (jf H hU AA _) h2) (λn i ts e hn=>aA H AA AA hn) AA (λts e _ hg u hu=>?_) (λ_=>AY _) λb body e _ bp hgy KA OW hcb=>?_
 .exact jg H h1 hU (Hi hg hu) ((eT e hv).1 u hu)
 .have h4:=VY H (depth b) b (AY _) bp KA hcb
  exact BK (jg H h1 (λx hx=>by grind) hgy OW) h2
omit H in
theorem nz2 {t:Ty} (h:nz 2 t=true):size t<=7/\depth t<=3:=by grind[nz]
theorem AJv {t:Ty} {U:List Nat} (hU:∀x∈U,x<=f a) (h:gq 2 t=true) (hv:valid t=true):sz M t U<=f (f (f a)):=by
 have h1:=H.up a;have h2:=H.up (f a);have h3:=H.pos;have h4:=H.up (f (f a));have h5:=H.h2;refine MF H (m:=f (f a)) h hv (λi _=>BK (jf H hU AA _) AA) (λn i ts e hn=>BK (H.n2 t (nz2 hn).1 (nz2 hn).2) AA) AA (λts e _ hg u hu=>?_) (λ_=>AY _) λb body e _ bp hgy KA OW hcb=>?_
 .exact jh H hU (Hi hg hu) ((eT e hv).1 u hu)
 .have h6:=VY H (depth b) b (AY _) bp KA hcb
  grind[jh]
theorem AJw {t:Ty} (h:gq 2 t=true) (hv:valid t=true) (hc:CP 0 t=true):sz M t []<=f (f a):=by
 have h1:=H.up a;have h2:=H.up (f a);have h3:=H.pos;refine MF H (m:=f a) h hv (aB hv hc) (λn i ts e hn=>BK (H.n2 t (nz2 hn).1 (nz2 hn).2) H.h2) AA (λts e _ hg u hu=>?_) (λ_=>AY _) λb body e _ bp hgy KA OW hcb=>?_
 .obtain⟨q1,q2⟩:=eT e hv
  exact VY H (depth u) u (AY _) (Hi hg hu) (q1 u hu) (q2 hc u hu)
 .have h6:=VY H (depth b) b (AY _) bp KA hcb
  grind[jh]
theorem zH {t:Ty} (h:gq 3 t=true) (hv:valid t=true) (hc:CP 0 t=true):sz M t []<=max (f (f (f a))) (M.nm t):=by
 have h1:=H.up a;have h2:=H.up (f a);have h3:=H.pos;have h4:=H.up (f (f a));refine MF H (m:=f (f a)) h hv (aB hv hc) (λn i ts e hn=>Nat.le_max_right _ _) AA (λts e _ hg u hu=>?_) (λ_=>Nat.le_max_left _ _) λb body e _ bp hgy KA OW hcb=>?_
 .grind[eT,AJw,Hi]
 .have h6:=VY H (depth b) b (AY _) bp KA hcb
  grind[AJv]
end
theorem nR {m:Nat}:∀{l:List Nat},(∀x∈l,x<=m)->l.sum<=l.length*m
 | [],_=>by simp
 | a::l,h=>by
  have h1:=h a AD;have h2:=nR (l:=l) λx hx=>h x AB
  grind[Nat.add_mul]
theorem ASA:MsB zD (λm=>1+3*m) 3 7 where
 tup l m hl h:=by
  have h1:=nR h;have h2:l.length*m<=3*m:=B5 _ hl
  show 1+l.sum<=_
  omega
 up m:=AA
 n1 t h _:=h
 n2 t h _:=h
 h2:=AI
 pos:=AI
theorem ASB:MsB zE (λm=>m+1) 2 3 where
 tup l m _ h:=by
  have:=je h
  show mx l+1<=_
  omega
 up m:=AA
 n1 t _ h:=h
 n2 t _ h:=h
 h2:=AI
 pos:=AI
theorem qx {t:Ty} (h:gq 3 t=true) (hvd:verdict t=0) (hc:CP 0 t=true):sz zD t []<=200/\sz zE t []<=12:=by
 obtain⟨hv,h1,h2⟩:=FX hvd;have h3:=zH ASA h hv hc;have h4:=zH ASB h hv hc;have e1:zD.nm t=size t:=rfl;have e2:zE.nm t=depth t:=rfl;omega
mutual
theorem zI:∀t:Ty,wP t=true->(∀i∈vis t,0<=i/\i<=200)->valid t=true/\plain t=true
 | .mk k n i ts,h,hi=>by
  rw[wP] at h;rw[vis] at hi;cases h5:k==5 with
  | true=>
   grind[plain,valid,BC,root,shape]
  | false=>
   rw[h5] at h hi;cases h2:k==2 with
   | true=>
    have:k=2:=AB;subst this;rw[h2] at h hi;simp only[AK,AM,AH,D6] at h hi;obtain⟨q1,q2⟩:=RR ts h.2 hi
    grind[nOk,plain,valid,root,shape]
   | false=>
    grind[SJ,plain]
theorem RR:∀l:List Ty,X1 l=true->(∀i∈DU l,0<=i/\i<=200)->BC l=true/\ET l=true
 | [],_,_=>⟨rfl,rfl⟩
 | t::l,h,hi=>by
  simp only[X1,AH] at h;rw[DU] at hi;have h1:=zI t h.1 λi hm=>hi i AB
  have h2:=RR l h.2 λi hm=>hi i AB
  grind[BC,ET]
end
mutual
theorem eU:∀t:Ty,wB t=true->(∀i∈vis t,0<=i/\i<=200)->valid t=true
 | .mk k n i ts,h,hi=>by
  rw[wB] at h;rw[vis] at hi;cases h5:k==5 with
  | true=>
   grind[valid,BC,root,shape]
  | false=>
   rw[h5] at h hi;cases h0:k==0 with
   | true=>
    have:k=0:=AB;subst this;simp only[h0,AK,AM,AH,HN,GM] at h;obtain⟨rfl,rfl,rfl⟩:=h;rfl
   | false=>
    rw[h0] at h;cases h2:k==2 with
    | true=>
     grind[RR,nOk,valid,root,shape]
    | false=>
     rw[h2] at h hi;simp only[AK,AH,HN,Cy] at h;obtain⟨rfl,rfl,rfl,h6,hl⟩:=h;have hi:∀i∈DU ts,0<=i/\i<=200:=hi;have q:=X5 ts hl hi
     grind[valid,root,shape]
theorem X5:∀l:List Ty,OB l=true->(∀i∈DU l,0<=i/\i<=200)->BC l=true
 | [],_,_=>rfl
 | t::l,h,hi=>by
  simp only[OB,AH] at h;rw[DU] at hi;rw[BC,eU t h.1 λi hm=>hi i AB,X5 l h.2 λi hm=>hi i AB];rfl
end
mutual
theorem ASC (g:Int->Ty):∀t:Ty,wP t=true->QJ g true t=Bs g t
 | .mk k n i ts,h=>by
  rw[wP] at h;rw[QJ,Bs];cases h5:k==5 with
  | true=>rfl
  | false=>
   rw[h5] at h;cases h2:k==2 with
   | true=>
    rw[h2] at h;simp only[AK,AM,AH] at h;simp only[AK,AM,D6,ji g ts h.2]
   | false=>
    rw[h2] at h;simp only[AK] at h;have:=JO _ g h
    grind[Bs]
theorem ji (g:Int->Ty):∀l:List Ty,X1 l=true->VT g true l=B7 g l
 | [],_=>rfl
 | t::l,h=>by
  simp only[X1,AH] at h;rw[VT,B7,ASC g t h.1,ji g l h.2]
end
mutual
theorem AFO (g:Int->Ty):∀t:Ty,wB t=true->QJ g false t=Bs g t
 | .mk k n i ts,h=>by
  rw[wB] at h;rw[QJ,Bs];cases h5:k==5 with
  | true=>rfl
  | false=>
   rw[h5] at h;cases h2:k==2 with
   | true=>
    grind[ji]
   | false=>
    cases h3:k==3 with
    | true=>
     have h0:(k==0)=false:=AB;rw[h0,h2,h3] at h;simp only[AK,CZ,AH] at h;simp only[AK,AM,O1,Fo,Dv,KH,zJ g ts h.2.2.2]
    | false=>rfl
theorem zJ (g:Int->Ty):∀l:List Ty,OB l=true->VT g false l=B7 g l
 | [],_=>rfl
 | t::l,h=>by
  simp only[OB,AH] at h;rw[VT,B7,AFO g t h.1,zJ g l h.2]
end
section
variable {b:Br} (hb:Cn b) (h6:b.bounds.length<=6)
include hb h6
theorem Cn.val:valid b.body=true:=eU _ hb.wb λi hi=>by
 have:=hb.vis i hi;omega
theorem Cn.pat:Im b.bounds.length b.body=tr (λi=>i.toNat) b.body:=by
 rw[Im,AFO _ _ hb.wb];refine Db _ λi hi=>?_
 have h1:=hb.vis i hi
 grind[gQ]
theorem Cn.ocp (v:Nat) (hv:v<b.bounds.length):DT v true (Im b.bounds.length b.body)=true:=by
 rw[hb.pat h6,ZG _ _ _ (MT _ hb.wb)];refine Z6 (λi hi=>?_) _ (hb.inv v hv)
 grind
theorem Cn.num:LG b.bounds.length (Im b.bounds.length b.body) []=(b.body,List.range b.bounds.length):=by
 have ho:=hb.occ;have hL:((List.range b.bounds.length).map λ(i:Nat)=>(i:Int)).Nodup:=by grind[FT]
 have hm:∀i∈(List.range b.bounds.length).map λ(i:Nat)=>(i:Int),∃j:Nat,j<b.bounds.length/\i=(j:Int):=AB
 have:=iJ (N:=b.bounds.length) (U:=λi=>i.toNat) (L:=(List.range b.bounds.length).map λ(i:Nat)=>(i:Int)) hL (λi hi j hj he=>by grind) (λi hi=>by grind) b.body [] (MT _ hb.wb) AB;rw[hb.pat h6];rw[Co] at this;rw[this,ho];congr 1
 .have e:=UI b.body (MT _ hb.wb)
  conv=>rhs; rw[<-e]
  refine Db _ λi hi=>?_
  obtain⟨h1,h2⟩:=hb.vis i hi;have:((List.range b.bounds.length).map λ(i:Nat)=>(i:Int))[i.toNat]?=some i:=AB
  grind[L1]
 .rw[Ox]
  have:((λi:Int=>i.toNat)∘λ(i:Nat)=>(i:Int))=id:=AR;rw[this,List.map_id]
theorem Cn.HY:HY b.bounds (Im b.bounds.length b.body)=b:=by
 rw[Go.Proofs.YtpgfpakdnijngaaGreatDoor.HY,hb.num h6];rcases b with ⟨bs,body⟩
 congr 1;refine Fm λj=>?_
 grind
end
mutual
theorem AJx:∀t:Ty,wP t=true->(∀i∈vis t,0<=i)->∀w,w∈RE 0 t<->w∈vis t
 | .mk k n i ts,h,hi,w=>by
  have Ff:SJ (.mk k n i ts)=true->(w∈RE 0 (.mk k n i ts)<->w∈vis (.mk k n i ts)):=λhc=>by grind[ZE,SJ,P7]
  rw[wP] at h;cases h5:k==5 with
  | true=>
   grind[vis,RE,Kq]
  | false=>
   rw[h5] at h;cases h2:k==2 with
   | true=>
    rw[h2] at h;simp only[AK,AM,AH] at h;have ZD:(k==6)=false:=AB;rw[vis,h5,h2] at hi;have:=aC ts k ZD 0 h.2 hi w
    grind[RE,vis]
   | false=>
    grind
theorem aC:∀(l:List Ty) (k:Int) (_:(k==6)=false) (j:Nat),X1 l=true->(∀i∈DU l,0<=i)->∀w,w∈Kq 0 k j l<->w∈DU l
 | [],_,_,_,_,_,w=>by rfl
 | t::l,k,hk,j,h,hi,w=>by
  simp only[X1,AH] at h;rw[DU] at hi;have e:0+EE k j=0:=by simp[EE,hk]
  have h1:=AJx t h.1 (λi hm=>hi i AB) w;have h2:=aC l k hk (j+1) h.2 (λi hm=>hi i AB) w
  grind[Kq,DU]
end
mutual
theorem zK:∀t:Ty,wB t=true->(∀i∈vis t,0<=i)->∀w,w∈RE 0 t<->w∈vis t
 | .mk k n i ts,h,hi,w=>by
  have h':=h;rw[wB] at h;cases h5:k==5 with
  | true=>
   grind[vis,RE,Kq]
  | false=>
   rw[h5] at h;have ZD:(k==6)=false:=AB;cases h2:k==2 with
   | true=>
    grind[vis,aC,RE]
   | false=>
    cases h3:k==3 with
    | true=>
     have h0:(k==0)=false:=AB;rw[h0,h2,h3] at h;simp only[AK,CZ,AH] at h;rw[vis,h5,h2,h3] at hi;have:=nS ts k ZD 0 h.2.2.2 hi w
     grind[RE,vis]
    | false=>
     grind[RE,vis,Kq]
theorem nS:∀(l:List Ty) (k:Int) (_:(k==6)=false) (j:Nat),OB l=true->(∀i∈DU l,0<=i)->∀w,w∈Kq 0 k j l<->w∈DU l
 | [],_,_,_,_,_,w=>by rfl
 | t::l,k,hk,j,h,hi,w=>by
  simp only[OB,AH] at h;rw[DU] at hi;have e:0+EE k j=0:=by simp[EE,hk]
  have h1:=zK t h.1 (λi hm=>hi i AB) w;have h2:=nS l k hk (j+1) h.2 (λi hm=>hi i AB) w
  grind[Kq,DU]
end
theorem Can.AZh {t:Ty} {b:Br} (hb:Can t b) (h6:b.bounds.length<=6) (hs:sz zD t []<=200/\sz zE t []<=12):verdict b.body=0:=by
 have h1:=hb.L5;have h2:=hb.dep;have e1:decide (200<size b.body)=false:=AB;have e2:decide (12<depth b.body)=false:=AB;rw[verdict,e1,e2,hb.val h6];rfl
theorem Cn.VB {b:Br} (hb:Cn b) (h6:b.bounds.length<=6) (hvd:verdict b.body=0) (hw:Nx b=true) {X:Ty->List Br×Int} (hX:(b.bounds.all λt=>Cg (X t))=true):VB X b:=by
 refine⟨hb.top,hvd,hw,λv hv=>hb.ocp h6 v hv,λl hl hm=>?_,by rw[hb.num h6],hX⟩
 have hr:((List.range b.bounds.length).map λ(i:Nat)=>(i:Int)).Pairwise (·<·):=by
  rw[List.pairwise_map];exact List.pairwise_lt_range.imp λh=>by omega
 have e:=SC hl hr λw=>by
  rw[hm,zK _ hb.wb (λi hi=>(hb.vis i hi).1),<-hb.occ];refine⟨λh=>Ih _ _ w h,λh=>?_⟩;rcases HZ _ _ w h with h|h
  all_goals grind
 grind
theorem Can.VB {t:Ty} {b:Br} (hb:Can t b) (h6:b.bounds.length<=6) (hs:sz zD t []<=200/\sz zE t []<=12) (hw:Nx b=true) {X:Ty->List Br×Int} (hX:(b.bounds.all λt=>Cg (X t))=true):VB X b:=hb.toCn.VB h6 (hb.AZh h6 hs) hw hX
attribute [local simp] Ia Mt Js KW ER Fh Eo wO setCells IM D5 DF Ce E2 alive DX KF Tl gY HW JM HI Ib Lr JN oY kj okB oZ oa oc od og fP oh oo oq ot ou ow oz o5 o6 o7 o8 okF o9 pE pF pG pH V7 pI Qm Qn Qo Qp pJ pK pL pM pN pO pP pQ pR pS Hu pT kn pU pV pW pX pY pZ pg pn pq pz Cp
set_option linter.unusedSectionVars false
mutual
theorem zL (c:Ty):∀(b:Ty) (k:Nat),k<(Ae b).length->∀i∈vis c,i∈vis (MQ c b k)
 | .mk q n j ts,k,h,i,hi=>by
  rw[Ae] at h;rw[MQ];cases b5:(q==5) with
  | true=>
   rw[b5] at h;simp only[AM,Bt,Bz] at h;have:k=0:=AA;subst this;exact hi
  | false=>
   rw[b5] at h;cases b3:(q==3) with
   | true=>
    rw[b3] at h;simp only[AM,AK] at h ⊢;rw[vis,b5,b3];simp only[AK,Dv,AM];exact nT c ts k h i hi
   | false=>
    rw[b3] at h;simp at h
theorem nT (c:Ty):∀(l:List Ty) (k:Nat),k<(Bk l).length->∀i∈vis c,i∈DU (Gl c l k)
 | [],k,h,_,_=>by simp[Bk] at h
 | t::l,k,h,i,hi=>by
  rw[Bk,Bd] at h;rw[Gl];cases b:decide (k<(Ae t).length) with
  | true=>
   simp only[AM,DU,B4];exact .inl (zL c t k (by simpa using b) i hi)
  | false=>
   simp only[AK,DU,B4];have:¬ k<(Ae t).length:=by simpa using b
   exact .inr (nT c l _ AA i hi)
end
theorem VZ:∀{l m:List Int},l.Nodup->(∀i∈l,i∈m)->l.length<=m.length
 | [],_,_,_=>AN _
 | a::l,m,hn,h=>by
  have ha:=h a AD
  have h1:=VZ (l:=l) (m:=m.erase a) (Sh.1 hn).2 λi hi=>by
   have hne:i≠a:=λe=>(Sh.1 hn).1 (e ▸ hi)
   exact(List.mem_erase_of_ne hne).2 (h i (by simp[hi]))
  have:=List.length_erase_of_mem ha;have:=List.length_pos_of_mem ha;simp only[Bt];omega
section
variable {b c:Br} (hb:Cn b) (h6:b.bounds.length<=6) {B:List Ty} (hB:b.bounds<+:B) {q:Ty} {ψ:List Nat} (H:Rl false 0 B b.bounds.length B.length [] c q ψ) {k:Nat} (hk:k<(Ae b.body).length) (hs:ψ.length<2 ^ 22)
include hb h6 hB H hk hs
theorem AB8:Rl false 0 B 0 B.length [] (Ct b k c) (Ip (λ_=>true) q (Im b.bounds.length b.body) k) (List.range b.bounds.length++ψ):=by
 have hh:(hole:Int)=1073741824:=rfl;have hl:(List.range b.bounds.length).length=b.bounds.length:=YY;obtain⟨e1,e2,e3,_⟩:=vE (φ:=List.range b.bounds.length) (σ:=[]) (v:=0) H AA;rw[hl] at e1 e2 e3;have hbd:=MT _ hb.wb;have hBl:=hB.length_le;refine⟨?_,?_,?_,?_,?_,?_,?_,?_⟩
 .rw[O3]
  refine⟨List.nodup_range,H.nd,λx hx y hy=>?_⟩;have:=H.Nj y hy;have:=Lc.1 hx;omega
 .intro x hx
  rcases B4.1 hx with hx|hx
  .have:=Lc.1 hx
   omega
  .have:=H.Nj x hx
   omega
 .simp[Ct,H.len]
 .intro i x hx
  show B[x]?=(b.bounds++c.bounds)[i]?
  by_cases hi:i<b.bounds.length
  .rw[CT (by simpa using hi)] at hx
   have:x=i:=by simpa[hi] using hx.symm
   subst this;rw[CT hi];exact Ly hB (Au hi) |>.trans (Au hi).symm
  .rw[EO (by simpa using hi)] at hx
   rw[EO AA,H.Kl _ _ hx,hl]
 .simp only[Bd,hl]
  omega
 .exact u9 _ e3 b.body k hbd
 .intro i hi
  rcases ZH _ b.body k i hi with h|h
  .have:=hb.vis i h
   simp only[Bd,hl];omega
  .have:=e2 i h
   simp only[Bd,hl];omega
 .have hr:=uz (φ:=OU (List.range b.bounds.length++ψ) [] 0) (λ_=>true) (G0 b.bounds.length c.body) b.body k k hbd ⟨_,Au hk,rfl⟩ (by simp; omega)
  show _=tr _ (MQ (G0 b.bounds.length c.body) b.body k)
  rw[hr,<-e1,hb.pat h6];congr 1;refine Db _ λi hi=>?_
  obtain⟨h1,h2⟩:=hb.vis i hi;have hne:(i==hole)=false:=AB
  have hg:(List.range b.bounds.length++ψ)[i.toNat]?=some i.toNat:=by
   rw[CT (by rw[hl]; omega),Ov AA]
  simp only[OU,hne,AK,Ar h1,AM,List.getD,hg,II]
theorem qy:(occs (Ct b k c).body []).length=b.bounds.length+(occs c.body []).length:=by
 have hh:(hole:Int)=1073741824:=rfl;have hl:(List.range b.bounds.length).length=b.bounds.length:=YY;obtain⟨e1,e2,e3,_⟩:=vE (φ:=List.range b.bounds.length) (σ:=[]) (v:=0) H AA;rw[hl] at e1 e2 e3
 have hcv:∀i∈vis c.body,0<=i/\i<ψ.length:=λi hi=>by
  rcases H.vis i hi with h|h|h
  all_goals grind
 have hsh:∀j,j∈vis (G0 b.bounds.length c.body)<->∃i∈vis c.body,j=i+b.bounds.length:=by
  intro j;rw[L6,KY];constructor
  .intro h
   obtain⟨i,hi,rfl⟩:=CR.1 h;have h1:=hcv i hi;have h2:(i==hole)=false:=AB;exact⟨i,hi,by simp[h1.1,h2]⟩
  .rintro⟨i,hi,rfl⟩
   have h1:=hcv i hi;have h2:(i==hole)=false:=AB;exact CR.2 ⟨i,hi,by simp[h1.1,h2]⟩
 have hm:∀i,i∈occs (Ct b k c).body []<->i∈(List.range b.bounds.length).map (λ(j:Nat)=>(j:Int))++(occs c.body []).map (·+(b.bounds.length:Int)):=by
  intro i
  have h1:i∈occs (Ct b k c).body []<->i∈vis (Ct b k c).body:=⟨λh=>by
   rcases HZ _ _ i h with h|h
   .cases h
   .exact h,Ih _ _ i⟩
  have h2:∀j,j∈occs c.body []<->j∈vis c.body:=λj=>⟨λh=>by
   rcases HZ _ _ j h with h|h
   .cases h
   .exact h,Ih _ _ j⟩
  rw[h1,B4,CR,CR];constructor
  .intro h
   rcases ZH _ b.body k i h with h|h
   .obtain⟨h3,h4⟩:=hb.vis i h
    exact .inl ⟨i.toNat,Lc.2 AA,AA⟩
   .obtain⟨j,hj,rfl⟩:=(hsh i).1 h
    exact .inr ⟨j,(h2 j).2 hj,rfl⟩
  .rintro(⟨j,hj,rfl⟩|⟨j,hj,rfl⟩)
   .have:=Z2 _ (G0 b.bounds.length c.body) _ k (hb.inv j (Lc.1 hj))
    obtain⟨x,hx,he⟩:=iG _ _ this;have:x=(j:Int):=by simpa using he
    exact this ▸ hx
   .exact zL _ _ _ hk _ ((hsh _).2 ⟨j,(h2 j).1 hj,rfl⟩)
 have n1:(occs (Ct b k c).body []).Nodup:=FT _ _ Et
 have n2:((List.range b.bounds.length).map (λ(j:Nat)=>(j:Int))++(occs c.body []).map (·+(b.bounds.length:Int))).Nodup:=by
  rw[O3];refine⟨hb.occ ▸ FT _ _ Et,?_,?_⟩
  .exact List.pairwise_map.2 ((FT c.body [] Et).imp λh=>by omega)
  .intro x hx y hy
   obtain⟨i,hi,rfl⟩:=CR.1 hx;obtain⟨j,hj,rfl⟩:=CR.1 hy
   have h3:0<=j:=by
    rcases HZ _ _ j hj with h|h
    .cases h
    .exact(hcv j h).1
   have:=Lc.1 hi;omega
 have l1:=VZ n1 λi hi=>(hm i).1 hi
 have l2:=VZ n2 λi hi=>(hm i).2 hi
 simp only[Bd,Bm,YY] at l1 l2;omega
theorem rA:(Ae (Ct b k c).body).length+1=(Ae b.body).length+(Ae c.body).length:=by
 have e:Ae (Ct b k c).body=_:=Ni (G0 b.bounds.length c.body) b.body k hk;rw[e,L6,Dp];simp;omega
end
theorem rC {b:Br} (hbd:bd b.body=true) (hv:∀i∈vis b.body,0<=i/\i<hole) (hl:CM (occs b.body []).length):(Ae (Dq b).body).length=(Ae b.body).length/\(Dq b).bounds.length=(occs b.body []).length:=by
 refine⟨?_,by simp[Dq]⟩
 show(Ae (SL _ _ (SK _ _ _ b.body))).length=_
 rw[iK hbd hv hl,Dp,Bm]
abbrev MY:Int->Bool:=λ_=>true
abbrev rD (B:List Ty) (body:Ty) (k:Nat) (c:Ty):Br:=HY B (Ip MY c body k)
section
variable {R:RT}
theorem AB9 {C:Nat}:RcF R C 60 [] MY (λ_=>True) where
 call:=λbs tk hs _ i L=>by
  obtain⟨v,rfl,h⟩:=e60 (R:=R) (t0:=AG i) (Post:=λr=>r=BB true) AR (ASD ⟨_,rfl,rfl⟩);exact h L _
 set:=λ_ _ h=>h
 ext:=λ_ _ _ h _=>h
theorem ACA (hn:Pc R) {B:List Ty} (iY:B.length<=2 ^ 37) (hB:∀t∈B,size t<2 ^ 38/\R3 t=true) {k:Nat} {body:Ty} (aO:size body<2 ^ 20) (hbt:FH B.length body=true) (hk:k<BX MY body) {ps:List Ty} (Kt:ps.length<2 ^ 20) (hps:∀p∈ps,size p<2 ^ 36/\FH B.length p=true) {a:AV} (ha:BE a (Ad (CA ps))) {n e y8:Nat} {X:List (List AV)} {d ml:AV} (hX:X[e]?=some [d,ml]) (hd:BE d (Ad B)) {bc:List AV} (hX8:X[y8]?=some bc) (hbc:BP (ren body) (.agg bc)) {Np:List (Nat×Nat)} {QR:QT}
  (hS:∀bs tk v,BI ⟨bs,tk⟩->bs.take n=X->n<=bs.length->Cd (.AE []) (.AE []) Np tk->EB n bs (ps.map (rD B body k)) v->QR (.tuple [v,BB true]) ⟨bs,tk⟩) :
  ∀(j p:Nat) (bs:List (List AV)) (tk:List (Nat×Nat)) (t11:AV),p+j=ps.length->BI ⟨bs,tk⟩->bs.take n=X->n<=bs.length->EB n bs ((ps.take p).map (rD B body k)) t11->Cd (.AE []) (.AE []) Np tk ->
   AFP R 0 0 0 (AG k) (.ptr e 0) (.ptr y8 0) t11 a (AG ps.length) (AG p) ⟨bs,tk⟩ QR:=by
 obtain⟨hb4,hbo,hbi⟩:=hbc.cells;have hcb:=L2 MY body;intro j
 induction j with
 | zero=>
  intro p bs tk t11 hi hs hT Mi h7 hch;refine AFQ (Ao ?_);rw[Az AA];rw[CU AA] at h7;exact Ay (ASE (hS bs tk t11 hs hT Mi hch h7))
 | succ j D1=>
  intro p bs tk t11 hi hs hT Mi h7 hch;refine AFQ (Ao ?_);rw[Ar AA];obtain⟨c,hc⟩:∃c,ps[p]?=some c:=⟨_,Au AA⟩;have Kv:=A3 hc;obtain⟨c1,c2⟩:=hps c Kv;have hrc:(CA ps)[p]?=some (ren c):=by grind[Bo]
  have hrl:((Aj (ren c)).map AV.pv).length=4:=by grind[Al]
  have hro:=DE (ren c)
  have Ku:Ah (bs.length+1) ((Aj (ren c)).map AV.pv)=true:=by
   obtain⟨k1,n1,i1,t1⟩:=ren c;rfl
  have D4:=A7.Bi (ren c);have Vl:ps.take (p+1)=ps.take p++[c]:=by grind[List.take_add_one]
  refine A9 (ASF (BS ha (row:=Aj (ren c)) AA (by grind[BJ]) (Al _) AA (Ca (Bj ?_))));generalize (Aj (ren c)).map AV.pv=row at hrl hro Ku D4;refine Bq (Ax bs Z4) hrl rfl AI (AN _) hro (.inl (AN _)) ?_;have e1:(bs++[Z4]).set bs.length row=bs++[row]:=AD;rw[e1];refine Bj ?_;have ebl:(bs++[row]).length=bs.length+1:=AD;have gC0:(bs++[row]++[[AG 0]])[bs.length+1]?=some [AG 0]:=AD;simp only[ebl];refine C2 gC0 AI rfl (AN _) rfl (.inl (AN _)) ?_;have e2:(bs++[row]++[[AG 0]]).set (bs.length+1) ([AG 0].set 0 (AG k))=bs++[row]++[[AG k]]:=AD
  show D5 _ ⟨(bs++[row]++[[AG 0]]).set (bs.length+1) ([AG 0].set 0 (AG k)),tk⟩ _ _ _
  rw[e2];have hs1:BI ⟨bs++[row],tk⟩:=BI.app (s:=⟨bs,tk⟩) hs Ku;have hs2:BI ⟨bs++[row]++[[AG k]],tk⟩:=BI.app (s:=⟨bs++[row],tk⟩) hs1 rfl;have gC:(bs++[row]++[[AG k]])[bs.length+1]?=some [AG k]:=AD;have gr:=Ai (Ax bs row) [AG k];have Ny:=(DI (n:=n) AA [AG k]).trans ((DI Mi row).trans hT);have h71:EB n (bs++[row]++[[AG k]]) ((ps.take p).map (rD B body k)) t11:=h7.mono (AY _) λj c _ hj=>Ai (Ai hj _) _
  have lb:(bs++[row]++[[AG k]]).length=bs.length+2:=AD;generalize bs++[row]++[[AG k]]=b1 at gC hs2 gr Ny h71 lb;have g8:b1[y8]?=some bc:=CD Ny hX8;refine Ag g8 hb4 (Ag gr hrl ?_);obtain⟨w1,s1',⟨KS,ds,rfl,r1,r2,rfl⟩,r3⟩:=Zb hn (N:=2 ^ 40) (AY _) (C:=bs.length+1) (AB9 (R:=R)) (b:=c) D4 body AA (by grind[IV,E8]) (.agg bc) hbc k ⟨b1,tk⟩ hs2 AA AA (Ce (env R) 24 0 0 0) rfl rfl gC Ap;rw[ic MY c body k hk] at r1;have hs3:BI ⟨b1.set (bs.length+1) [AG (k-BX MY body)],KS⟩:=BI.set (s:=⟨b1,tk⟩) hs2 rfl _;have Hh:(b1.set (bs.length+1) [AG (k-BX MY body)]).take n=X:=(Cj AA).trans Ny
  have h72:EB n (b1.set (bs.length+1) [AG (k-BX MY body)]) ((ps.take p).map (rD B body k)) t11:=by
   rcases h71 with h|⟨id,rows,q1,q2,q3,q4⟩
   .exact .inl h
   .refine .inr ⟨id,rows,q1,q2,BQ q3 ?_,q4⟩
    rcases h7 with ⟨h,_⟩|⟨id',EK,_,h,h',_⟩
    all_goals grind
  have lb2:(b1.set (bs.length+1) [AG (k-BX MY body)]).length=bs.length+2:=by rw[O4,lb]
  refine⟨_,_,r3,?_⟩;generalize b1.set (bs.length+1) [AG (k-BX MY body)]=b2 at hs3 Hh h72 lb2;have sL:b2[e]?=some [d,ml]:=CD Hh hX;have hq:=Nk (m:=MY) (b:=c) body k hk
  have htq:FH B.length (Ip MY c body k)=true:=by
   rw[IV] at c2 hbt ⊢;exact Pg c2 body k hbt
  obtain⟨w,s',⟨I6,q5,q6,rfl⟩,q7⟩:=R5 (R:=R) hn (L:=Ce (env R) 24 0 0 0) (p:=Ip MY c body k) (s:=⟨b2,KS⟩) AA (λt ht=>⟨.of (hB t ht).1,(hB t ht).2⟩) AA htq r1 hs3 sL hd rfl rfl;refine⟨_,_,q7,?_⟩;obtain⟨dh,rfl⟩:=q5.agg;obtain⟨x1,x2,x3⟩:=q5.cells;have LP:=(hch.trans r2).trans q6;refine L9 q5 ⟨AI,?_⟩;have hs4:BI ⟨b2++[dh],I6⟩:=BI.app (s:=⟨b2,I6⟩) hs3 (x3 _);have h73:EB n (b2++[dh]) ((ps.take p).map (rD B body k)) t11:=h72.mono (AY _) λj c _ hj=>Ai hj _
  have QV:=(DI (n:=n) AA dh).trans Hh;refine jJ (s:=⟨b2++[dh],I6⟩) q5 (Ax b2 _) h73 rfl AB ?_ (by simp; omega);intro a' bs' QS MU hb3 hb4 _;have hs5:=hb4 hs4
  have sK:bs'.take n=X:=by
   rw[<-QV];refine Fm λj=>?_
   by_cases hj:j<n
   .rw[KJ hj,KJ hj]
    have hj2:j<(b2++[dh]).length:=by simp; omega
    have h1:(b2++[dh])[j]?=some (b2++[dh])[j]:=Au hj2
    rw[MU j _ (λm h=>by
     rcases h73 with ⟨h2,_⟩|⟨id,rows,h2,h3,_⟩
     all_goals grind) h1,h1]
   grind
  have xG:n<=bs'.length:=by
   simp only[Bd] at hb3;omega
  have em:(ps.take (p+1)).map (rD B body k)=(ps.take p).map (rD B body k)++[rD B body k c]:=by rw[Vl,Ow]; rfl
  refine ASG (Ba AA AA ?_);have:=D1 (p+1) bs' I6 a' AA hs5 sK xG (by rw[em]; exact QS) LP
  grind
end
theorem ACB {f:Nat} {t:Ty} (h:¬ (xR f t).2=0):(xR f t).1=[]:=by
 cases f with
 | zero=>rfl
 | succ f=>
  grind[xR]
theorem AJy {t:Ty} (hs:verdict t=0->CM (bw t)) (h0:(xR (depth t) t).2=0):verdict t=0/\Go.Proofs.YtpgfpakdnijngaaGreatDoor.CP 0 t=true/\∀b∈(xR (depth t) t).1,Can t b/\Nx b=true/\(b.bounds.all λc=>Cg (xR (depth t-1) c))=true:=by
 obtain⟨f,hf⟩:∃f,depth t=f+1:=by
  obtain⟨k,n,i,ts⟩:=t;exact⟨Cf ts,rfl⟩
 grind[AJt,xR,FX]
structure Pk (R:RT) (b:Br):Prop where
 cn:Cn b
 cl:∀c∈b.bounds,CP 0 c=true
 bw:∀c∈b.bounds,bw c<=1859359
 ok:∃f,∀c∈b.bounds,depth c<=f/\Cg (xP f c)=true
 vb:∃X,VB X b/\∀c∈b.bounds,XOk R c (X c)
 bs:∀c∈b.bounds,size c<=200/\valid c=true/\Fit c
 len:b.bounds.length<=6
 L5:size b.body<=200
 val:valid b.body=true
section
variable {R:RT}
theorem ASH (hn:Pc R) {t:Ty} (hg:gq 3 t=true) (Sz:verdict t=0) (hc:CP 0 t=true) {b:Br} (hb:Can t b) (hw:Nx b=true) (hX:(b.bounds.all λc=>Cg (xR (depth t-1) c))=true):Pk R b:=by
 obtain⟨hv,ARx,h12⟩:=FX Sz;have hft:=ARw hg Sz;have hs:=qx hg Sz hc;have h6:b.bounds.length<=6:=by grind[Nx]
 have hbw:Go.Proofs.YtpgfpakdnijngaaGreatDoor.bw t<=1859359:=by
  have e:gqQ 3=⟨3150,1859359,630225,23403,27⟩:=AW;have:=yX 3 t hg ARx h12;rw[e] at this;exact this.b
 refine⟨hb.toCn,λc hc=>(hb.EE c hc).cl,λc hc=>BK (hb.EE c hc).bws hbw,⟨depth t-1,λc Kv=>?_⟩,⟨xR (depth t-1),hb.VB h6 hs hw hX,λc Kv=>?_⟩,λc Kv=>?_,h6,BK hb.L5 hs.1,hb.val h6⟩
 .have h1:=hb.EE c Kv
  have h2:=C3.1 hX c Kv;refine⟨by have:=h1.dep; omega,?_⟩;rw[APg (depth t-1) c λ_=>(hft.sub h1).bws];exact h2
 .have h1:=hb.EE c Kv
  have:=U6 (R:=R) hn (depth t-1) c (by have:=h1.dep; omega) (by have:=h1.L5; omega) (LR c h1.val) (λ_=>hft.sub h1);rw[APg (depth t-1) c λ_=>(hft.sub h1).bws] at this;omega
 .have h1:=hb.EE c Kv
  exact⟨by have:=h1.L5; omega,h1.val,hft.sub h1⟩
theorem rxO {t:Ty} (hsz:size t<2 ^ 60) (hok:ZC t) (hfit:verdict t=0->Fit t) (x:AV) (hx:BP t x):Af (env R) 15 [x] λr=>∃a,r=.tuple [a,AG (xR (depth t) t).2]/\A2 a ((xR (depth t) t).1.map Di):=by
 obtain⟨x',h1,h2⟩:=hx.closed [] 0;exact Af.open (args':=[x']) AR AR rfl (by simp[*]) (by simp[BR,h2.IU]) (eD (depth t) t (AY _) hsz hok hfit x' h2)
theorem MX.Fj {b:Br} {x:AV} (h:MX b x):CG b x:=by
 obtain⟨a,y,rfl,ha,hy⟩:=h;exact⟨a,y,rfl,.inl ha,hy.Fj⟩
theorem CG.ACC {b:Br} {row:List AV} (h:CG b (.agg row)) (bs:List (List AV)):∃r',BR bs 0 0 row=some r'/\MX b (.agg r'):=by
 obtain⟨a,y,he,ha,ht⟩:=h;cases he;rcases hb:b.body with ⟨k,n,i,ts⟩
 rw[hb] at ht;obtain⟨a2,hy,SH⟩:=ht;cases hy;obtain⟨a',h1,h2⟩:=ha.closed bs 0;obtain⟨a2',h3,h4⟩:=SH.closed bs 0;exact⟨[a',AG k,SS n,AG i,a2'],by simp[*],a',[AG k,SS n,AG i,a2'],rfl,h2,by rw[hb]; exact⟨a2',rfl,h4⟩⟩
def PkA (R:RT) (v:AV):Prop:=∃x b ok,v=.tuple [x,BB ok]/\MX b x/\size b.body<=200/\(ok=true->Pk R b)
theorem WU (hn:Pc R) {W:List (List UInt8)} (hW:(env R).G 1=some (Ez W)) (sW:Short W) (h4:W.length=4) (l:List Int) (hl:l.length<2 ^ 50) (k:Int) :
  Af (env R) 22 [.pv (.list (Ab l)),AG k] (PkA R):=by
 refine e22 (u0:=.pv (.list (Ab l))) (u1:=AG k) AD (ASI (Bj ?_));refine Cs (yZ l _ _) ?_;rintro v s1 ⟨rfl,rfl⟩;have hSl:=Src.rF l;have hB:Oj [Z5,VM (.of l) 0] 1 (.of l):=⟨AD,by simp[nU,Ah,Aw],AA⟩;have h0:LV [Z5,VM (.of l) 0] []:=λb hb=>by grind
 have e0:(⟨[]++[Z5]++[VM (.of l) 0],[]⟩:AQ)=⟨Tel.ST [Z5,VM (.of l) 0] 1 (.of l) 0++[],[]⟩:=AR
 show He (env R) _ _ _ ⟨[]++[Z5]++[VM (.of l) 0],[]⟩ _
 rw[e0];refine AL qw ?_;rintro dv ⟨rows,hD⟩;refine Cs (Z0 hB hW h4 sW hD h0 (k:=0) AA (Ce (env R) 22 0 0 0) AD [] AD) ?_;rintro x s1 ⟨t,k1,x1,hx,ht1,_,TD,rfl⟩;have g0:(Tel.ST [Z5,VM (.of l) 0] 1 (.of l) k1++[])[0]?=some Z5:=AR;generalize Tel.ST [Z5,VM (.of l) 0] 1 (.of l) k1++[]=bs at g0;have sz:=ht1.1.2;have hf1:=ARw ht1.2.1;have hX2:=rxO (R:=R) (t:=t) AA ht1.1.1 hf1;obtain⟨l1,_⟩:=AJm (f:=depth t) hf1;have hcan:=AJy (t:=t) λh=>(hf1 h).bws
 have hnone:=λh=>ACB (f:=depth t) (t:=t) h
 generalize xR (depth t) t=o at hX2 l1 hcan hnone;refine AL (hX2 _ hx) ?_;rintro _ ⟨a,rfl,ha⟩;refine B9 rfl (B9 rfl (Aq (n:=o.1.length) (by rw[ha.BA,Bm]) (A0 ?_)));cases h:((o.1.length:Int)==0) with
 | true=>
  refine A9 (Hg (cs:=Z5) rfl (Bq g0 rfl rfl AI (AN _) rfl (.inl (AN _)) (Ag (BZ g0) rfl ?_)));exact⟨_,rfl,.agg Z5,⟨[],.mk 0 [] 0 []⟩,false,rfl,⟨_,_,rfl,.AE _,_,rfl,.AE _⟩,AI,λh=>by cases h⟩
 | false=>
  have hpos:0<o.1.length:=AB;refine Ay (ASJ (Aq (n:=o.1.length) (by rw[ha.BA,Bm]) (AL (VJ k _ AA AA) ?_)));rintro _ ⟨r,rfl,Tk,Ng⟩;obtain⟨j,rfl⟩:∃j:Nat,r=(j:Int):=⟨r.toNat,AA⟩;obtain⟨b,hb⟩:∃b,o.1[j]?=some b:=⟨_,Au AA⟩;have td:=A3 hb;refine ABv (.inr (.inl ha)) hb λrow hrow=>?_
  obtain⟨c1,c2,c3⟩:=hrow.cells;refine Bq g0 c1 rfl AI (AN _) c2 (.inl (AN _)) (Ag (BZ g0) c1 ?_);have hz:o.2=0:=Decidable.byContradiction λhz=>by grind
  obtain⟨Sz,hc,dZ⟩:=hcan hz;obtain⟨z1,z2,z3⟩:=dZ b td;have hpk:=ASH hn ht1.2.1 Sz hc z1 z2 z3;obtain⟨r',h1,h2⟩:=hrow.ACC (bs.set 0 row);refine⟨.tuple [.agg r',BB true],by simp[*],.agg r',b,true,rfl,h2,?_,λ_=>?_⟩
  .exact hpk.L5
  exact hpk
end
section
variable {R:RT}
structure SpF (b:Br) (t:Ty) (cs Bf:List Ty):Prop where
 pre:b.bounds<+:Bf
 len:Bf.length<=6+nb t
 EE:∀c∈Bf,size c<2 ^ 38/\R3 c=true
 pat:∀p∈cs,size p<2 ^ 36/\FH Bf.length p=true
 num:cs.length<=32
theorem eV {b:Br} (hp:Pk R b) {t:Ty} (ht:t∈b.bounds) {cs Bf:List Ty} (h:A4 (AU 32) (depth t) t b.bounds=(some cs,Bf)):SpF b t cs Bf:=by
 obtain⟨hsz,hv,hft⟩:=hp.bs t ht;have hc:=hp.cl t ht;have h6:=hp.len;have hpre:=Fc (A8:=AU 32) (depth t) t b.bounds;have hnb:=Zh (depth t) t [] b.bounds hv hc hft.bws (λx hx=>by cases hx);rw[C8 hv hc] at hnb;have M3:=Jz (A8:=AU 32) AR (depth t) t b.bounds cs (by rw[h])
 have hkeep:=RA (A8:=AU 32) (P:=λc=>size c<2 ^ 38/\R3 c=true) (depth t) t [] hv hc (Q7 (λc hs=>⟨by have:=hs.L5; omega,RG hs.val hs.cl⟩) t (dU _ t (AY _) hv)) b.bounds (λc hm=>by
  obtain⟨q1,q2,_⟩:=hp.bs c hm;exact⟨AA,RG q2 (hp.cl c hm)⟩)
 rw[C8 hv hc] at hkeep;rw[h] at hpre hnb hkeep;simp only at hnb;refine⟨hpre,AA,hkeep,λp hm=>?_,by simpa using M3⟩
 obtain⟨q1,q2⟩:=Gn (A8:=AU 32) (depth t) t b.bounds Bf.length (qM Bf.length) cs (λi h1 h2=>by grind) (by
  have:=Gq (q:=λi=>qM Bf.length i&&decide (i<(b.bounds.length:Nat))) (σ:=[]) (λx hx=>by cases hx) t 0 hv;rwa [C8 hv hc] at this) (by rw[h]) (by rw[h]; exact AY _) p hm
 refine⟨by have:=hft.wZ; omega,?_⟩;rw[IV];exact q1
theorem jk (hn:Pc R) {b:Br} (hp:Pk R b) {x:AV} (hx:MX b x) {k v:Nat} (hkv:(Ae b.body)[k]?=some (v:Int)) {t:Ty} (ht:b.bounds[v]?=some t) {cs Bf:List Ty} (hcs:A4 (AU 32) (depth t) t b.bounds=(some cs,Bf)) {s:AQ} (hs:BI s) {L:BL} (hn0:L.n0=0) (hro:L.ro=0) (Ee:L.rt=0) :
  ∃r s',(∃a,r=.tuple [a,BB true]/\EB s.bs.length s'.bs (cs.map (rD Bf (Im b.bounds.length b.body) k)) a/\s'.bs.take s.bs.length=s.bs/\s.bs.length<=s'.bs.length/\BI s')/\BW (env R) L 24 [x,AG k] s r s':=by
 have Pz:=A3 ht;have hF:=eV hp Pz hcs;obtain⟨hsz,hv,hft⟩:=hp.bs t Pz;have hc:=hp.cl t Pz;have h6:=hp.len;have hbz:=hp.L5;have hnb:=hft.nbs;have hpz:size (Im b.bounds.length b.body)<=size b.body:=eH _ b.body false (AY _);have hk:=(BH.1 hkv).1;have hvn:=(BH.1 ht).1;have hcz:=Ea b.body;have hbx:=hx;obtain⟨a,y,rfl,ha,hy⟩:=hx;obtain⟨y1,y2,y3,y4⟩:=hy.cells;obtain⟨X,KA,hX⟩:=hp.vb;have hall:(b.bounds.all λt=>Cg (X t))=true:=KA.2.2.2.2.2.2;refine m24 ?_;rw[hn0,hro,Ee];have g0:=Ax s.bs (a::y);have hs0:BI ⟨s.bs++[a::y],s.ts⟩:=BI.app (s:=s) hs (by simp[Ah,ha.Aw,Bp (AN _) _ y3]);have WM:(s.bs++[a::y]).take s.bs.length=s.bs:=AD;refine ASK (Bx (cs:=a::y) rfl (by simp[ha.ok,y2]) (Ag g0 (by simp[y1]) (AL (FV AA AA hbx) ?_)));intro vs hvs;have lb0:(s.bs++[a::y]).length=s.bs.length+1:=AD;generalize s.bs++[a::y]=b0 at g0 hs0 WM lb0;refine Ao ?_;rw[Az AA];refine Ak (b:=false) (Ak (b:=false) (Ak (b:=false) (Aq (n:=(Ae b.body).length) (by rw[hvs.BA,BF]) (Ak (b:=false) (Ko (pk ?_))))));rw[Az AA];refine Ak (b:=false) (Ak (b:=false) (Ak (b:=false) (BM hvs (row:=[.sc (.int .i64 v)]) AA (by simp[Ab,hkv]) rfl AA (Ak (b:=false) (Dy (Ak (b:=false) (Ao (pk ?_))))))));rw[Az AA];refine Ak (b:=false) (Ak (b:=false) (Ak (b:=false) (BM hvs (row:=[.sc (.int .i64 v)]) AA (by simp[Ab,hkv]) rfl AA (Ak (b:=false) (Dy (Ak (b:=false) (AO (AX g0) (Ak (b:=false) (AZ (off:=0) g0 rfl (Ak (b:=false) (Aq (n:=b.bounds.length) (by rw[ha.BA,Aa]) (Ak (b:=false) (Ko (pk ?_))))))))))))));rw[Az AA];refine Ak (b:=false) (AO (AX g0) (Ak (b:=false) (AZ (off:=0) g0 rfl (Ak (b:=false) (AL (LQ ha AA (λc hm _=>by have:=(hp.bs c hm).1; omega) hX) ?_)))));rintro _ rfl;rw[hall];refine Ak (b:=false) (nt (pk (Ay (ASL (AO (AX g0) (AZ (off:=0) g0 rfl ?_))))));obtain⟨d,s1,⟨KS,rfl,h1,h2⟩,Ma⟩:=P1 (R:=R) (l:=b.bounds) AA (.inl ha) (L:=Ce (env R) 24 0 0 0) rfl ⟨b0,s.ts⟩;have hI:BD (AG 9223372036854775807)=true:=rfl;have hC:cellsOf (AG 9223372036854775807)=[AG 9223372036854775807]:=rfl;refine⟨_,_,Ma,Hg (cs:=[d,AG 9223372036854775807]) (by simp[Eo,h1.A1.cells,h1.A1.ok,hI,hC,setCells]) (Bx (cs:=[d,AG 9223372036854775807]) rfl (by simp[h1.A1.ok,hI]) ?_)⟩;have g1:=Ai g0 [d,AG 9223372036854775807];have ge:=Ax b0 [d,AG 9223372036854775807];have Ny:=(DI (n:=s.bs.length) AA [d,AG 9223372036854775807]).trans WM;have hs1:BI ⟨b0++[[d,AG 9223372036854775807]],KS⟩:=BI.app (s:=⟨b0,KS⟩) hs0 (by simp[Ah,Aw,h1.A1.Aw]);have lb1:(b0++[[d,AG 9223372036854775807]]).length=b0.length+1:=AD;generalize b0++[[d,AG 9223372036854775807]]=b1 at g1 ge Ny hs1 lb1;refine AO (AX g1) (QC g1 y1 ?_);obtain⟨r,hr,P8⟩:=yy (R:=R) hn (e:=b0.length) (A6:=9223372036854775807) h1.A1 AA (t:=b.body) AA hp.val hy (s:=⟨b1,KS⟩) hs1 ge;obtain⟨rc,rfl⟩:=hr.Fj.agg;obtain⟨r1,r2,r3⟩:=hr.Fj.cells;refine⟨_,_,P8 _ (AN _),Bj (Bq (Ax b1 Z4) r1 rfl AI (AN _) r2 (.inl (AN _)) ?_)⟩;have e1:(b1++[Z4]).set b1.length rc=b1++[rc]:=AD
 show E2 ⟨(b1++[Z4]).set b1.length rc,KS⟩ _ _ _
 rw[e1];have g2:=Ai g1 rc;have ge2:=Ai ge rc;have g8:=Ax b1 rc;have Hh:=(DI (n:=s.bs.length) AA rc).trans Ny;have hs2:BI ⟨b1++[rc],KS⟩:=BI.app (s:=⟨b1,KS⟩) hs1 (r3 _);have lb2:(b1++[rc]).length=b1.length+1:=AD;generalize b1++[rc]=b2 at g2 ge2 g8 Hh hs2 lb2;refine AO (AX g2) (AZ (off:=0) g2 rfl (BM hvs (row:=[.sc (.int .i64 v)]) AA (by simp[Ab,hkv]) rfl AA (Dy (BM ha (row:=Aj t) AA (by grind[BJ]) (Al _) AA (Ca ?_)))));have hrun:=R6 (R:=R) hn (e:=b0.length) (ml:=9223372036854775807) (A6:=32) (M:=6+nb t) AI AI AA (depth t) t [] (AY _) hv hc (Sq hft.wZ AI) AA b.bounds (λx hx=>by cases hx);rw[C8 hv hc,hcs,Jc t hv] at hrun;obtain⟨w,s4,⟨d',sO,q1,q2,q3,rfl⟩,q4⟩:=hrun hF.len ⟨AI,AI,AI,.inr rfl⟩ _ (A7.Bi t).Fj ⟨b2,KS⟩ hs2 (Ce (env R) 24 0 0 0) d rfl rfl ge2 h1;obtain⟨a5,rfl,ha5⟩:=q1;refine⟨_,_,q4,B9 rfl (B9 rfl (Aq (n:=cs.length) (by rw[ha5.BA,Aa,Bo,Bm]) ?_))⟩;have hs3:BI ⟨b2.set b0.length [d',AG 9223372036854775807],sO⟩:=BI.set (s:=⟨b2,KS⟩) hs2 (by simp[Ah,Aw,q2.A1.Aw]) _;have g83:(b2.set b0.length [d',AG 9223372036854775807])[b1.length]?=some rc:=BQ g8 AA;have ge3:(b2.set b0.length [d',AG 9223372036854775807])[b0.length]?=some [d',AG 9223372036854775807]:=BZ ge2;have QV:(b2.set b0.length [d',AG 9223372036854775807]).take s.bs.length=s.bs:=(Cj AA).trans Hh;have lb3:(b2.set b0.length [d',AG 9223372036854775807]).length=b2.length:=AD;generalize b2.set b0.length [d',AG 9223372036854775807]=b3 at hs3 g83 ge3 QV lb3
 have z6:BX MY (Im b.bounds.length b.body)=(Ae b.body).length:=by
  rw[hp.cn.pat h6,UB _ _ _ (MT _ hp.cn.wb)];simp
 refine ACA hn (B:=Bf) (by have:=hF.len; omega) hF.EE (body:=Im b.bounds.length b.body) AA ?_ AA (ps:=cs) (by have:=hF.num; omega) hF.pat ha5 (n:=b3.length) (e:=b0.length) (y8:=b1.length) (X:=b3) (d:=d') ge3 q2.A1 g83 hr.Fj (Np:=sO) ?_ cs.length 0 b3 sO (.AE []) AA hs3 (NK ..) (AY _) (.inl ⟨rfl,rfl⟩) (Cd.refl _ _)
 .have h7:FH b.bounds.length (Im b.bounds.length b.body)=true:=by
   exact AB4 b.body false hp.val
  rw[IV] at h7 ⊢;exact E8 (λi hi=>by have:=hF.pre.length_le; grind) _ h7
 .intro bs tk v' w1 w2 w3 w4 w5
  refine⟨v',rfl,w5.mono AA λj c _ hj=>hj,by
   show bs.take s.bs.length=s.bs
   have:bs.take s.bs.length=(bs.take b3.length).take s.bs.length:=by
    rw[List.take_take,O6 AA]
   rw[this,w2,QV],by
   show s.bs.length<=bs.length
   omega,w1⟩
end
theorem eW {α β:Type} {R:α->β->Prop}:∀{l:List α} {m:List β},CB R l m->∀{i:Nat} {c:β},m[i]?=some c->∃a,l[i]?=some a/\R a c
 | [],[],_,i,c,h=>by simp at h
 | a::l,b::m,h,0,c,hc=>by
  cases hc;exact⟨a,rfl,h.1⟩
 | a::l,b::m,h,i+1,c,hc=>eW (l:=l) (m:=m) h.2 hc
theorem X6 {α β:Type} {R:α->β->Prop}:∀{l:List α} {m:List β},CB R l m->∀{i:Nat} {a:α},l[i]?=some a->∃c,m[i]?=some c/\R a c
 | [],[],_,i,c,h=>by simp at h
 | a::l,b::m,h,0,c,hc=>by
  cases hc;exact⟨b,rfl,h.1⟩
 | a::l,b::m,h,i+1,c,hc=>X6 (l:=l) (m:=m) h.2 hc
theorem zM {B:List Ty} {lo:Nat} {b:Br} {p:Ty} {φ:List Nat} (H:Rl false 0 B lo B.length [] b p φ) (hs:CM (occs b.body []).length):HY B p=Dq b/\(Ae (HY B p).body).length=(Ae b.body).length/\(HY B p).bounds.length=(occs b.body []).length:=by
 have e:=iL H (AY _) hs
 have hv:∀i∈vis b.body,0<=i/\i<hole:=λi hi=>by
  have:=H.small;rcases H.vis i hi with h|h|h
  .omega
  .simp only[Bz] at h
   omega
  .simp at h
 obtain⟨h1,h2⟩:=rC H.bd hv hs;rw[e];exact⟨rfl,h1,h2⟩
section
variable {R:RT}
theorem eX {b:Br} (hp:Pk R b) {t:Ty} (ht:t∈b.bounds) {f:Nat} (hok:Cg (xP f t)=true) {k:Nat} (hk:k<(Ae b.body).length) :
  ∃(cs Bf:List Ty),A4 (AU 32) (depth t) t b.bounds=(some cs,Bf)/\cs.length=(xP f t).1.length/\∀(i:Nat) (c:Ty),cs[i]?=some c->∃d:Br,(xP f t).1[i]?=some d /\
   (Ae (rD Bf (Im b.bounds.length b.body) k c).body).length+1=(Ae b.body).length+(Ae d.body).length/\(rD Bf (Im b.bounds.length b.body) k c).bounds.length=b.bounds.length+d.bounds.length/\size d.body<2 ^ 38/\d.bounds.length<2 ^ 38:=by
 obtain⟨hsz,hv,hft⟩:=hp.bs t ht;have hc:=hp.cl t ht;have hbw:=hp.bw t ht;have hh:(hole:Int)=1073741824:=rfl
 obtain⟨f,rfl⟩:∃f',f=f'+1:=by
  cases f with
  | zero=>simp[xP,Cg] at hok
  | succ f=>exact⟨f,rfl⟩
 have h2:∀B,LC (λB' b p=>∃φ,Rl false 0 B' B.length B'.length [] b p φ) B (DG (AU 32) (depth t) t) (A4 (AU 32) (depth t) t B):=by
  intro B;have:=ZK (A8:=AU 32) rfl rfl (depth t) t [] hv hc Et hft.bws B (λx hx=>by cases hx);rwa [C8 hv hc] at this
 have r0:=h2 [];have r1:=h2 b.bounds;rw[xP] at hok ⊢;cases hvc:(!(verdict t==0)||!(CP 0 t)) with
 | true=>
  rw[hvc] at hok;simp[Cg] at hok
 | false=>
  rw[hvc] at hok;simp only[AK] at hok ⊢;rcases he:A4 (AU 32) (depth t) t [] with ⟨_|ps,B0⟩
  .rw[he] at hok
   simp[Cg] at hok
  .rw[he] at hok r0
   simp only at hok ⊢;cases hw:((ps.map (HY B0)).all Nx&&(((ps.map (HY B0)).flatMap Br.bounds).all λb=>Cg (xP f b))) with
   | false=>
    rw[hw] at hok;simp[Cg] at hok
   | true=>
    simp only[AM];cases hb:DG (AU 32) (depth t) t with
    | none=>
     rw[hb] at r0;exact r0.elim
    | some l=>
     rw[hb] at r0 r1;rcases hcs:A4 (AU 32) (depth t) t b.bounds with ⟨_|cs,Bf⟩
     .rw[hcs] at r1
      exact r1.elim
     .rw[hcs] at r1
      obtain⟨_,a0⟩:=r0;obtain⟨hpre,a1⟩:=r1;have l0:=a0.length;have l1:=a1.length;refine⟨cs,Bf,rfl,by simp; omega,λi c hi=>?_⟩;obtain⟨cR,hR,ψ,H⟩:=eW a1 hi;obtain⟨p,hpi,φ,H0⟩:=X6 a0 hR;have hz:=(Cz (A8:=AU 32) (depth t) t l hb cR (A3 hR)).1
      have hψ:ψ.length<=1859359:=by
       have:=H.len;omega
      have ho:=Rl.Zi (lo:=0) { H with Nj:=λx hx=>⟨AN _,(H.Nj x hx).2⟩ };have hW:=AB8 hp.cn hp.len hpre H hk AA;have hWo:=qy hp.cn hp.len hpre H hk AA;have hWc:=rA hp.cn hp.len hpre H hk AA;have h6:=hp.len;obtain⟨_,n1,n2⟩:=zM hW (by show _<hole; omega);obtain⟨_,n3,n4⟩:=zM H0 (by show _<hole; omega);have hz2:=Ul B0 p
      have hps:size p<=wt t:=by
       have hnb:=Zh (depth t) t [] [] hv hc hft.bws (λx hx=>by cases hx);rw[C8 hv hc,he] at hnb;simp only[Bz,CQ] at hnb
       exact(Gn (A8:=AU 32) (depth t) t [] (nb t) (qM (nb t)) ps (λi h1 h2=>by grind) (by
        have:=Gq (q:=λi=>qM (nb t) i&&decide (i<(([]:List Ty).length:Nat))) (σ:=[]) (λx hx=>by cases hx) t 0 hv;rwa [C8 hv hc] at this) (by rw[he]) (by rw[he]; exact hnb) p (A3 hpi)).2
      have hwt:=hft.wZ
      exact⟨HY B0 p,by simp[hpi],by
       show(Ae (HY Bf (Ip (λ_=>true) c (Im b.bounds.length b.body) k)).body).length+1=_
       omega,by
       show(HY Bf (Ip (λ_=>true) c (Im b.bounds.length b.body) k)).bounds.length=_
       omega,AA,AA⟩
end
theorem AJz {c:Br} {row:List AV} (h:CG c (.agg row)):Tel.Dg (.agg row) (.agg row)=true:=by
 obtain⟨a,y,he,ha,hy⟩:=h;cases he;have h1:=BE.Dg (es:=c.bounds) ha;have h2:=MA hy;simp only[Tel.Dg] at h2 ⊢;simp[JG,h1,h2]
section
variable {R:RT}
theorem nV {s:AQ} {lo p:Nat} {l:List Br} {y:AV} {c:Br} (hy:EB lo s.bs l y) (hc:l[p]?=some c):∃bi off a0 rest,CG c (.agg (a0::rest))/\alive s bi=true/\(∀K:AV->Prop,K (.ptr bi off)->NC s 5 y (AG p) K)/\(∀K:AV->Prop,K (.agg (a0::rest))->D5 (env R) s (some 5) (.ptr bi off) K)/\∀K:AV->Prop,K a0->D5 (env R) s none (.ptr bi (off+0)) K:=by
 have hy':=hy;rcases hy with ⟨rfl,rfl⟩|⟨bi,rows,h1,rfl,h2,h3,h4⟩
 .simp at hc
 .obtain⟨MO,hld⟩:=Oh (R:=R) (K:=λv=>∃row,CG c (.agg row)/\v=.agg row) hy' hc λrow h=>⟨row,h,rfl⟩
  have hal:=MO.2.2.2;simp only[D5,h2,wO,DF] at hld;obtain⟨hle,row,hr,he⟩:=hld;have he:=AV.agg.inj he;obtain⟨a0,rest,hrow,_,_⟩:=id hr;have hrow:=AV.agg.inj hrow;subst hrow;refine⟨bi,0+((p:Int)).toNat*5,a0,rest,hr,hal,λK hK=>⟨MO,hK⟩,λK hK=>?_,λK hK=>?_⟩
  .simp only[D5,h2,wO,DF]
   exact⟨hle,by rw[he]; exact hK⟩
  .have hg:rows.flatten[0+((p:Int)).toNat*5+0]?=some a0:=by
    have:=Bg (λl:List AV=>l[0]?) he;simpa[Ou,List.getElem?_drop] using this
   simp only[D5,h2,wO,DF,hg];exact hK
theorem ACD {b:Br} {a:AV} {y:List AV} {s:AQ} (hb0:s.bs[0]?=some (a::y)) (ha:A2 a (Ad b.bounds)) (h6:b.bounds.length<=6) {vs:AV} (hvs:A2 vs (Ab (Ae b.body))) (Ma:1<=(Ae b.body).length) (QO:(Ae b.body).length<=200) {lx ld:Nat} {xs ds:List Br} {x d:AV} (hX:EB lx s.bs xs x) (hD:EB ld s.bs ds d) (hl:xs.length<=32)
  (hsz:∀c∈xs,size c.body<2 ^ 38)
  (M1:∀(i:Nat) (c:Br),xs[i]?=some c->∃d:Br,ds[i]?=some d/\(Ae c.body).length+1=(Ae b.body).length+(Ae d.body).length/\c.bounds.length=b.bounds.length+d.bounds.length/\size d.body<2 ^ 38/\d.bounds.length<2 ^ 38) :
  ∀(j p:Nat),p+j=xs.length->ASM R 0 0 0 (.ptr 0 0) vs x d (AG p) s (QP λv=>v=BB true):=by
 have eqn:∀n:Int,Tel.Dg (AG n) (AG n)=true:=λn=>by simp[Tel.Dg,NZ,FQ]
 intro j
 induction j with
 | zero=>
  intro p hi;refine ASN (Aq hX.BA (Ao ?_));rw[Az AA];exact Ay (AZk ⟨_,rfl,rfl⟩)
 | succ j D1=>
  intro p hi;refine ASN (Aq hX.BA (Ao ?_));rw[Ar AA];obtain⟨c,hc⟩:∃c,xs[p]?=some c:=⟨_,Au AA⟩;obtain⟨e,he,TD,hk2,MW,Mb⟩:=M1 p c hc;have hcs:=hsz c (A3 hc);have hcc:=Ea c.body;have hec:=Ea e.body;obtain⟨ix,ox,ax,rx,q1,q2,q3,q4,q5⟩:=nV (R:=R) hX hc;obtain⟨iy,oy,ay,ry,w1,w2,w3,w4,w5⟩:=nV (R:=R) hD he;obtain⟨ax',rx',hx',hax,_⟩:=id q1;cases hx';obtain⟨ay',ry',hy',hay,_⟩:=id w1;cases hy';refine A9 (AZl (q3 _ (q4 _ (AL (I7 AA AA q1) ?_))));intro v1 hv1;refine Aq (n:=(Ae c.body).length) (by rw[hv1.BA,BF]) (Aq (n:=(Ae b.body).length) (by rw[hvs.BA,BF]) (Hf AA AA (w3 _ (w4 _ (AL (I7 AA AA w1) ?_)))));intro v2 hv2;refine Aq (n:=(Ae e.body).length) (by rw[hv2.BA,BF]) (Ba AA AA (EM ?_))
  have en:(((Ae c.body).length:Int) != ((Ae b.body).length:Int)-1+((Ae e.body).length:Int))=false:=by
   simp;omega
  rw[en];refine Ak (b:=false) (Ak (b:=false) (Ak (b:=false) (q3 _ (Ak (b:=false) (AO (s:=s) q2 (Ak (b:=false) (q5 _ (Ak (b:=false) (Aq (n:=c.bounds.length) (by rw[hax.BA,Aa]) ?_)))))))));refine Ak (b:=false) (AO (AX hb0) (Ak (b:=false) (AZ (off:=0) hb0 rfl (Ak (b:=false) (Aq (n:=b.bounds.length) (by rw[ha.BA,Aa]) ?_)))));refine Ak (b:=false) (Ak (b:=false) (Ak (b:=false) (w3 _ (Ak (b:=false) (AO (s:=s) w2 (Ak (b:=false) (w5 _ (Ak (b:=false) (Aq (n:=e.bounds.length) (by rw[hay.BA,Aa]) (Ak (b:=false) (Ba AA AA (Ak (b:=false) (EM (pk ?_))))))))))))))
  have eb:((c.bounds.length:Int) != (b.bounds.length:Int)+(e.bounds.length:Int))=false:=by
   simp;omega
  rw[eb];refine⟨Aq (n:=(Ae c.body).length) (by rw[hv1.BA,BF]) (eqn _),Aq (n:=(Ae b.body).length) (by rw[hvs.BA,BF]) (eqn _),Aq (n:=(Ae b.body).length) (by rw[hvs.BA,BF]) (eqn _),Hf AA AA (eqn _),Hf AA AA (eqn _),w3 _ (EA _ _),w4 _ (AJz w1),?_⟩;refine Ay (AZm (Ba AA AA ?_));have:=D1 (p+1) AA
  grind
theorem oV (hn:Pc R) (jl:Af (env R) 16 [] λv=>v=BB true) {W:List (List UInt8)} (hW:(env R).G 1=some (Ez W)) (sW:Short W) (h4:W.length=4) (l:List Int) (hl:l.length<2 ^ 50) (k at':Int) :
  Af (env R) 6 [.pv (.list (Ab l)),AG k,AG at'] λv=>v=BB true:=by
 refine e6 (u0:=.pv (.list (Ab l))) (u1:=AG k) (u2:=AG at') AD (AZn ?_);refine AL (WU hn hW sW h4 l hl k) ?_;rintro _ ⟨x,b,ok,rfl,hb,hz,hp⟩;have hbO:=hb.Fj;obtain⟨bc,rfl⟩:=hbO.agg;obtain⟨c1,c2,c3⟩:=hbO.cells;have hcz:=Ea b.body;refine B9 rfl (B9 rfl (Bj (Bq (Ax [] Z5) c1 rfl AI (AN _) c2 (.inl (AN _)) ?_)))
 show D5 _ ⟨[bc],[]⟩ _ (.ptr 0 0) _
 have g0:([bc]:List (List AV))[0]?=some bc:=rfl
 have hs:BI ⟨[bc],[]⟩:=λd hd=>by
  have:d=bc:=by simpa using hd
  subst this;exact c3 _
 refine Ag g0 c1 (AL (FV AA AA hb) ?_);intro vs hvs;refine nt ?_;cases ok with
 | false=>
  refine Cr (Cr (Cr (pk (A9 (AL jl ?_)))));rintro _ rfl;exact⟨_,rfl,rfl⟩
 | true=>
  have hp:=hp rfl;refine Ak (b:=false) (Ak (b:=false) (Aq (n:=(Ae b.body).length) (by rw[hvs.BA,BF]) (Ak (b:=false) (A0 (pk ?_)))));cases he:(((Ae b.body).length:Int)==0) with
  | true=>
   refine A9 (AL jl ?_);rintro _ rfl;exact⟨_,rfl,rfl⟩
  | false=>
   have hpos:0<(Ae b.body).length:=AB;refine Ay (AZo (Aq (n:=(Ae b.body).length) (by rw[hvs.BA,BF]) (AL (VJ at' _ AA AA) ?_)));rintro _ ⟨r,rfl,Tk,Ng⟩;obtain⟨i,rfl⟩:∃i:Nat,r=(i:Int):=⟨r.toNat,AA⟩;have hik:i<(Ae b.body).length:=AA;obtain⟨v,hv⟩:∃v,(Ae b.body)[i]?=some v:=⟨_,Au hik⟩;obtain⟨hv1,hv2⟩:=hp.cn.vis v (Mz b.body v (A3 hv));obtain⟨v,rfl⟩:∃n:Nat,v=(n:Int):=⟨v.toNat,AA⟩;obtain⟨t,ht⟩:∃t,b.bounds[v]?=some t:=⟨_,Au AA⟩;have Pz:=A3 ht;obtain⟨f,hf⟩:=hp.ok;obtain⟨hdf,hbo⟩:=hf t Pz;obtain⟨hsz,hvl,hft⟩:=hp.bs t Pz;obtain⟨cs,Bf,hcs,hlen,M1⟩:=eX hp Pz hbo hik;have l8:=eV hp Pz hcs;have hx:=U6 (R:=R) hn f t hdf AA (LR t hvl) (λ_=>hft);obtain⟨rs,s1,⟨a1,rfl,vv,Ny,hL1,hs1⟩,Ma⟩:=jk hn hp hb hv ht hcs (s:=⟨[bc],[]⟩) hs (L:=Ce (env R) 6 0 0 0) rfl rfl rfl;obtain⟨a,y,hbc,ha,hy⟩:=id hb;cases hbc
   have g1:s1.bs[0]?=some (a::y):=by
    have:(s1.bs.take 1)[0]?=some (a::y):=by rw[show s1.bs.take 1=[a::y] from Ny]; rfl
    rwa [KJ AA] at this
   refine Ag g0 c1 ⟨_,_,Ma,B9 rfl (B9 rfl (AO (AX g1) (AZ (off:=0) g1 rfl ?_)))⟩;refine BM hvs (row:=[.sc (.int .i64 v)]) AA (by simp[Ab,hv]) rfl AA (Dy (BM ha (row:=Aj t) AA (by grind[BJ]) (Al _) AA (Ca ?_)));obtain⟨rx,s2,⟨a2,rfl,hB2,Hh,hL2,_,hs2⟩,QO⟩:=hx _ (A7.Bi t).Fj s1 hs1 (Ce (env R) 6 0 0 0) rfl rfl rfl
   have hz0:(xP f t).2=0:=by
    simp only[Cg,AH] at hbo;simpa using hbo.1
   refine⟨_,_,QO,B9 rfl (B9 rfl (AL jl ?_))⟩;rintro _ rfl
   have hup:∀j c,s1.bs[j]?=some c->s2.bs[j]?=some c:=λj c hj=>by
    have hj2:=(BH.1 hj).1;rw[<-Hh,KJ hj2] at hj;exact hj
   have ASO:EB [a::y].length s2.bs (cs.map (rD Bf (Im b.bounds.length b.body) i)) a1:=vv.mono (AY _) λj c _ hj=>hup j c hj
   have l1:=EB.BA (s:=s2) ASO;have l2:=EB.BA (s:=s2) hB2;rw[Bm] at l1;refine nt (Ak (b:=false) (Ak (b:=false) (nt (pk (Ak (b:=false) (Ak (b:=false) (EM (pk ?_))))))));rw[hz0];refine Ak (b:=false) (Ak (b:=false) (Aq l1 (Ak (b:=false) (Ak (b:=false) (Aq l2 (Ak (b:=false) (EM (pk ?_))))))))
   have el:((cs.length:Int) != ((xP f t).1.length:Int))=false:=by
    simp;omega
   rw[el];have hnum:=l8.num;have hpz:size (Im b.bounds.length b.body)<=size b.body:=eH _ b.body false (AY _)
   have z6:BX MY (Im b.bounds.length b.body)=(Ae b.body).length:=by
    rw[hp.cn.pat hp.len,UB _ _ _ (MT _ hp.cn.wb)];simp
   refine Ay (AZp (ACD (hup _ _ g1) ha hp.len hvs hpos AA ASO hB2 (by simp; omega) (λc hc=>?_) (λj c hc=>?_) (cs.map (rD Bf (Im b.bounds.length b.body) i)).length 0 AA))
   .obtain⟨q,hq,rfl⟩:=CR.1 hc
    have h1:=Ul Bf (Ip MY q (Im b.bounds.length b.body) i);have h2:=Nk (m:=MY) (b:=q) (Im b.bounds.length b.body) i AA;have h3:=(l8.pat q hq).1
    show size (HY Bf (Ip MY q (Im b.bounds.length b.body) i)).body<_
    omega
   .rw[FJ] at hc
    cases hq:cs[j]? with
    | none=>
     rw[hq] at hc;cases hc
    | some q=>
     rw[hq] at hc;cases hc;exact M1 j q hq
end
end Go.Proofs.YtpgfpakdnijngaaGreatDoor
