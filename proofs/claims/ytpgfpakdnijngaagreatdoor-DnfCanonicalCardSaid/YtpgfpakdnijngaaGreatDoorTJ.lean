/-
  The branches that Expand answers.
-/
import Derived.Test.YtpgfpakdnijngaaGreatDoorTI
import Derived.Test.YtpgfpakdnijngaaGreatDoorTG
import Derived.Test.YtpgfpakdnijngaaGreatDoorTH
import Derived.Test.YtpgfpakdnijngaaGreatDoorTC
set_option linter.all false
namespace Go.Proofs.YtpgfpakdnijngaaGreatDoor
open Go.Tel
mutual
theorem AQ3 (g:Int->Int):∀t:Ty,wP t=true->size (BR (λi=>var (g i)) t)=size t/\depth (BR (λi=>var (g i)) t)=depth t
 | .mk k n i ts,h=>by
  rw[wP] at h;rw[BR];cases h5:k==5 with
  | true=>
   rw[h5] at h;simp only[AH,AD,Dx] at h;obtain⟨_,rfl⟩:=h;exact⟨rfl,rfl⟩
  | false=>
   rw[h5] at h;cases h2:k==2 with
   | true=>
    rw[h2] at h;simp only[AE,AH,AD] at h;have:=UK g ts h.2
    grind[size,depth]
   | false=>
    rw[h2] at h;simp only[AE] at h;have:=Hu _ (λi=>var (g i)) h
    grind[BR]
theorem UK (g:Int->Int):∀l:List Ty,SC l=true->AQ (BU (λi=>var (g i)) l)=AQ l/\CE (BU (λi=>var (g i)) l)=CE l
 | [],_=>⟨rfl,rfl⟩
 | t::l,h=>by
  simp only[SC,AD] at h;have h1:=AQ3 g t h.1;have h2:=UK g l h.2
  grind[BU,AQ,CE]
end
theorem nB:∀{l m:List Nat},CG (·<=·) l m->mx l<=mx m
 | [],[],_=>AN _
 | a::l,b::m,h=>by
  have h1:=h.1;have h2:=nB h.2
  grind[mx]
def xU:Ms where
 c l:=1+l.sum
 nm:=size
 mono l m h:=by simp[*,TM]
 map g n i ts h:=by simp[*,size,UK]
def xV:Ms where
 c l:=mx l+1
 nm:=depth
 mono l m h:=by simp[*,nB]
 map g n i ts h:=by simp[*,depth,UK]
theorem iU (i:Int):om [] i=1:=by simp[*,om]
mutual
theorem ZI:∀t:Ty,wB t=true->size t<=wz xU (om []) t/\depth t<=wz xV (om []) t
 | .mk k n i ts,h=>by
  rw[wB] at h;rw[wz,wz];cases h5:k==5 with
  | true=>
   rw[h5] at h;simp only[AH,AD,Dx] at h;obtain⟨_,rfl⟩:=h;simp only[AH,iU];exact⟨AN _,AN _⟩
  | false=>
   rw[h5] at h;cases h3:k==3 with
   | true=>
    have h0:(k==0)=false:=by grind
    have h2:(k==2)=false:=by grind
    rw[h0,h2,h3] at h;simp only[AE,CU,AD] at h;have:=dB ts h.2.2.2
    grind[size,xU,depth,xV]
   | false=>exact⟨AN _,AN _⟩
theorem dB:∀l:List Ty,Kn l=true->AQ l<=(VM xU (om []) l).sum/\CE l<=mx (VM xV (om []) l)
 | [],_=>⟨AN _,AN _⟩
 | t::l,h=>by
  simp only[Kn,AD] at h;have h1:=ZI t h.1;have h2:=dB l h.2
  grind[VM,AQ,CE,mx]
end
section
variable {L:List Int} {g:Int->Int} (hinj:∀i∈L,∀j∈L,g i=g j->i=j)
include hinj
mutual
theorem dD:∀(b:Ty) (l:List Int),occs b l<+:L->occs (BR (λi=>var (g i)) b) (l.map g)=(occs b l).map g
 | .mk k n i ts,l,hp=>by
  rw[BR];cases h5:k==5 with
  | true=>
   have hi:i∈L:=hp.subset (KZ _ l i (by simp[vis,h5]));have hl:l<+:L:=(TJ _ l).trans hp;rw[occs,h5];have e:(l.map g).contains (g i)=l.contains i:=by grind
   grind[occs]
  | false=>
   cases h:(k==2||k==3) with
   | true=>
    rw[occs,h5,h] at hp;rw[occs,h5,h];simp only[AE,AH] at hp ⊢;rw[occs,h5,h];exact Wv ts l hp
   | false=>
    grind[occs]
theorem Wv:∀(ts:List Ty) (l:List Int),GO ts l<+:L->GO (BU (λi=>var (g i)) ts) (l.map g)=(GO ts l).map g
 | [],l,_=>rfl
 | t::ts,l,hp=>by
  have _h:=hinj;rw[BU,GO,GO];rw[GO] at hp;rw[dD t l ((I1 ts _).trans hp),Wv ts (occs t l) hp]
end
end
structure Can (t:Ty) (b:Br):Prop where
 wb:wB b.body=true
 top:ib false b.body=true
 vis:∀i∈vis b.body,0<=i/\i<(b.bounds.length:Int)
 occ:occs b.body []=(List.range b.bounds.length).map λ(i:Nat)=>(i:Int)
 inv:∀v:Nat,v<b.bounds.length->oI (·==(v:Int)) b.body=true
 EW:∀c∈b.bounds,VE t c
 NR:size b.body<=sz xU t []
 dep:depth b.body<=sz xV t []
mutual
theorem AE0:∀t:Ty,wB t=true->ib true t=true
 | .mk k n i ts,h=>by
  rw[wB] at h;rw[ib];cases h5:k==5 with
  | true=>simp
  | false=>
   rw[h5] at h;cases h0:k==0 with
   | true=>rfl
   | false=>
    rw[h0] at h;cases h2:k==2 with
    | true=>rfl
    | false=>
     rw[h2] at h;simp only[AE,AD] at h;simp only[GU,AE,h.1,xW ts h.2.2.2.2,Fw]
theorem xW:∀l:List Ty,Kn l=true->ibL l=true
 | [],_=>rfl
 | t::l,h=>by
  simp only[Kn,AD] at h;rw[ibL,AE0 t h.1,xW l h.2];rfl
end
theorem AKy {t:Ty} (hv:valid t=true) (hc:BW 0 t=true) (hs:Cc (bw t)) {l:List Br} (hl:HQ (Ac 32) (depth t) t=some l):∀b∈l,Can t (IA b):=by
 intro b hb;obtain⟨ps,B,he,hm,hr,hB,jb⟩:=l5 hv hc hs hl;have h1:=AEz (Au:=Ac 32) (M:=xU) (depth t) t l [] (λx hx=>by grind) hv hs hl b hb;have h2:=AEz (Au:=Ac 32) (M:=xV) (depth t) t l [] (λx hx=>by grind) hv hs hl b hb;have hG:=lS (Au:=Ac 32) (depth t) t l hv hs hl b hb;have hbn:=(DS (Au:=Ac 32) (depth t) t l hl b hb).1;have hnd:(occs b.body []).Nodup:=HZ b.body [] GY;have hrb:=hr b hb;have uV:∀i∈vis b.body,i∈occs b.body []:=λi hi=>KZ b.body [] i hi
 have hbd:=NU _ h1.wb;have hlen:(occs b.body []).length<=b.bounds.length:=cQ _ _ hnd hrb;have AWA:=uZ hbd (λi hi=>⟨(hrb i (uV i hi)).1,Int.lt_of_lt_of_le (hrb i (uV i hi)).2 (by grind[Cc])⟩) (DJ hs (by omega));have hbody:(IA b).body=BR (λi=>var (pos (occs b.body []) i)) b.body:=AWA;have Oa:(IA b).bounds.length=(occs b.body []).length:=by simp[IA]
 have hinj:∀i∈occs b.body [],∀j∈occs b.body [],((pos (occs b.body []) i:Nat):Int)=((pos (occs b.body []) j:Nat):Int)->i=j:=by grind[List.getElem?_of_mem,LH]
 have hsz:=ZI _ h1.wb;have qX:wB (IA b).body=true:=by rw[hbody]; exact KB _ _ h1.wb
 have hsd:size (IA b).body<=wz xU (om []) b.body/\depth (IA b).body<=wz xV (om []) b.body:=by
  have h3:=ZI _ qX;rw[hbody,LU _ _ _ _ h1.wb,LU _ _ _ _ h1.wb] at h3;rw[hbody];exact⟨A6 h3.1 (Mx _ (λi=>by grind[iU]) _),A6 h3.2 (Mx _ (λi=>by grind[iU]) _)⟩
 have hinv:∀v:Nat,v<(IA b).bounds.length->oI (·==(v:Int)) (IA b).body=true:=by
  intro v Lj;rw[Oa] at Lj;obtain⟨i,hi⟩:∃i,(occs b.body [])[v]?=some i:=⟨_,Ap Lj⟩;obtain⟨i0,i1⟩:=hrb i (BA hi);rw[hbody];refine UJ (g:=λi=>((pos (occs b.body []) i:Nat):Int)) (i:=i) (by grind[LH]) hbd ?_;have:=h1.inv i.toNat (by omega)
  grind
 refine⟨qX,?_,?_,?_,hinv,?_,A6 hsd.1 h1.NR,A6 hsd.2 h2.NR⟩
 .rcases hk:(IA b).body with ⟨k,n,i,ts⟩
  rw[hk] at qX;have hib:=AE0 _ qX;rw[ib] at hib ⊢;cases h5:k==5 with
  | false=>grind
  | true=>
   exfalso;have ZX:k=5:=by grind
   have hcv:vis (IA b).body=[i]:=by grind[vis]
   have hpos:0<(IA b).bounds.length:=by
    rw[Oa];rcases hb0:b.body with ⟨k0,n0,i0,ts0⟩
    rw[hbody,hb0,BR] at hk;cases h50:k0==5 with
    | true=>
     have:i0∈vis b.body:=by grind[vis]
     grind
    | false=>
     grind
   grind[oI]
 .simp_all[Hv,jR,pos]
 .rw[hbody,Oa]
  have:=dD (L:=occs b.body []) (g:=λi=>((pos (occs b.body []) i:Nat):Int)) hinj b.body [] (Cw _);rw[Ci] at this;rw[this];refine Ia λj=>?_
  grind[LH]
 .intro c KD
  have KD:c∈(occs b.body []).map λi=>b.bounds.getD i.toNat oV:=KD
  grind
structure MsB (M:Ms) (f:Nat->Nat) (a a2:Nat):Prop where
 tup:∀l m,l.length<=3->(∀x∈l,x<=m)->M.c l<=f m
 up:∀m,m<=f m
 n1:∀t,size t<=3->depth t<=2->M.nm t<=a
 n2:∀t,size t<=7->depth t<=3->M.nm t<=a2
 h2:a2<=f (f a)
 pos:1<=a
theorem iV {m:Nat}:∀{l:List Nat},(∀x∈l,x<=m)->mx l<=m
 | [],_=>AK _
 | a::l,h=>by
  have h1:=h a (by simp);have h2:=iV (l:=l) λx hx=>h x (by grind)
  grind[mx]
section
variable {M:Ms} {f:Nat->Nat} {a a2:Nat} (H:MsB M f a a2)
include H
theorem dF {ts:List Ty} {ρ:List Nat} {m:Nat} (hl:ts.length<=3) (h:∀t∈ts,sz M t ρ<=m):M.c (szl M ts ρ)<=f m/\mx (szl M ts ρ)<=m:=by
 have hm:∀x∈szl M ts ρ,x<=m:=by grind[PL]
 exact⟨H.tup _ _ (by grind[PL]) hm,iV hm⟩
theorem LV {d m v:Nat} {ρ:List Nat} {t:Ty} (h:gq d t=true) (hv:valid t=true)
  (VA:∀i:Int,t=.mk 5 [] i []->ρ.getD i.toNat 1<=v) (hnm:∀n i ts,t=.mk 2 n i ts->nz d t=true->M.nm t<=v) (ha:a<=v)
  (AQ4:∀ts,(t=.mk 3 [] 0 ts\/t=.mk 4 [] 0 ts)->0<d->T8 (d-1) ts=true->(∀t∈ts,sz M t ρ<=m)) (hm:0<d->f m<=v)
  (hex:∀b body,t=.mk 6 [] 0 [b,body]->0<d->gq 1 b=true->gq (d-1) body=true->valid b=true->valid body=true->BW 0 b=true->sz M body (max 1 (sz M b [])::ρ)<=v):sz M t ρ<=v:=by
 obtain⟨k,n,i,ts⟩:=t;have Lj:=hv;simp only[valid,AD] at hv;rw[gq] at h;rcases Jr hv.1 with ⟨rfl,rfl,rfl,rfl⟩|⟨rfl,rfl,rfl,rfl⟩|rfl|⟨rfl,rfl,rfl⟩|⟨rfl,rfl,rfl,hne⟩|⟨rfl,rfl,rfl,h0⟩|⟨rfl,rfl,rfl,b,body,rfl,hcb⟩
 .exact A6 (H.n1 _ (by simp[size,AQ]) (by simp[depth,CE])) ha
 .exact A6 (H.n1 _ (by simp[size,AQ]) (by simp[depth,CE])) ha
 .exact hnm n i ts rfl h
 .simp only[CN,Dg,AH,AD,CZ] at h
  obtain⟨h1,h2⟩:=dF H h.2.1 (AQ4 ts (.inl rfl) h.1 h.2.2);exact A6 h1 (hm h.1)
 .simp only[CN,Df,AH,AD,CZ] at h
  obtain⟨h1,h2⟩:=dF H h.2.1 (AQ4 ts (.inr rfl) h.1 h.2.2);exact A6 h2 (A6 (H.up m) (hm h.1))
 .exact VA i rfl
 .simp only[show((6:Int)==3||(6:Int)==4)=false from rfl,AE,CN,AH,AD,CZ,gqX,T8] at h
  simp only[Ar,AD] at hv;exact hex b body rfl h.1 h.2.1 h.2.2.1 hv.2.1 hv.2.2.1 hcb
theorem iW {ρ:List Nat} {v:Nat} (hρ:∀x∈ρ,x<=v) (h1:1<=v) (i:Nat):ρ.getD i 1<=v:=by
 rw[Rk];cases hg:ρ[i]? with
 | none=>grind
 | some x=>exact hρ x (BA hg)
theorem ZJ {d v:Nat} {t:Ty} (hd:d<=1) (ha:a<=v) (h:nz d t=true):M.nm t<=v:=by
 unfold nz at h;rw[Aq hd] at h;simp only[AH,AD,CZ] at h;exact A6 (H.n1 t h.1 h.2) ha
omit H in
theorem dG {t:Ty} {ts:List Ty} (e:t=.mk 3 [] 0 ts\/t=.mk 4 [] 0 ts) (hv:valid t=true):(∀u∈ts,valid u=true)/\(BW 0 t=true->∀u∈ts,BW 0 u=true):=by
 rcases e with rfl|rfl
 .simp only[valid,AD] at hv
  exact⟨λu hu=>Bs hv.2 hu,λhc u hu=>FF (by decide) (DI hc (by decide)) hu⟩
 .simp only[valid,AD] at hv
  exact⟨λu hu=>Bs hv.2 hu,λhc u hu=>FF (by decide) (DI hc (by decide)) hu⟩
omit H in
theorem ZK {v:Nat} {t:Ty} (hv:valid t=true) (hc:BW 0 t=true) (i:Int) (e:t=.mk 5 [] i []):([]:List Nat).getD i.toNat 1<=v:=by
 subst e;have:=KW hc;have:=(EA hv).2.2;omega
theorem AKz {t:Ty} (h:gq 0 t=true) (hv:valid t=true) (hc:BW 0 t=true):sz M t []<=a:=
 LV H (m:=0) h hv (ZK hv hc) (λn i ts e hn=>ZJ H (by omega) (AN _) hn) (AN _) (λts e hd=>absurd hd (by omega)) (λhd=>absurd hd (by omega)) λb body e hd=>absurd hd (by omega)
theorem iX {W:Nat} (hW:a<=W) {t:Ty} {ρ:List Nat} (hρ:∀x∈ρ,x<=W) (h:gq 0 t=true) (hv:valid t=true):sz M t ρ<=W:=by
 have:=H.pos;exact LV H (m:=0) h hv (λi _=>iW H hρ (by omega) _) (λn i ts e hn=>ZJ H (by omega) hW hn) hW (λts e hd=>absurd hd (by omega)) (λhd=>absurd hd (by omega)) λb body e hd=>absurd hd (by omega)
theorem UL:∀(m:Nat) (t:Ty),depth t<=m->gq 1 t=true->valid t=true->BW 0 t=true->sz M t []<=f a:=by
 intro m
 induction m with
 | zero=>
  intro t hd;obtain⟨k,n,i,ts⟩:=t
  grind[depth]
 | succ m ih=>
  intro t hd h hv hc;have h1:=H.up a;have h2:=H.pos;refine LV H (m:=a) h hv (ZK hv hc) (λn i ts e hn=>ZJ H (by omega) h1 hn) h1 (λts e _ hg u hu=>?_) (λ_=>AN _) λb body e _ aO hgy J9 Lp hcb=>?_
  .obtain⟨q1,q2⟩:=dG e hv
   exact AKz H (HH hg hu) (q1 u hu) (q2 hc u hu)
  .subst e
   simp only[depth,CE] at hd;have h3:=ih b (by omega) aO J9 hcb;exact iX H h1 (λx hx=>by grind) hgy Lp
theorem iY {t:Ty} {ρ:List Nat} (hρ:∀x∈ρ,x<=f a) (h:gq 1 t=true) (hv:valid t=true):sz M t ρ<=f (f a):=by
 have h1:=H.up a;have h2:=H.up (f a);have h3:=H.pos;refine LV H (m:=f a) h hv (λi _=>A6 (iW H hρ (by omega) _) h2) (λn i ts e hn=>ZJ H (by omega) (by omega) hn) (by omega) (λts e _ hg u hu=>?_) (λ_=>AN _) λb body e _ aO hgy J9 Lp hcb=>?_
 .exact iX H h1 hρ (HH hg hu) ((dG e hv).1 u hu)
 .have h4:=UL H (depth b) b (AN _) aO J9 hcb
  exact A6 (iX H h1 (λx hx=>by grind) hgy Lp) h2
omit H in
theorem nz2 {t:Ty} (h:nz 2 t=true):size t<=7/\depth t<=3:=by grind[nz]
theorem AK0 {t:Ty} {ρ:List Nat} (hρ:∀x∈ρ,x<=f a) (h:gq 2 t=true) (hv:valid t=true):sz M t ρ<=f (f (f a)):=by
 have h1:=H.up a;have h2:=H.up (f a);have h3:=H.pos;have h4:=H.up (f (f a));have h5:=H.h2;refine LV H (m:=f (f a)) h hv (λi _=>A6 (iW H hρ (by omega) _) (by omega)) (λn i ts e hn=>A6 (H.n2 t (nz2 hn).1 (nz2 hn).2) (by omega)) (by omega) (λts e _ hg u hu=>?_) (λ_=>AN _) λb body e _ aO hgy J9 Lp hcb=>?_
 .exact iY H hρ (HH hg hu) ((dG e hv).1 u hu)
 .have h6:=UL H (depth b) b (AN _) aO J9 hcb
  grind[iY]
theorem AK1 {t:Ty} (h:gq 2 t=true) (hv:valid t=true) (hc:BW 0 t=true):sz M t []<=f (f a):=by
 have h1:=H.up a;have h2:=H.up (f a);have h3:=H.pos;refine LV H (m:=f a) h hv (ZK hv hc) (λn i ts e hn=>A6 (H.n2 t (nz2 hn).1 (nz2 hn).2) H.h2) (by omega) (λts e _ hg u hu=>?_) (λ_=>AN _) λb body e _ aO hgy J9 Lp hcb=>?_
 .obtain⟨q1,q2⟩:=dG e hv
  exact UL H (depth u) u (AN _) (HH hg hu) (q1 u hu) (q2 hc u hu)
 .have h6:=UL H (depth b) b (AN _) aO J9 hcb
  grind[iY]
theorem xX {t:Ty} (h:gq 3 t=true) (hv:valid t=true) (hc:BW 0 t=true):sz M t []<=max (f (f (f a))) (M.nm t):=by
 have h1:=H.up a;have h2:=H.up (f a);have h3:=H.pos;have h4:=H.up (f (f a));refine LV H (m:=f (f a)) h hv (ZK hv hc) (λn i ts e hn=>Nat.le_max_right _ _) (by omega) (λts e _ hg u hu=>?_) (λ_=>Nat.le_max_left _ _) λb body e _ aO hgy J9 Lp hcb=>?_
 .grind[dG,AK1,HH]
 .have h6:=UL H (depth b) b (AN _) aO J9 hcb
  grind[AK0]
end
theorem nC {m:Nat}:∀{l:List Nat},(∀x∈l,x<=m)->l.sum<=l.length*m
 | [],_=>by simp
 | a::l,h=>by
  have h1:=h a (by simp);have h2:=nC (l:=l) λx hx=>h x (by grind)
  grind[Nat.add_mul]
theorem AQ5:MsB xU (λm=>1+3*m) 3 7 where
 tup l m hl h:=by
  have h1:=nC h;have h2:l.length*m<=3*m:=CJ _ hl
  show 1+l.sum<=_
  omega
 up m:=by omega
 n1 t h _:=h
 n2 t h _:=h
 h2:=by decide
 pos:=by decide
theorem AQ6:MsB xV (λm=>m+1) 2 3 where
 tup l m _ h:=by
  have:=iV h
  show mx l+1<=_
  omega
 up m:=by omega
 n1 t _ h:=h
 n2 t _ h:=h
 h2:=by decide
 pos:=by decide
theorem pI {t:Ty} (h:gq 3 t=true) (hvd:verdict t=0) (hc:BW 0 t=true):sz xU t []<=200/\sz xV t []<=12:=by
 obtain⟨hv,h1,h2⟩:=ET hvd;have h3:=xX AQ5 h hv hc;have h4:=xX AQ6 h hv hc;have e1:xU.nm t=size t:=rfl;have e2:xV.nm t=depth t:=rfl;omega
mutual
theorem xY:∀t:Ty,wP t=true->(∀i∈vis t,0<=i/\i<=200)->valid t=true/\plain t=true
 | .mk k n i ts,h,hi=>by
  rw[wP] at h;rw[vis] at hi;cases h5:k==5 with
  | true=>
   grind[plain,valid,Ar,root,shape]
  | false=>
   rw[h5] at h hi;cases h2:k==2 with
   | true=>
    have:k=2:=by grind
    subst this;rw[h2] at h hi;simp only[AE,AH,AD,Dg] at h hi;obtain⟨q1,q2⟩:=Qc ts h.2 hi
    grind[nOk,plain,valid,root,shape]
   | false=>
    grind[P5,plain]
theorem Qc:∀l:List Ty,SC l=true->(∀i∈C2 l,0<=i/\i<=200)->Ar l=true/\D6 l=true
 | [],_,_=>⟨rfl,rfl⟩
 | t::l,h,hi=>by
  simp only[SC,AD] at h;rw[C2] at hi;have h1:=xY t h.1 λi hm=>hi i (by grind)
  have h2:=Qc l h.2 λi hm=>hi i (by grind)
  grind[Ar,D6]
end
mutual
theorem UM:∀t:Ty,wB t=true->(∀i∈vis t,0<=i/\i<=200)->valid t=true
 | .mk k n i ts,h,hi=>by
  rw[wB] at h;rw[vis] at hi;cases h5:k==5 with
  | true=>
   grind[valid,Ar,root,shape]
  | false=>
   rw[h5] at h hi;cases h0:k==0 with
   | true=>
    have:k=0:=by grind
    subst this;simp only[h0,AE,AH,AD,GX,Dx] at h;obtain⟨rfl,rfl,rfl⟩:=h;rfl
   | false=>
    rw[h0] at h;cases h2:k==2 with
    | true=>
     grind[Qc,nOk,valid,root,shape]
    | false=>
     rw[h2] at h hi;simp only[AE,AD,GX,CZ] at h;obtain⟨rfl,rfl,rfl,h6,hl⟩:=h;have hi:∀i∈C2 ts,0<=i/\i<=200:=hi;have q:=Ww ts hl hi
     grind[valid,root,shape]
theorem Ww:∀l:List Ty,Kn l=true->(∀i∈C2 l,0<=i/\i<=200)->Ar l=true
 | [],_,_=>rfl
 | t::l,h,hi=>by
  simp only[Kn,AD] at h;rw[C2] at hi;rw[Ar,UM t h.1 λi hm=>hi i (by grind),Ww l h.2 λi hm=>hi i (by grind)];rfl
end
mutual
theorem AQ7 (g:Int->Ty):∀t:Ty,wP t=true->M4 g true t=BR g t
 | .mk k n i ts,h=>by
  rw[wP] at h;rw[M4,BR];cases h5:k==5 with
  | true=>rfl
  | false=>
   rw[h5] at h;cases h2:k==2 with
   | true=>
    rw[h2] at h;simp only[AE,AH,AD] at h;simp only[AE,AH,Dg,iZ g ts h.2]
   | false=>
    rw[h2] at h;simp only[AE] at h;have:=Hu _ g h
    grind[BR]
theorem iZ (g:Int->Ty):∀l:List Ty,SC l=true->UF g true l=BU g l
 | [],_=>rfl
 | t::l,h=>by
  simp only[SC,AD] at h;rw[UF,BU,AQ7 g t h.1,iZ g l h.2]
end
mutual
theorem xZ (g:Int->Ty):∀t:Ty,wB t=true->M4 g false t=BR g t
 | .mk k n i ts,h=>by
  rw[wB] at h;rw[M4,BR];cases h5:k==5 with
  | true=>rfl
  | false=>
   rw[h5] at h;cases h2:k==2 with
   | true=>
    grind[iZ]
   | false=>
    cases h3:k==3 with
    | true=>
     have h0:(k==0)=false:=by grind
     rw[h0,h2,h3] at h;simp only[AE,CU,AD] at h;simp only[AE,AH,OC,Fw,Df,Ks,xd g ts h.2.2.2]
    | false=>rfl
theorem xd (g:Int->Ty):∀l:List Ty,Kn l=true->UF g false l=BU g l
 | [],_=>rfl
 | t::l,h=>by
  simp only[Kn,AD] at h;rw[UF,BU,xZ g t h.1,xd g l h.2]
end
def it1 (n:Nat):Nat->Nat->Int->Int
 | 0,_,x=>x
 | f+1,j,x=>it1 n f (j+1) (bif x==(j:Int) then hole+n-j else x)
def it2:Nat->Nat->Int->Int
 | 0,_,x=>x
 | f+1,j,x=>it2 f (j+1) (bif x==hole+1+j then(j:Int) else x)
theorem nD (n:Nat):∀(f j:Nat) (g:Int->Int) (t:Ty),dbR n f j (BR (λi=>var (g i)) t)=BR (λi=>var (it1 n f j (g i))) t
 | 0,_,_,_=>rfl
 | f+1,j,g,t=>by rw[dbR,Rz,nD n f (j+1) (λi=>bif g i==(j:Int) then hole+n-j else g i) t]; rfl
theorem nE:∀(f j:Nat) (g:Int->Int) (t:Ty),M3 f j (BR (λi=>var (g i)) t)=BR (λi=>var (it2 f j (g i))) t
 | 0,_,_,_=>rfl
 | f+1,j,g,t=>by rw[M3,Rz,nE f (j+1) (λi=>bif g i==hole+1+j then(j:Int) else g i) t]; rfl
theorem nG {n:Nat}:∀(f j:Nat) (x:Int),(∀q:Nat,j<=q->q<j+f->x≠q)->it1 n f j x=x
 | 0,_,_,_=>rfl
 | f+1,j,x,h=>by
  have:(x==(j:Int))=false:=by grind
  rw[it1,this];exact nG f (j+1) x λq h1 h2=>h q (by omega) (by omega)
theorem xe {n:Nat} (hh:(n:Int)<hole):∀(f j i:Nat),j+f<=n->j<=i->i<j+f->it1 n f j i=hole+n-i
 | 0,j,i,_,h1,h2=>by omega
 | f+1,j,i,hn,h1,h2=>by
  rw[it1]
  by_cases h:i=j
  .grind[nG]
  .have:((i:Int)==(j:Int))=false:=by grind
   rw[this];exact xe hh f (j+1) i (by omega) (by omega) (by omega)
theorem nH:∀(f j:Nat) (x:Int),x<=hole->it2 f j x=x
 | 0,_,_,_=>rfl
 | f+1,j,x,h=>by
  have:(x==hole+1+(j:Int))=false:=by grind
  rw[it2,this];exact nH f (j+1) x h
theorem xg:∀(f j i:Nat),(i:Int)<=hole->j<=i->i<j+f->it2 f j (hole+1+i)=i
 | 0,j,i,_,h1,h2=>by omega
 | f+1,j,i,hn,h1,h2=>by
  rw[it2]
  by_cases h:i=j
  .grind[nH]
  .have:(hole+1+(i:Int)==hole+1+(j:Int))=false:=by grind
   rw[this];exact xg f (j+1) i hn (by omega) (by omega)
def ZL (b:Br):Ty:=BR (λi=>var ((b.bounds.length:Int)-1-i)) b.body
section
variable {t:Ty} {b:Br} (hb:Can t b) (h6:b.bounds.length<=6)
include hb h6
theorem Can.P:Wn b=Hr b.bounds (ZL b):=by
 rw[Wn,xZ _ _ hb.wb,ZL];congr 1;refine C3 _ λi hi=>?_
 have h1:=hb.vis i hi
 grind[gB]
theorem Can.R:btR b=Wn b:=by
 rw[hb.P h6,btR,ZL];congr 1;have e:=Oq b.body (NU _ hb.wb);have hh:(hole:Int)=1073741824:=rfl
 conv=>lhs; rw[<-e]
 rw[nD _ _ _ (λi=>i),nE _ _ (λi=>it1 b.bounds.length b.bounds.length 0 i)];refine C3 _ λi hi=>?_
 obtain⟨h1,h2⟩:=hb.vis i hi;have e1:i=((i.toNat:Nat):Int):=by omega
 have e2:=xe (n:=b.bounds.length) (by omega) b.bounds.length 0 i.toNat (by omega) (AK _) (by omega);rw[<-e1] at e2;have e3:=xg b.bounds.length 0 (b.bounds.length-1-i.toNat) (by omega) (AK _) (by omega)
 grind
theorem Can.val:valid b.body=true:=UM _ hb.wb λi hi=>by
 have:=hb.vis i hi;omega
theorem Can.AWC (hs:sz xU t []<=200/\sz xV t []<=12):verdict b.body=0:=by
 have h1:=hb.NR;have h2:=hb.dep;have e1:decide (200<size b.body)=false:=by grind
 have e2:decide (12<depth b.body)=false:=by grind
 rw[verdict,e1,e2,hb.val h6];rfl
theorem Can.pat:LS b.bounds.length b.body=tr (λi=>i.toNat) b.body:=by
 rw[LS,xZ _ _ hb.wb];refine C3 _ λi hi=>?_
 have h1:=hb.vis i hi
 grind[gQ]
theorem Can.ocp (v:Nat) (hv:v<b.bounds.length):Cz v true (LS b.bounds.length b.body)=true:=by
 rw[hb.pat h6,YQ _ _ _ (NU _ hb.wb)];refine ZG (λi hi=>?_) _ (hb.inv v hv)
 grind
theorem Can.num:KE b.bounds.length (LS b.bounds.length b.body) []=(b.body,List.range b.bounds.length):=by
 have ho:=hb.occ;have hL:((List.range b.bounds.length).map λ(i:Nat)=>(i:Int)).Nodup:=by grind[HZ]
 have hm:∀i∈(List.range b.bounds.length).map λ(i:Nat)=>(i:Int),∃j:Nat,j<b.bounds.length/\i=(j:Int):=by grind
 have:=gK (N:=b.bounds.length) (ρ:=λi=>i.toNat) (L:=(List.range b.bounds.length).map λ(i:Nat)=>(i:Int)) hL (λi hi j hj he=>by grind) (λi hi=>by grind) b.body [] (NU _ hb.wb) (by grind);rw[hb.pat h6];rw[Ci] at this;rw[this,ho];congr 1
 .have e:=Oq b.body (NU _ hb.wb)
  conv=>rhs; rw[<-e]
  refine C3 _ λi hi=>?_
  obtain⟨h1,h2⟩:=hb.vis i hi;have:((List.range b.bounds.length).map λ(i:Nat)=>(i:Int))[i.toNat]?=some i:=by grind
  grind[LH]
 .rw[N6]
  have:((λi:Int=>i.toNat)∘λ(i:Nat)=>(i:Int))=id:=by rfl
  rw[this,List.map_id]
theorem Can.IY:IY b.bounds (LS b.bounds.length b.body)=b:=by
 rw[Go.Proofs.YtpgfpakdnijngaaGreatDoor.IY,hb.num h6];rcases b with ⟨bs,body⟩
 congr 1;refine Ia λj=>?_
 grind
end
mutual
theorem AK3:∀t:Ty,wP t=true->(∀i∈vis t,0<=i)->∀w,w∈PU 0 t<->w∈vis t
 | .mk k n i ts,h,hi,w=>by
  have Ba:P5 (.mk k n i ts)=true->(w∈PU 0 (.mk k n i ts)<->w∈vis (.mk k n i ts)):=λhc=>by grind[YO,P5,PA]
  rw[wP] at h;cases h5:k==5 with
  | true=>
   grind[vis,PU,KA]
  | false=>
   rw[h5] at h;cases h2:k==2 with
   | true=>
    rw[h2] at h;simp only[AE,AH,AD] at h;have YN:(k==6)=false:=by grind
    rw[vis,h5,h2] at hi;have:=ZM ts k YN 0 h.2 hi w
    grind[PU,vis]
   | false=>
    grind
theorem ZM:∀(l:List Ty) (k:Int) (_:(k==6)=false) (j:Nat),SC l=true->(∀i∈C2 l,0<=i)->∀w,w∈KA 0 k j l<->w∈C2 l
 | [],_,_,_,_,_,w=>by rfl
 | t::l,k,hk,j,h,hi,w=>by
  simp only[SC,AD] at h;rw[C2] at hi;have e:0+EW k j=0:=by simp[EW,hk]
  have h1:=AK3 t h.1 (λi hm=>hi i (by grind)) w;have h2:=ZM l k hk (j+1) h.2 (λi hm=>hi i (by grind)) w
  grind[KA,C2]
end
mutual
theorem xh:∀t:Ty,wB t=true->(∀i∈vis t,0<=i)->∀w,w∈PU 0 t<->w∈vis t
 | .mk k n i ts,h,hi,w=>by
  have h':=h;rw[wB] at h;cases h5:k==5 with
  | true=>
   grind[vis,PU,KA]
  | false=>
   rw[h5] at h;have YN:(k==6)=false:=by grind
   cases h2:k==2 with
   | true=>
    grind[vis,ZM,PU]
   | false=>
    cases h3:k==3 with
    | true=>
     have h0:(k==0)=false:=by grind
     rw[h0,h2,h3] at h;simp only[AE,CU,AD] at h;rw[vis,h5,h2,h3] at hi;have:=nI ts k YN 0 h.2.2.2 hi w
     grind[PU,vis]
    | false=>
     grind[PU,vis,KA]
theorem nI:∀(l:List Ty) (k:Int) (_:(k==6)=false) (j:Nat),Kn l=true->(∀i∈C2 l,0<=i)->∀w,w∈KA 0 k j l<->w∈C2 l
 | [],_,_,_,_,_,w=>by rfl
 | t::l,k,hk,j,h,hi,w=>by
  simp only[Kn,AD] at h;rw[C2] at hi;have e:0+EW k j=0:=by simp[EW,hk]
  have h1:=xh t h.1 (λi hm=>hi i (by grind)) w;have h2:=nI l k hk (j+1) h.2 (λi hm=>hi i (by grind)) w
  grind[KA,C2]
end
theorem Can.VB {t:Ty} {b:Br} (hb:Can t b) (h6:b.bounds.length<=6) (hs:sz xU t []<=200/\sz xV t []<=12) (hw:Uj b=true) {X:Ty->List Br×Int} (hX:(b.bounds.all λt=>FD (X t))=true):VB X b:=by
 refine⟨hb.top,hb.AWC h6 hs,hw,λv hv=>hb.ocp h6 v hv,λl hl hm=>?_,by rw[hb.num h6],hX⟩
 have hr:((List.range b.bounds.length).map λ(i:Nat)=>(i:Int)).Pairwise (·<·):=by
  rw[List.pairwise_map];exact List.pairwise_lt_range.imp λh=>by omega
 have e:=MS hl hr λw=>by
  rw[hm,xh _ hb.wb (λi hi=>(hb.vis i hi).1),<-hb.occ];refine⟨λh=>KZ _ _ w h,λh=>?_⟩;rcases KY _ _ w h with h|h
  all_goals grind
 grind
mutual
theorem Qd:∀(t:Ty) (u v:Nat),u<=v->BW u t=true->BW v t=true
 | .mk k n i ts,u,v,h,hc=>by
  rw[BW] at hc ⊢;cases hk:k==5&&decide ((u:Int)<=i) with
  | true=>grind
  | false=>
   rw[hk] at hc;have e:(k==5&&decide ((v:Int)<=i))=false:=by grind
   rw[e];exact UN ts u v k 0 h hc
theorem UN:∀(l:List Ty) (u v:Nat) (k:Int) (j:Nat),u<=v->C7 u k j l=true->C7 v k j l=true
 | [],_,_,_,_,_,_=>rfl
 | t::l,u,v,k,j,h,hc=>by
  simp only[C7,AD] at hc ⊢;exact⟨Qd t _ _ (by omega) hc.1,UN l u v k _ h hc.2⟩
end
theorem dH {body:Ty}:∀(l:List Ty) (u:Nat),(∀c∈l,BW 0 c=true)->BW (u+l.length) body=true->BW u (Hr l body)=true
 | [],u,_,h=>h
 | c::l,u,hc,h=>by
  have h1:=Qd c 0 u (AK _) (hc c (by simp));have h2:=dH l (u+1) (λd hd=>hc d (by grind)) (by rw[show u+1+l.length=u+(c::l).length by grind]; exact h);have e:BW u (.mk 6 [] 0 [c,Hr l body])=(BW u c&&(BW (u+1) (Hr l body)&&true)):=rfl
  grind[Hr]
mutual
theorem AC3 {u:Nat}:∀t:Ty,wP t=true->(∀i∈vis t,i<(u:Int))->BW u t=true
 | .mk k n i ts,h,hi=>by
  have h':=h;rw[wP] at h;rw[vis] at hi;cases h5:k==5 with
  | true=>
   rw[h5] at h hi;simp only[AH,AD,Dx] at h;obtain⟨_,rfl⟩:=h;have:=hi i (by simp);have e:decide ((u:Int)<=i)=false:=by grind
   rw[BW,e,XO];rfl
  | false=>
   rw[h5] at h hi;cases h2:k==2 with
   | true=>
    rw[h2] at h hi;simp only[AE,AH,AD] at h;rw[BW,h5];exact UO ts k (by grind) 0 h.2 hi
   | false=>
    rw[h2] at h;simp only[AE,P5,AD] at h;exact Qd _ 0 u (AK _) h.2
theorem UO {u:Nat}:∀(l:List Ty) (k:Int) (_:(k==6)=false) (j:Nat),SC l=true->(∀i∈C2 l,i<(u:Int))->C7 u k j l=true
 | [],_,_,_,_,_=>rfl
 | t::l,k,hk,j,h,hi=>by
  simp only[SC,AD] at h;rw[C2] at hi;have e:u+EW k j=u:=by simp[EW,hk]
  rw[C7,e,AC3 t h.1 λi hm=>hi i (by grind),UO l k hk (j+1) h.2 λi hm=>hi i (by grind)];rfl
end
mutual
theorem nJ {u:Nat}:∀t:Ty,wB t=true->(∀i∈vis t,i<(u:Int))->BW u t=true
 | .mk k n i ts,h,hi=>by
  rw[wB] at h;rw[vis] at hi;cases h5:k==5 with
  | true=>
   rw[h5] at h hi;simp only[AH,AD,Dx] at h;obtain⟨_,rfl⟩:=h;have:=hi i (by simp);have e:decide ((u:Int)<=i)=false:=by grind
   rw[BW,e,XO];rfl
  | false=>
   rw[h5] at h hi;rw[BW,h5]
   show C7 u k 0 ts=true
   cases h2:k==2 with
   | true=>
    simp_all[UO]
   | false=>
    cases h3:k==3 with
    | true=>
     have h0:(k==0)=false:=by grind
     rw[h0,h2,h3] at h;rw[h2,h3] at hi;simp only[AE,CU,AD] at h;exact dI ts k (by grind) 0 h.2.2.2 hi
    | false=>
     rw[h2,h3] at h;cases h0:k==0 with
     | false=>grind
     | true=>
      rw[h0] at h;simp only[AE,AH,AD,Dx] at h;obtain⟨_,_,rfl⟩:=h;rfl
theorem dI {u:Nat}:∀(l:List Ty) (k:Int) (_:(k==6)=false) (j:Nat),Kn l=true->(∀i∈C2 l,i<(u:Int))->C7 u k j l=true
 | [],_,_,_,_,_=>rfl
 | t::l,k,hk,j,h,hi=>by
  simp only[Kn,AD] at h;rw[C2] at hi;have e:u+EW k j=u:=by simp[EW,hk]
  rw[C7,e,nJ t h.1 λi hm=>hi i (by grind),dI l k hk (j+1) h.2 λi hm=>hi i (by grind)];rfl
end
mutual
theorem xj (g:Int->Int):∀t:Ty,wB t=true->size (BR (λi=>var (g i)) t)=size t/\depth (BR (λi=>var (g i)) t)=depth t
 | .mk k n i ts,h=>by
  rw[wB] at h;rw[BR];cases h5:k==5 with
  | true=>
   rw[h5] at h;simp only[AH,AD,Dx] at h;obtain⟨_,rfl⟩:=h;exact⟨rfl,rfl⟩
  | false=>
   rw[h5] at h;cases h2:k==2 with
   | true=>
    simp_all[UK,size,depth]
   | false=>
    cases h3:k==3 with
    | true=>
     have h0:(k==0)=false:=by grind
     rw[h0,h2,h3] at h;simp only[AE,CU,AD] at h;have:=xk g ts h.2.2.2
     grind[size,depth]
    | false=>simp
theorem xk (g:Int->Int):∀l:List Ty,Kn l=true->AQ (BU (λi=>var (g i)) l)=AQ l/\CE (BU (λi=>var (g i)) l)=CE l
 | [],_=>⟨rfl,rfl⟩
 | t::l,h=>by
  simp only[Kn,AD] at h;have h1:=xj g t h.1;have h2:=xk g l h.2
  grind[BU,AQ,CE]
end
def inF (σ:List Nat) (i:Int):Ty:=match σ[i.toNat]? with
 | some v=>ph v
 | none=>var i
mutual
theorem AC4 (σ:List Nat):∀t:Ty,wP t=true->(∀i∈vis t,0<=i)->inst σ 0 t=BR (inF σ) t
 | .mk k n i ts,h,hi=>by
  have h':=h;rw[wP] at h;rw[vis] at hi;cases h5:k==5 with
  | true=>
   grind[inst,BR,inF]
  | false=>
   rw[h5] at h hi;cases h2:k==2 with
   | true=>
    rw[h2] at h hi;simp only[AE,AH,AD] at h;rw[inst,BR,h5,h2];simp only[AE,AH,Dg,UP σ ts k (by grind) 0 h.2 hi]
   | false=>
    grind[Hu,P5,HF]
theorem UP (σ:List Nat):∀(l:List Ty) (k:Int) (_:(k==6)=false) (j:Nat),SC l=true->(∀i∈C2 l,0<=i)->C9 σ 0 k j l=BU (inF σ) l
 | [],_,_,_,_,_=>rfl
 | t::l,k,hk,j,h,hi=>by
  simp only[SC,AD] at h;rw[C2] at hi;have e:0+EW k j=0:=by simp[EW,hk]
  rw[C9,BU,e,AC4 σ t h.1 λi hm=>hi i (by grind),UP σ l k hk (j+1) h.2 λi hm=>hi i (by grind)]
end
mutual
theorem nK (σ:List Nat):∀t:Ty,wB t=true->(∀i∈vis t,0<=i)->inst σ 0 t=BR (inF σ) t
 | .mk k n i ts,h,hi=>by
  rw[wB] at h;rw[vis] at hi;cases h5:k==5 with
  | true=>
   grind[inst,BR,inF]
  | false=>
   rw[h5] at h hi;rw[inst,BR,h5];cases h2:k==2 with
   | true=>
    simp_all[UP]
   | false=>
    cases h3:k==3 with
    | true=>
     have h0:(k==0)=false:=by grind
     rw[h0,h2,h3] at h;rw[h2,h3] at hi;simp only[AE,CU,AD] at h;simp only[AE,AH,Df,dJ σ ts k (by grind) 0 h.2.2.2 hi]
    | false=>
     rw[h2,h3] at h;cases h0:k==0 with
     | false=>grind
     | true=>
      rw[h0] at h;simp only[AE,AH,AD,Dx] at h;obtain⟨_,_,rfl⟩:=h;rfl
theorem dJ (σ:List Nat):∀(l:List Ty) (k:Int) (_:(k==6)=false) (j:Nat),Kn l=true->(∀i∈C2 l,0<=i)->C9 σ 0 k j l=BU (inF σ) l
 | [],_,_,_,_,_=>rfl
 | t::l,k,hk,j,h,hi=>by
  simp only[Kn,AD] at h;rw[C2] at hi;have e:0+EW k j=0:=by simp[EW,hk]
  rw[C9,BU,e,nK σ t h.1 λi hm=>hi i (by grind),dJ σ l k hk (j+1) h.2 λi hm=>hi i (by grind)]
end
theorem nL:∀(m B:Nat) (σ:List Nat) (k:Nat),(SB B m σ)[m+k]?=σ[k]?
 | 0,_,_,k=>by grind[SB]
 | m+1,B,σ,k=>by
  rw[SB,show m+1+k=m+(k+1) by omega,nL m (B+1) (B::σ) (k+1),G8]
theorem nM:∀(m B:Nat) (σ:List Nat) (j:Nat),j<m->(SB B m σ)[m-1-j]?=some (B+j)
 | 0,_,_,j,h=>absurd h (GV _)
 | m+1,B,σ,0,_=>by
  rw[SB,show m+1-1-0=m+0 by omega,nL m (B+1) (B::σ) 0];rfl
 | m+1,B,σ,j+1,h=>by
  rw[SB,show m+1-1-(j+1)=m-1-j by omega,nM m (B+1) (B::σ) j (by omega),show B+1+j=B+(j+1) by omega]
mutual
theorem AE1 (g:Int->Nat):∀t:Ty,wB t=true->fl (tr g t)=true
 | .mk k n i ts,h=>by
  rw[wB] at h;rw[tr,BR];cases h5:k==5 with
  | true=>rfl
  | false=>
   rw[h5] at h;cases h2:k==2 with
   | true=>simp[fl,h2]
   | false=>
    cases h3:k==3 with
    | true=>
     have h0:(k==0)=false:=by grind
     rw[h0,h2,h3] at h;simp only[AE,CU,AD] at h;have:=xl g ts h.2.2.2
     grind[fl]
    | false=>
     grind[fl]
theorem xl (g:Int->Nat):∀l:List Ty,Kn l=true->flL (RO g l)=true
 | [],_=>rfl
 | t::l,h=>by
  simp only[Kn,AD] at h;rw[RO,BU,flL];rw[show BR (λi=>ph (g i)) t=tr g t from rfl,AE1 g t h.1];exact xl g l h.2
end
theorem Can.inst {t:Ty} {b:Br} (hb:Can t b) (h6:b.bounds.length<=6):Go.Proofs.YtpgfpakdnijngaaGreatDoor.inst (SB 0 b.bounds.length []) 0 (ZL b)=LS b.bounds.length b.body:=by
 have hv:∀i∈Go.Proofs.YtpgfpakdnijngaaGreatDoor.vis (ZL b),0<=i:=by
  intro i hi;rw[ZL,Hv] at hi;obtain⟨j,hj,rfl⟩:=Cp.1 hi;have:=hb.vis j hj;omega
 have hw:wB (ZL b)=true:=KB _ _ hb.wb;rw[nK _ _ hw hv,hb.pat h6,ZL,Gv];refine C3 _ λi hi=>?_
 obtain⟨h1,h2⟩:=hb.vis i hi;unfold inF;have:=nM b.bounds.length 0 [] i.toNat (by omega);rw[show((b.bounds.length:Int)-1-i).toNat=b.bounds.length-1-i.toNat by omega,this,Cg]
theorem Can.BW {t:Ty} {b:Br} (hb:Can t b) (h6:b.bounds.length<=6):Go.Proofs.YtpgfpakdnijngaaGreatDoor.BW 0 (Wn b)=true:=by
 rw[hb.P h6];refine dH b.bounds 0 (λc hc=>(hb.EW c hc).cl) (nJ _ (KB _ _ hb.wb) λi hi=>?_);rw[ZL,Hv] at hi;obtain⟨j,hj,rfl⟩:=Cp.1 hi;have:=hb.vis j hj;omega
theorem AK5 {t:Ty} (hs:verdict t=0->Cc (bw t)) (h0:(xR (depth t) t).2=0):verdict t=0/\Go.Proofs.YtpgfpakdnijngaaGreatDoor.BW 0 t=true/\∀b∈(xR (depth t) t).1,Can t b/\Uj b=true/\(b.bounds.all λc=>FD (xR (depth t-1) c))=true:=by
 obtain⟨f,hf⟩:∃f,depth t=f+1:=by
  obtain⟨k,n,i,ts⟩:=t;exact⟨CE ts,rfl⟩
 have hcan:=λhv hc hs l hl=>AKy (t:=t) hv hc hs (l:=l) hl
 grind[xR,ET]
section
variable {R:RT}
theorem pJ (hn:NN R) {t:Ty} {b:Br} (hb:Can t b) (eD:Uj b=true) {X:Ty->List Br×Int} (hX:(b.bounds.all λc=>FD (X c))=true) (hXO:∀c∈b.bounds,lZ R c (X c)) (hwt:∀c∈b.bounds,wt c<=2 ^ 27) (hsz:size (Wn b)<2 ^ 60) (hok:P3 (Wn b)) (Vg:∀c∈b.bounds,size c<2 ^ 38) :
  lZ R (Wn b) (bif verdict (Wn b)==0 then([b],0) else([],2)):=by
 have h6:b.bounds.length<=6:=by
  simp only[Uj,AD,CZ] at eD;exact eD.1
 have hP:=hb.P h6;have Ba:=hb.BW h6;have hin:=hb.inst h6;have Wj:=hb.IY h6;have J9:=hb.val h6
 have hg:=Wk (R:=R) hn (X:=X) (t:=Wn b) (r:=some [LS b.bounds.length b.body]) (B:=b.bounds) hsz hok λSu hc=>by
  obtain⟨hv,ACw,h12⟩:=ET Su;have hbd:∀c∈b.bounds,size c<2 ^ 38/\RQ c=true:=λc hc=>⟨Vg c hc,LR _ (hb.EW c hc).val⟩
  have hps:=cr (N:=b.bounds.length) _ b.body false (AN _)
  have hbody:size b.body<=200:=by
   have gen:∀l:List Ty,size (ZL b)<=size (Hr l (ZL b)):=by
    intro l
    induction l with
    | nil=>exact AN _
    | cons c l ih=>
     rw[Hr];simp only[size,AQ];omega
   have h1:=gen b.bounds;rw[<-hP] at h1;have h2:size (ZL b)=size b.body:=(xj _ _ hb.wb).1;omega
  refine⟨λe x hx s hs=>?_,by omega,hbd,λps hps=>?_,λps hp p hpm=>?_,λps hp c hc=>?_⟩
  .have sP:fl (Go.Proofs.YtpgfpakdnijngaaGreatDoor.inst (SB ([]:List Ty).length b.bounds.length []) 0 (ZL b))=true:=by
    rw[Ce,hin,hb.pat h6];exact AE1 _ _ hb.wb
   rw[hP] at hv hc hx ACw
   have:=Ws (R:=R) hn (e:=e) (Aj:=32) (M:=b.bounds.length) (by decide) (by decide) (by omega) (body:=ZL b) b.bounds (depth (Hr b.bounds (ZL b))) [] [] (AN _) hv hc (by omega) sP (λj hj=>by
    rw[Ce,hin,Cg];exact hb.ocp h6 j hj) (λy hy=>by cases hy) hwt (by simp) x (by rw[DT hv hc,I4 _ hv]; exact hx) s hs
   rw[Ce,hin,ED] at this;exact this
  .cases hps
   simp
  .cases hp
   rw[DF.1 hpm];exact⟨by show size (M4 _ _ _)<_; omega,mT b.body false J9⟩
  .cases hp
   simp only[Bz,Ci,Rj,List.flatMap_nil,Hj,Wj] at hc;exact⟨Vg c hc,hXO c hc⟩
 rw[Ba] at hg
 have hx:xO X (some [LS b.bounds.length b.body]) b.bounds=([b],0):=by
  simp only[xO,Bz,Ci,Wj,Ho,List.all_nil,eD,Rj,List.flatMap_nil,Hj,hX,Fw,AH]
 rw[hx] at hg;cases h:verdict (Wn b)==0 with
 | true=>rw[h] at hg; exact hg
 | false=>rw[h] at hg; exact hg
end
theorem AC5 {f:Nat} {t:Ty} (h:¬ (xR f t).2=0):(xR f t).1=[]:=by
 cases f with
 | zero=>rfl
 | succ f=>
  rw[xR] at h ⊢;cases hg:!(verdict t==0)||!(BW 0 t) with
  | true=>rfl
  | false=>
   rw[hg] at h;simp only[AE] at h ⊢;cases Wj:HQ (Ac 32) (depth t) t with
   | none=>rfl
   | some l=>
    rw[Wj] at h;simp only at h ⊢;cases hall:(l.map IA).all λb=>Uj b&&b.bounds.all λb=>FD (xR f b) with
    | false=>rfl
    | true=>
     rw[hall] at h;exact absurd rfl h
section
variable {R:RT}
theorem nN {s:AM} {lo p:Nat} {l:List Br} {y:AV} {c:Br} (hy:MO lo s.bs l y) (hc:l[p]?=some c):∃a,(∀K:AV->Prop,K a->Cl s 5 y (AA p) K)/\∀K:AV->Prop,(∀row,D3 c (.agg row)->K (.agg row))->EG (env R) s (some 5) a K:=by
 have hy':=hy;rcases hy with ⟨rfl,rfl⟩|⟨id,rows,h1,rfl,h2,h3,h4⟩
 .simp at hc
 .have hw:=λ(K:AV->Prop) hK=>Y3 (R:=R) (K:=K) hy' hc hK
  exact⟨.ptr id (0+((p:Int)).toNat*5),λK hK=>⟨(hw (λ_=>True) λ_ _=>trivial).1,hK⟩,λK hK=>(hw K hK).2⟩
theorem PM (hn:NN R) {X:Ty->List Br×Int} {b:Br} (hsz:size b.body<2 ^ 38) (hok:P3 b.body) (hl:b.bounds.length<2 ^ 30) (hb:∀t∈b.bounds,size t<2 ^ 38/\RQ t=true) (hX:∀t∈b.bounds,lZ R t (X t)) {x:AV} (hx:D3 b x) :
  AL (env R) 27 [x] λr=>∃v:Bool,r=BB v/\(v=true<->VB X b):=by
 obtain⟨x',h1,h2,h3⟩:=hx.closed;exact AL.open (args':=[x']) (by rfl) (by rfl) rfl h1 h2 (QZ hn hsz hok hl hb hX h3)
structure AQ8 (R:RT) (X:Ty->List Br×Int) (b:Br):Prop where
 vb:VB X b
 xo:∀c∈b.bounds,lZ R c (X c)
 bs:∀c∈b.bounds,size c<2 ^ 38/\RQ c=true
 NR:size b.body<2 ^ 18
 val:valid b.body=true
 len:b.bounds.length<=6
 eq:btR b=Wn b
 sz2:size (Wn b)<2 ^ 60
 ok2:P3 (Wn b)
 back:lZ R (Wn b) (bif verdict (Wn b)==0 then([b],0) else([],2))
theorem Wx (hn:NN R) (ZN:AL (env R) 16 [] λv=>v=BB true) {X:Ty->List Br×Int} {l:List Br} (hl:l.length<2 ^ 30) (hL:∀b∈l,AQ8 R X b) {n:Int} (h0:¬ n=0->l=[]) {lo:Nat} {a1:AV} :
  ∀(j q:Nat) (bs:List (List AV)) (tk:List (Nat×Nat)),q+j=l.length->Bj ⟨bs,tk⟩->MO lo bs l a1->AC6 R 0 0 0 a1 (AA n) (AA q) ⟨bs,tk⟩ (QP λv=>v=BB true):=by
 intro j
 induction j with
 | zero=>
  intro q bs tk hi hs hb;have hlen:=MO.BN (s:=⟨bs,tk⟩) hb;refine AQ9 (BI hlen (A2 ?_));rw[BF (by omega)];refine BE (AWD (AG ZN ?_));rintro _ rfl;refine Ax (Ax (Bd (Ax ?_)));cases hz:n==0 with
  | true=>exact Cq (Cq (Cq (Ax (pk (pk ⟨_,Gu,rfl⟩)))))
  | false=>
   have:l=[]:=h0 (by simpa using hz);subst this;exact Ax (b:=false) (Ax (b:=false) (BI hlen (Ax (b:=false) (Bd (Ax (pk (pk ⟨_,Gu,rfl⟩)))))))
 | succ j ih=>
  intro q bs tk hi hs hb;have hlen:=MO.BN (s:=⟨bs,tk⟩) hb;obtain⟨c,hc⟩:∃c,l[q]?=some c:=⟨_,Ap (by omega)⟩;have HM:=hL c (BA hc)
  have hwi:vP wI c.body=true:=R9 (λi hi=>by
   simp only[wI,AD,CZ] at hi ⊢;omega) _ (O9 _ HM.val)
  have h6:=HM.len;refine AQ9 (BI hlen (A2 ?_));rw[Aq (by omega)];refine BP (AWE (Y3 (s:=⟨bs,tk⟩) hb hc λrow hrow=>AG (QY (by have:=HM.NR; omega) HM.val (by omega) HM.bs hrow) ?_));intro r hr;obtain⟨v,s',⟨a2,rfl,w1,w2,w3,_,w5⟩,MP⟩:=HM.back r hr.Km ⟨bs,tk⟩ hs (Cu (env R) 8 0 0 0) rfl rfl rfl;obtain⟨B1,lF⟩:=s';have N3:MO lo B1 l a1:=hb.ACm w2;refine⟨_,_,MP,CC rfl (CC rfl (Y3 (s:=⟨B1,lF⟩) N3 hc λrow hrow=>AG (PM hn (by have:=HM.NR; omega) (I5 _ HM.val) (by omega) HM.bs HM.xo hrow) ?_))⟩;rintro _ ⟨v,rfl,hv⟩;have:v=true:=hv.2 HM.vb;subst this;refine nt (BE (AWF (Y3 (s:=⟨B1,lF⟩) N3 hc λrow hrow=>AG (PK (by have:=HM.NR; omega) hwi (by omega) hrow) ?_)));intro r2 Pt;rw[HM.eq] at Pt;refine AG (TV HM.sz2 HM.ok2 Pt) ?_;rintro _ rfl;refine Bd ?_;have next:AK6 R 0 0 0 a1 (AA n) (AA q) ⟨B1,lF⟩ (QP λv=>v=BB true):=AWG (CO (by omega) (by omega) (ih (q+1) B1 lF (by omega) w5 N3))
  cases hvd:verdict (Wn c)==0 with
  | false=>
   exact Bx (Bx (Bx (IK (IK (IK (Bx (Bx (IK (IK (IK (IK (IK (IK (IK (IK (IK (Bx (pk (BE next)))))))))))))))))))
  | true=>
   rw[hvd] at w1;have w1:MO bs.length B1 [c] a2:=w1;obtain⟨e1,f1,f2⟩:=nN (R:=R) (s:=⟨B1,lF⟩) (p:=0) w1 rfl;obtain⟨e2,f3,f4⟩:=nN (R:=R) (s:=⟨B1,lF⟩) N3 hc;have Rq:=MO.BN (s:=⟨B1,lF⟩) w1;refine Ax (Ax (Fl ?_));rw[show((bif true then(([c]:List Br),(0:Int)) else([],2)).snd != 0)=false from rfl];refine Ax (Ax (b:=false) (Ax (b:=false) (BI Rq (Ax (b:=false) (Fl ?_)))));rw[show((([c].length:Nat):Int) != 1)=false from rfl];refine Ax (pk (Ax (Ax (b:=false) (Ax (b:=false) (f1 _ (Ax (b:=false) (f2 _ λrow1 ARA=>?_)))))));refine Ax (b:=false) (Ax (b:=false) (Ax (b:=false) (f3 _ (Ax (b:=false) (f4 _ λrow2 ARB=>Ax (b:=false) (AG (QS ⟨by have:=HM.NR; omega,by omega,λt ht=>(HM.bs t ht).1⟩ ARA ARB) ?_))))));rintro _ ⟨e,rfl,he⟩;have:e=true:=he.2 rfl;subst this;exact Ax (b:=false) (nt (Ax (pk (pk (BE next)))))
end
attribute [local simp] Bw B6 KS KT AO C1 GC wO setCells CR EG DQ Cu BD alive Cb Fi Hs jo Ay DC BV GL DY D0 qY oO okB qZ qa qb qc qd fK qe qf qg qh qi qj qm qo qp qt qu okF qv qw qx qy rC U2 rD RJ RK RL RM rE rF rG rH rI rJ rK rL rM rN Gu rO oP rP rQ rR rS rT rU rV rW rX rY Cm g0 g1 xI xL xM xF xG xC lf Y4 Y5
theorem dK {y:Ty}:∀l:List Ty,(∀c∈l,size c<=200)->size (Hr l y)<=l.length*201+size y
 | [],_=>by simp[Hr]
 | c::l,h=>by
  have h1:=h c (by simp);have h2:=dK (y:=y) l λd hd=>h d (by simp[hd])
  rw[Hr];simp only[size,AQ,CI,Dm];omega
theorem xm {y:Ty} (hy:P3 y):∀l:List Ty,(∀c∈l,P3 c)->P3 (Hr l y)
 | [],_=>hy
 | c::l,h=>by
  rw[Hr,P3];exact⟨by unfold U2; simp,h c (by simp),xm hy l λd hd=>h d (by simp[hd]),AZ⟩
section
variable {R:RT}
theorem AC7 (hn:NN R) {t:Ty} (hg:gq 3 t=true) (Su:verdict t=0) (hc:BW 0 t=true) {b:Br} (hb:Can t b) (hw:Uj b=true) (hX:(b.bounds.all λc=>FD (xR (depth t-1) c))=true):AQ8 R (xR (depth t-1)) b:=by
 obtain⟨hv,ACw,h12⟩:=ET Su;have hft:=AQL hg Su;have hs:=pI hg Su hc
 have h6:b.bounds.length<=6:=by
  simp only[Uj,AD,CZ] at hw;exact hw.1
 have hXO:∀c∈b.bounds,lZ R c (xR (depth t-1) c):=λc KD=>by
  have h1:=hb.EW c KD;have:=T7 (R:=R) hn (depth t-1) c (by have:=h1.dep; omega) (by have:=h1.NR; omega) (I5 c h1.val) (λ_=>hft.sub h1);rw[AO3 (depth t-1) c λ_=>(hft.sub h1).bws] at this;exact this
 have Vg:∀c∈b.bounds,size c<=200:=λc KD=>by
  have:=(hb.EW c KD).NR;omega
 have hP:=hb.P h6;have hbody:size b.body<=200:=A6 hb.NR hs.1;have hbt:size (ZL b)=size b.body:=(xj _ _ hb.wb).1
 have hsz:size (Wn b)<2 ^ 60:=by
  have h1:=dK (y:=ZL b) b.bounds Vg;have h2:b.bounds.length*201<=6*201:=CJ _ h6;rw[hP];omega
 have J9:valid (ZL b)=true:=UM _ (KB _ _ hb.wb) λi hi=>by
  rw[ZL,Hv] at hi;obtain⟨j,hj,rfl⟩:=Cp.1 hi;have:=hb.vis j hj;omega
 have hok:P3 (Wn b):=by
  rw[hP];exact xm (I5 _ J9) _ λc KD=>I5 c (hb.EW c KD).val
 exact⟨hb.VB h6 hs hw hX,hXO,λc KD=>⟨by have:=Vg c KD; omega,LR _ (hb.EW c KD).val⟩,by omega,hb.val h6,h6,hb.R h6,hsz,hok,pJ hn hb hw hX hXO (λc KD=>A6 (hb.EW c KD).wts hft.wts) hsz hok λc KD=>by have:=Vg c KD; omega⟩
theorem nY (hn:NN R) (ZN:AL (env R) 16 [] λv=>v=BB true) {W:List (List UInt8)} (hW:(env R).G 1=some (E6 W)) (sW:Short W) (h4:W.length=4) (l:List Int) (hl:l.length<2 ^ 50) :
  AL (env R) 8 [.pv (.list (AY l))] λv=>v=BB true:=by
 refine e8 (u0:=.pv (.list (AY l))) (by simp) (AWH ?_);have hSl:=Src.Wy l;have hB:Nx [RX (.of l) 0] 0 (.of l):=⟨by simp,by simp[ZO],by rw[Src.Wy]; omega⟩;have hST:∀k,Tel.ST [RX (.of l) 0] 0 (.of l) k=[RX (.of l) k]:=λk=>by simp[Tel.ST]
 have h0:Kk [RX (.of l) 0] []:=λb hb=>by cases hb
 refine CY (wW l _ _) ?_;rintro v s1 ⟨rfl,rfl⟩;have e0:(⟨[]++[RX (.of l) 0],[]⟩:AM)=⟨Tel.ST [RX (.of l) 0] 0 (.of l) 0++[],[]⟩:=by simp[hST]
 show EK (env R) _ _ _ ⟨[]++[RX (.of l) 0],[]⟩ _
 rw[e0];refine AG pG ?_;rintro dv ⟨rows,hD⟩;refine CY (ZD hB hW h4 sW hD h0 (k:=0) (by omega) (Cu (env R) 8 0 0 0) (by simp[Cu]) [] (by simp[Cu])) ?_;rintro x s1 ⟨t,k1,x1,hx,ht1,_,VR,rfl⟩;simp only[hST,Hj,ED]
 have hs0:Bj ⟨[RX (.of l) k1],x1⟩:=by
  intro d hd;simp only[Az,Ex,Ey] at hd;subst hd;exact ZO _ _ _
 generalize [RX (.of l) k1]=bs at hs0;have s1:=ht1.1.2;have hf1:=AQL ht1.2;have hX1:=AKj (R:=R) (t:=t) hn (by omega) ht1.1.1 hf1;obtain⟨l1,_⟩:=AKk (f:=depth t) hf1;have hnone:=λh=>AC5 (f:=depth t) (t:=t) h
 have hcan:=AK5 (t:=t) λh=>(hf1 h).bws
 obtain⟨xc,rfl⟩:=hx.agg;obtain⟨c1,c2,c3⟩:=hx.cells;refine Bi (BZ (Am bs Z4) c1 rfl (by decide) (AK _) c2 (.inl (AK _)) ?_);have e2:(bs++[Z4]).set bs.length xc=bs++[xc]:=by simp
 rw[e2];have hs1:Bj ⟨bs++[xc],x1⟩:=Bj.app (s:=⟨bs,x1⟩) hs0 (c3 _);obtain⟨v,s',⟨a1,rfl,q1,q2,q3,_,q5⟩,Na⟩:=hX1 (.agg xc) hx ⟨bs++[xc],x1⟩ hs1 (Cu (env R) 8 0 0 0) rfl rfl rfl;obtain⟨B1,lF⟩:=s';refine Af (Am bs xc) c1 ⟨_,_,Na,CC rfl (CC rfl ?_)⟩
 by_cases hz:(xR (depth t) t).2=0
 .obtain⟨Su,hc,Wj⟩:=hcan hz
  exact Wx hn ZN (X:=xR (depth t-1)) (by omega) (λb hb=>by
   obtain⟨h1,h2,h3⟩:=Wj b hb;exact AC7 hn ht1.2 Su hc h1 h2 h3) hnone _ 0 B1 lF (Cg _) q5 q1
 .have AWI:=hnone hz
  rw[AWI] at q1;exact Wx hn ZN (X:=xR (depth t-1)) (by simp) (λb hb=>by cases hb) (λ_=>rfl) _ 0 B1 lF (Cg _) q5 q1
end
theorem AL.told {E:Env} {f:FuncId} {fn:Func} {T:A3->List AV->AM->Option (AV×AM)} {args:List AV} {v:AV} {Post:AV->Prop} (hfn:E.P.funcs[f]?=some fn) (hc:E.clone f=true) (ht:E.told f=some T) (h:∀L s,T L args s=some (v,s)) (hp:Post v):AL E f args Post:=by
 refine⟨v,hp,λL s=>⟨1,λm hm=>?_⟩⟩;obtain⟨m,rfl⟩:∃k,m=k+1:=⟨m-1,by omega⟩
 grind[DG,OL]
theorem dL {d:Nat} (h:d<10):(UInt8.ofNat (48+d)).toNat=48+d:=by grind[UInt8.toNat_ofNat']
theorem dM:∀(f k n:Nat) (acc:List UInt8),0<k->n<10 ^ k->(Kc f n acc).length<=acc.length+k
 | 0,k,n,acc,_,_=>by simp[Kc]
 | f+1,k,n,acc,hk,hn=>by
  rw[Kc];cases hb:Nat.blt n 10 with
  | true=>
   grind
  | false=>
   have h10:¬ n<10:=λh=>by grind[Nat.blt,Nat.ble_eq_true_of_le]
   obtain⟨j,rfl⟩:∃j,k=j+1:=⟨k-1,by omega⟩;rw[Rn] at hn;have hj:0<j:=by grind
   have:=dM f j (n / 10) (UInt8.ofNat (48+n % 10)::acc) hj (by omega)
   grind
theorem UQ {d a:Nat} (h:d<10) (l:List UInt8):Kl (UInt8.ofNat (48+d)::l) a=Kl l (a*10+d):=by grind[Kl,dL,Nat.ble_eq_true_of_le]
theorem UR:∀(f n:Nat) (acc:List UInt8),n<10 ^ f->Kl (Kc f n acc) 0=Kl acc n
 | 0,n,acc,h=>by
  have:n=0:=by omega
  subst this;rfl
 | f+1,n,acc,h=>by
  rw[Kc];cases hb:Nat.blt n 10 with
  | true=>
   have h10:n<10:=Cr hb
   grind[UQ]
  | false=>
   rw[Rn] at h;simp only[AE];rw[UR f (n / 10) _ (by omega),UQ (by omega)]
   grind
theorem num {R:RT}:NN R:=by
 refine⟨λn hn=>?_,λn hn=>?_⟩
 .refine AL.told (fn:=Tryz.f123) (T:=oK) Tryz.func123 (by rfl) (by rfl) (λL s=>?_) rfl
  show(bif Nat.blt n 1099511627776 then some (SS (G4 n),s) else none:Option (AV×AM))=_
  grind[Nat.blt,Nat.ble_eq_true_of_le]
 .have hl:=TX n
  have Rq:(G4 n).length<=18:=by
   have:=dM 20 18 n [] (by decide) (Fu hn (by decide))
   assumption
  have hu:Kl (G4 n) 0=some n:=UR 20 n [] (Fu hn (by decide));refine AL.told (fn:=Tryz.f124) (T:=fI) Tryz.func124 (by rfl) (by rfl) (λL s=>?_) rfl
  grind[fI,Nat.ble_eq_true_of_le]
end Go.Proofs.YtpgfpakdnijngaaGreatDoor
