/-
  The reference: fill.
-/
import Derived.Test.YtpgfpakdnijngaaGreatDoorTF
import Derived.Test.YtpgfpakdnijngaaGreatDoorTE
set_option linter.all false
namespace Go.Proofs.YtpgfpakdnijngaaGreatDoor
open Go.Tel
mutual
theorem Nh {p:Int->Bool} (h:∀i,p i=true->-(2 ^ 60)<=i/\i<2 ^ 60):∀t:Ty,vP p t=true->WT t=true
 | .mk k n i ts,ht=>by
  rw[vP] at ht;rw[WT];cases h5:k==5 with
  | true=>
   grind
  | false=>
   rw[h5] at ht;cases h2:k==2||k==3 with
   | true=>
    rw[h2] at ht;exact lz h ts ht
   | false=>rfl
theorem lz {p:Int->Bool} (h:∀i,p i=true->-(2 ^ 60)<=i/\i<2 ^ 60):∀l:List Ty,Qs p l=true->QA l=true
 | [],_=>rfl
 | t::l,hl=>by
  simp only[Qs,AE] at hl;rw[QA,Nh h t hl.1,lz h l hl.2];rfl
end
theorem Mg {N:Nat} (hN:(N:Int)<2 ^ 50):∀i,Rr N i=true->-(2 ^ 60)<=i/\i<2 ^ 60:=by grind[hole]
theorem LG {bs bs' X:List (List AV)} {n e:Nat} {c:List AV} (hn:n<=bs.length) (h1:bs.take n=X) (h2:bs'.take bs.length=bs.set e c):bs'.take n=X.set e c:=by
 have:=Ba (List.take n) h2
 grind[List.take_set]
theorem EY.keep {lo:Nat} {bs bs':List (List AV)} {l:List Br} {a:AV} {e:Nat} {c d:List AV} (h:EY lo bs l a) (he:bs[e]?=some c) (hc:c.length=2) (hT:bs'.take bs.length=bs.set e d):EY lo bs' l a:=by
 rcases h with h|⟨id,rows,h1,h2,h3,h4,h5⟩
 .exact .inl h
 .refine .inr ⟨id,rows,h1,h2,?_,h4,h5⟩
  have hne:e≠id:=by grind[Hj]
  exact B5 hT (by grind)
structure ME (e:Nat) (x:Bool) (l:List Br) (s s':AM) (v:AV):Prop where
 So:EY s.bs.length s'.bs l v
 tk:s'.bs.take s.bs.length=s.bs.set e [BB true,BB x]
 len:s.bs.length<=s'.bs.length
 ok:BM s'
 Ow:Ca (.AB []) (.AB []) s.ts s'.ts
def gj (o:Option (List Br)) (x x':Bool) (r:List Br):Prop:=(x=true->x'=true)/\(x=false->match o with
 | some m=>r=m/\x'=false
 | none=>x'=true)
section
variable {R:RT}
theorem l5 {e:Nat} {y t4 t7 acc:AV} {lo p:Nat} {l:List Br} {s:AM} (hy:EY lo s.bs l y) (gE:s.bs[e]?=some [BB true,BB true]) {QR:QT} (h:QR acc s):T5 R 0 0 0 (.ptr e 0) y t4 t7 acc (AA p) s QR:=by
 refine gu (Al (n:=l.length) hy.A7 (Ah ?_));cases hd:decide ((p:Int)<(l.length:Nat)) with
 | true=>exact Ao (Ao (Cy (AP gE) (Ao (AK (AP gE) (Ao (AU (off:=1) gE rfl (Ao (nt (pk (Am (gv h)))))))))))
 | false=>exact Bm (Bm (Bm (Bm (Bm (pk (Am (gv h)))))))
theorem ADa {e:Nat} {l:List Br} {W w S T:Nat} (hl:∀c∈l,MA W c/\c.bounds.length<=w) (hT:(T:Int)<hole) (hS:S<2 ^ 37) {f:Nat} {b:Br} {k:Nat} (hb:vP (Rr b.bounds.length) b.body=true) (hk:GI b.body=some k) (hf:(Ai b.body).count hole<=f+1) (hbS:size b.body+(Ai b.body).count hole*W<=S) (hbT:b.bounds.length+(Ai b.body).count hole*w<=T) (hf2:f<2 ^ 27) (Rk:l.length<2 ^ 30)
  {lo:Nat} {y:AV} {rb:List AV} (hrb:CP b (.agg rb))
  (ih:∀b':Br,vP (Rr b'.bounds.length) b'.body=true->(Ai b'.body).count hole<=f->size b'.body+(Ai b'.body).count hole*W<=S->b'.bounds.length+(Ai b'.body).count hole*w<=T->∀x,CP b' x->∀s,BM s->∀L:A8,L.ro=0->L.rt=0->L.rr 130=true->s.bs[e]?=some [BB true,BB false]->EY lo s.bs l y ->
   ∃v s',(∃r x',gj (Eb (AQ 32) l f b') false x' r/\r.length<=33*(f+1)/\ME e x' r s s' v)/\BD (env R) L 130 [.ptr e 0,x,y] s v s')
  {s0:AM} (he:e<s0.bs.length) (hE0:s0.bs[e]?=some [BB true,BB false]) (hy0:EY lo s0.bs l y) {o:Option (List Br)} {QR:QT}
  (hQ:∀bs tk acc r x',gj o false x' r->r.length<=33*(f+2)->BM ⟨bs,tk⟩->bs.take s0.bs.length=s0.bs.set e [BB true,BB x']->s0.bs.length<=bs.length->EY s0.bs.length bs r acc->Ca (.AB []) (.AB []) s0.ts tk->QR acc ⟨bs,tk⟩) :
  ∀(j p:Nat) (out:List Br) (bs:List (List AV)) (tk:List (Nat×Nat)) (acc:AV),p+j=l.length->IP (AQ 32) (λc=>Eb (AQ 32) l f (Dm b k c)) (l.drop p) out=o->out.length<=32->BM ⟨bs,tk⟩->bs.take s0.bs.length=s0.bs.set e [BB true,BB false]->bs[s0.bs.length]?=some rb->s0.bs.length+1<=bs.length->EY (s0.bs.length+1) bs out acc->Ca (.AB []) (.AB []) s0.ts tk ->
   T5 R 0 0 0 (.ptr e 0) y (.ptr s0.bs.length 0) (AA k) acc (AA p) ⟨bs,tk⟩ QR:=by
 obtain⟨rb1,rb2,rb3⟩:=hrb.cells;intro j
 induction j with
 | zero=>
  intro p out bs tk acc hi D9 hout hs Mh gb hlen hacc hch;have gE:bs[e]?=some [BB true,BB false]:=B5 Mh (by rw[CS he]);have hy:EY lo bs l y:=hy0.keep hE0 rfl Mh;refine gu (Al (n:=l.length) hy.A7 (Ah ?_));rw[Aw (by omega)];rw[Bu (by omega),IP] at D9;subst D9;exact Bm (Bm (Bm (Bm (Bm (pk (Am (gv (hQ bs tk acc out false ⟨λh=>(by cases h),λ_=>⟨rfl,rfl⟩⟩ (by omega) hs Mh (by omega) (hacc.mono (by omega) λj c _ h=>h) hch))))))))
 | succ j D2=>
  intro p out bs tk acc hi D9 hout hs Mh gb hlen hacc hch;have gE:bs[e]?=some [BB true,BB false]:=B5 Mh (by rw[CS he]);have hy:EY lo bs l y:=hy0.keep hE0 rfl Mh;refine gu (Al (n:=l.length) hy.A7 (Ah ?_));rw[Ap (by omega)];obtain⟨c,hc⟩:∃c,l[p]?=some c:=⟨_,Ak (by omega)⟩;have Nr:=A2 hc;obtain⟨hcG,hcw⟩:=hl c Nr;rw[drop_cons hc,IP] at D9;refine Ao (Ao (Cy (AP gE) (Ao (AK (AP gE) (Ao (AU (off:=1) gE rfl (Ao (nt (pk (A4 (AMD (Ad gb rb1 (QE hy hc λrc hrc=>?_)))))))))))))
  have hpos:0<(Ai b.body).count hole:=by
   have hfs:=GD hk
   grind
  have m0:1*w<=(Ai b.body).count hole*w:=B9 _ hpos;have m3:1*W<=(Ai b.body).count hole*W:=B9 _ hpos;have hbc:((b.bounds.length+c.bounds.length:Nat):Int)<hole:=by omega
  have hh:(hole:Int)=1073741824:=rfl;obtain⟨g1,g2,g3,g4⟩:=lG hb hk hcG hbc;have el:(Dm b k c).bounds.length=b.bounds.length+c.bounds.length:=by simp[Dm]
  have m1:(Ai b.body).count hole*W=(Ai (Dm b k c).body).count hole*W+W:=by rw[<-g3,Ku]
  have m2:(Ai b.body).count hole*w=(Ai (Dm b k c).body).count hole*w+w:=by rw[<-g3,Ku]
  obtain⟨v1,s1,⟨My,w1,w2,rfl⟩,w3⟩:=gi (R:=R) (k:=k) g4 (by omega) (by have:=hcG.WL; omega) (Nh (Mg (by omega)) _ hcG.ok) (by omega) hrb hrc (s:=⟨bs,tk⟩) hs (L:=Cv (env R) 130 0 0 0) rfl rfl;refine⟨_,_,w3,?_⟩;have hs1:BM ⟨bs,My⟩:=hs;obtain⟨v2,s2,⟨r,x',hE,hrl,hR⟩,w5⟩:=ih (Dm b k c) g1 (by omega) (by omega) (by omega) v1 w1 ⟨bs,My⟩ hs1 (Cv (env R) 130 0 0 0) rfl rfl (by rfl) gE hy;refine⟨_,_,w5,by decide,?_⟩;obtain⟨b2,Mq⟩:=s2
  have IZ:b2.take s0.bs.length=s0.bs.set e [BB true,BB x']:=by
   have:=LG (n:=s0.bs.length) (by omega) Mh hR.tk;rwa [Hr] at this
  have l7:bs.length<=b2.length:=hR.len;have gb2:b2[s0.bs.length]?=some rb:=B5 hR.tk (by grind);have Jy:EY (s0.bs.length+1) b2 out acc:=hacc.keep gE rfl hR.tk;have Ns:EY (s0.bs.length+1) b2 r v2:=hR.So.mono hlen λj c _ h=>h
  refine Yo Jy Ns rfl (by omega) (by grind) ?_;intro a' b3 q1 q2 q3 q4;have hs3:=q4 hR.ok
  have l8:∀j c,j<s0.bs.length+1->b2[j]?=some c->b3[j]?=some c:=by
   intro j c hj hjc;refine q2 j c (λn ha=>?_) hjc;rcases Jy with ⟨h1,_⟩|⟨id,rows,h1,h2,_⟩
   all_goals grind
  have TX:b3.take s0.bs.length=s0.bs.set e [BB true,BB x']:=by
   rw[<-IZ];refine G3 λj=>?_
   grind
  have Q9:b3[e]?=some [BB true,BB x']:=B5 TX (by rw[CS he]);have gb3:b3[s0.bs.length]?=some rb:=l8 _ _ (by omega) gb2;have NZ:Ca (.AB []) (.AB []) s0.ts Mq:=(hch.trans w2).trans hR.Ow;have l9:s0.bs.length+1<=b3.length:=by grind
  have hy3:EY lo b3 l y:=hy0.keep hE0 rfl TX;have LV:EY s0.bs.length b3 (out++r) a':=q1.mono (by omega) λj c _ h=>h
  refine Cy (AP Q9) (AK (AP Q9) (AU (off:=0) Q9 rfl (Ao (Ao (Al (n:=(out++r).length) q1.A7 (Ao (Fp (pk ?_))))))));have eb:decide (((out++r).length:Int)>32)=AQ 32 (out++r).length:=by grind
  rw[eb]
  have w8:∀(b4:List (List AV)),BM ⟨b4,Mq⟩->b4.take s0.bs.length=s0.bs.set e [BB true,BB true]->s0.bs.length+1<=b4.length->EY s0.bs.length b4 (out++r) a'->o=none->Yp R 0 0 0 (.ptr e 0) y (.ptr s0.bs.length 0) (AA k) a' (AA p) ⟨b4,Mq⟩ QR:=by
   intro b4 h1 h2 h3 h4 h5;refine gw (BW (by omega) (by omega) ?_);have gE4:b4[e]?=some [BB true,BB true]:=B5 h2 (by rw[CS he]);have:=l5 (R:=R) (t4:=.ptr s0.bs.length 0) (t7:=AA k) (acc:=a') (p:=p+1) (s:=⟨b4,Mq⟩) (hy0.keep hE0 rfl h2) gE4 (hQ b4 Mq a' (out++r) true ⟨λ_=>rfl,λ_=>by rw[h5]⟩ (by grind) h1 h2 (by omega) h4 NZ)
   grind
  have ARW:o=none\/(x'=false/\AQ 32 (out++r).length=false/\IP (AQ 32) (λc=>Eb (AQ 32) l f (Dm b k c)) (l.drop (p+1)) (out++r)=o)\/(x'=false/\AQ 32 (out++r).length=true/\o=none):=by
   have hE2:=hE.2 rfl
   grind
  cases Lf:AQ 32 (out++r).length with
  | true=>
   have ho:o=none:=by grind
   refine A4 (Cy (AP Q9) (AK (AP Q9) (DD Q9 (by simp) rfl (AI _) rfl (.inl (AI _)) ?_)));have e1:[BB true,BB x'].set (0+1) (BB true)=[BB true,BB true]:=rfl;rw[e1];refine w8 _ (BM.set (s:=⟨b3,Mq⟩) hs3 rfl _) (by simp[*,EE]) (by grind) (LV.keep Q9 rfl (d:=[BB true,BB true]) (by grind[List.take_of_length_le])) ho
  | false=>
   refine Am ?_;rcases ARW with h|⟨rfl,h2,h3⟩|⟨_,h2,_⟩
   .cases x' with
    | true=>grind
    | false=>
     have hE2:=hE.2 rfl;cases hg:Eb (AQ 32) l f (Dm b k c) with
     | none=>rw[hg] at hE2; cases hE2
     | some m=>
      rw[hg] at D9 hE2;simp only at D9 hE2;obtain⟨rfl,_⟩:=hE2;rw[Lf] at D9;simp only[AG] at D9;refine gw (BW (by omega) (by omega) ?_);have:=D2 (p+1) (out++r) b3 Mq a' (by omega) D9 (by simpa[AQ] using Lf) hs3 TX gb3 l9 q1 NZ;simpa using this
   .refine gw (BW (by omega) (by omega) ?_)
    have:=D2 (p+1) (out++r) b3 Mq a' (by omega) h3 (by simpa[AQ] using h2) hs3 TX gb3 l9 q1 NZ;simpa using this
   .rw[Lf] at h2; cases h2
end
section
variable {R:RT}
theorem M7 {e:Nat} {s0:AM} (hs0:BM s0) {bs:List (List AV)} {ts:List (Nat×Nat)} {l:List Br} {x:Bool} {v:AV} {Post:AV->AM->Prop} (hT:bs.take s0.bs.length=s0.bs.set e [BB true,BB x]) (hb:EY s0.bs.length bs l v) (hch:Ca (.AB []) (.AB []) s0.ts ts) (hP:∀v' s',ME e x l s0 s' v'->Post v' s'):QM true s0.bs.length Post v ⟨bs,ts⟩:=by
 refine AMC (X:=s0.bs.set e [BB true,BB x]) (by simp) ?_ hT hb λv' bs' h1 h2 h3 h4=>hP v' ⟨bs',ts⟩ ⟨h1,h2,h3,h4,hch⟩
 have:=BM.set hs0 (c:=[BB true,BB x]) rfl ts (j:=e);intro b hb';have h1:=this b hb'
 grind
theorem o5 {e:Nat} {l:List Br} {W w S T:Nat} (hl:∀c∈l,MA W c/\c.bounds.length<=w) (hT:(T:Int)<hole) (hS:S<2 ^ 37) (Rk:l.length<2 ^ 30) {lo:Nat} {y:AV}:∀(f:Nat),f<=2 ^ 27->∀(b:Br),vP (Rr b.bounds.length) b.body=true->(Ai b.body).count hole<=f->size b.body+(Ai b.body).count hole*W<=S->b.bounds.length+(Ai b.body).count hole*w<=T->∀x,CP b x->∀(exc:Bool) (s:AM),BM s->∀L:A8,L.ro=0->L.rt=0->L.rr 130=true->s.bs[e]?=some [BB true,BB exc]->EY lo s.bs l y ->
  ∃v s',(∃r x',gj (Eb (AQ 32) l f b) exc x' r/\r.length<=33*(f+1)/\ME e x' r s s' v)/\BD (env R) L 130 [.ptr e 0,x,y] s v s':=by
 intro f
 induction f with
 | zero=>
  intro _ b hb hf hbS hbT x hx exc s hs L hro EU qc hE hy;have le:=(BL.1 hE).1;have same:s.bs.set e [BB true,BB exc]=s.bs:=by grind[List.set_getElem_self]
  obtain⟨row,rfl⟩:=hx.agg;obtain⟨c1,c2,c3⟩:=hx.cells;refine ARX (by rfl) ?_;rw[hro,EU,qc];have g0:=Ay s.bs row;refine w9 (Bw (cs:=row) rfl c2 (Ad g0 c1 (AD (JZ (by omega) hx) ?_)));rintro _ rfl;have hn:GI b.body=none:=by grind[GI]
  rw[WW,hn];refine Ah (A4 (Ad g0 c1 (MC hx ?_)));refine M7 (x:=exc) (l:=[b]) hs (by grind) (.inr ⟨_,[row],by simp,rfl,by simp,⟨hx,Ae⟩,by simp⟩) (Ca.refl _ _) λv' s' h=>⟨[b],exc,⟨λh=>h,λh=>?_⟩,by simp,h⟩
  grind[Eb]
 | succ f ih=>
  intro hf20 b hb hf hbS hbT x hx exc s hs L hro EU qc hE hy;have le:=(BL.1 hE).1;have same:s.bs.set e [BB true,BB exc]=s.bs:=by grind[List.set_getElem_self]
  obtain⟨row,rfl⟩:=hx.agg;obtain⟨c1,c2,c3⟩:=hx.cells;refine ARX (by rfl) ?_;rw[hro,EU,qc];have g0:=Ay s.bs row;refine w9 (Bw (cs:=row) rfl c2 (Ad g0 c1 (AD (JZ (by omega) hx) ?_)));rintro _ rfl;rw[WW];have ZH:(s.bs++[row]).take s.bs.length=s.bs.set e [BB true,BB exc]:=by grind
  cases hk:GI b.body with
  | none=>
   refine Ah (A4 (Ad g0 c1 (MC hx ?_)));refine M7 (x:=exc) (l:=[b]) hs (by grind) (.inr ⟨_,[row],by simp,rfl,by simp,⟨hx,Ae⟩,by simp⟩) (Ca.refl _ _) λv' s' h=>⟨[b],exc,⟨λh=>h,λh=>?_⟩,by grind,h⟩
   grind[Eb]
  | some k=>
   simp only;refine Ah ?_;rw[Aw (by omega)];refine Am (AMF ?_);have hs1:BM ⟨s.bs++[row],s.ts⟩:=BM.app (s:=s) hs (c3 _);cases exc with
   | true=>
    have gE:=Av hE row
    have:=l5 (R:=R) (t4:=.ptr s.bs.length 0) (t7:=AA k) (acc:=.AB []) (p:=0) (s:=⟨s.bs++[row],s.ts⟩) (QR:=QM true s.bs.length (λv s'=>∃r x',gj (Eb (AQ 32) l (f+1) b) true x' r/\r.length<=33*(f+1+1)/\ME e x' r s s' v)) (hy.mono (Aa _) λj c _ h=>Av h _) gE
     (M7 (x:=true) (l:=[]) hs ZH (.inl ⟨rfl,rfl⟩) (Ca.refl _ _) λv' s' h=>⟨[],true,⟨λ_=>rfl,λh=>(by cases h)⟩,by simp,h⟩)
    omega
   | false=>
    have:=ADa (R:=R) (f:=f) (k:=k) (o:=Eb (AQ 32) l (f+1) b) (QR:=QM true s.bs.length (λv s'=>∃r x',gj (Eb (AQ 32) l (f+1) b) false x' r/\r.length<=33*(f+1+1)/\ME e x' r s s' v)) hl hT hS hb hk hf hbS hbT (by omega) Rk hx (λb' h1 h2 h3 h4 x hx s hs L q1 q2 q3 q4 q5=>ih (by omega) b' h1 h2 h3 h4 x hx false s hs L q1 q2 q3 q4 q5) le hE hy
     (λbs tk acc r x' h1 h2 h3 h4 h5 h6 h7=>M7 hs h4 h6 h7 λv' s' h=>⟨r,x',h1,h2,h⟩) l.length 0 [] (s.bs++[row]) s.ts (.AB []) (by omega) (by grind[Eb]) (by simp) hs1 ZH g0 (by simp) (.inl ⟨rfl,rfl⟩) (Ca.refl _ _)
    omega
theorem JN {e:Nat} {l:List Br} {y:AV} {exc:Bool} {s:AM} (hs:BM s) (hE:s.bs[e]?=some [BB true,BB exc]) (hy:EY 0 s.bs l y) {L:A8} (hro:L.ro=0) (EU:L.rt=0) :
  ∃v s',(v=(bif exc||AQ 32 l.length then .AB [] else y)/\s'=⟨s.bs.set e [BB true,BB (exc||AQ 32 l.length)],s.ts⟩)/\BD (env R) L 99 [.ptr e 0,y] s v s':=by
 have le:=(BL.1 hE).1;refine m99 (by rfl) ?_;rw[hro,EU];refine ARY (Cy (AP hE) (AK (AP hE) (AU (off:=0) hE rfl (Ao (Ao (Al (n:=l.length) hy.A7 (Ao (Fp (pk ?_)))))))));have eb:decide ((l.length:Int)>32)=AQ 32 l.length:=by grind
 rw[eb]
 have nil:∀(x:Bool) (bs:List (List AV)),x=(exc||AQ 32 l.length)->x=true->bs=s.bs.set e [BB true,BB x]->mA R 0 0 0 (.ptr e 0) y ⟨bs,s.ts⟩ (QM (L.rr 99) s.bs.length λv s'=>v=(bif exc||AQ 32 l.length then .AB [] else y)/\s'=⟨s.bs.set e [BB true,BB (exc||AQ 32 l.length)],s.ts⟩):=by
  rintro x bs h1 rfl rfl;have gE:(s.bs.set e [BB true,BB true])[e]?=some [BB true,BB true]:=by rw[CS le]
  refine AFR (Cy (AP gE) (AK (AP gE) (AU (off:=1) gE rfl (A4 ?_))));have hok:=BM.set hs (c:=[BB true,BB true]) rfl s.ts (j:=e);have etk:(s.bs.set e [BB true,BB true]).take s.bs.length=s.bs.set e [BB true,BB true]:=CA (by simp);refine⟨.AB [],⟨s.bs.set e [BB true,BB true],s.ts⟩,?_,by grind,by rw[<-h1]⟩;unfold HP
  have hall:(((s.bs.set e [BB true,BB true]).take s.bs.length).all (Ab s.bs.length))=true:=by
   rw[etk,Cz];intro b hb;have:=hok b hb
   grind
  grind[HV,Tel.close]
 cases NT:AQ 32 l.length with
 | true=>
  refine A4 (Cy (AP hE) (AK (AP hE) (DD hE (by simp) rfl (AI _) rfl (.inl (AI _)) ?_)))
  grind
 | false=>
  rw[NT] at nil;refine Am ?_;cases exc with
  | true=>exact nil true _ rfl rfl (by grind[List.set_getElem_self])
  | false=>
   have same:s.bs.set e [BB true,BB false]=s.bs:=by grind[List.set_getElem_self]
   refine AFR (Cy (AP hE) (AK (AP hE) (AU (off:=1) hE rfl (Am (ARa ?_)))));have etk:s.bs.take s.bs.length=s.bs:=Nw
   have hall:((s.bs.take s.bs.length).all (Ab s.bs.length))=true:=by
    rw[etk,Cz];exact hs
   refine⟨y,⟨s.bs,s.ts⟩,?_,rfl,by grind⟩;unfold HP;rw[etk] at hall;simp only[etk,hall,AN];rcases hy with ⟨rfl,_⟩|⟨id,rows,h1,rfl,h2,h3,h4⟩
   all_goals grind[HV,Nat.le_of_ble_eq_true,Tel.close]
end
theorem Yq {L:A8} {s:AM} {id:Nat} {a:AV} {old cs:List AV} {K:AM->Prop} (hb:s.bs[id]?=some (a::old)) (ho:old.length=4) (hk:cs.length=4) (hro:L.ro<=id) (hok:cs.all A9=true) (hn:L.n0<=id) (h:K ⟨s.bs.set id (a::cs),s.ts⟩):CJ L s 4 (.ptr id (0+1)) (.agg cs) K:=by
 have hce:cellsOf (.agg cs)=cs:=rfl;simp only[CJ,hb,wO,hce];refine⟨⟨hk,by grind,hro,hok,.inl hn,by omega⟩,?_⟩
 match old,ho,cs,hk with
 | [o1,o2,o3,o4],_,[c1,c2,c3,c4],_=>exact h
def oX (exc:Bool) (o:Option (List Br)):Option (List Br):=bif exc then none else o
def ADb (R:RT) (e:Nat) (t:Ty) (o:Option (List Br)):Prop:=∀x,BJ t x->∀(exc:Bool) (s:AM),BM s->∀L:A8,L.ro=0->L.rt=0->L.rr 49=true->s.bs[e]?=some [BB true,BB exc] ->
 ∃v s',ME e (oX exc o).isNone ((oX exc o).getD []) s s' v/\BD (env R) L 49 [.ptr e 0,x] s v s'
section
variable {R:RT}
theorem Uw {e:Nat} {o:Option (List Br)} {b:Br} {Ea:Ty} {Wb W w T C:Nat} (hb:MA Wb b) (hC:(Ai b.body).length<=C) (hl:∀l,o=some l->(∀c∈l,MA W c/\c.bounds.length<=w)/\l.length<=32) (hT:(T:Int)<hole) (hbT:b.bounds.length+(Ai b.body).length*w<=T) (hS:Wb+C*W<2 ^ 37) (hWb:Wb<=2 ^ 27) (AMG:ADb R e Ea o) {x y:AV} (hx:CP b x) (hy:BJ Ea y) {exc:Bool} {s:AM} (hs:BM s) {L:A8} (hro:L.ro=0) (EU:L.rt=0) (qc:L.rr 100=true) (hE:s.bs[e]?=some [BB true,BB exc]) :
  ∃v s',(∃r x',gj (FL (AQ 32) o Ea b) exc x' r/\r.length<=33*(2 ^ 27+1)/\ME e x' r s s' v)/\BD (env R) L 100 [.ptr e 0,x,y] s v s':=by
 have hh:(hole:Int)=1073741824:=rfl;have hsiz:=hb.WL;have hcs:=Gu b.body;have aY:((b.bounds.length:Nat):Int)<hole:=by omega
 obtain⟨b1,b2,b3⟩:=AQe hb aY;obtain⟨r1,r2⟩:=AQf b1 aY;have le:=(BL.1 hE).1;have same:s.bs.set e [BB true,BB exc]=s.bs:=by grind[List.set_getElem_self]
 obtain⟨row,rfl⟩:=hx.agg;obtain⟨c1,c2,c3⟩:=hx.cells;obtain⟨yr,rfl⟩:=hy.agg;obtain⟨y1,y2,y3⟩:=hy.cells;obtain⟨xa,xb,hxe,TZ,hxb⟩:=id hx;cases hxe;obtain⟨d1,d2,d3⟩:=hxb.cells;refine AXr (by rfl) ?_;rw[hro,EU,qc];refine AMH (Bw (cs:=xa::xb) rfl c2 (Bw (cs:=yr) rfl y2 ?_));simp only[Di,Dh,Cb,Bo,CO,B8,CQ,Nat.reduceAdd];have g0:(s.bs++[xa::xb,yr])[s.bs.length]?=some (xa::xb):=EX (j:=0) rfl rfl;have g1:(s.bs++[xa::xb,yr])[s.bs.length+1]?=some yr:=EX rfl rfl;have ZH:(s.bs++[xa::xb,yr]).take s.bs.length=s.bs.set e [BB true,BB exc]:=by grind
 have hl0:(s.bs++[xa::xb,yr]).length=s.bs.length+2:=by simp
 have hok:BM ⟨s.bs++[xa::xb,yr],s.ts⟩:=by
  intro d hd;simp only[CG,A1,Ed,Ee] at hd
  show Ab (s.bs++_).length d=true
  rcases hd with hd|rfl|rfl
  .exact Bn (by simp) d (hs d hd)
  all_goals grind
 generalize s.bs++[xa::xb,yr]=bs at g0 g1 ZH hl0 hok;refine AK (AP g0) (AU (off:=0) g0 rfl (Al (n:=b.bounds.length) (by rw[TZ.A7,AR]) (AK (AP g0) (Ng g0 d1 (AD (gh (R:=R) b.bounds.length (t:=b.body) (by omega) (Nh (Mg (by omega)) _ hb.ok) hxb) ?_)))));intro vb Nu;obtain⟨rb,rfl⟩:=Nu.G1.agg;obtain⟨e1,e2,e3⟩:=Nu.G1.cells;refine Bt (CL (Ay bs Z4) e1 rfl (by decide) (AI _) e2 (.inl (AI _)) ?_);have es:(bs++[Z4]).set bs.length rb=bs++[rb]:=by simp
 show D6 _ ⟨(bs++[Z4]).set bs.length rb,s.ts⟩ _ _ _
 rw[es];have g2:=Ay bs rb;have qj:=Av g0 rb;have g1':=Av g1 rb;have ARb:BM ⟨bs++[rb],s.ts⟩:=BM.app (s:=⟨bs,s.ts⟩) hok (e3 _);have Ro:(bs++[rb]).take s.bs.length=s.bs.set e [BB true,BB exc]:=(Dy (by omega) rb).trans ZH;have dR:(bs++[rb]).length=s.bs.length+3:=by grind
 rw[hl0] at g2 ⊢;generalize bs++[rb]=oV at g2 qj g1' ARb Ro dR;have gE:oV[e]?=some [BB true,BB exc]:=B5 Ro (by rw[CS le]);refine Ad g2 e1 (AD (w7 (R:=R) b.bounds.length (t:=JO b.bounds.length b.body) (by omega) Nu.G1) ?_);rintro _ rfl
 have q0:FL (AQ 32) o Ea b=bif oI (·==(b.bounds.length:Int)) (JO b.bounds.length b.body) then some [⟨b.bounds++[Ea],JO b.bounds.length b.body⟩]
   else match GI (KV b.bounds.length hole (JO b.bounds.length b.body)) with
    | none=>some [⟨b.bounds,KV b.bounds.length hole (JO b.bounds.length b.body)⟩]
    | some _=>match o with
     | none=>none
     | some l=>Eb (AQ 32) l (Ai b.body).length ⟨b.bounds,KV b.bounds.length hole (JO b.bounds.length b.body)⟩:=by rfl
 have one:∀(c:Br) (rc:List AV) (bs2:List (List AV)) (Jw:List (Nat×Nat)),CP c (.agg rc)->FL (AQ 32) o Ea b=some [c]->bs2.take s.bs.length=s.bs.set e [BB true,BB exc]->s.bs.length<=bs2.length->Ca (.AB []) (.AB []) s.ts Jw ->
   QM true s.bs.length (λv s'=>∃r x',gj (FL (AQ 32) o Ea b) exc x' r/\r.length<=33*(2 ^ 27+1)/\ME e x' r s s' v) (.ref bs2.length 0 1 5) ⟨bs2++[rc],Jw⟩:=by
  intro c rc bs2 Jw h1 h2 h3 h4 h5;refine M7 (x:=exc) (l:=[c]) hs ((Dy h4 rc).trans h3) (.inr ⟨_,[rc],h4,rfl,by simp,⟨h1,Ae⟩,by simp⟩) h5 λv' s' h=>⟨[c],exc,⟨λh=>h,λh=>?_⟩,by simp,h⟩
  grind
 cases ho:oI (·==(b.bounds.length:Int)) (JO b.bounds.length b.body) with
 | true=>
  rw[ho] at q0;simp only[AN] at q0;refine A4 (ADZ (AK (AP qj) (AU (off:=0) qj rfl ⟨by decide,Ew (es:=[]) (l:=b.bounds) (.inl rfl) rfl (by grind) TZ λa10 My w1 w2=>?_⟩)));rw[Cb] at w1;refine Ad g1' y1 (FO hy ⟨by decide,Iz w1 rfl (by omega) λa13 Jw v1 v2=>?_⟩);have EA:CP ⟨b.bounds++[Ea],JO b.bounds.length b.body⟩ (.agg (a13::rb)):=⟨a13,rb,rfl,v1.Ax,Nu.G1⟩;refine Ad g2 e1 (IC (w6 v1.Ax.ok v1.Ax.cells Nu.G1) (MC EA ⟨Ad g1' y1 (MD hy),Ad g2 e1 (MD Nu.G1),Ad g2 e1 (MD Nu.G1),?_⟩));exact one _ _ oV Jw EA q0 Ro (by omega) ((Ca.refl (.AB []) s.ts).side w2 (DL.AB _ _) |>.side v2 w2.TY)
 | false=>
  rw[ho] at q0;simp only[AG] at q0;refine Am (AMI (Ad g2 e1 (AD (LF (R:=R) b.bounds.length hole (t:=JO b.bounds.length b.body) (by omega) (Nh (Mg (by omega)) _ b1) Nu.G1) ?_)));intro vr hvr;obtain⟨rr,rfl⟩:=hvr.G1.agg;obtain⟨f1,f2,f3⟩:=hvr.G1.cells;refine AK (AP qj) (Yq qj d1 f1 (AI _) f2 (AI _) ?_);have EA:CP ⟨b.bounds,KV b.bounds.length hole (JO b.bounds.length b.body)⟩ (.agg (xa::rr)):=⟨xa,rr,rfl,TZ,hvr.G1⟩;obtain⟨k1,k2,k3⟩:=EA.cells;have gb:(oV.set s.bs.length (xa::rr))[s.bs.length]?=some (xa::rr):=Bf qj;have gy:(oV.set s.bs.length (xa::rr))[s.bs.length+1]?=some yr:=BR g1' (by omega);have IZ:(oV.set s.bs.length (xa::rr)).take s.bs.length=s.bs.set e [BB true,BB exc]:=(C6 (Aa _)).trans Ro;have YZ:BM ⟨oV.set s.bs.length (xa::rr),s.ts⟩:=BM.set (s:=⟨oV,s.ts⟩) ARb (k3 _) _;have PE:(oV.set s.bs.length (xa::rr)).length=s.bs.length+3:=by grind
  generalize oV.set s.bs.length (xa::rr)=bs2 at gb gy IZ YZ PE;have gE2:bs2[e]?=some [BB true,BB exc]:=B5 IZ (by rw[CS le]);refine Ad gb k1 (AD (JZ (by grind) EA) ?_);rintro _ rfl;rw[WW];simp only;cases hk:GI (KV b.bounds.length hole (JO b.bounds.length b.body)) with
  | none=>
   grind[Ah,A4,Ad,MC,Ca.refl]
  | some k=>
   rw[hk] at q0;simp only at q0 ⊢;refine Ah ?_;rw[Aw (by omega)];refine Am (AMJ (Ad gb k1 (Ad gy y1 ?_)));obtain⟨v1,s1,hR1,NC⟩:=AMG (.agg yr) hy exc ⟨bs2,s.ts⟩ YZ (Cv (env R) 100 0 0 0) rfl rfl (by rfl) gE2;refine⟨_,_,NC,?_⟩;obtain⟨bs3,Me⟩:=s1;have jT:bs2.length<=bs3.length:=hR1.len;have gb3:bs3[s.bs.length]?=some (xa::rr):=B5 hR1.tk (by grind);have Q9:bs3[e]?=some [BB true,BB (oX exc o).isNone]:=B5 hR1.tk (by rw[CS (by grind)]);have Be:(Ai (KV b.bounds.length hole (JO b.bounds.length b.body))).length=(Ai b.body).length:=by simp[*,NQ,EN,Sy]
   have S0:(Ai (KV b.bounds.length hole (JO b.bounds.length b.body))).count hole<=(Ai b.body).length:=by grind
   have hl':∀c∈(oX exc o).getD [],MA W c/\c.bounds.length<=w:=by
    intro c hc;cases exc with
    | true=>cases hc
    | false=>
     cases ho':o with
     | none=>rw[ho'] at hc; cases hc
     | some l=>rw[ho'] at hc; exact(hl l ho').1 c hc
   have Rk:((oX exc o).getD []).length<2 ^ 30:=by grind[oX]
   obtain⟨v2,s2,⟨r,x',hEO,hrl,hR2⟩,Qy⟩:=o5 (R:=R) (T:=T) (S:=Wb+C*W) hl' hT hS Rk (Ai b.body).length (by omega) ⟨b.bounds,KV b.bounds.length hole (JO b.bounds.length b.body)⟩ r1 S0 (by
    have m1:(Ai (KV b.bounds.length hole (JO b.bounds.length b.body))).count hole*W<=C*W:=B9 _ (by omega)
    grind) (by
    have m1:(Ai (KV b.bounds.length hole (JO b.bounds.length b.body))).count hole*w<=(Ai b.body).length*w:=B9 _ S0
    grind) (.agg (xa::rr)) EA (oX exc o).isNone ⟨bs3,Me⟩ hR1.ok (Cv (env R) 100 0 0 0) rfl rfl (by rfl) Q9 hR1.So
   refine⟨_,_,Qy,Ad gb3 k1 ?_,?_⟩
   .simp[Tel.Bg,Hx]
    exact⟨BF.Bg TZ,by have:=MD hvr.G1; assumption⟩
   .obtain⟨bs4,ts4⟩:=s2
    have hT4:bs4.take s.bs.length=s.bs.set e [BB true,BB x']:=by
     have h1:=LG (n:=s.bs.length) (by omega) IZ hR1.tk;rw[Hr] at h1;have h2:=LG (n:=s.bs.length) (by grind) h1 hR2.tk;rwa [Hr] at h2
    refine M7 (x:=x') (l:=r) hs hT4 (hR2.So.mono (by grind) λj c _ h=>h) (hR1.Ow.trans hR2.Ow) λv' s' h=>⟨r,x',⟨λhe=>?_,λhe=>?_⟩,by omega,h⟩
    .subst he
     exact hEO.1 rfl
    .subst he
     rw[q0];cases ho':o with
     | none=>
      subst ho';exact hEO.1 rfl
     | some l=>
      subst ho';exact hEO.2 rfl
end
def HR (ls:List (List Br)):List (List PV):=ls.map λl=>[.list (l.map DY)]
theorem Ki (ls:List (List Br)):(HR ls).length=ls.length:=by simp[HR]
theorem Kj (b:Br):(DY b).length=5:=by simp[DY,Ac]
theorem o6 {a b:List AV} {p q:List PV} (ha:Cm a=some p) (hb:Cm b=some q):Cm (a++b)=some (p++q):=by
 induction a generalizing p with
 | nil=>
  grind[Cm]
 | cons x a ih=>
  grind[Cm]
theorem CP.Cm {b:Br} {row:List AV} (h:CP b (.agg row)):Cm row=some (DY b):=by
 obtain⟨a,y,he,ha,ht⟩:=h;cases he;rcases hb:b.body with ⟨k,n,i,ts⟩
 rw[hb] at ht;obtain⟨a2,hy,Q1⟩:=ht;cases hy
 have h1:Tel.Cm [a,AA k,SS n,AA i,a2]=some [.list (AW b.bounds),.sc (.int .i64 k),.sc (.string ⟨n.toArray⟩),.sc (.int .i64 i),.list (AW ts)]:=by
  simp only[Tel.Cm,ha.Jg,Q1.Jg];rfl
 grind[DY,Af]
theorem T6 {l:List Br} {rows:List (List AV)} (h:CT (λb row=>CP b (.agg row)) l rows):Cm rows.flatten=some ((l.map DY).flatten):=by
 induction l generalizing rows with
 | nil=>
  cases rows with
  | nil=>rfl
  | cons _ _=>exact h.elim
 | cons b l ih=>
  cases rows with
  | nil=>exact h.elim
  | cons row rows=>
   rw[MK,CH,MK];exact o6 h.1.Cm (ih h.2)
theorem ARc {a:AV} (ha:A9 a=true) (hc:cellsOf a=[a]):FJ Z4 [(0,1,AA 3),(3,1,a)]=some [AA 3,SS [],AA 0,a]:=by simp_all[cellsOf,A9,FJ,setCells]
theorem AFS {E:Env} {s:AM} {c:Br} {K:AV->Prop} (h:K (.agg ((Af c.body).map .pv))):D6 E s (some 4) (.Cq (DY c) (0+1)) K:=by
 simp only[D6,DV,xL,xM,xF,xG];refine⟨by simp[DY,Ac],?_⟩
 have e:(((DY c).map AV.pv).drop (0+1)).take 4=(Af c.body).map .pv:=by
  simp only[DY,CH,CQ,List.drop_succ_cons,Ih];exact CA (by simp[Ac])
 rw[e];exact h
theorem AFT {E:Env} {s:AM} {c:Br} {K:AV->Prop} (h:K (.pv (.list (AW c.bounds)))):D6 E s none (.Cq (DY c) (0+0)) K:=h
theorem mB {s:AM} {r:List PV} {off d:Nat} {K:AV->Prop} (h:K (.Cq r (off+d))):A0 s (.Cq r off) d K:=h
theorem O4 (r:Br) (n:Nat):Tel.Bg (.Cq (DY r) n) (.Cq (DY r) n)=true:=by simp[*,Le,DY,Mm,DJ,OW,Tel.Bg]
theorem MF:∀l:List Br,IV (l.map DY) (l.map DY)=true
 | []=>rfl
 | b::l=>by
  have:Le (DY b) (DY b)=true:=by grind[DY,Le,Mm,DJ,OW]
  simp[IV,this,MF l]
theorem WX (l:List Br):Tel.Bg (.pv (.list (l.map DY))) (.pv (.list (l.map DY)))=true:=by
 simp[Tel.Bg,Mm,MF]
theorem WY (l:List Br):Tel.Bg (.Cq [.list (l.map DY)] 0) (.Cq [.list (l.map DY)] 0)=true:=by
 simp[Tel.Bg,Le,Mm,MF]
section
variable {R:RT}
theorem ADd {T:Nat} {e:Nat} {ls:List (List Br)} {i k j:Nat} {l outs next:List Br} {b c:Br} {args:List Ty} {W S:Nat} {t5 t9 t11:AV} (h5:BF t5 (HR ls)) (hi:ls[i]?=some l) (hj:l[j]?=some c) (hk:outs[k]?=some b) (hb:MA S b) (hbe:b.body=.mk 3 [] 0 args) (hc:MA W c) (oO:b.bounds.length+c.bounds.length<=T) (hT:(T:Int)<hole) (hS:S<2 ^ 36) (hW:W<2 ^ 36) (ND:next.length<2 ^ 20)
  {N:Nat} {bs:List (List AV)} {tk:List (Nat×Nat)} (hN:N<=bs.length) (hs:BM ⟨bs,tk⟩) (h9:EY 0 bs outs t9) (h11:EY N bs next t11) {QR:QT}
  (hQ:∀a' bs' HN,EY N bs' (next++[⟨b.bounds++c.bounds,.mk 3 [] 0 (args++[H8 b.bounds.length c.body])⟩]) a'->BM ⟨bs',HN⟩->bs'.take N=bs.take N->N<=bs'.length->Ca (.AB []) (.AB []) tk HN->hO R 0 0 0 (.ptr e 0) t5 t9 (AA i) a' (AA k) (AA j) ⟨bs',HN⟩ QR) :
  hU R 0 0 0 (.ptr e 0) t5 t9 (AA i) t11 (AA k) (AA j) ⟨bs,tk⟩ QR:=by
 have hh:(hole:Int)=1073741824:=rfl;have aY:=hb.WL;rw[hbe] at aY;simp only[size] at aY;have hargs:=BP args;have rE:(HR ls)[i]?=some [.list (l.map DY)]:=by grind[HR]
 have rB:(l.map DY)[j]?=some (DY c):=by grind
 have eix:∀n:Nat,(AA ((n:Nat):Int))=AA n:=λ_=>rfl
 have hY:∀(s:AM) (K:AV->Prop),K (.Cq [.list (l.map DY)] 0)->Bh s 1 t5 (AA i) K:=λs K h=>BQ h5 (row:=[.list (l.map DY)]) (by omega) (by grind) rfl (by omega) h
 have ADe:∀(s:AM) (K:AV->Prop),K (.Cq (DY c) 0)->Bh s 5 (.pv (.list (l.map DY))) (AA j) K:=λs K h=>BI (.list _) (row:=DY c) (by omega) (by grind) (Kj c) (by omega) h
 refine AMK (QE h9 hk λrb hrb=>?_);obtain⟨c1,c2,c3⟩:=hrb.cells;obtain⟨xa,xb,hxe,TZ,hxb⟩:=id hrb;cases hxe;rw[hbe] at hxb;obtain⟨xg,hxg,AXu⟩:=hxb;cases hxg;refine Bt (O2 (Ay bs Z5) c1 (AI _) c2 (AI _) ?_);have es:(bs++[Z5]).set bs.length (xa::[AA 3,SS [],AA 0,xg])=bs++[xa::[AA 3,SS [],AA 0,xg]]:=by simp
 simp only;rw[es];have hlA:(bs++[xa::[AA 3,SS [],AA 0,xg]]).length=bs.length+1:=by simp
 have hs1:BM ⟨bs++[xa::[AA 3,SS [],AA 0,xg]]++[Z4],tk⟩:=BM.app (s:=⟨bs++[xa::[AA 3,SS [],AA 0,xg]],tk⟩) (BM.app (s:=⟨bs,tk⟩) hs (c3 _)) rfl;have gA:(bs++[xa::[AA 3,SS [],AA 0,xg]]++[Z4])[bs.length]?=some (xa::[AA 3,SS [],AA 0,xg]):=Av (Ay bs _) _;have gX:(bs++[xa::[AA 3,SS [],AA 0,xg]]++[Z4])[bs.length+1]?=some Z4:=by simp
 have PE:(bs++[xa::[AA 3,SS [],AA 0,xg]]++[Z4]).length=bs.length+2:=by simp
 have IZ:(bs++[xa::[AA 3,SS [],AA 0,xg]]++[Z4]).take N=bs.take N:=by
  rw[Dy (by omega),Dy hN]
 have ARd:EY N (bs++[xa::[AA 3,SS [],AA 0,xg]]++[Z4]) next t11:=h11.mono (Aa _) λj c _ h=>Av (Av h _) _
 rw[hlA];generalize bs++[xa::[AA 3,SS [],AA 0,xg]]++[Z4]=b2 at hs1 gA gX PE IZ ARd;have fA:∀(ts:List (Nat×Nat)) d,A0 ⟨b2,ts⟩ (.ptr bs.length 0) d λv=>Tel.Bg v (.ptr bs.length (0+d))=true:=λts d=>AK (AP gA) (EO _ _)
 refine ADZ (AK (AP gA) (AK (AP gA) (AU (off:=4) gA rfl ⟨by decide,Ew (es:=[]) (l:=args) (.inl rfl) rfl (by grind) AXu λa73 My w1 w2=>?_⟩)));rw[Cb] at w1;have hlen:∀(s:AM) (K:AV->Prop),K (AA b.bounds.length)->BO s xa K:=λs K h=>Al (n:=b.bounds.length) (by rw[TZ.A7,AR]) h
 refine hY _ _ (Ej (ADe _ _ (mB (AFS (AK (AP gA) (AU (off:=0) gA rfl (hlen _ _ (AD (Nf (R:=R) (n:=b.bounds.length) (by omega) c.body (by have:=hc.WL; omega) (Nh (Mg (by omega)) _ hc.ok) _ (A5.BZ c.body)) ?_))))))));intro sv hsv;refine FO hsv.G1 ⟨by decide,Iz w1 rfl (by omega) λa87 Jw v1 v2=>?_⟩;have hx4:BJ (.mk 3 [] 0 (args++[H8 b.bounds.length c.body])) (.agg [AA 3,SS [],AA 0,a87]):=⟨a87,rfl,v1.Ax⟩;obtain⟨k1,k2,k3⟩:=hx4.cells;refine IC (cs:=[AA 3,SS [],AA 0,a87]) (ARc v1.Ax.ok v1.Ax.cells) (CL (s:=⟨b2,Jw⟩) gX k1 rfl (by decide) (AI _) k2 (.inl (AI _)) ?_);have eqn:∀n:Int,Tel.Bg (AA n) (AA n)=true:=λn=>by simp[Tel.Bg,Mm,FX]
 have eqz:∀ts:List (Nat×Nat),(wO (IK (.ptr (bs.length+1) 0)) λid=>wO (AM.mk b2 ts).bs[id]? λcs'=>Hx cs' [(AA 0),(SS []),(AA 0),(.AB [])]=true):=by
  intro ts
  show(wO (AM.mk b2 ts).bs[bs.length+1]? λcs'=>Hx cs' [(AA 0),(SS []),(AA 0),(.AB [])]=true)
  simp only[gX,wO];rfl
 refine⟨hY _ _ (WY l),Ej (WX l),ADe _ _ (O4 c 0),mB (O4 c _),AFS (L6 _),fA _ 0,AU (off:=0) gA rfl (BF.Bg TZ),hlen _ _ (eqn _),eqz tk,eqz My,eqz My,eqz Jw,?_⟩;have gA3:(b2.set (bs.length+1) [AA 3,SS [],AA 0,a87])[bs.length]?=some (xa::[AA 3,SS [],AA 0,xg]):=BR gA (by omega);have gX3:(b2.set (bs.length+1) [AA 3,SS [],AA 0,a87])[bs.length+1]?=some [AA 3,SS [],AA 0,a87]:=Bf gX;have hs3:BM ⟨b2.set (bs.length+1) [AA 3,SS [],AA 0,a87],Jw⟩:=BM.set (s:=⟨b2,Jw⟩) hs1 (k3 _) _;have TX:(b2.set (bs.length+1) [AA 3,SS [],AA 0,a87]).take N=bs.take N:=by grind[C6]
 have ARe:EY N (b2.set (bs.length+1) [AA 3,SS [],AA 0,a87]) next t11:=by
  rcases ARd with h|⟨id,rows,q1,q2,q3,q4,q5⟩
  .exact .inl h
  .refine .inr ⟨id,rows,q1,q2,?_,q4,q5⟩
   grind[Hj,List.getElem?_set_ne]
 have jT:(b2.set (bs.length+1) [AA 3,SS [],AA 0,a87]).length=bs.length+2:=by grind
 generalize b2.set (bs.length+1) [AA 3,SS [],AA 0,a87]=b3 at gA3 gX3 hs3 TX ARe jT;refine ADZ (AK (AP gA3) (AU (off:=0) gA3 rfl ⟨by decide,Ew (es:=[]) (l:=b.bounds) (.inl rfl) rfl (by grind) TZ λa93 Me x1 x2=>?_⟩));rw[Cb] at x1;refine hY _ _ (Ej (ADe _ _ (mB (AFT ⟨by decide,Ew x1 rfl (by omega) (.inl (.list _)) λo7 ts4 y1 y2=>?_⟩))));have EA:CP ⟨b.bounds++c.bounds,.mk 3 [] 0 (args++[H8 b.bounds.length c.body])⟩ (.agg (o7::[AA 3,SS [],AA 0,a87])):=⟨o7,_,rfl,y1.Ax,hx4⟩;obtain⟨z1,z2,z3⟩:=EA.cells;refine Ad gX3 k1 (IC (w6 y1.Ax.ok y1.Ax.cells hx4) (MC EA ⟨by decide,?_⟩));have hs4:BM ⟨b3++[o7::[AA 3,SS [],AA 0,a87]],ts4⟩:=BM.app (s:=⟨b3,ts4⟩) hs3 (z3 _);have ARf:EY N (b3++[o7::[AA 3,SS [],AA 0,a87]]) next t11:=ARe.mono (Aa _) λj c _ h=>Av h _
 refine wR (s:=⟨b3++[o7::[AA 3,SS [],AA 0,a87]],ts4⟩) EA (Ay b3 _) ARf rfl (by omega) ?_ (by grind);intro a' bs' n1 n2 n3 n4 _;refine⟨hY _ _ (WY l),Ej (WX l),ADe _ _ (O4 c 0),mB (O4 c _),AFT (by simp[Tel.Bg,Mm,DJ]),Ad gX3 k1 (MD hx4),Ad gX3 k1 (MD hx4),?_⟩;refine hQ a' bs' ts4 n1 (n4 hs4) ?_ (by omega) ?_
 .rw[<-TX]
  refine G3 λj=>?_
  by_cases hj:j<N
  .rw[RS hj,RS hj]
   have hj3:j<b3.length:=by omega
   have h1:(b3++[o7::[AA 3,SS [],AA 0,a87]])[j]?=some b3[j]:=by rw[Ci hj3,Ak hj3]
   rw[n2 j _ (λm h=>by
    rcases ARf with ⟨h2,_⟩|⟨id,rows,h2,h3,_⟩
    all_goals grind) h1,Ak hj3]
  grind
 .exact((((Ca.refl (.AB []) tk).side w2 (DL.AB _ _)).side v2 w2.TY).trans ((Ca.refl (.AB []) Jw).side x2 (DL.AB _ _) |>.side y2 x2.TY))
end
def prB (b c:Br):Br:=⟨b.bounds++c.bounds,match b.body with
 | .mk _ _ _ args=>.mk 3 [] 0 (args++[H8 b.bounds.length c.body])⟩
theorem T7 (out l:List Br):HE out l=out.flatMap λb=>l.map (prB b):=rfl
theorem xA {b c:Br} {args:List Ty} (h:b.body=.mk 3 [] 0 args):prB b c=⟨b.bounds++c.bounds,.mk 3 [] 0 (args++[H8 b.bounds.length c.body])⟩:=by
 rw[prB,h]
theorem EY.Yr {lo N:Nat} {bs X:List (List AV)} {l:List Br} {a:AV} (h:EY lo X l a) (hT:bs.take N=X):EY lo bs l a:=
 h.mono (Aa _) λ_ _ _ hj=>B5 hT hj
section
variable {R:RT}
structure TpG (S N:Nat) (b:Br):Prop where
 g:MA S b
 n:b.bounds.length<=N
 t:∃args,b.body=.mk 3 [] 0 args
theorem xB {T e:Nat} {ls:List (List Br)} {i k:Nat} {l outs:List Br} {b:Br} {W S N w:Nat} {t5 t9:AV} (h5:BF t5 (HR ls)) (hi:ls[i]?=some l) (hk:outs[k]?=some b) (hb:TpG S N b) (hl:∀c∈l,MA W c/\c.bounds.length<=w) (oO:N+w<=T) (hT:(T:Int)<hole) (hS:S<2 ^ 36) (hW:W<2 ^ 36) (Rk:l.length<2 ^ 30) {X:List (List AV)} (h9:EY 0 X outs t9) {Nv:List (Nat×Nat)} {QR:QT} {M:Nat} (hM:M<2 ^ 20)
  {iA:List Br}
  (hQ:∀bs tk a,BM ⟨bs,tk⟩->bs.take X.length=X->X.length<=bs.length->EY X.length bs (iA++l.map (prB b)) a->Ca (.AB []) (.AB []) Nv tk->iB R 0 0 0 (.ptr e 0) t5 t9 (AA i) a (AA k) ⟨bs,tk⟩ QR) (h0:iA.length+l.length<=M) :
  ∀(n j:Nat) (bs:List (List AV)) (tk:List (Nat×Nat)) (t11:AV),j+n=l.length->BM ⟨bs,tk⟩->bs.take X.length=X->X.length<=bs.length->EY X.length bs (iA++(l.take j).map (prB b)) t11->Ca (.AB []) (.AB []) Nv tk ->
   Ys R 0 0 0 (.ptr e 0) t5 t9 (AA i) t11 (AA k) (AA j) ⟨bs,tk⟩ QR:=by
 have rE:(HR ls)[i]?=some [.list (l.map DY)]:=by grind[HR]
 have hY:∀(s:AM) (K:AV->Prop),K (.Cq [.list (l.map DY)] 0)->Bh s 1 t5 (AA i) K:=λs K h=>BQ h5 (row:=[.list (l.map DY)]) (by omega) (by grind) rfl (by omega) h
 have hlen:∀(s:AM) (K:AV->Prop),K (AA l.length)->BO s (.pv (.list (l.map DY))) K:=λs K h=>Al (n:=l.length) (by simp[A7,rowsOf]) h
 intro n
 induction n with
 | zero=>
  intro j bs tk t11 hj hs Mh hN h11 hch;refine xD (hY _ _ (Ej (hlen _ _ (Ah ?_))));rw[Aw (by omega)];rw[CA (by omega)] at h11;exact Am (hQ bs tk t11 hs Mh hN h11 hch)
 | succ n ih=>
  intro j bs tk t11 hj hs Mh hN h11 hch;refine xD (hY _ _ (Ej (hlen _ _ (Ah ?_))));rw[Ap (by omega)];obtain⟨c,hc⟩:∃c,l[j]?=some c:=⟨_,Ak (by omega)⟩;obtain⟨hcG,hcw⟩:=hl c (A2 hc);obtain⟨args,hargs⟩:=hb.t;have hbn:=hb.n;refine A4 (ADd (T:=T) h5 hi hc hk hb.g hargs hcG (by omega) hT hS hW (next:=iA++(l.take j).map (prB b)) (by grind) hN hs (h9.Yr Mh) h11 ?_);intro a' bs' HN q1 q2 q3 q4 q5;refine AML (BW (by omega) (by omega) ?_);have e1:iA++(l.take j).map (prB b)++[⟨b.bounds++c.bounds,.mk 3 [] 0 (args++[H8 b.bounds.length c.body])⟩]=iA++(l.take (j+1)).map (prB b):=by grind[List.take_add_one,xA]
  rw[e1] at q1;have:=ih (j+1) bs' HN a' (by omega) q2 (q3.trans Mh) q4 q1 (hch.trans q5)
  grind
theorem AMM {T e:Nat} {ls:List (List Br)} {i:Nat} {l outs:List Br} {W S N w:Nat} {t5 t9:AV} (h5:BF t5 (HR ls)) (hi:ls[i]?=some l) (ho:∀b∈outs,TpG S N b) (ZC:outs.length<=32) (hl:∀c∈l,MA W c/\c.bounds.length<=w) (oO:N+w<=T) (hT:(T:Int)<hole) (hS:S<2 ^ 36) (hW:W<2 ^ 36) (Rk:l.length<=32) {X:List (List AV)} (h9:EY 0 X outs t9) {Nv:List (Nat×Nat)} {QR:QT}
  (hQ:∀bs tk a,BM ⟨bs,tk⟩->bs.take X.length=X->X.length<=bs.length->EY X.length bs (HE outs l) a->Ca (.AB []) (.AB []) Nv tk->iC R 0 0 0 (.ptr e 0) t5 (AA i) a ⟨bs,tk⟩ QR) :
  ∀(n k:Nat) (bs:List (List AV)) (tk:List (Nat×Nat)) (t11:AV),k+n=outs.length->BM ⟨bs,tk⟩->bs.take X.length=X->X.length<=bs.length->EY X.length bs (HE (outs.take k) l) t11->Ca (.AB []) (.AB []) Nv tk ->
   mC R 0 0 0 (.ptr e 0) t5 t9 (AA i) t11 (AA k) ⟨bs,tk⟩ QR:=by
 have AXy:∀o:List Br,(HE o l).length=o.length*l.length:=by
  intro o;rw[T7]
  induction o with
  | nil=>simp
  | cons b o ih=>grind
 intro n
 induction n with
 | zero=>
  intro k bs tk t11 hk hs Mh hN h11 hch;refine xE (Al (n:=outs.length) (h9.Yr Mh).A7 (Ah ?_))
  grind[Am]
 | succ n ih=>
  intro k bs tk t11 hk hs Mh hN h11 hch;refine xE (Al (n:=outs.length) (h9.Yr Mh).A7 (Ah ?_));rw[Ap (by omega)];obtain⟨b,hb⟩:∃c,outs[k]?=some c:=⟨_,Ak (by omega)⟩;refine A4 (AMN ?_);have KT:=AXy (outs.take k);rw[List.length_take] at KT;have hmul:min k outs.length*l.length<=32*32:=N5 (by omega) Rk;refine xB (T:=T) (M:=2 ^ 12) h5 hi hb (ho b (A2 hb)) hl oO hT hS hW (by omega) h9 (Nv:=Nv) (by decide) (iA:=HE (outs.take k) l) ?_ (by omega) l.length 0 bs tk t11 (by omega) hs Mh hN (by grind) hch;intro bs' HN a q1 q2 q3 q4 q5;refine AMO (BW (by omega) (by omega) ?_);have e1:HE (outs.take k) l++l.map (prB b)=HE (outs.take (k+1)) l:=by grind[T7,List.take_add_one]
  grind
theorem ADg {e:Nat} {ls:List (List Br)} {t5:AV} (h5:BF t5 (HR ls)) (Rk:ls.length<2 ^ 40) {n0:Nat} {Y:List (List AV)} {Nv:List (Nat×Nat)} (he:e<n0) {QR:QT}
  (hQ:∀bs tk,BM ⟨bs,tk⟩->bs.take n0=Y->n0<=bs.length->Ca (.AB []) (.AB []) Nv tk->QR (.AB []) ⟨bs,tk⟩) :
  ∀(n i:Nat) (bs:List (List AV)) (tk:List (Nat×Nat)),i+n=ls.length->BM ⟨bs,tk⟩->bs.take n0=Y->n0<=bs.length->bs[e]?=some [BB true,BB true]->Ca (.AB []) (.AB []) Nv tk->cS R 0 0 0 (.ptr e 0) t5 (.AB []) (AA i) ⟨bs,tk⟩ QR:=by
 intro n
 induction n with
 | zero=>
  intro i bs tk hi hs Mh hN hE hch;refine mD (Al (n:=ls.length) (by rw[h5.A7,Ki]) (Ah ?_));rw[Aw (by omega)];exact Am (AFU (hQ bs tk hs Mh hN hch))
 | succ n ih=>
  intro i bs tk hi hs Mh hN hE hch;refine mD (Al (n:=ls.length) (by rw[h5.A7,Ki]) (Ah ?_));rw[Ap (by omega)];refine A4 (AFV (xE (Al (n:=0) rfl (Ah ?_))));rw[Aw (by omega)];refine Am (xH ?_);obtain⟨v,s',⟨rfl,rfl⟩,hc⟩:=JN (R:=R) (e:=e) (l:=[]) (y:=.AB []) (exc:=true) (s:=⟨bs,tk⟩) hs hE (.inl ⟨rfl,rfl⟩) (L:=Cv (env R) 98 0 0 0) rfl rfl;refine⟨_,_,hc,xJ (BW (by omega) (by omega) ?_)⟩;have e1:bs.set e [BB true,BB (true||AQ 32 ([]:List Br).length)]=bs:=by grind[List.set_getElem_self]
  simp only[e1];have:=ih (i+1) bs tk (by omega) hs Mh hN hE hch
  grind
theorem cT {T e:Nat} (hT:(T:Int)<hole) {ls:List (List Br)} {t5:AV} (h5:BF t5 (HR ls)) (Rk:ls.length<2 ^ 40) {s0:AM} (he:e<s0.bs.length) {S:Nat} (hS:S<2 ^ 36) {o:Option (List Br)} {QR:QT}
  (hQ:∀bs tk a x' r,(x'=o.isNone/\r=o.getD [])->BM ⟨bs,tk⟩->bs.take s0.bs.length=s0.bs.set e [BB true,BB x']->s0.bs.length<=bs.length->EY s0.bs.length bs r a->Ca (.AB []) (.AB []) s0.ts tk->QR a ⟨bs,tk⟩) :
  ∀(rest:List (List Br)) (ws vs:List Nat) (i:Nat) (outs:List Br) (Sb N:Nat) (bs:List (List AV)) (tk:List (Nat×Nat)) (t9:AV),ls.drop i=rest->i<=ls.length->CT (λl w=>∀c∈l,MA w c) rest ws->CT (λl w=>∀c∈l,c.bounds.length<=w) rest vs->(∀l∈rest,l.length<=32)->JP (AQ 32) rest outs=o->(∀b∈outs,TpG Sb N b)->outs.length<=32->Sb+ws.sum<=S->N+vs.sum<=T->BM ⟨bs,tk⟩->bs.take s0.bs.length=s0.bs.set e [BB true,BB false]->s0.bs.length<=bs.length->EY s0.bs.length bs outs t9->Ca (.AB []) (.AB []) s0.ts tk ->
   cS R 0 0 0 (.ptr e 0) t5 t9 (AA i) ⟨bs,tk⟩ QR
 | [],ws,vs,i,outs,Sb,N,bs,tk,t9,hd,AXz,_,_,_,ho,hG,ZC,hSb,hN,hs,Mh,hlen,h9,hch=>by
  have hi:ls.length<=i:=by simp_all
  refine mD (Al (n:=ls.length) (by rw[h5.A7,Ki]) (Ah ?_));rw[Aw (by omega)];rw[JP] at ho;subst ho;exact Am (AFU (hQ bs tk t9 false outs ⟨rfl,rfl⟩ hs Mh hlen h9 hch))
 | _::_,[],_,_,_,_,_,_,_,_,_,_,h,_,_,_,_,_,_,_,_,_,_,_,_=>h.elim
 | _::_,_::_,[],_,_,_,_,_,_,_,_,_,_,h,_,_,_,_,_,_,_,_,_,_,_=>h.elim
 | l::rest,w::ws,v::vs,i,outs,Sb,N,bs,tk,t9,hd,AXz,⟨hw,hws⟩,⟨hv,hvs⟩,oZ,ho,hG,ZC,hSb,hN,hs,Mh,hlen,h9,hch=>by
  have hi:i<ls.length:=by grind
  have hli:ls[i]?=some l:=by
   have:=Ba (λl=>l[0]?) hd
   grind
  have hdr:ls.drop (i+1)=rest:=by
   rw[drop_cons hli] at hd
   grind
  rw[MO] at hSb hN;have gE:bs[e]?=some [BB true,BB false]:=B5 Mh (by rw[CS he]);refine mD (Al (n:=ls.length) (by rw[h5.A7,Ki]) (Ah ?_));rw[Ap (by omega)];rw[JP] at ho;refine A4 (AFV ?_);refine AMM (T:=T) (X:=bs) (Nv:=tk) h5 hli hG ZC (λc hc=>⟨hw c hc,hv c hc⟩) (by omega) hT (by omega) (by omega) (oZ l (by simp)) (h9.mono (AI _) λ_ _ _ h=>h) ?_ outs.length 0 bs tk (.AB []) (by omega) hs Nw (Aa _) (.inl ⟨rfl,rfl⟩) (Ca.refl _ _);intro b2 Mq a q1 q2 q3 q4 q5;have gE2:b2[e]?=some [BB true,BB false]:=B5 q2 gE;have IZ:b2.take s0.bs.length=s0.bs.set e [BB true,BB false]:=by grind
  obtain⟨v',s',⟨rfl,rfl⟩,hc⟩:=JN (R:=R) (e:=e) (l:=HE outs l) (y:=a) (exc:=false) (s:=⟨b2,Mq⟩) q1 gE2 (q4.mono (AI _) λ_ _ _ h=>h) (L:=Cv (env R) 98 0 0 0) rfl rfl;refine xH ⟨_,_,hc,xJ (BW (by omega) (by omega) ?_)⟩;have ei:((i:Int)+1)=((i+1:Nat):Int):=by omega
  rw[ei];simp only[Gb];have LW:=hch.trans q5;cases hb:AQ 32 (HE outs l).length with
  | true=>
   rw[hb] at ho;simp only[AN] at ho ⊢;subst ho;refine ADg h5 Rk (n0:=s0.bs.length) (Y:=s0.bs.set e [BB true,BB true]) (Nv:=s0.ts) he ?_ (ls.length-(i+1)) (i+1) _ Mq (by omega) (BM.set (s:=⟨b2,Mq⟩) q1 rfl _) (by simp[*,EE]) (by grind) (Bf gE2) LW;intro bs' HN n1 n2 n3 n4;exact hQ bs' HN (.AB []) true [] ⟨rfl,rfl⟩ n1 n2 n3 (.inl ⟨rfl,rfl⟩) n4
  | false=>
   rw[hb] at ho;simp only[AG] at ho ⊢;have same:b2.set e [BB true,BB false]=b2:=by grind[List.set_getElem_self]
   rw[same];refine cT hT h5 Rk he hS hQ rest ws vs (i+1) (HE outs l) (Sb+w) (N+v) b2 Mq a hdr (by omega) hws hvs (λl' h'=>oZ l' (by grind)) ho ?_ (by grind) (by omega) (by omega) q1 IZ (by omega) (q4.mono hlen λ_ _ _ h=>h) LW;intro b hbm;rw[T7] at hbm;obtain⟨b0,h0,h1⟩:=N3.1 hbm;obtain⟨c,h2,rfl⟩:=C0.1 h1;obtain⟨g1,g2,args,g3⟩:=hG b0 h0;have hcw:=hv c h2;have:=wB g1 g3 (hw c h2) (by omega);rw[xA g3];exact⟨this,by grind,_,rfl⟩
end
attribute [local simp] CI Bs LP LQ AO CU FJ wO setCells CJ D6 DV Cv A0 alive CY F9 I4 nx A6 DC BO Gs Dt DT si qd okB sj sk sq sr su jh sw sx sy s7 s8 s9 tA tB tC tD tE okF tF tG tH tI tJ Xs tK SR SU SV SW tL tM tN tP tQ tR tS tT tU tV Fw tW qe tX tY tZ td th tj tq uA uB uC Cm g0 g1 xI xL xM xF xG xC lf Y4 Y5
def AMP (R:RT) (e:Nat) (t:Ty) (o:Option (List Br)):Prop:=∀x,BJ t x->∀(exc:Bool) (s:AM),BM s->∀L:A8,L.ro=0->L.rt=0->L.rr 49=false->s.bs[e]?=some [BB true,BB exc] ->
 ∃v s',(∃ts',Aq v (((oX exc o).getD []).map DY)/\Ca (.AB []) (.AB []) s.ts ts'/\s'=⟨s.bs.set e [BB true,BB (oX exc o).isNone],ts'⟩)/\BD (env R) L 49 [.ptr e 0,x] s v s'
theorem ARg {l:List Br} {a:AV} (ha:Aq a (l.map DY)) {s:AM} {K:AV->AM->Prop} (hK:K (.AB [[.list (l.map DY)]]) s):CV false s 1 [(.AB [])] 1 [(0,1,a)] K:=by
 have Ir:BF a (l.map DY):=.inl ha;simp[CV,FY,CB,Ir.ok,AE8 Ir,Ir.cells];omega
theorem AMQ {L:A8} {s:AM} {a:AV} {os:List (List Br)} {p:List Br} {K:AV->AM->Prop} (ha:Dg 0 s.ts 32 a (HR os)) (EU:L.rt=0) (hl:os.length<2 ^ 38) (h:∀a' ts',Dg 0 ts' 32 a' (HR (os++[p]))->Ca a a' s.ts ts'->K a' ⟨s.bs,ts'⟩) :
  Ct false L s 32 1 24 a (.AB [[.list (p.map DY)]]) K:=by
 have h1:=Ki os;have hr:∀r∈HR os,r.length=1:=by grind[HR]
 have hm:∀r∈[[PV.list (p.map DY)]],r.length=1:=by simp
 refine Pz (m:=[[.list (p.map DY)]]) ha EU hr hm (by omega) (Db (.inl (.AB _)) hm) (by simp) (by grind) (by grind) λa' ts' h3 h4=>h a' ts' ?_ h4
 grind[HR]
theorem QF {α:Type}:∀{l:List (Option α)},none∈l->FM l=none
 | none::_,_=>rfl
 | some a::l,h=>by
  have:none∈l:=by grind
  rw[FM,QF this]
section
variable {R:RT}
theorem xK {e f:Nat} {k i0:Int} {nm:List UInt8} {ts:List Ty} {a:AV} (ha:BF a (AW ts)) (hl:ts.length<2 ^ 37) (ih:∀t∈ts,AMP R e t (DM (AQ 32) f t)) {s0:AM} (he:e<s0.bs.length) {QR:QT}
  (hN:FM (ts.map (DM (AQ 32) f))=none->∀bs tk,BM ⟨bs,tk⟩->bs.take s0.bs.length=s0.bs.set e [BB true,BB true]->s0.bs.length<=bs.length->Ca (.AB []) (.AB []) s0.ts tk->QR (.AB []) ⟨bs,tk⟩)
  (hS:∀ls,FM (ts.map (DM (AQ 32) f))=some ls->∀bs tk t5,BM ⟨bs,tk⟩->bs.take s0.bs.length=s0.bs.set e [BB true,BB false]->s0.bs.length<=bs.length->Ca (.AB []) (.AB []) s0.ts tk->BF t5 (HR ls)->xN R 0 0 0 (.ptr e 0) t5 (BB (ls.any List.isEmpty)) ⟨bs,tk⟩ QR) :
  ∀(n p:Nat) (exc:Bool) (out:List (List Br)) (bs:List (List AV)) (tk:List (Nat×Nat)) (t5:AV),p+n=ts.length->out.length=p->(exc=false->(ts.take p).map (DM (AQ 32) f)=out.map some)->(exc=true->none∈ts.map (DM (AQ 32) f)/\out.any List.isEmpty=true)->BM ⟨bs,tk⟩->bs.take s0.bs.length=s0.bs.set e [BB true,BB exc]->s0.bs.length+1<=bs.length->bs[s0.bs.length]?=some [AA k,SS nm,AA i0,a]->Dg 0 tk 32 t5 (HR out)->Ca (.AB []) (.AB []) s0.ts tk->DL t5 s0.ts ->
   mE R 0 0 0 (.ptr e 0) (.ptr s0.bs.length 0) t5 (BB (out.any List.isEmpty)) (AA p) ⟨bs,tk⟩ QR:=by
 intro n
 induction n with
 | zero=>
  intro p exc out bs tk t5 hp hop h0 h1 hs hT hlen g0 h5 hch hfr;refine AFW (AK (AP g0) (AU (off:=3) g0 rfl (Al (n:=ts.length) (by rw[ha.A7,AR]) (Ah ?_))));rw[Aw (by omega)];refine Am ?_;cases exc with
  | true=>
   obtain⟨h2,h3⟩:=h1 rfl;rw[h3];exact AFX (A4 (hN (QF h2) bs tk hs hT (by omega) hch))
  | false=>
   have h2:=h0 rfl;rw[CA (by omega)] at h2;refine hS out ?_ bs tk t5 hs hT (by omega) hch h5.Ax;rw[h2]
   have gen:∀l:List (List Br),FM (l.map some)=some l:=by
    intro l
    induction l with
    | nil=>rfl
    | cons a l ih=>grind[FM]
   grind
 | succ n ihn=>
  intro p exc out bs tk t5 hp hop h0 h1 hs hT hlen g0 h5 hch hfr;refine AFW (AK (AP g0) (AU (off:=3) g0 rfl (Al (n:=ts.length) (by rw[ha.A7,AR]) (Ah ?_))));rw[Ap (by omega)];obtain⟨t,ht⟩:∃c,ts[p]?=some c:=⟨_,Ak (by omega)⟩;have V2:=A2 ht;have gE:bs[e]?=some [BB true,BB exc]:=B5 hT (by rw[CS he]);refine A4 (ARh (AK (AP g0) (AU (off:=3) g0 rfl (BQ ha (row:=Af t) (by omega) (by grind[BE]) (Ac _) (by omega) (Cg ?_)))));obtain⟨v,s',⟨ts',r1,r2,rfl⟩,r3⟩:=ih t V2 _ (A5.BZ t).G1 exc ⟨bs,tk⟩ hs (Cv (env R) 98 0 0 0) rfl rfl (by rfl) gE;refine⟨_,_,r3,?_⟩;have hs1:BM ⟨bs.set e [BB true,BB (oX exc (DM (AQ 32) f t)).isNone],ts'⟩:=BM.set (s:=⟨bs,tk⟩) hs rfl _;have Ro:(bs.set e [BB true,BB (oX exc (DM (AQ 32) f t)).isNone]).take s0.bs.length=s0.bs.set e [BB true,BB (oX exc (DM (AQ 32) f t)).isNone]:=by simp[*,EE]
  have g01:(bs.set e [BB true,BB (oX exc (DM (AQ 32) f t)).isNone])[s0.bs.length]?=some [AA k,SS nm,AA i0,a]:=BR g0 (by omega);have dR:(bs.set e [BB true,BB (oX exc (DM (AQ 32) f t)).isNone]).length=bs.length:=by simp
  generalize bs.set e [BB true,BB (oX exc (DM (AQ 32) f t)).isNone]=b1 at hs1 Ro g01 dR;have h51:=r2.keep h5 (λ_ h=>by cases h)
  have fin:CV false ⟨b1,ts'⟩ 1 [(.AB [])] 1 [(0,1,v)] λa38 oN=>(1=1/\1≠0)/\Ct false (Cv (env R) 98 0 0 0) oN 32 1 24 t5 a38 λa39 oL=>
    xQ R 0 0 0 (.ptr e 0) (.ptr s0.bs.length 0) a39 (BB (out.any List.isEmpty||((oX exc (DM (AQ 32) f t)).getD []).isEmpty)) (AA p) oL QR:=by
   refine ARg r1 ⟨by decide,AMQ h51 rfl (by omega) λt5' Mq x1 x2=>ARi (BW (by omega) (by omega) ?_)⟩;have em:(ts.take (p+1)).map (DM (AQ 32) f)=(ts.take p).map (DM (AQ 32) f)++[DM (AQ 32) f t]:=by grind[List.take_add_one]
   have ea:(out++[(oX exc (DM (AQ 32) f t)).getD []]).any List.isEmpty=(out.any List.isEmpty||((oX exc (DM (AQ 32) f t)).getD []).isEmpty):=by simp
   have:=ihn (p+1) (oX exc (DM (AQ 32) f t)).isNone (out++[(oX exc (DM (AQ 32) f t)).getD []]) b1 Mq t5' (by omega) (by grind) (λh=>by
    cases exc with
    | true=>cases h
    | false=>
     cases hb:DM (AQ 32) f t with
     | none=>rw[hb] at h; cases h
     | some m=>
      grind[oX]) (λh=>by
    rw[ea];cases exc with
    | true=>
     grind
    | false=>
     cases hb:DM (AQ 32) f t with
     | some m=>rw[hb] at h; cases h
     | none=>grind[oX]) hs1 Ro (by omega) g01 x1 ((hch.trans r2).side x2 hfr) (hfr.Ow x2 (Bq hch.1 r2.1))
   grind
  have hvl:∀(s:AM) (K:AV->Prop),K (AA ((oX exc (DM (AQ 32) f t)).getD []).length)->BO s v K:=λs K h=>Al (n:=((oX exc (DM (AQ 32) f t)).getD []).length) (by rw[r1.A7,Bx]) h
  cases wN:out.any List.isEmpty with
  | true=>
   grind[DF,pk]
  | false=>
   rw[wN] at fin;refine Ao (Ao (hvl _ _ (Ao (Au (pk ?_)))))
   have e0:((((oX exc (DM (AQ 32) f t)).getD []).length:Int)==0)=((oX exc (DM (AQ 32) f t)).getD []).isEmpty:=by
    cases (oX exc (DM (AQ 32) f t)).getD [] <;> simp;omega
   grind
def tpR (f:Nat) (ts:List Ty):Option (List Br):=match FM (ts.map (DM (AQ 32) f)) with
 | none=>none
 | some ls=>bif ls.any List.isEmpty then some [] else JP (AQ 32) ls [⟨[],.mk 3 [] 0 []⟩]
theorem iD {e f T S:Nat} (hT:(T:Int)<hole) (hS:S<2 ^ 36) {nm:List UInt8} {i0:Int} {ts:List Ty} (hl:ts.length<2 ^ 37) (ih:∀t∈ts,AMP R e t (DM (AQ 32) f t)) (hG:∀t∈ts,∀l,DM (AQ 32) f t=some l->l.length<=32/\∀c∈l,MA (wt t) c/\c.bounds.length<=bw t) (hSs:1+(ts.map wt).sum<=S) (oO:(ts.map bw).sum<=T)
  {x:AV} (hx:BJ (.mk 3 nm i0 ts) x) {s:AM} (hs:BM s) {L:A8} (hro:L.ro=0) (EU:L.rt=0) (qc:L.rr 98=true) (hE:s.bs[e]?=some [BB true,BB false]) :
  ∃v s',ME e (tpR f ts).isNone ((tpR f ts).getD []) s s' v/\BD (env R) L 98 [.ptr e 0,x] s v s':=by
 have le:=(BL.1 hE).1;have same:s.bs.set e [BB true,BB false]=s.bs:=by grind[List.set_getElem_self]
 have hxc:=hx;obtain⟨a,rfl,ha⟩:=hx;obtain⟨_,c2,c3⟩:=hxc.cells;refine m98 (by rfl) ?_;rw[hro,EU,qc];have g0:=Ay s.bs [AA 3,SS nm,AA i0,a];have hs1:BM ⟨s.bs++[[AA 3,SS nm,AA i0,a]],s.ts⟩:=BM.app (s:=s) hs (c3 _);have ZH:(s.bs++[[AA 3,SS nm,AA i0,a]]).take s.bs.length=s.bs.set e [BB true,BB false]:=by grind
 refine ARj (Bw (cs:=[AA 3,SS nm,AA i0,a]) rfl c2 ?_);have:=xK (R:=R) (k:=3) (i0:=i0) (nm:=nm) ha hl ih le (QR:=QM true s.bs.length λv s'=>ME e (tpR f ts).isNone ((tpR f ts).getD []) s s' v) ?_ ?_ ts.length 0 false [] (s.bs++[[AA 3,SS nm,AA i0,a]]) s.ts (.AB []) (by omega) rfl (λ_=>rfl) (λh=>by cases h) hs1 ZH (by simp) g0 (.inl rfl) (Ca.refl _ _) (DL.AB _ _)
 .grind
 .intro hn bs tk h1 h2 h3 h4
  have et:tpR f ts=none:=by rw[tpR,hn]
  rw[et];exact M7 (x:=true) (l:=[]) hs h2 (.inl ⟨rfl,rfl⟩) h4 λv' s' h=>h
 .intro ls hls bs tk t5 h1 h2 h3 h4 h5
  have et:tpR f ts=bif ls.any List.isEmpty then some [] else JP (AQ 32) ls [⟨[],.mk 3 [] 0 []⟩]:=by rw[tpR,hls]
  rw[et];refine AFX ?_;cases wN:ls.any List.isEmpty with
  | true=>exact A4 (M7 (x:=false) (l:=[]) hs h2 (.inl ⟨rfl,rfl⟩) h4 λv' s' h=>h)
  | false=>
   simp only[AG];have hal:=KY hls;have EA:CP ⟨[],.mk 3 [] 0 []⟩ (.agg [.AB [],AA 3,SS [],AA 0,.AB []]):=⟨.AB [],_,rfl,.inl (.AB _),⟨.AB [],rfl,.inl (.AB _)⟩⟩;refine Am (ARk (IC (cs:=[AA 3,SS [],AA 0,.AB []]) rfl (IC (cs:=[.AB [],AA 3,SS [],AA 0,.AB []]) rfl (MC EA ?_))));have hlsl:ls.length=ts.length:=by have:=hal.length; omega
   have:=cT (R:=R) (T:=T) hT (t5:=t5) h5 (by omega) (s0:=s) le (S:=S) hS (o:=JP (AQ 32) ls [⟨[],.mk 3 [] 0 []⟩]) (QR:=QM true s.bs.length λv s'=>ME e (JP (AQ 32) ls [⟨[],.mk 3 [] 0 []⟩]).isNone ((JP (AQ 32) ls [⟨[],.mk 3 [] 0 []⟩]).getD []) s s' v) ?_ ls (ts.map wt) (ts.map bw) 0 [⟨[],.mk 3 [] 0 []⟩] 1 0 (bs++[[.AB [],AA 3,SS [],AA 0,.AB []]]) tk (.ref bs.length 0 1 5) rfl (by omega)
    (hal.JS λt l hm hg c hc=>((hG t hm l hg).2 c hc).1) (hal.JS λt l hm hg c hc=>((hG t hm l hg).2 c hc).2) (λl hm=>by
     obtain⟨t,ht,hg⟩:=hal.Mb l hm
     grind) rfl (λb hb=>by
     rw[E7.1 hb];exact⟨⟨rfl,by simp[size,AZ],rfl⟩,by simp,_,rfl⟩) (by simp) hSs (by omega) (BM.app (s:=⟨bs,tk⟩) h1 rfl) ((Dy h3 _).trans h2) (by grind) (.inr ⟨bs.length,[[.AB [],AA 3,SS [],AA 0,.AB []]],h3,rfl,by simp,⟨EA,Ae⟩,by simp⟩) h4
   all_goals grind[M7]
end
theorem AFY {ds:List AV} {t:Ty} (h:BJ t (.agg ds)):FJ Z5 [(1,4,.agg ds)]=some (.AB []::ds):=by
 obtain⟨c1,c2,_⟩:=h.cells
 match ds,c1,c2 with
 | [d1,d2,d3,d4],_,c2=>
  simp[*,cellsOf,FJ,setCells]
theorem xS {α:Type} {l:List (Option α)} {a:α} {r:List α} (h:FM l=some r):FM (l++[some a])=some (r++[a]):=by
 induction l generalizing r with
 | nil=>
  grind[FM]
 | cons x l ih=>
  cases x with
  | none=>grind[FM]
  | some y=>
   grind[FM]
section
variable {R:RT}
theorem xT {e:Nat} {l:List Br} {y:AV} {exc:Bool} {s0:AM} (he:e<s0.bs.length) {bs:List (List AV)} {tk:List (Nat×Nat)} (hs:BM ⟨bs,tk⟩) (hT:bs.take s0.bs.length=s0.bs.set e [BB true,BB exc]) (hlen:s0.bs.length<=bs.length) (hy:EY s0.bs.length bs l y) (hch:Ca (.AB []) (.AB []) s0.ts tk) {o:Option (List Br)} (ho:o=bif exc||AQ 32 l.length then none else some l) {QR:QT}
  (hQ:∀bs tk a x' r,(x'=o.isNone/\r=o.getD [])->BM ⟨bs,tk⟩->bs.take s0.bs.length=s0.bs.set e [BB true,BB x']->s0.bs.length<=bs.length->EY s0.bs.length bs r a->Ca (.AB []) (.AB []) s0.ts tk->QR a ⟨bs,tk⟩) :
  E3 (env R) (Cv (env R) 49 0 0 0) (.func (.func 99) [] []) [.ptr e 0,y] ⟨bs,tk⟩ λa94 cP=>QR a94 cP:=by
 have gE:bs[e]?=some [BB true,BB exc]:=B5 hT (by rw[CS he]);obtain⟨v,s',⟨rfl,rfl⟩,hc⟩:=JN (R:=R) (e:=e) (l:=l) (y:=y) (exc:=exc) (s:=⟨bs,tk⟩) hs gE (hy.mono (AI _) λ_ _ _ h=>h) (L:=Cv (env R) 49 0 0 0) rfl rfl;refine⟨_,_,hc,?_⟩;have IZ:(bs.set e [BB true,BB (exc||AQ 32 l.length)]).take s0.bs.length=s0.bs.set e [BB true,BB (exc||AQ 32 l.length)]:=by simp[*,EE]
 have hs2:BM ⟨bs.set e [BB true,BB (exc||AQ 32 l.length)],tk⟩:=BM.set (s:=⟨bs,tk⟩) hs rfl _;cases hb:exc||AQ 32 l.length with
 | true=>
  rw[hb] at ho IZ hs2;subst ho;exact hQ _ tk _ true [] ⟨rfl,rfl⟩ hs2 IZ (by grind) (.inl ⟨rfl,rfl⟩) hch
 | false=>
  rw[hb] at ho IZ hs2;subst ho;exact hQ _ tk _ false l ⟨rfl,rfl⟩ hs2 IZ (by grind) (hy.keep gE rfl (d:=[BB true,BB false]) (by grind[List.take_of_length_le])) hch
theorem ARl {e f:Nat} {i0:Int} {nm:List UInt8} {ts:List Ty} {a:AV} (ha:BF a (AW ts)) (hl:ts.length<2 ^ 30) (ih:∀t∈ts,ADb R e t (DM (AQ 32) f t)) (hG:∀t∈ts,∀l,DM (AQ 32) f t=some l->l.length<=32) {s0:AM} (he:e<s0.bs.length) {o:Option (List Br)} (ho:o=match FM (ts.map (DM (AQ 32) f)) with
   | none=>none
   | some ls=>bif AQ 32 ls.flatten.length then none else some ls.flatten) {QR:QT}
  (hQ:∀bs tk a x' r,(x'=o.isNone/\r=o.getD [])->BM ⟨bs,tk⟩->bs.take s0.bs.length=s0.bs.set e [BB true,BB x']->s0.bs.length<=bs.length->EY s0.bs.length bs r a->Ca (.AB []) (.AB []) s0.ts tk->QR a ⟨bs,tk⟩) :
  ∀(n p:Nat) (exc:Bool) (out:List Br) (bs:List (List AV)) (tk:List (Nat×Nat)) (t5:AV),p+n=ts.length->(exc=false->∃lss,FM ((ts.take p).map (DM (AQ 32) f))=some lss/\lss.flatten=out)->(exc=true->none∈ts.map (DM (AQ 32) f))->out.length<=32*p->BM ⟨bs,tk⟩->bs.take s0.bs.length=s0.bs.set e [BB true,BB exc]->s0.bs.length+1<=bs.length->bs[s0.bs.length]?=some [AA 4,SS nm,AA i0,a]->EY (s0.bs.length+1) bs out t5->Ca (.AB []) (.AB []) s0.ts tk ->
   mF R 0 0 0 (.ptr e 0) (.ptr s0.bs.length 0) t5 (AA p) ⟨bs,tk⟩ QR:=by
 intro n
 induction n with
 | zero=>
  intro p exc out bs tk t5 hp h0 h1 ZC hs hT hlen g0 h5 hch;refine AFZ (AK (AP g0) (AU (off:=3) g0 rfl (Al (n:=ts.length) (by rw[ha.A7,AR]) (Ah ?_))));rw[Aw (by omega)];refine Am (ARm (xT he hs hT (by omega) (h5.mono (by omega) λ_ _ _ h=>h) hch (o:=o) ?_ hQ))
  grind[QF]
 | succ n ihn=>
  intro p exc out bs tk t5 hp h0 h1 ZC hs hT hlen g0 h5 hch;refine AFZ (AK (AP g0) (AU (off:=3) g0 rfl (Al (n:=ts.length) (by rw[ha.A7,AR]) (Ah ?_))));rw[Ap (by omega)];obtain⟨t,ht⟩:∃c,ts[p]?=some c:=⟨_,Ak (by omega)⟩;have V2:=A2 ht;have gE:bs[e]?=some [BB true,BB exc]:=B5 hT (by rw[CS he]);refine A4 (ARn (AK (AP g0) (AU (off:=3) g0 rfl (BQ ha (row:=Af t) (by omega) (by grind[BE]) (Ac _) (by omega) (Cg ?_)))));obtain⟨v,s',hR,r3⟩:=ih t V2 _ (A5.BZ t).G1 exc ⟨bs,tk⟩ hs (Cv (env R) 49 0 0 0) rfl rfl (by rfl) gE;obtain⟨b2,Mq⟩:=s';have l7:bs.length<=b2.length:=hR.len
  have IZ:b2.take s0.bs.length=s0.bs.set e [BB true,BB (oX exc (DM (AQ 32) f t)).isNone]:=by
   have:=LG (n:=s0.bs.length) (by omega) hT hR.tk;rwa [Hr] at this
  have qi:b2[s0.bs.length]?=some [AA 4,SS nm,AA i0,a]:=B5 hR.tk (by grind);have h52:EY (s0.bs.length+1) b2 out t5:=h5.keep gE rfl hR.tk;have Ns:EY (s0.bs.length+1) b2 ((oX exc (DM (AQ 32) f t)).getD []) v:=hR.So.mono hlen λj c _ h=>h
  have hrl:((oX exc (DM (AQ 32) f t)).getD []).length<=32:=by
   cases exc with
   | true=>simp[oX]
   | false=>
    cases hb:DM (AQ 32) f t with
    | none=>simp[oX]
    | some l=>grind[oX]
  refine⟨_,_,r3,by decide,Yo h52 Ns rfl (by omega) (by grind) ?_⟩;intro a' b3 q1 q2 q3 q4;have hs3:=q4 hR.ok
  have l8:∀j c,j<s0.bs.length+1->b2[j]?=some c->b3[j]?=some c:=by
   intro j c hj hjc;refine q2 j c (λn ha=>?_) hjc;rcases h52 with ⟨h1,_⟩|⟨id,rows,h1,h2,_⟩
   all_goals grind
  have TX:b3.take s0.bs.length=s0.bs.set e [BB true,BB (oX exc (DM (AQ 32) f t)).isNone]:=by
   rw[<-IZ];refine G3 λj=>?_
   grind
  refine AMR (BW (by omega) (by omega) ?_);have em:(ts.take (p+1)).map (DM (AQ 32) f)=(ts.take p).map (DM (AQ 32) f)++[DM (AQ 32) f t]:=by grind[List.take_add_one]
  have:=ihn (p+1) (oX exc (DM (AQ 32) f t)).isNone (out++(oX exc (DM (AQ 32) f t)).getD []) b3 Mq a' (by omega) (λh=>by
   cases exc with
   | true=>cases h
   | false=>
    cases hb:DM (AQ 32) f t with
    | none=>rw[hb] at h; cases h
    | some m=>
     obtain⟨lss,h2,h3⟩:=h0 rfl;refine⟨lss++[m],by grind[xS],?_⟩
     grind[oX]) (λh=>by
   cases exc with
   | true=>grind
   | false=>
    cases hb:DM (AQ 32) f t with
    | some m=>rw[hb] at h; cases h
    | none=>grind) (by grind) hs3 TX (by grind) (l8 _ _ (by omega) qi) q1 (hch.trans hR.Ow)
  grind
theorem ARo {e:Nat} {i0:Int} {nm:List UInt8} {Ea body:Ty} {a:AV} (ha:BF a (AW [Ea,body])) {ob:Option (List Br)} {l:List Br} {t8:AV} {lo:Nat} {Wb W w T C:Nat} (hlG:∀b∈l,MA Wb b/\(Ai b.body).length<=C/\b.bounds.length+(Ai b.body).length*w<=T) (hob:∀l,ob=some l->(∀c∈l,MA W c/\c.bounds.length<=w)/\l.length<=32) (hT:(T:Int)<hole) (hS:Wb+C*W<2 ^ 37) (hWb:Wb<=2 ^ 27) (AMG:ADb R e Ea ob) (Rk:l.length<=32)
  {s0:AM} (he:e<s0.bs.length) {o:Option (List Br)} {x0:Bool} (ho:o=bif x0 then none else IP (AQ 32) (FL (AQ 32) ob Ea) l []) {QR:QT} {X:List (List AV)} (hX1:X.take s0.bs.length=s0.bs.set e [BB true,BB x0]) (hXl:s0.bs.length+1<=X.length) (hX8:EY lo X l t8) (hXg:X[s0.bs.length]?=some [AA 6,SS nm,AA i0,a])
  (hQ:∀bs tk a x' r,(x'=o.isNone/\r=o.getD [])->BM ⟨bs,tk⟩->bs.take s0.bs.length=s0.bs.set e [BB true,BB x']->s0.bs.length<=bs.length->EY s0.bs.length bs r a->Ca (.AB []) (.AB []) s0.ts tk->QR a ⟨bs,tk⟩) :
  ∀(n p:Nat) (exc:Bool) (out:List Br) (bs:List (List AV)) (tk:List (Nat×Nat)) (t7:AV),p+n=l.length->(exc=false->x0=false/\IP (AQ 32) (FL (AQ 32) ob Ea) (l.drop p) out=o/\out.length<=32)->(exc=true->o=none)->out.length<=32+p*(33*(2 ^ 27+1))->BM ⟨bs,tk⟩->bs.take X.length=X.set e [BB true,BB exc]->X.length<=bs.length->EY X.length bs out t7->Ca (.AB []) (.AB []) s0.ts tk ->
   mG R 0 0 0 (.ptr e 0) (.ptr s0.bs.length 0) t7 t8 (AA p) ⟨bs,tk⟩ QR:=by
 have heX:e<X.length:=by omega
 have hXe:X[e]?=some [BB true,BB x0]:=B5 hX1 (by rw[CS he])
 have down:∀(bs:List (List AV)) (x:Bool),bs.take X.length=X.set e [BB true,BB x]->bs.take s0.bs.length=s0.bs.set e [BB true,BB x]:=by
  intro bs x h;have:=Ba (List.take s0.bs.length) h
  grind[List.take_set,List.set_set]
 have xU:∀(bs:List (List AV)) (x:Bool),bs.take X.length=X.set e [BB true,BB x]->EY lo bs l t8:=λbs x h=>hX8.keep hXe rfl h
 have ARp:∀(bs:List (List AV)) (x:Bool),bs.take X.length=X.set e [BB true,BB x]->bs[s0.bs.length]?=some [AA 6,SS nm,AA i0,a]:=λbs x h=>B5 h (by grind)
 intro n
 induction n with
 | zero=>
  intro p exc out bs tk t7 hp h0 h1 ZC hs Mh hlen h7 hch;refine AFa (Al (n:=l.length) (xU bs exc Mh).A7 (Ah ?_));rw[Aw (by omega)];refine Am (ARq (xT he hs (down bs exc Mh) (by omega) (h7.mono (by omega) λ_ _ _ h=>h) hch (o:=o) ?_ hQ))
  grind[IP]
 | succ n ihn=>
  intro p exc out bs tk t7 hp h0 h1 ZC hs Mh hlen h7 hch;refine AFa (Al (n:=l.length) (xU bs exc Mh).A7 (Ah ?_));rw[Ap (by omega)];obtain⟨b,hb⟩:∃c,l[p]?=some c:=⟨_,Ak (by omega)⟩;obtain⟨hbG,hbC,hbT⟩:=hlG b (A2 hb);have gE:bs[e]?=some [BB true,BB exc]:=B5 Mh (by rw[CS heX]);have g0:=ARp bs exc Mh;refine A4 (ARr (QE (xU bs exc Mh) hb λrb hrb=>AK (AP g0) (AU (off:=3) g0 rfl (BQ ha (row:=Af Ea) (by omega) rfl (Ac _) (by omega) (Cg ?_)))));obtain⟨v,s',⟨r,x',hE,hrl,hR⟩,r3⟩:=Uw (R:=R) hbG hbC hob hT hbT hS hWb AMG hrb (A5.BZ Ea).G1 (exc:=exc) (s:=⟨bs,tk⟩) hs (L:=Cv (env R) 49 0 0 0) rfl rfl (by rfl) gE;obtain⟨b2,Mq⟩:=s';have l7:bs.length<=b2.length:=hR.len
  have IZ:b2.take X.length=X.set e [BB true,BB x']:=by
   have:=LG (n:=X.length) (by omega) Mh hR.tk;rwa [Hr] at this
  have h72:EY X.length b2 out t7:=h7.keep gE rfl hR.tk;have Ns:EY X.length b2 r v:=hR.So.mono hlen λj c _ h=>h
  have KT:p*(33*(2 ^ 27+1))<=32*(33*(2 ^ 27+1)):=B9 _ (by omega);refine⟨_,_,r3,by decide,Yo h72 Ns rfl (by omega) (by grind) ?_⟩;intro a' b3 q1 q2 q3 q4;have hs3:=q4 hR.ok
  have l8:∀j c,j<X.length->b2[j]?=some c->b3[j]?=some c:=by
   intro j c hj hjc;refine q2 j c (λn ha=>?_) hjc;rcases h72 with ⟨h1,_⟩|⟨id,rows,h1,h2,_⟩
   all_goals grind
  have TX:b3.take X.length=X.set e [BB true,BB x']:=by
   rw[<-IZ];refine G3 λj=>?_
   grind
  have Q9:b3[e]?=some [BB true,BB x']:=B5 TX (by rw[CS heX]);have l9:X.length<=b3.length:=by grind
  have NZ:Ca (.AB []) (.AB []) s0.ts Mq:=hch.trans hR.Ow;refine Cy (AP Q9) (AK (AP Q9) (AU (off:=0) Q9 rfl (Ao (Ao (Al (n:=(out++r).length) q1.A7 (Ao (Fp (pk ?_))))))));have eb:decide (((out++r).length:Int)>32)=AQ 32 (out++r).length:=by grind
  rw[eb];have AX0:(out++r).length<=32+(p+1)*(33*(2 ^ 27+1)):=by grind
  have next:∀(x:Bool) (b4:List (List AV)),BM ⟨b4,Mq⟩->b4.take X.length=X.set e [BB true,BB x]->X.length<=b4.length->EY X.length b4 (out++r) a'->(x=false->x0=false/\IP (AQ 32) (FL (AQ 32) ob Ea) (l.drop (p+1)) (out++r)=o/\(out++r).length<=32)->(x=true->o=none)->Yt R 0 0 0 (.ptr e 0) (.ptr s0.bs.length 0) a' t8 (AA p) ⟨b4,Mq⟩ QR:=by
   intro x b4 n1 n2 n3 n4 n5 n6;refine AMS (BW (by omega) (by omega) ?_);have:=ihn (p+1) x (out++r) b4 Mq a' (by omega) n5 n6 AX0 n1 n2 n3 n4 NZ;simpa using this
  have hmod:exc=false->(x'=true->o=none)/\(x'=false->AQ 32 (out++r).length=true->o=none)/\(x'=false->AQ 32 (out++r).length=false->IP (AQ 32) (FL (AQ 32) ob Ea) (l.drop (p+1)) (out++r)=o):=by
   rintro rfl;obtain⟨_,h2,_⟩:=h0 rfl;rw[drop_cons hb,IP] at h2;have hE2:=hE.2 rfl
   grind
  have AbE:exc=true->o=none:=h1;cases Lf:AQ 32 (out++r).length with
  | true=>
   refine A4 (Cy (AP Q9) (AK (AP Q9) (DD Q9 (by simp) rfl (AI _) rfl (.inl (AI _)) ?_)));have e1:[BB true,BB x'].set (0+1) (BB true)=[BB true,BB true]:=rfl;rw[e1];refine next true _ (BM.set (s:=⟨b3,Mq⟩) hs3 rfl _) (by simp[*,EE]) (by grind) (q1.keep Q9 rfl (d:=[BB true,BB true]) (by grind[List.take_of_length_le])) (λh=>by cases h) (λ_=>?_)
   grind
  | false=>
   refine Am (next x' b3 hs3 TX l9 q1 (λhx=>?_) (λhx=>?_))
   .cases exc with
    | true=>rw[hE.1 rfl] at hx; grind
    | false=>
     grind
   grind
end
theorem ARs {n:Nat} {X bs:List (List AV)} {ts:List (Nat×Nat)} {l:List Br} {v:AV} {Post:AV->AM->Prop} (hX:∀b∈X,Ab n b=true) (hT:bs.take n=X) (hb:EY n bs l v) (hP:∀v',Aq v' (l.map DY)->Post v' ⟨X,ts⟩):QM false n Post v ⟨bs,ts⟩:=by
 have hok:((bs.take n).all (Ab n))=true:=by grind
 rcases hb with ⟨rfl,rfl⟩|⟨id,rows,h1,rfl,h2,h3,h4⟩
 .refine⟨.AB [],⟨X,ts⟩,?_,hP _ (.AB _)⟩
  grind[HP,HV,Tel.close]
 .obtain⟨c,cs,hc,k1,k2,k3,hal⟩:=EY.block (lo:=n) (s:=⟨bs,ts⟩) h2 h3 h4
  have htp:=T6 h3;have hlt:¬ id<n:=by omega
  refine⟨.pv (.list (l.map DY)),⟨X,ts⟩,?_,hP _ (.list _)⟩;unfold HP;rw[hok];have e1:HV false n (.ref id 0 l.length 5)=none:=rfl;have e2:Ii bs id 0 l.length 5=some (l.map DY):=by grind[Ii,List.take_of_length_le,Fq,Kj,List.length_map]
  grind[Tel.close]
section
variable {R:RT}
def BrW (R:RT) (e:Nat) (t:Ty) (o:Option (List Br)):Prop:=∀x,BJ t x->∀(exc:Bool) (s:AM),BM s->s.bs[e]?=some [BB true,BB exc]->∀QR:QT,
 (∀bs tk a x' r,(x'=(oX exc o).isNone/\r=(oX exc o).getD [])->BM ⟨bs,tk⟩->bs.take s.bs.length=s.bs.set e [BB true,BB x']->s.bs.length<=bs.length->EY s.bs.length bs r a->Ca (.AB []) (.AB []) s.ts tk->QR a ⟨bs,tk⟩)->xV R 0 0 0 (.ptr e 0) x s QR
theorem BrW.c {e:Nat} {t:Ty} {o:Option (List Br)} (h:BrW R e t o):ADb R e t o:=by
 intro x hx exc s hs L hro EU qc hE;refine m49 (by rfl) ?_;rw[hro,EU,qc];refine h x hx exc s hs hE _ ?_
 grind[M7]
theorem BrW.v {e:Nat} {t:Ty} {o:Option (List Br)} (h:BrW R e t o):AMP R e t o:=by
 intro x hx exc s hs L hro EU qc hE;refine m49 (by rfl) ?_;rw[hro,EU,qc];refine h x hx exc s hs hE _ ?_;rintro bs tk a x' r ⟨rfl,rfl⟩ n1 n2 n3 n4 n5;refine ARs (X:=s.bs.set e [BB true,BB (oX exc o).isNone]) ?_ n2 n4 λv' hv=>⟨tk,hv,n5,rfl⟩
 have:=BM.set hs (c:=[BB true,BB (oX exc o).isNone]) rfl tk (j:=e);intro b hb;have h1:=this b hb
 grind
theorem Mi:∀(f:Nat) (t:Ty) (l:List Br),DM (AQ 32) f t=some l->l.length<=32:=by
 intro f t l h
 have cat:∀{α:Type} (g:α->Option (List Br)) (l:List α) (out r:List Br),out.length<=32->IP (AQ 32) g l out=some r->r.length<=32:=by
  intro α g l
  induction l with
  | nil=>
   grind[IP]
  | cons a l ih=>
   grind[IP]
 have tup:∀(ls:List (List Br)) (out r:List Br),out.length<=32->JP (AQ 32) ls out=some r->r.length<=32:=by
  intro ls
  induction ls with
  | nil=>
   grind[JP]
  | cons a l ih=>
   grind[JP]
 cases f with
 | zero=>grind[DM]
 | succ f=>
  obtain⟨k,n,i,ts⟩:=t;rw[DM] at h;cases h0:k==0 with
  | true=>grind
  | false=>
   rw[h0] at h;simp only[AG] at h;cases h2:k==2||k==5 with
   | true=>grind
   | false=>
    rw[h2] at h;simp only[AG] at h;cases h3:k==3 with
    | true=>
     grind
    | false=>
     rw[h3] at h;simp only[AG] at h;cases h4:k==4 with
     | true=>
      grind
     | false=>
      rw[h4] at h;simp only[AG] at h;cases h6:k==6 with
      | false=>grind
      | true=>
       rw[h6] at h;simp only[AN] at h;rcases ts with _|⟨b,_|⟨body,_|⟨z,r⟩⟩⟩
       all_goals grind[dU]
theorem Ux {e:Nat}:∀(f:Nat) (t:Ty),depth t<=f->valid t=true->Cl (bw t)->wt t<=2 ^ 27->size t<2 ^ 30->BrW R e t (DM (AQ 32) f t):=by
 intro f
 induction f with
 | zero=>
  intro t hd;obtain⟨k,n,i,ts⟩:=t
  grind[depth]
 | succ f ih=>
  intro t hd hv ZF hw hsz x hx exc s hs hE QR hQ;have le:=(BL.1 hE).1;have same:s.bs.set e [BB true,BB exc]=s.bs:=by grind[List.set_getElem_self]
  obtain⟨k,n,i,ts⟩:=t;have PX:=hv;have hx':=hx;simp only[valid,AE] at hv;simp only[depth] at hd;simp only[size] at hsz;have hts:=BP ts;obtain⟨a,rfl,ha⟩:=hx;obtain⟨c1,c2,c3⟩:=hx'.cells;have g0:=Ay s.bs [AA k,SS n,AA i,a];have gE:=Av hE [AA k,SS n,AA i,a];have hs1:BM ⟨s.bs++[[AA k,SS n,AA i,a]],s.ts⟩:=BM.app (s:=s) hs (c3 _);have ZH:(s.bs++[[AA k,SS n,AA i,a]]).take s.bs.length=s.bs.set e [BB true,BB exc]:=by grind
  have hl0:(s.bs++[[AA k,SS n,AA i,a]]).length=s.bs.length+1:=by simp
  refine ARt (Bw (cs:=[AA k,SS n,AA i,a]) rfl c2 (Cy (AP gE) (AK (AP gE) (AU (off:=1) gE rfl ?_))));cases exc with
  | true=>exact A4 (hQ _ s.ts (.AB []) true [] ⟨rfl,rfl⟩ hs1 ZH (by simp) (.inl ⟨rfl,rfl⟩) (Ca.refl _ _))
  | false=>
   refine Am (ARu (AK (AP g0) (AU (off:=0) g0 rfl (Au ?_))));simp only[oX,AG] at hQ;generalize s.bs++[[AA k,SS n,AA i,a]]=bs at g0 gE hs1 ZH hl0
   have mem:∀t∈ts,(Cl (bw t)/\wt t<=2 ^ 27)->BrW R e t (DM (AQ 32) f t):=by
    intro t ht h;have:=Kh ht;have:=Fj ht
    grind[Ce]
   have leaf:∀(u:Ty) (du:List AV) (ts':List (Nat×Nat)),BJ u (.agg du)->DM (AQ 32) (f+1) (.mk k n i ts)=some [⟨[],u⟩]->Ca (.AB []) (.AB []) s.ts ts'->CU [(.AB []),(AA 0),(SS []),(AA 0),(.AB [])] [(1,4,.agg du)] λa19=>CV true ⟨bs,ts'⟩ 5 [(.AB []),(AA 0),(SS []),(AA 0),(.AB [])] 1 [(0,5,a19)] λa20 cP=>QR a20 cP:=by
    intro u du ts' hu hb hch;have EA:CP ⟨[],u⟩ (.agg (.AB []::du)):=⟨.AB [],du,rfl,.inl (.AB _),hu⟩;obtain⟨z1,z2,z3⟩:=EA.cells;refine IC (AFY hu) (MC EA ?_);have hle:s.bs.length<=bs.length:=by omega
    exact hQ (bs++[.AB []::du]) ts' (.ref bs.length 0 1 5) false [⟨[],u⟩] (by grind) (BM.app (s:=⟨bs,ts'⟩) hs1 (z3 _)) ((Dy hle _).trans ZH) (by grind) (.inr ⟨bs.length,[.AB []::du],hle,rfl,by simp,⟨EA,Ae⟩,by simp⟩) hch
   have var:(k==2||k==5)=true->(k==0)=false->mH R 0 0 0 (.ptr e 0) (.ptr s.bs.length 0) (AA k) (BB true) ⟨bs,s.ts⟩ QR:=by
    intro hk qY;have AX1:WT (.mk k n i ts)=true:=Nh (λi hi=>by grind) _ (Oz _ PX);refine cU (A4 (Ad g0 rfl (AD (gZ (R:=R) (by grind[size]) AX1 hx') ?_)));intro r hr;obtain⟨du,rfl⟩:=hr.G1.agg;refine leaf _ du s.ts hr.G1 ?_ (Ca.refl _ _)
    grind[DM]
   rcases M4 hv.1 with ⟨rfl,rfl,rfl,rfl⟩|⟨rfl,rfl,rfl,rfl⟩|rfl|⟨rfl,rfl,rfl⟩|⟨rfl,rfl,rfl,hne⟩|⟨rfl,rfl,rfl,h0⟩|⟨rfl,rfl,rfl,b,body,rfl,hcb⟩
   .exact A4 (Ad g0 rfl (leaf _ _ s.ts hx' (by rfl) (Ca.refl _ _)))
   .refine Am (Au (Am (Au (cU (Am (Au (Am (Au (Am (Au (Am (ARv ?_))))))))))))
    exact hQ bs s.ts (.AB []) false [] (by grind[DM]) hs1 ZH (by omega) (.inl ⟨rfl,rfl⟩) (Ca.refl _ _)
   .grind[Am,Au]
   ·-- a tuple
    have ADi:∀t∈ts,Cl (bw t)/\wt t<=2 ^ 27:=by
     intro t ht;refine⟨DN ZF (by simp[*,bw,GN,Dx,Ef]),?_⟩;have e:wt (.mk 3 [] 0 ts)=1+(ts.map wt).sum:=by grind[wt,IQ]
     have:=Dx (Ef (f:=wt) ht);omega
    have ew:wt (.mk 3 [] 0 ts)=1+(ts.map wt).sum:=by grind[wt,IQ]
    have e2:bw (.mk 3 [] 0 ts)=(ts.map bw).sum:=by grind[bw,GN]
    have eo:DM (AQ 32) (f+1) (.mk 3 [] 0 ts)=tpR f ts:=by rfl
    rw[eo] at hQ;refine Am (Au (Am (Au (cU (Am (Au (A4 (Ad g0 rfl ?_))))))));obtain⟨v,s',hR,hc⟩:=iD (R:=R) (e:=e) (f:=f) (T:=bw (.mk 3 [] 0 ts)) (S:=wt (.mk 3 [] 0 ts)) ZF (by omega) (by omega) (λt ht=>(mem t ht (ADi t ht)).v) (λt ht l hl=>⟨Mi f t l hl,λc hc=>⟨lI f t l (Ce hv.2 ht) (ADi t ht).1 hl c hc,(De f t l hl c hc).1⟩⟩) (by omega) (by omega) hx' (s:=⟨bs,s.ts⟩) hs1 (L:=Cv (env R) 49 0 0 0) rfl rfl (by rfl) gE;obtain⟨b2,Mq⟩:=s';have l7:bs.length<=b2.length:=hR.len;have IZ:=LG (n:=s.bs.length) (by omega) ZH hR.tk;rw[Hr] at IZ;exact⟨_,_,hc,hQ b2 Mq v _ _ ⟨rfl,rfl⟩ hR.ok IZ (by omega) (hR.So.mono (by grind) λ_ _ _ h=>h) hR.Ow⟩
   ·-- a union
    have ADi:∀t∈ts,Cl (bw t)/\wt t<=2 ^ 27:=by
     intro t ht;refine⟨DN ZF (by simp[*,bw,GN,Dx,Ef]),?_⟩;have e:wt (.mk 4 [] 0 ts)=1+(ts.map wt).sum:=by grind[wt,IQ]
     have:=Dx (Ef (f:=wt) ht);omega
    refine Am (Au (Am (Au (cU (Am (Au (Am (Au (A4 ?_)))))))));have:=ARl (R:=R) (e:=e) (f:=f) (i0:=0) (nm:=[]) ha (by omega) (λt ht=>(mem t ht (ADi t ht)).c) (λt ht l hl=>Mi f t l hl) (s0:=s) le (o:=DM (AQ 32) (f+1) (.mk 4 [] 0 ts)) (by rfl) (QR:=QR) hQ ts.length 0 false [] bs s.ts (.AB []) (by omega) (λ_=>⟨[],rfl,rfl⟩) (λh=>by cases h) (by simp) hs1 ZH (by omega) g0 (.inl ⟨rfl,rfl⟩) (Ca.refl _ _);omega
   .grind[Am,Au,A4]
   ·-- an existential term
    simp only[BS,AE] at hv;obtain⟨_,Nu,Us,_⟩:=hv;have hbw:bw (.mk 6 [] 0 [b,body])=bw body+1+(cv body+1)*bw b:=rfl;have hwt:wt (.mk 6 [] 0 [b,body])=wt body+max 1 (cv body)*wt b:=rfl;have oC:Cl (bw b):=DN ZF (by grind);have hsy:Cl (bw body):=DN ZF (by omega);have w1:1*wt b<=max 1 (cv body)*wt b:=B9 _ (by omega);have hmb:=mem b (by simp) ⟨oC,by omega⟩;have hmy:=mem body (by simp) ⟨hsy,by omega⟩;refine Am (Au (Am (Au (cU (Am (Au (Am (Au (Am (Au (A4 (AK (AP g0) (AU (off:=3) g0 rfl (BQ ha (row:=Af body) (by omega) rfl (Ac _) (by omega) (Cg ?_)))))))))))))));obtain⟨v,s',hR,hc⟩:=hmy.c _ (A5.BZ body).G1 false ⟨bs,s.ts⟩ hs1 (Cv (env R) 49 0 0 0) rfl rfl (by rfl) gE;obtain⟨b2,Mq⟩:=s';have l7:bs.length<=b2.length:=hR.len;have IZ:=LG (n:=s.bs.length) (by omega) ZH hR.tk;rw[Hr] at IZ;have qi:b2[s.bs.length]?=some [AA 6,SS [],AA 0,a]:=B5 hR.tk (by grind);refine⟨_,_,hc,?_⟩;have hR1:=hR.So;have AX2:=hR.ok;have AX3:=hR.Ow;simp only[oX,AG] at IZ hR1;have eo:DM (AQ 32) (f+1) (.mk 6 [] 0 [b,body])=bif (DM (AQ 32) f body).isNone then none else IP (AQ 32) (FL (AQ 32) (DM (AQ 32) f b) b) ((DM (AQ 32) f body).getD []) []:=by grind[DM,dU]
    have eb2:b2.set e [BB true,BB (DM (AQ 32) f body).isNone]=b2:=by grind[List.getElem?_set_self,List.set_getElem_self]
    have:=ARo (R:=R) (e:=e) (i0:=0) (nm:=[]) (Ea:=b) (body:=body) ha (ob:=DM (AQ 32) f b) (l:=(DM (AQ 32) f body).getD []) (t8:=v) (lo:=bs.length) (Wb:=wt body) (C:=max 1 (cv body)) (W:=wt b) (w:=bw b) (T:=bw (.mk 6 [] 0 [b,body])) (λd hd=>by
     cases ZB:DM (AQ 32) f body with
     | none=>grind
     | some l=>
      rw[ZB] at hd;obtain⟨z1,z2⟩:=De f body l ZB d hd;refine⟨lI f body l Us hsy ZB d hd,by omega,?_⟩;have m1:(Ai d.body).length*bw b<=cv body*bw b:=B9 _ z2
      grind) (λl hl=>⟨λc hc=>⟨lI f b l Nu oC hl c hc,(De f b l hl c hc).1⟩,Mi f b l hl⟩) ZF (by omega) (by omega) hmb.c (by
     cases ZB:DM (AQ 32) f body with
     | none=>simp
     | some l=>grind[Mi]) (s0:=s) le (o:=DM (AQ 32) (f+1) (.mk 6 [] 0 [b,body])) (x0:=(DM (AQ 32) f body).isNone) eo (QR:=QR) (X:=b2) IZ (by omega) hR1 qi hQ ((DM (AQ 32) f body).getD []).length 0 (DM (AQ 32) f body).isNone [] b2 Mq (.AB []) (by omega) (λh=>⟨h,by grind,by simp⟩) (λh=>by grind) (by simp) AX2 (by grind) (Aa _) (.inl ⟨rfl,rfl⟩) AX3
    omega
end
theorem AMT {rr:Bool} {k:Nat} {rows:List (List PV)} {v:AV} {s0:AM} {bs:List (List AV)} {ts:List (Nat×Nat)} {Post:AV->AM->Prop} (h0:BM s0) (hT:bs.take s0.bs.length=s0.bs) (hv:Dg 0 ts k v rows) (hP:Post v ⟨s0.bs,ts⟩):QM rr s0.bs.length Post v ⟨bs,ts⟩:=by
 have hok:((bs.take s0.bs.length).all (Ab s0.bs.length))=true:=by
  rw[hT,Cz];exact h0
 rcases hv with rfl|⟨t,rfl,h1,_⟩
 .refine⟨_,_,?_,hP⟩
  grind[HP,HV,Tel.close]
 .have:=(BL.1 h1).1
  refine⟨_,_,?_,hP⟩
  grind[HP,HV,Tel.close]
mutual
theorem O5:∀(t:Ty) (l:List Int),(occs t l).length<=l.length+size t
 | .mk k _ i ts,l=>by
  have:=WZ ts l
  grind[occs,size]
theorem WZ:∀(ts:List Ty) (l:List Int),(GX ts l).length<=l.length+AZ ts
 | [],l=>by grind[GX]
 | t::ts,l=>by
  have h1:=O5 t l;have h2:=WZ ts (occs t l)
  grind[GX,AZ]
end
section
variable {R:RT}
def xW (R:RT) (x:AV) (t:Ty) (l:List Int) (s:AM):Prop:=∀(L:A8) (a:AV),L.ro=0->L.rt=0->Dg 0 s.ts 3 a (AX l) ->
 ∃v s',(∃ts',Dg 0 ts' 3 v (AX (occs t l))/\Ca a v s.ts ts'/\s'=⟨s.bs,ts'⟩)/\BD (env R) L 65 [x,a] s v s'
theorem xX {l:List Int} {i:Int} {n:List UInt8} {k:Int} {g:AV} {a:AV} {s:AM} {p:Nat} (ha:Dg 0 s.ts 3 a (AX l)) (hl:l.length<2 ^ 40) (g0:s.bs[p]?=some [AA k,SS n,AA i,g]) {QR:QT}
  (hQ:∀v ts',Dg 0 ts' 3 v (AX (bif l.contains i then l else l++[i]))->Ca a v s.ts ts'->QR v ⟨s.bs,ts'⟩) :
  ∀(j q:Nat),q+j=l.length->(l.contains i=(l.drop q).contains i)->mI R 0 0 0 a (.ptr p 0) (AA q) s QR:=by
 intro j
 induction j with
 | zero=>
  intro q hi hc;refine AFb (Al (n:=l.length) (by rw[ha.Ax.A7,BV]) (Ah ?_));rw[Aw (by omega)];rw[Bu (by omega)] at hc;rw[hc] at hQ;refine Am (ARw (AK (AP g0) (AU (off:=2) g0 rfl (Ou ⟨by decide,bE ha rfl hl λa' ts' h1 h2=>?_⟩))))
  grind
 | succ j ih=>
  intro q hi hc;refine AFb (Al (n:=l.length) (by rw[ha.Ax.A7,BV]) (Ah ?_));rw[Ap (by omega)];obtain⟨w,hw⟩:∃w,l[q]?=some w:=⟨_,Ak (by omega)⟩;refine A4 (ARx (BQ ha.Ax (row:=[.sc (.int .i64 w)]) (by omega) (by simp[*,Jv]) rfl (by omega) (Ej (AK (AP g0) (AU (off:=2) g0 rfl (Au ?_))))));have hd:l.drop q=w::l.drop (q+1):=by grind[List.drop_eq_getElem_cons]
  rw[hd,List.contains_cons] at hc;cases hwi:w==i with
  | true=>
   simp_all[Ca.refl]
  | false=>
   have:(i==w)=false:=by
    have h1:w≠i:=by simpa using hwi
    simpa using λh:i=w=>h1 h.symm
   rw[this,Gb] at hc;refine Am (ARy (BW (by omega) (by omega) ?_));have:=ih (q+1) (by omega) hc;simpa using this
theorem xY {ts:List Ty} {a0:AV} (ha0:BF a0 (AW ts)) (hl:AZ ts<2 ^ 37) {k i:Int} {n:List UInt8} (hk:(k==2||k==3)=true) {l0:List Int} (hl0:l0.length+AZ ts<2 ^ 38) {p:Nat} {bs:List (List AV)} {Nv:List (Nat×Nat)} {c0:AV} (g0:bs[p]?=some [AA k,SS n,AA i,a0]) (hs:BM ⟨bs,Nv⟩)
  (ih:∀t∈ts,∀(l:List Int) (s:AM),l.length+size t<2 ^ 38->BM s->xW R (.agg ((Af t).map .pv)) t l s) {QR:QT}
  (hQ:∀v ts',Dg 0 ts' 3 v (AX (GX ts l0))->Ca c0 v Nv ts'->QR v ⟨bs,ts'⟩) :
  ∀(j q:Nat) (l:List Int) (c:AV) (tk:List (Nat×Nat)),q+j=ts.length->GX (ts.drop q) l=GX ts l0->l.length+AZ (ts.drop q)<=l0.length+AZ ts->Dg 0 tk 3 c (AX l)->Ca c0 c Nv tk ->
   mJ R 0 0 0 c (.ptr p 0) (AA q) ⟨bs,tk⟩ QR:=by
 have UT:=BP ts;have hrow:∀(s:AM) (K:AV->Prop),K (AA ts.length)->BO s a0 K:=λs K h=>Al (n:=ts.length) (by rw[ha0.A7,AR]) h
 intro j
 induction j with
 | zero=>
  intro q l c tk hi he hle hc hch;rw[Bu (by omega),GX] at he;subst he;refine xZ (AK (AP g0) (AU (off:=0) g0 rfl (Au ?_)));have fin:∀t,mK R 0 0 0 c t QR->mK R 0 0 0 c t QR:=λ_ h=>h
  have last:BO ⟨bs,tk⟩ a0 λa41=>CY .i64 .lss (AA q) a41 λa43=>a43=BB false:=by grind[Ah]
  cases b3:(k==3) with
  | true=>
   refine DF (DF (DF (pk (Ao (Ao (AK (AP g0) (Ao (AU (off:=3) g0 rfl (Ao (hrow _ _ (Ao (Ah (pk ?_)))))))))))));rw[Aw (by omega)];exact Am (xd (hQ c tk hc hch))
  | false=>
   have b2:(k==2)=true:=by grind
   refine Ao (AK (AP g0) (Ao (AU (off:=0) g0 rfl (Ao (Au (pk ?_))))));rw[b2];refine Ao (Ao (AK (AP g0) (Ao (AU (off:=3) g0 rfl (Ao (hrow _ _ (Ao (Ah (pk ?_)))))))));rw[Aw (by omega)];exact Am (xd (hQ c tk hc hch))
 | succ j D2=>
  intro q l c tk hi he hle hc hch;obtain⟨t,ht⟩:∃t,ts[q]?=some t:=⟨_,Ak (by omega)⟩;have hd:ts.drop q=t::ts.drop (q+1):=by grind[List.drop_eq_getElem_cons]
  rw[hd,GX] at he;rw[hd,AZ] at hle;have hlen:=O5 t l
  have step:xe R 0 0 0 c (.ptr p 0) (AA q) ⟨bs,tk⟩ QR:=by
   refine ARz (AK (AP g0) (AU (off:=3) g0 rfl (BQ ha0 (row:=Af t) (by omega) (by grind[BE]) (Ac t) (by omega) (Cg ?_))));obtain⟨v,s',⟨ts',h1,h2,rfl⟩,h3⟩:=ih t (A2 ht) l ⟨bs,tk⟩ (by omega) hs (Cv (env R) 65 0 0 0) c rfl rfl hc;refine⟨_,_,h3,AR0 (BW (by omega) (by omega) ?_)⟩;have:=D2 (q+1) (occs t l) v ts' (by omega) he (by omega) h1 (hch.trans h2)
   grind
  refine xZ (AK (AP g0) (AU (off:=0) g0 rfl (Au ?_)));cases b3:(k==3) with
  | true=>
   refine DF (DF (DF (pk (Ao (Ao (AK (AP g0) (Ao (AU (off:=3) g0 rfl (Ao (hrow _ _ (Ao (Ah (pk ?_)))))))))))))
   grind[A4]
  | false=>
   have b2:(k==2)=true:=by grind
   refine Ao (AK (AP g0) (Ao (AU (off:=0) g0 rfl (Ao (Au (pk ?_))))));rw[b2];refine Ao (Ao (AK (AP g0) (Ao (AU (off:=3) g0 rfl (Ao (hrow _ _ (Ao (Ah (pk ?_)))))))))
   grind[A4]
mutual
theorem cV:∀(t:Ty),size t<2 ^ 37->∀(x:AV),BJ t x->∀(l:List Int) (s:AM),l.length+size t<2 ^ 38->BM s->xW R x t l s
 | .mk k n i ts,h,x,hx,l,s,Rk,hs=>by
  intro L a hro EU ha;obtain⟨a0,rfl,ha0⟩:=hx;simp only[size] at h Rk;have ih:=Wa ts (by omega);refine m65 ?_;rw[hro,EU];refine AR1 (Bw (cs:=[AA k,SS n,AA i,a0]) rfl (by simp[ha0.ok]) ?_);have g0:=Ay s.bs [AA k,SS n,AA i,a0];have hT:(s.bs++[[AA k,SS n,AA i,a0]]).take s.bs.length=s.bs:=by simp
  have hs1:BM ⟨s.bs++[[AA k,SS n,AA i,a0]],s.ts⟩:=BM.app (s:=s) hs (by simp[Ab,Ar,ha0.Ar]);generalize s.bs++[[AA k,SS n,AA i,a0]]=bs at g0 hT hs1
  have fin:∀v ts',Dg 0 ts' 3 v (AX (occs (.mk k n i ts) l))->Ca a v s.ts ts'->QM (L.rr 65) s.bs.length (λv s'=>∃ts',Dg 0 ts' 3 v (AX (occs (.mk k n i ts) l))/\Ca a v s.ts ts'/\s'=⟨s.bs,ts'⟩) v ⟨bs,ts'⟩:=
   λv ts' h1 h2=>AMT hs hT h1 ⟨ts',h1,h2,rfl⟩
  rw[occs] at fin;rw[occs];refine AK (AP g0) (AU (off:=0) g0 rfl (Au ?_));cases b5:(k==5) with
  | true=>
   rw[b5] at fin;refine A4 ?_;have:=xX (R:=R) (s:=⟨bs,s.ts⟩) (p:=s.bs.length) (i:=i) (n:=n) (k:=k) (g:=a0) ha (by omega) g0 (QR:=QM (L.rr 65) s.bs.length (λv s'=>∃ts',Dg 0 ts' 3 v (AX (bif l.contains i then l else l++[i]))/\Ca a v s.ts ts'/\s'=⟨s.bs,ts'⟩)) (λv ts' h1 h2=>fin v ts' h1 h2) l.length 0 (by omega) rfl
   grind
  | false=>
   rw[b5] at fin;simp only[AG] at fin ⊢;refine Am (AR2 ?_);cases b23:(k==2||k==3) with
   | true=>
    rw[b23] at fin;simp only[AN] at fin ⊢;have:=xY (R:=R) ha0 (by omega) b23 (l0:=l) (by omega) g0 (hs:=hs1) (c0:=a) ih (QR:=QM (L.rr 65) s.bs.length (λv s'=>∃ts',Dg 0 ts' 3 v (AX (GX ts l))/\Ca a v s.ts ts'/\s'=⟨s.bs,ts'⟩)) fin ts.length 0 l a s.ts (by omega) rfl (Aa _) ha (Ca.refl _ _);omega
   | false=>
    rw[b23] at fin;simp only[AG] at fin ⊢;simp only[Gc] at b23;refine xZ (AK (AP g0) (AU (off:=0) g0 rfl (Au ?_)));rw[b23.2];refine Ao (AK (AP g0) (Ao (AU (off:=0) g0 rfl (Ao (Au (pk ?_))))));rw[b23.1];exact Bm (Bm (Bm (Bm (Bm (pk (Am (xd (fin a s.ts ha (Ca.refl _ _)))))))))
theorem Wa:∀(l:List Ty),AZ l<2 ^ 37->∀t∈l,∀(o:List Int) (s:AM),o.length+size t<2 ^ 38->BM s->xW R (.agg ((Af t).map .pv)) t o s
 | [],_,_,h=>by cases h
 | e::l,h,t,hm=>by
  simp only[AZ] at h;rcases A1.1 hm with h' | h'
  .rw[h']
   exact cV e (by omega) _ (A5.BZ e).G1
  .exact Wa l (by omega) t h'
end
end
/- QP, QI -/
def wI (i:Int):Bool:=decide (-(2 ^ 50)<=i)&&decide (i<2 ^ 50)
theorem xh {t:Ty} (h:vP wI t=true):WT t=true:=Nh (λi hi=>by simp only[wI,AE,DU] at hi; omega) t h
theorem mL {n m:Int} (hm:wI m=true) {t:Ty} (h:vP wI t=true):vP wI (KV n m t)=true/\size (KV n m t)=size t:=by
 rw[NQ];refine Nc (λi hi=>?_) t h
 grind
section
variable {R:RT}
theorem AMU {L:List Int} {c:AV} (hc:BF c (AX L)) (hl:L.length<2 ^ 40) {bd:List Ty} {F:Ty} {Post:AV->Prop} (hP:∀r,Py ⟨bd,F⟩ r->Post r) :
  ∀(j q:Nat) (cur:Ty) (bs:List (List AV)) (tk:List (Nat×Nat)) (o:AV) (y:List AV),q+j=L.length->S2 j q cur=F->size cur<2 ^ 37->vP wI cur=true->bs[1]?=some Z5->bs[2]?=some (o::y)->BF o (AW bd)->BJ cur (.agg y) ->
   mM R 0 0 0 (.ptr 1 0) c (.ptr 2 0) (AA q) ⟨bs,tk⟩ (QP Post):=by
 have hh:(hole:Int)=1073741824:=rfl;intro j
 induction j with
 | zero=>
  intro q cur bs tk o y hi he hsz hv g1 g2 ho hy;rw[S2] at he;subst he;refine AFd (Al (n:=L.length) (by rw[hc.A7,BV]) (Ah ?_));rw[Aw (by omega)];have EA:CP ⟨bd,cur⟩ (.agg (o::y)):=⟨o,y,rfl,ho,hy⟩;obtain⟨c1,c2,c3⟩:=EA.cells;refine Am (AR3 (Ad g2 c1 (O2 g1 c1 (AI _) c2 (AI _) (Ad (Bf g1) c1 ?_))));obtain⟨o',h1,h2⟩:=ho.closed (bs.set 1 (o::y)) 0;obtain⟨k,n,i,ts⟩:=cur;obtain⟨a,he,ha⟩:=hy;cases he;obtain⟨a',h3,h4⟩:=ha.closed (bs.set 1 (o::[AA k,SS n,AA i,a])) 0;exact⟨.agg (o'::[AA k,SS n,AA i,a']),by simp[*],hP _ ⟨o',_,rfl,h2,a',rfl,h4⟩⟩
 | succ j ih=>
  intro q cur bs tk o y hi he hsz hv g1 g2 ho hy;rw[S2] at he;refine AFd (Al (n:=L.length) (by rw[hc.A7,BV]) (Ah ?_));rw[Ap (by omega)];obtain⟨d1,d2,d3⟩:=hy.cells;refine A4 (AR4 (AK (AP g2) (Ng g2 d1 (BW (by omega) (by omega) ?_))));have e1:(1073741825:Int)+(q:Int)=hole+1+q:=by omega
  rw[e1];refine AD (LF (R:=R) (hole+1+q) q hsz (xh hv) hy) ?_;intro r hr;obtain⟨du,rfl⟩:=hr.G1.agg;obtain⟨f1,f2,f3⟩:=hr.G1.cells
  have hw:wI (q:Int)=true:=by
   simp only[wI,AE,DU];omega
  obtain⟨v1,v2⟩:=mL (n:=hole+1+q) hw hv;refine AK (AP g2) (Yq g2 d1 f1 (AI _) f2 (AI _) (AR5 (BW (by omega) (by omega) ?_)));have:=ih (q+1) (KV (hole+1+q) q cur) (bs.set 2 (o::du)) tk o du (by omega) he (by omega) v1 (BR g1 (by decide)) (Bf g2) ho hr.G1
  grind
theorem AMV {b:Br} {L:List Int} {c:AV} (hc:BF c (AX L)) (hl:L.length<2 ^ 37) (hL:∀i∈L,0<=i/\i<(b.bounds.length:Int)) (Rb:b.bounds.length<2 ^ 37) {xa:AV} {xb:List AV} (TZ:BF xa (AW b.bounds)) {F:Ty} {Post:AV->Prop} (hP:∀r,Py ⟨L.map λi=>b.bounds.getD i.toNat Z9,F⟩ r->Post r) :
  ∀(j q:Nat) (cur:Ty) (bs:List (List AV)) (tk:List (Nat×Nat)) (o:AV) (y:List AV),q+j=L.length->S2 L.length 0 (S1 L j q cur)=F->size cur<2 ^ 37->vP wI cur=true->bs[0]?=some (xa::xb)->bs[1]?=some Z5->bs[2]?=some (o::y)->Dg 0 tk 25 o (AW ((L.take q).map λi=>b.bounds.getD i.toNat Z9))->BJ cur (.agg y) ->
   mN R 0 0 0 (.ptr 0 0) (.ptr 1 0) c (.ptr 2 0) (AA q) ⟨bs,tk⟩ (QP Post):=by
 have hh:(hole:Int)=1073741824:=rfl;intro j
 induction j with
 | zero=>
  intro q cur bs tk o y hi he hsz hv g0 g1 g2 ho hy;rw[S1] at he;refine AFe (Al (n:=L.length) (by rw[hc.A7,BV]) (Ah ?_));rw[Aw (by omega)];rw[CA (by omega)] at ho;have:=AMU (R:=R) hc (by omega) hP L.length 0 cur bs tk o y (by omega) he hsz hv g1 g2 ho.Ax hy;exact Am (AR6 (by simpa using this))
 | succ j ih=>
  intro q cur bs tk o y hi he hsz hv g0 g1 g2 ho hy;rw[S1] at he;refine AFe (Al (n:=L.length) (by rw[hc.A7,BV]) (Ah ?_));rw[Ap (by omega)];obtain⟨w,hw⟩:∃w,L[q]?=some w:=⟨_,Ak (by omega)⟩;obtain⟨w1,w2⟩:=hL w (A2 hw);obtain⟨t,ht⟩:∃t,b.bounds[w.toNat]?=some t:=⟨_,Ak (by omega)⟩;have hgd:b.bounds.getD w.toNat Z9=t:=by grind
  have hLd:L.getD q 0=w:=by grind
  rw[hLd] at he;obtain⟨d1,d2,d3⟩:=hy.cells;have ix:∀(s:AM) (K:AV->Prop),K (AA w)->Bh s 1 c (AA q) λa=>D6 (env R) s none a K:=λs K h=>BQ hc (row:=[.sc (.int .i64 w)]) (by omega) (by grind[Jv]) rfl (by omega) (Ej h)
  refine A4 (AR7 (AK (AP g2) (AU (off:=0) g2 rfl (AK (AP g0) (AU (off:=0) g0 rfl (ix _ _ (BQ TZ (row:=Af t) w1 (BE ht) (Ac t) (by omega) (Cg (FO (A5.BZ t).G1 ⟨by decide,YH ho rfl (by grind) λo' HN ho'=>?_⟩)))))))));have hcell:=ho'.Ax;refine AK (AP g2) (DD (off:=0) g2 (by simp) hcell.cells (AI _) hcell.ok (.inl (AI _)) ?_);have es:(o::y).set 0 o'=o'::y:=rfl;rw[es];have qj:=BR (b:=o'::y) g0 (k:=2) (by decide);have g1':=BR (b:=o'::y) g1 (k:=2) (by decide);have qh:=Bf (b:=o'::y) g2;generalize bs.set 2 (o'::y)=bs' at qj g1' qh;refine AK (AP qh) (Ng qh d1 (ix _ _ (BW (by omega) (by omega) ?_)));have e1:(1073741825:Int)+(q:Int)=hole+1+q:=by omega
  rw[e1];refine AD (LF (R:=R) w (hole+1+q) hsz (xh hv) hy) ?_;intro r hr;obtain⟨du,rfl⟩:=hr.G1.agg;obtain⟨f1,f2,f3⟩:=hr.G1.cells
  have hwi:wI (hole+1+(q:Int))=true:=by
   simp only[wI,AE,DU];omega
  obtain⟨v1,v2⟩:=mL (n:=w) hwi hv;refine AK (AP qh) (Yq qh d1 f1 (AI _) f2 (AI _) (AR8 (BW (by omega) (by omega) ?_)));have ht2:(L.take q).map (λi=>b.bounds.getD i.toNat Z9)++[t]=(L.take (q+1)).map λi=>b.bounds.getD i.toNat Z9:=by grind[List.take_add_one]
  rw[ht2] at ho';have:=ih (q+1) (KV w (hole+1+q) cur) (bs'.set 2 (o'::du)) HN o' du (by omega) he (by omega) v1 (BR qj (by decide)) (BR g1' (by decide)) (Bf qh) ho' hr.G1
  grind
theorem Uy {b:Br} (hs:size b.body<2 ^ 36) (hv:vP wI b.body=true) (hb:b.bounds.length<2 ^ 37) (hr:∀i∈occs b.body [],0<=i/\i<(b.bounds.length:Int)) {x:AV} (hx:Py b x):AL (env R) 50 [x] λr=>Py (FN b) r:=by
 obtain⟨a,y,rfl,ha,hy⟩:=hx;obtain⟨c1,c2,c3,c4⟩:=hy.cells;have ZC:=O5 b.body [];simp only[B8,CQ] at ZC;refine e50 (u0:=.agg (a::y)) (by simp[AY,close,ha.close,c4]) (AR9 ?_);refine Bw (cs:=a::y) rfl (by simp[ha.ok]; grind) (Bt ?_);have g0:(AM.mk [a::y,Z5] []).bs[0]?=some (a::y):=rfl
 have hs1:BM ⟨[a::y,Z5],[]⟩:=by
  intro d hd;simp only[A1,Ed,Ee] at hd;rcases hd with rfl|rfl
  .show Ab _ _=true
   simp only[Ab,ha.Ar,E6];exact Bn (AI _) _ c3
  rfl
 refine AK (s:=⟨[a::y,Z5],[]⟩) (AP g0) (Ng g0 c1 ?_);obtain⟨v,s',⟨ts',h1,_,rfl⟩,h3⟩:=cV (R:=R) b.body (by omega) (.agg y) hy.G1 [] ⟨[a::y,Z5],[]⟩ (by grind) hs1 (Cv (env R) 50 0 0 0) (.AB []) rfl rfl (.inl rfl);refine⟨_,_,h3,AK (s:=⟨[a::y,Z5],ts'⟩) (AP g0) (Ng g0 c1 (IC (AFY hy.G1) (Bt (O2 (s:=⟨[a::y,Z5]++[Z5],ts'⟩) rfl (by grind) (AI _) (by simp[*]) (AI _) ?_))))⟩;have:=AMV (R:=R) (b:=b) (L:=occs b.body []) (c:=v) h1.Ax (by omega) hr hb (xa:=a) (xb:=y) (.inl ha) (F:=(FN b).body) (Post:=λr=>Py (FN b) r) (λr h=>h) (occs b.body []).length 0 b.body [a::y,Z5,.AB []::y] ts' (.AB []) y (by omega) rfl (by omega) hv rfl rfl rfl (.inl rfl) hy.G1
 grind
theorem T8 {b:Br} (hs:size b.body<2 ^ 36) (hv:vP wI b.body=true) (hb:b.bounds.length<2 ^ 37) (hr:∀i∈occs b.body [],0<=i/\i<(b.bounds.length:Int)) {x:AV} (hx:CP b x):AL (env R) 50 [x] λr=>Py (FN b) r:=by
 obtain⟨x',h1,h2,h3⟩:=hx.closed;exact AL.open (args':=[x']) (by rfl) (by rfl) rfl h1 h2 (Uy hs hv hb hr h3)
end
theorem ADj {t:Ty} (hv:valid t=true) (hc:Co 0 t=true) (hs:Cl (bw t)) {l:List Br} (hl:DM (AQ 32) (depth t) t=some l) :
  ∃ps B,A3 (AQ 32) (depth t) t []=(some ps,B)/\l.map FN=ps.map (Jf B)/\(∀b∈l,∀i∈occs b.body [],0<=i/\i<(b.bounds.length:Int))/\(∀b∈B,Yd t b)/\∀b∈l,∀c∈b.bounds,Yd t c:=by
 have h:=fQ (BA:=AQ 32) rfl rfl (depth t) t [] hv hc G7 hs [] (λx hx=>by grind);rw[EP hv hc] at h;have hb:=Nb (f:=depth t) hv hc;have hsz:=De (BA:=AQ 32) (depth t) t l hl;rw[hl] at h;generalize A3 (AQ 32) (depth t) t []=o2 at h hb;rcases o2 with ⟨_|ps,B⟩
 .exact h.elim
 .obtain⟨_,h2⟩:=h
  simp only at hb ⊢
  have h3:∀(l':List Br) (ps':List Ty),(∀b∈l',b∈l)->CT (λb p=>∃φ,Rl false 0 B ([]:List Ty).length B.length [] b p φ) l' ps'->CT (λb p=>b∈l/\∃φ,Rl false 0 B ([]:List Ty).length B.length [] b p φ) l' ps':=by
   intro l'
   induction l' with
   | nil=>intro ps' _ h; cases ps' with
    | nil=>trivial
    | cons _ _=>exact h.elim
   | cons a l' ihl=>
    intro ps' hm h;cases ps' with
    | nil=>exact h.elim
    | cons p ps'=>exact⟨⟨hm a (by simp),h.1⟩,ihl ps' (λb hb=>hm b (by grind)) h.2⟩
  have h4:∀(l':List Br) (ps':List Ty),CT (λb p=>∃φ,Rl false 0 B ([]:List Ty).length B.length [] b p φ) l' ps'->∀b∈l',∃p φ,Rl false 0 B ([]:List Ty).length B.length [] b p φ:=by
   intro l'
   induction l' with
   | nil=>simp
   | cons a l' ihl=>
    intro ps' h b hb;cases ps' with
    | nil=>exact h.elim
    | cons p ps'=>
     rcases A1.1 hb with rfl|hb
     .exact⟨p,h.1⟩
     .exact ihl ps' h.2 b hb
  have e:l.map FN=ps.map (Jf B):=by
   refine(h3 l ps (λb hb=>hb) h2).map_eq λb p ⟨Rb,φ,H⟩=>(um H (Aa _) (DN hs ?_)).symm
   have:=H.lB;have:=H.len
   grind
  refine⟨ps,B,rfl,e,λb Rb i hi=>?_,hb,λb Rb c hc=>?_⟩
  rotate_left
  .obtain⟨p,φ,H⟩:=h4 l ps h2 b Rb
   obtain⟨i,hi,hic⟩:=MI.1 hc;obtain⟨x,hx⟩:∃x,φ[i]?=some x:=⟨_,Ak (by have:=H.len; omega)⟩;have h5:=H.KX i x hx
   grind
  obtain⟨p,φ,H⟩:=h4 l ps h2 b Rb;rcases L1 b.body [] i hi with h|h
  .cases h
  .have:=H.len
   rcases H.vis i h with h|h|h
   all_goals grind
theorem mO {L:List Int}:∀(f j:Nat) (t:Ty),j+f<2 ^ 40->vP wI t=true->vP wI (S1 L f j t)=true/\size (S1 L f j t)=size t
 | 0,_,_,_,h=>⟨h,rfl⟩
 | f+1,j,t,hj,h=>by
  have hw:wI (hole+1+(j:Int))=true:=by
   have:(hole:Int)=1073741824:=rfl;simp only[wI,AE,DU];omega
  obtain⟨h1,h2⟩:=mL (n:=L.getD j 0) hw h;obtain⟨h3,h4⟩:=mO (L:=L) f (j+1) _ (by omega) h1;exact⟨h3,h4.trans h2⟩
theorem mP:∀(f j:Nat) (t:Ty),j+f<2 ^ 40->vP wI t=true->vP wI (S2 f j t)=true/\size (S2 f j t)=size t
 | 0,_,_,_,h=>⟨h,rfl⟩
 | f+1,j,t,hj,h=>by
  have hw:wI (j:Int)=true:=by
   simp only[wI,AE,DU];omega
  obtain⟨h1,h2⟩:=mL (n:=hole+1+(j:Int)) hw h;obtain⟨h3,h4⟩:=mP f (j+1) _ (by omega) h1;exact⟨h3,h4.trans h2⟩
theorem Wc {b:Br} (hv:vP wI b.body=true) (hs:size b.body<2 ^ 36):size (FN b).body=size b.body/\(FN b).bounds.length<=size b.body:=by
 have hl:=O5 b.body [];simp only[B8,CQ] at hl;obtain⟨h1,h2⟩:=mO (L:=occs b.body []) (occs b.body []).length 0 b.body (by omega) hv;obtain⟨_,h4⟩:=mP (occs b.body []).length 0 _ (by omega) h1;refine⟨h4.trans h2,?_⟩
 show((occs b.body []).map _).length<=_
 grind
theorem AMW {W:Nat} {b:Br} (h:MA W b) (hb:b.bounds.length<2 ^ 40):vP wI b.body=true:=
 Ye (λi hi=>by
  have:(hole:Int)=1073741824:=rfl;rw[ADH] at hi;simp only[wI,AE,DU];omega) _ h.ok
section
variable {R:RT}
def o8 (R:RT) (t:Ty) (o:List Br×Int):Prop:=∀x,A5 t x->AL (env R) 15 [x] λr=>∃a,r=.tuple [a,AA o.2]/\Aq a (o.1.map DY)
theorem ADk {X:Ty->List Br×Int} {ts:List Ty} {y:AV} (hy:Aq y (AW ts)) (hl:ts.length<2 ^ 30) (hx:∀t∈ts,o8 R t (X t)) {bs:List (List AV)} {tk:List (Nat×Nat)} {xb:List AV} (g0:bs[0]?=some (y::xb)) {Post:AV->Prop} (hP:Post (BB (ts.all λt=>Dp (X t)))) :
  ∀(j p:Nat),p+j=ts.length->(ts.all λt=>Dp (X t))=((ts.drop p).all λt=>Dp (X t))->mQ R 0 0 0 (.ptr 0 0) (AA p) ⟨bs,tk⟩ (QP Post):=by
 intro j
 induction j with
 | zero=>
  intro p hi hall;refine AFf (AK (AP g0) (AU (off:=0) g0 rfl (Al (n:=ts.length) (by rw[hy.A7,AR]) (Ah ?_))));rw[Aw (by omega)];rw[Bu (by omega)] at hall;rw[hall] at hP;exact Am (ASA ⟨_,Fw,hP⟩)
 | succ j D2=>
  intro p hi hall;refine AFf (AK (AP g0) (AU (off:=0) g0 rfl (Al (n:=ts.length) (by rw[hy.A7,AR]) (Ah ?_))));rw[Ap (by omega)];obtain⟨t,ht⟩:∃t,ts[p]?=some t:=⟨_,Ak (by omega)⟩;have V2:=A2 ht;rw[drop_cons ht,G5] at hall;refine A4 (ASB (AK (AP g0) (AU (off:=0) g0 rfl (BI hy (row:=Af t) (by omega) (by simp[*,BE]) (Ac _) (by omega) (Cg (AD (hx t V2 _ (A5.BZ t)) ?_))))));rintro _ ⟨a,rfl,ha⟩
  have fail:Dp (X t)=false->(QP Post) (BB false) ⟨bs,tk⟩:=λh=>by
   rw[hall,h,Ga] at hP;exact⟨_,Fw,hP⟩
  refine CE rfl (CE rfl (FE ?_));cases h0:(X t).2==0 with
  | false=>
   grind[DF,pk,A4,Dp]
  | true=>
   have:((X t).2 != 0)=false:=by grind
   rw[this];refine Ao (Ao (Al (n:=(X t).1.length) (by rw[ha.A7,Bx]) (Ao (Fp (pk ?_)))))
   by_cases h4:(X t).1.length<=4
   .rw[Aw (by omega)]
    have hok:Dp (X t)=true:=by simp[Dp,h0,h4]
    rw[hok,E6] at hall;refine Am (ASC (BW (by omega) (by omega) ?_));have:=D2 (p+1) (by omega) hall;simpa using this
   .rw[Ap (by omega)]
    exact A4 (fail (by simp[Dp,h4]))
theorem Yu {X:Ty->List Br×Int} {b:Br} (hs:size b.body<2 ^ 37) (hl:b.bounds.length<2 ^ 30) (hx:∀t∈b.bounds,o8 R t (X t)) {x:AV} (jV:Py b x):AL (env R) 51 [x] λr=>r=BB (Qr b&&b.bounds.all λb=>Dp (X b)):=by
 obtain⟨a,y,rfl,ha,hy⟩:=jV;obtain⟨c1,c2,c3,c4⟩:=hy.cells;have hcs:=Gu b.body
 suffices H:∀Post:AV->Prop,Post (BB (Qr b&&b.bounds.all λb=>Dp (X b)))->xj R 0 0 0 (.agg (a::y)) ⟨[],[]⟩ (QP Post) from e51 (u0:=.agg (a::y)) (by simp[AY,close,ha.close,c4]) (H _ rfl)
 intro Post hP;refine ASD (Bw (cs:=a::y) rfl (by simp[ha.ok]; grind) ?_);have g0:(AM.mk ([]++[a::y]) []).bs[0]?=some (a::y):=rfl;refine AK (AP g0) (AU (off:=0) g0 rfl (Al (n:=b.bounds.length) (by rw[ha.A7,AR]) (Fp ?_)))
 by_cases h6:b.bounds.length<=6
 .rw[Aw (by omega)]
  refine Ao (AK (AP g0) (Ao (Ng g0 c1 (Ao (AD (QC b.body hs _ hy) ?_)))));intro v hv;refine Ao (Al (n:=(Ai b.body).length) (by rw[hv.A7,BV]) (Ao (Fp (pk ?_))))
  by_cases h3:(Ai b.body).length<=3
  .rw[Aw (by omega)]
   have hw:Qr b=true:=by grind[Qr]
   rw[hw,E6] at hP;have:=ADk (R:=R) ha hl hx (bs:=[]++[a::y]) (tk:=[]) (xb:=y) g0 hP b.bounds.length 0 (by omega) rfl;exact Am (ASE (by simpa using this))
  .rw[Ap (by omega)]
   have hw:Qr b=false:=by simp[Qr,h3]
   rw[hw,Ga] at hP;exact A4 ⟨_,Fw,hP⟩
 .rw[Ap (by omega)]
  have hw:Qr b=false:=by simp[Qr,h6]
  rw[hw,Ga] at hP;exact DF (DF (DF (DF (DF (pk (A4 ⟨_,Fw,hP⟩))))))
theorem Uz {X:Ty->List Br×Int} {b:Br} (hs:size b.body<2 ^ 37) (hl:b.bounds.length<2 ^ 30) (hx:∀t∈b.bounds,o8 R t (X t)) {x:AV} (jV:CP b x):AL (env R) 51 [x] λr=>r=BB (Qr b&&b.bounds.all λb=>Dp (X b)):=by
 obtain⟨x',h1,h2,h3⟩:=jV.closed;exact AL.open (args':=[x']) (by rfl) (by rfl) rfl h1 h2 (Yu hs hl hx h3)
end
end Go.Proofs.YtpgfpakdnijngaaGreatDoor
