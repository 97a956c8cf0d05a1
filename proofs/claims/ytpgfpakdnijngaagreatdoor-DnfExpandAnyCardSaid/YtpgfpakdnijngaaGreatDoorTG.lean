/-
  The reference: fill.
-/
import Derived.Test.YtpgfpakdnijngaaGreatDoorTF
import Derived.Test.YtpgfpakdnijngaaGreatDoorTE
set_option linter.all false
namespace Go.Proofs.YtpgfpakdnijngaaGreatDoor
open Go.Tel
mutual
theorem N1 {p:Int->Bool} (h:∀i,p i=true->-(2 ^ 60)<=i/\i<2 ^ 60):∀t:Ty,vP p t=true->Wy t=true
 | .mk k n i ts,ht=>by
  rw[vP] at ht;rw[Wy];cases h5:k==5 with
  | true=>
   grind
  | false=>
   rw[h5] at ht;cases h2:k==2||k==3 with
   | true=>
    rw[h2] at ht;exact mI h ts ht
   | false=>rfl
theorem mI {p:Int->Bool} (h:∀i,p i=true->-(2 ^ 60)<=i/\i<2 ^ 60):∀l:List Ty,RF p l=true->Qc l=true
 | [],_=>rfl
 | t::l,hl=>by
  simp only[RF,AG] at hl;rw[Qc,N1 h t hl.1,mI h l hl.2];rfl
end
theorem Mv {N:Nat} (hN:(N:Int)<2 ^ 50):∀i,SH N i=true->-(2 ^ 60)<=i/\i<2 ^ 60:=by grind[hole]
theorem LX {bs bs' X:List (List AV)} {n e:Nat} {c:List AV} (hn:n<=bs.length) (h1:bs.take n=X) (h2:bs'.take bs.length=bs.set e c):bs'.take n=X.set e c:=by
 have:=Bb (List.take n) h2
 grind[List.take_set]
theorem EZ.keep {lo:Nat} {bs bs':List (List AV)} {l:List Br} {a:AV} {e:Nat} {c d:List AV} (h:EZ lo bs l a) (he:bs[e]?=some c) (hc:c.length=2) (hT:bs'.take bs.length=bs.set e d):EZ lo bs' l a:=by
 rcases h with h|⟨id,rows,h1,h2,h3,h4,h5⟩
 .exact .inl h
 .refine .inr ⟨id,rows,h1,h2,?_,h4,h5⟩
  have hne:e≠id:=by grind[Hr]
  exact B6 hT (by grind)
structure MS (e:Nat) (x:Bool) (l:List Br) (s s':AL) (v:AV):Prop where
 TJ:EZ s.bs.length s'.bs l v
 tk:s'.bs.take s.bs.length=s.bs.set e [BB true,BB x]
 len:s.bs.length<=s'.bs.length
 ok:BM s'
 PC:CY (.AA []) (.AA []) s.ts s'.ts
def iL (o:Option (List Br)) (x x':Bool) (r:List Br):Prop:=(x=true->x'=true)/\(x=false->match o with
 | some m=>r=m/\x'=false
 | none=>x'=true)
section
variable {R:RT}
theorem mJ {e:Nat} {y t4 t7 acc:AV} {lo p:Nat} {l:List Br} {s:AL} (hy:EZ lo s.bs l y) (gE:s.bs[e]?=some [BB true,BB true]) {QR:QT} (h:QR acc s):UZ R 0 0 0 (.ptr e 0) y t4 t7 acc (AB p) s QR:=by
 refine iM (Al (n:=l.length) hy.A9 (Ai ?_));cases hd:decide ((p:Int)<(l.length:Nat)) with
 | true=>exact Am (Am (C1 (AP gE) (Am (AK (AP gE) (Am (AU (off:=1) gE rfl (Am (nt (pk (Aq (iP h)))))))))))
 | false=>exact Bm (Bm (Bm (Bm (Bm (pk (Aq (iP h)))))))
theorem ADq {e:Nat} {l:List Br} {W w S T:Nat} (hl:∀c∈l,MO W c/\c.bounds.length<=w) (hT:(T:Int)<hole) (hS:S<2 ^ 37) {f:Nat} {b:Br} {k:Nat} (hb:vP (SH b.bounds.length) b.body=true) (hk:GL b.body=some k) (hf:(Aj b.body).count hole<=f+1) (hbS:size b.body+(Aj b.body).count hole*W<=S) (hbT:b.bounds.length+(Aj b.body).count hole*w<=T) (hf2:f<2 ^ 27) (SA:l.length<2 ^ 30)
  {lo:Nat} {y:AV} {rb:List AV} (hrb:CM b (.agg rb))
  (ih:∀b':Br,vP (SH b'.bounds.length) b'.body=true->(Aj b'.body).count hole<=f->size b'.body+(Aj b'.body).count hole*W<=S->b'.bounds.length+(Aj b'.body).count hole*w<=T->∀x,CM b' x->∀s,BM s->∀L:A3,L.ro=0->L.rt=0->L.rr 130=true->s.bs[e]?=some [BB true,BB false]->EZ lo s.bs l y ->
   ∃v s',(∃r x',iL (Ed (AR 32) l f b') false x' r/\r.length<=33*(f+1)/\MS e x' r s s' v)/\BA (env R) L 130 [.ptr e 0,x,y] s v s')
  {s0:AL} (he:e<s0.bs.length) (hE0:s0.bs[e]?=some [BB true,BB false]) (hy0:EZ lo s0.bs l y) {o:Option (List Br)} {QR:QT}
  (hQ:∀bs tk acc r x',iL o false x' r->r.length<=33*(f+2)->BM ⟨bs,tk⟩->bs.take s0.bs.length=s0.bs.set e [BB true,BB x']->s0.bs.length<=bs.length->EZ s0.bs.length bs r acc->CY (.AA []) (.AA []) s0.ts tk->QR acc ⟨bs,tk⟩) :
  ∀(j p:Nat) (out:List Br) (bs:List (List AV)) (tk:List (Nat×Nat)) (acc:AV),p+j=l.length->IQ (AR 32) (λc=>Ed (AR 32) l f (Dp b k c)) (l.drop p) out=o->out.length<=32->BM ⟨bs,tk⟩->bs.take s0.bs.length=s0.bs.set e [BB true,BB false]->bs[s0.bs.length]?=some rb->s0.bs.length+1<=bs.length->EZ (s0.bs.length+1) bs out acc->CY (.AA []) (.AA []) s0.ts tk ->
   UZ R 0 0 0 (.ptr e 0) y (.ptr s0.bs.length 0) (AB k) acc (AB p) ⟨bs,tk⟩ QR:=by
 obtain⟨rb1,rb2,rb3⟩:=hrb.cells;intro j
 induction j with
 | zero=>
  intro p out bs tk acc hi EA hout hs Mw gb hlen hacc hch;have gE:bs[e]?=some [BB true,BB false]:=B6 Mw (by rw[CU he]);have hy:EZ lo bs l y:=hy0.keep hE0 rfl Mw;refine iM (Al (n:=l.length) hy.A9 (Ai ?_));rw[Aw (by omega)];rw[Bt (by omega),IQ] at EA;subst EA;exact Bm (Bm (Bm (Bm (Bm (pk (Aq (iP (hQ bs tk acc out false ⟨λh=>(by cases h),λ_=>⟨rfl,rfl⟩⟩ (by omega) hs Mw (by omega) (hacc.mono (by omega) λj c _ h=>h) hch))))))))
 | succ j D7=>
  intro p out bs tk acc hi EA hout hs Mw gb hlen hacc hch;have gE:bs[e]?=some [BB true,BB false]:=B6 Mw (by rw[CU he]);have hy:EZ lo bs l y:=hy0.keep hE0 rfl Mw;refine iM (Al (n:=l.length) hy.A9 (Ai ?_));rw[Ap (by omega)];obtain⟨c,hc⟩:∃c,l[p]?=some c:=⟨_,Ak (by omega)⟩;have N8:=A5 hc;obtain⟨hcG,hcw⟩:=hl c N8;rw[drop_cons hc,IQ] at EA;refine Am (Am (C1 (AP gE) (Am (AK (AP gE) (Am (AU (off:=1) gE rfl (Am (nt (pk (BH (AL5 (Ae gb rb1 (Qg hy hc λrc hrc=>?_)))))))))))))
  have hpos:0<(Aj b.body).count hole:=by
   have hfs:=GH hk
   grind
  have m0:1*w<=(Aj b.body).count hole*w:=CO _ hpos;have m3:1*W<=(Aj b.body).count hole*W:=CO _ hpos;have hbc:((b.bounds.length+c.bounds.length:Nat):Int)<hole:=by omega
  have hh:(hole:Int)=1073741824:=rfl;obtain⟨g1,g2,g3,g4⟩:=lU hb hk hcG hbc;have el:(Dp b k c).bounds.length=b.bounds.length+c.bounds.length:=by simp[Dp]
  have m1:(Aj b.body).count hole*W=(Aj (Dp b k c).body).count hole*W+W:=by rw[<-g3,K6]
  have m2:(Aj b.body).count hole*w=(Aj (Dp b k c).body).count hole*w+w:=by rw[<-g3,K6]
  obtain⟨v1,s1,⟨NG,w1,w2,rfl⟩,w3⟩:=iK (R:=R) (k:=k) g4 (by omega) (by have:=hcG.Wr; omega) (N1 (Mv (by omega)) _ hcG.ok) (by omega) hrb hrc (s:=⟨bs,tk⟩) hs (L:=Dh (env R) 130 0 0 0) rfl rfl;refine⟨_,_,w3,?_⟩;have hs1:BM ⟨bs,NG⟩:=hs;obtain⟨v2,s2,⟨r,x',hE,hrl,hR⟩,w5⟩:=ih (Dp b k c) g1 (by omega) (by omega) (by omega) v1 w1 ⟨bs,NG⟩ hs1 (Dh (env R) 130 0 0 0) rfl rfl (by rfl) gE hy;refine⟨_,_,w5,by decide,?_⟩;obtain⟨b2,M7⟩:=s2
  have Ia:b2.take s0.bs.length=s0.bs.set e [BB true,BB x']:=by
   have:=LX (n:=s0.bs.length) (by omega) Mw hR.tk;rwa [Hw] at this
  have mK:bs.length<=b2.length:=hR.len;have gb2:b2[s0.bs.length]?=some rb:=B6 hR.tk (by grind);have J2:EZ (s0.bs.length+1) b2 out acc:=hacc.keep gE rfl hR.tk;have P0:EZ (s0.bs.length+1) b2 r v2:=hR.TJ.mono hlen λj c _ h=>h
  refine ZA J2 P0 rfl (by omega) (by grind) ?_;intro a' b3 q1 q2 q3 q4;have hs3:=q4 hR.ok
  have mL:∀j c,j<s0.bs.length+1->b2[j]?=some c->b3[j]?=some c:=by
   intro j c hj hjc;refine q2 j c (λn ha=>?_) hjc;rcases J2 with ⟨h1,_⟩|⟨id,rows,h1,h2,_⟩
   all_goals grind
  have T4:b3.take s0.bs.length=s0.bs.set e [BB true,BB x']:=by
   rw[<-Ia];refine G9 λj=>?_
   grind
  have RV:b3[e]?=some [BB true,BB x']:=B6 T4 (by rw[CU he]);have gb3:b3[s0.bs.length]?=some rb:=mL _ _ (by omega) gb2;have Nu:CY (.AA []) (.AA []) s0.ts M7:=(hch.trans w2).trans hR.PC;have mM:s0.bs.length+1<=b3.length:=by grind
  have hy3:EZ lo b3 l y:=hy0.keep hE0 rfl T4;have Lj:EZ s0.bs.length b3 (out++r) a':=q1.mono (by omega) λj c _ h=>h
  refine C1 (AP RV) (AK (AP RV) (AU (off:=0) RV rfl (Am (Am (Al (n:=(out++r).length) q1.A9 (Am (Gk (pk ?_))))))));have eb:decide (((out++r).length:Int)>32)=AR 32 (out++r).length:=by grind
  rw[eb]
  have xp:∀(b4:List (List AV)),BM ⟨b4,M7⟩->b4.take s0.bs.length=s0.bs.set e [BB true,BB true]->s0.bs.length+1<=b4.length->EZ s0.bs.length b4 (out++r) a'->o=none->ZB R 0 0 0 (.ptr e 0) y (.ptr s0.bs.length 0) (AB k) a' (AB p) ⟨b4,M7⟩ QR:=by
   intro b4 h1 h2 h3 h4 h5;refine iQ (Ba (by omega) (by omega) ?_);have gE4:b4[e]?=some [BB true,BB true]:=B6 h2 (by rw[CU he]);have:=mJ (R:=R) (t4:=.ptr s0.bs.length 0) (t7:=AB k) (acc:=a') (p:=p+1) (s:=⟨b4,M7⟩) (hy0.keep hE0 rfl h2) gE4 (hQ b4 M7 a' (out++r) true ⟨λ_=>rfl,λ_=>by rw[h5]⟩ (by grind) h1 h2 (by omega) h4 Nu)
   grind
  have ARK:o=none\/(x'=false/\AR 32 (out++r).length=false/\IQ (AR 32) (λc=>Ed (AR 32) l f (Dp b k c)) (l.drop (p+1)) (out++r)=o)\/(x'=false/\AR 32 (out++r).length=true/\o=none):=by
   have hE2:=hE.2 rfl
   grind
  cases Ll:AR 32 (out++r).length with
  | true=>
   have ho:o=none:=by grind
   refine BH (C1 (AP RV) (AK (AP RV) (DG RV (by simp) rfl (AI _) rfl (.inl (AI _)) ?_)));have e1:[BB true,BB x'].set (0+1) (BB true)=[BB true,BB true]:=rfl;rw[e1];refine xp _ (BM.set (s:=⟨b3,M7⟩) hs3 rfl _) (by simp[*,EG]) (by grind) (Lj.keep RV rfl (d:=[BB true,BB true]) (by grind[List.take_of_length_le])) ho
  | false=>
   refine Aq ?_;rcases ARK with h|⟨rfl,h2,h3⟩|⟨_,h2,_⟩
   .cases x' with
    | true=>grind
    | false=>
     have hE2:=hE.2 rfl;cases hg:Ed (AR 32) l f (Dp b k c) with
     | none=>rw[hg] at hE2; cases hE2
     | some m=>
      rw[hg] at EA hE2;simp only at EA hE2;obtain⟨rfl,_⟩:=hE2;rw[Ll] at EA;simp only[AH] at EA;refine iQ (Ba (by omega) (by omega) ?_);have:=D7 (p+1) (out++r) b3 M7 a' (by omega) EA (by simpa[AR] using Ll) hs3 T4 gb3 mM q1 Nu;simpa using this
   .refine iQ (Ba (by omega) (by omega) ?_)
    have:=D7 (p+1) (out++r) b3 M7 a' (by omega) h3 (by simpa[AR] using h2) hs3 T4 gb3 mM q1 Nu;simpa using this
   .rw[Ll] at h2; cases h2
end
section
variable {R:RT}
theorem NP {e:Nat} {s0:AL} (hs0:BM s0) {bs:List (List AV)} {ts:List (Nat×Nat)} {l:List Br} {x:Bool} {v:AV} {Post:AV->AL->Prop} (hT:bs.take s0.bs.length=s0.bs.set e [BB true,BB x]) (hb:EZ s0.bs.length bs l v) (hch:CY (.AA []) (.AA []) s0.ts ts) (hP:∀v' s',MS e x l s0 s' v'->Post v' s'):QM true s0.bs.length Post v ⟨bs,ts⟩:=by
 refine AL4 (X:=s0.bs.set e [BB true,BB x]) (by simp) ?_ hT hb λv' bs' h1 h2 h3 h4=>hP v' ⟨bs',ts⟩ ⟨h1,h2,h3,h4,hch⟩
 have:=BM.set hs0 (c:=[BB true,BB x]) rfl ts (j:=e);intro b hb';have h1:=this b hb'
 grind
theorem pS {e:Nat} {l:List Br} {W w S T:Nat} (hl:∀c∈l,MO W c/\c.bounds.length<=w) (hT:(T:Int)<hole) (hS:S<2 ^ 37) (SA:l.length<2 ^ 30) {lo:Nat} {y:AV}:∀(f:Nat),f<=2 ^ 27->∀(b:Br),vP (SH b.bounds.length) b.body=true->(Aj b.body).count hole<=f->size b.body+(Aj b.body).count hole*W<=S->b.bounds.length+(Aj b.body).count hole*w<=T->∀x,CM b x->∀(exc:Bool) (s:AL),BM s->∀L:A3,L.ro=0->L.rt=0->L.rr 130=true->s.bs[e]?=some [BB true,BB exc]->EZ lo s.bs l y ->
  ∃v s',(∃r x',iL (Ed (AR 32) l f b) exc x' r/\r.length<=33*(f+1)/\MS e x' r s s' v)/\BA (env R) L 130 [.ptr e 0,x,y] s v s':=by
 intro f
 induction f with
 | zero=>
  intro _ b hb hf hbS hbT x hx exc s hs L hro Eb rC hE hy;have le:=(BL.1 hE).1;have same:s.bs.set e [BB true,BB exc]=s.bs:=by grind[List.set_getElem_self]
  obtain⟨row,rfl⟩:=hx.agg;obtain⟨c1,c2,c3⟩:=hx.cells;refine ARL (by rfl) ?_;rw[hro,Eb,rC];have g0:=Az s.bs row;refine xq (Bu (cs:=row) rfl c2 (Ae g0 c1 (AD (JX (by omega) hx) ?_)));rintro _ rfl;have hn:GL b.body=none:=by grind[GL]
  rw[W4,hn];refine Ai (BH (Ae g0 c1 (MQ hx ?_)));refine NP (x:=exc) (l:=[b]) hs (by grind) (.inr ⟨_,[row],by simp,rfl,by simp,⟨hx,Ab⟩,by simp⟩) (CY.refl _ _) λv' s' h=>⟨[b],exc,⟨λh=>h,λh=>?_⟩,by simp,h⟩
  grind[Ed]
 | succ f ih=>
  intro hf20 b hb hf hbS hbT x hx exc s hs L hro Eb rC hE hy;have le:=(BL.1 hE).1;have same:s.bs.set e [BB true,BB exc]=s.bs:=by grind[List.set_getElem_self]
  obtain⟨row,rfl⟩:=hx.agg;obtain⟨c1,c2,c3⟩:=hx.cells;refine ARL (by rfl) ?_;rw[hro,Eb,rC];have g0:=Az s.bs row;refine xq (Bu (cs:=row) rfl c2 (Ae g0 c1 (AD (JX (by omega) hx) ?_)));rintro _ rfl;rw[W4];have ZV:(s.bs++[row]).take s.bs.length=s.bs.set e [BB true,BB exc]:=by grind
  cases hk:GL b.body with
  | none=>
   refine Ai (BH (Ae g0 c1 (MQ hx ?_)));refine NP (x:=exc) (l:=[b]) hs (by grind) (.inr ⟨_,[row],by simp,rfl,by simp,⟨hx,Ab⟩,by simp⟩) (CY.refl _ _) λv' s' h=>⟨[b],exc,⟨λh=>h,λh=>?_⟩,by grind,h⟩
   grind[Ed]
  | some k=>
   simp only;refine Ai ?_;rw[Aw (by omega)];refine Aq (AL7 ?_);have hs1:BM ⟨s.bs++[row],s.ts⟩:=BM.app (s:=s) hs (c3 _);cases exc with
   | true=>
    have gE:=Av hE row
    have:=mJ (R:=R) (t4:=.ptr s.bs.length 0) (t7:=AB k) (acc:=.AA []) (p:=0) (s:=⟨s.bs++[row],s.ts⟩) (QR:=QM true s.bs.length (λv s'=>∃r x',iL (Ed (AR 32) l (f+1) b) true x' r/\r.length<=33*(f+1+1)/\MS e x' r s s' v)) (hy.mono (Ac _) λj c _ h=>Av h _) gE
     (NP (x:=true) (l:=[]) hs ZV (.inl ⟨rfl,rfl⟩) (CY.refl _ _) λv' s' h=>⟨[],true,⟨λ_=>rfl,λh=>(by cases h)⟩,by simp,h⟩)
    omega
   | false=>
    have:=ADq (R:=R) (f:=f) (k:=k) (o:=Ed (AR 32) l (f+1) b) (QR:=QM true s.bs.length (λv s'=>∃r x',iL (Ed (AR 32) l (f+1) b) false x' r/\r.length<=33*(f+1+1)/\MS e x' r s s' v)) hl hT hS hb hk hf hbS hbT (by omega) SA hx (λb' h1 h2 h3 h4 x hx s hs L q1 q2 q3 q4 q5=>ih (by omega) b' h1 h2 h3 h4 x hx false s hs L q1 q2 q3 q4 q5) le hE hy
     (λbs tk acc r x' h1 h2 h3 h4 h5 h6 h7=>NP hs h4 h6 h7 λv' s' h=>⟨r,x',h1,h2,h⟩) l.length 0 [] (s.bs++[row]) s.ts (.AA []) (by omega) (by grind[Ed]) (by simp) hs1 ZV g0 (by simp) (.inl ⟨rfl,rfl⟩) (CY.refl _ _)
    omega
theorem I5 {e:Nat} {l:List Br} {y:AV} {exc:Bool} {s:AL} (hs:BM s) (hE:s.bs[e]?=some [BB true,BB exc]) (hy:EZ 0 s.bs l y) {L:A3} (hro:L.ro=0) (Eb:L.rt=0) :
  ∃v s',(v=(bif exc||AR 32 l.length then .AA [] else y)/\s'=⟨s.bs.set e [BB true,BB (exc||AR 32 l.length)],s.ts⟩)/\BA (env R) L 99 [.ptr e 0,y] s v s':=by
 have le:=(BL.1 hE).1;refine m99 (by rfl) ?_;rw[hro,Eb];refine ARM (C1 (AP hE) (AK (AP hE) (AU (off:=0) hE rfl (Am (Am (Al (n:=l.length) hy.A9 (Am (Gk (pk ?_)))))))));have eb:decide ((l.length:Int)>32)=AR 32 l.length:=by grind
 rw[eb]
 have nil:∀(x:Bool) (bs:List (List AV)),x=(exc||AR 32 l.length)->x=true->bs=s.bs.set e [BB true,BB x]->mN R 0 0 0 (.ptr e 0) y ⟨bs,s.ts⟩ (QM (L.rr 99) s.bs.length λv s'=>v=(bif exc||AR 32 l.length then .AA [] else y)/\s'=⟨s.bs.set e [BB true,BB (exc||AR 32 l.length)],s.ts⟩):=by
  rintro x bs h1 rfl rfl;have gE:(s.bs.set e [BB true,BB true])[e]?=some [BB true,BB true]:=by rw[CU le]
  refine AFe (C1 (AP gE) (AK (AP gE) (AU (off:=1) gE rfl (BH ?_))));have hok:=BM.set hs (c:=[BB true,BB true]) rfl s.ts (j:=e);have etk:(s.bs.set e [BB true,BB true]).take s.bs.length=s.bs.set e [BB true,BB true]:=CL (by simp);refine⟨.AA [],⟨s.bs.set e [BB true,BB true],s.ts⟩,?_,by grind,by rw[<-h1]⟩;unfold HR
  have hall:(((s.bs.set e [BB true,BB true]).take s.bs.length).all (Ah s.bs.length))=true:=by
   rw[etk,C2];intro b hb;have:=hok b hb
   grind
  grind[HX,Tel.close]
 cases Np:AR 32 l.length with
 | true=>
  refine BH (C1 (AP hE) (AK (AP hE) (DG hE (by simp) rfl (AI _) rfl (.inl (AI _)) ?_)))
  grind
 | false=>
  rw[Np] at nil;refine Aq ?_;cases exc with
  | true=>exact nil true _ rfl rfl (by grind[List.set_getElem_self])
  | false=>
   have same:s.bs.set e [BB true,BB false]=s.bs:=by grind[List.set_getElem_self]
   refine AFe (C1 (AP hE) (AK (AP hE) (AU (off:=1) hE rfl (Aq (ARO ?_)))));have etk:s.bs.take s.bs.length=s.bs:=OE
   have hall:((s.bs.take s.bs.length).all (Ah s.bs.length))=true:=by
    rw[etk,C2];exact hs
   refine⟨y,⟨s.bs,s.ts⟩,?_,rfl,by grind⟩;unfold HR;rw[etk] at hall;simp only[etk,hall,AN];rcases hy with ⟨rfl,_⟩|⟨id,rows,h1,rfl,h2,h3,h4⟩
   all_goals grind[HX,Nat.le_of_ble_eq_true,Tel.close]
end
theorem ZC {L:A3} {s:AL} {id:Nat} {a:AV} {old cs:List AV} {K:AL->Prop} (hb:s.bs[id]?=some (a::old)) (ho:old.length=4) (hk:cs.length=4) (hro:L.ro<=id) (hok:cs.all BE=true) (hn:L.n0<=id) (h:K ⟨s.bs.set id (a::cs),s.ts⟩):Ci L s 4 (.ptr id (0+1)) (.agg cs) K:=by
 have hce:cellsOf (.agg cs)=cs:=rfl;simp only[Ci,hb,wO,hce];refine⟨⟨hk,by grind,hro,hok,.inl hn,by omega⟩,?_⟩
 match old,ho,cs,hk with
 | [o1,o2,o3,o4],_,[c1,c2,c3,c4],_=>exact h
def oX (exc:Bool) (o:Option (List Br)):Option (List Br):=bif exc then none else o
def ADr (R:RT) (e:Nat) (t:Ty) (o:Option (List Br)):Prop:=∀x,BV t x->∀(exc:Bool) (s:AL),BM s->∀L:A3,L.ro=0->L.rt=0->L.rr 49=true->s.bs[e]?=some [BB true,BB exc] ->
 ∃v s',MS e (oX exc o).isNone ((oX exc o).getD []) s s' v/\BA (env R) L 49 [.ptr e 0,x] s v s'
section
variable {R:RT}
theorem VR {e:Nat} {o:Option (List Br)} {b:Br} {Ec:Ty} {Wb W w T C:Nat} (hb:MO Wb b) (hC:(Aj b.body).length<=C) (hl:∀l,o=some l->(∀c∈l,MO W c/\c.bounds.length<=w)/\l.length<=32) (hT:(T:Int)<hole) (hbT:b.bounds.length+(Aj b.body).length*w<=T) (hS:Wb+C*W<2 ^ 37) (hWb:Wb<=2 ^ 27) (AL8:ADr R e Ec o) {x y:AV} (hx:CM b x) (hy:BV Ec y) {exc:Bool} {s:AL} (hs:BM s) {L:A3} (hro:L.ro=0) (Eb:L.rt=0) (rC:L.rr 100=true) (hE:s.bs[e]?=some [BB true,BB exc]) :
  ∃v s',(∃r x',iL (FO (AR 32) o Ec b) exc x' r/\r.length<=33*(2 ^ 27+1)/\MS e x' r s s' v)/\BA (env R) L 100 [.ptr e 0,x,y] s v s':=by
 have hh:(hole:Int)=1073741824:=rfl;have hsiz:=hb.Wr;have hcs:=Gz b.body;have YA:((b.bounds.length:Nat):Int)<hole:=by omega
 obtain⟨b1,b2,b3⟩:=AQR hb YA;obtain⟨r1,r2⟩:=AQS b1 YA;have le:=(BL.1 hE).1;have same:s.bs.set e [BB true,BB exc]=s.bs:=by grind[List.set_getElem_self]
 obtain⟨row,rfl⟩:=hx.agg;obtain⟨c1,c2,c3⟩:=hx.cells;obtain⟨yr,rfl⟩:=hy.agg;obtain⟨y1,y2,y3⟩:=hy.cells;obtain⟨xa,xb,hxe,T6,hxb⟩:=id hx;cases hxe;obtain⟨d1,d2,d3⟩:=hxb.cells;refine AXQ (by rfl) ?_;rw[hro,Eb,rC];refine AL9 (Bu (cs:=xa::xb) rfl c2 (Bu (cs:=yr) rfl y2 ?_));simp only[FY,Dx,Ce,CD,CT,CJ,CP,Nat.reduceAdd];have g0:(s.bs++[xa::xb,yr])[s.bs.length]?=some (xa::xb):=EY (j:=0) rfl rfl;have g1:(s.bs++[xa::xb,yr])[s.bs.length+1]?=some yr:=EY rfl rfl;have ZV:(s.bs++[xa::xb,yr]).take s.bs.length=s.bs.set e [BB true,BB exc]:=by grind
 have qv:(s.bs++[xa::xb,yr]).length=s.bs.length+2:=by simp
 have hok:BM ⟨s.bs++[xa::xb,yr],s.ts⟩:=by
  intro d hd;simp only[B9,A6,FZ,Fa] at hd
  show Ah (s.bs++_).length d=true
  rcases hd with hd|rfl|rfl
  .exact Bn (by simp) d (hs d hd)
  all_goals grind
 generalize s.bs++[xa::xb,yr]=bs at g0 g1 ZV qv hok;refine AK (AP g0) (AU (off:=0) g0 rfl (Al (n:=b.bounds.length) (by rw[T6.A9,AQ]) (AK (AP g0) (N0 g0 d1 (AD (iJ (R:=R) b.bounds.length (t:=b.body) (by omega) (N1 (Mv (by omega)) _ hb.ok) hxb) ?_)))));intro vb OB;obtain⟨rb,rfl⟩:=OB.G6.agg;obtain⟨e1,e2,e3⟩:=OB.G6.cells;refine Bq (CG (Az bs Z4) e1 rfl (by decide) (AI _) e2 (.inl (AI _)) ?_);have es:(bs++[Z4]).set bs.length rb=bs++[rb]:=by simp
 show FC _ ⟨(bs++[Z4]).set bs.length rb,s.ts⟩ _ _ _
 rw[es];have g2:=Az bs rb;have rL:=Av g0 rb;have g1':=Av g1 rb;have ARP:BM ⟨bs++[rb],s.ts⟩:=BM.app (s:=⟨bs,s.ts⟩) hok (e3 _);have SD:(bs++[rb]).take s.bs.length=s.bs.set e [BB true,BB exc]:=(D1 (by omega) rb).trans ZV;have dz:(bs++[rb]).length=s.bs.length+3:=by grind
 rw[qv] at g2 ⊢;generalize bs++[rb]=o8 at g2 rL g1' ARP SD dz;have gE:o8[e]?=some [BB true,BB exc]:=B6 SD (by rw[CU le]);refine Ae g2 e1 (AD (xo (R:=R) b.bounds.length (t:=JM b.bounds.length b.body) (by omega) OB.G6) ?_);rintro _ rfl
 have q0:FO (AR 32) o Ec b=bif oI (·==(b.bounds.length:Int)) (JM b.bounds.length b.body) then some [⟨b.bounds++[Ec],JM b.bounds.length b.body⟩]
   else match GL (Kg b.bounds.length hole (JM b.bounds.length b.body)) with
    | none=>some [⟨b.bounds,Kg b.bounds.length hole (JM b.bounds.length b.body)⟩]
    | some _=>match o with
     | none=>none
     | some l=>Ed (AR 32) l (Aj b.body).length ⟨b.bounds,Kg b.bounds.length hole (JM b.bounds.length b.body)⟩:=by rfl
 have one:∀(c:Br) (rc:List AV) (bs2:List (List AV)) (J1:List (Nat×Nat)),CM c (.agg rc)->FO (AR 32) o Ec b=some [c]->bs2.take s.bs.length=s.bs.set e [BB true,BB exc]->s.bs.length<=bs2.length->CY (.AA []) (.AA []) s.ts J1 ->
   QM true s.bs.length (λv s'=>∃r x',iL (FO (AR 32) o Ec b) exc x' r/\r.length<=33*(2 ^ 27+1)/\MS e x' r s s' v) (.ref bs2.length 0 1 5) ⟨bs2++[rc],J1⟩:=by
  intro c rc bs2 J1 h1 h2 h3 h4 h5;refine NP (x:=exc) (l:=[c]) hs ((D1 h4 rc).trans h3) (.inr ⟨_,[rc],h4,rfl,by simp,⟨h1,Ab⟩,by simp⟩) h5 λv' s' h=>⟨[c],exc,⟨λh=>h,λh=>?_⟩,by simp,h⟩
  grind
 cases ho:oI (·==(b.bounds.length:Int)) (JM b.bounds.length b.body) with
 | true=>
  rw[ho] at q0;simp only[AN] at q0;refine BH (ADp (AK (AP rL) (AU (off:=0) rL rfl ⟨by decide,Ew (es:=[]) (l:=b.bounds) (.inl rfl) rfl (by grind) T6 λa10 NG w1 w2=>?_⟩)));rw[Ce] at w1;refine Ae g1' y1 (FR hy ⟨by decide,Iy w1 rfl (by omega) λa13 J1 v1 v2=>?_⟩);have ES:CM ⟨b.bounds++[Ec],JM b.bounds.length b.body⟩ (.agg (a13::rb)):=⟨a13,rb,rfl,v1.A1,OB.G6⟩;refine Ae g2 e1 (IY (xm v1.A1.ok v1.A1.cells OB.G6) (MQ ES ⟨Ae g1' y1 (MR hy),Ae g2 e1 (MR OB.G6),Ae g2 e1 (MR OB.G6),?_⟩));exact one _ _ o8 J1 ES q0 SD (by omega) ((CY.refl (.AA []) s.ts).side w2 (DR.AA _ _) |>.side v2 w2.T5)
 | false=>
  rw[ho] at q0;simp only[AH] at q0;refine Aq (AMA (Ae g2 e1 (AD (LW (R:=R) b.bounds.length hole (t:=JM b.bounds.length b.body) (by omega) (N1 (Mv (by omega)) _ b1) OB.G6) ?_)));intro vr hvr;obtain⟨rr,rfl⟩:=hvr.G6.agg;obtain⟨f1,f2,f3⟩:=hvr.G6.cells;refine AK (AP rL) (ZC rL d1 f1 (AI _) f2 (AI _) ?_);have ES:CM ⟨b.bounds,Kg b.bounds.length hole (JM b.bounds.length b.body)⟩ (.agg (xa::rr)):=⟨xa,rr,rfl,T6,hvr.G6⟩;obtain⟨k1,k2,k3⟩:=ES.cells;have gb:(o8.set s.bs.length (xa::rr))[s.bs.length]?=some (xa::rr):=Bf rL;have gy:(o8.set s.bs.length (xa::rr))[s.bs.length+1]?=some yr:=BS g1' (by omega);have Ia:(o8.set s.bs.length (xa::rr)).take s.bs.length=s.bs.set e [BB true,BB exc]:=(C9 (Ac _)).trans SD;have Yt:BM ⟨o8.set s.bs.length (xa::rr),s.ts⟩:=BM.set (s:=⟨o8,s.ts⟩) ARP (k3 _) _;have Pb:(o8.set s.bs.length (xa::rr)).length=s.bs.length+3:=by grind
  generalize o8.set s.bs.length (xa::rr)=bs2 at gb gy Ia Yt Pb;have gE2:bs2[e]?=some [BB true,BB exc]:=B6 Ia (by rw[CU le]);refine Ae gb k1 (AD (JX (by grind) ES) ?_);rintro _ rfl;rw[W4];simp only;cases hk:GL (Kg b.bounds.length hole (JM b.bounds.length b.body)) with
  | none=>
   grind[Ai,BH,Ae,MQ,CY.refl]
  | some k=>
   rw[hk] at q0;simp only at q0 ⊢;refine Ai ?_;rw[Aw (by omega)];refine Aq (AMB (Ae gb k1 (Ae gy y1 ?_)));obtain⟨v1,s1,hR1,NW⟩:=AL8 (.agg yr) hy exc ⟨bs2,s.ts⟩ Yt (Dh (env R) 100 0 0 0) rfl rfl (by rfl) gE2;refine⟨_,_,NW,?_⟩;obtain⟨bs3,Ms⟩:=s1;have jf:bs2.length<=bs3.length:=hR1.len;have gb3:bs3[s.bs.length]?=some (xa::rr):=B6 hR1.tk (by grind);have RV:bs3[e]?=some [BB true,BB (oX exc o).isNone]:=B6 hR1.tk (by rw[CU (by grind)]);have Bi:(Aj (Kg b.bounds.length hole (JM b.bounds.length b.body))).length=(Aj b.body).length:=by simp[*,Nl,EO,TS]
   have TU:(Aj (Kg b.bounds.length hole (JM b.bounds.length b.body))).count hole<=(Aj b.body).length:=by grind
   have hl':∀c∈(oX exc o).getD [],MO W c/\c.bounds.length<=w:=by
    intro c hc;cases exc with
    | true=>cases hc
    | false=>
     cases ho':o with
     | none=>rw[ho'] at hc; cases hc
     | some l=>rw[ho'] at hc; exact(hl l ho').1 c hc
   have SA:((oX exc o).getD []).length<2 ^ 30:=by grind[oX]
   obtain⟨v2,s2,⟨r,x',hEO,hrl,hR2⟩,RL⟩:=pS (R:=R) (T:=T) (S:=Wb+C*W) hl' hT hS SA (Aj b.body).length (by omega) ⟨b.bounds,Kg b.bounds.length hole (JM b.bounds.length b.body)⟩ r1 TU (by
    have m1:(Aj (Kg b.bounds.length hole (JM b.bounds.length b.body))).count hole*W<=C*W:=CO _ (by omega)
    grind) (by
    have m1:(Aj (Kg b.bounds.length hole (JM b.bounds.length b.body))).count hole*w<=(Aj b.body).length*w:=CO _ TU
    grind) (.agg (xa::rr)) ES (oX exc o).isNone ⟨bs3,Ms⟩ hR1.ok (Dh (env R) 100 0 0 0) rfl rfl (by rfl) RV hR1.TJ
   refine⟨_,_,RL,Ae gb3 k1 ?_,?_⟩
   .simp[Tel.Bl,IM]
    exact⟨BJ.Bl T6,by have:=MR hvr.G6; assumption⟩
   .obtain⟨bs4,ts4⟩:=s2
    have hT4:bs4.take s.bs.length=s.bs.set e [BB true,BB x']:=by
     have h1:=LX (n:=s.bs.length) (by omega) Ia hR1.tk;rw[Hw] at h1;have h2:=LX (n:=s.bs.length) (by grind) h1 hR2.tk;rwa [Hw] at h2
    refine NP (x:=x') (l:=r) hs hT4 (hR2.TJ.mono (by grind) λj c _ h=>h) (hR1.PC.trans hR2.PC) λv' s' h=>⟨r,x',⟨λhe=>?_,λhe=>?_⟩,by omega,h⟩
    .subst he
     exact hEO.1 rfl
    .subst he
     rw[q0];cases ho':o with
     | none=>
      subst ho';exact hEO.1 rfl
     | some l=>
      subst ho';exact hEO.2 rfl
end
def HT (ls:List (List Br)):List (List PV):=ls.map λl=>[.list (l.map Da)]
theorem Kt (ls:List (List Br)):(HT ls).length=ls.length:=by simp[HT]
theorem Ku (b:Br):(Da b).length=5:=by simp[Da,Af]
theorem pT {a b:List AV} {p q:List PV} (ha:Co a=some p) (hb:Co b=some q):Co (a++b)=some (p++q):=by
 induction a generalizing p with
 | nil=>
  grind[Co]
 | cons x a ih=>
  grind[Co]
theorem CM.Co {b:Br} {row:List AV} (h:CM b (.agg row)):Co row=some (Da b):=by
 obtain⟨a,y,he,ha,ht⟩:=h;cases he;rcases hb:b.body with ⟨k,n,i,ts⟩
 rw[hb] at ht;obtain⟨a2,hy,S9⟩:=ht;cases hy
 have h1:Tel.Co [a,AB k,SS n,AB i,a2]=some [.list (AZ b.bounds),.sc (.int .i64 k),.sc (.string ⟨n.toArray⟩),.sc (.int .i64 i),.list (AZ ts)]:=by
  simp only[Tel.Co,ha.Ls,S9.Ls];rfl
 grind[Da,Ag]
theorem Ua {l:List Br} {rows:List (List AV)} (h:CV (λb row=>CM b (.agg row)) l rows):Co rows.flatten=some ((l.map Da).flatten):=by
 induction l generalizing rows with
 | nil=>
  cases rows with
  | nil=>rfl
  | cons _ _=>exact h.elim
 | cons b l ih=>
  cases rows with
  | nil=>exact h.elim
  | cons row rows=>
   rw[MX,CE,MX];exact pT h.1.Co (ih h.2)
theorem ARQ {a:AV} (ha:BE a=true) (hc:cellsOf a=[a]):FJ Z4 [(0,1,AB 3),(3,1,a)]=some [AB 3,SS [],AB 0,a]:=by simp_all[cellsOf,BE,FJ,setCells]
theorem AFf {E:Env} {s:AL} {c:Br} {K:AV->Prop} (h:K (.agg ((Ag c.body).map .pv))):FC E s (some 4) (.Cn (Da c) (0+1)) K:=by
 simp only[FC,Dn,xL,xM,xF,xG];refine⟨by simp[Da,Af],?_⟩
 have e:(((Da c).map AV.pv).drop (0+1)).take 4=(Ag c.body).map .pv:=by
  simp only[Da,CE,CP,List.drop_succ_cons,Jl];exact CL (by simp[Af])
 rw[e];exact h
theorem AFg {E:Env} {s:AL} {c:Br} {K:AV->Prop} (h:K (.pv (.list (AZ c.bounds)))):FC E s none (.Cn (Da c) (0+0)) K:=h
theorem mO {s:AL} {r:List PV} {off d:Nat} {K:AV->Prop} (h:K (.Cn r (off+d))):Ax s (.Cn r off) d K:=h
theorem PN (r:Br) (n:Nat):Tel.Bl (.Cn (Da r) n) (.Cn (Da r) n)=true:=by simp[*,Lu,Da,NA,DQ,On,Tel.Bl]
theorem MT:∀l:List Br,IV (l.map Da) (l.map Da)=true
 | []=>rfl
 | b::l=>by
  have:Lu (Da b) (Da b)=true:=by grind[Da,Lu,NA,DQ,On]
  simp[IV,this,MT l]
theorem W5 (l:List Br):Tel.Bl (.pv (.list (l.map Da))) (.pv (.list (l.map Da)))=true:=by
 simp[Tel.Bl,NA,MT]
theorem W6 (l:List Br):Tel.Bl (.Cn [.list (l.map Da)] 0) (.Cn [.list (l.map Da)] 0)=true:=by
 simp[Tel.Bl,Lu,NA,MT]
section
variable {R:RT}
theorem ADt {T:Nat} {e:Nat} {ls:List (List Br)} {i k j:Nat} {l outs next:List Br} {b c:Br} {args:List Ty} {W S:Nat} {t5 t9 t11:AV} (h5:BJ t5 (HT ls)) (hi:ls[i]?=some l) (hj:l[j]?=some c) (hk:outs[k]?=some b) (hb:MO S b) (hbe:b.body=.mk 3 [] 0 args) (hc:MO W c) (ow:b.bounds.length+c.bounds.length<=T) (hT:(T:Int)<hole) (hS:S<2 ^ 36) (hW:W<2 ^ 36) (N7:next.length<2 ^ 20)
  {N:Nat} {bs:List (List AV)} {tk:List (Nat×Nat)} (hN:N<=bs.length) (hs:BM ⟨bs,tk⟩) (h9:EZ 0 bs outs t9) (h11:EZ N bs next t11) {QR:QT}
  (hQ:∀a' bs' HP,EZ N bs' (next++[⟨b.bounds++c.bounds,.mk 3 [] 0 (args++[IB b.bounds.length c.body])⟩]) a'->BM ⟨bs',HP⟩->bs'.take N=bs.take N->N<=bs'.length->CY (.AA []) (.AA []) tk HP->iR R 0 0 0 (.ptr e 0) t5 t9 (AB i) a' (AB k) (AB j) ⟨bs',HP⟩ QR) :
  iT R 0 0 0 (.ptr e 0) t5 t9 (AB i) t11 (AB k) (AB j) ⟨bs,tk⟩ QR:=by
 have hh:(hole:Int)=1073741824:=rfl;have YA:=hb.Wr;rw[hbe] at YA;simp only[size] at YA;have hargs:=BQ args;have rE:(HT ls)[i]?=some [.list (l.map Da)]:=by grind[HT]
 have rB:(l.map Da)[j]?=some (Da c):=by grind
 have eix:∀n:Nat,(AB ((n:Nat):Int))=AB n:=λ_=>rfl
 have iU:∀(s:AL) (K:AV->Prop),K (.Cn [.list (l.map Da)] 0)->Bj s 1 t5 (AB i) K:=λs K h=>BR h5 (row:=[.list (l.map Da)]) (by omega) (by grind) rfl (by omega) h
 have ADu:∀(s:AL) (K:AV->Prop),K (.Cn (Da c) 0)->Bj s 5 (.pv (.list (l.map Da))) (AB j) K:=λs K h=>BK (.list _) (row:=Da c) (by omega) (by grind) (Ku c) (by omega) h
 refine AMC (Qg h9 hk λrb hrb=>?_);obtain⟨c1,c2,c3⟩:=hrb.cells;obtain⟨xa,xb,hxe,T6,hxb⟩:=id hrb;cases hxe;rw[hbe] at hxb;obtain⟨xg,hxg,AXT⟩:=hxb;cases hxg;refine Bq (PK (Az bs Z5) c1 (AI _) c2 (AI _) ?_);have es:(bs++[Z5]).set bs.length (xa::[AB 3,SS [],AB 0,xg])=bs++[xa::[AB 3,SS [],AB 0,xg]]:=by simp
 simp only;rw[es];have hlA:(bs++[xa::[AB 3,SS [],AB 0,xg]]).length=bs.length+1:=by simp
 have hs1:BM ⟨bs++[xa::[AB 3,SS [],AB 0,xg]]++[Z4],tk⟩:=BM.app (s:=⟨bs++[xa::[AB 3,SS [],AB 0,xg]],tk⟩) (BM.app (s:=⟨bs,tk⟩) hs (c3 _)) rfl;have gA:(bs++[xa::[AB 3,SS [],AB 0,xg]]++[Z4])[bs.length]?=some (xa::[AB 3,SS [],AB 0,xg]):=Av (Az bs _) _;have gX:(bs++[xa::[AB 3,SS [],AB 0,xg]]++[Z4])[bs.length+1]?=some Z4:=by simp
 have Pb:(bs++[xa::[AB 3,SS [],AB 0,xg]]++[Z4]).length=bs.length+2:=by simp
 have Ia:(bs++[xa::[AB 3,SS [],AB 0,xg]]++[Z4]).take N=bs.take N:=by
  rw[D1 (by omega),D1 hN]
 have ARR:EZ N (bs++[xa::[AB 3,SS [],AB 0,xg]]++[Z4]) next t11:=h11.mono (Ac _) λj c _ h=>Av (Av h _) _
 rw[hlA];generalize bs++[xa::[AB 3,SS [],AB 0,xg]]++[Z4]=b2 at hs1 gA gX Pb Ia ARR;have fA:∀(ts:List (Nat×Nat)) d,Ax ⟨b2,ts⟩ (.ptr bs.length 0) d λv=>Tel.Bl v (.ptr bs.length (0+d))=true:=λts d=>AK (AP gA) (EP _ _)
 refine ADp (AK (AP gA) (AK (AP gA) (AU (off:=4) gA rfl ⟨by decide,Ew (es:=[]) (l:=args) (.inl rfl) rfl (by grind) AXT λa73 NG w1 w2=>?_⟩)));rw[Ce] at w1;have hlen:∀(s:AL) (K:AV->Prop),K (AB b.bounds.length)->BO s xa K:=λs K h=>Al (n:=b.bounds.length) (by rw[T6.A9,AQ]) h
 refine iU _ _ (El (ADu _ _ (mO (AFf (AK (AP gA) (AU (off:=0) gA rfl (hlen _ _ (AD (Nz (R:=R) (n:=b.bounds.length) (by omega) c.body (by have:=hc.Wr; omega) (N1 (Mv (by omega)) _ hc.ok) _ (A7.BZ c.body)) ?_))))))));intro sv hsv;refine FR hsv.G6 ⟨by decide,Iy w1 rfl (by omega) λa87 J1 v1 v2=>?_⟩;have hx4:BV (.mk 3 [] 0 (args++[IB b.bounds.length c.body])) (.agg [AB 3,SS [],AB 0,a87]):=⟨a87,rfl,v1.A1⟩;obtain⟨k1,k2,k3⟩:=hx4.cells;refine IY (cs:=[AB 3,SS [],AB 0,a87]) (ARQ v1.A1.ok v1.A1.cells) (CG (s:=⟨b2,J1⟩) gX k1 rfl (by decide) (AI _) k2 (.inl (AI _)) ?_);have eqn:∀n:Int,Tel.Bl (AB n) (AB n)=true:=λn=>by simp[Tel.Bl,NA,GF]
 have eqz:∀ts:List (Nat×Nat),(wO (IL (.ptr (bs.length+1) 0)) λid=>wO (AL.mk b2 ts).bs[id]? λcs'=>IM cs' [(AB 0),(SS []),(AB 0),(.AA [])]=true):=by
  intro ts
  show(wO (AL.mk b2 ts).bs[bs.length+1]? λcs'=>IM cs' [(AB 0),(SS []),(AB 0),(.AA [])]=true)
  simp only[gX,wO];rfl
 refine⟨iU _ _ (W6 l),El (W5 l),ADu _ _ (PN c 0),mO (PN c _),AFf (MK _),fA _ 0,AU (off:=0) gA rfl (BJ.Bl T6),hlen _ _ (eqn _),eqz tk,eqz NG,eqz NG,eqz J1,?_⟩;have gA3:(b2.set (bs.length+1) [AB 3,SS [],AB 0,a87])[bs.length]?=some (xa::[AB 3,SS [],AB 0,xg]):=BS gA (by omega);have gX3:(b2.set (bs.length+1) [AB 3,SS [],AB 0,a87])[bs.length+1]?=some [AB 3,SS [],AB 0,a87]:=Bf gX;have hs3:BM ⟨b2.set (bs.length+1) [AB 3,SS [],AB 0,a87],J1⟩:=BM.set (s:=⟨b2,J1⟩) hs1 (k3 _) _;have T4:(b2.set (bs.length+1) [AB 3,SS [],AB 0,a87]).take N=bs.take N:=by grind[C9]
 have ARS:EZ N (b2.set (bs.length+1) [AB 3,SS [],AB 0,a87]) next t11:=by
  rcases ARR with h|⟨id,rows,q1,q2,q3,q4,q5⟩
  .exact .inl h
  .refine .inr ⟨id,rows,q1,q2,?_,q4,q5⟩
   grind[Hr,List.getElem?_set_ne]
 have jf:(b2.set (bs.length+1) [AB 3,SS [],AB 0,a87]).length=bs.length+2:=by grind
 generalize b2.set (bs.length+1) [AB 3,SS [],AB 0,a87]=b3 at gA3 gX3 hs3 T4 ARS jf;refine ADp (AK (AP gA3) (AU (off:=0) gA3 rfl ⟨by decide,Ew (es:=[]) (l:=b.bounds) (.inl rfl) rfl (by grind) T6 λa93 Ms x1 x2=>?_⟩));rw[Ce] at x1;refine iU _ _ (El (ADu _ _ (mO (AFg ⟨by decide,Ew x1 rfl (by omega) (.inl (.list _)) λpU ts4 y1 y2=>?_⟩))));have ES:CM ⟨b.bounds++c.bounds,.mk 3 [] 0 (args++[IB b.bounds.length c.body])⟩ (.agg (pU::[AB 3,SS [],AB 0,a87])):=⟨pU,_,rfl,y1.A1,hx4⟩;obtain⟨z1,z2,z3⟩:=ES.cells;refine Ae gX3 k1 (IY (xm y1.A1.ok y1.A1.cells hx4) (MQ ES ⟨by decide,?_⟩));have hs4:BM ⟨b3++[pU::[AB 3,SS [],AB 0,a87]],ts4⟩:=BM.app (s:=⟨b3,ts4⟩) hs3 (z3 _);have ART:EZ N (b3++[pU::[AB 3,SS [],AB 0,a87]]) next t11:=ARS.mono (Ac _) λj c _ h=>Av h _
 refine xK (s:=⟨b3++[pU::[AB 3,SS [],AB 0,a87]],ts4⟩) ES (Az b3 _) ART rfl (by omega) ?_ (by grind);intro a' bs' n1 n2 n3 n4 _;refine⟨iU _ _ (W6 l),El (W5 l),ADu _ _ (PN c 0),mO (PN c _),AFg (by simp[Tel.Bl,NA,DQ]),Ae gX3 k1 (MR hx4),Ae gX3 k1 (MR hx4),?_⟩;refine hQ a' bs' ts4 n1 (n4 hs4) ?_ (by omega) ?_
 .rw[<-T4]
  refine G9 λj=>?_
  by_cases hj:j<N
  .rw[Rs hj,Rs hj]
   have hj3:j<b3.length:=by omega
   have h1:(b3++[pU::[AB 3,SS [],AB 0,a87]])[j]?=some b3[j]:=by rw[CZ hj3,Ak hj3]
   rw[n2 j _ (λm h=>by
    rcases ART with ⟨h2,_⟩|⟨id,rows,h2,h3,_⟩
    all_goals grind) h1,Ak hj3]
  grind
 .exact((((CY.refl (.AA []) tk).side w2 (DR.AA _ _)).side v2 w2.T5).trans ((CY.refl (.AA []) J1).side x2 (DR.AA _ _) |>.side y2 x2.T5))
end
def prB (b c:Br):Br:=⟨b.bounds++c.bounds,match b.body with
 | .mk _ _ _ args=>.mk 3 [] 0 (args++[IB b.bounds.length c.body])⟩
theorem Ub (out l:List Br):HI out l=out.flatMap λb=>l.map (prB b):=rfl
theorem xu {b c:Br} {args:List Ty} (h:b.body=.mk 3 [] 0 args):prB b c=⟨b.bounds++c.bounds,.mk 3 [] 0 (args++[IB b.bounds.length c.body])⟩:=by
 rw[prB,h]
theorem EZ.ZD {lo N:Nat} {bs X:List (List AV)} {l:List Br} {a:AV} (h:EZ lo X l a) (hT:bs.take N=X):EZ lo bs l a:=
 h.mono (Ac _) λ_ _ _ hj=>B6 hT hj
section
variable {R:RT}
structure TpG (S N:Nat) (b:Br):Prop where
 g:MO S b
 n:b.bounds.length<=N
 t:∃args,b.body=.mk 3 [] 0 args
theorem xw {T e:Nat} {ls:List (List Br)} {i k:Nat} {l outs:List Br} {b:Br} {W S N w:Nat} {t5 t9:AV} (h5:BJ t5 (HT ls)) (hi:ls[i]?=some l) (hk:outs[k]?=some b) (hb:TpG S N b) (hl:∀c∈l,MO W c/\c.bounds.length<=w) (ow:N+w<=T) (hT:(T:Int)<hole) (hS:S<2 ^ 36) (hW:W<2 ^ 36) (SA:l.length<2 ^ 30) {X:List (List AV)} (h9:EZ 0 X outs t9) {OC:List (Nat×Nat)} {QR:QT} {M:Nat} (hM:M<2 ^ 20)
  {iV:List Br}
  (hQ:∀bs tk a,BM ⟨bs,tk⟩->bs.take X.length=X->X.length<=bs.length->EZ X.length bs (iV++l.map (prB b)) a->CY (.AA []) (.AA []) OC tk->iW R 0 0 0 (.ptr e 0) t5 t9 (AB i) a (AB k) ⟨bs,tk⟩ QR) (h0:iV.length+l.length<=M) :
  ∀(n j:Nat) (bs:List (List AV)) (tk:List (Nat×Nat)) (t11:AV),j+n=l.length->BM ⟨bs,tk⟩->bs.take X.length=X->X.length<=bs.length->EZ X.length bs (iV++(l.take j).map (prB b)) t11->CY (.AA []) (.AA []) OC tk ->
   ZE R 0 0 0 (.ptr e 0) t5 t9 (AB i) t11 (AB k) (AB j) ⟨bs,tk⟩ QR:=by
 have rE:(HT ls)[i]?=some [.list (l.map Da)]:=by grind[HT]
 have iU:∀(s:AL) (K:AV->Prop),K (.Cn [.list (l.map Da)] 0)->Bj s 1 t5 (AB i) K:=λs K h=>BR h5 (row:=[.list (l.map Da)]) (by omega) (by grind) rfl (by omega) h
 have hlen:∀(s:AL) (K:AV->Prop),K (AB l.length)->BO s (.pv (.list (l.map Da))) K:=λs K h=>Al (n:=l.length) (by simp[A9,rowsOf]) h
 intro n
 induction n with
 | zero=>
  intro j bs tk t11 hj hs Mw hN h11 hch;refine xx (iU _ _ (El (hlen _ _ (Ai ?_))));rw[Aw (by omega)];rw[CL (by omega)] at h11;exact Aq (hQ bs tk t11 hs Mw hN h11 hch)
 | succ n ih=>
  intro j bs tk t11 hj hs Mw hN h11 hch;refine xx (iU _ _ (El (hlen _ _ (Ai ?_))));rw[Ap (by omega)];obtain⟨c,hc⟩:∃c,l[j]?=some c:=⟨_,Ak (by omega)⟩;obtain⟨hcG,hcw⟩:=hl c (A5 hc);obtain⟨args,hargs⟩:=hb.t;have hbn:=hb.n;refine BH (ADt (T:=T) h5 hi hc hk hb.g hargs hcG (by omega) hT hS hW (next:=iV++(l.take j).map (prB b)) (by grind) hN hs (h9.ZD Mw) h11 ?_);intro a' bs' HP q1 q2 q3 q4 q5;refine AMD (Ba (by omega) (by omega) ?_);have e1:iV++(l.take j).map (prB b)++[⟨b.bounds++c.bounds,.mk 3 [] 0 (args++[IB b.bounds.length c.body])⟩]=iV++(l.take (j+1)).map (prB b):=by grind[List.take_add_one,xu]
  rw[e1] at q1;have:=ih (j+1) bs' HP a' (by omega) q2 (q3.trans Mw) q4 q1 (hch.trans q5)
  grind
theorem AME {T e:Nat} {ls:List (List Br)} {i:Nat} {l outs:List Br} {W S N w:Nat} {t5 t9:AV} (h5:BJ t5 (HT ls)) (hi:ls[i]?=some l) (ho:∀b∈outs,TpG S N b) (ZS:outs.length<=32) (hl:∀c∈l,MO W c/\c.bounds.length<=w) (ow:N+w<=T) (hT:(T:Int)<hole) (hS:S<2 ^ 36) (hW:W<2 ^ 36) (SA:l.length<=32) {X:List (List AV)} (h9:EZ 0 X outs t9) {OC:List (Nat×Nat)} {QR:QT}
  (hQ:∀bs tk a,BM ⟨bs,tk⟩->bs.take X.length=X->X.length<=bs.length->EZ X.length bs (HI outs l) a->CY (.AA []) (.AA []) OC tk->iX R 0 0 0 (.ptr e 0) t5 (AB i) a ⟨bs,tk⟩ QR) :
  ∀(n k:Nat) (bs:List (List AV)) (tk:List (Nat×Nat)) (t11:AV),k+n=outs.length->BM ⟨bs,tk⟩->bs.take X.length=X->X.length<=bs.length->EZ X.length bs (HI (outs.take k) l) t11->CY (.AA []) (.AA []) OC tk ->
   mP R 0 0 0 (.ptr e 0) t5 t9 (AB i) t11 (AB k) ⟨bs,tk⟩ QR:=by
 have AXX:∀o:List Br,(HI o l).length=o.length*l.length:=by
  intro o;rw[Ub]
  induction o with
  | nil=>simp
  | cons b o ih=>grind
 intro n
 induction n with
 | zero=>
  intro k bs tk t11 hk hs Mw hN h11 hch;refine xy (Al (n:=outs.length) (h9.ZD Mw).A9 (Ai ?_))
  grind[Aq]
 | succ n ih=>
  intro k bs tk t11 hk hs Mw hN h11 hch;refine xy (Al (n:=outs.length) (h9.ZD Mw).A9 (Ai ?_));rw[Ap (by omega)];obtain⟨b,hb⟩:∃c,outs[k]?=some c:=⟨_,Ak (by omega)⟩;refine BH (AMF ?_);have Kc:=AXX (outs.take k);rw[List.length_take] at Kc;have hmul:min k outs.length*l.length<=32*32:=OM (by omega) SA;refine xw (T:=T) (M:=2 ^ 12) h5 hi hb (ho b (A5 hb)) hl ow hT hS hW (by omega) h9 (OC:=OC) (by decide) (iV:=HI (outs.take k) l) ?_ (by omega) l.length 0 bs tk t11 (by omega) hs Mw hN (by grind) hch;intro bs' HP a q1 q2 q3 q4 q5;refine AMG (Ba (by omega) (by omega) ?_);have e1:HI (outs.take k) l++l.map (prB b)=HI (outs.take (k+1)) l:=by grind[Ub,List.take_add_one]
  grind
theorem ADw {e:Nat} {ls:List (List Br)} {t5:AV} (h5:BJ t5 (HT ls)) (SA:ls.length<2 ^ 40) {n0:Nat} {Y:List (List AV)} {OC:List (Nat×Nat)} (he:e<n0) {QR:QT}
  (hQ:∀bs tk,BM ⟨bs,tk⟩->bs.take n0=Y->n0<=bs.length->CY (.AA []) (.AA []) OC tk->QR (.AA []) ⟨bs,tk⟩) :
  ∀(n i:Nat) (bs:List (List AV)) (tk:List (Nat×Nat)),i+n=ls.length->BM ⟨bs,tk⟩->bs.take n0=Y->n0<=bs.length->bs[e]?=some [BB true,BB true]->CY (.AA []) (.AA []) OC tk->cy R 0 0 0 (.ptr e 0) t5 (.AA []) (AB i) ⟨bs,tk⟩ QR:=by
 intro n
 induction n with
 | zero=>
  intro i bs tk hi hs Mw hN hE hch;refine mQ (Al (n:=ls.length) (by rw[h5.A9,Kt]) (Ai ?_));rw[Aw (by omega)];exact Aq (AFh (hQ bs tk hs Mw hN hch))
 | succ n ih=>
  intro i bs tk hi hs Mw hN hE hch;refine mQ (Al (n:=ls.length) (by rw[h5.A9,Kt]) (Ai ?_));rw[Ap (by omega)];refine BH (AFi (xy (Al (n:=0) rfl (Ai ?_))));rw[Aw (by omega)];refine Aq (xz ?_);obtain⟨v,s',⟨rfl,rfl⟩,hc⟩:=I5 (R:=R) (e:=e) (l:=[]) (y:=.AA []) (exc:=true) (s:=⟨bs,tk⟩) hs hE (.inl ⟨rfl,rfl⟩) (L:=Dh (env R) 98 0 0 0) rfl rfl;refine⟨_,_,hc,x7 (Ba (by omega) (by omega) ?_)⟩;have e1:bs.set e [BB true,BB (true||AR 32 ([]:List Br).length)]=bs:=by grind[List.set_getElem_self]
  simp only[e1];have:=ih (i+1) bs tk (by omega) hs Mw hN hE hch
  grind
theorem cz {T e:Nat} (hT:(T:Int)<hole) {ls:List (List Br)} {t5:AV} (h5:BJ t5 (HT ls)) (SA:ls.length<2 ^ 40) {s0:AL} (he:e<s0.bs.length) {S:Nat} (hS:S<2 ^ 36) {o:Option (List Br)} {QR:QT}
  (hQ:∀bs tk a x' r,(x'=o.isNone/\r=o.getD [])->BM ⟨bs,tk⟩->bs.take s0.bs.length=s0.bs.set e [BB true,BB x']->s0.bs.length<=bs.length->EZ s0.bs.length bs r a->CY (.AA []) (.AA []) s0.ts tk->QR a ⟨bs,tk⟩) :
  ∀(rest:List (List Br)) (ws vs:List Nat) (i:Nat) (outs:List Br) (Sb N:Nat) (bs:List (List AV)) (tk:List (Nat×Nat)) (t9:AV),ls.drop i=rest->i<=ls.length->CV (λl w=>∀c∈l,MO w c) rest ws->CV (λl w=>∀c∈l,c.bounds.length<=w) rest vs->(∀l∈rest,l.length<=32)->JN (AR 32) rest outs=o->(∀b∈outs,TpG Sb N b)->outs.length<=32->Sb+ws.sum<=S->N+vs.sum<=T->BM ⟨bs,tk⟩->bs.take s0.bs.length=s0.bs.set e [BB true,BB false]->s0.bs.length<=bs.length->EZ s0.bs.length bs outs t9->CY (.AA []) (.AA []) s0.ts tk ->
   cy R 0 0 0 (.ptr e 0) t5 t9 (AB i) ⟨bs,tk⟩ QR
 | [],ws,vs,i,outs,Sb,N,bs,tk,t9,hd,AXY,_,_,_,ho,hG,ZS,hSb,hN,hs,Mw,hlen,h9,hch=>by
  have hi:ls.length<=i:=by simp_all
  refine mQ (Al (n:=ls.length) (by rw[h5.A9,Kt]) (Ai ?_));rw[Aw (by omega)];rw[JN] at ho;subst ho;exact Aq (AFh (hQ bs tk t9 false outs ⟨rfl,rfl⟩ hs Mw hlen h9 hch))
 | _::_,[],_,_,_,_,_,_,_,_,_,_,h,_,_,_,_,_,_,_,_,_,_,_,_=>h.elim
 | _::_,_::_,[],_,_,_,_,_,_,_,_,_,_,h,_,_,_,_,_,_,_,_,_,_,_=>h.elim
 | l::rest,w::ws,v::vs,i,outs,Sb,N,bs,tk,t9,hd,AXY,⟨hw,hws⟩,⟨hv,hvs⟩,pF,ho,hG,ZS,hSb,hN,hs,Mw,hlen,h9,hch=>by
  have hi:i<ls.length:=by grind
  have hli:ls[i]?=some l:=by
   have:=Bb (λl=>l[0]?) hd
   grind
  have hdr:ls.drop (i+1)=rest:=by
   rw[drop_cons hli] at hd
   grind
  rw[Mb] at hSb hN;have gE:bs[e]?=some [BB true,BB false]:=B6 Mw (by rw[CU he]);refine mQ (Al (n:=ls.length) (by rw[h5.A9,Kt]) (Ai ?_));rw[Ap (by omega)];rw[JN] at ho;refine BH (AFi ?_);refine AME (T:=T) (X:=bs) (OC:=tk) h5 hli hG ZS (λc hc=>⟨hw c hc,hv c hc⟩) (by omega) hT (by omega) (by omega) (pF l (by simp)) (h9.mono (AI _) λ_ _ _ h=>h) ?_ outs.length 0 bs tk (.AA []) (by omega) hs OE (Ac _) (.inl ⟨rfl,rfl⟩) (CY.refl _ _);intro b2 M7 a q1 q2 q3 q4 q5;have gE2:b2[e]?=some [BB true,BB false]:=B6 q2 gE;have Ia:b2.take s0.bs.length=s0.bs.set e [BB true,BB false]:=by grind
  obtain⟨v',s',⟨rfl,rfl⟩,hc⟩:=I5 (R:=R) (e:=e) (l:=HI outs l) (y:=a) (exc:=false) (s:=⟨b2,M7⟩) q1 gE2 (q4.mono (AI _) λ_ _ _ h=>h) (L:=Dh (env R) 98 0 0 0) rfl rfl;refine xz ⟨_,_,hc,x7 (Ba (by omega) (by omega) ?_)⟩;have ei:((i:Int)+1)=((i+1:Nat):Int):=by omega
  rw[ei];simp only[Ge];have Ln:=hch.trans q5;cases hb:AR 32 (HI outs l).length with
  | true=>
   rw[hb] at ho;simp only[AN] at ho ⊢;subst ho;refine ADw h5 SA (n0:=s0.bs.length) (Y:=s0.bs.set e [BB true,BB true]) (OC:=s0.ts) he ?_ (ls.length-(i+1)) (i+1) _ M7 (by omega) (BM.set (s:=⟨b2,M7⟩) q1 rfl _) (by simp[*,EG]) (by grind) (Bf gE2) Ln;intro bs' HP n1 n2 n3 n4;exact hQ bs' HP (.AA []) true [] ⟨rfl,rfl⟩ n1 n2 n3 (.inl ⟨rfl,rfl⟩) n4
  | false=>
   rw[hb] at ho;simp only[AH] at ho ⊢;have same:b2.set e [BB true,BB false]=b2:=by grind[List.set_getElem_self]
   rw[same];refine cz hT h5 SA he hS hQ rest ws vs (i+1) (HI outs l) (Sb+w) (N+v) b2 M7 a hdr (by omega) hws hvs (λl' h'=>pF l' (by grind)) ho ?_ (by grind) (by omega) (by omega) q1 Ia (by omega) (q4.mono hlen λ_ _ _ h=>h) Ln;intro b hbm;rw[Ub] at hbm;obtain⟨b0,h0,h1⟩:=OL.1 hbm;obtain⟨c,h2,rfl⟩:=C3.1 h1;obtain⟨g1,g2,args,g3⟩:=hG b0 h0;have hcw:=hv c h2;have:=wz g1 g3 (hw c h2) (by omega);rw[xu g3];exact⟨this,by grind,_,rfl⟩
end
attribute [local simp] Cl Bs Lf Lg AO Cw FJ wO setCells Ci FC Dn Dh Ax alive Cg GD I1 oU A8 DF BO Gx Dv Cz tM oV okB tN tP tQ tR tS eC tT tU tV tW tX tY tZ td th tj tq okF uA uB uC uD uE YE uF S0 S1 S2 S3 uG uH uI uJ rG uK uL uM uN uO Fz uP rH uQ uR uS uT uU uV uW uX uY uZ Co g0 g1 xI xL xM xF xG xC lf Y4 Y5
def AMH (R:RT) (e:Nat) (t:Ty) (o:Option (List Br)):Prop:=∀x,BV t x->∀(exc:Bool) (s:AL),BM s->∀L:A3,L.ro=0->L.rt=0->L.rr 49=false->s.bs[e]?=some [BB true,BB exc] ->
 ∃v s',(∃ts',Ao v (((oX exc o).getD []).map Da)/\CY (.AA []) (.AA []) s.ts ts'/\s'=⟨s.bs.set e [BB true,BB (oX exc o).isNone],ts'⟩)/\BA (env R) L 49 [.ptr e 0,x] s v s'
theorem ARU {l:List Br} {a:AV} (ha:Ao a (l.map Da)) {s:AL} {K:AV->AL->Prop} (hK:K (.AA [[.list (l.map Da)]]) s):Ct false s 1 [(.AA [])] 1 [(0,1,a)] K:=by
 have J8:BJ a (l.map Da):=.inl ha;simp[Ct,Fg,CR,J8.ok,AFM J8,J8.cells];omega
theorem AMI {L:A3} {s:AL} {a:AV} {os:List (List Br)} {p:List Br} {K:AV->AL->Prop} (ha:Dr 0 s.ts 32 a (HT os)) (Eb:L.rt=0) (hl:os.length<2 ^ 38) (h:∀a' ts',Dr 0 ts' 32 a' (HT (os++[p]))->CY a a' s.ts ts'->K a' ⟨s.bs,ts'⟩) :
  Cx false L s 32 1 24 a (.AA [[.list (p.map Da)]]) K:=by
 have h1:=Kt os;have hr:∀r∈HT os,r.length=1:=by grind[HT]
 have hm:∀r∈[[PV.list (p.map Da)]],r.length=1:=by simp
 refine QS (m:=[[.list (p.map Da)]]) ha Eb hr hm (by omega) (De (.inl (.AA _)) hm) (by simp) (by grind) (by grind) λa' ts' h3 h4=>h a' ts' ?_ h4
 grind[HT]
theorem Qh {α:Type}:∀{l:List (Option α)},none∈l->FP l=none
 | none::_,_=>rfl
 | some a::l,h=>by
  have:none∈l:=by grind
  rw[FP,Qh this]
section
variable {R:RT}
theorem x8 {e f:Nat} {k i0:Int} {nm:List UInt8} {ts:List Ty} {a:AV} (ha:BJ a (AZ ts)) (hl:ts.length<2 ^ 37) (ih:∀t∈ts,AMH R e t (DS (AR 32) f t)) {s0:AL} (he:e<s0.bs.length) {QR:QT}
  (hN:FP (ts.map (DS (AR 32) f))=none->∀bs tk,BM ⟨bs,tk⟩->bs.take s0.bs.length=s0.bs.set e [BB true,BB true]->s0.bs.length<=bs.length->CY (.AA []) (.AA []) s0.ts tk->QR (.AA []) ⟨bs,tk⟩)
  (hS:∀ls,FP (ts.map (DS (AR 32) f))=some ls->∀bs tk t5,BM ⟨bs,tk⟩->bs.take s0.bs.length=s0.bs.set e [BB true,BB false]->s0.bs.length<=bs.length->CY (.AA []) (.AA []) s0.ts tk->BJ t5 (HT ls)->x9 R 0 0 0 (.ptr e 0) t5 (BB (ls.any List.isEmpty)) ⟨bs,tk⟩ QR) :
  ∀(n p:Nat) (exc:Bool) (out:List (List Br)) (bs:List (List AV)) (tk:List (Nat×Nat)) (t5:AV),p+n=ts.length->out.length=p->(exc=false->(ts.take p).map (DS (AR 32) f)=out.map some)->(exc=true->none∈ts.map (DS (AR 32) f)/\out.any List.isEmpty=true)->BM ⟨bs,tk⟩->bs.take s0.bs.length=s0.bs.set e [BB true,BB exc]->s0.bs.length+1<=bs.length->bs[s0.bs.length]?=some [AB k,SS nm,AB i0,a]->Dr 0 tk 32 t5 (HT out)->CY (.AA []) (.AA []) s0.ts tk->DR t5 s0.ts ->
   mR R 0 0 0 (.ptr e 0) (.ptr s0.bs.length 0) t5 (BB (out.any List.isEmpty)) (AB p) ⟨bs,tk⟩ QR:=by
 intro n
 induction n with
 | zero=>
  intro p exc out bs tk t5 hp hop h0 h1 hs hT hlen g0 h5 hch hfr;refine AFj (AK (AP g0) (AU (off:=3) g0 rfl (Al (n:=ts.length) (by rw[ha.A9,AQ]) (Ai ?_))));rw[Aw (by omega)];refine Aq ?_;cases exc with
  | true=>
   obtain⟨h2,h3⟩:=h1 rfl;rw[h3];exact AFk (BH (hN (Qh h2) bs tk hs hT (by omega) hch))
  | false=>
   have h2:=h0 rfl;rw[CL (by omega)] at h2;refine hS out ?_ bs tk t5 hs hT (by omega) hch h5.A1;rw[h2]
   have gen:∀l:List (List Br),FP (l.map some)=some l:=by
    intro l
    induction l with
    | nil=>rfl
    | cons a l ih=>grind[FP]
   grind
 | succ n ihn=>
  intro p exc out bs tk t5 hp hop h0 h1 hs hT hlen g0 h5 hch hfr;refine AFj (AK (AP g0) (AU (off:=3) g0 rfl (Al (n:=ts.length) (by rw[ha.A9,AQ]) (Ai ?_))));rw[Ap (by omega)];obtain⟨t,ht⟩:∃c,ts[p]?=some c:=⟨_,Ak (by omega)⟩;have Uu:=A5 ht;have gE:bs[e]?=some [BB true,BB exc]:=B6 hT (by rw[CU he]);refine BH (ARV (AK (AP g0) (AU (off:=3) g0 rfl (BR ha (row:=Ag t) (by omega) (by grind[BG]) (Af _) (by omega) (Cd ?_)))));obtain⟨v,s',⟨ts',r1,r2,rfl⟩,r3⟩:=ih t Uu _ (A7.BZ t).G6 exc ⟨bs,tk⟩ hs (Dh (env R) 98 0 0 0) rfl rfl (by rfl) gE;refine⟨_,_,r3,?_⟩;have hs1:BM ⟨bs.set e [BB true,BB (oX exc (DS (AR 32) f t)).isNone],ts'⟩:=BM.set (s:=⟨bs,tk⟩) hs rfl _;have SD:(bs.set e [BB true,BB (oX exc (DS (AR 32) f t)).isNone]).take s0.bs.length=s0.bs.set e [BB true,BB (oX exc (DS (AR 32) f t)).isNone]:=by simp[*,EG]
  have g01:(bs.set e [BB true,BB (oX exc (DS (AR 32) f t)).isNone])[s0.bs.length]?=some [AB k,SS nm,AB i0,a]:=BS g0 (by omega);have dz:(bs.set e [BB true,BB (oX exc (DS (AR 32) f t)).isNone]).length=bs.length:=by simp
  generalize bs.set e [BB true,BB (oX exc (DS (AR 32) f t)).isNone]=b1 at hs1 SD g01 dz;have h51:=r2.keep h5 (λ_ h=>by cases h)
  have fin:Ct false ⟨b1,ts'⟩ 1 [(.AA [])] 1 [(0,1,v)] λa38 ou=>(1=1/\1≠0)/\Cx false (Dh (env R) 98 0 0 0) ou 32 1 24 t5 a38 λa39 ot=>
    yA R 0 0 0 (.ptr e 0) (.ptr s0.bs.length 0) a39 (BB (out.any List.isEmpty||((oX exc (DS (AR 32) f t)).getD []).isEmpty)) (AB p) ot QR:=by
   refine ARU r1 ⟨by decide,AMI h51 rfl (by omega) λt5' M7 x1 x2=>ARW (Ba (by omega) (by omega) ?_)⟩;have em:(ts.take (p+1)).map (DS (AR 32) f)=(ts.take p).map (DS (AR 32) f)++[DS (AR 32) f t]:=by grind[List.take_add_one]
   have ea:(out++[(oX exc (DS (AR 32) f t)).getD []]).any List.isEmpty=(out.any List.isEmpty||((oX exc (DS (AR 32) f t)).getD []).isEmpty):=by simp
   have:=ihn (p+1) (oX exc (DS (AR 32) f t)).isNone (out++[(oX exc (DS (AR 32) f t)).getD []]) b1 M7 t5' (by omega) (by grind) (λh=>by
    cases exc with
    | true=>cases h
    | false=>
     cases hb:DS (AR 32) f t with
     | none=>rw[hb] at h; cases h
     | some m=>
      grind[oX]) (λh=>by
    rw[ea];cases exc with
    | true=>
     grind
    | false=>
     cases hb:DS (AR 32) f t with
     | some m=>rw[hb] at h; cases h
     | none=>grind[oX]) hs1 SD (by omega) g01 x1 ((hch.trans r2).side x2 hfr) (hfr.PC x2 (CN hch.1 r2.1))
   grind
  have hvl:∀(s:AL) (K:AV->Prop),K (AB ((oX exc (DS (AR 32) f t)).getD []).length)->BO s v K:=λs K h=>Al (n:=((oX exc (DS (AR 32) f t)).getD []).length) (by rw[r1.A9,CC]) h
  cases xH:out.any List.isEmpty with
  | true=>
   grind[DJ,pk]
  | false=>
   rw[xH] at fin;refine Am (Am (hvl _ _ (Am (Ay (pk ?_)))))
   have e0:((((oX exc (DS (AR 32) f t)).getD []).length:Int)==0)=((oX exc (DS (AR 32) f t)).getD []).isEmpty:=by
    cases (oX exc (DS (AR 32) f t)).getD [] <;> simp;omega
   grind
def tpR (f:Nat) (ts:List Ty):Option (List Br):=match FP (ts.map (DS (AR 32) f)) with
 | none=>none
 | some ls=>bif ls.any List.isEmpty then some [] else JN (AR 32) ls [⟨[],.mk 3 [] 0 []⟩]
theorem iY {e f T S:Nat} (hT:(T:Int)<hole) (hS:S<2 ^ 36) {nm:List UInt8} {i0:Int} {ts:List Ty} (hl:ts.length<2 ^ 37) (ih:∀t∈ts,AMH R e t (DS (AR 32) f t)) (hG:∀t∈ts,∀l,DS (AR 32) f t=some l->l.length<=32/\∀c∈l,MO (wt t) c/\c.bounds.length<=bw t) (hSs:1+(ts.map wt).sum<=S) (ow:(ts.map bw).sum<=T)
  {x:AV} (hx:BV (.mk 3 nm i0 ts) x) {s:AL} (hs:BM s) {L:A3} (hro:L.ro=0) (Eb:L.rt=0) (rC:L.rr 98=true) (hE:s.bs[e]?=some [BB true,BB false]) :
  ∃v s',MS e (tpR f ts).isNone ((tpR f ts).getD []) s s' v/\BA (env R) L 98 [.ptr e 0,x] s v s':=by
 have le:=(BL.1 hE).1;have same:s.bs.set e [BB true,BB false]=s.bs:=by grind[List.set_getElem_self]
 have hxc:=hx;obtain⟨a,rfl,ha⟩:=hx;obtain⟨_,c2,c3⟩:=hxc.cells;refine m98 (by rfl) ?_;rw[hro,Eb,rC];have g0:=Az s.bs [AB 3,SS nm,AB i0,a];have hs1:BM ⟨s.bs++[[AB 3,SS nm,AB i0,a]],s.ts⟩:=BM.app (s:=s) hs (c3 _);have ZV:(s.bs++[[AB 3,SS nm,AB i0,a]]).take s.bs.length=s.bs.set e [BB true,BB false]:=by grind
 refine ARX (Bu (cs:=[AB 3,SS nm,AB i0,a]) rfl c2 ?_);have:=x8 (R:=R) (k:=3) (i0:=i0) (nm:=nm) ha hl ih le (QR:=QM true s.bs.length λv s'=>MS e (tpR f ts).isNone ((tpR f ts).getD []) s s' v) ?_ ?_ ts.length 0 false [] (s.bs++[[AB 3,SS nm,AB i0,a]]) s.ts (.AA []) (by omega) rfl (λ_=>rfl) (λh=>by cases h) hs1 ZV (by simp) g0 (.inl rfl) (CY.refl _ _) (DR.AA _ _)
 .grind
 .intro hn bs tk h1 h2 h3 h4
  have et:tpR f ts=none:=by rw[tpR,hn]
  rw[et];exact NP (x:=true) (l:=[]) hs h2 (.inl ⟨rfl,rfl⟩) h4 λv' s' h=>h
 .intro ls hls bs tk t5 h1 h2 h3 h4 h5
  have et:tpR f ts=bif ls.any List.isEmpty then some [] else JN (AR 32) ls [⟨[],.mk 3 [] 0 []⟩]:=by rw[tpR,hls]
  rw[et];refine AFk ?_;cases xH:ls.any List.isEmpty with
  | true=>exact BH (NP (x:=false) (l:=[]) hs h2 (.inl ⟨rfl,rfl⟩) h4 λv' s' h=>h)
  | false=>
   simp only[AH];have hal:=Kk hls;have ES:CM ⟨[],.mk 3 [] 0 []⟩ (.agg [.AA [],AB 3,SS [],AB 0,.AA []]):=⟨.AA [],_,rfl,.inl (.AA _),⟨.AA [],rfl,.inl (.AA _)⟩⟩;refine Aq (ARY (IY (cs:=[AB 3,SS [],AB 0,.AA []]) rfl (IY (cs:=[.AA [],AB 3,SS [],AB 0,.AA []]) rfl (MQ ES ?_))));have hlsl:ls.length=ts.length:=by have:=hal.length; omega
   have:=cz (R:=R) (T:=T) hT (t5:=t5) h5 (by omega) (s0:=s) le (S:=S) hS (o:=JN (AR 32) ls [⟨[],.mk 3 [] 0 []⟩]) (QR:=QM true s.bs.length λv s'=>MS e (JN (AR 32) ls [⟨[],.mk 3 [] 0 []⟩]).isNone ((JN (AR 32) ls [⟨[],.mk 3 [] 0 []⟩]).getD []) s s' v) ?_ ls (ts.map wt) (ts.map bw) 0 [⟨[],.mk 3 [] 0 []⟩] 1 0 (bs++[[.AA [],AB 3,SS [],AB 0,.AA []]]) tk (.ref bs.length 0 1 5) rfl (by omega)
    (hal.JP λt l hm hg c hc=>((hG t hm l hg).2 c hc).1) (hal.JP λt l hm hg c hc=>((hG t hm l hg).2 c hc).2) (λl hm=>by
     obtain⟨t,ht,hg⟩:=hal.Mo l hm
     grind) rfl (λb hb=>by
     rw[E5.1 hb];exact⟨⟨rfl,by simp[size,AY],rfl⟩,by simp,_,rfl⟩) (by simp) hSs (by omega) (BM.app (s:=⟨bs,tk⟩) h1 rfl) ((D1 h3 _).trans h2) (by grind) (.inr ⟨bs.length,[[.AA [],AB 3,SS [],AB 0,.AA []]],h3,rfl,by simp,⟨ES,Ab⟩,by simp⟩) h4
   all_goals grind[NP]
end
theorem AFl {ds:List AV} {t:Ty} (h:BV t (.agg ds)):FJ Z5 [(1,4,.agg ds)]=some (.AA []::ds):=by
 obtain⟨c1,c2,_⟩:=h.cells
 match ds,c1,c2 with
 | [d1,d2,d3,d4],_,c2=>
  simp[*,cellsOf,FJ,setCells]
theorem yB {α:Type} {l:List (Option α)} {a:α} {r:List α} (h:FP l=some r):FP (l++[some a])=some (r++[a]):=by
 induction l generalizing r with
 | nil=>
  grind[FP]
 | cons x l ih=>
  cases x with
  | none=>grind[FP]
  | some y=>
   grind[FP]
section
variable {R:RT}
theorem yC {e:Nat} {l:List Br} {y:AV} {exc:Bool} {s0:AL} (he:e<s0.bs.length) {bs:List (List AV)} {tk:List (Nat×Nat)} (hs:BM ⟨bs,tk⟩) (hT:bs.take s0.bs.length=s0.bs.set e [BB true,BB exc]) (hlen:s0.bs.length<=bs.length) (hy:EZ s0.bs.length bs l y) (hch:CY (.AA []) (.AA []) s0.ts tk) {o:Option (List Br)} (ho:o=bif exc||AR 32 l.length then none else some l) {QR:QT}
  (hQ:∀bs tk a x' r,(x'=o.isNone/\r=o.getD [])->BM ⟨bs,tk⟩->bs.take s0.bs.length=s0.bs.set e [BB true,BB x']->s0.bs.length<=bs.length->EZ s0.bs.length bs r a->CY (.AA []) (.AA []) s0.ts tk->QR a ⟨bs,tk⟩) :
  GM (env R) (Dh (env R) 49 0 0 0) (.func (.func 99) [] []) [.ptr e 0,y] ⟨bs,tk⟩ λa94 pR=>QR a94 pR:=by
 have gE:bs[e]?=some [BB true,BB exc]:=B6 hT (by rw[CU he]);obtain⟨v,s',⟨rfl,rfl⟩,hc⟩:=I5 (R:=R) (e:=e) (l:=l) (y:=y) (exc:=exc) (s:=⟨bs,tk⟩) hs gE (hy.mono (AI _) λ_ _ _ h=>h) (L:=Dh (env R) 49 0 0 0) rfl rfl;refine⟨_,_,hc,?_⟩;have Ia:(bs.set e [BB true,BB (exc||AR 32 l.length)]).take s0.bs.length=s0.bs.set e [BB true,BB (exc||AR 32 l.length)]:=by simp[*,EG]
 have hs2:BM ⟨bs.set e [BB true,BB (exc||AR 32 l.length)],tk⟩:=BM.set (s:=⟨bs,tk⟩) hs rfl _;cases hb:exc||AR 32 l.length with
 | true=>
  rw[hb] at ho Ia hs2;subst ho;exact hQ _ tk _ true [] ⟨rfl,rfl⟩ hs2 Ia (by grind) (.inl ⟨rfl,rfl⟩) hch
 | false=>
  rw[hb] at ho Ia hs2;subst ho;exact hQ _ tk _ false l ⟨rfl,rfl⟩ hs2 Ia (by grind) (hy.keep gE rfl (d:=[BB true,BB false]) (by grind[List.take_of_length_le])) hch
theorem ARZ {e f:Nat} {i0:Int} {nm:List UInt8} {ts:List Ty} {a:AV} (ha:BJ a (AZ ts)) (hl:ts.length<2 ^ 30) (ih:∀t∈ts,ADr R e t (DS (AR 32) f t)) (hG:∀t∈ts,∀l,DS (AR 32) f t=some l->l.length<=32) {s0:AL} (he:e<s0.bs.length) {o:Option (List Br)} (ho:o=match FP (ts.map (DS (AR 32) f)) with
   | none=>none
   | some ls=>bif AR 32 ls.flatten.length then none else some ls.flatten) {QR:QT}
  (hQ:∀bs tk a x' r,(x'=o.isNone/\r=o.getD [])->BM ⟨bs,tk⟩->bs.take s0.bs.length=s0.bs.set e [BB true,BB x']->s0.bs.length<=bs.length->EZ s0.bs.length bs r a->CY (.AA []) (.AA []) s0.ts tk->QR a ⟨bs,tk⟩) :
  ∀(n p:Nat) (exc:Bool) (out:List Br) (bs:List (List AV)) (tk:List (Nat×Nat)) (t5:AV),p+n=ts.length->(exc=false->∃lss,FP ((ts.take p).map (DS (AR 32) f))=some lss/\lss.flatten=out)->(exc=true->none∈ts.map (DS (AR 32) f))->out.length<=32*p->BM ⟨bs,tk⟩->bs.take s0.bs.length=s0.bs.set e [BB true,BB exc]->s0.bs.length+1<=bs.length->bs[s0.bs.length]?=some [AB 4,SS nm,AB i0,a]->EZ (s0.bs.length+1) bs out t5->CY (.AA []) (.AA []) s0.ts tk ->
   mS R 0 0 0 (.ptr e 0) (.ptr s0.bs.length 0) t5 (AB p) ⟨bs,tk⟩ QR:=by
 intro n
 induction n with
 | zero=>
  intro p exc out bs tk t5 hp h0 h1 ZS hs hT hlen g0 h5 hch;refine AFm (AK (AP g0) (AU (off:=3) g0 rfl (Al (n:=ts.length) (by rw[ha.A9,AQ]) (Ai ?_))));rw[Aw (by omega)];refine Aq (ARa (yC he hs hT (by omega) (h5.mono (by omega) λ_ _ _ h=>h) hch (o:=o) ?_ hQ))
  grind[Qh]
 | succ n ihn=>
  intro p exc out bs tk t5 hp h0 h1 ZS hs hT hlen g0 h5 hch;refine AFm (AK (AP g0) (AU (off:=3) g0 rfl (Al (n:=ts.length) (by rw[ha.A9,AQ]) (Ai ?_))));rw[Ap (by omega)];obtain⟨t,ht⟩:∃c,ts[p]?=some c:=⟨_,Ak (by omega)⟩;have Uu:=A5 ht;have gE:bs[e]?=some [BB true,BB exc]:=B6 hT (by rw[CU he]);refine BH (ARb (AK (AP g0) (AU (off:=3) g0 rfl (BR ha (row:=Ag t) (by omega) (by grind[BG]) (Af _) (by omega) (Cd ?_)))));obtain⟨v,s',hR,r3⟩:=ih t Uu _ (A7.BZ t).G6 exc ⟨bs,tk⟩ hs (Dh (env R) 49 0 0 0) rfl rfl (by rfl) gE;obtain⟨b2,M7⟩:=s';have mK:bs.length<=b2.length:=hR.len
  have Ia:b2.take s0.bs.length=s0.bs.set e [BB true,BB (oX exc (DS (AR 32) f t)).isNone]:=by
   have:=LX (n:=s0.bs.length) (by omega) hT hR.tk;rwa [Hw] at this
  have rK:b2[s0.bs.length]?=some [AB 4,SS nm,AB i0,a]:=B6 hR.tk (by grind);have h52:EZ (s0.bs.length+1) b2 out t5:=h5.keep gE rfl hR.tk;have P0:EZ (s0.bs.length+1) b2 ((oX exc (DS (AR 32) f t)).getD []) v:=hR.TJ.mono hlen λj c _ h=>h
  have hrl:((oX exc (DS (AR 32) f t)).getD []).length<=32:=by
   cases exc with
   | true=>simp[oX]
   | false=>
    cases hb:DS (AR 32) f t with
    | none=>simp[oX]
    | some l=>grind[oX]
  refine⟨_,_,r3,by decide,ZA h52 P0 rfl (by omega) (by grind) ?_⟩;intro a' b3 q1 q2 q3 q4;have hs3:=q4 hR.ok
  have mL:∀j c,j<s0.bs.length+1->b2[j]?=some c->b3[j]?=some c:=by
   intro j c hj hjc;refine q2 j c (λn ha=>?_) hjc;rcases h52 with ⟨h1,_⟩|⟨id,rows,h1,h2,_⟩
   all_goals grind
  have T4:b3.take s0.bs.length=s0.bs.set e [BB true,BB (oX exc (DS (AR 32) f t)).isNone]:=by
   rw[<-Ia];refine G9 λj=>?_
   grind
  refine AMJ (Ba (by omega) (by omega) ?_);have em:(ts.take (p+1)).map (DS (AR 32) f)=(ts.take p).map (DS (AR 32) f)++[DS (AR 32) f t]:=by grind[List.take_add_one]
  have:=ihn (p+1) (oX exc (DS (AR 32) f t)).isNone (out++(oX exc (DS (AR 32) f t)).getD []) b3 M7 a' (by omega) (λh=>by
   cases exc with
   | true=>cases h
   | false=>
    cases hb:DS (AR 32) f t with
    | none=>rw[hb] at h; cases h
    | some m=>
     obtain⟨lss,h2,h3⟩:=h0 rfl;refine⟨lss++[m],by grind[yB],?_⟩
     grind[oX]) (λh=>by
   cases exc with
   | true=>grind
   | false=>
    cases hb:DS (AR 32) f t with
    | some m=>rw[hb] at h; cases h
    | none=>grind) (by grind) hs3 T4 (by grind) (mL _ _ (by omega) rK) q1 (hch.trans hR.PC)
  grind
theorem ARc {e:Nat} {i0:Int} {nm:List UInt8} {Ec body:Ty} {a:AV} (ha:BJ a (AZ [Ec,body])) {ob:Option (List Br)} {l:List Br} {t8:AV} {lo:Nat} {Wb W w T C:Nat} (hlG:∀b∈l,MO Wb b/\(Aj b.body).length<=C/\b.bounds.length+(Aj b.body).length*w<=T) (hob:∀l,ob=some l->(∀c∈l,MO W c/\c.bounds.length<=w)/\l.length<=32) (hT:(T:Int)<hole) (hS:Wb+C*W<2 ^ 37) (hWb:Wb<=2 ^ 27) (AL8:ADr R e Ec ob) (SA:l.length<=32)
  {s0:AL} (he:e<s0.bs.length) {o:Option (List Br)} {x0:Bool} (ho:o=bif x0 then none else IQ (AR 32) (FO (AR 32) ob Ec) l []) {QR:QT} {X:List (List AV)} (hX1:X.take s0.bs.length=s0.bs.set e [BB true,BB x0]) (hXl:s0.bs.length+1<=X.length) (hX8:EZ lo X l t8) (hXg:X[s0.bs.length]?=some [AB 6,SS nm,AB i0,a])
  (hQ:∀bs tk a x' r,(x'=o.isNone/\r=o.getD [])->BM ⟨bs,tk⟩->bs.take s0.bs.length=s0.bs.set e [BB true,BB x']->s0.bs.length<=bs.length->EZ s0.bs.length bs r a->CY (.AA []) (.AA []) s0.ts tk->QR a ⟨bs,tk⟩) :
  ∀(n p:Nat) (exc:Bool) (out:List Br) (bs:List (List AV)) (tk:List (Nat×Nat)) (t7:AV),p+n=l.length->(exc=false->x0=false/\IQ (AR 32) (FO (AR 32) ob Ec) (l.drop p) out=o/\out.length<=32)->(exc=true->o=none)->out.length<=32+p*(33*(2 ^ 27+1))->BM ⟨bs,tk⟩->bs.take X.length=X.set e [BB true,BB exc]->X.length<=bs.length->EZ X.length bs out t7->CY (.AA []) (.AA []) s0.ts tk ->
   mT R 0 0 0 (.ptr e 0) (.ptr s0.bs.length 0) t7 t8 (AB p) ⟨bs,tk⟩ QR:=by
 have heX:e<X.length:=by omega
 have hXe:X[e]?=some [BB true,BB x0]:=B6 hX1 (by rw[CU he])
 have down:∀(bs:List (List AV)) (x:Bool),bs.take X.length=X.set e [BB true,BB x]->bs.take s0.bs.length=s0.bs.set e [BB true,BB x]:=by
  intro bs x h;have:=Bb (List.take s0.bs.length) h
  grind[List.take_set,List.set_set]
 have yD:∀(bs:List (List AV)) (x:Bool),bs.take X.length=X.set e [BB true,BB x]->EZ lo bs l t8:=λbs x h=>hX8.keep hXe rfl h
 have ARd:∀(bs:List (List AV)) (x:Bool),bs.take X.length=X.set e [BB true,BB x]->bs[s0.bs.length]?=some [AB 6,SS nm,AB i0,a]:=λbs x h=>B6 h (by grind)
 intro n
 induction n with
 | zero=>
  intro p exc out bs tk t7 hp h0 h1 ZS hs Mw hlen h7 hch;refine AFn (Al (n:=l.length) (yD bs exc Mw).A9 (Ai ?_));rw[Aw (by omega)];refine Aq (ARe (yC he hs (down bs exc Mw) (by omega) (h7.mono (by omega) λ_ _ _ h=>h) hch (o:=o) ?_ hQ))
  grind[IQ]
 | succ n ihn=>
  intro p exc out bs tk t7 hp h0 h1 ZS hs Mw hlen h7 hch;refine AFn (Al (n:=l.length) (yD bs exc Mw).A9 (Ai ?_));rw[Ap (by omega)];obtain⟨b,hb⟩:∃c,l[p]?=some c:=⟨_,Ak (by omega)⟩;obtain⟨hbG,hbC,hbT⟩:=hlG b (A5 hb);have gE:bs[e]?=some [BB true,BB exc]:=B6 Mw (by rw[CU heX]);have g0:=ARd bs exc Mw;refine BH (ARf (Qg (yD bs exc Mw) hb λrb hrb=>AK (AP g0) (AU (off:=3) g0 rfl (BR ha (row:=Ag Ec) (by omega) rfl (Af _) (by omega) (Cd ?_)))));obtain⟨v,s',⟨r,x',hE,hrl,hR⟩,r3⟩:=VR (R:=R) hbG hbC hob hT hbT hS hWb AL8 hrb (A7.BZ Ec).G6 (exc:=exc) (s:=⟨bs,tk⟩) hs (L:=Dh (env R) 49 0 0 0) rfl rfl (by rfl) gE;obtain⟨b2,M7⟩:=s';have mK:bs.length<=b2.length:=hR.len
  have Ia:b2.take X.length=X.set e [BB true,BB x']:=by
   have:=LX (n:=X.length) (by omega) Mw hR.tk;rwa [Hw] at this
  have h72:EZ X.length b2 out t7:=h7.keep gE rfl hR.tk;have P0:EZ X.length b2 r v:=hR.TJ.mono hlen λj c _ h=>h
  have Kc:p*(33*(2 ^ 27+1))<=32*(33*(2 ^ 27+1)):=CO _ (by omega);refine⟨_,_,r3,by decide,ZA h72 P0 rfl (by omega) (by grind) ?_⟩;intro a' b3 q1 q2 q3 q4;have hs3:=q4 hR.ok
  have mL:∀j c,j<X.length->b2[j]?=some c->b3[j]?=some c:=by
   intro j c hj hjc;refine q2 j c (λn ha=>?_) hjc;rcases h72 with ⟨h1,_⟩|⟨id,rows,h1,h2,_⟩
   all_goals grind
  have T4:b3.take X.length=X.set e [BB true,BB x']:=by
   rw[<-Ia];refine G9 λj=>?_
   grind
  have RV:b3[e]?=some [BB true,BB x']:=B6 T4 (by rw[CU heX]);have mM:X.length<=b3.length:=by grind
  have Nu:CY (.AA []) (.AA []) s0.ts M7:=hch.trans hR.PC;refine C1 (AP RV) (AK (AP RV) (AU (off:=0) RV rfl (Am (Am (Al (n:=(out++r).length) q1.A9 (Am (Gk (pk ?_))))))));have eb:decide (((out++r).length:Int)>32)=AR 32 (out++r).length:=by grind
  rw[eb];have AXZ:(out++r).length<=32+(p+1)*(33*(2 ^ 27+1)):=by grind
  have next:∀(x:Bool) (b4:List (List AV)),BM ⟨b4,M7⟩->b4.take X.length=X.set e [BB true,BB x]->X.length<=b4.length->EZ X.length b4 (out++r) a'->(x=false->x0=false/\IQ (AR 32) (FO (AR 32) ob Ec) (l.drop (p+1)) (out++r)=o/\(out++r).length<=32)->(x=true->o=none)->ZF R 0 0 0 (.ptr e 0) (.ptr s0.bs.length 0) a' t8 (AB p) ⟨b4,M7⟩ QR:=by
   intro x b4 n1 n2 n3 n4 n5 n6;refine AMK (Ba (by omega) (by omega) ?_);have:=ihn (p+1) x (out++r) b4 M7 a' (by omega) n5 n6 AXZ n1 n2 n3 n4 Nu;simpa using this
  have hmod:exc=false->(x'=true->o=none)/\(x'=false->AR 32 (out++r).length=true->o=none)/\(x'=false->AR 32 (out++r).length=false->IQ (AR 32) (FO (AR 32) ob Ec) (l.drop (p+1)) (out++r)=o):=by
   rintro rfl;obtain⟨_,h2,_⟩:=h0 rfl;rw[drop_cons hb,IQ] at h2;have hE2:=hE.2 rfl
   grind
  have Aad:exc=true->o=none:=h1;cases Ll:AR 32 (out++r).length with
  | true=>
   refine BH (C1 (AP RV) (AK (AP RV) (DG RV (by simp) rfl (AI _) rfl (.inl (AI _)) ?_)));have e1:[BB true,BB x'].set (0+1) (BB true)=[BB true,BB true]:=rfl;rw[e1];refine next true _ (BM.set (s:=⟨b3,M7⟩) hs3 rfl _) (by simp[*,EG]) (by grind) (q1.keep RV rfl (d:=[BB true,BB true]) (by grind[List.take_of_length_le])) (λh=>by cases h) (λ_=>?_)
   grind
  | false=>
   refine Aq (next x' b3 hs3 T4 mM q1 (λhx=>?_) (λhx=>?_))
   .cases exc with
    | true=>rw[hE.1 rfl] at hx; grind
    | false=>
     grind
   grind
end
theorem ARg {n:Nat} {X bs:List (List AV)} {ts:List (Nat×Nat)} {l:List Br} {v:AV} {Post:AV->AL->Prop} (hX:∀b∈X,Ah n b=true) (hT:bs.take n=X) (hb:EZ n bs l v) (hP:∀v',Ao v' (l.map Da)->Post v' ⟨X,ts⟩):QM false n Post v ⟨bs,ts⟩:=by
 have hok:((bs.take n).all (Ah n))=true:=by grind
 rcases hb with ⟨rfl,rfl⟩|⟨id,rows,h1,rfl,h2,h3,h4⟩
 .refine⟨.AA [],⟨X,ts⟩,?_,hP _ (.AA _)⟩
  grind[HR,HX,Tel.close]
 .obtain⟨c,cs,hc,k1,k2,k3,hal⟩:=EZ.block (lo:=n) (s:=⟨bs,ts⟩) h2 h3 h4
  have htp:=Ua h3;have hlt:¬ id<n:=by omega
  refine⟨.pv (.list (l.map Da)),⟨X,ts⟩,?_,hP _ (.list _)⟩;unfold HR;rw[hok];have e1:HX false n (.ref id 0 l.length 5)=none:=rfl;have e2:Ih bs id 0 l.length 5=some (l.map Da):=by grind[Ih,List.take_of_length_le,Fw,Ku,List.length_map]
  grind[Tel.close]
section
variable {R:RT}
def BrW (R:RT) (e:Nat) (t:Ty) (o:Option (List Br)):Prop:=∀x,BV t x->∀(exc:Bool) (s:AL),BM s->s.bs[e]?=some [BB true,BB exc]->∀QR:QT,
 (∀bs tk a x' r,(x'=(oX exc o).isNone/\r=(oX exc o).getD [])->BM ⟨bs,tk⟩->bs.take s.bs.length=s.bs.set e [BB true,BB x']->s.bs.length<=bs.length->EZ s.bs.length bs r a->CY (.AA []) (.AA []) s.ts tk->QR a ⟨bs,tk⟩)->yE R 0 0 0 (.ptr e 0) x s QR
theorem BrW.c {e:Nat} {t:Ty} {o:Option (List Br)} (h:BrW R e t o):ADr R e t o:=by
 intro x hx exc s hs L hro Eb rC hE;refine m49 (by rfl) ?_;rw[hro,Eb,rC];refine h x hx exc s hs hE _ ?_
 grind[NP]
theorem BrW.v {e:Nat} {t:Ty} {o:Option (List Br)} (h:BrW R e t o):AMH R e t o:=by
 intro x hx exc s hs L hro Eb rC hE;refine m49 (by rfl) ?_;rw[hro,Eb,rC];refine h x hx exc s hs hE _ ?_;rintro bs tk a x' r ⟨rfl,rfl⟩ n1 n2 n3 n4 n5;refine ARg (X:=s.bs.set e [BB true,BB (oX exc o).isNone]) ?_ n2 n4 λv' hv=>⟨tk,hv,n5,rfl⟩
 have:=BM.set hs (c:=[BB true,BB (oX exc o).isNone]) rfl tk (j:=e);intro b hb;have h1:=this b hb
 grind
theorem Mx:∀(f:Nat) (t:Ty) (l:List Br),DS (AR 32) f t=some l->l.length<=32:=by
 intro f t l h
 have cat:∀{α:Type} (g:α->Option (List Br)) (l:List α) (out r:List Br),out.length<=32->IQ (AR 32) g l out=some r->r.length<=32:=by
  intro α g l
  induction l with
  | nil=>
   grind[IQ]
  | cons a l ih=>
   grind[IQ]
 have tup:∀(ls:List (List Br)) (out r:List Br),out.length<=32->JN (AR 32) ls out=some r->r.length<=32:=by
  intro ls
  induction ls with
  | nil=>
   grind[JN]
  | cons a l ih=>
   grind[JN]
 cases f with
 | zero=>grind[DS]
 | succ f=>
  obtain⟨k,n,i,ts⟩:=t;rw[DS] at h;cases h0:k==0 with
  | true=>grind
  | false=>
   rw[h0] at h;simp only[AH] at h;cases h2:k==2||k==5 with
   | true=>grind
   | false=>
    rw[h2] at h;simp only[AH] at h;cases h3:k==3 with
    | true=>
     grind
    | false=>
     rw[h3] at h;simp only[AH] at h;cases h4:k==4 with
     | true=>
      grind
     | false=>
      rw[h4] at h;simp only[AH] at h;cases h6:k==6 with
      | false=>grind
      | true=>
       rw[h6] at h;simp only[AN] at h;rcases ts with _|⟨b,_|⟨body,_|⟨z,r⟩⟩⟩
       all_goals grind[eD]
theorem VS {e:Nat}:∀(f:Nat) (t:Ty),depth t<=f->valid t=true->Cj (bw t)->wt t<=2 ^ 27->size t<2 ^ 30->BrW R e t (DS (AR 32) f t):=by
 intro f
 induction f with
 | zero=>
  intro t hd;obtain⟨k,n,i,ts⟩:=t
  grind[depth]
 | succ f ih=>
  intro t hd hv ZT hw hsz x hx exc s hs hE QR hQ;have le:=(BL.1 hE).1;have same:s.bs.set e [BB true,BB exc]=s.bs:=by grind[List.set_getElem_self]
  obtain⟨k,n,i,ts⟩:=t;have Pz:=hv;have hx':=hx;simp only[valid,AG] at hv;simp only[depth] at hd;simp only[size] at hsz;have hts:=BQ ts;obtain⟨a,rfl,ha⟩:=hx;obtain⟨c1,c2,c3⟩:=hx'.cells;have g0:=Az s.bs [AB k,SS n,AB i,a];have gE:=Av hE [AB k,SS n,AB i,a];have hs1:BM ⟨s.bs++[[AB k,SS n,AB i,a]],s.ts⟩:=BM.app (s:=s) hs (c3 _);have ZV:(s.bs++[[AB k,SS n,AB i,a]]).take s.bs.length=s.bs.set e [BB true,BB exc]:=by grind
  have qv:(s.bs++[[AB k,SS n,AB i,a]]).length=s.bs.length+1:=by simp
  refine ARh (Bu (cs:=[AB k,SS n,AB i,a]) rfl c2 (C1 (AP gE) (AK (AP gE) (AU (off:=1) gE rfl ?_))));cases exc with
  | true=>exact BH (hQ _ s.ts (.AA []) true [] ⟨rfl,rfl⟩ hs1 ZV (by simp) (.inl ⟨rfl,rfl⟩) (CY.refl _ _))
  | false=>
   refine Aq (ARi (AK (AP g0) (AU (off:=0) g0 rfl (Ay ?_))));simp only[oX,AH] at hQ;generalize s.bs++[[AB k,SS n,AB i,a]]=bs at g0 gE hs1 ZV qv
   have mem:∀t∈ts,(Cj (bw t)/\wt t<=2 ^ 27)->BrW R e t (DS (AR 32) f t):=by
    intro t ht h;have:=Mu ht;have:=HH ht
    grind[Cb]
   have leaf:∀(u:Ty) (du:List AV) (ts':List (Nat×Nat)),BV u (.agg du)->DS (AR 32) (f+1) (.mk k n i ts)=some [⟨[],u⟩]->CY (.AA []) (.AA []) s.ts ts'->Cw [(.AA []),(AB 0),(SS []),(AB 0),(.AA [])] [(1,4,.agg du)] λa19=>Ct true ⟨bs,ts'⟩ 5 [(.AA []),(AB 0),(SS []),(AB 0),(.AA [])] 1 [(0,5,a19)] λa20 pR=>QR a20 pR:=by
    intro u du ts' hu hb hch;have ES:CM ⟨[],u⟩ (.agg (.AA []::du)):=⟨.AA [],du,rfl,.inl (.AA _),hu⟩;obtain⟨z1,z2,z3⟩:=ES.cells;refine IY (AFl hu) (MQ ES ?_);have hle:s.bs.length<=bs.length:=by omega
    exact hQ (bs++[.AA []::du]) ts' (.ref bs.length 0 1 5) false [⟨[],u⟩] (by grind) (BM.app (s:=⟨bs,ts'⟩) hs1 (z3 _)) ((D1 hle _).trans ZV) (by grind) (.inr ⟨bs.length,[.AA []::du],hle,rfl,by simp,⟨ES,Ab⟩,by simp⟩) hch
   have var:(k==2||k==5)=true->(k==0)=false->mU R 0 0 0 (.ptr e 0) (.ptr s.bs.length 0) (AB k) (BB true) ⟨bs,s.ts⟩ QR:=by
    intro hk Ze;have AXa:Wy (.mk k n i ts)=true:=N1 (λi hi=>by grind) _ (PG _ Pz);refine c6 (BH (Ae g0 rfl (AD (iI (R:=R) (by grind[size]) AXa hx') ?_)));intro r hr;obtain⟨du,rfl⟩:=hr.G6.agg;refine leaf _ du s.ts hr.G6 ?_ (CY.refl _ _)
    grind[DS]
   rcases NL hv.1 with ⟨rfl,rfl,rfl,rfl⟩|⟨rfl,rfl,rfl,rfl⟩|rfl|⟨rfl,rfl,rfl⟩|⟨rfl,rfl,rfl,hne⟩|⟨rfl,rfl,rfl,h0⟩|⟨rfl,rfl,rfl,b,body,rfl,hcb⟩
   .exact BH (Ae g0 rfl (leaf _ _ s.ts hx' (by rfl) (CY.refl _ _)))
   .refine Aq (Ay (Aq (Ay (c6 (Aq (Ay (Aq (Ay (Aq (Ay (Aq (ARj ?_))))))))))))
    exact hQ bs s.ts (.AA []) false [] (by grind[DS]) hs1 ZV (by omega) (.inl ⟨rfl,rfl⟩) (CY.refl _ _)
   .grind[Aq,Ay]
   ·-- a tuple
    have ADy:∀t∈ts,Cj (bw t)/\wt t<=2 ^ 27:=by
     intro t ht;refine⟨DT ZT (by simp[*,bw,Gi,D0,Eh]),?_⟩;have e:wt (.mk 3 [] 0 ts)=1+(ts.map wt).sum:=by grind[wt,IU]
     have:=D0 (Eh (f:=wt) ht);omega
    have ew:wt (.mk 3 [] 0 ts)=1+(ts.map wt).sum:=by grind[wt,IU]
    have e2:bw (.mk 3 [] 0 ts)=(ts.map bw).sum:=by grind[bw,Gi]
    have eo:DS (AR 32) (f+1) (.mk 3 [] 0 ts)=tpR f ts:=by rfl
    rw[eo] at hQ;refine Aq (Ay (Aq (Ay (c6 (Aq (Ay (BH (Ae g0 rfl ?_))))))));obtain⟨v,s',hR,hc⟩:=iY (R:=R) (e:=e) (f:=f) (T:=bw (.mk 3 [] 0 ts)) (S:=wt (.mk 3 [] 0 ts)) ZT (by omega) (by omega) (λt ht=>(mem t ht (ADy t ht)).v) (λt ht l hl=>⟨Mx f t l hl,λc hc=>⟨lX f t l (Cb hv.2 ht) (ADy t ht).1 hl c hc,(Df f t l hl c hc).1⟩⟩) (by omega) (by omega) hx' (s:=⟨bs,s.ts⟩) hs1 (L:=Dh (env R) 49 0 0 0) rfl rfl (by rfl) gE;obtain⟨b2,M7⟩:=s';have mK:bs.length<=b2.length:=hR.len;have Ia:=LX (n:=s.bs.length) (by omega) ZV hR.tk;rw[Hw] at Ia;exact⟨_,_,hc,hQ b2 M7 v _ _ ⟨rfl,rfl⟩ hR.ok Ia (by omega) (hR.TJ.mono (by grind) λ_ _ _ h=>h) hR.PC⟩
   ·-- a union
    have ADy:∀t∈ts,Cj (bw t)/\wt t<=2 ^ 27:=by
     intro t ht;refine⟨DT ZT (by simp[*,bw,Gi,D0,Eh]),?_⟩;have e:wt (.mk 4 [] 0 ts)=1+(ts.map wt).sum:=by grind[wt,IU]
     have:=D0 (Eh (f:=wt) ht);omega
    refine Aq (Ay (Aq (Ay (c6 (Aq (Ay (Aq (Ay (BH ?_)))))))));have:=ARZ (R:=R) (e:=e) (f:=f) (i0:=0) (nm:=[]) ha (by omega) (λt ht=>(mem t ht (ADy t ht)).c) (λt ht l hl=>Mx f t l hl) (s0:=s) le (o:=DS (AR 32) (f+1) (.mk 4 [] 0 ts)) (by rfl) (QR:=QR) hQ ts.length 0 false [] bs s.ts (.AA []) (by omega) (λ_=>⟨[],rfl,rfl⟩) (λh=>by cases h) (by simp) hs1 ZV (by omega) g0 (.inl ⟨rfl,rfl⟩) (CY.refl _ _);omega
   .grind[Aq,Ay,BH]
   ·-- an existential term
    simp only[BT,AG] at hv;obtain⟨_,OB,cI,_⟩:=hv;have hbw:bw (.mk 6 [] 0 [b,body])=bw body+1+(cv body+1)*bw b:=rfl;have hwt:wt (.mk 6 [] 0 [b,body])=wt body+max 1 (cv body)*wt b:=rfl;have Zz:Cj (bw b):=DT ZT (by grind);have hsy:Cj (bw body):=DT ZT (by omega);have w1:1*wt b<=max 1 (cv body)*wt b:=CO _ (by omega);have hmb:=mem b (by simp) ⟨Zz,by omega⟩;have hmy:=mem body (by simp) ⟨hsy,by omega⟩;refine Aq (Ay (Aq (Ay (c6 (Aq (Ay (Aq (Ay (Aq (Ay (BH (AK (AP g0) (AU (off:=3) g0 rfl (BR ha (row:=Ag body) (by omega) rfl (Af _) (by omega) (Cd ?_)))))))))))))));obtain⟨v,s',hR,hc⟩:=hmy.c _ (A7.BZ body).G6 false ⟨bs,s.ts⟩ hs1 (Dh (env R) 49 0 0 0) rfl rfl (by rfl) gE;obtain⟨b2,M7⟩:=s';have mK:bs.length<=b2.length:=hR.len;have Ia:=LX (n:=s.bs.length) (by omega) ZV hR.tk;rw[Hw] at Ia;have rK:b2[s.bs.length]?=some [AB 6,SS [],AB 0,a]:=B6 hR.tk (by grind);refine⟨_,_,hc,?_⟩;have hR1:=hR.TJ;have AXb:=hR.ok;have AXc:=hR.PC;simp only[oX,AH] at Ia hR1;have eo:DS (AR 32) (f+1) (.mk 6 [] 0 [b,body])=bif (DS (AR 32) f body).isNone then none else IQ (AR 32) (FO (AR 32) (DS (AR 32) f b) b) ((DS (AR 32) f body).getD []) []:=by grind[DS,eD]
    have eb2:b2.set e [BB true,BB (DS (AR 32) f body).isNone]=b2:=by grind[List.getElem?_set_self,List.set_getElem_self]
    have:=ARc (R:=R) (e:=e) (i0:=0) (nm:=[]) (Ec:=b) (body:=body) ha (ob:=DS (AR 32) f b) (l:=(DS (AR 32) f body).getD []) (t8:=v) (lo:=bs.length) (Wb:=wt body) (C:=max 1 (cv body)) (W:=wt b) (w:=bw b) (T:=bw (.mk 6 [] 0 [b,body])) (λd hd=>by
     cases ZR:DS (AR 32) f body with
     | none=>grind
     | some l=>
      rw[ZR] at hd;obtain⟨z1,z2⟩:=Df f body l ZR d hd;refine⟨lX f body l cI hsy ZR d hd,by omega,?_⟩;have m1:(Aj d.body).length*bw b<=cv body*bw b:=CO _ z2
      grind) (λl hl=>⟨λc hc=>⟨lX f b l OB Zz hl c hc,(Df f b l hl c hc).1⟩,Mx f b l hl⟩) ZT (by omega) (by omega) hmb.c (by
     cases ZR:DS (AR 32) f body with
     | none=>simp
     | some l=>grind[Mx]) (s0:=s) le (o:=DS (AR 32) (f+1) (.mk 6 [] 0 [b,body])) (x0:=(DS (AR 32) f body).isNone) eo (QR:=QR) (X:=b2) Ia (by omega) hR1 rK hQ ((DS (AR 32) f body).getD []).length 0 (DS (AR 32) f body).isNone [] b2 M7 (.AA []) (by omega) (λh=>⟨h,by grind,by simp⟩) (λh=>by grind) (by simp) AXb (by grind) (Ac _) (.inl ⟨rfl,rfl⟩) AXc
    omega
end
theorem AML {rr:Bool} {k:Nat} {rows:List (List PV)} {v:AV} {s0:AL} {bs:List (List AV)} {ts:List (Nat×Nat)} {Post:AV->AL->Prop} (h0:BM s0) (hT:bs.take s0.bs.length=s0.bs) (hv:Dr 0 ts k v rows) (hP:Post v ⟨s0.bs,ts⟩):QM rr s0.bs.length Post v ⟨bs,ts⟩:=by
 have hok:((bs.take s0.bs.length).all (Ah s0.bs.length))=true:=by
  rw[hT,C2];exact h0
 rcases hv with rfl|⟨t,rfl,h1,_⟩
 .refine⟨_,_,?_,hP⟩
  grind[HR,HX,Tel.close]
 .have:=(BL.1 h1).1
  refine⟨_,_,?_,hP⟩
  grind[HR,HX,Tel.close]
mutual
theorem PO:∀(t:Ty) (l:List Int),(occs t l).length<=l.length+size t
 | .mk k _ i ts,l=>by
  have:=W7 ts l
  grind[occs,size]
theorem W7:∀(ts:List Ty) (l:List Int),(Ga ts l).length<=l.length+AY ts
 | [],l=>by grind[Ga]
 | t::ts,l=>by
  have h1:=PO t l;have h2:=W7 ts (occs t l)
  grind[Ga,AY]
end
section
variable {R:RT}
def yF (R:RT) (x:AV) (t:Ty) (l:List Int) (s:AL):Prop:=∀(L:A3) (a:AV),L.ro=0->L.rt=0->Dr 0 s.ts 3 a (AW l) ->
 ∃v s',(∃ts',Dr 0 ts' 3 v (AW (occs t l))/\CY a v s.ts ts'/\s'=⟨s.bs,ts'⟩)/\BA (env R) L 65 [x,a] s v s'
theorem yG {l:List Int} {i:Int} {n:List UInt8} {k:Int} {g:AV} {a:AV} {s:AL} {p:Nat} (ha:Dr 0 s.ts 3 a (AW l)) (hl:l.length<2 ^ 40) (g0:s.bs[p]?=some [AB k,SS n,AB i,g]) {QR:QT}
  (hQ:∀v ts',Dr 0 ts' 3 v (AW (bif l.contains i then l else l++[i]))->CY a v s.ts ts'->QR v ⟨s.bs,ts'⟩) :
  ∀(j q:Nat),q+j=l.length->(l.contains i=(l.drop q).contains i)->mV R 0 0 0 a (.ptr p 0) (AB q) s QR:=by
 intro j
 induction j with
 | zero=>
  intro q hi hc;refine AFo (Al (n:=l.length) (by rw[ha.A1.A9,BW]) (Ai ?_));rw[Aw (by omega)];rw[Bt (by omega)] at hc;rw[hc] at hQ;refine Aq (ARk (AK (AP g0) (AU (off:=2) g0 rfl (PA ⟨by decide,bT ha rfl hl λa' ts' h1 h2=>?_⟩))))
  grind
 | succ j ih=>
  intro q hi hc;refine AFo (Al (n:=l.length) (by rw[ha.A1.A9,BW]) (Ai ?_));rw[Ap (by omega)];obtain⟨w,hw⟩:∃w,l[q]?=some w:=⟨_,Ak (by omega)⟩;refine BH (ARl (BR ha.A1 (row:=[.sc (.int .i64 w)]) (by omega) (by simp[*,J0]) rfl (by omega) (El (AK (AP g0) (AU (off:=2) g0 rfl (Ay ?_))))));have hd:l.drop q=w::l.drop (q+1):=by grind[List.drop_eq_getElem_cons]
  rw[hd,List.contains_cons] at hc;cases hwi:w==i with
  | true=>
   simp_all[CY.refl]
  | false=>
   have:(i==w)=false:=by
    have h1:w≠i:=by simpa using hwi
    simpa using λh:i=w=>h1 h.symm
   rw[this,Ge] at hc;refine Aq (ARm (Ba (by omega) (by omega) ?_));have:=ih (q+1) (by omega) hc;simpa using this
theorem yH {ts:List Ty} {a0:AV} (ha0:BJ a0 (AZ ts)) (hl:AY ts<2 ^ 37) {k i:Int} {n:List UInt8} (hk:(k==2||k==3)=true) {l0:List Int} (qv:l0.length+AY ts<2 ^ 38) {p:Nat} {bs:List (List AV)} {OC:List (Nat×Nat)} {c0:AV} (g0:bs[p]?=some [AB k,SS n,AB i,a0]) (hs:BM ⟨bs,OC⟩)
  (ih:∀t∈ts,∀(l:List Int) (s:AL),l.length+size t<2 ^ 38->BM s->yF R (.agg ((Ag t).map .pv)) t l s) {QR:QT}
  (hQ:∀v ts',Dr 0 ts' 3 v (AW (Ga ts l0))->CY c0 v OC ts'->QR v ⟨bs,ts'⟩) :
  ∀(j q:Nat) (l:List Int) (c:AV) (tk:List (Nat×Nat)),q+j=ts.length->Ga (ts.drop q) l=Ga ts l0->l.length+AY (ts.drop q)<=l0.length+AY ts->Dr 0 tk 3 c (AW l)->CY c0 c OC tk ->
   mW R 0 0 0 c (.ptr p 0) (AB q) ⟨bs,tk⟩ QR:=by
 have Uv:=BQ ts;have hrow:∀(s:AL) (K:AV->Prop),K (AB ts.length)->BO s a0 K:=λs K h=>Al (n:=ts.length) (by rw[ha0.A9,AQ]) h
 intro j
 induction j with
 | zero=>
  intro q l c tk hi he hle hc hch;rw[Bt (by omega),Ga] at he;subst he;refine yI (AK (AP g0) (AU (off:=0) g0 rfl (Ay ?_)));have fin:∀t,mX R 0 0 0 c t QR->mX R 0 0 0 c t QR:=λ_ h=>h
  have last:BO ⟨bs,tk⟩ a0 λa41=>Cg .i64 .lss (AB q) a41 λa43=>a43=BB false:=by grind[Ai]
  cases b3:(k==3) with
  | true=>
   refine DJ (DJ (DJ (pk (Am (Am (AK (AP g0) (Am (AU (off:=3) g0 rfl (Am (hrow _ _ (Am (Ai (pk ?_)))))))))))));rw[Aw (by omega)];exact Aq (yJ (hQ c tk hc hch))
  | false=>
   have b2:(k==2)=true:=by grind
   refine Am (AK (AP g0) (Am (AU (off:=0) g0 rfl (Am (Ay (pk ?_))))));rw[b2];refine Am (Am (AK (AP g0) (Am (AU (off:=3) g0 rfl (Am (hrow _ _ (Am (Ai (pk ?_)))))))));rw[Aw (by omega)];exact Aq (yJ (hQ c tk hc hch))
 | succ j D7=>
  intro q l c tk hi he hle hc hch;obtain⟨t,ht⟩:∃t,ts[q]?=some t:=⟨_,Ak (by omega)⟩;have hd:ts.drop q=t::ts.drop (q+1):=by grind[List.drop_eq_getElem_cons]
  rw[hd,Ga] at he;rw[hd,AY] at hle;have hlen:=PO t l
  have step:yK R 0 0 0 c (.ptr p 0) (AB q) ⟨bs,tk⟩ QR:=by
   refine ARn (AK (AP g0) (AU (off:=3) g0 rfl (BR ha0 (row:=Ag t) (by omega) (by grind[BG]) (Af t) (by omega) (Cd ?_))));obtain⟨v,s',⟨ts',h1,h2,rfl⟩,h3⟩:=ih t (A5 ht) l ⟨bs,tk⟩ (by omega) hs (Dh (env R) 65 0 0 0) c rfl rfl hc;refine⟨_,_,h3,ARo (Ba (by omega) (by omega) ?_)⟩;have:=D7 (q+1) (occs t l) v ts' (by omega) he (by omega) h1 (hch.trans h2)
   grind
  refine yI (AK (AP g0) (AU (off:=0) g0 rfl (Ay ?_)));cases b3:(k==3) with
  | true=>
   refine DJ (DJ (DJ (pk (Am (Am (AK (AP g0) (Am (AU (off:=3) g0 rfl (Am (hrow _ _ (Am (Ai (pk ?_)))))))))))))
   grind[BH]
  | false=>
   have b2:(k==2)=true:=by grind
   refine Am (AK (AP g0) (Am (AU (off:=0) g0 rfl (Am (Ay (pk ?_))))));rw[b2];refine Am (Am (AK (AP g0) (Am (AU (off:=3) g0 rfl (Am (hrow _ _ (Am (Ai (pk ?_)))))))))
   grind[BH]
mutual
theorem c7:∀(t:Ty),size t<2 ^ 37->∀(x:AV),BV t x->∀(l:List Int) (s:AL),l.length+size t<2 ^ 38->BM s->yF R x t l s
 | .mk k n i ts,h,x,hx,l,s,SA,hs=>by
  intro L a hro Eb ha;obtain⟨a0,rfl,ha0⟩:=hx;simp only[size] at h SA;have ih:=W8 ts (by omega);refine m65 ?_;rw[hro,Eb];refine ARp (Bu (cs:=[AB k,SS n,AB i,a0]) rfl (by simp[ha0.ok]) ?_);have g0:=Az s.bs [AB k,SS n,AB i,a0];have hT:(s.bs++[[AB k,SS n,AB i,a0]]).take s.bs.length=s.bs:=by simp
  have hs1:BM ⟨s.bs++[[AB k,SS n,AB i,a0]],s.ts⟩:=BM.app (s:=s) hs (by simp[Ah,Ar,ha0.Ar]);generalize s.bs++[[AB k,SS n,AB i,a0]]=bs at g0 hT hs1
  have fin:∀v ts',Dr 0 ts' 3 v (AW (occs (.mk k n i ts) l))->CY a v s.ts ts'->QM (L.rr 65) s.bs.length (λv s'=>∃ts',Dr 0 ts' 3 v (AW (occs (.mk k n i ts) l))/\CY a v s.ts ts'/\s'=⟨s.bs,ts'⟩) v ⟨bs,ts'⟩:=
   λv ts' h1 h2=>AML hs hT h1 ⟨ts',h1,h2,rfl⟩
  rw[occs] at fin;rw[occs];refine AK (AP g0) (AU (off:=0) g0 rfl (Ay ?_));cases b5:(k==5) with
  | true=>
   rw[b5] at fin;refine BH ?_;have:=yG (R:=R) (s:=⟨bs,s.ts⟩) (p:=s.bs.length) (i:=i) (n:=n) (k:=k) (g:=a0) ha (by omega) g0 (QR:=QM (L.rr 65) s.bs.length (λv s'=>∃ts',Dr 0 ts' 3 v (AW (bif l.contains i then l else l++[i]))/\CY a v s.ts ts'/\s'=⟨s.bs,ts'⟩)) (λv ts' h1 h2=>fin v ts' h1 h2) l.length 0 (by omega) rfl
   grind
  | false=>
   rw[b5] at fin;simp only[AH] at fin ⊢;refine Aq (ARq ?_);cases b23:(k==2||k==3) with
   | true=>
    rw[b23] at fin;simp only[AN] at fin ⊢;have:=yH (R:=R) ha0 (by omega) b23 (l0:=l) (by omega) g0 (hs:=hs1) (c0:=a) ih (QR:=QM (L.rr 65) s.bs.length (λv s'=>∃ts',Dr 0 ts' 3 v (AW (Ga ts l))/\CY a v s.ts ts'/\s'=⟨s.bs,ts'⟩)) fin ts.length 0 l a s.ts (by omega) rfl (Ac _) ha (CY.refl _ _);omega
   | false=>
    rw[b23] at fin;simp only[AH] at fin ⊢;simp only[Hu] at b23;refine yI (AK (AP g0) (AU (off:=0) g0 rfl (Ay ?_)));rw[b23.2];refine Am (AK (AP g0) (Am (AU (off:=0) g0 rfl (Am (Ay (pk ?_))))));rw[b23.1];exact Bm (Bm (Bm (Bm (Bm (pk (Aq (yJ (fin a s.ts ha (CY.refl _ _)))))))))
theorem W8:∀(l:List Ty),AY l<2 ^ 37->∀t∈l,∀(o:List Int) (s:AL),o.length+size t<2 ^ 38->BM s->yF R (.agg ((Ag t).map .pv)) t o s
 | [],_,_,h=>by cases h
 | e::l,h,t,hm=>by
  simp only[AY] at h;rcases A6.1 hm with h' | h'
  .rw[h']
   exact c7 e (by omega) _ (A7.BZ e).G6
  .exact W8 l (by omega) t h'
end
end
/- QP, QI -/
def wI (i:Int):Bool:=decide (-(2 ^ 50)<=i)&&decide (i<2 ^ 50)
theorem yL {t:Ty} (h:vP wI t=true):Wy t=true:=N1 (λi hi=>by simp only[wI,AG,Dc] at hi; omega) t h
theorem mY {n m:Int} (hm:wI m=true) {t:Ty} (h:vP wI t=true):vP wI (Kg n m t)=true/\size (Kg n m t)=size t:=by
 rw[Nl];refine Nx (λi hi=>?_) t h
 grind
section
variable {R:RT}
theorem AMM {L:List Int} {c:AV} (hc:BJ c (AW L)) (hl:L.length<2 ^ 40) {bd:List Ty} {F:Ty} {Post:AV->Prop} (hP:∀r,QO ⟨bd,F⟩ r->Post r) :
  ∀(j q:Nat) (cur:Ty) (bs:List (List AV)) (tk:List (Nat×Nat)) (o:AV) (y:List AV),q+j=L.length->TW j q cur=F->size cur<2 ^ 37->vP wI cur=true->bs[1]?=some Z5->bs[2]?=some (o::y)->BJ o (AZ bd)->BV cur (.agg y) ->
   mZ R 0 0 0 (.ptr 1 0) c (.ptr 2 0) (AB q) ⟨bs,tk⟩ (QP Post):=by
 have hh:(hole:Int)=1073741824:=rfl;intro j
 induction j with
 | zero=>
  intro q cur bs tk o y hi he hsz hv g1 g2 ho hy;rw[TW] at he;subst he;refine AFq (Al (n:=L.length) (by rw[hc.A9,BW]) (Ai ?_));rw[Aw (by omega)];have ES:CM ⟨bd,cur⟩ (.agg (o::y)):=⟨o,y,rfl,ho,hy⟩;obtain⟨c1,c2,c3⟩:=ES.cells;refine Aq (ARr (Ae g2 c1 (PK g1 c1 (AI _) c2 (AI _) (Ae (Bf g1) c1 ?_))));obtain⟨o',h1,h2⟩:=ho.closed (bs.set 1 (o::y)) 0;obtain⟨k,n,i,ts⟩:=cur;obtain⟨a,he,ha⟩:=hy;cases he;obtain⟨a',h3,h4⟩:=ha.closed (bs.set 1 (o::[AB k,SS n,AB i,a])) 0;exact⟨.agg (o'::[AB k,SS n,AB i,a']),by simp[*],hP _ ⟨o',_,rfl,h2,a',rfl,h4⟩⟩
 | succ j ih=>
  intro q cur bs tk o y hi he hsz hv g1 g2 ho hy;rw[TW] at he;refine AFq (Al (n:=L.length) (by rw[hc.A9,BW]) (Ai ?_));rw[Ap (by omega)];obtain⟨d1,d2,d3⟩:=hy.cells;refine BH (ARs (AK (AP g2) (N0 g2 d1 (Ba (by omega) (by omega) ?_))));have e1:(1073741825:Int)+(q:Int)=hole+1+q:=by omega
  rw[e1];refine AD (LW (R:=R) (hole+1+q) q hsz (yL hv) hy) ?_;intro r hr;obtain⟨du,rfl⟩:=hr.G6.agg;obtain⟨f1,f2,f3⟩:=hr.G6.cells
  have hw:wI (q:Int)=true:=by
   simp only[wI,AG,Dc];omega
  obtain⟨v1,v2⟩:=mY (n:=hole+1+q) hw hv;refine AK (AP g2) (ZC g2 d1 f1 (AI _) f2 (AI _) (ARt (Ba (by omega) (by omega) ?_)));have:=ih (q+1) (Kg (hole+1+q) q cur) (bs.set 2 (o::du)) tk o du (by omega) he (by omega) v1 (BS g1 (by decide)) (Bf g2) ho hr.G6
  grind
theorem AMN {b:Br} {L:List Int} {c:AV} (hc:BJ c (AW L)) (hl:L.length<2 ^ 37) (hL:∀i∈L,0<=i/\i<(b.bounds.length:Int)) (Ng:b.bounds.length<2 ^ 37) {xa:AV} {xb:List AV} (T6:BJ xa (AZ b.bounds)) {F:Ty} {Post:AV->Prop} (hP:∀r,QO ⟨L.map λi=>b.bounds.getD i.toNat aR,F⟩ r->Post r) :
  ∀(j q:Nat) (cur:Ty) (bs:List (List AV)) (tk:List (Nat×Nat)) (o:AV) (y:List AV),q+j=L.length->TW L.length 0 (TV L j q cur)=F->size cur<2 ^ 37->vP wI cur=true->bs[0]?=some (xa::xb)->bs[1]?=some Z5->bs[2]?=some (o::y)->Dr 0 tk 25 o (AZ ((L.take q).map λi=>b.bounds.getD i.toNat aR))->BV cur (.agg y) ->
   mb R 0 0 0 (.ptr 0 0) (.ptr 1 0) c (.ptr 2 0) (AB q) ⟨bs,tk⟩ (QP Post):=by
 have hh:(hole:Int)=1073741824:=rfl;intro j
 induction j with
 | zero=>
  intro q cur bs tk o y hi he hsz hv g0 g1 g2 ho hy;rw[TV] at he;refine AFr (Al (n:=L.length) (by rw[hc.A9,BW]) (Ai ?_));rw[Aw (by omega)];rw[CL (by omega)] at ho;have:=AMM (R:=R) hc (by omega) hP L.length 0 cur bs tk o y (by omega) he hsz hv g1 g2 ho.A1 hy;exact Aq (ARu (by simpa using this))
 | succ j ih=>
  intro q cur bs tk o y hi he hsz hv g0 g1 g2 ho hy;rw[TV] at he;refine AFr (Al (n:=L.length) (by rw[hc.A9,BW]) (Ai ?_));rw[Ap (by omega)];obtain⟨w,hw⟩:∃w,L[q]?=some w:=⟨_,Ak (by omega)⟩;obtain⟨w1,w2⟩:=hL w (A5 hw);obtain⟨t,ht⟩:∃t,b.bounds[w.toNat]?=some t:=⟨_,Ak (by omega)⟩;have hgd:b.bounds.getD w.toNat aR=t:=by grind
  have hLd:L.getD q 0=w:=by grind
  rw[hLd] at he;obtain⟨d1,d2,d3⟩:=hy.cells;have ix:∀(s:AL) (K:AV->Prop),K (AB w)->Bj s 1 c (AB q) λa=>FC (env R) s none a K:=λs K h=>BR hc (row:=[.sc (.int .i64 w)]) (by omega) (by grind[J0]) rfl (by omega) (El h)
  refine BH (ARv (AK (AP g2) (AU (off:=0) g2 rfl (AK (AP g0) (AU (off:=0) g0 rfl (ix _ _ (BR T6 (row:=Ag t) w1 (BG ht) (Af t) (by omega) (Cd (FR (A7.BZ t).G6 ⟨by decide,Yb ho rfl (by grind) λo' HP ho'=>?_⟩)))))))));have hcell:=ho'.A1;refine AK (AP g2) (DG (off:=0) g2 (by simp) hcell.cells (AI _) hcell.ok (.inl (AI _)) ?_);have es:(o::y).set 0 o'=o'::y:=rfl;rw[es];have rL:=BS (b:=o'::y) g0 (k:=2) (by decide);have g1':=BS (b:=o'::y) g1 (k:=2) (by decide);have rJ:=Bf (b:=o'::y) g2;generalize bs.set 2 (o'::y)=bs' at rL g1' rJ;refine AK (AP rJ) (N0 rJ d1 (ix _ _ (Ba (by omega) (by omega) ?_)));have e1:(1073741825:Int)+(q:Int)=hole+1+q:=by omega
  rw[e1];refine AD (LW (R:=R) w (hole+1+q) hsz (yL hv) hy) ?_;intro r hr;obtain⟨du,rfl⟩:=hr.G6.agg;obtain⟨f1,f2,f3⟩:=hr.G6.cells
  have hwi:wI (hole+1+(q:Int))=true:=by
   simp only[wI,AG,Dc];omega
  obtain⟨v1,v2⟩:=mY (n:=w) hwi hv;refine AK (AP rJ) (ZC rJ d1 f1 (AI _) f2 (AI _) (ARw (Ba (by omega) (by omega) ?_)));have ht2:(L.take q).map (λi=>b.bounds.getD i.toNat aR)++[t]=(L.take (q+1)).map λi=>b.bounds.getD i.toNat aR:=by grind[List.take_add_one]
  rw[ht2] at ho';have:=ih (q+1) (Kg w (hole+1+q) cur) (bs'.set 2 (o'::du)) HP o' du (by omega) he (by omega) v1 (BS rL (by decide)) (BS g1' (by decide)) (Bf rJ) ho' hr.G6
  grind
theorem VT {b:Br} (hs:size b.body<2 ^ 36) (hv:vP wI b.body=true) (hb:b.bounds.length<2 ^ 37) (hr:∀i∈occs b.body [],0<=i/\i<(b.bounds.length:Int)) {x:AV} (hx:QO b x):AM (env R) 50 [x] λr=>QO (FQ b) r:=by
 obtain⟨a,y,rfl,ha,hy⟩:=hx;obtain⟨c1,c2,c3,c4⟩:=hy.cells;have ZS:=PO b.body [];simp only[CJ,CP] at ZS;refine e50 (u0:=.agg (a::y)) (by simp[AX,close,ha.close,c4]) (ARx ?_);refine Bu (cs:=a::y) rfl (by simp[ha.ok]; grind) (Bq ?_);have g0:(AL.mk [a::y,Z5] []).bs[0]?=some (a::y):=rfl
 have hs1:BM ⟨[a::y,Z5],[]⟩:=by
  intro d hd;simp only[A6,FZ,Fa] at hd;rcases hd with rfl|rfl
  .show Ah _ _=true
   simp only[Ah,ha.Ar,Fb];exact Bn (AI _) _ c3
  rfl
 refine AK (s:=⟨[a::y,Z5],[]⟩) (AP g0) (N0 g0 c1 ?_);obtain⟨v,s',⟨ts',h1,_,rfl⟩,h3⟩:=c7 (R:=R) b.body (by omega) (.agg y) hy.G6 [] ⟨[a::y,Z5],[]⟩ (by grind) hs1 (Dh (env R) 50 0 0 0) (.AA []) rfl rfl (.inl rfl);refine⟨_,_,h3,AK (s:=⟨[a::y,Z5],ts'⟩) (AP g0) (N0 g0 c1 (IY (AFl hy.G6) (Bq (PK (s:=⟨[a::y,Z5]++[Z5],ts'⟩) rfl (by grind) (AI _) (by simp[*]) (AI _) ?_))))⟩;have:=AMN (R:=R) (b:=b) (L:=occs b.body []) (c:=v) h1.A1 (by omega) hr hb (xa:=a) (xb:=y) (.inl ha) (F:=(FQ b).body) (Post:=λr=>QO (FQ b) r) (λr h=>h) (occs b.body []).length 0 b.body [a::y,Z5,.AA []::y] ts' (.AA []) y (by omega) rfl (by omega) hv rfl rfl rfl (.inl rfl) hy.G6
 grind
theorem Uc {b:Br} (hs:size b.body<2 ^ 36) (hv:vP wI b.body=true) (hb:b.bounds.length<2 ^ 37) (hr:∀i∈occs b.body [],0<=i/\i<(b.bounds.length:Int)) {x:AV} (hx:CM b x):AM (env R) 50 [x] λr=>QO (FQ b) r:=by
 obtain⟨x',h1,h2,h3⟩:=hx.closed;exact AM.open (args':=[x']) (by rfl) (by rfl) rfl h1 h2 (VT hs hv hb hr h3)
end
theorem ADz {t:Ty} (hv:valid t=true) (hc:Cv 0 t=true) (hs:Cj (bw t)) {l:List Br} (hl:DS (AR 32) (depth t) t=some l) :
  ∃ps B,BF (AR 32) (depth t) t []=(some ps,B)/\l.map FQ=ps.map (KG B)/\(∀b∈l,∀i∈occs b.body [],0<=i/\i<(b.bounds.length:Int))/\(∀b∈B,Yx t b)/\∀b∈l,∀c∈b.bounds,Yx t c:=by
 have h:=gG (BD:=AR 32) rfl rfl (depth t) t [] hv hc HC hs [] (λx hx=>by grind);rw[ER hv hc] at h;have hb:=Nw (f:=depth t) hv hc;have hsz:=Df (BD:=AR 32) (depth t) t l hl;rw[hl] at h;generalize BF (AR 32) (depth t) t []=o2 at h hb;rcases o2 with ⟨_|ps,B⟩
 .exact h.elim
 .obtain⟨_,h2⟩:=h
  simp only at hb ⊢
  have h3:∀(l':List Br) (ps':List Ty),(∀b∈l',b∈l)->CV (λb p=>∃φ,Rl false 0 B ([]:List Ty).length B.length [] b p φ) l' ps'->CV (λb p=>b∈l/\∃φ,Rl false 0 B ([]:List Ty).length B.length [] b p φ) l' ps':=by
   intro l'
   induction l' with
   | nil=>intro ps' _ h; cases ps' with
    | nil=>trivial
    | cons _ _=>exact h.elim
   | cons a l' ihl=>
    intro ps' hm h;cases ps' with
    | nil=>exact h.elim
    | cons p ps'=>exact⟨⟨hm a (by simp),h.1⟩,ihl ps' (λb hb=>hm b (by grind)) h.2⟩
  have h4:∀(l':List Br) (ps':List Ty),CV (λb p=>∃φ,Rl false 0 B ([]:List Ty).length B.length [] b p φ) l' ps'->∀b∈l',∃p φ,Rl false 0 B ([]:List Ty).length B.length [] b p φ:=by
   intro l'
   induction l' with
   | nil=>simp
   | cons a l' ihl=>
    intro ps' h b hb;cases ps' with
    | nil=>exact h.elim
    | cons p ps'=>
     rcases A6.1 hb with rfl|hb
     .exact⟨p,h.1⟩
     .exact ihl ps' h.2 b hb
  have e:l.map FQ=ps.map (KG B):=by
   refine(h3 l ps (λb hb=>hb) h2).map_eq λb p ⟨Ng,φ,H⟩=>(vL H (Ac _) (DT hs ?_)).symm
   have:=H.lR;have:=H.len
   grind
  refine⟨ps,B,rfl,e,λb Ng i hi=>?_,hb,λb Ng c hc=>?_⟩
  rotate_left
  .obtain⟨p,φ,H⟩:=h4 l ps h2 b Ng
   obtain⟨i,hi,hic⟩:=MV.1 hc;obtain⟨x,hx⟩:∃x,φ[i]?=some x:=⟨_,Ak (by have:=H.len; omega)⟩;have h5:=H.Kj i x hx
   grind
  obtain⟨p,φ,H⟩:=h4 l ps h2 b Ng;rcases MH b.body [] i hi with h|h
  .cases h
  .have:=H.len
   rcases H.vis i h with h|h|h
   all_goals grind
theorem mg {L:List Int}:∀(f j:Nat) (t:Ty),j+f<2 ^ 40->vP wI t=true->vP wI (TV L f j t)=true/\size (TV L f j t)=size t
 | 0,_,_,_,h=>⟨h,rfl⟩
 | f+1,j,t,hj,h=>by
  have hw:wI (hole+1+(j:Int))=true:=by
   have:(hole:Int)=1073741824:=rfl;simp only[wI,AG,Dc];omega
  obtain⟨h1,h2⟩:=mY (n:=L.getD j 0) hw h;obtain⟨h3,h4⟩:=mg (L:=L) f (j+1) _ (by omega) h1;exact⟨h3,h4.trans h2⟩
theorem mh:∀(f j:Nat) (t:Ty),j+f<2 ^ 40->vP wI t=true->vP wI (TW f j t)=true/\size (TW f j t)=size t
 | 0,_,_,_,h=>⟨h,rfl⟩
 | f+1,j,t,hj,h=>by
  have hw:wI (j:Int)=true:=by
   simp only[wI,AG,Dc];omega
  obtain⟨h1,h2⟩:=mY (n:=hole+1+(j:Int)) hw h;obtain⟨h3,h4⟩:=mh f (j+1) _ (by omega) h1;exact⟨h3,h4.trans h2⟩
theorem W9 {b:Br} (hv:vP wI b.body=true) (hs:size b.body<2 ^ 36):size (FQ b).body=size b.body/\(FQ b).bounds.length<=size b.body:=by
 have hl:=PO b.body [];simp only[CJ,CP] at hl;obtain⟨h1,h2⟩:=mg (L:=occs b.body []) (occs b.body []).length 0 b.body (by omega) hv;obtain⟨_,h4⟩:=mh (occs b.body []).length 0 _ (by omega) h1;refine⟨h4.trans h2,?_⟩
 show((occs b.body []).map _).length<=_
 grind
theorem AMO {W:Nat} {b:Br} (h:MO W b) (hb:b.bounds.length<2 ^ 40):vP wI b.body=true:=
 Yy (λi hi=>by
  have:(hole:Int)=1073741824:=rfl;rw[ADW] at hi;simp only[wI,AG,Dc];omega) _ h.ok
section
variable {R:RT}
def pV (R:RT) (t:Ty) (o:List Br×Int):Prop:=∀x,A7 t x->AM (env R) 15 [x] λr=>∃a,r=.tuple [a,AB o.2]/\Ao a (o.1.map Da)
theorem AD0 {X:Ty->List Br×Int} {ts:List Ty} {y:AV} (hy:Ao y (AZ ts)) (hl:ts.length<2 ^ 30) (hx:∀t∈ts,pV R t (X t)) {bs:List (List AV)} {tk:List (Nat×Nat)} {xb:List AV} (g0:bs[0]?=some (y::xb)) {Post:AV->Prop} (hP:Post (BB (ts.all λt=>Dw (X t)))) :
  ∀(j p:Nat),p+j=ts.length->(ts.all λt=>Dw (X t))=((ts.drop p).all λt=>Dw (X t))->mj R 0 0 0 (.ptr 0 0) (AB p) ⟨bs,tk⟩ (QP Post):=by
 intro j
 induction j with
 | zero=>
  intro p hi hall;refine AFs (AK (AP g0) (AU (off:=0) g0 rfl (Al (n:=ts.length) (by rw[hy.A9,AQ]) (Ai ?_))));rw[Aw (by omega)];rw[Bt (by omega)] at hall;rw[hall] at hP;exact Aq (ARy ⟨_,Fz,hP⟩)
 | succ j D7=>
  intro p hi hall;refine AFs (AK (AP g0) (AU (off:=0) g0 rfl (Al (n:=ts.length) (by rw[hy.A9,AQ]) (Ai ?_))));rw[Ap (by omega)];obtain⟨t,ht⟩:∃t,ts[p]?=some t:=⟨_,Ak (by omega)⟩;have Uu:=A5 ht;rw[drop_cons ht,HA] at hall;refine BH (ARz (AK (AP g0) (AU (off:=0) g0 rfl (BK hy (row:=Ag t) (by omega) (by simp[*,BG]) (Af _) (by omega) (Cd (AD (hx t Uu _ (A7.BZ t)) ?_))))));rintro _ ⟨a,rfl,ha⟩
  have fail:Dw (X t)=false->(QP Post) (BB false) ⟨bs,tk⟩:=λh=>by
   rw[hall,h,Gd] at hP;exact⟨_,Fz,hP⟩
  refine CB rfl (CB rfl (FD ?_));cases h0:(X t).2==0 with
  | false=>
   grind[DJ,pk,BH,Dw]
  | true=>
   have:((X t).2 != 0)=false:=by grind
   rw[this];refine Am (Am (Al (n:=(X t).1.length) (by rw[ha.A9,CC]) (Am (Gk (pk ?_)))))
   by_cases h4:(X t).1.length<=4
   .rw[Aw (by omega)]
    have hok:Dw (X t)=true:=by simp[Dw,h0,h4]
    rw[hok,Fb] at hall;refine Aq (AR0 (Ba (by omega) (by omega) ?_));have:=D7 (p+1) (by omega) hall;simpa using this
   .rw[Ap (by omega)]
    exact BH (fail (by simp[Dw,h4]))
theorem ZG {X:Ty->List Br×Int} {b:Br} (hs:size b.body<2 ^ 37) (hl:b.bounds.length<2 ^ 30) (hx:∀t∈b.bounds,pV R t (X t)) {x:AV} (jh:QO b x):AM (env R) 51 [x] λr=>r=BB (RU b&&b.bounds.all λb=>Dw (X b)):=by
 obtain⟨a,y,rfl,ha,hy⟩:=jh;obtain⟨c1,c2,c3,c4⟩:=hy.cells;have hcs:=Gz b.body
 suffices H:∀Post:AV->Prop,Post (BB (RU b&&b.bounds.all λb=>Dw (X b)))->yM R 0 0 0 (.agg (a::y)) ⟨[],[]⟩ (QP Post) from e51 (u0:=.agg (a::y)) (by simp[AX,close,ha.close,c4]) (H _ rfl)
 intro Post hP;refine AR1 (Bu (cs:=a::y) rfl (by simp[ha.ok]; grind) ?_);have g0:(AL.mk ([]++[a::y]) []).bs[0]?=some (a::y):=rfl;refine AK (AP g0) (AU (off:=0) g0 rfl (Al (n:=b.bounds.length) (by rw[ha.A9,AQ]) (Gk ?_)))
 by_cases h6:b.bounds.length<=6
 .rw[Aw (by omega)]
  refine Am (AK (AP g0) (Am (N0 g0 c1 (Am (AD (Qe b.body hs _ hy) ?_)))));intro v hv;refine Am (Al (n:=(Aj b.body).length) (by rw[hv.A9,BW]) (Am (Gk (pk ?_))))
  by_cases h3:(Aj b.body).length<=3
  .rw[Aw (by omega)]
   have hw:RU b=true:=by grind[RU]
   rw[hw,Fb] at hP;have:=AD0 (R:=R) ha hl hx (bs:=[]++[a::y]) (tk:=[]) (xb:=y) g0 hP b.bounds.length 0 (by omega) rfl;exact Aq (AR2 (by simpa using this))
  .rw[Ap (by omega)]
   have hw:RU b=false:=by simp[RU,h3]
   rw[hw,Gd] at hP;exact BH ⟨_,Fz,hP⟩
 .rw[Ap (by omega)]
  have hw:RU b=false:=by simp[RU,h6]
  rw[hw,Gd] at hP;exact DJ (DJ (DJ (DJ (DJ (pk (BH ⟨_,Fz,hP⟩))))))
theorem VU {X:Ty->List Br×Int} {b:Br} (hs:size b.body<2 ^ 37) (hl:b.bounds.length<2 ^ 30) (hx:∀t∈b.bounds,pV R t (X t)) {x:AV} (jh:CM b x):AM (env R) 51 [x] λr=>r=BB (RU b&&b.bounds.all λb=>Dw (X b)):=by
 obtain⟨x',h1,h2,h3⟩:=jh.closed;exact AM.open (args':=[x']) (by rfl) (by rfl) rfl h1 h2 (ZG hs hl hx h3)
end
end Go.Proofs.YtpgfpakdnijngaaGreatDoor
