/-
  The reference: fill.
-/
import Derived.Test.YtpgfpakdnijngaaGreatDoorTF
import Derived.Test.YtpgfpakdnijngaaGreatDoorTE
set_option linter.all false
namespace Go.Proofs.YtpgfpakdnijngaaGreatDoor
open Go.Tel
mutual
theorem Ox {p:Int->Bool} (h:∀i,p i=true->-(2 ^ 60)<=i/\i<2 ^ 60):∀t:Ty,vP p t=true->YR t=true
 | .mk k n i ts,ht=>by
  rw[vP] at ht;rw[YR];cases h5:k==5 with
  | true=>
   grind
  | false=>
   rw[h5] at ht;cases h2:k==2||k==3 with
   | true=>
    rw[h2] at ht;exact nu h ts ht
   | false=>rfl
theorem nu {p:Int->Bool} (h:∀i,p i=true->-(2 ^ 60)<=i/\i<2 ^ 60):∀l:List Ty,Qi p l=true->RX l=true
 | [],_=>rfl
 | t::l,hl=>by
  simp only[Qi,AI] at hl;rw[RX,Ox h t hl.1,nu h l hl.2];rfl
end
theorem Nw {N:Nat} (hN:(N:Int)<2 ^ 50):∀i,Sv N i=true->-(2 ^ 60)<=i/\i<2 ^ 60:=by grind[hole]
theorem MG {bs bs' X:List (List AV)} {n e:Nat} {c:List AV} (hn:n<=bs.length) (h1:bs.take n=X) (h2:bs'.take bs.length=bs.set e c):bs'.take n=X.set e c:=by
 have:=Bi (List.take n) h2
 grind[List.take_set]
theorem Eu.keep {lo:Nat} {bs bs':List (List AV)} {l:List Br} {a:AV} {e:Nat} {c d:List AV} (h:Eu lo bs l a) (he:bs[e]?=some c) (hc:c.length=2) (hT:bs'.take bs.length=bs.set e d):Eu lo bs' l a:=by
 rcases h with h|⟨id,rows,h1,h2,h3,h4,h5⟩
 .exact .inl h
 .refine .inr ⟨id,rows,h1,h2,?_,h4,h5⟩
  have hne:e≠id:=by grind[IU]
  exact CN hT AB
structure NH (e:Nat) (x:Bool) (l:List Br) (s s':AQ) (v:AV):Prop where
 RE:Eu s.bs.length s'.bs l v
 tk:s'.bs.take s.bs.length=s.bs.set e [BB true,BB x]
 len:s.bs.length<=s'.bs.length
 ok:BP s'
 QF:Ck (.AE []) (.AE []) s.ts s'.ts
def kA (o:Option (List Br)) (x x':Bool) (r:List Br):Prop:=(x=true->x'=true)/\(x=false->match o with
 | some m=>r=m/\x'=false
 | none=>x'=true)
section
variable {R:RT}
theorem nx {e:Nat} {y t4 t7 acc:AV} {lo p:Nat} {l:List Br} {s:AQ} (hy:Eu lo s.bs l y) (gE:s.bs[e]?=some [BB true,BB true]) {QR:QT} (h:QR acc s):kB R 0 0 0 (.ptr e 0) y t4 t7 acc (AG p) s QR:=by
 refine kC (Au (n:=l.length) hy.BD (Ao ?_));cases hd:decide ((p:Int)<(l.length:Nat)) with
 | true=>exact Ak (Ak (C2 (AU gE) (Ak (AM (AU gE) (Ak (AX (off:=1) gE rfl (Ak (nt (pk (Ar (kD h)))))))))))
 | false=>exact Bf (Bf (Bf (Bf (Bf (pk (Ar (kD h)))))))
theorem ACe {e:Nat} {l:List Br} {W w S T:Nat} (hl:∀c∈l,MC W c/\c.bounds.length<=w) (hT:(T:Int)<hole) (hS:S<2 ^ 37) {f:Nat} {b:Br} {k:Nat} (hb:vP (Sv b.bounds.length) b.body=true) (hk:Fh b.body=some k) (hf:(Al b.body).count hole<=f+1) (hbS:size b.body+(Al b.body).count hole*W<=S) (hbT:b.bounds.length+(Al b.body).count hole*w<=T) (hf2:f<2 ^ 27) (Sn:l.length<2 ^ 30)
  {lo:Nat} {y:AV} {rb:List AV} (hrb:CU b (.agg rb))
  (ih:∀b':Br,vP (Sv b'.bounds.length) b'.body=true->(Al b'.body).count hole<=f->size b'.body+(Al b'.body).count hole*W<=S->b'.bounds.length+(Al b'.body).count hole*w<=T->∀x,CU b' x->∀s,BP s->∀L:BI,L.ro=0->L.rt=0->L.rr 130=true->s.bs[e]?=some [BB true,BB false]->Eu lo s.bs l y ->
   ∃v s',(∃r x',kA (EK (Aa 32) l f b') false x' r/\r.length<=33*(f+1)/\NH e x' r s s' v)/\BG (env R) L 130 [.ptr e 0,x,y] s v s')
  {s0:AQ} (he:e<s0.bs.length) (hE0:s0.bs[e]?=some [BB true,BB false]) (hy0:Eu lo s0.bs l y) {o:Option (List Br)} {QR:QT}
  (hQ:∀bs tk acc r x',kA o false x' r->r.length<=33*(f+2)->BP ⟨bs,tk⟩->bs.take s0.bs.length=s0.bs.set e [BB true,BB x']->s0.bs.length<=bs.length->Eu s0.bs.length bs r acc->Ck (.AE []) (.AE []) s0.ts tk->QR acc ⟨bs,tk⟩) :
  ∀(j p:Nat) (out:List Br) (bs:List (List AV)) (tk:List (Nat×Nat)) (acc:AV),p+j=l.length->I6 (Aa 32) (λc=>EK (Aa 32) l f (DV b k c)) (l.drop p) out=o->out.length<=32->BP ⟨bs,tk⟩->bs.take s0.bs.length=s0.bs.set e [BB true,BB false]->bs[s0.bs.length]?=some rb->s0.bs.length+1<=bs.length->Eu (s0.bs.length+1) bs out acc->Ck (.AE []) (.AE []) s0.ts tk ->
   kB R 0 0 0 (.ptr e 0) y (.ptr s0.bs.length 0) (AG k) acc (AG p) ⟨bs,tk⟩ QR:=by
 obtain⟨rb1,rb2,rb3⟩:=hrb.cells;intro j
 induction j with
 | zero=>
  intro p out bs tk acc hi EM hout hs Nx gb hlen hacc hch;have gE:bs[e]?=some [BB true,BB false]:=CN Nx (by rw[Ca he]);have hy:Eu lo bs l y:=hy0.keep hE0 rfl Nx;refine kC (Au (n:=l.length) hy.BD (Ao ?_));rw[A2 AA];rw[CA AA,I6] at EM;subst EM;exact Bf (Bf (Bf (Bf (Bf (pk (Ar (kD (hQ bs tk acc out false ⟨λh=>(by cases h),λ_=>⟨rfl,rfl⟩⟩ AA hs Nx AA (hacc.mono AA λj c _ h=>h) hch))))))))
 | succ j D9=>
  intro p out bs tk acc hi EM hout hs Nx gb hlen hacc hch;have gE:bs[e]?=some [BB true,BB false]:=CN Nx (by rw[Ca he]);have hy:Eu lo bs l y:=hy0.keep hE0 rfl Nx;refine kC (Au (n:=l.length) hy.BD (Ao ?_));rw[Aq AA];obtain⟨c,hc⟩:∃c,l[p]?=some c:=⟨_,Ay AA⟩;have MW:=A5 hc;obtain⟨yu,hcw⟩:=hl c MW;rw[drop_cons hc,I6] at EM;refine Ak (Ak (C2 (AU gE) (Ak (AM (AU gE) (Ak (AX (off:=1) gE rfl (Ak (nt (pk (A1 (AJ7 (Af gb rb1 (Rb hy hc λrc hrc=>?_)))))))))))))
  have hpos:0<(Al b.body).count hole:=by
   have hfs:=Ei hk
   grind
  have m0:1*w<=(Al b.body).count hole*w:=B5 _ hpos;have m3:1*W<=(Al b.body).count hole*W:=B5 _ hpos;have hbc:((b.bounds.length+c.bounds.length:Nat):Int)<hole:=AA;have hh:(hole:Int)=1073741824:=rfl;obtain⟨g1,g2,g3,g4⟩:=aX hb hk yu hbc;have el:(DV b k c).bounds.length=b.bounds.length+c.bounds.length:=by simp[DV]
  have m1:(Al b.body).count hole*W=(Al (DV b k c).body).count hole*W+W:=by rw[<-g3,KV]
  have m2:(Al b.body).count hole*w=(Al (DV b k c).body).count hole*w+w:=by rw[<-g3,KV]
  obtain⟨v1,s1,⟨OD,w1,w2,rfl⟩,w3⟩:=j9 (R:=R) (k:=k) g4 AA (by have:=yu.Ko; omega) (Ox (Nw AA) _ yu.ok) AA hrb hrc (s:=⟨bs,tk⟩) hs (L:=CT (env R) 130 0 0 0) rfl rfl;refine⟨_,_,w3,?_⟩;have hs1:BP ⟨bs,OD⟩:=hs;obtain⟨v2,s2,⟨r,x',hE,hrl,hR⟩,w5⟩:=ih (DV b k c) g1 AA AA AA v1 w1 ⟨bs,OD⟩ hs1 (CT (env R) 130 0 0 0) rfl rfl AR gE hy;refine⟨_,_,w5,AK,?_⟩;obtain⟨b2,On⟩:=s2
  have JF:b2.take s0.bs.length=s0.bs.set e [BB true,BB x']:=by
   have:=MG (n:=s0.bs.length) AA Nx hR.tk;rwa [IY] at this
  have n7:bs.length<=b2.length:=hR.len;have gb2:b2[s0.bs.length]?=some rb:=CN hR.tk AB;have Kn:Eu (s0.bs.length+1) b2 out acc:=hacc.keep gE rfl hR.tk;have N4:Eu (s0.bs.length+1) b2 r v2:=hR.RE.mono hlen λj c _ h=>h
  refine ai Kn N4 rfl AA AB ?_;intro a' b3 q1 q2 q3 q4;have hs3:=q4 hR.ok
  have n9:∀j c,j<s0.bs.length+1->b2[j]?=some c->b3[j]?=some c:=by
   intro j c hj hjc;refine q2 j c (λn ha=>?_) hjc;rcases Kn with ⟨h1,_⟩|⟨id,rows,h1,h2,_⟩
   all_goals grind
  have VK:b3.take s0.bs.length=s0.bs.set e [BB true,BB x']:=by
   rw[<-JF];refine FO λj=>?_
   grind
  have Su:b3[e]?=some [BB true,BB x']:=CN VK (by rw[Ca he]);have gb3:b3[s0.bs.length]?=some rb:=n9 _ _ AA gb2;have Ol:Ck (.AE []) (.AE []) s0.ts On:=(hch.trans w2).trans hR.QF;have oB:s0.bs.length+1<=b3.length:=AB;have hy3:Eu lo b3 l y:=hy0.keep hE0 rfl VK;have MV:Eu s0.bs.length b3 (out++r) a':=q1.mono AA λj c _ h=>h
  refine C2 (AU Su) (AM (AU Su) (AX (off:=0) Su rfl (Ak (Ak (Au (n:=(out++r).length) q1.BD (Ak (Fm (pk ?_))))))));have eb:decide (((out++r).length:Int)>32)=Aa 32 (out++r).length:=AB;rw[eb]
  have yw:∀(b4:List (List AV)),BP ⟨b4,On⟩->b4.take s0.bs.length=s0.bs.set e [BB true,BB true]->s0.bs.length+1<=b4.length->Eu s0.bs.length b4 (out++r) a'->o=none->yx R 0 0 0 (.ptr e 0) y (.ptr s0.bs.length 0) (AG k) a' (AG p) ⟨b4,On⟩ QR:=by
   intro b4 h1 h2 h3 h4 h5;refine kF (Be AA AA ?_);have gE4:b4[e]?=some [BB true,BB true]:=CN h2 (by rw[Ca he]);have:=nx (R:=R) (t4:=.ptr s0.bs.length 0) (t7:=AG k) (acc:=a') (p:=p+1) (s:=⟨b4,On⟩) (hy0.keep hE0 rfl h2) gE4 (hQ b4 On a' (out++r) true ⟨λ_=>rfl,λ_=>by rw[h5]⟩ AB h1 h2 AA h4 Ol)
   grind
  have ARW:o=none\/(x'=false/\Aa 32 (out++r).length=false/\I6 (Aa 32) (λc=>EK (Aa 32) l f (DV b k c)) (l.drop (p+1)) (out++r)=o)\/(x'=false/\Aa 32 (out++r).length=true/\o=none):=by
   have hE2:=hE.2 rfl
   grind
  cases Mk:Aa 32 (out++r).length with
  | true=>
   have ho:o=none:=AB;refine A1 (C2 (AU Su) (AM (AU Su) (C3 Su AD rfl (AO _) rfl (.inl (AO _)) ?_)));have e1:[BB true,BB x'].set (0+1) (BB true)=[BB true,BB true]:=rfl;rw[e1];refine yw _ (BP.set (s:=⟨b3,On⟩) hs3 rfl _) (by simp[*,EY]) AB (MV.keep Su rfl (d:=[BB true,BB true]) (by grind[List.take_of_length_le])) ho
  | false=>
   refine Ar ?_;rcases ARW with h|⟨rfl,h2,h3⟩|⟨_,h2,_⟩
   .cases x' with
    | true=>grind
    | false=>
     have hE2:=hE.2 rfl;cases hg:EK (Aa 32) l f (DV b k c) with
     | none=>rw[hg] at hE2; cases hE2
     | some m=>
      rw[hg] at EM hE2;simp only at EM hE2;obtain⟨rfl,_⟩:=hE2;rw[Mk] at EM;simp only[AL] at EM;refine kF (Be AA AA ?_);have:=D9 (p+1) (out++r) b3 On a' AA EM (by simpa[Aa] using Mk) hs3 VK gb3 oB q1 Ol;simpa using this
   .refine kF (Be AA AA ?_)
    have:=D9 (p+1) (out++r) b3 On a' AA h3 (by simpa[Aa] using h2) hs3 VK gb3 oB q1 Ol;simpa using this
   .rw[Mk] at h2; cases h2
end
section
variable {R:RT}
theorem OL {e:Nat} {s0:AQ} (hs0:BP s0) {bs:List (List AV)} {ts:List (Nat×Nat)} {l:List Br} {x:Bool} {v:AV} {Post:AV->AQ->Prop} (hT:bs.take s0.bs.length=s0.bs.set e [BB true,BB x]) (hb:Eu s0.bs.length bs l v) (hch:Ck (.AE []) (.AE []) s0.ts ts) (hP:∀v' s',NH e x l s0 s' v'->Post v' s'):QM true s0.bs.length Post v ⟨bs,ts⟩:=by
 refine AJ6 (X:=s0.bs.set e [BB true,BB x]) AD ?_ hT hb λv' bs' h1 h2 h3 h4=>hP v' ⟨bs',ts⟩ ⟨h1,h2,h3,h4,hch⟩
 have:=BP.set hs0 (c:=[BB true,BB x]) rfl ts (j:=e);intro b hb';have h1:=this b hb'
 grind
theorem sO {e:Nat} {l:List Br} {W w S T:Nat} (hl:∀c∈l,MC W c/\c.bounds.length<=w) (hT:(T:Int)<hole) (hS:S<2 ^ 37) (Sn:l.length<2 ^ 30) {lo:Nat} {y:AV}:∀(f:Nat),f<=2 ^ 27->∀(b:Br),vP (Sv b.bounds.length) b.body=true->(Al b.body).count hole<=f->size b.body+(Al b.body).count hole*W<=S->b.bounds.length+(Al b.body).count hole*w<=T->∀x,CU b x->∀(exc:Bool) (s:AQ),BP s->∀L:BI,L.ro=0->L.rt=0->L.rr 130=true->s.bs[e]?=some [BB true,BB exc]->Eu lo s.bs l y ->
  ∃v s',(∃r x',kA (EK (Aa 32) l f b) exc x' r/\r.length<=33*(f+1)/\NH e x' r s s' v)/\BG (env R) L 130 [.ptr e 0,x,y] s v s':=by
 intro f
 induction f with
 | zero=>
  intro _ b hb hf hbS hbT x hx exc s hs L hro El tU hE hy;have le:=(BA.1 hE).1;have same:s.bs.set e [BB true,BB exc]=s.bs:=by grind[List.set_getElem_self]
  obtain⟨row,rfl⟩:=hx.agg;obtain⟨c1,c2,c3⟩:=hx.cells;refine ARX AR ?_;rw[hro,El,tU];have g0:=Az s.bs row;refine yy (Bu (cs:=row) rfl c2 (Af g0 c1 (AH (J9 AA hx) ?_)));rintro _ rfl;have hn:Fh b.body=none:=by grind[Fh]
  rw[YU,hn];refine Ao (A1 (Af g0 c1 (NG hx ?_)));refine OL (x:=exc) (l:=[b]) hs AB (.inr ⟨_,[row],AD,rfl,AD,⟨hx,Ai⟩,AD⟩) (Ck.refl _ _) λv' s' h=>⟨[b],exc,⟨λh=>h,λh=>?_⟩,AD,h⟩
  grind[EK]
 | succ f ih=>
  intro hf20 b hb hf hbS hbT x hx exc s hs L hro El tU hE hy;have le:=(BA.1 hE).1;have same:s.bs.set e [BB true,BB exc]=s.bs:=by grind[List.set_getElem_self]
  obtain⟨row,rfl⟩:=hx.agg;obtain⟨c1,c2,c3⟩:=hx.cells;refine ARX AR ?_;rw[hro,El,tU];have g0:=Az s.bs row;refine yy (Bu (cs:=row) rfl c2 (Af g0 c1 (AH (J9 AA hx) ?_)));rintro _ rfl;rw[YU];have bf:(s.bs++[row]).take s.bs.length=s.bs.set e [BB true,BB exc]:=AB;cases hk:Fh b.body with
  | none=>
   refine Ao (A1 (Af g0 c1 (NG hx ?_)));refine OL (x:=exc) (l:=[b]) hs AB (.inr ⟨_,[row],AD,rfl,AD,⟨hx,Ai⟩,AD⟩) (Ck.refl _ _) λv' s' h=>⟨[b],exc,⟨λh=>h,λh=>?_⟩,AB,h⟩
   grind[EK]
  | some k=>
   simp only;refine Ao ?_;rw[A2 AA];refine Ar (AJ9 ?_);have hs1:BP ⟨s.bs++[row],s.ts⟩:=BP.app (s:=s) hs (c3 _);cases exc with
   | true=>
    have gE:=Ap hE row
    have:=nx (R:=R) (t4:=.ptr s.bs.length 0) (t7:=AG k) (acc:=.AE []) (p:=0) (s:=⟨s.bs++[row],s.ts⟩) (QR:=QM true s.bs.length (λv s'=>∃r x',kA (EK (Aa 32) l (f+1) b) true x' r/\r.length<=33*(f+1+1)/\NH e x' r s s' v)) (hy.mono (AY _) λj c _ h=>Ap h _) gE
     (OL (x:=true) (l:=[]) hs bf (.inl ⟨rfl,rfl⟩) (Ck.refl _ _) λv' s' h=>⟨[],true,⟨λ_=>rfl,λh=>(by cases h)⟩,AD,h⟩)
    omega
   | false=>
    have:=ACe (R:=R) (f:=f) (k:=k) (o:=EK (Aa 32) l (f+1) b) (QR:=QM true s.bs.length (λv s'=>∃r x',kA (EK (Aa 32) l (f+1) b) false x' r/\r.length<=33*(f+1+1)/\NH e x' r s s' v)) hl hT hS hb hk hf hbS hbT AA Sn hx (λb' h1 h2 h3 h4 x hx s hs L q1 q2 q3 q4 q5=>ih AA b' h1 h2 h3 h4 x hx false s hs L q1 q2 q3 q4 q5) le hE hy
     (λbs tk acc r x' h1 h2 h3 h4 h5 h6 h7=>OL hs h4 h6 h7 λv' s' h=>⟨r,x',h1,h2,h⟩) l.length 0 [] (s.bs++[row]) s.ts (.AE []) AA (by grind[EK]) AD hs1 bf g0 AD (.inl ⟨rfl,rfl⟩) (Ck.refl _ _)
    omega
theorem KB {e:Nat} {l:List Br} {y:AV} {exc:Bool} {s:AQ} (hs:BP s) (hE:s.bs[e]?=some [BB true,BB exc]) (hy:Eu 0 s.bs l y) {L:BI} (hro:L.ro=0) (El:L.rt=0) :
  ∃v s',(v=(bif exc||Aa 32 l.length then .AE [] else y)/\s'=⟨s.bs.set e [BB true,BB (exc||Aa 32 l.length)],s.ts⟩)/\BG (env R) L 99 [.ptr e 0,y] s v s':=by
 have le:=(BA.1 hE).1;refine m99 AR ?_;rw[hro,El];refine ARY (C2 (AU hE) (AM (AU hE) (AX (off:=0) hE rfl (Ak (Ak (Au (n:=l.length) hy.BD (Ak (Fm (pk ?_)))))))));have eb:decide ((l.length:Int)>32)=Aa 32 l.length:=AB;rw[eb]
 have nil:∀(x:Bool) (bs:List (List AV)),x=(exc||Aa 32 l.length)->x=true->bs=s.bs.set e [BB true,BB x]->AFF R 0 0 0 (.ptr e 0) y ⟨bs,s.ts⟩ (QM (L.rr 99) s.bs.length λv s'=>v=(bif exc||Aa 32 l.length then .AE [] else y)/\s'=⟨s.bs.set e [BB true,BB (exc||Aa 32 l.length)],s.ts⟩):=by
  rintro x bs h1 rfl rfl;have gE:(s.bs.set e [BB true,BB true])[e]?=some [BB true,BB true]:=by rw[Ca le]
  refine AFG (C2 (AU gE) (AM (AU gE) (AX (off:=1) gE rfl (A1 ?_))));have hok:=BP.set hs (c:=[BB true,BB true]) rfl s.ts (j:=e);have etk:(s.bs.set e [BB true,BB true]).take s.bs.length=s.bs.set e [BB true,BB true]:=CV AD;refine⟨.AE [],⟨s.bs.set e [BB true,BB true],s.ts⟩,?_,AB,by rw[<-h1]⟩;unfold Hy
  have hall:(((s.bs.set e [BB true,BB true]).take s.bs.length).all (Ag s.bs.length))=true:=by
   rw[etk,DE];intro b hb;have:=hok b hb
   grind
  grind[IC,Tel.close]
 cases Og:Aa 32 l.length with
 | true=>
  refine A1 (C2 (AU hE) (AM (AU hE) (C3 hE AD rfl (AO _) rfl (.inl (AO _)) ?_)))
  grind
 | false=>
  rw[Og] at nil;refine Ar ?_;cases exc with
  | true=>exact nil true _ rfl rfl (by grind[List.set_getElem_self])
  | false=>
   have same:s.bs.set e [BB true,BB false]=s.bs:=by grind[List.set_getElem_self]
   refine AFG (C2 (AU hE) (AM (AU hE) (AX (off:=1) hE rfl (Ar (ARa ?_)))));have etk:s.bs.take s.bs.length=s.bs:=O9
   have hall:((s.bs.take s.bs.length).all (Ag s.bs.length))=true:=by
    rw[etk,DE];exact hs
   refine⟨y,⟨s.bs,s.ts⟩,?_,rfl,AB⟩;unfold Hy;rw[etk] at hall;simp only[etk,hall,AN];rcases hy with ⟨rfl,_⟩|⟨id,rows,h1,rfl,h2,h3,h4⟩
   all_goals grind[IC,Nat.le_of_ble_eq_true,Tel.close]
end
theorem aj {L:BI} {s:AQ} {id:Nat} {a:AV} {old cs:List AV} {K:AQ->Prop} (hb:s.bs[id]?=some (a::old)) (ho:old.length=4) (hk:cs.length=4) (hro:L.ro<=id) (hok:cs.all A7=true) (hn:L.n0<=id) (h:K ⟨s.bs.set id (a::cs),s.ts⟩):HM L s 4 (.ptr id (0+1)) (.agg cs) K:=by
 have hce:cellsOf (.agg cs)=cs:=rfl;simp only[HM,hb,wO,hce];refine⟨⟨hk,AB,hro,hok,.inl hn,AA⟩,?_⟩
 match old,ho,cs,hk with
 | [o1,o2,o3,o4],_,[c1,c2,c3,c4],_=>exact h
def oX (exc:Bool) (o:Option (List Br)):Option (List Br):=bif exc then none else o
def ACf (R:RT) (e:Nat) (t:Ty) (o:Option (List Br)):Prop:=∀x,BH t x->∀(exc:Bool) (s:AQ),BP s->∀L:BI,L.ro=0->L.rt=0->L.rr 49=true->s.bs[e]?=some [BB true,BB exc] ->
 ∃v s',NH e (oX exc o).isNone ((oX exc o).getD []) s s' v/\BG (env R) L 49 [.ptr e 0,x] s v s'
section
variable {R:RT}
theorem Wz {e:Nat} {o:Option (List Br)} {b:Br} {ER:Ty} {Wb W w T C:Nat} (hb:MC Wb b) (hC:(Al b.body).length<=C) (hl:∀l,o=some l->(∀c∈l,MC W c/\c.bounds.length<=w)/\l.length<=32) (hT:(T:Int)<hole) (hbT:b.bounds.length+(Al b.body).length*w<=T) (hS:Wb+C*W<2 ^ 37) (hWb:Wb<=2 ^ 27) (AKA:ACf R e ER o) {x y:AV} (hx:CU b x) (hy:BH ER y) {exc:Bool} {s:AQ} (hs:BP s) {L:BI} (hro:L.ro=0) (El:L.rt=0) (tU:L.rr 100=true) (hE:s.bs[e]?=some [BB true,BB exc]) :
  ∃v s',(∃r x',kA (E9 (Aa 32) o ER b) exc x' r/\r.length<=33*(2 ^ 27+1)/\NH e x' r s s' v)/\BG (env R) L 100 [.ptr e 0,x,y] s v s':=by
 have hh:(hole:Int)=1073741824:=rfl;have hsiz:=hb.Ko;have hcs:=Gc b.body;have aH:((b.bounds.length:Nat):Int)<hole:=AA;obtain⟨b1,b2,b3⟩:=AI8 hb aH;obtain⟨r1,r2⟩:=AI9 b1 aH;have le:=(BA.1 hE).1;have same:s.bs.set e [BB true,BB exc]=s.bs:=by grind[List.set_getElem_self]
 obtain⟨row,rfl⟩:=hx.agg;obtain⟨c1,c2,c3⟩:=hx.cells;obtain⟨yr,rfl⟩:=hy.agg;obtain⟨y1,y2,y3⟩:=hy.cells;obtain⟨xa,xb,hxe,VN,hxb⟩:=id hx;cases hxe;obtain⟨d1,d2,d3⟩:=hxb.cells;refine Aal AR ?_;rw[hro,El,tU];refine AKB (Bu (cs:=xa::xb) rfl c2 (Bu (cs:=yr) rfl y2 ?_));simp only[Db,DD,Cc,Bo,B4,B6,CI,Nat.reduceAdd];have g0:(s.bs++[xa::xb,yr])[s.bs.length]?=some (xa::xb):=Et (j:=0) rfl rfl;have g1:(s.bs++[xa::xb,yr])[s.bs.length+1]?=some yr:=Et rfl rfl;have bf:(s.bs++[xa::xb,yr]).take s.bs.length=s.bs.set e [BB true,BB exc]:=AB;have hl0:(s.bs++[xa::xb,yr]).length=s.bs.length+2:=AD
 have hok:BP ⟨s.bs++[xa::xb,yr],s.ts⟩:=by
  intro d hd;simp only[B7,A3,D4,D5] at hd
  show Ag (s.bs++_).length d=true
  rcases hd with hd|rfl|rfl
  .exact Bg AD d (hs d hd)
  all_goals grind
 generalize s.bs++[xa::xb,yr]=bs at g0 g1 bf hl0 hok;refine AM (AU g0) (AX (off:=0) g0 rfl (Au (n:=b.bounds.length) (by rw[VN.BD,Ab]) (AM (AU g0) (Hp g0 d1 (AH (j8 (R:=R) b.bounds.length (t:=b.body) AA (Ox (Nw AA) _ hb.ok) hxb) ?_)))));intro vb Km;obtain⟨rb,rfl⟩:=Km.Fy.agg;obtain⟨e1,e2,e3⟩:=Km.Fy.cells;refine Bm (Bn (Az bs Z4) e1 rfl AK (AO _) e2 (.inl (AO _)) ?_);have es:(bs++[Z4]).set bs.length rb=bs++[rb]:=AD
 show Df _ ⟨(bs++[Z4]).set bs.length rb,s.ts⟩ _ _ _
 rw[es];have g2:=Az bs rb;have td:=Ap g0 rb;have g1':=Ap g1 rb;have ARb:BP ⟨bs++[rb],s.ts⟩:=BP.app (s:=⟨bs,s.ts⟩) hok (e3 _);have TZ:(bs++[rb]).take s.bs.length=s.bs.set e [BB true,BB exc]:=(ED AA rb).trans bf;have ZR:(bs++[rb]).length=s.bs.length+3:=AB;rw[hl0] at g2 ⊢;generalize bs++[rb]=rj at g2 td g1' ARb TZ ZR;have gE:rj[e]?=some [BB true,BB exc]:=CN TZ (by rw[Ca le]);refine Af g2 e1 (AH (yp (R:=R) b.bounds.length (t:=Hw b.bounds.length b.body) AA Km.Fy) ?_);rintro _ rfl
 have q0:E9 (Aa 32) o ER b=bif oI (·==(b.bounds.length:Int)) (Hw b.bounds.length b.body) then some [⟨b.bounds++[ER],Hw b.bounds.length b.body⟩]
   else match Fh (JE b.bounds.length hole (Hw b.bounds.length b.body)) with
    | none=>some [⟨b.bounds,JE b.bounds.length hole (Hw b.bounds.length b.body)⟩]
    | some _=>match o with
     | none=>none
     | some l=>EK (Aa 32) l (Al b.body).length ⟨b.bounds,JE b.bounds.length hole (Hw b.bounds.length b.body)⟩:=AR
 have one:∀(c:Br) (rc:List AV) (bs2:List (List AV)) (KS:List (Nat×Nat)),CU c (.agg rc)->E9 (Aa 32) o ER b=some [c]->bs2.take s.bs.length=s.bs.set e [BB true,BB exc]->s.bs.length<=bs2.length->Ck (.AE []) (.AE []) s.ts KS ->
   QM true s.bs.length (λv s'=>∃r x',kA (E9 (Aa 32) o ER b) exc x' r/\r.length<=33*(2 ^ 27+1)/\NH e x' r s s' v) (.ref bs2.length 0 1 5) ⟨bs2++[rc],KS⟩:=by
  intro c rc bs2 KS h1 h2 h3 h4 h5;refine OL (x:=exc) (l:=[c]) hs ((ED h4 rc).trans h3) (.inr ⟨_,[rc],h4,rfl,AD,⟨h1,Ai⟩,AD⟩) h5 λv' s' h=>⟨[c],exc,⟨λh=>h,λh=>?_⟩,AD,h⟩
  grind
 cases ho:oI (·==(b.bounds.length:Int)) (Hw b.bounds.length b.body) with
 | true=>
  rw[ho] at q0;simp only[AN] at q0;refine A1 (yq (AM (AU td) (AX (off:=0) td rfl ⟨AK,FG (es:=[]) (l:=b.bounds) (.inl rfl) rfl AB VN λa10 OD w1 w2=>?_⟩)));rw[Cc] at w1;refine Af g1' y1 (Er hy ⟨AK,Ja w1 rfl AA λtV KS v1 v2=>?_⟩);have EN:CU ⟨b.bounds++[ER],Hw b.bounds.length b.body⟩ (.agg (tV::rb)):=⟨tV,rb,rfl,v1.A4,Km.Fy⟩;refine Af g2 e1 (HO (nk v1.A4.ok v1.A4.cells Km.Fy) (NG EN ⟨Af g1' y1 (Ho hy),Af g2 e1 (Ho Km.Fy),Af g2 e1 (Ho Km.Fy),?_⟩));exact one _ _ rj KS EN q0 TZ AA ((Ck.refl (.AE []) s.ts).side w2 (DW.AE _ _) |>.side v2 w2.VM)
 | false=>
  rw[ho] at q0;simp only[AL] at q0;refine Ar (AKC (Af g2 e1 (AH (MF (R:=R) b.bounds.length hole (t:=Hw b.bounds.length b.body) AA (Ox (Nw AA) _ b1) Km.Fy) ?_)));intro vr hvr;obtain⟨rr,rfl⟩:=hvr.Fy.agg;obtain⟨f1,f2,f3⟩:=hvr.Fy.cells;refine AM (AU td) (aj td d1 f1 (AO _) f2 (AO _) ?_);have EN:CU ⟨b.bounds,JE b.bounds.length hole (Hw b.bounds.length b.body)⟩ (.agg (xa::rr)):=⟨xa,rr,rfl,VN,hvr.Fy⟩;obtain⟨k1,k2,k3⟩:=EN.cells;have gb:(rj.set s.bs.length (xa::rr))[s.bs.length]?=some (xa::rr):=BZ td;have gy:(rj.set s.bs.length (xa::rr))[s.bs.length+1]?=some yr:=BV g1' AA;have JF:(rj.set s.bs.length (xa::rr)).take s.bs.length=s.bs.set e [BB true,BB exc]:=(Cy (AY _)).trans TZ;have aR:BP ⟨rj.set s.bs.length (xa::rr),s.ts⟩:=BP.set (s:=⟨rj,s.ts⟩) ARb (k3 _) _;have Sd:(rj.set s.bs.length (xa::rr)).length=s.bs.length+3:=AB;generalize rj.set s.bs.length (xa::rr)=bs2 at gb gy JF aR Sd;have gE2:bs2[e]?=some [BB true,BB exc]:=CN JF (by rw[Ca le]);refine Af gb k1 (AH (J9 AB EN) ?_);rintro _ rfl;rw[YU];simp only;cases hk:Fh (JE b.bounds.length hole (Hw b.bounds.length b.body)) with
  | none=>
   grind[Ao,A1,Af,NG,Ck.refl]
  | some k=>
   rw[hk] at q0;simp only at q0 ⊢;refine Ao ?_;rw[A2 AA];refine Ar (AKD (Af gb k1 (Af gy y1 ?_)));obtain⟨v1,s1,hR1,OU⟩:=AKA (.agg yr) hy exc ⟨bs2,s.ts⟩ aR (CT (env R) 100 0 0 0) rfl rfl AR gE2;refine⟨_,_,OU,?_⟩;obtain⟨bs3,Nu⟩:=s1;have iV:bs2.length<=bs3.length:=hR1.len;have gb3:bs3[s.bs.length]?=some (xa::rr):=CN hR1.tk AB;have Su:bs3[e]?=some [BB true,BB (oX exc o).isNone]:=CN hR1.tk (by rw[Ca AB]);have E6:(Al (JE b.bounds.length hole (Hw b.bounds.length b.body))).length=(Al b.body).length:=by simp[*,J1,EL,Kz]
   have RI:(Al (JE b.bounds.length hole (Hw b.bounds.length b.body))).count hole<=(Al b.body).length:=AB
   have hl':∀c∈(oX exc o).getD [],MC W c/\c.bounds.length<=w:=by
    intro c hc;cases exc with
    | true=>cases hc
    | false=>
     cases ho':o with
     | none=>rw[ho'] at hc; cases hc
     | some l=>rw[ho'] at hc; exact(hl l ho').1 c hc
   have Sn:((oX exc o).getD []).length<2 ^ 30:=by grind[oX]
   obtain⟨v2,s2,⟨r,x',hEO,hrl,hR2⟩,Sg⟩:=sO (R:=R) (T:=T) (S:=Wb+C*W) hl' hT hS Sn (Al b.body).length AA ⟨b.bounds,JE b.bounds.length hole (Hw b.bounds.length b.body)⟩ r1 RI (by
    have m1:(Al (JE b.bounds.length hole (Hw b.bounds.length b.body))).count hole*W<=C*W:=B5 _ AA
    grind) (by
    have m1:(Al (JE b.bounds.length hole (Hw b.bounds.length b.body))).count hole*w<=(Al b.body).length*w:=B5 _ RI
    grind) (.agg (xa::rr)) EN (oX exc o).isNone ⟨bs3,Nu⟩ hR1.ok (CT (env R) 100 0 0 0) rfl rfl AR Su hR1.RE
   refine⟨_,_,Sg,Af gb3 k1 ?_,?_⟩
   .simp[Tel.C1,Ij]
    exact⟨BF.C1 VN,by have:=Ho hvr.Fy; assumption⟩
   .obtain⟨bs4,ts4⟩:=s2
    have hT4:bs4.take s.bs.length=s.bs.set e [BB true,BB x']:=by
     have h1:=MG (n:=s.bs.length) AA JF hR1.tk;rw[IY] at h1;have h2:=MG (n:=s.bs.length) AB h1 hR2.tk;rwa [IY] at h2
    refine OL (x:=x') (l:=r) hs hT4 (hR2.RE.mono AB λj c _ h=>h) (hR1.QF.trans hR2.QF) λv' s' h=>⟨r,x',⟨λhe=>?_,λhe=>?_⟩,AA,h⟩
    .subst he
     exact hEO.1 rfl
    .subst he
     rw[q0];cases ho':o with
     | none=>
      subst ho';exact hEO.1 rfl
     | some l=>
      subst ho';exact hEO.2 rfl
end
def H7 (ls:List (List Br)):List (List PV):=ls.map λl=>[.list (l.map Dm)]
theorem Lb (ls:List (List Br)):(H7 ls).length=ls.length:=by simp[H7]
theorem Lc (b:Br):(Dm b).length=5:=by simp[Dm,Aj]
theorem Rc {a b:List AV} {p q:List PV} (ha:CD a=some p) (hb:CD b=some q):CD (a++b)=some (p++q):=by
 induction a generalizing p with
 | nil=>
  grind[CD]
 | cons x a ih=>
  grind[CD]
theorem CU.CD {b:Br} {row:List AV} (h:CU b (.agg row)):CD row=some (Dm b):=by
 obtain⟨a,y,he,ha,ht⟩:=h;cases he;rcases hb:b.body with ⟨k,n,i,ts⟩
 rw[hb] at ht;obtain⟨a2,hy,UO⟩:=ht;cases hy
 have h1:Tel.CD [a,AG k,SS n,AG i,a2]=some [.list (AZ b.bounds),.sc (.int .i64 k),.sc (.string ⟨n.toArray⟩),.sc (.int .i64 i),.list (AZ ts)]:=by
  simp only[Tel.CD,ha.KM,UO.KM];rfl
 grind[Dm,Ah]
theorem Vm {l:List Br} {rows:List (List AV)} (h:CE (λb row=>CU b (.agg row)) l rows):CD rows.flatten=some ((l.map Dm).flatten):=by
 induction l generalizing rows with
 | nil=>
  cases rows with
  | nil=>rfl
  | cons _ _=>exact h.elim
 | cons b l ih=>
  cases rows with
  | nil=>exact h.elim
  | cons row rows=>
   rw[NV,CP,NV];exact Rc h.1.CD (ih h.2)
theorem ARc {a:AV} (ha:A7 a=true) (hc:cellsOf a=[a]):Ew Z4 [(0,1,AG 3),(3,1,a)]=some [AG 3,SS [],AG 0,a]:=by simp_all[cellsOf,A7,Ew,setCells]
theorem AFH {E:Env} {s:AQ} {c:Br} {K:AV->Prop} (h:K (.agg ((Ah c.body).map .pv))):Df E s (some 4) (.Ct (Dm c) (0+1)) K:=by
 simp only[Df,DQ];refine⟨by simp[Dm,Aj],?_⟩
 have e:(((Dm c).map AV.pv).drop (0+1)).take 4=(Ah c.body).map .pv:=by
  simp only[Dm,CP,CI,List.drop_succ_cons,JL];exact CV (by simp[Aj])
 rw[e];exact h
theorem AFI {E:Env} {s:AQ} {c:Br} {K:AV->Prop} (h:K (.pv (.list (AZ c.bounds)))):Df E s none (.Ct (Dm c) (0+0)) K:=h
theorem oC {s:AQ} {r:List PV} {off d:Nat} {K:AV->Prop} (h:K (.Ct r (off+d))):DY s (.Ct r off) d K:=h
theorem QU (r:Br) (n:Nat):Tel.C1 (.Ct (Dm r) n) (.Ct (Dm r) n)=true:=by simp[*,Mj,Dm,Ni,DU,Po,Tel.C1]
theorem NI:∀l:List Br,JA (l.map Dm) (l.map Dm)=true
 | []=>rfl
 | b::l=>by
  have:Mj (Dm b) (Dm b)=true:=by grind[Dm,Mj,Ni,DU,Po]
  simp[JA,this,NI l]
theorem YV (l:List Br):Tel.C1 (.pv (.list (l.map Dm))) (.pv (.list (l.map Dm)))=true:=by
 simp[Tel.C1,Ni,NI]
theorem YW (l:List Br):Tel.C1 (.Ct [.list (l.map Dm)] 0) (.Ct [.list (l.map Dm)] 0)=true:=by
 simp[Tel.C1,Mj,Ni,NI]
section
variable {R:RT}
theorem ACh {T:Nat} {e:Nat} {ls:List (List Br)} {i k j:Nat} {l outs next:List Br} {b c:Br} {args:List Ty} {W S:Nat} {t5 t9 t11:AV} (h5:BF t5 (H7 ls)) (hi:ls[i]?=some l) (hj:l[j]?=some c) (hk:outs[k]?=some b) (hb:MC S b) (hbe:b.body=.mk 3 [] 0 args) (hc:MC W c) (rV:b.bounds.length+c.bounds.length<=T) (hT:(T:Int)<hole) (hS:S<2 ^ 36) (hW:W<2 ^ 36) (Nk:next.length<2 ^ 20)
  {N:Nat} {bs:List (List AV)} {tk:List (Nat×Nat)} (hN:N<=bs.length) (hs:BP ⟨bs,tk⟩) (h9:Eu 0 bs outs t9) (h11:Eu N bs next t11) {QR:QT}
  (hQ:∀a' bs' GJ,Eu N bs' (next++[⟨b.bounds++c.bounds,.mk 3 [] 0 (args++[Hr b.bounds.length c.body])⟩]) a'->BP ⟨bs',GJ⟩->bs'.take N=bs.take N->N<=bs'.length->Ck (.AE []) (.AE []) tk GJ->yz R 0 0 0 (.ptr e 0) t5 t9 (AG i) a' (AG k) (AG j) ⟨bs',GJ⟩ QR) :
  y6 R 0 0 0 (.ptr e 0) t5 t9 (AG i) t11 (AG k) (AG j) ⟨bs,tk⟩ QR:=by
 have hh:(hole:Int)=1073741824:=rfl;have aH:=hb.Ko;rw[hbe] at aH;simp only[size] at aH;have hargs:=BS args;have rE:(H7 ls)[i]?=some [.list (l.map Dm)]:=by grind[H7]
 have rB:(l.map Dm)[j]?=some (Dm c):=AB;have eix:∀n:Nat,(AG ((n:Nat):Int))=AG n:=λ_=>rfl
 have kG:∀(s:AQ) (K:AV->Prop),K (.Ct [.list (l.map Dm)] 0)->ND s 1 t5 (AG i) K:=λs K h=>BX h5 (row:=[.list (l.map Dm)]) AA AB rfl AA h
 have ACi:∀(s:AQ) (K:AV->Prop),K (.Ct (Dm c) 0)->ND s 5 (.pv (.list (l.map Dm))) (AG j) K:=λs K h=>BR (.list _) (row:=Dm c) AA AB (Lc c) AA h
 refine AKE (Rb h9 hk λrb hrb=>?_);obtain⟨c1,c2,c3⟩:=hrb.cells;obtain⟨xa,xb,hxe,VN,hxb⟩:=id hrb;cases hxe;rw[hbe] at hxb;obtain⟨xg,hxg,Aao⟩:=hxb;cases hxg;refine Bm (QO (Az bs Z5) c1 (AO _) c2 (AO _) ?_);have es:(bs++[Z5]).set bs.length (xa::[AG 3,SS [],AG 0,xg])=bs++[xa::[AG 3,SS [],AG 0,xg]]:=AD;simp only;rw[es];have hlA:(bs++[xa::[AG 3,SS [],AG 0,xg]]).length=bs.length+1:=AD;have hs1:BP ⟨bs++[xa::[AG 3,SS [],AG 0,xg]]++[Z4],tk⟩:=BP.app (s:=⟨bs++[xa::[AG 3,SS [],AG 0,xg]],tk⟩) (BP.app (s:=⟨bs,tk⟩) hs (c3 _)) rfl;have gA:(bs++[xa::[AG 3,SS [],AG 0,xg]]++[Z4])[bs.length]?=some (xa::[AG 3,SS [],AG 0,xg]):=Ap (Az bs _) _;have gX:(bs++[xa::[AG 3,SS [],AG 0,xg]]++[Z4])[bs.length+1]?=some Z4:=AD;have Sd:(bs++[xa::[AG 3,SS [],AG 0,xg]]++[Z4]).length=bs.length+2:=AD
 have JF:(bs++[xa::[AG 3,SS [],AG 0,xg]]++[Z4]).take N=bs.take N:=by
  rw[ED AA,ED hN]
 have ARd:Eu N (bs++[xa::[AG 3,SS [],AG 0,xg]]++[Z4]) next t11:=h11.mono (AY _) λj c _ h=>Ap (Ap h _) _
 rw[hlA];generalize bs++[xa::[AG 3,SS [],AG 0,xg]]++[Z4]=b2 at hs1 gA gX Sd JF ARd;have fA:∀(ts:List (Nat×Nat)) d,DY ⟨b2,ts⟩ (.ptr bs.length 0) d λv=>Tel.C1 v (.ptr bs.length (0+d))=true:=λts d=>AM (AU gA) (DL _ _)
 refine yq (AM (AU gA) (AM (AU gA) (AX (off:=4) gA rfl ⟨AK,FG (es:=[]) (l:=args) (.inl rfl) rfl AB Aao λa73 OD w1 w2=>?_⟩)));rw[Cc] at w1;have hlen:∀(s:AQ) (K:AV->Prop),K (AG b.bounds.length)->Gk s xa K:=λs K h=>Au (n:=b.bounds.length) (by rw[VN.BD,Ab]) h
 refine kG _ _ (Ek (ACi _ _ (oC (AFH (AM (AU gA) (AX (off:=0) gA rfl (hlen _ _ (AH (Ow (R:=R) (n:=b.bounds.length) AA c.body (by have:=hc.Ko; omega) (Ox (Nw AA) _ hc.ok) _ (A8.Bk c.body)) ?_))))))));intro sv hsv;refine Er hsv.Fy ⟨AK,Ja w1 rfl AA λa87 KS v1 v2=>?_⟩;have hx4:BH (.mk 3 [] 0 (args++[Hr b.bounds.length c.body])) (.agg [AG 3,SS [],AG 0,a87]):=⟨a87,rfl,v1.A4⟩;obtain⟨k1,k2,k3⟩:=hx4.cells;refine HO (cs:=[AG 3,SS [],AG 0,a87]) (ARc v1.A4.ok v1.A4.cells) (Bn (s:=⟨b2,KS⟩) gX k1 rfl AK (AO _) k2 (.inl (AO _)) ?_);have eqn:∀n:Int,Tel.C1 (AG n) (AG n)=true:=λn=>by simp[Tel.C1,Ni,Fa]
 have eqz:∀ts:List (Nat×Nat),(wO (KN (.ptr (bs.length+1) 0)) λid=>wO (AQ.mk b2 ts).bs[id]? λcs'=>Ij cs' [(AG 0),(SS []),(AG 0),(.AE [])]=true):=by
  intro ts
  show(wO (AQ.mk b2 ts).bs[bs.length+1]? λcs'=>Ij cs' [(AG 0),(SS []),(AG 0),(.AE [])]=true)
  simp only[gX,wO];rfl
 refine⟨kG _ _ (YW l),Ek (YV l),ACi _ _ (QU c 0),oC (QU c _),AFH (NA _),fA _ 0,AX (off:=0) gA rfl (BF.C1 VN),hlen _ _ (eqn _),eqz tk,eqz OD,eqz OD,eqz KS,?_⟩;have gA3:(b2.set (bs.length+1) [AG 3,SS [],AG 0,a87])[bs.length]?=some (xa::[AG 3,SS [],AG 0,xg]):=BV gA AA;have gX3:(b2.set (bs.length+1) [AG 3,SS [],AG 0,a87])[bs.length+1]?=some [AG 3,SS [],AG 0,a87]:=BZ gX;have hs3:BP ⟨b2.set (bs.length+1) [AG 3,SS [],AG 0,a87],KS⟩:=BP.set (s:=⟨b2,KS⟩) hs1 (k3 _) _;have VK:(b2.set (bs.length+1) [AG 3,SS [],AG 0,a87]).take N=bs.take N:=by grind[Cy]
 have ARe:Eu N (b2.set (bs.length+1) [AG 3,SS [],AG 0,a87]) next t11:=by
  rcases ARd with h|⟨id,rows,q1,q2,q3,q4,q5⟩
  .exact .inl h
  .refine .inr ⟨id,rows,q1,q2,?_,q4,q5⟩
   grind[IU,List.getElem?_set_ne]
 have iV:(b2.set (bs.length+1) [AG 3,SS [],AG 0,a87]).length=bs.length+2:=AB;generalize b2.set (bs.length+1) [AG 3,SS [],AG 0,a87]=b3 at gA3 gX3 hs3 VK ARe iV;refine yq (AM (AU gA3) (AX (off:=0) gA3 rfl ⟨AK,FG (es:=[]) (l:=b.bounds) (.inl rfl) rfl AB VN λa93 Nu x1 x2=>?_⟩));rw[Cc] at x1;refine kG _ _ (Ek (ACi _ _ (oC (AFI ⟨AK,FG x1 rfl AA (.inl (.list _)) λsP ts4 y1 y2=>?_⟩))));have EN:CU ⟨b.bounds++c.bounds,.mk 3 [] 0 (args++[Hr b.bounds.length c.body])⟩ (.agg (sP::[AG 3,SS [],AG 0,a87])):=⟨sP,_,rfl,y1.A4,hx4⟩;obtain⟨z1,z2,z3⟩:=EN.cells;refine Af gX3 k1 (HO (nk y1.A4.ok y1.A4.cells hx4) (NG EN ⟨AK,?_⟩));have hs4:BP ⟨b3++[sP::[AG 3,SS [],AG 0,a87]],ts4⟩:=BP.app (s:=⟨b3,ts4⟩) hs3 (z3 _);have ARf:Eu N (b3++[sP::[AG 3,SS [],AG 0,a87]]) next t11:=ARe.mono (AY _) λj c _ h=>Ap h _
 refine yL (s:=⟨b3++[sP::[AG 3,SS [],AG 0,a87]],ts4⟩) EN (Az b3 _) ARf rfl AA ?_ AB;intro a' bs' n1 n2 n3 n4 _;refine⟨kG _ _ (YW l),Ek (YV l),ACi _ _ (QU c 0),oC (QU c _),AFI (by simp[Tel.C1,Ni,DU]),Af gX3 k1 (Ho hx4),Af gX3 k1 (Ho hx4),?_⟩;refine hQ a' bs' ts4 n1 (n4 hs4) ?_ AA ?_
 .rw[<-VK]
  refine FO λj=>?_
  by_cases hj:j<N
  .rw[TH hj,TH hj]
   have hj3:j<b3.length:=AA;have h1:(b3++[sP::[AG 3,SS [],AG 0,a87]])[j]?=some b3[j]:=by rw[CX hj3,Ay hj3]
   rw[n2 j _ (λm h=>by
    rcases ARf with ⟨h2,_⟩|⟨id,rows,h2,h3,_⟩
    all_goals grind) h1,Ay hj3]
  grind
 .exact((((Ck.refl (.AE []) tk).side w2 (DW.AE _ _)).side v2 w2.VM).trans ((Ck.refl (.AE []) KS).side x2 (DW.AE _ _) |>.side y2 x2.VM))
end
def prB (b c:Br):Br:=⟨b.bounds++c.bounds,match b.body with
 | .mk _ _ _ args=>.mk 3 [] 0 (args++[Hr b.bounds.length c.body])⟩
theorem Vn (out l:List Br):HN out l=out.flatMap λb=>l.map (prB b):=rfl
theorem y7 {b c:Br} {args:List Ty} (h:b.body=.mk 3 [] 0 args):prB b c=⟨b.bounds++c.bounds,.mk 3 [] 0 (args++[Hr b.bounds.length c.body])⟩:=by
 rw[prB,h]
theorem Eu.ak {lo N:Nat} {bs X:List (List AV)} {l:List Br} {a:AV} (h:Eu lo X l a) (hT:bs.take N=X):Eu lo bs l a:=
 h.mono (AY _) λ_ _ _ hj=>CN hT hj
section
variable {R:RT}
structure TpG (S N:Nat) (b:Br):Prop where
 g:MC S b
 n:b.bounds.length<=N
 t:∃args,b.body=.mk 3 [] 0 args
theorem y8 {T e:Nat} {ls:List (List Br)} {i k:Nat} {l outs:List Br} {b:Br} {W S N w:Nat} {t5 t9:AV} (h5:BF t5 (H7 ls)) (hi:ls[i]?=some l) (hk:outs[k]?=some b) (hb:TpG S N b) (hl:∀c∈l,MC W c/\c.bounds.length<=w) (rV:N+w<=T) (hT:(T:Int)<hole) (hS:S<2 ^ 36) (hW:W<2 ^ 36) (Sn:l.length<2 ^ 30) {X:List (List AV)} (h9:Eu 0 X outs t9) {O7:List (Nat×Nat)} {QR:QT} {M:Nat} (hM:M<2 ^ 20)
  {kH:List Br}
  (hQ:∀bs tk a,BP ⟨bs,tk⟩->bs.take X.length=X->X.length<=bs.length->Eu X.length bs (kH++l.map (prB b)) a->Ck (.AE []) (.AE []) O7 tk->y9 R 0 0 0 (.ptr e 0) t5 t9 (AG i) a (AG k) ⟨bs,tk⟩ QR) (h0:kH.length+l.length<=M) :
  ∀(n j:Nat) (bs:List (List AV)) (tk:List (Nat×Nat)) (t11:AV),j+n=l.length->BP ⟨bs,tk⟩->bs.take X.length=X->X.length<=bs.length->Eu X.length bs (kH++(l.take j).map (prB b)) t11->Ck (.AE []) (.AE []) O7 tk ->
   zA R 0 0 0 (.ptr e 0) t5 t9 (AG i) t11 (AG k) (AG j) ⟨bs,tk⟩ QR:=by
 have rE:(H7 ls)[i]?=some [.list (l.map Dm)]:=by grind[H7]
 have kG:∀(s:AQ) (K:AV->Prop),K (.Ct [.list (l.map Dm)] 0)->ND s 1 t5 (AG i) K:=λs K h=>BX h5 (row:=[.list (l.map Dm)]) AA AB rfl AA h
 have hlen:∀(s:AQ) (K:AV->Prop),K (AG l.length)->Gk s (.pv (.list (l.map Dm))) K:=λs K h=>Au (n:=l.length) (by simp[BD,rowsOf]) h
 intro n
 induction n with
 | zero=>
  intro j bs tk t11 hj hs Nx hN h11 hch;refine zB (kG _ _ (Ek (hlen _ _ (Ao ?_))));rw[A2 AA];rw[CV AA] at h11;exact Ar (hQ bs tk t11 hs Nx hN h11 hch)
 | succ n ih=>
  intro j bs tk t11 hj hs Nx hN h11 hch;refine zB (kG _ _ (Ek (hlen _ _ (Ao ?_))));rw[Aq AA];obtain⟨c,hc⟩:∃c,l[j]?=some c:=⟨_,Ay AA⟩;obtain⟨yu,hcw⟩:=hl c (A5 hc);obtain⟨args,hargs⟩:=hb.t;have hbn:=hb.n;refine A1 (ACh (T:=T) h5 hi hc hk hb.g hargs yu AA hT hS hW (next:=kH++(l.take j).map (prB b)) AB hN hs (h9.ak Nx) h11 ?_);intro a' bs' GJ q1 q2 q3 q4 q5;refine AKF (Be AA AA ?_);have e1:kH++(l.take j).map (prB b)++[⟨b.bounds++c.bounds,.mk 3 [] 0 (args++[Hr b.bounds.length c.body])⟩]=kH++(l.take (j+1)).map (prB b):=by grind[List.take_add_one,y7]
  rw[e1] at q1;have:=ih (j+1) bs' GJ a' AA q2 (q3.trans Nx) q4 q1 (hch.trans q5)
  grind
theorem AKG {T e:Nat} {ls:List (List Br)} {i:Nat} {l outs:List Br} {W S N w:Nat} {t5 t9:AV} (h5:BF t5 (H7 ls)) (hi:ls[i]?=some l) (ho:∀b∈outs,TpG S N b) (WQ:outs.length<=32) (hl:∀c∈l,MC W c/\c.bounds.length<=w) (rV:N+w<=T) (hT:(T:Int)<hole) (hS:S<2 ^ 36) (hW:W<2 ^ 36) (Sn:l.length<=32) {X:List (List AV)} (h9:Eu 0 X outs t9) {O7:List (Nat×Nat)} {QR:QT}
  (hQ:∀bs tk a,BP ⟨bs,tk⟩->bs.take X.length=X->X.length<=bs.length->Eu X.length bs (HN outs l) a->Ck (.AE []) (.AE []) O7 tk->zC R 0 0 0 (.ptr e 0) t5 (AG i) a ⟨bs,tk⟩ QR) :
  ∀(n k:Nat) (bs:List (List AV)) (tk:List (Nat×Nat)) (t11:AV),k+n=outs.length->BP ⟨bs,tk⟩->bs.take X.length=X->X.length<=bs.length->Eu X.length bs (HN (outs.take k) l) t11->Ck (.AE []) (.AE []) O7 tk ->
   AFJ R 0 0 0 (.ptr e 0) t5 t9 (AG i) t11 (AG k) ⟨bs,tk⟩ QR:=by
 have Aas:∀o:List Br,(HN o l).length=o.length*l.length:=by
  intro o;rw[Vn]
  induction o with
  | nil=>simp
  | cons b o ih=>grind
 intro n
 induction n with
 | zero=>
  intro k bs tk t11 hk hs Nx hN h11 hch;refine zD (Au (n:=outs.length) (h9.ak Nx).BD (Ao ?_))
  grind[Ar]
 | succ n ih=>
  intro k bs tk t11 hk hs Nx hN h11 hch;refine zD (Au (n:=outs.length) (h9.ak Nx).BD (Ao ?_));rw[Aq AA];obtain⟨b,hb⟩:∃c,outs[k]?=some c:=⟨_,Ay AA⟩;refine A1 (AKH ?_);have LK:=Aas (outs.take k);rw[List.length_take] at LK;have hmul:min k outs.length*l.length<=32*32:=PJ AA Sn;refine y8 (T:=T) (M:=2 ^ 12) h5 hi hb (ho b (A5 hb)) hl rV hT hS hW AA h9 (O7:=O7) AK (kH:=HN (outs.take k) l) ?_ AA l.length 0 bs tk t11 AA hs Nx hN AB hch;intro bs' GJ a q1 q2 q3 q4 q5;refine AKI (Be AA AA ?_);have e1:HN (outs.take k) l++l.map (prB b)=HN (outs.take (k+1)) l:=by grind[Vn,List.take_add_one]
  grind
theorem ACk {e:Nat} {ls:List (List Br)} {t5:AV} (h5:BF t5 (H7 ls)) (Sn:ls.length<2 ^ 40) {n0:Nat} {Y:List (List AV)} {O7:List (Nat×Nat)} (he:e<n0) {QR:QT}
  (hQ:∀bs tk,BP ⟨bs,tk⟩->bs.take n0=Y->n0<=bs.length->Ck (.AE []) (.AE []) O7 tk->QR (.AE []) ⟨bs,tk⟩) :
  ∀(n i:Nat) (bs:List (List AV)) (tk:List (Nat×Nat)),i+n=ls.length->BP ⟨bs,tk⟩->bs.take n0=Y->n0<=bs.length->bs[e]?=some [BB true,BB true]->Ck (.AE []) (.AE []) O7 tk->zE R 0 0 0 (.ptr e 0) t5 (.AE []) (AG i) ⟨bs,tk⟩ QR:=by
 intro n
 induction n with
 | zero=>
  intro i bs tk hi hs Nx hN hE hch;refine oD (Au (n:=ls.length) (by rw[h5.BD,Lb]) (Ao ?_));rw[A2 AA];exact Ar (AFK (hQ bs tk hs Nx hN hch))
 | succ n ih=>
  intro i bs tk hi hs Nx hN hE hch;refine oD (Au (n:=ls.length) (by rw[h5.BD,Lb]) (Ao ?_));rw[Aq AA];refine A1 (AFL (zD (Au (n:=0) rfl (Ao ?_))));rw[A2 AA];refine Ar (zF ?_);obtain⟨v,s',⟨rfl,rfl⟩,hc⟩:=KB (R:=R) (e:=e) (l:=[]) (y:=.AE []) (exc:=true) (s:=⟨bs,tk⟩) hs hE (.inl ⟨rfl,rfl⟩) (L:=CT (env R) 98 0 0 0) rfl rfl;refine⟨_,_,hc,zH (Be AA AA ?_)⟩;have e1:bs.set e [BB true,BB (true||Aa 32 ([]:List Br).length)]=bs:=by grind[List.set_getElem_self]
  simp only[e1];have:=ih (i+1) bs tk AA hs Nx hN hE hch
  grind
theorem fO {T e:Nat} (hT:(T:Int)<hole) {ls:List (List Br)} {t5:AV} (h5:BF t5 (H7 ls)) (Sn:ls.length<2 ^ 40) {s0:AQ} (he:e<s0.bs.length) {S:Nat} (hS:S<2 ^ 36) {o:Option (List Br)} {QR:QT}
  (hQ:∀bs tk a x' r,(x'=o.isNone/\r=o.getD [])->BP ⟨bs,tk⟩->bs.take s0.bs.length=s0.bs.set e [BB true,BB x']->s0.bs.length<=bs.length->Eu s0.bs.length bs r a->Ck (.AE []) (.AE []) s0.ts tk->QR a ⟨bs,tk⟩) :
  ∀(rest:List (List Br)) (ws vs:List Nat) (i:Nat) (outs:List Br) (Sb N:Nat) (bs:List (List AV)) (tk:List (Nat×Nat)) (t9:AV),ls.drop i=rest->i<=ls.length->CE (λl w=>∀c∈l,MC w c) rest ws->CE (λl w=>∀c∈l,c.bounds.length<=w) rest vs->(∀l∈rest,l.length<=32)->Ir (Aa 32) rest outs=o->(∀b∈outs,TpG Sb N b)->outs.length<=32->Sb+ws.sum<=S->N+vs.sum<=T->BP ⟨bs,tk⟩->bs.take s0.bs.length=s0.bs.set e [BB true,BB false]->s0.bs.length<=bs.length->Eu s0.bs.length bs outs t9->Ck (.AE []) (.AE []) s0.ts tk ->
   zE R 0 0 0 (.ptr e 0) t5 t9 (AG i) ⟨bs,tk⟩ QR
 | [],ws,vs,i,outs,Sb,N,bs,tk,t9,hd,Aat,_,_,_,ho,hG,WQ,hSb,hN,hs,Nx,hlen,h9,hch=>by
  have hi:ls.length<=i:=H8;refine oD (Au (n:=ls.length) (by rw[h5.BD,Lb]) (Ao ?_));rw[A2 AA];rw[Ir] at ho;subst ho;exact Ar (AFK (hQ bs tk t9 false outs ⟨rfl,rfl⟩ hs Nx hlen h9 hch))
 | _::_,[],_,_,_,_,_,_,_,_,_,_,h,_,_,_,_,_,_,_,_,_,_,_,_=>h.elim
 | _::_,_::_,[],_,_,_,_,_,_,_,_,_,_,h,_,_,_,_,_,_,_,_,_,_,_=>h.elim
 | l::rest,w::ws,v::vs,i,outs,Sb,N,bs,tk,t9,hd,Aat,⟨hw,hws⟩,⟨hv,hvs⟩,ru,ho,hG,WQ,hSb,hN,hs,Nx,hlen,h9,hch=>by
  have hi:i<ls.length:=AB
  have hli:ls[i]?=some l:=by
   have:=Bi (λl=>l[0]?) hd
   grind
  have hdr:ls.drop (i+1)=rest:=by
   rw[drop_cons hli] at hd
   grind
  rw[Ln] at hSb hN;have gE:bs[e]?=some [BB true,BB false]:=CN Nx (by rw[Ca he]);refine oD (Au (n:=ls.length) (by rw[h5.BD,Lb]) (Ao ?_));rw[Aq AA];rw[Ir] at ho;refine A1 (AFL ?_);refine AKG (T:=T) (X:=bs) (O7:=tk) h5 hli hG WQ (λc hc=>⟨hw c hc,hv c hc⟩) AA hT AA AA (ru l AD) (h9.mono (AO _) λ_ _ _ h=>h) ?_ outs.length 0 bs tk (.AE []) AA hs O9 (AY _) (.inl ⟨rfl,rfl⟩) (Ck.refl _ _);intro b2 On a q1 q2 q3 q4 q5;have gE2:b2[e]?=some [BB true,BB false]:=CN q2 gE;have JF:b2.take s0.bs.length=s0.bs.set e [BB true,BB false]:=AB;obtain⟨v',s',⟨rfl,rfl⟩,hc⟩:=KB (R:=R) (e:=e) (l:=HN outs l) (y:=a) (exc:=false) (s:=⟨b2,On⟩) q1 gE2 (q4.mono (AO _) λ_ _ _ h=>h) (L:=CT (env R) 98 0 0 0) rfl rfl;refine zF ⟨_,_,hc,zH (Be AA AA ?_)⟩;have ei:((i:Int)+1)=((i+1:Nat):Int):=AA;rw[ei];simp only[GL];have Ma:=hch.trans q5;cases hb:Aa 32 (HN outs l).length with
  | true=>
   rw[hb] at ho;simp only[AN] at ho ⊢;subst ho;refine ACk h5 Sn (n0:=s0.bs.length) (Y:=s0.bs.set e [BB true,BB true]) (O7:=s0.ts) he ?_ (ls.length-(i+1)) (i+1) _ On AA (BP.set (s:=⟨b2,On⟩) q1 rfl _) (by simp[*,EY]) AB (BZ gE2) Ma;intro bs' GJ n1 n2 n3 n4;exact hQ bs' GJ (.AE []) true [] ⟨rfl,rfl⟩ n1 n2 n3 (.inl ⟨rfl,rfl⟩) n4
  | false=>
   rw[hb] at ho;simp only[AL] at ho ⊢;have same:b2.set e [BB true,BB false]=b2:=by grind[List.set_getElem_self]
   rw[same];refine fO hT h5 Sn he hS hQ rest ws vs (i+1) (HN outs l) (Sb+w) (N+v) b2 On a hdr AA hws hvs (λl' h'=>ru l' AB) ho ?_ AB AA AA q1 JF AA (q4.mono hlen λ_ _ _ h=>h) Ma;intro b uy;rw[Vn] at uy;obtain⟨b0,h0,h1⟩:=Nc.1 uy;obtain⟨c,h2,rfl⟩:=Cv.1 h1;obtain⟨g1,g2,args,g3⟩:=hG b0 h0;have hcw:=hv c h2;have:=xw g1 g3 (hw c h2) AA;rw[y7 g3];exact⟨this,AB,_,rfl⟩
end
attribute [local simp] IJ Mx Jw Kh Dc Fk Ew wO setCells HM Df DQ CT DY alive DI KQ UI jG Hi JU Gk Ip L2 JV qD mC okB qE qH qI qJ qK iG qL qN qO qP qQ qR qT qU qV qW qX okF qY qZ qa qb qc Q0 qd Q1 Q2 Q3 Q4 qe qf qg qh qi qj qm qo qp qq GX qt mD qu qv qw qx qy rA rC rD rF rH CD
def AKJ (R:RT) (e:Nat) (t:Ty) (o:Option (List Br)):Prop:=∀x,BH t x->∀(exc:Bool) (s:AQ),BP s->∀L:BI,L.ro=0->L.rt=0->L.rr 49=false->s.bs[e]?=some [BB true,BB exc] ->
 ∃v s',(∃ts',A0 v (((oX exc o).getD []).map Dm)/\Ck (.AE []) (.AE []) s.ts ts'/\s'=⟨s.bs.set e [BB true,BB (oX exc o).isNone],ts'⟩)/\BG (env R) L 49 [.ptr e 0,x] s v s'
theorem ARg {l:List Br} {a:AV} (ha:A0 a (l.map Dm)) {s:AQ} {K:AV->AQ->Prop} (hK:K (.AE [[.list (l.map Dm)]]) s):GY false s 1 [(.AE [])] 1 [(0,1,a)] K:=by
 have Np:BF a (l.map Dm):=.inl ha;simp[GY,Fx,CJ,Np.ok,AEa Np,Np.cells];omega
theorem AKK {L:BI} {s:AQ} {a:AV} {os:List (List Br)} {p:List Br} {K:AV->AQ->Prop} (ha:Dn 0 s.ts 32 a (H7 os)) (El:L.rt=0) (hl:os.length<2 ^ 38) (h:∀a' ts',Dn 0 ts' 32 a' (H7 (os++[p]))->Ck a a' s.ts ts'->K a' ⟨s.bs,ts'⟩) :
  HB false L s 32 1 24 a (.AE [[.list (p.map Dm)]]) K:=by
 have h1:=Lb os;have hr:∀r∈H7 os,r.length=1:=by grind[H7]
 have hm:∀r∈[[PV.list (p.map Dm)]],r.length=1:=AD;refine RM (m:=[[.list (p.map Dm)]]) ha El hr hm AA (C9 (.inl (.AE _)) hm) AD AB AB λa' ts' h3 h4=>h a' ts' ?_ h4
 grind[H7]
theorem Re {α:Type}:∀{l:List (Option α)},none∈l->Fb l=none
 | none::_,_=>rfl
 | some a::l,h=>by
  have:none∈l:=AB;rw[Fb,Re this]
section
variable {R:RT}
theorem zI {e f:Nat} {k i0:Int} {nm:List UInt8} {ts:List Ty} {a:AV} (ha:BF a (AZ ts)) (hl:ts.length<2 ^ 37) (ih:∀t∈ts,AKJ R e t (DK (Aa 32) f t)) {s0:AQ} (he:e<s0.bs.length) {QR:QT}
  (hN:Fb (ts.map (DK (Aa 32) f))=none->∀bs tk,BP ⟨bs,tk⟩->bs.take s0.bs.length=s0.bs.set e [BB true,BB true]->s0.bs.length<=bs.length->Ck (.AE []) (.AE []) s0.ts tk->QR (.AE []) ⟨bs,tk⟩)
  (hS:∀ls,Fb (ts.map (DK (Aa 32) f))=some ls->∀bs tk t5,BP ⟨bs,tk⟩->bs.take s0.bs.length=s0.bs.set e [BB true,BB false]->s0.bs.length<=bs.length->Ck (.AE []) (.AE []) s0.ts tk->BF t5 (H7 ls)->AFM R 0 0 0 (.ptr e 0) t5 (BB (ls.any List.isEmpty)) ⟨bs,tk⟩ QR) :
  ∀(n p:Nat) (exc:Bool) (out:List (List Br)) (bs:List (List AV)) (tk:List (Nat×Nat)) (t5:AV),p+n=ts.length->out.length=p->(exc=false->(ts.take p).map (DK (Aa 32) f)=out.map some)->(exc=true->none∈ts.map (DK (Aa 32) f)/\out.any List.isEmpty=true)->BP ⟨bs,tk⟩->bs.take s0.bs.length=s0.bs.set e [BB true,BB exc]->s0.bs.length+1<=bs.length->bs[s0.bs.length]?=some [AG k,SS nm,AG i0,a]->Dn 0 tk 32 t5 (H7 out)->Ck (.AE []) (.AE []) s0.ts tk->DW t5 s0.ts ->
   AFN R 0 0 0 (.ptr e 0) (.ptr s0.bs.length 0) t5 (BB (out.any List.isEmpty)) (AG p) ⟨bs,tk⟩ QR:=by
 intro n
 induction n with
 | zero=>
  intro p exc out bs tk t5 hp hop h0 h1 hs hT hlen g0 h5 hch hfr;refine AFO (AM (AU g0) (AX (off:=3) g0 rfl (Au (n:=ts.length) (by rw[ha.BD,Ab]) (Ao ?_))));rw[A2 AA];refine Ar ?_;cases exc with
  | true=>
   obtain⟨h2,h3⟩:=h1 rfl;rw[h3];exact AFP (A1 (hN (Re h2) bs tk hs hT AA hch))
  | false=>
   have h2:=h0 rfl;rw[CV AA] at h2;refine hS out ?_ bs tk t5 hs hT AA hch h5.A4;rw[h2]
   have gen:∀l:List (List Br),Fb (l.map some)=some l:=by
    intro l
    induction l with
    | nil=>rfl
    | cons a l ih=>grind[Fb]
   grind
 | succ n ihn=>
  intro p exc out bs tk t5 hp hop h0 h1 hs hT hlen g0 h5 hch hfr;refine AFO (AM (AU g0) (AX (off:=3) g0 rfl (Au (n:=ts.length) (by rw[ha.BD,Ab]) (Ao ?_))));rw[Aq AA];obtain⟨t,ht⟩:∃c,ts[p]?=some c:=⟨_,Ay AA⟩;have VE:=A5 ht;have gE:bs[e]?=some [BB true,BB exc]:=CN hT (by rw[Ca he]);refine A1 (ARh (AM (AU g0) (AX (off:=3) g0 rfl (BX ha (row:=Ah t) AA (by grind[BL]) (Aj _) AA (Ce ?_)))));obtain⟨v,s',⟨ts',r1,r2,rfl⟩,r3⟩:=ih t VE _ (A8.Bk t).Fy exc ⟨bs,tk⟩ hs (CT (env R) 98 0 0 0) rfl rfl AR gE;refine⟨_,_,r3,?_⟩;have hs1:BP ⟨bs.set e [BB true,BB (oX exc (DK (Aa 32) f t)).isNone],ts'⟩:=BP.set (s:=⟨bs,tk⟩) hs rfl _;have TZ:(bs.set e [BB true,BB (oX exc (DK (Aa 32) f t)).isNone]).take s0.bs.length=s0.bs.set e [BB true,BB (oX exc (DK (Aa 32) f t)).isNone]:=by simp[*,EY]
  have g01:(bs.set e [BB true,BB (oX exc (DK (Aa 32) f t)).isNone])[s0.bs.length]?=some [AG k,SS nm,AG i0,a]:=BV g0 AA;have ZR:(bs.set e [BB true,BB (oX exc (DK (Aa 32) f t)).isNone]).length=bs.length:=AD;generalize bs.set e [BB true,BB (oX exc (DK (Aa 32) f t)).isNone]=b1 at hs1 TZ g01 ZR;have h51:=r2.keep h5 (λ_ h=>by cases h)
  have fin:GY false ⟨b1,ts'⟩ 1 [(.AE [])] 1 [(0,1,v)] λa38 rU=>(1=1/\1≠0)/\HB false (CT (env R) 98 0 0 0) rU 32 1 24 t5 a38 λa39 rT=>
    AFQ R 0 0 0 (.ptr e 0) (.ptr s0.bs.length 0) a39 (BB (out.any List.isEmpty||((oX exc (DK (Aa 32) f t)).getD []).isEmpty)) (AG p) rT QR:=by
   refine ARg r1 ⟨AK,AKK h51 rfl AA λt5' On x1 x2=>ARi (Be AA AA ?_)⟩;have em:(ts.take (p+1)).map (DK (Aa 32) f)=(ts.take p).map (DK (Aa 32) f)++[DK (Aa 32) f t]:=by grind[List.take_add_one]
   have ea:(out++[(oX exc (DK (Aa 32) f t)).getD []]).any List.isEmpty=(out.any List.isEmpty||((oX exc (DK (Aa 32) f t)).getD []).isEmpty):=AD
   have:=ihn (p+1) (oX exc (DK (Aa 32) f t)).isNone (out++[(oX exc (DK (Aa 32) f t)).getD []]) b1 On t5' AA AB (λh=>by
    cases exc with
    | true=>cases h
    | false=>
     cases hb:DK (Aa 32) f t with
     | none=>rw[hb] at h; cases h
     | some m=>
      grind[oX]) (λh=>by
    rw[ea];cases exc with
    | true=>
     grind
    | false=>
     cases hb:DK (Aa 32) f t with
     | some m=>rw[hb] at h; cases h
     | none=>grind[oX]) hs1 TZ AA g01 x1 ((hch.trans r2).side x2 hfr) (hfr.QF x2 (BM hch.1 r2.1))
   grind
  have hvl:∀(s:AQ) (K:AV->Prop),K (AG ((oX exc (DK (Aa 32) f t)).getD []).length)->Gk s v K:=λs K h=>Au (n:=((oX exc (DK (Aa 32) f t)).getD []).length) (by rw[r1.BD,Bt]) h
  cases yH:out.any List.isEmpty with
  | true=>
   grind[BQ,pk]
  | false=>
   rw[yH] at fin;refine Ak (Ak (hvl _ _ (Ak (Av (pk ?_)))))
   have e0:((((oX exc (DK (Aa 32) f t)).getD []).length:Int)==0)=((oX exc (DK (Aa 32) f t)).getD []).isEmpty:=by
    cases (oX exc (DK (Aa 32) f t)).getD [] <;> simp;omega
   grind
def tpR (f:Nat) (ts:List Ty):Option (List Br):=match Fb (ts.map (DK (Aa 32) f)) with
 | none=>none
 | some ls=>bif ls.any List.isEmpty then some [] else Ir (Aa 32) ls [⟨[],.mk 3 [] 0 []⟩]
theorem kI {e f T S:Nat} (hT:(T:Int)<hole) (hS:S<2 ^ 36) {nm:List UInt8} {i0:Int} {ts:List Ty} (hl:ts.length<2 ^ 37) (ih:∀t∈ts,AKJ R e t (DK (Aa 32) f t)) (hG:∀t∈ts,∀l,DK (Aa 32) f t=some l->l.length<=32/\∀c∈l,MC (wt t) c/\c.bounds.length<=bw t) (hSs:1+(ts.map wt).sum<=S) (rV:(ts.map bw).sum<=T)
  {x:AV} (hx:BH (.mk 3 nm i0 ts) x) {s:AQ} (hs:BP s) {L:BI} (hro:L.ro=0) (El:L.rt=0) (tU:L.rr 98=true) (hE:s.bs[e]?=some [BB true,BB false]) :
  ∃v s',NH e (tpR f ts).isNone ((tpR f ts).getD []) s s' v/\BG (env R) L 98 [.ptr e 0,x] s v s':=by
 have le:=(BA.1 hE).1;have same:s.bs.set e [BB true,BB false]=s.bs:=by grind[List.set_getElem_self]
 have hxc:=hx;obtain⟨a,rfl,ha⟩:=hx;obtain⟨_,c2,c3⟩:=hxc.cells;refine m98 AR ?_;rw[hro,El,tU];have g0:=Az s.bs [AG 3,SS nm,AG i0,a];have hs1:BP ⟨s.bs++[[AG 3,SS nm,AG i0,a]],s.ts⟩:=BP.app (s:=s) hs (c3 _);have bf:(s.bs++[[AG 3,SS nm,AG i0,a]]).take s.bs.length=s.bs.set e [BB true,BB false]:=AB;refine ARj (Bu (cs:=[AG 3,SS nm,AG i0,a]) rfl c2 ?_);have:=zI (R:=R) (k:=3) (i0:=i0) (nm:=nm) ha hl ih le (QR:=QM true s.bs.length λv s'=>NH e (tpR f ts).isNone ((tpR f ts).getD []) s s' v) ?_ ?_ ts.length 0 false [] (s.bs++[[AG 3,SS nm,AG i0,a]]) s.ts (.AE []) AA rfl (λ_=>rfl) (λh=>by cases h) hs1 bf AD g0 (.inl rfl) (Ck.refl _ _) (DW.AE _ _)
 .grind
 .intro hn bs tk h1 h2 h3 h4
  have et:tpR f ts=none:=by rw[tpR,hn]
  rw[et];exact OL (x:=true) (l:=[]) hs h2 (.inl ⟨rfl,rfl⟩) h4 λv' s' h=>h
 .intro ls hls bs tk t5 h1 h2 h3 h4 h5
  have et:tpR f ts=bif ls.any List.isEmpty then some [] else Ir (Aa 32) ls [⟨[],.mk 3 [] 0 []⟩]:=by rw[tpR,hls]
  rw[et];refine AFP ?_;cases yH:ls.any List.isEmpty with
  | true=>exact A1 (OL (x:=false) (l:=[]) hs h2 (.inl ⟨rfl,rfl⟩) h4 λv' s' h=>h)
  | false=>
   simp only[AL];have hal:=Iu hls;have EN:CU ⟨[],.mk 3 [] 0 []⟩ (.agg [.AE [],AG 3,SS [],AG 0,.AE []]):=⟨.AE [],_,rfl,.inl (.AE _),⟨.AE [],rfl,.inl (.AE _)⟩⟩;refine Ar (ARk (HO (cs:=[AG 3,SS [],AG 0,.AE []]) rfl (HO (cs:=[.AE [],AG 3,SS [],AG 0,.AE []]) rfl (NG EN ?_))));have hlsl:ls.length=ts.length:=by have:=hal.length; omega
   have:=fO (R:=R) (T:=T) hT (t5:=t5) h5 AA (s0:=s) le (S:=S) hS (o:=Ir (Aa 32) ls [⟨[],.mk 3 [] 0 []⟩]) (QR:=QM true s.bs.length λv s'=>NH e (Ir (Aa 32) ls [⟨[],.mk 3 [] 0 []⟩]).isNone ((Ir (Aa 32) ls [⟨[],.mk 3 [] 0 []⟩]).getD []) s s' v) ?_ ls (ts.map wt) (ts.map bw) 0 [⟨[],.mk 3 [] 0 []⟩] 1 0 (bs++[[.AE [],AG 3,SS [],AG 0,.AE []]]) tk (.ref bs.length 0 1 5) rfl AA
    (hal.Hl λt l hm hg c hc=>((hG t hm l hg).2 c hc).1) (hal.Hl λt l hm hg c hc=>((hG t hm l hg).2 c hc).2) (λl hm=>by
     obtain⟨t,ht,hg⟩:=hal.LP l hm
     grind) rfl (λb hb=>by
     rw[Dl.1 hb];exact⟨⟨rfl,by simp[size,Ac],rfl⟩,AD,_,rfl⟩) AD hSs AA (BP.app (s:=⟨bs,tk⟩) h1 rfl) ((ED h3 _).trans h2) AB (.inr ⟨bs.length,[[.AE [],AG 3,SS [],AG 0,.AE []]],h3,rfl,AD,⟨EN,Ai⟩,AD⟩) h4
   all_goals grind[OL]
end
theorem AFR {ds:List AV} {t:Ty} (h:BH t (.agg ds)):Ew Z5 [(1,4,.agg ds)]=some (.AE []::ds):=by
 obtain⟨c1,c2,_⟩:=h.cells
 match ds,c1,c2 with
 | [d1,d2,d3,d4],_,c2=>
  simp[*,cellsOf,Ew,setCells]
theorem zJ {α:Type} {l:List (Option α)} {a:α} {r:List α} (h:Fb l=some r):Fb (l++[some a])=some (r++[a]):=by
 induction l generalizing r with
 | nil=>
  grind[Fb]
 | cons x l ih=>
  cases x with
  | none=>grind[Fb]
  | some y=>
   grind[Fb]
section
variable {R:RT}
theorem zK {e:Nat} {l:List Br} {y:AV} {exc:Bool} {s0:AQ} (he:e<s0.bs.length) {bs:List (List AV)} {tk:List (Nat×Nat)} (hs:BP ⟨bs,tk⟩) (hT:bs.take s0.bs.length=s0.bs.set e [BB true,BB exc]) (hlen:s0.bs.length<=bs.length) (hy:Eu s0.bs.length bs l y) (hch:Ck (.AE []) (.AE []) s0.ts tk) {o:Option (List Br)} (ho:o=bif exc||Aa 32 l.length then none else some l) {QR:QT}
  (hQ:∀bs tk a x' r,(x'=o.isNone/\r=o.getD [])->BP ⟨bs,tk⟩->bs.take s0.bs.length=s0.bs.set e [BB true,BB x']->s0.bs.length<=bs.length->Eu s0.bs.length bs r a->Ck (.AE []) (.AE []) s0.ts tk->QR a ⟨bs,tk⟩) :
  D0 (env R) (CT (env R) 49 0 0 0) (.func (.func 99) [] []) [.ptr e 0,y] ⟨bs,tk⟩ λa94 fL=>QR a94 fL:=by
 have gE:bs[e]?=some [BB true,BB exc]:=CN hT (by rw[Ca he]);obtain⟨v,s',⟨rfl,rfl⟩,hc⟩:=KB (R:=R) (e:=e) (l:=l) (y:=y) (exc:=exc) (s:=⟨bs,tk⟩) hs gE (hy.mono (AO _) λ_ _ _ h=>h) (L:=CT (env R) 49 0 0 0) rfl rfl;refine⟨_,_,hc,?_⟩;have JF:(bs.set e [BB true,BB (exc||Aa 32 l.length)]).take s0.bs.length=s0.bs.set e [BB true,BB (exc||Aa 32 l.length)]:=by simp[*,EY]
 have hs2:BP ⟨bs.set e [BB true,BB (exc||Aa 32 l.length)],tk⟩:=BP.set (s:=⟨bs,tk⟩) hs rfl _;cases hb:exc||Aa 32 l.length with
 | true=>
  rw[hb] at ho JF hs2;subst ho;exact hQ _ tk _ true [] ⟨rfl,rfl⟩ hs2 JF AB (.inl ⟨rfl,rfl⟩) hch
 | false=>
  rw[hb] at ho JF hs2;subst ho;exact hQ _ tk _ false l ⟨rfl,rfl⟩ hs2 JF AB (hy.keep gE rfl (d:=[BB true,BB false]) (by grind[List.take_of_length_le])) hch
theorem ARl {e f:Nat} {i0:Int} {nm:List UInt8} {ts:List Ty} {a:AV} (ha:BF a (AZ ts)) (hl:ts.length<2 ^ 30) (ih:∀t∈ts,ACf R e t (DK (Aa 32) f t)) (hG:∀t∈ts,∀l,DK (Aa 32) f t=some l->l.length<=32) {s0:AQ} (he:e<s0.bs.length) {o:Option (List Br)} (ho:o=match Fb (ts.map (DK (Aa 32) f)) with
   | none=>none
   | some ls=>bif Aa 32 ls.flatten.length then none else some ls.flatten) {QR:QT}
  (hQ:∀bs tk a x' r,(x'=o.isNone/\r=o.getD [])->BP ⟨bs,tk⟩->bs.take s0.bs.length=s0.bs.set e [BB true,BB x']->s0.bs.length<=bs.length->Eu s0.bs.length bs r a->Ck (.AE []) (.AE []) s0.ts tk->QR a ⟨bs,tk⟩) :
  ∀(n p:Nat) (exc:Bool) (out:List Br) (bs:List (List AV)) (tk:List (Nat×Nat)) (t5:AV),p+n=ts.length->(exc=false->∃lss,Fb ((ts.take p).map (DK (Aa 32) f))=some lss/\lss.flatten=out)->(exc=true->none∈ts.map (DK (Aa 32) f))->out.length<=32*p->BP ⟨bs,tk⟩->bs.take s0.bs.length=s0.bs.set e [BB true,BB exc]->s0.bs.length+1<=bs.length->bs[s0.bs.length]?=some [AG 4,SS nm,AG i0,a]->Eu (s0.bs.length+1) bs out t5->Ck (.AE []) (.AE []) s0.ts tk ->
   AFS R 0 0 0 (.ptr e 0) (.ptr s0.bs.length 0) t5 (AG p) ⟨bs,tk⟩ QR:=by
 intro n
 induction n with
 | zero=>
  intro p exc out bs tk t5 hp h0 h1 WQ hs hT hlen g0 h5 hch;refine AFT (AM (AU g0) (AX (off:=3) g0 rfl (Au (n:=ts.length) (by rw[ha.BD,Ab]) (Ao ?_))));rw[A2 AA];refine Ar (ARm (zK he hs hT AA (h5.mono AA λ_ _ _ h=>h) hch (o:=o) ?_ hQ))
  grind[Re]
 | succ n ihn=>
  intro p exc out bs tk t5 hp h0 h1 WQ hs hT hlen g0 h5 hch;refine AFT (AM (AU g0) (AX (off:=3) g0 rfl (Au (n:=ts.length) (by rw[ha.BD,Ab]) (Ao ?_))));rw[Aq AA];obtain⟨t,ht⟩:∃c,ts[p]?=some c:=⟨_,Ay AA⟩;have VE:=A5 ht;have gE:bs[e]?=some [BB true,BB exc]:=CN hT (by rw[Ca he]);refine A1 (ARn (AM (AU g0) (AX (off:=3) g0 rfl (BX ha (row:=Ah t) AA (by grind[BL]) (Aj _) AA (Ce ?_)))));obtain⟨v,s',hR,r3⟩:=ih t VE _ (A8.Bk t).Fy exc ⟨bs,tk⟩ hs (CT (env R) 49 0 0 0) rfl rfl AR gE;obtain⟨b2,On⟩:=s';have n7:bs.length<=b2.length:=hR.len
  have JF:b2.take s0.bs.length=s0.bs.set e [BB true,BB (oX exc (DK (Aa 32) f t)).isNone]:=by
   have:=MG (n:=s0.bs.length) AA hT hR.tk;rwa [IY] at this
  have tZ:b2[s0.bs.length]?=some [AG 4,SS nm,AG i0,a]:=CN hR.tk AB;have h52:Eu (s0.bs.length+1) b2 out t5:=h5.keep gE rfl hR.tk;have N4:Eu (s0.bs.length+1) b2 ((oX exc (DK (Aa 32) f t)).getD []) v:=hR.RE.mono hlen λj c _ h=>h
  have hrl:((oX exc (DK (Aa 32) f t)).getD []).length<=32:=by
   cases exc with
   | true=>simp[oX]
   | false=>
    cases hb:DK (Aa 32) f t with
    | none=>simp[oX]
    | some l=>grind[oX]
  refine⟨_,_,r3,AK,ai h52 N4 rfl AA AB ?_⟩;intro a' b3 q1 q2 q3 q4;have hs3:=q4 hR.ok
  have n9:∀j c,j<s0.bs.length+1->b2[j]?=some c->b3[j]?=some c:=by
   intro j c hj hjc;refine q2 j c (λn ha=>?_) hjc;rcases h52 with ⟨h1,_⟩|⟨id,rows,h1,h2,_⟩
   all_goals grind
  have VK:b3.take s0.bs.length=s0.bs.set e [BB true,BB (oX exc (DK (Aa 32) f t)).isNone]:=by
   rw[<-JF];refine FO λj=>?_
   grind
  refine AKL (Be AA AA ?_);have em:(ts.take (p+1)).map (DK (Aa 32) f)=(ts.take p).map (DK (Aa 32) f)++[DK (Aa 32) f t]:=by grind[List.take_add_one]
  have:=ihn (p+1) (oX exc (DK (Aa 32) f t)).isNone (out++(oX exc (DK (Aa 32) f t)).getD []) b3 On a' AA (λh=>by
   cases exc with
   | true=>cases h
   | false=>
    cases hb:DK (Aa 32) f t with
    | none=>rw[hb] at h; cases h
    | some m=>
     obtain⟨lss,h2,h3⟩:=h0 rfl;refine⟨lss++[m],by grind[zJ],?_⟩
     grind[oX]) (λh=>by
   cases exc with
   | true=>grind
   | false=>
    cases hb:DK (Aa 32) f t with
    | some m=>rw[hb] at h; cases h
    | none=>grind) AB hs3 VK AB (n9 _ _ AA tZ) q1 (hch.trans hR.QF)
  grind
theorem ARo {e:Nat} {i0:Int} {nm:List UInt8} {ER body:Ty} {a:AV} (ha:BF a (AZ [ER,body])) {ob:Option (List Br)} {l:List Br} {t8:AV} {lo:Nat} {Wb W w T C:Nat} (hlG:∀b∈l,MC Wb b/\(Al b.body).length<=C/\b.bounds.length+(Al b.body).length*w<=T) (hob:∀l,ob=some l->(∀c∈l,MC W c/\c.bounds.length<=w)/\l.length<=32) (hT:(T:Int)<hole) (hS:Wb+C*W<2 ^ 37) (hWb:Wb<=2 ^ 27) (AKA:ACf R e ER ob) (Sn:l.length<=32)
  {s0:AQ} (he:e<s0.bs.length) {o:Option (List Br)} {x0:Bool} (ho:o=bif x0 then none else I6 (Aa 32) (E9 (Aa 32) ob ER) l []) {QR:QT} {X:List (List AV)} (hX1:X.take s0.bs.length=s0.bs.set e [BB true,BB x0]) (hXl:s0.bs.length+1<=X.length) (hX8:Eu lo X l t8) (hXg:X[s0.bs.length]?=some [AG 6,SS nm,AG i0,a])
  (hQ:∀bs tk a x' r,(x'=o.isNone/\r=o.getD [])->BP ⟨bs,tk⟩->bs.take s0.bs.length=s0.bs.set e [BB true,BB x']->s0.bs.length<=bs.length->Eu s0.bs.length bs r a->Ck (.AE []) (.AE []) s0.ts tk->QR a ⟨bs,tk⟩) :
  ∀(n p:Nat) (exc:Bool) (out:List Br) (bs:List (List AV)) (tk:List (Nat×Nat)) (t7:AV),p+n=l.length->(exc=false->x0=false/\I6 (Aa 32) (E9 (Aa 32) ob ER) (l.drop p) out=o/\out.length<=32)->(exc=true->o=none)->out.length<=32+p*(33*(2 ^ 27+1))->BP ⟨bs,tk⟩->bs.take X.length=X.set e [BB true,BB exc]->X.length<=bs.length->Eu X.length bs out t7->Ck (.AE []) (.AE []) s0.ts tk ->
   AFU R 0 0 0 (.ptr e 0) (.ptr s0.bs.length 0) t7 t8 (AG p) ⟨bs,tk⟩ QR:=by
 have heX:e<X.length:=AA;have hXe:X[e]?=some [BB true,BB x0]:=CN hX1 (by rw[Ca he])
 have down:∀(bs:List (List AV)) (x:Bool),bs.take X.length=X.set e [BB true,BB x]->bs.take s0.bs.length=s0.bs.set e [BB true,BB x]:=by
  intro bs x h;have:=Bi (List.take s0.bs.length) h
  grind[List.take_set,List.set_set]
 have zL:∀(bs:List (List AV)) (x:Bool),bs.take X.length=X.set e [BB true,BB x]->Eu lo bs l t8:=λbs x h=>hX8.keep hXe rfl h
 have ARp:∀(bs:List (List AV)) (x:Bool),bs.take X.length=X.set e [BB true,BB x]->bs[s0.bs.length]?=some [AG 6,SS nm,AG i0,a]:=λbs x h=>CN h AB
 intro n
 induction n with
 | zero=>
  intro p exc out bs tk t7 hp h0 h1 WQ hs Nx hlen h7 hch;refine AFV (Au (n:=l.length) (zL bs exc Nx).BD (Ao ?_));rw[A2 AA];refine Ar (ARq (zK he hs (down bs exc Nx) AA (h7.mono AA λ_ _ _ h=>h) hch (o:=o) ?_ hQ))
  grind[I6]
 | succ n ihn=>
  intro p exc out bs tk t7 hp h0 h1 WQ hs Nx hlen h7 hch;refine AFV (Au (n:=l.length) (zL bs exc Nx).BD (Ao ?_));rw[Aq AA];obtain⟨b,hb⟩:∃c,l[p]?=some c:=⟨_,Ay AA⟩;obtain⟨hbG,hbC,hbT⟩:=hlG b (A5 hb);have gE:bs[e]?=some [BB true,BB exc]:=CN Nx (by rw[Ca heX]);have g0:=ARp bs exc Nx;refine A1 (ARr (Rb (zL bs exc Nx) hb λrb hrb=>AM (AU g0) (AX (off:=3) g0 rfl (BX ha (row:=Ah ER) AA rfl (Aj _) AA (Ce ?_)))));obtain⟨v,s',⟨r,x',hE,hrl,hR⟩,r3⟩:=Wz (R:=R) hbG hbC hob hT hbT hS hWb AKA hrb (A8.Bk ER).Fy (exc:=exc) (s:=⟨bs,tk⟩) hs (L:=CT (env R) 49 0 0 0) rfl rfl AR gE;obtain⟨b2,On⟩:=s';have n7:bs.length<=b2.length:=hR.len
  have JF:b2.take X.length=X.set e [BB true,BB x']:=by
   have:=MG (n:=X.length) AA Nx hR.tk;rwa [IY] at this
  have h72:Eu X.length b2 out t7:=h7.keep gE rfl hR.tk;have N4:Eu X.length b2 r v:=hR.RE.mono hlen λj c _ h=>h
  have LK:p*(33*(2 ^ 27+1))<=32*(33*(2 ^ 27+1)):=B5 _ AA;refine⟨_,_,r3,AK,ai h72 N4 rfl AA AB ?_⟩;intro a' b3 q1 q2 q3 q4;have hs3:=q4 hR.ok
  have n9:∀j c,j<X.length->b2[j]?=some c->b3[j]?=some c:=by
   intro j c hj hjc;refine q2 j c (λn ha=>?_) hjc;rcases h72 with ⟨h1,_⟩|⟨id,rows,h1,h2,_⟩
   all_goals grind
  have VK:b3.take X.length=X.set e [BB true,BB x']:=by
   rw[<-JF];refine FO λj=>?_
   grind
  have Su:b3[e]?=some [BB true,BB x']:=CN VK (by rw[Ca heX]);have oB:X.length<=b3.length:=AB;have Ol:Ck (.AE []) (.AE []) s0.ts On:=hch.trans hR.QF;refine C2 (AU Su) (AM (AU Su) (AX (off:=0) Su rfl (Ak (Ak (Au (n:=(out++r).length) q1.BD (Ak (Fm (pk ?_))))))));have eb:decide (((out++r).length:Int)>32)=Aa 32 (out++r).length:=AB;rw[eb];have Aav:(out++r).length<=32+(p+1)*(33*(2 ^ 27+1)):=AB
  have next:∀(x:Bool) (b4:List (List AV)),BP ⟨b4,On⟩->b4.take X.length=X.set e [BB true,BB x]->X.length<=b4.length->Eu X.length b4 (out++r) a'->(x=false->x0=false/\I6 (Aa 32) (E9 (Aa 32) ob ER) (l.drop (p+1)) (out++r)=o/\(out++r).length<=32)->(x=true->o=none)->zM R 0 0 0 (.ptr e 0) (.ptr s0.bs.length 0) a' t8 (AG p) ⟨b4,On⟩ QR:=by
   intro x b4 n1 n2 n3 n4 n5 n6;refine AKM (Be AA AA ?_);have:=ihn (p+1) x (out++r) b4 On a' AA n5 n6 Aav n1 n2 n3 n4 Ol;simpa using this
  have hmod:exc=false->(x'=true->o=none)/\(x'=false->Aa 32 (out++r).length=true->o=none)/\(x'=false->Aa 32 (out++r).length=false->I6 (Aa 32) (E9 (Aa 32) ob ER) (l.drop (p+1)) (out++r)=o):=by
   rintro rfl;obtain⟨_,h2,_⟩:=h0 rfl;rw[drop_cons hb,I6] at h2;have hE2:=hE.2 rfl
   grind
  have Ad5:exc=true->o=none:=h1;cases Mk:Aa 32 (out++r).length with
  | true=>
   refine A1 (C2 (AU Su) (AM (AU Su) (C3 Su AD rfl (AO _) rfl (.inl (AO _)) ?_)));have e1:[BB true,BB x'].set (0+1) (BB true)=[BB true,BB true]:=rfl;rw[e1];refine next true _ (BP.set (s:=⟨b3,On⟩) hs3 rfl _) (by simp[*,EY]) AB (q1.keep Su rfl (d:=[BB true,BB true]) (by grind[List.take_of_length_le])) (λh=>by cases h) (λ_=>?_)
   grind
  | false=>
   refine Ar (next x' b3 hs3 VK oB q1 (λhx=>?_) (λhx=>?_))
   .cases exc with
    | true=>rw[hE.1 rfl] at hx; grind
    | false=>
     grind
   grind
end
theorem ARs {n:Nat} {X bs:List (List AV)} {ts:List (Nat×Nat)} {l:List Br} {v:AV} {Post:AV->AQ->Prop} (hX:∀b∈X,Ag n b=true) (hT:bs.take n=X) (hb:Eu n bs l v) (hP:∀v',A0 v' (l.map Dm)->Post v' ⟨X,ts⟩):QM false n Post v ⟨bs,ts⟩:=by
 have hok:((bs.take n).all (Ag n))=true:=AB;rcases hb with ⟨rfl,rfl⟩|⟨id,rows,h1,rfl,h2,h3,h4⟩
 .refine⟨.AE [],⟨X,ts⟩,?_,hP _ (.AE _)⟩
  grind[Hy,IC,Tel.close]
 .obtain⟨c,cs,hc,k1,k2,k3,hal⟩:=Eu.block (lo:=n) (s:=⟨bs,ts⟩) h2 h3 h4
  have htp:=Vm h3;have hlt:¬ id<n:=AA;refine⟨.pv (.list (l.map Dm)),⟨X,ts⟩,?_,hP _ (.list _)⟩;unfold Hy;rw[hok];have e1:IC false n (.ref id 0 l.length 5)=none:=rfl;have e2:IZ bs id 0 l.length 5=some (l.map Dm):=by grind[IZ,List.take_of_length_le,FE,Lc,List.length_map]
  grind[Tel.close]
section
variable {R:RT}
def BrW (R:RT) (e:Nat) (t:Ty) (o:Option (List Br)):Prop:=∀x,BH t x->∀(exc:Bool) (s:AQ),BP s->s.bs[e]?=some [BB true,BB exc]->∀QR:QT,
 (∀bs tk a x' r,(x'=(oX exc o).isNone/\r=(oX exc o).getD [])->BP ⟨bs,tk⟩->bs.take s.bs.length=s.bs.set e [BB true,BB x']->s.bs.length<=bs.length->Eu s.bs.length bs r a->Ck (.AE []) (.AE []) s.ts tk->QR a ⟨bs,tk⟩)->AFW R 0 0 0 (.ptr e 0) x s QR
theorem BrW.c {e:Nat} {t:Ty} {o:Option (List Br)} (h:BrW R e t o):ACf R e t o:=by
 intro x hx exc s hs L hro El tU hE;refine m49 AR ?_;rw[hro,El,tU];refine h x hx exc s hs hE _ ?_
 grind[OL]
theorem BrW.v {e:Nat} {t:Ty} {o:Option (List Br)} (h:BrW R e t o):AKJ R e t o:=by
 intro x hx exc s hs L hro El tU hE;refine m49 AR ?_;rw[hro,El,tU];refine h x hx exc s hs hE _ ?_;rintro bs tk a x' r ⟨rfl,rfl⟩ n1 n2 n3 n4 n5;refine ARs (X:=s.bs.set e [BB true,BB (oX exc o).isNone]) ?_ n2 n4 λv' hv=>⟨tk,hv,n5,rfl⟩
 have:=BP.set hs (c:=[BB true,BB (oX exc o).isNone]) rfl tk (j:=e);intro b hb;have h1:=this b hb
 grind
theorem Ny:∀(f:Nat) (t:Ty) (l:List Br),DK (Aa 32) f t=some l->l.length<=32:=by
 intro f t l h
 have cat:∀{α:Type} (g:α->Option (List Br)) (l:List α) (out r:List Br),out.length<=32->I6 (Aa 32) g l out=some r->r.length<=32:=by
  intro α g l
  induction l with
  | nil=>
   grind[I6]
  | cons a l ih=>
   grind[I6]
 have tup:∀(ls:List (List Br)) (out r:List Br),out.length<=32->Ir (Aa 32) ls out=some r->r.length<=32:=by
  intro ls
  induction ls with
  | nil=>
   grind[Ir]
  | cons a l ih=>
   grind[Ir]
 cases f with
 | zero=>grind[DK]
 | succ f=>
  obtain⟨k,n,i,ts⟩:=t;rw[DK] at h;cases h0:k==0 with
  | true=>grind
  | false=>
   rw[h0] at h;simp only[AL] at h;cases h2:k==2||k==5 with
   | true=>grind
   | false=>
    rw[h2] at h;simp only[AL] at h;cases h3:k==3 with
    | true=>
     grind
    | false=>
     rw[h3] at h;simp only[AL] at h;cases h4:k==4 with
     | true=>
      grind
     | false=>
      rw[h4] at h;simp only[AL] at h;cases h6:k==6 with
      | false=>grind
      | true=>
       rw[h6] at h;simp only[AN] at h;rcases ts with _|⟨b,_|⟨body,_|⟨z,r⟩⟩⟩
       all_goals grind[dA]
theorem W0 {e:Nat}:∀(f:Nat) (t:Ty),depth t<=f->valid t=true->CR (bw t)->wt t<=2 ^ 27->size t<2 ^ 30->BrW R e t (DK (Aa 32) f t):=by
 intro f
 induction f with
 | zero=>
  intro t hd;obtain⟨k,n,i,ts⟩:=t
  grind[depth]
 | succ f ih=>
  intro t hd hv Xj hw hsz x hx exc s hs hE QR hQ;have le:=(BA.1 hE).1;have same:s.bs.set e [BB true,BB exc]=s.bs:=by grind[List.set_getElem_self]
  obtain⟨k,n,i,ts⟩:=t;have Lh:=hv;have hx':=hx;simp only[valid,AI] at hv;simp only[depth] at hd;simp only[size] at hsz;have hts:=BS ts;obtain⟨a,rfl,ha⟩:=hx;obtain⟨c1,c2,c3⟩:=hx'.cells;have g0:=Az s.bs [AG k,SS n,AG i,a];have gE:=Ap hE [AG k,SS n,AG i,a];have hs1:BP ⟨s.bs++[[AG k,SS n,AG i,a]],s.ts⟩:=BP.app (s:=s) hs (c3 _);have bf:(s.bs++[[AG k,SS n,AG i,a]]).take s.bs.length=s.bs.set e [BB true,BB exc]:=AB;have hl0:(s.bs++[[AG k,SS n,AG i,a]]).length=s.bs.length+1:=AD;refine ARt (Bu (cs:=[AG k,SS n,AG i,a]) rfl c2 (C2 (AU gE) (AM (AU gE) (AX (off:=1) gE rfl ?_))));cases exc with
  | true=>exact A1 (hQ _ s.ts (.AE []) true [] ⟨rfl,rfl⟩ hs1 bf AD (.inl ⟨rfl,rfl⟩) (Ck.refl _ _))
  | false=>
   refine Ar (ARu (AM (AU g0) (AX (off:=0) g0 rfl (Av ?_))));simp only[oX,AL] at hQ;generalize s.bs++[[AG k,SS n,AG i,a]]=bs at g0 gE hs1 bf hl0
   have mem:∀t∈ts,(CR (bw t)/\wt t<=2 ^ 27)->BrW R e t (DK (Aa 32) f t):=by
    intro t ht h;have:=HQ ht;have:=F8 ht
    grind[Bz]
   have leaf:∀(u:Ty) (du:List AV) (ts':List (Nat×Nat)),BH u (.agg du)->DK (Aa 32) (f+1) (.mk k n i ts)=some [⟨[],u⟩]->Ck (.AE []) (.AE []) s.ts ts'->Fk [(.AE []),(AG 0),(SS []),(AG 0),(.AE [])] [(1,4,.agg du)] λa19=>GY true ⟨bs,ts'⟩ 5 [(.AE []),(AG 0),(SS []),(AG 0),(.AE [])] 1 [(0,5,a19)] λa20 fL=>QR a20 fL:=by
    intro u du ts' hu hb hch;have EN:CU ⟨[],u⟩ (.agg (.AE []::du)):=⟨.AE [],du,rfl,.inl (.AE _),hu⟩;obtain⟨z1,z2,z3⟩:=EN.cells;refine HO (AFR hu) (NG EN ?_);have hle:s.bs.length<=bs.length:=AA;exact hQ (bs++[.AE []::du]) ts' (.ref bs.length 0 1 5) false [⟨[],u⟩] AB (BP.app (s:=⟨bs,ts'⟩) hs1 (z3 _)) ((ED hle _).trans bf) AB (.inr ⟨bs.length,[.AE []::du],hle,rfl,AD,⟨EN,Ai⟩,AD⟩) hch
   have var:(k==2||k==5)=true->(k==0)=false->AFX R 0 0 0 (.ptr e 0) (.ptr s.bs.length 0) (AG k) (BB true) ⟨bs,s.ts⟩ QR:=by
    intro hk tM;have Aaw:YR (.mk k n i ts)=true:=Ox (λi hi=>by grind) _ (NF _ Lh);refine fP (A1 (Af g0 rfl (AH (j7 (R:=R) (by grind[size]) Aaw hx') ?_)));intro r hr;obtain⟨du,rfl⟩:=hr.Fy.agg;refine leaf _ du s.ts hr.Fy ?_ (Ck.refl _ _)
    grind[DK]
   rcases Ki hv.1 with ⟨rfl,rfl,rfl,rfl⟩|⟨rfl,rfl,rfl,rfl⟩|rfl|⟨rfl,rfl,rfl⟩|⟨rfl,rfl,rfl,hne⟩|⟨rfl,rfl,rfl,h0⟩|⟨rfl,rfl,rfl,b,body,rfl,hcb⟩
   .exact A1 (Af g0 rfl (leaf _ _ s.ts hx' AR (Ck.refl _ _)))
   .refine Ar (Av (Ar (Av (fP (Ar (Av (Ar (Av (Ar (Av (Ar (ARv ?_))))))))))))
    exact hQ bs s.ts (.AE []) false [] (by grind[DK]) hs1 bf AA (.inl ⟨rfl,rfl⟩) (Ck.refl _ _)
   .grind[Ar,Av]
   ·-- a tuple
    have ACm:∀t∈ts,CR (bw t)/\wt t<=2 ^ 27:=by
     intro t ht;refine⟨Cp Xj (by simp[*,bw,Fl,Dz,Ed]),?_⟩;have e:wt (.mk 3 [] 0 ts)=1+(ts.map wt).sum:=by grind[wt,I9]
     have:=Dz (Ed (f:=wt) ht);omega
    have ew:wt (.mk 3 [] 0 ts)=1+(ts.map wt).sum:=by grind[wt,I9]
    have e2:bw (.mk 3 [] 0 ts)=(ts.map bw).sum:=by grind[bw,Fl]
    have eo:DK (Aa 32) (f+1) (.mk 3 [] 0 ts)=tpR f ts:=AR;rw[eo] at hQ;refine Ar (Av (Ar (Av (fP (Ar (Av (A1 (Af g0 rfl ?_))))))));obtain⟨v,s',hR,hc⟩:=kI (R:=R) (e:=e) (f:=f) (T:=bw (.mk 3 [] 0 ts)) (S:=wt (.mk 3 [] 0 ts)) Xj AA AA (λt ht=>(mem t ht (ACm t ht)).v) (λt ht l hl=>⟨Ny f t l hl,λc hc=>⟨VW f t l (Bz hv.2 ht) (ACm t ht).1 hl c hc,(DC f t l hl c hc).1⟩⟩) AA AA hx' (s:=⟨bs,s.ts⟩) hs1 (L:=CT (env R) 49 0 0 0) rfl rfl AR gE;obtain⟨b2,On⟩:=s';have n7:bs.length<=b2.length:=hR.len;have JF:=MG (n:=s.bs.length) AA bf hR.tk;rw[IY] at JF;exact⟨_,_,hc,hQ b2 On v _ _ ⟨rfl,rfl⟩ hR.ok JF AA (hR.RE.mono AB λ_ _ _ h=>h) hR.QF⟩
   ·-- a union
    have ACm:∀t∈ts,CR (bw t)/\wt t<=2 ^ 27:=by
     intro t ht;refine⟨Cp Xj (by simp[*,bw,Fl,Dz,Ed]),?_⟩;have e:wt (.mk 4 [] 0 ts)=1+(ts.map wt).sum:=by grind[wt,I9]
     have:=Dz (Ed (f:=wt) ht);omega
    refine Ar (Av (Ar (Av (fP (Ar (Av (Ar (Av (A1 ?_)))))))));have:=ARl (R:=R) (e:=e) (f:=f) (i0:=0) (nm:=[]) ha AA (λt ht=>(mem t ht (ACm t ht)).c) (λt ht l hl=>Ny f t l hl) (s0:=s) le (o:=DK (Aa 32) (f+1) (.mk 4 [] 0 ts)) AR (QR:=QR) hQ ts.length 0 false [] bs s.ts (.AE []) AA (λ_=>⟨[],rfl,rfl⟩) (λh=>by cases h) AD hs1 bf AA g0 (.inl ⟨rfl,rfl⟩) (Ck.refl _ _);omega
   .grind[Ar,Av,A1]
   ·-- an existential term
    simp only[A9,AI] at hv;obtain⟨_,Km,Oj,_⟩:=hv;have hbw:bw (.mk 6 [] 0 [b,body])=bw body+1+(cv body+1)*bw b:=rfl;have hwt:wt (.mk 6 [] 0 [b,body])=wt body+max 1 (cv body)*wt b:=rfl;have iH:CR (bw b):=Cp Xj AB;have hsy:CR (bw body):=Cp Xj AA;have w1:1*wt b<=max 1 (cv body)*wt b:=B5 _ AA;have hmb:=mem b AD ⟨iH,AA⟩;have hmy:=mem body AD ⟨hsy,AA⟩;refine Ar (Av (Ar (Av (fP (Ar (Av (Ar (Av (Ar (Av (A1 (AM (AU g0) (AX (off:=3) g0 rfl (BX ha (row:=Ah body) AA rfl (Aj _) AA (Ce ?_)))))))))))))));obtain⟨v,s',hR,hc⟩:=hmy.c _ (A8.Bk body).Fy false ⟨bs,s.ts⟩ hs1 (CT (env R) 49 0 0 0) rfl rfl AR gE;obtain⟨b2,On⟩:=s';have n7:bs.length<=b2.length:=hR.len;have JF:=MG (n:=s.bs.length) AA bf hR.tk;rw[IY] at JF;have tZ:b2[s.bs.length]?=some [AG 6,SS [],AG 0,a]:=CN hR.tk AB;refine⟨_,_,hc,?_⟩;have hR1:=hR.RE;have Aax:=hR.ok;have Aay:=hR.QF;simp only[oX,AL] at JF hR1;have eo:DK (Aa 32) (f+1) (.mk 6 [] 0 [b,body])=bif (DK (Aa 32) f body).isNone then none else I6 (Aa 32) (E9 (Aa 32) (DK (Aa 32) f b) b) ((DK (Aa 32) f body).getD []) []:=by grind[DK,dA]
    have eb2:b2.set e [BB true,BB (DK (Aa 32) f body).isNone]=b2:=by grind[List.getElem?_set_self,List.set_getElem_self]
    have:=ARo (R:=R) (e:=e) (i0:=0) (nm:=[]) (ER:=b) (body:=body) ha (ob:=DK (Aa 32) f b) (l:=(DK (Aa 32) f body).getD []) (t8:=v) (lo:=bs.length) (Wb:=wt body) (C:=max 1 (cv body)) (W:=wt b) (w:=bw b) (T:=bw (.mk 6 [] 0 [b,body])) (λd hd=>by
     cases Zb:DK (Aa 32) f body with
     | none=>grind
     | some l=>
      rw[Zb] at hd;obtain⟨z1,z2⟩:=DC f body l Zb d hd;refine⟨VW f body l Oj hsy Zb d hd,AA,?_⟩;have m1:(Al d.body).length*bw b<=cv body*bw b:=B5 _ z2
      grind) (λl hl=>⟨λc hc=>⟨VW f b l Km iH hl c hc,(DC f b l hl c hc).1⟩,Ny f b l hl⟩) Xj AA AA hmb.c (by
     cases Zb:DK (Aa 32) f body with
     | none=>simp
     | some l=>grind[Ny]) (s0:=s) le (o:=DK (Aa 32) (f+1) (.mk 6 [] 0 [b,body])) (x0:=(DK (Aa 32) f body).isNone) eo (QR:=QR) (X:=b2) JF AA hR1 tZ hQ ((DK (Aa 32) f body).getD []).length 0 (DK (Aa 32) f body).isNone [] b2 On (.AE []) AA (λh=>⟨h,AB,AD⟩) (λh=>by grind) AD Aax AB (AY _) (.inl ⟨rfl,rfl⟩) Aay
    omega
end
theorem AKN {rr:Bool} {k:Nat} {rows:List (List PV)} {v:AV} {s0:AQ} {bs:List (List AV)} {ts:List (Nat×Nat)} {Post:AV->AQ->Prop} (h0:BP s0) (hT:bs.take s0.bs.length=s0.bs) (hv:Dn 0 ts k v rows) (hP:Post v ⟨s0.bs,ts⟩):QM rr s0.bs.length Post v ⟨bs,ts⟩:=by
 have hok:((bs.take s0.bs.length).all (Ag s0.bs.length))=true:=by
  rw[hT,DE];exact h0
 rcases hv with rfl|⟨t,rfl,h1,_⟩
 .refine⟨_,_,?_,hP⟩
  grind[Hy,IC,Tel.close]
 .have:=(BA.1 h1).1
  refine⟨_,_,?_,hP⟩
  grind[Hy,IC,Tel.close]
mutual
theorem NJ:∀(t:Ty) (l:List Int),(occs t l).length<=l.length+size t
 | .mk k _ i ts,l=>by
  have:=YX ts l
  grind[occs,size]
theorem YX:∀(ts:List Ty) (l:List Int),(FC ts l).length<=l.length+Ac ts
 | [],l=>by grind[FC]
 | t::ts,l=>by
  have h1:=NJ t l;have h2:=YX ts (occs t l)
  grind[FC,Ac]
end
section
variable {R:RT}
def zN (R:RT) (x:AV) (t:Ty) (l:List Int) (s:AQ):Prop:=∀(L:BI) (a:AV),L.ro=0->L.rt=0->Dn 0 s.ts 3 a (Ad l) ->
 ∃v s',(∃ts',Dn 0 ts' 3 v (Ad (occs t l))/\Ck a v s.ts ts'/\s'=⟨s.bs,ts'⟩)/\BG (env R) L 65 [x,a] s v s'
theorem zO {l:List Int} {i:Int} {n:List UInt8} {k:Int} {g:AV} {a:AV} {s:AQ} {p:Nat} (ha:Dn 0 s.ts 3 a (Ad l)) (hl:l.length<2 ^ 40) (g0:s.bs[p]?=some [AG k,SS n,AG i,g]) {QR:QT}
  (hQ:∀v ts',Dn 0 ts' 3 v (Ad (bif l.contains i then l else l++[i]))->Ck a v s.ts ts'->QR v ⟨s.bs,ts'⟩) :
  ∀(j q:Nat),q+j=l.length->(l.contains i=(l.drop q).contains i)->AFY R 0 0 0 a (.ptr p 0) (AG q) s QR:=by
 intro j
 induction j with
 | zero=>
  intro q hi hc;refine AFZ (Au (n:=l.length) (by rw[ha.A4.BD,BU]) (Ao ?_));rw[A2 AA];rw[CA AA] at hc;rw[hc] at hQ;refine Ar (ARw (AM (AU g0) (AX (off:=2) g0 rfl (QE ⟨AK,eG ha rfl hl λa' ts' h1 h2=>?_⟩))))
  grind
 | succ j ih=>
  intro q hi hc;refine AFZ (Au (n:=l.length) (by rw[ha.A4.BD,BU]) (Ao ?_));rw[Aq AA];obtain⟨w,hw⟩:∃w,l[q]?=some w:=⟨_,Ay AA⟩;refine A1 (ARx (BX ha.A4 (row:=[.sc (.int .i64 w)]) AA (by simp[*,Iq]) rfl AA (Ek (AM (AU g0) (AX (off:=2) g0 rfl (Av ?_))))));have hd:l.drop q=w::l.drop (q+1):=by grind[List.drop_eq_getElem_cons]
  rw[hd,List.contains_cons] at hc;cases hwi:w==i with
  | true=>
   simp_all[Ck.refl]
  | false=>
   have:(i==w)=false:=by
    have h1:w≠i:=by simpa using hwi
    simpa using λh:i=w=>h1 h.symm
   rw[this,GL] at hc;refine Ar (ARy (Be AA AA ?_));have:=ih (q+1) AA hc;simpa using this
theorem zP {ts:List Ty} {a0:AV} (ha0:BF a0 (AZ ts)) (hl:Ac ts<2 ^ 37) {k i:Int} {n:List UInt8} (hk:(k==2||k==3)=true) {l0:List Int} (hl0:l0.length+Ac ts<2 ^ 38) {p:Nat} {bs:List (List AV)} {O7:List (Nat×Nat)} {c0:AV} (g0:bs[p]?=some [AG k,SS n,AG i,a0]) (hs:BP ⟨bs,O7⟩)
  (ih:∀t∈ts,∀(l:List Int) (s:AQ),l.length+size t<2 ^ 38->BP s->zN R (.agg ((Ah t).map .pv)) t l s) {QR:QT}
  (hQ:∀v ts',Dn 0 ts' 3 v (Ad (FC ts l0))->Ck c0 v O7 ts'->QR v ⟨bs,ts'⟩) :
  ∀(j q:Nat) (l:List Int) (c:AV) (tk:List (Nat×Nat)),q+j=ts.length->FC (ts.drop q) l=FC ts l0->l.length+Ac (ts.drop q)<=l0.length+Ac ts->Dn 0 tk 3 c (Ad l)->Ck c0 c O7 tk ->
   AFa R 0 0 0 c (.ptr p 0) (AG q) ⟨bs,tk⟩ QR:=by
 have Sj:=BS ts;have hrow:∀(s:AQ) (K:AV->Prop),K (AG ts.length)->Gk s a0 K:=λs K h=>Au (n:=ts.length) (by rw[ha0.BD,Ab]) h
 intro j
 induction j with
 | zero=>
  intro q l c tk hi he hle hc hch;rw[CA AA,FC] at he;subst he;refine zQ (AM (AU g0) (AX (off:=0) g0 rfl (Av ?_)));have fin:∀t,zR R 0 0 0 c t QR->zR R 0 0 0 c t QR:=λ_ h=>h
  have last:Gk ⟨bs,tk⟩ a0 λa41=>DI .i64 .lss (AG q) a41 λa43=>a43=BB false:=by grind[Ao]
  cases b3:(k==3) with
  | true=>
   refine BQ (BQ (BQ (pk (Ak (Ak (AM (AU g0) (Ak (AX (off:=3) g0 rfl (Ak (hrow _ _ (Ak (Ao (pk ?_)))))))))))));rw[A2 AA];exact Ar (zS (hQ c tk hc hch))
  | false=>
   have b2:(k==2)=true:=AB;refine Ak (AM (AU g0) (Ak (AX (off:=0) g0 rfl (Ak (Av (pk ?_))))));rw[b2];refine Ak (Ak (AM (AU g0) (Ak (AX (off:=3) g0 rfl (Ak (hrow _ _ (Ak (Ao (pk ?_)))))))));rw[A2 AA];exact Ar (zS (hQ c tk hc hch))
 | succ j D9=>
  intro q l c tk hi he hle hc hch;obtain⟨t,ht⟩:∃t,ts[q]?=some t:=⟨_,Ay AA⟩;have hd:ts.drop q=t::ts.drop (q+1):=by grind[List.drop_eq_getElem_cons]
  rw[hd,FC] at he;rw[hd,Ac] at hle;have hlen:=NJ t l
  have step:AFb R 0 0 0 c (.ptr p 0) (AG q) ⟨bs,tk⟩ QR:=by
   refine ARz (AM (AU g0) (AX (off:=3) g0 rfl (BX ha0 (row:=Ah t) AA (by grind[BL]) (Aj t) AA (Ce ?_))));obtain⟨v,s',⟨ts',h1,h2,rfl⟩,h3⟩:=ih t (A5 ht) l ⟨bs,tk⟩ AA hs (CT (env R) 65 0 0 0) c rfl rfl hc;refine⟨_,_,h3,AR0 (Be AA AA ?_)⟩;have:=D9 (q+1) (occs t l) v ts' AA he AA h1 (hch.trans h2)
   grind
  refine zQ (AM (AU g0) (AX (off:=0) g0 rfl (Av ?_)));cases b3:(k==3) with
  | true=>
   refine BQ (BQ (BQ (pk (Ak (Ak (AM (AU g0) (Ak (AX (off:=3) g0 rfl (Ak (hrow _ _ (Ak (Ao (pk ?_)))))))))))))
   grind[A1]
  | false=>
   have b2:(k==2)=true:=AB;refine Ak (AM (AU g0) (Ak (AX (off:=0) g0 rfl (Ak (Av (pk ?_))))));rw[b2];refine Ak (Ak (AM (AU g0) (Ak (AX (off:=3) g0 rfl (Ak (hrow _ _ (Ak (Ao (pk ?_)))))))))
   grind[A1]
mutual
theorem Vo:∀(t:Ty),size t<2 ^ 37->∀(x:AV),BH t x->∀(l:List Int) (s:AQ),l.length+size t<2 ^ 38->BP s->zN R x t l s
 | .mk k n i ts,h,x,hx,l,s,Sn,hs=>by
  intro L a hro El ha;obtain⟨a0,rfl,ha0⟩:=hx;simp only[size] at h Sn;have ih:=YY ts AA;refine m65 ?_;rw[hro,El];refine AR1 (Bu (cs:=[AG k,SS n,AG i,a0]) rfl (by simp[ha0.ok]) ?_);have g0:=Az s.bs [AG k,SS n,AG i,a0];have hT:(s.bs++[[AG k,SS n,AG i,a0]]).take s.bs.length=s.bs:=AD;have hs1:BP ⟨s.bs++[[AG k,SS n,AG i,a0]],s.ts⟩:=BP.app (s:=s) hs (by simp[Ag,Ax,ha0.Ax]);generalize s.bs++[[AG k,SS n,AG i,a0]]=bs at g0 hT hs1
  have fin:∀v ts',Dn 0 ts' 3 v (Ad (occs (.mk k n i ts) l))->Ck a v s.ts ts'->QM (L.rr 65) s.bs.length (λv s'=>∃ts',Dn 0 ts' 3 v (Ad (occs (.mk k n i ts) l))/\Ck a v s.ts ts'/\s'=⟨s.bs,ts'⟩) v ⟨bs,ts'⟩:=
   λv ts' h1 h2=>AKN hs hT h1 ⟨ts',h1,h2,rfl⟩
  rw[occs] at fin;rw[occs];refine AM (AU g0) (AX (off:=0) g0 rfl (Av ?_));cases b5:(k==5) with
  | true=>
   rw[b5] at fin;refine A1 ?_;have:=zO (R:=R) (s:=⟨bs,s.ts⟩) (p:=s.bs.length) (i:=i) (n:=n) (k:=k) (g:=a0) ha AA g0 (QR:=QM (L.rr 65) s.bs.length (λv s'=>∃ts',Dn 0 ts' 3 v (Ad (bif l.contains i then l else l++[i]))/\Ck a v s.ts ts'/\s'=⟨s.bs,ts'⟩)) (λv ts' h1 h2=>fin v ts' h1 h2) l.length 0 AA rfl
   grind
  | false=>
   rw[b5] at fin;simp only[AL] at fin ⊢;refine Ar (AR2 ?_);cases b23:(k==2||k==3) with
   | true=>
    rw[b23] at fin;simp only[AN] at fin ⊢;have:=zP (R:=R) ha0 AA b23 (l0:=l) AA g0 (hs:=hs1) (c0:=a) ih (QR:=QM (L.rr 65) s.bs.length (λv s'=>∃ts',Dn 0 ts' 3 v (Ad (FC ts l))/\Ck a v s.ts ts'/\s'=⟨s.bs,ts'⟩)) fin ts.length 0 l a s.ts AA rfl (AY _) ha (Ck.refl _ _);omega
   | false=>
    rw[b23] at fin;simp only[AL] at fin ⊢;simp only[Gw] at b23;refine zQ (AM (AU g0) (AX (off:=0) g0 rfl (Av ?_)));rw[b23.2];refine Ak (AM (AU g0) (Ak (AX (off:=0) g0 rfl (Ak (Av (pk ?_))))));rw[b23.1];exact Bf (Bf (Bf (Bf (Bf (pk (Ar (zS (fin a s.ts ha (Ck.refl _ _)))))))))
theorem YY:∀(l:List Ty),Ac l<2 ^ 37->∀t∈l,∀(o:List Int) (s:AQ),o.length+size t<2 ^ 38->BP s->zN R (.agg ((Ah t).map .pv)) t o s
 | [],_,_,h=>by cases h
 | e::l,h,t,hm=>by
  simp only[Ac] at h;rcases A3.1 hm with h' | h'
  .rw[h']
   exact Vo e AA _ (A8.Bk e).Fy
  .exact YY l AA t h'
end
end
/- QP, QI -/
def wI (i:Int):Bool:=decide (-(2 ^ 50)<=i)&&decide (i<2 ^ 50)
theorem zT {t:Ty} (h:vP wI t=true):YR t=true:=Ox (λi hi=>by simp only[wI,AI,Cq] at hi; omega) t h
theorem oE {n m:Int} (hm:wI m=true) {t:Ty} (h:vP wI t=true):vP wI (JE n m t)=true/\size (JE n m t)=size t:=by
 rw[J1];refine Oq (λi hi=>?_) t h
 grind
section
variable {R:RT}
theorem AKO {L:List Int} {c:AV} (hc:BF c (Ad L)) (hl:L.length<2 ^ 40) {bd:List Ty} {F:Ty} {Post:AV->Prop} (hP:∀r,N5 ⟨bd,F⟩ r->Post r) :
  ∀(j q:Nat) (cur:Ty) (bs:List (List AV)) (tk:List (Nat×Nat)) (o:AV) (y:List AV),q+j=L.length->Uj j q cur=F->size cur<2 ^ 37->vP wI cur=true->bs[1]?=some Z5->bs[2]?=some (o::y)->BF o (AZ bd)->BH cur (.agg y) ->
   AFc R 0 0 0 (.ptr 1 0) c (.ptr 2 0) (AG q) ⟨bs,tk⟩ (QP Post):=by
 have hh:(hole:Int)=1073741824:=rfl;intro j
 induction j with
 | zero=>
  intro q cur bs tk o y hi he hsz hv g1 g2 ho hy;rw[Uj] at he;subst he;refine AFd (Au (n:=L.length) (by rw[hc.BD,BU]) (Ao ?_));rw[A2 AA];have EN:CU ⟨bd,cur⟩ (.agg (o::y)):=⟨o,y,rfl,ho,hy⟩;obtain⟨c1,c2,c3⟩:=EN.cells;refine Ar (AR3 (Af g2 c1 (QO g1 c1 (AO _) c2 (AO _) (Af (BZ g1) c1 ?_))));obtain⟨o',h1,h2⟩:=ho.closed (bs.set 1 (o::y)) 0;obtain⟨k,n,i,ts⟩:=cur;obtain⟨a,he,ha⟩:=hy;cases he;obtain⟨a',h3,h4⟩:=ha.closed (bs.set 1 (o::[AG k,SS n,AG i,a])) 0;exact⟨.agg (o'::[AG k,SS n,AG i,a']),by simp[*],hP _ ⟨o',_,rfl,h2,a',rfl,h4⟩⟩
 | succ j ih=>
  intro q cur bs tk o y hi he hsz hv g1 g2 ho hy;rw[Uj] at he;refine AFd (Au (n:=L.length) (by rw[hc.BD,BU]) (Ao ?_));rw[Aq AA];obtain⟨d1,d2,d3⟩:=hy.cells;refine A1 (AR4 (AM (AU g2) (Hp g2 d1 (Be AA AA ?_))));have e1:(1073741825:Int)+(q:Int)=hole+1+q:=AA;rw[e1];refine AH (MF (R:=R) (hole+1+q) q hsz (zT hv) hy) ?_;intro r hr;obtain⟨du,rfl⟩:=hr.Fy.agg;obtain⟨f1,f2,f3⟩:=hr.Fy.cells
  have hw:wI (q:Int)=true:=by
   simp only[wI,AI,Cq];omega
  obtain⟨v1,v2⟩:=oE (n:=hole+1+q) hw hv;refine AM (AU g2) (aj g2 d1 f1 (AO _) f2 (AO _) (AR5 (Be AA AA ?_)));have:=ih (q+1) (JE (hole+1+q) q cur) (bs.set 2 (o::du)) tk o du AA he AA v1 (BV g1 AK) (BZ g2) ho hr.Fy
  grind
theorem AKP {b:Br} {L:List Int} {c:AV} (hc:BF c (Ad L)) (hl:L.length<2 ^ 37) (hL:∀i∈L,0<=i/\i<(b.bounds.length:Int)) (Qh:b.bounds.length<2 ^ 37) {xa:AV} {xb:List AV} (VN:BF xa (AZ b.bounds)) {F:Ty} {Post:AV->Prop} (hP:∀r,N5 ⟨L.map λi=>b.bounds.getD i.toNat bW,F⟩ r->Post r) :
  ∀(j q:Nat) (cur:Ty) (bs:List (List AV)) (tk:List (Nat×Nat)) (o:AV) (y:List AV),q+j=L.length->Uj L.length 0 (Ui L j q cur)=F->size cur<2 ^ 37->vP wI cur=true->bs[0]?=some (xa::xb)->bs[1]?=some Z5->bs[2]?=some (o::y)->Dn 0 tk 25 o (AZ ((L.take q).map λi=>b.bounds.getD i.toNat bW))->BH cur (.agg y) ->
   AFe R 0 0 0 (.ptr 0 0) (.ptr 1 0) c (.ptr 2 0) (AG q) ⟨bs,tk⟩ (QP Post):=by
 have hh:(hole:Int)=1073741824:=rfl;intro j
 induction j with
 | zero=>
  intro q cur bs tk o y hi he hsz hv g0 g1 g2 ho hy;rw[Ui] at he;refine AFf (Au (n:=L.length) (by rw[hc.BD,BU]) (Ao ?_));rw[A2 AA];rw[CV AA] at ho;have:=AKO (R:=R) hc AA hP L.length 0 cur bs tk o y AA he hsz hv g1 g2 ho.A4 hy;exact Ar (AR6 (by simpa using this))
 | succ j ih=>
  intro q cur bs tk o y hi he hsz hv g0 g1 g2 ho hy;rw[Ui] at he;refine AFf (Au (n:=L.length) (by rw[hc.BD,BU]) (Ao ?_));rw[Aq AA];obtain⟨w,hw⟩:∃w,L[q]?=some w:=⟨_,Ay AA⟩;obtain⟨w1,w2⟩:=hL w (A5 hw);obtain⟨t,ht⟩:∃t,b.bounds[w.toNat]?=some t:=⟨_,Ay AA⟩;have hgd:b.bounds.getD w.toNat bW=t:=AB;have hLd:L.getD q 0=w:=AB;rw[hLd] at he;obtain⟨d1,d2,d3⟩:=hy.cells;have ix:∀(s:AQ) (K:AV->Prop),K (AG w)->ND s 1 c (AG q) λa=>Df (env R) s none a K:=λs K h=>BX hc (row:=[.sc (.int .i64 w)]) AA (by grind[Iq]) rfl AA (Ek h)
  refine A1 (AR7 (AM (AU g2) (AX (off:=0) g2 rfl (AM (AU g0) (AX (off:=0) g0 rfl (ix _ _ (BX VN (row:=Ah t) w1 (BL ht) (Aj t) AA (Ce (Er (A8.Bk t).Fy ⟨AK,aF ho rfl AB λo' GJ ho'=>?_⟩)))))))));have hcell:=ho'.A4;refine AM (AU g2) (C3 (off:=0) g2 AD hcell.cells (AO _) hcell.ok (.inl (AO _)) ?_);have es:(o::y).set 0 o'=o'::y:=rfl;rw[es];have td:=BV (b:=o'::y) g0 (k:=2) AK;have g1':=BV (b:=o'::y) g1 (k:=2) AK;have tY:=BZ (b:=o'::y) g2;generalize bs.set 2 (o'::y)=bs' at td g1' tY;refine AM (AU tY) (Hp tY d1 (ix _ _ (Be AA AA ?_)));have e1:(1073741825:Int)+(q:Int)=hole+1+q:=AA;rw[e1];refine AH (MF (R:=R) w (hole+1+q) hsz (zT hv) hy) ?_;intro r hr;obtain⟨du,rfl⟩:=hr.Fy.agg;obtain⟨f1,f2,f3⟩:=hr.Fy.cells
  have hwi:wI (hole+1+(q:Int))=true:=by
   simp only[wI,AI,Cq];omega
  obtain⟨v1,v2⟩:=oE (n:=w) hwi hv;refine AM (AU tY) (aj tY d1 f1 (AO _) f2 (AO _) (AR8 (Be AA AA ?_)));have ht2:(L.take q).map (λi=>b.bounds.getD i.toNat bW)++[t]=(L.take (q+1)).map λi=>b.bounds.getD i.toNat bW:=by grind[List.take_add_one]
  rw[ht2] at ho';have:=ih (q+1) (JE w (hole+1+q) cur) (bs'.set 2 (o'::du)) GJ o' du AA he AA v1 (BV td AK) (BV g1' AK) (BZ tY) ho' hr.Fy
  grind
theorem W4 {b:Br} (hs:size b.body<2 ^ 36) (hv:vP wI b.body=true) (hb:b.bounds.length<2 ^ 37) (hr:∀i∈occs b.body [],0<=i/\i<(b.bounds.length:Int)) {x:AV} (hx:N5 b x):Ae (env R) 50 [x] λr=>N5 (EA b) r:=by
 obtain⟨a,y,rfl,ha,hy⟩:=hx;obtain⟨c1,c2,c3,c4⟩:=hy.cells;have WQ:=NJ b.body [];simp only[B6,CI] at WQ;refine e50 (u0:=.agg (a::y)) (by simp[BK,close,ha.close,c4]) (AR9 ?_);refine Bu (cs:=a::y) rfl (by simp[ha.ok]; grind) (Bm ?_);have g0:(AQ.mk [a::y,Z5] []).bs[0]?=some (a::y):=rfl
 have hs1:BP ⟨[a::y,Z5],[]⟩:=by
  intro d hd;simp only[A3,D4,D5] at hd;rcases hd with rfl|rfl
  .show Ag _ _=true
   simp only[Ag,ha.Ax,CY];exact Bg (AO _) _ c3
  rfl
 refine AM (s:=⟨[a::y,Z5],[]⟩) (AU g0) (Hp g0 c1 ?_);obtain⟨v,s',⟨ts',h1,_,rfl⟩,h3⟩:=Vo (R:=R) b.body AA (.agg y) hy.Fy [] ⟨[a::y,Z5],[]⟩ AB hs1 (CT (env R) 50 0 0 0) (.AE []) rfl rfl (.inl rfl);refine⟨_,_,h3,AM (s:=⟨[a::y,Z5],ts'⟩) (AU g0) (Hp g0 c1 (HO (AFR hy.Fy) (Bm (QO (s:=⟨[a::y,Z5]++[Z5],ts'⟩) rfl AB (AO _) (by simp[*]) (AO _) ?_))))⟩;have:=AKP (R:=R) (b:=b) (L:=occs b.body []) (c:=v) h1.A4 AA hr hb (xa:=a) (xb:=y) (.inl ha) (F:=(EA b).body) (Post:=λr=>N5 (EA b) r) (λr h=>h) (occs b.body []).length 0 b.body [a::y,Z5,.AE []::y] ts' (.AE []) y AA rfl AA hv rfl rfl rfl (.inl rfl) hy.Fy
 grind
theorem Vp {b:Br} (hs:size b.body<2 ^ 36) (hv:vP wI b.body=true) (hb:b.bounds.length<2 ^ 37) (hr:∀i∈occs b.body [],0<=i/\i<(b.bounds.length:Int)) {x:AV} (hx:CU b x):Ae (env R) 50 [x] λr=>N5 (EA b) r:=by
 obtain⟨x',h1,h2,h3⟩:=hx.closed;exact Ae.open (args':=[x']) AR AR rfl h1 h2 (W4 hs hv hb hr h3)
end
theorem oH {t:Ty} (hv:valid t=true) (hc:CB 0 t=true) (hs:CR (bw t)) {l:List Br} (hl:DK (Aa 32) (depth t) t=some l) :
  ∃ps B,BE (Aa 32) (depth t) t []=(some ps,B)/\l.map EA=ps.map (JY B)/\(∀b∈l,∀i∈occs b.body [],0<=i/\i<(b.bounds.length:Int))/\(∀b∈B,Wx t b)/\∀b∈l,∀c∈b.bounds,Wx t c:=by
 have h:=jW (BC:=Aa 32) rfl rfl (depth t) t [] hv hc GM hs [] (λx hx=>by grind);rw[Ej hv hc] at h;have hb:=Oo (f:=depth t) hv hc;have hsz:=DC (BC:=Aa 32) (depth t) t l hl;rw[hl] at h;generalize BE (Aa 32) (depth t) t []=o2 at h hb;rcases o2 with ⟨_|ps,B⟩
 .exact h.elim
 .obtain⟨_,h2⟩:=h
  simp only at hb ⊢
  have h3:∀(l':List Br) (ps':List Ty),(∀b∈l',b∈l)->CE (λb p=>∃φ,Rl false 0 B ([]:List Ty).length B.length [] b p φ) l' ps'->CE (λb p=>b∈l/\∃φ,Rl false 0 B ([]:List Ty).length B.length [] b p φ) l' ps':=by
   intro l'
   induction l' with
   | nil=>intro ps' _ h; cases ps' with
    | nil=>trivial
    | cons _ _=>exact h.elim
   | cons a l' ihl=>
    intro ps' hm h;cases ps' with
    | nil=>exact h.elim
    | cons p ps'=>exact⟨⟨hm a AD,h.1⟩,ihl ps' (λb hb=>hm b AB) h.2⟩
  have h4:∀(l':List Br) (ps':List Ty),CE (λb p=>∃φ,Rl false 0 B ([]:List Ty).length B.length [] b p φ) l' ps'->∀b∈l',∃p φ,Rl false 0 B ([]:List Ty).length B.length [] b p φ:=by
   intro l'
   induction l' with
   | nil=>simp
   | cons a l' ihl=>
    intro ps' h b hb;cases ps' with
    | nil=>exact h.elim
    | cons p ps'=>
     rcases A3.1 hb with rfl|hb
     .exact⟨p,h.1⟩
     .exact ihl ps' h.2 b hb
  have e:l.map EA=ps.map (JY B):=by
   refine(h3 l ps (λb hb=>hb) h2).map_eq λb p ⟨Qh,φ,H⟩=>(wU H (AY _) (Cp hs ?_)).symm
   have:=H.nR;have:=H.len
   grind
  refine⟨ps,B,rfl,e,λb Qh i hi=>?_,hb,λb Qh c hc=>?_⟩
  rotate_left
  .obtain⟨p,φ,H⟩:=h4 l ps h2 b Qh
   obtain⟨i,hi,hic⟩:=NT.1 hc;obtain⟨x,hx⟩:∃x,φ[i]?=some x:=⟨_,Ay (by have:=H.len; omega)⟩;have h5:=H.LO i x hx
   grind
  obtain⟨p,φ,H⟩:=h4 l ps h2 b Qh;rcases J2 b.body [] i hi with h|h
  .cases h
  .have:=H.len
   rcases H.vis i h with h|h|h
   all_goals grind
theorem oJ {L:List Int}:∀(f j:Nat) (t:Ty),j+f<2 ^ 40->vP wI t=true->vP wI (Ui L f j t)=true/\size (Ui L f j t)=size t
 | 0,_,_,_,h=>⟨h,rfl⟩
 | f+1,j,t,hj,h=>by
  have hw:wI (hole+1+(j:Int))=true:=by
   have:(hole:Int)=1073741824:=rfl;simp only[wI,AI,Cq];omega
  obtain⟨h1,h2⟩:=oE (n:=L.getD j 0) hw h;obtain⟨h3,h4⟩:=oJ (L:=L) f (j+1) _ AA h1;exact⟨h3,h4.trans h2⟩
theorem oK:∀(f j:Nat) (t:Ty),j+f<2 ^ 40->vP wI t=true->vP wI (Uj f j t)=true/\size (Uj f j t)=size t
 | 0,_,_,_,h=>⟨h,rfl⟩
 | f+1,j,t,hj,h=>by
  have hw:wI (j:Int)=true:=by
   simp only[wI,AI,Cq];omega
  obtain⟨h1,h2⟩:=oE (n:=hole+1+(j:Int)) hw h;obtain⟨h3,h4⟩:=oK f (j+1) _ AA h1;exact⟨h3,h4.trans h2⟩
theorem YZ {b:Br} (hv:vP wI b.body=true) (hs:size b.body<2 ^ 36):size (EA b).body=size b.body/\(EA b).bounds.length<=size b.body:=by
 have hl:=NJ b.body [];simp only[B6,CI] at hl;obtain⟨h1,h2⟩:=oJ (L:=occs b.body []) (occs b.body []).length 0 b.body AA hv;obtain⟨_,h4⟩:=oK (occs b.body []).length 0 _ AA h1;refine⟨h4.trans h2,?_⟩
 show((occs b.body []).map _).length<=_
 grind
theorem AKQ {W:Nat} {b:Br} (h:MC W b) (hb:b.bounds.length<2 ^ 40):vP wI b.body=true:=
 aW (λi hi=>by
  have:(hole:Int)=1073741824:=rfl;rw[nT] at hi;simp only[wI,AI,Cq];omega) _ h.ok
section
variable {R:RT}
def kJ (R:RT) (t:Ty) (o:List Br×Int):Prop:=∀x,A8 t x->Ae (env R) 15 [x] λr=>∃a,r=.tuple [a,AG o.2]/\A0 a (o.1.map Dm)
theorem ACn {X:Ty->List Br×Int} {ts:List Ty} {y:AV} (hy:A0 y (AZ ts)) (hl:ts.length<2 ^ 30) (hx:∀t∈ts,kJ R t (X t)) {bs:List (List AV)} {tk:List (Nat×Nat)} {xb:List AV} (g0:bs[0]?=some (y::xb)) {Post:AV->Prop} (hP:Post (BB (ts.all λt=>Cs (X t)))) :
  ∀(j p:Nat),p+j=ts.length->(ts.all λt=>Cs (X t))=((ts.drop p).all λt=>Cs (X t))->AFg R 0 0 0 (.ptr 0 0) (AG p) ⟨bs,tk⟩ (QP Post):=by
 intro j
 induction j with
 | zero=>
  intro p hi hall;refine AFh (AM (AU g0) (AX (off:=0) g0 rfl (Au (n:=ts.length) (by rw[hy.BD,Ab]) (Ao ?_))));rw[A2 AA];rw[CA AA] at hall;rw[hall] at hP;exact Ar (ASA ⟨_,GX,hP⟩)
 | succ j D9=>
  intro p hi hall;refine AFh (AM (AU g0) (AX (off:=0) g0 rfl (Au (n:=ts.length) (by rw[hy.BD,Ab]) (Ao ?_))));rw[Aq AA];obtain⟨t,ht⟩:∃t,ts[p]?=some t:=⟨_,Ay AA⟩;have VE:=A5 ht;rw[drop_cons ht,Gz] at hall;refine A1 (ASB (AM (AU g0) (AX (off:=0) g0 rfl (BR hy (row:=Ah t) AA (by simp[*,BL]) (Aj _) AA (Ce (AH (hx t VE _ (A8.Bk t)) ?_))))));rintro _ ⟨a,rfl,ha⟩
  have fail:Cs (X t)=false->(QP Post) (BB false) ⟨bs,tk⟩:=λh=>by
   rw[hall,h,Gv] at hP;exact⟨_,GX,hP⟩
  refine CO rfl (CO rfl (EB ?_));cases h0:(X t).2==0 with
  | false=>
   grind[BQ,pk,A1,Cs]
  | true=>
   have:((X t).2 != 0)=false:=AB;rw[this];refine Ak (Ak (Au (n:=(X t).1.length) (by rw[ha.BD,Bt]) (Ak (Fm (pk ?_)))))
   by_cases h4:(X t).1.length<=4
   .rw[A2 AA]
    have hok:Cs (X t)=true:=by simp[Cs,h0,h4]
    rw[hok,CY] at hall;refine Ar (ASC (Be AA AA ?_));have:=D9 (p+1) AA hall;simpa using this
   .rw[Aq AA]
    exact A1 (fail (by simp[Cs,h4]))
theorem QV {X:Ty->List Br×Int} {b:Br} (hs:size b.body<2 ^ 37) (hl:b.bounds.length<2 ^ 30) (hx:∀t∈b.bounds,kJ R t (X t)) {x:AV} (lq:N5 b x):Ae (env R) 51 [x] λr=>r=BB (Md b&&b.bounds.all λb=>Cs (X b)):=by
 obtain⟨a,y,rfl,ha,hy⟩:=lq;obtain⟨c1,c2,c3,c4⟩:=hy.cells;have hcs:=Gc b.body
 suffices H:∀Post:AV->Prop,Post (BB (Md b&&b.bounds.all λb=>Cs (X b)))->AFi R 0 0 0 (.agg (a::y)) ⟨[],[]⟩ (QP Post) from e51 (u0:=.agg (a::y)) (by simp[BK,close,ha.close,c4]) (H _ rfl)
 intro Post hP;refine ASD (Bu (cs:=a::y) rfl (by simp[ha.ok]; grind) ?_);have g0:(AQ.mk ([]++[a::y]) []).bs[0]?=some (a::y):=rfl;refine AM (AU g0) (AX (off:=0) g0 rfl (Au (n:=b.bounds.length) (by rw[ha.BD,Ab]) (Fm ?_)))
 by_cases h6:b.bounds.length<=6
 .rw[A2 AA]
  refine Ak (AM (AU g0) (Ak (Hp g0 c1 (Ak (AH (RZ b.body hs _ hy) ?_)))));intro v hv;refine Ak (Au (n:=(Al b.body).length) (by rw[hv.BD,BU]) (Ak (Fm (pk ?_))))
  by_cases h3:(Al b.body).length<=3
  .rw[A2 AA]
   have hw:Md b=true:=by grind[Md]
   rw[hw,CY] at hP;have:=ACn (R:=R) ha hl hx (bs:=[]++[a::y]) (tk:=[]) (xb:=y) g0 hP b.bounds.length 0 AA rfl;exact Ar (ASE (by simpa using this))
  .rw[Aq AA]
   have hw:Md b=false:=by simp[Md,h3]
   rw[hw,Gv] at hP;exact A1 ⟨_,GX,hP⟩
 .rw[Aq AA]
  have hw:Md b=false:=by simp[Md,h6]
  rw[hw,Gv] at hP;exact BQ (BQ (BQ (BQ (BQ (pk (A1 ⟨_,GX,hP⟩))))))
theorem W5 {X:Ty->List Br×Int} {b:Br} (hs:size b.body<2 ^ 37) (hl:b.bounds.length<2 ^ 30) (hx:∀t∈b.bounds,kJ R t (X t)) {x:AV} (lq:CU b x):Ae (env R) 51 [x] λr=>r=BB (Md b&&b.bounds.all λb=>Cs (X b)):=by
 obtain⟨x',h1,h2,h3⟩:=lq.closed;exact Ae.open (args':=[x']) AR AR rfl h1 h2 (QV hs hl hx h3)
end
end Go.Proofs.YtpgfpakdnijngaaGreatDoor
