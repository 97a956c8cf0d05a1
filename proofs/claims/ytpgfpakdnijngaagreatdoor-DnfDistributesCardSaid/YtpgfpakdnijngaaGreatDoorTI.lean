/-
  The reference: renumber.
-/
import Derived.Test.YtpgfpakdnijngaaGreatDoorTH
import Derived.Test.YtpgfpakdnijngaaGreatDoorTF
import Derived.Test.YtpgfpakdnijngaaGreatDoorWpW
set_option linter.unusedSimpArgs false
set_option linter.unusedVariables false
namespace Go.Proofs.YtpgfpakdnijngaaGreatDoor
open Go.Tel
attribute [local simp] CX Cx MP MQ AX Df Ia wO setCells C2 FA DN Ca Bo alive Dx Hv KX nT Bi DF Bz Ib Fj Eo nU pY okB wX pZ wY pg wZ lu we wh wj wk wm wo wq wu wz w6 w7 okF w8 w9 xA xB xD Zh xE Ur Us Ut Uu xH xJ xK xN xO xQ xS xT xU xV Ic xW pn xX xY xZ xd pq xe xg xh xj xk Cn g0 g1 xI xL xM xF xG xC lf Y4 Y5
def wI (i:Int):Bool:=decide (-(2 ^ 50)<=i)&&decide (i<2 ^ 50)
theorem ABO {n m:Int} (hm:wI m=true) {t:Ty} (h:vP wI t=true):vP wI (UU n m t)=true/\size (UU n m t)=size t:=by
 rw[QB];refine N7 (fun i hi=>?_) t h;cases i==n with
 | true=>exact hm
 | false=>exact hi
theorem zq {t:Ty} (hv:valid t=true) (hc:Dg 0 t=true) (hs:C7 (bw t)) {l:List Br} (hl:Gi (AR 32) (depth t) t=some l) :
  ∃ ps B,Aj (AR 32) (depth t) t []=(some ps,B)/\l.map N1=ps.map (KH B)/\(∀ b∈l,∀ i∈occs b.body [],0<=i/\i<(b.bounds.length:Int))/\(∀ b∈B,Yd t b)/\∀ b∈l,∀ c∈b.bounds,Yd t c:=by
 have h:=ee (Ai:=AR 32) rfl rfl (depth t) t [] hv hc HI hs [] (fun x hx=>by cases hx);rw[Ek hv hc] at h;have hb:=N6 (f:=depth t) hv hc;have hsz:=Ej (Ai:=AR 32) (depth t) t l hl;rw[hl] at h;generalize Aj (AR 32) (depth t) t []=o2 at h hb;rcases o2 with ⟨_|ps,B⟩
 ·exact h.elim
 ·obtain⟨_,h2⟩:=h
  simp only at hb ⊢
  have h3:∀ (l':List Br) (ps':List Ty),(∀ b∈l',b∈l)->CY (fun b p=>∃ φ,Rl false 0 B ([]:List Ty).length B.length [] b p φ) l' ps'->CY (fun b p=>b∈l/\∃ φ,Rl false 0 B ([]:List Ty).length B.length [] b p φ) l' ps':=by
   intro l'
   induction l' with
   | nil=>intro ps' _ h; cases ps' with
    | nil=>trivial
    | cons _ _=>exact h.elim
   | cons a l' ihl=>
    intro ps' hm h;cases ps' with
    | nil=>exact h.elim
    | cons p ps'=>exact⟨⟨hm a (by simp),h.1⟩,ihl ps' (fun b hb=>hm b (by simp[hb])) h.2⟩
  have h4:∀ (l':List Br) (ps':List Ty),CY (fun b p=>∃ φ,Rl false 0 B ([]:List Ty).length B.length [] b p φ) l' ps'->∀ b∈l',∃ p φ,Rl false 0 B ([]:List Ty).length B.length [] b p φ:=by
   intro l'
   induction l' with
   | nil=>intro _ _ b hb; cases hb
   | cons a l' ihl=>
    intro ps' h b hb;cases ps' with
    | nil=>exact h.elim
    | cons p ps'=>
     rcases Av.1 hb with rfl|hb
     ·exact⟨p,h.1⟩
     ·exact ihl ps' h.2 b hb
  have e:l.map N1=ps.map (KH B):=by
   refine(h3 l ps (fun b hb=>hb) h2).map_eq fun b p ⟨Ow,φ,H⟩=>(qY H (AL _) (EX hs ?_)).symm
   have:=H.ju;have:=H.len;have:=(hsz b Ow).1;omega
  refine⟨ps,B,rfl,e,fun b Ow i hi=>?_,hb,fun b Ow c hc=>?_⟩
  rotate_left
  ·obtain⟨p,φ,H⟩:=h4 l ps h2 b Ow
   obtain⟨i,hi,hic⟩:=OK.1 hc;obtain⟨x,hx⟩:∃ x,φ[i]?=some x:=⟨_,Ak (by have:=H.len; omega)⟩;have h5:=H.Ks i x hx;rw[Ak hi,hic] at h5;exact hb c (BK h5)
  obtain⟨p,φ,H⟩:=h4 l ps h2 b Ow;rcases MY b.body [] i hi with h|h
  ·cases h
  ·have:=H.len
   rcases H.vis i h with h|h|h
   ·omega
   ·simp at h; omega
   ·cases h.1
theorem kA {L:List Int}:∀ (f j:Nat) (t:Ty),j+f<2 ^ 40->vP wI t=true->vP wI (Zy L f j t)=true/\size (Zy L f j t)=size t
 | 0,_,_,_,h=>⟨h,rfl⟩
 | f+1,j,t,hj,h=>by
  have hw:wI (hole+1+(j:Int))=true:=by
   have:(hole:Int)=1073741824:=rfl;simp only[wI,AG,BT];omega
  obtain⟨h1,h2⟩:=ABO (n:=L.getD j 0) hw h;obtain⟨h3,h4⟩:=kA (L:=L) f (j+1) _ (by omega) h1;exact⟨h3,h4.trans h2⟩
theorem kB:∀ (f j:Nat) (t:Ty),j+f<2 ^ 40->vP wI t=true->vP wI (ej f j t)=true/\size (ej f j t)=size t
 | 0,_,_,_,h=>⟨h,rfl⟩
 | f+1,j,t,hj,h=>by
  have hw:wI (j:Int)=true:=by
   simp only[wI,AG,BT];omega
  obtain⟨h1,h2⟩:=ABO (n:=hole+1+(j:Int)) hw h;obtain⟨h3,h4⟩:=kB f (j+1) _ (by omega) h1;exact⟨h3,h4.trans h2⟩
theorem mT {b:Br} (hv:vP wI b.body=true) (hs:size b.body<2 ^ 36):size (N1 b).body=size b.body/\(N1 b).bounds.length<=size b.body:=by
 have hl:=cC b.body [];simp only[BV,CJ] at hl;obtain⟨h1,h2⟩:=kA (L:=occs b.body []) (occs b.body []).length 0 b.body (by omega) hv;obtain⟨_,h4⟩:=kB (occs b.body []).length 0 _ (by omega) h1;refine⟨h4.trans h2,?_⟩
 show((occs b.body []).map _).length<=_
 rw[AZ];exact hl
theorem AGE {W:Nat} {b:Br} (h:UY W b) (hb:b.bounds.length<2 ^ 40):vP wI b.body=true:=
 Ye (fun i hi=>by
  have:(hole:Int)=1073741824:=rfl;rw[Gv] at hi;simp only[wI,AG,BT];omega) _ h.ok
theorem CY.set {α β:Type} {P:α->β->Prop}:∀ {l:List α} {m:List β} (p:Nat) {a:α} {b:β},CY P l m->P a b->CY P (l.set p a) (m.set p b)
 | [],[],_,_,_,_,_=>trivial
 | x::l,y::m,0,_,_,⟨_,h⟩,hab=>⟨hab,h⟩
 | x::l,y::m,p+1,_,_,⟨h1,h2⟩,hab=>⟨h1,CY.set p h2 hab⟩
 | [],_::_,_,_,_,h,_=>h.elim
 | _::_,[],_,_,_,h,_=>h.elim
theorem CY.len {α β:Type} {P:α->β->Prop}:∀ {l:List α} {m:List β},CY P l m->l.length=m.length
 | [],[],_=>rfl
 | _::l,_::m,⟨_,h⟩=>by simp[CY.len h]
 | [],_::_,h=>h.elim
 | _::_,[],h=>h.elim
theorem CY.take {α β:Type} {P:α->β->Prop}:∀ {l:List α} {m:List β} (p:Nat),CY P l m->CY P (l.take p) (m.take p)
 | [],[],p,_=>by simp[CY]
 | _::_,_::_,0,_=>trivial
 | x::l,y::m,p+1,⟨h1,h2⟩=>⟨h1,CY.take p h2⟩
 | [],_::_,_,h=>h.elim
 | _::_,[],_,h=>h.elim
theorem NJ.close {lo:Nat} {bs:List (List AV)} {l:List Br} {v:AV} (hb:NJ lo bs l v):∃ v',Tel.close bs 0 0 v=some v'/\BP v' (l.map K0):=by
 rcases hb with ⟨rfl,rfl⟩|⟨id,rows,h1,rfl,h2,h3,h4⟩
 ·exact⟨.AA [],by simp[Tel.close],.AA _⟩
 ·obtain⟨c,cs,hc,k1,k2,k3,hal⟩:=NJ.block (lo:=lo) (s:=⟨bs,[]⟩) h2 h3 h4
  have xm:=T2 h3;refine⟨.pv (.list (l.map K0)),?_,.list _⟩
  have e2:I4 bs id 0 l.length 5=some (l.map K0):=by
   unfold I4;rw[h2];have sO:rows.flatten.isEmpty=false:=by rw[hc]; rfl
   have hfl:rows.flatten.length=l.length*5:=by rw[hc]; exact k1
   simp only;rw[if_pos ⟨by omega,sO⟩,Fv,CL (by omega),xm];simp only
   have:=GI (k:=5) (l.map K0) (fun r hr=>by
    obtain⟨b,_,rfl⟩:=Bb.1 hr;exact K4 b)
   rw[AZ] at this;rw[this]
  simp only[Tel.close,Gp,Dk,e2]
section
variable {R:RT}
structure APZ (b:Br):Prop where
 nX:size b.body<2 ^ 36
 ok:vP wI b.body=true
 HF:b.bounds.length<2 ^ 37
 O6:∀ i∈occs b.body [],0<=i/\i<(b.bounds.length:Int)
theorem mU {t:Ty} (hv:valid t=true) (hc:Dg 0 t=true) (hft:Fit t) {l:List Br} (sR:Gi (AR 32) (depth t) t=some l):∀ b∈l,APZ b/\(N1 b).bounds.length<2 ^ 30/\size (N1 b).body<2 ^ 30/\∀ c∈(N1 b).bounds,Yd t c:=by
 intro b Ow;obtain⟨ps,B,_,_,AKE,_,hB⟩:=zq hv hc hft.bws sR;have z:=Ej (Ai:=AR 32) (depth t) t l sR b Ow;have zG:=AJi (depth t) t l hv hft.bws sR b Ow;have hbw:(bw t:Int)<1073741824:=hft.bws;have hsz:=zG.nX;have hwt:=hft.wts;have hok:=AGE zG (by omega);obtain⟨r1,r2⟩:=mT hok (by omega);refine⟨⟨by omega,hok,by omega,AKE b Ow⟩,by omega,by omega,fun c Pv=>?_⟩;have APa:c∈(occs b.body []).map fun i=>b.bounds.getD i.toNat nW:=Pv
 obtain⟨i,hi,hic⟩:=Bb.1 APa;obtain⟨i1,i2⟩:=AKE b Ow i hi;rw[J4,Ak (by omega)] at hic;rw[<-hic];exact hB b Ow _ (XH _)
end
def xu (bs:List (List AV)) (l:List Br) (a:AV):Prop:=(∃ lo,NJ lo bs l a)\/BO a (l.map K0)
theorem xu.Bk {s:AK} {l:List Br} {a:AV} (h:xu s.bs l a):Bk s a=some l.length:=by
 rcases h with ⟨lo,h⟩|h
 ·exact h.Bk
 ·rw[h.Bk,AZ]
def BrS (b:Br):Prop:=size b.body<2 ^ 38/\b.bounds.length<2 ^ 60/\∀ t∈b.bounds,size t<2 ^ 38
section
variable {R:RT}
theorem kC {s:AK} {l:List Br} {a:AV} {p:Nat} {c:Br} (h:xu s.bs l a) (hc:l[p]?=some c) {K:AV->Prop} (hK:∀ row,FD c (.agg row)->K (.agg row)):Dc s 5 a (AD p) fun x=>FA (env R) s (some 5) x K:=by
 rcases h with ⟨lo,h⟩|h
 ·exact AGD h hc hK
 ·refine B7 h (row:=K0 c) (by omega) (by simp[hc]) (K4 c) (by omega) ?_
  simp only[FA,DN,Fv,xL,xM,xF,xG];refine⟨by rw[AZ,K4]; omega,?_⟩;rw[CL (by rw[AZ,K4]; omega)];obtain⟨x,y,he,hx,hy⟩:=mC.Ci c;refine hK _ ⟨x,y,he,.inl hx,hy.jO⟩
theorem zu {l m:List Ty} {x y:AV} (hx:BP x (AQ l)) (hy:BP y (AQ m)) (hlm:l.length=m.length) (hl:l.length<2 ^ 60) (hs:∀ t∈l,size t<2 ^ 38) {s:AK} {Post:AV->Prop} (hP:∀ b:Bool,(b=true<->l=m)->Post (BB b)) :
  ∀ (j q:Nat),q+j=l.length->(l.take q=m.take q)->kD R 0 0 0 x y (AD q) s (QP Post):=by
 intro j
 induction j with
 | zero=>
  intro q hi he;refine ABP (BS (n:=l.length) (by rw[hx.Bk,Ad]) (BE ?_));rw[A9 (by omega)];rw[CL (by omega),CL (by omega)] at he;exact BQ (AKG ⟨_,Ic,hP true (by simp[he])⟩)
 | succ j ih=>
  intro q hi he;refine ABP (BS (n:=l.length) (by rw[hx.Bk,Ad]) (BE ?_));rw[Au (by omega)];obtain⟨t,ht⟩:∃ t,l[q]?=some t:=⟨_,Ak (by omega)⟩;obtain⟨u,hu⟩:∃ t,m[q]?=some t:=⟨_,Ak (by omega)⟩;refine BZ (AKH (CS hx (row:=Ah t) (by omega) (by simpa using CA ht) (Am t) (by omega) (EU (CS hy (row:=Ah u) (by omega) (by simpa using CA hu) (Am u) (by omega) (EU (AI (O9 (R:=R) (hs t (BK ht)) (Bp.Ci t) (Bp.Ci u)) ?_))))));rintro _ ⟨b,rfl,hb⟩;refine nt ?_;cases b with
  | true=>
   have htu:t=u:=hb.1 rfl;refine BQ (AKI (Cr (by omega) (by omega) ?_));have:=ih (q+1) (by omega) (by rw[Gr,Gr,he,ht,hu,htu]);simpa using this
  | false=>
   refine BZ ⟨_,Ic,hP false ?_⟩;constructor
   ·intro h; cases h
   ·rintro rfl
    rw[ht] at hu;exact absurd (hb.2 (EL hu)) (by decide)
theorem RS {l m:List Ty} {x y:AV} (hx:BP x (AQ l)) (hy:BP y (AQ m)) (hl:l.length<2 ^ 60) (hs:∀ t∈l,size t<2 ^ 38):AW (env R) 75 [x,y] fun r=>∃ b:Bool,r=BB b/\(b=true<->l=m):=by
 suffices H:∀ Post:AV->Prop,(∀ b:Bool,(b=true<->l=m)->Post (BB b))->sV R 0 0 0 x y ⟨[],[]⟩ (QP Post) from e75 (u0:=x) (u1:=y) (by simp[AN,hx.close,hy.close]) (H _ fun b h=>⟨b,rfl,h⟩)
 intro Post hP;refine AKJ (BS (n:=l.length) (by rw[hx.Bk,Ad]) (BS (n:=m.length) (by rw[hy.Bk,Ad]) (Fk ?_)))
 by_cases h:l.length=m.length
 ·have:((l.length:Int) != (m.length:Int))=false:=by simp[h]
  rw[this];have:=zu (R:=R) hx hy h hl hs (s:=⟨[],[]⟩) hP l.length 0 (by omega) rfl;exact BQ (AKK (by simpa using this))
 ·have:((l.length:Int) != (m.length:Int))=true:=by
   simp only[bne_iff_ne,ne_eq];omega
  rw[this];exact BZ ⟨_,Ic,hP false ⟨fun h=>(by cases h),fun e=>absurd (by rw[e]) h⟩⟩
theorem Qb {b c:Br} (hb:BrS b) {x y:AV} (hx:FD b x) (hy:FD c y):AW (env R) 32 [x,y] fun r=>∃ e:Bool,r=BB e/\(e=true<->b=c):=by
 obtain⟨x',h1,h2,a,v,rfl,ha,hv⟩:=hx.closed;obtain⟨y',k1,k2,d,w,rfl,hd,hw⟩:=hy.closed
 have z1:close [] 0 0 x=some (.agg (a::v)):=by
  simp only[AN] at h1;cases hc:close [] 0 0 x with
  | none=>rw[hc] at h1; cases h1
  | some u=>rw[hc] at h1; simp at h1; rw[h1]
 have z2:close [] 0 0 y=some (.agg (d::w)):=by
  simp only[AN] at k1;cases hc:close [] 0 0 y with
  | none=>rw[hc] at k1; cases k1
  | some u=>rw[hc] at k1; simp at k1; rw[k1]
 obtain⟨c1,c2,c3,c4⟩:=hv.cells;obtain⟨d1,d2,d3,d4⟩:=hw.cells;refine AW.open (args':=[.agg (a::v),.agg (d::w)]) (by kernel_rfl) (by kernel_rfl) rfl (by simp[AN,z1,z2]) (by simp[AN,close,ha.close,hd.close,c4,d4]) ?_;obtain⟨s1,s2,s3⟩:=hb
 suffices H:∀ Post:AV->Prop,(∀ e:Bool,(e=true<->b=c)->Post (BB e))->sX R 0 0 0 (.agg (a::v)) (.agg (d::w)) ⟨[],[]⟩ (QP Post) from e32 (u0:=.agg (a::v)) (u1:=.agg (d::w)) (by simp[AN,close,ha.close,hd.close,c4,d4]) (H _ fun b h=>⟨b,rfl,h⟩)
 intro Post hP;refine AKL (DY (cs:=a::v) rfl (by simp[ha.ok]; simpa using c2) (DY (cs:=d::w) rfl (by simp[hd.ok]; simpa using d2) ?_));have g0:(AK.mk ([]++[a::v]++[d::w]) []).bs[0]?=some (a::v):=rfl;have g1:(AK.mk ([]++[a::v]++[d::w]) []).bs[1]?=some (d::w):=rfl;refine Aq (A7 g0) (Ax (off:=0) g0 rfl (Aq (A7 g1) (Ax (off:=0) g1 rfl (AI (RS (R:=R) ha hd s2 s3) ?_))));rintro _ ⟨e1,rfl,he1⟩;cases e1 with
 | false=>
  refine Cy (Cy (Cy (Cy (Cy (pk ⟨_,Ic,hP false ⟨fun h=>(by cases h),fun e=>?_⟩⟩)))));exact absurd (he1.2 (by rw[e])) (by decide)
 | true=>
  refine A8 (Aq (A7 g0) (A8 (AKD g0 c1 (A8 (Aq (A7 g1) (A8 (AKD g1 d1 (A8 (AI (O9 (R:=R) s1 hv hw) ?_)))))))));rintro _ ⟨e2,rfl,he2⟩;have e1:=he1.1 rfl;refine pk ⟨_,Ic,hP e2 ⟨fun h=>?_,fun h=>he2.2 (by rw[h])⟩⟩;have h2:=he2.1 h;cases b;cases c;simp only at e1 h2;rw[e1,h2]
theorem zw {l m:List Br} {x y:AV} {s:AK} {n0 ro rt:Nat} (hx:xu s.bs l x) (hy:xu s.bs m y) (hlm:l.length=m.length) (hl:l.length<2 ^ 60) (hs:∀ t∈l,BrS t) {QR:QT} (hP:∀ b:Bool,(b=true<->l=m)->QR (BB b) s) :
  ∀ (j q:Nat),q+j=l.length->(l.take q=m.take q)->kF R n0 ro rt x y (AD q) s QR:=by
 intro j
 induction j with
 | zero=>
  intro q hi he;refine ABQ (BS hx.Bk (BE ?_));rw[A9 (by omega)];rw[CL (by omega),CL (by omega)] at he;exact BQ (AKN (hP true (by simp[he])))
 | succ j ih=>
  intro q hi he;refine ABQ (BS hx.Bk (BE ?_));rw[Au (by omega)];obtain⟨t,ht⟩:∃ t,l[q]?=some t:=⟨_,Ak (by omega)⟩;obtain⟨u,hu⟩:∃ t,m[q]?=some t:=⟨_,Ak (by omega)⟩;refine BZ (AKO (kC hx ht fun r1 LU=>kC hy hu fun r2 Qs=>AI (Qb (R:=R) (hs t (BK ht)) LU Qs) ?_));rintro _ ⟨b,rfl,hb⟩;refine nt ?_;cases b with
  | true=>
   have htu:t=u:=hb.1 rfl;refine BQ (AKP (Cr (by omega) (by omega) ?_));have:=ih (q+1) (by omega) (by rw[Gr,Gr,he,ht,hu,htu]);simpa using this
  | false=>
   refine BZ (hP false ?_);constructor
   ·intro h; cases h
   ·rintro rfl
    rw[ht] at hu;exact absurd (hb.2 (EL hu)) (by decide)
theorem kG {l m:List Br} {x y:AV} {s:AK} {n0 ro rt:Nat} (hx:xu s.bs l x) (hy:xu s.bs m y) (hl:l.length<2 ^ 60) (hs:∀ t∈l,BrS t) {QR:QT} (hP:∀ b:Bool,(b=true<->l=m)->QR (BB b) s):kH R n0 ro rt x y s QR:=by
 refine AKQ (BS hx.Bk (BS hy.Bk (Fk ?_)))
 by_cases h:l.length=m.length
 ·have:((l.length:Int) != (m.length:Int))=false:=by simp[h]
  rw[this];have:=zw (R:=R) (n0:=n0) (ro:=ro) (rt:=rt) hx hy h hl hs hP l.length 0 (by omega) rfl;exact BQ (AKR (by simpa using this))
 ·have:((l.length:Int) != (m.length:Int))=true:=by
   simp only[bne_iff_ne,ne_eq];omega
  rw[this];exact BZ (hP false ⟨fun h=>(by cases h),fun e=>absurd (by rw[e]) h⟩)
theorem N9 {l m:List Br} {x y:AV} {s:AK} (hx:xu s.bs l x) (hy:xu s.bs m y) (hl:l.length<2 ^ 60) (hs:∀ t∈l,BrS t) (L:A0):∃ v,(∃ b:Bool,v=BB b/\(b=true<->l=m))/\BC (env R) L 17 [x,y] s v s:=by
 cases hc:AN [] 0 0 [x,y] with
 | none=>
  obtain⟨v,h1,h2⟩:=i17 (R:=R) (s:=s) (Post:=fun v=>∃ b:Bool,v=BB b/\(b=true<->l=m)) hc (kG (R:=R) hx hy hl hs fun b hb=>⟨_,Ic,b,rfl,hb⟩);exact⟨v,h1,h2 L⟩
 | some u=>
  have hA:∀ {l:List Br} {x x':AV},xu s.bs l x->close [] 0 0 x=some x'->BP x' (l.map K0):=by
   intro l x x' h hx';rcases h with ⟨lo,⟨rfl,rfl⟩|⟨id,rows,h1,rfl,h2,h3,h4⟩⟩|h
   ·have:x'=.AA []:=by simpa[close] using hx'.symm
    rw[this];exact .AA _
   ·exfalso
    have:l.length≠0:=fun h=>h4 (Mh.1 h)
    simp[close,I4] at hx'
   ·obtain⟨z,hz,hr⟩:=h.closed [] 0
    rw[hz] at hx';rw[<-EL hx'];exact hr
  have hcs:∃ x' y',close [] 0 0 x=some x'/\close [] 0 0 y=some y':=by
   simp only[AN] at hc;cases h1:close [] 0 0 x with
   | none=>rw[h1] at hc; cases hc
   | some x'=>
    cases h2:close [] 0 0 y with
    | none=>rw[h1,h2] at hc; cases hc
    | some y'=>exact⟨x',y',rfl,rfl⟩
  obtain⟨x',y',h1,h2⟩:=hcs;have rx:=hA hx h1;have ry:=hA hy h2;obtain⟨v,hv,hc⟩:=e17 (R:=R) (t0:=x) (t1:=y) (u0:=x') (u1:=y') (Post:=fun v=>∃ b:Bool,v=BB b/\(b=true<->l=m)) (by simp[AN,h1,h2]) (kG (R:=R) (.inr (.inl rx)) (.inr (.inl ry)) hl hs fun b hb=>⟨_,Ic,b,rfl,hb⟩);exact⟨v,hv,hc L s⟩
end
structure Lm where
 c:Nat
 b:Nat
 w:Nat
 n:Nat
 l:Nat
structure Lm.Of (q:Lm) (t:Ty):Prop where
 c:cv t<=q.c
 b:bw t<=q.b
 w:wt t<=q.w
 n:nb t<=q.n
 l:lv t<=q.l
def Lm.up (a s:Nat) (y x:Lm):Lm:=
 ⟨max 1 (max (a*x.c) (x.c*(y.c+1))),max (a*x.b) (x.b+1+(x.c+1)*y.b),max s (max (1+a*x.w) (x.w+max 1 x.c*y.w)),max (a*x.n) (1+x.n+(33*x.l+500)*y.n),max 1 (max x.l (a*x.l))⟩
theorem Mg {α:Type} {f:α->Nat} {m:Nat}:∀ {l:List α} {a:Nat},l.length<=a->(∀ t∈l,f t<=m)->(l.map f).sum<=a*m
 | [],a,_,_=>AM _
 | t::l,a,h,hl=>by
  obtain⟨a,rfl⟩:∃ b,a=b+1:=⟨a-1,by simp at h; omega⟩;have h1:=Mg (l:=l) (a:=a) (by simpa using h) (fun t ht=>hl t (by simp[ht]));have h2:=hl t (by simp);rw[CI,Gq,FO];omega
theorem max_le {α:Type} {f:α->Nat} {m:Nat}:∀ {l:List α},(∀ t∈l,f t<=m)->(l.map f).foldr max 0<=m
 | [],_=>AM _
 | t::l,hl=>by
  have h1:=max_le (l:=l) (fun t ht=>hl t (by simp[ht]));have h2:=hl t (by simp);rw[CI,List.foldr_cons];omega
theorem Lm.kI {a s:Nat} {x y:Lm} {k i:Int} {n:List UInt8} {ts:List Ty} (hs:k≠3->k≠4->k≠6->Ac ts+1<=s) (h34:k=3\/k=4->ts.length<=a/\∀ t∈ts,x.Of t) (h6:k=6->∀ b body,ts=[b,body]->y.Of b/\x.Of body):(Lm.up a s y x).Of (.mk k n i ts):=by
 cases b6:k==6 with
 | true=>
  have:k=6:=by simpa using b6
  subst this
  match ts,h6 with
  | [],_=>exact⟨by simp[cv,Lt,ex6],by simp[bw,cu,Lt,ym],by simp[wt,Vv,Lt,wx],by simp[nb,fN,ex9],by simp[lv,lvl,ex2]⟩
  | [_],_=>exact⟨by simp[cv,Lt,ex6],by simp[bw,cu,Lt,ym],by simp[wt,Vv,Lt,wx],by simp[nb,fN,ex9],by simp[lv,lvl,ex2]⟩
  | _::_::_::_,_=>exact⟨by simp[cv,Lt,ex6],by simp[bw,cu,Lt,ym],by simp[wt,Vv,Lt,wx],by simp[nb,fN,ex9],by simp[lv,lvl,ex2]⟩
  | [b,body],h6=>
   obtain⟨hb,hy⟩:=h6 rfl b body rfl;have e1:cv (.mk 6 n i [b,body])=cv body*(cv b+1):=rfl;have e2:bw (.mk 6 n i [b,body])=bw body+1+(cv body+1)*bw b:=rfl;have e3:wt (.mk 6 n i [b,body])=wt body+max 1 (cv body)*wt b:=rfl;have e4:nb (.mk 6 n i [b,body])=1+nb body+nF body*nb b:=rfl;have e5:lv (.mk 6 n i [b,body])=lv body:=rfl;have f1:cv body*(cv b+1)<=x.c*(y.c+1):=OY hy.c (by have:=hb.c; omega);have f2:(cv body+1)*bw b<=(x.c+1)*y.b:=OY (by have:=hy.c; omega) hb.b;have f3:max 1 (cv body)*wt b<=max 1 x.c*y.w:=OY (by have:=hy.c; omega) hb.w
   have f4:nF body*nb b<=(33*x.l+500)*y.n:=by
    refine OY ?_ hb.n;have:=hy.l;unfold nF;cases PR body <;> simp only[AE,AB] <;> omega
   have g2:=hy.b;have g3:=hy.w;have g4:=hy.n;have g5:=hy.l;refine⟨?_,?_,?_,?_,?_⟩
   ·rw[e1,Lm.up]; simp only; omega
   ·rw[e2,Lm.up]; simp only; omega
   ·rw[e3,Lm.up]; simp only; omega
   ·rw[e4,Lm.up]; simp only; omega
   ·rw[e5,Lm.up]; simp only; omega
 | false=>
  cases Lx:k==3||k==4 with
  | true=>
   have hk:k=3\/k=4:=by simpa using Lx
   obtain⟨hl,ht⟩:=h34 hk;have s1:=Mg (f:=cv) hl fun t h=>(ht t h).c
   have s2:=Mg (f:=bw) hl fun t h=>(ht t h).b
   have s3:=Mg (f:=wt) hl fun t h=>(ht t h).w
   have s4:=Mg (f:=nb) hl fun t h=>(ht t h).n
   have s5:=Mg (f:=lv) hl fun t h=>(ht t h).l
   have s6:=max_le (f:=lv) fun t h=>(ht t h).l
   refine⟨?_,?_,?_,?_,?_⟩
   ·rw[cv,b6,Lx,QC,Lm.up]; simp only[AB,AE]; omega
   ·rw[bw,b6,Lx,Hy,Lm.up]; simp only[AB,AE]; omega
   ·rw[wt,b6,Lx,Lf,Lm.up]; simp only[AB,AE]; omega
   ·rw[nb,b6,Lx,QX,Lm.up]; simp only[AB,AE]; omega
   ·rw[lv,Ya,Lm.up]
    rcases hk with rfl|rfl
    ·simp only[show((3:Int)==7||(3:Int)==5)=false from rfl,BH,AE,AB]; omega
    ·simp only[show((4:Int)==7||(4:Int)==5)=false from rfl,show((4:Int)==3)=false from rfl,BH,AE,AB]; omega
  | false=>
   have hsz:=hs (by rintro rfl; cases Lx) (by rintro rfl; cases Lx) (by rintro rfl; cases b6);simp only[FM] at Lx;refine⟨?_,?_,?_,?_,?_⟩
   ·rw[cv,b6,Lx.1,Lx.2,Lm.up]; simp only[AB,Fu]; omega
   ·rw[bw,b6,Lx.1,Lx.2]; exact AM _
   ·rw[wt,b6,Lx.1,Lx.2,Lm.up]; simp only[AB,Fu]; omega
   ·rw[nb,b6,Lx.1,Lx.2]; exact AM _
   ·rw[lv,Lx.1,Lx.2,b6,Lm.up]
    cases k==7||k==5 <;> simp only[AB,AE] <;> omega
mutual
def lev:Nat->Ty->Bool
 | d,.mk _ _ _ ts=>decide (ts.length<=8)&&AKS d ts
def AKS:Nat->List Ty->Bool
 | _,[]=>true
 | d,t::l=>decide (0<d)&&(lev (d-1) t&&AKS d l)
end
mutual
def gq:Nat->Ty->Bool
 | d,.mk k _ _ ts=>bif k==3||k==4 then decide (0<d)&&(decide (ts.length<=3)&&T3 (d-1) ts) else bif k==6 then decide (0<d)&&gqX d ts else true
def T3:Nat->List Ty->Bool
 | _,[]=>true
 | d,t::l=>gq d t&&T3 d l
def gqX:Nat->List Ty->Bool
 | d,b::l=>gq 1 b&&T3 (d-1) l
 | _,[]=>true
end
theorem NB {d:Nat}:∀ {l:List Ty} {t:Ty},T3 d l=true->t∈l->gq d t=true
 | a::l,t,h,ht=>by
  simp only[T3,AG] at h;rcases Av.1 ht with rfl|ht
  ·exact h.1
  ·exact NB h.2 ht
def gq0:Lm:=Lm.up 0 200 ⟨0,0,0,0,0⟩ ⟨0,0,0,0,0⟩
theorem sY {t:Ty} (h:gq 0 t=true) (hs:size t<=200):gq0.Of t:=by
 obtain⟨k,n,i,ts⟩:=t;rw[size] at hs;rw[gq] at h;refine Lm.kI (fun _ _ _=>hs) (fun hk=>?_) (fun hk=>?_)
 ·have:(k==3||k==4)=true:=by simpa using hk
  rw[this] at h;simp at h
 ·subst hk
  simp at h
def RU:Nat->Lm
 | 0=>gq0
 | m+1=>⟨max (RU m).c (max 3 ((RU m).c+1)),max (RU m).b (1+2*(RU m).b),max (RU m).w (max 601 (200+(RU m).w)),max (RU m).n (1+(RU m).n),3⟩
theorem sZ:∀ (m:Nat) (t:Ty),depth t<=m->gq 1 t=true->size t<=200->(RU m).Of t:=by
 intro m
 induction m with
 | zero=>
  intro t hd;obtain⟨k,n,i,ts⟩:=t;simp[depth] at hd
 | succ m ih=>
  intro t hd h hs;obtain⟨k,n,i,ts⟩:=t;have hs':=hs;rw[size] at hs;rw[gq] at h;have small:∀ t∈ts,gq 0 t=true->gq0.Of t:=fun t ht hg=>sY hg (by have:=Ig ht; omega)
  have le:∀ q:Lm,q.c<=(RU (m+1)).c->q.b<=(RU (m+1)).b->q.w<=(RU (m+1)).w->q.n<=(RU (m+1)).n->q.l<=3->q.Of (.mk k n i ts)->(RU (m+1)).Of (.mk k n i ts):=
   fun q h1 h2 h3 h4 h5 h=>⟨Bh h.c h1,Bh h.b h2,Bh h.w h3,Bh h.n h4,Bh h.l h5⟩
  cases Lx:k==3||k==4 with
  | true=>
   rw[Lx] at h;simp only[AE,AG,BT] at h;have hx:=Lm.kI (a:=3) (s:=200) (x:=gq0) (y:=⟨0,0,0,0,0⟩) (k:=k) (n:=n) (i:=i) (ts:=ts) (fun _ _ _=>hs) (fun _=>⟨h.2.1,fun t ht=>small t ht (NB h.2.2 ht)⟩) (fun hk=>by subst hk; cases Lx);have e:Lm.up 3 200 ⟨0,0,0,0,0⟩ gq0=⟨3,3,601,3,3⟩:=by kernel_rfl
   rw[e] at hx
   have hb0:bw (.mk k n i ts)=0/\nb (.mk k n i ts)=0:=by
    have b6:(k==6)=false:=by
     have:k=3\/k=4:=by simpa using Lx
     rcases this with rfl|rfl <;> rfl
    have z1:=Mg (f:=bw) (m:=0) h.2.1 fun t ht=>by
     have:=(small t ht (NB h.2.2 ht));obtain⟨k,n,i,ts⟩:=t;have hg:=NB h.2.2 ht;rw[gq] at hg;cases R6:k==3||k==4 with
     | true=>rw[R6] at hg; simp at hg
     | false=>
      cases c6:k==6 with
      | true=>rw[R6,c6] at hg; simp at hg
      | false=>rw[bw,c6,R6]; exact AL _
    have z2:=Mg (f:=nb) (m:=0) h.2.1 fun t ht=>by
     obtain⟨k,n,i,ts⟩:=t;have hg:=NB h.2.2 ht;rw[gq] at hg;cases R6:k==3||k==4 with
     | true=>rw[R6] at hg; simp at hg
     | false=>
      cases c6:k==6 with
      | true=>rw[R6,c6] at hg; simp at hg
      | false=>rw[nb,c6,R6]; exact AL _
    refine⟨?_,?_⟩
    ·rw[bw,b6,Lx,Hy]; simp only[AE,AB]; omega
    ·rw[nb,b6,Lx,QX]; simp only[AE,AB]; omega
   refine⟨?_,by omega,?_,by omega,hx.l⟩
   ·have:=hx.c
    simp only[RU] at this ⊢;omega
   ·have:=hx.w
    simp only[RU] at this ⊢;omega
  | false=>
   rw[Lx] at h;simp only[AB] at h;cases b6:k==6 with
   | false=>
    have hx:=Lm.kI (a:=0) (s:=200) (x:=⟨0,0,0,0,0⟩) (y:=⟨0,0,0,0,0⟩) (k:=k) (n:=n) (i:=i) (ts:=ts) (fun _ _ _=>hs) (fun hk=>by
     have:(k==3||k==4)=true:=by simpa using hk
     rw[Lx] at this;cases this) (fun hk=>by subst hk; cases b6)
    simp only[FM] at Lx;have z1:bw (.mk k n i ts)=0:=by rw[bw,b6,Lx.1,Lx.2]; rfl
    have z2:nb (.mk k n i ts)=0:=by rw[nb,b6,Lx.1,Lx.2]; rfl
    have e:Lm.up 0 200 ⟨0,0,0,0,0⟩ ⟨0,0,0,0,0⟩=⟨1,1,200,1,1⟩:=by kernel_rfl
    rw[e] at hx;refine⟨?_,by omega,?_,by omega,Bh hx.l (show(1:Nat)<=3 by decide)⟩
    ·have:=hx.c
     simp only[RU] at this ⊢;omega
    ·have:=hx.w
     simp only[RU] at this ⊢;omega
   | true=>
    have:k=6:=by simpa using b6
    subst this;simp only[BH,AE,AG] at h
    match ts,h,hd,hs,small with
    | [],_,_,_,_=>exact⟨by simp[cv,Lt,ex6],by simp[bw,cu,Lt,ym],by simp[wt,Vv,Lt,wx],by simp[nb,fN,ex9],by simp[lv,lvl,ex2]⟩
    | [_],_,_,_,_=>exact⟨by simp[cv,Lt,ex6],by simp[bw,cu,Lt,ym],by simp[wt,Vv,Lt,wx],by simp[nb,fN,ex9],by simp[lv,lvl,ex2]⟩
    | _::_::_::_,_,_,_,_=>exact⟨by simp[cv,Lt,ex6],by simp[bw,cu,Lt,ym],by simp[wt,Vv,Lt,wx],by simp[nb,fN,ex9],by simp[lv,lvl,ex2]⟩
    | [b,body],h,hd,hs,small=>
     simp only[gqX,T3,AG] at h;simp only[depth,EJ] at hd;simp only[Ac] at hs;have hb:=ih b (by omega) h.2.1 (by omega);have hg:gq 0 body=true:=h.2.2.1;have e1:cv (.mk 6 n i [b,body])=cv body*(cv b+1):=rfl;have e2:bw (.mk 6 n i [b,body])=bw body+1+(cv body+1)*bw b:=rfl;have e3:wt (.mk 6 n i [b,body])=wt body+max 1 (cv body)*wt b:=rfl;have e4:nb (.mk 6 n i [b,body])=1+nb body+nF body*nb b:=rfl;have e5:lv (.mk 6 n i [b,body])=lv body:=rfl;obtain⟨k,n',i',l'⟩:=body;rw[gq] at hg;cases R6:k==3||k==4 with
     | true=>rw[R6] at hg; simp at hg
     | false=>
      cases c6:k==6 with
      | true=>rw[R6,c6] at hg; simp at hg
      | false=>
       rw[size] at hs;have c34':=R6;simp only[FM] at R6;have d1:cv (.mk k n' i' l')=1:=by rw[cv,c6,R6.1,R6.2]; rfl
       have d2:bw (.mk k n' i' l')=0:=by rw[bw,c6,R6.1,R6.2]; rfl
       have d3:wt (.mk k n' i' l')<=200:=by rw[wt,c6,R6.1,R6.2]; simp only[AB,Fu]; omega
       have d4:nb (.mk k n' i' l')=0:=by rw[nb,c6,R6.1,R6.2]; rfl
       have d5:lv (.mk k n' i' l')<=1:=by rw[lv,R6.1,R6.2,c6]; cases k==7||k==5 <;> simp
       have d6:nF (.mk k n' i' l')=1:=by
        simp only[nF,PR,R6.1,R6.2,c6];rfl
       have g1:=hb.c;have g2:=hb.b;have g3:=hb.w;have g4:=hb.n;refine⟨?_,?_,?_,?_,?_⟩
       ·rw[e1,d1,RU]; simp only; omega
       ·rw[e2,d1,d2,RU]; simp only; omega
       ·rw[e3,d1,RU]; simp only[Nat.max_self]; omega
       ·rw[e4,d4,d6,RU]; simp only; omega
       ·rw[e5,RU]; simp only; omega
def gqQ:Nat->Lm
 | 0=>gq0
 | 1=>RU 12
 | d+2=>Lm.up 3 200 (RU 12) (gqQ (d+1))
theorem sg:∀ (d:Nat) (t:Ty),gq d t=true->size t<=200->depth t<=12->(gqQ d).Of t
 | 0,t,h,hs,_=>sY h hs
 | 1,t,h,hs,hd=>sZ 12 t hd h hs
 | d+2,.mk k n i ts,h,hs,hd=>by
  rw[size] at hs;rw[depth] at hd;rw[gq] at h;have ih:∀ t∈ts,gq (d+1) t=true->(gqQ (d+1)).Of t:=fun t ht hg=>sg (d+1) t hg (by have:=Ig ht; omega) (by have:=IA ht; omega)
  refine Lm.kI (fun _ _ _=>hs) (fun hk=>?_) (fun hk b body he=>?_)
  ·have:(k==3||k==4)=true:=by simpa using hk
   rw[this] at h;simp only[AE,AG,BT] at h;exact⟨h.2.1,fun t ht=>ih t ht (NB h.2.2 ht)⟩
  ·subst hk
   subst he;simp only[show((6:Int)==3||(6:Int)==4)=false from rfl,BH,AB,AE,AG,gqX,T3] at h;simp only[Ac] at hs;simp only[EJ] at hd;exact⟨sZ 12 b (by omega) h.2.1 (by omega),ih body (by simp) h.2.2.1⟩
section
variable {R:Nat->Option (List PV)}
theorem zx (a:Int) {b:Int} (hb:0<b):-b<a.tmod b:=by
 by_cases ha:0<=a
 ·have:=Int.tmod_nonneg b ha
  omega
 ·have h1:(-a).tmod b<b:=Int.tmod_lt_of_pos _ hb
  have h2:=Int.neg_tmod a b;omega
theorem si (a b:Int) (hb:0<b) (MA:b<2 ^ 62):AW (env R) 13 [AD a,AD b] fun v=>∃ r,v=AD r/\0<=r/\r<b:=by
 refine e13 rfl (AKU ?_);have h1:=Int.tmod_lt_of_pos a hb;have h2:=zx a hb;simp only[Dx,AX,xI];refine⟨⟨Al,Al⟩,by omega,⟨Al,Al⟩,fun h=>?_,fun h=>?_⟩
 ·simp at h
  refine⟨⟨Al,Al⟩,DX (by omega) (by omega) (ABR ?_)⟩;exact⟨_,Ic,_,rfl,by omega,by omega⟩
 ·simp at h
  refine ABR ?_;exact⟨_,Ic,_,rfl,by omega,by omega⟩
theorem T4 {bs:List (List AV)} {id:Nat} {l:Src} {k:Nat} {ts:List (Nat×Nat)} (h:id<bs.length) (m:List (List AV)):alive ⟨ST bs id l k++m,ts⟩ id=true:=by
 simp[alive,Qc h,Lu]
theorem sj {bs:List (List AV)} {id:Nat} {l:Src} (hB:NK bs id l) {m:List (List AV)} (hm:KW bs m) (k:Nat) {n:Nat} (hn:n=bs.length+m.length):(((ST bs id l k++m).take n).all (AU n))=true:=by
 rw[CL (by simp[Fm]; omega),hn];exact hB.all hm k
theorem ABS {rr:Bool} {N:Nat} {bs:List (List AV)} {id:Nat} {l:Src} (hB:NK bs id l) {m:List (List AV)} (hm:KW bs m) {k:Nat} {ts:List (Nat×Nat)} {Post:AV->AK->Prop} {p:PV} (hN:N=bs.length+m.length)
  (h:Post (.pv p) ⟨ST bs id l k++m,ts⟩):QM rr N Post (.pv p) ⟨ST bs id l k++m,ts⟩:=by
 refine AAw (sj hB hm k hN) ?_;have:(ST bs id l k++m).take N=ST bs id l k++m:=CL (by simp[Fm]; omega);simpa[this] using h
theorem OA {bs:List (List AV)} {id:Nat} {l:Src} (hB:NK bs id l) {m:List (List AV)} (hm:KW bs m) {k:Nat} (hk:k<=l.length) {n:Int} (hn:0<n) (hn2:n<2 ^ 62) (L:A0) (hro:L.ro<=id) (ts:List (Nat×Nat)) :
  ∃ v s',(∃ r k',v=AD r/\0<=r/\r<n/\k<=k'/\k'<=l.length/\(r≠0->k<k')/\s'=⟨ST bs id l k'++m,ts⟩)/\BC (env R) L 54 [.ptr id 0,AD n] ⟨ST bs id l k++m,ts⟩ v s':=by
 have hlen:=hB.len;have hlt:=hB.lt
 suffices H:∀ (rr:Bool) (N:Nat) (Post:AV->AK->Prop),N=bs.length+m.length->(∀ r k',0<=r->r<n->k<=k'->k'<=l.length->(r≠0->k<k')->Post (AD r) ⟨ST bs id l k'++m,ts⟩)->sk R 0 L.ro L.rt (.ptr id 0) (AD n) ⟨ST bs id l k++m,ts⟩ (QM rr N Post) from
  m54 (by simp[BN,Dl]) (H _ _ _ (by simp[Fm]) fun r k' h1 h2 h3 h4 h5=>⟨r,k',rfl,h1,h2,h3,h4,h5,rfl⟩)
 intro rr N Post hN hP;refine AKV ?_
 by_cases h:k=l.length
 ·have h1:((k:Int)>=l.length):=by omega
  simp[Qc hlt,Lu,l.AKW,l.lu,h];rw[<-h];exact ABS hB hm hN (hP 0 k (by omega) hn (by omega) (by omega) (by omega))
 ·have h1:¬ ((l.length:Int)<=k):=by omega
  simp[Qc hlt,Lu,l.AKW,l.lu];refine⟨fun h2=>absurd h2 (by omega),fun _=>?_⟩;refine AKX ?_;obtain⟨a,ha⟩:∃ a,l.ints[k]?=some a:=⟨_,Ak (by have:l.length=l.ints.length:=rfl; omega)⟩;simp only[Eo,T4 hlt,Bo,FA,wO,Qc hlt,Dx,xI,xL,xM,xF,xG];refine⟨Al,Al,?_⟩;simp only[Lu,DN,wO,FN,GQ,CJ];refine⟨⟨Al,Al⟩,DX (by omega) (by omega) ?_⟩;simp only[Eo,T4 hlt,Bo,C2,wO,Qc hlt,Ca,pY,xF,xG,lf];refine⟨Al,Al,⟨by simp,by simp[Lu],hro,by simp[nU],.inl (by omega),by omega⟩,?_⟩
  have e:(ST bs id l k++m).set id (setCells (Lu l k) (0+1) [AD (k+1)])=ST bs id l (k+1)++m:=by
   have:setCells (Lu l k) (0+1) [AD (k+1)]=Lu l (k+1):=by simp[Lu,setCells]
   rw[this];exact AGF hlt m
  simp only[e,Eo,T4 hlt,Bo,FA,wO,Qc hlt,xL,xM,xF,xG];refine⟨Al,Al,?_⟩;simp only[Lu,DN,wO,FN,GQ,CJ];refine⟨Al,Al,⟨Al,Al⟩,DX (by omega) (by omega) ?_⟩;refine B7 l.rows (row:=[.sc (.int .i64 a)]) (by omega) ?_ rfl (by omega) ?_
  ·have:((k+1:Nat)-1:Int).toNat=k:=by omega
   simp[this,A4,ha]
  simp only[FA,DN,wO,CI,EM,GQ,xL,xM,xF,xG];refine AI (si a n hn hn2) ?_;rintro v ⟨r,rfl,LU,Qs⟩;exact ABS hB hm hN (hP r (k+1) LU Qs (by omega) (by omega) (by omega))
theorem HC {bs:List (List AV)} {id:Nat} {l:Src} (hB:NK bs id l) {m:List (List AV)} (hm:KW bs m) {k:Nat} (hk:k<=l.length) {n:Int} (hn:0<n) (hn2:n<2 ^ 62) (L:A0) (hro:L.ro<=id) (ts:List (Nat×Nat)) :
  ∃ v s',(∃ r k',v=AD r/\0<=r/\r<n/\k<=k'/\k'<=l.length/\s'=⟨ST bs id l k'++m,ts⟩)/\BC (env R) L 54 [.ptr id 0,AD n] ⟨ST bs id l k++m,ts⟩ v s':=by
 obtain⟨v,s',⟨r,k',h1,h2,h3,h4,h5,_,h6⟩,h7⟩:=OA (R:=R) hB hm hk hn hn2 L hro ts;exact⟨v,s',⟨r,k',h1,h2,h3,h4,h5,h6⟩,h7⟩
theorem cD (l:List Int) (L:A0) (s:AK):∃ v s',(v=.ptr s.bs.length 0/\s'=⟨s.bs++[Lu (.of l) 0],s.ts⟩)/\BC (env R) L 11 [.pv (.list (A4 l))] s v s':=by
 refine m11 (AKY ?_);simp[Lu,Src.of]
end
section
variable {bs:List (List AV)} {id:Nat} {l:Src}
theorem EP (k:Nat) (m r:List (List AV)) (j:Nat):(ST bs id l k++(m++r))[bs.length+m.length+j]?=r[j]?:=by
 have:=Oz (ST bs id l k++m) r j;simpa[Fm] using this
theorem Jn (k:Nat) (m r:List (List AV)):(ST bs id l k++(m++r))[bs.length+m.length]?=r[0]?:=EP k m r 0
theorem IV (k:Nat) (m r:List (List AV)) (j:Nat) (v:List AV):(ST bs id l k++(m++r)).set (bs.length+m.length+j) v=ST bs id l k++(m++r.set j v):=by
 have:=O0 (ST bs id l k++m) r j v;simpa[Fm] using this
theorem Jo (k:Nat) (m r:List (List AV)) (v:List AV):(ST bs id l k++(m++r)).set (bs.length+m.length) v=ST bs id l k++(m++r.set 0 v):=IV k m r 0 v
theorem JQ {m:List (List AV)} (hm:KW bs m) {r:List (List AV)} (hr:∀ b∈r,AU (bs.length+m.length+r.length) b=true):KW bs (m++r):=by
 intro b hb;rcases BL.1 hb with h|h
 ·exact CZ (by simp) b (hm b h)
 ·have:=hr b h
  simpa[K6] using this
variable {R:Nat->Option (List PV)}
theorem fW {l:List (List UInt8)}:FV l=[.list (Eh l)]:=rfl
theorem PW {g:Nat} {T:List (List UInt8)} (hG:(env R).G g=some (FV T)) {s:AK} {K:AV->Prop} (h:K (.pv (.list (Eh T)))):FA (env R) s none (.De g 0) K:=by
 simp[FA,hG,wO,DN,fW];exact h
theorem T5:∀ l:List (List UInt8),IX (Eh l) (Eh l)=true
 | []=>by simp[Eh,IX]
 | s::l=>by
  have:=T5 l;simp only[Eh,CI,IX,SI,VF,LV,Ec,Rm] at this ⊢;exact this
theorem sq {L:A0} {s:AK} {k:Nat} {a x:AV} {K K':AK->Prop} (hC:∀ s,K s->K' s) (h:C2 L s k a x K):C2 L s k a x K':=by
 unfold C2 at h ⊢;split at h
 ·obtain⟨cs,h1,h2,h3⟩:=Ag h
  simp only[wO,h1];exact⟨h2,hC _ h3⟩
 ·exact h
theorem Yk {L:A0} {s:AK} {k:Nat} {a x:AV} {K:AK->Prop} {C:Prop} (hC:C) (h:C2 L s k a x K):C2 L s k a x fun s=>C/\K s:=sq (fun _ h=>⟨hC,h⟩) h
theorem fX {s:AK} {w:List UInt8} {K:AV->Prop} (h:K (SS w)):FA (env R) s none (.DK [.sc (.string ⟨w.toArray⟩)] 0) K:=by
 simpa[FA,DN,wO] using h
theorem Yl {T:List (List UInt8)} {r:Int} {w:List UInt8} (h0:0<=r) (hw:T[r.toNat]?=some w) {s:AK} {K:AV->Prop} (h:K (.DK [.sc (.string ⟨w.toArray⟩)] 0)):Dc s 1 (.pv (.list (Eh T))) (AD r) K:=
 CS (.list _) (row:=[.sc (.string ⟨w.toArray⟩)]) h0 (by simp[Eh,hw]) rfl (by omega) h
theorem RG (T:List (List UInt8)):Cu (.pv (.list (Eh T))) (.pv (.list (Eh T)))=true:=by simp[Cu,VF,T5]
end
def Short (T:List (List UInt8)):Prop:=(∀ s∈T,s.length<2 ^ 60)/\0<T.length/\T.length<2 ^ 60
def NL (B:Nat) (t:Ty):Prop:=eT t/\size t<=B
theorem NL.mono {B C:Nat} {t:Ty} (h:NL B t) (hl:B<=C):NL C t:=⟨h.1,Bh h.2 hl⟩
theorem NL.leaf {B:Nat} {k i:Int} {n:List UInt8} (hn:n.length<2 ^ 60) (hB:0<B):NL B (.mk k n i []):=by
 refine⟨?_,?_⟩
 ·simp only[eT,Sz]
  exact⟨hn,Al⟩
 ·simp only[size,Ac]
  omega
def JK (B:Nat) (l:List Ty):Prop:=Sz l/\Ac l<=B
theorem JK.nil {B:Nat}:JK B []:=by simp[JK,Sz,Ac]
theorem JK.cons {B C D:Nat} {t:Ty} {l:List Ty} (h:NL B t) (h':JK C l) (hl:B+C<=D):JK D (t::l):=by
 obtain⟨a1,a3⟩:=h;obtain⟨b1,b3⟩:=h';refine⟨⟨a1,b1⟩,?_⟩;simp only[Ac]; omega
theorem JK.snoc:∀ {l:List Ty} {B C D:Nat} {t:Ty},JK C l->NL B t->B+C<=D->JK D (l++[t])
 | [],B,C,D,t,_,h,hl=>JK.cons h JK.nil (C:=0) (by omega)
 | u::l,B,C,D,t,h',h,hl=>by
  obtain⟨b1,b3⟩:=h';simp only[Sz] at b1;simp only[Ac] at b3;have:=JK.snoc (C:=Ac l) (D:=B+Ac l) ⟨b1.2,AL _⟩ h (AL _);exact JK.cons (B:=size u) ⟨b1.1,AL _⟩ this (by omega)
theorem NL.node {B:Nat} {k i:Int} {n:List UInt8} {l:List Ty} (hn:n.length<2 ^ 60) (h:JK B l):NL (B+1) (.mk k n i l):=by
 obtain⟨b1,b3⟩:=h;refine⟨?_,?_⟩
 ·simp only[eT]
  exact⟨hn,b1⟩
 ·simp only[size]
  omega
theorem zy.Cu {lo:Nat} {ts:List (Nat×Nat)} {k:Nat} {a:AV} {es:List Ty} (h:Ex lo ts k a (AQ es)):Tel.Cu a a=true:=by
 rcases h with rfl|⟨t,rfl,_⟩
 ·simp[Tel.Cu,Ep]
 ·simp[Tel.Cu,Ep]
theorem T6 {l:List Ty}:∀ r∈AQ l,r.length=4:=fun _ h=>HB h
abbrev T0 (k:Int) (n:List UInt8) (i:Int):AV:=.agg [AD k,SS n,AD i,.AA []]
section
variable {bs:List (List AV)} {id:Nat} {l:Src}
theorem AKZ {rr:Bool} {N:Nat} (hB:NK bs id l) {m r:List (List AV)} (hm:KW bs m) {k:Nat} {ts:List (Nat×Nat)} {Post:AV->AK->Prop} (hN:N=bs.length+m.length) {c i:Int} {n:List UInt8} {es:List Ty} {a:AV} (ha:BO a (AQ es))
  (h:∀ x,Ba (.mk c n i es) x->Post x ⟨ST bs id l k++m,ts⟩):QM rr N Post (.agg [AD c,SS n,AD i,a]) ⟨ST bs id l k++(m++r),ts⟩:=by
 subst hN
 have e:(ST bs id l k++(m++r)).take (bs.length+m.length)=ST bs id l k++m:=by
  rw[<-DI,OS (by simp[Fm]),CL (by simp[Fm])]
 obtain⟨a',h1,h2⟩:=ha.close (ST bs id l k++(m++r)) (bs.length+m.length) ts.length;refine fC (ds:=[AD c,SS n,AD i,a']) ?_ (by simp[h1]) ?_
 ·simp only[e]
  exact hB.all hm k
 ·simp only[e]
  exact h _ ⟨a',rfl,h2⟩
variable {R:Nat->Option (List PV)}
theorem Ym (hB:NK bs id l) {m r:List (List AV)} (hm:KW bs m) {k:Nat} {ts:List (Nat×Nat)} {Post:AV->AK->Prop} {rr:Bool} {N:Nat} {L':A0} {Z:List AV} (hZ:Z.length=4) (hN:N=bs.length+m.length) (hro:L'.ro<=id) (hn0:L'.n0=0) {c i:Int} {n:List UInt8} {es:List Ty} {a:AV} (ha:BO a (AQ es))
  (h:∀ x,Ba (.mk c n i es) x->Post x ⟨ST bs id l k++m,ts⟩) :
  C2 L' ⟨ST bs id l k++(m++Z::r),ts⟩ 4 (.ptr (bs.length+m.length) 0) (.agg [AD c,SS n,AD i,a]) fun s1=>FA (env R) s1 (some 4) (.ptr (bs.length+m.length) 0) fun r=>QM rr N Post r s1:=by
 have hlt:=hB.lt
 obtain⟨z0,z1,z2,z3,rfl⟩:∃ z0 z1 z2 z3,Z=[z0,z1,z2,z3]:=by
  rcases Z with _|⟨a,_|⟨b,_|⟨c,_|⟨d,_|⟨e,l⟩⟩⟩⟩⟩ <;> simp at hZ
  exact⟨_,_,_,_,rfl⟩
 simp[Jn,Jo,show L'.ro<=bs.length+m.length by omega,hn0,ha.ok,ha.HK];exact AKZ hB hm hN ha h
theorem T7 (hB:NK bs id l) {m r:List (List AV)} (hm:KW bs m) {k:Nat} {ts:List (Nat×Nat)} {Post:AV->AK->Prop} {rr:Bool} {N:Nat} {L':A0} {Z:List AV} (hZ:Z.length=4) (hN:N=bs.length+m.length) (hro:L'.ro<=id) (hn0:L'.n0=0) {t:Ty} {v:AV} (hv:Ba t v)
  (h:∀ x,Ba t x->Post x ⟨ST bs id l k++m,ts⟩) :
  C2 L' ⟨ST bs id l k++(m++Z::r),ts⟩ 4 (.ptr (bs.length+m.length) 0) v fun s1=>FA (env R) s1 (some 4) (.ptr (bs.length+m.length) 0) fun r=>QM rr N Post r s1:=by
 obtain⟨c,n,i,es⟩:=t;obtain⟨a,rfl,ha⟩:=hv;exact Ym hB hm hZ hN hro hn0 ha h
theorem KJ {n:List UInt8} {a:AV} {rows:List (List PV)} (ha:BP a rows):AW (env R) 26 [SS n,a] fun r=>r=.agg [AD 2,SS n,AD 0,a]:=by
 refine e26 (u0:=SS n) (u1:=a) (by simp[ha.close]) (AKa ?_);simp[QP,QI,ha.ok,ha.cells,ha.close]
theorem RH {a:AV} {rows:List (List PV)} (ha:BP a rows):AW (env R) 20 [a] fun r=>r=.agg [AD 4,SS [],AD 0,a]:=by
 refine e20 (u0:=a) (by simp[ha.close]) (AKb ?_);simp[QP,QI,ha.ok,ha.cells,ha.close]
end
def Yn (r:List PV):Prop:=∃ (name:List UInt8) (n:Nat) (rest:List PV),r=.sc (.string ⟨name.toArray⟩)::.sc (.int .i64 n)::rest/\rest.length=6/\n<=2/\name.length<2 ^ 50/\(r.map AV.pv).all Ar=true
structure Decls (v:AV) (rows:List (List PV)):Prop where
 rep:BO v rows
 row:∀ r∈rows,Yn r
 len:rows.length<100
section
variable {bs:List (List AV)} {id:Nat} {l:Src} {R:Nat->Option (List PV)}
def T8 (R:Nat->Option (List PV)) (bs:List (List AV)) (id:Nat) (l:Src) (dv:AV) (f:FuncId) (d:Int) (FG:Nat) (μ:Nat) (P:Nat->Ty->Prop):Prop:=∀ {m:List (List AV)},KW bs m->∀ {k:Nat},k<=l.length->∀ (vars:Nat),(vars:Int)+d<=90->(l.length-k)*100+FG<μ->∀ (L:A0),L.ro<=id->∀ (ts:List (Nat×Nat)),L.rt<=ts.length ->
  ∃ v s',(∃ t k' x,Ba t v/\P (8*(k'-k)+1) t/\k<=k'/\k'<=l.length/\s'=⟨ST bs id l k'++m,ts++x⟩)/\BC (env R) L f [.ptr id 0,dv,AD d,AD vars] ⟨ST bs id l k++m,ts⟩ v s'
def nY (B:Nat) (t:Ty):Prop:=NL B t/\∀ d,gq d t=true
def L2 (d B:Nat) (t:Ty):Prop:=NL B t/\gq d t=true
def Yo (d B:Nat) (l:List Ty):Prop:=JK B l/\T3 d l=true
theorem nY.of {B:Nat} {n:List UInt8} {i:Int} {es:List Ty} (h:NL B (.mk 2 n i es)):nY B (.mk 2 n i es):=⟨h,fun d=>by rw[gq]; rfl⟩
theorem nY.g {B:Nat} {t:Ty} (h:nY B t) (d:Nat):L2 d B t:=⟨h.1,h.2 d⟩
theorem L2.mono {d B C:Nat} {t:Ty} (h:L2 d B t) (hl:B<=C):L2 d C t:=⟨h.1.mono hl,h.2⟩
theorem L2.leaf {d B:Nat} {k i:Int} {n:List UInt8} (h3:(k==3||k==4)=false) (h6:(k==6)=false) (hn:n.length<2 ^ 60) (hB:0<B):L2 d B (.mk k n i []):=⟨NL.leaf hn hB,by rw[gq,h3,h6]; rfl⟩
theorem Yo.nil {d B:Nat}:Yo d B []:=⟨JK.nil,by rw[T3]⟩
theorem kJ (d:Nat):∀ l m:List Ty,T3 d (l++m)=(T3 d l&&T3 d m)
 | [],m=>by rw[Di,T3,Ec]
 | t::l,m=>by rw[EZ,T3,T3,kJ d l m,OU]
theorem Yo.snoc {l:List Ty} {d B C D:Nat} {t:Ty} (h:Yo d C l) (h':L2 d B t) (hl:B+C<=D):Yo d D (l++[t]):=⟨h.1.snoc h'.1 hl,by rw[kJ,h.2,T3,h'.2,T3]; rfl⟩
theorem NL.pair {B C D:Nat} {k:Int} {t u:Ty} (h:NL B t) (h':NL C u) (hl:B+C+1<=D):NL D (.mk k [] 0 [t,u]):=
 (NL.node (B:=B+C) (by simp) (JK.cons h (JK.cons h' JK.nil (C:=0) (AL _)) (AL _))).mono hl
theorem L2.ex {d B C D:Nat} {t u:Ty} (hd:0<d) (h:L2 1 B t) (h':L2 (d-1) C u) (hl:B+C+1<=D):L2 d D (.mk 6 [] 0 [t,u]):=by
 refine⟨NL.pair h.1 h'.1 hl,?_⟩;rw[gq,gqX,T3,T3,h.2,h'.2,Au hd];rfl
theorem L2.un {d B C D:Nat} {t u:Ty} (hd:0<d) (h:L2 (d-1) B t) (h':L2 (d-1) C u) (hl:B+C+1<=D):L2 d D (.mk 4 [] 0 [t,u]):=by
 refine⟨NL.pair h.1 h'.1 hl,?_⟩;rw[gq,T3,T3,T3,h.2,h'.2,Au hd];rfl
theorem L2.tup {d B:Nat} {es:List Ty} (hd:0<d) (hl:es.length<=3) (h:Yo (d-1) B es):L2 d (B+1) (.mk 3 [] 0 es):=by
 refine⟨NL.node (by simp) h.1,?_⟩;rw[gq,h.2,Au hd,Au hl];rfl
theorem Yp {m:List (List AV)} (hm:KW bs m):KW bs (m++[Z4]):=JQ hm (by simp[AU,Aa])
theorem sr {dv:AV} {rows:List (List PV)} (hd:Decls dv rows) {r:Int} (h0:0<=r) (h1:r<rows.length):∃ row,rows[r.toNat]?=some row/\Yn row/\row.length=8:=by
 obtain⟨row,hr⟩:∃ row,rows[r.toNat]?=some row:=⟨_,Ak (by omega)⟩;have h:=hd.row row (BK hr);refine⟨row,hr,h,?_⟩;obtain⟨name,n,rest,rfl,h6,_⟩:=h;simp[h6]
theorem Qd {W:List (List UInt8)} (hW:(env R).G 1=some (FV W)) (h4:W.length=4) (sW:Short W) {r:Int} (h0:0<=r) (h1:r<4):∃ w,W[r.toNat]?=some w/\w.length<2 ^ 60:=by
 obtain⟨w,hw⟩:∃ w,W[r.toNat]?=some w:=⟨_,Ak (by omega)⟩;exact⟨w,hw,sW.1 w (BK hw)⟩
theorem fY (hB:NK bs id l) {W:List (List UInt8)} (hW:(env R).G 1=some (FV W)) (h4:W.length=4) (sW:Short W) {dv:AV} {rows:List (List PV)} (hD:Decls dv rows) (μ:Nat)
  (U4:∀ e:Int,-1<=e->e<=20->T8 R bs id l dv 115 e (3*(e+1).toNat) μ NL) (d:Nat) (hd:d<=20):T8 R bs id l dv 83 d (3*d+1) (μ+1) nY:=by
 intro m hm k hk vars hvars hμ L hro ts Fz;have hlen:=hB.len;have hlt:=hB.lt
 suffices H:∀ (rr:Bool) (N:Nat) (Post:AV->AK->Prop),N=bs.length+m.length->(∀ t v k' x,Ba t v->nY (8*(k'-k)+1) t->k<=k'->k'<=l.length->Post v ⟨ST bs id l k'++m,ts++x⟩)->su R 0 L.ro L.rt (.ptr id 0) dv (AD d) (AD vars) ⟨ST bs id l k++m,ts⟩ (QM rr N Post) from
  m83 (by simp[BN,Dl]) (H _ _ _ (by simp[Fm]) fun t v k' x h1 h2 h3 h4=>⟨t,k',x,h1,h2,h3,h4,rfl⟩)
 intro rr N Post hN hP;have hrl:=hD.len;have g1:∀ n,L.ro<=bs.length+m.length+n:=fun n=>by omega
 refine AKc ?_;simp only[CX,DI,Ab,Fm]
 have AKd:∀ (s:AK) (K:AV->Prop),K (AD rows.length)->Bz s dv K:=by
  intro s K h;simp only[Bz,hD.rep.Bk,wO];exact h
 refine AKd _ _ (Cr (by omega) (by omega) ?_);refine CR (OA (n:=(rows.length:Int)+4) hB (Yp hm) hk (by omega) (by omega) _ (by simpa[Ca] using hro) ts) ?_;rintro v s1 ⟨r,k1,rfl,LU,Qs,SA,hk2,LS,rfl⟩;refine BE ?_
 by_cases hr:r<4
 ·have b4:decide (r<4)=true:=by simpa using hr
  rw[b4];obtain⟨w,hw,hwl⟩:=Qd hW h4 sW LU hr;refine BZ (PW hW (Yl LU hw (fX ?_)));refine AI (KJ (.AA [])) ?_;rintro v rfl
  exact Ym (R:=R) (Post:=Post) (rr:=rr) (N:=N) (k:=k1) (ts:=ts) (Z:=Z4) (r:=[]) (es:=[]) (a:=.AA []) (c:=2) (i:=0) (n:=w) (L':=Ca (env R) 83 0 L.ro L.rt) hB hm rfl hN hro rfl (by simp[AQ]; exact .inl (.AA _)) (fun x hx=>by
   have:=hP _ x k1 [] hx (nY.of (NL.leaf hwl (by omega))) SA hk2;simpa using this)
 ·have b4:decide (r<4)=false:=by simpa using hr
  rw[b4];have hkk:k<k1:=LS (by omega);obtain⟨row,hrow,⟨name,ar,rest,rfl,h6,har,OH,hok⟩,h8⟩:=sr hD (r:=r-4) (by omega) (by omega);refine BQ (AKe (Le (by omega) (by omega) ?_));refine B7 hD.rep (row:=.sc (.string ⟨name.toArray⟩)::.sc (.int .i64 ar)::rest) (by omega) hrow h8 (by omega) ?_
  have AKf:∀ (s:AK) (K:AV->Prop),K (.agg ((.sc (.string ⟨name.toArray⟩)::.sc (.int .i64 ar)::rest).map AV.pv))->FA (env R) s (some 8) (.DK (.sc (.string ⟨name.toArray⟩)::.sc (.int .i64 ar)::rest) 0) K:=by
   intro s K h;simp only[FA,DN,AZ,h8,Fv,xL,xM,xF,xG];refine⟨by omega,?_⟩;rw[CL (by simp[h6])];exact h
  refine AKf _ _ ?_;simp only[CX];have eA:∀ (k:Nat) (b:List AV) (t:List (Nat×Nat)),(⟨(ST bs id l k++(m++[Z4]))++[b],t⟩:AK)=⟨ST bs id l k++(m++[Z4,b]),t⟩:=fun k b t=>by simp
  have eL:(ST bs id l k1++(m++[Z4])).length=bs.length+m.length+1:=by simp[Fm]; omega
  simp only[eL,eA]
  have AKg:∀ K:AK->Prop,K ⟨ST bs id l k1++(m++[Z4,(PV.sc (.string ⟨name.toArray⟩)::.sc (.int .i64 ar)::rest).map AV.pv]),ts⟩->C2 (Ca (env R) 83 0 L.ro L.rt) ⟨ST bs id l k1++(m++[Z4,[(SS []),(AD 0),(AD 0),(SS []),(AD 0),(.AA []),(BB false),(.AA [])]]),ts⟩ 8 (.ptr (bs.length+m.length+1) 0) (.agg ((PV.sc (.string ⟨name.toArray⟩)::.sc (.int .i64 ar)::rest).map AV.pv)) K:=by
   intro K h;have hce:cellsOf (.agg ((PV.sc (.string ⟨name.toArray⟩)::.sc (.int .i64 ar)::rest).map AV.pv))=(PV.sc (.string ⟨name.toArray⟩)::.sc (.int .i64 ar)::rest).map AV.pv:=rfl;simp only[C2,EP,FN,GQ,wO,hce,AZ];refine⟨⟨h8,by rw[h8]; simp,by have:=g1 1; simp[Ca]; omega,hok,.inl (by simp[Ca]),by omega⟩,?_⟩;rw[IV]
   obtain⟨x0,x1,x2,x3,x4,x5,rfl⟩:∃ x0 x1 x2 x3 x4 x5,rest=[x0,x1,x2,x3,x4,x5]:=by
    rcases rest with _|⟨a,_|⟨b,_|⟨c,_|⟨d,_|⟨e,_|⟨f,_|⟨g,r⟩⟩⟩⟩⟩⟩⟩ <;> simp at h6
    exact⟨_,_,_,_,_,_,rfl⟩
   simpa[setCells] using h
  refine AKg _ ?_;generalize hDB:(PV.sc (.string ⟨name.toArray⟩)::.sc (.int .i64 ar)::rest).map AV.pv=DB;have z6:DB[0]?=some (SS name):=by rw[<-hDB]; rfl
  have AGG:DB[1]?=some (AD ar):=by rw[<-hDB]; rfl
  have APb:∀ n,AU n DB=true:=by
   intro n;rw[<-hDB];clear hDB AKf AKg hok h8 hrow z6 AGG;generalize (PV.sc (.string ⟨name.toArray⟩)::.sc (.int .i64 ar)::rest)=R0
   induction R0 with
   | nil=>rfl
   | cons p R0 ih=>simpa[AU,Aa] using ih
  have AKh:DB≠[]:=by intro e; rw[e] at z6; simp at z6
  have alD:∀ (k:Nat) (b:List AV) (t:List (Nat×Nat)),alive ⟨ST bs id l k++(m++Z4::DB::[b]),t⟩ (bs.length+m.length+1)=true:=by
   intro k b t
   obtain⟨c,r,hc⟩:∃ c r,DB=c::r:=by
    cases DB with
    | nil=>exact absurd rfl AKh
    | cons c r=>exact⟨c,r,rfl⟩
   simp only[alive,EP,FN,GQ,hc]
  have APc:∀ (K:AV->Prop),K (.ptr (bs.length+m.length+1) 0)->Bo ⟨ST bs id l k1++(m++[Z4,DB]),ts⟩ (.ptr (bs.length+m.length+1) 0) 0 K:=by
   intro K h
   obtain⟨c,r,hc⟩:∃ c r,DB=c::r:=by
    cases DB with
    | nil=>exact absurd rfl AKh
    | cons c r=>exact⟨c,r,rfl⟩
   refine⟨?_,h⟩;simp only[alive,EP,FN,GQ,hc]
  have ld0:∀ (K:AV->Prop),K (SS name)->FA (env R) ⟨ST bs id l k1++(m++[Z4,DB]),ts⟩ none (.ptr (bs.length+m.length+1) 0) K:=by
   intro K h;simp only[FA,EP,FN,GQ,wO,DN,z6,xL,xM,xF,xG];exact h
  refine APc _ (ld0 _ ?_);refine Q7 (cs:=[AD 2,SS name,AD 0,.AA []]) (by simp) ?_;have eA2:∀ (k:Nat) (b:List AV) (t:List (Nat×Nat)),(⟨(ST bs id l k++(m++[Z4,DB]))++[b],t⟩:AK)=⟨ST bs id l k++(m++[Z4,DB,b]),t⟩:=fun k b t=>by simp
  have eL2:(ST bs id l k1++(m++[Z4,DB])).length=bs.length+m.length+2:=by simp[Fm]; omega
  simp only[eL2,eA2]
  have APd:∀ K:AK->Prop,K ⟨ST bs id l k1++(m++[Z4,DB,[AD 2,SS name,AD 0,.AA []]]),ts⟩->C2 (Ca (env R) 83 0 L.ro L.rt) ⟨ST bs id l k1++(m++[Z4,DB,Z4]),ts⟩ 4 (.ptr (bs.length+m.length+2) 0) (.agg [AD 2,SS name,AD 0,.AA []]) K:=by
   intro K h;have:=g1 2;simp[EP,IV,this];exact h
  refine APd _ ?_
  have loop:∀ (j q k2:Nat) (x:List (Nat×Nat)) (a:AV) (es:List Ty),q+j=ar->k1<=k2->k2<=l.length->es.length=q->JK (8*(k2-k1)+q) es->Ex ts.length (ts++x) 25 a (AQ es) ->
    kL R 0 L.ro L.rt (.ptr id 0) dv (AD d) (AD vars) (.ptr (bs.length+m.length) 0) (.ptr (bs.length+m.length+1) 0) (.ptr (bs.length+m.length+2) 0) (AD q) ⟨ST bs id l k2++(m++[Z4,DB,[AD 2,SS name,AD 0,a]]),ts++x⟩ (QM rr N Post):=by
   intro j
   induction j with
   | zero=>
    intro q k2 x a es hq AGH fZ hes hqs ha;have ho:=ha.BG;refine ABT ⟨alD _ _ _,?_⟩;simp only[FA,EP,FN,GQ,wO,DN,CJ,AGG,xL,xM,xF,xG];refine BE ?_;have h1:¬ ((q:Int)<ar):=by omega
    simp only[h1,XJ];refine BQ (AKi ?_);have:=Ym (R:=R) (Post:=Post) (rr:=rr) (N:=N) (k:=k2) (ts:=ts++x) (Z:=Z4) (r:=[DB,[AD 2,SS name,AD 0,a]]) (L':=Ca (env R) 83 0 L.ro L.rt) hB hm rfl hN hro rfl ho (c:=2) (i:=0) (n:=name) (fun y hy=>hP _ y k2 x hy (nY.of ((NL.node (by omega) hqs).mono (by omega))) (by omega) fZ);simpa[FA,wO,DN,EP] using this
   | succ j Gs=>
    intro q k2 x a es hq AGH fZ hes hqs ha;have ho:=ha.BG;refine ABT ⟨alD _ _ _,?_⟩;simp only[FA,EP,FN,GQ,wO,DN,CJ,AGG,xL,xM,xF,xG];refine BE ?_;have h1:((q:Int)<ar):=by omega
    simp only[h1,Rn];refine BZ (AKj ?_)
    have hm2:KW bs (m++[Z4,DB,[AD 2,SS name,AD 0,a]]):=JQ hm (by
     intro b hb;simp only[Av,Fs,FL] at hb;rcases hb with rfl|rfl|rfl
     ·simp[AU,Aa]
     ·exact APb _
     ·simp[AU,Aa,ho.Aa])
    simp[EP,Jn,IV,Jo];refine DX (by omega) (by omega) ?_
    refine CR (U4 ((d:Int)-1) (by omega) (by omega) hm2 fZ vars (by omega) (by
     have:(l.length-k2)*100<=(l.length-k1)*100:=CB _ (by omega);have:(l.length-k1+1)*100<=(l.length-k)*100:=CB _ (by omega);omega) (Ca (env R) 83 0 L.ro L.rt) hro (ts++x) (by simp[Ca]; omega)) ?_
    rintro v s1 ⟨t,k3,x2,hv,hqn,Ly,bF,rfl⟩;obtain⟨c1,n1,i1,xw⟩:=t;obtain⟨b,rfl,hb⟩:=hv;simp[D4,Fh,hb.ok,hb.I3,EP,Jn,IV,Jo];have hrow:B6 4 1 [PV.sc (.int .i64 c1),.sc (.string ⟨n1.toArray⟩),.sc (.int .i64 i1),.list (AQ xw)]=[Ah (.mk c1 n1 i1 xw)]:=by simp[B6,Ah]
    rw[hrow]
    have U1:Ex ts.length (ts++(x++x2)) 25 a (AQ es):=by
     rw[<-DI];exact ha.grow
    refine Ma U1 Fz (fun r hr=>T6 r hr) (Am _) (by omega) (DZ _) (by simp[Ad]; omega) (by simp[Ad]; omega) ?_;intro a' x' Hs;have ho':=Hs.BG;have:=g1 2;simp[EP,Jn,IV,Jo,ho'.ok,ho'.cells,ho'.HK,this];refine⟨by simp[Cu],?_,?_⟩
    ·simpa[zy.Cu] using zy.Cu ha
    refine AKk (Cr (by omega) (by omega) ?_)
    have ha3:Ex ts.length (ts++x') 25 a' (AQ (es++[.mk c1 n1 i1 xw])):=by
     rw[FY];simpa[AQ] using Hs
    have:=Gs (q+1) k3 x' a' (es++[.mk c1 n1 i1 xw]) (by omega) (by omega) bF (by simp; omega) (JK.snoc hqs hqn (by omega)) ha3;simpa using this
  have:=loop ar 0 k1 [] (.AA []) [] (by omega) (AL _) hk2 rfl JK.nil (.inl (by simp[AQ]));simpa using this
end
section
variable {bs:List (List AV)} {id:Nat} {l:Src} {R:Nat->Option (List PV)}
theorem sw (hB:NK bs id l) {W:List (List UInt8)} (hW:(env R).G 1=some (FV W)) (h4:W.length=4) (sW:Short W) {dv:AV} (μ:Nat)
  (ihn:∀ d:Nat,d<=20->T8 R bs id l dv 83 d (3*d+1) μ nY) (iht:∀ d:Nat,d<=20->T8 R bs id l dv 41 d (3*d+2) μ (L2 d)) (e:Int) (he:-1<=e) (he2:e<=20):T8 R bs id l dv 115 e (3*(e+1).toNat) (μ+1) NL:=by
 intro m hm k hk vars hvars hμ L hro ts Fz;have hlen:=hB.len;have hlt:=hB.lt
 suffices H:∀ (rr:Bool) (N:Nat) (Post:AV->AK->Prop),N=bs.length+m.length->(∀ t v k' x,Ba t v->NL (8*(k'-k)+1) t->k<=k'->k'<=l.length->Post v ⟨ST bs id l k'++m,ts++x⟩)->fc R 0 L.ro L.rt (.ptr id 0) dv (AD e) (AD vars) ⟨ST bs id l k++m,ts⟩ (QM rr N Post) from
  APg (by simp[BN,Dl]) (H _ _ _ (by simp[Fm]) fun t v k' x h1 h2 h3 h4=>⟨t,k',x,h1,h2,h3,h4,rfl⟩)
 intro rr N Post hN hP;have hm':=Yp hm
 have fin:∀ (k1:Nat) (x:List (Nat×Nat)) (t:Ty) (v:AV),Ba t v->NL (8*(k1-k)+1) t->k<=k1->k1<=l.length->C2 (Ca (env R) 115 0 L.ro L.rt) ⟨ST bs id l k1++(m++[Z4]),ts++x⟩ 4 (.ptr (bs.length+m.length) 0) v fun s1=>FA (env R) s1 (some 4) (.ptr (bs.length+m.length) 0) fun r=>QM rr N Post r s1:=
  fun k1 x t v hv hb h1 h2=>T7 (R:=R) (Post:=Post) (rr:=rr) (N:=N) (k:=k1) (ts:=ts++x) (Z:=Z4) (r:=[]) (L':=Ca (env R) 115 0 L.ro L.rt) hB hm rfl hN hro rfl hv (fun y hy=>hP t y k1 x hy hb h1 h2)
 have cE:∀ (k1:Nat) (t:Ty) (v:AV),Ba t v->NL (8*(k1-k)+1) t->k<=k1->k1<=l.length->C2 (Ca (env R) 115 0 L.ro L.rt) ⟨ST bs id l k1++(m++[Z4]),ts⟩ 4 (.ptr (bs.length+m.length) 0) v fun s1=>FA (env R) s1 (some 4) (.ptr (bs.length+m.length) 0) fun r=>QM rr N Post r s1:=by
  intro k1 t v hv hb h1 h2;have:=fin k1 [] t v hv hb h1 h2;simpa using this
 refine AGK ?_;simp only[CX,DI,Ab,Fm];refine CR (HC (n:=6) hB hm' hk (by omega) (by omega) _ (by simpa[Ca] using hro) ts) ?_;rintro v s1 ⟨r,k1,rfl,LU,Qs,SA,hk2,rfl⟩;have mu1:(l.length-k1)*100<=(l.length-k)*100:=CB _ (by omega);have rest:Dx .i64 .leq (AD e) (AD 0) fun a25=>
 AX a25 (
 FA (env R) ⟨ST bs id l k1++(m++[Z4]),ts⟩ none (.De 1 0) fun a26=>
 Fe (env R) (Ca (env R) 115 0 L.ro L.rt) (.func (.func 54) [] []) [(.ptr id 0),(AD 4)] ⟨ST bs id l k1++(m++[Z4]),ts⟩ fun a28 z7=>
 Dc z7 1 a26 a28 fun a29=>
 FA (env R) z7 none a29 fun a30=>
 Fe (env R) (Ca (env R) 115 0 L.ro L.rt) (.func (.func 26) [] []) [a30,(.AA [])] z7 fun a31 yx=>
 C2 (Ca (env R) 115 0 L.ro L.rt) yx 4 (.ptr (bs.length+m.length) 0) a31 fun ABU=>
(FA (env R) z7 none (.De 1 0) fun v=>Cu v a26=true) /\
 FA (env R) ABU (some 4) (.ptr (bs.length+m.length) 0) fun APh=>
 QM rr N Post APh ABU) (
 Dx .i64 .lss (AD r) (AD 4) fun a34=>
 AX a34 (
 Fe (env R) (Ca (env R) 115 0 L.ro L.rt) (.func (.func 83) [] []) [(.ptr id 0),dv,(AD e),(AD vars)] ⟨ST bs id l k1++(m++[Z4]),ts⟩ fun a39 AKl=>
 C2 (Ca (env R) 115 0 L.ro L.rt) AKl 4 (.ptr (bs.length+m.length) 0) a39 fun ABV=>
 FA (env R) ABV (some 4) (.ptr (bs.length+m.length) 0) fun APi=>
 QM rr N Post APi ABV) (
 fe R 0 L.ro L.rt (.ptr id 0) dv (AD e) (.ptr (bs.length+m.length) 0) ⟨ST bs id l k1++(m++[Z4]),ts⟩ (QM rr N Post))):=by
  refine YA ?_
  by_cases h0:e<=0
  ·have b0:decide (e<=0)=true:=by simpa using h0
   rw[b0];refine BZ (PW hW ?_);refine CR (HC (n:=4) hB hm' hk2 (by omega) (by omega) _ (by simpa[Ca] using hro) ts) ?_;rintro v s1 ⟨r2,k2,rfl,sx,hr4,LS,Ly,rfl⟩;obtain⟨w,hw,hwl⟩:=Qd hW h4 sW sx hr4;refine Yl sx hw (fX ?_);refine AI (KJ (.AA [])) ?_;rintro v rfl;exact Yk (PW hW (RG W)) (cE k2 (.mk 2 w 0 []) _ ⟨_,rfl,by simp[AQ]; exact .inl (.AA _)⟩ (NL.leaf hwl (by omega)) (by omega) Ly)
  ·have b0:decide (e<=0)=false:=by simpa using h0
   rw[b0];obtain⟨d,rfl⟩:=XL (show 0<=e by omega);refine BQ (BE ?_);cases b4:decide (r<4) with
   | true=>
    refine BZ ?_;refine CR (ihn d (by omega) hm' hk2 vars (by omega) (by omega) (Ca (env R) 115 0 L.ro L.rt) hro ts (by simpa[Ca] using Fz)) ?_;rintro v s1 ⟨t,k3,x,hv,hb,LS,Ly,rfl⟩;exact fin k3 x t v hv (hb.1.mono (by omega)) (by omega) Ly
   | false=>
    refine BQ (AGL (Le (by omega) (by omega) ?_));have e3:((d:Nat):Int)-1=((d-1:Nat):Int):=by omega
    rw[e3];refine CR (iht (d-1) (by omega) hm' hk2 0 (by omega) (by omega) (Ca (env R) 115 0 L.ro L.rt) hro ts (by simpa[Ca] using Fz)) ?_;rintro v s1 ⟨t,k3,x,hv,hb,LS,Ly,rfl⟩;exact fin k3 x t v hv (hb.1.mono (by omega)) (by omega) Ly
 refine BE ?_;cases b2:decide (r<2) with
 | false=>exact Jd (by simp) (Jd (by simp) (pk (BQ rest)))
 | true=>
  refine A8 (A8 (Je (pk ?_)))
  by_cases Y1:vars=0
  ·have b0:decide ((vars:Int)>0)=false:=by simp; omega
   rw[b0];exact BQ rest
  ·have b0:decide ((vars:Int)>0)=true:=by simp; omega
   rw[b0];refine BZ ?_;refine CR (HC (n:=vars) hB hm' hk2 (by omega) (by omega) _ (by simpa[Ca] using hro) ts) ?_;rintro v s1 ⟨r2,k2,rfl,sx,hr4,LS,Ly,rfl⟩;refine AI (Tz r2) ?_;rintro v rfl;exact cE k2 (.mk 5 [] r2 []) _ ⟨_,rfl,by simp[AQ]; exact .inl (.AA _)⟩ (NL.leaf (by simp) (by omega)) (by omega) Ly
end
end Go.Proofs.YtpgfpakdnijngaaGreatDoor
