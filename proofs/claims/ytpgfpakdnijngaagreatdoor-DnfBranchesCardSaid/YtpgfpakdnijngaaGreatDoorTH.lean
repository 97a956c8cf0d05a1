/-
  The reference: occurrences.
-/
import Derived.Test.YtpgfpakdnijngaaGreatDoorTG
import Derived.Test.YtpgfpakdnijngaaGreatDoorTE
import Derived.Test.YtpgfpakdnijngaaGreatDoorWpW
import Derived.Test.YtpgfpakdnijngaaGreatDoorTC
set_option linter.all false
namespace Go.Proofs.YtpgfpakdnijngaaGreatDoor
open Go.Tel
open List renaming length->F
open Option renaming some->Y,none->G
open Bool renaming true->Z,false->ϴ
attribute [local simp] Hr MD Ir JL EK E3 Ee wO setCells Hw EX Dd Co Ex alive Dh Jf Qk bU Gq Iu Gl Hs K9 Iv gX fY okB gY gZ gh gi gj ag gm gp gu gv gw gx gy gz hG hJ hO okF hY iA iB iC iD Tu iE Ow Ox Oy Oz iG iH iI iJ iK iL iM iP iQ iR GG iT fZ iU iV iW iX iY iZ ia ic ie ig C0
def AHy {rr:Bool} {k:Nat} {rows:Ϯ} {v:AV} {s0:AY} {bs:Ϩ} {ts:Ϫ} {Post:Ϡ} (d:BM s0) (e:bs.take (F s0.bs)=s0.bs) (f:D1 0 ts k v rows) (b:Post v ⟨s0.bs,ts⟩):QM rr (F s0.bs) Post v ⟨bs,ts⟩:=by
 have j:((bs.take (F s0.bs)).all (Ap (F s0.bs)))=true:=by
  rw[e,Cl];exact d
 rcases f with rfl|⟨t,rfl,i,_⟩
 .refine⟨_,_,?_,b⟩
  grind[IA,IG,Tel.close]
 .have:=(BJ.1 i).1
  refine⟨_,_,?_,b⟩
  grind[IA,IG,Tel.close]
mutual
def NZ:∀(t:Ty) (l:Ϛ),F (BQ t l)<=l.length+AP t
 | .mk k _ i ts,l=>by
  have:=X4 ts l
  grind[BQ,AP]
def X4:∀(ts:Ϣ) (l:Ϛ),F (FK ts l)<=l.length+Ak ts
 | [],l=>by grind[FK]
 | t::ts,l=>by
  have b:=NZ t l;have d:=X4 ts (BQ t l)
  grind[FK,Ak]
end
section
variable {R:RT}
def wK (R:RT) (x:AV) (t:Ty) (l:Ϛ) (s:AY):Prop:=∀(L:Ba) (a:AV),L.ro=0->L.rt=0->D1 0 s.ts 3 a (Ai l) ->
 ∃v d,(∃b,D1 0 b 3 v (Ai (BQ t l))/\Cx a v s.ts b/\d=⟨s.bs,b⟩)/\Bk (env R) L 65 [x,a] s v d
def wL {l:Ϛ} {i:Int} {n:Ϝ} {k:Int} {g:AV} {a:AV} {s:AY} {p:Nat} (e:D1 0 s.ts 3 a (Ai l)) (o:l.length<2 ^ 40) (g0:s.bs[p]?=Y [AG k,SS n,AG i,g]) {QR:QT}
  (r:∀v d,D1 0 d 3 v (Ai (bif l.contains i then l else l++[i]))->Cx a v s.ts d->QR v ⟨s.bs,d⟩) :
  ∀(j q:Nat),q+j=l.length->(l.contains i=(l.drop q).contains i)->ADA R 0 0 0 a (.ptr p 0) (AG q) s QR:=by
 intro j
 induction j with
 | zero=>
  intro q t b;refine ADB (Au (n:=l.length) (by rw[e.BA.BG,BP]) (Ao ?_));rw[A5 AA];rw[CR AA] at b;rw[b] at r;refine A4 (AOQ (AR (Ab g0) (Ad (off:=2) g0 rfl (QE ⟨AH,cy e rfl o λy d f z=>?_⟩))))
  grind
 | succ j u=>
  intro q t b;refine ADB (Au (n:=l.length) (by rw[e.BA.BG,BP]) (Ao ?_));rw[Ax AA];have⟨w,A⟩:∃w,l[q]?=Y w:=⟨_,Az AA⟩;refine BH (AOR (Bc e.BA (row:=[.sc (.int .i64 w)]) AA (by simp[*,Kt]) rfl AA (Ds (AR (Ab g0) (Ad (off:=2) g0 rfl (BE ?_))))));have x:l.drop q=w::l.drop (q+1):=by grind[List.drop_eq_getElem_cons]
  rw[x,List.contains_cons] at b;cases m:w==i with
  | true=>
   simp_all[Cx.refl]
  | false=>
   have:(i==w)=false:=by
    have f:w≠i:=by simpa using m
    simpa using λh:i=w=>f h.symm
   rw[this,Fy] at b;refine A4 (AOS (Bb AA AA ?_));have:=u (q+1) AA b;simpa using this
def wM {ts:Ϣ} {m:AV} (u:BN m (Aj ts)) (W:Ak ts<2 ^ 37) {k i:Int} {n:Ϝ} (X:(k==2||k==3)=Z) {l0:Ϛ} (S:F l0+Ak ts<2 ^ 38) {p:Nat} {bs:Ϩ} {N7:Ϫ} {c0:AV} (g0:bs[p]?=Y [AG k,SS n,AG i,m]) (hs:BM ⟨bs,N7⟩)
  (D:∀t∈ts,∀(l:Ϛ) (s:AY),l.length+AP t<2 ^ 38->BM s->wK R (.agg ((Av t).map .pv)) t l s) {QR:QT}
  (y:∀v b,D1 0 b 3 v (Ai (FK ts l0))->Cx c0 v N7 b->QR v ⟨bs,b⟩) :
  ∀(j q:Nat) (l:Ϛ) (c:AV) (tk:Ϫ),q+j=F ts->FK (ts.drop q) l=FK ts l0->l.length+Ak (ts.drop q)<=F l0+Ak ts->D1 0 tk 3 c (Ai l)->Cx c0 c N7 tk ->
   ADC R 0 0 0 c (.ptr p 0) (AG q) ⟨bs,tk⟩ QR:=by
 have T:=Bl ts;have e:∀(s:AY) (K:AV->Prop),K (AG (F ts))->Gl s m K:=λs K h=>Au (n:=F ts) (by rw[u.BG,Ae]) h
 intro j
 induction j with
 | zero=>
  intro q l c tk E d x o f;rw[CR AA,FK] at d;subst d;refine wN (AR (Ab g0) (Ad (off:=0) g0 rfl (BE ?_)));have U:∀t,wQ R 0 0 0 c t QR->wQ R 0 0 0 c t QR:=λ_ h=>h
  have O:Gl ⟨bs,tk⟩ m λA=>Dh .i64 .lss (AG q) A λB=>B=BB false:=by grind[Ao]
  cases H:(k==3) with
  | true=>
   refine C8 (C8 (C8 (pk (Aw (Aw (AR (Ab g0) (Aw (Ad (off:=3) g0 rfl (Aw (e _ _ (Aw (Ao (pk ?_)))))))))))));rw[A5 AA];exact A4 (wR (y c tk o f))
  | false=>
   have r:(k==2)=true:=AB;refine Aw (AR (Ab g0) (Aw (Ad (off:=0) g0 rfl (Aw (BE (pk ?_))))));rw[r];refine Aw (Aw (AR (Ab g0) (Aw (Ad (off:=3) g0 rfl (Aw (e _ _ (Aw (Ao (pk ?_)))))))));rw[A5 AA];exact A4 (wR (y c tk o f))
 | succ j C=>
  intro q l c tk E d x o f;have⟨t,I⟩:∃t,ts[q]?=Y t:=⟨_,Az AA⟩;have z:ts.drop q=t::ts.drop (q+1):=by grind[List.drop_eq_getElem_cons]
  rw[z,FK] at d;rw[z,Ak] at x;have Q:=NZ t l
  have step:ADE R 0 0 0 c (.ptr p 0) (AG q) ⟨bs,tk⟩ QR:=by
   refine AOT (AR (Ab g0) (Ad (off:=3) g0 rfl (Bc u (row:=Av t) AA (by grind[BK]) (Aq t) AA (Cd ?_))));obtain⟨v,α,⟨b,L,M,rfl⟩,N⟩:=D t (A8 I) l ⟨bs,tk⟩ AA hs (Co (env R) 65 0 0 0) c rfl rfl o;refine⟨_,_,N,AOU (Bb AA AA ?_)⟩;have:=C (q+1) (BQ t l) v b AA d AA L (f.trans M)
   grind
  refine wN (AR (Ab g0) (Ad (off:=0) g0 rfl (BE ?_)));cases H:(k==3) with
  | true=>
   refine C8 (C8 (C8 (pk (Aw (Aw (AR (Ab g0) (Aw (Ad (off:=3) g0 rfl (Aw (e _ _ (Aw (Ao (pk ?_)))))))))))))
   grind[BH]
  | false=>
   have r:(k==2)=true:=AB;refine Aw (AR (Ab g0) (Aw (Ad (off:=0) g0 rfl (Aw (BE (pk ?_))))));rw[r];refine Aw (Aw (AR (Ab g0) (Aw (Ad (off:=3) g0 rfl (Aw (e _ _ (Aw (Ao (pk ?_)))))))))
   grind[BH]
mutual
def VJ:∀(t:Ty),AP t<2 ^ 37->∀(x:AV),BX t x->∀(l:Ϛ) (s:AY),l.length+AP t<2 ^ 38->BM s->wK R x t l s
 | .mk k n i ts,h,x,hx,l,s,D,A=>by
  intro L a E H u;obtain⟨j,rfl,r⟩:=hx;simp only[AP] at h D;have I:=X5 ts AA;refine m65 ?_;rw[E,H];refine AOV (Bs (cs:=[AG k,SS n,AG i,j]) rfl (by simp[r.ok]) ?_);have e:=A0 s.bs [AG k,SS n,AG i,j];have B:(s.bs++[[AG k,SS n,AG i,j]]).take (F s.bs)=s.bs:=AD;have z:BM ⟨s.bs++[[AG k,SS n,AG i,j]],s.ts⟩:=BM.app (s:=s) A (by simp[Ap,A6,r.A6]);generalize s.bs++[[AG k,SS n,AG i,j]]=bs at e B z
  have d:∀v b,D1 0 b 3 v (Ai (BQ (.mk k n i ts) l))->Cx a v s.ts b->QM (L.rr 65) (F s.bs) (λv m=>∃b,D1 0 b 3 v (Ai (BQ (.mk k n i ts) l))/\Cx a v s.ts b/\m=⟨s.bs,b⟩) v ⟨bs,b⟩:=
   λv b o y=>AHy A B o ⟨b,o,y,rfl⟩
  rw[BQ] at d;rw[BQ];refine AR (Ab e) (Ad (off:=0) e rfl (BE ?_));cases C:(k==5) with
  | true=>
   rw[C] at d;refine BH ?_;have:=wL (R:=R) (s:=⟨bs,s.ts⟩) (p:=F s.bs) (i:=i) (n:=n) (k:=k) (g:=j) u AA e (QR:=QM (L.rr 65) (F s.bs) (λv m=>∃b,D1 0 b 3 v (Ai (bif l.contains i then l else l++[i]))/\Cx a v s.ts b/\m=⟨s.bs,b⟩)) (λv b o y=>d v b o y) l.length 0 AA rfl
   grind
  | false=>
   rw[C] at d;simp only[AL] at d ⊢;refine A4 (AOW ?_);cases f:(k==2||k==3) with
   | true=>
    rw[f] at d;simp only[AQ] at d ⊢;have:=wM (R:=R) r AA f (l0:=l) AA e (hs:=z) (c0:=a) I (QR:=QM (L.rr 65) (F s.bs) (λv m=>∃b,D1 0 b 3 v (Ai (FK ts l))/\Cx a v s.ts b/\m=⟨s.bs,b⟩)) d (F ts) 0 l a s.ts AA rfl (AU _) u (Cx.refl _ _);omega
   | false=>
    rw[f] at d;simp only[AL] at d ⊢;simp only[HC] at f;refine wN (AR (Ab e) (Ad (off:=0) e rfl (BE ?_)));rw[f.2];refine Aw (AR (Ab e) (Aw (Ad (off:=0) e rfl (Aw (BE (pk ?_))))));rw[f.1];exact B7 (B7 (B7 (B7 (B7 (pk (A4 (wR (d a s.ts u (Cx.refl _ _)))))))))
def X5:∀(l:Ϣ),Ak l<2 ^ 37->∀t∈l,∀(o:Ϛ) (s:AY),F o+AP t<2 ^ 38->BM s->wK R (.agg ((Av t).map .pv)) t o s
 | [],_,_,h=>by cases h
 | e::l,h,t,hm=>by
  simp only[Ak] at h;rcases BF.1 hm with h' | h'
  .rw[h']
   exact VJ e AA _ (BD.Bo e).Du
  .exact X5 l AA t h'
end
end
/- QP, QI -/
def wI (i:Int):Bool:=decide (-(2 ^ 50)<=i)&&decide (i<2 ^ 50)
def RS {t:Ty} (h:vP wI t=Z):TI t=true:=NV (λi b=>by simp only[wI,AK,Cu] at b; omega) t h
theorem SK {n m:Int} (hm:wI m=Z) {t:Ty} (h:vP wI t=Z):vP wI (Ht n m t)=Z/\AP (Ht n m t)=AP t:=by
 rw[JF];refine LD (λi b=>?_) t h
 grind
section
variable {R:RT}
def AHz {L:Ϛ} {c:AV} (z:BN c (Ai L)) (α:F L<2 ^ 40) {bd:Ϣ} {Bz:Ty} {Post:AV->Prop} (H:∀r,HM ⟨bd,Bz⟩ r->Post r) :
  ∀(j q:Nat) (b:Ty) (bs:Ϩ) (tk:Ϫ) (o:AV) (y:Ϭ),q+j=F L->I1 j q b=Bz->AP b<2 ^ 37->vP wI b=Z->bs[1]?=Y Z5->bs[2]?=Y (o::y)->BN o (Aj bd)->BX b (.agg y) ->
   ADF R 0 0 0 (.ptr 1 0) c (.ptr 2 0) (AG q) ⟨bs,tk⟩ (QP Post):=by
 have β:(AW:Int)=1073741824:=rfl;intro j
 induction j with
 | zero=>
  intro q b bs tk o y I d x s m e p f;rw[I1] at d;subst d;refine ADG (Au (n:=F L) (by rw[z.BG,BP]) (Ao ?_));rw[A5 AA];have E:CL ⟨bd,b⟩ (.agg (o::y)):=⟨o,y,rfl,p,f⟩;have⟨t,K,γ⟩:=E.cells;refine A4 (AOX (Ag e t (MV m t (AO _) K (AO _) (Ag (BT m) t ?_))));have⟨A,δ,M⟩:=p.closed (bs.set 1 (o::y)) 0;obtain⟨k,n,i,ts⟩:=b;obtain⟨a,d,N⟩:=f;cases d;have⟨B,ε,O⟩:=N.closed (bs.set 1 (o::[AG k,SS n,AG i,a])) 0;exact⟨.agg (A::[AG k,SS n,AG i,B]),by simp[*],H _ ⟨A,_,rfl,M,B,rfl,O⟩⟩
 | succ j Q=>
  intro q b bs tk o y I d x s m e p f;rw[I1] at d;refine ADG (Au (n:=F L) (by rw[z.BG,BP]) (Ao ?_));rw[Ax AA];have⟨C,ζ,η⟩:=f.cells;refine BH (AOY (AR (Ab e) (KM e C (Bb AA AA ?_))));have S:(1073741825:Int)+(q:Int)=AW+1+q:=AA;rw[S];refine AI (Fh (R:=R) (AW+1+q) q x (RS s) f) ?_;intro r u;obtain⟨D,rfl⟩:=u.Du.agg;have⟨T,U,θ⟩:=u.Du.cells
  have W:wI (q:Int)=true:=by
   simp only[wI,AK,Cu];omega
  have⟨X,ι⟩:=SK (n:=AW+1+q) W s;refine AR (Ab e) (QV e C T (AO _) U (AO _) (AOZ (Bb AA AA ?_)));have:=Q (q+1) (Ht (AW+1+q) q b) (bs.set 2 (o::D)) tk o D AA d AA X (BR m AH) (BT e) p u.Du
  grind
def AH0 {b:Br} {L:Ϛ} {c:AV} (u:BN c (Ai L)) (ς:F L<2 ^ 37) (γ:∀i∈L,0<=i/\i<(F b.AN:Int)) (π:F b.AN<2 ^ 37) {xa:AV} {xb:Ϭ} (T:BN xa (Aj b.AN)) {Bz:Ty} {Post:AV->Prop} (δ:∀r,HM ⟨L.map λi=>b.AN.getD i.toNat XL,Bz⟩ r->Post r) :
  ∀(j q:Nat) (d:Ty) (bs:Ϩ) (tk:Ϫ) (o:AV) (y:Ϭ),q+j=F L->I1 (F L) 0 (UK L j q d)=Bz->AP d<2 ^ 37->vP wI d=Z->bs[0]?=Y (xa::xb)->bs[1]?=Y Z5->bs[2]?=Y (o::y)->D1 0 tk 25 o (Aj ((L.take q).map λi=>b.AN.getD i.toNat XL))->BX d (.agg y) ->
   ADH R 0 0 0 (.ptr 0 0) (.ptr 1 0) c (.ptr 2 0) (AG q) ⟨bs,tk⟩ (QP Post):=by
 have σ:(AW:Int)=1073741824:=rfl;intro j
 induction j with
 | zero=>
  intro q d bs tk o y ε p C x z E f A B;rw[UK] at p;refine ADI (Au (n:=F L) (by rw[u.BG,BP]) (Ao ?_));rw[A5 AA];rw[CC AA] at A;have:=AHz (R:=R) u AA δ (F L) 0 d bs tk o y AA p C x E f A.BA B;exact A4 (AOa (by simpa using this))
 | succ j ζ=>
  intro q d bs tk o y ε p C x z E f A B;rw[UK] at p;refine ADI (Au (n:=F L) (by rw[u.BG,BP]) (Ao ?_));rw[Ax AA];have⟨w,η⟩:∃w,L[q]?=Y w:=⟨_,Az AA⟩;have⟨θ,τ⟩:=γ w (A8 η);have⟨t,ι⟩:∃t,b.AN[w.toNat]?=Y t:=⟨_,Az AA⟩;have ρ:b.AN.getD w.toNat XL=t:=AB;have U:L.getD q 0=w:=AB;rw[U] at p;have⟨O,υ,φ⟩:=B.cells;have Q:∀(s:AY) (K:AV->Prop),K (AG w)->OK s 1 c (AG q) λa=>EX (env R) s G a K:=λs K h=>Bc u (row:=[.sc (.int .i64 w)]) AA (by grind[Kt]) rfl AA (Ds h)
  refine BH (AOb (AR (Ab f) (Ad (off:=0) f rfl (AR (Ab z) (Ad (off:=0) z rfl (Q _ _ (Bc T (row:=Av t) θ (BK ι) (Aq t) AA (Cd (Eg (BD.Bo t).Du ⟨AH,O6 A rfl AB λe W D=>?_⟩)))))))));have I:=D.BA;refine AR (Ab f) (C1 (off:=0) f AD I.cells (AO _) I.ok (.inl (AO _)) ?_);have κ:(o::y).set 0 e=e::y:=rfl;rw[κ];have M:=BR (b:=e::y) z (k:=2) AH;have N:=BR (b:=e::y) E (k:=2) AH;have m:=BT (b:=e::y) f;generalize bs.set 2 (e::y)=X at M N m;refine AR (Ab m) (KM m O (Q _ _ (Bb AA AA ?_)));have μ:(1073741825:Int)+(q:Int)=AW+1+q:=AA;rw[μ];refine AI (Fh (R:=R) w (AW+1+q) C (RS x) B) ?_;intro r H;obtain⟨S,rfl⟩:=H.Du.agg;have⟨ν,ξ,χ⟩:=H.Du.cells
  have α:wI (AW+1+(q:Int))=true:=by
   simp only[wI,AK,Cu];omega
  have⟨ο,ψ⟩:=SK (n:=w) α x;refine AR (Ab m) (QV m O ν (AO _) ξ (AO _) (AOc (Bb AA AA ?_)));have β:(L.take q).map (λi=>b.AN.getD i.toNat XL)++[t]=(L.take (q+1)).map λi=>b.AN.getD i.toNat XL:=by grind[List.take_add_one]
  rw[β] at D;have:=ζ (q+1) (Ht w (AW+1+q) d) (X.set 2 (e::S)) W e S AA p AA ο (BR M AH) (BR N AH) (BT m) D H.Du
  grind
def WX {b:Br} (hs:AP b.AM<2 ^ 36) (t:vP wI b.AM=Z) (hb:F b.AN<2 ^ 37) (u:∀i∈BQ b.AM [],0<=i/\i<(F b.AN:Int)) {x:AV} (hx:HM b x):Ah (env R) 50 [x] λr=>HM (CE b) r:=by
 obtain⟨a,y,rfl,e,f⟩:=hx;have⟨m,D,z,A⟩:=f.cells;have o:=NZ b.AM [];simp only[CQ,CY] at o;refine e50 (u0:=.agg (a::y)) (by simp[BZ,close,e.close,A]) (AOd ?_);refine Bs (cs:=a::y) rfl (by simp[e.ok]; grind) (Bh ?_);have j:(AY.mk [a::y,Z5] []).bs[0]?=Y (a::y):=rfl
 have p:BM ⟨[a::y,Z5],[]⟩:=by
  intro d n;simp only[BF,ER,ES] at n;rcases n with rfl|rfl
  .show Ap _ _=Z
   simp only[Ap,e.A6,Cm];exact BV (AO _) _ z
  rfl
 refine AR (s:=⟨[a::y,Z5],[]⟩) (Ab j) (KM j m ?_);obtain⟨v,E,⟨k,B,_,rfl⟩,C⟩:=VJ (R:=R) b.AM AA (.agg y) f.Du [] ⟨[a::y,Z5],[]⟩ AB p (Co (env R) 50 0 0 0) (.AE []) rfl rfl (.inl rfl);refine⟨_,_,C,AR (s:=⟨[a::y,Z5],k⟩) (Ab j) (KM j m (FV (wC f.Du) (Bh (MV (s:=⟨[a::y,Z5]++[Z5],k⟩) rfl AB (AO _) (by simp[*]) (AO _) ?_))))⟩;have:=AH0 (R:=R) (b:=b) (L:=BQ b.AM []) (c:=v) B.BA AA u hb (xa:=a) (xb:=y) (.inl e) (Bz:=(CE b).AM) (Post:=λr=>HM (CE b) r) (λr h=>h) (F (BQ b.AM [])) 0 b.AM [a::y,Z5,.AE []::y] k (.AE []) y AA rfl AA t rfl rfl rfl (.inl rfl) f.Du
 grind
def KN {b:Br} (hs:AP b.AM<2 ^ 36) (d:vP wI b.AM=Z) (hb:F b.AN<2 ^ 37) (e:∀i∈BQ b.AM [],0<=i/\i<(F b.AN:Int)) {x:AV} (hx:CL b x):Ah (env R) 50 [x] λr=>HM (CE b) r:=by
 have⟨f,j,k,m⟩:=hx.closed;exact Ah.open (args':=[f]) AX AX rfl j k (WX hs d hb e m)
end
def mm {t:Ty} (o:A2 t=Z) (k:CJ 0 t=Z) (hs:CG (bw t)) {l:Ϥ} (s:DR (Aa 32) (Al t) t=Y l) :
  ∃ps B,BI (Aa 32) (Al t) t []=(Y ps,B)/\l.map CE=ps.map (Gc B)/\(∀b∈l,∀i∈BQ b.AM [],0<=i/\i<(F b.AN:Int))/\(∀b∈B,WT t b)/\∀b∈l,∀c∈b.AN,WT t c:=by
 have h:=MM (A7:=Aa 32) rfl rfl (Al t) t [] o k EI hs [] (λx hx=>by grind);rw[Ck o k] at h;have hb:=O9 (f:=Al t) o k;have C:=Cq (A7:=Aa 32) (Al t) t l s;rw[s] at h;generalize BI (Aa 32) (Al t) t []=z at h hb;rcases z with ⟨_|ps,B⟩
 .exact h.elim
 .obtain⟨_,r⟩:=h
  simp only at hb ⊢
  have A:∀(j:Ϥ) (d:Ϣ),(∀b∈j,b∈l)->CD (λb p=>∃φ,Rl ϴ 0 B (F ([]:Ϣ)) (F B) [] b p φ) j d->CD (λb p=>b∈l/\∃φ,Rl ϴ 0 B (F ([]:Ϣ)) (F B) [] b p φ) j d:=by
   intro j
   induction j with
   | nil=>intro d _ h; cases d with
    | nil=>trivial
    | cons _ _=>exact h.elim
   | cons a j n=>
    intro d hm h;cases d with
    | nil=>exact h.elim
    | cons p d=>exact⟨⟨hm a AD,h.1⟩,n d (λb hb=>hm b AB) h.2⟩
  have u:∀(j:Ϥ) (d:Ϣ),CD (λb p=>∃φ,Rl ϴ 0 B (F ([]:Ϣ)) (F B) [] b p φ) j d->∀b∈j,∃p φ,Rl ϴ 0 B (F ([]:Ϣ)) (F B) [] b p φ:=by
   intro j
   induction j with
   | nil=>simp
   | cons a j n=>
    intro d h b hb;cases d with
    | nil=>exact h.elim
    | cons p d=>
     rcases BF.1 hb with rfl|hb
     .exact⟨p,h.1⟩
     .exact n d h.2 b hb
  have e:l.map CE=ps.map (Gc B):=by
   refine(A l ps (λb hb=>hb) r).map_eq λb p ⟨m,φ,H⟩=>(UO H (AU _) (DE hs ?_)).symm
   have:=H.N8;have:=H.len
   grind
  refine⟨ps,B,rfl,e,λb m i y=>?_,hb,λb m c k=>?_⟩
  rotate_left
  .have⟨p,φ,H⟩:=u l ps r b m
   have⟨i,y,D⟩:=Nf.1 k;have⟨x,hx⟩:∃x,φ[i]?=Y x:=⟨_,Az (by have:=H.len; omega)⟩;have E:=H.KA i x hx
   grind
  have⟨p,φ,H⟩:=u l ps r b m;rcases G3 b.AM [] i y with h|h
  .cases h
  .have:=H.len
   rcases H.vis i h with h|h|h
   all_goals grind
def mo {L:Ϛ}:∀(f j:Nat) (t:Ty),j+f<2 ^ 40->vP wI t=Z->vP wI (UK L f j t)=Z/\AP (UK L f j t)=AP t
 | 0,_,_,_,h=>⟨h,rfl⟩
 | f+1,j,t,m,h=>by
  have b:wI (AW+1+(j:Int))=true:=by
   have:(AW:Int)=1073741824:=rfl;simp only[wI,AK,Cu];omega
  have⟨d,e⟩:=SK (n:=L.getD j 0) b h;have⟨i,k⟩:=mo (L:=L) f (j+1) _ AA d;exact⟨i,k.trans e⟩
def mq:∀(f j:Nat) (t:Ty),j+f<2 ^ 40->vP wI t=Z->vP wI (I1 f j t)=Z/\AP (I1 f j t)=AP t
 | 0,_,_,_,h=>⟨h,rfl⟩
 | f+1,j,t,m,h=>by
  have b:wI (j:Int)=true:=by
   simp only[wI,AK,Cu];omega
  have⟨d,e⟩:=SK (n:=AW+1+(j:Int)) b h;have⟨i,k⟩:=mq f (j+1) _ AA d;exact⟨i,k.trans e⟩
def RU {b:Br} (d:vP wI b.AM=Z) (hs:AP b.AM<2 ^ 36):AP (CE b).AM=AP b.AM/\F (CE b).AN<=AP b.AM:=by
 have e:=NZ b.AM [];simp only[CQ,CY] at e;have⟨f,i⟩:=mo (L:=BQ b.AM []) (F (BQ b.AM [])) 0 b.AM AA d;have⟨_,j⟩:=mq (F (BQ b.AM [])) 0 _ AA f;refine⟨j.trans i,?_⟩
 show F ((BQ b.AM []).map _)<=_
 grind
def wS {W:Nat} {b:Br} (h:LF W b) (hb:F b.AN<2 ^ 40):vP wI b.AM=true:=
 MS (λi d=>by
  have:(AW:Int)=1073741824:=rfl;rw[Zm] at d;simp only[wI,AK,Cu];omega) _ h.ok
section
variable {R:RT}
def pY (R:RT) (t:Ty) (o:Ϥ×Int):Prop:=∀x,BD t x->Ah (env R) 15 [x] λr=>∃a,r=.tuple [a,AG o.2]/\A3 a (o.1.map C7)
def AAb {X:Ty->Ϥ×Int} {ts:Ϣ} {y:AV} (e:A3 y (Aj ts)) (x:F ts<2 ^ 30) (hx:∀t∈ts,pY R t (X t)) {bs:Ϩ} {tk:Ϫ} {xb:Ϭ} (g0:bs[0]?=Y (y::xb)) {Post:AV->Prop} (d:Post (BB (ts.all λt=>C2 (X t)))) :
  ∀(j p:Nat),p+j=F ts->(ts.all λt=>C2 (X t))=((ts.drop p).all λt=>C2 (X t))->ADJ R 0 0 0 (.ptr 0 0) (AG p) ⟨bs,tk⟩ (QP Post):=by
 intro j
 induction j with
 | zero=>
  intro p r b;refine ADK (AR (Ab g0) (Ad (off:=0) g0 rfl (Au (n:=F ts) (by rw[e.BG,Ae]) (Ao ?_))));rw[A5 AA];rw[CR AA] at b;rw[b] at d;exact A4 (AOe ⟨_,GG,d⟩)
 | succ j k=>
  intro p r b;refine ADK (AR (Ab g0) (Ad (off:=0) g0 rfl (Au (n:=F ts) (by rw[e.BG,Ae]) (Ao ?_))));rw[Ax AA];have⟨t,f⟩:∃t,ts[p]?=Y t:=⟨_,Az AA⟩;have m:=A8 f;rw[drop_cons f,FX] at b;refine BH (AOf (AR (Ab g0) (Ad (off:=0) g0 rfl (BL e (row:=Av t) AA (by simp[*,BK]) (Aq _) AA (Cd (AI (hx t m _ (BD.Bo t)) ?_))))));rintro _ ⟨a,rfl,s⟩
  have fail:C2 (X t)=ϴ->(QP Post) (BB ϴ) ⟨bs,tk⟩:=λh=>by
   rw[b,h,HB] at d;exact⟨_,GG,d⟩
  refine B9 rfl (B9 rfl (Ef ?_));cases u:(X t).2==0 with
  | false=>
   grind[C8,pk,BH,C2]
  | true=>
   have:((X t).2 != 0)=false:=AB;rw[this];refine Aw (Aw (Au (n:=F (X t).1) (by rw[s.BG,Bj]) (Aw (Gv (pk ?_)))))
   by_cases i:F (X t).1<=4
   .rw[A5 AA]
    have o:C2 (X t)=true:=by simp[C2,u,i]
    rw[o,Cm] at b;refine A4 (AOg (Bb AA AA ?_));have:=k (p+1) AA b;simpa using this
   .rw[Ax AA]
    exact BH (fail (by simp[C2,i]))
def Zv {X:Ty->Ϥ×Int} {b:Br} (hs:AP b.AM<2 ^ 37) (o:F b.AN<2 ^ 30) (hx:∀t∈b.AN,pY R t (X t)) {x:AV} (m:HM b x):Ah (env R) 51 [x] λr=>r=BB (Mp b&&b.AN.all λb=>C2 (X b)):=by
 obtain⟨a,y,rfl,i,k⟩:=m;have⟨p,C,D,s⟩:=k.cells;have B:=Eb b.AM
 suffices H:∀j:AV->Prop,j (BB (Mp b&&b.AN.all λb=>C2 (X b)))->ADL R 0 0 0 (.agg (a::y)) ⟨[],[]⟩ (QP j) from e51 (u0:=.agg (a::y)) (by simp[BZ,close,i.close,s]) (H _ rfl)
 intro j d;refine AOh (Bs (cs:=a::y) rfl (by simp[i.ok]; grind) ?_);have e:(AY.mk ([]++[a::y]) []).bs[0]?=Y (a::y):=rfl;refine AR (Ab e) (Ad (off:=0) e rfl (Au (n:=F b.AN) (by rw[i.BG,Ae]) (Gv ?_)))
 by_cases u:F b.AN<=6
 .rw[A5 AA]
  refine Aw (AR (Ab e) (Aw (KM e p (Aw (AI (Jt b.AM hs _ k) ?_)))));intro v z;refine Aw (Au (n:=F (Af b.AM)) (by rw[z.BG,BP]) (Aw (Gv (pk ?_))))
  by_cases A:F (Af b.AM)<=3
  .rw[A5 AA]
   have f:Mp b=true:=by grind[Mp]
   rw[f,Cm] at d;have:=AAb (R:=R) i o hx (bs:=[]++[a::y]) (tk:=[]) (xb:=y) e d (F b.AN) 0 AA rfl;exact A4 (AOi (by simpa using this))
  .rw[Ax AA]
   have f:Mp b=false:=by simp[Mp,A]
   rw[f,HB] at d;exact BH ⟨_,GG,d⟩
 .rw[Ax AA]
  have f:Mp b=false:=by simp[Mp,u]
  rw[f,HB] at d;exact C8 (C8 (C8 (C8 (C8 (pk (BH ⟨_,GG,d⟩))))))
def WY {X:Ty->Ϥ×Int} {b:Br} (hs:AP b.AM<2 ^ 37) (e:F b.AN<2 ^ 30) (hx:∀t∈b.AN,pY R t (X t)) {x:AV} (d:CL b x):Ah (env R) 51 [x] λr=>r=BB (Mp b&&b.AN.all λb=>C2 (X b)):=by
 have⟨f,i,j,k⟩:=d.closed;exact Ah.open (args':=[f]) AX AX rfl i j (Zv hs e hx k)
end
theorem wT:∀(new pre old b:Ϭ),F old=F new->setCells (pre++(old++b)) (F pre) new=pre++(new++b)
 | [],pre,old,b,h=>by
  have:old=[]:=AB;subst this;rfl
 | x::new,pre,old,b,h=>by
  cases old with
  | nil=>grind
  | cons y old=>
   have:=wT new (pre++[x]) old b AB
   grind[setCells]
theorem CD.set {α β:Type} {P:α->β->Prop}:∀{l:List α} {m:List β} (p:Nat) {a:α} {b:β},CD P l m->P a b->CD P (l.set p a) (m.set p b)
 | [],[],_,_,_,_,_=>trivial
 | x::l,y::m,0,_,_,⟨_,h⟩,d=>⟨d,h⟩
 | x::l,y::m,p+1,_,_,⟨e,f⟩,d=>⟨e,CD.set p f d⟩
 | [],_::_,_,_,_,h,_=>h.elim
 | _::_,[],_,_,_,h,_=>h.elim
def CD.len {α β:Type} {P:α->β->Prop}:∀{l:List α} {m:List β},CD P l m->l.length=F m
 | [],[],_=>rfl
 | _::l,_::m,⟨_,h⟩=>by simp[CD.len h]
 | [],_::_,h=>h.elim
 | _::_,[],h=>h.elim
def wU:∀{l:Ϥ} {rows:Ϩ},CD (λb row=>CL b (.agg row)) l rows->F rows.flatten=F rows*5
 | [],[],_=>rfl
 | b::l,row::rows,⟨d,e⟩=>by
  have:=wU e;have⟨f,_,_⟩:=d.cells
  grind
 | [],_::_,h=>h.elim
 | _::_,[],h=>h.elim
def CD.take {α β:Type} {P:α->β->Prop}:∀{l:List α} {m:List β} (p:Nat),CD P l m->CD P (l.take p) (m.take p)
 | [],[],p,_=>by grind
 | _::_,_::_,0,_=>trivial
 | x::l,y::m,p+1,⟨b,d⟩=>⟨b,CD.take p d⟩
 | [],_::_,_,h=>h.elim
 | _::_,[],_,h=>h.elim
def wV {L:Ba} {s:AY} {lo p:Nat} {l:Ϥ} {y:AV} {c t:Br} {row:Ϭ} (A:EE lo s.bs l y) (B:l[p]?=Y c) (m:CL t (.agg row)) (M:L.ro<=lo) (N:L.n0<=lo) {K:AY->Prop}
  (h:∀i,EE lo i (l.set p t) y->F i=F s.bs->(∀j d,(∀n,y≠.ref j 0 n 5)->s.bs[j]?=Y d->i[j]?=Y d)->(BM s->BM ⟨i,s.ts⟩)->K ⟨i,s.ts⟩):OK s 5 y (AG p) λa=>Hw L s 5 a (.agg row) K:=by
 have X:p<l.length:=(BJ.1 B).1;rcases A with ⟨rfl,rfl⟩|⟨id,rows,C,rfl,o,f,D⟩
 .grind
 .have⟨_,_,_,_,_,_,x⟩:=EE.block (lo:=lo) o f D
  have⟨q1,E,α⟩:=m.cells;have β:=f.len;have O:=wU f;have Q:=wU (f.take p);have z:cellsOf (.agg row)=row:=rfl;have⟨e,k⟩:∃e,rows[p]?=Y e:=⟨_,Az AA⟩;have⟨S,T⟩:=BJ.1 k
  have u:∀(l:Ϥ) (rows:Ϩ) (p:Nat) (e:Ϭ),CD (λb row=>CL b (.agg row)) l rows->rows[p]?=Y e->F e=5:=by
   intro l
   induction l with
   | nil=>intro rows p e h k; cases rows with
    | nil=>grind
    | cons _ _=>exact h.elim
   | cons b l H=>
    intro rows p e h k;cases rows with
    | nil=>grind
    | cons r rows=>
     cases p with
     | zero=>
      have:r=e:=AB;subst this;exact h.1.cells.1
     | succ p=>exact H rows p e h.2 AB
  have u:=u l rows p e f k;refine⟨⟨AA,AA,rfl,x⟩,?_⟩;simp only[Hw,o,wO,z];have I:0+((p:Nat):Int).toNat*5=p*5:=AA;rw[I];refine⟨⟨q1,AA,AA,E,.inl AA,AA⟩,?_⟩;have γ:rows.flatten=(rows.take p).flatten++(e++(rows.drop (p+1)).flatten):=by grind[List.drop_eq_getElem_cons,List.take_append_drop]
  have es2:setCells rows.flatten (p*5) row=(rows.set p row).flatten:=by grind[List.set_eq_take_append_cons_drop,wT]
  rw[es2];refine h _ (.inr ⟨id,rows.set p row,C,by rw[Ns],?_,f.set p m,?_⟩) (by rw[Ns]) (λj d δ U=>?_) (λε=>?_)
  .rw[Cv (BJ.1 o).1]
  .simp[*]
  .grind
  .have W:=(IW (f.set p m)).2.2
   grind[BM.set]
theorem EE.close {lo:Nat} {bs:Ϩ} {l:Ϥ} {v:AV} (hb:EE lo bs l v):∃b,Tel.close bs 0 0 v=Y b/\A3 b (l.map C7):=by
 rcases hb with ⟨rfl,rfl⟩|⟨id,rows,k,rfl,e,d,f⟩
 .exact⟨.AE [],AX,.AE _⟩
 .have⟨c,m,n,k1,k2,k3,i⟩:=EE.block (lo:=lo) (s:=⟨bs,[]⟩) e d f
  have j:=VH d;refine⟨.pv (.list (l.map C7)),?_,.list _⟩
  grind[JU,GY,Lp,List.length_map,Tel.close]
section
variable {R:RT}
structure VK (b:Br):Prop where
 Gw:AP b.AM<2 ^ 36
 ok:vP wI b.AM=Z
 Dz:F b.AN<2 ^ 37
 LM:∀i∈BQ b.AM [],0<=i/\i<(F b.AN:Int)
def AAc {X:Ty->Ϥ×Int} {l:Ϥ} (S:l.length<=32) (A:∀b∈l,VK b/\F (CE b).AN<2 ^ 30/\∀c∈(CE b).AN,pY R c (X c)) {t5:AV} {Post:AV->Prop}
  (hF:((l.map CE).all λb=>Mp b&&b.AN.all λb=>C2 (X b))=ϴ->Post (.tuple [.AE [],AG 4])) (hS:((l.map CE).all λb=>Mp b&&b.AN.all λb=>C2 (X b))=Z->∀a,A3 a ((l.map CE).map C7)->Post (.tuple [a,AG 0])) :
  ∀(j p:Nat) (bs:Ϩ) (tk:Ϫ),p+j=l.length->EE 2 bs ((l.take p).map CE++l.drop p) t5->(((l.take p).map CE).all λb=>Mp b&&b.AN.all λb=>C2 (X b))=Z->ADM R 0 0 0 t5 (AG p) ⟨bs,tk⟩ (QP Post):=by
 have i:∀p,p<=l.length->F ((l.take p).map CE++l.drop p)=l.length:=AB;intro j
 induction j with
 | zero=>
  intro p bs tk B hb e;refine ADN (Au (n:=l.length) (by rw[hb.BG,i p AA]) (Ao ?_));rw[A5 AA];rw[CC AA] at hb e;rw[CR AA,G9] at hb;have⟨a,f,C⟩:=hb.close;exact A4 (AOl ⟨.tuple [a,AG 0],by grind[Tel.close,BZ],hS e a C⟩)
 | succ j D=>
  intro p bs tk B hb e;refine ADN (Au (n:=l.length) (by rw[hb.BG,i p AA]) (Ao ?_));rw[Ax AA];have⟨b,m⟩:∃b,l[p]?=Y b:=⟨_,Az AA⟩;have⟨d,u,E⟩:=A b (A8 m);have N:F ((l.take p).map CE)=p:=AB;have o:((l.take p).map CE++l.drop p)[p]?=Y b:=by simp_all[Ei]
  have k:((l.take p).map CE++l.drop p).set p (CE b)=(l.take (p+1)).map CE++l.drop (p+1):=by simp_all[drop_cons,Yn]
  refine BH (AOm (PD hb o λO t=>AI (KN d.Gw d.ok d.Dz d.LM t) ?_));intro v H
  have r:CL (CE b) v:=by
   obtain⟨a,y,rfl,I,K⟩:=H;exact⟨a,y,rfl,.inl I,K.Du⟩
  obtain⟨T,rfl⟩:=r.agg;refine wV hb o r (AO _) (AO _) λx f _ _ _=>?_
  rw[k] at f;have Q:=(RU d.ok d.Gw).1
  have z:((l.take (p+1)).map CE++l.drop (p+1))[p]?=Y (CE b):=by
   rw[<-k,Cv AB]
  refine PD f z λM s=>AI (WY (X:=X) (by have:=d.Gw; omega) u E s) ?_
  rintro _ rfl;refine nt ?_;cases L:Mp (CE b)&&(CE b).AN.all λb=>C2 (X b) with
  | false=>
   refine BH ⟨_,AX,hF ?_⟩
   grind[List.mem_map_of_mem]
  | true=>
   refine A4 (AOn (Bb AA AA ?_))
   have:=D (p+1) x tk AA f (by
    rw[Yn,m];simp only[Option.toList_some,Sl,CH,DC,Ya,e,FX,L,List.all_nil,F0])
   simpa using this
def Lr {t:Ty} (k:A2 t=Z) (o:CJ 0 t=Z) (d:Fit t) {l:Ϥ} (e:DR (Aa 32) (Al t) t=Y l):∀b∈l,VK b/\F (CE b).AN<2 ^ 30/\AP (CE b).AM<2 ^ 30/\∀c∈(CE b).AN,WT t c:=by
 intro b f;have⟨ps,B,_,_,m,_,x⟩:=mm k o d.bws e;have z:=Cq (A7:=Aa 32) (Al t) t l e b f;have zG:=Ln (Al t) t l k d.bws e b f;have r:(bw t:Int)<1073741824:=d.bws;have s:=zG.Gw;have u:=d.jW;have j:=wS zG AA;have⟨y,A⟩:=RU j AA;refine⟨⟨AA,j,AA,m b f⟩,AA,AA,λc n=>?_⟩;have p:c∈(BQ b.AM []).map λi=>b.AN.getD i.toNat XL:=n
 grind
def eC:∀(f:Nat) (t:Ty),Al t<=f->AP t<2 ^ 60->ZQ t->(DJ t=0->Fit t)->pY R t (xR f t):=by
 intro f
 induction f with
 | zero=>
  intro t α;obtain⟨k,n,i,ts⟩:=t
  grind[Al]
 | succ f β=>
  intro t α ν Q N x hx;obtain⟨j,rfl⟩:=hx.agg;have⟨B,γ,δ,ξ⟩:=hx.cells
  suffices H:∀o:AV->Prop,(∀r,(∃a,r=.tuple [a,AG (xR (f+1) t).2]/\A3 a ((xR (f+1) t).1.map C7))->o r)->ADO R 0 0 0 (.agg j) ⟨[],[]⟩ (QP o) from e15 (u0:=.agg j) (by grind[BZ,Tel.close]) (H _ λr h=>h)
  intro o m;have C:(AY.mk ([]++[j]) []).bs[0]?=Y j:=rfl;have fail:∀(n:Int) (s:AY),xR (f+1) t=([],n)->(QP o) (.tuple [.AE [],AG n]) s:=λn s h=>⟨.tuple [.AE [],AG n],AX,m _ ⟨.AE [],by rw[h],by rw[h]; exact .AE _⟩⟩
  refine AOo (Bs (cs:=j) rfl γ (Ag C B (AI (UQ (R:=R) AA Q hx) ?_)));rintro _ rfl;refine Ef ?_;rw[xR] at fail m;cases E:DJ t==0 with
  | false=>
   have:(DJ t != 0)=true:=AB;simp[*,C8,pk,BH]
  | true=>
   have:(DJ t != 0)=false:=AB;rw[this];have u:=N AB;obtain⟨K,κ,μ⟩:=E6 (by simpa using E);refine Aw (Ag C B (Aw (AI (JE (R:=R) AA hx) ?_)));rintro _ rfl;refine Aw (nt (pk ?_));cases L:CJ 0 t with
   | false=>grind[BH]
   | true=>
    rw[E,L] at fail m;simp only[Nj,Kf,AL] at fail m;refine A4 (AOp (FV (cs:=[BB Z,BB ϴ]) rfl (Bs (cs:=[BB Z,BB ϴ]) rfl rfl (Ag (Am C _) B ?_))))
    have S:BM ⟨[j,[BB Z,BB ϴ]],[]⟩:=by
     intro d I;simp only[BF,ER,ES] at I;rcases I with rfl|rfl
     .exact BV (AO _) _ δ
     rfl
    have⟨v,ε,y,M⟩:=(Il (R:=R) (lm:=Z) (Ar:=32) (e:=1) (Al t) t (AU _) K u.bws u.jW AA).c ⟨AH,λ_=>rfl,λh=>by cases h⟩ (.agg j) hx.Du ϴ ⟨[j,[BB Z,BB ϴ]],[]⟩ S (Co (env R) 15 0 0 0) rfl rfl AX rfl;simp only[oX,AL] at y;obtain⟨z,T⟩:=ε;have ζ:z.take 2=[j,[BB Z,BB (DR (Aa 32) (Al t) t).isNone]]:=y.tk;have D:z[1]?=Y [BB Z,BB (DR (Aa 32) (Al t) t).isNone]:=CN ζ rfl;refine⟨_,_,M,DK (Ab D) (AR (Ab D) (Ad (off:=1) D rfl ?_))⟩;cases A:DR (Aa 32) (Al t) t with
    | none=>
     grind[BH]
    | some l=>
     rw[A] at y m;simp only at m;have hb:EE 2 z l v:=y.LA;have O:=QX (Al t) t l A
     have η:∀b∈l,VK b/\F (CE b).AN<2 ^ 30/\∀c∈(CE b).AN,pY R c (xR f c):=by
      intro b U;have⟨q1,θ,_,ι⟩:=Lr K L u A b U;refine⟨q1,θ,λc W=>?_⟩;have p:=ι c W;exact β c (by have:=p.dep; omega) (by have:=p.Gw; omega) (N9 c p.val) (λ_=>u.sub p)
     refine A4 (AOq ?_);have:=AAc (R:=R) (X:=xR f) O η (t5:=v) (Post:=o) (λh=>m _ ⟨.AE [],AB,by rw[h]; exact .AE _⟩) (λh a ο=>m _ ⟨a,AB,AB⟩) l.length 0 z T AA AB rfl;omega
end
def yw (bs:Ϩ) (l:Ϥ) (a:AV):Prop:=(∃b,EE b bs l a)\/BN a (l.map C7)
theorem yw.BG {s:AY} {l:Ϥ} {a:AV} (h:yw s.bs l a):BG s a=Y l.length:=by
 rcases h with ⟨b,h⟩|h
 .exact h.BG
 .rw[h.BG,Bj]
def wW (b:Br):Prop:=AP b.AM<2 ^ 38/\F b.AN<2 ^ 60/\∀t∈b.AN,AP t<2 ^ 38
section
variable {R:RT}
def Kv {s:AY} {l:Ϥ} {a:AV} {p:Nat} {c:Br} (h:yw s.bs l a) (d:l[p]?=Y c) {K:AV->Prop} (b:∀row,CL c (.agg row)->K (.agg row)):OK s 5 a (AG p) λx=>EX (env R) s (Y 5) x K:=by
 rcases h with ⟨i,h⟩|h
 .exact PD h d b
 .refine Bc h (row:=C7 c) AA AB (Lp c) AA ?_
  simp only[EX,Dd,Kg];refine⟨by grind[Lp],?_⟩;rw[CC (by grind[Lp])];have⟨x,y,e,hx,f⟩:=HM.Bo c;refine b _ ⟨x,y,e,.inl hx,f.Du⟩
def AAd {l m:Ϣ} {x y:AV} (hx:A3 x (Aj l)) (f:A3 y (Aj m)) (p:l.length=F m) (z:l.length<2 ^ 60) (hs:∀t∈l,AP t<2 ^ 38) {s:AY} {Post:AV->Prop} (d:∀b:Bool,(b=Z<->l=m)->Post (BB b)) :
  ∀(j q:Nat),q+j=l.length->(l.take q=m.take q)->ADP R 0 0 0 x y (AG q) s (QP Post):=by
 intro j
 induction j with
 | zero=>
  intro q i e;refine ADQ (Au (n:=l.length) (by rw[hx.BG,Ae]) (Ao ?_));rw[A5 AA];rw[CC AA,CC AA] at e;exact A4 (AOr ⟨_,GG,d Z AB⟩)
 | succ j k=>
  intro q i e;refine ADQ (Au (n:=l.length) (by rw[hx.BG,Ae]) (Ao ?_));rw[Ax AA];have⟨t,o⟩:∃t,l[q]?=Y t:=⟨_,Az AA⟩;have⟨u,A⟩:∃t,m[q]?=Y t:=⟨_,Az AA⟩;refine BH (AOs (BL hx (row:=Av t) AA (by simp[*,BK]) (Aq t) AA (Cd (BL f (row:=Av u) AA (by simp[*,BK]) (Aq u) AA (Cd (AI (Jh (R:=R) (hs t (A8 o)) (BD.Bo t) (BD.Bo u)) ?_))))));rintro _ ⟨b,rfl,hb⟩;refine nt ?_;cases b with
  | true=>
   have r:t=u:=hb.1 rfl;refine A4 (AOt (Bb AA AA ?_));have:=k (q+1) AA (by grind[List.take_add_one])
   grind
  | false=>
   refine BH ⟨_,GG,d ϴ ?_⟩
   grind
def Sb {l m:Ϣ} {x y:AV} (hx:A3 x (Aj l)) (f:A3 y (Aj m)) (j:l.length<2 ^ 60) (hs:∀t∈l,AP t<2 ^ 38):Ah (env R) 75 [x,y] λr=>∃b:Bool,r=BB b/\(b=Z<->l=m):=by
 suffices H:∀d:AV->Prop,(∀b:Bool,(b=Z<->l=m)->d (BB b))->ADR R 0 0 0 x y ⟨[],[]⟩ (QP d) from e75 (u0:=x) (u1:=y) (by simp[BZ,hx.close,f.close]) (H _ λb h=>⟨b,rfl,h⟩)
 intro d i;refine AOu (Au (n:=l.length) (by rw[hx.BG,Ae]) (Au (n:=F m) (by rw[f.BG,Ae]) (Ef ?_)))
 by_cases h:l.length=F m
 .have:((l.length:Int) != (F m:Int))=false:=by grind
  rw[this];have:=AAd (R:=R) hx f h j hs (s:=⟨[],[]⟩) i l.length 0 AA rfl;exact A4 (AOv (by simpa using this))
 .have:((l.length:Int) != (F m:Int))=true:=by grind
  rw[this];exact BH ⟨_,GG,i ϴ ⟨λh=>(by cases h),λe=>absurd (by rw[e]) h⟩⟩
def RV {b c:Br} (hb:wW b) {x y:AV} (hx:CL b x) (z:CL c y):Ah (env R) 32 [x,y] λr=>∃e:Bool,r=BB e/\(e=Z<->b=c):=by
 obtain⟨L,M,A,a,v,rfl,m,n⟩:=hx.closed;obtain⟨N,k1,k2,d,w,rfl,o,p⟩:=z.closed;have O:close [] 0 0 x=Y (.agg (a::v)):=by grind[BZ]
 have Q:close [] 0 0 y=Y (.agg (d::w)):=by grind[BZ]
 have⟨B,S,T,U⟩:=n.cells;have⟨C,W,X,α⟩:=p.cells;refine Ah.open (args':=[.agg (a::v),.agg (d::w)]) AX AX rfl (by grind[BZ]) (by grind[BZ]) ?_;obtain⟨D,E,I⟩:=hb
 suffices H:∀j:AV->Prop,(∀e:Bool,(e=Z<->b=c)->j (BB e))->ADS R 0 0 0 (.agg (a::v)) (.agg (d::w)) ⟨[],[]⟩ (QP j) from e32 (u0:=.agg (a::v)) (u1:=.agg (d::w)) (by grind[BZ]) (H _ λb h=>⟨b,rfl,h⟩)
 intro j s;refine AOw (Bs (cs:=a::v) rfl (by simp[m.ok]; grind) (Bs (cs:=d::w) rfl (by simp[o.ok]; grind) ?_));have f:(AY.mk ([]++[a::v]++[d::w]) []).bs[0]?=Y (a::v):=rfl;have i:(AY.mk ([]++[a::v]++[d::w]) []).bs[1]?=Y (d::w):=rfl;refine AR (Ab f) (Ad (off:=0) f rfl (AR (Ab i) (Ad (off:=0) i rfl (AI (Sb (R:=R) m o E I) ?_))));rintro _ ⟨t,rfl,u⟩;cases t with
 | false=>
  refine B7 (B7 (B7 (B7 (B7 (pk ⟨_,GG,s ϴ ⟨λh=>(by cases h),λe=>?_⟩⟩)))))
  grind
 | true=>
  refine Aw (AR (Ab f) (Aw (KM f B (Aw (AR (Ab i) (Aw (KM i C (Aw (AI (Jh (R:=R) D n p) ?_)))))))));rintro _ ⟨K,rfl,k⟩;have t:=u.1 rfl;refine pk ⟨_,GG,s K ⟨λh=>?_,λh=>k.2 (by rw[h])⟩⟩;have A:=k.1 h;cases b
  simp_all
def AAe {l m:Ϥ} {x y:AV} {s:AY} {n0 ro rt:Nat} (hx:yw s.bs l x) (n:yw s.bs m y) (z:l.length=F m) (B:l.length<2 ^ 60) (hs:∀t∈l,wW t) {QR:QT} (e:∀b:Bool,(b=Z<->l=m)->QR (BB b) s) :
  ∀(j q:Nat),q+j=l.length->(l.take q=m.take q)->ADT R n0 ro rt x y (AG q) s QR:=by
 intro j
 induction j with
 | zero=>
  intro q o d;refine ADU (Au hx.BG (Ao ?_));rw[A5 AA];rw[CC AA,CC AA] at d;exact A4 (AOx (e Z (by simp[d])))
 | succ j p=>
  intro q o d;refine ADU (Au hx.BG (Ao ?_));rw[Ax AA];have⟨t,f⟩:∃t,l[q]?=Y t:=⟨_,Az AA⟩;have⟨u,r⟩:∃t,m[q]?=Y t:=⟨_,Az AA⟩;refine BH (AOy (Kv hx f λC i=>Kv n r λD k=>AI (RV (R:=R) (hs t (A8 f)) i k) ?_));rintro _ ⟨b,rfl,hb⟩;refine nt ?_;cases b with
  | true=>
   have A:t=u:=hb.1 rfl;refine A4 (AOz (Bb AA AA ?_));have:=p (q+1) AA (by grind[List.take_add_one])
   grind
  | false=>
   refine BH (e ϴ ?_)
   grind
def mz {l m:Ϥ} {x y:AV} {s:AY} {n0 ro rt:Nat} (hx:yw s.bs l x) (d:yw s.bs m y) (e:l.length<2 ^ 60) (hs:∀t∈l,wW t) {QR:QT} (f:∀b:Bool,(b=Z<->l=m)->QR (BB b) s):ADV R n0 ro rt x y s QR:=by
 refine AO0 (Au hx.BG (Au d.BG (Ef ?_)))
 by_cases h:l.length=F m
 .have:((l.length:Int) != (F m:Int))=false:=by grind
  rw[this];have:=AAe (R:=R) (n0:=n0) (ro:=ro) (rt:=rt) hx d h e hs f l.length 0 AA rfl;exact A4 (AO1 (by simpa using this))
 .have:((l.length:Int) != (F m:Int))=true:=by grind
  grind[BH]
def KO {l m:Ϥ} {x y:AV} {s:AY} (hx:yw s.bs l x) (j:yw s.bs m y) (k:l.length<2 ^ 60) (hs:∀t∈l,wW t) (L:Ba):∃v,(∃b:Bool,v=BB b/\(b=Z<->l=m))/\Bk (env R) L 17 [x,y] s v s:=by
 cases n:BZ [] 0 0 [x,y] with
 | none=>
  have⟨v,e,f⟩:=i17 (R:=R) (s:=s) (Post:=λv=>∃b:Bool,v=BB b/\(b=Z<->l=m)) n (mz (R:=R) hx j k hs λb hb=>⟨_,GG,b,rfl,hb⟩)
  grind
 | some u=>
  have hA:∀{l:Ϥ} {x d:AV},yw s.bs l x->close [] 0 0 x=Y d->A3 d (l.map C7):=by
   intro l x d h A;rcases h with ⟨B,⟨rfl,rfl⟩|⟨id,rows,e,rfl,f,C,D⟩⟩|h
   .have:d=.AE []:=by grind[close]
    rw[this];exact .AE _
   .grind[close,JU]
   .have⟨z,E,H⟩:=h.closed [] 0
    grind
  have o:∃d i,close [] 0 0 x=Y d/\close [] 0 0 y=Y i:=by grind[BZ]
  obtain⟨d,i,e,f⟩:=o;have p:=hA hx e;have r:=hA j f;have⟨v,I,n⟩:=e17 (R:=R) (t0:=x) (t1:=y) (u0:=d) (u1:=i) (Post:=λv=>∃b:Bool,v=BB b/\(b=Z<->l=m)) (by grind[BZ]) (mz (R:=R) (.inr (.inl p)) (.inr (.inl r)) k hs λb hb=>⟨_,GG,b,rfl,hb⟩)
  grind
end
structure Lm where
 c:Nat
 b:Nat
 w:Nat
 n:Nat
 l:Nat
structure Lm.Of (q:Lm) (t:Ty):Prop where
 c:cv t<=q.c
 b:bw t<=q.b
 w:wt t<=q.w
 n:nb t<=q.n
 l:lv t<=q.l
def Lm.up (a s:Nat) (y x:Lm):Lm:=
 ⟨max 1 (max (a*x.c) (x.c*(y.c+1))),max (a*x.b) (x.b+1+(x.c+1)*y.b),max s (max (1+a*x.w) (x.w+max 1 x.c*y.w)),max (a*x.n) (1+x.n+(33*x.l+500)*y.n),max 1 (max x.l (a*x.l))⟩
def LH {α:Type} {f:α->Nat} {m:Nat}:∀{l:List α} {a:Nat},l.length<=a->(∀t∈l,f t<=m)->(l.map f).sum<=a*m
 | [],a,_,_=>AO _
 | t::l,a,h,d=>by
  obtain⟨a,rfl⟩:∃b,a=b+1:=⟨a-1,AB⟩;have e:=LH (l:=l) (a:=a) AB (λt i=>d t AB)
  grind
def max_le {α:Type} {f:α->Nat} {m:Nat}:∀{l:List α},(∀t∈l,f t<=m)->(l.map f).foldr max 0<=m
 | [],_=>AO _
 | t::l,b=>by
  have d:=max_le (l:=l) (λt e=>b t AB)
  grind
def Lm.nA {a s:Nat} {x y:Lm} {k i:Int} {n:Ϝ} {ts:Ϣ} (hs:k≠3->k≠4->k≠6->Ak ts+1<=s) (o:k=3\/k=4->F ts<=a/\∀t∈ts,x.Of t) (m:k=6->∀b body,ts=[b,body]->y.Of b/\x.Of body):(Lm.up a s y x).Of (.mk k n i ts):=by
 cases z:k==6 with
 | true=>
  have:k=6:=AB;subst this
  match ts,m with
  | [],_=>exact⟨by simp[cv,MK,ex6],by grind[bw,MK,zb],by grind[wt,MK,wx],by grind[nb,ex9],by simp[lv,lvl,ex2]⟩
  | [_],_=>exact⟨by simp[cv,MK,ex6],by grind[bw,MK,zb],by grind[wt,MK,wx],by simp[*,nb,ex9],by simp[lv,lvl,ex2]⟩
  | _::_::_::_,_=>exact⟨by simp[cv,MK,ex6],by simp[*,bw,MK,zb],by simp[*,wt,MK,wx],by simp[*,nb,ex9],by simp[lv,lvl,ex2]⟩
  | [b,body],m=>
   have⟨hb,d⟩:=m rfl b body rfl;have A:cv (.mk 6 n i [b,body])=cv body*(cv b+1):=rfl;have B:bw (.mk 6 n i [b,body])=bw body+1+(cv body+1)*bw b:=rfl;have e3:wt (.mk 6 n i [b,body])=wt body+max 1 (cv body)*wt b:=rfl;have e4:nb (.mk 6 n i [b,body])=1+nb body+nF body*nb b:=rfl;have e5:lv (.mk 6 n i [b,body])=lv body:=rfl;have C:cv body*(cv b+1)<=x.c*(y.c+1):=L3 d.c (by have:=hb.c; omega);have D:(cv body+1)*bw b<=(x.c+1)*y.b:=L3 (by have:=d.c; omega) hb.b;have E:max 1 (cv body)*wt b<=max 1 x.c*y.w:=L3 (by have:=d.c; omega) hb.w
   have H:nF body*nb b<=(33*x.l+500)*y.n:=by
    refine L3 ?_ hb.n;have:=d.l
    grind[nF]
   have I:=d.b;have K:=d.w;have L:=d.n;have M:=d.l;refine⟨?_,?_,?_,?_,?_⟩
   all_goals grind[Lm.up]
 | false=>
  cases p:k==3||k==4 with
  | true=>
   have r:k=3\/k=4:=AB;have⟨j,e⟩:=o r;have N:=LH (f:=cv) j λt h=>(e t h).c
   have O:=LH (f:=bw) j λt h=>(e t h).b
   have Q:=LH (f:=wt) j λt h=>(e t h).w
   have S:=LH (f:=nb) j λt h=>(e t h).n
   have T:=LH (f:=lv) j λt h=>(e t h).l
   have U:=max_le (f:=lv) λt h=>(e t h).l
   refine⟨?_,?_,?_,?_,?_⟩
   all_goals grind[cv,O5,Lm.up,bw,Fp,wt,JG,nb,RL,lv,Zj]
  | false=>
   have u:=hs AB AB AB;simp only[HC] at p;refine⟨?_,?_,?_,?_,?_⟩
   all_goals grind[cv,Lm.up,bw,wt,nb,lv]
mutual
def lev:Nat->Ty->Bool
 | d,.mk _ _ _ ts=>decide (F ts<=8)&&AO2 d ts
def AO2:Nat->Ϣ->Bool
 | _,[]=>Z
 | d,t::l=>decide (0<d)&&(lev (d-1) t&&AO2 d l)
end
def eD:∀l:Ϣ,Ak l=(l.map AP).sum
 | []=>rfl
 | t::l=>by rw[Ak,eD l]; rfl
def q0:Ty->Bool
 | .mk k _ _ ts=>k==2||(!(k==3||k==4)&&(!(k==6)&&ts.isEmpty))
mutual
def q1:Ty->Bool
 | .mk k _ _ ts=>bif k==3||k==4 then decide (F ts<=3)&&ts.all q0 else bif k==6 then q1X ts else k==2||ts.isEmpty
def q1X:Ϣ->Bool
 | b::l=>q1 b&&l.all q0
 | []=>Z
end
def qA:Ty->Bool
 | .mk _ _ _ ts=>ts.all q1
theorem Zw {k i:Int} {n:Ϝ}:q1 (.mk k n i [])=true:=by grind[q1,q1X]
def nzS (d:Nat) (t:Ty):Bool:=bif decide (d<=1) then decide (AP t<=3)&&decide (Al t<=2) else bif d==2 then decide (AP t<=7)&&decide (Al t<=3) else Z
def nz (d:Nat) (t:Ty):Bool:=nzS d t&&(!decide (d<=3)||qA t)
theorem X6 {d:Nat} {t:Ty} (h:AP t<=3) (b:Al t<=2):nzS d t=true:=by grind[nzS]
theorem wX {t:Ty} (b:Al t<=2):qA t=true:=by
 obtain⟨k,n,i,ts⟩:=t;rw[qA,Cl];intro u d;rw[Al] at b;have:=Et d;obtain⟨k,n,i,us⟩:=u;rw[Al] at this;cases us with
 | nil=>exact Zw
 | cons v us=>
  obtain⟨k,n,i,e⟩:=v
  grind[Cp,Al]
theorem VM {d:Nat} {t:Ty} (h:AP t<=3) (b:Al t<=2):nz d t=true:=by grind[nz,X6,wX]
mutual
def gq:Nat->Ty->Bool
 | d,.mk k n i ts=>bif k==3||k==4 then decide (0<d)&&(decide (F ts<=3)&&RX (d-1) ts) else bif k==6 then decide (0<d)&&gqX d ts else bif k==2 then nz d (.mk k n i ts) else ts.isEmpty
def RX:Nat->Ϣ->Bool
 | _,[]=>Z
 | d,t::l=>gq d t&&RX d l
def gqX:Nat->Ϣ->Bool
 | d,b::l=>gq 1 b&&RX (d-1) l
 | _,[]=>Z
end
theorem Kw {d:Nat}:∀{l:Ϣ} {t:Ty},RX d l=Z->t∈l->gq d t=Z
 | a::l,t,h,ht=>by
  simp only[RX,AK] at h;rcases BF.1 ht with rfl|ht
  .grind
  .exact Kw h.2 ht
def wY {t:Ty} (h:gq 0 t=Z):q0 t=true:=by
 obtain⟨k,n,i,ts⟩:=t
 grind[gq,q0]
theorem wZ {l:Ϣ} (h:RX 0 l=Z):l.all q0=true:=Cl.2 λ_ b=>wY (Kw h b)
mutual
theorem nB:∀t:Ty,gq 1 t=Z->q1 t=Z
 | .mk k n i ts,h=>by
  rw[gq] at h;rw[q1];cases b:k==3||k==4 with
  | true=>
   grind[wZ]
  | false=>
   rw[b] at h;cases d:k==6 with
   | true=>
    rw[d] at h;simp only[AQ,AL,AK] at h ⊢;exact AH1 ts h.2
   | false=>
    grind
theorem AH1:∀l:Ϣ,gqX 1 l=Z->q1X l=Z
 | [],_=>rfl
 | b::l,h=>by
  simp only[gqX,AK] at h;rw[q1X,nB b h.1,wZ h.2];rfl
end
def gq0:Lm:=Lm.up 0 200 ⟨0,0,0,0,0⟩ ⟨0,0,0,0,0⟩
def we {t:Ty} (h:q0 t=Z) (hs:AP t<=200):gq0.Of t:=by
 obtain⟨k,n,i,ts⟩:=t;rw[AP] at hs;rw[q0] at h;refine Lm.nA (λ_ _ _=>hs) (λb=>?_) (λb=>?_)
 all_goals grind
def VN:Nat->Lm
 | 0=>gq0
 | m+1=>⟨max (VN m).c (max 3 ((VN m).c+1)),max (VN m).b (1+2*(VN m).b),max (VN m).w (max 601 (200+(VN m).w)),max (VN m).n (1+(VN m).n),3⟩
theorem ju:∀(m:Nat) (t:Ty),Al t<=m->q1 t=Z->AP t<=200->(VN m).Of t:=by
 intro m
 induction m with
 | zero=>
  intro t A;obtain⟨k,n,i,ts⟩:=t
  grind[Al]
 | succ m H=>
  intro t A h o;obtain⟨k,n,i,ts⟩:=t;have W:=o;rw[AP] at o;rw[q1] at h;have z:∀t∈ts,q0 t=Z->gq0.Of t:=λt j C=>we C (by have:=FG j; omega)
  have le:∀q:Lm,q.c<=(VN (m+1)).c->q.b<=(VN (m+1)).b->q.w<=(VN (m+1)).w->q.n<=(VN (m+1)).n->q.l<=3->q.Of (.mk k n i ts)->(VN (m+1)).Of (.mk k n i ts):=
   λq I K L M N h=>⟨BC h.c I,BC h.b K,BC h.w L,BC h.n M,BC h.l N⟩
  cases B:k==3||k==4 with
  | true=>
   rw[B] at h;simp only[AQ,AK,Cu,Cl] at h;have hx:=Lm.nA (a:=3) (s:=200) (x:=gq0) (y:=⟨0,0,0,0,0⟩) (k:=k) (n:=n) (i:=i) (ts:=ts) (λ_ _ _=>o) (λ_=>⟨h.1,λt j=>z t j (h.2 t j)⟩) (λE=>by grind);have e:Lm.up 3 200 ⟨0,0,0,0,0⟩ gq0=⟨3,3,601,3,3⟩:=AX;rw[e] at hx
   have X:bw (.mk k n i ts)=0/\nb (.mk k n i ts)=0:=by
    have O:(k==6)=false:=AB
    have Q:=LH (f:=bw) (m:=0) h.1 λt j=>by
     have:=(z t j (h.2 t j));have S:=h.2 t j;obtain⟨k,n,i,ts⟩:=t
     grind[q0,bw]
    have T:=LH (f:=nb) (m:=0) h.1 λt j=>by
     have S:=h.2 t j;obtain⟨k,n,i,ts⟩:=t
     grind[q0,nb]
    grind[bw,Fp,nb,RL]
   refine⟨?_,AA,?_,AA,hx.l⟩
   .have:=hx.c
    grind[VN]
   .have:=hx.w
    grind[VN]
  | false=>
   rw[B] at h;simp only[AL] at h;cases O:k==6 with
   | false=>
    have hx:=Lm.nA (a:=0) (s:=200) (x:=⟨0,0,0,0,0⟩) (y:=⟨0,0,0,0,0⟩) (k:=k) (n:=n) (i:=i) (ts:=ts) (λ_ _ _=>o) (λE=>by grind) (λE=>by grind);simp only[HC] at B;have Q:bw (.mk k n i ts)=0:=by grind[bw]
    have T:nb (.mk k n i ts)=0:=by grind[nb]
    have e:Lm.up 0 200 ⟨0,0,0,0,0⟩ ⟨0,0,0,0,0⟩=⟨1,1,200,1,1⟩:=AX;rw[e] at hx;refine⟨?_,AA,?_,AA,BC hx.l (show(1:Nat)<=3 by decide)⟩
    .have:=hx.c
     grind[VN]
    .have:=hx.w
     grind[VN]
   | true=>
    have:k=6:=AB;subst this;simp only[CS,AQ] at h
    match ts,h,A,o,z with
    | [],_,_,_,_=>exact⟨by simp[cv,MK,ex6],by grind[bw,MK,zb],by grind[wt,MK,wx],by grind[nb,ex9],by simp[lv,lvl,ex2]⟩
    | [_],_,_,_,_=>exact⟨by simp[cv,MK,ex6],by grind[bw,MK,zb],by grind[wt,MK,wx],by simp[*,nb,ex9],by simp[lv,lvl,ex2]⟩
    | _::_::_::_,_,_,_,_=>exact⟨by simp[cv,MK,ex6],by simp[*,bw,MK,zb],by simp[*,wt,MK,wx],by simp[*,nb,ex9],by simp[lv,lvl,ex2]⟩
    | [b,d],h,A,o,z=>
     simp only[q1X,FX,AK] at h;simp only[Al,Cp] at A;simp only[Ak] at o;have hb:=H b AA h.1 AA;have C:q0 d=true:=h.2.1;have α:cv (.mk 6 n i [b,d])=cv d*(cv b+1):=rfl;have β:bw (.mk 6 n i [b,d])=bw d+1+(cv d+1)*bw b:=rfl;have e3:wt (.mk 6 n i [b,d])=wt d+max 1 (cv d)*wt b:=rfl;have e4:nb (.mk 6 n i [b,d])=1+nb d+nF d*nb b:=rfl;have e5:lv (.mk 6 n i [b,d])=lv d:=rfl;obtain⟨k,p,r,u⟩:=d;rw[q0] at C;cases D:k==3||k==4 with
     | true=>grind
     | false=>
      cases γ:k==6 with
      | true=>grind
      | false=>
       rw[AP] at o;have U:=D;simp only[HC] at D;have δ:cv (.mk k p r u)=1:=by grind[cv]
       have ε:bw (.mk k p r u)=0:=by grind[bw]
       have ζ:wt (.mk k p r u)<=200:=by grind[wt]
       have η:nb (.mk k p r u)=0:=by grind[nb]
       have θ:lv (.mk k p r u)<=1:=by grind[lv]
       have ι:nF (.mk k p r u)=1:=by grind[nF,Uv]
       have κ:=hb.c;have μ:=hb.b;have ν:=hb.w;have ξ:=hb.n;refine⟨?_,?_,?_,?_,?_⟩
       all_goals grind[VN]
def gqQ:Nat->Lm
 | 0=>gq0
 | 1=>VN 12
 | d+2=>Lm.up 3 200 (VN 12) (gqQ (d+1))
def wh:∀(d:Nat) (t:Ty),gq d t=Z->AP t<=200->Al t<=12->(gqQ d).Of t
 | 0,t,h,e,_=>we (wY h) e
 | 1,t,h,e,f=>ju 12 t f (nB t h) e
 | d+2,.mk k n i ts,h,e,f=>by
  rw[AP] at e;rw[Al] at f;rw[gq] at h;have r:∀t∈ts,gq (d+1) t=Z->(gqQ (d+1)).Of t:=λt j m=>wh (d+1) t m (by have:=FG j; omega) (by have:=Et j; omega)
  refine Lm.nA (λ_ _ _=>e) (λo=>?_) (λo b p s=>?_)
  all_goals grind[Kw,gqX,Ak,Cp,ju,nB]
section
variable {R:Nat->Option Ϧ}
def AAg (a:Int) {b:Int} (hb:0<b):-b<a.tmod b:=by
 by_cases d:0<=a
 .have:=Int.tmod_nonneg b d
  omega
 .have e:(-a).tmod b<b:=Int.tmod_lt_of_pos _ hb
  have f:=Int.neg_tmod a b;omega
def QY (a b:Int) (hb:0<b) (d:b<2 ^ 62):Ah (env R) 13 [AG a,AG b] λv=>∃r,v=AG r/\0<=r/\r<b:=by
 refine e13 rfl (AO4 ?_);have e:=Int.tmod_lt_of_pos a hb;have f:=AAg a hb;simp only[Dh,EK];refine⟨⟨Ay,Ay⟩,AA,⟨Ay,Ay⟩,λh=>?_,λh=>?_⟩
 .simp at h
  refine⟨⟨Ay,Ay⟩,Ci AA AA (ADX ?_)⟩;exact⟨_,GG,_,rfl,AA,AA⟩
 .simp at h
  refine ADX ?_;exact⟨_,GG,_,rfl,AA,AA⟩
def VO {bs:Ϩ} {id:Nat} {l:Src} {k:Nat} {ts:Ϫ} (h:id<F bs) (m:Ϩ):alive ⟨ST bs id l k++m,ts⟩ id=true:=by grind[alive,RY,PE]
theorem wj {bs:Ϩ} {id:Nat} {l:Src} (b:OM bs id l) {m:Ϩ} (hm:LI bs m) (k:Nat) {n:Nat} (hn:n=F bs+F m):(((ST bs id l k++m).take n).all (Ap n))=true:=by
 rw[CC (by grind[GZ]),hn];exact b.all hm k
theorem ADY {rr:Bool} {N:Nat} {bs:Ϩ} {id:Nat} {l:Src} (b:OM bs id l) {m:Ϩ} (hm:LI bs m) {k:Nat} {ts:Ϫ} {Post:Ϡ} {p:PV} (d:N=F bs+F m)
  (h:Post (.pv p) ⟨ST bs id l k++m,ts⟩):QM rr N Post (.pv p) ⟨ST bs id l k++m,ts⟩:=by grind[ABw,wj,GZ]
def PG {bs:Ϩ} {id:Nat} {l:Src} (j:OM bs id l) {m:Ϩ} (hm:LI bs m) {k:Nat} (A:k<=l.length) {n:Int} (hn:0<n) (s:n<2 ^ 62) (L:Ba) (t:L.ro<=id) (ts:Ϫ) :
  ∃v o,(∃r k',v=AG r/\0<=r/\r<n/\k<=k'/\k'<=l.length/\(r≠0->k<k')/\o=⟨ST bs id l k'++m,ts⟩)/\Bk (env R) L 54 [.ptr id 0,AG n] ⟨ST bs id l k++m,ts⟩ v o:=by
 have z:=j.len;have b:=j.lt
 suffices H:∀(p:Bool) (N:Nat) (d:Ϡ),N=F bs+F m->(∀r k',0<=r->r<n->k<=k'->k'<=l.length->(r≠0->k<k')->d (AG r) ⟨ST bs id l k'++m,ts⟩)->ADZ R 0 L.ro L.rt (.ptr id 0) (AG n) ⟨ST bs id l k++m,ts⟩ (QM p N d) from
  m54 AX (H _ _ _ (by simp[GZ]) λr k' f i u x y=>⟨r,k',rfl,f,i,u,x,y,rfl⟩)
 intro p N d B C;refine AO5 ?_
 by_cases h:k=l.length
 .have f:((k:Int)>=l.length):=by omega
  simp[RY b,PE,l.AO6,l.ag,h]
  grind[ADY]
 .have f:¬ ((l.length:Int)<=k):=by omega
  simp[RY b,PE,l.AO6,l.ag];refine⟨λi=>absurd i AA,λ_=>?_⟩;refine AO7 ?_;have⟨a,D⟩:∃a,l.ints[k]?=Y a:=⟨_,Az Bp⟩;simp only[Iv,VO b,Ex,EX,wO,RY b,Dh];refine⟨Ay,Ay,?_⟩;simp only[PE,Dd,wO,Ia,JS,CY];refine⟨⟨Ay,Ay⟩,Ci AA AA ?_⟩;simp only[Iv,VO b,Ex,Hw,wO,RY b,Co,fY];refine⟨Ay,Ay,⟨AD,by simp[PE],t,AX,.inl AA,AA⟩,?_⟩
  have e:(ST bs id l k++m).set id (setCells (PE l k) (0+1) [AG (k+1)])=ST bs id l (k+1)++m:=by
   have:setCells (PE l k) (0+1) [AG (k+1)]=PE l (k+1):=AX
   grind[AH2]
  simp only[e,Iv,VO b,Ex,EX,wO,RY b];refine⟨Ay,Ay,?_⟩;simp only[PE,Dd,wO,Ia,JS,CY];refine⟨Ay,Ay,⟨Ay,Ay⟩,Ci AA AA ?_⟩;refine Bc l.rows (row:=[.sc (.int .i64 a)]) AA ?_ rfl AA ?_
  .simp[*,Ai]
  simp only[EX,Dd,wO,CH,DC,JS];refine AI (QY a n hn s) ?_
  grind[ADY]
def HX {bs:Ϩ} {id:Nat} {l:Src} (f:OM bs id l) {m:Ϩ} (hm:LI bs m) {k:Nat} (i:k<=l.length) {n:Int} (hn:0<n) (d:n<2 ^ 62) (L:Ba) (e:L.ro<=id) (ts:Ϫ) :
  ∃v b,(∃r k',v=AG r/\0<=r/\r<n/\k<=k'/\k'<=l.length/\b=⟨ST bs id l k'++m,ts⟩)/\Bk (env R) L 54 [.ptr id 0,AG n] ⟨ST bs id l k++m,ts⟩ v b:=by
 have⟨v,b,⟨r,k',j,o,p,s,t,_,u⟩,x⟩:=PG (R:=R) f hm i hn d L e ts;exact⟨v,b,⟨r,k',j,o,p,s,t,u⟩,x⟩
def eE (l:Ϛ) (L:Ba) (s:AY):∃v b,(v=.ptr (F s.bs) 0/\b=⟨s.bs++[PE (.of l) 0],s.ts⟩)/\Bk (env R) L 11 [.pv (.list (Ai l))] s v b:=by
 refine m11 (AO8 ?_);simp[PE,Src.of]
end
section
variable {bs:Ϩ} {id:Nat} {l:Src}
def Ek (k:Nat) (m r:Ϩ) (j:Nat):(ST bs id l k++(m++r))[F bs+F m+j]?=r[j]?:=by grind[GZ]
def KP (k:Nat) (m r:Ϩ):(ST bs id l k++(m++r))[F bs+F m]?=r[0]?:=Ek k m r 0
def Im (k:Nat) (m r:Ϩ) (j:Nat) (v:Ϭ):(ST bs id l k++(m++r)).set (F bs+F m+j) v=ST bs id l k++(m++r.set j v):=by grind[GZ]
def KQ (k:Nat) (m r:Ϩ) (v:Ϭ):(ST bs id l k++(m++r)).set (F bs+F m) v=ST bs id l k++(m++r.set 0 v):=Im k m r 0 v
def Ju {m:Ϩ} (hm:LI bs m) {r:Ϩ} (d:∀b∈r,Ap (F bs+F m+F r) b=Z):LI bs (m++r):=by
 intro b hb;rcases CU.1 hb with h|h
 .exact BV AD b (hm b h)
 grind
variable {R:Nat->Option Ϧ}
def jv {l:List Ϝ}:FE l=[.list (FB l)]:=rfl
def QZ {g:Nat} {T:List Ϝ} (b:(env R).G g=Y (FE T)) {s:AY} {K:AV->Prop} (h:K (.pv (.list (FB T)))):EX (env R) s G (.EF g 0) K:=by
 simp[EX,b,wO,Dd,jv];exact h
def VQ:∀l:List Ϝ,JI (FB l) (FB l)=Z
 | []=>by rfl
 | s::l=>by
  have:=VQ l
  grind[FB,JI,Mu,OH,Ie]
def wk {L:Ba} {s:AY} {k:Nat} {a x:AV} {K b:AY->Prop} (d:∀s,K s->b s) (h:Hw L s k a x K):Hw L s k a x b:=by
 unfold Hw at h ⊢
 grind
def Zx {L:Ba} {s:AY} {k:Nat} {a x:AV} {K:AY->Prop} {C:Prop} (b:C) (h:Hw L s k a x K):Hw L s k a x λs=>C/\K s:=wk (λ_ h=>⟨b,h⟩) h
def jw {s:AY} {w:Ϝ} {K:AV->Prop} (h:K (SS w)):EX (env R) s G (.DF [.sc (.string ⟨w.toArray⟩)] 0) K:=by simp[*]
def Zy {T:List Ϝ} {r:Int} {w:Ϝ} (b:0<=r) (d:T[r.toNat]?=Y w) {s:AY} {K:AV->Prop} (h:K (.DF [.sc (.string ⟨w.toArray⟩)] 0)):OK s 1 (.pv (.list (FB T))) (AG r) K:=
 BL (.list _) (row:=[.sc (.string ⟨w.toArray⟩)]) b (by grind[FB]) rfl AA h
def SL (T:List Ϝ):D9 (.pv (.list (FB T))) (.pv (.list (FB T)))=true:=by simp[D9,OH,VQ]
end
def Short (T:List Ϝ):Prop:=(∀s∈T,F s<2 ^ 60)/\0<F T/\F T<2 ^ 60
def RZ (B:Nat) (t:Ty):Prop:=ZQ t/\AP t<=B
theorem RZ.mono {B C:Nat} {t:Ty} (h:RZ B t) (b:B<=C):RZ C t:=⟨h.1,BC h.2 b⟩
def RZ.leaf {B:Nat} {k i:Int} {n:Ϝ} (hn:F n<2 ^ 60) (b:0<B):RZ B (.mk k n i []):=by
 refine⟨?_,?_⟩
 .simp[*,ZQ,SV]
 assumption
def Jl (B:Nat) (l:Ϣ):Prop:=SV l/\Ak l<=B
def Jl.nil {B:Nat}:Jl B []:=by simp[Jl,SV,Ak]
theorem Jl.cons {B C D:Nat} {t:Ty} {l:Ϣ} (h:RZ B t) (b:Jl C l) (f:B+C<=D):Jl D (t::l):=by
 obtain⟨d,i⟩:=h;obtain⟨e,j⟩:=b;refine⟨⟨d,e⟩,?_⟩
 grind[Ak]
def Jl.snoc:∀{l:Ϣ} {B C D:Nat} {t:Ty},Jl C l->RZ B t->B+C<=D->Jl D (l++[t])
 | [],B,C,D,t,_,h,d=>Jl.cons h Jl.nil (C:=0) AA
 | u::l,B,C,D,t,e,h,d=>by
  obtain⟨b,f⟩:=e;simp only[SV] at b;simp only[Ak] at f;have:=Jl.snoc (C:=Ak l) (D:=B+Ak l) ⟨b.2,AU _⟩ h (AU _);exact Jl.cons (B:=AP u) ⟨b.1,AU _⟩ this AA
def RZ.node {B:Nat} {k i:Int} {n:Ϝ} {l:Ϣ} (hn:F n<2 ^ 60) (h:Jl B l):RZ (B+1) (.mk k n i l):=by
 obtain⟨b,d⟩:=h;refine⟨?_,?_⟩
 all_goals simp[*,ZQ,AP]
theorem AAh.D9 {lo:Nat} {ts:Ϫ} {k:Nat} {a:AV} {es:Ϣ} (h:D1 lo ts k a (Aj es)):Tel.D9 a a=true:=by
 rcases h with rfl|⟨t,rfl,_⟩
 all_goals simp[*,Tel.D9,Dm]
def VR {l:Ϣ}:∀r∈Aj l,F r=4:=λ_ h=>HV h
abbrev T0 (k:Int) (n:Ϝ) (i:Int):AV:=.agg [AG k,SS n,AG i,.AE []]
section
variable {bs:Ϩ} {id:Nat} {l:Src}
theorem AO9 {rr:Bool} {N:Nat} (d:OM bs id l) {m r:Ϩ} (hm:LI bs m) {k:Nat} {ts:Ϫ} {Post:Ϡ} (f:N=F bs+F m) {c i:Int} {n:Ϝ} {es:Ϣ} {a:AV} (j:BN a (Aj es))
  (h:∀x,BX (.mk c n i es) x->Post x ⟨ST bs id l k++m,ts⟩):QM rr N Post (.agg [AG c,SS n,AG i,a]) ⟨ST bs id l k++(m++r),ts⟩:=by
 subst f;have e:(ST bs id l k++(m++r)).take (F bs+F m)=ST bs id l k++m:=by grind[GZ]
 have⟨b,o,p⟩:=j.close (ST bs id l k++(m++r)) (F bs+F m) (F ts);refine Zf (ds:=[AG c,SS n,AG i,b]) ?_ (by simp[o]) ?_
 .simp only[e]
  exact d.all hm k
 .simp only[e]
  exact h _ ⟨b,rfl,p⟩
variable {R:Nat->Option Ϧ}
def Zz (y:OM bs id l) {m r:Ϩ} (hm:LI bs m) {k:Nat} {ts:Ϫ} {Post:Ϡ} {rr:Bool} {N:Nat} {L':Ba} {Mj:Ϭ} (z:F Mj=4) (C:N=F bs+F m) (A:L'.ro<=id) (u:L'.n0=0) {c i:Int} {n:Ϝ} {es:Ϣ} {a:AV} (f:BN a (Aj es))
  (h:∀x,BX (.mk c n i es) x->Post x ⟨ST bs id l k++m,ts⟩) :
  Hw L' ⟨ST bs id l k++(m++Mj::r),ts⟩ 4 (.ptr (F bs+F m) 0) (.agg [AG c,SS n,AG i,a]) λj=>EX (env R) j (Y 4) (.ptr (F bs+F m) 0) λr=>QM rr N Post r j:=by
 have B:=y.lt
 obtain⟨o,p,s,t,rfl⟩:∃o p s t,Mj=[o,p,s,t]:=by
  rcases Mj with _|⟨a,_|⟨b,_|⟨c,_|⟨d,_|⟨e,l⟩⟩⟩⟩⟩ <;> simp at z
  exact⟨_,_,_,_,rfl⟩
 simp[KP,KQ,show L'.ro<=F bs+F m by omega,u,f.ok,f.Jw]
 grind[AO9]
def VS (f:OM bs id l) {m r:Ϩ} (hm:LI bs m) {k:Nat} {ts:Ϫ} {Post:Ϡ} {rr:Bool} {N:Nat} {L':Ba} {Mj:Ϭ} (j:F Mj=4) (o:N=F bs+F m) (d:L'.ro<=id) (e:L'.n0=0) {t:Ty} {v:AV} (p:BX t v)
  (h:∀x,BX t x->Post x ⟨ST bs id l k++m,ts⟩) :
  Hw L' ⟨ST bs id l k++(m++Mj::r),ts⟩ 4 (.ptr (F bs+F m) 0) v λb=>EX (env R) b (Y 4) (.ptr (F bs+F m) 0) λr=>QM rr N Post r b:=by
 obtain⟨c,n,i,u⟩:=t;obtain⟨a,rfl,s⟩:=p;exact Zz f hm j o d e s h
def Ky {n:Ϝ} {a:AV} {rows:Ϯ} (b:A3 a rows):Ah (env R) 26 [SS n,a] λr=>r=.agg [AG 2,SS n,AG 0,a]:=by
 refine e26 (u0:=SS n) (u1:=a) (by simp[b.close]) (APA ?_);simp[QP,QI,b.ok,b.cells,b.close]
def eF {a:AV} {rows:Ϯ} (b:A3 a rows):Ah (env R) 20 [a] λr=>r=.agg [AG 4,SS [],AG 0,a]:=by
 refine e20 (u0:=a) (by simp[b.close]) (APB ?_);simp[QP,QI,b.ok,b.cells,b.close]
end
def Z0 (r:Ϧ):Prop:=∃(name:Ϝ) (n:Nat) (b:Ϧ),r=.sc (.string ⟨name.toArray⟩)::.sc (.int .i64 n)::b/\F b=6/\n<=2/\F name<2 ^ 50/\(r.map AV.pv).all BS=Z
structure Decls (v:AV) (rows:Ϯ):Prop where
 rep:BN v rows
 row:∀r∈rows,Z0 r
 len:F rows<100
section
variable {bs:Ϩ} {id:Nat} {l:Src} {R:Nat->Option Ϧ}
def VT (R:Nat->Option Ϧ) (bs:Ϩ) (id:Nat) (l:Src) (j:AV) (f:FuncId) (d:Int) (FU:Nat) (μ:Nat) (P:Nat->Ty->Prop):Prop:=∀{m:Ϩ},LI bs m->∀{k:Nat},k<=l.length->∀(e:Nat),(e:Int)+d<=90->(l.length-k)*100+FU<μ->∀(L:Ba),L.ro<=id->∀(ts:Ϫ),L.rt<=F ts ->
  ∃v i,(∃t b x,BX t v/\P (8*(b-k)+1) t/\k<=b/\b<=l.length/\i=⟨ST bs id l b++m,ts++x⟩)/\Bk (env R) L f [.ptr id 0,j,AG d,AG e] ⟨ST bs id l k++m,ts⟩ v i
def vl (t:Ty):Bool:=N4 t&&zj t
def wm (l:Ϣ):Bool:=RG l&&WR l
def wo {k i:Int} {n:Ϝ} {ts:Ϣ} (b:(k==5)=ϴ) (d:F ts<2 ^ 38) (h:wm ts=Z):vl (.mk k n i ts)=true:=by grind[wm,vl,N4,zj]
def nC {k i:Int} {n:Ϝ} (b:-(2 ^ 60)<=i/\i<2 ^ 60):vl (.mk k n i [])=true:=by grind[vl,N4,RG,zj,WR]
def Ls {t:Ty} {l:Ϣ}:wm (t::l)=(vl t&&wm l):=by grind[wm,vl,RG,WR]
def wq:∀{l:Ϣ},(∀t∈l,vl t=Z)->wm l=Z
 | [],_=>rfl
 | t::l,h=>by rw[Ls,h t AD,wq λu b=>h u AB]; rfl
def nD:∀l m:Ϣ,wm (l++m)=(wm l&&wm m)
 | [],m=>by rfl
 | t::l,m=>by rw[DV,Ls,Ls,nD l m,Lz]
def MX (d B:Nat) (t:Ty):Prop:=RZ B t/\gq d t=Z/\vl t=Z
def Z1 (d B:Nat) (l:Ϣ):Prop:=Jl B l/\RX d l=Z/\wm l=Z
def nE (d B:Nat) (t:Ty):Prop:=RZ B t/\(nz d t=Z/\vl t=Z)/\∃n i b,t=.mk 2 n i b
def nE.of {d B:Nat} {n:Ϝ} {i:Int} {es:Ϣ} (h:RZ B (.mk 2 n i es)) (b:nz d (.mk 2 n i es)=Z) (e:F es<2 ^ 38) (f:wm es=Z):nE d B (.mk 2 n i es):=⟨h,⟨b,wo rfl e f⟩,_,_,_,rfl⟩
def nE.g {d B:Nat} {t:Ty} (h:nE d B t):MX d B t:=by
 obtain⟨b,e,n,i,f,rfl⟩:=h;exact⟨b,e⟩
def AOk (e:Int) (t:Ty):Prop:=(e<=0->AP t<=1/\Al t<=1)/\(e<=1->AP t<=3/\Al t<=2)/\(e<=2->q1 t=Z)
def qs (e:Int) (B:Nat) (t:Ty):Prop:=RZ B t/\AOk e t/\vl t=Z
def qs.leaf {e:Int} {B:Nat} {k i:Int} {n:Ϝ} (hn:F n<2 ^ 60) (b:0<B) (d:-(2 ^ 60)<=i/\i<2 ^ 60):qs e B (.mk k n i []):=⟨RZ.leaf hn b,by grind[AOk,AP,Ak,Al,Cp,Zw],nC d⟩
def wu {t:Ty} (h:gq 0 t=Z):AP t<=3/\Al t<=2:=by
 obtain⟨k,n,i,ts⟩:=t
 grind[gq,nz,nzS,AP,Ak,Al,Cp]
def nE.a {d B C:Nat} {t:Ty} (h:nE d B t) (b:¬ (d:Int)<=0) (e:B<=C):qs d C t:=by
 refine⟨h.1.mono e,⟨λh=>absurd h b,λf=>?_,λ_=>?_⟩,h.2.1.2⟩
 .have:d=1:=by omega
  subst this;have:=h.2.1.1
  grind[nz,nzS]
 .obtain⟨n,i,j,rfl⟩:=h.2.2
  rfl
def MX.a {d B C:Nat} {t:Ty} (h:MX (d-1) B t) (e:¬ (d:Int)<=0) (f:B<=C):qs d C t:=by
 refine⟨h.1.mono f,⟨λh=>absurd h e,λb=>?_,λm=>?_⟩,h.2.2⟩
 .have:d=1:=by omega
  subst this;exact wu h.2.1
 .have j:=h.2.1
  by_cases b:d=1
  .subst b
   obtain⟨k,n,i,ts⟩:=t;have:=wY j
   grind[q0,q1]
  grind[nB]
def AAi {d:Nat} {n:Ϝ} {i:Int} {es:Ϣ} (r:F es<=2) (h:∀t∈es,AOk ((d:Int)-1) t):nz d (.mk 2 n i es)=true:=by
 have e:∀(m q:Nat) (l:Ϣ),(∀t∈l,AP t<=m/\Al t<=q)->Ak l<=l.length*m/\Cp l<=q:=by
  intro m q l
  induction l with
  | nil=>simp[Ak,Cp]
  | cons a l f=>
   intro h;have j:=h a AD;have k:=f λt b=>h t AB
   grind[Ak,Cp,Nat.add_mul]
 have o:(!decide (d<=3)||qA (.mk 2 n i es))=true:=by
  by_cases s:d<=3
  .have:qA (.mk 2 n i es)=true:=Cl.2 λt b=>(h t b).2.2 AA
   grind
  grind
 rw[nz,o,Hj]
 by_cases j:d<=1
 .have⟨q1,p⟩:=e 1 1 es λt b=>(h t b).1 AA
  grind[X6,AP,Al]
 .by_cases k:d=2
  .have⟨q1,p⟩:=e 3 2 es λt b=>(h t b).2.1 AA
   grind[nzS,AP,Al]
  grind[nzS]
theorem MX.mono {d B C:Nat} {t:Ty} (h:MX d B t) (b:B<=C):MX d C t:=⟨h.1.mono b,h.2⟩
def MX.leaf {d B:Nat} {k i:Int} {n:Ϝ} (f:(k==3||k==4)=ϴ) (j:(k==6)=ϴ) (hn:F n<2 ^ 60) (b:0<B) (e:-(2 ^ 60)<=i/\i<2 ^ 60):MX d B (.mk k n i []):=⟨RZ.leaf hn b,by grind[gq,VM,AP,Ak,Al,Cp],nC e⟩
def Z1.nil {d B:Nat}:Z1 d B []:=⟨Jl.nil,by rw[RX],rfl⟩
def nG (d:Nat):∀l m:Ϣ,RX d (l++m)=(RX d l&&RX d m)
 | [],m=>by rw[Ct,RX,Cm]
 | t::l,m=>by rw[DV,RX,RX,nG d l m,Lz]
def Z1.snoc {l:Ϣ} {d B C D:Nat} {t:Ty} (h:Z1 d C l) (b:MX d B t) (e:B+C<=D):Z1 d D (l++[t]):=⟨h.1.snoc b.1 e,by rw[nG,h.2.1,RX,b.2.1,RX]; rfl,by rw[nD,h.2.2,Ls,b.2.2]; rfl⟩
def RZ.pair {B C D:Nat} {k:Int} {t u:Ty} (h:RZ B t) (b:RZ C u) (d:B+C+1<=D):RZ D (.mk k [] 0 [t,u]):=
 (RZ.node (B:=B+C) AD (Jl.cons h (Jl.cons b Jl.nil (C:=0) (AU _)) (AU _))).mono d
def nH {k:Int} {t u:Ty} (b:(k==5)=ϴ) (h:vl t=Z) (d:vl u=Z):vl (.mk k [] 0 [t,u])=true:=
 wo b AD (by rw[Ls,Ls,h,d]; rfl)
def MX.ex {d B C D:Nat} {t u:Ty} (e:0<d) (h:MX 1 B t) (b:MX (d-1) C u) (f:B+C+1<=D):MX d D (.mk 6 [] 0 [t,u]):=by
 refine⟨RZ.pair h.1 b.1 f,?_,nH rfl h.2.2 b.2.2⟩;rw[gq,gqX,RX,RX,h.2.1,b.2.1,Ax e];rfl
def MX.un {d B C D:Nat} {t u:Ty} (e:0<d) (h:MX (d-1) B t) (b:MX (d-1) C u) (f:B+C+1<=D):MX d D (.mk 4 [] 0 [t,u]):=by
 refine⟨RZ.pair h.1 b.1 f,?_,nH rfl h.2.2 b.2.2⟩;rw[gq,RX,RX,RX,h.2.1,b.2.1,Ax e];rfl
def MX.tup {d B:Nat} {es:Ϣ} (b:0<d) (e:F es<=3) (h:Z1 (d-1) B es):MX d (B+1) (.mk 3 [] 0 es):=by
 refine⟨RZ.node AD h.1,?_,?_⟩
 .rw[gq,h.2.1,Ax b,Ax e]
  rfl
 .exact wo rfl AA h.2.2
def Z2 {m:Ϩ} (hm:LI bs m):LI bs (m++[Z4]):=Ju hm (by simp[Ap,A6])
def w6 {d:AV} {rows:Ϯ} (e:Decls d rows) {r:Int} (i:0<=r) (j:r<F rows):∃row,rows[r.toNat]?=Y row/\Z0 row/\F row=8:=by
 have⟨row,b⟩:∃row,rows[r.toNat]?=Y row:=⟨_,Az AA⟩;have h:=e.row row (A8 b);refine⟨row,b,h,?_⟩;obtain⟨name,n,f,rfl,k,_⟩:=h
 grind
def Ra {W:List Ϝ} (e:(env R).G 1=Y (FE W)) (f:F W=4) (d:Short W) {r:Int} (i:0<=r) (j:r<4):∃w,W[r.toNat]?=Y w/\F w<2 ^ 60:=by
 have⟨w,b⟩:∃w,W[r.toNat]?=Y w:=⟨_,Az AA⟩;exact⟨w,b,d.1 w (A8 b)⟩
def jx (E:OM bs id l) {W:List Ϝ} (ψ:(env R).G 1=Y (FE W)) (κ:F W=4) (sW:Short W) {C:AV} {rows:Ϯ} (T:Decls C rows) (μ:Nat)
  (a6:∀e:Int,-1<=e->e<=20->VT R bs id l C 115 e (3*(e+1).toNat) μ (qs e)) (d:Nat) (hd:d<=20):VT R bs id l C 83 d (3*d+1) (μ+1) (nE d):=by
 intro m hm k hk γ hvars hμ L ζ ts a7;have hlen:=E.len;have hlt:=E.lt
 suffices H:∀(I:Bool) (N:Nat) (B:Ϡ),N=F bs+F m->(∀t v D x,BX t v->nE d (8*(D-k)+1) t->k<=D->D<=l.length->B v ⟨ST bs id l D++m,ts++x⟩)->ADa R 0 L.ro L.rt (.ptr id 0) C (AG d) (AG γ) ⟨ST bs id l k++m,ts⟩ (QM I N B) from
  m83 AX (H _ _ _ (by simp[GZ]) λt v D x M h2 h3 κ=>⟨t,D,x,M,h2,h3,κ,rfl⟩)
 intro I N B ω Γ;have hrl:=T.len;have g1:∀n,L.ro<=F bs+F m+n:=λn=>by omega
 refine APC ?_;simp only[Hr,EG,B6,GZ]
 have a1:∀(s:AY) (K:AV->Prop),K (AG (F rows))->Gl s C K:=by
  intro s K h;simp only[Gl,T.rep.BG,wO];exact h
 refine a1 _ _ (Bb AA AA ?_);refine Cr (PG (n:=(F rows:Int)+4) E (Z2 hm) hk AA AA _ (by simp[*]) ts) ?_;rintro v s1 ⟨r,k1,rfl,σ,hr2,a8,τ,a9,rfl⟩;refine Ao ?_
 by_cases ν:r<4
 .have ξ:decide (r<4)=true:=by grind
  rw[ξ];have⟨w,hw,b0⟩:=Ra ψ κ sW σ ν;refine BH (QZ ψ (Zy σ hw (jw ?_)));refine AI (Ky (.AE [])) ?_;rintro v rfl
  exact Zz (R:=R) (Post:=B) (rr:=I) (N:=N) (k:=k1) (ts:=ts) (Mj:=Z4) (r:=[]) (es:=[]) (a:=.AE []) (c:=2) (i:=0) (n:=w) (L':=Co (env R) 83 0 L.ro L.rt) E hm rfl ω ζ rfl (by simp[Aj]; exact .inl (.AE _)) (λx hx=>by
   have:=Γ _ x k1 [] hx (nE.of (RZ.leaf b0 AA) (VM (by simp[AP,Ak]) (by simp[Al,Cp])) AD rfl) a8 τ
   grind)
 .have ξ:decide (r<4)=false:=by grind
  rw[ξ];have hkk:k<k1:=a9 AA;obtain⟨row,Q,⟨name,u,z,rfl,h6,har,hnl,υ⟩,ο⟩:=w6 T (r:=r-4) AA AA;refine A4 (APD (FL AA AA ?_));refine Bc T.rep (row:=.sc (.string ⟨name.toArray⟩)::.sc (.int .i64 u)::z) AA Q ο AA ?_;have ρ:∀(s:AY) (K:AV->Prop),K (.agg ((.sc (.string ⟨name.toArray⟩)::.sc (.int .i64 u)::z).map AV.pv))->EX (env R) s (Y 8) (.DF (.sc (.string ⟨name.toArray⟩)::.sc (.int .i64 u)::z) 0) K:=by simp[*,CC]
  refine ρ _ _ ?_;simp only[Hr];have eA:∀(k:Nat) (b:Ϭ) (t:Ϫ),(⟨(ST bs id l k++(m++[Z4]))++[b],t⟩:AY)=⟨ST bs id l k++(m++[Z4,b]),t⟩:=λk b t=>by simp
  have eL:F (ST bs id l k1++(m++[Z4]))=F bs+F m+1:=by simp[GZ]; omega
  simp only[eL,eA]
  have ς:∀K:AY->Prop,K ⟨ST bs id l k1++(m++[Z4,(PV.sc (.string ⟨name.toArray⟩)::.sc (.int .i64 u)::z).map AV.pv]),ts⟩->Hw (Co (env R) 83 0 L.ro L.rt) ⟨ST bs id l k1++(m++[Z4,[(SS []),(AG 0),(AG 0),(SS []),(AG 0),(.AE []),(BB ϴ),(.AE [])]]),ts⟩ 8 (.ptr (F bs+F m+1) 0) (.agg ((PV.sc (.string ⟨name.toArray⟩)::.sc (.int .i64 u)::z).map AV.pv)) K:=by
   intro K h;have b1:cellsOf (.agg ((PV.sc (.string ⟨name.toArray⟩)::.sc (.int .i64 u)::z).map AV.pv))=(PV.sc (.string ⟨name.toArray⟩)::.sc (.int .i64 u)::z).map AV.pv:=rfl;simp only[Hw,Ek,Ia,JS,wO,b1,Bj];refine⟨⟨ο,by simp[*],by simp[*],υ,.inl AD,AA⟩,?_⟩;rw[Im]
   obtain⟨Δ,Θ,U,Λ,Ξ,Φ,rfl⟩:∃Δ Θ U Λ Ξ Φ,z=[Δ,Θ,U,Λ,Ξ,Φ]:=by
    rcases z with _|⟨a,_|⟨b,_|⟨c,_|⟨d,_|⟨e,_|⟨f,_|⟨g,r⟩⟩⟩⟩⟩⟩⟩ <;> simp at h6
    simp
   simp_all
  refine ς _ ?_;generalize S:(PV.sc (.string ⟨name.toArray⟩)::.sc (.int .i64 u)::z).map AV.pv=o;have a2:o[0]?=Y (SS name):=by rw[<-S]; rfl
  have δ:o[1]?=Y (AG u):=by rw[<-S]; rfl
  have hDBi:∀n,Ap n o=true:=by
   intro n;rw[<-S];clear S ρ ς υ ο Q a2 δ;generalize (PV.sc (.string ⟨name.toArray⟩)::.sc (.int .i64 u)::z)=Ψ
   induction Ψ with
   | nil=>rfl
   | cons p Ψ ih=>assumption
  have hDBn:o≠[]:=by intro e; simp_all
  have φ:∀(k:Nat) (b:Ϭ) (t:Ϫ),alive ⟨ST bs id l k++(m++Z4::o::[b]),t⟩ (F bs+F m+1)=true:=by
   intro k b t
   obtain⟨c,r,hc⟩:∃c r,o=c::r:=by
    cases o with
    | nil=>grind
    | cons c r=>simp
   simp[*,Ek]
  have a3:∀(K:AV->Prop),K (.ptr (F bs+F m+1) 0)->Ex ⟨ST bs id l k1++(m++[Z4,o]),ts⟩ (.ptr (F bs+F m+1) 0) 0 K:=by simp_all[Ek]
  have b2:∀(K:AV->Prop),K (SS name)->EX (env R) ⟨ST bs id l k1++(m++[Z4,o]),ts⟩ G (.ptr (F bs+F m+1) 0) K:=by simp[*,Ek]
  refine a3 _ (b2 _ ?_);refine FV (cs:=[AG 2,SS name,AG 0,.AE []]) AD ?_;have b3:∀(k:Nat) (b:Ϭ) (t:Ϫ),(⟨(ST bs id l k++(m++[Z4,o]))++[b],t⟩:AY)=⟨ST bs id l k++(m++[Z4,o,b]),t⟩:=λk b t=>by simp
  have b5:F (ST bs id l k1++(m++[Z4,o]))=F bs+F m+2:=by simp[GZ]; omega
  simp only[b5,b3];have a4:∀K:AY->Prop,K ⟨ST bs id l k1++(m++[Z4,o,[AG 2,SS name,AG 0,.AE []]]),ts⟩->Hw (Co (env R) 83 0 L.ro L.rt) ⟨ST bs id l k1++(m++[Z4,o,Z4]),ts⟩ 4 (.ptr (F bs+F m+2) 0) (.agg [AG 2,SS name,AG 0,.AE []]) K:=by simp[*,Ek,Im]
  refine a4 _ ?_
  have loop:∀(j q k2:Nat) (x:Ϫ) (a:AV) (A:Ϣ),q+j=u->k1<=k2->k2<=l.length->F A=q->(∀t∈A,AOk ((d:Int)-1) t/\vl t=Z)->Jl (8*(k2-k1)+q) A->D1 (F ts) (ts++x) 25 a (Aj A) ->
    ADb R 0 L.ro L.rt (.ptr id 0) C (AG d) (AG γ) (.ptr (F bs+F m) 0) (.ptr (F bs+F m+1) 0) (.ptr (F bs+F m+2) 0) (AG q) ⟨ST bs id l k2++(m++[Z4,o,[AG 2,SS name,AG 0,a]]),ts++x⟩ (QM I N B):=by
   intro j
   induction j with
   | zero=>
    intro q k2 x a A hq a5 ε b6 η θ O;have π:=O.BA;refine ADc ⟨φ _ _ _,?_⟩;simp only[EX,Ek,Ia,JS,wO,Dd,CY,δ];refine Ao ?_;have M:¬ ((q:Int)<u):=AA;simp only[M,Ym];refine A4 (APE ?_);have:=Zz (R:=R) (Post:=B) (rr:=I) (N:=N) (k:=k2) (ts:=ts++x) (Mj:=Z4) (r:=[o,[AG 2,SS name,AG 0,a]]) (L':=Co (env R) 83 0 L.ro L.rt) E hm rfl ω ζ rfl π (c:=2) (i:=0) (n:=name) (λy hy=>Γ _ y k2 x hy (nE.of ((RZ.node AA θ).mono AA) (AAi AA λt ht=>(η t ht).1) AA (wq λt ht=>(η t ht).2)) AA ε);simpa[EX,wO,Dd,Ek] using this
   | succ j b7=>
    intro q k2 x a A hq a5 ε b6 η θ O;have π:=O.BA;refine ADc ⟨φ _ _ _,?_⟩;simp only[EX,Ek,Ia,JS,wO,Dd,CY,δ];refine Ao ?_;have M:((q:Int)<u):=AA;simp only[M,decide_true];refine BH (APF ?_)
    have b8:LI bs (m++[Z4,o,[AG 2,SS name,AG 0,a]]):=Ju hm (by
     intro b hb;simp only[BF,ER,ES] at hb;rcases hb with rfl|rfl|rfl
     .rfl
     .simp[*]
     .simp[Ap,A6,π.A6])
    simp[Ek,KP,Im,KQ];refine Ci AA AA ?_;refine Cr (a6 ((d:Int)-1) AA AA b8 ε γ AA AA (Co (env R) 83 0 L.ro L.rt) ζ (ts++x) (by simp[Co]; omega)) ?_;rintro v s1 ⟨t,k3,U,hv,χ,hk4,b9,rfl⟩;obtain⟨X,α,β,nI⟩:=t;obtain⟨b,rfl,hb⟩:=hv;simp[HJ,GC,hb.ok,hb.KX,Ek,KP,Im,KQ];have Q:CZ 4 1 [PV.sc (.int .i64 X),.sc (.string ⟨α.toArray⟩),.sc (.int .i64 β),.list (Aj nI)]=[Av (.mk X α β nI)]:=AX;rw[Q]
    have ha2:D1 (F ts) (ts++(x++U)) 25 a (Aj A):=by
     rw[<-EG];exact O.grow
    refine NL ha2 a7 (λr ν=>VR r ν) (Aq _) AA (DG _) (by simp[Ae]; omega) (by simp[Ae]; omega) ?_;intro Ω a0 ha';have ι:=ha'.BA;have:=g1 2;simp[Ek,KP,Im,KQ,ι.ok,ι.cells,ι.Jw,this];refine⟨by simp[D9],?_,?_⟩
    .simpa[AAh.D9] using AAh.D9 O
    refine APG (Bb AA AA ?_);have ha3:D1 (F ts) (ts++a0) 25 Ω (Aj (A++[.mk X α β nI])):=by simp[*,Ff,Aj]
    have:=b7 (q+1) k3 a0 Ω (A++[.mk X α β nI]) AA AA b9 (by simp[*]) (λt ht=>by
     rcases CU.1 ht with ht|ht
     .simp[*]
     .rw[DW.1 ht]
      exact χ.2) (Jl.snoc θ χ.1 AA) ha3
    grind
  have:=loop u 0 k1 [] (.AE []) [] AA (AU _) τ rfl (λt ht=>by cases ht) Jl.nil (.inl AX)
  grind
end
end Go.Proofs.YtpgfpakdnijngaaGreatDoor
