/-
  The law DnfDistributes, but for its sanity check.
-/
import Derived.Test.YtpgfpakdnijngaaGreatDoorTH
import Derived.Test.YtpgfpakdnijngaaGreatDoorTE
import Derived.Test.YtpgfpakdnijngaaGreatDoorW1
set_option linter.all false
namespace Go.Proofs.YtpgfpakdnijngaaGreatDoor
open Go.Tel
attribute [local simp] Bw B6 KS KT AO C1 GC wO setCells CR EG DQ Cu BD alive Cb Fi Hs jo Ay DC BV GL DY D0 qY oO okB qZ qa qb qc qd fK qe qf qg qh qi qj qm qo qp qt qu okF qv qw qx qy rC U2 rD RJ RK RL RM rE rF rG rH rI rJ rK rL rM rN Gu rO oP rP rQ rR rS rT rU rV rW rX rY Cm g0 g1 xI xL xM xF xG xC lf Y4 Y5
section
variable {R:RT}
theorem AKj {t:Ty} (hn:NN R) (hsz:size t<2 ^ 60) (hok:P3 t) (hfit:verdict t=0->Fit t):lZ R t (xR (depth t) t):=by
 rw[<-AO3 (depth t) t λh=>(hfit h).bws];exact T7 hn (depth t) t (AN _) hsz hok hfit
theorem AQL {t:Ty} (h:gq 3 t=true) (hv:verdict t=0):Fit t:=by
 obtain⟨_,h1,h2⟩:=ET hv;have e:gqQ 3=⟨3150,1859359,630225,23403,27⟩:=by kernel_rfl
 have:=AEa 3 t h h1 h2;rw[e] at this;exact⟨by have:=this.b; show(bw t:Int)<1073741824; simp only at this; omega,by have:=this.w; simp only at this; omega,by have:=this.n; simp only at this; omega⟩
end
theorem AKk {f:Nat} {t:Ty} (hfit:verdict t=0->Fit t):(xR f t).1.length<=32/\∀b∈(xR f t).1,BrS b:=by
 cases f with
 | zero=>exact⟨by simp[xR],λb h=>by cases h⟩
 | succ f=>
  rw[xR];cases hg:!(verdict t==0)||!(BW 0 t) with
  | true=>exact⟨by simp,λb h=>by cases h⟩
  | false=>
   simp only[G7,Bool.not_eq_false',GX] at hg;obtain⟨Su,hc⟩:=hg;obtain⟨hv,ACw,_⟩:=ET Su;have hft:=hfit Su;simp only[AE];cases Wj:HQ (Ac 32) (depth t) t with
   | none=>exact⟨by simp,λb h=>by cases h⟩
   | some l=>
    simp only;cases (l.map IA).all λb=>Uj b&&b.bounds.all λb=>FD (xR f b) with
    | false=>exact⟨by simp,λb h=>by cases h⟩
    | true=>
     refine⟨by have:=ACn (depth t) t l Wj; simp only[AH,Bn]; omega,λb hb=>?_⟩;obtain⟨b0,hb0,rfl⟩:=Cp.1 hb;obtain⟨_,q2,q3,q4⟩:=pE hv hc hft Wj b0 hb0;exact⟨by omega,by omega,λc hc=>by have:=(q4 c hc).NR; omega⟩
mutual
def ib:Bool->Ty->Bool
 | e,.mk k _ _ ts=>k==0||k==2||(bif k==5 then e else k==3&&ibL ts)
def ibL:List Ty->Bool
 | []=>true
 | t::l=>ib true t&&ibL l
end
theorem mM:∀l:List Ty,ibL l=l.all (ib true)
 | []=>rfl
 | t::l=>by rw[ibL,mM l]; rfl
section
variable {R:RT}
theorem VJ {α:Type} {row:α->List PV} (hrow:∀a,(row a).length=4) {f:FuncId} {g:α->Bool} {ts:List α} {y:AV} (hy:Av y (ts.map row)) (hl:ts.length<2 ^ 60) (hf:∀t∈ts,AL (env R) f [.agg ((row t).map .pv)] λr=>r=BB (g t)) :
  AL (env R) 94 [y,.func (.func f) [] []] λr=>r=BB (ts.any g):=by
 have hf':∀t∈ts,∀s L,A8 (env R) L f [.agg ((row t).map .pv)] s (BB (g t)) s:=by
  intro t ht s L;obtain⟨v,rfl,h⟩:=hf t ht;exact h L s
 have hi:AL (env R) 125 [y,.func (.func f) [] []] λr=>∃i:Int,r=AA i/\decide (0<=i)=ts.any g:=by
  refine ANW (by simp[Bb,hy.Ep,Ep]) (YE (BI (n:=ts.length) (by rw[hy.BN,Bn]) ?_));exact cV hrow (.inl hy) hl (λt ht L=>hf' t ht _ L) ts.length 0 (by omega) λi h=>⟨_,Gu,i,rfl,by grind⟩
 refine e94 (by simp[Bb,hy.Ep,Ep]) (ju (AG hi ?_));rintro _ ⟨i,rfl,h⟩;exact JT ⟨_,Gu,by grind⟩
mutual
theorem RD:∀(t:Ty),size t<2 ^ 38->∀(e:Bool) (x:AV),A5 t x->AL (env R) 61 [x,BB e] λr=>r=BB (ib e t)
 | .mk k n i ts,h,e,x,hx=>by
  obtain⟨a,rfl,ha⟩:=hx;simp only[size] at h;have U3:=Bk ts;refine e61 (u0:=.agg [AA k,SS n,AA i,a]) (u1:=BB e) (by simp[ha.close]) (AQM ?_);refine CT rfl (by simp[ha.ok]) (AW rfl (Ag rfl rfl (Bd ?_)));have fin:∀(b:Bool) s,b=ib e (.mk k n i ts)->QP (λr=>r=BB (ib e (.mk k n i ts))) (BB b) s:=λb s h=>⟨_,Gu,by rw[h]⟩
  cases h0:k==0 with
  | true=>exact BP (wo (BP (fin _ _ (by simp[ib,h0]))))
  | false=>
   refine BE (Bd ?_);cases h2:k==2 with
   | true=>exact wo (BP (fin _ _ (by simp[ib,h2])))
   | false=>
    refine wo (BE (Bd ?_));cases h5:k==5 with
    | true=>exact BP (fin _ _ (by simp[ib,h0,h2,h5]))
    | false=>
     refine BE (Bd ?_);cases h3:k==3 with
     | false=>exact BE (AQN (fin _ _ (by simp[ib,h0,h2,h5,h3])))
     | true=>
      refine BP (AW rfl (Ag rfl rfl ?_));rw[HD] at ha;refine AG (VJ (g:=λt=>!ib true t) (λt=>Ad t) ha (by omega) (PJ ts (by omega))) ?_;rintro _ rfl;refine nt (fin _ _ ?_);simp[ib,h0,h2,h5,h3,mM]
      grind
theorem PJ:∀(l:List Ty),AQ l<2 ^ 38->∀t∈l,AL (env R) 102 [.agg ((Aa t).map .pv)] λr=>r=BB (!ib true t)
 | [],_,_,h=>by cases h
 | e::l,h,t,hm=>by
  simp only[AQ] at h;rcases Az.1 hm with h' | h'
  .rw[h']
   have hx:=A5.Bu e;have hrl:((Aa e).map AV.pv).length=4:=by grind[Ad]
   have hro:=Ct e
   have hno:Bb [.agg ((Aa e).map .pv)]=true:=by
    obtain⟨k1,n1,i1,t1⟩:=e;rfl
   generalize (Aa e).map AV.pv=row at hx hrl hro hno;refine AV2 hno (AKl (CT (cs:=row) rfl hro (Af (Am [] row) hrl (AG (RD e (by omega) true _ hx) ?_))));rintro _ rfl;exact nt ⟨_,Gu,rfl⟩
  .exact PJ l (by omega) t h'
end
end
mutual
def M4 (g:Int->Ty):Bool->Ty->Ty
 | e,.mk k n i ts=>bif k==5 then g i else bif k==2||(k==3&&!e) then .mk k n i (UF g (e||k==2) ts) else .mk k n i ts
def UF (g:Int->Ty):Bool->List Ty->List Ty
 | _,[]=>[]
 | e,t::l=>M4 g e t::UF g e l
end
theorem MR (g:Int->Ty) (e:Bool):∀l:List Ty,UF g e l=l.map (M4 g e)
 | []=>rfl
 | t::l=>by rw[UF,MR g e l]; rfl
mutual
theorem LR:∀t:Ty,valid t=true->RQ t=true
 | .mk k n i ts,h=>by
  have hv:=h;simp only[valid,AD] at h;rw[RQ,RE ts h.2];cases h5:k==5 with
  | true=>
   have:k=5:=by grind
   subst this;have h1:=EA hv;have h2:=Kf hv
   grind
  | false=>rfl
theorem RE:∀l:List Ty,Ar l=true->U8 l=true
 | [],_=>rfl
 | t::l,h=>by
  simp only[Ar,AD] at h;rw[U8,LR t h.1,RE l h.2];rfl
end
def gB (n:Nat) (i:Int):Ty:=var (bif decide (i<n) then(n:Int)-1-i else i)
def Hr:List Ty->Ty->Ty
 | [],t=>t
 | b::l,t=>.mk 6 [] 0 [b,Hr l t]
def Wn (b:Br):Ty:=Hr b.bounds (M4 (gB b.bounds.length) false b.body)
def dbR (n:Nat):Nat->Nat->Ty->Ty
 | 0,_,t=>t
 | f+1,j,t=>dbR n f (j+1) (LC j (hole+n-j) t)
def btR (b:Br):Ty:=Hr b.bounds (M3 b.bounds.length 0 (dbR b.bounds.length b.bounds.length 0 b.body))
section
variable {R:RT}
def Has (bs:List (List AV)) (cp:List (Nat×List AV)):Prop:=∀q∈cp,bs[q.1]?=some q.2
theorem Has.push {bs:List (List AV)} {cp:List (Nat×List AV)} (h:Has bs cp) (c:List AV):Has (bs++[c]) cp:=λq hq=>Ah (h q hq) c
theorem Has.set {bs bs0:List (List AV)} {cp:List (Nat×List AV)} (h:Has bs cp) (h0:Has bs0 cp) {j:Nat} (hj:bs0.length<=j) (c:List AV):Has (bs.set j c) cp:=λq hq=>by
 have:=(BL.1 (h0 q hq)).1;exact Bm (h q hq) (by omega)
def RnF (R:RT) (f p:Nat) (cp:List (Nat×List AV)) (g:Int->Ty):Prop:=∀(i:Int) (y:AV) (s:AM),0<=i->i<=200->A5 (.mk 5 [] i []) y->Bj s->Has s.bs cp ->
 ∃r,A5 (g i) r/\∀L:A3,L.ro<=s.bs.length->A8 (env R) L f [y,.ptr p 0] s r s
abbrev rnC (f p:Nat):AV:=.func (.func f) [] [.ptr p 0]
theorem ACy {f p:Nat} {cp:List (Nat×List AV)} {ts ls:List Ty} {a:AV} (ha:Av a (AP ts)) (hl:ts.length<2 ^ 38) (hll:ls.length=ts.length) {k i:Int} {n:List UInt8} {e:Bool}
  {s0:AM} (hs0:Bj s0) (hp:Has s0.bs cp)
  (ih:∀(q:Nat) (t l:Ty),ts[q]?=some t->ls[q]?=some l->∀s,Bj s->Has s.bs cp->∃r,A5 l r/\∀L,A8 (env R) L 67 [.agg ((Aa t).map .pv),BB (e||k==2),rnC f p] s r s)
  {Post:AV->Prop} (hP:∀r,A5 (.mk k n i ls) r->Post r) :
  ∀(j q:Nat) (s:AM) (b:AV),q+j=ts.length->Bj s->Has s.bs cp->s.bs[s0.bs.length]?=some [AA k,SS n,AA i,a]->s.bs[s0.bs.length+1]?=some Z4->s.bs[s0.bs.length+2]?=some [AA k,SS n,AA i,b] ->
   EM s0.ts.length s.ts 25 b (AP (ls.take q))->s0.ts.length<=s.ts.length ->
   mN R s0.bs.length s0.bs.length s0.ts.length (BB e) (rnC f p) (.ptr s0.bs.length 0) (.ptr (s0.bs.length+1) 0) (.ptr (s0.bs.length+2) 0) a (AA ts.length) (AA q) s (QI s0.bs.length s0.ts.length Post):=by
 intro j
 induction j with
 | zero=>
  intro q s b hi hs h0 h1 h2 h3 hb hle;refine AEl (A2 ?_);rw[BF (by omega)];refine BE (AQO (Af h3 rfl (BZ h2 rfl rfl (by decide) (by simp) (by simp[hb.A9.ok]) (.inl (by simp)) (Af (Be h2) rfl ?_))));rw[Cv (by omega)] at hb;obtain⟨b',c1,c2⟩:=Np hb (s.bs.set (s0.bs.length+1) [AA k,SS n,AA i,b]) s0.bs.length;exact⟨.agg [AA k,SS n,AA i,b'],by simp[c1],hP _ ⟨b',rfl,c2⟩⟩
 | succ j Et=>
  intro q s b hi hs h0 h1 h2 h3 hb hle;refine AEl (A2 ?_);rw[Aq (by omega)];obtain⟨t,ht⟩:∃t,ts[q]?=some t:=⟨_,Ap (by omega)⟩;obtain⟨l,uw⟩:∃l,ls[q]?=some l:=⟨_,Ap (by omega)⟩;have hrl:((Aa t).map AV.pv).length=4:=by grind[Ad]
  have hro:=Ct t
  have K6:Ab (s.bs.length+1) ((Aa t).map AV.pv)=true:=by
   obtain⟨k1,n1,i1,t1⟩:=t;rfl
  refine BP (AQP (BO ha (row:=Aa t) (by omega) (by simp[*,BJ]) (Ad _) (by omega) (Di (Bi ?_))));have kQ:=ih q t l ht uw;generalize (Aa t).map AV.pv=row at hrl hro K6 kQ;obtain⟨bs,tk⟩:=s;have l3:=(BL.1 h3).1;simp only at *;refine BZ (Am bs Z4) hrl rfl (by decide) (by simp[Cu]; omega) hro (.inl (by simp[Cu]; omega)) ?_;have e1:(bs++[Z4]).set bs.length row=bs++[row]:=by simp
  rw[e1];have g0:=h0.push row;have g1:=Ah h1 row;have g2:=Ah h2 row;have g3:=Ah h3 row;have hs':Bj ⟨bs++[row],tk⟩:=Bj.app (s:=⟨bs,tk⟩) hs K6;obtain⟨r,NG,Pt⟩:=kQ ⟨bs++[row],tk⟩ hs' g0;refine AW (Ak g3) (Ag g3 rfl (Af (Am bs row) hrl ?_))
  have AQQ:∀b' Hx,EM s0.ts.length Hx 25 b' (AP (ls.take (q+1)))->s0.ts.length<=Hx.length ->
    (BD ⟨bs++[row],Hx⟩ (.ptr (s0.bs.length+2) 0) 3 λa53=>CR (Cu (env R) 67 s0.bs.length s0.bs.length s0.ts.length) ⟨bs++[row],Hx⟩ 1 a53 b' λAQR=>
    (BD ⟨bs++[row],tk⟩ (.ptr (s0.bs.length+2) 0) 3 λv=>Tel.CQ v (.ptr (s0.bs.length+2) (0+3))=true) /\
    (EG (env R) ⟨bs++[row],tk⟩ none (.ptr (s0.bs.length+2) (0+3)) λAV3=>Tel.CQ AV3 b=true) /\
    wq R s0.bs.length s0.bs.length s0.ts.length (BB e) (rnC f p) (.ptr s0.bs.length 0) (.ptr (s0.bs.length+1) 0) (.ptr (s0.bs.length+2) 0) a (AA ts.length) (AA q) AQR (QI s0.bs.length s0.ts.length Post)):=by
   intro b' Hx hb' hle';refine AW (Ak g3) (Dr g3 (by simp) hb'.A9.cells (by simp) hb'.A9.ok (.inl (by simp)) ⟨AW (Ak g3) (Ec _ _),Ag g3 rfl (IG hb),AQS (CO (by omega) (by omega) ?_)⟩);have:=Et (q+1) ⟨(bs++[row]).set (s0.bs.length+2) [AA k,SS n,AA i,b'],Hx⟩ b' (by omega) ?_ (g0.set hp (by omega) _) (Bm g1 (by omega)) (Bm g2 (by omega)) (Be g3) hb' hle'
   .grind
   .exact Bj.set (s:=⟨bs++[row],tk⟩) hs' (by simp[Ab,Ai,hb'.A9.Ai]) _
  have er:ls.take q++[l]=ls.take (q+1):=by grind[List.take_add_one]
  have app:∀K:AV->AM->Prop,(∀b' Hx,EM s0.ts.length Hx 25 b' (AP (ls.take (q+1)))->s0.ts.length<=Hx.length->K b' ⟨bs++[row],Hx⟩)->EL false (Cu (env R) 67 s0.bs.length s0.bs.length s0.ts.length) ⟨bs++[row],tk⟩ 25 4 56 b (.AB [Aa l]) K:=λK hK=>
   kP hb hle (by grind) λb' Hx hb' hle'=>hK b' Hx (by rw[er] at hb'; exact hb') hle'
  cases e with
  | true=>exact Cq (Cq (Cq (pk ⟨r,_,Pt _,Gj NG.Km ⟨by decide,app _ AQQ⟩⟩)))
  | false=>exact Ax (AW (Ak g1) (Ax (Ag g1 rfl (Ax (Bd (pk ⟨r,_,Pt _,Gj NG.Km ⟨by decide,app _ AQQ⟩⟩))))))
mutual
theorem UG {f p:Nat} {cp:List (Nat×List AV)} {g:Int->Ty} (hf:RnF R f p cp g):∀(t:Ty),size t<2 ^ 38->valid t=true->∀(e:Bool) (x:AV),A5 t x->∀(s:AM),Bj s->Has s.bs cp ->
  ∃r,A5 (M4 g e t) r/\∀L,A8 (env R) L 67 [x,BB e,rnC f p] s r s
 | .mk k n i ts,h,hv,e,x,hx,s,hs,hp=>by
  have Tg:=LR _ hv;have Lj:=hv;simp only[size] at h;simp only[valid,AD] at hv;have hx':=hx;obtain⟨a,rfl,ha⟩:=hx;have hs1:Bj ⟨s.bs++[[AA k,SS n,AA i,a]]++[Z4],s.ts⟩:=Bj.app (s:=⟨s.bs++[[AA k,SS n,AA i,a]],s.ts⟩) (Bj.app (s:=s) hs (by simp[Ab,Ai,ha.Ai])) rfl;have g0:(s.bs++[[AA k,SS n,AA i,a]]++[Z4])[s.bs.length]?=some [AA k,SS n,AA i,a]:=Ah (Am _ _) _;have g1:(s.bs++[[AA k,SS n,AA i,a]]++[Z4])[s.bs.length+1]?=some Z4:=by grind
  have gp:Has (s.bs++[[AA k,SS n,AA i,a]]++[Z4]) cp:=(hp.push _).push _;have l1:(s.bs++[[AA k,SS n,AA i,a]]).length=s.bs.length+1:=by simp
  have l2:(s.bs++[[AA k,SS n,AA i,a]]++[Z4]).length=s.bs.length+2:=by simp
  refine i67 (by simp[Bb,AU,close]) (AQT (CT (cs:=[AA k,SS n,AA i,a]) rfl (by simp[ha.ok]) (Bi ?_)));simp only[l1];generalize s.bs++[[AA k,SS n,AA i,a]]++[Z4]=bs at hs1 g0 g1 gp l2
  have fin:∀(t':Ty) (r:AV),A5 t' r->t'=M4 g e (.mk k n i ts)->CR (Cu (env R) 67 s.bs.length s.bs.length s.ts.length) ⟨bs,s.ts⟩ 4 (.ptr (s.bs.length+1) 0) r λvX=>EG (env R) vX (some 4) (.ptr (s.bs.length+1) 0) λr=>QI s.bs.length s.ts.length (λr=>A5 (M4 g e (.mk k n i ts)) r) r vX:=by
   rintro t' r hr rfl;generalize M4 g e (.mk k n i ts)=t' at hr ⊢;obtain⟨k2,n2,i2,O5⟩:=t';have hr':=hr;obtain⟨b,rfl,hb⟩:=hr;refine BZ g1 rfl rfl (by decide) (by simp) (by simp[hb.ok]) (.inl (by simp)) (Af (Be g1) rfl ?_);exact⟨_,by simp[hb.close],hr'⟩
  refine AW (Ak g0) (Ag g0 rfl (Bd ?_));cases h5:k==5 with
  | true=>
   have:k=5:=by grind
   subst this;have hi1:=Kf Lj;obtain⟨rfl,rfl,hi0⟩:=EA Lj;obtain⟨r,NG,Pt⟩:=hf i _ ⟨bs,s.ts⟩ hi0 hi1 hx' hs1 gp;exact BP (Af g0 rfl ⟨_,_,Pt _ (by simp[Cu]; omega),fin _ _ NG (by simp[M4])⟩)
  | false=>
   refine BE (AW (Ak g0) (Ag g0 rfl (Fl ?_)));have U3:=Bk ts;have AKm:AL (env R) 70 [.agg [AA k,SS n,AA i,a]] λr=>A5 (.mk k n i ts) r:=MH (t:=.mk k n i ts) (by simp only[size]; omega) (Tg) ⟨a,rfl,ha⟩
   have stay:(k==2||(k==3&&!e))=false->EG (env R) ⟨bs,s.ts⟩ (some 4) (.ptr s.bs.length 0) λa29=>EK (env R) (Cu (env R) 67 s.bs.length s.bs.length s.ts.length) (.func (.func 70) [] []) [a29] ⟨bs,s.ts⟩ λa30 AQU=>CR (Cu (env R) 67 s.bs.length s.bs.length s.ts.length) AQU 4 (.ptr (s.bs.length+1) 0) a30 λAEm=>EG (env R) AEm (some 4) (.ptr (s.bs.length+1) 0) λr=>QI s.bs.length s.ts.length (λr=>A5 (M4 g e (.mk k n i ts)) r) r AEm:=by
    intro hk;refine Af g0 rfl (AG AKm ?_);rintro r hr;exact fin _ r hr (by simp[M4,h5,hk])
   have go:(k==2||(k==3&&!e))=true->wu R s.bs.length s.bs.length s.ts.length (BB e) (rnC f p) (.ptr s.bs.length 0) (.ptr (s.bs.length+1) 0) ⟨bs,s.ts⟩ (QI s.bs.length s.ts.length (λr=>A5 (M4 g e (.mk k n i ts)) r)):=by
    intro hk;refine AQV (Af g0 rfl (Bi (BZ (Am bs Z4) rfl rfl (by decide) (by simp[Cu]; omega) (by simp[ha.ok]) (.inl (by simp[Cu]; omega)) ?_)));have e1:(bs++[Z4]).set bs.length [AA k,SS n,AA i,a]=bs++[[AA k,SS n,AA i,a]]:=by simp
    simp only[e1,l2];have g2:(bs++[[AA k,SS n,AA i,a]])[s.bs.length+2]?=some [AA k,SS n,AA i,a]:=by grind
    show BD ⟨(bs++[Z4]).set (s.bs.length+2) [AA k,SS n,AA i,a],s.ts⟩ _ _ _
    have e1':(bs++[Z4]).set (s.bs.length+2) [AA k,SS n,AA i,a]=bs++[[AA k,SS n,AA i,a]]:=by rw[<-l2]; exact e1
    rw[e1'];refine AW (Ak g2) (Dr (off:=3) g2 (AN 4) rfl (by simp[Cu]) rfl (.inl (by simp[Cu])) ?_);have e2:(bs++[[AA k,SS n,AA i,a]]).set (s.bs.length+2) ([AA k,SS n,AA i,a].set 3 (.AB []))=bs++[[AA k,SS n,AA i,.AB []]]:=by grind
    show BD ⟨(bs++[[AA k,SS n,AA i,a]]).set (s.bs.length+2) ([AA k,SS n,AA i,a].set 3 (.AB [])),s.ts⟩ _ _ _
    rw[e2];have g3:(bs++[[AA k,SS n,AA i,.AB []]])[s.bs.length+2]?=some [AA k,SS n,AA i,.AB []]:=by grind
    refine AW (Ak (Ah g0 _)) (Ag (Ah g0 _) rfl (BI (n:=ts.length) (by rw[ha.BN,AR]) ?_));refine ACy (ls:=ts.map (M4 g (e||k==2))) ha (by omega) (by simp) hs hp ?_ ?_ ts.length 0 _ (.AB []) (by omega) (Bj.app (s:=⟨bs,s.ts⟩) hs1 rfl) (gp.push _) (Ah g0 _) (Ah g1 _) g3 (.inl rfl) (AN _)
    .intro q t l hq uw s' hs' hp'
     rw[FJ,hq] at uw;cases uw;exact Wo hf ts (by omega) hv.2 (e||k==2) t (BA hq) s' hs' hp'
    .intro r hr
     rw[M4,h5,hk,MR];exact hr
   cases h2:k==2 with
   | true=>
    have:(k != 2)=false:=by simp[bne,h2]
    rw[this];exact Bx (Bx (IK (IK (IK (Bx (pk (BE (go (by simp[h2])))))))))
   | false=>
    have:(k != 2)=true:=by simp[bne,h2]
    rw[this];refine Ax (Ax ?_);cases e with
    | true=>exact Cq (Cq (Cq (Ax (pk (pk (BP (stay (by simp[h2]))))))))
    | false=>
     refine Ax (AW (Ak g0) (Ax (Ag g0 rfl (Ax (Fl (Ax (pk (pk ?_))))))));cases h3:k==3 with
     | true=>
      have:(k != 3)=false:=by simp[bne,h3]
      rw[this];exact BE (go (by simp[h3]))
     | false=>
      have:(k != 3)=true:=by simp[bne,h3]
      rw[this];exact BP (stay (by simp[h2,h3]))
theorem Wo {f p:Nat} {cp:List (Nat×List AV)} {g:Int->Ty} (hf:RnF R f p cp g):∀(l:List Ty),AQ l<2 ^ 38->Ar l=true->∀(e:Bool),∀t∈l,∀(s:AM),Bj s->Has s.bs cp ->
  ∃r,A5 (M4 g e t) r/\∀L,A8 (env R) L 67 [.agg ((Aa t).map .pv),BB e,rnC f p] s r s
 | [],_,_,_,_,h=>by cases h
 | u::l,h,hv,e,t,hm=>by
  simp only[AQ] at h;simp only[Ar,AD] at hv;rcases Az.1 hm with h' | h'
  .rw[h']
   exact UG hf u (by omega) hv.1 e _ (A5.Bu _)
  .exact Wo hf l (by omega) hv.2 e t h'
end
end
section
variable {R:RT}
theorem AQW {p:Nat} {n:Nat} (hn:n<2 ^ 40):RnF R 68 p [(p,[AA n])] (gB n):=by
 intro i y s h0 h1 hy hs hp;have gp:s.bs[p]?=some [AA n]:=hp (p,[AA n]) (by simp);have lp:=(BL.1 gp).1;obtain⟨a,rfl,ha⟩:=hy;obtain⟨gi,hgi⟩:∃gi,gi=bif decide (i<n) then(n:Int)-1-i else i:=⟨_,rfl⟩
 refine⟨.agg [AA 5,SS [],AA gi,a],⟨a,by rw[hgi],ha⟩,λL hro=>?_⟩
 obtain⟨v,s',⟨rfl,rfl⟩,hc⟩:=m68 (R:=R) (L:=L) (s:=s) (t0:=.agg [AA 5,SS [],AA i,a]) (t1:=.ptr p 0) (Post:=λv s'=>v=.agg [AA 5,SS [],AA gi,a]/\s'=s) (by simp[Bb,Ep]) (AQY (by
  refine CT (cs:=[AA 5,SS [],AA i,a]) rfl (by simp[ha.ok]) (Bi ?_);have l1:(s.bs++[[AA 5,SS [],AA i,a]]).length=s.bs.length+1:=by simp
  simp only[l1];have g0:(s.bs++[[AA 5,SS [],AA i,a]]++[Z4])[s.bs.length]?=some [AA 5,SS [],AA i,a]:=Ah (Am _ _) _;have g1:(s.bs++[[AA 5,SS [],AA i,a]]++[Z4])[s.bs.length+1]?=some Z4:=by grind
  have gq:=Ah (Ah gp [AA 5,SS [],AA i,a]) Z4;have hT:(s.bs++[[AA 5,SS [],AA i,a]]++[Z4]).take s.bs.length=s.bs:=by simp
  have Rq:(s.bs++[[AA 5,SS [],AA i,a]]++[Z4]).length=s.bs.length+2:=by simp
  generalize s.bs++[[AA 5,SS [],AA i,a]]++[Z4]=bs at g0 g1 gq hT Rq
  have tail:∀(i':Int) (bs:List (List AV)),bs[s.bs.length]?=some [AA 5,SS [],AA i',a]->bs[s.bs.length+1]?=some Z4->bs.take s.bs.length=s.bs->i'=gi ->
    mO R 0 L.ro L.rt (.ptr s.bs.length 0) (.ptr (s.bs.length+1) 0) ⟨bs,s.ts⟩ (QM (L.rr 68) s.bs.length λv s'=>v=.agg [AA 5,SS [],AA gi,a]/\s'=s):=by
   rintro i' bs g0 g1 hT rfl;refine AQZ (Af g0 rfl (BZ g1 rfl rfl (by decide) (by show L.ro<=_; omega) (by simp[ha.ok]) (.inl (AK _)) (Af (Be g1) rfl ?_)));exact Ti hs ((DV (by omega)).trans hT) (by simp[ha.close]) ⟨rfl,rfl⟩
  refine AW (Ak g0) (Ag g0 rfl (JT ?_));rw[Aq (by omega)];refine Ax (AW (Ak g0) (Ax (Ag g0 rfl (Ax (Ag gq rfl (Ax (A2 (pk ?_))))))))
  by_cases hlt:i<n
  .rw[Aq hlt]
   refine BP (Ag gq rfl (Gi (by omega) (by omega) (AW (Ak g0) (Ag g0 rfl (Gi (by omega) (by omega) (AW (Ak g0) (Dr g0 (by simp) rfl (by show L.ro<=_; omega) rfl (.inl (AK _)) ?_)))))));refine tail _ _ (Be g0) (Bm g1 (by omega)) ?_ (by rw[hgi,Aq hlt]; rfl);exact(DV (by omega)).trans hT
  .rw[BF hlt]
   exact BE (tail i bs g0 g1 hT (by rw[hgi,BF hlt]; rfl))))
 exact hc
def rfa:Code->Code
 | .rangeFunc _ _ a _=>a
 | c=>c
def rfb:Code->Code
 | .rangeFunc _ _ _ b=>b
 | c=>c
set_option maxRecDepth 50000 in
theorem w6 {n0 ro rt:Nat} {t2 t4 t16 v j:AV} {s:AM} {M:Out->AM->Prop} (h :
 Bw s [(AA 0),(SS []),(AA 0),(.AB [])] λa6 s1=>
 CR (Cu (env R) 29 n0 ro rt) s1 4 a6 v λs2=>Out.norm=Out.norm /\
 EG (env R) s2 (some 4) a6 λa19=>
 EK (env R) (Cu (env R) 29 n0 ro rt) (.func (.func 70) [] []) [a19] s2 λa20 s3=>
 EG (env R) s3 (some 4) t4 λa21=>
 Dc false s3 4 [(AA 0),(SS []),(AA 0),(.AB [])] 2 [(0,4,a20),(4,4,a21)] λa22 s4=>
 C1 [(AA 0),(SS []),(AA 0),(.AB [])] [(0,1,(AA 6)),(3,1,a22)] λa23=>
 CR (Cu (env R) 29 n0 ro rt) s3 4 t4 a23 λs5=>
(EG (env R) s2 (some 4) t4 λvx=>Tel.CQ vx a21=true) /\
 M .norm s5):wpo (env R) (Cu (env R) 29 n0 ro rt) 25 (rfa (Tel.sub rj [1,1,1,0,1,0])) ((18,v)::(17,j)::[(2,t2),(4,t4),(16,t16)]) s λo El s=>
  o=.norm/\wpo (env R) (Cu (env R) 29 n0 ro rt) 25 (rfb (Tel.sub rj [1,1,1,0,1,0])) El s λo _ s'=>M o s':=mP h (by kernel_rfl)
end
section
variable {R:RT}
theorem AKn (t:Ty):Zd (env R).P 25 (Aa t)=some (.agg ((Aa t).map .pv)):=by
 obtain⟨k,n,i,ts⟩:=t
 kernel_rfl
theorem AKo:(DZ (env R).P 25).isSome=true:=by kernel_rfl
theorem AQb:Ij (rfa (Tel.sub rj [1,1,1,0,1,0]))=true:=by kernel_rfl
theorem AQc:Ij (rfb (Tel.sub rj [1,1,1,0,1,0]))=true:=by kernel_rfl
theorem AKp:Tel.sub rj [1,1,1,0,1,0]=.rangeFunc (.tmp 16) #[17,18] (rfa (Tel.sub rj [1,1,1,0,1,0])) (rfb (Tel.sub rj [1,1,1,0,1,0])):=by kernel_rfl
theorem cq {l:List Ty} {j:Nat} {b t:Ty} (h:l[j]?=some b):Hr (l.drop j) t=.mk 6 [] 0 [b,Hr (l.drop (j+1)) t]:=by
 rw[drop_cons h,Hr]
set_option maxRecDepth 20000 in
theorem RY {b:Br} (hsz:size b.body<2 ^ 38) (hv:valid b.body=true) (hl:b.bounds.length<2 ^ 38) (hb:∀t∈b.bounds,size t<2 ^ 38/\RQ t=true) {x:AV} (hx:bQ b x):AL (env R) 29 [x] λr=>A5 (Wn b) r:=by
 obtain⟨a,y,rfl,ha,hy⟩:=hx;have hyr:=hy;obtain⟨y1,y2,y3,y4⟩:=hy.cells;refine e29 (u0:=.agg (a::y)) (by simp[ha.close,y4]) (AQd ?_);have hok:(a::y).all A1=true:=by simp[ha.ok,y2]
 have hlen:BN ⟨[a::y,Z4],[]⟩ a=some b.bounds.length:=by rw[ha.BN,AR]
 refine CT (cs:=a::y) rfl hok (Bi (AW rfl (Ag rfl rfl (BI hlen (Bi (Dr (cs:=[AA 0]) rfl (by simp) rfl (AK _) rfl (.inl (AK _)) ?_))))))
 have hs1:Bj ⟨[a::y,Z4,[AA b.bounds.length]],[]⟩:=by
  intro c hc;simp only[Az,Ex,Ey] at hc;rcases hc with rfl|rfl|rfl
  .exact Bt (AK _) _ (by simp[Ab,ha.Ai,y3])
  .rfl
  .rfl
 obtain⟨r,hr,MP⟩:=UG (AQW (R:=R) (p:=2) (n:=b.bounds.length) (by omega)) b.body hsz hv false (.agg y) hyr ⟨[a::y,Z4,[AA b.bounds.length]],[]⟩ hs1 (λq hq=>by
  simp only[DF] at hq;subst hq;rfl)
 refine AW rfl (Yh (a:=a) (cs:=y) rfl y1 ⟨_,_,MP _,?_⟩);obtain⟨rc,rfl⟩:∃rc,r=.agg rc:=BM.agg hr.Km;obtain⟨c1,c2,c3,c4⟩:=hr.cells;refine Bi (BZ (old:=Z4) rfl c1 rfl (by decide) (AK _) c2 (.inl (AK _)) (AW rfl (Ag rfl rfl ?_)));refine CY (m69 (Post:=λr s'=>r=.func (.func 106) [] [.ptr 4 0]/\s'=⟨[a::y,Z4,[AA b.bounds.length],rc,[a]],[]⟩) (AQe (CT (cs:=[a]) ha.cells (by simp[ha.ok]) ⟨rfl,rfl⟩))) ?_;rintro _ _ ⟨rfl,rfl⟩;unfold AEn;rw[AKp];have hrl:(AP b.bounds).length=b.bounds.length:=AR _
 refine w7 (k:=106) (id:=4) (p:=17) (q:=18) (el:=25) (c:=a) (rest:=[]) (rows:=AP b.bounds) rfl rfl rfl rfl ha.rowsOf ?_
  (λj s=>j<=b.bounds.length/\s.bs[1]?=some Z4/\∃cs,s.bs[3]?=some cs/\A5 (Hr (b.bounds.drop j) (M4 (gB b.bounds.length) false b.body)) (.agg cs)) ?_ ?_ ?_
 .have h18:Nat.ble (AP b.bounds).length 1000000000000000000=true:=XX (by omega)
  simp only[AQb,AQc,AKo,h18,Hp];rfl
 .refine⟨by omega,rfl,rc,rfl,?_⟩
  rw[Cj (by omega),Hr];exact hr
 .rintro j s row hrow ⟨hj,g1,cs,g3,ht⟩
  obtain⟨t,Uk⟩:∃t,b.bounds[j]?=some t:=⟨_,Ap (by omega)⟩;have e:=BJ Uk;rw[hrow] at e;simp only[Aw] at e;subst e;obtain⟨b1,b2⟩:=hb t (BA Uk);refine⟨_,AKn t,w6 ?_⟩;have Ba:=MH (R:=R) b1 b2 (A5.Bu t);have AKq:((Aa t).map AV.pv).length=4:=by grind[Ad]
  have hro:=Ct t;generalize (Aa t).map AV.pv=row at Ba AKq hro;obtain⟨bs,tk⟩:=s;have l1:=(BL.1 g3).1;simp only at g1 g3 l1;obtain⟨d1,d2,d3,d4⟩:=ht.cells;refine Bi (BZ (Am bs Z4) AKq rfl (by decide) (AK _) hro (.inl (AK _)) ⟨rfl,?_⟩);have e1:(bs++[Z4]).set bs.length row=bs++[row]:=by simp
  rw[e1];have g3':=Ah g3 row;refine Af (Am bs row) AKq (AG Ba ?_);intro w hw;refine Af g3' d1 (cj hw.Km ht.Km _ _ (NM (cs:=[AA 6,SS [],AA 0,.AB (AP [t,Hr (b.bounds.drop (j+1)) (M4 (gB b.bounds.length) false b.body)])]) rfl (BZ g3' rfl d1 (by decide) (AK _) (by simp) (.inl (AK _)) ⟨Af g3' d1 ?_,?_⟩)))
  .exact iG ht.Km
  .refine⟨by omega,Bm (Ah g1 row) (show 3≠1 by decide),_,Be g3',?_⟩
   rw[cq Uk];exact⟨_,rfl,.AB _⟩
 .rintro s' ⟨_,g1,cs,g3,ht⟩
  obtain⟨d1,d2,d3,d4⟩:=ht.cells;refine AQf (AQg (Af g3 d1 (BZ g1 d1 rfl (by decide) (AK _) d2 (.inl (AK _)) (Af (Be g1) d1 ?_))));exact⟨.agg cs,by simp[d4],ht⟩
end
section
variable {R:RT}
theorem AKr {n:Nat} (hn:n<2 ^ 37) {F:Ty} {Post:AV->Prop} (hP:∀r,A5 F r->Post r) :
  ∀(j q:Nat) (cur:Ty) (bs:List (List AV)) (y:List AV),q+j=n->M3 j q cur=F->size cur<2 ^ 37->vP wI cur=true->bs[0]?=some y->bs[1]?=some Z4->BM cur (.agg y) ->
   mQ R 0 0 0 (AA n) (.ptr 0 0) (.ptr 1 0) (AA q) ⟨bs,[]⟩ (QP Post):=by
 have hh:(hole:Int)=1073741824:=rfl;intro j
 induction j with
 | zero=>
  intro q cur bs y hi he hsz hv g0 g1 hy;rw[M3] at he;subst he;obtain⟨d1,d2,d3⟩:=hy.cells;refine AEo (A2 ?_);rw[BF (by omega)];exact BE (AQh (Af g0 d1 (QO g1 rfl hy hP)))
 | succ j ih=>
  intro q cur bs y hi he hsz hv g0 g1 hy;rw[M3] at he;obtain⟨d1,d2,d3⟩:=hy.cells;refine AEo (A2 ?_);rw[Aq (by omega)];refine BP (AQi (Af g0 d1 (CO (by omega) (by omega) ?_)));have e1:(1073741825:Int)+(q:Int)=hole+1+q:=by omega
  rw[e1];refine AG (PE (R:=R) (hole+1+q) q hsz (wM hv) hy) ?_;intro r hr;obtain⟨du,rfl⟩:=hr.Km.agg;obtain⟨f1,f2,f3⟩:=hr.Km.cells
  have hw:wI (q:Int)=true:=by
   simp only[wI,AD,CZ];omega
  obtain⟨v1,v2⟩:=lz (n:=hole+1+q) hw hv;refine BZ g0 f1 d1 (by decide) (AK _) f2 (.inl (AK _)) (AQj (CO (by omega) (by omega) ?_));exact ih (q+1) _ _ du (by omega) he (by omega) v1 (Be g0) (Bm g1 (by decide)) hr.Km
theorem AKs {n:Nat} (hn:n<2 ^ 37) {F:Ty} {Post:AV->Prop} (hP:∀r,A5 F r->Post r) :
  ∀(j q:Nat) (cur:Ty) (bs:List (List AV)) (y:List AV),q+j=n->M3 n 0 (dbR n j q cur)=F->size cur<2 ^ 37->vP wI cur=true->bs[0]?=some y->bs[1]?=some Z4->BM cur (.agg y) ->
   mR R 0 0 0 (AA n) (.ptr 0 0) (.ptr 1 0) (AA q) ⟨bs,[]⟩ (QP Post):=by
 have hh:(hole:Int)=1073741824:=rfl;intro j
 induction j with
 | zero=>
  intro q cur bs y hi he hsz hv g0 g1 hy;rw[dbR] at he;refine AEp (A2 ?_);rw[BF (by omega)];exact BE (AQk (AKr hn hP n 0 cur bs y (by omega) he hsz hv g0 g1 hy))
 | succ j ih=>
  intro q cur bs y hi he hsz hv g0 g1 hy;rw[dbR] at he;obtain⟨d1,d2,d3⟩:=hy.cells;refine AEp (A2 ?_);rw[Aq (by omega)];refine BP (AQl (Af g0 d1 (CO (by omega) (by omega) (Gi (by omega) (by omega) (Gi (by omega) (by omega) ?_)))));have e1:(1073741825:Int)+(n:Int)-1-(q:Int)=hole+n-q:=by omega
  rw[e1];refine AG (PE (R:=R) q (hole+n-q) hsz (wM hv) hy) ?_;intro r hr;obtain⟨du,rfl⟩:=hr.Km.agg;obtain⟨f1,f2,f3⟩:=hr.Km.cells
  have hw:wI (hole+(n:Int)-q)=true:=by
   simp only[wI,AD,CZ];omega
  obtain⟨v1,v2⟩:=lz (n:=q) hw hv;refine BZ g0 f1 d1 (by decide) (AK _) f2 (.inl (AK _)) (AQm (CO (by omega) (by omega) ?_));exact ih (q+1) _ _ du (by omega) he (by omega) v1 (Be g0) (Bm g1 (by decide)) hr.Km
theorem VK {n:Nat} (hn:n<2 ^ 37) {t:Ty} (hs:size t<2 ^ 37) (hv:vP wI t=true) {x:AV} (hx:A5 t x):AL (env R) 74 [x,AA n] λr=>A5 (M3 n 0 (dbR n n 0 t)) r:=by
 obtain⟨y,rfl⟩:=hx.Km.agg;obtain⟨d1,d2,d3,d4⟩:=hx.cells;exact e74 (u0:=.agg y) (u1:=AA n) (by simp[d4]) (AQn (CT (cs:=y) rfl d2 (Bi (AKs hn (λr h=>h) n 0 t [y,Z4] y (by omega) rfl hs hv rfl rfl hx.Km))))
theorem QX {b:Br} (hs:size b.body<2 ^ 37) (hv:vP wI b.body=true) (hl:b.bounds.length<2 ^ 37) {x:AV} (hx:bQ b x):AL (env R) 31 [x] λr=>A5 (btR b) r:=by
 obtain⟨a,y,rfl,ha,hy⟩:=hx;obtain⟨y1,y2,y3,y4⟩:=hy.cells;refine e31 (u0:=.agg (a::y)) (by simp[ha.close,y4]) (AQo ?_);have hok:(a::y).all A1=true:=by simp[ha.ok,y2]
 have hlen:∀s,BN s a=some b.bounds.length:=λs=>by rw[ha.BN,AR]
 refine CT (cs:=a::y) rfl hok (Bi (AW rfl (VH (a:=a) (cs:=y) rfl y1 (AW rfl (Ag rfl rfl (BI (hlen _) (AG (VK hl hs hv hy) ?_)))))));intro r hr;obtain⟨rc,rfl⟩:=hr.Km.agg;obtain⟨c1,c2,c3⟩:=hr.Km.cells;refine Bi (BZ (old:=Z4) rfl c1 rfl (by decide) (AK _) c2 (.inl (AK _)) (AW rfl (Ag rfl rfl (BI (hlen _) (Gi (by omega) (by omega) ?_)))))
 have loop:∀(j:Nat) (bs:List (List AV)) (z:List AV),j<=b.bounds.length->bs[0]?=some (a::y)->bs[1]?=some Z4->bs[2]?=some z->BM (Hr (b.bounds.drop j) (M3 b.bounds.length 0 (dbR b.bounds.length b.bounds.length 0 b.body))) (.agg z) ->
   mS R 0 0 0 (.ptr 0 0) (.ptr 1 0) (.ptr 2 0) (AA ((j:Int)-1)) ⟨bs,[]⟩ (QP λr=>A5 (btR b) r):=by
  intro j
  induction j with
  | zero=>
   intro bs z hj g0 g1 g2 hz;obtain⟨d1,d2,d3⟩:=hz.cells;refine AEq (JT ?_);rw[BF (by omega)];exact BE (AQp (Af g2 d1 (QO g1 rfl hz λr h=>h)))
  | succ j ih=>
   intro bs z hj g0 g1 g2 hz;obtain⟨d1,d2,d3⟩:=hz.cells;obtain⟨t,ht⟩:∃t,b.bounds[j]?=some t:=⟨_,Ap (by omega)⟩;refine AEq (JT ?_);rw[Aq (by omega)];have e1:((j+1:Nat):Int)-1=(j:Int):=by omega
   rw[e1];refine BP (AQq (AW (Ak g0) (Ag (off:=0) g0 rfl (BO ha (row:=Aa t) (by omega) (by simp[*,BJ]) (Ad _) (by omega) (Di (Af g2 d1 (AG (LQ (A5.Bu t).Km hz) ?_)))))));intro r hr;obtain⟨du,rfl⟩:=hr.agg;obtain⟨f1,f2,f3⟩:=hr.cells;refine BZ g2 f1 d1 (by decide) (AK _) f2 (.inl (AK _)) (AQr (Gi (by omega) (by omega) ?_));refine ih _ du (by omega) (Bm g0 (by decide)) (Bm g1 (by decide)) (Be g2) ?_;rw[cq ht];exact hr
 refine loop b.bounds.length _ rc (AN _) rfl rfl rfl ?_;rw[List.drop_length,Hr];exact hr.Km
theorem PK {b:Br} (hs:size b.body<2 ^ 37) (hv:vP wI b.body=true) (hl:b.bounds.length<2 ^ 37) {x:AV} (hx:D3 b x):AL (env R) 31 [x] λr=>A5 (btR b) r:=by
 obtain⟨x',h1,h2,h3⟩:=hx.closed;exact AL.open (args':=[x']) (by rfl) (by rfl) rfl h1 h2 (QX hs hv hl h3)
theorem QY {b:Br} (hsz:size b.body<2 ^ 38) (hv:valid b.body=true) (hl:b.bounds.length<2 ^ 38) (hb:∀t∈b.bounds,size t<2 ^ 38/\RQ t=true) {x:AV} (hx:D3 b x):AL (env R) 29 [x] λr=>A5 (Wn b) r:=by
 obtain⟨x',h1,h2,h3⟩:=hx.closed;exact AL.open (args':=[x']) (by rfl) (by rfl) rfl h1 h2 (RY hsz hv hl hb h3)
end
def gP (N:Nat) (i:Int):Ty:=bif decide (i<N) then ren (ph i.toNat) else var i
def gQ (N:Nat) (i:Int):Ty:=bif decide (i<N) then ph i.toNat else var i
def LS (N:Nat) (t:Ty):Ty:=M4 (gQ N) false t
theorem w8 (N:Nat) (t:Ty) (h:valid t=true):ren (LS N t)=M4 (gP N) false t:=by
 have gen:∀(m:Nat) (t:Ty) (e:Bool),depth t<=m->valid t=true->ren (M4 (gQ N) e t)=M4 (gP N) e t:=by
  intro m
  induction m with
  | zero=>
   intro t e hd;obtain⟨k,n,i,ts⟩:=t
   grind[depth]
  | succ m ih=>
   intro t e hd hv;obtain⟨k,n,i,ts⟩:=t;have Lj:=hv;simp only[valid,AD] at hv;rw[depth] at hd;rw[M4,M4];cases h5:k==5 with
   | true=>
    simp only[AH];unfold gQ gP;cases decide (i<N) with
    | true=>rfl
    | false=>rfl
   | false=>
    simp only[AE];cases h:(k==2||(k==3&&!e)) with
    | true=>
     have h7:k≠7:=by grind
     simp only[AH];rw[Ga _ _ _ _ h7,Bf,MR,MR,N6];congr 1;refine XK λt ht=>?_
     exact ih t _ (by have:=Gx ht; omega) (Bs hv.2 ht)
    | false=>exact I4 _ Lj
 exact gen _ t false (AN _) h
section
variable {R:RT}
theorem AKt (hn:NN R) {p e Aj:Nat} {d:AV} {B:List Ty} (hd:BG d (AP B)) (hB:B.length<2 ^ 37):RnF R 101 p [(p,[.ptr e 0]),(e,[d,AA Aj])] (gP B.length):=by
 intro i y s h0 h1 hy hs hp;have gp:s.bs[p]?=some [.ptr e 0]:=hp (p,[.ptr e 0]) (by simp);have ge:s.bs[e]?=some [d,AA Aj]:=hp (e,[d,AA Aj]) (by simp);have lp:=(BL.1 gp).1;obtain⟨a,rfl,ha⟩:=hy
 have key:∀(gi:Ty) (cs:List AV),A5 gi (.agg cs)->(i<B.length->gi=ren (ph i.toNat)/\AV.agg cs=phA i.toNat)->(¬ i<B.length->gi=var i/\cs=[AA 5,SS [],AA i,a]) ->
   ∀L:A3,L.ro<=s.bs.length->A8 (env R) L 101 [.agg [AA 5,SS [],AA i,a],.ptr p 0] s (.agg cs) s:=by
  intro gi cs hgi hlt hge L hro;obtain⟨c1,c2,c3,c4⟩:=hgi.cells
  obtain⟨v,s',⟨rfl,rfl⟩,hc⟩:=AV6 (R:=R) (L:=L) (s:=s) (t0:=.agg [AA 5,SS [],AA i,a]) (t1:=.ptr p 0) (Post:=λv s'=>v=.agg cs/\s'=s) (by simp[Bb,Ep]) (AKu (by
   refine CT (cs:=[AA 5,SS [],AA i,a]) rfl (by simp[ha.ok]) (Bi ?_);have l1:(s.bs++[[AA 5,SS [],AA i,a]]).length=s.bs.length+1:=by simp
   simp only[l1];have g0:(s.bs++[[AA 5,SS [],AA i,a]]++[Z4])[s.bs.length]?=some [AA 5,SS [],AA i,a]:=Ah (Am _ _) _;have g1:(s.bs++[[AA 5,SS [],AA i,a]]++[Z4])[s.bs.length+1]?=some Z4:=by grind
   have gq:=Ah (Ah gp [AA 5,SS [],AA i,a]) Z4;have gr:=Ah (Ah ge [AA 5,SS [],AA i,a]) Z4;have hT:(s.bs++[[AA 5,SS [],AA i,a]]++[Z4]).take s.bs.length=s.bs:=by simp
   generalize s.bs++[[AA 5,SS [],AA i,a]]++[Z4]=bs at g0 g1 gq gr hT;refine AW (Ak g0) (Ag g0 rfl (JT ?_));rw[Aq (by omega)];refine Ax (AW (Ak g0) (Ax (Ag g0 rfl (Ax (Ag gq rfl (Ax (FG (Ak gr) (Ax (AW (Ak gr) (Ax (Ag (off:=0) gr rfl (Ax (BI (n:=B.length) (by rw[hd.BN,AR]) (Ax (A2 (pk ?_))))))))))))))))
   by_cases hl:i<B.length
   .obtain⟨_,h2⟩:=hlt hl
    rw[Aq hl];have e1:i=((i.toNat:Nat):Int):=by omega
    refine BP (AW (Ak g0) (Ag g0 rfl ?_))
    show EK _ _ _ [AA i] _ _
    rw[e1];refine AG (Ke hn i.toNat (by omega)) ?_;rintro _ rfl;rw[<-h2];refine BZ g1 c1 rfl (by decide) (by show L.ro<=_; omega) c2 (.inl (AK _)) (Af (Be g1) c1 ?_);exact Ti hs ((DV (by omega)).trans hT) (c4 _ _ _) ⟨rfl,rfl⟩
   .obtain⟨_,h2⟩:=hge hl
    subst h2;rw[BF hl];refine BE (AKv (Af g0 rfl (BZ g1 rfl rfl (by decide) (by show L.ro<=_; omega) (by simp[ha.ok]) (.inl (AK _)) (Af (Be g1) rfl ?_))));exact Ti hs ((DV (by omega)).trans hT) (c4 _ _ _) ⟨rfl,rfl⟩))
  exact hc
 by_cases hl:i<B.length
 .have e:gP B.length i=ren (ph i.toNat):=by simp[gP,hl]
  rw[e];have hr:A5 (ren (ph i.toNat)) (phA i.toNat):=⟨.AB [],rfl,.AB _⟩;exact⟨_,hr,key _ _ hr (λ_=>⟨rfl,rfl⟩) (λh=>absurd hl h)⟩
 .have e:gP B.length i=var i:=by simp[gP,hl]
  rw[e];have hr:A5 (var i) (.agg [AA 5,SS [],AA i,a]):=⟨a,rfl,ha⟩;exact⟨_,hr,key _ _ hr (λh=>absurd h hl) (λ_=>⟨rfl,rfl⟩)⟩
theorem w9 (hn:NN R) {e Aj:Nat} {d:AV} {B:List Ty} (hd:BG d (AP B)) (hB:B.length<2 ^ 37) {t:Ty} (hsz:size t<2 ^ 38) (hv:valid t=true) {x:AV} (hx:A5 t x) {s:AM} (hs:Bj s) (ge:s.bs[e]?=some [d,AA Aj]) :
  ∃r,A5 (ren (LS B.length t)) r/\∀L:A3,L.ro<=s.bs.length->A8 (env R) L 58 [.ptr e 0,x] s r s:=by
 have le:=(BL.1 ge).1;obtain⟨y,rfl⟩:=hx.Km.agg;obtain⟨c1,c2,c3,c4⟩:=hx.cells
 have hs1:Bj ⟨s.bs++[[AV.ptr e 0]]++[y]++[Z4],s.ts⟩:=by
  refine Bj.app (s:=⟨s.bs++[[AV.ptr e 0]]++[y],s.ts⟩) (Bj.app (s:=⟨s.bs++[[AV.ptr e 0]],s.ts⟩) (Bj.app (s:=s) hs ?_) ?_) (b:=Z4) rfl
  .simp[Ab,Ai]
   omega
  .exact Bt (AK _) _ c3
 have gp:(s.bs++[[AV.ptr e 0]]++[y]++[Z4])[s.bs.length]?=some [.ptr e 0]:=Ah (Ah (Am _ _) _) _;have gy:(s.bs++[[AV.ptr e 0]]++[y]++[Z4])[s.bs.length+1]?=some y:=by grind
 have gz:(s.bs++[[AV.ptr e 0]]++[y]++[Z4])[s.bs.length+2]?=some Z4:=by grind
 have gE:(s.bs++[[AV.ptr e 0]]++[y]++[Z4])[e]?=some [d,AA Aj]:=Ah (Ah (Ah ge [AV.ptr e 0]) y) Z4;have hT:(s.bs++[[AV.ptr e 0]]++[y]++[Z4]).take s.bs.length=s.bs:=by simp
 obtain⟨r,hr,MP⟩:=UG (AKt (R:=R) hn (p:=s.bs.length) (e:=e) (Aj:=Aj) hd hB) t hsz hv false (.agg y) hx ⟨s.bs++[[AV.ptr e 0]]++[y]++[Z4],s.ts⟩ hs1 (λq hq=>by
  simp only[Az,Ex,Ey] at hq;rcases hq with rfl|rfl
  .exact gp
  .exact gE)
 rw[<-w8 _ _ hv] at hr;refine⟨r,hr,λL hro=>?_⟩;obtain⟨rc,rfl⟩:=hr.Km.agg;obtain⟨d1,d2,d3,d4⟩:=hr.cells
 obtain⟨v,s',⟨rfl,rfl⟩,hc⟩:=m58 (R:=R) (L:=L) (s:=s) (t0:=.ptr e 0) (t1:=.agg y) (Post:=λv s'=>v=.agg rc/\s'=s) (by simp[Bb,Ep]) (AQs (by
  refine CT (cs:=[.ptr e 0]) rfl rfl (CT (cs:=y) rfl c2 (Bi ?_));have l1:(s.bs++[[AV.ptr e 0]]).length=s.bs.length+1:=by simp
  have l2:(s.bs++[[AV.ptr e 0]]++[y]).length=s.bs.length+2:=by simp
  simp only[l1,l2];refine Af gy c1 ⟨_,_,MP _,BZ gz d1 rfl (by decide) (by show L.ro<=_; omega) d2 (.inl (AK _)) (Af (Be gz) d1 ?_)⟩;exact Ti hs ((DV (by omega)).trans hT) (d4 _ _ _) ⟨rfl,rfl⟩))
 exact hc
end
theorem MS:∀{l m:List Int},l.Pairwise (·<·)->m.Pairwise (·<·)->(∀w,w∈l<->w∈m)->l=m
 | [],[],_,_,_=>rfl
 | [],b::m,_,_,h=>by
  have:=(h b).2 (by simp)
  grind
 | a::l,[],_,_,h=>by
  have:=(h a).1 (by simp)
  grind
 | a::l,b::m,hl,hm,h=>by
  rw[List.pairwise_cons] at hl hm
  have e:a=b:=by
   have h1:=(h a).1 (by simp);have h2:=(h b).2 (by simp)
   grind
  subst e;congr 1;refine MS hl.2 hm.2 λw=>?_
  grind
def VB (X:Ty->List Br×Int) (b:Br):Prop:=ib false b.body=true/\verdict b.body=0/\Uj b=true/\(∀v,v<b.bounds.length->Cz v true (LS b.bounds.length b.body)=true) /\
 (∀l:List Int,l.Pairwise (·<·)->(∀w,w∈l<->w∈PU 0 b.body)->l.length=b.bounds.length)/\(KE b.bounds.length (LS b.bounds.length b.body) []).1=b.body/\(b.bounds.all λt=>FD (X t))=true
mutual
theorem UH (N:Nat):∀t:Ty,valid t=true->Fm N t=true
 | .mk k n i ts,h=>by
  have h7:(k==7)=false:=by grind[Gf]
  have hnm:=LL h;simp only[valid,AD] at h;rw[Fm,h7,RF N ts h.2,hnm.1,Aq hnm.2];rfl
theorem RF (N:Nat):∀l:List Ty,Ar l=true->GD N l=true
 | [],_=>rfl
 | t::l,h=>by
  simp only[Ar,AD] at h;rw[GD,UH N t h.1,RF N l h.2];rfl
end
theorem mT {N:Nat}:∀(t:Ty) (e:Bool),valid t=true->Fm N (M4 (gQ N) e t)=true:=by
 have gen:∀(m:Nat) (t:Ty) (e:Bool),depth t<=m->valid t=true->Fm N (M4 (gQ N) e t)=true:=by
  intro m
  induction m with
  | zero=>
   intro t e hd;obtain⟨k,n,i,ts⟩:=t
   grind[depth]
  | succ m ih=>
   intro t e hd hv;obtain⟨k,n,i,ts⟩:=t;have Lj:=hv;have hnm:=LL hv;simp only[valid,AD] at hv;rw[depth] at hd;rw[M4];cases h5:k==5 with
   | true=>
    have:k=5:=by grind
    subst this;obtain⟨_,_,h0⟩:=EA Lj
    grind[gQ,Fm,GD]
   | false=>
    simp only[AE];have h7:(k==7)=false:=by grind[Gf]
    cases h:(k==2||(k==3&&!e)) with
    | true=>
     have gl:∀l:List Ty,(∀t∈l,Fm N t=true)->GD N l=true:=by
      intro l
      induction l with
      | nil=>simp[GD]
      | cons a l ihl=>grind[GD]
     simp only[AH];rw[Fm,h7,MR];simp only[AE,hnm.1,Aq hnm.2,OC,CU];refine gl _ λt ht=>?_
     obtain⟨u,hu,rfl⟩:=Cp.1 ht;exact ih u _ (by have:=Gx hu; omega) (Bs hv.2 hu)
    | false=>
     grind[UH]
 exact λt e=>gen _ t e (AN _)
theorem cr {N:Nat}:∀(m:Nat) (t:Ty) (e:Bool),depth t<=m->size (M4 (gQ N) e t)<=size t:=by
 intro m
 induction m with
 | zero=>
  intro t e hd;obtain⟨k,n,i,ts⟩:=t
  grind[depth]
 | succ m ih=>
  intro t e hd;obtain⟨k,n,i,ts⟩:=t;rw[depth] at hd;rw[M4];cases k==5 with
  | true=>
   grind[size,gQ,AQ]
  | false=>
   cases (k==2||(k==3&&!e)) with
   | false=>simp
   | true=>
    simp only[AE,AH,size]
    have:∀l:List Ty,(∀t∈l,size (M4 (gQ N) (e||k==2) t)<=size t)->AQ (UF (gQ N) (e||k==2) l)<=AQ l:=by
     intro l
     induction l with
     | nil=>simp[UF]
     | cons a l ihl=>grind[UF,AQ]
    have:=this ts λt ht=>ih t _ (by have:=Gx ht; omega)
    omega
section
variable {R:RT}
theorem AQt {k:Nat} {cs:List AV} {a:AV} {K:AV->Prop} (hk:cs.length=k) (h:K (.agg cs)):xA (some k) (.agg (a::cs)) 1 K:=by grind[xA,DQ]
theorem cu {t t':Ty} {x x':AV} (h:size t<2 ^ 38) (hx:BM t x) (hx':BM t' x'):AL (env R) 63 [x,x'] λr=>∃b:Bool,r=BB b/\(b=true<->t=t'):=by
 obtain⟨x1,h1,h2⟩:=hx.closed [] 0;obtain⟨x2,h3,h4⟩:=hx'.closed [] 0;exact AL.open (args':=[x1,x2]) (by rfl) (by rfl) rfl (by simp[*]) (by simp[AU,h2.LN,h4.LN]) (T2 h h2 h4)
theorem QZ (hn:NN R) {X:Ty->List Br×Int} {b:Br} (hsz:size b.body<2 ^ 38) (hok:P3 b.body) (hl:b.bounds.length<2 ^ 30) (hb:∀t∈b.bounds,size t<2 ^ 38/\RQ t=true) (hX:∀t∈b.bounds,lZ R t (X t)) {x:AV} (hx:bQ b x) :
  AL (env R) 27 [x] λr=>∃v:Bool,r=BB v/\(v=true<->VB X b):=by
 have hx':=hx;obtain⟨a,y,rfl,ha,hy⟩:=hx;obtain⟨y1,y2,y3,y4⟩:=hy.cells;refine e27 (u0:=.agg (a::y)) (by simp[ha.close,y4]) (AQu ?_);have AV7:(a::y).all A1=true:=by simp[ha.ok,y2]
 have hlen:∀s,BN s a=some b.bounds.length:=λs=>by rw[ha.BN,AR]
 have no:¬ VB X b->∀s,QP (λr=>∃v:Bool,r=BB v/\(v=true<->VB X b)) (BB false) s:=λh s=>⟨_,Gu,false,rfl,by grind⟩
 refine CT (cs:=a::y) rfl AV7 (AW rfl (VH (a:=a) (cs:=y) rfl y1 (AG (RD b.body hsz false _ hy) ?_)));rintro _ rfl;refine nt ?_;cases hib:ib false b.body with
 | false=>
  exact Cq (Cq (Cq (Cq (pk (Cq (Cq (Cq (pk (BP (no (λh=>by rw[h.1] at hib; grind) _))))))))))
 | true=>
  refine Ax (b:=false) (AW rfl (Ax (b:=false) (VH (a:=a) (cs:=y) rfl y1 (Ax (b:=false) (AG (NL (by omega) hok hy) ?_)))));rintro _ rfl;refine Ax (b:=false) (Fl (pk ?_));cases hvd:verdict b.body==0 with
  | false=>
   have:(verdict b.body != 0)=true:=by grind
   rw[this];exact Cq (Cq (Cq (pk (BP (no (λh=>by have:=h.2.1; grind) _)))))
  | true=>
   have:(verdict b.body != 0)=false:=by grind
   rw[this];have AQv:verdict b.body=0:=by grind
   obtain⟨hv,ACw,_⟩:=ET AQv;have hcv:=Mu b.body;refine Ax (b:=false) (Af (cs:=a::y) rfl (by grind) (Ax (b:=false) (AG (Js hsz (by omega) (by omega) hx') ?_)));rintro _ rfl;refine Ax (b:=false) (nt (pk ?_));cases eD:Uj b with
   | false=>
    have:(decide (b.bounds.length<=6)&&decide ((Al b.body).length<=3))=false:=eD;rw[this];exact BP (no (λh=>by rw[h.2.2.1] at eD; grind) _)
   | true=>
    have:(decide (b.bounds.length<=6)&&decide ((Al b.body).length<=3))=true:=eD;rw[this];refine BE (AQw (AW rfl (Ag rfl rfl (NM (cs:=[a,AA 0]) (by simp[GC,ha.cells,ha.ok,setCells]) (CT (cs:=[a,AA 0]) rfl (by simp_all) (AW rfl (VH (a:=a) (cs:=y) rfl y1 ?_)))))))
    have hs1:Bj ⟨[a::y,[a,AA 0]],[]⟩:=by
     intro c hc;simp only[Az,Ex,Ey] at hc;rcases hc with rfl|rfl
     .exact Bt (AK _) _ (by simp[Ab,ha.Ai,y3])
     .simp[Ab,Ai,ha.Ai]
    obtain⟨r,hr,MP⟩:=w9 (R:=R) hn (e:=1) (Aj:=0) (.inl ha) (by omega) hsz hv hy hs1 rfl;refine⟨_,_,MP _ (AK _),?_⟩;obtain⟨rc,rfl⟩:=hr.Km.agg;obtain⟨c1,c2,c3,c4⟩:=hr.cells;refine Bi (BZ (old:=Z4) rfl c1 rfl (by decide) (AK _) c2 (.inl (AK _)) (AW rfl (Ag rfl rfl (BI (hlen _) ?_))));have hs2:∀ts,Bj ⟨[a::y,[a,AA 0],rc],ts⟩:=λts=>Bj.app (s:=⟨[a::y,[a,AA 0]],ts⟩) hs1 (Bt (AK _) _ c3)
    have Zz:=mT (N:=b.bounds.length) b.body false hv;have hps:size (LS b.bounds.length b.body)<=size b.body:=cr _ b.body false (AN _);have AQx:b.bounds.length<=2 ^ 40:=by omega
    have last:(∀v,v<b.bounds.length->Cz v true (LS b.bounds.length b.body)=true)->xB R 0 0 0 (.ptr 0 0) (.ptr 1 0) (.ptr 2 0) ⟨[a::y,[a,AA 0],rc],[]⟩ (QP λr=>∃v:Bool,r=BB v/\(v=true<->VB X b)):=by
     intro gI;refine AQy (AW rfl (VH (a:=a) (cs:=y) rfl y1 (AG (NT (by omega) (QN _ hv) hy) ?_)));rintro v ⟨l,Ug,Rq,qV⟩;refine BI (n:=l.length) (by rw[Ug.BN,CS]) (AW rfl (Ag rfl rfl (BI (hlen _) (Bd ?_))));have Ji:Tel.CQ a a=true:=BG.CQ (es:=b.bounds) (.inl ha);have g0:∀ts,(AM.mk [a::y,[a,AA 0],rc] ts).bs[0]?=some (a::y):=λts=>rfl
     have agg:∀(K:Prop),K->(BD ⟨[a::y,[a,AA 0],rc],[]⟩ (.ptr 0 0) 0 λv=>Tel.CQ v (.ptr 0 (0+0))=true)/\(EG (env R) ⟨[a::y,[a,AA 0],rc],[]⟩ none (.ptr 0 (0+0)) λv=>Tel.CQ v a=true)/\(BV ⟨[a::y,[a,AA 0],rc],[]⟩ a λv=>Tel.CQ v (AA b.bounds.length)=true)/\K:=λK hK=>
      ⟨AW (Ak (g0 _)) (Ec _ _),Ag (off:=0) (g0 _) rfl Ji,BI (hlen _) (by simp[Tel.CQ,PX,F5]),hK⟩
     have AEr:(∀l:List Int,l.Pairwise (·<·)->(∀w,w∈l<->w∈PU 0 b.body)->l.length=b.bounds.length)<->l.length=b.bounds.length:=by grind[MS]
     cases hlN:((l.length:Int)==(b.bounds.length:Int)) with
     | false=>
      refine Bx (Bx (Bx (Bx (Bx (Bx (Bx (pk (Bx (Bx (Bx (pk (agg _ ⟨Bx rfl,Bx rfl,?_⟩))))))))))));refine no (λh=>?_) _;have:=AEr.1 h.2.2.2.2.1
      grind
     | true=>
      have AV8:l.length=b.bounds.length:=by grind
      obtain⟨v,s',⟨ts',Wj,_,rfl⟩,hc⟩:=Q5 (R:=R) hn (e:=1) AQx hb (p:=LS b.bounds.length b.body) (by omega) Zz hr (hs2 []) (d:=a) (dr:=[AA 0]) rfl (.inl ha) (L:=Cu (env R) 27 0 0 0) rfl rfl;obtain⟨a1,z,rfl,hz1,hz2⟩:=Wj;obtain⟨w1,w2,w3⟩:=hz2.cells;refine Ax (Ax (Af (cs:=rc) rfl c1 (Ax ⟨_,_,hc,Ax (AQt w1 (Ax (AW rfl (Ax (VH (a:=a) (cs:=y) rfl y1 (Ax (AG (cu ?_ hz2 hy.Km) ?_)))))))⟩)))
      .grind[b9]
      rintro _ ⟨e,rfl,he⟩;have he':e=true<->(KE b.bounds.length (LS b.bounds.length b.body) []).1=b.body:=he;cases e with
      | false=>
       refine pk (Bx (Bx (Bx (pk (agg _ ⟨Ax (AW (Ak (g0 [])) (Ec _ _)),Ax (VH (g0 []) y1 (iG hy.Km)),?_⟩)))));refine no (λh=>?_) _;have:=he'.2 h.2.2.2.2.2.1
       grind
      | true=>
       refine pk (Ax (AW rfl (Ax (Ag rfl rfl (Ax (AG (Kj ha hl (λt ht=>(hb t ht).1) hX) ?_))))));rintro _ rfl;refine pk (agg _ ⟨Ax (AW (Ak (g0 [])) (Ec _ _)),Ax (VH (g0 []) y1 (iG hy.Km)),?_⟩);refine⟨_,Gu,_,rfl,?_⟩;refine⟨λh=>⟨hib,AQv,eD,gI,AEr.2 AV8,he'.1 rfl,h⟩,λh=>h.2.2.2.2.2.2⟩
    have loop:∀(j q:Nat),q+j=b.bounds.length->(∀v,v<q->Cz v true (LS b.bounds.length b.body)=true)->mU R 0 0 0 (.ptr 0 0) (.ptr 1 0) (.ptr 2 0) (AA b.bounds.length) (AA q) ⟨[a::y,[a,AA 0],rc],[]⟩ (QP λr=>∃v:Bool,r=BB v/\(v=true<->VB X b)):=by
     intro j
     induction j with
     | zero=>
      grind[AEs,A2,BE]
     | succ j ih=>
      intro q hi hq;refine AEs (A2 ?_);rw[Aq (by omega)];refine BP (AQz (Af (cs:=rc) rfl c1 (AG (MF hn AQx q (LS b.bounds.length b.body) true (by omega) Zz _ hr) ?_)));rintro _ rfl;refine nt ?_;cases ho:Cz q true (LS b.bounds.length b.body) with
      | false=>exact BP (no (λh=>by have:=h.2.2.2.1 q (by omega); grind) _)
      | true=>
       refine BE (AQ0 (CO (by omega) (by omega) (ih (q+1) (by omega) λv hv=>?_)))
       grind
    exact loop b.bounds.length 0 (by omega) λv hv=>by omega
end
mutual
def fl:Ty->Bool
 | .mk k n i ts=>k==0||k==2||k==7||(k==3&&n==[]&&i==0&&flL ts)
def flL:List Ty->Bool
 | []=>true
 | t::l=>fl t&&flL l
end
theorem mV:∀{l:List Ty} {t:Ty},flL l=true->t∈l->fl t=true
 | a::l,t,h,ht=>by
  simp only[flL,AD] at h;rcases Az.1 ht with rfl|ht
  .grind
  .exact mV h.2 ht
theorem cw {ex:Ty->List Ty->FV} {B:List Ty}:∀(l:List Ty) (out:List (List Ty)),(∀t∈l,ex t B=(some [t],B))->EI ex l out B=(some (out++l.map λt=>[t]),B)
 | [],out,_=>by simp[EI]
 | t::l,out,h=>by
  rw[EI,h t (by simp)];simp only;rw[cw l _ λu hu=>h u (by grind)];simp
theorem Wr {Au:Nat->Bool} (h1:Au 1=false):∀(l:List Ty) (out:List Ty),DR Au (l.map λt=>[t]) [out]=some [out++l]
 | [],out=>by simp[DR]
 | t::l,out=>by
  have e:(([out]:List (List Ty)).flatMap λp=>[t].map λx=>p++[x])=[out++[t]]:=rfl;rw[Bz,DR,e];simp only[CI,Ce,Cg,h1,AE];rw[Wr h1 l];simp
theorem pH {Au:Nat->Bool} (h1:Au 1=false):∀(f:Nat) (t:Ty) (B:List Ty),depth t<=f->fl t=true->Ao Au f t B=(some [t],B):=by
 intro f
 induction f with
 | zero=>
  intro t B hd;obtain⟨k,n,i,ts⟩:=t
  grind[depth]
 | succ f ih=>
  intro t B hd hf;obtain⟨k,n,i,ts⟩:=t;rw[depth] at hd;rw[fl] at hf;rw[Ao];cases AV9:k==0||k==2||k==7 with
  | true=>grind
  | false=>
   rw[AV9] at hf;simp only[GU,AD,GX] at hf;obtain⟨⟨⟨rfl,rfl⟩,rfl⟩,hf⟩:=hf;simp only[AE,show((3:Int)==4)=false from rfl,CN,AH];rw[cw ts [] λt ht=>ih t B (by have:=Gx ht; omega) (mV hf ht)];simp only[ED];have:(ts.map λt=>[t]).any List.isEmpty=false:=by simp
   simp[*,Wr]
mutual
theorem AEt:∀t:Ty,fl t=true->wt t<=size t
 | .mk k n i ts,h=>by
  rw[fl] at h;rw[wt,size];have h6:(k==6)=false:=by grind
  cases h3:k==3 with
  | true=>
   have hl:flL ts=true:=by grind
   have:=xD ts hl
   grind
  | false=>
   grind
theorem xD:∀l:List Ty,flL l=true->(gL l).sum<=AQ l
 | [],_=>by simp[gL]
 | t::l,h=>by
  simp only[flL,AD] at h;have h1:=AEt t h.1;have h2:=xD l h.2
  grind[gL,AQ]
end
def SB (B:Nat):Nat->List Nat->List Nat
 | 0,σ=>σ
 | m+1,σ=>SB (B+1) m (B::σ)
theorem mW {σ:List Nat} {b y:Ty} (hv:valid b=true) (hc:BW 0 b=true):inst σ 0 (.mk 6 [] 0 [b,y])=.mk 6 [] 0 [b,inst σ 1 y]:=by
 have e:inst σ 0 (.mk 6 [] 0 [b,y])=.mk 6 [] 0 [inst σ 0 b,inst σ 1 y]:=rfl
 grind[HF]
theorem mX {u:Nat} {b y:Ty} (h:BW u (.mk 6 [] 0 [b,y])=true):BW (1+u) y=true:=by
 have:=DI h (by decide);simp only[C7,AD] at this;have h2:=this.2.1;rw[Kv];exact h2
theorem Mw {Aj:Nat} (Ug:1<=Aj) {body:Ty}:∀(l:List Ty) (F:Nat) (σ:List Nat) (B:List Ty),depth (Hr l body)<=F->valid (Hr l body)=true->BW σ.length (Hr l body)=true->fl (inst (SB B.length l.length σ) 0 body)=true ->
  (∀j,j<l.length->Cz (B.length+j) true (inst (SB B.length l.length σ) 0 body)=true)->Ao (Ac Aj) F (inst σ 0 (Hr l body)) B=(some [inst (SB B.length l.length σ) 0 body],B++l)
 | [],F,σ,B,hd,hv,_,hf,_=>by grind[Hr,SB,pH,F8]
 | b::l,F,σ,B,hd,hv,hc,hf,ho=>by
  rw[Hr] at hd hv hc ⊢;have hcy:=mX hc;obtain⟨F,rfl⟩:∃F',F=F'+1:=⟨F-1,by grind[depth]⟩;have Lj:=hv;simp only[valid,Ar,AD] at hv;obtain⟨hroot,J9,Lp,_⟩:=hv;rcases Jr hroot with h|h|h|h|h|h|⟨_,_,_,b',body',hts,hcb⟩
  iterate 6 exact absurd h (by simp)
  cases hts;have e1:inst σ 0 (.mk 6 [] 0 [b,Hr l body])=.mk 6 [] 0 [b,inst σ 1 (Hr l body)]:=mW J9 hcb;have O4:sub B.length 0 (inst σ 1 (Hr l body))=inst (B.length::σ) 0 (Hr l body):=H9 B.length σ (Hr l body) 0 Lp (by omega);have et:Ao (Ac Aj) (F+1) (.mk 6 [] 0 [b,inst σ 1 (Hr l body)]) B=VD Aj (Ao (Ac Aj) F) b (inst σ 1 (Hr l body)) B:=by rfl
  have hlen:(B++[b]).length=B.length+1:=by simp
  have xE:SB (B++[b]).length l.length (B.length::σ)=SB B.length (b::l).length σ:=by rw[hlen]; rfl
  have ih:=Mw Ug l F (B.length::σ) (B++[b]) (by grind[depth,CE]) Lp (by grind) (by grind) (λj hj=>by
   rw[xE,hlen];have:=ho (j+1) (by grind)
   grind)
  rw[xE] at ih;rw[e1,et,VD,O4,ih];have h0:=ho 0 (by simp)
  grind[CX,Bl]
section
variable {R:RT}
theorem Ws (hn:NN R) {e Aj M:Nat} (Ug:1<=Aj) (Hg:Aj<2 ^ 20) (hM:M<2 ^ 37) {body:Ty}:∀(l:List Ty) (F:Nat) (σ:List Nat) (B:List Ty),depth (Hr l body)<=F->valid (Hr l body)=true->BW σ.length (Hr l body)=true->size (Hr l body)<2 ^ 9->fl (inst (SB B.length l.length σ) 0 body)=true ->
  (∀j,j<l.length->Cz (B.length+j) true (inst (SB B.length l.length σ) 0 body)=true)->(∀x∈σ,x<B.length)->(∀b∈l,wt b<=2 ^ 27)->B.length+l.length<=M->∀x,BM (ren (inst σ 0 (Hr l body))) x->∀s,Bj s ->
  Ui R e Aj 44 [x] (some [inst (SB B.length l.length σ) 0 body],B++l) B s
 | [],F,σ,B,hd,hv,hc,hsz,hf,ho,hσ,hw,hBM,x,hx,s,hs=>by
  have he:=Mw (Aj:=Aj) Ug [] F σ B hd hv hc hf ho
  grind[Hr,F8,AEt,MM]
 | b::l,F,σ,B,hd,hv,hc,hsz,hf,ho,hσ,hw,hBM,x,hx,s,hs=>by
  have he:=Mw (Aj:=Aj) Ug (b::l) F σ B hd hv hc hf ho;rw[Hr] at hd hv hc hsz hx he;obtain⟨F,rfl⟩:∃F',F=F'+1:=⟨F-1,by grind[depth]⟩;have HM:=hc;simp only[valid,Ar,AD] at hv;obtain⟨hroot,J9,Lp,_⟩:=hv;rcases Jr hroot with h|h|h|h|h|h|⟨_,_,_,b',body',hts,hcb⟩
  iterate 6 exact absurd h (by simp)
  cases hts;have e1:inst σ 0 (.mk 6 [] 0 [b,Hr l body])=.mk 6 [] 0 [b,inst σ 1 (Hr l body)]:=mW J9 hcb;have et:Ao (Ac Aj) (F+1) (.mk 6 [] 0 [b,inst σ 1 (Hr l body)]) B=VD Aj (Ao (Ac Aj) F) b (inst σ 1 (Hr l body)) B:=by rfl
  have hcy:=mX hc;have hlen:(B++[b]).length=B.length+1:=by simp
  have xE:SB (B++[b]).length l.length (B.length::σ)=SB B.length (b::l).length σ:=by rw[hlen]; rfl
  simp only[depth,CE] at hd;simp only[size,AQ] at hsz
  have ho':∀j,j<l.length->Cz ((B++[b]).length+j) true (inst (SB (B++[b]).length l.length (B.length::σ)) 0 body)=true:=by
   intro j hj;rw[xE,hlen];have:=ho (j+1) (by grind)
   grind
  have hey:=Mw (Aj:=Aj) Ug l F (B.length::σ) (B++[b]) (by omega) Lp (by grind) (by grind) ho';have ihy:=λ(x:AV) hx s hs=>Ws hn (e:=e) Ug Hg hM l F (B.length::σ) (B++[b]) (by omega) Lp (by grind) (by omega) (by grind) ho' (λy hy=>by grind) (λc hc=>hw c (by grind)) (by grind) x hx s hs
  rw[e1] at hx he;rw[et] at he;rw[<-he];have qX:=hw b (by simp)
  have hsy:size (inst (SB B.length (b::l).length σ) 0 body)<=size (Hr l body):=by
   have gen:∀l:List Ty,valid (Hr l body)=true->valid body=true/\size body<=size (Hr l body):=by
    intro l
    induction l with
    | nil=>exact λh=>⟨h,AN _⟩
    | cons a l ih=>
     grind[Hr,valid,Ar,size,AQ]
   grind[F8]
  have hcn:=LI (λi=>i==(B.length:Int)) (inst (SB B.length (b::l).length σ) 0 body);refine WV hn Hg hM J9 hcb Lp hcy (by omega) (S:=2 ^ 36+2 ^ 10) (by decide) ?_ hσ ?_ ?_ ?_ hx hs
  .intro l' hl' t ht
   rw[hey] at hl';simp only[Aw] at hl';subst hl';rw[xE] at ht;simp only[DF] at ht;subst ht;have:BH (λi=>i==(B.length:Int)) (inst (SB B.length (b::l).length σ) 0 body)*wt b<=2 ^ 9*2 ^ 27:=OG (by omega) qX;omega
  .intro B' eF x hx s hs
   have:=MM (R:=R) hn (e:=e) Ug Hg hM F b [] (by omega) J9 hcb (by omega) (by omega) B' (λy hy=>by grind) (by grind[DT]) x (by grind[DT]) s hs
   grind[DT]
  all_goals grind
end
def nOk (n:List UInt8) (i:Int) (ts:List Ty):Bool:=i==0&&(L8 n&&(!Ll.contains n&&decide (ts.length<=6)))
mutual
def wP:Ty->Bool
 | .mk k n i ts=>bif k==5 then n==[]&&ts.isEmpty else bif k==2 then nOk n i ts&&SC ts else P5 (.mk k n i ts)
def SC:List Ty->Bool
 | []=>true
 | t::l=>wP t&&SC l
end
mutual
def wB:Ty->Bool
 | .mk k n i ts=>bif k==5 then n==[]&&ts.isEmpty else bif k==0 then n==[]&&(i==0&&ts.isEmpty) else bif k==2 then nOk n i ts&&SC ts else k==3&&(n==[]&&(i==0&&(decide (ts.length<=6)&&Kn ts)))
def Kn:List Ty->Bool
 | []=>true
 | t::l=>wB t&&Kn l
end
structure Ms where
 c:List Nat->Nat
 nm:Ty->Nat
 mono:∀l m,CG (·<=·) l m->c l<=c m
 map:∀(g:Int->Int) (n:List UInt8) (i:Int) (ts:List Ty),SC ts=true->nm (.mk 2 n i (BU (λi=>var (g i)) ts))=nm (.mk 2 n i ts)
mutual
def wz (M:Ms) (ω:Int->Nat):Ty->Nat
 | .mk k n i ts=>bif k==5 then ω i else bif k==3 then M.c (VM M ω ts) else M.nm (.mk k n i ts)
def VM (M:Ms) (ω:Int->Nat):List Ty->List Nat
 | []=>[]
 | t::l=>wz M ω t::VM M ω l
end
mutual
theorem Mx (M:Ms) {ω ω':Int->Nat} (h:∀i,ω i<=ω' i):∀t:Ty,wz M ω t<=wz M ω' t
 | .mk k n i ts=>by
  have:=cx M h ts;rw[wz,wz];cases k==5 with
  | true=>grind
  | false=>
   cases k==3 with
   | true=>exact M.mono _ _ this
   | false=>simp
theorem cx (M:Ms) {ω ω':Int->Nat} (h:∀i,ω i<=ω' i):∀l:List Ty,CG (·<=·) (VM M ω l) (VM M ω' l)
 | []=>trivial
 | t::l=>⟨Mx M h t,cx M h l⟩
end
mutual
theorem LU (M:Ms) (ω:Int->Nat) (g:Int->Int):∀t:Ty,wB t=true->wz M ω (BR (λi=>var (g i)) t)=wz M (λi=>ω (g i)) t
 | .mk k n i ts,hw=>by
  rw[wB] at hw;rw[BR,wz];cases h5:k==5 with
  | true=>rfl
  | false=>
   rw[h5] at hw;cases h3:k==3 with
   | true=>
    have h0:(k==0)=false:=by grind
    have h2:(k==2)=false:=by grind
    rw[h0,h2,h3] at hw;simp only[AE,CU,AD] at hw;simp only[AE,AH,Df,wz,h5,h3,mY M ω g ts hw.2.2.2]
   | false=>
    cases h2:k==2 with
    | true=>
     have:k=2:=by grind
     subst this;simp only[show((2:Int)==0)=false from rfl,CN,AE,AH,AD] at hw;simp only[AE,AH,Dg,wz,h5,h3];exact M.map g n i ts hw.2
    | false=>grind[wz]
theorem mY (M:Ms) (ω:Int->Nat) (g:Int->Int):∀l:List Ty,Kn l=true->VM M ω (BU (λi=>var (g i)) l)=VM M (λi=>ω (g i)) l
 | [],_=>rfl
 | t::l,h=>by
  simp only[Kn,AD] at h;rw[BU,VM,VM,LU M ω g t h.1,mY M ω g l h.2]
end
theorem Wt:∀l:List Nat,CG (·<=·) l l
 | []=>trivial
 | _::l=>⟨AN _,Wt l⟩
mutual
theorem AEu (M:Ms) {ω:Int->Nat} {c:Ty} {w:Int} (hc:wz M ω c<=ω w):∀(b:Ty) (k:Nat),(Al b)[k]?=some w->wz M ω (M1 c b k)<=wz M ω b
 | .mk k n i ts,j,h=>by
  rw[Al] at h;rw[M1];cases h5:k==5 with
  | true=>
   grind[wz]
  | false=>
   rw[h5] at h;cases h3:k==3 with
   | true=>
    rw[h3] at h;simp only[AE,AH] at h ⊢;rw[wz,wz,h5,h3];exact M.mono _ _ (xH M hc ts j h)
   | false=>simp
theorem xH (M:Ms) {ω:Int->Nat} {c:Ty} {w:Int} (hc:wz M ω c<=ω w):∀(l:List Ty) (k:Nat),(CL l)[k]?=some w->CG (·<=·) (VM M ω (HN c l k)) (VM M ω l)
 | [],_,h=>by grind[CL]
 | t::l,k,h=>by
  rw[CL] at h;rw[HN]
  by_cases hk:k<(Al t).length
  .rw[Cf hk] at h
   rw[Aq hk];exact⟨AEu M hc t k h,Wt _⟩
  .rw[Ev (by omega)] at h
   rw[BF hk];exact⟨AN _,xH M hc l _ h⟩
end
theorem mZ (M:Ms) (ω:Int->Nat):∀l m:List Ty,VM M ω (l++m)=VM M ω l++VM M ω m
 | [],_=>rfl
 | t::l,m=>by rw[Eu,VM,VM,mZ M ω l m]; rfl
theorem AEv {i:Int} {n:List UInt8} {ts:List Ty} (h:root 2 n i ts=true):nOk n i ts=true/\D6 ts=true:=by grind[root,shape,nOk]
mutual
theorem xJ:∀t:Ty,valid t=true->plain t=true->wP t=true
 | .mk k n i ts,h,hp=>by
  have h':=h;simp only[valid,AD] at h;rw[wP];cases h5:k==5 with
  | true=>
   have:k=5:=by grind
   subst this;obtain⟨rfl,rfl,_⟩:=EA h';rfl
  | false=>
   cases h2:k==2 with
   | true=>
    have:k=2:=by grind
    subst this;obtain⟨r1,r2⟩:=AEv h.1;simp only[AE,AH,r1,CU];exact Qa ts h.2 r2
   | false=>
    grind[plain,P5]
theorem Qa:∀l:List Ty,Ar l=true->D6 l=true->SC l=true
 | [],_,_=>rfl
 | t::l,h,hp=>by
  simp only[Ar,AD] at h;simp only[D6,AD] at hp;rw[SC,xJ t h.1 hp.1,Qa l h.2 hp.2];rfl
end
theorem Qb (f:Int->Ty):∀l:List Ty,(BU f l).length=l.length
 | []=>rfl
 | t::l=>by rw[BU,CI,CI,Qb f l]
theorem mb {n:List UInt8} {i:Int} {ts:List Ty} (f:Int->Ty):nOk n i (BU f ts)=nOk n i ts:=by grind[nOk,Qb]
mutual
theorem AKw (g:Int->Int):∀t:Ty,wP t=true->wP (BR (λi=>var (g i)) t)=true
 | .mk k n i ts,h=>by
  rw[wP] at h;rw[BR];cases h5:k==5 with
  | true=>rfl
  | false=>
   rw[h5] at h;cases h2:k==2 with
   | true=>
    rw[h2] at h;simp only[AE,AH,AD] at h;simp only[AE,AH,Dg,wP,h5,h2,mb,h.1,ZE g ts h.2,Fw]
   | false=>
    rw[h2] at h;simp only[AE] at h;have:=Hu _ (λi=>var (g i)) h
    grind[BR,wP]
theorem ZE (g:Int->Int):∀l:List Ty,SC l=true->SC (BU (λi=>var (g i)) l)=true
 | [],_=>rfl
 | t::l,h=>by
  simp only[SC,AD] at h;rw[BU,SC,AKw g t h.1,ZE g l h.2];rfl
end
mutual
theorem KB (g:Int->Int):∀t:Ty,wB t=true->wB (BR (λi=>var (g i)) t)=true
 | .mk k n i ts,h=>by
  rw[wB] at h;rw[BR];cases h5:k==5 with
  | true=>rfl
  | false=>
   rw[h5] at h;cases h2:k==2 with
   | true=>
    simp_all[wB,mb,ZE]
   | false=>
    cases h3:k==3 with
    | true=>
     have h0:(k==0)=false:=by grind
     rw[h2,h0,h3] at h;simp only[AE,CU,AD] at h;simp only[AE,AH,Df,wB,h5,h2,h0,h3,CU,Qb,h.1,h.2.1,h.2.2.1,mg g ts h.2.2.2,Fw]
    | false=>
     grind[wB]
theorem mg (g:Int->Int):∀l:List Ty,Kn l=true->Kn (BU (λi=>var (g i)) l)=true
 | [],_=>rfl
 | t::l,h=>by
  simp only[Kn,AD] at h;rw[BU,Kn,KB g t h.1,mg g l h.2];rfl
end
theorem cy (c:Ty):∀(l:List Ty) (k:Nat),(HN c l k).length=l.length
 | [],_=>rfl
 | t::l,k=>by
  rw[HN];cases decide (k<(Al t).length) with
  | true=>rfl
  | false=>simp only[AE,CI,cy c l _]
mutual
theorem AEw {c:Ty} (hc:wB c=true):∀(b:Ty) (k:Nat),wB b=true->wB (M1 c b k)=true
 | .mk k n i ts,j,h=>by
  have h':=h;rw[wB] at h;rw[M1];cases h5:k==5 with
  | true=>grind
  | false=>
   cases h3:k==3 with
   | true=>
    have h0:(k==0)=false:=by grind
    have h2:(k==2)=false:=by grind
    rw[h5,h2,h0,h3] at h;simp only[AE,CU,AD] at h;simp only[AE,AH,wB,h5,h2,h0,h3,CU,cy,h.1,h.2.1,h.2.2.1,xK hc ts j h.2.2.2,Fw]
   | false=>grind
theorem xK {c:Ty} (hc:wB c=true):∀(l:List Ty) (k:Nat),Kn l=true->Kn (HN c l k)=true
 | [],_,_=>rfl
 | t::l,k,h=>by
  simp only[Kn,AD] at h;rw[HN];cases decide (k<(Al t).length) with
  | true=>simp only[AH,Kn,AEw hc t k h.1,h.2,Fw]
  | false=>simp only[AE,Kn,xK hc l _ h.2,h.1,Fw]
end
theorem mh:∀l m:List Ty,Kn (l++m)=(Kn l&&Kn m)
 | [],_=>by rfl
 | t::l,m=>by rw[Eu,Kn,Kn,mh l m,Mb]
mutual
theorem AQ1:∀t:Ty,wP t=true->pl t=true
 | .mk k n i ts,h=>by
  rw[wP] at h;rw[pl];cases h5:k==5 with
  | true=>grind
  | false=>
   rw[h5] at h;cases h2:k==2 with
   | true=>
    rw[h2] at h;simp only[AE,AH,AD] at h;exact iT ts h.2
   | false=>grind
theorem iT:∀l:List Ty,SC l=true->U6 l=true
 | [],_=>rfl
 | t::l,h=>by
  simp only[SC,AD] at h;rw[U6,AQ1 t h.1,iT l h.2];rfl
end
mutual
theorem NU:∀t:Ty,wB t=true->bd t=true
 | .mk k n i ts,h=>by
  rw[wB] at h;rw[bd];cases h5:k==5 with
  | true=>grind
  | false=>
   rw[h5] at h;cases h2:k==2 with
   | true=>
    grind[iT]
   | false=>
    cases h3:k==3 with
    | true=>
     have h0:(k==0)=false:=by grind
     rw[h2,h0,h3] at h;simp only[AE,CU,AD] at h;exact xN ts h.2.2.2
    | false=>
     rw[h2,h3] at h;cases h0:k==0 with
     | true=>
      have:k=0:=by grind
      subst this;simp only[h0,AE,AH,AD,GX,Dx] at h;obtain⟨rfl,rfl,rfl⟩:=h;rfl
     | false=>grind
theorem xN:∀l:List Ty,Kn l=true->MA l=true
 | [],_=>rfl
 | t::l,h=>by
  simp only[Kn,AD] at h;rw[MA,NU t h.1,xN l h.2];rfl
end
mutual
theorem mj (p:Int->Bool) (c:Ty):∀(b:Ty) (k:Nat),oI p b=true->oI p (M1 c b k)=true
 | .mk k n i ts,j,h=>by
  have h':=h;rw[oI] at h;rw[M1];cases h5:k==5 with
  | true=>
   grind
  | false=>
   cases h3:k==3 with
   | true=>
    have h2:(k==2)=false:=by grind
    rw[h2,h3] at h;simp only[AE,CU] at h;simp only[AE,AH,oI,h2,h3,CU,cz p c ts j h]
   | false=>grind
theorem cz (p:Int->Bool) (c:Ty):∀(l:List Ty) (k:Nat),KV p l=true->KV p (HN c l k)=true
 | [],_,h=>by cases h
 | t::l,k,h=>by
  rw[KV] at h;rw[HN];rcases XY.1 h with h|h
  .cases decide (k<(Al t).length) with
   | true=>simp only[AH,KV,mj p c t k h,Dg]
   | false=>grind[KV]
  .cases decide (k<(Al t).length) with
   | true=>grind[KV]
   | false=>simp only[AE,KV,cz p c l _ h,Df]
end
mutual
theorem xQ (p:Int->Bool) {c:Ty} (hc:oI p c=true):∀(b:Ty) (k:Nat),k<(Al b).length->oI p (M1 c b k)=true
 | .mk k n i ts,j,h=>by
  rw[Al] at h;rw[M1];cases h5:k==5 with
  | true=>
   grind
  | false=>
   rw[h5] at h;cases h3:k==3 with
   | true=>
    have h2:(k==2)=false:=by grind
    rw[h3] at h;simp only[AE,AH] at h;simp only[AE,AH,oI,h2,h3,CU,mo p hc ts j h]
   | false=>grind
theorem mo (p:Int->Bool) {c:Ty} (hc:oI p c=true):∀(l:List Ty) (k:Nat),k<(CL l).length->KV p (HN c l k)=true
 | [],k,h=>by grind[CL]
 | t::l,k,h=>by
  rw[CL,B7] at h;rw[HN]
  by_cases hk:k<(Al t).length
  .rw[Aq hk]
   simp only[AH,KV,xQ p hc t k hk,Dg]
  .rw[BF hk]
   simp only[AE,KV,mo p hc l (k-(Al t).length) (by omega),Df]
end
theorem mq (p:Int->Bool):∀l m:List Ty,KV p (l++m)=(KV p l||KV p m)
 | [],_=>by rfl
 | t::l,m=>by rw[Eu,KV,KV,mq p l m,Bool.or_assoc]
def om (ρ:List Nat) (i:Int):Nat:=bif decide (0<=i) then 1 else ρ.getD (-1-i).toNat 1
def rm (ρ:List Nat) (w:Nat) (i:Int):Nat:=bif i==hole then w else om ρ i
def mx:List Nat->Nat
 | []=>0
 | a::l=>max a (mx l)
theorem AEx {a:Nat}:∀{l:List Nat},a∈l->a<=mx l
 | b::l,h=>by
  rw[mx];rcases Az.1 h with rfl|h
  .omega
  .have:=AEx h
   omega
mutual
def sz (M:Ms):Ty->List Nat->Nat
 | .mk k n i ts,ρ=>bif k==5 then ρ.getD i.toNat 1 else bif k==3 then M.c (szl M ts ρ) else bif k==4 then mx (szl M ts ρ) else bif k==6 then szx M ts ρ else M.nm (.mk k n i ts)
def szl (M:Ms):List Ty->List Nat->List Nat
 | [],_=>[]
 | t::l,ρ=>sz M t ρ::szl M l ρ
def szx (M:Ms):List Ty->List Nat->Nat
 | [],_=>0
 | b::l,ρ=>szh M l (max 1 (sz M b [])::ρ)
def szh (M:Ms):List Ty->List Nat->Nat
 | [],_=>0
 | t::_,ρ=>sz M t ρ
end
theorem PL (M:Ms) (ρ:List Nat):∀l:List Ty,szl M l ρ=l.map λt=>sz M t ρ
 | []=>rfl
 | t::l=>by rw[szl,PL M ρ l]; rfl
mutual
theorem ZF (M:Ms):∀(t:Ty) (ρ σ τ:List Nat),valid t=true->BW ρ.length t=true->sz M t (ρ++σ)=sz M t (ρ++τ)
 | .mk k n i ts,ρ,σ,τ,hv,hc=>by
  have Lj:=hv;simp only[valid,AD] at hv;rw[sz,sz];cases h5:k==5 with
  | true=>
   have:k=5:=by grind
   subst this;obtain⟨rfl,rfl,h0⟩:=EA Lj
   grind[BW]
  | false=>
   have Ba:=DI hc (by grind);simp only[AE];cases h6:k==6 with
   | true=>
    have:k=6:=by grind
    subst this;rcases Jr hv.1 with h|h|h|h|h|h|⟨_,_,_,b,body,rfl,hcb⟩
    iterate 6 exact absurd h (by simp)
    simp only[Ar,AD] at hv;simp only[C7,AD] at Ba;have hcy:BW (max 1 (sz M b [])::ρ).length body=true:=Ba.2.1;have:=ZF M body (max 1 (sz M b [])::ρ) σ τ hv.2.2.1 hcy;exact this
   | false=>
    have h6':k≠6:=by grind
    have:=c8 M ts ρ σ τ hv.2 (λt ht=>FF h6' Ba ht)
    grind
theorem c8 (M:Ms):∀(l:List Ty) (ρ σ τ:List Nat),Ar l=true->(∀t∈l,BW ρ.length t=true)->szl M l (ρ++σ)=szl M l (ρ++τ)
 | [],_,_,_,_,_=>rfl
 | t::l,ρ,σ,τ,hv,hc=>by
  simp only[Ar,AD] at hv;rw[szl,szl,ZF M t ρ σ τ hv.1 (hc t (by simp)),c8 M l ρ σ τ hv.2 λu hu=>hc u (by grind)]
end
mutual
theorem UI (M:Ms) {ω ω':Int->Nat}:∀t:Ty,(∀i∈Al t,ω i<=ω' i)->wz M ω t<=wz M ω' t
 | .mk k n i ts,h=>by
  rw[Al] at h;rw[wz,wz];cases h5:k==5 with
  | true=>grind
  | false=>
   rw[h5] at h;cases h3:k==3 with
   | true=>rw[h3] at h; exact M.mono _ _ (Wu M ts h)
   | false=>simp
theorem Wu (M:Ms) {ω ω':Int->Nat}:∀l:List Ty,(∀i∈CL l,ω i<=ω' i)->CG (·<=·) (VM M ω l) (VM M ω' l)
 | [],_=>trivial
 | t::l,h=>by
  rw[CL] at h;exact⟨UI M t λi hi=>h i (by grind),Wu M l λi hi=>h i (by grind)⟩
end
mutual
theorem mz {p q:Int->Bool} (h:∀i,p i=true->q i=true):∀t:Ty,oA p t=true->oA q t=true
 | .mk k n i ts,ht=>by
  rw[oA] at ht ⊢;cases h5:k==5 with
  | true=>grind
  | false=>
   rw[h5] at ht;simp only[AE,AD] at ht ⊢;exact⟨ht.1,c9 h ts ht.2⟩
theorem c9 {p q:Int->Bool} (h:∀i,p i=true->q i=true):∀l:List Ty,ZW p l=true->ZW q l=true
 | [],hl=>by cases hl
 | t::l,hl=>by
  rw[ZW] at hl ⊢;rcases XY.1 hl with hl|hl
  .rw[mz h t hl,Dg]
  .rw[c9 h l hl,Df]
end
mutual
theorem ZG {p q:Int->Bool} (h:∀i,p i=true->q i=true):∀t:Ty,oI p t=true->oI q t=true
 | .mk k n i ts,ht=>by
  rw[oI] at ht ⊢;cases h2:k==2 with
  | true=>grind[mz]
  | false=>
   rw[h2] at ht;simp only[AE,AD] at ht ⊢;exact⟨ht.1,dA h ts ht.2⟩
theorem dA {p q:Int->Bool} (h:∀i,p i=true->q i=true):∀l:List Ty,KV p l=true->KV q l=true
 | [],hl=>by cases hl
 | t::l,hl=>by
  rw[KV] at hl ⊢;rcases XY.1 hl with hl|hl
  .rw[ZG h t hl,Dg]
  .rw[dA h l hl,Df]
end
theorem UJ {g:Int->Int} {i j:Int} (hg:g i=j) {t:Ty} (hb:bd t=true) (h:oI (·==i) t=true):oI (·==j) (BR (λi=>var (g i)) t)=true:=by
 rw[fy _ _ _ hb]
 grind[ZG]
structure ZH (M:Ms) (ω:Int->Nat) (S:Nat) (b:Br):Prop where
 wb:wB b.body=true
 inv:∀i:Nat,i<b.bounds.length->oI (·==(i:Int)) b.body=true
 NR:wz M ω b.body<=S
section
variable {Au:Nat->Bool} {M:Ms}
theorem AEy (ρ:List Nat) {w:Nat} (hw:1<=w) (n:Nat) (i:Int):om ρ (bif i==-1 then(n:Int) else bif decide (i<0) then i+1 else i)<=om (w::ρ) i:=by
 by_cases h1:i=-1
 .simp[*,om]
 .by_cases h2:i<0
  .have e1:(i==-1)=false:=by grind
   have e2:((-1-i).toNat)=(-1-(i+1)).toNat+1:=by omega
   have e3:decide (0<=i)=false:=by grind
   have e4:decide (0<=i+1)=false:=by grind
   grind[om,List.getD_cons_succ]
  grind[om]
theorem AC1 {ρ:List Nat} {w S:Nat} {b c:Br} {k:Nat} (hb:ZH M (rm ρ w) S b) (hk:H8 b.body=some k) (hc:ZH M (om ρ) w c) {W:Nat} (hcG:Q9 W c) (hs:((b.bounds.length+c.bounds.length:Nat):Int)<hole):ZH M (rm ρ w) S (Eh b k c):=by
 obtain⟨f1,f2⟩:=E7 hk;have hkl:k<(Al b.body).length:=(BL.1 f1).1;have hsw:wB (Je b.bounds.length c.body)=true:=by rw[Nv]; exact KB _ _ hc.wb
 refine⟨AEw hsw _ _ hb.wb,λi hi=>?_,?_⟩
 .have hi:i<b.bounds.length+c.bounds.length:=by grind[Eh]
  by_cases h:i<b.bounds.length
  .exact mj _ _ _ _ (hb.inv i h)
  .refine xQ _ ?_ _ _ hkl
   rw[Nv];refine UJ (i:=((i-b.bounds.length:Nat):Int)) ?_ (NU _ hc.wb) (hc.inv _ (by omega))
   grind
 .refine A6 (AEu M (w:=hole) ?_ b.body k f1) hb.NR
  have e:rm ρ w hole=w:=by rfl
  rw[e,Nv,LU _ _ _ _ hc.wb];refine A6 (UI M _ λi hi=>?_) hc.NR
  have hnh:i≠hole:=λhe=>by
   have:=MZ.1 hcG.nh
   grind
  have hin:=SA _ hcG.ok i hi
  grind[rm,om]
theorem nA {ρ:List Nat} {w S T wv W:Nat} {l:List Br} (hl:∀c∈l,ZH M (om ρ) w c/\Q9 W c/\c.bounds.length<=wv) (hT:(T:Int)<hole):∀(f:Nat) (b:Br) (r:List Br),ZH M (rm ρ w) S b->vP (VF b.bounds.length) b.body=true->b.bounds.length+(Al b.body).count hole*wv<=T ->
  HE Au l f b=some r->∀d∈r,ZH M (rm ρ w) S d
 | 0,b,r,hb,_,_,h,d,hd=>by grind[HE]
 | f+1,b,r,hb,hG,hTb,h,d,hd=>by
  rw[HE] at h;cases hk:H8 b.body with
  | none=>
   grind
  | some k=>
   rw[hk] at h;rcases JN h d hd with h' | ⟨c,h1,s,h2,h3⟩
   .grind
   .obtain⟨hc,hcG,hcw⟩:=hl c h1
    have hpos:0<(Al b.body).count hole:=by
     have hfs:=E7 hk
     grind
    have m0:1*wv<=(Al b.body).count hole*wv:=CJ _ hpos;have hs:((b.bounds.length+c.bounds.length:Nat):Int)<hole:=by omega
    obtain⟨g1,g2,g3,_⟩:=lQ hG hk hcG hs;have el:(Eh b k c).bounds.length=b.bounds.length+c.bounds.length:=by simp[Eh]
    have m2:(Al b.body).count hole*wv=(Al (Eh b k c).body).count hole*wv+wv:=by rw[<-g3,Md]
    exact nA hl hT f _ s (AC1 hb hk hc hcG hs) g1 (by omega) h2 d h3
theorem xS {ρ:List Nat} {w S T wv W V:Nat} (hw:1<=w) {YM:Option (List Br)} {bound:Ty} {b:Br} (hb:ZH M (om (w::ρ)) S b) (hG:Q9 V b) (hl:∀l,YM=some l->∀c∈l,ZH M (om ρ) w c/\Q9 W c/\c.bounds.length<=wv) (hT:(T:Int)<hole) (hbT:b.bounds.length+(Al b.body).length*wv<=T) {r:List Br} (h:JM Au YM bound b=some r):∀d∈r,ZH M (om ρ) S d:=by
 have hs:((b.bounds.length:Nat):Int)<hole:=by omega
 have hbd:=NU _ hb.wb;have hwi:wB (Mm b.bounds.length b.body)=true:=by rw[LF]; exact KB _ _ hb.wb
 have inv1:∀i:Nat,i<b.bounds.length->oI (·==(i:Int)) (Mm b.bounds.length b.body)=true:=λi hi=>by
  rw[LF];refine UJ ?_ hbd (hb.inv i hi);rfl
 obtain⟨b1,b2,b3⟩:=AO5 hG hs;obtain⟨r1,r2⟩:=AO6 b1 hs;intro d hd;unfold JM at h;cases ho:oI (·==(b.bounds.length:Int)) (Mm b.bounds.length b.body) with
 | true=>
  rw[ho] at h;cases h;rw[DF.1 hd];refine⟨hwi,λi hi=>?_,?_⟩
  .simp only[B7,CI,Ce] at hi
   by_cases h:i<b.bounds.length
   all_goals grind
  .show wz M (om ρ) (Mm b.bounds.length b.body)<=S
   rw[LF,LU _ _ _ _ hb.wb];exact A6 (Mx M (λi=>AEy ρ hw _ i) _) hb.NR
 | false=>
  rw[ho] at h;simp only[AE] at h
  have h0:ZH M (rm ρ w) S ⟨b.bounds,LC b.bounds.length hole (Mm b.bounds.length b.body)⟩:=by
   refine⟨?_,λi hi=>?_,?_⟩
   .show wB (LC _ _ _)=true
    simp[*,J6,KB]
   .show oI _ (LC _ _ _)=true
    rw[J6];refine UJ ?_ (NU _ hwi) (inv1 i hi)
    grind
   .show wz M (rm ρ w) (LC _ _ _)<=S
    rw[J6,LU _ _ _ _ hwi,LF,LU _ _ _ _ hb.wb];refine A6 (UI M _ λi hi=>?_) hb.NR
    have hnh:i≠hole:=λhe=>by
     have:=MZ.1 hG.nh
     grind
    have hin:=lO.1 (SA _ hG.ok i hi);have hlt:i<b.bounds.length:=by omega
    have key:=AEy ρ hw b.bounds.length i
    by_cases h1:i=-1
    .simp[*,rm,om]
    grind[rm]
  have fin:∀d,ZH M (rm ρ w) S d->ZH M (om ρ) S d:=λd h=>⟨h.wb,h.inv,A6 (Mx M (λi=>by grind[rm,om]) _) h.NR⟩
  cases hk:H8 (LC b.bounds.length hole (Mm b.bounds.length b.body)) with
  | none=>
   grind
  | some k=>
   rw[hk] at h;cases hb':YM with
   | none=>grind
   | some l=>
    rw[hb'] at h;simp only at h;have Ba:(Al (LC b.bounds.length hole (Mm b.bounds.length b.body))).length=(Al b.body).length:=by simp[*,J6,EJ,LF]
    have U7:(Al (LC b.bounds.length hole (Mm b.bounds.length b.body))).count hole<=(Al b.body).length:=by grind
    refine fin _ (nA (T:=T) (λc hc=>hl l hb' c hc) hT _ ⟨b.bounds,LC b.bounds.length hole (Mm b.bounds.length b.body)⟩ r h0 r1 ?_ h d hd);have m1:(Al (LC b.bounds.length hole (Mm b.bounds.length b.body))).count hole*wv<=(Al b.body).length*wv:=CJ _ U7
    grind
end
theorem ZH.le {M:Ms} {ω:Int->Nat} {S V:Nat} {b:Br} (h:ZH M ω S b) (hl:S<=V):ZH M ω V b:=⟨h.wb,h.inv,A6 h.NR hl⟩
def AC2 (M:Ms) (ρ:List Nat) (b:Br) (m:Nat) (Ss:List Nat):Prop:=∃args,b.body=.mk 3 [] 0 args/\args.length=m/\Kn args=true/\CG (·<=·) (VM M (om ρ) args) Ss/\∀i:Nat,i<b.bounds.length->oI (·==(i:Int)) b.body=true
section
variable {Au:Nat->Bool} {M:Ms}
theorem AKx {ρ:List Nat} {b c:Br} {m w:Nat} {Ss:List Nat} (hb:AC2 M ρ b m Ss) (hc:ZH M (om ρ) w c) (hs:((b.bounds.length+c.bounds.length:Nat):Int)<hole):AC2 M ρ ⟨b.bounds++c.bounds,match b.body with
  | .mk _ _ _ args=>.mk 3 [] 0 (args++[Je b.bounds.length c.body])⟩ (m+1) (Ss++[w]):=by
 obtain⟨args,he,hl,hw,ha,hi⟩:=hb;rw[he];have hsw:wB (Je b.bounds.length c.body)=true:=by rw[Nv]; exact KB _ _ hc.wb
 refine⟨args++[Je b.bounds.length c.body],rfl,by grind,?_,?_,λi h=>?_⟩
 .grind[mh,Kn]
 .rw[mZ]
  refine CG.append ha ⟨?_,AZ⟩;rw[Nv,LU _ _ _ _ hc.wb];refine A6 (Mx M (λi=>?_) _) hc.NR
  grind[om]
 .have h:i<b.bounds.length+c.bounds.length:=by grind
  show oI _ (.mk 3 [] 0 (args++[Je b.bounds.length c.body]))=true
  rw[oI];simp only[show((3:Int)==2)=false from rfl,AE,CN,CU,mq,KV,Bool.or_false,DX]
  by_cases hlt:i<b.bounds.length
  .grind[oI]
  .refine .inr ?_
   rw[Nv];refine UJ (i:=((i-b.bounds.length:Nat):Int)) ?_ (NU _ hc.wb) (hc.inv _ (by omega))
   grind
theorem xT {T:Nat} (hT:(T:Int)<hole) {ρ:List Nat}:∀{ls:List (List Br)} {ws vs Ss:List Nat} {out r:List Br} {N m:Nat},(CG (λl w=>∀c∈l,ZH M (om ρ) w c) ls ws)->(CG (λl w=>∀c∈l,c.bounds.length<=w) ls vs) ->
  (∀b∈out,AC2 M ρ b m Ss/\b.bounds.length<=N)->N+vs.sum<=T->Ln Au ls out=some r->∀d∈r,AC2 M ρ d (m+ls.length) (Ss++ws)
 | [],[],[],Ss,out,r,N,m,_,_,ho,_,h,d,hd=>by grind[Ln]
 | [],_::_,_,_,_,_,_,_,h,_,_,_,_,_,_=>h.elim
 | [],[],_::_,_,_,_,_,_,_,h,_,_,_,_,_=>h.elim
 | _::_,[],_,_,_,_,_,_,h,_,_,_,_,_,_=>h.elim
 | _::_,_::_,[],_,_,_,_,_,_,h,_,_,_,_,_=>h.elim
 | l::ls,w::ws,v::vs,Ss,out,r,N,m,⟨hw,hws⟩,⟨hv,hvs⟩,ho,hN,h,d,hd=>by
  rw[Ln] at h;rw[Ma] at hN;cases hb:Au (NJ out l).length with
  | true=>grind
  | false=>
   rw[hb] at h;have:=xT hT (N:=N+v) (m:=m+1) (Ss:=Ss++[w]) hws hvs (λb hb=>?_) (by omega) h d hd
   .grind
   .obtain⟨a,ha,hb⟩:=OE.1 hb
    obtain⟨c,hc,rfl⟩:=Cp.1 hb;obtain⟨h1,h2⟩:=ho a ha;have h3:=hv c hc;refine⟨AKx h1 (hw c hc) (by omega),?_⟩
    grind
theorem AEz:∀(f:Nat) (t:Ty) (l:List Br) (ρ:List Nat),(∀x∈ρ,1<=x)->valid t=true->Cc (bw t)->HQ Au f t=some l->∀b∈l,ZH M (om ρ) (sz M t ρ) b:=by
 intro f
 induction f with
 | zero=>
  grind[HQ]
 | succ f ih=>
  intro t l ρ hρ hv hs h d hd;obtain⟨k,n,i,ts⟩:=t;have Lj:=hv;simp only[valid,AD] at hv;rw[HQ] at h;have ot:∀(hk:(k==6)=false) (hk2:(k==3||k==4)=true),∀t0∈ts,Cc (bw t0):=by grind[DJ,bw,Gg,Eb]
  rcases Jr hv.1 with ⟨rfl,rfl,rfl,rfl⟩|⟨rfl,rfl,rfl,rfl⟩|rfl|⟨rfl,rfl,rfl⟩|⟨rfl,rfl,rfl,hne⟩|⟨rfl,rfl,rfl,h0⟩|⟨rfl,rfl,rfl,b,body,rfl,hcb⟩
  .cases h
   rw[DF.1 hd];exact⟨rfl,λi hi=>by grind,AN _⟩
  .grind
  .cases h
   rw[DF.1 hd];obtain⟨r1,r2⟩:=AEv hv.1;have hw2:wB (.mk 2 n i ts)=true:=by grind[wB,Qa]
   refine⟨?_,λi hi=>by grind,?_⟩
   .simp_all[LG,KB]
   .show wz M (om ρ) (mkV _)<=_
    rw[LG,LU _ _ _ _ hw2];exact AN _
  .simp only[show((3:Int)==0)=false from rfl,show((3:Int)==2||(3:Int)==5)=false from rfl,AE,CN,AH] at h
   cases vr:IU (ts.map (HQ Au f)) with
   | none=>grind
   | some ls=>
    rw[vr] at h;simp only at h;have ha:=JO vr;cases he:ls.any List.isEmpty with
    | true=>
     grind
    | false=>
     rw[he] at h;have oU:=ot rfl rfl;have q1:CG (λl w=>∀c∈l,ZH M (om ρ) w c) ls (ts.map λt=>sz M t ρ):=ha.JP λt l hm hg c hc=>ih t l ρ hρ (Bs hv.2 hm) (oU t hm) hg c hc
     have q2:CG (λl w=>∀c∈l,c.bounds.length<=w) ls (ts.map bw):=ha.JP λt l _ hg c hc=>(DS f t l hg c hc).1
     obtain⟨args,a1,a2,a3,a4,a5⟩:=xT (T:=bw (.mk 3 [] 0 ts)) hs (N:=0) (m:=0) (Ss:=[]) q1 q2 (λb hb=>by
      rw[DF.1 hb];exact⟨⟨[],rfl,rfl,rfl,AZ,λi hi=>by grind⟩,by simp⟩) (by grind[bw,Gg]) h d hd
     have hlen:ls.length=ts.length:=ha.length.symm;have hroot:=hv.1;have h6:ts.length<=6:=by grind[root,shape]
     refine⟨?_,a5,?_⟩
     .grind[wB]
     .rw[a1,wz,sz,PL]
      exact M.mono _ _ a4
  .simp only[show((4:Int)==0)=false from rfl,show((4:Int)==2||(4:Int)==5)=false from rfl,show((4:Int)==3)=false from rfl,AE,CN,AH] at h
   cases vr:IU (ts.map (HQ Au f)) with
   | none=>grind
   | some ls=>
    rw[vr] at h;simp only at h;have ha:=JO vr;cases hb:Au ls.flatten.length with
    | true=>grind
    | false=>
     rw[hb] at h;cases h;obtain⟨l',h1,h2⟩:=XS.1 hd;obtain⟨t,h3,h4⟩:=ha.Mp l' h1;refine(ih t l' ρ hρ (Bs hv.2 h3) (ot rfl rfl t h3) h4 d h2).le ?_;simp[*,sz,PL,AEx,Fx]
  .cases h
   rw[DF.1 hd];refine⟨rfl,λi hi=>by grind,?_⟩
   show om ρ (-1-i)<=ρ.getD i.toNat 1
   grind[om]
  .simp only[show((6:Int)==0)=false from rfl,show((6:Int)==2||(6:Int)==5)=false from rfl,show((6:Int)==3)=false from rfl,show((6:Int)==4)=false from rfl,AE,CN,AH,eE] at h
   simp only[Ar,AD] at hv;obtain⟨_,J9,Lp,_⟩:=hv;have hbw:bw (.mk 6 [] 0 [b,body])=bw body+1+(cv body+1)*bw b:=rfl;have hsb:Cc (bw b):=DJ hs (by grind);have hsy:Cc (bw body):=DJ hs (by omega);cases hb:HQ Au f body with
   | none=>grind
   | some l0=>
    rw[hb] at h;simp only at h;rcases JN h d hd with h' | ⟨a,h1,s,h2,h3⟩
    .grind
    .obtain⟨z1,z2⟩:=DS f body l0 hb a h1
     have e:sz M (.mk 6 [] 0 [b,body]) ρ=sz M body (max 1 (sz M b [])::ρ):=rfl;rw[e];have hw1:1<=max 1 (sz M b []):=Nat.le_max_left _ _
     have hbρ:sz M b ρ=sz M b []:=by
      have:=ZF M b [] ρ [] J9 hcb
      grind
     refine xS (T:=bw (.mk 6 [] 0 [b,body])) (wv:=bw b) hw1 (ih body l0 _ (λx hx=>by grind) Lp hsy hb a h1) (lS f body l0 Lp hsy hb a h1) (λl hl c hc=>⟨(ih b l ρ hρ J9 hsb hl c hc).le (by omega),lS f b l J9 hsb hl c hc,(DS f b l hl c hc).1⟩) hs ?_ h2 d h3;have m1:(Al a.body).length*bw b<=cv body*bw b:=CJ _ z2
     grind
end
end Go.Proofs.YtpgfpakdnijngaaGreatDoor
